/- The abstract layer, part R: texts of bytes, rows of bytes from texts, variables of the package, errors against nil. -/
import Derived.Test.YthmbbdemecljpaaDoorK11AmO
import Derived.Lib.AppendStr
import Derived.Room.AppendFits
import Derived.Laws.BytesString
import Derived.Below
namespace Go.AM
open Go.RowKit
section
variable {U : Univ} {O : Out} {P : Program} {S : Nat → Prop} {ι : Lay} {w : World} {rs : List (Nat × AVal U)} {a : Act} {ops : Array Oper} {o : Oper}

/-- A text's bytes as numbers. -/
def numsOf (s : List UInt8) : List Int := s.map fun b => (b.toNat : Int)
/-- Numbers as a text's bytes. -/
def txtOf (l : List Int) : List UInt8 := l.map fun n => UInt8.ofNat n.toNat

theorem Rd.int_iff {k : IntKind} {n : Int} {cs : List Value} : Rd U O S w (.int k) n cs ↔ cs = [.int k n] := by
  constructor
  · intro h; cases h; rfl
  · rintro rfl; exact .int k n

theorem VV.err_iff {x : Nat} {u : Value} : VV U O S ι w (.p .err x) u ↔ (x = 0 ∧ u = .nilIface) ∨ ∃ k, x = k + 1 ∧ u = O.ev k := by
  simp only [VV]
  constructor
  · rintro ⟨cs, h, rfl⟩
    cases h with
    | err0 => exact .inl ⟨rfl, rfl⟩
    | err k => exact .inr ⟨k, rfl, rfl⟩
  · rintro (⟨rfl, rfl⟩ | ⟨k, rfl, rfl⟩)
    · exact ⟨_, .err0, rfl⟩
    · exact ⟨_, .err k, rfl⟩

theorem rowCells_bytes (s : ByteArray) : rowCells s.data.toList.length (fun i => [Value.int .u8 ((numsOf s.data.toList).getD i 0)]) = Lib.strCells s := by
  apply List.ext_getElem?
  intro k
  have hl : (rowCells s.data.toList.length (fun i => [Value.int .u8 ((numsOf s.data.toList).getD i 0)])).length = s.data.toList.length * 1 := flatMap_range_length _ _ _ fun i _ => rfl
  by_cases hk : k < s.data.toList.length
  · have h1 := rowCells_get (n := s.data.toList.length) (k := 1) (cs := fun i => [Value.int .u8 ((numsOf s.data.toList).getD i 0)]) (i := k) (j := 0) (fun i _ => rfl) hk (by omega)
    rw [Nat.mul_one, Nat.add_zero] at h1
    rw [h1]
    unfold Lib.strCells numsOf
    simp only [List.getElem?_map, List.getElem?_eq_getElem hk, List.getD_eq_getElem?_getD, Option.map_some, Option.getD_some, List.getElem?_cons_zero]
  · rw [List.getElem?_eq_none (by omega), List.getElem?_eq_none (by unfold Lib.strCells; rw [List.length_map]; omega)]

theorem z8_mk {E : TypeId} (h : (P.info? E).bind (·.zero) = some (.int .u8 0)) : ∃ i, P.info? E = some i ∧ i.zero = some (.int .u8 0) := by
  cases hi : P.info? E with
  | none => rw [hi] at h; cases h
  | some i => rw [hi] at h; exact ⟨i, rfl, h⟩

/-- Lengthened by a text, with where the new row lies. -/
theorem run_appendS_place {T T2 ty E : TypeId} (hT : RowOk P U T E (.int .u8) 1) (hz : ∃ i, P.info? E = some i ∧ i.zero = some (.int .u8 0)) (h2 : P.underlying T2 = some .string) {v : Value} {n : Nat} {xs : List Value} (hown : w.ownsRow 0 E 1 v n xs)
    (s : ByteArray) (h63 : n + s.size ≤ maxLen) (hbytes : n + s.size ≤ 140737488355328) :
    ∃ v' w', (Builtin.append_ #[T, T2] ty #[v, .string s]).run P w = .ok v' w' ∧ w'.ownsRow 0 E 1 v' (n + s.size) (xs ++ Lib.strCells s) ∧ w.grownBy w' v.ownBlock ∧
      ∀ b, v'.ownBlock = some b → w.heap.size ≤ b ∨ v.ownBlock = some b := by
  obtain ⟨i, z, hi, hzz, hs, hby, hzs⟩ := hT.info
  obtain ⟨i', hi', hz0⟩ := hz
  obtain rfl : i' = i := by rw [hi] at hi'; exact (Option.some.inj hi').symm
  obtain ⟨v', w', hr, ho, hg, hnil⟩ := Lib.run_append_own_string (P := P) w 0 T T2 ty E i' hT.sl.under h2 hi hz0 hs hby v n xs hown s h63 hbytes (Nat.zero_le _)
  refine ⟨v', w', hr, ho, hg, ?_⟩
  rcases hown.2 with ⟨rfl, rfl⟩ | ⟨g, cap, cur, rfl, _, h3, h4, h5, h6, h7⟩
  · by_cases hm : s.size = 0
    · rw [hnil.2 ⟨rfl, hm⟩]; intro b hb; cases hb
    · have h2' := run_append_nil_string (P := P) w T T2 ty E i' _ hT.sl.under h2 hi hz0 s (by omega) (by unfold maxLen at h63; omega) (by rw [hby]; omega)
      obtain ⟨rfl, _⟩ := ok_inj (hr.symm.trans h2')
      intro b hb
      simp [Value.ownBlock] at hb
      exact .inl (by omega)
  · have hxl : xs.length = n := by simpa using hown.1
    by_cases hroom : n + s.size ≤ cap
    · have hcs' : cur.size = cap := by simpa using h6
      have h2' := Lib.run_append_room_string (P := P) w T T2 ty E i' hT.sl.under h2 hi hs g n cap cur h3 s hroom (by omega)
      obtain ⟨rfl, _⟩ := ok_inj (hr.symm.trans h2')
      exact fun b hb => .inr hb
    · have holds : ∀ j u, xs[j]? = some u → w.cell? ((⟨g, 0, none⟩ : Addr).add j) = some u := hown.cells (g := g) rfl
      have h2' := Lib.run_append_grow_string (P := P) w T T2 ty E i' _ hT.sl.under h2 hi hz0 ⟨g, 0, none⟩ n cap xs (by rw [hs]; simpa [Ty.width] using hxl) holds s (by omega) (by unfold maxLen at h63; omega)
        (by rw [hby]; exact growslice_fits (by omega) (by omega))
      obtain ⟨rfl, _⟩ := ok_inj (hr.symm.trans h2')
      intro b hb
      simp [Value.ownBlock] at hb
      exact .inl (by omega)

theorem ints_length (s : List UInt8) : (numsOf s).length = s.length := by simp [numsOf]

/-- A row of bytes is lengthened by a text. -/
theorem sok_appendS {T T2 E : TypeId} {n d : Nat} {xs : List Int} {s : List UInt8} {fx : Bool} {x y : Operand} (hg : o.guard = none) (_ : o.dst = some d)
    (ho : o.op = .call { callee := .builtin .append, args := #[x, y], argTypes := #[T, T2] }) (hT : RowOk P U T E (.int .u8) 1) (hz : ∃ i, P.info? E = some i ∧ i.zero = some (.int .u8 0)) (h2 : P.underlying T2 = some .string)
    (hx : Opd U rs x (.vec n 1 0 xs.length)) (hy : Opd U rs y (.p .str s)) (hlim : xs.length + s.length ≤ LIM) :
    SOk U O P ops o { rs := rs, cb := [(n, .row E (.int .u8) xs fx)], ws := .vec d 1 0 (xs ++ numsOf s).length, pb := [(d, .row E (.int .u8) (xs ++ numsOf s) false)], nn := [d] } := by
  intro S ι w a hlt hgl hrs hro hcb hown K Q hK
  have hB := hcb _ List.mem_cons_self
  obtain ⟨cs, hel, hrow, hplace⟩ := own_of (t := .int .u8) rfl hB (hx.ev hrs) rfl rfl
  obtain ⟨b, hb, rfl⟩ := VV.str_iff.1 (hy.ev hrs)
  have hbs : b.data.toList.length = b.size := by rw [Array.length_toList]; rfl
  have exl : @List.length ((Ty.int .u8).den U.T) xs = @List.length Int xs := rfl
  rw [hbs] at hlim
  obtain ⟨v', w', hr, ho', hg', hp⟩ := run_appendS_place (ty := o.type) hT hz h2 hrow b (by unfold LIM at hlim; unfold maxLen; omega) (by unfold LIM at hlim; omega)
  have hzl : (xs ++ numsOf b.data.toList).length = xs.length + b.size := by simp [ints_length, hbs]
  have hels : ∀ (i : Nat) (h : i < (xs ++ numsOf b.data.toList).length), Rd U O S w (.int .u8) (xs ++ numsOf b.data.toList)[i] (if i < xs.length then cs i else [Value.int .u8 ((numsOf b.data.toList).getD (i - xs.length) 0)]) := fun i hi => by
    by_cases h : i < xs.length
    · rw [if_pos h, List.getElem_append_left h]; exact hel i h
    · rw [if_neg h, List.getElem_append_right (by omega)]
      have hlt' : i - xs.length < (numsOf b.data.toList).length := by simp [ints_length] at hi ⊢; omega
      rw [List.getD_eq_getElem?_getD, List.getElem?_eq_getElem hlt']
      exact Rd.int_iff.2 rfl
  have hcells : rowCells xs.length cs ++ Lib.strCells b = rowCells (xs ++ numsOf b.data.toList).length fun i => if i < xs.length then cs i else [Value.int .u8 ((numsOf b.data.toList).getD (i - xs.length) 0)] := by
    rw [← rowCells_bytes, rowCells_append, hzl, hbs]
  have ho' : w'.ownsRow 0 E 1 v' (xs ++ numsOf b.data.toList).length (rowCells (xs ++ numsOf b.data.toList).length fun i => if i < xs.length then cs i else [Value.int .u8 ((numsOf b.data.toList).getD (i - xs.length) 0)]) := by
    rw [← hcells, hzl]; exact ho'
  obtain ⟨ι', hN, hV⟩ := nx_append (t := .int .u8) (zs := xs ++ numsOf b.data.toList) (s := { rs := rs, cb := [(n, .row E (.int .u8) xs fx)], ws := .vec d 1 0 (xs ++ numsOf b.data.toList).length, pb := [(d, .row E (.int .u8) (xs ++ numsOf b.data.toList) false)], nn := [d] })
    (ι := ι) rfl rfl hlt hg' (fun b hb => by
      obtain ⟨c, hc⟩ := hplace b hb
      have := hown.out n (by simp) b c hc
      exact ⟨this.1, this.2, n, by simp, c, hc⟩) hels ho' hp
  refine opWp_plain hg ?_
  unfold Oper.wp
  rw [exec_append ho, hb, run_vOf hr]
  exact hK v' S ι' w' hN hV

theorem sok_appendNS {T T2 E : TypeId} {d : Nat} {s : List UInt8} {x y : Operand} (hg : o.guard = none) (_ : o.dst = some d)
    (ho : o.op = .call { callee := .builtin .append, args := #[x, y], argTypes := #[T, T2] }) (hT : RowOk P U T E (.int .u8) 1) (hz : ∃ i, P.info? E = some i ∧ i.zero = some (.int .u8 0)) (h2 : P.underlying T2 = some .string)
    (hx : Opd U rs x (.lit (.slice none 0 0))) (hy : Opd U rs y (.p .str s)) (hlim : s.length ≤ LIM) :
    SOk U O P ops o { rs := rs, ws := .vec d 1 0 (numsOf s).length, pb := [(d, .row E (.int .u8) (numsOf s) false)], nn := [d] } := by
  intro S ι w a hlt hgl hrs hro hcb hown K Q hK
  have hx0 : a.eval x = .slice none 0 0 := (hx.ev hrs).1
  obtain ⟨b, hb, rfl⟩ := VV.str_iff.1 (hy.ev hrs)
  have hbs : b.data.toList.length = b.size := by rw [Array.length_toList]; rfl
  rw [hbs] at hlim
  obtain ⟨v', w', hr, ho', hg', hp⟩ := run_appendS_place (ty := o.type) hT hz h2 (World.ownsRow_nil w 0 E 1) b (by unfold LIM at hlim; unfold maxLen; omega) (by unfold LIM at hlim; omega)
  have hzl : (numsOf b.data.toList).length = 0 + b.size := by simp [ints_length, hbs]
  have hels : ∀ (i : Nat) (h : i < (numsOf b.data.toList).length), Rd U O S w (.int .u8) (numsOf b.data.toList)[i] [Value.int .u8 ((numsOf b.data.toList).getD i 0)] := fun i hi => by
    rw [List.getD_eq_getElem?_getD, List.getElem?_eq_getElem hi]
    exact Rd.int_iff.2 rfl
  have hcells : [] ++ Lib.strCells b = rowCells (numsOf b.data.toList).length fun i => [Value.int .u8 ((numsOf b.data.toList).getD i 0)] := by
    rw [← rowCells_bytes, List.nil_append, ints_length]
  rw [hcells, ← hzl] at ho'
  obtain ⟨ι', hN, hV⟩ := nx_append (t := .int .u8) (zs := numsOf b.data.toList) (s := { rs := rs, ws := .vec d 1 0 (numsOf b.data.toList).length, pb := [(d, .row E (.int .u8) (numsOf b.data.toList) false)], nn := [d] })
    (ι := ι) rfl rfl hlt hg' (fun b hb => by cases hb) hels ho' hp
  refine opWp_plain hg ?_
  unfold Oper.wp
  rw [exec_append ho, hb, hx0, run_vOf hr]
  exact hK v' S ι' w' hN hV

theorem foldl_push (l : List Int) : ∀ r : ByteArray, (l.foldl (fun r n => r.push (UInt8.ofNat n.toNat)) r).data.toList = r.data.toList ++ txtOf l := by
  induction l with
  | nil => intro r; simp [txtOf]
  | cons x l ih => intro r; rw [List.foldl_cons, ih]; simp [txtOf, ByteArray.push]

/-- The text of a row of bytes. -/
theorem sok_strOf {t1 t2 E : TypeId} {n : Nat} {xs : List Int} {fx : Bool} {x : Operand} (hg : o.guard = none) (ho : o.op = .convert t1 t2 x) (h1 : P.underlying t1 = some (.slice E)) (he : P.underlying E = some (.int .u8)) (h2 : P.underlying t2 = some .string)
    (hx : Opd U rs x (.vec n 1 0 xs.length)) : SOk U O P ops o { rs := rs, ro := [(n, .row E (.int .u8) xs fx)], ws := .p .str (txtOf xs) } :=
  sok_v hg _ (fun _ => exec_convert ho) fun S ι w a hrs hro => by
    obtain ⟨cs, hel, hrow, _⟩ := own_of (t := .int .u8) rfl (hro _ List.mem_cons_self) (hx.ev hrs) rfl rfl
    generalize a.eval x = u at hrow
    have hcs : rowCells xs.length cs = xs.map (Value.int .u8) := by
      apply List.ext_getElem?
      intro k
      by_cases hk : k < xs.length
      · have h3 := rowCells_get (n := xs.length) (k := 1) (cs := cs) (i := k) (j := 0) (fun i hi => (hel i hi).length) hk (by omega)
        rw [Nat.mul_one, Nat.add_zero] at h3
        rw [h3, Rd.int_iff.1 (hel k hk)]
        rw [List.getElem?_map, List.getElem?_eq_getElem hk]; rfl
      · have hl : (rowCells xs.length cs).length = xs.length * 1 := flatMap_range_length _ _ _ fun i hi => (hel i hi).length
        rw [List.getElem?_eq_none (by omega), List.getElem?_eq_none (by simp; omega)]
    rcases hrow.2 with ⟨rfl, h0⟩ | ⟨g, cap, cur, rfl, _, h3, h4, h5, h6, h7⟩
    · have hn : xs = [] := List.eq_nil_of_length_eq_zero h0
      subst hn
      refine ⟨.string .empty, ?_, VV.str_iff.2 ⟨_, rfl, rfl⟩⟩
      simp only [Go.convert, Sem.run_bind, run_underlying h1, run_underlying h2, run_underlying he, Result.andThen_ok, Conv.bytesToString, Sem.run_pure]
    · have hcells : ∀ j v, (xs.map (Value.int .u8))[j]? = some v → w.cell? ((⟨g, 0, none⟩ : Addr).add j) = some v := by
        rw [← hcs]; exact hrow.cells (g := g) rfl
      have hload := run_loadCells_list (P := P) (w := w) ⟨g, 0, none⟩ (xs.map (Value.int .u8)) hcells
      rw [List.length_map] at hload
      refine ⟨_, ?_, VV.str_iff.2 ⟨xs.foldl (fun r n => r.push (UInt8.ofNat n.toNat)) ByteArray.empty, rfl, by rw [foldl_push]; rfl⟩⟩
      simp only [Go.convert, Sem.run_bind, run_underlying h1, run_underlying h2, run_underlying he, Result.andThen_ok]
      exact run_bytesToString w _ _ _ xs hload

/-- A variable of the package that holds a datum of one cell. -/
theorem sok_loadG {T : TypeId} {t : Ty} {x : t.den U.T} {g : Nat} {v : Value} (hg : o.guard = none) (ho : o.op = .load T (.global g)) (ht : TyOk P U T t) (h1 : t.isAgg = false) (hw : t.width U.wd = 1)
    (hgl : O.gl g = some v) (hv : ∀ S w, Rd U O S w t x [v]) : SOk U O P ops o { rs := rs, ws := .p t x } := by
  intro S ι w a hlt hglob hrs hro hcb hown K Q hK
  obtain ⟨hS, hc⟩ := hglob.1 g v hgl
  refine opWp_plain hg ?_
  unfold Oper.wp
  have hload := run_loadAt (P := P) (w := w) ht (bl := g) (of := 0) (cs := [v]) (by rw [hw]; rfl) (fun j hj => by
    have : j = 0 := by omega
    subst this; simpa using hc)
  have e : a.eval (.global g) = .pointer (some ⟨g, 0, none⟩) := rfl
  rw [exec_load ho, e, run_vOf hload]
  exact hK _ S ι w (Nx.refl _ rfl rfl hlt) ⟨[v], hv S w, by rw [h1]⟩

def errIs (op : BinOp) (x : Nat) : Option Bool := match op with | .eql => some (x == 0) | .neq => some (!(x == 0)) | _ => none

def isNil : Value → Bool | .nilIface => true | _ => false

theorem run_equal_nil {t : TypeId} {ms : Array (String × TypeId)} (ht : P.underlying t = some (.interface ms)) (b : Value) (hb : b = .nilIface ∨ ∃ T v, b = .iface T v) (w : World) :
    (Op.equal t b .nilIface).run P w = .ok (isNil b) w := by
  show (Op.equalIn (9999 + 1) t b .nilIface).run P w = _
  unfold Op.equalIn
  rw [Sem.run_bind, run_underlying ht]
  rcases hb with rfl | ⟨T, v, rfl⟩
  · simp [Sem.run_pure, Result.andThen_ok, isNil]
  · simp [Sem.run_pure, Result.andThen_ok, isNil]

/-- An error against the nil written out. -/
theorem sok_errNil {op : BinOp} {t t' : TypeId} {x : Operand} {k : Nat} {r : Bool} {ms : Array (String × TypeId)} (hg : o.guard = none) (ho : o.op = .binOp op t x (.const .nilIface) t') (ht : P.underlying t = some (.interface ms))
    (hx : Opd U rs x (.p .err k)) (hr : errIs op k = some r) : SOk U O P ops o { rs := rs, ws := .p .bool r } :=
  sok_v hg _ (fun _ => exec_bin ho) fun S ι w a hrs _ => ⟨.bool r, by
    have hb : (a.eval x = .nilIface ∧ k = 0) ∨ ((∃ T v, a.eval x = .iface T v) ∧ k ≠ 0) := by
      rcases VV.err_iff.1 (hx.ev hrs) with ⟨rfl, h⟩ | ⟨j, rfl, h⟩
      · exact .inl ⟨h, rfl⟩
      · obtain ⟨T, v, hv⟩ := O.ev_if j; exact .inr ⟨⟨T, v, h.trans hv⟩, by omega⟩
    have hc : a.eval (.const .nilIface) = .nilIface := rfl
    rw [hc]
    have hgd : (eqGuard op t x (.const .nilIface) (a.eval x) .nilIface).run P w = .ok () w := by
      unfold eqGuard
      rcases hb with ⟨h, _⟩ | ⟨⟨T, v, h⟩, _⟩ <;> rw [h] <;> cases op <;> simp [Sem.run_pure]
    have heq := run_equal_nil (P := P) ht (a.eval x) (hb.imp (fun h => h.1) fun h => h.1) w
    simp only [Sem.run_bind, hgd, Result.andThen_ok]
    rcases hb with ⟨h, rfl⟩ | ⟨⟨T, v, h⟩, hk⟩
    · rw [h] at heq ⊢
      cases op <;> simp only [errIs, Option.some.injEq, reduceCtorEq] at hr <;> subst hr <;> simp only [binOp, Sem.run_bind, heq, isNil, Result.andThen_ok, Sem.run_pure] <;> rfl
    · rw [h] at heq ⊢
      have : (k == 0) = false := by simpa using hk
      cases op <;> simp only [errIs, Option.some.injEq, reduceCtorEq] at hr <;> subst hr <;> simp only [binOp, Sem.run_bind, heq, Result.andThen_ok, Sem.run_pure, isNil, this] <;> rfl, VV.bool_iff.2 rfl⟩

theorem Conv.nilE {st : St U} (t : Nat) (hin : (t, AVal.lit .nilIface) ∈ st.sl) : Conv U O st ⟨setA st.sl t (.p .err (0 : Nat)), st.hp⟩ := by
  intro B S ι a w hR
  refine ⟨S, ι, { hR with sl := fun x hx => ?_ }⟩
  rcases mem_setA hx with rfl | ⟨h1, _⟩
  · exact VV.err_iff.2 (.inl ⟨rfl, (hR.sl _ hin).1⟩)
  · exact hR.sl x h1

/-- A world that is as it was below the heap's old end. -/
theorem Nx.ofBelow {s : LSpec U} {w w' : World} (h : Below w.heap.size w w') (_ : s.cb = []) (hpb : s.pb = []) (hlt : ∀ b, S b → b < w.heap.size) : Nx U O s S ι w S ι w' :=
  ⟨h.os, h.tape, h.output, h.size, fun _ h => h, fun _ h => .inl h, fun b hb => Nat.lt_of_lt_of_le (hlt b hb) h.size, fun b hb _ => h.block b hb, fun _ _ => rfl, by simp [hpb], by simp [hpb], by simp [hpb]⟩
end
end Go.AM
