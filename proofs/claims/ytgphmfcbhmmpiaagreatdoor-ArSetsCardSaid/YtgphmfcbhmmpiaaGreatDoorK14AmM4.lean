/- A part of my own abstract layer. -/
import Derived.Test.YtgphmfcbhmmpiaaGreatDoorK14AmZ
import Derived.Maps.Own
import Derived.Maps.Views
import Derived.Sort.KeysCollected
import Derived.Sort.Grow
import Derived.Sort.EncStr
import Derived.Lib.SlicesCompact
import Derived.Test.YtgphmfcbhmmpiaaGreatDoorK14AmA
import Derived.Scope
namespace Go.AM
set_option linter.unusedVariables false
open Go.WideElems (Fit rd rg)

section
variable {U : Univ} {O : Out} {P : Program} {S S' : Nat → Prop} {ι ι' : Lay} {w w' : World} {t : Ty}

/-- Blocks beside those that a step turns. -/
theorem Nx.frame {s : LSpec U} (h : Nx U O s S ι w S' ι' w') (h1 : s.cb = []) (bs : List (Nat × Blk U)) (hnn : ∀ n ∈ s.nn, n ∉ nm bs ∧ ∀ x ∈ bs, n ∉ Blk.names U x.2) (hbs : ∀ x ∈ bs, BR U O S ι w x.1 x.2)
    (hown : Own S ι w (nm bs)) (hlt : ∀ b, S b → b < w.heap.size) : Nx U O { s with cb := bs, pb := s.pb ++ bs } S ι w S' ι' w' := by
  have hkeep : ∀ b, b < w.heap.size → w'.heap[b]? = w.heap[b]? := fun b hb => h.keep b hb (by rw [h1]; simp)
  have hnew : ∀ b, S' b → S b ∨ w.heap.size ≤ b := fun b hb => by
    rcases h.new b hb with h | h | ⟨m, hm, _⟩
    · exact .inl h
    · exact .inr h
    · rw [h1] at hm; cases hm
  have hlay : ∀ n ∈ nm bs, ι' n = ι n := fun n hn => h.lay n fun hin => (hnn n hin).1 hn
  have hpb : ∀ n ∈ nm s.pb, ∀ b c, ι' n = some (b, c) → w.heap.size ≤ b := fun n hn b c hb => by
    rcases (h.plc n hn b c hb).2.2 with h | ⟨m, hm, _⟩
    · exact h
    · rw [h1] at hm; cases hm
  have split : ∀ n, n ∈ nm (s.pb ++ bs) → n ∈ nm s.pb ∨ n ∈ nm bs := fun n hn => by
    have : n ∈ List.map _ (_ ++ _) := hn
    rw [List.map_append] at this
    exact List.mem_append.1 this
  refine ⟨h.os, h.tape, h.output, h.size, h.sub, fun b hb => (hnew b hb).elim .inl fun h => .inr (.inl h), h.lt, fun b hb _ => hkeep b hb, h.lay, fun x hx => ?_, fun n hn b c hb => ?_, fun n hn m hm hne b c c' hb => ?_⟩
  · rcases List.mem_append.1 hx with hx | hx
    · exact h.blk x hx
    · have hxn : x.1 ∈ nm bs := List.mem_map.2 ⟨x, hx, rfl⟩
      exact BR.mono (fun b hb => hkeep b (hlt b hb)) h.sub (hlay _ hxn) (fun m hm => h.lay m fun hin => (hnn m hin).2 x hx hm) (fun b c hb => hkeep b (hown.out x.1 hxn b c hb).2) (hbs x hx)
  · rcases split n hn with hn | hn
    · have := h.plc n hn b c hb
      exact ⟨this.1, this.2.1, .inl (hpb n hn b c hb)⟩
    · rw [hlay n hn] at hb
      obtain ⟨o1, o2⟩ := hown.out n hn b c hb
      refine ⟨fun hS => ?_, Nat.lt_of_lt_of_le o2 h.size, .inr ⟨n, hn, c, hb⟩⟩
      rcases hnew b hS with h | h
      · exact o1 h
      · omega
  · rcases split n hn with hn | hn <;> rcases split m hm with hm | hm
    · exact h.sep n hn m hm hne b c c' hb
    · rw [hlay m hm]
      intro hb'
      have := (hown.out m hm b c' hb').2
      have := hpb n hn b c hb
      omega
    · rw [hlay n hn] at hb
      intro hb'
      have := (hown.out n hn b c hb).2
      have := hpb m hm b c' hb'
      omega
    · rw [hlay n hn] at hb
      rw [hlay m hm]
      exact hown.sep n hn m hm hne b c c' hb

/-- An owned map in the library's words: its keys. -/
def unitR : Value → Option (DataW Unit × List MemPlace) := fun _ => some (.lit (.bool true), [])
theorem ownsMap_of {K : TypeId} {n : Nat} {kvs : KV (t.den U.T)} (hk : P.underlying K = some .string) (h : BR U O S ι w n (.map t kvs)) (hsz : kvs.length ≤ maxLen) (hlen : ∀ y ∈ kvs, y.1.length ≤ maxLen) :
    ∃ b c D0, ι n = some (b, c) ∧ w.ownsMap P K unitR b kvs.length D0 ∧ (strKeys D0).Perm (kvs.map (·.1)) ∧ Maps.size D0 = kvs.length := by
  obtain ⟨b, c, es, clock, ys, h1, h2, h3, h4, h5, h6⟩ := h
  have hl : es.size = kvs.length := by rw [← h5.length_eq, ← h4.len, Array.length_toList]
  have hrd : ∀ (es : List MapEntry) (ys : KV (t.den U.T)), EntsR U O S w t es ys → (∀ y ∈ ys, y.1.length ≤ maxLen) → (∀ x ∈ es, ∃ y, rd P K unitR x = some y) ∧ (es.map (rg P K unitR)).map (fun p => strOf p.1) = ys.map (·.1) := by
    intro es
    induction es with
    | nil => intro ys h _; have h : ys = [] := h; subst h; exact ⟨(fun x hx => by cases hx), rfl⟩
    | cons e es ih =>
      rintro ys ⟨y, r, rfl, ⟨s, k1, k2⟩, _, k3⟩ hy
      have hs : s.size ≤ maxLen := by
        have := hy y List.mem_cons_self
        rw [← k2] at this
        simpa [Array.length_toList] using this
      have hkey : keyOf P K e.key = some (.string s.data.toList) := by rw [k1]; exact WideMaps.keyOf_string_mk hk hs
      have hr : rd P K unitR e = some (.string s.data.toList, .lit (.bool true)) := by simp [rd, hkey, unitR]
      obtain ⟨i1, i2⟩ := ih r k3 fun y h => hy y (List.mem_cons_of_mem _ h)
      refine ⟨fun x hx => ?_, ?_⟩
      · rcases List.mem_cons.1 hx with rfl | hx
        · exact ⟨_, hr⟩
        · exact i1 x hx
      · simp only [List.map_cons, i2]
        have : rg P K unitR e = (.string s.data.toList, .lit (.bool true)) := by simp [rg, hr]
        rw [this, ← k2]; rfl
  obtain ⟨r1, r2⟩ := hrd es.toList ys h4 fun y hy => hlen y (h5.subset hy)
  refine ⟨b, c, _, h1, ⟨es, clock, h2, ⟨by omega, h3, r1⟩, by omega, rfl⟩, ?_, ?_⟩
  · have : strKeys (.map ((es.toList.map (rg P K unitR)).foldr DataW.insert [])) = ((es.toList.map (rg P K unitR)).foldr DataW.insert []).map fun p => strOf p.1 := rfl
    rw [this]
    refine ((WideShapes.sorted_perm _).map _).trans ?_
    rw [r2]
    exact h5.map _
  · show ((es.toList.map (rg P K unitR)).foldr DataW.insert []).length = _
    rw [length_sorted]; simp [hl]
theorem sorted_keys {α : Type} {kvs : KV α} {ss : List (List UInt8)} (hr : Rising kvs) (hp : ss.Perm (kvs.map (·.1))) : ss.mergeSort (fun x y => decide (x ≤ y)) = kvs.map (·.1) := by
  rw [show ss.mergeSort (fun x y => decide (x ≤ y)) = ss.mergeSort leB from rfl, mergeSort_of_perm hp]
  refine List.mergeSort_of_pairwise ?_
  rw [List.pairwise_map]
  refine hr.imp fun h => ?_
  simp only [leB, decide_eq_true_eq]
  rw [bytesLess_eq, decide_eq_true_eq] at h
  exact List.le_of_lt h
theorem keyRow {α β : Type} (m : KV α) (i : Nat) (hi : i < (m.map (·.1)).length) {enc : List UInt8 → β} : ((m.map (·.1)).map enc)[i]? = some (enc ((m.map (·.1))[i])) := by
  have hi' : i < m.length := by simpa using hi
  simp [hi']

/-- The greater of two numbers. -/
theorem sok_max {ops : Array Oper} {o : Oper} {rs : List (Nat × AVal U)} {k : IntKind} {x y : Operand} {m n : Int} {T T' : TypeId} (hg : o.guard = none) (ho : o.op = .call { callee := .builtin .max, args := #[x, y], argTypes := #[T, T'] })
    (hx : Opd U rs x (.p (.int k) m)) (hy : Opd U rs y (.p (.int k) n)) : SOk U O P ops o { rs := rs, ws := .p (.int k) (if n > m then n else m) } :=
  sok_v hg (fun ρ => Builtin.max_ #[T, T'] o.type #[ρ x, ρ y]) (fun ρ => by rw [exec_builtin ho]; simp [builtin, vOf]) fun S ι w a hrs _ => ⟨.int k (if n > m then n else m), by
    rw [VV.int_iff.1 (hx.ev hrs), VV.int_iff.1 (hy.ev hrs)]
    simp [Builtin.max_, Builtin.max2], VV.int_iff.2 rfl⟩
theorem sok_min {ops : Array Oper} {o : Oper} {rs : List (Nat × AVal U)} {k : IntKind} {x y : Operand} {m n : Int} {T T' : TypeId} (hg : o.guard = none) (ho : o.op = .call { callee := .builtin .min, args := #[x, y], argTypes := #[T, T'] })
    (hx : Opd U rs x (.p (.int k) m)) (hy : Opd U rs y (.p (.int k) n)) : SOk U O P ops o { rs := rs, ws := .p (.int k) (if n < m then n else m) } :=
  sok_v hg (fun ρ => Builtin.min_ #[T, T'] o.type #[ρ x, ρ y]) (fun ρ => by rw [exec_builtin ho]; simp [builtin, vOf]) fun S ι w a hrs _ => ⟨.int k (if n < m then n else m), by
    rw [VV.int_iff.1 (hx.ev hrs), VV.int_iff.1 (hy.ev hrs)]
    simp [Builtin.min_, Builtin.min2], VV.int_iff.2 rfl⟩
end
end Go.AM
namespace Go.AM
open Go Go.RowKit
set_option linter.unusedVariables false

/-! ### structs with structs in them -/
def eqG (U : Univ) : (t : Ty) → t.den U.T → t.den U.T → Bool
  | .pair (.named n) b, x, y => eqB (U.body n) (U.out n x.1) (U.out n y.1) && eqG U b x.2 y.2
  | .pair a b, x, y => eqB a x.1 y.1 && eqG U b x.2 y.2
  | .unit, _, _ => true
  | _, _, _ => false

section
variable {U : Univ} {O : Out} {P : Program} {S : Nat → Prop} {ι : Lay} {w : World} {rs : List (Nat × AVal U)} {a : Act} {ops : Array Oper} {o : Oper}
inductive EqG (P : Program) (U : Univ) : List Field → Nat → Ty → Prop
  | nil {off : Nat} : EqG P U [] off .unit
  | cons {f : Field} {fs : List Field} {off : Nat} {a b : Ty} : f.name ≠ "_" → f.offset = off → TyOk P U f.type a → EqOne P f.type a → EqG P U fs (off + 1) b → EqG P U (f :: fs) off (.pair a b)
  | st {f : Field} {fs : List Field} {gs : Array Field} {off n k : Nat} {b : Ty} : f.name ≠ "_" → f.offset = off → TyOk P U f.type (.named n) → P.underlying f.type = some (.struct gs) → P.stoodInHeld f.type = false → EqF P U gs.toList 0 (U.body n) →
      (Ty.named n).width U.wd = k → EqG P U fs (off + k) b → EqG P U (f :: fs) off (.pair (.named n) b)

theorem EqG.run {fs : List Field} {off : Nat} {t : Ty} (h : EqG P U fs off t) (d : Nat) : ∀ {x y : t.den U.T} {c1 c2 : List Value} {xs ys : Array Value}, Rd U O S w t x c1 → Rd U O S w t y c2 →
    (∀ j, j < c1.length → xs[off + j]? = c1[j]?) → (∀ j, j < c2.length → ys[off + j]? = c2[j]?) → (Op.eqFields (d + 2) xs ys fs).run P w = .ok (eqG U t x y) w := by
  induction h with
  | nil => intro x y c1 c2 xs ys _ _ _ _; simp [Op.eqFields, eqG]
  | @cons f fs off a b hn ho ht he _ ih =>
    intro x y c1 c2 xs ys h1 h2 g1 g2
    cases h1 with
    | @pair _ _ x1 x2 p1 p2 a1 a2 =>
    cases h2 with
    | @pair _ _ y1 y2 q1 q2 b1 b2 =>
    obtain ⟨e1, e2, e3⟩ := he.run (P := P) (w := w) (d + 1) a1 b1
    have hp1 : (part f.type xs f.offset).run P w = .ok (mkV a.isAgg p1) w := run_part ht a1.length (fun j hj => by
      have hl := a1.length
      rw [ho, g1 j (by rw [List.length_append]; omega), List.getElem?_append_left (by omega)]) width_one w
    have hp2 : (part f.type ys f.offset).run P w = .ok (mkV a.isAgg q1) w := run_part ht b1.length (fun j hj => by
      have hl := b1.length
      rw [ho, g2 j (by rw [List.length_append]; omega), List.getElem?_append_left (by omega)]) width_one w
    have hr := ih (xs := xs) (ys := ys) a2 b2 (fun j hj => by
      have := g1 (1 + j) (by rw [List.length_append]; omega)
      rw [show off + 1 + j = off + (1 + j) by omega, this, List.getElem?_append_right (by omega)]; congr 1; omega) (fun j hj => by
      have := g2 (1 + j) (by rw [List.length_append]; omega)
      rw [show off + 1 + j = off + (1 + j) by omega, this, List.getElem?_append_right (by omega)]; congr 1; omega)
    have hq : eqG U (.pair a b) (x1, x2) (y1, y2) = (eqB a x1 y1 && eqG U b x2 y2) := by cases he <;> rfl
    rw [hq]
    simp only [Op.eqFields, hn, ne_eq, not_false_eq_true, if_true, Sem.run_bind, hp1, hp2, e1, Result.andThen_ok]
    cases eqB a x1 y1
    · simp
    · simpa using hr
  | @st f fs gs off n k b hn ho ht hu hs hf hk _ ih =>
    intro x y c1 c2 xs ys h1 h2 g1 g2
    cases h1 with
    | @pair _ _ x1 x2 p1 p2 a1 a2 =>
    cases h2 with
    | @pair _ _ y1 y2 q1 q2 b1 b2 =>
    have hl1 : p1.length = k := hk ▸ a1.length
    have hl2 : q1.length = k := hk ▸ b1.length
    have hp1 : (part f.type xs f.offset).run P w = .ok (mkV (Ty.named n).isAgg p1) w := run_part ht a1.length (fun j hj => by
      rw [ho, g1 j (by rw [List.length_append]; omega), List.getElem?_append_left (by omega)]) width_one w
    have hp2 : (part f.type ys f.offset).run P w = .ok (mkV (Ty.named n).isAgg q1) w := run_part ht b1.length (fun j hj => by
      rw [ho, g2 j (by rw [List.length_append]; omega), List.getElem?_append_left (by omega)]) width_one w
    have hr := ih (xs := xs) (ys := ys) a2 b2 (fun j hj => by
      have := g1 (k + j) (by rw [List.length_append]; omega)
      rw [show off + k + j = off + (k + j) by omega, this, List.getElem?_append_right (by omega)]; congr 1; omega) (fun j hj => by
      have := g2 (k + j) (by rw [List.length_append]; omega)
      rw [show off + k + j = off + (k + j) by omega, this, List.getElem?_append_right (by omega)]; congr 1; omega)
    have hfo : P.fieldsOf f.type = gs := by simp [Program.fieldsOf, hu]
    have e1 : (Op.equalIn (d + 2) f.type (mkV (Ty.named n).isAgg p1) (mkV (Ty.named n).isAgg q1)).run P w = .ok (eqB (U.body n) (U.out n x1) (U.out n y1)) w := by
      cases a1 with
      | named _ _ a1 =>
      cases b1 with
      | named _ _ b1 =>
      show (Op.equalIn (d + 1 + 1) f.type (.agg p1.toArray) (.agg q1.toArray)).run P w = _
      rw [run_equalIn_struct w (d + 1) f.type _ _ (by rw [hfo]; exact hu) hs, hfo]
      exact hf.run d a1 b1 (fun j hj => by simp) (fun j hj => by simp)
    have hq : eqG U (.pair (.named n) b) (x1, x2) (y1, y2) = (eqB (U.body n) (U.out n x1) (U.out n y1) && eqG U b x2 y2) := rfl
    rw [hq]
    simp only [Op.eqFields, hn, ne_eq, not_false_eq_true, if_true, Sem.run_bind, hp1, hp2, e1, Result.andThen_ok]
    cases eqB (U.body n) (U.out n x1) (U.out n y1)
    · simp
    · simpa using hr
theorem run_eqStructG {T : TypeId} {fs : Array Field} {n : Nat} (hT : P.underlying T = some (.struct fs)) (hs : P.stoodInHeld T = false) (hf : EqG P U fs.toList 0 (U.body n)) {x y : U.T n} {c1 c2 : List Value}
    (h1 : Rd U O S w (.named n) x c1) (h2 : Rd U O S w (.named n) y c2) : (Op.equal T (.agg c1.toArray) (.agg c2.toArray)).run P w = .ok (eqG U (U.body n) (U.out n x) (U.out n y)) w := by
  have hfo : P.fieldsOf T = fs := by simp [Program.fieldsOf, hT]
  cases h1 with
  | named _ _ h1 =>
  cases h2 with
  | named _ _ h2 =>
  show (Op.equalIn (9999 + 1) T _ _).run P w = _
  rw [run_equalIn_struct w 9999 T _ _ (by rw [hfo]; exact hT) hs, hfo]
  exact hf.run 9997 h1 h2 (fun j hj => by simp) (fun j hj => by simp)
theorem sok_eqG {T t' : TypeId} {fs : Array Field} {n : Nat} {x y : Operand} {m k : U.T n} (hg : o.guard = none) (ho : o.op = .binOp .eql T x y t') (hT : P.underlying T = some (.struct fs)) (hs : P.stoodInHeld T = false)
    (hf : EqG P U fs.toList 0 (U.body n)) (hq : P.eqGuardType P.depth T = false) (hx : Opd U rs x (.p (.named n) m)) (hy : Opd U rs y (.p (.named n) k)) :
    SOk U O P ops o { rs := rs, ws := .p .bool (eqG U (U.body n) (U.out n m) (U.out n k)) } :=
  sok_v hg _ (fun _ => exec_bin ho) fun S ι w a hrs _ => by
    obtain ⟨c1, r1, e1⟩ := hx.ev hrs
    obtain ⟨c2, r2, e2⟩ := hy.ev hrs
    refine ⟨.bool (eqG U (U.body n) (U.out n m) (U.out n k)), ?_, VV.bool_iff.2 rfl⟩
    rw [e1, e2]
    simp only [mkV, Ty.isAgg, Sem.run_bind, eqGuard_agg hq, Result.andThen_ok, binOp, run_eqStructG hT hs hf r1 r2, Sem.run_pure]
theorem sok_neG {T t' : TypeId} {fs : Array Field} {n : Nat} {x y : Operand} {m k : U.T n} (hg : o.guard = none) (ho : o.op = .binOp .neq T x y t') (hT : P.underlying T = some (.struct fs)) (hs : P.stoodInHeld T = false)
    (hf : EqG P U fs.toList 0 (U.body n)) (hq : P.eqGuardType P.depth T = false) (hx : Opd U rs x (.p (.named n) m)) (hy : Opd U rs y (.p (.named n) k)) :
    SOk U O P ops o { rs := rs, ws := .p .bool (!(eqG U (U.body n) (U.out n m) (U.out n k))) } :=
  sok_v hg _ (fun _ => exec_bin ho) fun S ι w a hrs _ => by
    obtain ⟨c1, r1, e1⟩ := hx.ev hrs
    obtain ⟨c2, r2, e2⟩ := hy.ev hrs
    refine ⟨.bool (!(eqG U (U.body n) (U.out n m) (U.out n k))), ?_, VV.bool_iff.2 rfl⟩
    rw [e1, e2]
    simp only [mkV, Ty.isAgg, Sem.run_bind, eqGuard_agg hq, Result.andThen_ok, binOp, run_eqStructG hT hs hf r1 r2, Sem.run_pure]
end

/-! ### rows that a library function makes, turns, takes -/
section
variable {U : Univ} {O : Out} {S S' : Nat → Prop} {ι ι' : Lay} {w w' : World} {t : Ty}
theorem Nx.rowBlk {s : LSpec U} {E : TypeId} {xs : List (t.den U.T)} {v' : Value} {n d : Nat} {news : List Value} (hrow : w'.ownsRow w.heap.size E (t.width U.wd) v' n news) (hb : RowKit.Below w.heap.size w w')
    (hn : n = xs.length) (hcb : s.cb = []) (hpb : s.pb = [(d, .row E t xs false)]) (hnn : s.nn = [d]) (hlt : ∀ b, S b → b < w.heap.size)
    (hel : ∀ (i : Nat) (h : i < xs.length), ∃ cs, Rd U O S w t xs[i] cs ∧ ∀ j, j < t.width U.wd → news[i * t.width U.wd + j]? = cs[j]?) :
    ∃ ι', Nx U O s S ι w S ι' w' ∧ VV U O S ι' w' (.vec d (t.width U.wd) 0 xs.length) v' := by
  subst hn
  have hl := hrow.lt
  obtain ⟨hlen, ⟨rfl, h0⟩ | ⟨g, cap, cur, rfl, hg, hh, hcap, hmx, hsz, htk⟩⟩ := hrow
  · have : xs = [] := List.eq_nil_of_length_eq_zero h0
    subst this
    refine ⟨fun m => if m = d then none else ι m, ⟨hb.os, hb.tape, hb.output, hb.size, fun _ h => h, fun _ h => .inl h, fun b h => Nat.lt_of_lt_of_le (hlt b h) hb.size, fun b hb' _ => hb.block b hb', fun m hm => ?_, fun x hx => ?_, fun m hm b c hbc => ?_, fun m hm m' hm' hne => ?_⟩, ?_⟩
    · rw [hnn] at hm; exact if_neg (by simpa using hm)
    · rw [hpb] at hx; simp at hx; subst hx
      exact .inl ⟨by simp, rfl, rfl⟩
    · rw [hpb] at hm; simp [nm] at hm; subst hm; simp at hbc
    · rw [hpb] at hm hm'; simp [nm] at hm hm'; subst hm hm'; exact absurd rfl hne
    · exact .inl ⟨by simp, rfl, rfl, rfl⟩
  · have hgl : g < w'.heap.size := (Array.getElem?_eq_some_iff.1 hh).1
    refine ⟨fun m => if m = d then some (g, cap) else ι m, ⟨hb.os, hb.tape, hb.output, hb.size, fun _ h => h, fun _ h => .inl h, fun b h => Nat.lt_of_lt_of_le (hlt b h) hb.size, fun b hb' _ => hb.block b hb', fun m hm => ?_, fun x hx => ?_, fun m hm b c hbc => ?_, fun m hm m' hm' hne => ?_⟩, ?_⟩
    · rw [hnn] at hm; exact if_neg (by simpa using hm)
    · rw [hpb] at hx; simp at hx; subst hx
      refine .inr ⟨g, cap, cur, fun i => if h : i < xs.length then (hel i h).choose else [], by simp, hh, hsz, hmx, hcap, by simp, fun i h => ?_, fun i j hi hj => ?_⟩
      · simp only [h, dif_pos]
        exact (hel i h).choose_spec.1.mono (fun b hS => hb.block b (hlt b hS)) fun _ h => h
      · simp only [hi, dif_pos]
        rw [← (hel i hi).choose_spec.2 j hj, ← htk, List.getElem?_take_of_lt (by
          have : (i + 1) * t.width U.wd ≤ xs.length * t.width U.wd := Nat.mul_le_mul_right _ hi
          rw [Nat.succ_mul] at this; omega), Array.getElem?_toList]
    · rw [hpb] at hm; simp [nm] at hm; subst hm
      simp at hbc; obtain ⟨rfl, rfl⟩ := hbc
      exact ⟨fun hS => absurd (hlt _ hS) (by omega), hgl, .inl hg⟩
    · rw [hpb] at hm hm'; simp [nm] at hm hm'; subst hm hm'; exact absurd rfl hne
    · exact .inr ⟨g, cap, 0, by simp, by omega, by simp, .inl (by simp)⟩
/-- An owned row whose block is turned in place, with new blocks behind. -/
theorem Nx.rowPut {s : LSpec U} {E : TypeId} {xs ys : List (t.den U.T)} {d b c : Nat} {fx : Bool} (hcb : s.cb = [(d, .row E t xs fx)]) (hpb : s.pb = [(d, .row E t ys fx)]) (hι : ι d = some (b, c)) (hS : ¬ S b) (hbl : b < w.heap.size)
    (hlt : ∀ b, S b → b < w.heap.size) (h1 : w'.os = w.os) (h2 : w'.tape = w.tape) (h3 : w'.output = w.output) (h4 : w.heap.size ≤ w'.heap.size) (hk : ∀ k, k < w.heap.size → k ≠ b → w'.heap[k]? = w.heap[k]?)
    (hB : BR U O S ι w' d (.row E t ys fx)) : Nx U O s S ι w S ι w' := by
  refine ⟨h1, h2, h3, h4, fun _ h => h, fun _ h => .inl h, fun b' h => Nat.lt_of_lt_of_le (hlt b' h) h4, fun b' hb' hne => hk b' hb' fun e => ?_, fun _ _ => rfl, fun x hx => ?_, fun m hm b' c' hbc => ?_, fun m hm m' hm' hne => ?_⟩
  · exact hne d (by rw [hcb]; simp [nm]) c (by rw [hι, e])
  · rw [hpb] at hx; simp at hx; subst hx; exact hB
  · rw [hpb] at hm; simp [nm] at hm; subst hm
    rw [hι] at hbc; obtain ⟨rfl, rfl⟩ : b = b' ∧ c = c' := by simpa using hbc
    exact ⟨hS, by omega, .inr ⟨m, by rw [hcb]; simp [nm], c, hι⟩⟩
  · rw [hpb] at hm hm'; simp [nm] at hm hm'; subst hm hm'; exact absurd rfl hne
/-- An owned row that is data from now on. -/
theorem Nx.rowTake {s : LSpec U} {E : TypeId} {xs : List (t.den U.T)} {d b c : Nat} {fx : Bool} (hcb : s.cb = [(d, .row E t xs fx)]) (hpb : s.pb = []) (hι : ι d = some (b, c)) (hbl : b < w.heap.size)
    (hlt : ∀ b, S b → b < w.heap.size) (h1 : w'.os = w.os) (h2 : w'.tape = w.tape) (h3 : w'.output = w.output) (h4 : w.heap.size ≤ w'.heap.size) (hk : ∀ k, k < w.heap.size → k ≠ b → w'.heap[k]? = w.heap[k]?) :
    Nx U O s S ι w (fun x => S x ∨ x = b) ι w' := by
  refine ⟨h1, h2, h3, h4, fun _ h => .inl h, fun x h => ?_, fun x h => ?_, fun b' hb' hne => hk b' hb' fun e => ?_, fun _ _ => rfl, by simp [hpb], by simp [hpb, nm], by simp [hpb, nm]⟩
  · rcases h with h | rfl
    · exact .inl h
    · exact .inr (.inr ⟨d, by rw [hcb]; simp [nm], c, hι⟩)
  · rcases h with h | rfl
    · exact Nat.lt_of_lt_of_le (hlt x h) h4
    · omega
  · exact hne d (by rw [hcb]; simp [nm]) c (by rw [hι, e])

/-! ### texts in a row: the shelf's words -/
theorem put_at {α : Type} [Inhabited α] {enc : α → Value} {b off n : Nat} {d : Array α} {os : Array Obj} {arr : Array Value} {E : TypeId} {fr : Nat × Nat} (h : w.heap[b]? = some (.cells arr E fr)) :
    (Sort.grow (Sort.putRow enc (Sort.ahead w n) b off d) os).heap[b]? = some (.cells (Sort.putCells enc off d arr) E fr) := by
  have hl : b < w.heap.size := (Array.getElem?_eq_some_iff.1 h).1
  rw [Sort.heap_grow_old _ _ (by simp [Sort.putRow, Sort.mapBlock, Sort.ahead]; exact hl)]
  simp only [Sort.putRow, Sort.mapBlock, Sort.ahead, Array.getElem?_modify, if_true, h, Option.map_some, Sort.onCells]
theorem put_ne {α : Type} [Inhabited α] {enc : α → Value} {b off n k : Nat} {d : Array α} {os : Array Obj} (hk : k < w.heap.size) (hne : k ≠ b) :
    (Sort.grow (Sort.putRow enc (Sort.ahead w n) b off d) os).heap[k]? = w.heap[k]? := by
  rw [Sort.heap_grow_old _ _ (by simp [Sort.putRow, Sort.mapBlock, Sort.ahead]; exact hk)]
  simp only [Sort.putRow, Sort.mapBlock, Sort.ahead, Array.getElem?_modify, if_neg (fun e => hne e.symm : ¬ b = k)]
theorem put_get {α : Type} [Inhabited α] {enc : α → Value} {d : Array α} {arr : Array Value} {j : Nat} (hj : j < d.size) (ha : j < arr.size) : (Sort.putCells enc 0 d arr)[j]? = some (enc d[j]!) := by
  simp only [Sort.putCells, Array.getElem?_mapIdx]
  rw [Array.getElem?_eq_getElem ha, Option.map_some, if_pos (by omega)]; simp
theorem put_size {α : Type} [Inhabited α] {enc : α → Value} {off : Nat} {d : Array α} {arr : Array Value} : (Sort.putCells enc off d arr).size = arr.size := by simp [Sort.putCells]
end
end Go.AM

namespace Go.AM
open Go
set_option linter.unusedVariables false
section
variable {U : Univ} {O : Out}
theorem Conv.openS {st : St U} {q : Bool} (t n : Nat) (hq : q = true) (hin : (t, AVal.opt q n) ∈ st.sl) : Conv U O st ⟨setA st.sl t (.loc n 0), st.hp⟩ := by
  intro B S ι a w hR
  refine ⟨S, ι, { hR with sl := fun x hx => ?_ }⟩
  rcases mem_setA hx with rfl | ⟨h1, _⟩
  · have h := hR.sl _ hin
    simp only [VV] at h ⊢
    exact h.1 hq
  · exact hR.sl x h1
theorem Conv.openB {st : St U} {q : Bool} (n : Nat) (B : Blk U) (hq : q = true) (hin : (n, Blk.opt q B) ∈ st.hp) : Conv U O st ⟨st.sl, setA st.hp n B⟩ := by
  intro B' S ι a w hR
  have hm : ∀ k ∈ nm (setA st.hp n B), k ∈ nm st.hp := fun k hk => by
    obtain ⟨x, hx, rfl⟩ := List.mem_map.1 hk
    rcases mem_setA hx with rfl | ⟨h1, _⟩
    · exact List.mem_map.2 ⟨_, hin, rfl⟩
    · exact List.mem_map.2 ⟨_, h1, rfl⟩
  refine ⟨S, ι, { hR with hp := fun x hx => ?_, own := ⟨fun k hk => hR.own.out k (hm k hk), fun k hk j hj => hR.own.sep k (hm k hk) j (hm j hj)⟩, mine := fun k hk => hR.mine k (hm k hk) }⟩
  rcases mem_setA hx with rfl | ⟨h1, _⟩
  · exact hR.hp _ hin hq
  · exact hR.hp x h1
end
end Go.AM

namespace Go.AM
open Go Go.RowKit Go.Sort Go.Proofs
set_option linter.unusedVariables false
theorem halloc_new (w : World) (o : Obj) : (w.alloc o).heap[w.heap.size]? = some o := by
  show (w.heap.push o)[w.heap.size]? = _
  simp
theorem halloc_old (w : World) (o : Obj) (b : Nat) (h : b < w.heap.size) : (w.alloc o).heap[b]? = w.heap[b]? := by
  show (w.heap.push o)[b]? = _
  rw [Array.getElem?_push_lt h, Array.getElem?_eq_getElem h]
section
variable {U : Univ} {O : Out} {S : Nat → Prop} {ι : Lay} {w w' : World}
theorem row_frozen {b k : Nat} {arr : Array Value} {E : TypeId} (h : w.heap[b]? = some (.cells arr E (0, 0))) : w.frozen? ⟨b, k, none⟩ = false := by simp [World.frozen?, h]
/-- What is known of an owned row of texts. -/
theorem row_of {d E : Nat} {xs : List (List UInt8)} {fx : Bool} (hB : BR U O S ι w d (.row E .str xs fx)) {u : Value} (hu : VV U O S ι w (.vec d 1 0 xs.length) u) :
    (ι d = none ∧ xs = [] ∧ fx = false ∧ u = .slice none 0 0) ∨ ∃ (b c : Nat) (arr : Array Value), ι d = some (b, c) ∧ u = .slice (some ⟨b, 0, none⟩) xs.length c ∧ w.heap[b]? = some (.cells arr E (0, 0)) ∧ arr.size = c ∧ c ≤ maxLen ∧ xs.length ≤ c ∧ (fx = true → xs.length = c) ∧ Holds encStr w b 0 xs.toArray := by
  rcases hB with ⟨h1, h2, h3⟩ | ⟨b, c, arr, cs, h1, h2, h3, h4, h5, h6, h7, h8⟩
  · rcases hu with ⟨_, _, _, rfl⟩ | ⟨b, c, o, g1, _⟩
    · exact .inl ⟨h1, h2, h3, rfl⟩
    · rw [h1] at g1; cases g1
  · rcases hu with ⟨g1, _⟩ | ⟨b', c', o, g1, g2, g3, g4⟩
    · rw [h1] at g1; cases g1
    · rw [h1] at g1
      obtain ⟨rfl, rfl⟩ : b = b' ∧ c = c' := by simpa using g1
      have ho : o = 0 := by rcases g4 with h | h <;> omega
      subst ho
      refine .inr ⟨b, c, arr, h1, by simpa using g3, h2, by simpa [Ty.width] using h3, h4, h5, h6, fun j hj => ⟨?_, row_frozen h2⟩⟩
      have hjx : j < xs.length := by simpa using hj
      obtain ⟨q, q1, q2⟩ := rd_strq (h7 j hjx)
      have h9 := h8 j 0 hjx (by simp [Ty.width])
      rw [q2] at h9
      rw [cell_of_row w b _ arr E (0, 0) h2]
      have e : q = ⟨xs[j].toArray⟩ := bytes_ext (by simp; exact q1.symm)
      have e2 : xs.toArray[j]! = xs[j] := by simp [hjx]
      rw [e2, Nat.zero_add]
      simp only [Ty.width, Nat.mul_one, Nat.add_zero, List.getElem?_cons_zero] at h9
      rw [h9, e]
theorem row_to {d E b c : Nat} {ys : List (List UInt8)} {fx : Bool} {arr arr' : Array Value} (h1 : ι d = some (b, c)) (h2 : w.heap[b]? = some (.cells arr' E (0, 0))) (h3 : arr'.size = c) (h4 : c ≤ maxLen) (h5 : ys.length ≤ c) (h6 : fx = true → ys.length = c)
    (h7 : ∀ j (h : j < ys.length), arr'[j]? = some (encStr ys[j])) : BR U O S ι w d (.row E .str ys fx) := by
  refine .inr ⟨b, c, arr', fun i => if h : i < ys.length then [encStr ys[i]] else [], h1, h2, by simpa [Ty.width] using h3, h4, h5, h6, fun i h => ?_, fun i j hi hj => ?_⟩
  · have e : (if h : i < ys.length then [encStr ys[i]] else ([] : List Value)) = [encStr ys[i]] := dif_pos h
    show Rd U O S w .str ys[i] (if h : i < ys.length then [encStr ys[i]] else [])
    rw [e]; exact rd_strof rfl
  · obtain rfl : j = 0 := by simpa [Ty.width] using hj
    have e : (if h : i < ys.length then [encStr ys[i]] else ([] : List Value)) = [encStr ys[i]] := dif_pos hi
    show _ = (if h : i < ys.length then [encStr ys[i]] else ([] : List Value))[0]?
    rw [e]
    simp only [Ty.width, Nat.mul_one, Nat.add_zero, List.getElem?_cons_zero]
    exact h7 i hi
theorem Nx.withCb {s : LSpec U} {S' : Nat → Prop} {ι' : Lay} (h : Nx U O s S ι w S' ι' w') (h1 : s.cb = []) (h2 : s.pb = []) (bs : List (Nat × Blk U)) : Nx U O { s with cb := bs } S ι w S' ι' w' := by
  refine ⟨h.os, h.tape, h.output, h.size, h.sub, fun b hb => ?_, h.lt, fun b hb hn => h.keep b hb (by rw [h1]; simp [nm]), h.lay, h.blk, by simp [h2, nm], h.sep⟩
  rcases h.new b hb with h | h | ⟨m, hm, _⟩
  · exact .inl h
  · exact .inr (.inl h)
  · rw [h1] at hm; simp [nm] at hm
/-- Texts sorted in place. -/
theorem sort_nx {s : LSpec U} {d E b c n : Nat} {xs ys : List (List UInt8)} {os : Array Obj} {arr : Array Value} (hcb : s.cb = [(d, .row E .str xs false)]) (hpb : s.pb = [(d, .row E .str ys false)])
    (hι : ι d = some (b, c)) (hh : w.heap[b]? = some (.cells arr E (0, 0))) (hsz : arr.size = c) (hmx : c ≤ maxLen) (hlen : ys.length = xs.length) (hc : xs.length ≤ c) (hS : ¬ S b) (hlt : ∀ b, S b → b < w.heap.size)
    (hw : w' = grow (putRow encStr (Go.Sort.ahead w n) b 0 ys.toArray) os) : Nx U O s S ι w S ι w' := by
  subst hw
  have hbl : b < w.heap.size := (Array.getElem?_eq_some_iff.1 hh).1
  refine Nx.rowPut hcb hpb hι hS hbl hlt rfl rfl rfl (by simp [putRow, mapBlock, Go.Sort.ahead]) (fun k hk hne => put_ne hk hne) ?_
  refine row_to (arr := arr) hι (put_at hh) (by rw [put_size]; exact hsz) hmx (by omega) (by simp) fun j hj => ?_
  rw [put_get (by simpa using hj) (by omega)]
  simp [hj]
/-- Texts compacted in place, and taken. -/
theorem compact_len (zs : List (List UInt8)) : (Lib.compact zs).length ≤ zs.length := by
  unfold Lib.compact Lib.compactUpTo
  rw [List.length_map]
  exact Nat.le_trans (List.length_filter_le _ _) (by simp)
theorem compact_nx {s : LSpec U} {d E b c n m : Nat} {xs ys : List (List UInt8)} {arr : Array Value} (hcb : s.cb = [(d, .row E .str xs false)]) (hpb : s.pb = [])
    (hι : ι d = some (b, c)) (hh : w.heap[b]? = some (.cells arr E (0, 0))) (hsz : arr.size = c) (hlen : ys.length ≤ c) (hlt : ∀ b, S b → b < w.heap.size)
    (hw : w' = putRow encStr (Go.Sort.ahead w n) b 0 (ys ++ List.replicate m []).toArray) :
    Nx U O s S ι w (fun x => S x ∨ x = b) ι w' ∧ VV U O (fun x => S x ∨ x = b) ι w' (.p (.list .str) ys) (.slice (some ⟨b, 0, none⟩) ys.length c) := by
  have hw : w' = grow (putRow encStr (Go.Sort.ahead w n) b 0 (ys ++ List.replicate m []).toArray) #[] := by rw [grow_empty]; exact hw
  subst hw
  have hbl : b < w.heap.size := (Array.getElem?_eq_some_iff.1 hh).1
  refine ⟨Nx.rowTake hcb hpb hι hbl hlt rfl rfl rfl (by simp [putRow, mapBlock, Go.Sort.ahead]) (fun k hk hne => put_ne hk hne), ?_⟩
  refine ⟨_, .list .str ys b 0 c (fun i => if h : i < ys.length then [encStr ys[i]] else []) (.inr rfl) hlen (fun i h => ?_) (fun i j hi hj => ?_), rfl⟩
  · have e : (if h : i < ys.length then [encStr ys[i]] else ([] : List Value)) = [encStr ys[i]] := dif_pos h
    show Rd U O _ _ .str ys[i] (if h : i < ys.length then [encStr ys[i]] else [])
    rw [e]; exact rd_strof rfl
  · obtain rfl : j = 0 := by simpa [Ty.width] using hj
    have e : (if h : i < ys.length then [encStr ys[i]] else ([] : List Value)) = [encStr ys[i]] := dif_pos hi
    show _ = (if h : i < ys.length then [encStr ys[i]] else ([] : List Value))[0]?
    rw [e, cell_of_row _ b _ _ E (0, 0) (put_at hh)]
    simp only [Ty.width, Nat.mul_one, Nat.add_zero, Nat.zero_add, List.getElem?_cons_zero]
    have hi' : i < @List.length (List UInt8) ys := hi
    have hi2 : i < (ys ++ List.replicate m ([] : List UInt8)).length := by rw [List.length_append]; omega
    have hge : (ys ++ List.replicate m ([] : List UInt8)).toArray[i]! = ys[i] := by
      rw [getElem!_pos _ i (by simpa using hi2)]
      simp [List.getElem_append_left hi']
    rw [put_get (by simpa using hi2) (by omega), hge]; rfl
end
end Go.AM

namespace Go.AM
open Go Go.RowKit
set_option linter.unusedVariables false
section
variable {U : Univ} {O : Out} {P : Program} {S : Nat → Prop} {ι : Lay} {w : World} {rs : List (Nat × AVal U)} {a : Act} {ops : Array Oper} {o : Oper}
theorem sok_appendB {T E : TypeId} {t : Ty} {by_ n d : Nat} {xs ys : List (t.den U.T)} {fx : Bool} {x y : Operand} {v : AVal U} {vw : List (Nat × Blk U)} (hg : o.guard = none) (_ : o.dst = some d)
    (ho : o.op = .call { callee := .builtin .append, args := #[x, y], argTypes := #[T, T] }) (hT : RowOk P U T E t by_) (hby : 1 ≤ by_)
    (hx : Opd U rs x (.vec n (t.width U.wd) 0 xs.length)) (hy : Opd U rs y v) (hv : View U vw v (.p (.list t) ys)) (_ : n ∉ nm vw) (hlim : (xs.length + ys.length) * by_ ≤ 140737488355328) :
    SOk U O P ops o { rs := rs, ro := vw, cb := [(n, .row E t xs fx)], ws := .vec d (t.width U.wd) 0 (xs.length + ys.length), pb := [(d, .row E t (xs ++ ys) false)], nn := [d] } := by
  intro S ι w a hlt hgl hrs hro hcb hown K Q hK
  have hB := hcb _ List.mem_cons_self
  obtain ⟨cs, hel, hrow, hplace⟩ := own_of rfl hB (hx.ev hrs) rfl rfl
  obtain ⟨ds, hdl, hys⟩ := view_cells hT.pos hv hro (hy.ev hrs)
  have hsz : (xs.length + ys.length) * by_ ≤ 140737488355328 := hlim
  have h63 : xs.length + ys.length ≤ maxLen := by
    have := Nat.mul_le_mul_left (xs.length + ys.length) hby
    unfold maxLen; omega
  have hnewl : (rowCells ys.length ds).length = ys.length * t.width U.wd := flatMap_range_length _ _ _ fun i hi => (hdl i hi).length
  have hone : ∀ u ∈ rowCells ys.length ds, u.oneCell' = true := fun u hu => by
    obtain ⟨i, hi, hu⟩ := List.mem_flatMap.1 hu
    exact (hdl i (List.mem_range.1 hi)).one u hu
  obtain ⟨v', w', hr, ho', hg', hp⟩ : ∃ v' w', (Builtin.append_ #[T, T] o.type #[a.eval x, a.eval y]).run P w = .ok v' w' ∧
      w'.ownsRow 0 E (t.width U.wd) v' (xs.length + ys.length) (rowCells xs.length cs ++ rowCells ys.length ds) ∧ w.grownBy w' (a.eval x).ownBlock ∧ ∀ b, v'.ownBlock = some b → w.heap.size ≤ b ∨ (a.eval x).ownBlock = some b := by
    rcases hys with ⟨rfl, hu⟩ | ⟨ad, cap, hu, hc⟩
    · obtain ⟨i, z, hi, hz, hs, hb', hzs⟩ := hT.info
      rw [hu]
      refine ⟨_, w, run_append_owned_none (P := P) (ty := o.type) (w := w) 0 T E i (t.width U.wd) hT.sl.under hi _ _ _ hrow, ?_, ⟨rfl, rfl, rfl, Nat.le_refl _, fun _ _ _ => rfl⟩, fun b hb => .inr hb⟩
      simpa [rowCells] using hrow
    · rw [hu]
      exact run_append_place hT hrow ad ys.length cap hnewl hc hone h63 hsz
  have hzl : (xs ++ ys).length = xs.length + ys.length := List.length_append
  have hels : ∀ (i : Nat) (h : i < (xs ++ ys).length), Rd U O S w t (xs ++ ys)[i] (if i < xs.length then cs i else ds (i - xs.length)) := fun i hi => by
    by_cases h : i < xs.length
    · rw [if_pos h, List.getElem_append_left h]; exact hel i h
    · rw [if_neg h, List.getElem_append_right (by omega)]
      exact hdl (i - xs.length) (by omega)
  rw [rowCells_append, ← hzl] at ho'
  obtain ⟨ι', hN, hV⟩ := nx_append (s := { rs := rs, ro := vw, cb := [(n, .row E t xs fx)], ws := .vec d (t.width U.wd) 0 (xs.length + ys.length), pb := [(d, .row E t (xs ++ ys) false)], nn := [d] })
    (ι := ι) rfl rfl hlt hg' (fun b hb => by
      obtain ⟨c, hc⟩ := hplace b hb
      have := hown.out n (by simp) b c hc
      exact ⟨this.1, this.2, n, by simp, c, hc⟩) hels ho' hp
  refine opWp_plain hg ?_
  unfold Oper.wp
  rw [exec_append ho, run_vOf hr]
  rw [hzl] at hV
  exact hK v' S ι' w' hN hV

theorem sok_appendB' {T E : TypeId} {t : Ty} {by_ n d : Nat} {xs ys : List (t.den U.T)} {fx : Bool} {x y : Operand} {v : AVal U} {vw : List (Nat × Blk U)} (hg : o.guard = none) (hd : o.dst = some d)
    (ho : o.op = .call { callee := .builtin .append, args := #[x, y], argTypes := #[T, T] }) (hT : RowOk P U T E t by_) (hby : 1 ≤ by_)
    (hx : Opd U rs x (.vec n (t.width U.wd) 0 xs.length)) (hy : Opd U rs y v) (hv : View U vw v (.p (.list t) ys)) (hvw : n ∉ nm vw) (hlim : (xs.length + ys.length) * by_ ≤ 140737488355328) :
    SOk U O P ops o { rs := rs, ro := vw, cb := [(n, .row E t xs fx)], ws := .vec d (t.width U.wd) 0 (xs ++ ys).length, pb := [(d, .row E t (xs ++ ys) false)], nn := [d] } := by
  rw [List.length_append]
  exact sok_appendB hg hd ho hT hby hx hy hv hvw hlim
end
/-- A list among the arguments is as long as its reading. -/
theorem trod_len {U : Univ} {O : Out} {S : Nat → Prop} {ι : Lay} {H : Type} {enc : TypeId × Value → H} {P : Program} {W : World} {base : Nat} {sp : Nat → Bool} {held : Bool} {m : Nat} {T E : TypeId} {t : Ty} {xs : List (t.den U.T)} {u : Value} {d : DataW H} {p : List MemPlace}
    (hT : P.underlying T = some (.slice E)) (hu : VV U O S ι W (.p (.list t) xs) u) (h : DataW.trod enc P W base sp held m T u.cells.toList = some (d, p)) : xs = [] ∨ ∃ elems spare, d = .slice elems spare ∧ elems.length = xs.length := by
  rcases VV.list_iff.1 hu with ⟨h1, _⟩ | ⟨h1, _⟩ | ⟨b, o, cap, cs, rfl, _⟩
  · exact .inl h1
  · exact .inl h1
  · right
    cases m with
    | zero => simp [DataW.trod] at h
    | succ m =>
      have hc : (Value.slice (some ⟨b, o, none⟩) xs.length cap).cells.toList = [.slice (some ⟨b, o, none⟩) xs.length cap] := by simp [Value.cells]
      rw [hc] at h
      unfold DataW.trod at h
      rw [hT] at h
      simp only at h
      split at h
      · obtain ⟨elems, he, h⟩ := Option.bind_eq_some_iff.1 h
        obtain ⟨rest, hr, h⟩ := Option.map_eq_some_iff.1 h
        obtain ⟨rfl, rfl⟩ : _ ∧ _ := by simpa using h
        refine ⟨_, _, rfl, ?_⟩
        have := mapM_some_length he
        simpa using this
      · cases h
theorem weight_of {H : Type} {P : Program} {T E : TypeId} {elems spare : List (DataW H)} (hT : P.underlying T = some (.slice E)) : ∀ {ts : List TypeId} {ds : List (DataW H)} {i : Nat}, (DataW.weightsEach P ts ds).all (· ≤ reachBytes) = true → ts[i]? = some T → ds[i]? = some (.slice elems spare) → elems.length * P.bytesOf E ≤ reachBytes
  | [], _, _, _, h, _ => by simp at h
  | _ :: _, [], _, _, _, h => by simp at h
  | t :: ts, d :: ds, 0, h, h1, h2 => by
    obtain rfl : t = T := by simpa using h1
    obtain rfl : d = .slice elems spare := by simpa using h2
    have hm : (elems.length + spare.length) * P.bytesOf E ∈ DataW.weightsEach P (t :: ts) (DataW.slice elems spare :: ds) := by
      unfold DataW.weightsEach DataW.weights
      rw [hT]
      simp
    have := List.all_eq_true.1 h _ hm
    have h3 : elems.length * P.bytesOf E ≤ (elems.length + spare.length) * P.bytesOf E := Nat.mul_le_mul_right _ (by omega)
    have h4 : (elems.length + spare.length) * P.bytesOf E ≤ reachBytes := by simpa using this
    omega
  | t :: ts, d :: ds, i + 1, h, h1, h2 => by
    refine weight_of hT (ts := ts) (ds := ds) (i := i) ?_ (by simpa using h1) (by simpa using h2)
    unfold DataW.weightsEach at h
    rw [List.all_append, Bool.and_eq_true] at h
    exact h.2
end Go.AM
namespace Go.AM
theorem w64 {n : Int} (h0 : -9223372036854775808 ≤ n) (h1 : n ≤ 9223372036854775807) : IntKind.i64.wrap n = n := by
  simp only [IntKind.wrap, IntKind.bits, IntKind.signed]
  simp
  omega
theorem idx_at {α : Type} {l : List α} {v : Int} {i : Nat} (e : v = i) (h : i < l.length) : idx l v = some l[i] := by
  subst e; simp [idx, h]
theorem idx_none {α : Type} {l : List α} {v : Int} (h : v < 0 ∨ (l.length : Int) ≤ v) : idx l v = none := by
  unfold idx
  split
  · rcases h with h | h
    · omega
    · simp; omega
  · rfl
theorem sub_at {α : Type} {l : List α} {v u : Int} {a b : Nat} (ev : v = a) (eu : u = b) (h : a ≤ b) (h' : b ≤ l.length) : sub l v u = some ((l.take b).drop a) := by
  subst ev; subst eu
  unfold sub
  rw [if_pos (by omega)]
  simp
theorem sub_from {α : Type} {l : List α} {v u : Int} {a : Nat} (ev : v = a) (eu : u = l.length) (h : a ≤ l.length) : sub l v u = some (l.drop a) := by
  rw [sub_at ev eu h (Nat.le_refl _)]; simp
theorem sub_to {α : Type} {l : List α} {v u : Int} {b : Nat} (ev : v = 0) (eu : u = b) (h : b ≤ l.length) : sub l v u = some (l.take b) := by
  rw [sub_at (a := 0) ev eu (by omega) h]; simp
theorem u8_eq {a b : UInt8} : ((a.toNat : Int) == (b.toNat : Int)) = (a == b) := by
  by_cases h : a = b
  · subst h; simp
  · have : ¬ a.toNat = b.toNat := fun e => h (UInt8.toNat_inj.1 e)
    rw [beq_eq_false_iff_ne.2 h, beq_eq_false_iff_ne]
    omega
end Go.AM
namespace Go.AM
open Go
set_option linter.unusedVariables false
section
variable {U : Univ} {O : Out} {P : Program} {S : Nat → Prop} {ι : Lay} {w : World} {rs : List (Nat × AVal U)} {a : Act} {ops : Array Oper} {o : Oper}
theorem sok_lenNil {T E : TypeId} {x : Operand} (hg : o.guard = none) (ho : o.op = .call { callee := .builtin .len, args := #[x], argTypes := #[T] }) (ht : P.underlying T = some (.slice E)) (hx : Opd U rs x (.lit (.slice none 0 0))) :
    SOk U O P ops o { rs := rs, ws := .p (.int .i64) (0 : Int) } :=
  sok_v hg _ (fun _ => exec_len ho) fun S ι w a hrs _ => by
    refine ⟨.int .i64 0, ?_, VV.int_iff.2 rfl⟩
    rw [(hx.ev hrs).1]
    simp [Builtin.len_, run_underlying ht, goInt]
theorem sok_capNil {T E : TypeId} {x : Operand} (hg : o.guard = none) (ho : o.op = .call { callee := .builtin .cap, args := #[x], argTypes := #[T] }) (ht : P.underlying T = some (.slice E)) (hx : Opd U rs x (.lit (.slice none 0 0))) :
    SOk U O P ops o { rs := rs, ws := .p (.int .i64) (0 : Int) } :=
  sok_v hg _ (fun _ => exec_cap ho) fun S ι w a hrs _ => by
    refine ⟨.int .i64 0, ?_, VV.int_iff.2 rfl⟩
    rw [(hx.ev hrs).1]
    simp [Builtin.cap_, run_underlying ht, goInt]
theorem sok_sliceNil {T E : TypeId} {t : Ty} {x : Operand} {lo hi : Option Operand} (hg : o.guard = none) (ho : o.op = .slice T x lo hi none) (ht : SlOk P U T E t) (hx : Opd U rs x (.lit (.slice none 0 0))) (hl : Bd U rs 0 lo 0) (hh : Bd U rs 0 hi 0) :
    SOk U O P ops o { rs := rs, ws := .lit (.slice none 0 0) } :=
  sok_v hg _ (fun _ => exec_slice ho) fun S ι w a hrs _ => by
    have hsb := run_sliceBounds (P := P) true 0 0 hl hh hrs (by omega) (by omega) (by omega) w
    refine ⟨.slice none 0 0, ?_, ⟨rfl, (hx.ev hrs).2⟩⟩
    rw [(hx.ev hrs).1]
    simp [Instr.sliceAt, Instr.slice, Sem.run_bind, Result.andThen_ok, run_underlying ht.under, hsb, run_sizeOf ht.el]
end
section
variable {U : Univ} {O : Out}
theorem Conv.shrink0 {st : St U} (n E : Nat) (ty : Ty) (xs : List (ty.den U.T)) (fx : Bool) (hin : (n, Blk.row E ty xs fx) ∈ st.hp) : Conv U O st ⟨st.sl, setA st.hp n (.row E ty ([] : List (ty.den U.T)) false)⟩ := by
  intro B S ι a w hR
  have hm : ∀ k ∈ nm (setA st.hp n (Blk.row E ty ([] : List (ty.den U.T)) false)), k ∈ nm st.hp := fun k hk => by
    obtain ⟨x, hx, rfl⟩ := List.mem_map.1 hk
    rcases mem_setA hx with rfl | ⟨h1, _⟩
    · show n ∈ nm st.hp
      exact mem_nm hin
    · exact mem_nm h1
  refine ⟨S, ι, { hR with hp := fun x hx => ?_, own := ⟨fun k hk => hR.own.out k (hm k hk), fun k hk j hj => hR.own.sep k (hm k hk) j (hm j hj)⟩, mine := fun k hk => hR.mine k (hm k hk) }⟩
  rcases mem_setA hx with rfl | ⟨h1, _⟩
  · rcases hR.hp _ hin with ⟨h1, _, h3⟩ | ⟨b, c, arr, cs, h1, h2, h3, h4, h5, h6, h7, h8⟩
    · exact .inl ⟨h1, rfl, rfl⟩
    · exact .inr ⟨b, c, arr, cs, h1, h2, h3, h4, by simp, (fun h => by cases h), fun i h => absurd h (by simp), fun i j h => absurd h (by simp)⟩
  · exact hR.hp x h1
end
section
variable {U : Univ} {O : Out} {S : Nat → Prop} {ι : Lay} {w w' : World}
open Go.RowKit Go.Sort Go.Proofs
/-- Texts compacted in place, and handed back under another name. -/
theorem compactRow_nx {s : LSpec U} {d d' E b c n m : Nat} {xs ys : List (List UInt8)} {arr : Array Value} (hcb : s.cb = [(d, .row E .str xs false)]) (hpb : s.pb = [(d', .row E .str ys false)]) (hnn : s.nn = [d'])
    (hι : ι d = some (b, c)) (hh : w.heap[b]? = some (.cells arr E (0, 0))) (hsz : arr.size = c) (hmx : c ≤ maxLen) (hlen : ys.length ≤ c) (hS : ¬ S b) (hlt : ∀ b, S b → b < w.heap.size)
    (hw : w' = putRow encStr (Go.Sort.ahead w n) b 0 (ys ++ List.replicate m []).toArray) :
    ∃ ι', Nx U O s S ι w S ι' w' ∧ VV U O S ι' w' (.vec d' 1 0 ys.length) (.slice (some ⟨b, 0, none⟩) ys.length c) := by
  have hw : w' = grow (putRow encStr (Go.Sort.ahead w n) b 0 (ys ++ List.replicate m []).toArray) #[] := by rw [grow_empty]; exact hw
  subst hw
  have hbl : b < w.heap.size := (Array.getElem?_eq_some_iff.1 hh).1
  have hsz' : w.heap.size ≤ (grow (putRow encStr (Go.Sort.ahead w n) b 0 (ys ++ List.replicate m []).toArray) #[]).heap.size := by simp [putRow, mapBlock, Go.Sort.ahead]
  refine ⟨fun k => if k = d' then some (b, c) else ι k, ⟨rfl, rfl, rfl, hsz', fun _ h => h, fun _ h => .inl h, fun x h => Nat.lt_of_lt_of_le (hlt x h) hsz', fun b' hb' hne => put_ne hb' fun e => ?_, fun k hk => ?_, fun x hx => ?_, fun k hk b' c' hbc => ?_, fun k hk k' hk' hne => ?_⟩, ?_⟩
  · exact hne d (by rw [hcb]; simp [nm]) c (by rw [hι, e])
  · rw [hnn] at hk; exact if_neg (by simpa using hk)
  · rw [hpb] at hx; simp at hx; subst hx
    refine row_to (arr := arr) (ι := fun k => if k = d' then some (b, c) else ι k) (by simp) (put_at hh) (by rw [put_size]; exact hsz) hmx hlen (by simp) fun j hj => ?_
    have hi2 : j < (ys ++ List.replicate m ([] : List UInt8)).length := by rw [List.length_append]; omega
    have hge : (ys ++ List.replicate m ([] : List UInt8)).toArray[j]! = ys[j] := by
      rw [getElem!_pos _ j (by simpa using hi2)]
      simp [List.getElem_append_left hj]
    rw [put_get (by simpa using hi2) (by omega), hge]
  · rw [hpb] at hk; simp [nm] at hk; subst hk
    simp at hbc; obtain ⟨rfl, rfl⟩ := hbc
    exact ⟨hS, Nat.lt_of_lt_of_le hbl hsz', .inr ⟨d, by rw [hcb]; simp [nm], c, hι⟩⟩
  · rw [hpb] at hk hk'; simp [nm] at hk hk'; subst hk hk'; exact absurd rfl hne
  · exact .inr ⟨b, c, 0, by simp, by omega, by simp, .inl rfl⟩
theorem rowNil_nx {s : LSpec U} {d d' E : Nat} {xs : List (List UInt8)} (hcb : s.cb = [(d, .row E .str xs false)]) (hpb : s.pb = [(d', .row E .str ([] : List (List UInt8)) false)]) (hnn : s.nn = [d']) (hlt : ∀ b, S b → b < w.heap.size) :
    ∃ ι', Nx U O s S ι w S ι' w ∧ VV U O S ι' w (.vec d' 1 0 0) (.slice none 0 0) := by
  refine ⟨fun k => if k = d' then none else ι k, ⟨rfl, rfl, rfl, Nat.le_refl _, fun _ h => h, fun _ h => .inl h, hlt, fun _ _ _ => rfl, fun k hk => ?_, fun x hx => ?_, fun k hk b' c' hbc => ?_, fun k hk k' hk' hne => ?_⟩, .inl ⟨by simp, rfl, rfl, rfl⟩⟩
  · rw [hnn] at hk; exact if_neg (by simpa using hk)
  · rw [hpb] at hx; simp at hx; subst hx
    exact .inl ⟨by simp, rfl, rfl⟩
  · rw [hpb] at hk; simp [nm] at hk; subst hk; simp at hbc
  · rw [hpb] at hk hk'; simp [nm] at hk hk'; subst hk hk'; exact absurd rfl hne
end
section
variable {U : Univ} {O : Out} {P : Program} {S : Nat → Prop} {ι : Lay} {w : World} {rs : List (Nat × AVal U)} {a : Act} {ops : Array Oper} {o : Oper}
theorem run_append_nil_made (T Ti ty e : TypeId) (i : TypeInfo) (z : Value) (ht : P.underlying T = some (.slice e)) (hu : P.underlying Ti = some (.int .i64)) (hi : P.info? e = some i) (hz : i.zero = some z) (hs : 0 < i.size)
    (n : Nat) (h0 : 0 < n) (h63 : (n : Int) ≤ 9223372036854775807) (h48 : n * i.bytes ≤ 281474976710656) :
    (Builtin.append_ #[T, Ti] ty #[.slice none 0 0, .int .i64 n]).run P w =
      .ok (.slice (some ⟨w.heap.size, 0, none⟩) n (grownCap w n 0 e)) (w.drew.alloc (.cells (Builtin.zeroCells z.cells n ++ Builtin.zeroCells z.cells (grownCap w n 0 e - n)) e)) := by
  have hn : n ≠ 0 := by omega
  have h63' : ¬ (9223372036854775807 < (n : Int)) := by omega
  have h48' : ¬ (281474976710656 < Builtin.nextslicecap n 0 * i.bytes) := by rw [nextslicecap_zero h0]; omega
  have h48i : ¬ ((281474976710656 : Int) < (n : Int) * (i.bytes : Int)) := by
    have : ((n * i.bytes : Nat) : Int) ≤ 281474976710656 := by omega
    rw [Int.natCast_mul] at this; omega
  have hw : IntKind.i64.wrap (n : Int) = (n : Int) := w64 (by omega) (by omega)
  have hneg : ¬ ((n : Int) < 0) := by omega
  simp [Builtin.append_, run_underlying ht, run_underlying hu, sizeOf, typeInfo, zeroValue, hi, hz, Builtin.lenOf, Builtin.firstCells, asInt, asIntOf, hw, hneg, hn, h63', h48', h48i, Question.forced, newRow, grownCap]
  intro h
  exact absurd h (Nat.ne_of_gt (Nat.mul_pos h0 hs))
theorem sok_appendNZ {T Ti E : TypeId} {t : Ty} {by_ d : Nat} {n : Int} {x y : Operand} (hg : o.guard = none) (_ : o.dst = some d)
    (ho : o.op = .call { callee := .builtin .append, args := #[x, y], argTypes := #[T, Ti] }) (hT : RowOk P U T E t by_) (hu : P.underlying Ti = some (.int .i64))
    (hx : Opd U rs x (.lit (.slice none 0 0))) (hy : Opd U rs y (.p (.int .i64) n)) (h0 : (0 : Int) < n) (hlim : n.toNat * by_ ≤ 140737488355328) (hby : 1 ≤ by_) :
    SOk U O P ops o { rs := rs, ws := .vec d (t.width U.wd) 0 n.toNat, pb := [(d, .row E t ([] : List (t.den U.T)) false)], nn := [d] } := by
  intro S ι w a hlt hgl hrs hro hcb hown K Q hK
  have hx0 : a.eval x = .slice none 0 0 := (hx.ev hrs).1
  have hy0 : a.eval y = .int .i64 n := VV.int_iff.1 (hy.ev hrs)
  obtain ⟨i, z, hi, hz, hs, hb, hzs⟩ := hT.info
  obtain ⟨k, rfl⟩ : ∃ k : Nat, n = (k : Int) := ⟨n.toNat, by omega⟩
  have hk0 : 0 < k := by omega
  simp only [Int.toNat_natCast] at hlim hK ⊢
  have hk1 : k ≤ 140737488355328 := Nat.le_trans (Nat.le_mul_of_pos_right k hby) hlim
  have hrun := run_append_nil_made (P := P) (w := w) T Ti o.type E i z hT.sl.under hu hi hz (by rw [hs]; exact hT.pos) k hk0 (by omega) (by rw [hb]; omega)
  have hge := grownCap_ge w k 0 E
  have hcm : grownCap w k 0 E ≤ maxLen := grownCap_le_maxLen w k 0 E (by unfold maxLen; omega)
  have hrow : (w.drew.alloc (.cells (Builtin.zeroCells z.cells k ++ Builtin.zeroCells z.cells (grownCap w k 0 E - k)) E)).ownsRow w.heap.size E (t.width U.wd) (.slice (some ⟨w.heap.size, 0, none⟩) 0 (grownCap w k 0 E)) 0 [] := by
    refine ⟨by simp, .inr ⟨w.heap.size, _, _, rfl, Nat.le_refl _, halloc_new w.drew _, by omega, hcm, ?_, by simp⟩⟩
    simp only [Array.size_append, size_zeroCells, hzs, ← Nat.add_mul]
    congr 1
    omega
  have hbel : RowKit.Below w.heap.size w (w.drew.alloc (.cells (Builtin.zeroCells z.cells k ++ Builtin.zeroCells z.cells (grownCap w k 0 E - k)) E)) := ⟨rfl, rfl, rfl, by simp, fun b hb => halloc_old w.drew _ b hb⟩
  obtain ⟨ι', hN, hV⟩ := Nx.rowBlk (U := U) (O := O) (t := t) (ι := ι) (S := S) (d := d) (s := { rs := rs, ws := .vec d (t.width U.wd) 0 k, pb := [(d, .row E t ([] : List (t.den U.T)) false)], nn := [d] }) (xs := []) hrow hbel rfl rfl rfl rfl hlt (fun i h => absurd h (by simp))
  refine opWp_plain hg ?_
  unfold Oper.wp
  have he : execOp a.eval o = vOf (Builtin.append_ #[T, Ti] o.type #[a.eval x, a.eval y]) := by rw [exec_builtin ho]; simp [builtin, vOf]
  rw [he, hx0, hy0, run_vOf hrun]
  refine hK _ S ι' _ hN ?_
  rcases hV with ⟨_, _, _, h⟩ | ⟨b, c, o', h1, h2, h3, h4⟩
  · cases h
  · have h3 : (⟨w.heap.size, 0, none⟩ : Addr) = ⟨b, o', none⟩ ∧ grownCap w k 0 E = c - 0 := by simpa using h3
    obtain ⟨h5, h6⟩ := h3
    have h7 : w.heap.size = b ∧ 0 = o' := by simpa using h5
    obtain ⟨rfl, rfl⟩ := h7
    exact .inr ⟨w.heap.size, c, 0, h1, by omega, by rw [h6], .inl (by simp)⟩
end
end Go.AM
namespace Go.AM
open Go
set_option linter.unusedVariables false
theorem View.ofAgg {U : Univ} {vw : List (Nat × Blk U)} {n : Nat} {x : U.T n} {us us' : List (AVal U)} (hv : Views U vw us us') (hm : Made U (.named n) us' (.p (.named n) x)) : View U vw (.agg us) (.p (.named n) x) :=
  .agg fun O S ι w u hb hu => by
    obtain ⟨vs, hvs, rfl⟩ := hu
    exact hm.of (hv.ev hb hvs)
section
variable {U : Univ} {O : Out}
theorem Conv.shrinkN {st : St U} (n E m : Nat) (ty : Ty) (xs : List (ty.den U.T)) (fx : Bool) (hin : (n, Blk.row E ty xs fx) ∈ st.hp) : Conv U O st ⟨st.sl, setA st.hp n (.row E ty (xs.take m) false)⟩ := by
  intro B S ι a w hR
  have hm : ∀ k ∈ nm (setA st.hp n (Blk.row E ty (xs.take m) false)), k ∈ nm st.hp := fun k hk => by
    obtain ⟨x, hx, rfl⟩ := List.mem_map.1 hk
    rcases mem_setA hx with rfl | ⟨h1, _⟩
    · show n ∈ nm st.hp
      exact mem_nm hin
    · exact mem_nm h1
  refine ⟨S, ι, { hR with hp := fun x hx => ?_, own := ⟨fun k hk => hR.own.out k (hm k hk), fun k hk j hj => hR.own.sep k (hm k hk) j (hm j hj)⟩, mine := fun k hk => hR.mine k (hm k hk) }⟩
  rcases mem_setA hx with rfl | ⟨h1, _⟩
  · rcases hR.hp _ hin with ⟨h1, h2, h3⟩ | ⟨b, c, arr, cs, h1, h2, h3, h4, h5, h6, h7, h8⟩
    · exact .inl ⟨h1, by rw [h2]; simp, rfl⟩
    · refine .inr ⟨b, c, arr, cs, h1, h2, h3, h4, by rw [List.length_take]; omega, (fun h => by cases h), fun i h => ?_, fun i j h => ?_⟩
      · rw [List.length_take] at h
        rw [List.getElem_take]; exact h7 i (by omega)
      · rw [List.length_take] at h; exact h8 i j (by omega)
  · exact hR.hp x h1
end
section
variable {U : Univ} {O : Out} {P : Program} {S : Nat → Prop} {ι : Lay} {w : World} {rs : List (Nat × AVal U)} {a : Act} {ops : Array Oper} {o : Oper}
theorem zeroCells_mem {z : Array Value} {n : Nat} {v : Value} (h : v ∈ (Builtin.zeroCells z n).toList) : v ∈ z.toList := by
  simp only [Builtin.zeroCells, Array.toList_map, List.mem_map] at h
  obtain ⟨i, hi, rfl⟩ := h
  have hi : i < n * z.size := by simpa using hi
  have h0 : 0 < z.size := by
    rcases Nat.eq_zero_or_pos z.size with h | h
    · rw [h] at hi; omega
    · exact h
  have hm := Nat.mod_lt i h0
  rw [getElem!_pos z _ hm]
  simp
/-- The end of a row cleared: the row is cut short. -/
theorem sok_clearTail {T E : TypeId} {t : Ty} {by_ n off len : Nat} {xs : List (t.den U.T)} {fx : Bool} {x : Operand} (hg : o.guard = none) (_ : o.dst = none) (ho : o.op = .call { callee := .builtin .clear, args := #[x], argTypes := #[T] })
    (hT : RowOk P U T E t by_) (hz1 : (P.info? E).map (fun i => i.zero.map fun z => z.cells.toList.all Value.oneCell') = some (some true)) (hx : Opd U rs x (.vec n (t.width U.wd) off len)) (hl : off + len = xs.length) :
    SOk U O P ops o { rs := rs, cb := [(n, .row E t xs fx)], pb := [(n, .row E t (xs.take off) false)] } := by
  intro S ι w a hlt hgl hrs hro hcb hown K Q hK
  obtain ⟨i, z, hi, hz, hs, hb', hzs⟩ := hT.info
  have hall : z.cells.toList.all Value.oneCell' = true := by
    rw [hi] at hz1
    simp only [Option.map_some, hz, Option.some.injEq] at hz1
    exact hz1
  have hB := hcb _ List.mem_cons_self
  refine opWp_plain hg ?_
  unfold Oper.wp
  have he : execOp a.eval o = vOf (Builtin.clear_ #[T] o.type #[a.eval x]) := by rw [exec_builtin ho]; simp [builtin, vOf]
  have hcut : BR U O S ι w n (.row E t (xs.take off) false) := by
    rcases hB with ⟨h1, h2, h3⟩ | ⟨b, c, arr, cs, h1, h2, h3, h4, h5, h6, h7, h8⟩
    · exact .inl ⟨h1, by rw [h2]; simp, rfl⟩
    · refine .inr ⟨b, c, arr, cs, h1, h2, h3, h4, by rw [List.length_take]; omega, (fun h => by cases h), fun i h => ?_, fun i j h => ?_⟩
      · rw [List.length_take] at h
        rw [List.getElem_take]; exact h7 i (by omega)
      · rw [List.length_take] at h; exact h8 i j (by omega)
  have hnil : ∀ ad cap, (Builtin.clear_ #[T] o.type #[.slice ad 0 cap]).run P w = .ok (.tuple #[]) w := fun ad cap => by
    cases ad <;> simp [Builtin.clear_, run_underlying hT.sl.under]
  have same : ∀ u w', (Builtin.clear_ #[T] o.type #[a.eval x]).run P w = .ok u w' → w' = w → (execOp a.eval o).run P w = (vOf (pure u)).run P w := fun u w' h e => by rw [he]; subst e; rw [run_vOf h]; rfl
  rcases hx.ev hrs with ⟨hn, h0, h1, hu⟩ | ⟨b', c', o', hn, hoc, hu, hor⟩
  · rw [he, hu, run_vOf (hnil none 0)]
    refine hK _ S ι _ ⟨rfl, rfl, rfl, Nat.le_refl _, fun _ h => h, fun _ h => .inl h, hlt, fun _ _ _ => rfl, fun _ _ => rfl, fun x hx => ?_, fun k hk b c hb => ?_, fun k hk j hj hne => ?_⟩ trivial
    · simp at hx; subst hx; exact hcut
    · simp at hk; subst hk; rw [hn] at hb; cases hb
    · simp at hk hj; exact absurd (hk.trans hj.symm) hne
  · rcases hB with ⟨h1, _⟩ | ⟨b, c, arr, cs, h1, h2, h3, h4, h5, h6, h7, h8⟩
    · rw [hn] at h1; cases h1
    rw [hn] at h1
    obtain ⟨rfl, rfl⟩ : b' = b ∧ c' = c := by simpa using h1
    have hSb : ¬ S b' := (hown.out n (by simp) b' c' hn).1
    by_cases h0 : len = 0
    · subst h0
      rw [he, hu, run_vOf (hnil _ _)]
      refine hK _ S ι _ ⟨rfl, rfl, rfl, Nat.le_refl _, fun _ h => h, fun _ h => .inl h, hlt, fun _ _ _ => rfl, fun _ _ => rfl, fun x hx => ?_, fun k hk b c hb => ?_, fun k hk j hj hne => ?_⟩ trivial
      · simp at hx; subst hx; exact hcut
      · simp at hk; subst hk
        rw [hn] at hb
        obtain ⟨rfl, rfl⟩ : b' = b ∧ c' = c := by simpa using hb
        exact ⟨hSb, (Array.getElem?_eq_some_iff.1 h2).1, .inr ⟨k, by simp [nm], _, hn⟩⟩
      · simp at hk hj; exact absurd (hk.trans hj.symm) hne
    · have hw0 := hT.pos
      have ho' : o' = off * t.width U.wd := by
        rcases hor with h | h
        · exact h
        · omega
      subst ho'
      obtain ⟨m, rfl⟩ : ∃ m, len = m + 1 := ⟨len - 1, by omega⟩
      let vs := (Builtin.zeroCells z.cells (m + 1)).toList
      have hvl : vs.length = (m + 1) * t.width U.wd := by simp only [vs, Array.length_toList, size_zeroCells, hzs]
      have hmul : off * t.width U.wd + (m + 1) * t.width U.wd ≤ c' * t.width U.wd := by rw [← Nat.add_mul]; exact Nat.mul_le_mul_right _ (by omega)
      have hst := run_storeCells_at P b' (off * t.width U.wd) E vs 0 arr w h2 (by rw [hvl, h3]; omega) (by
        intro v hv
        exact List.all_eq_true.1 hall v (zeroCells_mem hv))
      have hst' : (storeCells ⟨b', off * t.width U.wd, none⟩ vs).run P w = _ := hst
      have hr : (Builtin.clear_ #[T] o.type #[a.eval x]).run P w = .ok (.tuple #[]) (w.setRow b' (arr.toList.take (off * t.width U.wd + 0) ++ vs ++ arr.toList.drop (off * t.width U.wd + 0 + vs.length)).toArray) := by
        rw [hu]
        simp [Builtin.clear_, run_underlying hT.sl.under, zeroValue, typeInfo, hi, hz]
        rw [show (Builtin.zeroCells z.cells (m + 1)).toList = vs from rfl, hst']
        simp
      rw [he, run_vOf hr]
      refine hK _ S ι _ (Nx.setRow (n := n) (b := b') (c := c') rfl rfl hn hSb hlt h2 ?_) trivial
      have hS' : ∀ k, S k → (w.setRow b' (arr.toList.take (off * t.width U.wd + 0) ++ vs ++ arr.toList.drop (off * t.width U.wd + 0 + vs.length)).toArray).heap[k]? = w.heap[k]? := fun k hk => setRow_other w b' k _ fun e' => hSb (e' ▸ hk)
      refine .inr ⟨b', c', _, cs, hn, setRow_heap w b' arr _ E _ h2, ?_, h4, by rw [List.length_take]; omega, (fun h => by cases h), fun j hj => ?_, fun j r hj hr' => ?_⟩
      · simp only [List.size_toArray, List.length_append, List.length_take, List.length_drop, Array.length_toList, hvl]; omega
      · rw [List.length_take] at hj
        rw [List.getElem_take]; exact (h7 j (by omega)).mono hS' fun _ h => h
      · rw [List.length_take] at hj
        have hjo : (j + 1) * t.width U.wd ≤ off * t.width U.wd := Nat.mul_le_mul_right _ (by omega)
        rw [Nat.add_mul] at hjo
        rw [← h8 j r (by omega) hr', List.getElem?_toArray, List.append_assoc, List.getElem?_append_left (by rw [List.length_take, Array.length_toList]; omega), List.getElem?_take_of_lt (by omega), Array.getElem?_toList]
end
end Go.AM
namespace Go.AM
open Go
set_option linter.unusedVariables false
section
variable {U : Univ} {O : Out} {P : Program} {B : Base}
theorem WpC.label {l : Nat} {st : St U} {Q : PostQ U} (h : Q .normal st) : WpC U O P B (.label l) st Q := fun S ι _ _ hR => wp_label ⟨st, h, S, ι, hR⟩
def noGotoQ (Q : PostQ U) : PostQ U
  | .goto _, _ => False
  | e, st => Q e st
theorem noGotoQ_normal {Q : PostQ U} {st : St U} (h : Q .normal st) : noGotoQ Q .normal st := h
theorem noGotoQ_ret {Q : PostQ U} {st : St U} (h : Q .ret st) : noGotoQ Q .ret st := h
theorem noGotoQ_exit {Q : PostQ U} {st : St U} {id : Nat} (h : Q (.exit id) st) : noGotoQ Q (.exit id) st := h
theorem WpC.scope {c : Code} {st : St U} {Q : PostQ U} (h : WpC U O P B c st (noGotoQ Q)) : WpC U O P B (.scope c) st Q := fun S ι a w hR =>
  wp_scope_straight (wp_mono (h S ι a w hR) fun e a' w' ⟨st', hQ, r⟩ => by
    cases e with
    | goto l => exact hQ.elim
    | _ => exact ⟨st', hQ, r⟩)
end
section
variable {U : Univ} {O : Out}
theorem Conv.freezeP {st : St U} (t n : Nat) (ty : Ty) (x : ty.den U.T) (us : List (AVal U)) (hin : (t, AVal.loc n 0) ∈ st.sl) (hx : Expl U ty x us) (hb : (n, Blk.box us) ∈ st.hp) (hn : ∀ x ∈ st.hp, n ∉ Blk.names U x.2) :
    Conv U O st ⟨setA st.sl t (.p (.ptr ty) (some x : Option (ty.den U.T))), st.hp.filter fun x => !(x.1 == n)⟩ := by
  intro B S ι a w hR
  have hB := hR.hp _ hb
  have hmem : ∀ x ∈ st.hp.filter (fun x => !(x.1 == n)), x ∈ st.hp ∧ x.1 ≠ n := fun x hx => by
    obtain ⟨h1, h2⟩ := List.mem_filter.1 hx
    exact ⟨h1, by simpa using h2⟩
  have hmn : ∀ k ∈ nm (st.hp.filter fun x => !(x.1 == n)), k ∈ nm st.hp ∧ k ≠ n := fun k hk => by
    obtain ⟨x, hx, rfl⟩ := List.mem_map.1 hk
    exact ⟨mem_nm (hmem x hx).1, (hmem x hx).2⟩
  have hnin : n ∈ nm st.hp := mem_nm hb
  obtain ⟨b, c, vs, arr, e, h1, h2, h3, h4, h5⟩ := hB
  refine ⟨fun b => S b ∨ ∃ c, ι n = some (b, c), ι, { hR with sl := fun y hy => ?_, hp := fun x hx => ?_, own := ⟨fun k hk b c hb => ?_, fun k hk j hj => hR.own.sep k (hmn k hk).1 j (hmn j hj).1⟩, mine := (fun k hk => hR.mine k (hmn k hk).1), lt := fun b h => ?_, gl := hR.gl.mono (fun _ _ => rfl) (fun _ h => .inl h), sub := fun b h => .inl (hR.sub b h), new := fun b h => ?_ }⟩
  · rcases mem_setA hy with rfl | ⟨h6, _⟩
    · obtain ⟨b', c', h7, h8⟩ := hR.sl _ hin
      rw [h1] at h7
      obtain ⟨rfl, rfl⟩ : b = b' ∧ c = c' := by simpa using h7
      have hr := (hx.of h2).mono (S' := fun b => S b ∨ ∃ c, ι n = some (b, c)) (fun _ _ => rfl) (fun _ h => .inl h)
      refine ⟨[a.tmps.getD t undef], ?_, rfl⟩
      show Rd U O _ w (.ptr ty) _ [a.tmps.getD t undef]
      rw [h8]
      refine .pto ty x b 0 (cellsOf vs) (.inr ⟨c, h1⟩) hr fun j hj => ?_
      rw [cell_of_row w b _ arr _ (0, 0) h5, Nat.zero_add, ← Array.getElem?_toList, h4]; rfl
    · exact VV.mono (fun _ _ => rfl) (fun _ h => .inl h) _ _ (fun _ _ => rfl) (hR.sl y h6)
  · exact BR.mono (fun _ _ => rfl) (fun _ h => .inl h) rfl (fun _ _ => rfl) (fun _ _ _ => rfl) (hR.hp x (hmem x hx).1)
  · refine ⟨fun h => ?_, (hR.own.out k (hmn k hk).1 b c hb).2⟩
    rcases h with h | ⟨c', h⟩
    · exact (hR.own.out k (hmn k hk).1 b c hb).1 h
    · exact hR.own.sep k (hmn k hk).1 n hnin (hmn k hk).2 b c c' hb h
  · rcases h with h | ⟨c, h⟩
    · exact hR.lt b h
    · exact (hR.own.out n hnin b c h).2
  · rcases h with h | ⟨c, h⟩
    · exact hR.new b h
    · exact .inr (hR.mine n hnin b c h)
theorem Conv.freezeQ {st : St U} (t n : Nat) (ty : Ty) (x : ty.den U.T) (us : List (AVal U)) (hin : (t, AVal.loc n 0) ∈ st.sl) (hx : Expl U ty x us) (hb : (n, Blk.box us) ∈ st.hp) (hn : ∀ x ∈ st.hp, n ∉ Blk.names U x.2) :
    Conv U O st ⟨setA st.sl t (.pp ty x), st.hp.filter fun x => !(x.1 == n)⟩ := by
  intro B S ι a w hR
  have hB := hR.hp _ hb
  have hmem : ∀ x ∈ st.hp.filter (fun x => !(x.1 == n)), x ∈ st.hp ∧ x.1 ≠ n := fun x hx => by
    obtain ⟨h1, h2⟩ := List.mem_filter.1 hx
    exact ⟨h1, by simpa using h2⟩
  have hmn : ∀ k ∈ nm (st.hp.filter fun x => !(x.1 == n)), k ∈ nm st.hp ∧ k ≠ n := fun k hk => by
    obtain ⟨x, hx, rfl⟩ := List.mem_map.1 hk
    exact ⟨mem_nm (hmem x hx).1, (hmem x hx).2⟩
  have hnin : n ∈ nm st.hp := mem_nm hb
  obtain ⟨b, c, vs, arr, e, h1, h2, h3, h4, h5⟩ := hB
  refine ⟨fun b => S b ∨ ∃ c, ι n = some (b, c), ι, { hR with sl := fun y hy => ?_, hp := fun x hx => ?_, own := ⟨fun k hk b c hb => ?_, fun k hk j hj => hR.own.sep k (hmn k hk).1 j (hmn j hj).1⟩, mine := (fun k hk => hR.mine k (hmn k hk).1), lt := fun b h => ?_, gl := hR.gl.mono (fun _ _ => rfl) (fun _ h => .inl h), sub := fun b h => .inl (hR.sub b h), new := fun b h => ?_ }⟩
  · rcases mem_setA hy with rfl | ⟨h6, _⟩
    · obtain ⟨b', c', h7, h8⟩ := hR.sl _ hin
      rw [h1] at h7
      obtain ⟨rfl, rfl⟩ : b = b' ∧ c = c' := by simpa using h7
      have hr := (hx.of h2).mono (S' := fun b => S b ∨ ∃ c, ι n = some (b, c)) (fun _ _ => rfl) (fun _ h => .inl h)
      refine ⟨b, 0, cellsOf vs, h8, .inr ⟨c, h1⟩, hr, fun j hj => ?_⟩
      rw [cell_of_row w b _ arr _ (0, 0) h5, Nat.zero_add, ← Array.getElem?_toList, h4]; rfl
    · exact VV.mono (fun _ _ => rfl) (fun _ h => .inl h) _ _ (fun _ _ => rfl) (hR.sl y h6)
  · exact BR.mono (fun _ _ => rfl) (fun _ h => .inl h) rfl (fun _ _ => rfl) (fun _ _ _ => rfl) (hR.hp x (hmem x hx).1)
  · refine ⟨fun h => ?_, (hR.own.out k (hmn k hk).1 b c hb).2⟩
    rcases h with h | ⟨c', h⟩
    · exact (hR.own.out k (hmn k hk).1 b c hb).1 h
    · exact hR.own.sep k (hmn k hk).1 n hnin (hmn k hk).2 b c c' hb h
  · rcases h with h | ⟨c, h⟩
    · exact hR.lt b h
    · exact (hR.own.out n hnin b c h).2
  · rcases h with h | ⟨c, h⟩
    · exact hR.new b h
    · exact .inr (hR.mine n hnin b c h)
end
section
variable {U : Univ} {O : Out} {P : Program} {S : Nat → Prop} {ι : Lay} {w : World} {rs : List (Nat × AVal U)} {a : Act} {ops : Array Oper} {o : Oper}
theorem ptrV_p {t : Ty} {q : Option (t.den U.T)} : PtrV U (.p (.ptr t) q) q.isNone := fun O S ι w u ⟨cs, hr, hu⟩ => by
  cases hr with
  | pnil => exact ⟨none, hu, rfl⟩
  | pto _ x b o cs => exact ⟨some _, hu, rfl⟩
theorem sok_nilCheckP {t : Ty} {x : Operand} {q : Option (t.den U.T)} {y : t.den U.T} (hg : o.guard = none) (ho : o.op = .nilCheck x) (hx : Opd U rs x (.p (.ptr t) q)) (hq : q = some y) : SOk U O P ops o { rs := rs, ws := .pp t y } :=
  sok_val hg fun S ι w a hrs _ => by
    subst hq
    obtain ⟨cs, hr, hu⟩ := hx.ev hrs
    cases hr with
    | pto _ _ b o' cs hS hx' hc =>
    refine ⟨a.eval x, ?_, b, o', cs, hu, hS, hx', hc⟩
    unfold execOp
    rw [ho]
    have hu' : a.eval x = .pointer (some ⟨b, o', none⟩) := hu
    simp only [hu', Sem.run_pure]
theorem sok_sliceA {T E : TypeId} {t : Ty} {N : Nat} {x : Operand} {xs : List (t.den U.T)} (hg : o.guard = none) (ho : o.op = .slice T x none none none) (hT : P.underlying T = some (.array N E)) (hE : TyOk P U E t)
    (hx : Opd U rs x (.pp (.arr N t) xs)) : SOk U O P ops o { rs := rs, ws := .p (.list t) xs } :=
  sok_v hg _ (fun _ => exec_slice ho) fun S ι w a hrs _ => by
    obtain ⟨b, o', cs, hu, hS, hr, hc⟩ := hx.ev hrs
    cases hr with
    | arr _ _ _ cf hn hel =>
    have hw : ∀ i, i < N → (cf i).length = t.width U.wd := fun i hi => (hel i (by omega)).length
    refine ⟨.slice (some ⟨b, o', none⟩) xs.length xs.length, ?_, [_], .list t xs b o' xs.length cf hS (Nat.le_refl _) hel fun i j hi hj => ?_, rfl⟩
    · rw [hu]
      simp [Instr.sliceAt, Instr.sureAddr, Instr.sliceBounds, Sem.run_bind, Result.andThen_ok, run_underlying hT, run_sizeOf hE, hn, Addr.add]
    · have hlt : i * t.width U.wd + j < (Ty.arr N t).width U.wd := by
        have := Nat.mul_le_mul_right (t.width U.wd) (show i + 1 ≤ N by omega)
        rw [Nat.add_mul] at this
        show i * t.width U.wd + j < N * t.width U.wd
        omega
      rw [hc _ hlt]
      exact flatMap_range_get N _ cf hw i j (by omega) hj
end
end Go.AM
