/- The abstract layer, part U: memory across calls: names, zero variables, nil slices in variables, arrays in variables, shifts. -/
import Derived.Test.YthmbbdemecljpaaDoorK11AmT
namespace Go.AM

def injOnB (ρ : Nat → Nat) (l : List Nat) : Bool := l.all fun m => l.all fun n => !(ρ m == ρ n) || m == n
theorem injOn_of {ρ : Nat → Nat} {l : List Nat} (h : injOnB ρ l = true) : InjOn ρ l := by
  intro m hm n hn e
  have := List.all_eq_true.1 (List.all_eq_true.1 h m hm) n hn
  simpa [e] using this

def namesOkB {U : Univ} (c : CSpec U) : Bool :=
  (nm c.bs).all (fun n => Nat.ble K0 n) && c.nn.all (fun n => Nat.blt n K0) && (AVal.names U c.r).all (fun n => c.nn.contains n || Nat.ble K0 n) &&
  (nm c.bs').all (fun n => c.nn.contains n || Nat.ble K0 n) && c.bs'.all (fun x => (Blk.names U x.2).all fun n => c.nn.contains n || Nat.ble K0 n) &&
  (nm c.bs').all (fun n => c.nn.contains n || (nm c.bs).contains n)
theorem namesOk_of {U : Univ} {c : CSpec U} (h : namesOkB c = true) : NamesOk c := by
  unfold namesOkB at h
  simp only [Bool.and_eq_true, List.all_eq_true] at h
  obtain ⟨⟨⟨⟨⟨h1, h2⟩, h3⟩, h4⟩, h5⟩, h6⟩ := h
  have k : ∀ n, (c.nn.contains n || Nat.ble K0 n) = true → n ∈ c.nn ∨ K0 ≤ n := fun n h => by
    rw [Bool.or_eq_true] at h
    exact h.imp (fun h => by simpa using h) fun h => Nat.le_of_ble_eq_true h
  refine ⟨fun n hn => Nat.le_of_ble_eq_true (h1 n hn), fun n hn => Nat.le_of_ble_eq_true (h2 n hn), fun n hn => k n (h3 n hn), fun n hn => k n (h4 n hn), fun x hx n hn => k n (h5 x hx n hn), fun n hn => ?_⟩
  have := h6 n hn
  rw [Bool.or_eq_true] at this
  exact this.imp (fun h => by simpa using h) fun h => by simpa using h

theorem ain_nil {α : Type} {l : List α} : ∀ x ∈ ([] : List α), x ∈ l := fun x h => by cases h
theorem ain_cons {α : Type} {y : α} {ys l : List α} (h : y ∈ l) (hs : ∀ x ∈ ys, x ∈ l) : ∀ x ∈ y :: ys, x ∈ l := fun x hx => by
  rcases List.mem_cons.1 hx with rfl | h1
  · exact h
  · exact hs x h1

/-- A whole row, shown; its length in other words. -/
theorem View.whole' {U : Univ} {vw : List (Nat × Blk U)} {n e len : Nat} {t : Ty} {xs : List (t.den U.T)} {fx : Bool} (h : (n, Blk.row e t xs fx) ∈ vw) (hl : len = xs.length) :
    View U vw (.vec n (t.width U.wd) 0 len) (.p (.list t) xs) := by subst hl; exact View.whole h

theorem View.cast {U : Univ} {vw : List (Nat × Blk U)} {n w o len len' : Nat} (h : len = len') : View U vw (.vec n w o len) (.vec n w o len') := h ▸ .same _

theorem rd_str0 {U : Univ} {O : Out} {S : Nat → Prop} {w : World} : Rd U O S w .str ([] : List UInt8) [.string ByteArray.empty] := .str ByteArray.empty

theorem Conv.cast {U : Univ} {O : Out} {st st' : St U} (h : st = st') : Conv U O st st' := h ▸ Conv.refl st

def upd {α : Type} (l : List α) (i : Nat) (x : α) : List α := l.set i x
theorem upd_length {α : Type} (l : List α) (i : Nat) (x : α) : (upd l i x).length = l.length := by simp [upd]

section
variable {U : Univ} {O : Out} {P : Program} {S : Nat → Prop} {ι : Lay} {w : World} {rs : List (Nat × AVal U)} {a : Act} {ops : Array Oper} {o : Oper}

/-- Units that are a type's zero. -/
inductive ZU (U : Univ) : List (AVal U) → List Value → Prop
  | nil : ZU U [] []
  | lit {c : Value} {us : List (AVal U)} {cs : List Value} (h : c.oneCell' = true) : ZU U us cs → ZU U (.lit c :: us) (c :: cs)
  | data {t : Ty} {x : t.den U.T} {ds : List Value} {us : List (AVal U)} {cs : List Value} (h : ∀ (O : Out) S w, Rd U O S w t x ds) : ZU U us cs → ZU U (.p t x :: us) (ds ++ cs)

theorem ZU.to {us : List (AVal U)} {cs : List Value} (h : ZU U us cs) : ∃ vs, VVs U O S ι w us vs ∧ cellsOf vs = cs ∧ ∀ v ∈ vs, ∀ c ∈ v.cells.toList, c.oneCell' = true := by
  induction h with
  | nil => exact ⟨[], rfl, rfl, fun v hv => by cases hv⟩
  | @lit c us cs h _ ih =>
    obtain ⟨vs, h1, h2, h3⟩ := ih
    refine ⟨c :: vs, ⟨c, vs, rfl, ⟨rfl, h⟩, h1⟩, ?_, fun v hv => ?_⟩
    · simp only [cellsOf, List.flatMap_cons, cells_of_one h] at h2 ⊢; rw [h2]; rfl
    · rcases List.mem_cons.1 hv with rfl | hv
      · rw [cells_of_one h]; intro x hx; simp at hx; rw [hx]; exact h
      · exact h3 v hv
  | @data t x ds us cs h _ ih =>
    obtain ⟨vs, h1, h2, h3⟩ := ih
    have hd := h O S w
    refine ⟨mkV t.isAgg ds :: vs, ⟨_, vs, rfl, ⟨ds, hd, rfl⟩, h1⟩, ?_, fun v hv => ?_⟩
    · simp only [cellsOf, List.flatMap_cons, hd.cells] at h2 ⊢; rw [h2]
    · rcases List.mem_cons.1 hv with rfl | hv
      · rw [hd.cells]; exact hd.one
      · exact h3 v hv

/-- A new variable, empty: its units as they are known of the type's zero. -/
theorem sok_allocZ {T : TypeId} {d : Nat} {us : List (AVal U)} {cs : List Value} {v : Value} (hg : o.guard = none) (_ : o.dst = some d) (ho : o.op = .alloc T)
    (hz : (P.info? T).bind (·.zero) = some v) (hc : v.cells.toList = cs) (hu : ZU U us cs) (hn : (AVal.namesL U us).contains d = false) :
    SOk U O P ops o { rs := rs, ws := .loc d 0, pb := [(d, .box us)], nn := [d] } := by
  have hn' : d ∉ AVal.namesL U us := by simpa using hn
  intro S ι w a hlt hgl hrs hro hcb hown K Q hK
  obtain ⟨vs, h1, h2, h3⟩ := hu.to (O := O) (S := S) (ι := ι) (w := w)
  cases hi : P.info? T with
  | none => rw [hi] at hz; cases hz
  | some i =>
  rw [hi] at hz
  have hv : i.zero = some v := hz
  refine opWp_plain hg ?_
  unfold Oper.wp
  rw [exec_alloc ho]
  have hr : (Instr.alloc T true (.tuple #[])).run P w = .ok (.pointer (some ⟨w.heap.size, 0, none⟩)) (w.alloc (.cells v.cells T)) := by
    simp only [Instr.alloc, zeroValue, typeInfo, hi, hv, newVar, newRow, newObj, program, Sem.run_bind, Sem.run, Result.andThen_ok, Sem.run_pure]
    rfl
  rw [run_vOf hr]
  refine hK _ S _ _ (Nx.alloc (s := { rs := rs, ws := .loc d 0, pb := [(d, .box us)], nn := [d] }) (.cells v.cells T) rfl rfl rfl hlt 0 ?_) ⟨w.heap.size, 0, by simp, rfl⟩
  exact ⟨w.heap.size, 0, vs, v.cells, T, by simp, VVs.alloc hlt hn' h1, h3, by rw [hc, ← h2]; rfl, heap_alloc_new w _⟩

theorem rd_zeros (n : Nat) (k : IntKind) (O : Out) (S : Nat → Prop) (w : World) : Rd U O S w (.arr n (.int k)) (List.replicate n (0 : Int)) ((List.range n).flatMap fun _ => [.int k 0]) :=
  .arr n (.int k) _ _ (List.length_replicate (n := n) (a := (0 : Int))) fun i hi => by
    have : (List.replicate n (0 : Int))[i]'hi = 0 := List.getElem_replicate ..
    rw [show ((List.replicate n (0 : Int) : List ((Ty.int k).den U.T))[i]'hi) = (0 : Int) from this]
    exact .int k 0

/-- What an operation lays down with a nil slice in it, with an empty row in its place. -/
theorem sok_thawU {s : LSpec U} {d m E : Nat} {t : Ty} (pre post : List (AVal U)) (rest : List (Nat × Blk U)) (h : SOk U O P ops o s) (hp : s.pb = (d, .box (pre ++ .lit (.slice none 0 0) :: post)) :: rest)
    (hm : (nm s.pb ++ AVal.names U s.ws ++ s.pb.flatMap (fun x => Blk.names U x.2) ++ nm s.cb).contains m = false) :
    SOk U O P ops o { s with pb := (d, .box (pre ++ .vec m (t.width U.wd) 0 0 :: post)) :: (m, .row E t [] false) :: rest, nn := m :: s.nn } := by
  have hm' : m ∉ nm s.pb ∧ m ∉ AVal.names U s.ws ∧ (∀ x ∈ s.pb, m ∉ Blk.names U x.2) ∧ m ∉ nm s.cb := by
    have : m ∉ (nm s.pb ++ AVal.names U s.ws ++ s.pb.flatMap (fun x => Blk.names U x.2) ++ nm s.cb) := fun hin => by
      rw [List.contains_eq_mem, decide_eq_false_iff_not] at hm; exact hm hin
    simp only [List.mem_append, List.mem_flatMap, not_or, not_exists, not_and] at this
    exact ⟨this.1.1.1, this.1.1.2, this.1.2, this.2⟩
  obtain ⟨hm1, hm2, hm3, hm4⟩ := hm'
  intro S ι w a hlt hgl hrs hro hcb hown K Q hK
  refine h S ι w a hlt hgl hrs hro hcb hown K Q fun u S' ι' w' hN hu => hK u S' (fun n => if n = m then none else ι' n) w' ?_ ?_
  · have hne : ∀ n, n ∈ nm s.pb → n ≠ m := fun n hn e => hm1 (e ▸ hn)
    have hlay : ∀ n, n ≠ m → (if n = m then none else ι' n) = ι' n := fun n hn => if_neg hn
    have hpd : d ≠ m := hne d (by rw [hp]; simp)
    have hprest : ∀ x ∈ rest, x ∈ s.pb := fun x hx => by rw [hp]; exact List.mem_cons_of_mem _ hx
    refine ⟨hN.os, hN.tape, hN.output, hN.size, hN.sub, hN.new, hN.lt, hN.keep, fun n hn => ?_, fun x hx => ?_, fun n hn b c hb => ?_, fun n hn k hk hnk b c c' hb => ?_⟩
    · simp only [List.mem_cons, not_or] at hn
      show (if n = m then none else ι' n) = _
      rw [hlay n hn.1]; exact hN.lay n hn.2
    · rcases List.mem_cons.1 hx with rfl | hx
      · have hB := hN.blk (d, .box (pre ++ .lit (.slice none 0 0) :: post)) (by rw [hp]; exact List.mem_cons_self)
        have hnB := hm3 (d, .box (pre ++ .lit (.slice none 0 0) :: post)) (by rw [hp]; exact List.mem_cons_self)
        have hB' := BR.mono (ι' := fun n => if n = m then none else ι' n) (fun _ _ => rfl) (fun _ h => h) (hlay d hpd) (fun k hk => hlay k fun e => hnB (e ▸ hk)) (fun _ _ _ => rfl) hB
        obtain ⟨b, c, vs, arr, e, h1, h2, h3, h4, h5⟩ := hB'
        obtain ⟨v1, v2, rfl, h6, h7⟩ := VVs.append.1 h2
        simp only [VVs] at h7
        obtain ⟨u', us', rfl, h8, h9⟩ := h7
        obtain ⟨rfl, _⟩ := h8
        exact ⟨b, c, v1 ++ .slice none 0 0 :: us', arr, e, h1, VVs.append.2 ⟨v1, _, rfl, h6, ⟨_, _, rfl, .inl ⟨if_pos rfl, rfl, rfl, rfl⟩, h9⟩⟩, h3, h4, h5⟩
      · rcases List.mem_cons.1 hx with rfl | hx
        · exact .inl ⟨if_pos rfl, rfl, rfl⟩
        · have hx' := hprest x hx
          exact BR.mono (fun _ _ => rfl) (fun _ h => h) (hlay _ (hne _ (mem_nm hx'))) (fun k hk => hlay k fun e => hm3 x hx' (e ▸ hk)) (fun _ _ _ => rfl) (hN.blk x hx')
    · have hn' : n = m ∨ n ∈ nm s.pb := by
        rw [hp]; simp only [nm, List.map_cons, List.mem_cons] at hn ⊢
        rcases hn with h | h | h
        · exact .inr (.inl h)
        · exact .inl h
        · exact .inr (.inr h)
      rcases hn' with rfl | hn'
      · simp at hb
      · rw [show (if n = m then none else ι' n) = ι' n from hlay n (hne n hn')] at hb
        exact hN.plc n hn' b c hb
    · have key : ∀ n, n ∈ nm ((d, Blk.box (pre ++ .vec m (t.width U.wd) 0 0 :: post)) :: (m, Blk.row E t [] false) :: rest) → n = m ∨ n ∈ nm s.pb := fun n hn => by
        rw [hp]; simp only [nm, List.map_cons, List.mem_cons] at hn ⊢
        rcases hn with h | h | h
        · exact .inr (.inl h)
        · exact .inl h
        · exact .inr (.inr h)
      rcases key n hn with rfl | hn'
      · simp at hb
      · rcases key k hk with rfl | hk'
        · simp
        · rw [show (if n = m then none else ι' n) = ι' n from hlay n (hne n hn')] at hb
          rw [show (if k = m then none else ι' k) = ι' k from hlay k (hne k hk')]
          exact hN.sep n hn' k hk' hnk b c c' hb
  · exact VV.mono (fun _ _ => rfl) (fun _ h => h) _ _ (fun n hn => if_neg fun (e : n = m) => hm2 (e ▸ hn)) hu

/-- An element's place in an array that lies in an owned variable. -/
theorem sok_indexA {T E : TypeId} {t : Ty} {n off q N : Nat} {x y : Operand} {k : IntKind} {i : Int} (hg : o.guard = none) (ho : o.op = .indexAddr T x y) (hT : P.underlying T = some (.array N E)) (hE : TyOk P U E t)
    (hx : Opd U rs x (.loc n off)) (hq : off = q * t.width U.wd) (hy : Opd U rs y (.p (.int k) i)) (hi : 0 ≤ i ∧ i < (N : Int)) :
    SOk U O P ops o { rs := rs, ws := .eloc n (t.width U.wd) (q + i.toNat) 0 } :=
  sok_v hg _ (fun _ => exec_indexAddr ho) fun S ι w a hrs _ => by
    obtain ⟨b, c, hn, hv⟩ := hx.ev hrs
    refine ⟨.pointer (some ⟨b, off + i.toNat * t.width U.wd, none⟩), ?_, b, c, hn, by rw [hq, Nat.add_mul]; simp⟩
    rw [hv, VV.int_iff.1 (hy.ev hrs)]
    simp only [Instr.indexAt, Instr.sureAddr, asIntOf, Sem.run_bind, Sem.run_pure, Result.andThen_ok, run_underlying hT, if_pos hi, run_sizeOf hE, Addr.add_lit]

/-- An element of an array that lies in an owned variable. -/
theorem sok_loadA {T : TypeId} {t : Ty} {n q i N : Nat} {x : Operand} (pre post : List (AVal U)) {xs : List (t.den U.T)} {e : t.den U.T} (hg : o.guard = none) (ho : o.op = .load T x) (ht : TyOk P U T t)
    (hx : Opd U rs x (.eloc n (t.width U.wd) (q + i) 0)) (hpre : pre.all AVal.unit = true) (hoff : unitsW pre = q * t.width U.wd) (he : xs[i]? = some e) :
    SOk U O P ops o { rs := rs, ro := [(n, .box (pre ++ [.p (.arr N t) xs] ++ post))], ws := .p t e } :=
  sok_v hg _ (fun _ => exec_load ho) fun S ι w a hrs hro => by
    obtain ⟨b, c, v1, v2, v3, arr, ety, h1, h2, h3, h4, h5, h6, h7, h8, _⟩ := box_parts (hro _ List.mem_cons_self) hpre (by rfl)
    obtain ⟨b', c', h9, h10⟩ := hx.ev hrs
    rw [h1] at h9
    obtain ⟨rfl, rfl⟩ : b = b' ∧ c = c' := by simpa using h9
    simp only [VVs] at h3
    obtain ⟨u, _, rfl, ⟨cs, hr, rfl⟩, rfl⟩ := h3
    have hcs : cellsOf [mkV (Ty.arr N t).isAgg cs] = cs := by simp [cellsOf, hr.cells]
    rw [hcs] at h5 h8
    obtain ⟨hi, he⟩ := List.getElem?_eq_some_iff.1 he
    have hl := hr.length
    cases hr with
    | arr _ _ _ cf hn hel =>
    have hce := (he ▸ hel i hi : Rd U O S w t e (cf i))
    refine ⟨mkV t.isAgg (cf i), ?_, cf i, hce, rfl⟩
    rw [h10]
    have hmul : (i + 1) * t.width U.wd ≤ N * t.width U.wd := Nat.mul_le_mul_right _ (by omega)
    rw [Nat.add_mul] at hmul
    refine run_loadAt ht hce.length fun j hj => ?_
    have hlen : ((List.range N).flatMap cf).length = N * t.width U.wd := hl
    rw [cell_of_row w b _ arr _ (0, 0) h6, ← Array.getElem?_toList, h5, List.append_assoc, List.getElem?_append_right (by rw [h7, hoff, Nat.add_mul]; omega), h7, hoff, List.getElem?_append_left (by rw [hlen, Nat.add_mul]; omega)]
    rw [← flatMap_range_get N (t.width U.wd) cf (fun k hk => (hel k (by omega)).length) i j (by omega) hj]
    congr 1
    rw [Nat.add_mul]
    omega

/-- A number moved by bits. -/
theorem sok_shl {t t' : TypeId} {x y : Operand} {k k' : IntKind} {m n : Int} (hg : o.guard = none) (ho : o.op = .binOp .shl t x y t') (hx : Opd U rs x (.p (.int k) m)) (hy : Opd U rs y (.p (.int k') n)) (hn : 0 ≤ n) :
    SOk U O P ops o { rs := rs, ws := .p (.int k) (k.wrap (m * 2 ^ (min n.toNat k.bits))) } :=
  sok_v hg _ (fun _ => exec_bin ho) fun S ι w a hrs _ => ⟨.int k (k.wrap (m * 2 ^ (min n.toNat k.bits))), by
    rw [VV.int_iff.1 (hx.ev hrs), VV.int_iff.1 (hy.ev hrs)]
    simp [go_sem, Op.shift, Int.not_lt.2 hn], VV.int_iff.2 rfl⟩
theorem sok_shr {t t' : TypeId} {x y : Operand} {k k' : IntKind} {m n : Int} (hg : o.guard = none) (ho : o.op = .binOp .shr t x y t') (hx : Opd U rs x (.p (.int k) m)) (hy : Opd U rs y (.p (.int k') n)) (hn : 0 ≤ n) :
    SOk U O P ops o { rs := rs, ws := .p (.int k) (m.fdiv (2 ^ (min n.toNat k.bits))) } :=
  sok_v hg _ (fun _ => exec_bin ho) fun S ι w a hrs _ => ⟨.int k (m.fdiv (2 ^ (min n.toNat k.bits))), by
    rw [VV.int_iff.1 (hx.ev hrs), VV.int_iff.1 (hy.ev hrs)]
    simp [go_sem, Op.shift, Int.not_lt.2 hn], VV.int_iff.2 rfl⟩
end
end Go.AM
