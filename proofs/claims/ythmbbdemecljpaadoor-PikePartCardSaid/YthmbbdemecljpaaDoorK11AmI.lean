/- The abstract layer, part I: owned memory: variables, structs. -/
import Derived.Test.YthmbbdemecljpaaDoorK11AmH
namespace Go.AM

section
variable {U : Univ} {O : Out} {P : Program} {S : Nat → Prop} {ι : Lay} {w : World} {rs : List (Nat × AVal U)} {a : Act} {ops : Array Oper} {o : Oper}

def cellsOf (vs : List Value) : List Value := vs.flatMap fun v => v.cells.toList

theorem cells_of_one {c : Value} (h : c.oneCell' = true) : c.cells = #[c] := by cases c <;> simp_all [Value.oneCell', Value.cells]

theorem Rd.cells {t : Ty} {x : t.den U.T} {cs : List Value} (h : Rd U O S w t x cs) : (mkV t.isAgg cs).cells.toList = cs := by
  cases hag : t.isAgg with
  | true => simp [mkV, Value.cells]
  | false =>
    have h1 := h.length
    rw [width_one hag] at h1
    match cs, h1 with
    | [c], _ => simp [mkV, cells_of_one (h.one c (by simp))]

/-- A datum in its units: its fields, as they lie one behind the other. -/
inductive Expl (U : Univ) : (t : Ty) → t.den U.T → List (AVal U) → Prop
  | one (t : Ty) (x : t.den U.T) : Expl U t x [.p t x]
  | pair {a b : Ty} {x : a.den U.T} {y : b.den U.T} {us vs : List (AVal U)} : Expl U a x us → Expl U b y vs → Expl U (.pair a b) (x, y) (us ++ vs)
  | unit : Expl U .unit () []
  | named {n : Nat} {x : U.T n} {us : List (AVal U)} : Expl U (U.body n) (U.out n x) us → Expl U (.named n) x us

theorem VVs.append {vs vs' : List (AVal U)} : ∀ {us : List Value}, VVs U O S ι w (vs ++ vs') us ↔ ∃ u1 u2, us = u1 ++ u2 ∧ VVs U O S ι w vs u1 ∧ VVs U O S ι w vs' u2 := by
  induction vs with
  | nil =>
    intro us
    simp only [List.nil_append, VVs]
    constructor
    · intro h; exact ⟨[], us, rfl, rfl, h⟩
    · rintro ⟨u1, u2, rfl, rfl, h⟩; exact h
  | cons v vs ih =>
    intro us
    simp only [List.cons_append, VVs]
    constructor
    · rintro ⟨u, us', rfl, h1, h2⟩
      obtain ⟨u1, u2, rfl, h3, h4⟩ := ih.1 h2
      exact ⟨u :: u1, u2, rfl, ⟨u, u1, rfl, h1, h3⟩, h4⟩
    · rintro ⟨u1, u2, rfl, ⟨u, us', rfl, h1, h2⟩, h3⟩
      exact ⟨u, us' ++ u2, rfl, h1, ih.2 ⟨us', u2, rfl, h2, h3⟩⟩

theorem Expl.to {t : Ty} {x : t.den U.T} {us : List (AVal U)} (h : Expl U t x us) : ∀ {cs : List Value}, Rd U O S w t x cs → ∃ vs, VVs U O S ι w us vs ∧ cellsOf vs = cs ∧ ∀ v ∈ vs, ∀ c ∈ v.cells.toList, c.oneCell' = true := by
  induction h with
  | one t x =>
    intro cs h
    refine ⟨[mkV t.isAgg cs], ⟨_, _, rfl, ⟨cs, h, rfl⟩, rfl⟩, by simp [cellsOf, h.cells], fun v hv c hc => ?_⟩
    simp at hv; subst hv
    rw [h.cells] at hc
    exact h.one c hc
  | pair _ _ ih1 ih2 =>
    intro cs h
    cases h with
    | pair h1 h2 =>
      obtain ⟨v1, a1, a2, a3⟩ := ih1 h1
      obtain ⟨v2, b1, b2, b3⟩ := ih2 h2
      refine ⟨v1 ++ v2, VVs.append.2 ⟨v1, v2, rfl, a1, b1⟩, by simp [cellsOf] at a2 b2 ⊢; rw [a2, b2], fun v hv => ?_⟩
      rcases List.mem_append.1 hv with hv | hv
      · exact a3 v hv
      · exact b3 v hv
  | unit =>
    intro cs h
    cases h
    exact ⟨[], rfl, rfl, fun v hv => by cases hv⟩
  | named _ ih =>
    intro cs h
    cases h with
    | named _ _ h => exact ih h

theorem Expl.of {t : Ty} {x : t.den U.T} {us : List (AVal U)} (h : Expl U t x us) : ∀ {vs : List Value}, VVs U O S ι w us vs → Rd U O S w t x (cellsOf vs) := by
  induction h with
  | one t x =>
    intro vs h
    simp only [VVs] at h
    obtain ⟨u, us', rfl, ⟨cs, h1, rfl⟩, rfl⟩ := h
    have := h1.cells
    simp only [cellsOf, List.flatMap_cons, List.flatMap_nil, List.append_nil, this]
    exact h1
  | pair _ _ ih1 ih2 =>
    intro vs h
    obtain ⟨u1, u2, rfl, h1, h2⟩ := VVs.append.1 h
    have : cellsOf (u1 ++ u2) = cellsOf u1 ++ cellsOf u2 := by simp [cellsOf]
    rw [this]
    exact .pair (ih1 h1) (ih2 h2)
  | unit =>
    intro vs h
    simp only [VVs] at h
    subst h
    exact .unit
  | named _ ih => exact fun h => .named _ _ (ih h)

/-- How many cells a unit has. -/
def AVal.wid : AVal U → Nat
  | .p t _ => t.width U.wd
  | _ => 1
def unitsW (us : List (AVal U)) : Nat := (us.map AVal.wid).sum

/-- Units may be data and handles, no rows of values. -/
def AVal.unit : AVal U → Bool
  | .junk | .agg _ | .tup _ => false
  | _ => true

theorem VV.cells {v : AVal U} {u : Value} (hu : v.unit = true) (h : VV U O S ι w v u) : u.cells.size = v.wid ∧ ∀ c ∈ u.cells.toList, c.oneCell' = true := by
  cases v <;> simp only [AVal.unit, Bool.false_eq_true] at hu
  · obtain ⟨rfl, h1⟩ := h; rw [cells_of_one h1]; exact ⟨rfl, fun c hc => by simp at hc; rw [hc]; exact h1⟩
  · rename_i t x
    obtain ⟨cs, h1, rfl⟩ := h
    have h2 := h1.cells
    refine ⟨?_, fun c hc => h1.one c (h2 ▸ hc)⟩
    rw [← Array.length_toList, h2]; exact h1.length
  · obtain ⟨b, o, cs, rfl, _⟩ := h; exact ⟨rfl, fun c hc => by simp [Value.cells] at hc; rw [hc]; rfl⟩
  · obtain ⟨b, c, _, rfl⟩ := h; exact ⟨rfl, fun c hc => by simp [Value.cells] at hc; rw [hc]; rfl⟩
  · obtain ⟨b, c, _, rfl⟩ := h; exact ⟨rfl, fun c hc => by simp [Value.cells] at hc; rw [hc]; rfl⟩
  · rcases h with ⟨_, _, _, rfl⟩ | ⟨b, c, o, _, _, rfl, _⟩ <;> exact ⟨rfl, fun c hc => by simp [Value.cells] at hc; rw [hc]; rfl⟩
  · obtain ⟨b, c, _, rfl⟩ := h; exact ⟨rfl, fun c hc => by simp [Value.cells] at hc; rw [hc]; rfl⟩
  · rename_i q n
    obtain ⟨h1, h2⟩ := h
    cases q
    · rw [h2 rfl]; exact ⟨rfl, fun c hc => by simp [Value.cells] at hc; rw [hc]; rfl⟩
    · obtain ⟨b, c, _, rfl⟩ := h1 rfl; exact ⟨rfl, fun c hc => by simp [Value.cells] at hc; rw [hc]; rfl⟩
  · obtain ⟨us, _, rfl⟩ := h; exact ⟨rfl, fun c hc => by simp [Value.cells] at hc; rw [hc]; rfl⟩

theorem VVs.cells {us : List (AVal U)} : ∀ {vs : List Value}, us.all AVal.unit = true → VVs U O S ι w us vs → (cellsOf vs).length = unitsW us ∧ ∀ v ∈ vs, ∀ c ∈ v.cells.toList, c.oneCell' = true := by
  induction us with
  | nil => intro vs _ h; simp only [VVs] at h; subst h; exact ⟨rfl, fun v hv => by cases hv⟩
  | cons x us ih =>
    intro vs hu h
    simp only [List.all_cons, Bool.and_eq_true] at hu
    simp only [VVs] at h
    obtain ⟨u, us', rfl, h1, h2⟩ := h
    obtain ⟨h3, h4⟩ := VV.cells hu.1 h1
    obtain ⟨h5, h6⟩ := ih hu.2 h2
    refine ⟨?_, fun v hv => ?_⟩
    · simp only [cellsOf, List.flatMap_cons, List.length_append, Array.length_toList, h3, unitsW, List.map_cons, List.sum_cons]
      exact congrArg (x.wid + ·) h5
    · rcases List.mem_cons.1 hv with rfl | hv
      · exact h4
      · exact h6 v hv

/-- The units that a value lays down. -/
inductive Units (U : Univ) : AVal U → List (AVal U) → Prop
  | data {t : Ty} {x : t.den U.T} {us : List (AVal U)} : Expl U t x us → Units U (.p t x) us
  | hand {v : AVal U} : v.unit = true → Units U v [v]
  | agg {vs : List (AVal U)} : Units U (.agg vs) vs

theorem Units.to {v : AVal U} {us : List (AVal U)} (h : Units U v us) (hu : us.all AVal.unit = true) {u : Value} (hv : VV U O S ι w v u) :
    ∃ vs, VVs U O S ι w us vs ∧ u.cells.toList = cellsOf vs ∧ (∀ v ∈ vs, ∀ c ∈ v.cells.toList, c.oneCell' = true) ∧ (cellsOf vs).length = unitsW us := by
  cases h with
  | data h =>
    obtain ⟨cs, h1, rfl⟩ := hv
    obtain ⟨vs, h2, h3, h4⟩ := h.to (ι := ι) h1
    exact ⟨vs, h2, by rw [h1.cells, h3], h4, (VVs.cells hu h2).1⟩
  | hand h =>
    have h1 : VVs U O S ι w [v] [u] := ⟨u, [], rfl, hv, rfl⟩
    exact ⟨[u], h1, by simp [cellsOf], (VVs.cells hu h1).2, (VVs.cells hu h1).1⟩
  | agg =>
    obtain ⟨vs, h1, rfl⟩ := hv
    exact ⟨vs, h1, by simp [Value.cells, cellsOf], (VVs.cells hu h1).2, (VVs.cells hu h1).1⟩

/-- A value of one cell that is no datum. -/
def AVal.isHand : AVal U → Bool
  | .junk | .agg _ | .tup _ | .p _ _ => false
  | _ => true

theorem VV.hand {v : AVal U} {u : Value} (hu : v.isHand = true) (h : VV U O S ι w v u) : u.oneCell' = true := by
  cases v <;> simp only [AVal.isHand, Bool.false_eq_true] at hu
  · obtain ⟨rfl, h1⟩ := h; exact h1
  · obtain ⟨b, o, cs, rfl, _⟩ := h; rfl
  · obtain ⟨b, c, _, rfl⟩ := h; rfl
  · obtain ⟨b, c, _, rfl⟩ := h; rfl
  · rcases h with ⟨_, _, _, rfl⟩ | ⟨b, c, o, _, _, rfl, _⟩ <;> rfl
  · obtain ⟨b, c, _, rfl⟩ := h; rfl
  · rename_i q n
    obtain ⟨h1, h2⟩ := h
    cases q
    · rw [h2 rfl]; rfl
    · obtain ⟨b, c, _, rfl⟩ := h1 rfl; rfl
  · obtain ⟨us, _, rfl⟩ := h; rfl

/-- The value of type t that units make. -/
inductive Made (U : Univ) (t : Ty) : List (AVal U) → AVal U → Prop
  | data {x : t.den U.T} {us : List (AVal U)} : Expl U t x us → Made U t us (.p t x)
  | hand {v : AVal U} : v.isHand = true → t.isAgg = false → Made U t [v] v
  | agg {vs : List (AVal U)} : t.isAgg = true → Made U t vs (.agg vs)

theorem Made.of {t : Ty} {us : List (AVal U)} {v : AVal U} (h : Made U t us v) {vs : List Value} (hv : VVs U O S ι w us vs) : VV U O S ι w v (mkV t.isAgg (cellsOf vs)) := by
  cases h with
  | data h => exact ⟨_, h.of hv, rfl⟩
  | hand h1 h2 =>
    simp only [VVs] at hv
    obtain ⟨u, us', rfl, h3, rfl⟩ := hv
    have := cells_of_one (VV.hand h1 h3)
    simp only [h2, mkV, cellsOf, List.flatMap_cons, this, List.flatMap_nil, List.append_nil, List.headD_cons]
    exact h3
  | agg h1 => exact ⟨vs, hv, by rw [h1]; rfl⟩

/-- A new variable's world. -/
theorem Nx.alloc {s : LSpec U} {d : Nat} {B : Blk U} (obj : Obj) (_ : s.cb = []) (hpb : s.pb = [(d, B)]) (hnn : s.nn = [d]) (hlt : ∀ b, S b → b < w.heap.size) (c : Nat)
    (hB : BR U O S (fun n => if n = d then some (w.heap.size, c) else ι n) (w.alloc obj) d B) :
    Nx U O s S ι w S (fun n => if n = d then some (w.heap.size, c) else ι n) (w.alloc obj) := by
  refine ⟨rfl, rfl, rfl, by simp, fun _ h => h, fun _ h => .inl h, fun b h => by have := hlt b h; simp; omega, fun b hb _ => heap_alloc_old w obj b hb, fun n hn => ?_, fun x hx => ?_, fun n hn b c' hb => ?_, fun n hn m hm hne => ?_⟩
  · rw [hnn] at hn
    exact if_neg (by simpa using hn)
  · rw [hpb] at hx
    simp at hx; subst hx
    exact hB
  · rw [hpb] at hn
    simp at hn; subst hn
    simp at hb
    obtain ⟨rfl, rfl⟩ := hb
    exact ⟨fun h => by have := hlt _ h; omega, by simp, .inl (Nat.le_refl _)⟩
  · rw [hpb] at hn hm
    simp at hn hm
    exact absurd (hn.trans hm.symm) hne

theorem exec_box {ρ : Operand → Value} {T : TypeId} {x : Operand} (ho : o.op = .box T x) : execOp ρ o = vOf (Instr.box T (ρ x)) := by unfold execOp; rw [ho]; rfl
theorem exec_alloc {ρ : Operand → Value} {T : TypeId} (ho : o.op = .alloc T) : execOp ρ o = vOf (Instr.alloc T true (.tuple #[])) := by unfold execOp; rw [ho]; rfl

theorem VVs.alloc {us : List (AVal U)} {vs : List Value} {d : Nat} {obj : Obj} {x : Nat × Nat} (hlt : ∀ b, S b → b < w.heap.size) (hn : d ∉ AVal.namesL U us) (h : VVs U O S ι w us vs) :
    VVs U O S (fun n => if n = d then some x else ι n) (w.alloc obj) us vs :=
  VVs.mono (fun b hb => heap_alloc_old w obj b (hlt b hb)) (fun _ h => h) us vs (fun n hm => if_neg fun (e : n = d) => hn (e ▸ hm)) h

/-- A variable made of a value. -/
theorem sok_box {T : TypeId} {d : Nat} {x : Operand} {v : AVal U} {us : List (AVal U)} (hg : o.guard = none) (_ : o.dst = some d) (ho : o.op = .box T x) (hx : Opd U rs x v) (hu : Units U v us)
    (hun : us.all AVal.unit = true) (hn : d ∉ AVal.namesL U us) : SOk U O P ops o { rs := rs, ws := .loc d 0, pb := [(d, .box us)], nn := [d] } := by
  intro S ι w a hlt hgl hrs hro hcb hown K Q hK
  obtain ⟨vs, h1, h2, h3, h4⟩ := hu.to hun (hx.ev hrs)
  refine opWp_plain hg ?_
  unfold Oper.wp
  rw [exec_box ho]
  have hr : (Instr.box T (a.eval x)).run P w = .ok (.pointer (some ⟨w.heap.size, 0, none⟩)) (w.alloc (.cells (a.eval x).cells T)) := by
    simp only [Instr.box, newVar, newRow, newObj, Sem.run_bind, Sem.run, Result.andThen_ok, Sem.run_pure]
    rfl
  rw [run_vOf hr]
  refine hK _ S _ _ (Nx.alloc (s := { rs := rs, ws := .loc d 0, pb := [(d, .box us)], nn := [d] }) (.cells (a.eval x).cells T) rfl rfl rfl hlt 0 ?_) ⟨w.heap.size, 0, by simp, rfl⟩
  exact ⟨w.heap.size, 0, vs, (a.eval x).cells, T, by simp, VVs.alloc hlt hn h1, h3, h2, heap_alloc_new w _⟩

/-- What the table says of a type's zero. -/
structure ZeroOk (P : Program) (U : Univ) (T : TypeId) (t : Ty) (z : t.den U.T) : Prop where
  h : ∃ i v, P.info? T = some i ∧ i.zero = some v ∧ ∀ O S w, ∃ cs, Rd U O S w t z cs ∧ v = mkV t.isAgg cs

/-- A new variable, empty. -/
theorem sok_alloc {T : TypeId} {d : Nat} {t : Ty} {z : t.den U.T} {us : List (AVal U)} (hg : o.guard = none) (_ : o.dst = some d) (ho : o.op = .alloc T) (hz : ZeroOk P U T t z) (hu : Expl U t z us)
    (hun : us.all AVal.unit = true) (hn : d ∉ AVal.namesL U us) : SOk U O P ops o { rs := rs, ws := .loc d 0, pb := [(d, .box us)], nn := [d] } := by
  intro S ι w a hlt hgl hrs hro hcb hown K Q hK
  obtain ⟨i, v, hi, hv, hall⟩ := hz.h
  obtain ⟨cs, hr, rfl⟩ := hall O S w
  obtain ⟨vs, h1, h2, h3, h4⟩ := (Units.data hu).to (ι := ι) hun (⟨cs, hr, rfl⟩ : VV U O S ι w (.p t z) (mkV t.isAgg cs))
  refine opWp_plain hg ?_
  unfold Oper.wp
  rw [exec_alloc ho]
  have hr : (Instr.alloc T true (.tuple #[])).run P w = .ok (.pointer (some ⟨w.heap.size, 0, none⟩)) (w.alloc (.cells (mkV t.isAgg cs).cells T)) := by
    simp only [Instr.alloc, zeroValue, typeInfo, hi, hv, newVar, newRow, newObj, program, Sem.run_bind, Sem.run, Result.andThen_ok, Sem.run_pure]
    rfl
  rw [run_vOf hr]
  refine hK _ S _ _ (Nx.alloc (s := { rs := rs, ws := .loc d 0, pb := [(d, .box us)], nn := [d] }) (.cells (mkV t.isAgg cs).cells T) rfl rfl rfl hlt 0 ?_) ⟨w.heap.size, 0, by simp, rfl⟩
  exact ⟨w.heap.size, 0, vs, (mkV t.isAgg cs).cells, T, by simp, VVs.alloc hlt hn h1, h3, h2, heap_alloc_new w _⟩

theorem cellsOf_append (a b : List Value) : cellsOf (a ++ b) = cellsOf a ++ cellsOf b := by simp [cellsOf]

/-- A variable's cells, parted. -/
theorem box_parts {n : Nat} {pre mid post : List (AVal U)} (hB : BR U O S ι w n (.box (pre ++ mid ++ post))) (hpre : pre.all AVal.unit = true) (hmid : mid.all AVal.unit = true) :
    ∃ b c v1 v2 v3 arr e, ι n = some (b, c) ∧ VVs U O S ι w pre v1 ∧ VVs U O S ι w mid v2 ∧ VVs U O S ι w post v3 ∧ arr.toList = cellsOf v1 ++ cellsOf v2 ++ cellsOf v3 ∧
      w.heap[b]? = some (.cells arr e (0, 0)) ∧ (cellsOf v1).length = unitsW pre ∧ (cellsOf v2).length = unitsW mid ∧ ∀ v ∈ v3, ∀ x ∈ v.cells.toList, x.oneCell' = true := by
  obtain ⟨b, c, vs, arr, e, h1, h2, h3, h4, h5⟩ := hB
  obtain ⟨v12, v3, rfl, h6, h7⟩ := VVs.append.1 h2
  obtain ⟨v1, v2, rfl, h8, h9⟩ := VVs.append.1 h6
  refine ⟨b, c, v1, v2, v3, arr, e, h1, h8, h9, h7, ?_, h5, (VVs.cells hpre h8).1, (VVs.cells hmid h9).1, fun v hv => h3 v (List.mem_append.2 (.inr hv))⟩
  rw [h4]
  show cellsOf _ = _
  rw [cellsOf_append, cellsOf_append]

/-- What lies at a place of an owned variable. -/
theorem sok_loadB {T : TypeId} {t : Ty} {n off : Nat} {x : Operand} (pre mid post : List (AVal U)) {v : AVal U} (hg : o.guard = none) (ho : o.op = .load T x) (ht : TyOk P U T t)
    (hx : Opd U rs x (.loc n off)) (hpre : pre.all AVal.unit = true) (hoff : unitsW pre = off) (hmid : mid.all AVal.unit = true) (hw : unitsW mid = t.width U.wd) (hv : Made U t mid v) :
    SOk U O P ops o { rs := rs, ro := [(n, .box (pre ++ mid ++ post))], ws := v } :=
  sok_v hg _ (fun _ => exec_load ho) fun S ι w a hrs hro => by
    obtain ⟨b, c, v1, v2, v3, arr, e, h1, h2, h3, h4, h5, h6, h7, h8, _⟩ := box_parts (hro _ List.mem_cons_self) hpre hmid
    obtain ⟨b', c', h9, h10⟩ := hx.ev hrs
    rw [h1] at h9
    obtain ⟨rfl, rfl⟩ : b = b' ∧ c = c' := by simpa using h9
    refine ⟨mkV t.isAgg (cellsOf v2), ?_, hv.of h3⟩
    rw [h10]
    refine run_loadAt ht (by rw [h8, hw]) fun j hj => ?_
    rw [cell_of_row w b (off + j) arr e (0, 0) h6, ← Array.getElem?_toList, h5, List.append_assoc, List.getElem?_append_right (by omega), h7, hoff, List.getElem?_append_left (by omega)]
    congr 1
    omega

theorem exec_store {ρ : Operand → Value} {T : TypeId} {x y : Operand} (ho : o.op = .store T x y) : execOp ρ o = (do Instr.storeAt T (ρ x) (ρ y); pure .skip) := by unfold execOp; rw [ho]

/-- A block that is written anew. -/
theorem Nx.setRow {s : LSpec U} {n b c : Nat} {B B' : Blk U} {arr arr' : Array Value} {e : TypeId} (hcb : s.cb = [(n, B)]) (hpb : s.pb = [(n, B')]) (hn : ι n = some (b, c)) (hout : ¬ S b)
    (hlt : ∀ b, S b → b < w.heap.size) (hg : w.heap[b]? = some (.cells arr e (0, 0))) (hB : BR U O S ι (w.setRow b arr') n B') : Nx U O s S ι w S ι (w.setRow b arr') := by
  have hb : b < w.heap.size := (Array.getElem?_eq_some_iff.1 hg).1
  refine ⟨rfl, rfl, rfl, by simp, fun _ h => h, fun _ h => .inl h, fun b h => by simpa using hlt b h, fun k hk hnot => ?_, fun _ _ => rfl, fun x hx => ?_, fun m hm k c' hk => ?_, fun m hm k hk hne => ?_⟩
  · refine setRow_other w b k arr' fun e' => hnot n (by rw [hcb]; simp) c (by rw [e']; exact hn)
  · rw [hpb] at hx
    simp at hx; subst hx
    exact hB
  · rw [hpb] at hm
    simp at hm; subst hm
    rw [hn] at hk
    obtain ⟨rfl, rfl⟩ : b = k ∧ c = c' := by simpa using hk
    exact ⟨hout, by simpa using hb, .inr ⟨_, by rw [hcb]; simp, c, hn⟩⟩
  · rw [hpb] at hm hk
    simp at hm hk
    exact absurd (hm.trans hk.symm) hne

/-- A store into an owned variable. -/
theorem sok_storeB {T : TypeId} {t : Ty} {n off : Nat} {x y : Operand} (pre mid post : List (AVal U)) {v : AVal U} {mid' : List (AVal U)} (hg : o.guard = none) (_ : o.dst = none) (ho : o.op = .store T x y)
    (ht : TyOk P U T t) (hx : Opd U rs x (.loc n off)) (hy : Opd U rs y v) (hu : Units U v mid') (hpre : pre.all AVal.unit = true) (hoff : unitsW pre = off) (hmid : mid.all AVal.unit = true)
    (hw : unitsW mid = t.width U.wd) (hmid' : mid'.all AVal.unit = true) (hw' : unitsW mid' = t.width U.wd) :
    SOk U O P ops o { rs := rs, cb := [(n, .box (pre ++ mid ++ post))], pb := [(n, .box (pre ++ mid' ++ post))] } := by
  intro S ι w a hlt hgl hrs hro hcb hown K Q hK
  obtain ⟨b, c, v1, v2, v3, arr, e, h1, h2, h3, h4, h5, h6, h7, h8, h9⟩ := box_parts (hcb _ List.mem_cons_self) hpre hmid
  obtain ⟨b', c', h10, h11⟩ := hx.ev hrs
  rw [h1] at h10
  obtain ⟨rfl, rfl⟩ : b = b' ∧ c = c' := by simpa using h10
  obtain ⟨vs, a1, a2, a3, a4⟩ := hu.to hmid' (hy.ev hrs)
  have hsz : (a.eval y).cells.size = t.width U.wd := by rw [← Array.length_toList, a2, a4, hw']
  have hlen : arr.size = unitsW pre + t.width U.wd + (cellsOf v3).length := by rw [← Array.length_toList, h5]; simp [h7, h8, hw]; omega
  have hst := run_storeCells_at P b off e (cellsOf vs) 0 arr w h6 (by rw [a4, hw', hlen]; omega) (by rw [← a2]; exact fun v hv => by rw [a2] at hv; obtain ⟨z, hz, hv⟩ := List.mem_flatMap.1 hv; exact a3 z hz v hv)
  refine opWp_plain hg ?_
  unfold Oper.wp
  rw [exec_store ho]
  have hr : (Instr.storeAt T (a.eval x) (a.eval y)).run P w = .ok () (w.setRow b (cellsOf v1 ++ cellsOf vs ++ cellsOf v3).toArray) := by
    rw [h11]
    simp only [Instr.storeAt, Instr.sureAddr, storeVar, Sem.run_bind, Sem.run_pure, Result.andThen_ok, run_sizeOf ht, hsz, ne_eq, not_true_eq_false, if_false, a2]
    rw [show (storeCells ⟨b, off, none⟩ (cellsOf vs)) = storeCells ⟨b, off, none⟩ (cellsOf vs) 0 from rfl, hst]
    have e1 : (cellsOf v1 ++ cellsOf v2 ++ cellsOf v3).take (off + 0) = cellsOf v1 := by
      rw [List.append_assoc]
      exact List.take_left' (by rw [h7, hoff]; rfl)
    have e2 : (cellsOf v1 ++ cellsOf v2 ++ cellsOf v3).drop (off + 0 + (cellsOf vs).length) = cellsOf v3 := List.drop_left' (by rw [List.length_append, h7, h8, a4, hoff, hw, hw']; rfl)
    rw [h5, e1, e2]
  simp only [Sem.run_bind, hr, Result.andThen_ok, Sem.run_pure, Oper.upon]
  refine hK undef S ι _ (Nx.setRow (n := n) (b := b) (c := c) rfl rfl h1 (hown.out n (by simp) b c h1).1 hlt h6 ?_) trivial
  have hst' : ∀ k, S k → (w.setRow b (cellsOf v1 ++ cellsOf vs ++ cellsOf v3).toArray).heap[k]? = w.heap[k]? := fun k hk => setRow_other w b k _ fun e' => (hown.out n (by simp) b c h1).1 (e' ▸ hk)
  refine ⟨b, c, v1 ++ vs ++ v3, _, e, h1, ?_, ?_, ?_, setRow_heap w b arr _ e _ h6⟩
  · exact VVs.append.2 ⟨v1 ++ vs, v3, rfl, VVs.append.2 ⟨v1, vs, rfl, VVs.mono hst' (fun _ h => h) _ _ (fun _ _ => rfl) h2, VVs.mono hst' (fun _ h => h) _ _ (fun _ _ => rfl) a1⟩, VVs.mono hst' (fun _ h => h) _ _ (fun _ _ => rfl) h4⟩
  · intro v hv
    rcases List.mem_append.1 hv with hv | hv
    · rcases List.mem_append.1 hv with hv | hv
      · exact (VVs.cells hpre h2).2 v hv
      · exact a3 v hv
    · exact h9 v hv
  · show _ = cellsOf _
    rw [cellsOf_append, cellsOf_append]
end
end Go.AM
