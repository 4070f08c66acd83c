/- A part of my own abstract layer. -/
import Derived.Test.YtlmhnhlmlhfigaaK42AmE
import Derived.Laws.OwnMore
import Derived.Laws.MakeOwn
import Derived.WideShapes
import Derived.ChangeShapes
import Derived.ProofKit
namespace Go.AM

section
variable {U : Univ} {O : Out} {P : Program} {S : Nat → Prop} {ι : Lay} {w : World} {rs : List (Nat × AVal U)} {a : Act} {ops : Array Oper} {o : Oper}

def cellsOf (vs : List Value) : List Value := vs.flatMap fun v => v.cells.toList

theorem cells_of_one {c : Value} (h : c.oneCell' = true) : c.cells = #[c] := by cases c <;> simp_all [Value.oneCell', Value.cells]

theorem Rd.cells {t : Ty} {x : t.den U.T} {cs : List Value} (h : Rd U O S w t x cs) : (mkV t.isAgg cs).cells.toList = cs := by
  cases hag : t.isAgg with
  | true => simp [mkV, Value.cells]
  | false =>
    have h1 := h.length
    rw [width_one hag] at h1
    match cs, h1 with
    | [c], _ => simp [mkV, cells_of_one (h.one c (by simp))]

inductive Expl (U : Univ) : (t : Ty) → t.den U.T → List (AVal U) → Prop
  | one (t : Ty) (x : t.den U.T) : Expl U t x [.p t x]
  | pair {a b : Ty} {x : a.den U.T} {y : b.den U.T} {us vs : List (AVal U)} : Expl U a x us → Expl U b y vs → Expl U (.pair a b) (x, y) (us ++ vs)
  | unit : Expl U .unit () []
  | named {n : Nat} {x : U.T n} {us : List (AVal U)} : Expl U (U.body n) (U.out n x) us → Expl U (.named n) x us

theorem VVs.append {vs vs' : List (AVal U)} : ∀ {us : List Value}, VVs U O S ι w (vs ++ vs') us ↔ ∃ u1 u2, us = u1 ++ u2 ∧ VVs U O S ι w vs u1 ∧ VVs U O S ι w vs' u2 := by
  induction vs with
  | nil =>
    intro us
    simp only [List.nil_append, VVs]
    constructor
    · intro h; exact ⟨[], us, rfl, rfl, h⟩
    · rintro ⟨u1, u2, rfl, rfl, h⟩; exact h
  | cons v vs ih =>
    intro us
    simp only [List.cons_append, VVs]
    constructor
    · rintro ⟨u, us', rfl, h1, h2⟩
      obtain ⟨u1, u2, rfl, h3, h4⟩ := ih.1 h2
      exact ⟨u :: u1, u2, rfl, ⟨u, u1, rfl, h1, h3⟩, h4⟩
    · rintro ⟨u1, u2, rfl, ⟨u, us', rfl, h1, h2⟩, h3⟩
      exact ⟨u, us' ++ u2, rfl, h1, ih.2 ⟨us', u2, rfl, h2, h3⟩⟩

theorem Expl.to {t : Ty} {x : t.den U.T} {us : List (AVal U)} (h : Expl U t x us) : ∀ {cs : List Value}, Rd U O S w t x cs → ∃ vs, VVs U O S ι w us vs ∧ cellsOf vs = cs ∧ ∀ v ∈ vs, ∀ c ∈ v.cells.toList, c.oneCell' = true := by
  induction h with
  | one t x =>
    intro cs h
    refine ⟨[mkV t.isAgg cs], ⟨_, _, rfl, ⟨cs, h, rfl⟩, rfl⟩, by simp [cellsOf, h.cells], fun v hv c hc => ?_⟩
    simp at hv; subst hv
    rw [h.cells] at hc
    exact h.one c hc
  | pair _ _ ih1 ih2 =>
    intro cs h
    cases h with
    | pair h1 h2 =>
      obtain ⟨v1, a1, a2, a3⟩ := ih1 h1
      obtain ⟨v2, b1, b2, b3⟩ := ih2 h2
      refine ⟨v1 ++ v2, VVs.append.2 ⟨v1, v2, rfl, a1, b1⟩, by simp [cellsOf] at a2 b2 ⊢; rw [a2, b2], fun v hv => ?_⟩
      rcases List.mem_append.1 hv with hv | hv
      · exact a3 v hv
      · exact b3 v hv
  | unit =>
    intro cs h
    cases h
    exact ⟨[], rfl, rfl, fun v hv => by cases hv⟩
  | named _ ih =>
    intro cs h
    cases h with
    | named _ _ h => exact ih h

theorem Expl.of {t : Ty} {x : t.den U.T} {us : List (AVal U)} (h : Expl U t x us) : ∀ {vs : List Value}, VVs U O S ι w us vs → Rd U O S w t x (cellsOf vs) := by
  induction h with
  | one t x =>
    intro vs h
    simp only [VVs] at h
    obtain ⟨u, us', rfl, ⟨cs, h1, rfl⟩, rfl⟩ := h
    have := h1.cells
    simp only [cellsOf, List.flatMap_cons, List.flatMap_nil, List.append_nil, this]
    exact h1
  | pair _ _ ih1 ih2 =>
    intro vs h
    obtain ⟨u1, u2, rfl, h1, h2⟩ := VVs.append.1 h
    have : cellsOf (u1 ++ u2) = cellsOf u1 ++ cellsOf u2 := by simp [cellsOf]
    rw [this]
    exact .pair (ih1 h1) (ih2 h2)
  | unit =>
    intro vs h
    simp only [VVs] at h
    subst h
    exact .unit
  | named _ ih => exact fun h => .named _ _ (ih h)

def AVal.wid : AVal U → Nat
  | .p t _ => t.width U.wd
  | _ => 1
def unitsW (us : List (AVal U)) : Nat := (us.map AVal.wid).sum

def AVal.unit : AVal U → Bool
  | .junk | .agg _ | .tup _ | .sel _ _ _ _ _ _ => false
  | _ => true

theorem VV.cells {v : AVal U} {u : Value} (hu : v.unit = true) (h : VV U O S ι w v u) : u.cells.size = v.wid ∧ ∀ c ∈ u.cells.toList, c.oneCell' = true := by
  cases v <;> simp only [AVal.unit, Bool.false_eq_true] at hu
  · obtain ⟨rfl, h1⟩ := h; rw [cells_of_one h1]; exact ⟨rfl, fun c hc => by simp at hc; rw [hc]; exact h1⟩
  · rename_i t x
    obtain ⟨cs, h1, rfl⟩ := h
    have h2 := h1.cells
    refine ⟨?_, fun c hc => h1.one c (h2 ▸ hc)⟩
    rw [← Array.length_toList, h2]; exact h1.length
  · obtain ⟨b, o, cs, rfl, _⟩ := h; exact ⟨rfl, fun c hc => by simp [Value.cells] at hc; rw [hc]; rfl⟩
  · obtain ⟨b, c, _, rfl⟩ := h; exact ⟨rfl, fun c hc => by simp [Value.cells] at hc; rw [hc]; rfl⟩
  · obtain ⟨b, c, _, rfl⟩ := h; exact ⟨rfl, fun c hc => by simp [Value.cells] at hc; rw [hc]; rfl⟩
  · rcases h with ⟨_, _, _, rfl⟩ | ⟨b, c, o, _, _, rfl, _⟩ <;> exact ⟨rfl, fun c hc => by simp [Value.cells] at hc; rw [hc]; rfl⟩
  · obtain ⟨b, c, _, rfl⟩ := h; exact ⟨rfl, fun c hc => by simp [Value.cells] at hc; rw [hc]; rfl⟩
  · rename_i q n
    obtain ⟨h1, h2⟩ := h
    cases q
    · rw [h2 rfl]; exact ⟨rfl, fun c hc => by simp [Value.cells] at hc; rw [hc]; rfl⟩
    · obtain ⟨b, c, _, rfl⟩ := h1 rfl; exact ⟨rfl, fun c hc => by simp [Value.cells] at hc; rw [hc]; rfl⟩
  · obtain ⟨us, _, rfl⟩ := h; exact ⟨rfl, fun c hc => by simp [Value.cells] at hc; rw [hc]; rfl⟩

theorem VVs.cells {us : List (AVal U)} : ∀ {vs : List Value}, us.all AVal.unit = true → VVs U O S ι w us vs → (cellsOf vs).length = unitsW us ∧ ∀ v ∈ vs, ∀ c ∈ v.cells.toList, c.oneCell' = true := by
  induction us with
  | nil => intro vs _ h; simp only [VVs] at h; subst h; exact ⟨rfl, fun v hv => by cases hv⟩
  | cons x us ih =>
    intro vs hu h
    simp only [List.all_cons, Bool.and_eq_true] at hu
    simp only [VVs] at h
    obtain ⟨u, us', rfl, h1, h2⟩ := h
    obtain ⟨h3, h4⟩ := VV.cells hu.1 h1
    obtain ⟨h5, h6⟩ := ih hu.2 h2
    refine ⟨?_, fun v hv => ?_⟩
    · simp only [cellsOf, List.flatMap_cons, List.length_append, Array.length_toList, h3, unitsW, List.map_cons, List.sum_cons]
      exact congrArg (x.wid + ·) h5
    · rcases List.mem_cons.1 hv with rfl | hv
      · exact h4
      · exact h6 v hv

inductive Units (U : Univ) : AVal U → List (AVal U) → Prop
  | data {t : Ty} {x : t.den U.T} {us : List (AVal U)} : Expl U t x us → Units U (.p t x) us
  | hand {v : AVal U} : v.unit = true → Units U v [v]
  | agg {vs : List (AVal U)} : Units U (.agg vs) vs

theorem Units.to {v : AVal U} {us : List (AVal U)} (h : Units U v us) (hu : us.all AVal.unit = true) {u : Value} (hv : VV U O S ι w v u) :
    ∃ vs, VVs U O S ι w us vs ∧ u.cells.toList = cellsOf vs ∧ (∀ v ∈ vs, ∀ c ∈ v.cells.toList, c.oneCell' = true) ∧ (cellsOf vs).length = unitsW us := by
  cases h with
  | data h =>
    obtain ⟨cs, h1, rfl⟩ := hv
    obtain ⟨vs, h2, h3, h4⟩ := h.to (ι := ι) h1
    exact ⟨vs, h2, by rw [h1.cells, h3], h4, (VVs.cells hu h2).1⟩
  | hand h =>
    have h1 : VVs U O S ι w [v] [u] := ⟨u, [], rfl, hv, rfl⟩
    exact ⟨[u], h1, by simp [cellsOf], (VVs.cells hu h1).2, (VVs.cells hu h1).1⟩
  | agg =>
    obtain ⟨vs, h1, rfl⟩ := hv
    exact ⟨vs, h1, by simp [Value.cells, cellsOf], (VVs.cells hu h1).2, (VVs.cells hu h1).1⟩

def AVal.isHand : AVal U → Bool
  | .junk | .agg _ | .tup _ | .p _ _ | .sel _ _ _ _ _ _ => false
  | _ => true

theorem VV.hand {v : AVal U} {u : Value} (hu : v.isHand = true) (h : VV U O S ι w v u) : u.oneCell' = true := by
  cases v <;> simp only [AVal.isHand, Bool.false_eq_true] at hu
  · obtain ⟨rfl, h1⟩ := h; exact h1
  · obtain ⟨b, o, cs, rfl, _⟩ := h; rfl
  · obtain ⟨b, c, _, rfl⟩ := h; rfl
  · obtain ⟨b, c, _, rfl⟩ := h; rfl
  · rcases h with ⟨_, _, _, rfl⟩ | ⟨b, c, o, _, _, rfl, _⟩ <;> rfl
  · obtain ⟨b, c, _, rfl⟩ := h; rfl
  · rename_i q n
    obtain ⟨h1, h2⟩ := h
    cases q
    · rw [h2 rfl]; rfl
    · obtain ⟨b, c, _, rfl⟩ := h1 rfl; rfl
  · obtain ⟨us, _, rfl⟩ := h; rfl

inductive Made (U : Univ) (t : Ty) : List (AVal U) → AVal U → Prop
  | data {x : t.den U.T} {us : List (AVal U)} : Expl U t x us → Made U t us (.p t x)
  | hand {v : AVal U} : v.isHand = true → t.isAgg = false → Made U t [v] v
  | agg {vs : List (AVal U)} : t.isAgg = true → Made U t vs (.agg vs)

theorem Made.of {t : Ty} {us : List (AVal U)} {v : AVal U} (h : Made U t us v) {vs : List Value} (hv : VVs U O S ι w us vs) : VV U O S ι w v (mkV t.isAgg (cellsOf vs)) := by
  cases h with
  | data h => exact ⟨_, h.of hv, rfl⟩
  | hand h1 h2 =>
    simp only [VVs] at hv
    obtain ⟨u, us', rfl, h3, rfl⟩ := hv
    have := cells_of_one (VV.hand h1 h3)
    simp only [h2, mkV, cellsOf, List.flatMap_cons, this, List.flatMap_nil, List.append_nil, List.headD_cons]
    exact h3
  | agg h1 => exact ⟨vs, hv, by rw [h1]; rfl⟩

theorem Nx.alloc {s : LSpec U} {d : Nat} {B : Blk U} (obj : Obj) (_ : s.cb = []) (hpb : s.pb = [(d, B)]) (hnn : s.nn = [d]) (hlt : ∀ b, S b → b < w.heap.size) (c : Nat)
    (hB : BR U O S (fun n => if n = d then some (w.heap.size, c) else ι n) (w.alloc obj) d B) :
    Nx U O s S ι w S (fun n => if n = d then some (w.heap.size, c) else ι n) (w.alloc obj) := by
  refine ⟨rfl, rfl, rfl, by simp, fun _ h => h, fun _ h => .inl h, fun b h => by have := hlt b h; simp; omega, fun b hb _ => heap_alloc_old w obj b hb, fun n hn => ?_, fun x hx => ?_, fun n hn b c' hb => ?_, fun n hn m hm hne => ?_⟩
  · rw [hnn] at hn
    exact if_neg (by simpa using hn)
  · rw [hpb] at hx
    simp at hx; subst hx
    exact hB
  · rw [hpb] at hn
    simp at hn; subst hn
    simp at hb
    obtain ⟨rfl, rfl⟩ := hb
    exact ⟨fun h => by have := hlt _ h; omega, by simp, .inl (Nat.le_refl _)⟩
  · rw [hpb] at hn hm
    simp at hn hm
    exact absurd (hn.trans hm.symm) hne

theorem exec_box {ρ : Operand → Value} {T : TypeId} {x : Operand} (ho : o.op = .box T x) : execOp ρ o = vOf (Instr.box T (ρ x)) := by unfold execOp; rw [ho]; rfl
theorem exec_alloc {ρ : Operand → Value} {T : TypeId} (ho : o.op = .alloc T) : execOp ρ o = vOf (Instr.alloc T true (.tuple #[])) := by unfold execOp; rw [ho]; rfl

theorem VVs.alloc {us : List (AVal U)} {vs : List Value} {d : Nat} {obj : Obj} {x : Nat × Nat} (hlt : ∀ b, S b → b < w.heap.size) (hn : d ∉ AVal.namesL U us) (h : VVs U O S ι w us vs) :
    VVs U O S (fun n => if n = d then some x else ι n) (w.alloc obj) us vs :=
  VVs.mono (fun b hb => heap_alloc_old w obj b (hlt b hb)) (fun _ h => h) us vs (fun n hm => if_neg fun (e : n = d) => hn (e ▸ hm)) h

theorem sok_box {T : TypeId} {d : Nat} {x : Operand} {v : AVal U} {us : List (AVal U)} (hg : o.guard = none) (_ : o.dst = some d) (ho : o.op = .box T x) (hx : Opd U rs x v) (hu : Units U v us)
    (hun : us.all AVal.unit = true) (hn : d ∉ AVal.namesL U us) : SOk U O P ops o { rs := rs, ws := .loc d 0, pb := [(d, .box us)], nn := [d] } := by
  intro S ι w a hlt hgl hrs hro hcb hown K Q hK
  obtain ⟨vs, h1, h2, h3, h4⟩ := hu.to hun (hx.ev hrs)
  refine opWp_plain hg ?_
  unfold Oper.wp
  rw [exec_box ho]
  have hr : (Instr.box T (a.eval x)).run P w = .ok (.pointer (some ⟨w.heap.size, 0, none⟩)) (w.alloc (.cells (a.eval x).cells T)) := by
    simp only [Instr.box, newVar, newRow, newObj, Sem.run_bind, Sem.run, Result.andThen_ok, Sem.run_pure]
    rfl
  rw [run_vOf hr]
  refine hK _ S _ _ (Nx.alloc (s := { rs := rs, ws := .loc d 0, pb := [(d, .box us)], nn := [d] }) (.cells (a.eval x).cells T) rfl rfl rfl hlt 0 ?_) ⟨w.heap.size, 0, by simp, rfl⟩
  exact ⟨w.heap.size, 0, vs, (a.eval x).cells, T, by simp, VVs.alloc hlt hn h1, h3, h2, heap_alloc_new w _⟩

structure ZeroOk (P : Program) (U : Univ) (T : TypeId) (t : Ty) (z : t.den U.T) : Prop where
  h : ∃ i v, P.info? T = some i ∧ i.zero = some v ∧ ∀ O S w, ∃ cs, Rd U O S w t z cs ∧ v = mkV t.isAgg cs

theorem cellsOf_append (a b : List Value) : cellsOf (a ++ b) = cellsOf a ++ cellsOf b := by simp [cellsOf]

theorem box_parts {n : Nat} {pre mid post : List (AVal U)} (hB : BR U O S ι w n (.box (pre ++ mid ++ post))) (hpre : pre.all AVal.unit = true) (hmid : mid.all AVal.unit = true) :
    ∃ b c v1 v2 v3 arr e, ι n = some (b, c) ∧ VVs U O S ι w pre v1 ∧ VVs U O S ι w mid v2 ∧ VVs U O S ι w post v3 ∧ arr.toList = cellsOf v1 ++ cellsOf v2 ++ cellsOf v3 ∧
      w.heap[b]? = some (.cells arr e (0, 0)) ∧ (cellsOf v1).length = unitsW pre ∧ (cellsOf v2).length = unitsW mid ∧ ∀ v ∈ v3, ∀ x ∈ v.cells.toList, x.oneCell' = true := by
  obtain ⟨b, c, vs, arr, e, h1, h2, h3, h4, h5⟩ := hB
  obtain ⟨v12, v3, rfl, h6, h7⟩ := VVs.append.1 h2
  obtain ⟨v1, v2, rfl, h8, h9⟩ := VVs.append.1 h6
  refine ⟨b, c, v1, v2, v3, arr, e, h1, h8, h9, h7, ?_, h5, (VVs.cells hpre h8).1, (VVs.cells hmid h9).1, fun v hv => h3 v (List.mem_append.2 (.inr hv))⟩
  rw [h4]
  show cellsOf _ = _
  rw [cellsOf_append, cellsOf_append]

theorem sok_loadB {T : TypeId} {t : Ty} {n off : Nat} {x : Operand} (pre mid post : List (AVal U)) {v : AVal U} (hg : o.guard = none) (ho : o.op = .load T x) (ht : TyOk P U T t)
    (hx : Opd U rs x (.loc n off)) (hpre : pre.all AVal.unit = true) (hoff : unitsW pre = off) (hmid : mid.all AVal.unit = true) (hw : unitsW mid = t.width U.wd) (hv : Made U t mid v) :
    SOk U O P ops o { rs := rs, ro := [(n, .box (pre ++ mid ++ post))], ws := v } :=
  sok_v hg _ (fun _ => exec_load ho) fun S ι w a hrs hro => by
    obtain ⟨b, c, v1, v2, v3, arr, e, h1, h2, h3, h4, h5, h6, h7, h8, _⟩ := box_parts (hro _ List.mem_cons_self) hpre hmid
    obtain ⟨b', c', h9, h10⟩ := hx.ev hrs
    rw [h1] at h9
    obtain ⟨rfl, rfl⟩ : b = b' ∧ c = c' := by simpa using h9
    refine ⟨mkV t.isAgg (cellsOf v2), ?_, hv.of h3⟩
    rw [h10]
    refine run_loadAt ht (by rw [h8, hw]) fun j hj => ?_
    rw [cell_of_row w b (off + j) arr e (0, 0) h6, ← Array.getElem?_toList, h5, List.append_assoc, List.getElem?_append_right (by omega), h7, hoff, List.getElem?_append_left (by omega)]
    congr 1
    omega

theorem exec_store {ρ : Operand → Value} {T : TypeId} {x y : Operand} (ho : o.op = .store T x y) : execOp ρ o = (do Instr.storeAt T (ρ x) (ρ y); pure .skip) := by unfold execOp; rw [ho]

theorem Nx.setRow {s : LSpec U} {n b c : Nat} {B B' : Blk U} {arr arr' : Array Value} {e : TypeId} (hcb : s.cb = [(n, B)]) (hpb : s.pb = [(n, B')]) (hn : ι n = some (b, c)) (hout : ¬ S b)
    (hlt : ∀ b, S b → b < w.heap.size) (hg : w.heap[b]? = some (.cells arr e (0, 0))) (hB : BR U O S ι (w.setRow b arr') n B') : Nx U O s S ι w S ι (w.setRow b arr') := by
  have hb : b < w.heap.size := (Array.getElem?_eq_some_iff.1 hg).1
  refine ⟨rfl, rfl, rfl, by simp, fun _ h => h, fun _ h => .inl h, fun b h => by simpa using hlt b h, fun k hk hnot => ?_, fun _ _ => rfl, fun x hx => ?_, fun m hm k c' hk => ?_, fun m hm k hk hne => ?_⟩
  · refine setRow_other w b k arr' fun e' => hnot n (by rw [hcb]; simp) c (by rw [e']; exact hn)
  · rw [hpb] at hx
    simp at hx; subst hx
    exact hB
  · rw [hpb] at hm
    simp at hm; subst hm
    rw [hn] at hk
    obtain ⟨rfl, rfl⟩ : b = k ∧ c = c' := by simpa using hk
    exact ⟨hout, by simpa using hb, .inr ⟨_, by rw [hcb]; simp, c, hn⟩⟩
  · rw [hpb] at hm hk
    simp at hm hk
    exact absurd (hm.trans hk.symm) hne

theorem sok_storeB {T : TypeId} {t : Ty} {n off : Nat} {x y : Operand} (pre mid post : List (AVal U)) {v : AVal U} {mid' : List (AVal U)} (hg : o.guard = none) (_ : o.dst = none) (ho : o.op = .store T x y)
    (ht : TyOk P U T t) (hx : Opd U rs x (.loc n off)) (hy : Opd U rs y v) (hu : Units U v mid') (hpre : pre.all AVal.unit = true) (hoff : unitsW pre = off) (hmid : mid.all AVal.unit = true)
    (hw : unitsW mid = t.width U.wd) (hmid' : mid'.all AVal.unit = true) (hw' : unitsW mid' = t.width U.wd) :
    SOk U O P ops o { rs := rs, cb := [(n, .box (pre ++ mid ++ post))], pb := [(n, .box (pre ++ mid' ++ post))] } := by
  intro S ι w a hlt hgl hrs hro hcb hown K Q hK
  obtain ⟨b, c, v1, v2, v3, arr, e, h1, h2, h3, h4, h5, h6, h7, h8, h9⟩ := box_parts (hcb _ List.mem_cons_self) hpre hmid
  obtain ⟨b', c', h10, h11⟩ := hx.ev hrs
  rw [h1] at h10
  obtain ⟨rfl, rfl⟩ : b = b' ∧ c = c' := by simpa using h10
  obtain ⟨vs, a1, a2, a3, a4⟩ := hu.to hmid' (hy.ev hrs)
  have hsz : (a.eval y).cells.size = t.width U.wd := by rw [← Array.length_toList, a2, a4, hw']
  have hlen : arr.size = unitsW pre + t.width U.wd + (cellsOf v3).length := by rw [← Array.length_toList, h5]; simp [h7, h8, hw]; omega
  have hst := run_storeCells_at P b off e (cellsOf vs) 0 arr w h6 (by rw [a4, hw', hlen]; omega) (by rw [← a2]; exact fun v hv => by rw [a2] at hv; obtain ⟨z, hz, hv⟩ := List.mem_flatMap.1 hv; exact a3 z hz v hv)
  refine opWp_plain hg ?_
  unfold Oper.wp
  rw [exec_store ho]
  have hr : (Instr.storeAt T (a.eval x) (a.eval y)).run P w = .ok () (w.setRow b (cellsOf v1 ++ cellsOf vs ++ cellsOf v3).toArray) := by
    rw [h11]
    simp only [Instr.storeAt, Instr.sureAddr, storeVar, Sem.run_bind, Sem.run_pure, Result.andThen_ok, run_sizeOf ht, hsz, ne_eq, not_true_eq_false, if_false, a2]
    rw [show (storeCells ⟨b, off, none⟩ (cellsOf vs)) = storeCells ⟨b, off, none⟩ (cellsOf vs) 0 from rfl, hst]
    have e1 : (cellsOf v1 ++ cellsOf v2 ++ cellsOf v3).take (off + 0) = cellsOf v1 := by
      rw [List.append_assoc]
      exact List.take_left' (by rw [h7, hoff]; rfl)
    have e2 : (cellsOf v1 ++ cellsOf v2 ++ cellsOf v3).drop (off + 0 + (cellsOf vs).length) = cellsOf v3 := List.drop_left' (by rw [List.length_append, h7, h8, a4, hoff, hw, hw']; rfl)
    rw [h5, e1, e2]
  simp only [Sem.run_bind, hr, Result.andThen_ok, Sem.run_pure, Oper.upon]
  refine hK undef S ι _ (Nx.setRow (n := n) (b := b) (c := c) rfl rfl h1 (hown.out n (by simp) b c h1).1 hlt h6 ?_) trivial
  have hst' : ∀ k, S k → (w.setRow b (cellsOf v1 ++ cellsOf vs ++ cellsOf v3).toArray).heap[k]? = w.heap[k]? := fun k hk => setRow_other w b k _ fun e' => (hown.out n (by simp) b c h1).1 (e' ▸ hk)
  refine ⟨b, c, v1 ++ vs ++ v3, _, e, h1, ?_, ?_, ?_, setRow_heap w b arr _ e _ h6⟩
  · exact VVs.append.2 ⟨v1 ++ vs, v3, rfl, VVs.append.2 ⟨v1, vs, rfl, VVs.mono hst' (fun _ h => h) _ _ (fun _ _ => rfl) h2, VVs.mono hst' (fun _ h => h) _ _ (fun _ _ => rfl) a1⟩, VVs.mono hst' (fun _ h => h) _ _ (fun _ _ => rfl) h4⟩
  · intro v hv
    rcases List.mem_append.1 hv with hv | hv
    · rcases List.mem_append.1 hv with hv | hv
      · exact (VVs.cells hpre h2).2 v hv
      · exact a3 v hv
    · exact h9 v hv
  · show _ = cellsOf _
    rw [cellsOf_append, cellsOf_append]
end
end Go.AM
namespace Go.AM

section
variable {U : Univ} {O : Out} {P : Program} {S : Nat → Prop} {ι : Lay} {w : World} {rs : List (Nat × AVal U)} {a : Act} {ops : Array Oper} {o : Oper}

def rowCells (n : Nat) (cs : Nat → List Value) : List Value := (List.range n).flatMap cs

theorem rowCells_get {n k : Nat} {cs : Nat → List Value} (h : ∀ i, i < n → (cs i).length = k) {i j : Nat} (hi : i < n) (hj : j < k) : (rowCells n cs)[i * k + j]? = (cs i)[j]? :=
  flatMap_range_get n k cs h i j hi hj

structure RowOk (P : Program) (U : Univ) (T E : TypeId) (t : Ty) (by_ : Nat) : Prop where
  sl : SlOk P U T E t
  info : ∃ i z, P.info? E = some i ∧ i.zero = some z ∧ i.size = t.width U.wd ∧ i.bytes = by_ ∧ z.cells.size = t.width U.wd
  pos : 0 < t.width U.wd

theorem own_of {n wd off len : Nat} {E : TypeId} {t : Ty} {xs : List (t.den U.T)} {fx : Bool} {u : Value} (hwd : wd = t.width U.wd) (hB : BR U O S ι w n (.row E t xs fx)) (hv : VV U O S ι w (.vec n wd off len) u)
    (hoff : off = 0) (hlen : len = xs.length) : ∃ cs : Nat → List Value, (∀ (i : Nat) (h : i < xs.length), Rd U O S w t xs[i] (cs i)) ∧ w.ownsRow 0 E (t.width U.wd) u xs.length (rowCells xs.length cs) ∧
      (∀ b, u.ownBlock = some b → ∃ c, ι n = some (b, c)) := by
  subst hwd hoff hlen
  rcases hv with ⟨h1, _, h2, rfl⟩ | ⟨b, c, o, h1, h2, rfl, h3⟩
  · have hx : xs = [] := List.eq_nil_of_length_eq_zero h2
    subst hx
    exact ⟨fun _ => [], fun i hi => absurd hi (by simp), World.ownsRow_nil w 0 E _, fun b h => by cases h⟩
  · rcases hB with ⟨h4, _⟩ | ⟨b', c', arr, cs, h4, h5, h6, h7, h8, h9, h10, h11⟩
    · rw [h1] at h4; cases h4
    · rw [h1] at h4
      obtain ⟨rfl, rfl⟩ : b = b' ∧ c = c' := by simpa using h4
      have hl : ∀ i, i < xs.length → (cs i).length = t.width U.wd := fun i hi => (h10 i hi).length
      have hrl : (rowCells xs.length cs).length = xs.length * t.width U.wd := flatMap_range_length _ _ _ hl
      have ho : o = 0 := by
        rcases h3 with h3 | h3
        · simpa using h3
        · omega
      · subst ho
        refine ⟨cs, h10, ⟨hrl, .inr ⟨b, c, arr, rfl, Nat.zero_le _, h5, h8, h7, h6, ?_⟩⟩, fun b' hb' => ⟨c, by simp [Value.ownBlock] at hb'; rw [← hb']; exact h1⟩⟩
        apply List.ext_getElem?
        intro k
        by_cases hk : k < xs.length * t.width U.wd
        · rw [List.getElem?_take_of_lt hk, Array.getElem?_toList]
          have hw0 : 0 < t.width U.wd := by
            rcases Nat.eq_zero_or_pos (t.width U.wd) with h | h
            · rw [h] at hk; omega
            · exact h
          have hd := Nat.div_add_mod k (t.width U.wd)
          have hm := Nat.mod_lt k hw0
          have hi : k / t.width U.wd < xs.length := Nat.div_lt_of_lt_mul (by rw [Nat.mul_comm]; exact hk)
          have e : k = k / t.width U.wd * t.width U.wd + k % t.width U.wd := by rw [Nat.mul_comm]; exact hd.symm
          rw [e, h11 _ _ hi hm, rowCells_get hl hi hm]
        · rw [List.getElem?_eq_none (by simp; omega), List.getElem?_eq_none (by omega)]

theorem own_to {n : Nat} {E : TypeId} {t : Ty} {xs : List (t.den U.T)} {u : Value} {cs : Nat → List Value} (hel : ∀ (i : Nat) (h : i < xs.length), Rd U O S w t xs[i] (cs i))
    (hown : w.ownsRow 0 E (t.width U.wd) u xs.length (rowCells xs.length cs)) {ι : Lay}
    (hι : ∀ b c, ι n = some (b, c) ↔ ∃ l, u = .slice (some ⟨b, 0, none⟩) l c) : BR U O S ι w n (.row E t xs false) ∧ VV U O S ι w (.vec n (t.width U.wd) 0 xs.length) u := by
  have hl : ∀ i, i < xs.length → (cs i).length = t.width U.wd := fun i hi => (hel i hi).length
  rcases hown.2 with ⟨rfl, h2⟩ | ⟨g, cap, cur, rfl, _, h3, h4, h5, h6, h7⟩
  · have hn : ι n = none := by
      cases h : ι n with
      | none => rfl
      | some x => obtain ⟨b, c⟩ := x; obtain ⟨l, h'⟩ := (hι b c).1 h; cases h'
    exact ⟨.inl ⟨hn, List.eq_nil_of_length_eq_zero h2, rfl⟩, .inl ⟨hn, rfl, h2, rfl⟩⟩
  · have hn : ι n = some (g, cap) := (hι g cap).2 ⟨_, rfl⟩
    refine ⟨.inr ⟨g, cap, cur, cs, hn, h3, h6, h5, h4, (fun h => by cases h), hel, fun i j hi hj => ?_⟩, .inr ⟨g, cap, 0, hn, by omega, by simp, .inl (by simp)⟩⟩
    have hlt : i * t.width U.wd + j < xs.length * t.width U.wd := by
      have h1 : (i + 1) * t.width U.wd ≤ xs.length * t.width U.wd := Nat.mul_le_mul_right _ (by omega)
      rw [Nat.add_mul] at h1
      omega
    rw [← rowCells_get hl hi hj, ← h7, List.getElem?_take_of_lt hlt, Array.getElem?_toList]

theorem flatMap_same {α β : Type} {l : List α} {f g : α → List β} (h : ∀ x ∈ l, f x = g x) : l.flatMap f = l.flatMap g := by
  induction l with
  | nil => rfl
  | cons x l ih => rw [List.flatMap_cons, List.flatMap_cons, h x List.mem_cons_self, ih fun y hy => h y (List.mem_cons_of_mem _ hy)]

theorem rowCells_append (m n : Nat) (cs ds : Nat → List Value) : rowCells m cs ++ rowCells n ds = rowCells (m + n) fun i => if i < m then cs i else ds (i - m) := by
  unfold rowCells
  rw [List.range_add, List.flatMap_append, List.flatMap_map]
  congr 1
  · exact flatMap_same fun i hi => by rw [if_pos (List.mem_range.1 hi)]
  · refine flatMap_same fun i _ => ?_
    rw [if_neg (by omega)]
    congr 1
    omega

theorem list_cells {t : Ty} {ys : List (t.den U.T)} {u : Value} (hpos : 0 < t.width U.wd) (h : VV U O S ι w (.p (.list t) ys) u) :
    ∃ (ds : Nat → List Value), (∀ (i : Nat) (h : i < ys.length), Rd U O S w t ys[i] (ds i)) ∧
      ((ys = [] ∧ u = .slice none 0 0) ∨ ∃ ad cap, u = .slice (some ad) ys.length cap ∧ ∀ j v, (rowCells ys.length ds)[j]? = some v → w.cell? (ad.add j) = some v) := by
  rcases VV.list_iff.1 h with ⟨rfl, rfl⟩ | ⟨rfl, ad, cap, rfl⟩ | ⟨b, o', cap, cs, rfl, hS, hcap, hel, hcell⟩
  · exact ⟨fun _ => [], fun i hi => absurd hi (by simp), .inl ⟨rfl, rfl⟩⟩
  · exact ⟨fun _ => [], fun i hi => absurd hi (by simp), .inr ⟨ad, cap, rfl, fun j v hj => by simp [rowCells] at hj⟩⟩
  · refine ⟨cs, hel, .inr ⟨⟨b, o', none⟩, cap, rfl, fun j v hj => ?_⟩⟩
    have hl : ∀ i, i < ys.length → (cs i).length = t.width U.wd := fun i hi => (hel i hi).length
    have hlt := (List.getElem?_eq_some_iff.1 hj).1
    have hlen : (rowCells ys.length cs).length = ys.length * t.width U.wd := flatMap_range_length _ _ _ hl
    have hk : j < ys.length * t.width U.wd := by omega
    have hd := Nat.div_add_mod j (t.width U.wd)
    have hm := Nat.mod_lt j hpos
    have hi : j / t.width U.wd < ys.length := Nat.div_lt_of_lt_mul (by rw [Nat.mul_comm]; exact hk)
    have e : j = j / t.width U.wd * t.width U.wd + j % t.width U.wd := by rw [Nat.mul_comm]; exact hd.symm
    rw [Addr.add_lit]
    rw [e] at hj ⊢
    rw [hcell _ _ hi hm, ← rowCells_get hl hi hm]
    exact hj

theorem view_cells {t : Ty} {ys : List (t.den U.T)} {vw : List (Nat × Blk U)} {v : AVal U} {u : Value} (hpos : 0 < t.width U.wd) (hv : View U vw v (.p (.list t) ys)) (hb : ∀ x ∈ vw, BR U O S ι w x.1 x.2)
    (hu : VV U O S ι w v u) : ∃ (ds : Nat → List Value), (∀ (i : Nat) (h : i < ys.length), Rd U O S w t ys[i] (ds i)) ∧
      ((ys = [] ∧ u = .slice none 0 0) ∨ ∃ ad cap, u = .slice (some ad) ys.length cap ∧ ∀ j v, (rowCells ys.length ds)[j]? = some v → w.cell? (ad.add j) = some v) := by
  cases hv with
  | same => exact list_cells hpos hu
  | nilL _ => exact list_cells (ι := ι) hpos (by obtain ⟨rfl, _⟩ := hu; exact ⟨_, .lnil t, rfl⟩)
  | @row n e _ xs fx off len hin hl =>
    have hB := hb _ hin
    obtain ⟨ds, hd, hc⟩ := list_cells hpos ((View.row off len hin hl).ev hb hu)
    rcases hu with ⟨hn, rfl, rfl, rfl⟩ | ⟨b, c, o, hn, hoc, rfl, ho⟩
    · exact ⟨fun _ => [], fun i hi => absurd hi (by simp), .inl ⟨by simp, rfl⟩⟩
    · rcases hB with ⟨h1, _⟩ | ⟨b', c', arr, cs, h1, h2, h3, h4, h5, h6, h7, h8⟩
      · rw [hn] at h1; cases h1
      · have hlen : ((xs.drop off).take len).length = len := by simp; omega
        refine ⟨fun i => cs (off + i), fun i hi => ?_, .inr ⟨⟨b, o, none⟩, c - off, by rw [hlen], fun j v hj => ?_⟩⟩
        · have : ((xs.drop off).take len)[i] = xs[off + i]'(by omega) := by simp
          rw [this]
          exact h7 (off + i) (by omega)
        · rw [hlen] at hj
          rw [hn] at h1
          obtain ⟨rfl, rfl⟩ : b = b' ∧ c = c' := by simpa using h1
          have hl' : ∀ i, i < len → (cs (off + i)).length = t.width U.wd := fun i hi => (h7 (off + i) (by omega)).length
          have hlt := (List.getElem?_eq_some_iff.1 hj).1
          have hlen2 : (rowCells len fun i => cs (off + i)).length = len * t.width U.wd := flatMap_range_length _ _ _ hl'
          have hk : j < len * t.width U.wd := by omega
          have hd' := Nat.div_add_mod j (t.width U.wd)
          have hm := Nat.mod_lt j hpos
          have hi : j / t.width U.wd < len := Nat.div_lt_of_lt_mul (by rw [Nat.mul_comm]; exact hk)
          have e : j = j / t.width U.wd * t.width U.wd + j % t.width U.wd := by rw [Nat.mul_comm]; exact hd'.symm
          have ho' : o = off * t.width U.wd := by
            rcases ho with ho | ho
            · exact ho
            · have h0 : len = 0 := by omega
              rw [h0] at hi
              exact absurd hi (Nat.not_lt_zero _)
          subst ho'
          rw [Addr.add_lit, cell_of_row w b _ arr _ (0, 0) h2]
          rw [e] at hj ⊢
          rw [rowCells_get hl' hi hm] at hj
          rw [← hj, ← h8 (off + j / t.width U.wd) _ (by omega) hm, Nat.add_mul]
          congr 1
          omega

theorem exec_append {ρ : Operand → Value} {x y : Operand} {T T' : TypeId} (ho : o.op = .call { callee := .builtin .append, args := #[x, y], argTypes := #[T, T'] }) :
    execOp ρ o = vOf (Builtin.append_ #[T, T'] o.type #[ρ x, ρ y]) := by rw [exec_builtin ho]; simp [builtin, vOf]

theorem nx_append {s : LSpec U} {d : Nat} {E : TypeId} {t : Ty} {zs : List (t.den U.T)} {w' : World} {u' : Value} {row : Option Nat} {es : Nat → List Value} (hpb : s.pb = [(d, .row E t zs false)]) (hnn : s.nn = [d])
    (hlt : ∀ b, S b → b < w.heap.size) (hg : w.grownBy w' row) (hrow : ∀ b, row = some b → ¬ S b ∧ b < w.heap.size ∧ ∃ n ∈ nm s.cb, ∃ c, ι n = some (b, c))
    (hel : ∀ (i : Nat) (h : i < zs.length), Rd U O S w t zs[i] (es i)) (hown : w'.ownsRow 0 E (t.width U.wd) u' zs.length (rowCells zs.length es))
    (hplace : ∀ b, u'.ownBlock = some b → w.heap.size ≤ b ∨ row = some b) :
    ∃ ι', Nx U O s S ι w S ι' w' ∧ VV U O S ι' w' (.vec d (t.width U.wd) 0 zs.length) u' := by
  have hst : ∀ b, S b → w'.heap[b]? = w.heap[b]? := fun b hb => hg.block b (hlt b hb) fun e => (hrow b e.symm).1 hb
  let ι' : Lay := fun n => if n = d then (match u' with | .slice (some ad) _ c => some (ad.block, c) | _ => none) else ι n
  have hι : ∀ b c, ι' d = some (b, c) ↔ ∃ l, u' = .slice (some ⟨b, 0, none⟩) l c := by
    intro b c
    simp only [ι', if_true]
    rcases hown.2 with ⟨rfl, _⟩ | ⟨g, cap, cur, rfl, _⟩
    · simp
    · simp only [Option.some.injEq, Prod.mk.injEq, Value.slice.injEq, Addr.mk.injEq, and_true]
      constructor
      · rintro ⟨rfl, rfl⟩; exact ⟨_, rfl, rfl, rfl⟩
      · rintro ⟨l, rfl, rfl, rfl⟩; exact ⟨rfl, rfl⟩
  obtain ⟨hB, hV⟩ := own_to (n := d) (fun i hi => (hel i hi).mono hst fun _ h => h) hown hι
  refine ⟨ι', ⟨hg.os, hg.tape, hg.output, hg.size, fun _ h => h, fun _ h => .inl h, fun b h => Nat.lt_of_lt_of_le (hlt b h) hg.size, fun b hb hnot => ?_, fun n hn => ?_, fun x hx => ?_, fun n hn b c hb => ?_, fun n hn m hm hne => ?_⟩, hV⟩
  · refine hg.block b hb fun e => ?_
    obtain ⟨_, _, n, hn, c, hc⟩ := hrow b e.symm
    exact hnot n hn c hc
  · rw [hnn] at hn
    exact if_neg (by simpa using hn)
  · rw [hpb] at hx
    simp at hx; subst hx
    exact hB
  · rw [hpb] at hn
    simp at hn; subst hn
    obtain ⟨l, hl⟩ := (hι b c).1 hb
    have hob : u'.ownBlock = some b := by rw [hl]; rfl
    have hlt' : b < w'.heap.size := (hown.lt b hob).2
    rcases hplace b hob with h | h
    · exact ⟨fun hS => absurd (hlt b hS) (by omega), hlt', .inl h⟩
    · obtain ⟨h1, _, h2⟩ := hrow b h
      exact ⟨h1, hlt', .inr h2⟩
  · rw [hpb] at hn hm
    simp at hn hm
    exact absurd (hn.trans hm.symm) hne

theorem ok_inj {α : Type} {x y : α} {w w' : World} (h : Result.ok x w = Result.ok y w') : x = y ∧ w = w' := by injection h with h1 h2; exact ⟨h1, h2⟩

theorem run_append_place {T ty E : TypeId} {t : Ty} {by_ : Nat} (hT : RowOk P U T E t by_) {v : Value} {n : Nat} {xs : List Value} (hown : w.ownsRow 0 E (t.width U.wd) v n xs)
    (ad : Addr) (m c : Nat) {news : List Value} (hl : news.length = m * t.width U.wd) (hnews : ∀ j u, news[j]? = some u → w.cell? (ad.add j) = some u) (h1 : ∀ u ∈ news, u.oneCell' = true)
    (h63 : n + m ≤ maxLen) (hbytes : (n + m) * by_ ≤ 140737488355328) :
    ∃ v' w', (Builtin.append_ #[T, T] ty #[v, .slice (some ad) m c]).run P w = .ok v' w' ∧ w'.ownsRow 0 E (t.width U.wd) v' (n + m) (xs ++ news) ∧ w.grownBy w' v.ownBlock ∧
      ∀ b, v'.ownBlock = some b → w.heap.size ≤ b ∨ v.ownBlock = some b := by
  obtain ⟨i, z, hi, hz, hs, hby, hzs⟩ := hT.info
  obtain ⟨v', w', hr, ho, hg, hnil⟩ := run_append_own (P := P) w 0 T ty E i z (t.width U.wd) by_ hT.sl.under hi hz hs hby hzs hT.pos v n xs hown ad m c news hl hnews h1 h63 hbytes (Nat.zero_le _)
  refine ⟨v', w', hr, ho, hg, ?_⟩
  rcases hown.2 with ⟨rfl, rfl⟩ | ⟨g, cap, cur, rfl, _, h3, h4, h5, h6, h7⟩
  · by_cases hm : m = 0
    · rw [hnil.2 ⟨rfl, hm⟩]; intro b hb; cases hb
    · have h2 := run_append_nil (P := P) w T ty E i z hT.sl.under hi hz ad m c news (by rw [hs]; exact hl) hnews (by omega) (by unfold maxLen at h63; omega) (by rw [hby]; rw [Nat.zero_add] at hbytes; omega)
      obtain ⟨rfl, _⟩ := ok_inj (hr.symm.trans h2)
      intro b hb
      simp [Value.ownBlock] at hb
      exact .inl (by omega)
  · by_cases hroom : n + m ≤ cap
    · obtain ⟨w'', h2, _⟩ := run_append_fits (P := P) (ty := ty) (w := w) 0 T E i (t.width U.wd) hT.sl.under hi hs g n cap xs hown ad m c news hl hnews h1 hroom
      obtain ⟨rfl, _⟩ := ok_inj (hr.symm.trans h2)
      exact fun b hb => .inr hb
    · have h2 := run_append_grow (P := P) w T ty E i z hT.sl.under hi hz ⟨g, 0, none⟩ n cap xs (by rw [hs]; exact hown.1) (hown.cells (g := g) rfl) ad m c news (by rw [hs]; exact hl) hnews (by omega)
        (by unfold maxLen at h63; omega) (growslice_fits (by omega) (by rw [hby]; exact hbytes))
      obtain ⟨rfl, _⟩ := ok_inj (hr.symm.trans h2)
      intro b hb
      simp [Value.ownBlock] at hb
      exact .inl (by omega)

def LIM : Nat := 4294967296

theorem sok_append {T E : TypeId} {t : Ty} {by_ n d : Nat} {xs ys : List (t.den U.T)} {fx : Bool} {x y : Operand} {v : AVal U} {vw : List (Nat × Blk U)} (hg : o.guard = none) (_ : o.dst = some d)
    (ho : o.op = .call { callee := .builtin .append, args := #[x, y], argTypes := #[T, T] }) (hT : RowOk P U T E t by_) (hby : by_ ≤ 32768)
    (hx : Opd U rs x (.vec n (t.width U.wd) 0 xs.length)) (hy : Opd U rs y v) (hv : View U vw v (.p (.list t) ys)) (_ : n ∉ nm vw) (hlim : xs.length + ys.length ≤ LIM) :
    SOk U O P ops o { rs := rs, ro := vw, cb := [(n, .row E t xs fx)], ws := .vec d (t.width U.wd) 0 (xs.length + ys.length), pb := [(d, .row E t (xs ++ ys) false)], nn := [d] } := by
  intro S ι w a hlt hgl hrs hro hcb hown K Q hK
  have hB := hcb _ List.mem_cons_self
  obtain ⟨cs, hel, hrow, hplace⟩ := own_of rfl hB (hx.ev hrs) rfl rfl
  obtain ⟨ds, hdl, hys⟩ := view_cells hT.pos hv hro (hy.ev hrs)
  have hsz : (xs.length + ys.length) * by_ ≤ 140737488355328 := by
    have h1 : (xs.length + ys.length) * by_ ≤ 4294967296 * 32768 := Nat.mul_le_mul (by unfold LIM at hlim; exact hlim) hby
    omega
  have h63 : xs.length + ys.length ≤ maxLen := by unfold LIM at hlim; unfold maxLen; omega
  have hnewl : (rowCells ys.length ds).length = ys.length * t.width U.wd := flatMap_range_length _ _ _ fun i hi => (hdl i hi).length
  have hone : ∀ u ∈ rowCells ys.length ds, u.oneCell' = true := fun u hu => by
    obtain ⟨i, hi, hu⟩ := List.mem_flatMap.1 hu
    exact (hdl i (List.mem_range.1 hi)).one u hu
  obtain ⟨v', w', hr, ho', hg', hp⟩ : ∃ v' w', (Builtin.append_ #[T, T] o.type #[a.eval x, a.eval y]).run P w = .ok v' w' ∧
      w'.ownsRow 0 E (t.width U.wd) v' (xs.length + ys.length) (rowCells xs.length cs ++ rowCells ys.length ds) ∧ w.grownBy w' (a.eval x).ownBlock ∧ ∀ b, v'.ownBlock = some b → w.heap.size ≤ b ∨ (a.eval x).ownBlock = some b := by
    rcases hys with ⟨rfl, hu⟩ | ⟨ad, cap, hu, hc⟩
    · obtain ⟨i, z, hi, hz, hs, hb', hzs⟩ := hT.info
      rw [hu]
      refine ⟨_, w, run_append_owned_none (P := P) (ty := o.type) (w := w) 0 T E i (t.width U.wd) hT.sl.under hi _ _ _ hrow, ?_, ⟨rfl, rfl, rfl, Nat.le_refl _, fun _ _ _ => rfl⟩, fun b hb => .inr hb⟩
      simpa [rowCells] using hrow
    · rw [hu]
      exact run_append_place hT hrow ad ys.length cap hnewl hc hone h63 hsz
  have hzl : (xs ++ ys).length = xs.length + ys.length := List.length_append
  have hels : ∀ (i : Nat) (h : i < (xs ++ ys).length), Rd U O S w t (xs ++ ys)[i] (if i < xs.length then cs i else ds (i - xs.length)) := fun i hi => by
    by_cases h : i < xs.length
    · rw [if_pos h, List.getElem_append_left h]; exact hel i h
    · rw [if_neg h, List.getElem_append_right (by omega)]
      exact hdl (i - xs.length) (by omega)
  rw [rowCells_append, ← hzl] at ho'
  obtain ⟨ι', hN, hV⟩ := nx_append (s := { rs := rs, ro := vw, cb := [(n, .row E t xs fx)], ws := .vec d (t.width U.wd) 0 (xs.length + ys.length), pb := [(d, .row E t (xs ++ ys) false)], nn := [d] })
    (ι := ι) rfl rfl hlt hg' (fun b hb => by
      obtain ⟨c, hc⟩ := hplace b hb
      have := hown.out n (by simp) b c hc
      exact ⟨this.1, this.2, n, by simp, c, hc⟩) hels ho' hp
  refine opWp_plain hg ?_
  unfold Oper.wp
  rw [exec_append ho, run_vOf hr]
  rw [hzl] at hV
  exact hK v' S ι' w' hN hV

theorem sok_appendN {T E : TypeId} {t : Ty} {by_ d : Nat} {ys : List (t.den U.T)} {x y : Operand} {v : AVal U} {vw : List (Nat × Blk U)} (hg : o.guard = none) (_ : o.dst = some d)
    (ho : o.op = .call { callee := .builtin .append, args := #[x, y], argTypes := #[T, T] }) (hT : RowOk P U T E t by_) (hby : by_ ≤ 32768)
    (hx : Opd U rs x (.lit (.slice none 0 0))) (hy : Opd U rs y v) (hv : View U vw v (.p (.list t) ys)) (hlim : ys.length ≤ LIM) :
    SOk U O P ops o { rs := rs, ro := vw, ws := .vec d (t.width U.wd) 0 ys.length, pb := [(d, .row E t ys false)], nn := [d] } := by
  intro S ι w a hlt hgl hrs hro hcb hown K Q hK
  have hx0 : a.eval x = .slice none 0 0 := (hx.ev hrs).1
  obtain ⟨ds, hdl, hys⟩ := view_cells hT.pos hv hro (hy.ev hrs)
  have hsz : ys.length * by_ ≤ 140737488355328 := by
    have h1 : ys.length * by_ ≤ 4294967296 * 32768 := Nat.mul_le_mul (by unfold LIM at hlim; exact hlim) hby
    omega
  have h63 : ys.length ≤ maxLen := by unfold LIM at hlim; unfold maxLen; omega
  have hnewl : (rowCells ys.length ds).length = ys.length * t.width U.wd := flatMap_range_length _ _ _ fun i hi => (hdl i hi).length
  have hone : ∀ u ∈ rowCells ys.length ds, u.oneCell' = true := fun u hu => by
    obtain ⟨i, hi, hu⟩ := List.mem_flatMap.1 hu
    exact (hdl i (List.mem_range.1 hi)).one u hu
  have hrow := World.ownsRow_nil w 0 E (t.width U.wd)
  obtain ⟨v', w', hr, ho', hg', hp⟩ : ∃ v' w', (Builtin.append_ #[T, T] o.type #[a.eval x, a.eval y]).run P w = .ok v' w' ∧
      w'.ownsRow 0 E (t.width U.wd) v' ys.length (rowCells ys.length ds) ∧ w.grownBy w' none ∧ ∀ b, v'.ownBlock = some b → w.heap.size ≤ b := by
    rw [hx0]
    rcases hys with ⟨rfl, hu⟩ | ⟨ad, cap, hu, hc⟩
    · obtain ⟨i, z, hi, hz, hs, hb', hzs⟩ := hT.info
      rw [hu]
      refine ⟨_, w, run_append_owned_none (P := P) (ty := o.type) (w := w) 0 T E i (t.width U.wd) hT.sl.under hi _ _ _ hrow, ?_, ⟨rfl, rfl, rfl, Nat.le_refl _, fun _ _ _ => rfl⟩, fun b hb => by cases hb⟩
      simpa [rowCells] using hrow
    · rw [hu]
      obtain ⟨v', w', h1, h2, h3, h4⟩ := run_append_place (ty := o.type) hT hrow ad ys.length cap hnewl hc hone (by simpa using h63) (by simpa using hsz)
      exact ⟨v', w', h1, by simpa using h2, h3, fun b hb => (h4 b hb).elim id fun h => by cases h⟩
  obtain ⟨ι', hN, hV⟩ := nx_append (s := { rs := rs, ro := vw, ws := .vec d (t.width U.wd) 0 ys.length, pb := [(d, .row E t ys false)], nn := [d] }) (ι := ι) rfl rfl hlt hg' (fun b hb => by cases hb) hdl ho' (fun b hb => .inl (hp b hb))
  refine opWp_plain hg ?_
  unfold Oper.wp
  rw [exec_append ho, run_vOf hr]
  exact hK v' S ι' w' hN hV
end
end Go.AM
namespace Go.AM

section
variable {U : Univ} {O : Out} {P : Program} {S : Nat → Prop} {ι : Lay} {w : World} {rs : List (Nat × AVal U)} {a : Act} {ops : Array Oper} {o : Oper}

theorem fold_cells (off : Nat) : ∀ (l : List Value) (k : Nat) (arr : Array Value), off + k + l.length ≤ arr.size →
    ((l.zipIdx k).foldl (fun cs x => cs.setIfInBounds (off + x.2) x.1) arr).toList = arr.toList.take (off + k) ++ l ++ arr.toList.drop (off + k + l.length)
  | [], k, arr, _ => by simp
  | c :: l, k, arr, h => by
    rw [List.zipIdx_cons, List.foldl_cons, fold_cells off l (k + 1) _ (by simp at h ⊢; omega)]
    simp only [Array.toList_setIfInBounds]
    have e := list_seg_step arr.toList (off + k) c l (by simp at h ⊢; omega)
    simpa [Nat.add_assoc] using e

theorem fold_cells' (off : Nat) (v : Array Value) (arr : Array Value) (h : off + v.size ≤ arr.size) :
    (v.zipIdx.foldl (fun cs (x : Value × Nat) => cs.setIfInBounds (off + x.2) x.1) arr).toList = arr.toList.take off ++ v.toList ++ arr.toList.drop (off + v.size) := by
  have := fold_cells off v.toList 0 arr (by simpa using h)
  rw [← Array.foldl_toList, Array.toList_zipIdx]
  simpa using this

theorem fill_all (place : Nat → Option (Nat × Nat)) : ∀ (l : List (Nat × Value)) (off : Nat) (arr : Array Value),
    (∀ (done rest : List (Nat × Value)) (x : Nat × Value), l = done ++ x :: rest → place x.1 = some (off + (done.map fun y => y.2.cells.size).sum, x.2.cells.size)) →
    off + (l.map fun y => y.2.cells.size).sum ≤ arr.size →
    ∃ out, Instr.fill place arr l = some out ∧ out.size = arr.size ∧ out.toList = arr.toList.take off ++ cellsOf (l.map (·.2)) ++ arr.toList.drop (off + (l.map fun y => y.2.cells.size).sum)
  | [], off, arr, _, _ => ⟨arr, rfl, rfl, by simp [cellsOf]⟩
  | (i, v) :: l, off, arr, hp, hs => by
    have h0 := hp [] l (i, v) rfl
    simp only [List.map_nil, List.sum_nil, Nat.add_zero] at h0
    simp only [List.map_cons, List.sum_cons] at hs
    have hfit : off + v.cells.size ≤ arr.size := by omega
    have harr := fold_cells' off v.cells arr hfit
    generalize harr' : v.cells.zipIdx.foldl (fun cs (x : Value × Nat) => cs.setIfInBounds (off + x.2) x.1) arr = arr' at harr
    have hsz : arr'.size = arr.size := by rw [← Array.length_toList, harr]; simp; omega
    obtain ⟨out, h1, h2, h3⟩ := fill_all place l (off + v.cells.size) arr' (fun done rest x hl => by
      have := hp ((i, v) :: done) rest x (by rw [hl]; rfl)
      simpa [Nat.add_assoc] using this) (by rw [hsz]; omega)
    refine ⟨out, ?_, by rw [h2, hsz], ?_⟩
    · unfold Instr.fill
      rw [h0]
      simp only [ne_eq, not_true_eq_false]
      rw [if_neg (by simp; omega)]
      rw [← h1, ← harr']
    · rw [h3, harr]
      simp only [List.map_cons, List.sum_cons, cellsOf, List.flatMap_cons]
      have hl1 : (arr.toList.take off ++ v.cells.toList).length = off + v.cells.size := by simp; omega
      have e1 : (arr.toList.take off ++ v.cells.toList ++ arr.toList.drop (off + v.cells.size)).take (off + v.cells.size) = arr.toList.take off ++ v.cells.toList := List.take_left' hl1
      have e2 : ∀ n, (arr.toList.take off ++ v.cells.toList ++ arr.toList.drop (off + v.cells.size)).drop (off + v.cells.size + n) = arr.toList.drop (off + (v.cells.size + n)) := fun n => by
        rw [← List.drop_drop, List.drop_left' hl1, List.drop_drop, Nat.add_assoc]
      rw [e1, e2]
      simp [List.append_assoc]

def partsOf (vs : List Operand) : List (Nat × Operand) := vs.zipIdx.map fun x => (x.2, x.1)

theorem exec_buildSlice {ρ : Operand → Value} {T : TypeId} {n : Nat} {ps : Array (Nat × Operand)} (ho : o.op = .buildSlice T n ps) :
    execOp ρ o = vOf (Instr.buildSlice T n (ps.map fun (i, x) => (i, ρ x))) := by unfold execOp; rw [ho]; rfl

inductive OpdsP (U : Univ) (rs : List (Nat × AVal U)) (t : Ty) : List Operand → List (t.den U.T) → Prop
  | nil : OpdsP U rs t [] []
  | cons {x : Operand} {v : t.den U.T} {xs : List Operand} {vs : List (t.den U.T)} : Opd U rs x (.p t v) → OpdsP U rs t xs vs → OpdsP U rs t (x :: xs) (v :: vs)

theorem OpdsP.ev {t : Ty} {xs : List Operand} {vs : List (t.den U.T)} (h : OpdsP U rs t xs vs) (hr : ∀ x ∈ rs, VV U O S ι w x.2 (a.tmps.getD x.1 undef)) :
    xs.length = vs.length ∧ ∃ cs : Nat → List Value, (∀ (i : Nat) (hi : i < vs.length), Rd U O S w t vs[i] (cs i)) ∧ ∀ i x, xs[i]? = some x → a.eval x = mkV t.isAgg (cs i) := by
  induction h with
  | nil => exact ⟨rfl, fun _ => [], fun i hi => absurd hi (by simp), fun i x h => by simp at h⟩
  | @cons x v xs vs h1 _ ih =>
    obtain ⟨hl, cs, h2, h3⟩ := ih
    obtain ⟨c, h4, h5⟩ := h1.ev hr
    refine ⟨by simp [hl], fun i => match i with | 0 => c | i + 1 => cs i, fun i hi => ?_, fun i y hy => ?_⟩
    · cases i with
      | zero => exact h4
      | succ i => exact h2 i (by simpa using hi)
    · cases i with
      | zero => simp at hy; subst hy; exact h5
      | succ i => exact h3 i y (by simpa using hy)

theorem sok_buildSlice {T E : TypeId} {t : Ty} {by_ d : Nat} {ps : Array (Nat × Operand)} {ys : List Operand} {xs : List (t.den U.T)} (hg : o.guard = none) (_ : o.dst = some d)
    (ho : o.op = .buildSlice T ys.length ps) (hps : ps.toList = partsOf ys) (hT : RowOk P U T E t by_) (hx : OpdsP U rs t ys xs) (hlim : ys.length * t.width U.wd ≤ 16777216) :
    SOk U O P ops o { rs := rs, ws := .vec d (t.width U.wd) 0 xs.length, pb := [(d, .row E t xs true)], nn := [d] } := by
  intro S ι w a hlt hgl hrs hro hcb hown K Q hK
  obtain ⟨hlen, cs, hel, hev⟩ := hx.ev hrs
  obtain ⟨i, z, hi, hz, hs, hby, hzs⟩ := hT.info
  have hpl : (ps.map fun (i, x) => (i, a.eval x)).toList = ys.zipIdx.map fun x => (x.2, a.eval x.1) := by
    rw [Array.toList_map, hps, partsOf, List.map_map]; rfl
  have hval : ∀ (k : Nat) (x : Nat × Value), (ys.zipIdx.map fun x => (x.2, a.eval x.1))[k]? = some x → x.1 = k ∧ k < xs.length ∧ x.2.cells.toList = cs k ∧ x.2.cells.size = t.width U.wd := by
    intro k x hk
    rw [List.getElem?_map] at hk
    cases hz : ys.zipIdx[k]? with
    | none => rw [hz] at hk; cases hk
    | some y =>
      rw [hz] at hk
      simp only [Option.map_some, Option.some.injEq] at hk
      rw [List.getElem?_zipIdx] at hz
      cases hy : ys[k]? with
      | none => rw [hy] at hz; cases hz
      | some y' =>
        rw [hy] at hz
        simp only [Option.map_some, Option.some.injEq, Nat.zero_add] at hz
        subst hz hk
        have hkl : k < xs.length := by rw [← hlen]; exact (List.getElem?_eq_some_iff.1 hy).1
        refine ⟨rfl, hkl, ?_, ?_⟩
        · rw [hev k y' hy]; exact (hel k hkl).cells
        · rw [hev k y' hy, ← Array.length_toList, (hel k hkl).cells]; exact (hel k hkl).length
  have hsum : ∀ l : List (Nat × Value), (∀ y ∈ l, y.2.cells.size = t.width U.wd) → (l.map fun y => y.2.cells.size).sum = l.length * t.width U.wd := by
    intro l
    induction l with
    | nil => intro _; simp
    | cons y l ih =>
      intro h
      rw [List.map_cons, List.sum_cons, h y List.mem_cons_self, ih fun z hz => h z (List.mem_cons_of_mem _ hz), List.length_cons, Nat.add_mul]
      omega
  have hall : ∀ y ∈ ys.zipIdx.map (fun x => (x.2, a.eval x.1)), y.2.cells.size = t.width U.wd := fun y hy => by
    obtain ⟨k, hk⟩ := List.mem_iff_getElem?.1 hy
    exact (hval k y hk).2.2.2
  have hll : (ys.zipIdx.map fun x => (x.2, a.eval x.1)).length = xs.length := by simp [hlen]
  let arr : Array Value := (Array.range (ys.length * t.width U.wd)).map fun j => (if ys.length * t.width U.wd = 0 then #[] else z.cells)[j % (if ys.length * t.width U.wd = 0 then #[] else z.cells).size]!
  have harr : arr.size = xs.length * t.width U.wd := by simp [arr, hlen]
  obtain ⟨out, h1, h2, h3⟩ := fill_all (fun i => some (i * t.width U.wd, t.width U.wd)) (ys.zipIdx.map fun x => (x.2, a.eval x.1)) 0 arr (fun done rest x hl => by
    have hk : (ys.zipIdx.map fun x => (x.2, a.eval x.1))[done.length]? = some x := by rw [hl]; simp
    obtain ⟨e1, _, _, e2⟩ := hval _ x hk
    rw [e1, e2, hsum done fun y hy => hall y (by rw [hl]; exact List.mem_append.2 (.inl hy)), Nat.zero_add]) (by rw [hsum _ hall, hll, harr]; omega)
  have hout : out.toList = rowCells xs.length cs := by
    rw [h3, hsum _ hall, hll, Nat.zero_add, List.take_zero, List.nil_append, List.drop_eq_nil_of_le (by simp [harr]), List.append_nil]
    unfold cellsOf rowCells
    rw [List.flatMap_map]
    have hr : (ys.zipIdx.map fun x => (x.2, a.eval x.1)) = (List.range xs.length).map fun k => (k, (ys.zipIdx.map fun x => (x.2, a.eval x.1)).getD k default |>.2) := by
      apply List.ext_getElem?
      intro k
      rw [List.getElem?_map (l := List.range _)]
      by_cases hk : k < xs.length
      · rw [List.getElem?_range hk, List.getElem?_eq_getElem (by rw [hll]; exact hk)]
        have := hval k _ (List.getElem?_eq_getElem (by rw [hll]; exact hk))
        simp only [Option.map_some, Option.some.injEq]
        rw [List.getD_eq_getElem?_getD, List.getElem?_eq_getElem (by rw [hll]; exact hk), Option.getD_some]
        exact Prod.ext this.1 rfl
      · rw [List.getElem?_eq_none (by rw [hll]; omega), List.getElem?_eq_none (by simp; omega)]; rfl
    rw [hr, List.flatMap_map]
    refine flatMap_same fun k hk => ?_
    have hk := List.mem_range.1 hk
    have := hval k _ (List.getElem?_eq_getElem (by rw [hll]; exact hk))
    rw [List.getD_eq_getElem?_getD, List.getElem?_eq_getElem (by rw [hll]; exact hk), Option.getD_some]
    exact this.2.2.1
  have hrun : (Instr.buildSlice T ys.length (ps.map fun (i, x) => (i, a.eval x))).run P w = .ok (.slice (some ⟨w.heap.size, 0, none⟩) ys.length ys.length) (w.alloc (.cells out E)) := by
    have hn : ¬ ys.length * t.width U.wd > 2 ^ 24 := by omega
    have h1' : Instr.fill (fun i => some (i * t.width U.wd, t.width U.wd)) ((Array.range (ys.length * t.width U.wd)).map fun j => (if ys.length * t.width U.wd = 0 then #[] else z.cells)[j % (if ys.length * t.width U.wd = 0 then #[] else z.cells).size]!)
      (ys.zipIdx.map fun x => (x.2, a.eval x.1)) = some out := h1
    have hzr : (zeroValue E).run P w = .ok z w := by simp [zeroValue, typeInfo, hi, hz]
    unfold Instr.buildSlice
    rw [Sem.run_bind, run_underlying hT.sl.under]
    simp only [Result.andThen_ok]
    rw [Sem.run_bind, run_sizeOf hT.sl.el]
    simp only [Result.andThen_ok, if_neg hn]
    by_cases h0 : ys.length * t.width U.wd = 0
    · simp only [if_pos h0] at h1' ⊢
      rw [Sem.run_bind, Sem.run_pure]
      simp only [Result.andThen_ok, hpl, h1']
      rfl
    · simp only [if_neg h0] at h1' ⊢
      rw [Sem.run_bind, hzr]
      simp only [Result.andThen_ok]
      rw [Sem.run_bind, Sem.run_pure]
      simp only [Result.andThen_ok, hpl, h1']
      rfl
  refine opWp_plain hg ?_
  unfold Oper.wp
  rw [exec_buildSlice ho, run_vOf hrun, hlen]
  have hcl : ∀ i, i < xs.length → (cs i).length = t.width U.wd := fun i hi => (hel i hi).length
  have hxl : xs.length ≤ maxLen := by
    have : xs.length ≤ xs.length * t.width U.wd := Nat.le_mul_of_pos_right _ hT.pos
    rw [hlen] at hlim
    unfold maxLen; omega
  refine hK _ S _ _ (Nx.alloc (s := { rs := rs, ws := .vec d (t.width U.wd) 0 xs.length, pb := [(d, .row E t xs true)], nn := [d] }) (.cells out E) rfl rfl rfl hlt xs.length ?_) (.inr ⟨w.heap.size, xs.length, 0, by simp, by omega, by simp, .inl (by simp)⟩)
  refine .inr ⟨w.heap.size, xs.length, out, cs, by simp, heap_alloc_new w _, by rw [h2, harr], hxl, Nat.le_refl _, fun _ => rfl, fun i hi => (hel i hi).mono (fun b hb => heap_alloc_old w _ b (hlt b hb)) fun _ h => h, fun i j hi hj => ?_⟩
  rw [← Array.getElem?_toList, hout]
  exact rowCells_get hcl hi hj

theorem sok_indexV {T E : TypeId} {t : Ty} {n off len : Nat} {x y : Operand} {k : IntKind} {i : Int} (hg : o.guard = none) (ho : o.op = .indexAddr T x y) (ht : SlOk P U T E t)
    (hx : Opd U rs x (.vec n (t.width U.wd) off len)) (hy : Opd U rs y (.p (.int k) i)) (hi : 0 ≤ i ∧ i < (len : Int)) : SOk U O P ops o { rs := rs, ws := .eloc n (t.width U.wd) (off + i.toNat) 0 } :=
  sok_v hg _ (fun _ => exec_indexAddr ho) fun S ι w a hrs _ => by
    rcases hx.ev hrs with ⟨_, _, rfl, _⟩ | ⟨b, c, o', hn, hoc, hv, hor⟩
    · omega
    · have ho' : o' = off * t.width U.wd := by
        rcases hor with h | h
        · exact h
        · omega
      refine ⟨.pointer (some ⟨b, o' + i.toNat * t.width U.wd, none⟩), ?_, b, c, hn, ?_⟩
      · rw [hv, VV.int_iff.1 (hy.ev hrs)]
        simp only [Instr.indexAt, asIntOf, Sem.run_bind, Sem.run_pure, Result.andThen_ok, run_underlying ht.under, if_pos hi, run_sizeOf ht.el, Addr.add_lit]
      · rw [ho', Nat.add_mul]; simp

theorem sok_loadE {T E : TypeId} {t t' : Ty} {n i off : Nat} {xs : List (t.den U.T)} {fx : Bool} {x : Operand} {e : t.den U.T} {Z : t'.den U.T} (hg : o.guard = none) (ho : o.op = .load T x) (ht : TyOk P U T t')
    (hx : Opd U rs x (.eloc n (t.width U.wd) i off)) (he : xs[i]? = some e) (hc : Comp U t e off t' Z) : SOk U O P ops o { rs := rs, ro := [(n, .row E t xs fx)], ws := .p t' Z } :=
  sok_v hg _ (fun _ => exec_load ho) fun S ι w a hrs hro => by
    obtain ⟨b, c, hn, hv⟩ := hx.ev hrs
    obtain ⟨hi, he⟩ := List.getElem?_eq_some_iff.1 he
    rcases hro _ List.mem_cons_self with ⟨h1, _⟩ | ⟨b', c', arr, cs, h1, h2, h3, h4, h5, h6, h7, h8⟩
    · rw [hn] at h1; cases h1
    · rw [hn] at h1
      obtain ⟨rfl, rfl⟩ : b = b' ∧ c = c' := by simpa using h1
      obtain ⟨cs', hr', hle, hget⟩ := hc.get (he ▸ h7 i hi)
      refine ⟨_, ?_, cs', hr', rfl⟩
      rw [hv]
      refine run_loadAt ht hr'.length fun j hj => ?_
      rw [cell_of_row w b _ arr _ (0, 0) h2, ← hget j hj, ← h8 i (off + j) hi (by omega), Nat.add_assoc]

theorem sok_fieldB {T F : TypeId} {f off n b0 : Nat} {t : Ty} {x : Operand} (hg : o.guard = none) (ho : o.op = .fieldAddr T x f) (hf : FdOk P U T f off F t) (hw : t.width U.wd ≠ 0) (hx : Opd U rs x (.loc n b0)) :
    SOk U O P ops o { rs := rs, ws := .loc n (b0 + off) } :=
  sok_v hg _ (fun _ => exec_fieldAddr ho) fun S ι w a hrs _ => by
    obtain ⟨b, c, hn, hv⟩ := hx.ev hrs
    obtain ⟨fs, fd, h1, h2, h3, h4⟩ := hf.h
    refine ⟨.pointer (some ⟨b, b0 + off, none⟩), ?_, b, c, hn, rfl⟩
    rw [hv]
    simp only [Instr.fieldAt, Instr.sureAddr, Sem.run_bind, run_underlying h1, Result.andThen_ok, h2, Sem.run_pure, run_fieldPlace hf.ty hw b b0 fd h4, h3]

theorem sok_fieldE {T F : TypeId} {f off n wd i b0 : Nat} {t : Ty} {x : Operand} (hg : o.guard = none) (ho : o.op = .fieldAddr T x f) (hf : FdOk P U T f off F t) (hw : t.width U.wd ≠ 0) (hx : Opd U rs x (.eloc n wd i b0)) :
    SOk U O P ops o { rs := rs, ws := .eloc n wd i (b0 + off) } :=
  sok_v hg _ (fun _ => exec_fieldAddr ho) fun S ι w a hrs _ => by
    obtain ⟨b, c, hn, hv⟩ := hx.ev hrs
    obtain ⟨fs, fd, h1, h2, h3, h4⟩ := hf.h
    refine ⟨.pointer (some ⟨b, i * wd + b0 + off, none⟩), ?_, b, c, hn, by rw [Nat.add_assoc]⟩
    rw [hv]
    simp only [Instr.fieldAt, Instr.sureAddr, Sem.run_bind, run_underlying h1, Result.andThen_ok, h2, Sem.run_pure, run_fieldPlace hf.ty hw b _ fd h4, h3]

theorem sok_sliceV {T E : TypeId} {t : Ty} {n off len : Nat} {xs : List (t.den U.T)} {fx : Bool} {x : Operand} {lo hi : Option Operand} {l h : Int} (hg : o.guard = none) (ho : o.op = .slice T x lo hi none)
    (ht : SlOk P U T E t) (hx : Opd U rs x (.vec n (t.width U.wd) off len)) (hl : Bd U rs 0 lo l) (hh : Bd U rs (len : Int) hi h) (h0 : 0 ≤ l) (h1 : l ≤ h) (h2 : off + h.toNat ≤ xs.length) :
    SOk U O P ops o { rs := rs, ro := [(n, .row E t xs fx)], ws := .vec n (t.width U.wd) (off + l.toNat) (h.toNat - l.toNat) } :=
  sok_v hg _ (fun _ => exec_slice ho) fun S ι w a hrs hro => by
    have hB := hro _ List.mem_cons_self
    rcases hx.ev hrs with ⟨hn, rfl, rfl, hv⟩ | ⟨b, c, o', hn, hoc, hv, hor⟩
    · rcases hB with ⟨_, rfl, _⟩ | ⟨b', c', arr, cs, h3, _⟩
      · have hl0 : l.toNat = 0 := by simp at h2; omega
        have hh0 : h.toNat = 0 := by simp at h2; omega
        have hsb := run_sliceBounds (P := P) true 0 0 hl hh hrs h0 h1 (by omega) w
        refine ⟨.slice none 0 0, ?_, .inl ⟨hn, by omega, by omega, rfl⟩⟩
        rw [hv]
        simp only [Instr.sliceAt, Instr.slice, Sem.run_bind, Result.andThen_ok, run_underlying ht.under, Option.map_none, hsb, run_sizeOf ht.el, Sem.run_pure, hl0, hh0]
        rfl
      · rw [hn] at h3; cases h3
    · rcases hB with ⟨h3, _⟩ | ⟨b', c', arr, cs, h3, _, _, _, h5, _⟩
      · rw [hn] at h3; cases h3
      · rw [hn] at h3
        obtain ⟨rfl, rfl⟩ : b = b' ∧ c = c' := by simpa using h3
        have hsb := run_sliceBounds (P := P) true len (c - off) hl hh hrs h0 h1 (by omega) w
        refine ⟨.slice (if c - off = l.toNat then some ⟨b, o', none⟩ else some ⟨b, o' + l.toNat * t.width U.wd, none⟩) (h.toNat - l.toNat) (c - off - l.toNat), ?_, ?_⟩
        · rw [hv]
          simp only [Instr.sliceAt, Instr.slice, Sem.run_bind, Result.andThen_ok, run_underlying ht.under, Option.map_none, hsb, run_sizeOf ht.el, Sem.run_pure, Option.map_some, Addr.add_lit]
        · by_cases e : c - off = l.toNat
          · rw [if_pos e]
            refine .inr ⟨b, c, o', hn, by omega, by rw [Nat.sub_sub], ?_⟩
            by_cases e0 : l.toNat = 0
            · rcases hor with h | ⟨h, h'⟩
              · exact .inl (by rw [e0, Nat.add_zero]; exact h)
              · exact .inr ⟨by omega, by omega⟩
            · exact .inr ⟨by omega, by omega⟩
          · rw [if_neg e]
            have ho' : o' = off * t.width U.wd := by
              rcases hor with h | h
              · exact h
              · omega
            exact .inr ⟨b, c, _, hn, by omega, by rw [Nat.sub_sub], .inl (by rw [ho', Nat.add_mul])⟩
end
end Go.AM
namespace Go.AM
open Go.WideShapes Go.ChangeShapes

inductive Wf (U : Univ) : (t : Ty) → t.den U.T → Prop
  | bool (b : Bool) : Wf U .bool b
  | int (k : IntKind) (n : Int) (h : (Lit.int k n).wf = true) : Wf U (.int k) n
  | str (s : List UInt8) (h : s.length ≤ maxLen) : Wf U .str s
  | unit : Wf U .unit ()
  | pair {a b : Ty} {x : a.den U.T} {y : b.den U.T} : Wf U a x → Wf U b y → Wf U (.pair a b) (x, y)
  | named {n : Nat} {x : U.T n} : Wf U (U.body n) (U.out n x) → Wf U (.named n) x
  | list {t : Ty} (xs : List (t.den U.T)) (hl : xs.length ≤ maxLen) (h : ∀ x ∈ xs, Wf U t x) : Wf U (.list t) xs
  | arr {n : Nat} {t : Ty} (xs : List (t.den U.T)) (hl : xs.length = n) (h : ∀ x ∈ xs, Wf U t x) : Wf U (.arr n t) xs

def FieldsOk (P : Program) (U : Univ) (tab : TypeId → Option Ty) : List Field → Nat → Ty → Prop
  | [], _, t => t = .unit
  | f :: fs, off, t => ∃ a b, t = .pair a b ∧ f.offset = off ∧ tab f.type = some a ∧ P.cellsOf f.type = a.width U.wd ∧ FieldsOk P U tab fs (off + a.width U.wd) b

def TabAt (P : Program) (U : Univ) (tab : TypeId → Option Ty) (T : TypeId) : Ty → Prop
  | .bool => P.underlying T = some .bool
  | .int k => P.underlying T = some (.int k)
  | .str => P.underlying T = some .string
  | .list t => ∃ E, P.underlying T = some (.slice E) ∧ tab E = some t ∧ P.cellsOf E = t.width U.wd ∧ 0 < t.width U.wd
  | .arr n t => ∃ E, P.underlying T = some (.array n E) ∧ tab E = some t ∧ P.cellsOf E = t.width U.wd ∧ P.cellsOf T = n * t.width U.wd
  | .named n => ∃ fs, P.underlying T = some (.struct fs) ∧ P.cellsOf T = U.wd n ∧ FieldsOk P U tab fs.toList 0 (U.body n)
  | _ => False

def TabOk (P : Program) (U : Univ) (tab : TypeId → Option Ty) : Prop := ∀ T t, tab T = some t → TabAt P U tab T t

section
variable {U : Univ} {O : Out} {P : Program} {H : Type} {enc : TypeId × Value → H} {W : World} {base : Nat} {sp : Nat → Bool} {held : Bool} {tab : TypeId → Option Ty}

theorem mapM_some {α β : Type} {f : α → Option β} : ∀ {l : List α} {r : List β}, l.mapM f = some r → r.length = l.length ∧ ∀ (i : Nat) (x : α), l[i]? = some x → ∃ y, r[i]? = some y ∧ f x = some y
  | [], r, h => by simp at h; subst h; exact ⟨rfl, fun i x h => by simp at h⟩
  | a :: l, r, h => by
    rw [List.mapM_cons] at h
    simp only [Option.bind_eq_bind, Option.bind_eq_some_iff, Option.pure_def, Option.some.injEq] at h
    obtain ⟨y, hy, ys, hys, rfl⟩ := h
    obtain ⟨h1, h2⟩ := mapM_some hys
    refine ⟨by simp [h1], fun i x hx => ?_⟩
    cases i with
    | zero => simp at hx; subst hx; exact ⟨y, rfl, hy⟩
    | succ i => simpa using h2 i x (by simpa using hx)

theorem cells?_some {b o n : Nat} {a : Addr} {l : List Value} (ha : a = ⟨b, o, none⟩) (h : W.cells? base a n = some l) : l.length = n ∧ ∀ j, j < n → W.cell? ⟨b, o + j, none⟩ = l[j]? := by
  subst ha
  unfold World.cells? at h
  split at h
  · obtain ⟨h1, h2⟩ := mapM_some h
    refine ⟨by simpa using h1, fun j hj => ?_⟩
    obtain ⟨y, h3, h4⟩ := h2 j j (by rw [List.getElem?_range hj])
    rw [Addr.add_lit] at h4
    rw [h4, h3]
  · cases h

abbrev There (W : World) : Nat → Prop := fun b => b < W.heap.size

def Good (U : Univ) (O : Out) (W : World) (t : Ty) (cs : List Value) : Prop := ∃ x : t.den U.T, Rd U O (There W) W t x cs ∧ Wf U t x

theorem fields_rd {n : Nat} {cs : List Value} (ih : ∀ T t cs d p, tab T = some t → DataW.trod enc P W base sp held n T cs = some (d, p) → Good U O W t cs) :
    ∀ (fs : List Field) (off : Nat) (t : Ty) (r : List (DataW H × List MemPlace)), FieldsOk P U tab fs off t →
      fs.mapM (fun f => DataW.trod enc P W base sp held n f.type ((cs.drop f.offset).take (P.cellsOf f.type))) = some r → cs.length = off + t.width U.wd → Good U O W t (cs.drop off)
  | [], off, t, r, hf, _, hl => by
    subst hf
    refine ⟨(), ?_, .unit⟩
    rw [List.drop_of_length_le (by simp [Ty.width] at hl; omega)]
    exact .unit
  | f :: fs, off, t, r, hf, h, hl => by
    obtain ⟨a, b, rfl, ho, ht, hc, hrest⟩ := hf
    rw [List.mapM_cons] at h
    simp only [Option.bind_eq_bind, Option.bind_eq_some_iff, Option.pure_def, Option.some.injEq] at h
    obtain ⟨y, hy, ys, hys, rfl⟩ := h
    rw [ho, hc] at hy
    obtain ⟨x, hx, wx⟩ := ih _ _ _ y.1 y.2 ht hy
    obtain ⟨z, hz, wz⟩ := fields_rd ih fs (off + a.width U.wd) b ys hrest hys (by simp [Ty.width] at hl; omega)
    refine ⟨(x, z), ?_, .pair wx wz⟩
    have : cs.drop off = (cs.drop off).take (a.width U.wd) ++ cs.drop (off + a.width U.wd) := by rw [← List.drop_drop, List.take_append_drop]
    rw [this]
    exact .pair hx hz

theorem choose_list {t : Ty} {n : Nat} {cs : Nat → List Value} (h : ∀ i, i < n → Good U O W t (cs i)) : ∃ xs : List (t.den U.T), xs.length = n ∧ (∀ (i : Nat) (hi : i < xs.length), Rd U O (There W) W t xs[i] (cs i)) ∧ ∀ x ∈ xs, Wf U t x := by
  induction n with
  | zero => exact ⟨[], rfl, fun i hi => absurd hi (by simp), fun x hx => by cases hx⟩
  | succ n ih =>
    obtain ⟨xs, h1, h2, h3⟩ := ih fun i hi => h i (by omega)
    obtain ⟨x, h4, h5⟩ := h n (by omega)
    refine ⟨xs ++ [x], by simp [h1], fun i hi => ?_, fun y hy => ?_⟩
    · by_cases e : i < xs.length
      · rw [List.getElem_append_left e]; exact h2 i e
      · have : i = n := by simp at hi; omega
        subst this
        rw [List.getElem_append_right (by omega)]
        simpa using h4
    · rcases List.mem_append.1 hy with hy | hy
      · exact h3 y hy
      · simp at hy; subst hy; exact h5

theorem trod_rd (hT : TabOk P U tab) : ∀ (n : Nat) (T : TypeId) (t : Ty) (cs : List Value) (d : DataW H) (p : List MemPlace), tab T = some t → DataW.trod enc P W base sp held n T cs = some (d, p) → Good U O W t cs := by
  intro n
  induction n with
  | zero => intro T t cs d p _ h; simp [DataW.trod] at h
  | succ n ih =>
    intro T t cs d p ht h
    have hat := hT T t ht
    cases t with
    | bool =>
      simp only [TabAt] at hat
      unfold DataW.trod at h
      simp only [hat] at h
      split at h <;> simp_all
      exact ⟨_, .bool _, .bool _⟩
    | int k =>
      simp only [TabAt] at hat
      unfold DataW.trod at h
      simp only [hat] at h
      split at h <;> simp_all
      exact ⟨_, .int _ _, .int _ _ (by simp_all)⟩
    | str =>
      simp only [TabAt] at hat
      unfold DataW.trod at h
      simp only [hat] at h
      split at h <;> simp_all
      exact ⟨_, .str _, .str _ (by simp_all)⟩
    | list t =>
      obtain ⟨E, hu, hE, hc, hpos⟩ := hat
      unfold DataW.trod at h
      simp only [hu] at h
      split at h <;> try (simp_all; done)
      · exact ⟨[], .lnil t, .list [] (by simp) fun x hx => by cases hx⟩
      · rename_i e a len cap heq
        obtain rfl : E = e := by simpa using heq
        split at h
        · rename_i hcond
          simp only [Option.bind_eq_some_iff, Option.map_eq_some_iff] at h
          obtain ⟨elems, hel, _⟩ := h
          obtain ⟨h1, h2⟩ := mapM_some hel
          obtain ⟨b, off, spot⟩ := a
          have hlen : elems.length = len := by simpa using h1
          have hgood : ∀ i, i < len → ∃ l, W.cells? base (Addr.add ⟨b, off, spot⟩ (i * P.cellsOf E)) (P.cellsOf E) = some l ∧ Good U O W t l := fun i hi => by
            obtain ⟨y, _, hy⟩ := h2 i i (by rw [List.getElem?_range hi])
            simp only [Option.bind_eq_some_iff] at hy
            obtain ⟨l, hl, hl'⟩ := hy
            exact ⟨l, hl, ih E t l y.1 y.2 hE hl'⟩
          have hgood' : ∀ i, ∃ l, i < len → (∀ j, j < t.width U.wd → W.cell? ⟨b, off + (i * t.width U.wd + j), none⟩ = l[j]?) ∧ Good U O W t l ∧ spot = none := fun i => by
            by_cases hi : i < len
            · obtain ⟨l, hl, hg⟩ := hgood i hi
              obtain ⟨l0, hl0, _⟩ := hgood 0 (by omega)
              have hsp : spot = none := by
                unfold World.cells? at hl0
                split at hl0
                · obtain ⟨_, h4⟩ := mapM_some hl0
                  obtain ⟨y, _, h5⟩ := h4 0 0 (by rw [List.getElem?_range (by omega)])
                  have h6 : (Addr.add (Addr.add ⟨b, off, spot⟩ (0 * P.cellsOf E)) 0) = ⟨b, off, spot⟩ := by simp [Addr.add]
                  rw [h6] at h5
                  unfold World.cell? at h5
                  cases spot with
                  | none => rfl
                  | some z => simp at h5; split at h5 <;> cases h5
                · cases hl0
              subst hsp
              rw [Addr.add_lit] at hl
              obtain ⟨_, h4⟩ := cells?_some rfl hl
              refine ⟨l, fun _ => ⟨fun j hj => ?_, hg, rfl⟩⟩
              rw [← h4 j (by rw [hc]; exact hj), hc, Nat.add_assoc]
            · exact ⟨[], fun h => absurd h hi⟩
          let cs : Nat → List Value := fun i => Classical.choose (hgood' i)
          have hcs : ∀ i, i < len → (∀ j, j < t.width U.wd → W.cell? ⟨b, off + (i * t.width U.wd + j), none⟩ = (cs i)[j]?) ∧ Good U O W t (cs i) ∧ spot = none := fun i hi => Classical.choose_spec (hgood' i) hi
          obtain ⟨xs, h3, h4, h5⟩ := choose_list (cs := cs) (n := len) fun i hi => (hcs i hi).2.1
          subst h3
          by_cases h0 : xs = []
          · subst h0
            exact ⟨[], .lemp t _ cap, .list [] (by simp) fun x hx => by cases hx⟩
          · have hp : 0 < xs.length := List.length_pos_iff.2 h0
            obtain ⟨h6, ⟨x0, hr0, _⟩, hsp⟩ := hcs 0 hp
            subst hsp
            have hb : b < W.heap.size := by
              have h7 := h6 0 hpos
              have h8 : (0 : Nat) < (cs 0).length := by rw [hr0.length]; exact hpos
              rw [List.getElem?_eq_getElem h8] at h7
              exact World.block_lt_of_cell? W _ h7
            exact ⟨xs, .list t xs b off cap cs hb hcond.2.1 h4 fun i j hi hj => (hcs i hi).1 j hj, .list xs (by have := hcond.2.1; have := hcond.2.2; omega) h5⟩
        · cases h
    | arr m t =>
      obtain ⟨E, hu, hE, hc, hsz⟩ := hat
      unfold DataW.trod at h
      simp only [hu] at h
      split at h
      · rename_i hl
        simp only [Option.map_eq_some_iff] at h
        obtain ⟨r, hr, _⟩ := h
        obtain ⟨_, h2⟩ := mapM_some hr
        obtain ⟨xs, h3, h4, h5⟩ := choose_list (U := U) (O := O) (W := W) (t := t) (cs := fun i => (cs.drop (i * t.width U.wd)).take (t.width U.wd)) (n := m) fun i hi => by
          obtain ⟨y, _, hy⟩ := h2 i i (by rw [List.getElem?_range hi])
          rw [hc] at hy
          exact ih E t _ y.1 y.2 hE hy
        refine ⟨xs, ?_, .arr xs h3 h5⟩
        have hcs : cs = (List.range m).flatMap fun i => (cs.drop (i * t.width U.wd)).take (t.width U.wd) := by
          have hlen : cs.length = m * t.width U.wd := by rw [hl]; exact hsz
          have : ∀ k, k ≤ m → (List.range k).flatMap (fun i => (cs.drop (i * t.width U.wd)).take (t.width U.wd)) = cs.take (k * t.width U.wd) := by
            intro k
            induction k with
            | zero => intro _; simp
            | succ k ih2 =>
              intro hk
              rw [List.range_succ, List.flatMap_append, ih2 (by omega), List.flatMap_cons, List.flatMap_nil, List.append_nil, Nat.add_mul, Nat.one_mul, List.take_add]
          rw [this m (Nat.le_refl _), ← hlen, List.take_length]
        rw [hcs]
        exact .arr m t xs _ h3 h4
      · cases h
    | named n =>
      obtain ⟨fs, hu, hc, hf⟩ := hat
      unfold DataW.trod at h
      simp only [hu] at h
      split at h
      · rename_i hl
        simp only [Option.map_eq_some_iff] at h
        obtain ⟨r, hr, _⟩ := h
        obtain ⟨x, hx, wx⟩ := fields_rd (U := U) (O := O) (fun T t cs d p hT' => ih T t cs d p hT') fs.toList 0 (U.body n) r hf hr (by rw [hl, hc, U.wd_ok]; omega)
        simp only [List.drop_zero] at hx
        exact ⟨U.inn n x, .named n _ (by rw [U.out_inn]; exact hx), .named (by rw [U.out_inn]; exact wx)⟩
      · cases h
    | _ => exact hat.elim
end
end Go.AM
