/- The abstract layer, part H: guards; frozen memory: elements, fields, loads. -/
import Derived.Test.YthmbbdemecljpaaDoorK11AmG
import Derived.Laws.Cells
namespace Go.AM

section
variable {U : Univ} {O : Out} {P : Program} {S : Nat → Prop} {ι : Lay} {w : World} {rs : List (Nat × AVal U)} {a : Act} {ops : Array Oper} {o : Oper}

theorem exec_unguard (ρ : Operand → Value) (o : Oper) : execOp ρ { o with guard := none } = execOp ρ o := rfl

/-- A guarded operation that is carried out. -/
theorem sok_run {s : LSpec U} {j t : Nat} {want b : Bool} (hg : o.guard = some (j, want)) (hd : (ops[j]?).bind (·.dst) = some t) (hb : b = want)
    (h : SOk U O P ops { o with guard := none } s) : SOk U O P ops o { s with rs := (t, .p .bool b) :: s.rs } := by
  intro S ι w a hlt hgl hrs hro hcb hown K Q hK
  have h1 := h S ι w a hlt hgl (fun x hx => hrs x (List.mem_cons_of_mem _ hx)) hro hcb hown K Q
    (fun u S' ι' w' hN hu => hK u S' ι' w' ⟨hN.os, hN.tape, hN.output, hN.size, hN.sub, hN.new, hN.lt, hN.keep, hN.lay, hN.blk, hN.plc, hN.sep⟩ hu)
  have hv := VV.bool_iff.1 (hrs (t, .p .bool b) List.mem_cons_self)
  have hy : yielded ops a.tmps j = some want := by
    unfold yielded
    rw [hd]
    simp only [Option.bind_some]
    simp only at hv
    rw [Array.getD_eq_getD_getElem?] at hv
    cases ht : a.tmps[t]? with
    | none => rw [ht] at hv; cases hv
    | some v => rw [ht] at hv; simp only [Option.getD_some] at hv; rw [hv, hb]
  unfold opWp at h1 ⊢
  rw [if_pos (by simp [Region.wanted])] at h1
  rw [if_pos (by simp [Region.wanted, hg, hy])]
  exact h1

/-- A guarded operation that is passed by. -/
theorem sok_skip {j t : Nat} {want b : Bool} (hg : o.guard = some (j, want)) (hd : (ops[j]?).bind (·.dst) = some t) (hb : b = !want) :
    SOk U O P ops o { rs := [(t, .p .bool b)], ws := .tup [] } := by
  intro S ι w a hlt hgl hrs hro hcb hown K Q hK
  have hv := VV.bool_iff.1 (hrs (t, .p .bool b) List.mem_cons_self)
  have hy : yielded ops a.tmps j = some (!want) := by
    unfold yielded
    rw [hd]
    simp only [Option.bind_some]
    simp only at hv
    rw [Array.getD_eq_getD_getElem?] at hv
    cases ht : a.tmps[t]? with
    | none => rw [ht] at hv; cases hv
    | some v => rw [ht] at hv; simp only [Option.getD_some] at hv; rw [hv, hb]
  unfold opWp
  rw [if_neg (by simp [Region.wanted, hg, hy])]
  exact hK undef S ι w (Nx.refl _ rfl rfl hlt) ⟨[], rfl, rfl⟩

/-- A guarded operation whose guard was passed by. -/
theorem sok_skipU {j t : Nat} {want : Bool} (hg : o.guard = some (j, want)) (hd : (ops[j]?).bind (·.dst) = some t) :
    SOk U O P ops o { rs := [(t, .tup [])], ws := .tup [] } := by
  intro S ι w a hlt hgl hrs hro hcb hown K Q hK
  obtain ⟨vs, hvs, hv⟩ := hrs (t, .tup []) List.mem_cons_self
  have hvs' : vs = [] := hvs
  subst hvs'
  have hy : yielded ops a.tmps j = none := by
    unfold yielded
    rw [hd]
    simp only [Option.bind_some]
    simp only at hv
    rw [Array.getD_eq_getD_getElem?] at hv
    cases ht : a.tmps[t]? with
    | none => rfl
    | some v => rw [ht] at hv; simp only [Option.getD_some] at hv; rw [hv]
  unfold opWp
  rw [if_neg (by simp [Region.wanted, hg, hy])]
  exact hK undef S ι w (Nx.refl _ rfl rfl hlt) ⟨[], rfl, rfl⟩

/-- A part of a datum: from which cell on it lies. -/
inductive Comp (U : Univ) : (t : Ty) → t.den U.T → Nat → (t' : Ty) → t'.den U.T → Prop
  | here (t : Ty) (x : t.den U.T) : Comp U t x 0 t x
  | fst {a b : Ty} {x : a.den U.T} {y : b.den U.T} {o : Nat} {t : Ty} {z : t.den U.T} : Comp U a x o t z → Comp U (.pair a b) (x, y) o t z
  | snd {a b : Ty} {x : a.den U.T} {y : b.den U.T} {o k : Nat} {t : Ty} {z : t.den U.T} : Comp U b y o t z → k = a.width U.wd + o → Comp U (.pair a b) (x, y) k t z
  | named {n : Nat} {x : U.T n} {o : Nat} {t : Ty} {z : t.den U.T} : Comp U (U.body n) (U.out n x) o t z → Comp U (.named n) x o t z
  | arr {n : Nat} {e : Ty} {xs : List (e.den U.T)} {i o k : Nat} {x : e.den U.T} {t : Ty} {z : t.den U.T} : xs[i]? = some x → Comp U e x o t z → k = i * e.width U.wd + o → Comp U (.arr n e) xs k t z

theorem flatMap_range_get (n k : Nat) (cs : Nat → List Value) (h : ∀ i, i < n → (cs i).length = k) (i j : Nat) (hi : i < n) (hj : j < k) : ((List.range n).flatMap cs)[i * k + j]? = (cs i)[j]? := by
  induction n with
  | zero => omega
  | succ n ih =>
    have hl := flatMap_range_length n k cs fun i hi => h i (by omega)
    rw [List.range_succ, List.flatMap_append]
    by_cases e : i = n
    · subst e
      rw [List.getElem?_append_right (by omega), hl]
      simp
    · have : i * k + j < n * k := by
        have h1 : (i + 1) * k ≤ n * k := Nat.mul_le_mul_right k (by omega)
        rw [Nat.add_mul] at h1
        omega
      rw [List.getElem?_append_left (by omega)]
      exact ih (fun i hi => h i (by omega)) (by omega)

theorem Comp.get {t : Ty} {x : t.den U.T} {o : Nat} {t' : Ty} {x' : t'.den U.T} (h : Comp U t x o t' x') : ∀ {cs : List Value}, Rd U O S w t x cs →
    ∃ cs', Rd U O S w t' x' cs' ∧ o + t'.width U.wd ≤ t.width U.wd ∧ ∀ j, j < t'.width U.wd → cs[o + j]? = cs'[j]? := by
  induction h with
  | here t x => exact fun h => ⟨_, h, by omega, fun j _ => by simp⟩
  | fst _ ih =>
    intro cs h
    cases h with
    | pair h1 h2 =>
      obtain ⟨cs', h3, h4, h5⟩ := ih h1
      refine ⟨cs', h3, by simp [Ty.width]; omega, fun j hj => ?_⟩
      rw [List.getElem?_append_left (by rw [h1.length]; omega)]
      exact h5 j hj
  | snd _ hk ih =>
    intro cs h
    cases h with
    | pair h1 h2 =>
      obtain ⟨cs', h3, h4, h5⟩ := ih h2
      refine ⟨cs', h3, by simp [Ty.width]; omega, fun j hj => ?_⟩
      rw [List.getElem?_append_right (by rw [h1.length]; omega), h1.length, ← h5 j hj, hk]
      congr 1
      omega
  | named _ ih =>
    intro cs h
    cases h with
    | named _ _ h =>
      obtain ⟨cs', h3, h4, h5⟩ := ih h
      exact ⟨cs', h3, by rw [U.wd_ok] at h4; exact h4, h5⟩
  | @arr n e xs i o k x t z hx _ hk ih =>
    intro cs h
    cases h with
    | arr _ _ _ cs hn hel =>
      obtain ⟨hi, hx⟩ := List.getElem?_eq_some_iff.1 hx
      obtain ⟨cs', h3, h4, h5⟩ := ih (hx ▸ hel i hi)
      have hmul : (i + 1) * e.width U.wd ≤ n * e.width U.wd := Nat.mul_le_mul_right _ (by omega)
      rw [Nat.add_mul] at hmul
      refine ⟨cs', h3, by simp only [Ty.width]; omega, fun j hj => ?_⟩
      rw [← h5 j hj, hk, Nat.add_assoc]
      exact flatMap_range_get n _ cs (fun i hi => (hel i (by omega)).length) i (o + j) (by omega) (by omega)

theorem exec_indexAddr {ρ : Operand → Value} {T : TypeId} {x y : Operand} (ho : o.op = .indexAddr T x y) : execOp ρ o = vOf (Instr.indexAt T (ρ x) (ρ y)) := by unfold execOp; rw [ho]; rfl
theorem exec_fieldAddr {ρ : Operand → Value} {T : TypeId} {x : Operand} {f : Nat} (ho : o.op = .fieldAddr T x f) : execOp ρ o = vOf (Instr.fieldAt T (ρ x) f) := by unfold execOp; rw [ho]; rfl
theorem exec_field {ρ : Operand → Value} {T : TypeId} {x : Operand} {f : Nat} (ho : o.op = .field T x f) : execOp ρ o = vOf (Instr.field T (ρ x) f) := by unfold execOp; rw [ho]; rfl
theorem exec_load {ρ : Operand → Value} {T : TypeId} {x : Operand} (ho : o.op = .load T x) : execOp ρ o = vOf (Instr.loadAt T (ρ x)) := by unfold execOp; rw [ho]; rfl

/-- The place of an element of a list. -/
theorem sok_indexL {T E : TypeId} {t : Ty} {x y : Operand} {k : IntKind} {xs : List (t.den U.T)} {i : Int} {e : t.den U.T} (hg : o.guard = none) (ho : o.op = .indexAddr T x y) (ht : SlOk P U T E t)
    (hx : Opd U rs x (.p (.list t) xs)) (hy : Opd U rs y (.p (.int k) i)) (hi : idx xs i = some e) : SOk U O P ops o { rs := rs, ws := .pp t e } :=
  sok_v hg _ (fun _ => exec_indexAddr ho) fun S ι w a hrs _ => by
    unfold idx at hi
    split at hi
    · rename_i h0
      obtain ⟨hlt, he⟩ := List.getElem?_eq_some_iff.1 hi
      rcases VV.list_iff.1 (hx.ev hrs) with ⟨rfl, _⟩ | ⟨rfl, _⟩ | ⟨b, o', cap, cs, hv, hS, hcap, hel, hcell⟩
      · simp at hlt
      · simp at hlt
      · refine ⟨.pointer (some ⟨b, o' + i.toNat * t.width U.wd, none⟩), ?_, ?_⟩
        · rw [hv, VV.int_iff.1 (hy.ev hrs)]
          have hc : 0 ≤ i ∧ i < (xs.length : Int) := ⟨h0, by omega⟩
          simp only [Instr.indexAt, asIntOf, Sem.run_bind, Sem.run_pure, Result.andThen_ok, run_underlying ht.under, if_pos hc, run_sizeOf ht.el, Addr.add_lit]
        · refine ⟨b, _, cs i.toNat, rfl, hS, he ▸ hel i.toNat hlt, fun j hj => ?_⟩
          rw [← hcell i.toNat j hlt hj, Nat.add_assoc]
    · exact absurd hi (by simp)

/-- What the table of types says of a field: its place, its type. -/
structure FdOk (P : Program) (U : Univ) (T : TypeId) (f off : Nat) (F : TypeId) (t : Ty) : Prop where
  h : ∃ fs fd, P.underlying T = some (.struct fs) ∧ fs[f]? = some fd ∧ fd.offset = off ∧ fd.type = F
  ty : TyOk P U F t

theorem run_part {F : TypeId} {t : Ty} (h : TyOk P U F t) {cs : Array Value} {off : Nat} {xs : List Value} (hl : xs.length = t.width U.wd) (hc : ∀ j, j < t.width U.wd → cs[off + j]? = xs[j]?)
    (h1 : t.isAgg = false → t.width U.wd = 1) (w : World) : (part F cs off).run P w = .ok (mkV t.isAgg xs) w := by
  obtain ⟨d, hd, ha⟩ := h.agg
  have hia : (isAgg F).run P w = .ok t.isAgg w := by
    rw [← ha]
    simp only [isAgg, Sem.run_bind, run_underlying hd, Result.andThen_ok]
    cases d <;> rfl
  unfold part
  rw [Sem.run_bind, hia]
  simp only [Result.andThen_ok]
  cases hag : t.isAgg with
  | true =>
    simp only [if_true, Sem.run_bind, run_sizeOf h, Result.andThen_ok, Sem.run_pure, mkV]
    congr 2
    apply Array.ext'
    rw [Array.toList_extract]
    apply List.ext_getElem?
    intro j
    rw [List.extract_eq_take_drop, List.getElem?_take, List.getElem?_drop]
    split
    · rename_i hj
      have hj : j < t.width U.wd := by omega
      rw [Array.getElem?_toList, hc j hj]
    · rw [List.getElem?_eq_none (by simp; omega)]
  | false =>
    have h2 := h1 hag
    simp only [Bool.false_eq_true, if_false, mkV]
    have h3 := hc 0 (by omega)
    simp only [Nat.add_zero] at h3
    rw [h3]
    cases xs with
    | nil => simp at hl; omega
    | cons c l => rfl

theorem width_one {t : Ty} (h : t.isAgg = false) : t.width U.wd = 1 := by cases t <;> simp_all [Ty.isAgg, Ty.width]

theorem run_fieldPlace {F : TypeId} {t : Ty} (h : TyOk P U F t) (hw : t.width U.wd ≠ 0) (bl of : Nat) (fd : Field) (hfd : fd.type = F) (w : World) :
    (fieldPlace ⟨bl, of, none⟩ fd).run P w = .ok ⟨bl, of + fd.offset, none⟩ w := by
  unfold fieldPlace
  rw [Sem.run_bind, hfd, run_sizeOf h]
  simp only [Result.andThen_ok, if_neg hw, Sem.run_pure, Addr.add_lit]

/-- A field of a struct's value. -/
theorem sok_field {T F : TypeId} {f off : Nat} {tT t : Ty} {x : Operand} {X : tT.den U.T} {Z : t.den U.T} (hg : o.guard = none) (ho : o.op = .field T x f) (hf : FdOk P U T f off F t)
    (hag : tT.isAgg = true) (hx : Opd U rs x (.p tT X)) (hc : Comp U tT X off t Z) : SOk U O P ops o { rs := rs, ws := .p t Z } :=
  sok_v hg _ (fun _ => exec_field ho) fun S ι w a hrs _ => by
    obtain ⟨cs, hr, hv⟩ := hx.ev hrs
    obtain ⟨cs', hr', hle, hget⟩ := hc.get hr
    obtain ⟨fs, fd, h1, h2, h3, h4⟩ := hf.h
    refine ⟨mkV t.isAgg cs', ?_, cs', hr', rfl⟩
    rw [hv, hag]
    simp only [Instr.field, mkV, Sem.run_bind, run_underlying h1, Result.andThen_ok, h2, asAgg, Sem.run_pure, h3, h4]
    exact run_part hf.ty hr'.length (fun j hj => by rw [← hget j hj]; simp) width_one w

/-- A field's place in frozen memory. -/
theorem sok_fieldP {T F : TypeId} {f off : Nat} {tT t : Ty} {x : Operand} {X : tT.den U.T} {Z : t.den U.T} (hg : o.guard = none) (ho : o.op = .fieldAddr T x f) (hf : FdOk P U T f off F t)
    (hw : t.width U.wd ≠ 0) (hx : Opd U rs x (.pp tT X)) (hc : Comp U tT X off t Z) : SOk U O P ops o { rs := rs, ws := .pp t Z } :=
  sok_v hg _ (fun _ => exec_fieldAddr ho) fun S ι w a hrs _ => by
    obtain ⟨b, of, cs, hv, hS, hr, hcell⟩ := hx.ev hrs
    obtain ⟨cs', hr', hle, hget⟩ := hc.get hr
    obtain ⟨fs, fd, h1, h2, h3, h4⟩ := hf.h
    refine ⟨.pointer (some ⟨b, of + off, none⟩), ?_, b, of + off, cs', rfl, hS, hr', fun j hj => ?_⟩
    · rw [hv]
      simp only [Instr.fieldAt, Instr.sureAddr, Sem.run_bind, run_underlying h1, Result.andThen_ok, h2, Sem.run_pure, run_fieldPlace hf.ty hw b of fd h4, h3]
    · rw [← hget j hj, ← hcell (off + j) (by omega)]
      congr 2
      omega

theorem run_isAgg {T : TypeId} {t : Ty} (h : TyOk P U T t) (w : World) : (isAgg T).run P w = .ok t.isAgg w := by
  obtain ⟨d, hd, ha⟩ := h.agg
  rw [← ha]
  simp only [isAgg, Sem.run_bind, run_underlying hd, Result.andThen_ok]
  cases d <;> rfl

theorem run_loadAt {T : TypeId} {t : Ty} (h : TyOk P U T t) {bl of : Nat} {cs : List Value} (hl : cs.length = t.width U.wd) (hc : ∀ j, j < t.width U.wd → w.cell? ⟨bl, of + j, none⟩ = cs[j]?) :
    (Instr.loadAt T (.pointer (some ⟨bl, of, none⟩))).run P w = .ok (mkV t.isAgg cs) w := by
  simp only [Instr.loadAt, Instr.sureAddr, loadVar, Sem.run_bind, Sem.run_pure, Result.andThen_ok, run_isAgg h]
  cases hag : t.isAgg with
  | true =>
    have := run_loadCells_list (P := P) (w := w) ⟨bl, of, none⟩ cs fun j v hj => by
      have hlt := (List.getElem?_eq_some_iff.1 hj).1
      rw [Addr.add_lit, hc j (by omega), hj]
    rw [hl] at this
    simp only [if_true, Sem.run_bind, run_sizeOf h, Result.andThen_ok, this, Sem.run_pure, mkV]
  | false =>
    have h1 := width_one (U := U) hag
    have h2 := hc 0 (by omega)
    simp only [Bool.false_eq_true, if_false, mkV, Nat.add_zero] at h2 ⊢
    cases cs with
    | nil => simp at hl; omega
    | cons c l => simp [load, Sem.run, h2]

/-- What lies at a place of frozen memory. -/
theorem sok_loadP {T : TypeId} {t : Ty} {x : Operand} {X : t.den U.T} (hg : o.guard = none) (ho : o.op = .load T x) (ht : TyOk P U T t) (hx : Opd U rs x (.pp t X)) :
    SOk U O P ops o { rs := rs, ws := .p t X } :=
  sok_v hg _ (fun _ => exec_load ho) fun S ι w a hrs _ => by
    obtain ⟨b, of, cs, hv, hS, hr, hcell⟩ := hx.ev hrs
    exact ⟨_, by rw [hv]; exact run_loadAt ht hr.length hcell, cs, hr, rfl⟩

def AVal.isPtr : AVal U → Bool
  | .pp _ _ | .loc _ _ | .eloc _ _ _ _ => true
  | _ => false

theorem VV.ptr {v : AVal U} {u : Value} (h : v.isPtr = true) (hv : VV U O S ι w v u) : ∃ p, u = .pointer (some p) := by
  cases v <;> simp only [AVal.isPtr, Bool.false_eq_true] at h
  · obtain ⟨b, o, cs, rfl, _⟩ := hv; exact ⟨_, rfl⟩
  · obtain ⟨b, c, _, rfl⟩ := hv; exact ⟨_, rfl⟩
  · obtain ⟨b, c, _, rfl⟩ := hv; exact ⟨_, rfl⟩

/-- The look for nil: of a place that is known it is no look. -/
theorem sok_nilCheck {x : Operand} {v : AVal U} (hg : o.guard = none) (ho : o.op = .nilCheck x) (hx : Opd U rs x v) (hv : v.isPtr = true) : SOk U O P ops o { rs := rs, ws := v } :=
  sok_val hg fun S ι w a hrs _ => ⟨a.eval x, by
    obtain ⟨p, hp⟩ := VV.ptr hv (hx.ev hrs)
    unfold execOp
    rw [ho]
    simp only [hp, Sem.run_pure], hx.ev hrs⟩
end
end Go.AM
