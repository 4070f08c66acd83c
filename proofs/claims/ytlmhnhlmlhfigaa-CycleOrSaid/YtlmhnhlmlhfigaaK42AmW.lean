/- A part of my own abstract layer. -/
import Derived.Test.YtlmhnhlmlhfigaaK42AmM
import Derived.Laws.Tables
import Derived.ChangeKeysEq
import Derived.Laws.StructEq
import Derived.Laws.Pointers
namespace Go.AM

section
variable {U : Univ} {O : Out} {P : Program} {S : Nat → Prop} {ι : Lay} {w : World} {rs : List (Nat × AVal U)} {a : Act} {ops : Array Oper} {o : Oper}

inductive Callee (U : Univ) (rs : List (Nat × AVal U)) : Operand → FuncId → List (AVal U) → Prop
  | func (f : FuncId) : Callee U rs (.func f) f []
  | clo {x : Operand} {f : FuncId} {caps : List (AVal U)} : Opd U rs x (.clo f caps) → Callee U rs x f caps

theorem Callee.ev {x : Operand} {f : FuncId} {caps : List (AVal U)} (h : Callee U rs x f caps) (hr : ∀ x ∈ rs, VV U O S ι w x.2 (a.tmps.getD x.1 undef)) :
    ∃ vs, VVs U O S ι w caps vs ∧ a.eval x = .func (.func f) #[] vs.toArray := by
  cases h with
  | func => exact ⟨[], rfl, rfl⟩
  | clo h => exact h.ev hr

theorem oper_callC {f : FuncId} {x : Operand} {vs : List Value} {as : Array Operand} {ts : Array TypeId} (ho : o.op = .call { callee := .value x, args := as, argTypes := ts })
    (hb : HasBody P f) (hx : a.eval x = .func (.func f) #[] vs.toArray) {K : Act → World → Prop} {Q : Exit → Act → World → Prop} {R : Value → World → Prop}
    (hc : Calls P f ((as.toList.map a.eval ++ vs).toArray) w fun e w' => ∃ u, e = .returned u ∧ R u w') (hK : ∀ u w', R u w' → K (a.put o.dst u) w') : o.wp P a w K Q := by
  obtain ⟨fn, hf, hname, hbd⟩ := hb.h
  have e : as.map a.eval ++ vs.toArray = (as.toList.map a.eval ++ vs).toArray := by
    rw [← List.append_toArray, ← Array.toList_map, Array.toArray_toList]
  unfold Oper.wp execOp
  simp only [ho, resolve, hx, invoke, Deferred.ofValue, Sem.run_bind, Sem.run_pure, Result.andThen_ok, Array.empty_append, run_enter hf hname hbd, Oper.upon, e]
  refine hc.mono ?_
  rintro e w' ⟨u, rfl, hr⟩
  exact hK u w' hr

theorem sok_callF {x : Operand} {f : FuncId} {caps : List (AVal U)} {as : Array Operand} {ts : Array TypeId} {c : CSpec U} {vs : List (AVal U)} {vw : List (Nat × Blk U)}
    (hg : o.guard = none) (ho : o.op = .call { callee := .value x, args := as, argTypes := ts }) (hx : Callee U rs x f caps) (hb : HasBody P f) (hc : COk U O P f c)
    (ha : Opds U rs as.toList vs) (hv : Views U vw (vs ++ caps) c.ar) (hd : ∀ n ∈ nm vw, n ∉ nm c.bs) :
    SOk U O P ops o { rs := rs, cb := vw ++ c.bs, ws := c.r, pb := c.bs', nn := c.nn } := by
  intro S ι w a hlt hgl hrs hro hcb hown K Q hK
  refine opWp_plain hg ?_
  have hown : Own S ι w (nm (vw ++ c.bs)) := by simpa using hown
  have hin : ∀ n ∈ nm c.bs, n ∈ nm (vw ++ c.bs) := fun n hn => by simp only [nm, List.map_append, List.mem_append]; exact .inr hn
  have hinv : ∀ n ∈ nm vw, n ∈ nm (vw ++ c.bs) := fun n hn => by simp only [nm, List.map_append, List.mem_append]; exact .inl hn
  obtain ⟨us, hus, hxe⟩ := hx.ev (a := a) hrs
  have hro' : ∀ x ∈ vw, BR U O S ι w x.1 x.2 := fun x hx => hcb x (List.mem_append.2 (.inl hx))
  have hargs : VVs U O S ι w (vs ++ caps) (as.toList.map a.eval ++ us) := VVs.append.2 ⟨_, _, rfl, ha.ev hrs, hus⟩
  have hC := hc (fun b => S b ∨ Shown ι (nm vw) b) ι w (as.toList.map a.eval ++ us) (fun b hb => hb.elim (hlt b) fun ⟨n, hn, cc, h⟩ => (hown.out n (hinv n hn) b cc h).2) (hgl.mono (fun _ _ => rfl) fun _ h => .inl h) (hv.ev hro' hargs)
    (fun x hx => BR.mono (fun _ _ => rfl) (fun _ h => .inl h) rfl (fun _ _ => rfl) (fun _ _ _ => rfl) (hcb x (List.mem_append.2 (.inr hx))))
    ⟨fun n hn b cc h => ⟨fun hS => hS.elim (hown.out n (hin n hn) b cc h).1 fun ⟨m, hm, c', h'⟩ =>
      hown.sep n (hin n hn) m (hinv m hm) (fun e => hd m hm (e ▸ hn)) b cc c' h h', (hown.out n (hin n hn) b cc h).2⟩, fun n hn m hm => hown.sep n (hin n hn) m (hin m hm)⟩
  refine oper_callC ho hb hxe (R := fun u w' => ∃ S' ι', Nx U O { rs := rs, cb := vw ++ c.bs, ws := c.r, pb := c.bs', nn := c.nn : LSpec U } S ι w S' ι' w' ∧ VV U O S' ι' w' c.r u) ?_ ?_
  · refine hC.mono ?_
    rintro e w' ⟨u, S', ι', rfl, hN, hu⟩
    refine ⟨u, rfl, S', ι', ⟨hN.os, hN.tape, hN.output, hN.size, fun b hb => hN.sub b (.inl hb), ?_, hN.lt, fun b hb hnot => hN.keep b hb fun n hn => hnot n (hin n hn), hN.lay, hN.blk, fun n hn b cc h => ?_, hN.sep⟩, hu⟩
    · intro b hS
      rcases hN.new b hS with (h | ⟨n, hn, cc, h⟩) | h | ⟨m, hm, cc, h⟩
      · exact .inl h
      · exact .inr (.inr ⟨n, hinv n hn, cc, h⟩)
      · exact .inr (.inl h)
      · exact .inr (.inr ⟨m, hin m hm, cc, h⟩)
    · obtain ⟨h1, h2, h3⟩ := hN.plc n hn b cc h
      exact ⟨h1, h2, h3.imp id fun ⟨m, hm, c', h'⟩ => ⟨m, hin m hm, c', h'⟩⟩
  · rintro u w' ⟨S', ι', hN, hu⟩
    exact hK u S' ι' w' hN hu

theorem sok_callV {x : Operand} {f : FuncId} {caps : List (AVal U)} {as : Array Operand} {ts : Array TypeId} {c : CSpec U} {vs : List (AVal U)} {vw : List (Nat × Blk U)}
    (hg : o.guard = none) (ho : o.op = .call { callee := .value x, args := as, argTypes := ts }) (hx : Callee U rs x f caps) (hb : HasBody P f) (hc : COk U O P f c)
    (ha : Opds U rs as.toList vs) (hv : Views U vw (vs ++ caps) c.ar) (hd : ∀ n ∈ nm vw, n ∉ nm c.bs) (hf : vw = [] ∨ c.flat = true) :
    SOk U O P ops o { rs := rs, ro := vw, cb := c.bs, ws := c.r, pb := c.bs', nn := c.nn } := by
  intro S ι w a hlt hgl hrs hro hcb hown K Q hK
  refine opWp_plain hg ?_
  have hin : ∀ n ∈ nm c.bs, n ∈ nm vw ++ nm c.bs := fun n hn => List.mem_append.2 (.inr hn)
  have hinv : ∀ n ∈ nm vw, n ∈ nm vw ++ nm c.bs := fun n hn => List.mem_append.2 (.inl hn)
  obtain ⟨us, hus, hxe⟩ := hx.ev (a := a) hrs
  have hargs : VVs U O S ι w (vs ++ caps) (as.toList.map a.eval ++ us) := VVs.append.2 ⟨_, _, rfl, ha.ev hrs, hus⟩
  have hC := hc (fun b => S b ∨ Shown ι (nm vw) b) ι w (as.toList.map a.eval ++ us) (fun b hb => hb.elim (hlt b) fun ⟨n, hn, cc, h⟩ => (hown.out n (hinv n hn) b cc h).2) (hgl.mono (fun _ _ => rfl) fun _ h => .inl h) (hv.ev hro hargs)
    (fun x hx => BR.mono (fun _ _ => rfl) (fun _ h => .inl h) rfl (fun _ _ => rfl) (fun _ _ _ => rfl) (hcb x hx))
    ⟨fun n hn b cc h => ⟨fun hS => hS.elim (hown.out n (hin n hn) b cc h).1 fun ⟨m, hm, c', h'⟩ =>
      hown.sep n (hin n hn) m (hinv m hm) (fun e => hd m hm (e ▸ hn)) b cc c' h h', (hown.out n (hin n hn) b cc h).2⟩, fun n hn m hm => hown.sep n (hin n hn) m (hin m hm)⟩
  refine oper_callC ho hb hxe (R := fun u w' => ∃ S' ι', Nx U O { rs := rs, ro := vw, cb := c.bs, ws := c.r, pb := c.bs', nn := c.nn : LSpec U } S ι w S' ι' w' ∧ VV U O S' ι' w' c.r u) ?_ ?_
  · refine hC.mono ?_
    rintro e w' ⟨u, S', ι', rfl, hN, hu⟩
    refine ⟨u, rfl, fun b => S' b ∧ ¬ Shown ι (nm vw) b, ι', ⟨hN.os, hN.tape, hN.output, hN.size, fun b hb => ⟨hN.sub b (.inl hb), ?_⟩, ?_, fun b hb => hN.lt b hb.1, hN.keep, hN.lay, fun x hx => ?_,
      fun n hn b cc h => ⟨fun hS => (hN.plc n hn b cc h).1 hS.1, (hN.plc n hn b cc h).2⟩, hN.sep⟩, ?_⟩
    · rintro ⟨n, hn, cc, h⟩
      exact (hown.out n (hinv n hn) b cc h).1 hb
    · rintro b ⟨hS, hnot⟩
      rcases hN.new b hS with (h | h) | h
      · exact .inl h
      · exact absurd h hnot
      · exact .inr h
    · rcases hf with rfl | hf
      · exact BR.mono (fun _ _ => rfl) (fun b h => ⟨h, fun ⟨n, hn, _⟩ => by cases hn⟩) rfl (fun _ _ => rfl) (fun _ _ _ => rfl) (hN.blk x hx)
      · simp only [CSpec.flat, Bool.and_eq_true, List.all_eq_true] at hf
        exact (hN.blk x hx).flat (hf.2 x hx)
    · rcases hf with rfl | hf
      · exact VV.mono (fun _ _ => rfl) (fun b h => ⟨h, fun ⟨n, hn, _⟩ => by cases hn⟩) _ _ (fun _ _ => rfl) hu
      · simp only [CSpec.flat, Bool.and_eq_true, List.all_eq_true] at hf
        exact VV.flat _ _ hf.1 hu
  · rintro u w' ⟨S', ι', hN, hu⟩
    exact hK u S' ι' w' hN hu

theorem sok_freezeW {s : LSpec U} {d E len : Nat} {t : Ty} {xs : List (t.den U.T)} {fx : Bool} (h : SOk U O P ops o s) (hw : s.ws = .vec d (t.width U.wd) 0 len) (hl : len = xs.length) (hp : s.pb = [(d, .row E t xs fx)]) (hn : s.nn = [d]) :
    SOk U O P ops o { s with ws := .p (.list t) xs, pb := [], nn := [] } := by
  intro S ι w a hlt hgl hrs hro hcb hown K Q hK
  refine h S ι w a hlt hgl hrs hro hcb hown K Q fun u S' ι' w' hN hu => ?_
  have hB := hN.blk (d, .row E t xs fx) (by rw [hp]; exact List.mem_cons_self)
  have hplc : ∀ b c, ι' d = some (b, c) → ¬ S' b ∧ b < w'.heap.size ∧ (w.heap.size ≤ b ∨ ∃ m ∈ nm s.cb, ∃ c', ι m = some (b, c')) := fun b c hb => hN.plc d (by rw [hp]; simp) b c hb
  refine hK u (fun b => S' b ∨ ∃ c, ι' d = some (b, c)) ι w' ⟨hN.os, hN.tape, hN.output, hN.size, fun b hb => .inl (hN.sub b hb), fun b hb => ?_, fun b hb => ?_, hN.keep, fun _ _ => rfl, fun x hx => (by cases hx), fun n hn => (by cases hn), fun n hn => (by cases hn)⟩ ?_
  · rcases hb with hb | ⟨c, hb⟩
    · exact hN.new b hb
    · exact .inr (hplc b c hb).2.2
  · rcases hb with hb | ⟨c, hb⟩
    · exact hN.lt b hb
    · exact (hplc b c hb).2.1
  · rw [hw] at hu
    have hv := (View.row (vw := [(d, Blk.row E t xs fx)]) 0 len (List.mem_cons_self) (by omega)).ev (fun x hx => by simp at hx; subst hx; exact hB) hu
    have e : ((xs.drop 0).take len) = xs := by rw [hl]; simp
    rw [e] at hv
    have hv' := VV.mono (ι' := ι) (fun _ _ => rfl) (S' := fun b => S' b ∨ ∃ c, ι' d = some (b, c)) (fun b hb => ?_) (.p (.list t) xs) u (fun n hn => by cases hn) hv
    · exact hv'
    · rcases hb with hb | ⟨m, hm, c, hc⟩
      · exact .inl hb
      · simp at hm; subst hm; exact .inr ⟨c, hc⟩

def lays (P : Program) (T : TypeId) : Option (List Value × (Nat → Option (Nat × Nat))) :=
  match P.info? T, P.underlying T with
  | some it, some (.array _ e) =>
    match it.zero, P.info? e with
    | some z, some ie => some (z.cells.toList, fun i => some (i * ie.size, ie.size))
    | _, _ => none
  | some it, some (.struct fields) =>
    match it.zero, fields.toList.mapM (fun f => (P.info? f.type).map fun i => (f.offset, i.size)) with
    | some z, some places => some (z.cells.toList, fun i => places.toArray[i]?)
    | _, _ => none
  | _, _ => none

theorem built_lays {T : TypeId} {z : List Value} {pl : Nat → Option (Nat × Nat)} (h : lays P T = some (z, pl)) (parts : List (Nat × Value)) : P.built T parts = Instr.fill pl z.toArray parts := by
  unfold lays at h
  unfold Program.built
  split at h
  · rename_i it e h1 h2
    rw [h1, h2]
    simp only
    split at h
    · rename_i z' ie h3 h4
      rw [h3, h4]
      injection h with h; injection h with h5 h6
      subst h5 h6; simp
    · cases h
  · rename_i it fields h1 h2
    rw [h1, h2]
    simp only
    split at h
    · rename_i z' places h3 h4
      rw [h3, h4]
      injection h with h; injection h with h5 h6
      subst h5 h6; simp
    · cases h
  · cases h

inductive Filled (U : Univ) (rs : List (Nat × AVal U)) (pl : Nat → Option (Nat × Nat)) : List (Nat × Operand) → List (AVal U) → List (AVal U) → Prop
  | nil (us : List (AVal U)) : Filled U rs pl [] us us
  | cons {i : Nat} {x : Operand} {v : AVal U} (pre mid mid' post : List (AVal U)) {l : List (Nat × Operand)} {us us' : List (AVal U)} : Opd U rs x v → Units U v mid' → us = pre ++ mid ++ post → pre.all AVal.unit = true → mid.all AVal.unit = true →
      mid'.all AVal.unit = true → pl i = some (unitsW pre, unitsW mid') → unitsW mid' = unitsW mid → Filled U rs pl l (pre ++ mid' ++ post) us' → Filled U rs pl ((i, x) :: l) us us'

theorem Filled.ev {pl : Nat → Option (Nat × Nat)} {l : List (Nat × Operand)} {us us' : List (AVal U)} (h : Filled U rs pl l us us') (hr : ∀ x ∈ rs, VV U O S ι w x.2 (a.tmps.getD x.1 undef)) :
    ∀ {vs : List Value} {arr : Array Value}, VVs U O S ι w us vs → (∀ v ∈ vs, ∀ c ∈ v.cells.toList, c.oneCell' = true) → arr.toList = cellsOf vs →
    ∃ out vs', Instr.fill pl arr (l.map fun x => (x.1, a.eval x.2)) = some out ∧ VVs U O S ι w us' vs' ∧ out.toList = cellsOf vs' ∧ ∀ v ∈ vs', ∀ c ∈ v.cells.toList, c.oneCell' = true := by
  induction h with
  | nil us => intro vs arr h1 h3 h2; exact ⟨arr, vs, rfl, h1, h2, h3⟩
  | @cons i x v pre mid mid' post l us us' hx hu he hpre hmid hmid' hpl hw _ ih =>
    intro vs arr h1 h3 h2
    subst he
    obtain ⟨v12, v3, rfl, h6, h7⟩ := VVs.append.1 h1
    obtain ⟨v1, v2, rfl, h8, h9⟩ := VVs.append.1 h6
    obtain ⟨ws, a1, a2, a3, a4⟩ := hu.to hmid' (hx.ev hr)
    have l1 := (VVs.cells hpre h8).1
    have l2 := (VVs.cells hmid h9).1
    have hsz : (a.eval x).cells.size = unitsW mid' := by rw [← Array.length_toList, a2, a4]
    have hal : arr.toList.length = unitsW pre + unitsW mid + (cellsOf v3).length := by rw [h2]; simp [cellsOf_append, l1, l2]; omega
    have hal' : arr.toList.length = arr.size := Array.length_toList
    have hfold := fold_cells' (unitsW pre) (a.eval x).cells arr (by rw [hsz, hw]; omega)
    have e1 : (cellsOf (v1 ++ v2 ++ v3)).take (unitsW pre) = cellsOf v1 := by
      rw [cellsOf_append, cellsOf_append, List.append_assoc]; exact List.take_left' l1
    have e2 : (cellsOf (v1 ++ v2 ++ v3)).drop (unitsW pre + (a.eval x).cells.size) = cellsOf v3 := by
      rw [cellsOf_append, cellsOf_append, hsz, hw]; exact List.drop_left' (by rw [List.length_append, l1, l2])
    rw [h2, e1, e2, a2] at hfold
    obtain ⟨out, vs', b1, b2, b3, b4⟩ := ih (vs := v1 ++ ws ++ v3) (arr := (a.eval x).cells.zipIdx.foldl (fun cs (x : Value × Nat) => cs.setIfInBounds (unitsW pre + x.2) x.1) arr)
      (VVs.append.2 ⟨v1 ++ ws, v3, rfl, VVs.append.2 ⟨v1, ws, rfl, h8, a1⟩, h7⟩) (fun v hv => by
        rcases List.mem_append.1 hv with hv | hv
        · rcases List.mem_append.1 hv with hv | hv
          · exact h3 v (List.mem_append.2 (.inl (List.mem_append.2 (.inl hv))))
          · exact a3 v hv
        · exact h3 v (List.mem_append.2 (.inr hv))) (by rw [hfold, cellsOf_append, cellsOf_append])
    refine ⟨out, vs', ?_, b2, b3, b4⟩
    rw [List.map_cons]
    unfold Instr.fill
    rw [hpl]
    simp only [hsz, ne_eq, not_true_eq_false]
    rw [if_neg (by simp; omega)]
    exact b1

theorem exec_build {ρ : Operand → Value} {T : TypeId} {ps : Array (Nat × Operand)} (ho : o.op = .build T ps) : execOp ρ o = vOf (Instr.build T (ps.map fun (i, x) => (i, ρ x))) := by unfold execOp; rw [ho]; rfl

theorem sok_build {T : TypeId} {t : Ty} {ps : Array (Nat × Operand)} {z : List Value} {pl : Nat → Option (Nat × Nat)} {us0 us : List (AVal U)} {v : AVal U} (hg : o.guard = none) (ho : o.op = .build T ps) (hl : lays P T = some (z, pl))
    (hz : ZU U us0 z) (hf : Filled U rs pl ps.toList us0 us) (hag : t.isAgg = true) (hm : Made U t us v) : SOk U O P ops o { rs := rs, ws := v } :=
  sok_v hg _ (fun _ => exec_build ho) fun S ι w a hrs _ => by
    obtain ⟨vs, h1, h2, h3⟩ := hz.to (O := O) (S := S) (ι := ι) (w := w)
    obtain ⟨out, vs', b1, b2, b3, _⟩ := hf.ev hrs h1 h3 (arr := z.toArray) (by rw [h2])
    refine ⟨.agg out, run_build w T _ out ?_, ?_⟩
    · rw [built_lays hl, ← b1]; congr 1; rw [Array.toList_map]
    · have := hm.of b2
      rw [hag] at this
      rw [show out = (cellsOf vs').toArray from by rw [← b3]]
      exact this
end
end Go.AM
namespace Go.AM
set_option linter.unusedVariables false
theorem notin_of {l : List Nat} {d : Nat} (h : l.contains d = false) : d ∉ l := fun hin => by rw [List.contains_eq_mem, decide_eq_false_iff_not] at h; exact h hin
section
variable {U : Univ} {O : Out} {P : Program} {S : Nat → Prop} {ι : Lay} {w : World} {rs : List (Nat × AVal U)} {a : Act} {ops : Array Oper} {o : Oper}

inductive ResL (U : Univ) (P : Program) (st : St U) : List ResultVar → List (AVal U) → Prop
  | nil : ResL U P st [] []
  | tmp {t : Nat} {v : AVal U} {l : List ResultVar} {vs : List (AVal U)} (h : (t, v) ∈ st.sl) : ResL U P st l vs → ResL U P st (.tmp t :: l) (v :: vs)
  | cell {b : Nat} {T : TypeId} {t : Ty} {n off : Nat} (pre mid post : List (AVal U)) {v : AVal U} {l : List ResultVar} {vs : List (AVal U)} (h : (b, .loc n off) ∈ st.sl) (hb : (n, .box (pre ++ mid ++ post)) ∈ st.hp)
      (hpre : pre.all AVal.unit = true) (hoff : unitsW pre = off) (hmid : mid.all AVal.unit = true) (hw : unitsW mid = t.width U.wd) (ht : TyOk P U T t) (hm : Made U t mid v) : ResL U P st l vs → ResL U P st (.cell b T :: l) (v :: vs)

def resOne (tmps : Array Value) : ResultVar → Sem Value
  | .tmp t => pure (tmps.getD t undef)
  | .cell b t => do loadVar t (← asAddr (tmps.getD b undef))
theorem results_eq (fn : Func) (tmps : Array Value) : results fn tmps = (do
    let vs ← fn.results.mapM (resOne tmps)
    pure (if h : vs.size = 1 then vs[0] else .tuple vs)) := by
  unfold results
  have : (fun x => match x with | ResultVar.tmp t => (pure (tmps.getD t undef) : Sem Value) | ResultVar.cell a t => do loadVar t (← asAddr (tmps.getD a undef))) = resOne tmps := by
    funext x; cases x <;> rfl
  rw [← this]
  rfl

theorem ResL.ev {B : Base} {st : St U} {l : List ResultVar} {vs : List (AVal U)} (h : ResL U P st l vs) {a : Act} (hR : Rel U O B S ι st a w) :
    ∃ us, (l.mapM (resOne a.tmps)).run P w = .ok us w ∧ VVs U O S ι w vs us := by
  induction h with
  | nil => exact ⟨[], by simp, rfl⟩
  | tmp h _ ih =>
    obtain ⟨us, h1, h2⟩ := ih
    exact ⟨_ :: us, by simp [List.mapM_cons, resOne, h1], _, us, rfl, hR.sl _ h, h2⟩
  | @cell b T t n off pre mid post v l vs h hb hpre hoff hmid hw ht hm _ ih =>
    obtain ⟨us, h1, h2⟩ := ih
    obtain ⟨bk, c, v1, v2, v3, arr, e, g1, g2, g3, g4, g5, g6, g7, g8, _⟩ := box_parts (hR.hp _ hb) hpre hmid
    obtain ⟨b', c', g9, g10⟩ := hR.sl _ h
    rw [g1] at g9
    obtain ⟨rfl, rfl⟩ : bk = b' ∧ c = c' := by simpa using g9
    have hl : (loadVar T ⟨bk, off, none⟩).run P w = .ok (mkV t.isAgg (cellsOf v2)) w := by
      have := run_loadAt (w := w) ht (bl := bk) (of := off) (cs := cellsOf v2) (by rw [g8, hw]) fun j hj => by
        rw [cell_of_row w bk (off + j) arr e (0, 0) g6, ← Array.getElem?_toList, g5, List.append_assoc, List.getElem?_append_right (by omega), g7, hoff, List.getElem?_append_left (by omega)]
        congr 1
        omega
      simpa only [Instr.loadAt, Instr.sureAddr, Sem.run_bind, Sem.run_pure, Result.andThen_ok] using this
    refine ⟨mkV t.isAgg (cellsOf v2) :: us, ?_, _, us, rfl, hm.of g3, h2⟩
    simp only at g10
    simp only [List.mapM_cons, resOne, g10, asAddr, Sem.run_bind, Sem.run_pure, Result.andThen_ok, hl, h1]

def resOf : List (AVal U) → AVal U
  | [v] => v
  | vs => .tup vs

theorem retV_L {fn : Func} {st : St U} {l : List ResultVar} {vs : List (AVal U)} (hf : fn.results.toList = l) (h : ResL U P st l vs) : RetV U O P fn st (resOf vs) := by
  intro B S ι a w hR
  obtain ⟨us, h1, h2⟩ := h.ev hR
  subst hf
  refine ⟨if h : us.toArray.size = 1 then us.toArray[0] else .tuple us.toArray, ?_, ?_⟩
  · rw [results_eq]
    simp only [Array.mapM_eq_mapM_toList, Sem.run_bind]
    simp [h1]
  · match vs, us, h2 with
    | [], us, h2 => simp only [VVs] at h2; subst h2; exact ⟨[], rfl, rfl⟩
    | [v], us, h2 =>
      simp only [VVs] at h2
      obtain ⟨u, us', rfl, h3, rfl⟩ := h2
      exact h3
    | v :: v' :: vs, us, h2 =>
      have h2' := h2
      simp only [VVs] at h2
      obtain ⟨u, us', rfl, h3, u', us'', rfl, h4, h5⟩ := h2
      exact ⟨u :: u' :: us'', h2', by simp⟩

theorem sok_compl {t : TypeId} {x : Operand} {k : IntKind} {n : Int} (hg : o.guard = none) (ho : o.op = .unOp .xor t x) (hx : Opd U rs x (.p (.int k) n)) :
    SOk U O P ops o { rs := rs, ws := .p (.int k) (bits .xor k (if k.signed then -1 else k.max) n) } :=
  sok_v hg _ (fun _ => exec_un ho) fun S ι w a hrs _ => ⟨.int k (bits .xor k (if k.signed then -1 else k.max) n), by
    rw [VV.int_iff.1 (hx.ev hrs)]
    rfl, VV.int_iff.2 rfl⟩

end
end Go.AM
namespace Go.AM
set_option linter.unusedVariables false

section
variable {U : Univ} {O : Out}
theorem Conv.freezeU {st : St U} (n m E len : Nat) (ty : Ty) (xs : List (ty.den U.T)) (fx : Bool) (pre post : List (AVal U)) (hin : (n, Blk.box (pre ++ .vec m (ty.width U.wd) 0 len :: post)) ∈ st.hp) (hlen : len = xs.length)
    (hb : (m, Blk.row E ty xs fx) ∈ st.hp) (hne : (n == m) = false) :
    Conv U O st ⟨st.sl, (setA st.hp n (.box (pre ++ .p (.list ty) xs :: post))).filter fun x => !(x.1 == m)⟩ := by
  have hne' : n ≠ m := by simpa using hne
  intro B S ι a w hR
  have hB := hR.hp _ hb
  have hX := hR.hp _ hin
  have hmem : ∀ x ∈ (setA st.hp n (.box (pre ++ .p (.list ty) xs :: post))).filter (fun x => !(x.1 == m)), (x = (n, .box (pre ++ .p (.list ty) xs :: post)) ∨ x ∈ st.hp ∧ x.1 ≠ n) ∧ x.1 ≠ m := fun x hx => by
    obtain ⟨h1, h2⟩ := List.mem_filter.1 hx
    exact ⟨mem_setA h1, by simpa using h2⟩
  have hmn : ∀ k ∈ nm ((setA st.hp n (.box (pre ++ .p (.list ty) xs :: post))).filter fun x => !(x.1 == m)), k ∈ nm st.hp ∧ k ≠ m := fun k hk => by
    obtain ⟨x, hx, rfl⟩ := List.mem_map.1 hk
    obtain ⟨h1, h2⟩ := hmem x hx
    refine ⟨?_, h2⟩
    rcases h1 with rfl | ⟨h1, _⟩
    · exact List.mem_map.2 ⟨_, hin, rfl⟩
    · exact mem_nm h1
  have hmin : m ∈ nm st.hp := mem_nm hb
  have hSS : ∀ b, S b → (S b ∨ ∃ c, ι m = some (b, c)) := fun b h => .inl h
  refine ⟨fun b => S b ∨ ∃ c, ι m = some (b, c), ι, { hR with sl := fun x hx => ?_, hp := fun x hx => ?_, own := ⟨fun k hk b c hb => ?_, fun k hk j hj => hR.own.sep k (hmn k hk).1 j (hmn j hj).1⟩, mine := (fun k hk => hR.mine k (hmn k hk).1), lt := fun b h => ?_, gl := hR.gl.mono (fun _ _ => rfl) (fun _ h => .inl h), sub := fun b h => .inl (hR.sub b h), new := fun b h => ?_ }⟩
  · exact VV.mono (fun _ _ => rfl) hSS _ _ (fun _ _ => rfl) (hR.sl x hx)
  · obtain ⟨h1, h2⟩ := hmem x hx
    rcases h1 with rfl | ⟨h1, _⟩
    · obtain ⟨b, c, vs, arr, e, g1, g2, g3, g4, g5⟩ := hX
      obtain ⟨v1, v2, rfl, g6, g7⟩ := VVs.append.1 g2
      simp only [VVs] at g7
      obtain ⟨u, us', rfl, g8, g9⟩ := g7
      have hv := (View.row (vw := [(m, Blk.row E ty xs fx)]) 0 len (List.mem_cons_self) (by omega)).ev (fun x hx => by simp at hx; subst hx; exact hB) g8
      have e' : ((xs.drop 0).take len) = xs := by rw [hlen]; simp
      rw [e'] at hv
      have hv' : VV U O (fun b => S b ∨ ∃ c, ι m = some (b, c)) ι w (.p (.list ty) xs) u := VV.mono (fun _ _ => rfl) (fun b hb => by
        rcases hb with hb | ⟨k, hk, c, hc⟩
        · exact .inl hb
        · simp at hk; subst hk; exact .inr ⟨c, hc⟩) _ _ (fun _ _ => rfl) hv
      exact ⟨b, c, v1 ++ u :: us', arr, e, g1, VVs.append.2 ⟨v1, _, rfl, VVs.mono (fun _ _ => rfl) hSS _ _ (fun _ _ => rfl) g6, ⟨u, us', rfl, hv', VVs.mono (fun _ _ => rfl) hSS _ _ (fun _ _ => rfl) g9⟩⟩, g3, g4, g5⟩
    · exact BR.mono (fun _ _ => rfl) hSS rfl (fun _ _ => rfl) (fun _ _ _ => rfl) (hR.hp x h1)
  · refine ⟨fun h => ?_, (hR.own.out k (hmn k hk).1 b c hb).2⟩
    rcases h with h | ⟨c', h⟩
    · exact (hR.own.out k (hmn k hk).1 b c hb).1 h
    · exact hR.own.sep k (hmn k hk).1 m hmin (hmn k hk).2 b c c' hb h
  · rcases h with h | ⟨c, h⟩
    · exact hR.lt b h
    · exact (hR.own.out m hmin b c h).2
  · rcases h with h | ⟨c, h⟩
    · exact hR.new b h
    · exact .inr (hR.mine m hmin b c h)

section
variable {P : Program} {ops : Array Oper} {o : Oper} {rs : List (Nat × AVal U)}
theorem o1 {t : Nat} {v : AVal U} {x : Nat × AVal U} : Opd U (x :: (t, v) :: rs) (.tmp t) v := .tmp (.tail _ (.head _))
end

theorem sok_give {P : Program} {ops : Array Oper} {o : Oper} {s : LSpec U} {t n E len : Nat} {ty : Ty} {xs : List (ty.den U.T)} {fx : Bool} (pre post : List (Nat × AVal U)) (h : SOk U O P ops o s) (hin : s.rs = pre ++ (t, .p (.list ty) xs) :: post)
    (hl : len = xs.length) (hn : (nm s.ro ++ nm s.cb).contains n = false) :
    SOk U O P ops o { s with rs := pre ++ (t, .vec n (ty.width U.wd) 0 len) :: post, cb := (n, .row E ty xs fx) :: s.cb } := by
  have hn' := notin_of hn
  simp only [List.mem_append, not_or] at hn'
  intro S ι w a hlt hgl hrs hro hcb hown K Q hK
  have hB := hcb (n, .row E ty xs fx) List.mem_cons_self
  have hmem : ∀ k, k ∈ nm s.ro ++ nm s.cb → k ∈ nm s.ro ++ nm ((n, Blk.row E ty xs fx) :: s.cb) := fun k hk => by
    rcases List.mem_append.1 hk with h | h
    · exact List.mem_append.2 (.inl h)
    · exact List.mem_append.2 (.inr (List.mem_cons_of_mem _ h))
  have hnin : n ∈ nm s.ro ++ nm ((n, Blk.row E ty xs fx) :: s.cb) := List.mem_append.2 (.inr List.mem_cons_self)
  have hSS : ∀ b, S b → (S b ∨ ∃ c, ι n = some (b, c)) := fun b h => .inl h
  refine h (fun b => S b ∨ ∃ c, ι n = some (b, c)) ι w a (fun b hb => hb.elim (hlt b) fun ⟨c, hc⟩ => (hown.out n hnin b c hc).2) (hgl.mono (fun _ _ => rfl) hSS) (fun x hx => ?_)
    (fun x hx => BR.mono (fun _ _ => rfl) hSS rfl (fun _ _ => rfl) (fun _ _ _ => rfl) (hro x hx)) (fun x hx => BR.mono (fun _ _ => rfl) hSS rfl (fun _ _ => rfl) (fun _ _ _ => rfl) (hcb x (List.mem_cons_of_mem _ hx)))
    ⟨fun k hk b c hb => ⟨fun hS => hS.elim (hown.out k (hmem k hk) b c hb).1 fun ⟨c', hc'⟩ => hown.sep k (hmem k hk) n hnin (fun e => (List.mem_append.1 hk).elim (e ▸ hn'.1) (e ▸ hn'.2)) b c c' hb hc', (hown.out k (hmem k hk) b c hb).2⟩,
      fun k hk j hj => hown.sep k (hmem k hk) j (hmem j hj)⟩ K Q fun u S' ι' w' hN hu => hK u S' ι' w' ?_ hu
  · rw [hin] at hx
    rcases List.mem_append.1 hx with hx | hx
    · exact VV.mono (fun _ _ => rfl) hSS _ _ (fun _ _ => rfl) (hrs x (List.mem_append.2 (.inl hx)))
    · rcases List.mem_cons.1 hx with rfl | hx
      · have hv0 := hrs (t, .vec n (ty.width U.wd) 0 len) (List.mem_append.2 (.inr List.mem_cons_self))
        have hv := (View.row (vw := [(n, Blk.row E ty xs fx)]) 0 len (List.mem_cons_self) (by omega)).ev (fun x hx => by simp at hx; subst hx; exact hB) hv0
        have e : ((xs.drop 0).take len) = xs := by rw [hl]; simp
        rw [e] at hv
        refine VV.mono (fun _ _ => rfl) (fun b hb => ?_) _ _ (fun _ _ => rfl) hv
        rcases hb with hb | ⟨m, hm, c, hc⟩
        · exact .inl hb
        · simp at hm; subst hm; exact .inr ⟨c, hc⟩
      · exact VV.mono (fun _ _ => rfl) hSS _ _ (fun _ _ => rfl) (hrs x (List.mem_append.2 (.inr (List.mem_cons_of_mem _ hx))))
  · refine ⟨hN.os, hN.tape, hN.output, hN.size, fun b hb => hN.sub b (.inl hb), fun b hb => ?_, hN.lt, fun b hb hnot => hN.keep b hb fun k hk => hnot k (List.mem_cons_of_mem _ hk), hN.lay, hN.blk, fun k hk b c hb => ?_, hN.sep⟩
    · rcases hN.new b hb with (h | ⟨c, h⟩) | h | ⟨m, hm, c, h⟩
      · exact .inl h
      · exact .inr (.inr ⟨n, List.mem_cons_self, c, h⟩)
      · exact .inr (.inl h)
      · exact .inr (.inr ⟨m, List.mem_cons_of_mem _ hm, c, h⟩)
    · obtain ⟨h1, h2, h3⟩ := hN.plc k hk b c hb
      exact ⟨h1, h2, h3.imp id fun ⟨m, hm, c', h'⟩ => ⟨m, List.mem_cons_of_mem _ hm, c', h'⟩⟩
abbrev I6 : Ty := .int .i64
abbrev U6 : Ty := .arr 4 (.int .u64)
abbrev Z4 : List Int := List.replicate 4 (0 : Int)
end
end Go.AM
namespace Go.AM
set_option linter.unusedVariables false

def eqB {T : Nat → Type} : (t : Ty) → t.den T → t.den T → Bool
  | .bool, x, y => BEq.beq (α := Bool) x y
  | .int _, x, y => BEq.beq (α := Int) x y
  | .str, x, y => BEq.beq (α := List UInt8) x y
  | .unit, _, _ => true
  | .pair a b, x, y => eqB a x.1 y.1 && eqB b x.2 y.2
  | _, _, _ => false

section
variable {U : Univ} {O : Out} {P : Program} {S : Nat → Prop} {ι : Lay} {w : World} {rs : List (Nat × AVal U)} {a : Act} {ops : Array Oper} {o : Oper}

inductive EqOne (P : Program) : TypeId → Ty → Prop
  | bool {F : TypeId} : P.underlying F = some .bool → EqOne P F .bool
  | int {F : TypeId} {k : IntKind} : P.underlying F = some (.int k) → EqOne P F (.int k)
  | str {F : TypeId} : P.underlying F = some .string → EqOne P F .str

inductive EqF (P : Program) (U : Univ) : List Field → Nat → Ty → Prop
  | nil {off : Nat} : EqF P U [] off .unit
  | cons {f : Field} {fs : List Field} {off : Nat} {a b : Ty} : f.name ≠ "_" → f.offset = off → TyOk P U f.type a → EqOne P f.type a → EqF P U fs (off + 1) b → EqF P U (f :: fs) off (.pair a b)

theorem EqOne.run {F : TypeId} {t : Ty} (h : EqOne P F t) (d : Nat) {x y : t.den U.T} {c1 c2 : List Value} (h1 : Rd U O S w t x c1) (h2 : Rd U O S w t y c2) :
    (Op.equalIn (d + 1) F (mkV t.isAgg c1) (mkV t.isAgg c2)).run P w = .ok (eqB t x y) w ∧ c1.length = 1 ∧ c2.length = 1 := by
  cases h with
  | bool hu =>
    cases h1; cases h2
    exact ⟨by simp [Op.equalIn, run_underlying hu, mkV, Ty.isAgg, eqB], rfl, rfl⟩
  | int hu =>
    cases h1; cases h2
    exact ⟨by simp [Op.equalIn, run_underlying hu, mkV, Ty.isAgg, eqB], rfl, rfl⟩
  | str hu =>
    cases h1; cases h2
    exact ⟨by simp [Op.equalIn, run_underlying hu, mkV, Ty.isAgg, eqB, beq_toListBytes, ByteArray.toList_eq], rfl, rfl⟩

theorem EqF.run {fs : List Field} {off : Nat} {t : Ty} (h : EqF P U fs off t) (d : Nat) : ∀ {x y : t.den U.T} {c1 c2 : List Value} {xs ys : Array Value}, Rd U O S w t x c1 → Rd U O S w t y c2 →
    (∀ j, j < c1.length → xs[off + j]? = c1[j]?) → (∀ j, j < c2.length → ys[off + j]? = c2[j]?) → (Op.eqFields (d + 1) xs ys fs).run P w = .ok (eqB t x y) w := by
  induction h with
  | nil => intro x y c1 c2 xs ys _ _ _ _; simp [Op.eqFields, eqB]
  | @cons f fs off a b hn ho ht he _ ih =>
    intro x y c1 c2 xs ys h1 h2 g1 g2
    cases h1 with
    | @pair _ _ x1 x2 p1 p2 a1 a2 =>
    cases h2 with
    | @pair _ _ y1 y2 q1 q2 b1 b2 =>
    obtain ⟨e1, e2, e3⟩ := he.run (P := P) (w := w) d a1 b1
    have hp1 : (part f.type xs f.offset).run P w = .ok (mkV a.isAgg p1) w := run_part ht a1.length (fun j hj => by
      have hl := a1.length
      rw [ho, g1 j (by rw [List.length_append]; omega), List.getElem?_append_left (by omega)]) width_one w
    have hp2 : (part f.type ys f.offset).run P w = .ok (mkV a.isAgg q1) w := run_part ht b1.length (fun j hj => by
      have hl := b1.length
      rw [ho, g2 j (by rw [List.length_append]; omega), List.getElem?_append_left (by omega)]) width_one w
    have hr := ih (xs := xs) (ys := ys) a2 b2 (fun j hj => by
      have := g1 (1 + j) (by rw [List.length_append]; omega)
      rw [show off + 1 + j = off + (1 + j) by omega, this, List.getElem?_append_right (by omega)]; congr 1; omega) (fun j hj => by
      have := g2 (1 + j) (by rw [List.length_append]; omega)
      rw [show off + 1 + j = off + (1 + j) by omega, this, List.getElem?_append_right (by omega)]; congr 1; omega)
    simp only [Op.eqFields, hn, ne_eq, not_false_eq_true, if_true, Sem.run_bind, hp1, hp2, e1, Result.andThen_ok]
    show _ = Result.ok (eqB a x1 y1 && eqB b x2 y2) w
    cases eqB a x1 y1
    · simp
    · simpa using hr

end
end Go.AM
namespace Go.AM
set_option linter.unusedVariables false

abbrev KV (α : Type) := List (List UInt8 × α)
section
variable {α : Type}
def mget (k : List UInt8) : KV α → Option α
  | [] => none
  | y :: r => if y.1 = k then some y.2 else mget k r
def mput (k : List UInt8) (v : α) : KV α → KV α
  | [] => [(k, v)]
  | y :: r => if y.1 = k then (k, v) :: r else if Op.bytesLess k y.1 then (k, v) :: y :: r else y :: mput k v r
def mdel (k : List UInt8) (m : KV α) : KV α := m.filter fun y => !(y.1 == k)
def Rising (m : KV α) : Prop := m.Pairwise fun x y => Op.bytesLess x.1 y.1 = true

theorem bytesLess_eq : ∀ (x y : List UInt8), Op.bytesLess x y = decide (x < y)
  | [], [] => by simp [Op.bytesLess]
  | _ :: _, [] => by simp [Op.bytesLess]
  | [], _ :: _ => by simp [Op.bytesLess]
  | a :: x, b :: y => by
    rw [Op.bytesLess, bytesLess_eq x y]
    simp only [List.cons_lt_cons_iff]
    by_cases h1 : a < b <;> by_cases h2 : a = b <;> by_cases h3 : x < y <;> simp [h1, h2, h3]
theorem less_irrefl (a : List UInt8) : Op.bytesLess a a = false := by rw [bytesLess_eq]; simp
theorem less_trans {a b c : List UInt8} (h1 : Op.bytesLess a b = true) (h2 : Op.bytesLess b c = true) : Op.bytesLess a c = true := by
  rw [bytesLess_eq, decide_eq_true_eq] at *; exact List.lt_trans h1 h2
theorem less_total : ∀ {a b : List UInt8}, a ≠ b → Op.bytesLess a b = true ∨ Op.bytesLess b a = true
  | [], [], h => absurd rfl h
  | [], _ :: _, _ => .inl rfl
  | _ :: _, [], _ => .inr rfl
  | a :: x, b :: y, h => by
    simp only [Op.bytesLess, Bool.or_eq_true, decide_eq_true_eq, Bool.and_eq_true, beq_iff_eq]
    by_cases h1 : a = b
    · subst h1
      rcases less_total (a := x) (b := y) (fun e => h (by rw [e])) with h2 | h2
      · exact .inl (.inr ⟨rfl, h2⟩)
      · exact .inr (.inr ⟨rfl, h2⟩)
    · have h2 : a.toNat ≠ b.toNat := fun e => h1 (UInt8.toNat_inj.1 e)
      rcases Nat.lt_or_gt_of_ne h2 with h3 | h3
      · exact .inl (.inl (UInt8.lt_iff_toNat_lt.2 h3))
      · exact .inr (.inl (UInt8.lt_iff_toNat_lt.2 h3))
theorem less_ne {a b : List UInt8} (h : Op.bytesLess a b = true) : a ≠ b := by rintro rfl; rw [less_irrefl] at h; cases h

theorem Rising.apart {m : KV α} (h : Rising m) : m.Pairwise fun x y => x.1 ≠ y.1 := h.imp fun h => less_ne h
theorem Rising.del {m : KV α} (h : Rising m) (k : List UInt8) : Rising (mdel k m) := h.filter _
theorem mput_mem {k : List UInt8} {v : α} : ∀ {m : KV α} {x : List UInt8 × α}, x ∈ mput k v m → x = (k, v) ∨ x ∈ m
  | [], x, h => by simp [mput] at h; exact .inl h
  | y :: r, x, h => by
    unfold mput at h
    split at h
    · rcases List.mem_cons.1 h with h | h
      · exact .inl h
      · exact .inr (List.mem_cons_of_mem _ h)
    split at h
    · rcases List.mem_cons.1 h with h | h
      · exact .inl h
      · exact .inr h
    · rcases List.mem_cons.1 h with h | h
      · exact .inr (h ▸ List.mem_cons_self)
      · rcases mput_mem h with h | h
        · exact .inl h
        · exact .inr (List.mem_cons_of_mem _ h)
theorem Rising.put {k : List UInt8} {v : α} : ∀ {m : KV α}, Rising m → Rising (mput k v m)
  | [], _ => List.pairwise_singleton _ _
  | y :: r, h => by
    obtain ⟨h1, h2⟩ := List.pairwise_cons.1 h
    unfold mput
    split
    · rename_i e
      exact List.pairwise_cons.2 ⟨fun x hx => e ▸ h1 x hx, h2⟩
    split
    · rename_i hl
      refine List.pairwise_cons.2 ⟨fun x hx => ?_, h⟩
      rcases List.mem_cons.1 hx with rfl | hx
      · exact hl
      · exact less_trans hl (h1 x hx)
    · rename_i hne hl
      refine List.pairwise_cons.2 ⟨fun x hx => ?_, Rising.put h2⟩
      rcases mput_mem hx with rfl | hx
      · rcases less_total hne with h | h
        · exact h
        · exact absurd h hl
      · exact h1 x hx
theorem mdel_eq {k : List UInt8} : ∀ {m : KV α}, (∀ y ∈ m, y.1 ≠ k) → mdel k m = m
  | [], _ => rfl
  | y :: r, h => by
    have := mdel_eq (m := r) fun y hy => h y (List.mem_cons_of_mem _ hy)
    unfold mdel at this ⊢
    rw [List.filter_cons, if_pos (by simpa using h y List.mem_cons_self), this]
theorem mput_perm {k : List UInt8} {v : α} : ∀ {m : KV α}, Rising m → (mput k v m).Perm ((k, v) :: mdel k m)
  | [], _ => .refl _
  | y :: r, h => by
    obtain ⟨h1, h2⟩ := List.pairwise_cons.1 h
    unfold mput
    split
    · rename_i e
      have : mdel k (y :: r) = r := by
        unfold mdel
        rw [List.filter_cons, if_neg (by simp [e])]
        exact mdel_eq fun x hx => by rw [← e]; exact (less_ne (h1 x hx)).symm
      rw [this]
    split
    · rename_i hl
      have : mdel k (y :: r) = y :: r := mdel_eq fun x hx => by
        rcases List.mem_cons.1 hx with rfl | hx
        · exact (less_ne hl).symm
        · exact (less_ne (less_trans hl (h1 x hx))).symm
      rw [this]
    · rename_i hne hl
      have : mdel k (y :: r) = y :: mdel k r := by unfold mdel; rw [List.filter_cons, if_pos (by simpa using hne)]
      rw [this]
      exact ((mput_perm h2).cons y).trans (.swap _ _ _)
theorem mget_none {k : List UInt8} : ∀ {m : KV α}, mget k m = none ↔ ∀ y ∈ m, y.1 ≠ k
  | [] => by simp [mget]
  | y :: r => by
    unfold mget
    split
    · rename_i e; simp [e]
    · rename_i e; simp [mget_none (m := r), e]
theorem mget_mem {k : List UInt8} {v : α} : ∀ {m : KV α}, mget k m = some v → (k, v) ∈ m
  | [], h => by cases h
  | y :: r, h => by
    unfold mget at h
    split at h
    · rename_i e; cases h; rw [← e]; exact List.mem_cons_self
    · exact List.mem_cons_of_mem _ (mget_mem h)
theorem mget_of {k : List UInt8} {v : α} : ∀ {m : KV α}, m.Pairwise (fun x y => x.1 ≠ y.1) → (k, v) ∈ m → mget k m = some v
  | [], _, h => by cases h
  | y :: r, h, hm => by
    obtain ⟨h1, h2⟩ := List.pairwise_cons.1 h
    unfold mget
    rcases List.mem_cons.1 hm with rfl | hm
    · rw [if_pos rfl]
    · rw [if_neg (h1 _ hm), mget_of h2 hm]
theorem mget_put_same (k : List UInt8) (v : α) : ∀ m : KV α, mget k (mput k v m) = some v
  | [] => by simp [mput, mget]
  | y :: r => by
    unfold mput
    split
    · simp [mget]
    split
    · simp [mget]
    · rename_i h _
      simp [mget, h, mget_put_same k v r]
theorem mget_put_ne {k k' : List UInt8} (v : α) (h : k' ≠ k) : ∀ m : KV α, mget k' (mput k v m) = mget k' m
  | [] => by simp [mput, mget, h.symm]
  | y :: r => by
    unfold mput
    split
    · rename_i e; simp [mget, e, h.symm]
    split
    · simp [mget, h.symm]
    · simp [mget, mget_put_ne v h r]
theorem apart_perm {m m' : KV α} (h : m.Perm m') (ha : m.Pairwise fun x y => x.1 ≠ y.1) : m'.Pairwise fun x y => x.1 ≠ y.1 := h.pairwise ha fun h => h.symm
theorem mget_perm {k : List UInt8} {m m' : KV α} (h : m.Perm m') (ha : m'.Pairwise fun x y => x.1 ≠ y.1) : mget k m = mget k m' := by
  cases e : mget k m with
  | none =>
    exact (mget_none.2 fun y hy => mget_none.1 e y (h.symm.subset hy)).symm
  | some v => exact (mget_of ha (h.subset (mget_mem e))).symm
end

section
variable {U : Univ} {O : Out} {P : Program} {S : Nat → Prop} {ι : Lay} {w : World} {rs : List (Nat × AVal U)} {a : Act} {ops : Array Oper} {o : Oper} {t : Ty}

theorem bytes_ext {a b : ByteArray} (h : a.data.toList = b.data.toList) : a = b := by
  obtain ⟨⟨x⟩⟩ := a
  obtain ⟨⟨y⟩⟩ := b
  simp at h; rw [h]
theorem EntsR.app {es' : List MapEntry} : ∀ {es : List MapEntry} {ys : KV (t.den U.T)}, EntsR U O S w t (es ++ es') ys ↔ ∃ y1 y2, ys = y1 ++ y2 ∧ EntsR U O S w t es y1 ∧ EntsR U O S w t es' y2
  | [], ys => by
    constructor
    · intro h; exact ⟨[], ys, rfl, rfl, h⟩
    · rintro ⟨y1, y2, rfl, h1, h2⟩
      have h1 : y1 = [] := h1
      subst h1; exact h2
  | e :: es, ys => by
    constructor
    · rintro ⟨y, r, rfl, h1, h2, h3⟩
      obtain ⟨y1, y2, rfl, h4, h5⟩ := EntsR.app.1 h3
      exact ⟨y :: y1, y2, rfl, ⟨y, y1, rfl, h1, h2, h4⟩, h5⟩
    · rintro ⟨y1, y2, rfl, ⟨y, r, rfl, h1, h2, h3⟩, h5⟩
      exact ⟨y, r ++ y2, rfl, h1, h2, EntsR.app.2 ⟨r, y2, rfl, h3, h5⟩⟩
theorem EntsR.len : ∀ {es : List MapEntry} {ys : KV (t.den U.T)}, EntsR U O S w t es ys → es.length = ys.length
  | [], _, h => by have h : _ = _ := h; rw [h]; rfl
  | _ :: _, _, ⟨y, r, h1, _, _, h5⟩ => by rw [h1]; simp [EntsR.len h5]
theorem EntsR.isKey : ∀ {es : List MapEntry} {ys : KV (t.den U.T)}, EntsR U O S w t es ys → ∀ x ∈ es, MapKept.IsKey .string x.key
  | [], _, _, x, hx => by cases hx
  | e :: es, _, ⟨y, r, h1, ⟨s, h2, _⟩, _, h5⟩, x, hx => by
    rcases List.mem_cons.1 hx with rfl | hx
    · rw [h2]; trivial
    · exact EntsR.isKey h5 x hx
theorem EntsR.mem : ∀ {es : List MapEntry} {ys : KV (t.den U.T)}, EntsR U O S w t es ys → ∀ y ∈ ys, ∃ x ∈ es, ∃ s : ByteArray, x.key = .string s ∧ s.data.toList = y.1
  | [], _, h, y, hy => by have h : _ = _ := h; rw [h] at hy; cases hy
  | e :: es, _, ⟨y, r, h1, h2, _, h5⟩, z, hz => by
    subst h1
    rcases List.mem_cons.1 hz with rfl | hz
    · exact ⟨e, List.mem_cons_self, h2⟩
    · obtain ⟨x, h6, h7⟩ := EntsR.mem h5 z hz
      exact ⟨x, List.mem_cons_of_mem _ h6, h7⟩
theorem EntsR.apart : ∀ {es : List MapEntry} {ys : KV (t.den U.T)}, EntsR U O S w t es ys → (es.map (·.key)).Nodup → ys.Pairwise fun x y => x.1 ≠ y.1
  | [], _, h, _ => by have h : _ = _ := h; rw [h]; exact .nil
  | e :: es, _, ⟨y, r, h1, ⟨s, h2, h3⟩, _, h5⟩, hn => by
    subst h1
    rw [List.map_cons, List.nodup_cons] at hn
    refine List.pairwise_cons.2 ⟨fun z hz he => ?_, EntsR.apart h5 hn.2⟩
    obtain ⟨x, h6, s', h7, h8⟩ := EntsR.mem h5 z hz
    refine hn.1 (List.mem_map.2 ⟨x, h6, ?_⟩)
    rw [h7, h2, bytes_ext (h8.trans (he.symm.trans h3.symm))]

theorem EntsR.find {s : ByteArray} {es : List MapEntry} {ys : KV (t.den U.T)} (h : EntsR U O S w t es ys) (hn : (es.map (·.key)).Nodup) :
    (Instr.findNow .string (.string s) es 0 = some none ∧ (∀ x ∈ es, x.key ≠ .string s) ∧ mget s.data.toList ys = none ∧ mdel s.data.toList ys = ys) ∨
    ∃ pre e post y1 y y2, es = pre ++ e :: post ∧ ys = y1 ++ (s.data.toList, y) :: y2 ∧ Instr.findNow .string (.string s) es 0 = some (some (pre.length, e.val)) ∧ e.key = .string s ∧
      EntsR U O S w t pre y1 ∧ EntsR U O S w t post y2 ∧ (∃ cs, Rd U O S w t y cs ∧ e.val = mkV t.isAgg cs) ∧ mget s.data.toList ys = some y ∧ mdel s.data.toList ys = y1 ++ y2 := by
  have ha := h.apart hn
  rcases MapKept.findNow_spec (d := .string) (k := .string s) trivial es 0 h.isKey with ⟨h1, h2⟩ | ⟨j, e, h1, h2, h3⟩
  · left
    have hk : ∀ y ∈ ys, y.1 ≠ s.data.toList := fun y hy e => by
      obtain ⟨x, h4, s', h5, h6⟩ := h.mem y hy
      exact h2 x h4 (by rw [h5, bytes_ext (h6.trans e)])
    exact ⟨h1, h2, mget_none.2 hk, mdel_eq hk⟩
  · right
    obtain ⟨hj, hj2⟩ := List.getElem?_eq_some_iff.1 h2
    have hes : es = es.take j ++ e :: es.drop (j + 1) := by rw [← hj2, List.getElem_cons_drop, List.take_append_drop]
    have hpl : (es.take j).length = j := by simp; omega
    rw [hes] at h
    obtain ⟨y1, y2', rfl, h4, y, y2, rfl, ⟨s', h5, h6⟩, h7, h8⟩ := EntsR.app.1 h
    rw [h3] at h5
    injection h5 with h5
    subst h5
    obtain ⟨k, y⟩ := y
    simp only at h6
    subst h6
    refine ⟨es.take j, e, es.drop (j + 1), y1, y, y2, hes, rfl, by rw [h1, hpl]; simp, h3, h4, h8, h7, mget_of ha (by simp), ?_⟩
    obtain ⟨_, p2, p3⟩ := List.pairwise_append.1 ha
    obtain ⟨p4, _⟩ := List.pairwise_cons.1 p2
    have q1 : mdel s.data.toList y1 = y1 := mdel_eq fun x hx => p3 x hx _ List.mem_cons_self
    have q2 : mdel s.data.toList y2 = y2 := mdel_eq fun x hx => (p4 x hx).symm
    unfold mdel at q1 q2 ⊢
    rw [List.filter_append, List.filter_cons, if_neg (by simp), q1, q2]

theorem erase_mid (e : MapEntry) (post : List MapEntry) : ∀ pre : List MapEntry, (pre ++ e :: post).eraseIdx pre.length = pre ++ post
  | [] => rfl
  | x :: pre => by simp [erase_mid e post pre]
theorem modify_mid (f : MapEntry → MapEntry) (e : MapEntry) (post : List MapEntry) : ∀ pre : List MapEntry, (pre ++ e :: post).modify pre.length f = pre ++ f e :: post
  | [] => rfl
  | x :: pre => by simp [modify_mid f e post pre]

theorem Nx.setObj {s : LSpec U} {n b c : Nat} {B B' : Blk U} {o1 o2 : Obj} (hcb : s.cb = [(n, B)]) (hpb : s.pb = [(n, B')]) (hn : ι n = some (b, c)) (hout : ¬ S b)
    (hlt : ∀ b, S b → b < w.heap.size) (hg : w.heap[b]? = some o1) (hB : BR U O S ι { w with heap := w.heap.setIfInBounds b o2 } n B') : Nx U O s S ι w S ι { w with heap := w.heap.setIfInBounds b o2 } := by
  have hb : b < w.heap.size := (Array.getElem?_eq_some_iff.1 hg).1
  refine ⟨rfl, rfl, rfl, by simp, fun _ h => h, fun _ h => .inl h, fun b h => by simpa using hlt b h, fun k hk hnot => ?_, fun _ _ => rfl, fun x hx => ?_, fun m hm k c' hk => ?_, fun m hm k hk hne => ?_⟩
  · exact (MapKept.heap_set hg).2 k fun e' => hnot n (by rw [hcb]; simp) c (by rw [e']; exact hn)
  · rw [hpb] at hx
    simp at hx; subst hx
    exact hB
  · rw [hpb] at hm
    simp at hm; subst hm
    rw [hn] at hk
    obtain ⟨rfl, rfl⟩ : b = k ∧ c = c' := by simpa using hk
    exact ⟨hout, by simpa using hb, .inr ⟨_, by rw [hcb]; simp, c, hn⟩⟩
  · rw [hpb] at hm hk
    simp at hm hk
    exact absurd (hm.trans hk.symm) hne

theorem exec_makeMap {ρ : Operand → Value} {T : TypeId} {x : Option Operand} (ho : o.op = .makeMap T x) : execOp ρ o = vOf (Instr.makeMap T (x.map ρ)) := by unfold execOp; rw [ho]; rfl
theorem exec_mapUpdate {ρ : Operand → Value} {T : TypeId} {m x y : Operand} (ho : o.op = .mapUpdate T m x y) : execOp ρ o = (do Instr.mapUpdate T (ρ m) (ρ x) (ρ y); pure .skip) := by unfold execOp; rw [ho]
theorem exec_lookup {ρ : Operand → Value} {T : TypeId} {m x : Operand} {c : Bool} (ho : o.op = .lookup T m x c) : execOp ρ o = vOf (Instr.lookup T (ρ m) (ρ x) c) := by unfold execOp; rw [ho]; rfl

theorem sok_makeMap {T : TypeId} {d : Nat} (hg : o.guard = none) (_ : o.dst = some d) (ho : o.op = .makeMap T none) : SOk U O P ops o { rs := rs, ws := .mp d, pb := [(d, .map t [])], nn := [d] } := by
  intro S ι w a hlt hgl hrs hro hcb hown K Q hK
  refine opWp_plain hg ?_
  unfold Oper.wp
  rw [exec_makeMap ho]
  have hr : (Instr.makeMap T none).run P w = .ok (.map (some w.heap.size)) (w.alloc (.map #[] 0)) := by
    simp only [Instr.makeMap, newObj, Sem.run_bind, Sem.run, Result.andThen_ok, Sem.run_pure]
    rfl
  rw [show (Option.map a.eval none : Option Value) = none from rfl, run_vOf hr]
  refine hK _ S _ _ (Nx.alloc (s := { rs := rs, ws := .mp d, pb := [(d, .map t [])], nn := [d] }) (.map #[] 0) rfl rfl rfl hlt 0 ?_) ⟨w.heap.size, 0, by simp, rfl⟩
  exact ⟨w.heap.size, 0, #[], 0, [], by simp, heap_alloc_new w _, MapKept.stamped_empty 0, rfl, .refl _, .nil⟩

structure MapOk (P : Program) (T K E : TypeId) : Prop where
  ty : P.underlying T = some (.map K E)
  key : P.underlying K = some .string

theorem sok_lookup {T K E : TypeId} {m x : Operand} {n : Nat} {kvs : KV (t.den U.T)} {k : List UInt8} {z : t.den U.T} (hg : o.guard = none) (ho : o.op = .lookup T m x false) (hT : MapOk P T K E) (hz : ZeroOk P U E t z)
    (hm : Opd U rs m (.mp n)) (hx : Opd U rs x (.p .str k)) : SOk U O P ops o { rs := rs, ro := [(n, .map t kvs)], ws := .p t ((mget k kvs).getD z) } :=
  sok_v hg _ (fun _ => exec_lookup ho) fun S ι w a hrs hro => by
    obtain ⟨b, c, es, clock, ys, h1, h2, h3, h4, h5, h6⟩ := hro _ List.mem_cons_self
    obtain ⟨b', c', h7, h8⟩ := hm.ev hrs
    rw [h1] at h7
    obtain ⟨rfl, rfl⟩ : b = b' ∧ c = c' := by simpa using h7
    obtain ⟨cs, hk, hk2⟩ := hx.ev hrs
    cases hk with | str s =>
    have hk2 : a.eval x = .string s := hk2
    obtain ⟨i, v, hi, hv, hall⟩ := hz.h
    obtain ⟨cs, hr, rfl⟩ := hall O S w
    have hzr : (zeroValue E).run P w = .ok (mkV t.isAgg cs) w := by simp only [zeroValue, typeInfo, hi, hv, program, Sem.run_bind, Sem.run, Result.andThen_ok, Sem.run_pure]
    rw [h8, hk2, ← mget_perm h5 (Rising.apart h6)]
    rcases EntsR.find (s := s) h4 h3.2.2 with ⟨f1, f2, f3, _⟩ | ⟨pre, e, post, y1, y, y2, f1, f2, f3, f4, f5, f6, ⟨cs, f7, f8⟩, f9, f10⟩
    · refine ⟨mkV t.isAgg cs, ?_, cs, by rw [f3]; exact hr, rfl⟩
      simp [Instr.lookup, run_underlying hT.ty, MapKept.run_getObj_map h2, MapKept.run_checkKey hT.key (show MapKept.IsKey .string (.string s) from trivial), MapKept.run_findKey hT.key f1, hzr, Result.andThen]
    · refine ⟨e.val, ?_, cs, by rw [f9]; exact f7, f8⟩
      simp [Instr.lookup, run_underlying hT.ty, MapKept.run_getObj_map h2, MapKept.run_checkKey hT.key (show MapKept.IsKey .string (.string s) from trivial), MapKept.run_findKey hT.key f3, Result.andThen]
theorem sok_lookup2 {T K E : TypeId} {m x : Operand} {n : Nat} {kvs : KV (t.den U.T)} {k : List UInt8} {z : t.den U.T} (hg : o.guard = none) (ho : o.op = .lookup T m x true) (hT : MapOk P T K E) (hz : ZeroOk P U E t z)
    (hm : Opd U rs m (.mp n)) (hx : Opd U rs x (.p .str k)) : SOk U O P ops o { rs := rs, ro := [(n, .map t kvs)], ws := .tup [.p t ((mget k kvs).getD z), .p .bool (mget k kvs).isSome] } :=
  sok_v hg _ (fun _ => exec_lookup ho) fun S ι w a hrs hro => by
    obtain ⟨b, c, es, clock, ys, h1, h2, h3, h4, h5, h6⟩ := hro _ List.mem_cons_self
    obtain ⟨b', c', h7, h8⟩ := hm.ev hrs
    rw [h1] at h7
    obtain ⟨rfl, rfl⟩ : b = b' ∧ c = c' := by simpa using h7
    obtain ⟨cs, hk, hk2⟩ := hx.ev hrs
    cases hk with | str s =>
    have hk2 : a.eval x = .string s := hk2
    obtain ⟨i, v, hi, hv, hall⟩ := hz.h
    obtain ⟨cs, hr, rfl⟩ := hall O S w
    have hzr : (zeroValue E).run P w = .ok (mkV t.isAgg cs) w := by simp only [zeroValue, typeInfo, hi, hv, program, Sem.run_bind, Sem.run, Result.andThen_ok, Sem.run_pure]
    rw [h8, hk2, ← mget_perm h5 (Rising.apart h6)]
    rcases EntsR.find (s := s) h4 h3.2.2 with ⟨f1, f2, f3, _⟩ | ⟨pre, e, post, y1, y, y2, f1, f2, f3, f4, f5, f6, ⟨cs, f7, f8⟩, f9, f10⟩
    · refine ⟨.tuple #[mkV t.isAgg cs, .bool false], ?_, [mkV t.isAgg cs, .bool false], ⟨_, _, rfl, ⟨cs, by rw [f3]; exact hr, rfl⟩, _, _, rfl, ⟨[.bool false], by rw [f3]; exact .bool false, rfl⟩, rfl⟩, rfl⟩
      simp [Instr.lookup, run_underlying hT.ty, MapKept.run_getObj_map h2, MapKept.run_checkKey hT.key (show MapKept.IsKey .string (.string s) from trivial), MapKept.run_findKey hT.key f1, hzr, Result.andThen]
    · refine ⟨.tuple #[e.val, .bool true], ?_, [e.val, .bool true], ⟨_, _, rfl, ⟨cs, by rw [f9]; exact f7, f8⟩, _, _, rfl, ⟨[.bool true], by rw [f9]; exact .bool true, rfl⟩, rfl⟩, rfl⟩
      simp [Instr.lookup, run_underlying hT.ty, MapKept.run_getObj_map h2, MapKept.run_checkKey hT.key (show MapKept.IsKey .string (.string s) from trivial), MapKept.run_findKey hT.key f3, Result.andThen]

theorem run_mapPut {T K E : TypeId} {b : Nat} {es : Array MapEntry} {clock : Nat} {ys kvs : KV (t.den U.T)} {s : ByteArray} {u : Value} {cs : List Value} {v : t.den U.T} (hT : MapOk P T K E) (h2 : w.heap[b]? = some (.map es clock))
    (h3 : MapKept.Stamped es clock) (h4 : EntsR U O S w t es.toList ys) (h5 : ys.Perm kvs) (h6 : Rising kvs) (hr : Rd U O S w t v cs) (hv : u = mkV t.isAgg cs) :
    ∃ es' clock' ys', (Instr.mapUpdate T (.map (some b)) (.string s) u).run P w = .ok () { w with heap := w.heap.setIfInBounds b (.map es' clock') } ∧ MapKept.Stamped es' clock' ∧ EntsR U O S w t es'.toList ys' ∧
      ys'.Perm (mput s.data.toList v kvs) := by
  have hky : MapKept.IsKey .string (.string s) := trivial
  have p0 : ((s.data.toList, v) :: mdel s.data.toList ys).Perm (mput s.data.toList v kvs) := ((h5.filter _).cons _).trans (mput_perm h6).symm
  rcases EntsR.find (s := s) h4 h3.2.2 with ⟨f1, f2, f3, f4⟩ | ⟨pre, e, post, y1, y, y2, f1, f2, f3, f4, f5, f6, _, f9, f10⟩
  · refine ⟨es.push ⟨.string s, u, clock⟩, clock + 1, ys ++ [(s.data.toList, v)], ?_, MapKept.stamped_push h3 f2, ?_, ?_⟩
    · simp [Instr.mapUpdate, run_underlying hT.ty, MapKept.run_getObj_map h2, MapKept.run_checkKey hT.key hky, MapKept.run_findKey hT.key f1, MapKept.run_setObj_map _ h2, Result.andThen]
    · rw [Array.toList_push]
      exact EntsR.app.2 ⟨ys, _, rfl, h4, _, [], rfl, ⟨s, rfl, rfl⟩, ⟨cs, hr, hv⟩, rfl⟩
    · rw [f4] at p0
      exact (List.perm_append_singleton _ _).trans p0
  · have hj : es[pre.length]? = some e := by rw [← Array.getElem?_toList, f1]; simp
    refine ⟨es.modify pre.length (fun e' => { e' with key := .string s, val := u }), clock, y1 ++ (s.data.toList, v) :: y2, ?_, ?_, ?_, ?_⟩
    · simp [Instr.mapUpdate, run_underlying hT.ty, MapKept.run_getObj_map h2, MapKept.run_checkKey hT.key hky, MapKept.run_findKey hT.key f3, hj, f4, MapKept.run_keyThatStays hky, MapKept.run_setObj_map _ h2, Result.andThen]
    · exact MapKept.stamped_modify h3 _ _ (fun _ _ => rfl) (fun e' _ he => by rw [hj] at he; cases he; exact f4.symm)
    · rw [Array.toList_modify, f1, modify_mid]
      exact EntsR.app.2 ⟨y1, _, rfl, f5, _, y2, rfl, ⟨s, rfl, rfl⟩, ⟨cs, hr, hv⟩, f6⟩
    · rw [f10] at p0
      exact List.perm_middle.trans p0
theorem run_mapDel {T K E ty : TypeId} {b : Nat} {es : Array MapEntry} {clock : Nat} {ys kvs : KV (t.den U.T)} {s : ByteArray} (hT : MapOk P T K E) (h2 : w.heap[b]? = some (.map es clock))
    (h3 : MapKept.Stamped es clock) (h4 : EntsR U O S w t es.toList ys) (h5 : ys.Perm kvs) :
    ∃ es' ys', (Builtin.delete_ #[T, K] ty #[.map (some b), .string s]).run P w = .ok (.tuple #[]) { w with heap := w.heap.setIfInBounds b (.map es' clock) } ∧ MapKept.Stamped es' clock ∧ EntsR U O S w t es'.toList ys' ∧
      ys'.Perm (mdel s.data.toList kvs) := by
  have hky : MapKept.IsKey .string (.string s) := trivial
  have p0 : (mdel s.data.toList ys).Perm (mdel s.data.toList kvs) := h5.filter _
  rcases EntsR.find (s := s) h4 h3.2.2 with ⟨f1, f2, f3, f4⟩ | ⟨pre, e, post, y1, y, y2, f1, f2, f3, f4, f5, f6, _, f9, f10⟩
  · refine ⟨es, ys, ?_, h3, h4, by rw [f4] at p0; exact p0⟩
    simp [Builtin.delete_, run_underlying hT.ty, MapKept.run_getObj_map h2, MapKept.run_checkKey hT.key hky, MapKept.run_findKey hT.key f1, MapKept.run_setObj_map _ h2, Result.andThen]
  · refine ⟨es.eraseIdxIfInBounds pre.length, y1 ++ y2, ?_, MapKept.stamped_erase h3 _, ?_, by rw [f10] at p0; exact p0⟩
    · simp [Builtin.delete_, run_underlying hT.ty, MapKept.run_getObj_map h2, MapKept.run_checkKey hT.key hky, MapKept.run_findKey hT.key f3, MapKept.run_setObj_map _ h2, Result.andThen]
    · have hlt : pre.length < es.size := by rw [← Array.length_toList, f1]; simp
      have : (es.eraseIdxIfInBounds pre.length).toList = pre ++ post := by
        unfold Array.eraseIdxIfInBounds
        rw [dif_pos hlt]
        simp [f1, erase_mid]
      rw [this]
      exact EntsR.app.2 ⟨y1, y2, rfl, f5, f6⟩

theorem sok_mapUpdate {T K E : TypeId} {m x y : Operand} {n : Nat} {kvs : KV (t.den U.T)} {k : List UInt8} {v : t.den U.T} (hg : o.guard = none) (_ : o.dst = none) (ho : o.op = .mapUpdate T m x y) (hT : MapOk P T K E)
    (hm : Opd U rs m (.mp n)) (hx : Opd U rs x (.p .str k)) (hy : Opd U rs y (.p t v)) : SOk U O P ops o { rs := rs, cb := [(n, .map t kvs)], pb := [(n, .map t (mput k v kvs))] } := by
  intro S ι w a hlt hgl hrs hro hcb hown K' Q hK
  obtain ⟨b, c, es, clock, ys, h1, h2, h3, h4, h5, h6⟩ := hcb _ List.mem_cons_self
  obtain ⟨b', c', h7, h8⟩ := hm.ev hrs
  rw [h1] at h7
  obtain ⟨rfl, rfl⟩ : b = b' ∧ c = c' := by simpa using h7
  obtain ⟨cs, hk, hk2⟩ := hx.ev hrs
  cases hk with | str s =>
  have hk2 : a.eval x = .string s := hk2
  obtain ⟨cs, hr, hv⟩ := hy.ev hrs
  have hout := (hown.out n (by simp) b c h1).1
  obtain ⟨es', clock', ys', g1, g2, g3, g4⟩ := run_mapPut (s := s) hT h2 h3 h4 h5 h6 hr hv
  refine opWp_plain hg ?_
  unfold Oper.wp
  rw [exec_mapUpdate ho, h8, hk2]
  simp only [Sem.run_bind, g1, Result.andThen_ok, Sem.run_pure, Oper.upon]
  refine hK undef S ι _ (Nx.setObj (n := n) (b := b) (c := c) (o1 := .map es clock) rfl rfl h1 hout hlt h2 ?_) trivial
  exact ⟨b, c, es', clock', ys', h1, (MapKept.heap_set h2).1, g2, g3.mono (fun k hk => (MapKept.heap_set h2).2 k fun e => hout (e ▸ hk)) (fun _ h => h), g4, Rising.put h6⟩

theorem sok_delete {T K E : TypeId} {m x : Operand} {n : Nat} {kvs : KV (t.den U.T)} {k : List UInt8} (hg : o.guard = none) (ho : o.op = .call { callee := .builtin .delete, args := #[m, x], argTypes := #[T, K] }) (hT : MapOk P T K E)
    (hm : Opd U rs m (.mp n)) (hx : Opd U rs x (.p .str k)) : SOk U O P ops o { rs := rs, ws := .tup [], cb := [(n, .map t kvs)], pb := [(n, .map t (mdel k kvs))] } := by
  intro S ι w a hlt hgl hrs hro hcb hown K' Q hK
  obtain ⟨b, c, es, clock, ys, h1, h2, h3, h4, h5, h6⟩ := hcb _ List.mem_cons_self
  obtain ⟨b', c', h7, h8⟩ := hm.ev hrs
  rw [h1] at h7
  obtain ⟨rfl, rfl⟩ : b = b' ∧ c = c' := by simpa using h7
  obtain ⟨cs, hk, hk2⟩ := hx.ev hrs
  cases hk with | str s =>
  have hk2 : a.eval x = .string s := hk2
  have hout := (hown.out n (by simp) b c h1).1
  obtain ⟨es', ys', g1, g2, g3, g4⟩ := run_mapDel (s := s) (ty := o.type) hT h2 h3 h4 h5
  refine opWp_plain hg ?_
  unfold Oper.wp
  have he : execOp a.eval o = vOf (Builtin.delete_ #[T, K] o.type #[a.eval m, a.eval x]) := by rw [exec_builtin ho]; simp [builtin, vOf]
  rw [he, h8, hk2, run_vOf g1]
  refine hK (.tuple #[]) S ι _ (Nx.setObj (n := n) (b := b) (c := c) (o1 := .map es clock) rfl rfl h1 hout hlt h2 ?_) ⟨[], rfl, rfl⟩
  exact ⟨b, c, es', clock, ys', h1, (MapKept.heap_set h2).1, g2, g3.mono (fun k hk => (MapKept.heap_set h2).2 k fun e => hout (e ▸ hk)) (fun _ h => h), g4, Rising.del h6 _⟩

theorem sok_lenM {T K E : TypeId} {x : Operand} {n : Nat} {kvs : KV (t.den U.T)} (hg : o.guard = none) (ho : o.op = .call { callee := .builtin .len, args := #[x], argTypes := #[T] }) (hT : MapOk P T K E)
    (hm : Opd U rs x (.mp n)) : SOk U O P ops o { rs := rs, ro := [(n, .map t kvs)], ws := .p (.int .i64) (kvs.length : Int) } :=
  sok_v hg _ (fun _ => exec_len ho) fun S ι w a hrs hro => by
    obtain ⟨b, c, es, clock, ys, h1, h2, h3, h4, h5, h6⟩ := hro _ List.mem_cons_self
    obtain ⟨b', c', h7, h8⟩ := hm.ev hrs
    rw [h1] at h7
    obtain ⟨rfl, rfl⟩ : b = b' ∧ c = c' := by simpa using h7
    have hl : es.size = kvs.length := by rw [← h5.length_eq, ← h4.len, Array.length_toList]
    refine ⟨.int .i64 (kvs.length : Int), ?_, VV.int_iff.2 rfl⟩
    rw [h8]
    simp [Builtin.len_, run_underlying hT.ty, MapKept.run_getObj_map h2, Result.andThen, goInt, hl]

def PtrV (U : Univ) (v : AVal U) (q : Bool) : Prop := ∀ O S ι w u, VV U O S ι w v u → ∃ p, u = .pointer p ∧ p.isNone = q
theorem ptrV_loc {n off : Nat} : PtrV U (.loc n off) false := fun O S ι w u ⟨b, c, _, h⟩ => ⟨_, h, rfl⟩
theorem ptrV_nil : PtrV U (.lit (.pointer none)) true := fun O S ι w u ⟨h, _⟩ => ⟨_, h, rfl⟩
theorem ptrV_opt {q : Bool} {n : Nat} : PtrV U (.opt q n) (!q) := fun O S ι w u ⟨h1, h2⟩ => by
  cases q
  · exact ⟨_, h2 rfl, rfl⟩
  · obtain ⟨b, c, _, h⟩ := h1 rfl; exact ⟨_, h, rfl⟩
theorem sok_eqPN {t t' E : TypeId} {x : Operand} {v : AVal U} {q : Bool} (hg : o.guard = none) (ho : o.op = .binOp .eql t x (.const (.pointer none)) t') (ht : P.underlying t = some (.pointer E))
    (hx : Opd U rs x v) (hv : PtrV U v q) : SOk U O P ops o { rs := rs, ws := .p .bool q } :=
  sok_v hg _ (fun _ => exec_bin ho) fun S ι w a hrs _ => ⟨.bool q, by
    obtain ⟨p, h1, h2⟩ := hv _ _ _ _ _ (hx.ev hrs)
    have hp : P.underlying t = some (.pointer (P.pointee t)) := by simp [Program.pointee, ht]
    have hc : a.eval (.const (.pointer none)) = .pointer none := rfl
    rw [h1, hc, eqGuard_at_pointer]
    simp only [Sem.run_bind, Sem.run_pure, Result.andThen_ok, run_eql_pointer_nil w t p hp, h2], VV.bool_iff.2 rfl⟩
theorem sok_nePN {t t' E : TypeId} {x : Operand} {v : AVal U} {q : Bool} (hg : o.guard = none) (ho : o.op = .binOp .neq t x (.const (.pointer none)) t') (ht : P.underlying t = some (.pointer E))
    (hx : Opd U rs x v) (hv : PtrV U v q) : SOk U O P ops o { rs := rs, ws := .p .bool (!q) } :=
  sok_v hg _ (fun _ => exec_bin ho) fun S ι w a hrs _ => ⟨.bool (!q), by
    obtain ⟨p, h1, h2⟩ := hv _ _ _ _ _ (hx.ev hrs)
    have hp : P.underlying t = some (.pointer (P.pointee t)) := by simp [Program.pointee, ht]
    have hc : a.eval (.const (.pointer none)) = .pointer none := rfl
    rw [h1, hc, eqGuard_at_pointer]
    simp only [Sem.run_bind, Sem.run_pure, Result.andThen_ok, run_neq_pointer_nil w t p hp, h2], VV.bool_iff.2 rfl⟩

theorem rd_strq {x : List UInt8} {cs : List Value} (h : Rd U O S w .str x cs) : ∃ q : ByteArray, x = q.data.toList ∧ cs = [.string q] := by
  cases h; exact ⟨_, rfl, rfl⟩
theorem rd_strof {x : List UInt8} {q : ByteArray} (h : q.data.toList = x) : Rd U O S w .str x [.string q] := by
  subst h; exact .str q
end
end Go.AM
namespace Go.AM
set_option linter.unusedVariables false

section
variable {U : Univ} {O : Out} {P : Program} {ops : Array Oper} {o : Oper}

theorem Conv.optNew {st : St U} (m : Nat) (B : Blk U) (hn : st.names.contains m = false) (hlo : m < K0) : Conv U O st ⟨st.sl, (m, .opt false B) :: st.hp⟩ := by
  intro B' S ι a w hR
  have hn' : m ∉ st.names := by simpa using hn
  have hR' := hR.lay' (ι' := fun k => if k = m then none else ι k) (fun k hk => if_neg fun (e : k = m) => hn' (e ▸ hk)) (fun k hk => if_neg (by omega))
  refine ⟨S, _, { hR' with hp := fun x hx => ?_, own := ⟨fun k hk b c hb => ?_, fun k hk j hj hne b c c' hb => ?_⟩, mine := fun k hk b c hb => ?_ }⟩
  · rcases List.mem_cons.1 hx with rfl | h1
    · exact fun h => by cases h
    · exact hR'.hp x h1
  · rcases List.mem_cons.1 hk with rfl | h1
    · simp at hb
    · exact hR'.own.out k h1 b c hb
  · rcases List.mem_cons.1 hk with rfl | h1
    · simp at hb
    · rcases List.mem_cons.1 hj with rfl | h2
      · simp
      · exact hR'.own.sep k h1 j h2 hne b c c' hb
  · rcases List.mem_cons.1 hk with rfl | h1
    · simp at hb
    · exact hR'.mine k h1 b c hb
theorem Conv.optNil {st : St U} (t m : Nat) (hin : (t, AVal.lit (.pointer none)) ∈ st.sl) : Conv U O st ⟨setA st.sl t (.opt false m), st.hp⟩ := by
  intro B S ι a w hR
  refine ⟨S, ι, { hR with sl := fun x hx => ?_ }⟩
  rcases mem_setA hx with rfl | ⟨h1, _⟩
  · exact ⟨(fun h => by cases h), fun _ => (hR.sl _ hin).1⟩
  · exact hR.sl x h1
theorem Conv.optLoc {st : St U} (t n : Nat) (hin : (t, AVal.loc n 0) ∈ st.sl) : Conv U O st ⟨setA st.sl t (.opt true n), st.hp⟩ := by
  intro B S ι a w hR
  refine ⟨S, ι, { hR with sl := fun x hx => ?_ }⟩
  rcases mem_setA hx with rfl | ⟨h1, _⟩
  · exact ⟨fun _ => hR.sl _ hin, fun h => by cases h⟩
  · exact hR.sl x h1
theorem Conv.optBlk {st : St U} (n : Nat) (B : Blk U) (hin : (n, B) ∈ st.hp) : Conv U O st ⟨st.sl, setA st.hp n (.opt true B)⟩ := by
  intro B' S ι a w hR
  have hm : ∀ k ∈ nm (setA st.hp n (Blk.opt true B)), k ∈ nm st.hp := fun k hk => by
    obtain ⟨x, hx, rfl⟩ := List.mem_map.1 hk
    rcases mem_setA hx with rfl | ⟨h1, _⟩
    · exact List.mem_map.2 ⟨_, hin, rfl⟩
    · exact List.mem_map.2 ⟨_, h1, rfl⟩
  refine ⟨S, ι, { hR with hp := fun x hx => ?_, own := ⟨fun k hk => hR.own.out k (hm k hk), fun k hk j hj => hR.own.sep k (hm k hk) j (hm j hj)⟩, mine := fun k hk => hR.mine k (hm k hk) }⟩
  rcases mem_setA hx with rfl | ⟨h1, _⟩
  · exact fun _ => hR.hp _ hin
  · exact hR.hp x h1

end
end Go.AM
