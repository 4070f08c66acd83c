/- The abstract layer, part W: calls of functions as values; rows that a call takes for good; results frozen at once; structs put together. -/
import Derived.Test.YthmbbdemecljpaaDoorK11AmV
import Derived.Laws.Tables
namespace Go.AM

section
variable {U : Univ} {O : Out} {P : Program} {S : Nat → Prop} {ι : Lay} {w : World} {rs : List (Nat × AVal U)} {a : Act} {ops : Array Oper} {o : Oper}

/-- What is called: a function by its name, or as a value that is known. -/
inductive Callee (U : Univ) (rs : List (Nat × AVal U)) : Operand → FuncId → List (AVal U) → Prop
  | func (f : FuncId) : Callee U rs (.func f) f []
  | clo {x : Operand} {f : FuncId} {caps : List (AVal U)} : Opd U rs x (.clo f caps) → Callee U rs x f caps

theorem Callee.ev {x : Operand} {f : FuncId} {caps : List (AVal U)} (h : Callee U rs x f caps) (hr : ∀ x ∈ rs, VV U O S ι w x.2 (a.tmps.getD x.1 undef)) :
    ∃ vs, VVs U O S ι w caps vs ∧ a.eval x = .func (.func f) #[] vs.toArray := by
  cases h with
  | func => exact ⟨[], rfl, rfl⟩
  | clo h => exact h.ev hr

theorem oper_callC {f : FuncId} {x : Operand} {vs : List Value} {as : Array Operand} {ts : Array TypeId} (ho : o.op = .call { callee := .value x, args := as, argTypes := ts })
    (hb : HasBody P f) (hx : a.eval x = .func (.func f) #[] vs.toArray) {K : Act → World → Prop} {Q : Exit → Act → World → Prop} {R : Value → World → Prop}
    (hc : Calls P f ((as.toList.map a.eval ++ vs).toArray) w fun e w' => ∃ u, e = .returned u ∧ R u w') (hK : ∀ u w', R u w' → K (a.put o.dst u) w') : o.wp P a w K Q := by
  obtain ⟨fn, hf, hname, hbd⟩ := hb.h
  have e : as.map a.eval ++ vs.toArray = (as.toList.map a.eval ++ vs).toArray := by
    rw [← List.append_toArray, ← Array.toList_map, Array.toArray_toList]
  unfold Oper.wp execOp
  simp only [ho, resolve, hx, invoke, Deferred.ofValue, Sem.run_bind, Sem.run_pure, Result.andThen_ok, Array.empty_append, run_enter hf hname hbd, Oper.upon, e]
  refine hc.mono ?_
  rintro e w' ⟨u, rfl, hr⟩
  exact hK u w' hr

/-- A call; rows that are shown as lists are given away. -/
theorem sok_callF {x : Operand} {f : FuncId} {caps : List (AVal U)} {as : Array Operand} {ts : Array TypeId} {c : CSpec U} {vs : List (AVal U)} {vw : List (Nat × Blk U)}
    (hg : o.guard = none) (ho : o.op = .call { callee := .value x, args := as, argTypes := ts }) (hx : Callee U rs x f caps) (hb : HasBody P f) (hc : COk U O P f c)
    (ha : Opds U rs as.toList vs) (hv : Views U vw (vs ++ caps) c.ar) (hd : ∀ n ∈ nm vw, n ∉ nm c.bs) :
    SOk U O P ops o { rs := rs, cb := vw ++ c.bs, ws := c.r, pb := c.bs', nn := c.nn } := by
  intro S ι w a hlt hgl hrs hro hcb hown K Q hK
  refine opWp_plain hg ?_
  have hown : Own S ι w (nm (vw ++ c.bs)) := by simpa using hown
  have hin : ∀ n ∈ nm c.bs, n ∈ nm (vw ++ c.bs) := fun n hn => by simp only [nm, List.map_append, List.mem_append]; exact .inr hn
  have hinv : ∀ n ∈ nm vw, n ∈ nm (vw ++ c.bs) := fun n hn => by simp only [nm, List.map_append, List.mem_append]; exact .inl hn
  obtain ⟨us, hus, hxe⟩ := hx.ev (a := a) hrs
  have hro' : ∀ x ∈ vw, BR U O S ι w x.1 x.2 := fun x hx => hcb x (List.mem_append.2 (.inl hx))
  have hargs : VVs U O S ι w (vs ++ caps) (as.toList.map a.eval ++ us) := VVs.append.2 ⟨_, _, rfl, ha.ev hrs, hus⟩
  have hC := hc (fun b => S b ∨ Shown ι (nm vw) b) ι w (as.toList.map a.eval ++ us) (fun b hb => hb.elim (hlt b) fun ⟨n, hn, cc, h⟩ => (hown.out n (hinv n hn) b cc h).2) (hgl.mono (fun _ _ => rfl) fun _ h => .inl h) (hv.ev hro' hargs)
    (fun x hx => BR.mono (fun _ _ => rfl) (fun _ h => .inl h) rfl (fun _ _ => rfl) (fun _ _ _ => rfl) (hcb x (List.mem_append.2 (.inr hx))))
    ⟨fun n hn b cc h => ⟨fun hS => hS.elim (hown.out n (hin n hn) b cc h).1 fun ⟨m, hm, c', h'⟩ =>
      hown.sep n (hin n hn) m (hinv m hm) (fun e => hd m hm (e ▸ hn)) b cc c' h h', (hown.out n (hin n hn) b cc h).2⟩, fun n hn m hm => hown.sep n (hin n hn) m (hin m hm)⟩
  refine oper_callC ho hb hxe (R := fun u w' => ∃ S' ι', Nx U O { rs := rs, cb := vw ++ c.bs, ws := c.r, pb := c.bs', nn := c.nn : LSpec U } S ι w S' ι' w' ∧ VV U O S' ι' w' c.r u) ?_ ?_
  · refine hC.mono ?_
    rintro e w' ⟨u, S', ι', rfl, hN, hu⟩
    refine ⟨u, rfl, S', ι', ⟨hN.os, hN.tape, hN.output, hN.size, fun b hb => hN.sub b (.inl hb), ?_, hN.lt, fun b hb hnot => hN.keep b hb fun n hn => hnot n (hin n hn), hN.lay, hN.blk, fun n hn b cc h => ?_, hN.sep⟩, hu⟩
    · intro b hS
      rcases hN.new b hS with (h | ⟨n, hn, cc, h⟩) | h | ⟨m, hm, cc, h⟩
      · exact .inl h
      · exact .inr (.inr ⟨n, hinv n hn, cc, h⟩)
      · exact .inr (.inl h)
      · exact .inr (.inr ⟨m, hin m hm, cc, h⟩)
    · obtain ⟨h1, h2, h3⟩ := hN.plc n hn b cc h
      exact ⟨h1, h2, h3.imp id fun ⟨m, hm, c', h'⟩ => ⟨m, hin m hm, c', h'⟩⟩
  · rintro u w' ⟨S', ι', hN, hu⟩
    exact hK u S' ι' w' hN hu

/-- A call; rows that are shown as lists are the caller's as before. -/
theorem sok_callV {x : Operand} {f : FuncId} {caps : List (AVal U)} {as : Array Operand} {ts : Array TypeId} {c : CSpec U} {vs : List (AVal U)} {vw : List (Nat × Blk U)}
    (hg : o.guard = none) (ho : o.op = .call { callee := .value x, args := as, argTypes := ts }) (hx : Callee U rs x f caps) (hb : HasBody P f) (hc : COk U O P f c)
    (ha : Opds U rs as.toList vs) (hv : Views U vw (vs ++ caps) c.ar) (hd : ∀ n ∈ nm vw, n ∉ nm c.bs) (hf : vw = [] ∨ c.flat = true) :
    SOk U O P ops o { rs := rs, ro := vw, cb := c.bs, ws := c.r, pb := c.bs', nn := c.nn } := by
  intro S ι w a hlt hgl hrs hro hcb hown K Q hK
  refine opWp_plain hg ?_
  have hin : ∀ n ∈ nm c.bs, n ∈ nm vw ++ nm c.bs := fun n hn => List.mem_append.2 (.inr hn)
  have hinv : ∀ n ∈ nm vw, n ∈ nm vw ++ nm c.bs := fun n hn => List.mem_append.2 (.inl hn)
  obtain ⟨us, hus, hxe⟩ := hx.ev (a := a) hrs
  have hargs : VVs U O S ι w (vs ++ caps) (as.toList.map a.eval ++ us) := VVs.append.2 ⟨_, _, rfl, ha.ev hrs, hus⟩
  have hC := hc (fun b => S b ∨ Shown ι (nm vw) b) ι w (as.toList.map a.eval ++ us) (fun b hb => hb.elim (hlt b) fun ⟨n, hn, cc, h⟩ => (hown.out n (hinv n hn) b cc h).2) (hgl.mono (fun _ _ => rfl) fun _ h => .inl h) (hv.ev hro hargs)
    (fun x hx => BR.mono (fun _ _ => rfl) (fun _ h => .inl h) rfl (fun _ _ => rfl) (fun _ _ _ => rfl) (hcb x hx))
    ⟨fun n hn b cc h => ⟨fun hS => hS.elim (hown.out n (hin n hn) b cc h).1 fun ⟨m, hm, c', h'⟩ =>
      hown.sep n (hin n hn) m (hinv m hm) (fun e => hd m hm (e ▸ hn)) b cc c' h h', (hown.out n (hin n hn) b cc h).2⟩, fun n hn m hm => hown.sep n (hin n hn) m (hin m hm)⟩
  refine oper_callC ho hb hxe (R := fun u w' => ∃ S' ι', Nx U O { rs := rs, ro := vw, cb := c.bs, ws := c.r, pb := c.bs', nn := c.nn : LSpec U } S ι w S' ι' w' ∧ VV U O S' ι' w' c.r u) ?_ ?_
  · refine hC.mono ?_
    rintro e w' ⟨u, S', ι', rfl, hN, hu⟩
    refine ⟨u, rfl, fun b => S' b ∧ ¬ Shown ι (nm vw) b, ι', ⟨hN.os, hN.tape, hN.output, hN.size, fun b hb => ⟨hN.sub b (.inl hb), ?_⟩, ?_, fun b hb => hN.lt b hb.1, hN.keep, hN.lay, fun x hx => ?_,
      fun n hn b cc h => ⟨fun hS => (hN.plc n hn b cc h).1 hS.1, (hN.plc n hn b cc h).2⟩, hN.sep⟩, ?_⟩
    · rintro ⟨n, hn, cc, h⟩
      exact (hown.out n (hinv n hn) b cc h).1 hb
    · rintro b ⟨hS, hnot⟩
      rcases hN.new b hS with (h | h) | h
      · exact .inl h
      · exact absurd h hnot
      · exact .inr h
    · rcases hf with rfl | hf
      · exact BR.mono (fun _ _ => rfl) (fun b h => ⟨h, fun ⟨n, hn, _⟩ => by cases hn⟩) rfl (fun _ _ => rfl) (fun _ _ _ => rfl) (hN.blk x hx)
      · simp only [CSpec.flat, Bool.and_eq_true, List.all_eq_true] at hf
        exact (hN.blk x hx).flat (hf.2 x hx)
    · rcases hf with rfl | hf
      · exact VV.mono (fun _ _ => rfl) (fun b h => ⟨h, fun ⟨n, hn, _⟩ => by cases hn⟩) _ _ (fun _ _ => rfl) hu
      · simp only [CSpec.flat, Bool.and_eq_true, List.all_eq_true] at hf
        exact VV.flat _ _ hf.1 hu
  · rintro u w' ⟨S', ι', hN, hu⟩
    exact hK u S' ι' w' hN hu

/-- A new row that is given away at once. -/
theorem sok_freezeW {s : LSpec U} {d E len : Nat} {t : Ty} {xs : List (t.den U.T)} {fx : Bool} (h : SOk U O P ops o s) (hw : s.ws = .vec d (t.width U.wd) 0 len) (hl : len = xs.length) (hp : s.pb = [(d, .row E t xs fx)]) (hn : s.nn = [d]) :
    SOk U O P ops o { s with ws := .p (.list t) xs, pb := [], nn := [] } := by
  intro S ι w a hlt hgl hrs hro hcb hown K Q hK
  refine h S ι w a hlt hgl hrs hro hcb hown K Q fun u S' ι' w' hN hu => ?_
  have hB := hN.blk (d, .row E t xs fx) (by rw [hp]; exact List.mem_cons_self)
  have hplc : ∀ b c, ι' d = some (b, c) → ¬ S' b ∧ b < w'.heap.size ∧ (w.heap.size ≤ b ∨ ∃ m ∈ nm s.cb, ∃ c', ι m = some (b, c')) := fun b c hb => hN.plc d (by rw [hp]; simp) b c hb
  refine hK u (fun b => S' b ∨ ∃ c, ι' d = some (b, c)) ι w' ⟨hN.os, hN.tape, hN.output, hN.size, fun b hb => .inl (hN.sub b hb), fun b hb => ?_, fun b hb => ?_, hN.keep, fun _ _ => rfl, fun x hx => (by cases hx), fun n hn => (by cases hn), fun n hn => (by cases hn)⟩ ?_
  · rcases hb with hb | ⟨c, hb⟩
    · exact hN.new b hb
    · exact .inr (hplc b c hb).2.2
  · rcases hb with hb | ⟨c, hb⟩
    · exact hN.lt b hb
    · exact (hplc b c hb).2.1
  · rw [hw] at hu
    have hv := (View.row (vw := [(d, Blk.row E t xs fx)]) 0 len (List.mem_cons_self) (by omega)).ev (fun x hx => by simp at hx; subst hx; exact hB) hu
    have e : ((xs.drop 0).take len) = xs := by rw [hl]; simp
    rw [e] at hv
    have hv' := VV.mono (ι' := ι) (fun _ _ => rfl) (S' := fun b => S' b ∨ ∃ c, ι' d = some (b, c)) (fun b hb => ?_) (.p (.list t) xs) u (fun n hn => by cases hn) hv
    · exact hv'
    · rcases hb with hb | ⟨m, hm, c, hc⟩
      · exact .inl hb
      · simp at hm; subst hm; exact .inr ⟨c, hc⟩

/-- What the table says of a struct's or an array's literal: the zero cells, and where the parts lie. -/
def lays (P : Program) (T : TypeId) : Option (List Value × (Nat → Option (Nat × Nat))) :=
  match P.info? T, P.underlying T with
  | some it, some (.array _ e) =>
    match it.zero, P.info? e with
    | some z, some ie => some (z.cells.toList, fun i => some (i * ie.size, ie.size))
    | _, _ => none
  | some it, some (.struct fields) =>
    match it.zero, fields.toList.mapM (fun f => (P.info? f.type).map fun i => (f.offset, i.size)) with
    | some z, some places => some (z.cells.toList, fun i => places.toArray[i]?)
    | _, _ => none
  | _, _ => none

theorem built_lays {T : TypeId} {z : List Value} {pl : Nat → Option (Nat × Nat)} (h : lays P T = some (z, pl)) (parts : List (Nat × Value)) : P.built T parts = Instr.fill pl z.toArray parts := by
  unfold lays at h
  unfold Program.built
  split at h
  · rename_i it e h1 h2
    rw [h1, h2]
    simp only
    split at h
    · rename_i z' ie h3 h4
      rw [h3, h4]
      injection h with h; injection h with h5 h6
      subst h5 h6; simp
    · cases h
  · rename_i it fields h1 h2
    rw [h1, h2]
    simp only
    split at h
    · rename_i z' places h3 h4
      rw [h3, h4]
      injection h with h; injection h with h5 h6
      subst h5 h6; simp
    · cases h
  · cases h

/-- Units with parts put in. -/
inductive Filled (U : Univ) (rs : List (Nat × AVal U)) (pl : Nat → Option (Nat × Nat)) : List (Nat × Operand) → List (AVal U) → List (AVal U) → Prop
  | nil (us : List (AVal U)) : Filled U rs pl [] us us
  | cons {i : Nat} {x : Operand} {v : AVal U} (pre mid mid' post : List (AVal U)) {l : List (Nat × Operand)} {us us' : List (AVal U)} : Opd U rs x v → Units U v mid' → us = pre ++ mid ++ post → pre.all AVal.unit = true → mid.all AVal.unit = true →
      mid'.all AVal.unit = true → pl i = some (unitsW pre, unitsW mid') → unitsW mid' = unitsW mid → Filled U rs pl l (pre ++ mid' ++ post) us' → Filled U rs pl ((i, x) :: l) us us'

theorem Filled.ev {pl : Nat → Option (Nat × Nat)} {l : List (Nat × Operand)} {us us' : List (AVal U)} (h : Filled U rs pl l us us') (hr : ∀ x ∈ rs, VV U O S ι w x.2 (a.tmps.getD x.1 undef)) :
    ∀ {vs : List Value} {arr : Array Value}, VVs U O S ι w us vs → (∀ v ∈ vs, ∀ c ∈ v.cells.toList, c.oneCell' = true) → arr.toList = cellsOf vs →
    ∃ out vs', Instr.fill pl arr (l.map fun x => (x.1, a.eval x.2)) = some out ∧ VVs U O S ι w us' vs' ∧ out.toList = cellsOf vs' ∧ ∀ v ∈ vs', ∀ c ∈ v.cells.toList, c.oneCell' = true := by
  induction h with
  | nil us => intro vs arr h1 h3 h2; exact ⟨arr, vs, rfl, h1, h2, h3⟩
  | @cons i x v pre mid mid' post l us us' hx hu he hpre hmid hmid' hpl hw _ ih =>
    intro vs arr h1 h3 h2
    subst he
    obtain ⟨v12, v3, rfl, h6, h7⟩ := VVs.append.1 h1
    obtain ⟨v1, v2, rfl, h8, h9⟩ := VVs.append.1 h6
    obtain ⟨ws, a1, a2, a3, a4⟩ := hu.to hmid' (hx.ev hr)
    have l1 := (VVs.cells hpre h8).1
    have l2 := (VVs.cells hmid h9).1
    have hsz : (a.eval x).cells.size = unitsW mid' := by rw [← Array.length_toList, a2, a4]
    have hal : arr.toList.length = unitsW pre + unitsW mid + (cellsOf v3).length := by rw [h2]; simp [cellsOf_append, l1, l2]; omega
    have hal' : arr.toList.length = arr.size := Array.length_toList
    have hfold := fold_cells' (unitsW pre) (a.eval x).cells arr (by rw [hsz, hw]; omega)
    have e1 : (cellsOf (v1 ++ v2 ++ v3)).take (unitsW pre) = cellsOf v1 := by
      rw [cellsOf_append, cellsOf_append, List.append_assoc]; exact List.take_left' l1
    have e2 : (cellsOf (v1 ++ v2 ++ v3)).drop (unitsW pre + (a.eval x).cells.size) = cellsOf v3 := by
      rw [cellsOf_append, cellsOf_append, hsz, hw]; exact List.drop_left' (by rw [List.length_append, l1, l2])
    rw [h2, e1, e2, a2] at hfold
    obtain ⟨out, vs', b1, b2, b3, b4⟩ := ih (vs := v1 ++ ws ++ v3) (arr := (a.eval x).cells.zipIdx.foldl (fun cs (x : Value × Nat) => cs.setIfInBounds (unitsW pre + x.2) x.1) arr)
      (VVs.append.2 ⟨v1 ++ ws, v3, rfl, VVs.append.2 ⟨v1, ws, rfl, h8, a1⟩, h7⟩) (fun v hv => by
        rcases List.mem_append.1 hv with hv | hv
        · rcases List.mem_append.1 hv with hv | hv
          · exact h3 v (List.mem_append.2 (.inl (List.mem_append.2 (.inl hv))))
          · exact a3 v hv
        · exact h3 v (List.mem_append.2 (.inr hv))) (by rw [hfold, cellsOf_append, cellsOf_append])
    refine ⟨out, vs', ?_, b2, b3, b4⟩
    rw [List.map_cons]
    unfold Instr.fill
    rw [hpl]
    simp only [hsz, ne_eq, not_true_eq_false]
    rw [if_neg (by simp; omega)]
    exact b1

theorem exec_build {ρ : Operand → Value} {T : TypeId} {ps : Array (Nat × Operand)} (ho : o.op = .build T ps) : execOp ρ o = vOf (Instr.build T (ps.map fun (i, x) => (i, ρ x))) := by unfold execOp; rw [ho]; rfl

/-- A struct or an array, put together. -/
theorem sok_build {T : TypeId} {t : Ty} {ps : Array (Nat × Operand)} {z : List Value} {pl : Nat → Option (Nat × Nat)} {us0 us : List (AVal U)} {v : AVal U} (hg : o.guard = none) (ho : o.op = .build T ps) (hl : lays P T = some (z, pl))
    (hz : ZU U us0 z) (hf : Filled U rs pl ps.toList us0 us) (hag : t.isAgg = true) (hm : Made U t us v) : SOk U O P ops o { rs := rs, ws := v } :=
  sok_v hg _ (fun _ => exec_build ho) fun S ι w a hrs _ => by
    obtain ⟨vs, h1, h2, h3⟩ := hz.to (O := O) (S := S) (ι := ι) (w := w)
    obtain ⟨out, vs', b1, b2, b3, _⟩ := hf.ev hrs h1 h3 (arr := z.toArray) (by rw [h2])
    refine ⟨.agg out, run_build w T _ out ?_, ?_⟩
    · rw [built_lays hl, ← b1]; congr 1; rw [Array.toList_map]
    · have := hm.of b2
      rw [hag] at this
      rw [show out = (cellsOf vs').toArray from by rw [← b3]]
      exact this
end
end Go.AM
