/- For every input the law DenoteEnds returns true, and the input reads as it did: no condition. -/
import Derived.Test.YteddmdkbeednmaaDoorCards
import Derived.Test.YteddmdkbeednmaaDoorTie
import Derived.LaidMore
import Derived.Lay
import Derived.SevenTiedAt
import Derived.Stop.Joined
import Derived.Deep.DeepHandedRow
import Derived.WalkKit
import Derived.ProofKit
import Derived.Test.YteddmdkbeednmaaDoorK31AmM
import Derived.Test.YteddmdkbeednmaaDoorK31DNC5
import Derived.Test.YteddmdkbeednmaaDoorK31DNVDenoteEnds
namespace Go.Proofs.YteddmdkbeednmaaDoor.denoteEnds
open Go.ChangeShapes Go.WideShapes Go.ChangeAt Go.RowKit Go.AM
set_option linter.unusedVariables false
set_option maxRecDepth 100000
def tab : TypeId → Option Ty := fun T => if T = 3 then some (.int .i64) else if T = 9 then some .str else if T = 22 then some (.int .u64) else if T = 24 then some (.arr 4 (.int .u64)) else if T = 25 then some (.list (.named 3)) else if T = 27 then some (.named 3) else none
theorem tab_ok : TabOk Tryd.prog Un tab := by
  intro T t h
  unfold tab at h
  split at h
  · rename_i e; subst e; cases h
    exact Tryd.underlying3
  split at h
  · rename_i e; subst e; cases h
    exact Tryd.underlying9
  split at h
  · rename_i e; subst e; cases h
    exact Tryd.underlying22
  split at h
  · rename_i e; subst e; cases h
    exact ⟨22, Tryd.underlying24, by simp [tab], by kernel_rfl, by kernel_rfl⟩
  split at h
  · rename_i e; subst e; cases h
    exact ⟨27, Tryd.underlying25, by simp [tab], by kernel_rfl, by decide⟩
  split at h
  · rename_i e; subst e; cases h
    exact ⟨_, Tryd.underlying27, by kernel_rfl, _, _, rfl, rfl, by simp [tab], by kernel_rfl, _, _, rfl, rfl, by simp [tab], by kernel_rfl, _, _, rfl, rfl, by simp [tab], by kernel_rfl, _, _, rfl, rfl, by simp [tab], by kernel_rfl, rfl⟩
  cases h
theorem own : ownKnob Tryd.prog.godebug = none := by kernel_rfl
theorem laidOut : laidOutB Tryd.prog = true := by kernel_rfl
theorem lifted (os : Os) (started : os.Started) (H : Type) (enc : TypeId × Value → H) (F : Stop.Interp) :
    ReturnsInHanded {} Tryd.checked os 4 .any ((OpenSpec.ofChange Rows.denoteEndsSpec).preRow enc Tryd.prog Tryd.f4 Rows.denoteEndsRow.domain false Rows.denoteEndsRow.laid) (((OpenSpec.ofChange Rows.denoteEndsSpec).at F).post enc Tryd.prog Tryd.f4 false true false false) := by
  refine returnsInHanded_of_row (C := Tryd.checked) (s := OpenSpec.ofChange Rows.denoteEndsSpec) own started (by kernel_rfl) Tryd.func4
    (ChangeSpec.witness_shaped (enc := enc) (C := Tryd.checked) (os := os) (s := Rows.denoteEndsSpec) (X := fun w _ => laidMetH Tryd.prog Rows.denoteEndsRow.laid w) false (World.laidAll Tryd.prog os Rows.denoteEndsRow.laid) #[.agg #[.int .i64 0, .int .i64 0, .int .u64 0, .int .u64 0, .int .u64 0, .int .u64 0, .slice none 0 0], .string ByteArray.empty, .int .i64 0] 16 (World.laidAll_os _ _ _)
      (World.shaped_of_ZipB (by kernel_rfl) (by kernel_rfl)) (by kernel_rfl) (by kernel_rfl) (by kernel_rfl)
      (by rw [MakeChecks.laidMetH_plain _ _ _ (by kernel_rfl)]; exact laidMet_laidAll _ (by kernel_rfl) (by kernel_rfl))) ?_
  intro W base args ds gs before hval0 hW _ _ _ hL hsh _
  obtain ⟨O, hO, hG⟩ := law_outA hsh (by rw [MakeChecks.laidMetH_plain _ _ _ (by kernel_rfl)] at hL; exact hL) (by kernel_rfl) (by kernel_rfl)
  have hval : ∀ (j : Nat) t v, Tryd.f4.params[j]? = some t → args[j]? = some v → Value.okWide Tryd.prog W .any base t v := hval0
  have hW' := hW
  obtain ⟨p, q, hA0, hV, rfl, hfz, hnd⟩ := hW
  have hA : DataW.TrodAll enc Tryd.prog W 0 (fun _ => true) true Tryd.f4.params.toList args.toList ds p := hA0
  rw [Tryd.params4] at hA hval
  obtain ⟨v0, vs0, d0, ds0, p0, q0, hargs, rfl, rfl, h0, r0⟩ := trodAll_cons hA
  obtain ⟨v1, vs1, d1, ds1, p1, q1, rfl, rfl, rfl, h1, r1⟩ := trodAll_cons r0
  obtain ⟨v2, vs2, d2, ds2, p2, q2, rfl, rfl, rfl, h2, r2⟩ := trodAll_cons r1
  obtain ⟨rfl, rfl, rfl⟩ := trodAll_nil r2
  obtain rfl : args = #[v0, v1, v2] := by cases args; simp_all
  obtain ⟨rfl, rfl⟩ := trodVars_none hV
  have lt0 : ∀ x ∈ p0, x.block < W.heap.size := by obtain ⟨m, hm⟩ := h0; exact DataW.trod_lt m _ _ _ hm
  obtain ⟨a0, g0, w0⟩ := arg_rd (U := Un) (O := O) (t := (.named 3)) tab_ok (by simp [tab]) (hval 0 27 v0 rfl rfl) h0
  have lt1 : ∀ x ∈ p1, x.block < W.heap.size := by obtain ⟨m, hm⟩ := h1; exact DataW.trod_lt m _ _ _ hm
  obtain ⟨a1, g1, w1⟩ := arg_rd (U := Un) (O := O) (t := .str) tab_ok (by simp [tab]) (hval 1 9 v1 rfl rfl) h1
  have lt2 : ∀ x ∈ p2, x.block < W.heap.size := by obtain ⟨m, hm⟩ := h2; exact DataW.trod_lt m _ _ _ hm
  obtain ⟨a2, g2, w2⟩ := arg_rd (U := Un) (O := O) (t := (.int .i64)) tab_ok (by simp [tab]) (hval 2 3 v2 rfl rfl) h2
  clear hA0 hval0
  obtain ⟨k, hk⟩ := denoteEnds_true a0 a1 a2 w0 w1 w2
  refine ((millwrightlaw10_DenoteEnds.ok O hO k a0 a1 a2 true hk).at (w := W) (vs := [v0, v1, v2]) hG ⟨_, _, rfl, g0, ⟨_, _, rfl, g1, ⟨_, _, rfl, g2, rfl⟩⟩⟩).mono fun e W' ⟨he, bel⟩ => ?_
  subst he
  exact ⟨_, rfl, _, _, _, [], _, [], hW', trodAll_mk1 (shut_bool Tryd.underlying4 _), (trodAll_cons_mk (Below.trod laidOut (by kernel_rfl) (of_decide_eq_true (by kernel_rfl)) h0 bel lt0) (trodAll_cons_mk (Below.trod laidOut (by kernel_rfl) (of_decide_eq_true (by kernel_rfl)) h1 bel lt1) (trodAll_cons_mk (Below.trod laidOut (by kernel_rfl) (of_decide_eq_true (by kernel_rfl)) h2 bel lt2) trodAll_mk0))), rfl, bel.frame _, fun h => by cases h⟩
theorem and2 {a b : Bool} (h : a = true) (g : b = true) : (a && b) = true := by rw [h, g]; rfl
theorem cl0 : (Rows.denoteEndsRow.wf (OpenSpec.ofChange Rows.denoteEndsSpec)) = true := by kernel_rfl
theorem cl1 : (laidOutB Tryd.prog) = true := by kernel_rfl
theorem cl2 : (mapsRowed Tryd.prog) = true := by kernel_rfl
theorem cl3 : (Tryd.f4.params.all (Tryd.prog.readableRec ·)) = true := by kernel_rfl
theorem cl4 : (namedTie Tryd.prog Rows.denoteEndsRow.named Rows.denoteEndsSpec.vars) = true := by kernel_rfl
theorem cl5 : ((Rows.denoteEndsRow.stops == [])) = true := by kernel_rfl
theorem cl6 : ((Tryd.prog.stops == [])) = true := by kernel_rfl
theorem cl7 : ((Rows.denoteEndsRow.knobs == [])) = true := by kernel_rfl
theorem cl8 : ((Tryd.prog.stopKnobs == [])) = true := by kernel_rfl
theorem cl9 : ((Rows.denoteEndsRow.inPlace == Tryd.prog.inPlace 4)) = true := by kernel_rfl
theorem cl10 : ((Rows.denoteEndsRow.unfollowed == Tryd.prog.unfollowed 4)) = true := by kernel_rfl
theorem cl11 : ((Rows.denoteEndsRow.recurses == Tryd.prog.recurses 4)) = true := by kernel_rfl
theorem cl12 : ((Rows.denoteEndsRow.named == Tryd.prog.varsNamed 4)) = true := by kernel_rfl
theorem cl13 : ((Rows.denoteEndsRow.maps == (Tryd.f4.params.toList ++ Rows.denoteEndsSpec.plain.varTypes Tryd.prog).any (Tryd.prog.mapsRec ·))) = true := by kernel_rfl
theorem cl14 : ((Rows.denoteEndsRow.ifaces == (Tryd.f4.params.toList ++ Rows.denoteEndsSpec.plain.varTypes Tryd.prog).any (Tryd.prog.ifacesRec ·))) = true := by kernel_rfl
theorem cl15 : ((Rows.denoteEndsRow.mapsOut == Tryd.prog.mapsAmong Tryd.f4.resultTypes.toList)) = true := by kernel_rfl
theorem cl16 : ((Rows.denoteEndsRow.loops == (Tryd.f4.params.toList ++ Rows.denoteEndsSpec.plain.varTypes Tryd.prog).any (Tryd.prog.loopsFrom ·))) = true := by kernel_rfl
theorem cl17 : ((Rows.denoteEndsRow.wideKeys == (Tryd.f4.params.toList ++ Rows.denoteEndsSpec.plain.varTypes Tryd.prog ++ Tryd.f4.resultTypes.toList).any (Tryd.prog.wideKeysFrom ·))) = true := by kernel_rfl
theorem cl18 : (Rows.denoteEndsSpec.vars.all (Tryd.prog.varReadable ·)) = true := by kernel_rfl
theorem cl19 : (Tryd.f4.resultTypes.all (fun t => Tryd.prog.readableRec t && decide (t < Tryd.prog.types.size))) = true := by kernel_rfl
theorem cl20 : ((Rows.denoteEndsRow.ifacesOut == Tryd.f4.resultTypes.toList.any (Tryd.prog.ifacesRec ·))) = true := by kernel_rfl
theorem cl21 : ((Rows.denoteEndsRow.loopsOut == Tryd.f4.resultTypes.toList.any (Tryd.prog.loopsFrom ·))) = true := by kernel_rfl
theorem cl22 : ((Rows.denoteEndsRow.plainKeys == Tryd.prog.plainKeys)) = true := by kernel_rfl
theorem cl23 : (Rows.denoteEndsRow.shortTexts.isNone) = true := by kernel_rfl
theorem cl24 : (Tryd.prog.stopsHeard) = true := by kernel_rfl
theorem cl25 : (Tryd.prog.mayEnter) = true := by kernel_rfl
theorem cl26 : ((Rows.denoteEndsRow.lifted == Tryd.prog.liftsFinal)) = true := by kernel_rfl
theorem cl27 : ((Tryd.prog.make == some Rows.denoteEndsRow.make)) = true := by kernel_rfl
theorem cl28 : ((Rows.denoteEndsRow.kinds == (if Rows.denoteEndsRow.domain.isEmpty then [] else Tryd.f4.params.toList.map fun t => match Tryd.prog.underlying t with | some (.int k) => some k | _ => none))) = true := by kernel_rfl
theorem cl29 : ((Rows.denoteEndsRow.pinned == Rows.denoteEndsRow.pinnedBy)) = true := by kernel_rfl
theorem cl30 : ((Rows.denoteEndsRow.veiled == (Tryd.f4.params.toList ++ Rows.denoteEndsSpec.plain.varTypes Tryd.prog ++ Tryd.f4.resultTypes.toList).any (Tryd.prog.veiledRec ·))) = true := by kernel_rfl
theorem cl31 : (Rows.denoteEndsRow.veiledFits Tryd.prog Tryd.f4.params.toList (Tryd.f4.params.toList ++ Rows.denoteEndsSpec.plain.varTypes Tryd.prog ++ Tryd.f4.resultTypes.toList)) = true := by kernel_rfl
theorem closed : joinedFacts Tryd.prog 4 Tryd.f4 Rows.denoteEndsSpec Rows.denoteEndsRow = true := by
  unfold joinedFacts
  exact and2 (and2 (and2 (and2 (and2 (and2 (and2 (and2 (and2 (and2 (and2 (and2 (and2 (and2 (and2 (and2 (and2 (and2 (and2 (and2 (and2 (and2 (and2 (and2 (and2 (and2 (and2 (and2 (and2 (and2 (and2 (cl0) cl1) cl2) cl3) cl4) cl5) cl6) cl7) cl8) cl9) cl10) cl11) cl12) cl13) cl14) cl15) cl16) cl17) cl18) cl19) cl20) cl21) cl22) cl23) cl24) cl25) cl26) cl27) cl28) cl29) cl30) cl31
theorem over : Rows.DenoteEndsSaid :=
  OpenClaim.holds_of_cond 4 Tryd.f4 rfl rfl rfl rfl rfl rfl rfl ⟨rfl, rfl, rfl, rfl, rfl⟩ rfl rfl rfl rfl rfl (by kernel_rfl) Tryd.func4 closed
    (of_decide_eq_true (by kernel_rfl)) (by unfold Func.isWrapper; first | (rw [if_pos (by decide +kernel)]; kernel_rfl) | (rw [if_neg (by decide +kernel)]; exact ⟨rfl, rfl⟩))
    (fun os started H enc _ F => by rw [OpenClaim.pre_eq_preRow]; exact lifted os started H enc F)
theorem plain (f : FuncId) (fn : Func) (hf : Tryd.pinned.checked.prog.funcNamed Rows.denoteEndsRow.func = some f) (hfn : Tryd.pinned.checked.prog.funcs[f]? = some fn) :
    Rows.denoteEndsCard.stood.looks = Tryd.pinned.checked.prog.looks [] ∧ ∀ (j : Nat) t, fn.params[j]? = some t → Tryd.pinned.checked.prog.wantsStandIn t = false := by
  obtain rfl : f = 4 := Option.some.inj ((show Tryd.prog.funcNamed Rows.denoteEndsRow.func = some 4 by kernel_rfl).symm.trans hf) |>.symm
  obtain rfl : fn = Tryd.f4 := (Option.some.inj (Tryd.func4.symm.trans hfn)).symm
  refine ⟨by kernel_rfl, fun j t ht => ?_⟩
  rw [Tryd.params4] at ht
  have hm : t ∈ [27, 9, 3] := by simpa using Array.mem_of_getElem? ht
  have hall : ([27, 9, 3].all fun u => !Tryd.prog.wantsStandIn u) = true := by kernel_rfl
  exact (show Tryd.prog.wantsStandIn t = false by simpa using List.all_eq_true.1 hall t hm)
theorem card : Rows.DenoteEndsCardSaid :=
  Claim7.holds_tied_plain_at .later [] _ _ _ _ over (fun _ h => by cases h) (by kernel_rfl) (fun _ h => by cases h) denoteEnds_row_tie rfl ⟨rfl, rfl⟩ (by kernel_rfl) rfl plain (by kernel_rfl)
end Go.Proofs.YteddmdkbeednmaaDoor.denoteEnds
namespace Go.Proofs.YteddmdkbeednmaaDoor
theorem denoteEndsHolds : Rows.DenoteEndsCardSaid := denoteEnds.card
#print axioms denoteEndsHolds
end Go.Proofs.YteddmdkbeednmaaDoor
