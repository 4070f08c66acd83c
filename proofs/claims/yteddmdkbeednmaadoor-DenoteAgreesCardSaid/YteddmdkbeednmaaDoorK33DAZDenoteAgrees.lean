/- For every input the law DenoteAgrees returns true, and the input reads as it did: no condition. -/
import Derived.Test.YteddmdkbeednmaaDoorCards
import Derived.Test.YteddmdkbeednmaaDoorTie
import Derived.LaidMore
import Derived.Lay
import Derived.SevenTiedAt
import Derived.Stop.Joined
import Derived.Deep.DeepHandedRow
import Derived.WalkKit
import Derived.ProofKit
import Derived.Test.YteddmdkbeednmaaDoorK33AmM
import Derived.Test.YteddmdkbeednmaaDoorK33DAC4
import Derived.Test.YteddmdkbeednmaaDoorK33DAVDenoteAgrees
namespace Go.Proofs.YteddmdkbeednmaaDoor.denoteAgrees
open Go.ChangeShapes Go.WideShapes Go.ChangeAt Go.RowKit Go.AM
set_option linter.unusedVariables false
set_option maxRecDepth 100000
def tab : TypeId → Option Ty := fun T => if T = 9 then some .str else none
theorem tab_ok : TabOk Tryd.prog Un tab := by
  intro T t h
  unfold tab at h
  split at h
  · rename_i e; subst e; cases h
    exact Tryd.underlying9
  cases h
theorem own : ownKnob Tryd.prog.godebug = none := by kernel_rfl
theorem laidOut : laidOutB Tryd.prog = true := by kernel_rfl
theorem lifted (os : Os) (started : os.Started) (H : Type) (enc : TypeId × Value → H) (F : Stop.Interp) :
    ReturnsInHanded {} Tryd.checked os 6 .any ((OpenSpec.ofChange Rows.denoteAgreesSpec).preRow enc Tryd.prog Tryd.f6 Rows.denoteAgreesRow.domain false Rows.denoteAgreesRow.laid) (((OpenSpec.ofChange Rows.denoteAgreesSpec).at F).post enc Tryd.prog Tryd.f6 false true false false) := by
  refine returnsInHanded_of_row (C := Tryd.checked) (s := OpenSpec.ofChange Rows.denoteAgreesSpec) own started (by kernel_rfl) Tryd.func6
    (ChangeSpec.witness_shaped (enc := enc) (C := Tryd.checked) (os := os) (s := Rows.denoteAgreesSpec) (X := fun w _ => laidMetH Tryd.prog Rows.denoteAgreesRow.laid w) false (World.laidAll Tryd.prog os Rows.denoteAgreesRow.laid) #[.string ByteArray.empty, .string ByteArray.empty] 16 (World.laidAll_os _ _ _)
      (World.shaped_of_ZipB (by kernel_rfl) (by kernel_rfl)) (by kernel_rfl) (by kernel_rfl) (by kernel_rfl)
      (by rw [MakeChecks.laidMetH_plain _ _ _ (by kernel_rfl)]; exact laidMet_laidAll _ (by kernel_rfl) (by kernel_rfl))) ?_
  intro W base args ds gs before hval0 hW _ _ _ hL hsh _
  obtain ⟨O, hO, hG⟩ := law_outE hsh (by rw [MakeChecks.laidMetH_plain _ _ _ (by kernel_rfl)] at hL; exact hL) (by kernel_rfl) (by kernel_rfl)
  have hval : ∀ (j : Nat) t v, Tryd.f6.params[j]? = some t → args[j]? = some v → Value.okWide Tryd.prog W .any base t v := hval0
  have hW' := hW
  obtain ⟨p, q, hA0, hV, rfl, hfz, hnd⟩ := hW
  have hA : DataW.TrodAll enc Tryd.prog W 0 (fun _ => true) true Tryd.f6.params.toList args.toList ds p := hA0
  rw [Tryd.params6] at hA hval
  obtain ⟨v0, vs0, d0, ds0, p0, q0, hargs, rfl, rfl, h0, r0⟩ := trodAll_cons hA
  obtain ⟨v1, vs1, d1, ds1, p1, q1, rfl, rfl, rfl, h1, r1⟩ := trodAll_cons r0
  obtain ⟨rfl, rfl, rfl⟩ := trodAll_nil r1
  obtain rfl : args = #[v0, v1] := by cases args; simp_all
  obtain ⟨rfl, rfl⟩ := trodVars_none hV
  have lt0 : ∀ x ∈ p0, x.block < W.heap.size := by obtain ⟨m, hm⟩ := h0; exact DataW.trod_lt m _ _ _ hm
  obtain ⟨a0, g0, w0⟩ := arg_rd (U := Un) (O := O) (t := .str) tab_ok (by simp [tab]) (hval 0 9 v0 rfl rfl) h0
  have lt1 : ∀ x ∈ p1, x.block < W.heap.size := by obtain ⟨m, hm⟩ := h1; exact DataW.trod_lt m _ _ _ hm
  obtain ⟨a1, g1, w1⟩ := arg_rd (U := Un) (O := O) (t := .str) tab_ok (by simp [tab]) (hval 1 9 v1 rfl rfl) h1
  clear hA0 hval0
  obtain ⟨k, hk⟩ := denoteAgrees_true a0 a1 w0 w1
  refine ((millwrightlaw10_DenoteAgrees.ok O hO k a0 a1 true hk).at (w := W) (vs := [v0, v1]) hG ⟨_, _, rfl, g0, ⟨_, _, rfl, g1, rfl⟩⟩).mono fun e W' ⟨he, bel⟩ => ?_
  subst he
  exact ⟨_, rfl, _, _, _, [], _, [], hW', trodAll_mk1 (shut_bool Tryd.underlying4 _), (trodAll_cons_mk (Below.trod laidOut (by kernel_rfl) (of_decide_eq_true (by kernel_rfl)) h0 bel lt0) (trodAll_cons_mk (Below.trod laidOut (by kernel_rfl) (of_decide_eq_true (by kernel_rfl)) h1 bel lt1) trodAll_mk0)), rfl, bel.frame _, fun h => by cases h⟩
theorem and2 {a b : Bool} (h : a = true) (g : b = true) : (a && b) = true := by rw [h, g]; rfl
theorem cl0 : (Rows.denoteAgreesRow.wf (OpenSpec.ofChange Rows.denoteAgreesSpec)) = true := by kernel_rfl
theorem cl1 : (laidOutB Tryd.prog) = true := by kernel_rfl
theorem cl2 : (mapsRowed Tryd.prog) = true := by kernel_rfl
theorem cl3 : (Tryd.f6.params.all (Tryd.prog.readableRec ·)) = true := by kernel_rfl
theorem cl4 : (namedTie Tryd.prog Rows.denoteAgreesRow.named Rows.denoteAgreesSpec.vars) = true := by kernel_rfl
theorem cl5 : ((Rows.denoteAgreesRow.stops == [])) = true := by kernel_rfl
theorem cl6 : ((Tryd.prog.stops == [])) = true := by kernel_rfl
theorem cl7 : ((Rows.denoteAgreesRow.knobs == [])) = true := by kernel_rfl
theorem cl8 : ((Tryd.prog.stopKnobs == [])) = true := by kernel_rfl
theorem cl9 : ((Rows.denoteAgreesRow.inPlace == Tryd.prog.inPlace 6)) = true := by kernel_rfl
theorem cl10 : ((Rows.denoteAgreesRow.unfollowed == Tryd.prog.unfollowed 6)) = true := by kernel_rfl
theorem cl11 : ((Rows.denoteAgreesRow.recurses == Tryd.prog.recurses 6)) = true := by kernel_rfl
theorem cl12 : ((Rows.denoteAgreesRow.named == Tryd.prog.varsNamed 6)) = true := by kernel_rfl
theorem cl13 : ((Rows.denoteAgreesRow.maps == (Tryd.f6.params.toList ++ Rows.denoteAgreesSpec.plain.varTypes Tryd.prog).any (Tryd.prog.mapsRec ·))) = true := by kernel_rfl
theorem cl14 : ((Rows.denoteAgreesRow.ifaces == (Tryd.f6.params.toList ++ Rows.denoteAgreesSpec.plain.varTypes Tryd.prog).any (Tryd.prog.ifacesRec ·))) = true := by kernel_rfl
theorem cl15 : ((Rows.denoteAgreesRow.mapsOut == Tryd.prog.mapsAmong Tryd.f6.resultTypes.toList)) = true := by kernel_rfl
theorem cl16 : ((Rows.denoteAgreesRow.loops == (Tryd.f6.params.toList ++ Rows.denoteAgreesSpec.plain.varTypes Tryd.prog).any (Tryd.prog.loopsFrom ·))) = true := by kernel_rfl
theorem cl17 : ((Rows.denoteAgreesRow.wideKeys == (Tryd.f6.params.toList ++ Rows.denoteAgreesSpec.plain.varTypes Tryd.prog ++ Tryd.f6.resultTypes.toList).any (Tryd.prog.wideKeysFrom ·))) = true := by kernel_rfl
theorem cl18 : (Rows.denoteAgreesSpec.vars.all (Tryd.prog.varReadable ·)) = true := by kernel_rfl
theorem cl19 : (Tryd.f6.resultTypes.all (fun t => Tryd.prog.readableRec t && decide (t < Tryd.prog.types.size))) = true := by kernel_rfl
theorem cl20 : ((Rows.denoteAgreesRow.ifacesOut == Tryd.f6.resultTypes.toList.any (Tryd.prog.ifacesRec ·))) = true := by kernel_rfl
theorem cl21 : ((Rows.denoteAgreesRow.loopsOut == Tryd.f6.resultTypes.toList.any (Tryd.prog.loopsFrom ·))) = true := by kernel_rfl
theorem cl22 : ((Rows.denoteAgreesRow.plainKeys == Tryd.prog.plainKeys)) = true := by kernel_rfl
theorem cl23 : (Rows.denoteAgreesRow.shortTexts.isNone) = true := by kernel_rfl
theorem cl24 : (Tryd.prog.stopsHeard) = true := by kernel_rfl
theorem cl25 : (Tryd.prog.mayEnter) = true := by kernel_rfl
theorem cl26 : ((Rows.denoteAgreesRow.lifted == Tryd.prog.liftsFinal)) = true := by kernel_rfl
theorem cl27 : ((Tryd.prog.make == some Rows.denoteAgreesRow.make)) = true := by kernel_rfl
theorem cl28 : ((Rows.denoteAgreesRow.kinds == (if Rows.denoteAgreesRow.domain.isEmpty then [] else Tryd.f6.params.toList.map fun t => match Tryd.prog.underlying t with | some (.int k) => some k | _ => none))) = true := by kernel_rfl
theorem cl29 : ((Rows.denoteAgreesRow.pinned == Rows.denoteAgreesRow.pinnedBy)) = true := by kernel_rfl
theorem cl30 : ((Rows.denoteAgreesRow.veiled == (Tryd.f6.params.toList ++ Rows.denoteAgreesSpec.plain.varTypes Tryd.prog ++ Tryd.f6.resultTypes.toList).any (Tryd.prog.veiledRec ·))) = true := by kernel_rfl
theorem cl31 : (Rows.denoteAgreesRow.veiledFits Tryd.prog Tryd.f6.params.toList (Tryd.f6.params.toList ++ Rows.denoteAgreesSpec.plain.varTypes Tryd.prog ++ Tryd.f6.resultTypes.toList)) = true := by kernel_rfl
theorem closed : joinedFacts Tryd.prog 6 Tryd.f6 Rows.denoteAgreesSpec Rows.denoteAgreesRow = true := by
  unfold joinedFacts
  exact and2 (and2 (and2 (and2 (and2 (and2 (and2 (and2 (and2 (and2 (and2 (and2 (and2 (and2 (and2 (and2 (and2 (and2 (and2 (and2 (and2 (and2 (and2 (and2 (and2 (and2 (and2 (and2 (and2 (and2 (and2 (cl0) cl1) cl2) cl3) cl4) cl5) cl6) cl7) cl8) cl9) cl10) cl11) cl12) cl13) cl14) cl15) cl16) cl17) cl18) cl19) cl20) cl21) cl22) cl23) cl24) cl25) cl26) cl27) cl28) cl29) cl30) cl31
theorem over : Rows.DenoteAgreesSaid :=
  OpenClaim.holds_of_cond 6 Tryd.f6 rfl rfl rfl rfl rfl rfl rfl ⟨rfl, rfl, rfl, rfl, rfl⟩ rfl rfl rfl rfl rfl (by kernel_rfl) Tryd.func6 closed
    (of_decide_eq_true (by kernel_rfl)) (by unfold Func.isWrapper; first | (rw [if_pos (by decide +kernel)]; kernel_rfl) | (rw [if_neg (by decide +kernel)]; exact ⟨rfl, rfl⟩))
    (fun os started H enc _ F => by rw [OpenClaim.pre_eq_preRow]; exact lifted os started H enc F)
theorem plain (f : FuncId) (fn : Func) (hf : Tryd.pinned.checked.prog.funcNamed Rows.denoteAgreesRow.func = some f) (hfn : Tryd.pinned.checked.prog.funcs[f]? = some fn) :
    Rows.denoteAgreesCard.stood.looks = Tryd.pinned.checked.prog.looks [] ∧ ∀ (j : Nat) t, fn.params[j]? = some t → Tryd.pinned.checked.prog.wantsStandIn t = false := by
  obtain rfl : f = 6 := Option.some.inj ((show Tryd.prog.funcNamed Rows.denoteAgreesRow.func = some 6 by kernel_rfl).symm.trans hf) |>.symm
  obtain rfl : fn = Tryd.f6 := (Option.some.inj (Tryd.func6.symm.trans hfn)).symm
  refine ⟨by kernel_rfl, fun j t ht => ?_⟩
  rw [Tryd.params6] at ht
  have hm : t ∈ [9, 9] := by simpa using Array.mem_of_getElem? ht
  have hall : ([9, 9].all fun u => !Tryd.prog.wantsStandIn u) = true := by kernel_rfl
  exact (show Tryd.prog.wantsStandIn t = false by simpa using List.all_eq_true.1 hall t hm)
theorem card : Rows.DenoteAgreesCardSaid :=
  Claim7.holds_tied_plain_at .later [] _ _ _ _ over (fun _ h => by cases h) (by kernel_rfl) (fun _ h => by cases h) denoteAgrees_row_tie rfl ⟨rfl, rfl⟩ (by kernel_rfl) rfl plain (by kernel_rfl)
end Go.Proofs.YteddmdkbeednmaaDoor.denoteAgrees
namespace Go.Proofs.YteddmdkbeednmaaDoor
theorem denoteAgreesHolds : Rows.DenoteAgreesCardSaid := denoteAgrees.card
#print axioms denoteAgreesHolds
end Go.Proofs.YteddmdkbeednmaaDoor
