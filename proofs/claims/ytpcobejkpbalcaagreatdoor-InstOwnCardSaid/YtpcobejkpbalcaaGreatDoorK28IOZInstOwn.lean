/- For every input the law InstOwn returns true, and the input reads as it did: no condition. -/
import Derived.Test.YtpcobejkpbalcaaGreatDoorCards
import Derived.Test.YtpcobejkpbalcaaGreatDoorTie
import Derived.LaidMore
import Derived.Lay
import Derived.SevenTiedAt
import Derived.Stop.Joined
import Derived.Deep.DeepHandedRow
import Derived.WalkKit
import Derived.ProofKit
import Derived.Test.YtpcobejkpbalcaaGreatDoorK28AmM
import Derived.Test.YtpcobejkpbalcaaGreatDoorK28IOC6
import Derived.Test.YtpcobejkpbalcaaGreatDoorK28IOVInstOwn
namespace Go.Proofs.YtpcobejkpbalcaaGreatDoor.instOwn
open Go.ChangeShapes Go.WideShapes Go.ChangeAt Go.RowKit Go.AM
set_option linter.unusedVariables false
set_option maxRecDepth 100000
def tab : TypeId → Option Ty := fun T => if T = 3 then some (.int .i64) else if T = 9 then some .str else if T = 22 then some (.list (.named 3)) else if T = 34 then some (.list .str) else if T = 60 then some (.named 4) else if T = 62 then some (.named 3) else none
theorem tab_ok : TabOk Tryz.prog Un tab := by
  intro T t h
  unfold tab at h
  split at h
  · rename_i e; subst e; cases h
    exact Tryz.underlying3
  split at h
  · rename_i e; subst e; cases h
    exact Tryz.underlying9
  split at h
  · rename_i e; subst e; cases h
    exact ⟨62, Tryz.underlying22, by simp [tab], by kernel_rfl, by decide⟩
  split at h
  · rename_i e; subst e; cases h
    exact ⟨9, Tryz.underlying34, by simp [tab], by kernel_rfl, by decide⟩
  split at h
  · rename_i e; subst e; cases h
    exact ⟨_, Tryz.underlying60, by kernel_rfl, _, _, rfl, rfl, by simp [tab], by kernel_rfl, _, _, rfl, rfl, by simp [tab], by kernel_rfl, rfl⟩
  split at h
  · rename_i e; subst e; cases h
    exact ⟨_, Tryz.underlying62, by kernel_rfl, _, _, rfl, rfl, by simp [tab], by kernel_rfl, _, _, rfl, rfl, by simp [tab], by kernel_rfl, _, _, rfl, rfl, by simp [tab], by kernel_rfl, _, _, rfl, rfl, by simp [tab], by kernel_rfl, _, _, rfl, rfl, by simp [tab], by kernel_rfl, _, _, rfl, rfl, by simp [tab], by kernel_rfl, rfl⟩
  cases h
theorem own : ownKnob Tryz.prog.godebug = none := by kernel_rfl
theorem laidOut : laidOutB Tryz.prog = true := by kernel_rfl
theorem lifted (os : Os) (started : os.Started) (H : Type) (enc : TypeId × Value → H) (F : Stop.Interp) :
    ReturnsInHanded {} Tryz.checked os 3 .any ((OpenSpec.ofChange Rows.instOwnSpec).preRow enc Tryz.prog Tryz.f3 Rows.instOwnRow.domain false Rows.instOwnRow.laid) (((OpenSpec.ofChange Rows.instOwnSpec).at F).post enc Tryz.prog Tryz.f3 false true false false) := by
  refine returnsInHanded_of_row (C := Tryz.checked) (s := OpenSpec.ofChange Rows.instOwnSpec) own started (by kernel_rfl) Tryz.func3
    (ChangeSpec.witness_shaped (enc := enc) (C := Tryz.checked) (os := os) (s := Rows.instOwnSpec) (X := fun w _ => laidMetH Tryz.prog Rows.instOwnRow.laid w) false (World.laidAll Tryz.prog os Rows.instOwnRow.laid) #[.slice none 0 0, .string ByteArray.empty] 16 (World.laidAll_os _ _ _)
      (World.shaped_of_ZipB (by kernel_rfl) (by kernel_rfl)) (by kernel_rfl) (by kernel_rfl) (by kernel_rfl)
      (by rw [MakeChecks.laidMetH_plain _ _ _ (by kernel_rfl)]; exact laidMet_laidAll _ (by kernel_rfl) (by kernel_rfl))) ?_
  intro W base args ds gs before hval0 hW _ _ _ hL hsh _
  obtain ⟨O, hO, hG⟩ := law_outE hsh (by rw [MakeChecks.laidMetH_plain _ _ _ (by kernel_rfl)] at hL; exact hL) (by kernel_rfl) (by kernel_rfl)
  have hval : ∀ (j : Nat) t v, Tryz.f3.params[j]? = some t → args[j]? = some v → Value.okWide Tryz.prog W .any base t v := hval0
  have hW' := hW
  obtain ⟨p, q, hA0, hV, rfl, hfz, hnd⟩ := hW
  have hA : DataW.TrodAll enc Tryz.prog W 0 (fun _ => true) true Tryz.f3.params.toList args.toList ds p := hA0
  rw [Tryz.params3] at hA hval
  obtain ⟨v0, vs0, d0, ds0, p0, q0, hargs, rfl, rfl, h0, r0⟩ := trodAll_cons hA
  obtain ⟨v1, vs1, d1, ds1, p1, q1, rfl, rfl, rfl, h1, r1⟩ := trodAll_cons r0
  obtain ⟨rfl, rfl, rfl⟩ := trodAll_nil r1
  obtain rfl : args = #[v0, v1] := by cases args; simp_all
  obtain ⟨rfl, rfl⟩ := trodVars_none hV
  have lt0 : ∀ x ∈ p0, x.block < W.heap.size := by obtain ⟨m, hm⟩ := h0; exact DataW.trod_lt m _ _ _ hm
  obtain ⟨a0, g0, w0⟩ := arg_rd (U := Un) (O := O) (t := (.list (.named 3))) tab_ok (by simp [tab]) (hval 0 22 v0 rfl rfl) h0
  have lt1 : ∀ x ∈ p1, x.block < W.heap.size := by obtain ⟨m, hm⟩ := h1; exact DataW.trod_lt m _ _ _ hm
  obtain ⟨a1, g1, w1⟩ := arg_rd (U := Un) (O := O) (t := .str) tab_ok (by simp [tab]) (hval 1 9 v1 rfl rfl) h1
  clear hA0 hval0
  obtain ⟨k, hk⟩ := instOwn_true a0 a1 w0 w1
  refine ((millwrightlaw22_InstOwn.ok O hO k a0 a1 true hk).at (w := W) (vs := [v0, v1]) hG ⟨_, _, rfl, g0, ⟨_, _, rfl, g1, rfl⟩⟩).mono fun e W' ⟨he, bel⟩ => ?_
  subst he
  exact ⟨_, rfl, _, _, _, [], _, [], hW', trodAll_mk1 (shut_bool Tryz.underlying4 _), (trodAll_cons_mk (Below.trod laidOut (by kernel_rfl) (of_decide_eq_true (by kernel_rfl)) h0 bel lt0) (trodAll_cons_mk (Below.trod laidOut (by kernel_rfl) (of_decide_eq_true (by kernel_rfl)) h1 bel lt1) trodAll_mk0)), rfl, bel.frame _, fun h => by cases h⟩
theorem and2 {a b : Bool} (h : a = true) (g : b = true) : (a && b) = true := by rw [h, g]; rfl
theorem cl0 : (Rows.instOwnRow.wf (OpenSpec.ofChange Rows.instOwnSpec)) = true := by kernel_rfl
theorem cl1 : (laidOutB Tryz.prog) = true := by kernel_rfl
theorem cl2 : (mapsRowed Tryz.prog) = true := by kernel_rfl
theorem cl3 : (Tryz.f3.params.all (Tryz.prog.readableRec ·)) = true := by kernel_rfl
theorem cl4 : (namedTie Tryz.prog Rows.instOwnRow.named Rows.instOwnSpec.vars) = true := by kernel_rfl
theorem cl5 : ((Rows.instOwnRow.stops == [])) = true := by kernel_rfl
theorem cl6 : ((Tryz.prog.stops == [])) = true := by kernel_rfl
theorem cl7 : ((Rows.instOwnRow.knobs == [])) = true := by kernel_rfl
theorem cl8 : ((Tryz.prog.stopKnobs == [])) = true := by kernel_rfl
theorem cl9 : ((Rows.instOwnRow.inPlace == Tryz.prog.inPlace 3)) = true := by kernel_rfl
theorem cl10 : ((Rows.instOwnRow.unfollowed == Tryz.prog.unfollowed 3)) = true := by kernel_rfl
theorem cl11 : ((Rows.instOwnRow.recurses == Tryz.prog.recurses 3)) = true := by kernel_rfl
theorem cl12 : ((Rows.instOwnRow.named == Tryz.prog.varsNamed 3)) = true := by kernel_rfl
theorem cl13 : ((Rows.instOwnRow.maps == (Tryz.f3.params.toList ++ Rows.instOwnSpec.plain.varTypes Tryz.prog).any (Tryz.prog.mapsRec ·))) = true := by kernel_rfl
theorem cl14 : ((Rows.instOwnRow.ifaces == (Tryz.f3.params.toList ++ Rows.instOwnSpec.plain.varTypes Tryz.prog).any (Tryz.prog.ifacesRec ·))) = true := by kernel_rfl
theorem cl15 : ((Rows.instOwnRow.mapsOut == Tryz.prog.mapsAmong Tryz.f3.resultTypes.toList)) = true := by kernel_rfl
theorem cl16 : ((Rows.instOwnRow.loops == (Tryz.f3.params.toList ++ Rows.instOwnSpec.plain.varTypes Tryz.prog).any (Tryz.prog.loopsFrom ·))) = true := by kernel_rfl
theorem cl17 : ((Rows.instOwnRow.wideKeys == (Tryz.f3.params.toList ++ Rows.instOwnSpec.plain.varTypes Tryz.prog ++ Tryz.f3.resultTypes.toList).any (Tryz.prog.wideKeysFrom ·))) = true := by kernel_rfl
theorem cl18 : (Rows.instOwnSpec.vars.all (Tryz.prog.varReadable ·)) = true := by kernel_rfl
theorem cl19 : (Tryz.f3.resultTypes.all (fun t => Tryz.prog.readableRec t && decide (t < Tryz.prog.types.size))) = true := by kernel_rfl
theorem cl20 : ((Rows.instOwnRow.ifacesOut == Tryz.f3.resultTypes.toList.any (Tryz.prog.ifacesRec ·))) = true := by kernel_rfl
theorem cl21 : ((Rows.instOwnRow.loopsOut == Tryz.f3.resultTypes.toList.any (Tryz.prog.loopsFrom ·))) = true := by kernel_rfl
theorem cl22 : ((Rows.instOwnRow.plainKeys == Tryz.prog.plainKeys)) = true := by kernel_rfl
theorem cl23 : (Rows.instOwnRow.shortTexts.isNone) = true := by kernel_rfl
theorem cl24 : (Tryz.prog.stopsHeard) = true := by kernel_rfl
theorem cl25 : (Tryz.prog.mayEnter) = true := by kernel_rfl
theorem cl26 : ((Rows.instOwnRow.lifted == Tryz.prog.liftsFinal)) = true := by kernel_rfl
theorem cl27 : ((Tryz.prog.make == some Rows.instOwnRow.make)) = true := by kernel_rfl
theorem cl28 : ((Rows.instOwnRow.kinds == (if Rows.instOwnRow.domain.isEmpty then [] else Tryz.f3.params.toList.map fun t => match Tryz.prog.underlying t with | some (.int k) => some k | _ => none))) = true := by kernel_rfl
theorem cl29 : ((Rows.instOwnRow.pinned == Rows.instOwnRow.pinnedBy)) = true := by kernel_rfl
theorem cl30 : ((Rows.instOwnRow.veiled == (Tryz.f3.params.toList ++ Rows.instOwnSpec.plain.varTypes Tryz.prog ++ Tryz.f3.resultTypes.toList).any (Tryz.prog.veiledRec ·))) = true := by kernel_rfl
theorem cl31 : (Rows.instOwnRow.veiledFits Tryz.prog Tryz.f3.params.toList (Tryz.f3.params.toList ++ Rows.instOwnSpec.plain.varTypes Tryz.prog ++ Tryz.f3.resultTypes.toList)) = true := by kernel_rfl
theorem closed : joinedFacts Tryz.prog 3 Tryz.f3 Rows.instOwnSpec Rows.instOwnRow = true := by
  unfold joinedFacts
  exact and2 (and2 (and2 (and2 (and2 (and2 (and2 (and2 (and2 (and2 (and2 (and2 (and2 (and2 (and2 (and2 (and2 (and2 (and2 (and2 (and2 (and2 (and2 (and2 (and2 (and2 (and2 (and2 (and2 (and2 (and2 (cl0) cl1) cl2) cl3) cl4) cl5) cl6) cl7) cl8) cl9) cl10) cl11) cl12) cl13) cl14) cl15) cl16) cl17) cl18) cl19) cl20) cl21) cl22) cl23) cl24) cl25) cl26) cl27) cl28) cl29) cl30) cl31
theorem over : Rows.InstOwnSaid :=
  OpenClaim.holds_of_cond 3 Tryz.f3 rfl rfl rfl rfl rfl rfl rfl ⟨rfl, rfl, rfl, rfl, rfl⟩ rfl rfl rfl rfl rfl (by kernel_rfl) Tryz.func3 closed
    (of_decide_eq_true (by kernel_rfl)) (by unfold Func.isWrapper; first | (rw [if_pos (by decide +kernel)]; kernel_rfl) | (rw [if_neg (by decide +kernel)]; exact ⟨rfl, rfl⟩))
    (fun os started H enc _ F => by rw [OpenClaim.pre_eq_preRow]; exact lifted os started H enc F)
theorem plain (f : FuncId) (fn : Func) (hf : Tryz.pinned.checked.prog.funcNamed Rows.instOwnRow.func = some f) (hfn : Tryz.pinned.checked.prog.funcs[f]? = some fn) :
    Rows.instOwnCard.stood.looks = Tryz.pinned.checked.prog.looks [] ∧ ∀ (j : Nat) t, fn.params[j]? = some t → Tryz.pinned.checked.prog.wantsStandIn t = false := by
  obtain rfl : f = 3 := Option.some.inj ((show Tryz.prog.funcNamed Rows.instOwnRow.func = some 3 by kernel_rfl).symm.trans hf) |>.symm
  obtain rfl : fn = Tryz.f3 := (Option.some.inj (Tryz.func3.symm.trans hfn)).symm
  refine ⟨by kernel_rfl, fun j t ht => ?_⟩
  rw [Tryz.params3] at ht
  have hm : t ∈ [22, 9] := by simpa using Array.mem_of_getElem? ht
  have hall : ([22, 9].all fun u => !Tryz.prog.wantsStandIn u) = true := by kernel_rfl
  exact (show Tryz.prog.wantsStandIn t = false by simpa using List.all_eq_true.1 hall t hm)
theorem card : Rows.InstOwnCardSaid :=
  Claim7.holds_tied_plain_at .later [] _ _ _ _ over (fun _ h => by cases h) (by kernel_rfl) (fun _ h => by cases h) instOwn_row_tie rfl ⟨rfl, rfl⟩ (by kernel_rfl) rfl plain (by kernel_rfl)
end Go.Proofs.YtpcobejkpbalcaaGreatDoor.instOwn
namespace Go.Proofs.YtpcobejkpbalcaaGreatDoor
theorem instOwnHolds : Rows.InstOwnCardSaid := instOwn.card
#print axioms instOwnHolds
end Go.Proofs.YtpcobejkpbalcaaGreatDoor
