/- For every input the law FlagsBack returns true, and the input reads as it did: no condition. -/
import Derived.Test.YtcijochjfncefaaGreatDoorCards
import Derived.Test.YtcijochjfncefaaGreatDoorTie
import Derived.LaidMore
import Derived.Lay
import Derived.SevenTiedAt
import Derived.Stop.Joined
import Derived.Deep.DeepHandedRow
import Derived.WalkKit
import Derived.ProofKit
import Derived.Test.YtcijochjfncefaaGreatDoorK44Am2
import Derived.Test.YtcijochjfncefaaGreatDoorK44Am4
import Derived.Test.YtcijochjfncefaaGreatDoorK44FBC3
import Derived.Test.YtcijochjfncefaaGreatDoorK44FBVFlagsBack
namespace Go.Proofs.YtcijochjfncefaaGreatDoor.flagsBack
open Go.ChangeShapes Go.WideShapes Go.ChangeAt Go.RowKit Go.AM
set_option linter.unusedVariables false
set_option maxRecDepth 100000
def tab : TypeId → Option Ty := fun T => if T = 3 then some (.int .i64) else if T = 4 then some .bool else if T = 9 then some .str else if T = 22 then some (.list .str) else if T = 26 then some (.list (.named 3)) else if T = 28 then some (.named 4) else if T = 72 then some (.named 3) else none
theorem tab_ok : TabOk Tryz.prog Un tab := by
  intro T t h
  unfold tab at h
  split at h
  · rename_i e; subst e; cases h
    exact Tryz.underlying3
  split at h
  · rename_i e; subst e; cases h
    exact Tryz.underlying4
  split at h
  · rename_i e; subst e; cases h
    exact Tryz.underlying9
  split at h
  · rename_i e; subst e; cases h
    exact ⟨9, Tryz.underlying22, by simp [tab], by kernel_rfl, by decide⟩
  split at h
  · rename_i e; subst e; cases h
    exact ⟨72, Tryz.underlying26, by simp [tab], by kernel_rfl, by decide⟩
  split at h
  · rename_i e; subst e; cases h
    exact ⟨_, Tryz.underlying28, by kernel_rfl, _, _, rfl, rfl, by simp [tab], by kernel_rfl, _, _, rfl, rfl, by simp [tab], by kernel_rfl, _, _, rfl, rfl, by simp [tab], by kernel_rfl, _, _, rfl, rfl, by simp [tab], by kernel_rfl, _, _, rfl, rfl, by simp [tab], by kernel_rfl, _, _, rfl, rfl, by simp [tab], by kernel_rfl, _, _, rfl, rfl, by simp [tab], by kernel_rfl, _, _, rfl, rfl, by simp [tab], by kernel_rfl, _, _, rfl, rfl, by simp [tab], by kernel_rfl, _, _, rfl, rfl, by simp [tab], by kernel_rfl, _, _, rfl, rfl, by simp [tab], by kernel_rfl, rfl⟩
  split at h
  · rename_i e; subst e; cases h
    exact ⟨_, Tryz.underlying72, by kernel_rfl, _, _, rfl, rfl, by simp [tab], by kernel_rfl, _, _, rfl, rfl, by simp [tab], by kernel_rfl, _, _, rfl, rfl, by simp [tab], by kernel_rfl, _, _, rfl, rfl, by simp [tab], by kernel_rfl, rfl⟩
  cases h
theorem own : ownKnob Tryz.prog.godebug = none := by kernel_rfl
theorem laidOut : laidOutB Tryz.prog = true := by kernel_rfl
theorem lifted (os : Os) (started : os.Started) (H : Type) (enc : TypeId × Value → H) (F : Stop.Interp) :
    ReturnsInHanded {} Tryz.checked os 4 .any ((OpenSpec.ofChange Rows.flagsBackSpec).preRow enc Tryz.prog Tryz.f4 Rows.flagsBackRow.domain false Rows.flagsBackRow.laid) (((OpenSpec.ofChange Rows.flagsBackSpec).at F).post enc Tryz.prog Tryz.f4 false true false false) := by
  refine returnsInHanded_of_row (C := Tryz.checked) (s := OpenSpec.ofChange Rows.flagsBackSpec) own started (by kernel_rfl) Tryz.func4
    (ChangeSpec.witness_shaped (enc := enc) (C := Tryz.checked) (os := os) (s := Rows.flagsBackSpec) (X := fun w _ => laidMetH Tryz.prog Rows.flagsBackRow.laid w) false (World.laidAll Tryz.prog os Rows.flagsBackRow.laid) #[.agg #[.bool false, .bool false, .bool false, .bool false, .bool false, .bool false, .slice none 0 0, .slice none 0 0, .string ByteArray.empty, .int .i64 0, .slice none 0 0], .slice none 0 0] 16 (World.laidAll_os _ _ _)
      (World.shaped_of_ZipB (by kernel_rfl) (by kernel_rfl)) (by kernel_rfl) (by kernel_rfl) (by kernel_rfl)
      (by rw [MakeChecks.laidMetH_plain _ _ _ (by kernel_rfl)]; exact laidMet_laidAll _ (by kernel_rfl) (by kernel_rfl))) ?_
  intro W base args ds gs before hval0 hW _ _ hcw hL hsh _
  obtain ⟨O, hO, hG⟩ := law_out hsh (by rw [MakeChecks.laidMetH_plain _ _ _ (by kernel_rfl)] at hL; exact hL) (by kernel_rfl) (by kernel_rfl) (by kernel_rfl) (by kernel_rfl)
  have hval : ∀ (j : Nat) t v, Tryz.f4.params[j]? = some t → args[j]? = some v → Value.okWide Tryz.prog W .any base t v := hval0
  have hW' := hW
  obtain ⟨p, q, hA0, hV, rfl, hfz, hnd⟩ := hW
  have hA : DataW.TrodAll enc Tryz.prog W 0 (fun _ => true) true Tryz.f4.params.toList args.toList ds p := hA0
  rw [Tryz.params4] at hA hval
  obtain ⟨v0, vs0, d0, ds0, p0, q0, hargs, rfl, rfl, h0, r0⟩ := trodAll_cons hA
  obtain ⟨v1, vs1, d1, ds1, p1, q1, rfl, rfl, rfl, h1, r1⟩ := trodAll_cons r0
  obtain ⟨rfl, rfl, rfl⟩ := trodAll_nil r1
  obtain rfl : args = #[v0, v1] := by cases args; simp_all
  obtain ⟨rfl, rfl⟩ := trodVars_none hV
  have lt0 : ∀ x ∈ p0, x.block < W.heap.size := by obtain ⟨m, hm⟩ := h0; exact DataW.trod_lt m _ _ _ hm
  obtain ⟨a0, g0, w0⟩ := arg_rd (U := Un) (O := O) (t := (.named 4)) tab_ok (by simp [tab]) (hval 0 28 v0 rfl rfl) h0
  have lt1 : ∀ x ∈ p1, x.block < W.heap.size := by obtain ⟨m, hm⟩ := h1; exact DataW.trod_lt m _ _ _ hm
  obtain ⟨a1, g1, w1⟩ := arg_rd (U := Un) (O := O) (t := (.list .str)) tab_ok (by simp [tab]) (hval 1 22 v1 rfl rfl) h1
  have hwl0 : a0.f_Vars.length * 56 ≤ reachBytes := by
    obtain ⟨m, hm⟩ := h0
    obtain ⟨cs, hr, rfl⟩ := g0
    rw [hr.cells] at hm
    have r := (Rd.pairD (Rd.pairD (Rd.pairD (Rd.pairD (Rd.pairD (Rd.pairD (Rd.pairD (Rd.pairD (Rd.pairD (Rd.pairD (Rd.pairD hr.namedD).2).2).2).2).2).2).2).2).2).2).1
    have hx := r
    simp only [List.drop_drop, Ty.width] at hx
    have hb : Tryz.prog.bytesOf 72 = 56 := by kernel_rfl
    have := field_weight (U := Un) (O := O) (q := 10) (i := 0) (off := 10) (c := 1) Tryz.underlying28 rfl rfl rfl (by kernel_rfl) Tryz.underlying26 hm hx hcw (by kernel_rfl) rfl
    rw [hb] at this
    exact this
  clear hA0 hval0
  obtain ⟨k, hk⟩ := flagsBack_true a0 a1 w0 w1 hwl0
  refine ((W31_FlagsBack.ok O hO k a0 a1 true hk).at (w := W) (vs := [v0, v1]) hG ⟨_, _, rfl, g0, ⟨_, _, rfl, g1, rfl⟩⟩).mono fun e W' ⟨he, bel⟩ => ?_
  subst he
  exact ⟨_, rfl, _, _, _, [], _, [], hW', trodAll_mk1 (shut_bool Tryz.underlying4 _), (trodAll_cons_mk (Below.trod laidOut (by kernel_rfl) (of_decide_eq_true (by kernel_rfl)) h0 bel lt0) (trodAll_cons_mk (Below.trod laidOut (by kernel_rfl) (of_decide_eq_true (by kernel_rfl)) h1 bel lt1) trodAll_mk0)), rfl, bel.frame _, fun h => by cases h⟩
theorem and2 {a b : Bool} (h : a = true) (g : b = true) : (a && b) = true := by rw [h, g]; rfl
theorem cl0 : (Rows.flagsBackRow.wf (OpenSpec.ofChange Rows.flagsBackSpec)) = true := by kernel_rfl
theorem cl1 : (laidOutB Tryz.prog) = true := by kernel_rfl
theorem cl2 : (mapsRowed Tryz.prog) = true := by kernel_rfl
theorem cl3 : (Tryz.f4.params.all (Tryz.prog.readableRec ·)) = true := by kernel_rfl
theorem cl4 : (namedTie Tryz.prog Rows.flagsBackRow.named Rows.flagsBackSpec.vars) = true := by kernel_rfl
theorem cl5 : ((Rows.flagsBackRow.stops == [])) = true := by kernel_rfl
theorem cl6 : ((Tryz.prog.stops == [])) = true := by kernel_rfl
theorem cl7 : ((Rows.flagsBackRow.knobs == [])) = true := by kernel_rfl
theorem cl8 : ((Tryz.prog.stopKnobs == [])) = true := by kernel_rfl
theorem cl9 : ((Rows.flagsBackRow.inPlace == Tryz.prog.inPlace 4)) = true := by kernel_rfl
theorem cl10 : ((Rows.flagsBackRow.unfollowed == Tryz.prog.unfollowed 4)) = true := by kernel_rfl
theorem cl11 : ((Rows.flagsBackRow.recurses == Tryz.prog.recurses 4)) = true := by kernel_rfl
theorem cl12 : ((Rows.flagsBackRow.named == Tryz.prog.varsNamed 4)) = true := by kernel_rfl
theorem cl13 : ((Rows.flagsBackRow.maps == (Tryz.f4.params.toList ++ Rows.flagsBackSpec.plain.varTypes Tryz.prog).any (Tryz.prog.mapsRec ·))) = true := by kernel_rfl
theorem cl14 : ((Rows.flagsBackRow.ifaces == (Tryz.f4.params.toList ++ Rows.flagsBackSpec.plain.varTypes Tryz.prog).any (Tryz.prog.ifacesRec ·))) = true := by kernel_rfl
theorem cl15 : ((Rows.flagsBackRow.mapsOut == Tryz.prog.mapsAmong Tryz.f4.resultTypes.toList)) = true := by kernel_rfl
theorem cl16 : ((Rows.flagsBackRow.loops == (Tryz.f4.params.toList ++ Rows.flagsBackSpec.plain.varTypes Tryz.prog).any (Tryz.prog.loopsFrom ·))) = true := by kernel_rfl
theorem cl17 : ((Rows.flagsBackRow.wideKeys == (Tryz.f4.params.toList ++ Rows.flagsBackSpec.plain.varTypes Tryz.prog ++ Tryz.f4.resultTypes.toList).any (Tryz.prog.wideKeysFrom ·))) = true := by kernel_rfl
theorem cl18 : (Rows.flagsBackSpec.vars.all (Tryz.prog.varReadable ·)) = true := by kernel_rfl
theorem cl19 : (Tryz.f4.resultTypes.all (fun t => Tryz.prog.readableRec t && decide (t < Tryz.prog.types.size))) = true := by kernel_rfl
theorem cl20 : ((Rows.flagsBackRow.ifacesOut == Tryz.f4.resultTypes.toList.any (Tryz.prog.ifacesRec ·))) = true := by kernel_rfl
theorem cl21 : ((Rows.flagsBackRow.loopsOut == Tryz.f4.resultTypes.toList.any (Tryz.prog.loopsFrom ·))) = true := by kernel_rfl
theorem cl22 : ((Rows.flagsBackRow.plainKeys == Tryz.prog.plainKeys)) = true := by kernel_rfl
theorem cl23 : (Rows.flagsBackRow.shortTexts.isNone) = true := by kernel_rfl
theorem cl24 : (Tryz.prog.stopsHeard) = true := by kernel_rfl
theorem cl25 : (Tryz.prog.mayEnter) = true := by kernel_rfl
theorem cl26 : ((Rows.flagsBackRow.lifted == Tryz.prog.liftsFinal)) = true := by kernel_rfl
theorem cl27 : ((Tryz.prog.make == some Rows.flagsBackRow.make)) = true := by kernel_rfl
theorem cl28 : ((Rows.flagsBackRow.kinds == (if Rows.flagsBackRow.domain.isEmpty then [] else Tryz.f4.params.toList.map fun t => match Tryz.prog.underlying t with | some (.int k) => some k | _ => none))) = true := by kernel_rfl
theorem cl29 : ((Rows.flagsBackRow.pinned == Rows.flagsBackRow.pinnedBy)) = true := by kernel_rfl
theorem cl30 : ((Rows.flagsBackRow.veiled == (Tryz.f4.params.toList ++ Rows.flagsBackSpec.plain.varTypes Tryz.prog ++ Tryz.f4.resultTypes.toList).any (Tryz.prog.veiledRec ·))) = true := by kernel_rfl
theorem cl31 : (Rows.flagsBackRow.veiledFits Tryz.prog Tryz.f4.params.toList (Tryz.f4.params.toList ++ Rows.flagsBackSpec.plain.varTypes Tryz.prog ++ Tryz.f4.resultTypes.toList)) = true := by kernel_rfl
theorem closed : joinedFacts Tryz.prog 4 Tryz.f4 Rows.flagsBackSpec Rows.flagsBackRow = true := by
  unfold joinedFacts
  exact and2 (and2 (and2 (and2 (and2 (and2 (and2 (and2 (and2 (and2 (and2 (and2 (and2 (and2 (and2 (and2 (and2 (and2 (and2 (and2 (and2 (and2 (and2 (and2 (and2 (and2 (and2 (and2 (and2 (and2 (and2 (cl0) cl1) cl2) cl3) cl4) cl5) cl6) cl7) cl8) cl9) cl10) cl11) cl12) cl13) cl14) cl15) cl16) cl17) cl18) cl19) cl20) cl21) cl22) cl23) cl24) cl25) cl26) cl27) cl28) cl29) cl30) cl31
theorem over : Rows.FlagsBackSaid :=
  OpenClaim.holds_of_cond 4 Tryz.f4 rfl rfl rfl rfl rfl rfl rfl ⟨rfl, rfl, rfl, rfl, rfl⟩ rfl rfl rfl rfl rfl (by kernel_rfl) Tryz.func4 closed
    (of_decide_eq_true (by kernel_rfl)) (by unfold Func.isWrapper; first | (rw [if_pos (by decide +kernel)]; kernel_rfl) | (rw [if_neg (by decide +kernel)]; exact ⟨rfl, rfl⟩))
    (fun os started H enc _ F => by rw [OpenClaim.pre_eq_preRow]; exact lifted os started H enc F)
theorem plain (f : FuncId) (fn : Func) (hf : Tryz.pinned.checked.prog.funcNamed Rows.flagsBackRow.func = some f) (hfn : Tryz.pinned.checked.prog.funcs[f]? = some fn) :
    Rows.flagsBackCard.stood.looks = Tryz.pinned.checked.prog.looks [] ∧ ∀ (j : Nat) t, fn.params[j]? = some t → Tryz.pinned.checked.prog.wantsStandIn t = false := by
  obtain rfl : f = 4 := Option.some.inj ((show Tryz.prog.funcNamed Rows.flagsBackRow.func = some 4 by kernel_rfl).symm.trans hf) |>.symm
  obtain rfl : fn = Tryz.f4 := (Option.some.inj (Tryz.func4.symm.trans hfn)).symm
  refine ⟨by kernel_rfl, fun j t ht => ?_⟩
  rw [Tryz.params4] at ht
  have hm : t ∈ [28, 22] := by simpa using Array.mem_of_getElem? ht
  have hall : ([28, 22].all fun u => !Tryz.prog.wantsStandIn u) = true := by kernel_rfl
  exact (show Tryz.prog.wantsStandIn t = false by simpa using List.all_eq_true.1 hall t hm)
theorem card : Rows.FlagsBackCardSaid :=
  Claim7.holds_tied_plain_at .later [] _ _ _ _ over (fun _ h => by cases h) (by kernel_rfl) (fun _ h => by cases h) flagsBack_row_tie rfl ⟨rfl, rfl⟩ (by kernel_rfl) rfl plain (by kernel_rfl)
end Go.Proofs.YtcijochjfncefaaGreatDoor.flagsBack
namespace Go.Proofs.YtcijochjfncefaaGreatDoor
theorem flagsBackHolds : Rows.FlagsBackCardSaid := flagsBack.card
#print axioms flagsBackHolds
end Go.Proofs.YtcijochjfncefaaGreatDoor
