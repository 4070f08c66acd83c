/- For every input the law DeltaApplies returns true, and the input reads as it did: no condition. -/
import Derived.Test.YtkdpaglpieamgaaDoorCards
import Derived.Test.YtkdpaglpieamgaaDoorTie
import Derived.LaidMore
import Derived.Lay
import Derived.SevenTiedAt
import Derived.Stop.Joined
import Derived.Deep.DeepHandedRow
import Derived.WalkKit
import Derived.ProofKit
import Derived.Test.YtkdpaglpieamgaaDoorK10Am1
import Derived.Test.YtkdpaglpieamgaaDoorK10DAC7
import Derived.Test.YtkdpaglpieamgaaDoorK10DAVDeltaApplies
namespace Go.Proofs.YtkdpaglpieamgaaDoor.deltaApplies
open Go.ChangeShapes Go.WideShapes Go.ChangeAt Go.RowKit Go.AM
set_option linter.unusedVariables false
set_option maxRecDepth 100000
def tab : TypeId → Option Ty := fun T => if T = 3 then some (.int .i64) else if T = 9 then some .str else if T = 22 then some (.list (.named 3)) else if T = 24 then some (.named 3) else if T = 40 then some (.list .str) else if T = 60 then some (.list (.named 6)) else if T = 103 then some (.named 6) else none
theorem tab_ok : TabOk Tryd.prog Un tab := by
  intro T t h
  unfold tab at h
  split at h
  · rename_i e; subst e; cases h
    exact Tryd.underlying3
  split at h
  · rename_i e; subst e; cases h
    exact Tryd.underlying9
  split at h
  · rename_i e; subst e; cases h
    exact ⟨24, Tryd.underlying22, by simp [tab], by kernel_rfl, by decide⟩
  split at h
  · rename_i e; subst e; cases h
    exact ⟨_, Tryd.underlying24, by kernel_rfl, _, _, rfl, rfl, by simp [tab], by kernel_rfl, _, _, rfl, rfl, by simp [tab], by kernel_rfl, _, _, rfl, rfl, by simp [tab], by kernel_rfl, rfl⟩
  split at h
  · rename_i e; subst e; cases h
    exact ⟨9, Tryd.underlying40, by simp [tab], by kernel_rfl, by decide⟩
  split at h
  · rename_i e; subst e; cases h
    exact ⟨103, Tryd.underlying60, by simp [tab], by kernel_rfl, by decide⟩
  split at h
  · rename_i e; subst e; cases h
    exact ⟨_, Tryd.underlying103, by kernel_rfl, _, _, rfl, rfl, by simp [tab], by kernel_rfl, _, _, rfl, rfl, by simp [tab], by kernel_rfl, _, _, rfl, rfl, by simp [tab], by kernel_rfl, rfl⟩
  cases h
theorem own : ownKnob Tryd.prog.godebug = none := by kernel_rfl
theorem laidOut : laidOutB Tryd.prog = true := by kernel_rfl
theorem lifted (os : Os) (started : os.Started) (H : Type) (enc : TypeId × Value → H) (F : Stop.Interp) :
    ReturnsInHanded {} Tryd.checked os 8 .any ((OpenSpec.ofChange Rows.deltaAppliesSpec).preRow enc Tryd.prog Tryd.f8 Rows.deltaAppliesRow.domain false Rows.deltaAppliesRow.laid) (((OpenSpec.ofChange Rows.deltaAppliesSpec).at F).post enc Tryd.prog Tryd.f8 false true false false) := by
  refine returnsInHanded_of_row (C := Tryd.checked) (s := OpenSpec.ofChange Rows.deltaAppliesSpec) own started (by kernel_rfl) Tryd.func8
    (ChangeSpec.witness_shaped (enc := enc) (C := Tryd.checked) (os := os) (s := Rows.deltaAppliesSpec) (X := fun w _ => laidMetH Tryd.prog Rows.deltaAppliesRow.laid w) false (World.laidAll Tryd.prog os Rows.deltaAppliesRow.laid) #[.slice none 0 0, .slice none 0 0, .slice none 0 0] 16 (World.laidAll_os _ _ _)
      (World.shaped_of_ZipB (by kernel_rfl) (by kernel_rfl)) (by kernel_rfl) (by kernel_rfl) (by kernel_rfl)
      (by rw [MakeChecks.laidMetH_plain _ _ _ (by kernel_rfl)]; exact laidMet_laidAll _ (by kernel_rfl) (by kernel_rfl))) ?_
  intro W base args ds gs before hval0 hW _ _ hcw hL hsh _
  obtain ⟨O, hO, hG⟩ := law_out hsh (by rw [MakeChecks.laidMetH_plain _ _ _ (by kernel_rfl)] at hL; exact hL) (by kernel_rfl)
  have hval : ∀ (j : Nat) t v, Tryd.f8.params[j]? = some t → args[j]? = some v → Value.okWide Tryd.prog W .any base t v := hval0
  have hW' := hW
  obtain ⟨p, q, hA0, hV, rfl, hfz, hnd⟩ := hW
  have hA : DataW.TrodAll enc Tryd.prog W 0 (fun _ => true) true Tryd.f8.params.toList args.toList ds p := hA0
  rw [Tryd.params8] at hA hval
  obtain ⟨v0, vs0, d0, ds0, p0, q0, hargs, rfl, rfl, h0, r0⟩ := trodAll_cons hA
  obtain ⟨v1, vs1, d1, ds1, p1, q1, rfl, rfl, rfl, h1, r1⟩ := trodAll_cons r0
  obtain ⟨v2, vs2, d2, ds2, p2, q2, rfl, rfl, rfl, h2, r2⟩ := trodAll_cons r1
  obtain ⟨rfl, rfl, rfl⟩ := trodAll_nil r2
  obtain rfl : args = #[v0, v1, v2] := by cases args; simp_all
  obtain ⟨rfl, rfl⟩ := trodVars_none hV
  have lt0 : ∀ x ∈ p0, x.block < W.heap.size := by obtain ⟨m, hm⟩ := h0; exact DataW.trod_lt m _ _ _ hm
  obtain ⟨a0, g0, w0⟩ := arg_rd (U := Un) (O := O) (t := (.list (.named 3))) tab_ok (by simp [tab]) (hval 0 22 v0 rfl rfl) h0
  have lt1 : ∀ x ∈ p1, x.block < W.heap.size := by obtain ⟨m, hm⟩ := h1; exact DataW.trod_lt m _ _ _ hm
  obtain ⟨a1, g1, w1⟩ := arg_rd (U := Un) (O := O) (t := (.list (.named 6))) tab_ok (by simp [tab]) (hval 1 60 v1 rfl rfl) h1
  have lt2 : ∀ x ∈ p2, x.block < W.heap.size := by obtain ⟨m, hm⟩ := h2; exact DataW.trod_lt m _ _ _ hm
  obtain ⟨a2, g2, w2⟩ := arg_rd (U := Un) (O := O) (t := (.list .str)) tab_ok (by simp [tab]) (hval 2 40 v2 rfl rfl) h2
  have hwl1 : a1.length * 88 ≤ reachBytes := by
    obtain ⟨m, hm⟩ := h1
    rcases trod_len Tryd.underlying60 g1 hm with e | ⟨el, sp, rfl, e⟩
    · rw [e]; simp
    · have hb : Tryd.prog.bytesOf 103 = 88 := by kernel_rfl
      have := weight_of (i := 1) Tryd.underlying60 hcw (by kernel_rfl) rfl
      rw [hb] at this
      rw [← e]; exact this
  clear hA0 hval0
  obtain ⟨k, hk⟩ := deltaApplies_true a0 a1 a2 w0 w1 w2 hwl1
  refine ((W41_DeltaApplies.ok O hO k a0 a1 a2 true hk).at (w := W) (vs := [v0, v1, v2]) hG ⟨_, _, rfl, g0, ⟨_, _, rfl, g1, ⟨_, _, rfl, g2, rfl⟩⟩⟩).mono fun e W' ⟨he, bel⟩ => ?_
  subst he
  exact ⟨_, rfl, _, _, _, [], _, [], hW', trodAll_mk1 (shut_bool Tryd.underlying4 _), (trodAll_cons_mk (Below.trod laidOut (by kernel_rfl) (of_decide_eq_true (by kernel_rfl)) h0 bel lt0) (trodAll_cons_mk (Below.trod laidOut (by kernel_rfl) (of_decide_eq_true (by kernel_rfl)) h1 bel lt1) (trodAll_cons_mk (Below.trod laidOut (by kernel_rfl) (of_decide_eq_true (by kernel_rfl)) h2 bel lt2) trodAll_mk0))), rfl, bel.frame _, fun h => by cases h⟩
theorem over : Rows.DeltaAppliesSaid :=
  OpenClaim.holds_of_cond 8 Tryd.f8 rfl rfl rfl rfl rfl rfl rfl ⟨rfl, rfl, rfl, rfl, rfl⟩ rfl rfl rfl rfl rfl (by kernel_rfl) Tryd.func8 (by kernel_rfl)
    (of_decide_eq_true (by kernel_rfl)) (by unfold Func.isWrapper; first | (rw [if_pos (by decide +kernel)]; kernel_rfl) | (rw [if_neg (by decide +kernel)]; exact ⟨rfl, rfl⟩))
    (fun os started H enc _ F => by rw [OpenClaim.pre_eq_preRow]; exact lifted os started H enc F)
theorem plain (f : FuncId) (fn : Func) (hf : Tryd.pinned.checked.prog.funcNamed Rows.deltaAppliesRow.func = some f) (hfn : Tryd.pinned.checked.prog.funcs[f]? = some fn) :
    Rows.deltaAppliesCard.stood.looks = Tryd.pinned.checked.prog.looks [] ∧ ∀ (j : Nat) t, fn.params[j]? = some t → Tryd.pinned.checked.prog.wantsStandIn t = false := by
  obtain rfl : f = 8 := Option.some.inj ((show Tryd.prog.funcNamed Rows.deltaAppliesRow.func = some 8 by kernel_rfl).symm.trans hf) |>.symm
  obtain rfl : fn = Tryd.f8 := (Option.some.inj (Tryd.func8.symm.trans hfn)).symm
  refine ⟨by kernel_rfl, fun j t ht => ?_⟩
  rw [Tryd.params8] at ht
  have hm : t ∈ [22, 60, 40] := by simpa using Array.mem_of_getElem? ht
  have hall : ([22, 60, 40].all fun u => !Tryd.prog.wantsStandIn u) = true := by kernel_rfl
  exact (show Tryd.prog.wantsStandIn t = false by simpa using List.all_eq_true.1 hall t hm)
theorem card : Rows.DeltaAppliesCardSaid :=
  Claim7.holds_tied_plain_at .later [] _ _ _ _ over (fun _ h => by cases h) (by kernel_rfl) (fun _ h => by cases h) deltaApplies_row_tie rfl ⟨rfl, rfl⟩ (by kernel_rfl) rfl plain (by kernel_rfl)
end Go.Proofs.YtkdpaglpieamgaaDoor.deltaApplies
namespace Go.Proofs.YtkdpaglpieamgaaDoor
theorem deltaAppliesHolds : Rows.DeltaAppliesCardSaid := deltaApplies.card
#print axioms deltaAppliesHolds
end Go.Proofs.YtkdpaglpieamgaaDoor
