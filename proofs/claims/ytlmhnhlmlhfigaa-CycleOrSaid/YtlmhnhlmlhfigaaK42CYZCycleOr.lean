/- For every input the law CycleOr returns true, and the input reads as it did: no condition. -/
import Derived.Test.YtlmhnhlmlhfigaaRows
import Derived.WalkKit
import Derived.ProofKit
import Derived.Test.YtlmhnhlmlhfigaaK42AmM
import Derived.Test.YtlmhnhlmlhfigaaK42CYC3
import Derived.Test.YtlmhnhlmlhfigaaK42CYVCycleOr
namespace Go.Proofs.Ytlmhnhlmlhfigaa.cycleOr
open Go.ChangeShapes Go.WideShapes Go.ChangeAt Go.RowKit Go.AM
set_option linter.unusedVariables false
set_option maxRecDepth 100000
def tab : TypeId → Option Ty := fun T => if T = 9 then some .str else if T = 22 then some (.list (.named 3)) else if T = 23 then some (.list .str) else if T = 42 then some (.named 3) else none
theorem tab_ok : TabOk Try.prog Un tab := by
  intro T t h
  unfold tab at h
  split at h
  · rename_i e; subst e; cases h
    exact Try.underlying9
  split at h
  · rename_i e; subst e; cases h
    exact ⟨42, Try.underlying22, by simp [tab], by kernel_rfl, by decide⟩
  split at h
  · rename_i e; subst e; cases h
    exact ⟨9, Try.underlying23, by simp [tab], by kernel_rfl, by decide⟩
  split at h
  · rename_i e; subst e; cases h
    exact ⟨_, Try.underlying42, by kernel_rfl, _, _, rfl, rfl, by simp [tab], by kernel_rfl, _, _, rfl, rfl, by simp [tab], by kernel_rfl, rfl⟩
  cases h
theorem own : ownKnob Try.prog.godebug = none := by kernel_rfl
theorem laidOut : laidOutB Try.prog = true := by kernel_rfl
theorem lifted (os : Os) (started : os.Started) (H : Type) (enc : TypeId × Value → H) :
    ReturnsInHanded {} Try.checked os 5 .any (Rows.cycleOrSpec.pre6 enc Try.prog Try.f5 Rows.cycleOrRow.domain false) (Rows.cycleOrSpec.post enc Try.prog Try.f5 false true false false) := by
  refine returnsInHanded_of_change (C := Try.checked) own started (by kernel_rfl) Try.func5
    (ChangeSpec.witness6 (enc := enc) (C := Try.checked) false ⟨#[], #[.slice none 0 0], []⟩ 16 (by kernel_rfl) (by kernel_rfl) (by kernel_rfl) (by kernel_rfl)) ?_
  intro W base args ds gs before hval0 hW hcnd _
  have hval : ∀ (j : Nat) t v, Try.f5.params[j]? = some t → args[j]? = some v → Value.okWide Try.prog W .any base t v := hval0
  have hW' := hW
  obtain ⟨p, q, hA0, hV, rfl, hfz, hnd⟩ := hW
  have hA : DataW.TrodAll enc Try.prog W 0 (fun _ => true) true Try.f5.params.toList args.toList ds p := hA0
  rw [Try.params5] at hA hval
  obtain ⟨v0, vs0, d0, ds0, p0, q0, hargs, rfl, rfl, h0, r0⟩ := trodAll_cons hA
  obtain ⟨rfl, rfl, rfl⟩ := trodAll_nil r0
  obtain rfl : args = #[v0] := by cases args; simp_all
  obtain ⟨rfl, rfl⟩ := trodVars_none hV
  have lt0 : ∀ x ∈ p0, x.block < W.heap.size := by obtain ⟨m, hm⟩ := h0; exact DataW.trod_lt m _ _ _ hm
  obtain ⟨a0, g0, w0⟩ := arg_rd (U := Un) (O := Out.no) (t := (.list (.named 3))) tab_ok (by simp [tab]) (hval 0 22 v0 rfl rfl) h0
  clear hA0 hval0
  obtain ⟨k, hk⟩ := cycleOr_true a0 w0
  refine ((millwrightlaw25_CycleOr.ok Out.no k a0 true hk).at (w := W) (vs := [v0]) Out.no_glob ⟨_, _, rfl, g0, rfl⟩).mono fun e W' ⟨he, bel⟩ => ?_
  subst he
  exact ⟨_, rfl, _, _, _, [], _, [], hW', trodAll_mk1 (shut_bool Try.underlying4 _), (trodAll_cons_mk (Below.trod laidOut (by kernel_rfl) (of_decide_eq_true (by kernel_rfl)) h0 bel lt0) trodAll_mk0), rfl, bel.frame _, fun h => by cases h⟩
theorem over : Rows.cycleOrRow.holds Try.pinned (OpenSpec.ofChange Rows.cycleOrSpec) :=
  OpenClaim.holds_of_wide 5 Try.f5 rfl rfl rfl rfl rfl rfl rfl ⟨rfl, rfl, rfl, rfl, rfl⟩ rfl rfl rfl rfl rfl (by kernel_rfl) Try.func5 (by kernel_rfl)
    (of_decide_eq_true (by kernel_rfl)) (by unfold Func.isWrapper; first | (rw [if_pos (by decide +kernel)]; kernel_rfl) | (rw [if_neg (by decide +kernel)]; exact ⟨rfl, rfl⟩))
    (fun os started H enc _ => lifted os started H enc)
end Go.Proofs.Ytlmhnhlmlhfigaa.cycleOr
namespace Go.Proofs.Ytlmhnhlmlhfigaa
theorem cycleOrHolds : Rows.CycleOrSaid := cycleOr.over
#print axioms cycleOrHolds
end Go.Proofs.Ytlmhnhlmlhfigaa
