/- For every input the law CycleTells returns true, and the input reads as it did: no condition. -/
import Derived.Test.YtlmhnhlmlhfigaaRows
import Derived.WalkKit
import Derived.ProofKit
import Derived.Test.YtlmhnhlmlhfigaaK40AmM
import Derived.Test.YtlmhnhlmlhfigaaK40CYC3
import Derived.Test.YtlmhnhlmlhfigaaK40CYVCycleTells
namespace Go.Proofs.Ytlmhnhlmlhfigaa.cycleTells
open Go.ChangeShapes Go.WideShapes Go.ChangeAt Go.RowKit Go.AM
set_option linter.unusedVariables false
set_option maxRecDepth 100000
def tab : TypeId → Option Ty := fun T => if T = 9 then some .str else if T = 22 then some (.list (.named 3)) else if T = 23 then some (.list .str) else if T = 42 then some (.named 3) else none
theorem tab_ok : TabOk Try.prog Un tab := by
  intro T t h
  unfold tab at h
  split at h
  · rename_i e; subst e; cases h
    exact Try.underlying9
  split at h
  · rename_i e; subst e; cases h
    exact ⟨42, Try.underlying22, by simp [tab], by kernel_rfl, by decide⟩
  split at h
  · rename_i e; subst e; cases h
    exact ⟨9, Try.underlying23, by simp [tab], by kernel_rfl, by decide⟩
  split at h
  · rename_i e; subst e; cases h
    exact ⟨_, Try.underlying42, by kernel_rfl, _, _, rfl, rfl, by simp [tab], by kernel_rfl, _, _, rfl, rfl, by simp [tab], by kernel_rfl, rfl⟩
  cases h
theorem own : ownKnob Try.prog.godebug = none := by kernel_rfl
theorem laidOut : laidOutB Try.prog = true := by kernel_rfl
theorem lifted (os : Os) (started : os.Started) (H : Type) (enc : TypeId × Value → H) :
    ReturnsInHanded {} Try.checked os 3 .any (Rows.cycleTellsSpec.pre6 enc Try.prog Try.f3 Rows.cycleTellsRow.domain false) (Rows.cycleTellsSpec.post enc Try.prog Try.f3 false true false false) := by
  refine returnsInHanded_of_change (C := Try.checked) own started (by kernel_rfl) Try.func3
    (ChangeSpec.witness6 (enc := enc) (C := Try.checked) false ⟨#[], #[.slice none 0 0, .string ByteArray.empty, .slice none 0 0], []⟩ 16 (by kernel_rfl) (by kernel_rfl) (by kernel_rfl) (by kernel_rfl)) ?_
  intro W base args ds gs before hval0 hW hcnd _
  have hval : ∀ (j : Nat) t v, Try.f3.params[j]? = some t → args[j]? = some v → Value.okWide Try.prog W .any base t v := hval0
  have hW' := hW
  obtain ⟨p, q, hA0, hV, rfl, hfz, hnd⟩ := hW
  have hA : DataW.TrodAll enc Try.prog W 0 (fun _ => true) true Try.f3.params.toList args.toList ds p := hA0
  rw [Try.params3] at hA hval
  obtain ⟨v0, vs0, d0, ds0, p0, q0, hargs, rfl, rfl, h0, r0⟩ := trodAll_cons hA
  obtain ⟨v1, vs1, d1, ds1, p1, q1, rfl, rfl, rfl, h1, r1⟩ := trodAll_cons r0
  obtain ⟨v2, vs2, d2, ds2, p2, q2, rfl, rfl, rfl, h2, r2⟩ := trodAll_cons r1
  obtain ⟨rfl, rfl, rfl⟩ := trodAll_nil r2
  obtain rfl : args = #[v0, v1, v2] := by cases args; simp_all
  obtain ⟨rfl, rfl⟩ := trodVars_none hV
  have lt0 : ∀ x ∈ p0, x.block < W.heap.size := by obtain ⟨m, hm⟩ := h0; exact DataW.trod_lt m _ _ _ hm
  obtain ⟨a0, g0, w0⟩ := arg_rd (U := Un) (O := Out.no) (t := (.list (.named 3))) tab_ok (by simp [tab]) (hval 0 22 v0 rfl rfl) h0
  have lt1 : ∀ x ∈ p1, x.block < W.heap.size := by obtain ⟨m, hm⟩ := h1; exact DataW.trod_lt m _ _ _ hm
  obtain ⟨a1, g1, w1⟩ := arg_rd (U := Un) (O := Out.no) (t := .str) tab_ok (by simp [tab]) (hval 1 9 v1 rfl rfl) h1
  have lt2 : ∀ x ∈ p2, x.block < W.heap.size := by obtain ⟨m, hm⟩ := h2; exact DataW.trod_lt m _ _ _ hm
  obtain ⟨a2, g2, w2⟩ := arg_rd (U := Un) (O := Out.no) (t := (.list .str)) tab_ok (by simp [tab]) (hval 2 23 v2 rfl rfl) h2
  clear hA0 hval0
  obtain ⟨k, hk⟩ := cycleTells_true a0 a1 a2 w0 w1 w2
  refine ((millwrightlaw25_CycleTells.ok Out.no k a0 a1 a2 true hk).at (w := W) (vs := [v0, v1, v2]) Out.no_glob ⟨_, _, rfl, g0, ⟨_, _, rfl, g1, ⟨_, _, rfl, g2, rfl⟩⟩⟩).mono fun e W' ⟨he, bel⟩ => ?_
  subst he
  exact ⟨_, rfl, _, _, _, [], _, [], hW', trodAll_mk1 (shut_bool Try.underlying4 _), (trodAll_cons_mk (Below.trod laidOut (by kernel_rfl) (of_decide_eq_true (by kernel_rfl)) h0 bel lt0) (trodAll_cons_mk (Below.trod laidOut (by kernel_rfl) (of_decide_eq_true (by kernel_rfl)) h1 bel lt1) (trodAll_cons_mk (Below.trod laidOut (by kernel_rfl) (of_decide_eq_true (by kernel_rfl)) h2 bel lt2) trodAll_mk0))), rfl, bel.frame _, fun h => by cases h⟩
theorem over : Rows.cycleTellsRow.holds Try.pinned (OpenSpec.ofChange Rows.cycleTellsSpec) :=
  OpenClaim.holds_of_wide 3 Try.f3 rfl rfl rfl rfl rfl rfl rfl ⟨rfl, rfl, rfl, rfl, rfl⟩ rfl rfl rfl rfl rfl (by kernel_rfl) Try.func3 (by kernel_rfl)
    (of_decide_eq_true (by kernel_rfl)) (by unfold Func.isWrapper; first | (rw [if_pos (by decide +kernel)]; kernel_rfl) | (rw [if_neg (by decide +kernel)]; exact ⟨rfl, rfl⟩))
    (fun os started H enc _ => lifted os started H enc)
end Go.Proofs.Ytlmhnhlmlhfigaa.cycleTells
namespace Go.Proofs.Ytlmhnhlmlhfigaa
theorem cycleTellsHolds : Rows.CycleTellsSaid := cycleTells.over
#print axioms cycleTellsHolds
end Go.Proofs.Ytlmhnhlmlhfigaa
