/- A part of the proof of a given law: AVNamesRight. Own work, printed in part by a program of mine. -/
import Derived.Test.YtfeaegjlhpgdmaaAVMember
namespace Go.Proofs.Ytfeaegjlhpgdmaa
open Go Go.AM
set_option linter.unusedVariables false
theorem namesRight_true (s : List UInt8) (_ : Wf Un .str s) : ∃ k, millwrightlaw01_NamesRight.f k s = some true := by
  refine ⟨400, ?_⟩
  unfold millwrightlaw01_NamesRight.f
  rw [alive_eq, Option.bind_some]
  by_cases h : (s.length : Int) > 300
  · simp [h]
  · have hs : s.length ≤ 1000000000 := by omega
    have hk : s.length < 400 := by omega
    obtain ⟨r, h1, h2⟩ := members_same 400 s hs hk
    simp only [Bool.not_true, Bool.false_eq_true, if_false, h, decide_false, h1, h2, right_eq 400 s hs hk, rright_eq 400 s hs hk, Option.bind_some, beq_self_eq_true, if_true]
end Go.Proofs.Ytfeaegjlhpgdmaa
