/- A part of the proof of a given law: PPVPikePart. Own work, printed in part by a program of mine. -/
import Derived.Test.YthmbbdemecljpaaDoorK11PPF
import Derived.Test.YthmbbdemecljpaaDoorK11AmQ
import Derived.Test.YthmbbdemecljpaaDoorK11AmP
namespace Go.Proofs.YthmbbdemecljpaaDoor
open Go Go.AM Go.ChangeShapes Go.ChangeAt Go.RowKit
set_option linter.unusedVariables false
set_option linter.unusedSimpArgs false
set_option maxRecDepth 100000
theorem alive09 : millwrightlaw09_alive.f 2000 = some true := by decide +kernel
theorem pikePart_true (a0 : List UInt8) (a1 : List Int) (a2 : Int) (_ : Wf Un .str a0) (_ : Wf Un (.list (.int .i64)) a1) (_ : Wf Un (.int .i64) a2) : ∃ k, millwrightlaw09_PikePart.f k a0 a1 a2 = some true := by
  refine ⟨2000, ?_⟩
  unfold millwrightlaw09_PikePart.f millwrightlaw09_PikePart.j22 millwrightlaw09_PikePart.j19
  rw [alive09, Option.bind_some, if_neg (by decide)]
  by_cases h1 : (a0.length : Int) > 60
  · rw [if_pos (by simpa using h1), if_pos rfl]
  rw [if_neg (by simpa using h1)]
  by_cases h2 : (a1.length : Int) > 40
  · rw [if_pos (by simpa using h2)]
  rw [if_neg (by simpa using h2)]
  have hq : Int.tdiv (a1.length : Int) 2 = ((a1.length / 2 : Nat) : Int) := rfl
  have hw : IntKind.i64.wrap ((a1.length / 2 : Nat) : Int) = ((a1.length / 2 : Nat) : Int) := w64 (by omega) (by omega)
  unfold pike_Part.f pike_Part.j13 millwrightlaw09_PikePart.j16
  rw [hq, hw]
  by_cases h3 : a2 < 0
  · simp [h3]
  have h3' : decide (a2 < 0) = false := by simp; omega
  rw [h3']
  by_cases h4 : a2 ≥ ((a1.length / 2 : Nat) : Int)
  · have h4' : decide (a2 ≥ ((a1.length / 2 : Nat) : Int)) = true := by rw [decide_eq_true_eq]; exact h4
    rw [h4']; simp
  have h4' : decide (a2 ≥ ((a1.length / 2 : Nat) : Int)) = false := by rw [decide_eq_false_iff_not]; exact h4
  rw [h4']
  simp only [Bool.false_eq_true, if_false, ne_eq, if_true, show ¬ (2 : Int) = 0 by decide, not_false_eq_true]
  obtain ⟨i, rfl⟩ : ∃ i : Nat, a2 = (i : Int) := ⟨a2.toNat, by omega⟩
  have hi : 2 * i + 1 < a1.length := by omega
  have w1 : IntKind.i64.wrap (2 * (i : Int)) = ((2 * i : Nat) : Int) := by rw [w64 (by omega) (by omega)]; omega
  have w2 : IntKind.i64.wrap (((2 * i : Nat) : Int) + 1) = ((2 * i + 1 : Nat) : Int) := by rw [w64 (by omega) (by omega)]; omega
  unfold pike_Part.j10 millwrightlaw09_PikePart.j13
  rw [w1, w2, idx_at rfl (show 2 * i < a1.length by omega), idx_at rfl hi]
  simp only [Option.bind_some]
  generalize a1[2 * i] = f
  generalize a1[2 * i + 1] = t
  unfold pike_Part.j7 pike_Part.j4 millwrightlaw09_PikePart.j10 millwrightlaw09_PikePart.j7
  by_cases g1 : f < 0
  · simp [g1]
  by_cases g2 : f > t
  · by_cases g3 : t > (a0.length : Int)
    · simp [g1, g2, g3]
    · simp [g1, g2, g3]
  by_cases g3 : t > (a0.length : Int)
  · simp [g1, g2, g3]
  obtain ⟨x, hx⟩ : ∃ x, sub a0 f t = some x := by
    unfold sub
    rw [if_pos ⟨by omega, by omega, by omega⟩]
    exact ⟨_, rfl⟩
  simp [g1, g2, g3, hx]
end Go.Proofs.YthmbbdemecljpaaDoor
