/- A part of the proof of a given law: CYVCycleFinds. Own work, printed in part by a program of mine. -/
import Derived.Test.YtlmhnhlmlhfigaaK41CYVG
namespace Go.Proofs.Ytlmhnhlmlhfigaa
open Go Go.AM Go.ChangeShapes Go.ChangeAt Go.RowKit
set_option linter.unusedVariables false
set_option linter.unusedSimpArgs false
set_option maxRecDepth 100000
theorem find_len {a : List Nd} (ha : Small a) {o : Sum Unit (List Tx × Bool)} (h : FindR a (namesL a) o) : (findOut o).1.length ≤ 100 := by
  rcases h with ⟨rfl, _⟩ | ⟨l1, n, l2, r, e, _, _, rfl, he, hW, _⟩
  · simp [findOut]
  · have := hW.len
    have := ha.1
    simp only [findOut]; omega
theorem ord_len' {a : List Nd} (ha : Small a) : (ordO (ordL a)).1.length ≤ 144 := by
  cases h : ordL a with
  | none => simp [ordO]
  | some o =>
    have := ord_len a (namesL a) _ _ _ h
    have := ha.names
    simp [ordO] at *; omega
theorem cycleFinds_true (a0 : List Nd) (_ : Wf Un (.list (.named 3)) a0) : ∃ k, millwrightlaw25_CycleFinds.f k a0 = some true := by
  refine ⟨40000, ?_⟩
  unfold millwrightlaw25_CycleFinds.f
  rw [alive_eq, Option.bind_some, if_neg (by decide)]
  obtain ⟨b, h1, h2⟩ := long_eq 40000 (by omega) a0
  rw [h1, Option.bind_some]
  cases b with
  | true => rw [if_pos rfl]
  | false =>
    have ha := h2 rfl
    obtain ⟨o, f1, f2, f3⟩ := find_eq 40000 (by omega) a0 ha
    have l1 := find_len ha f3
    have l2 := ord_len' ha
    rw [if_neg (by simp), of_eq _ (by omega) a0 ha.1, Option.bind_some, f1, Option.bind_some, f2, Option.bind_some, order1_eq _ (by omega) a0 ha, Option.bind_some, order2_eq _ (by omega) a0 ha, Option.bind_some,
      if_pos (by simp), sametx_eq _ (by omega) _ (by omega), Option.bind_some, if_pos rfl, if_pos (by simp), sametx_eq _ (by omega) _ (by omega), Option.bind_some]
end Go.Proofs.Ytlmhnhlmlhfigaa
