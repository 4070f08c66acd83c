/- A part of the proof of a given law: CYVCycleTells. Own work, printed in part by a program of mine. -/
import Derived.Test.YtlmhnhlmlhfigaaK40CYVD
namespace Go.Proofs.Ytlmhnhlmlhfigaa
open Go Go.AM Go.ChangeShapes Go.ChangeAt Go.RowKit
set_option linter.unusedVariables false
set_option linter.unusedSimpArgs false
set_option maxRecDepth 100000
theorem cycleTells_true (a0 : List Nd) (a1 : Tx) (a2 : List Tx) (_ : Wf Un (.list (.named 3)) a0) (_ : Wf Un .str a1) (_ : Wf Un (.list .str) a2) : ∃ k, millwrightlaw25_CycleTells.f k a0 a1 a2 = some true := by
  refine ⟨40000, ?_⟩
  have ali : millwrightlaw25_alive.f 40000 = some true := alive_eq
  unfold millwrightlaw25_CycleTells.f
  rw [ali, Option.bind_some, if_neg (by decide)]
  obtain ⟨b, h1, h2⟩ := long_eq 40000 (by omega) a0
  rw [h1, Option.bind_some]
  unfold millwrightlaw25_CycleTells.j21
  cases b with
  | true => rw [if_pos rfl, if_pos rfl]
  | false =>
    have ha := h2 rfl
    rw [if_neg (by simp)]
    by_cases h3 : (a1.length : Int) > 60
    · rw [if_pos (by simpa using h3), if_pos rfl]
    · rw [if_neg (by simpa using h3)]
      obtain ⟨b, h4, h5⟩ := longt_eq 40000 (by omega) a2 12 (by omega) 60
      have h4 : millwrightnum_Long.f 40000 a2 12 60 = some b := h4
      rw [h4, Option.bind_some]
      cases b with
      | true => rw [if_pos rfl]
      | false =>
        have hw := h5 rfl
        rw [if_neg (by simp)]
        unfold millwrightlaw25_CycleTells.j18
        have hn := ha.names
        have hs := ha.suc a1
        have hr := rds_len ha a1 a0.length
        rw [of_eq _ (by omega) a0 ha.1, Option.bind_some, names1_eq _ (by omega) a0 ha, Option.bind_some, names2_eq _ (by omega) a0 ha, Option.bind_some, sametx_eq _ (by omega) _ (by omega), Option.bind_some, if_pos rfl,
          to1_eq _ a0 ha, Option.bind_some, to2_eq _ (by omega) a0 ha, Option.bind_some, sametx_eq _ (by omega) _ (by omega), Option.bind_some, if_pos rfl,
          reach1_eq _ (by omega) a0 ha, Option.bind_some, reach2_eq _ (by omega) a0 ha, Option.bind_some, sametx_eq _ (by omega) _ (show (reachL a0 a1).length ≤ _ from Nat.le_trans hr (by omega)), Option.bind_some, if_pos rfl,
          walk1_eq _ (by omega) a0 ha a2 (by omega), Option.bind_some, walk2_eq _ (by omega) a0 ha a2 (by omega), Option.bind_some]
        simp
end Go.Proofs.Ytlmhnhlmlhfigaa
