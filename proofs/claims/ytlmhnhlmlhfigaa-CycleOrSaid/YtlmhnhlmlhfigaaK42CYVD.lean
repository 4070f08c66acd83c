/- A part of the proof of a given law: CYVD. Own work, printed in part by a program of mine. -/
import Derived.Test.YtlmhnhlmlhfigaaK42CYVC
namespace Go.Proofs.Ytlmhnhlmlhfigaa
open Go Go.AM Go.ChangeShapes Go.ChangeAt Go.RowKit
set_option linter.unusedVariables false
set_option linter.unusedSimpArgs false
set_option maxRecDepth 100000
def exL : List Nd := [(T_cycle_Node.mk ([97] : List UInt8) [([98] : List UInt8)]), (T_cycle_Node.mk ([98] : List UInt8) [([97] : List UInt8), ([99] : List UInt8)])]
theorem sorted_is {xs ys : List Tx} (h1 : Strict ys) (h2 : ∀ x, x ∈ xs ↔ x ∈ ys) : sortedS xs = ys := strict_eq _ _ (sortedS_spec xs).1 h1 fun x => by rw [(sortedS_spec xs).2]; exact h2 x
theorem ex_small : Small exL := ⟨by decide, fun n hn => by
  rcases List.mem_cons.1 hn with rfl | hn
  · decide
  · rcases List.mem_cons.1 hn with rfl | hn
    · decide
    · cases hn⟩
theorem ex_names : namesL exL = [[97], [98], [99]] := sorted_is (by unfold Strict; decide) fun x => by simp [namesOf, exL]; constructor <;> (intro h; rcases h with h | h | h | h | h <;> simp_all)
theorem ex_arcs : arcsL exL = [([97], [[98]]), ([98], [[97], [99]])] := by
  have e1 : sortedS [([98] : Tx)] = [[98]] := sorted_is (by unfold Strict; decide) fun x => Iff.rfl
  have e2 : sortedS [([97] : Tx), [99]] = [[97], [99]] := sorted_is (by unfold Strict; decide) fun x => Iff.rfl
  have e3 : arcsG exL [] = [([97], [[98]]), ([98], [[97], [99]])] := by decide
  unfold arcsL
  rw [e3]
  simp only [List.map_cons, List.map_nil, e1, e2]
theorem alive_eq : millwrightlaw25_alive.f 40000 = some true := by
  unfold millwrightlaw25_alive.f cycle_Find.f
  have e0 : cycle_arcsOf.f 40000 exL = some (arcsL exL) := arcs_eq _ _ ex_small
  have e1 : cycle_Names.f 40000 exL = some (namesL exL) := names1_eq _ (by omega) _ ex_small
  have h1 : ([98] : Tx) ∈ suc exL [97] := mem_suc.2 ⟨_, List.mem_cons_self, rfl, List.mem_cons_self⟩
  have h2 : ([97] : Tx) ∈ suc exL [98] := mem_suc.2 ⟨_, List.mem_cons_of_mem _ List.mem_cons_self, rfl, List.mem_cons_self⟩
  have hr : ([97] : Tx) ∈ reachL exL [97] := reachL_mem.2 ((Rch.one h1).snoc h2)
  have hl := rds_len ex_small [97] exL.length
  have e2 : names_Has.f 40000 (reachL exL [97]) [97] = some true := by
    rw [has2_eq _ (by omega) _ (show (reachL exL [97]).length ≤ 1000 from Nat.le_trans hl (by omega))]
    simp [hasB, hr]
  have e3 : cycle_arcs_round_m0.f 40000 (arcsL exL) [97] = some [[97], [98]] := by rw [ex_arcs]; decide +kernel
  have e4 : cycle_Find.l5 40000 (arcsL exL) [[97], [98], [99]] 40000 0 = some (.inr ([[97], [98]], true)) := by
    show cycle_Find.l5 40000 (arcsL exL) [[97], [98], [99]] (39999 + 1) 0 = _
    unfold cycle_Find.l5
    rw [if_pos (by decide), if_pos (by decide)]
    show (cycle_arcs_reach_m0.f 40000 (arcsL exL) [97]).bind _ = _
    rw [reach1_m0 _ (by omega) _ ex_small, Option.bind_some, e2, Option.bind_some, if_pos rfl, e3]; rfl
  show ((cycle_arcsOf.f 40000 exL).bind fun v1 => ((cycle_Names.f 40000 exL).bind fun v3 => ((cycle_Find.l5 40000 v1 v3 40000 0).bind fun o6 => match o6 with | Sum.inl u15 => cycle_Find.j2 40000 | Sum.inr u16 => some u16))).bind _ = _
  rw [e0, Option.bind_some, e1, Option.bind_some, ex_names, e4]
  decide
end Go.Proofs.Ytlmhnhlmlhfigaa
