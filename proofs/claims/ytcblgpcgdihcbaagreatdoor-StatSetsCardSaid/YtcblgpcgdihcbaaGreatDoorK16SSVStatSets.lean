/- The law StatSets, without any program in sight. -/
import Derived.Test.YtcblgpcgdihcbaaGreatDoorK16SSVJ
namespace Go.Proofs.YtcblgpcgdihcbaaGreatDoor
open Go Go.AM Go.ChangeShapes Go.ChangeAt Go.RowKit
set_option linter.unusedVariables false
set_option linter.unusedSimpArgs false
set_option maxRecDepth 100000
theorem statSets_true (a0 : List T_tree_File) (a1 : List UInt8) (a2 : Int) (_ : Wf Un (.list (.named 3)) a0) (_ : Wf Un .str a1) (_ : Wf Un (.int .i64) a2) : ∃ k, millwrightlaw04_StatSets.f k a0 a1 a2 = some true := by
  refine ⟨4000, ?_⟩
  have ali : millwrightlaw04_alive.f 4000 = some true := by decide +kernel
  unfold millwrightlaw04_StatSets.f
  rw [ali, Option.bind_some, if_neg (by decide)]
  obtain ⟨b, e1, e2⟩ := Tr.long_f2 4000 (by omega) a0 40 (by omega)
  rw [e1, Option.bind_some]
  have main : b = false → a1.length ≤ 100 → millwrightlaw04_StatSets.j19 4000 a0 a1 a2 = some true := fun hb hn => by
    obtain ⟨l1, n1⟩ := e2 hb
    unfold millwrightlaw04_StatSets.j19
    rw [Tr.lof_eq 4000 (by omega) a0 (by omega)]
    rcases Tr.of_both 4000 (by omega) a0 (by omega) n1 with ⟨e, p1, p2, p3, p4⟩ | ⟨m, p3, p4, p5, p6⟩
    · rw [p3, Option.bind_some, if_pos (by simpa using p1)]; rfl
    · rw [p3, Option.bind_some, if_neg (by simp), Option.bind_some, p4, Option.bind_some, if_neg (by simp)]
      unfold millwrightlaw04_StatSets.j17 millwrightlaw04_StatSets.j14
      rw [if_neg (by simp), if_pos rfl, if_pos rfl]
      simp only
      have hb : St.Bound m := fun y hy => (p6.short y hy).2
      rw [St.set_eq 4000 (by omega) m hb a1 (by omega) a2, Option.bind_some, St.num_e (St.setS_err m hb a1 (by omega) a2), Option.bind_some, St.rset_eq 4000 (by omega) m p6 hb (by omega) a1 (by omega) a2, Option.bind_some, if_pos (by simp)]
      simp only
      rw [Tr.shows_eq 4000 (by omega) _ (St.good_set p6 a1 a2) (by have := St.setS_len m a1 a2; omega)]; rfl
  unfold millwrightlaw04_StatSets.j22
  cases b with
  | true => rw [if_pos rfl, if_pos rfl]
  | false =>
    rw [if_neg (by decide)]
    by_cases h : (a1.length : Int) > 100
    · rw [if_pos (by simpa using h)]
    · rw [if_neg (by simpa using h), main rfl (by omega)]
end Go.Proofs.YtcblgpcgdihcbaaGreatDoor
