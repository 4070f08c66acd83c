/- ExpandTexts, told plainly. -/
import Derived.Test.YtldepagjdbcmgaaGreatDoorK23XWVC
import Derived.Test.YtldepagjdbcmgaaGreatDoorK23XWVV
namespace Go.Proofs.YtldepagjdbcmgaaGreatDoor
open Go Go.AM Go.ChangeShapes Go.ChangeAt Go.RowKit
set_option linter.unusedVariables false
set_option linter.unusedSimpArgs false
set_option maxRecDepth 100000
theorem expandTexts_true (a0 : List UInt8) (a1 : List T_env_Var) (a2 : List T_expand_Output) (_ : Wf Un .str a0) (_ : Wf Un (.list (.named 3)) a1) (_ : Wf Un (.list (.named 4)) a2) (hw1 : a1.length * 56 ≤ reachBytes) : ∃ k, millwrightlaw17_ExpandTexts.f k a0 a1 a2 = some true := by
  refine ⟨a1.length + 4000, ?_⟩
  have hw1 : a1.length * 56 ≤ 140737488351232 := hw1
  have ali : millwrightlaw17_alive.f (a1.length + 4000) = some true := Ex.alive_k a1.length
  have nume : ∀ {e : Nat}, e ≤ 18 → millwrightnum_Num.f (a1.length + 4000) e = some (e : Int) := Ex.num_e a1.length
  have hlt : a1.length < a1.length + 4000 := by omega
  have hge : 4000 ≤ a1.length + 4000 := by omega
  generalize a1.length + 4000 = k at ali nume hlt hge ⊢
  unfold millwrightlaw17_ExpandTexts.f
  rw [ali, Option.bind_some, if_neg (by decide)]
  unfold millwrightlaw17_ExpandTexts.j21
  by_cases h200 : (a0.length : Int) > 200
  · rw [if_pos (by simpa using h200), if_pos rfl]
  · rw [if_neg (by simpa using h200)]
    have hs : a0.length ≤ 200 := by omega
    obtain ⟨c, f1, f2⟩ := Ex.olong_f k (by omega) a2 10 (by omega)
    rw [f1, Option.bind_some]
    cases c with
    | true => rw [if_pos rfl]
    | false =>
      have ho := f2 rfl
      have hO := ho.1
      rw [if_neg (by decide)]
      unfold millwrightlaw17_ExpandTexts.j18
      rcases Ex.vars_eq k hge a1 hw1 hlt with h | ⟨h, hg, hm, _⟩
      · rw [h]; rfl
      · have hws := Ex.words_setL a1 [] Ex.words_nil
        obtain ⟨w1, w2, w3⟩ := Lx.words_small a0
        have hF := Ex.Find_eq k a2 a0 (by omega) (by omega)
        have hR := Ex.rFind_eq k a2 a0 (by omega) (by omega)
        have hC := Lx.code_words k a0 (by omega) (by omega)
        have hD := Lx.doc_words k a0 (by omega) (by omega)
        generalize Lx.finW (Lx.runW (a0.length + 1) a0 [] []) = W at w1 w2 w3 hC hD
        obtain ⟨l, e⟩ := W
        simp only at w1 w2 w3 hC hD
        rw [h, Option.bind_some, if_neg (by simp)]
        simp only [if_true]
        unfold expand_Text_m0.f millwrightref17_Text_m0.f
        rw [hC, Option.bind_some, Ex.out_eq k (by omega) a2 hO, hD, hF]
        simp only [Option.bind_some, hR]
        by_cases he : e = 0
        · subst he
          have hp : ∀ w ∈ l, w.length ≤ 500 ∧ ∀ p ∈ w, Ex.okP p := fun w hw => ⟨by have := (w3 w hw).1; omega, fun p hp => by
            obtain ⟨h1, h2, h3⟩ := (w3 w hw).2 p hp
            exact ⟨by omega, by omega, by omega⟩⟩
          obtain ⟨q1, q2⟩ := Ex.wordsS_err hg hws ho l (fun w hw => (hp w hw).2)
          rw [if_neg (by decide), if_neg (by decide), Ex.words_eq k hge _ hg hws a2 ho l (by omega) hp, Option.bind_some, Ex.rwords_eq k hge _ hg (by omega) hws a2 ho l (by omega) hp]
          simp only [Option.bind_some]
          rw [nume q1, Option.bind_some, if_pos (by simp), Qf.same_eq k _ (by omega) (by omega), Option.bind_some]
          simp
        · have s0 : millwrightnum_SameTexts.f k [] [] = some true := Qf.same_eq k _ (by simp) (by simp; omega)
          rw [if_pos (by simpa using he), if_pos (by simpa using he)]
          simp only [Option.bind_some]
          rw [nume w1, Option.bind_some, if_pos (by simp), s0, Option.bind_some]
          simp
end Go.Proofs.YtldepagjdbcmgaaGreatDoor
