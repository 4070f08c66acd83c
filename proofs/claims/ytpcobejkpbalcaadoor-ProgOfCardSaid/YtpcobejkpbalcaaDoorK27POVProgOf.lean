/- The law: the programs of all texts. -/
import Derived.Test.YtpcobejkpbalcaaDoorK27POVT
import Derived.Test.YtpcobejkpbalcaaDoorK27POVP
import Derived.Test.YtpcobejkpbalcaaDoorK27POVF
namespace Go.Proofs.YtpcobejkpbalcaaDoor
open Go Go.AM
set_option linter.unusedVariables false
set_option linter.unusedSimpArgs false
set_option maxRecDepth 100000
theorem alive08_eq : millwrightlaw08_alive.f 6000 = some true := by decide +kernel
theorem num2 : millwrightnum_Num.f 6000 2 = some 2 := by decide +kernel
theorem num6 : millwrightnum_Num.f 6000 6 = some 6 := by decide +kernel
theorem num10 : millwrightnum_Num.f 6000 10 = some 10 := by decide +kernel
theorem progOf_true (a0 : List UInt8) (_ : Wf Un .str a0) : ∃ k, millwrightlaw08_ProgOf.f k a0 = some true := by
  refine ⟨6000, ?_⟩
  unfold millwrightlaw08_ProgOf.f
  rw [alive08_eq, Option.bind_some, if_neg (by decide)]
  by_cases h1 : (a0.length : Int) > 100
  · rw [if_pos (by simpa using h1)]
  rw [if_neg (by simpa using h1)]
  have hp := Rx.parse_eq 6000 (by omega) a0
  have hr := Rx.rparse_eq 6000 (by omega) a0
  rw [← Rx.parse_same] at hr
  rw [hr]
  unfold prog_Of.f
  rw [hp]
  simp only [Option.bind_some]
  have h2 : (Rx.parseC a0).2 = 0 ∨ ((Rx.parseC a0).2 = 2 ∨ (Rx.parseC a0).2 = 6 ∨ (Rx.parseC a0).2 = 10) := by
    unfold Rx.parseC
    split
    · exact .inr (.inl rfl)
    · split
      · split
        · exact .inr (.inr (.inr rfl))
        · exact .inl rfl
      · exact .inr (.inr (.inl rfl))
  rcases h2 with h0 | h0
  · obtain ⟨n, hn⟩ : ∃ n, Rx.parseC a0 = (n, 0) := ⟨(Rx.parseC a0).1, by rw [← h0]⟩
    rw [hn]
    obtain ⟨g1, g2, g3⟩ := Rx.parse_good hn
    simp only [beq_self_eq_true, Bool.not_true, Bool.false_eq_true, if_false, rn_eta, dn_eta]
    rw [compile_f n g2, if_pos g1, if_neg (by omega), rprogram_f n g1 g2]
    have hpl := prog_len n g1
    simp only [Option.bind_some, List.length_map]
    rw [if_neg (by decide), if_pos (by decide), if_pos (by simp; omega), same_f _ (by omega), Option.bind_some, if_pos rfl, closed_f _ (by omega) (by omega) (prog_closed n g1)]
    rfl
  · rcases h0 with e | e | e <;> rw [e]
    · rw [if_pos (by decide), Option.bind_some, if_pos (by decide), if_pos (by decide), num2]; rfl
    · rw [if_pos (by decide), Option.bind_some, if_pos (by decide), if_pos (by decide), num6]; rfl
    · rw [if_pos (by decide), Option.bind_some, if_pos (by decide), if_pos (by decide), num10]; rfl
end Go.Proofs.YtpcobejkpbalcaaDoor
