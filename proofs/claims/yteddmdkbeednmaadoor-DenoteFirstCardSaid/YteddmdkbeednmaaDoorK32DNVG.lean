/- The document's spans. -/
import Derived.Test.YteddmdkbeednmaaDoorK32DNVF
namespace Go.Proofs.YteddmdkbeednmaaDoor.Dn
open Go Go.AM
set_option linter.unusedVariables false
set_option linter.unusedSimpArgs false
set_option maxRecDepth 100000
theorem rt_le {D : Rl} {L : Nat} (h : ∀ a b, D a b → a ≤ L → a ≤ b ∧ b ≤ L) {i j : Nat} (g : RT D i j) : i ≤ L → i ≤ j ∧ j ≤ L := by
  induction g with
  | refl => exact fun h => ⟨Nat.le_refl _, h⟩
  | tail _ h2 ih =>
    intro hi
    have a := ih hi
    have b := h _ _ h2 a.2
    omega
section
variable (s : List UInt8)
mutual
theorem den_le : ∀ (n : RN) (i j : Nat), Den s n i j → i ≤ s.length → i ≤ j ∧ j ≤ s.length
  | .mk a b c ks, i, j, h, hi => by
    have hc := denC_le ks
    have ha := denA_le ks
    rw [Den] at h
    split at h
    · obtain ⟨e, c, hc, _⟩ := h
      have : i < s.length := by
        rcases Nat.lt_or_ge i s.length with g | g
        · exact g
        · rw [List.getElem?_eq_none g] at hc; cases hc
      omega
    split at h
    · exact hc i j h hi
    split at h
    · exact ha i j h hi
    split at h
    · exact rt_le hc h hi
    split at h
    · obtain ⟨m, h1, h2⟩ := h
      have a := hc i m h1 hi
      have b := rt_le hc h2 a.2
      omega
    split at h
    · rcases h with rfl | h
      · exact ⟨Nat.le_refl _, hi⟩
      · exact hc i j h hi
    split at h
    · exact hc i j h hi
    split at h
    · omega
    split at h
    · omega
    · omega
theorem denC_le : ∀ (l : List RN) (i j : Nat), DenC s l i j → i ≤ s.length → i ≤ j ∧ j ≤ s.length
  | [], i, j, h, hi => by rw [DenC] at h; omega
  | x :: xs, i, j, h, hi => by
    rw [DenC] at h
    obtain ⟨m, h1, h2⟩ := h
    have a := den_le x i m h1 hi
    have b := denC_le xs m j h2 a.2
    omega
theorem denA_le : ∀ (l : List RN) (i j : Nat), DenA s l i j → i ≤ s.length → i ≤ j ∧ j ≤ s.length
  | [], i, j, h, hi => by rw [DenA] at h; exact h.elim
  | x :: xs, i, j, h, hi => by
    rw [DenA] at h
    rcases h with h | h
    · exact den_le x i j h hi
    · exact denA_le xs i j h hi
end
theorem rt_step {D : Rl} {L : Nat} (h : ∀ a b, D a b → a ≤ L → a ≤ b ∧ b ≤ L) {i j : Nat} (g : RT D i j) : i ≤ L → i < j → ∃ m, i < m ∧ D i m ∧ RT D m j := by
  induction g with
  | refl => intro _ h; omega
  | @tail i b c g1 h2 ih =>
    intro hi hl
    have e := rt_le h g1 hi
    by_cases hb : i < b
    · obtain ⟨m, a1, a2, a3⟩ := ih hi hb
      exact ⟨m, a1, a2, .tail a3 h2⟩
    · have : i = b := by omega
      subst this
      exact ⟨c, hl, h2, .refl _⟩
abbrev S4 := DN → List UInt8 → Int → Int → Option Bool
end
end Go.Proofs.YteddmdkbeednmaaDoor.Dn
