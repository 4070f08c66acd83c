/- Relations between places: what nodes span, and Kleene's rules. -/
import Derived.Test.YteddmdkbeednmaaDoorK33DAWC
namespace Go.Proofs.YteddmdkbeednmaaDoor.Dn
open Go Go.AM
set_option linter.unusedVariables false
set_option linter.unusedSimpArgs false
set_option maxRecDepth 100000
abbrev Rl := Nat → Nat → Prop
inductive RT (R : Rl) : Rl
  | refl (i : Nat) : RT R i i
  | tail {i j k : Nat} : RT R i j → R j k → RT R i k
theorem RT.one {R : Rl} {i j : Nat} (h : R i j) : RT R i j := .tail (.refl i) h
theorem RT.trans {R : Rl} {i j k : Nat} (h1 : RT R i j) (h2 : RT R j k) : RT R i k := by
  induction h2 with
  | refl => exact h1
  | tail _ h ih => exact .tail (ih h1) h
theorem RT.head {R : Rl} {i j k : Nat} (h1 : R i j) (h2 : RT R j k) : RT R i k := (RT.one h1).trans h2
theorem RT.mono {R S : Rl} (h : ∀ i j, R i j → RT S i j) {i j : Nat} (h1 : RT R i j) : RT S i j := by
  induction h1 with
  | refl => exact .refl _
  | tail _ h2 ih => exact ih.trans (h _ _ h2)
def cp (R S : Rl) : Rl := fun i k => ∃ j, R i j ∧ S j k
def un (R S : Rl) : Rl := fun i j => R i j ∨ S i j
def id_ : Rl := fun i j => i = j
section
variable (s : List UInt8)
mutual
def Den : RN → Nat → Nat → Prop
  | .mk k _ w ks, i, j =>
    if k = 1 then j = i + 1 ∧ ∃ c, s[i]? = some c ∧ setHas w c.toNat = true
    else if k = 2 then DenC ks i j
    else if k = 3 then DenA ks i j
    else if k = 4 then RT (DenC ks) i j
    else if k = 5 then ∃ m, DenC ks i m ∧ RT (DenC ks) m j
    else if k = 6 then i = j ∨ DenC ks i j
    else if k = 7 then DenC ks i j
    else if k = 8 then i = j ∧ i = 0
    else if k = 9 then i = j ∧ i = s.length
    else i = j
def DenC : List RN → Nat → Nat → Prop
  | [], i, j => i = j
  | x :: xs, i, j => ∃ m, Den x i m ∧ DenC xs m j
def DenA : List RN → Nat → Nat → Prop
  | [], _, _ => False
  | x :: xs, i, j => Den x i j ∨ DenA xs i j
end
theorem denC_one (x : RN) (i j : Nat) : DenC s [x] i j ↔ Den s x i j := by
  unfold DenC
  constructor
  · rintro ⟨m, h1, h2⟩
    unfold DenC at h2
    rw [← h2]; exact h1
  · intro h
    exact ⟨j, h, by unfold DenC; rfl⟩
end
theorem rt_le {D : Rl} {L : Nat} (h : ∀ a b, D a b → a ≤ L → a ≤ b ∧ b ≤ L) {i j : Nat} (g : RT D i j) : i ≤ L → i ≤ j ∧ j ≤ L := by
  induction g with
  | refl => exact fun h => ⟨Nat.le_refl _, h⟩
  | tail _ h2 ih =>
    intro hi
    have a := ih hi
    have b := h _ _ h2 a.2
    omega
section
variable (s : List UInt8)
mutual
theorem den_le : ∀ (n : RN) (i j : Nat), Den s n i j → i ≤ s.length → i ≤ j ∧ j ≤ s.length
  | .mk a b c ks, i, j, h, hi => by
    have hc := denC_le ks
    have ha := denA_le ks
    rw [Den] at h
    split at h
    · obtain ⟨e, c, hc, _⟩ := h
      have : i < s.length := by
        rcases Nat.lt_or_ge i s.length with g | g
        · exact g
        · rw [List.getElem?_eq_none g] at hc; cases hc
      omega
    split at h
    · exact hc i j h hi
    split at h
    · exact ha i j h hi
    split at h
    · exact rt_le hc h hi
    split at h
    · obtain ⟨m, h1, h2⟩ := h
      have a := hc i m h1 hi
      have b := rt_le hc h2 a.2
      omega
    split at h
    · rcases h with rfl | h
      · exact ⟨Nat.le_refl _, hi⟩
      · exact hc i j h hi
    split at h
    · exact hc i j h hi
    split at h
    · omega
    split at h
    · omega
    · omega
theorem denC_le : ∀ (l : List RN) (i j : Nat), DenC s l i j → i ≤ s.length → i ≤ j ∧ j ≤ s.length
  | [], i, j, h, hi => by rw [DenC] at h; omega
  | x :: xs, i, j, h, hi => by
    rw [DenC] at h
    obtain ⟨m, h1, h2⟩ := h
    have a := den_le x i m h1 hi
    have b := denC_le xs m j h2 a.2
    omega
theorem denA_le : ∀ (l : List RN) (i j : Nat), DenA s l i j → i ≤ s.length → i ≤ j ∧ j ≤ s.length
  | [], i, j, h, hi => by rw [DenA] at h; exact h.elim
  | x :: xs, i, j, h, hi => by
    rw [DenA] at h
    rcases h with h | h
    · exact den_le x i j h hi
    · exact denA_le xs i j h hi
end
end
end Go.Proofs.YteddmdkbeednmaaDoor.Dn
