/- Texts and effects that are too long, or not. -/
import Derived.Test.YtcblgpcgdihcbaaGreatDoorK20ETVK
import Derived.Test.YtcblgpcgdihcbaaGreatDoorK20ETVP
namespace Go.Proofs.YtcblgpcgdihcbaaGreatDoor.St
open Go Go.AM Go.ChangeShapes Go.ChangeAt Go.RowKit
set_option linter.unusedVariables false
set_option linter.unusedSimpArgs false
set_option maxRecDepth 100000
theorem tlong_loop (k : Nat) (l : List Tx) (hl : l.length ≤ 1000) (m : Int) : ∀ (r : List Tx) (fuel i : Nat), l.drop i = r → r.length < fuel →
    ∃ o, millwrightnum_Long.l4 k l m fuel (i : Int) = some o ∧ (o = .inl () → ∀ x ∈ r, (x.length : Int) ≤ m) ∧ (o ≠ .inl () → o = .inr true)
  | _, 0, _, _, h => by omega
  | [], f + 1, i, hd, _ => by
    have := Tr.at_nil hd
    unfold millwrightnum_Long.l4
    exact ⟨.inl (), by rw [if_neg (by simp; omega)], fun _ x hx => by (cases hx), fun h => absurd rfl h⟩
  | x :: r, f + 1, i, hd, hf => by
    obtain ⟨g1, g2, g3⟩ := Tr.at_drop hd
    obtain ⟨o, ho, h2, h3⟩ := tlong_loop k l hl m r f (i + 1) g2 (by simpa using hf)
    unfold millwrightnum_Long.l4
    rw [if_pos (by simp; exact g3), g1, Option.bind_some, Tr.wr1 (by omega), ho]
    by_cases h1 : (x.length : Int) > m
    · exact ⟨.inr true, by rw [if_pos (by simpa using h1)], fun h => by (cases h), fun _ => rfl⟩
    · exact ⟨o, by rw [if_neg (by simpa using h1)], fun h => List.forall_mem_cons.2 ⟨by omega, h2 h⟩, h3⟩
theorem tlong_f (k : Nat) (hk : 1000 < k) (l : List Tx) (n m : Int) (hn : n ≤ 1000) : ∃ b, millwrightnum_Long.f k l n m = some b ∧ (b = false → (l.length : Int) ≤ n ∧ ∀ x ∈ l, (x.length : Int) ≤ m) := by
  unfold millwrightnum_Long.f
  by_cases h : (l.length : Int) > n
  · rw [if_pos (by simpa using h)]; exact ⟨true, rfl, fun e => by cases e⟩
  · rw [if_neg (by simpa using h)]
    obtain ⟨o, ho, h2, h3⟩ := tlong_loop k l (by omega) m l k 0 rfl (by omega)
    have ho' : millwrightnum_Long.l4 k l m k 0 = some o := ho
    rw [ho', Option.bind_some]
    by_cases e : o = .inl ()
    · subst e; exact ⟨_, rfl, fun _ => ⟨by omega, h2 rfl⟩⟩
    · have := h3 e; subst this; exact ⟨_, rfl, fun h => by cases h⟩
theorem elong_loop (k : Nat) (a : List Ef) (ha : a.length ≤ 1000) : ∀ (l : List Ef) (fuel i : Nat), a.drop i = l → l.length < fuel → ∃ o, millwrightlaw05_Long.l4 k a fuel (i : Int) = some o ∧ (o = .inl () → ∀ f ∈ l, f.f_Name.length ≤ 100) ∧ (o ≠ .inl () → o = .inr true)
  | _, 0, _, _, h => by omega
  | [], f + 1, i, hl, _ => by
    have := Tr.at_nil hl
    unfold millwrightlaw05_Long.l4
    exact ⟨.inl (), by rw [if_neg (by simp; omega)], fun _ f hf => by (cases hf), fun h => absurd rfl h⟩
  | x :: r, f + 1, i, hl, hf => by
    obtain ⟨g1, g2, g3⟩ := Tr.at_drop hl
    obtain ⟨o, ho, ho2, ho3⟩ := elong_loop k a ha r f (i + 1) g2 (by simpa using hf)
    unfold millwrightlaw05_Long.l4 millwrightlaw05_Long.j12 millwrightlaw05_Long.j8
    rw [if_pos (by simp; exact g3), g1, Option.bind_some, Tr.wr1 (by omega), ho]
    by_cases h1 : decide ((x.f_Name.length : Int) > 100) = true
    · rw [if_pos h1]
      exact ⟨_, rfl, fun h => by (cases h), fun _ => rfl⟩
    · rw [if_neg h1]
      have h1' : x.f_Name.length ≤ 100 := by simp at h1; omega
      by_cases h2 : decide ((x.f_Text.length : Int) > 1000) = true
      · rw [if_pos h2]
        exact ⟨_, rfl, fun h => by (cases h), fun _ => rfl⟩
      · rw [if_neg h2]
        exact ⟨o, rfl, fun h => List.forall_mem_cons.2 ⟨h1', ho2 h⟩, ho3⟩
theorem elong_f (k : Nat) (hk : 1000 < k) (a : List Ef) (m : Int) (hm : m ≤ 1000) : ∃ b, millwrightlaw05_Long.f k a m = some b ∧ (b = false → (a.length : Int) ≤ m ∧ ∀ f ∈ a, f.f_Name.length ≤ 100) := by
  unfold millwrightlaw05_Long.f
  by_cases h : decide ((a.length : Int) > m) = true
  · rw [if_pos h]; exact ⟨true, rfl, fun e => by cases e⟩
  · rw [if_neg h]
    have hlen : (a.length : Int) ≤ m := by simpa using h
    obtain ⟨o, ho, ho2, ho3⟩ := elong_loop k a (by omega) a k 0 rfl (by omega)
    have ho' : millwrightlaw05_Long.l4 k a k 0 = some o := ho
    rw [ho', Option.bind_some]
    by_cases e : o = .inl ()
    · subst e; exact ⟨_, rfl, fun _ => ⟨hlen, ho2 rfl⟩⟩
    · have := ho3 e; subst this; exact ⟨_, rfl, fun h => by cases h⟩

end Go.Proofs.YtcblgpcgdihcbaaGreatDoor.St
