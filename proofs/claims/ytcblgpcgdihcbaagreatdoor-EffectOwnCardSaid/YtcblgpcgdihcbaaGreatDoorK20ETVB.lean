/- What the code and the document read as a number in a field of an archive. -/
import Derived.Test.YtcblgpcgdihcbaaGreatDoorK20ETVA
namespace Go.Proofs.YtcblgpcgdihcbaaGreatDoor.Ar
open Go Go.AM Go.ChangeShapes Go.ChangeAt Go.RowKit
set_option linter.unusedVariables false
set_option linter.unusedSimpArgs false
set_option maxRecDepth 100000
def figuresS (l : Tx) : Int × Bool :=
  if l.takeWhile isFig = [] ∨ (1 < (l.takeWhile isFig).length ∧ l.head? = some 48) then (0, false) else ((val 0 (l.takeWhile isFig) : Int), (l.dropWhile isFig).all (· == 32))
theorem parse_val : ∀ (d : Tx) (a : Nat), (∀ c ∈ d, isFig c = true) → val a d < 9223372036854775808 → Lib.parseUint10 a d = .ok (val a d)
  | [], a, _, _ => rfl
  | c :: r, a, h, hv => by
    have hc := fig_of (h c (by simp))
    rw [val_cons] at hv ⊢
    have hm := val_mono r (a * 10 + (c.toNat - 48))
    rw [Lib.parseUint10, if_pos hc, if_neg (by omega), if_neg (by omega)]
    exact parse_val r _ (fun x hx => h x (List.mem_cons_of_mem _ hx)) hv
theorem parse_ok : ∀ (d : Tx) (a u : Nat), Lib.parseUint10 a d = .ok u → (∀ c ∈ d, isFig c = true) ∧ u = val a d
  | [], a, u, h => by
    rw [Lib.parseUint10] at h
    injection h with h
    exact ⟨by simp, by rw [val_nil]; exact h.symm⟩
  | c :: r, a, u, h => by
    rw [Lib.parseUint10] at h
    split at h
    · rename_i hc
      split at h
      · cases h
      · split at h
        · cases h
        · obtain ⟨h1, h2⟩ := parse_ok r _ u h
          refine ⟨fun x hx => ?_, by rw [val_cons]; exact h2⟩
          rcases List.mem_cons.1 hx with rfl | hx
          · simp [isFig, hc]
          · exact h1 x hx
    · cases h
theorem atoi_dec {n : Nat} (hn : n < 9223372036854775808) : Lib.atoiAll (Lib.decDigits n) = .ok (n : Int) := by
  obtain ⟨h1, h2, h3, _, _⟩ := dec_fig n
  cases hd : Lib.decDigits n with
  | nil => exact absurd hd h2
  | cons c r =>
    have hc := fig_of (h1 c (by rw [hd]; simp))
    unfold Lib.atoiAll
    simp only
    rw [if_neg (by omega), ← hd, Lib.parseMag, if_neg h2, parse_val _ 0 h1 (by rw [h3]; exact hn), h3]
    simp only
    rw [if_neg (by omega), if_neg (by omega), if_neg (by omega)]
theorem dec_val_len : ∀ (d : Tx), d ≠ [] → (∀ c ∈ d, isFig c = true) → (Lib.decDigits (val 0 d)).length ≤ d.length := fun d hd h => by
  have := val_lt d 0 0 (by decide) h
  exact dec_len_le (by simpa using this) (List.length_pos_iff.2 hd)
theorem atoi_len {s : Tx} {v : Int} (h : Lib.atoiAll s = .ok v) : (Lib.itoa v).length ≤ s.length ∧ -9223372036854775808 ≤ v ∧ v ≤ 9223372036854775807 := by
  obtain ⟨b1, b2⟩ := Lib.atoiAll_bounds h
  refine ⟨?_, b1, b2⟩
  unfold Lib.atoiAll at h
  cases s with
  | nil => cases h
  | cons c r =>
    simp only at h
    split at h
    · cases h
    · cases h
    · rename_i u hu
      generalize hX : (if c.toNat = 43 ∨ c.toNat = 45 then r else c :: r) = X at hu
      have hXl : X.length ≤ r.length + 1 ∧ (c.toNat = 45 → X.length ≤ r.length) := by
        by_cases hc : c.toNat = 43 ∨ c.toNat = 45
        · rw [if_pos hc] at hX; subst hX; exact ⟨by omega, fun _ => Nat.le_refl _⟩
        · rw [if_neg hc] at hX; subst hX; exact ⟨by simp, fun h => absurd (.inr h) hc⟩
      unfold Lib.parseMag at hu
      by_cases hne : X = []
      · rw [if_pos hne] at hu; cases hu
      · rw [if_neg hne] at hu
        obtain ⟨p1, p2⟩ := parse_ok _ 0 u hu
        have hl := dec_val_len _ hne p1
        rw [← p2] at hl
        split at h
        · cases h
        · split at h
          · cases h
          · injection h with h
            by_cases h45 : c.toNat = 45
            · rw [if_pos h45] at h
              have hl2 := hXl.2 h45
              subst h
              unfold Lib.itoa
              split
              · simp only [Int.natAbs_neg, Int.natAbs_natCast, List.length_cons]; omega
              · have : u = 0 := by omega
                subst this
                rw [show (-((0 : Nat) : Int)).toNat = 0 from rfl, dec_small (by omega)]; simp
            · rw [if_neg h45] at h
              have hl2 := hXl.1
              subst h
              rw [itoa_nat, List.length_cons]
              omega
def numS (l : Tx) : Int := match Lib.atoiAll (Lib.trimRightB l 32) with | .ok v => v | _ => -1
theorem number_eq (k : Nat) (l : Tx) (hl : l.length ≤ 100000) : ar_number.f k l = some (numS l) := by
  unfold ar_number.f pTrimRight.f pAtoi.f numS
  have ht := trim_le l
  simp only
  rw [if_pos ⟨by decide, by omega⟩, Option.bind_some, if_pos (by omega), Option.bind_some]
  cases Lib.atoiAll (Lib.trimRightB l 32) <;> rfl
theorem num_fld {n w : Nat} (hn : n < 9223372036854775808) : numS (fld w (Lib.decDigits n)) = n := by
  unfold numS
  rw [trim_fld w (dec_last n), atoi_dec hn]
theorem num_len (l : Tx) (h2 : 2 ≤ l.length) : (Lib.itoa (numS l)).length ≤ l.length ∧ -9223372036854775808 ≤ numS l ∧ numS l ≤ 9223372036854775807 := by
  have ht := trim_le l
  have hm1 : (Lib.itoa (-1)).length = 2 := by unfold Lib.itoa; rw [if_pos (by omega), dec_small (by decide)]; rfl
  have other : numS l = -1 → (Lib.itoa (numS l)).length ≤ l.length ∧ -9223372036854775808 ≤ numS l ∧ numS l ≤ 9223372036854775807 := fun e => by
    rw [e, hm1]; exact ⟨h2, by omega, by omega⟩
  cases hv : Lib.atoiAll (Lib.trimRightB l 32)
  case ok v =>
    have e : numS l = v := by unfold numS; rw [hv]
    obtain ⟨h1, h3, h4⟩ := atoi_len hv
    rw [e]
    exact ⟨by omega, h3, h4⟩
  all_goals exact other (by unfold numS; rw [hv])
end Go.Proofs.YtcblgpcgdihcbaaGreatDoor.Ar
