/- A part of the proof of a given law: NLVB. Own work, printed in part by a program of mine. -/
import Derived.Test.YtnbnfjgedinlbabK11NLVA
namespace Go.Proofs.Ytnbnfjgedinlbab
open Go Go.AM Go.ChangeShapes Go.ChangeAt Go.RowKit
set_option linter.unusedVariables false
set_option linter.unusedSimpArgs false
set_option maxRecDepth 100000
theorem long_loop (k : Nat) (l : List (List UInt8)) (hl : l.length ≤ 1000) (m : Int) : ∀ (r : List (List UInt8)) (fuel i : Nat), l.drop i = r → r.length < fuel →
    millwrightnum_Long.l4 k l m fuel (i : Int) = some (if r.all (fun x => decide ((x.length : Int) ≤ m)) then .inl () else .inr true)
  | _, 0, _, _, h => by omega
  | [], f + 1, i, hr, _ => by
    have : l.length ≤ i := by have := congrArg List.length hr; simp at this; omega
    unfold millwrightnum_Long.l4
    rw [if_neg (by simp; omega)]
    simp
  | x :: r, f + 1, i, hr, hf => by
    have hi : i < l.length := by
      rcases Nat.lt_or_ge i l.length with h' | h'
      · exact h'
      · rw [List.drop_of_length_le h'] at hr; cases hr
    have hr' := hr
    rw [List.drop_eq_getElem_cons hi] at hr'
    injection hr' with h1 h2
    unfold millwrightnum_Long.l4
    rw [if_pos (by simp; omega), idx_at rfl hi, h1]
    simp only [Option.bind_some]
    have hw : IntKind.i64.wrap ((i : Int) + 1) = ((i + 1 : Nat) : Int) := by rw [w64 (by omega) (by omega)]; rfl
    by_cases hx : (x.length : Int) > m
    · rw [if_pos (by simpa using hx)]
      have : ¬ ((x.length : Int) ≤ m) := by omega
      simp [this]
    · rw [if_neg (by simpa using hx), hw, long_loop k l hl m r f (i + 1) h2 (by simp at hf; omega)]
      have : (x.length : Int) ≤ m := by omega
      simp [this]

theorem long_f (l : List (List UInt8)) : ∃ b, millwrightnum_Long.f 40000 l 40 100 = some b ∧ (b = false → l.length ≤ 40 ∧ ∀ x ∈ l, x.length ≤ 100) := by
  unfold millwrightnum_Long.f
  by_cases h : (l.length : Int) > 40
  · exact ⟨true, by rw [if_pos (by simpa using h)], fun e => by cases e⟩
  · have e := long_loop 40000 l (by omega) 100 l 40000 0 rfl (by omega)
    have e' : millwrightnum_Long.l4 40000 l 100 40000 0 = _ := e
    rw [if_neg (by simpa using h), e']
    cases ha : l.all (fun x => decide ((x.length : Int) ≤ 100))
    · exact ⟨true, rfl, fun e => by cases e⟩
    · refine ⟨false, rfl, fun _ => ⟨by omega, fun x hx => ?_⟩⟩
      have := List.all_eq_true.1 ha x hx
      simp at this; omega

def marks : List (List UInt8) := [[1], [2], [3]]
theorem texts_f (k : Nat) (l : List (List UInt8)) (h : l.length ≤ 1000) : millwrightnum_Texts.f k l = some (l ++ marks, l.length) := by
  have hw : IntKind.i64.wrap ((l.length : Int) + 3) = ((l.length + 3 : Nat) : Int) := by rw [w64 (by omega) (by omega)]; rfl
  unfold millwrightnum_Texts.f
  rw [hw]
  simp only [Int.toNat_natCast, Int.toNat_zero, List.take_zero, List.nil_append, Nat.zero_add, List.length_replicate]
  have h1 : (List.replicate (l.length + 3) ([] : List UInt8)).drop l.length = [[], [], []] := by
    rw [List.drop_replicate, show l.length + 3 - l.length = 3 by omega]; rfl
  rw [h1, if_pos ⟨by omega, by omega, by unfold LIM; omega⟩, if_pos ⟨by omega, by omega⟩, if_pos (by simp), if_pos ⟨by omega, by omega, by simp⟩]
  congr 2
  rw [List.take_left' rfl, List.drop_of_length_le (by simp)]
  simp [marks]

theorem kept_f (l : List (List UInt8)) (h : l.length ≤ 40) : millwrightnum_KeptTexts_m0.f 40000 (l ++ marks) l.length l = some true := by
  have hw : ∀ j : Int, 0 ≤ j → j ≤ 3 → IntKind.i64.wrap ((l.length : Int) + j) = (l.length : Int) + j := fun j h0 h3 => w64 (by omega) (by omega)
  have hlen : (l ++ marks).length = l.length + 3 := by simp [marks]
  have hg : ∀ (j : Nat) (hj : j < 3), (l ++ marks)[l.length + j]? = marks[j]? := fun j hj => by
    rw [List.getElem?_append_right (by omega)]; congr 1; omega
  unfold millwrightnum_KeptTexts_m0.f
  simp only [Nat.sub_zero, Int.toNat_natCast, Nat.zero_add, List.drop_zero]
  rw [hlen, hw 3 (by omega) (by omega), if_pos ⟨by omega, by omega, by omega⟩, if_neg (by simp), if_pos ⟨by omega, by omega, by omega⟩, if_pos (by omega), List.take_left' rfl, sametx_eq 40000 (by omega) l (by omega)]
  simp only [Option.bind_some]
  unfold millwrightnum_KeptTexts_m0.j13 millwrightnum_KeptTexts_m0.j10
  simp only [Bool.not_true, Bool.false_eq_true, if_false, Nat.sub_zero, Int.toNat_natCast, Nat.zero_add]
  have g0 := hg 0 (by omega)
  have g1 := hg 1 (by omega)
  have g2 := hg 2 (by omega)
  have t1 : ((l.length : Int) + 1).toNat = l.length + 1 := by omega
  have t2 : ((l.length : Int) + 2).toNat = l.length + 2 := by omega
  rw [hlen, if_pos ⟨by omega, by omega⟩, show (l ++ marks)[l.length]? = some [1] from g0]
  simp only [Option.bind_some, beq_self_eq_true, if_true]
  rw [hw 1 (by omega) (by omega), t1, if_pos ⟨by omega, by omega⟩, g1]
  simp only [marks, List.getElem?_cons_succ, List.getElem?_cons_zero, Option.bind_some, beq_self_eq_true, if_true]
  rw [hw 2 (by omega) (by omega), t2, if_pos ⟨by omega, by omega⟩, show (l ++ [[1], [2], [3]])[l.length + 2]? = some [3] from g2]
  rfl

end Go.Proofs.Ytnbnfjgedinlbab
