/- A part of the proof of a given law: DAVB. Own work, printed in part by a program of mine. -/
import Derived.Test.YteddmdkbeednmaaDoorK33DAVA
namespace Go.Proofs.YteddmdkbeednmaaDoor
open Go Go.AM
set_option linter.unusedVariables false
set_option linter.unusedSimpArgs false
set_option maxRecDepth 100000

def hdr (kind index : Int) (set : List Int) (many : Nat) : Bool :=
  decide (0 ≤ kind ∧ kind ≤ 9) && (if kind = 7 then decide (1 ≤ index ∧ index ≤ 9) else decide (index = 0)) &&
  (if kind = 2 ∨ kind = 3 then decide (2 ≤ many) else if 4 ≤ kind ∧ kind ≤ 7 then decide (many = 1) else decide (many = 0)) && (decide (kind = 1) || set == zeros)
mutual
def rightN : RN → Bool
  | .mk a b c ks => hdr a b c ks.length && rightNs ks
def rightNs : List RN → Bool
  | [] => true
  | x :: xs => rightN x && rightNs xs
end
theorem rightN_eq (n : RN) : rightN n = (hdr n.f_Kind n.f_Index n.f_Set n.f_Kids.length && rightNs n.f_Kids) := by cases n; rfl

theorem kids_f (k : Nat) (a : Int) : prog_kids.f k a = some (if a = 2 ∨ a = 3 then (2, 9223372036854775807) else if 4 ≤ a ∧ a ≤ 7 then (1, 1) else (0, 0)) := by
  unfold prog_kids.f prog_kids.j10 prog_kids.j6 prog_kids.j1
  by_cases h2 : a = 2
  · subst h2; rfl
  by_cases h3 : a = 3
  · subst h3; rfl
  by_cases h4 : a = 4
  · subst h4; rfl
  by_cases h5 : a = 5
  · subst h5; rfl
  by_cases h6 : a = 6
  · subst h6; rfl
  by_cases h7 : a = 7
  · subst h7; rfl
  have : ¬ (4 ≤ a ∧ a ≤ 7) := by omega
  simp [h2, h3, h4, h5, h6, h7, this]

theorem word_f (k : Nat) (a : Int) : ∃ t, rex_Word.f k a = some t ∧ (t == ([] : List UInt8)) = !decide (0 ≤ a ∧ a ≤ 9) := by
  by_cases h0 : a < 0
  · exact ⟨[], by unfold rex_Word.f rex_Word.j5; simp [h0], by simp; omega⟩
  by_cases h9 : 9 < a
  · exact ⟨[], by unfold rex_Word.f rex_Word.j5; simp [h0, h9], by simp; omega⟩
  have h : a = 0 ∨ a = 1 ∨ a = 2 ∨ a = 3 ∨ a = 4 ∨ a = 5 ∨ a = 6 ∨ a = 7 ∨ a = 8 ∨ a = 9 := by omega
  rcases h with rfl | rfl | rfl | rfl | rfl | rfl | rfl | rfl | rfl | rfl <;> exact ⟨_, rfl, rfl⟩

theorem Right_succ (k : Nat) (n : RN) : prog_Right.f (k + 1) n = prog_Right.b k (rex_Node_m0.f k) n := rfl
theorem CF_succ (k : Nat) (l : List RN) : rex_Node_m0.f (k + 1) l = rex_Node_m0.b k (rex_Node_49_m0.f k) l := rfl
theorem IF_succ (k : Nat) (l : List RN) : rex_Node_49_m0.f (k + 1) l = rex_Node_49_m0.b k (prog_Right_1.f k) l := rfl
theorem R1_succ (k : Nat) (n : RN) : prog_Right_1.f (k + 1) n = prog_Right_1.b k (prog_Right.f k) n := rfl

theorem right_b (k : Nat) (rf : List RN → Option Bool) (n : RN) (hlen : n.f_Kids.length ≤ 20000) :
    prog_Right.b k rf n = if hdr n.f_Kind n.f_Index n.f_Set n.f_Kids.length then (rf n.f_Kids).bind fun v => some (!v) else some false := by
  obtain ⟨t, ht, htb⟩ := word_f k n.f_Kind
  unfold prog_Right.b
  rw [kids_f]
  simp only [Option.bind_some]
  unfold prog_Right.j19
  rw [ht]
  simp only [Option.bind_some, htb]
  unfold prog_Right.j16 prog_Right.j14 prog_Right.j11 prog_Right.j4 class_Set_Empty.f hdr
  clear htb ht
  generalize n.f_Kids = ks at *
  generalize n.f_Kind = a
  generalize n.f_Index = b
  generalize n.f_Set = c
  simp only [Option.bind_some, zeros]
  generalize (c == List.replicate 4 (0 : Int)) = z
  by_cases h09 : 0 ≤ a ∧ a ≤ 9
  · simp only [h09, decide_true, Bool.not_true, and_self, Bool.false_eq_true, if_false, Bool.true_and]
    by_cases h7 : a = 7
    · subst h7
      simp only [beq_self_eq_true, if_true]
      by_cases g1 : 1 ≤ b
      · by_cases g9 : b ≤ 9
        · by_cases hl : ks.length = 1
          · simp [g1, g9, hl]
            cases z <;> simp
          · have : ks.length < 1 ∨ 1 < ks.length := by omega
            rcases this with h | h
            · have h' : (ks.length : Int) < 1 := by omega
              simp [g1, g9, hl, h']
            · have h' : ¬ (ks.length : Int) < 1 := by omega
              have h'' : (1 : Int) < ks.length := by omega
              simp [g1, g9, hl, h', h'']
        · simp [g1, g9]
      · simp [g1]
    · have e7 : (a == 7) = false := by simpa using h7
      simp only [e7, Bool.false_eq_true, if_false, h7]
      by_cases hb : b = 0
      · subst hb
        simp only [beq_self_eq_true, Bool.not_true, Bool.false_eq_true, if_false, decide_true, Bool.true_and]
        by_cases h23 : a = 2 ∨ a = 3
        · simp only [h23, if_true]
          by_cases hl : 2 ≤ ks.length
          · have h' : ¬ (ks.length : Int) < 2 := by omega
            have h'' : ¬ (9223372036854775807 : Int) < ks.length := by omega
            have h1 : a ≠ 1 := by omega
            simp [hl, h', h'', h1]
            cases z <;> simp
          · have h' : (ks.length : Int) < 2 := by omega
            simp [hl, h']
        · simp only [h23, if_false]
          by_cases h47 : 4 ≤ a ∧ a ≤ 7
          · simp only [h47, and_self, if_true]
            have h1 : a ≠ 1 := by omega
            by_cases hl : ks.length = 1
            · simp [hl, h1]
              cases z <;> simp
            · have : ks.length < 1 ∨ 1 < ks.length := by omega
              rcases this with h | h
              · have h' : (ks.length : Int) < 1 := by omega
                simp [hl, h']
              · have h' : ¬ (ks.length : Int) < 1 := by omega
                have h'' : (1 : Int) < ks.length := by omega
                simp [hl, h', h'']
          · simp only [h47, if_false]
            by_cases hl : ks.length = 0
            · by_cases h1 : a = 1
              · simp [hl, h1]
              · simp [hl, h1]
                cases z <;> simp
            · have h'' : (0 : Int) < ks.length := by omega
              have h' : ¬ (ks.length : Int) < 0 := by omega
              have h3 : ks ≠ [] := fun e => hl (by rw [e]; rfl)
              simp [hl, h', h'', h3]
      · simp [hb]
  · simp only [h09, decide_false, Bool.not_false, if_true, Bool.false_and, Bool.false_eq_true, if_false]
    cases a == 7 <;> cases decide (b ≥ 1) <;> simp

mutual
theorem right_f : ∀ (n : RN) (k : Nat), nsz n ≤ 120 → 4 * nsz n ≤ k → k ≤ 20000 → prog_Right.f k n = some (rightN n)
  | .mk a b c ks, k, h1, h2, h3 => by
    have hl := nszs_len ks
    simp only [nsz] at h1 h2
    obtain ⟨k', rfl⟩ : ∃ k', k = k' + 4 := ⟨k - 4, by omega⟩
    · rw [Right_succ, right_b _ _ _ (by simp only [T_rex_Node.f_Kids]; omega), rightN_eq]
      simp only [T_rex_Node.f_Kind, T_rex_Node.f_Index, T_rex_Node.f_Set, T_rex_Node.f_Kids]
      rcases bool_cases (hdr a b c ks.length) with hh | hh
      case inr => simp [hh]
      · simp only [hh, if_true, Bool.true_and]
        rw [CF_succ]
        unfold rex_Node_m0.b
        rw [IF_succ]
        unfold rex_Node_49_m0.b
        have hloop := rights_f ks ks 0 (k' + 1) k' rfl (by omega) (by omega) (by omega) (by omega) (by omega)
        have e0 : rex_Node_49_m0.l3 (k' + 1) (prog_Right_1.f (k' + 1)) ks (k' + 1) 0 = _ := hloop.choose_spec.1
        rw [e0]
        have hj := hloop.choose_spec.2
        generalize hloop.choose = j at hj
        cases hr : rightNs ks
        · have : (j : Int) ≥ 0 := by omega
          simp
        · simp [rex_Node_49_m0.j1]
theorem rights_f : ∀ (l : List RN) (ks : List RN) (i : Nat) (fuel k : Nat), ks.drop i = l → l.length < fuel → nszs l ≤ 120 → 4 * nszs l ≤ k → k ≤ 20000 → ks.length ≤ 20000 →
    ∃ j : Nat, rex_Node_49_m0.l3 (k + 1) (prog_Right_1.f (k + 1)) ks fuel (i : Int) = some (if rightNs l then .inl () else .inr (j : Int)) ∧ i ≤ j
  | _, _, _, 0, _, _, h, _, _, _, _ => by omega
  | [], ks, i, f + 1, k, hl, _, _, _, _, _ => by
    have := at_nil hl
    refine ⟨i, ?_, Nat.le_refl _⟩
    unfold rex_Node_49_m0.l3
    rw [if_neg (by simp; omega)]
    simp [rightNs]
  | x :: r, ks, i, f + 1, k, hl, hf, h1, h2, h3, h4 => by
    obtain ⟨g1, g2, g3⟩ := at_drop hl
    simp only [nszs] at h1 h2
    have hx := right_f x k (by omega) (by omega) h3
    unfold rex_Node_49_m0.l3
    rw [if_pos (by simp; exact g3), g1]
    simp only [Option.bind_some]
    rw [R1_succ]
    unfold prog_Right_1.b
    rw [rn_eta, hx]
    simp only [Option.bind_some]
    cases hr : rightN x
    · exact ⟨i, by simp [rightNs, hr], Nat.le_refl _⟩
    · simp only [Bool.not_true, Bool.false_eq_true, if_false]
      rw [wr1 (by omega)]
      obtain ⟨j, e1, e2⟩ := rights_f r ks (i + 1) f k g2 (by simp at hf; omega) (by omega) (by omega) h3 h4
      exact ⟨j, by rw [e1]; simp [rightNs, hr], by omega⟩
end

end Go.Proofs.YteddmdkbeednmaaDoor
