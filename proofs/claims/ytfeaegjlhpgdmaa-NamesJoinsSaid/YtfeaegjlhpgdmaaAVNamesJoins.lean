/- A part of the proof of a given law: AVNamesJoins. Own work, printed in part by a program of mine. -/
import Derived.Test.YtfeaegjlhpgdmaaAVMember
namespace Go.Proofs.Ytfeaegjlhpgdmaa
open Go Go.AM
set_option linter.unusedVariables false

theorem plain_loop (k : Nat) (s : List UInt8) (hs : s.length ≤ 1000000000) : ∀ (m i n : Nat) (v : Int), v = (i : Int) → i + m = s.length → m < n →
    millwrightlaw01_plain.l3 k s n v = some (if (40 : UInt8) ∈ s.drop i ∨ (41 : UInt8) ∈ s.drop i then .inr false else .inl ()) := by
  have hc0 : ∀ a : UInt8, ((a.toNat : Int) == 40) = (a == 40) := fun a => u8_eq (b := 40)
  have hc1 : ∀ a : UInt8, ((a.toNat : Int) == 41) = (a == 41) := fun a => u8_eq (b := 41)
  intro m
  induction m with
  | zero =>
    intro i n v hv hi hn; obtain ⟨n, rfl⟩ : ∃ m, n = m + 1 := ⟨n - 1, by omega⟩; subst hv
    unfold millwrightlaw01_plain.l3
    rw [if_neg (by simp; omega), List.drop_eq_nil_of_le (by omega)]; simp
  | succ m ih =>
    intro i n v hv hi hn; obtain ⟨n, rfl⟩ : ∃ m, n = m + 1 := ⟨n - 1, by omega⟩; subst hv
    unfold millwrightlaw01_plain.l3
    rw [if_pos (by simp; omega), idx_at rfl (by omega), Option.bind_some, Option.bind_some, hc0, hc1, List.drop_eq_getElem_cons (by omega)]
    unfold millwrightlaw01_plain.j10 millwrightlaw01_plain.j7
    rw [w64 (by omega) (by omega), ih (i + 1) n _ (by omega) (by omega) (by omega)]
    by_cases h1 : s[i] = 40
    · simp [h1]
    · by_cases h2 : s[i] = 41
      · simp [h2]
      · have e1 : ¬ (40 : UInt8) = s[i] := fun e => h1 e.symm
        have e2 : ¬ (41 : UInt8) = s[i] := fun e => h2 e.symm
        have b1 : (s[i] == 40) = false := by simpa using h1
        have b2 : (s[i] == 41) = false := by simpa using h2
        simp only [b1, b2, e1, e2, List.mem_cons, false_or, Bool.false_eq_true, if_false]

theorem plain_eq (k : Nat) (s : List UInt8) (hs : s.length ≤ 1000000000) (hk : s.length < k) : millwrightlaw01_plain.f k s = some (!decide ((40 : UInt8) ∈ s ∨ (41 : UInt8) ∈ s)) := by
  unfold millwrightlaw01_plain.f millwrightlaw01_plain.j1
  rw [plain_loop k s hs s.length 0 k 0 rfl (by omega) hk, List.drop_zero]
  by_cases h : (40 : UInt8) ∈ s ∨ (41 : UInt8) ∈ s
  · simp only [h, if_true, Option.bind_some, decide_true, Bool.not_true]
  · simp only [h, if_false, Option.bind_some, decide_false, Bool.not_false]

theorem join_eq (k : Nat) (a b : List UInt8) (ha : a.length ≤ 1000000000) (hb : b.length ≤ 1000000000) : names_Join.f k a b = some (a ++ 40 :: (b ++ [41])) := by
  unfold names_Join.f
  rw [if_pos (by simp; omega), if_pos (by simp; omega), if_pos (by simp; omega)]
  simp

theorem right_join (a b : List UInt8) (ha : right a = true) (hb : right b = true) (hl : a.length + b.length ≤ 38) : right (a ++ 40 :: (b ++ [41])) = true := by
  simp only [right, Bool.and_eq_true, decide_eq_true_eq] at ha hb ⊢
  refine ⟨⟨by simp <;> omega, by simp <;> omega⟩, ?_⟩
  simp only [List.all_append, List.all_cons, ha.2, hb.2, List.all_nil]
  decide

theorem namesJoins_true (s lib member : List UInt8) (_ : Wf Un .str s) (_ : Wf Un .str lib) (_ : Wf Un .str member) : ∃ k, millwrightlaw01_NamesJoins.f k s lib member = some true := by
  refine ⟨400, ?_⟩
  unfold millwrightlaw01_NamesJoins.f millwrightlaw01_NamesJoins.j33
  rw [alive_eq, Option.bind_some]
  by_cases h0 : (s.length : Int) > 300
  · simp [h0]
  by_cases h1 : (lib.length : Int) > 100
  · simp [h1]
  by_cases h2 : (member.length : Int) > 100
  · simp [h2]
  have hs : s.length ≤ 1000000000 := by omega
  have hk : s.length < 400 := by omega
  have hs1 : lib.length ≤ 1000000000 := by omega
  have hk1 : lib.length < 400 := by omega
  have hs2 : member.length ≤ 1000000000 := by omega
  have hk2 : member.length < 400 := by omega
  simp only [h0, h1, h2, Bool.not_true, Bool.false_eq_true, if_false, decide_false]
  have hlast : millwrightlaw01_NamesJoins.j27 400 lib member false = some true := by
    unfold millwrightlaw01_NamesJoins.j27 millwrightlaw01_NamesJoins.j23 millwrightlaw01_NamesJoins.j14 millwrightlaw01_NamesJoins.j11
    simp only [right_eq 400 lib hs1 hk1, right_eq 400 member hs2 hk2, plain_eq 400 lib hs1 hk1, plain_eq 400 member hs2 hk2, Option.bind_some, Bool.false_eq_true, if_false, if_true]
    cases r1 : right lib with
    | false => simp
    | true =>
      cases r2 : right member with
      | false => simp
      | true =>
        by_cases p1 : (40 : UInt8) ∈ lib ∨ (41 : UInt8) ∈ lib
        · simp [p1]
        by_cases p2 : (40 : UInt8) ∈ member ∨ (41 : UInt8) ∈ member
        · simp [p2]
        rw [w64 (by omega) (by omega)]
        by_cases hl : (lib.length : Int) + (member.length : Int) > 38
        · simp [hl]
        have hl' : lib.length + member.length ≤ 38 := by omega
        have hj : (lib ++ 40 :: (member ++ [41])).length = lib.length + member.length + 2 := by simp; omega
        have n1 : lib ≠ [] := by rintro rfl; simp [right] at r1
        have n2 : member ≠ [] := by rintro rfl; simp [right] at r2
        simp only [not_or] at p1 p2
        have hp : Parts (lib ++ 40 :: (member ++ [41])) lib member := ⟨rfl, right_join lib member r1 r2 hl', n1, n2, p1.1, p1.2, p2.1, p2.2⟩
        rw [join_eq 400 lib member hs1 hs2, Option.bind_some, member_true 400 _ lib member (by omega) (by omega) hp]
        simp [p1.1, p1.2, p2.1, p2.2, hl]
  have hat := at_le s
  unfold millwrightlaw01_NamesJoins.j30
  rw [dir_eq 400 s hs hk, Option.bind_some, base_eq 400 s hs hk, Option.bind_some, if_pos (by simp; omega), List.take_append_drop]
  simp only [beq_self_eq_true, Bool.not_true, Bool.false_eq_true, if_false]
  rcases member_out 400 s hs hk with h | ⟨a, b, h⟩
  · rw [h]; simpa using hlast
  · have hlen : s.length = a.length + (b.length + 2) := by have := congrArg List.length h.eq; simpa using this
    rw [member_true 400 s a b hs hk h]
    simp only [Option.bind_some, if_true]
    rw [join_eq 400 a b (by omega) (by omega), Option.bind_some, ← h.eq]
    simpa using hlast
end Go.Proofs.Ytfeaegjlhpgdmaa
