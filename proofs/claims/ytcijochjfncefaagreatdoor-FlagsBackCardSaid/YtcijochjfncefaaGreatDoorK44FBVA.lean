/- A part of a proof: FBVA. -/
import Derived.Test.YtcijochjfncefaaGreatDoorK44FBF
import Derived.Test.YtcijochjfncefaaGreatDoorK44Am3
import Derived.Test.YtcijochjfncefaaGreatDoorK44Am2
import Derived.Lib.IndexBytes
namespace Go.Proofs.YtcijochjfncefaaGreatDoor
open Go Go.AM Go.ChangeShapes Go.ChangeAt Go.RowKit
set_option linter.unusedVariables false
set_option linter.unusedSimpArgs false
set_option maxRecDepth 100000
theorem at_drop {α : Type} {l r : List α} {i : Nat} {x : α} (h : l.drop i = x :: r) : idx l (i : Int) = some x ∧ l.drop (i + 1) = r ∧ i < l.length := by
  have hi : i < l.length := by
    rcases Nat.lt_or_ge i l.length with h' | h'
    · exact h'
    · rw [List.drop_of_length_le h'] at h; cases h
  rw [List.drop_eq_getElem_cons hi] at h
  injection h with h1 h2
  exact ⟨by rw [idx_at rfl hi, h1], h2, hi⟩
theorem at_nil {α : Type} {l : List α} {i : Nat} (h : l.drop i = []) : l.length ≤ i := by
  have := congrArg List.length h
  simp at this; omega
theorem wr1 {i : Nat} (h : i < 1000000) : IntKind.i64.wrap ((i : Int) + 1) = ((i + 1 : Nat) : Int) := by rw [w64 (by omega) (by omega)]; rfl

def letB (b : UInt8) : Bool := (lex_letter.f 0 (b.toNat : Int)).getD false
theorem let_eq (k : Nat) (b : UInt8) : lex_letter.f k (b.toNat : Int) = some (letB b) := by
  have : ∃ x, lex_letter.f k (b.toNat : Int) = some x := by
    unfold lex_letter.f
    (repeat' split) <;> exact ⟨_, rfl⟩
  obtain ⟨x, hx⟩ := this
  have h0 : lex_letter.f 0 (b.toNat : Int) = some x := hx
  unfold letB
  rw [hx, h0]; rfl
def At (s : List UInt8) (i : Int) (r : List UInt8) : Prop := ∃ n : Nat, i = n ∧ n ≤ s.length ∧ s.drop n = r
theorem At.step {s : List UInt8} {i : Int} {b : UInt8} {r : List UInt8} (hs : s.length ≤ 100000) (h : At s i (b :: r)) : At s (IntKind.i64.wrap (i + 1)) r ∧ idx s i = some b ∧ i < s.length := by
  obtain ⟨n, rfl, h1, h2⟩ := h
  obtain ⟨g1, g2, g3⟩ := at_drop h2
  exact ⟨⟨n + 1, wr1 (by omega), by omega, g2⟩, g1, by omega⟩
theorem At.nil {s : List UInt8} {i : Int} (h : At s i []) : ¬ i < s.length := by
  obtain ⟨n, rfl, h1, h2⟩ := h
  have := at_nil h2
  omega
theorem At.len {s : List UInt8} {i : Int} {r : List UInt8} (h : At s i r) : r.length ≤ s.length := by
  obtain ⟨n, rfl, h1, h2⟩ := h
  rw [← h2]; simp
theorem run0_loop (k : Nat) (s : List UInt8) (hs : s.length ≤ 100000) (i : Int) : ∀ (r : List UInt8) (n m : Nat), At s (i + m) r → 0 ≤ i → r.length < n → lex_run_m0.l4 k s i n (m : Int) = some (((m + (r.takeWhile letB).length : Nat)) : Int)
  | _, 0, _, _, _, h => by omega
  | [], n + 1, m, ha, hi, _ => by
    have h1 := ha.nil
    have hl := ha.len
    unfold lex_run_m0.l4 lex_run_m0.j11
    obtain ⟨q, hq, hq2, _⟩ := ha
    rw [hq, w64 (by omega) (by omega), ← hq, if_neg (by simpa using h1), if_neg (by decide)]
    simp
  | b :: r, n + 1, m, ha, hi, hn => by
    obtain ⟨g1, g2, g3⟩ := ha.step hs
    have hqq := ha
    obtain ⟨q, hq, hq2, _⟩ := hqq
    have wi : IntKind.i64.wrap (i + (m : Int)) = i + m := by rw [hq, w64 (by omega) (by omega)]
    have w2 : IntKind.i64.wrap (i + (m : Int) + 1) = i + ((m + 1 : Nat) : Int) := by rw [hq, w64 (by omega) (by omega)]; omega
    rw [w2] at g1
    have w3 : IntKind.i64.wrap ((m : Int) + 1) = ((m + 1 : Nat) : Int) := wr1 (by omega)
    unfold lex_run_m0.l4 lex_run_m0.j11 lex_run_m0.j8
    rw [wi, if_pos (by simpa using g3), g2, Option.bind_some, let_eq k b, Option.bind_some, w3, run0_loop k s hs i r n (m + 1) g1 hi (by simpa using hn)]
    cases h : letB b
    · simp [h]
    · simp [h]; omega
def okNm (t : List UInt8) : Bool := !(t == []) && (decide (t.length ≤ 12) && (t.takeWhile letB).length == t.length)
theorem Name_eq (k : Nat) (t : List UInt8) (ht : t.length ≤ 100000) (hk : t.length < k) : lex_Name.f k t = some (okNm t) := by
  unfold lex_Name.f okNm
  cases t with
  | nil => rfl
  | cons x t =>
    have e0 : lex_run_m0.l4 k (x :: t) 0 k 0 = _ := run0_loop k (x :: t) ht 0 (x :: t) k 0 ⟨0, by simp, by simp, rfl⟩ (by omega) hk
    rw [if_pos (by simp)]
    unfold lex_run_m0.f lex_run_m0.j2
    rw [e0]
    simp only [Option.bind_some, Nat.zero_add]
    by_cases h : (x :: t).length ≤ 12
    · rw [if_pos (by rw [decide_eq_true_eq]; omega)]
      simp only [h, decide_true, Bool.true_and]
      congr 1
      rw [Bool.eq_iff_iff]
      simp only [beq_iff_eq, Bool.and_eq_true, Bool.not_eq_true', Int.ofNat_inj]
      simp
    · have hd : decide ((x :: t).length ≤ 12) = false := by rw [decide_eq_false_iff_not]; exact h
      rw [if_neg (by rw [decide_eq_true_eq]; omega), hd]
      simp

theorem lim_ok {α : Type} {l : List α} {x : α} (h : l.length ≤ 100000) : l.length + [x].length ≤ LIM := by
  have : LIM = 4294967296 := rfl
  simp; omega
abbrev Ac := TW14A
abbrev Vr := TR14V
abbrev Op1 := T_flags_Options
theorem tw_all (p : UInt8 → Bool) : ∀ r : List UInt8, ((r.takeWhile p).length == r.length) = r.all p
  | [] => rfl
  | x :: r => by
    cases h : p x
    · simp [h]
    · have := tw_all p r
      simp only [List.takeWhile_cons_of_pos h, List.length_cons, List.all_cons, h, Bool.true_and, ← this]
      rw [Bool.eq_iff_iff]; simp
def fw : List (List UInt8) → Nat → Sum Unit Int
  | [], _ => .inl ()
  | x :: r, i => if 120 < x.length then .inr (i : Int) else fw r (i + 1)
def anyLong (l : List (List UInt8)) : Bool := l.any fun x => decide (120 < x.length)
theorem fw_spec : ∀ (l : List (List UInt8)) (i : Nat), (anyLong l = false ∧ fw l i = .inl ()) ∨ (anyLong l = true ∧ ∃ j : Nat, fw l i = .inr (j : Int))
  | [], i => .inl ⟨rfl, rfl⟩
  | x :: r, i => by
    unfold fw anyLong
    rw [List.any_cons]
    by_cases h : 120 < x.length
    · rw [if_pos h]; exact .inr ⟨by simp [h], i, rfl⟩
    · rw [if_neg h]
      rcases fw_spec r (i + 1) with ⟨h1, h2⟩ | ⟨h1, j, h2⟩
      · exact .inl ⟨by unfold anyLong at h1; rw [h1]; simp [h], h2⟩
      · exact .inr ⟨by unfold anyLong at h1; rw [h1]; simp, j, h2⟩
theorem index_loop (k : Nat) (a : List (List UInt8)) (ha : a.length ≤ 100000) : ∀ (l : List (List UInt8)) (fuel i : Nat), a.drop i = l → l.length < fuel → slices_IndexFunc_string_string_m0.l3 k a fuel (i : Int) = some (fw l i)
  | _, 0, _, _, h => by omega
  | [], f + 1, i, hl, _ => by
    have := at_nil hl
    unfold slices_IndexFunc_string_string_m0.l3
    rw [if_neg (by simp; omega)]; rfl
  | x :: r, f + 1, i, hl, hf => by
    obtain ⟨g1, g2, g3⟩ := at_drop hl
    unfold slices_IndexFunc_string_string_m0.l3 fw
    rw [if_pos (by simp; exact g3), g1]
    simp only [Option.bind_some, env_Check_1.f]
    rw [wr1 (by omega), index_loop k a ha r f (i + 1) g2 (by simpa using hf)]
    by_cases h : 120 < x.length
    · rw [if_pos (by rw [decide_eq_true_eq]; omega), if_pos h]
    · rw [if_neg (by rw [decide_eq_true_eq]; omega), if_neg h]
theorem contains_eq (k : Nat) (a : List (List UInt8)) (ha : a.length ≤ 100000) (hk : a.length < k) : slices_ContainsFunc_string_string_m0.f k a = some (anyLong a) := by
  unfold slices_ContainsFunc_string_string_m0.f slices_IndexFunc_string_string_m0.f slices_IndexFunc_string_string_m0.j1
  have ho' : slices_IndexFunc_string_string_m0.l3 k a k 0 = _ := index_loop k a ha a k 0 rfl hk
  rw [ho', Option.bind_some]
  rcases fw_spec a 0 with ⟨h1, h2⟩ | ⟨h1, j, h2⟩
  · rw [h1, h2]; rfl
  · rw [h1, h2]; simp
def chk (v : Vr) : Nat := if okNm v.fN = false then 4 else if v.f_Level < 0 ∨ v.f_Level > 2 then 1 else if v.f_Words.length > 40 then 10 else if anyLong v.f_Words = true then 2 else 0
theorem check_eq (k : Nat) (hk : 1000 < k) (v : Vr) (h1 : v.fN.length ≤ 1000) (h2 : v.f_Words.length ≤ 1000) : env_Check.f k v = some (chk v) := by
  unfold env_Check.f chk
  rw [Name_eq k _ (by omega) (by omega), Option.bind_some]
  have hj : ∀ b, env_Check.j9 k v b = some (if b then 1 else if v.f_Words.length > 40 then 10 else if anyLong v.f_Words = true then 2 else 0) := fun b => by
    unfold env_Check.j9 env_Check.j1
    rw [contains_eq k v.f_Words (by omega) (by omega)]
    cases b
    · simp only [Bool.false_eq_true, if_false]
      by_cases h : v.f_Words.length > 40
      · rw [if_pos (by rw [decide_eq_true_eq]; omega), if_pos h]
      · rw [if_neg (by rw [decide_eq_true_eq]; omega), if_neg h, Option.bind_some]
        cases anyLong v.f_Words <;> rfl
    · rfl
  rw [hj, hj]
  cases okNm v.fN
  · rfl
  · simp only [Bool.not_true, Bool.false_eq_true, if_false, Bool.true_eq_false]
    by_cases h : v.f_Level < 0
    · simp [h]
    · by_cases h' : v.f_Level > 2
      · simp [h, h']
      · simp [h, h']
def okb (c : UInt8) : Bool := decide (33 ≤ c.toNat) && decide (c.toNat ≤ 126)

theorem right_loop (k : Nat) (s : List UInt8) (hs : s.length ≤ 1000000000) : ∀ (m i n : Nat) (v : Int), v = (i : Int) → i + m = s.length → m < n →
    names_Right.l3 k s n v = some (if (s.drop i).all okb then .inl () else .inr false) := by
  intro m
  induction m with
  | zero =>
    intro i n v hv hi hn; obtain ⟨n, rfl⟩ : ∃ m, n = m + 1 := ⟨n - 1, by omega⟩; subst hv
    unfold names_Right.l3
    rw [if_neg (by simp; omega), List.drop_eq_nil_of_le (by omega)]; simp
  | succ m ih =>
    intro i n v hv hi hn; obtain ⟨n, rfl⟩ : ∃ m, n = m + 1 := ⟨n - 1, by omega⟩; subst hv
    unfold names_Right.l3
    rw [if_pos (by simp; omega), idx_at rfl (by omega), Option.bind_some, Option.bind_some, List.drop_eq_getElem_cons (by omega), List.all_cons]
    unfold names_Right.j10 names_Right.j7
    rw [w64 (by omega) (by omega), ih (i + 1) n _ (by omega) (by omega) (by omega)]
    by_cases h1 : s[i].toNat < 33
    · have : okb s[i] = false := by simp [okb]; omega
      simp [this]; omega
    · by_cases h2 : s[i].toNat > 126
      · have : okb s[i] = false := by simp [okb]; omega
        simp [this]; omega
      · have : okb s[i] = true := by simp [okb]; omega
        have e1 : ¬ ((s[i].toNat : Int) < 33) := by omega
        have e2 : ¬ ((s[i].toNat : Int) > 126) := by omega
        simp only [this, e1, e2, decide_false, if_false, Bool.false_eq_true, Bool.true_and]

def right (s : List UInt8) : Bool := decide (1 ≤ s.length) && decide (s.length ≤ 40) && s.all okb

theorem right_eq (k : Nat) (s : List UInt8) (hs : s.length ≤ 1000000000) (hk : s.length < k) : names_Right.f k s = some (right s) := by
  unfold names_Right.f names_Right.j19 names_Right.j16 right
  rw [right_loop k s hs s.length 0 k 0 rfl (by omega) hk]
  unfold names_Right.j1
  by_cases h1 : s.length < 1
  · have e1 : (s.length : Int) < 1 := by omega
    have e2 : ¬ 1 ≤ s.length := by omega
    simp only [e1, e2, decide_true, decide_false, if_true, Bool.false_and]
  · have e1 : ¬ (s.length : Int) < 1 := by omega
    have e2 : 1 ≤ s.length := by omega
    by_cases h2 : s.length > 40
    · have e3 : (s.length : Int) > 40 := by omega
      have e4 : ¬ s.length ≤ 40 := by omega
      simp only [e1, e2, e3, e4, decide_true, decide_false, if_true, Bool.false_and, Bool.and_false, Bool.false_eq_true, if_false]
    · have e3 : ¬ (s.length : Int) > 40 := by omega
      have e4 : s.length ≤ 40 := by omega
      simp only [e1, e2, e3, e4, decide_true, decide_false, Bool.true_and, Bool.false_eq_true, if_false, List.drop_zero, Option.bind_some]
      cases s.all okb <;> rfl

theorem index_cases (c : UInt8) : ∀ l : List UInt8, (c ∉ l ∧ Lib.indexByte l c = -1) ∨ ∃ a b, l = a ++ c :: b ∧ c ∉ a ∧ Lib.indexByte l c = (a.length : Int)
  | [] => .inl ⟨by simp, rfl⟩
  | x :: l => by
    unfold Lib.indexByte
    by_cases h : x = c
    · subst h; exact .inr ⟨[], l, rfl, by simp, by simp⟩
    · rw [if_neg (by simpa using h)]
      rcases index_cases c l with ⟨h1, h2⟩ | ⟨a, b, h1, h2, h3⟩
      · left; rw [h2]; exact ⟨by simp; exact ⟨fun e => h e.symm, h1⟩, by simp⟩
      · right; refine ⟨x :: a, b, by simp [h1], by simp; exact ⟨fun e => h e.symm, h2⟩, ?_⟩
        rw [h3, if_neg (by simp)]; simp

theorem scontains_eq (k : Nat) (l : List UInt8) (c : UInt8) (hl : l.length ≤ 1000000000) : strings_Contains.f k l [c] = some (decide (c ∈ l)) := by
  simp only [strings_Contains.f, pIndex.f, if_pos (show l.length < 4294967281 by omega), Lib.index_one, Option.bind_some]
  rcases index_cases c l with ⟨h1, h2⟩ | ⟨a, b, h1, h2, h3⟩
  · rw [h2]; simp [h1]
  · rw [h3, h1]; simp

theorem cut_cases (k : Nat) (l : List UInt8) (c : UInt8) (hl : l.length ≤ 1000000000) : (c ∉ l ∧ strings_Cut.f k l [c] = some (l, [], false)) ∨ ∃ a b, l = a ++ c :: b ∧ c ∉ a ∧ strings_Cut.f k l [c] = some (a, b, true) := by
  simp only [strings_Cut.f, stringslite_Cut.f, pIndexL.f, if_pos (show l.length < 4294967281 by omega), Lib.index_one, Option.bind_some]
  rcases index_cases c l with ⟨h1, h2⟩ | ⟨a, b, h1, h2, h3⟩
  · left; refine ⟨h1, ?_⟩; rw [h2]; simp
  · right; refine ⟨a, b, h1, h2, ?_⟩
    have hl' : l.length = a.length + (b.length + 1) := by rw [h1]; simp
    rw [h3, if_pos (by simp), sub_to rfl rfl (by omega), w64 (by simp; omega) (by simp; omega), Option.bind_some, sub_from (a := a.length + 1) (by simp) rfl (by omega), h1]
    simp

end Go.Proofs.YtcijochjfncefaaGreatDoor
