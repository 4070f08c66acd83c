/- A part of the proof of a given law: QTVQuoteTexts. Own work, printed in part by a program of mine. -/
import Derived.Test.YtfeaegjlhpgdmaaDoorQTF
import Derived.Test.YtfeaegjlhpgdmaaDoorAmQ
import Derived.Lib.SplitLaws
import Derived.OpenShut
namespace Go.Proofs.YtfeaegjlhpgdmaaDoor
open Go Go.AM Go.ChangeShapes Go.ChangeAt Go.RowKit
set_option linter.unusedVariables false
set_option linter.unusedSimpArgs false
theorem alive_eq : millwrightlaw11_alive.f 400 = some true := by decide +kernel

def blankI (n : Nat) : Bool := n == 32 || n == 9 || n == 10
def badL : List UInt8 := [39, 32, 9, 10, 35, 36, 96, 58, 61, 60, 92, 59, 38, 124, 40, 41, 123, 125, 91, 93, 42, 63, 94, 126]

theorem blank_all : ∀ n : Fin 256, decide (Lib.indexByte [32, 9, 10] ((n.val : Int).toNat.toUInt8) ≥ 0) = blankI n.val := by decide +kernel
theorem bad_all : ∀ n : Fin 256, (blankI n.val || (n.val == 39) || decide (Lib.indexByte [35, 36, 96, 58, 61, 60, 92, 59, 38, 124, 40, 41, 123, 125, 91, 93, 42, 63, 94, 126] ((n.val : Int).toNat.toUInt8) ≥ 0)) = badL.contains n.val.toUInt8 := by decide +kernel

theorem blank_eq (k : Nat) (n : Nat) (h : n < 256) : quote_Blank.f k (n : Int) = some (blankI n) := by
  have := blank_all ⟨n, h⟩
  simp only [quote_Blank.f, strings_IndexByte.f, pIndexByte.f, Option.bind_some]
  simp only at this
  rw [this]

theorem plain_loop (k : Nat) (s : List UInt8) (hs : s.length ≤ 1000000000) : ∀ (m i n : Nat) (v : Int), v = (i : Int) → i + m = s.length → m < n →
    quote_Plain.l3 k s n v = some (if (s.drop i).any badL.contains then .inr false else .inl ()) := by
  intro m
  induction m with
  | zero =>
    intro i n v hv hi hn; obtain ⟨n, rfl⟩ : ∃ m, n = m + 1 := ⟨n - 1, by omega⟩; subst hv
    unfold quote_Plain.l3
    rw [if_neg (by simp; omega), List.drop_eq_nil_of_le (by omega)]; simp
  | succ m ih =>
    intro i n v hv hi hn; obtain ⟨n, rfl⟩ : ∃ m, n = m + 1 := ⟨n - 1, by omega⟩; subst hv
    have hlt : s[i].toNat < 256 := s[i].toNat_lt
    have hb := bad_all ⟨s[i].toNat, hlt⟩
    have e0 : s[i].toNat.toUInt8 = s[i] := by simp
    simp only [e0] at hb
    unfold quote_Plain.l3
    rw [if_pos (by simp; omega), idx_at rfl (by omega), Option.bind_some, Option.bind_some, Option.bind_some, blank_eq k _ hlt, Option.bind_some, List.drop_eq_getElem_cons (by omega), List.any_cons]
    simp only [strings_IndexByte.f, pIndexByte.f, Option.bind_some]
    unfold quote_Plain.j10 quote_Plain.j7
    rw [w64 (by omega) (by omega), ih (i + 1) n _ (by omega) (by omega) (by omega)]
    cases h1 : blankI s[i].toNat with
    | true => rw [h1] at hb; simp only [Bool.true_or] at hb; rw [← hb]; simp
    | false =>
      rw [h1] at hb
      by_cases h2 : s[i].toNat = 39
      · have e : ((s[i].toNat : Int) == 39) = true := by rw [h2]; rfl
        have e' : (s[i].toNat == 39) = true := by rw [h2]; rfl
        rw [e'] at hb
        rw [← hb, e]; simp
      · have e : ((s[i].toNat : Int) == 39) = false := by rw [beq_eq_false_iff_ne]; omega
        have e' : (s[i].toNat == 39) = false := by rw [beq_eq_false_iff_ne]; omega
        rw [e', Bool.false_or, Bool.false_or] at hb
        rw [← hb, e]
        simp only [Bool.false_eq_true, if_false]
        cases decide (Lib.indexByte [35, 36, 96, 58, 61, 60, 92, 59, 38, 124, 40, 41, 123, 125, 91, 93, 42, 63, 94, 126] ((s[i].toNat : Int).toNat.toUInt8) ≥ 0) <;> simp

theorem plain_eq (k : Nat) (s : List UInt8) (hs : s.length ≤ 1000000000) (hk : s.length < k) : quote_Plain.f k s = some (!(s.any badL.contains) && !(s == [])) := by
  unfold quote_Plain.f quote_Plain.j1
  rw [plain_loop k s hs s.length 0 k 0 rfl (by omega) hk, Option.bind_some, List.drop_zero]
  cases s.any badL.contains <;> simp

theorem rplain_in (k : Nat) (s : List UInt8) (i : Nat) (hi : i < s.length) : ∀ (m j n : Nat) (v : Int), v = (j : Int) → j + m = 24 → m < n →
    millwrightref11_Plain.l9 k s (i : Int) n v = some (if (badL.drop j).contains s[i] then .inr false else .inl ()) := by
  intro m
  induction m with
  | zero =>
    intro j n v hv hj hn; obtain ⟨n, rfl⟩ : ∃ m, n = m + 1 := ⟨n - 1, by omega⟩; subst hv
    obtain rfl : j = 24 := by omega
    unfold millwrightref11_Plain.l9
    simp [badL]
  | succ m ih =>
    intro j n v hv hj hn; obtain ⟨n, rfl⟩ : ∃ m, n = m + 1 := ⟨n - 1, by omega⟩; subst hv
    unfold millwrightref11_Plain.l9
    have hl : badL.length = 24 := rfl
    have hjl : j < badL.length := by omega
    have hx : idx ([39, 32, 9, 10, 35, 36, 96, 58, 61, 60, 92, 59, 38, 124, 40, 41, 123, 125, 91, 93, 42, 63, 94, 126] : List UInt8) (j : Int) = some badL[j] := idx_at (l := badL) rfl hjl
    rw [if_pos (by show decide ((j : Int) < (badL.length : Int)) = true; simp; omega), idx_at rfl hi, Option.bind_some, hx, Option.bind_some, u8_eq, w64 (by omega) (by omega), ih (j + 1) n _ (by omega) (by omega) (by omega), List.drop_eq_getElem_cons hjl, List.contains_cons]
    by_cases h : s[i] = badL[j]
    · simp [h]
    · have : (s[i] == badL[j]) = false := by simpa using h
      simp only [this, Bool.false_or, Bool.false_eq_true, if_false]

theorem rplain_loop (k : Nat) (hk : 24 < k) (s : List UInt8) (hs : s.length ≤ 1000000000) : ∀ (m i n : Nat) (v : Int), v = (i : Int) → i + m = s.length → m < n →
    millwrightref11_Plain.l3 k s n v = some (if (s.drop i).any badL.contains then .inr false else .inl ()) := by
  intro m
  induction m with
  | zero =>
    intro i n v hv hi hn; obtain ⟨n, rfl⟩ : ∃ m, n = m + 1 := ⟨n - 1, by omega⟩; subst hv
    unfold millwrightref11_Plain.l3
    rw [if_neg (by simp; omega), List.drop_eq_nil_of_le (by omega)]; simp
  | succ m ih =>
    intro i n v hv hi hn; obtain ⟨n, rfl⟩ : ∃ m, n = m + 1 := ⟨n - 1, by omega⟩; subst hv
    unfold millwrightref11_Plain.l3 millwrightref11_Plain.j7
    rw [if_pos (by simp; omega), rplain_in k s i (by omega) 24 0 k 0 rfl (by omega) (by omega), Option.bind_some, List.drop_zero, w64 (by omega) (by omega), ih (i + 1) n _ (by omega) (by omega) (by omega), List.drop_eq_getElem_cons (i := i) (l := s) (by omega), List.any_cons]
    cases badL.contains s[i] with
    | true => simp only [Bool.true_or, if_true, Option.bind_some]
    | false => simp only [Bool.false_or, Bool.false_eq_true, if_false, Option.bind_some]

theorem rplain_eq (k : Nat) (s : List UInt8) (hs : s.length ≤ 1000000000) (hk : s.length < k) (hk' : 24 < k) : millwrightref11_Plain.f k s = some (!(s.any badL.contains) && !(s == [])) := by
  unfold millwrightref11_Plain.f millwrightref11_Plain.j1
  rw [rplain_loop k hk' s hs s.length 0 k 0 rfl (by omega) hk, Option.bind_some, List.drop_zero]
  cases s with
  | nil => simp
  | cons x s =>
    have : decide (((x :: s).length : Int) > 0) = true := by simp
    rw [this]
    cases (x :: s).any badL.contains <;> rfl

/-- Each quote twice. -/
def dbl (c : UInt8) : List UInt8 := if c = 39 then [39, 39] else [c]

theorem index_cases (c : UInt8) : ∀ l : List UInt8, (c ∉ l ∧ Lib.indexByte l c = -1) ∨ ∃ a b, l = a ++ c :: b ∧ c ∉ a ∧ Lib.indexByte l c = (a.length : Int)
  | [] => .inl ⟨by simp, rfl⟩
  | x :: l => by
    unfold Lib.indexByte
    by_cases h : x = c
    · subst h; exact .inr ⟨[], l, rfl, by simp, by simp⟩
    · rw [if_neg (by simpa using h)]
      rcases index_cases c l with ⟨h1, h2⟩ | ⟨a, b, h1, h2, h3⟩
      · left; rw [h2]; exact ⟨by simp; exact ⟨fun e => h e.symm, h1⟩, by simp⟩
      · right; refine ⟨x :: a, b, by simp [h1], by simp; exact ⟨fun e => h e.symm, h2⟩, ?_⟩
        rw [h3, if_neg (by simp)]; simp

theorem dbl_free : ∀ {a : List UInt8}, (39 : UInt8) ∉ a → a.flatMap dbl = a
  | [], _ => rfl
  | x :: a, h => by
    simp at h
    rw [List.flatMap_cons, dbl_free h.2, dbl, if_neg (fun e => h.1 e.symm)]; rfl

theorem replaceK_dbl : ∀ (k : Nat) (s : List UInt8), s.count 39 ≤ k → Lib.replaceK [39] [39, 39] k s = s.flatMap dbl
  | 0, s, h => by
    have : (39 : UInt8) ∉ s := List.count_eq_zero.1 (by omega)
    rw [dbl_free this]; rfl
  | k + 1, s, h => by
    unfold Lib.replaceK
    rw [Lib.index_one]
    rcases index_cases 39 s with ⟨h1, h2⟩ | ⟨a, b, h1, h2, h3⟩
    · rw [h2, dbl_free h1]; rfl
    · have hc : b.count 39 ≤ k := by rw [h1, List.count_append, List.count_cons_self] at h; omega
      rw [h3, if_neg (by simp)]
      have e1 : ((a.length : Nat) : Int).toNat = a.length := by simp
      rw [e1, h1]
      have e2 : (a ++ 39 :: b).drop (a.length + ([39] : List UInt8).length) = b := by simp
      rw [e2, replaceK_dbl k b hc, List.flatMap_append, List.flatMap_cons, dbl_free h2]
      simp [dbl]

theorem replaceAll_dbl (s : List UInt8) : Lib.replaceAll s [39] [39, 39] = s.flatMap dbl := by
  unfold Lib.replaceAll Lib.replace
  rw [if_neg (by decide)]
  exact replaceK_dbl _ _ (by unfold Lib.replaceNum; rw [if_pos (by omega), Lib.count_one]; omega)

theorem pReplace_eq (k : Nat) (s old new : List UInt8) (hs : s.length ≤ 100000) (ho : 1 ≤ old.length) (hn : new.length ≤ 100000) : pReplaceAll.f k s old new = some (Lib.replaceAll s old new) := by
  unfold pReplaceAll.f
  have h1 := Lib.countB_le ⟨old.toArray⟩ (by show 1 ≤ old.toArray.size; simpa using ho) _ ⟨s.toArray⟩ (Nat.le_refl _)
  have h2 : (⟨s.toArray⟩ : ByteArray).size = s.length := by show s.toArray.size = _; simp
  rw [h2] at h1
  have h3 : Lib.countB ⟨s.toArray⟩ ⟨old.toArray⟩ * new.length ≤ 100000 * 100000 := Nat.mul_le_mul (by omega) hn
  rw [if_pos ⟨by omega, ho, by omega⟩]

theorem dbl_length (s : List UInt8) : (s.flatMap dbl).length ≤ 2 * s.length := by
  induction s with
  | nil => simp
  | cons x s ih => rw [List.flatMap_cons, List.length_append, List.length_cons]; have : (dbl x).length ≤ 2 := by unfold dbl; split <;> simp
                   omega

def quo (s : List UInt8) : List UInt8 := if !(s.any badL.contains) && !(s == []) then s else [39] ++ s.flatMap dbl ++ [39]

theorem quote_eq (k : Nat) (s : List UInt8) (hs : s.length ≤ 100000) (hk : s.length < k) : quote_Quote.f k s = some (quo s) := by
  unfold quote_Quote.f quo
  rw [plain_eq k s (by omega) hk, Option.bind_some]
  have := dbl_length s
  split
  · rfl
  · rw [pReplace_eq k s _ _ hs (by simp) (by simp), Option.bind_some, replaceAll_dbl, if_pos (by simp only [List.length_append, List.length_cons, List.length_nil]; omega), if_pos (by simp only [List.length_append, List.length_cons, List.length_nil]; omega)]

theorem rquote_loop (k : Nat) (s : List UInt8) (hs : s.length ≤ 100000) : ∀ (m i n : Nat) (v : Int) (acc : List UInt8), v = (i : Int) → i + m = s.length → m < n → acc.length ≤ 2 * i + 1 →
    millwrightref11_Quote.l8 k s n acc v = some (acc ++ (s.drop i).flatMap dbl) := by
  intro m
  induction m with
  | zero =>
    intro i n v acc hv hi hn ha; obtain ⟨n, rfl⟩ : ∃ m, n = m + 1 := ⟨n - 1, by omega⟩; subst hv
    unfold millwrightref11_Quote.l8
    rw [if_neg (by simp; omega), List.drop_eq_nil_of_le (by omega)]; simp
  | succ m ih =>
    intro i n v acc hv hi hn ha; obtain ⟨n, rfl⟩ : ∃ m, n = m + 1 := ⟨n - 1, by omega⟩; subst hv
    have hc : ((s[i].toNat : Int) == 39) = (s[i] == 39) := u8_eq (b := 39)
    have hsub : sub s (i : Int) ((i : Int) + 1) = some [s[i]] := by
      rw [sub_at (a := i) (b := i + 1) rfl (by omega) (by omega) (by omega), List.drop_take, List.drop_eq_getElem_cons (i := i) (l := s) (by omega), Nat.add_sub_cancel_left]
      rfl
    unfold millwrightref11_Quote.l8 millwrightref11_Quote.j14
    rw [if_pos (by simp; omega), w64 (by omega) (by omega), hsub, Option.bind_some, if_pos (by simp; omega), idx_at rfl (by omega), Option.bind_some, hc, List.drop_eq_getElem_cons (by omega), List.flatMap_cons]
    by_cases h : s[i] = 39
    · rw [if_pos (by simp [h]), if_pos (by simp; omega), ih (i + 1) n _ _ (by omega) (by omega) (by omega) (by simp; omega)]
      simp [h, dbl]
    · rw [if_neg (by simp [h]), ih (i + 1) n _ _ (by omega) (by omega) (by omega) (by simp; omega)]
      simp [h, dbl]

theorem rquote_eq (k : Nat) (s : List UInt8) (hs : s.length ≤ 100000) (hk : s.length < k) (hk' : 24 < k) : millwrightref11_Quote.f k s = some (quo s) := by
  unfold millwrightref11_Quote.f quo
  rw [rplain_eq k s (by omega) hk hk', Option.bind_some]
  have := dbl_length s
  split
  · rfl
  · rw [rquote_loop k s hs s.length 0 k 0 [39] rfl (by omega) hk (by simp), Option.bind_some, List.drop_zero]
    unfold millwrightref11_Quote.j5
    rw [if_pos (by simp only [List.length_append, List.length_cons, List.length_nil]; omega)]

theorem quoteTexts_true (s : List UInt8) (b : Int) (_ : Wf Un .str s) (hb : Wf Un (.int .u8) b) : ∃ k, millwrightlaw11_QuoteTexts.f k s b = some true := by
  refine ⟨400, ?_⟩
  unfold millwrightlaw11_QuoteTexts.f
  rw [alive_eq, Option.bind_some]
  by_cases h : (s.length : Int) > 200
  · simp [h]
  · have hb' : 0 ≤ b ∧ b ≤ 255 := by cases hb with | int k n h => exact bounds_u8 h
    obtain ⟨c, rfl⟩ : ∃ c : Nat, b = c := ⟨b.toNat, by omega⟩
    have h1 : (if ((c : Int) == 32) then some true else if ((c : Int) == 9) then some true else some ((c : Int) == 10)) = some (blankI c) := by
      have e1 : ((c : Int) == 32) = (c == 32) := by simp only [Bool.beq_eq_decide_eq]; exact decide_eq_decide.2 (by omega)
      have e2 : ((c : Int) == 9) = (c == 9) := by simp only [Bool.beq_eq_decide_eq]; exact decide_eq_decide.2 (by omega)
      have e3 : ((c : Int) == 10) = (c == 10) := by simp only [Bool.beq_eq_decide_eq]; exact decide_eq_decide.2 (by omega)
      rw [e1, e2, e3]; unfold blankI
      cases c == 32 <;> cases c == 9 <;> rfl
    simp only [Bool.not_true, Bool.false_eq_true, if_false, h, decide_false, plain_eq 400 s (by omega) (by omega), rplain_eq 400 s (by omega) (by omega) (by omega), quote_eq 400 s (by omega) (by omega), rquote_eq 400 s (by omega) (by omega) (by omega),
      Option.bind_some, beq_self_eq_true, if_true, blank_eq 400 c (by omega), millwrightref11_Blank.f, h1]
end Go.Proofs.YtfeaegjlhpgdmaaDoor
