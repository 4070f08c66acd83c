/- A part of the proof of a given law: LTVLexTexts. Own work, printed in part by a program of mine. -/
import Derived.Test.YtnbnfjgedinlbabDoorK2LTVA
namespace Go.Proofs.YtnbnfjgedinlbabDoor
open Go Go.AM Go.ChangeShapes Go.ChangeAt Go.RowKit
set_option linter.unusedVariables false
set_option linter.unusedSimpArgs false
set_option maxRecDepth 100000

theorem pReplace_eq (k : Nat) (s old new : List UInt8) (hs : s.length ≤ 100000) (ho : 1 ≤ old.length) (hn : new.length ≤ 100000) : pReplaceAll.f k s old new = some (Lib.replaceAll s old new) := by
  unfold pReplaceAll.f
  have h1 := Lib.countB_le ⟨old.toArray⟩ (by show 1 ≤ old.toArray.size; simpa using ho) _ ⟨s.toArray⟩ (Nat.le_refl _)
  have h2 : (⟨s.toArray⟩ : ByteArray).size = s.length := by show s.toArray.size = _; simp
  rw [h2] at h1
  have h3 : Lib.countB ⟨s.toArray⟩ ⟨old.toArray⟩ * new.length ≤ 100000 * 100000 := Nat.mul_le_mul (by omega) hn
  rw [if_pos ⟨by omega, ho, by omega⟩]

def dbl (c : UInt8) : List UInt8 := if c = 39 then [39, 39] else [c]

theorem index_cases (c : UInt8) : ∀ l : List UInt8, (c ∉ l ∧ Lib.indexByte l c = -1) ∨ ∃ a b, l = a ++ c :: b ∧ c ∉ a ∧ Lib.indexByte l c = (a.length : Int)
  | [] => .inl ⟨by simp, rfl⟩
  | x :: l => by
    unfold Lib.indexByte
    by_cases h : x = c
    · subst h; exact .inr ⟨[], l, rfl, by simp, by simp⟩
    · rw [if_neg (by simpa using h)]
      rcases index_cases c l with ⟨h1, h2⟩ | ⟨a, b, h1, h2, h3⟩
      · left; rw [h2]; exact ⟨by simp; exact ⟨fun e => h e.symm, h1⟩, by simp⟩
      · right; refine ⟨x :: a, b, by simp [h1], by simp; exact ⟨fun e => h e.symm, h2⟩, ?_⟩
        rw [h3, if_neg (by simp)]; simp

theorem dbl_free : ∀ {a : List UInt8}, (39 : UInt8) ∉ a → a.flatMap dbl = a
  | [], _ => rfl
  | x :: a, h => by
    simp at h
    rw [List.flatMap_cons, dbl_free h.2, dbl, if_neg (fun e => h.1 e.symm)]; rfl

theorem replaceK_dbl : ∀ (k : Nat) (s : List UInt8), s.count 39 ≤ k → Lib.replaceK [39] [39, 39] k s = s.flatMap dbl
  | 0, s, h => by
    have : (39 : UInt8) ∉ s := List.count_eq_zero.1 (by omega)
    rw [dbl_free this]; rfl
  | k + 1, s, h => by
    unfold Lib.replaceK
    rw [Lib.index_one]
    rcases index_cases 39 s with ⟨h1, h2⟩ | ⟨a, b, h1, h2, h3⟩
    · rw [h2, dbl_free h1]; rfl
    · have hc : b.count 39 ≤ k := by rw [h1, List.count_append, List.count_cons_self] at h; omega
      rw [h3, if_neg (by simp)]
      have e1 : ((a.length : Nat) : Int).toNat = a.length := by simp
      rw [e1, h1]
      have e2 : (a ++ 39 :: b).drop (a.length + ([39] : List UInt8).length) = b := by simp
      rw [e2, replaceK_dbl k b hc, List.flatMap_append, List.flatMap_cons, dbl_free h2]
      simp [dbl]

theorem replaceAll_dbl (s : List UInt8) : Lib.replaceAll s [39] [39, 39] = s.flatMap dbl := by
  unfold Lib.replaceAll Lib.replace
  rw [if_neg (by decide)]
  exact replaceK_dbl _ _ (by unfold Lib.replaceNum; rw [if_pos (by omega), Lib.count_one]; omega)

theorem dbl_length (s : List UInt8) : (s.flatMap dbl).length ≤ 2 * s.length := by
  induction s with
  | nil => simp
  | cons x s ih => rw [List.flatMap_cons, List.length_append, List.length_cons]; have : (dbl x).length ≤ 2 := by unfold dbl; split <;> simp
                   omega


/-! ### a piece's text -/
def pieceT (p : Pc) : List UInt8 :=
  if p.f_Kind = 0 then p.f_Text else if p.f_Kind = 1 then [39] ++ p.f_Text.flatMap dbl ++ [39] else if p.f_Kind = 2 then [36, 123] ++ p.f_Text ++ [125]
  else if p.f_Kind = 3 then [36, 123] ++ p.f_Text ++ [58] ++ p.f_From ++ [61] ++ p.f_To ++ [125] else if p.f_Kind = 4 then [96, 123] ++ p.f_Text ++ [125] else []
theorem pieceT_len (p : Pc) (h : okP p) : (pieceT p).length ≤ 400 := by
  obtain ⟨h1, h2, h3⟩ := h
  have := dbl_length p.f_Text
  unfold pieceT
  split
  · omega
  split
  · simp only [List.length_append, List.length_cons, List.length_nil]; omega
  split
  · simp only [List.length_append, List.length_cons, List.length_nil]; omega
  split
  · simp only [List.length_append, List.length_cons, List.length_nil]; omega
  split
  · simp only [List.length_append, List.length_cons, List.length_nil]; omega
  · simp
theorem if_le {α : Type} {n : Nat} (h : n ≤ 100000) (x y : α) : (if n ≤ 9223372036854775807 then x else y) = x := if_pos (by omega)

theorem ptext_f (k : Nat) (p : Pc) (h : okP p) : lex_Piece_text.f k p = some (pieceT p) := by
  obtain ⟨h1, h2, h3⟩ := h
  have hd := dbl_length p.f_Text
  unfold lex_Piece_text.f pieceT
  by_cases k0 : p.f_Kind = 0
  · simp [k0]
  by_cases k1 : p.f_Kind = 1
  · simp only [k1]
    rw [pReplace_eq k _ _ _ (by omega) (by simp) (by simp), replaceAll_dbl]
    simp only [Int.reduceBEq, Bool.false_eq_true, if_false, if_true, Option.bind_some]
    rw [if_le (by simp only [List.length_append, List.length_cons, List.length_nil]; omega), if_le (by simp only [List.length_append, List.length_cons, List.length_nil]; omega)]
    simp
  by_cases k2 : p.f_Kind = 2
  · simp only [k2, Int.reduceBEq, Bool.false_eq_true, if_false, if_true]
    rw [if_le (by simp only [List.length_append, List.length_cons, List.length_nil]; omega), if_le (by simp only [List.length_append, List.length_cons, List.length_nil]; omega)]
    simp
  by_cases k3 : p.f_Kind = 3
  · simp only [k3, Int.reduceBEq, Bool.false_eq_true, if_false, if_true]
    rw [if_le (by simp only [List.length_append, List.length_cons, List.length_nil]; omega), if_le (by simp only [List.length_append, List.length_cons, List.length_nil]; omega), if_le (by simp only [List.length_append, List.length_cons, List.length_nil]; omega),
      if_le (by simp only [List.length_append, List.length_cons, List.length_nil]; omega), if_le (by simp only [List.length_append, List.length_cons, List.length_nil]; omega), if_le (by simp only [List.length_append, List.length_cons, List.length_nil]; omega)]
    simp
  by_cases k4 : p.f_Kind = 4
  · simp only [k4, Int.reduceBEq, Bool.false_eq_true, if_false, if_true]
    rw [if_le (by simp only [List.length_append, List.length_cons, List.length_nil]; omega), if_le (by simp only [List.length_append, List.length_cons, List.length_nil]; omega)]
    simp
  · simp [k0, k1, k2, k3, k4]

theorem wtext_loop (k : Nat) (w : List Pc) (hw : w.length ≤ 12) : ∀ (l : List Pc) (fuel i : Nat) (acc : List UInt8), w.drop i = l → l.length < fuel → (∀ p ∈ l, okP p) → acc.length + 400 * l.length ≤ 10000 → lex_Text.l5 k w fuel acc (i : Int) = some (acc ++ l.flatMap pieceT)
  | _, 0, _, _, _, h, _, _ => by omega
  | [], f + 1, i, acc, hl, _, _, _ => by
    have := at_nil hl
    unfold lex_Text.l5
    rw [if_neg (by simp; omega)]; simp
  | x :: r, f + 1, i, acc, hl, hf, hp, hb => by
    obtain ⟨g1, g2, g3⟩ := at_drop hl
    have h1 := hp x List.mem_cons_self
    have h2 := pieceT_len x h1
    simp only [List.length_cons] at hb
    unfold lex_Text.l5
    rw [if_pos (by simp; exact g3), g1]
    simp only [Option.bind_some, pc_eta]
    rw [ptext_f k x h1]
    simp only [Option.bind_some]
    rw [if_le (by omega), wr1 (by omega), wtext_loop k w hw r f (i + 1) _ g2 (by simp at hf; omega) (fun p h => hp p (List.mem_cons_of_mem _ h)) (by simp; omega)]
    simp
theorem wtext_f (k : Nat) (w : List Pc) (h : okW w) (hk : 1000 < k) : lex_Text.f k w = some (w.flatMap pieceT) := by
  obtain ⟨h1, h2⟩ := h
  unfold lex_Text.f
  have e : lex_Text.l5 k w k [] 0 = _ := wtext_loop k w h1 w k 0 [] rfl (by omega) h2 (by simp; omega)
  rw [e]; rfl

theorem rquo_loop (k : Nat) (a : List Pc) (v : Int) (p : Pc) (h : p.f_Text.length ≤ 100) : ∀ (l : List UInt8) (fuel i : Nat) (acc : List UInt8), p.f_Text.drop i = l → l.length < fuel → acc.length + 2 * l.length ≤ 10000 →
    millwrightref13_Text.l22 k a v p fuel acc (i : Int) = some (acc ++ l.flatMap dbl)
  | _, 0, _, _, _, h, _ => by omega
  | [], f + 1, i, acc, hl, _, _ => by
    have := at_nil hl
    unfold millwrightref13_Text.l22
    rw [if_neg (by simp; omega)]; simp
  | x :: r, f + 1, i, acc, hl, hf, hb => by
    obtain ⟨g1, g2, g3⟩ := at_drop hl
    simp only [List.length_cons] at hb
    unfold millwrightref13_Text.l22
    rw [if_pos (by simp; exact g3), wr1 (by omega), sub_at rfl rfl (by omega) (by omega)]
    have e1 : (p.f_Text.take (i + 1)).drop i = [x] := by
      rw [List.drop_take, hl]; simp
    rw [e1]
    simp only [Option.bind_some]
    rw [if_le (by simp; omega), g1]
    simp only [Option.bind_some]
    unfold millwrightref13_Text.j28
    have ih := fun z hz => rquo_loop k a v p h r f (i + 1) z g2 (by simp at hf; omega) hz
    by_cases hx : x = 39
    · subst hx
      rw [if_pos (by decide), if_le (by simp; omega), wr1 (by omega), ih _ (by simp; omega)]
      simp [dbl]
    · have hx' : ((x.toNat : Int) == 39) = false := by
        have := u8_eq (a := x) (b := 39)
        rw [show ((39 : UInt8).toNat : Int) = 39 from rfl] at this
        rw [this]; simpa using hx
      rw [hx', if_neg (by simp), wr1 (by omega), ih _ (by simp; omega)]
      simp [dbl, hx]

theorem rtext_loop (k : Nat) (hk : 1000 < k) (w : List Pc) (hw : w.length ≤ 12) : ∀ (l : List Pc) (fuel i : Nat) (acc : List UInt8), w.drop i = l → l.length < fuel → (∀ p ∈ l, okP p) → acc.length + 400 * l.length ≤ 9000 → millwrightref13_Text.l5 k w fuel acc (i : Int) = some (acc ++ l.flatMap pieceT)
  | _, 0, _, _, _, h, _, _ => by omega
  | [], f + 1, i, acc, hl, _, _, _ => by
    have := at_nil hl
    unfold millwrightref13_Text.l5
    rw [if_neg (by simp; omega)]; simp
  | x :: r, f + 1, i, acc, hl, hf, hp, hb => by
    obtain ⟨g1, g2, g3⟩ := at_drop hl
    have hx := hp x List.mem_cons_self
    have h2 := pieceT_len x hx
    obtain ⟨q1, q2, q3⟩ := hx
    have hd := dbl_length x.f_Text
    simp only [List.length_cons] at hb
    have ih := fun z hz => rtext_loop k hk w hw r f (i + 1) z g2 (by simp at hf; omega) (fun p h => hp p (List.mem_cons_of_mem _ h)) hz
    rw [List.flatMap_cons, ← List.append_assoc]
    unfold millwrightref13_Text.l5
    rw [if_pos (by simp; exact g3), g1]
    simp only [Option.bind_some]
    unfold millwrightref13_Text.j11 millwrightref13_Text.j19
    rw [wr1 (by omega)]
    generalize r.flatMap pieceT = R at ih ⊢
    unfold pieceT at h2 ⊢
    by_cases k0 : x.f_Kind = 0
    · simp only [k0, Int.reduceBEq, Int.reduceEq, Bool.false_eq_true, if_false, if_true] at h2 ⊢
      rw [if_le (by omega), ih _ (by simp; omega)]
    by_cases k1 : x.f_Kind = 1
    · simp only [k1, Int.reduceBEq, Int.reduceEq, Bool.false_eq_true, if_false, if_true] at h2 ⊢
      rw [if_le (by simp; omega)]
      have e : millwrightref13_Text.l22 k w (i : Int) x k (acc ++ [39]) 0 = _ := rquo_loop k w (i : Int) x q1 x.f_Text k 0 (acc ++ [39]) rfl (by omega) (by simp; omega)
      rw [e]
      simp only [Option.bind_some]
      unfold millwrightref13_Text.j11
      rw [if_le (by simp only [List.length_append, List.length_cons, List.length_nil]; omega), wr1 (by omega), ih _ (by simp only [List.length_append, List.length_cons, List.length_nil]; omega)]
      simp
    by_cases k2 : x.f_Kind = 2
    · simp only [k2, Int.reduceBEq, Int.reduceEq, Bool.false_eq_true, if_false, if_true] at h2 ⊢
      rw [if_le (by simp only [List.length_append, List.length_cons, List.length_nil]; omega), if_le (by simp only [List.length_append, List.length_cons, List.length_nil]; omega), if_le (by simp only [List.length_append, List.length_cons, List.length_nil] at h2 ⊢; omega), ih _ (by simp only [List.length_append, List.length_cons, List.length_nil] at h2 ⊢; omega)]
    by_cases k3 : x.f_Kind = 3
    · simp only [k3, Int.reduceBEq, Int.reduceEq, Bool.false_eq_true, if_false, if_true] at h2 ⊢
      rw [if_le (by simp only [List.length_append, List.length_cons, List.length_nil]; omega), if_le (by simp only [List.length_append, List.length_cons, List.length_nil]; omega), if_le (by simp only [List.length_append, List.length_cons, List.length_nil]; omega),
        if_le (by simp only [List.length_append, List.length_cons, List.length_nil]; omega), if_le (by simp only [List.length_append, List.length_cons, List.length_nil]; omega), if_le (by simp only [List.length_append, List.length_cons, List.length_nil]; omega),
        if_le (by simp only [List.length_append, List.length_cons, List.length_nil] at h2 ⊢; omega), ih _ (by simp only [List.length_append, List.length_cons, List.length_nil] at h2 ⊢; omega)]
    by_cases k4 : x.f_Kind = 4
    · simp only [k4, Int.reduceBEq, Int.reduceEq, Bool.false_eq_true, if_false, if_true] at h2 ⊢
      rw [if_le (by simp only [List.length_append, List.length_cons, List.length_nil]; omega), if_le (by simp only [List.length_append, List.length_cons, List.length_nil]; omega), if_le (by simp only [List.length_append, List.length_cons, List.length_nil] at h2 ⊢; omega), ih _ (by simp only [List.length_append, List.length_cons, List.length_nil] at h2 ⊢; omega)]
    · have e0 : (x.f_Kind == 0) = false := by simpa using k0
      have e1 : (x.f_Kind == 1) = false := by simpa using k1
      have e2 : (x.f_Kind == 2) = false := by simpa using k2
      have e3 : (x.f_Kind == 3) = false := by simpa using k3
      have e4 : (x.f_Kind == 4) = false := by simpa using k4
      simp only [e0, e1, e2, e3, e4, k0, k1, k2, k3, k4, Bool.false_eq_true, if_false]
      rw [ih _ (by omega)]
      simp
theorem rtext_f (k : Nat) (w : List Pc) (h : okW w) (hk : 1000 < k) : millwrightref13_Text.f k w = some (w.flatMap pieceT) := by
  obtain ⟨h1, h2⟩ := h
  unfold millwrightref13_Text.f
  have e : millwrightref13_Text.l5 k w k [] 0 = _ := rtext_loop k hk w h1 w k 0 [] rfl (by omega) h2 (by simp; omega)
  rw [e]; rfl

/-! ### what a word says -/
def lit (p : Pc) : Bool := p.f_Kind == 0 || p.f_Kind == 1
theorem lit_loop (k : Nat) (w : List Pc) (hw : w.length ≤ 12) : ∀ (l : List Pc) (fuel i : Nat) (acc : List UInt8), w.drop i = l → l.length < fuel → (∀ p ∈ l, okP p) → acc.length + 100 * l.length ≤ 10000 →
    lex_Literal.l5 k w fuel acc (i : Int) = some (if l.all lit then .inl (acc ++ l.flatMap (·.f_Text)) else .inr ([], false))
  | _, 0, _, _, _, h, _, _ => by omega
  | [], f + 1, i, acc, hl, _, _, _ => by
    have := at_nil hl
    unfold lex_Literal.l5
    rw [if_neg (by simp; omega)]; simp
  | x :: r, f + 1, i, acc, hl, hf, hp, hb => by
    obtain ⟨g1, g2, g3⟩ := at_drop hl
    obtain ⟨q1, q2, q3⟩ := hp x List.mem_cons_self
    simp only [List.length_cons] at hb
    unfold lex_Literal.l5
    rw [if_pos (by simp; exact g3), g1]
    simp only [Option.bind_some]
    unfold lex_Literal.j17 lex_Literal.j14 lex_Literal.j11
    have ih := lit_loop k w hw r f (i + 1) (acc ++ x.f_Text) g2 (by simp at hf; omega) (fun p h => hp p (List.mem_cons_of_mem _ h)) (by simp; omega)
    rw [if_le (by omega), wr1 (by omega), ih]
    by_cases k0 : x.f_Kind = 0
    · simp [k0, lit]
    by_cases k1 : x.f_Kind = 1
    · simp [k1, lit]
    · simp [k0, k1, lit]
theorem lit_f (k : Nat) (w : List Pc) (h : okW w) (hk : 1000 < k) : lex_Literal.f k w = some (if w.all lit then (w.flatMap (·.f_Text), true) else ([], false)) := by
  obtain ⟨h1, h2⟩ := h
  unfold lex_Literal.f
  have e : lex_Literal.l5 k w k [] 0 = _ := lit_loop k w h1 w k 0 [] rfl (by omega) h2 (by simp; omega)
  rw [e]
  cases w.all lit <;> simp [lex_Literal.j2]

theorem says_loop (k : Nat) (a b : List (List Pc)) (v : Int) (w : List Pc) (hw : w.length ≤ 12) : ∀ (l : List Pc) (fuel i : Nat) (acc : List UInt8) (c : Bool), w.drop i = l → l.length < fuel → (∀ p ∈ l, okP p) → acc.length + 100 * l.length ≤ 10000 →
    millwrightlaw13_LexTexts.l35 k a b v w fuel acc c (i : Int) = some (acc ++ l.flatMap (·.f_Text), c && l.all lit)
  | _, 0, _, _, _, _, h, _, _ => by omega
  | [], f + 1, i, acc, c, hl, _, _, _ => by
    have := at_nil hl
    unfold millwrightlaw13_LexTexts.l35
    rw [if_neg (by simp; omega)]; simp
  | x :: r, f + 1, i, acc, c, hl, hf, hp, hb => by
    obtain ⟨g1, g2, g3⟩ := at_drop hl
    obtain ⟨q1, q2, q3⟩ := hp x List.mem_cons_self
    simp only [List.length_cons] at hb
    unfold millwrightlaw13_LexTexts.l35
    rw [if_pos (by simp; exact g3), g1]
    simp only [Option.bind_some]
    unfold millwrightlaw13_LexTexts.j47 millwrightlaw13_LexTexts.j43
    have ih := fun c => says_loop k a b v w hw r f (i + 1) (acc ++ x.f_Text) c g2 (by simp at hf; omega) (fun p h => hp p (List.mem_cons_of_mem _ h)) (by simp; omega)
    simp only [if_le (show acc.length + x.f_Text.length ≤ 100000 by omega), wr1 (show i < 1000000 by omega), ih]
    cases c
    · simp
    · by_cases k0 : x.f_Kind = 0
      · simp [k0, lit]
      · have kb : (x.f_Kind == 0) = false := by simpa using k0
        simp [k0, lit, kb]

theorem law_loop (k : Nat) (hk : 1000 < k) (a b : List (List Pc)) (ha : a.length ≤ 12) : ∀ (l : List (List Pc)) (fuel i : Nat), a.drop i = l → l.length < fuel → (∀ w ∈ l, okW w) → millwrightlaw13_LexTexts.l11 k a b fuel (i : Int) = some (.inl ())
  | _, 0, _, _, h, _ => by omega
  | [], f + 1, i, hl, _, _ => by
    have := at_nil hl
    unfold millwrightlaw13_LexTexts.l11
    rw [if_neg (by simp; omega)]
  | x :: r, f + 1, i, hl, hf, hp => by
    obtain ⟨g1, g2, g3⟩ := at_drop hl
    have hx := hp x List.mem_cons_self
    have hx1 := hx.1
    unfold millwrightlaw13_LexTexts.l11
    rw [if_pos (by simp; exact g3), g1]
    simp only [Option.bind_some]
    have e : millwrightlaw13_LexTexts.l35 k a b (i : Int) x k [] true 0 = _ := says_loop k a b (i : Int) x hx.1 x k 0 [] true rfl (by omega) hx.2 (by simp; omega)
    rw [e]
    simp only [Option.bind_some, List.nil_append, Bool.true_and]
    have ih := law_loop k hk a b ha r f (i + 1) g2 (by simp at hf; omega) (fun w h => hp w (List.mem_cons_of_mem _ h))
    unfold millwrightlaw13_LexTexts.j31 millwrightlaw13_LexTexts.j29
    rw [lit_f k x hx hk, wtext_f k x hx hk, word_f k x (by omega) hk]
    simp only [Option.bind_some]
    rw [rtext_f k x hx hk]
    simp only [Option.bind_some]
    unfold millwrightlaw13_LexTexts.j23 millwrightlaw13_LexTexts.j15
    rw [wr1 (by omega), ih]
    cases x.all lit <;> simp

theorem alive13_eq : millwrightlaw13_alive.f 2000 = some true := by decide +kernel

theorem lexTexts_true (a0 a1 : List (List Pc)) (_ : Wf Un (.list (.list (.named 3))) a0) (_ : Wf Un (.list (.list (.named 3))) a1) : ∃ k, millwrightlaw13_LexTexts.f k a0 a1 = some true := by
  refine ⟨2000, ?_⟩
  unfold millwrightlaw13_LexTexts.f
  rw [alive13_eq]
  simp only [Option.bind_some, Bool.not_true, Bool.false_eq_true, if_false]
  obtain ⟨b, e1, e2⟩ := long_f 2000 (by omega) a0
  rw [e1]
  simp only [Option.bind_some]
  unfold millwrightlaw13_LexTexts.j56
  cases b with
  | true => simp
  | false =>
    obtain ⟨h1, h2⟩ := e2 rfl
    obtain ⟨c, e3, e4⟩ := long_f 2000 (by omega) a1
    rw [e3]
    simp only [Bool.false_eq_true, if_false, Option.bind_some]
    cases c with
    | true => simp
    | false =>
      obtain ⟨h3, h4⟩ := e4 rfl
      have w0 : ∀ w ∈ a0, w.length ≤ 1000 := fun w hw => by have := (h2 w hw).1; omega
      have w1 : ∀ w ∈ a1, w.length ≤ 1000 := fun w hw => by have := (h4 w hw).1; omega
      simp only [Bool.false_eq_true, if_false]
      unfold millwrightlaw13_LexTexts.j53
      have e5 : millwrightlaw13_LexTexts.l11 2000 a0 a1 2000 0 = _ := law_loop 2000 (by omega) a0 a1 h1 a0 2000 0 rfl (by omega) h2
      rw [e5]
      simp only [Option.bind_some]
      unfold millwrightlaw13_LexTexts.j9
      rw [same_f 2000 (by omega) a0 a1 (by omega) w0, of_f 2000 (by omega) a0 (by omega) w0, of_f 2000 (by omega) a1 (by omega) w1]
      simp only [Option.bind_some]
      rw [rsame_f 2000 (by omega) a0 a1 (by omega) w0, same_f 2000 (by omega) a0 a0 (by omega) w0, eqL_refl _ (eqL_refl _ peq_refl)]
      simp
end Go.Proofs.YtnbnfjgedinlbabDoor
