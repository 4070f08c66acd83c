/- A part of the proof of a given law: LBVLexBack. Own work, printed in part by a program of mine. -/
import Derived.Test.YtnbnfjgedinlbabDoorK3LBVC
namespace Go.Proofs.YtnbnfjgedinlbabDoor
open Go Go.AM Go.ChangeShapes Go.ChangeAt Go.RowKit
set_option linter.unusedVariables false
set_option linter.unusedSimpArgs false
set_option maxRecDepth 100000

/-! ### words -/
theorem inner_loop (k : Nat) (s : List UInt8) (hs : s.length ≤ 100000) (hk : s.length < k) (out : List (List Pc)) : ∀ (m n : Nat) (i : Int) (r : List UInt8) (acc : List Pc), At s i r → r.length < m → r.length < n → acc.length + r.length ≤ s.length →
    (∃ w r' j, wordT m r = some (w, r') ∧ lex_Words.l17 k s out n i 0 acc = some (.inl (j, 0, acc ++ w)) ∧ At s j r') ∨
    (wordT m r = none ∧ ∃ e, e ≠ 0 ∧ lex_Words.l17 k s out n i 0 acc = some (.inr ([], e)))
  | 0, n, i, r, acc, _, h, _, _ => by omega
  | m + 1, 0, i, r, acc, _, _, h, _ => by omega
  | m + 1, n + 1, i, [], acc, ha, _, _, _ => by
    left
    refine ⟨[], [], i, rfl, ?_, ha⟩
    unfold lex_Words.l17 lex_Words.j29
    rw [if_neg (by simpa using ha.nil), if_neg (by decide)]; simp
  | m + 1, n + 1, i, b :: r, acc, ha, hm, hn, hac => by
    obtain ⟨g1, g2, g3⟩ := ha.step hs
    have hLIM : LIM = 4294967296 := rfl
    have hwT : wordT (m + 1) (b :: r) = if bl b then some ([], b :: r) else if (tokE (b :: r)).2.2 = 0 then (wordT m (tokE (b :: r)).2.1).map fun x => ((tokE (b :: r)).1 :: x.1, x.2) else none := rfl
    unfold lex_Words.l17 lex_Words.j29
    rw [if_pos (by simpa using g3), g2, Option.bind_some, bl_eq, Option.bind_some]
    cases hb : bl b with
    | true => left; rw [hb, if_pos rfl] at hwT; exact ⟨[], b :: r, i, hwT, by simp, ha⟩
    | false =>
      rw [hb, if_neg (by decide)] at hwT
      obtain ⟨j, f1, f2⟩ := piece_eq k s hs hk i b r ha
      simp only [Bool.not_false, if_true]
      unfold lex_Words.j26
      rw [f1, Option.bind_some]
      simp only [List.length_cons, List.length_nil] at hac hm hn ⊢
      rw [if_pos (by omega)]
      by_cases he : (tokE (b :: r)).2.2 = 0
      · obtain ⟨q1, q2, _⟩ := tok_fine b r hb he
        simp only [List.length_cons] at q2
        rw [he, if_pos rfl] at hwT
        rw [if_neg (by simp [he]), he]
        rcases inner_loop k s hs hk out m n j (tokE (b :: r)).2.1 (acc ++ [(tokE (b :: r)).1]) f2 (by omega) (by omega) (by simp; omega) with ⟨w, r', j', h1, h2, h3⟩ | ⟨h1, e, h2, h3⟩
        · left
          refine ⟨(tokE (b :: r)).1 :: w, r', j', by rw [hwT, h1]; rfl, by rw [h2]; simp, h3⟩
        · right
          exact ⟨by rw [hwT, h1]; rfl, e, h2, h3⟩
      · right
        rw [if_neg he] at hwT
        rw [if_pos (by simp [he])]
        exact ⟨hwT, _, he, rfl⟩
theorem words_loop (k : Nat) (s : List UInt8) (hs : s.length ≤ 100000) (hk : s.length < k) : ∀ (m n : Nat) (i : Int) (r : List UInt8) (acc : List (List Pc)), At s i r → r.length < m → r.length < n → acc.length + r.length ≤ s.length →
    (∃ l, wordsT m r = some l ∧ lex_Words.l4 k s n i 0 acc = some (acc ++ l, 0)) ∨
    (wordsT m r = none ∧ ∃ e, e ≠ 0 ∧ lex_Words.l4 k s n i 0 acc = some ([], e))
  | 0, n, i, r, acc, _, h, _, _ => by omega
  | m + 1, 0, i, r, acc, _, _, h, _ => by omega
  | m + 1, n + 1, i, r, acc, ha, hm, hn, hac => by
    have hLIM : LIM = 4294967296 := rfl
    obtain ⟨j, h1, h2⟩ := take0_eq k s hs hk i r 0 ha
    have hdl := dw_len bl r
    have hwT : wordsT (m + 1) r = if r.dropWhile bl = [] then some [] else (wordT ((r.dropWhile bl).length + 1) (r.dropWhile bl)).bind fun x => (wordsT m x.2).map (x.1 :: ·) := rfl
    unfold lex_Words.l4
    rw [h1, Option.bind_some]
    simp only
    cases hr : r.dropWhile bl with
    | nil =>
      rw [hr] at h2
      left
      rw [hr, if_pos rfl] at hwT
      refine ⟨[], hwT, ?_⟩
      rw [if_pos (by have := h2.nil; simp; omega)]; simp
    | cons b t =>
      have hb : bl b = false := dw_hd bl r b (by rw [hr]; rfl)
      rw [hr] at h2 hdl
      obtain ⟨_, _, g3⟩ := h2.step hs
      simp only [List.length_cons] at hdl
      rw [hr, if_neg (by simp)] at hwT
      rw [if_neg (by rw [decide_eq_true_eq]; omega)]
      have hsl := h2.len
      simp only [List.length_cons] at hsl
      rcases inner_loop k s hs hk acc ((b :: t).length + 1) k j (b :: t) [] h2 (by omega) (by simp only [List.length_cons]; omega) (by simp only [List.length_cons, List.length_nil]; omega) with ⟨w, r', j', e1, e2, e3⟩ | ⟨e1, e, e2, e3⟩
      · obtain ⟨q1, q2⟩ := word_ne hb e1
        simp only [List.length_cons] at q2
        rw [e1, Option.bind_some] at hwT
        rw [e2]
        simp only [Option.bind_some, List.nil_append]
        unfold lex_Words.j13
        rw [if_pos (by simp only [List.length_cons, List.length_nil]; omega)]
        rcases words_loop k s hs hk m n j' r' (acc ++ [w]) e3 (by omega) (by omega) (by simp; omega) with ⟨l, k1, k2⟩ | ⟨k1, e, k2, k3⟩
        · left
          exact ⟨w :: l, by rw [hwT, k1]; rfl, by rw [k2]; simp⟩
        · right
          exact ⟨by rw [hwT, k1]; rfl, e, k2, k3⟩
      · right
        rw [e1] at hwT
        rw [e3]
        exact ⟨hwT, e, e2, rfl⟩
theorem words_eq (k : Nat) (s : List UInt8) (hs : s.length ≤ 100000) (hk : s.length < k) : (∃ l, wordsT (s.length + 1) s = some l ∧ lex_Words.f k s = some (l, 0)) ∨ (wordsT (s.length + 1) s = none ∧ ∃ e, e ≠ 0 ∧ lex_Words.f k s = some ([], e)) := by
  unfold lex_Words.f
  rcases words_loop k s hs hk (s.length + 1) k 0 s [] ⟨0, rfl, by omega, rfl⟩ (by omega) hk (by simp) with ⟨l, h1, h2⟩ | ⟨h1, e, h2, h3⟩
  · left; exact ⟨l, h1, by rw [h2]; simp⟩
  · right; exact ⟨h1, e, h2, by rw [h3]; simp⟩

/-! ### a word's text -/
theorem if_le {α : Type} {n : Nat} (h : n ≤ 100000) (x y : α) : (if n ≤ 9223372036854775807 then x else y) = x := if_pos (by omega)
theorem ptext_f (k : Nat) (p : Pc) (h : smallP 300 p) : lex_Piece_text.f k p = some (pieceT p) := by
  obtain ⟨h1, h2, h3⟩ := h
  have hd := dbl_length p.f_Text
  unfold lex_Piece_text.f pieceT
  by_cases k0 : p.f_Kind = 0
  · simp [k0]
  by_cases k1 : p.f_Kind = 1
  · simp only [k1]
    rw [pReplace_eq k _ _ _ (by omega) (by simp) (by simp), replaceAll_dbl]
    simp only [Int.reduceBEq, Bool.false_eq_true, if_false, if_true, Option.bind_some]
    rw [if_le (by simp only [List.length_append, List.length_cons, List.length_nil]; omega), if_le (by simp only [List.length_append, List.length_cons, List.length_nil]; omega)]
    simp
  by_cases k2 : p.f_Kind = 2
  · simp only [k2, Int.reduceBEq, Bool.false_eq_true, if_false, if_true]
    rw [if_le (by simp only [List.length_append, List.length_cons, List.length_nil]; omega), if_le (by simp only [List.length_append, List.length_cons, List.length_nil]; omega)]
    simp
  by_cases k3 : p.f_Kind = 3
  · simp only [k3, Int.reduceBEq, Bool.false_eq_true, if_false, if_true]
    rw [if_le (by simp only [List.length_append, List.length_cons, List.length_nil]; omega), if_le (by simp only [List.length_append, List.length_cons, List.length_nil]; omega), if_le (by simp only [List.length_append, List.length_cons, List.length_nil]; omega),
      if_le (by simp only [List.length_append, List.length_cons, List.length_nil]; omega), if_le (by simp only [List.length_append, List.length_cons, List.length_nil]; omega), if_le (by simp only [List.length_append, List.length_cons, List.length_nil]; omega)]
    simp
  by_cases k4 : p.f_Kind = 4
  · simp only [k4, Int.reduceBEq, Bool.false_eq_true, if_false, if_true]
    rw [if_le (by simp only [List.length_append, List.length_cons, List.length_nil]; omega), if_le (by simp only [List.length_append, List.length_cons, List.length_nil]; omega)]
    simp
  · simp [k0, k1, k2, k3, k4]
theorem wtext_loop (k : Nat) (w : List Pc) (hw : w.length ≤ 300) : ∀ (l : List Pc) (fuel i : Nat) (acc : List UInt8), w.drop i = l → l.length < fuel → (∀ p ∈ l, smallP 300 p) → acc.length + (l.flatMap pieceT).length ≤ 10000 → lex_Text.l5 k w fuel acc (i : Int) = some (acc ++ l.flatMap pieceT)
  | _, 0, _, _, _, h, _, _ => by omega
  | [], f + 1, i, acc, hl, _, _, _ => by
    have := at_nil hl
    unfold lex_Text.l5
    rw [if_neg (by simp; omega)]; simp
  | x :: r, f + 1, i, acc, hl, hf, hp, hb => by
    obtain ⟨g1, g2, g3⟩ := at_drop hl
    rw [List.flatMap_cons, List.length_append] at hb
    unfold lex_Text.l5
    rw [if_pos (by simp; exact g3), g1]
    simp only [Option.bind_some, pc_eta]
    rw [ptext_f k x (hp x List.mem_cons_self), Option.bind_some, if_le (by omega), wr1 (by omega), wtext_loop k w hw r f (i + 1) _ g2 (by simpa using hf) (fun p h => hp p (List.mem_cons_of_mem _ h)) (by rw [List.length_append]; omega)]
    simp
theorem wtext_f (k : Nat) (hk : 1000 < k) (w : List Pc) (hw : w.length ≤ 300) (hp : ∀ p ∈ w, smallP 300 p) (hb : (w.flatMap pieceT).length ≤ 10000) : lex_Text.f k w = some (w.flatMap pieceT) := by
  unfold lex_Text.f
  have e : lex_Text.l5 k w k [] 0 = _ := wtext_loop k w hw w k 0 [] rfl (by omega) hp (by simpa using hb)
  rw [e]; rfl
theorem back_loop (k : Nat) (hk : 1000 < k) (v : List (List Pc) × Nat) (hv : v.1.length ≤ 300) : ∀ (l : List (List Pc)) (fuel i : Nat) (acc : List UInt8), v.1.drop i = l → l.length < fuel → (∀ w ∈ l, w.length ≤ 300 ∧ ∀ p ∈ w, smallP 300 p) → acc.length + (wtx l).length ≤ 10000 →
    millwrightlaw13_LexBack.l13 k v fuel acc (i : Int) = some (acc ++ wtx l)
  | _, 0, _, _, _, h, _, _ => by omega
  | [], f + 1, i, acc, hl, _, _, _ => by
    have := at_nil hl
    unfold millwrightlaw13_LexBack.l13
    rw [if_neg (by simp; omega)]; simp [wtx]
  | x :: r, f + 1, i, acc, hl, hf, hp, hb => by
    obtain ⟨g1, g2, g3⟩ := at_drop hl
    have e : wtx (x :: r) = 32 :: (x.flatMap pieceT ++ wtx r) := by simp [wtx]
    rw [e, List.length_cons, List.length_append] at hb
    obtain ⟨h1, h2⟩ := hp x List.mem_cons_self
    unfold millwrightlaw13_LexBack.l13
    rw [if_pos (by simp; exact g3), g1, Option.bind_some, wtext_f k hk x h1 h2 (by omega), Option.bind_some, if_le (by simp only [List.length_cons, List.length_nil]; omega), if_le (by simp only [List.length_append, List.length_cons, List.length_nil]; omega), wr1 (by omega),
      back_loop k hk v hv r f (i + 1) _ g2 (by simpa using hf) (fun p h => hp p (List.mem_cons_of_mem _ h)) (by simp only [List.length_append, List.length_cons, List.length_nil]; omega), e]
    simp

theorem alive13_eq : millwrightlaw13_alive.f 8000 = some true := by decide +kernel

theorem lexBack_true (a0 : List UInt8) (_ : Wf Un .str a0) : ∃ k, millwrightlaw13_LexBack.f k a0 = some true := by
  refine ⟨8000, ?_⟩
  unfold millwrightlaw13_LexBack.f
  rw [alive13_eq]
  simp only [Option.bind_some, Bool.not_true, Bool.false_eq_true, if_false]
  by_cases hl : (a0.length : Int) > 300
  · rw [if_pos (by simpa using hl)]
  rw [if_neg (by simpa using hl)]
  rcases words_eq 8000 a0 (by omega) (by omega) with ⟨l, h1, h2⟩ | ⟨h1, e, h2, h3⟩
  · obtain ⟨j1, j2, j3, j4⟩ := words_good _ _ _ h1
    rw [h2, Option.bind_some, if_neg (by simp)]
    have e0 : millwrightlaw13_LexBack.l13 8000 (l, 0) 8000 [] 0 = _ := back_loop 8000 (by omega) (l, 0) (by simp only; omega) l 8000 0 [] rfl (by omega) (fun w hw => by
      obtain ⟨q1, q2⟩ := j4 w hw
      exact ⟨by omega, fun p hp => by obtain ⟨a, b, c⟩ := q2 p hp; exact ⟨by omega, by omega, by omega⟩⟩) (by simp only [List.length_nil]; omega)
    rw [e0, Option.bind_some, List.nil_append]
    unfold millwrightlaw13_LexBack.j10
    have hlw : l.length ≤ (wtx l).length := by
      clear e0 h1 h2 j1 j2 j3 j4
      induction l with
      | nil => simp
      | cons w l ih =>
        have e : wtx (w :: l) = 32 :: (w.flatMap pieceT ++ wtx l) := by simp [wtx]
        rw [e, List.length_cons, List.length_cons, List.length_append]; omega
    have hb := words_back l ((wtx l).length + 1) (by omega) j1
    rcases words_eq 8000 (wtx l) (by omega) (by omega) with ⟨l', k1, k2⟩ | ⟨k1, _⟩
    · rw [hb] at k1
      cases k1
      rw [k2, Option.bind_some, if_pos (by simp), same_f 8000 (by omega) l l (by omega) (fun w hw => by have := (j4 w hw).1; omega), eqL_refl _ (eqL_refl _ peq_refl)]
      rfl
    · rw [hb] at k1; cases k1
  · rw [h3, Option.bind_some, if_pos (by simpa using h2)]
    rfl
end Go.Proofs.YtnbnfjgedinlbabDoor
