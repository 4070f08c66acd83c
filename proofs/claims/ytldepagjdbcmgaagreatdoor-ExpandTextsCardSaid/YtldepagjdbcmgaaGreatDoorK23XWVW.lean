/- The words of a text, as the code has them. -/
import Derived.Test.YtldepagjdbcmgaaGreatDoorK23XWVZ
namespace Go.Proofs.YtldepagjdbcmgaaGreatDoor.Lx
open Go Go.AM Go.ChangeShapes Go.ChangeAt Go.RowKit
set_option linter.unusedVariables false
set_option linter.unusedSimpArgs false
set_option maxRecDepth 100000
theorem inner_loop (k : Nat) (s : List UInt8) (hs : s.length ≤ 100000) (hk : s.length < k) (out : List (List Pc)) : ∀ (m n : Nat) (i : Int) (r : List UInt8) (acc : List Pc), At s i r → r.length < m → r.length < n → acc.length + r.length ≤ s.length →
    (∃ w r' j, wordT m r = some (w, r') ∧ lex_Words.l17 k s out n i 0 acc = some (.inl (j, 0, acc ++ w)) ∧ At s j r') ∨
    (wordT m r = none ∧ ∃ e, e ≠ 0 ∧ lex_Words.l17 k s out n i 0 acc = some (.inr ([], e)))
  | 0, n, i, r, acc, _, h, _, _ => by omega
  | m + 1, 0, i, r, acc, _, _, h, _ => by omega
  | m + 1, n + 1, i, [], acc, ha, _, _, _ => by
    left
    refine ⟨[], [], i, rfl, ?_, ha⟩
    unfold lex_Words.l17 lex_Words.j29
    rw [if_neg (by simpa using ha.nil), if_neg (by decide)]; simp
  | m + 1, n + 1, i, b :: r, acc, ha, hm, hn, hac => by
    obtain ⟨g1, g2, g3⟩ := ha.step hs
    have hLIM : LIM = 4294967296 := rfl
    have hwT : wordT (m + 1) (b :: r) = if bl b then some ([], b :: r) else if (tokE (b :: r)).2.2 = 0 then (wordT m (tokE (b :: r)).2.1).map fun x => ((tokE (b :: r)).1 :: x.1, x.2) else none := rfl
    unfold lex_Words.l17 lex_Words.j29
    rw [if_pos (by simpa using g3), g2, Option.bind_some, bl_eq, Option.bind_some]
    cases hb : bl b with
    | true => left; rw [hb, if_pos rfl] at hwT; exact ⟨[], b :: r, i, hwT, by simp, ha⟩
    | false =>
      rw [hb, if_neg (by decide)] at hwT
      obtain ⟨j, f1, f2⟩ := piece_eq k s hs hk i b r ha
      simp only [Bool.not_false, if_true]
      unfold lex_Words.j26
      rw [f1, Option.bind_some]
      simp only [List.length_cons, List.length_nil] at hac hm hn ⊢
      rw [if_pos (by omega)]
      by_cases he : (tokE (b :: r)).2.2 = 0
      · obtain ⟨q1, q2, _⟩ := tok_fine b r hb he
        simp only [List.length_cons] at q2
        rw [he, if_pos rfl] at hwT
        rw [if_neg (by simp [he]), he]
        rcases inner_loop k s hs hk out m n j (tokE (b :: r)).2.1 (acc ++ [(tokE (b :: r)).1]) f2 (by omega) (by omega) (by simp; omega) with ⟨w, r', j', h1, h2, h3⟩ | ⟨h1, e, h2, h3⟩
        · left
          refine ⟨(tokE (b :: r)).1 :: w, r', j', by rw [hwT, h1]; rfl, by rw [h2]; simp, h3⟩
        · right
          exact ⟨by rw [hwT, h1]; rfl, e, h2, h3⟩
      · right
        rw [if_neg he] at hwT
        rw [if_pos (by simp [he])]
        exact ⟨hwT, _, he, rfl⟩
theorem words_loop (k : Nat) (s : List UInt8) (hs : s.length ≤ 100000) (hk : s.length < k) : ∀ (m n : Nat) (i : Int) (r : List UInt8) (acc : List (List Pc)), At s i r → r.length < m → r.length < n → acc.length + r.length ≤ s.length →
    (∃ l, wordsT m r = some l ∧ lex_Words.l4 k s n i 0 acc = some (acc ++ l, 0)) ∨
    (wordsT m r = none ∧ ∃ e, e ≠ 0 ∧ lex_Words.l4 k s n i 0 acc = some ([], e))
  | 0, n, i, r, acc, _, h, _, _ => by omega
  | m + 1, 0, i, r, acc, _, _, h, _ => by omega
  | m + 1, n + 1, i, r, acc, ha, hm, hn, hac => by
    have hLIM : LIM = 4294967296 := rfl
    obtain ⟨j, h1, h2⟩ := take0_eq k s hs hk i r 0 ha
    have hdl := dw_len bl r
    have hwT : wordsT (m + 1) r = if r.dropWhile bl = [] then some [] else (wordT ((r.dropWhile bl).length + 1) (r.dropWhile bl)).bind fun x => (wordsT m x.2).map (x.1 :: ·) := rfl
    unfold lex_Words.l4
    rw [h1, Option.bind_some]
    simp only
    cases hr : r.dropWhile bl with
    | nil =>
      rw [hr] at h2
      left
      rw [hr, if_pos rfl] at hwT
      refine ⟨[], hwT, ?_⟩
      rw [if_pos (by have := h2.nil; simp; omega)]; simp
    | cons b t =>
      have hb : bl b = false := dw_hd bl r b (by rw [hr]; rfl)
      rw [hr] at h2 hdl
      obtain ⟨_, _, g3⟩ := h2.step hs
      simp only [List.length_cons] at hdl
      rw [hr, if_neg (by simp)] at hwT
      rw [if_neg (by rw [decide_eq_true_eq]; omega)]
      have hsl := h2.len
      simp only [List.length_cons] at hsl
      rcases inner_loop k s hs hk acc ((b :: t).length + 1) k j (b :: t) [] h2 (by omega) (by simp only [List.length_cons]; omega) (by simp only [List.length_cons, List.length_nil]; omega) with ⟨w, r', j', e1, e2, e3⟩ | ⟨e1, e, e2, e3⟩
      · obtain ⟨q1, q2⟩ := word_ne hb e1
        simp only [List.length_cons] at q2
        rw [e1, Option.bind_some] at hwT
        rw [e2]
        simp only [Option.bind_some, List.nil_append]
        unfold lex_Words.j13
        rw [if_pos (by simp only [List.length_cons, List.length_nil]; omega)]
        rcases words_loop k s hs hk m n j' r' (acc ++ [w]) e3 (by omega) (by omega) (by simp; omega) with ⟨l, k1, k2⟩ | ⟨k1, e, k2, k3⟩
        · left
          exact ⟨w :: l, by rw [hwT, k1]; rfl, by rw [k2]; simp⟩
        · right
          exact ⟨by rw [hwT, k1]; rfl, e, k2, k3⟩
      · right
        rw [e1] at hwT
        rw [e3]
        exact ⟨hwT, e, e2, rfl⟩
theorem words_eq (k : Nat) (s : List UInt8) (hs : s.length ≤ 100000) (hk : s.length < k) : (∃ l, wordsT (s.length + 1) s = some l ∧ lex_Words.f k s = some (l, 0)) ∨ (wordsT (s.length + 1) s = none ∧ ∃ e, e ≠ 0 ∧ lex_Words.f k s = some ([], e)) := by
  unfold lex_Words.f
  rcases words_loop k s hs hk (s.length + 1) k 0 s [] ⟨0, rfl, by omega, rfl⟩ (by omega) hk (by simp) with ⟨l, h1, h2⟩ | ⟨h1, e, h2, h3⟩
  · left; exact ⟨l, h1, by rw [h2]; simp⟩
  · right; exact ⟨h1, e, h2, by rw [h3]; simp⟩

end Go.Proofs.YtldepagjdbcmgaaGreatDoor.Lx
