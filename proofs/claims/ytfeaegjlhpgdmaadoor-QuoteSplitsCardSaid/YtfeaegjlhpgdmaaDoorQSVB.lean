/- A part of the proof of a given law: QSVB. Own work, printed in part by a program of mine. -/
import Derived.Test.YtfeaegjlhpgdmaaDoorQSVA
namespace Go.Proofs.YtfeaegjlhpgdmaaDoor
open Go Go.AM Go.ChangeShapes Go.ChangeAt Go.RowKit
set_option linter.unusedVariables false
set_option linter.unusedSimpArgs false

/-! ### the document's machine -/
abbrev MS := List (List UInt8) × Nat × List UInt8
def bl (b : UInt8) : Bool := blankI b.toNat
def norm (b : UInt8) (out : List (List UInt8)) (st : Nat) (w : List UInt8) : MS :=
  if st = 2 then (if b = 39 then (out, 3, w) else (out, 2, w ++ [b]))
  else if bl b then (if st = 1 then (out ++ [w], 0, []) else (out, 0, w))
  else if b = 39 then (out, 2, w) else (out, 1, w ++ [b])
def stp (b : UInt8) (out : List (List UInt8)) (st : Nat) (w : List UInt8) : MS :=
  if st = 3 then (if b = 39 then (out, 2, w ++ [39]) else norm b out 1 w) else norm b out st w
def run : List UInt8 → List (List UInt8) → Nat → List UInt8 → MS
  | [], out, st, w => (out, st, w)
  | b :: t, out, st, w => run t (stp b out st w).1 (stp b out st w).2.1 (stp b out st w).2.2

theorem txt_nums (w : List UInt8) : txtOf (numsOf w) = w := by
  induction w with
  | nil => rfl
  | cons x w ih =>
    have : txtOf (numsOf (x :: w)) = UInt8.ofNat ((x.toNat : Int).toNat) :: txtOf (numsOf w) := rfl
    rw [this, ih]; simp
theorem nums_app (w : List UInt8) (b : UInt8) : numsOf w ++ [(b.toNat : Int)] = numsOf (w ++ [b]) := by simp [numsOf]
theorem nums_app39 (w : List UInt8) : numsOf w ++ [(39 : Int)] = numsOf (w ++ [39]) := by simp [numsOf]
theorem nums_len (w : List UInt8) : (numsOf w).length = w.length := by simp [numsOf]

def res (r : MS) : List (List UInt8) × Int × List Int := (r.1, ((r.2.1 : Nat) : Int), numsOf r.2.2)

theorem split_loop (k : Nat) (s : List UInt8) (hs : s.length ≤ 100000) : ∀ (m i n : Nat) (v : Int) (out : List (List UInt8)) (st : Nat) (w : List UInt8), v = (i : Int) → i + m = s.length → m < n → out.length ≤ i → w.length ≤ i → st ≤ 3 →
    millwrightref11_Split.l14 k s n out (st : Int) (numsOf w) v = some (res (run (s.drop i) out st w)) := by
  intro m
  induction m with
  | zero =>
    intro i n v out st w hv hi hn ho hw hst; obtain ⟨n, rfl⟩ : ∃ m, n = m + 1 := ⟨n - 1, by omega⟩; subst hv
    unfold millwrightref11_Split.l14
    rw [if_neg (by simp; omega), List.drop_eq_nil_of_le (by omega)]; rfl
  | succ m ih =>
    intro i n v out st w hv hi hn ho hw hst; obtain ⟨n, rfl⟩ : ∃ m, n = m + 1 := ⟨n - 1, by omega⟩; subst hv
    have hlt : i < s.length := by omega
    have w1 : IntKind.i64.wrap ((i : Int) + 1) = ((i + 1 : Nat) : Int) := by rw [w64 (by omega) (by omega)]; omega
    have hLIM : LIM = 4294967296 := rfl
    unfold millwrightref11_Split.l14
    rw [if_pos (by simp; omega), idx_at rfl hlt, Option.bind_some, List.drop_eq_getElem_cons (i := i) (l := s) hlt, run]
    generalize s[i] = b
    have hnorm : ∀ st : Nat, st ≤ 2 → millwrightref11_Split.j39 k (millwrightref11_Split.l14 k s n) s out (numsOf w) (i : Int) b (st : Int) = some (res (run (s.drop (i + 1)) (norm b out st w).1 (norm b out st w).2.1 (norm b out st w).2.2)) := by
      intro st hst
      unfold millwrightref11_Split.j39 millwrightref11_Split.j34 millwrightref11_Split.j24 norm
      rw [rblank_eq, Option.bind_some, q39, w1, nums_app, txt_nums]
      by_cases h2 : st = 2
      · subst h2
        rw [if_pos (by decide), if_pos rfl]
        by_cases hb : b = 39
        · rw [if_pos (by simp [hb]), if_pos hb]
          exact ih (i + 1) n _ out 3 w rfl (by omega) (by omega) (by omega) (by omega) (by omega)
        · rw [if_neg (by simp [hb]), if_neg hb, if_pos (by rw [nums_len]; simp; omega)]
          exact ih (i + 1) n _ out 2 (w ++ [b]) rfl (by omega) (by omega) (by omega) (by simp; omega) (by omega)
      · rw [if_neg (by simp; omega), if_neg h2]
        unfold bl
        cases hbl : blankI b.toNat with
        | true =>
          rw [if_pos rfl, if_pos rfl]
          by_cases h1 : st = 1
          · subst h1
            rw [if_pos (by decide), if_pos rfl, if_pos (by simp; omega)]
            exact ih (i + 1) n _ (out ++ [w]) 0 [] rfl (by omega) (by omega) (by simp; omega) (by simp) (by omega)
          · rw [if_neg (by simp; omega), if_neg h1]
            exact ih (i + 1) n _ out 0 w rfl (by omega) (by omega) (by omega) (by omega) (by omega)
        | false =>
          simp only [Bool.false_eq_true, if_false]
          by_cases hb : b = 39
          · rw [if_pos (by simp [hb]), if_pos hb]
            exact ih (i + 1) n _ out 2 w rfl (by omega) (by omega) (by omega) (by omega) (by omega)
          · rw [if_neg (by simp [hb]), if_neg hb, if_pos (by rw [nums_len]; simp; omega)]
            exact ih (i + 1) n _ out 1 (w ++ [b]) rfl (by omega) (by omega) (by omega) (by simp; omega) (by omega)
    unfold stp
    by_cases h3 : st = 3
    · subst h3
      rw [if_pos (by decide), if_pos rfl, q39]
      by_cases hb : b = 39
      · rw [if_pos (by simp [hb]), if_pos hb, if_pos (by rw [nums_len]; simp; omega), nums_app39]
        unfold millwrightref11_Split.j24
        rw [w1]
        exact ih (i + 1) n _ out 2 (w ++ [39]) rfl (by omega) (by omega) (by omega) (by simp; omega) (by omega)
      · rw [if_neg (by simp [hb]), if_neg hb]
        exact hnorm 1 (by omega)
    · rw [if_neg (by simp; omega), if_neg h3]
      exact hnorm st (by omega)

def fin (r : MS) : List (List UInt8) × Int := if r.2.1 = 2 then ([], 5) else if r.2.1 ≠ 0 then (r.1 ++ [r.2.2], 0) else (r.1, 0)

theorem run_len : ∀ (t : List UInt8) (out : List (List UInt8)) (st : Nat) (w : List UInt8), (run t out st w).1.length ≤ out.length + t.length
  | [], out, st, w => by simp [run]
  | b :: t, out, st, w => by
    rw [run]
    have h := run_len t (stp b out st w).1 (stp b out st w).2.1 (stp b out st w).2.2
    have h2 : (stp b out st w).1.length ≤ out.length + 1 := by
      unfold stp norm
      (repeat' split) <;> simp
    simp only [List.length_cons]; omega

theorem rsplit_eq (k : Nat) (s : List UInt8) (hs : s.length ≤ 100000) (hk : s.length < k) : millwrightref11_Split.f k s = some (fin (run s [] 0 [])) := by
  have hLIM : LIM = 4294967296 := rfl
  have hl := run_len s [] 0 []
  have h0 := split_loop k s hs s.length 0 k 0 [] 0 [] rfl (by omega) hk (by simp) (by simp) (by omega)
  rw [List.drop_zero] at h0
  have e : numsOf [] = [] := rfl
  rw [e] at h0
  unfold millwrightref11_Split.f
  have h0' : millwrightref11_Split.l14 k s k ([] : List (List UInt8)) 0 ([] : List Int) 0 = some (res (run s [] 0 [])) := h0
  rw [h0', Option.bind_some]
  unfold millwrightref11_Split.j9 millwrightref11_Split.j6 fin res
  generalize run s [] 0 [] = r at hl
  obtain ⟨o, st, w⟩ := r
  simp only [txt_nums] at hl ⊢
  by_cases h2 : st = 2
  · subst h2; rw [if_pos (by decide), if_pos rfl]
  · rw [if_neg (by simp; omega), if_neg h2]
    by_cases h1 : st = 0
    · subst h1; rw [if_neg (by decide), if_neg (by decide)]
    · rw [if_pos (by simp; omega), if_pos h1, if_pos (by simp at hl ⊢; omega)]

/-! ### the content of a quoted part -/
inductive Dbl : List UInt8 → List UInt8 → Prop
  | nil : Dbl [] []
  | ch {x : UInt8} {c u : List UInt8} : x ≠ 39 → Dbl c u → Dbl (x :: c) (x :: u)
  | qq {c u : List UInt8} : Dbl c u → Dbl (39 :: 39 :: c) (39 :: u)

theorem Dbl.cases' {c u : List UInt8} (h : Dbl c u) : (u = c ∧ Lib.index c [39, 39] = -1) ∨ ∃ a c' u', c = a ++ 39 :: 39 :: c' ∧ u = a ++ 39 :: u' ∧ Dbl c' u' ∧ Lib.index c [39, 39] = (a.length : Int) := by
  induction h with
  | nil => exact .inl ⟨rfl, rfl⟩
  | @ch x c u hx _ ih =>
    have hp : ([39, 39] : List UInt8).isPrefixOf (x :: c) = false := by
      simp only [List.isPrefixOf, Bool.and_eq_false_iff, beq_eq_false_iff_ne]
      exact .inl fun e => hx e.symm
    rcases ih with ⟨rfl, h2⟩ | ⟨a, c', u', rfl, rfl, h3, h4⟩
    · left
      refine ⟨rfl, ?_⟩
      unfold Lib.index
      rw [hp, h2]; rfl
    · right
      refine ⟨x :: a, c', u', rfl, rfl, h3, ?_⟩
      unfold Lib.index
      rw [hp, h4, if_neg (by decide), if_neg (by simp)]
      simp
  | @qq c u h _ =>
    right
    refine ⟨[], c, u, rfl, rfl, h, ?_⟩
    unfold Lib.index
    rw [if_pos (by simp [List.isPrefixOf])]; rfl

theorem replaceK_un : ∀ (k : Nat) (c u : List UInt8), Dbl c u → Lib.count c [39, 39] ≤ k → Lib.replaceK [39, 39] [39] k c = u
  | 0, c, u, h, hc => by
    rcases h.cases' with ⟨rfl, _⟩ | ⟨a, c', u', rfl, rfl, h3, h4⟩
    · rfl
    · rw [Lib.count_hit (by simp) h4] at hc; omega
  | k + 1, c, u, h, hc => by
    unfold Lib.replaceK
    rcases h.cases' with ⟨rfl, h2⟩ | ⟨a, c', u', rfl, rfl, h3, h4⟩
    · rw [h2]; rfl
    · have e2 : (a ++ 39 :: 39 :: c').drop (a.length + ([39, 39] : List UInt8).length) = c' := by simp
      rw [Lib.count_hit (by simp) h4, e2] at hc
      have e1 : ((a.length : Nat) : Int).toNat = a.length := by simp
      rw [h4, if_neg (by simp), e1, e2, replaceK_un k c' u' h3 (by omega)]
      simp

theorem replaceAll_un {c u : List UInt8} (h : Dbl c u) : Lib.replaceAll c [39, 39] [39] = u := by
  unfold Lib.replaceAll Lib.replace
  rw [if_neg (by decide)]
  exact replaceK_un _ _ _ h (by unfold Lib.replaceNum; rw [if_pos (by omega)]; omega)

theorem Dbl.len {c u : List UInt8} (h : Dbl c u) : u.length ≤ c.length := by
  induction h with
  | nil => simp
  | ch _ _ ih => simpa using ih
  | qq _ ih => simp; omega

/-- A quoted part, from behind its first quote on. -/
theorem quoted : ∀ (m : Nat) (t : List UInt8), t.length ≤ m → ∀ (out : List (List UInt8)) (w : List UInt8),
    (fe t = none ∧ (run t out 2 w).2.1 = 2) ∨ ∃ q u, fe t = some q ∧ 1 ≤ q ∧ q ≤ t.length ∧ Dbl (t.take (q - 1)) u ∧ run t out 2 w = run (t.drop q) out 3 (w ++ u) ∧ (t.drop q).head? ≠ some 39
  | 0, t, hm, out, w => by
    obtain rfl : t = [] := List.eq_nil_of_length_eq_zero (by omega)
    exact .inl ⟨rfl, rfl⟩
  | m + 1, [], hm, out, w => .inl ⟨rfl, rfl⟩
  | m + 1, x :: t, hm, out, w => by
    simp only [List.length_cons] at hm
    by_cases hx : x = 39
    · subst hx
      cases t with
      | nil => exact .inr ⟨1, [], rfl, by omega, by simp, by simpa using Dbl.nil, by simp [run, stp, norm], by simp⟩
      | cons y t =>
        simp only [List.length_cons] at hm
        by_cases hy : y = 39
        · subst hy
          have hr : run (39 :: 39 :: t) out 2 w = run t out 2 (w ++ [39]) := by simp [run, stp, norm]
          rcases quoted m t (by omega) out (w ++ [39]) with ⟨h1, h2⟩ | ⟨q, u, h1, h2, h3, h4, h5, h6⟩
          · exact .inl ⟨by rw [fe_two, h1]; rfl, by rw [hr]; exact h2⟩
          · refine .inr ⟨q + 2, 39 :: u, by rw [fe_two, h1]; rfl, by omega, by simp; omega, ?_, ?_, by simpa using h6⟩
            · have : q + 2 - 1 = (q - 1) + 2 := by omega
              rw [this]
              exact Dbl.qq h4
            · rw [hr, h5]; simp
        · exact .inr ⟨1, [], fe_one (by rw [List.head?_cons]; intro e; exact hy (Option.some.inj e)), by omega, by simp, by simpa using Dbl.nil, by simp [run, stp, norm], by simpa using hy⟩
    · have hr : run (x :: t) out 2 w = run t out 2 (w ++ [x]) := by simp [run, stp, norm, hx]
      rcases quoted m t (by omega) out (w ++ [x]) with ⟨h1, h2⟩ | ⟨q, u, h1, h2, h3, h4, h5, h6⟩
      · exact .inl ⟨by rw [fe_ne hx, h1]; rfl, by rw [hr]; exact h2⟩
      · refine .inr ⟨q + 1, x :: u, by rw [fe_ne hx, h1]; rfl, by omega, by simp; omega, ?_, ?_, by simpa using h6⟩
        · have : q + 1 - 1 = (q - 1) + 1 := by omega
          rw [this]
          exact Dbl.ch hx h4
        · rw [hr, h5]; simp
end Go.Proofs.YtfeaegjlhpgdmaaDoor
