/- A part of a proof: FBVQ. -/
import Derived.Test.YtcijochjfncefaaGreatDoorK44FBVA
import Derived.Lib.SplitLaws
import Derived.Lib.CountLaws
import Derived.Lib.Join
import Derived.OpenShut
namespace Go.Proofs.YtcijochjfncefaaGreatDoor
open Go Go.AM Go.ChangeShapes Go.ChangeAt Go.RowKit
set_option linter.unusedVariables false
set_option linter.unusedSimpArgs false
set_option maxRecDepth 100000
def blankI (n : Nat) : Bool := n == 32 || n == 9 || n == 10
theorem blank_all : ∀ n : Fin 256, decide (Lib.indexByte [32, 9, 10] ((n.val : Int).toNat.toUInt8) ≥ 0) = blankI n.val := by decide +kernel
theorem blank_eq (k : Nat) (n : Nat) (h : n < 256) : quote_Blank.f k (n : Int) = some (blankI n) := by
  have := blank_all ⟨n, h⟩
  simp only [quote_Blank.f, pIndexByte.f, Option.bind_some]
  simp only at this
  rw [this]
theorem q39 (a : UInt8) : ((a.toNat : Int) == 39) = (a == 39) := u8_eq (b := 39)
theorem q39' (a : UInt8) : ((a.toNat : Int) != 39) = (a != 39) := by simp only [bne, q39]

def fe : List UInt8 → Option Nat
  | [] => none
  | [x] => if x = 39 then some 1 else none
  | x :: y :: r => if x = 39 then (if y = 39 then (fe r).map (· + 2) else some 1) else (fe (y :: r)).map (· + 1)
theorem fe_ne {x : UInt8} {r : List UInt8} (h : x ≠ 39) : fe (x :: r) = (fe r).map (· + 1) := by
  cases r with
  | nil => simp [fe, h]
  | cons y r => rw [fe, if_neg h]
theorem fe_two (r : List UInt8) : fe (39 :: 39 :: r) = (fe r).map (· + 2) := by rw [fe, if_pos rfl, if_pos rfl]
theorem fe_one {r : List UInt8} (h : r.head? ≠ some 39) : fe (39 :: r) = some 1 := by
  cases r with
  | nil => rfl
  | cons y r => rw [fe, if_pos rfl, if_neg (by simpa using h)]

def feS (i : Nat) : Option Nat → Sum Unit Int
  | some q => .inr ((i + q : Nat) : Int)
  | none => .inl ()
theorem feS_map (i j : Nat) (o : Option Nat) : feS i (o.map (· + j)) = feS (i + j) o := by
  cases o with
  | none => rfl
  | some q => simp only [Option.map_some, feS]; congr 2; omega

theorem end_loop (k : Nat) (s : List UInt8) (hs : s.length ≤ 100000) : ∀ (m i n : Nat) (v : Int), v = (i : Int) → i + m = s.length → m < n → quote_End.l3 k s n v = some (feS i (fe (s.drop i))) := by
  intro m
  induction m using Nat.strongRecOn with
  | _ m ih =>
    intro i n v hv hi hn; obtain ⟨n, rfl⟩ : ∃ m, n = m + 1 := ⟨n - 1, by omega⟩; subst hv
    unfold quote_End.l3
    by_cases hm : m = 0
    · rw [if_neg (by simp; omega), List.drop_eq_nil_of_le (by omega)]; rfl
    have hlt : i < s.length := by omega
    rw [if_pos (by simp; omega), idx_at rfl hlt, Option.bind_some, q39', List.drop_eq_getElem_cons (i := i) (l := s) hlt]
    unfold quote_End.j13 quote_End.j8
    have w1 : IntKind.i64.wrap ((i : Int) + 1) = ((i + 1 : Nat) : Int) := by rw [w64 (by omega) (by omega)]; omega
    have w2 : IntKind.i64.wrap (((i + 1 : Nat) : Int) + 1) = ((i + 2 : Nat) : Int) := by rw [w64 (by omega) (by omega)]; omega
    rw [w1, w2]
    by_cases h : s[i] = 39
    · rw [if_neg (by simp [h]), h]
      by_cases h2 : i + 1 < s.length
      · rw [if_pos (by simp; omega), idx_at rfl h2, Option.bind_some, q39, List.drop_eq_getElem_cons (i := i + 1) (l := s) h2]
        by_cases h3 : s[i + 1] = 39
        · rw [if_pos (by simp [h3]), ih (m - 2) (by omega) (i + 2) n _ rfl (by omega) (by omega), h3, fe_two, feS_map]
        · rw [if_neg (by simp [h3]), fe_one (by rw [List.head?_cons]; intro e; exact h3 (Option.some.inj e))]; rfl
      · rw [if_neg (by simp; omega), if_neg (by decide), List.drop_eq_nil_of_le (by omega)]; rfl
    · rw [if_pos (by simp [h]), ih (m - 1) (by omega) (i + 1) n _ rfl (by omega) (by omega), fe_ne h, feS_map]

def endAt (s : List UInt8) (a : Int) : Int := if 0 ≤ a ∧ a < s.length ∧ s[a.toNat]? = some 39 then (match fe (s.drop (a.toNat + 1)) with | some q => ((a.toNat + 1 + q : Nat) : Int) | none => -1) else -1

theorem end_eq (k : Nat) (s : List UInt8) (a : Int) (hs : s.length ≤ 100000) (hk : s.length < k) : quote_End.f k s a = some (endAt s a) := by
  unfold quote_End.f endAt quote_End.j21 quote_End.j18 quote_End.j1
  by_cases h1 : a < 0
  · rw [if_pos (by simpa using h1), if_pos rfl, if_neg (by omega)]
  by_cases h2 : a ≥ s.length
  · rw [if_neg (by simpa using h1), if_pos (by simpa using h2), if_pos rfl, if_neg (by omega)]
  obtain ⟨i, rfl⟩ : ∃ i : Nat, a = i := ⟨a.toNat, by omega⟩
  have hlt : i < s.length := by omega
  have e : (i : Int).toNat = i := by simp
  rw [if_neg (by simp), if_neg (by simpa using h2), idx_at rfl hlt, Option.bind_some, q39', e, List.getElem?_eq_getElem hlt]
  by_cases h3 : s[i] = 39
  · have w1 : IntKind.i64.wrap ((i : Int) + 1) = ((i + 1 : Nat) : Int) := by rw [w64 (by omega) (by omega)]; omega
    rw [if_neg (by simp [h3]), w1, end_loop k s hs (s.length - (i + 1)) (i + 1) k _ rfl (by omega) (by omega), Option.bind_some, if_pos ⟨by omega, by omega, by rw [h3]⟩]
    cases fe (s.drop (i + 1)) <;> rfl
  · rw [if_pos (by simp [h3]), if_neg (by simp [h3])]

abbrev MS := List (List UInt8) × Nat × List UInt8
def bl (b : UInt8) : Bool := blankI b.toNat
def norm (b : UInt8) (out : List (List UInt8)) (st : Nat) (w : List UInt8) : MS :=
  if st = 2 then (if b = 39 then (out, 3, w) else (out, 2, w ++ [b]))
  else if bl b then (if st = 1 then (out ++ [w], 0, []) else (out, 0, w))
  else if b = 39 then (out, 2, w) else (out, 1, w ++ [b])
def stp (b : UInt8) (out : List (List UInt8)) (st : Nat) (w : List UInt8) : MS :=
  if st = 3 then (if b = 39 then (out, 2, w ++ [39]) else norm b out 1 w) else norm b out st w
def run : List UInt8 → List (List UInt8) → Nat → List UInt8 → MS
  | [], out, st, w => (out, st, w)
  | b :: t, out, st, w => run t (stp b out st w).1 (stp b out st w).2.1 (stp b out st w).2.2

theorem txt_nums (w : List UInt8) : txtOf (numsOf w) = w := by
  induction w with
  | nil => rfl
  | cons x w ih =>
    have : txtOf (numsOf (x :: w)) = UInt8.ofNat ((x.toNat : Int).toNat) :: txtOf (numsOf w) := rfl
    rw [this, ih]; simp
theorem nums_app (w : List UInt8) (b : UInt8) : numsOf w ++ [(b.toNat : Int)] = numsOf (w ++ [b]) := by simp [numsOf]
theorem nums_len (w : List UInt8) : (numsOf w).length = w.length := by simp [numsOf]

def fin (r : MS) : List (List UInt8) × Int := if r.2.1 = 2 then ([], 5) else if r.2.1 ≠ 0 then (r.1 ++ [r.2.2], 0) else (r.1, 0)

theorem run_len : ∀ (t : List UInt8) (out : List (List UInt8)) (st : Nat) (w : List UInt8), (run t out st w).1.length ≤ out.length + t.length
  | [], out, st, w => by simp [run]
  | b :: t, out, st, w => by
    rw [run]
    have h := run_len t (stp b out st w).1 (stp b out st w).2.1 (stp b out st w).2.2
    have h2 : (stp b out st w).1.length ≤ out.length + 1 := by
      unfold stp norm
      (repeat' split) <;> simp
    simp only [List.length_cons]; omega

inductive Dbl : List UInt8 → List UInt8 → Prop
  | nil : Dbl [] []
  | ch {x : UInt8} {c u : List UInt8} : x ≠ 39 → Dbl c u → Dbl (x :: c) (x :: u)
  | qq {c u : List UInt8} : Dbl c u → Dbl (39 :: 39 :: c) (39 :: u)

theorem Dbl.cases' {c u : List UInt8} (h : Dbl c u) : (u = c ∧ Lib.index c [39, 39] = -1) ∨ ∃ a c' u', c = a ++ 39 :: 39 :: c' ∧ u = a ++ 39 :: u' ∧ Dbl c' u' ∧ Lib.index c [39, 39] = (a.length : Int) := by
  induction h with
  | nil => exact .inl ⟨rfl, rfl⟩
  | @ch x c u hx _ ih =>
    have hp : ([39, 39] : List UInt8).isPrefixOf (x :: c) = false := by
      simp only [List.isPrefixOf, Bool.and_eq_false_iff, beq_eq_false_iff_ne]
      exact .inl fun e => hx e.symm
    rcases ih with ⟨rfl, h2⟩ | ⟨a, c', u', rfl, rfl, h3, h4⟩
    · left
      refine ⟨rfl, ?_⟩
      unfold Lib.index
      rw [hp, h2]; rfl
    · right
      refine ⟨x :: a, c', u', rfl, rfl, h3, ?_⟩
      unfold Lib.index
      rw [hp, h4, if_neg (by decide), if_neg (by simp)]
      simp
  | @qq c u h _ =>
    right
    refine ⟨[], c, u, rfl, rfl, h, ?_⟩
    unfold Lib.index
    rw [if_pos (by simp [List.isPrefixOf])]; rfl

theorem replaceK_un : ∀ (k : Nat) (c u : List UInt8), Dbl c u → Lib.count c [39, 39] ≤ k → Lib.replaceK [39, 39] [39] k c = u
  | 0, c, u, h, hc => by
    rcases h.cases' with ⟨rfl, _⟩ | ⟨a, c', u', rfl, rfl, h3, h4⟩
    · rfl
    · rw [Lib.count_hit (by simp) h4] at hc; omega
  | k + 1, c, u, h, hc => by
    unfold Lib.replaceK
    rcases h.cases' with ⟨rfl, h2⟩ | ⟨a, c', u', rfl, rfl, h3, h4⟩
    · rw [h2]; rfl
    · have e2 : (a ++ 39 :: 39 :: c').drop (a.length + ([39, 39] : List UInt8).length) = c' := by simp
      rw [Lib.count_hit (by simp) h4, e2] at hc
      have e1 : ((a.length : Nat) : Int).toNat = a.length := by simp
      rw [h4, if_neg (by simp), e1, e2, replaceK_un k c' u' h3 (by omega)]
      simp

theorem replaceAll_un {c u : List UInt8} (h : Dbl c u) : Lib.replaceAll c [39, 39] [39] = u := by
  unfold Lib.replaceAll Lib.replace
  rw [if_neg (by decide)]
  exact replaceK_un _ _ _ h (by unfold Lib.replaceNum; rw [if_pos (by omega)]; omega)

theorem Dbl.len {c u : List UInt8} (h : Dbl c u) : u.length ≤ c.length := by
  induction h with
  | nil => simp
  | ch _ _ ih => simpa using ih
  | qq _ ih => simp; omega

theorem quoted : ∀ (m : Nat) (t : List UInt8), t.length ≤ m → ∀ (out : List (List UInt8)) (w : List UInt8),
    (fe t = none ∧ (run t out 2 w).2.1 = 2) ∨ ∃ q u, fe t = some q ∧ 1 ≤ q ∧ q ≤ t.length ∧ Dbl (t.take (q - 1)) u ∧ run t out 2 w = run (t.drop q) out 3 (w ++ u) ∧ (t.drop q).head? ≠ some 39
  | 0, t, hm, out, w => by
    obtain rfl : t = [] := List.eq_nil_of_length_eq_zero (by omega)
    exact .inl ⟨rfl, rfl⟩
  | m + 1, [], hm, out, w => .inl ⟨rfl, rfl⟩
  | m + 1, x :: t, hm, out, w => by
    simp only [List.length_cons] at hm
    by_cases hx : x = 39
    · subst hx
      cases t with
      | nil => exact .inr ⟨1, [], rfl, by omega, by simp, by simpa using Dbl.nil, by simp [run, stp, norm], by simp⟩
      | cons y t =>
        simp only [List.length_cons] at hm
        by_cases hy : y = 39
        · subst hy
          have hr : run (39 :: 39 :: t) out 2 w = run t out 2 (w ++ [39]) := by simp [run, stp, norm]
          rcases quoted m t (by omega) out (w ++ [39]) with ⟨h1, h2⟩ | ⟨q, u, h1, h2, h3, h4, h5, h6⟩
          · exact .inl ⟨by rw [fe_two, h1]; rfl, by rw [hr]; exact h2⟩
          · refine .inr ⟨q + 2, 39 :: u, by rw [fe_two, h1]; rfl, by omega, by simp; omega, ?_, ?_, by simpa using h6⟩
            · have : q + 2 - 1 = (q - 1) + 2 := by omega
              rw [this]
              exact Dbl.qq h4
            · rw [hr, h5]; simp
        · exact .inr ⟨1, [], fe_one (by rw [List.head?_cons]; intro e; exact hy (Option.some.inj e)), by omega, by simp, by simpa using Dbl.nil, by simp [run, stp, norm], by simpa using hy⟩
    · have hr : run (x :: t) out 2 w = run t out 2 (w ++ [x]) := by simp [run, stp, norm, hx]
      rcases quoted m t (by omega) out (w ++ [x]) with ⟨h1, h2⟩ | ⟨q, u, h1, h2, h3, h4, h5, h6⟩
      · exact .inl ⟨by rw [fe_ne hx, h1]; rfl, by rw [hr]; exact h2⟩
      · refine .inr ⟨q + 1, x :: u, by rw [fe_ne hx, h1]; rfl, by omega, by simp; omega, ?_, ?_, by simpa using h6⟩
        · have : q + 1 - 1 = (q - 1) + 1 := by omega
          rw [this]
          exact Dbl.ch hx h4
        · rw [hr, h5]; simp
def sk : List UInt8 → Nat
  | [] => 0
  | b :: t => if bl b then sk t + 1 else 0
theorem sk_le : ∀ t, sk t ≤ t.length
  | [] => by simp [sk]
  | b :: t => by unfold sk; have := sk_le t; split <;> simp <;> omega
theorem sk_head : ∀ (t : List UInt8) (b : UInt8), (t.drop (sk t)).head? = some b → bl b = false
  | [], b, h => by simp at h
  | c :: t, b, h => by
    unfold sk at h
    cases hc : bl c with
    | true => rw [hc, if_pos rfl, List.drop_succ_cons] at h; exact sk_head t b h
    | false => rw [hc] at h; simp at h; rw [← h]; exact hc
theorem run_sk : ∀ (t : List UInt8) (out : List (List UInt8)) (w : List UInt8), run t out 0 w = run (t.drop (sk t)) out 0 w
  | [], out, w => rfl
  | c :: t, out, w => by
    unfold sk
    cases hc : bl c with
    | true =>
      rw [if_pos rfl, List.drop_succ_cons, ← run_sk t out w]
      simp [run, stp, norm, hc]
    | false => simp

theorem skip_loop (k : Nat) (s : List UInt8) (hs : s.length ≤ 100000) : ∀ (m i n : Nat) (v : Int), v = (i : Int) → i + m = s.length → m < n → quote_skip.l4 k s n v = some ((i + sk (s.drop i) : Nat) : Int) := by
  intro m
  induction m with
  | zero =>
    intro i n v hv hi hn; obtain ⟨n, rfl⟩ : ∃ m, n = m + 1 := ⟨n - 1, by omega⟩; subst hv
    unfold quote_skip.l4 quote_skip.j11
    rw [if_neg (by simp; omega), List.drop_eq_nil_of_le (by omega)]; rfl
  | succ m ih =>
    intro i n v hv hi hn; obtain ⟨n, rfl⟩ : ∃ m, n = m + 1 := ⟨n - 1, by omega⟩; subst hv
    have hlt : i < s.length := by omega
    have w1 : IntKind.i64.wrap ((i : Int) + 1) = ((i + 1 : Nat) : Int) := by rw [w64 (by omega) (by omega)]; omega
    unfold quote_skip.l4 quote_skip.j11 quote_skip.j8
    rw [if_pos (by simp; omega), idx_at rfl hlt, Option.bind_some, blank_eq k _ s[i].toNat_lt, Option.bind_some, w1, ih (i + 1) n _ rfl (by omega) (by omega), List.drop_eq_getElem_cons (i := i) (l := s) hlt, sk]
    unfold bl
    cases blankI s[i].toNat with
    | true => rw [if_pos rfl, if_pos rfl]; congr 2; omega
    | false => simp

theorem skip_eq (k : Nat) (s : List UInt8) (i : Nat) (hs : s.length ≤ 100000) (hk : s.length < k) (hi : i ≤ s.length) : quote_skip.f k s (i : Int) = some ((i + sk (s.drop i) : Nat) : Int) := by
  unfold quote_skip.f quote_skip.j2
  rw [skip_loop k s hs (s.length - i) i k _ rfl (by omega) (by omega)]; rfl

theorem pReplace_eq (k : Nat) (s old new : List UInt8) (hs : s.length ≤ 100000) (ho : 1 ≤ old.length) (hn : new.length ≤ 100000) : pReplaceAll.f k s old new = some (Lib.replaceAll s old new) := by
  unfold pReplaceAll.f
  have h1 := Lib.countB_le ⟨old.toArray⟩ (by show 1 ≤ old.toArray.size; simpa using ho) _ ⟨s.toArray⟩ (Nat.le_refl _)
  have h2 : (⟨s.toArray⟩ : ByteArray).size = s.length := by show s.toArray.size = _; simp
  rw [h2] at h1
  have h3 : Lib.countB ⟨s.toArray⟩ ⟨old.toArray⟩ * new.length ≤ 100000 * 100000 := Nat.mul_le_mul (by omega) hn
  rw [if_pos ⟨by omega, ho, by omega⟩]

theorem nums_cat (a b : List UInt8) : numsOf a ++ numsOf b = numsOf (a ++ b) := by simp [numsOf]

theorem word_loop (k : Nat) (s : List UInt8) (hs : s.length ≤ 100000) (hk : s.length < k) : ∀ (m i n : Nat) (v : Int) (out : List (List UInt8)) (st : Nat) (w : List UInt8), v = (i : Int) → i + m = s.length → m < n → w.length ≤ i →
    (st = 0 ∨ st = 1 ∨ st = 3) → (st = 3 → (s.drop i).head? ≠ some 39) →
    (quote_word.l6 k s n v (numsOf w) = some (.inr ([], -1)) ∧ (run (s.drop i) out st w).2.1 = 2) ∨
    ∃ e w' st', quote_word.l6 k s n v (numsOf w) = some (.inl ((e : Nat) , numsOf w')) ∧ i ≤ e ∧ e ≤ s.length ∧ (∀ b, (s.drop e).head? = some b → bl b = true) ∧
      run (s.drop i) out st w = run (s.drop e) out st' w' ∧ ((e = i ∧ st' = st) ∨ st' = 1 ∨ st' = 3) := by
  intro m
  induction m using Nat.strongRecOn with
  | _ m ih =>
    intro i n v out st w hv hi hn hw hst h39
    obtain ⟨n, rfl⟩ : ∃ m, n = m + 1 := ⟨n - 1, by omega⟩; subst hv
    have hLIM : LIM = 4294967296 := rfl
    unfold quote_word.l6 quote_word.j23
    by_cases hm : m = 0
    · right
      refine ⟨i, w, st, by rw [if_neg (by simp; omega)]; rfl, by omega, by omega, ?_, rfl, .inl ⟨rfl, rfl⟩⟩
      intro b hb; rw [List.drop_eq_nil_of_le (by omega)] at hb; cases hb
    have hlt : i < s.length := by omega
    have hd := List.drop_eq_getElem_cons (i := i) (l := s) hlt
    have w1 : IntKind.i64.wrap ((i : Int) + 1) = ((i + 1 : Nat) : Int) := by rw [w64 (by omega) (by omega)]; omega
    rw [if_pos (by simp; omega), idx_at rfl hlt, Option.bind_some, blank_eq k _ s[i].toNat_lt, Option.bind_some]
    cases hb : blankI s[i].toNat with
    | true =>
      right
      refine ⟨i, w, st, by simp, by omega, by omega, ?_, rfl, .inl ⟨rfl, rfl⟩⟩
      intro b hb'; rw [hd, List.head?_cons] at hb'; rw [← Option.some.inj hb']; exact hb
    | false =>
      have hbl : bl s[i] = false := hb
      simp only [Bool.not_false, if_true]
      unfold quote_word.j20
      rw [idx_at rfl hlt, Option.bind_some, q39', w1]
      by_cases hx : s[i] = 39
      · have hst3 : st ≠ 3 := fun e => h39 e (by rw [hd, hx]; rfl)
        have hr : run (s.drop i) out st w = run (s.drop (i + 1)) out 2 w := by
          rw [hd, run]
          have : stp s[i] out st w = (out, 2, w) := by
            unfold stp norm
            rw [if_neg hst3, if_neg (by omega), hbl, hx]; simp
          rw [this]
        rw [if_neg (by simp [hx]), end_eq k s _ hs hk, Option.bind_some]
        have e : (i : Int).toNat = i := by simp
        have hend : endAt s (i : Int) = (match fe (s.drop (i + 1)) with | some q => ((i + 1 + q : Nat) : Int) | none => -1) := by
          unfold endAt
          rw [e, if_pos ⟨by omega, by omega, by rw [List.getElem?_eq_getElem hlt, hx]⟩]
        rw [hend, hr]
        rcases quoted _ (s.drop (i + 1)) (Nat.le_refl _) out w with ⟨h1, h2⟩ | ⟨q, u, h1, h2, h3, h4, h5, h6⟩
        · left
          rw [h1]
          exact ⟨by simp, h2⟩
        · rw [h1]
          have hql : i + 1 + q ≤ s.length := by simp at h3; omega
          have w3 : IntKind.i64.wrap (((i + 1 + q : Nat) : Int) - 1) = ((i + q : Nat) : Int) := by rw [w64 (by omega) (by omega)]; omega
          have hsub : sub s ((i + 1 : Nat) : Int) ((i + q : Nat) : Int) = some ((s.drop (i + 1)).take (q - 1)) := by
            rw [sub_at rfl rfl (by omega) (by omega), List.drop_take]
            congr 2; omega
          have hul := h4.len
          simp only [List.length_take, List.length_drop] at hul
          simp only [w3, hsub, Option.bind_some]
          rw [if_neg (by simp; omega), pReplace_eq k _ _ _ (by simp; omega) (by simp) (by simp), Option.bind_some, replaceAll_un h4, if_pos (by rw [nums_len]; omega), nums_cat, h5, List.drop_drop]
          have e2 : i + 1 + q = i + (1 + q) := by omega
          have hdd : (s.drop (i + 1 + q)).head? ≠ some 39 := by rw [← List.drop_drop]; exact h6
          rcases ih (m - 1 - q) (by omega) (i + 1 + q) n _ out 3 (w ++ u) rfl (by omega) (by omega) (by simp; omega) (.inr (.inr rfl)) (fun _ => hdd) with ⟨h7, h8⟩ | ⟨e', w', st', h7, h8, h9, h10, h11, h12⟩
          · exact .inl ⟨h7, h8⟩
          · refine .inr ⟨e', w', st', h7, by omega, h9, h10, h11, .inr ?_⟩
            rcases h12 with h12 | h12
            · exact .inr h12.2
            · exact h12
      · have hr : run (s.drop i) out st w = run (s.drop (i + 1)) out 1 (w ++ [s[i]]) := by
          rw [hd, run]
          have : stp s[i] out st w = (out, 1, w ++ [s[i]]) := by
            unfold stp norm
            rcases hst with rfl | rfl | rfl <;> simp [hbl, hx]
          rw [this]
        rw [if_pos (by simp [hx]), Option.bind_some, if_pos (by rw [nums_len]; simp; omega), nums_app, hr]
        rcases ih (m - 1) (by omega) (i + 1) n _ out 1 (w ++ [s[i]]) rfl (by omega) (by omega) (by simp; omega) (.inr (.inl rfl)) (fun h => by omega) with ⟨h7, h8⟩ | ⟨e', w', st', h7, h8, h9, h10, h11, h12⟩
        · exact .inl ⟨h7, h8⟩
        · refine .inr ⟨e', w', st', h7, by omega, h9, h10, h11, .inr ?_⟩
          rcases h12 with h12 | h12
          · exact .inl h12.2
          · exact h12

theorem word_eq (k : Nat) (s : List UInt8) (i : Nat) (out : List (List UInt8)) (hs : s.length ≤ 100000) (hk : s.length < k) (hi : i < s.length) (hh : ∀ b, (s.drop i).head? = some b → bl b = false) :
    (quote_word.f k s (i : Int) = some ([], -1) ∧ (run (s.drop i) out 0 []).2.1 = 2) ∨
    ∃ (e : Nat) (w' : List UInt8) (st' : Nat), quote_word.f k s (i : Int) = some (w', (e : Int)) ∧ i < e ∧ e ≤ s.length ∧ (∀ b, (s.drop e).head? = some b → bl b = true) ∧
      run (s.drop i) out 0 [] = run (s.drop e) out st' w' ∧ (st' = 1 ∨ st' = 3) := by
  unfold quote_word.f quote_word.j3
  have e0 : numsOf [] = [] := rfl
  rcases word_loop k s hs hk (s.length - i) i k _ out 0 [] rfl (by omega) (by omega) (by simp) (.inl rfl) (fun h => by cases h) with ⟨h1, h2⟩ | ⟨e, w', st', h1, h2, h3, h4, h5, h6⟩
  · left; rw [e0] at h1; exact ⟨by rw [h1]; rfl, h2⟩
  · right
    rw [e0] at h1
    have hd := List.drop_eq_getElem_cons (i := i) (l := s) hi
    have hne : e ≠ i := fun e' => by
      subst e'
      have h7 := h4 s[e] (by rw [hd]; rfl)
      rw [hh s[e] (by rw [hd]; rfl)] at h7; cases h7
    exact ⟨e, w', st', by rw [h1, Option.bind_some]; simp only [txt_nums], by omega, h3, h4, h5, h6.resolve_left fun h => hne h.1⟩

def spl (r : MS) : Sum (List (List UInt8)) (List (List UInt8) × Nat) := if r.2.1 = 2 then .inr ([], 5) else .inl (fin r).1

theorem blank39 {b : UInt8} (h : bl b = true) : b ≠ 39 := by rintro rfl; revert h; decide

theorem splitP_loop (k : Nat) (s : List UInt8) (hs : s.length ≤ 100000) (hk : s.length < k) : ∀ (m i n : Nat) (v : Int) (out : List (List UInt8)), v = (i : Int) → i + m = s.length → m < n → out.length ≤ i →
    (∀ b, (s.drop i).head? = some b → bl b = false) → quote_Split.l6 k s n out v = some (spl (run (s.drop i) out 0 [])) := by
  intro m
  induction m using Nat.strongRecOn with
  | _ m ih =>
    intro i n v out hv hi hn ho hh
    obtain ⟨n, rfl⟩ : ∃ m, n = m + 1 := ⟨n - 1, by omega⟩; subst hv
    have hLIM : LIM = 4294967296 := rfl
    unfold quote_Split.l6
    by_cases hm : m = 0
    · rw [if_neg (by simp; omega), List.drop_eq_nil_of_le (by omega)]; rfl
    have hlt : i < s.length := by omega
    rw [if_pos (by simp; omega)]
    rcases word_eq k s i out hs hk hlt hh with ⟨h1, h2⟩ | ⟨e, w', st', h1, h2, h3, h4, h5, h6⟩
    · rw [h1, Option.bind_some, if_pos (by decide)]
      unfold spl; rw [if_pos h2]
    · have hle := sk_le (s.drop e)
      rw [h1, Option.bind_some, if_neg (by simp), if_pos (by simp; omega), skip_eq k s e hs hk h3, Option.bind_some]
      simp only [List.length_drop] at hle
      have h7 := ih (s.length - (e + sk (s.drop e))) (by omega) (e + sk (s.drop e)) n _ (out ++ [w']) rfl (by omega) (by omega) (by simp; omega) (fun b hb => by rw [← List.drop_drop] at hb; exact sk_head _ _ hb)
      rw [h7, h5, ← List.drop_drop, ← run_sk]
      congr 1
      cases hd : s.drop e with
      | nil =>
        simp only [run]
        unfold spl fin
        rcases h6 with rfl | rfl <;> rfl
      | cons b t =>
        have hb := h4 b (by rw [hd]; rfl)
        have hb39 := blank39 hb
        rw [run, run]
        have e1 : stp b out st' w' = (out ++ [w'], 0, []) := by
          unfold stp norm
          rcases h6 with rfl | rfl <;> simp [hb, hb39]
        have e2 : stp b (out ++ [w']) 0 [] = (out ++ [w'], 0, []) := by simp [stp, norm, hb]
        rw [e1, e2]

def splN (r : MS) : List (List UInt8) × Nat := if r.2.1 = 2 then ([], 5) else ((fin r).1, 0)

theorem splitP_eq (k : Nat) (s : List UInt8) (hs : s.length ≤ 100000) (hk : s.length < k) : quote_Split.f k s = some (splN (run s [] 0 [])) := by
  unfold quote_Split.f quote_Split.j2
  have h0 := skip_eq k s 0 hs hk (by omega)
  rw [List.drop_zero, Nat.zero_add] at h0
  have hle := sk_le s
  have h0' : quote_skip.f k s 0 = some (sk s : Int) := h0
  rw [h0', Option.bind_some, splitP_loop k s hs hk (s.length - sk s) (sk s) k _ [] rfl (by omega) (by omega) (by simp) (sk_head s), Option.bind_some, ← run_sk]
  unfold spl splN
  split
  · rename_i h; split at h
    · cases h
    · rename_i h2; cases h; rw [if_neg h2]
  · rename_i h; split at h
    · rename_i h2; cases h; rw [if_pos h2]
    · cases h

def badL : List UInt8 := [39, 32, 9, 10, 35, 36, 96, 58, 61, 60, 92, 59, 38, 124, 40, 41, 123, 125, 91, 93, 42, 63, 94, 126]

theorem bad_all : ∀ n : Fin 256, (blankI n.val || (n.val == 39) || decide (Lib.indexByte [35, 36, 96, 58, 61, 60, 92, 59, 38, 124, 40, 41, 123, 125, 91, 93, 42, 63, 94, 126] ((n.val : Int).toNat.toUInt8) ≥ 0)) = badL.contains n.val.toUInt8 := by decide +kernel

theorem plain_loop (k : Nat) (s : List UInt8) (hs : s.length ≤ 1000000000) : ∀ (m i n : Nat) (v : Int), v = (i : Int) → i + m = s.length → m < n →
    quote_Plain.l3 k s n v = some (if (s.drop i).any badL.contains then .inr false else .inl ()) := by
  intro m
  induction m with
  | zero =>
    intro i n v hv hi hn; obtain ⟨n, rfl⟩ : ∃ m, n = m + 1 := ⟨n - 1, by omega⟩; subst hv
    unfold quote_Plain.l3
    rw [if_neg (by simp; omega), List.drop_eq_nil_of_le (by omega)]; simp
  | succ m ih =>
    intro i n v hv hi hn; obtain ⟨n, rfl⟩ : ∃ m, n = m + 1 := ⟨n - 1, by omega⟩; subst hv
    have hlt : s[i].toNat < 256 := s[i].toNat_lt
    have hb := bad_all ⟨s[i].toNat, hlt⟩
    have e0 : s[i].toNat.toUInt8 = s[i] := by simp
    simp only [e0] at hb
    unfold quote_Plain.l3
    rw [if_pos (by simp; omega), idx_at rfl (by omega), Option.bind_some, Option.bind_some, Option.bind_some, blank_eq k _ hlt, Option.bind_some, List.drop_eq_getElem_cons (by omega), List.any_cons]
    simp only [pIndexByte.f, Option.bind_some]
    unfold quote_Plain.j10 quote_Plain.j7
    rw [w64 (by omega) (by omega), ih (i + 1) n _ (by omega) (by omega) (by omega)]
    cases h1 : blankI s[i].toNat with
    | true => rw [h1] at hb; simp only [Bool.true_or] at hb; rw [← hb]; simp
    | false =>
      rw [h1] at hb
      by_cases h2 : s[i].toNat = 39
      · have e : ((s[i].toNat : Int) == 39) = true := by rw [h2]; rfl
        have e' : (s[i].toNat == 39) = true := by rw [h2]; rfl
        rw [e'] at hb
        rw [← hb, e]; simp
      · have e : ((s[i].toNat : Int) == 39) = false := by rw [beq_eq_false_iff_ne]; omega
        have e' : (s[i].toNat == 39) = false := by rw [beq_eq_false_iff_ne]; omega
        rw [e', Bool.false_or, Bool.false_or] at hb
        rw [← hb, e]
        simp only [Bool.false_eq_true, if_false]
        cases decide (Lib.indexByte [35, 36, 96, 58, 61, 60, 92, 59, 38, 124, 40, 41, 123, 125, 91, 93, 42, 63, 94, 126] ((s[i].toNat : Int).toNat.toUInt8) ≥ 0) <;> simp

theorem plain_eq (k : Nat) (s : List UInt8) (hs : s.length ≤ 1000000000) (hk : s.length < k) : quote_Plain.f k s = some (!(s.any badL.contains) && !(s == [])) := by
  unfold quote_Plain.f quote_Plain.j1
  rw [plain_loop k s hs s.length 0 k 0 rfl (by omega) hk, Option.bind_some, List.drop_zero]
  cases s.any badL.contains <;> simp

def dbl (c : UInt8) : List UInt8 := if c = 39 then [39, 39] else [c]

theorem dbl_free : ∀ {a : List UInt8}, (39 : UInt8) ∉ a → a.flatMap dbl = a
  | [], _ => rfl
  | x :: a, h => by
    simp at h
    rw [List.flatMap_cons, dbl_free h.2, dbl, if_neg (fun e => h.1 e.symm)]; rfl

theorem replaceK_dbl : ∀ (k : Nat) (s : List UInt8), s.count 39 ≤ k → Lib.replaceK [39] [39, 39] k s = s.flatMap dbl
  | 0, s, h => by
    have : (39 : UInt8) ∉ s := List.count_eq_zero.1 (by omega)
    rw [dbl_free this]; rfl
  | k + 1, s, h => by
    unfold Lib.replaceK
    rw [Lib.index_one]
    rcases index_cases 39 s with ⟨h1, h2⟩ | ⟨a, b, h1, h2, h3⟩
    · rw [h2, dbl_free h1]; rfl
    · have hc : b.count 39 ≤ k := by rw [h1, List.count_append, List.count_cons_self] at h; omega
      rw [h3, if_neg (by simp)]
      have e1 : ((a.length : Nat) : Int).toNat = a.length := by simp
      rw [e1, h1]
      have e2 : (a ++ 39 :: b).drop (a.length + ([39] : List UInt8).length) = b := by simp
      rw [e2, replaceK_dbl k b hc, List.flatMap_append, List.flatMap_cons, dbl_free h2]
      simp [dbl]

theorem replaceAll_dbl (s : List UInt8) : Lib.replaceAll s [39] [39, 39] = s.flatMap dbl := by
  unfold Lib.replaceAll Lib.replace
  rw [if_neg (by decide)]
  exact replaceK_dbl _ _ (by unfold Lib.replaceNum; rw [if_pos (by omega), Lib.count_one]; omega)

theorem dbl_length (s : List UInt8) : (s.flatMap dbl).length ≤ 2 * s.length := by
  induction s with
  | nil => simp
  | cons x s ih => rw [List.flatMap_cons, List.length_append, List.length_cons]; have : (dbl x).length ≤ 2 := by unfold dbl; split <;> simp
                   omega

def quo (s : List UInt8) : List UInt8 := if !(s.any badL.contains) && !(s == []) then s else [39] ++ s.flatMap dbl ++ [39]

theorem quote_eq (k : Nat) (s : List UInt8) (hs : s.length ≤ 100000) (hk : s.length < k) : quote_Quote.f k s = some (quo s) := by
  unfold quote_Quote.f quo
  rw [plain_eq k s (by omega) hk, Option.bind_some]
  have := dbl_length s
  split
  · rfl
  · rw [pReplace_eq k s _ _ hs (by simp) (by simp), Option.bind_some, replaceAll_dbl, if_pos (by simp only [List.length_append, List.length_cons, List.length_nil]; omega), if_pos (by simp only [List.length_append, List.length_cons, List.length_nil]; omega)]


theorem bad_blank (b : UInt8) (h : badL.contains b = false) : bl b = false ∧ b ≠ 39 := by
  have h2 := bad_all ⟨b.toNat, b.toNat_lt⟩
  have e : b.toNat.toUInt8 = b := by simp
  simp only [e] at h2
  rw [h, Bool.or_eq_false_iff, Bool.or_eq_false_iff] at h2
  refine ⟨h2.1.1, fun e => ?_⟩
  subst e
  exact absurd h2.1.2 (by decide)

theorem run_plain : ∀ (s rest : List UInt8) (out : List (List UInt8)) (st : Nat) (w : List UInt8), (st = 0 ∨ st = 1) → s.any badL.contains = false → s ≠ [] → run (s ++ rest) out st w = run rest out 1 (w ++ s)
  | [], _, _, _, _, _, _, h => absurd rfl h
  | b :: s, rest, out, st, w, hst, hb, _ => by
    simp only [List.any_cons, Bool.or_eq_false_iff] at hb
    obtain ⟨h1, h2⟩ := bad_blank b hb.1
    have e : stp b out st w = (out, 1, w ++ [b]) := by
      unfold stp norm
      rcases hst with rfl | rfl <;> simp [h1, h2]
    rw [List.cons_append, run, e]
    cases s with
    | nil => rfl
    | cons c s => rw [run_plain (c :: s) rest out 1 (w ++ [b]) (.inr rfl) hb.2 (by simp)]; simp

theorem run_dbl : ∀ (s rest : List UInt8) (out : List (List UInt8)) (w : List UInt8), run (s.flatMap dbl ++ 39 :: rest) out 2 w = run rest out 3 (w ++ s)
  | [], rest, out, w => by simp [run, stp, norm]
  | b :: s, rest, out, w => by
    by_cases h : b = 39
    · subst h
      have : (39 :: s).flatMap dbl ++ 39 :: rest = 39 :: 39 :: (s.flatMap dbl ++ 39 :: rest) := by simp [dbl]
      rw [this, run, run]
      have e1 : stp 39 out 2 w = (out, 3, w) := by simp [stp, norm]
      have e2 : stp 39 out 3 w = (out, 2, w ++ [39]) := by simp [stp]
      rw [e1, e2, run_dbl s rest out (w ++ [39])]
      simp
    · have : (b :: s).flatMap dbl ++ 39 :: rest = b :: (s.flatMap dbl ++ 39 :: rest) := by simp [dbl, h]
      rw [this, run]
      have e1 : stp b out 2 w = (out, 2, w ++ [b]) := by simp [stp, norm, h]
      rw [e1, run_dbl s rest out (w ++ [b])]
      simp

theorem run_quo (s rest : List UInt8) (out : List (List UInt8)) : ∃ st, (st = 1 ∨ st = 3) ∧ run (quo s ++ rest) out 0 [] = run rest out st s := by
  unfold quo
  split
  · rename_i h
    simp only [Bool.and_eq_true, Bool.not_eq_true'] at h
    exact ⟨1, .inl rfl, by rw [run_plain s rest out 0 [] (.inl rfl) h.1 (by simpa using h.2)]; simp⟩
  · refine ⟨3, .inr rfl, ?_⟩
    have : [39] ++ s.flatMap dbl ++ [39] ++ rest = 39 :: (s.flatMap dbl ++ 39 :: rest) := by simp
    rw [this, run]
    have e : stp 39 out 0 [] = (out, 2, []) := by simp [stp, norm]; decide
    rw [e, run_dbl]
    simp

theorem run_blank (rest : List UInt8) (out : List (List UInt8)) (st : Nat) (w : List UInt8) (h : st = 1 ∨ st = 3) : run (32 :: rest) out st w = run rest (out ++ [w]) 0 [] := by
  have e : stp 32 out st w = (out ++ [w], 0, []) := by
    have hb : bl 32 = true := by decide
    unfold stp norm
    rcases h with rfl | rfl <;> simp [hb]
  rw [run, e]

theorem run_join : ∀ (l : List (List UInt8)) (x : List UInt8) (out : List (List UInt8)), ∃ st w, (st = 1 ∨ st = 3) ∧ run (quo x ++ Lib.joinTail [32] (l.map quo)) out 0 [] = (out ++ (x :: l).dropLast, st, w) ∧ (x :: l).getLast? = some w
  | [], x, out => by
    obtain ⟨st, h1, h2⟩ := run_quo x [] out
    refine ⟨st, x, h1, ?_, rfl⟩
    have : quo x ++ Lib.joinTail [32] ([].map quo) = quo x ++ [] := by simp [Lib.joinTail]
    rw [this, h2]
    simp [run]
  | y :: l, x, out => by
    have : quo x ++ Lib.joinTail [32] ((y :: l).map quo) = quo x ++ (32 :: (quo y ++ Lib.joinTail [32] (l.map quo))) := by simp [Lib.joinTail]
    obtain ⟨st, h1, h2⟩ := run_quo x (32 :: (quo y ++ Lib.joinTail [32] (l.map quo))) out
    rw [this, h2, run_blank _ _ _ _ h1]
    obtain ⟨st', w, g1, g2, g3⟩ := run_join l y (out ++ [x])
    exact ⟨st', w, g1, by rw [g2]; simp, by simpa using g3⟩

theorem back_eq (l : List (List UInt8)) : splN (run (Lib.join (l.map quo) [32]) [] 0 []) = (l, 0) := by
  cases l with
  | nil => rfl
  | cons x l =>
    rw [List.map_cons, Lib.join_cons]
    obtain ⟨st, w, g1, g2, g3⟩ := run_join l x []
    rw [g2]
    unfold splN fin
    have h2 : st ≠ 2 := by omega
    have h0 : st ≠ 0 := by omega
    simp only [h2, if_false, h0, ne_eq, not_false_eq_true, if_true, List.nil_append]
    congr 1
    have hne : (x :: l) ≠ [] := by simp
    rw [List.getLast?_eq_some_getLast hne] at g3
    have g4 := Option.some.inj g3
    rw [← g4]
    exact List.dropLast_concat_getLast hne

end Go.Proofs.YtcijochjfncefaaGreatDoor
