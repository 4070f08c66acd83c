/- The document's sets, bit by bit. -/
import Derived.Test.YtpcobejkpbalcaaDoorK27POVN
namespace Go.Proofs.YtpcobejkpbalcaaDoor.Rx
open Go Go.AM
set_option linter.unusedVariables false
set_option linter.unusedSimpArgs false
set_option maxRecDepth 100000
set_option maxHeartbeats 1000000
theorem wd_zero (f : Nat → Bool) (b : Nat) : wd f b 0 = 0 := by unfold wd; rfl
theorem wd_succ (f : Nat → Bool) (b n : Nat) : wd f b (n + 1) = (if f b then 1 else 0) + 2 * wd f (b + 1) n := by
  conv => lhs; unfold wd
def wq (f : Nat → Bool) (q b : Nat) : Nat := wd f (max (64 * q) b) (64 * q + 64 - max (64 * q) b)
theorem wq_own {f : Nat → Bool} {q b : Nat} (h : b / 64 = q) : wq f q b = (if f b then 1 else 0) + 2 * wq f q (b + 1) := by
  unfold wq
  rw [show max (64 * q) b = b by omega, show max (64 * q) (b + 1) = b + 1 by omega, show 64 * q + 64 - b = (64 * q + 64 - (b + 1)) + 1 by omega, wd_succ]
theorem wq_oth {f : Nat → Bool} {q b : Nat} (h : b / 64 ≠ q) : wq f q b = wq f q (b + 1) := by
  unfold wq
  by_cases h1 : 64 * q > b
  · rw [show max (64 * q) b = 64 * q by omega, show max (64 * q) (b + 1) = 64 * q by omega]
  · rw [show 64 * q + 64 - max (64 * q) b = 0 by omega, show 64 * q + 64 - max (64 * q) (b + 1) = 0 by omega, wd_zero, wd_zero]
theorem wq_lt {f : Nat → Bool} {q b : Nat} (h : b / 64 = q) : wq f q (b + 1) < 9223372036854775808 := by
  unfold wq
  refine Nat.lt_of_lt_of_le (wd_lt _ _ _) ?_
  refine Nat.le_trans (Nat.pow_le_pow_right (by omega) (show _ ≤ 63 by omega)) (by decide)
def wS (f : Nat → Bool) (b : Nat) : List Int := [(wq f 0 b : Int), (wq f 1 b : Int), (wq f 2 b : Int), (wq f 3 b : Int)]
theorem wS_0 (f : Nat → Bool) : wS f 0 = setW f := by
  unfold wS wq setW
  simp
theorem wS_256 (f : Nat → Bool) : wS f 256 = List.replicate 4 (0 : Int) := by
  unfold wS wq
  simp [wd_zero]
theorem wS_get (f : Nat → Bool) {b : Nat} (hb : b < 256) : (wS f (b + 1))[b / 64]? = some (wq f (b / 64) (b + 1) : Int) := by
  have : b / 64 = 0 ∨ b / 64 = 1 ∨ b / 64 = 2 ∨ b / 64 = 3 := by omega
  rcases this with h | h | h | h <;> rw [h] <;> rfl
theorem wS_step (f : Nat → Bool) {b : Nat} (hb : b < 256) : upd (wS f (b + 1)) (b / 64) (((if f b then 1 else 0) + 2 * wq f (b / 64) (b + 1) : Nat) : Int) = wS f b := by
  have hq : b / 64 = 0 ∨ b / 64 = 1 ∨ b / 64 = 2 ∨ b / 64 = 3 := by omega
  have o : ∀ q, b / 64 ≠ q → wq f q b = wq f q (b + 1) := fun q h => wq_oth h
  have e := wq_own (f := f) (b := b) rfl
  rw [← e]
  unfold wS
  rcases hq with h | h | h | h
  · rw [o 1 (by omega), o 2 (by omega), o 3 (by omega), h]; rfl
  · rw [o 0 (by omega), o 2 (by omega), o 3 (by omega), h]; rfl
  · rw [o 0 (by omega), o 1 (by omega), o 3 (by omega), h]; rfl
  · rw [o 0 (by omega), o 1 (by omega), o 2 (by omega), h]; rfl
def rowB (f : Nat → Bool) : List Bool := (List.range 256).map f
theorem rowB_len (f : Nat → Bool) : (rowB f).length = 256 := by simp [rowB]
theorem rowB_get (f : Nat → Bool) {i : Nat} (h : i < 256) : (rowB f)[i]? = some (f i) := by simp [rowB, h]
theorem rowB_upd (f : Nat → Bool) (i : Nat) (v : Bool) : upd (rowB f) i v = rowB (fun j => if j = i then v else f j) := by
  unfold upd
  refine List.ext_getElem? fun j => ?_
  rw [List.getElem?_set]
  by_cases hj : j < 256
  · rw [rowB_get _ hj, rowB_get _ hj, rowB_len]
    by_cases h : i = j
    · subst h; simp [hj]
    · rw [if_neg h, if_neg (fun e => h e.symm)]
  · have h1 : (rowB f)[j]? = none := List.getElem?_eq_none (by rw [rowB_len]; omega)
    have h2 : (rowB fun j => if j = i then v else f j)[j]? = none := List.getElem?_eq_none (by rw [rowB_len]; omega)
    rw [h1, h2, rowB_len]
    split
    · rw [if_neg (by omega)]
    · rfl
theorem rowB_ext {f g : Nat → Bool} (h : ∀ i, i < 256 → f i = g i) : rowB f = rowB g :=
  List.map_congr_left fun i hi => h i (List.mem_range.1 hi)
theorem rowB_none : List.replicate 256 false = rowB (fun _ => false) := by decide
theorem upd_get {α : Type} {l : List α} {i : Nat} {x y : α} (h : l[i]? = some y) : (upd l i x)[i]? = some x := by
  have : i < l.length := by
    rcases Nat.lt_or_ge i l.length with h' | h'
    · exact h'
    · rw [List.getElem?_eq_none h'] at h; cases h
  simp [upd, this]
theorem upd_upd {α : Type} (l : List α) (i : Nat) (x y : α) : upd (upd l i x) i y = upd l i y := by simp [upd]
theorem of_loop (K : Nat) (f : Nat → Bool) : ∀ (b fuel : Nat), b ≤ 256 → b < fuel → millwrightref06_Of.l5 K (rowB f) fuel (wS f b) ((b : Int) - 1) = some (setW f)
  | _, 0, _, h => by omega
  | 0, n + 1, _, _ => by
    unfold millwrightref06_Of.l5
    rw [if_neg (by simp), wS_0]
  | b + 1, n + 1, hb, hn => by
    have ih := of_loop K f b n (by omega) (by omega)
    have e0 : ((b + 1 : Nat) : Int) - 1 = (b : Int) := by omega
    have e1 : Int.tdiv (b : Int) 64 = ((b / 64 : Nat) : Int) := by rw [show (64 : Int) = ((64 : Nat) : Int) from rfl]; exact (Int.ofNat_tdiv b 64).symm
    have w1 : IntKind.i64.wrap ((b / 64 : Nat) : Int) = ((b / 64 : Nat) : Int) := w64 (by omega) (by omega)
    have w2 : IntKind.i64.wrap ((b : Int) - 1) = (b : Int) - 1 := w64 (by omega) (by omega)
    have hq : b / 64 < 4 := by omega
    have g := wS_get f (b := b) (by omega)
    have hlt := wq_lt (f := f) (q := b / 64) (b := b) rfl
    have st := wS_step f (b := b) (by omega)
    have c4 : (0 : Int) ≤ ((b / 64 : Nat) : Int) ∧ ((b / 64 : Nat) : Int) < (4 : Int) := ⟨by omega, by omega⟩
    have w3 : IntKind.u64.wrap ((wq f (b / 64) (b + 1) : Int) * 2) = ((2 * wq f (b / 64) (b + 1) : Nat) : Int) := by
      rw [show (wq f (b / 64) (b + 1) : Int) * 2 = ((2 * wq f (b / 64) (b + 1) : Nat) : Int) by omega]; exact u64n (by omega)
    unfold millwrightref06_Of.l5
    rw [e0, e1, w1, Int.toNat_natCast, Int.toNat_natCast, if_pos (by simp), if_pos (by decide), if_pos (by decide), if_pos c4, g, Option.bind_some, if_pos c4, Option.bind_some, if_pos ⟨by omega, by omega⟩, rowB_get f (by omega), Option.bind_some, w3]
    cases hf : f b with
    | false =>
      rw [hf] at st
      rw [if_neg (by decide)]
      unfold millwrightref06_Of.j11
      rw [w2]
      simp only [Bool.false_eq_true, if_false, Nat.zero_add] at st
      rw [st]; exact ih
    | true =>
      rw [hf] at st
      have g2 := upd_get (x := ((2 * wq f (b / 64) (b + 1) : Nat) : Int)) g
      have w4 : IntKind.u64.wrap (((2 * wq f (b / 64) (b + 1) : Nat) : Int) + 1) = ((1 + 2 * wq f (b / 64) (b + 1) : Nat) : Int) := by
        rw [show ((2 * wq f (b / 64) (b + 1) : Nat) : Int) + 1 = ((1 + 2 * wq f (b / 64) (b + 1) : Nat) : Int) by omega]; exact u64n (by omega)
      rw [if_pos rfl, if_pos (by decide), if_pos (by decide), if_pos c4, g2, Option.bind_some, if_pos c4, Option.bind_some, upd_upd, w4]
      unfold millwrightref06_Of.j11
      rw [w2]
      simp only [if_true] at st
      rw [st]; exact ih
theorem rof_eq (K : Nat) (hK : 300 ≤ K) (f : Nat → Bool) : millwrightref06_Of.f K (rowB f) = some (setW f) := by
  have h := of_loop K f 256 K (by omega) (by omega)
  rw [wS_256] at h
  unfold millwrightref06_Of.f millwrightref06_Of.j2
  rw [show (255 : Int) = ((256 : Nat) : Int) - 1 by decide, h]; rfl
theorem rsingle_eq (K : Nat) (hK : 300 ≤ K) (b : UInt8) : millwrightref07_single.f K (b.toNat : Int) = some (oneW b) := by
  have hb : b.toNat < 256 := b.toNat_lt
  unfold millwrightref07_single.f
  rw [if_pos ⟨by omega, by omega⟩, Int.toNat_natCast, rowB_none, rowB_get _ hb, Option.bind_some, rowB_upd, rof_eq K hK, Option.bind_some]
  unfold oneW
  rw [setW_ext (g := oneF b) fun i _ => by
    unfold oneF
    by_cases h : i = b.toNat <;> simp [h]]
theorem wr256 {i : Nat} (h : i ≤ 256) : IntKind.i64.wrap ((i : Int) + 1) = ((i + 1 : Nat) : Int) := by rw [w64 (by omega) (by omega)]; rfl
theorem dot_loop (K : Nat) (s : List UInt8) (v3 : List T_millwrightref07_sign) (v4 : Int) : ∀ (m fuel i : Nat) (f : Nat → Bool), 256 - i ≤ m → m < fuel → i ≤ 256 →
    millwrightref07_signs.l30 K s v3 v4 fuel (rowB f) (i : Int) = some (rowB fun j => if i ≤ j then j != 10 else f j)
  | _, 0, _, _, _, h, _ => by omega
  | m, n + 1, i, f, hm, hn, hi => by
    unfold millwrightref07_signs.l30
    by_cases h : i < 256
    · obtain ⟨m, rfl⟩ : ∃ y, m = y + 1 := ⟨m - 1, by omega⟩
      rw [if_pos (by simp; omega), if_pos ⟨by omega, by omega⟩, Int.toNat_natCast, rowB_get f h, Option.bind_some, rowB_upd, wr256 hi, dot_loop K s v3 v4 m n (i + 1) _ (by omega) (by omega) (by omega)]
      congr 1
      refine rowB_ext fun j _ => ?_
      by_cases h1 : j = i
      · subst h1
        rw [if_neg (by omega), if_pos rfl, if_pos (Nat.le_refl _)]
        have : ((j : Int) == 10) = (j == 10) := by rw [Bool.eq_iff_iff]; simp; omega
        simp only [bne, this]
      · by_cases h2 : i + 1 ≤ j
        · rw [if_pos h2, if_pos (by omega)]
        · rw [if_neg h2, if_neg h1, if_neg (by omega)]
    · rw [if_neg (by simp; omega)]
      congr 1
      exact rowB_ext fun j _ => by rw [if_neg (by omega)]
theorem neg_loop (K : Nat) (v3 : Int) : ∀ (m fuel i : Nat) (f : Nat → Bool), 256 - i ≤ m → m < fuel → i ≤ 256 →
    millwrightref07_set.l13 K v3 fuel (rowB f) (i : Int) = some (rowB fun j => if i ≤ j then !f j else f j)
  | _, 0, _, _, _, h, _ => by omega
  | m, n + 1, i, f, hm, hn, hi => by
    unfold millwrightref07_set.l13
    by_cases h : i < 256
    · obtain ⟨m, rfl⟩ : ∃ y, m = y + 1 := ⟨m - 1, by omega⟩
      have c : (0 : Int) ≤ (i : Int) ∧ (i : Int) < 256 := ⟨by omega, by omega⟩
      rw [if_pos (by simp; omega), if_pos c, Int.toNat_natCast, rowB_get f h, Option.bind_some, if_pos c, Option.bind_some, rowB_upd, wr256 hi, neg_loop K v3 m n (i + 1) _ (by omega) (by omega) (by omega)]
      congr 1
      refine rowB_ext fun j _ => ?_
      by_cases h1 : j = i
      · subst h1
        rw [if_neg (by omega), if_pos rfl, if_pos (Nat.le_refl _)]
      · by_cases h2 : i + 1 ≤ j
        · rw [if_pos h2, if_neg h1, if_pos (by omega)]
        · rw [if_neg h2, if_neg h1, if_neg (by omega)]
    · rw [if_neg (by simp; omega)]
      congr 1
      exact rowB_ext fun j _ => by rw [if_neg (by omega)]
theorem fill_loop (K : Nat) (v1 : Bool) (v3 : Int) (v4 : List Int) (v5 : List Bool) (v38 : Int) (high : Nat) (hh : high < 256) : ∀ (m fuel i : Nat) (f : Nat → Bool), high + 1 - i ≤ m → m < fuel → i ≤ 256 →
    millwrightref07_set.l43 K v1 v3 v4 v5 v38 (high : Int) fuel (rowB f) (i : Int) = some (rowB fun j => f j || (decide (i ≤ j) && decide (j ≤ high)))
  | _, 0, _, _, _, h, _ => by omega
  | m, n + 1, i, f, hm, hn, hi => by
    have w : IntKind.i64.wrap (high : Int) = (high : Int) := w64 (by omega) (by omega)
    unfold millwrightref07_set.l43
    rw [w]
    by_cases h : i ≤ high
    · obtain ⟨m, rfl⟩ : ∃ y, m = y + 1 := ⟨m - 1, by omega⟩
      rw [if_pos (by simp; omega), if_pos ⟨by omega, by omega⟩, Int.toNat_natCast, rowB_get f (by omega), Option.bind_some, rowB_upd, wr256 hi, fill_loop K v1 v3 v4 v5 v38 high hh m n (i + 1) _ (by omega) (by omega) (by omega)]
      congr 1
      refine rowB_ext fun j _ => ?_
      by_cases h1 : j = i
      · subst h1; simp; omega
      · have h2 : decide (i + 1 ≤ j) = decide (i ≤ j) := by rw [decide_eq_decide]; omega
        rw [if_neg h1, h2]
    · rw [if_neg (by simp; omega)]
      congr 1
      refine rowB_ext fun j _ => ?_
      have : (decide (i ≤ j) && decide (j ≤ high)) = false := by
        rw [Bool.and_eq_false_iff]
        simp only [decide_eq_false_iff_not]; omega
      rw [this, Bool.or_false]
def numP (l : List (UInt8 × Bool)) : List Int := l.map fun x => (x.1.toNat : Int)
def barP (l : List (UInt8 × Bool)) : List Bool := l.map (·.2)
def noSet : List Int × Int := (List.replicate 4 (0 : Int), -1)
theorem pair_loop (K : Nat) (hK : 300 ≤ K) (v1 : Bool) (v3 : Int) (L : List (UInt8 × Bool)) (hL : L.length ≤ 100000) : ∀ (n fuel i : Nat) (r : List (UInt8 × Bool)) (f : Nat → Bool), L.drop i = r → r.length < n → r.length < fuel → i ≤ L.length →
    millwrightref07_set.l26 K v1 v3 (numP L) (barP L) fuel (rowB f) (i : Int) = some (match prD n f r with | some f' => .inl (rowB f') | none => .inr noSet)
  | 0, _, _, _, _, _, h, _, _ => by omega
  | _, 0, _, _, _, _, _, h, _ => by omega
  | n + 1, fuel + 1, i, r, f, hd, hn, hf, hi => by
    have hlen : (numP L).length = L.length := by simp [numP]
    have hlen2 : (barP L).length = L.length := by simp [barP]
    have hr : r.length = L.length - i := by rw [← hd]; simp
    have get : ∀ (j : Nat) (x : UInt8 × Bool), L[j]? = some x → (numP L)[j]? = some (x.1.toNat : Int) ∧ (barP L)[j]? = some x.2 := fun j x h => by
      simp [numP, barP, h]
    unfold millwrightref07_set.l26
    rw [hlen, hlen2]
    cases r with
    | nil =>
      simp only [List.length_nil] at hr
      rw [if_neg (by simp; omega)]; rfl
    | cons a l =>
      simp only [List.length_cons] at hr hn hf
      have g0 : L[i]? = some a := by
        have := congrArg (·[0]?) hd
        simpa using this
      have ha := (get i a g0).1
      have c0 : (0 : Int) ≤ (i : Int) ∧ (i : Int) < (L.length : Int) := ⟨by omega, by omega⟩
      have w1 : IntKind.i64.wrap ((i : Int) + 1) = ((i + 1 : Nat) : Int) := by rw [w64 (by omega) (by omega)]; rfl
      have w2 : IntKind.i64.wrap ((i : Int) + 2) = ((i + 2 : Nat) : Int) := by rw [w64 (by omega) (by omega)]; rfl
      have w3 : IntKind.i64.wrap (((i + 2 : Nat) : Int) + 1) = ((i + 3 : Nat) : Int) := by rw [w64 (by omega) (by omega)]; rfl
      have wa : IntKind.i64.wrap (a.1.toNat : Int) = (a.1.toNat : Int) := by have := a.1.toNat_lt; exact w64 (by omega) (by omega)
      have hal : a.1.toNat < 256 := a.1.toNat_lt
      have hd1 : L.drop (i + 1) = l := by rw [← List.drop_drop, hd]; rfl
      have single : ∀ v37, v37 = (a.1.toNat : Int) → millwrightref07_set.j51 K (millwrightref07_set.l26 K v1 v3 (numP L) (barP L) fuel) v1 v3 (numP L) (barP L) (rowB f) (a.1.toNat : Int) (i : Int) v37 = some (match prD n (fun x => f x || spanF a.1 a.1 x) l with | some f' => .inl (rowB f') | none => .inr noSet) := fun v37 e => by
        subst e
        unfold millwrightref07_set.j51 millwrightref07_set.j33
        rw [if_neg (by simp), wa, fill_loop K v1 v3 _ _ _ a.1.toNat hal 256 K a.1.toNat f (by omega) (by omega) (by omega), Option.bind_some, w1]
        exact pair_loop K hK v1 v3 L hL n fuel (i + 1) l _ hd1 (by omega) (by omega) (by omega)
      rw [if_pos (by simpa using c0.2), if_pos c0, Int.toNat_natCast, Nat.zero_add, ha, Option.bind_some, if_pos c0, Option.bind_some, w1, w2]
      cases l with
      | nil =>
        simp only [List.length_nil] at hr
        rw [if_neg (by simp; omega)]
        unfold millwrightref07_set.j56
        rw [if_neg (by decide), single _ rfl, pr_one (by simp)]
      | cons m l =>
        cases l with
        | nil =>
          simp only [List.length_cons, List.length_nil] at hr
          rw [if_neg (by simp; omega)]
          unfold millwrightref07_set.j56
          rw [if_neg (by decide), single _ rfl, pr_one (by simp)]
        | cons h l =>
          simp only [List.length_cons] at hr hn hf
          have gm : L[i + 1]? = some m := by
            have := congrArg (·[0]?) hd1
            simpa using this
          have hd2 : L.drop (i + 2) = h :: l := by rw [show i + 2 = (i + 1) + 1 from rfl, ← List.drop_drop, hd1]; rfl
          have gh : L[i + 2]? = some h := by
            have := congrArg (·[0]?) hd2
            simpa using this
          have hd3 : L.drop (i + 3) = l := by rw [show i + 3 = (i + 2) + 1 from rfl, ← List.drop_drop, hd2]; rfl
          have hm := get _ _ gm
          have hh := get _ _ gh
          have c1 : (0 : Int) ≤ ((i + 1 : Nat) : Int) ∧ ((i + 1 : Nat) : Int) < (L.length : Int) := ⟨by omega, by omega⟩
          have c2 : (0 : Int) ≤ ((i + 2 : Nat) : Int) ∧ ((i + 2 : Nat) : Int) < (L.length : Int) := ⟨by omega, by omega⟩
          rw [if_pos (by simpa using c2.2), if_pos c1, Int.toNat_natCast, Nat.zero_add, hm.1, Option.bind_some]
          have q : ((m.1.toNat : Int) == 45) = (m.1 == 45) := u8_eq (b := 45)
          rw [q]
          by_cases h45 : m.1 = 45
          · rw [h45, if_pos (by decide), if_pos c1, hm.2, Option.bind_some]
            unfold millwrightref07_set.j56
            obtain ⟨m1, m2⟩ := m
            simp only at h45
            subst h45
            cases m2 with
            | false =>
              rw [if_neg (by decide), single _ rfl, pr_one (by intro x l' e; cases e)]
            | true =>
              rw [if_pos rfl, w2, hlen, if_pos c2, Int.toNat_natCast, Nat.zero_add, hh.1, Option.bind_some, pr_span]
              unfold millwrightref07_set.j51 millwrightref07_set.j33
              have hhl : h.1.toNat < 256 := h.1.toNat_lt
              by_cases hlt : h.1 < a.1
              · rw [if_pos hlt, if_pos (by simpa using UInt8.lt_iff_toNat_lt.1 hlt)]; rfl
              · have hlt' : ¬ h.1.toNat < a.1.toNat := fun e => hlt (UInt8.lt_iff_toNat_lt.2 e)
                rw [if_neg hlt, if_neg (by simp; omega), wa, fill_loop K v1 v3 _ _ _ h.1.toNat hhl 256 K a.1.toNat f (by omega) (by omega) (by omega), Option.bind_some, w3]
                exact pair_loop K hK v1 v3 L hL n fuel (i + 3) l _ hd3 (by omega) (by omega) (by omega)
          · have : (m.1 == 45) = false := by simpa using h45
            rw [this, if_neg (by decide)]
            unfold millwrightref07_set.j56
            rw [if_neg (by decide), single _ rfl, pr_one (by intro x l' e; cases e; exact h45 rfl)]
end Go.Proofs.YtpcobejkpbalcaaDoor.Rx
