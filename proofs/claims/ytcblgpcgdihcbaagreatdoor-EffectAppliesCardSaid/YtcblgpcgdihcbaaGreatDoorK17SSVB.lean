/- What the code and the document read as a number in a field of an archive. -/
import Derived.Test.YtcblgpcgdihcbaaGreatDoorK17SSVA
namespace Go.Proofs.YtcblgpcgdihcbaaGreatDoor.Ar
open Go Go.AM Go.ChangeShapes Go.ChangeAt Go.RowKit
set_option linter.unusedVariables false
set_option linter.unusedSimpArgs false
set_option maxRecDepth 100000
theorem ten_at {i : Nat} (h : i < 10) : sub ([48, 49, 50, 51, 52, 53, 54, 55, 56, 57] : Tx) (i : Int) ((i + 1 : Nat) : Int) = some [fig i] := by
  have : ∀ j : Fin 10, sub ([48, 49, 50, 51, 52, 53, 54, 55, 56, 57] : Tx) (j.val : Int) ((j.val + 1 : Nat) : Int) = some [fig j.val] := by decide +kernel
  exact this ⟨i, h⟩
theorem figures_num : ∀ (k n : Nat), n < 10 ^ k → n ≤ 9223372036854775807 → scc_millwrightnum_Figures (k + 1) (n : Int) = some (Lib.decDigits n)
  | k, n, h, hn => by
    show millwrightnum_Figures.b k (scc_millwrightnum_Figures k) (n : Int) = _
    unfold millwrightnum_Figures.b millwrightnum_Figures.j14 millwrightnum_Figures.j12 millwrightnum_Figures.j8
    have e1 : Int.tmod (n : Int) 10 = ((n % 10 : Nat) : Int) := rfl
    have e2 : IntKind.i64.wrap ((n % 10 : Nat) + 1 : Int) = ((n % 10 + 1 : Nat) : Int) := by rw [w64 (by omega) (by omega)]; rfl
    rw [if_pos (by decide), if_pos (by simp), e1, e2, ten_at (by omega), Option.bind_some, if_pos (by simp; omega)]
    by_cases h10 : n < 10
    · rw [if_pos (by simp; omega), if_pos (by simp), dec_small h10, Nat.mod_eq_of_lt h10]; rfl
    · obtain ⟨k, rfl⟩ : ∃ j, k = j + 1 := by
        cases k with
        | zero => simp at h; omega
        | succ j => exact ⟨j, rfl⟩
      have e3 : IntKind.i64.wrap (Int.tdiv (n : Int) 10) = ((n / 10 : Nat) : Int) := by
        rw [show Int.tdiv (n : Int) 10 = ((n / 10 : Nat) : Int) from rfl, w64 (by omega) (by omega)]
      have hp : n / 10 < 10 ^ k := by rw [Nat.pow_succ] at h; omega
      have hl := dec_len_le (n := n / 10) (w := 19) (by omega) (by omega)
      rw [if_neg (by simp; omega), if_pos (by decide), e3, figures_num k (n / 10) hp (by omega), Option.bind_some, if_pos (by simp only [List.length_singleton]; omega), dec_big h10]
theorem Figures_eq (k n : Nat) (hk : 100 ≤ k) (hn : n ≤ 9223372036854775807) : millwrightnum_Figures.f k (n : Int) = some (Lib.decDigits n) := by
  obtain ⟨k, rfl⟩ : ∃ j, k = j + 1 := ⟨k - 1, by omega⟩
  exact figures_num k n (Nat.lt_of_lt_of_le (show n < 10 ^ 20 by omega) (Nat.pow_le_pow_right (by omega) (by omega))) hn
theorem wide_loop (k : Nat) (w : Nat) (hw : w ≤ 1000) : ∀ (m fuel : Nat) (x : Tx), w - x.length = m → m < fuel → x.length ≤ 100000 → millwrightref03_wide.l4 k (w : Int) fuel x = some (x ++ bl m)
  | m, 0, _, _, h, _ => by omega
  | 0, f + 1, x, h, _, _ => by
    unfold millwrightref03_wide.l4
    rw [if_neg (by simp; omega)]; simp
  | m + 1, f + 1, x, h, hf, hx => by
    unfold millwrightref03_wide.l4
    rw [if_pos (by simp; omega), if_pos (by simp; omega), wide_loop k w hw m f (x ++ [32]) (by simp; omega) (by omega) (by simp; omega), bl_succ', List.append_assoc]; rfl
theorem wide_eq (k : Nat) (hk : 2000 ≤ k) (x : Tx) (w : Nat) (hw : w ≤ 1000) (hx : x.length ≤ 100000) : millwrightref03_wide.f k x (w : Int) = some (fld w x) := by
  unfold millwrightref03_wide.f millwrightref03_wide.j2
  rw [wide_loop k w hw (w - x.length) k x rfl (by omega) hx]; rfl
def figuresS (l : Tx) : Int × Bool :=
  if l.takeWhile isFig = [] ∨ (1 < (l.takeWhile isFig).length ∧ l.head? = some 48) then (0, false) else ((val 0 (l.takeWhile isFig) : Int), (l.dropWhile isFig).all (· == 32))
theorem ge48 (c : UInt8) : decide ((c.toNat : Int) ≥ 48) = decide (48 ≤ c.toNat) := by simp; omega
theorem le57 (c : UInt8) : decide ((c.toNat : Int) ≤ 57) = decide (c.toNat ≤ 57) := by simp; omega
theorem eq_byte (c d : UInt8) (n : Int) (h : n = (d.toNat : Int)) : ((c.toNat : Int) == n) = (c == d) := by subst h; exact u8_eq
theorem fig_loop (k : Nat) (l : Tx) (hl : l.length ≤ 17) : ∀ (r : Tx) (fuel i a : Nat), l.drop i = r → r.length < fuel → a < 10 ^ i → i ≤ l.length →
    millwrightref03_figures.l27 k l fuel (a : Int) (i : Int) = some ((val a (r.takeWhile isFig) : Int), ((i + (r.takeWhile isFig).length : Nat) : Int))
  | _, 0, _, _, _, h, _, _ => by omega
  | [], f + 1, i, a, hd, _, _, _ => by
    have := at_nil hd
    unfold millwrightref03_figures.l27 millwrightref03_figures.j36
    rw [if_neg (by simp; omega), if_neg (by decide)]; simp [val_nil]
  | c :: r, f + 1, i, a, hd, hf, ha, hi => by
    obtain ⟨g1, g2, g3⟩ := at_drop hd
    unfold millwrightref03_figures.l27 millwrightref03_figures.j36 millwrightref03_figures.j33
    rw [if_pos (by simp; omega), g1, Option.bind_some, ge48, Option.bind_some, le57]
    by_cases h48 : 48 ≤ c.toNat
    · rw [if_pos (by simpa using h48)]
      by_cases h57 : c.toNat ≤ 57
      · have hc : isFig c = true := by simp [isFig, h48, h57]
        have hpow : (10 : Nat) ^ i ≤ 10 ^ 16 := Nat.pow_le_pow_right (by omega) (by omega)
        have hp16 : (10 : Nat) ^ 16 = 10000000000000000 := by decide
        have e1 : IntKind.i64.wrap (IntKind.u8.wrap ((c.toNat : Int) - 48)) = ((c.toNat - 48 : Nat) : Int) := by
          have : IntKind.u8.wrap ((c.toNat : Int) - 48) = ((c.toNat - 48 : Nat) : Int) := by
            simp only [IntKind.wrap, IntKind.bits, IntKind.signed]; simp; omega
          rw [this, w64 (by omega) (by omega)]
        have e2 : IntKind.i64.wrap ((a : Int) * 10) = ((a * 10 : Nat) : Int) := by rw [w64 (by omega) (by omega)]; omega
        have e3 : IntKind.i64.wrap (((a * 10 : Nat) : Int) + ((c.toNat - 48 : Nat) : Int)) = ((a * 10 + (c.toNat - 48) : Nat) : Int) := by rw [w64 (by omega) (by omega)]; omega
        rw [if_pos (by simpa using h57), Option.bind_some, e1, e2, e3, wr1 (by omega), fig_loop k l hl r f (i + 1) _ g2 (by simpa using hf) (by rw [Nat.pow_succ]; omega) (by omega), List.takeWhile_cons_of_pos hc, val_cons, List.length_cons]
        congr 3; omega
      · have hc : isFig c = false := by simp [isFig, h57]
        rw [if_neg (by simpa using h57), List.takeWhile_cons_of_neg (by simp [hc]), val_nil]; simp
    · have hc : isFig c = false := by simp [isFig, h48]
      rw [if_neg (by simpa using h48), if_neg (by decide), List.takeWhile_cons_of_neg (by simp [hc]), val_nil]; simp
theorem blank_loop (k : Nat) (l : Tx) (v : Int) (hl : l.length ≤ 17) : ∀ (r : Tx) (fuel i : Nat), l.drop i = r → r.length < fuel → i ≤ l.length →
    millwrightref03_figures.l6 k l v fuel (i : Int) = some ((i + (r.takeWhile (· == 32)).length : Nat) : Int)
  | _, 0, _, _, h, _ => by omega
  | [], f + 1, i, hd, _, _ => by
    have := at_nil hd
    unfold millwrightref03_figures.l6 millwrightref03_figures.j13
    rw [if_neg (by simp; omega), if_neg (by decide)]; simp
  | c :: r, f + 1, i, hd, hf, hi => by
    obtain ⟨g1, g2, g3⟩ := at_drop hd
    unfold millwrightref03_figures.l6 millwrightref03_figures.j13 millwrightref03_figures.j10
    rw [if_pos (by simp; omega), g1, Option.bind_some, eq_byte c 32 32 rfl]
    by_cases hc : c = 32
    · subst hc
      rw [if_pos (by decide), wr1 (by omega), blank_loop k l v hl r f (i + 1) g2 (by simpa using hf) (by omega), List.takeWhile_cons_of_pos (by decide), List.length_cons]
      congr 2; omega
    · rw [if_neg (by simpa using hc), List.takeWhile_cons_of_neg (by simpa using hc)]; simp
theorem all_len (l : Tx) (p : UInt8 → Bool) : ((l.takeWhile p).length == l.length) = l.all p := by
  induction l with
  | nil => rfl
  | cons c r ih =>
    by_cases h : p c = true
    · rw [List.takeWhile_cons_of_pos h, List.all_cons, h, Bool.true_and, ← ih]; simp
    · rw [List.takeWhile_cons_of_neg h, List.all_cons]; simp [h]
theorem take_drop_while (l : Tx) (p : UInt8 → Bool) : l.drop (l.takeWhile p).length = l.dropWhile p := by
  induction l with
  | nil => rfl
  | cons c r ih =>
    by_cases h : p c = true
    · rw [List.takeWhile_cons_of_pos h, List.dropWhile_cons_of_pos h, List.length_cons, List.drop_succ_cons, ih]
    · rw [List.takeWhile_cons_of_neg h, List.dropWhile_cons_of_neg h]; rfl
theorem while_len (l : Tx) (p : UInt8 → Bool) : (l.takeWhile p).length + (l.dropWhile p).length = l.length := by
  have := congrArg List.length (List.takeWhile_append_dropWhile (p := p) (l := l))
  rwa [List.length_append] at this
theorem figures_eq (k : Nat) (hk : 100 ≤ k) (l : Tx) (hl : l.length ≤ 17) : millwrightref03_figures.f k l = some (figuresS l) := by
  have hw := while_len l isFig
  unfold millwrightref03_figures.f
  rw [show (0 : Int) = ((0 : Nat) : Int) from rfl, fig_loop k l hl l k 0 0 rfl (by omega) (by decide) (by omega), Option.bind_some]
  have hj17 : millwrightref03_figures.j17 k l (val 0 (l.takeWhile isFig)) (((l.takeWhile isFig).length : Nat) : Int) = some ((val 0 (l.takeWhile isFig) : Int), (l.dropWhile isFig).all (· == 32)) := by
    unfold millwrightref03_figures.j17 millwrightref03_figures.j4
    rw [blank_loop k l _ hl _ k _ (take_drop_while l isFig) (by omega) (by omega), Option.bind_some, ← all_len]
    congr 2
    rw [Bool.eq_iff_iff, beq_iff_eq, beq_iff_eq]; omega
  simp only [Nat.zero_add]
  unfold millwrightref03_figures.j24 millwrightref03_figures.j20 figuresS
  cases l with
  | nil => rfl
  | cons c r =>
    by_cases hc : isFig c = true
    · have ht : ((c :: r).takeWhile isFig) ≠ [] := by rw [List.takeWhile_cons_of_pos hc]; simp
      have htl := List.length_pos_iff.2 ht
      rw [if_neg (by simp only [beq_iff_eq]; omega)]
      by_cases h1 : 1 < ((c :: r).takeWhile isFig).length
      · have g0 : idx (c :: r) (0 : Int) = some c := rfl
        rw [if_pos (by simp only [decide_eq_true_eq]; omega), g0, Option.bind_some, eq_byte c 48 48 rfl]
        simp only [List.head?_cons, Option.some.injEq]
        by_cases h48 : c = 48
        · rw [if_pos (by simp [h48]), if_pos (.inr ⟨h1, h48⟩)]
        · rw [if_neg (by simpa using h48), if_neg (by rintro (h | ⟨_, h⟩); exact ht h; exact h48 h), hj17]
      · rw [if_neg (by simp only [decide_eq_true_eq]; omega), if_neg (by decide), if_neg (by rintro (h | ⟨h, _⟩); exact ht h; exact h1 h), hj17]
    · have ht : ((c :: r).takeWhile isFig) = [] := List.takeWhile_cons_of_neg hc
      rw [ht, if_pos (by simp), if_pos (by decide), if_pos (.inl rfl)]
theorem takeW_app (d : Tx) (n : Nat) (h : ∀ c ∈ d, isFig c = true) : (d ++ bl n).takeWhile isFig = d ∧ (d ++ bl n).dropWhile isFig = bl n := by
  induction d with
  | nil =>
    cases n with
    | zero => exact ⟨rfl, rfl⟩
    | succ n => rw [List.nil_append, bl_succ']; exact ⟨List.takeWhile_cons_of_neg (by decide), List.dropWhile_cons_of_neg (by decide)⟩
  | cons c r ih =>
    obtain ⟨h1, h2⟩ := ih fun x hx => h x (List.mem_cons_of_mem _ hx)
    have hc := h c (by simp)
    rw [List.cons_append, List.takeWhile_cons_of_pos hc, List.dropWhile_cons_of_pos hc, h1, h2]
    exact ⟨rfl, rfl⟩
theorem figures_fld (n w : Nat) : figuresS (fld w (Lib.decDigits n)) = ((n : Int), true) := by
  obtain ⟨h1, h2, h3, h4, _⟩ := dec_fig n
  obtain ⟨t1, t2⟩ := takeW_app (Lib.decDigits n) (w - (Lib.decDigits n).length) h1
  unfold figuresS fld
  rw [t1, t2, if_neg, h3]
  · congr 1
    rw [List.all_eq_true]
    intro x hx
    rw [List.eq_of_mem_replicate hx]; rfl
  · rintro (h | ⟨hl, hh⟩)
    · exact h2 h
    · rw [head_app h2] at hh
      refine h4 ?_ hh
      apply Classical.byContradiction
      intro h0
      rw [show n = 0 by omega, dec_small (by omega)] at hl
      simp at hl
theorem figures_inv {f : Tx} {v : Int} (h : figuresS f = (v, true)) : ∃ n : Nat, v = (n : Int) ∧ f = fld f.length (Lib.decDigits n) ∧ (Lib.decDigits n).length ≤ f.length ∧ n < 10 ^ f.length := by
  unfold figuresS at h
  split at h
  · injection h with _ h; cases h
  · rename_i hn
    injection h with h1 h2
    have hd : ∀ c ∈ f.takeWhile isFig, isFig c = true := fun c hc => by
      have := List.all_takeWhile (p := isFig) (l := f)
      exact List.all_eq_true.1 this c hc
    have hne : f.takeWhile isFig ≠ [] := fun e => hn (.inl e)
    have hw := while_len f isFig
    have hdv := dec_val (f.takeWhile isFig) hne hd fun hl hh => hn (.inr ⟨hl, by
      have := List.takeWhile_append_dropWhile (p := isFig) (l := f)
      rw [← this, head_app hne]; exact hh⟩)
    refine ⟨val 0 (f.takeWhile isFig), h1.symm, ?_, by rw [hdv]; omega, ?_⟩
    · rw [hdv, fld]
      have hb : f.dropWhile isFig = bl (f.length - (f.takeWhile isFig).length) := by
        rw [show f.length - (f.takeWhile isFig).length = (f.dropWhile isFig).length by omega]
        exact List.eq_replicate_iff.2 ⟨rfl, fun b hb => by simpa using List.all_eq_true.1 h2 b hb⟩
      rw [← hb, List.takeWhile_append_dropWhile]
    · have := val_lt (f.takeWhile isFig) 0 0 (by decide) hd
      exact Nat.lt_of_lt_of_le this (Nat.pow_le_pow_right (by omega) (by omega))
theorem parse_val : ∀ (d : Tx) (a : Nat), (∀ c ∈ d, isFig c = true) → val a d < 9223372036854775808 → Lib.parseUint10 a d = .ok (val a d)
  | [], a, _, _ => rfl
  | c :: r, a, h, hv => by
    have hc := fig_of (h c (by simp))
    rw [val_cons] at hv ⊢
    have hm := val_mono r (a * 10 + (c.toNat - 48))
    rw [Lib.parseUint10, if_pos hc, if_neg (by omega), if_neg (by omega)]
    exact parse_val r _ (fun x hx => h x (List.mem_cons_of_mem _ hx)) hv
theorem parse_ok : ∀ (d : Tx) (a u : Nat), Lib.parseUint10 a d = .ok u → (∀ c ∈ d, isFig c = true) ∧ u = val a d
  | [], a, u, h => by
    rw [Lib.parseUint10] at h
    injection h with h
    exact ⟨by simp, by rw [val_nil]; exact h.symm⟩
  | c :: r, a, u, h => by
    rw [Lib.parseUint10] at h
    split at h
    · rename_i hc
      split at h
      · cases h
      · split at h
        · cases h
        · obtain ⟨h1, h2⟩ := parse_ok r _ u h
          refine ⟨fun x hx => ?_, by rw [val_cons]; exact h2⟩
          rcases List.mem_cons.1 hx with rfl | hx
          · simp [isFig, hc]
          · exact h1 x hx
    · cases h
theorem atoi_dec {n : Nat} (hn : n < 9223372036854775808) : Lib.atoiAll (Lib.decDigits n) = .ok (n : Int) := by
  obtain ⟨h1, h2, h3, _, _⟩ := dec_fig n
  cases hd : Lib.decDigits n with
  | nil => exact absurd hd h2
  | cons c r =>
    have hc := fig_of (h1 c (by rw [hd]; simp))
    unfold Lib.atoiAll
    simp only
    rw [if_neg (by omega), ← hd, Lib.parseMag, if_neg h2, parse_val _ 0 h1 (by rw [h3]; exact hn), h3]
    simp only
    rw [if_neg (by omega), if_neg (by omega), if_neg (by omega)]
theorem dec_val_len : ∀ (d : Tx), d ≠ [] → (∀ c ∈ d, isFig c = true) → (Lib.decDigits (val 0 d)).length ≤ d.length := fun d hd h => by
  have := val_lt d 0 0 (by decide) h
  exact dec_len_le (by simpa using this) (List.length_pos_iff.2 hd)
theorem atoi_len {s : Tx} {v : Int} (h : Lib.atoiAll s = .ok v) : (Lib.itoa v).length ≤ s.length ∧ -9223372036854775808 ≤ v ∧ v ≤ 9223372036854775807 := by
  obtain ⟨b1, b2⟩ := Lib.atoiAll_bounds h
  refine ⟨?_, b1, b2⟩
  unfold Lib.atoiAll at h
  cases s with
  | nil => cases h
  | cons c r =>
    simp only at h
    split at h
    · cases h
    · cases h
    · rename_i u hu
      generalize hX : (if c.toNat = 43 ∨ c.toNat = 45 then r else c :: r) = X at hu
      have hXl : X.length ≤ r.length + 1 ∧ (c.toNat = 45 → X.length ≤ r.length) := by
        by_cases hc : c.toNat = 43 ∨ c.toNat = 45
        · rw [if_pos hc] at hX; subst hX; exact ⟨by omega, fun _ => Nat.le_refl _⟩
        · rw [if_neg hc] at hX; subst hX; exact ⟨by simp, fun h => absurd (.inr h) hc⟩
      unfold Lib.parseMag at hu
      by_cases hne : X = []
      · rw [if_pos hne] at hu; cases hu
      · rw [if_neg hne] at hu
        obtain ⟨p1, p2⟩ := parse_ok _ 0 u hu
        have hl := dec_val_len _ hne p1
        rw [← p2] at hl
        split at h
        · cases h
        · split at h
          · cases h
          · injection h with h
            by_cases h45 : c.toNat = 45
            · rw [if_pos h45] at h
              have hl2 := hXl.2 h45
              subst h
              unfold Lib.itoa
              split
              · simp only [Int.natAbs_neg, Int.natAbs_natCast, List.length_cons]; omega
              · have : u = 0 := by omega
                subst this
                rw [show (-((0 : Nat) : Int)).toNat = 0 from rfl, dec_small (by omega)]; simp
            · rw [if_neg h45] at h
              have hl2 := hXl.1
              subst h
              rw [itoa_nat, List.length_cons]
              omega
def numS (l : Tx) : Int := match Lib.atoiAll (Lib.trimRightB l 32) with | .ok v => v | _ => -1
theorem number_eq (k : Nat) (l : Tx) (hl : l.length ≤ 100000) : ar_number.f k l = some (numS l) := by
  unfold ar_number.f pTrimRight.f pAtoi.f numS
  have ht := trim_le l
  simp only
  rw [if_pos ⟨by decide, by omega⟩, Option.bind_some, if_pos (by omega), Option.bind_some]
  cases Lib.atoiAll (Lib.trimRightB l 32) <;> rfl
theorem num_fld {n w : Nat} (hn : n < 9223372036854775808) : numS (fld w (Lib.decDigits n)) = n := by
  unfold numS
  rw [trim_fld w (dec_last n), atoi_dec hn]
theorem num_len (l : Tx) (h2 : 2 ≤ l.length) : (Lib.itoa (numS l)).length ≤ l.length ∧ -9223372036854775808 ≤ numS l ∧ numS l ≤ 9223372036854775807 := by
  have ht := trim_le l
  have hm1 : (Lib.itoa (-1)).length = 2 := by unfold Lib.itoa; rw [if_pos (by omega), dec_small (by decide)]; rfl
  have other : numS l = -1 → (Lib.itoa (numS l)).length ≤ l.length ∧ -9223372036854775808 ≤ numS l ∧ numS l ≤ 9223372036854775807 := fun e => by
    rw [e, hm1]; exact ⟨h2, by omega, by omega⟩
  cases hv : Lib.atoiAll (Lib.trimRightB l 32)
  case ok v =>
    have e : numS l = v := by unfold numS; rw [hv]
    obtain ⟨h1, h3, h4⟩ := atoi_len hv
    rw [e]
    exact ⟨by omega, h3, h4⟩
  all_goals exact other (by unfold numS; rw [hv])
end Go.Proofs.YtcblgpcgdihcbaaGreatDoor.Ar
