/- Sets of bytes as four words. -/
import Derived.Test.YteddmdkbeednmaaDoorK33DAF
import Derived.Test.YteddmdkbeednmaaDoorK33AmM3
namespace Go.Proofs.YteddmdkbeednmaaDoor.Rx
open Go Go.AM
set_option linter.unusedVariables false
set_option linter.unusedSimpArgs false
set_option maxRecDepth 100000
set_option maxHeartbeats 1000000
def wd (f : Nat → Bool) : Nat → Nat → Nat
  | _, 0 => 0
  | b, n + 1 => (if f b then 1 else 0) + 2 * wd f (b + 1) n
theorem wd_bit (f : Nat → Bool) : ∀ (n b i : Nat), (wd f b n).testBit i = (decide (i < n) && f (b + i))
  | 0, b, i => by simp [wd]
  | n + 1, b, 0 => by
    unfold wd
    rw [Nat.testBit_zero]
    cases f b <;> simp <;> omega
  | n + 1, b, i + 1 => by
    unfold wd
    have : ((if f b then 1 else 0) + 2 * wd f (b + 1) n) / 2 = wd f (b + 1) n := by split <;> omega
    rw [Nat.testBit_succ, this, wd_bit f n (b + 1) i]
    have e : b + 1 + i = b + (i + 1) := by omega
    rw [e]
    simp
theorem wd_lt (f : Nat → Bool) : ∀ (n b : Nat), wd f b n < 2 ^ n
  | 0, b => by simp [wd]
  | n + 1, b => by
    have := wd_lt f n (b + 1)
    unfold wd
    rw [Nat.pow_succ]
    split <;> omega
theorem wd_ext {f g : Nat → Bool} {n b c : Nat} (h : ∀ i, i < n → f (b + i) = g (c + i)) : wd f b n = wd g c n :=
  Nat.eq_of_testBit_eq fun i => by
    rw [wd_bit, wd_bit]
    by_cases hi : i < n
    · rw [h i hi]
    · simp [hi]
theorem wd_or (f g : Nat → Bool) (n b : Nat) : wd f b n ||| wd g b n = wd (fun i => f i || g i) b n :=
  Nat.eq_of_testBit_eq fun i => by
    rw [Nat.testBit_or, wd_bit, wd_bit, wd_bit]
    cases decide (i < n) <;> simp
theorem wd_not (f : Nat → Bool) (n b : Nat) : (2 ^ n - 1) ^^^ wd f b n = wd (fun i => !f i) b n :=
  Nat.eq_of_testBit_eq fun i => by
    rw [Nat.testBit_xor, wd_bit, wd_bit, Nat.testBit_two_pow_sub_one]
    cases decide (i < n) <;> simp
attribute [irreducible] wd
def setW (f : Nat → Bool) : List Int := [(wd f 0 64 : Int), (wd f 64 64 : Int), (wd f 128 64 : Int), (wd f 192 64 : Int)]
theorem u64n {n : Nat} (h : n < 2 ^ 64) : IntKind.u64.wrap (n : Int) = (n : Int) := by
  simp only [IntKind.wrap, IntKind.bits, IntKind.signed]
  simp
  omega
theorem u8n {n : Nat} (h : n < 256) : IntKind.u8.wrap (n : Int) = (n : Int) := by
  simp only [IntKind.wrap, IntKind.bits, IntKind.signed]
  simp
  omega
theorem bits_or {a b : Nat} (ha : a < 2 ^ 64) (hb : b < 2 ^ 64) : bits .or .u64 (a : Int) (b : Int) = ((a ||| b : Nat) : Int) := by
  unfold bits
  have h : a ||| b < 2 ^ 64 := Nat.or_lt_two_pow ha hb
  show IntKind.u64.wrap (((BitVec.ofInt 64 (a : Int) ||| BitVec.ofInt 64 (b : Int)).toNat : Nat) : Int) = _
  rw [BitVec.toNat_or, BitVec.ofInt_natCast, BitVec.ofInt_natCast, BitVec.toNat_ofNat, BitVec.toNat_ofNat, Nat.mod_eq_of_lt ha, Nat.mod_eq_of_lt hb, u64n h]
theorem bits_xor {a b : Nat} (ha : a < 2 ^ 64) (hb : b < 2 ^ 64) : bits .xor .u64 (a : Int) (b : Int) = ((a ^^^ b : Nat) : Int) := by
  unfold bits
  have h : a ^^^ b < 2 ^ 64 := Nat.xor_lt_two_pow ha hb
  show IntKind.u64.wrap (((BitVec.ofInt 64 (a : Int) ^^^ BitVec.ofInt 64 (b : Int)).toNat : Nat) : Int) = _
  rw [BitVec.toNat_xor, BitVec.ofInt_natCast, BitVec.ofInt_natCast, BitVec.toNat_ofNat, BitVec.toNat_ofNat, Nat.mod_eq_of_lt ha, Nat.mod_eq_of_lt hb, u64n h]
theorem setW_none : setW (fun _ => false) = List.replicate 4 (0 : Int) := by
  have h : ∀ n b, wd (fun _ => false) b n = 0 := by
    intro n
    induction n with
    | zero => intro b; unfold wd; rfl
    | succ n ih => intro b; unfold wd; rw [ih]; rfl
  unfold setW
  rw [h, h, h, h]; rfl
theorem setW_ext {f g : Nat → Bool} (h : ∀ i, i < 256 → f i = g i) : setW f = setW g := by
  unfold setW
  rw [wd_ext (f := f) (g := g) (b := 0) (c := 0) (n := 64) (fun i hi => h _ (by omega)), wd_ext (f := f) (g := g) (b := 64) (c := 64) (n := 64) (fun i hi => h _ (by omega)),
    wd_ext (f := f) (g := g) (b := 128) (c := 128) (n := 64) (fun i hi => h _ (by omega)), wd_ext (f := f) (g := g) (b := 192) (c := 192) (n := 64) (fun i hi => h _ (by omega))]
theorem wd_bit1 (f : Nat → Bool) (q b : Nat) (h : b / 64 = q) : bits .or .u64 (wd f (64 * q) 64 : Int) (IntKind.u64.wrap ((1 : Int) * 2 ^ (min (Int.tmod (b : Int) 64).toNat IntKind.u64.bits))) = ((wd (fun i => f i || i == b) (64 * q) 64 : Nat) : Int) := by
  have e1 : Int.tmod (b : Int) 64 = ((b % 64 : Nat) : Int) := by rw [show (64 : Int) = ((64 : Nat) : Int) from rfl]; exact (Int.ofNat_tmod b 64).symm
  have hb : b % 64 < 64 := Nat.mod_lt _ (by omega)
  have e2 : min (((b % 64 : Nat) : Int)).toNat IntKind.u64.bits = b % 64 := by
    rw [Int.toNat_natCast]
    exact Nat.min_eq_left (by show b % 64 ≤ 64; omega)
  have hp : 2 ^ (b % 64) < 2 ^ 64 := Nat.pow_lt_pow_right (by omega) hb
  have e3 : (1 : Int) * 2 ^ (b % 64) = ((2 ^ (b % 64) : Nat) : Int) := by rw [Int.one_mul, Int.natCast_pow]; rfl
  rw [e1, e2, e3, u64n hp, bits_or (wd_lt _ _ _) hp]
  congr 1
  refine Nat.eq_of_testBit_eq fun i => ?_
  rw [Nat.testBit_or, wd_bit, wd_bit, Nat.testBit_two_pow]
  by_cases hi : i < 64
  · have : decide (b % 64 = i) = (64 * q + i == b) := by
      rw [Bool.eq_iff_iff]
      simp only [decide_eq_true_eq, beq_iff_eq]
      omega
    rw [this]
    simp [hi]
  · have : ¬ b % 64 = i := by omega
    simp [hi, this]
theorem with_eq (k : Nat) (f : Nat → Bool) (b : Nat) (hb : b < 256) : class_Set_with.f k (setW f) (b : Int) = some (setW (fun i => f i || i == b)) := by
  have e1 : Int.tdiv (b : Int) 64 = ((b / 64 : Nat) : Int) := by rw [show (64 : Int) = ((64 : Nat) : Int) from rfl]; exact (Int.ofNat_tdiv b 64).symm
  have e2 : Int.tmod (b : Int) 64 = ((b % 64 : Nat) : Int) := by rw [show (64 : Int) = ((64 : Nat) : Int) from rfl]; exact (Int.ofNat_tmod b 64).symm
  have hq : b / 64 < 4 := by omega
  have oth : ∀ q, q ≠ b / 64 → wd f (64 * q) 64 = wd (fun i => f i || i == b) (64 * q) 64 := fun q hq => wd_ext fun i hi => by
    have : (64 * q + i == b) = false := by rw [beq_eq_false_iff_ne]; omega
    simp [this]
  have own := fun q hq => wd_bit1 f q b hq
  unfold class_Set_with.f
  rw [if_pos (by decide), e1, u8n (by omega), if_pos ⟨by omega, by omega⟩, Int.toNat_natCast]
  generalize hv : b / 64 = q at *
  have hlt : (0 : Int) ≤ Int.tmod (b : Int) 64 := by rw [e2]; omega
  have hq' : q = 0 ∨ q = 1 ∨ q = 2 ∨ q = 3 := by omega
  rcases hq' with rfl | rfl | rfl | rfl
  · have o1 := oth 1 (by omega); have o2 := oth 2 (by omega); have o3 := oth 3 (by omega); have o := own 0 rfl
    simp only [Nat.reduceMul] at o1 o2 o3 o
    have g : (setW f)[0]? = some (wd f 0 64 : Int) := rfl
    rw [g, Option.bind_some, if_pos (by decide), if_pos hlt, if_pos ⟨by omega, by omega⟩, Option.bind_some, o]
    unfold setW upd
    rw [o1, o2, o3]; rfl
  · have o1 := oth 0 (by omega); have o2 := oth 2 (by omega); have o3 := oth 3 (by omega); have o := own 1 rfl
    simp only [Nat.reduceMul] at o1 o2 o3 o
    have g : (setW f)[1]? = some (wd f 64 64 : Int) := rfl
    rw [g, Option.bind_some, if_pos (by decide), if_pos hlt, if_pos ⟨by omega, by omega⟩, Option.bind_some, o]
    unfold setW upd
    rw [o1, o2, o3]; rfl
  · have o1 := oth 0 (by omega); have o2 := oth 1 (by omega); have o3 := oth 3 (by omega); have o := own 2 rfl
    simp only [Nat.reduceMul] at o1 o2 o3 o
    have g : (setW f)[2]? = some (wd f 128 64 : Int) := rfl
    rw [g, Option.bind_some, if_pos (by decide), if_pos hlt, if_pos ⟨by omega, by omega⟩, Option.bind_some, o]
    unfold setW upd
    rw [o1, o2, o3]; rfl
  · have o1 := oth 0 (by omega); have o2 := oth 1 (by omega); have o3 := oth 2 (by omega); have o := own 3 rfl
    simp only [Nat.reduceMul] at o1 o2 o3 o
    have g : (setW f)[3]? = some (wd f 192 64 : Int) := rfl
    rw [g, Option.bind_some, if_pos (by decide), if_pos hlt, if_pos ⟨by omega, by omega⟩, Option.bind_some, o]
    unfold setW upd
    rw [o1, o2, o3]; rfl
def oneF (b : UInt8) : Nat → Bool := fun i => i == b.toNat
def spanF (low high : UInt8) : Nat → Bool := fun i => decide (low.toNat ≤ i) && decide (i ≤ high.toNat)
theorem of_eq (k : Nat) (hk : 2 ≤ k) (b : UInt8) : class_Of.f k [(b.toNat : Int)] = some (setW (oneF b)) := by
  obtain ⟨n, rfl⟩ : ∃ n, k = n + 2 := ⟨k - 2, by omega⟩
  have hb : b.toNat < 256 := b.toNat_lt
  have e0 : setW (fun _ => false) = List.replicate 4 (0 : Int) := setW_none
  have hw := with_eq (n + 2) (fun _ => false) b.toNat hb
  rw [e0] at hw
  unfold class_Of.f class_Of.j2
  have e1 : class_Of.l5 (n + 2) [(b.toNat : Int)] (n + 2) (List.replicate 4 0) 0 = some (setW (oneF b)) := by
    unfold class_Of.l5
    rw [if_pos (by simp), idx_at (v := 0) (i := 0) rfl (by simp), Option.bind_some]
    simp only [List.getElem_cons_zero]
    rw [hw, Option.bind_some]
    unfold class_Of.l5
    rw [if_neg (by simp [IntKind.wrap, IntKind.bits, IntKind.signed])]
    rfl
  rw [e1]; rfl
theorem span_loop (k : Nat) (high : Nat) (hh : high < 256) : ∀ (m fuel i : Nat) (f : Nat → Bool), high + 1 - i ≤ m → m < fuel → i ≤ 256 →
    class_Span.l5 k (high : Int) fuel (setW f) (i : Int) = some (setW (fun x => f x || (decide (i ≤ x) && decide (x ≤ high))))
  | _, 0, _, _, _, h, _ => by omega
  | m, fuel + 1, i, f, hm, hf, hi => by
    have w : IntKind.i64.wrap (high : Int) = (high : Int) := w64 (by omega) (by omega)
    unfold class_Span.l5
    rw [w]
    by_cases h : i ≤ high
    · obtain ⟨m, rfl⟩ : ∃ y, m = y + 1 := ⟨m - 1, by omega⟩
      have w2 : IntKind.i64.wrap ((i : Int) + 1) = ((i + 1 : Nat) : Int) := by rw [w64 (by omega) (by omega)]; rfl
      rw [if_pos (by simp; omega), u8n (by omega), with_eq k f i (by omega), Option.bind_some, w2, span_loop k high hh m fuel (i + 1) _ (by omega) (by omega) (by omega)]
      congr 1
      exact setW_ext fun x _ => by
        by_cases hx : x = i
        · subst hx; simp; omega
        · have h1 : (x == i) = false := by simpa using hx
          have h2 : decide (i + 1 ≤ x) = decide (i ≤ x) := by rw [decide_eq_decide]; omega
          simp only [h1, h2, Bool.or_false]
    · rw [if_neg (by simp; omega)]
      congr 1
      exact setW_ext fun x _ => by
        have : (decide (i ≤ x) && decide (x ≤ high)) = false := by
          rw [Bool.and_eq_false_iff]
          simp only [decide_eq_false_iff_not]; omega
        rw [this, Bool.or_false]
theorem span_eq (k : Nat) (hk : 300 ≤ k) (low high : UInt8) : class_Span.f k (low.toNat : Int) (high.toNat : Int) = some (setW (spanF low high)) := by
  have h1 : low.toNat < 256 := low.toNat_lt
  have h2 : high.toNat < 256 := high.toNat_lt
  have w : IntKind.i64.wrap (low.toNat : Int) = (low.toNat : Int) := w64 (by omega) (by omega)
  unfold class_Span.f class_Span.j2
  rw [w, ← setW_none, span_loop k high.toNat h2 256 k low.toNat _ (by omega) (by omega) (by omega), Option.bind_some]
  rfl
theorem union_eq (k : Nat) (hk : 5 ≤ k) (f g : Nat → Bool) : class_Set_Union.f k (setW f) (setW g) = some (setW (fun i => f i || g i)) := by
  obtain ⟨n, rfl⟩ : ∃ n, k = n + 5 := ⟨k - 5, by omega⟩
  have e : class_Set_both_m0.l5 (n + 5) (setW g) (n + 5) (setW f) 0 = some [bits .or .u64 (wd f 0 64 : Int) (wd g 0 64 : Int), bits .or .u64 (wd f 64 64 : Int) (wd g 64 64 : Int), bits .or .u64 (wd f 128 64 : Int) (wd g 128 64 : Int), bits .or .u64 (wd f 192 64 : Int) (wd g 192 64 : Int)] := by rfl
  have h := fun b => wd_lt f 64 b
  have h' := fun b => wd_lt g 64 b
  unfold class_Set_Union.f class_Set_both_m0.f class_Set_both_m0.j2
  rw [e, bits_or (h _) (h' _), bits_or (h _) (h' _), bits_or (h _) (h' _), bits_or (h _) (h' _), wd_or, wd_or, wd_or, wd_or]; rfl
theorem not_eq (k : Nat) (hk : 5 ≤ k) (f : Nat → Bool) : class_Set_Not.f k (setW f) = some (setW (fun i => !f i)) := by
  obtain ⟨n, rfl⟩ : ∃ n, k = n + 5 := ⟨k - 5, by omega⟩
  have e : class_Set_Not.l5 (n + 5) (setW f) (n + 5) (setW f) 0 = some [bits .xor .u64 18446744073709551615 (wd f 0 64 : Int), bits .xor .u64 18446744073709551615 (wd f 64 64 : Int), bits .xor .u64 18446744073709551615 (wd f 128 64 : Int), bits .xor .u64 18446744073709551615 (wd f 192 64 : Int)] := by rfl
  have h := fun b => wd_lt f 64 b
  have q : (18446744073709551615 : Int) = ((2 ^ 64 - 1 : Nat) : Int) := by decide
  have hq : 2 ^ 64 - 1 < 2 ^ 64 := by decide
  unfold class_Set_Not.f class_Set_Not.j2
  rw [e, q, bits_xor hq (h _), bits_xor hq (h _), bits_xor hq (h _), bits_xor hq (h _), wd_not, wd_not, wd_not, wd_not]; rfl
end Go.Proofs.YteddmdkbeednmaaDoor.Rx
