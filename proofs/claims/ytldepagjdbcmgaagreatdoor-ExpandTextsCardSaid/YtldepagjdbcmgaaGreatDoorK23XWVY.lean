/- The piece that a text begins with. -/
import Derived.Test.YtldepagjdbcmgaaGreatDoorK23XWVX
namespace Go.Proofs.YtldepagjdbcmgaaGreatDoor.Lx
open Go Go.AM Go.ChangeShapes Go.ChangeAt Go.RowKit
set_option linter.unusedVariables false
set_option linter.unusedSimpArgs false
set_option maxRecDepth 100000
def letB (b : UInt8) : Bool := (lex_letter.f 0 (b.toNat : Int)).getD false
def plB (b : UInt8) : Bool := !bl b && (b != 39 && (b != 36 && b != 96))
def patB (b : UInt8) : Bool := plB b && (b != 61 && (b != 123 && b != 125))
def insB (b : UInt8) : Bool := b != 123 && b != 125
theorem nb (b : UInt8) (n : UInt8) : ((b.toNat : Int) != (n.toNat : Int)) = (b != n) := by simp only [bne, u8_eq]
theorem let_eq (k : Nat) (b : UInt8) : lex_letter.f k (b.toNat : Int) = some (letB b) := by
  have : ∃ x, lex_letter.f k (b.toNat : Int) = some x := by
    unfold lex_letter.f
    (repeat' split) <;> exact ⟨_, rfl⟩
  obtain ⟨x, hx⟩ := this
  have h0 : lex_letter.f 0 (b.toNat : Int) = some x := hx
  unfold letB
  rw [hx, h0]; rfl
theorem bl_eq (k : Nat) (b : UInt8) : quote_Blank.f k (b.toNat : Int) = some (bl b) := blank_eq k _ b.toNat_lt
theorem pl_eq (k : Nat) (b : UInt8) : lex_plain.f k (b.toNat : Int) = some (plB b) := by
  unfold lex_plain.f plB
  have h1 := nb b 39
  have h2 := nb b 36
  have h3 := nb b 96
  simp only [UInt8.toNat_ofNat, Nat.reducePow, Nat.reduceMod, Int.cast_ofNat_Int] at h1 h2 h3
  rw [bl_eq, Option.bind_some, h1, h2, h3]
  cases bl b <;> cases (b != 39) <;> cases (b != 36) <;> rfl
theorem pat_eq (k : Nat) (b : UInt8) : lex_pattern.f k (b.toNat : Int) = some (patB b) := by
  unfold lex_pattern.f patB
  have h1 := nb b 61
  have h2 := nb b 123
  have h3 := nb b 125
  simp only [UInt8.toNat_ofNat, Nat.reducePow, Nat.reduceMod, Int.cast_ofNat_Int] at h1 h2 h3
  rw [pl_eq, Option.bind_some, h1, h2, h3]
  cases plB b <;> cases (b != 61) <;> cases (b != 123) <;> rfl
theorem ins_eq (k : Nat) (b : UInt8) : lex_inside.f k (b.toNat : Int) = some (insB b) := by
  unfold lex_inside.f insB
  have h2 := nb b 123
  have h3 := nb b 125
  simp only [UInt8.toNat_ofNat, Nat.reducePow, Nat.reduceMod, Int.cast_ofNat_Int] at h2 h3
  rw [h2, h3]
  cases (b != 123) <;> rfl

def At (s : List UInt8) (i : Int) (r : List UInt8) : Prop := ∃ n : Nat, i = n ∧ n ≤ s.length ∧ s.drop n = r
theorem At.step {s : List UInt8} {i : Int} {b : UInt8} {r : List UInt8} (hs : s.length ≤ 100000) (h : At s i (b :: r)) : At s (IntKind.i64.wrap (i + 1)) r ∧ idx s i = some b ∧ i < s.length := by
  obtain ⟨n, rfl, h1, h2⟩ := h
  obtain ⟨g1, g2, g3⟩ := at_drop h2
  exact ⟨⟨n + 1, wr1 (by omega), by omega, g2⟩, g1, by omega⟩
theorem At.nil {s : List UInt8} {i : Int} (h : At s i []) : ¬ i < s.length := by
  obtain ⟨n, rfl, h1, h2⟩ := h
  have := at_nil h2
  omega
theorem At.len {s : List UInt8} {i : Int} {r : List UInt8} (h : At s i r) : r.length ≤ s.length := by
  obtain ⟨n, rfl, h1, h2⟩ := h
  rw [← h2]; simp
theorem tw_app (p : UInt8 → Bool) : ∀ r : List UInt8, r.takeWhile p ++ r.dropWhile p = r
  | [] => rfl
  | x :: r => by
    cases h : p x
    · simp [h]
    · simp [h, tw_app p r]
theorem tw_len (p : UInt8 → Bool) (r : List UInt8) : (r.takeWhile p).length ≤ r.length := by
  have := congrArg List.length (tw_app p r)
  rw [List.length_append] at this; omega
theorem At.fwd {s : List UInt8} {i : Int} {t r : List UInt8} (h : At s i (t ++ r)) : At s (i + t.length) r ∧ sub s i (i + t.length) = some t := by
  obtain ⟨n, rfl, h1, h2⟩ := h
  have hl := congrArg List.length h2
  simp only [List.length_drop, List.length_append] at hl
  refine ⟨⟨n + t.length, by omega, by omega, by rw [← List.drop_drop, h2]; simp⟩, ?_⟩
  rw [sub_at rfl (show ((n : Int) + t.length) = ((n + t.length : Nat) : Int) by omega) (by omega) (by omega), List.drop_take, h2]
  congr 1
  have : n + t.length - n = t.length := by omega
  rw [this]; simp

theorem run0_loop (k : Nat) (s : List UInt8) (hs : s.length ≤ 100000) (i : Int) : ∀ (r : List UInt8) (n m : Nat), At s (i + m) r → 0 ≤ i → r.length < n → lex_run_m1.l4 k s i n (m : Int) = some (((m + (r.takeWhile bl).length : Nat)) : Int)
  | _, 0, _, _, _, h => by omega
  | [], n + 1, m, ha, hi, _ => by
    have h1 := ha.nil
    have hl := ha.len
    unfold lex_run_m1.l4 lex_run_m1.j11
    obtain ⟨q, hq, hq2, _⟩ := ha
    rw [hq, w64 (by omega) (by omega), ← hq, if_neg (by simpa using h1), if_neg (by decide)]
    simp
  | b :: r, n + 1, m, ha, hi, hn => by
    obtain ⟨g1, g2, g3⟩ := ha.step hs
    have hqq := ha
    obtain ⟨q, hq, hq2, _⟩ := hqq
    have wi : IntKind.i64.wrap (i + (m : Int)) = i + m := by rw [hq, w64 (by omega) (by omega)]
    have w2 : IntKind.i64.wrap (i + (m : Int) + 1) = i + ((m + 1 : Nat) : Int) := by rw [hq, w64 (by omega) (by omega)]; omega
    rw [w2] at g1
    have w3 : IntKind.i64.wrap ((m : Int) + 1) = ((m + 1 : Nat) : Int) := wr1 (by omega)
    unfold lex_run_m1.l4 lex_run_m1.j11 lex_run_m1.j8
    rw [wi, if_pos (by simpa using g3), g2, Option.bind_some, bl_eq k b, Option.bind_some, w3, run0_loop k s hs i r n (m + 1) g1 hi (by simpa using hn)]
    cases h : bl b
    · simp [h]
    · simp [h]; omega
theorem take0_eq (k : Nat) (s : List UInt8) (hs : s.length ≤ 100000) (hk : s.length < k) (i : Int) (r : List UInt8) (e : Nat) (ha : At s i r) : ∃ j, lex_reader_take_m0.f k s i e = some (r.takeWhile bl, j) ∧ At s j (r.dropWhile bl) := by
  unfold lex_reader_take_m0.f lex_run_m1.f lex_run_m1.j2
  have hl := ha.len
  have htl := tw_len bl r
  have hi : 0 ≤ i ∧ i ≤ s.length := by obtain ⟨q, hq, hq2, _⟩ := ha; omega
  have e0 : lex_run_m1.l4 k s i k 0 = _ := run0_loop k s hs i r k 0 (by simpa using ha) hi.1 (by omega)
  rw [e0]
  simp only [Option.bind_some, Nat.zero_add]
  obtain ⟨h1, h2⟩ := At.fwd (t := r.takeWhile bl) (r := r.dropWhile bl) (s := s) (i := i) (by rw [tw_app]; exact ha)
  have w1 : IntKind.i64.wrap (i + ((r.takeWhile bl).length : Int)) = i + (r.takeWhile bl).length := w64 (by omega) (by omega)
  have w2 : IntKind.i64.wrap (i + ((r.takeWhile bl).length : Int) - ((r.takeWhile bl).length : Int)) = i := by rw [w64 (by omega) (by omega)]; omega
  rw [w1, w2, h2]
  exact ⟨_, rfl, h1⟩
theorem run1_loop (k : Nat) (s : List UInt8) (hs : s.length ≤ 100000) (i : Int) : ∀ (r : List UInt8) (n m : Nat), At s (i + m) r → 0 ≤ i → r.length < n → lex_run_m0.l4 k s i n (m : Int) = some (((m + (r.takeWhile letB).length : Nat)) : Int)
  | _, 0, _, _, _, h => by omega
  | [], n + 1, m, ha, hi, _ => by
    have h1 := ha.nil
    have hl := ha.len
    unfold lex_run_m0.l4 lex_run_m0.j11
    obtain ⟨q, hq, hq2, _⟩ := ha
    rw [hq, w64 (by omega) (by omega), ← hq, if_neg (by simpa using h1), if_neg (by decide)]
    simp
  | b :: r, n + 1, m, ha, hi, hn => by
    obtain ⟨g1, g2, g3⟩ := ha.step hs
    have hqq := ha
    obtain ⟨q, hq, hq2, _⟩ := hqq
    have wi : IntKind.i64.wrap (i + (m : Int)) = i + m := by rw [hq, w64 (by omega) (by omega)]
    have w2 : IntKind.i64.wrap (i + (m : Int) + 1) = i + ((m + 1 : Nat) : Int) := by rw [hq, w64 (by omega) (by omega)]; omega
    rw [w2] at g1
    have w3 : IntKind.i64.wrap ((m : Int) + 1) = ((m + 1 : Nat) : Int) := wr1 (by omega)
    unfold lex_run_m0.l4 lex_run_m0.j11 lex_run_m0.j8
    rw [wi, if_pos (by simpa using g3), g2, Option.bind_some, let_eq k b, Option.bind_some, w3, run1_loop k s hs i r n (m + 1) g1 hi (by simpa using hn)]
    cases h : letB b
    · simp [h]
    · simp [h]; omega
theorem take1_eq (k : Nat) (s : List UInt8) (hs : s.length ≤ 100000) (hk : s.length < k) (i : Int) (r : List UInt8) (e : Nat) (ha : At s i r) : ∃ j, lex_reader_take_m1.f k s i e = some (r.takeWhile letB, j) ∧ At s j (r.dropWhile letB) := by
  unfold lex_reader_take_m1.f lex_run_m0.f lex_run_m0.j2
  have hl := ha.len
  have htl := tw_len letB r
  have hi : 0 ≤ i ∧ i ≤ s.length := by obtain ⟨q, hq, hq2, _⟩ := ha; omega
  have e0 : lex_run_m0.l4 k s i k 0 = _ := run1_loop k s hs i r k 0 (by simpa using ha) hi.1 (by omega)
  rw [e0]
  simp only [Option.bind_some, Nat.zero_add]
  obtain ⟨h1, h2⟩ := At.fwd (t := r.takeWhile letB) (r := r.dropWhile letB) (s := s) (i := i) (by rw [tw_app]; exact ha)
  have w1 : IntKind.i64.wrap (i + ((r.takeWhile letB).length : Int)) = i + (r.takeWhile letB).length := w64 (by omega) (by omega)
  have w2 : IntKind.i64.wrap (i + ((r.takeWhile letB).length : Int) - ((r.takeWhile letB).length : Int)) = i := by rw [w64 (by omega) (by omega)]; omega
  rw [w1, w2, h2]
  exact ⟨_, rfl, h1⟩
theorem run2_loop (k : Nat) (s : List UInt8) (hs : s.length ≤ 100000) (i : Int) : ∀ (r : List UInt8) (n m : Nat), At s (i + m) r → 0 ≤ i → r.length < n → lex_run_m2.l4 k s i n (m : Int) = some (((m + (r.takeWhile patB).length : Nat)) : Int)
  | _, 0, _, _, _, h => by omega
  | [], n + 1, m, ha, hi, _ => by
    have h1 := ha.nil
    have hl := ha.len
    unfold lex_run_m2.l4 lex_run_m2.j11
    obtain ⟨q, hq, hq2, _⟩ := ha
    rw [hq, w64 (by omega) (by omega), ← hq, if_neg (by simpa using h1), if_neg (by decide)]
    simp
  | b :: r, n + 1, m, ha, hi, hn => by
    obtain ⟨g1, g2, g3⟩ := ha.step hs
    have hqq := ha
    obtain ⟨q, hq, hq2, _⟩ := hqq
    have wi : IntKind.i64.wrap (i + (m : Int)) = i + m := by rw [hq, w64 (by omega) (by omega)]
    have w2 : IntKind.i64.wrap (i + (m : Int) + 1) = i + ((m + 1 : Nat) : Int) := by rw [hq, w64 (by omega) (by omega)]; omega
    rw [w2] at g1
    have w3 : IntKind.i64.wrap ((m : Int) + 1) = ((m + 1 : Nat) : Int) := wr1 (by omega)
    unfold lex_run_m2.l4 lex_run_m2.j11 lex_run_m2.j8
    rw [wi, if_pos (by simpa using g3), g2, Option.bind_some, pat_eq k b, Option.bind_some, w3, run2_loop k s hs i r n (m + 1) g1 hi (by simpa using hn)]
    cases h : patB b
    · simp [h]
    · simp [h]; omega
theorem take2_eq (k : Nat) (s : List UInt8) (hs : s.length ≤ 100000) (hk : s.length < k) (i : Int) (r : List UInt8) (e : Nat) (ha : At s i r) : ∃ j, lex_reader_take_m2.f k s i e = some (r.takeWhile patB, j) ∧ At s j (r.dropWhile patB) := by
  unfold lex_reader_take_m2.f lex_run_m2.f lex_run_m2.j2
  have hl := ha.len
  have htl := tw_len patB r
  have hi : 0 ≤ i ∧ i ≤ s.length := by obtain ⟨q, hq, hq2, _⟩ := ha; omega
  have e0 : lex_run_m2.l4 k s i k 0 = _ := run2_loop k s hs i r k 0 (by simpa using ha) hi.1 (by omega)
  rw [e0]
  simp only [Option.bind_some, Nat.zero_add]
  obtain ⟨h1, h2⟩ := At.fwd (t := r.takeWhile patB) (r := r.dropWhile patB) (s := s) (i := i) (by rw [tw_app]; exact ha)
  have w1 : IntKind.i64.wrap (i + ((r.takeWhile patB).length : Int)) = i + (r.takeWhile patB).length := w64 (by omega) (by omega)
  have w2 : IntKind.i64.wrap (i + ((r.takeWhile patB).length : Int) - ((r.takeWhile patB).length : Int)) = i := by rw [w64 (by omega) (by omega)]; omega
  rw [w1, w2, h2]
  exact ⟨_, rfl, h1⟩
theorem run3_loop (k : Nat) (s : List UInt8) (hs : s.length ≤ 100000) (i : Int) : ∀ (r : List UInt8) (n m : Nat), At s (i + m) r → 0 ≤ i → r.length < n → lex_run_m3.l4 k s i n (m : Int) = some (((m + (r.takeWhile insB).length : Nat)) : Int)
  | _, 0, _, _, _, h => by omega
  | [], n + 1, m, ha, hi, _ => by
    have h1 := ha.nil
    have hl := ha.len
    unfold lex_run_m3.l4 lex_run_m3.j11
    obtain ⟨q, hq, hq2, _⟩ := ha
    rw [hq, w64 (by omega) (by omega), ← hq, if_neg (by simpa using h1), if_neg (by decide)]
    simp
  | b :: r, n + 1, m, ha, hi, hn => by
    obtain ⟨g1, g2, g3⟩ := ha.step hs
    have hqq := ha
    obtain ⟨q, hq, hq2, _⟩ := hqq
    have wi : IntKind.i64.wrap (i + (m : Int)) = i + m := by rw [hq, w64 (by omega) (by omega)]
    have w2 : IntKind.i64.wrap (i + (m : Int) + 1) = i + ((m + 1 : Nat) : Int) := by rw [hq, w64 (by omega) (by omega)]; omega
    rw [w2] at g1
    have w3 : IntKind.i64.wrap ((m : Int) + 1) = ((m + 1 : Nat) : Int) := wr1 (by omega)
    unfold lex_run_m3.l4 lex_run_m3.j11 lex_run_m3.j8
    rw [wi, if_pos (by simpa using g3), g2, Option.bind_some, ins_eq k b, Option.bind_some, w3, run3_loop k s hs i r n (m + 1) g1 hi (by simpa using hn)]
    cases h : insB b
    · simp [h]
    · simp [h]; omega
theorem take3_eq (k : Nat) (s : List UInt8) (hs : s.length ≤ 100000) (hk : s.length < k) (i : Int) (r : List UInt8) (e : Nat) (ha : At s i r) : ∃ j, lex_reader_take_m3.f k s i e = some (r.takeWhile insB, j) ∧ At s j (r.dropWhile insB) := by
  unfold lex_reader_take_m3.f lex_run_m3.f lex_run_m3.j2
  have hl := ha.len
  have htl := tw_len insB r
  have hi : 0 ≤ i ∧ i ≤ s.length := by obtain ⟨q, hq, hq2, _⟩ := ha; omega
  have e0 : lex_run_m3.l4 k s i k 0 = _ := run3_loop k s hs i r k 0 (by simpa using ha) hi.1 (by omega)
  rw [e0]
  simp only [Option.bind_some, Nat.zero_add]
  obtain ⟨h1, h2⟩ := At.fwd (t := r.takeWhile insB) (r := r.dropWhile insB) (s := s) (i := i) (by rw [tw_app]; exact ha)
  have w1 : IntKind.i64.wrap (i + ((r.takeWhile insB).length : Int)) = i + (r.takeWhile insB).length := w64 (by omega) (by omega)
  have w2 : IntKind.i64.wrap (i + ((r.takeWhile insB).length : Int) - ((r.takeWhile insB).length : Int)) = i := by rw [w64 (by omega) (by omega)]; omega
  rw [w1, w2, h2]
  exact ⟨_, rfl, h1⟩
theorem run4_loop (k : Nat) (s : List UInt8) (hs : s.length ≤ 100000) (i : Int) : ∀ (r : List UInt8) (n m : Nat), At s (i + m) r → 0 ≤ i → r.length < n → lex_run_m4.l4 k s i n (m : Int) = some (((m + (r.takeWhile plB).length : Nat)) : Int)
  | _, 0, _, _, _, h => by omega
  | [], n + 1, m, ha, hi, _ => by
    have h1 := ha.nil
    have hl := ha.len
    unfold lex_run_m4.l4 lex_run_m4.j11
    obtain ⟨q, hq, hq2, _⟩ := ha
    rw [hq, w64 (by omega) (by omega), ← hq, if_neg (by simpa using h1), if_neg (by decide)]
    simp
  | b :: r, n + 1, m, ha, hi, hn => by
    obtain ⟨g1, g2, g3⟩ := ha.step hs
    have hqq := ha
    obtain ⟨q, hq, hq2, _⟩ := hqq
    have wi : IntKind.i64.wrap (i + (m : Int)) = i + m := by rw [hq, w64 (by omega) (by omega)]
    have w2 : IntKind.i64.wrap (i + (m : Int) + 1) = i + ((m + 1 : Nat) : Int) := by rw [hq, w64 (by omega) (by omega)]; omega
    rw [w2] at g1
    have w3 : IntKind.i64.wrap ((m : Int) + 1) = ((m + 1 : Nat) : Int) := wr1 (by omega)
    unfold lex_run_m4.l4 lex_run_m4.j11 lex_run_m4.j8
    rw [wi, if_pos (by simpa using g3), g2, Option.bind_some, pl_eq k b, Option.bind_some, w3, run4_loop k s hs i r n (m + 1) g1 hi (by simpa using hn)]
    cases h : plB b
    · simp [h]
    · simp [h]; omega
theorem take4_eq (k : Nat) (s : List UInt8) (hs : s.length ≤ 100000) (hk : s.length < k) (i : Int) (r : List UInt8) (e : Nat) (ha : At s i r) : ∃ j, lex_reader_take_m4.f k s i e = some (r.takeWhile plB, j) ∧ At s j (r.dropWhile plB) := by
  unfold lex_reader_take_m4.f lex_run_m4.f lex_run_m4.j2
  have hl := ha.len
  have htl := tw_len plB r
  have hi : 0 ≤ i ∧ i ≤ s.length := by obtain ⟨q, hq, hq2, _⟩ := ha; omega
  have e0 : lex_run_m4.l4 k s i k 0 = _ := run4_loop k s hs i r k 0 (by simpa using ha) hi.1 (by omega)
  rw [e0]
  simp only [Option.bind_some, Nat.zero_add]
  obtain ⟨h1, h2⟩ := At.fwd (t := r.takeWhile plB) (r := r.dropWhile plB) (s := s) (i := i) (by rw [tw_app]; exact ha)
  have w1 : IntKind.i64.wrap (i + ((r.takeWhile plB).length : Int)) = i + (r.takeWhile plB).length := w64 (by omega) (by omega)
  have w2 : IntKind.i64.wrap (i + ((r.takeWhile plB).length : Int) - ((r.takeWhile plB).length : Int)) = i := by rw [w64 (by omega) (by omega)]; omega
  rw [w1, w2, h2]
  exact ⟨_, rfl, h1⟩

def fl (e n : Nat) : Nat := if e = 0 then n else e
def tk (b : UInt8) (r : List UInt8) (e : Nat) : List UInt8 × Nat := match r with
  | x :: t => if x = b then (t, e) else (r, fl e 3)
  | [] => ([], fl e 3)
def okNm (t : List UInt8) : Bool := !(t == []) && (decide (t.length ≤ 12) && (t.takeWhile letB).length == t.length)
def nmE (r : List UInt8) (e : Nat) : Nat := if okNm (r.takeWhile letB) then e else fl e 4
theorem fail_eq (k : Nat) (s : List UInt8) (i : Int) (e n : Nat) : lex_reader_fail_m0.f k s i e n = some (fl e n) := by
  unfold lex_reader_fail_m0.f fl
  by_cases h : e = 0 <;> simp [h]
theorem is_eq (k : Nat) (s : List UInt8) (hs : s.length ≤ 100000) (i : Int) (r : List UInt8) (e : Nat) (b : UInt8) (ha : At s i r) : lex_reader_is_m0.f k s i e (b.toNat : Int) = some (r.head? == some b) := by
  unfold lex_reader_is_m0.f
  cases r with
  | nil => rw [if_neg (by simpa using ha.nil)]; rfl
  | cons x r =>
    obtain ⟨g1, g2, g3⟩ := ha.step hs
    rw [if_pos (by simpa using g3), g2, Option.bind_some, u8_eq]; simp
theorem takes_eq (k : Nat) (s : List UInt8) (hs : s.length ≤ 100000) (i : Int) (r : List UInt8) (e : Nat) (b : UInt8) (ha : At s i r) : ∃ j, lex_reader_takes_m0.f k s i e (b.toNat : Int) = some (j, (tk b r e).2) ∧ At s j (tk b r e).1 := by
  unfold lex_reader_takes_m0.f
  rw [is_eq k s hs i r e b ha, Option.bind_some, fail_eq]
  cases r with
  | nil => exact ⟨i, rfl, ha⟩
  | cons x r =>
    obtain ⟨g1, g2, g3⟩ := ha.step hs
    by_cases h : x = b
    · subst h
      exact ⟨IntKind.i64.wrap (i + 1), by simp [tk], by simpa [tk] using g1⟩
    · exact ⟨i, by simp [tk, h], by simpa [tk, h] using ha⟩
theorem Name_eq (k : Nat) (t : List UInt8) (ht : t.length ≤ 100000) (hk : t.length < k) : lex_Name.f k t = some (okNm t) := by
  unfold lex_Name.f okNm
  cases t with
  | nil => rfl
  | cons x t =>
    have e0 : lex_run_m0.l4 k (x :: t) 0 k 0 = _ := run1_loop k (x :: t) ht 0 (x :: t) k 0 ⟨0, by simp, by simp, rfl⟩ (by omega) hk
    rw [if_pos (by simp)]
    unfold lex_run_m0.f lex_run_m0.j2
    rw [e0]
    simp only [Option.bind_some, Nat.zero_add]
    by_cases h : (x :: t).length ≤ 12
    · rw [if_pos (by rw [decide_eq_true_eq]; omega)]
      simp only [h, decide_true, Bool.true_and]
      congr 1
      rw [Bool.eq_iff_iff]
      simp only [beq_iff_eq, Bool.and_eq_true, Bool.not_eq_true', Int.ofNat_inj]
      simp
    · have hd : decide ((x :: t).length ≤ 12) = false := by rw [decide_eq_false_iff_not]; exact h
      rw [if_neg (by rw [decide_eq_true_eq]; omega), hd]
      simp
theorem name_eq (k : Nat) (s : List UInt8) (hs : s.length ≤ 100000) (hk : s.length < k) (i : Int) (r : List UInt8) (e : Nat) (ha : At s i r) : ∃ j, lex_reader_name_m0.f k s i e = some (r.takeWhile letB, j, nmE r e) ∧ At s j (r.dropWhile letB) := by
  unfold lex_reader_name_m0.f lex_reader_name_m0.j3
  obtain ⟨j, h1, h2⟩ := take1_eq k s hs hk i r e ha
  have hl := ha.len
  have htl := tw_len letB r
  rw [h1, Option.bind_some, Name_eq k _ (by simp only; omega) (by simp only; omega), Option.bind_some]
  refine ⟨j, ?_, h2⟩
  unfold nmE
  cases okNm (r.takeWhile letB)
  · simp [fail_eq]
  · simp
abbrev TR := Pc × List UInt8 × Nat
def varE (r : List UInt8) (e : Nat) : TR :=
  match r with
  | 123 :: t =>
    match t.dropWhile letB with
    | 58 :: u => if nmE t e = 0 then
        let k1 := tk 61 (u.dropWhile patB) (nmE t e)
        let k2 := tk 125 (k1.1.dropWhile patB) k1.2
        (⟨3, t.takeWhile letB, u.takeWhile patB, k1.1.takeWhile patB⟩, k2.1, k2.2)
      else (⟨2, t.takeWhile letB, [], []⟩, (tk 125 (58 :: u) (nmE t e)).1, (tk 125 (58 :: u) (nmE t e)).2)
    | u => (⟨2, t.takeWhile letB, [], []⟩, (tk 125 u (nmE t e)).1, (tk 125 u (nmE t e)).2)
  | r => (⟨2, r.takeWhile letB, [], []⟩, r.dropWhile letB, nmE r e)
def cmdE (r : List UInt8) (e : Nat) : TR :=
  let k1 := tk 123 r e
  let k2 := tk 125 (k1.1.dropWhile insB) k1.2
  (⟨4, k1.1.takeWhile insB, [], []⟩, k2.1, k2.2)
def quoE (r : List UInt8) : TR := match fe r with
  | none => (⟨0, [], [], []⟩, 39 :: r, 5)
  | some q => (⟨1, Lib.replaceAll (r.take (q - 1)) [39, 39] [39], [], []⟩, r.drop q, 0)
def tokE : List UInt8 → TR
  | [] => (⟨0, [], [], []⟩, [], 0)
  | b :: t => if b = 39 then quoE t else if b = 36 then varE t 0 else if b = 96 then cmdE t 0 else (⟨0, (b :: t).takeWhile plB, [], []⟩, (b :: t).dropWhile plB, 0)

theorem fe_bd : ∀ (r : List UInt8) (q : Nat), fe r = some q → 1 ≤ q ∧ q ≤ r.length
  | [], q, h => by cases h
  | [x], q, h => by
    unfold fe at h
    split at h
    · cases h; simp
    · cases h
  | x :: y :: r, q, h => by
    unfold fe at h
    split at h
    · split at h
      · cases hf : fe r with
        | none => rw [hf] at h; cases h
        | some q' =>
          rw [hf] at h; cases h
          have := fe_bd r q' hf
          simp; omega
      · cases h; simp
    · cases hf : fe (y :: r) with
      | none => rw [hf] at h; cases h
      | some q' =>
        rw [hf] at h; cases h
        have := fe_bd (y :: r) q' hf
        simp at this ⊢; omega
theorem cmd_eq (k : Nat) (s : List UInt8) (hs : s.length ≤ 100000) (hk : s.length < k) (i : Int) (r : List UInt8) (e : Nat) (ha : At s i r) : ∃ j, lex_reader_command_m0.f k s i e = some ((cmdE r e).1, j, (cmdE r e).2.2) ∧ At s j (cmdE r e).2.1 := by
  unfold lex_reader_command_m0.f
  obtain ⟨j1, h1, a1⟩ := takes_eq k s hs i r e 123 ha
  have h1' : lex_reader_takes_m0.f k s i e 123 = _ := h1
  rw [h1', Option.bind_some]
  obtain ⟨j2, h2, a2⟩ := take3_eq k s hs hk j1 _ (tk 123 r e).2 a1
  simp only
  rw [h2, Option.bind_some]
  obtain ⟨j3, h3, a3⟩ := takes_eq k s hs j2 _ (tk 123 r e).2 125 a2
  have h3' : lex_reader_takes_m0.f k s j2 (tk 123 r e).2 125 = _ := h3
  simp only
  rw [h3', Option.bind_some]
  exact ⟨j3, rfl, a3⟩
theorem var_eq (k : Nat) (s : List UInt8) (hs : s.length ≤ 100000) (hk : s.length < k) (i : Int) (r : List UInt8) (e : Nat) (ha : At s i r) : ∃ j, lex_reader_variable_m0.f k s i e = some ((varE r e).1, j, (varE r e).2.2) ∧ At s j (varE r e).2.1 := by
  unfold lex_reader_variable_m0.f
  have hi := is_eq k s hs i r e 123 ha
  have hi' : lex_reader_is_m0.f k s i e 123 = _ := hi
  rw [hi', Option.bind_some]
  by_cases h : r.head? = some 123
  · obtain ⟨t, rfl⟩ : ∃ t, r = 123 :: t := by cases r with | nil => cases h | cons x t => simp at h; exact ⟨t, by rw [h]⟩
    obtain ⟨g1, g2, g3⟩ := ha.step hs
    rw [if_neg (by simp)]
    obtain ⟨j1, h1, a1⟩ := name_eq k s hs hk _ t e g1
    rw [h1, Option.bind_some]
    simp only
    have hc := is_eq k s hs j1 _ (nmE t e) 58 a1
    have hc' : lex_reader_is_m0.f k s j1 (nmE t e) 58 = _ := hc
    have fin : ∀ u, t.dropWhile letB = u → (nmE t e = 0 → u.head? ≠ some 58) → ∃ j, lex_reader_variable_m0.j11 k s (t.takeWhile letB, j1, nmE t e) j1 (nmE t e) 2 [] [] = some (⟨2, t.takeWhile letB, [], []⟩, j, (tk 125 u (nmE t e)).2) ∧ At s j (tk 125 u (nmE t e)).1 := by
      intro u hu _
      unfold lex_reader_variable_m0.j11
      obtain ⟨j2, h2, a2⟩ := takes_eq k s hs j1 _ (nmE t e) 125 a1
      have h2' : lex_reader_takes_m0.f k s j1 (nmE t e) 125 = _ := h2
      rw [h2', Option.bind_some, hu] 
      exact ⟨j2, rfl, by rw [← hu]; exact a2⟩
    unfold lex_reader_variable_m0.j17
    by_cases he : nmE t e = 0
    · rw [if_pos (by simpa using he), hc', Option.bind_some]
      cases hu : t.dropWhile letB with
      | nil =>
        obtain ⟨j, f1, f2⟩ := fin [] hu (by simp)
        refine ⟨j, ?_, ?_⟩
        · simp only [varE, hu]; rw [if_neg (by simp)]; exact f1
        · simp only [varE, hu]; exact f2
      | cons x u =>
        by_cases hx : x = 58
        · subst hx
          rw [hu] at a1
          obtain ⟨a3, _, _⟩ := a1.step hs
          rw [if_pos (by simp)]
          obtain ⟨j2, h2, a2⟩ := take2_eq k s hs hk _ u (nmE t e) a3
          rw [h2, Option.bind_some]
          simp only
          obtain ⟨j3, h3, a3⟩ := takes_eq k s hs j2 _ (nmE t e) 61 a2
          have h3' : lex_reader_takes_m0.f k s j2 (nmE t e) 61 = _ := h3
          rw [h3', Option.bind_some]
          simp only
          obtain ⟨j4, h4, a4⟩ := take2_eq k s hs hk j3 _ (tk 61 (u.dropWhile patB) (nmE t e)).2 a3
          rw [h4, Option.bind_some]
          unfold lex_reader_variable_m0.j11
          simp only
          obtain ⟨j5, h5, a5⟩ := takes_eq k s hs j4 _ (tk 61 (u.dropWhile patB) (nmE t e)).2 125 a4
          have h5' : lex_reader_takes_m0.f k s j4 (tk 61 (u.dropWhile patB) (nmE t e)).2 125 = _ := h5
          rw [h5', Option.bind_some]
          refine ⟨j5, ?_, ?_⟩
          · simp only [varE, hu, he, if_true]
          · simp only [varE, hu, he, if_true]
            rw [he] at a5; exact a5
        · obtain ⟨j, f1, f2⟩ := fin (x :: u) hu (fun _ => by simpa using hx)
          have hv : varE (123 :: t) e = (⟨2, t.takeWhile letB, [], []⟩, (tk 125 (x :: u) (nmE t e)).1, (tk 125 (x :: u) (nmE t e)).2) := by
            simp only [varE, hu]
            split
            · rename_i u' hh; injection hh with hh1 hh2; exact absurd hh1 hx
            · rfl
          refine ⟨j, ?_, by rw [hv]; exact f2⟩
          rw [if_neg (by simpa using hx), hv]; exact f1
    · rw [if_neg (by simpa using he), if_neg (by decide)]
      obtain ⟨j, f1, f2⟩ := fin _ rfl (fun h => absurd h he)
      have hv : varE (123 :: t) e = (⟨2, t.takeWhile letB, [], []⟩, (tk 125 (t.dropWhile letB) (nmE t e)).1, (tk 125 (t.dropWhile letB) (nmE t e)).2) := by
        simp only [varE]
        split
        · rename_i u hh; rw [if_neg he, hh]
        · rfl
      exact ⟨j, by rw [hv]; exact f1, by rw [hv]; exact f2⟩
  · rw [if_pos (by simpa using h)]
    obtain ⟨j1, h1, a1⟩ := name_eq k s hs hk i r e ha
    rw [h1, Option.bind_some]
    have hv : varE r e = (⟨2, r.takeWhile letB, [], []⟩, r.dropWhile letB, nmE r e) := by
      unfold varE
      split
      · exact absurd rfl h
      · rfl
    exact ⟨j1, by rw [hv], by rw [hv]; exact a1⟩
theorem quo_eq (k : Nat) (s : List UInt8) (hs : s.length ≤ 100000) (hk : s.length < k) (i : Int) (r : List UInt8) (ha : At s i (39 :: r)) : ∃ j, lex_reader_quoted_m0.f k s i 0 = some ((quoE r).1, j, (quoE r).2.2) ∧ At s j (quoE r).2.1 := by
  have ha0 := ha
  obtain ⟨g1, g2, g3⟩ := ha.step hs
  obtain ⟨n, rfl, hn1, hn2⟩ := ha
  obtain ⟨d1, d2, d3⟩ := at_drop hn2
  unfold lex_reader_quoted_m0.f
  rw [end_eq k s _ hs hk, Option.bind_some]
  have e : (n : Int).toNat = n := by simp
  have hend : endAt s (n : Int) = (match fe (s.drop (n + 1)) with | some q => ((n + 1 + q : Nat) : Int) | none => -1) := by
    unfold endAt
    have h39 : s[n]? = some 39 := by rw [← List.head?_drop, hn2]; rfl
    rw [e, if_pos ⟨by omega, by omega, h39⟩]
    cases fe (s.drop (n + 1)) <;> rfl
  rw [hend, d2]
  unfold quoE
  cases hf : fe r with
  | none =>
    simp only
    rw [if_pos (by simp), fail_eq]
    exact ⟨_, rfl, ha0⟩
  | some q =>
    have hq := fe_bd r q hf
    have hl : r.length = s.length - (n + 1) := by rw [← d2]; simp
    simp only
    have w1 : IntKind.i64.wrap ((n : Int) + 1) = ((n + 1 : Nat) : Int) := wr1 (by omega)
    have w3 : IntKind.i64.wrap (((n + 1 + q : Nat) : Int) - 1) = ((n + q : Nat) : Int) := by rw [w64 (by omega) (by omega)]; omega
    have hsub : sub s ((n + 1 : Nat) : Int) ((n + q : Nat) : Int) = some (r.take (q - 1)) := by
      rw [sub_at rfl rfl (by omega) (by omega), List.drop_take, d2]
      congr 2; omega
    rw [if_neg (by simp; omega), w1, w3, hsub, Option.bind_some, pReplace_eq k _ _ _ (by simp; omega) (by simp) (by simp), Option.bind_some]
    exact ⟨_, rfl, ⟨n + 1 + q, rfl, by omega, by rw [← List.drop_drop, d2]⟩⟩
theorem piece_eq (k : Nat) (s : List UInt8) (hs : s.length ≤ 100000) (hk : s.length < k) (i : Int) (b : UInt8) (r : List UInt8) (ha : At s i (b :: r)) : ∃ j, lex_reader_piece_m0.f k s i 0 = some ((tokE (b :: r)).1, j, (tokE (b :: r)).2.2) ∧ At s j (tokE (b :: r)).2.1 := by
  obtain ⟨g1, g2, g3⟩ := ha.step hs
  unfold lex_reader_piece_m0.f tokE
  rw [g2, Option.bind_some]
  have h1 : ((b.toNat : Int) == 39) = (b == 39) := u8_eq (b := 39)
  have h2 : ((b.toNat : Int) == 36) = (b == 36) := u8_eq (b := 36)
  have h3 : ((b.toNat : Int) == 96) = (b == 96) := u8_eq (b := 96)
  rw [h1, h2, h3]
  by_cases c1 : b = 39
  · subst c1
    obtain ⟨j, f1, f2⟩ := quo_eq k s hs hk i r ha
    exact ⟨j, by simp [f1, pc_eta], by simpa using f2⟩
  by_cases c2 : b = 36
  · subst c2
    obtain ⟨j, f1, f2⟩ := var_eq k s hs hk _ r 0 g1
    exact ⟨j, by simp [f1, pc_eta], by simpa using f2⟩
  by_cases c3 : b = 96
  · subst c3
    obtain ⟨j, f1, f2⟩ := cmd_eq k s hs hk _ r 0 g1
    exact ⟨j, by simp [f1, pc_eta], by simpa using f2⟩
  obtain ⟨j, f1, f2⟩ := take4_eq k s hs hk i _ 0 ha
  exact ⟨j, by simp [f1, c1, c2, c3], by simpa [c1, c2, c3] using f2⟩
end Go.Proofs.YtldepagjdbcmgaaGreatDoor.Lx
