/- Decimal figures, blanks behind them, and what reads them. -/
import Derived.Test.YtcblgpcgdihcbaaGreatDoorK20ETF
import Derived.Test.YtcblgpcgdihcbaaGreatDoorK20AmM3
import Derived.Test.YtcblgpcgdihcbaaGreatDoorK20AmM
import Derived.Test.YtcblgpcgdihcbaaGreatDoorK20AmR5
import Derived.Test.YtcblgpcgdihcbaaGreatDoorK20AmW
namespace Go.Proofs.YtcblgpcgdihcbaaGreatDoor.Ar
open Go Go.AM Go.ChangeShapes Go.ChangeAt Go.RowKit
set_option linter.unusedVariables false
set_option linter.unusedSimpArgs false
set_option maxRecDepth 100000
abbrev Tx := List UInt8
theorem at_drop {α : Type} {l r : List α} {i : Nat} {x : α} (h : l.drop i = x :: r) : idx l (i : Int) = some x ∧ l.drop (i + 1) = r ∧ i < l.length := by
  have hi : i < l.length := by
    rcases Nat.lt_or_ge i l.length with h' | h'
    · exact h'
    · rw [List.drop_of_length_le h'] at h; cases h
  rw [List.drop_eq_getElem_cons hi] at h
  injection h with h1 h2
  exact ⟨by rw [idx_at rfl hi, h1], h2, hi⟩
theorem at_nil {α : Type} {l : List α} {i : Nat} (h : l.drop i = []) : l.length ≤ i := by
  have := congrArg List.length h
  simp at this; omega
theorem wr1 {i : Nat} (h : i < 1000000) : IntKind.i64.wrap ((i : Int) + 1) = ((i + 1 : Nat) : Int) := by rw [w64 (by omega) (by omega)]; rfl
theorem lim_ok {α : Type} {l : List α} {x : α} (h : l.length ≤ 100000) : l.length + [x].length ≤ LIM := by
  have : LIM = 4294967296 := rfl
  simp; omega

def isFig (c : UInt8) : Bool := decide (48 ≤ c.toNat) && decide (c.toNat ≤ 57)
def stepV (a : Nat) (c : UInt8) : Nat := a * 10 + (c.toNat - 48)
def val (a : Nat) (l : Tx) : Nat := l.foldl stepV a
theorem val_nil (a : Nat) : val a [] = a := List.foldl_nil
theorem val_cons (a : Nat) (c : UInt8) (r : Tx) : val a (c :: r) = val (a * 10 + (c.toNat - 48)) r := by unfold val; rw [List.foldl_cons, stepV]
theorem val_app (a : Nat) (x y : Tx) : val a (x ++ y) = val (val a x) y := List.foldl_append
theorem fig_of {c : UInt8} (h : isFig c = true) : 48 ≤ c.toNat ∧ c.toNat ≤ 57 := by simpa [isFig] using h
def fig (i : Nat) : UInt8 := UInt8.ofNat (48 + i)
theorem ofNat_fig {i : Nat} (h : i < 10) : (fig i).toNat = 48 + i := by
  rw [fig, UInt8.toNat_ofNat']; omega
theorem isFig_of {i : Nat} (h : i < 10) : isFig (fig i) = true := by simp [isFig, ofNat_fig h]; omega
theorem dec_small {n : Nat} (h : n < 10) : Lib.decDigits n = [fig n] := Lib.decDigits_one h
theorem dec_big {n : Nat} (h : ¬ n < 10) : Lib.decDigits n = Lib.decDigits (n / 10) ++ [fig (n % 10)] := by rw [Lib.decDigits, dif_neg h]; rfl
theorem head_app {l r : Tx} (h : l ≠ []) : (l ++ r).head? = l.head? := by
  cases l with
  | nil => exact absurd rfl h
  | cons _ _ => rfl
theorem fig48 : (48 : UInt8).toNat = 48 := by decide
theorem fig_inj {i : Nat} (h : i < 10) (e : fig i = 48) : i = 0 := by
  have h2 := ofNat_fig h
  rw [e, fig48] at h2
  omega
theorem dec_fig (n : Nat) : (∀ c ∈ Lib.decDigits n, isFig c = true) ∧ Lib.decDigits n ≠ [] ∧ val 0 (Lib.decDigits n) = n ∧ (1 ≤ n → (Lib.decDigits n).head? ≠ some 48) ∧ ∀ c, (Lib.decDigits n).getLast? = some c → isFig c = true := by
  induction n using Nat.strongRecOn with
  | _ n ih =>
    by_cases h : n < 10
    · rw [dec_small h]
      refine ⟨by simp [isFig_of h], by simp, by rw [val_cons, val_nil, ofNat_fig h]; omega, fun h1 e => ?_, by simp [isFig_of h]⟩
      have := fig_inj h (Option.some.inj e)
      omega
    · obtain ⟨h1, h2, h3, h4, h5⟩ := ih (n / 10) (by omega)
      have hm : n % 10 < 10 := by omega
      rw [dec_big h]
      refine ⟨fun c hc => ?_, by simp, ?_, fun _ => ?_, by simp [isFig_of hm]⟩
      · rcases List.mem_append.1 hc with hc | hc
        · exact h1 c hc
        · rw [List.mem_singleton.1 hc]; exact isFig_of hm
      · rw [val_app, h3, val_cons, val_nil, ofNat_fig hm]; omega
      · rw [head_app h2]; exact h4 (by omega)
theorem val_lt (d : Tx) : ∀ a n, a < 10 ^ n → (∀ c ∈ d, isFig c = true) → val a d < 10 ^ (n + d.length) := by
  induction d with
  | nil => intro a n h _; exact h
  | cons c r ih =>
    intro a n h hf
    have hc := fig_of (hf c (by simp))
    have := ih (a * 10 + (c.toNat - 48)) (n + 1) (by rw [Nat.pow_succ]; omega) (fun x hx => hf x (List.mem_cons_of_mem _ hx))
    rw [val_cons, List.length_cons]
    rwa [show n + (r.length + 1) = n + 1 + r.length by omega]
theorem val_mono (d : Tx) : ∀ a, a ≤ val a d := by
  induction d with
  | nil => intro a; exact Nat.le_refl _
  | cons c r ih => intro a; rw [val_cons]; exact Nat.le_trans (by omega) (ih _)

abbrev bl (n : Nat) : Tx := List.replicate n 32
theorem bl_succ (n : Nat) : bl (n + 1) = bl n ++ [32] := List.replicate_succ'
theorem bl_succ' (n : Nat) : bl (n + 1) = 32 :: bl n := List.replicate_succ
def fld (w : Nat) (x : Tx) : Tx := x ++ bl (w - x.length)
theorem fld_len {w : Nat} {x : Tx} (h : x.length ≤ w) : (fld w x).length = w := by simp [fld]; omega
theorem trim_bl (x : Tx) (n : Nat) : Lib.trimRightB (x ++ bl n) 32 = Lib.trimRightB x 32 := by
  unfold Lib.trimRightB
  rw [List.reverse_append]
  congr 1
  induction n with
  | zero => rfl
  | succ n ih =>
    rw [bl_succ, List.reverse_append, List.append_assoc]
    rw [show ([32] : Tx).reverse ++ ((bl n).reverse ++ x.reverse) = 32 :: ((bl n).reverse ++ x.reverse) from rfl, List.dropWhile_cons_of_pos (by simp)]
    exact ih
theorem trim_self {x : Tx} (h : x.getLast? ≠ some 32) : Lib.trimRightB x 32 = x := by
  unfold Lib.trimRightB
  rw [List.getLast?_eq_head?_reverse] at h
  cases e : x.reverse with
  | nil => rw [List.reverse_eq_nil_iff.1 e]; rfl
  | cons c r =>
    rw [e] at h
    rw [List.dropWhile_cons_of_neg (by simpa using h), ← e, List.reverse_reverse]
theorem trim_last (x : Tx) : (Lib.trimRightB x 32).getLast? ≠ some 32 := by
  unfold Lib.trimRightB
  rw [List.getLast?_reverse]
  intro h
  have := List.head?_dropWhile_not (fun c : UInt8 => c == 32) x.reverse
  rw [h] at this
  simp at this
theorem trim_fld (w : Nat) {x : Tx} (h : x.getLast? ≠ some 32) : Lib.trimRightB (fld w x) 32 = x := by rw [fld, trim_bl, trim_self h]
theorem trim_le (x : Tx) : (Lib.trimRightB x 32).length ≤ x.length := by
  have := List.Sublist.length_le (List.dropWhile_sublist (fun c : UInt8 => c == 32) (l := x.reverse))
  simpa [Lib.trimRightB] using this
theorem dec_last (n : Nat) : (Lib.decDigits n).getLast? ≠ some 32 := fun h => by
  have := (dec_fig n).2.2.2.2 32 h
  exact absurd this (by decide)

theorem repeat_bl (n : Nat) : Lib.repeatL [32] n = bl n := by
  induction n with
  | zero => rfl
  | succ n ih => rw [bl_succ', Lib.repeatL, ih]; rfl
theorem field_eq (k : Nat) (x : Tx) (w : Nat) (hx : x.length ≤ 100000) (hw : w ≤ 1000) : ar_field.f k x (w : Int) = some (fld w x) := by
  unfold ar_field.f pRepeat.f
  have e : IntKind.i64.wrap ((w : Int) - (x.length : Int)) = (w : Int) - (x.length : Int) := w64 (by omega) (by omega)
  rw [e]
  have e2 : (if (0 : Int) > (w : Int) - (x.length : Int) then (0 : Int) else (w : Int) - (x.length : Int)) = ((w - x.length : Nat) : Int) := by
    split
    · omega
    · omega
  rw [e2, if_pos ⟨by omega, by omega, by simp; omega⟩, Option.bind_some]
  simp only [Int.toNat_natCast, repeat_bl]
  rw [if_pos (by simp; omega)]
  rfl
theorem itoa_nat (n : Nat) : Lib.itoa (n : Int) = Lib.decDigits n := by
  unfold Lib.itoa
  rw [if_neg (by omega)]; simp
theorem dec_len_le {n w : Nat} (h : n < 10 ^ w) (hw : 1 ≤ w) : (Lib.decDigits n).length ≤ w := by
  induction w generalizing n with
  | zero => omega
  | succ w ih =>
    by_cases h10 : n < 10
    · rw [dec_small h10]; simp
    · rw [dec_big h10, List.length_append]
      have hw' : 1 ≤ w := by
        rcases Nat.eq_zero_or_pos w with rfl | h'
        · simp at h; omega
        · exact h'
      have := ih (n := n / 10) (by rw [Nat.pow_succ] at h; omega) hw'
      simp only [List.length_singleton]; omega
theorem itoa_len {n : Int} (h0 : -9223372036854775808 ≤ n) (h1 : n ≤ 9223372036854775807) : (Lib.itoa n).length ≤ 100 := by
  unfold Lib.itoa
  split
  · have := dec_len_le (n := n.natAbs) (w := 20) (by omega) (by omega)
    simp only [List.length_cons]; omega
  · have := dec_len_le (n := n.toNat) (w := 20) (by omega) (by omega)
    omega
theorem itoa_eq (k : Nat) {n : Int} (h0 : -9223372036854775808 ≤ n) (h1 : n ≤ 9223372036854775807) : pItoa.f k n = some (Lib.itoa n) := by
  unfold pItoa.f
  rw [if_pos ⟨h0, h1⟩]
end Go.Proofs.YtcblgpcgdihcbaaGreatDoor.Ar
