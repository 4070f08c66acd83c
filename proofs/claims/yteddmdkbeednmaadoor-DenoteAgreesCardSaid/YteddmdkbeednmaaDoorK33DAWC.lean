/- Sets of bytes. -/
import Derived.Test.YteddmdkbeednmaaDoorK33DAVB
import Derived.Test.YteddmdkbeednmaaDoorK33AmR6
namespace Go.Proofs.YteddmdkbeednmaaDoor.Dn
open Go Go.AM
set_option linter.unusedVariables false
set_option linter.unusedSimpArgs false
set_option maxRecDepth 100000
def setHas (w : List Int) (b : Nat) : Bool := ((w.getD (b / 64) 0) / 2 ^ (b % 64)) % 2 == 1
def SetOk (w : List Int) : Prop := w.length = 4 ∧ ∀ x ∈ w, 0 ≤ x ∧ x < 18446744073709551616
theorem wr8 {n : Int} (h0 : 0 ≤ n) (h1 : n < 256) : IntKind.u8.wrap n = n := by
  show (if (false && decide (n % 2 ^ 8 ≥ 2 ^ 7)) = true then n % 2 ^ 8 - 2 ^ 8 else n % 2 ^ 8) = n
  simp; omega
theorem wu64 {n : Int} (h0 : 0 ≤ n) (h1 : n < 18446744073709551616) : IntKind.u64.wrap n = n := by
  show (if (false && decide (n % 2 ^ 64 ≥ 2 ^ 63)) = true then n % 2 ^ 64 - 2 ^ 64 else n % 2 ^ 64) = n
  simp; omega
theorem and_one {n : Int} (h0 : 0 ≤ n) (h1 : n < 18446744073709551616) : bits .and .u64 n 1 = n % 2 := by
  unfold bits
  have h2 : ((BitVec.ofInt IntKind.u64.bits n &&& BitVec.ofInt IntKind.u64.bits 1).toNat : Int) = n % 2 := by
    obtain ⟨k, rfl⟩ : ∃ k : Nat, n = k := ⟨n.toNat, by omega⟩
    have e1 : (BitVec.ofInt IntKind.u64.bits (k : Int)).toNat = k := by
      show (BitVec.ofInt 64 (k : Int)).toNat = k
      rw [BitVec.toNat_ofInt]
      omega
    have e2 : (BitVec.ofInt IntKind.u64.bits 1).toNat = 1 := by decide
    rw [BitVec.toNat_and, e1, e2, Nat.and_one_is_mod]
    omega
  simp only []
  rw [h2]
  exact wu64 (by omega) (by omega)
theorem set_at {w : List Int} (hw : SetOk w) {j : Nat} (hj : j < 4) : ∃ x, w[j]? = some x ∧ 0 ≤ x ∧ x < 18446744073709551616 ∧ w.getD j 0 = x := by
  have hl : j < w.length := by rw [hw.1]; exact hj
  exact ⟨w[j], List.getElem?_eq_getElem hl, (hw.2 _ (List.getElem_mem hl)).1, (hw.2 _ (List.getElem_mem hl)).2, by rw [List.getD_eq_getElem?_getD, List.getElem?_eq_getElem hl]; rfl⟩
theorem div_bound {x : Int} {e : Nat} (h0 : 0 ≤ x) (h1 : x < 18446744073709551616) : 0 ≤ x / 2 ^ e ∧ x / 2 ^ e < 18446744073709551616 := by
  have hp : (0 : Int) < 2 ^ e := Int.pow_pos (by decide)
  refine ⟨Int.ediv_nonneg h0 (by omega), ?_⟩
  exact Int.lt_of_le_of_lt (Int.ediv_le_self _ h0) h1
theorem class_has {w : List Int} (hw : SetOk w) {b : Nat} (hb : b < 256) (k : Nat) : class_Set_Has.f k w (b : Int) = some (setHas w b) := by
  obtain ⟨x, hx, h0, h1, hg⟩ := set_at hw (j := b / 64) (by omega)
  have e1 : Int.tdiv (b : Int) 64 = ((b / 64 : Nat) : Int) := rfl
  have e2 : Int.tmod (b : Int) 64 = ((b % 64 : Nat) : Int) := rfl
  unfold class_Set_Has.f
  rw [e1, e2, wr8 (by omega) (by omega), if_pos (by decide), if_pos ⟨by omega, by omega⟩, Int.toNat_natCast, hx, Option.bind_some, if_pos (by decide), if_pos (by omega)]
  have e3 : min (((b % 64 : Nat) : Int)).toNat IntKind.u64.bits = b % 64 := by
    rw [Int.toNat_natCast]; show min (b % 64) 64 = b % 64; omega
  rw [e3, Int.fdiv_eq_ediv_of_nonneg _ (by exact Int.le_of_lt (Int.pow_pos (by decide)))]
  obtain ⟨q0, q1⟩ := div_bound (e := b % 64) h0 h1
  rw [and_one q0 q1]
  unfold setHas
  rw [hg]
mutual
def setsN : RN → Prop
  | .mk _ _ w ks => SetOk w ∧ setsL ks
def setsL : List RN → Prop
  | [] => True
  | x :: xs => setsN x ∧ setsL xs
end
theorem setsN_eq (n : RN) : setsN n ↔ SetOk n.f_Set ∧ setsL n.f_Kids := by cases n; simp [setsN, T_rex_Node.f_Set, T_rex_Node.f_Kids]
theorem wf_word {w : List Int} (h1 : Wf Un (.arr 4 (.int .u64)) w) : SetOk w := by
  obtain ⟨hl, hx⟩ := Wf.arrI h1
  refine ⟨hl, fun y hy => ?_⟩
  have := Wf.intI (hx y hy)
  have e1 : IntKind.u64.min = 0 := rfl
  have e2 : IntKind.u64.max = 18446744073709551615 := rfl
  rw [e1, e2] at this
  exact ⟨this.1, by omega⟩
theorem wf_parts {n : RN} (h : Wf Un (.named 3) n) : SetOk n.f_Set ∧ Wf Un (.list (.named 3)) n.f_Kids := by
  have a := Wf.pairI (Wf.pairI (Wf.pairI (Wf.namedI h)).2).2
  exact ⟨wf_word a.1, (Wf.pairI a.2).1⟩
mutual
theorem wf_sets : ∀ (n : RN), Wf Un (.named 3) n → setsN n
  | .mk a b c ks, h => by
    have := wf_parts h
    rw [setsN]
    exact ⟨this.1, wf_setsL ks (Wf.listI this.2).2⟩
theorem wf_setsL : ∀ (l : List RN), (∀ x ∈ l, Wf Un (.named 3) x) → setsL l
  | [], _ => by rw [setsL]; trivial
  | x :: xs, h => by
    rw [setsL]
    exact ⟨wf_sets x (h x (.head _)), wf_setsL xs fun y hy => h y (.tail _ hy)⟩
end
end Go.Proofs.YteddmdkbeednmaaDoor.Dn
