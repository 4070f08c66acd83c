/- Sets of bytes, and the program's match. -/
import Derived.Test.YteddmdkbeednmaaDoorK33DAVQC
namespace Go.Proofs.YteddmdkbeednmaaDoor
open Go Go.AM
set_option linter.unusedVariables false
set_option linter.unusedSimpArgs false
set_option maxRecDepth 100000
namespace Pk
def setHas (w : List Int) (b : Nat) : Bool := ((w.getD (b / 64) 0) / 2 ^ (b % 64)) % 2 == 1
def SetOk (w : List Int) : Prop := w.length = 4 ∧ ∀ x ∈ w, 0 ≤ x ∧ x < 18446744073709551616
theorem wr8 {n : Int} (h0 : 0 ≤ n) (h1 : n < 256) : IntKind.u8.wrap n = n := by
  show (if (false && decide (n % 2 ^ 8 ≥ 2 ^ 7)) = true then n % 2 ^ 8 - 2 ^ 8 else n % 2 ^ 8) = n
  simp; omega
theorem wu64 {n : Int} (h0 : 0 ≤ n) (h1 : n < 18446744073709551616) : IntKind.u64.wrap n = n := by
  show (if (false && decide (n % 2 ^ 64 ≥ 2 ^ 63)) = true then n % 2 ^ 64 - 2 ^ 64 else n % 2 ^ 64) = n
  simp; omega
theorem and_one {n : Int} (h0 : 0 ≤ n) (h1 : n < 18446744073709551616) : bits .and .u64 n 1 = n % 2 := by
  unfold bits
  have h2 : ((BitVec.ofInt IntKind.u64.bits n &&& BitVec.ofInt IntKind.u64.bits 1).toNat : Int) = n % 2 := by
    obtain ⟨k, rfl⟩ : ∃ k : Nat, n = k := ⟨n.toNat, by omega⟩
    have e1 : (BitVec.ofInt IntKind.u64.bits (k : Int)).toNat = k := by
      show (BitVec.ofInt 64 (k : Int)).toNat = k
      rw [BitVec.toNat_ofInt]
      omega
    have e2 : (BitVec.ofInt IntKind.u64.bits 1).toNat = 1 := by decide
    rw [BitVec.toNat_and, e1, e2, Nat.and_one_is_mod]
    omega
  simp only []
  rw [h2]
  exact wu64 (by omega) (by omega)
theorem set_at {w : List Int} (hw : SetOk w) {j : Nat} (hj : j < 4) : ∃ x, w[j]? = some x ∧ 0 ≤ x ∧ x < 18446744073709551616 ∧ w.getD j 0 = x := by
  have hl : j < w.length := by rw [hw.1]; exact hj
  exact ⟨w[j], List.getElem?_eq_getElem hl, (hw.2 _ (List.getElem_mem hl)).1, (hw.2 _ (List.getElem_mem hl)).2, by rw [List.getD_eq_getElem?_getD, List.getElem?_eq_getElem hl]; rfl⟩
theorem div_bound {x : Int} {e : Nat} (h0 : 0 ≤ x) (h1 : x < 18446744073709551616) : 0 ≤ x / 2 ^ e ∧ x / 2 ^ e < 18446744073709551616 := by
  have hp : (0 : Int) < 2 ^ e := Int.pow_pos (by decide)
  refine ⟨Int.ediv_nonneg h0 (by omega), ?_⟩
  exact Int.lt_of_le_of_lt (Int.ediv_le_self _ h0) h1
theorem class_has {w : List Int} (hw : SetOk w) {b : Nat} (hb : b < 256) (k : Nat) : class_Set_Has.f k w (b : Int) = some (setHas w b) := by
  obtain ⟨x, hx, h0, h1, hg⟩ := set_at hw (j := b / 64) (by omega)
  have e1 : Int.tdiv (b : Int) 64 = ((b / 64 : Nat) : Int) := rfl
  have e2 : Int.tmod (b : Int) 64 = ((b % 64 : Nat) : Int) := rfl
  unfold class_Set_Has.f
  rw [e1, e2, wr8 (by omega) (by omega), if_pos (by decide), if_pos ⟨by omega, by omega⟩, Int.toNat_natCast, hx, Option.bind_some, if_pos (by decide), if_pos (by omega)]
  have e3 : min (((b % 64 : Nat) : Int)).toNat IntKind.u64.bits = b % 64 := by
    rw [Int.toNat_natCast]; show min (b % 64) 64 = b % 64; omega
  rw [e3, Int.fdiv_eq_ediv_of_nonneg _ (by exact Int.le_of_lt (Int.pow_pos (by decide)))]
  obtain ⟨q0, q1⟩ := div_bound (e := b % 64) h0 h1
  rw [and_one q0 q1]
  unfold setHas
  rw [hg]
def hasf (s : List UInt8) (i : Nat) (x : Ins) : Bool := match s[i]? with | some c => setHas x.f_Set c.toNat | none => false
theorem mkI_fresh {i : Nat} {v : List Int} {n : Nat} (hl : v.length = n) (h : ∀ x ∈ v, x ≤ (i : Int)) : mkI (i + 1) v = List.replicate n false := by
  unfold mkI
  rw [← hl]
  clear hl
  induction v with
  | nil => rfl
  | cons x v ih =>
    have h1 := h x (.head _)
    rw [List.map_cons, ih fun y hy => h y (.tail _ hy), List.length_cons, List.replicate_succ]
    congr 1
    have : ¬ x = ((i + 1 : Nat) : Int) := by omega
    simpa using this
theorem cnt_rep (n : Nat) : cnt (List.replicate n false) = n := by simp [cnt]
theorem match_loop {p : List Ins} {s : List UInt8} (hn : p.length ≤ 200) (hs : s.length ≤ 60) (hset : ∀ x ∈ p, SetOk x.f_Set) {K : Nat} (hK : 300 ≤ K) : ∀ {c i n : Nat} {N : List (Int × Kp)} {v : List Int} {r},
    i + c = s.length → (c ≠ 0 → R p s.length (hasf s) (List.replicate p.length false) (K + 1) c i N = some r) → (c = 0 → r = none) → c < n → v.length = p.length → (∀ x ∈ v, x ≤ (i : Int)) → N.length ≤ 200 → (∀ t ∈ N, t.2.length = 20 ∧ ∃ x, idx p t.1 = some x) →
    ∃ v' l', pike_Match.l17 (K + 2) p s n i v (N.map thr) none i = some ((s.length : Int), v', l', r)
  | 0, i, n, N, v, r, hi, hR, hr, hcn, hl, hle, hN, hk => by
    obtain ⟨n, rfl⟩ : ∃ n', n = n' + 1 := ⟨n - 1, by omega⟩
    have := hr rfl
    subst this
    obtain rfl : i = s.length := by omega
    exact ⟨v, N.map thr, by rw [pike_Match.l17, if_neg (by simp)]⟩
  | c + 1, i, n, N, v, r, hi, hR, hr, hcn, hl, hle, hN, hk => by
    obtain ⟨n, rfl⟩ : ∃ n', n = n' + 1 := ⟨n - 1, by omega⟩
    have hR := hR (by omega)
    unfold R at hR
    obtain ⟨⟨M', N', fo⟩, hC, hR1⟩ := bind_some hR
    have hlt : i < s.length := by omega
    have hsi : s[i]? = some s[i] := List.getElem?_eq_getElem hlt
    have hhas : ∀ x ∈ p, class_Set_Has.f (K + 2) x.f_Set ((s[i].toNat : Nat) : Int) = some (hasf s i x) := fun x hx => by
      rw [class_has (hset x hx) (by have := s[i].toNat_lt; omega)]
      unfold hasf; rw [hsi]
    have hwi : IntKind.i64.wrap ((i : Int) + 1) = ((i + 1 : Nat) : Int) := by rw [w64 (by omega) (by omega)]; rfl
    have hfresh := mkI_fresh hl hle
    rw [← hfresh] at hC
    obtain ⟨w, g1, g2, g3, g4⟩ := step_loop (s := s) (i := i) (K := K) (b := ((s[i].toNat : Nat) : Int)) (hasf s) hn (by omega) hhas (T := N) (by omega) (N := N) (done := []) (n := K + 2) (v1 := v) (v2 := []) (by simp) hC (by omega) hk hl (by rw [hfresh, cnt_rep]; simp; omega) (fun x hx => by have := hle x hx; omega)
    have hstep : pike_runner_step_m1.f (K + 2) p s i v (N.map thr) none ((s[i].toNat : Nat) : Int) = some (((i + 1 : Nat) : Int), w, N'.map thr, fo) := by
      unfold pike_runner_step_m1.f
      rw [show (0 : Int) = (([] : List (Int × Kp)).length : Int) from rfl, g1, Option.bind_some, hwi, List.nil_append]
    have hlen : N'.length ≤ 200 := by
      have := CL_len hC
      rw [hfresh, cnt_rep] at this
      omega
    have hidx : idx s (i : Int) = some s[i] := by unfold idx; rw [if_pos (by omega), Int.toNat_natCast, hsi]
    rw [pike_Match.l17, if_pos (by simp; omega), hidx, Option.bind_some, hstep, Option.bind_some]
    dsimp only
    rw [hwi]
    cases c with
    | zero =>
      dsimp only at hR1
      cases hR1
      obtain ⟨n, rfl⟩ : ∃ n', n = n' + 1 := ⟨n - 1, by omega⟩
      have : s.length = i + 1 := by omega
      refine ⟨w, N'.map thr, ?_⟩
      rw [pike_Match.l17, if_neg (by simp; omega), this]
    | succ c =>
      have hfo := CL_none (by omega) hC
      dsimp only at hfo
      subst hfo
      exact match_loop hn hs hset hK (by omega) (fun _ => hR1) (fun h => by omega) (by omega) g2 g3 hlen g4
end Pk
end Go.Proofs.YteddmdkbeednmaaDoor
