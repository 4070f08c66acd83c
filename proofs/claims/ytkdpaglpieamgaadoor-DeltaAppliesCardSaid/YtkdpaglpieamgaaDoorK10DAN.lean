/- A part of a proof: DAN. -/
import Derived.Test.YtkdpaglpieamgaaDoorK10DAF
namespace Go.Proofs.YtkdpaglpieamgaaDoor
open Go Go.AM
set_option linter.unusedVariables false
set_option linter.unusedSimpArgs false
set_option maxRecDepth 100000
def mx (v t : Int) : Int := if t > v then t else v
theorem mx_comm (a b c : Int) : mx (mx a b) c = mx (mx a c) b := by unfold mx; repeat' split <;> omega
def latest (v : Int) (l : List ((List UInt8) × TF)) : Int := l.foldl (fun a y => mx a y.2.fT) v
theorem latest_perm {l1 l2 : List ((List UInt8) × TF)} (hp : l1.Perm l2) : ∀ v, latest v l1 = latest v l2 := by
  induction hp with
  | nil => intro v; rfl
  | cons x _ ih => intro v; exact ih _
  | swap x y l => intro v; unfold latest; simp only [List.foldl_cons]; rw [mx_comm]
  | trans _ _ ih1 ih2 => intro v; rw [ih1, ih2]
theorem latest_loop (k : Nat) : ∀ (n : Nat) (v : Int) (l : List ((List UInt8) × TF)), tree_Tree_Latest_m0.l6 k n v l = if l.length < n then some (latest v l) else none
  | 0, _, _ => by rw [if_neg (Nat.not_lt_zero _)]; cases ‹List _› <;> rfl
  | n + 1, v, [] => by rw [if_pos (by simp)]; rfl
  | n + 1, v, y :: l => by
    unfold tree_Tree_Latest_m0.l6
    by_cases h : l.length < n
    · rw [if_pos h, if_pos (show (y :: l).length < n + 1 by simpa using h), latest_loop k n, if_pos h]; rfl
    · rw [if_neg h, if_neg (show ¬ (y :: l).length < n + 1 by simpa using h)]
theorem tree_Tree_Latest_m0.l6_perm (k : Nat) {n : Nat} {l1 l2 : List ((List UInt8) × TF)} {v4 : Int} {out : Int} (hp : l1.Perm l2) (ha : Apart l1) (h : tree_Tree_Latest_m0.l6 k n v4 l1 = some out) : tree_Tree_Latest_m0.l6 k n v4 l2 = some out := by
  rw [latest_loop] at h ⊢
  rw [← hp.length_eq, ← latest_perm hp]; exact h
def feqB (a b : TF) : Bool := a.fN == b.fN && (a.fC == b.fC && (a.fT == b.fT && true))
end Go.Proofs.YtkdpaglpieamgaaDoor
