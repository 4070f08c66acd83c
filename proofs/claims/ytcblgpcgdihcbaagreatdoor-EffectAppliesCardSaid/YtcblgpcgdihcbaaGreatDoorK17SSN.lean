/- A range over a tree's files in any order. -/
import Derived.Test.YtcblgpcgdihcbaaGreatDoorK17SSF
namespace Go.Proofs.YtcblgpcgdihcbaaGreatDoor
open Go Go.AM
set_option linter.unusedVariables false
set_option linter.unusedSimpArgs false
set_option maxRecDepth 100000
def mx (v t : Int) : Int := if t > v then t else v
theorem mx_comm (a b c : Int) : mx (mx a b) c = mx (mx a c) b := by unfold mx; repeat' split <;> omega
def latest (v : Int) (l : List ((List UInt8) × T_tree_File)) : Int := l.foldl (fun a y => mx a y.2.f_Time) v
theorem latest_perm {l1 l2 : List ((List UInt8) × T_tree_File)} (hp : l1.Perm l2) : ∀ v, latest v l1 = latest v l2 := by
  induction hp with
  | nil => intro v; rfl
  | cons x _ ih => intro v; exact ih _
  | swap x y l => intro v; unfold latest; simp only [List.foldl_cons]; rw [mx_comm]
  | trans _ _ ih1 ih2 => intro v; rw [ih1, ih2]
theorem latest_loop (k : Nat) : ∀ (n : Nat) (v : Int) (l : List ((List UInt8) × T_tree_File)), tree_Tree_Latest_m0.l6 k n v l = if l.length < n then some (latest v l) else none
  | 0, _, _ => by rw [if_neg (Nat.not_lt_zero _)]; cases ‹List _› <;> rfl
  | n + 1, v, [] => by rw [if_pos (by simp)]; rfl
  | n + 1, v, y :: l => by
    unfold tree_Tree_Latest_m0.l6
    by_cases h : l.length < n
    · rw [if_pos h, if_pos (show (y :: l).length < n + 1 by simpa using h), latest_loop k n, if_pos h]; rfl
    · rw [if_neg h, if_neg (show ¬ (y :: l).length < n + 1 by simpa using h)]
theorem tree_Tree_Latest_m0.l6_perm (k : Nat) {n : Nat} {l1 l2 : List ((List UInt8) × T_tree_File)} {v4 : Int} {out : Int} (hp : l1.Perm l2) (ha : Apart l1) (h : tree_Tree_Latest_m0.l6 k n v4 l1 = some out) : tree_Tree_Latest_m0.l6 k n v4 l2 = some out := by
  rw [latest_loop] at h ⊢
  rw [← hp.length_eq, ← latest_perm hp]; exact h
def feqB (a b : T_tree_File) : Bool := a.f_Name == b.f_Name && (a.f_Content == b.f_Content && (a.f_Time == b.f_Time && true))
end Go.Proofs.YtcblgpcgdihcbaaGreatDoor
