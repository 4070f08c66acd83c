/- A part of the proof of a given law: DTN. Own work, printed in part by a program of mine. -/
import Derived.Test.YtkdpaglpieamgaaDoorK9DTF
namespace Go.Proofs.YtkdpaglpieamgaaDoor
open Go Go.AM
set_option linter.unusedVariables false
set_option linter.unusedSimpArgs false
set_option maxRecDepth 100000
def feqB (a b : T_tree_File) : Bool := a.f_Name == b.f_Name && (a.f_Content == b.f_Content && (a.f_Time == b.f_Time && true))
def entB (m : List ((List UInt8) × T_tree_File)) (y : (List UInt8) × T_tree_File) : Bool := (mget y.1 m).isSome && feqB y.2 ((mget y.1 m).getD (T_tree_File.mk [] [] 0))
theorem all_perm {α : Type} {l1 l2 : List α} (hp : l1.Perm l2) (p : α → Bool) : l1.all p = l2.all p := by
  rw [Bool.eq_iff_iff, List.all_eq_true, List.all_eq_true]
  exact ⟨fun h x hx => h x (hp.mem_iff.2 hx), fun h x hx => h x (hp.mem_iff.1 hx)⟩
theorem same_loop0 (k : Nat) (m : List ((List UInt8) × T_tree_File)) : ∀ (n : Nat) (l : List ((List UInt8) × T_tree_File)), tree_File_60_m0.l5 k m n l = if l.length < n then some (if l.all (entB m) then .inl () else .inr false) else none
  | 0, _ => by rw [if_neg (Nat.not_lt_zero _)]; cases ‹List _› <;> rfl
  | n + 1, [] => by rw [if_pos (by simp)]; rfl
  | n + 1, y :: l => by
    unfold tree_File_60_m0.l5
    by_cases h : l.length < n
    · rw [if_pos h, if_pos (show (y :: l).length < n + 1 by simpa using h)]
      unfold tree_File_60_m0.j13
      rw [List.all_cons, same_loop0 k m n, if_pos h]
      unfold entB feqB
      cases (mget y.1 m).isSome
      · rfl
      · simp only [Bool.not_true, Bool.false_eq_true, if_false, Bool.true_and]
        generalize (y.2.f_Name == _ && _) = b
        cases b <;> rfl
    · rw [if_neg h, if_neg (show ¬ (y :: l).length < n + 1 by simpa using h)]
theorem tree_File_60_m0.l5_perm (k : Nat) (a1 : List ((List UInt8) × T_tree_File)) {n : Nat} {l1 l2 : List ((List UInt8) × T_tree_File)} {out : (Sum Unit Bool)} (hp : l1.Perm l2) (ha : Apart l1) (h : tree_File_60_m0.l5 k a1 n l1 = some out) : tree_File_60_m0.l5 k a1 n l2 = some out := by
  rw [same_loop0] at h ⊢
  rw [← hp.length_eq, ← all_perm hp]; exact h
end Go.Proofs.YtkdpaglpieamgaaDoor
