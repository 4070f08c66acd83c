/- A part of the proof of a given law: DAVA. Own work, printed in part by a program of mine. -/
import Derived.Test.YteddmdkbeednmaaDoorK33DAF
import Derived.Test.YteddmdkbeednmaaDoorK33AmM3
import Derived.Test.YteddmdkbeednmaaDoorK33AmM
namespace Go.Proofs.YteddmdkbeednmaaDoor
open Go Go.AM
set_option linter.unusedVariables false
set_option linter.unusedSimpArgs false
set_option maxRecDepth 100000

abbrev RN := T_rex_Node
abbrev DN := T_millwrightref07_Node
abbrev zeros : List Int := List.replicate 4 (0 : Int)

mutual
def nsz : RN → Nat
  | .mk _ _ _ ks => 1 + nszs ks
def nszs : List RN → Nat
  | [] => 0
  | x :: xs => nsz x + nszs xs
end
mutual
def ofN : RN → DN
  | .mk a b c ks => .mk a b c (ofNs ks)
def ofNs : List RN → List DN
  | [] => []
  | x :: xs => ofN x :: ofNs xs
end
theorem nsz_pos (n : RN) : 1 ≤ nsz n := by cases n; simp [nsz]
theorem nsz_kids (n : RN) : nsz n = 1 + nszs n.f_Kids := by cases n; simp [nsz, T_rex_Node.f_Kids]
theorem nszs_len (l : List RN) : l.length ≤ nszs l := by
  induction l with
  | nil => simp [nszs]
  | cons x xs ih => have := nsz_pos x; simp only [List.length_cons, nszs]; omega
theorem rn_eta (n : RN) : T_rex_Node.mk n.f_Kind n.f_Index n.f_Set n.f_Kids = n := by cases n; rfl
theorem at_drop {α : Type} {l r : List α} {i : Nat} {x : α} (h : l.drop i = x :: r) : idx l (i : Int) = some x ∧ l.drop (i + 1) = r ∧ i < l.length := by
  have hi : i < l.length := by
    rcases Nat.lt_or_ge i l.length with h' | h'
    · exact h'
    · rw [List.drop_of_length_le h'] at h; cases h
  rw [List.drop_eq_getElem_cons hi] at h
  injection h with h1 h2
  exact ⟨by rw [idx_at rfl hi, h1], h2, hi⟩
theorem at_nil {α : Type} {l : List α} {i : Nat} (h : l.drop i = []) : l.length ≤ i := by
  have := congrArg List.length h
  simp at this; omega
theorem wr1 {i : Nat} (h : i < 1000000) : IntKind.i64.wrap ((i : Int) + 1) = ((i + 1 : Nat) : Int) := by rw [w64 (by omega) (by omega)]; rfl

theorem nsz_mem : ∀ (l : List RN) x, x ∈ l → nsz x ≤ nszs l := fun l x hx => by
  induction l with
  | nil => cases hx
  | cons y ys ih =>
    rcases List.mem_cons.1 hx with rfl | hx
    · simp [nszs]
    · have := ih hx; simp only [nszs]; omega
end Go.Proofs.YteddmdkbeednmaaDoor
