/- A text's bytes, and where quoted parts end. -/
import Derived.Test.YtldepagjdbcmgaaGreatDoorK22XWF
import Derived.Test.YtldepagjdbcmgaaGreatDoorK22AmM3
import Derived.Test.YtldepagjdbcmgaaGreatDoorK22AmM
import Derived.Test.YtldepagjdbcmgaaGreatDoorK22AmR5
import Derived.Test.YtldepagjdbcmgaaGreatDoorK22AmW
import Derived.Lib.SplitLaws
import Derived.Lib.CountLaws
import Derived.OpenShut
namespace Go.Proofs.YtldepagjdbcmgaaGreatDoor.Lx
open Go Go.AM Go.ChangeShapes Go.ChangeAt Go.RowKit
set_option linter.unusedVariables false
set_option linter.unusedSimpArgs false
set_option maxRecDepth 100000
def blankI (n : Nat) : Bool := n == 32 || n == 9 || n == 10
def bl (b : UInt8) : Bool := blankI b.toNat
theorem blank_all : ∀ n : Fin 256, decide (Lib.indexByte [32, 9, 10] ((n.val : Int).toNat.toUInt8) ≥ 0) = blankI n.val := by decide +kernel
theorem blank_eq (k : Nat) (n : Nat) (h : n < 256) : quote_Blank.f k (n : Int) = some (blankI n) := by
  have := blank_all ⟨n, h⟩
  simp only [quote_Blank.f, pIndexByte.f, Option.bind_some]
  simp only at this
  rw [this]
def fe : List UInt8 → Option Nat
  | [] => none
  | [x] => if x = 39 then some 1 else none
  | x :: y :: r => if x = 39 then (if y = 39 then (fe r).map (· + 2) else some 1) else (fe (y :: r)).map (· + 1)
def feS (i : Nat) : Option Nat → Sum Unit Int
  | some q => .inr ((i + q : Nat) : Int)
  | none => .inl ()
def endAt (s : List UInt8) (a : Int) : Int := if 0 ≤ a ∧ a < s.length ∧ s[a.toNat]? = some 39 then (match fe (s.drop (a.toNat + 1)) with | some q => ((a.toNat + 1 + q : Nat) : Int) | none => -1) else -1

inductive Dbl : List UInt8 → List UInt8 → Prop
  | nil : Dbl [] []
  | ch {x : UInt8} {c u : List UInt8} : x ≠ 39 → Dbl c u → Dbl (x :: c) (x :: u)
  | qq {c u : List UInt8} : Dbl c u → Dbl (39 :: 39 :: c) (39 :: u)

theorem Dbl.len {c u : List UInt8} (h : Dbl c u) : u.length ≤ c.length := by
  induction h with
  | nil => simp
  | ch _ _ ih => simpa using ih
  | qq _ ih => simp; omega

abbrev Pc := T_lex_Piece
theorem pc_eta (p : Pc) : T_lex_Piece.mk p.f_Kind p.f_Text p.f_From p.f_To = p := by cases p; rfl
def okP (p : Pc) : Prop := p.f_Text.length ≤ 100 ∧ p.f_From.length ≤ 100 ∧ p.f_To.length ≤ 100

theorem at_drop {α : Type} {l r : List α} {i : Nat} {x : α} (h : l.drop i = x :: r) : idx l (i : Int) = some x ∧ l.drop (i + 1) = r ∧ i < l.length := by
  have hi : i < l.length := by
    rcases Nat.lt_or_ge i l.length with h' | h'
    · exact h'
    · rw [List.drop_of_length_le h'] at h; cases h
  rw [List.drop_eq_getElem_cons hi] at h
  injection h with h1 h2
  exact ⟨by rw [idx_at rfl hi, h1], h2, hi⟩
theorem at_nil {α : Type} {l : List α} {i : Nat} (h : l.drop i = []) : l.length ≤ i := by
  have := congrArg List.length h
  simp at this; omega
theorem wr1 {i : Nat} (h : i < 1000000) : IntKind.i64.wrap ((i : Int) + 1) = ((i + 1 : Nat) : Int) := by rw [w64 (by omega) (by omega)]; rfl

def peq (x y : Pc) : Bool := x.f_Kind == y.f_Kind && (x.f_Text == y.f_Text && (x.f_From == y.f_From && (x.f_To == y.f_To && true)))
def allEq {α : Type} (p : α → α → Bool) : List α → List α → Bool
  | x :: xs, y :: ys => p x y && allEq p xs ys
  | _, _ => true
def eqL {α : Type} (p : α → α → Bool) (a b : List α) : Bool := decide (a.length = b.length) && allEq p a b
def dbl (c : UInt8) : List UInt8 := if c = 39 then [39, 39] else [c]

theorem index_cases (c : UInt8) : ∀ l : List UInt8, (c ∉ l ∧ Lib.indexByte l c = -1) ∨ ∃ a b, l = a ++ c :: b ∧ c ∉ a ∧ Lib.indexByte l c = (a.length : Int)
  | [] => .inl ⟨by simp, rfl⟩
  | x :: l => by
    unfold Lib.indexByte
    by_cases h : x = c
    · subst h; exact .inr ⟨[], l, rfl, by simp, by simp⟩
    · rw [if_neg (by simpa using h)]
      rcases index_cases c l with ⟨h1, h2⟩ | ⟨a, b, h1, h2, h3⟩
      · left; rw [h2]; exact ⟨by simp; exact ⟨fun e => h e.symm, h1⟩, by simp⟩
      · right; refine ⟨x :: a, b, by simp [h1], by simp; exact ⟨fun e => h e.symm, h2⟩, ?_⟩
        rw [h3, if_neg (by simp)]; simp

end Go.Proofs.YtldepagjdbcmgaaGreatDoor.Lx
