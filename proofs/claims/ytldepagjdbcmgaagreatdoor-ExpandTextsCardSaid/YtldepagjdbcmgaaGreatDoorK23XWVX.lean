/- A text's bytes, and where quoted parts end. -/
import Derived.Test.YtldepagjdbcmgaaGreatDoorK23XWF
import Derived.Test.YtldepagjdbcmgaaGreatDoorK23AmM3
import Derived.Test.YtldepagjdbcmgaaGreatDoorK23AmM
import Derived.Test.YtldepagjdbcmgaaGreatDoorK23AmR6
import Derived.Test.YtldepagjdbcmgaaGreatDoorK23AmW
import Derived.Lib.SplitLaws
import Derived.Lib.CountLaws
import Derived.OpenShut
namespace Go.Proofs.YtldepagjdbcmgaaGreatDoor.Lx
open Go Go.AM Go.ChangeShapes Go.ChangeAt Go.RowKit
set_option linter.unusedVariables false
set_option linter.unusedSimpArgs false
set_option maxRecDepth 100000
def blankI (n : Nat) : Bool := n == 32 || n == 9 || n == 10
def bl (b : UInt8) : Bool := blankI b.toNat
theorem blank_all : ∀ n : Fin 256, decide (Lib.indexByte [32, 9, 10] ((n.val : Int).toNat.toUInt8) ≥ 0) = blankI n.val := by decide +kernel
theorem blank_eq (k : Nat) (n : Nat) (h : n < 256) : quote_Blank.f k (n : Int) = some (blankI n) := by
  have := blank_all ⟨n, h⟩
  simp only [quote_Blank.f, pIndexByte.f, Option.bind_some]
  simp only at this
  rw [this]
theorem q39 (a : UInt8) : ((a.toNat : Int) == 39) = (a == 39) := u8_eq (b := 39)
theorem q39' (a : UInt8) : ((a.toNat : Int) != 39) = (a != 39) := by simp only [bne, q39]

def fe : List UInt8 → Option Nat
  | [] => none
  | [x] => if x = 39 then some 1 else none
  | x :: y :: r => if x = 39 then (if y = 39 then (fe r).map (· + 2) else some 1) else (fe (y :: r)).map (· + 1)
theorem fe_ne {x : UInt8} {r : List UInt8} (h : x ≠ 39) : fe (x :: r) = (fe r).map (· + 1) := by
  cases r with
  | nil => simp [fe, h]
  | cons y r => rw [fe, if_neg h]
theorem fe_two (r : List UInt8) : fe (39 :: 39 :: r) = (fe r).map (· + 2) := by rw [fe, if_pos rfl, if_pos rfl]
theorem fe_one {r : List UInt8} (h : r.head? ≠ some 39) : fe (39 :: r) = some 1 := by
  cases r with
  | nil => rfl
  | cons y r => rw [fe, if_pos rfl, if_neg (by simpa using h)]

def feS (i : Nat) : Option Nat → Sum Unit Int
  | some q => .inr ((i + q : Nat) : Int)
  | none => .inl ()
theorem feS_map (i j : Nat) (o : Option Nat) : feS i (o.map (· + j)) = feS (i + j) o := by
  cases o with
  | none => rfl
  | some q => simp only [Option.map_some, feS]; congr 2; omega

theorem end_loop (k : Nat) (s : List UInt8) (hs : s.length ≤ 100000) : ∀ (m i n : Nat) (v : Int), v = (i : Int) → i + m = s.length → m < n → quote_End.l3 k s n v = some (feS i (fe (s.drop i))) := by
  intro m
  induction m using Nat.strongRecOn with
  | _ m ih =>
    intro i n v hv hi hn; obtain ⟨n, rfl⟩ : ∃ m, n = m + 1 := ⟨n - 1, by omega⟩; subst hv
    unfold quote_End.l3
    by_cases hm : m = 0
    · rw [if_neg (by simp; omega), List.drop_eq_nil_of_le (by omega)]; rfl
    have hlt : i < s.length := by omega
    rw [if_pos (by simp; omega), idx_at rfl hlt, Option.bind_some, q39', List.drop_eq_getElem_cons (i := i) (l := s) hlt]
    unfold quote_End.j13 quote_End.j8
    have w1 : IntKind.i64.wrap ((i : Int) + 1) = ((i + 1 : Nat) : Int) := by rw [w64 (by omega) (by omega)]; omega
    have w2 : IntKind.i64.wrap (((i + 1 : Nat) : Int) + 1) = ((i + 2 : Nat) : Int) := by rw [w64 (by omega) (by omega)]; omega
    rw [w1, w2]
    by_cases h : s[i] = 39
    · rw [if_neg (by simp [h]), h]
      by_cases h2 : i + 1 < s.length
      · rw [if_pos (by simp; omega), idx_at rfl h2, Option.bind_some, q39, List.drop_eq_getElem_cons (i := i + 1) (l := s) h2]
        by_cases h3 : s[i + 1] = 39
        · rw [if_pos (by simp [h3]), ih (m - 2) (by omega) (i + 2) n _ rfl (by omega) (by omega), h3, fe_two, feS_map]
        · rw [if_neg (by simp [h3]), fe_one (by rw [List.head?_cons]; intro e; exact h3 (Option.some.inj e))]; rfl
      · rw [if_neg (by simp; omega), if_neg (by decide), List.drop_eq_nil_of_le (by omega)]; rfl
    · rw [if_pos (by simp [h]), ih (m - 1) (by omega) (i + 1) n _ rfl (by omega) (by omega), fe_ne h, feS_map]

def endAt (s : List UInt8) (a : Int) : Int := if 0 ≤ a ∧ a < s.length ∧ s[a.toNat]? = some 39 then (match fe (s.drop (a.toNat + 1)) with | some q => ((a.toNat + 1 + q : Nat) : Int) | none => -1) else -1

theorem end_eq (k : Nat) (s : List UInt8) (a : Int) (hs : s.length ≤ 100000) (hk : s.length < k) : quote_End.f k s a = some (endAt s a) := by
  unfold quote_End.f endAt quote_End.j21 quote_End.j18 quote_End.j1
  by_cases h1 : a < 0
  · rw [if_pos (by simpa using h1), if_pos rfl, if_neg (by omega)]
  by_cases h2 : a ≥ s.length
  · rw [if_neg (by simpa using h1), if_pos (by simpa using h2), if_pos rfl, if_neg (by omega)]
  obtain ⟨i, rfl⟩ : ∃ i : Nat, a = i := ⟨a.toNat, by omega⟩
  have hlt : i < s.length := by omega
  have e : (i : Int).toNat = i := by simp
  rw [if_neg (by simp), if_neg (by simpa using h2), idx_at rfl hlt, Option.bind_some, q39', e, List.getElem?_eq_getElem hlt]
  by_cases h3 : s[i] = 39
  · have w1 : IntKind.i64.wrap ((i : Int) + 1) = ((i + 1 : Nat) : Int) := by rw [w64 (by omega) (by omega)]; omega
    rw [if_neg (by simp [h3]), w1, end_loop k s hs (s.length - (i + 1)) (i + 1) k _ rfl (by omega) (by omega), Option.bind_some, if_pos ⟨by omega, by omega, by rw [h3]⟩]
    cases fe (s.drop (i + 1)) <;> rfl
  · rw [if_pos (by simp [h3]), if_neg (by simp [h3])]

inductive Dbl : List UInt8 → List UInt8 → Prop
  | nil : Dbl [] []
  | ch {x : UInt8} {c u : List UInt8} : x ≠ 39 → Dbl c u → Dbl (x :: c) (x :: u)
  | qq {c u : List UInt8} : Dbl c u → Dbl (39 :: 39 :: c) (39 :: u)

theorem Dbl.cases' {c u : List UInt8} (h : Dbl c u) : (u = c ∧ Lib.index c [39, 39] = -1) ∨ ∃ a c' u', c = a ++ 39 :: 39 :: c' ∧ u = a ++ 39 :: u' ∧ Dbl c' u' ∧ Lib.index c [39, 39] = (a.length : Int) := by
  induction h with
  | nil => exact .inl ⟨rfl, rfl⟩
  | @ch x c u hx _ ih =>
    have hp : ([39, 39] : List UInt8).isPrefixOf (x :: c) = false := by
      simp only [List.isPrefixOf, Bool.and_eq_false_iff, beq_eq_false_iff_ne]
      exact .inl fun e => hx e.symm
    rcases ih with ⟨rfl, h2⟩ | ⟨a, c', u', rfl, rfl, h3, h4⟩
    · left
      refine ⟨rfl, ?_⟩
      unfold Lib.index
      rw [hp, h2]; rfl
    · right
      refine ⟨x :: a, c', u', rfl, rfl, h3, ?_⟩
      unfold Lib.index
      rw [hp, h4, if_neg (by decide), if_neg (by simp)]
      simp
  | @qq c u h _ =>
    right
    refine ⟨[], c, u, rfl, rfl, h, ?_⟩
    unfold Lib.index
    rw [if_pos (by simp [List.isPrefixOf])]; rfl

theorem replaceK_un : ∀ (k : Nat) (c u : List UInt8), Dbl c u → Lib.count c [39, 39] ≤ k → Lib.replaceK [39, 39] [39] k c = u
  | 0, c, u, h, hc => by
    rcases h.cases' with ⟨rfl, _⟩ | ⟨a, c', u', rfl, rfl, h3, h4⟩
    · rfl
    · rw [Lib.count_hit (by simp) h4] at hc; omega
  | k + 1, c, u, h, hc => by
    unfold Lib.replaceK
    rcases h.cases' with ⟨rfl, h2⟩ | ⟨a, c', u', rfl, rfl, h3, h4⟩
    · rw [h2]; rfl
    · have e2 : (a ++ 39 :: 39 :: c').drop (a.length + ([39, 39] : List UInt8).length) = c' := by simp
      rw [Lib.count_hit (by simp) h4, e2] at hc
      have e1 : ((a.length : Nat) : Int).toNat = a.length := by simp
      rw [h4, if_neg (by simp), e1, e2, replaceK_un k c' u' h3 (by omega)]
      simp

theorem replaceAll_un {c u : List UInt8} (h : Dbl c u) : Lib.replaceAll c [39, 39] [39] = u := by
  unfold Lib.replaceAll Lib.replace
  rw [if_neg (by decide)]
  exact replaceK_un _ _ _ h (by unfold Lib.replaceNum; rw [if_pos (by omega)]; omega)

theorem Dbl.len {c u : List UInt8} (h : Dbl c u) : u.length ≤ c.length := by
  induction h with
  | nil => simp
  | ch _ _ ih => simpa using ih
  | qq _ ih => simp; omega

theorem pReplace_eq (k : Nat) (s old new : List UInt8) (hs : s.length ≤ 100000) (ho : 1 ≤ old.length) (hn : new.length ≤ 100000) : pReplaceAll.f k s old new = some (Lib.replaceAll s old new) := by
  unfold pReplaceAll.f
  have h1 := Lib.countB_le ⟨old.toArray⟩ (by show 1 ≤ old.toArray.size; simpa using ho) _ ⟨s.toArray⟩ (Nat.le_refl _)
  have h2 : (⟨s.toArray⟩ : ByteArray).size = s.length := by show s.toArray.size = _; simp
  rw [h2] at h1
  have h3 : Lib.countB ⟨s.toArray⟩ ⟨old.toArray⟩ * new.length ≤ 100000 * 100000 := Nat.mul_le_mul (by omega) hn
  rw [if_pos ⟨by omega, ho, by omega⟩]

abbrev Pc := T_lex_Piece
theorem pc_eta (p : Pc) : T_lex_Piece.mk p.f_Kind p.f_Text p.f_From p.f_To = p := by cases p; rfl
def okP (p : Pc) : Prop := p.f_Text.length ≤ 100 ∧ p.f_From.length ≤ 100 ∧ p.f_To.length ≤ 100

theorem at_drop {α : Type} {l r : List α} {i : Nat} {x : α} (h : l.drop i = x :: r) : idx l (i : Int) = some x ∧ l.drop (i + 1) = r ∧ i < l.length := by
  have hi : i < l.length := by
    rcases Nat.lt_or_ge i l.length with h' | h'
    · exact h'
    · rw [List.drop_of_length_le h'] at h; cases h
  rw [List.drop_eq_getElem_cons hi] at h
  injection h with h1 h2
  exact ⟨by rw [idx_at rfl hi, h1], h2, hi⟩
theorem at_nil {α : Type} {l : List α} {i : Nat} (h : l.drop i = []) : l.length ≤ i := by
  have := congrArg List.length h
  simp at this; omega
theorem wr1 {i : Nat} (h : i < 1000000) : IntKind.i64.wrap ((i : Int) + 1) = ((i + 1 : Nat) : Int) := by rw [w64 (by omega) (by omega)]; rfl

def peq (x y : Pc) : Bool := x.f_Kind == y.f_Kind && (x.f_Text == y.f_Text && (x.f_From == y.f_From && (x.f_To == y.f_To && true)))
def allEq {α : Type} (p : α → α → Bool) : List α → List α → Bool
  | x :: xs, y :: ys => p x y && allEq p xs ys
  | _, _ => true
def eqL {α : Type} (p : α → α → Bool) (a b : List α) : Bool := decide (a.length = b.length) && allEq p a b
def dbl (c : UInt8) : List UInt8 := if c = 39 then [39, 39] else [c]

theorem index_cases (c : UInt8) : ∀ l : List UInt8, (c ∉ l ∧ Lib.indexByte l c = -1) ∨ ∃ a b, l = a ++ c :: b ∧ c ∉ a ∧ Lib.indexByte l c = (a.length : Int)
  | [] => .inl ⟨by simp, rfl⟩
  | x :: l => by
    unfold Lib.indexByte
    by_cases h : x = c
    · subst h; exact .inr ⟨[], l, rfl, by simp, by simp⟩
    · rw [if_neg (by simpa using h)]
      rcases index_cases c l with ⟨h1, h2⟩ | ⟨a, b, h1, h2, h3⟩
      · left; rw [h2]; exact ⟨by simp; exact ⟨fun e => h e.symm, h1⟩, by simp⟩
      · right; refine ⟨x :: a, b, by simp [h1], by simp; exact ⟨fun e => h e.symm, h2⟩, ?_⟩
        rw [h3, if_neg (by simp)]; simp

theorem dbl_length (s : List UInt8) : (s.flatMap dbl).length ≤ 2 * s.length := by
  induction s with
  | nil => simp
  | cons x s ih => rw [List.flatMap_cons, List.length_append, List.length_cons]; have : (dbl x).length ≤ 2 := by unfold dbl; split <;> simp
                   omega
end Go.Proofs.YtldepagjdbcmgaaGreatDoor.Lx
