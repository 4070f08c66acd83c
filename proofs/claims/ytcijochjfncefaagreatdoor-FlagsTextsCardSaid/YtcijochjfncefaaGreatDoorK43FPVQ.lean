/- A part of a proof: FPVQ. -/
import Derived.Test.YtcijochjfncefaaGreatDoorK43FPVA
import Derived.Lib.SplitLaws
import Derived.Lib.CountLaws
import Derived.Lib.Join
import Derived.OpenShut
namespace Go.Proofs.YtcijochjfncefaaGreatDoor
open Go Go.AM Go.ChangeShapes Go.ChangeAt Go.RowKit
set_option linter.unusedVariables false
set_option linter.unusedSimpArgs false
set_option maxRecDepth 100000
def blankI (n : Nat) : Bool := n == 32 || n == 9 || n == 10
theorem blank_all : ∀ n : Fin 256, decide (Lib.indexByte [32, 9, 10] ((n.val : Int).toNat.toUInt8) ≥ 0) = blankI n.val := by decide +kernel
theorem blank_eq (k : Nat) (n : Nat) (h : n < 256) : quote_Blank.f k (n : Int) = some (blankI n) := by
  have := blank_all ⟨n, h⟩
  simp only [quote_Blank.f, pIndexByte.f, Option.bind_some]
  simp only at this
  rw [this]
def fe : List UInt8 → Option Nat
  | [] => none
  | [x] => if x = 39 then some 1 else none
  | x :: y :: r => if x = 39 then (if y = 39 then (fe r).map (· + 2) else some 1) else (fe (y :: r)).map (· + 1)
def feS (i : Nat) : Option Nat → Sum Unit Int
  | some q => .inr ((i + q : Nat) : Int)
  | none => .inl ()
def endAt (s : List UInt8) (a : Int) : Int := if 0 ≤ a ∧ a < s.length ∧ s[a.toNat]? = some 39 then (match fe (s.drop (a.toNat + 1)) with | some q => ((a.toNat + 1 + q : Nat) : Int) | none => -1) else -1

abbrev MS := List (List UInt8) × Nat × List UInt8
def bl (b : UInt8) : Bool := blankI b.toNat
def norm (b : UInt8) (out : List (List UInt8)) (st : Nat) (w : List UInt8) : MS :=
  if st = 2 then (if b = 39 then (out, 3, w) else (out, 2, w ++ [b]))
  else if bl b then (if st = 1 then (out ++ [w], 0, []) else (out, 0, w))
  else if b = 39 then (out, 2, w) else (out, 1, w ++ [b])
def stp (b : UInt8) (out : List (List UInt8)) (st : Nat) (w : List UInt8) : MS :=
  if st = 3 then (if b = 39 then (out, 2, w ++ [39]) else norm b out 1 w) else norm b out st w
def run : List UInt8 → List (List UInt8) → Nat → List UInt8 → MS
  | [], out, st, w => (out, st, w)
  | b :: t, out, st, w => run t (stp b out st w).1 (stp b out st w).2.1 (stp b out st w).2.2

def fin (r : MS) : List (List UInt8) × Int := if r.2.1 = 2 then ([], 5) else if r.2.1 ≠ 0 then (r.1 ++ [r.2.2], 0) else (r.1, 0)

inductive Dbl : List UInt8 → List UInt8 → Prop
  | nil : Dbl [] []
  | ch {x : UInt8} {c u : List UInt8} : x ≠ 39 → Dbl c u → Dbl (x :: c) (x :: u)
  | qq {c u : List UInt8} : Dbl c u → Dbl (39 :: 39 :: c) (39 :: u)

theorem Dbl.len {c u : List UInt8} (h : Dbl c u) : u.length ≤ c.length := by
  induction h with
  | nil => simp
  | ch _ _ ih => simpa using ih
  | qq _ ih => simp; omega

def sk : List UInt8 → Nat
  | [] => 0
  | b :: t => if bl b then sk t + 1 else 0
theorem pReplace_eq (k : Nat) (s old new : List UInt8) (hs : s.length ≤ 100000) (ho : 1 ≤ old.length) (hn : new.length ≤ 100000) : pReplaceAll.f k s old new = some (Lib.replaceAll s old new) := by
  unfold pReplaceAll.f
  have h1 := Lib.countB_le ⟨old.toArray⟩ (by show 1 ≤ old.toArray.size; simpa using ho) _ ⟨s.toArray⟩ (Nat.le_refl _)
  have h2 : (⟨s.toArray⟩ : ByteArray).size = s.length := by show s.toArray.size = _; simp
  rw [h2] at h1
  have h3 : Lib.countB ⟨s.toArray⟩ ⟨old.toArray⟩ * new.length ≤ 100000 * 100000 := Nat.mul_le_mul (by omega) hn
  rw [if_pos ⟨by omega, ho, by omega⟩]

def spl (r : MS) : Sum (List (List UInt8)) (List (List UInt8) × Nat) := if r.2.1 = 2 then .inr ([], 5) else .inl (fin r).1

def splN (r : MS) : List (List UInt8) × Nat := if r.2.1 = 2 then ([], 5) else ((fin r).1, 0)

def badL : List UInt8 := [39, 32, 9, 10, 35, 36, 96, 58, 61, 60, 92, 59, 38, 124, 40, 41, 123, 125, 91, 93, 42, 63, 94, 126]

theorem bad_all : ∀ n : Fin 256, (blankI n.val || (n.val == 39) || decide (Lib.indexByte [35, 36, 96, 58, 61, 60, 92, 59, 38, 124, 40, 41, 123, 125, 91, 93, 42, 63, 94, 126] ((n.val : Int).toNat.toUInt8) ≥ 0)) = badL.contains n.val.toUInt8 := by decide +kernel

theorem plain_loop (k : Nat) (s : List UInt8) (hs : s.length ≤ 1000000000) : ∀ (m i n : Nat) (v : Int), v = (i : Int) → i + m = s.length → m < n →
    quote_Plain.l3 k s n v = some (if (s.drop i).any badL.contains then .inr false else .inl ()) := by
  intro m
  induction m with
  | zero =>
    intro i n v hv hi hn; obtain ⟨n, rfl⟩ : ∃ m, n = m + 1 := ⟨n - 1, by omega⟩; subst hv
    unfold quote_Plain.l3
    rw [if_neg (by simp; omega), List.drop_eq_nil_of_le (by omega)]; simp
  | succ m ih =>
    intro i n v hv hi hn; obtain ⟨n, rfl⟩ : ∃ m, n = m + 1 := ⟨n - 1, by omega⟩; subst hv
    have hlt : s[i].toNat < 256 := s[i].toNat_lt
    have hb := bad_all ⟨s[i].toNat, hlt⟩
    have e0 : s[i].toNat.toUInt8 = s[i] := by simp
    simp only [e0] at hb
    unfold quote_Plain.l3
    rw [if_pos (by simp; omega), idx_at rfl (by omega), Option.bind_some, Option.bind_some, Option.bind_some, blank_eq k _ hlt, Option.bind_some, List.drop_eq_getElem_cons (by omega), List.any_cons]
    simp only [pIndexByte.f, Option.bind_some]
    unfold quote_Plain.j10 quote_Plain.j7
    rw [w64 (by omega) (by omega), ih (i + 1) n _ (by omega) (by omega) (by omega)]
    cases h1 : blankI s[i].toNat with
    | true => rw [h1] at hb; simp only [Bool.true_or] at hb; rw [← hb]; simp
    | false =>
      rw [h1] at hb
      by_cases h2 : s[i].toNat = 39
      · have e : ((s[i].toNat : Int) == 39) = true := by rw [h2]; rfl
        have e' : (s[i].toNat == 39) = true := by rw [h2]; rfl
        rw [e'] at hb
        rw [← hb, e]; simp
      · have e : ((s[i].toNat : Int) == 39) = false := by rw [beq_eq_false_iff_ne]; omega
        have e' : (s[i].toNat == 39) = false := by rw [beq_eq_false_iff_ne]; omega
        rw [e', Bool.false_or, Bool.false_or] at hb
        rw [← hb, e]
        simp only [Bool.false_eq_true, if_false]
        cases decide (Lib.indexByte [35, 36, 96, 58, 61, 60, 92, 59, 38, 124, 40, 41, 123, 125, 91, 93, 42, 63, 94, 126] ((s[i].toNat : Int).toNat.toUInt8) ≥ 0) <;> simp

theorem plain_eq (k : Nat) (s : List UInt8) (hs : s.length ≤ 1000000000) (hk : s.length < k) : quote_Plain.f k s = some (!(s.any badL.contains) && !(s == [])) := by
  unfold quote_Plain.f quote_Plain.j1
  rw [plain_loop k s hs s.length 0 k 0 rfl (by omega) hk, Option.bind_some, List.drop_zero]
  cases s.any badL.contains <;> simp

def dbl (c : UInt8) : List UInt8 := if c = 39 then [39, 39] else [c]

theorem dbl_free : ∀ {a : List UInt8}, (39 : UInt8) ∉ a → a.flatMap dbl = a
  | [], _ => rfl
  | x :: a, h => by
    simp at h
    rw [List.flatMap_cons, dbl_free h.2, dbl, if_neg (fun e => h.1 e.symm)]; rfl

theorem replaceK_dbl : ∀ (k : Nat) (s : List UInt8), s.count 39 ≤ k → Lib.replaceK [39] [39, 39] k s = s.flatMap dbl
  | 0, s, h => by
    have : (39 : UInt8) ∉ s := List.count_eq_zero.1 (by omega)
    rw [dbl_free this]; rfl
  | k + 1, s, h => by
    unfold Lib.replaceK
    rw [Lib.index_one]
    rcases index_cases 39 s with ⟨h1, h2⟩ | ⟨a, b, h1, h2, h3⟩
    · rw [h2, dbl_free h1]; rfl
    · have hc : b.count 39 ≤ k := by rw [h1, List.count_append, List.count_cons_self] at h; omega
      rw [h3, if_neg (by simp)]
      have e1 : ((a.length : Nat) : Int).toNat = a.length := by simp
      rw [e1, h1]
      have e2 : (a ++ 39 :: b).drop (a.length + ([39] : List UInt8).length) = b := by simp
      rw [e2, replaceK_dbl k b hc, List.flatMap_append, List.flatMap_cons, dbl_free h2]
      simp [dbl]

theorem replaceAll_dbl (s : List UInt8) : Lib.replaceAll s [39] [39, 39] = s.flatMap dbl := by
  unfold Lib.replaceAll Lib.replace
  rw [if_neg (by decide)]
  exact replaceK_dbl _ _ (by unfold Lib.replaceNum; rw [if_pos (by omega), Lib.count_one]; omega)

theorem dbl_length (s : List UInt8) : (s.flatMap dbl).length ≤ 2 * s.length := by
  induction s with
  | nil => simp
  | cons x s ih => rw [List.flatMap_cons, List.length_append, List.length_cons]; have : (dbl x).length ≤ 2 := by unfold dbl; split <;> simp
                   omega

def quo (s : List UInt8) : List UInt8 := if !(s.any badL.contains) && !(s == []) then s else [39] ++ s.flatMap dbl ++ [39]

theorem quote_eq (k : Nat) (s : List UInt8) (hs : s.length ≤ 100000) (hk : s.length < k) : quote_Quote.f k s = some (quo s) := by
  unfold quote_Quote.f quo
  rw [plain_eq k s (by omega) hk, Option.bind_some]
  have := dbl_length s
  split
  · rfl
  · rw [pReplace_eq k s _ _ hs (by simp) (by simp), Option.bind_some, replaceAll_dbl, if_pos (by simp only [List.length_append, List.length_cons, List.length_nil]; omega), if_pos (by simp only [List.length_append, List.length_cons, List.length_nil]; omega)]


end Go.Proofs.YtcijochjfncefaaGreatDoor
