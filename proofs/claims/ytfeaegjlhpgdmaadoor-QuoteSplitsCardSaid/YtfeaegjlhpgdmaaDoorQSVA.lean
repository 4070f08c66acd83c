/- A part of the proof of a given law: QSVA. Own work, printed in part by a program of mine. -/
import Derived.Test.YtfeaegjlhpgdmaaDoorQSF
import Derived.Test.YtfeaegjlhpgdmaaDoorAmQ
import Derived.Lib.SplitLaws
import Derived.Lib.CountLaws
import Derived.OpenShut
namespace Go.Proofs.YtfeaegjlhpgdmaaDoor
open Go Go.AM Go.ChangeShapes Go.ChangeAt Go.RowKit
set_option linter.unusedVariables false
set_option linter.unusedSimpArgs false
theorem alive_eq : millwrightlaw11_alive.f 400 = some true := by decide +kernel

def blankI (n : Nat) : Bool := n == 32 || n == 9 || n == 10
theorem blank_all : ∀ n : Fin 256, decide (Lib.indexByte [32, 9, 10] ((n.val : Int).toNat.toUInt8) ≥ 0) = blankI n.val := by decide +kernel
theorem blank_eq (k : Nat) (n : Nat) (h : n < 256) : quote_Blank.f k (n : Int) = some (blankI n) := by
  have := blank_all ⟨n, h⟩
  simp only [quote_Blank.f, strings_IndexByte.f, pIndexByte.f, Option.bind_some]
  simp only at this
  rw [this]
theorem rblank_eq (k : Nat) (c : Nat) : millwrightref11_Blank.f k (c : Int) = some (blankI c) := by
  have e1 : ((c : Int) == 32) = (c == 32) := by simp only [Bool.beq_eq_decide_eq]; exact decide_eq_decide.2 (by omega)
  have e2 : ((c : Int) == 9) = (c == 9) := by simp only [Bool.beq_eq_decide_eq]; exact decide_eq_decide.2 (by omega)
  have e3 : ((c : Int) == 10) = (c == 10) := by simp only [Bool.beq_eq_decide_eq]; exact decide_eq_decide.2 (by omega)
  unfold millwrightref11_Blank.f
  rw [e1, e2, e3]; unfold blankI
  cases c == 32 <;> cases c == 9 <;> rfl
theorem q39 (a : UInt8) : ((a.toNat : Int) == 39) = (a == 39) := u8_eq (b := 39)
theorem q39' (a : UInt8) : ((a.toNat : Int) != 39) = (a != 39) := by simp only [bne, q39]

/-! ### where a quoted part ends -/
def fe : List UInt8 → Option Nat
  | [] => none
  | [x] => if x = 39 then some 1 else none
  | x :: y :: r => if x = 39 then (if y = 39 then (fe r).map (· + 2) else some 1) else (fe (y :: r)).map (· + 1)
theorem fe_ne {x : UInt8} {r : List UInt8} (h : x ≠ 39) : fe (x :: r) = (fe r).map (· + 1) := by
  cases r with
  | nil => simp [fe, h]
  | cons y r => rw [fe, if_neg h]
theorem fe_two (r : List UInt8) : fe (39 :: 39 :: r) = (fe r).map (· + 2) := by rw [fe, if_pos rfl, if_pos rfl]
theorem fe_one {r : List UInt8} (h : r.head? ≠ some 39) : fe (39 :: r) = some 1 := by
  cases r with
  | nil => rfl
  | cons y r => rw [fe, if_pos rfl, if_neg (by simpa using h)]

def feS (i : Nat) : Option Nat → Sum Unit Int
  | some q => .inr ((i + q : Nat) : Int)
  | none => .inl ()
theorem feS_map (i j : Nat) (o : Option Nat) : feS i (o.map (· + j)) = feS (i + j) o := by
  cases o with
  | none => rfl
  | some q => simp only [Option.map_some, feS]; congr 2; omega

theorem end_loop (k : Nat) (s : List UInt8) (hs : s.length ≤ 100000) : ∀ (m i n : Nat) (v : Int), v = (i : Int) → i + m = s.length → m < n → quote_End.l3 k s n v = some (feS i (fe (s.drop i))) := by
  intro m
  induction m using Nat.strongRecOn with
  | _ m ih =>
    intro i n v hv hi hn; obtain ⟨n, rfl⟩ : ∃ m, n = m + 1 := ⟨n - 1, by omega⟩; subst hv
    unfold quote_End.l3
    by_cases hm : m = 0
    · rw [if_neg (by simp; omega), List.drop_eq_nil_of_le (by omega)]; rfl
    have hlt : i < s.length := by omega
    rw [if_pos (by simp; omega), idx_at rfl hlt, Option.bind_some, q39', List.drop_eq_getElem_cons (i := i) (l := s) hlt]
    unfold quote_End.j13 quote_End.j8
    have w1 : IntKind.i64.wrap ((i : Int) + 1) = ((i + 1 : Nat) : Int) := by rw [w64 (by omega) (by omega)]; omega
    have w2 : IntKind.i64.wrap (((i + 1 : Nat) : Int) + 1) = ((i + 2 : Nat) : Int) := by rw [w64 (by omega) (by omega)]; omega
    rw [w1, w2]
    by_cases h : s[i] = 39
    · rw [if_neg (by simp [h]), h]
      by_cases h2 : i + 1 < s.length
      · rw [if_pos (by simp; omega), idx_at rfl h2, Option.bind_some, q39, List.drop_eq_getElem_cons (i := i + 1) (l := s) h2]
        by_cases h3 : s[i + 1] = 39
        · rw [if_pos (by simp [h3]), ih (m - 2) (by omega) (i + 2) n _ rfl (by omega) (by omega), h3, fe_two, feS_map]
        · rw [if_neg (by simp [h3]), fe_one (by rw [List.head?_cons]; intro e; exact h3 (Option.some.inj e))]; rfl
      · rw [if_neg (by simp; omega), if_neg (by decide), List.drop_eq_nil_of_le (by omega)]; rfl
    · rw [if_pos (by simp [h]), ih (m - 1) (by omega) (i + 1) n _ rfl (by omega) (by omega), fe_ne h, feS_map]

theorem rend_loop (k : Nat) (s : List UInt8) (hs : s.length ≤ 100000) : ∀ (m i n : Nat) (v : Int), v = (i : Int) → i + m = s.length → m < n → millwrightref11_End.l3 k s n v = some (feS i (fe (s.drop i))) := by
  intro m
  induction m using Nat.strongRecOn with
  | _ m ih =>
    intro i n v hv hi hn; obtain ⟨n, rfl⟩ : ∃ m, n = m + 1 := ⟨n - 1, by omega⟩; subst hv
    unfold millwrightref11_End.l3
    by_cases hm : m = 0
    · rw [if_neg (by simp; omega), List.drop_eq_nil_of_le (by omega)]; rfl
    have hlt : i < s.length := by omega
    have w1 : IntKind.i64.wrap ((i : Int) + 1) = ((i + 1 : Nat) : Int) := by rw [w64 (by omega) (by omega)]; omega
    have w2 : IntKind.i64.wrap (((i + 1 : Nat) : Int) + 1) = ((i + 2 : Nat) : Int) := by rw [w64 (by omega) (by omega)]; omega
    have w3 : IntKind.i64.wrap ((s.length : Int) - 1) = (s.length : Int) - 1 := w64 (by omega) (by omega)
    rw [if_pos (by simp; omega), List.drop_eq_getElem_cons (i := i) (l := s) hlt]
    unfold millwrightref11_End.j14 millwrightref11_End.j11 millwrightref11_End.j8
    simp only [w1, w2, w3, idx_at rfl hlt, Option.bind_some, q39, q39']
    by_cases h : s[i] = 39
    · rw [if_pos (by simp [h]), h]
      by_cases h2 : i + 1 < s.length
      · rw [if_neg (by simp; omega), idx_at rfl h2, Option.bind_some, List.drop_eq_getElem_cons (i := i + 1) (l := s) h2]
        by_cases h3 : s[i + 1] = 39
        · rw [if_neg (by simp [h3]), if_pos (by decide), ih (m - 2) (by omega) (i + 2) n _ rfl (by omega) (by omega), h3, fe_two, feS_map]
        · rw [if_pos (by simp [h3]), fe_one (by rw [List.head?_cons]; intro e; exact h3 (Option.some.inj e))]; rfl
      · rw [if_pos (by simp; omega), if_pos trivial, List.drop_eq_nil_of_le (by omega)]; rfl
    · rw [if_neg (by simp [h]), if_neg (by decide), if_neg (by simp [h]), ih (m - 1) (by omega) (i + 1) n _ rfl (by omega) (by omega), fe_ne h, feS_map]

def endAt (s : List UInt8) (a : Int) : Int := if 0 ≤ a ∧ a < s.length ∧ s[a.toNat]? = some 39 then (match fe (s.drop (a.toNat + 1)) with | some q => ((a.toNat + 1 + q : Nat) : Int) | none => -1) else -1

theorem end_eq (k : Nat) (s : List UInt8) (a : Int) (hs : s.length ≤ 100000) (hk : s.length < k) : quote_End.f k s a = some (endAt s a) := by
  unfold quote_End.f endAt quote_End.j21 quote_End.j18 quote_End.j1
  by_cases h1 : a < 0
  · rw [if_pos (by simpa using h1), if_pos rfl, if_neg (by omega)]
  by_cases h2 : a ≥ s.length
  · rw [if_neg (by simpa using h1), if_pos (by simpa using h2), if_pos rfl, if_neg (by omega)]
  obtain ⟨i, rfl⟩ : ∃ i : Nat, a = i := ⟨a.toNat, by omega⟩
  have hlt : i < s.length := by omega
  have e : (i : Int).toNat = i := by simp
  rw [if_neg (by simp), if_neg (by simpa using h2), idx_at rfl hlt, Option.bind_some, q39', e, List.getElem?_eq_getElem hlt]
  by_cases h3 : s[i] = 39
  · have w1 : IntKind.i64.wrap ((i : Int) + 1) = ((i + 1 : Nat) : Int) := by rw [w64 (by omega) (by omega)]; omega
    rw [if_neg (by simp [h3]), w1, end_loop k s hs (s.length - (i + 1)) (i + 1) k _ rfl (by omega) (by omega), Option.bind_some, if_pos ⟨by omega, by omega, by rw [h3]⟩]
    cases fe (s.drop (i + 1)) <;> rfl
  · rw [if_pos (by simp [h3]), if_neg (by simp [h3])]

theorem rend_eq (k : Nat) (s : List UInt8) (a : Int) (hs : s.length ≤ 100000) (hk : s.length < k) : millwrightref11_End.f k s a = some (endAt s a) := by
  unfold millwrightref11_End.f endAt millwrightref11_End.j24 millwrightref11_End.j21 millwrightref11_End.j1
  by_cases h1 : a < 0
  · rw [if_pos (by simpa using h1), if_pos rfl, if_neg (by omega)]
  by_cases h2 : a ≥ s.length
  · rw [if_neg (by simpa using h1), if_pos (by simpa using h2), if_pos rfl, if_neg (by omega)]
  obtain ⟨i, rfl⟩ : ∃ i : Nat, a = i := ⟨a.toNat, by omega⟩
  have hlt : i < s.length := by omega
  have e : (i : Int).toNat = i := by simp
  rw [if_neg (by simp), if_neg (by simpa using h2), idx_at rfl hlt, Option.bind_some, q39', e, List.getElem?_eq_getElem hlt]
  by_cases h3 : s[i] = 39
  · have w1 : IntKind.i64.wrap ((i : Int) + 1) = ((i + 1 : Nat) : Int) := by rw [w64 (by omega) (by omega)]; omega
    rw [if_neg (by simp [h3]), w1, rend_loop k s hs (s.length - (i + 1)) (i + 1) k _ rfl (by omega) (by omega), Option.bind_some, if_pos ⟨by omega, by omega, by rw [h3]⟩]
    cases fe (s.drop (i + 1)) <;> rfl
  · rw [if_pos (by simp [h3]), if_neg (by simp [h3])]
end Go.Proofs.YtfeaegjlhpgdmaaDoor
