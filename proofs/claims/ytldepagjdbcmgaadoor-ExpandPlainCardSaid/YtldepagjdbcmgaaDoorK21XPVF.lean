/- The parts of a text between blanks. -/
import Derived.Test.YtldepagjdbcmgaaDoorK21XPF
import Derived.Test.YtldepagjdbcmgaaDoorK21AmM3
import Derived.Test.YtldepagjdbcmgaaDoorK21AmM
import Derived.Test.YtldepagjdbcmgaaDoorK21AmR6
import Derived.Test.YtldepagjdbcmgaaDoorK21AmW
import Derived.Lib.SplitLaws
import Derived.Lib.CountLaws
import Derived.OpenShut
namespace Go.Proofs.YtldepagjdbcmgaaDoor.Qf
open Go Go.AM Go.ChangeShapes Go.ChangeAt Go.RowKit
set_option linter.unusedVariables false
set_option linter.unusedSimpArgs false
set_option maxRecDepth 100000
def blankI (n : Nat) : Bool := n == 32 || n == 9 || n == 10
def bl (b : UInt8) : Bool := blankI b.toNat
theorem blank_all : ∀ n : Fin 256, decide (Lib.indexByte [32, 9, 10] ((n.val : Int).toNat.toUInt8) ≥ 0) = blankI n.val := by decide +kernel
theorem blank_eq (k : Nat) (n : Nat) (h : n < 256) : quote_Blank.f k (n : Int) = some (blankI n) := by
  have := blank_all ⟨n, h⟩
  simp only [quote_Blank.f, pIndexByte.f, Option.bind_some]
  simp only at this
  rw [this]
theorem rblank_eq (k : Nat) (c : Nat) : millwrightref11_Blank.f k (c : Int) = some (blankI c) := by
  have e1 : ((c : Int) == 32) = (c == 32) := by simp only [Bool.beq_eq_decide_eq]; exact decide_eq_decide.2 (by omega)
  have e2 : ((c : Int) == 9) = (c == 9) := by simp only [Bool.beq_eq_decide_eq]; exact decide_eq_decide.2 (by omega)
  have e3 : ((c : Int) == 10) = (c == 10) := by simp only [Bool.beq_eq_decide_eq]; exact decide_eq_decide.2 (by omega)
  unfold millwrightref11_Blank.f
  rw [e1, e2, e3]; unfold blankI
  cases c == 32 <;> cases c == 9 <;> rfl
def fld : List UInt8 → List (List UInt8) → List UInt8 → List (List UInt8)
  | [], out, w => if w = [] then out else out ++ [w]
  | b :: t, out, w => if bl b then fld t (if w = [] then out else out ++ [w]) [] else fld t out (w ++ [b])
theorem rfields_loop (k : Nat) (s : List UInt8) (hs : s.length ≤ 100000) : ∀ (m i n : Nat) (v : Int) (out : List (List UInt8)) (w : List UInt8), v = (i : Int) → i + m = s.length → m + 1 < n → out.length ≤ i → w.length ≤ i →
    millwrightref11_Fields.l6 k s n out w v = some (fld (s.drop i) out w) := by
  intro m
  induction m with
  | zero =>
    intro i n v out w hv hi hn ho hw; obtain ⟨n, rfl⟩ : ∃ m, n = m + 2 := ⟨n - 2, by omega⟩; subst hv
    have hLIM : LIM = 4294967296 := rfl
    have w1 : IntKind.i64.wrap ((i : Int) + 1) = ((i + 1 : Nat) : Int) := by rw [w64 (by omega) (by omega)]; omega
    have hend : ∀ o x, millwrightref11_Fields.l6 k s (n + 1) o x ((i + 1 : Nat) : Int) = some o := fun o x => by
      unfold millwrightref11_Fields.l6; rw [if_neg (by simp; omega)]
    unfold millwrightref11_Fields.l6 millwrightref11_Fields.j23 millwrightref11_Fields.j18 millwrightref11_Fields.j15 millwrightref11_Fields.j13
    rw [if_pos (by simp; omega), if_neg (by simp; omega), if_neg (by simp), w1, List.drop_eq_nil_of_le (by omega), fld]
    by_cases hz : w = []
    · subst hz; rw [if_neg (by decide), if_pos rfl, hend]
    · have hp : 0 < w.length := List.length_pos_iff.2 hz
      rw [if_pos (by simp; omega), if_neg hz, if_pos (by simp; omega), hend]
  | succ m ih =>
    intro i n v out w hv hi hn ho hw; obtain ⟨n, rfl⟩ : ∃ m, n = m + 1 := ⟨n - 1, by omega⟩; subst hv
    have hLIM : LIM = 4294967296 := rfl
    have hlt : i < s.length := by omega
    have w1 : IntKind.i64.wrap ((i : Int) + 1) = ((i + 1 : Nat) : Int) := by rw [w64 (by omega) (by omega)]; omega
    have hsub : sub s (i : Int) ((i + 1 : Nat) : Int) = some [s[i]] := by
      rw [sub_at (a := i) (b := i + 1) rfl rfl (by omega) (by omega), List.drop_take, List.drop_eq_getElem_cons (i := i) (l := s) hlt, Nat.add_sub_cancel_left]
      rfl
    unfold millwrightref11_Fields.l6 millwrightref11_Fields.j23 millwrightref11_Fields.j18 millwrightref11_Fields.j15 millwrightref11_Fields.j13
    rw [if_pos (by simp; omega), if_pos (by simp; omega), idx_at rfl hlt, Option.bind_some, rblank_eq, Option.bind_some, w1, hsub, Option.bind_some, List.drop_eq_getElem_cons (i := i) (l := s) hlt, fld]
    unfold bl
    cases hb : blankI s[i].toNat with
    | true =>
      rw [if_neg (by simp), if_pos rfl]
      by_cases hz : w = []
      · subst hz; rw [if_neg (by decide), if_pos rfl]
        exact ih (i + 1) n _ out [] rfl (by omega) (by omega) (by omega) (by simp)
      · have hp : 0 < w.length := List.length_pos_iff.2 hz
        rw [if_pos (by simp; omega), if_neg hz, if_pos (by simp; omega)]
        exact ih (i + 1) n _ (out ++ [w]) [] rfl (by omega) (by omega) (by simp; omega) (by simp)
    | false =>
      rw [if_pos (by simp), if_pos (by simp; omega)]
      simp only [Bool.false_eq_true, if_false]
      exact ih (i + 1) n _ out (w ++ [s[i]]) rfl (by omega) (by omega) (by omega) (by simp; omega)

theorem rfields_eq (k : Nat) (s : List UInt8) (hs : s.length ≤ 100000) (hk : s.length + 1 < k) : millwrightref11_Fields.f k s = some (fld s [] []) := by
  unfold millwrightref11_Fields.f millwrightref11_Fields.j2
  have := rfields_loop k s hs s.length 0 k 0 [] [] rfl (by omega) hk (by simp) (by simp)
  rw [List.drop_zero] at this
  rw [this]; rfl

theorem same_loop (k : Nat) (l : List (List UInt8)) (hl : l.length ≤ 1000000) : ∀ (m i n : Nat) (v : Int), v = (i : Int) → i + m = l.length → m < n → millwrightnum_SameTexts.l4 k l l n v = some (.inl ()) := by
  intro m
  induction m with
  | zero =>
    intro i n v hv hi hn; obtain ⟨n, rfl⟩ : ∃ m, n = m + 1 := ⟨n - 1, by omega⟩; subst hv
    unfold millwrightnum_SameTexts.l4; rw [if_neg (by simp; omega)]
  | succ m ih =>
    intro i n v hv hi hn; obtain ⟨n, rfl⟩ : ∃ m, n = m + 1 := ⟨n - 1, by omega⟩; subst hv
    have w1 : IntKind.i64.wrap ((i : Int) + 1) = ((i + 1 : Nat) : Int) := by rw [w64 (by omega) (by omega)]; omega
    unfold millwrightnum_SameTexts.l4
    rw [if_pos (by simp; omega), idx_at rfl (by omega), Option.bind_some, Option.bind_some, w1, ih (i + 1) n _ rfl (by omega) (by omega)]
    simp
theorem same_eq (k : Nat) (l : List (List UInt8)) (hl : l.length ≤ 1000000) (hk : l.length < k) : millwrightnum_SameTexts.f k l l = some true := by
  unfold millwrightnum_SameTexts.f millwrightnum_SameTexts.j2
  rw [if_neg (by simp), same_loop k l hl l.length 0 k 0 rfl (by omega) hk]; rfl

theorem fld_len : ∀ (t : List UInt8) (out : List (List UInt8)) (w : List UInt8), (fld t out w).length ≤ out.length + t.length + 1
  | [], out, w => by unfold fld; split <;> simp
  | b :: t, out, w => by
    unfold fld
    have h1 := fld_len t (if w = [] then out else out ++ [w]) []
    have h2 := fld_len t out (w ++ [b])
    have h3 : (if w = [] then out else out ++ [w]).length ≤ out.length + 1 := by split <;> simp
    split <;> simp only [List.length_cons] <;> omega

end Go.Proofs.YtldepagjdbcmgaaDoor.Qf
