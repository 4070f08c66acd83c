/- The parts of a text between blanks. -/
import Derived.Test.YtldepagjdbcmgaaGreatDoorK23XWF
import Derived.Test.YtldepagjdbcmgaaGreatDoorK23AmM3
import Derived.Test.YtldepagjdbcmgaaGreatDoorK23AmM
import Derived.Test.YtldepagjdbcmgaaGreatDoorK23AmR6
import Derived.Test.YtldepagjdbcmgaaGreatDoorK23AmW
import Derived.Lib.SplitLaws
import Derived.Lib.CountLaws
import Derived.OpenShut
namespace Go.Proofs.YtldepagjdbcmgaaGreatDoor.Qf
open Go Go.AM Go.ChangeShapes Go.ChangeAt Go.RowKit
set_option linter.unusedVariables false
set_option linter.unusedSimpArgs false
set_option maxRecDepth 100000
def blankI (n : Nat) : Bool := n == 32 || n == 9 || n == 10
def bl (b : UInt8) : Bool := blankI b.toNat
theorem blank_all : ∀ n : Fin 256, decide (Lib.indexByte [32, 9, 10] ((n.val : Int).toNat.toUInt8) ≥ 0) = blankI n.val := by decide +kernel
theorem blank_eq (k : Nat) (n : Nat) (h : n < 256) : quote_Blank.f k (n : Int) = some (blankI n) := by
  have := blank_all ⟨n, h⟩
  simp only [quote_Blank.f, pIndexByte.f, Option.bind_some]
  simp only at this
  rw [this]
theorem rblank_eq (k : Nat) (c : Nat) : millwrightref11_Blank.f k (c : Int) = some (blankI c) := by
  have e1 : ((c : Int) == 32) = (c == 32) := by simp only [Bool.beq_eq_decide_eq]; exact decide_eq_decide.2 (by omega)
  have e2 : ((c : Int) == 9) = (c == 9) := by simp only [Bool.beq_eq_decide_eq]; exact decide_eq_decide.2 (by omega)
  have e3 : ((c : Int) == 10) = (c == 10) := by simp only [Bool.beq_eq_decide_eq]; exact decide_eq_decide.2 (by omega)
  unfold millwrightref11_Blank.f
  rw [e1, e2, e3]; unfold blankI
  cases c == 32 <;> cases c == 9 <;> rfl
def sk : List UInt8 → Nat
  | [] => 0
  | b :: t => if bl b then sk t + 1 else 0
theorem sk_le : ∀ t, sk t ≤ t.length
  | [] => by simp [sk]
  | b :: t => by unfold sk; have := sk_le t; split <;> simp <;> omega
theorem skip_loop (k : Nat) (s : List UInt8) (hs : s.length ≤ 100000) : ∀ (m i n : Nat) (v : Int), v = (i : Int) → i + m = s.length → m < n → quote_skip.l4 k s n v = some ((i + sk (s.drop i) : Nat) : Int) := by
  intro m
  induction m with
  | zero =>
    intro i n v hv hi hn; obtain ⟨n, rfl⟩ : ∃ m, n = m + 1 := ⟨n - 1, by omega⟩; subst hv
    unfold quote_skip.l4 quote_skip.j11
    rw [if_neg (by simp; omega), List.drop_eq_nil_of_le (by omega)]; rfl
  | succ m ih =>
    intro i n v hv hi hn; obtain ⟨n, rfl⟩ : ∃ m, n = m + 1 := ⟨n - 1, by omega⟩; subst hv
    have hlt : i < s.length := by omega
    have w1 : IntKind.i64.wrap ((i : Int) + 1) = ((i + 1 : Nat) : Int) := by rw [w64 (by omega) (by omega)]; omega
    unfold quote_skip.l4 quote_skip.j11 quote_skip.j8
    rw [if_pos (by simp; omega), idx_at rfl hlt, Option.bind_some, blank_eq k _ s[i].toNat_lt, Option.bind_some, w1, ih (i + 1) n _ rfl (by omega) (by omega), List.drop_eq_getElem_cons (i := i) (l := s) hlt, sk]
    unfold bl
    cases blankI s[i].toNat with
    | true => rw [if_pos rfl, if_pos rfl]; congr 2; omega
    | false => simp

theorem skip_eq (k : Nat) (s : List UInt8) (i : Nat) (hs : s.length ≤ 100000) (hk : s.length < k) (hi : i ≤ s.length) : quote_skip.f k s (i : Int) = some ((i + sk (s.drop i) : Nat) : Int) := by
  unfold quote_skip.f quote_skip.j2
  rw [skip_loop k s hs (s.length - i) i k _ rfl (by omega) (by omega)]; rfl

def fld : List UInt8 → List (List UInt8) → List UInt8 → List (List UInt8)
  | [], out, w => if w = [] then out else out ++ [w]
  | b :: t, out, w => if bl b then fld t (if w = [] then out else out ++ [w]) [] else fld t out (w ++ [b])
theorem fld_sk : ∀ (t : List UInt8) (out : List (List UInt8)), fld t out [] = fld (t.drop (sk t)) out []
  | [], out => rfl
  | c :: t, out => by
    unfold sk
    cases hc : bl c with
    | true => rw [if_pos rfl, List.drop_succ_cons, ← fld_sk t out]; simp [fld, hc]
    | false => simp

theorem rfields_loop (k : Nat) (s : List UInt8) (hs : s.length ≤ 100000) : ∀ (m i n : Nat) (v : Int) (out : List (List UInt8)) (w : List UInt8), v = (i : Int) → i + m = s.length → m + 1 < n → out.length ≤ i → w.length ≤ i →
    millwrightref11_Fields.l6 k s n out w v = some (fld (s.drop i) out w) := by
  intro m
  induction m with
  | zero =>
    intro i n v out w hv hi hn ho hw; obtain ⟨n, rfl⟩ : ∃ m, n = m + 2 := ⟨n - 2, by omega⟩; subst hv
    have hLIM : LIM = 4294967296 := rfl
    have w1 : IntKind.i64.wrap ((i : Int) + 1) = ((i + 1 : Nat) : Int) := by rw [w64 (by omega) (by omega)]; omega
    have hend : ∀ o x, millwrightref11_Fields.l6 k s (n + 1) o x ((i + 1 : Nat) : Int) = some o := fun o x => by
      unfold millwrightref11_Fields.l6; rw [if_neg (by simp; omega)]
    unfold millwrightref11_Fields.l6 millwrightref11_Fields.j23 millwrightref11_Fields.j18 millwrightref11_Fields.j15 millwrightref11_Fields.j13
    rw [if_pos (by simp; omega), if_neg (by simp; omega), if_neg (by simp), w1, List.drop_eq_nil_of_le (by omega), fld]
    by_cases hz : w = []
    · subst hz; rw [if_neg (by decide), if_pos rfl, hend]
    · have hp : 0 < w.length := List.length_pos_iff.2 hz
      rw [if_pos (by simp; omega), if_neg hz, if_pos (by simp; omega), hend]
  | succ m ih =>
    intro i n v out w hv hi hn ho hw; obtain ⟨n, rfl⟩ : ∃ m, n = m + 1 := ⟨n - 1, by omega⟩; subst hv
    have hLIM : LIM = 4294967296 := rfl
    have hlt : i < s.length := by omega
    have w1 : IntKind.i64.wrap ((i : Int) + 1) = ((i + 1 : Nat) : Int) := by rw [w64 (by omega) (by omega)]; omega
    have hsub : sub s (i : Int) ((i + 1 : Nat) : Int) = some [s[i]] := by
      rw [sub_at (a := i) (b := i + 1) rfl rfl (by omega) (by omega), List.drop_take, List.drop_eq_getElem_cons (i := i) (l := s) hlt, Nat.add_sub_cancel_left]
      rfl
    unfold millwrightref11_Fields.l6 millwrightref11_Fields.j23 millwrightref11_Fields.j18 millwrightref11_Fields.j15 millwrightref11_Fields.j13
    rw [if_pos (by simp; omega), if_pos (by simp; omega), idx_at rfl hlt, Option.bind_some, rblank_eq, Option.bind_some, w1, hsub, Option.bind_some, List.drop_eq_getElem_cons (i := i) (l := s) hlt, fld]
    unfold bl
    cases hb : blankI s[i].toNat with
    | true =>
      rw [if_neg (by simp), if_pos rfl]
      by_cases hz : w = []
      · subst hz; rw [if_neg (by decide), if_pos rfl]
        exact ih (i + 1) n _ out [] rfl (by omega) (by omega) (by omega) (by simp)
      · have hp : 0 < w.length := List.length_pos_iff.2 hz
        rw [if_pos (by simp; omega), if_neg hz, if_pos (by simp; omega)]
        exact ih (i + 1) n _ (out ++ [w]) [] rfl (by omega) (by omega) (by simp; omega) (by simp)
    | false =>
      rw [if_pos (by simp), if_pos (by simp; omega)]
      simp only [Bool.false_eq_true, if_false]
      exact ih (i + 1) n _ out (w ++ [s[i]]) rfl (by omega) (by omega) (by omega) (by simp; omega)

theorem fields_loop (k : Nat) (s : List UInt8) (hs : s.length ≤ 100000) : ∀ (m i f n : Nat) (v u : Int) (out : List (List UInt8)), v = (i : Int) → u = (f : Int) → i + m = s.length → m + 1 < n → out.length ≤ i → f ≤ i →
    quote_Fields.l7 k s n out u v = some (fld (s.drop i) out ((s.take i).drop f)) := by
  intro m
  induction m with
  | zero =>
    intro i f n v u out hv hu hi hn ho hf; obtain ⟨n, rfl⟩ : ∃ m, n = m + 2 := ⟨n - 2, by omega⟩; subst hv; subst hu
    have hLIM : LIM = 4294967296 := rfl
    have w1 : IntKind.i64.wrap ((i : Int) + 1) = ((i + 1 : Nat) : Int) := by rw [w64 (by omega) (by omega)]; omega
    have hend : ∀ o x, quote_Fields.l7 k s (n + 1) o x ((i + 1 : Nat) : Int) = some o := fun o x => by
      unfold quote_Fields.l7; rw [if_neg (by simp; omega)]
    unfold quote_Fields.l7 quote_Fields.j23 quote_Fields.j20 quote_Fields.j16 quote_Fields.j14
    rw [if_pos (by simp; omega), if_neg (by simp; omega), if_neg (by simp), w1, List.drop_eq_nil_of_le (i := i) (by omega), fld]
    by_cases hz : f = i
    · subst hz
      have e : (s.take f).drop f = [] := List.drop_eq_nil_of_le (by simp; omega)
      rw [if_neg (by simp), e, if_pos rfl, hend]
    · have hne : (s.take i).drop f ≠ [] := fun e => by have := congrArg List.length e; simp at this; omega
      rw [if_pos (by simp; omega), if_neg hne, sub_at rfl rfl (by omega) (by omega), Option.bind_some, if_pos (by simp; omega), hend]
  | succ m ih =>
    intro i f n v u out hv hu hi hn ho hf; obtain ⟨n, rfl⟩ : ∃ m, n = m + 1 := ⟨n - 1, by omega⟩; subst hv; subst hu
    have hLIM : LIM = 4294967296 := rfl
    have hlt : i < s.length := by omega
    have w1 : IntKind.i64.wrap ((i : Int) + 1) = ((i + 1 : Nat) : Int) := by rw [w64 (by omega) (by omega)]; omega
    unfold quote_Fields.l7 quote_Fields.j23 quote_Fields.j20 quote_Fields.j16 quote_Fields.j14
    rw [if_pos (by simp; omega), if_pos (by simp; omega), idx_at rfl hlt, Option.bind_some, blank_eq k _ s[i].toNat_lt, Option.bind_some, w1, List.drop_eq_getElem_cons (i := i) (l := s) hlt, fld]
    unfold bl
    have e0 : (s.take (i + 1)).drop (i + 1) = [] := List.drop_eq_nil_of_le (by simp; omega)
    cases hb : blankI s[i].toNat with
    | true =>
      rw [if_neg (by simp), if_pos rfl]
      by_cases hz : f = i
      · subst hz
        have e : (s.take f).drop f = [] := List.drop_eq_nil_of_le (by simp; omega)
        rw [if_neg (by simp), e, if_pos rfl, ← e0]
        exact ih (f + 1) (f + 1) n _ _ out rfl rfl (by omega) (by omega) (by omega) (by omega)
      · have hne : (s.take i).drop f ≠ [] := fun e => by have := congrArg List.length e; simp at this; omega
        rw [if_pos (by simp; omega), if_neg hne, sub_at rfl rfl (by omega) (by omega), Option.bind_some, if_pos (by simp; omega), ← e0]
        exact ih (i + 1) (i + 1) n _ _ _ rfl rfl (by omega) (by omega) (by simp; omega) (by omega)
    | false =>
      rw [if_pos (by simp)]
      simp only [Bool.false_eq_true, if_false]
      have e1 : (s.take i).drop f ++ [s[i]] = (s.take (i + 1)).drop f := by
        rw [List.take_succ_eq_append_getElem hlt, List.drop_append_of_le_length (by simp; omega)]
      rw [e1]
      exact ih (i + 1) f n _ _ out rfl rfl (by omega) (by omega) (by omega) (by omega)

theorem fields_eq (k : Nat) (s : List UInt8) (hs : s.length ≤ 100000) (hk : s.length + 1 < k) : quote_Fields.f k s = some (fld s [] []) := by
  unfold quote_Fields.f quote_Fields.j3
  have h0 := skip_eq k s 0 hs (by omega) (by omega)
  rw [List.drop_zero, Nat.zero_add] at h0
  have hle := sk_le s
  have h0' : quote_skip.f k s 0 = some (sk s : Int) := h0
  rw [h0', Option.bind_some, fields_loop k s hs (s.length - sk s) (sk s) (sk s) k _ _ [] rfl rfl (by omega) (by omega) (by simp) (by omega), Option.bind_some]
  have e : (s.take (sk s)).drop (sk s) = [] := List.drop_eq_nil_of_le (by simp; omega)
  rw [e, ← fld_sk]
theorem rfields_eq (k : Nat) (s : List UInt8) (hs : s.length ≤ 100000) (hk : s.length + 1 < k) : millwrightref11_Fields.f k s = some (fld s [] []) := by
  unfold millwrightref11_Fields.f millwrightref11_Fields.j2
  have := rfields_loop k s hs s.length 0 k 0 [] [] rfl (by omega) hk (by simp) (by simp)
  rw [List.drop_zero] at this
  rw [this]; rfl

theorem same_loop (k : Nat) (l : List (List UInt8)) (hl : l.length ≤ 1000000) : ∀ (m i n : Nat) (v : Int), v = (i : Int) → i + m = l.length → m < n → millwrightnum_SameTexts.l4 k l l n v = some (.inl ()) := by
  intro m
  induction m with
  | zero =>
    intro i n v hv hi hn; obtain ⟨n, rfl⟩ : ∃ m, n = m + 1 := ⟨n - 1, by omega⟩; subst hv
    unfold millwrightnum_SameTexts.l4; rw [if_neg (by simp; omega)]
  | succ m ih =>
    intro i n v hv hi hn; obtain ⟨n, rfl⟩ : ∃ m, n = m + 1 := ⟨n - 1, by omega⟩; subst hv
    have w1 : IntKind.i64.wrap ((i : Int) + 1) = ((i + 1 : Nat) : Int) := by rw [w64 (by omega) (by omega)]; omega
    unfold millwrightnum_SameTexts.l4
    rw [if_pos (by simp; omega), idx_at rfl (by omega), Option.bind_some, Option.bind_some, w1, ih (i + 1) n _ rfl (by omega) (by omega)]
    simp
theorem same_eq (k : Nat) (l : List (List UInt8)) (hl : l.length ≤ 1000000) (hk : l.length < k) : millwrightnum_SameTexts.f k l l = some true := by
  unfold millwrightnum_SameTexts.f millwrightnum_SameTexts.j2
  rw [if_neg (by simp), same_loop k l hl l.length 0 k 0 rfl (by omega) hk]; rfl

theorem fld_len : ∀ (t : List UInt8) (out : List (List UInt8)) (w : List UInt8), (fld t out w).length ≤ out.length + t.length + 1
  | [], out, w => by unfold fld; split <;> simp
  | b :: t, out, w => by
    unfold fld
    have h1 := fld_len t (if w = [] then out else out ++ [w]) []
    have h2 := fld_len t out (w ++ [b])
    have h3 : (if w = [] then out else out ++ [w]).length ≤ out.length + 1 := by split <;> simp
    split <;> simp only [List.length_cons] <;> omega

end Go.Proofs.YtldepagjdbcmgaaGreatDoor.Qf
