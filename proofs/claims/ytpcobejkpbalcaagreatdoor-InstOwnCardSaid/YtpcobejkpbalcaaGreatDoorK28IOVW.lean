/- Lists joined, each text once. -/
import Derived.Test.YtpcobejkpbalcaaGreatDoorK28IOF
import Derived.Test.YtpcobejkpbalcaaGreatDoorK28AmM3
import Derived.Test.YtpcobejkpbalcaaGreatDoorK28AmM
import Derived.Test.YtpcobejkpbalcaaGreatDoorK28AmR5
import Derived.Test.YtpcobejkpbalcaaGreatDoorK28AmW
namespace Go.Proofs.YtpcobejkpbalcaaGreatDoor.Nl
open Go Go.AM Go.ChangeShapes Go.ChangeAt Go.RowKit
set_option linter.unusedVariables false
set_option linter.unusedSimpArgs false
set_option maxRecDepth 100000
theorem at_drop {α : Type} {l r : List α} {i : Nat} {x : α} (h : l.drop i = x :: r) : idx l (i : Int) = some x ∧ l.drop (i + 1) = r ∧ i < l.length := by
  have hi : i < l.length := by
    rcases Nat.lt_or_ge i l.length with h' | h'
    · exact h'
    · rw [List.drop_of_length_le h'] at h; cases h
  rw [List.drop_eq_getElem_cons hi] at h
  injection h with h1 h2
  exact ⟨by rw [idx_at rfl hi, h1], h2, hi⟩
theorem at_nil {α : Type} {l : List α} {i : Nat} (h : l.drop i = []) : l.length ≤ i := by
  have := congrArg List.length h
  simp at this; omega
theorem wr1 {i : Nat} (h : i < 1000000) : IntKind.i64.wrap ((i : Int) + 1) = ((i + 1 : Nat) : Int) := by rw [w64 (by omega) (by omega)]; rfl

theorem lim_ok {α : Type} {l : List α} {x : α} (h : l.length ≤ 100000) : l.length + [x].length ≤ LIM := by
  have : LIM = 4294967296 := rfl
  simp; omega
theorem rix {α β : Type} {l : List α} {i : Nat} {x : α} {f : α → Option β} (h : idx l (i : Int) = some x) : (if (0 : Int) ≤ (i : Int) ∧ (i : Int) < (l.length : Int) then (l[0 + (i : Int).toNat]?).bind f else none) = f x := by
  have hi : i < l.length := by
    rcases Nat.lt_or_ge i l.length with h' | h'
    · exact h'
    · rw [idx_none (.inr (by omega))] at h; cases h
  rw [idx_at rfl hi] at h
  rw [if_pos ⟨by omega, by omega⟩]
  have e : l[0 + (i : Int).toNat]? = some x := by rw [← h]; simp [hi]
  rw [e]; rfl
abbrev Tx := List UInt8
theorem has1_loop (k : Nat) (a : List Tx) (ha : a.length ≤ 1000) (n : Tx) : ∀ (l : List Tx) (fuel i : Nat), a.drop i = l → l.length < fuel → millwrightnum_Has.l3 k a n fuel (i : Int) = some (if n ∈ l then .inr true else .inl ())
  | _, 0, _, _, h => by omega
  | [], f + 1, i, hl, _ => by
    have := at_nil hl
    unfold millwrightnum_Has.l3
    rw [if_neg (by simp; omega)]; simp
  | c :: r, f + 1, i, hl, hf => by
    obtain ⟨g1, g2, g3⟩ := at_drop hl
    unfold millwrightnum_Has.l3
    rw [if_pos (by simp; exact g3), g1, Option.bind_some, wr1 (by omega), has1_loop k a ha n r f (i + 1) g2 (by simpa using hf)]
    by_cases h : c = n
    · rw [if_pos (by simpa using h), if_pos (by rw [h]; exact List.mem_cons_self)]
    · rw [if_neg (by simpa using h)]
      have : n ∈ c :: r ↔ n ∈ r := by rw [List.mem_cons]; exact ⟨fun h' => h'.elim (fun e => absurd e.symm h) id, .inr⟩
      simp [this]
def hasB (a : List Tx) (n : Tx) : Bool := decide (n ∈ a)
theorem has1_eq (k : Nat) (hk : 2000 < k) (a : List Tx) (ha : a.length ≤ 1000) (n : Tx) : millwrightnum_Has.f k a n = some (hasB a n) := by
  unfold millwrightnum_Has.f millwrightnum_Has.j1 hasB
  have e0 : millwrightnum_Has.l3 k a n k 0 = _ := has1_loop k a ha n a k 0 rfl (by omega)
  rw [e0]
  by_cases h : n ∈ a
  · rw [if_pos h]; simp [h]
  · rw [if_neg h]; simp [h]
theorem has2_loop (k : Nat) (a : List Tx) (ha : a.length ≤ 1000) (n : Tx) : ∀ (l : List Tx) (fuel i : Nat), a.drop i = l → l.length < fuel → ∃ o, slices_Index_string_string.l3 k a n fuel (i : Int) = some o ∧ ((n ∉ l ∧ o = .inl ()) ∨ (n ∈ l ∧ ∃ j : Nat, o = .inr (j : Int)))
  | _, 0, _, _, h => by omega
  | [], f + 1, i, hl, _ => by
    have := at_nil hl
    unfold slices_Index_string_string.l3
    exact ⟨_, by rw [if_neg (by simp; omega)], .inl ⟨by simp, rfl⟩⟩
  | c :: r, f + 1, i, hl, hf => by
    obtain ⟨g1, g2, g3⟩ := at_drop hl
    obtain ⟨o, e, h⟩ := has2_loop k a ha n r f (i + 1) g2 (by simpa using hf)
    unfold slices_Index_string_string.l3
    rw [if_pos (by simp; exact g3), g1, Option.bind_some, wr1 (by omega), e]
    by_cases hc : n = c
    · rw [if_pos (by simpa using hc)]
      exact ⟨_, rfl, .inr ⟨by rw [hc]; exact List.mem_cons_self, i, rfl⟩⟩
    · rw [if_neg (by simpa using hc)]
      refine ⟨o, rfl, ?_⟩
      rcases h with ⟨h1, h2⟩ | ⟨h1, h2⟩
      · exact .inl ⟨by simp [hc, h1], h2⟩
      · exact .inr ⟨List.mem_cons_of_mem _ h1, h2⟩
theorem has2_eq (k : Nat) (hk : 2000 < k) (a : List Tx) (ha : a.length ≤ 1000) (n : Tx) : names_Has.f k a n = some (hasB a n) := by
  unfold names_Has.f slices_Contains_string_string.f slices_Index_string_string.f slices_Index_string_string.j1 hasB
  obtain ⟨o, e, h⟩ := has2_loop k a ha n a k 0 rfl (by omega)
  have e : slices_Index_string_string.l3 k a n k 0 = some o := e
  rw [e]
  rcases h with ⟨h1, rfl⟩ | ⟨h1, j, rfl⟩
  · simp [h1]
  · simp [h1]
def tot : List (List Tx) → Nat
  | [] => 0
  | x :: l => x.length + tot l
theorem sz_loop (k : Nat) (A : List (List Tx)) (hA : A.length ≤ 1000) : ∀ (l : List (List Tx)) (fuel i v : Nat), A.drop i = l → l.length < fuel → v + tot l ≤ 100000 → slices_Concat_string_string.l18 k A fuel (v : Int) (i : Int) = some ((v + tot l : Nat) : Int)
  | _, 0, _, _, _, h, _ => by omega
  | [], f + 1, i, v, hl, _, _ => by
    have := at_nil hl
    unfold slices_Concat_string_string.l18
    rw [if_neg (by simp; omega)]; rfl
  | x :: r, f + 1, i, v, hl, hf, hv => by
    obtain ⟨g1, g2, g3⟩ := at_drop hl
    simp only [tot] at hv
    have hw : IntKind.i64.wrap ((v : Int) + (x.length : Int)) = ((v + x.length : Nat) : Int) := by rw [w64 (by omega) (by omega)]; omega
    have ih := sz_loop k A hA r f (i + 1) (v + x.length) g2 (by simpa using hf) (by omega)
    unfold slices_Concat_string_string.l18 slices_Concat_string_string.j24
    rw [if_pos (by simp; exact g3), g1, Option.bind_some, hw, if_neg (by simp; omega), wr1 (by omega), ih]
    simp only [tot]; congr 2; omega
theorem cc_loop (k : Nat) (A : List (List Tx)) (hA : A.length ≤ 1000) : ∀ (l : List (List Tx)) (fuel i : Nat) (out : List Tx), A.drop i = l → l.length < fuel → out.length + tot l ≤ 100000 → slices_Concat_string_string.l7 k A fuel out (i : Int) = some (out ++ l.flatten)
  | _, 0, _, _, _, h, _ => by omega
  | [], f + 1, i, out, hl, _, _ => by
    have := at_nil hl
    unfold slices_Concat_string_string.l7
    rw [if_neg (by simp; omega)]; simp
  | x :: r, f + 1, i, out, hl, hf, hv => by
    obtain ⟨g1, g2, g3⟩ := at_drop hl
    simp only [tot] at hv
    have ih := cc_loop k A hA r f (i + 1) (out ++ x) g2 (by simpa using hf) (by rw [List.length_append]; omega)
    unfold slices_Concat_string_string.l7
    have hl : LIM = 4294967296 := rfl
    rw [if_pos (by simp; exact g3), g1, Option.bind_some, if_pos (by omega), wr1 (by omega), ih]
    simp
theorem grow_eq (k n : Nat) (hn : n ≤ 100000) : slices_Grow_string_string_m0.f k (n : Int) = some [] := by
  unfold slices_Grow_string_string_m0.f slices_Grow_string_string_m0.j7 slices_Grow_string_string_m0.j2
  have h0 : IntKind.i64.wrap (0 - 0) = 0 := by decide
  have hw : IntKind.i64.wrap ((n : Int) - 0) = (n : Int) := by rw [w64 (by omega) (by omega)]; omega
  rw [h0, hw, if_neg (by simp)]
  by_cases h : n = 0
  · rw [if_neg (by simp; omega)]
  · rw [if_pos (by simp; omega), if_pos (by omega), if_pos (by omega)]; rfl
theorem concat_eq (k : Nat) (hk : 2000 < k) (a b : List Tx) (ha : a.length ≤ 1000) (hb : b.length ≤ 1000) : slices_Concat_string_string.f k [a, b] = some (a ++ b) := by
  unfold slices_Concat_string_string.f slices_Concat_string_string.j15 slices_Concat_string_string.j4
  have e1 : slices_Concat_string_string.l18 k [a, b] k 0 0 = _ := sz_loop k [a, b] (by simp) [a, b] k 0 0 rfl (by simp; omega) (by simp [tot]; omega)
  have e2 : slices_Concat_string_string.l7 k [a, b] k [] 0 = _ := cc_loop k [a, b] (by simp) [a, b] k 0 [] rfl (by simp; omega) (by simp [tot]; omega)
  rw [e1, Option.bind_some, grow_eq k _ (by simp [tot]; omega), Option.bind_some, e2]
  simp
def uniq : List Tx → List Tx → List Tx
  | out, [] => out
  | out, x :: l => uniq (if hasB out x then out else out ++ [x]) l
theorem uniq_len : ∀ (l out : List Tx), (uniq out l).length ≤ out.length + l.length
  | [], out => by simp [uniq]
  | x :: l, out => by
    have := uniq_len l (if hasB out x then out else out ++ [x])
    have h2 : (if hasB out x = true then out else out ++ [x]).length ≤ out.length + 1 := by
      split
      · omega
      · simp
    simp only [uniq, List.length_cons]
    omega
theorem union_loop (k : Nat) (hk : 2000 < k) (A : List Tx) (hA : A.length ≤ 500) : ∀ (l : List Tx) (fuel i : Nat) (out : List Tx), A.drop i = l → l.length < fuel → out.length ≤ i → i ≤ A.length → names_Union.l6 k A fuel out (i : Int) = some (uniq out l)
  | _, 0, _, _, _, h, _, _ => by omega
  | [], f + 1, i, out, hl, _, _, _ => by
    have := at_nil hl
    unfold names_Union.l6
    rw [if_neg (by simp; omega)]; simp [uniq]
  | x :: r, f + 1, i, out, hl, hf, ho, hi => by
    obtain ⟨g1, g2, g3⟩ := at_drop hl
    have ih := fun out h => union_loop k hk A hA r f (i + 1) out g2 (by simpa using hf) h (by omega)
    unfold names_Union.l6 names_Union.j12
    rw [if_pos (by simp; exact g3), rix g1, has2_eq k hk out (by omega), Option.bind_some, wr1 (by omega)]
    simp only [uniq]
    cases h : hasB out x
    · rw [if_pos (by simp), if_pos (lim_ok (by omega)), ih _ (by simp; omega)]; simp
    · rw [if_neg (by simp), ih _ (by omega)]; simp
theorem union_eq (k : Nat) (hk : 2000 < k) (a b : List Tx) (ha : a.length ≤ 200) (hb : b.length ≤ 200) : names_Union.f k a b = some (uniq [] (a ++ b)) := by
  unfold names_Union.f names_Union.j2
  have e : names_Union.l6 k (a ++ b) k [] 0 = _ := union_loop k hk (a ++ b) (by simp; omega) (a ++ b) k 0 [] rfl (by simp; omega) (by simp) (by simp)
  rw [concat_eq k hk a b (by omega) (by omega), Option.bind_some, e]; rfl
end Go.Proofs.YtpcobejkpbalcaaGreatDoor.Nl
