/- Where quoted parts end, as the document has it. -/
import Derived.Test.YtldepagjdbcmgaaGreatDoorK23XWVW
import Derived.Test.YtldepagjdbcmgaaGreatDoorK23XWVF
namespace Go.Proofs.YtldepagjdbcmgaaGreatDoor.Lx
open Go Go.AM Go.ChangeShapes Go.ChangeAt Go.RowKit
set_option linter.unusedVariables false
set_option linter.unusedSimpArgs false
set_option maxRecDepth 100000
theorem rend_loop (k : Nat) (s : List UInt8) (hs : s.length ≤ 100000) : ∀ (m i n : Nat) (v : Int), v = (i : Int) → i + m = s.length → m < n → millwrightref11_End.l3 k s n v = some (feS i (fe (s.drop i))) := by
  intro m
  induction m using Nat.strongRecOn with
  | _ m ih =>
    intro i n v hv hi hn; obtain ⟨n, rfl⟩ : ∃ m, n = m + 1 := ⟨n - 1, by omega⟩; subst hv
    unfold millwrightref11_End.l3
    by_cases hm : m = 0
    · rw [if_neg (by simp; omega), List.drop_eq_nil_of_le (by omega)]; rfl
    have hlt : i < s.length := by omega
    have w1 : IntKind.i64.wrap ((i : Int) + 1) = ((i + 1 : Nat) : Int) := by rw [w64 (by omega) (by omega)]; omega
    have w2 : IntKind.i64.wrap (((i + 1 : Nat) : Int) + 1) = ((i + 2 : Nat) : Int) := by rw [w64 (by omega) (by omega)]; omega
    have w3 : IntKind.i64.wrap ((s.length : Int) - 1) = (s.length : Int) - 1 := w64 (by omega) (by omega)
    rw [if_pos (by simp; omega), List.drop_eq_getElem_cons (i := i) (l := s) hlt]
    unfold millwrightref11_End.j14 millwrightref11_End.j11 millwrightref11_End.j8
    simp only [w1, w2, w3, idx_at rfl hlt, Option.bind_some, q39, q39']
    by_cases h : s[i] = 39
    · rw [if_pos (by simp [h]), h]
      by_cases h2 : i + 1 < s.length
      · rw [if_neg (by simp; omega), idx_at rfl h2, Option.bind_some, List.drop_eq_getElem_cons (i := i + 1) (l := s) h2]
        by_cases h3 : s[i + 1] = 39
        · rw [if_neg (by simp [h3]), if_pos (by decide), ih (m - 2) (by omega) (i + 2) n _ rfl (by omega) (by omega), h3, fe_two, feS_map]
        · rw [if_pos (by simp [h3]), fe_one (by rw [List.head?_cons]; intro e; exact h3 (Option.some.inj e))]; rfl
      · rw [if_pos (by simp; omega), if_pos trivial, List.drop_eq_nil_of_le (by omega)]; rfl
    · rw [if_neg (by simp [h]), if_neg (by decide), if_neg (by simp [h]), ih (m - 1) (by omega) (i + 1) n _ rfl (by omega) (by omega), fe_ne h, feS_map]

theorem rend_eq (k : Nat) (s : List UInt8) (a : Int) (hs : s.length ≤ 100000) (hk : s.length < k) : millwrightref11_End.f k s a = some (endAt s a) := by
  unfold millwrightref11_End.f endAt millwrightref11_End.j24 millwrightref11_End.j21 millwrightref11_End.j1
  by_cases h1 : a < 0
  · rw [if_pos (by simpa using h1), if_pos rfl, if_neg (by omega)]
  by_cases h2 : a ≥ s.length
  · rw [if_neg (by simpa using h1), if_pos (by simpa using h2), if_pos rfl, if_neg (by omega)]
  obtain ⟨i, rfl⟩ : ∃ i : Nat, a = i := ⟨a.toNat, by omega⟩
  have hlt : i < s.length := by omega
  have e : (i : Int).toNat = i := by simp
  rw [if_neg (by simp), if_neg (by simpa using h2), idx_at rfl hlt, Option.bind_some, q39', e, List.getElem?_eq_getElem hlt]
  by_cases h3 : s[i] = 39
  · have w1 : IntKind.i64.wrap ((i : Int) + 1) = ((i + 1 : Nat) : Int) := by rw [w64 (by omega) (by omega)]; omega
    rw [if_neg (by simp [h3]), w1, rend_loop k s hs (s.length - (i + 1)) (i + 1) k _ rfl (by omega) (by omega), Option.bind_some, if_pos ⟨by omega, by omega, by rw [h3]⟩]
    cases fe (s.drop (i + 1)) <;> rfl
  · rw [if_pos (by simp [h3]), if_neg (by simp [h3])]
end Go.Proofs.YtldepagjdbcmgaaGreatDoor.Lx
