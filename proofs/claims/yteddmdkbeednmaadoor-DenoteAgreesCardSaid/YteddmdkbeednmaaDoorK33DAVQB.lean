/- Both ways come to an end, and find the same. -/
import Derived.Test.YteddmdkbeednmaaDoorK33DAVQA
namespace Go.Proofs.YteddmdkbeednmaaDoor
open Go Go.AM
set_option linter.unusedVariables false
set_option linter.unusedSimpArgs false
namespace Pk
variable {p : List Ins} {m : Nat} {has : Nat → Ins → Bool}
def cnt (M : Mk) : Nat := M.count false
def cnts (Bs : List Mk) : Nat := (Bs.map cnt).sum
theorem cnt_mark {M : Mk} {a : Int} (h : seen M a = false) : cnt (mark M a) + 1 = cnt M := by
  unfold seen at h
  unfold mark cnt
  generalize a.toNat = j at h ⊢
  have hj : j < M.length := by
    by_cases hj : j < M.length
    · exact hj
    · rw [List.getD_eq_getElem?_getD, List.getElem?_eq_none (by omega)] at h; cases h
  have hv : M[j] = false := by rw [List.getD_eq_getElem?_getD, List.getElem?_eq_getElem hj] at h; exact h
  induction M generalizing j with
  | nil => simp at hj
  | cons x M ih =>
    cases j with
    | zero => simp at hv; subst hv; simp
    | succ j =>
      simp only [List.getElem_cons_succ] at hv
      have := ih j (by simpa using h) (by simpa using hj) hv
      simp only [List.set_cons_succ, List.count_cons]
      omega
theorem D_def : ∀ {f i a k M Bs}, cnt M + cnts Bs < f → ∃ r M' Bs', D p m has f i a k M Bs = some (r, M', Bs') ∧ cnt M' + cnts Bs' ≤ cnt M + cnts Bs := by
  intro f
  induction f with
  | zero => intro i a k M Bs h; omega
  | succ f ih =>
    intro i a k M Bs h
    unfold D
    cases hx : idx p a with
    | none => exact ⟨none, M, Bs, rfl, Nat.le_refl _⟩
    | some x =>
      dsimp only
      cases hs : seen M a with
      | true => exact ⟨none, M, Bs, rfl, Nat.le_refl _⟩
      | false =>
        rw [if_neg (by decide)]
        have hc := cnt_mark hs
        cases ha : act m i x a k with
        | stop => exact ⟨_, _, _, rfl, by omega⟩
        | hit => exact ⟨_, _, _, rfl, by omega⟩
        | go b k' =>
          obtain ⟨r, M', Bs', h1, h2⟩ := ih (i := i) (a := b) (k := k') (M := mark M a) (Bs := Bs) (by omega)
          exact ⟨r, M', Bs', h1, by omega⟩
        | fork x y =>
          obtain ⟨r, M', Bs', h1, h2⟩ := ih (i := i) (a := x) (k := k) (M := mark M a) (Bs := Bs) (by omega)
          dsimp only
          rw [h1, Option.bind_some]
          cases r with
          | some κ => exact ⟨_, _, _, rfl, by omega⟩
          | none =>
            obtain ⟨r, M2, Bs2, h3, h4⟩ := ih (i := i) (a := y) (k := k) (M := M') (Bs := Bs') (by omega)
            exact ⟨r, M2, Bs2, h3, by omega⟩
        | eat =>
          cases Bs with
          | nil => exact ⟨_, _, _, rfl, by omega⟩
          | cons B Bs' =>
            dsimp only
            have hu : cnts (B :: Bs') = cnt B + cnts Bs' := by simp [cnts]
            split
            · obtain ⟨r, M2, Bs2, h3, h4⟩ := ih (i := i + 1) (a := a + 1) (k := k) (M := B) (Bs := Bs') (by omega)
              rw [h3]
              refine ⟨_, _, _, rfl, ?_⟩
              have : cnts (M2 :: Bs2) = cnt M2 + cnts Bs2 := by simp [cnts]
              dsimp only
              omega
            · exact ⟨_, _, _, rfl, by omega⟩
theorem C_def : ∀ {f i a k M}, cnt M < f → ∃ M' N fo, C p m f i a k M = some (M', N, fo) ∧ cnt M' + N.length ≤ cnt M := by
  intro f
  induction f with
  | zero => intro i a k M h; omega
  | succ f ih =>
    intro i a k M h
    unfold C
    cases hx : idx p a with
    | none => exact ⟨M, _, _, rfl, by simp⟩
    | some x =>
      dsimp only
      cases hs : seen M a with
      | true => exact ⟨M, _, _, rfl, by simp⟩
      | false =>
        rw [if_neg (by decide)]
        have hc := cnt_mark hs
        cases ha : act m i x a k with
        | stop => exact ⟨_, _, _, rfl, by simp; omega⟩
        | hit => exact ⟨_, _, _, rfl, by simp; omega⟩
        | eat => exact ⟨_, _, _, rfl, by simp; omega⟩
        | go b k' =>
          obtain ⟨M', N, fo, h1, h2⟩ := ih (i := i) (a := b) (k := k') (M := mark M a) (by omega)
          exact ⟨M', N, fo, h1, by omega⟩
        | fork x y =>
          obtain ⟨M', N, fo, h1, h2⟩ := ih (i := i) (a := x) (k := k) (M := mark M a) (by omega)
          dsimp only
          rw [h1, Option.bind_some]
          cases fo with
          | some κ => exact ⟨_, _, _, rfl, by dsimp only; omega⟩
          | none =>
            obtain ⟨M2, N2, fo2, h3, h4⟩ := ih (i := i) (a := y) (k := k) (M := M') (by omega)
            dsimp only
            rw [h3, Option.bind_some]
            exact ⟨_, _, _, rfl, by simp only [List.length_append]; omega⟩
theorem C_len : ∀ {f i a k M M' N fo}, C p m f i a k M = some (M', N, fo) → cnt M' + N.length ≤ cnt M := by
  intro f
  induction f with
  | zero => intro i a k M M' N fo h; cases h
  | succ f ih =>
    intro i a k M M' N fo h
    unfold C at h
    cases hx : idx p a with
    | none => rw [hx] at h; cases h; simp
    | some x =>
      rw [hx] at h
      dsimp only at h
      cases hs : seen M a with
      | true => rw [if_pos hs] at h; cases h; simp
      | false =>
        rw [if_neg (by rw [hs]; decide)] at h
        have hc := cnt_mark hs
        cases ha : act m i x a k with
        | stop => rw [ha] at h; cases h; simp; omega
        | hit => rw [ha] at h; cases h; simp; omega
        | eat => rw [ha] at h; cases h; simp; omega
        | go b k' => rw [ha] at h; have := ih h; omega
        | fork x y =>
          rw [ha] at h
          obtain ⟨⟨cM, cN, cf⟩, h1, h2⟩ := bind_some h
          have := ih h1
          cases cf with
          | some κ => cases h2; dsimp only; omega
          | none =>
            obtain ⟨⟨c2M, c2N, c2f⟩, h3, h4⟩ := bind_some h2
            have := ih h3
            cases h4
            dsimp only at *
            simp only [List.length_append]; omega
theorem DL_def {f i} : ∀ {N : List (Int × Kp)} {M Bs}, cnt M + cnts Bs < f → ∃ r M' Bs', DL p m has f i N M Bs = some (r, M', Bs') ∧ cnt M' + cnts Bs' ≤ cnt M + cnts Bs
  | [], M, Bs, h => ⟨_, _, _, rfl, Nat.le_refl _⟩
  | t :: N, M, Bs, h => by
    unfold DL
    split
    · obtain ⟨r, M', Bs', h1, h2⟩ := D_def (p := p) (m := m) (has := has) (i := i + 1) (a := t.1 + 1) (k := t.2) h
      rw [h1, Option.bind_some]
      cases r with
      | some κ => exact ⟨_, _, _, rfl, h2⟩
      | none =>
        obtain ⟨r, M2, Bs2, h3, h4⟩ := DL_def (N := N) (M := M') (Bs := Bs') (f := f) (i := i) (by omega)
        exact ⟨r, M2, Bs2, h3, by omega⟩
    · exact DL_def h
theorem CL_def {f i} : ∀ {N : List (Int × Kp)} {M}, cnt M < f → ∃ M' N' fo, CL p m has f i N M = some (M', N', fo) ∧ cnt M' + N'.length ≤ cnt M
  | [], M, h => ⟨_, _, _, rfl, by simp⟩
  | t :: N, M, h => by
    unfold CL
    split
    · obtain ⟨M', N', fo, h1, h2⟩ := C_def (p := p) (m := m) (i := i + 1) (a := t.1 + 1) (k := t.2) h
      rw [h1, Option.bind_some]
      cases fo with
      | some κ => exact ⟨_, _, _, rfl, h2⟩
      | none =>
        obtain ⟨M2, N2, fo2, h3, h4⟩ := CL_def (N := N) (M := M') (f := f) (i := i) (by omega)
        dsimp only
        rw [h3, Option.bind_some]
        exact ⟨_, _, _, rfl, by simp only [List.length_append]; omega⟩
    · exact CL_def h
theorem CL_len {f i} : ∀ {N : List (Int × Kp)} {M M' N' fo}, CL p m has f i N M = some (M', N', fo) → cnt M' + N'.length ≤ cnt M
  | [], M, _, _, _, h => by cases h; simp
  | t :: N, M, M', N', fo, h => by
    unfold CL at h
    split at h
    · obtain ⟨⟨cM, cN, cf⟩, h1, h2⟩ := bind_some h
      have := C_len h1
      cases cf with
      | some κ => cases h2; exact this
      | none =>
        obtain ⟨⟨c2M, c2N, c2f⟩, h3, h4⟩ := bind_some h2
        have := CL_len h3
        cases h4
        dsimp only at *
        simp only [List.length_append]; omega
    · exact CL_len h
def R (p : List Ins) (m : Nat) (has : Nat → Ins → Bool) (Z : Mk) (f : Nat) : Nat → Nat → List (Int × Kp) → Option (Option Kp)
  | 0, _, _ => some none
  | c + 1, i, N => (CL p m has f i N Z).bind fun r => match c with
    | 0 => some r.2.2
    | c + 1 => R p m has Z f (c + 1) (i + 1) r.2.1
theorem R_ok {Z : Mk} {f g : Nat} (hg : cnt Z < g) : ∀ {c i : Nat} {N : List (Int × Kp)} {r M1 BB}, i + (c + 1) = m → DL p m has f i N Z (List.replicate c Z) = some (r, M1, BB) → R p m has Z g (c + 1) i N = some r
  | 0, i, N, r, M1, BB, hi, h => by
    obtain ⟨M', N', fo, h1, _⟩ := CL_def (p := p) (m := m) (has := has) (i := i) (N := N) hg
    unfold R
    rw [h1, Option.bind_some]
    exact congrArg some (lastL hi h h1).1.symm
  | c + 1, i, N, r, M1, BB, hi, h => by
    obtain ⟨M', N', fo, h1, _⟩ := CL_def (p := p) (m := m) (has := has) (i := i) (N := N) hg
    obtain ⟨r2, B2, Bs2, h2, _⟩ := DL_def (p := p) (m := m) (has := has) (i := i + 1) (N := N') (M := Z) (Bs := List.replicate c Z) (f := cnt Z + cnts (List.replicate c Z) + 1) (by omega)
    obtain ⟨e1, _, _⟩ := mainL (by omega) (by rw [List.replicate_succ] at h; exact h) h1 h2
    unfold R
    rw [h1, Option.bind_some, e1]
    exact R_ok hg (by omega) h2
theorem found {Z : Mk} {f g : Nat} (hg : cnt Z < g) {k0 : Kp} {r M1 BB} (h : D p m has f 0 0 k0 Z (List.replicate m Z) = some (r, M1, BB)) :
    ∃ M' N fo, C p m g 0 0 k0 Z = some (M', N, fo) ∧ (m = 0 → r = fo) ∧ (m ≠ 0 → fo = none ∧ R p m has Z g m 0 N = some r) := by
  obtain ⟨M', N, fo, h1, _⟩ := C_def (p := p) (m := m) (i := 0) (a := 0) (k := k0) hg
  refine ⟨M', N, fo, h1, fun hm => ?_, fun hm => ?_⟩
  · subst hm; exact (last h h1).1
  · obtain ⟨c, rfl⟩ : ∃ c, m = c + 1 := ⟨m - 1, by omega⟩
    obtain ⟨r2, B2, Bs2, h2, _⟩ := DL_def (p := p) (m := c + 1) (has := has) (i := 0) (N := N) (M := Z) (Bs := List.replicate c Z) (f := cnt Z + cnts (List.replicate c Z) + 1) (by omega)
    obtain ⟨e1, e2, _⟩ := main (by omega) (by rw [List.replicate_succ] at h; exact h) h1 h2
    exact ⟨e2, by rw [e1]; exact R_ok hg (by omega) h2⟩
end Pk
end Go.Proofs.YteddmdkbeednmaaDoor
