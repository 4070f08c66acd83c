/- A part of a proof: DAVF. -/
import Derived.Test.YtkdpaglpieamgaaDoorK10DAVE
namespace Go.Proofs.YtkdpaglpieamgaaDoor
open Go Go.AM Go.ChangeShapes Go.ChangeAt Go.RowKit
set_option linter.unusedVariables false
set_option linter.unusedSimpArgs false
set_option maxRecDepth 100000

theorem may_nil {m : Mp} {f : Fl} (h : mayS m f = 0) : mayS [] f = 0 := by
  unfold mayS at h ⊢
  split at h
  · omega
  · rename_i a1
    rw [if_neg a1]
    split at h
    · omega
    · rename_i a2
      rw [if_neg a2]
      split at h
      · omega
      · rename_i a3
        rw [if_neg a3, if_neg (by simp)]
theorem valid_loop (k : Nat) (hk : 100 < k) (a : List Fl) (ha : a.length ≤ 1000) : ∀ (l : List Fl) (fuel i : Nat) (m m' : Mp), a.drop i = l → Valid m → tree_Of.l6 k a fuel m (i : Int) = some (.inl m') → Valid m'
  | _, 0, _, _, _, _, _, h => by unfold tree_Of.l6 at h; cases h
  | [], f + 1, i, m, m', hl, hv, h => by
    have := at_nil hl
    unfold tree_Of.l6 at h
    rw [if_neg (by simp; omega)] at h
    cases h; exact hv
  | x :: r, f + 1, i, m, m', hl, hv, h => by
    obtain ⟨g1, g2, g3⟩ := at_drop hl
    unfold tree_Of.l6 at h
    rw [if_pos (by simp; exact g3), g1, Option.bind_some, get_eq, Option.bind_some] at h
    split at h
    · cases h
    · rw [put_eq k hk, Option.bind_some, wr1 (by omega)] at h
      by_cases h0 : mayS m x = 0
      · have e : putS m x = (0, mput x.fN x m) := by unfold putS; rw [if_pos h0, h0]
        rw [e, if_neg (by simp)] at h
        refine valid_loop k hk a ha r f (i + 1) _ m' g2 (fun y hy => ?_) h
        rcases mput_mem hy with rfl | hy
        · exact may_nil h0
        · exact hv y hy
      · have e : (putS m x).1 = mayS m x := rfl
        rw [e, if_pos (by simpa using h0)] at h
        cases h
theorem valid_of {k : Nat} (hk : 100 < k) {a : List Fl} (ha : a.length ≤ 1000) {m : Mp} (h : tree_Of.f k a = some (true, m, 0)) : Valid m := by
  unfold tree_Of.f tree_New.f tree_Of.j3 at h
  rw [Option.bind_some] at h
  cases e : tree_Of.l6 k a k [] 0 with
  | none => rw [e] at h; cases h
  | some o =>
    rw [e, Option.bind_some] at h
    cases o with
    | inl m' =>
      simp only [Option.some.injEq, Prod.mk.injEq, true_and, and_true] at h
      rw [← h]
      have e' : tree_Of.l6 k a k [] ((0 : Nat) : Int) = some (.inl m') := e
      exact valid_loop k hk a ha a k 0 [] m' rfl (fun y hy => by cases hy) e'
    | inr q =>
      simp only [Option.some.injEq] at h
      subst h
      exfalso
      clear hk
      have key : ∀ (l : List Fl) (fuel i : Nat) (m1 : Mp) (v : Mp) (e0 : Nat), a.drop i = l → tree_Of.l6 k a fuel m1 (i : Int) = some (.inr (true, v, e0)) → False := by
        intro l
        induction l with
        | nil =>
          intro fuel i m1 v e0 hl h
          cases fuel with
          | zero => unfold tree_Of.l6 at h; cases h
          | succ f =>
            have := at_nil hl
            unfold tree_Of.l6 at h
            rw [if_neg (by simp; omega)] at h
            cases h
        | cons x r ih =>
          intro fuel i m1 v e0 hl h
          cases fuel with
          | zero => unfold tree_Of.l6 at h; cases h
          | succ f =>
            obtain ⟨g1, g2, g3⟩ := at_drop hl
            unfold tree_Of.l6 at h
            rw [if_pos (by simp; exact g3), g1, Option.bind_some, get_eq, Option.bind_some] at h
            split at h
            · cases h
            · cases hp : tree_Tree_Put_m0.f k m1 x.fN x.fC x.fT with
              | none => rw [hp] at h; cases h
              | some w =>
                rw [hp, Option.bind_some, wr1 (by omega)] at h
                split at h
                · cases h
                · exact ih f (i + 1) _ v e0 g2 h
      exact key a k 0 [] m 0 rfl e

theorem two_eq (k : Nat) (hk : 2000 < k) (a b : List Fl) : ∃ r, W41_two.f k a b = some r ∧ (r.2.2.2.2.2.2.2.2 = false ∨ ∃ m m', r = (true, m, true, m', true, vals m, true, vals m', true) ∧ Good m ∧ Good m' ∧ Valid m ∧ Valid m' ∧ m.length ≤ 40 ∧ m'.length ≤ 40) := by
  unfold W41_two.f W41_two.j19
  obtain ⟨x, e1, e2⟩ := long_f2 k (by omega) a 40 (by omega)
  obtain ⟨y, f1, f2⟩ := long_f2 k (by omega) b 40 (by omega)
  rw [e1, f1, Option.bind_some, Option.bind_some]
  cases x with
  | true => exact ⟨_, rfl, .inl rfl⟩
  | false =>
    cases y with
    | true => exact ⟨_, rfl, .inl rfl⟩
    | false =>
      obtain ⟨l1, n1⟩ := e2 rfl
      obtain ⟨l2, n2⟩ := f2 rfl
      simp only [Bool.false_eq_true, if_false]
      unfold W41_two.j16
      rw [lof_eq k (by omega) a (by omega), lof_eq k (by omega) b (by omega)]
      rcases of_both k hk a (by omega) n1 with ⟨e, p1, p2, p3, p4⟩ | ⟨m, p3, p4, p5, p6⟩
      · rcases of_both k hk b (by omega) n2 with ⟨e', q1, q2, q3, q4⟩ | ⟨m', q3, q4, q5, q6⟩
        · simp only [p3, p4, q3, q4, Option.bind_some]
          rw [if_pos (by simpa using p1)]
          exact ⟨_, rfl, .inl rfl⟩
        · simp only [p3, p4, q3, q4, Option.bind_some]
          rw [if_pos (by simpa using p1)]
          exact ⟨_, rfl, .inl rfl⟩
      · rcases of_both k hk b (by omega) n2 with ⟨e', q1, q2, q3, q4⟩ | ⟨m', q3, q4, q5, q6⟩
        · simp only [p3, p4, q3, q4, Option.bind_some]
          rw [if_neg (by simp), if_pos (by simpa using q1)]
          exact ⟨_, rfl, .inl rfl⟩
        · simp only [p3, p4, q3, q4, Option.bind_some]
          refine ⟨_, rfl, .inr ⟨m, m', ?_, p6, q6, valid_of (by omega) (by omega) p3, valid_of (by omega) (by omega) q3, by omega, by omega⟩⟩
          rfl

def backC (c : Ch) : Ch := if c.fK = 1 then ⟨3, c.fW, c.fO⟩ else if c.fK = 3 then ⟨1, c.fW, c.fO⟩ else if c.fK = 2 then ⟨c.fK, c.fW, c.fO⟩ else c
theorem back_loop (k : Nat) (L : List Ch) (hL : L.length ≤ 100000) : ∀ (l : List Ch) (fuel i : Nat) (out : List Ch), L.drop i = l → l.length < fuel → out.length ≤ i → delta_Back.l5 k L fuel out (i : Int) = some (out ++ l.map backC)
  | _, 0, _, _, _, h, _ => by omega
  | [], f + 1, i, out, hl, _, _ => by
    have := at_nil hl
    unfold delta_Back.l5
    rw [if_neg (by simp; omega)]; simp
  | c :: r, f + 1, i, out, hl, hf, ho => by
    obtain ⟨g1, g2, g3⟩ := at_drop hl
    have ih := fun out h => back_loop k L hL r f (i + 1) out g2 (by simpa using hf) h
    unfold delta_Back.l5 delta_Back.j21 delta_Back.j11
    rw [if_pos (by simp; exact g3), g1, Option.bind_some, wr1 (by omega), List.map_cons]
    simp only [fl_eta]
    unfold backC
    by_cases h1 : c.fK = 1
    · rw [if_pos (by simpa using h1), if_pos h1, if_pos (lim_ok (by omega)), ih _ (by simp; omega)]; simp [backC]
    · rw [if_neg (by simpa using h1), if_neg h1]
      by_cases h3 : c.fK = 3
      · rw [if_pos (by simpa using h3), if_pos h3, if_pos (lim_ok (by omega)), ih _ (by simp; omega)]; simp [backC]
      · rw [if_neg (by simpa using h3), if_neg h3]
        by_cases h2 : c.fK = 2
        · rw [if_pos (by simpa using h2), if_pos h2, if_pos (lim_ok (by omega)), ih _ (by simp; omega)]; simp [backC]
        · rw [if_neg (by simpa using h2), if_neg h2, if_pos (lim_ok (by omega)), ih _ (by simp; omega)]; simp [backC]
theorem back_eq (k : Nat) (L : List Ch) (hL : L.length ≤ 100000) (hk : L.length < k) : delta_Back.f k L = some (L.map backC) := by
  unfold delta_Back.f delta_Back.j2
  have e0 : delta_Back.l5 k L k [] 0 = _ := back_loop k L hL L k 0 [] rfl hk (by simp)
  rw [e0]; rfl
abbrev Rc := TR41C
def toR (c : Ch) : Rc := ⟨c.fK, c.fO, c.fW⟩
theorem ofR_loop (k : Nat) (L : List Ch) (hL : L.length ≤ 100000) : ∀ (l : List Ch) (fuel i : Nat) (out : List Rc), L.drop i = l → l.length < fuel → out.length ≤ i → W41_of.l5 k L fuel out (i : Int) = some (out ++ l.map toR)
  | _, 0, _, _, _, h, _ => by omega
  | [], f + 1, i, out, hl, _, _ => by
    have := at_nil hl
    unfold W41_of.l5
    rw [if_neg (by simp; omega)]; simp
  | c :: r, f + 1, i, out, hl, hf, ho => by
    obtain ⟨g1, g2, g3⟩ := at_drop hl
    unfold W41_of.l5
    rw [if_pos (by simp; exact g3), g1, Option.bind_some, wr1 (by omega), fl_eta, fl_eta, if_pos (lim_ok (by omega)), ofR_loop k L hL r f (i + 1) _ g2 (by simpa using hf) (by simp; omega)]; simp [toR]
theorem ofR_eq (k : Nat) (L : List Ch) (hL : L.length ≤ 100000) (hk : L.length < k) : W41_of.f k L = some (L.map toR) := by
  unfold W41_of.f W41_of.j2
  have e0 : W41_of.l5 k L k [] 0 = _ := ofR_loop k L hL L k 0 [] rfl hk (by simp)
  rw [e0]; rfl
theorem sameR_loop (k : Nat) (w : List Rc) (hw : w.length ≤ 100000) : ∀ (l : List Rc) (fuel i : Nat), w.drop i = l → l.length < fuel → W41_same.l5 k w w fuel (i : Int) = some (.inl ())
  | _, 0, _, _, h => by omega
  | [], f + 1, i, hl, _ => by
    have := at_nil hl
    unfold W41_same.l5
    rw [if_neg (by simp; omega)]
  | c :: r, f + 1, i, hl, hf => by
    obtain ⟨g1, g2, g3⟩ := at_drop hl
    have h1 : (c.fO.fN == c.fO.fN && (c.fO.fC == c.fO.fC && (c.fO.fT == c.fO.fT && true))) = true := feqB_self c.fO
    have h2 : (c.fW.fN == c.fW.fN && (c.fW.fC == c.fW.fC && (c.fW.fT == c.fW.fT && true))) = true := feqB_self c.fW
    unfold W41_same.l5
    rw [if_pos (by simp; exact g3), g1, Option.bind_some, Option.bind_some, h1, h2, if_neg (by simp), wr1 (by omega), sameR_loop k w hw r f (i + 1) g2 (by simpa using hf)]
theorem sameR_eq (k : Nat) (L : List Ch) (hL : L.length ≤ 100000) (hk : L.length < k) : W41_same.f k L (L.map toR) = some true := by
  unfold W41_same.f W41_same.j2
  have hl : (L.map toR).length = L.length := by simp
  rw [if_neg (by simp), ofR_eq k L hL hk, Option.bind_some]
  have e0 : W41_same.l5 k (L.map toR) (L.map toR) k 0 = _ := sameR_loop k (L.map toR) (by omega) (L.map toR) k 0 rfl (by omega)
  rw [e0]; rfl
end Go.Proofs.YtkdpaglpieamgaaDoor
