/- A part of the proof of a given law: DTVDeltaTwice. Own work, printed in part by a program of mine. -/
import Derived.Test.YtkdpaglpieamgaaDoorK9DTVF
namespace Go.Proofs.YtkdpaglpieamgaaDoor
open Go Go.AM Go.ChangeShapes Go.ChangeAt Go.RowKit
set_option linter.unusedVariables false
set_option linter.unusedSimpArgs false
set_option maxRecDepth 100000
theorem wrL {i : Nat} (h : i < 4611686018427387904) : IntKind.i64.wrap ((i : Int) + 1) = ((i + 1 : Nat) : Int) := by rw [w64 (by omega) (by omega)]; rfl
theorem llong_loop (k : Nat) (a : List Ch) (ha : a.length * 88 ≤ 140737488351232) : ∀ (l : List Ch) (fuel i : Nat) (out : List Fl), a.drop i = l → l.length < fuel → out.length = 2 * i → ∃ o, millwrightlaw41_long.l7 k a fuel out (i : Int) = some o
  | _, 0, _, _, _, h, _ => by omega
  | [], f + 1, i, out, hl, _, _ => by
    have := at_nil hl
    unfold millwrightlaw41_long.l7
    exact ⟨out, by rw [if_neg (by simp; omega)]⟩
  | c :: r, f + 1, i, out, hl, hf, ho => by
    obtain ⟨g1, g2, g3⟩ := at_drop hl
    obtain ⟨o, e⟩ := llong_loop k a ha r f (i + 1) (out ++ [T_tree_File.mk c.f_Old.f_Name c.f_Old.f_Content c.f_Old.f_Time, T_tree_File.mk c.f_New.f_Name c.f_New.f_Content c.f_New.f_Time]) g2 (by simpa using hf) (by simp; omega)
    unfold millwrightlaw41_long.l7
    exact ⟨o, by rw [if_pos (by simp; exact g3), g1, Option.bind_some, if_pos (by simp; omega), wrL (by omega), e]⟩
theorem llong_eq (k : Nat) (a : List Ch) (ha : a.length * 88 ≤ 140737488351232) (hk : a.length < k) (hk2 : 1000 < k) : ∃ b, millwrightlaw41_long.f k a = some b ∧ (b = false → a.length ≤ 40) := by
  unfold millwrightlaw41_long.f millwrightlaw41_long.j4
  obtain ⟨o, e⟩ := llong_loop k a ha a k 0 [] rfl hk rfl
  have e : millwrightlaw41_long.l7 k a k [] 0 = some o := e
  rw [e, Option.bind_some]
  by_cases h : decide ((a.length : Int) > 40) = true
  · rw [if_pos h]; exact ⟨true, rfl, fun h => by cases h⟩
  · rw [if_neg h]
    obtain ⟨b, e1, e2⟩ := long_f2 k hk2 o 80 (by omega)
    rw [e1]
    exact ⟨b, rfl, fun _ => by simp at h; omega⟩
theorem back_back (c : Ch) : backC (backC c) = c := by
  unfold backC
  by_cases h1 : c.f_Kind = 1
  · rw [if_pos h1]
    cases c; simp at h1 ⊢; exact h1.symm
  · rw [if_neg h1]
    by_cases h3 : c.f_Kind = 3
    · rw [if_pos h3]
      cases c; simp at h3 ⊢; exact h3.symm
    · rw [if_neg h3]
      by_cases h2 : c.f_Kind = 2
      · rw [if_pos h2, if_neg h1, if_neg h3, if_pos h2]
      · rw [if_neg h2, if_neg h1, if_neg h3, if_neg h2]
theorem alive_k (K : Nat) : millwrightlaw41_alive.f (K + 40000) = some true := by kernel_rfl
theorem chgs_self (m : Mp) : ∀ (S : List Tx), (∀ n ∈ S, mget n m ≠ none) → chgs m m S = []
  | [], _ => by simp [chgs]
  | n :: S, h => by
    have hc : chgs m m (n :: S) = chg m m n ++ chgs m m S := by simp [chgs]
    rw [hc, chgs_self m S fun x hx => h x (List.mem_cons_of_mem _ hx)]
    unfold chg
    cases e : mget n m with
    | none => exact absurd e (h n List.mem_cons_self)
    | some a => simp [feqB_self]
theorem again_eq (k : Nat) (hk : 1000 < k) {m m' : Mp} {S : List Tx} (hg : Good m) (hg' : Good m') (hS : Cov m m' S) (hSl : S.length ≤ 1000) : ∃ e, delta_Apply_m0.f k m' (chgs m m' S) = some (e, m') ∧ (e = 0 ↔ (chgs m m' S).length = 0) := by
  have hL : (chgs m m' S).length ≤ 1000 := Nat.le_trans (chgs_len S) hSl
  obtain ⟨hnd, _⟩ := chgs_nodup hg.keyed hg'.keyed S hS.nodup fun n hn => (hS.all n).1 hn
  have hchk := check_eq k hk _ hL (fun c hc => by
    obtain ⟨n, hn, hI⟩ := chgs_is hS hc
    exact check_ok k hI hg.keyed hg'.keyed) hnd
  have hfit : ∀ c ∈ chgs m m' S, fitB c m' = false := fun c hc => by
    obtain ⟨n, hn, hI⟩ := chgs_is hS hc
    unfold fitB
    rw [hI.name hg.keyed hg'.keyed]
    rcases hI with ⟨h1, h2, h3, h4⟩ | ⟨h1, h2, h3, h4⟩ | ⟨h1, h2, h3, h4⟩
    · rw [if_pos h1, h3]; rfl
    · rw [if_neg (by omega), h3]; rfl
    · rw [if_neg (by omega), h3]
      simp only [Option.isSome_some, Bool.true_and, Option.getD_some]
      cases hh : feqB c.f_New c.f_Old
      · rfl
      · exact absurd ((feqB_iff _ _).1 hh).symm h4
  unfold delta_Apply_m0.f
  rw [hchk, Option.bind_some, if_neg (by simp)]
  generalize hLL : chgs m m' S = L at *
  cases L with
  | nil =>
    refine ⟨0, ?_, by simp⟩
    have e1 : delta_Apply_m0.l9 k m' [] k 0 = _ := fit_loop k m' [] (by simp) [] k 0 rfl (by simp; omega) (fun c hc => by cases hc)
    have e2 : delta_do_m0.l22 k [] k m' 0 = _ := del_loop k [] (by simp) [] k 0 m' rfl (by simp; omega) (fun c hc => by cases hc) (by simp)
    have e3 : delta_do_m0.l6 k [] k m' 0 = some (.inl m') := by
      cases k with
      | zero => omega
      | succ k => unfold delta_do_m0.l6; rw [if_neg (by simp)]
    have edo : delta_do_m0.f k m' [] = some (0, m') := by
      unfold delta_do_m0.f delta_do_m0.j19 delta_do_m0.j3
      rw [e2, Option.bind_some]
      show (delta_do_m0.l6 k [] k m' 0).bind _ = _
      rw [e3]; rfl
    unfold delta_Apply_m0.j7
    have ec : tree_Tree_Copy_m0.f k m' = some m' := rfl
    rw [e1, Option.bind_some]
    simp only
    rw [ec, Option.bind_some, edo, Option.bind_some, if_neg (by simp), Option.bind_some]
  | cons c r =>
    refine ⟨14, ?_, by simp⟩
    have e1 : delta_Apply_m0.l9 k m' (c :: r) k 0 = some (.inr (14, m')) := by
      cases k with
      | zero => omega
      | succ k =>
        unfold delta_Apply_m0.l9
        have hi : idx (c :: r) 0 = some c := rfl
        rw [if_pos (by simp), hi, Option.bind_some, ch_eta, fits_eq, hfit c List.mem_cons_self, Option.bind_some, if_pos (by simp)]
    rw [e1, Option.bind_some]
theorem deltaTwice_true (a0 a1 : List Fl) (a2 : List Ch) (_ : Wf Un (.list (.named 3)) a0) (_ : Wf Un (.list (.named 3)) a1) (_ : Wf Un (.list (.named 6)) a2) (hw2 : a2.length * 88 ≤ reachBytes) : ∃ k, millwrightlaw41_DeltaTwice.f k a0 a1 a2 = some true := by
  refine ⟨a2.length + 40000, ?_⟩
  have hw2 : a2.length * 88 ≤ 140737488351232 := hw2
  generalize hK : a2.length + 40000 = k
  have ali : millwrightlaw41_alive.f k = some true := hK ▸ alive_k a2.length
  unfold millwrightlaw41_DeltaTwice.f millwrightlaw41_DeltaTwice.j22
  rw [ali, Option.bind_some, if_neg (by decide)]
  obtain ⟨r, hr, h | ⟨m, m', rfl, hg, hg', hv, hv', hl, hl'⟩⟩ := two_eq k (by omega) a0 a1
  · rw [hr, Option.bind_some, h, if_pos (by simp), if_pos rfl]
  · rw [hr, Option.bind_some, if_neg (by simp)]
    obtain ⟨b, e1, e2⟩ := llong_eq k a2 hw2 (by omega) (by omega)
    rw [e1, Option.bind_some]
    cases b with
    | true => rfl
    | false =>
      have h40 := e2 rfl
      have h3 := keys_len m
      have h4 := keys_len m'
      have hsl := sortedS_len (keys m ++ keys m')
      rw [List.length_append] at hsl
      have hcov := allK_cov m m'
      have hSl : (allK m m').length ≤ 100 := by show (sortedS _).length ≤ _; omega
      unfold millwrightlaw41_DeltaTwice.j19
      have hbb : (a2.map backC).map backC = a2 := by
        rw [List.map_map]
        have : a2.map id = a2 := List.map_id a2
        conv => rhs; rw [← this]
        exact List.map_congr_left fun c _ => back_back c
      rw [if_neg (by simp), back_eq k a2 (by omega) (by omega), Option.bind_some, back_eq k _ (by simp; omega) (by simp; omega), Option.bind_some, hbb, ofR_eq k a2 (by omega) (by omega), Option.bind_some, sameR_eq k a2 (by omega) (by omega), Option.bind_some]
      simp only [Bool.not_true, Bool.false_eq_true, if_false, if_true]
      rw [dof_eq k (by omega) m m' (by omega) (by omega) hg hg', Option.bind_some, apply_eq k (by omega) hg hg' hv' hl' hcov (by omega), Option.bind_some]
      simp only [beq_self_eq_true, Bool.not_true, Bool.false_eq_true, if_false]
      obtain ⟨e, e3, e4⟩ := again_eq k (by omega) hg hg' hcov (by omega)
      have hself : delta_Of_m0.f k m' m' = some [] := by
        rw [dof_eq k (by omega) m' m' (by omega) (by omega) hg' hg', chgs_self m' _ fun n hn => by
          have := ((allK_cov m' m').all n).1 hn
          rcases this with h | h <;> exact h]
      rw [e3, Option.bind_some, same_eq k (by omega) hg' hg' (by omega), hself]
      have hcond : ((e == 0) == (((chgs m m' (allK m m')).length : Int) == 0)) = true := by
        by_cases h0 : e = 0
        · have := e4.1 h0; simp [h0, this]
        · have hne : ¬ (chgs m m' (allK m m')).length = 0 := fun h => h0 (e4.2 h)
          have h1 : (e == 0) = false := by simpa using h0
          have h2 : (((chgs m m' (allK m m')).length : Int) == 0) = false := by
            rw [beq_eq_false_iff_ne]; omega
          rw [h1, h2]; rfl
      simp only [hcond, if_true, Option.bind_some, decide_true]
      rfl
end Go.Proofs.YtkdpaglpieamgaaDoor
