/- A part of the proof of a given law: TPVC. Own work, printed in part by a program of mine. -/
import Derived.Test.YtkdpaglpieamgaaDoorK7TPVB
namespace Go.Proofs.YtkdpaglpieamgaaDoor
open Go Go.AM Go.ChangeShapes Go.ChangeAt Go.RowKit
set_option linter.unusedVariables false
set_option linter.unusedSimpArgs false
set_option maxRecDepth 100000
/-- A tree that can be. -/
structure Good (m : Mp) : Prop where
  rising : Rising m
  keyed : Keyed m
  short : Short m
theorem vals_len (m : Mp) : (vals m).length = m.length := by unfold vals; simp
theorem Good.nil : Good [] := ⟨.nil, fun y hy => by (cases hy), fun y hy => by (cases hy)⟩
theorem Good.put {m : Mp} (h : Good m) (f : Fl) : Good (putS m f).2 := by
  refine ⟨?_, ?_, h.short.putS f⟩
  · unfold putS; simp only; split
    · exact h.rising.put
    · exact h.rising
  · unfold putS; simp only; split
    · intro y hy
      rcases mput_mem hy with rfl | hy
      · rfl
      · exact h.keyed y hy
    · exact h.keyed
theorem Good.del {m : Mp} (h : Good m) (n : List UInt8) : Good (mdel n m) := ⟨h.rising.del n, fun y hy => h.keyed y (List.mem_filter.1 hy).1, h.short.del n⟩
theorem mayS_le (m : Mp) (f : Fl) : mayS m f ≤ 18 := by
  unfold mayS
  repeat' split
  all_goals omega

/-! ### what a tree shows -/
theorem Good.get {m : Mp} (h : Good m) {y : List UInt8 × Fl} (hy : y ∈ m) : mget y.1 m = some y.2 := mget_of h.rising.apart hy
theorem files_loop (k : Nat) (m : Mp) (hg : Good m) (hm : m.length ≤ 1000) : ∀ (l : Mp) (fuel i : Nat) (out : List Fl), m.drop i = l → l.length < fuel → out.length ≤ i → tree_Tree_Files_m0.l6 k m (m.map (·.1)) fuel out (i : Int) = some (out ++ vals l)
  | _, 0, _, _, _, h, _ => by omega
  | [], f + 1, i, out, hl, _, _ => by
    have := at_nil hl
    unfold tree_Tree_Files_m0.l6
    rw [if_neg (by simp; omega)]; simp [vals]
  | y :: r, f + 1, i, out, hl, hf, ho => by
    obtain ⟨g1, g2, g3⟩ := at_drop hl
    have hy : y ∈ m := List.mem_of_mem_drop (hl ▸ List.mem_cons_self)
    have g1' : idx (m.map (·.1)) (i : Int) = some y.1 := by
      rw [idx_at rfl (by simpa using g3)] at g1 ⊢
      rw [List.getElem_map]; simp only [Option.some.injEq] at g1 ⊢; rw [g1]
    have ih := files_loop k m hg hm r f (i + 1) (out ++ [y.2]) g2 (by simpa using hf) (by simp; omega)
    unfold tree_Tree_Files_m0.l6
    rw [if_pos (by simp; exact g3), g1', Option.bind_some, wr1 (by omega), hg.get hy, Option.getD_some, if_pos (lim_ok (by omega)), ih]; simp [vals]
theorem files_eq (k : Nat) (hk : 1000 < k) (m : Mp) (hg : Good m) (hm : m.length ≤ 1000) : tree_Tree_Files_m0.f k m = some (vals m) := by
  unfold tree_Tree_Files_m0.f tree_Tree_Files_m0.j2
  rw [names_eq k m hm hg.short, Option.bind_some]
  have e0 : tree_Tree_Files_m0.l6 k m (m.map (·.1)) k [] 0 = _ := files_loop k m hg hm m k 0 [] rfl (by omega) (by simp)
  rw [e0]; rfl
theorem lat_eq (k : Nat) (hk : 1000 < k) (m : Mp) (hm : m.length ≤ 1000) : tree_Tree_Latest_m0.f k m = some (latest 0 m) := by
  unfold tree_Tree_Latest_m0.f tree_Tree_Latest_m0.j2
  rw [latest_loop, if_pos (by omega)]; rfl
theorem rlat_loop (k : Nat) (w : List Fl) (hw : w.length ≤ 1000) : ∀ (l : Mp) (fuel i : Nat) (v : Int), w.drop i = vals l → l.length < fuel → millwrightref02_Tree_Latest_m0.l5 k w fuel v (i : Int) = some (latest v l)
  | _, 0, _, _, _, h => by omega
  | [], f + 1, i, v, hl, _ => by
    have := at_nil hl
    unfold millwrightref02_Tree_Latest_m0.l5
    rw [if_neg (by simp; omega)]; rfl
  | y :: r, f + 1, i, v, hl, hf => by
    obtain ⟨g1, g2, g3⟩ := at_drop hl
    have ih := fun v => rlat_loop k w hw r f (i + 1) v g2 (by simpa using hf)
    unfold millwrightref02_Tree_Latest_m0.l5 millwrightref02_Tree_Latest_m0.j11
    rw [if_pos (by simp; exact g3), g1, Option.bind_some, wr1 (by omega), ih, ih]
    have e : latest v (y :: r) = latest (mx v y.2.f_Time) r := rfl
    rw [e]
    by_cases h : y.2.f_Time > v
    · have : mx v y.2.f_Time = y.2.f_Time := by unfold mx; rw [if_pos h]
      rw [if_pos (by simpa using h), this]
    · have : mx v y.2.f_Time = v := by unfold mx; rw [if_neg h]
      rw [if_neg (by simpa using h), this]
theorem rlat_eq (k : Nat) (hk : 1000 < k) (m : Mp) (hm : m.length ≤ 1000) : millwrightref02_Tree_Latest_m0.f k (vals m) = some (latest 0 m) := by
  unfold millwrightref02_Tree_Latest_m0.f millwrightref02_Tree_Latest_m0.j2
  have e0 : millwrightref02_Tree_Latest_m0.l5 k (vals m) k 0 0 = _ := rlat_loop k (vals m) (by rw [vals_len]; omega) m k 0 0 rfl (by omega)
  rw [e0]; rfl
theorem feqB_self (x : Fl) : feqB x x = true := by unfold feqB; simp
theorem feqB_iff (x y : Fl) : feqB x y = true ↔ x = y := by
  constructor
  · intro h
    unfold feqB at h
    simp only [Bool.and_eq_true, beq_iff_eq, and_true] at h
    cases x; cases y; simp_all
  · rintro rfl; exact feqB_self x
theorem shows_loop (k : Nat) (m : Mp) (hg : Good m) (hm : m.length ≤ 1000) (a0 : Mp) : ∀ (l : Mp) (fuel i : Nat), m.drop i = l → l.length < fuel → millwrightlaw02_Shows_m0.l6 k a0 (vals m) (vals m) (m.map (·.1)) fuel (i : Int) = some (.inl ())
  | _, 0, _, _, h => by omega
  | [], f + 1, i, hl, _ => by
    have := at_nil hl
    unfold millwrightlaw02_Shows_m0.l6
    rw [if_neg (by simp; omega)]
  | y :: r, f + 1, i, hl, hf => by
    obtain ⟨g1, g2, g3⟩ := at_drop hl
    have hy : y ∈ m := List.mem_of_mem_drop (hl ▸ List.mem_cons_self)
    have hlen := vals_len m
    rw [idx_at rfl g3] at g1
    have g1 := Option.some.inj g1
    have e1 : idx (m.map (·.1)) (i : Int) = some y.1 := by rw [idx_at rfl (by simpa using g3), List.getElem_map, g1]
    have e2 : idx (vals m) (i : Int) = some y.2 := by rw [idx_at rfl (by omega)]; unfold vals; rw [List.getElem_map, g1]
    have ih := shows_loop k m hg hm a0 r f (i + 1) g2 (by simpa using hf)
    have hk := hg.keyed y hy
    have hq : (y.2.f_Name == y.2.f_Name && (y.2.f_Content == y.2.f_Content && (y.2.f_Time == y.2.f_Time && true))) = true := feqB_self y.2
    unfold millwrightlaw02_Shows_m0.l6 millwrightlaw02_Shows_m0.j14 millwrightlaw02_Shows_m0.j10
    rw [if_pos (by simp; exact g3), e1, Option.bind_some, e2, if_neg (by rw [decide_eq_true_eq]; omega), Option.bind_some, if_neg (by simp [hk]), Option.bind_some, Option.bind_some, hq, wr1 (by omega), ih]; rfl
theorem shows_eq (k : Nat) (hk : 1000 < k) (m : Mp) (hg : Good m) (hm : m.length ≤ 1000) : millwrightlaw02_Shows_m0.f k m (vals m) = some true := by
  unfold millwrightlaw02_Shows_m0.f millwrightlaw02_Shows_m0.j25 millwrightlaw02_Shows_m0.j22 millwrightlaw02_Shows_m0.j3
  rw [files_eq k hk m hg hm, Option.bind_some, if_neg (by simp), lat_eq k hk m hm, Option.bind_some, rlat_eq k hk m hm, Option.bind_some, if_neg (by simp), names_eq k m hm hg.short, Option.bind_some]
  have e0 : millwrightlaw02_Shows_m0.l6 k m (vals m) (vals m) (m.map (·.1)) k 0 = _ := shows_loop k m hg hm m m k 0 rfl (by omega)
  rw [e0, Option.bind_some, Option.bind_some]
  simp [vals_len]
end Go.Proofs.YtkdpaglpieamgaaDoor
