/- A part of the proof of a given law: DTVC. Own work, printed in part by a program of mine. -/
import Derived.Test.YtkdpaglpieamgaaDoorK9DTVB
namespace Go.Proofs.YtkdpaglpieamgaaDoor
open Go Go.AM Go.ChangeShapes Go.ChangeAt Go.RowKit
set_option linter.unusedVariables false
set_option linter.unusedSimpArgs false
set_option maxRecDepth 100000
theorem rix {α β : Type} {l : List α} {i : Nat} {x : α} {f : α → Option β} (h : idx l (i : Int) = some x) : (if (0 : Int) ≤ (i : Int) ∧ (i : Int) < (l.length : Int) then (l[0 + (i : Int).toNat]?).bind f else none) = f x := by
  have hi : i < l.length := by
    rcases Nat.lt_or_ge i l.length with h' | h'
    · exact h'
    · rw [idx_none (.inr (by omega))] at h; cases h
  rw [idx_at rfl hi] at h
  rw [if_pos ⟨by omega, by omega⟩]
  have e : l[0 + (i : Int).toNat]? = some x := by rw [← h]; simp [hi]
  rw [e]; rfl
/-- A tree that can be. -/
structure Good (m : Mp) : Prop where
  rising : Rising m
  keyed : Keyed m
  short : Short m
theorem vals_len (m : Mp) : (vals m).length = m.length := by unfold vals; simp
theorem Good.nil : Good [] := ⟨.nil, fun y hy => by (cases hy), fun y hy => by (cases hy)⟩
theorem Good.put {m : Mp} (h : Good m) (f : Fl) : Good (putS m f).2 := by
  refine ⟨?_, ?_, h.short.putS f⟩
  · unfold putS; simp only; split
    · exact h.rising.put
    · exact h.rising
  · unfold putS; simp only; split
    · intro y hy
      rcases mput_mem hy with rfl | hy
      · rfl
      · exact h.keyed y hy
    · exact h.keyed
theorem Good.del {m : Mp} (h : Good m) (n : List UInt8) : Good (mdel n m) := ⟨h.rising.del n, fun y hy => h.keyed y (List.mem_filter.1 hy).1, h.short.del n⟩
theorem mayS_le (m : Mp) (f : Fl) : mayS m f ≤ 18 := by
  unfold mayS
  repeat' split
  all_goals omega

/-! ### a tree of files, and the document's -/
theorem rof_loop (k : Nat) (hk : 2000 < k) (a : List Fl) (ha : a.length ≤ 200) (hn : ∀ f ∈ a, f.f_Name.length ≤ 100) : ∀ (l : List Fl) (fuel i : Nat) (m : Mp), a.drop i = l → i ≤ a.length → l.length < fuel → m.length ≤ i → Good m →
    (∃ e, e ≠ 0 ∧ e ≤ 18 ∧ tree_Of.l6 k a fuel m (i : Int) = some (.inr (false, [], e)) ∧ millwrightref02_Of.l5 k a fuel (vals m) (i : Int) = some (.inr (false, [], (e : Int)))) ∨
      ∃ m', tree_Of.l6 k a fuel m (i : Int) = some (.inl m') ∧ millwrightref02_Of.l5 k a fuel (vals m) (i : Int) = some (.inl (vals m')) ∧ m'.length ≤ a.length ∧ Good m'
  | _, 0, _, _, _, _, h, _, _ => by omega
  | [], fu + 1, i, m, hl, hia, _, h1, h2 => by
    have h0 := at_nil hl
    right
    refine ⟨m, ?_, ?_, by omega, h2⟩
    · unfold tree_Of.l6
      rw [if_neg (by simp; omega)]
    · unfold millwrightref02_Of.l5
      rw [if_neg (by simp; omega)]
  | x :: r, fu + 1, i, m, hl, hia, hf, h1, h2 => by
    obtain ⟨g1, g2, g3⟩ := at_drop hl
    have hx : x ∈ a := List.mem_of_mem_drop (hl ▸ List.mem_cons_self)
    unfold tree_Of.l6 millwrightref02_Of.l5
    rw [if_pos (by simp; exact g3), if_pos (by simp; exact g3), g1, Option.bind_some, Option.bind_some, get_eq, Option.bind_some, at_eq k _ _ (by rw [vals_len]; omega) (by rw [vals_len]; omega), Option.bind_some]
    rcases atI_spec x.f_Name m h2.keyed with ⟨q1, q2⟩ | ⟨v, j, q1, q2, q3⟩
    · rw [q1, q2, if_neg (by decide), if_neg (by decide)]
      rw [put_eq k (by omega), Option.bind_some, fl_eta, rput_eq k m x hk (by omega) (by have := hn x hx; omega) h2.rising h2.keyed, Option.bind_some]
      have e1 : (putS m x).1 = mayS m x := rfl
      rw [e1]
      by_cases h0 : mayS m x = 0
      · rw [h0, if_neg (by simp), if_neg (by simp), wr1 (by omega)]
        refine rof_loop k hk a ha hn r fu (i + 1) _ g2 (by omega) (by simpa using hf) ?_ (h2.put x)
        have := putS_len m x; omega
      · left
        exact ⟨mayS m x, h0, mayS_le m x, by rw [if_pos (by simpa using h0)], by rw [if_pos (by simp; omega)]⟩
    · left
      rw [q1, q2]
      exact ⟨9, by decide, by decide, by simp, by rw [if_pos (by rw [decide_eq_true_eq]; omega)]; rfl⟩
theorem of_both (k : Nat) (hk : 2000 < k) (a : List Fl) (ha : a.length ≤ 200) (hn : ∀ f ∈ a, f.f_Name.length ≤ 100) :
    (∃ e, e ≠ 0 ∧ e ≤ 18 ∧ tree_Of.f k a = some (false, [], e) ∧ millwrightref02_Of.f k a = some (false, [], (e : Int))) ∨
      ∃ m, tree_Of.f k a = some (true, m, 0) ∧ millwrightref02_Of.f k a = some (true, vals m, 0) ∧ m.length ≤ a.length ∧ Good m := by
  unfold tree_Of.f millwrightref02_Of.f tree_New.f tree_Of.j3 millwrightref02_Of.j2
  rcases rof_loop k hk a ha hn a k 0 [] rfl (by omega) (by omega) (by simp) .nil with ⟨e, h1, h2, h3, h4⟩ | ⟨m, h3, h4, h5, h6⟩
  · left
    have h3 : tree_Of.l6 k a k [] 0 = _ := h3
    have h4 : millwrightref02_Of.l5 k a k [] 0 = _ := h4
    exact ⟨e, h1, h2, by rw [Option.bind_some, h3]; rfl, by rw [h4]; rfl⟩
  · right
    have h3 : tree_Of.l6 k a k [] 0 = _ := h3
    have h4 : millwrightref02_Of.l5 k a k [] 0 = _ := h4
    exact ⟨m, by rw [Option.bind_some, h3]; rfl, by rw [h4]; rfl, h5, h6⟩
theorem lof_loop (k : Nat) (a : List Fl) (ha : a.length ≤ 1000) : ∀ (l : List Fl) (fuel i : Nat) (out : List Fl), a.drop i = l → l.length < fuel → out.length ≤ i → millwrightlaw02_Of.l5 k a fuel out (i : Int) = some (out ++ l)
  | _, 0, _, _, _, h, _ => by omega
  | [], f + 1, i, out, hl, _, _ => by
    have := at_nil hl
    unfold millwrightlaw02_Of.l5
    rw [if_neg (by simp; omega)]; simp
  | x :: r, f + 1, i, out, hl, hf, ho => by
    obtain ⟨g1, g2, g3⟩ := at_drop hl
    have ih := lof_loop k a ha r f (i + 1) (out ++ [x]) g2 (by simpa using hf) (by simp; omega)
    unfold millwrightlaw02_Of.l5
    rw [if_pos (by simp; exact g3), g1, Option.bind_some, wr1 (by omega), fl_eta, if_pos (lim_ok (by omega)), ih]; simp
theorem lof_eq (k : Nat) (hk : 1000 < k) (a : List Fl) (ha : a.length ≤ 1000) : millwrightlaw02_Of.f k a = some a := by
  unfold millwrightlaw02_Of.f millwrightlaw02_Of.j2
  have e0 : millwrightlaw02_Of.l5 k a k [] 0 = _ := lof_loop k a ha a k 0 [] rfl (by omega) (by simp)
  rw [e0]; rfl

/-! ### what a tree shows -/
theorem Good.get {m : Mp} (h : Good m) {y : List UInt8 × Fl} (hy : y ∈ m) : mget y.1 m = some y.2 := mget_of h.rising.apart hy
theorem feqB_self (x : Fl) : feqB x x = true := by unfold feqB; simp
theorem feqB_iff (x y : Fl) : feqB x y = true ↔ x = y := by
  constructor
  · intro h
    unfold feqB at h
    simp only [Bool.and_eq_true, beq_iff_eq, and_true] at h
    cases x; cases y; simp_all
  · rintro rfl; exact feqB_self x
instance instFl : DecidableEq Fl := fun a b => decidable_of_iff _ (feqB_iff a b)
instance instMp : DecidableEq Mp := inferInstanceAs (DecidableEq (List (List UInt8 × Fl)))
theorem rising_eq : ∀ (m2 m1 : Mp), Rising m1 → Rising m2 → (∀ y ∈ m1, y ∈ m2) → m2.length ≤ m1.length → m1 = m2
  | [], m1, _, _, h, _ => by
    cases m1 with
    | nil => rfl
    | cons y r => cases h y List.mem_cons_self
  | z :: m2, [], _, _, _, hl => by simp at hl
  | z :: m2, y :: m1, h1, h2, h, hl => by
    obtain ⟨p1, p2⟩ := List.pairwise_cons.1 h1
    obtain ⟨q1, q2⟩ := List.pairwise_cons.1 h2
    rcases List.mem_cons.1 (h y List.mem_cons_self) with e | hy
    · subst e
      rw [rising_eq m2 m1 p2 q2 (fun x hx => by
        rcases List.mem_cons.1 (h x (List.mem_cons_of_mem _ hx)) with e | hx'
        · subst e; have := p1 x hx; rw [less_irrefl] at this; cases this
        · exact hx') (by simpa using hl)]
    · have hz := q1 y hy
      have hsub : ∀ x ∈ y :: m1, x ∈ m2 := fun x hx => by
        rcases List.mem_cons.1 (h x hx) with e | hx'
        · subst e
          rcases List.mem_cons.1 hx with e | hx2
          · subst e; rw [less_irrefl] at hz; cases hz
          · have := less_trans hz (p1 x hx2); rw [less_irrefl] at this; cases this
        · exact hx'
      have e := rising_eq m2 (y :: m1) h1 q2 hsub (by simp only [List.length_cons] at hl ⊢; omega)
      rw [← e] at hl; simp at hl; omega
theorem same_iff {m1 m2 : Mp} (h1 : Good m1) (h2 : Good m2) : (m1.length = m2.length ∧ m1.all (entB m2) = true) ↔ m1 = m2 := by
  constructor
  · rintro ⟨hl, ha⟩
    refine rising_eq m2 m1 h1.rising h2.rising (fun y hy => ?_) (by omega)
    have := List.all_eq_true.1 ha y hy
    unfold entB at this
    simp only [Bool.and_eq_true] at this
    obtain ⟨q1, q2⟩ := this
    cases hm : mget y.1 m2 with
    | none => rw [hm] at q1; cases q1
    | some v =>
      rw [hm, Option.getD_some, feqB_iff] at q2
      have := mget_mem hm
      rw [← q2] at this; exact this
  · rintro rfl
    refine ⟨rfl, List.all_eq_true.2 fun y hy => ?_⟩
    unfold entB
    rw [h1.get hy]
    simp [feqB_self]
theorem vals_inj {m1 m2 : Mp} (h1 : Keyed m1) (h2 : Keyed m2) (h : vals m1 = vals m2) : m1 = m2 := by
  have key : ∀ m : Mp, Keyed m → m = (vals m).map fun v => (v.f_Name, v) := fun m hm => by
    unfold vals
    rw [List.map_map]
    have : m.map id = m := List.map_id m
    conv => lhs; rw [← this]
    refine List.map_congr_left fun y hy => ?_
    simp only [id, Function.comp]
    rw [← hm y hy]
  rw [key m1 h1, key m2 h2, h]
theorem same_eq (k : Nat) (hk : 1000 < k) {m1 m2 : Mp} (h1 : Good m1) (h2 : Good m2) (hm : m1.length ≤ 1000) : tree_Same_m0.f k m1 m2 = some (decide (m1 = m2)) := by
  unfold tree_Same_m0.f tree_File_60_m0.f tree_File_60_m0.j2
  have hs := same_iff h1 h2
  by_cases hl : m1.length = m2.length
  · rw [if_neg (by simp [hl]), same_loop0, if_pos (by omega)]
    cases ha : m1.all (entB m2)
    · have : ¬ m1 = m2 := fun e => by have := (hs.2 e).2; rw [ha] at this; cases this
      simp [this]
    · have := hs.1 ⟨hl, ha⟩
      simp [this]
  · have : ¬ m1 = m2 := fun e => hl (by rw [e])
    rw [if_pos (by simp; omega)]; simp [this]
end Go.Proofs.YtkdpaglpieamgaaDoor
