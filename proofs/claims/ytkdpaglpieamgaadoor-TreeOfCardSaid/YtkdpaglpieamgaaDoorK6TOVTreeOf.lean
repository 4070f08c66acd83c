/- A part of the proof of a given law: TOVTreeOf. Own work, printed in part by a program of mine. -/
import Derived.Test.YtkdpaglpieamgaaDoorK6TOVC
namespace Go.Proofs.YtkdpaglpieamgaaDoor
open Go Go.AM Go.ChangeShapes Go.ChangeAt Go.RowKit
set_option linter.unusedVariables false
set_option linter.unusedSimpArgs false
set_option maxRecDepth 100000
instance instFl : DecidableEq Fl := fun a b => decidable_of_iff _ (feqB_iff a b)
instance instMp : DecidableEq Mp := inferInstanceAs (DecidableEq (List (List UInt8 × Fl)))
theorem rising_eq : ∀ (m2 m1 : Mp), Rising m1 → Rising m2 → (∀ y ∈ m1, y ∈ m2) → m2.length ≤ m1.length → m1 = m2
  | [], m1, _, _, h, _ => by
    cases m1 with
    | nil => rfl
    | cons y r => cases h y List.mem_cons_self
  | z :: m2, [], _, _, _, hl => by simp at hl
  | z :: m2, y :: m1, h1, h2, h, hl => by
    obtain ⟨p1, p2⟩ := List.pairwise_cons.1 h1
    obtain ⟨q1, q2⟩ := List.pairwise_cons.1 h2
    rcases List.mem_cons.1 (h y List.mem_cons_self) with e | hy
    · subst e
      rw [rising_eq m2 m1 p2 q2 (fun x hx => by
        rcases List.mem_cons.1 (h x (List.mem_cons_of_mem _ hx)) with e | hx'
        · subst e; have := p1 x hx; rw [less_irrefl] at this; cases this
        · exact hx') (by simpa using hl)]
    · have hz := q1 y hy
      have hsub : ∀ x ∈ y :: m1, x ∈ m2 := fun x hx => by
        rcases List.mem_cons.1 (h x hx) with e | hx'
        · subst e
          rcases List.mem_cons.1 hx with e | hx2
          · subst e; rw [less_irrefl] at hz; cases hz
          · have := less_trans hz (p1 x hx2); rw [less_irrefl] at this; cases this
        · exact hx'
      have e := rising_eq m2 (y :: m1) h1 q2 hsub (by simp only [List.length_cons] at hl ⊢; omega)
      rw [← e] at hl; simp at hl; omega
theorem same_iff {m1 m2 : Mp} (h1 : Good m1) (h2 : Good m2) : (m1.length = m2.length ∧ m1.all (entB m2) = true) ↔ m1 = m2 := by
  constructor
  · rintro ⟨hl, ha⟩
    refine rising_eq m2 m1 h1.rising h2.rising (fun y hy => ?_) (by omega)
    have := List.all_eq_true.1 ha y hy
    unfold entB at this
    simp only [Bool.and_eq_true] at this
    obtain ⟨q1, q2⟩ := this
    cases hm : mget y.1 m2 with
    | none => rw [hm] at q1; cases q1
    | some v =>
      rw [hm, Option.getD_some, feqB_iff] at q2
      have := mget_mem hm
      rw [← q2] at this; exact this
  · rintro rfl
    refine ⟨rfl, List.all_eq_true.2 fun y hy => ?_⟩
    unfold entB
    rw [h1.get hy]
    simp [feqB_self]
theorem vals_inj {m1 m2 : Mp} (h1 : Keyed m1) (h2 : Keyed m2) (h : vals m1 = vals m2) : m1 = m2 := by
  have key : ∀ m : Mp, Keyed m → m = (vals m).map fun v => (v.f_Name, v) := fun m hm => by
    unfold vals
    rw [List.map_map]
    have : m.map id = m := List.map_id m
    conv => lhs; rw [← this]
    refine List.map_congr_left fun y hy => ?_
    simp only [id, Function.comp]
    rw [← hm y hy]
  rw [key m1 h1, key m2 h2, h]
theorem same_eq (k : Nat) (hk : 1000 < k) {m1 m2 : Mp} (h1 : Good m1) (h2 : Good m2) (hm : m1.length ≤ 1000) : tree_Same_m0.f k m1 m2 = some (decide (m1 = m2)) := by
  unfold tree_Same_m0.f tree_File_60_m0.f tree_File_60_m0.j2
  have hs := same_iff h1 h2
  by_cases hl : m1.length = m2.length
  · rw [if_neg (by simp [hl]), same_loop0, if_pos (by omega)]
    cases ha : m1.all (entB m2)
    · have : ¬ m1 = m2 := fun e => by have := (hs.2 e).2; rw [ha] at this; cases this
      simp [this]
    · have := hs.1 ⟨hl, ha⟩
      simp [this]
  · have : ¬ m1 = m2 := fun e => hl (by rw [e])
    rw [if_pos (by simp; omega)]; simp [this]
theorem same1_eq (k : Nat) (hk : 1000 < k) {m1 : Mp} (h1 : Good m1) (hm : m1.length ≤ 1000) : tree_Same_m1.f k m1 = some true := by
  unfold tree_Same_m1.f tree_File_60_m1.f tree_File_60_m1.j2
  rw [if_neg (by simp), same_loop1, same_loop0, if_pos (by omega), ((same_iff h1 h1).2 rfl).2]; rfl
def eqL : List Fl → List Fl → Bool
  | [], _ => true
  | _ :: _, [] => false
  | x :: l, y :: r => feqB x y && eqL l r
theorem eqL_iff : ∀ (l r : List Fl), l.length = r.length → (eqL l r = true ↔ l = r)
  | [], [], _ => by simp [eqL]
  | [], _ :: _, h => by simp at h
  | _ :: _, [], h => by simp at h
  | x :: l, y :: r, h => by
    unfold eqL
    rw [Bool.and_eq_true, feqB_iff, eqL_iff l r (by simpa using h), List.cons.injEq]
theorem flag_loop (k : Nat) (v3 v5 : Bool × Mp × Nat) (p q : List Fl) (hp : p.length ≤ 1000) : ∀ (l : List Fl) (fuel i : Nat) (b : Bool), p.drop i = l → l.length < fuel → (b = true → p.length = q.length) →
    millwrightlaw02_TreeOf.l24 k v3 v5 (true, p, 0) (true, q, 0) fuel b (i : Int) = some (b && eqL l (q.drop i))
  | _, 0, _, _, _, h, _ => by omega
  | [], f + 1, i, b, hl, _, hb => by
    have := at_nil hl
    unfold millwrightlaw02_TreeOf.l24
    rw [if_neg (by simp; omega)]
    simp [eqL]
  | x :: r, f + 1, i, b, hl, hf, hb => by
    obtain ⟨g1, g2, g3⟩ := at_drop hl
    unfold millwrightlaw02_TreeOf.l24 millwrightlaw02_TreeOf.j30
    rw [if_pos (by simp; exact g3), g1, Option.bind_some, wr1 (by omega)]
    cases b
    · rw [if_neg (by simp), flag_loop k v3 v5 p q hp r f (i + 1) false g2 (by simpa using hf) (fun h => by cases h)]; rfl
    · have hpq := hb rfl
      have hi : i < q.length := by omega
      have hfe : ∀ z : Fl, (x.f_Name == z.f_Name && (x.f_Content == z.f_Content && (x.f_Time == z.f_Time && true))) = feqB x z := fun z => rfl
      rw [if_pos rfl, idx_at rfl hi, Option.bind_some, hfe, flag_loop k v3 v5 p q hp r f (i + 1) _ g2 (by simpa using hf) (fun _ => hpq), List.drop_eq_getElem_cons hi, Bool.true_and]
      rfl
theorem flag_eq (k : Nat) (hk : 1000 < k) (v3 v5 : Bool × Mp × Nat) (p q : List Fl) (hp : p.length ≤ 1000) : millwrightlaw02_TreeOf.l24 k v3 v5 (true, p, 0) (true, q, 0) k ((p.length : Int) == (q.length : Int)) 0 = some (decide (p = q)) := by
  have e0 := flag_loop k v3 v5 p q hp p k 0 ((p.length : Int) == (q.length : Int)) rfl (by omega) (fun h => by simp at h; omega)
  have e0' : millwrightlaw02_TreeOf.l24 k v3 v5 (true, p, 0) (true, q, 0) k ((p.length : Int) == (q.length : Int)) 0 = _ := e0
  rw [e0']
  congr 1
  rw [Bool.eq_iff_iff, Bool.and_eq_true, decide_eq_true_eq, beq_iff_eq, List.drop_zero]
  constructor
  · rintro ⟨h1, h2⟩
    exact (eqL_iff p q (by omega)).1 h2
  · rintro rfl; exact ⟨rfl, (eqL_iff p p rfl).2 rfl⟩
theorem num_eq : ∀ e : Fin 19, millwrightnum_Num.f 4000 e.val = some (e.val : Int) := by decide +kernel
theorem num_e {e : Nat} (h : e ≤ 18) : millwrightnum_Num.f 4000 e = some (e : Int) := num_eq ⟨e, by omega⟩
theorem treeOf_true (a0 a1 : List Fl) (_ : Wf Un (.list (.named 3)) a0) (_ : Wf Un (.list (.named 3)) a1) : ∃ k, millwrightlaw02_TreeOf.f k a0 a1 = some true := by
  refine ⟨4000, ?_⟩
  have ali : millwrightlaw02_alive.f 4000 = some true := by decide +kernel
  unfold millwrightlaw02_TreeOf.f millwrightlaw02_TreeOf.j234
  rw [ali, Option.bind_some, if_neg (by decide)]
  obtain ⟨b, e1, e2⟩ := long_f2 4000 (by omega) a0 60 (by omega)
  obtain ⟨c, f1, f2⟩ := long_f2 4000 (by omega) a1 60 (by omega)
  rw [e1, f1, Option.bind_some, Option.bind_some]
  cases b with
  | true => rfl
  | false =>
    cases c with
    | true => rfl
    | false =>
      obtain ⟨l1, n1⟩ := e2 rfl
      obtain ⟨l2, n2⟩ := f2 rfl
      simp only [Bool.false_eq_true, if_false]
      have num0 : millwrightnum_Num.f 4000 0 = some 0 := num_e (by omega)
      unfold millwrightlaw02_TreeOf.j231
      rw [lof_eq 4000 (by omega) a0 (by omega), lof_eq 4000 (by omega) a1 (by omega)]
      rcases of_both 4000 (by omega) a0 (by omega) n1 with ⟨e, p1, p2, p3, p4⟩ | ⟨m, p3, p4, p5, p6⟩
      · rcases of_both 4000 (by omega) a1 (by omega) n2 with ⟨e', q1, q2, q3, q4⟩ | ⟨m', q3, q4, q5, q6⟩
        · simp only [p3, p4, q3, q4, Option.bind_some, Bool.false_eq_true, if_false, num_e p2, num_e q2]
          simp [millwrightlaw02_TreeOf.j225, millwrightlaw02_TreeOf.j222, millwrightlaw02_TreeOf.j221]
        · simp only [p3, p4, q3, q4, Option.bind_some, Bool.false_eq_true, if_false, if_true, num_e p2, num0]
          simp [millwrightlaw02_TreeOf.j202, millwrightlaw02_TreeOf.j199, millwrightlaw02_TreeOf.j198, millwrightlaw02_TreeOf.j176, millwrightlaw02_TreeOf.j173, millwrightlaw02_TreeOf.j172, millwrightlaw02_TreeOf.j162, millwrightlaw02_TreeOf.j163, millwrightlaw02_TreeOf.j166]
      · rcases of_both 4000 (by omega) a1 (by omega) n2 with ⟨e', q1, q2, q3, q4⟩ | ⟨m', q3, q4, q5, q6⟩
        · simp only [p3, p4, q3, q4, Option.bind_some, Bool.false_eq_true, if_false, if_true, num_e q2, num0]
          simp [millwrightlaw02_TreeOf.j102, millwrightlaw02_TreeOf.j99, millwrightlaw02_TreeOf.j98]
        · simp only [p3, p4, q3, q4, Option.bind_some, if_true, num0]
          have hfin : millwrightlaw02_TreeOf.j35 4000 (true, m, 0) (true, m', 0) (true, vals m, 0) (true, vals m', 0) = some true := by
            unfold millwrightlaw02_TreeOf.j35 millwrightlaw02_TreeOf.j21
            rw [flag_eq 4000 (by omega) _ _ _ _ (by simp only [vals_len]; omega), Option.bind_some]
            simp only
            rw [shows_eq 4000 (by omega) m p6 (by omega), shows_eq 4000 (by omega) m' q6 (by omega), same_eq 4000 (by omega) p6 q6 (by omega), same1_eq 4000 (by omega) p6 (by omega)]
            have : decide (m = m') = decide (vals m = vals m') := by
              rw [decide_eq_decide]
              exact ⟨fun e => by rw [e], vals_inj p6.keyed q6.keyed⟩
            simp [this]
          simp [millwrightlaw02_TreeOf.j40, millwrightlaw02_TreeOf.j37, millwrightlaw02_TreeOf.j36, hfin]
end Go.Proofs.YtkdpaglpieamgaaDoor
