/- A part of a proof: DAVDeltaApplies. -/
import Derived.Test.YtkdpaglpieamgaaDoorK10DAVG
namespace Go.Proofs.YtkdpaglpieamgaaDoor
open Go Go.AM Go.ChangeShapes Go.ChangeAt Go.RowKit
set_option linter.unusedVariables false
set_option linter.unusedSimpArgs false
set_option maxRecDepth 100000
theorem at_map {α β : Type} {f : α → β} {L : List α} {i : Nat} {c : α} (h : idx L (i : Int) = some c) : idx (L.map f) (i : Int) = some (f c) := by
  have hi : i < L.length := by
    rcases Nat.lt_or_ge i L.length with h' | h'
    · exact h'
    · rw [idx_none (.inr (by omega))] at h; cases h
  rw [idx_at rfl hi] at h
  rw [idx_at rfl (by simpa using hi), List.getElem_map, Option.some.inj h]

theorem at_get {w : List Fl} {j : Nat} {v : Fl} (h : w[j]? = some v) : idx w (j : Int) = some v := by
  have hj : j < w.length := by
    rcases Nat.lt_or_ge j w.length with h' | h'
    · exact h'
    · rw [List.getElem?_eq_none_iff.2 h'] at h; cases h
  rw [idx_at rfl hj]
  rw [List.getElem?_eq_getElem hj] at h
  exact h
theorem rback_loop (k : Nat) (L : List Ch) (hL : L.length ≤ 1000) : ∀ (l : List Ch) (fuel i : Nat) (out : List Rc), L.drop i = l → l.length < fuel → out.length ≤ i → R41_Back.l5 k (L.map toR) fuel out (i : Int) = some (out ++ (l.map backC).map toR)
  | _, 0, _, _, _, h, _ => by omega
  | [], f + 1, i, out, hl, _, _ => by
    have := at_nil hl
    unfold R41_Back.l5
    rw [if_neg (by simp; omega)]; simp
  | c :: r, f + 1, i, out, hl, hf, ho => by
    obtain ⟨g1, g2, g3⟩ := at_drop hl
    have ih := fun out h => rback_loop k L hL r f (i + 1) out g2 (by simpa using hf) h
    have e1 : (toR c).fK = c.fK := rfl
    have e2 : (toR c).fO = c.fO := rfl
    have e3 : (toR c).fW = c.fW := rfl
    have h23 : ∀ (q : Int) (x y : Fl), R41_Back.j23 k (R41_Back.l5 k (L.map toR) f) (L.map toR) out (i : Int) q x.fN x.fC x.fT y.fN y.fC y.fT = some ((out ++ [⟨q, x, y⟩]) ++ (r.map backC).map toR) := fun q x y => by
      unfold R41_Back.j23 R41_Back.j11
      rw [fl_eta, fl_eta, if_pos (lim_ok (by omega)), wr1 (by omega), ih _ (by simp; omega)]
    unfold R41_Back.l5 R41_Back.j30 R41_Back.j28 R41_Back.j26
    rw [if_pos (by simp; exact g3), at_map g1, Option.bind_some, List.map_cons, List.map_cons]
    simp only [e1, e2, e3, h23]
    unfold backC
    by_cases h1 : c.fK = 1
    · simp [h1, toR]
    · by_cases h3 : c.fK = 3
      · simp [h3, toR]
      · by_cases h2 : c.fK = 2
        · simp [h2, toR]
        · have hh : ¬ (1 ≤ c.fK ∧ c.fK ≤ 3) := by omega
          by_cases h4 : 1 ≤ c.fK
          · have h5 : ¬ c.fK ≤ 3 := fun h => hh ⟨h4, h⟩
            simp [h1, h2, h3, h4, h5, toR]
          · simp [h1, h2, h3, h4, toR]
theorem rback_eq (k : Nat) (hk : 2000 < k) (L : List Ch) (hL : L.length ≤ 1000) : R41_Back.f k (L.map toR) = some ((L.map backC).map toR) := by
  unfold R41_Back.f R41_Back.j2
  have e0 : R41_Back.l5 k (L.map toR) k [] 0 = _ := rback_loop k L hL L k 0 [] rfl (by omega) (by simp)
  rw [e0]; rfl

theorem names_loop (k : Nat) (L : List Ch) (hL : L.length ≤ 1000) : ∀ (l : List Ch) (fuel i : Nat) (out : List Tx), L.drop i = l → l.length < fuel → out.length ≤ i → delta_Names.l6 k L fuel out (i : Int) = some (out ++ l.map nmC)
  | _, 0, _, _, _, h, _ => by omega
  | [], f + 1, i, out, hl, _, _ => by
    have := at_nil hl
    unfold delta_Names.l6
    rw [if_neg (by simp; omega)]; simp
  | c :: r, f + 1, i, out, hl, hf, ho => by
    obtain ⟨g1, g2, g3⟩ := at_drop hl
    unfold delta_Names.l6
    rw [if_pos (by simp; exact g3), g1, Option.bind_some, ch_eta, name_eq, Option.bind_some, if_pos (lim_ok (by omega)), wr1 (by omega), names_loop k L hL r f (i + 1) _ g2 (by simpa using hf) (by simp; omega)]; simp
theorem dnames_eq (k : Nat) (hk : 2000 < k) (L : List Ch) (hL : L.length ≤ 1000) : delta_Names.f k L = some (sortedS (L.map nmC)) := by
  unfold delta_Names.f delta_Names.j3
  have e0 : delta_Names.l6 k L k [] 0 = _ := names_loop k L hL L k 0 [] rfl (by omega) (by simp)
  rw [e0, Option.bind_some, List.nil_append, names_sorted k _ (by simp; omega), Option.bind_some]
theorem sametx_loop (k : Nat) (a : List Tx) (ha : a.length ≤ 10000) : ∀ (l : List Tx) (fuel i : Nat), a.drop i = l → l.length < fuel → Nm_SameTexts.l4 k a a fuel (i : Int) = some (.inl ())
  | _, 0, _, _, h => by omega
  | [], f + 1, i, hl, _ => by
    have := at_nil hl
    unfold Nm_SameTexts.l4
    rw [if_neg (by simp; omega)]
  | c :: r, f + 1, i, hl, hf => by
    obtain ⟨g1, g2, g3⟩ := at_drop hl
    unfold Nm_SameTexts.l4
    rw [if_pos (by simp; exact g3), g1, Option.bind_some, Option.bind_some, if_neg (by simp), wr1 (by omega), sametx_loop k a ha r f (i + 1) g2 (by simpa using hf)]
theorem sametx_eq (k : Nat) (hk : 20000 < k) (a : List Tx) (ha : a.length ≤ 10000) : Nm_SameTexts.f k a a = some true := by
  unfold Nm_SameTexts.f Nm_SameTexts.j2
  have e0 : Nm_SameTexts.l4 k a a k 0 = _ := sametx_loop k a ha a k 0 rfl (by omega)
  rw [if_neg (by simp), e0]; rfl
theorem has1_loop (k : Nat) (a : List Tx) (ha : a.length ≤ 1000) (n : Tx) : ∀ (l : List Tx) (fuel i : Nat), a.drop i = l → l.length < fuel → Nm_Has.l3 k a n fuel (i : Int) = some (if n ∈ l then .inr true else .inl ())
  | _, 0, _, _, h => by omega
  | [], f + 1, i, hl, _ => by
    have := at_nil hl
    unfold Nm_Has.l3
    rw [if_neg (by simp; omega)]; simp
  | c :: r, f + 1, i, hl, hf => by
    obtain ⟨g1, g2, g3⟩ := at_drop hl
    unfold Nm_Has.l3
    rw [if_pos (by simp; exact g3), g1, Option.bind_some, wr1 (by omega), has1_loop k a ha n r f (i + 1) g2 (by simpa using hf)]
    by_cases h : c = n
    · rw [if_pos (by simpa using h), if_pos (by rw [h]; exact List.mem_cons_self)]
    · rw [if_neg (by simpa using h)]
      have : n ∈ c :: r ↔ n ∈ r := by rw [List.mem_cons]; exact ⟨fun h' => h'.elim (fun e => absurd e.symm h) id, .inr⟩
      simp [this]
def hasB (a : List Tx) (n : Tx) : Bool := decide (n ∈ a)
theorem has1_eq (k : Nat) (hk : 2000 < k) (a : List Tx) (ha : a.length ≤ 1000) (n : Tx) : Nm_Has.f k a n = some (hasB a n) := by
  unfold Nm_Has.f Nm_Has.j1 hasB
  have e0 : Nm_Has.l3 k a n k 0 = _ := has1_loop k a ha n a k 0 rfl (by omega)
  rw [e0]
  by_cases h : n ∈ a
  · rw [if_pos h]; simp [h]
  · rw [if_neg h]; simp [h]
theorem has2_loop (k : Nat) (a : List Tx) (ha : a.length ≤ 1000) (n : Tx) : ∀ (l : List Tx) (fuel i : Nat), a.drop i = l → l.length < fuel → ∃ o, slices_Index_string_string.l3 k a n fuel (i : Int) = some o ∧ ((n ∉ l ∧ o = .inl ()) ∨ (n ∈ l ∧ ∃ j : Nat, o = .inr (j : Int)))
  | _, 0, _, _, h => by omega
  | [], f + 1, i, hl, _ => by
    have := at_nil hl
    unfold slices_Index_string_string.l3
    exact ⟨_, by rw [if_neg (by simp; omega)], .inl ⟨by simp, rfl⟩⟩
  | c :: r, f + 1, i, hl, hf => by
    obtain ⟨g1, g2, g3⟩ := at_drop hl
    obtain ⟨o, e, h⟩ := has2_loop k a ha n r f (i + 1) g2 (by simpa using hf)
    unfold slices_Index_string_string.l3
    rw [if_pos (by simp; exact g3), g1, Option.bind_some, wr1 (by omega), e]
    by_cases hc : n = c
    · rw [if_pos (by simpa using hc)]
      exact ⟨_, rfl, .inr ⟨by rw [hc]; exact List.mem_cons_self, i, rfl⟩⟩
    · rw [if_neg (by simpa using hc)]
      refine ⟨o, rfl, ?_⟩
      rcases h with ⟨h1, h2⟩ | ⟨h1, h2⟩
      · exact .inl ⟨by simp [hc, h1], h2⟩
      · exact .inr ⟨List.mem_cons_of_mem _ h1, h2⟩
theorem has2_eq (k : Nat) (hk : 2000 < k) (a : List Tx) (ha : a.length ≤ 1000) (n : Tx) : names_Has.f k a n = some (hasB a n) := by
  unfold names_Has.f slices_Contains_string_string.f slices_Index_string_string.f slices_Index_string_string.j1 hasB
  obtain ⟨o, e, h⟩ := has2_loop k a ha n a k 0 rfl (by omega)
  have e : slices_Index_string_string.l3 k a n k 0 = some o := e
  rw [e]
  rcases h with ⟨h1, rfl⟩ | ⟨h1, j, rfl⟩
  · simp [h1]
  · simp [h1]
theorem only_loop (k : Nat) (hk : 2000 < k) (L : List Ch) (hL : L.length ≤ 1000) (a : List Tx) (ha : a.length ≤ 1000) : ∀ (l : List Ch) (fuel i : Nat) (out : List Ch), L.drop i = l → l.length < fuel → out.length ≤ i → delta_Only.l5 k L a fuel out (i : Int) = some (out ++ l.filter fun c => hasB a (nmC c))
  | _, 0, _, _, _, h, _ => by omega
  | [], f + 1, i, out, hl, _, _ => by
    have := at_nil hl
    unfold delta_Only.l5
    rw [if_neg (by simp; omega)]; simp
  | c :: r, f + 1, i, out, hl, hf, ho => by
    obtain ⟨g1, g2, g3⟩ := at_drop hl
    have ih := fun out h => only_loop k hk L hL a ha r f (i + 1) out g2 (by simpa using hf) h
    unfold delta_Only.l5 delta_Only.j11
    rw [if_pos (by simp; exact g3), g1, Option.bind_some, ch_eta, name_eq, Option.bind_some, has2_eq k hk a ha, Option.bind_some, wr1 (by omega), List.filter_cons]
    cases h : hasB a (nmC c)
    · rw [if_neg (by simp), if_neg (by simp), ih _ (by omega)]
    · rw [if_pos rfl, if_pos rfl, if_pos (lim_ok (by omega)), ih _ (by simp; omega)]; simp
theorem only_eq (k : Nat) (hk : 2000 < k) (L : List Ch) (hL : L.length ≤ 1000) (a : List Tx) (ha : a.length ≤ 1000) : delta_Only.f k L a = some (L.filter fun c => hasB a (nmC c)) := by
  unfold delta_Only.f delta_Only.j2
  have e0 : delta_Only.l5 k L a k [] 0 = _ := only_loop k hk L hL a ha L k 0 [] rfl (by omega) (by simp)
  rw [e0]; rfl
theorem law_loop (k : Nat) (hk : 2000 < k) (L : List Ch) (hL : L.length ≤ 1000) (a : List Tx) (ha : a.length ≤ 1000) (v3) : ∀ (l : List Ch) (fuel i : Nat) (o1 : List Tx) (o2 : List Rc), L.drop i = l → l.length < fuel → o1.length ≤ i → o2.length ≤ i →
    W41_DeltaApplies.l29 k L a v3 (L.map toR) fuel o1 o2 (i : Int) = some (o1 ++ l.map nmC, o2 ++ (l.filter fun c => hasB a (nmC c)).map toR)
  | _, 0, _, _, _, _, h, _, _ => by omega
  | [], f + 1, i, o1, o2, hl, _, _, _ => by
    have := at_nil hl
    unfold W41_DeltaApplies.l29
    rw [if_neg (by simp; omega)]; simp
  | c :: r, f + 1, i, o1, o2, hl, hf, h1, h2 => by
    obtain ⟨g1, g2, g3⟩ := at_drop hl
    have ih := fun o1 o2 h h' => law_loop k hk L hL a ha v3 r f (i + 1) o1 o2 g2 (by simpa using hf) h h'
    unfold W41_DeltaApplies.l29 W41_DeltaApplies.j37
    rw [if_pos (by simp; exact g3), at_map g1, Option.bind_some, rc_eta, rname_eq, Option.bind_some, if_pos (lim_ok (by omega)), has1_eq k hk a ha, Option.bind_some, wr1 (by omega), List.filter_cons]
    cases h : hasB a (nmC c)
    · rw [if_neg (by simp), if_neg (by simp), ih _ _ (by simp; omega) (by omega)]; simp
    · rw [if_pos rfl, if_pos rfl, if_pos (lim_ok (by omega)), ih _ _ (by simp; omega) (by simp; omega)]; simp

theorem nofit_loop (k : Nat) (m : Mp) (L : List Ch) (hL : L.length ≤ 1000) : ∀ (l : List Ch) (fuel i : Nat), L.drop i = l → l.length < fuel → delta_Apply_m0.l9 k m L fuel (i : Int) = some (if l.all (fun c => fitB c m) then .inl () else .inr (14, m))
  | _, 0, _, _, h => by omega
  | [], f + 1, i, hl, _ => by
    have := at_nil hl
    unfold delta_Apply_m0.l9
    rw [if_neg (by simp; omega)]; rfl
  | c :: r, f + 1, i, hl, hf => by
    obtain ⟨g1, g2, g3⟩ := at_drop hl
    unfold delta_Apply_m0.l9
    rw [if_pos (by simp; exact g3), g1, Option.bind_some, ch_eta, fits_eq, Option.bind_some, wr1 (by omega), nofit_loop k m L hL r f (i + 1) g2 (by simpa using hf), List.all_cons]
    cases fitB c m
    · rw [if_pos (by simp)]; rfl
    · rw [if_neg (by simp)]; simp
theorem rfit_loop (k : Nat) (m : Mp) (hg : Good m) (hm : m.length ≤ 1000) (hk : 2000 < k) (L : List Ch) (hL : L.length ≤ 1000) : ∀ (l : List Ch) (fuel i : Nat), L.drop i = l → l.length < fuel → R41_Apply_m0.l53 k (vals m) (L.map toR) fuel (i : Int) = some (if l.all (fun c => fitB c m) then .inl () else .inr (vals m, 14))
  | _, 0, _, _, h => by omega
  | [], f + 1, i, hl, _ => by
    have := at_nil hl
    unfold R41_Apply_m0.l53
    rw [if_neg (by simp; omega)]; rfl
  | c :: r, f + 1, i, hl, hf => by
    obtain ⟨g1, g2, g3⟩ := at_drop hl
    have ih := rfit_loop k m hg hm hk L hL r f (i + 1) g2 (by simpa using hf)
    have e1 : (toR c).fK = c.fK := rfl
    have e2 : (toR c).fO = c.fO := rfl
    unfold R41_Apply_m0.l53 R41_Apply_m0.j63 R41_Apply_m0.j57
    rw [if_pos (by simp; exact g3), at_map g1, Option.bind_some, rc_eta, rname_eq, Option.bind_some, at_eq k _ _ (by rw [vals_len]; omega) (by rw [vals_len]; omega), Option.bind_some, wr1 (by omega), ih, List.all_cons, e1, e2]
    rcases atI_spec (nmC c) m hg.keyed with ⟨q1, q2⟩ | ⟨v, j, q1, q2, q3⟩
    · unfold fitB
      rw [q1, q2]
      by_cases h1 : c.fK = 1
      · simp [h1]
      · simp [h1]
    · unfold fitB
      have hq : (v.fN == c.fO.fN && (v.fC == c.fO.fC && (v.fT == c.fO.fT && true))) = feqB v c.fO := rfl
      have hlt : ((j : Int) < 0) = False := by simp
      have hge : ((j : Int) ≥ 0) = True := by simp
      rw [q1, q2]
      by_cases h1 : c.fK = 1
      · simp [h1, hlt]
      · have h1' : (c.fK == 1) = false := by simpa using h1
        rw [h1', if_neg (by simp [hlt]), if_pos (by simp), rix (at_get q3), hq, if_neg h1]
        simp only [Option.isSome_some, Bool.true_and, Option.getD_some]
        cases feqB v c.fO <;> simp
def goneB (L : List Ch) (n : Tx) : Bool := L.any fun c => c.fK == 3 && c.fO.fN == n
theorem del_filter : ∀ (l : List Ch) (cur : Mp), delM cur l = cur.filter fun y => !(goneB l y.1)
  | [], cur => by
    show cur = _
    rw [List.filter_eq_self.2]
    intro y _; rfl
  | c :: r, cur => by
    have hd : delM cur (c :: r) = delM (if c.fK = 3 then mdel c.fO.fN cur else cur) r := rfl
    rw [hd, del_filter r]
    by_cases h : c.fK = 3
    · rw [if_pos h]
      unfold mdel
      rw [List.filter_filter]
      refine List.filter_congr fun y _ => ?_
      have e : goneB (c :: r) y.1 = (c.fO.fN == y.1 || goneB r y.1) := by unfold goneB; simp [h]
      have e2 : (y.1 == c.fO.fN) = (c.fO.fN == y.1) := by
        rw [Bool.eq_iff_iff, beq_iff_eq, beq_iff_eq]; exact eq_comm
      rw [e, e2]
      cases goneB r y.1 <;> cases (c.fO.fN == y.1) <;> rfl
    · rw [if_neg h]
      refine List.filter_congr fun y _ => ?_
      have e : goneB (c :: r) y.1 = goneB r y.1 := by unfold goneB; simp [h]
      rw [e]
theorem gone_loop (k : Nat) (w : List Fl) (L : List Ch) (hL : L.length ≤ 1000) (v22 : List Fl) (v23 : Int) (x : Fl) : ∀ (l : List Ch) (fuel i : Nat) (b : Bool), L.drop i = l → l.length < fuel → R41_Apply_m0.l39 k w (L.map toR) v22 v23 x fuel b (i : Int) = some (b || goneB l x.fN)
  | _, 0, _, _, _, h => by omega
  | [], f + 1, i, b, hl, _ => by
    have := at_nil hl
    unfold R41_Apply_m0.l39
    rw [if_neg (by simp; omega)]; simp [goneB]
  | c :: r, f + 1, i, b, hl, hf => by
    obtain ⟨g1, g2, g3⟩ := at_drop hl
    have ih := fun b => gone_loop k w L hL v22 v23 x r f (i + 1) b g2 (by simpa using hf)
    have e1 : (toR c).fK = c.fK := rfl
    have e2 : (toR c).fO = c.fO := rfl
    unfold R41_Apply_m0.l39 R41_Apply_m0.j45
    rw [if_pos (by simp; exact g3), at_map g1, Option.bind_some, wr1 (by omega), ih, ih, ih, e1, e2]
    have e : goneB (c :: r) x.fN = ((c.fK == 3 && c.fO.fN == x.fN) || goneB r x.fN) := by unfold goneB; simp
    rw [e]
    cases b
    · cases hk3 : c.fK == 3
      · simp
      · simp
    · simp
theorem keep_loop (k : Nat) (hk : 2000 < k) (w : List Fl) (hw : w.length ≤ 1000) (L : List Ch) (hL : L.length ≤ 1000) : ∀ (l : List Fl) (fuel i : Nat) (out : List Fl), w.drop i = l → l.length < fuel → out.length ≤ i → R41_Apply_m0.l24 k w (L.map toR) fuel out (i : Int) = some (out ++ l.filter fun x => !(goneB L x.fN))
  | _, 0, _, _, _, h, _ => by omega
  | [], f + 1, i, out, hl, _, _ => by
    have := at_nil hl
    unfold R41_Apply_m0.l24
    rw [if_neg (by simp; omega)]; simp
  | x :: r, f + 1, i, out, hl, hf, ho => by
    obtain ⟨g1, g2, g3⟩ := at_drop hl
    have ih := fun out h => keep_loop k hk w hw L hL r f (i + 1) out g2 (by simpa using hf) h
    have eg : R41_Apply_m0.l39 k w (L.map toR) out (i : Int) x k false 0 = _ := gone_loop k w L hL out (i : Int) x L k 0 false rfl (by omega)
    unfold R41_Apply_m0.l24 R41_Apply_m0.j36 R41_Apply_m0.j30
    rw [if_pos (by simp; exact g3), rix g1, eg, Option.bind_some, Bool.false_or, wr1 (by omega), List.filter_cons]
    cases goneB L x.fN
    · simp only [Bool.not_false, if_true]
      rw [fl_eta, if_pos (lim_ok (by omega)), ih _ (by simp; omega)]; simp
    · simp only [Bool.not_true, Bool.false_eq_true, if_false]
      rw [ih _ (by omega)]
theorem puts_both (k : Nat) (hk : 2000 < k) (m : Mp) (L : List Ch) (hL : L.length ≤ 100) (hn : ∀ c ∈ L, c.fW.fN.length ≤ 100) : ∀ (l : List Ch) (fuel i : Nat) (cur : Mp), L.drop i = l → l.length < fuel → i ≤ L.length → Good cur → cur.length ≤ 100 + i →
    (∃ e cur', e ≠ 0 ∧ e ≤ 18 ∧ delta_do_m0.l6 k L fuel cur (i : Int) = some (.inr (e, cur')) ∧ R41_Apply_m0.l8 k (vals m) (L.map toR) fuel (vals cur) (i : Int) = some (.inr (vals m, (e : Int)))) ∨
      ∃ cur', delta_do_m0.l6 k L fuel cur (i : Int) = some (.inl cur') ∧ R41_Apply_m0.l8 k (vals m) (L.map toR) fuel (vals cur) (i : Int) = some (.inl (vals cur')) ∧ Good cur' ∧ cur'.length ≤ 300
  | _, 0, _, _, _, h, _, _, _ => by omega
  | [], f + 1, i, cur, hl, _, hi, hg, hc => by
    have h0 := at_nil hl
    right
    unfold delta_do_m0.l6 R41_Apply_m0.l8
    exact ⟨cur, by rw [if_neg (by simp; omega)], by rw [if_neg (by simp; omega)], hg, by omega⟩
  | c :: r, f + 1, i, cur, hl, hf, hi, hg, hc => by
    obtain ⟨g1, g2, g3⟩ := at_drop hl
    have hcL : c ∈ L := List.mem_of_mem_drop (hl ▸ List.mem_cons_self)
    have e1 : (toR c).fK = c.fK := rfl
    have e3 : (toR c).fW = c.fW := rfl
    unfold delta_do_m0.l6 R41_Apply_m0.l8 delta_do_m0.j12 R41_Apply_m0.j14
    rw [if_pos (by simp; exact g3), if_pos (by simp; exact g3), g1, at_map g1, Option.bind_some, Option.bind_some, wr1 (by omega), e1, e3, fl_eta]
    by_cases h3 : c.fK = 3
    · rw [if_neg (by simp [h3]), if_pos (by simp [h3])]
      exact puts_both k hk m L hL hn r f (i + 1) cur g2 (by simpa using hf) (by omega) hg (by omega)
    · rw [if_pos (by simpa using h3), if_neg (by simpa using h3), put_eq k (by omega), Option.bind_some, rput_eq k cur c.fW hk (by omega) (by have := hn c hcL; omega) hg.rising hg.keyed, Option.bind_some]
      have ep : (putS cur c.fW).1 = mayS cur c.fW := rfl
      by_cases h0 : mayS cur c.fW = 0
      · rw [ep, h0, if_neg (by simp), if_neg (by simp)]
        exact puts_both k hk m L hL hn r f (i + 1) _ g2 (by simpa using hf) (by omega) (hg.put _) (by have := putS_len cur c.fW; omega)
      · left
        refine ⟨mayS cur c.fW, (putS cur c.fW).2, h0, mayS_le _ _, ?_, ?_⟩
        · rw [ep, if_pos (by simpa using h0)]
        · rw [if_pos (by simp; omega)]
theorem vals_filter (p : Tx → Bool) : ∀ m : Mp, Keyed m → vals (m.filter fun y => p y.1) = (vals m).filter fun x => p x.fN
  | [], _ => rfl
  | y :: r, h => by
    have ih := vals_filter p r fun z hz => h z (List.mem_cons_of_mem _ hz)
    have hy := h y List.mem_cons_self
    unfold vals at ih ⊢
    rw [List.filter_cons, List.map_cons, List.filter_cons, ← hy]
    cases p y.1
    · simpa using ih
    · simpa using ih
theorem del_good {m : Mp} (L : List Ch) (h : Good m) : Good (delM m L) := by
  rw [del_filter]
  exact ⟨h.rising.filter _, fun y hy => h.keyed y (List.mem_filter.1 hy).1, fun y hy => h.short y (List.mem_filter.1 hy).1⟩
theorem apply_both (k : Nat) (hk : 2000 < k) (m : Mp) (hg : Good m) (hm : m.length ≤ 100) (L : List Ch) (hL : L.length ≤ 100) (hn : ∀ c ∈ L, c.fW.fN.length ≤ 100) :
    ∃ e m', e ≤ 18 ∧ delta_Apply_m0.f k m L = some (e, m') ∧ R41_Apply_m0.f k (vals m) (L.map toR) = some (vals m', (e : Int)) ∧ Good m' ∧ m'.length ≤ 300 := by
  unfold delta_Apply_m0.f R41_Apply_m0.f
  rw [dchk_eq k (by omega) L (by omega), rchk_eq k hk L (by omega), Option.bind_some, Option.bind_some]
  by_cases hc : chkS L = 0
  · rw [if_neg (by simp [hc]), if_neg (by simp [hc])]
    have hnd : (L.map nmC).Nodup := by
      unfold chkS at hc
      split at hc
      · split at hc
        · assumption
        · omega
      · omega
    have e1 : delta_Apply_m0.l9 k m L k 0 = _ := nofit_loop k m L (by omega) L k 0 rfl (by omega)
    have e2 : R41_Apply_m0.l53 k (vals m) (L.map toR) k 0 = _ := rfit_loop k m hg (by omega) hk L (by omega) L k 0 rfl (by omega)
    rw [e1, e2]
    by_cases hfit : L.all (fun c => fitB c m) = true
    · rw [if_pos hfit, if_pos hfit, Option.bind_some, Option.bind_some]
      simp only
      unfold delta_Apply_m0.j7 R41_Apply_m0.j51 R41_Apply_m0.j21 R41_Apply_m0.j5 delta_do_m0.f delta_do_m0.j19 delta_do_m0.j3
      have ec : tree_Tree_Copy_m0.f k m = some m := rfl
      have e3 : delta_do_m0.l22 k L k m 0 = _ := del_loop k L (by omega) L k 0 m rfl (by omega) (fun c hc h3 => by
        have hf := List.all_eq_true.1 hfit c hc
        unfold fitB at hf
        rw [if_neg (by omega)] at hf
        have hnm : nmC c = c.fO.fN := by unfold nmC; rw [if_neg (by omega)]
        rw [hnm, Bool.and_eq_true] at hf
        exact hf.1) hnd
      have e4 : R41_Apply_m0.l24 k (vals m) (L.map toR) k [] 0 = _ := keep_loop k hk (vals m) (by rw [vals_len]; omega) L (by omega) (vals m) k 0 [] rfl (by rw [vals_len]; omega) (by simp)
      have e5 : ([] : List Fl) ++ (vals m).filter (fun x => !(goneB L x.fN)) = vals (delM m L) := by
        rw [List.nil_append, del_filter, vals_filter (fun n => !(goneB L n)) m hg.keyed]
      have hdl : (delM m L).length ≤ 100 := by
        rw [del_filter]; exact Nat.le_trans (List.length_filter_le _ _) hm
      rw [e5] at e4
      rw [ec, Option.bind_some, e3, e4]
      simp only [Option.bind_some]
      rcases puts_both k hk m L hL hn L k 0 (delM m L) rfl (by omega) (by omega) (del_good L hg) (by omega) with ⟨e, cur', h1, h2, h3, h4⟩ | ⟨cur', h3, h4, h5, h6⟩
      · have h3 : delta_do_m0.l6 k L k (delM m L) 0 = _ := h3
        have h4 : R41_Apply_m0.l8 k (vals m) (L.map toR) k (vals (delM m L)) 0 = _ := h4
        rw [h3, h4]
        refine ⟨e, m, h2, ?_, rfl, hg, by omega⟩
        simp [h1]
      · have h3 : delta_do_m0.l6 k L k (delM m L) 0 = _ := h3
        have h4 : R41_Apply_m0.l8 k (vals m) (L.map toR) k (vals (delM m L)) 0 = _ := h4
        rw [h3, h4]
        exact ⟨0, cur', by omega, by simp, rfl, h5, h6⟩
    · rw [if_neg hfit, if_neg hfit]
      exact ⟨14, m, by omega, rfl, rfl, hg, by omega⟩
  · rw [if_pos (by simpa using hc), if_pos (by simp; omega)]
    exact ⟨chkS L, m, chkS_le L, rfl, rfl, hg, by omega⟩
theorem deltaApplies_true (a0 : List Fl) (a1 : List Ch) (a2 : List Tx) (_ : Wf Un (.list (.named 3)) a0) (_ : Wf Un (.list (.named 6)) a1) (_ : Wf Un (.list .str) a2) (hw1 : a1.length * 88 ≤ reachBytes) : ∃ k, W41_DeltaApplies.f k a0 a1 a2 = some true := by
  refine ⟨a1.length + 40000, ?_⟩
  have hw1 : a1.length * 88 ≤ 140737488351232 := hw1
  have hnum := fun {e : Nat} (h : e ≤ 18) => num_e a1.length h
  have ali := alive_k a1.length
  generalize hK : a1.length + 40000 = k at hnum ali ⊢
  unfold W41_DeltaApplies.f W41_DeltaApplies.j59
  rw [ali, Option.bind_some, if_neg (by decide)]
  obtain ⟨b, e1, e2⟩ := llong_eq k a1 hw1 (by omega) (by omega)
  obtain ⟨c, f1, f2⟩ := tlong_eq k (by omega) a2
  rw [e1, f1, Option.bind_some, Option.bind_some]
  cases b with
  | true => rfl
  | false =>
    cases c with
    | true => rfl
    | false =>
      obtain ⟨h40, hn⟩ := e2 rfl
      have h20 := f2 rfl
      simp only [Bool.false_eq_true, if_false]
      unfold W41_DeltaApplies.j56
      obtain ⟨r, hr, h | ⟨m, m', rfl, hg, hg', hv, hv', hl, hl'⟩⟩ := two_eq k (by omega) a0 []
      · rw [hr, Option.bind_some, h, if_pos (by simp)]
      · rw [hr, Option.bind_some, if_neg (by simp), ofR_eq k a1 (by omega) (by omega), Option.bind_some, dchk_eq k (by omega) a1 (by omega), Option.bind_some, hnum (chkS_le a1), Option.bind_some, rchk_eq k (by omega) a1 (by omega), Option.bind_some, if_neg (by simp), back_eq k a1 (by omega) (by omega), Option.bind_some, rback_eq k (by omega) a1 (by omega), Option.bind_some, sameR_eq k _ (by simp; omega) (by simp; omega), Option.bind_some]
        unfold W41_DeltaApplies.j48 W41_DeltaApplies.j45
        rw [if_neg (by simp)]
        have el := law_loop k (by omega) a1 (by omega) a2 (by omega) (true, m, true, m', true, vals m, true, vals m', true) a1 k 0 [] [] rfl (by omega) (by simp) (by simp)
        have el : W41_DeltaApplies.l29 k a1 a2 (true, m, true, m', true, vals m, true, vals m', true) (a1.map toR) k [] [] 0 = _ := el
        rw [el, Option.bind_some, List.nil_append, List.nil_append]
        unfold W41_DeltaApplies.j25 W41_DeltaApplies.j18
        have hsl := sortedS_len (a1.map nmC)
        rw [List.length_map] at hsl
        have hfl : (a1.filter fun c => hasB a2 (nmC c)).length ≤ a1.length := List.length_filter_le _ _
        simp only
        rw [dnames_eq k (by omega) a1 (by omega), Option.bind_some, rsort_eq k _ (by simp; omega) (by omega), Option.bind_some, sametx_eq k (by omega) _ (by omega), Option.bind_some, if_neg (by simp), only_eq k (by omega) a1 (by omega) a2 (by omega), Option.bind_some, sameR_eq k _ (by omega) (by omega), Option.bind_some, if_neg (by simp)]
        unfold W41_DeltaApplies.j15
        obtain ⟨e, m2, q1, q2, q3, q4, q5⟩ := apply_both k (by omega) m hg (by omega) a1 (by omega) hn
        simp only [if_true]
        rw [q3, Option.bind_some, q2, Option.bind_some, hnum q1, Option.bind_some, if_pos (by simp), shows_eq k (by omega) m2 q4 (by omega)]; rfl
end Go.Proofs.YtkdpaglpieamgaaDoor
