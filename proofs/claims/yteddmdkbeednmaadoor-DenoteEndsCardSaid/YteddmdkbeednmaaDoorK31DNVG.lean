/- The document's spans. -/
import Derived.Test.YteddmdkbeednmaaDoorK31DNVF
namespace Go.Proofs.YteddmdkbeednmaaDoor.Dn
open Go Go.AM
set_option linter.unusedVariables false
set_option linter.unusedSimpArgs false
set_option maxRecDepth 100000
theorem rt_le {D : Rl} {L : Nat} (h : ∀ a b, D a b → a ≤ L → a ≤ b ∧ b ≤ L) {i j : Nat} (g : RT D i j) : i ≤ L → i ≤ j ∧ j ≤ L := by
  induction g with
  | refl => exact fun h => ⟨Nat.le_refl _, h⟩
  | tail _ h2 ih =>
    intro hi
    have a := ih hi
    have b := h _ _ h2 a.2
    omega
section
variable (s : List UInt8)
mutual
theorem den_le : ∀ (n : RN) (i j : Nat), Den s n i j → i ≤ s.length → i ≤ j ∧ j ≤ s.length
  | .mk a b c ks, i, j, h, hi => by
    have hc := denC_le ks
    have ha := denA_le ks
    rw [Den] at h
    split at h
    · obtain ⟨e, c, hc, _⟩ := h
      have : i < s.length := by
        rcases Nat.lt_or_ge i s.length with g | g
        · exact g
        · rw [List.getElem?_eq_none g] at hc; cases hc
      omega
    split at h
    · exact hc i j h hi
    split at h
    · exact ha i j h hi
    split at h
    · exact rt_le hc h hi
    split at h
    · obtain ⟨m, h1, h2⟩ := h
      have a := hc i m h1 hi
      have b := rt_le hc h2 a.2
      omega
    split at h
    · rcases h with rfl | h
      · exact ⟨Nat.le_refl _, hi⟩
      · exact hc i j h hi
    split at h
    · exact hc i j h hi
    split at h
    · omega
    split at h
    · omega
    · omega
theorem denC_le : ∀ (l : List RN) (i j : Nat), DenC s l i j → i ≤ s.length → i ≤ j ∧ j ≤ s.length
  | [], i, j, h, hi => by rw [DenC] at h; omega
  | x :: xs, i, j, h, hi => by
    rw [DenC] at h
    obtain ⟨m, h1, h2⟩ := h
    have a := den_le x i m h1 hi
    have b := denC_le xs m j h2 a.2
    omega
theorem denA_le : ∀ (l : List RN) (i j : Nat), DenA s l i j → i ≤ s.length → i ≤ j ∧ j ≤ s.length
  | [], i, j, h, hi => by rw [DenA] at h; exact h.elim
  | x :: xs, i, j, h, hi => by
    rw [DenA] at h
    rcases h with h | h
    · exact den_le x i j h hi
    · exact denA_le xs i j h hi
end
theorem rt_step {D : Rl} {L : Nat} (h : ∀ a b, D a b → a ≤ L → a ≤ b ∧ b ≤ L) {i j : Nat} (g : RT D i j) : i ≤ L → i < j → ∃ m, i < m ∧ D i m ∧ RT D m j := by
  induction g with
  | refl => intro _ h; omega
  | @tail i b c g1 h2 ih =>
    intro hi hl
    have e := rt_le h g1 hi
    by_cases hb : i < b
    · obtain ⟨m, a1, a2, a3⟩ := ih hi hb
      exact ⟨m, a1, a2, .tail a3 h2⟩
    · have : i = b := by omega
      subst this
      exact ⟨c, hl, h2, .refl _⟩
theorem row_succ (k : Nat) (n : List DN) (i j : Int) : millwrightref10_row.f (k + 1) n s i j = millwrightref10_row.b k (millwrightref10_Spans.f k) (millwrightref10_row.f k) n s i j := rfl
theorem many_succ (k : Nat) (n : DN) (i j : Int) : millwrightref10_many.f (k + 1) n s i j = millwrightref10_many.b k (millwrightref10_Spans.f k) (millwrightref10_many.f k) n s i j := rfl
theorem spans_succ (k : Nat) (n : DN) (i j : Int) : millwrightref10_Spans.f (k + 1) n s i j = millwrightref10_Spans.b k (millwrightref10_row.f k) (millwrightref10_Spans.f k) (millwrightref10_many.f k) n s i j := rfl
abbrev S4 := DN → List UInt8 → Int → Int → Option Bool
theorem row_loop {K : Nat} {rS : S4} {rR : List DN → List UInt8 → Int → Int → Option Bool} {x : RN} {l : List RN} {i j : Nat} {A B : Nat → Prop} (hj : j ≤ 1000)
    (h1 : ∀ m, i ≤ m → m ≤ j → ∃ b, rS (ofN x) s i m = some b ∧ (b = true ↔ A m)) (h2 : ∀ m, i ≤ m → m ≤ j → ∃ b, rR (ofNs l) s m j = some b ∧ (b = true ↔ B m)) :
    ∀ (d fuel v : Nat), v + d = j + 1 → i ≤ v → d < fuel → ∃ o, millwrightref10_row.l4 K rS rR (ofNs (x :: l)) s i j fuel v = some (if o then .inr true else .inl ()) ∧ (o = true ↔ ∃ m, v ≤ m ∧ m ≤ j ∧ A m ∧ B m)
  | _, 0, _, _, _, h => by omega
  | 0, f + 1, v, e, hv, hf => by
    refine ⟨false, ?_, by simp; intro m; omega⟩
    unfold millwrightref10_row.l4
    rw [if_neg (by simp; omega)]
    rfl
  | d + 1, f + 1, v, e, hv, hf => by
    obtain ⟨b, e1, p1⟩ := h1 v hv (by omega)
    obtain ⟨c, e2, p2⟩ := h2 v hv (by omega)
    obtain ⟨o, e3, p3⟩ := row_loop hj h1 h2 d f (v + 1) (by omega) (by omega) (by omega)
    have hsub : sub (ofNs (x :: l)) 1 ((ofNs (x :: l)).length : Int) = some (ofNs l) := by
      rw [sub_from (v := 1) (a := 1) rfl rfl (by simp [ofNs])]; rfl
    unfold millwrightref10_row.l4
    rw [if_pos (by simp; omega), show idx (ofNs (x :: l)) 0 = some (ofN x) from rfl, Option.bind_some, e1, Option.bind_some, hsub, Option.bind_some, e2, Option.bind_some]
    unfold millwrightref10_row.j11 millwrightref10_row.j8
    rw [wr1 (by omega), e3]
    have hsplit : (∃ m, v ≤ m ∧ m ≤ j ∧ A m ∧ B m) ↔ (A v ∧ B v) ∨ ∃ m, v + 1 ≤ m ∧ m ≤ j ∧ A m ∧ B m := by
      constructor
      · rintro ⟨m, a, b, c⟩
        by_cases hm : m = v
        · subst hm; exact .inl c
        · exact .inr ⟨m, by omega, b, c⟩
      · rintro (c | ⟨m, a, b, c⟩)
        · exact ⟨v, Nat.le_refl _, by omega, c⟩
        · exact ⟨m, by omega, b, c⟩
    rw [hsplit, ← p3, ← p1, ← p2]
    cases b <;> cases c
    · exact ⟨o, rfl, by simp⟩
    · exact ⟨o, rfl, by simp⟩
    · exact ⟨o, rfl, by simp⟩
    · exact ⟨true, rfl, by simp⟩
theorem many_loop {K : Nat} {rS rM : S4} {x : RN} {i j : Nat} {A B : Nat → Prop} (hj : j ≤ 1000)
    (h1 : ∀ m, i < m → m ≤ j → ∃ b, rS (ofN x) s i m = some b ∧ (b = true ↔ A m)) (h2 : ∀ m, i < m → m < j → ∃ b, rM (ofN x) s m j = some b ∧ (b = true ↔ B m)) :
    ∀ (d fuel v : Nat), v + d = j + 1 → i < v → d < fuel → ∃ o, millwrightref10_many.l3 K rS rM (ofN x) s i j fuel v = some (if o then .inr true else .inl ()) ∧ (o = true ↔ ∃ m, v ≤ m ∧ m ≤ j ∧ A m ∧ (m = j ∨ m < j ∧ B m))
  | _, 0, _, _, _, h => by omega
  | 0, f + 1, v, e, hv, hf => by
    refine ⟨false, ?_, by simp; intro m; omega⟩
    unfold millwrightref10_many.l3
    rw [if_neg (by simp; omega)]
    rfl
  | d + 1, f + 1, v, e, hv, hf => by
    obtain ⟨b, e1, p1⟩ := h1 v hv (by omega)
    obtain ⟨o, e3, p3⟩ := many_loop hj h1 h2 d f (v + 1) (by omega) (by omega) (by omega)
    unfold millwrightref10_many.l3
    rw [if_pos (by simp; omega), dn_eta, e1, Option.bind_some]
    unfold millwrightref10_many.j10 millwrightref10_many.j7
    rw [wr1 (by omega), e3]
    have hsplit : (∃ m, v ≤ m ∧ m ≤ j ∧ A m ∧ (m = j ∨ m < j ∧ B m)) ↔ (A v ∧ (v = j ∨ v < j ∧ B v)) ∨ ∃ m, v + 1 ≤ m ∧ m ≤ j ∧ A m ∧ (m = j ∨ m < j ∧ B m) := by
      constructor
      · rintro ⟨m, a, b, c⟩
        by_cases hm : m = v
        · subst hm; exact .inl c
        · exact .inr ⟨m, by omega, b, c⟩
      · rintro (c | ⟨m, a, b, c⟩)
        · exact ⟨v, Nat.le_refl _, by omega, c⟩
        · exact ⟨m, by omega, b, c⟩
    rw [hsplit, ← p3, ← p1]
    by_cases hvj : v = j
    · subst hvj
      cases b
      · exact ⟨o, by simp, by simp⟩
      · exact ⟨true, by simp, by simp⟩
    · obtain ⟨c, e2, p2⟩ := h2 v hv (by omega)
      have hne : ((v : Int) == (j : Int)) = false := by simpa using (by omega : ¬ (v : Int) = j)
      rw [hne, e2, Option.bind_some, ← p2]
      have hlt : v < j := by omega
      cases b <;> cases c
      · exact ⟨o, by simp, by simp⟩
      · exact ⟨o, by simp, by simp⟩
      · exact ⟨o, by simp, by simp [hvj]⟩
      · exact ⟨true, by simp, by simp [hlt]⟩
theorem any_loop {K : Nat} {rS : S4} {n : DN} {i j : Nat} (hlen : n.f_Kids.length ≤ 1000) : ∀ (l : List RN) (fuel v : Nat), n.f_Kids.drop v = ofNs l → l.length < fuel → (∀ x ∈ l, ∃ b, rS (ofN x) s i j = some b ∧ (b = true ↔ Den s x i j)) →
    ∃ o, millwrightref10_Spans.l11 K rS n s i j fuel v = some (if o then .inr true else .inl ()) ∧ (o = true ↔ DenA s l i j)
  | _, 0, _, _, h, _ => by omega
  | [], f + 1, v, hl, _, _ => by
    have := at_nil hl
    refine ⟨false, ?_, by rw [DenA]; simp⟩
    unfold millwrightref10_Spans.l11
    rw [if_neg (by simp; omega)]
    rfl
  | x :: r, f + 1, v, hl, hf, hx => by
    obtain ⟨g1, g2, g3⟩ := at_drop hl
    obtain ⟨b, e1, p1⟩ := hx x (.head _)
    obtain ⟨o, e3, p3⟩ := any_loop hlen r f (v + 1) g2 (by simp at hf; omega) (fun y hy => hx y (.tail _ hy))
    unfold millwrightref10_Spans.l11
    rw [if_pos (by simp; exact g3), g1, Option.bind_some, dn_eta, e1, Option.bind_some, wr1 (by omega), e3, DenA, ← p1, ← p3]
    cases b
    · exact ⟨o, by simp, by simp⟩
    · exact ⟨true, by simp, by simp⟩
theorem spans_all (hs : s.length ≤ 60) : ∀ (N : Nat), 
    (∀ (n : RN) (k i j : Nat), 2 * nsz n + (j - i) ≤ N → 100 + 2 * nsz n + (j - i) ≤ k → nsz n ≤ 60 → rightN n = true → setsN n → i ≤ j → j ≤ s.length → ∃ b, millwrightref10_Spans.f k (ofN n) s i j = some b ∧ (b = true ↔ Den s n i j)) ∧
    (∀ (l : List RN) (k i j : Nat), 2 * nszs l + (j - i) + 1 ≤ N → 101 + 2 * nszs l + (j - i) ≤ k → nszs l ≤ 60 → rightNs l = true → setsL l → i ≤ j → j ≤ s.length → ∃ b, millwrightref10_row.f k (ofNs l) s i j = some b ∧ (b = true ↔ DenC s l i j)) ∧
    (∀ (n : RN) (k i j : Nat), 2 * nsz n + (j - i) + 1 ≤ N → 101 + 2 * nsz n + (j - i) ≤ k → nsz n ≤ 60 → rightN n = true → setsN n → i ≤ j → j ≤ s.length → ∃ b, millwrightref10_many.f k (ofN n) s i j = some b ∧ (b = true ↔ i < j ∧ RT (Den s n) i j))
  | 0 => ⟨fun n _ _ _ h => by have := nsz_pos n; omega, fun l _ _ _ h => by omega, fun n _ _ _ h => by omega⟩
  | N + 1 => by
    obtain ⟨hS, hR, hM⟩ := spans_all hs N
    refine ⟨?_, ?_, ?_⟩
    · intro n k i j hN hk h60 hr hw hij hj
      obtain ⟨k, rfl⟩ : ∃ k', k = k' + 1 := ⟨k - 1, by omega⟩
      have hnk := nsz_kids n
      have hlen := nszs_len n.f_Kids
      rw [rightN_eq, Bool.and_eq_true] at hr
      rw [setsN_eq] at hw
      have hkid : ∀ x ∈ n.f_Kids, nsz x ≤ nszs n.f_Kids ∧ rightN x = true ∧ setsN x := by
        have hr2 := hr.2
        have hw2 := hw.2
        clear hnk hlen
        generalize n.f_Kids = ks at hr2 hw2 ⊢
        induction ks with
        | nil => intro x hx; cases hx
        | cons y ys ih =>
          rw [rightNs, Bool.and_eq_true] at hr2
          rw [setsL] at hw2
          intro x hx
          rw [nszs]
          rcases List.mem_cons.1 hx with rfl | hx
          · exact ⟨by omega, hr2.1, hw2.1⟩
          · obtain ⟨a, b, c⟩ := ih hr2.2 hw2.2 x hx
            exact ⟨by omega, b, c⟩
      have hd := den_eq s n i j
      obtain ⟨o1, o2, o3, o4⟩ := of_kind n
      have hlen2 : (ofN n).f_Kids.length = n.f_Kids.length := by rw [o4, ofNs_map]; simp
      have hbe : (((i : Int) == (j : Int)) = true) ↔ i = j := by simp; omega
      rw [spans_succ]
      unfold millwrightref10_Spans.b
      rw [o1, o3, o4]
      have hk1 : n.f_Kids.length = 1 → ∃ x, idx (ofNs n.f_Kids) 0 = some (ofN x) ∧ (∀ i j, DenC s n.f_Kids i j ↔ Den s x i j) ∧ nsz x ≤ nszs n.f_Kids ∧ rightN x = true ∧ setsN x := fun g => by
        obtain ⟨x, ex⟩ := one_kid g
        obtain ⟨a, b, c⟩ := hkid x (by rw [ex]; exact .head _)
        exact ⟨x, by rw [ex]; rfl, by rw [ex]; exact denC_one s x, a, b, c⟩
      rcases hdr_true hr.1 with ⟨ek, g⟩ | ⟨ek, g⟩ | ⟨ek, g⟩ | ⟨ek, g⟩ | ⟨ek, g⟩ | ⟨ek, g⟩ | ⟨ek, g⟩ | ⟨ek, g, _⟩ | ⟨ek, g⟩ | ⟨ek, g⟩ <;> simp only [ek, Int.reduceEq, Int.reduceBEq, Bool.false_eq_true, if_false, if_true] at hd ⊢
      · exact ⟨_, rfl, hbe.trans hd.symm⟩
      · rw [hd, wr1 (by omega)]
        by_cases e : j = i + 1
        · have hlt : i < s.length := by omega
          rw [if_pos (by simp; omega), idx_at rfl hlt, Option.bind_some, w64 (by omega) (by have := (s[i]).toNat_lt; omega), ref_has hw.1 (by have := (s[i]).toNat_lt; omega) (by omega)]
          refine ⟨_, rfl, ?_⟩
          rw [List.getElem?_eq_getElem hlt]
          simp [e]
        · rw [if_neg (by simp; omega)]
          exact ⟨false, rfl, by simp [e]⟩
      · obtain ⟨b, e1, p1⟩ := hR n.f_Kids k i j (by omega) (by omega) (by omega) hr.2 hw.2 hij hj
        rw [e1]
        exact ⟨b, rfl, p1.trans hd.symm⟩
      · obtain ⟨o, e1, p1⟩ := any_loop s (K := k) (rS := millwrightref10_Spans.f k) (n := ofN n) (i := i) (j := j) (by omega) n.f_Kids k 0 (by rw [o4]; rfl) (by omega) fun x hx => by
          obtain ⟨a, b, c⟩ := hkid x hx
          exact hS x k i j (by omega) (by omega) (by omega) b c hij hj
        rw [show (0 : Int) = ((0 : Nat) : Int) from rfl, e1, hd]
        cases o
        · exact ⟨false, rfl, p1⟩
        · exact ⟨true, rfl, p1⟩
      · obtain ⟨x, hi0, hone, hz, hrx, hwx⟩ := hk1 g
        rw [hd, rt_congr hone, hi0]
        simp only [Option.bind_some]
        by_cases e : i = j
        · subst e
          rw [if_pos (by simp)]
          exact ⟨true, rfl, by simp; exact .refl i⟩
        · obtain ⟨b, e1, p1⟩ := hM x k i j (by omega) (by omega) (by omega) hrx hwx hij hj
          rw [if_neg (by simp; omega), e1]
          refine ⟨b, rfl, p1.trans ⟨fun h => h.2, fun h => ⟨by omega, h⟩⟩⟩
      · obtain ⟨x, hi0, hone, hz, hrx, hwx⟩ := hk1 g
        have hp : Den s n i j ↔ Den s x i j ∨ (i < j ∧ RT (Den s x) i j) := by
          rw [hd]
          simp only [hone, rt_congr hone]
          constructor
          · rintro ⟨m, a, b⟩
            by_cases hij' : i < j
            · exact .inr ⟨hij', .head a b⟩
            · have e1 := den_le s x i m a (by omega)
              have e2 := rt_le (den_le s x) b e1.2
              have : m = j := by omega
              subst this; exact .inl a
          · rintro (a | ⟨a, b⟩)
            · exact ⟨j, a, .refl j⟩
            · rcases b.cases_head with rfl | ⟨m, c, d⟩
              · omega
              · exact ⟨m, c, d⟩
        obtain ⟨b, e1, p1⟩ := hS x k i j (by omega) (by omega) (by omega) hrx hwx hij hj
        obtain ⟨c, e2, p2⟩ := hM x k i j (by omega) (by omega) (by omega) hrx hwx hij hj
        rw [hp, ← p1, ← p2, hi0]
        simp only [Option.bind_some]
        rw [e1, e2]
        cases b <;> cases c <;> exact ⟨_, rfl, by simp⟩
      · obtain ⟨x, hi0, hone, hz, hrx, hwx⟩ := hk1 g
        rw [hd, hone, hi0]
        simp only [Option.bind_some]
        obtain ⟨b, e1, p1⟩ := hS x k i j (by omega) (by omega) (by omega) hrx hwx hij hj
        by_cases e : i = j
        · subst e
          rw [if_pos (by simp)]
          exact ⟨true, rfl, by simp⟩
        · rw [if_neg (by simp; omega), e1]
          exact ⟨b, rfl, p1.trans ⟨.inr, fun h => h.resolve_left e⟩⟩
      · obtain ⟨x, hi0, hone, hz, hrx, hwx⟩ := hk1 g
        rw [hd, hone, hi0]
        simp only [Option.bind_some]
        obtain ⟨b, e1, p1⟩ := hS x k i j (by omega) (by omega) (by omega) hrx hwx hij hj
        rw [e1]
        exact ⟨b, rfl, p1⟩
      · rw [hd]
        by_cases e : i = j
        · subst e
          rw [if_pos (by simp)]
          exact ⟨_, rfl, by simp⟩
        · rw [if_neg (by simp; omega)]
          exact ⟨_, rfl, by simp [e]⟩
      · rw [hd]
        by_cases e : i = j
        · subst e
          rw [if_pos (by simp)]
          exact ⟨_, rfl, by simp; omega⟩
        · rw [if_neg (by simp; omega)]
          exact ⟨_, rfl, by simp [e]⟩
    · intro l k i j hN hk h60 hr hw hij hj
      obtain ⟨k, rfl⟩ : ∃ k', k = k' + 1 := ⟨k - 1, by omega⟩
      rw [row_succ]
      unfold millwrightref10_row.b millwrightref10_row.j2
      cases l with
      | nil =>
        rw [if_pos (by decide)]
        exact ⟨_, rfl, by rw [DenC]; simp; omega⟩
      | cons x l =>
        rw [rightNs, Bool.and_eq_true] at hr
        rw [setsL] at hw
        rw [nszs] at hN hk h60
        have hxp := nsz_pos x
        rw [if_neg (by simp [ofNs]; omega)]
        obtain ⟨o, e1, p1⟩ := row_loop s (K := k) (rS := millwrightref10_Spans.f k) (rR := millwrightref10_row.f k) (x := x) (l := l) (i := i) (j := j) (A := fun m => Den s x i m) (B := fun m => DenC s l m j) (by omega)
          (fun m a b => hS x k i m (by omega) (by omega) (by omega) hr.1 hw.1 a (by omega)) (fun m a b => hR l k m j (by omega) (by omega) (by omega) hr.2 hw.2 b hj) (j + 1 - i) k i (by omega) (Nat.le_refl _) (by omega)
        rw [e1]
        refine ⟨o, by cases o <;> rfl, p1.trans ?_⟩
        rw [DenC]
        constructor
        · rintro ⟨m, _, _, a, b⟩; exact ⟨m, a, b⟩
        · rintro ⟨m, a, b⟩
          have e1 := den_le s x i m a (by omega)
          have e2 := denC_le s l m j b e1.2
          exact ⟨m, e1.1, e2.1, a, b⟩
    · intro n k i j hN hk h60 hr hw hij hj
      obtain ⟨k, rfl⟩ : ∃ k', k = k' + 1 := ⟨k - 1, by omega⟩
      rw [many_succ]
      unfold millwrightref10_many.b millwrightref10_many.j1
      by_cases hlt : i = j
      · subst hlt
        have hp := nsz_pos n
        obtain ⟨o, e1, p1⟩ := many_loop s (K := k) (rS := millwrightref10_Spans.f k) (rM := millwrightref10_many.f k) (x := n) (i := i) (j := i) (A := fun m => True) (B := fun m => True) (by omega)
          (fun m a b => by omega) (fun m a b => by omega) 0 k (i + 1) (by omega) (by omega) (by omega)
        rw [wr1 (by omega), e1]
        refine ⟨o, by cases o <;> rfl, p1.trans ⟨fun ⟨m, a, b, _⟩ => by omega, fun h => by omega⟩⟩
      · obtain ⟨o, e1, p1⟩ := many_loop s (K := k) (rS := millwrightref10_Spans.f k) (rM := millwrightref10_many.f k) (x := n) (i := i) (j := j) (A := fun m => Den s n i m) (B := fun m => m < j ∧ RT (Den s n) m j) (by omega)
          (fun m a b => hS n k i m (by omega) (by omega) (by omega) hr hw (by omega) (by omega)) (fun m a b => hM n k m j (by omega) (by omega) (by omega) hr hw (by omega) hj) (j - i) k (i + 1) (by omega) (by omega) (by omega)
        rw [wr1 (by omega), e1]
        refine ⟨o, by cases o <;> rfl, p1.trans ?_⟩
        constructor
        · rintro ⟨m, a, b, c, rfl | ⟨_, _, d⟩⟩
          · exact ⟨by omega, .one c⟩
          · exact ⟨by omega, .head c d⟩
        · rintro ⟨a, b⟩
          obtain ⟨m, c, d, e⟩ := rt_step (den_le s n) b (by omega) a
          have f1 := den_le s n i m d (by omega)
          have f2 := rt_le (den_le s n) e f1.2
          refine ⟨m, by omega, f2.1, d, ?_⟩
          by_cases hm : m = j
          · exact .inl hm
          · exact .inr ⟨by omega, by omega, e⟩
end
end Go.Proofs.YteddmdkbeednmaaDoor.Dn
