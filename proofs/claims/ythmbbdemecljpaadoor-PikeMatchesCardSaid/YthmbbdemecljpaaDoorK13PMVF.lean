/- The document's way is the mirror's, to its end; the law. -/
import Derived.Test.YthmbbdemecljpaaDoorK13PMVE
import Derived.Test.YthmbbdemecljpaaDoorK13AmL
namespace Go.Proofs.YthmbbdemecljpaaDoor
open Go Go.AM
set_option linter.unusedVariables false
set_option linter.unusedSimpArgs false
set_option maxRecDepth 100000
namespace Pk
def FB (been : List Bool) (n m i : Nat) (L : List Mk) : Prop := been.length = n * (m + 1) ∧ i + L.length = m + 1 ∧ ∀ (j : Nat) (M : Mk), L[j]? = some M → M.length = n ∧ ∀ a, a < n → been[a * (m + 1) + (i + j)]? = M[a]?
def Fr (been been' : List Bool) (n m i : Nat) : Prop := ∀ a y, a < n → y < i → been'[a * (m + 1) + y]? = been[a * (m + 1) + y]?
theorem FB.mark {been : List Bool} {n m i : Nat} {M : Mk} {Bs : List Mk} (h : FB been n m i (M :: Bs)) {a : Nat} (ha : a < n) : FB (upd been (a * (m + 1) + i) true) n m i (M.set a true :: Bs) := by
  obtain ⟨h1, h2, h3⟩ := h
  simp only [List.length_cons] at h2
  refine ⟨by rw [upd_length, h1], by simp only [List.length_cons]; omega, fun j M1 hj => ?_⟩
  unfold upd
  cases j with
  | zero =>
    simp only [List.getElem?_cons_zero, Option.some.injEq] at hj
    subst hj
    obtain ⟨g1, g2⟩ := h3 0 M rfl
    refine ⟨by rw [List.length_set, g1], fun b hb => ?_⟩
    simp only [Nat.add_zero] at g2 ⊢
    rw [List.getElem?_set, List.getElem?_set]
    by_cases e : a = b
    · subst e
      rw [if_pos rfl, if_pos rfl, if_pos (by rw [h1]; exact spot ha (by omega)), if_pos (by omega)]
    · rw [if_neg (fun h => e (spot_eq (by omega) (by omega) h).1), if_neg e, g2 b hb]
  | succ j =>
    simp only [List.getElem?_cons_succ] at hj
    obtain ⟨g1, g2⟩ := h3 (j + 1) M1 (by simpa using hj)
    have hjl := (List.getElem?_eq_some_iff.1 hj).1
    refine ⟨g1, fun b hb => ?_⟩
    rw [List.getElem?_set, if_neg (fun h => by have := (spot_eq (by omega) (by omega) h).2; omega)]
    exact g2 b hb
theorem FB.tail {been : List Bool} {n m i : Nat} {M : Mk} {Bs : List Mk} (h : FB been n m i (M :: Bs)) : FB been n m (i + 1) Bs := by
  obtain ⟨h1, h2, h3⟩ := h
  simp only [List.length_cons] at h2
  refine ⟨h1, by omega, fun j M1 hj => ?_⟩
  obtain ⟨g1, g2⟩ := h3 (j + 1) M1 (by simpa using hj)
  exact ⟨g1, fun a ha => by rw [← g2 a ha]; congr 1; omega⟩
theorem FB.cons {been been' : List Bool} {n m i : Nat} {M : Mk} {Bs Bs' : List Mk} (h : FB been n m i (M :: Bs)) (h' : FB been' n m (i + 1) Bs') (hf : Fr been been' n m (i + 1)) : FB been' n m i (M :: Bs') := by
  obtain ⟨h1, h2, h3⟩ := h
  obtain ⟨g1, g2, g3⟩ := h'
  refine ⟨g1, by simp only [List.length_cons]; omega, fun j M1 hj => ?_⟩
  cases j with
  | zero =>
    simp only [List.getElem?_cons_zero, Option.some.injEq] at hj
    subst hj
    obtain ⟨q1, q2⟩ := h3 0 M rfl
    refine ⟨q1, fun a ha => ?_⟩
    show been'[a * (m + 1) + i]? = M[a]?
    rw [hf a i ha (by omega)]
    exact q2 a ha
  | succ j =>
    obtain ⟨q1, q2⟩ := g3 j M1 (by simpa using hj)
    exact ⟨q1, fun a ha => by rw [← q2 a ha]; congr 1; omega⟩
theorem Fr.mark {been : List Bool} {n m i a : Nat} (hi : i ≤ m) : Fr been (upd been (a * (m + 1) + i) true) n m i := fun b y hb hy => by
  unfold upd
  rw [List.getElem?_set, if_neg (fun h => by have := (spot_eq (by omega) (by omega) h).2; omega)]
theorem Fr.refl {been : List Bool} {n m i : Nat} : Fr been been n m i := fun _ _ _ _ => rfl
theorem Fr.trans {a b c : List Bool} {n m i : Nat} (h : Fr a b n m i) (g : Fr b c n m i) : Fr a c n m i := fun x y hx hy => (g x y hx hy).trans (h x y hx hy)
theorem Fr.less {a b : List Bool} {n m i : Nat} (h : Fr a b n m (i + 1)) : Fr a b n m i := fun x y hx hy => h x y hx (by omega)

theorem endm1 {K : Nat} {rf : RG} {p : List Ins} {s : List UInt8} {i : Nat} {been : List Bool} {a : Int} {k : Kp} (hn : p.length ≤ 60) (hm : s.length ≤ 60) (hi : i ≤ s.length) (hb : been.length = p.length * (s.length + 1))
    (h : idx p a = none ∨ (∃ x, idx p a = some x) ∧ been[a.toNat * (s.length + 1) + i]? = some true) : ∃ kk, millwrightref09_search_from_m1.b K rf (p.map conv) s been a i k = some (kk, false, been) := by
  unfold millwrightref09_search_from_m1.b
  by_cases h0 : a < 0
  · rw [if_pos (by simpa using h0)]; unfold millwrightref09_search_from_m1.j39; exact ⟨_, rfl⟩
  rw [if_neg (by simpa using h0)]
  by_cases h1 : a ≥ (p.length : Int)
  · rw [if_pos (by simpa using h1)]; unfold millwrightref09_search_from_m1.j39; exact ⟨_, rfl⟩
  rw [if_neg (by simpa using h1)]
  obtain ⟨j, rfl⟩ : ∃ j : Nat, a = j := ⟨a.toNat, by omega⟩
  have hsp := spot (m := s.length) (show j < p.length by omega) hi
  have hI := spot_int hn hm (show j < p.length by omega) hi
  rcases h with h | ⟨_, h⟩
  · have := idx_no h; omega
  · rw [Int.toNat_natCast] at h
    rw [hI, if_pos ⟨by omega, by rw [hb]; omega⟩, Nat.zero_add, Int.toNat_natCast, h, Option.bind_some]
    unfold millwrightref09_search_from_m1.j39; exact ⟨_, rfl⟩
theorem from_m1 {p : List Ins} {s : List UInt8} (hn : p.length ≤ 60) (hm : s.length ≤ 60) (hset : ∀ x ∈ p, SetOk x.f_Set) : ∀ {f K i : Nat} {a : Int} {k : Kp} {M : Mk} {Bs : List Mk} {been : List Bool} {r M' Bs'},
    D p s.length (hasf s) f i a k M Bs = some (r, M', Bs') → f + 70 ≤ K → FB been p.length s.length i (M :: Bs) → k.length = 20 →
    ∃ kk been', millwrightref09_search_from_m1.f K (p.map conv) s been a i k = some (kk, r.isSome, been') ∧ (∀ κ, r = some κ → kk = κ) ∧ FB been' p.length s.length i (M' :: Bs') ∧ Fr been been' p.length s.length i := by
  intro f
  induction f with
  | zero => intro K i a k M Bs been r M' Bs' h; cases h
  | succ f ih =>
    intro K i a k M Bs been r M' Bs' hD hK hF hk
    obtain ⟨K, rfl⟩ : ∃ K', K = K' + 1 := ⟨K - 1, by omega⟩
    show ∃ kk been', millwrightref09_search_from_m1.b K (millwrightref09_search_from_m1.f K) (p.map conv) s been a i k = some (kk, r.isSome, been') ∧ _
    have hi : i ≤ s.length := by have := hF.2.1; simp only [List.length_cons] at this; omega
    have hb := hF.1
    have hMl := (hF.2.2 0 M rfl).1
    have hM0 := (hF.2.2 0 M rfl).2
    simp only [Nat.add_zero] at hM0
    unfold D at hD
    cases hx : idx p a with
    | none =>
      rw [hx] at hD; cases hD
      obtain ⟨kk, h⟩ := endm1 (K := K) (rf := millwrightref09_search_from_m1.f K) (k := k) hn hm hi hb (.inl hx)
      exact ⟨kk, been, h, (fun κ h => by cases h), hF, Fr.refl⟩
    | some x =>
      rw [hx] at hD
      dsimp only at hD
      obtain ⟨h0, h1, h2⟩ := idx_ok hx
      obtain ⟨j, rfl⟩ : ∃ j : Nat, a = j := ⟨a.toNat, by omega⟩
      have hjn : j < p.length := by omega
      have hxp : x ∈ p := List.mem_of_getElem? h2
      have hseen : been[j * (s.length + 1) + i]? = some (seen M j) := by
        rw [hM0 j hjn]
        unfold seen
        rw [Int.toNat_natCast, List.getD_eq_getElem?_getD, List.getElem?_eq_getElem (by omega)]; rfl
      cases hs : seen M j with
      | true =>
        rw [hs] at hseen
        rw [if_pos hs] at hD; cases hD
        obtain ⟨kk, h⟩ := endm1 (K := K) (rf := millwrightref09_search_from_m1.f K) (k := k) hn hm hi hb (.inr ⟨⟨x, hx⟩, hseen⟩)
        exact ⟨kk, been, h, (fun κ h => by cases h), hF, Fr.refl⟩
      | false =>
        rw [hs] at hseen
        rw [if_neg (by rw [hs]; decide)] at hD
        have hF1 := hF.mark hjn
        have hfr1 : Fr been (upd been (j * (s.length + 1) + i) true) p.length s.length i := Fr.mark hi
        have hmk : mark M j = M.set j true := rfl
        rw [hmk] at hD
        have hrd := rdm1 (K := K) (by omega) (rf := millwrightref09_search_from_m1.f K) (k := k) hx hn hm hi hk (hset x hxp) hb hseen
        rw [Int.toNat_natCast] at hrd
        cases ha : act s.length i x j k with
        | stop =>
          rw [ha] at hD hrd; cases hD
          obtain ⟨kk, h⟩ := hrd
          exact ⟨kk, _, h, (fun κ h => by cases h), hF1, hfr1⟩
        | hit =>
          rw [ha] at hD hrd; cases hD
          exact ⟨k, _, hrd, (fun κ h => by cases h; rfl), hF1, hfr1⟩
        | go b k' =>
          rw [ha] at hD hrd
          obtain ⟨kk, been', g1, g2, g3, g4⟩ := ih hD (K := K) (by omega) hF1 (act_len hk ha)
          exact ⟨kk, been', hrd.trans g1, g2, g3, hfr1.trans g4⟩
        | fork y z =>
          rw [ha] at hD hrd
          obtain ⟨⟨q1, qM, qB⟩, hq, hD1⟩ := bind_some hD
          obtain ⟨kk, been', g1, g2, g3, g4⟩ := ih hq (K := K) (by omega) hF1 hk
          dsimp only at hrd
          rw [g1, Option.bind_some] at hrd
          cases q1 with
          | some κ =>
            cases hD1
            refine ⟨kk, been', ?_, g2, g3, hfr1.trans g4⟩
            rw [hrd]; rfl
          | none =>
            dsimp only at hD1
            obtain ⟨kk2, been2, g5, g6, g7, g8⟩ := ih hD1 (K := K) (by omega) g3 hk
            refine ⟨kk2, been2, ?_, g6, g7, hfr1.trans (g4.trans g8)⟩
            rw [hrd, if_neg (by simp)]
            exact g5
        | eat =>
          rw [ha] at hD hrd
          cases Bs with
          | nil =>
            cases hD
            have hil : i = s.length := by have := hF.2.1; simp only [List.length_cons, List.length_nil] at this; omega
            have hno : hasf s i x = false := by unfold hasf; rw [List.getElem?_eq_none (by omega)]
            dsimp only at hrd
            rw [hno, if_neg (by decide)] at hrd
            obtain ⟨kk, h⟩ := hrd
            exact ⟨kk, _, h, (fun κ h => by cases h), hF1, hfr1⟩
          | cons B Bs2 =>
            dsimp only at hD hrd
            cases hh : hasf s i x with
            | false =>
              rw [hh, if_neg (by decide)] at hD hrd
              cases hD
              obtain ⟨kk, h⟩ := hrd
              exact ⟨kk, _, h, (fun κ h => by cases h), hF1, hfr1⟩
            | true =>
              rw [hh, if_pos rfl] at hD hrd
              obtain ⟨⟨q1, qM, qB⟩, hq, hD1⟩ := bind_some hD
              cases hD1
              obtain ⟨kk, been', g1, g2, g3, g4⟩ := ih hq (K := K) (by omega) hF1.tail hk
              exact ⟨kk, been', hrd.trans g1, g2, hF1.cons g3 g4, hfr1.trans g4.less⟩

theorem endm0 {K : Nat} {rf : RG} {p : List Ins} {s : List UInt8} {i : Nat} {been : List Bool} {a : Int} {k : Kp} (hn : p.length ≤ 60) (hm : s.length ≤ 60) (hi : i ≤ s.length) (hb : been.length = p.length * (s.length + 1))
    (h : idx p a = none ∨ (∃ x, idx p a = some x) ∧ been[a.toNat * (s.length + 1) + i]? = some true) : ∃ kk, millwrightref09_search_from_m0.b K rf (p.map conv) s been a i k = some (kk, false, been) := by
  unfold millwrightref09_search_from_m0.b
  by_cases h0 : a < 0
  · rw [if_pos (by simpa using h0)]; unfold millwrightref09_search_from_m0.j39; exact ⟨_, rfl⟩
  rw [if_neg (by simpa using h0)]
  by_cases h1 : a ≥ (p.length : Int)
  · rw [if_pos (by simpa using h1)]; unfold millwrightref09_search_from_m0.j39; exact ⟨_, rfl⟩
  rw [if_neg (by simpa using h1)]
  obtain ⟨j, rfl⟩ : ∃ j : Nat, a = j := ⟨a.toNat, by omega⟩
  have hsp := spot (m := s.length) (show j < p.length by omega) hi
  have hI := spot_int hn hm (show j < p.length by omega) hi
  rcases h with h | ⟨_, h⟩
  · have := idx_no h; omega
  · rw [Int.toNat_natCast] at h
    rw [hI, if_pos ⟨by omega, by rw [hb]; omega⟩, Nat.zero_add, Int.toNat_natCast, h, Option.bind_some]
    unfold millwrightref09_search_from_m0.j39; exact ⟨_, rfl⟩
theorem from_m0 {p : List Ins} {s : List UInt8} (hn : p.length ≤ 60) (hm : s.length ≤ 60) (hset : ∀ x ∈ p, SetOk x.f_Set) : ∀ {f K i : Nat} {a : Int} {k : Kp} {M : Mk} {Bs : List Mk} {been : List Bool} {r M' Bs'},
    D p s.length (hasf s) f i a k M Bs = some (r, M', Bs') → f + 70 ≤ K → FB been p.length s.length i (M :: Bs) → k.length = 20 →
    ∃ kk been', millwrightref09_search_from_m0.f K (p.map conv) s been a i k = some (kk, r.isSome, been') ∧ (∀ κ, r = some κ → kk = κ) ∧ FB been' p.length s.length i (M' :: Bs') ∧ Fr been been' p.length s.length i := by
  intro f
  induction f with
  | zero => intro K i a k M Bs been r M' Bs' h; cases h
  | succ f ih =>
    intro K i a k M Bs been r M' Bs' hD hK hF hk
    obtain ⟨K, rfl⟩ : ∃ K', K = K' + 1 := ⟨K - 1, by omega⟩
    show ∃ kk been', millwrightref09_search_from_m0.b K (millwrightref09_search_from_m0.f K) (p.map conv) s been a i k = some (kk, r.isSome, been') ∧ _
    have hi : i ≤ s.length := by have := hF.2.1; simp only [List.length_cons] at this; omega
    have hb := hF.1
    have hMl := (hF.2.2 0 M rfl).1
    have hM0 := (hF.2.2 0 M rfl).2
    simp only [Nat.add_zero] at hM0
    unfold D at hD
    cases hx : idx p a with
    | none =>
      rw [hx] at hD; cases hD
      obtain ⟨kk, h⟩ := endm0 (K := K) (rf := millwrightref09_search_from_m0.f K) (k := k) hn hm hi hb (.inl hx)
      exact ⟨kk, been, h, (fun κ h => by cases h), hF, Fr.refl⟩
    | some x =>
      rw [hx] at hD
      dsimp only at hD
      obtain ⟨h0, h1, h2⟩ := idx_ok hx
      obtain ⟨j, rfl⟩ : ∃ j : Nat, a = j := ⟨a.toNat, by omega⟩
      have hjn : j < p.length := by omega
      have hxp : x ∈ p := List.mem_of_getElem? h2
      have hseen : been[j * (s.length + 1) + i]? = some (seen M j) := by
        rw [hM0 j hjn]
        unfold seen
        rw [Int.toNat_natCast, List.getD_eq_getElem?_getD, List.getElem?_eq_getElem (by omega)]; rfl
      cases hs : seen M j with
      | true =>
        rw [hs] at hseen
        rw [if_pos hs] at hD; cases hD
        obtain ⟨kk, h⟩ := endm0 (K := K) (rf := millwrightref09_search_from_m0.f K) (k := k) hn hm hi hb (.inr ⟨⟨x, hx⟩, hseen⟩)
        exact ⟨kk, been, h, (fun κ h => by cases h), hF, Fr.refl⟩
      | false =>
        rw [hs] at hseen
        rw [if_neg (by rw [hs]; decide)] at hD
        have hF1 := hF.mark hjn
        have hfr1 : Fr been (upd been (j * (s.length + 1) + i) true) p.length s.length i := Fr.mark hi
        have hmk : mark M j = M.set j true := rfl
        rw [hmk] at hD
        have hrd := rdm0 (K := K) (by omega) (rf := millwrightref09_search_from_m0.f K) (k := k) hx hn hm hi hk (hset x hxp) hb hseen
        rw [Int.toNat_natCast] at hrd
        cases ha : act s.length i x j k with
        | stop =>
          rw [ha] at hD hrd; cases hD
          obtain ⟨kk, h⟩ := hrd
          exact ⟨kk, _, h, (fun κ h => by cases h), hF1, hfr1⟩
        | hit =>
          rw [ha] at hD hrd; cases hD
          exact ⟨k, _, hrd, (fun κ h => by cases h; rfl), hF1, hfr1⟩
        | go b k' =>
          rw [ha] at hD hrd
          obtain ⟨kk, been', g1, g2, g3, g4⟩ := ih hD (K := K) (by omega) hF1 (act_len hk ha)
          exact ⟨kk, been', hrd.trans g1, g2, g3, hfr1.trans g4⟩
        | fork y z =>
          rw [ha] at hD hrd
          obtain ⟨⟨q1, qM, qB⟩, hq, hD1⟩ := bind_some hD
          obtain ⟨kk, been', g1, g2, g3, g4⟩ := ih hq (K := K) (by omega) hF1 hk
          dsimp only at hrd
          rw [g1, Option.bind_some] at hrd
          cases q1 with
          | some κ =>
            cases hD1
            refine ⟨kk, been', ?_, g2, g3, hfr1.trans g4⟩
            rw [hrd]; rfl
          | none =>
            dsimp only at hD1
            obtain ⟨kk2, been2, g5, g6, g7, g8⟩ := from_m1 hn hm hset hD1 (K := K) (by omega) g3 hk
            refine ⟨kk2, been2, ?_, g6, g7, hfr1.trans (g4.trans g8)⟩
            rw [hrd, if_neg (by simp)]
            exact g5
        | eat =>
          rw [ha] at hD hrd
          cases Bs with
          | nil =>
            cases hD
            have hil : i = s.length := by have := hF.2.1; simp only [List.length_cons, List.length_nil] at this; omega
            have hno : hasf s i x = false := by unfold hasf; rw [List.getElem?_eq_none (by omega)]
            dsimp only at hrd
            rw [hno, if_neg (by decide)] at hrd
            obtain ⟨kk, h⟩ := hrd
            exact ⟨kk, _, h, (fun κ h => by cases h), hF1, hfr1⟩
          | cons B Bs2 =>
            dsimp only at hD hrd
            cases hh : hasf s i x with
            | false =>
              rw [hh, if_neg (by decide)] at hD hrd
              cases hD
              obtain ⟨kk, h⟩ := hrd
              exact ⟨kk, _, h, (fun κ h => by cases h), hF1, hfr1⟩
            | true =>
              rw [hh, if_pos rfl] at hD hrd
              obtain ⟨⟨q1, qM, qB⟩, hq, hD1⟩ := bind_some hD
              cases hD1
              obtain ⟨kk, been', g1, g2, g3, g4⟩ := ih hq (K := K) (by omega) hF1.tail hk
              exact ⟨kk, been', hrd.trans g1, g2, hF1.cons g3 g4, hfr1.trans g4.less⟩

theorem levels (n m : Nat) : FB (List.replicate (n * (m + 1)) false) n m 0 (List.replicate n false :: List.replicate m (List.replicate n false)) := by
  refine ⟨by simp, by simp, fun j M hj => ?_⟩
  have hM : M = List.replicate n false := by
    rw [← List.replicate_succ, List.getElem?_replicate] at hj
    split at hj
    · exact (Option.some.inj hj).symm
    · cases hj
  have hjm : j ≤ m := by
    have := (List.getElem?_eq_some_iff.1 hj).1
    simp at this; omega
  subst hM
  refine ⟨by simp, fun a ha => ?_⟩
  rw [List.getElem?_replicate, List.getElem?_replicate, if_pos (spot ha (by omega)), if_pos ha]
theorem upd_fill (j d : Nat) : upd (List.replicate j (-1 : Int) ++ List.replicate (d + 1) 0) j (-1) = List.replicate (j + 1) (-1) ++ List.replicate d 0 := by
  unfold upd
  rw [List.replicate_succ, List.set_append_right _ _ (by simp)]
  simp [List.replicate_succ']
theorem at_fill (j d : Nat) : (List.replicate j (-1 : Int) ++ List.replicate (d + 1) 0)[j]? = some 0 := by
  rw [List.getElem?_append_right (by simp)]; simp [List.replicate_succ]
theorem fill42 {p : List Ins} {s : List UInt8} {K : Nat} (hn : p.length ≤ 60) : ∀ {d j n : Nat}, j + d = p.length → d < n → pike_Match.l42 K p s n (List.replicate j (-1) ++ List.replicate d 0) j = some (List.replicate p.length (-1))
  | 0, j, n, hj, hd => by
    obtain ⟨n, rfl⟩ : ∃ n', n = n' + 1 := ⟨n - 1, by omega⟩
    rw [pike_Match.l42, if_neg (by simp; omega)]
    obtain rfl : j = p.length := by omega
    simp
  | d + 1, j, n, hj, hd => by
    obtain ⟨n, rfl⟩ : ∃ n', n = n' + 1 := ⟨n - 1, by omega⟩
    rw [pike_Match.l42, if_pos (by simp; omega), if_pos ⟨by omega, by simp; omega⟩, Nat.zero_add, Int.toNat_natCast, at_fill, Option.bind_some, upd_fill, show IntKind.i64.wrap ((j : Int) + 1) = ((j + 1 : Nat) : Int) from by rw [w64 (by omega) (by omega)]; rfl]
    exact fill42 hn (by omega) (by omega)
theorem fill31 {p : List Ins} {s : List UInt8} {v2 : List Int} {K : Nat} : ∀ {d j n : Nat}, j + d = 20 → d < n → pike_Match.l31 K p s v2 n (List.replicate j (-1) ++ List.replicate d 0) j = some (List.replicate 20 (-1))
  | 0, j, n, hj, hd => by
    obtain ⟨n, rfl⟩ : ∃ n', n = n' + 1 := ⟨n - 1, by omega⟩
    rw [pike_Match.l31, if_neg (by simp; omega)]
    obtain rfl : j = 20 := by omega
    rfl
  | d + 1, j, n, hj, hd => by
    obtain ⟨n, rfl⟩ : ∃ n', n = n' + 1 := ⟨n - 1, by omega⟩
    rw [pike_Match.l31, if_pos (by simp; omega), if_pos ⟨by omega, by omega⟩, Int.toNat_natCast, at_fill, Option.bind_some, upd_fill, show IntKind.i64.wrap ((j : Int) + 1) = ((j + 1 : Nat) : Int) from by rw [w64 (by omega) (by omega)]; rfl]
    exact fill31 (by omega) (by omega)
theorem fill8 {p : List T_millwrightref08_Instr} {s : List UInt8} {K : Nat} : ∀ {d j n : Nat}, j + d = 20 → d < n → millwrightref09_Match.l8 K p s n (List.replicate j (-1) ++ List.replicate d 0) j = some (List.replicate 20 (-1))
  | 0, j, n, hj, hd => by
    obtain ⟨n, rfl⟩ : ∃ n', n = n' + 1 := ⟨n - 1, by omega⟩
    rw [millwrightref09_Match.l8, if_neg (by simp; omega)]
    obtain rfl : j = 20 := by omega
    rfl
  | d + 1, j, n, hj, hd => by
    obtain ⟨n, rfl⟩ : ∃ n', n = n' + 1 := ⟨n - 1, by omega⟩
    rw [millwrightref09_Match.l8, if_pos (by simp; omega), if_pos ⟨by omega, by omega⟩, Int.toNat_natCast, at_fill, Option.bind_some, upd_fill, show IntKind.i64.wrap ((j : Int) + 1) = ((j + 1 : Nat) : Int) from by rw [w64 (by omega) (by omega)]; rfl]
    exact fill8 (by omega) (by omega)
theorem of_loop {p : List Ins} (hn : p.length ≤ 60) {K : Nat} : ∀ {rest : List Ins} {i n : Nat}, p.drop i = rest → i + rest.length = p.length → rest.length < n → millwrightlaw09_Of.l5 K p n ((p.take i).map conv) i = some (p.map conv)
  | [], i, n, e, hi, hlt => by
    obtain ⟨n, rfl⟩ : ∃ n', n = n' + 1 := ⟨n - 1, by simp at hlt; omega⟩
    simp at hi
    rw [millwrightlaw09_Of.l5, if_neg (by simp; omega), List.take_of_length_le (by omega)]
  | x :: rest, i, n, e, hi, hlt => by
    obtain ⟨n, rfl⟩ : ∃ n', n = n' + 1 := ⟨n - 1, by simp at hlt; omega⟩
    simp only [List.length_cons] at hi hlt
    have hx : p[i]? = some x := by rw [← List.head?_drop, e]; rfl
    have e2 : p.drop (i + 1) = rest := by rw [← List.tail_drop, e]; rfl
    have hidx : idx p (i : Int) = some x := by unfold idx; rw [if_pos (by omega), Int.toNat_natCast, hx]
    have ht : p.take (i + 1) = p.take i ++ [x] := by rw [List.take_add_one, hx]; rfl
    rw [millwrightlaw09_Of.l5, if_pos (by simp; omega), hidx, Option.bind_some, if_pos (by simp; unfold LIM; omega), show IntKind.i64.wrap ((i : Int) + 1) = ((i + 1 : Nat) : Int) from by rw [w64 (by omega) (by omega)]; rfl]
    have := of_loop hn (K := K) (rest := rest) (i := i + 1) (n := n) e2 (by omega) (by omega)
    rw [ht, List.map_append] at this
    exact this
theorem same_ints {K : Nat} {l : List Int} (hl : l.length ≤ 1000) : ∀ {d j n : Nat}, j + d = l.length → d < n → millwrightnum_SameInts.l4 K l l n j = some (Sum.inl ())
  | 0, j, n, hj, hd => by
    obtain ⟨n, rfl⟩ : ∃ n', n = n' + 1 := ⟨n - 1, by omega⟩
    rw [millwrightnum_SameInts.l4, if_neg (by simp; omega)]
  | d + 1, j, n, hj, hd => by
    obtain ⟨n, rfl⟩ : ∃ n', n = n' + 1 := ⟨n - 1, by omega⟩
    have hidx : idx l (j : Int) = some (l[j]'(by omega)) := by unfold idx; rw [if_pos (by omega), Int.toNat_natCast, List.getElem?_eq_getElem (by omega)]
    rw [millwrightnum_SameInts.l4, if_pos (by simp; omega), hidx, Option.bind_some, Option.bind_some, if_neg (by simp), show IntKind.i64.wrap ((j : Int) + 1) = ((j + 1 : Nat) : Int) from by rw [w64 (by omega) (by omega)]; rfl]
    exact same_ints hl (d := d) (j := j + 1) (n := n) (by omega) (by omega)
theorem D_len {p : List Ins} {m : Nat} {has : Nat → Ins → Bool} : ∀ {f i a k M Bs r M' Bs'}, D p m has f i a k M Bs = some (r, M', Bs') → k.length = 20 → ∀ κ, r = some κ → κ.length = 20 := by
  intro f
  induction f with
  | zero => intro i a k M Bs r M' Bs' h; cases h
  | succ f ih =>
    intro i a k M Bs r M' Bs' h hk κ hκ
    unfold D at h
    cases hx : idx p a with
    | none => rw [hx] at h; cases h; cases hκ
    | some x =>
      rw [hx] at h
      dsimp only at h
      split at h
      · cases h; cases hκ
      · cases ha : act m i x a k with
        | stop => rw [ha] at h; cases h; cases hκ
        | hit => rw [ha] at h; cases h; cases hκ; exact hk
        | go b k' => rw [ha] at h; exact ih h (act_len hk ha) κ hκ
        | fork x y =>
          rw [ha] at h
          obtain ⟨⟨q1, q2, q3⟩, hq, h1⟩ := bind_some h
          cases q1 with
          | some κ' => cases h1; exact ih hq hk κ hκ
          | none => exact ih h1 hk κ hκ
        | eat =>
          rw [ha] at h
          cases Bs with
          | nil => cases h; cases hκ
          | cons B Bs2 =>
            dsimp only at h
            split at h
            · obtain ⟨⟨q1, q2, q3⟩, hq, h1⟩ := bind_some h
              cases h1; exact ih hq hk κ hκ
            · cases h; cases hκ
theorem both {p : List Ins} {s : List UInt8} (hn : p.length ≤ 60) (hm : s.length ≤ 60) (hset : ∀ x ∈ p, SetOk x.f_Set) :
    ∃ r : Option Kp, pike_Match.f 9000 p s = some (r.getD [], r.isSome) ∧ (∃ kk, millwrightref09_Match.f 9000 (p.map conv) s = some (kk, r.isSome) ∧ ∀ κ, r = some κ → kk = κ) ∧ ∀ κ, r = some κ → κ.length = 20 := by
  have hlen : p.length * (s.length + 1) ≤ 60 * 61 := Nat.mul_le_mul hn (by omega)
  obtain ⟨r, M1, BB, hD, _⟩ := D_def (p := p) (m := s.length) (has := hasf s) (f := 8000) (i := 0) (a := 0) (k := List.replicate 20 (-1)) (M := List.replicate p.length false) (Bs := List.replicate s.length (List.replicate p.length false)) (by
    have h1 : cnts (List.replicate s.length (List.replicate p.length false)) = s.length * p.length := by
      unfold cnts; rw [List.map_replicate, cnt_rep, List.sum_replicate_nat]
    rw [h1, cnt_rep]
    have : s.length * p.length ≤ 60 * 60 := Nat.mul_le_mul hm hn
    omega)
  refine ⟨r, ?_, ?_, D_len hD (by simp)⟩
  · have hcz : cnt (List.replicate p.length false) < 8998 + 1 := by rw [cnt_rep]; omega
    obtain ⟨M', N, fo, hC, g0, g1⟩ := found hcz hD
    have hv0 : mkI 0 (List.replicate p.length (-1)) = List.replicate p.length false := by unfold mkI; rw [List.map_replicate]; rfl
    rw [← hv0] at hC
    obtain ⟨w, a1, a2, a3, a4, a5⟩ := add_f hn (K := 8999) (v2 := []) hC (by omega) (by simp) (by simp) (by rw [hv0, cnt_rep]; simp; omega) (fun x hx => by rw [List.mem_replicate] at hx; omega)
    have hin := C_in hC
    have hcl := C_len hC
    rw [hv0, cnt_rep] at hcl
    unfold pike_Match.f
    rw [if_pos ⟨by omega, by omega, by unfold LIM; omega⟩, Int.toNat_natCast]
    have f42 := fill42 (p := p) (s := s) (K := 9000) hn (d := p.length) (j := 0) (n := 9000) (by omega) (by omega)
    rw [List.replicate_zero, List.nil_append] at f42
    rw [show (0 : Int) = ((0 : Nat) : Int) from rfl] at f42 ⊢
    rw [f42, Option.bind_some]
    unfold pike_Match.j39
    have f31 := fill31 (p := p) (s := s) (v2 := List.replicate p.length (-1)) (K := 9000) (d := 20) (j := 0) (n := 9000) (by omega) (by omega)
    rw [List.replicate_zero, List.nil_append] at f31
    rw [show (0 : Int) = ((0 : Nat) : Int) from rfl] at f31 ⊢
    rw [f31, Option.bind_some]
    unfold pike_Match.j28
    rw [show (0 : Int) = ((0 : Nat) : Int) from rfl] at a1 ⊢
    rw [a1, Option.bind_some]
    dsimp only
    rw [List.nil_append]
    have hj : ∀ v' l', pike_Match.j11 9000 p s (s.length : Int) v' l' r = some (r.getD [], r.isSome) := fun v' l' => by
      unfold pike_Match.j11
      cases r <;> rfl
    by_cases hz : s.length = 0
    · have e := g0 hz
      subst e
      have hl17 : pike_Match.l17 9000 p s 9000 ((0 : Nat) : Int) w (N.map thr) r ((0 : Nat) : Int) = some ((s.length : Int), w, N.map thr, r) := by
        rw [show (9000 : Nat) = 8999 + 1 from rfl, pike_Match.l17, if_neg (by rw [hz]; decide), hz]
      rw [hl17, Option.bind_some]
      exact hj _ _
    · obtain ⟨e1, e2⟩ := g1 hz
      subst e1
      obtain ⟨v', l', hl⟩ := match_loop hn hm hset (K := 8998) (by decide) (c := s.length) (i := 0) (n := 9000) (N := N) (v := w) (r := r) (by omega) (fun _ => e2) (fun h => absurd h hz) (by omega) a3 a4 (by omega) (fun t ht => ⟨a5 t ht, hin t ht⟩)
      rw [hl, Option.bind_some]
      exact hj _ _
  · obtain ⟨kk, been', h1, h2, _, _⟩ := from_m0 hn hm hset hD (K := 9000) (by omega) (levels p.length s.length) (by simp)
    unfold millwrightref09_Match.f
    have hI : IntKind.i64.wrap (((p.map conv).length : Int) * IntKind.i64.wrap ((s.length : Int) + 1)) = ((p.length * (s.length + 1) : Nat) : Int) := by
      rw [List.length_map, w64 (n := (s.length : Int) + 1) (by omega) (by omega)]
      have h2 : (p.length : Int) * ((s.length : Int) + 1) = ((p.length * (s.length + 1) : Nat) : Int) := by rw [Int.natCast_mul]; rfl
      rw [h2, w64 (by omega) (by omega)]
    have f8 := fill8 (p := p.map conv) (s := s) (K := 9000) (d := 20) (j := 0) (n := 9000) (by omega) (by omega)
    rw [List.replicate_zero, List.nil_append] at f8
    rw [hI, if_pos ⟨by omega, by omega, by unfold LIM; omega⟩]
    rw [show (0 : Int) = ((0 : Nat) : Int) from rfl] at f8 ⊢
    rw [f8, Option.bind_some]
    unfold millwrightref09_Match.j5
    rw [hI, Int.toNat_natCast]
    rw [show (0 : Int) = ((0 : Nat) : Int) from rfl] at h1 ⊢
    rw [h1, Option.bind_some]
    cases r with
    | none => exact ⟨_, rfl, fun κ h => by cases h⟩
    | some κ => exact ⟨kk, rfl, h2⟩
end Pk
end Go.Proofs.YthmbbdemecljpaaDoor
