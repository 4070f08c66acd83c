/- The law: Kleene's rules. -/
import Derived.Test.YteddmdkbeednmaaDoorK30DNVF
namespace Go.Proofs.YteddmdkbeednmaaDoor
open Go Go.AM
set_option linter.unusedVariables false
set_option linter.unusedSimpArgs false
set_option maxRecDepth 100000
namespace Dn
theorem same_loop {a b : RN} {s : List UInt8} (ha : Good a) (hb : Good b) (hs : s.length ≤ 60) (h : ∀ i j, Den s a i j ↔ Den s b i j) : ∀ (d fuel i : Nat), i + d = s.length + 1 → d < fuel → millwrightlaw10_same.l3 1000 a b s fuel (i : Int) = some (.inl ())
  | _, 0, _, _, h => by omega
  | 0, f + 1, i, h1, h2 => by
    unfold millwrightlaw10_same.l3
    rw [if_neg (by simp; omega)]
  | d + 1, f + 1, i, h1, h2 => by
    obtain ⟨Y, e1, l1, m1⟩ := ends_in (K := 1000) ha hs (by omega) (by omega) (i := i) (by omega)
    obtain ⟨Z, e2, l2, m2⟩ := ends_in (K := 1000) hb hs (by omega) (by omega) (i := i) (by omega)
    have : Y = Z := mem_ext (l1.trans l2.symm) fun j => (m1 j).trans ((h i j).trans (m2 j).symm)
    subst this
    have hl := trues_len 0 Y
    unfold millwrightlaw10_same.l3
    rw [if_pos (by simp; omega), rn_eta, rn_eta, e1, e2, Option.bind_some, Option.bind_some, ints_f (by omega) (by omega), Option.bind_some, if_neg (by decide), wr1 (by omega)]
    exact same_loop ha hb hs h d f (i + 1) (by omega) (by omega)
theorem same_f {a b : RN} {s : List UInt8} (ha : Good a) (hb : Good b) (hs : s.length ≤ 60) (h : ∀ i j, Den s a i j ↔ Den s b i j) : millwrightlaw10_same.f 1000 a b s = some true := by
  unfold millwrightlaw10_same.f
  have := same_loop ha hb hs h (s.length + 1) 1000 0 (by omega) (by omega)
  rw [show (0 : Int) = ((0 : Nat) : Int) from rfl, this]
  rfl
abbrev nStar (x : RN) : RN := .mk 4 0 zeros [x]
abbrev nPlus (x : RN) : RN := .mk 5 0 zeros [x]
abbrev nOpt (x : RN) : RN := .mk 6 0 zeros [x]
abbrev nCat (x y : RN) : RN := .mk 2 0 zeros [x, y]
abbrev nAlt (x y : RN) : RN := .mk 3 0 zeros [x, y]
abbrev nNil : RN := .mk 0 0 zeros []
theorem good_one {x : RN} {k : Int} (hk : k = 4 ∨ k = 5 ∨ k = 6) (h : Good x) (hs : nsz x + 1 ≤ 100) : Good (.mk k 0 zeros [x]) := by
  refine ⟨by simp [nsz, nszs]; omega, ?_, ?_⟩
  · rw [rightN, rightNs, rightNs, h.rt]
    rcases hk with rfl | rfl | rfl <;> rfl
  · rw [setsN, setsL, setsL]
    exact ⟨zero_ok, h.st, trivial⟩
theorem good_two {x y : RN} {k : Int} (hk : k = 2 ∨ k = 3) (h : Good x) (h2 : Good y) (hs : nsz x + nsz y + 1 ≤ 100) : Good (.mk k 0 zeros [x, y]) := by
  refine ⟨by simp [nsz, nszs]; omega, ?_, ?_⟩
  · rw [rightN, rightNs, rightNs, rightNs, h.rt, h2.rt]
    rcases hk with rfl | rfl <;> rfl
  · rw [setsN, setsL, setsL, setsL]
    exact ⟨zero_ok, h.st, h2.st, trivial⟩
theorem good_nil : Good nNil := ⟨by decide, by decide, by rw [setsN, setsL]; exact ⟨zero_ok, trivial⟩⟩
section
variable (s : List UInt8) (x y : RN) (i j : Nat)
theorem d_star : Den s (nStar x) i j ↔ RT (Den s x) i j := by
  rw [den_eq]
  simp only [T_rex_Node.f_Kind, T_rex_Node.f_Kids, Int.reduceEq, if_false, if_true]
  exact rt_congr (denC_one s x) i j
theorem d_cat : Den s (nCat x y) i j ↔ cp (Den s x) (Den s y) i j := by
  rw [den_eq]
  simp only [T_rex_Node.f_Kind, T_rex_Node.f_Kids, Int.reduceEq, if_false, if_true]
  rw [DenC]
  unfold cp
  simp only [denC_one]
theorem d_alt : Den s (nAlt x y) i j ↔ un (Den s x) (Den s y) i j := by
  rw [den_eq]
  simp only [T_rex_Node.f_Kind, T_rex_Node.f_Kids, Int.reduceEq, if_false, if_true]
  rw [DenA, DenA, DenA]
  unfold un
  simp
theorem d_nil : Den s nNil i j ↔ id_ i j := by
  rw [den_eq]
  simp only [T_rex_Node.f_Kind, T_rex_Node.f_Kids, Int.reduceEq, if_false, if_true]
  exact Iff.rfl
theorem d_plus : Den s (nPlus x) i j ↔ cp (Den s x) (RT (Den s x)) i j := by
  rw [den_eq]
  simp only [T_rex_Node.f_Kind, T_rex_Node.f_Kids, Int.reduceEq, if_false, if_true]
  unfold cp
  constructor
  · rintro ⟨m, a, b⟩; exact ⟨m, (denC_one s x _ _).1 a, (rt_congr (denC_one s x) _ _).1 b⟩
  · rintro ⟨m, a, b⟩; exact ⟨m, (denC_one s x _ _).2 a, (rt_congr (denC_one s x) _ _).2 b⟩
theorem d_opt : Den s (nOpt x) i j ↔ un id_ (Den s x) i j := by
  rw [den_eq]
  simp only [T_rex_Node.f_Kind, T_rex_Node.f_Kids, Int.reduceEq, if_false, if_true]
  unfold un id_
  rw [denC_one]
end
theorem cp_congr {R R' S S' : Rl} (h : ∀ i j, R i j ↔ R' i j) (g : ∀ i j, S i j ↔ S' i j) (i j : Nat) : cp R S i j ↔ cp R' S' i j := by
  unfold cp; simp only [h, g]
theorem un_congr {R R' S S' : Rl} (h : ∀ i j, R i j ↔ R' i j) (g : ∀ i j, S i j ↔ S' i j) (i j : Nat) : un R S i j ↔ un R' S' i j := by
  unfold un; simp only [h, g]
section
variable (s : List UInt8) (a b : RN)
theorem r1 (i j : Nat) : Den s (nStar (nStar a)) i j ↔ Den s (nStar a) i j := by
  rw [d_star, rt_congr (d_star s a), d_star]; exact k_idem _ i j
theorem r2 (i j : Nat) : Den s (nCat a (nStar (nCat b a))) i j ↔ Den s (nCat (nStar (nCat a b)) a) i j := by
  rw [d_cat, d_cat]
  rw [cp_congr (fun _ _ => Iff.rfl) (fun p q => (d_star s (nCat b a) p q).trans (rt_congr (d_cat s b a) p q)), cp_congr (fun p q => (d_star s (nCat a b) p q).trans (rt_congr (d_cat s a b) p q)) (fun _ _ => Iff.rfl)]
  exact k_slide _ _ i j
theorem r3 (i j : Nat) : Den s (nAlt a b) i j ↔ Den s (nAlt b a) i j := by
  rw [d_alt, d_alt]; exact k_comm _ _ i j
theorem r4 (i j : Nat) : Den s (nCat (nStar a) (nStar a)) i j ↔ Den s (nStar a) i j := by
  rw [d_cat, cp_congr (d_star s a) (d_star s a), d_star]; exact k_twice _ i j
theorem r5 (i j : Nat) : Den s (nStar (nAlt a b)) i j ↔ Den s (nStar (nCat (nStar a) (nStar b))) i j := by
  rw [d_star, d_star, rt_congr (d_alt s a b), rt_congr (fun p q => (d_cat s _ _ p q).trans (cp_congr (d_star s a) (d_star s b) p q))]
  exact k_star _ _ i j
theorem r6 (i j : Nat) : Den s (nStar a) i j ↔ Den s (nAlt nNil (nCat a (nStar a))) i j := by
  rw [d_alt, d_star, un_congr (d_nil s) (fun p q => (d_cat s _ _ p q).trans (cp_congr (fun _ _ => Iff.rfl) (d_star s a) p q))]
  exact k_unfold _ i j
theorem r7 (i j : Nat) : Den s (nPlus a) i j ↔ Den s (nCat a (nStar a)) i j := by
  rw [d_plus, d_cat, cp_congr (fun _ _ => Iff.rfl) (d_star s a)]
theorem r8 (i j : Nat) : Den s (nOpt a) i j ↔ Den s (nAlt nNil a) i j := by
  rw [d_opt, d_alt, un_congr (d_nil s) (fun _ _ => Iff.rfl)]
end
end Dn
open Dn in
theorem denoteKleene_true (a0 a1 : T_rex_Node) (a2 : List UInt8) (h0 : Wf Un (.named 3) a0) (h1 : Wf Un (.named 3) a1) (_ : Wf Un .str a2) : ∃ k, millwrightlaw10_DenoteKleene.f k a0 a1 a2 = some true := by
  refine ⟨1000, ?_⟩
  unfold millwrightlaw10_DenoteKleene.f
  simp only [rn_eta]
  rw [alive10, Option.bind_some, if_neg (by decide)]
  by_cases hl : (a2.length : Int) > 16
  · rw [if_pos (by simpa using hl)]; rfl
  rw [if_neg (by simpa using hl)]
  obtain ⟨b, e, hb⟩ := great_g a0 20 (by omega)
  obtain ⟨c, e2, hc⟩ := great_g a1 20 (by omega)
  have e' : millwrightlaw08_Great.f 1000 a0 20 = some b := e
  have e2' : millwrightlaw08_Great.f 1000 a1 20 = some c := e2
  rw [e', e2', Option.bind_some, Option.bind_some]
  unfold millwrightlaw10_DenoteKleene.j61
  cases b with
  | true => rw [if_pos rfl]; rfl
  | false =>
  cases c with
  | true => rw [if_neg (by decide)]; rfl
  | false =>
    rw [if_neg (by decide), if_neg (by decide)]
    have z0 := hb rfl
    have z1 := hc rfl
    unfold millwrightlaw10_DenoteKleene.j58
    simp only [rn_eta]
    rw [right_f a0 1000 (by omega) (by omega) (by omega), right_f a1 1000 (by omega) (by omega) (by omega), Option.bind_some, Option.bind_some]
    have hwrong : (rightN a0 && rightN a1) = false → millwrightlaw10_DenoteKleene.j54 1000 a0 a1 a2 true = some true := fun h => by
      unfold millwrightlaw10_DenoteKleene.j54 millwrightlaw10_cat.f
      simp only [rn_eta, if_true, Option.bind_some]
      rw [ends_wrong (by rw [rightN, rightNs, rightNs, rightNs, Bool.and_true, h, Bool.and_false]) (by simp [nsz, nszs]; omega) (by omega) (by omega)]
      rfl
    cases hr0 : rightN a0 with
    | false => simp only [Bool.not_false, if_true]; exact hwrong (by rw [hr0]; rfl)
    | true =>
    cases hr1 : rightN a1 with
    | false => simp only [Bool.not_true, Bool.not_false, Bool.false_eq_true, if_false]; exact hwrong (by rw [hr1, Bool.and_false])
    | true =>
      have ga : Dn.Good a0 := ⟨by omega, hr0, wf_sets a0 h0⟩
      have gb : Dn.Good a1 := ⟨by omega, hr1, wf_sets a1 h1⟩
      have hs : a2.length ≤ 60 := by omega
      have sz1 : ∀ (k : Int) (x : RN), nsz (.mk k 0 zeros [x]) = nsz x + 1 := fun k x => by simp [nsz, nszs]; omega
      have sz2 : ∀ (k : Int) (x y : RN), nsz (.mk k 0 zeros [x, y]) = nsz x + nsz y + 1 := fun k x y => by simp [nsz, nszs]; omega
      have sz0 : nsz nNil = 1 := by decide
      have gsa : Dn.Good (nStar a0) := good_one (.inl rfl) ga (by omega)
      have gsb : Dn.Good (nStar a1) := good_one (.inl rfl) gb (by omega)
      have gab : Dn.Good (nAlt a0 a1) := good_two (.inr rfl) ga gb (by omega)
      have gba : Dn.Good (nAlt a1 a0) := good_two (.inr rfl) gb ga (by omega)
      have gcab : Dn.Good (nCat a0 a1) := good_two (.inl rfl) ga gb (by omega)
      have gcba : Dn.Good (nCat a1 a0) := good_two (.inl rfl) gb ga (by omega)
      have gca : Dn.Good (nCat a0 (nStar a0)) := good_two (.inl rfl) ga gsa (by rw [sz1]; omega)
      unfold millwrightlaw10_DenoteKleene.j54 millwrightlaw10_DenoteKleene.j49 millwrightlaw10_DenoteKleene.j28 millwrightlaw10_DenoteKleene.j25 millwrightlaw10_cat.f millwrightlaw10_alt.f millwrightlaw10_star.f
      simp only [rn_eta, Option.bind_some, Bool.not_true, Bool.false_eq_true, if_false]
      rw [same_f (good_one (.inl rfl) gab (by rw [sz2]; omega)) (good_one (.inl rfl) (good_two (.inl rfl) gsa gsb (by rw [sz1, sz1]; omega)) (by rw [sz2, sz1, sz1]; omega)) hs (r5 a2 a0 a1)]
      rw [same_f gsa (good_two (.inr rfl) good_nil gca (by rw [sz2, sz1, sz0]; omega)) hs (r6 a2 a0)]
      rw [same_f (good_one (.inr (.inl rfl)) ga (by omega)) gca hs (r7 a2 a0)]
      rw [same_f (good_one (.inr (.inr rfl)) ga (by omega)) (good_two (.inr rfl) good_nil ga (by rw [sz0]; omega)) hs (r8 a2 a0)]
      rw [same_f (good_one (.inl rfl) gsa (by rw [sz1]; omega)) gsa hs (r1 a2 a0)]
      rw [same_f (good_two (.inl rfl) ga (good_one (.inl rfl) gcba (by rw [sz2]; omega)) (by rw [sz1, sz2]; omega)) (good_two (.inl rfl) (good_one (.inl rfl) gcab (by rw [sz2]; omega)) ga (by rw [sz1, sz2]; omega)) hs (r2 a2 a0 a1)]
      rw [same_f gab gba hs (r3 a2 a0 a1)]
      rw [same_f (good_two (.inl rfl) gsa gsa (by rw [sz1]; omega)) gsa hs (r4 a2 a0)]
      rfl
end Go.Proofs.YteddmdkbeednmaaDoor
