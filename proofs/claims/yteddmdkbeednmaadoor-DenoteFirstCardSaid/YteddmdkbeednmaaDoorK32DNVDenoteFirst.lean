/- The law: the bytes with which texts may begin. -/
import Derived.Test.YteddmdkbeednmaaDoorK32DNVH
namespace Go.Proofs.YteddmdkbeednmaaDoor
open Go Go.AM
set_option linter.unusedVariables false
set_option linter.unusedSimpArgs false
set_option maxRecDepth 100000
namespace Dn
theorem firstL_mono (b : Bool) {c : Nat} (hc : c < 256) : ∀ (l : List RN) (acc : List Int), SetOk acc → setsL l → setHas acc c = true → setHas (firstL b acc l) c = true
  | [], acc, _, _, h => by rw [firstL]; exact h
  | x :: xs, acc, h, g, hh => by
    rw [setsL] at g
    have hu : setHas (uni acc (firstN x)) c = true := by rw [has_uni h (first_ok x g.1) hc, hh]; rfl
    rw [firstL]
    split
    · exact hu
    · exact firstL_mono b hc xs _ (uni_ok h (first_ok x g.1)) g.2 hu
theorem firstL_one (b : Bool) (acc : List Int) (x : RN) : firstL b acc [x] = uni acc (firstN x) := by
  rw [firstL, firstL]; split <;> rfl
section
variable (s : List UInt8)
mutual
theorem den_first : ∀ (n : RN) (i j : Nat), rightN n = true → setsN n → i ≤ s.length → Den s n i j → (i < j → ∃ c, s[i]? = some c ∧ setHas (firstN n) c.toNat = true) ∧ (i = j → skipN n = true)
  | .mk a b w ks, i, j, hr, hw, hi, h => by
    have hC := denC_first ks
    have hA := denA_first ks
    rw [rightN, Bool.and_eq_true] at hr
    rw [setsN] at hw
    rw [Den] at h
    rw [firstN, skipN]
    have hone : ks.length = 1 → ∀ m, DenC s ks i m → (i < m → ∃ c, s[i]? = some c ∧ setHas (firstL false w ks) c.toNat = true) ∧ (i = m → skipAll ks = true) := fun g m hm => by
      obtain ⟨p, q⟩ := hC i m hr.2 hw.2 hi hm
      refine ⟨fun hlt => ?_, q⟩
      obtain ⟨c, e1, e2⟩ := p hlt w hw.1
      obtain ⟨x, rfl⟩ := one_kid g
      rw [firstL_one] at e2 ⊢
      exact ⟨c, e1, e2⟩
    have hrt : ks.length = 1 → ∀ k m, k ≤ s.length → RT (DenC s ks) k m → k = i → i < m → ∃ c, s[i]? = some c ∧ setHas (firstL false w ks) c.toNat = true := fun g k m hk hm e hlt => by
      subst e
      obtain ⟨d, d1, d2, d3⟩ := rt_step (denC_le s ks) hm hk hlt
      exact (hone g d d2).1 d1
    rcases hdr_true hr.1 with ⟨rfl, g⟩ | ⟨rfl, g⟩ | ⟨rfl, g⟩ | ⟨rfl, g⟩ | ⟨rfl, g⟩ | ⟨rfl, g⟩ | ⟨rfl, g⟩ | ⟨rfl, g, _⟩ | ⟨rfl, g⟩ | ⟨rfl, g⟩ <;> simp only [Int.reduceEq, if_false, if_true, or_false, or_true, false_or, or_self, decide_true, decide_false] at h ⊢
    · exact ⟨fun hlt => by omega, fun _ => trivial⟩
    · obtain ⟨e, c, h1, h2⟩ := h
      rw [List.eq_nil_of_length_eq_zero g, firstL]
      exact ⟨fun _ => ⟨c, h1, h2⟩, fun e' => by omega⟩
    · obtain ⟨p, q⟩ := hC i j hr.2 hw.2 hi h
      exact ⟨fun hlt => p hlt w hw.1, q⟩
    · obtain ⟨p, q⟩ := hA i j hr.2 hw.2 hi h
      exact ⟨fun hlt => p hlt w hw.1, q⟩
    · exact ⟨fun hlt => hrt g i j hi h rfl hlt, fun _ => trivial⟩
    · obtain ⟨m, h1, h2⟩ := h
      have l1 := denC_le s ks i m h1 hi
      have l2 := rt_le (denC_le s ks) h2 l1.2
      refine ⟨fun hlt => ?_, fun e => (hone g m h1).2 (by omega)⟩
      by_cases hm : i < m
      · exact (hone g m h1).1 hm
      · exact hrt g m j l1.2 h2 (by omega) (by omega)
    · refine ⟨fun hlt => ?_, fun _ => trivial⟩
      rcases h with h | h
      · omega
      · exact (hone g j h).1 hlt
    · exact hone g j h
    · exact ⟨fun hlt => by omega, fun _ => trivial⟩
    · exact ⟨fun hlt => by omega, fun _ => trivial⟩
theorem denC_first : ∀ (l : List RN) (i j : Nat), rightNs l = true → setsL l → i ≤ s.length → DenC s l i j → (i < j → ∀ acc, SetOk acc → ∃ c, s[i]? = some c ∧ setHas (firstL true acc l) c.toNat = true) ∧ (i = j → skipAll l = true)
  | [], i, j, _, _, _, h => by
    rw [DenC] at h
    exact ⟨fun hlt => by omega, fun _ => by rw [skipAll]⟩
  | x :: xs, i, j, hr, hw, hi, h => by
    rw [rightNs, Bool.and_eq_true] at hr
    rw [setsL] at hw
    rw [DenC] at h
    obtain ⟨m, h1, h2⟩ := h
    have l1 := den_le s x i m h1 hi
    have l2 := denC_le s xs m j h2 l1.2
    obtain ⟨p1, q1⟩ := den_first x i m hr.1 hw.1 hi h1
    obtain ⟨p2, q2⟩ := denC_first xs m j hr.2 hw.2 l1.2 h2
    refine ⟨fun hlt acc ha => ?_, fun e => ?_⟩
    · have hu := uni_ok ha (first_ok x hw.1)
      by_cases hm : i < m
      · obtain ⟨c, e1, e2⟩ := p1 hm
        have hc : c.toNat < 256 := c.toNat_lt
        have hh : setHas (uni acc (firstN x)) c.toNat = true := by rw [has_uni ha (first_ok x hw.1) hc, e2, Bool.or_true]
        refine ⟨c, e1, ?_⟩
        rw [firstL]
        split
        · exact hh
        · exact firstL_mono true hc xs _ hu hw.2 hh
      · have e : i = m := by omega
        subst e
        rw [firstL, q1 rfl]
        simp only [Bool.not_true, Bool.and_false, Bool.false_eq_true, if_false]
        exact p2 hlt _ hu
    · rw [skipAll, q1 (by omega), q2 (by omega)]; rfl
theorem denA_first : ∀ (l : List RN) (i j : Nat), rightNs l = true → setsL l → i ≤ s.length → DenA s l i j → (i < j → ∀ acc, SetOk acc → ∃ c, s[i]? = some c ∧ setHas (firstL false acc l) c.toNat = true) ∧ (i = j → skipAny l = true)
  | [], i, j, _, _, _, h => by rw [DenA] at h; exact h.elim
  | x :: xs, i, j, hr, hw, hi, h => by
    rw [rightNs, Bool.and_eq_true] at hr
    rw [setsL] at hw
    rw [DenA] at h
    refine ⟨fun hlt acc ha => ?_, fun e => ?_⟩
    · have hu := uni_ok ha (first_ok x hw.1)
      rw [firstL]
      simp only [Bool.false_and, Bool.false_eq_true, if_false]
      rcases h with h | h
      · obtain ⟨c, e1, e2⟩ := (den_first x i j hr.1 hw.1 hi h).1 hlt
        have hc : c.toNat < 256 := c.toNat_lt
        exact ⟨c, e1, firstL_mono false hc xs _ hu hw.2 (by rw [has_uni ha (first_ok x hw.1) hc, e2, Bool.or_true])⟩
      · exact (denA_first xs i j hr.2 hw.2 hi h).1 hlt _ hu
    · rw [skipAny]
      rcases h with h | h
      · rw [(den_first x i j hr.1 hw.1 hi h).2 e]; rfl
      · rw [(denA_first xs i j hr.2 hw.2 hi h).2 e, Bool.or_true]
end
theorem l19_f (K : Nat) (a0 : RN) {w : List Int} (hw : SetOk w) {i : Nat} (hi : i < s.length) (L : List Int) (hL : L.length ≤ 1000) (h : ∀ v ∈ L, (i : Int) < v → setHas w (s[i]).toNat = true) : ∀ (r : List Int) (fuel p : Nat), L.drop p = r → r.length < fuel → millwrightlaw10_DenoteFirst.l19 K a0 s w i L fuel (p : Int) = some (.inl ())
  | _, 0, _, _, h => by omega
  | [], f + 1, p, hl, _ => by
    have := at_nil hl
    unfold millwrightlaw10_DenoteFirst.l19
    rw [if_neg (by simp; omega)]
  | v :: r, f + 1, p, hl, hf => by
    obtain ⟨g1, g2, g3⟩ := at_drop hl
    have hv : v ∈ L := List.mem_of_mem_drop (by rw [hl]; exact .head _)
    have ih := l19_f K a0 hw hi L hL h r f (p + 1) g2 (by simp at hf; omega)
    unfold millwrightlaw10_DenoteFirst.l19 millwrightlaw10_DenoteFirst.j27 millwrightlaw10_DenoteFirst.j23
    rw [if_pos (by simp; exact g3), g1, Option.bind_some, wr1 (by omega), ih]
    by_cases hlt : (i : Int) < v
    · rw [if_pos (by simpa using hlt), idx_at rfl hi, Option.bind_some, class_has hw (by have := (s[i]).toNat_lt; omega), Option.bind_some, h v hv hlt]; rfl
    · rw [if_neg (by simpa using hlt)]; rfl
theorem l12_f {a0 : RN} (ga : Good a0) (hs : s.length ≤ 60) : ∀ (d fuel i : Nat), i + d = s.length → d < fuel → millwrightlaw10_DenoteFirst.l12 1000 a0 s (firstN a0) fuel (i : Int) = some (.inl ())
  | _, 0, _, _, h => by omega
  | 0, f + 1, i, h1, h2 => by
    unfold millwrightlaw10_DenoteFirst.l12
    rw [if_neg (by simp; omega)]
  | d + 1, f + 1, i, h1, h2 => by
    obtain ⟨Y, e1, l1, m1⟩ := ends_in (K := 1000) ga hs (by omega) (by omega) (i := i) (by omega)
    have hlen := trues_len 0 Y
    have hi : i < s.length := by omega
    unfold millwrightlaw10_DenoteFirst.l12
    rw [if_pos (by simp; omega), rn_eta, e1, Option.bind_some, show (0 : Int) = ((0 : Nat) : Int) from rfl, l19_f s 1000 a0 (first_ok a0 ga.st) hi (trues 0 Y) (by omega) (fun v hv hlt => by
      obtain ⟨j, hj, e⟩ := (mem_trues Y 0 v).1 hv
      obtain ⟨c, e2, e3⟩ := (den_first s a0 i j ga.rt ga.st (by omega) ((m1 j).1 hj)).1 (by omega)
      rw [List.getElem?_eq_getElem hi] at e2
      injection e2 with e2
      rw [e2]; exact e3) (trues 0 Y) 1000 0 rfl (by omega), Option.bind_some]
    unfold millwrightlaw10_DenoteFirst.j16
    simp only
    rw [wr1 (by omega)]
    exact l12_f ga hs d f (i + 1) (by omega) (by omega)
end
end Dn
open Dn in
theorem denoteFirst_true (a0 : T_rex_Node) (a1 : List UInt8) (h0 : Wf Un (.named 3) a0) (_ : Wf Un .str a1) : ∃ k, millwrightlaw10_DenoteFirst.f k a0 a1 = some true := by
  refine ⟨1000, ?_⟩
  unfold millwrightlaw10_DenoteFirst.f
  simp only [rn_eta]
  rw [alive10, Option.bind_some, if_neg (by decide)]
  by_cases hl : (a1.length : Int) > 16
  · rw [if_pos (by simpa using hl)]; rfl
  rw [if_neg (by simpa using hl)]
  obtain ⟨b, e, hb⟩ := great_g a0 40 (by omega)
  have e' : millwrightlaw08_Great.f 1000 a0 40 = some b := e
  rw [e', Option.bind_some]
  unfold millwrightlaw10_DenoteFirst.j38
  cases b with
  | true => rfl
  | false =>
    rw [if_neg (by decide)]
    have z0 := hb rfl
    unfold millwrightlaw10_DenoteFirst.j35 denote_First.f
    simp only [rn_eta, dn_eta]
    rw [of_f 1000 a0 (by omega) (by omega) (by omega), Option.bind_some, rright_f 1000 a0 (by omega) (by omega) (by omega), right_f a0 1000 (by omega) (by omega) (by omega)]
    simp only [Option.bind_some]
    cases hr : rightN a0 with
    | false => rfl
    | true =>
      have ga : Dn.Good a0 := ⟨by omega, hr, wf_sets a0 h0⟩
      simp only [Bool.not_true, Bool.false_eq_true, if_false]
      rw [first_f (nsz a0) a0 1000 (Nat.le_refl _) (by omega) hr ga.st (by omega), rfirst_f (nsz a0) a0 1000 (Nat.le_refl _) (by omega) hr ga.st (by omega)]
      simp only [Option.bind_some]
      rw [if_neg (by simp), show (0 : Int) = ((0 : Nat) : Int) from rfl, l12_f a1 ga (by omega) a1.length 1000 0 (by omega) (by omega)]
      rfl
end Go.Proofs.YteddmdkbeednmaaDoor
