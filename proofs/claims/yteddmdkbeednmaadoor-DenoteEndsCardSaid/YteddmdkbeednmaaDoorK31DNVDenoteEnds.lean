/- The law: where every node's spans end. -/
import Derived.Test.YteddmdkbeednmaaDoorK31DNVG
namespace Go.Proofs.YteddmdkbeednmaaDoor
open Go Go.AM
set_option linter.unusedVariables false
set_option linter.unusedSimpArgs false
set_option maxRecDepth 100000
namespace Dn
theorem index_loop (K : Nat) (l : List Int) (v : Int) (hl : l.length ≤ 1000) : ∀ (r : List Int) (fuel i : Nat), l.drop i = r → r.length < fuel → ∃ o, slices_Index_int_int.l3 K l v fuel (i : Int) = some o ∧ (match o with | .inl _ => v ∉ r | .inr j => 0 ≤ j ∧ v ∈ r)
  | _, 0, _, _, h => by omega
  | [], f + 1, i, h1, h2 => by
    have := at_nil h1
    unfold slices_Index_int_int.l3
    rw [if_neg (by simp; omega)]
    exact ⟨_, rfl, by simp⟩
  | b :: r, f + 1, i, h1, h2 => by
    obtain ⟨g1, g2, g3⟩ := at_drop h1
    unfold slices_Index_int_int.l3
    rw [if_pos (by simp; exact g3), g1, Option.bind_some]
    by_cases e : v = b
    · rw [if_pos (by simpa using e)]
      exact ⟨_, rfl, by omega, by rw [e]; exact .head _⟩
    · rw [if_neg (by simpa using e), wr1 (by omega)]
      obtain ⟨o, e1, p1⟩ := index_loop K l v hl r f (i + 1) g2 (by simp at h2; omega)
      refine ⟨o, e1, ?_⟩
      cases o with
      | inl _ => exact fun h => (List.mem_cons.1 h).elim e p1
      | inr j => exact ⟨p1.1, .tail _ p1.2⟩
theorem contains_f {K : Nat} {l : List Int} {v : Int} (hl : l.length ≤ 1000) (hK : l.length < K) : slices_Contains_int_int.f K l v = some (decide (v ∈ l)) := by
  obtain ⟨o, e, p⟩ := index_loop K l v hl l K 0 rfl hK
  unfold slices_Contains_int_int.f slices_Index_int_int.f slices_Index_int_int.j1
  rw [show (0 : Int) = ((0 : Nat) : Int) from rfl, e]
  cases o with
  | inl _ => simp only [Option.bind_some]; rw [decide_eq_false p]; rfl
  | inr j => simp only [Option.bind_some]; rw [decide_eq_true p.2, decide_eq_true (by have := p.1; omega)]
theorem spans_f {K : Nat} {n : RN} {s : List UInt8} {i v : Int} {l : List Int} (h : denote_Ends.f K n s i = some l) (hl : l.length ≤ 900) (hK : 1000 ≤ K) : denote_Spans.f K n s i v = some (decide (v ∈ l)) := by
  unfold denote_Spans.f
  rw [rn_eta, h, Option.bind_some, contains_f (by omega) (by omega)]
  rfl
section
variable (a0 : T_rex_Node) (a1 : List UInt8) (a2 : Int) (v3 : T_millwrightref07_Node) (v4 : Bool)
theorem l25_f (K : Nat) (l : List Int) (v : Int) (hl : l.length ≤ 1000) : ∀ (r : List Int) (fuel i : Nat) (g : Bool), l.drop i = r → r.length < fuel → millwrightlaw10_DenoteEnds.l25 K a0 a1 a2 v3 v4 l v fuel g (i : Int) = some (g || decide (v ∈ r))
  | _, 0, _, _, _, h => by omega
  | [], f + 1, i, g, h1, h2 => by
    have := at_nil h1
    unfold millwrightlaw10_DenoteEnds.l25
    rw [if_neg (by simp; omega)]
    simp
  | b :: r, f + 1, i, g, h1, h2 => by
    obtain ⟨g1, g2, g3⟩ := at_drop h1
    have hc : l[i]? = some b := by
      unfold idx at g1
      rw [if_pos (by omega), Int.toNat_natCast] at g1
      exact g1
    have ih := fun g' => l25_f K l v hl r f (i + 1) g' g2 (by simp at h2; omega)
    unfold millwrightlaw10_DenoteEnds.l25 millwrightlaw10_DenoteEnds.j31
    rw [if_pos (by simp; exact g3), if_pos ⟨by omega, by omega⟩, Int.toNat_natCast, Nat.zero_add, hc, Option.bind_some, wr1 (by omega), ih, ih]
    have hm : decide (v ∈ b :: r) = ((b == v) || decide (v ∈ r)) := by
      rw [Bool.eq_iff_iff, decide_eq_true_iff, Bool.or_eq_true, beq_iff_eq, decide_eq_true_iff, List.mem_cons, @eq_comm _ v b]
    rw [hm]
    cases g <;> simp
theorem l43_f (K : Nat) (Y : List Bool) {i : Nat} (ha2 : a2 = i) (hY : Y.length = a1.length + 1) (hl : a1.length ≤ 60) (hsp : ∀ j, i ≤ j → j ≤ a1.length → ∃ b, millwrightref10_Spans.f K v3 a1 (i : Int) (j : Int) = some b ∧ (b = true ↔ Mem Y j)) :
    ∀ (r : List Bool) (fuel v : Nat) (acc : List Int), Y.drop v = r → r.length < fuel → acc.length ≤ v → i ≤ v → v ≤ a1.length + 1 → millwrightlaw10_DenoteEnds.l43 K a0 a1 a2 v3 v4 fuel acc (v : Int) = some (acc ++ trues v r)
  | _, 0, _, _, _, h, _, _, _ => by omega
  | [], f + 1, v, acc, h1, h2, h3, h4, h5 => by
    have := at_nil h1
    unfold millwrightlaw10_DenoteEnds.l43
    rw [if_neg (by simp; omega)]
    simp [trues]
  | b :: r, f + 1, v, acc, h1, h2, h3, h4, h5 => by
    obtain ⟨g1, g2, g3⟩ := at_drop h1
    have hL : (LIM : Nat) = 4294967296 := rfl
    have hc : Y[v]? = some b := by
      unfold idx at g1
      rw [if_pos (by omega), Int.toNat_natCast] at g1
      exact g1
    obtain ⟨c, e1, p1⟩ := hsp v h4 (by omega)
    have hcb : c = b := by
      rw [Bool.eq_iff_iff, p1]; unfold Mem; rw [hc]; simp
    subst hcb
    have ih := fun acc' h => l43_f K Y ha2 hY hl hsp r f (v + 1) acc' g2 (by simp at h2; omega) h (by omega) (by omega)
    unfold millwrightlaw10_DenoteEnds.l43 millwrightlaw10_DenoteEnds.j49
    rw [if_pos (by simp; omega), dn_eta, ha2, e1, Option.bind_some, wr1 (by omega), if_pos (show acc.length + [(v : Int)].length ≤ LIM by rw [hL]; simp; omega)]
    rw [← ha2]
    cases c
    · rw [if_neg (by decide), ih acc (by omega)]; simp [trues]
    · rw [if_pos rfl, ih _ (by simp; omega)]; simp [trues]
theorem l14_f {l : List Int} (h : denote_Ends.f 1000 a0 a1 a2 = some l) (hl : l.length ≤ 900) (hs : a1.length ≤ 60) : ∀ (d fuel : Nat) (v : Int), v + d = a1.length + 2 → -1 ≤ v → d < fuel → millwrightlaw10_DenoteEnds.l14 1000 a0 a1 a2 v3 v4 l fuel v = some (.inl ())
  | _, 0, _, _, _, h => by omega
  | 0, f + 1, v, h1, _, h2 => by
    unfold millwrightlaw10_DenoteEnds.l14
    rw [w64 (by omega) (by omega), if_neg (by simp; omega)]
  | d + 1, f + 1, v, h1, h3, h2 => by
    have e := l25_f a0 a1 a2 v3 v4 1000 l v (by omega) l 1000 0 false rfl (by omega)
    unfold millwrightlaw10_DenoteEnds.l14 millwrightlaw10_DenoteEnds.j22 millwrightlaw10_DenoteEnds.j18
    rw [w64 (n := (a1.length : Int) + 2) (by omega) (by omega), if_pos (by simp; omega), show (0 : Int) = ((0 : Nat) : Int) from rfl, e, Option.bind_some, rn_eta, spans_f h hl (by omega), Option.bind_some, if_neg (by simp), w64 (by omega) (by omega)]
    exact l14_f h hl hs d f (v + 1) (by omega) (by omega) (by omega)
theorem j38_f {l : List Int} (h : denote_Ends.f 1000 a0 a1 a2 = some l) (hl : l.length ≤ 900) (hs : a1.length ≤ 60) : millwrightlaw10_DenoteEnds.j38 1000 a0 a1 a2 v3 v4 l = millwrightlaw10_DenoteEnds.j12 1000 a0 v3 v4 := by
  unfold millwrightlaw10_DenoteEnds.j38
  rw [rn_eta, h, Option.bind_some, ints_f (by omega) (by omega), Option.bind_some, if_neg (by decide), l14_f a0 a1 a2 v3 v4 h hl hs (a1.length + 3) 1000 (-1) (by omega) (by omega) (by omega)]
  rfl
end
theorem trues_drop : ∀ (Y : List Bool) (i p : Nat), (∀ j, j < i → ¬ Mem Y j) → trues p Y = trues (p + i) (Y.drop i)
  | Y, 0, p, _ => rfl
  | [], i + 1, p, _ => by simp [trues]
  | b :: r, i + 1, p, h => by
    have h0 := h 0 (by omega)
    have hb : b = false := by
      cases b
      · rfl
      · exact absurd rfl h0
    subst hb
    rw [trues, List.drop_succ_cons]
    have := trues_drop r i (p + 1) fun j hj => by have := h (j + 1) (by omega); simpa [Mem] using this
    simp only [Bool.false_eq_true, if_false]
    rw [this, show p + 1 + i = p + (i + 1) by omega]
end Dn
open Dn in
theorem denoteEnds_true (a0 : T_rex_Node) (a1 : List UInt8) (a2 : Int) (h0 : Wf Un (.named 3) a0) (_ : Wf Un .str a1) (_ : Wf Un (.int .i64) a2) : ∃ k, millwrightlaw10_DenoteEnds.f k a0 a1 a2 = some true := by
  refine ⟨1000, ?_⟩
  unfold millwrightlaw10_DenoteEnds.f
  simp only [rn_eta]
  rw [alive10, Option.bind_some, if_neg (by decide)]
  by_cases hl : (a1.length : Int) > 8
  · rw [if_pos (by simpa using hl)]; rfl
  rw [if_neg (by simpa using hl)]
  obtain ⟨b, e, hb⟩ := great_g a0 14 (by omega)
  have e' : millwrightlaw08_Great.f 1000 a0 14 = some b := e
  rw [e', Option.bind_some]
  unfold millwrightlaw10_DenoteEnds.j60
  cases b with
  | true => rfl
  | false =>
    rw [if_neg (by decide)]
    have z0 := hb rfl
    have hs : a1.length ≤ 60 := by omega
    unfold millwrightlaw10_DenoteEnds.j57
    simp only [rn_eta, dn_eta]
    rw [of_f 1000 a0 (by omega) (by omega) (by omega), Option.bind_some, rright_f 1000 a0 (by omega) (by omega) (by omega), Option.bind_some]
    cases hr : rightN a0 with
    | false =>
      rw [if_neg (by decide)]
      unfold millwrightlaw10_DenoteEnds.j54
      rw [if_neg (by decide), j38_f a0 a1 a2 _ _ (ends_wrong hr (by omega) (by omega) (by omega)) (by simp) hs]
      unfold millwrightlaw10_DenoteEnds.j12 denote_Empty.f denote_In.f
      simp only [rn_eta]
      rw [spans_f (ends_wrong hr (by omega) (by omega) (by omega)) (by simp) (by omega)]
      rfl
    | true =>
      have ga : Dn.Good a0 := ⟨by omega, hr, wf_sets a0 h0⟩
      have hlast : millwrightlaw10_DenoteEnds.j12 1000 a0 (ofN a0) true = some true := by
        obtain ⟨Y, e1, l1, m1⟩ := ends_in (K := 1000) (s := []) ga (by simp) (by omega) (by omega) (i := 0) (by simp)
        have hY : (trues 0 Y).length ≤ 900 := by have := trues_len 0 Y; rw [l1] at this; simp at this; omega
        obtain ⟨c, e2, p2⟩ := (spans_all [] (by simp) (2 * nsz a0)).1 a0 1000 0 0 (by omega) (by omega) (by omega) hr ga.st (Nat.le_refl _) (by simp)
        have e1' : denote_Ends.f 1000 a0 [] 0 = some (trues 0 Y) := e1
        have e2' : millwrightref10_Spans.f 1000 (ofN a0) [] 0 0 = some c := e2
        unfold millwrightlaw10_DenoteEnds.j12 denote_Empty.f denote_In.f
        simp only [rn_eta, dn_eta]
        rw [show ((([] : List UInt8).length : Nat) : Int) = 0 from rfl, spans_f e1' hY (by omega), e2']
        simp only [Option.bind_some, if_true, Option.some.injEq, beq_iff_eq]
        rw [Bool.eq_iff_iff, decide_eq_true_iff, p2, mem_trues, ← m1]
        constructor
        · rintro ⟨j, h1, h2⟩
          have : j = 0 := by omega
          subst this; exact h1
        · exact fun h => ⟨0, h, by simp⟩
      rw [if_pos rfl]
      have hout : ∀ q : Bool, a2 < 0 ∨ (a1.length : Int) < a2 → millwrightlaw10_DenoteEnds.j54 1000 a0 a1 a2 (ofN a0) true false = some true := fun _ h => by
        unfold millwrightlaw10_DenoteEnds.j54
        rw [if_neg (by decide), j38_f a0 a1 a2 _ _ (ends_out ga hs (by omega) (by omega) h) (by simp) hs, hlast]
      by_cases h1 : 0 ≤ a2
      · rw [if_pos (by simpa using h1)]
        by_cases h2 : a2 ≤ a1.length
        · obtain ⟨i, rfl⟩ : ∃ i : Nat, a2 = i := ⟨a2.toNat, by omega⟩
          have hi : i ≤ a1.length := by omega
          obtain ⟨Y, e1, l1, m1⟩ := ends_in (K := 1000) ga hs (by omega) (by omega) hi
          have hY : (trues 0 Y).length ≤ 900 := by have := trues_len 0 Y; omega
          have hdr := trues_drop Y i 0 fun j hj hm => by
            have := den_le a1 a0 i j ((m1 j).1 hm) hi
            omega
          rw [decide_eq_true h2]
          unfold millwrightlaw10_DenoteEnds.j54
          rw [if_pos rfl, l43_f a0 a1 i (ofN a0) true 1000 Y rfl l1 hs (fun j ha hb => by
            obtain ⟨c, e2, p2⟩ := (spans_all a1 hs (2 * nsz a0 + (j - i))).1 a0 1000 i j (by omega) (by omega) (by omega) hr ga.st ha hb
            exact ⟨c, e2, p2.trans (m1 j).symm⟩) (Y.drop i) 1000 i [] rfl (by simp; omega) (by simp) (Nat.le_refl _) (by omega), Option.bind_some, List.nil_append]
          rw [Nat.zero_add] at hdr
          rw [← hdr, j38_f a0 a1 i _ _ e1 hY hs, hlast]
        · rw [decide_eq_false h2]
          exact hout true (.inr (by omega))
      · rw [if_neg (by simpa using h1)]
        exact hout true (.inl (by omega))
end Go.Proofs.YteddmdkbeednmaaDoor
