/- Where spans end, as a list; lists that are the same. -/
import Derived.Test.YteddmdkbeednmaaDoorK33DAWE
namespace Go.Proofs.YteddmdkbeednmaaDoor.Dn
open Go Go.AM
set_option linter.unusedVariables false
set_option linter.unusedSimpArgs false
set_option maxRecDepth 100000
def trues : Nat → List Bool → List Int
  | _, [] => []
  | p, b :: r => if b then (p : Int) :: trues (p + 1) r else trues (p + 1) r
theorem trues_len : ∀ (p : Nat) (X : List Bool), (trues p X).length ≤ X.length
  | _, [] => Nat.le_refl _
  | p, b :: r => by have := trues_len (p + 1) r; cases b <;> simp [trues] <;> omega
theorem mem_trues : ∀ (X : List Bool) (p : Nat) (v : Int), v ∈ trues p X ↔ ∃ j, Mem X j ∧ v = ((p + j : Nat) : Int)
  | [], p, v => by simp [trues, Mem]
  | b :: r, p, v => by
    have ih := mem_trues r (p + 1) v
    have e : (∃ j, Mem (b :: r) j ∧ v = ((p + j : Nat) : Int)) ↔ (b = true ∧ v = p) ∨ ∃ j, Mem r j ∧ v = ((p + 1 + j : Nat) : Int) := by
      constructor
      · rintro ⟨j, h1, h2⟩
        cases j with
        | zero => exact .inl ⟨by simpa [Mem] using h1, by simpa using h2⟩
        | succ j => exact .inr ⟨j, by simpa [Mem] using h1, by rw [h2]; omega⟩
      · rintro (⟨h1, h2⟩ | ⟨j, h1, h2⟩)
        · exact ⟨0, by simpa [Mem] using h1, by simpa using h2⟩
        · exact ⟨j + 1, by simpa [Mem] using h1, by rw [h2]; omega⟩
    rw [e, ← ih]
    cases b <;> simp [trues]
theorem l24_f (K : Nat) (X : List Bool) (hX : X.length ≤ 20000) : ∀ (r : List Bool) (fuel i : Nat) (acc : List Int), X.drop i = r → r.length < fuel → acc.length ≤ i → i ≤ X.length → denote_Ends.l24 K X fuel acc (i : Int) = some (acc ++ trues i r)
  | _, 0, _, _, _, h, _, _ => by omega
  | [], f + 1, i, acc, h1, h2, h3, h4 => by
    have := at_nil h1
    unfold denote_Ends.l24
    rw [if_neg (by simp; omega)]
    simp [trues]
  | b :: r, f + 1, i, acc, h1, h2, h3, h4 => by
    obtain ⟨g1, g2, g3⟩ := at_drop h1
    have hL : (LIM : Nat) = 4294967296 := rfl
    unfold denote_Ends.l24 denote_Ends.j30
    rw [if_pos (by simp; exact g3), g1, Option.bind_some, wr1 (by omega), if_pos (show acc.length + [(i : Int)].length ≤ LIM by rw [hL]; simp; omega)]
    have ih := fun acc' h => l24_f K X hX r f (i + 1) acc' g2 (by simp at h2; omega) h g3
    cases b
    · rw [if_neg (by decide), ih acc (by omega)]; simp [trues]
    · rw [if_pos rfl, ih _ (by simp; omega)]; simp [trues]
theorem l10_f (K : Nat) (X : List Bool) (hX : X.length ≤ 20000) : ∀ (r : List Bool) (fuel i : Nat) (acc : List Int), X.drop i = r → r.length < fuel → acc.length ≤ i → i ≤ X.length → denote_Ends.l10 K X fuel acc (i : Int) = some (acc ++ trues i r)
  | _, 0, _, _, _, h, _, _ => by omega
  | [], f + 1, i, acc, h1, h2, h3, h4 => by
    have := at_nil h1
    unfold denote_Ends.l10
    rw [if_neg (by simp; omega)]
    simp [trues]
  | b :: r, f + 1, i, acc, h1, h2, h3, h4 => by
    obtain ⟨g1, g2, g3⟩ := at_drop h1
    have hL : (LIM : Nat) = 4294967296 := rfl
    have hc : X[i]? = some b := by
      unfold idx at g1
      rw [if_pos (by omega), Int.toNat_natCast] at g1
      exact g1
    unfold denote_Ends.l10 denote_Ends.j16
    rw [if_pos (by simp; exact g3), if_pos ⟨by omega, by omega⟩, Int.toNat_natCast, Nat.zero_add, hc, Option.bind_some, wr1 (by omega), if_pos (show acc.length + [(i : Int)].length ≤ LIM by rw [hL]; simp; omega)]
    have ih := fun acc' h => l10_f K X hX r f (i + 1) acc' g2 (by simp at h2; omega) h g3
    cases b
    · rw [if_neg (by decide), ih acc (by omega)]; simp [trues]
    · rw [if_pos rfl, ih _ (by simp; omega)]; simp [trues]
structure Good (n : RN) : Prop where
  sz : nsz n ≤ 120
  rt : rightN n = true
  st : setsN n
theorem ends_of {K : Nat} {n : RN} {s : List UInt8} (hn : Good n) (hs : s.length ≤ 60) (hK : 480 ≤ K) (hK2 : K ≤ 20000) {i : Int} {X : List Bool} (hX : denote_of.f K s i = some X) (hl : X.length = s.length + 1) :
    ∃ Y, denote_Ends.f K n s i = some (trues 0 Y) ∧ Im (Den s n) X Y := by
  obtain ⟨q, l, e, hi⟩ := (ends_all s hs (nsz n) n K (Nat.le_refl _) hn.sz hn.rt hn.st (by have := hn.sz; omega) X hl).2
  unfold denote_Ends.f denote_Ends.j4
  rw [rn_eta, right_f n K (by have := hn.sz; omega) (by have := hn.sz; omega) hK2, hn.rt, Option.bind_some, if_neg (by decide), hX, Option.bind_some, e, Option.bind_some]
  cases q with
  | true =>
    simp only [if_true] at hi ⊢
    have := l10_f K X (by omega) X K 0 [] rfl (by omega) (by simp) (by omega)
    rw [show (0 : Int) = ((0 : Nat) : Int) from rfl, this, Option.bind_some]
    exact ⟨X, by simp, hi⟩
  | false =>
    simp only [Bool.false_eq_true, if_false] at hi ⊢
    have := l24_f K l (by rw [hi.1]; omega) l K 0 [] rfl (by rw [hi.1]; omega) (by simp) (by omega)
    rw [show (0 : Int) = ((0 : Nat) : Int) from rfl, this, Option.bind_some]
    exact ⟨l, by simp, hi⟩
theorem ends_in {K : Nat} {n : RN} {s : List UInt8} (hn : Good n) (hs : s.length ≤ 60) (hK : 480 ≤ K) (hK2 : K ≤ 20000) {i : Nat} (hi : i ≤ s.length) :
    ∃ Y, denote_Ends.f K n s (i : Int) = some (trues 0 Y) ∧ Y.length = s.length + 1 ∧ ∀ j, Mem Y j ↔ Den s n i j := by
  obtain ⟨X, e, hl, hm⟩ := of_in (K := K) hi (by omega)
  obtain ⟨Y, e2, h2⟩ := ends_of hn hs hK hK2 e hl
  refine ⟨Y, e2, h2.1.trans hl, fun j => ?_⟩
  rw [h2.2]
  simp only [hm]
  exact ⟨fun ⟨a, b, c⟩ => by subst b; exact c, fun h => ⟨i, rfl, h⟩⟩
theorem alive10 : millwrightlaw10_alive.f 20000 = some true := by decide +kernel
theorem index_loop (K : Nat) (l : List Int) (v : Int) (hl : l.length ≤ 20000) : ∀ (r : List Int) (fuel i : Nat), l.drop i = r → r.length < fuel → ∃ o, slices_Index_int_int.l3 K l v fuel (i : Int) = some o ∧ (match o with | .inl _ => v ∉ r | .inr j => 0 ≤ j ∧ v ∈ r)
  | _, 0, _, _, h => by omega
  | [], f + 1, i, h1, h2 => by
    have := at_nil h1
    unfold slices_Index_int_int.l3
    rw [if_neg (by simp; omega)]
    exact ⟨_, rfl, by simp⟩
  | b :: r, f + 1, i, h1, h2 => by
    obtain ⟨g1, g2, g3⟩ := at_drop h1
    unfold slices_Index_int_int.l3
    rw [if_pos (by simp; exact g3), g1, Option.bind_some]
    by_cases e : v = b
    · rw [if_pos (by simpa using e)]
      exact ⟨_, rfl, by omega, by rw [e]; exact .head _⟩
    · rw [if_neg (by simpa using e), wr1 (by omega)]
      obtain ⟨o, e1, p1⟩ := index_loop K l v hl r f (i + 1) g2 (by simp at h2; omega)
      refine ⟨o, e1, ?_⟩
      cases o with
      | inl _ => exact fun h => (List.mem_cons.1 h).elim e p1
      | inr j => exact ⟨p1.1, .tail _ p1.2⟩
theorem contains_f {K : Nat} {l : List Int} {v : Int} (hl : l.length ≤ 20000) (hK : l.length < K) : slices_Contains_int_int.f K l v = some (decide (v ∈ l)) := by
  obtain ⟨o, e, p⟩ := index_loop K l v hl l K 0 rfl hK
  unfold slices_Contains_int_int.f slices_Index_int_int.f slices_Index_int_int.j1
  rw [show (0 : Int) = ((0 : Nat) : Int) from rfl, e]
  cases o with
  | inl _ => simp only [Option.bind_some]; rw [decide_eq_false p]; rfl
  | inr j => simp only [Option.bind_some]; rw [decide_eq_true p.2, decide_eq_true (by have := p.1; omega)]
theorem spans_f {K : Nat} {n : RN} {s : List UInt8} {i v : Int} {l : List Int} (h : denote_Ends.f K n s i = some l) (hl : l.length ≤ 900) (hK : 20000 ≤ K) : denote_Spans.f K n s i v = some (decide (v ∈ l)) := by
  unfold denote_Spans.f
  rw [rn_eta, h, Option.bind_some, contains_f (by omega) (by omega)]
  rfl
end Go.Proofs.YteddmdkbeednmaaDoor.Dn
