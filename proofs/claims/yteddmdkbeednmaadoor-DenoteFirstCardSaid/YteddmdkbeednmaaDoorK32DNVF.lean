/- Where spans end, as a list; lists that are the same. -/
import Derived.Test.YteddmdkbeednmaaDoorK32DNVE
namespace Go.Proofs.YteddmdkbeednmaaDoor.Dn
open Go Go.AM
set_option linter.unusedVariables false
set_option linter.unusedSimpArgs false
set_option maxRecDepth 100000
def trues : Nat → List Bool → List Int
  | _, [] => []
  | p, b :: r => if b then (p : Int) :: trues (p + 1) r else trues (p + 1) r
theorem trues_len : ∀ (p : Nat) (X : List Bool), (trues p X).length ≤ X.length
  | _, [] => Nat.le_refl _
  | p, b :: r => by have := trues_len (p + 1) r; cases b <;> simp [trues] <;> omega
theorem mem_trues : ∀ (X : List Bool) (p : Nat) (v : Int), v ∈ trues p X ↔ ∃ j, Mem X j ∧ v = ((p + j : Nat) : Int)
  | [], p, v => by simp [trues, Mem]
  | b :: r, p, v => by
    have ih := mem_trues r (p + 1) v
    have e : (∃ j, Mem (b :: r) j ∧ v = ((p + j : Nat) : Int)) ↔ (b = true ∧ v = p) ∨ ∃ j, Mem r j ∧ v = ((p + 1 + j : Nat) : Int) := by
      constructor
      · rintro ⟨j, h1, h2⟩
        cases j with
        | zero => exact .inl ⟨by simpa [Mem] using h1, by simpa using h2⟩
        | succ j => exact .inr ⟨j, by simpa [Mem] using h1, by rw [h2]; omega⟩
      · rintro (⟨h1, h2⟩ | ⟨j, h1, h2⟩)
        · exact ⟨0, by simpa [Mem] using h1, by simpa using h2⟩
        · exact ⟨j + 1, by simpa [Mem] using h1, by rw [h2]; omega⟩
    rw [e, ← ih]
    cases b <;> simp [trues]
theorem l24_f (K : Nat) (X : List Bool) (hX : X.length ≤ 1000) : ∀ (r : List Bool) (fuel i : Nat) (acc : List Int), X.drop i = r → r.length < fuel → acc.length ≤ i → i ≤ X.length → denote_Ends.l24 K X fuel acc (i : Int) = some (acc ++ trues i r)
  | _, 0, _, _, _, h, _, _ => by omega
  | [], f + 1, i, acc, h1, h2, h3, h4 => by
    have := at_nil h1
    unfold denote_Ends.l24
    rw [if_neg (by simp; omega)]
    simp [trues]
  | b :: r, f + 1, i, acc, h1, h2, h3, h4 => by
    obtain ⟨g1, g2, g3⟩ := at_drop h1
    have hL : (LIM : Nat) = 4294967296 := rfl
    unfold denote_Ends.l24 denote_Ends.j30
    rw [if_pos (by simp; exact g3), g1, Option.bind_some, wr1 (by omega), if_pos (show acc.length + [(i : Int)].length ≤ LIM by rw [hL]; simp; omega)]
    have ih := fun acc' h => l24_f K X hX r f (i + 1) acc' g2 (by simp at h2; omega) h g3
    cases b
    · rw [if_neg (by decide), ih acc (by omega)]; simp [trues]
    · rw [if_pos rfl, ih _ (by simp; omega)]; simp [trues]
theorem l10_f (K : Nat) (X : List Bool) (hX : X.length ≤ 1000) : ∀ (r : List Bool) (fuel i : Nat) (acc : List Int), X.drop i = r → r.length < fuel → acc.length ≤ i → i ≤ X.length → denote_Ends.l10 K X fuel acc (i : Int) = some (acc ++ trues i r)
  | _, 0, _, _, _, h, _, _ => by omega
  | [], f + 1, i, acc, h1, h2, h3, h4 => by
    have := at_nil h1
    unfold denote_Ends.l10
    rw [if_neg (by simp; omega)]
    simp [trues]
  | b :: r, f + 1, i, acc, h1, h2, h3, h4 => by
    obtain ⟨g1, g2, g3⟩ := at_drop h1
    have hL : (LIM : Nat) = 4294967296 := rfl
    have hc : X[i]? = some b := by
      unfold idx at g1
      rw [if_pos (by omega), Int.toNat_natCast] at g1
      exact g1
    unfold denote_Ends.l10 denote_Ends.j16
    rw [if_pos (by simp; exact g3), if_pos ⟨by omega, by omega⟩, Int.toNat_natCast, Nat.zero_add, hc, Option.bind_some, wr1 (by omega), if_pos (show acc.length + [(i : Int)].length ≤ LIM by rw [hL]; simp; omega)]
    have ih := fun acc' h => l10_f K X hX r f (i + 1) acc' g2 (by simp at h2; omega) h g3
    cases b
    · rw [if_neg (by decide), ih acc (by omega)]; simp [trues]
    · rw [if_pos rfl, ih _ (by simp; omega)]; simp [trues]
structure Good (n : RN) : Prop where
  sz : nsz n ≤ 100
  rt : rightN n = true
  st : setsN n
theorem ends_of {K : Nat} {n : RN} {s : List UInt8} (hn : Good n) (hs : s.length ≤ 60) (hK : 480 ≤ K) (hK2 : K ≤ 1000) {i : Int} {X : List Bool} (hX : denote_of.f K s i = some X) (hl : X.length = s.length + 1) :
    ∃ Y, denote_Ends.f K n s i = some (trues 0 Y) ∧ Im (Den s n) X Y := by
  obtain ⟨q, l, e, hi⟩ := (ends_all s hs (nsz n) n K (Nat.le_refl _) hn.sz hn.rt hn.st (by have := hn.sz; omega) X hl).2
  unfold denote_Ends.f denote_Ends.j4
  rw [rn_eta, right_f n K (by have := hn.sz; omega) (by have := hn.sz; omega) hK2, hn.rt, Option.bind_some, if_neg (by decide), hX, Option.bind_some, e, Option.bind_some]
  cases q with
  | true =>
    simp only [if_true] at hi ⊢
    have := l10_f K X (by omega) X K 0 [] rfl (by omega) (by simp) (by omega)
    rw [show (0 : Int) = ((0 : Nat) : Int) from rfl, this, Option.bind_some]
    exact ⟨X, by simp, hi⟩
  | false =>
    simp only [Bool.false_eq_true, if_false] at hi ⊢
    have := l24_f K l (by rw [hi.1]; omega) l K 0 [] rfl (by rw [hi.1]; omega) (by simp) (by omega)
    rw [show (0 : Int) = ((0 : Nat) : Int) from rfl, this, Option.bind_some]
    exact ⟨l, by simp, hi⟩
theorem ends_in {K : Nat} {n : RN} {s : List UInt8} (hn : Good n) (hs : s.length ≤ 60) (hK : 480 ≤ K) (hK2 : K ≤ 1000) {i : Nat} (hi : i ≤ s.length) :
    ∃ Y, denote_Ends.f K n s (i : Int) = some (trues 0 Y) ∧ Y.length = s.length + 1 ∧ ∀ j, Mem Y j ↔ Den s n i j := by
  obtain ⟨X, e, hl, hm⟩ := of_in (K := K) hi (by omega)
  obtain ⟨Y, e2, h2⟩ := ends_of hn hs hK hK2 e hl
  refine ⟨Y, e2, h2.1.trans hl, fun j => ?_⟩
  rw [h2.2]
  simp only [hm]
  exact ⟨fun ⟨a, b, c⟩ => by subst b; exact c, fun h => ⟨i, rfl, h⟩⟩
theorem alive10 : millwrightlaw10_alive.f 1000 = some true := by decide +kernel
theorem great_g (n : RN) (m : Nat) (hm : m ≤ 120) : ∃ b, millwrightlaw08_Great.f 1000 n (m : Int) = some b ∧ (b = false → nsz n ≤ m) := by
  obtain ⟨r, h1, h2, h3⟩ := left_f 1000 n m (by omega) (by omega) (by omega)
  refine ⟨decide (r < 0), ?_, fun h => ?_⟩
  · unfold millwrightlaw08_Great.f
    rw [rn_eta, h1]
    rfl
  · have : 0 ≤ r := by simpa using h
    have := h3 this
    omega
end Go.Proofs.YteddmdkbeednmaaDoor.Dn
