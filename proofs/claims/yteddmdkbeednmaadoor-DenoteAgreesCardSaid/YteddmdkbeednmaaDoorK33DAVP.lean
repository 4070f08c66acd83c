/- What is known of an expression's node: it is right, and how large it is at most. -/
import Derived.Test.YteddmdkbeednmaaDoorK33DAVM
import Derived.Test.YteddmdkbeednmaaDoorK33DAVD
namespace Go.Proofs.YteddmdkbeednmaaDoor.Rx
open Go Go.AM
set_option linter.unusedVariables false
set_option linter.unusedSimpArgs false
set_option maxRecDepth 100000
set_option maxHeartbeats 1000000
def Good (ks : List RN) (L B : Nat) : Prop := rightNs ks = true ∧ 2 * nszs ks + 3 * L ≤ 3 * B ∧ lensN ks + 2 * L ≤ 2 * B
def GoodE (ks : List RN) (L B : Nat) : Prop := rightNs ks = true ∧ 2 * nszs ks + ks.length + 3 * L ≤ 3 * B + 3 ∧ lensN ks + 2 * ks.length + 2 * L ≤ 2 * B + 2
theorem Good.add {ks : List RN} {L L' B : Nat} {n : RN} (h : Good ks L B) (hn : rightN n = true) (h1 : 2 * nsz n + 3 * L' ≤ 3 * L) (h2 : lenN n + 2 * L' ≤ 2 * L) : Good (ks ++ [n]) L' B := by
  obtain ⟨a, b, c⟩ := h
  exact ⟨by rw [rightNs_app, a, hn]; rfl, by rw [nszs_app]; omega, by rw [lensN_app]; omega⟩
theorem jn2_good {ks : List RN} {L B : Nat} (h : Good ks L B) : rightN (jn 2 ks) = true ∧ 2 * nsz (jn 2 ks) + 3 * L ≤ 3 * B + 2 ∧ lenN (jn 2 ks) + 2 * L ≤ 2 * B := by
  obtain ⟨a, b, c⟩ := h
  match ks, a, b, c with
  | [], a, b, c => exact ⟨rfl, by simp only [nszs] at b; simp only [jn, nsz, nszs]; omega, by simp only [lensN] at c; simp [jn, lenN, lensN, extra]; omega⟩
  | [n], a, b, c =>
    simp only [rightNs, Bool.and_true, nszs, lensN] at a b c
    exact ⟨a, by simp only [jn]; omega, by simp only [jn]; omega⟩
  | x :: y :: l, a, b, c =>
    refine ⟨?_, ?_, ?_⟩
    · simp only [jn, rightN, a, Bool.and_true]
      simp [hdr, z4, zeros]
    · simp only [jn, nsz]; omega
    · simp only [jn, lenN]
      simp [extra]; omega
theorem jn3_good {ks : List RN} {L B : Nat} (h : GoodE ks L B) (hk : ks ≠ []) : rightN (jn 3 ks) = true ∧ 2 * nsz (jn 3 ks) + 3 * L ≤ 3 * B + 3 ∧ lenN (jn 3 ks) + 2 * L ≤ 2 * B := by
  obtain ⟨a, b, c⟩ := h
  match ks, a, b, c, hk with
  | [], _, _, _, h => exact absurd rfl h
  | [n], a, b, c, _ =>
    simp only [rightNs, Bool.and_true, nszs, lensN, List.length_cons, List.length_nil] at a b c
    exact ⟨a, by simp only [jn]; omega, by simp only [jn]; omega⟩
  | x :: y :: l, a, b, c, _ =>
    simp only [List.length_cons] at b c
    refine ⟨?_, ?_, ?_⟩
    · simp only [jn, rightN, a, Bool.and_true]
      simp [hdr, z4, zeros]
    · simp only [jn, nsz]; omega
    · simp only [jn, lenN]
      simp [extra]; omega
theorem one_right (w : List Int) : rightN (oneN w) = true ∧ nsz (oneN w) = 1 ∧ lenN (oneN w) = 1 := ⟨by simp [oneN, rightN, rightNs, hdr], by simp [oneN, nsz, nszs], by simp [oneN, lenN, lensN, extra]⟩
theorem kind8 : rightN (kindN 8) = true ∧ nsz (kindN 8) = 1 ∧ lenN (kindN 8) = 1 := by decide
theorem kind9 : rightN (kindN 9) = true ∧ nsz (kindN 9) = 1 ∧ lenN (kindN 9) = 1 := by decide
theorem wrap_right {b : UInt8} {n : RN} (h : rightN n = true) : rightN (wrapN (b.toNat : Int) n) = true ∧ nsz (wrapN (b.toNat : Int) n) = nsz n + 1 ∧ lenN (wrapN (b.toNat : Int) n) ≤ lenN n + 2 := by
  refine ⟨?_, by simp [wrapN, nsz, nszs]; omega, ?_⟩
  · simp only [wrapN, rightN, rightNs, h]
    split
    · simp [hdr, z4, zeros]
    · split <;> simp [hdr, z4, zeros]
  · simp only [wrapN, lenN, lensN]
    have : extra (if (b.toNat : Int) = 43 then 5 else if (b.toNat : Int) = 63 then 6 else 4) [n].length ≤ 2 := by
      split
      · simp [extra]
      · split <;> simp [extra]
    omega
theorem grp_right {g : Nat} {n : RN} (h : rightN n = true) (h1 : 1 ≤ g) (h9 : g ≤ 9) : rightN (grpN g n) = true ∧ nsz (grpN g n) = nsz n + 1 ∧ lenN (grpN g n) = lenN n + 2 := by
  refine ⟨?_, by simp [grpN, nsz, nszs]; omega, by simp [grpN, lenN, lensN, extra]⟩
  simp only [grpN, rightN, rightNs, h]
  simp [hdr, z4, zeros]; omega
theorem exB_g : ∀ (m : Nat) (kids : List RN) (r : List UInt8) (g : Nat) (n : RN) (r' : List UInt8) (g' : Nat), exB tkC m kids r g = some (n, r', g') → g ≤ g'
  | 0, _, _, _, _, _, _, h => by unfold exB at h; cases h
  | m + 1, kids, [], g, n, r', g', h => by unfold exB at h; cases h; exact Nat.le_refl _
  | m + 1, kids, b :: t, g, n, r', g', h => by
    unfold exB at h
    split at h
    · split at h
      · cases h
      · rename_i ks1 r1 g1 hB
        obtain ⟨_, _, _, _, hg4, _⟩ := (sound tkC_ok m).1 _ _ _ _ _ _ hB
        have := exB_g m _ _ _ _ _ _ h
        omega
    · cases h; exact Nat.le_refl _
theorem node_good : ∀ m,
    (∀ kids r g kids' r' g' B, brC tkC m kids r g = some (kids', r', g') → g' ≤ 9 → Good kids r.length B → Good kids' r'.length B) ∧
    (∀ r g n r' g', exC tkC m r g = some (n, r', g') → g' ≤ 9 → rightN n = true ∧ 2 * nsz n + 3 * r'.length ≤ 3 * r.length + 3 ∧ lenN n + 2 * r'.length ≤ 2 * r.length) ∧
    (∀ kids r g n r' g' B, exB tkC m kids r g = some (n, r', g') → g' ≤ 9 → kids ≠ [] → GoodE kids r.length B → rightN n = true ∧ 2 * nsz n + 3 * r'.length ≤ 3 * B + 3 ∧ lenN n + 2 * r'.length ≤ 2 * B) := by
  intro m
  induction m with
  | zero =>
    refine ⟨fun kids r g kids' r' g' B h => ?_, fun r g n r' g' h => ?_, fun kids r g n r' g' B h => ?_⟩
    · unfold brC at h; cases h
    · unfold exC at h; cases h
    · unfold exB at h; cases h
  | succ m ih =>
    obtain ⟨iB, iE, iX⟩ := ih
    refine ⟨fun kids r g kids' r' g' B h h9 hG => ?_, fun r g n r' g' h h9 => ?_, fun kids r g n r' g' B h h9 hk hG => ?_⟩
    · cases r with
      | nil => unfold brC at h; cases h; exact hG
      | cons b t =>
        unfold brC at h
        split at h
        · cases h; exact hG
        split at h
        · split at h
          · cases h
          · rename_i n hn
            obtain ⟨ps, rfl⟩ : ∃ ps, kids = ps ++ [n] := by
              have := List.getLast?_eq_some_iff.1 hn
              exact this
            refine iB _ _ _ _ _ _ B h h9 ?_
            obtain ⟨a, c, d⟩ := hG
            rw [rightNs_app, Bool.and_eq_true] at a
            rw [nszs_app] at c
            rw [lensN_app] at d
            obtain ⟨w1, w2, w3⟩ := wrap_right (b := b) a.2
            rw [List.dropLast_concat]
            simp only [List.length_cons] at c d
            exact ⟨by rw [rightNs_app, a.1, w1]; rfl, by rw [nszs_app, w2]; omega, by rw [lensN_app]; omega⟩
        split at h
        · split at h
          · rename_i n c u g1 hE
            split at h
            · have hg := (exC_grow hE)
              obtain ⟨_, _, _, _, hg4, _⟩ := (sound tkC_ok m).1 _ _ _ _ _ _ h
              obtain ⟨_, _, _, _, hg5, _⟩ := (sound tkC_ok m).2.1 _ _ _ _ _ hE
              obtain ⟨e1, e2, e3⟩ := iE _ _ _ _ _ hE (by omega)
              simp only [List.length_cons] at e2 e3 hg hG
              obtain ⟨w1, w2, w3⟩ := grp_right (g := g + 1) e1 (by omega) (by omega)
              exact iB _ _ _ _ _ _ B h h9 (hG.add w1 (by rw [w2]; omega) (by rw [w3]; omega))
            · cases h
          · cases h
        simp only [List.length_cons] at hG
        split at h
        · obtain ⟨w1, w2, w3⟩ := kind8
          exact iB _ _ _ _ _ _ B h h9 (hG.add w1 (by rw [w2]; omega) (by rw [w3]; omega))
        split at h
        · obtain ⟨w1, w2, w3⟩ := kind9
          exact iB _ _ _ _ _ _ B h h9 (hG.add w1 (by rw [w2]; omega) (by rw [w3]; omega))
        split at h
        · rename_i x u ht
          have hl := tk_lt tkC_ok ht
          simp only [List.length_cons] at hl
          obtain ⟨w1, w2, w3⟩ := one_right x.2
          exact iB _ _ _ _ _ _ B h h9 (hG.add w1 (by rw [w2]; omega) (by rw [w3]; omega))
        · cases h
    · unfold exC at h
      split at h
      · cases h
      · rename_i ks r1 g1 hB
        have hg4 := exB_g _ _ _ _ _ _ _ h
        have hG := iB _ _ _ _ _ _ r.length hB (by omega) ⟨rfl, by simp [nszs], by simp [lensN]⟩
        obtain ⟨j1, j2, j3⟩ := jn2_good hG
        exact iX _ _ _ _ _ _ r.length h h9 (by simp) ⟨by simp [rightNs, j1], by simp only [nszs, List.length_cons, List.length_nil]; omega, by simp only [lensN, List.length_cons, List.length_nil]; omega⟩
    · have done : (n, r', g') = (jn 3 kids, r, g) → rightN n = true ∧ 2 * nsz n + 3 * r'.length ≤ 3 * B + 3 ∧ lenN n + 2 * r'.length ≤ 2 * B := fun e => by
        cases e
        exact jn3_good hG hk
      cases r with
      | nil => unfold exB at h; cases h; exact done rfl
      | cons b t =>
        unfold exB at h
        split at h
        · split at h
          · cases h
          · rename_i ks1 r1 g1 hB
            have hg4 := exB_g _ _ _ _ _ _ _ h
            obtain ⟨a, c, d⟩ := hG
            simp only [List.length_cons] at c d
            have hB' := iB _ _ _ _ _ _ t.length hB (by omega) ⟨rfl, by simp [nszs], by simp [lensN]⟩
            obtain ⟨j1, j2, j3⟩ := jn2_good hB'
            refine iX _ _ _ _ _ _ B h h9 (by simp) ⟨by rw [rightNs_app, a, j1]; rfl, ?_, ?_⟩
            · rw [nszs_app, List.length_append, List.length_cons, List.length_nil]; omega
            · rw [lensN_app, List.length_append, List.length_cons, List.length_nil]; omega
        · cases h; exact done rfl
theorem parse_good {s : List UInt8} {n : RN} (h : parseC s = (n, 0)) : rightN n = true ∧ nsz n ≤ 120 ∧ lenN n ≤ 120 := by
  unfold parseC at h
  split at h
  · cases h
  · rename_i hs
    split at h
    · rename_i n' g hx
      split at h
      · cases h
      · cases h
        obtain ⟨a, b, c⟩ := (node_good _).2.1 _ _ _ _ _ hx (by omega)
        simp only [List.length_nil] at b c
        exact ⟨a, by omega, by omega⟩
    · cases h
end Go.Proofs.YteddmdkbeednmaaDoor.Rx
