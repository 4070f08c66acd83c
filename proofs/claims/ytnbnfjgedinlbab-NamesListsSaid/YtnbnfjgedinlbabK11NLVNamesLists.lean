/- A part of the proof of a given law: NLVNamesLists. Own work, printed in part by a program of mine. -/
import Derived.Test.YtnbnfjgedinlbabK11NLVB
namespace Go.Proofs.Ytnbnfjgedinlbab
open Go Go.AM Go.ChangeShapes Go.ChangeAt Go.RowKit
set_option linter.unusedVariables false
set_option linter.unusedSimpArgs false
set_option maxRecDepth 100000
def tot : List (List Tx) → Nat
  | [] => 0
  | x :: l => x.length + tot l
theorem sz_loop (k : Nat) (A : List (List Tx)) (hA : A.length ≤ 1000) : ∀ (l : List (List Tx)) (fuel i v : Nat), A.drop i = l → l.length < fuel → v + tot l ≤ 100000 → slices_Concat_string_string.l18 k A fuel (v : Int) (i : Int) = some ((v + tot l : Nat) : Int)
  | _, 0, _, _, _, h, _ => by omega
  | [], f + 1, i, v, hl, _, _ => by
    have := at_nil hl
    unfold slices_Concat_string_string.l18
    rw [if_neg (by simp; omega)]; rfl
  | x :: r, f + 1, i, v, hl, hf, hv => by
    obtain ⟨g1, g2, g3⟩ := at_drop hl
    simp only [tot] at hv
    have hw : IntKind.i64.wrap ((v : Int) + (x.length : Int)) = ((v + x.length : Nat) : Int) := by rw [w64 (by omega) (by omega)]; omega
    have ih := sz_loop k A hA r f (i + 1) (v + x.length) g2 (by simpa using hf) (by omega)
    unfold slices_Concat_string_string.l18 slices_Concat_string_string.j24
    rw [if_pos (by simp; exact g3), g1, Option.bind_some, hw, if_neg (by simp; omega), wr1 (by omega), ih]
    simp only [tot]; congr 2; omega
theorem cc_loop (k : Nat) (A : List (List Tx)) (hA : A.length ≤ 1000) : ∀ (l : List (List Tx)) (fuel i : Nat) (out : List Tx), A.drop i = l → l.length < fuel → out.length + tot l ≤ 100000 → slices_Concat_string_string.l7 k A fuel out (i : Int) = some (out ++ l.flatten)
  | _, 0, _, _, _, h, _ => by omega
  | [], f + 1, i, out, hl, _, _ => by
    have := at_nil hl
    unfold slices_Concat_string_string.l7
    rw [if_neg (by simp; omega)]; simp
  | x :: r, f + 1, i, out, hl, hf, hv => by
    obtain ⟨g1, g2, g3⟩ := at_drop hl
    simp only [tot] at hv
    have ih := cc_loop k A hA r f (i + 1) (out ++ x) g2 (by simpa using hf) (by rw [List.length_append]; omega)
    unfold slices_Concat_string_string.l7
    have hl : LIM = 4294967296 := rfl
    rw [if_pos (by simp; exact g3), g1, Option.bind_some, if_pos (by omega), wr1 (by omega), ih]
    simp
theorem grow_eq (k n : Nat) (hn : n ≤ 100000) : slices_Grow_string_string_m0.f k (n : Int) = some [] := by
  unfold slices_Grow_string_string_m0.f slices_Grow_string_string_m0.j7 slices_Grow_string_string_m0.j2
  have h0 : IntKind.i64.wrap (0 - 0) = 0 := by decide
  have hw : IntKind.i64.wrap ((n : Int) - 0) = (n : Int) := by rw [w64 (by omega) (by omega)]; omega
  rw [h0, hw, if_neg (by simp)]
  by_cases h : n = 0
  · rw [if_neg (by simp; omega)]
  · rw [if_pos (by simp; omega), if_pos (by omega), if_pos (by omega)]; rfl
theorem concat_eq (k : Nat) (hk : 2000 < k) (a b : List Tx) (ha : a.length ≤ 1000) (hb : b.length ≤ 1000) : slices_Concat_string_string.f k [a, b] = some (a ++ b) := by
  unfold slices_Concat_string_string.f slices_Concat_string_string.j15 slices_Concat_string_string.j4
  have e1 : slices_Concat_string_string.l18 k [a, b] k 0 0 = _ := sz_loop k [a, b] (by simp) [a, b] k 0 0 rfl (by simp; omega) (by simp [tot]; omega)
  have e2 : slices_Concat_string_string.l7 k [a, b] k [] 0 = _ := cc_loop k [a, b] (by simp) [a, b] k 0 [] rfl (by simp; omega) (by simp [tot]; omega)
  rw [e1, Option.bind_some, grow_eq k _ (by simp [tot]; omega), Option.bind_some, e2]
  simp
def uniq : List Tx → List Tx → List Tx
  | out, [] => out
  | out, x :: l => uniq (if hasB out x then out else out ++ [x]) l
theorem uniq_len : ∀ (l out : List Tx), (uniq out l).length ≤ out.length + l.length
  | [], out => by simp [uniq]
  | x :: l, out => by
    have := uniq_len l (if hasB out x then out else out ++ [x])
    have h2 : (if hasB out x = true then out else out ++ [x]).length ≤ out.length + 1 := by
      split
      · omega
      · simp
    simp only [uniq, List.length_cons]
    omega
theorem union_loop (k : Nat) (hk : 2000 < k) (A : List Tx) (hA : A.length ≤ 500) : ∀ (l : List Tx) (fuel i : Nat) (out : List Tx), A.drop i = l → l.length < fuel → out.length ≤ i → i ≤ A.length → names_Union.l6 k A fuel out (i : Int) = some (uniq out l)
  | _, 0, _, _, _, h, _, _ => by omega
  | [], f + 1, i, out, hl, _, _, _ => by
    have := at_nil hl
    unfold names_Union.l6
    rw [if_neg (by simp; omega)]; simp [uniq]
  | x :: r, f + 1, i, out, hl, hf, ho, hi => by
    obtain ⟨g1, g2, g3⟩ := at_drop hl
    have ih := fun out h => union_loop k hk A hA r f (i + 1) out g2 (by simpa using hf) h (by omega)
    unfold names_Union.l6 names_Union.j12
    rw [if_pos (by simp; exact g3), rix g1, has2_eq k hk out (by omega), Option.bind_some, wr1 (by omega)]
    simp only [uniq]
    cases h : hasB out x
    · rw [if_pos (by simp), if_pos (lim_ok (by omega)), ih _ (by simp; omega)]; simp
    · rw [if_neg (by simp), ih _ (by omega)]; simp
theorem union_eq (k : Nat) (hk : 2000 < k) (a b : List Tx) (ha : a.length ≤ 200) (hb : b.length ≤ 200) : names_Union.f k a b = some (uniq [] (a ++ b)) := by
  unfold names_Union.f names_Union.j2
  have e : names_Union.l6 k (a ++ b) k [] 0 = _ := union_loop k hk (a ++ b) (by simp; omega) (a ++ b) k 0 [] rfl (by simp; omega) (by simp) (by simp)
  rw [concat_eq k hk a b (by omega) (by omega), Option.bind_some, e]; rfl
theorem in_loop (k : Nat) (a : List Tx) (ha : a.length ≤ 1000) (n : Tx) : ∀ (l : List Tx) (fuel i : Nat), a.drop i = l → l.length < fuel → millwrightref01_in.l3 k a n fuel (i : Int) = some (if n ∈ l then .inr true else .inl ())
  | _, 0, _, _, h => by omega
  | [], f + 1, i, hl, _ => by
    have := at_nil hl
    unfold millwrightref01_in.l3
    rw [if_neg (by simp; omega)]; simp
  | c :: r, f + 1, i, hl, hf => by
    obtain ⟨g1, g2, g3⟩ := at_drop hl
    unfold millwrightref01_in.l3
    rw [if_pos (by simp; exact g3), g1, Option.bind_some, wr1 (by omega), in_loop k a ha n r f (i + 1) g2 (by simpa using hf)]
    by_cases h : c = n
    · rw [if_pos (by simpa using h), if_pos (by rw [h]; exact List.mem_cons_self)]
    · rw [if_neg (by simpa using h)]
      have : n ∈ c :: r ↔ n ∈ r := by rw [List.mem_cons]; exact ⟨fun h' => h'.elim (fun e => absurd e.symm h) id, .inr⟩
      simp [this]
theorem in_eq (k : Nat) (hk : 2000 < k) (a : List Tx) (ha : a.length ≤ 1000) (n : Tx) : millwrightref01_in.f k a n = some (hasB a n) := by
  unfold millwrightref01_in.f millwrightref01_in.j1 hasB
  have e0 : millwrightref01_in.l3 k a n k 0 = _ := in_loop k a ha n a k 0 rfl (by omega)
  rw [e0]
  by_cases h : n ∈ a
  · rw [if_pos h]; simp [h]
  · rw [if_neg h]; simp [h]
theorem runion_loop (k : Nat) (hk : 2000 < k) (a b : List Tx) (ha : a.length ≤ 200) (hb : b.length ≤ 200) : ∀ (l : List Tx) (fuel i : Nat) (out : List Tx), (a ++ b).drop i = l → l.length < fuel → out.length ≤ i → i ≤ a.length + b.length → millwrightref01_Union.l5 k a b fuel out (i : Int) = some (uniq out l)
  | _, 0, _, _, _, h, _, _ => by omega
  | [], f + 1, i, out, hl, _, _, _ => by
    have := at_nil hl
    rw [List.length_append] at this
    unfold millwrightref01_Union.l5
    rw [w64 (by omega) (by omega), if_neg (by simp; omega)]; simp [uniq]
  | x :: r, f + 1, i, out, hl, hf, ho, hi => by
    obtain ⟨g1, g2, g3⟩ := at_drop hl
    have ih := fun out h => runion_loop k hk a b ha hb r f (i + 1) out g2 (by simpa using hf) h (by rw [List.length_append] at g3; omega)
    have hr : ∀ rec : List Tx → Int → Option (List Tx), (∀ out : List Tx, out.length ≤ i + 1 → rec out ((i + 1 : Nat) : Int) = some (uniq out r)) → millwrightref01_Union.j16 k rec a b out (i : Int) x = some (uniq out (x :: r)) := fun rec hrec => by
      unfold millwrightref01_Union.j16 millwrightref01_Union.j11
      rw [in_eq k hk out (by omega), Option.bind_some, wr1 (by omega)]
      simp only [uniq]
      cases h : hasB out x
      · rw [if_pos (by simp), if_pos (lim_ok (by omega)), hrec _ (by simp; omega)]; simp
      · rw [if_neg (by simp), hrec _ (by omega)]; simp
    have g3' := g3
    rw [List.length_append] at g3'
    rw [idx_at rfl g3] at g1
    have g1 := Option.some.inj g1
    unfold millwrightref01_Union.l5
    rw [w64 (n := (a.length : Int) + (b.length : Int)) (by omega) (by omega), if_pos (by simp; omega)]
    by_cases h : i < a.length
    · rw [if_pos (by simp; exact h), idx_at rfl h]
      rw [List.getElem_append_left h] at g1
      rw [g1, Option.bind_some, hr _ ih]
    · rw [if_neg (by simp; omega), w64 (by omega) (by omega), idx_at (i := i - a.length) (by omega) (by omega)]
      rw [List.getElem_append_right (by omega)] at g1
      rw [g1, Option.bind_some, hr _ ih]
theorem runion_eq (k : Nat) (hk : 2000 < k) (a b : List Tx) (ha : a.length ≤ 200) (hb : b.length ≤ 200) : millwrightref01_Union.f k a b = some (uniq [] (a ++ b)) := by
  unfold millwrightref01_Union.f millwrightref01_Union.j2
  have e : millwrightref01_Union.l5 k a b k [] 0 = _ := runion_loop k hk a b ha hb (a ++ b) k 0 [] rfl (by simp; omega) (by simp) (by simp)
  rw [e]; rfl
theorem without_loop (k : Nat) (hk : 2000 < k) (A b : List Tx) (hA : A.length ≤ 1000) (hb : b.length ≤ 1000) : ∀ (l : List Tx) (fuel i : Nat) (out : List Tx), A.drop i = l → l.length < fuel → out.length ≤ i → i ≤ A.length → names_Without.l5 k A b fuel out (i : Int) = some (out ++ l.filter fun x => !hasB b x)
  | _, 0, _, _, _, h, _, _ => by omega
  | [], f + 1, i, out, hl, _, _, _ => by
    have := at_nil hl
    unfold names_Without.l5
    rw [if_neg (by simp; omega)]; simp
  | x :: r, f + 1, i, out, hl, hf, ho, hi => by
    obtain ⟨g1, g2, g3⟩ := at_drop hl
    have ih := fun out h => without_loop k hk A b hA hb r f (i + 1) out g2 (by simpa using hf) h (by omega)
    unfold names_Without.l5 names_Without.j11
    rw [if_pos (by simp; exact g3), g1, Option.bind_some, has2_eq k hk b hb, Option.bind_some, wr1 (by omega), List.filter_cons]
    cases h : hasB b x
    · rw [if_pos (by simp), if_pos (lim_ok (by omega)), ih _ (by simp; omega)]; simp
    · rw [if_neg (by simp), ih _ (by omega)]; simp
theorem without_eq (k : Nat) (hk : 2000 < k) (a b : List Tx) (ha : a.length ≤ 1000) (hb : b.length ≤ 1000) : names_Without.f k a b = some (a.filter fun x => !hasB b x) := by
  unfold names_Without.f names_Without.j2
  have e : names_Without.l5 k a b k [] 0 = _ := without_loop k hk a b ha hb a k 0 [] rfl (by omega) (by simp) (by simp)
  rw [e]; rfl
theorem rwithout_loop (k : Nat) (hk : 2000 < k) (A b : List Tx) (hA : A.length ≤ 1000) (hb : b.length ≤ 1000) : ∀ (l : List Tx) (fuel i : Nat) (out : List Tx), A.drop i = l → l.length < fuel → out.length ≤ i → i ≤ A.length → millwrightref01_Without.l5 k A b fuel out (i : Int) = some (out ++ l.filter fun x => !hasB b x)
  | _, 0, _, _, _, h, _, _ => by omega
  | [], f + 1, i, out, hl, _, _, _ => by
    have := at_nil hl
    unfold millwrightref01_Without.l5
    rw [if_neg (by simp; omega)]; simp
  | x :: r, f + 1, i, out, hl, hf, ho, hi => by
    obtain ⟨g1, g2, g3⟩ := at_drop hl
    have ih := fun out h => rwithout_loop k hk A b hA hb r f (i + 1) out g2 (by simpa using hf) h (by omega)
    unfold millwrightref01_Without.l5 millwrightref01_Without.j11
    rw [if_pos (by simp; exact g3), g1, Option.bind_some, in_eq k hk b hb, Option.bind_some, wr1 (by omega), List.filter_cons]
    cases h : hasB b x
    · rw [if_pos (by simp), if_pos (lim_ok (by omega)), ih _ (by simp; omega)]; simp
    · rw [if_neg (by simp), ih _ (by omega)]; simp
theorem rwithout_eq (k : Nat) (hk : 2000 < k) (a b : List Tx) (ha : a.length ≤ 1000) (hb : b.length ≤ 1000) : millwrightref01_Without.f k a b = some (a.filter fun x => !hasB b x) := by
  unfold millwrightref01_Without.f millwrightref01_Without.j2
  have e : millwrightref01_Without.l5 k a b k [] 0 = _ := rwithout_loop k hk a b ha hb a k 0 [] rfl (by omega) (by simp) (by simp)
  rw [e]; rfl
theorem cut_l (a : List Tx) : ((a ++ marks).drop 0).take a.length = a := by simp
theorem sortedS_len (xs : List Tx) (n : Nat) (h : xs.length ≤ n) : (sortedS xs).length ≤ n := by
  have h1 : (sortedS xs).length ≤ xs.length := by
    have := (Lib.compact_length_le (xs.mergeSort fun x y => decide (x ≤ y)))
    simpa [sortedS] using this
  omega
theorem namesLists_true (a0 a1 : List Tx) (a2 : Tx) (_ : Wf Un (.list .str) a0) (_ : Wf Un (.list .str) a1) (_ : Wf Un .str a2) : ∃ k, millwrightlaw01_NamesLists.f k a0 a1 a2 = some true := by
  refine ⟨40000, ?_⟩
  have ali : millwrightlaw01_alive.f 40000 = some true := by decide +kernel
  unfold millwrightlaw01_NamesLists.f
  rw [ali, Option.bind_some, if_neg (by decide)]
  obtain ⟨b, h1, h2⟩ := long_f a0
  rw [h1, Option.bind_some]
  unfold millwrightlaw01_NamesLists.j35
  cases b with
  | true => rw [if_pos rfl, if_pos rfl]
  | false =>
    obtain ⟨l0, _⟩ := h2 rfl
    rw [if_neg (by simp)]
    obtain ⟨b, h3, h4⟩ := long_f a1
    rw [h3, Option.bind_some]
    cases b with
    | true => rw [if_pos rfl, if_pos rfl]
    | false =>
      obtain ⟨l1, _⟩ := h4 rfl
      rw [if_neg (by simp)]
      by_cases h5 : (a2.length : Int) > 100
      · rw [if_pos (by simpa using h5)]
      · rw [if_neg (by simpa using h5)]
        unfold millwrightlaw01_NamesLists.j32 millwrightlaw01_NamesLists.j15 millwrightlaw01_NamesLists.j12
        rw [texts_f _ a0 (by omega), Option.bind_some, texts_f _ a1 (by omega), Option.bind_some]
        have z0 : 0 + a0.length ≤ (a0 ++ marks).length := by simp
        have z1 : 0 + a1.length ≤ (a1 ++ marks).length := by simp
        have hs := sortedS_len a0 40 l0
        have hu := uniq_len (a0 ++ a1) []
        have hw : (a0.filter fun x => !hasB a1 x).length ≤ a0.length := List.length_filter_le _ _
        simp only [List.length_append, List.length_nil] at hu
        simp only [cut_l]
        rw [if_pos z0, names_sorted _ a0 (by omega), Option.bind_some, rsort_eq _ a0 (by omega) (by omega), Option.bind_some, sametx_eq _ (by omega) _ (by omega), Option.bind_some, if_neg (by simp),
          if_pos z0, if_pos z1, union_eq _ (by omega) a0 a1 (by omega) (by omega), Option.bind_some, runion_eq _ (by omega) a0 a1 (by omega) (by omega), Option.bind_some, sametx_eq _ (by omega) _ (by omega), Option.bind_some, if_neg (by simp),
          if_pos z0, if_pos z1, without_eq _ (by omega) a0 a1 (by omega) (by omega), Option.bind_some, rwithout_eq _ (by omega) a0 a1 (by omega) (by omega), Option.bind_some, sametx_eq _ (by omega) _ (by omega), Option.bind_some, if_neg (by simp),
          if_pos z0, has2_eq _ (by omega) a0 (by omega), Option.bind_some, has1_eq _ (by omega) a0 (by omega), Option.bind_some, if_pos (by simp), kept_f a0 l0, Option.bind_some, if_pos rfl, kept_f a1 l1]
        rfl
end Go.Proofs.Ytnbnfjgedinlbab
