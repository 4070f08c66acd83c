/- A part of the proof of a given law: CYVA. Own work, printed in part by a program of mine. -/
import Derived.Test.YtlmhnhlmlhfigaaK42CYF
namespace Go.Proofs.Ytlmhnhlmlhfigaa
open Go Go.AM Go.ChangeShapes Go.ChangeAt Go.RowKit
set_option linter.unusedVariables false
set_option linter.unusedSimpArgs false
set_option maxRecDepth 100000
theorem at_drop {α : Type} {l r : List α} {i : Nat} {x : α} (h : l.drop i = x :: r) : idx l (i : Int) = some x ∧ l.drop (i + 1) = r ∧ i < l.length := by
  have hi : i < l.length := by
    rcases Nat.lt_or_ge i l.length with h' | h'
    · exact h'
    · rw [List.drop_of_length_le h'] at h; cases h
  rw [List.drop_eq_getElem_cons hi] at h
  injection h with h1 h2
  exact ⟨by rw [idx_at rfl hi, h1], h2, hi⟩
theorem at_nil {α : Type} {l : List α} {i : Nat} (h : l.drop i = []) : l.length ≤ i := by
  have := congrArg List.length h
  simp at this; omega
theorem wr1 {i : Nat} (h : i < 1000000) : IntKind.i64.wrap ((i : Int) + 1) = ((i + 1 : Nat) : Int) := by rw [w64 (by omega) (by omega)]; rfl

theorem lim_ok {α : Type} {l : List α} {x : α} (h : l.length ≤ 100000) : l.length + [x].length ≤ LIM := by
  have : LIM = 4294967296 := rfl
  simp; omega
theorem rix {α β : Type} {l : List α} {i : Nat} {x : α} {f : α → Option β} (h : idx l (i : Int) = some x) : (if (0 : Int) ≤ (i : Int) ∧ (i : Int) < (l.length : Int) then (l[0 + (i : Int).toNat]?).bind f else none) = f x := by
  have hi : i < l.length := by
    rcases Nat.lt_or_ge i l.length with h' | h'
    · exact h'
    · rw [idx_none (.inr (by omega))] at h; cases h
  rw [idx_at rfl hi] at h
  rw [if_pos ⟨by omega, by omega⟩]
  have e : l[0 + (i : Int).toNat]? = some x := by rw [← h]; simp [hi]
  rw [e]; rfl
abbrev Tx := List UInt8
def Strict (l : List Tx) : Prop := l.Pairwise fun x y => Op.bytesLess x y = true
theorem strict_eq : ∀ (l1 l2 : List Tx), Strict l1 → Strict l2 → (∀ x, x ∈ l1 ↔ x ∈ l2) → l1 = l2
  | [], [], _, _, _ => rfl
  | [], y :: r, _, _, h => by have := (h y).2 List.mem_cons_self; cases this
  | x :: r, [], _, _, h => by have := (h x).1 List.mem_cons_self; cases this
  | x :: r1, y :: r2, h1, h2, h => by
    obtain ⟨p1, p2⟩ := List.pairwise_cons.1 h1
    obtain ⟨q1, q2⟩ := List.pairwise_cons.1 h2
    have e : x = y := by
      rcases List.mem_cons.1 ((h x).1 List.mem_cons_self) with e | hx
      · exact e
      · rcases List.mem_cons.1 ((h y).2 List.mem_cons_self) with e | hy
        · exact e.symm
        · have := less_trans (p1 y hy) (q1 x hx); rw [less_irrefl] at this; cases this
    subst e
    rw [strict_eq r1 r2 p2 q2 fun z => ⟨fun hz => ?_, fun hz => ?_⟩]
    · rcases List.mem_cons.1 ((h z).1 (List.mem_cons_of_mem _ hz)) with e | hz'
      · subst e; have := p1 z hz; rw [less_irrefl] at this; cases this
      · exact hz'
    · rcases List.mem_cons.1 ((h z).2 (List.mem_cons_of_mem _ hz)) with e | hz'
      · subst e; have := q1 z hz; rw [less_irrefl] at this; cases this
      · exact hz'
theorem Strict.nodup {l : List Tx} (h : Strict l) : l.Nodup := h.imp fun h => less_ne h
theorem le_or {x y : Tx} (h : x ≤ y) : x = y ∨ Op.bytesLess x y = true := by
  by_cases e : x = y
  · exact .inl e
  · rcases less_total e with h' | h'
    · exact .inr h'
    · rw [bytesLess_eq, decide_eq_true_eq] at h'
      exact absurd h' (List.not_lt.2 h)
theorem compactUp (zs : List Tx) (hs : zs.Pairwise fun x y => x ≤ y) : ∀ m, m ≤ zs.length → (∀ x, x ∈ Lib.compactUpTo zs.toArray m ↔ ∃ j, j < m ∧ zs.toArray[j]! = x) ∧ Strict (Lib.compactUpTo zs.toArray m)
  | 0, _ => ⟨fun x => by simp [Lib.compactUpTo], by simp [Lib.compactUpTo, Strict]⟩
  | m + 1, hm => by
    obtain ⟨h1, h2⟩ := compactUp zs hs m (by omega)
    have hle : ∀ i, i < m → zs.toArray[i]! ≤ zs.toArray[m]! := fun i hi => by
      rw [getElem!_pos zs.toArray i (by simp; omega), getElem!_pos zs.toArray m (by simp; omega)]
      exact (List.pairwise_iff_getElem.1 hs) i m (by omega) (by omega) hi
    rw [Lib.compactUpTo_succ]
    by_cases hk : Lib.keeps zs.toArray m = true
    · rw [if_pos hk]
      have hk' : m = 0 ∨ zs.toArray[m]! ≠ zs.toArray[m - 1]! := by simpa [Lib.keeps] using hk
      refine ⟨fun x => ?_, ?_⟩
      · rw [List.mem_append, h1]
        constructor
        · rintro (⟨j, hj, e⟩ | h)
          · exact ⟨j, by omega, e⟩
          · exact ⟨m, by omega, (List.mem_singleton.1 h).symm⟩
        · rintro ⟨j, hj, e⟩
          by_cases hjm : j = m
          · subst hjm; exact .inr (by simp [e])
          · exact .inl ⟨j, by omega, e⟩
      · refine List.pairwise_append.2 ⟨h2, by simp, fun x hx y hy => ?_⟩
        obtain rfl : y = zs.toArray[m]! := by simpa using hy
        obtain ⟨j, hj, rfl⟩ := (h1 x).1 hx
        rcases le_or (hle j hj) with e | h
        · rcases hk' with h0 | hne
          · omega
          · have hpm : zs.toArray[m - 1]! ≤ zs.toArray[m]! := hle (m - 1) (by omega)
            have hjp : zs.toArray[j]! ≤ zs.toArray[m - 1]! := by
              by_cases hjm : j = m - 1
              · subst hjm; exact List.le_refl _
              · rw [getElem!_pos zs.toArray j (by simp; omega), getElem!_pos zs.toArray (m - 1) (by simp; omega)]
                exact (List.pairwise_iff_getElem.1 hs) j (m - 1) (by omega) (by omega) (by omega)
            rw [e] at hjp
            rcases le_or hpm with e2 | h2
            · exact absurd e2.symm hne
            · rcases le_or hjp with e3 | h3
              · exact absurd e3 hne
              · have := less_trans h2 h3; rw [less_irrefl] at this; cases this
        · exact h
    · rw [if_neg hk, List.append_nil]
      have hk' : m ≠ 0 ∧ zs.toArray[m]! = zs.toArray[m - 1]! := by simpa [Lib.keeps] using hk
      refine ⟨fun x => ?_, h2⟩
      rw [h1]
      constructor
      · rintro ⟨j, hj, e⟩; exact ⟨j, by omega, e⟩
      · rintro ⟨j, hj, e⟩
        by_cases hjm : j = m
        · subst hjm; exact ⟨j - 1, by omega, by rw [← hk'.2]; exact e⟩
        · exact ⟨j, by omega, e⟩
def sortedS (xs : List Tx) : List Tx := Lib.compact (xs.mergeSort fun x y => decide (x ≤ y))
theorem sortedS_spec (xs : List Tx) : Strict (sortedS xs) ∧ ∀ x, x ∈ sortedS xs ↔ x ∈ xs := by
  have hs : (xs.mergeSort fun x y => decide (x ≤ y)).Pairwise fun x y => x ≤ y := by
    have := List.pairwise_mergeSort (le := fun (x y : Tx) => decide (x ≤ y)) (fun a b c h1 h2 => by
      simp only [decide_eq_true_eq] at *; exact List.le_trans h1 h2) (fun a b => by
      simp only [Bool.or_eq_true, decide_eq_true_eq]; exact List.le_total a b) xs
    exact this.imp fun h => by simpa using h
  obtain ⟨h1, h2⟩ := compactUp _ hs _ (Nat.le_refl _)
  refine ⟨h2, fun x => ?_⟩
  show x ∈ Lib.compactUpTo _ _ ↔ _
  rw [h1]
  have hm : x ∈ (xs.mergeSort fun x y => decide (x ≤ y)) ↔ x ∈ xs := List.mem_mergeSort
  rw [← hm]
  constructor
  · rintro ⟨j, hj, e⟩
    rw [getElem!_pos _ j (by simpa using hj)] at e
    rw [← e]; simp
  · intro hx
    obtain ⟨j, hj, e⟩ := List.getElem_of_mem hx
    exact ⟨j, hj, by rw [getElem!_pos _ j (by simpa using hj)]; simpa using e⟩
theorem names_sorted (k : Nat) (xs : List Tx) (h : xs.length ≤ 100000) : names_Sorted.f k xs = some (sortedS xs) := by
  unfold names_Sorted.f pCloneR.f pSortR.f pCompactRR.f
  rw [if_pos (by omega), Option.bind_some, if_pos (by omega), Option.bind_some, if_pos (by simp), if_pos (by simp; omega)]
  rfl
def low (s : Tx) (out : List Tx) : List Tx := out.takeWhile fun x => Op.bytesLess x s
def high (s : Tx) (out : List Tx) : List Tx := out.dropWhile fun x => Op.bytesLess x s
theorem low_high (s : Tx) (out : List Tx) : low s out ++ high s out = out := List.takeWhile_append_dropWhile
theorem pos_loop (k : Nat) (a out : List Tx) (v4 : Int) (s : Tx) (ho : out.length ≤ 10000) : ∀ (l : List Tx) (fuel i : Nat), out.drop i = l → l.length < fuel → millwrightref01_Sorted.l30 k a out v4 s fuel (i : Int) = some (((i + (low s l).length : Nat)) : Int)
  | _, 0, _, _, h => by omega
  | [], f + 1, i, hl, _ => by
    have := at_nil hl
    unfold millwrightref01_Sorted.l30 millwrightref01_Sorted.j37
    rw [if_neg (by simp; omega), if_neg (by simp)]; simp [low]
  | x :: r, f + 1, i, hl, hf => by
    obtain ⟨g1, g2, g3⟩ := at_drop hl
    have ih := pos_loop k a out v4 s ho r f (i + 1) g2 (by simpa using hf)
    unfold millwrightref01_Sorted.l30 millwrightref01_Sorted.j37 millwrightref01_Sorted.j34
    rw [if_pos (by simp; exact g3), rix g1, wr1 (by omega), ih]
    unfold low
    cases h : Op.bytesLess x s
    · rw [if_neg (by simp), List.takeWhile_cons_of_neg (by simp [h])]; simp
    · rw [if_pos rfl, List.takeWhile_cons_of_pos (by simp [h]), List.length_cons]
      congr 2; omega
def insT (s : Tx) (out : List Tx) : List Tx := if (high s out).head? = some s then out else low s out ++ s :: high s out
theorem insT_spec (s : Tx) {out : List Tx} (h : Strict out) : Strict (insT s out) ∧ ∀ x, x ∈ insT s out ↔ x = s ∨ x ∈ out := by
  have hlow : ∀ x ∈ low s out, Op.bytesLess x s = true := fun x hx => by
    have := List.all_takeWhile (p := fun x => Op.bytesLess x s) (l := out)
    exact List.all_eq_true.1 this x hx
  unfold insT
  by_cases hh : (high s out).head? = some s
  · rw [if_pos hh]
    refine ⟨h, fun x => ⟨.inr, ?_⟩⟩
    rintro (rfl | hx)
    · rw [← low_high x out]
      exact List.mem_append.2 (.inr (List.mem_of_mem_head? hh))
    · exact hx
  · rw [if_neg hh]
    have hs := h
    rw [← low_high s out] at hs
    obtain ⟨p1, p2, p3⟩ := List.pairwise_append.1 hs
    have hhigh : ∀ x ∈ high s out, Op.bytesLess s x = true := by
      cases e : high s out with
      | nil => intro x hx; cases hx
      | cons y r =>
        have hy : ¬ Op.bytesLess y s = true := by
          have := List.head?_dropWhile_not (p := fun x => Op.bytesLess x s) (l := out)
          show ¬ (fun x => Op.bytesLess x s) y = true
          have e' : (List.dropWhile (fun x => Op.bytesLess x s) out).head? = some y := by
            show (high s out).head? = some y
            rw [e]; rfl
          rw [e'] at this
          simpa using this
        have hne : y ≠ s := fun e2 => hh (by rw [e, e2]; rfl)
        have hsy : Op.bytesLess s y = true := by
          rcases less_total hne with h' | h'
          · exact absurd h' hy
          · exact h'
        rw [e] at p2
        intro x hx
        rcases List.mem_cons.1 hx with rfl | hx
        · exact hsy
        · exact less_trans hsy ((List.pairwise_cons.1 p2).1 x hx)
    refine ⟨List.pairwise_append.2 ⟨p1, List.pairwise_cons.2 ⟨hhigh, p2⟩, fun x hx y hy => ?_⟩, fun x => ?_⟩
    · rcases List.mem_cons.1 hy with rfl | hy
      · exact hlow x hx
      · exact p3 x hx y hy
    · rw [List.mem_append, List.mem_cons]
      have : x ∈ out ↔ x ∈ low s out ∨ x ∈ high s out := by rw [← List.mem_append, low_high]
      rw [this]
      constructor
      · rintro (h | h | h)
        · exact .inr (.inl h)
        · exact .inl h
        · exact .inr (.inr h)
      · rintro (h | h | h)
        · exact .inr (.inl h)
        · exact .inl h
        · exact .inr (.inr h)
theorem insT_len (s : Tx) (out : List Tx) : (insT s out).length ≤ out.length + 1 := by
  unfold insT
  split
  · omega
  · have := congrArg List.length (low_high s out)
    rw [List.length_append] at this ⊢
    simp only [List.length_cons]; omega
theorem ins_step (k : Nat) (rec : List Tx → Int → Option (List Tx)) (a out : List Tx) (i : Nat) (s : Tx) (hi : i < 100000) (ho : out.length ≤ 10000) : millwrightref01_Sorted.j28 k rec a out (i : Int) s (((low s out).length : Nat) : Int) = rec (insT s out) ((i + 1 : Nat) : Int) := by
  have hlen := congrArg List.length (low_high s out)
  rw [List.length_append] at hlen
  have htake : out.take (low s out).length = low s out := by
    have h := List.take_left (l₁ := low s out) (l₂ := high s out)
    rw [low_high] at h; exact h
  have hdrop : out.drop (low s out).length = high s out := by
    have h := List.drop_left (l₁ := low s out) (l₂ := high s out)
    rw [low_high] at h; exact h
  have hl : LIM = 4294967296 := rfl
  have e21 : millwrightref01_Sorted.j21 k rec a out (i : Int) s (((low s out).length : Nat) : Int) = rec (low s out ++ s :: high s out) ((i + 1 : Nat) : Int) := by
    unfold millwrightref01_Sorted.j21 millwrightref01_Sorted.j11
    have t1 : ((low s out).length : Int).toNat = (low s out).length := by omega
    have t2 : (out.length : Int).toNat = out.length := by omega
    rw [t1, t2, List.drop_zero, htake, Nat.zero_add, hdrop]
    have t3 : (high s out).take (out.length - (low s out).length) = high s out := List.take_of_length_le (by omega)
    rw [t3, if_pos ⟨by omega, by omega, by omega⟩, if_pos (by omega), if_pos (by simp; omega), if_pos (by simp; omega), if_pos ⟨by omega, by omega, by omega⟩, if_pos (by omega), if_pos (by simp; omega), wr1 (by omega)]
    simp
  unfold millwrightref01_Sorted.j28 millwrightref01_Sorted.j24 millwrightref01_Sorted.j11
  rw [e21]
  unfold insT
  cases e : high s out with
  | nil =>
    rw [e] at hlen
    simp only [List.length_nil] at hlen
    rw [if_neg (by rw [decide_eq_true_eq]; omega), if_neg (by simp), if_neg (by simp)]
  | cons y r =>
    have hlt : (low s out).length < out.length := by rw [e] at hlen; simp at hlen; omega
    have hg : out[(low s out).length]? = some y := by
      have := congrArg (fun l => l[0]?) hdrop
      simpa [e] using this
    have hidx : idx out (((low s out).length : Nat) : Int) = some y := by
      rw [idx_at rfl hlt]
      rw [List.getElem?_eq_getElem hlt] at hg
      exact hg
    rw [if_pos (by rw [decide_eq_true_eq]; omega), rix hidx, wr1 (by omega)]
    by_cases hy : y = s
    · rw [if_pos (by simpa using hy), if_pos (by simp [hy])]
    · rw [if_neg (by simpa using hy), if_neg (by simp [hy])]
theorem rsort_loop (k : Nat) (a : List Tx) (ha : a.length ≤ 1000) (hk : 20000 < k) : ∀ (l : List Tx) (fuel i : Nat) (out : List Tx), a.drop i = l → l.length < fuel → out.length ≤ i → i ≤ a.length → Strict out →
    ∃ T, millwrightref01_Sorted.l5 k a fuel out (i : Int) = some T ∧ Strict T ∧ ∀ x, x ∈ T ↔ x ∈ out ∨ x ∈ l
  | _, 0, _, _, _, h, _, _, _ => by omega
  | [], f + 1, i, out, hl, _, _, _, hs => by
    have := at_nil hl
    unfold millwrightref01_Sorted.l5
    exact ⟨out, by rw [if_neg (by simp; omega)], hs, fun x => by simp⟩
  | s :: r, f + 1, i, out, hl, hf, ho, hia, hs => by
    obtain ⟨g1, g2, g3⟩ := at_drop hl
    obtain ⟨q1, q2⟩ := insT_spec s hs
    have hln := insT_len s out
    obtain ⟨T, e1, e2, e3⟩ := rsort_loop k a ha hk r f (i + 1) (insT s out) g2 (by simpa using hf) (by omega) (by omega) q1
    refine ⟨T, ?_, e2, fun x => ?_⟩
    · unfold millwrightref01_Sorted.l5
      have e0 : millwrightref01_Sorted.l30 k a out (i : Int) s k 0 = _ := pos_loop k a out (i : Int) s (by omega) out k 0 rfl (by omega)
      rw [if_pos (by simp; exact g3), g1, Option.bind_some, e0, Option.bind_some, Nat.zero_add, ins_step k _ a out i s (by omega) (by omega), e1]
    · rw [e3, q2, List.mem_cons]
      constructor
      · rintro ((h | h) | h)
        · exact .inr (.inl h)
        · exact .inl h
        · exact .inr (.inr h)
      · rintro (h | h | h)
        · exact .inl (.inr h)
        · exact .inl (.inl h)
        · exact .inr h
theorem rsort_eq (k : Nat) (a : List Tx) (ha : a.length ≤ 1000) (hk : 20000 < k) : millwrightref01_Sorted.f k a = some (sortedS a) := by
  unfold millwrightref01_Sorted.f millwrightref01_Sorted.j2
  obtain ⟨T, e1, e2, e3⟩ := rsort_loop k a ha hk a k 0 [] rfl (by omega) (by simp) (by omega) .nil
  have e1 : millwrightref01_Sorted.l5 k a k [] 0 = some T := e1
  obtain ⟨h1, h2⟩ := sortedS_spec a
  have : T = sortedS a := strict_eq T (sortedS a) e2 h1 fun x => by rw [e3, h2]; simp
  rw [e1, this]; rfl

theorem has1_loop (k : Nat) (a : List Tx) (ha : a.length ≤ 1000) (n : Tx) : ∀ (l : List Tx) (fuel i : Nat), a.drop i = l → l.length < fuel → millwrightnum_Has.l3 k a n fuel (i : Int) = some (if n ∈ l then .inr true else .inl ())
  | _, 0, _, _, h => by omega
  | [], f + 1, i, hl, _ => by
    have := at_nil hl
    unfold millwrightnum_Has.l3
    rw [if_neg (by simp; omega)]; simp
  | c :: r, f + 1, i, hl, hf => by
    obtain ⟨g1, g2, g3⟩ := at_drop hl
    unfold millwrightnum_Has.l3
    rw [if_pos (by simp; exact g3), g1, Option.bind_some, wr1 (by omega), has1_loop k a ha n r f (i + 1) g2 (by simpa using hf)]
    by_cases h : c = n
    · rw [if_pos (by simpa using h), if_pos (by rw [h]; exact List.mem_cons_self)]
    · rw [if_neg (by simpa using h)]
      have : n ∈ c :: r ↔ n ∈ r := by rw [List.mem_cons]; exact ⟨fun h' => h'.elim (fun e => absurd e.symm h) id, .inr⟩
      simp [this]
def hasB (a : List Tx) (n : Tx) : Bool := decide (n ∈ a)
theorem has1_eq (k : Nat) (hk : 2000 < k) (a : List Tx) (ha : a.length ≤ 1000) (n : Tx) : millwrightnum_Has.f k a n = some (hasB a n) := by
  unfold millwrightnum_Has.f millwrightnum_Has.j1 hasB
  have e0 : millwrightnum_Has.l3 k a n k 0 = _ := has1_loop k a ha n a k 0 rfl (by omega)
  rw [e0]
  by_cases h : n ∈ a
  · rw [if_pos h]; simp [h]
  · rw [if_neg h]; simp [h]
theorem has2_loop (k : Nat) (a : List Tx) (ha : a.length ≤ 1000) (n : Tx) : ∀ (l : List Tx) (fuel i : Nat), a.drop i = l → l.length < fuel → ∃ o, slices_Index_string_string.l3 k a n fuel (i : Int) = some o ∧ ((n ∉ l ∧ o = .inl ()) ∨ (n ∈ l ∧ ∃ j : Nat, o = .inr (j : Int)))
  | _, 0, _, _, h => by omega
  | [], f + 1, i, hl, _ => by
    have := at_nil hl
    unfold slices_Index_string_string.l3
    exact ⟨_, by rw [if_neg (by simp; omega)], .inl ⟨by simp, rfl⟩⟩
  | c :: r, f + 1, i, hl, hf => by
    obtain ⟨g1, g2, g3⟩ := at_drop hl
    obtain ⟨o, e, h⟩ := has2_loop k a ha n r f (i + 1) g2 (by simpa using hf)
    unfold slices_Index_string_string.l3
    rw [if_pos (by simp; exact g3), g1, Option.bind_some, wr1 (by omega), e]
    by_cases hc : n = c
    · rw [if_pos (by simpa using hc)]
      exact ⟨_, rfl, .inr ⟨by rw [hc]; exact List.mem_cons_self, i, rfl⟩⟩
    · rw [if_neg (by simpa using hc)]
      refine ⟨o, rfl, ?_⟩
      rcases h with ⟨h1, h2⟩ | ⟨h1, h2⟩
      · exact .inl ⟨by simp [hc, h1], h2⟩
      · exact .inr ⟨List.mem_cons_of_mem _ h1, h2⟩
theorem has2_eq (k : Nat) (hk : 2000 < k) (a : List Tx) (ha : a.length ≤ 1000) (n : Tx) : names_Has.f k a n = some (hasB a n) := by
  unfold names_Has.f slices_Contains_string_string.f slices_Index_string_string.f slices_Index_string_string.j1 hasB
  obtain ⟨o, e, h⟩ := has2_loop k a ha n a k 0 rfl (by omega)
  have e : slices_Index_string_string.l3 k a n k 0 = some o := e
  rw [e]
  rcases h with ⟨h1, rfl⟩ | ⟨h1, j, rfl⟩
  · simp [h1]
  · simp [h1]
theorem without_loop (k : Nat) (hk : 2000 < k) (A b : List Tx) (hA : A.length ≤ 1000) (hb : b.length ≤ 1000) : ∀ (l : List Tx) (fuel i : Nat) (out : List Tx), A.drop i = l → l.length < fuel → out.length ≤ i → i ≤ A.length → names_Without.l5 k A b fuel out (i : Int) = some (out ++ l.filter fun x => !hasB b x)
  | _, 0, _, _, _, h, _, _ => by omega
  | [], f + 1, i, out, hl, _, _, _ => by
    have := at_nil hl
    unfold names_Without.l5
    rw [if_neg (by simp; omega)]; simp
  | x :: r, f + 1, i, out, hl, hf, ho, hi => by
    obtain ⟨g1, g2, g3⟩ := at_drop hl
    have ih := fun out h => without_loop k hk A b hA hb r f (i + 1) out g2 (by simpa using hf) h (by omega)
    unfold names_Without.l5 names_Without.j11
    rw [if_pos (by simp; exact g3), g1, Option.bind_some, has2_eq k hk b hb, Option.bind_some, wr1 (by omega), List.filter_cons]
    cases h : hasB b x
    · rw [if_pos (by simp), if_pos (lim_ok (by omega)), ih _ (by simp; omega)]; simp
    · rw [if_neg (by simp), ih _ (by omega)]; simp
theorem without_eq (k : Nat) (hk : 2000 < k) (a b : List Tx) (ha : a.length ≤ 1000) (hb : b.length ≤ 1000) : names_Without.f k a b = some (a.filter fun x => !hasB b x) := by
  unfold names_Without.f names_Without.j2
  have e : names_Without.l5 k a b k [] 0 = _ := without_loop k hk a b ha hb a k 0 [] rfl (by omega) (by simp) (by simp)
  rw [e]; rfl
theorem sortedS_len (xs : List Tx) (n : Nat) (h : xs.length ≤ n) : (sortedS xs).length ≤ n := by
  have h1 : (sortedS xs).length ≤ xs.length := by
    have := (Lib.compact_length_le (xs.mergeSort fun x y => decide (x ≤ y)))
    simpa [sortedS] using this
  omega
end Go.Proofs.Ytlmhnhlmlhfigaa
