/- A part of a proof: DAVD. -/
import Derived.Test.YtkdpaglpieamgaaDoorK10DAVC
namespace Go.Proofs.YtkdpaglpieamgaaDoor
open Go Go.AM Go.ChangeShapes Go.ChangeAt Go.RowKit
set_option linter.unusedVariables false
set_option linter.unusedSimpArgs false
set_option maxRecDepth 100000
abbrev Tx := List UInt8
def Strict (l : List Tx) : Prop := l.Pairwise fun x y => Op.bytesLess x y = true
theorem strict_eq : ∀ (l1 l2 : List Tx), Strict l1 → Strict l2 → (∀ x, x ∈ l1 ↔ x ∈ l2) → l1 = l2
  | [], [], _, _, _ => rfl
  | [], y :: r, _, _, h => by have := (h y).2 List.mem_cons_self; cases this
  | x :: r, [], _, _, h => by have := (h x).1 List.mem_cons_self; cases this
  | x :: r1, y :: r2, h1, h2, h => by
    obtain ⟨p1, p2⟩ := List.pairwise_cons.1 h1
    obtain ⟨q1, q2⟩ := List.pairwise_cons.1 h2
    have e : x = y := by
      rcases List.mem_cons.1 ((h x).1 List.mem_cons_self) with e | hx
      · exact e
      · rcases List.mem_cons.1 ((h y).2 List.mem_cons_self) with e | hy
        · exact e.symm
        · have := less_trans (p1 y hy) (q1 x hx); rw [less_irrefl] at this; cases this
    subst e
    rw [strict_eq r1 r2 p2 q2 fun z => ⟨fun hz => ?_, fun hz => ?_⟩]
    · rcases List.mem_cons.1 ((h z).1 (List.mem_cons_of_mem _ hz)) with e | hz'
      · subst e; have := p1 z hz; rw [less_irrefl] at this; cases this
      · exact hz'
    · rcases List.mem_cons.1 ((h z).2 (List.mem_cons_of_mem _ hz)) with e | hz'
      · subst e; have := q1 z hz; rw [less_irrefl] at this; cases this
      · exact hz'
theorem Strict.nodup {l : List Tx} (h : Strict l) : l.Nodup := h.imp fun h => less_ne h
theorem le_or {x y : Tx} (h : x ≤ y) : x = y ∨ Op.bytesLess x y = true := by
  by_cases e : x = y
  · exact .inl e
  · rcases less_total e with h' | h'
    · exact .inr h'
    · rw [bytesLess_eq, decide_eq_true_eq] at h'
      exact absurd h' (List.not_lt.2 h)
theorem compactUp (zs : List Tx) (hs : zs.Pairwise fun x y => x ≤ y) : ∀ m, m ≤ zs.length → (∀ x, x ∈ Lib.compactUpTo zs.toArray m ↔ ∃ j, j < m ∧ zs.toArray[j]! = x) ∧ Strict (Lib.compactUpTo zs.toArray m)
  | 0, _ => ⟨fun x => by simp [Lib.compactUpTo], by simp [Lib.compactUpTo, Strict]⟩
  | m + 1, hm => by
    obtain ⟨h1, h2⟩ := compactUp zs hs m (by omega)
    have hle : ∀ i, i < m → zs.toArray[i]! ≤ zs.toArray[m]! := fun i hi => by
      rw [getElem!_pos zs.toArray i (by simp; omega), getElem!_pos zs.toArray m (by simp; omega)]
      exact (List.pairwise_iff_getElem.1 hs) i m (by omega) (by omega) hi
    rw [Lib.compactUpTo_succ]
    by_cases hk : Lib.keeps zs.toArray m = true
    · rw [if_pos hk]
      have hk' : m = 0 ∨ zs.toArray[m]! ≠ zs.toArray[m - 1]! := by simpa [Lib.keeps] using hk
      refine ⟨fun x => ?_, ?_⟩
      · rw [List.mem_append, h1]
        constructor
        · rintro (⟨j, hj, e⟩ | h)
          · exact ⟨j, by omega, e⟩
          · exact ⟨m, by omega, (List.mem_singleton.1 h).symm⟩
        · rintro ⟨j, hj, e⟩
          by_cases hjm : j = m
          · subst hjm; exact .inr (by simp [e])
          · exact .inl ⟨j, by omega, e⟩
      · refine List.pairwise_append.2 ⟨h2, by simp, fun x hx y hy => ?_⟩
        obtain rfl : y = zs.toArray[m]! := by simpa using hy
        obtain ⟨j, hj, rfl⟩ := (h1 x).1 hx
        rcases le_or (hle j hj) with e | h
        · rcases hk' with h0 | hne
          · omega
          · have hpm : zs.toArray[m - 1]! ≤ zs.toArray[m]! := hle (m - 1) (by omega)
            have hjp : zs.toArray[j]! ≤ zs.toArray[m - 1]! := by
              by_cases hjm : j = m - 1
              · subst hjm; exact List.le_refl _
              · rw [getElem!_pos zs.toArray j (by simp; omega), getElem!_pos zs.toArray (m - 1) (by simp; omega)]
                exact (List.pairwise_iff_getElem.1 hs) j (m - 1) (by omega) (by omega) (by omega)
            rw [e] at hjp
            rcases le_or hpm with e2 | h2
            · exact absurd e2.symm hne
            · rcases le_or hjp with e3 | h3
              · exact absurd e3 hne
              · have := less_trans h2 h3; rw [less_irrefl] at this; cases this
        · exact h
    · rw [if_neg hk, List.append_nil]
      have hk' : m ≠ 0 ∧ zs.toArray[m]! = zs.toArray[m - 1]! := by simpa [Lib.keeps] using hk
      refine ⟨fun x => ?_, h2⟩
      rw [h1]
      constructor
      · rintro ⟨j, hj, e⟩; exact ⟨j, by omega, e⟩
      · rintro ⟨j, hj, e⟩
        by_cases hjm : j = m
        · subst hjm; exact ⟨j - 1, by omega, by rw [← hk'.2]; exact e⟩
        · exact ⟨j, by omega, e⟩
def sortedS (xs : List Tx) : List Tx := Lib.compact (xs.mergeSort fun x y => decide (x ≤ y))
theorem sortedS_spec (xs : List Tx) : Strict (sortedS xs) ∧ ∀ x, x ∈ sortedS xs ↔ x ∈ xs := by
  have hs : (xs.mergeSort fun x y => decide (x ≤ y)).Pairwise fun x y => x ≤ y := by
    have := List.pairwise_mergeSort (le := fun (x y : Tx) => decide (x ≤ y)) (fun a b c h1 h2 => by
      simp only [decide_eq_true_eq] at *; exact List.le_trans h1 h2) (fun a b => by
      simp only [Bool.or_eq_true, decide_eq_true_eq]; exact List.le_total a b) xs
    exact this.imp fun h => by simpa using h
  obtain ⟨h1, h2⟩ := compactUp _ hs _ (Nat.le_refl _)
  refine ⟨h2, fun x => ?_⟩
  show x ∈ Lib.compactUpTo _ _ ↔ _
  rw [h1]
  have hm : x ∈ (xs.mergeSort fun x y => decide (x ≤ y)) ↔ x ∈ xs := List.mem_mergeSort
  rw [← hm]
  constructor
  · rintro ⟨j, hj, e⟩
    rw [getElem!_pos _ j (by simpa using hj)] at e
    rw [← e]; simp
  · intro hx
    obtain ⟨j, hj, e⟩ := List.getElem_of_mem hx
    exact ⟨j, hj, by rw [getElem!_pos _ j (by simpa using hj)]; simpa using e⟩
theorem names_sorted (k : Nat) (xs : List Tx) (h : xs.length ≤ 100000) : names_Sorted.f k xs = some (sortedS xs) := by
  unfold names_Sorted.f pCloneR.f pSortR.f pCompactR.f
  rw [if_pos (by omega), Option.bind_some, if_pos (by omega), Option.bind_some, if_pos (by simp), if_pos (by simp; omega)]
  rfl
end Go.Proofs.YtkdpaglpieamgaaDoor
