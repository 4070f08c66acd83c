/- A part of the proof of a given law: QBVB. Own work, printed in part by a program of mine. -/
import Derived.Test.YtnbnfjgedinlbabDoorK1QBVA
namespace Go.Proofs.YtnbnfjgedinlbabDoor
open Go Go.AM
set_option linter.unusedVariables false
set_option linter.unusedSimpArgs false
set_option maxRecDepth 100000

theorem bad_blank (b : UInt8) (h : badL.contains b = false) : bl b = false ∧ b ≠ 39 := by
  have h2 := bad_all ⟨b.toNat, b.toNat_lt⟩
  have e : b.toNat.toUInt8 = b := by simp
  simp only [e] at h2
  rw [h, Bool.or_eq_false_iff, Bool.or_eq_false_iff] at h2
  refine ⟨h2.1.1, fun e => ?_⟩
  subst e
  exact absurd h2.1.2 (by decide)

theorem run_plain : ∀ (s rest : List UInt8) (out : List (List UInt8)) (st : Nat) (w : List UInt8), (st = 0 ∨ st = 1) → s.any badL.contains = false → s ≠ [] → run (s ++ rest) out st w = run rest out 1 (w ++ s)
  | [], _, _, _, _, _, _, h => absurd rfl h
  | b :: s, rest, out, st, w, hst, hb, _ => by
    simp only [List.any_cons, Bool.or_eq_false_iff] at hb
    obtain ⟨h1, h2⟩ := bad_blank b hb.1
    have e : stp b out st w = (out, 1, w ++ [b]) := by
      unfold stp norm
      rcases hst with rfl | rfl <;> simp [h1, h2]
    rw [List.cons_append, run, e]
    cases s with
    | nil => rfl
    | cons c s => rw [run_plain (c :: s) rest out 1 (w ++ [b]) (.inr rfl) hb.2 (by simp)]; simp

theorem run_dbl : ∀ (s rest : List UInt8) (out : List (List UInt8)) (w : List UInt8), run (s.flatMap dbl ++ 39 :: rest) out 2 w = run rest out 3 (w ++ s)
  | [], rest, out, w => by simp [run, stp, norm]
  | b :: s, rest, out, w => by
    by_cases h : b = 39
    · subst h
      have : (39 :: s).flatMap dbl ++ 39 :: rest = 39 :: 39 :: (s.flatMap dbl ++ 39 :: rest) := by simp [dbl]
      rw [this, run, run]
      have e1 : stp 39 out 2 w = (out, 3, w) := by simp [stp, norm]
      have e2 : stp 39 out 3 w = (out, 2, w ++ [39]) := by simp [stp]
      rw [e1, e2, run_dbl s rest out (w ++ [39])]
      simp
    · have : (b :: s).flatMap dbl ++ 39 :: rest = b :: (s.flatMap dbl ++ 39 :: rest) := by simp [dbl, h]
      rw [this, run]
      have e1 : stp b out 2 w = (out, 2, w ++ [b]) := by simp [stp, norm, h]
      rw [e1, run_dbl s rest out (w ++ [b])]
      simp

theorem run_quo (s rest : List UInt8) (out : List (List UInt8)) : ∃ st, (st = 1 ∨ st = 3) ∧ run (quo s ++ rest) out 0 [] = run rest out st s := by
  unfold quo
  split
  · rename_i h
    simp only [Bool.and_eq_true, Bool.not_eq_true'] at h
    exact ⟨1, .inl rfl, by rw [run_plain s rest out 0 [] (.inl rfl) h.1 (by simpa using h.2)]; simp⟩
  · refine ⟨3, .inr rfl, ?_⟩
    have : [39] ++ s.flatMap dbl ++ [39] ++ rest = 39 :: (s.flatMap dbl ++ 39 :: rest) := by simp
    rw [this, run]
    have e : stp 39 out 0 [] = (out, 2, []) := by simp [stp, norm]; decide
    rw [e, run_dbl]
    simp

theorem run_blank (rest : List UInt8) (out : List (List UInt8)) (st : Nat) (w : List UInt8) (h : st = 1 ∨ st = 3) : run (32 :: rest) out st w = run rest (out ++ [w]) 0 [] := by
  have e : stp 32 out st w = (out ++ [w], 0, []) := by
    have hb : bl 32 = true := by decide
    unfold stp norm
    rcases h with rfl | rfl <;> simp [hb]
  rw [run, e]

theorem run_join : ∀ (l : List (List UInt8)) (x : List UInt8) (out : List (List UInt8)), ∃ st w, (st = 1 ∨ st = 3) ∧ run (quo x ++ Lib.joinTail [32] (l.map quo)) out 0 [] = (out ++ (x :: l).dropLast, st, w) ∧ (x :: l).getLast? = some w
  | [], x, out => by
    obtain ⟨st, h1, h2⟩ := run_quo x [] out
    refine ⟨st, x, h1, ?_, rfl⟩
    have : quo x ++ Lib.joinTail [32] ([].map quo) = quo x ++ [] := by simp [Lib.joinTail]
    rw [this, h2]
    simp [run]
  | y :: l, x, out => by
    have : quo x ++ Lib.joinTail [32] ((y :: l).map quo) = quo x ++ (32 :: (quo y ++ Lib.joinTail [32] (l.map quo))) := by simp [Lib.joinTail]
    obtain ⟨st, h1, h2⟩ := run_quo x (32 :: (quo y ++ Lib.joinTail [32] (l.map quo))) out
    rw [this, h2, run_blank _ _ _ _ h1]
    obtain ⟨st', w, g1, g2, g3⟩ := run_join l y (out ++ [x])
    exact ⟨st', w, g1, by rw [g2]; simp, by simpa using g3⟩

theorem back_eq (l : List (List UInt8)) : splN (run (Lib.join (l.map quo) [32]) [] 0 []) = (l, 0) := by
  cases l with
  | nil => rfl
  | cons x l =>
    rw [List.map_cons, Lib.join_cons]
    obtain ⟨st, w, g1, g2, g3⟩ := run_join l x []
    rw [g2]
    unfold splN fin
    have h2 : st ≠ 2 := by omega
    have h0 : st ≠ 0 := by omega
    simp only [h2, if_false, h0, ne_eq, not_false_eq_true, if_true, List.nil_append]
    congr 1
    have hne : (x :: l) ≠ [] := by simp
    rw [List.getLast?_eq_some_getLast hne] at g3
    have g4 := Option.some.inj g3
    rw [← g4]
    exact List.dropLast_concat_getLast hne
end Go.Proofs.YtnbnfjgedinlbabDoor
