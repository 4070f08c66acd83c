/- A part of the proof of a given law: PCVProgClosed. Own work, printed in part by a program of mine. -/
import Derived.Test.YthmbbdemecljpaaDoorK1PCF
import Derived.Test.YthmbbdemecljpaaDoorK1AmQ
import Derived.Test.YthmbbdemecljpaaDoorK1AmP
namespace Go.Proofs.YthmbbdemecljpaaDoor
open Go Go.AM
set_option linter.unusedVariables false
set_option linter.unusedSimpArgs false
set_option maxRecDepth 100000

theorem alive08_eq : millwrightlaw08_alive.f 400 = some true := by decide +kernel

def thereB (n : Nat) (v : Int) : Bool := decide (v ≥ 0) && decide (v < (n : Int))
def onB (n i : Nat) (x : T_prog_Instr) : Bool :=
  if x.f_Op == 1 then thereB n x.f_X && thereB n x.f_Y else if x.f_Op == 2 then thereB n x.f_X else if x.f_Op == 6 then true else thereB n ((i : Int) + 1)
def allB (n : Nat) : Nat → List T_prog_Instr → Bool
  | _, [] => true
  | i, x :: xs => onB n i x && allB n (i + 1) xs

theorem there_eq (k : Nat) (v : Int) (a0 : List T_prog_Instr) : prog_Closed_1_m0.f k v a0 = some (thereB a0.length v) := by
  unfold prog_Closed_1_m0.f thereB
  cases h : decide (v ≥ 0) <;> simp

theorem at_drop {α : Type} {l r : List α} {i : Nat} {x : α} (h : l.drop i = x :: r) : idx l (i : Int) = some x ∧ l.drop (i + 1) = r ∧ i < l.length := by
  have hi : i < l.length := by
    rcases Nat.lt_or_ge i l.length with h' | h'
    · exact h'
    · rw [List.drop_of_length_le h'] at h; cases h
  rw [List.drop_eq_getElem_cons hi] at h
  injection h with h1 h2
  exact ⟨by rw [idx_at rfl hi, h1], h2, hi⟩

theorem closed_l3 (k : Nat) (a0 : List T_prog_Instr) (hn : a0.length ≤ 60) : ∀ (l : List T_prog_Instr) (i fuel : Nat), a0.drop i = l → l.length < fuel → i ≤ a0.length →
    prog_Closed.l3 k a0 fuel (i : Int) = some (if allB a0.length i l then .inl () else .inr false)
  | [], i, 0, _, h, _ => by simp at h
  | [], i, f + 1, h, _, hi => by
    have hlen := congrArg List.length h
    simp only [List.length_drop, List.length_nil] at hlen
    unfold prog_Closed.l3
    rw [if_neg (by simp; omega)]
    simp [allB]
  | x :: r, i, 0, _, h, _ => by simp at h
  | x :: r, i, f + 1, h, hf, _ => by
    obtain ⟨h1, h2, h3⟩ := at_drop h
    have ih := closed_l3 k a0 hn r (i + 1) f h2 (by simp at hf; omega) h3
    have hw : IntKind.i64.wrap ((i : Int) + 1) = ((i + 1 : Nat) : Int) := by rw [w64 (by omega) (by omega)]; rfl
    have hj : ∀ b, prog_Closed.j11 k (prog_Closed.l3 k a0 f) a0 (i : Int) b = some (if b && allB a0.length (i + 1) r then .inl () else .inr false) := fun b => by
      unfold prog_Closed.j11 prog_Closed.j7
      cases b
      · simp
      · show prog_Closed.l3 k a0 f (IntKind.i64.wrap ((i : Int) + 1)) = _
        rw [hw, ih]; simp only [Bool.true_and]
    unfold prog_Closed.l3
    rw [if_pos (by simp; exact h3), h1]
    have hw1 : IntKind.i64.wrap ((i : Int) + 1) = (i : Int) + 1 := hw
    simp only [Option.bind_some, there_eq, hj, hw1]
    rw [show allB a0.length i (x :: r) = (onB a0.length i x && allB a0.length (i + 1) r) from rfl]
    generalize allB a0.length (i + 1) r = rest
    unfold onB
    cases e1 : x.f_Op == 1
    · cases e2 : x.f_Op == 2
      · cases e6 : x.f_Op == 6 <;> simp
      · simp
    · cases thereB a0.length x.f_X <;> simp

theorem law_l9 (k : Nat) (a0 : List T_prog_Instr) (hn : a0.length ≤ 60) : ∀ (l : List T_prog_Instr) (i fuel : Nat) (c : Bool), a0.drop i = l → l.length < fuel → i ≤ a0.length →
    millwrightlaw08_ProgClosed.l9 k a0 fuel c (i : Int) = some (c && allB a0.length i l)
  | [], i, 0, _, _, h, _ => by simp at h
  | [], i, f + 1, c, h, _, hi => by
    have hlen := congrArg List.length h
    simp only [List.length_drop, List.length_nil] at hlen
    unfold millwrightlaw08_ProgClosed.l9
    rw [if_neg (by simp; omega)]
    simp [allB]
  | x :: r, i, 0, _, _, h, _ => by simp at h
  | x :: r, i, f + 1, c, h, hf, _ => by
    obtain ⟨h1, h2, h3⟩ := at_drop h
    have ih := fun c => law_l9 k a0 hn r (i + 1) f c h2 (by simp at hf; omega) h3
    have hw : IntKind.i64.wrap ((i : Int) + 1) = ((i + 1 : Nat) : Int) := by rw [w64 (by omega) (by omega)]; rfl
    have hw2 : IntKind.i64.wrap ((a0.length : Int) - 1) = (a0.length : Int) - 1 := w64 (by omega) (by omega)
    have hj : ∀ b, millwrightlaw08_ProgClosed.j15 k (millwrightlaw08_ProgClosed.l9 k a0 f) a0 (i : Int) b = some (b && allB a0.length (i + 1) r) := fun b => by
      unfold millwrightlaw08_ProgClosed.j15
      rw [hw, ih]
    have key : ∀ p q, millwrightlaw08_ProgClosed.j26 k (millwrightlaw08_ProgClosed.l9 k a0 f) a0 c (i : Int) x p q = some ((c && (if x.f_Op == 1 then p && q else if x.f_Op == 2 then p else if x.f_Op == 6 then true else decide ((i : Int) < (a0.length : Int) - 1))) && allB a0.length (i + 1) r) := fun p q => by
      unfold millwrightlaw08_ProgClosed.j26
      simp only [hj, hw2]
      cases x.f_Op == 1 <;> cases x.f_Op == 2 <;> cases x.f_Op == 6 <;> cases c <;> cases p <;> simp
    have hth : thereB a0.length ((i : Int) + 1) = decide ((i : Int) < (a0.length : Int) - 1) := by
      unfold thereB
      rw [Bool.eq_iff_iff]
      simp
      omega
    unfold millwrightlaw08_ProgClosed.l9
    rw [if_pos (by simp; exact h3), h1]
    simp only [Option.bind_some]
    unfold millwrightlaw08_ProgClosed.j28
    simp only [key]
    rw [show allB a0.length i (x :: r) = (onB a0.length i x && allB a0.length (i + 1) r) from rfl]
    generalize allB a0.length (i + 1) r = rest
    unfold onB
    rw [hth]
    unfold thereB
    cases decide (x.f_X ≥ 0) <;> cases decide (x.f_Y ≥ 0) <;> simp [Bool.and_assoc]

theorem progClosed_true (a0 : List T_prog_Instr) (_ : Wf Un (.list (.named 3)) a0) : ∃ k, millwrightlaw08_ProgClosed.f k a0 = some true := by
  refine ⟨400, ?_⟩
  unfold millwrightlaw08_ProgClosed.f
  rw [alive08_eq]
  simp only [Option.bind_some, Bool.not_true, Bool.false_eq_true, if_false]
  by_cases h : (a0.length : Int) > 60
  · rw [if_pos (by simpa using h)]
  · rw [if_neg (by simpa using h)]
    have hn : a0.length ≤ 60 := by omega
    have e1 := law_l9 400 a0 hn a0 0 400 (decide ((a0.length : Int) > 0)) rfl (by omega) (Nat.zero_le _)
    have e2 := closed_l3 400 a0 hn a0 0 400 rfl (by omega) (Nat.zero_le _)
    simp only [Int.natCast_zero] at e1 e2
    have e1' : millwrightlaw08_ProgClosed.l9 400 a0 400 (decide ((a0.length : Int) > 0)) 0 = _ := e1
    have e2' : prog_Closed.l3 400 a0 400 0 = _ := e2
    rw [e1']
    simp only [Option.bind_some, millwrightlaw08_ProgClosed.j6, prog_Closed.f, e2', prog_Closed.j1]
    cases allB a0.length 0 a0 <;> simp
end Go.Proofs.YthmbbdemecljpaaDoor
