/- A part of the proof of a given law: POVF. Own work, printed in part by a program of mine. -/
import Derived.Test.YtpcobejkpbalcaaDoorK27POVE
namespace Go.Proofs.YtpcobejkpbalcaaDoor
open Go Go.AM
set_option linter.unusedVariables false
set_option linter.unusedSimpArgs false
set_option maxRecDepth 100000

def thereB (n : Nat) (v : Int) : Bool := decide (v ≥ 0) && decide (v < (n : Int))
def onB (n i : Nat) (x : T_prog_Instr) : Bool :=
  if x.f_Op == 1 then thereB n x.f_X && thereB n x.f_Y else if x.f_Op == 2 then thereB n x.f_X else if x.f_Op == 6 then true else thereB n ((i : Int) + 1)
def allB (n : Nat) : Nat → List T_prog_Instr → Bool
  | _, [] => true
  | i, x :: xs => onB n i x && allB n (i + 1) xs

theorem there_eq (k : Nat) (v : Int) (a0 : List T_prog_Instr) : prog_Closed_1_m0.f k v a0 = some (thereB a0.length v) := by
  unfold prog_Closed_1_m0.f thereB
  cases h : decide (v ≥ 0) <;> simp

theorem closed_l3 (k : Nat) (a0 : List T_prog_Instr) (hn : a0.length ≤ 900) : ∀ (l : List T_prog_Instr) (i fuel : Nat), a0.drop i = l → l.length < fuel → i ≤ a0.length →
    prog_Closed.l3 k a0 fuel (i : Int) = some (if allB a0.length i l then .inl () else .inr false)
  | [], i, 0, _, h, _ => by simp at h
  | [], i, f + 1, h, _, hi => by
    have hlen := congrArg List.length h
    simp only [List.length_drop, List.length_nil] at hlen
    unfold prog_Closed.l3
    rw [if_neg (by simp; omega)]
    simp [allB]
  | x :: r, i, 0, _, h, _ => by simp at h
  | x :: r, i, f + 1, h, hf, _ => by
    obtain ⟨h1, h2, h3⟩ := at_drop h
    have ih := closed_l3 k a0 hn r (i + 1) f h2 (by simp at hf; omega) h3
    have hw : IntKind.i64.wrap ((i : Int) + 1) = ((i + 1 : Nat) : Int) := by rw [w64 (by omega) (by omega)]; rfl
    have hj : ∀ b, prog_Closed.j11 k (prog_Closed.l3 k a0 f) a0 (i : Int) b = some (if b && allB a0.length (i + 1) r then .inl () else .inr false) := fun b => by
      unfold prog_Closed.j11 prog_Closed.j7
      cases b
      · simp
      · show prog_Closed.l3 k a0 f (IntKind.i64.wrap ((i : Int) + 1)) = _
        rw [hw, ih]; simp only [Bool.true_and]
    unfold prog_Closed.l3
    rw [if_pos (by simp; exact h3), h1]
    have hw1 : IntKind.i64.wrap ((i : Int) + 1) = (i : Int) + 1 := hw
    simp only [Option.bind_some, there_eq, hj, hw1]
    rw [show allB a0.length i (x :: r) = (onB a0.length i x && allB a0.length (i + 1) r) from rfl]
    generalize allB a0.length (i + 1) r = rest
    unfold onB
    cases e1 : x.f_Op == 1
    · cases e2 : x.f_Op == 2
      · cases e6 : x.f_Op == 6 <;> simp
      · simp
    · cases thereB a0.length x.f_X <;> simp


theorem allB_app (L : Nat) : ∀ (xs ys : List PI) (p : Nat), allB L p (xs ++ ys) = (allB L p xs && allB L (p + xs.length) ys)
  | [], ys, p => by simp [allB]
  | x :: xs, ys, p => by
    simp only [List.cons_append, allB, allB_app L xs ys (p + 1), List.length_cons, Bool.and_assoc]
    rw [show p + 1 + xs.length = p + (xs.length + 1) by omega]
theorem there_nat {L : Nat} {v : Int} (h0 : 0 ≤ v) (h : v < L) : thereB L v = true := by simp [thereB, h0, h]
theorem on_plain {L p : Nat} {op x y : Int} (h1 : op ≠ 1) (h2 : op ≠ 2) (h : p + 1 < L) (st : List Int) : onB L p ⟨op, x, y, st⟩ = true := by
  unfold onB
  have e1 : (op == 1) = false := by simpa using h1
  have e2 : (op == 2) = false := by simpa using h2
  simp only [e1, e2, Bool.false_eq_true, if_false]
  split
  · rfl
  · exact there_nat (by omega) (by omega)
theorem on_split {L p : Nat} {x y : Int} (hx : 0 ≤ x ∧ x < L) (hy : 0 ≤ y ∧ y < L) : onB L p (ins 1 x y) = true := by
  simp [onB, ins, there_nat hx.1 hx.2, there_nat hy.1 hy.2]
theorem on_jump {L p : Nat} {x y : Int} (hx : 0 ≤ x ∧ x < L) : onB L p (ins 2 x y) = true := by
  simp [onB, ins, there_nat hx.1 hx.2]

mutual
theorem closed_code (L : Nat) : ∀ (n : RN) (p : Nat), rightN n = true → p + lenN n < L → allB L p (codeN n p) = true
  | .mk kd ix st ks, p, h, hL => by
    rw [rightN_eq] at h
    simp only [T_rex_Node.f_Kind, T_rex_Node.f_Index, T_rex_Node.f_Set, T_rex_Node.f_Kids, Bool.and_eq_true] at h
    have hc := fun q hq => closed_codes L ks q h.2 hq
    have ha := fun q e hq he => closed_alt L ks q e h.2 hq he
    have hl := fun q => lens_code ks q h.2
    rcases hdr_true h.1 with ⟨rfl, g⟩ | ⟨rfl, g⟩ | ⟨rfl, g⟩ | ⟨rfl, g⟩ | ⟨rfl, g⟩ | ⟨rfl, g⟩ | ⟨rfl, g⟩ | ⟨rfl, g, _⟩ | ⟨rfl, g⟩ | ⟨rfl, g⟩ <;>
      simp [lenN, extra] at hL <;> simp only [codeN, Int.reduceEq, if_false, if_true]
    · rfl
    · simp only [allB, Bool.and_true]; exact on_plain (by decide) (by decide) (by omega) _
    · exact hc p hL
    · exact ha p _ (by omega) (by omega)
    · simp only [allB, allB_app, hl, Bool.and_true, Bool.and_eq_true]
      exact ⟨on_split ⟨by omega, by omega⟩ ⟨by omega, by omega⟩, hc _ (by omega), on_jump ⟨by omega, by omega⟩⟩
    · simp only [allB, allB_app, hl, Bool.and_true, Bool.and_eq_true]
      exact ⟨hc _ (by omega), on_split ⟨by omega, by omega⟩ ⟨by omega, by omega⟩⟩
    · simp only [allB, allB_app, hl, Bool.and_true, Bool.and_eq_true]
      exact ⟨on_split ⟨by omega, by omega⟩ ⟨by omega, by omega⟩, hc _ (by omega)⟩
    · simp only [allB, allB_app, hl, Bool.and_true, Bool.and_eq_true]
      exact ⟨on_plain (by decide) (by decide) (by omega) _, hc _ (by omega), on_plain (by decide) (by decide) (by omega) _⟩
    · simp only [allB, Bool.and_true]; exact on_plain (by decide) (by decide) (by omega) _
    · simp only [allB, Bool.and_true]; exact on_plain (by decide) (by decide) (by omega) _
theorem closed_codes (L : Nat) : ∀ (ks : List RN) (p : Nat), rightNs ks = true → p + lensN ks < L → allB L p (codesN ks p) = true
  | [], p, _, _ => rfl
  | x :: xs, p, h, hL => by
    simp only [rightNs, Bool.and_eq_true] at h
    simp only [lensN] at hL
    have h1 := closed_code L x p h.1 (by omega)
    have h2 := closed_codes L xs (p + lenN x) h.2 (by omega)
    simp only [codesN, allB_app, len_code x p h.1, h1, h2, Bool.and_self]
theorem closed_alt (L : Nat) : ∀ (ks : List RN) (p e : Nat), rightNs ks = true → p + lensN ks + 2 * (ks.length - 1) < L → e < L → allB L p (altN ks p e) = true
  | [], p, e, _, _, _ => rfl
  | [x], p, e, h, hL, _ => by
    simp only [rightNs, Bool.and_eq_true] at h
    simp [lensN] at hL
    simpa [altN] using closed_code L x p h.1 (by omega)
  | x :: y :: xs, p, e, h, hL, he => by
    rw [rightNs] at h
    simp only [Bool.and_eq_true] at h
    rw [lensN] at hL
    simp only [List.length_cons] at hL
    have h1 := closed_code L x (p + 1) h.1 (by omega)
    have h2 := closed_alt L (y :: xs) (p + lenN x + 2) e h.2 (by simp only [List.length_cons]; omega) he
    rw [altN]
    simp only [List.isEmpty_cons, Bool.false_eq_true, if_false, allB, allB_app, len_code x _ h.1, h1, Bool.true_and, Bool.and_eq_true]
    refine ⟨on_split ⟨by omega, by omega⟩ ⟨by omega, by omega⟩, on_jump ⟨by omega, by omega⟩, ?_⟩
    rw [show p + 1 + lenN x + 1 = p + lenN x + 2 by omega]
    exact h2
end

theorem prog_len (n : RN) (hr : rightN n = true) : (progN n).length = lenN n + 3 := by simp [progN, len_code n 1 hr]
theorem prog_closed (n : RN) (hr : rightN n = true) : allB (progN n).length 0 (progN n) = true := by
  rw [prog_len n hr]
  have h := closed_code (lenN n + 3) n 1 hr (by omega)
  simp only [progN, allB, allB_app, len_code n 1 hr, Bool.and_true, Bool.and_eq_true]
  refine ⟨on_plain (by decide) (by decide) (by omega) _, h, on_plain (by decide) (by decide) (by omega) _, rfl⟩

theorem closed_f (p : List PI) (h : p.length ≤ 900) (h0 : 0 < p.length) (hc : allB p.length 0 p = true) : prog_Closed.f 6000 p = some true := by
  unfold prog_Closed.f
  have e := closed_l3 6000 p h p 0 6000 rfl (by omega) (Nat.zero_le _)
  have e' : prog_Closed.l3 6000 p 6000 0 = _ := e
  rw [e', hc]
  simp [prog_Closed.j1]; omega

theorem same_loop (k : Nat) (p : List PI) (hn : p.length ≤ 900) : ∀ (l : List PI) (fuel i : Nat), p.drop i = l → l.length < fuel → millwrightlaw08_same.l4 k p (p.map toR) fuel (i : Int) = some (.inl ())
  | _, 0, _, _, h => by omega
  | [], f + 1, i, hl, _ => by
    have := at_nil hl
    unfold millwrightlaw08_same.l4
    rw [if_neg (by simp; omega)]
  | x :: r, f + 1, i, hl, hf => by
    obtain ⟨g1, g2, g3⟩ := at_drop hl
    have hi : idx (p.map toR) (i : Int) = some (toR x) := (at_drop (l := p.map toR) (i := i) (x := toR x) (r := r.map toR) (by rw [← List.map_drop, hl]; rfl)).1
    unfold millwrightlaw08_same.l4
    rw [if_pos (by simp; exact g3), g1, hi]
    simp only [Option.bind_some, toR, bne_self_eq_false, Bool.false_eq_true, if_false]
    unfold millwrightlaw08_same.j12 millwrightlaw08_same.j8
    rw [wr1 (by omega), same_loop k p hn r f (i + 1) g2 (by simp at hf; omega)]
    simp
theorem same_f (p : List PI) (h : p.length ≤ 900) : millwrightlaw08_same.f 6000 p (p.map toR) = some true := by
  unfold millwrightlaw08_same.f
  have e := same_loop 6000 p h p 6000 0 rfl (by omega)
  have e' : millwrightlaw08_same.l4 6000 p (p.map toR) 6000 0 = _ := e
  rw [if_neg (by simp), e']
  rfl

end Go.Proofs.YtpcobejkpbalcaaDoor
