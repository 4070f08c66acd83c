/- Two ways through a program, one behind the other and place by place: their mirrors, and that they find the same. -/
import Derived.Test.YteddmdkbeednmaaDoorK33DAF
import Derived.Test.YteddmdkbeednmaaDoorK33AmM3
namespace Go.Proofs.YteddmdkbeednmaaDoor
open Go Go.AM
set_option linter.unusedVariables false
set_option linter.unusedSimpArgs false
namespace Pk
abbrev Kp := List Int
abbrev Ins := T_prog_Instr
inductive Act where
  | stop | go (a : Int) (k : Kp) | fork (x y : Int) | eat | hit
def keep (x : Int) (i : Nat) (k : Kp) : Kp := if 0 ≤ x ∧ x < 20 then upd k x.toNat (i : Int) else k
def act (m i : Nat) (x : Ins) (at_ : Int) (k : Kp) : Act :=
  if x.f_Op = 0 then .eat else if x.f_Op = 1 then .fork x.f_X x.f_Y else if x.f_Op = 2 then .go x.f_X k else if x.f_Op = 3 then .go (at_ + 1) (keep x.f_X i k)
  else if x.f_Op = 4 then (if i = 0 then .go (at_ + 1) k else .stop) else if x.f_Op = 5 then (if i = m then .go (at_ + 1) k else .stop)
  else if x.f_Op = 6 then (if i = m then .hit else .stop) else .stop
variable (p : List Ins) (m : Nat) (has : Nat → Ins → Bool)
abbrev Mk := List Bool
def seen (M : Mk) (a : Int) : Bool := M.getD a.toNat true
def mark (M : Mk) (a : Int) : Mk := M.set a.toNat true
def D : Nat → Nat → Int → Kp → Mk → List Mk → Option (Option Kp × Mk × List Mk)
  | 0, _, _, _, _, _ => none
  | f + 1, i, a, k, M, Bs => match idx p a with
    | none => some (none, M, Bs)
    | some x => if seen M a then some (none, M, Bs) else match act m i x a k with
      | .stop => some (none, mark M a, Bs)
      | .go b k' => D f i b k' (mark M a) Bs
      | .fork x y => (D f i x k (mark M a) Bs).bind fun r => match r.1 with
        | some κ => some (some κ, r.2)
        | none => D f i y k r.2.1 r.2.2
      | .eat => match Bs with
        | [] => some (none, mark M a, [])
        | B :: Bs' => if has i x then (D f (i + 1) (a + 1) k B Bs').bind fun r => some (r.1, mark M a, r.2.1 :: r.2.2) else some (none, mark M a, B :: Bs')
      | .hit => some (some k, mark M a, Bs)
def C : Nat → Nat → Int → Kp → Mk → Option (Mk × List (Int × Kp) × Option Kp)
  | 0, _, _, _, _ => none
  | f + 1, i, a, k, M => match idx p a with
    | none => some (M, [], none)
    | some x => if seen M a then some (M, [], none) else match act m i x a k with
      | .stop => some (mark M a, [], none)
      | .go b k' => C f i b k' (mark M a)
      | .fork x y => (C f i x k (mark M a)).bind fun r => match r.2.2 with
        | some κ => some (r.1, r.2.1, some κ)
        | none => (C f i y k r.1).bind fun q => some (q.1, r.2.1 ++ q.2.1, q.2.2)
      | .eat => some (mark M a, [(a, k)], none)
      | .hit => some (mark M a, [], some k)
def DL (f i : Nat) : List (Int × Kp) → Mk → List Mk → Option (Option Kp × Mk × List Mk)
  | [], B, Bs => some (none, B, Bs)
  | t :: N, B, Bs => if (idx p t.1).any (has i) then (D p m has f (i + 1) (t.1 + 1) t.2 B Bs).bind fun r => match r.1 with
      | some κ => some (some κ, r.2)
      | none => DL f i N r.2.1 r.2.2
    else DL f i N B Bs
def CL (f i : Nat) : List (Int × Kp) → Mk → Option (Mk × List (Int × Kp) × Option Kp)
  | [], M => some (M, [], none)
  | t :: N, M => if (idx p t.1).any (has i) then (C p m f (i + 1) (t.1 + 1) t.2 M).bind fun r => match r.2.2 with
      | some κ => some (r.1, r.2.1, some κ)
      | none => (CL f i N r.1).bind fun q => some (q.1, r.2.1 ++ q.2.1, q.2.2)
    else CL f i N M

variable {p m has}
theorem D_mono : ∀ {f i a k M Bs r}, D p m has f i a k M Bs = some r → ∀ {g}, f ≤ g → D p m has g i a k M Bs = some r := by
  intro f
  induction f with
  | zero => intro i a k M Bs r h; cases h
  | succ f ih =>
    intro i a k M Bs r h g hg
    obtain ⟨g, rfl⟩ : ∃ g', g = g' + 1 := ⟨g - 1, by omega⟩
    have hg' : f ≤ g := by omega
    unfold D at h ⊢
    cases hx : idx p a with
    | none => rw [hx] at h; exact h
    | some x =>
      rw [hx] at h
      dsimp only at h ⊢
      split
      · rename_i hs; rw [if_pos hs] at h; exact h
      · rename_i hs
        rw [if_neg hs] at h
        cases ha : act m i x a k with
        | stop => rw [ha] at h; exact h
        | hit => rw [ha] at h; exact h
        | go b k' => rw [ha] at h; exact ih h hg'
        | fork x y =>
          rw [ha] at h
          obtain ⟨q, hq, h1⟩ := bind_some h
          dsimp only
          rw [ih hq hg', Option.bind_some]
          cases hr : q.1 with
          | some κ => rw [hr] at h1; exact h1
          | none => rw [hr] at h1; exact ih h1 hg'
        | eat =>
          rw [ha] at h
          cases Bs with
          | nil => exact h
          | cons B Bs' =>
            dsimp only at h ⊢
            split
            · rename_i hh
              rw [if_pos hh] at h
              obtain ⟨q, hq, h1⟩ := bind_some h
              rw [ih hq hg', Option.bind_some]; exact h1
            · rename_i hh; rw [if_neg hh] at h; exact h
theorem D_same {f g i a k M Bs r q} (h1 : D p m has f i a k M Bs = some r) (h2 : D p m has g i a k M Bs = some q) : r = q := by
  have h3 := D_mono h1 (Nat.le_max_left f g)
  have h4 := D_mono h2 (Nat.le_max_right f g)
  rw [h3] at h4; exact Option.some.inj h4
theorem DL_app {f i} : ∀ {N1 N2 : List (Int × Kp)} {B Bs r}, DL p m has f i (N1 ++ N2) B Bs = some r → ∃ q, DL p m has f i N1 B Bs = some q ∧ (∀ κ, q.1 = some κ → r = q) ∧ (q.1 = none → DL p m has f i N2 q.2.1 q.2.2 = some r)
  | [], N2, B, Bs, r, h => ⟨_, rfl, (fun _ h => by cases h), fun _ => h⟩
  | t :: N1, N2, B, Bs, r, h => by
    simp only [List.cons_append, DL] at h ⊢
    split at h
    · rename_i hh
      obtain ⟨q, hq, h1⟩ := bind_some h
      rw [if_pos hh, hq, Option.bind_some]
      cases hr : q.1 with
      | some κ =>
        rw [hr] at h1
        cases h1
        exact ⟨(some κ, q.2), rfl, fun κ' _ => rfl, fun h => by cases h⟩
      | none =>
        rw [hr] at h1
        exact DL_app h1
    · rename_i hh
      rw [if_neg hh]
      exact DL_app h

theorem no_hit {i a : _} {x : Ins} {k : Kp} (hi : i ≠ m) (ha : act m i x a k = .hit) : False := by
  unfold act at ha
  repeat' split at ha
  all_goals first | (cases ha; done) | exact hi (by assumption)
theorem C_none {i : Nat} (hi : i ≠ m) : ∀ {g a k M r}, C p m g i a k M = some r → r.2.2 = none := by
  intro g
  induction g with
  | zero => intro a k M r h; cases h
  | succ g ih =>
    intro a k M r h
    unfold C at h
    cases hx : idx p a with
    | none => rw [hx] at h; cases h; rfl
    | some x =>
      rw [hx] at h
      dsimp only at h
      split at h
      · cases h; rfl
      · cases ha : act m i x a k with
        | stop => rw [ha] at h; cases h; rfl
        | hit => exact (no_hit hi ha).elim
        | go b k' => rw [ha] at h; exact ih h
        | eat => rw [ha] at h; cases h; rfl
        | fork x y =>
          rw [ha] at h
          obtain ⟨q, hq, h1⟩ := bind_some h
          rw [ih hq] at h1
          obtain ⟨q2, hq2, h2⟩ := bind_some h1
          cases h2
          have := ih hq2
          exact this
theorem main {i : Nat} (hi : i ≠ m) : ∀ {f g h' a k M B Bs r M1 BB M' N fo r2 B2 Bs2}, D p m has f i a k M (B :: Bs) = some (r, M1, BB) → C p m g i a k M = some (M', N, fo) →
    DL p m has h' i N B Bs = some (r2, B2, Bs2) → r = r2 ∧ fo = none ∧ (r = none → M1 = M' ∧ BB = B2 :: Bs2) := by
  intro f
  induction f with
  | zero => intro g h' a k M B Bs r M1 BB M' N fo r2 B2 Bs2 h; cases h
  | succ f ih =>
    intro g h' a k M B Bs r M1 BB M' N fo r2 B2 Bs2 hD hC hL
    cases g with
    | zero => cases hC
    | succ g =>
    unfold D at hD
    unfold C at hC
    cases hx : idx p a with
    | none =>
      rw [hx] at hD hC
      cases hD; cases hC; cases hL
      exact ⟨rfl, rfl, fun _ => ⟨rfl, rfl⟩⟩
    | some x =>
      rw [hx] at hD hC
      dsimp only at hD hC
      split at hD
      · rename_i hs
        rw [if_pos hs] at hC
        cases hD; cases hC; cases hL
        exact ⟨rfl, rfl, fun _ => ⟨rfl, rfl⟩⟩
      · rename_i hs
        rw [if_neg hs] at hC
        cases ha : act m i x a k with
        | stop =>
          rw [ha] at hD hC
          cases hD; cases hC; cases hL
          exact ⟨rfl, rfl, fun _ => ⟨rfl, rfl⟩⟩
        | hit => exact (no_hit hi ha).elim
        | go b k' => rw [ha] at hD hC; exact ih hD hC hL
        | fork x y =>
          rw [ha] at hD hC
          obtain ⟨⟨q1, qM, qB⟩, hq, hD1⟩ := bind_some hD
          obtain ⟨⟨cM, cN, cf⟩, hc, hC1⟩ := bind_some hC
          dsimp only at hD1 hC1
          have hfo : cf = none := by
            cases cf with
            | none => rfl
            | some κ =>
              exfalso
              cases hC1
              obtain ⟨_, h2, _⟩ := ih hq hc hL
              cases h2
          subst hfo
          obtain ⟨⟨c2M, c2N, c2f⟩, hc2, hC2⟩ := bind_some hC1
          cases hC2
          obtain ⟨⟨d1, dB, dBs⟩, hd, g1, g2⟩ := DL_app hL
          obtain ⟨e1, _, e3⟩ := ih hq hc hd
          subst e1
          cases q1 with
          | some κ =>
            cases hD1
            have := g1 κ rfl
            cases this
            exact ⟨rfl, C_none hi hc2, fun h => by cases h⟩
          | none =>
            obtain ⟨e4, e5⟩ := e3 rfl
            cases e5
            subst e4
            exact ih hD1 hc2 (g2 rfl)
        | eat =>
          rw [ha] at hD hC
          cases hC
          dsimp only at hD
          simp only [DL, hx, Option.any_some] at hL
          split at hD
          · rename_i hh
            rw [if_pos hh] at hL
            obtain ⟨q, hq, hD1⟩ := bind_some hD
            obtain ⟨w, hw, hL1⟩ := bind_some hL
            have := D_same hq hw
            subst this
            obtain ⟨q1, q2, q3⟩ := q
            cases hD1
            cases q1 with
            | some κ => cases hL1; exact ⟨rfl, rfl, fun h => by cases h⟩
            | none => cases hL1; exact ⟨rfl, rfl, fun _ => ⟨rfl, rfl⟩⟩
          · rename_i hh
            rw [if_neg hh] at hL
            cases hD; cases hL
            exact ⟨rfl, rfl, fun _ => ⟨rfl, rfl⟩⟩

theorem CL_none {i : Nat} (hi : i + 1 ≠ m) {g : Nat} : ∀ {N : List (Int × Kp)} {M r}, CL p m has g i N M = some r → r.2.2 = none
  | [], M, r, h => by cases h; rfl
  | t :: N, M, r, h => by
    unfold CL at h
    split at h
    · obtain ⟨q, hq, h1⟩ := bind_some h
      rw [C_none hi hq] at h1
      obtain ⟨q2, hq2, h2⟩ := bind_some h1
      cases h2
      have := CL_none hi hq2
      exact this
    · exact CL_none hi h
theorem last : ∀ {f g a k M r M1 BB M' N fo}, D p m has f m a k M [] = some (r, M1, BB) → C p m g m a k M = some (M', N, fo) → r = fo ∧ BB = [] ∧ (r = none → M1 = M') := by
  intro f
  induction f with
  | zero => intro g a k M r M1 BB M' N fo h; cases h
  | succ f ih =>
    intro g a k M r M1 BB M' N fo hD hC
    cases g with
    | zero => cases hC
    | succ g =>
    unfold D at hD
    unfold C at hC
    cases hx : idx p a with
    | none => rw [hx] at hD hC; cases hD; cases hC; exact ⟨rfl, rfl, fun _ => rfl⟩
    | some x =>
      rw [hx] at hD hC
      dsimp only at hD hC
      split at hD
      · rename_i hs
        rw [if_pos hs] at hC
        cases hD; cases hC; exact ⟨rfl, rfl, fun _ => rfl⟩
      · rename_i hs
        rw [if_neg hs] at hC
        cases ha : act m m x a k with
        | stop => rw [ha] at hD hC; cases hD; cases hC; exact ⟨rfl, rfl, fun _ => rfl⟩
        | hit => rw [ha] at hD hC; cases hD; cases hC; exact ⟨rfl, rfl, fun h => by cases h⟩
        | go b k' => rw [ha] at hD hC; exact ih hD hC
        | eat => rw [ha] at hD hC; cases hD; cases hC; exact ⟨rfl, rfl, fun _ => rfl⟩
        | fork x y =>
          rw [ha] at hD hC
          obtain ⟨⟨q1, qM, qB⟩, hq, hD1⟩ := bind_some hD
          obtain ⟨⟨cM, cN, cf⟩, hc, hC1⟩ := bind_some hC
          obtain ⟨e1, e2, e3⟩ := ih hq hc
          subst e1 e2
          cases q1 with
          | some κ => cases hD1; cases hC1; exact ⟨rfl, rfl, fun h => by cases h⟩
          | none =>
            have := e3 rfl
            subst this
            obtain ⟨c2, hc2, hC2⟩ := bind_some hC1
            obtain ⟨c2M, c2N, c2f⟩ := c2
            cases hC2
            exact ih hD1 hc2
theorem mainL {i : Nat} (hi : i + 1 ≠ m) {f g h' : Nat} : ∀ {N : List (Int × Kp)} {M B : Mk} {Bs : List Mk} {r M1 BB M' N' fo r2 B2 Bs2}, DL p m has f i N M (B :: Bs) = some (r, M1, BB) → CL p m has g i N M = some (M', N', fo) →
    DL p m has h' (i + 1) N' B Bs = some (r2, B2, Bs2) → r = r2 ∧ fo = none ∧ (r = none → M1 = M' ∧ BB = B2 :: Bs2)
  | [], M, B, Bs, r, M1, BB, M', N', fo, r2, B2, Bs2, hD, hC, hL => by
    cases hD; cases hC; cases hL; exact ⟨rfl, rfl, fun _ => ⟨rfl, rfl⟩⟩
  | t :: N, M, B, Bs, r, M1, BB, M', N', fo, r2, B2, Bs2, hD, hC, hL => by
    unfold DL at hD
    unfold CL at hC
    split at hD
    · rename_i hh
      rw [if_pos hh] at hC
      obtain ⟨⟨q1, qM, qB⟩, hq, hD1⟩ := bind_some hD
      obtain ⟨⟨cM, cN, cf⟩, hc, hC1⟩ := bind_some hC
      have hcf := C_none hi hc
      dsimp only at hcf
      subst hcf
      obtain ⟨⟨c2M, c2N, c2f⟩, hc2, hC2⟩ := bind_some hC1
      cases hC2
      obtain ⟨⟨d1, dB, dBs⟩, hd, g1, g2⟩ := DL_app hL
      obtain ⟨e1, _, e3⟩ := main hi hq hc hd
      subst e1
      cases q1 with
      | some κ =>
        cases hD1
        have := g1 κ rfl
        cases this
        exact ⟨rfl, CL_none hi hc2, fun h => by cases h⟩
      | none =>
        obtain ⟨e4, e5⟩ := e3 rfl
        cases e5
        subst e4
        exact mainL hi hD1 hc2 (g2 rfl)
    · rename_i hh
      rw [if_neg hh] at hC
      exact mainL hi hD hC hL
theorem lastL {i : Nat} (hi : i + 1 = m) {f g : Nat} : ∀ {N : List (Int × Kp)} {M : Mk} {r M1 BB M' N' fo}, DL p m has f i N M [] = some (r, M1, BB) → CL p m has g i N M = some (M', N', fo) → r = fo ∧ BB = [] ∧ (r = none → M1 = M')
  | [], M, r, M1, BB, M', N', fo, hD, hC => by cases hD; cases hC; exact ⟨rfl, rfl, fun _ => rfl⟩
  | t :: N, M, r, M1, BB, M', N', fo, hD, hC => by
    unfold DL at hD
    unfold CL at hC
    split at hD
    · rename_i hh
      rw [if_pos hh] at hC
      obtain ⟨⟨q1, qM, qB⟩, hq, hD1⟩ := bind_some hD
      obtain ⟨⟨cM, cN, cf⟩, hc, hC1⟩ := bind_some hC
      rw [hi] at hq hc
      obtain ⟨e1, e2, e3⟩ := last hq hc
      subst e1 e2
      cases q1 with
      | some κ => cases hD1; cases hC1; exact ⟨rfl, rfl, fun h => by cases h⟩
      | none =>
        have := e3 rfl
        subst this
        obtain ⟨⟨c2M, c2N, c2f⟩, hc2, hC2⟩ := bind_some hC1
        cases hC2
        exact lastL hi hD1 hc2
    · rename_i hh
      rw [if_neg hh] at hC
      exact lastL hi hD hC
end Pk
end Go.Proofs.YteddmdkbeednmaaDoor
