/- What effects do to a tree: as the code has it. -/
import Derived.Test.YtcblgpcgdihcbaaGreatDoorK20ETVH
namespace Go.Proofs.YtcblgpcgdihcbaaGreatDoor.St
open Go Go.AM Go.ChangeShapes Go.ChangeAt Go.RowKit
set_option linter.unusedVariables false
set_option linter.unusedSimpArgs false
set_option maxRecDepth 100000
abbrev Ef := T_effect_Effect
def chkS (e : Ef) : Nat :=
  if e.f_Op < 1 ∨ e.f_Op > 3 ∨ ((memS e.f_Name).2.2 = true ∧ e.f_Op ≠ 2) then 17 else if e.f_Op ≠ 1 ∧ e.f_Text ≠ [] then 3 else 0
theorem ef_eta (e : Ef) : T_effect_Effect.mk e.f_Op e.f_Name e.f_Text = e := by cases e; rfl
theorem chk_eq (k : Nat) (hk : 4000 ≤ k) (e : Ef) (hn : e.f_Name.length ≤ 1000) : effect_Check.f k e = some (chkS e) := by
  unfold effect_Check.f chkS
  rw [mem_eq k _ hn (by omega), Option.bind_some]
  have tail : effect_Check.j9 k e false = some (if e.f_Op ≠ 1 ∧ e.f_Text ≠ [] then 3 else 0) := by
    unfold effect_Check.j9 effect_Check.j7 effect_Check.j2
    by_cases h1 : e.f_Op = 1
    · simp [h1]
    · by_cases h2 : e.f_Text = []
      · simp [h1, h2]
      · simp [h1, h2]
  have head : effect_Check.j9 k e true = some 17 := rfl
  by_cases h1 : e.f_Op < 1
  · rw [if_pos (by simpa using h1), if_pos (.inl h1), head]
  · rw [if_neg (by simpa using h1)]
    by_cases h2 : e.f_Op > 3
    · rw [if_pos (by simpa using h2), if_pos (.inr (.inl h2)), head]
    · rw [if_neg (by simpa using h2)]
      cases hm : (memS e.f_Name).2.2 with
      | true =>
        rw [if_pos rfl]
        by_cases h3 : e.f_Op = 2
        · rw [if_neg (fun h => by rcases h with h | h | h; exact h1 h; exact h2 h; exact h.2 h3), show (e.f_Op != 2) = false by simp [h3], tail]
        · rw [if_pos (.inr (.inr ⟨rfl, h3⟩)), show (e.f_Op != 2) = true by simpa using h3, head]
      | false =>
        rw [if_neg (by decide), if_neg (fun h => by rcases h with h | h | h; exact h1 h; exact h2 h; exact Bool.noConfusion h.1), tail]
def doS (m : Mp) (t : Int) (e : Ef) : Nat × Mp :=
  if chkS e ≠ 0 then (chkS e, m) else if e.f_Op = 1 then Tr.putS m ⟨e.f_Name, e.f_Text, t⟩ else if e.f_Op = 2 then setS m e.f_Name t else Tr.remS m e.f_Name
theorem do_eq (k : Nat) (hk : 4000 ≤ k) (m : Mp) (hb : Bound m) (t : Int) (e : Ef) (hn : e.f_Name.length ≤ 1000) : effect_Do_m0.f k m t e = some (doS m t e) := by
  unfold effect_Do_m0.f doS
  rw [ef_eta, chk_eq k hk e hn, Option.bind_some]
  by_cases h0 : chkS e = 0
  · rw [if_neg (show ¬ (!(chkS e == 0)) = true by simp [h0]), if_neg (show ¬ (chkS e ≠ 0) by simp [h0])]
    by_cases h1 : e.f_Op = 1
    · rw [if_pos (by simpa using h1), if_pos h1]
      have := Tr.put_eq k (by omega) m ⟨e.f_Name, e.f_Text, t⟩
      simp only at this
      rw [this]; rfl
    · rw [if_neg (by simpa using h1), if_neg h1]
      by_cases h2 : e.f_Op = 2
      · rw [if_pos (by simpa using h2), if_pos h2, set_eq k hk m hb _ hn]; rfl
      · rw [if_neg (by simpa using h2), if_neg h2, Tr.rem_eq]; rfl
  · rw [if_pos (by simpa using h0), if_pos h0]
theorem Bound.doS {m : Mp} (h : Bound m) (t : Int) (e : Ef) : Bound (doS m t e).2 := by
  unfold St.doS
  split
  · exact h
  · split
    · exact h.putS _
    · split
      · exact h.setS _ _
      · exact h.remS _
def appS (t : Int) : List Ef → Nat → Mp → Nat × Nat × Mp
  | [], i, m => (i, 0, m)
  | e :: r, i, m => if (doS m t e).1 = 0 then appS t r (i + 1) (doS m t e).2 else (i, (doS m t e).1, (doS m t e).2)
def outA (n : Nat) (x : Nat × Nat × Mp) : Sum Mp (Int × Nat × Mp) := if x.2.1 = 0 then .inl x.2.2 else .inr ((x.1 : Int), x.2.1, x.2.2)
theorem app_loop (k : Nat) (hk : 4000 ≤ k) (t : Int) (l : List Ef) (hl : l.length ≤ 1000) (hn : ∀ e ∈ l, e.f_Name.length ≤ 1000) : ∀ (r : List Ef) (fuel i : Nat) (m : Mp), l.drop i = r → r.length < fuel → Bound m →
    effect_Apply_m0.l5 k t l fuel m (i : Int) = some (outA i (appS t r i m))
  | _, 0, _, _, _, h, _ => by omega
  | [], f + 1, i, m, hd, _, _ => by
    have := Tr.at_nil hd
    unfold effect_Apply_m0.l5
    rw [if_neg (by simp; omega)]; rfl
  | e :: r, f + 1, i, m, hd, hf, hb => by
    obtain ⟨g1, g2, g3⟩ := Tr.at_drop hd
    have he : e ∈ l := List.mem_of_mem_drop (hd ▸ List.mem_cons_self)
    unfold effect_Apply_m0.l5 appS
    rw [if_pos (by simp; exact g3), g1, Option.bind_some, ef_eta, do_eq k hk m hb t e (hn e he), Option.bind_some]
    by_cases h0 : (doS m t e).1 = 0
    · rw [if_neg (by simp [h0]), if_pos h0, Tr.wr1 (by omega), app_loop k hk t l hl hn r f (i + 1) _ g2 (by simpa using hf) (hb.doS t e)]; rfl
    · rw [if_pos (by simpa using h0), if_neg h0]
      unfold outA; rw [if_neg h0]
theorem app_ok (t : Int) : ∀ (r : List Ef) (i : Nat) (m : Mp), (appS t r i m).2.1 = 0 → (appS t r i m).1 = i + r.length
  | [], i, m, _ => rfl
  | e :: r, i, m, h => by
    unfold appS at h ⊢
    by_cases h0 : (doS m t e).1 = 0
    · rw [if_pos h0] at h ⊢
      rw [app_ok t r (i + 1) _ h]; simp; omega
    · rw [if_neg h0] at h; exact absurd h h0
theorem app_eq (k : Nat) (hk : 4000 ≤ k) (t : Int) (l : List Ef) (hl : l.length ≤ 1000) (hn : ∀ e ∈ l, e.f_Name.length ≤ 1000) (m : Mp) (hb : Bound m) : effect_Apply_m0.f k m t l = some (((appS t l 0 m).1 : Int), (appS t l 0 m).2) := by
  unfold effect_Apply_m0.f effect_Apply_m0.j2
  have e : effect_Apply_m0.l5 k t l k m 0 = _ := app_loop k hk t l hl hn l k 0 m rfl (by omega) hb
  rw [e, Option.bind_some]
  unfold outA
  by_cases h0 : (appS t l 0 m).2.1 = 0
  · have := app_ok t l 0 m h0
    rw [if_pos h0]
    simp only
    rw [this, Nat.zero_add]
    have : (appS t l 0 m).2 = (0, (appS t l 0 m).2.2) := Prod.ext h0 rfl
    rw [this]
  · rw [if_neg h0]
end Go.Proofs.YtcblgpcgdihcbaaGreatDoor.St
