/- A part of the proof of a given law: EPN. Own work, printed in part by a program of mine. -/
import Derived.Test.YtnbnfjgedinlbabDoorK12EPF
namespace Go.Proofs.YtnbnfjgedinlbabDoor
open Go Go.AM
set_option linter.unusedVariables false
set_option linter.unusedSimpArgs false
set_option maxRecDepth 100000
abbrev Vr := T_env_Var
abbrev Mp := KV Vr
theorem vr_eta (v : Vr) : T_env_Var.mk v.f_Name v.f_Words v.f_Level v.f_Hidden = v := by cases v; rfl
theorem mput_comm {α : Type} {k1 k2 : List UInt8} (v1 v2 : α) (hne : k1 ≠ k2) : ∀ m : KV α, mput k1 v1 (mput k2 v2 m) = mput k2 v2 (mput k1 v1 m)
  | [] => by
    rcases less_total hne with h | h
    · have h' : Op.bytesLess k2 k1 = false := by
        cases e : Op.bytesLess k2 k1
        · rfl
        · have := less_trans h e; rw [less_irrefl] at this; cases this
      simp [mput, hne, Ne.symm hne, h, h']
    · have h' : Op.bytesLess k1 k2 = false := by
        cases e : Op.bytesLess k1 k2
        · rfl
        · have := less_trans h e; rw [less_irrefl] at this; cases this
      simp [mput, hne, Ne.symm hne, h, h']
  | y :: r => by
    have asym : ∀ {a b : List UInt8}, Op.bytesLess a b = true → Op.bytesLess b a = false := fun {a b} h => by
      cases e : Op.bytesLess b a
      · rfl
      · have := less_trans h e; rw [less_irrefl] at this; cases this
    by_cases e1 : y.1 = k1
    · have e2 : ¬ y.1 = k2 := fun e => hne (e1.symm.trans e)
      rcases less_total hne with h | h
      · have h' := asym h
        simp [mput, e1, hne, h, h']
      · have h' := asym h
        simp [mput, e1, hne, Ne.symm hne, h, h']
    · by_cases e2 : y.1 = k2
      · rcases less_total hne with h | h
        · have h' := asym h
          simp [mput, e2, hne, Ne.symm hne, h, h']
        · have h' := asym h
          simp [mput, e2, hne, Ne.symm hne, h, h']
      · rcases less_total e1 with a | a <;> rcases less_total e2 with b | b
        · have a' := asym a
          have b' := asym b
          simp [mput, e1, e2, a, b, a', b', mput_comm v1 v2 hne r]
        · have a' := asym a
          have b' := asym b
          have c := less_trans b a
          have c' := asym c
          simp [mput, e1, e2, a, b, a', b', c, c', hne, Ne.symm hne]
        · have a' := asym a
          have b' := asym b
          have c := less_trans a b
          have c' := asym c
          simp [mput, e1, e2, a, b, a', b', c, c', hne, Ne.symm hne]
        · have a' := asym a
          have b' := asym b
          rcases less_total hne with c | c
          · have c' := asym c
            simp [mput, e1, e2, a, b, a', b', c, c', hne, Ne.symm hne]
          · have c' := asym c
            simp [mput, e1, e2, a, b, a', b', c, c', hne, Ne.symm hne]
def fill (v : Mp) (l : Mp) : Mp := l.foldl (fun m y => mput y.1 y.2 m) v
theorem apart_perm {α : Type} {l1 l2 : KV α} (hp : l1.Perm l2) (ha : Apart l1) : Apart l2 := (hp.pairwise_iff (fun h => Ne.symm h)).1 ha
theorem fill_perm {l1 l2 : Mp} (hp : l1.Perm l2) : ∀ (_ : Apart l1) (v : Mp), fill v l1 = fill v l2 := by
  induction hp with
  | nil => intro _ v; rfl
  | cons x _ ih => intro ha v; exact ih (List.pairwise_cons.1 ha).2 _
  | swap x y l =>
    intro ha v
    have hne := (List.pairwise_cons.1 ha).1 x List.mem_cons_self
    unfold fill; simp only [List.foldl_cons]; rw [mput_comm _ _ (Ne.symm hne)]
  | trans h1 _ ih1 ih2 => intro ha v; rw [ih1 ha, ih2 (apart_perm h1 ha)]
def okW (v : Vr) : Bool := decide (v.f_Words.length * 16 ≤ 140737488355328)
theorem apart_if (k : Nat) (v : Vr) : env_Var_apart.f k v = if okW v then some v else none := by
  unfold env_Var_apart.f pCloneR.f okW
  by_cases h : v.f_Words.length * 16 ≤ 140737488355328
  · rw [if_pos h]; simp [h]
  · rw [if_neg h]; simp [h]
theorem copy_loop (k : Nat) : ∀ (n : Nat) (v : Mp) (l : Mp), env_Env_Copy_m0.l7 k n v l = if l.length < n ∧ (l.all fun y => okW y.2) = true then some (fill v l) else none
  | 0, _, _ => by rw [if_neg (fun h => Nat.not_lt_zero _ h.1)]; cases ‹Mp› <;> rfl
  | n + 1, v, [] => by rw [if_pos ⟨by simp, rfl⟩]; rfl
  | n + 1, v, y :: l => by
    unfold env_Env_Copy_m0.l7
    rw [vr_eta, apart_if]
    by_cases h : l.length < n
    · rw [if_pos h]
      cases hy : okW y.2
      · rw [if_neg (by simp), if_neg (by simp [hy])]; rfl
      · rw [if_pos rfl, Option.bind_some, copy_loop k n]
        by_cases hl : (l.all fun y => okW y.2) = true
        · rw [if_pos ⟨h, hl⟩, if_pos ⟨by simpa using h, by rw [List.all_cons, hy, hl]; rfl⟩]; rfl
        · rw [if_neg (fun q => hl q.2), if_neg (fun q => hl (by have := q.2; rw [List.all_cons, hy] at this; simpa using this))]
    · rw [if_neg h, if_neg (fun q => h (by simpa using q.1))]
theorem env_Env_Copy_m0.l7_perm (k : Nat) {n : Nat} {l1 l2 : List ((List UInt8) × T_env_Var)} {v5 : List ((List UInt8) × T_env_Var)} {out : (List ((List UInt8) × T_env_Var))} (hp : l1.Perm l2) (ha : Apart l1) (h : env_Env_Copy_m0.l7 k n v5 l1 = some out) : env_Env_Copy_m0.l7 k n v5 l2 = some out := by
  rw [copy_loop] at h ⊢
  have e : (l1.all fun y => okW y.2) = (l2.all fun y => okW y.2) := by
    rw [Bool.eq_iff_iff, List.all_eq_true, List.all_eq_true]
    exact ⟨fun h x hx => h x (hp.mem_iff.2 hx), fun h x hx => h x (hp.mem_iff.1 hx)⟩
  rw [← hp.length_eq, ← fill_perm hp ha, ← e]; exact h
end Go.Proofs.YtnbnfjgedinlbabDoor
