/- The law EffectTouches, without any program in sight. -/
import Derived.Test.YtcblgpcgdihcbaaGreatDoorK19ETVQ
namespace Go.Proofs.YtcblgpcgdihcbaaGreatDoor
open Go Go.AM Go.ChangeShapes Go.ChangeAt Go.RowKit
set_option linter.unusedVariables false
set_option linter.unusedSimpArgs false
set_option maxRecDepth 100000
namespace St
def touch (n : Tx) : Ef := T_effect_Effect.mk 2 n []
theorem touches_loop (k : Nat) (a : List Tx) (ha : a.length ≤ 1000) : ∀ (l : List Tx) (fuel i : Nat) (out : List Ef), a.drop i = l → l.length < fuel → out.length ≤ i → effect_Touches.l5 k a fuel out (i : Int) = some (out ++ l.map touch)
  | _, 0, _, _, _, h, _ => by omega
  | [], f + 1, i, out, hl, _, _ => by
    have := Tr.at_nil hl
    unfold effect_Touches.l5
    rw [if_neg (by simp; omega)]; simp
  | x :: r, f + 1, i, out, hl, hf, ho => by
    obtain ⟨g1, g2, g3⟩ := Tr.at_drop hl
    have ih := touches_loop k a ha r f (i + 1) (out ++ [touch x]) g2 (by simpa using hf) (by simp; omega)
    unfold effect_Touches.l5
    rw [if_pos (by simp; exact g3), g1, Option.bind_some, Tr.wr1 (by omega), if_pos (Ar.lim_ok (by omega))]
    rw [show T_effect_Effect.mk 2 x [] = touch x from rfl, ih]; simp
theorem touches_eq (k : Nat) (hk : 1000 < k) (a : List Tx) (ha : a.length ≤ 1000) : effect_Touches.f k a = some (a.map touch) := by
  unfold effect_Touches.f effect_Touches.j2
  have e0 : effect_Touches.l5 k a k [] 0 = _ := touches_loop k a ha a k 0 [] rfl (by omega) (by simp)
  rw [e0]; rfl
theorem chk_touch (n : Tx) : chkS (touch n) = 0 := by
  unfold chkS touch
  simp
theorem do_touch (m : Mp) (t : Int) (n : Tx) : doS m t (touch n) = setS m n t := by
  unfold doS
  rw [chk_touch]
  simp [touch]
def timed (t : Int) (m : Mp) (n : Tx) : Prop := ∃ f, mget n m = some f ∧ f.f_Time = t
theorem timed_set {t : Int} {m : Mp} {n o : Tx} (h : timed t m o) : timed t (setS m n t).2 o := by
  rcases setS_cases m n t with ⟨f, e, hf, _⟩ | ⟨e, _⟩
  · rw [e]
    by_cases h0 : (Tr.putS m f).1 = 0
    · rw [put_done h0]
      by_cases hn : o = f.f_Name
      · subst hn; exact ⟨f, mget_put_same _ _ _, hf⟩
      · unfold timed; rw [mget_put_ne _ hn]; exact h
    · rw [put_fail h0]; exact h
  · rw [e]; exact h
theorem timed_own {t : Int} {m : Mp} {n : Tx} (hm : (memS n).2.2 = false) (h0 : (setS m n t).1 = 0) : timed t (setS m n t).2 n := by
  unfold setS at h0 ⊢
  rw [hm, if_neg (by decide)] at h0 ⊢
  rw [put_done h0]
  exact ⟨_, mget_put_same _ _ _, rfl⟩
theorem app_touch (t : Int) : ∀ (r : List Tx) (i : Nat) (m : Mp), i ≤ (appS t (r.map touch) i m).1 ∧ (appS t (r.map touch) i m).1 ≤ i + r.length ∧ ((appS t (r.map touch) i m).1 = i + r.length ↔ (appS t (r.map touch) i m).2.1 = 0) ∧
      (∀ o, timed t m o → timed t (appS t (r.map touch) i m).2.2 o) ∧ ∀ j n, r[j]? = some n → i + j < (appS t (r.map touch) i m).1 → (memS n).2.2 = false → timed t (appS t (r.map touch) i m).2.2 n
  | [], i, m => ⟨Nat.le_refl _, Nat.le_refl _, ⟨fun _ => rfl, fun _ => rfl⟩, fun o h => h, fun j n h => by simp at h⟩
  | x :: r, i, m => by
    rw [List.map_cons]
    unfold appS
    rw [do_touch]
    by_cases h0 : (setS m x t).1 = 0
    · rw [if_pos h0]
      obtain ⟨h1, h2, h3, h4, h5⟩ := app_touch t r (i + 1) (setS m x t).2
      refine ⟨by omega, by simp; omega, ?_, fun o ho => h4 o (timed_set ho), fun j n hj hlt hm => ?_⟩
      · rw [← h3]; simp; omega
      · cases j with
        | zero =>
          rw [List.getElem?_cons_zero] at hj
          cases hj
          exact h4 _ (timed_own hm h0)
        | succ j =>
          rw [List.getElem?_cons_succ] at hj
          exact h5 j n hj (by omega) hm
    · rw [if_neg h0]
      refine ⟨Nat.le_refl _, by simp, ?_, fun o ho => timed_set ho, fun j n hj hlt => by omega⟩
      simp only [List.length_cons]
      exact ⟨fun h => by omega, fun h => absurd h h0⟩
theorem touch_loop (k : Nat) (hk : 4000 ≤ k) (a : List Tx) (t : Int) (m : Mp) (n e : Nat) (ha : a.length ≤ 1000) (hn : ∀ x ∈ a, x.length ≤ 1000) (h : ∀ j x, a[j]? = some x → j < n → (memS x).2.2 = false → timed t m x) : ∀ (r : List Tx) (fuel i : Nat), a.drop i = r → r.length < fuel →
    millwrightlaw05_EffectTouches.l12 k a t (a.map touch) ((n : Int), e, m) fuel (i : Int) = some (.inl ())
  | _, 0, _, _, h => by omega
  | [], f + 1, i, hd, _ => by
    have := Tr.at_nil hd
    unfold millwrightlaw05_EffectTouches.l12
    rw [if_neg (by simp; omega)]
  | x :: r, f + 1, i, hd, hf => by
    obtain ⟨g1, g2, g3⟩ := Tr.at_drop hd
    have hx : x ∈ a := List.mem_of_mem_drop (hd ▸ List.mem_cons_self)
    have ih := touch_loop k hk a t m n e ha hn h r f (i + 1) g2 (by simpa using hf)
    have g1' : idx (a.map touch) (i : Int) = some (touch x) := by
      rw [idx_at rfl (by simpa using g3)] at g1 ⊢
      rw [List.getElem_map]; simp only [Option.some.injEq] at g1 ⊢; rw [g1]
    have hx2 : a[i]? = some x := by
      rw [idx_at rfl g3] at g1
      rw [List.getElem?_eq_getElem g3]; exact g1
    unfold millwrightlaw05_EffectTouches.l12 millwrightlaw05_EffectTouches.j23 millwrightlaw05_EffectTouches.j16
    rw [if_pos (by simp; exact g3), g1', Option.bind_some, g1, Option.bind_some, if_neg (by simp [touch])]
    have e1 : (touch x).f_Name = x := rfl
    rw [e1, rmem_eq k x (hn x hx) (by omega), Option.bind_some, Tr.wr1 (by omega), ih]
    simp only
    by_cases hi : (i : Int) < (n : Int)
    · rw [if_pos (by simpa using hi)]
      cases hm : (memS x).2.2 with
      | true => rw [if_neg (by decide), if_neg (by decide)]
      | false =>
        obtain ⟨f', q1, q2⟩ := h i x hx2 (by omega) hm
        unfold tree_Tree_Time_m0.f
        rw [if_pos (by decide), q1, Option.bind_some, Option.getD_some, q2, if_neg (by simp)]
    · rw [if_neg (by simpa using hi), if_neg (by decide)]
end St
theorem effectTouches_true (a0 : List (List UInt8)) (a1 : Int) (_ : Wf Un (.list .str) a0) (_ : Wf Un (.int .i64) a1) : ∃ k, millwrightlaw05_EffectTouches.f k a0 a1 = some true := by
  refine ⟨4000, ?_⟩
  have ali : millwrightlaw05_alive.f 4000 = some true := by decide +kernel
  unfold millwrightlaw05_EffectTouches.f
  rw [ali, Option.bind_some, if_neg (by decide)]
  obtain ⟨b, e1, e2⟩ := St.tlong_f 4000 (by omega) a0 12 100 (by omega)
  rw [e1, Option.bind_some]
  cases b with
  | true => rfl
  | false =>
    obtain ⟨l1, l2⟩ := e2 rfl
    have l2' : ∀ x ∈ a0, x.length ≤ 1000 := fun x hx => by have := l2 x hx; omega
    rw [if_neg (by decide), St.touches_eq 4000 (by omega) a0 (by omega), Option.bind_some, if_neg (by simp)]
    unfold tree_New.f
    rw [Option.bind_some, St.app_eq 4000 (by omega) a1 (a0.map St.touch) (by simp; omega) (fun e he => by
      obtain ⟨x, hx, rfl⟩ := List.mem_map.1 he
      exact l2' x hx) [] St.Bound.nil, Option.bind_some]
    obtain ⟨h1, h2, h3, h4, h5⟩ := St.app_touch a1 a0 0 []
    have e : millwrightlaw05_EffectTouches.l12 4000 a0 a1 (a0.map St.touch) (((St.appS a1 (a0.map St.touch) 0 []).1 : Int), (St.appS a1 (a0.map St.touch) 0 []).2) 4000 0 = _ := St.touch_loop 4000 (by omega) a0 a1 _ _ _ (by omega) l2' (fun j x hj hlt hm => h5 j x hj (by omega) hm) a0 4000 0 rfl (by omega)
    rw [e, Option.bind_some]
    unfold millwrightlaw05_EffectTouches.j10
    simp only
    rw [Nat.zero_add] at h2 h3
    have e3 : ((((St.appS a1 (a0.map St.touch) 0 []).1 : Int) == ((a0.map St.touch).length : Int)) == ((St.appS a1 (a0.map St.touch) 0 []).2.1 == 0)) = true := by
      rw [beq_iff_eq, Bool.eq_iff_iff]
      simp only [beq_iff_eq, List.length_map]
      rw [← h3]
      omega
    rw [e3, if_pos rfl]
    simp; omega
end Go.Proofs.YtcblgpcgdihcbaaGreatDoor
