/- A part of the proof of a given law: EPVC. Own work, printed in part by a program of mine. -/
import Derived.Test.YtnbnfjgedinlbabDoorK12EPVB
namespace Go.Proofs.YtnbnfjgedinlbabDoor
open Go Go.AM Go.ChangeShapes Go.ChangeAt Go.RowKit
set_option linter.unusedVariables false
set_option linter.unusedSimpArgs false
set_option maxRecDepth 100000
theorem same_loop (k : Nat) (l : List (List UInt8)) (hl : l.length ≤ 100000) : ∀ (m i n : Nat) (v : Int), v = (i : Int) → i + m = l.length → m < n → millwrightnum_SameTexts.l4 k l l n v = some (.inl ()) := by
  intro m
  induction m with
  | zero =>
    intro i n v hv hi hn; obtain ⟨n, rfl⟩ : ∃ m, n = m + 1 := ⟨n - 1, by omega⟩; subst hv
    unfold millwrightnum_SameTexts.l4; rw [if_neg (by simp; omega)]
  | succ m ih =>
    intro i n v hv hi hn; obtain ⟨n, rfl⟩ : ∃ m, n = m + 1 := ⟨n - 1, by omega⟩; subst hv
    have w1 : IntKind.i64.wrap ((i : Int) + 1) = ((i + 1 : Nat) : Int) := by rw [w64 (by omega) (by omega)]; omega
    unfold millwrightnum_SameTexts.l4
    rw [if_pos (by simp; omega), idx_at rfl (by omega), Option.bind_some, Option.bind_some, w1, ih (i + 1) n _ rfl (by omega) (by omega)]
    simp
theorem same_eq (k : Nat) (v : Vr) (hl : v.f_Words.length ≤ 1000) (hk : 1000 < k) : millwrightref14_Same.f k v v = some true := by
  unfold millwrightref14_Same.f millwrightnum_SameTexts.f millwrightnum_SameTexts.j2
  rw [same_loop k v.f_Words (by omega) v.f_Words.length 0 k 0 rfl (by omega) (by omega)]
  simp

/-! ### lists of variables -/
theorem list_loop (k : Nat) (m : Mp) (hg : Good m) (hm : m.length ≤ 1000) : ∀ (l : Mp) (fuel i : Nat) (out : List Vr), m.drop i = l → l.length < fuel → out.length ≤ i → env_Env_List_m0.l7 k m (m.map (·.1)) fuel out (i : Int) = some (out ++ vals l)
  | _, 0, _, _, _, h, _ => by omega
  | [], f + 1, i, out, hl, _, _ => by
    have := at_nil hl
    unfold env_Env_List_m0.l7
    rw [if_neg (by simp; omega)]; simp [vals]
  | y :: r, f + 1, i, out, hl, hf, ho => by
    obtain ⟨g1, g2, g3⟩ := at_drop hl
    have hy : y ∈ m := List.mem_of_mem_drop (hl ▸ List.mem_cons_self)
    have g1' : idx (m.map (·.1)) (i : Int) = some y.1 := by
      rw [idx_at rfl (by simpa using g3)] at g1 ⊢
      rw [List.getElem_map]; simp only [Option.some.injEq] at g1 ⊢; rw [g1]
    have hw := hg.words y hy
    have ih := list_loop k m hg hm r f (i + 1) (out ++ [y.2]) g2 (by simpa using hf) (by simp; omega)
    unfold env_Env_List_m0.l7
    rw [if_pos (by simp; exact g3), g1', Option.bind_some, wr1 (by omega), hg.get hy, Option.getD_some, apart_eq k (by omega), Option.bind_some, if_pos (lim_ok (by omega)), ih]; simp [vals]
theorem list_eq (k : Nat) (hk : 1000 < k) (m : Mp) (hg : Good m) (hm : m.length ≤ 1000) : env_Env_List_m0.f k m = some (vals m) := by
  unfold env_Env_List_m0.f env_Env_List_m0.j2 pKeys.f pSorted.f
  rw [Option.bind_some, if_pos ⟨by omega, List.all_eq_true.2 fun y hy => by
    have := hg.short y hy
    have h2 : 40 ≤ maxLen := by decide
    simp; omega⟩, Option.bind_some]
  have e0 : env_Env_List_m0.l7 k m (m.map (·.1)) k [] 0 = _ := list_loop k m hg hm m k 0 [] rfl (by omega) (by simp)
  rw [e0]; rfl
def keep (l : List Vr) : List Vr := l.filter fun v => !v.f_Hidden
def fh : List Vr → Nat → Sum Unit Int
  | [], _ => .inl ()
  | x :: r, i => if x.f_Hidden then .inr (i : Int) else fh r (i + 1)
theorem fh_spec : ∀ (l : List Vr) (i : Nat), (keep l = l ∧ fh l i = .inl ()) ∨ ∃ pre x post, l = pre ++ x :: post ∧ keep pre = pre ∧ x.f_Hidden = true ∧ fh l i = .inr ((i + pre.length : Nat) : Int)
  | [], i => .inl ⟨rfl, rfl⟩
  | x :: r, i => by
    unfold fh
    cases h : x.f_Hidden
    · rw [if_neg (by simp)]
      rcases fh_spec r (i + 1) with ⟨h1, h2⟩ | ⟨pre, z, post, h1, h2, h3, h4⟩
      · refine .inl ⟨?_, h2⟩
        unfold keep at h1 ⊢
        rw [List.filter_cons, if_pos (by simp [h]), h1]
      · refine .inr ⟨x :: pre, z, post, by rw [h1]; rfl, ?_, h3, by rw [h4, List.length_cons]; congr 2; omega⟩
        unfold keep at h2 ⊢
        rw [List.filter_cons, if_pos (by simp [h]), h2]
    · exact .inr ⟨[], x, r, rfl, rfl, h, rfl⟩
theorem fh_loop (k : Nat) (a : List Vr) (ha : a.length ≤ 100000) : ∀ (l : List Vr) (fuel i : Nat), a.drop i = l → l.length < fuel → env_Var_95_m0.l3 k a fuel (i : Int) = some (fh l i)
  | _, 0, _, _, h => by omega
  | [], f + 1, i, hl, _ => by
    have := at_nil hl
    unfold env_Var_95_m0.l3
    rw [if_neg (by simp; omega)]; rfl
  | x :: r, f + 1, i, hl, hf => by
    obtain ⟨g1, g2, g3⟩ := at_drop hl
    unfold env_Var_95_m0.l3 fh env_Env_Shown_1.f
    rw [if_pos (by simp; exact g3), g1, Option.bind_some, Option.bind_some, wr1 (by omega), fh_loop k a ha r f (i + 1) g2 (by simpa using hf)]
    cases x.f_Hidden <;> rfl
theorem del_loop (k : Nat) (a : List Vr) (ha : a.length ≤ 1000) : ∀ (r : List Vr) (fuel : Nat) (kp : List Vr) (g : Vr) (jk : List Vr), kp.length + (jk.length + (r.length + 1)) = a.length → r.length < fuel →
    ∃ jk2, env_Var_80_m0.l12 k a fuel (kp ++ g :: (jk ++ r)) (kp.length : Int) ((kp.length + (jk.length + 1) : Nat) : Int) = some ((kp ++ keep r) ++ jk2, ((kp ++ keep r).length : Int)) ∧ (kp ++ keep r).length + jk2.length = a.length
  | _, 0, _, _, _, _, h => by omega
  | [], f + 1, kp, g, jk, hl, _ => by
    unfold env_Var_80_m0.l12
    simp only [List.length_nil] at hl
    refine ⟨g :: jk, ?_, by simp [keep]; omega⟩
    rw [if_pos (by simp; omega), if_neg (by simp; omega)]; simp [keep]
  | y :: r, f + 1, kp, g, jk, hl, hf => by
    simp only [List.length_cons] at hl hf
    have hlen : (kp ++ g :: (jk ++ y :: r)).length = a.length := by simp; omega
    have hget : (kp ++ g :: (jk ++ y :: r))[0 + ((kp.length + (jk.length + 1) : Nat) : Int).toNat]? = some y := by
      rw [show 0 + ((kp.length + (jk.length + 1) : Nat) : Int).toNat = kp.length + (jk.length + 1) by omega, List.getElem?_append_right (by omega), show kp.length + (jk.length + 1) - kp.length = jk.length + 1 by omega, List.getElem?_cons_succ, List.getElem?_append_right (by omega)]
      simp
    unfold env_Var_80_m0.l12 env_Env_Shown_1.f
    rw [if_pos hlen, if_pos (by rw [decide_eq_true_eq]; omega), if_pos ⟨by omega, by omega⟩, hget, Option.bind_some, vr_eta, Option.bind_some]
    unfold env_Var_80_m0.j20
    have hw : IntKind.i64.wrap (((kp.length + (jk.length + 1) : Nat) : Int) + 1) = ((kp.length + ((jk.length + 1) + 1) : Nat) : Int) := by rw [wr1 (by omega)]; congr 1
    cases hh : y.f_Hidden
    · rw [if_pos (by simp), if_pos ⟨by omega, by omega⟩]
      have hg2 : (kp ++ g :: (jk ++ y :: r))[0 + (kp.length : Int).toNat]? = some g := by
        rw [show 0 + (kp.length : Int).toNat = kp.length by omega, List.getElem?_append_right (Nat.le_refl _), Nat.sub_self]; rfl
      have hu : upd (kp ++ g :: (jk ++ y :: r)) (0 + (kp.length : Int).toNat) y = kp ++ y :: (jk ++ y :: r) := by
        unfold upd
        rw [show 0 + (kp.length : Int).toNat = kp.length by omega, List.set_append_right _ _ (Nat.le_refl _), Nat.sub_self]; rfl
      rw [hg2, Option.bind_some, hu, if_pos (by simp; omega), wr1 (by omega), hw]
      have e3 : keep (y :: r) = y :: keep r := by unfold keep; rw [List.filter_cons, if_pos (by simp [hh])]
      cases jk with
      | nil =>
        simp only [List.length_nil] at hl ⊢
        obtain ⟨jk2, e1, e2⟩ := del_loop k a ha r f (kp ++ [y]) y [] (by rw [List.length_append, List.length_singleton, List.length_nil]; omega) (by omega)
        rw [show kp ++ [y] ++ y :: ([] ++ r) = kp ++ y :: ([] ++ y :: r) by simp, show (kp ++ [y]).length + (([] : List Vr).length + 1) = kp.length + (0 + 1 + 1) by simp, show (kp ++ [y]).length = kp.length + 1 by simp, show kp ++ [y] ++ keep r = kp ++ y :: keep r by simp] at e1
        rw [show kp ++ [y] ++ keep r = kp ++ y :: keep r by simp] at e2
        rw [e3]
        exact ⟨jk2, e1, e2⟩
      | cons z jk =>
        simp only [List.length_cons] at hl ⊢
        obtain ⟨jk2, e1, e2⟩ := del_loop k a ha r f (kp ++ [y]) z (jk ++ [y]) (by simp only [List.length_append, List.length_singleton]; omega) (by omega)
        rw [show kp ++ [y] ++ z :: (jk ++ [y] ++ r) = kp ++ y :: (z :: jk ++ y :: r) by simp, show (kp ++ [y]).length + ((jk ++ [y]).length + 1) = kp.length + (jk.length + 1 + 1 + 1) by simp; omega, show (kp ++ [y]).length = kp.length + 1 by simp, show kp ++ [y] ++ keep r = kp ++ y :: keep r by simp] at e1
        rw [show kp ++ [y] ++ keep r = kp ++ y :: keep r by simp] at e2
        rw [e3]
        exact ⟨jk2, e1, e2⟩
    · rw [if_neg (by simp), if_pos hlen, hw]
      obtain ⟨jk2, e1, e2⟩ := del_loop k a ha r f kp g (jk ++ [y]) (by simp only [List.length_append, List.length_singleton]; omega) (by omega)
      have e3 : keep (y :: r) = keep r := by unfold keep; rw [List.filter_cons, if_neg (by simp [hh])]
      rw [show kp ++ g :: (jk ++ [y] ++ r) = kp ++ g :: (jk ++ y :: r) by simp, show kp.length + ((jk ++ [y]).length + 1) = kp.length + (jk.length + 1 + 1) by simp] at e1
      rw [e3]
      exact ⟨jk2, e1, e2⟩
theorem delF_eq (k : Nat) (hk : 2000 < k) (a : List Vr) (ha : a.length ≤ 1000) : env_Var_80_m0.f k a = some (keep a) := by
  unfold env_Var_80_m0.f env_Var_95_m0.f env_Var_95_m0.j1
  have e0 : env_Var_95_m0.l3 k a k 0 = _ := fh_loop k a (by omega) a k 0 rfl (by omega)
  rw [e0, Option.bind_some]
  rcases fh_spec a 0 with ⟨h1, h2⟩ | ⟨pre, x, post, h1, h2, h3, h4⟩
  · rw [h1, h2]; rfl
  · rw [h4]
    simp only [Option.bind_some]
    rw [if_neg (by rw [beq_iff_eq]; omega), Nat.zero_add, wr1 (by rw [h1] at ha; simp at ha; omega)]
    obtain ⟨jk2, e1, e2⟩ := del_loop k a ha post k pre x [] (by rw [h1]; simp) (by rw [h1] at ha; simp at ha; omega)
    rw [show pre ++ x :: ([] ++ post) = a from h1.symm, show pre.length + (([] : List Vr).length + 1) = pre.length + 1 by simp] at e1
    have e3 : keep a = pre ++ keep post := by
      rw [h1]; unfold keep at h2 ⊢; rw [List.filter_append, List.filter_cons, if_neg (by simp [h3]), h2]
    have hlen : ((pre ++ keep post) ++ jk2).length = a.length := by rw [List.length_append]; exact e2
    rw [e1, Option.bind_some, if_pos hlen, e3]
    unfold env_Var_80_m0.j8
    simp only
    generalize hq : pre ++ keep post = q at *
    have tn : ((q.length : Nat) : Int).toNat = q.length := by omega
    have tk : (q ++ jk2).take (0 + q.length) = q := by rw [Nat.zero_add]; exact List.take_left
    rw [tn, tk, if_pos hlen, if_pos ⟨by omega, by omega, by omega⟩, if_pos (by omega), if_pos ⟨by omega, by omega, by omega⟩, List.take_length]
theorem shown_eq (k : Nat) (hk : 2000 < k) (m : Mp) (hg : Good m) (hm : m.length ≤ 1000) : env_Env_Shown_m0.f k m = some (keep (vals m)) := by
  unfold env_Env_Shown_m0.f
  rw [list_eq k (by omega) m hg hm, Option.bind_some, delF_eq k hk _ (by rw [vals_len]; exact hm)]; rfl

/-! ### what is shown -/
theorem keep_len (l : List Vr) : (keep l).length ≤ l.length := List.length_filter_le _ _
theorem shows_l8 (k : Nat) (hk : 2000 < k) (m : Mp) (w b : List Vr) (hb : b.length ≤ 1000) (hw : ∀ v ∈ b, v.f_Words.length ≤ 1000) : ∀ (l : List Vr) (fuel i : Nat), b.drop i = l → l.length < fuel → millwrightlaw14_Shows_m0.l8 k m w b b fuel (i : Int) = some (.inl ())
  | _, 0, _, _, h => by omega
  | [], f + 1, i, hl, _ => by
    have := at_nil hl
    unfold millwrightlaw14_Shows_m0.l8
    rw [if_neg (by simp; omega)]
  | x :: r, f + 1, i, hl, hf => by
    obtain ⟨g1, g2, g3⟩ := at_drop hl
    have hx : x ∈ b := List.mem_of_mem_drop (hl ▸ List.mem_cons_self)
    unfold millwrightlaw14_Shows_m0.l8
    rw [if_pos (by simp; exact g3), g1, Option.bind_some, rix g1, vr_eta, same_eq k x (hw x hx) (by omega), Option.bind_some, if_neg (by simp), wr1 (by omega)]
    exact shows_l8 k hk m w b hb hw r f (i + 1) g2 (by simpa using hf)
theorem shows_l22 (k : Nat) (hk : 2000 < k) (m : Mp) (b : List Vr) (hb : b.length ≤ 1000) (hw : ∀ v ∈ b, v.f_Words.length ≤ 1000) : ∀ (l : List Vr) (fuel i : Nat) (out : List Vr), b.drop i = l → l.length < fuel → out.length ≤ i →
    millwrightlaw14_Shows_m0.l22 k m b b fuel out (i : Int) = some (.inl (out ++ keep l))
  | _, 0, _, _, _, h, _ => by omega
  | [], f + 1, i, out, hl, _, _ => by
    have := at_nil hl
    unfold millwrightlaw14_Shows_m0.l22
    rw [if_neg (by simp; omega)]; simp [keep]
  | x :: r, f + 1, i, out, hl, hf, ho => by
    obtain ⟨g1, g2, g3⟩ := at_drop hl
    have hx : x ∈ b := List.mem_of_mem_drop (hl ▸ List.mem_cons_self)
    have ih := fun out h => shows_l22 k hk m b hb hw r f (i + 1) out g2 (by simpa using hf) h
    unfold millwrightlaw14_Shows_m0.l22 millwrightlaw14_Shows_m0.j28
    rw [if_pos (by simp; exact g3), rix g1, g1, Option.bind_some, vr_eta, same_eq k x (hw x hx) (by omega), Option.bind_some, if_neg (by simp), Option.bind_some, wr1 (by omega)]
    cases hh : x.f_Hidden
    · have e3 : keep (x :: r) = x :: keep r := by unfold keep; rw [List.filter_cons, if_pos (by simp [hh])]
      rw [if_pos (by simp), if_pos (lim_ok (by omega)), ih _ (by simp; omega), e3]; simp
    · have e3 : keep (x :: r) = keep r := by unfold keep; rw [List.filter_cons, if_neg (by simp [hh])]
      rw [if_neg (by simp), ih _ (by omega), e3]
theorem shows_eq (k : Nat) (hk : 2000 < k) (m : Mp) (hg : Good m) (hm : m.length ≤ 1000) : millwrightlaw14_Shows_m0.f k m (vals m) = some true := by
  unfold millwrightlaw14_Shows_m0.f millwrightlaw14_Shows_m0.j19 millwrightlaw14_Shows_m0.j6
  have hl := vals_len m
  have hw : ∀ v ∈ vals m, v.f_Words.length ≤ 1000 := fun v hv => by
    obtain ⟨y, hy, rfl⟩ := List.mem_map.1 hv
    have := hg.words y hy; omega
  have hkl := keep_len (vals m)
  have e0 : millwrightlaw14_Shows_m0.l22 k m (vals m) (vals m) k [] 0 = _ := shows_l22 k hk m (vals m) (by omega) hw (vals m) k 0 [] rfl (by omega) (by simp)
  have e1 : millwrightlaw14_Shows_m0.l8 k m (vals m) (keep (vals m)) (keep (vals m)) k 0 = _ := shows_l8 k hk m (vals m) (keep (vals m)) (by omega) (fun v hv => hw v (List.mem_filter.1 hv).1) (keep (vals m)) k 0 rfl (by omega)
  rw [list_eq k (by omega) m hg hm, Option.bind_some, if_neg (by simp), e0, List.nil_append]
  simp only [Option.bind_some]
  rw [shown_eq k hk m hg hm, Option.bind_some, if_neg (by simp), e1]; rfl
end Go.Proofs.YtnbnfjgedinlbabDoor
