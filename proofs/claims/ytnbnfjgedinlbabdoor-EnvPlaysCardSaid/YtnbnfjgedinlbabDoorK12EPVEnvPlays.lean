/- A part of the proof of a given law: EPVEnvPlays. Own work, printed in part by a program of mine. -/
import Derived.Test.YtnbnfjgedinlbabDoorK12EPVC
namespace Go.Proofs.YtnbnfjgedinlbabDoor
open Go Go.AM Go.ChangeShapes Go.ChangeAt Go.RowKit
set_option linter.unusedVariables false
set_option linter.unusedSimpArgs false
set_option maxRecDepth 100000
/-! ### too long, or not -/
theorem nlong_eq (k : Nat) (a : List (List UInt8)) (m q : Int) (hm : m ≤ 1000) (hk : 1000 < k) : ∃ b, millwrightnum_Long.f k a m q = some b ∧ (b = false → (a.length : Int) ≤ m) := by
  unfold millwrightnum_Long.f
  by_cases h : decide ((a.length : Int) > m) = true
  · rw [if_pos h]; exact ⟨true, rfl, fun e => by cases e⟩
  · rw [if_neg h]
    have hlen : (a.length : Int) ≤ m := by simpa using h
    have loop : ∀ (l : List (List UInt8)) (fuel i : Nat), a.drop i = l → l.length < fuel → ∃ o, millwrightnum_Long.l4 k a q fuel (i : Int) = some o := by
      intro l
      induction l with
      | nil =>
        intro fuel i hl hf
        obtain ⟨f, rfl⟩ : ∃ f, fuel = f + 1 := ⟨fuel - 1, by omega⟩
        have := at_nil hl
        unfold millwrightnum_Long.l4
        exact ⟨.inl (), by rw [if_neg (by simp; omega)]⟩
      | cons x r ih =>
        intro fuel i hl hf
        obtain ⟨f, rfl⟩ : ∃ f, fuel = f + 1 := ⟨fuel - 1, by omega⟩
        obtain ⟨g1, g2, g3⟩ := at_drop hl
        unfold millwrightnum_Long.l4
        rw [if_pos (by simp; exact g3), g1, Option.bind_some]
        by_cases h : decide ((x.length : Int) > q) = true
        · rw [if_pos h]; exact ⟨_, rfl⟩
        · rw [if_neg h, wr1 (by omega)]
          exact ih f (i + 1) g2 (by simpa using hf)
    obtain ⟨o, ho⟩ := loop a k 0 rfl (by omega)
    have ho' : millwrightnum_Long.l4 k a q k 0 = some o := ho
    rw [ho', Option.bind_some]
    cases o with
    | inl u => exact ⟨_, rfl, fun _ => hlen⟩
    | inr u => exact ⟨_, rfl, fun _ => hlen⟩
def okA (a : Ac) : Prop := a.f_Var.f_Name.length ≤ 60 ∧ a.f_Var.f_Words.length ≤ 60
theorem long_loop (k : Nat) (hk : 1000 < k) (a : List Ac) (ha : a.length ≤ 1000) : ∀ (l : List Ac) (fuel i : Nat), a.drop i = l → l.length < fuel →
    ∃ o, millwrightlaw14_Long.l4 k a fuel (i : Int) = some o ∧ ((o = .inl () ∧ ∀ x ∈ l, okA x) ∨ o = .inr true)
  | _, 0, _, _, h => by omega
  | [], f + 1, i, hl, _ => by
    have := at_nil hl
    unfold millwrightlaw14_Long.l4
    exact ⟨.inl (), by rw [if_neg (by simp; omega)], .inl ⟨rfl, fun x hx => by cases hx⟩⟩
  | x :: r, f + 1, i, hl, hf => by
    obtain ⟨g1, g2, g3⟩ := at_drop hl
    unfold millwrightlaw14_Long.l4 millwrightlaw14_Long.j12 millwrightlaw14_Long.j8
    rw [if_pos (by simp; exact g3), g1, Option.bind_some]
    by_cases h : decide ((x.f_Var.f_Name.length : Int) > 60) = true
    · rw [if_pos h, if_pos rfl]; exact ⟨_, rfl, .inr rfl⟩
    · rw [if_neg h]
      obtain ⟨b, e1, e2⟩ := nlong_eq k x.f_Var.f_Words 60 200 (by omega) hk
      rw [e1, Option.bind_some]
      cases b with
      | true => exact ⟨_, rfl, .inr rfl⟩
      | false =>
        rw [if_neg (by decide), wr1 (by omega)]
        obtain ⟨o, o1, o2⟩ := long_loop k hk a ha r f (i + 1) g2 (by simpa using hf)
        refine ⟨o, o1, ?_⟩
        rcases o2 with ⟨o2, o3⟩ | o2
        · refine .inl ⟨o2, fun y hy => ?_⟩
          rcases List.mem_cons.1 hy with rfl | hy
          · have := e2 rfl
            simp at h
            exact ⟨by omega, by omega⟩
          · exact o3 y hy
        · exact .inr o2
theorem long_f (k : Nat) (hk : 1000 < k) (a : List Ac) (m : Int) (hm : m ≤ 60) : ∃ b, millwrightlaw14_Long.f k a m = some b ∧ (b = false → (a.length : Int) ≤ m ∧ ∀ x ∈ a, okA x) := by
  unfold millwrightlaw14_Long.f
  by_cases h : decide ((a.length : Int) > m) = true
  · rw [if_pos h]; exact ⟨true, rfl, fun e => by cases e⟩
  · rw [if_neg h]
    have hlen : (a.length : Int) ≤ m := by simpa using h
    obtain ⟨o, o1, o2⟩ := long_loop k hk a (by omega) a k 0 rfl (by omega)
    have o1' : millwrightlaw14_Long.l4 k a k 0 = some o := o1
    rw [o1', Option.bind_some]
    rcases o2 with ⟨rfl, o3⟩ | rfl
    · exact ⟨false, rfl, fun _ => ⟨hlen, o3⟩⟩
    · exact ⟨true, rfl, fun e => by cases e⟩

theorem num_eq : ∀ e : Fin 19, millwrightnum_Num.f 4000 e.val = some (e.val : Int) := by decide +kernel
theorem num_e {e : Nat} (h : e ≤ 18) : millwrightnum_Num.f 4000 e = some (e : Int) := num_eq ⟨e, by omega⟩
def marks : List (List UInt8) := [[1], [2], [3]]
theorem texts_f (k : Nat) (l : List (List UInt8)) (h : l.length ≤ 1000) : millwrightnum_Texts.f k l = some (l ++ marks, l.length) := by
  have hw : IntKind.i64.wrap ((l.length : Int) + 3) = ((l.length + 3 : Nat) : Int) := by rw [w64 (by omega) (by omega)]; rfl
  unfold millwrightnum_Texts.f
  rw [hw]
  simp only [Int.toNat_natCast, Int.toNat_zero, List.take_zero, List.nil_append, Nat.zero_add, List.length_replicate]
  have h1 : (List.replicate (l.length + 3) ([] : List UInt8)).drop l.length = [[], [], []] := by
    rw [List.drop_replicate, show l.length + 3 - l.length = 3 by omega]; rfl
  rw [h1, if_pos ⟨by omega, by omega, by unfold LIM; omega⟩, if_pos ⟨by omega, by omega⟩, if_pos (by simp), if_pos ⟨by omega, by omega, by simp⟩]
  congr 2
  rw [List.take_left' rfl, List.drop_of_length_le (by simp)]
  simp [marks]

theorem sameT_eq (k : Nat) (l : List (List UInt8)) (hl : l.length ≤ 1000) (hk : 1000 < k) : millwrightnum_SameTexts.f k l l = some true := by
  unfold millwrightnum_SameTexts.f millwrightnum_SameTexts.j2
  rw [same_loop k l (by omega) l.length 0 k 0 rfl (by omega) (by omega)]
  simp
theorem kept_f (l : List (List UInt8)) (h : l.length ≤ 100) : millwrightnum_KeptTexts_m0.f 4000 (l ++ marks) l.length l = some true := by
  have hw : ∀ j : Int, 0 ≤ j → j ≤ 3 → IntKind.i64.wrap ((l.length : Int) + j) = (l.length : Int) + j := fun j h0 h3 => w64 (by omega) (by omega)
  have hlen : (l ++ marks).length = l.length + 3 := by simp [marks]
  have hg : ∀ (j : Nat) (hj : j < 3), (l ++ marks)[l.length + j]? = marks[j]? := fun j hj => by
    rw [List.getElem?_append_right (by omega)]; congr 1; omega
  unfold millwrightnum_KeptTexts_m0.f
  simp only [Nat.sub_zero, Int.toNat_natCast, Nat.zero_add, List.drop_zero]
  rw [hlen, hw 3 (by omega) (by omega), if_pos ⟨by omega, by omega, by omega⟩, if_neg (by simp), if_pos ⟨by omega, by omega, by omega⟩, if_pos (by omega), List.take_left' rfl, sameT_eq 4000 l (by omega) (by omega)]
  simp only [Option.bind_some]
  unfold millwrightnum_KeptTexts_m0.j13 millwrightnum_KeptTexts_m0.j10
  simp only [Bool.not_true, Bool.false_eq_true, if_false, Nat.sub_zero, Int.toNat_natCast, Nat.zero_add]
  have g0 := hg 0 (by omega)
  have g1 := hg 1 (by omega)
  have g2 := hg 2 (by omega)
  have t1 : ((l.length : Int) + 1).toNat = l.length + 1 := by omega
  have t2 : ((l.length : Int) + 2).toNat = l.length + 2 := by omega
  rw [hlen, if_pos ⟨by omega, by omega⟩, show (l ++ marks)[l.length]? = some [1] from g0]
  simp only [Option.bind_some, beq_self_eq_true, if_true]
  rw [hw 1 (by omega) (by omega), t1, if_pos ⟨by omega, by omega⟩, g1]
  simp only [marks, List.getElem?_cons_succ, List.getElem?_cons_zero, Option.bind_some, beq_self_eq_true, if_true]
  rw [hw 2 (by omega) (by omega), t2, if_pos ⟨by omega, by omega⟩, show (l ++ [[1], [2], [3]])[l.length + 2]? = some [3] from g2]
  rfl

/-! ### the law -/
theorem turn_loop (k : Nat) (a : List Ac) (v8 : List Vr) (v9 : Int) (x : Ac) (m0 m : Mp) (w : List Vr) (row : List (List UInt8)) (n : Nat) (hn : n ≤ row.length) (hl : n ≤ 1000) : ∀ (c fuel i : Nat) (l : List (List UInt8)), l.length = row.length → i + c = n → c < fuel →
    ∃ o, millwrightlaw14_EnvPlays.l57 k a v8 v9 x m0 (row, n) m w fuel l (i : Int) = some o ∧ o.length = row.length
  | _, 0, _, _, _, _, h => by omega
  | 0, f + 1, i, l, hr, hi, _ => by
    unfold millwrightlaw14_EnvPlays.l57
    exact ⟨l, by rw [if_pos hr, if_neg (by simp; omega)], hr⟩
  | c + 1, f + 1, i, l, hr, hi, hf => by
    obtain ⟨o, e1, e2⟩ := turn_loop k a v8 v9 x m0 m w row n hn hl c f (i + 1) (upd l (0 + (i : Int).toNat) [99, 104, 97, 110, 103, 101, 100]) (by rw [upd_length]; exact hr) (by omega) (by omega)
    refine ⟨o, ?_, e2⟩
    have hg : l[0 + (i : Int).toNat]? = some (l[i]'(by omega)) := by rw [show 0 + (i : Int).toNat = i by omega, List.getElem?_eq_getElem]
    unfold millwrightlaw14_EnvPlays.l57
    rw [if_pos hr, if_pos (by simp; omega), if_pos ⟨by omega, by simp; omega⟩, hg, Option.bind_some, wr1 (by omega), e1]
theorem j51_eq (rec : Mp → List Vr → Int → Option (Sum Unit Bool)) (a : List Ac) (i : Nat) (hi : i < 1000) (x : Ac) (m m' : Mp) (hg : Good m) (hg' : Good m') (hm : m.length ≤ 500) (hm' : m'.length ≤ 500) (row o : List (List UInt8)) (n : Nat) (ho : o.length = row.length) :
    millwrightlaw14_EnvPlays.j51 4000 rec a (vals m) (i : Int) x m (row, n) m' (vals m') o = rec m' (vals m') ((i + 1 : Nat) : Int) := by
  have hv := vals_len m'
  have h39 : ∀ b, b = false → millwrightlaw14_EnvPlays.j39 4000 rec a (vals m) (i : Int) m m' (vals m') b = rec m' (vals m') ((i + 1 : Nat) : Int) := fun b hb => by
    subst hb
    unfold millwrightlaw14_EnvPlays.j39 millwrightlaw14_EnvPlays.j36 millwrightlaw14_EnvPlays.j32 millwrightlaw14_EnvPlays.j16
    rw [if_neg (by simp), shows_eq 4000 (by omega) m' hg' (by omega), Option.bind_some, if_neg (by simp), shows_eq 4000 (by omega) m hg (by omega), Option.bind_some, if_neg (by simp), wr1 (by omega)]
  unfold millwrightlaw14_EnvPlays.j51 millwrightref14_Env_Get_m0.f
  rw [if_pos ho, find_eq 4000 m' hg', Option.bind_some, at_eq 4000 _ _ (by omega) (by omega), Option.bind_some, get_eq 4000 m' hg']
  rcases atI_spec x.f_Var.f_Name m' hg'.keyed with ⟨q1, q2⟩ | ⟨v, j, q1, q2, q3⟩
  · rw [q1, q2]
    simp only [Option.isSome_none, Option.getD_none, Option.bind_some]
    rw [if_neg (by decide), if_neg (by decide), if_pos (by decide), Option.bind_some]
    have e : (vr0).f_Words = [] := rfl
    rw [e, sameT_eq 4000 [] (by simp) (by omega), Option.bind_some]
    exact h39 _ rfl
  · have hj : j < (vals m').length := by
      rcases Nat.lt_or_ge j (vals m').length with h | h
      · exact h
      · rw [List.getElem?_eq_none_iff.2 h] at q3; cases q3
    have e3 : (vals m')[j] = v := by rw [List.getElem?_eq_getElem hj] at q3; exact Option.some.inj q3
    have hw := hg'.words _ (mget_mem q1)
    simp only at hw
    rw [q1, q2]
    simp only [Option.isSome_some, Option.getD_some, Option.bind_some, if_true]
    rw [if_neg (by simp), idx_at rfl hj, Option.bind_some, e3, vr_eta, same_eq 4000 v (by omega) (by omega), Option.bind_some, if_neg (by decide), if_neg (by rw [decide_eq_true_eq]; omega), Option.bind_some, Option.bind_some, sameT_eq 4000 _ (by omega) (by omega), Option.bind_some]
    exact h39 _ rfl
theorem plays_loop (a : List Ac) (ha : a.length ≤ 60) : ∀ (l : List Ac) (fuel i : Nat) (m : Mp), a.drop i = l → l.length < fuel → m.length ≤ i → Good m → (∀ x ∈ l, okA x) →
    millwrightlaw14_EnvPlays.l10 4000 a fuel m (vals m) (i : Int) = some (.inl ())
  | _, 0, _, _, _, h, _, _, _ => by omega
  | [], f + 1, i, m, hl, _, _, _, _ => by
    have := at_nil hl
    unfold millwrightlaw14_EnvPlays.l10
    rw [if_neg (by simp; omega)]
  | x :: r, f + 1, i, m, hl, hf, hm, hg, hp => by
    obtain ⟨g1, g2, g3⟩ := at_drop hl
    obtain ⟨p1, p2⟩ := hp x List.mem_cons_self
    have ih := fun m' h1 h2 => plays_loop a ha r f (i + 1) m' g2 (by simpa using hf) h1 h2 fun y hy => hp y (List.mem_cons_of_mem _ hy)
    have fin : ∀ (m' : Mp) (o : List (List UInt8)), Good m' → m'.length ≤ m.length + 1 → o.length = (x.f_Var.f_Words ++ marks).length → millwrightlaw14_EnvPlays.j51 4000 (millwrightlaw14_EnvPlays.l10 4000 a f) a (vals m) (i : Int) x m (x.f_Var.f_Words ++ marks, x.f_Var.f_Words.length) m' (vals m') o = some (.inl ()) := fun m' o h1 h2 h3 => by
      rw [j51_eq _ a i (by omega) x m m' hg h1 (by omega) (by omega) _ o _ h3]
      exact ih m' (by omega) h1
    have hcut : ((x.f_Var.f_Words ++ marks).drop 0).take x.f_Var.f_Words.length = x.f_Var.f_Words := by simp
    have hmk : (x.f_Var.f_Words ++ marks).length = x.f_Var.f_Words.length + 3 := by simp [marks]
    have hset := set_eq 4000 (by omega) m x.f_Var (x.f_Var.f_Words ++ marks) (by omega) hcut (by omega) (by omega)
    unfold millwrightlaw14_EnvPlays.l10
    rw [if_pos (by simp; exact g3), g1, Option.bind_some, copy_eq 4000 (by omega) m (by omega) hg, Option.bind_some, texts_f 4000 _ (by omega), Option.bind_some]
    simp only
    rw [if_pos (by omega), hcut, vr_eta, check_eq 4000 (by omega) _ (by omega) (by omega), Option.bind_some, num_e (chk_le _), Option.bind_some, rcheck_eq 4000 (by omega) _ (by omega) (by omega), Option.bind_some, if_neg (by simp), hset, Option.bind_some, num_e (setS_le _ _), Option.bind_some, rset_eq 4000 (by omega) m hg (by omega) _ (by omega) (by omega), Option.bind_some, runset_eq 4000 m _ (by omega) (by omega) hg]
    unfold env_Env_Unset_m0.f
    rw [Option.bind_some, Option.bind_some]
    split
    · rw [if_neg (by simp), kept_f _ (by omega), Option.bind_some]
      unfold millwrightlaw14_EnvPlays.j70 millwrightlaw14_EnvPlays.j65
      rw [if_neg (by simp)]
      obtain ⟨o, e1, e2⟩ := turn_loop 4000 a (vals m) (i : Int) x m (setS m x.f_Var).2 (vals (setS m x.f_Var).2) (x.f_Var.f_Words ++ marks) x.f_Var.f_Words.length (by omega) (by omega) x.f_Var.f_Words.length 4000 0 (x.f_Var.f_Words ++ marks) rfl (by omega) (by omega)
      have e1 : millwrightlaw14_EnvPlays.l57 4000 a (vals m) (i : Int) x m (x.f_Var.f_Words ++ marks, x.f_Var.f_Words.length) (setS m x.f_Var).2 (vals (setS m x.f_Var).2) 4000 (x.f_Var.f_Words ++ marks) 0 = some o := e1
      simp only
      rw [e1, Option.bind_some, if_pos e2]
      exact fin _ o (hg.set _) (setS_len _ _) e2
    · split
      · rw [if_neg (by simp)]
        exact fin (mdel x.f_Var.f_Name m) _ (hg.del _) (Nat.le_trans (mdel_len x.f_Var.f_Name m) (Nat.le_succ _)) rfl
      · exact fin m _ hg (by omega) rfl
theorem envPlays_true (a0 : List Ac) (_ : Wf Un (.list (.named 4)) a0) : ∃ k, millwrightlaw14_EnvPlays.f k a0 = some true := by
  refine ⟨4000, ?_⟩
  have ali : millwrightlaw14_alive.f 4000 = some true := by decide +kernel
  unfold millwrightlaw14_EnvPlays.f env_New.f millwrightlaw14_EnvPlays.j6
  rw [ali, Option.bind_some, if_neg (by decide)]
  obtain ⟨b, e1, e2⟩ := long_f 4000 (by omega) a0 60 (by omega)
  rw [e1, Option.bind_some]
  cases b with
  | true => rfl
  | false =>
    obtain ⟨h1, h2⟩ := e2 rfl
    rw [if_neg (by decide), Option.bind_some]
    have ho : millwrightlaw14_EnvPlays.l10 4000 a0 4000 [] [] 0 = _ := plays_loop a0 (by omega) a0 4000 0 [] rfl (by omega) (by simp) .nil h2
    rw [ho]; rfl
end Go.Proofs.YtnbnfjgedinlbabDoor
