/- A part of the proof of a given law: ESVEnvStays. Own work, printed in part by a program of mine. -/
import Derived.Test.YtnbnfjgedinlbaaDoorK4ESF
import Derived.Test.YtnbnfjgedinlbaaDoorK4AmQ
import Derived.Test.YtnbnfjgedinlbaaDoorK4AmP
namespace Go.Proofs.YtnbnfjgedinlbaaDoor
open Go Go.AM Go.ChangeShapes Go.ChangeAt Go.RowKit
set_option linter.unusedVariables false
set_option linter.unusedSimpArgs false
set_option maxRecDepth 100000
theorem at_drop {α : Type} {l r : List α} {i : Nat} {x : α} (h : l.drop i = x :: r) : idx l (i : Int) = some x ∧ l.drop (i + 1) = r ∧ i < l.length := by
  have hi : i < l.length := by
    rcases Nat.lt_or_ge i l.length with h' | h'
    · exact h'
    · rw [List.drop_of_length_le h'] at h; cases h
  rw [List.drop_eq_getElem_cons hi] at h
  injection h with h1 h2
  exact ⟨by rw [idx_at rfl hi, h1], h2, hi⟩
theorem at_nil {α : Type} {l : List α} {i : Nat} (h : l.drop i = []) : l.length ≤ i := by
  have := congrArg List.length h
  simp at this; omega
theorem wr1 {i : Nat} (h : i < 1000000) : IntKind.i64.wrap ((i : Int) + 1) = ((i + 1 : Nat) : Int) := by rw [w64 (by omega) (by omega)]; rfl

def letB (b : UInt8) : Bool := (lex_letter.f 0 (b.toNat : Int)).getD false
theorem let_eq (k : Nat) (b : UInt8) : lex_letter.f k (b.toNat : Int) = some (letB b) := by
  have : ∃ x, lex_letter.f k (b.toNat : Int) = some x := by
    unfold lex_letter.f
    (repeat' split) <;> exact ⟨_, rfl⟩
  obtain ⟨x, hx⟩ := this
  have h0 : lex_letter.f 0 (b.toNat : Int) = some x := hx
  unfold letB
  rw [hx, h0]; rfl
/-- A place in a text, and what comes from there on. -/
def At (s : List UInt8) (i : Int) (r : List UInt8) : Prop := ∃ n : Nat, i = n ∧ n ≤ s.length ∧ s.drop n = r
theorem At.step {s : List UInt8} {i : Int} {b : UInt8} {r : List UInt8} (hs : s.length ≤ 100000) (h : At s i (b :: r)) : At s (IntKind.i64.wrap (i + 1)) r ∧ idx s i = some b ∧ i < s.length := by
  obtain ⟨n, rfl, h1, h2⟩ := h
  obtain ⟨g1, g2, g3⟩ := at_drop h2
  exact ⟨⟨n + 1, wr1 (by omega), by omega, g2⟩, g1, by omega⟩
theorem At.nil {s : List UInt8} {i : Int} (h : At s i []) : ¬ i < s.length := by
  obtain ⟨n, rfl, h1, h2⟩ := h
  have := at_nil h2
  omega
theorem At.len {s : List UInt8} {i : Int} {r : List UInt8} (h : At s i r) : r.length ≤ s.length := by
  obtain ⟨n, rfl, h1, h2⟩ := h
  rw [← h2]; simp
theorem tw_app (p : UInt8 → Bool) : ∀ r : List UInt8, r.takeWhile p ++ r.dropWhile p = r
  | [] => rfl
  | x :: r => by
    cases h : p x
    · simp [h]
    · simp [h, tw_app p r]
theorem tw_len (p : UInt8 → Bool) (r : List UInt8) : (r.takeWhile p).length ≤ r.length := by
  have := congrArg List.length (tw_app p r)
  rw [List.length_append] at this; omega
theorem run0_loop (k : Nat) (s : List UInt8) (hs : s.length ≤ 100000) (i : Int) : ∀ (r : List UInt8) (n m : Nat), At s (i + m) r → 0 ≤ i → r.length < n → lex_run_m0.l4 k s i n (m : Int) = some (((m + (r.takeWhile letB).length : Nat)) : Int)
  | _, 0, _, _, _, h => by omega
  | [], n + 1, m, ha, hi, _ => by
    have h1 := ha.nil
    have hl := ha.len
    unfold lex_run_m0.l4 lex_run_m0.j11
    obtain ⟨q, hq, hq2, _⟩ := ha
    rw [hq, w64 (by omega) (by omega), ← hq, if_neg (by simpa using h1), if_neg (by decide)]
    simp
  | b :: r, n + 1, m, ha, hi, hn => by
    obtain ⟨g1, g2, g3⟩ := ha.step hs
    have hqq := ha
    obtain ⟨q, hq, hq2, _⟩ := hqq
    have wi : IntKind.i64.wrap (i + (m : Int)) = i + m := by rw [hq, w64 (by omega) (by omega)]
    have w2 : IntKind.i64.wrap (i + (m : Int) + 1) = i + ((m + 1 : Nat) : Int) := by rw [hq, w64 (by omega) (by omega)]; omega
    rw [w2] at g1
    have w3 : IntKind.i64.wrap ((m : Int) + 1) = ((m + 1 : Nat) : Int) := wr1 (by omega)
    unfold lex_run_m0.l4 lex_run_m0.j11 lex_run_m0.j8
    rw [wi, if_pos (by simpa using g3), g2, Option.bind_some, let_eq k b, Option.bind_some, w3, run0_loop k s hs i r n (m + 1) g1 hi (by simpa using hn)]
    cases h : letB b
    · simp [h]
    · simp [h]; omega
def okNm (t : List UInt8) : Bool := !(t == []) && (decide (t.length ≤ 12) && (t.takeWhile letB).length == t.length)
theorem Name_eq (k : Nat) (t : List UInt8) (ht : t.length ≤ 100000) (hk : t.length < k) : lex_Name.f k t = some (okNm t) := by
  unfold lex_Name.f okNm
  cases t with
  | nil => rfl
  | cons x t =>
    have e0 : lex_run_m0.l4 k (x :: t) 0 k 0 = _ := run0_loop k (x :: t) ht 0 (x :: t) k 0 ⟨0, by simp, by simp, rfl⟩ (by omega) hk
    rw [if_pos (by simp)]
    unfold lex_run_m0.f lex_run_m0.j2
    rw [e0]
    simp only [Option.bind_some, Nat.zero_add]
    by_cases h : (x :: t).length ≤ 12
    · rw [if_pos (by rw [decide_eq_true_eq]; omega)]
      simp only [h, decide_true, Bool.true_and]
      congr 1
      rw [Bool.eq_iff_iff]
      simp only [beq_iff_eq, Bool.and_eq_true, Bool.not_eq_true', Int.ofNat_inj]
      simp
    · have hd : decide ((x :: t).length ≤ 12) = false := by rw [decide_eq_false_iff_not]; exact h
      rw [if_neg (by rw [decide_eq_true_eq]; omega), hd]
      simp

abbrev Vr := T_env_Var
abbrev Ac := T_millwrightlaw14_Act
theorem vr_eta (v : Vr) : T_env_Var.mk v.f_Name v.f_Words v.f_Level v.f_Hidden = v := by cases v; rfl

/-! ### what is asked of a variable is told -/
theorem index_loop (k : Nat) (a : List (List UInt8)) (ha : a.length ≤ 100000) : ∀ (l : List (List UInt8)) (fuel i : Nat), a.drop i = l → l.length < fuel → ∃ o, slices_IndexFunc_string_string_m0.l3 k a fuel (i : Int) = some o
  | _, 0, _, _, h => by omega
  | [], f + 1, i, hl, _ => by
    have := at_nil hl
    unfold slices_IndexFunc_string_string_m0.l3
    exact ⟨.inl (), by rw [if_neg (by simp; omega)]⟩
  | x :: r, f + 1, i, hl, hf => by
    obtain ⟨g1, g2, g3⟩ := at_drop hl
    unfold slices_IndexFunc_string_string_m0.l3
    rw [if_pos (by simp; exact g3), g1]
    simp only [Option.bind_some, env_Check_1.f]
    by_cases h : decide ((x.length : Int) > 120) = true
    · rw [if_pos h]; exact ⟨_, rfl⟩
    · rw [if_neg h, wr1 (by omega)]
      exact index_loop k a ha r f (i + 1) g2 (by simpa using hf)
theorem contains_eq (k : Nat) (a : List (List UInt8)) (ha : a.length ≤ 100000) (hk : a.length < k) : ∃ b, slices_ContainsFunc_string_string_m0.f k a = some b := by
  unfold slices_ContainsFunc_string_string_m0.f slices_IndexFunc_string_string_m0.f
  obtain ⟨o, ho⟩ := index_loop k a ha a k 0 rfl hk
  have ho' : slices_IndexFunc_string_string_m0.l3 k a k 0 = some o := ho
  rw [ho', Option.bind_some]
  cases o <;> exact ⟨_, rfl⟩
theorem check_eq (k : Nat) (hk : 1000 < k) (v : Vr) (h1 : v.f_Name.length ≤ 1000) (h2 : v.f_Words.length ≤ 1000) : ∃ e, env_Check.f k v = some e := by
  unfold env_Check.f
  rw [Name_eq k _ (by omega) (by omega), Option.bind_some]
  have hj : ∀ b, ∃ e, env_Check.j9 k v b = some e := fun b => by
    unfold env_Check.j9 env_Check.j1
    obtain ⟨c, hc⟩ := contains_eq k v.f_Words (by omega) (by omega)
    rw [hc]
    cases b
    · by_cases h : decide ((v.f_Words.length : Int) > 40) = true
      · rw [if_pos h]; exact ⟨_, rfl⟩
      · rw [if_neg h]; cases c <;> exact ⟨_, rfl⟩
    · exact ⟨_, rfl⟩
  cases okNm v.f_Name
  · exact ⟨_, rfl⟩
  · by_cases h : decide (v.f_Level < 0) = true
    · simp only [Bool.not_true, Bool.false_eq_true, if_false]; rw [if_pos h]; exact hj _
    · simp only [Bool.not_true, Bool.false_eq_true, if_false]; rw [if_neg h]; exact hj _
theorem apart_eq (k : Nat) (v : Vr) (h : v.f_Words.length ≤ 1000) : env_Var_apart.f k v = some v := by
  unfold env_Var_apart.f pCloneS.f
  rw [if_pos (by omega), Option.bind_some]

/-! ### sets and looks -/
abbrev Mp := KV Vr
theorem set_low (k : Nat) (hk : 1000 < k) (m : Mp) (x v : Vr) (h1 : x.f_Name.length ≤ 1000) (h2 : x.f_Words.length ≤ 1000) (hl : x.f_Level < 2) (hv : v.f_Level = 2) (hm : mget v.f_Name m = some v) :
    ∃ e m', env_Env_Set_m0.f k m x = some (e, m') ∧ mget v.f_Name m' = some v := by
  unfold env_Env_Set_m0.f
  obtain ⟨e, he⟩ := check_eq k hk x h1 h2
  rw [vr_eta, he, Option.bind_some]
  have j4 : ∃ e m', env_Env_Set_m0.j4 k m x = some (e, m') ∧ m' = mput x.f_Name x m := by
    unfold env_Env_Set_m0.j4
    rw [vr_eta, apart_eq k x h2]; exact ⟨_, _, rfl, rfl⟩
  by_cases h0 : (!(e == 0)) = true
  · rw [if_pos h0]; exact ⟨_, _, rfl, hm⟩
  rw [if_neg h0]
  by_cases hn : x.f_Name = v.f_Name
  · rw [hn, hm]
    simp only [Option.isSome_some, if_true, Option.getD_some]
    unfold env_Env_Set_m0.j11
    rw [if_pos (by simp; omega)]
    exact ⟨_, _, rfl, hm⟩
  · have key : ∀ b, ∃ e m', env_Env_Set_m0.j9 k m x b = some (e, m') ∧ mget v.f_Name m' = some v := fun b => by
      unfold env_Env_Set_m0.j9
      cases b
      · obtain ⟨e, m', q1, q2⟩ := j4
        exact ⟨e, m', q1, by rw [q2, mget_put_ne _ (Ne.symm hn)]; exact hm⟩
      · exact ⟨_, _, rfl, hm⟩
    have key2 : ∀ b, ∃ e m', env_Env_Set_m0.j11 k m x b = some (e, m') ∧ mget v.f_Name m' = some v := fun b => by
      unfold env_Env_Set_m0.j11
      cases b
      · simp only [Bool.false_eq_true, if_false]
        split
        · exact key _
        · exact key _
      · exact ⟨_, _, rfl, hm⟩
    split
    · exact key2 _
    · exact key2 _
theorem set_new (k : Nat) (v : Vr) (e : Nat) (he : env_Check.f k v = some e) (h2 : v.f_Words.length ≤ 1000) : env_Env_Set_m0.f k [] v = some (e, if e = 0 then [(v.f_Name, v)] else []) := by
  unfold env_Env_Set_m0.f
  rw [vr_eta, he, Option.bind_some]
  by_cases h0 : e = 0
  · subst h0
    rw [if_neg (by decide), if_neg (by simp [mget])]
    unfold env_Env_Set_m0.j11 env_Env_Set_m0.j9 env_Env_Set_m0.j4
    rw [vr_eta, apart_eq k v h2]
    rfl
  · rw [if_pos (by simpa using h0), if_neg h0]
theorem find_eq (k : Nat) (m : Mp) (v : Vr) (h2 : v.f_Words.length ≤ 1000) (hm : mget v.f_Name m = some v) : env_Env_Find_m0.f k m v.f_Name = some (v, true) := by
  unfold env_Env_Find_m0.f
  rw [hm]
  simp only [Option.getD_some, Option.isSome_some]
  rw [vr_eta, apart_eq k v h2, Option.bind_some, vr_eta]
theorem same_loop (k : Nat) (l : List (List UInt8)) (hl : l.length ≤ 100000) : ∀ (m i n : Nat) (v : Int), v = (i : Int) → i + m = l.length → m < n → millwrightnum_SameTexts.l4 k l l n v = some (.inl ()) := by
  intro m
  induction m with
  | zero =>
    intro i n v hv hi hn; obtain ⟨n, rfl⟩ : ∃ m, n = m + 1 := ⟨n - 1, by omega⟩; subst hv
    unfold millwrightnum_SameTexts.l4; rw [if_neg (by simp; omega)]
  | succ m ih =>
    intro i n v hv hi hn; obtain ⟨n, rfl⟩ : ∃ m, n = m + 1 := ⟨n - 1, by omega⟩; subst hv
    have w1 : IntKind.i64.wrap ((i : Int) + 1) = ((i + 1 : Nat) : Int) := by rw [w64 (by omega) (by omega)]; omega
    unfold millwrightnum_SameTexts.l4
    rw [if_pos (by simp; omega), idx_at rfl (by omega), Option.bind_some, Option.bind_some, w1, ih (i + 1) n _ rfl (by omega) (by omega)]
    simp
theorem same_eq (k : Nat) (v : Vr) (hl : v.f_Words.length ≤ 1000) (hk : 1000 < k) : millwrightref14_Same.f k v v = some true := by
  unfold millwrightref14_Same.f millwrightnum_SameTexts.f millwrightnum_SameTexts.j2
  rw [same_loop k v.f_Words (by omega) v.f_Words.length 0 k 0 rfl (by omega) (by omega)]
  simp

/-! ### too long, or not -/
theorem nlong_eq (k : Nat) (a : List (List UInt8)) (m q : Int) (hm : m ≤ 1000) (hk : 1000 < k) : ∃ b, millwrightnum_Long.f k a m q = some b ∧ (b = false → (a.length : Int) ≤ m) := by
  unfold millwrightnum_Long.f
  by_cases h : decide ((a.length : Int) > m) = true
  · rw [if_pos h]; exact ⟨true, rfl, fun e => by cases e⟩
  · rw [if_neg h]
    have hlen : (a.length : Int) ≤ m := by simpa using h
    have loop : ∀ (l : List (List UInt8)) (fuel i : Nat), a.drop i = l → l.length < fuel → ∃ o, millwrightnum_Long.l4 k a q fuel (i : Int) = some o := by
      intro l
      induction l with
      | nil =>
        intro fuel i hl hf
        obtain ⟨f, rfl⟩ : ∃ f, fuel = f + 1 := ⟨fuel - 1, by omega⟩
        have := at_nil hl
        unfold millwrightnum_Long.l4
        exact ⟨.inl (), by rw [if_neg (by simp; omega)]⟩
      | cons x r ih =>
        intro fuel i hl hf
        obtain ⟨f, rfl⟩ : ∃ f, fuel = f + 1 := ⟨fuel - 1, by omega⟩
        obtain ⟨g1, g2, g3⟩ := at_drop hl
        unfold millwrightnum_Long.l4
        rw [if_pos (by simp; exact g3), g1, Option.bind_some]
        by_cases h : decide ((x.length : Int) > q) = true
        · rw [if_pos h]; exact ⟨_, rfl⟩
        · rw [if_neg h, wr1 (by omega)]
          exact ih f (i + 1) g2 (by simpa using hf)
    obtain ⟨o, ho⟩ := loop a k 0 rfl (by omega)
    have ho' : millwrightnum_Long.l4 k a q k 0 = some o := ho
    rw [ho', Option.bind_some]
    cases o with
    | inl u => exact ⟨_, rfl, fun _ => hlen⟩
    | inr u => exact ⟨_, rfl, fun _ => hlen⟩
def okA (a : Ac) : Prop := a.f_Var.f_Name.length ≤ 60 ∧ a.f_Var.f_Words.length ≤ 60
theorem long_loop (k : Nat) (hk : 1000 < k) (a : List Ac) (ha : a.length ≤ 1000) : ∀ (l : List Ac) (fuel i : Nat), a.drop i = l → l.length < fuel →
    ∃ o, millwrightlaw14_Long.l4 k a fuel (i : Int) = some o ∧ ((o = .inl () ∧ ∀ x ∈ l, okA x) ∨ o = .inr true)
  | _, 0, _, _, h => by omega
  | [], f + 1, i, hl, _ => by
    have := at_nil hl
    unfold millwrightlaw14_Long.l4
    exact ⟨.inl (), by rw [if_neg (by simp; omega)], .inl ⟨rfl, fun x hx => by cases hx⟩⟩
  | x :: r, f + 1, i, hl, hf => by
    obtain ⟨g1, g2, g3⟩ := at_drop hl
    unfold millwrightlaw14_Long.l4 millwrightlaw14_Long.j12 millwrightlaw14_Long.j8
    rw [if_pos (by simp; exact g3), g1, Option.bind_some]
    by_cases h : decide ((x.f_Var.f_Name.length : Int) > 60) = true
    · rw [if_pos h, if_pos rfl]; exact ⟨_, rfl, .inr rfl⟩
    · rw [if_neg h]
      obtain ⟨b, e1, e2⟩ := nlong_eq k x.f_Var.f_Words 60 200 (by omega) hk
      rw [e1, Option.bind_some]
      cases b with
      | true => exact ⟨_, rfl, .inr rfl⟩
      | false =>
        rw [if_neg (by decide), wr1 (by omega)]
        obtain ⟨o, o1, o2⟩ := long_loop k hk a ha r f (i + 1) g2 (by simpa using hf)
        refine ⟨o, o1, ?_⟩
        rcases o2 with ⟨o2, o3⟩ | o2
        · refine .inl ⟨o2, fun y hy => ?_⟩
          rcases List.mem_cons.1 hy with rfl | hy
          · have := e2 rfl
            simp at h
            exact ⟨by omega, by omega⟩
          · exact o3 y hy
        · exact .inr o2
theorem long_f (k : Nat) (hk : 1000 < k) (a : List Ac) (m : Int) (hm : m ≤ 60) : ∃ b, millwrightlaw14_Long.f k a m = some b ∧ (b = false → (a.length : Int) ≤ m ∧ ∀ x ∈ a, okA x) := by
  unfold millwrightlaw14_Long.f
  by_cases h : decide ((a.length : Int) > m) = true
  · rw [if_pos h]; exact ⟨true, rfl, fun e => by cases e⟩
  · rw [if_neg h]
    have hlen : (a.length : Int) ≤ m := by simpa using h
    obtain ⟨o, o1, o2⟩ := long_loop k hk a (by omega) a k 0 rfl (by omega)
    have o1' : millwrightlaw14_Long.l4 k a k 0 = some o := o1
    rw [o1', Option.bind_some]
    rcases o2 with ⟨rfl, o3⟩ | rfl
    · exact ⟨false, rfl, fun _ => ⟨hlen, o3⟩⟩
    · exact ⟨true, rfl, fun e => by cases e⟩

/-! ### the law -/
theorem law_loop (k : Nat) (hk : 1000 < k) (a0 v : Vr) (hv : v = ⟨a0.f_Name, a0.f_Words, 2, a0.f_Hidden⟩) (hw : v.f_Words.length ≤ 1000) (a : List Ac) (ha : a.length ≤ 1000) : ∀ (l : List Ac) (fuel i : Nat) (m : Mp), a.drop i = l → l.length < fuel → (∀ x ∈ l, okA x) →
    mget v.f_Name m = some v → millwrightlaw14_EnvStays.l10 k a0 a fuel m (i : Int) = some (.inl ())
  | _, 0, _, _, _, h, _, _ => by omega
  | [], f + 1, i, m, hl, _, _, _ => by
    have := at_nil hl
    unfold millwrightlaw14_EnvStays.l10
    rw [if_neg (by simp; omega)]
  | x :: r, f + 1, i, m, hl, hf, hp, hm => by
    obtain ⟨g1, g2, g3⟩ := at_drop hl
    obtain ⟨p1, p2⟩ := hp x List.mem_cons_self
    have look : ∀ m', mget v.f_Name m' = some v → millwrightlaw14_EnvStays.j24 k (millwrightlaw14_EnvStays.l10 k a0 a f) a0 a (i : Int) m' = some (.inl ()) := fun m' hm' => by
      have hn : a0.f_Name = v.f_Name := by rw [hv]
      have hvv : (T_env_Var.mk a0.f_Name a0.f_Words 2 a0.f_Hidden) = v := hv.symm
      unfold millwrightlaw14_EnvStays.j24 millwrightlaw14_EnvStays.j21 millwrightlaw14_EnvStays.j15
      rw [hvv, hn, find_eq k m' v hw hm', Option.bind_some, if_neg (by simp), vr_eta, same_eq k v hw hk, Option.bind_some, if_neg (by decide), wr1 (by omega)]
      exact law_loop k hk a0 v hv hw a ha r f (i + 1) m' g2 (by simpa using hf) (fun y hy => hp y (List.mem_cons_of_mem _ hy)) hm'
    unfold millwrightlaw14_EnvStays.l10
    rw [if_pos (by simp; exact g3), g1, Option.bind_some]
    by_cases h : x.f_Var.f_Level < 2
    · rw [if_pos (by simpa using h), vr_eta]
      obtain ⟨e, m', q1, q2⟩ := set_low k hk m x.f_Var v (by omega) (by omega) h (by rw [hv]) hm
      rw [q1, Option.bind_some]
      exact look m' q2
    · rw [if_neg (by simpa using h)]
      exact look m hm

theorem alive14_eq : millwrightlaw14_alive.f 2000 = some true := by decide +kernel

theorem envStays_true (a0 : Vr) (a1 : List Ac) (_ : Wf Un (.named 3) a0) (_ : Wf Un (.list (.named 4)) a1) : ∃ k, millwrightlaw14_EnvStays.f k a0 a1 = some true := by
  refine ⟨2000, ?_⟩
  unfold millwrightlaw14_EnvStays.f
  rw [alive14_eq, Option.bind_some, if_neg (by decide)]
  obtain ⟨b, e1, e2⟩ := long_f 2000 (by omega) a1 60 (by omega)
  rw [e1, Option.bind_some]
  unfold millwrightlaw14_EnvStays.j32
  cases b with
  | true => rfl
  | false =>
    obtain ⟨h1, h2⟩ := e2 rfl
    rw [if_neg (by decide), vr_eta]
    obtain ⟨b, e3, e4⟩ := long_f 2000 (by omega) [T_millwrightlaw14_Act.mk 0 a0] 1 (by omega)
    rw [e3, Option.bind_some]
    cases b with
    | true => rfl
    | false =>
      obtain ⟨_, h4⟩ := e4 rfl
      obtain ⟨p1, p2⟩ := h4 _ List.mem_cons_self
      simp only at p1 p2
      rw [if_neg (by decide)]
      unfold millwrightlaw14_EnvStays.j29 env_New.f
      rw [Option.bind_some]
      obtain ⟨e, he⟩ := check_eq 2000 (by omega) ⟨a0.f_Name, a0.f_Words, 2, a0.f_Hidden⟩ (by simp only; omega) (by simp only; omega)
      rw [set_new 2000 _ e he (by simp only; omega), Option.bind_some, he]
      by_cases h0 : e = 0
      · subst h0
        rw [if_neg (by simp), if_pos rfl]
        have e5 : millwrightlaw14_EnvStays.l10 2000 a0 a1 2000 [(a0.f_Name, ⟨a0.f_Name, a0.f_Words, 2, a0.f_Hidden⟩)] 0 = _ := law_loop 2000 (by omega) a0 _ rfl (by simp only; omega) a1 (by omega) a1 2000 0 _ rfl (by omega) h2 (by simp [mget])
        simp only
        rw [e5]; rfl
      · rw [if_pos (by simpa using h0), Option.bind_some]
        simpa using h0
end Go.Proofs.YtnbnfjgedinlbaaDoor
