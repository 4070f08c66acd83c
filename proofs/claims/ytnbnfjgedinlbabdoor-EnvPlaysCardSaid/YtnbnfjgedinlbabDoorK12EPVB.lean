/- A part of the proof of a given law: EPVB. Own work, printed in part by a program of mine. -/
import Derived.Test.YtnbnfjgedinlbabDoorK12EPVA
namespace Go.Proofs.YtnbnfjgedinlbabDoor
open Go Go.AM Go.ChangeShapes Go.ChangeAt Go.RowKit
set_option linter.unusedVariables false
set_option linter.unusedSimpArgs false
set_option maxRecDepth 100000
def vals (m : Mp) : List Vr := m.map (·.2)
def Keyed (m : Mp) : Prop := ∀ y ∈ m, y.1 = y.2.f_Name
def atO (n : List UInt8) : List Vr → Nat → Sum Unit Int
  | [], _ => .inl ()
  | f :: r, i => if f.f_Name = n then .inr (i : Int) else atO n r (i + 1)
theorem at_loop (k : Nat) (w : List Vr) (hw : w.length ≤ 100000) (n : List UInt8) : ∀ (l : List Vr) (fuel i : Nat), w.drop i = l → l.length < fuel → millwrightref14_Env_At_m0.l3 k w n fuel (i : Int) = some (atO n l i)
  | _, 0, _, _, h => by omega
  | [], f + 1, i, hl, _ => by
    have := at_nil hl
    unfold millwrightref14_Env_At_m0.l3
    rw [if_neg (by simp; omega)]; rfl
  | x :: r, f + 1, i, hl, hf => by
    obtain ⟨g1, g2, g3⟩ := at_drop hl
    have ih := at_loop k w hw n r f (i + 1) g2 (by simpa using hf)
    unfold millwrightref14_Env_At_m0.l3 atO
    rw [if_pos (by simp; exact g3), g1, Option.bind_some, wr1 (by omega), ih]
    by_cases h : x.f_Name = n
    · rw [if_pos (by simpa using h), if_pos h]
    · rw [if_neg (by simpa using h), if_neg h]
def atI (n : List UInt8) (w : List Vr) : Int := match atO n w 0 with | .inl _ => -1 | .inr v => v
theorem at_eq (k : Nat) (w : List Vr) (n : List UInt8) (hk : w.length < k) (hw : w.length ≤ 100000) : millwrightref14_Env_At_m0.f k w n = some (atI n w) := by
  unfold millwrightref14_Env_At_m0.f millwrightref14_Env_At_m0.j1 atI
  have e0 : millwrightref14_Env_At_m0.l3 k w n k 0 = _ := at_loop k w hw n w k 0 rfl hk
  rw [e0]
  cases atO n w 0 <;> rfl
theorem atO_spec (n : List UInt8) : ∀ (m : Mp) (i : Nat), Keyed m → (mget n m = none ∧ atO n (vals m) i = .inl ()) ∨ ∃ v j, mget n m = some v ∧ atO n (vals m) i = .inr ((i + j : Nat) : Int) ∧ (vals m)[j]? = some v
  | [], i, _ => .inl ⟨rfl, rfl⟩
  | y :: r, i, hk => by
    have hy := hk y List.mem_cons_self
    unfold mget vals
    rw [List.map_cons]
    unfold atO
    by_cases h : y.1 = n
    · rw [if_pos h, if_pos (by rw [← hy]; exact h)]
      exact .inr ⟨y.2, 0, rfl, rfl, rfl⟩
    · rw [if_neg h, if_neg (by rw [← hy]; exact h)]
      rcases atO_spec n r (i + 1) (fun z hz => hk z (List.mem_cons_of_mem _ hz)) with ⟨h1, h2⟩ | ⟨v, j, h1, h2, h3⟩
      · exact .inl ⟨h1, h2⟩
      · exact .inr ⟨v, j + 1, h1, by rw [show i + (j + 1) = i + 1 + j by omega]; exact h2, by simpa [vals] using h3⟩
theorem atI_spec (n : List UInt8) (m : Mp) (hk : Keyed m) : (mget n m = none ∧ atI n (vals m) = -1) ∨ ∃ v, ∃ j : Nat, mget n m = some v ∧ atI n (vals m) = (j : Int) ∧ (vals m)[j]? = some v := by
  unfold atI
  rcases atO_spec n m 0 hk with ⟨h1, h2⟩ | ⟨v, j, h1, h2, h3⟩
  · exact .inl ⟨h1, by rw [h2]⟩
  · exact .inr ⟨v, j, h1, by rw [h2]; simp, h3⟩

theorem mput_len {α : Type} (k : List UInt8) (v : α) : ∀ m : KV α, (mput k v m).length ≤ m.length + 1
  | [] => by simp [mput]
  | y :: r => by
    unfold mput
    split
    · simp
    split
    · simp
    · have := mput_len k v r; simp; omega
theorem mdel_len {α : Type} (k : List UInt8) (m : KV α) : (mdel k m).length ≤ m.length := List.length_filter_le _ _
theorem mget_split {n : List UInt8} {v : Vr} : ∀ {m : Mp}, mget n m = some v → ∃ pre post, m = pre ++ (n, v) :: post ∧ ∀ y ∈ pre, y.1 ≠ n
  | [], h => by cases h
  | y :: r, h => by
    unfold mget at h
    by_cases e : y.1 = n
    · rw [if_pos e] at h
      refine ⟨[], r, ?_, fun y hy => by cases hy⟩
      obtain ⟨y1, y2⟩ := y
      cases h; simp only at e; subst e; rfl
    · rw [if_neg e] at h
      obtain ⟨pre, post, h1, h2⟩ := mget_split h
      exact ⟨y :: pre, post, by rw [h1]; rfl, List.forall_mem_cons.2 ⟨e, h2⟩⟩
theorem atO_pre {n : List UInt8} {v : Vr} {post : Mp} (hv : v.f_Name = n) : ∀ (pre : Mp) (i : Nat), Keyed pre → (∀ y ∈ pre, y.1 ≠ n) → atO n (vals (pre ++ (n, v) :: post)) i = .inr ((i + pre.length : Nat) : Int)
  | [], i, _, _ => by
    unfold vals
    rw [List.nil_append, List.map_cons]
    unfold atO
    rw [if_pos hv]; rfl
  | y :: r, i, hk, hn => by
    have ih := atO_pre (post := post) hv r (i + 1) (fun z hz => hk z (List.mem_cons_of_mem _ hz)) (fun z hz => hn z (List.mem_cons_of_mem _ hz))
    unfold vals at ih ⊢
    rw [List.cons_append, List.map_cons]
    unfold atO
    rw [if_neg (by rw [← hk y List.mem_cons_self]; exact hn y List.mem_cons_self), ih, List.length_cons]
    congr 2; omega
theorem del_split {n : List UInt8} {v : Vr} {pre post : Mp} (hr : Rising (pre ++ (n, v) :: post)) (hn : ∀ y ∈ pre, y.1 ≠ n) : mdel n (pre ++ (n, v) :: post) = pre ++ post := by
  have h1 : mdel n pre = pre := mdel_eq hn
  have hpost : ∀ y ∈ post, y.1 ≠ n := fun y hy e => by
    have h2 := (List.pairwise_append.1 hr).2.1
    have := (List.pairwise_cons.1 h2).1 y hy
    rw [e, less_irrefl] at this; cases this
  have h2 : mdel n post = post := mdel_eq hpost
  unfold mdel at h1 h2 ⊢
  rw [List.filter_append, List.filter_cons, if_neg (by simp), h1, h2]
theorem vals_len (m : Mp) : (vals m).length = m.length := by unfold vals; simp
/-- Variables that can be. -/
structure Good (m : Mp) : Prop where
  rising : Rising m
  keyed : Keyed m
  short : ∀ y ∈ m, y.1.length ≤ 12
  words : ∀ y ∈ m, y.2.f_Words.length ≤ 40
theorem Good.nil : Good [] := ⟨.nil, fun y hy => by (cases hy), fun y hy => by (cases hy), fun y hy => by (cases hy)⟩
theorem okNm_len {t : List UInt8} (h : okNm t = true) : t.length ≤ 12 := by
  unfold okNm at h
  simp only [Bool.and_eq_true, decide_eq_true_eq] at h
  exact h.2.1
theorem chk_ok {v : Vr} (h : chk v = 0) : okNm v.f_Name = true ∧ v.f_Words.length ≤ 40 := by
  unfold chk at h
  split at h
  · omega
  split at h
  · omega
  split at h
  · omega
  · rename_i h1 _ h2
    exact ⟨by simpa using h1, by omega⟩
theorem Good.put {m : Mp} (h : Good m) {v : Vr} (hv : chk v = 0) : Good (mput v.f_Name v m) := by
  obtain ⟨q1, q2⟩ := chk_ok hv
  refine ⟨h.rising.put, fun y hy => ?_, fun y hy => ?_, fun y hy => ?_⟩ <;> rcases mput_mem hy with rfl | hy
  · rfl
  · exact h.keyed y hy
  · exact okNm_len q1
  · exact h.short y hy
  · exact q2
  · exact h.words y hy
theorem Good.del {m : Mp} (h : Good m) (n : List UInt8) : Good (mdel n m) :=
  ⟨h.rising.del n, fun y hy => h.keyed y (List.mem_filter.1 hy).1, fun y hy => h.short y (List.mem_filter.1 hy).1, fun y hy => h.words y (List.mem_filter.1 hy).1⟩
theorem Good.get {m : Mp} (h : Good m) {y : List UInt8 × Vr} (hy : y ∈ m) : mget y.1 m = some y.2 := mget_of h.rising.apart hy
theorem apart_eq (k : Nat) {v : Vr} (h : v.f_Words.length ≤ 100000) : env_Var_apart.f k v = some v := by
  rw [apart_if, if_pos (by unfold okW; rw [decide_eq_true_eq]; omega)]

/-! ### a variable is set -/
def setS (m : Mp) (v : Vr) : Nat × Mp :=
  if chk v ≠ 0 then (chk v, m) else
  match mget v.f_Name m with
  | some old => if old.f_Level > v.f_Level then (0, m) else (0, mput v.f_Name v m)
  | none => if m.length ≥ 24 then (10, m) else (0, mput v.f_Name v m)
theorem chk_le (v : Vr) : chk v ≤ 18 := by
  unfold chk
  repeat' split
  all_goals omega
theorem setS_le (m : Mp) (v : Vr) : (setS m v).1 ≤ 18 := by
  have := chk_le v
  unfold setS
  repeat' split
  all_goals first | exact this | simp
theorem setS_len (m : Mp) (v : Vr) : (setS m v).2.length ≤ m.length + 1 := by
  have := mput_len v.f_Name v m
  unfold setS
  repeat' split
  all_goals simp only
  all_goals omega
theorem Good.set {m : Mp} (h : Good m) (v : Vr) : Good (setS m v).2 := by
  unfold setS
  split
  · exact h
  · rename_i h0
    have h0 : chk v = 0 := by simpa using h0
    split
    · split
      · exact h
      · exact h.put h0
    · split
      · exact h
      · exact h.put h0
theorem set_eq (k : Nat) (hk : 1000 < k) (m : Mp) (v : Vr) (row : List (List UInt8)) (hr : v.f_Words.length ≤ row.length) (hrow : (row.drop 0).take v.f_Words.length = v.f_Words) (h1 : v.f_Name.length ≤ 1000) (h2 : v.f_Words.length ≤ 1000) :
    env_Env_Set_m1.f k m v.f_Name row v.f_Words.length v.f_Level v.f_Hidden = some (setS m v) := by
  unfold env_Env_Set_m1.f setS
  rw [if_pos (by omega), hrow, vr_eta, check_eq k hk v h1 h2, Option.bind_some]
  have j5 : env_Env_Set_m1.j5 k m v.f_Name row v.f_Words.length v.f_Level v.f_Hidden = some (0, mput v.f_Name v m) := by
    unfold env_Env_Set_m1.j5 env_Var_apart_m1.f pCloneR.f
    rw [if_pos (by omega), hrow, if_pos (by omega), Option.bind_some, vr_eta]; rfl
  by_cases h0 : chk v = 0
  · rw [h0, if_neg (show ¬ (!((0 : Nat) == 0)) = true by decide), if_neg (show ¬ (0 : Nat) ≠ 0 by simp)]
    cases hm : mget v.f_Name m with
    | some old =>
      simp only [Option.isSome_some, if_true, Option.getD_some, Bool.not_true, Bool.false_eq_true, if_false]
      unfold env_Env_Set_m1.j12 env_Env_Set_m1.j10
      rw [hm]
      simp only [Option.isSome_some, Bool.not_true, Bool.false_eq_true, if_false]
      by_cases h : old.f_Level > v.f_Level
      · rw [if_pos (by rw [decide_eq_true_eq]; exact h), if_pos h]
      · rw [if_neg (by rw [decide_eq_true_eq]; exact h), if_neg h, j5]
    | none =>
      simp only [Option.isSome_none, Bool.false_eq_true, if_false]
      unfold env_Env_Set_m1.j12 env_Env_Set_m1.j10
      rw [hm]
      simp only [Option.isSome_none, Bool.not_false, Bool.false_eq_true, if_false, if_true]
      by_cases h : m.length ≥ 24
      · rw [if_pos (by rw [decide_eq_true_eq]; omega), if_pos h]
      · rw [if_neg (by rw [decide_eq_true_eq]; omega), if_neg h, j5]
  · rw [if_pos (by simpa using h0), if_pos h0]
theorem l24_eq (k : Nat) (w : List Vr) (hw : w.length ≤ 1000) (v : Vr) : ∀ (l : List Vr) (fuel i : Nat) (out : List Vr), w.drop i = l → l.length < fuel → out.length ≤ i →
    millwrightref14_Env_Set_m0.l24 k w v fuel out (i : Int) = some (out ++ l.filter fun x => Op.bytesLess x.f_Name v.f_Name)
  | _, 0, _, _, _, h, _ => by omega
  | [], f + 1, i, out, hl, _, _ => by
    have := at_nil hl
    unfold millwrightref14_Env_Set_m0.l24
    rw [if_neg (by simp; omega)]; simp
  | x :: r, f + 1, i, out, hl, hf, ho => by
    obtain ⟨g1, g2, g3⟩ := at_drop hl
    have ih := fun out h => l24_eq k w hw v r f (i + 1) out g2 (by simpa using hf) h
    unfold millwrightref14_Env_Set_m0.l24 millwrightref14_Env_Set_m0.j30
    rw [if_pos (by simp; exact g3), g1, Option.bind_some, vr_eta, wr1 (by omega), List.filter_cons]
    cases h : Op.bytesLess x.f_Name v.f_Name
    · rw [if_neg (by simp), if_neg (by simp), ih _ (by omega)]
    · rw [if_pos rfl, if_pos rfl, if_pos (lim_ok (by omega)), ih _ (by simp; omega)]; simp
theorem l10_eq (k : Nat) (w : List Vr) (hw : w.length ≤ 1000) (v : Vr) : ∀ (l : List Vr) (fuel i : Nat) (out : List Vr), w.drop i = l → l.length < fuel → out.length ≤ i + 2000 →
    millwrightref14_Env_Set_m0.l10 k w v fuel out (i : Int) = some (out ++ l.filter fun x => !(Op.bytesLess x.f_Name v.f_Name || x.f_Name == v.f_Name))
  | _, 0, _, _, _, h, _ => by omega
  | [], f + 1, i, out, hl, _, _ => by
    have := at_nil hl
    unfold millwrightref14_Env_Set_m0.l10
    rw [if_neg (by simp; omega)]; simp
  | x :: r, f + 1, i, out, hl, hf, ho => by
    obtain ⟨g1, g2, g3⟩ := at_drop hl
    have ih := fun out h => l10_eq k w hw v r f (i + 1) out g2 (by simpa using hf) h
    unfold millwrightref14_Env_Set_m0.l10 millwrightref14_Env_Set_m0.j16
    rw [if_pos (by simp; exact g3), g1, Option.bind_some, vr_eta, wr1 (by omega), List.filter_cons]
    cases h : (!(Op.bytesLess x.f_Name v.f_Name || x.f_Name == v.f_Name))
    · rw [if_neg (by simp), if_neg (by simp), ih _ (by omega)]
    · rw [if_pos rfl, if_pos rfl, if_pos (lim_ok (by omega)), ih _ (by simp; omega)]; simp
theorem asym {a b : List UInt8} (h : Op.bytesLess a b = true) : Op.bytesLess b a = false := by
  cases e : Op.bytesLess b a
  · rfl
  · have := less_trans h e; rw [less_irrefl] at this; cases this
theorem ins_eq (v : Vr) : ∀ m : Mp, Rising m → Keyed m → (vals m).filter (fun x => Op.bytesLess x.f_Name v.f_Name) ++ v :: (vals m).filter (fun x => !(Op.bytesLess x.f_Name v.f_Name || x.f_Name == v.f_Name)) = vals (mput v.f_Name v m)
  | [], _, _ => by simp [vals, mput]
  | y :: r, hr, hk => by
    have hy := hk y List.mem_cons_self
    have hk' : Keyed r := fun z hz => hk z (List.mem_cons_of_mem _ hz)
    obtain ⟨h1, h2⟩ := List.pairwise_cons.1 hr
    have ih := ins_eq v r h2 hk'
    have hmem : ∀ x ∈ vals r, Op.bytesLess y.1 x.f_Name = true := fun x hx => by
      obtain ⟨z, hz, rfl⟩ := List.mem_map.1 hx
      rw [← hk' z hz]; exact h1 z hz
    have big : (Op.bytesLess v.f_Name y.1 = true ∨ y.1 = v.f_Name) → (vals r).filter (fun x => Op.bytesLess x.f_Name v.f_Name) = [] ∧ (vals r).filter (fun x => !(Op.bytesLess x.f_Name v.f_Name || x.f_Name == v.f_Name)) = vals r := fun hb => by
      have hlt : ∀ x ∈ vals r, Op.bytesLess v.f_Name x.f_Name = true := fun x hx => by
        rcases hb with hb | hb
        · exact less_trans hb (hmem x hx)
        · rw [← hb]; exact hmem x hx
      refine ⟨List.filter_eq_nil_iff.2 fun x hx => by rw [asym (hlt x hx)]; simp, List.filter_eq_self.2 fun x hx => ?_⟩
      rw [asym (hlt x hx)]
      have := less_ne (hlt x hx)
      simp; exact fun e => this e.symm
    have ev : vals (y :: r) = y.2 :: vals r := rfl
    rw [ev, List.filter_cons, List.filter_cons, ← hy]
    by_cases he : y.1 = v.f_Name
    · obtain ⟨b1, b2⟩ := big (.inr he)
      have e1 : Op.bytesLess y.1 v.f_Name = false := by rw [he]; exact less_irrefl _
      rw [b1, b2, if_neg (by simp [e1]), if_neg (by simp [he])]
      unfold mput
      rw [if_pos he]; rfl
    · rcases less_total he with h | h
      · rw [if_pos h, if_neg (by simp [h])]
        have := asym h
        unfold mput
        rw [if_neg he, if_neg (by simp [this]), List.cons_append, ih]; rfl
      · obtain ⟨b1, b2⟩ := big (.inl h)
        have := asym h
        rw [if_neg (by simp [this]), if_pos (by simp [this, he]), b1, b2]
        unfold mput
        rw [if_neg he, if_pos h]; rfl
theorem rset_eq (k : Nat) (hk : 2000 < k) (m : Mp) (hg : Good m) (hm : m.length ≤ 500) (v : Vr) (h1 : v.f_Name.length ≤ 1000) (h2 : v.f_Words.length ≤ 1000) : millwrightref14_Env_Set_m0.f k (vals m) v = some (((setS m v).1 : Int), vals (setS m v).2) := by
  have hv := vals_len m
  unfold millwrightref14_Env_Set_m0.f setS
  rw [vr_eta, rcheck_eq k (by omega) v h1 h2, Option.bind_some]
  by_cases h0 : chk v = 0
  · rw [h0, if_neg (show ¬ (((0 : Nat) : Int) != 0) = true by decide), if_neg (show ¬ (0 : Nat) ≠ 0 by simp), at_eq k _ _ (by omega) (by omega), Option.bind_some]
    have e35 : millwrightref14_Env_Set_m0.j35 k (vals m) v = some (0, vals (mput v.f_Name v m)) := by
      unfold millwrightref14_Env_Set_m0.j35 millwrightref14_Env_Set_m0.j21 millwrightref14_Env_Set_m0.j7
      have e0 : millwrightref14_Env_Set_m0.l24 k (vals m) v k [] 0 = _ := l24_eq k (vals m) (by omega) v (vals m) k 0 [] rfl (by omega) (by simp)
      have hfl := List.length_filter_le (fun x => Op.bytesLess x.f_Name v.f_Name) (vals m)
      have e1 : millwrightref14_Env_Set_m0.l10 k (vals m) v k ((vals m).filter (fun x => Op.bytesLess x.f_Name v.f_Name) ++ [v]) 0 = _ := l10_eq k (vals m) (by omega) v (vals m) k 0 _ rfl (by omega) (by simp; omega)
      rw [e0, List.nil_append, Option.bind_some, vr_eta, if_pos (lim_ok (by omega)), e1, Option.bind_some, List.append_assoc, List.singleton_append, ins_eq v m hg.rising hg.keyed]
    rcases atI_spec v.f_Name m hg.keyed with ⟨q1, q2⟩ | ⟨old, j, q1, q2, q3⟩
    · rw [q1, q2, if_neg (by decide)]
      unfold millwrightref14_Env_Set_m0.j43 millwrightref14_Env_Set_m0.j40 millwrightref14_Env_Set_m0.j38
      simp only [Bool.false_eq_true, if_false]
      rw [if_pos (by decide), hv, e35]
      by_cases h : m.length ≥ 24
      · rw [if_pos (by rw [decide_eq_true_eq]; omega), if_pos h]; rfl
      · rw [if_neg (by rw [decide_eq_true_eq]; omega), if_neg h]; rfl
    · have hj : j < (vals m).length := by
        rcases Nat.lt_or_ge j (vals m).length with h | h
        · exact h
        · rw [List.getElem?_eq_none_iff.2 h] at q3; cases q3
      have e3 : (vals m)[j] = old := by rw [List.getElem?_eq_getElem hj] at q3; exact Option.some.inj q3
      rw [q1, q2, if_pos (by rw [decide_eq_true_eq]; omega), idx_at rfl hj, Option.bind_some, e3]
      unfold millwrightref14_Env_Set_m0.j43 millwrightref14_Env_Set_m0.j40 millwrightref14_Env_Set_m0.j38
      simp only [Bool.false_eq_true, if_false]
      by_cases h : old.f_Level > v.f_Level
      · rw [if_pos (by rw [decide_eq_true_eq]; exact h), if_pos h]; rfl
      · rw [if_neg (by rw [decide_eq_true_eq]; exact h), if_neg (by rw [decide_eq_true_eq]; omega), if_neg h, e35]; rfl
  · rw [if_pos (by simpa using h0), if_pos h0]

/-! ### a variable is let go; looks -/
theorem runset_eq (k : Nat) (m : Mp) (n : List UInt8) (hk : 2000 < k) (hm : m.length ≤ 1000) (hg : Good m) : millwrightref14_Env_Unset_m0.f k (vals m) n = some ((mget n m).isSome, vals (mdel n m)) := by
  unfold millwrightref14_Env_Unset_m0.f
  have hv := vals_len m
  rw [at_eq k _ _ (by omega) (by omega), Option.bind_some]
  cases hq : mget n m with
  | none =>
    have e : mdel n m = m := mdel_eq fun y hy => (mget_none.1 hq) y hy
    rcases atI_spec n m hg.keyed with ⟨q1, q2⟩ | ⟨v, j, q1, q2, q3⟩
    · rw [q2, if_pos (by decide), e]; rfl
    · rw [hq] at q1; cases q1
  | some v =>
    obtain ⟨pre, post, e, hn⟩ := mget_split hq
    have hmem : (n, v) ∈ m := by rw [e]; simp
    have hvn : v.f_Name = n := (hg.keyed _ hmem).symm
    have hat : atI n (vals m) = (pre.length : Int) := by
      unfold atI
      have := atO_pre (post := post) hvn pre 0 (fun y hy => hg.keyed y (by rw [e]; simp [hy])) hn
      rw [e, this]; simp
    have hvals : vals m = vals pre ++ v :: vals post := by rw [e]; unfold vals; simp
    have hdel : vals (mdel n m) = vals pre ++ vals post := by
      have := hg.rising
      rw [e] at this ⊢
      rw [del_split this hn]; unfold vals; simp
    have hl1 : (vals pre).length = pre.length := vals_len pre
    have hl2 : m.length = pre.length + (post.length + 1) := by rw [e]; simp
    rw [hat, if_neg (by rw [decide_eq_true_eq]; omega), sub_to rfl rfl (by omega), Option.bind_some]
    have ht : (vals m).take pre.length = vals pre := by rw [hvals, ← hl1]; simp
    have hd : (vals m).drop (pre.length + 1) = vals post := by rw [hvals, ← hl1]; simp
    have hlim : LIM = 4294967296 := rfl
    rw [ht, wr1 (by omega), sub_from rfl rfl (by omega), if_pos (by simp; omega), Option.bind_some, hd, if_pos (by simp [vals_len]; omega)]
    simp [hdel]
def vr0 : Vr := ⟨[], [], 0, false⟩
theorem find_eq (k : Nat) (m : Mp) (hg : Good m) (n : List UInt8) : env_Env_Find_m0.f k m n = some ((mget n m).getD vr0, (mget n m).isSome) := by
  unfold env_Env_Find_m0.f
  have hw : ((mget n m).getD (T_env_Var.mk [] [] 0 false)).f_Words.length ≤ 100000 := by
    cases h : mget n m with
    | none => simp
    | some v => have := hg.words _ (mget_mem h); simp only [Option.getD_some]; simp only at this; omega
  rw [vr_eta, apart_eq k hw, Option.bind_some, vr_eta]; rfl
theorem get_eq (k : Nat) (m : Mp) (hg : Good m) (n : List UInt8) : env_Env_Get_m0.f k m n = some ((mget n m).getD vr0).f_Words := by
  unfold env_Env_Get_m0.f
  rw [find_eq k m hg, Option.bind_some]
theorem copy_eq (k : Nat) (hk : 1000 < k) (m : Mp) (hm : m.length ≤ 1000) (hg : Good m) : env_Env_Copy_m0.f k m = some m := by
  unfold env_Env_Copy_m0.f env_Env_Copy_m0.j3 env_New.f
  rw [Option.bind_some, copy_loop, if_pos ⟨by omega, List.all_eq_true.2 fun y hy => by
    have := hg.words y hy
    unfold okW; rw [decide_eq_true_eq]; omega⟩, Option.bind_some]
  have last : ∀ (a : Mp) (n : List UInt8) (v : Vr), (∀ y ∈ a, Op.bytesLess y.1 n = true) → mput n v a = a ++ [(n, v)] := fun a n v => by
    induction a with
    | nil => intro _; rfl
    | cons y r ih =>
      intro h
      have hy := h y List.mem_cons_self
      unfold mput
      rw [if_neg (less_ne hy), if_neg (by rw [asym hy]; simp), ih fun z hz => h z (List.mem_cons_of_mem _ hz)]; rfl
  have key : ∀ (l a : Mp), Rising (a ++ l) → fill a l = a ++ l := fun l => by
    induction l with
    | nil => intro a _; simp [fill]
    | cons y r ih =>
      intro a h
      have h3 := (List.pairwise_append.1 h).2.2
      have e : fill a (y :: r) = fill (mput y.1 y.2 a) r := rfl
      rw [e, last a y.1 y.2 fun z hz => h3 z hz y List.mem_cons_self, ih (a ++ [(y.1, y.2)]) (by simpa using h)]
      simp
  rw [key m [] (by simpa using hg.rising)]; rfl
end Go.Proofs.YtnbnfjgedinlbabDoor
