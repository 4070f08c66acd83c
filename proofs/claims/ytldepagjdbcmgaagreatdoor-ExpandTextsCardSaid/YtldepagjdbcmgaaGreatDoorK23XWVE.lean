/- Variables: the code's and the document's. -/
import Derived.Test.YtldepagjdbcmgaaGreatDoorK23XWF
import Derived.Test.YtldepagjdbcmgaaGreatDoorK23AmM3
import Derived.Test.YtldepagjdbcmgaaGreatDoorK23AmM
import Derived.Test.YtldepagjdbcmgaaGreatDoorK23AmR6
import Derived.Test.YtldepagjdbcmgaaGreatDoorK23AmW
import Derived.Lib.SplitLaws
import Derived.Lib.CountLaws
import Derived.OpenShut
namespace Go.Proofs.YtldepagjdbcmgaaGreatDoor.Ev
open Go Go.AM Go.ChangeShapes Go.ChangeAt Go.RowKit
set_option linter.unusedVariables false
set_option linter.unusedSimpArgs false
set_option maxRecDepth 100000
abbrev Vr := T_env_Var
abbrev Mp := KV Vr
theorem vr_eta (v : Vr) : T_env_Var.mk v.f_Name v.f_Words v.f_Level v.f_Hidden = v := by cases v; rfl
theorem at_drop {α : Type} {l r : List α} {i : Nat} {x : α} (h : l.drop i = x :: r) : idx l (i : Int) = some x ∧ l.drop (i + 1) = r ∧ i < l.length := by
  have hi : i < l.length := by
    rcases Nat.lt_or_ge i l.length with h' | h'
    · exact h'
    · rw [List.drop_of_length_le h'] at h; cases h
  rw [List.drop_eq_getElem_cons hi] at h
  injection h with h1 h2
  exact ⟨by rw [idx_at rfl hi, h1], h2, hi⟩
theorem at_nil {α : Type} {l : List α} {i : Nat} (h : l.drop i = []) : l.length ≤ i := by
  have := congrArg List.length h
  simp at this; omega
theorem wr1 {i : Nat} (h : i < 1000000) : IntKind.i64.wrap ((i : Int) + 1) = ((i + 1 : Nat) : Int) := by rw [w64 (by omega) (by omega)]; rfl

def letB (b : UInt8) : Bool := (lex_letter.f 0 (b.toNat : Int)).getD false
theorem let_eq (k : Nat) (b : UInt8) : lex_letter.f k (b.toNat : Int) = some (letB b) := by
  have : ∃ x, lex_letter.f k (b.toNat : Int) = some x := by
    unfold lex_letter.f
    (repeat' split) <;> exact ⟨_, rfl⟩
  obtain ⟨x, hx⟩ := this
  have h0 : lex_letter.f 0 (b.toNat : Int) = some x := hx
  unfold letB
  rw [hx, h0]; rfl
def At (s : List UInt8) (i : Int) (r : List UInt8) : Prop := ∃ n : Nat, i = n ∧ n ≤ s.length ∧ s.drop n = r
theorem At.step {s : List UInt8} {i : Int} {b : UInt8} {r : List UInt8} (hs : s.length ≤ 100000) (h : At s i (b :: r)) : At s (IntKind.i64.wrap (i + 1)) r ∧ idx s i = some b ∧ i < s.length := by
  obtain ⟨n, rfl, h1, h2⟩ := h
  obtain ⟨g1, g2, g3⟩ := at_drop h2
  exact ⟨⟨n + 1, wr1 (by omega), by omega, g2⟩, g1, by omega⟩
theorem At.nil {s : List UInt8} {i : Int} (h : At s i []) : ¬ i < s.length := by
  obtain ⟨n, rfl, h1, h2⟩ := h
  have := at_nil h2
  omega
theorem At.len {s : List UInt8} {i : Int} {r : List UInt8} (h : At s i r) : r.length ≤ s.length := by
  obtain ⟨n, rfl, h1, h2⟩ := h
  rw [← h2]; simp
theorem tw_app (p : UInt8 → Bool) : ∀ r : List UInt8, r.takeWhile p ++ r.dropWhile p = r
  | [] => rfl
  | x :: r => by
    cases h : p x
    · simp [h]
    · simp [h, tw_app p r]
theorem tw_len (p : UInt8 → Bool) (r : List UInt8) : (r.takeWhile p).length ≤ r.length := by
  have := congrArg List.length (tw_app p r)
  rw [List.length_append] at this; omega
theorem run0_loop (k : Nat) (s : List UInt8) (hs : s.length ≤ 100000) (i : Int) : ∀ (r : List UInt8) (n m : Nat), At s (i + m) r → 0 ≤ i → r.length < n → lex_run_m0.l4 k s i n (m : Int) = some (((m + (r.takeWhile letB).length : Nat)) : Int)
  | _, 0, _, _, _, h => by omega
  | [], n + 1, m, ha, hi, _ => by
    have h1 := ha.nil
    have hl := ha.len
    unfold lex_run_m0.l4 lex_run_m0.j11
    obtain ⟨q, hq, hq2, _⟩ := ha
    rw [hq, w64 (by omega) (by omega), ← hq, if_neg (by simpa using h1), if_neg (by decide)]
    simp
  | b :: r, n + 1, m, ha, hi, hn => by
    obtain ⟨g1, g2, g3⟩ := ha.step hs
    have hqq := ha
    obtain ⟨q, hq, hq2, _⟩ := hqq
    have wi : IntKind.i64.wrap (i + (m : Int)) = i + m := by rw [hq, w64 (by omega) (by omega)]
    have w2 : IntKind.i64.wrap (i + (m : Int) + 1) = i + ((m + 1 : Nat) : Int) := by rw [hq, w64 (by omega) (by omega)]; omega
    rw [w2] at g1
    have w3 : IntKind.i64.wrap ((m : Int) + 1) = ((m + 1 : Nat) : Int) := wr1 (by omega)
    unfold lex_run_m0.l4 lex_run_m0.j11 lex_run_m0.j8
    rw [wi, if_pos (by simpa using g3), g2, Option.bind_some, let_eq k b, Option.bind_some, w3, run0_loop k s hs i r n (m + 1) g1 hi (by simpa using hn)]
    cases h : letB b
    · simp [h]
    · simp [h]; omega
def okNm (t : List UInt8) : Bool := !(t == []) && (decide (t.length ≤ 12) && (t.takeWhile letB).length == t.length)
theorem Name_eq (k : Nat) (t : List UInt8) (ht : t.length ≤ 100000) (hk : t.length < k) : lex_Name.f k t = some (okNm t) := by
  unfold lex_Name.f okNm
  cases t with
  | nil => rfl
  | cons x t =>
    have e0 : lex_run_m0.l4 k (x :: t) 0 k 0 = _ := run0_loop k (x :: t) ht 0 (x :: t) k 0 ⟨0, by simp, by simp, rfl⟩ (by omega) hk
    rw [if_pos (by simp)]
    unfold lex_run_m0.f lex_run_m0.j2
    rw [e0]
    simp only [Option.bind_some, Nat.zero_add]
    by_cases h : (x :: t).length ≤ 12
    · rw [if_pos (by rw [decide_eq_true_eq]; omega)]
      simp only [h, decide_true, Bool.true_and]
      congr 1
      rw [Bool.eq_iff_iff]
      simp only [beq_iff_eq, Bool.and_eq_true, Bool.not_eq_true', Int.ofNat_inj]
      simp
    · have hd : decide ((x :: t).length ≤ 12) = false := by rw [decide_eq_false_iff_not]; exact h
      rw [if_neg (by rw [decide_eq_true_eq]; omega), hd]
      simp

theorem lim_ok {α : Type} {l : List α} {x : α} (h : l.length ≤ 100000) : l.length + [x].length ≤ LIM := by
  have : LIM = 4294967296 := rfl
  simp; omega
theorem rix {α β : Type} {l : List α} {i : Nat} {x : α} {f : α → Option β} (h : idx l (i : Int) = some x) : (if (0 : Int) ≤ (i : Int) ∧ (i : Int) < (l.length : Int) then (l[0 + (i : Int).toNat]?).bind f else none) = f x := by
  have hi : i < l.length := by
    rcases Nat.lt_or_ge i l.length with h' | h'
    · exact h'
    · rw [idx_none (.inr (by omega))] at h; cases h
  rw [idx_at rfl hi] at h
  rw [if_pos ⟨by omega, by omega⟩]
  have e : l[0 + (i : Int).toNat]? = some x := by rw [← h]; simp [hi]
  rw [e]; rfl
abbrev Ac := T_millwrightlaw14_Act
theorem tw_all (p : UInt8 → Bool) : ∀ r : List UInt8, ((r.takeWhile p).length == r.length) = r.all p
  | [] => rfl
  | x :: r => by
    cases h : p x
    · simp [h]
    · have := tw_all p r
      simp only [List.takeWhile_cons_of_pos h, List.length_cons, List.all_cons, h, Bool.true_and, ← this]
      rw [Bool.eq_iff_iff]; simp
theorem rlet_all : ∀ i : Fin 256, millwrightref13_letter.f 0 (i.val : Int) = some ((lex_letter.f 0 (i.val : Int)).getD false) := by decide +kernel
theorem rlet_eq (k : Nat) (b : UInt8) : millwrightref13_letter.f k (b.toNat : Int) = some (letB b) := rlet_all ⟨b.toNat, b.toNat_lt⟩
theorem rname_loop (k : Nat) (s : List UInt8) (hs : s.length ≤ 100000) : ∀ (l : List UInt8) (fuel i : Nat), s.drop i = l → l.length < fuel → millwrightref13_Name.l4 k s fuel (i : Int) = some (if l.all letB then .inl () else .inr false)
  | _, 0, _, _, h => by omega
  | [], f + 1, i, hl, _ => by
    have := at_nil hl
    unfold millwrightref13_Name.l4
    rw [if_neg (by simp; omega)]; rfl
  | x :: r, f + 1, i, hl, hf => by
    obtain ⟨g1, g2, g3⟩ := at_drop hl
    have ih := rname_loop k s hs r f (i + 1) g2 (by simpa using hf)
    unfold millwrightref13_Name.l4
    rw [if_pos (by simp; exact g3), g1, Option.bind_some, rlet_eq, Option.bind_some, wr1 (by omega), ih]
    cases h : letB x
    · simp [h]
    · simp [h]
theorem rname_eq (k : Nat) (t : List UInt8) (ht : t.length ≤ 100000) (hk : t.length < k) : millwrightref13_Name.f k t = some (okNm t) := by
  unfold millwrightref13_Name.f millwrightref13_Name.j2 okNm
  have e0 : millwrightref13_Name.l4 k t k 0 = _ := rname_loop k t ht t k 0 rfl hk
  rw [e0, tw_all, Option.bind_some]
  cases h : t.all letB
  · simp
  · simp only [if_true]
    cases t with
    | nil => rfl
    | cons x t =>
      rw [if_pos (by simp)]
      congr 1
      rw [Bool.eq_iff_iff]
      simp; omega
def fw : List (List UInt8) → Nat → Sum Unit Int
  | [], _ => .inl ()
  | x :: r, i => if 120 < x.length then .inr (i : Int) else fw r (i + 1)
def anyLong (l : List (List UInt8)) : Bool := l.any fun x => decide (120 < x.length)
theorem fw_spec : ∀ (l : List (List UInt8)) (i : Nat), (anyLong l = false ∧ fw l i = .inl ()) ∨ (anyLong l = true ∧ ∃ j : Nat, fw l i = .inr (j : Int))
  | [], i => .inl ⟨rfl, rfl⟩
  | x :: r, i => by
    unfold fw anyLong
    rw [List.any_cons]
    by_cases h : 120 < x.length
    · rw [if_pos h]; exact .inr ⟨by simp [h], i, rfl⟩
    · rw [if_neg h]
      rcases fw_spec r (i + 1) with ⟨h1, h2⟩ | ⟨h1, j, h2⟩
      · exact .inl ⟨by unfold anyLong at h1; rw [h1]; simp [h], h2⟩
      · exact .inr ⟨by unfold anyLong at h1; rw [h1]; simp, j, h2⟩
theorem index_loop (k : Nat) (a : List (List UInt8)) (ha : a.length ≤ 100000) : ∀ (l : List (List UInt8)) (fuel i : Nat), a.drop i = l → l.length < fuel → slices_IndexFunc_string_string_m0.l3 k a fuel (i : Int) = some (fw l i)
  | _, 0, _, _, h => by omega
  | [], f + 1, i, hl, _ => by
    have := at_nil hl
    unfold slices_IndexFunc_string_string_m0.l3
    rw [if_neg (by simp; omega)]; rfl
  | x :: r, f + 1, i, hl, hf => by
    obtain ⟨g1, g2, g3⟩ := at_drop hl
    unfold slices_IndexFunc_string_string_m0.l3 fw
    rw [if_pos (by simp; exact g3), g1]
    simp only [Option.bind_some, env_Check_1.f]
    rw [wr1 (by omega), index_loop k a ha r f (i + 1) g2 (by simpa using hf)]
    by_cases h : 120 < x.length
    · rw [if_pos (by rw [decide_eq_true_eq]; omega), if_pos h]
    · rw [if_neg (by rw [decide_eq_true_eq]; omega), if_neg h]
theorem contains_eq (k : Nat) (a : List (List UInt8)) (ha : a.length ≤ 100000) (hk : a.length < k) : slices_ContainsFunc_string_string_m0.f k a = some (anyLong a) := by
  unfold slices_ContainsFunc_string_string_m0.f slices_IndexFunc_string_string_m0.f slices_IndexFunc_string_string_m0.j1
  have ho' : slices_IndexFunc_string_string_m0.l3 k a k 0 = _ := index_loop k a ha a k 0 rfl hk
  rw [ho', Option.bind_some]
  rcases fw_spec a 0 with ⟨h1, h2⟩ | ⟨h1, j, h2⟩
  · rw [h1, h2]; rfl
  · rw [h1, h2]; simp
def chk (v : Vr) : Nat := if okNm v.f_Name = false then 4 else if v.f_Level < 0 ∨ v.f_Level > 2 then 1 else if v.f_Words.length > 40 then 10 else if anyLong v.f_Words = true then 2 else 0
theorem check_eq (k : Nat) (hk : 1000 < k) (v : Vr) (h1 : v.f_Name.length ≤ 1000) (h2 : v.f_Words.length ≤ 1000) : env_Check.f k v = some (chk v) := by
  unfold env_Check.f chk
  rw [Name_eq k _ (by omega) (by omega), Option.bind_some]
  have hj : ∀ b, env_Check.j9 k v b = some (if b then 1 else if v.f_Words.length > 40 then 10 else if anyLong v.f_Words = true then 2 else 0) := fun b => by
    unfold env_Check.j9 env_Check.j1
    rw [contains_eq k v.f_Words (by omega) (by omega)]
    cases b
    · simp only [Bool.false_eq_true, if_false]
      by_cases h : v.f_Words.length > 40
      · rw [if_pos (by rw [decide_eq_true_eq]; omega), if_pos h]
      · rw [if_neg (by rw [decide_eq_true_eq]; omega), if_neg h, Option.bind_some]
        cases anyLong v.f_Words <;> rfl
    · rfl
  rw [hj, hj]
  cases okNm v.f_Name
  · rfl
  · simp only [Bool.not_true, Bool.false_eq_true, if_false, Bool.true_eq_false]
    by_cases h : v.f_Level < 0
    · simp [h]
    · by_cases h' : v.f_Level > 2
      · simp [h, h']
      · simp [h, h']
theorem rcheck_loop (k : Nat) (v : Vr) (ha : v.f_Words.length ≤ 100000) : ∀ (l : List (List UInt8)) (fuel i : Nat), v.f_Words.drop i = l → l.length < fuel → millwrightref14_Check.l6 k v fuel (i : Int) = some (if anyLong l then .inr 2 else .inl ())
  | _, 0, _, _, h => by omega
  | [], f + 1, i, hl, _ => by
    have := at_nil hl
    unfold millwrightref14_Check.l6
    rw [if_neg (by simp; omega)]; rfl
  | x :: r, f + 1, i, hl, hf => by
    obtain ⟨g1, g2, g3⟩ := at_drop hl
    unfold millwrightref14_Check.l6
    rw [if_pos (by simp; exact g3), g1, Option.bind_some, wr1 (by omega), rcheck_loop k v ha r f (i + 1) g2 (by simpa using hf)]
    unfold anyLong
    rw [List.any_cons]
    by_cases h : 120 < x.length
    · rw [if_pos (by rw [decide_eq_true_eq]; omega)]; simp [h]
    · rw [if_neg (by rw [decide_eq_true_eq]; omega)]; simp [h]
theorem rcheck_eq (k : Nat) (hk : 1000 < k) (v : Vr) (h1 : v.f_Name.length ≤ 1000) (h2 : v.f_Words.length ≤ 1000) : millwrightref14_Check.f k v = some (chk v : Int) := by
  unfold millwrightref14_Check.f chk
  rw [rname_eq k _ (by omega) (by omega), Option.bind_some]
  have hj : ∀ b, millwrightref14_Check.j17 k v b = some (if b then 1 else if v.f_Words.length > 40 then 10 else if anyLong v.f_Words = true then 2 else 0) := fun b => by
    unfold millwrightref14_Check.j17 millwrightref14_Check.j14 millwrightref14_Check.j4
    have e0 : millwrightref14_Check.l6 k v k 0 = _ := rcheck_loop k v (by omega) v.f_Words k 0 rfl (by omega)
    rw [e0]
    cases b
    · simp only [Bool.false_eq_true, if_false]
      by_cases h : v.f_Words.length > 40
      · rw [if_pos (by rw [decide_eq_true_eq]; omega), if_pos h]
      · rw [if_neg (by rw [decide_eq_true_eq]; omega), if_neg h]
        cases anyLong v.f_Words <;> rfl
    · rfl
  rw [hj, hj]
  cases okNm v.f_Name
  · rfl
  · simp only [Bool.not_true, Bool.false_eq_true, if_false, Bool.true_eq_false]
    by_cases h : v.f_Level < 0 ∨ v.f_Level > 2
    · rw [if_pos h, if_pos (by simp; omega), if_pos (by simp; omega), if_pos (by simp; omega)]; rfl
    · rw [if_neg h]
      have e : (v.f_Level != 0 && (v.f_Level != 1 && v.f_Level != 2)) = false := by
        rcases (show v.f_Level = 0 ∨ v.f_Level = 1 ∨ v.f_Level = 2 by omega) with q | q | q <;> rw [q] <;> rfl
      cases h0 : v.f_Level != 0
      · simp only [Bool.false_eq_true, if_false]
        repeat' split
        all_goals rfl
      · cases h1 : v.f_Level != 1
        · simp only [Bool.false_eq_true, if_false, if_true]
          repeat' split
          all_goals rfl
        · have h2 : (v.f_Level != 2) = false := by rw [h0, h1] at e; simpa using e
          simp only [h2, Bool.false_eq_true, if_false, if_true]
          repeat' split
          all_goals rfl
def vals (m : Mp) : List Vr := m.map (·.2)
def Keyed (m : Mp) : Prop := ∀ y ∈ m, y.1 = y.2.f_Name
def atO (n : List UInt8) : List Vr → Nat → Sum Unit Int
  | [], _ => .inl ()
  | f :: r, i => if f.f_Name = n then .inr (i : Int) else atO n r (i + 1)
theorem at_loop (k : Nat) (w : List Vr) (hw : w.length ≤ 100000) (n : List UInt8) : ∀ (l : List Vr) (fuel i : Nat), w.drop i = l → l.length < fuel → millwrightref14_Env_At_m0.l3 k w n fuel (i : Int) = some (atO n l i)
  | _, 0, _, _, h => by omega
  | [], f + 1, i, hl, _ => by
    have := at_nil hl
    unfold millwrightref14_Env_At_m0.l3
    rw [if_neg (by simp; omega)]; rfl
  | x :: r, f + 1, i, hl, hf => by
    obtain ⟨g1, g2, g3⟩ := at_drop hl
    have ih := at_loop k w hw n r f (i + 1) g2 (by simpa using hf)
    unfold millwrightref14_Env_At_m0.l3 atO
    rw [if_pos (by simp; exact g3), g1, Option.bind_some, wr1 (by omega), ih]
    by_cases h : x.f_Name = n
    · rw [if_pos (by simpa using h), if_pos h]
    · rw [if_neg (by simpa using h), if_neg h]
def atI (n : List UInt8) (w : List Vr) : Int := match atO n w 0 with | .inl _ => -1 | .inr v => v
theorem at_eq (k : Nat) (w : List Vr) (n : List UInt8) (hk : w.length < k) (hw : w.length ≤ 100000) : millwrightref14_Env_At_m0.f k w n = some (atI n w) := by
  unfold millwrightref14_Env_At_m0.f millwrightref14_Env_At_m0.j1 atI
  have e0 : millwrightref14_Env_At_m0.l3 k w n k 0 = _ := at_loop k w hw n w k 0 rfl hk
  rw [e0]
  cases atO n w 0 <;> rfl
theorem atO_spec (n : List UInt8) : ∀ (m : Mp) (i : Nat), Keyed m → (mget n m = none ∧ atO n (vals m) i = .inl ()) ∨ ∃ v j, mget n m = some v ∧ atO n (vals m) i = .inr ((i + j : Nat) : Int) ∧ (vals m)[j]? = some v
  | [], i, _ => .inl ⟨rfl, rfl⟩
  | y :: r, i, hk => by
    have hy := hk y List.mem_cons_self
    unfold mget vals
    rw [List.map_cons]
    unfold atO
    by_cases h : y.1 = n
    · rw [if_pos h, if_pos (by rw [← hy]; exact h)]
      exact .inr ⟨y.2, 0, rfl, rfl, rfl⟩
    · rw [if_neg h, if_neg (by rw [← hy]; exact h)]
      rcases atO_spec n r (i + 1) (fun z hz => hk z (List.mem_cons_of_mem _ hz)) with ⟨h1, h2⟩ | ⟨v, j, h1, h2, h3⟩
      · exact .inl ⟨h1, h2⟩
      · exact .inr ⟨v, j + 1, h1, by rw [show i + (j + 1) = i + 1 + j by omega]; exact h2, by simpa [vals] using h3⟩
theorem atI_spec (n : List UInt8) (m : Mp) (hk : Keyed m) : (mget n m = none ∧ atI n (vals m) = -1) ∨ ∃ v, ∃ j : Nat, mget n m = some v ∧ atI n (vals m) = (j : Int) ∧ (vals m)[j]? = some v := by
  unfold atI
  rcases atO_spec n m 0 hk with ⟨h1, h2⟩ | ⟨v, j, h1, h2, h3⟩
  · exact .inl ⟨h1, by rw [h2]⟩
  · exact .inr ⟨v, j, h1, by rw [h2]; simp, h3⟩

theorem mput_len {α : Type} (k : List UInt8) (v : α) : ∀ m : KV α, (mput k v m).length ≤ m.length + 1
  | [] => by simp [mput]
  | y :: r => by
    unfold mput
    split
    · simp
    split
    · simp
    · have := mput_len k v r; simp; omega
theorem vals_len (m : Mp) : (vals m).length = m.length := by unfold vals; simp
structure Good (m : Mp) : Prop where
  rising : Rising m
  keyed : Keyed m
  short : ∀ y ∈ m, y.1.length ≤ 12
  words : ∀ y ∈ m, y.2.f_Words.length ≤ 40
theorem Good.nil : Good [] := ⟨.nil, fun y hy => by (cases hy), fun y hy => by (cases hy), fun y hy => by (cases hy)⟩
theorem okNm_len {t : List UInt8} (h : okNm t = true) : t.length ≤ 12 := by
  unfold okNm at h
  simp only [Bool.and_eq_true, decide_eq_true_eq] at h
  exact h.2.1
theorem chk_ok {v : Vr} (h : chk v = 0) : okNm v.f_Name = true ∧ v.f_Words.length ≤ 40 := by
  unfold chk at h
  split at h
  · omega
  split at h
  · omega
  split at h
  · omega
  · rename_i h1 _ h2
    exact ⟨by simpa using h1, by omega⟩
theorem Good.put {m : Mp} (h : Good m) {v : Vr} (hv : chk v = 0) : Good (mput v.f_Name v m) := by
  obtain ⟨q1, q2⟩ := chk_ok hv
  refine ⟨h.rising.put, fun y hy => ?_, fun y hy => ?_, fun y hy => ?_⟩ <;> rcases mput_mem hy with rfl | hy
  · rfl
  · exact h.keyed y hy
  · exact okNm_len q1
  · exact h.short y hy
  · exact q2
  · exact h.words y hy
theorem Good.del {m : Mp} (h : Good m) (n : List UInt8) : Good (mdel n m) :=
  ⟨h.rising.del n, fun y hy => h.keyed y (List.mem_filter.1 hy).1, fun y hy => h.short y (List.mem_filter.1 hy).1, fun y hy => h.words y (List.mem_filter.1 hy).1⟩
theorem Good.get {m : Mp} (h : Good m) {y : List UInt8 × Vr} (hy : y ∈ m) : mget y.1 m = some y.2 := mget_of h.rising.apart hy
theorem apart_eq (k : Nat) {v : Vr} (h : v.f_Words.length ≤ 100000) : env_Var_apart.f k v = some v := by
  unfold env_Var_apart.f pCloneR.f
  rw [if_pos (by omega), Option.bind_some, vr_eta]
def setS (m : Mp) (v : Vr) : Nat × Mp :=
  if chk v ≠ 0 then (chk v, m) else
  match mget v.f_Name m with
  | some old => if old.f_Level > v.f_Level then (0, m) else (0, mput v.f_Name v m)
  | none => if m.length ≥ 24 then (10, m) else (0, mput v.f_Name v m)
theorem setS_len (m : Mp) (v : Vr) : (setS m v).2.length ≤ m.length + 1 := by
  have := mput_len v.f_Name v m
  unfold setS
  repeat' split
  all_goals simp only
  all_goals omega
theorem Good.set {m : Mp} (h : Good m) (v : Vr) : Good (setS m v).2 := by
  unfold setS
  split
  · exact h
  · rename_i h0
    have h0 : chk v = 0 := by simpa using h0
    split
    · split
      · exact h
      · exact h.put h0
    · split
      · exact h
      · exact h.put h0
theorem set_eq (k : Nat) (hk : 1000 < k) (m : Mp) (v : Vr) (h1 : v.f_Name.length ≤ 1000) (h2 : v.f_Words.length ≤ 1000) : env_Env_Set_m0.f k m v = some (setS m v) := by
  unfold env_Env_Set_m0.f setS
  rw [vr_eta, check_eq k hk v h1 h2, Option.bind_some]
  have j5 : env_Env_Set_m0.j4 k m v = some (0, mput v.f_Name v m) := by
    unfold env_Env_Set_m0.j4
    rw [vr_eta, apart_eq k (by omega), Option.bind_some]
  by_cases h0 : chk v = 0
  · rw [h0, if_neg (show ¬ (!((0 : Nat) == 0)) = true by decide), if_neg (show ¬ (0 : Nat) ≠ 0 by simp)]
    cases hm : mget v.f_Name m with
    | some old =>
      simp only [Option.isSome_some, if_true, Option.getD_some, Bool.not_true, Bool.false_eq_true, if_false]
      unfold env_Env_Set_m0.j11 env_Env_Set_m0.j9
      rw [hm]
      simp only [Option.isSome_some, Bool.not_true, Bool.false_eq_true, if_false]
      by_cases h : old.f_Level > v.f_Level
      · rw [if_pos (by rw [decide_eq_true_eq]; exact h), if_pos h]
      · rw [if_neg (by rw [decide_eq_true_eq]; exact h), if_neg h, j5]
    | none =>
      simp only [Option.isSome_none, Bool.false_eq_true, if_false]
      unfold env_Env_Set_m0.j11 env_Env_Set_m0.j9
      rw [hm]
      simp only [Option.isSome_none, Bool.not_false, Bool.false_eq_true, if_false, if_true]
      by_cases h : m.length ≥ 24
      · rw [if_pos (by rw [decide_eq_true_eq]; omega), if_pos h]
      · rw [if_neg (by rw [decide_eq_true_eq]; omega), if_neg h, j5]
  · rw [if_pos (by simpa using h0), if_pos h0]
theorem l24_eq (k : Nat) (w : List Vr) (hw : w.length ≤ 1000) (v : Vr) : ∀ (l : List Vr) (fuel i : Nat) (out : List Vr), w.drop i = l → l.length < fuel → out.length ≤ i →
    millwrightref14_Env_Set_m0.l24 k w v fuel out (i : Int) = some (out ++ l.filter fun x => Op.bytesLess x.f_Name v.f_Name)
  | _, 0, _, _, _, h, _ => by omega
  | [], f + 1, i, out, hl, _, _ => by
    have := at_nil hl
    unfold millwrightref14_Env_Set_m0.l24
    rw [if_neg (by simp; omega)]; simp
  | x :: r, f + 1, i, out, hl, hf, ho => by
    obtain ⟨g1, g2, g3⟩ := at_drop hl
    have ih := fun out h => l24_eq k w hw v r f (i + 1) out g2 (by simpa using hf) h
    unfold millwrightref14_Env_Set_m0.l24 millwrightref14_Env_Set_m0.j30
    rw [if_pos (by simp; exact g3), g1, Option.bind_some, vr_eta, wr1 (by omega), List.filter_cons]
    cases h : Op.bytesLess x.f_Name v.f_Name
    · rw [if_neg (by simp), if_neg (by simp), ih _ (by omega)]
    · rw [if_pos rfl, if_pos rfl, if_pos (lim_ok (by omega)), ih _ (by simp; omega)]; simp
theorem l10_eq (k : Nat) (w : List Vr) (hw : w.length ≤ 1000) (v : Vr) : ∀ (l : List Vr) (fuel i : Nat) (out : List Vr), w.drop i = l → l.length < fuel → out.length ≤ i + 2000 →
    millwrightref14_Env_Set_m0.l10 k w v fuel out (i : Int) = some (out ++ l.filter fun x => !(Op.bytesLess x.f_Name v.f_Name || x.f_Name == v.f_Name))
  | _, 0, _, _, _, h, _ => by omega
  | [], f + 1, i, out, hl, _, _ => by
    have := at_nil hl
    unfold millwrightref14_Env_Set_m0.l10
    rw [if_neg (by simp; omega)]; simp
  | x :: r, f + 1, i, out, hl, hf, ho => by
    obtain ⟨g1, g2, g3⟩ := at_drop hl
    have ih := fun out h => l10_eq k w hw v r f (i + 1) out g2 (by simpa using hf) h
    unfold millwrightref14_Env_Set_m0.l10 millwrightref14_Env_Set_m0.j16
    rw [if_pos (by simp; exact g3), g1, Option.bind_some, vr_eta, wr1 (by omega), List.filter_cons]
    cases h : (!(Op.bytesLess x.f_Name v.f_Name || x.f_Name == v.f_Name))
    · rw [if_neg (by simp), if_neg (by simp), ih _ (by omega)]
    · rw [if_pos rfl, if_pos rfl, if_pos (lim_ok (by omega)), ih _ (by simp; omega)]; simp
theorem asym {a b : List UInt8} (h : Op.bytesLess a b = true) : Op.bytesLess b a = false := by
  cases e : Op.bytesLess b a
  · rfl
  · have := less_trans h e; rw [less_irrefl] at this; cases this
theorem ins_eq (v : Vr) : ∀ m : Mp, Rising m → Keyed m → (vals m).filter (fun x => Op.bytesLess x.f_Name v.f_Name) ++ v :: (vals m).filter (fun x => !(Op.bytesLess x.f_Name v.f_Name || x.f_Name == v.f_Name)) = vals (mput v.f_Name v m)
  | [], _, _ => by simp [vals, mput]
  | y :: r, hr, hk => by
    have hy := hk y List.mem_cons_self
    have hk' : Keyed r := fun z hz => hk z (List.mem_cons_of_mem _ hz)
    obtain ⟨h1, h2⟩ := List.pairwise_cons.1 hr
    have ih := ins_eq v r h2 hk'
    have hmem : ∀ x ∈ vals r, Op.bytesLess y.1 x.f_Name = true := fun x hx => by
      obtain ⟨z, hz, rfl⟩ := List.mem_map.1 hx
      rw [← hk' z hz]; exact h1 z hz
    have big : (Op.bytesLess v.f_Name y.1 = true ∨ y.1 = v.f_Name) → (vals r).filter (fun x => Op.bytesLess x.f_Name v.f_Name) = [] ∧ (vals r).filter (fun x => !(Op.bytesLess x.f_Name v.f_Name || x.f_Name == v.f_Name)) = vals r := fun hb => by
      have hlt : ∀ x ∈ vals r, Op.bytesLess v.f_Name x.f_Name = true := fun x hx => by
        rcases hb with hb | hb
        · exact less_trans hb (hmem x hx)
        · rw [← hb]; exact hmem x hx
      refine ⟨List.filter_eq_nil_iff.2 fun x hx => by rw [asym (hlt x hx)]; simp, List.filter_eq_self.2 fun x hx => ?_⟩
      rw [asym (hlt x hx)]
      have := less_ne (hlt x hx)
      simp; exact fun e => this e.symm
    have ev : vals (y :: r) = y.2 :: vals r := rfl
    rw [ev, List.filter_cons, List.filter_cons, ← hy]
    by_cases he : y.1 = v.f_Name
    · obtain ⟨b1, b2⟩ := big (.inr he)
      have e1 : Op.bytesLess y.1 v.f_Name = false := by rw [he]; exact less_irrefl _
      rw [b1, b2, if_neg (by simp [e1]), if_neg (by simp [he])]
      unfold mput
      rw [if_pos he]; rfl
    · rcases less_total he with h | h
      · rw [if_pos h, if_neg (by simp [h])]
        have := asym h
        unfold mput
        rw [if_neg he, if_neg (by simp [this]), List.cons_append, ih]; rfl
      · obtain ⟨b1, b2⟩ := big (.inl h)
        have := asym h
        rw [if_neg (by simp [this]), if_pos (by simp [this, he]), b1, b2]
        unfold mput
        rw [if_neg he, if_pos h]; rfl
theorem rset_eq (k : Nat) (hk : 2000 < k) (m : Mp) (hg : Good m) (hm : m.length ≤ 500) (v : Vr) (h1 : v.f_Name.length ≤ 1000) (h2 : v.f_Words.length ≤ 1000) : millwrightref14_Env_Set_m0.f k (vals m) v = some (((setS m v).1 : Int), vals (setS m v).2) := by
  have hv := vals_len m
  unfold millwrightref14_Env_Set_m0.f setS
  rw [vr_eta, rcheck_eq k (by omega) v h1 h2, Option.bind_some]
  by_cases h0 : chk v = 0
  · rw [h0, if_neg (show ¬ (((0 : Nat) : Int) != 0) = true by decide), if_neg (show ¬ (0 : Nat) ≠ 0 by simp), at_eq k _ _ (by omega) (by omega), Option.bind_some]
    have e35 : millwrightref14_Env_Set_m0.j35 k (vals m) v = some (0, vals (mput v.f_Name v m)) := by
      unfold millwrightref14_Env_Set_m0.j35 millwrightref14_Env_Set_m0.j21 millwrightref14_Env_Set_m0.j7
      have e0 : millwrightref14_Env_Set_m0.l24 k (vals m) v k [] 0 = _ := l24_eq k (vals m) (by omega) v (vals m) k 0 [] rfl (by omega) (by simp)
      have hfl := List.length_filter_le (fun x => Op.bytesLess x.f_Name v.f_Name) (vals m)
      have e1 : millwrightref14_Env_Set_m0.l10 k (vals m) v k ((vals m).filter (fun x => Op.bytesLess x.f_Name v.f_Name) ++ [v]) 0 = _ := l10_eq k (vals m) (by omega) v (vals m) k 0 _ rfl (by omega) (by simp; omega)
      rw [e0, List.nil_append, Option.bind_some, vr_eta, if_pos (lim_ok (by omega)), e1, Option.bind_some, List.append_assoc, List.singleton_append, ins_eq v m hg.rising hg.keyed]
    rcases atI_spec v.f_Name m hg.keyed with ⟨q1, q2⟩ | ⟨old, j, q1, q2, q3⟩
    · rw [q1, q2, if_neg (by decide)]
      unfold millwrightref14_Env_Set_m0.j43 millwrightref14_Env_Set_m0.j40 millwrightref14_Env_Set_m0.j38
      simp only [Bool.false_eq_true, if_false]
      rw [if_pos (by decide), hv, e35]
      by_cases h : m.length ≥ 24
      · rw [if_pos (by rw [decide_eq_true_eq]; omega), if_pos h]; rfl
      · rw [if_neg (by rw [decide_eq_true_eq]; omega), if_neg h]; rfl
    · have hj : j < (vals m).length := by
        rcases Nat.lt_or_ge j (vals m).length with h | h
        · exact h
        · rw [List.getElem?_eq_none_iff.2 h] at q3; cases q3
      have e3 : (vals m)[j] = old := by rw [List.getElem?_eq_getElem hj] at q3; exact Option.some.inj q3
      rw [q1, q2, if_pos (by rw [decide_eq_true_eq]; omega), idx_at rfl hj, Option.bind_some, e3]
      unfold millwrightref14_Env_Set_m0.j43 millwrightref14_Env_Set_m0.j40 millwrightref14_Env_Set_m0.j38
      simp only [Bool.false_eq_true, if_false]
      by_cases h : old.f_Level > v.f_Level
      · rw [if_pos (by rw [decide_eq_true_eq]; exact h), if_pos h]; rfl
      · rw [if_neg (by rw [decide_eq_true_eq]; exact h), if_neg (by rw [decide_eq_true_eq]; omega), if_neg h, e35]; rfl
  · rw [if_pos (by simpa using h0), if_pos h0]

def vr0 : Vr := ⟨[], [], 0, false⟩
theorem find_eq (k : Nat) (m : Mp) (hg : Good m) (n : List UInt8) : env_Env_Find_m0.f k m n = some ((mget n m).getD vr0, (mget n m).isSome) := by
  unfold env_Env_Find_m0.f
  have hw : ((mget n m).getD (T_env_Var.mk [] [] 0 false)).f_Words.length ≤ 100000 := by
    cases h : mget n m with
    | none => simp
    | some v => have := hg.words _ (mget_mem h); simp only [Option.getD_some]; simp only at this; omega
  rw [vr_eta, apart_eq k hw, Option.bind_some, vr_eta]; rfl
theorem get_eq (k : Nat) (m : Mp) (hg : Good m) (n : List UInt8) : env_Env_Get_m0.f k m n = some ((mget n m).getD vr0).f_Words := by
  unfold env_Env_Get_m0.f
  rw [find_eq k m hg, Option.bind_some]
theorem nlong_eq (k : Nat) (a : List (List UInt8)) (m q : Int) (hm : m ≤ 1000) (hk : 1000 < k) : ∃ b, millwrightnum_Long.f k a m q = some b ∧ (b = false → (a.length : Int) ≤ m) := by
  unfold millwrightnum_Long.f
  by_cases h : decide ((a.length : Int) > m) = true
  · rw [if_pos h]; exact ⟨true, rfl, fun e => by cases e⟩
  · rw [if_neg h]
    have hlen : (a.length : Int) ≤ m := by simpa using h
    have loop : ∀ (l : List (List UInt8)) (fuel i : Nat), a.drop i = l → l.length < fuel → ∃ o, millwrightnum_Long.l4 k a q fuel (i : Int) = some o := by
      intro l
      induction l with
      | nil =>
        intro fuel i hl hf
        obtain ⟨f, rfl⟩ : ∃ f, fuel = f + 1 := ⟨fuel - 1, by omega⟩
        have := at_nil hl
        unfold millwrightnum_Long.l4
        exact ⟨.inl (), by rw [if_neg (by simp; omega)]⟩
      | cons x r ih =>
        intro fuel i hl hf
        obtain ⟨f, rfl⟩ : ∃ f, fuel = f + 1 := ⟨fuel - 1, by omega⟩
        obtain ⟨g1, g2, g3⟩ := at_drop hl
        unfold millwrightnum_Long.l4
        rw [if_pos (by simp; exact g3), g1, Option.bind_some]
        by_cases h : decide ((x.length : Int) > q) = true
        · rw [if_pos h]; exact ⟨_, rfl⟩
        · rw [if_neg h, wr1 (by omega)]
          exact ih f (i + 1) g2 (by simpa using hf)
    obtain ⟨o, ho⟩ := loop a k 0 rfl (by omega)
    have ho' : millwrightnum_Long.l4 k a q k 0 = some o := ho
    rw [ho', Option.bind_some]
    cases o with
    | inl u => exact ⟨_, rfl, fun _ => hlen⟩
    | inr u => exact ⟨_, rfl, fun _ => hlen⟩
def okA (a : Ac) : Prop := a.f_Var.f_Name.length ≤ 60 ∧ a.f_Var.f_Words.length ≤ 60
theorem long_loop (k : Nat) (hk : 1000 < k) (a : List Ac) (ha : a.length ≤ 1000) : ∀ (l : List Ac) (fuel i : Nat), a.drop i = l → l.length < fuel →
    ∃ o, millwrightlaw14_Long.l4 k a fuel (i : Int) = some o ∧ ((o = .inl () ∧ ∀ x ∈ l, okA x) ∨ o = .inr true)
  | _, 0, _, _, h => by omega
  | [], f + 1, i, hl, _ => by
    have := at_nil hl
    unfold millwrightlaw14_Long.l4
    exact ⟨.inl (), by rw [if_neg (by simp; omega)], .inl ⟨rfl, fun x hx => by cases hx⟩⟩
  | x :: r, f + 1, i, hl, hf => by
    obtain ⟨g1, g2, g3⟩ := at_drop hl
    unfold millwrightlaw14_Long.l4 millwrightlaw14_Long.j12 millwrightlaw14_Long.j8
    rw [if_pos (by simp; exact g3), g1, Option.bind_some]
    by_cases h : decide ((x.f_Var.f_Name.length : Int) > 60) = true
    · rw [if_pos h, if_pos rfl]; exact ⟨_, rfl, .inr rfl⟩
    · rw [if_neg h]
      obtain ⟨b, e1, e2⟩ := nlong_eq k x.f_Var.f_Words 60 200 (by omega) hk
      rw [e1, Option.bind_some]
      cases b with
      | true => exact ⟨_, rfl, .inr rfl⟩
      | false =>
        rw [if_neg (by decide), wr1 (by omega)]
        obtain ⟨o, o1, o2⟩ := long_loop k hk a ha r f (i + 1) g2 (by simpa using hf)
        refine ⟨o, o1, ?_⟩
        rcases o2 with ⟨o2, o3⟩ | o2
        · refine .inl ⟨o2, fun y hy => ?_⟩
          rcases List.mem_cons.1 hy with rfl | hy
          · have := e2 rfl
            simp at h
            exact ⟨by omega, by omega⟩
          · exact o3 y hy
        · exact .inr o2
theorem long_f (k : Nat) (hk : 1000 < k) (a : List Ac) (m : Int) (hm : m ≤ 60) : ∃ b, millwrightlaw14_Long.f k a m = some b ∧ (b = false → (a.length : Int) ≤ m ∧ ∀ x ∈ a, okA x) := by
  unfold millwrightlaw14_Long.f
  by_cases h : decide ((a.length : Int) > m) = true
  · rw [if_pos h]; exact ⟨true, rfl, fun e => by cases e⟩
  · rw [if_neg h]
    have hlen : (a.length : Int) ≤ m := by simpa using h
    obtain ⟨o, o1, o2⟩ := long_loop k hk a (by omega) a k 0 rfl (by omega)
    have o1' : millwrightlaw14_Long.l4 k a k 0 = some o := o1
    rw [o1', Option.bind_some]
    rcases o2 with ⟨rfl, o3⟩ | rfl
    · exact ⟨false, rfl, fun _ => ⟨hlen, o3⟩⟩
    · exact ⟨true, rfl, fun e => by cases e⟩

theorem index_loop1 (k : Nat) (a : List (List UInt8)) (ha : a.length ≤ 100000) : ∀ (l : List (List UInt8)) (fuel i : Nat), a.drop i = l → l.length < fuel → slices_IndexFunc_string_string_m1.l3 k a fuel (i : Int) = some (fw l i)
  | _, 0, _, _, h => by omega
  | [], f + 1, i, hl, _ => by
    have := at_nil hl
    unfold slices_IndexFunc_string_string_m1.l3
    rw [if_neg (by simp; omega)]; rfl
  | x :: r, f + 1, i, hl, hf => by
    obtain ⟨g1, g2, g3⟩ := at_drop hl
    unfold slices_IndexFunc_string_string_m1.l3 fw
    rw [if_pos (by simp; exact g3), g1]
    simp only [Option.bind_some, subst_List_1.f]
    rw [wr1 (by omega), index_loop1 k a ha r f (i + 1) g2 (by simpa using hf)]
    by_cases h : 120 < x.length
    · rw [if_pos (by rw [decide_eq_true_eq]; omega), if_pos h]
    · rw [if_neg (by rw [decide_eq_true_eq]; omega), if_neg h]
theorem contains_eq1 (k : Nat) (a : List (List UInt8)) (ha : a.length ≤ 100000) (hk : a.length < k) : slices_ContainsFunc_string_string_m1.f k a = some (anyLong a) := by
  unfold slices_ContainsFunc_string_string_m1.f slices_IndexFunc_string_string_m1.f slices_IndexFunc_string_string_m1.j1
  have ho' : slices_IndexFunc_string_string_m1.l3 k a k 0 = _ := index_loop1 k a ha a k 0 rfl hk
  rw [ho', Option.bind_some]
  rcases fw_spec a 0 with ⟨h1, h2⟩ | ⟨h1, j, h2⟩
  · rw [h1, h2]; rfl
  · rw [h1, h2]; simp
theorem index_loop2 (k : Nat) (a : List (List UInt8)) (ha : a.length ≤ 100000) : ∀ (l : List (List UInt8)) (fuel i : Nat), a.drop i = l → l.length < fuel → slices_IndexFunc_string_string_m2.l3 k a fuel (i : Int) = some (fw l i)
  | _, 0, _, _, h => by omega
  | [], f + 1, i, hl, _ => by
    have := at_nil hl
    unfold slices_IndexFunc_string_string_m2.l3
    rw [if_neg (by simp; omega)]; rfl
  | x :: r, f + 1, i, hl, hf => by
    obtain ⟨g1, g2, g3⟩ := at_drop hl
    unfold slices_IndexFunc_string_string_m2.l3 fw
    rw [if_pos (by simp; exact g3), g1]
    simp only [Option.bind_some, expand_bounded_1.f]
    rw [wr1 (by omega), index_loop2 k a ha r f (i + 1) g2 (by simpa using hf)]
    by_cases h : 120 < x.length
    · rw [if_pos (by rw [decide_eq_true_eq]; omega), if_pos h]
    · rw [if_neg (by rw [decide_eq_true_eq]; omega), if_neg h]
theorem contains_eq2 (k : Nat) (a : List (List UInt8)) (ha : a.length ≤ 100000) (hk : a.length < k) : slices_ContainsFunc_string_string_m2.f k a = some (anyLong a) := by
  unfold slices_ContainsFunc_string_string_m2.f slices_IndexFunc_string_string_m2.f slices_IndexFunc_string_string_m2.j1
  have ho' : slices_IndexFunc_string_string_m2.l3 k a k 0 = _ := index_loop2 k a ha a k 0 rfl hk
  rw [ho', Option.bind_some]
  rcases fw_spec a 0 with ⟨h1, h2⟩ | ⟨h1, j, h2⟩
  · rw [h1, h2]; rfl
  · rw [h1, h2]; simp
end Go.Proofs.YtldepagjdbcmgaaGreatDoor.Ev
