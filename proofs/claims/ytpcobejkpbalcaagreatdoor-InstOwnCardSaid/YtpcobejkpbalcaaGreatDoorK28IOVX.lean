/- Tables of rules: the code, told plainly. -/
import Derived.Test.YtpcobejkpbalcaaGreatDoorK28IOVU
import Derived.Test.YtpcobejkpbalcaaGreatDoorK28IOVP
import Derived.Test.YtpcobejkpbalcaaGreatDoorK28IOVQF
namespace Go.Proofs.YtpcobejkpbalcaaGreatDoor.Tb
open Go Go.AM Go.ChangeShapes Go.ChangeAt Go.RowKit
set_option linter.unusedVariables false
set_option linter.unusedSimpArgs false
set_option maxRecDepth 100000
set_option maxHeartbeats 1000000
abbrev Tx := List UInt8
abbrev Ru := T_load_Rule
theorem ru_eta (r : Ru) : T_load_Rule.mk r.f_Targets r.f_Prereqs (T_attr_Attr.mk r.f_Attr.f_Flags r.f_Attr.f_Prog) r.f_Recipe r.f_File r.f_Line = r := by
  cases r; rename_i a _ _ _; cases a; rfl
def okB (b : UInt8) : Bool := !(decide (b.toNat < 33)) && !(decide (b.toNat > 126))
def right (s : List UInt8) : Bool := decide (1 ≤ s.length) && (decide (s.length ≤ 40) && s.all okB)
theorem right_loop (k : Nat) (s : List UInt8) (hs : s.length ≤ 100000) : ∀ (l : List UInt8) (fuel i : Nat), s.drop i = l → l.length < fuel → names_Right.l3 k s fuel (i : Int) = some (if l.all okB then .inl () else .inr false)
  | _, 0, _, _, h => by omega
  | [], f + 1, i, hl, _ => by
    have := Nl.at_nil hl
    unfold names_Right.l3
    rw [if_neg (by simp; omega)]; rfl
  | x :: r, f + 1, i, hl, hf => by
    obtain ⟨g1, g2, g3⟩ := Nl.at_drop hl
    have ih := right_loop k s hs r f (i + 1) g2 (by simpa using hf)
    unfold names_Right.l3 names_Right.j10 names_Right.j7
    rw [if_pos (by simp; exact g3), g1, Option.bind_some, Nl.wr1 (by omega), ih, Option.bind_some]
    by_cases h1 : x.toNat < 33
    · rw [if_pos (by simp; omega)]
      have : okB x = false := by unfold okB; simp [h1]
      simp [this]
    · rw [if_neg (by simp; omega)]
      by_cases h2 : x.toNat > 126
      · have : okB x = false := by unfold okB; simp [h2]
        rw [if_pos (by simp; omega)]; simp [this]
      · have : okB x = true := by unfold okB; simp [h1, h2]
        rw [if_neg (by simp; omega)]; simp [this]
theorem right_eq (k : Nat) (hk : 100 < k) (s : List UInt8) : names_Right.f k s = some (right s) := by
  unfold names_Right.f names_Right.j19 names_Right.j16 names_Right.j1 right
  by_cases h1 : s.length < 1
  · have h1' : decide ((s.length : Int) < 1) = true := by rw [decide_eq_true_eq]; omega
    rw [if_pos h1', if_pos rfl]
    have : decide (1 ≤ s.length) = false := by rw [decide_eq_false_iff_not]; omega
    rw [this]; rfl
  · rw [if_neg (by simp; omega)]
    have e1 : decide (1 ≤ s.length) = true := by simp; omega
    rw [e1]
    by_cases h2 : s.length > 40
    · rw [if_pos (by simp; omega)]
      have : decide (s.length ≤ 40) = false := by simp; omega
      rw [this]; rfl
    · rw [if_neg (by simp; omega)]
      have e2 : decide (s.length ≤ 40) = true := by simp; omega
      have e0 : names_Right.l3 k s k 0 = _ := right_loop k s (by omega) s k 0 rfl (by omega)
      rw [e0, e2]
      cases s.all okB <;> rfl

def strange (s : Tx) : Bool := !right s
def wildP (s : Tx) : Bool := decide (St.wildI s ≥ 0)
theorem kind1_eq (k : Nat) (s : Tx) (hs : s.length ≤ 10000) (hk : s.length < k) : table_Kind_1.f k s = some (wildP s) := by
  unfold table_Kind_1.f wildP
  rw [St.Wild_eq k s (by omega) hk]; rfl
theorem check1_eq (k : Nat) (hk : 100 < k) (s : Tx) : table_check_1.f k s = some (strange s) := by
  unfold table_check_1.f strange
  rw [right_eq k hk]; rfl
theorem at1_eq (k : Nat) (hk : 100 < k) (s : Tx) : inst_At_1.f k s = some (strange s) := by
  unfold inst_At_1.f strange
  rw [right_eq k hk]; rfl
theorem ix_m0 (k : Nat) (hk : 1000 < k) (a : List Tx) (ha : a.length ≤ 500) (hs : ∀ x ∈ a, x.length ≤ 10000 ∨ wildP = strange) (hk2 : 10100 < k) : ∀ (l : List Tx) (fuel i : Nat), a.drop i = l → l.length < fuel → ∃ o, slices_IndexFunc_string_string_m0.l3 k a fuel (i : Int) = some o ∧ ((l.any wildP = false ∧ o = .inl ()) ∨ (l.any wildP = true ∧ ∃ j : Nat, o = .inr (j : Int)))
  | _, 0, _, _, h => by omega
  | [], f + 1, i, hl, _ => by
    have := Nl.at_nil hl
    unfold slices_IndexFunc_string_string_m0.l3
    exact ⟨_, by rw [if_neg (by simp; omega)], .inl ⟨rfl, rfl⟩⟩
  | c :: r, f + 1, i, hl, hf => by
    obtain ⟨g1, g2, g3⟩ := Nl.at_drop hl
    obtain ⟨o, e, h⟩ := ix_m0 k hk a ha hs hk2 r f (i + 1) g2 (by simpa using hf)
    have hc : c ∈ a := by
      have : c ∈ a.drop i := by rw [hl]; exact List.mem_cons_self
      exact List.mem_of_mem_drop this
    unfold slices_IndexFunc_string_string_m0.l3
    rw [if_pos (by simp; exact g3), g1, Option.bind_some, kind1_eq k c (by rcases hs c hc with h | h; exact h; exact absurd (congrFun h [37]) (by decide)) (by rcases hs c hc with h | h; omega; exact absurd (congrFun h [37]) (by decide)), Option.bind_some, Nl.wr1 (by omega), e, List.any_cons]
    cases hd : wildP c with
    | true => exact ⟨_, rfl, .inr ⟨rfl, i, rfl⟩⟩
    | false =>
      rw [if_neg (by decide)]
      exact ⟨o, rfl, h⟩
theorem any_m0 (k : Nat) (hk2 : 10100 < k) (a : List Tx) (ha : a.length ≤ 500) (hs : ∀ x ∈ a, x.length ≤ 10000 ∨ wildP = strange) : slices_ContainsFunc_string_string_m0.f k a = some (a.any wildP) := by
  obtain ⟨o, e, h⟩ := ix_m0 k (by omega) a ha hs hk2 a k 0 rfl (by omega)
  unfold slices_ContainsFunc_string_string_m0.f slices_IndexFunc_string_string_m0.f slices_IndexFunc_string_string_m0.j1
  have e : slices_IndexFunc_string_string_m0.l3 k a k 0 = some o := e
  rw [e]
  rcases h with ⟨h1, rfl⟩ | ⟨h1, j, rfl⟩
  · rw [h1]; rfl
  · rw [h1]; simp
theorem ix_m1 (k : Nat) (hk : 1000 < k) (a : List Tx) (ha : a.length ≤ 500) (hs : ∀ x ∈ a, x.length ≤ 10000 ∨ strange = strange) (hk2 : 10100 < k) : ∀ (l : List Tx) (fuel i : Nat), a.drop i = l → l.length < fuel → ∃ o, slices_IndexFunc_string_string_m1.l3 k a fuel (i : Int) = some o ∧ ((l.any strange = false ∧ o = .inl ()) ∨ (l.any strange = true ∧ ∃ j : Nat, o = .inr (j : Int)))
  | _, 0, _, _, h => by omega
  | [], f + 1, i, hl, _ => by
    have := Nl.at_nil hl
    unfold slices_IndexFunc_string_string_m1.l3
    exact ⟨_, by rw [if_neg (by simp; omega)], .inl ⟨rfl, rfl⟩⟩
  | c :: r, f + 1, i, hl, hf => by
    obtain ⟨g1, g2, g3⟩ := Nl.at_drop hl
    obtain ⟨o, e, h⟩ := ix_m1 k hk a ha hs hk2 r f (i + 1) g2 (by simpa using hf)
    have hc : c ∈ a := by
      have : c ∈ a.drop i := by rw [hl]; exact List.mem_cons_self
      exact List.mem_of_mem_drop this
    unfold slices_IndexFunc_string_string_m1.l3
    rw [if_pos (by simp; exact g3), g1, Option.bind_some, check1_eq k (by omega) c, Option.bind_some, Nl.wr1 (by omega), e, List.any_cons]
    cases hd : strange c with
    | true => exact ⟨_, rfl, .inr ⟨rfl, i, rfl⟩⟩
    | false =>
      rw [if_neg (by decide)]
      exact ⟨o, rfl, h⟩
theorem any_m1 (k : Nat) (hk2 : 10100 < k) (a : List Tx) (ha : a.length ≤ 500) (hs : ∀ x ∈ a, x.length ≤ 10000 ∨ strange = strange) : slices_ContainsFunc_string_string_m1.f k a = some (a.any strange) := by
  obtain ⟨o, e, h⟩ := ix_m1 k (by omega) a ha hs hk2 a k 0 rfl (by omega)
  unfold slices_ContainsFunc_string_string_m1.f slices_IndexFunc_string_string_m1.f slices_IndexFunc_string_string_m1.j1
  have e : slices_IndexFunc_string_string_m1.l3 k a k 0 = some o := e
  rw [e]
  rcases h with ⟨h1, rfl⟩ | ⟨h1, j, rfl⟩
  · rw [h1]; rfl
  · rw [h1]; simp
theorem ix_m2 (k : Nat) (hk : 1000 < k) (a : List Tx) (ha : a.length ≤ 500) (hs : ∀ x ∈ a, x.length ≤ 10000 ∨ strange = strange) (hk2 : 10100 < k) : ∀ (l : List Tx) (fuel i : Nat), a.drop i = l → l.length < fuel → ∃ o, slices_IndexFunc_string_string_m2.l3 k a fuel (i : Int) = some o ∧ ((l.any strange = false ∧ o = .inl ()) ∨ (l.any strange = true ∧ ∃ j : Nat, o = .inr (j : Int)))
  | _, 0, _, _, h => by omega
  | [], f + 1, i, hl, _ => by
    have := Nl.at_nil hl
    unfold slices_IndexFunc_string_string_m2.l3
    exact ⟨_, by rw [if_neg (by simp; omega)], .inl ⟨rfl, rfl⟩⟩
  | c :: r, f + 1, i, hl, hf => by
    obtain ⟨g1, g2, g3⟩ := Nl.at_drop hl
    obtain ⟨o, e, h⟩ := ix_m2 k hk a ha hs hk2 r f (i + 1) g2 (by simpa using hf)
    have hc : c ∈ a := by
      have : c ∈ a.drop i := by rw [hl]; exact List.mem_cons_self
      exact List.mem_of_mem_drop this
    unfold slices_IndexFunc_string_string_m2.l3
    rw [if_pos (by simp; exact g3), g1, Option.bind_some, at1_eq k (by omega) c, Option.bind_some, Nl.wr1 (by omega), e, List.any_cons]
    cases hd : strange c with
    | true => exact ⟨_, rfl, .inr ⟨rfl, i, rfl⟩⟩
    | false =>
      rw [if_neg (by decide)]
      exact ⟨o, rfl, h⟩
theorem any_m2 (k : Nat) (hk2 : 10100 < k) (a : List Tx) (ha : a.length ≤ 500) (hs : ∀ x ∈ a, x.length ≤ 10000 ∨ strange = strange) : slices_ContainsFunc_string_string_m2.f k a = some (a.any strange) := by
  obtain ⟨o, e, h⟩ := ix_m2 k (by omega) a ha hs hk2 a k 0 rfl (by omega)
  unfold slices_ContainsFunc_string_string_m2.f slices_IndexFunc_string_string_m2.f slices_IndexFunc_string_string_m2.j1
  have e : slices_IndexFunc_string_string_m2.l3 k a k 0 = some o := e
  rw [e]
  rcases h with ⟨h1, rfl⟩ | ⟨h1, j, rfl⟩
  · rw [h1]; rfl
  · rw [h1]; simp
def SmallT (l : List Tx) : Prop := l.length ≤ 12 ∧ ∀ x ∈ l, x.length ≤ 130
def Small (r : Ru) : Prop := SmallT r.f_Targets ∧ SmallT r.f_Prereqs
theorem long1_loop (k : Nat) (a : List Tx) (m : Nat) (ha : a.length ≤ 10000) : ∀ (l : List Tx) (fuel i : Nat), a.drop i = l → l.length < fuel → ∃ o, millwrightnum_Long.l4 k a (m : Int) fuel (i : Int) = some o ∧ ((o = .inr true) ∨ (o = .inl () ∧ ∀ x ∈ l, x.length ≤ m))
  | _, 0, _, _, h => by omega
  | [], f + 1, i, hl, _ => by
    have := Nl.at_nil hl
    unfold millwrightnum_Long.l4
    exact ⟨_, by rw [if_neg (by simp; omega)], .inr ⟨rfl, fun x h => by cases h⟩⟩
  | c :: r, f + 1, i, hl, hf => by
    obtain ⟨g1, g2, g3⟩ := Nl.at_drop hl
    obtain ⟨o, e, h⟩ := long1_loop k a m ha r f (i + 1) g2 (by simpa using hf)
    unfold millwrightnum_Long.l4
    rw [if_pos (by simp; exact g3), g1, Option.bind_some, Nl.wr1 (by omega), e]
    by_cases hc : c.length > m
    · rw [if_pos (by simp; omega)]; exact ⟨_, rfl, .inl rfl⟩
    · rw [if_neg (by simp; omega)]
      refine ⟨o, rfl, ?_⟩
      rcases h with h | ⟨h1, h2⟩
      · exact .inl h
      · refine .inr ⟨h1, fun x hx => ?_⟩
        rcases List.mem_cons.1 hx with rfl | hx
        · omega
        · exact h2 x hx
theorem long1_eq (k : Nat) (hk : 10100 < k) (a : List Tx) (n m : Nat) (hn : n ≤ 10000) : ∃ b, millwrightnum_Long.f k a (n : Int) (m : Int) = some b ∧ (b = false → a.length ≤ n ∧ ∀ x ∈ a, x.length ≤ m) := by
  unfold millwrightnum_Long.f
  by_cases h : a.length > n
  · exact ⟨true, by rw [if_pos (by simp; omega)], fun h => by cases h⟩
  · obtain ⟨o, e, h1⟩ := long1_loop k a m (by omega) a k 0 rfl (by omega)
    have e : millwrightnum_Long.l4 k a (m : Int) k 0 = some o := e
    rw [if_neg (by simp; omega), e]
    rcases h1 with rfl | ⟨rfl, h2⟩
    · exact ⟨true, rfl, fun h => by cases h⟩
    · exact ⟨false, rfl, fun _ => ⟨by omega, h2⟩⟩
theorem long2_loop (k : Nat) (hk : 10100 < k) (a : List Ru) (ha : a.length ≤ 1000) : ∀ (l : List Ru) (fuel i : Nat), a.drop i = l → l.length < fuel → ∃ o, millwrightlaw21_Long.l4 k a fuel (i : Int) = some o ∧ ((o = .inr true) ∨ (o = .inl () ∧ ∀ r ∈ l, Small r))
  | _, 0, _, _, h => by omega
  | [], f + 1, i, hl, _ => by
    have := Nl.at_nil hl
    unfold millwrightlaw21_Long.l4
    exact ⟨_, by rw [if_neg (by simp; omega)], .inr ⟨rfl, fun x h => by cases h⟩⟩
  | c :: r, f + 1, i, hl, hf => by
    obtain ⟨g1, g2, g3⟩ := Nl.at_drop hl
    obtain ⟨o, e, h⟩ := long2_loop k hk a ha r f (i + 1) g2 (by simpa using hf)
    obtain ⟨b1, e1, h1⟩ := long1_eq k hk c.f_Targets 12 130 (by omega)
    obtain ⟨b2, e2, h2⟩ := long1_eq k hk c.f_Prereqs 12 130 (by omega)
    have e1 : millwrightnum_Long.f k c.f_Targets 12 130 = some b1 := e1
    have e2 : millwrightnum_Long.f k c.f_Prereqs 12 130 = some b2 := e2
    have jn : ∀ v, (b1 = false ∧ b2 = false ∨ v = true) → ∃ o, millwrightlaw21_Long.j12 k (millwrightlaw21_Long.l4 k a f) a (i : Int) v = some o ∧ ((o = .inr true) ∨ (o = .inl () ∧ ∀ r' ∈ c :: r, Small r')) := fun v hv => by
      unfold millwrightlaw21_Long.j12 millwrightlaw21_Long.j8
      cases v with
      | true => exact ⟨_, rfl, .inl rfl⟩
      | false =>
        rw [if_neg (by decide), Nl.wr1 (by omega), e]
        refine ⟨o, rfl, ?_⟩
        rcases h with h | ⟨h3, h4⟩
        · exact .inl h
        · refine .inr ⟨h3, fun x hx => ?_⟩
          rcases hv with ⟨v1, v2⟩ | hv
          · rcases List.mem_cons.1 hx with rfl | hx
            · exact ⟨h1 v1, h2 v2⟩
            · exact h4 x hx
          · cases hv
    unfold millwrightlaw21_Long.l4
    rw [if_pos (by simp; exact g3), g1, Option.bind_some, e1, Option.bind_some, e2]
    cases b1 with
    | true => exact jn true (.inr rfl)
    | false =>
      rw [if_neg (by decide), Option.bind_some]
      cases b2 with
      | true => exact jn true (.inr rfl)
      | false =>
        rw [if_neg (by decide)]
        have l := fun v => jn v (.inl ⟨rfl, rfl⟩)
        split
        · exact l _
        split
        · exact l _
        split
        · exact l _
        split
        · exact l _
        · exact l _
theorem long2_eq (k : Nat) (hk : 10100 < k) (a : List Ru) (n : Nat) (hn : n ≤ 1000) : ∃ b, millwrightlaw21_Long.f k a (n : Int) = some b ∧ (b = false → a.length ≤ n ∧ ∀ r ∈ a, Small r) := by
  unfold millwrightlaw21_Long.f
  by_cases h : a.length > n
  · exact ⟨true, by rw [if_pos (by simp; omega)], fun h => by cases h⟩
  · obtain ⟨o, e, h1⟩ := long2_loop k hk a (by omega) a k 0 rfl (by omega)
    have e : millwrightlaw21_Long.l4 k a k 0 = some o := e
    rw [if_neg (by simp; omega), e]
    rcases h1 with rfl | ⟨rfl, h2⟩
    · exact ⟨true, rfl, fun h => by cases h⟩
    · exact ⟨false, rfl, fun _ => ⟨by omega, h2⟩⟩
def exE (s : Tx) : Nat := (Rx.parseC s).2
def progS (s : Tx) : List PI := progN (Rx.parseC s).1
theorem of_eq (s : Tx) : prog_Of.f 20000 s = some (if exE s = 0 then (progS s, 0) else ([], exE s)) := by
  unfold prog_Of.f exE progS
  rw [Rx.parse_eq 20000 (by omega) s, Option.bind_some]
  by_cases h : (Rx.parseC s).2 = 0
  · obtain ⟨g1, g2, g3⟩ := Rx.parse_good (s := s) (n := (Rx.parseC s).1) (by rw [← h])
    rw [if_neg (by simp [h]), if_pos h, rn_eta, compile_f _ g2, if_pos g1, if_neg (by omega)]; rfl
  · rw [if_pos (by simpa using h), if_neg h]
def kdS (r : Ru) : Int := if (bits .and .i64 r.f_Attr.f_Flags 32 == 32) = true then 2 else if r.f_Targets.any wildP then 1 else 0
theorem kind_eq (k : Nat) (hk : 10100 < k) (r : Ru) (hr : Small r) : table_Kind.f k r = some (kdS r) := by
  unfold table_Kind.f attr_Attr_Has.f kdS
  have := any_m0 k hk r.f_Targets (by have := hr.1.1; omega) (fun x hx => .inl (by have := hr.1.2 x hx; omega))
  rw [Option.bind_some, this, Option.bind_some]
  simp only
  split
  · rfl
  · split <;> rfl
def errs : List Tx → Nat
  | [] => 0
  | s :: t => if exE s = 0 then errs t else exE s
theorem errs_loop (r : Ru) (hr : r.f_Targets.length ≤ 1000) : ∀ (l : List Tx) (fuel i : Nat), r.f_Targets.drop i = l → l.length < fuel → table_check.l3 20000 r fuel (i : Int) = some (if errs l = 0 then .inl () else .inr (errs l))
  | _, 0, _, _, h => by omega
  | [], f + 1, i, hl, _ => by
    have := Nl.at_nil hl
    unfold table_check.l3
    rw [if_neg (by simp; omega)]; rfl
  | c :: t, f + 1, i, hl, hf => by
    obtain ⟨g1, g2, g3⟩ := Nl.at_drop hl
    unfold table_check.l3
    rw [if_pos (by simp; exact g3), g1, Option.bind_some, of_eq, Option.bind_some, Nl.wr1 (by omega), errs_loop r hr t f (i + 1) g2 (by simpa using hf)]
    unfold errs
    by_cases h : exE c = 0
    · rw [if_pos h, if_pos h, if_neg (by simp)]
      cases t <;> rfl
    · rw [if_neg h, if_neg h, if_pos (by simpa using h), if_neg h]
def chkS (r : Ru) : Nat :=
  if r.f_Targets.length = 0 then 3 else if kdS r = 0 ∧ (r.f_Targets.any strange || r.f_Prereqs.any strange) = true then 4 else if kdS r ≠ 2 then 0 else errs r.f_Targets
theorem check_eq (r : Ru) (hr : Small r) : table_check.f 20000 r = some (chkS r) := by
  have hl := hr.1.1
  have hl2 := hr.2.1
  have a1 := any_m1 20000 (by omega) r.f_Targets (by omega) (fun x hx => .inr rfl)
  have a2 := any_m1 20000 (by omega) r.f_Prereqs (by omega) (fun x hx => .inr rfl)
  have el : table_check.l3 20000 r 20000 0 = _ := errs_loop r (by omega) r.f_Targets 20000 0 rfl (by omega)
  have j12 : table_check.j12 20000 r = some (errs r.f_Targets) := by
    unfold table_check.j12 table_check.j1
    rw [el]
    by_cases h : errs r.f_Targets = 0
    · rw [if_pos h, h]; rfl
    · rw [if_neg h]; rfl
  unfold table_check.f chkS
  rw [ru_eta, kind_eq 20000 (by omega) r hr, Option.bind_some]
  by_cases h0 : r.f_Targets.length = 0
  · rw [if_pos (show ((r.f_Targets.length : Int) == 0) = true by rw [beq_iff_eq]; omega), if_pos h0]
  rw [if_neg (show ¬ ((r.f_Targets.length : Int) == 0) = true by rw [beq_iff_eq]; omega), if_neg h0]
  have j18 : ∀ v, table_check.j18 20000 r (kdS r) v = some (if v = true then 4 else if kdS r ≠ 2 then 0 else errs r.f_Targets) := fun v => by
    unfold table_check.j18
    cases v with
    | true => rfl
    | false =>
      show (if (kdS r != 2) = true then some 0 else table_check.j12 20000 r) = some (if kdS r ≠ 2 then 0 else errs r.f_Targets)
      rw [j12]
      by_cases h2 : kdS r = 2
      · rw [if_neg (by simp [h2]), if_neg (by simp [h2])]
      · rw [if_pos (by simpa using h2), if_pos h2]
  by_cases hk0 : kdS r = 0
  · rw [if_pos (show (kdS r == 0) = true by simpa using hk0), a1, Option.bind_some, a2, Option.bind_some, j18, j18]
    cases r.f_Targets.any strange <;> cases r.f_Prereqs.any strange <;> simp [hk0]
  · rw [if_neg (show ¬ (kdS r == 0) = true by simpa using hk0), j18]
    simp [hk0]
def idlS (r : Ru) : Bool := decide (kdS r ≠ 0) && (r.f_Prereqs.length == 0 && r.f_Recipe == [])
theorem idle_eq (k : Nat) (hk : 10100 < k) (r : Ru) (hr : Small r) : table_idle.f k r = some (idlS r) := by
  unfold table_idle.f idlS
  rw [ru_eta, kind_eq k hk r hr, Option.bind_some]
  by_cases h : kdS r = 0
  · rw [if_neg (show ¬ (kdS r != 0) = true by simp [h])]; simp [h]
  · rw [if_pos (show (kdS r != 0) = true by simpa using h)]
    by_cases h2 : r.f_Prereqs.length = 0
    · rw [if_pos (show ((r.f_Prereqs.length : Int) == 0) = true by rw [beq_iff_eq]; omega)]; simp [h, h2]
    · rw [if_neg (show ¬ ((r.f_Prereqs.length : Int) == 0) = true by rw [beq_iff_eq]; omega)]
      have : (r.f_Prereqs.length == 0) = false := by simpa using h2
      rw [this]; simp
theorem eq_loop (k : Nat) (a b : List Tx) (hab : a.length = b.length) (ha : a.length ≤ 1000) : ∀ (l m : List Tx) (fuel i : Nat), a.drop i = l → b.drop i = m → l.length < fuel → slices_Equal_string_string.l4 k a b fuel (i : Int) = some (if l == m then .inl () else .inr false)
  | _, _, 0, _, _, _, h => by omega
  | [], m, f + 1, i, hl, hm, _ => by
    have := Nl.at_nil hl
    have hm' : m = [] := by rw [← hm]; exact List.drop_of_length_le (by omega)
    subst hm'
    unfold slices_Equal_string_string.l4
    rw [if_neg (by simp; omega)]; rfl
  | x :: r, [], f + 1, i, hl, hm, _ => by
    obtain ⟨_, _, g3⟩ := Nl.at_drop hl
    have := Nl.at_nil hm
    omega
  | x :: r, y :: q, f + 1, i, hl, hm, hf => by
    obtain ⟨g1, g2, g3⟩ := Nl.at_drop hl
    obtain ⟨d1, d2, d3⟩ := Nl.at_drop hm
    unfold slices_Equal_string_string.l4
    rw [if_pos (by simp; exact g3), g1, Option.bind_some, d1, Option.bind_some, Nl.wr1 (by omega), eq_loop k a b hab ha r q f (i + 1) g2 d2 (by simpa using hf)]
    by_cases h : x = y
    · subst h; simp
    · have : (x == y) = false := by simpa using h
      rw [this, if_pos (by decide)]
      have h2 : (x :: r == y :: q) = false := by simp [h]
      rw [h2]; rfl
theorem equal_eq (k : Nat) (hk : 1100 < k) (a b : List Tx) (ha : a.length ≤ 1000) : slices_Equal_string_string.f k a b = some (a == b) := by
  unfold slices_Equal_string_string.f slices_Equal_string_string.j2
  by_cases h : a.length = b.length
  · have e : slices_Equal_string_string.l4 k a b k 0 = _ := eq_loop k a b h ha a b k 0 rfl rfl (by omega)
    rw [if_neg (by simp; omega), e]
    cases a == b <;> rfl
  · rw [if_pos (by simp; omega)]
    have : (a == b) = false := by simpa using fun e : a = b => h (by rw [e])
    rw [this]
def oneB (x r : Ru) : Bool := (x.f_Attr.f_Flags == r.f_Attr.f_Flags && x.f_Attr.f_Prog == r.f_Attr.f_Prog) && (x.f_Targets == r.f_Targets && x.f_Prereqs == r.f_Prereqs)
theorem one_eq (k : Nat) (hk : 1100 < k) (x r : Ru) (hx : Small x) : table_one.f k x r = some (oneB x r) := by
  have h1 := hx.1.1
  have h2 := hx.2.1
  unfold table_one.f oneB
  rw [equal_eq k hk _ _ (by omega), equal_eq k hk _ _ (by omega)]
  simp only [Bool.and_true, Option.bind_some]
  cases x.f_Attr.f_Flags == r.f_Attr.f_Flags <;> cases x.f_Attr.f_Prog == r.f_Attr.f_Prog <;> cases x.f_Targets == r.f_Targets <;> simp
def fndO (r : Ru) (l : List Ru) (i : Nat) : Sum Unit Int := match l.findIdx? (oneB · r) with | none => .inl () | some j => .inr ((i + j : Nat) : Int)
theorem fndO_cons (x r : Ru) (l : List Ru) (i : Nat) : fndO r (x :: l) i = if oneB x r then .inr (i : Int) else fndO r l (i + 1) := by
  unfold fndO
  rw [List.findIdx?_cons]
  cases oneB x r with
  | true => rfl
  | false =>
    cases l.findIdx? (oneB · r) with
    | none => rfl
    | some j => simp; omega
theorem find_loop (k : Nat) (hk : 1100 < k) (a : List Ru) (ha : a.length ≤ 1000) (hs : ∀ x ∈ a, Small x) (r : Ru) : ∀ (l : List Ru) (fuel i : Nat), a.drop i = l → l.length < fuel →
    load_Rule_m0.l3 k a r.f_Targets r.f_Prereqs r.f_Attr.f_Flags r.f_Attr.f_Prog r.f_Recipe r.f_File r.f_Line fuel (i : Int) = some (fndO r l i)
  | _, 0, _, _, h => by omega
  | [], f + 1, i, hl, _ => by
    have := Nl.at_nil hl
    unfold load_Rule_m0.l3
    rw [if_neg (by simp; omega)]; rfl
  | c :: t, f + 1, i, hl, hf => by
    obtain ⟨g1, g2, g3⟩ := Nl.at_drop hl
    have hc : c ∈ a := by
      have : c ∈ a.drop i := by rw [hl]; exact List.mem_cons_self
      exact List.mem_of_mem_drop this
    unfold load_Rule_m0.l3 table_Table_add_1_m0.f
    rw [if_pos (by simp; exact g3), Nl.rix g1]
    simp only [ru_eta]
    rw [one_eq k hk c r (hs c hc), Option.bind_some, Option.bind_some, Nl.wr1 (by omega), find_loop k hk a ha hs r t f (i + 1) g2 (by simpa using hf), fndO_cons]
    cases oneB c r <;> rfl
def fndI (r : Ru) (l : List Ru) : Int := match l.findIdx? (oneB · r) with | none => -1 | some j => (j : Int)
theorem find_eq (k : Nat) (hk : 1100 < k) (a : List Ru) (ha : a.length ≤ 1000) (hs : ∀ x ∈ a, Small x) (r : Ru) : load_Rule_m0.f k a r.f_Targets r.f_Prereqs r.f_Attr.f_Flags r.f_Attr.f_Prog r.f_Recipe r.f_File r.f_Line = some (fndI r a) := by
  unfold load_Rule_m0.f load_Rule_m0.j1
  have e : load_Rule_m0.l3 k a r.f_Targets r.f_Prereqs r.f_Attr.f_Flags r.f_Attr.f_Prog r.f_Recipe r.f_File r.f_Line k 0 = _ := find_loop k hk a ha hs r a k 0 rfl (by omega)
  rw [e, Option.bind_some]
  unfold fndO fndI
  cases a.findIdx? (oneB · r) with
  | none => rfl
  | some j => simp
theorem apart_eq (k : Nat) (r : Ru) (hr : Small r) : table_apart.f k r = some r := by
  have h1 := hr.1.1
  have h2 := hr.2.1
  unfold table_apart.f pCloneR.f
  rw [if_pos (by omega), Option.bind_some, if_pos (by omega), Option.bind_some, ru_eta]
def metaL : List Int → Nat → List Int
  | [], _ => []
  | x :: l, i => if x ≠ 0 then (i : Int) :: metaL l (i + 1) else metaL l (i + 1)
theorem meta_loop (k : Nat) (R : List Ru) (Ks : List Int) (hK : Ks.length = R.length) (hl : Ks.length ≤ 1000) : ∀ (l : List Int) (fuel i : Nat) (acc : List Int), Ks.drop i = l → l.length < fuel → acc.length ≤ i → i ≤ Ks.length →
    table_Table_chosen_m0.l5 k R Ks fuel acc (i : Int) = some (acc ++ metaL l i)
  | _, 0, _, _, _, h, _, _ => by omega
  | [], f + 1, i, acc, hd, _, _, _ => by
    have := Nl.at_nil hd
    unfold table_Table_chosen_m0.l5
    rw [if_neg (by simp; omega)]; simp [metaL]
  | c :: t, f + 1, i, acc, hd, hf, ha, hi => by
    obtain ⟨g1, g2, g3⟩ := Nl.at_drop hd
    unfold table_Table_chosen_m0.l5 table_Table_Metas_1_m0.f table_Table_chosen_m0.j11
    rw [if_pos (by simp; omega), Nl.rix g1, Option.bind_some, Nl.wr1 (by omega)]
    have ih := fun acc' (h : acc'.length ≤ i + 1) => meta_loop k R Ks hK hl t f (i + 1) acc' g2 (by simpa using hf) h (by omega)
    unfold metaL
    by_cases h : c = 0
    · rw [if_neg (by simp [h]), if_neg (by simp [h]), ih acc (by omega)]
    · rw [if_pos (by simpa using h), if_pos h, if_pos (Nl.lim_ok (by omega)), ih _ (by simp; omega)]; simp
theorem metas_eq (k : Nat) (hk : 1100 < k) (R : List Ru) (Ks : List Int) (hK : Ks.length = R.length) (hl : Ks.length ≤ 1000) : table_Table_Metas_m0.f k R Ks = some (metaL Ks 0) := by
  unfold table_Table_Metas_m0.f table_Table_chosen_m0.f table_Table_chosen_m0.j2
  have e : table_Table_chosen_m0.l5 k R Ks k [] 0 = _ := meta_loop k R Ks hK hl Ks k 0 [] rfl (by omega) (by simp) (by omega)
  rw [e]; rfl
def addS (R : List Ru) (Ks : List Int) (r : Ru) : Nat × List Ru × List Int :=
  if chkS r ≠ 0 then (chkS r, R, Ks) else if idlS r = true then (0, R, Ks) else match R.findIdx? (oneB · r) with
    | some j => (0, R.set j r, Ks)
    | none => if (kdS r ≠ 0 ∧ 8 ≤ (metaL Ks 0).length) ∨ 24 ≤ R.length then (10, R, Ks) else (0, R ++ [r], Ks ++ [kdS r])
def TbOk (R : List Ru) (Ks : List Int) : Prop := Ks.length = R.length ∧ R.length ≤ 24 ∧ ∀ x ∈ R, Small x
theorem add_eq (R : List Ru) (Ks : List Int) (r : Ru) (hr : Small r) (hT : TbOk R Ks) : table_Table_add_m0.f 20000 R Ks r = some (addS R Ks r) := by
  obtain ⟨t1, t2, t3⟩ := hT
  have hLIM : LIM = 4294967296 := rfl
  unfold table_Table_add_m0.f addS
  simp only [ru_eta]
  rw [check_eq r hr, Option.bind_some]
  by_cases hc : chkS r = 0
  · rw [if_neg (by simp [hc]), if_neg (by simp [hc]), idle_eq 20000 (by omega) r hr, Option.bind_some]
    cases hi : idlS r with
    | true => rfl
    | false =>
      rw [if_neg (by decide), if_neg (by decide), find_eq 20000 (by omega) R (by omega) t3 r, Option.bind_some]
      unfold fndI
      cases hf : R.findIdx? (oneB · r) with
      | some j =>
        have hj : j < R.length := by
          obtain ⟨h, _⟩ := List.findIdx?_eq_some_iff_getElem.1 hf
          exact h
        simp only
        rw [if_pos (by simp), apart_eq 20000 r hr, Option.bind_some, if_pos ⟨by omega, by omega⟩, Int.toNat_natCast, Nat.zero_add, List.getElem?_eq_getElem hj]; rfl
      | none =>
        simp only
        rw [if_neg (by decide), kind_eq 20000 (by omega) r hr, Option.bind_some]
        have j17 : ∀ v, table_Table_add_m0.j17 20000 R Ks r (kdS r) v = some (if v = true then (10, R, Ks) else (0, R ++ [r], Ks ++ [kdS r])) := fun v => by
          unfold table_Table_add_m0.j17 table_Table_add_m0.j14
          cases v with
          | true => rfl
          | false =>
            simp only [ru_eta]
            rw [if_neg (by decide), if_neg (by decide), apart_eq 20000 r hr, Option.bind_some, if_pos (Nl.lim_ok (by omega)), if_pos (Nl.lim_ok (by omega))]
        by_cases h0 : kdS r = 0
        · rw [if_neg (by simp [h0]), j17]
          by_cases h24 : 24 ≤ R.length
          · rw [if_pos (by simp; omega), if_pos (.inr h24)]
          · rw [if_neg (by simp; omega), if_neg (by rintro (h | h); exact h.1 h0; exact h24 h)]
        · rw [if_pos (by simpa using h0), metas_eq 20000 (by omega) R Ks t1 (by omega), Option.bind_some, j17, j17]
          by_cases h8 : 8 ≤ (metaL Ks 0).length
          · rw [if_pos (by simp; omega), if_pos rfl, if_pos (.inl ⟨h0, h8⟩)]
          · rw [if_neg (by simp; omega)]
            by_cases h24 : 24 ≤ R.length
            · rw [if_pos (by simp; omega), if_pos (.inr h24)]
            · rw [if_neg (by simp; omega), if_neg (by rintro (h | h); exact h8 h.2; exact h24 h)]
  · rw [if_pos (by simpa using hc), if_pos hc]
theorem add_ok {R : List Ru} {Ks : List Int} {r : Ru} (hr : Small r) (hT : TbOk R Ks) : TbOk (addS R Ks r).2.1 (addS R Ks r).2.2 := by
  obtain ⟨t1, t2, t3⟩ := hT
  unfold addS
  split
  · exact ⟨t1, t2, t3⟩
  split
  · exact ⟨t1, t2, t3⟩
  split
  · refine ⟨by simp [t1], by simp [t2], fun x hx => ?_⟩
    rcases List.mem_or_eq_of_mem_set hx with h | h
    · exact t3 x h
    · rw [h]; exact hr
  · split
    · exact ⟨t1, t2, t3⟩
    · rename_i h
      refine ⟨by simp [t1], by simp; omega, fun x hx => ?_⟩
      rcases List.mem_append.1 hx with h | h
      · exact t3 x h
      · rw [List.mem_singleton.1 h]; exact hr
def newS : List Ru → List Int → List Ru → Option (List Ru × List Int)
  | R, Ks, [] => some (R, Ks)
  | R, Ks, r :: l => if (addS R Ks r).1 = 0 then newS (addS R Ks r).2.1 (addS R Ks r).2.2 l else none
theorem new_loop (L : List Ru) (hL : L.length ≤ 1000) (hs : ∀ r ∈ L, Small r) : ∀ (l : List Ru) (fuel i : Nat) (R : List Ru) (Ks : List Int), L.drop i = l → l.length < fuel → TbOk R Ks →
    table_New.l7 20000 L fuel R Ks (i : Int) = some (match newS R Ks l with | some T => .inl T | none => .inr (false, [], [], unkE))
  | _, 0, _, _, _, _, h, _ => by omega
  | [], f + 1, i, R, Ks, hd, _, _ => by
    have := Nl.at_nil hd
    unfold table_New.l7
    rw [if_neg (by simp; omega)]; rfl
  | c :: t, f + 1, i, R, Ks, hd, hf, hT => by
    obtain ⟨g1, g2, g3⟩ := Nl.at_drop hd
    have hc : Small c := hs c (by
      have : c ∈ L.drop i := by rw [hd]; exact List.mem_cons_self
      exact List.mem_of_mem_drop this)
    unfold table_New.l7 newS
    rw [if_pos (by simp; exact g3), g1, Option.bind_some, ru_eta, add_eq R Ks c hc hT, Option.bind_some, Nl.wr1 (by omega)]
    by_cases h : (addS R Ks c).1 = 0
    · rw [if_neg (by simp [h]), if_pos h]
      exact new_loop L hL hs t f (i + 1) _ _ g2 (by simpa using hf) (add_ok hc hT)
    · rw [if_pos (by simpa using h), if_neg h]
theorem new_ok : ∀ (l : List Ru) (R : List Ru) (Ks : List Int) (T : List Ru × List Int), (∀ r ∈ l, Small r) → TbOk R Ks → newS R Ks l = some T → TbOk T.1 T.2
  | [], R, Ks, T, _, h, e => by cases e; exact h
  | c :: t, R, Ks, T, hs, h, e => by
    unfold newS at e
    split at e
    · exact new_ok t _ _ T (fun r hr => hs r (List.mem_cons_of_mem _ hr)) (add_ok (hs c List.mem_cons_self) h) e
    · cases e
theorem new_eq (L : List Ru) (hL : L.length ≤ 1000) (hs : ∀ r ∈ L, Small r) : table_New.f 20000 L = some (match newS [] [] L with | some T => (true, T.1, T.2, 0) | none => (false, [], [], unkE)) := by
  unfold table_New.f table_New.j3
  have e : table_New.l7 20000 L 20000 [] [] 0 = _ := new_loop L hL hs L 20000 0 [] [] rfl (by omega) ⟨rfl, by simp, fun x h => by cases h⟩
  rw [e, Option.bind_some]
  cases newS [] [] L <;> rfl
end Go.Proofs.YtpcobejkpbalcaaGreatDoor.Tb
