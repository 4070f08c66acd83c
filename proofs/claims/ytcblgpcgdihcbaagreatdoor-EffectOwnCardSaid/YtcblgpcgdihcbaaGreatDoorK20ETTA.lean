/- Trees as the code has them. -/
import Derived.Test.YtcblgpcgdihcbaaGreatDoorK20ETF
import Derived.Test.YtcblgpcgdihcbaaGreatDoorK20AmM3
import Derived.Test.YtcblgpcgdihcbaaGreatDoorK20AmM
import Derived.Test.YtcblgpcgdihcbaaGreatDoorK20AmR5
import Derived.Test.YtcblgpcgdihcbaaGreatDoorK20AmW
namespace Go.Proofs.YtcblgpcgdihcbaaGreatDoor.Tr
open Go Go.AM Go.ChangeShapes Go.ChangeAt Go.RowKit
set_option linter.unusedVariables false
set_option linter.unusedSimpArgs false
set_option maxRecDepth 100000
theorem at_drop {α : Type} {l r : List α} {i : Nat} {x : α} (h : l.drop i = x :: r) : idx l (i : Int) = some x ∧ l.drop (i + 1) = r ∧ i < l.length := by
  have hi : i < l.length := by
    rcases Nat.lt_or_ge i l.length with h' | h'
    · exact h'
    · rw [List.drop_of_length_le h'] at h; cases h
  rw [List.drop_eq_getElem_cons hi] at h
  injection h with h1 h2
  exact ⟨by rw [idx_at rfl hi, h1], h2, hi⟩
theorem at_nil {α : Type} {l : List α} {i : Nat} (h : l.drop i = []) : l.length ≤ i := by
  have := congrArg List.length h
  simp at this; omega
theorem wr1 {i : Nat} (h : i < 1000000) : IntKind.i64.wrap ((i : Int) + 1) = ((i + 1 : Nat) : Int) := by rw [w64 (by omega) (by omega)]; rfl

abbrev Fl := T_tree_File
abbrev Mp := KV Fl
theorem fl_eta (v : Fl) : T_tree_File.mk v.f_Name v.f_Content v.f_Time = v := by cases v; rfl

def okB (b : UInt8) : Bool := !(decide (b.toNat < 33)) && !(decide (b.toNat > 126))
def right (s : List UInt8) : Bool := decide (1 ≤ s.length) && (decide (s.length ≤ 40) && s.all okB)
theorem right_loop (k : Nat) (s : List UInt8) (hs : s.length ≤ 100000) : ∀ (l : List UInt8) (fuel i : Nat), s.drop i = l → l.length < fuel → names_Right.l3 k s fuel (i : Int) = some (if l.all okB then .inl () else .inr false)
  | _, 0, _, _, h => by omega
  | [], f + 1, i, hl, _ => by
    have := at_nil hl
    unfold names_Right.l3
    rw [if_neg (by simp; omega)]; rfl
  | x :: r, f + 1, i, hl, hf => by
    obtain ⟨g1, g2, g3⟩ := at_drop hl
    have ih := right_loop k s hs r f (i + 1) g2 (by simpa using hf)
    unfold names_Right.l3 names_Right.j10 names_Right.j7
    rw [if_pos (by simp; exact g3), g1, Option.bind_some, wr1 (by omega), ih, Option.bind_some]
    by_cases h1 : x.toNat < 33
    · rw [if_pos (by simp; omega)]
      have : okB x = false := by unfold okB; simp [h1]
      simp [this]
    · rw [if_neg (by simp; omega)]
      by_cases h2 : x.toNat > 126
      · have : okB x = false := by unfold okB; simp [h2]
        rw [if_pos (by simp; omega)]; simp [this]
      · have : okB x = true := by unfold okB; simp [h1, h2]
        rw [if_neg (by simp; omega)]; simp [this]
theorem right_eq (k : Nat) (hk : 100 < k) (s : List UInt8) : names_Right.f k s = some (right s) := by
  unfold names_Right.f names_Right.j19 names_Right.j16 names_Right.j1 right
  by_cases h1 : s.length < 1
  · have h1' : decide ((s.length : Int) < 1) = true := by rw [decide_eq_true_eq]; omega
    rw [if_pos h1', if_pos rfl]
    have : decide (1 ≤ s.length) = false := by rw [decide_eq_false_iff_not]; omega
    rw [this]; rfl
  · rw [if_neg (by simp; omega)]
    have e1 : decide (1 ≤ s.length) = true := by simp; omega
    rw [e1]
    by_cases h2 : s.length > 40
    · rw [if_pos (by simp; omega)]
      have : decide (s.length ≤ 40) = false := by simp; omega
      rw [this]; rfl
    · rw [if_neg (by simp; omega)]
      have e2 : decide (s.length ≤ 40) = true := by simp; omega
      have e0 : names_Right.l3 k s k 0 = _ := right_loop k s (by omega) s k 0 rfl (by omega)
      rw [e0, e2]
      cases s.all okB <;> rfl

def mayS (m : Mp) (f : Fl) : Nat :=
  if right f.f_Name = false then 4 else if f.f_Content.length > 900 then 2 else if f.f_Time < 1 ∨ f.f_Time > 549755813888 then 1 else if (mget f.f_Name m).isSome = false ∧ m.length ≥ 40 then 10 else 0
theorem may_eq (k : Nat) (hk : 100 < k) (m : Mp) (f : Fl) : tree_Tree_may_m0.f k m f = some (mayS m f) := by
  unfold tree_Tree_may_m0.f mayS
  rw [right_eq k hk, Option.bind_some]
  cases right f.f_Name
  · rfl
  · simp only [Bool.not_true, Bool.false_eq_true, if_false, Bool.true_eq_false]
    by_cases h1 : f.f_Content.length > 900
    · rw [if_pos (by simp; omega), if_pos h1]
    · rw [if_neg (by simp; omega), if_neg h1]
      have tail : ∀ v, tree_Tree_may_m0.j11 k m f v = some (if v then 1 else if (mget f.f_Name m).isSome = false ∧ m.length ≥ 40 then 10 else 0) := fun v => by
        unfold tree_Tree_may_m0.j11 tree_Tree_may_m0.j9 tree_Tree_may_m0.j1
        cases v
        · simp only [Bool.false_eq_true, if_false]
          cases hm : (mget f.f_Name m).isSome
          · by_cases h : m.length ≥ 40
            · simp [h]; omega
            · simp [h]; omega
          · simp
        · rfl
      rw [tail, tail]
      by_cases h2 : f.f_Time < 1
      · simp [h2]
      · by_cases h3 : f.f_Time > 549755813888
        · simp [h2, h3]
        · simp [h2, h3]
def putS (m : Mp) (f : Fl) : Nat × Mp := (mayS m f, if mayS m f = 0 then mput f.f_Name f m else m)
theorem put_eq (k : Nat) (hk : 100 < k) (m : Mp) (f : Fl) : tree_Tree_Put_m0.f k m f.f_Name f.f_Content f.f_Time = some (putS m f) := by
  unfold tree_Tree_Put_m0.f putS
  rw [fl_eta, may_eq k hk, Option.bind_some]
  by_cases h : mayS m f = 0
  · rw [if_neg (by simp [h]), if_pos h, h]
  · rw [if_pos (by simpa using h), if_neg h]
theorem get_eq (k : Nat) (m : Mp) (n : List UInt8) : tree_Tree_Get_m0.f k m n = some ((mget n m).getD ⟨[], [], 0⟩, (mget n m).isSome) := by
  unfold tree_Tree_Get_m0.f
  rw [fl_eta]
theorem touch_eq (k : Nat) (hk : 100 < k) (m : Mp) (n : List UInt8) (t : Int) : tree_Tree_Touch_m0.f k m n t = some (putS m ⟨n, ((mget n m).getD ⟨[], [], 0⟩).f_Content, t⟩) := by
  unfold tree_Tree_Touch_m0.f
  have := put_eq k hk m ⟨n, ((mget n m).getD ⟨[], [], 0⟩).f_Content, t⟩
  simp only at this
  rw [this]; rfl
def remS (m : Mp) (n : List UInt8) : Nat × Mp := if (mget n m).isSome then (0, mdel n m) else (8, m)
theorem rem_eq (k : Nat) (m : Mp) (n : List UInt8) : tree_Tree_Remove_m0.f k m n = some (remS m n) := by
  unfold tree_Tree_Remove_m0.f remS
  cases (mget n m).isSome <;> rfl
theorem mput_len {α : Type} (k : List UInt8) (v : α) : ∀ m : KV α, (mput k v m).length ≤ m.length + 1
  | [] => by simp [mput]
  | y :: r => by
    unfold mput
    split
    · simp
    split
    · simp
    · have := mput_len k v r; simp; omega
def Short (m : Mp) : Prop := ∀ y ∈ m, y.1.length ≤ 40 ∧ y.2.f_Content.length ≤ 900
theorem Short.put {m : Mp} (h : Short m) {k : List UInt8} (v : Fl) (hk : k.length ≤ 40 ∧ v.f_Content.length ≤ 900) : Short (mput k v m) := fun y hy => by
  rcases mput_mem hy with rfl | hy
  · exact hk
  · exact h y hy
theorem Short.del {m : Mp} (h : Short m) (k : List UInt8) : Short (mdel k m) := fun y hy => h y (List.mem_filter.1 hy).1
theorem may_right {m : Mp} {f : Fl} (h : mayS m f = 0) : f.f_Name.length ≤ 40 ∧ f.f_Content.length ≤ 900 := by
  unfold mayS at h
  cases hr : right f.f_Name with
  | false => rw [if_pos hr] at h; cases h
  | true =>
    rw [if_neg (by rw [hr]; decide)] at h
    by_cases h2 : f.f_Content.length > 900
    · rw [if_pos h2] at h; cases h
    · unfold right at hr
      simp only [Bool.and_eq_true, decide_eq_true_eq] at hr
      exact ⟨hr.2.1, by omega⟩
theorem Short.putS {m : Mp} (h : Short m) (f : Fl) : Short (putS m f).2 := by
  unfold Proofs.YtcblgpcgdihcbaaGreatDoor.Tr.putS
  simp only
  split
  · rename_i h0; exact h.put f (may_right h0)
  · exact h
theorem Short.remS {m : Mp} (h : Short m) (n : List UInt8) : Short (remS m n).2 := by
  unfold Proofs.YtcblgpcgdihcbaaGreatDoor.Tr.remS
  split
  · exact h.del n
  · exact h
theorem long_loop (k : Nat) (a : List Fl) (ha : a.length ≤ 1000) : ∀ (l : List Fl) (fuel i : Nat), a.drop i = l → l.length < fuel → ∃ o, millwrightlaw02_Long.l4 k a fuel (i : Int) = some o
  | _, 0, _, _, h => by omega
  | [], f + 1, i, hl, _ => by
    have := at_nil hl
    unfold millwrightlaw02_Long.l4
    exact ⟨.inl (), by rw [if_neg (by simp; omega)]⟩
  | x :: r, f + 1, i, hl, hf => by
    obtain ⟨g1, g2, g3⟩ := at_drop hl
    obtain ⟨o, ho⟩ := long_loop k a ha r f (i + 1) g2 (by simpa using hf)
    unfold millwrightlaw02_Long.l4 millwrightlaw02_Long.j12 millwrightlaw02_Long.j8
    rw [if_pos (by simp; exact g3), g1, Option.bind_some, wr1 (by omega), ho]
    repeat' split
    all_goals first | exact ⟨_, rfl⟩ | skip
theorem long_f (k : Nat) (hk : 1000 < k) (a : List Fl) (m : Int) (hm : m ≤ 1000) : ∃ b, millwrightlaw02_Long.f k a m = some b ∧ (b = false → (a.length : Int) ≤ m) := by
  unfold millwrightlaw02_Long.f
  by_cases h : decide ((a.length : Int) > m) = true
  · rw [if_pos h]; exact ⟨true, rfl, fun e => by cases e⟩
  · rw [if_neg h]
    have hlen : (a.length : Int) ≤ m := by simpa using h
    obtain ⟨o, ho⟩ := long_loop k a (by omega) a k 0 rfl (by omega)
    have ho' : millwrightlaw02_Long.l4 k a k 0 = some o := ho
    rw [ho', Option.bind_some]
    cases o <;> exact ⟨_, rfl, fun _ => hlen⟩

theorem of_loop (k : Nat) (hk : 100 < k) (a : List Fl) (ha : a.length ≤ 1000) : ∀ (l : List Fl) (fuel i : Nat) (m : Mp), i ≤ a.length → a.drop i = l → l.length < fuel → (∀ f ∈ a.take i, mget f.f_Name m = some f) → m.length ≤ i → Short m →
    (∃ e, e ≠ 0 ∧ tree_Of.l6 k a fuel m (i : Int) = some (.inr (false, [], e))) ∨ ∃ m', tree_Of.l6 k a fuel m (i : Int) = some (.inl m') ∧ (∀ f ∈ a, mget f.f_Name m' = some f) ∧ m'.length ≤ a.length ∧ Short m'
  | _, 0, _, _, _, _, h, _, _, _ => by omega
  | [], fu + 1, i, m, hia, hl, _, h1, h2, h3 => by
    have h0 := at_nil hl
    right
    refine ⟨m, ?_, fun f hf => h1 f (by rw [List.take_of_length_le h0]; exact hf), ?_, h3⟩
    · unfold tree_Of.l6
      rw [if_neg (by simp; omega)]
    · omega
  | x :: r, fu + 1, i, m, hia, hl, hf, h1, h2, h3 => by
    obtain ⟨g1, g2, g3⟩ := at_drop hl
    unfold tree_Of.l6
    rw [if_pos (by simp; exact g3), g1, Option.bind_some, get_eq, Option.bind_some]
    cases hm : mget x.f_Name m with
    | some y => left; exact ⟨9, by decide, by simp⟩
    | none =>
      simp only [Option.isSome_none, Bool.false_eq_true, if_false]
      rw [put_eq k hk, Option.bind_some]
      by_cases h0 : mayS m x = 0
      · have e : putS m x = (0, mput x.f_Name x m) := by unfold putS; rw [if_pos h0, h0]
        rw [e, if_neg (by simp), wr1 (by omega)]
        have htk : a.take (i + 1) = a.take i ++ [x] := by
          rw [List.take_add_one, ← List.head?_drop, hl]; rfl
        refine of_loop k hk a ha r fu (i + 1) _ (by omega) g2 (by simpa using hf) (fun f hf => ?_) (by have := mput_len x.f_Name x m; simp only; omega) (h3.put x (may_right h0))
        rw [htk] at hf
        rcases List.mem_append.1 hf with hf | hf
        · have hne : f.f_Name ≠ x.f_Name := fun e' => by have := h1 f hf; rw [e', hm] at this; cases this
          rw [mget_put_ne _ hne]; exact h1 f hf
        · simp at hf; subst hf; exact mget_put_same _ _ _
      · have e : (putS m x).1 = mayS m x := rfl
        left
        exact ⟨mayS m x, h0, by rw [e, if_pos (by simpa using h0)]⟩
end Go.Proofs.YtcblgpcgdihcbaaGreatDoor.Tr
