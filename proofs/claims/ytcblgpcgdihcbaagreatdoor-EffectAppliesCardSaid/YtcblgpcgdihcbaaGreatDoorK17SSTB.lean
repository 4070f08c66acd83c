/- Trees as the document has them. -/
import Derived.Test.YtcblgpcgdihcbaaGreatDoorK17SSTA
namespace Go.Proofs.YtcblgpcgdihcbaaGreatDoor.Tr
open Go Go.AM Go.ChangeShapes Go.ChangeAt Go.RowKit
set_option linter.unusedVariables false
set_option linter.unusedSimpArgs false
set_option maxRecDepth 100000
theorem long_loop2 (k : Nat) (a : List Fl) (ha : a.length ≤ 1000) : ∀ (l : List Fl) (fuel i : Nat), a.drop i = l → l.length < fuel → ∃ o, millwrightlaw02_Long.l4 k a fuel (i : Int) = some o ∧ (o = .inl () → ∀ f ∈ l, f.f_Name.length ≤ 100) ∧ (o ≠ .inl () → o = .inr true)
  | _, 0, _, _, h => by omega
  | [], f + 1, i, hl, _ => by
    have := at_nil hl
    unfold millwrightlaw02_Long.l4
    exact ⟨.inl (), by rw [if_neg (by simp; omega)], fun _ f hf => by (cases hf), fun h => absurd rfl h⟩
  | x :: r, f + 1, i, hl, hf => by
    obtain ⟨g1, g2, g3⟩ := at_drop hl
    obtain ⟨o, ho, ho2, ho3⟩ := long_loop2 k a ha r f (i + 1) g2 (by simpa using hf)
    unfold millwrightlaw02_Long.l4 millwrightlaw02_Long.j12 millwrightlaw02_Long.j8
    rw [if_pos (by simp; exact g3), g1, Option.bind_some, wr1 (by omega), ho]
    by_cases h1 : decide ((x.f_Name.length : Int) > 100) = true
    · rw [if_pos h1]
      exact ⟨_, rfl, fun h => by (cases h), fun _ => rfl⟩
    · rw [if_neg h1]
      have h1' : x.f_Name.length ≤ 100 := by simp at h1; omega
      by_cases h2 : decide ((x.f_Content.length : Int) > 1000) = true
      · rw [if_pos h2]
        exact ⟨_, rfl, fun h => by (cases h), fun _ => rfl⟩
      · rw [if_neg h2]
        exact ⟨o, rfl, fun h => List.forall_mem_cons.2 ⟨h1', ho2 h⟩, ho3⟩
theorem long_f2 (k : Nat) (hk : 1000 < k) (a : List Fl) (m : Int) (hm : m ≤ 1000) : ∃ b, millwrightlaw02_Long.f k a m = some b ∧ (b = false → (a.length : Int) ≤ m ∧ ∀ f ∈ a, f.f_Name.length ≤ 100) := by
  unfold millwrightlaw02_Long.f
  by_cases h : decide ((a.length : Int) > m) = true
  · rw [if_pos h]; exact ⟨true, rfl, fun e => by cases e⟩
  · rw [if_neg h]
    have hlen : (a.length : Int) ≤ m := by simpa using h
    obtain ⟨o, ho, ho2, ho3⟩ := long_loop2 k a (by omega) a k 0 rfl (by omega)
    have ho' : millwrightlaw02_Long.l4 k a k 0 = some o := ho
    rw [ho', Option.bind_some]
    by_cases e : o = .inl ()
    · subst e; exact ⟨_, rfl, fun _ => ⟨hlen, ho2 rfl⟩⟩
    · have := ho3 e; subst this; exact ⟨_, rfl, fun h => by cases h⟩

theorem rright_loop (k : Nat) (s : List UInt8) (hs : s.length ≤ 100000) : ∀ (l : List UInt8) (fuel i : Nat), s.drop i = l → l.length < fuel → millwrightref01_Right.l4 k s fuel (i : Int) = some (if l.all okB then .inl () else .inr false)
  | _, 0, _, _, h => by omega
  | [], f + 1, i, hl, _ => by
    have := at_nil hl
    unfold millwrightref01_Right.l4
    rw [if_neg (by simp; omega)]; rfl
  | x :: r, f + 1, i, hl, hf => by
    obtain ⟨g1, g2, g3⟩ := at_drop hl
    have ih := rright_loop k s hs r f (i + 1) g2 (by simpa using hf)
    unfold millwrightref01_Right.l4 millwrightref01_Right.j11 millwrightref01_Right.j8
    rw [if_pos (by simp; exact g3), g1, Option.bind_some, wr1 (by omega), ih, Option.bind_some]
    by_cases h1 : x.toNat < 33
    · rw [if_pos (by simp; omega)]
      have : okB x = false := by unfold okB; simp [h1]
      simp [this]
    · rw [if_neg (by simp; omega)]
      by_cases h2 : x.toNat > 126
      · have : okB x = false := by unfold okB; simp [h2]
        rw [if_pos (by simp; omega)]; simp [this]
      · have : okB x = true := by unfold okB; simp [h1, h2]
        rw [if_neg (by simp; omega)]; simp [this]
theorem rright_eq (k : Nat) (s : List UInt8) (hk : s.length < k) (hs : s.length ≤ 100000) : millwrightref01_Right.f k s = some (right s) := by
  unfold millwrightref01_Right.f millwrightref01_Right.j2 right
  have e0 : millwrightref01_Right.l4 k s k 0 = _ := rright_loop k s hs s k 0 rfl hk
  rw [e0]
  cases s.all okB
  · simp
  · simp only [if_true, Option.bind_some]
    by_cases h : s.length > 0
    · rw [if_pos (by rw [decide_eq_true_eq]; omega)]
      have : decide (1 ≤ s.length) = true := by simp; omega
      rw [this]; simp; omega
    · rw [if_neg (by rw [decide_eq_true_eq]; omega)]
      have : decide (1 ≤ s.length) = false := by simp at h ⊢; simp [h]
      rw [this]; rfl

def vals (m : Mp) : List Fl := m.map (·.2)
def Keyed (m : Mp) : Prop := ∀ y ∈ m, y.1 = y.2.f_Name
def atO (n : List UInt8) : List Fl → Nat → Sum Unit Int
  | [], _ => .inl ()
  | f :: r, i => if f.f_Name = n then .inr (i : Int) else atO n r (i + 1)
theorem at_loop (k : Nat) (w : List Fl) (hw : w.length ≤ 100000) (n : List UInt8) : ∀ (l : List Fl) (fuel i : Nat), w.drop i = l → l.length < fuel → millwrightref02_Tree_At_m0.l3 k w n fuel (i : Int) = some (atO n l i)
  | _, 0, _, _, h => by omega
  | [], f + 1, i, hl, _ => by
    have := at_nil hl
    unfold millwrightref02_Tree_At_m0.l3
    rw [if_neg (by simp; omega)]; rfl
  | x :: r, f + 1, i, hl, hf => by
    obtain ⟨g1, g2, g3⟩ := at_drop hl
    have ih := at_loop k w hw n r f (i + 1) g2 (by simpa using hf)
    unfold millwrightref02_Tree_At_m0.l3 atO
    rw [if_pos (by simp; exact g3), g1, Option.bind_some, wr1 (by omega), ih]
    by_cases h : x.f_Name = n
    · rw [if_pos (by simpa using h), if_pos h]
    · rw [if_neg (by simpa using h), if_neg h]
def atI (n : List UInt8) (w : List Fl) : Int := match atO n w 0 with | .inl _ => -1 | .inr v => v
theorem at_eq (k : Nat) (w : List Fl) (n : List UInt8) (hk : w.length < k) (hw : w.length ≤ 100000) : millwrightref02_Tree_At_m0.f k w n = some (atI n w) := by
  unfold millwrightref02_Tree_At_m0.f millwrightref02_Tree_At_m0.j1 atI
  have e0 : millwrightref02_Tree_At_m0.l3 k w n k 0 = _ := at_loop k w hw n w k 0 rfl hk
  rw [e0]
  cases atO n w 0 <;> rfl
theorem atO_spec (n : List UInt8) : ∀ (m : Mp) (i : Nat), Keyed m → (mget n m = none ∧ atO n (vals m) i = .inl ()) ∨ ∃ v j, mget n m = some v ∧ atO n (vals m) i = .inr ((i + j : Nat) : Int) ∧ (vals m)[j]? = some v
  | [], i, _ => .inl ⟨rfl, rfl⟩
  | y :: r, i, hk => by
    have hy := hk y List.mem_cons_self
    unfold mget vals
    rw [List.map_cons]
    unfold atO
    by_cases h : y.1 = n
    · rw [if_pos h, if_pos (by rw [← hy]; exact h)]
      exact .inr ⟨y.2, 0, rfl, rfl, rfl⟩
    · rw [if_neg h, if_neg (by rw [← hy]; exact h)]
      rcases atO_spec n r (i + 1) (fun z hz => hk z (List.mem_cons_of_mem _ hz)) with ⟨h1, h2⟩ | ⟨v, j, h1, h2, h3⟩
      · exact .inl ⟨h1, h2⟩
      · exact .inr ⟨v, j + 1, h1, by rw [show i + (j + 1) = i + 1 + j by omega]; exact h2, by simpa [vals] using h3⟩
theorem atI_spec (n : List UInt8) (m : Mp) (hk : Keyed m) : (mget n m = none ∧ atI n (vals m) = -1) ∨ ∃ v, ∃ j : Nat, mget n m = some v ∧ atI n (vals m) = (j : Int) ∧ (vals m)[j]? = some v := by
  unfold atI
  rcases atO_spec n m 0 hk with ⟨h1, h2⟩ | ⟨v, j, h1, h2, h3⟩
  · exact .inl ⟨h1, by rw [h2]⟩
  · exact .inr ⟨v, j, h1, by rw [h2]; simp, h3⟩

def go (f : Fl) : List Fl → Bool → List Fl → List Fl × Bool
  | out, d, [] => (out, d)
  | out, d, x :: r =>
    let b := !d && (Op.bytesLess f.f_Name x.f_Name || f.f_Name == x.f_Name)
    let o1 := if b then out ++ [f] else out
    let o2 := if !(x.f_Name == f.f_Name) then o1 ++ [x] else o1
    go f o2 (d || b) r
theorem lim_ok {α : Type} {l : List α} {x : α} (h : l.length ≤ 100000) : l.length + [x].length ≤ LIM := by
  have : LIM = 4294967296 := rfl
  simp; omega
theorem put_loop (k : Nat) (w : List Fl) (hw : w.length ≤ 1000) (f : Fl) : ∀ (l : List Fl) (fuel i : Nat) (out : List Fl) (d : Bool), w.drop i = l → l.length < fuel → out.length + 2 * l.length ≤ 10000 →
    millwrightref02_Tree_Put_m0.l14 k w f fuel out d (i : Int) = some (go f out d l)
  | _, 0, _, _, _, _, h, _ => by omega
  | [], fu + 1, i, out, d, hl, _, _ => by
    have := at_nil hl
    unfold millwrightref02_Tree_Put_m0.l14
    rw [if_neg (by simp; omega)]; rfl
  | x :: r, fu + 1, i, out, d, hl, hf, ho => by
    obtain ⟨g1, g2, g3⟩ := at_drop hl
    have ih := fun o2 d2 h => put_loop k w hw f r fu (i + 1) o2 d2 g2 (by simpa using hf) h
    simp only [List.length_cons] at ho
    have e28 : ∀ (o1 : List Fl) (d2 : Bool), o1.length ≤ out.length + 1 → millwrightref02_Tree_Put_m0.j28 k (millwrightref02_Tree_Put_m0.l14 k w f fu) w f (i : Int) x o1 d2 = some (go f (if !(x.f_Name == f.f_Name) then o1 ++ [x] else o1) d2 r) := fun o1 d2 h1 => by
      unfold millwrightref02_Tree_Put_m0.j28 millwrightref02_Tree_Put_m0.j22
      rw [wr1 (by omega)]
      cases hx : x.f_Name == f.f_Name
      · simp only [Bool.not_false, if_true]
        rw [fl_eta, if_pos (lim_ok (by omega)), ih _ _ (by simp; omega)]
      · simp only [Bool.not_true, Bool.false_eq_true, if_false]
        rw [ih _ _ (by omega)]
    have e32 : ∀ b : Bool, millwrightref02_Tree_Put_m0.j32 k (millwrightref02_Tree_Put_m0.l14 k w f fu) w f out d (i : Int) x b = some (go f (if !(x.f_Name == f.f_Name) then (if b then out ++ [f] else out) ++ [x] else (if b then out ++ [f] else out)) (if b then true else d) r) := fun b => by
      unfold millwrightref02_Tree_Put_m0.j32
      cases b
      · rw [if_neg (by simp), e28 _ _ (by omega)]; rfl
      · rw [if_pos rfl, fl_eta, if_pos (lim_ok (by omega)), e28 _ _ (by simp)]; rfl
    unfold millwrightref02_Tree_Put_m0.l14 go
    rw [if_pos (by simp; exact g3), g1, Option.bind_some, e32, e32]
    cases d
    · simp only [Bool.not_false, if_true, Bool.true_and, Bool.false_or]
      cases (Op.bytesLess f.f_Name x.f_Name || f.f_Name == x.f_Name) <;> rfl
    · rfl
def insF (f : Fl) (w : List Fl) : List Fl := if (go f [] false w).2 then (go f [] false w).1 else (go f [] false w).1 ++ [f]
theorem go_true (f : Fl) : ∀ (l out : List Fl), (∀ x ∈ l, x.f_Name ≠ f.f_Name) → go f out true l = (out ++ l, true)
  | [], out, _ => by simp [go]
  | x :: r, out, h => by
    have hx := h x List.mem_cons_self
    unfold go
    have e : (x.f_Name == f.f_Name) = false := by simpa using hx
    simp only [Bool.not_true, Bool.false_and, e, Bool.not_false, if_true, Bool.false_eq_true, if_false, Bool.true_or]
    rw [go_true f r _ fun z hz => h z (List.mem_cons_of_mem _ hz)]; simp
theorem go_len (f : Fl) : ∀ (l out : List Fl) (d : Bool), (go f out d l).1.length ≤ out.length + 2 * l.length
  | [], out, d => by simp [go]
  | x :: r, out, d => by
    unfold go
    refine Nat.le_trans (go_len f r _ _) ?_
    simp only [List.length_cons]
    repeat' split
    all_goals first | omega | (simp only [List.length_append, List.length_cons, List.length_nil]; omega)
theorem go_put (f : Fl) : ∀ (m : Mp) (out : List Fl), Rising m → Keyed m → (if (go f out false (vals m)).2 then (go f out false (vals m)).1 else (go f out false (vals m)).1 ++ [f]) = out ++ vals (mput f.f_Name f m)
  | [], out, _, _ => by simp [go, vals, mput]
  | y :: r, out, hr, hk => by
    have hy := hk y List.mem_cons_self
    have hk' : Keyed r := fun z hz => hk z (List.mem_cons_of_mem _ hz)
    obtain ⟨h1, h2⟩ := List.pairwise_cons.1 hr
    have hmem : ∀ x ∈ vals r, Op.bytesLess y.1 x.f_Name = true := fun x hx => by
      obtain ⟨z, hz, rfl⟩ := List.mem_map.1 hx
      rw [← hk' z hz]; exact h1 z hz
    unfold vals mput
    rw [List.map_cons]
    unfold go
    rw [← hy]
    by_cases he : y.1 = f.f_Name
    · have hno : ∀ x ∈ vals r, x.f_Name ≠ f.f_Name := fun x hx e => by have := hmem x hx; rw [e, he, less_irrefl] at this; cases this
      have := go_true f (vals r) (out ++ [f]) hno
      unfold vals at this
      simp [he, this]
    · have e1 : (y.1 == f.f_Name) = false := by simpa using he
      have e2 : (f.f_Name == y.1) = false := by simpa using fun e => he e.symm
      rw [if_neg he]
      cases hl : Op.bytesLess f.f_Name y.1 with
      | true =>
        have hno : ∀ x ∈ vals r, x.f_Name ≠ f.f_Name := fun x hx e => by have := less_trans hl (hmem x hx); rw [e, less_irrefl] at this; cases this
        have := go_true f (vals r) (out ++ [f] ++ [y.2]) hno
        unfold vals at this
        simp only [Bool.not_false, Bool.true_and, Bool.true_or, e1, if_true, Bool.or_true]
        rw [this]; simp
      | false =>
        have := go_put f r (out ++ [y.2]) h2 hk'
        unfold vals at this
        simp only [Bool.not_false, Bool.true_and, e1, e2, Bool.or_false, Bool.false_eq_true, if_false, if_true]
        rw [this]; simp
theorem rput_eq (k : Nat) (m : Mp) (f : Fl) (hk : 2000 < k) (hm : m.length ≤ 1000) (hf : f.f_Name.length ≤ 1000) (hr : Rising m) (hK : Keyed m) : millwrightref02_Tree_Put_m0.f k (vals m) f = some ((mayS m f : Int), vals (putS m f).2) := by
  have hv : (vals m).length = m.length := by unfold vals; simp
  unfold millwrightref02_Tree_Put_m0.f putS mayS
  rw [rright_eq k _ (by omega) (by omega), Option.bind_some]
  cases hR : right f.f_Name
  · rfl
  · simp only [Bool.not_true, Bool.false_eq_true, if_false, Bool.true_eq_false]
    by_cases h1 : f.f_Content.length > 900
    · rw [if_pos (by simp; omega), if_pos h1]; rfl
    · rw [if_neg (by simp; omega), if_neg h1]
      have e35 : millwrightref02_Tree_Put_m0.j35 k (vals m) f = some (0, vals (mput f.f_Name f m)) := by
        unfold millwrightref02_Tree_Put_m0.j35 millwrightref02_Tree_Put_m0.j10 millwrightref02_Tree_Put_m0.j7
        have e0 : millwrightref02_Tree_Put_m0.l14 k (vals m) f k [] false 0 = _ := put_loop k (vals m) (by omega) f (vals m) k 0 [] false rfl (by omega) (by simp; omega)
        have hg := go_put f m [] hr hK
        have hlen := go_len f (vals m) [] false
        rw [e0, Option.bind_some]
        generalize go f [] false (vals m) = g at hg hlen
        obtain ⟨g1, g2⟩ := g
        simp only [List.length_nil, List.nil_append] at hg hlen ⊢
        cases g2
        · rw [if_pos (by rfl), fl_eta, if_pos (lim_ok (by omega)), ← hg]; rfl
        · rw [if_neg (by simp), ← hg]; rfl
      have tail : ∀ v, millwrightref02_Tree_Put_m0.j44 k (vals m) f v = some (if v then (1, vals m) else if (mget f.f_Name m).isSome = false ∧ m.length ≥ 40 then (10, vals m) else (0, vals (mput f.f_Name f m))) := fun v => by
        unfold millwrightref02_Tree_Put_m0.j44 millwrightref02_Tree_Put_m0.j41 millwrightref02_Tree_Put_m0.j38
        cases v
        · simp only [Bool.false_eq_true, if_false]
          rw [at_eq k _ _ (by omega) (by omega), Option.bind_some, e35, hv]
          rcases atI_spec f.f_Name m hK with ⟨q1, q2⟩ | ⟨v, j, q1, q2, q3⟩
          · rw [q1, q2, if_pos (by decide)]
            by_cases h : m.length ≥ 40
            · rw [if_pos (by rw [decide_eq_true_eq]; omega), if_pos ⟨rfl, h⟩]
            · rw [if_neg (by rw [decide_eq_true_eq]; omega), if_neg (by simp; omega)]
          · rw [q1, q2, if_neg (by rw [decide_eq_true_eq]; omega)]; simp
        · rfl
      rw [tail, tail]
      by_cases h2 : f.f_Time < 1
      · simp [h2]
      · by_cases h3 : f.f_Time > 549755813888
        · simp [h2, h3]
        · simp only [h2, h3, decide_false, Bool.false_eq_true, if_false, false_or]
          split
          · rfl
          · rfl
end Go.Proofs.YtcblgpcgdihcbaaGreatDoor.Tr
