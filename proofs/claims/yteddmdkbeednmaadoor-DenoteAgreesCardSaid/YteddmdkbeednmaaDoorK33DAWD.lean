/- Sets of places. -/
import Derived.Test.YteddmdkbeednmaaDoorK33DAWR
namespace Go.Proofs.YteddmdkbeednmaaDoor.Dn
open Go Go.AM
set_option linter.unusedVariables false
set_option linter.unusedSimpArgs false
set_option maxRecDepth 100000
theorem cell_at {α : Type} {pre : List α} {x : α} {r : List α} : (pre ++ x :: r)[pre.length]? = some x := by simp
theorem upd_at {α : Type} {pre : List α} {x y : α} {r : List α} : upd (pre ++ x :: r) pre.length y = pre ++ y :: r := by simp [upd]
def orL : List Bool → List Bool → List Bool
  | a :: ar, b :: br => (a || b) :: orL ar br
  | ar, _ => ar
def grew : List Bool → List Bool → Bool
  | a :: ar, b :: br => (b && !a) || grew ar br
  | _, _ => false
theorem orL_len : ∀ (a b : List Bool), (orL a b).length = a.length
  | [], b => by cases b <;> rfl
  | _ :: _, [] => rfl
  | _ :: ar, _ :: br => by simp [orL, orL_len ar br]
def Mem (X : List Bool) (j : Nat) : Prop := X[j]? = some true
theorem Mem.lt {X : List Bool} {j : Nat} (h : Mem X j) : j < X.length := by
  unfold Mem at h
  rcases Nat.lt_or_ge j X.length with g | g
  · exact g
  · rw [List.getElem?_eq_none g] at h; cases h
theorem mem_or : ∀ {a b : List Bool} {j : Nat}, a.length = b.length → (Mem (orL a b) j ↔ Mem a j ∨ Mem b j)
  | [], [], j, _ => by simp [orL, Mem]
  | x :: a, y :: b, 0, h => by simp [orL, Mem]
  | x :: a, y :: b, j + 1, h => by
    have := mem_or (a := a) (b := b) (j := j) (by simpa using h)
    simpa [orL, Mem] using this
  | [], y :: b, _, h => by simp at h
  | x :: a, [], _, h => by simp at h
theorem mem_rep (n j : Nat) : ¬ Mem (List.replicate n false) j := by
  unfold Mem
  rw [List.getElem?_replicate]
  split <;> simp
def lack : List Bool → Nat
  | [] => 0
  | b :: br => (if b then 0 else 1) + lack br
theorem lack_le : ∀ (a : List Bool), lack a ≤ a.length
  | [] => Nat.le_refl _
  | b :: br => by have := lack_le br; cases b <;> simp [lack] <;> omega
theorem lack_or : ∀ (a b : List Bool), lack (orL a b) ≤ lack a ∧ (grew a b = true → lack (orL a b) < lack a)
  | [], b => by cases b <;> simp [orL, grew]
  | x :: a, [] => by simp [orL, grew]
  | x :: a, y :: b => by
    have := lack_or a b
    cases x <;> cases y <;> simp only [orL, grew, lack, Bool.or_true, Bool.or_false, Bool.false_or, Bool.true_or, Bool.and_true, Bool.and_false, Bool.true_and, Bool.false_and, Bool.not_true, Bool.not_false, if_true, if_false, Bool.false_eq_true]
    · exact ⟨by omega, fun h => by have := this.2 h; omega⟩
    · exact ⟨by omega, fun h => by omega⟩
    · exact ⟨by omega, fun h => by have := this.2 h; omega⟩
    · exact ⟨by omega, fun h => by have := this.2 h; omega⟩
theorem grew_or : ∀ {a b : List Bool}, a.length = b.length → grew a b = false → ∀ j, Mem b j → Mem a j
  | [], [], _, _, j, h => h
  | x :: a, y :: b, hl, hg, 0, h => by
    simp [grew] at hg
    simp [Mem] at h ⊢
    exact hg.1 h
  | x :: a, y :: b, hl, hg, j + 1, h => by
    simp [grew] at hg
    have := grew_or (a := a) (b := b) (by simpa using hl) hg.2 j (by simpa [Mem] using h)
    simpa [Mem] using this
  | [], y :: b, h, _, _, _ => by simp at h
  | x :: a, [], h, _, _, _ => by simp at h

theorem with2_loop (K : Nat) (a0 a1 : List Bool) : ∀ (ra rb pre prb : List Bool) (g : Bool) (n : Nat), a0.length = pre.length + ra.length → prb.length = pre.length → a1 = prb ++ rb → ra.length = rb.length → ra.length < n → a0.length ≤ 20000 →
    denote_set_with_m2.l7 K a0 a1 n (pre ++ ra) g (pre.length : Int) = some (g || grew ra rb, pre ++ orL ra rb)
  | _, _, _, _, _, 0, _, _, _, _, h, _ => by omega
  | [], [], pre, prb, g, n + 1, h1, h2, h3, h4, h5, h6 => by
    subst h3
    unfold denote_set_with_m2.l7
    rw [if_pos (by simp at h1 ⊢; omega), if_neg (by simp; omega)]
    simp [grew, orL]
  | x :: ra, y :: rb, pre, prb, g, n + 1, h1, h2, h3, h4, h5, h6 => by
    simp only [List.length_cons] at h1 h4 h5
    have hi : idx a1 (pre.length : Int) = some y := by
      subst h3; rw [← h2]
      unfold idx
      rw [if_pos (by omega), Int.toNat_natCast]
      exact cell_at
    have ih := fun g' x' => with2_loop K a0 a1 ra rb (pre ++ [x']) (prb ++ [y]) g' n (by simp; omega) (by simp; omega) (by rw [h3]; simp) (by omega) (by omega) h6
    simp only [List.append_assoc, List.cons_append, List.nil_append, List.length_append, List.length_cons, List.length_nil] at ih
    have hl3 : a1.length = a0.length := by rw [h3]; simp; omega
    have hw : IntKind.i64.wrap ((pre.length : Int) + 1) = ((pre.length + (0 + 1) : Nat) : Int) := wr1 (by omega)
    have hlen : ∀ z, (pre ++ z :: ra).length = a0.length := fun z => by simp; omega
    have hj : ∀ q, denote_set_with_m2.j25 K (denote_set_with_m2.l7 K a0 a1 n) a0 a1 (pre ++ x :: ra) (pre.length : Int) y q = some (q || grew ra rb, pre ++ (x || y) :: orL ra rb) := fun q => by
      unfold denote_set_with_m2.j25
      rw [if_pos ⟨by omega, by omega⟩, Int.toNat_natCast, Nat.zero_add, cell_at, Option.bind_some]
      unfold denote_set_with_m2.j15
      cases x
      · rw [if_neg (by decide), if_pos ⟨by omega, by omega⟩, Option.bind_some, upd_at, if_pos (hlen _), hw, ih]; simp
      · rw [if_pos rfl, if_pos ⟨by omega, by omega⟩, Option.bind_some, upd_at, if_pos (hlen _), hw, ih]; simp
    unfold denote_set_with_m2.l7
    rw [if_pos (hlen _), if_pos (by simp; omega), hi, Option.bind_some]
    simp only [hj]
    cases g <;> cases y
    · simp [grew, orL]
    · rw [if_neg (by decide), if_pos rfl, if_pos ⟨by omega, by omega⟩, Int.toNat_natCast, Nat.zero_add, cell_at, Option.bind_some]
      simp [grew, orL]
    · simp [grew, orL]
    · simp [grew, orL]
  | [], _ :: _, _, _, _, _ + 1, _, _, _, h, _, _ => by simp at h
  | _ :: _, [], _, _, _, _ + 1, _, _, _, h, _, _ => by simp at h
theorem with2_f {K : Nat} {a b : List Bool} (h : a.length = b.length) (hK : a.length < K) (hl : a.length ≤ 20000) : denote_set_with_m2.f K a b = some (grew a b, orL a b) := by
  have := with2_loop K a b a b [] [] false K (by simp) rfl rfl h hK hl
  unfold denote_set_with_m2.f
  rw [show (0 : Int) = (([] : List Bool).length : Int) from rfl, show a = [] ++ a from rfl]
  simp only [List.nil_append] at this ⊢
  rw [this, Option.bind_some, if_pos (by simp [orL_len])]
  unfold denote_set_with_m2.j3
  rw [if_pos (by simp [orL_len])]
  simp
theorem with4_loop (K : Nat) (a0 a1 : List Bool) : ∀ (ra rb pre prb : List Bool) (g : Bool) (n : Nat), a0.length = pre.length + ra.length → prb.length = pre.length → a1 = prb ++ rb → ra.length = rb.length → ra.length < n → a0.length ≤ 20000 →
    denote_set_with_m4.l7 K a0 a1 n (pre ++ ra) g (pre.length : Int) = some (g || grew ra rb, pre ++ orL ra rb)
  | _, _, _, _, _, 0, _, _, _, _, h, _ => by omega
  | [], [], pre, prb, g, n + 1, h1, h2, h3, h4, h5, h6 => by
    subst h3
    unfold denote_set_with_m4.l7
    rw [if_pos (by simp at h1 ⊢; omega), if_neg (by simp; omega)]
    simp [grew, orL]
  | x :: ra, y :: rb, pre, prb, g, n + 1, h1, h2, h3, h4, h5, h6 => by
    simp only [List.length_cons] at h1 h4 h5
    have hi : a1[pre.length]? = some y := by
      subst h3; rw [← h2]
      exact cell_at
    have ih := fun g' x' => with4_loop K a0 a1 ra rb (pre ++ [x']) (prb ++ [y]) g' n (by simp; omega) (by simp; omega) (by rw [h3]; simp) (by omega) (by omega) h6
    simp only [List.append_assoc, List.cons_append, List.nil_append, List.length_append, List.length_cons, List.length_nil] at ih
    have hl3 : a1.length = a0.length := by rw [h3]; simp; omega
    have hw : IntKind.i64.wrap ((pre.length : Int) + 1) = ((pre.length + (0 + 1) : Nat) : Int) := wr1 (by omega)
    have hlen : ∀ z, (pre ++ z :: ra).length = a0.length := fun z => by simp; omega
    have hj : ∀ q, denote_set_with_m4.j26 K (denote_set_with_m4.l7 K a0 a1 n) a0 a1 (pre ++ x :: ra) (pre.length : Int) y q = some (q || grew ra rb, pre ++ (x || y) :: orL ra rb) := fun q => by
      unfold denote_set_with_m4.j26
      rw [if_pos ⟨by omega, by omega⟩, Int.toNat_natCast, Nat.zero_add, cell_at, Option.bind_some]
      unfold denote_set_with_m4.j15
      cases x
      · rw [if_neg (by decide), if_pos ⟨by omega, by omega⟩, Option.bind_some, upd_at, if_pos (hlen _), hw, ih]; simp
      · rw [if_pos rfl, if_pos ⟨by omega, by omega⟩, Option.bind_some, upd_at, if_pos (hlen _), hw, ih]; simp
    unfold denote_set_with_m4.l7
    rw [if_pos (hlen _), if_pos (by simp; omega), if_pos ⟨by omega, by omega⟩, Int.toNat_natCast, Nat.zero_add, hi, Option.bind_some]
    simp only [hj]
    cases g <;> cases y
    · simp [grew, orL]
    · rw [if_neg (by decide), if_pos rfl, if_pos ⟨by omega, by omega⟩, cell_at, Option.bind_some]
      simp [grew, orL]
    · simp [grew, orL]
    · simp [grew, orL]
  | [], _ :: _, _, _, _, _ + 1, _, _, _, h, _, _ => by simp at h
  | _ :: _, [], _, _, _, _ + 1, _, _, _, h, _, _ => by simp at h
theorem with4_f {K : Nat} {a b : List Bool} (h : a.length = b.length) (hK : a.length < K) (hl : a.length ≤ 20000) : denote_set_with_m4.f K a b = some (grew a b, orL a b) := by
  have := with4_loop K a b a b [] [] false K (by simp) rfl rfl h hK hl
  unfold denote_set_with_m4.f
  rw [show (0 : Int) = (([] : List Bool).length : Int) from rfl]
  simp only [List.nil_append] at this ⊢
  rw [this, Option.bind_some, if_pos (by simp [orL_len])]
  unfold denote_set_with_m4.j3
  rw [if_pos (by simp [orL_len])]
  simp
theorem with1_loop (K : Nat) (a0 : List Bool) : ∀ (ra pre : List Bool) (n : Nat), a0 = pre ++ ra → ra.length < n → a0.length ≤ 20000 →
    denote_set_with_m1.l7 K a0 n a0 false (pre.length : Int) = some (false, a0)
  | _, _, 0, _, h, _ => by omega
  | [], pre, n + 1, h1, h5, h6 => by
    unfold denote_set_with_m1.l7
    rw [if_pos rfl, if_neg (by rw [h1]; simp)]
  | x :: ra, pre, n + 1, h1, h5, h6 => by
    simp only [List.length_cons] at h5
    have hl : a0.length = pre.length + (ra.length + 1) := by rw [h1]; simp
    have hc : a0[pre.length]? = some x := by rw [h1]; exact cell_at
    have hu : upd a0 pre.length x = a0 := by rw [h1]; exact upd_at
    have ih := with1_loop K a0 ra (pre ++ [x]) n (by rw [h1]; simp) (by omega) h6
    simp only [List.length_append, List.length_cons, List.length_nil] at ih
    have hw : IntKind.i64.wrap ((pre.length : Int) + 1) = ((pre.length + (0 + 1) : Nat) : Int) := wr1 (by omega)
    have hj : denote_set_with_m1.j26 K (denote_set_with_m1.l7 K a0 n) a0 a0 (pre.length : Int) x false = some (false, a0) := by
      unfold denote_set_with_m1.j26
      rw [if_pos ⟨by omega, by omega⟩, Int.toNat_natCast, Nat.zero_add, hc, Option.bind_some]
      unfold denote_set_with_m1.j15
      cases x
      · rw [if_neg (by decide), if_pos ⟨by omega, by omega⟩, Option.bind_some, hu, if_pos rfl, hw, ih]
      · rw [if_pos rfl, if_pos ⟨by omega, by omega⟩, Option.bind_some, hu, if_pos rfl, hw, ih]
    unfold denote_set_with_m1.l7
    rw [if_pos rfl, if_pos (by simp; omega), if_pos ⟨by omega, by omega⟩, Int.toNat_natCast, Nat.zero_add, hc, Option.bind_some, if_neg (by decide)]
    cases x
    · rw [if_neg (by decide), hj]
    · rw [if_pos rfl, if_pos ⟨by omega, by omega⟩, Option.bind_some]
      exact hj
theorem with1_f {K : Nat} {a : List Bool} (hK : a.length < K) (hl : a.length ≤ 20000) : denote_set_with_m1.f K a = some (false, a, a) := by
  have := with1_loop K a a [] K rfl hK hl
  unfold denote_set_with_m1.f
  rw [show (0 : Int) = (([] : List Bool).length : Int) from rfl, this, Option.bind_some, if_pos rfl]
  unfold denote_set_with_m1.j3
  rw [if_pos rfl]

def onesL (w : List Int) : List UInt8 → List Bool → List Bool
  | c :: s, x :: X => (x && setHas w c.toNat) :: onesL w s X
  | _, _ => []
theorem onesL_len (w : List Int) : ∀ (s : List UInt8) (X : List Bool), X.length = s.length + 1 → (onesL w s X).length = s.length
  | [], _, _ => by unfold onesL; simp
  | c :: s, x :: X, h => by simp [onesL, onesL_len w s X (by simpa using h)]
  | c :: s, [], h => by simp at h
theorem mem_ones (w : List Int) : ∀ (s : List UInt8) (X : List Bool) (j : Nat), X.length = s.length + 1 → (Mem (onesL w s X) j ↔ Mem X j ∧ ∃ c, s[j]? = some c ∧ setHas w c.toNat = true)
  | [], X, j, _ => by simp [onesL, Mem]
  | c :: s, x :: X, 0, h => by simp [onesL, Mem]
  | c :: s, x :: X, j + 1, h => by
    have := mem_ones w s X j (by simpa using h)
    simpa [onesL, Mem] using this
  | c :: s, [], _, h => by simp at h
theorem ones_loop (K : Nat) (a0 : List UInt8) (a1 : List Bool) (w : List Int) (hw : SetOk w) : ∀ (rs : List UInt8) (rX pre : List Bool) (i n : Nat), a0.drop i = rs → a1.drop i = rX → rX.length = rs.length + 1 → pre.length = i + 1 → rs.length < n → a0.length ≤ 20000 →
    denote_ones.l6 K a0 a1 w n (pre ++ List.replicate rs.length false) (i : Int) = some (pre ++ onesL w rs rX)
  | _, _, _, _, 0, _, _, _, _, h, _ => by omega
  | [], rX, pre, i, n + 1, h1, h2, h3, h4, h5, h6 => by
    have := at_nil h1
    unfold denote_ones.l6
    rw [if_neg (by simp; omega)]
    simp [onesL]
  | c :: rs, [], _, _, n + 1, _, _, h, _, _, _ => by simp at h
  | c :: rs, x :: rX, pre, i, n + 1, h1, h2, h3, h4, h5, h6 => by
    simp only [List.length_cons] at h3 h5
    obtain ⟨g1, g2, g3⟩ := at_drop h1
    obtain ⟨e1, e2, e3⟩ := at_drop h2
    have ih := fun x' => ones_loop K a0 a1 w hw rs rX (pre ++ [x']) (i + 1) n g2 e2 (by omega) (by simp; omega) (by omega) h6
    simp only [List.append_assoc, List.cons_append, List.nil_append] at ih
    have hwr : IntKind.i64.wrap ((i : Int) + 1) = ((i + 1 : Nat) : Int) := wr1 (by omega)
    unfold denote_ones.l6
    rw [if_pos (by simp; omega), e1, Option.bind_some, g1, hwr, List.length_cons, List.replicate_succ, show i + 1 = pre.length from h4.symm]
    simp only [Option.bind_some, Int.toNat_natCast, Nat.zero_add, cell_at, upd_at]
    rw [class_has hw (by have := c.toNat_lt; omega), Option.bind_some]
    have hin : (0 : Int) ≤ (pre.length : Int) ∧ (pre.length : Int) < ((pre ++ false :: List.replicate rs.length false).length : Int) := ⟨by omega, by simp; omega⟩
    rw [if_pos hin, if_pos hin]
    unfold denote_ones.j12
    rw [hwr, ih, ih]
    cases x <;> simp [onesL]
theorem ones_f {K : Nat} {s : List UInt8} {X : List Bool} {w : List Int} (hw : SetOk w) (hX : X.length = s.length + 1) (hK : s.length < K) (hl : s.length ≤ 20000) :
    denote_ones.f K s X w = some (false :: onesL w s X) := by
  have := ones_loop K s X w hw s X [false] 0 K rfl rfl hX rfl hK hl
  unfold denote_ones.f
  have hL : (LIM : Nat) = 4294967296 := rfl
  rw [if_pos ⟨by omega, by omega, by rw [hL]; omega⟩, Int.toNat_natCast, hX, List.replicate_succ]
  rw [show (0 : Int) = ((0 : Nat) : Int) from rfl, show false :: List.replicate s.length false = [false] ++ List.replicate s.length false from rfl, this, Option.bind_some]
  rfl
theorem mem_set (n i j : Nat) (b : Bool) : Mem ((List.replicate n false).set i b) j ↔ j = i ∧ i < n ∧ b = true := by
  unfold Mem
  rw [List.getElem?_set]
  by_cases h : i = j
  · subst h
    by_cases h2 : i < n
    · simp [h2]
    · simp [h2]
  · simp only [h, if_false]
    rw [List.getElem?_replicate]
    constructor
    · intro g; split at g <;> simp at g
    · rintro ⟨rfl, _⟩; exact absurd rfl h
theorem only_f {K : Nat} {X : List Bool} {i : Nat} (hi : i < X.length) (hl : X.length ≤ 20000) : ∃ Y, denote_set_only.f K X (i : Int) = some Y ∧ Y.length = X.length ∧ ∀ j, Mem Y j ↔ j = i ∧ Mem X i := by
  have hL : (LIM : Nat) = 4294967296 := rfl
  refine ⟨upd (List.replicate X.length false) i X[i], ?_, ?_, ?_⟩
  · unfold denote_set_only.f
    rw [if_pos ⟨by omega, by omega, by rw [hL]; omega⟩, idx_at rfl hi, Option.bind_some, if_pos ⟨by omega, by simp; exact hi⟩]
    rw [Int.toNat_natCast, Int.toNat_natCast, Nat.zero_add, List.getElem?_replicate, if_pos hi, Option.bind_some]
  · simp [upd]
  · intro j
    rw [upd, mem_set]
    unfold Mem
    rw [List.getElem?_eq_getElem hi]
    simp [hi]
theorem of_in {K : Nat} {s : List UInt8} {i : Nat} (hi : i ≤ s.length) (hl : s.length ≤ 20000) : ∃ Y, denote_of.f K s (i : Int) = some Y ∧ Y.length = s.length + 1 ∧ ∀ j, Mem Y j ↔ j = i := by
  have hL : (LIM : Nat) = 4294967296 := rfl
  have hw : IntKind.i64.wrap ((s.length : Int) + 1) = ((s.length + 1 : Nat) : Int) := wr1 (by omega)
  refine ⟨upd (List.replicate (s.length + 1) false) i true, ?_, ?_, ?_⟩
  · unfold denote_of.f denote_of.j8 denote_of.j3
    rw [hw, if_pos ⟨by omega, by omega, by rw [hL]; omega⟩, if_pos (by simp), Int.toNat_natCast, Int.toNat_natCast, List.length_replicate, if_pos (by simp; omega), if_pos ⟨by omega, by omega⟩]
    rw [Nat.zero_add, List.getElem?_replicate, if_pos (by omega), Option.bind_some]
  · simp [upd]
  · intro j
    rw [upd, mem_set]
    simp; omega
theorem clone_f {K : Nat} {X : List Bool} (hl : X.length ≤ 20000) : pCloneB.f K X = some X := by
  unfold pCloneB.f
  rw [if_pos (by omega)]
end Go.Proofs.YteddmdkbeednmaaDoor.Dn
