/- A member's name in its parts: the code's and the document's. -/
import Derived.Test.YtcblgpcgdihcbaaGreatDoorK20ETF
import Derived.Test.YtcblgpcgdihcbaaGreatDoorK20AmM3
import Derived.Test.YtcblgpcgdihcbaaGreatDoorK20AmM
import Derived.Test.YtcblgpcgdihcbaaGreatDoorK20AmR5
import Derived.Test.YtcblgpcgdihcbaaGreatDoorK20AmW
import Derived.Lib.IndexBytes
namespace Go.Proofs.YtcblgpcgdihcbaaGreatDoor.Nm
open Go Go.AM Go.ChangeShapes Go.ChangeAt Go.RowKit
set_option linter.unusedVariables false
set_option linter.unusedSimpArgs false
set_option maxRecDepth 100000
def okb (c : UInt8) : Bool := decide (33 ≤ c.toNat) && decide (c.toNat ≤ 126)

theorem right_loop (k : Nat) (s : List UInt8) (hs : s.length ≤ 1000000000) : ∀ (m i n : Nat) (v : Int), v = (i : Int) → i + m = s.length → m < n →
    names_Right.l3 k s n v = some (if (s.drop i).all okb then .inl () else .inr false) := by
  intro m
  induction m with
  | zero =>
    intro i n v hv hi hn; obtain ⟨n, rfl⟩ : ∃ m, n = m + 1 := ⟨n - 1, by omega⟩; subst hv
    unfold names_Right.l3
    rw [if_neg (by simp; omega), List.drop_eq_nil_of_le (by omega)]; simp
  | succ m ih =>
    intro i n v hv hi hn; obtain ⟨n, rfl⟩ : ∃ m, n = m + 1 := ⟨n - 1, by omega⟩; subst hv
    unfold names_Right.l3
    rw [if_pos (by simp; omega), idx_at rfl (by omega), Option.bind_some, Option.bind_some, List.drop_eq_getElem_cons (by omega), List.all_cons]
    unfold names_Right.j10 names_Right.j7
    rw [w64 (by omega) (by omega), ih (i + 1) n _ (by omega) (by omega) (by omega)]
    by_cases h1 : s[i].toNat < 33
    · have : okb s[i] = false := by simp [okb]; omega
      simp [this]; omega
    · by_cases h2 : s[i].toNat > 126
      · have : okb s[i] = false := by simp [okb]; omega
        simp [this]; omega
      · have : okb s[i] = true := by simp [okb]; omega
        have e1 : ¬ ((s[i].toNat : Int) < 33) := by omega
        have e2 : ¬ ((s[i].toNat : Int) > 126) := by omega
        simp only [this, e1, e2, decide_false, if_false, Bool.false_eq_true, Bool.true_and]

def right (s : List UInt8) : Bool := decide (1 ≤ s.length) && decide (s.length ≤ 40) && s.all okb

theorem right_eq (k : Nat) (s : List UInt8) (hs : s.length ≤ 1000000000) (hk : s.length < k) : names_Right.f k s = some (right s) := by
  unfold names_Right.f names_Right.j19 names_Right.j16 right
  rw [right_loop k s hs s.length 0 k 0 rfl (by omega) hk]
  unfold names_Right.j1
  by_cases h1 : s.length < 1
  · have e1 : (s.length : Int) < 1 := by omega
    have e2 : ¬ 1 ≤ s.length := by omega
    simp only [e1, e2, decide_true, decide_false, if_true, Bool.false_and]
  · have e1 : ¬ (s.length : Int) < 1 := by omega
    have e2 : 1 ≤ s.length := by omega
    by_cases h2 : s.length > 40
    · have e3 : (s.length : Int) > 40 := by omega
      have e4 : ¬ s.length ≤ 40 := by omega
      simp only [e1, e2, e3, e4, decide_true, decide_false, if_true, Bool.false_and, Bool.and_false, Bool.false_eq_true, if_false]
    · have e3 : ¬ (s.length : Int) > 40 := by omega
      have e4 : s.length ≤ 40 := by omega
      simp only [e1, e2, e3, e4, decide_true, decide_false, Bool.true_and, Bool.false_eq_true, if_false, List.drop_zero, Option.bind_some]
      cases s.all okb <;> rfl

theorem rright_loop (k : Nat) (s : List UInt8) (hs : s.length ≤ 1000000000) : ∀ (m i n : Nat) (v : Int), v = (i : Int) → i + m = s.length → m < n →
    millwrightref01_Right.l4 k s n v = some (if (s.drop i).all okb then .inl () else .inr false) := by
  intro m
  induction m with
  | zero =>
    intro i n v hv hi hn; obtain ⟨n, rfl⟩ : ∃ m, n = m + 1 := ⟨n - 1, by omega⟩; subst hv
    unfold millwrightref01_Right.l4
    rw [if_neg (by simp; omega), List.drop_eq_nil_of_le (by omega)]; simp
  | succ m ih =>
    intro i n v hv hi hn; obtain ⟨n, rfl⟩ : ∃ m, n = m + 1 := ⟨n - 1, by omega⟩; subst hv
    unfold millwrightref01_Right.l4
    rw [if_pos (by simp; omega), idx_at rfl (by omega), Option.bind_some, Option.bind_some, List.drop_eq_getElem_cons (by omega), List.all_cons]
    unfold millwrightref01_Right.j11 millwrightref01_Right.j8
    rw [w64 (by omega) (by omega), ih (i + 1) n _ (by omega) (by omega) (by omega)]
    by_cases h1 : s[i].toNat < 33
    · have : okb s[i] = false := by simp [okb]; omega
      simp [this]; omega
    · by_cases h2 : s[i].toNat > 126
      · have : okb s[i] = false := by simp [okb]; omega
        simp [this]; omega
      · have : okb s[i] = true := by simp [okb]; omega
        have e1 : ¬ ((s[i].toNat : Int) ≤ 32) := by omega
        have e2 : ¬ ((s[i].toNat : Int) ≥ 127) := by omega
        simp only [this, e1, e2, decide_false, if_false, Bool.false_eq_true, Bool.true_and]

theorem rright_eq (k : Nat) (s : List UInt8) (hs : s.length ≤ 1000000000) (hk : s.length < k) : millwrightref01_Right.f k s = some (right s) := by
  unfold millwrightref01_Right.f millwrightref01_Right.j2 right
  rw [rright_loop k s hs s.length 0 k 0 rfl (by omega) hk, Option.bind_some, List.drop_zero]
  by_cases h1 : s.length > 0
  · have e1 : (s.length : Int) > 0 := by omega
    have e2 : 1 ≤ s.length := by omega
    have e3 : ((s.length : Int) ≤ 40) = (s.length ≤ 40) := by apply propext; omega
    simp only [e1, e2, e3, decide_true, if_true, Bool.true_and]
    cases s.all okb <;> simp
  · have e2 : s = [] := List.eq_nil_of_length_eq_zero (by omega)
    subst e2; rfl

theorem count_loop (k : Nat) (s : List UInt8) (c : UInt8) (hs : s.length ≤ 1000000000) : ∀ (m i n : Nat) (v a : Int), v = (i : Int) → 0 ≤ a → a ≤ i → i + m = s.length → m < n →
    millwrightref01_count.l5 k s (c.toNat : Int) n a v = some (a + ((s.drop i).count c : Nat)) := by
  intro m
  induction m with
  | zero =>
    intro i n v a hv ha ha' hi hn; obtain ⟨n, rfl⟩ : ∃ m, n = m + 1 := ⟨n - 1, by omega⟩; subst hv
    unfold millwrightref01_count.l5
    rw [if_neg (by simp; omega), List.drop_eq_nil_of_le (by omega)]; simp
  | succ m ih =>
    intro i n v a hv ha ha' hi hn; obtain ⟨n, rfl⟩ : ∃ m, n = m + 1 := ⟨n - 1, by omega⟩; subst hv
    unfold millwrightref01_count.l5
    rw [if_pos (by simp; omega), idx_at rfl (by omega), Option.bind_some, List.drop_eq_getElem_cons (by omega), List.count_cons, u8_eq]
    unfold millwrightref01_count.j11
    rw [w64 (n := (i : Int) + 1) (by omega) (by omega), w64 (by omega) (by omega), ih (i + 1) n _ _ (by omega) (by omega) (by omega) (by omega) (by omega), ih (i + 1) n _ _ (by omega) (by omega) (by omega) (by omega) (by omega)]
    by_cases h : s[i] = c
    · simp [h]; omega
    · simp [h]

theorem count_eq (k : Nat) (s : List UInt8) (c : UInt8) (hs : s.length ≤ 1000000000) (hk : s.length < k) : millwrightref01_count.f k s (c.toNat : Int) = some (s.count c : Int) := by
  unfold millwrightref01_count.f millwrightref01_count.j2
  rw [count_loop k s c hs s.length 0 k 0 0 rfl (by omega) (by omega) (by omega) hk]; simp

theorem index_cases (c : UInt8) : ∀ l : List UInt8, (c ∉ l ∧ Lib.indexByte l c = -1) ∨ ∃ a b, l = a ++ c :: b ∧ c ∉ a ∧ Lib.indexByte l c = (a.length : Int)
  | [] => .inl ⟨by simp, rfl⟩
  | x :: l => by
    unfold Lib.indexByte
    by_cases h : x = c
    · subst h; exact .inr ⟨[], l, rfl, by simp, by simp⟩
    · rw [if_neg (by simpa using h)]
      rcases index_cases c l with ⟨h1, h2⟩ | ⟨a, b, h1, h2, h3⟩
      · left; rw [h2]; exact ⟨by simp; exact ⟨fun e => h e.symm, h1⟩, by simp⟩
      · right; refine ⟨x :: a, b, by simp [h1], by simp; exact ⟨fun e => h e.symm, h2⟩, ?_⟩
        rw [h3, if_neg (by simp)]; simp

theorem contains_eq (k : Nat) (l : List UInt8) (c : UInt8) (hl : l.length ≤ 1000000000) : strings_Contains.f k l [c] = some (decide (c ∈ l)) := by
  simp only [strings_Contains.f, pIndex.f, if_pos (show l.length < 4294967281 by omega), Lib.index_one, Option.bind_some]
  rcases index_cases c l with ⟨h1, h2⟩ | ⟨a, b, h1, h2, h3⟩
  · rw [h2]; simp [h1]
  · rw [h3, h1]; simp

theorem cut_cases (k : Nat) (l : List UInt8) (c : UInt8) (hl : l.length ≤ 1000000000) : (c ∉ l ∧ strings_Cut.f k l [c] = some (l, [], false)) ∨ ∃ a b, l = a ++ c :: b ∧ c ∉ a ∧ strings_Cut.f k l [c] = some (a, b, true) := by
  simp only [strings_Cut.f, stringslite_Cut.f, pIndexL.f, if_pos (show l.length < 4294967281 by omega), Lib.index_one, Option.bind_some]
  rcases index_cases c l with ⟨h1, h2⟩ | ⟨a, b, h1, h2, h3⟩
  · left; refine ⟨h1, ?_⟩; rw [h2]; simp
  · right; refine ⟨a, b, h1, h2, ?_⟩
    have hl' : l.length = a.length + (b.length + 1) := by rw [h1]; simp
    rw [h3, if_pos (by simp), sub_to rfl rfl (by omega), w64 (by simp; omega) (by simp; omega), Option.bind_some, sub_from (a := a.length + 1) (by simp) rfl (by omega), h1]
    simp

theorem cutsuf_cases (k : Nat) (s : List UInt8) (c : UInt8) (hl : s.length ≤ 1000000000) : (∃ l, s = l ++ [c] ∧ strings_CutSuffix.f k s [c] = some (l, true)) ∨ (strings_CutSuffix.f k s [c] = some (s, false) ∧ ∀ l, s ≠ l ++ [c]) := by
  unfold strings_CutSuffix.f stringslite_CutSuffix.f stringslite_HasSuffix.f
  rcases List.eq_nil_or_concat s with rfl | ⟨l, x, hx⟩
  · right; exact ⟨by simp, by simp⟩
  · rw [List.concat_eq_append] at hx; subst hx
    have e : (l ++ [x]).length = l.length + 1 := by simp
    rw [e] at hl
    rw [if_pos (by simp <;> omega), w64 (by simp <;> omega) (by simp <;> omega), sub_from (a := l.length) (by simp) rfl (by simp), Option.bind_some, sub_to (b := l.length) rfl (by simp) (by simp)]
    by_cases h : x = c
    · left; subst h; exact ⟨l, by simp, by simp⟩
    · right; exact ⟨by simp [h], by intro l' e; simp at e; exact h e.2⟩

structure Parts (s a b : List UInt8) : Prop where
  eq : s = a ++ 40 :: (b ++ [41])
  ok : right s = true
  na : a ≠ []
  nb : b ≠ []
  a0 : (40 : UInt8) ∉ a
  a1 : (41 : UInt8) ∉ a
  b0 : (40 : UInt8) ∉ b
  b1 : (41 : UInt8) ∉ b

theorem split_uniq {c : UInt8} : ∀ {a a' b b' : List UInt8}, a ++ c :: b = a' ++ c :: b' → c ∉ a → c ∉ a' → a = a' ∧ b = b'
  | [], [], b, b', h, _, _ => by simpa using h
  | [], x :: a', b, b', h, _, h2 => by simp at h; exact absurd (by simp [h.1]) h2
  | x :: a, [], b, b', h, h1, _ => by simp at h; exact absurd (by simp [h.1]) h1
  | x :: a, y :: a', b, b', h, h1, h2 => by
    simp at h h1 h2
    obtain ⟨r1, r2⟩ := split_uniq h.2 h1.2 h2.2
    exact ⟨by rw [h.1, r1], r2⟩

theorem member_true (k : Nat) (s a b : List UInt8) (hs : s.length ≤ 1000000000) (hk : s.length < k) (h : Parts s a b) : names_Member.f k s = some (a, b, true) := by
  unfold names_Member.f names_Member.j6 names_Member.j3
  have e : s = (a ++ 40 :: b) ++ [41] := by rw [h.eq]; simp
  rcases cutsuf_cases k s 41 hs with ⟨l, h1, h2⟩ | ⟨_, h2⟩
  · have hl : l = a ++ 40 :: b := by rw [e] at h1; exact (List.append_cancel_right h1).symm
    subst hl
    rw [h2, Option.bind_some]
    have hls : (a ++ 40 :: b).length ≤ 1000000000 := by have := congrArg List.length e; simp at this ⊢; omega
    rcases cut_cases k (a ++ 40 :: b) 40 hls with ⟨h3, _⟩ | ⟨a', b', h3, h4, h5⟩
    · simp at h3
    · obtain ⟨rfl, rfl⟩ := split_uniq h3 h.a0 h4
      have hin : decide ((41 : UInt8) ∈ a ++ 40 :: b) = false := by simp [h.a1, h.b1]
      have hb0 : decide ((40 : UInt8) ∈ b) = false := by simp [h.b0]
      have ha : (a == ([] : List UInt8)) = false := by simpa using h.na
      have hb : (b == ([] : List UInt8)) = false := by simpa using h.nb
      simp only [h5, Option.bind_some, right_eq k s hs hk, h.ok, contains_eq k b 40 (by simp at hls; omega), contains_eq k (a ++ 40 :: b) 41 hls, hin, hb0, ha, hb, Bool.not_true, Bool.false_eq_true, if_false]
  · exact absurd e (h2 _)

theorem member_out (k : Nat) (s : List UInt8) (hs : s.length ≤ 1000000000) (hk : s.length < k) : names_Member.f k s = some ([], [], false) ∨ ∃ a b, Parts s a b := by
  unfold names_Member.f names_Member.j6
  have hc1 := cutsuf_cases k s 41 hs
  have hc1 : ∃ l t, strings_CutSuffix.f k s [41] = some (l, t) ∧ l.length ≤ s.length ∧ (t = true → s = l ++ [41]) := by
    rcases hc1 with ⟨l, h1, h2⟩ | ⟨h1, _⟩
    · exact ⟨l, true, h2, by rw [h1]; simp, fun _ => h1⟩
    · exact ⟨s, false, h1, by simp, by simp⟩
  obtain ⟨l, t, h1, hl, h2⟩ := hc1
  rw [h1, Option.bind_some]
  have hc2 : ∃ a b u, strings_Cut.f k l [40] = some (a, b, u) ∧ b.length ≤ l.length ∧ (u = true → l = a ++ 40 :: b ∧ (40 : UInt8) ∉ a) := by
    rcases cut_cases k l 40 (by omega) with ⟨_, h3⟩ | ⟨a, b, h3, h4, h5⟩
    · exact ⟨l, [], false, h3, by simp, by simp⟩
    · exact ⟨a, b, true, h5, by rw [h3]; simp; omega, fun _ => ⟨h3, h4⟩⟩
  obtain ⟨a, b, u, h3, hbl, h4⟩ := hc2
  simp only [h3, Option.bind_some, right_eq k s hs hk, contains_eq k b 40 (by omega), contains_eq k l 41 (by omega), if_true]
  cases hr : right s with
  | false => left; simp
  | true =>
    cases t with
    | false => left; simp
    | true =>
      cases u with
      | false => left; simp
      | true =>
        by_cases ha : a = []
        · left; simp [ha]
        · by_cases hb : b = []
          · left; simp [hb]
          · by_cases hb0 : (40 : UInt8) ∈ b
            · left; simp [hb0]
            · by_cases hin : (41 : UInt8) ∈ l
              · left; simp [hin]
              · right
                obtain ⟨e1, e2⟩ := h4 rfl
                have e3 := h2 rfl
                rw [e1] at hin
                simp at hin
                exact ⟨a, b, by rw [e3, e1]; simp, hr, ha, hb, e2, hin.1, hb0, hin.2⟩

theorem ref_at (k : Nat) (a r : List UInt8) (h0 : (40 : UInt8) ∉ a) (hs : a.length ≤ 1000000000) : ∀ (m i n : Nat) (v : Int), v = (i : Int) → i + m = a.length → m < n →
    millwrightref01_Member.l7 k (a ++ 40 :: r) n v = some (a.length : Int) := by
  have hc : ∀ c : UInt8, ((c.toNat : Int) != 40) = (c != 40) := fun c => by simp only [bne]; rw [show ((c.toNat : Int) == 40) = (c == 40) from u8_eq (b := 40)]
  intro m
  induction m with
  | zero =>
    intro i n v hv hi hn; obtain ⟨n, rfl⟩ : ∃ m, n = m + 1 := ⟨n - 1, by omega⟩; subst hv
    unfold millwrightref01_Member.l7
    have : i = a.length := by omega
    subst this
    rw [idx_at rfl (by simp), Option.bind_some, hc]; simp
  | succ m ih =>
    intro i n v hv hi hn; obtain ⟨n, rfl⟩ : ∃ m, n = m + 1 := ⟨n - 1, by omega⟩; subst hv
    unfold millwrightref01_Member.l7
    rw [idx_at rfl (by simp; omega), Option.bind_some, hc, List.getElem_append_left (by omega), if_pos, w64 (by omega) (by omega), ih (i + 1) n _ (by omega) (by omega) (by omega)]
    have : a[i] ≠ 40 := fun e => h0 (e ▸ List.getElem_mem _)
    simpa using this

theorem rmember_true (k : Nat) (s a b : List UInt8) (hs : s.length ≤ 1000000000) (hk : s.length < k) (h : Parts s a b) : millwrightref01_Member.f k s = some (a, b, true) := by
  have e : s = a ++ 40 :: (b ++ [41]) := h.eq
  have hlen : s.length = a.length + (b.length + 2) := by rw [e]; simp
  have na := h.na; have nb := h.nb
  have hc40 : s.count 40 = 1 := by rw [e]; simp [List.count_eq_zero.2 h.a0, List.count_eq_zero.2 h.b0]
  have hc41 : s.count 41 = 1 := by rw [e]; simp [List.count_eq_zero.2 h.a1, List.count_eq_zero.2 h.b1]
  have hb' : 0 < b.length := List.length_pos_iff.2 nb
  have ha' : 0 < a.length := List.length_pos_iff.2 na
  unfold millwrightref01_Member.f millwrightref01_Member.j17 millwrightref01_Member.j14 millwrightref01_Member.j5
  have hlast : idx s (IntKind.i64.wrap ((s.length : Int) - 1)) = some 41 := by
    rw [w64 (by omega) (by omega), idx_at (i := a.length + (b.length + 1)) (by omega) (by omega)]
    simp [e]
  have hfirst : idx s 0 = some a[0] := by
    have e0 : idx s ((0 : Nat) : Int) = some s[0] := idx_at rfl (by omega)
    rw [show (0 : Int) = ((0 : Nat) : Int) from rfl, e0]
    simp [e]
    rw [List.getElem_append_left (by omega)]
  have h40 : millwrightref01_count.f k s 40 = some 1 := by have := count_eq k s 40 hs hk; rw [hc40] at this; exact this
  have h41 : millwrightref01_count.f k s 41 = some 1 := by have := count_eq k s 41 hs hk; rw [hc41] at this; exact this
  have hne : ((a[0].toNat : Int) == 40) = false := by
    rw [show ((a[0].toNat : Int) == 40) = (a[0] == 40) from u8_eq (b := 40)]
    have : a[0] ≠ 40 := fun e => h.a0 (e ▸ List.getElem_mem _)
    simpa using this
  have hat : millwrightref01_Member.l7 k s k 0 = some (a.length : Int) := by rw [e]; exact ref_at k a _ h.a0 (by omega) a.length 0 k 0 rfl (by omega) (by omega)
  have w1 : IntKind.i64.wrap ((s.length : Int) - 2) = (s.length : Int) - 2 := w64 (by omega) (by omega)
  have w2 : IntKind.i64.wrap ((a.length : Int) + 1) = (a.length : Int) + 1 := w64 (by omega) (by omega)
  have w3 : IntKind.i64.wrap ((s.length : Int) - 1) = (s.length : Int) - 1 := w64 (by omega) (by omega)
  have hne2 : ((a.length : Int) == (s.length : Int) - 2) = false := by rw [beq_eq_false_iff_ne]; omega
  rw [w3] at hlast
  simp only [rright_eq k s hs hk, h.ok, w1, w2, w3, hlast, hfirst, h40, h41, hne, hat, hne2, Option.bind_some, Bool.not_true, Bool.false_eq_true, if_false]
  rw [sub_to rfl rfl (by omega), sub_at (a := a.length + 1) (b := s.length - 1) (by omega) (by omega) (by omega) (by omega)]
  rw [e]
  simp
  rw [List.take_append, List.drop_append]
  simp

theorem rmember_out (k : Nat) (s : List UInt8) (hs : s.length ≤ 1000000000) (hk : s.length < k) : millwrightref01_Member.f k s = some ([], [], false) ∨ ∃ a b, Parts s a b := by
  unfold millwrightref01_Member.f millwrightref01_Member.j17 millwrightref01_Member.j14 millwrightref01_Member.j5
  simp only [rright_eq k s hs hk, Option.bind_some, if_true]
  cases hr : right s with
  | false => left; simp
  | true =>
    rcases List.eq_nil_or_concat s with rfl | ⟨l, x, hx⟩
    · cases hr
    · rw [List.concat_eq_append] at hx; subst hx
      have e : (l ++ [x]).length = l.length + 1 := by simp
      have hlast : idx (l ++ [x]) (IntKind.i64.wrap (((l ++ [x]).length : Int) - 1)) = some x := by
        rw [w64 (by omega) (by omega), idx_at (i := l.length) (by omega) (by omega)]; simp
      have h40 : millwrightref01_count.f k (l ++ [x]) 40 = some _ := count_eq k (l ++ [x]) 40 hs hk
      have h41 : millwrightref01_count.f k (l ++ [x]) 41 = some _ := count_eq k (l ++ [x]) 41 hs hk
      have hfirst : idx (l ++ [x]) 0 = some ((l ++ [x])[0]'(by omega)) := idx_at (i := 0) rfl (by omega)
      rw [hlast, Option.bind_some, h40, Option.bind_some, h41, Option.bind_some, hfirst, Option.bind_some]
      by_cases hx : x = 41
      · subst hx
        by_cases c40 : (l ++ [41]).count 40 = 1
        · by_cases c41 : (l ++ [41]).count 41 = 1
          · by_cases hz : (l ++ [41])[0] = 40
            · left; simp only [c40, c41, hz]; simp
            · have hmem : (40 : UInt8) ∈ l ++ [41] := List.count_pos_iff.1 (by omega)
              have hmem' : (40 : UInt8) ∈ l := by simpa using hmem
              rcases index_cases 40 l with ⟨h1, _⟩ | ⟨a, b, h1, h2, _⟩
              · exact absurd hmem' h1
              · subst h1
                have hcb : b.count 40 = 0 := by simp [List.count_eq_zero.2 h2] at c40; first | exact c40 | exact List.count_eq_zero.2 c40
                have hc1 : a.count 41 = 0 ∧ b.count 41 = 0 := by simp at c41; omega
                have hna : a ≠ [] := by rintro rfl; simp at hz
                by_cases hb : b = []
                · left
                  subst hb
                  have hn : ((((a ++ [40]) ++ [41])[0].toNat : Int) == 40) = false := by
                    rw [show ((((a ++ [40]) ++ [41])[0].toNat : Int) == 40) = (((a ++ [40]) ++ [41])[0] == 40) from u8_eq (b := 40)]
                    simpa using hz
                  have hat : millwrightref01_Member.l7 k ((a ++ [40]) ++ [41]) k 0 = some (a.length : Int) := by
                    have := ref_at k a [41] h2 (by simp at hs; omega) a.length 0 k 0 rfl (by omega) (by simp at hk; omega)
                    simpa using this
                  have w1 : IntKind.i64.wrap ((((a ++ [40]) ++ [41]).length : Int) - 2) = (a.length : Int) := by rw [w64 (by simp <;> omega) (by simp at hs ⊢ <;> omega)]; simp <;> omega
                  rw [hn, hat, w1, c40, c41]
                  simp
                · right
                  exact ⟨a, b, by simp, hr, hna, hb, h2, List.count_eq_zero.1 hc1.1, List.count_eq_zero.1 hcb, List.count_eq_zero.1 hc1.2⟩
          · left
            have : (((l ++ [41]).count 41 : Int) != 1) = true := by simp only [bne_iff_ne]; omega
            simp only [this, if_true]; simp
        · left
          have : (((l ++ [41]).count 40 : Int) != 1) = true := by simp only [bne_iff_ne]; omega
          simp only [this, if_true]; simp
      · left
        have : ((x.toNat : Int) != 41) = true := by
          simp only [bne]; rw [show ((x.toNat : Int) == 41) = (x == 41) from u8_eq (b := 41)]; simpa using hx
        simp only [this, if_true]; simp

end Go.Proofs.YtcblgpcgdihcbaaGreatDoor.Nm
