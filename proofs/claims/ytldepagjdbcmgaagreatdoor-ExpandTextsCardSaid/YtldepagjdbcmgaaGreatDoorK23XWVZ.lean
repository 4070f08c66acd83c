/- What a text's pieces are, and their texts. -/
import Derived.Test.YtldepagjdbcmgaaGreatDoorK23XWVY
namespace Go.Proofs.YtldepagjdbcmgaaGreatDoor.Lx
open Go Go.AM Go.ChangeShapes Go.ChangeAt Go.RowKit
set_option linter.unusedVariables false
set_option linter.unusedSimpArgs false
set_option maxRecDepth 100000
def pieceT (p : Pc) : List UInt8 :=
  if p.f_Kind = 0 then p.f_Text else if p.f_Kind = 1 then [39] ++ p.f_Text.flatMap dbl ++ [39] else if p.f_Kind = 2 then [36, 123] ++ p.f_Text ++ [125]
  else if p.f_Kind = 3 then [36, 123] ++ p.f_Text ++ [58] ++ p.f_From ++ [61] ++ p.f_To ++ [125] else if p.f_Kind = 4 then [96, 123] ++ p.f_Text ++ [125] else []
def hd (p : UInt8 → Bool) (r : List UInt8) : Prop := ∀ b, r.head? = some b → p b = false
def Good (p : Pc) (rest : List UInt8) : Prop :=
  (∃ t, p = ⟨0, t, [], []⟩ ∧ t ≠ [] ∧ t.all plB = true ∧ hd plB rest) ∨ (∃ t, p = ⟨1, t, [], []⟩ ∧ rest.head? ≠ some 39) ∨
  (∃ t, p = ⟨2, t, [], []⟩ ∧ okNm t = true) ∨ (∃ t f g, p = ⟨3, t, f, g⟩ ∧ okNm t = true ∧ f.all patB = true ∧ g.all patB = true) ∨ (∃ t, p = ⟨4, t, [], []⟩ ∧ t.all insB = true)

theorem tw_all (p : UInt8 → Bool) : ∀ r : List UInt8, (r.takeWhile p).all p = true
  | [] => rfl
  | x :: r => by
    cases h : p x
    · simp [h]
    · have := tw_all p r
      simp [h] at this ⊢
theorem dw_hd (p : UInt8 → Bool) : ∀ r : List UInt8, hd p (r.dropWhile p)
  | [], b, h => by cases h
  | x :: r, b, h => by
    cases hx : p x
    · simp [hx] at h; rw [← h]; exact hx
    · simp [hx] at h; exact dw_hd p r b h
theorem pl_ne {b : UInt8} (h : plB b = true) : bl b = false ∧ b ≠ 39 ∧ b ≠ 36 ∧ b ≠ 96 := by
  unfold plB at h
  simpa using h
theorem tokE_cons (b : UInt8) (t : List UInt8) : tokE (b :: t) = if b = 39 then quoE t else if b = 36 then varE t 0 else if b = 96 then cmdE t 0 else (⟨0, (b :: t).takeWhile plB, [], []⟩, (b :: t).dropWhile plB, 0) := rfl
theorem fe_good : ∀ (m : Nat) (r : List UInt8) (q : Nat), r.length ≤ m → fe r = some q → (r.drop q).head? ≠ some 39 ∧ ∃ u, Dbl (r.take (q - 1)) u
  | _, [], q, _, h => by cases h
  | 0, x :: r, q, hm, h => by simp at hm
  | m + 1, x :: r, q, hm, h => by
    simp only [List.length_cons] at hm
    by_cases hx : x = 39
    · subst hx
      cases r with
      | nil =>
        rw [fe_one (by simp)] at h; cases h
        exact ⟨by simp, [], by simpa using Dbl.nil⟩
      | cons y r =>
        simp only [List.length_cons] at hm
        by_cases hy : y = 39
        · subst hy
          rw [fe_two] at h
          cases hf : fe r with
          | none => rw [hf] at h; cases h
          | some q' =>
            rw [hf] at h; cases h
            obtain ⟨h1, u, h2⟩ := fe_good m r q' (by omega) hf
            have hb := fe_bd r q' hf
            refine ⟨by simpa using h1, 39 :: u, ?_⟩
            have : q' + 2 - 1 = (q' - 1) + 2 := by omega
            rw [this]; exact Dbl.qq h2
        · rw [fe_one (by simpa using hy)] at h; cases h
          exact ⟨by simpa using hy, [], by simpa using Dbl.nil⟩
    · rw [fe_ne hx] at h
      cases hf : fe r with
      | none => rw [hf] at h; cases h
      | some q' =>
        rw [hf] at h; cases h
        obtain ⟨h1, u, h2⟩ := fe_good m r q' (by omega) hf
        have hb := fe_bd r q' hf
        refine ⟨by simpa using h1, x :: u, ?_⟩
        have : q' + 1 - 1 = (q' - 1) + 1 := by omega
        rw [this]; exact Dbl.ch hx h2
theorem tk_ok {b : UInt8} {r : List UInt8} {e : Nat} (h : (tk b r e).2 = 0) : r = b :: (tk b r e).1 ∧ e = 0 := by
  unfold tk fl at h ⊢
  cases r with
  | nil => simp only at h; split at h <;> omega
  | cons x t =>
    simp only at h ⊢
    by_cases hx : x = b
    · subst hx; simp at h ⊢; exact h
    · rw [if_neg hx] at h; simp only at h; split at h <;> omega
theorem nm_ok {r : List UInt8} {e : Nat} (h : nmE r e = 0) : okNm (r.takeWhile letB) = true ∧ e = 0 := by
  unfold nmE fl at h
  split at h
  · rename_i h1; exact ⟨h1, h⟩
  · split at h <;> omega
theorem tw_sum (p : UInt8 → Bool) (r : List UInt8) : (r.takeWhile p).length + (r.dropWhile p).length = r.length := by
  have := congrArg List.length (tw_app p r)
  rw [List.length_append] at this; exact this

def Fine (b : UInt8) (r : List UInt8) (x : TR) : Prop :=
  Good x.1 x.2.1 ∧ x.2.1.length < (b :: r).length ∧ x.1.f_Text.length + x.1.f_From.length + x.1.f_To.length + x.2.1.length ≤ (b :: r).length ∧ (x.1.f_Kind = 0 → plB b = true) ∧ (x.1.f_Kind = 1 → b = 39)

theorem var_fine (r : List UInt8) (h : (varE r 0).2.2 = 0) : Fine 36 r (varE r 0) := by
  have c2 : ∀ {t rest : List UInt8}, okNm t = true → t.length + rest.length ≤ r.length → Fine 36 r (⟨2, t, [], []⟩, rest, 0) := fun h1 h2 =>
    ⟨.inr (.inr (.inl ⟨_, rfl, h1⟩)), by simp; omega, by simp; omega, (fun h => by cases h), (fun h => by cases h)⟩
  revert h
  unfold varE
  split
  · rename_i t
    have hs := tw_sum letB t
    split
    · rename_i u hu
      split
      · rename_i he
        simp only
        intro h
        obtain ⟨e1, e2⟩ := tk_ok h
        obtain ⟨e3, e4⟩ := tk_ok e2
        obtain ⟨n1, _⟩ := nm_ok he
        have s1 := tw_sum patB u
        have s2 := tw_sum patB (tk 61 (u.dropWhile patB) (nmE t 0)).1
        have l1 := congrArg List.length e3
        have l2 := congrArg List.length e1
        simp only [List.length_cons] at l1 l2
        rw [hu, List.length_cons] at hs
        refine ⟨.inr (.inr (.inr (.inl ⟨_, _, _, rfl, n1, tw_all _ _, tw_all _ _⟩))), ?_, ?_, (fun h => by cases h), (fun h => by cases h)⟩
        · simp only [List.length_cons]; omega
        · simp only [List.length_cons]; omega
      · rename_i he
        simp only
        intro h
        obtain ⟨e1, e2⟩ := tk_ok h
        exact absurd e2 he
    · rename_i u hu
      simp only
      intro h
      obtain ⟨e1, e2⟩ := tk_ok h
      obtain ⟨n1, _⟩ := nm_ok e2
      rw [h]
      have l1 := congrArg List.length e1
      simp only [List.length_cons] at l1
      exact c2 n1 (by simp only [List.length_cons]; omega)
  · simp only
    intro h
    obtain ⟨n1, _⟩ := nm_ok h
    rw [h]
    have hs := tw_sum letB r
    exact c2 n1 (by omega)
theorem cmd_fine (r : List UInt8) (h : (cmdE r 0).2.2 = 0) : Fine 96 r (cmdE r 0) := by
  revert h
  unfold cmdE
  simp only
  intro h
  obtain ⟨e1, e2⟩ := tk_ok h
  obtain ⟨e3, e4⟩ := tk_ok e2
  have s1 := tw_sum insB (tk 123 r 0).1
  have l1 := congrArg List.length e1
  have l2 := congrArg List.length e3
  simp only [List.length_cons] at l1 l2
  refine ⟨.inr (.inr (.inr (.inr ⟨_, rfl, tw_all _ _⟩))), ?_, ?_, (fun h => by cases h), (fun h => by cases h)⟩
  · simp only [List.length_cons]; omega
  · simp only [List.length_cons, List.length_nil]; omega
theorem quo_fine (r : List UInt8) (h : (quoE r).2.2 = 0) : Fine 39 r (quoE r) := by
  revert h
  unfold quoE
  cases hf : fe r with
  | none => intro h; cases h
  | some q =>
    intro _
    obtain ⟨h1, u, h2⟩ := fe_good _ r q (Nat.le_refl _) hf
    have hb := fe_bd r q hf
    have hl := h2.len
    simp only [List.length_take] at hl
    simp only
    rw [replaceAll_un h2]
    refine ⟨.inr (.inl ⟨_, rfl, h1⟩), ?_, ?_, (fun h => by cases h), fun _ => rfl⟩
    · simp; omega
    · simp; omega
theorem tok_fine (b : UInt8) (r : List UInt8) (hb : bl b = false) (h : (tokE (b :: r)).2.2 = 0) : Fine b r (tokE (b :: r)) := by
  revert h
  rw [tokE_cons]
  by_cases c1 : b = 39
  · subst c1; rw [if_pos rfl]; exact quo_fine r
  by_cases c2 : b = 36
  · subst c2; rw [if_neg (by decide), if_pos rfl]; exact var_fine r
  by_cases c3 : b = 96
  · subst c3; rw [if_neg (by decide), if_neg (by decide), if_pos rfl]; exact cmd_fine r
  rw [if_neg c1, if_neg c2, if_neg c3]
  intro _
  have hp : plB b = true := by simp [plB, hb, c1, c2, c3]
  have hs := tw_sum plB (b :: r)
  have hpos : 1 ≤ ((b :: r).takeWhile plB).length := by simp [hp]
  refine ⟨.inl ⟨_, rfl, ?_, tw_all _ _, dw_hd _ _⟩, ?_, ?_, fun _ => hp, fun h => by cases h⟩
  · intro e; rw [e] at hpos; simp at hpos
  · simp only; omega
  · simp only [List.length_nil]; omega

def wordT : Nat → List UInt8 → Option (List Pc × List UInt8)
  | 0, _ => none
  | n + 1, [] => some ([], [])
  | n + 1, b :: r => if bl b then some ([], b :: r) else if (tokE (b :: r)).2.2 = 0 then (wordT n (tokE (b :: r)).2.1).map fun x => ((tokE (b :: r)).1 :: x.1, x.2) else none
def endB (r : List UInt8) : Prop := ∀ b, r.head? = some b → bl b = true
def GW (tail : List UInt8) : List Pc → Prop
  | [] => True
  | p :: w => Good p (w.flatMap pieceT ++ tail) ∧ GW tail w
theorem good_head {p : Pc} {x : List UInt8} (h : Good p x) : ∃ c u, pieceT p = c :: u ∧ bl c = false ∧ (plB c = true → p.f_Kind = 0) ∧ (c = 39 → p.f_Kind = 1) := by
  rcases h with ⟨t, rfl, h1, h2, h3⟩ | ⟨t, rfl, h1⟩ | ⟨t, rfl, h1⟩ | ⟨t, f, g, rfl, h1, h2, h3⟩ | ⟨t, rfl, h1⟩
  · cases t with
    | nil => exact absurd rfl h1
    | cons c t =>
      simp only [List.all_cons, Bool.and_eq_true] at h2
      obtain ⟨c1, c2, c3, c4⟩ := pl_ne h2.1
      exact ⟨c, t, rfl, c1, fun _ => rfl, fun e => absurd e c2⟩
  · exact ⟨39, _, rfl, by decide, fun e => absurd e (by decide), fun _ => rfl⟩
  · exact ⟨36, _, rfl, by decide, fun e => absurd e (by decide), fun e => absurd e (by decide)⟩
  · exact ⟨36, _, rfl, by decide, fun e => absurd e (by decide), fun e => absurd e (by decide)⟩
  · exact ⟨96, _, rfl, by decide, fun e => absurd e (by decide), fun e => absurd e (by decide)⟩
theorem pieceT_len (p : Pc) : (pieceT p).length ≤ 2 * p.f_Text.length + p.f_From.length + p.f_To.length + 5 := by
  have := dbl_length p.f_Text
  unfold pieceT
  (repeat' split) <;> (try simp only [List.length_append, List.length_cons, List.length_nil]) <;> omega
def smallP (m : Nat) (p : Pc) : Prop := p.f_Text.length ≤ m ∧ p.f_From.length ≤ m ∧ p.f_To.length ≤ m
theorem word_good : ∀ (n : Nat) (r : List UInt8) (w : List Pc) (r' : List UInt8), wordT n r = some (w, r') →
    (∀ tail, endB tail → GW tail w) ∧ endB r' ∧ w.length + r'.length ≤ r.length ∧ (w.flatMap pieceT).length + 8 * r'.length ≤ 8 * r.length ∧ (∀ p ∈ w, smallP r.length p) ∧
      (w = [] ∨ ∃ b t x, r = b :: t ∧ bl b = false ∧ (tokE (b :: t)).2.2 = 0 ∧ w = (tokE (b :: t)).1 :: x)
  | 0, r, w, r', h => by cases h
  | n + 1, [], w, r', h => by
    cases h
    exact ⟨fun _ _ => trivial, (fun b hb => by cases hb), by simp, by simp, (fun p hp => by cases hp), .inl rfl⟩
  | n + 1, b :: r, w, r', h => by
    unfold wordT at h
    split at h
    · rename_i hb
      cases h
      exact ⟨fun _ _ => trivial, fun c hc => by simp at hc; rw [← hc]; exact hb, by simp, by simp, (fun p hp => by cases hp), .inl rfl⟩
    rename_i hb
    have hb : bl b = false := by simpa using hb
    split at h
    · rename_i he
      obtain ⟨f1, f2, f3, f4, f5⟩ := tok_fine b r hb he
      cases hw : wordT n (tokE (b :: r)).2.1 with
      | none => rw [hw] at h; cases h
      | some x =>
        obtain ⟨w2, r2⟩ := x
        rw [hw] at h
        simp only [Option.map_some, Option.some.injEq, Prod.mk.injEq] at h
        obtain ⟨rfl, rfl⟩ := h
        obtain ⟨i1, i2, i3, i4, i5, i6⟩ := word_good n _ w2 r2 hw
        have hpl := pieceT_len (tokE (b :: r)).1
        refine ⟨fun tail ht => ⟨?_, i1 tail ht⟩, i2, by simp only [List.length_cons] at f2 ⊢; omega, ?_, ?_, .inr ⟨b, r, w2, rfl, hb, he, rfl⟩⟩
        · have key : ∀ c, (w2.flatMap pieceT ++ tail).head? = some c → bl c = true ∨ ∃ d t, (tokE (b :: r)).2.1 = d :: t ∧ (plB c = true → plB d = true) ∧ (c = 39 → d = 39) := by
            intro c hc
            rcases i6 with rfl | ⟨d, t, x, g1, g2, g3, rfl⟩
            · exact .inl (ht c hc)
            · right
              refine ⟨d, t, g1, ?_⟩
              obtain ⟨k1, _, _, k4, k5⟩ := tok_fine d t g2 g3
              obtain ⟨c', u, m1, m2, m3, m4⟩ := good_head k1
              rw [List.flatMap_cons, m1] at hc
              simp at hc
              subst hc
              exact ⟨fun q => k4 (m3 q), fun q => k5 (m4 q)⟩
          rcases f1 with ⟨t, e, h1, h2, h3⟩ | ⟨t, e, h1⟩ | h | h | h
          · refine .inl ⟨t, e, h1, h2, fun c hc => ?_⟩
            rcases key c hc with hbc | ⟨d, t', g1, g2, g3⟩
            · cases hp : plB c with
              | false => rfl
              | true => rw [(pl_ne hp).1] at hbc; cases hbc
            · cases hp : plB c with
              | false => rfl
              | true =>
                have := h3 d (by rw [g1]; rfl)
                rw [g2 hp] at this; cases this
          · refine .inr (.inl ⟨t, e, fun hc => ?_⟩)
            rcases key 39 hc with hbc | ⟨d, t', g1, g2, g3⟩
            · revert hbc; decide
            · exact h1 (by rw [g1, g3 rfl]; rfl)
          · exact .inr (.inr (.inl h))
          · exact .inr (.inr (.inr (.inl h)))
          · exact .inr (.inr (.inr (.inr h)))
        · rw [List.flatMap_cons, List.length_append]; simp only [List.length_cons] at f2 f3 ⊢; omega
        · intro p hp
          rcases List.mem_cons.1 hp with rfl | hp
          · exact ⟨by omega, by omega, by omega⟩
          · obtain ⟨q1, q2, q3⟩ := i5 p hp
            exact ⟨by omega, by omega, by omega⟩
    · cases h

def wordsT : Nat → List UInt8 → Option (List (List Pc))
  | 0, _ => none
  | n + 1, r => if r.dropWhile bl = [] then some [] else (wordT ((r.dropWhile bl).length + 1) (r.dropWhile bl)).bind fun x => (wordsT n x.2).map (x.1 :: ·)
def wtx (l : List (List Pc)) : List UInt8 := l.flatMap fun w => 32 :: w.flatMap pieceT
def GL (l : List (List Pc)) : Prop := ∀ w ∈ l, w ≠ [] ∧ ∀ tail, endB tail → GW tail w
theorem word_ne {n : Nat} {b : UInt8} {r : List UInt8} {w : List Pc} {r' : List UInt8} (hb : bl b = false) (h : wordT n (b :: r) = some (w, r')) : w ≠ [] ∧ r'.length < (b :: r).length := by
  cases n with
  | zero => cases h
  | succ n =>
    unfold wordT at h
    rw [if_neg (by simp [hb])] at h
    split at h
    · rename_i he
      obtain ⟨f1, f2, _⟩ := tok_fine b r hb he
      cases hw : wordT n (tokE (b :: r)).2.1 with
      | none => rw [hw] at h; cases h
      | some x =>
        obtain ⟨w2, r2⟩ := x
        rw [hw] at h
        simp only [Option.map_some, Option.some.injEq, Prod.mk.injEq] at h
        obtain ⟨rfl, rfl⟩ := h
        have := (word_good n _ w2 r2 hw).2.2.1
        exact ⟨by simp, by omega⟩
    · cases h
theorem dw_len (p : UInt8 → Bool) (r : List UInt8) : (r.dropWhile p).length ≤ r.length := by have := tw_sum p r; omega
theorem GW.len {tail : List UInt8} : ∀ {w : List Pc}, GW tail w → w.length ≤ (w.flatMap pieceT).length
  | [], _ => by simp
  | p :: w, ⟨h1, h2⟩ => by
    obtain ⟨c, u, e1, _⟩ := good_head h1
    have := GW.len h2
    rw [List.flatMap_cons, e1, List.length_append, List.length_cons, List.length_cons]; omega
end Go.Proofs.YtldepagjdbcmgaaGreatDoor.Lx
