/- A class, as the document reads it: its members first, then the spans. -/
import Derived.Test.YtpcobejkpbalcaaDoorK27POVM
namespace Go.Proofs.YtpcobejkpbalcaaDoor.Rx
open Go Go.AM
set_option linter.unusedVariables false
set_option linter.unusedSimpArgs false
set_option maxRecDepth 100000
set_option maxHeartbeats 1000000
def lstD : List UInt8 → Option (List (UInt8 × Bool) × List UInt8)
  | [] => none
  | b :: t => if b = 93 then some ([], t) else if b = 92 then (match t with | [] => none | c :: u => (lstD u).map fun y => ((c, false) :: y.1, y.2)) else (lstD t).map fun y => ((b, true) :: y.1, y.2)
def prD : Nat → (Nat → Bool) → List (UInt8 × Bool) → Option (Nat → Bool)
  | 0, _, _ => none
  | _ + 1, f, [] => some f
  | n + 1, f, a :: l => match l with
    | m :: h :: l' => if m.1 = 45 ∧ m.2 = true then (if h.1 < a.1 then none else prD n (fun i => f i || spanF a.1 h.1 i) l') else prD n (fun i => f i || spanF a.1 a.1 i) l
    | _ => prD n (fun i => f i || spanF a.1 a.1 i) l
theorem pr_span {n : Nat} {f : Nat → Bool} {a h : UInt8 × Bool} {l : List (UInt8 × Bool)} : prD (n + 1) f (a :: (45, true) :: h :: l) = if h.1 < a.1 then none else prD n (fun i => f i || spanF a.1 h.1 i) l := by
  conv => lhs; unfold prD
  simp
theorem pr_one {n : Nat} {f : Nat → Bool} {a : UInt8 × Bool} {l : List (UInt8 × Bool)} (h : ∀ x l', l ≠ (45, true) :: x :: l') : prD (n + 1) f (a :: l) = prD n (fun i => f i || spanF a.1 a.1 i) l := by
  conv => lhs; unfold prD
  cases l with
  | nil => rfl
  | cons m l =>
    cases l with
    | nil => rfl
    | cons x l =>
      simp only
      rw [if_neg]
      rintro ⟨e1, e2⟩
      obtain ⟨m1, m2⟩ := m
      cases e1; cases e2
      exact h x l rfl
theorem lst_mem {b : UInt8} {t : List UInt8} (hb : b ≠ 93) : lstD (b :: t) = match memC (b :: t) with | none => none | some (c, u) => (lstD u).map fun y => ((c, b != 92) :: y.1, y.2) := by
  have e : lstD (b :: t) = if b = 92 then (match t with | [] => none | c :: u => (lstD u).map fun y => ((c, false) :: y.1, y.2)) else (lstD t).map fun y => ((b, true) :: y.1, y.2) := by
    conv => lhs; unfold lstD
    rw [if_neg hb]
  rw [e]
  simp only [memC]
  by_cases h : b = 92
  · subst h
    cases t <;> simp
  · have : (b != 92) = true := by simpa using h
    rw [if_neg h, if_neg h]
    simp only [this]
theorem lst_len : ∀ (n : Nat) (r : List UInt8) (l : List (UInt8 × Bool)) (u : List UInt8), r.length ≤ n → lstD r = some (l, u) → l.length + u.length < r.length
  | _, [], l, u, _, h => by simp [lstD] at h
  | 0, b :: t, _, _, hn, _ => by simp at hn
  | n + 1, b :: t, l, u, hn, h => by
    simp only [List.length_cons] at hn
    by_cases h93 : b = 93
    · subst h93
      unfold lstD at h
      rw [if_pos rfl] at h
      cases h; simp
    · rw [lst_mem h93] at h
      cases hM : memC (b :: t) with
      | none => rw [hM] at h; cases h
      | some x =>
        obtain ⟨c, v⟩ := x
        have hl := memC_len hM
        simp only [List.length_cons] at hl
        rw [hM] at h
        simp only at h
        cases hL : lstD v with
        | none => rw [hL] at h; cases h
        | some y =>
          rw [hL] at h
          cases h
          have := lst_len n v y.1 y.2 (by omega) hL
          simp only [List.length_cons]; omega
theorem cls_doc : ∀ (m n : Nat) (first : Bool) (f : Nat → Bool) (r : List UInt8), r.length < m → (∀ l u, lstD r = some (l, u) → l.length < n) →
    clsL m first f r = match lstD r with | none => none | some (l, u) => if first = true ∧ l = [] then none else (prD n f l).map fun f' => (f', u)
  | 0, _, _, _, _, h, _ => by omega
  | m + 1, n, first, f, [], _, _ => by simp [clsL, memC, lstD]
  | m + 1, n, first, f, b :: t, hm, hn => by
    simp only [List.length_cons] at hm
    unfold clsL
    by_cases h93 : b = 93
    · subst h93
      have hl : lstD (93 :: t) = some ([], t) := by unfold lstD; rw [if_pos rfl]
      obtain ⟨n, rfl⟩ : ∃ y, n = y + 1 := ⟨n - 1, by have := hn [] t hl; omega⟩
      rw [hl]
      cases first <;> simp [prD]
    · rw [lst_mem h93] at hn ⊢
      have hh : (b :: t).head? ≠ some 93 := by simpa using h93
      rw [if_neg hh]
      cases hM : memC (b :: t) with
      | none => rfl
      | some x =>
        obtain ⟨low, v⟩ := x
        have hl := memC_len hM
        simp only [List.length_cons] at hl
        rw [hM] at hn
        simp only at hn ⊢
        cases hS : spn v with
        | false =>
          rw [if_neg (by decide)]
          have no : ∀ y, lstD v = some y → ∀ x l', y.1 ≠ (45, true) :: x :: l' := fun y hy x l' e => by
            cases v with
            | nil => cases hy
            | cons c w =>
              by_cases hc : c = 93
              · subst hc
                unfold lstD at hy
                rw [if_pos rfl] at hy
                cases hy; cases e
              · rw [lst_mem hc] at hy
                cases hM2 : memC (c :: w) with
                | none => rw [hM2] at hy; cases hy
                | some z =>
                  obtain ⟨c2, w2⟩ := z
                  rw [hM2] at hy
                  simp only at hy
                  cases hL : lstD w2 with
                  | none => rw [hL] at hy; cases hy
                  | some q =>
                    rw [hL] at hy
                    cases hy
                    simp only [List.cons.injEq, Prod.mk.injEq] at e
                    obtain ⟨⟨e1, e2⟩, e3⟩ := e
                    have h92 : c ≠ 92 := by simpa using e2
                    simp only [memC, h92, if_false] at hM2
                    cases hM2
                    subst e1
                    cases w with
                    | nil => cases hL
                    | cons c3 w3 =>
                      simp only [spn, beq_self_eq_true, Bool.true_and] at hS
                      have h3 : c3 = 93 := by simpa using hS
                      subst h3
                      unfold lstD at hL
                      rw [if_pos rfl] at hL
                      cases hL; cases e3
          cases hL : lstD v with
          | none =>
            rw [cls_doc m 1 false _ v (by omega) (by rw [hL]; exact fun _ _ h => by cases h), hL]; rfl
          | some y =>
            obtain ⟨n, rfl⟩ : ∃ y, n = y + 1 := ⟨n - 1, by have := hn _ _ (by rw [hL]; rfl); omega⟩
            rw [cls_doc m n false _ v (by omega) (fun l u h => by
              have := hn _ _ (by rw [h]; rfl)
              simp only [List.length_cons] at this; omega), hL]
            simp only [Option.map_some]
            rw [if_neg (by simp), if_neg (by simp), pr_one (no y hL)]
        | true =>
          rw [if_pos rfl]
          obtain ⟨c, w, rfl⟩ : ∃ c u, v = 45 :: c :: u := by
            cases v with
            | nil => cases hS
            | cons b t =>
              cases t with
              | nil => cases hS
              | cons c u =>
                simp only [spn, Bool.and_eq_true, beq_iff_eq] at hS
                exact ⟨c, u, by rw [hS.1]⟩
          simp only [spn, beq_self_eq_true, Bool.true_and] at hS
          have hc : c ≠ 93 := by simpa using hS
          have e45 : lstD (45 :: c :: w) = (lstD (c :: w)).map fun y => ((45, true) :: y.1, y.2) := by
            conv => lhs; unfold lstD
            rw [if_neg (by decide), if_neg (by decide)]
          rw [e45, lst_mem hc] at hn ⊢
          simp only [List.drop_succ_cons, List.drop_zero, List.length_cons] at hl ⊢
          cases hM2 : memC (c :: w) with
          | none => rfl
          | some z =>
            obtain ⟨high, w2⟩ := z
            have hl2 := memC_len hM2
            simp only [List.length_cons] at hl2
            rw [hM2] at hn
            simp only at hn ⊢
            cases hL : lstD w2 with
            | none =>
              by_cases hlt : high < low
              · rw [if_pos hlt]; rfl
              · rw [if_neg hlt, cls_doc m 1 false _ w2 (by omega) (by rw [hL]; exact fun _ _ h => by cases h), hL]; rfl
            | some y =>
              obtain ⟨n, rfl⟩ : ∃ y, n = y + 1 := ⟨n - 1, by have := hn _ _ (by rw [hL]; rfl); omega⟩
              simp only [Option.map_some]
              rw [if_neg (show ¬ (first = true ∧ (low, b != 92) :: (45, true) :: (high, c != 92) :: y.1 = []) by simp), pr_span]
              by_cases hlt : high < low
              · rw [if_pos hlt, if_pos hlt]; rfl
              · rw [if_neg hlt, if_neg hlt, cls_doc m n false _ w2 (by omega) (fun l u h => by
                  have := hn _ _ (by rw [h]; rfl)
                  simp only [List.length_cons] at this; omega), hL]
                simp only
                rw [if_neg (by simp)]
def setD (r : List UInt8) : Option (List Int × List UInt8) :=
  match lstD (if r.head? = some 94 then r.drop 1 else r) with
  | none => none
  | some (l, u) => if l = [] then none else (prD (l.length + 1) (fun _ => false) l).map fun f => (setW (if r.head? = some 94 then fun i => !f i else f), u)
theorem clsS_doc (r : List UInt8) : clsS r = setD r := by
  unfold clsS clsC setD
  by_cases h94 : r.head? = some 94
  · simp only [h94, if_true]
    cases r with
    | nil => cases h94
    | cons b t =>
      simp only [List.drop_succ_cons, List.drop_zero]
      cases hL : lstD t with
      | none => rw [cls_doc _ 1 true _ t (by simp) (by rw [hL]; exact fun _ _ h => by cases h), hL]; rfl
      | some y =>
        obtain ⟨l, u⟩ := y
        rw [cls_doc _ (l.length + 1) true _ t (by simp) (fun l' u' h => by rw [hL] at h; cases h; omega), hL]
        simp only
        by_cases h : l = []
        · rw [if_pos ⟨trivial, h⟩, if_pos h]; rfl
        · rw [if_neg (fun e => h e.2), if_neg h]
          cases prD (l.length + 1) (fun _ => false) l <;> rfl
  · simp only [h94, if_false]
    cases hL : lstD r with
    | none => rw [cls_doc _ 1 true _ r (by omega) (by rw [hL]; exact fun _ _ h => by cases h), hL]; rfl
    | some y =>
      obtain ⟨l, u⟩ := y
      rw [cls_doc _ (l.length + 1) true _ r (by omega) (fun l' u' h => by rw [hL] at h; cases h; omega), hL]
      simp only
      by_cases h : l = []
      · rw [if_pos ⟨trivial, h⟩, if_pos h]; rfl
      · rw [if_neg (fun e => h e.2), if_neg h]
        cases prD (l.length + 1) (fun _ => false) l <;> rfl
def toksS : Nat → List UInt8 → Option (List Tk)
  | 0, _ => none
  | _ + 1, [] => some []
  | m + 1, b :: t => match tkC (b :: t) with | none => none | some (x, u) => (toksS m u).map (x :: ·)
theorem toks_con : ∀ (m : Nat) (r : List UInt8) (ts : List Tk), toksS m r = some ts → Con tkC r ts []
  | 0, _, _, h => by cases h
  | m + 1, [], ts, h => by cases h; exact .nil []
  | m + 1, b :: t, ts, h => by
    unfold toksS at h
    cases hT : tkC (b :: t) with
    | none => rw [hT] at h; cases h
    | some y =>
      obtain ⟨x, u⟩ := y
      rw [hT] at h
      simp only at h
      cases hu : toksS m u with
      | none => rw [hu] at h; cases h
      | some l => rw [hu] at h; cases h; exact .cons hT (toks_con m u l hu)
theorem con_toks {r : List UInt8} {ts : List Tk} (h : Con tkC r ts []) : ∀ m, r.length < m → toksS m r = some ts := by
  generalize he : ([] : List UInt8) = e at h
  induction h with
  | nil r =>
    intro m hm
    subst he
    obtain ⟨m, rfl⟩ : ∃ y, m = y + 1 := ⟨m - 1, by omega⟩
    rfl
  | @cons r u r' x ts h _ ih =>
    intro m hm
    have hl := tk_lt tkC_ok h
    obtain ⟨m, rfl⟩ : ∃ y, m = y + 1 := ⟨m - 1, by omega⟩
    cases r with
    | nil => cases h
    | cons b t =>
      unfold toksS
      rw [h]
      simp only
      rw [ih he m (by omega)]; rfl
def parseD (s : List UInt8) : RN × Nat :=
  if s.length > 60 then (zeroN, 2) else match toksS (s.length + 1) s with
    | none => (zeroN, 6)
    | some ts => match exD (2 * ts.length + 2) ts 0 with
      | none => (zeroN, 6)
      | some n => if opn ts > 9 then (zeroN, 10) else (n, 0)
theorem parse_same (s : List UInt8) : parseC s = parseD s := by
  unfold parseC parseD
  by_cases h : s.length > 60
  · rw [if_pos h, if_pos h]
  · rw [if_neg h, if_neg h]
    cases hT : toksS (s.length + 1) s with
    | none =>
      simp only
      cases hx : exC tkC (2 * s.length + 2) s 0 with
      | none => rfl
      | some y =>
        obtain ⟨n, u, g⟩ := y
        cases u with
        | cons b t => rfl
        | nil =>
          obtain ⟨pre, h1, _⟩ := (sound tkC_ok _).2.1 _ _ _ _ _ hx
          rw [con_toks h1 _ (Nat.lt_succ_self _)] at hT
          cases hT
    | some ts =>
      have hC := toks_con _ _ _ hT
      simp only
      cases hD : exD (2 * ts.length + 2) ts 0 with
      | none =>
        simp only
        cases hx : exC tkC (2 * s.length + 2) s 0 with
        | none => rfl
        | some y =>
          obtain ⟨n, u, g⟩ := y
          cases u with
          | cons b t => rfl
          | nil =>
            obtain ⟨pre, h1, _, h3, _⟩ := (sound tkC_ok _).2.1 _ _ _ _ _ hx
            have h4 := con_toks h1 _ (Nat.lt_succ_self _)
            rw [hT] at h4
            cases h4
            rw [h3 _ (Nat.le_refl _)] at hD
            cases hD
      | some n =>
        have := (complete tkC_ok _).2 ts 0 n s [] (2 * s.length + 2) hD hC (.inl rfl) (Nat.le_refl _)
        rw [this]
        simp only [Nat.zero_add]
end Go.Proofs.YtpcobejkpbalcaaDoor.Rx
