/- The signs, as the document reads them. -/
import Derived.Test.YtpcobejkpbalcaaDoorK27POVR
namespace Go.Proofs.YtpcobejkpbalcaaDoor.Rx
open Go Go.AM
set_option linter.unusedVariables false
set_option linter.unusedSimpArgs false
set_option maxRecDepth 100000
set_option maxHeartbeats 1000000
theorem numP_app (l : List (UInt8 × Bool)) (x : UInt8 × Bool) : numP (l ++ [x]) = numP l ++ [(x.1.toNat : Int)] := by simp [numP]
theorem barP_app (l : List (UInt8 × Bool)) (x : UInt8 × Bool) : barP (l ++ [x]) = barP l ++ [x.2] := by simp [barP]
section
variable (s : List UInt8) (hs : s.length ≤ 1000)
include hs in
theorem mem_loop (K : Nat) (v1 : Bool) : ∀ (fuel : Nat) (i : Int) (r : List UInt8) (acc : List (UInt8 × Bool)), At s i r → r.length < fuel → acc.length + r.length ≤ 1000 →
    (∀ l u, lstD r = some (l, u) → ∃ j, millwrightref07_set.l74 K s v1 fuel i (numP acc) (barP acc) = some (.inl (j, numP (acc ++ l), barP (acc ++ l))) ∧ At s j (93 :: u)) ∧
    (lstD r = none → (∃ j acc', millwrightref07_set.l74 K s v1 fuel i (numP acc) (barP acc) = some (.inl (j, numP acc', barP acc')) ∧ (s.length : Int) ≤ j) ∨ millwrightref07_set.l74 K s v1 fuel i (numP acc) (barP acc) = some (.inr noSet))
  | 0, _, _, _, _, h, _ => by omega
  | fuel + 1, i, [], acc, ha, _, _ => by
    have := ha.nil
    unfold millwrightref07_set.l74 millwrightref07_set.j96
    rw [if_neg (by simp; omega), if_neg (by decide)]
    exact ⟨fun l u h => (by cases h), fun _ => .inl ⟨i, acc, rfl, this⟩⟩
  | fuel + 1, i, b :: t, acc, ha, hf, hl => by
    have hLIM : LIM = 4294967296 := rfl
    obtain ⟨ha2, hx, hlt, h0⟩ := ha.step (by omega)
    simp only [List.length_cons] at hf hl
    have n1 : (numP acc).length = acc.length := by simp [numP]
    have n2 : (barP acc).length = acc.length := by simp [barP]
    have q93 : ((b.toNat : Int) != 93) = (b != 93) := by
      have : ((b.toNat : Int) == 93) = (b == 93) := u8_eq (b := 93)
      simp only [bne, this]
    have q92 : ((b.toNat : Int) == 92) = (b == 92) := u8_eq (b := 92)
    unfold millwrightref07_set.l74 millwrightref07_set.j96
    rw [if_pos (by simpa using hlt), hx, Option.bind_some, q93]
    by_cases h93 : b = 93
    · subst h93
      have e : lstD (93 :: t) = some ([], t) := by unfold lstD; rw [if_pos rfl]
      rw [if_neg (by decide), e]
      exact ⟨fun l u h => (by cases h; exact ⟨i, by rw [List.append_nil], ha⟩), fun h => (by cases h)⟩
    · rw [if_pos (by simpa using h93), lst_mem h93]
      unfold millwrightref07_set.j93
      rw [hx, Option.bind_some, q92]
      by_cases h92 : b = 92
      · subst h92
        rw [if_pos (by decide)]
        cases t with
        | nil =>
          have := ha2.nil
          rw [if_pos (by simp; omega)]
          exact ⟨fun l u h => (by cases h), fun _ => .inr rfl⟩
        | cons c u =>
          obtain ⟨ha3, hx2, hlt2, _⟩ := ha2.step (by omega)
          simp only [List.length_cons] at hf hl
          have e : memC (92 :: c :: u) = some (c, u) := rfl
          rw [if_neg (by simp; omega), hx2, Option.bind_some, n1, n2, if_pos (by simp only [List.length_cons, List.length_nil]; omega), if_pos (by simp only [List.length_cons, List.length_nil]; omega), e]
          unfold millwrightref07_set.j83
          rw [← numP_app acc (c, false), ← barP_app acc (c, false)]
          obtain ⟨i1, i2⟩ := mem_loop K v1 fuel _ u (acc ++ [(c, false)]) ha3 (by omega) (by simp only [List.length_append, List.length_cons, List.length_nil]; omega)
          simp only [show ((92 : UInt8) != 92) = false by decide]
          refine ⟨fun l u' h => ?_, fun h => ?_⟩
          · cases hL : lstD u with
            | none => rw [hL] at h; cases h
            | some y =>
              rw [hL] at h
              cases h
              obtain ⟨j, e1, e2⟩ := i1 y.1 y.2 hL
              rw [List.append_assoc] at e1
              exact ⟨j, e1, e2⟩
          · cases hL : lstD u with
            | none => exact i2 hL
            | some y => rw [hL] at h; cases h
      · have hb : (b == 92) = false := by simpa using h92
        have e : memC (b :: t) = some (b, t) := by simp only [memC, h92, if_false]
        rw [hb, if_neg (by decide), Option.bind_some, n1, n2, if_pos (by simp only [List.length_cons, List.length_nil]; omega), if_pos (by simp only [List.length_cons, List.length_nil]; omega), e]
        unfold millwrightref07_set.j83
        rw [← numP_app acc (b, true), ← barP_app acc (b, true)]
        obtain ⟨i1, i2⟩ := mem_loop K v1 fuel _ t (acc ++ [(b, true)]) ha2 (by omega) (by simp only [List.length_append, List.length_cons, List.length_nil]; omega)
        have hb2 : (b != 92) = true := by simpa using h92
        simp only [hb2]
        refine ⟨fun l u' h => ?_, fun h => ?_⟩
        · cases hL : lstD t with
          | none => rw [hL] at h; cases h
          | some y =>
            rw [hL] at h
            cases h
            obtain ⟨j, e1, e2⟩ := i1 y.1 y.2 hL
            rw [List.append_assoc] at e1
            exact ⟨j, e1, e2⟩
        · cases hL : lstD t with
          | none => exact i2 hL
          | some y => rw [hL] at h; cases h
def setR (v : Bool) (t : List UInt8) : Option (List Int × List UInt8) :=
  match lstD t with
  | none => none
  | some (l, u) => if l = [] then none else (prD (l.length + 1) (fun _ => false) l).map fun f => (setW (if v = true then fun i => !f i else f), u)
include hs in
theorem set_j (K : Nat) (hK : 2000 ≤ K) (v : Bool) {i : Int} {t : List UInt8} (ha : At s i t) :
    (∀ w u, setR v t = some (w, u) → ∃ j, millwrightref07_set.j101 K s v i = some (w, j) ∧ At s j (93 :: u)) ∧ (setR v t = none → millwrightref07_set.j101 K s v i = some noSet) := by
  have hl := ha.len
  obtain ⟨i1, i2⟩ := mem_loop s hs K v K i t [] ha (by omega) (by simp only [List.length_nil]; omega)
  unfold millwrightref07_set.j101 setR
  have ea : (numP [] = ([] : List Int)) ∧ (barP [] = ([] : List Bool)) := ⟨rfl, rfl⟩
  rw [ea.1, ea.2] at i1 i2
  cases hL : lstD t with
  | none =>
    refine ⟨fun w u h => (by cases h), fun _ => ?_⟩
    rcases i2 hL with ⟨j, acc', e, h⟩ | e
    · rw [e, Option.bind_some]
      simp only
      unfold millwrightref07_set.j70 millwrightref07_set.j68
      rw [if_pos (by simp; omega), if_pos rfl]; rfl
    · rw [e, Option.bind_some]
  | some y =>
    obtain ⟨l, u⟩ := y
    obtain ⟨j, e, hj⟩ := i1 l u hL
    obtain ⟨hj2, _, hlt, _⟩ := hj.step (by omega)
    have hll := lst_len t.length t l u (Nat.le_refl _) hL
    simp only [List.nil_append] at e
    have n1 : (numP l).length = l.length := by simp [numP]
    have h70 : millwrightref07_set.j70 K s v j (numP l) (barP l) = if l = [] then some noSet else millwrightref07_set.j65 K v j (numP l) (barP l) := by
      unfold millwrightref07_set.j70 millwrightref07_set.j68
      rw [if_neg (by simp; omega), n1]
      by_cases hn : l = []
      · subst hn
        rw [if_pos rfl, if_pos (by simp)]; rfl
      · have hn0 : l.length ≠ 0 := fun e => hn (List.eq_nil_of_length_eq_zero e)
        rw [if_neg hn, if_neg (by simp; omega)]
    rw [e, Option.bind_some]
    simp only
    rw [h70]
    by_cases hn : l = []
    · rw [if_pos hn, if_pos hn]
      exact ⟨fun w u h => (by cases h), fun _ => rfl⟩
    · rw [if_neg hn, if_neg hn]
      unfold millwrightref07_set.j65
      have hp := pair_loop K (by omega) v j l (by omega) (l.length + 1) K 0 l (fun _ => false) (by simp) (by omega) (by omega) (by omega)
      rw [rowB_none, show (0 : Int) = ((0 : Nat) : Int) from rfl, hp, Option.bind_some]
      cases hpr : prD (l.length + 1) (fun _ => false) l with
      | none => exact ⟨fun w u h => (by cases h), fun _ => rfl⟩
      | some f =>
        refine ⟨fun w u' h => ?_, fun h => by cases h⟩
        cases h
        refine ⟨j, ?_, hj⟩
        simp only
        unfold millwrightref07_set.j23 millwrightref07_set.j9
        cases v with
        | true =>
          have hng := neg_loop K j 256 K 0 f (by omega) (by omega) (by omega)
          have hng' : millwrightref07_set.l13 K j K (rowB f) 0 = _ := hng
          have es : setW (fun j => if 0 ≤ j then !f j else f j) = setW (fun i => !f i) := setW_ext fun x _ => by rw [if_pos (Nat.zero_le _)]
          rw [if_pos rfl, hng', Option.bind_some, rof_eq K (by omega), Option.bind_some, if_pos rfl, es]
        | false => rw [if_neg (by decide), rof_eq K (by omega), Option.bind_some, if_neg (by decide)]
include hs in
theorem rset_eq (K : Nat) (hK : 2000 ≤ K) {i : Int} {r : List UInt8} (ha : At s i r) :
    (∀ w u, setD r = some (w, u) → ∃ j, millwrightref07_set.f K s i = some (w, j) ∧ At s j (93 :: u)) ∧ (setD r = none → millwrightref07_set.f K s i = some noSet) := by
  unfold millwrightref07_set.f millwrightref07_set.j103
  cases r with
  | nil =>
    have := ha.nil
    rw [if_neg (by simp; omega), if_neg (by decide)]
    exact set_j s hs K hK false ha
  | cons b t =>
    obtain ⟨ha2, hx, hlt, h0⟩ := ha.step (by omega)
    have q94 : ((b.toNat : Int) == 94) = (b == 94) := u8_eq (b := 94)
    rw [if_pos (by simpa using hlt), hx, Option.bind_some, q94]
    by_cases h : b = 94
    · subst h
      have e : setD (94 :: t) = setR true t := by
        unfold setD setR
        simp only [List.head?_cons, if_true, List.drop_succ_cons, List.drop_zero]
        cases lstD t <;> rfl
      rw [e, if_pos (by decide)]
      exact set_j s hs K hK true ha2
    · have hb : (b == 94) = false := by simpa using h
      have e : setD (b :: t) = setR false (b :: t) := by
        have hh : (b :: t).head? ≠ some 94 := by simpa using h
        unfold setD setR
        simp only [hh, if_false, Bool.false_eq_true]
        cases lstD (b :: t) <;> rfl
      rw [e, hb, if_neg (by decide)]
      exact set_j s hs K hK false ha
def ofT (x : Tk) : T_millwrightref07_sign := .mk x.1 x.2
theorem chain {α : Type} (J : Bool → α) (b : UInt8) : (if ((b.toNat : Int) == 40) then J ((b.toNat : Int) == 40) else (if ((b.toNat : Int) == 41) then J ((b.toNat : Int) == 41) else (if ((b.toNat : Int) == 124) then J ((b.toNat : Int) == 124) else (if ((b.toNat : Int) == 42) then J ((b.toNat : Int) == 42) else (if ((b.toNat : Int) == 43) then J ((b.toNat : Int) == 43) else (if ((b.toNat : Int) == 63) then J ((b.toNat : Int) == 63) else (if ((b.toNat : Int) == 94) then J ((b.toNat : Int) == 94) else J ((b.toNat : Int) == 36)))))))) = J (isMk b) := by
  have q := fun c : UInt8 => u8_eq (a := b) (b := c)
  have q1 : ((b.toNat : Int) == 40) = (b == 40) := q 40
  have q2 : ((b.toNat : Int) == 41) = (b == 41) := q 41
  have q3 : ((b.toNat : Int) == 124) = (b == 124) := q 124
  have q4 : ((b.toNat : Int) == 42) = (b == 42) := q 42
  have q5 : ((b.toNat : Int) == 43) = (b == 43) := q 43
  have q6 : ((b.toNat : Int) == 63) = (b == 63) := q 63
  have q7 : ((b.toNat : Int) == 94) = (b == 94) := q 94
  have q8 : ((b.toNat : Int) == 36) = (b == 36) := q 36
  rw [q1, q2, q3, q4, q5, q6, q7, q8]
  unfold isMk
  generalize (b == 40) = x1
  generalize (b == 41) = x2
  generalize (b == 124) = x3
  generalize (b == 42) = x4
  generalize (b == 43) = x5
  generalize (b == 63) = x6
  generalize (b == 94) = x7
  generalize (b == 36) = x8
  cases x1
  · cases x2
    · cases x3
      · cases x4
        · cases x5
          · cases x6
            · cases x7 <;> rfl
            · rfl
          · rfl
        · rfl
      · rfl
    · rfl
  · rfl
include hs in
theorem sign_loop (K : Nat) (hK : 2000 ≤ K) : ∀ (m fuel : Nat) (i : Int) (r : List UInt8) (acc : List Tk), At s i r → r.length < m → r.length < fuel → acc.length + r.length ≤ 1000 →
    millwrightref07_signs.l5 K s fuel (acc.map ofT) i = some (match toksS m r with | some ts => .inl ((acc ++ ts).map ofT) | none => .inr ([], false))
  | 0, _, _, _, _, _, h, _, _ => by omega
  | _, 0, _, _, _, _, _, h, _ => by omega
  | m + 1, fuel + 1, i, [], acc, ha, _, _, _ => by
    have := ha.nil
    unfold millwrightref07_signs.l5
    rw [if_neg (by simp; omega)]
    simp [toksS]
  | m + 1, fuel + 1, i, b :: t, acc, ha, hm, hf, hl => by
    have hLIM : LIM = 4294967296 := rfl
    obtain ⟨ha2, hx, hlt, h0⟩ := ha.step (by omega)
    simp only [List.length_cons] at hm hf hl
    have one : ∀ (x : Tk) (j : Int) (u : List UInt8), At s j u → u.length ≤ t.length → tkC (b :: t) = some (x, u) →
        (if (acc.map ofT).length + [ofT x].length ≤ LIM then millwrightref07_signs.l5 K s fuel ((acc.map ofT) ++ [ofT x]) j else none) = some (match toksS (m + 1) (b :: t) with | some ts => .inl ((acc ++ ts).map ofT) | none => .inr ([], false)) := fun x j u hj hu ht => by
      rw [if_pos (by simp only [List.length_map, List.length_cons, List.length_nil]; omega)]
      have := sign_loop K hK m fuel j u (acc ++ [x]) hj (by omega) (by omega) (by simp only [List.length_append, List.length_cons, List.length_nil]; omega)
      rw [List.map_append] at this
      rw [show (acc.map ofT) ++ [ofT x] = acc.map ofT ++ [x].map ofT from rfl, this]
      conv => rhs; unfold toksS
      rw [ht]
      simp only
      cases toksS m u with
      | none => rfl
      | some l => simp only [Option.map_some, List.append_assoc, List.singleton_append]
    have no : tkC (b :: t) = none → toksS (m + 1) (b :: t) = none := fun h => by
      unfold toksS
      rw [h]
    have q92 : ((b.toNat : Int) == 92) = (b == 92) := u8_eq (b := 92)
    have q91 : ((b.toNat : Int) == 91) = (b == 91) := u8_eq (b := 91)
    have q46 : ((b.toNat : Int) == 46) = (b == 46) := u8_eq (b := 46)
    have tk := tk_cons b t
    unfold millwrightref07_signs.l5
    rw [if_pos (by simpa using hlt), hx, Option.bind_some, q92]
    by_cases h92 : b = 92
    · subst h92
      rw [if_pos rfl] at tk
      rw [if_pos (by decide)]
      cases t with
      | nil =>
        have := ha2.nil
        rw [if_pos (by simp; omega), no tk]
      | cons c u =>
        obtain ⟨ha3, hx2, hlt2, _⟩ := ha2.step (by omega)
        rw [if_neg (by simp; omega), hx2, Option.bind_some, rsingle_eq K (by omega), Option.bind_some]
        unfold millwrightref07_signs.j12
        exact one (0, oneW c) _ u ha3 (by simp) tk
    have n92 : (b == 92) = false := by simpa using h92
    rw [if_neg h92] at tk
    rw [n92, if_neg (by decide), q91]
    by_cases h91 : b = 91
    · subst h91
      rw [if_pos rfl, clsS_doc] at tk
      rw [if_pos (by decide)]
      obtain ⟨s1, s2⟩ := rset_eq s hs K hK ha2
      cases hS : setD t with
      | none =>
        rw [hS] at tk
        rw [s2 hS, Option.bind_some, if_pos (by decide), no tk]
      | some y =>
        obtain ⟨w, u⟩ := y
        rw [hS] at tk
        obtain ⟨j, e, hj⟩ := s1 w u hS
        obtain ⟨hj2, _, _, hj0⟩ := hj.step (by omega)
        have hc : clsS t = some (w, u) := by rw [clsS_doc, hS]
        have hul := clsS_len hc
        rw [e, Option.bind_some, if_neg (by simp; omega)]
        unfold millwrightref07_signs.j12
        exact one (0, w) _ u hj2 (by omega) tk
    have n91 : (b == 91) = false := by simpa using h91
    rw [if_neg h91] at tk
    rw [n91, if_neg (by decide), q46]
    by_cases h46 : b = 46
    · subst h46
      rw [if_pos rfl] at tk
      have hd := dot_loop K s (acc.map ofT) i 256 K 0 (fun _ => false) (by omega) (by omega) (by omega)
      have hd' : millwrightref07_signs.l30 K s (acc.map ofT) i K (rowB fun _ => false) 0 = _ := hd
      rw [if_pos (by decide), rowB_none, hd', Option.bind_some]
      unfold millwrightref07_signs.j27 millwrightref07_signs.j12
      rw [rof_eq K (by omega), Option.bind_some]
      have e : setW (fun j => if 0 ≤ j then j != 10 else false) = dotW := setW_ext fun j _ => by
        rw [if_pos (Nat.zero_le _)]; rfl
      rw [e]
      exact one (0, dotW) _ t ha2 (Nat.le_refl _) tk
    have n46 : (b == 46) = false := by simpa using h46
    rw [if_neg h46] at tk
    rw [n46, if_neg (by decide), chain (fun v => millwrightref07_signs.j43 K (millwrightref07_signs.l5 K s fuel) s (acc.map ofT) i b v) b]
    unfold millwrightref07_signs.j43 millwrightref07_signs.j12
    cases hb : isMk b with
    | true =>
      rw [hb, if_pos rfl] at tk
      simp only [if_true]
      exact one ((b.toNat : Int), z4) _ t ha2 (Nat.le_refl _) tk
    | false =>
      rw [hb, if_neg (by decide)] at tk
      simp only [Bool.false_eq_true, if_false]
      rw [rsingle_eq K (by omega), Option.bind_some]
      exact one (0, oneW b) _ t ha2 (Nat.le_refl _) tk
include hs in
theorem rsigns_eq (K : Nat) (hK : 2000 ≤ K) : millwrightref07_signs.f K s = some (match toksS (s.length + 1) s with | some ts => (ts.map ofT, true) | none => ([], false)) := by
  have h := sign_loop s hs K hK (s.length + 1) K 0 s [] ⟨0, rfl, by omega, rfl⟩ (by omega) (by omega) (by simp only [List.length_nil]; omega)
  unfold millwrightref07_signs.f
  rw [List.map_nil] at h
  rw [h, Option.bind_some]
  cases toksS (s.length + 1) s <;> rfl
end
end Go.Proofs.YtpcobejkpbalcaaDoor.Rx
