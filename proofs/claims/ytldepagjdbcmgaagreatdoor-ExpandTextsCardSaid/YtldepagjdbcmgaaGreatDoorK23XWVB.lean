/- The words of a text, as the document has them: the same as the code's. -/
import Derived.Test.YtldepagjdbcmgaaGreatDoorK23XWVK
import Derived.Test.YtldepagjdbcmgaaGreatDoorK23XWVE
namespace Go.Proofs.YtldepagjdbcmgaaGreatDoor.Lx
open Go Go.AM Go.ChangeShapes Go.ChangeAt Go.RowKit
set_option linter.unusedVariables false
set_option linter.unusedSimpArgs false
set_option maxRecDepth 100000
set_option maxHeartbeats 1000000
theorem rbl_eq (k : Nat) (b : UInt8) : millwrightref11_Blank.f k (b.toNat : Int) = some (bl b) := Qf.rblank_eq k b.toNat
theorem letters (k : Nat) (s : List UInt8) (hs : s.length ≤ 100000) (v1 : Bool) (v2 : Int) : ∀ (r : List UInt8) (fuel i : Nat), s.drop i = r → r.length < fuel → i ≤ s.length → millwrightref13_dollar.l37 k s v1 v2 fuel (i : Int) = some ((i + (r.takeWhile letB).length : Nat) : Int)
  | _, 0, _, _, h, _ => by omega
  | [], f + 1, i, hd, _, hi => by
    have := at_nil hd
    unfold millwrightref13_dollar.l37 millwrightref13_dollar.j44
    rw [if_neg (by simp; omega), if_neg (by decide)]; rfl
  | b :: r, f + 1, i, hd, hf, hi => by
    obtain ⟨g1, g2, g3⟩ := at_drop hd
    have hl : millwrightref13_letter.f k (b.toNat : Int) = some (letB b) := Ev.rlet_eq k b
    unfold millwrightref13_dollar.l37 millwrightref13_dollar.j44 millwrightref13_dollar.j41
    rw [if_pos (by simp; exact g3), g1, Option.bind_some, hl, Option.bind_some, List.takeWhile_cons]
    cases letB b with
    | true =>
      rw [if_pos rfl, if_pos rfl, wr1 (by omega), letters k s hs v1 v2 r f (i + 1) g2 (by simpa using hf) (by omega)]
      simp only [List.length_cons]; congr 2; omega
    | false => rw [if_neg (by decide), if_neg (by decide)]; rfl
theorem insides (k : Nat) (s : List UInt8) (hs : s.length ≤ 100000) (a1 : Int) : ∀ (r : List UInt8) (fuel i : Nat), s.drop i = r → r.length < fuel → millwrightref13_One.l36 k s a1 fuel (i : Int) = some ((i + (r.takeWhile insB).length : Nat) : Int)
  | _, 0, _, _, h => by omega
  | [], f + 1, i, hd, _ => by
    have := at_nil hd
    unfold millwrightref13_One.l36 millwrightref13_One.j43
    rw [if_neg (by simp; omega), if_neg (by decide)]; rfl
  | b :: r, f + 1, i, hd, hf => by
    obtain ⟨g1, g2, g3⟩ := at_drop hd
    have q1 : ((b.toNat : Int) != 123) = (b != 123) := nb b 123
    have q2 : ((b.toNat : Int) != 125) = (b != 125) := nb b 125
    have e : insB b = (b != 123 && b != 125) := rfl
    unfold millwrightref13_One.l36 millwrightref13_One.j43 millwrightref13_One.j40
    rw [if_pos (by simp; exact g3), g1, Option.bind_some, Option.bind_some, q1, q2, wr1 (by omega), insides k s hs a1 r f (i + 1) g2 (by simpa using hf), List.takeWhile_cons, e]
    cases b != 123 with
    | true =>
      rw [if_pos rfl, Bool.true_and]
      cases b != 125 with
      | true => rw [if_pos rfl, if_pos rfl]; simp only [List.length_cons]; congr 2; omega
      | false => rw [if_neg (by decide), if_neg (by decide)]; rfl
    | false => rw [if_neg (by decide), if_neg (by decide), Bool.false_and, if_neg (by decide)]; rfl
theorem plains (k : Nat) (s : List UInt8) (hs : s.length ≤ 100000) (a1 : Int) : ∀ (r : List UInt8) (fuel i : Nat), s.drop i = r → r.length < fuel → millwrightref13_One.l55 k s a1 fuel (i : Int) = some ((i + (r.takeWhile plB).length : Nat) : Int)
  | _, 0, _, _, h => by omega
  | [], f + 1, i, hd, _ => by
    have := at_nil hd
    unfold millwrightref13_One.l55 millwrightref13_One.j62
    rw [if_neg (by simp; omega), if_neg (by decide)]; rfl
  | b :: r, f + 1, i, hd, hf => by
    obtain ⟨g1, g2, g3⟩ := at_drop hd
    have q1 : ((b.toNat : Int) != 39) = (b != 39) := nb b 39
    have q2 : ((b.toNat : Int) != 96) = (b != 96) := nb b 96
    have q3 : ((b.toNat : Int) != 36) = (b != 36) := nb b 36
    have e : plB b = (!bl b && (b != 39 && (b != 36 && b != 96))) := rfl
    unfold millwrightref13_One.l55 millwrightref13_One.j62 millwrightref13_One.j59
    rw [if_pos (by simp; exact g3), g1, Option.bind_some, rbl_eq, Option.bind_some, Option.bind_some, Option.bind_some, Option.bind_some, q1, q2, q3, wr1 (by omega), plains k s hs a1 r f (i + 1) g2 (by simpa using hf), List.takeWhile_cons, e]
    have hT : some ((i + 1 + (r.takeWhile plB).length : Nat) : Int) = some ((i + (b :: r.takeWhile plB).length : Nat) : Int) := by simp only [List.length_cons]; congr 2; omega
    cases bl b <;> cases b != 39 <;> cases b != 96 <;> cases b != 36 <;> first | exact hT | rfl
theorem patterns (k : Nat) (s : List UInt8) (hs : s.length ≤ 100000) : ∀ (r : List UInt8) (fuel i : Nat), s.drop i = r → r.length < fuel → ∃ o, millwrightref13_pattern.l4 k s fuel (i : Int) = some o ∧ (o = .inl ((i + (r.takeWhile patB).length : Nat) : Int) ∨ o = .inr ((i + (r.takeWhile patB).length : Nat) : Int))
  | _, 0, _, _, h => by omega
  | [], f + 1, i, hd, _ => by
    have := at_nil hd
    unfold millwrightref13_pattern.l4
    refine ⟨.inl (i : Int), by rw [if_neg (by simp; omega)], .inl rfl⟩
  | b :: r, f + 1, i, hd, hf => by
    obtain ⟨g1, g2, g3⟩ := at_drop hd
    have q1 : ((b.toNat : Int) == 39) = (b == 39) := u8_eq (b := 39)
    have q2 : ((b.toNat : Int) == 96) = (b == 96) := u8_eq (b := 96)
    have q3 : ((b.toNat : Int) == 36) = (b == 36) := u8_eq (b := 36)
    have q4 : ((b.toNat : Int) == 61) = (b == 61) := u8_eq (b := 61)
    have q5 : ((b.toNat : Int) == 123) = (b == 123) := u8_eq (b := 123)
    have q6 : ((b.toNat : Int) == 125) = (b == 125) := u8_eq (b := 125)
    obtain ⟨o, h1, h2⟩ := patterns k s hs r f (i + 1) g2 (by simpa using hf)
    have e : patB b = (!bl b && (!(b == 39) && (!(b == 36) && !(b == 96))) && (!(b == 61) && (!(b == 123) && !(b == 125)))) := rfl
    unfold millwrightref13_pattern.l4 millwrightref13_pattern.j13 millwrightref13_pattern.j10
    rw [if_pos (by simp; exact g3), g1, Option.bind_some, rbl_eq, Option.bind_some, q1, q2, q3, q4, q5, q6, wr1 (by omega), h1, List.takeWhile_cons, e]
    have stop : ∃ o', some (Sum.inr (α := Int) (i : Int)) = some o' ∧ (o' = .inl ((i + ([] : List UInt8).length : Nat) : Int) ∨ o' = .inr ((i + ([] : List UInt8).length : Nat) : Int)) := ⟨_, rfl, .inr rfl⟩
    have go : ∃ o', some o = some o' ∧ (o' = .inl ((i + (b :: r.takeWhile patB).length : Nat) : Int) ∨ o' = .inr ((i + (b :: r.takeWhile patB).length : Nat) : Int)) := by
      have e2 : i + 1 + (r.takeWhile patB).length = i + (b :: r.takeWhile patB).length := by simp only [List.length_cons]; omega
      rw [e2] at h2
      exact ⟨o, rfl, h2⟩
    cases bl b with
    | true => exact stop
    | false =>
      cases b == 39 with
      | true => exact stop
      | false =>
        cases b == 36 with
        | true => exact stop
        | false =>
          cases b == 96 with
          | true => exact stop
          | false =>
            cases b == 61 with
            | true => exact stop
            | false =>
              cases b == 123 with
              | true => exact stop
              | false =>
                cases b == 125 with
                | true => exact stop
                | false => exact go
theorem pattern_eq (k : Nat) (s : List UInt8) (hs : s.length ≤ 100000) (hk : s.length < k) (i : Nat) : millwrightref13_pattern.f k s (i : Int) = some ((i + ((s.drop i).takeWhile patB).length : Nat) : Int) := by
  unfold millwrightref13_pattern.f millwrightref13_pattern.j2
  obtain ⟨o, h1, h2⟩ := patterns k s hs (s.drop i) k i rfl (by rw [List.length_drop]; omega)
  rw [h1, Option.bind_some]
  rcases h2 with rfl | rfl <;> rfl
theorem part (s : List UInt8) (i : Nat) (hi : i ≤ s.length) (p : UInt8 → Bool) : sub s (i : Int) ((i + ((s.drop i).takeWhile p).length : Nat) : Int) = some ((s.drop i).takeWhile p) ∧ s.drop (i + ((s.drop i).takeWhile p).length) = (s.drop i).dropWhile p ∧ i + ((s.drop i).takeWhile p).length ≤ s.length := by
  have h := tw_app p (s.drop i)
  have ha : At s (i : Int) ((s.drop i).takeWhile p ++ (s.drop i).dropWhile p) := ⟨i, rfl, hi, h.symm⟩
  obtain ⟨f1, f2⟩ := ha.fwd
  have hl := tw_len p (s.drop i)
  rw [List.length_drop] at hl
  refine ⟨?_, ?_, by omega⟩
  · rw [← f2]; rfl
  rw [← List.drop_drop]
  have hh : ((s.drop i).takeWhile p ++ (s.drop i).dropWhile p).drop ((s.drop i).takeWhile p).length = (s.drop i).dropWhile p := List.drop_left
  rw [h] at hh
  exact hh
theorem unq_loop (k : Nat) (s : List UInt8) (hs : s.length ≤ 100000) (v3 : Int) : ∀ {c u : List UInt8}, Dbl c u → ∀ (fuel i : Nat) (acc rest : List UInt8), s.drop i = c ++ rest → c.length < fuel → v3 = ((i + c.length + 1 : Nat) : Int) → i + c.length ≤ s.length → acc.length ≤ i →
    millwrightref13_One.l9 k s v3 fuel acc (i : Int) = some (acc ++ u) := by
  intro c u h
  induction h with
  | nil =>
    intro fuel i acc rest hd hf hv hi ha
    obtain ⟨f, rfl⟩ : ∃ f, fuel = f + 1 := ⟨fuel - 1, by simp at hf; omega⟩
    simp only [List.length_nil] at hv hi
    have e : IntKind.i64.wrap (v3 - 1) = (i : Int) := by rw [hv, w64 (by omega) (by omega)]; omega
    unfold millwrightref13_One.l9
    rw [e, if_neg (by simp)]; simp
  | @ch x c u hx _ ih =>
    intro fuel i acc rest hd hf hv hi ha
    simp only [List.length_cons] at hf hv hi
    obtain ⟨f, rfl⟩ : ∃ f, fuel = f + 1 := ⟨fuel - 1, by omega⟩
    obtain ⟨g1, g2, g3⟩ := at_drop (show s.drop i = x :: (c ++ rest) from hd)
    have e : IntKind.i64.wrap (v3 - 1) = ((i + c.length + 1 : Nat) : Int) := by rw [hv, w64 (by omega) (by omega)]; omega
    have hsub : sub s (i : Int) ((i + 1 : Nat) : Int) = some [x] := by
      rw [sub_at rfl rfl (by omega) (by omega), List.drop_take, hd]
      have : i + 1 - i = 1 := by omega
      rw [this]; rfl
    have q : ((x.toNat : Int) == 39) = (x == 39) := u8_eq (b := 39)
    unfold millwrightref13_One.l9 millwrightref13_One.j16
    rw [e, if_pos (by simp; omega), wr1 (by omega), hsub, Option.bind_some, if_pos (by simp; omega), g1, Option.bind_some, q, if_neg (by simpa using hx), ih f (i + 1) (acc ++ [x]) rest g2 (by omega) (by rw [hv]; congr 1; omega) (by omega) (by simp; omega)]
    simp
  | @qq c u _ ih =>
    intro fuel i acc rest hd hf hv hi ha
    simp only [List.length_cons] at hf hv hi
    obtain ⟨f, rfl⟩ : ∃ f, fuel = f + 1 := ⟨fuel - 1, by omega⟩
    obtain ⟨g1, g2, g3⟩ := at_drop (show s.drop i = 39 :: 39 :: (c ++ rest) from hd)
    obtain ⟨_, g5, g6⟩ := at_drop g2
    have e : IntKind.i64.wrap (v3 - 1) = ((i + c.length + 2 : Nat) : Int) := by rw [hv, w64 (by omega) (by omega)]; omega
    have hsub : sub s (i : Int) ((i + 1 : Nat) : Int) = some [39] := by
      rw [sub_at rfl rfl (by omega) (by omega), List.drop_take, hd]
      have : i + 1 - i = 1 := by omega
      rw [this]; rfl
    unfold millwrightref13_One.l9 millwrightref13_One.j16
    rw [e, if_pos (by simp; omega), wr1 (by omega), hsub, Option.bind_some, if_pos (by simp; omega), g1, Option.bind_some, if_pos (by decide), wr1 (by omega), ih f (i + 1 + 1) (acc ++ [39]) rest g5 (by omega) (by rw [hv]; congr 1; omega) (by omega) (by simp; omega)]
    simp
def Told (s : List UInt8) (x : TR) (o : Option (Pc × Int × Int)) : Prop := if x.2.2 = 0 then ∃ j : Nat, o = some (x.1, (j : Int), 0) ∧ j ≤ s.length ∧ s.drop j = x.2.1 else o = some (⟨0, [], [], []⟩, 0, (x.2.2 : Int))
theorem tk_err (b : UInt8) (r : List UInt8) {e : Nat} (he : e ≠ 0) : (tk b r e).2 = e := by
  unfold tk fl
  cases r with
  | nil => simp [he]
  | cons x t => simp only; split <;> simp [he]
theorem rquo (k : Nat) (s : List UInt8) (hs : s.length ≤ 100000) (hk : s.length < k) (i : Nat) (r : List UInt8) (hd : s.drop i = 39 :: r) : Told s (quoE r) (millwrightref13_One.f k s (i : Int)) := by
  obtain ⟨g1, g2, g3⟩ := at_drop hd
  have hend : endAt s (i : Int) = (match fe r with | some q => ((i + 1 + q : Nat) : Int) | none => -1) := by
    unfold endAt
    have h39 : s[i]? = some 39 := by rw [← List.head?_drop, hd]; rfl
    have e : (i : Int).toNat = i := by simp
    rw [e, if_pos ⟨by omega, by omega, h39⟩, g2]
    cases fe r <;> rfl
  unfold millwrightref13_One.f millwrightref13_One.j6
  rw [g1, Option.bind_some, if_pos (by decide), rend_eq k s _ hs hk, Option.bind_some, hend]
  unfold Told quoE
  cases hf : fe r with
  | none => simp
  | some q =>
    have hq := fe_bd r q hf
    obtain ⟨_, u, hu⟩ := fe_good r.length r q (Nat.le_refl _) hf
    have hl : r.length = s.length - (i + 1) := by rw [← g2]; simp
    have hsp : s.drop (i + 1) = r.take (q - 1) ++ r.drop (q - 1) := by rw [List.take_append_drop]; exact g2
    have htl : (r.take (q - 1)).length = q - 1 := by rw [List.length_take]; omega
    simp only
    rw [if_pos trivial, if_neg (by simp; omega), wr1 (by omega), unq_loop k s hs _ hu k (i + 1) [] (r.drop (q - 1)) hsp (by omega) (by rw [htl]; congr 1; omega) (by omega) (by simp), replaceAll_un hu]
    exact ⟨i + 1 + q, rfl, by omega, by rw [← List.drop_drop, g2]⟩
theorem rcmd (k : Nat) (s : List UInt8) (hs : s.length ≤ 100000) (hk : s.length < k) (i : Nat) (r : List UInt8) (hd : s.drop i = 96 :: r) : Told s (cmdE r 0) (millwrightref13_One.f k s (i : Int)) := by
  obtain ⟨g1, g2, g3⟩ := at_drop hd
  have w1 : IntKind.i64.wrap ((i : Int) + 2) = ((i + 2 : Nat) : Int) := by rw [w64 (by omega) (by omega)]; rfl
  have hin := insides k s hs (i : Int) (s.drop (i + 2)) k (i + 2) rfl (by rw [List.length_drop]; omega)
  unfold millwrightref13_One.f
  rw [g1, Option.bind_some, if_neg (by decide), if_pos (by decide), w1, hin, Option.bind_some]
  unfold millwrightref13_One.j34 millwrightref13_One.j28 millwrightref13_One.j25
  rw [wr1 (by omega), w1]
  cases r with
  | nil =>
    have := at_nil g2
    rw [if_pos (by simp; omega), if_pos rfl]
    unfold Told cmdE
    rw [if_neg (by simp [tk, fl])]; rfl
  | cons c t =>
    obtain ⟨d1, d2, d3⟩ := at_drop g2
    have d2 : s.drop (i + 2) = t := d2
    have q1 : ((c.toNat : Int) != 123) = (c != 123) := nb c 123
    rw [if_neg (by simp; omega), d1, Option.bind_some, q1]
    by_cases hc : c = 123
    · subst hc
      rw [if_neg (by decide)]
      obtain ⟨p1, p2, p3⟩ := part s (i + 2) (by omega) insB
      have e : cmdE (123 :: t) 0 = (⟨4, t.takeWhile insB, [], []⟩, tk 125 (t.dropWhile insB) 0) := rfl
      rw [d2] at p1 p2 p3 ⊢
      rw [e]
      cases hx : t.dropWhile insB with
      | nil =>
        rw [hx] at p2
        have := at_nil p2
        rw [if_pos (by simp; omega), if_pos rfl]
        unfold Told
        rw [if_neg (by simp [tk, fl])]; rfl
      | cons x u =>
        rw [hx] at p2
        obtain ⟨x1, x2, x3⟩ := at_drop p2
        have q2 : ((x.toNat : Int) != 125) = (x != 125) := nb x 125
        rw [if_neg (by simp; omega), x1, Option.bind_some, q2]
        by_cases hx5 : x = 125
        · subst hx5
          rw [if_neg (by decide), p1, Option.bind_some, wr1 (by omega)]
          unfold Told
          rw [if_pos (by simp [tk])]
          exact ⟨_, rfl, by omega, by simpa [tk] using x2⟩
        · rw [if_pos (by simpa using hx5)]
          unfold Told
          rw [if_neg (by simp [tk, hx5, fl])]; simp [tk, hx5, fl]
    · rw [if_pos (by simpa using hc), if_pos rfl]
      have e : (cmdE (c :: t) 0).2.2 = 3 := by
        have : tk 123 (c :: t) 0 = (c :: t, 3) := by simp [tk, hc, fl]
        unfold cmdE
        simp only [this]
        exact tk_err _ _ (by decide)
      unfold Told
      rw [e, if_neg (by decide)]; rfl
theorem rshut (k : Nat) (s : List UInt8) (hs : s.length ≤ 100000) (nm f t : List UInt8) (j : Nat) (kd : Int) (hj : j ≤ s.length) : Told s (⟨kd, nm, f, t⟩, tk 125 (s.drop j) 0) (millwrightref13_dollar.j19 k s nm (j : Int) kd f t) := by
  unfold millwrightref13_dollar.j19 millwrightref13_dollar.j16 millwrightref13_dollar.j13
  cases hx : s.drop j with
  | nil =>
    have := at_nil hx
    rw [if_pos (by simp; omega), if_pos rfl]
    unfold Told
    rw [if_neg (by simp [tk, fl])]; rfl
  | cons x u =>
    obtain ⟨x1, x2, x3⟩ := at_drop hx
    have q2 : ((x.toNat : Int) != 125) = (x != 125) := nb x 125
    rw [if_neg (by simp; omega), x1, Option.bind_some, q2]
    by_cases hx5 : x = 125
    · subst hx5
      rw [if_neg (by decide), wr1 (by omega)]
      unfold Told
      rw [if_pos (by simp [tk])]
      exact ⟨_, rfl, by omega, by simpa [tk] using x2⟩
    · rw [if_pos (by simpa using hx5)]
      unfold Told
      rw [if_neg (by simp [tk, hx5, fl])]; simp [tk, hx5, fl]
theorem rvar (k : Nat) (s : List UInt8) (hs : s.length ≤ 100000) (hk : s.length < k) (i : Nat) (r : List UInt8) (hd : s.drop i = 36 :: r) : Told s (varE r 0) (millwrightref13_dollar.f k s (i : Int)) := by
  obtain ⟨g1, g2, g3⟩ := at_drop hd
  have hnm : ∀ t : List UInt8, t.length ≤ s.length → millwrightref13_Name.f k t = some (okNm t) := fun t ht => Ev.rname_eq k t (by omega) (by omega)
  have open_ : ∀ (v1 : Bool) (j : Nat), j ≤ s.length → millwrightref13_dollar.j49 k s v1 (j : Int) = millwrightref13_dollar.j35 k s v1 (j : Int) ((j + ((s.drop j).takeWhile letB).length : Nat) : Int) := fun v1 j hj => by
    unfold millwrightref13_dollar.j49
    rw [letters k s hs v1 (j : Int) (s.drop j) k j rfl (by rw [List.length_drop]; omega) hj, Option.bind_some]
  have flat : ∀ (t : List UInt8), r = t → (∀ u, t ≠ 123 :: u) → millwrightref13_dollar.f k s (i : Int) = millwrightref13_dollar.j49 k s false ((i + 1 : Nat) : Int) := fun t ht hne => by
    subst ht
    unfold millwrightref13_dollar.f millwrightref13_dollar.j51
    rw [wr1 (by omega)]
    cases r with
    | nil =>
      have := at_nil g2
      rw [if_neg (by simp; omega), if_neg (by decide)]
    | cons c u =>
      obtain ⟨d1, d2, d3⟩ := at_drop g2
      have q1 : ((c.toNat : Int) == 123) = (c == 123) := u8_eq (b := 123)
      have hc : c ≠ 123 := fun e => hne u (by rw [e])
      rw [if_pos (by simp; omega), d1, Option.bind_some, q1, if_neg (by simpa using hc), show (c == 123) = false by simpa using hc]
  by_cases h : ∃ u, r = 123 :: u
  · obtain ⟨t, rfl⟩ := h
    obtain ⟨d1, d2, d3⟩ := at_drop g2
    have d2 : s.drop (i + 2) = t := d2
    obtain ⟨p1, p2, p3⟩ := part s (i + 2) (by omega) letB
    have ef : millwrightref13_dollar.f k s (i : Int) = millwrightref13_dollar.j49 k s true ((i + 2 : Nat) : Int) := by
      unfold millwrightref13_dollar.f millwrightref13_dollar.j51
      rw [wr1 (by omega), if_pos (by simp; omega), d1, Option.bind_some, if_pos (by decide), wr1 (by omega)]; rfl
    rw [ef, open_ true (i + 2) (by omega)]
    unfold millwrightref13_dollar.j35
    rw [d2] at p1 p2 p3 ⊢
    have htl := tw_len letB t
    have hlt : t.length ≤ s.length := by rw [← d2]; simp
    rw [p1, Option.bind_some, hnm _ (by omega), Option.bind_some]
    cases hn : okNm (t.takeWhile letB) with
    | false =>
      have hE : nmE t 0 = 4 := by unfold nmE fl; rw [hn]; simp
      have e : (varE (123 :: t) 0).2.2 = 4 := by
        unfold varE
        simp only
        split
        · rw [hE, if_neg (by decide)]; exact tk_err _ _ (by decide)
        · rw [hE]; exact tk_err _ _ (by decide)
      rw [if_pos (by decide)]
      unfold Told
      rw [e, if_neg (by decide)]; rfl
    | true =>
      have hE : nmE t 0 = 0 := by unfold nmE; rw [hn]; rfl
      rw [if_neg (by decide), Option.bind_some, if_neg (by decide)]
      unfold millwrightref13_dollar.j32
      cases hu : t.dropWhile letB with
      | nil =>
        rw [hu] at p2
        have hnil := at_nil p2
        have e : varE (123 :: t) 0 = (⟨2, t.takeWhile letB, [], []⟩, tk 125 [] 0) := by
          unfold varE; simp only [hu, hE]
        have sh := rshut k s hs (t.takeWhile letB) [] [] (i + 2 + (t.takeWhile letB).length) 2 p3
        rw [p2] at sh
        rw [if_neg (by simp; omega), if_neg (by decide), e]; exact sh
      | cons x u =>
        rw [hu] at p2
        obtain ⟨x1, x2, x3⟩ := at_drop p2
        have q1 : ((x.toNat : Int) == 58) = (x == 58) := u8_eq (b := 58)
        rw [if_pos (by simp; omega), x1, Option.bind_some, q1]
        by_cases h58 : x = 58
        · subst h58
          obtain ⟨y1, y2, y3⟩ := part s (i + 2 + (t.takeWhile letB).length + 1) (by omega) patB
          rw [if_pos (by decide), wr1 (by omega), pattern_eq k s hs hk, Option.bind_some]
          rw [x2] at y1 y2 y3 ⊢
          unfold millwrightref13_dollar.j29 millwrightref13_dollar.j26
          cases hy : u.dropWhile patB with
          | nil =>
            rw [hy] at y2
            have := at_nil y2
            have e : (varE (123 :: t) 0).2.2 = 3 := by
              unfold varE
              simp only [hu, hE, hy]
              rw [if_pos trivial]
              simp [tk, fl]
            rw [if_pos (by simp; omega), if_pos rfl]
            unfold Told
            rw [e, if_neg (by decide)]; rfl
          | cons z v =>
            rw [hy] at y2
            obtain ⟨z1, z2, z3⟩ := at_drop y2
            have q2 : ((z.toNat : Int) != 61) = (z != 61) := nb z 61
            rw [if_neg (by simp; omega), z1, Option.bind_some, q2]
            by_cases h61 : z = 61
            · subst h61
              obtain ⟨v1, v2, v3⟩ := part s (i + 2 + (t.takeWhile letB).length + 1 + (u.takeWhile patB).length + 1) (by omega) patB
              have e : varE (123 :: t) 0 = (⟨3, t.takeWhile letB, u.takeWhile patB, v.takeWhile patB⟩, tk 125 (v.dropWhile patB) 0) := by
                unfold varE
                simp only [hu, hE, hy]
                rw [if_pos trivial]
                simp [tk]
              rw [if_neg (by decide), wr1 (by omega), y1, Option.bind_some, wr1 (by omega), pattern_eq k s hs hk, Option.bind_some]
              rw [z2] at v1 v2 v3 ⊢
              rw [v1, Option.bind_some, e]
              have sh := rshut k s hs (t.takeWhile letB) (u.takeWhile patB) (v.takeWhile patB) _ 3 v3
              rw [v2] at sh; exact sh
            · have e : (varE (123 :: t) 0).2.2 = 3 := by
                unfold varE
                simp only [hu, hE, hy]
                rw [if_pos trivial]
                have : tk 61 (z :: v) 0 = (z :: v, 3) := by simp [tk, h61, fl]
                simp only [this]
                exact tk_err _ _ (by decide)
              rw [if_pos (by simpa using h61)]
              unfold Told
              rw [e, if_neg (by decide)]; rfl
        · have e : varE (123 :: t) 0 = (⟨2, t.takeWhile letB, [], []⟩, tk 125 (x :: u) 0) := by
            unfold varE
            simp only [hu]
            split
            · rename_i heq; cases heq; exact absurd rfl h58
            · rw [hE]
          have sh := rshut k s hs (t.takeWhile letB) [] [] (i + 2 + (t.takeWhile letB).length) 2 p3
          rw [p2] at sh
          rw [show (x == 58) = false by simpa using h58, if_neg (by decide), e]; exact sh
  · have hne : ∀ u, r ≠ 123 :: u := fun u e => h ⟨u, e⟩
    have hv : varE r 0 = (⟨2, r.takeWhile letB, [], []⟩, r.dropWhile letB, nmE r 0) := by
      unfold varE
      split
      · exact absurd ⟨_, rfl⟩ h
      · rfl
    obtain ⟨p1, p2, p3⟩ := part s (i + 1) (by omega) letB
    rw [flat r rfl hne, open_ false (i + 1) (by omega), hv]
    unfold millwrightref13_dollar.j35
    rw [g2] at p1 p2 p3 ⊢
    have htl := tw_len letB r
    have hlt : r.length ≤ s.length := by rw [← g2]; simp
    rw [p1, Option.bind_some, hnm _ (by omega), Option.bind_some]
    unfold Told nmE fl
    cases hn : okNm (r.takeWhile letB) with
    | false => simp
    | true =>
      rw [if_pos rfl]
      show (if (0 : Nat) = 0 then _ else _)
      rw [if_pos rfl, if_neg (by decide), Option.bind_some, if_pos (by decide)]
      exact ⟨_, rfl, p3, p2⟩
theorem One_eq (k : Nat) (s : List UInt8) (hs : s.length ≤ 100000) (hk : s.length < k) (i : Nat) (b : UInt8) (r : List UInt8) (hd : s.drop i = b :: r) : Told s (tokE (b :: r)) (millwrightref13_One.f k s (i : Int)) := by
  obtain ⟨g1, g2, g3⟩ := at_drop hd
  rw [tokE_cons]
  by_cases c1 : b = 39
  · subst c1; rw [if_pos rfl]; exact rquo k s hs hk i r hd
  · rw [if_neg c1]
    by_cases c2 : b = 36
    · subst c2
      rw [if_pos rfl]
      have hv := rvar k s hs hk i r hd
      unfold millwrightref13_One.f
      rw [g1, Option.bind_some, if_neg (by decide), if_neg (by decide), if_pos (by decide)]
      unfold Told at hv ⊢
      split at hv
      · rename_i h0
        obtain ⟨j, h1, h2, h3⟩ := hv
        rw [if_pos h0, h1]
        exact ⟨j, rfl, h2, h3⟩
      · rename_i h0
        rw [if_neg h0, hv]; rfl
    · rw [if_neg c2]
      by_cases c3 : b = 96
      · subst c3; rw [if_pos rfl]; exact rcmd k s hs hk i r hd
      · have h1 : ((b.toNat : Int) == 39) = (b == 39) := u8_eq (b := 39)
        have h2 : ((b.toNat : Int) == 36) = (b == 36) := u8_eq (b := 36)
        have h3 : ((b.toNat : Int) == 96) = (b == 96) := u8_eq (b := 96)
        obtain ⟨p1, p2, p3⟩ := part s i (by omega) plB
        rw [hd] at p1 p2 p3
        unfold millwrightref13_One.f millwrightref13_One.j53
        rw [if_neg c3, g1, Option.bind_some, h1, h2, h3, if_neg (by simpa using c1), if_neg (by simpa using c3), if_neg (by simpa using c2), plains k s hs (i : Int) (b :: r) k i hd (by rw [← hd, List.length_drop]; omega), Option.bind_some, p1, Option.bind_some]
        unfold Told
        rw [if_pos rfl]
        exact ⟨_, rfl, p3, p2⟩
end Go.Proofs.YtldepagjdbcmgaaGreatDoor.Lx
