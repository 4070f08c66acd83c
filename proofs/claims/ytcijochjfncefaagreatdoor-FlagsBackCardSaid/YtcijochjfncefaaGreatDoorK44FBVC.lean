/- A part of a proof: FBVC. -/
import Derived.Test.YtcijochjfncefaaGreatDoorK44FBVB
namespace Go.Proofs.YtcijochjfncefaaGreatDoor
open Go Go.AM Go.ChangeShapes Go.ChangeAt Go.RowKit
set_option linter.unusedVariables false
set_option linter.unusedSimpArgs false
set_option maxRecDepth 100000
def nproc : Tx := [78, 80, 82, 79, 67]
def smV (v : Vr) : Prop := v.fN.length ≤ 1000 ∧ v.f_Words.length ≤ 1000 ∧ ∀ w ∈ v.f_Words, w.length ≤ 10000
structure SmO (o : Op1) : Prop where
  n : o.f_News.length ≤ 10000
  nw : ∀ x ∈ o.f_News, x.length ≤ 1000
  g : o.f_Goals.length ≤ 10000
  gw : ∀ x ∈ o.f_Goals, x.length ≤ 1000
  f : o.f_File.length ≤ 1000
  v : o.f_Vars.length ≤ 10000
  vw : ∀ x ∈ o.f_Vars, smV x
def badV (v : Vr) : Bool := chk v != 0 || (v.f_Level != 2 || v.f_Hidden)
def vs1 : List Vr → Int → Option Int
  | [], n => some n
  | v :: r, n => if badV v then none else if v.fN == nproc then (if num v.f_Words == 0 then none else vs1 r (num v.f_Words)) else vs1 r n
theorem variables_loop (k : Nat) (hk : 100000 < k) (a : List Vr) (ha : a.length ≤ 10000) : ∀ (l : List Vr) (fuel i : Nat) (n : Int), a.drop i = l → l.length < fuel → (∀ v ∈ l, smV v) → n ≠ 0 →
    flags_variables.l5 k a fuel n (i : Int) = some (match vs1 l n with | none => .inr (0, false) | some m => .inl m)
  | _, 0, _, _, _, h, _, _ => by omega
  | [], f + 1, i, n, hl, _, _, _ => by
    have := at_nil hl
    unfold flags_variables.l5
    rw [if_neg (by simp; omega)]; rfl
  | v :: r, f + 1, i, n, hl, hf, hs, hn => by
    obtain ⟨g1, g2, g3⟩ := at_drop hl
    obtain ⟨s1, s2, s3⟩ := hs v (.head _)
    have ih := fun m hm => variables_loop k hk a ha r f (i + 1) m g2 (by simpa using hf) (fun x hx => hs x (List.mem_cons_of_mem _ hx)) hm
    unfold flags_variables.l5
    rw [if_pos (by simp; exact g3), g1, Option.bind_some, vr_eta, check_eq k (by omega) v s1 s2, Option.bind_some]
    have hj : ∀ b, flags_variables.j21 k (flags_variables.l5 k a f) a n (i : Int) v b = some (if b then .inr (0, false) else match (if v.fN == nproc then (if num v.f_Words == 0 then none else vs1 r (num v.f_Words)) else vs1 r n) with | none => .inr (0, false) | some m => .inl m) := fun b => by
      unfold flags_variables.j21 flags_variables.j18 flags_variables.j15 flags_variables.j11
      cases b with
      | true => rfl
      | false =>
        simp only [Bool.false_eq_true, if_false]
        rw [number_eq k v.f_Words (fun w hw => by have := s3 w hw; omega), Option.bind_some, wr1 (by omega)]
        show (if (v.fN == nproc) = true then _ else _) = _
        by_cases h : (v.fN == nproc) = true
        · rw [if_pos h, if_pos h]
          by_cases h0 : (num v.f_Words == 0) = true
          · rw [if_pos h0, if_pos h0]
          · rw [if_neg h0, if_neg h0, ih _ (by simpa using h0)]
        · rw [if_neg h, if_neg h, if_neg (by simpa using hn), ih n hn]
    have e2 : vs1 (v :: r) n = if badV v then none else (if v.fN == nproc then (if num v.f_Words == 0 then none else vs1 r (num v.f_Words)) else vs1 r n) := rfl
    rw [hj, hj, e2]
    unfold badV
    have e1 : (!(chk v == 0)) = (chk v != 0) := rfl
    rw [e1]
    cases chk v != 0 <;> cases v.f_Level != 2 <;> cases v.f_Hidden <;> rfl
theorem variables_eq (k : Nat) (hk : 100000 < k) (a : List Vr) (ha : a.length ≤ 10000) (hs : ∀ v ∈ a, smV v) : flags_variables.f k a = some (match vs1 a 1 with | none => (0, false) | some m => (m, true)) := by
  unfold flags_variables.f
  have e : flags_variables.l5 k a k 1 0 = _ := variables_loop k hk a ha a k 0 1 rfl (by omega) hs (by decide)
  rw [e, Option.bind_some]
  cases vs1 a 1 <;> rfl
def badN (x : Tx) : Bool := !right x || decide ((44 : UInt8) ∈ x)
theorem right1_eq (k : Nat) (x : Tx) (hx : x.length ≤ 1000) (hk : 100000 < k) : flags_Right_1.f k x = some (badN x) := by
  unfold flags_Right_1.f badN
  rw [right_eq k x (by omega) (by omega), Option.bind_some, scontains_eq k x 44 (by omega), Option.bind_some]
  cases right x <;> rfl
theorem prefix_eq (k : Nat) (x : Tx) (c : UInt8) (hx : x.length ≤ 100000) : stringslite_HasPrefix.f k x [c] = some (x.head? == some c) := by
  unfold stringslite_HasPrefix.f
  cases x with
  | nil => rfl
  | cons a r =>
    rw [if_pos (by simp; omega)]
    have e : sub (a :: r) 0 (([c] : Tx).length : Int) = some [a] := by rw [sub_to rfl rfl (by simp)]; rfl
    rw [e]
    simp
def asg (x : Tx) : Bool := decide ((61 : UInt8) ∈ x) && okNm (x.takeWhile (· != 61))
theorem tw_cut {c : UInt8} : ∀ {a b : Tx}, c ∉ a → (a ++ c :: b).takeWhile (· != c) = a
  | [], b, _ => by simp
  | x :: a, b, h => by
    simp at h
    have : (x != c) = true := by simpa using fun e => h.1 e.symm
    rw [List.cons_append, List.takeWhile_cons_of_pos (p := (· != c)) this, tw_cut h.2]
def plainG (x : Tx) : Bool := right x && (!(x.head? == some 45) && !asg x)
theorem plain_f (k : Nat) (x : Tx) (hx : x.length ≤ 1000) (hk : 100000 < k) : flags_plain.f k x = some (plainG x) := by
  unfold flags_plain.f plainG asg strings_HasPrefix.f
  rcases cut_cases k x 61 (by omega) with ⟨h1, h2⟩ | ⟨a, b, h1, h2, h3⟩
  · rw [h2, Option.bind_some, right_eq k x (by omega) (by omega), Option.bind_some, prefix_eq k x 45 (by omega), Option.bind_some, Option.bind_some]
    rw [decide_eq_false h1]
    cases right x <;> cases (x.head? == some 45) <;> rfl
  · have ha : a.length ≤ x.length := by rw [h1]; simp
    rw [h3, Option.bind_some, right_eq k x (by omega) (by omega), Option.bind_some, prefix_eq k x 45 (by omega), Option.bind_some, Option.bind_some]
    simp only [if_true]
    rw [Name_eq k a (by omega) (by omega), Option.bind_some]
    have e1 : x.takeWhile (· != 61) = a := by rw [h1]; exact tw_cut h2
    have e2 : decide ((61 : UInt8) ∈ x) = true := by rw [h1]; simp
    rw [e1, e2]
    cases right x <;> cases (x.head? == some 45) <;> cases okNm a <;> rfl
theorem contains1_eq (k : Nat) (hk : 100000 < k) (a : List Tx) (ha : a.length ≤ 10000) (hx : ∀ x ∈ a, x.length ≤ 1000) : slices_ContainsFunc_string_string_m1.f k a = some (a.any badN) := by
  unfold slices_ContainsFunc_string_string_m1.f slices_IndexFunc_string_string_m1.f slices_IndexFunc_string_string_m1.j1
  obtain ⟨o, h1, h2⟩ := find_gen (slices_IndexFunc_string_string_m1.l3 k a) a (flags_Right_1.f k) badN (by omega) (fun n v => rfl) a k 0 rfl (by omega) fun x h => right1_eq k x (hx x h) hk
  have h1' : slices_IndexFunc_string_string_m1.l3 k a k 0 = some o := h1
  rw [h1', Option.bind_some]
  rcases h2 with ⟨e, rfl⟩ | ⟨e, j, rfl⟩
  · rw [e]; rfl
  · rw [e]; simp
theorem contains2_eq (k : Nat) (hk : 100000 < k) (a : List Tx) (ha : a.length ≤ 10000) (hx : ∀ x ∈ a, x.length ≤ 1000) : slices_ContainsFunc_string_string_m2.f k a = some (a.any fun x => !plainG x) := by
  unfold slices_ContainsFunc_string_string_m2.f slices_IndexFunc_string_string_m2.f slices_IndexFunc_string_string_m2.j1
  obtain ⟨o, h1, h2⟩ := find_gen (slices_IndexFunc_string_string_m2.l3 k a) a (flags_Right_2.f k) (fun x => !plainG x) (by omega) (fun n v => rfl) a k 0 rfl (by omega) fun x h => by unfold flags_Right_2.f; rw [plain_f k x (hx x h) hk, Option.bind_some]
  have h1' : slices_IndexFunc_string_string_m2.l3 k a k 0 = some o := h1
  rw [h1', Option.bind_some]
  rcases h2 with ⟨e, rfl⟩ | ⟨e, j, rfl⟩
  · rw [e]; rfl
  · rw [e]; simp
def varsOk (o : Op1) : Bool := match vs1 o.f_Vars 1 with | none => false | some m => o.f_Nproc == m
def rightO (o : Op1) : Bool := right o.f_File && (!(o.f_News.any badN) && (!(o.f_Goals.any fun x => !plainG x) && varsOk o))
theorem Right_eq (k : Nat) (hk : 100000 < k) (o : Op1) (h : SmO o) : flags_Right.f k o = some (rightO o) := by
  unfold flags_Right.f
  rw [variables_eq k hk _ h.v h.vw, Option.bind_some]
  have hj : ∀ b, flags_Right.j8 k o b = some (!b && (!(o.f_News.any badN) && !(o.f_Goals.any fun x => !plainG x))) := fun b => by
    unfold flags_Right.j8 flags_Right.j5
    rw [contains1_eq k hk _ h.n h.nw, Option.bind_some, contains2_eq k hk _ h.g h.gw, Option.bind_some]
    cases b <;> cases o.f_News.any badN <;> rfl
  rw [right_eq k o.f_File (by have := h.f; omega) (by have := h.f; omega), Option.bind_some, hj, hj]
  unfold rightO varsOk
  cases vs1 o.f_Vars 1 with
  | none => simp
  | some m =>
    simp only [Bool.not_true, Bool.false_eq_true, if_false]
    by_cases e : o.f_Nproc = m
    · subst e; simp
    · have e' : (o.f_Nproc == m) = false := by simpa using e
      rw [e', if_pos (by simpa using fun h => e h.symm)]; simp
def placeI (s : Tx) (c : UInt8) : Int := if c ∈ s then ((s.takeWhile (· != c)).length : Int) else -1
theorem right_pos {x : Tx} (h : right x = true) : ∃ c r, x = c :: r := by
  unfold right at h
  cases x with
  | nil => simp at h
  | cons c r => exact ⟨c, r, rfl⟩
def onL (o : Op1) : List Bool := [o.f_All, o.f_Explain, o.f_Ignore, o.f_Keep, o.f_Dry, o.f_Touch]
def sameO (a b : Op1) : Bool := (onL a == onL b) && (a.f_File == b.f_File && (a.f_Nproc == b.f_Nproc && (eqL (· == ·) a.f_News b.f_News && (eqL (· == ·) a.f_Goals b.f_Goals && eqL veq a.f_Vars b.f_Vars))))
theorem sameO_refl (a : Op1) : sameO a a = true := by
  unfold sameO
  rw [eqT_refl, eqT_refl, eqL_refl veq veq_refl]; simp
theorem Same_eq (k : Nat) (hk : 100000 < k) (a b : Op1) (h : SmO a) : flags_Same.f k a b = some (sameO a b) := by
  unfold flags_Same.f
  have hn := h.n
  have hg := h.g
  have hv := h.v
  rw [eqs_eq k a.f_News b.f_News (by omega) (by omega), Option.bind_some, eqs_eq k a.f_Goals b.f_Goals (by omega) (by omega), Option.bind_some, eqv_eq k a.f_Vars b.f_Vars (by omega) hk (fun v hv => by have := (h.vw v hv).2.1; omega), Option.bind_some]
  have hj : ∀ c, flags_Same.j7 k a b c = some ((onL a == onL b) && (c && (a.f_File == b.f_File && (a.f_Nproc == b.f_Nproc)))) := fun c => by
    unfold flags_Same.j7 flags_Same_1.f
    rw [Option.bind_some, Option.bind_some]
    show (if (onL a == onL b) = true then _ else _) = _
    rw [ifb, ifb, ifb]
  rw [hj, hj]
  unfold sameO
  cases eqL (fun x y : Tx => x == y) a.f_News b.f_News <;> cases eqL (fun x y : Tx => x == y) a.f_Goals b.f_Goals <;> cases eqL veq a.f_Vars b.f_Vars <;> cases onL a == onL b <;> cases a.f_File == b.f_File <;> cases a.f_Nproc == b.f_Nproc <;> rfl
end Go.Proofs.YtcijochjfncefaaGreatDoor
