/- Archives made: the code's and the document's. -/
import Derived.Test.YtcblgpcgdihcbaaGreatDoorK20ETVB
namespace Go.Proofs.YtcblgpcgdihcbaaGreatDoor.Ar
open Go Go.AM Go.ChangeShapes Go.ChangeAt Go.RowKit
set_option linter.unusedVariables false
set_option linter.unusedSimpArgs false
set_option maxRecDepth 100000
abbrev Mb := T_ar_Member
def okr (c : UInt8) : Bool := decide (33 ≤ c.toNat) && decide (c.toNat ≤ 126)
def okm (c : UInt8) : Bool := okr c && !([47, 40, 41] : Tx).contains c
def namedS (s : Tx) : Bool := decide (1 ≤ s.length) && decide (s.length ≤ 15) && s.all okm
def timedS (t : Int) : Bool := decide (1 ≤ t) && decide (t ≤ 549755813888)
theorem lt33 (c : UInt8) : decide ((c.toNat : Int) < 33) = !decide (33 ≤ c.toNat) := by rw [Bool.eq_iff_iff]; simp; omega
theorem gt126 (c : UInt8) : decide ((c.toNat : Int) > 126) = !decide (c.toNat ≤ 126) := by rw [Bool.eq_iff_iff]; simp; omega
theorem right_loop (k : Nat) (l : Tx) (hl : l.length ≤ 100000) : ∀ (r : Tx) (fuel i : Nat), l.drop i = r → r.length < fuel → names_Right.l3 k l fuel (i : Int) = some (if r.all okr then .inl () else .inr false)
  | _, 0, _, _, h => by omega
  | [], f + 1, i, hd, _ => by
    have := at_nil hd
    unfold names_Right.l3
    rw [if_neg (by simp; omega)]; simp
  | c :: r, f + 1, i, hd, hf => by
    obtain ⟨g1, g2, g3⟩ := at_drop hd
    unfold names_Right.l3 names_Right.j10 names_Right.j7
    rw [if_pos (by simp; omega), g1, Option.bind_some, Option.bind_some, lt33, gt126, wr1 (by omega), right_loop k l hl r f (i + 1) g2 (by simpa using hf), List.all_cons]
    cases h1 : decide (33 ≤ c.toNat) <;> cases h2 : decide (c.toNat ≤ 126) <;> simp [okr, h1, h2]
theorem right_eq (k : Nat) (s : Tx) (hs : s.length < k) (hl : s.length ≤ 100000) : names_Right.f k s = some (decide (1 ≤ s.length) && decide (s.length ≤ 40) && s.all okr) := by
  unfold names_Right.f names_Right.j19 names_Right.j16 names_Right.j1
  rw [show (0 : Int) = ((0 : Nat) : Int) from rfl, right_loop k s hl s k 0 rfl hs, Option.bind_some]
  by_cases h1 : s.length < 1
  · rw [if_pos (by simp; omega), if_pos rfl]
    have : decide (1 ≤ s.length) = false := by simpa using h1
    rw [this]; simp
  · rw [if_neg (by simp; omega)]
    have e1 : decide (1 ≤ s.length) = true := by simp; omega
    by_cases h2 : s.length ≤ 40
    · rw [if_neg (by simp; omega), e1, show decide (s.length ≤ 40) = true by simpa using h2]
      cases s.all okr <;> rfl
    · rw [if_pos (by simp; omega), show decide (s.length ≤ 40) = false by simpa using h2]; simp
theorem idxAny (c : Tx) : ∀ s : Tx, Lib.containsAny s c = s.any c.contains
  | [] => by simp [Lib.containsAny, Lib.indexAny]
  | b :: l => by
    have ih := idxAny c l
    have hg := Lib.indexAny_ge c l
    unfold Lib.containsAny at ih ⊢
    rw [Lib.indexAny, List.any_cons, ← ih]
    by_cases h : c.contains b = true
    · rw [if_pos h, h]; simp
    · rw [if_neg h, show c.contains b = false by simpa using h, Bool.false_or]
      by_cases h1 : Lib.indexAny l c = -1
      · rw [h1]; simp
      · rw [if_neg (by simpa using h1), Bool.eq_iff_iff]; simp; omega
theorem okm_all (s : Tx) : s.all okm = (s.all okr && !s.any ([47, 40, 41] : Tx).contains) := by
  induction s with
  | nil => rfl
  | cons c r ih =>
    rw [List.all_cons, List.all_cons, List.any_cons, ih, okm]
    cases okr c <;> cases ([47, 40, 41] : Tx).contains c <;> cases r.all okr <;> cases r.any ([47, 40, 41] : Tx).contains <;> rfl
theorem named_eq (k : Nat) (m : Mb) (hs : m.f_Name.length < k) (hl : m.f_Name.length ≤ 100000) : ar_Member_named.f k m = some (namedS m.f_Name) := by
  unfold ar_Member_named.f
  rw [right_eq k _ hs hl, Option.bind_some]
  by_cases hr : (decide (1 ≤ m.f_Name.length) && decide (m.f_Name.length ≤ 40) && m.f_Name.all okr) = true
  · rw [if_pos hr]
    simp only [Bool.and_eq_true, decide_eq_true_eq] at hr
    obtain ⟨⟨r1, r2⟩, r3⟩ := hr
    by_cases h16 : m.f_Name.length < 16
    · have ha : (m.f_Name.all fun b => decide (b.toNat < 128)) = true := List.all_eq_true.2 fun b hb => by
        have := List.all_eq_true.1 r3 b hb
        simp only [okr, Bool.and_eq_true, decide_eq_true_eq] at this
        simp; omega
      rw [if_pos (by simp; omega), pContainsAny.f, if_pos ⟨by omega, by simp, ha, by decide⟩, Option.bind_some, idxAny, namedS, okm_all, r3, show decide (1 ≤ m.f_Name.length) = true by simpa using r1, show decide (m.f_Name.length ≤ 15) = true by simp; omega]
      simp
    · rw [if_neg (by simp; omega), namedS, show decide (m.f_Name.length ≤ 15) = false by simp; omega]; simp
  · rw [if_neg hr, namedS, okm_all]
    simp only [Bool.and_eq_true, decide_eq_true_eq, not_and] at hr
    congr 1
    symm
    rw [Bool.eq_false_iff]
    intro h
    simp only [Bool.and_eq_true, decide_eq_true_eq] at h
    exact hr ⟨h.1.1, by omega⟩ h.2.1
theorem timed_eq (k : Nat) (m : Mb) : ar_Member_timed.f k m = some (timedS m.f_Time) := by
  unfold ar_Member_timed.f timedS
  by_cases h : 1 ≤ m.f_Time
  · rw [if_pos (by simpa using h), show decide (1 ≤ m.f_Time) = true by simpa using h]; simp
  · rw [if_neg (by simpa using h), show decide (1 ≤ m.f_Time) = false by simpa using h]; simp
def Sm (m : Mb) : Prop := m.f_Name.length ≤ 2000 ∧ m.f_Content.length ≤ 2000 ∧ -9223372036854775808 ≤ m.f_Time ∧ m.f_Time ≤ 9223372036854775807
def SmL (l : List Mb) : Prop := l.length ≤ 1000 ∧ ∀ m ∈ l, Sm m
theorem SmL.tail {m : Mb} {l : List Mb} (h : SmL (m :: l)) : SmL l := ⟨by have := h.1; simp at this; omega, fun x hx => h.2 x (List.mem_cons_of_mem _ hx)⟩
def findS (p : Mb → Bool) (i : Nat) (r : List Mb) : Sum Unit Int := match r.findIdx? p with | none => .inl () | some j => .inr ((i + j : Nat) : Int)
theorem findS_cons (p : Mb → Bool) (i : Nat) (m : Mb) (r : List Mb) : findS p i (m :: r) = if p m then .inr (i : Int) else findS p (i + 1) r := by
  unfold findS
  rw [List.findIdx?_cons]
  cases h : p m
  · cases r.findIdx? p with
    | none => rfl
    | some j => simp; omega
  · simp
def posS (p : Mb → Bool) (l : List Mb) : Int := match l.findIdx? p with | none => -1 | some j => (j : Int)
theorem pos_ge (p : Mb → Bool) (l : List Mb) : decide (posS p l ≥ 0) = l.any p := by
  unfold posS
  rw [← List.findIdx?_isSome]
  cases l.findIdx? p <;> simp
theorem badname_loop (k : Nat) (hk : 4000 ≤ k) (l : List Mb) (hl : SmL l) : ∀ (r : List Mb) (fuel i : Nat), l.drop i = r → r.length < fuel → ar_Member_90_m0.l3 k l fuel (i : Int) = some (findS (fun m => !namedS m.f_Name) i r)
  | _, 0, _, _, h => by omega
  | [], f + 1, i, hd, _ => by
    have := at_nil hd
    unfold ar_Member_90_m0.l3
    rw [if_neg (by simp; omega)]; rfl
  | m :: r, f + 1, i, hd, hf => by
    obtain ⟨g1, g2, g3⟩ := at_drop hd
    have hm := hl.2 m (List.mem_of_mem_drop (by rw [hd]; simp))
    have h1 := hl.1
    unfold ar_Member_90_m0.l3 ar_Make_1.f
    rw [if_pos (by simp; omega), g1, Option.bind_some, named_eq k _ (by have := hm.1; show m.f_Name.length < k; omega) (by have := hm.1; show m.f_Name.length ≤ _; omega), Option.bind_some, Option.bind_some, wr1 (by omega), badname_loop k hk l hl r f (i + 1) g2 (by simpa using hf), findS_cons]
    cases namedS m.f_Name <;> rfl
theorem badname_eq (k : Nat) (hk : 4000 ≤ k) (l : List Mb) (hl : SmL l) : ar_Member_m0.f k l = some (l.any fun m => !namedS m.f_Name) := by
  have h1 := hl.1
  unfold ar_Member_m0.f ar_Member_90_m0.f ar_Member_90_m0.j1
  rw [show (0 : Int) = ((0 : Nat) : Int) from rfl, badname_loop k hk l hl l k 0 rfl (by omega), Option.bind_some, ← pos_ge]
  unfold findS posS
  cases l.findIdx? _ <;> simp
theorem badtime_loop (k : Nat) (l : List Mb) (hl : SmL l) : ∀ (r : List Mb) (fuel i : Nat), l.drop i = r → r.length < fuel → ar_Member_90_m1.l3 k l fuel (i : Int) = some (findS (fun m => !timedS m.f_Time) i r)
  | _, 0, _, _, h => by omega
  | [], f + 1, i, hd, _ => by
    have := at_nil hd
    unfold ar_Member_90_m1.l3
    rw [if_neg (by simp; omega)]; rfl
  | m :: r, f + 1, i, hd, hf => by
    obtain ⟨g1, g2, g3⟩ := at_drop hd
    have h1 := hl.1
    unfold ar_Member_90_m1.l3 ar_Make_2.f
    rw [if_pos (by simp; omega), g1, Option.bind_some, timed_eq, Option.bind_some, Option.bind_some, wr1 (by omega), badtime_loop k l hl r f (i + 1) g2 (by simpa using hf), findS_cons]
    cases timedS m.f_Time <;> rfl
theorem badtime_eq (k : Nat) (hk : 4000 ≤ k) (l : List Mb) (hl : SmL l) : ar_Member_m1.f k l = some (l.any fun m => !timedS m.f_Time) := by
  have h1 := hl.1
  unfold ar_Member_m1.f ar_Member_90_m1.f ar_Member_90_m1.j1
  rw [show (0 : Int) = ((0 : Nat) : Int) from rfl, badtime_loop k l hl l k 0 rfl (by omega), Option.bind_some, ← pos_ge]
  unfold findS posS
  cases l.findIdx? _ <;> simp
abbrev owner : Tx := [48, 32, 32, 32, 32, 32, 48, 32, 32, 32, 32, 32, 54, 52, 52, 32, 32, 32, 32, 32]
abbrev mend : Tx := [96, 10]
abbrev magic : Tx := [33, 60, 97, 114, 99, 104, 62, 10]
def pad (n : Nat) : Tx := if n % 2 = 1 then [10] else []
def oneS (m : Mb) : Tx := fld 16 m.f_Name ++ (fld 12 (Lib.itoa m.f_Time) ++ (owner ++ (fld 10 (Lib.decDigits m.f_Content.length) ++ (mend ++ (m.f_Content ++ pad m.f_Content.length)))))
def sizeS (m : Mb) : Nat := 60 + m.f_Content.length + m.f_Content.length % 2
theorem field16 (k : Nat) (x : Tx) (hx : x.length ≤ 100000) : ar_field.f k x 16 = some (fld 16 x) := field_eq k x 16 hx (by omega)
theorem field12 (k : Nat) (x : Tx) (hx : x.length ≤ 100000) : ar_field.f k x 12 = some (fld 12 x) := field_eq k x 12 hx (by omega)
theorem field10 (k : Nat) (x : Tx) (hx : x.length ≤ 100000) : ar_field.f k x 10 = some (fld 10 x) := field_eq k x 10 hx (by omega)
theorem fld_le {w : Nat} {x : Tx} (hw : w ≤ 1000) (hx : x.length ≤ 100000) : (fld w x).length ≤ 101000 := by simp [fld]; omega
theorem tmod2 (n : Nat) : Int.tmod (n : Int) 2 = ((n % 2 : Nat) : Int) := rfl
theorem fill_at (n : Nat) : sub ([10] : Tx) 0 ((n % 2 : Nat) : Int) = some (pad n) := by
  have h : n % 2 = 0 ∨ n % 2 = 1 := by omega
  unfold pad
  rcases h with h | h
  · rw [h]; rfl
  · rw [h]; rfl
theorem bytes_eq (k : Nat) (m : Mb) (hm : Sm m) : ar_Member_bytes.f k m = some (oneS m) := by
  obtain ⟨h1, h2, h3, h4⟩ := hm
  have hi := itoa_len h3 h4
  have hd : (Lib.decDigits m.f_Content.length).length ≤ 20 := dec_len_le (show _ < 10 ^ 20 by omega) (by omega)
  have l1 := fld_le (w := 16) (x := m.f_Name) (by omega) (by omega)
  have l2 := fld_le (w := 12) (x := Lib.itoa m.f_Time) (by omega) (by omega)
  have l3 := fld_le (w := 10) (x := Lib.decDigits m.f_Content.length) (by omega) (by omega)
  have l4 : (pad m.f_Content.length).length ≤ 1 := by unfold pad; split <;> simp
  unfold ar_Member_bytes.f
  rw [field16 k _ (by omega), Option.bind_some, itoa_eq k h3 h4, Option.bind_some, field12 k _ (by omega), Option.bind_some, if_pos (by omega), if_pos (by simp; omega),
    itoa_eq k (by omega) (by omega), Option.bind_some, itoa_nat, field10 k _ (by omega), Option.bind_some, if_pos (by simp; omega), if_pos (by simp; omega), if_pos (by simp; omega), if_pos (by decide), tmod2, fill_at, Option.bind_some, if_pos (by simp; omega)]
  simp only [oneS, List.append_assoc]
theorem size_eq (k : Nat) (m : Mb) (hm : Sm m) : ar_Size.f k m = some (sizeS m : Int) := by
  obtain ⟨h1, h2, h3, h4⟩ := hm
  unfold ar_Size.f
  rw [if_pos (by decide), tmod2, w64 (n := 60 + (m.f_Content.length : Int)) (by omega) (by omega), w64 (by omega) (by omega)]
  unfold sizeS
  congr 1
end Go.Proofs.YtcblgpcgdihcbaaGreatDoor.Ar
