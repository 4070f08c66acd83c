/- Archives: what every law wants first; what is found by a name. -/
import Derived.Test.YtgphmfcbhmmpiaaGreatDoorK14ARVF
namespace Go.Proofs.YtgphmfcbhmmpiaaGreatDoor
open Go Go.AM Go.ChangeShapes Go.ChangeAt Go.RowKit
set_option linter.unusedVariables false
set_option linter.unusedSimpArgs false
set_option maxRecDepth 100000
theorem num_fin : ∀ e : Fin 19, millwrightnum_Num.f 4000 e.val = some (e.val : Int) := by decide +kernel
theorem num_e {e : Nat} (h : e ≤ 18) : millwrightnum_Num.f 4000 e = some (e : Int) := num_fin ⟨e, by omega⟩
theorem make_err (l : List Mb) : (makeS l).2 ≤ 18 ∧ ((makeS l).2 ≠ 0 → (makeS l).1 = []) := by
  unfold makeS
  split
  · exact ⟨by decide, fun _ => rfl⟩
  · split
    · exact ⟨by decide, fun _ => rfl⟩
    · split
      · exact ⟨by decide, fun _ => rfl⟩
      · split
        · exact ⟨by decide, fun _ => rfl⟩
        · exact ⟨Nat.zero_le _, fun h => absurd rfl h⟩
theorem time_wf {m : Mb} (h : Wf Un (.named 3) m) : -9223372036854775808 ≤ m.f_Time ∧ m.f_Time ≤ 9223372036854775807 := by
  have h1 := (Wf.pairI (Wf.namedI h)).2
  have h2 : Wf Un (.int .i64) m.f_Time := (Wf.pairI h1).1
  have h3 := Wf.intI h2
  have e1 : IntKind.i64.min = -9223372036854775808 := by decide
  have e2 : IntKind.i64.max = 9223372036854775807 := by decide
  rw [e1, e2] at h3
  exact h3
def shortM (m : Mb) : Prop := m.f_Name.length ≤ 100 ∧ m.f_Content.length ≤ 1000
theorem long_loop (k : Nat) (l : List Mb) (hl : l.length ≤ 1000) : ∀ (r : List Mb) (fuel i : Nat), l.drop i = r → r.length < fuel → ∃ o, millwrightlaw03_long.l4 k l fuel (i : Int) = some o ∧ (o = .inr true ∨ (o = .inl () ∧ ∀ m ∈ r, shortM m))
  | _, 0, _, _, h => by omega
  | [], f + 1, i, hd, _ => by
    have := at_nil hd
    unfold millwrightlaw03_long.l4
    rw [if_neg (by simp; omega)]
    exact ⟨_, rfl, .inr ⟨rfl, by simp⟩⟩
  | m :: r, f + 1, i, hd, hf => by
    obtain ⟨g1, g2, g3⟩ := at_drop hd
    unfold millwrightlaw03_long.l4 millwrightlaw03_long.j12 millwrightlaw03_long.j8
    rw [if_pos (by simp; omega), g1, Option.bind_some]
    by_cases h1 : m.f_Name.length > 100
    · rw [if_pos (by simp; omega), if_pos rfl]; exact ⟨_, rfl, .inl rfl⟩
    · rw [if_neg (by simp; omega)]
      by_cases h2 : m.f_Content.length > 1000
      · rw [if_pos (by simp; omega)]; exact ⟨_, rfl, .inl rfl⟩
      · rw [if_neg (by simp; omega), wr1 (by omega)]
        obtain ⟨o, e1, e2⟩ := long_loop k l hl r f (i + 1) g2 (by simpa using hf)
        refine ⟨o, e1, e2.imp id fun h => ⟨h.1, fun x hx => ?_⟩⟩
        rcases List.mem_cons.1 hx with rfl | hx
        · exact ⟨by omega, by omega⟩
        · exact h.2 x hx
theorem long_eq (k : Nat) (hk : 4000 ≤ k) (l : List Mb) (n : Nat) (hn : n ≤ 1000) : ∃ b, millwrightlaw03_long.f k l (n : Int) = some b ∧ (b = false → l.length ≤ n ∧ ∀ m ∈ l, shortM m) := by
  unfold millwrightlaw03_long.f millwrightlaw03_long.j2
  by_cases h : l.length > n
  · rw [if_pos (by simp; omega)]; exact ⟨true, rfl, fun h => by cases h⟩
  · rw [if_neg (by simp; omega)]
    obtain ⟨o, e1, e2⟩ := long_loop k l (by omega) l k 0 rfl (by omega)
    rw [show (0 : Int) = ((0 : Nat) : Int) from rfl, e1, Option.bind_some]
    rcases e2 with rfl | ⟨rfl, h2⟩
    · exact ⟨true, rfl, fun h => by cases h⟩
    · exact ⟨false, rfl, fun _ => ⟨by omega, h2⟩⟩
theorem short_sm {l : List Mb} {n : Nat} (hn : n ≤ 1000) (h : l.length ≤ n ∧ ∀ m ∈ l, shortM m) (hw : Wf Un (.list (.named 3)) l) : SmL l :=
  ⟨by omega, fun m hm => ⟨by have := (h.2 m hm).1; omega, by have := (h.2 m hm).2; omega, time_wf ((Wf.listI hw).2 m hm)⟩⟩
theorem of_loop (k : Nat) (l : List Mb) (hl : SmL l) : ∀ (r : List Mb) (fuel i : Nat) (acc : List Mb), l.drop i = r → r.length < fuel → acc.length = i → millwrightlaw03_Of.l5 k l fuel acc (i : Int) = some (acc ++ r)
  | _, 0, _, _, _, h, _ => by omega
  | [], f + 1, i, acc, hd, _, _ => by
    have := at_nil hd
    unfold millwrightlaw03_Of.l5
    rw [if_neg (by simp; omega)]; simp
  | m :: r, f + 1, i, acc, hd, hf, ha => by
    obtain ⟨g1, g2, g3⟩ := at_drop hd
    have h1 := hl.1
    unfold millwrightlaw03_Of.l5
    rw [if_pos (by simp; omega), g1, Option.bind_some, if_pos (lim_ok (by omega)), wr1 (by omega), of_loop k l hl r f (i + 1) _ g2 (by simpa using hf) (by simp [ha]), List.append_assoc]
    rfl
theorem of_eq (k : Nat) (hk : 4000 ≤ k) (l : List Mb) (hl : SmL l) : millwrightlaw03_Of.f k l = some l := by
  have h1 := hl.1
  unfold millwrightlaw03_Of.f millwrightlaw03_Of.j2
  rw [show (0 : Int) = ((0 : Nat) : Int) from rfl, of_loop k l hl l k 0 [] rfl (by omega) rfl]; rfl
theorem at_loop (k : Nat) (l : List Mb) (x : Tx) (hl : l.length ≤ 2000) : ∀ (r : List Mb) (fuel i : Nat), l.drop i = r → r.length < fuel → ar_Member_34_m2.l3 k l x fuel (i : Int) = some (findS (fun m => m.f_Name == x) i r)
  | _, 0, _, _, h => by omega
  | [], f + 1, i, hd, _ => by
    have := at_nil hd
    unfold ar_Member_34_m2.l3
    rw [if_neg (by simp; omega)]; rfl
  | m :: r, f + 1, i, hd, hf => by
    obtain ⟨g1, g2, g3⟩ := at_drop hd
    unfold ar_Member_34_m2.l3 ar_at_1_m0.f
    rw [if_pos (by simp; omega), g1, Option.bind_some, Option.bind_some, wr1 (by omega), at_loop k l x hl r f (i + 1) g2 (by simpa using hf), findS_cons]
    cases m.f_Name == x <;> rfl
theorem at_eq (k : Nat) (hk : 4000 ≤ k) (l : List Mb) (x : Tx) (hl : l.length ≤ 2000) : ar_at.f k l x = some (posS (fun m => m.f_Name == x) l) := by
  unfold ar_at.f ar_Member_34_m2.f ar_Member_34_m2.j1
  rw [show (0 : Int) = ((0 : Nat) : Int) from rfl, at_loop k l x hl l k 0 rfl (by omega), Option.bind_some]
  unfold findS posS
  cases l.findIdx? _ <;> simp
/-- The member of a name. -/
def findM (l : List Mb) (x : Tx) : Mb × Bool := match l.find? (fun m => m.f_Name == x) with | some m => (m, true) | none => (T_ar_Member.mk [] 0 [], false)
theorem pos_find (p : Mb → Bool) : ∀ l : List Mb, (posS p l = -1 ∧ l.find? p = none) ∨ ∃ (j : Nat) (m : Mb), posS p l = (j : Int) ∧ l.find? p = some m ∧ l[j]? = some m
  | [] => .inl ⟨rfl, rfl⟩
  | m :: r => by
    unfold posS
    rw [List.findIdx?_cons, List.find?_cons]
    cases h : p m with
    | true => exact .inr ⟨0, m, rfl, rfl, rfl⟩
    | false =>
      rcases pos_find p r with ⟨h1, h2⟩ | ⟨j, x, h1, h2, h3⟩
      · refine .inl ⟨?_, h2⟩
        unfold posS at h1
        cases e : r.findIdx? p with
        | none => rfl
        | some j => rw [e] at h1; simp only at h1; omega
      · refine .inr ⟨j + 1, x, ?_, h2, h3⟩
        unfold posS at h1
        cases e : r.findIdx? p with
        | none => rw [e] at h1; simp only at h1; omega
        | some i => rw [e] at h1; simp only at h1; obtain rfl : i = j := by omega
                    rfl
theorem find_yes (k : Nat) (hk : 4000 ≤ k) {l : List Mb} {s : Tx} (h : makeS l = (s, 0)) (x : Tx) : ar_Find.f k s x = some (findM l x) := by
  have hl := (make_sm h).1.1
  unfold ar_Find.f ar_Find.j8 ar_Find.j5 findM
  rw [parse_yes k hk h, Option.bind_some]
  simp only
  rw [at_eq k hk l x (by omega), Option.bind_some, if_neg (by decide)]
  rcases pos_find (fun m => m.f_Name == x) l with ⟨h1, h2⟩ | ⟨j, m, h1, h2, h3⟩
  · rw [h1, h2, if_pos (by decide)]
  · have hj := (List.getElem?_eq_some_iff.1 h3).1
    have e3 : l[0 + (j : Int).toNat]? = some m := by rw [Nat.zero_add, Int.toNat_natCast]; exact h3
    rw [h1, h2, if_neg (by simp), if_pos ⟨by omega, by omega⟩, e3]; rfl
theorem find_no (k : Nat) (hk : 4000 ≤ k) {s : Tx} (hs : s.length ≤ 1800) (h : ¬ ∃ l, makeS l = (s, 0)) (x : Tx) : ar_Find.f k s x = some (T_ar_Member.mk [] 0 [], false) := by
  unfold ar_Find.f ar_Find.j8
  rw [parse_no k hk hs h, Option.bind_some]
  simp only
  rw [at_eq k hk [] x (by simp), Option.bind_some]
  rfl
theorem is_yes (k : Nat) (hk : 4000 ≤ k) {l : List Mb} {s : Tx} (h : makeS l = (s, 0)) : ar_Is.f k s = some true := by
  unfold ar_Is.f
  rw [parse_yes k hk h]; rfl
theorem is_no (k : Nat) (hk : 4000 ≤ k) {s : Tx} (hs : s.length ≤ 1800) (h : ¬ ∃ l, makeS l = (s, 0)) : ar_Is.f k s = some false := by
  unfold ar_Is.f
  rw [parse_no k hk hs h]; rfl
theorem eta (m : Mb) : T_ar_Member.mk m.f_Name m.f_Time m.f_Content = m := rfl
end Go.Proofs.YtgphmfcbhmmpiaaGreatDoor
