/- Archives: what is found by a name, and what is set. -/
import Derived.Test.YtcblgpcgdihcbaaGreatDoorK20ETVF
namespace Go.Proofs.YtcblgpcgdihcbaaGreatDoor.Ar
open Go Go.AM Go.ChangeShapes Go.ChangeAt Go.RowKit
set_option linter.unusedVariables false
set_option linter.unusedSimpArgs false
set_option maxRecDepth 100000
theorem at_loop (k : Nat) (l : List Mb) (x : Tx) (hl : l.length ≤ 2000) : ∀ (r : List Mb) (fuel i : Nat), l.drop i = r → r.length < fuel → ar_Member_90_m2.l3 k l x fuel (i : Int) = some (findS (fun m => m.f_Name == x) i r)
  | _, 0, _, _, h => by omega
  | [], f + 1, i, hd, _ => by
    have := at_nil hd
    unfold ar_Member_90_m2.l3
    rw [if_neg (by simp; omega)]; rfl
  | m :: r, f + 1, i, hd, hf => by
    obtain ⟨g1, g2, g3⟩ := at_drop hd
    unfold ar_Member_90_m2.l3 ar_at_1_m0.f
    rw [if_pos (by simp; omega), g1, Option.bind_some, Option.bind_some, wr1 (by omega), at_loop k l x hl r f (i + 1) g2 (by simpa using hf), findS_cons]
    cases m.f_Name == x <;> rfl
theorem at_eq (k : Nat) (hk : 4000 ≤ k) (l : List Mb) (x : Tx) (hl : l.length ≤ 2000) : ar_at.f k l x = some (posS (fun m => m.f_Name == x) l) := by
  unfold ar_at.f ar_Member_90_m2.f ar_Member_90_m2.j1
  rw [show (0 : Int) = ((0 : Nat) : Int) from rfl, at_loop k l x hl l k 0 rfl (by omega), Option.bind_some]
  unfold findS posS
  cases l.findIdx? _ <;> simp
def findM (l : List Mb) (x : Tx) : Mb × Bool := match l.find? (fun m => m.f_Name == x) with | some m => (m, true) | none => (T_ar_Member.mk [] 0 [], false)
theorem pos_find (p : Mb → Bool) : ∀ l : List Mb, (posS p l = -1 ∧ l.find? p = none) ∨ ∃ (j : Nat) (m : Mb), posS p l = (j : Int) ∧ l.find? p = some m ∧ l[j]? = some m
  | [] => .inl ⟨rfl, rfl⟩
  | m :: r => by
    unfold posS
    rw [List.findIdx?_cons, List.find?_cons]
    cases h : p m with
    | true => exact .inr ⟨0, m, rfl, rfl, rfl⟩
    | false =>
      rcases pos_find p r with ⟨h1, h2⟩ | ⟨j, x, h1, h2, h3⟩
      · refine .inl ⟨?_, h2⟩
        unfold posS at h1
        cases e : r.findIdx? p with
        | none => rfl
        | some j => rw [e] at h1; simp only at h1; omega
      · refine .inr ⟨j + 1, x, ?_, h2, h3⟩
        unfold posS at h1
        cases e : r.findIdx? p with
        | none => rw [e] at h1; simp only at h1; omega
        | some i => rw [e] at h1; simp only at h1; obtain rfl : i = j := by omega
                    rfl
theorem find_yes (k : Nat) (hk : 4000 ≤ k) {l : List Mb} {s : Tx} (h : makeS l = (s, 0)) (x : Tx) : ar_Find.f k s x = some (findM l x) := by
  have hl := (make_sm h).1.1
  unfold ar_Find.f ar_Find.j8 ar_Find.j5 findM
  rw [parse_yes k hk h, Option.bind_some]
  simp only
  rw [at_eq k hk l x (by omega), Option.bind_some, if_neg (by decide)]
  rcases pos_find (fun m => m.f_Name == x) l with ⟨h1, h2⟩ | ⟨j, m, h1, h2, h3⟩
  · rw [h1, h2, if_pos (by decide)]
  · have hj := (List.getElem?_eq_some_iff.1 h3).1
    have e3 : l[0 + (j : Int).toNat]? = some m := by rw [Nat.zero_add, Int.toNat_natCast]; exact h3
    rw [h1, h2, if_neg (by simp), if_pos ⟨by omega, by omega⟩, e3]; rfl
theorem find_no (k : Nat) (hk : 4000 ≤ k) {s : Tx} (hs : s.length ≤ 1800) (h : ¬ ∃ l, makeS l = (s, 0)) (x : Tx) : ar_Find.f k s x = some (T_ar_Member.mk [] 0 [], false) := by
  unfold ar_Find.f ar_Find.j8
  rw [parse_no k hk hs h, Option.bind_some]
  simp only
  rw [at_eq k hk [] x (by simp), Option.bind_some]
  rfl
theorem eta (m : Mb) : T_ar_Member.mk m.f_Name m.f_Time m.f_Content = m := rfl
def putS (l : List Mb) (m : Mb) : List Mb := match l.findIdx? (fun x => x.f_Name == m.f_Name) with | some j => l.set j m | none => l ++ [m]
theorem put_cases (l : List Mb) (m : Mb) : (∃ (j : Nat) (x : Mb), l[j]? = some x ∧ x.f_Name = m.f_Name ∧ posS (fun x => x.f_Name == m.f_Name) l = (j : Int) ∧ putS l m = l.set j m) ∨ ((∀ x ∈ l, x.f_Name ≠ m.f_Name) ∧ posS (fun x => x.f_Name == m.f_Name) l = -1 ∧ putS l m = l ++ [m]) := by
  unfold posS putS
  cases h : l.findIdx? (fun x => x.f_Name == m.f_Name) with
  | none =>
    refine .inr ⟨fun x hx e => ?_, rfl, rfl⟩
    have := List.findIdx?_eq_none_iff.1 h x hx
    simp [e] at this
  | some j =>
    obtain ⟨hj, hp, _⟩ := List.findIdx?_eq_some_iff_getElem.1 h
    exact .inl ⟨j, l[j], List.getElem?_eq_getElem hj, by simpa using hp, rfl, rfl⟩
theorem put_mem {l : List Mb} {m x : Mb} (h : x ∈ putS l m) : x ∈ l ∨ x = m := by
  rcases put_cases l m with ⟨j, y, hj, hy, _, e⟩ | ⟨_, _, e⟩
  · rw [e] at h; exact List.mem_or_eq_of_mem_set h
  · rw [e] at h
    rcases List.mem_append.1 h with h | h
    · exact .inl h
    · exact .inr (List.mem_singleton.1 h)
theorem put_len (l : List Mb) (m : Mb) : (putS l m).length ≤ l.length + 1 := by
  rcases put_cases l m with ⟨j, y, hj, hy, _, e⟩ | ⟨h, _, e⟩
  · rw [e]; simp
  · rw [e]; simp
theorem put_sm {l : List Mb} {m : Mb} (hl : SmL l) (h9 : l.length ≤ 900) (hm : Sm m) : SmL (putS l m) :=
  ⟨by have := put_len l m; omega, fun x hx => by
    rcases put_mem hx with h | rfl
    · exact hl.2 x h
    · exact hm⟩
theorem set_on (k : Nat) (hk : 4000 ≤ k) (l : List Mb) (e : Nat) (hl : SmL l) (h9 : l.length ≤ 900) (m : Mb) (hm : Sm m) : ar_Set.j10 k m (l, e) = some (makeS (putS l m)) := by
  have hp := make_code k hk _ (put_sm hl h9 hm)
  unfold ar_Set.j10
  simp only
  rw [at_eq k hk l _ (by omega), Option.bind_some]
  rcases put_cases l m with ⟨j, y, hj, hy, h1, h2⟩ | ⟨h, h1, h2⟩
  · have hjl := (List.getElem?_eq_some_iff.1 hj).1
    have e3 : l[0 + (j : Int).toNat]? = some y := by rw [Nat.zero_add, Int.toNat_natCast]; exact hj
    rw [h2] at hp
    unfold ar_Set.j4 upd
    rw [h1, if_pos (by simp), if_pos ⟨by omega, by omega⟩, e3, Option.bind_some, Nat.zero_add, Int.toNat_natCast, eta, hp, h2]; rfl
  · rw [h2] at hp
    unfold ar_Set.j4
    rw [h1, if_neg (by decide), if_pos (lim_ok (by omega)), eta, hp, h2]; rfl
theorem set_yes (k : Nat) (hk : 4000 ≤ k) {l : List Mb} {s : Tx} (h : makeS l = (s, 0)) (m : Mb) (hm : Sm m) : ar_Set.f k s m = some (makeS (putS l m)) := by
  have hsm := (make_sm h).1
  obtain ⟨_, _, _, _, h9, _⟩ := make_ok h
  have hl9 : l.length ≤ 900 := by
    have : ∀ l : List Mb, l.length ≤ tot l := fun l => by
      induction l with
      | nil => simp
      | cons m r ih => rw [tot, List.length_cons]; unfold sizeS; omega
    have := this l; omega
  unfold ar_Set.f ar_Set.j13
  rw [parse_yes k hk h, Option.bind_some]
  simp only
  rw [if_neg (by decide), if_neg (by decide), set_on k hk l 0 hsm hl9 m hm]
theorem not_arc {s : Tx} (h : s.length < 8) : ¬ ∃ l, makeS l = (s, 0) := fun ⟨l, hl⟩ => by
  have := make_len hl
  omega
theorem set_nil (k : Nat) (hk : 4000 ≤ k) (m : Mb) (hm : Sm m) : ar_Set.f k [] m = some (makeS [m]) := by
  unfold ar_Set.f ar_Set.j13
  rw [parse_no k hk (by simp) (not_arc (by simp)), Option.bind_some]
  simp only
  rw [if_pos (by decide), if_neg (by decide), set_on k hk [] 3 ⟨by simp, by simp⟩ (by simp) m hm]; rfl
end Go.Proofs.YtcblgpcgdihcbaaGreatDoor.Ar
