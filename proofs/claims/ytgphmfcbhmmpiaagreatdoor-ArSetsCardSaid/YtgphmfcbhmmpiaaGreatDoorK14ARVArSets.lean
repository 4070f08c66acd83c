/- The law ArSets, without any program in sight. -/
import Derived.Test.YtgphmfcbhmmpiaaGreatDoorK14ARVArParses
import Derived.Test.YtgphmfcbhmmpiaaGreatDoorK14AmU
namespace Go.Proofs.YtgphmfcbhmmpiaaGreatDoor
open Go Go.AM Go.ChangeShapes Go.ChangeAt Go.RowKit
set_option linter.unusedVariables false
set_option linter.unusedSimpArgs false
set_option maxRecDepth 100000
/-- A list of members with a member put in its name's place. -/
def putS (l : List Mb) (m : Mb) : List Mb := match l.findIdx? (fun x => x.f_Name == m.f_Name) with | some j => l.set j m | none => l ++ [m]
theorem put_cases (l : List Mb) (m : Mb) : (∃ (j : Nat) (x : Mb), l[j]? = some x ∧ x.f_Name = m.f_Name ∧ posS (fun x => x.f_Name == m.f_Name) l = (j : Int) ∧ putS l m = l.set j m) ∨ ((∀ x ∈ l, x.f_Name ≠ m.f_Name) ∧ posS (fun x => x.f_Name == m.f_Name) l = -1 ∧ putS l m = l ++ [m]) := by
  unfold posS putS
  cases h : l.findIdx? (fun x => x.f_Name == m.f_Name) with
  | none =>
    refine .inr ⟨fun x hx e => ?_, rfl, rfl⟩
    have := List.findIdx?_eq_none_iff.1 h x hx
    simp [e] at this
  | some j =>
    obtain ⟨hj, hp, _⟩ := List.findIdx?_eq_some_iff_getElem.1 h
    exact .inl ⟨j, l[j], List.getElem?_eq_getElem hj, by simpa using hp, rfl, rfl⟩
theorem put_mem {l : List Mb} {m x : Mb} (h : x ∈ putS l m) : x ∈ l ∨ x = m := by
  rcases put_cases l m with ⟨j, y, hj, hy, _, e⟩ | ⟨_, _, e⟩
  · rw [e] at h; exact List.mem_or_eq_of_mem_set h
  · rw [e] at h
    rcases List.mem_append.1 h with h | h
    · exact .inl h
    · exact .inr (List.mem_singleton.1 h)
theorem put_self (l : List Mb) (m : Mb) : m ∈ putS l m := by
  rcases put_cases l m with ⟨j, y, hj, hy, _, e⟩ | ⟨_, _, e⟩
  · rw [e]; exact List.mem_set (List.getElem?_eq_some_iff.1 hj).1 m
  · rw [e]; simp
theorem put_other {l : List Mb} {m x : Mb} (hx : x ∈ l) (hne : x.f_Name ≠ m.f_Name) : x ∈ putS l m := by
  rcases put_cases l m with ⟨j, y, hj, hy, _, e⟩ | ⟨_, _, e⟩
  · rw [e]
    obtain ⟨i, hi, rfl⟩ := List.getElem_of_mem hx
    have hij : j ≠ i := fun h => by
      subst h
      rw [List.getElem?_eq_getElem hi] at hj
      exact hne (by rw [Option.some.inj hj]; exact hy)
    exact List.mem_iff_getElem.2 ⟨i, by simpa using hi, by rw [List.getElem_set_ne hij]⟩
  · rw [e]; exact List.mem_append_left _ hx
theorem set_same {α : Type} {l : List α} {j : Nat} {x : α} (h : l[j]? = some x) : l.set j x = l := by
  refine List.ext_getElem? fun i => ?_
  rw [List.getElem?_set]
  split
  · rename_i e; subst e
    split
    · exact h.symm
    · rename_i hl; rw [List.getElem?_eq_none (by omega)]
  · rfl
theorem put_nodup {l : List Mb} {m : Mb} (hn : (l.map (·.f_Name)).Nodup) : ((putS l m).map (·.f_Name)).Nodup := by
  rcases put_cases l m with ⟨j, y, hj, hy, _, e⟩ | ⟨h, _, e⟩
  · rw [e, List.map_set, set_same]
    · exact hn
    · rw [List.getElem?_map, hj, ← hy]; rfl
  · rw [e, List.map_append, List.nodup_append]
    refine ⟨hn, by simp, fun a ha b hb => ?_⟩
    obtain ⟨x, hx, rfl⟩ := List.mem_map.1 ha
    obtain rfl : b = m.f_Name := by simpa using hb
    exact h x hx
theorem put_len (l : List Mb) (m : Mb) : (putS l m).length ≤ l.length + 1 := by
  rcases put_cases l m with ⟨j, y, hj, hy, _, e⟩ | ⟨h, _, e⟩
  · rw [e]; simp
  · rw [e]; simp
theorem tot_app (a b : List Mb) : tot (a ++ b) = tot a + tot b := by
  induction a with
  | nil => simp [tot]
  | cons m r ih => rw [List.cons_append, tot, tot, ih]; omega
theorem tot_set : ∀ (l : List Mb) (j : Nat) (m : Mb), tot (l.set j m) ≤ tot l + sizeS m
  | [], _, m => by simp [tot]
  | x :: r, 0, m => by rw [List.set_cons_zero, tot, tot]; omega
  | x :: r, j + 1, m => by
    have := tot_set r j m
    rw [List.set_cons_succ, tot, tot]; omega
theorem put_tot (l : List Mb) (m : Mb) : tot (putS l m) ≤ tot l + sizeS m := by
  rcases put_cases l m with ⟨j, y, hj, hy, _, e⟩ | ⟨h, _, e⟩
  · rw [e]; exact tot_set _ _ _
  · rw [e, tot_app]; simp [tot]
theorem tot_mem {m : Mb} : ∀ {ms : List Mb}, m ∈ ms → sizeS m ≤ tot ms
  | x :: r, hm => by
    rw [tot]
    rcases List.mem_cons.1 hm with rfl | hm
    · omega
    · have := tot_mem hm; omega
theorem put_sm {l : List Mb} {m : Mb} (hl : SmL l) (h9 : l.length ≤ 900) (hm : Sm m) : SmL (putS l m) :=
  ⟨by have := put_len l m; omega, fun x hx => by
    rcases put_mem hx with h | rfl
    · exact hl.2 x h
    · exact hm⟩
theorem set_on (k : Nat) (hk : 4000 ≤ k) (l : List Mb) (e : Nat) (hl : SmL l) (h9 : l.length ≤ 900) (m : Mb) (hm : Sm m) : ar_Set.j10 k m (l, e) = some (makeS (putS l m)) := by
  have hp := make_code k hk _ (put_sm hl h9 hm)
  unfold ar_Set.j10
  simp only
  rw [at_eq k hk l _ (by omega), Option.bind_some]
  rcases put_cases l m with ⟨j, y, hj, hy, h1, h2⟩ | ⟨h, h1, h2⟩
  · have hjl := (List.getElem?_eq_some_iff.1 hj).1
    have e3 : l[0 + (j : Int).toNat]? = some y := by rw [Nat.zero_add, Int.toNat_natCast]; exact hj
    rw [h2] at hp
    unfold ar_Set.j4 upd
    rw [h1, if_pos (by simp), if_pos ⟨by omega, by omega⟩, e3, Option.bind_some, Nat.zero_add, Int.toNat_natCast, eta, hp, h2]; rfl
  · rw [h2] at hp
    unfold ar_Set.j4
    rw [h1, if_neg (by decide), if_pos (lim_ok (by omega)), eta, hp, h2]; rfl
theorem set_yes (k : Nat) (hk : 4000 ≤ k) {l : List Mb} {s : Tx} (h : makeS l = (s, 0)) (m : Mb) (hm : Sm m) : ar_Set.f k s m = some (makeS (putS l m)) := by
  have hsm := (make_sm h).1
  obtain ⟨_, _, _, _, h9, _⟩ := make_ok h
  have hl9 : l.length ≤ 900 := by
    have : ∀ l : List Mb, l.length ≤ tot l := fun l => by
      induction l with
      | nil => simp
      | cons m r ih => rw [tot, List.length_cons]; unfold sizeS; omega
    have := this l; omega
  unfold ar_Set.f ar_Set.j13
  rw [parse_yes k hk h, Option.bind_some]
  simp only
  rw [if_neg (by decide), if_neg (by decide), set_on k hk l 0 hsm hl9 m hm]
theorem not_arc {s : Tx} (h : s.length < 8) : ¬ ∃ l, makeS l = (s, 0) := fun ⟨l, hl⟩ => by
  have := make_len hl
  omega
theorem set_nil (k : Nat) (hk : 4000 ≤ k) (m : Mb) (hm : Sm m) : ar_Set.f k [] m = some (makeS [m]) := by
  unfold ar_Set.f ar_Set.j13
  rw [parse_no k hk (by simp) (not_arc (by simp)), Option.bind_some]
  simp only
  rw [if_pos (by decide), if_neg (by decide), set_on k hk [] 3 ⟨by simp, by simp⟩ (by simp) m hm]; rfl
theorem set_x (k : Nat) (hk : 4000 ≤ k) (m : Mb) : ar_Set.f k [120] m = some ([], 3) := by
  unfold ar_Set.f ar_Set.j13
  rw [parse_no k hk (by simp) (not_arc (by simp)), Option.bind_some]
  rfl
/-- Why a member cannot be set. -/
theorem put_err {l : List Mb} {s : Tx} (h : makeS l = (s, 0)) (m : Mb) (hb : (makeS (putS l m)).2 ≠ 0) (h1 : namedS m.f_Name = true) (h2 : timedS m.f_Time = true) : s.length + sizeS m > 900 := by
  obtain ⟨_, n1, n2, n3, _, _, _⟩ := make_ok h
  have hlen := make_len h
  have hp := put_tot l m
  have e1 : ((putS l m).any fun m => !namedS m.f_Name) = false := by
    rw [List.any_eq_false]
    intro x hx
    rcases put_mem hx with hx | rfl
    · rw [n1 x hx]; decide
    · rw [h1]; decide
  have e2 : ((putS l m).any fun m => !timedS m.f_Time) = false := by
    rw [List.any_eq_false]
    intro x hx
    rcases put_mem hx with hx | rfl
    · rw [n2 x hx]; decide
    · rw [h2]; decide
  have e3 : (!decide ((putS l m).map (·.f_Name)).Nodup) = false := by simpa using put_nodup n3
  unfold makeS at hb
  rw [e1, e2, e3, if_neg (by decide), if_neg (by decide), if_neg (by decide)] at hb
  apply Classical.byContradiction
  intro hn
  rw [if_neg (by omega)] at hb
  exact hb rfl
theorem sets_loop (k : Nat) (hk : 4000 ≤ k) (l : List Mb) (m : Mb) {t : Tx} (h : makeS (putS l m) = (t, 0)) (hl : l.length ≤ 1000) : ∀ (r : List Mb) (fuel i : Nat), l.drop i = r → r.length < fuel → millwrightlaw03_ArSets.l23 k l m (t, 0) fuel (i : Int) = some (.inl ())
  | _, 0, _, _, h => by omega
  | [], f + 1, i, hd, _ => by
    have := at_nil hd
    unfold millwrightlaw03_ArSets.l23
    rw [if_neg (by simp; omega)]
  | x :: r, f + 1, i, hd, hf => by
    obtain ⟨g1, g2, g3⟩ := at_drop hd
    have hx : x ∈ l := List.mem_of_mem_drop (by rw [hd]; simp)
    obtain ⟨_, _, _, hn, _⟩ := make_ok h
    have ih := sets_loop k hk l m h hl r f (i + 1) g2 (by simpa using hf)
    unfold millwrightlaw03_ArSets.l23 millwrightlaw03_ArSets.j32 millwrightlaw03_ArSets.j27
    simp only
    rw [if_pos (by simp; omega), g1, Option.bind_some, find_yes k hk h, Option.bind_some, wr1 (by omega), ih]
    by_cases hne : x.f_Name = m.f_Name
    · rw [if_neg (by simp [hne]), if_neg (by decide)]
    · rw [if_pos (by simpa using hne), findM_mem hn (put_other hx hne), if_neg (by simp), if_neg (by simp)]
theorem arSets_true (a0 : List Mb) (a1 : Mb) (hw : Wf Un (.list (.named 3)) a0) (hw1 : Wf Un (.named 3) a1) : ∃ k, millwrightlaw03_ArSets.f k a0 a1 = some true := by
  refine ⟨4000, ?_⟩
  have ali : millwrightlaw03_alive.f 4000 = some true := by decide +kernel
  unfold millwrightlaw03_ArSets.f millwrightlaw03_ArSets.j45
  rw [ali, Option.bind_some, if_neg (by decide)]
  obtain ⟨b, e1, e2⟩ := long_eq 4000 (by omega) a0 20 (by omega)
  have e1 : millwrightlaw03_long.f 4000 a0 20 = some b := e1
  obtain ⟨c, f1, f2⟩ := long_eq 4000 (by omega) [a1] 1 (by omega)
  have f1 : millwrightlaw03_long.f 4000 [T_ar_Member.mk a1.f_Name a1.f_Time a1.f_Content] 1 = some c := f1
  rw [e1, Option.bind_some, f1, Option.bind_some]
  cases b with
  | true => rfl
  | false =>
    cases c with
    | true => rfl
    | false =>
      have hsm := short_sm (by omega) (e2 rfl) hw
      have hl := hsm.1
      have hs1 := (f2 rfl).2 a1 (by simp)
      have hm : Sm a1 := ⟨by have := hs1.1; omega, by have := hs1.2; omega, time_wf hw1⟩
      rw [if_neg (by decide), if_neg (by decide)]
      unfold millwrightlaw03_ArSets.j42
      rw [make_code 4000 (by omega) a0 hsm, Option.bind_some]
      by_cases h0 : (makeS a0).2 = 0
      · have hk : makeS a0 = ((makeS a0).1, 0) := by rw [← h0]
        rw [if_neg (by rw [h0]; decide), eta, set_yes 4000 (by omega) hk a1 hm, Option.bind_some]
        by_cases h1 : (makeS (putS a0 a1)).2 = 0
        · have hp : makeS (putS a0 a1) = ((makeS (putS a0 a1)).1, 0) := by rw [← h1]
          obtain ⟨_, n1, n2, hn, h9, _, _⟩ := make_ok hp
          have hps := put_self a0 a1
          rw [if_neg (by rw [h1]; decide), find_yes 4000 (by omega) hp, Option.bind_some, findM_mem hn hps]
          unfold millwrightlaw03_ArSets.j40 millwrightlaw03_ArSets.j37
          simp only
          have hloop := sets_loop 4000 (by omega) a0 a1 hp (by omega) a0 4000 0 rfl (by omega)
          rw [← hp] at hloop
          have hone : makeS [a1] = (magic ++ body [a1], 0) := by
            have ht := tot_mem hps
            unfold makeS
            rw [if_neg (by simp [n1 a1 hps]), if_neg (by simp [n2 a1 hps]), if_neg (by simp), if_neg (by simp only [tot]; omega)]
          rw [if_neg (by decide), if_neg (by simp), show (0 : Int) = ((0 : Nat) : Int) from rfl, hloop, Option.bind_some]
          unfold millwrightlaw03_ArSets.j21
          simp only
          rw [eta, set_nil 4000 (by omega) a1 hm, Option.bind_some, set_x 4000 (by omega), Option.bind_some, make_code 4000 (by omega) [a1] ⟨by simp, by simpa using hm⟩, Option.bind_some, hone]
          simp only
          rw [if_pos (by decide), if_pos (by decide), if_pos (by simp), num_e (by omega)]; rfl
        · have hnil := (make_err (putS a0 a1)).2 h1
          have hsz := size_eq 4000 a1 hm
          rw [if_pos (by simpa using h1), if_pos (by rw [hnil]; rfl), refNamed_eq 4000 _ (by have := hm.1; omega) (by have := hm.1; omega), Option.bind_some]
          by_cases q1 : namedS a1.f_Name = true
          · rw [if_neg (by rw [q1]; decide)]
            by_cases q2 : a1.f_Time < 1
            · rw [if_pos (by simpa using q2)]
            · rw [if_neg (by simpa using q2)]
              by_cases q3 : a1.f_Time > 549755813888
              · rw [if_pos (by simpa using q3)]
              · rw [if_neg (by simpa using q3), hsz, Option.bind_some]
                have := put_err hk a1 h1 q1 (by simp [timedS]; omega)
                have hb := make_len hk
                have h9 := (make_ok hk).2.2.2.2.1
                have h2 := hm.2.1
                have hss : sizeS a1 ≤ 3000 := by unfold sizeS; omega
                rw [w64 (by omega) (by omega)]
                congr 1
                simp; omega
          · rw [if_pos (by simpa using q1)]
      · have hnil := (make_err a0).2 h0
        rw [if_pos (by simpa using h0), hnil]; rfl
end Go.Proofs.YtgphmfcbhmmpiaaGreatDoor
