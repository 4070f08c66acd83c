/- Archives parsed: a text is an archive just if members make it. -/
import Derived.Test.YtcblgpcgdihcbaaGreatDoorK20ETVD
namespace Go.Proofs.YtcblgpcgdihcbaaGreatDoor.Ar
open Go Go.AM Go.ChangeShapes Go.ChangeAt Go.RowKit
set_option linter.unusedVariables false
set_option linter.unusedSimpArgs false
set_option maxRecDepth 100000
def cut (r : Tx) (a b : Nat) : Tx := (r.take b).drop a
theorem cut_len {r : Tx} {a b : Nat} (h : b ≤ r.length) : (cut r a b).length = b - a := by simp [cut]; omega
theorem cut_skip {x y : Tx} {a b : Nat} (h : x.length ≤ a) (h2 : a ≤ b) : cut (x ++ y) a b = cut y (a - x.length) (b - x.length) := by
  unfold cut
  rw [List.take_append, List.drop_append, List.drop_of_length_le (by simp; omega), List.nil_append]
  congr 1
  simp; omega
theorem cut_here {x y : Tx} {n : Nat} (h : x.length = n) : cut (x ++ y) 0 n = x := by subst h; simp [cut]
theorem sub_cut {s r : Tx} {i a b : Nat} {u v : Int} (hd : s.drop i = r) (hi : i ≤ s.length) (eu : u = ((i + a : Nat) : Int)) (ev : v = ((i + b : Nat) : Int)) (hab : a ≤ b) (hb : b ≤ r.length) : sub s u v = some (cut r a b) := by
  have hl : r.length = s.length - i := by rw [← hd]; simp
  rw [sub_at eu ev (by omega) (by omega)]
  congr 1
  unfold cut
  rw [← hd, List.take_drop, List.drop_drop]
def Good (m : Mb) : Prop := Fits m ∧ m.f_Name.getLast? ≠ some 32 ∧ -9223372036854775808 ≤ m.f_Time ∧ m.f_Time ≤ 9223372036854775807
theorem dec_lt {n w : Nat} (h : (Lib.decDigits n).length ≤ w) : n < 10 ^ w := by
  obtain ⟨h1, h2, h3, _, _⟩ := dec_fig n
  have := val_lt _ 0 0 (by decide) h1
  rw [h3, Nat.zero_add] at this
  exact Nat.lt_of_lt_of_le this (Nat.pow_le_pow_right (by omega) h)
def cutS (s p : Tx) : Tx × Bool := if p.length ≤ s.length ∧ s.take p.length = p then (s.drop p.length, true) else (s, false)
theorem cutp_eq (k : Nat) (s p : Tx) (hs : s.length ≤ 100000) (hp : p.length ≤ 100000) : strings_CutPrefix.f k s p = some (cutS s p) := by
  unfold strings_CutPrefix.f stringslite_CutPrefix.f stringslite_HasPrefix.f cutS
  by_cases h : p.length ≤ s.length
  · rw [if_pos (by simp; omega), sub_to rfl rfl h, Option.bind_some, Option.bind_some]
    by_cases e : s.take p.length = p
    · rw [if_neg (by rw [e]; simp), sub_from rfl rfl h, if_pos ⟨h, e⟩]; rfl
    · rw [if_pos (by simpa using e), if_neg (fun h' => e h'.2)]; rfl
  · rw [if_neg (by simp; omega), Option.bind_some, if_pos (by simp), if_neg (fun h' => h h'.1)]; rfl
theorem cutS_app (p r : Tx) : cutS (p ++ r) p = (r, true) := by
  unfold cutS
  rw [if_pos ⟨by simp, by simp⟩]; simp
theorem cutS_true {s p r : Tx} (h : cutS s p = (r, true)) : s = p ++ r := by
  unfold cutS at h
  split at h
  · rename_i h1
    injection h with h2 _
    have := List.take_append_drop p.length s
    rw [h1.2, h2] at this
    exact this.symm
  · injection h with _ h; cases h
def firstS (r : Tx) : Mb × Tx × Bool :=
  if r.length < 60 then (T_ar_Member.mk [] 0 [], [], false)
  else if numS (cut r 48 58) < 0 ∨ numS (cut r 48 58) > (r.length : Int) - 60 then (T_ar_Member.mk [] 0 [], [], false)
  else (T_ar_Member.mk (Lib.trimRightB (cut r 0 16) 32) (numS (cut r 16 28)) (cut r 60 (60 + (numS (cut r 48 58)).toNat)),
    cutS r (oneS (T_ar_Member.mk (Lib.trimRightB (cut r 0 16) 32) (numS (cut r 16 28)) (cut r 60 (60 + (numS (cut r 48 58)).toNat)))))
theorem first_sm (r : Tx) (hr : r.length ≤ 1900) (h60 : 60 ≤ r.length) (n : Nat) : Sm (T_ar_Member.mk (Lib.trimRightB (cut r 0 16) 32) (numS (cut r 16 28)) (cut r 60 (60 + n))) := by
  have h1 := trim_le (cut r 0 16)
  rw [cut_len (by omega)] at h1
  have h2 : (cut r 60 (60 + n)).length ≤ 2000 := by simp [cut]; omega
  have h3 := num_len (cut r 16 28) (by rw [cut_len (by omega)]; omega)
  exact ⟨by show (Lib.trimRightB (cut r 0 16) 32).length ≤ 2000; omega, h2, h3.2⟩
theorem first_eq (k : Nat) (r : Tx) (hr : r.length ≤ 1900) : ar_first.f k r = some (firstS r) := by
  unfold ar_first.f firstS
  by_cases h60 : r.length < 60
  · rw [if_pos (by simp; omega), if_pos h60]
  · rw [if_neg (by simp; omega), if_neg h60]
    have s1 : sub r 0 16 = some (cut r 0 16) := sub_cut (i := 0) rfl (Nat.zero_le _) rfl rfl (by omega) (by omega)
    have s2 : sub r 16 28 = some (cut r 16 28) := sub_cut (i := 0) rfl (Nat.zero_le _) rfl rfl (by omega) (by omega)
    have s3 : sub r 48 58 = some (cut r 48 58) := sub_cut (i := 0) rfl (Nat.zero_le _) rfl rfl (by omega) (by omega)
    have ht : pTrimRight.f k (cut r 0 16) [32] = some (Lib.trimRightB (cut r 0 16) 32) := by
      unfold pTrimRight.f
      simp only
      rw [if_pos ⟨by decide, by rw [cut_len (by omega)]; omega⟩]
    rw [s1, Option.bind_some, ht, Option.bind_some, s2, Option.bind_some, number_eq k _ (by rw [cut_len (by omega)]; omega), Option.bind_some, s3, Option.bind_some, number_eq k _ (by rw [cut_len (by omega)]; omega), Option.bind_some]
    have hw : IntKind.i64.wrap ((r.length : Int) - 60) = (r.length : Int) - 60 := w64 (by omega) (by omega)
    unfold ar_first.j14 ar_first.j11
    by_cases hn : numS (cut r 48 58) < 0
    · rw [if_pos (by simpa using hn), if_pos (by rfl), if_pos (.inl hn)]
    · rw [if_neg (by simpa using hn), hw]
      by_cases hg : numS (cut r 48 58) > (r.length : Int) - 60
      · rw [if_pos (by simpa using hg), if_pos (.inr hg)]
      · obtain ⟨n, en⟩ := Int.eq_ofNat_of_zero_le (show 0 ≤ numS (cut r 48 58) by omega)
        rw [if_neg (by simpa using hg), if_neg (by rintro (h | h) <;> omega), en, Int.toNat_natCast]
        rw [en] at hg
        have hsm := first_sm r hr (by omega) n
        have ho := one_le _ hsm
        have s4 : sub r 60 (IntKind.i64.wrap (60 + (n : Int))) = some (cut r 60 (60 + n)) := sub_cut (i := 0) rfl (Nat.zero_le _) rfl (by rw [w64 (by omega) (by omega)]; omega) (by omega) (by omega)
        rw [s4, Option.bind_some, bytes_eq k _ hsm, Option.bind_some, cutp_eq k _ _ (by omega) (by omega)]
        rfl
theorem first_one {m : Mb} (hg : Good m) (ht : 0 ≤ m.f_Time) (r' : Tx) : firstS (oneS m ++ r') = (m, r', true) := by
  obtain ⟨⟨f1, f2, f3⟩, hl, _, _⟩ := hg
  obtain ⟨t, et⟩ := Int.eq_ofNat_of_zero_le ht
  have ei : Lib.itoa m.f_Time = Lib.decDigits t := by rw [et]; exact itoa_nat t
  have l1 := fld_len f1
  have l2 := fld_len f2
  have l3 := fld_len f3
  have ho : (oneS m ++ r').length = sizeS m + r'.length := by rw [List.length_append, one_len m ⟨f1, f2, f3⟩]
  have hsz : sizeS m = 60 + m.f_Content.length + m.f_Content.length % 2 := rfl
  have er : oneS m ++ r' = fld 16 m.f_Name ++ (fld 12 (Lib.itoa m.f_Time) ++ (owner ++ (fld 10 (Lib.decDigits m.f_Content.length) ++ (mend ++ (m.f_Content ++ (pad m.f_Content.length ++ r')))))) := by
    simp only [oneS, List.append_assoc]
  have c1 : cut (oneS m ++ r') 0 16 = fld 16 m.f_Name := by rw [er]; exact cut_here l1
  have c2 : cut (oneS m ++ r') 16 28 = fld 12 (Lib.itoa m.f_Time) := by
    rw [er, cut_skip (by omega) (by omega), l1]; exact cut_here l2
  have c3 : cut (oneS m ++ r') 48 58 = fld 10 (Lib.decDigits m.f_Content.length) := by
    rw [er, cut_skip (by omega) (by omega), cut_skip (by omega) (by omega), cut_skip (by rw [l1, l2]; simp) (by omega), l1, l2]; exact cut_here l3
  have c4 : cut (oneS m ++ r') 60 (60 + m.f_Content.length) = m.f_Content := by
    rw [er, cut_skip (by omega) (by omega), cut_skip (by omega) (by omega), cut_skip (by rw [l1, l2]; simp) (by omega), cut_skip (by rw [l1, l2, l3]; simp) (by omega), cut_skip (by rw [l1, l2, l3]; simp) (by omega), l1, l2, l3]
    exact cut_here (by simp; omega)
  have n1 : numS (cut (oneS m ++ r') 16 28) = m.f_Time := by
    rw [c2, ei, num_fld (Nat.lt_trans (dec_lt (by rw [← ei]; exact f2)) (by decide)), et]
  have n2 : numS (cut (oneS m ++ r') 48 58) = (m.f_Content.length : Int) := by
    rw [c3, num_fld (Nat.lt_trans (dec_lt f3) (by decide))]
  unfold firstS
  rw [if_neg (by omega), n2, if_neg (by omega), n1, c1, trim_fld 16 hl, Int.toNat_natCast, c4]
  show (m, cutS (oneS m ++ r') (oneS m)) = _
  rw [cutS_app]
theorem first_true {r r' : Tx} {m : Mb} (h : firstS r = (m, r', true)) : Good m ∧ r = oneS m ++ r' := by
  unfold firstS at h
  split at h
  · cases h
  · split at h
    · cases h
    · rename_i h60 hn
      injection h with hm hc
      have h1 := trim_le (cut r 0 16)
      rw [cut_len (by omega)] at h1
      have h2 := num_len (cut r 16 28) (by rw [cut_len (by omega)]; omega)
      have h3 := num_len (cut r 48 58) (by rw [cut_len (by omega)]; omega)
      rw [cut_len (by omega)] at h2 h3
      obtain ⟨n, en⟩ := Int.eq_ofNat_of_zero_le (show 0 ≤ numS (cut r 48 58) by omega)
      rw [en] at hm hc h3 hn
      rw [itoa_nat] at h3
      simp only [Int.toNat_natCast] at hm hc
      rw [hm] at hc
      have hcl : (cut r 60 (60 + n)).length = n := by rw [cut_len (by omega)]; omega
      subst hm
      exact ⟨⟨⟨by show (Lib.trimRightB (cut r 0 16) 32).length ≤ 16; omega, by show (Lib.itoa (numS (cut r 16 28))).length ≤ 12; omega, by show (Lib.decDigits (cut r 60 (60 + n)).length).length ≤ 10; rw [hcl]; omega⟩, trim_last _, h2.2⟩, cutS_true hc⟩
theorem one_ge {m : Mb} (hg : Good m) : 60 ≤ (oneS m).length := by rw [one_len m hg.1]; unfold sizeS; omega
theorem body_ge {ms : List Mb} (hg : ∀ m ∈ ms, Good m) : 60 * ms.length ≤ (body ms).length := by
  induction ms with
  | nil => simp
  | cons m r ih =>
    have := ih fun x hx => hg x (List.mem_cons_of_mem _ hx)
    have h1 := one_ge (hg m (by simp))
    rw [body, List.length_append, List.length_cons]; omega
theorem body_sm {ms : List Mb} (hg : ∀ m ∈ ms, Good m) (h : (body ms).length ≤ 1900) : SmL ms := by
  have h1 := body_ge hg
  refine ⟨by omega, fun m hm => ?_⟩
  obtain ⟨⟨f1, f2, f3⟩, _, t1, t2⟩ := hg m hm
  refine ⟨by omega, ?_, t1, t2⟩
  have : ∀ ms : List Mb, m ∈ ms → m.f_Content.length ≤ (body ms).length := fun ms hm => by
    induction ms with
    | nil => cases hm
    | cons x r ih =>
      rw [body, List.length_append]
      rcases List.mem_cons.1 hm with rfl | hm
      · simp only [oneS, List.length_append]; omega
      · have := ih hm; omega
  have := this ms hm
  omega
theorem walk_one (k : Nat) : ∀ (ms : List Mb) (fuel : Nat) (acc : List Mb), (∀ m ∈ ms, Good m) → (∀ m ∈ ms, 0 ≤ m.f_Time) → ms.length < fuel → (body ms).length ≤ 1900 → acc.length + ms.length ≤ 1000 → ar_Parse.l11 k fuel (body ms) true acc = some (true, acc ++ ms)
  | _, 0, _, _, _, h, _, _ => by omega
  | [], f + 1, acc, _, _, _, _, _ => by
    unfold ar_Parse.l11 ar_Parse.j21
    rw [if_pos rfl, if_neg (by simp [body])]; simp
  | m :: r, f + 1, acc, hg, ht, hf, hl, ha => by
    have hm := hg m (by simp)
    have h60 := one_ge hm
    have hl' : (oneS m ++ body r).length ≤ 1900 := hl
    rw [List.length_append] at hl'
    simp only [List.length_cons] at hf ha
    unfold ar_Parse.l11 ar_Parse.j21 ar_Parse.j18
    rw [if_pos rfl, if_pos, first_eq k _ hl]
    · rw [show body (m :: r) = oneS m ++ body r from rfl, first_one hm (ht m (by simp)), Option.bind_some]
      simp only
      rw [if_pos (lim_ok (by omega)), walk_one k r f _ (fun x hx => hg x (List.mem_cons_of_mem _ hx)) (fun x hx => ht x (List.mem_cons_of_mem _ hx)) (by omega) (by omega) (by simp; omega), List.append_assoc]
      rfl
    · have : body (m :: r) ≠ [] := fun e => by
        have := congrArg List.length e
        rw [show body (m :: r) = oneS m ++ body r from rfl, List.length_append, List.length_nil] at this
        omega
      simpa using this
theorem walk_any (k : Nat) : ∀ (fuel : Nat) (r : Tx) (b : Bool) (acc : List Mb), r.length + 1 < fuel → r.length ≤ 1900 → acc.length + r.length ≤ 5000 → ∃ b' out, ar_Parse.l11 k fuel r b acc = some (b', out) ∧ (b' = true → b = true ∧ ∃ ms, out = acc ++ ms ∧ r = body ms ∧ ∀ m ∈ ms, Good m)
  | 0, _, _, _, h, _, _ => by omega
  | f + 1, r, b, acc, hf, hl, ha => by
    unfold ar_Parse.l11 ar_Parse.j21 ar_Parse.j18
    cases b with
    | false => exact ⟨false, acc, by rw [if_neg (by decide), if_neg (by decide)], fun h => by cases h⟩
    | true =>
      rw [if_pos rfl]
      by_cases hr : r = []
      · subst hr
        exact ⟨true, acc, by rw [if_neg (by simp)], fun _ => ⟨rfl, [], by simp, rfl, by simp⟩⟩
      · have hpos := List.length_pos_iff.2 hr
        rw [if_pos (by simpa using hr), first_eq k _ hl, Option.bind_some, if_pos (lim_ok (by omega))]
        cases hb : (firstS r).2.2 with
        | false =>
          cases f with
          | zero => omega
          | succ f =>
            unfold ar_Parse.l11 ar_Parse.j21
            exact ⟨false, _, by rw [if_neg (by decide), if_neg (by decide)], fun h => by cases h⟩
        | true =>
          obtain ⟨hg, hre⟩ := first_true (r := r) (r' := (firstS r).2.1) (m := (firstS r).1) (by rw [← hb])
          have h60 := one_ge hg
          have hlen := congrArg List.length hre
          rw [List.length_append] at hlen
          obtain ⟨b', out, h1, h2⟩ := walk_any k f (firstS r).2.1 true (acc ++ [(firstS r).1]) (by omega) (by omega) (by simp; omega)
          refine ⟨b', out, h1, fun hb' => ?_⟩
          obtain ⟨_, ms, e1, e2, e3⟩ := h2 hb'
          refine ⟨rfl, (firstS r).1 :: ms, by rw [e1]; simp, by rw [body, ← e2]; exact hre, fun m hm => ?_⟩
          rcases List.mem_cons.1 hm with rfl | hm
          · exact hg
          · exact e3 m hm
theorem good_of {m : Mb} (h1 : namedS m.f_Name = true) (h2 : timedS m.f_Time = true) (h3 : m.f_Content.length ≤ 2000) : Good m ∧ 0 ≤ m.f_Time := by
  have hf := fits_of m h1 h2 h3
  simp only [timedS, Bool.and_eq_true, decide_eq_true_eq] at h2
  refine ⟨⟨hf, fun e => ?_, by omega, by omega⟩, by omega⟩
  simp only [namedS, Bool.and_eq_true] at h1
  have := List.all_eq_true.1 h1.2 32 (List.mem_of_getLast? e)
  exact absurd this (by decide)
theorem tot_ge {m : Mb} : ∀ {ms : List Mb}, m ∈ ms → m.f_Content.length ≤ tot ms
  | x :: r, hm => by
    rw [tot]
    rcases List.mem_cons.1 hm with rfl | hm
    · unfold sizeS; omega
    · have := tot_ge hm; omega
theorem make_ok {l : List Mb} {s : Tx} (h : makeS l = (s, 0)) : s = magic ++ body l ∧ (∀ m ∈ l, namedS m.f_Name = true) ∧ (∀ m ∈ l, timedS m.f_Time = true) ∧ (l.map (·.f_Name)).Nodup ∧ 8 + tot l ≤ 900 ∧ (∀ m ∈ l, Good m) ∧ ∀ m ∈ l, 0 ≤ m.f_Time := by
  unfold makeS at h
  split at h
  · cases h
  · rename_i c1
    split at h
    · cases h
    · rename_i c2
      split at h
      · cases h
      · rename_i c3
        split at h
        · cases h
        · rename_i c4
          injection h with h _
          have n1 := ok_of_any (p := fun m : Mb => namedS m.f_Name) c1
          have n2 := ok_of_any (p := fun m : Mb => timedS m.f_Time) c2
          have hg : ∀ m ∈ l, Good m ∧ 0 ≤ m.f_Time := fun m hm => good_of (n1 m hm) (n2 m hm) (by have := tot_ge hm; omega)
          exact ⟨h.symm, n1, n2, by simpa using c3, by omega, fun m hm => (hg m hm).1, fun m hm => (hg m hm).2⟩
theorem body_tot {l : List Mb} (h : ∀ m ∈ l, Fits m) : (body l).length = tot l := by
  induction l with
  | nil => rfl
  | cons m r ih => rw [body, tot, List.length_append, one_len m (h m (by simp)), ih fun x hx => h x (List.mem_cons_of_mem _ hx)]
theorem make_len {l : List Mb} {s : Tx} (h : makeS l = (s, 0)) : s.length = 8 + tot l := by
  obtain ⟨e, _, _, _, _, hg, _⟩ := make_ok h
  rw [e, List.length_append, body_tot fun m hm => (hg m hm).1]; rfl
theorem make_sm {l : List Mb} {s : Tx} (h : makeS l = (s, 0)) : SmL l ∧ (body l).length ≤ 900 := by
  obtain ⟨e, _, _, _, h9, hg, _⟩ := make_ok h
  have hb := body_tot fun m hm => (hg m hm).1
  exact ⟨body_sm hg (by omega), by omega⟩
theorem parse_yes (k : Nat) (hk : 4000 ≤ k) {l : List Mb} {s : Tx} (h : makeS l = (s, 0)) : ar_Parse.f k s = some (l, 0) := by
  obtain ⟨e, _, _, _, _, hg, ht⟩ := make_ok h
  obtain ⟨hs, hb⟩ := make_sm h
  have h1 := hs.1
  unfold ar_Parse.f ar_Parse.j7
  rw [cutp_eq k s _ (by rw [e, List.length_append]; simp; omega) (by simp), e, cutS_app, Option.bind_some]
  simp only
  rw [walk_one k l k [] hg ht (by omega) (by omega) (by simp; omega), Option.bind_some]
  simp only [List.nil_append]
  rw [if_neg (by decide), make_code k hk l hs, h, Option.bind_some]
  rfl
theorem parse_no (k : Nat) (hk : 4000 ≤ k) {s : Tx} (hs : s.length ≤ 1800) (h : ¬ ∃ l, makeS l = (s, 0)) : ar_Parse.f k s = some ([], 3) := by
  have hc : (cutS s magic).1.length ≤ s.length := by
    unfold cutS; split
    · simp
    · exact Nat.le_refl _
  unfold ar_Parse.f ar_Parse.j7
  rw [cutp_eq k s _ (by omega) (by simp), Option.bind_some]
  obtain ⟨b', out, e1, e2⟩ := walk_any k k (cutS s magic).1 (cutS s magic).2 [] (by omega) (by omega) (by simp; omega)
  rw [e1, Option.bind_some]
  cases b' with
  | false => rfl
  | true =>
    obtain ⟨hb, ms, eo, e3, e4⟩ := e2 rfl
    have eo : out = ms := eo
    subst eo
    have hcut : s = magic ++ (cutS s magic).1 := cutS_true (by rw [← hb])
    have hsm := body_sm e4 (by rw [← e3]; omega)
    simp only [List.nil_append]
    rw [if_neg (by decide), make_code k hk out hsm, Option.bind_some]
    by_cases h0 : (makeS out).2 = 0
    · exfalso
      have hm : makeS out = ((makeS out).1, 0) := by rw [← h0]
      obtain ⟨e5, _⟩ := make_ok hm
      exact h ⟨out, by rw [hm, e5, ← e3, ← hcut]⟩
    · rw [if_pos (by simpa using h0)]
end Go.Proofs.YtcblgpcgdihcbaaGreatDoor.Ar
