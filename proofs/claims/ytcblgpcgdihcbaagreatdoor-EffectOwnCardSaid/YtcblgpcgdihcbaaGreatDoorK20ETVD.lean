/- Archives made: names that are there twice, how long an archive is, and that the code and the document make the same. -/
import Derived.Test.YtcblgpcgdihcbaaGreatDoorK20ETVC
namespace Go.Proofs.YtcblgpcgdihcbaaGreatDoor.Ar
open Go Go.AM Go.ChangeShapes Go.ChangeAt Go.RowKit
set_option linter.unusedVariables false
set_option linter.unusedSimpArgs false
set_option maxRecDepth 100000
def Strict (l : List Tx) : Prop := l.Pairwise fun x y => Op.bytesLess x y = true
theorem Strict.nodup {l : List Tx} (h : Strict l) : l.Nodup := h.imp fun h => less_ne h
theorem le_or {x y : Tx} (h : x ≤ y) : x = y ∨ Op.bytesLess x y = true := by
  by_cases e : x = y
  · exact .inl e
  · rcases less_total e with h' | h'
    · exact .inr h'
    · rw [bytesLess_eq, decide_eq_true_eq] at h'
      exact absurd h' (List.not_lt.2 h)
theorem compactUp (zs : List Tx) (hs : zs.Pairwise fun x y => x ≤ y) : ∀ m, m ≤ zs.length → (∀ x, x ∈ Lib.compactUpTo zs.toArray m ↔ ∃ j, j < m ∧ zs.toArray[j]! = x) ∧ Strict (Lib.compactUpTo zs.toArray m)
  | 0, _ => ⟨fun x => by simp [Lib.compactUpTo], by simp [Lib.compactUpTo, Strict]⟩
  | m + 1, hm => by
    obtain ⟨h1, h2⟩ := compactUp zs hs m (by omega)
    have hle : ∀ i, i < m → zs.toArray[i]! ≤ zs.toArray[m]! := fun i hi => by
      rw [getElem!_pos zs.toArray i (by simp; omega), getElem!_pos zs.toArray m (by simp; omega)]
      exact (List.pairwise_iff_getElem.1 hs) i m (by omega) (by omega) hi
    rw [Lib.compactUpTo_succ]
    by_cases hk : Lib.keeps zs.toArray m = true
    · rw [if_pos hk]
      have hk' : m = 0 ∨ zs.toArray[m]! ≠ zs.toArray[m - 1]! := by simpa [Lib.keeps] using hk
      refine ⟨fun x => ?_, ?_⟩
      · rw [List.mem_append, h1]
        constructor
        · rintro (⟨j, hj, e⟩ | h)
          · exact ⟨j, by omega, e⟩
          · exact ⟨m, by omega, (List.mem_singleton.1 h).symm⟩
        · rintro ⟨j, hj, e⟩
          by_cases hjm : j = m
          · subst hjm; exact .inr (by simp [e])
          · exact .inl ⟨j, by omega, e⟩
      · refine List.pairwise_append.2 ⟨h2, by simp, fun x hx y hy => ?_⟩
        obtain rfl : y = zs.toArray[m]! := by simpa using hy
        obtain ⟨j, hj, rfl⟩ := (h1 x).1 hx
        rcases le_or (hle j hj) with e | h
        · rcases hk' with h0 | hne
          · omega
          · have hpm : zs.toArray[m - 1]! ≤ zs.toArray[m]! := hle (m - 1) (by omega)
            have hjp : zs.toArray[j]! ≤ zs.toArray[m - 1]! := by
              by_cases hjm : j = m - 1
              · subst hjm; exact List.le_refl _
              · rw [getElem!_pos zs.toArray j (by simp; omega), getElem!_pos zs.toArray (m - 1) (by simp; omega)]
                exact (List.pairwise_iff_getElem.1 hs) j (m - 1) (by omega) (by omega) (by omega)
            rw [e] at hjp
            rcases le_or hpm with e2 | h2
            · exact absurd e2.symm hne
            · rcases le_or hjp with e3 | h3
              · exact absurd e3 hne
              · have := less_trans h2 h3; rw [less_irrefl] at this; cases this
        · exact h
    · rw [if_neg hk, List.append_nil]
      have hk' : m ≠ 0 ∧ zs.toArray[m]! = zs.toArray[m - 1]! := by simpa [Lib.keeps] using hk
      refine ⟨fun x => ?_, h2⟩
      rw [h1]
      constructor
      · rintro ⟨j, hj, e⟩; exact ⟨j, by omega, e⟩
      · rintro ⟨j, hj, e⟩
        by_cases hjm : j = m
        · subst hjm; exact ⟨j - 1, by omega, by rw [← hk'.2]; exact e⟩
        · exact ⟨j, by omega, e⟩
def sortedS (xs : List Tx) : List Tx := Lib.compact (xs.mergeSort fun x y => decide (x ≤ y))
theorem sortedS_spec (xs : List Tx) : Strict (sortedS xs) ∧ ∀ x, x ∈ sortedS xs ↔ x ∈ xs := by
  have hs : (xs.mergeSort fun x y => decide (x ≤ y)).Pairwise fun x y => x ≤ y := by
    have := List.pairwise_mergeSort (le := fun (x y : Tx) => decide (x ≤ y)) (fun a b c h1 h2 => by
      simp only [decide_eq_true_eq] at *; exact List.le_trans h1 h2) (fun a b => by
      simp only [Bool.or_eq_true, decide_eq_true_eq]; exact List.le_total a b) xs
    exact this.imp fun h => by simpa using h
  obtain ⟨h1, h2⟩ := compactUp _ hs _ (Nat.le_refl _)
  refine ⟨h2, fun x => ?_⟩
  show x ∈ Lib.compactUpTo _ _ ↔ _
  rw [h1]
  have hm : x ∈ (xs.mergeSort fun x y => decide (x ≤ y)) ↔ x ∈ xs := List.mem_mergeSort
  rw [← hm]
  constructor
  · rintro ⟨j, hj, e⟩
    rw [getElem!_pos _ j (by simpa using hj)] at e
    rw [← e]; simp
  · intro hx
    obtain ⟨j, hj, e⟩ := List.getElem_of_mem hx
    exact ⟨j, hj, by rw [getElem!_pos _ j (by simpa using hj)]; simpa using e⟩

theorem nodup_len : ∀ {l1 l2 : List Tx}, l1.Nodup → (∀ x ∈ l1, x ∈ l2) → l1.length ≤ l2.length
  | [], _, _, _ => Nat.zero_le _
  | x :: r, l2, h, hs => by
    have hx := hs x (by simp)
    have hn := List.nodup_cons.1 h
    have := nodup_len (l1 := r) (l2 := l2.erase x) hn.2 fun y hy => (List.mem_erase_of_ne (fun e => hn.1 (by rw [← e]; exact hy))).2 (hs y (List.mem_cons_of_mem _ hy))
    rw [List.length_erase_of_mem hx] at this
    have := List.length_pos_of_mem hx
    simp only [List.length_cons]; omega
theorem nodup_of_len : ∀ {l2 l1 : List Tx}, l1.Nodup → (∀ x ∈ l1, x ∈ l2) → l2.length ≤ l1.length → l2.Nodup
  | [], _, _, _, _ => List.nodup_nil
  | y :: r, l1, h, hs, hl => by
    have hy : y ∉ r := fun hy => by
      have := nodup_len (l2 := r) h fun x hx => by
        rcases List.mem_cons.1 (hs x hx) with rfl | h'
        · exact hy
        · exact h'
      simp only [List.length_cons] at hl; omega
    refine List.nodup_cons.2 ⟨hy, nodup_of_len (l1 := l1.erase y) (h.erase y) (fun x hx => ?_) ?_⟩
    · have hne : x ≠ y := fun e => by subst e; exact (List.Nodup.not_mem_erase h) hx
      rcases List.mem_cons.1 (hs x (List.mem_of_mem_erase hx)) with e | h'
      · exact absurd e hne
      · exact h'
    · have := List.length_erase (a := y) (l := l1)
      simp only [List.length_cons] at hl
      rw [this]; split <;> omega
theorem sorted_len (xs : List Tx) : decide (((sortedS xs).length : Int) < (xs.length : Int)) = !decide xs.Nodup := by
  obtain ⟨h1, h2⟩ := sortedS_spec xs
  have h3 := nodup_len h1.nodup fun x hx => (h2 x).1 hx
  by_cases hn : xs.Nodup
  · have := nodup_len hn fun x hx => (h2 x).2 hx
    rw [show decide xs.Nodup = true by simpa using hn]; simp; omega
  · have : (sortedS xs).length < xs.length := by
      apply Classical.byContradiction
      intro hl
      exact hn (nodup_of_len h1.nodup (fun x hx => (h2 x).1 hx) (by omega))
    rw [show decide xs.Nodup = false by simpa using hn]; simp; omega
theorem names_sorted (k : Nat) (xs : List Tx) (h : xs.length ≤ 100000) : names_Sorted.f k xs = some (sortedS xs) := by
  unfold names_Sorted.f pCloneR.f pSortR.f pCompactR.f
  rw [if_pos (by omega), Option.bind_some, if_pos (by omega), Option.bind_some, if_pos (by simp), if_pos (by simp; omega)]
  rfl
theorem collect (k : Nat) (l : List Mb) (hl : SmL l) : ∀ (r : List Mb) (fuel i : Nat) (acc : List Tx), l.drop i = r → r.length < fuel → acc.length = i → ar_twice.l6 k l fuel acc (i : Int) = some (acc ++ r.map (·.f_Name))
  | _, 0, _, _, _, h, _ => by omega
  | [], f + 1, i, acc, hd, _, _ => by
    have := at_nil hd
    unfold ar_twice.l6
    rw [if_neg (by simp; omega)]; simp
  | m :: r, f + 1, i, acc, hd, hf, ha => by
    obtain ⟨g1, g2, g3⟩ := at_drop hd
    have h1 := hl.1
    unfold ar_twice.l6
    rw [if_pos (by simp; omega), g1, Option.bind_some, if_pos (lim_ok (by omega)), wr1 (by omega), collect k l hl r f (i + 1) _ g2 (by simpa using hf) (by simp [ha]), List.append_assoc]
    rfl
theorem twice_eq (k : Nat) (hk : 4000 ≤ k) (l : List Mb) (hl : SmL l) : ar_twice.f k l = some (!decide (l.map (·.f_Name)).Nodup) := by
  have h1 := hl.1
  unfold ar_twice.f ar_twice.j3
  rw [show (0 : Int) = ((0 : Nat) : Int) from rfl, collect k l hl l k 0 [] rfl (by omega) rfl, Option.bind_some, List.nil_append, names_sorted k _ (by simp; omega), Option.bind_some, ← sorted_len, List.length_map]
def dups : List Mb → List Mb → Bool
  | _, [] => false
  | p, m :: r => p.any (fun x => m.f_Name == x.f_Name) || dups (p ++ [m]) r
def body : List Mb → Tx
  | [] => []
  | m :: r => oneS m ++ body r
def tot : List Mb → Nat
  | [] => 0
  | m :: r => sizeS m + tot r
theorem one_le (m : Mb) (hm : Sm m) : (oneS m).length ≤ 5000 := by
  obtain ⟨h1, h2, h3, h4⟩ := hm
  have hi := itoa_len h3 h4
  have hd : (Lib.decDigits m.f_Content.length).length ≤ 20 := dec_len_le (show _ < 10 ^ 20 by omega) (by omega)
  have l4 : (pad m.f_Content.length).length ≤ 1 := by unfold pad; split <;> simp
  simp only [oneS, fld, List.length_append, List.length_replicate, List.length_cons, List.length_nil]
  omega
theorem pad_len (n : Nat) : (pad n).length = n % 2 := by unfold pad; split <;> simp <;> omega
def Fits (m : Mb) : Prop := m.f_Name.length ≤ 16 ∧ (Lib.itoa m.f_Time).length ≤ 12 ∧ (Lib.decDigits m.f_Content.length).length ≤ 10
theorem one_len (m : Mb) (h : Fits m) : (oneS m).length = sizeS m := by
  obtain ⟨h1, h2, h3⟩ := h
  simp only [oneS, List.length_append, fld_len h1, fld_len h2, fld_len h3, pad_len, List.length_cons, List.length_nil, sizeS]
  omega
theorem fits_of (m : Mb) (h1 : namedS m.f_Name = true) (h2 : timedS m.f_Time = true) (h3 : m.f_Content.length ≤ 2000) : Fits m := by
  simp only [namedS, timedS, Bool.and_eq_true, decide_eq_true_eq] at h1 h2
  obtain ⟨t, ht⟩ := Int.eq_ofNat_of_zero_le (show 0 ≤ m.f_Time by omega)
  refine ⟨by omega, ?_, dec_len_le (show _ < 10 ^ 10 by omega) (by omega)⟩
  rw [ht, itoa_nat]
  exact dec_len_le (show t < 10 ^ 12 by omega) (by omega)
theorem build_loop (k : Nat) (l : List Mb) (hl : SmL l) : ∀ (r : List Mb) (fuel i : Nat) (acc : Tx), l.drop i = r → r.length < fuel → acc.length ≤ 10 + 5000 * i → ar_Make.l13 k l fuel acc (i : Int) = some (acc ++ body r)
  | _, 0, _, _, _, h, _ => by omega
  | [], f + 1, i, acc, hd, _, _ => by
    have := at_nil hd
    unfold ar_Make.l13
    rw [if_neg (by simp; omega)]; simp [body]
  | m :: r, f + 1, i, acc, hd, hf, ha => by
    obtain ⟨g1, g2, g3⟩ := at_drop hd
    have h1 := hl.1
    have hm := hl.2 m (List.mem_of_mem_drop (by rw [hd]; simp))
    have ho := one_le m hm
    unfold ar_Make.l13
    rw [if_pos (by simp; omega), g1, Option.bind_some, bytes_eq k _ hm, Option.bind_some]
    rw [if_pos (by show acc.length + (oneS m).length ≤ _; omega), wr1 (by omega), build_loop k l hl r f (i + 1) _ g2 (by simpa using hf) (by show (acc ++ oneS m).length ≤ _; rw [List.length_append]; omega), List.append_assoc]
    rfl
theorem total_loop (k : Nat) (l : List Mb) (hl : SmL l) : ∀ (r : List Mb) (fuel i acc : Nat), l.drop i = r → r.length < fuel → acc ≤ 900 → ∃ t : Int, ar_total.l5 k l fuel (acc : Int) (i : Int) = some t ∧ decide (t > 900) = decide (acc + tot r > 900)
  | _, 0, _, _, _, h, _ => by omega
  | [], f + 1, i, acc, hd, _, _ => by
    have := at_nil hd
    unfold ar_total.l5
    rw [if_neg (by simp; omega)]
    exact ⟨_, rfl, by rw [tot, Bool.eq_iff_iff]; simp; omega⟩
  | m :: r, f + 1, i, acc, hd, hf, ha => by
    obtain ⟨g1, g2, g3⟩ := at_drop hd
    have h1 := hl.1
    have hm := hl.2 m (List.mem_of_mem_drop (by rw [hd]; simp))
    have hs : sizeS m ≤ 3000 := by have := hm.2.1; unfold sizeS; omega
    have e : IntKind.i64.wrap ((acc : Int) + (sizeS m : Int)) = ((acc + sizeS m : Nat) : Int) := by rw [w64 (by omega) (by omega)]; rfl
    unfold ar_total.l5
    rw [if_pos (by simp; omega), g1, Option.bind_some, size_eq k _ hm, Option.bind_some]
    have e' : IntKind.i64.wrap ((acc : Int) + (sizeS (T_ar_Member.mk m.f_Name m.f_Time m.f_Content) : Int)) = ((acc + sizeS m : Nat) : Int) := e
    rw [e']
    by_cases h9 : acc + sizeS m > 900
    · rw [if_pos (by simp; omega)]
      exact ⟨_, rfl, by rw [tot, Bool.eq_iff_iff]; simp; omega⟩
    · rw [if_neg (by simp; omega), wr1 (by omega)]
      obtain ⟨t, h2, h3⟩ := total_loop k l hl r f (i + 1) (acc + sizeS m) g2 (by simpa using hf) (by omega)
      exact ⟨t, h2, by rw [h3, tot, Nat.add_assoc]⟩
def makeS (l : List Mb) : Tx × Nat :=
  if l.any (fun m => !namedS m.f_Name) then ([], 4) else if l.any (fun m => !timedS m.f_Time) then ([], 1) else if (!decide (l.map (·.f_Name)).Nodup) = true then ([], 9)
  else if 8 + tot l > 900 then ([], 2) else (magic ++ body l, 0)
theorem make_code (k : Nat) (hk : 4000 ≤ k) (l : List Mb) (hl : SmL l) : ar_Make.f k l = some (makeS l) := by
  have h1 := hl.1
  obtain ⟨t, ht, ht2⟩ := total_loop k l hl l k 0 8 rfl (by omega) (by omega)
  unfold ar_Make.f makeS ar_Make.j10
  rw [badname_eq k hk l hl, Option.bind_some, badtime_eq k hk l hl, Option.bind_some, twice_eq k hk l hl, Option.bind_some]
  have etot : ar_total.f k l = some t := by
    unfold ar_total.f ar_total.j2
    rw [show (8 : Int) = ((8 : Nat) : Int) from rfl, show (0 : Int) = ((0 : Nat) : Int) from rfl, ht]; rfl
  rw [etot, Option.bind_some, ht2, show (0 : Int) = ((0 : Nat) : Int) from rfl, build_loop k l hl l k 0 magic rfl (by omega) (by simp), Option.bind_some]
  by_cases c1 : (l.any fun m => !namedS m.f_Name) = true
  · rw [if_pos c1, if_pos c1]
  · rw [if_neg c1, if_neg c1]
    by_cases c2 : (l.any fun m => !timedS m.f_Time) = true
    · rw [if_pos c2, if_pos c2]
    · rw [if_neg c2, if_neg c2]
      by_cases c3 : (!decide (l.map (·.f_Name)).Nodup) = true
      · rw [if_pos c3, if_pos c3]
      · rw [if_neg c3, if_neg c3]
        by_cases c4 : 8 + tot l > 900
        · rw [if_pos (by simpa using c4), if_pos c4]
        · rw [if_neg (by simpa using c4), if_neg c4]
theorem ok_of_any {α : Type} {p : α → Bool} {l : List α} (h : ¬ (l.any fun m => !p m) = true) : ∀ m ∈ l, p m = true := fun m hm => by
  cases e : p m with
  | true => rfl
  | false => exact absurd (List.any_eq_true.2 ⟨m, hm, by simp [e]⟩) h
end Go.Proofs.YtcblgpcgdihcbaaGreatDoor.Ar
