/- Archives parsed by the document. -/
import Derived.Test.YtcblgpcgdihcbaaGreatDoorK17SSVE
namespace Go.Proofs.YtcblgpcgdihcbaaGreatDoor.Ar
open Go Go.AM Go.ChangeShapes Go.ChangeAt Go.RowKit
set_option linter.unusedVariables false
set_option linter.unusedSimpArgs false
set_option maxRecDepth 100000
theorem trim_snoc (x : Tx) (c : UInt8) : Lib.trimRightB (x ++ [c]) 32 = if c = 32 then Lib.trimRightB x 32 else x ++ [c] := by
  unfold Lib.trimRightB
  rw [List.reverse_append, show ([c] : Tx).reverse ++ x.reverse = c :: x.reverse from rfl]
  by_cases h : c = 32
  · subst h; rw [if_pos rfl, List.dropWhile_cons_of_pos (by decide)]
  · rw [if_neg h, List.dropWhile_cons_of_neg (by simpa using h)]; simp
theorem trim_loop (k : Nat) (s : Tx) (acc : List Mb) (v5 : Int) : ∀ (fuel : Nat) (x : Tx), x.length < fuel → x.length ≤ 1000 → millwrightref03_Parse.l37 k s acc v5 fuel x = some (Lib.trimRightB x 32)
  | 0, _, h, _ => by omega
  | f + 1, x, h, hl => by
    unfold millwrightref03_Parse.l37 millwrightref03_Parse.j45 millwrightref03_Parse.j42
    rcases List.eq_nil_or_concat x with rfl | ⟨y, c, rfl⟩
    · rw [if_neg (by simp), if_neg (by decide)]; rfl
    · rw [List.concat_eq_append] at h hl ⊢
      have e : IntKind.i64.wrap (((y ++ [c]).length : Int) - 1) = (y.length : Int) := by
        simp only [List.length_append, List.length_singleton] at hl ⊢
        rw [w64 (by omega) (by omega)]
        omega
      have g : idx (y ++ [c]) (y.length : Int) = some c := by rw [idx_at rfl (by simp)]; simp
      have g2 : sub (y ++ [c]) 0 (y.length : Int) = some y := by rw [sub_to rfl rfl (by simp)]; simp
      simp only [List.length_append, List.length_singleton] at h hl
      rw [if_pos (by simp), e, g, Option.bind_some, eq_byte c 32 32 rfl, g2, Option.bind_some, trim_snoc]
      by_cases hc : c = 32
      · rw [if_pos (by simpa using hc), if_pos hc, trim_loop k s acc v5 f y (by omega) (by omega)]
      · rw [if_neg (by simpa using hc), if_neg hc]
def stepF (r : Tx) : Option (Mb × Nat) :=
  if r.length < 60 ∨ cut r 28 48 ≠ owner ∨ cut r 58 60 ≠ mend then none
  else if (figuresS (cut r 16 28)).2 = false ∨ (figuresS (cut r 48 58)).2 = false ∨ (figuresS (cut r 48 58)).1 > (r.length : Int) - 60 then none
  else if (figuresS (cut r 48 58)).1.toNat % 2 = 1 then
    (if r[60 + (figuresS (cut r 48 58)).1.toNat]? = some 10 then some (T_ar_Member.mk (Lib.trimRightB (cut r 0 16) 32) (figuresS (cut r 16 28)).1 (cut r 60 (60 + (figuresS (cut r 48 58)).1.toNat)), 61 + (figuresS (cut r 48 58)).1.toNat) else none)
  else some (T_ar_Member.mk (Lib.trimRightB (cut r 0 16) 32) (figuresS (cut r 16 28)).1 (cut r 60 (60 + (figuresS (cut r 48 58)).1.toNat)), 60 + (figuresS (cut r 48 58)).1.toNat)
theorem wrn {v : Int} {n : Nat} (e : v = (n : Int)) (h : n < 1000000000) : IntKind.i64.wrap v = (n : Int) := by rw [e, w64 (by omega) (by omega)]
theorem fig_nn (l : Tx) : ∃ n : Nat, (figuresS l).1 = (n : Int) := by
  unfold figuresS; split
  · exact ⟨0, rfl⟩
  · exact ⟨_, rfl⟩
theorem step_eq (k : Nat) (hk : 4000 ≤ k) (s : Tx) (hs : s.length ≤ 1900) (r : Tx) (i f : Nat) (acc : List Mb) (hd : s.drop i = r) (hi : i < s.length) (ha : acc.length ≤ 2000) :
    millwrightref03_Parse.l6 k s (f + 1) acc (i : Int) = match stepF r with | none => some (.inr ([], false)) | some mc => millwrightref03_Parse.l6 k s f (acc ++ [mc.1]) ((i + mc.2 : Nat) : Int) := by
  have hl : r.length = s.length - i := by rw [← hd]; simp
  have hi' : i ≤ s.length := by omega
  rw [millwrightref03_Parse.l6]
  unfold stepF millwrightref03_Parse.j52 millwrightref03_Parse.j49 millwrightref03_Parse.j35
  rw [if_pos (by simp; omega), wrn (n := r.length) (by omega) (by omega)]
  by_cases h60 : r.length < 60
  · rw [if_pos (by simp; omega), if_pos rfl, if_pos (.inl h60)]
  · have W : ∀ a : Nat, a ≤ 5000 → IntKind.i64.wrap ((i : Int) + (a : Int)) = ((i + a : Nat) : Int) := fun a _ => wrn (by omega) (by omega)
    have S : ∀ a b : Nat, a ≤ b → b ≤ r.length → sub s ((i + a : Nat) : Int) ((i + b : Nat) : Int) = some (cut r a b) := fun a b h1 h2 => sub_cut hd hi' rfl rfl h1 h2
    have w28 : IntKind.i64.wrap ((i : Int) + 28) = ((i + 28 : Nat) : Int) := W 28 (by omega)
    have w48 : IntKind.i64.wrap ((i : Int) + 48) = ((i + 48 : Nat) : Int) := W 48 (by omega)
    have w58 : IntKind.i64.wrap ((i : Int) + 58) = ((i + 58 : Nat) : Int) := W 58 (by omega)
    have w60 : IntKind.i64.wrap ((i : Int) + 60) = ((i + 60 : Nat) : Int) := W 60 (by omega)
    have w16 : IntKind.i64.wrap ((i : Int) + 16) = ((i + 16 : Nat) : Int) := W 16 (by omega)
    have s0 : sub s (i : Int) ((i + 16 : Nat) : Int) = some (cut r 0 16) := S 0 16 (by omega) (by omega)
    rw [if_neg (by simp; omega), w28, w48, S 28 48 (by omega) (by omega), Option.bind_some, w58, w60, S 58 60 (by omega) (by omega), Option.bind_some, w16, s0, Option.bind_some]
    by_cases h1 : cut r 28 48 = owner
    · rw [if_neg (by rw [h1]; decide)]
      by_cases h2 : cut r 58 60 = mend
      · have c16 := cut_len (r := r) (a := 0) (b := 16) (by omega)
        have c28 := cut_len (r := r) (a := 16) (b := 28) (by omega)
        have c58 := cut_len (r := r) (a := 48) (b := 58) (by omega)
        rw [if_neg (by rw [h2]; decide), if_neg (by rintro (h | h | h); exact h60 h; exact h h1; exact h h2), trim_loop k s acc _ k _ (by omega) (by omega), Option.bind_some,
          S 16 28 (by omega) (by omega), Option.bind_some, figures_eq k (by omega) _ (by omega), Option.bind_some, S 48 58 (by omega) (by omega), Option.bind_some, figures_eq k (by omega) _ (by omega), Option.bind_some]
        obtain ⟨n, en⟩ := fig_nn (cut r 48 58)
        have w1 : IntKind.i64.wrap ((r.length : Int) - 60) = (r.length : Int) - 60 := w64 (by omega) (by omega)
        unfold millwrightref03_Parse.j32
        rw [w1, en, Int.toNat_natCast]
        by_cases h3 : (figuresS (cut r 16 28)).2 = false
        · rw [if_pos (by rw [h3]; rfl), if_pos rfl, if_pos (.inl h3)]
        · rw [if_neg (by simpa using h3)]
          by_cases h4 : (figuresS (cut r 48 58)).2 = false
          · rw [if_pos (by rw [h4]; rfl), if_pos rfl, if_pos (.inr (.inl h4))]
          · rw [if_neg (by simpa using h4)]
            by_cases h5 : (n : Int) > (r.length : Int) - 60
            · rw [if_pos (by simpa using h5), if_pos (.inr (.inr h5))]
            · rw [if_neg (by simpa using h5), if_neg (by rintro (h | h | h); exact h3 h; exact h4 h; exact h5 h)]
              unfold millwrightref03_Parse.j29 millwrightref03_Parse.j26 millwrightref03_Parse.j23 millwrightref03_Parse.j20
              have w2 : IntKind.i64.wrap (((i + 60 : Nat) : Int) + (n : Int)) = ((i + (60 + n) : Nat) : Int) := wrn (by omega) (by omega)
              have w3 : IntKind.i64.wrap ((i : Int) + IntKind.i64.wrap (60 + (n : Int))) = ((i + (60 + n) : Nat) : Int) := by
                rw [wrn (v := 60 + (n : Int)) (n := 60 + n) (by omega) (by omega)]; exact W _ (by omega)
              have w4 : IntKind.i64.wrap (((i + (60 + n) : Nat) : Int) + 1) = ((i + (61 + n) : Nat) : Int) := wrn (by omega) (by omega)
              have lk : acc.length + [T_ar_Member.mk (Lib.trimRightB (cut r 0 16) 32) (figuresS (cut r 16 28)).1 (cut r 60 (60 + n))].length ≤ LIM := lim_ok (by omega)
              rw [w60, en, w2, S 60 (60 + n) (by omega) (by omega), Option.bind_some, if_pos (by decide), tmod2, w3, w4, if_pos lk, if_pos lk]
              by_cases h6 : n % 2 = 1
              · rw [if_pos (by rw [h6]; rfl), if_pos h6]
                by_cases h7 : 60 + n < r.length
                · have e7 : s[i + (60 + n)]? = r[60 + n]? := by rw [← hd, List.getElem?_drop]
                  have g7 : idx s ((i + (60 + n) : Nat) : Int) = some (r[60 + n]'h7) := by
                    rw [idx_at rfl (by omega)]
                    rw [List.getElem?_eq_getElem (by omega), List.getElem?_eq_getElem h7] at e7
                    exact e7
                  rw [if_neg (by simp; omega), g7, Option.bind_some, List.getElem?_eq_getElem h7]
                  have b7 : (((r[60 + n]'h7).toNat : Int) != 10) = ((r[60 + n]'h7) != 10) := by
                    simp only [bne, eq_byte _ 10 10 rfl]
                  rw [b7]
                  by_cases h8 : r[60 + n]'h7 = 10
                  · rw [if_neg (by simp [h8]), if_pos (by rw [h8])]
                  · rw [if_pos (by simpa using h8), if_neg (fun h => h8 (Option.some.inj h))]
                · rw [if_pos (by simp; omega), if_pos rfl, List.getElem?_eq_none (by omega), if_neg (by simp)]
              · rw [if_neg (by simp; omega), if_neg h6]
      · rw [if_pos (by simpa using h2), if_pos (.inr (.inr h2))]
    · rw [if_pos (by simpa using h1), if_pos rfl, if_pos (.inr (.inl h1))]
theorem step_one {m : Mb} (hg : Good m) (ht : 0 ≤ m.f_Time) (r' : Tx) : stepF (oneS m ++ r') = some (m, (oneS m).length) := by
  obtain ⟨⟨f1, f2, f3⟩, hl, _, _⟩ := hg
  obtain ⟨t, et⟩ := Int.eq_ofNat_of_zero_le ht
  have ei : Lib.itoa m.f_Time = Lib.decDigits t := by rw [et]; exact itoa_nat t
  have l1 := fld_len f1
  have l2 := fld_len f2
  have l3 := fld_len f3
  have hol := one_len m ⟨f1, f2, f3⟩
  have ho : (oneS m ++ r').length = sizeS m + r'.length := by rw [List.length_append, hol]
  have hsz : sizeS m = 60 + m.f_Content.length + m.f_Content.length % 2 := rfl
  have er : oneS m ++ r' = fld 16 m.f_Name ++ (fld 12 (Lib.itoa m.f_Time) ++ (owner ++ (fld 10 (Lib.decDigits m.f_Content.length) ++ (mend ++ (m.f_Content ++ (pad m.f_Content.length ++ r')))))) := by
    simp only [oneS, List.append_assoc]
  have c1 : cut (oneS m ++ r') 0 16 = fld 16 m.f_Name := by rw [er]; exact cut_here l1
  have c2 : cut (oneS m ++ r') 16 28 = fld 12 (Lib.itoa m.f_Time) := by
    rw [er, cut_skip (by omega) (by omega), l1]; exact cut_here l2
  have c0 : cut (oneS m ++ r') 28 48 = owner := by
    rw [er, cut_skip (by omega) (by omega), cut_skip (by omega) (by omega), l1, l2]; exact cut_here (by simp)
  have c3 : cut (oneS m ++ r') 48 58 = fld 10 (Lib.decDigits m.f_Content.length) := by
    rw [er, cut_skip (by omega) (by omega), cut_skip (by omega) (by omega), cut_skip (by rw [l1, l2]; simp) (by omega), l1, l2]; exact cut_here l3
  have c5 : cut (oneS m ++ r') 58 60 = mend := by
    rw [er, cut_skip (by omega) (by omega), cut_skip (by omega) (by omega), cut_skip (by rw [l1, l2]; simp) (by omega), cut_skip (by rw [l1, l2, l3]; simp) (by omega), l1, l2, l3]; exact cut_here (by simp)
  have c4 : cut (oneS m ++ r') 60 (60 + m.f_Content.length) = m.f_Content := by
    rw [er, cut_skip (by omega) (by omega), cut_skip (by omega) (by omega), cut_skip (by rw [l1, l2]; simp) (by omega), cut_skip (by rw [l1, l2, l3]; simp) (by omega), cut_skip (by rw [l1, l2, l3]; simp) (by omega), l1, l2, l3]
    exact cut_here (by simp; omega)
  have c6 : m.f_Content.length % 2 = 1 → (oneS m ++ r')[60 + m.f_Content.length]? = some 10 := fun h => by
    rw [er, List.getElem?_append_right (by omega), List.getElem?_append_right (by omega), List.getElem?_append_right (by rw [l1, l2]; simp; omega), List.getElem?_append_right (by rw [l1, l2, l3]; simp; omega), List.getElem?_append_right (by rw [l1, l2, l3]; simp; omega), List.getElem?_append_right (by rw [l1, l2, l3]; simp; omega), l1, l2, l3, pad, if_pos h]
    simp only [List.length_cons, List.length_nil]
    rw [show 60 + m.f_Content.length - 16 - 12 - (0 + 1 + 1 + 1 + 1 + 1 + 1 + 1 + 1 + 1 + 1 + 1 + 1 + 1 + 1 + 1 + 1 + 1 + 1 + 1 + 1) - 10 - (0 + 1 + 1) - m.f_Content.length = 0 by omega]
    rfl
  unfold stepF
  rw [if_neg (by rintro (h | h | h); omega; exact h c0; exact h c5), c2, ei, figures_fld, c3, figures_fld]
  simp only
  rw [if_neg (by rintro (h | h | h); cases h; cases h; omega), Int.toNat_natCast, c4, c1, trim_fld 16 hl, ← et, hol, hsz]
  by_cases h : m.f_Content.length % 2 = 1
  · rw [if_pos h, if_pos (c6 h), h]
    congr 2; omega
  · rw [if_neg h, show m.f_Content.length % 2 = 0 by omega]; rfl
theorem step_some {r : Tx} {m : Mb} {c : Nat} (h : stepF r = some (m, c)) : Good m ∧ 0 ≤ m.f_Time ∧ r = oneS m ++ r.drop c ∧ c = (oneS m).length := by
  unfold stepF at h
  split at h
  · cases h
  · rename_i h1
    split at h
    · cases h
    · rename_i h2
      have h60 : 60 ≤ r.length := by
        apply Classical.byContradiction
        intro hn
        exact h1 (.inl (by omega))
      have hC : cut r 28 48 = owner := Classical.byContradiction fun hn => h1 (.inr (.inl hn))
      have hE : cut r 58 60 = mend := Classical.byContradiction fun hn => h1 (.inr (.inr hn))
      have ht2 : (figuresS (cut r 16 28)).2 = true := by
        cases e : (figuresS (cut r 16 28)).2 with
        | true => rfl
        | false => exact absurd (.inl e) h2
      have hz2 : (figuresS (cut r 48 58)).2 = true := by
        cases e : (figuresS (cut r 48 58)).2 with
        | true => rfl
        | false => exact absurd (.inr (.inl e)) h2
      obtain ⟨t, et, ft, lt, pt⟩ := figures_inv (f := cut r 16 28) (v := (figuresS (cut r 16 28)).1) (by rw [← ht2])
      obtain ⟨n, en, fn, ln, pn⟩ := figures_inv (f := cut r 48 58) (v := (figuresS (cut r 48 58)).1) (by rw [← hz2])
      have c16 := cut_len (r := r) (a := 0) (b := 16) (by omega)
      have c28 := cut_len (r := r) (a := 16) (b := 28) (by omega)
      have c58 := cut_len (r := r) (a := 48) (b := 58) (by omega)
      rw [c28] at ft lt pt
      rw [c58] at fn ln pn
      have hnle : 60 + n ≤ r.length := by
        apply Classical.byContradiction
        intro hn
        exact h2 (.inr (.inr (by rw [en]; omega)))
      rw [en, et, Int.toNat_natCast] at h
      have ccl : (cut r 60 (60 + n)).length = n := by rw [cut_len hnle]; omega
      have hname := trim_le (cut r 0 16)
      rw [c16] at hname
      have hA : cut r 0 16 = fld 16 (Lib.trimRightB (cut r 0 16) 32) := by
        have := fld_trim (cut r 0 16)
        rw [c16] at this
        exact this.symm
      have hr0 : r = fld 16 (Lib.trimRightB (cut r 0 16) 32) ++ (fld 12 (Lib.decDigits t) ++ (owner ++ (fld 10 (Lib.decDigits n) ++ (mend ++ (cut r 60 (60 + n) ++ r.drop (60 + n)))))) := by
        rw [← hA, ← ft, ← hC, ← fn, ← hE, cut_join (by omega), cut_join (by omega), cut_join (by omega), cut_join (by omega), cut_join (by omega), cut_join (by omega)]; rfl
      have hgood : Good (T_ar_Member.mk (Lib.trimRightB (cut r 0 16) 32) (t : Int) (cut r 60 (60 + n))) :=
        ⟨⟨by show (Lib.trimRightB (cut r 0 16) 32).length ≤ 16; omega, by show (Lib.itoa (t : Int)).length ≤ 12; rw [itoa_nat]; omega, by show (Lib.decDigits (cut r 60 (60 + n)).length).length ≤ 10; rw [ccl]; omega⟩, trim_last _, by show -9223372036854775808 ≤ (t : Int); omega, by
          have : (10 : Nat) ^ (28 - 16) = 1000000000000 := by decide
          show (t : Int) ≤ 9223372036854775807
          omega⟩
      have hlen := one_len _ hgood.1
      have hsz : sizeS (T_ar_Member.mk (Lib.trimRightB (cut r 0 16) 32) (t : Int) (cut r 60 (60 + n))) = 60 + n + n % 2 := by
        show 60 + (cut r 60 (60 + n)).length + (cut r 60 (60 + n)).length % 2 = _
        rw [ccl]
      have hone : ∀ q, oneS (T_ar_Member.mk (Lib.trimRightB (cut r 0 16) 32) (t : Int) (cut r 60 (60 + n))) ++ q = fld 16 (Lib.trimRightB (cut r 0 16) 32) ++ (fld 12 (Lib.decDigits t) ++ (owner ++ (fld 10 (Lib.decDigits n) ++ (mend ++ (cut r 60 (60 + n) ++ (pad n ++ q)))))) := fun q => by
        simp only [oneS, List.append_assoc, itoa_nat, ccl]
      have fin : ∀ j, r.drop (60 + n) = pad n ++ r.drop j → j = 60 + n + n % 2 → m = T_ar_Member.mk (Lib.trimRightB (cut r 0 16) 32) (t : Int) (cut r 60 (60 + n)) → c = j → Good m ∧ 0 ≤ m.f_Time ∧ r = oneS m ++ r.drop c ∧ c = (oneS m).length := fun j e1 e2 e3 e4 => by
        subst e3; subst e4
        refine ⟨hgood, by show 0 ≤ (t : Int); omega, ?_, by rw [hlen, hsz, e2]⟩
        rw [hone, ← e1]
        exact hr0
      split at h
      · rename_i h6
        split at h
        · rename_i h7
          injection h with h
          injection h with h8 h9
          have hlt : 60 + n < r.length := (List.getElem?_eq_some_iff.1 h7).1
          refine fin (61 + n) ?_ (by omega) h8.symm h9.symm
          rw [List.drop_eq_getElem_cons hlt, pad, if_pos h6, (List.getElem?_eq_some_iff.1 h7).2, show 60 + n + 1 = 61 + n by omega]
          rfl
        · cases h
      · rename_i h6
        injection h with h
        injection h with h8 h9
        exact fin (60 + n) (by rw [pad, if_neg h6]; rfl) (by omega) h8.symm h9.symm
theorem ref_one (k : Nat) (hk : 4000 ≤ k) (s : Tx) (hs : s.length ≤ 1900) : ∀ (ms : List Mb) (fuel i : Nat) (acc : List Mb), (∀ m ∈ ms, Good m) → (∀ m ∈ ms, 0 ≤ m.f_Time) → ms.length < fuel → s.drop i = body ms → i ≤ s.length → acc.length + ms.length ≤ 1000 → millwrightref03_Parse.l6 k s fuel acc (i : Int) = some (.inl (acc ++ ms))
  | _, 0, _, _, _, _, h, _, _, _ => by omega
  | [], f + 1, i, acc, _, _, _, hd, hi, _ => by
    have := at_nil hd
    unfold millwrightref03_Parse.l6
    rw [if_neg (by simp; omega)]; simp
  | m :: r, f + 1, i, acc, hg, ht, hf, hd, hi, ha => by
    have hm := hg m (by simp)
    have h60 := one_ge hm
    have hl := congrArg List.length hd
    rw [List.length_drop, show body (m :: r) = oneS m ++ body r from rfl, List.length_append] at hl
    simp only [List.length_cons] at hf ha
    rw [step_eq k hk s hs _ i f acc hd (by omega) (by omega), show body (m :: r) = oneS m ++ body r from rfl, step_one hm (ht m (by simp))]
    simp only
    have hd2 : s.drop (i + (oneS m).length) = body r := by
      rw [← List.drop_drop, hd, show body (m :: r) = oneS m ++ body r from rfl]; simp
    rw [ref_one k hk s hs r f _ _ (fun x hx => hg x (List.mem_cons_of_mem _ hx)) (fun x hx => ht x (List.mem_cons_of_mem _ hx)) (by omega) hd2 (by omega) (by simp; omega), List.append_assoc]
    rfl
theorem ref_any (k : Nat) (hk : 4000 ≤ k) (s : Tx) (hs : s.length ≤ 1900) : ∀ (fuel i : Nat) (acc : List Mb), s.length - i < fuel → acc.length + (s.length - i) ≤ 2000 → i ≤ s.length →
    ∃ o, millwrightref03_Parse.l6 k s fuel acc (i : Int) = some o ∧ (∀ x, o = .inr x → x.2 = false) ∧ ∀ out, o = .inl out → ∃ ms, out = acc ++ ms ∧ s.drop i = body ms ∧ (∀ m ∈ ms, Good m) ∧ ∀ m ∈ ms, 0 ≤ m.f_Time
  | 0, _, _, h, _, _ => by omega
  | f + 1, i, acc, hf, ha, hi => by
    by_cases hlt : i < s.length
    · rw [step_eq k hk s hs _ i f acc rfl hlt (by omega)]
      cases hst : stepF (s.drop i) with
      | none => exact ⟨_, rfl, fun x hx => by cases hx; rfl, fun out ho => by cases ho⟩
      | some mc =>
        obtain ⟨hg, ht, he, hc⟩ := step_some (m := mc.1) (c := mc.2) hst
        have h60 := one_ge hg
        have hl := congrArg List.length he
        rw [List.length_append, List.length_drop, List.length_drop, List.length_drop] at hl
        obtain ⟨o, h1, h2, h3⟩ := ref_any k hk s hs f (i + mc.2) (acc ++ [mc.1]) (by omega) (by simp; omega) (by omega)
        refine ⟨o, h1, h2, fun out ho => ?_⟩
        obtain ⟨ms, e1, e2, e3, e4⟩ := h3 out ho
        refine ⟨mc.1 :: ms, by rw [e1]; simp, by rw [body, ← e2, he, ← List.drop_drop], fun m hm => ?_, fun m hm => ?_⟩
        · rcases List.mem_cons.1 hm with rfl | hm
          · exact hg
          · exact e3 m hm
        · rcases List.mem_cons.1 hm with rfl | hm
          · exact ht
          · exact e4 m hm
    · unfold millwrightref03_Parse.l6
      rw [if_neg (by simp; omega)]
      exact ⟨_, rfl, (fun x hx => by cases hx), fun out ho => ⟨[], by cases ho; simp, by rw [List.drop_of_length_le (by omega)]; rfl, by simp, by simp⟩⟩
theorem refparse_yes (k : Nat) (hk : 4000 ≤ k) {l : List Mb} {s : Tx} (h : makeS l = (s, 0)) : millwrightref03_Parse.f k s = some (l, true) := by
  obtain ⟨e, _, _, _, h9, hg, ht⟩ := make_ok h
  obtain ⟨hs, hb⟩ := make_sm h
  have h1 := hs.1
  have hsl := make_len h
  have s8 : sub s 0 8 = some magic := by
    have := sub_to (l := s) (v := 0) (u := 8) (b := 8) rfl rfl (by omega)
    rw [this, e]; rfl
  unfold millwrightref03_Parse.f millwrightref03_Parse.j62 millwrightref03_Parse.j59 millwrightref03_Parse.j3
  rw [if_neg (by simp; omega), if_neg (by simp; omega), s8, Option.bind_some, if_neg (by decide), show (8 : Int) = ((8 : Nat) : Int) from rfl, ref_one k hk s (by omega) l k 8 [] hg ht (by omega) (by rw [e]; rfl) (by omega) (by simp; omega), Option.bind_some]
  simp only [List.nil_append]
  rw [make_ref k hk l hs, h]; rfl
theorem refparse_no (k : Nat) (hk : 4000 ≤ k) {s : Tx} (hs : s.length ≤ 1800) (h : ¬ ∃ l, makeS l = (s, 0)) : ∃ l, millwrightref03_Parse.f k s = some (l, false) := by
  unfold millwrightref03_Parse.f millwrightref03_Parse.j62
  by_cases c1 : s.length > 900
  · exact ⟨[], by rw [if_pos (by simp; omega)]; rfl⟩
  · rw [if_neg (by simp; omega)]
    by_cases c2 : s.length < 8
    · exact ⟨[], by rw [if_pos (by simp; omega)]; rfl⟩
    · have s8 : sub s 0 8 = some (s.take 8) := sub_to (l := s) (v := 0) (u := 8) (b := 8) rfl rfl (by omega)
      rw [if_neg (by simp; omega), s8, Option.bind_some]
      by_cases c3 : s.take 8 = magic
      · rw [if_neg (by rw [c3]; decide)]
        unfold millwrightref03_Parse.j59 millwrightref03_Parse.j3
        obtain ⟨o, e1, e2, e3⟩ := ref_any k hk s (by omega) k 8 [] (by omega) (by simp; omega) (by omega)
        rw [show (8 : Int) = ((8 : Nat) : Int) from rfl, e1, Option.bind_some]
        cases o with
        | inr x =>
          have := e2 x rfl
          exact ⟨x.1, by rw [← this]⟩
        | inl out =>
          obtain ⟨ms, eo, hd, hg, ht⟩ := e3 out rfl
          have eo : out = ms := eo
          subst eo
          have hbl := congrArg List.length hd
          rw [List.length_drop] at hbl
          have hsm := body_sm hg (by omega)
          simp only
          rw [make_ref k hk out hsm, Option.bind_some]
          refine ⟨out, ?_⟩
          have : (makeS out).2 ≠ 0 := fun h0 => by
            have hm : makeS out = ((makeS out).1, 0) := by rw [← h0]
            obtain ⟨e5, _⟩ := make_ok hm
            exact h ⟨out, by rw [hm, e5, ← hd, ← c3, List.take_append_drop]⟩
          congr 2
          simpa using this
      · exact ⟨[], by rw [if_pos (by simpa using c3)]⟩
end Go.Proofs.YtcblgpcgdihcbaaGreatDoor.Ar
