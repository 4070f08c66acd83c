/- Patterns, variables, outputs and pieces: as the document has them. -/
import Derived.Test.YtldepagjdbcmgaaGreatDoorK23XWVT
namespace Go.Proofs.YtldepagjdbcmgaaGreatDoor.Ex
open Go Go.AM Go.ChangeShapes Go.ChangeAt Go.RowKit
set_option linter.unusedVariables false
set_option linter.unusedSimpArgs false
set_option maxRecDepth 100000
theorem wb (b : UInt8) : wildB b = ((b == 37) || (b == 38)) := by
  unfold wildB
  have h1 : (b == 37) = (b.toNat == 37) := by
    rw [Bool.eq_iff_iff, beq_iff_eq, beq_iff_eq, ← UInt8.toNat_inj]; rfl
  have h2 : (b == 38) = (b.toNat == 38) := by
    rw [Bool.eq_iff_iff, beq_iff_eq, beq_iff_eq, ← UInt8.toNat_inj]; rfl
  rw [h1, h2]
def atW (p : Tx) (n : Nat) : Int := match (p.drop n).findIdx? wildB with | none => -1 | some j => ((n + j : Nat) : Int)
theorem rwild_loop (k : Nat) (p : Tx) (hp : p.length ≤ 100000) : ∀ (n fuel : Nat), n ≤ p.length → n < fuel → millwrightref15_Wild.l5 k p fuel (atW p n) ((n : Int) - 1) = some (wildI p)
  | 0, f + 1, _, _ => by
    unfold millwrightref15_Wild.l5
    rw [if_neg (by simp)]
    unfold atW wildI
    rw [List.drop_zero]
    cases p.findIdx? wildB with
    | none => rfl
    | some j => simp
  | n + 1, f + 1, h1, h2 => by
    have hn : n < p.length := h1
    have e1 : (((n + 1 : Nat) : Int) - 1) = (n : Int) := by omega
    have q1 : ((p[n].toNat : Int) == 37) = (p[n] == 37) := u8_eq (b := 37)
    have q2 : ((p[n].toNat : Int) == 38) = (p[n] == 38) := u8_eq (b := 38)
    have ew : IntKind.i64.wrap ((n : Int) - 1) = (n : Int) - 1 := by rw [w64 (by omega) (by omega)]
    have ih := rwild_loop k p hp n f (by omega) (by omega)
    have hd : p.drop n = p[n] :: p.drop (n + 1) := List.drop_eq_getElem_cons hn
    have ea : atW p n = if wildB p[n] then (n : Int) else atW p (n + 1) := by
      unfold atW
      rw [hd, List.findIdx?_cons]
      cases wildB p[n] with
      | true => simp
      | false =>
        simp only [Bool.false_eq_true, if_false]
        cases (p.drop (n + 1)).findIdx? wildB with
        | none => rfl
        | some j => simp; omega
    rw [ea] at ih
    unfold millwrightref15_Wild.l5 millwrightref15_Wild.j14 millwrightref15_Wild.j11
    rw [e1, if_pos (by simp), idx_at rfl hn, Option.bind_some, Option.bind_some, q1, q2, ew]
    rw [wb] at ih
    by_cases h37 : p[n] = 37
    · rw [if_pos (by simpa using h37), if_pos rfl]
      rw [if_pos (by simp [h37])] at ih; exact ih
    · rw [if_neg (by simpa using h37)]
      by_cases h38 : p[n] = 38
      · rw [if_pos (by simpa using h38)]
        rw [if_pos (by simp [h38])] at ih; exact ih
      · rw [if_neg (by simpa using h38)]
        rw [if_neg (by simp [h37, h38])] at ih; exact ih
theorem rWild_eq (k : Nat) (p : Tx) (hp : p.length ≤ 100000) (hk : p.length < k) : millwrightref15_Wild.f k p = some (wildI p) := by
  unfold millwrightref15_Wild.f millwrightref15_Wild.j2
  have e0 : atW p p.length = -1 := by unfold atW; rw [List.drop_length]; rfl
  have e1 : IntKind.i64.wrap ((p.length : Int) - 1) = (p.length : Int) - 1 := by rw [w64 (by omega) (by omega)]
  have := rwild_loop k p hp p.length k (Nat.le_refl _) hk
  rw [e0] at this
  rw [e1, this, Option.bind_some]
theorem beq_flip (b c : UInt8) : (c == b) = (b == c) := Bool.eq_iff_iff.2 ⟨fun h => beq_iff_eq.2 (beq_iff_eq.1 h).symm, fun h => beq_iff_eq.2 (beq_iff_eq.1 h).symm⟩
theorem narrow_cons (b : UInt8) (r : Tx) : narrowS (b :: r) = (!(b == 46) && !(b == 47) && narrowS r) := by
  unfold narrowS
  rw [List.contains_cons, List.contains_cons, beq_flip b 46, beq_flip b 47]
  generalize (b == 46) = u
  generalize (b == 47) = v
  generalize r.contains 46 = y
  generalize r.contains 47 = z
  cases u <;> cases v <;> cases y <;> cases z <;> rfl
theorem stem_loop (k : Nat) (p st : Tx) (j : Nat) (hj : j < p.length) (hst : st.length ≤ 100000) : ∀ (r : Tx) (fuel i : Nat), st.drop i = r → r.length < fuel →
    millwrightref15_Match.l6 k p (j : Int) st fuel (i : Int) = some (if p[j] = 38 ∧ narrowS r = false then .inr ([], false) else .inl ())
  | _, 0, _, _, h => by omega
  | [], f + 1, i, hd, _ => by
    have := Ev.at_nil hd
    unfold millwrightref15_Match.l6
    rw [if_neg (by simp; omega), if_neg (fun h => by cases h.2)]
  | b :: r, f + 1, i, hd, hf => by
    obtain ⟨g1, g2, g3⟩ := Ev.at_drop hd
    have q0 : ((p[j].toNat : Int) == 38) = (p[j] == 38) := u8_eq (b := 38)
    have q1 : ((b.toNat : Int) == 46) = (b == 46) := u8_eq (b := 46)
    have q2 : ((b.toNat : Int) == 47) = (b == 47) := u8_eq (b := 47)
    have ih := stem_loop k p st j hj hst r f (i + 1) g2 (by simpa using hf)
    have en := narrow_cons b r
    unfold millwrightref15_Match.l6 millwrightref15_Match.j13 millwrightref15_Match.j10
    rw [if_pos (by simp; exact g3), idx_at rfl hj, Option.bind_some, q0, g1, Option.bind_some, Option.bind_some, q1, q2, Ev.wr1 (by omega), ih, en]
    by_cases h38 : p[j] = 38
    · rw [if_pos (by simpa using h38)]
      by_cases h46 : b = 46
      · simp [h46, h38]
      · by_cases h47 : b = 47
        · simp [h47, h38]
        · simp [h46, h47, h38]
    · rw [if_neg (by simpa using h38), if_neg (by decide), if_neg (fun h => h38 h.1), if_neg (fun h => h38 h.1)]
theorem rMatch_eq (k : Nat) (p s : Tx) (hp : p.length ≤ 100000) (hk : p.length < k) (hs : s.length ≤ 100000) (hks : s.length < k) : millwrightref15_Match.f k p s = some (matchS p s) := by
  unfold millwrightref15_Match.f matchS
  rw [rWild_eq k p hp hk, Option.bind_some]
  unfold wildI
  cases hj : p.findIdx? wildB with
  | none => rfl
  | some j =>
    have hjl : j < p.length := by
      obtain ⟨h, _⟩ := List.findIdx?_eq_some_iff_getElem.1 hj
      exact h
    simp only
    have eb : IntKind.i64.wrap (IntKind.i64.wrap ((p.length : Int) - (j : Int)) - 1) = ((p.length - j - 1 : Nat) : Int) := by
      rw [w64 (n := (p.length : Int) - (j : Int)) (by omega) (by omega), w64 (by omega) (by omega)]; omega
    have ec : IntKind.i64.wrap ((j : Int) + ((p.length - j - 1 : Nat) : Int)) = ((p.length - 1 : Nat) : Int) := by rw [w64 (by omega) (by omega)]; omega
    have ql : (p.drop (j + 1)).length = p.length - j - 1 := by rw [List.length_drop]; omega
    have pl : (p.take j).length = j := by rw [List.length_take]; omega
    unfold millwrightref15_Match.j24
    rw [if_neg (by simp), eb, ec]
    by_cases hlen : s.length < p.length - 1
    · rw [if_pos (by simp; omega), if_pos rfl]
      rw [if_neg]
      intro h
      have h1 := h.1; have h2 := h.2.1
      unfold cutP at h1
      split at h1
      · rename_i hc
        unfold cutE cutP at h2
        rw [if_pos hc] at h2
        split at h2
        · rename_i he
          have := he.1
          rw [ql, List.length_drop, pl] at this
          rw [pl] at hc
          omega
        · cases h2
      · cases h1
    · have es : IntKind.i64.wrap ((s.length : Int) - ((p.length - j - 1 : Nat) : Int)) = ((s.length - (p.length - j - 1) : Nat) : Int) := by rw [w64 (by omega) (by omega)]; omega
      rw [if_neg (by simp; omega), sub_to rfl rfl (by omega), sub_to rfl rfl (by omega), Option.bind_some, Option.bind_some, es, sub_from rfl rfl (by omega), w64 (n := (j : Int) + 1) (by omega) (by omega), sub_from (a := j + 1) (by omega) rfl (by omega), Option.bind_some, Option.bind_some]
      by_cases hpre : s.take j = p.take j
      · rw [if_neg (by simp [hpre])]
        have c1 : cutP s (p.take j) = (s.drop j, true) := by
          unfold cutP
          rw [if_pos ⟨by rw [pl]; omega, by rw [pl]; exact hpre⟩, pl]
        rw [c1]
        have dl : (s.drop j).length = s.length - j := List.length_drop
        by_cases hsuf : s.drop (s.length - (p.length - j - 1)) = p.drop (j + 1)
        · rw [if_neg (by simp [hsuf])]
          have c2 : cutE (s.drop j) (p.drop (j + 1)) = ((s.drop j).take (s.length - j - (p.length - j - 1)), true) := by
            unfold cutE
            rw [if_pos ⟨by rw [ql, dl]; omega, by
              rw [ql, dl, List.drop_drop, show j + (s.length - j - (p.length - j - 1)) = s.length - (p.length - j - 1) by omega]; exact hsuf⟩, ql, dl]
          rw [c2]
          unfold millwrightref15_Match.j21 millwrightref15_Match.j4
          rw [eb, es, sub_at rfl rfl (by omega) (by omega), Option.bind_some]
          have est : (s.take (s.length - (p.length - j - 1))).drop j = (s.drop j).take (s.length - j - (p.length - j - 1)) := by
            rw [List.drop_take, show s.length - (p.length - j - 1) - j = s.length - j - (p.length - j - 1) by omega]
          rw [est]
          have hstl : ((s.drop j).take (s.length - j - (p.length - j - 1))).length ≤ s.length := by rw [List.length_take, dl]; omega
          have e := stem_loop k p ((s.drop j).take (s.length - j - (p.length - j - 1))) j hjl (by omega) _ k 0 rfl (by rw [List.drop_zero]; omega)
          have e' : millwrightref15_Match.l6 k p (j : Int) ((s.drop j).take (s.length - j - (p.length - j - 1))) k 0 = _ := e
          rw [e', List.drop_zero, Option.bind_some, List.getElem?_eq_getElem hjl]
          by_cases hn : p[j] = 38 ∧ narrowS ((s.drop j).take (s.length - j - (p.length - j - 1))) = false
          · rw [if_pos hn, if_neg (fun h => h.2.2 ⟨by rw [hn.1], hn.2⟩)]
          · rw [if_neg hn, if_pos ⟨rfl, rfl, fun h => hn ⟨Option.some.inj h.1, h.2⟩⟩]
        · rw [if_pos (by simpa using hsuf)]
          rw [if_neg]
          intro h
          have h2 := h.2.1
          unfold cutE at h2
          split at h2
          · rename_i he
            have := he.2
            rw [ql, dl, List.drop_drop, show j + (s.length - j - (p.length - j - 1)) = s.length - (p.length - j - 1) by omega] at this
            exact hsuf this
          · cases h2
      · rw [if_pos (by simpa using hpre), if_pos rfl]
        rw [if_neg]
        intro h
        have h1 := h.1
        unfold cutP at h1
        split at h1
        · rename_i hc
          have := hc.2
          rw [pl] at this
          exact hpre this
        · cases h1
theorem fill_none : ∀ {p : Tx} (st : Tx), p.findIdx? wildB = none → fillS p st = p
  | [], st, _ => rfl
  | b :: p, st, h => by
    rw [List.findIdx?_cons] at h
    cases hb : wildB b with
    | true => rw [hb] at h; simp at h
    | false =>
      rw [hb] at h
      have h' : p.findIdx? wildB = none := by simpa using h
      have := fill_none st h'
      unfold fillS at this ⊢
      rw [List.flatMap_cons, this, hb]; rfl
theorem fill_some : ∀ {p : Tx} (st : Tx) {j : Nat}, p.findIdx? wildB = some j → fillS p st = p.take j ++ st ++ fillS (p.drop (j + 1)) st
  | [], st, j, h => by simp at h
  | b :: p, st, j, h => by
    rw [List.findIdx?_cons] at h
    cases hb : wildB b with
    | true =>
      rw [hb, if_pos rfl] at h
      cases h
      simp [fillS, hb]
    | false =>
      rw [hb, if_neg (by decide)] at h
      obtain ⟨i, hi, e⟩ := Option.map_eq_some_iff.1 h
      subst e
      have := fill_some st hi
      unfold fillS at this ⊢
      rw [List.flatMap_cons, this, hb]; simp
theorem rFill_scc (st : Tx) (hst : st.length ≤ 100000) : ∀ (k : Nat) (p : Tx), p.length ≤ 1000 → p.length + 1000 < k → scc_millwrightref15_Fill k p st = some (fillS p st)
  | 0, p, _, h => by omega
  | k + 1, p, hp, hk => by
    show millwrightref15_Fill.b k (scc_millwrightref15_Fill k) p st = _
    unfold millwrightref15_Fill.b
    rw [rWild_eq k p (by omega) (by omega), Option.bind_some]
    unfold wildI
    cases hj : p.findIdx? wildB with
    | none => simp only; rw [if_pos (by decide), fill_none st hj]
    | some j =>
      have hjl : j < p.length := by
        obtain ⟨h, _⟩ := List.findIdx?_eq_some_iff_getElem.1 hj
        exact h
      have hl := fillS_len (p.drop (j + 1)) st
      have hl2 : (p.drop (j + 1)).length * (st.length + 1) ≤ 1000 * 100001 := Nat.mul_le_mul (by rw [List.length_drop]; omega) (by omega)
      simp only
      rw [if_neg (by simp), sub_to rfl rfl (by omega), Option.bind_some, if_pos (by rw [List.length_take]; omega), w64 (by omega) (by omega), sub_from (a := j + 1) (by omega) rfl (by omega), Option.bind_some, rFill_scc st hst k (p.drop (j + 1)) (by rw [List.length_drop]; omega) (by rw [List.length_drop]; omega), Option.bind_some, if_pos (by rw [List.length_append, List.length_take]; omega), fill_some st hj]
theorem rsub_eq (k : Nat) (hk : 4000 ≤ k) (w from_ to_ : Tx) (hw : w.length ≤ 1000) (h1 : from_.length ≤ 1000) (h2 : to_.length ≤ 1000) : millwrightref16_Word.f k w from_ to_ = some (subS w from_ to_) := by
  have hl := matchS_len from_ w
  unfold millwrightref16_Word.f subS millwrightref15_Fill.f
  rw [rMatch_eq k from_ w (by omega) (by omega) (by omega) (by omega), Option.bind_some]
  cases (matchS from_ w).2 with
  | false => rfl
  | true => rw [if_pos rfl, if_pos rfl, rFill_scc _ (by omega) k to_ h2 (by omega)]; rfl
theorem rsubs_loop (k : Nat) (hk : 4000 ≤ k) (l : List Tx) (from_ to_ : Tx) (hl : l.length ≤ 1000) (hw : ∀ w ∈ l, w.length ≤ 1000) (h1 : from_.length ≤ 1000) (h2 : to_.length ≤ 1000) : ∀ (r : List Tx) (fuel i : Nat) (acc : List Tx), l.drop i = r → r.length < fuel → acc.length ≤ i →
    millwrightref16_List.l5 k l from_ to_ fuel acc (i : Int) = some (if Ev.anyLong (r.map fun w => subS w from_ to_) then .inr ([], 2) else .inl (acc ++ r.map fun w => subS w from_ to_))
  | _, 0, _, _, _, h, _ => by omega
  | [], f + 1, i, acc, hd, _, _ => by
    have := Ev.at_nil hd
    unfold millwrightref16_List.l5
    rw [if_neg (by simp; omega)]; simp [Ev.anyLong]
  | w :: r, f + 1, i, acc, hd, hf, ha => by
    obtain ⟨g1, g2, g3⟩ := Ev.at_drop hd
    have hx := hw w (List.mem_of_mem_drop (hd ▸ List.mem_cons_self))
    unfold millwrightref16_List.l5
    rw [if_pos (by simp; exact g3), g1, Option.bind_some, rsub_eq k hk w from_ to_ hx h1 h2, Option.bind_some]
    have e : Ev.anyLong ((w :: r).map fun w => subS w from_ to_) = (decide (120 < (subS w from_ to_).length) || Ev.anyLong (r.map fun w => subS w from_ to_)) := rfl
    rw [e]
    by_cases h : 120 < (subS w from_ to_).length
    · rw [if_pos (by simp; omega), if_pos (by simp [h])]
    · rw [if_neg (by simp; omega), if_pos (Ev.lim_ok (by omega)), Ev.wr1 (by omega), rsubs_loop k hk l from_ to_ hl hw h1 h2 r f (i + 1) _ g2 (by simpa using hf) (by simp; omega)]
      have : decide (120 < (subS w from_ to_).length) = false := by simpa using h
      rw [this, Bool.false_or]; simp
theorem rsubl_eq (k : Nat) (hk : 4000 ≤ k) (l : List Tx) (from_ to_ : Tx) (hl : l.length ≤ 1000) (hw : ∀ w ∈ l, w.length ≤ 1000) (h1 : from_.length ≤ 1000) (h2 : to_.length ≤ 1000) : millwrightref16_List.f k l from_ to_ = some ((listS l from_ to_).1, ((listS l from_ to_).2 : Int)) := by
  unfold millwrightref16_List.f millwrightref16_List.j2 listS
  have e : millwrightref16_List.l5 k l from_ to_ k [] 0 = _ := rsubs_loop k hk l from_ to_ hl hw h1 h2 l k 0 [] rfl (by omega) (by simp)
  rw [e, List.nil_append, Option.bind_some]
  cases Ev.anyLong (l.map fun w => subS w from_ to_) <;> rfl
theorem rget_eq (k : Nat) (hk : 4000 ≤ k) (m : Mp) (hg : Ev.Good m) (hm : m.length ≤ 1000) (n : Tx) : millwrightref14_Env_Get_m0.f k (Ev.vals m) n = some (wordsOf m n) := by
  have hv := Ev.vals_len m
  unfold millwrightref14_Env_Get_m0.f wordsOf
  rw [Ev.at_eq k _ _ (by omega) (by omega), Option.bind_some]
  rcases Ev.atI_spec n m hg.keyed with ⟨q1, q2⟩ | ⟨v, j, q1, q2, q3⟩
  · rw [q1, q2, if_pos (by decide)]; rfl
  · have hj := (List.getElem?_eq_some_iff.1 q3).1
    rw [q1, q2, if_neg (by simp), idx_at rfl hj, Option.bind_some, (List.getElem?_eq_some_iff.1 q3).2]; rfl
theorem rfind_loop (k : Nat) (c : Tx) (l : List Op) (hl : l.length ≤ 100000) : ∀ (r : List Op) (fuel i : Nat), l.drop i = r → r.length < fuel →
    millwrightref17_Find.l3 k c l fuel (i : Int) = some (match r.find? (fun o => o.f_Command == c) with | none => .inl () | some o => .inr (o.f_Text, true))
  | _, 0, _, _, h => by omega
  | [], f + 1, i, hd, _ => by
    have := Ev.at_nil hd
    unfold millwrightref17_Find.l3
    rw [if_neg (by simp; omega)]; rfl
  | o :: r, f + 1, i, hd, hf => by
    obtain ⟨g1, g2, g3⟩ := Ev.at_drop hd
    unfold millwrightref17_Find.l3
    rw [if_pos (by simp; exact g3), g1, Option.bind_some, Ev.wr1 (by omega), rfind_loop k c l hl r f (i + 1) g2 (by simpa using hf), List.find?_cons]
    cases o.f_Command == c <;> rfl
theorem rFind_eq (k : Nat) (out : List Op) (c : Tx) (hl : out.length ≤ 100000) (hk : out.length < k) : millwrightref17_Find.f k c out = some ((findS out c).getD [], (findS out c).isSome) := by
  unfold millwrightref17_Find.f millwrightref17_Find.j1 findS
  have e : millwrightref17_Find.l3 k c out k 0 = _ := rfind_loop k c out hl out k 0 rfl hk
  rw [e, Option.bind_some]
  cases out.find? (fun o => o.f_Command == c) <;> rfl
theorem rpiece_eq (k : Nat) (hk : 4000 ≤ k) (m : Mp) (hg : Ev.Good m) (hm : m.length ≤ 1000) (hw : Words m) (out : List Op) (ho : okO out) (p : Pc) (hp : okP p) : millwrightref17_piece_m0.f k p (Ev.vals m) out = some ((pieceS m out p).1, ((pieceS m out p).2 : Int)) := by
  obtain ⟨w1, w2⟩ := wordsOf_ok hg hw p.f_Text
  have tail : ¬ (p.f_Kind = 0 ∨ p.f_Kind = 1) → millwrightref17_piece_m0.j10 k p (Ev.vals m) out = some ((pieceS m out p).1, ((pieceS m out p).2 : Int)) := fun h01 => by
    unfold millwrightref17_piece_m0.j10 pieceS
    rw [if_neg h01]
    by_cases h2 : p.f_Kind = 2
    · rw [if_pos (by simpa using h2), if_pos h2, rget_eq k hk m hg hm]; rfl
    · rw [if_neg (by simpa using h2), if_neg h2]
      by_cases h3 : p.f_Kind = 3
      · rw [if_pos (by simpa using h3), if_pos h3, rget_eq k hk m hg hm, Option.bind_some, rsubl_eq k hk _ _ _ (by omega) (fun w hx => by have := w2 w hx; omega) hp.2.1 hp.2.2]; rfl
      · rw [if_neg (by simpa using h3), if_neg h3]
        by_cases h4 : p.f_Kind = 4
        · have hl := find_len ho p.f_Text
          have ho1 := ho.1
          rw [if_neg (by simp [h4]), if_pos h4, rFind_eq k out _ (by omega) (by omega), Option.bind_some]
          cases (findS out p.f_Text).isSome with
          | false => rfl
          | true => rw [if_neg (by simp), if_pos rfl, Qf.rfields_eq k _ (by simp only; omega) (by simp only; omega)]; rfl
        · rw [if_pos (by simpa using h4), if_neg h4]; rfl
  have head : (p.f_Kind = 0 ∨ p.f_Kind = 1) → some ([p.f_Text], (0 : Int)) = some ((pieceS m out p).1, ((pieceS m out p).2 : Int)) := fun h01 => by
    unfold pieceS
    rw [if_pos h01]; rfl
  unfold millwrightref17_piece_m0.f millwrightref17_piece_m0.j13
  by_cases h0 : p.f_Kind = 0
  · rw [if_pos (by simpa using h0), if_pos rfl, head (.inl h0)]
  · rw [if_neg (by simpa using h0)]
    by_cases h1 : p.f_Kind = 1
    · rw [if_pos (by simpa using h1), head (.inr h1)]
    · rw [if_neg (by simpa using h1), tail (fun h => h.elim h0 h1)]

theorem inner_loop (k : Nat) (a0 : List Pc) (a1 : List T_env_Var) (a2 : List Op) (v26 : Bool) (v27 : Int) (v39 : Pc) (l : List Tx) (e : Int) (hl : l.length ≤ 10000) (hw : ∀ w ∈ l, w.length ≤ 1000) : ∀ (r : List Tx) (fuel i : Nat) (x : List Tx × Tx), l.drop i = r → r.length < fuel → 0 < i → x.1.length ≤ 1000000 + i → x.2.length ≤ 100000000 →
    millwrightref17_Word_m0.l49 k a0 a1 a2 v26 v27 v39 (l, e) fuel x.1 x.2 (i : Int) = some (goR x r)
  | _, 0, _, _, _, h, _, _, _ => by omega
  | [], f + 1, i, x, hd, _, _, _, _ => by
    have := Ev.at_nil hd
    unfold millwrightref17_Word_m0.l49
    rw [if_neg (by simp; omega)]; rfl
  | y :: r, f + 1, i, x, hd, hf, h0, h1, h2 => by
    obtain ⟨g1, g2, g3⟩ := Ev.at_drop hd
    have hy := hw y (List.mem_of_mem_drop (hd ▸ List.mem_cons_self))
    have hlim : LIM = 4294967296 := rfl
    unfold millwrightref17_Word_m0.l49 millwrightref17_Word_m0.j62 millwrightref17_Word_m0.j57
    rw [if_pos (by simp; exact g3), g1, Option.bind_some, if_pos (by simp; omega), if_pos (by simp; omega), if_pos (by simp; omega), Ev.wr1 (by omega), List.nil_append]
    exact inner_loop k a0 a1 a2 v26 v27 v39 l e hl hw r f (i + 1) (x.1 ++ [x.2], y) g2 (by simpa using hf) (by omega) (by simp; omega) (by simp only; omega)
theorem inner_eq (k : Nat) (hk : 4000 ≤ k) (a0 : List Pc) (a1 : List T_env_Var) (a2 : List Op) (v26 : Bool) (v27 : Int) (v39 : Pc) (l : List Tx) (e : Int) (hl : l.length ≤ 1001) (hw : ∀ w ∈ l, w.length ≤ 1000) (x : List Tx × Tx) (h1 : x.1.length ≤ 1000000) (h2 : x.2.length ≤ 10000000) :
    millwrightref17_Word_m0.l49 k a0 a1 a2 v26 v27 v39 (l, e) k x.1 x.2 0 = some (joinS x l) := by
  obtain ⟨f, rfl⟩ : ∃ f, k = f + 1 := ⟨k - 1, by omega⟩
  cases l with
  | nil =>
    unfold millwrightref17_Word_m0.l49
    rw [if_neg (by simp)]; rfl
  | cons y r =>
    have hy := hw y List.mem_cons_self
    simp only [List.length_cons] at hl
    have g1 : idx (y :: r) 0 = some y := rfl
    unfold millwrightref17_Word_m0.l49 millwrightref17_Word_m0.j62 millwrightref17_Word_m0.j57
    rw [if_pos (by simp), g1, Option.bind_some, if_neg (by decide), if_pos (by omega), show IntKind.i64.wrap (0 + 1) = ((1 : Nat) : Int) from by decide]
    exact inner_loop (f + 1) a0 a1 a2 v26 v27 v39 (y :: r) e (by simp; omega) hw r f 1 (x.1, x.2 ++ y) rfl (by omega) (by omega) (by simp only; omega) (by simp; omega)
def outQ (x : Sum ((List Tx × Tx) × Bool) Nat) : Sum (List Tx × Tx × Bool) (List Tx × Int) := match x with | .inl q => .inl (q.1.1, q.1.2, !q.2) | .inr e => .inr ([], (e : Int))
theorem rword_loop (k : Nat) (hk : 4000 ≤ k) (m : Mp) (hg : Ev.Good m) (hm : m.length ≤ 1000) (hw : Words m) (out : List Op) (ho : okO out) (l : List Pc) (hl : l.length ≤ 500) (hp : ∀ p ∈ l, okP p) : ∀ (r : List Pc) (fuel i : Nat) (x : List Tx × Tx) (b : Bool), l.drop i = r → r.length < fuel → x.1.length ≤ 1001 * i → x.2.length ≤ 1000 * i →
    millwrightref17_Word_m0.l28 k l (Ev.vals m) out fuel x.1 x.2 (!b) (i : Int) = some (outQ (wordE m out r x b))
  | _, 0, _, _, _, _, h, _, _ => by omega
  | [], f + 1, i, x, b, hd, _, _, _ => by
    have := Ev.at_nil hd
    unfold millwrightref17_Word_m0.l28
    rw [if_neg (by simp; omega)]; rfl
  | p :: r, f + 1, i, x, b, hd, hf, h1, h2 => by
    obtain ⟨g1, g2, g3⟩ := Ev.at_drop hd
    have hpp := hp p (List.mem_of_mem_drop (hd ▸ List.mem_cons_self))
    obtain ⟨q1, q2, q3⟩ := piece_len hg hw ho hpp
    obtain ⟨j1, j2⟩ := join_len x (pieceS m out p).1 q1 q2
    unfold millwrightref17_Word_m0.l28 millwrightref17_Word_m0.j45 millwrightref17_Word_m0.j38 wordE
    rw [if_pos (by simp; exact g3), g1, Option.bind_some, pc_eta, rpiece_eq k hk m hg hm hw out ho p hpp, Option.bind_some]
    by_cases h0 : (pieceS m out p).2 = 0
    · rw [if_neg (by simp [h0]), if_pos h0, inner_eq k hk l (Ev.vals m) out _ _ p _ _ q1 q2 x (by omega) (by omega), Option.bind_some, Ev.wr1 (by omega)]
      have ih := fun c => rword_loop k hk m hg hm hw out ho l hl hp r f (i + 1) (joinS x (pieceS m out p).1) c g2 (by simpa using hf) (by omega) (by omega)
      cases b with
      | true =>
        rw [if_neg (by decide), Bool.true_and, ← ih (p.f_Kind != 1)]
        simp [bne]
      | false => rw [if_pos (by decide), Bool.false_and, ← ih false]; rfl
    · rw [if_pos (by simp; omega), if_neg h0]; rfl
theorem rlong_loop (k : Nat) (a1 : List T_env_Var) (x : List Tx × Tx) (hl : (rowS x).length ≤ 1000) : ∀ (r : List Tx) (fuel i : Nat), (rowS x).drop i = r → r.length < fuel →
    millwrightref17_Word_m0.l8 k a1 x.1 x.2 fuel (i : Int) = some (if Ev.anyLong r then .inr ([], 2) else .inl ())
  | _, 0, _, _, h => by omega
  | [], f + 1, i, hd, _ => by
    have := Ev.at_nil hd
    unfold millwrightref17_Word_m0.l8
    have e : x.1 ++ [x.2] = rowS x := rfl
    rw [e, if_neg (by simp; omega)]; rfl
  | w :: r, f + 1, i, hd, hf => by
    obtain ⟨g1, g2, g3⟩ := Ev.at_drop hd
    have e : x.1 ++ [x.2] = rowS x := rfl
    unfold millwrightref17_Word_m0.l8
    rw [e, if_pos (by simp; exact g3), Ev.rix g1, Ev.wr1 (by omega), rlong_loop k a1 x hl r f (i + 1) g2 (by simpa using hf)]
    have e2 : Ev.anyLong (w :: r) = (decide (120 < w.length) || Ev.anyLong r) := rfl
    rw [e2]
    by_cases h : 120 < w.length
    · rw [if_pos (by simp; omega), if_pos (by simp [h])]
    · have : decide (120 < w.length) = false := by simpa using h
      rw [if_neg (by simp; omega), this, Bool.false_or]
theorem rfin_eq (k : Nat) (hk : 4000 ≤ k) (a1 : List T_env_Var) (x : List Tx × Tx) (b : Bool) (hx : x.1.length ≤ 1000000) : millwrightref17_Word_m0.j23 k a1 x.1 x.2 (!b) = some ((finS x b).1, ((finS x b).2 : Int)) := by
  have hlim : LIM = 4294967296 := rfl
  have hl : (rowS x).length = x.1.length + 1 := by unfold rowS; simp
  have tail : millwrightref17_Word_m0.j17 k a1 x.1 x.2 = some (if boundS (rowS x) = 0 then (rowS x, (0 : Int)) else ([], ((boundS (rowS x) : Nat) : Int))) := by
    unfold millwrightref17_Word_m0.j17 millwrightref17_Word_m0.j6 boundS
    have e : x.1 ++ [x.2] = rowS x := rfl
    rw [if_pos (by simp; omega), e]
    by_cases h : (rowS x).length > 40
    · rw [if_pos (by simp; omega), if_pos h]; rfl
    · have e8 : millwrightref17_Word_m0.l8 k a1 x.1 x.2 k 0 = _ := rlong_loop k a1 x (by omega) (rowS x) k 0 rfl (by omega)
      rw [if_neg (by simp; omega), if_neg h, e8, Option.bind_some]
      cases Ev.anyLong (rowS x) <;> rfl
  unfold millwrightref17_Word_m0.j23 millwrightref17_Word_m0.j20 finS
  rw [tail]
  by_cases h1 : x.1 = []
  · by_cases h2 : x.2 = []
    · cases b with
      | true => simp [h1, h2]
      | false =>
        rw [if_neg (show ¬ (x.1 = [] ∧ x.2 = [] ∧ false = true) from fun h => by cases h.2.2)]
        simp only [Bool.not_not, Bool.false_eq_true, if_false, ite_self]
        split <;> rfl
    · rw [if_neg (show ¬ (x.1 = [] ∧ x.2 = [] ∧ b = true) from fun h => h2 h.2.1)]
      have : ¬ (((x.2.length : Nat) : Int) == 0) = true := by
        have := List.length_pos_iff.2 h2
        rw [beq_iff_eq]; omega
      rw [if_neg this]
      simp only [Bool.false_eq_true, if_false, ite_self]
      split <;> rfl
  · rw [if_neg (show ¬ (x.1 = [] ∧ x.2 = [] ∧ b = true) from fun h => h1 h.1)]
    have : ¬ (((x.1.length : Nat) : Int) == 0) = true := by
      have := List.length_pos_iff.2 h1
      rw [beq_iff_eq]; omega
    rw [if_neg this]
    simp only [Bool.false_eq_true, if_false]
    split <;> rfl
theorem rword_eq (k : Nat) (hk : 4000 ≤ k) (m : Mp) (hg : Ev.Good m) (hm : m.length ≤ 1000) (hw : Words m) (out : List Op) (ho : okO out) (l : List Pc) (hl : l.length ≤ 500) (hp : ∀ p ∈ l, okP p) : millwrightref17_Word_m0.f k l (Ev.vals m) out = some ((wordS m out l).1, ((wordS m out l).2 : Int)) := by
  unfold millwrightref17_Word_m0.f wordS
  have e : millwrightref17_Word_m0.l28 k l (Ev.vals m) out k [] [] false 0 = _ := rword_loop k hk m hg hm hw out ho l hl hp l k 0 ([], []) true rfl (by omega) (by simp) (by simp)
  rw [e, Option.bind_some]
  have hq := wordE_len hg hw ho l ([], []) true hp
  cases h : wordE m out l ([], []) true with
  | inr e => rfl
  | inl q =>
    have := hq q h
    simp only [outQ, List.length_nil, Nat.zero_add] at this ⊢
    rw [rfin_eq k hk _ q.1 q.2 (by omega)]
def outT (x : Sum (List Tx) Nat) : Sum (List Tx) (List Tx × Int) := match x with | .inl q => .inl q | .inr e => .inr ([], (e : Int))
theorem rwords_loop (k : Nat) (hk : 4000 ≤ k) (m : Mp) (hg : Ev.Good m) (hm : m.length ≤ 1000) (hw : Words m) (out : List Op) (ho : okO out) (l : List (List Pc)) (hl : l.length ≤ 500) (hp : ∀ w ∈ l, w.length ≤ 500 ∧ ∀ p ∈ w, okP p) : ∀ (r : List (List Pc)) (fuel i : Nat) (acc : List Tx), l.drop i = r → r.length < fuel → acc.length ≤ 40 * i →
    millwrightref17_Words_m0.l6 k l (Ev.vals m) out fuel acc (i : Int) = some (outT (wordsE m out r acc))
  | _, 0, _, _, _, h, _ => by omega
  | [], f + 1, i, acc, hd, _, _ => by
    have := Ev.at_nil hd
    unfold millwrightref17_Words_m0.l6
    rw [if_neg (by simp; omega)]; rfl
  | w :: r, f + 1, i, acc, hd, hf, ha => by
    obtain ⟨g1, g2, g3⟩ := Ev.at_drop hd
    have hx := hp w (List.mem_of_mem_drop (hd ▸ List.mem_cons_self))
    have h40 := wordS_len m out w
    have hlim : LIM = 4294967296 := rfl
    unfold millwrightref17_Words_m0.l6 wordsE
    rw [if_pos (by simp; exact g3), g1, Option.bind_some, rword_eq k hk m hg hm hw out ho w hx.1 hx.2, Option.bind_some]
    by_cases h0 : (wordS m out w).2 = 0
    · rw [if_neg (by simp [h0]), if_pos h0, if_pos (by simp only; omega), Ev.wr1 (by omega), rwords_loop k hk m hg hm hw out ho l hl hp r f (i + 1) _ g2 (by simpa using hf) (by simp; omega)]
    · rw [if_pos (by simp; omega), if_neg h0]; rfl
theorem rwords_eq (k : Nat) (hk : 4000 ≤ k) (m : Mp) (hg : Ev.Good m) (hm : m.length ≤ 1000) (hw : Words m) (out : List Op) (ho : okO out) (l : List (List Pc)) (hl : l.length ≤ 500) (hp : ∀ w ∈ l, w.length ≤ 500 ∧ ∀ p ∈ w, okP p) : millwrightref17_Words_m0.f k l (Ev.vals m) out = some ((wordsS m out l).1, ((wordsS m out l).2 : Int)) := by
  unfold millwrightref17_Words_m0.f wordsS millwrightref17_Words_m0.j3
  have e : millwrightref17_Words_m0.l6 k l (Ev.vals m) out k [] 0 = _ := rwords_loop k hk m hg hm hw out ho l hl hp l k 0 [] rfl (by omega) (by simp)
  rw [e, Option.bind_some]
  cases wordsE m out l [] with
  | inr e => rfl
  | inl q =>
    simp only [outT]
    by_cases h : q.length > 40
    · rw [if_pos (by simp; omega), if_pos h]; rfl
    · rw [if_neg (by simp; omega), if_neg h]; rfl
end Go.Proofs.YtldepagjdbcmgaaGreatDoor.Ex
