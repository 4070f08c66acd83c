/- A part of the proof of a given law: DOVDeltaOf. Own work, printed in part by a program of mine. -/
import Derived.Test.YtkdpaglpieamgaaDoorK8DOVF
namespace Go.Proofs.YtkdpaglpieamgaaDoor
open Go Go.AM Go.ChangeShapes Go.ChangeAt Go.RowKit
set_option linter.unusedVariables false
set_option linter.unusedSimpArgs false
set_option maxRecDepth 100000

/-! ### the document's rising texts -/
def low (s : Tx) (out : List Tx) : List Tx := out.takeWhile fun x => Op.bytesLess x s
def high (s : Tx) (out : List Tx) : List Tx := out.dropWhile fun x => Op.bytesLess x s
theorem low_high (s : Tx) (out : List Tx) : low s out ++ high s out = out := List.takeWhile_append_dropWhile
theorem pos_loop (k : Nat) (a out : List Tx) (v4 : Int) (s : Tx) (ho : out.length ≤ 10000) : ∀ (l : List Tx) (fuel i : Nat), out.drop i = l → l.length < fuel → millwrightref01_Sorted.l30 k a out v4 s fuel (i : Int) = some (((i + (low s l).length : Nat)) : Int)
  | _, 0, _, _, h => by omega
  | [], f + 1, i, hl, _ => by
    have := at_nil hl
    unfold millwrightref01_Sorted.l30 millwrightref01_Sorted.j37
    rw [if_neg (by simp; omega), if_neg (by simp)]; simp [low]
  | x :: r, f + 1, i, hl, hf => by
    obtain ⟨g1, g2, g3⟩ := at_drop hl
    have ih := pos_loop k a out v4 s ho r f (i + 1) g2 (by simpa using hf)
    unfold millwrightref01_Sorted.l30 millwrightref01_Sorted.j37 millwrightref01_Sorted.j34
    rw [if_pos (by simp; exact g3), rix g1, wr1 (by omega), ih]
    unfold low
    cases h : Op.bytesLess x s
    · rw [if_neg (by simp), List.takeWhile_cons_of_neg (by simp [h])]; simp
    · rw [if_pos rfl, List.takeWhile_cons_of_pos (by simp [h]), List.length_cons]
      congr 2; omega
/-- Where the text stands already, nothing turns. -/
def insT (s : Tx) (out : List Tx) : List Tx := if (high s out).head? = some s then out else low s out ++ s :: high s out
theorem insT_spec (s : Tx) {out : List Tx} (h : Strict out) : Strict (insT s out) ∧ ∀ x, x ∈ insT s out ↔ x = s ∨ x ∈ out := by
  have hlow : ∀ x ∈ low s out, Op.bytesLess x s = true := fun x hx => by
    have := List.all_takeWhile (p := fun x => Op.bytesLess x s) (l := out)
    exact List.all_eq_true.1 this x hx
  unfold insT
  by_cases hh : (high s out).head? = some s
  · rw [if_pos hh]
    refine ⟨h, fun x => ⟨.inr, ?_⟩⟩
    rintro (rfl | hx)
    · rw [← low_high x out]
      exact List.mem_append.2 (.inr (List.mem_of_mem_head? hh))
    · exact hx
  · rw [if_neg hh]
    have hs := h
    rw [← low_high s out] at hs
    obtain ⟨p1, p2, p3⟩ := List.pairwise_append.1 hs
    have hhigh : ∀ x ∈ high s out, Op.bytesLess s x = true := by
      cases e : high s out with
      | nil => intro x hx; cases hx
      | cons y r =>
        have hy : ¬ Op.bytesLess y s = true := by
          have := List.head?_dropWhile_not (p := fun x => Op.bytesLess x s) (l := out)
          show ¬ (fun x => Op.bytesLess x s) y = true
          have e' : (List.dropWhile (fun x => Op.bytesLess x s) out).head? = some y := by
            show (high s out).head? = some y
            rw [e]; rfl
          rw [e'] at this
          simpa using this
        have hne : y ≠ s := fun e2 => hh (by rw [e, e2]; rfl)
        have hsy : Op.bytesLess s y = true := by
          rcases less_total hne with h' | h'
          · exact absurd h' hy
          · exact h'
        rw [e] at p2
        intro x hx
        rcases List.mem_cons.1 hx with rfl | hx
        · exact hsy
        · exact less_trans hsy ((List.pairwise_cons.1 p2).1 x hx)
    refine ⟨List.pairwise_append.2 ⟨p1, List.pairwise_cons.2 ⟨hhigh, p2⟩, fun x hx y hy => ?_⟩, fun x => ?_⟩
    · rcases List.mem_cons.1 hy with rfl | hy
      · exact hlow x hx
      · exact p3 x hx y hy
    · rw [List.mem_append, List.mem_cons]
      have : x ∈ out ↔ x ∈ low s out ∨ x ∈ high s out := by rw [← List.mem_append, low_high]
      rw [this]
      constructor
      · rintro (h | h | h)
        · exact .inr (.inl h)
        · exact .inl h
        · exact .inr (.inr h)
      · rintro (h | h | h)
        · exact .inr (.inl h)
        · exact .inl h
        · exact .inr (.inr h)
theorem insT_len (s : Tx) (out : List Tx) : (insT s out).length ≤ out.length + 1 := by
  unfold insT
  split
  · omega
  · have := congrArg List.length (low_high s out)
    rw [List.length_append] at this ⊢
    simp only [List.length_cons]; omega
theorem ins_step (k : Nat) (rec : List Tx → Int → Option (List Tx)) (a out : List Tx) (i : Nat) (s : Tx) (hi : i < 100000) (ho : out.length ≤ 10000) : millwrightref01_Sorted.j28 k rec a out (i : Int) s (((low s out).length : Nat) : Int) = rec (insT s out) ((i + 1 : Nat) : Int) := by
  have hlen := congrArg List.length (low_high s out)
  rw [List.length_append] at hlen
  have htake : out.take (low s out).length = low s out := by
    have h := List.take_left (l₁ := low s out) (l₂ := high s out)
    rw [low_high] at h; exact h
  have hdrop : out.drop (low s out).length = high s out := by
    have h := List.drop_left (l₁ := low s out) (l₂ := high s out)
    rw [low_high] at h; exact h
  have hl : LIM = 4294967296 := rfl
  have e21 : millwrightref01_Sorted.j21 k rec a out (i : Int) s (((low s out).length : Nat) : Int) = rec (low s out ++ s :: high s out) ((i + 1 : Nat) : Int) := by
    unfold millwrightref01_Sorted.j21 millwrightref01_Sorted.j11
    have t1 : ((low s out).length : Int).toNat = (low s out).length := by omega
    have t2 : (out.length : Int).toNat = out.length := by omega
    rw [t1, t2, List.drop_zero, htake, Nat.zero_add, hdrop]
    have t3 : (high s out).take (out.length - (low s out).length) = high s out := List.take_of_length_le (by omega)
    rw [t3, if_pos ⟨by omega, by omega, by omega⟩, if_pos (by omega), if_pos (by simp; omega), if_pos (by simp; omega), if_pos ⟨by omega, by omega, by omega⟩, if_pos (by omega), if_pos (by simp; omega), wr1 (by omega)]
    simp
  unfold millwrightref01_Sorted.j28 millwrightref01_Sorted.j24 millwrightref01_Sorted.j11
  rw [e21]
  unfold insT
  cases e : high s out with
  | nil =>
    rw [e] at hlen
    simp only [List.length_nil] at hlen
    rw [if_neg (by rw [decide_eq_true_eq]; omega), if_neg (by simp), if_neg (by simp)]
  | cons y r =>
    have hlt : (low s out).length < out.length := by rw [e] at hlen; simp at hlen; omega
    have hg : out[(low s out).length]? = some y := by
      have := congrArg (fun l => l[0]?) hdrop
      simpa [e] using this
    have hidx : idx out (((low s out).length : Nat) : Int) = some y := by
      rw [idx_at rfl hlt]
      rw [List.getElem?_eq_getElem hlt] at hg
      exact hg
    rw [if_pos (by rw [decide_eq_true_eq]; omega), rix hidx, wr1 (by omega)]
    by_cases hy : y = s
    · rw [if_pos (by simpa using hy), if_pos (by simp [hy])]
    · rw [if_neg (by simpa using hy), if_neg (by simp [hy])]
theorem rsort_loop (k : Nat) (a : List Tx) (ha : a.length ≤ 1000) (hk : 20000 < k) : ∀ (l : List Tx) (fuel i : Nat) (out : List Tx), a.drop i = l → l.length < fuel → out.length ≤ i → i ≤ a.length → Strict out →
    ∃ T, millwrightref01_Sorted.l5 k a fuel out (i : Int) = some T ∧ Strict T ∧ ∀ x, x ∈ T ↔ x ∈ out ∨ x ∈ l
  | _, 0, _, _, _, h, _, _, _ => by omega
  | [], f + 1, i, out, hl, _, _, _, hs => by
    have := at_nil hl
    unfold millwrightref01_Sorted.l5
    exact ⟨out, by rw [if_neg (by simp; omega)], hs, fun x => by simp⟩
  | s :: r, f + 1, i, out, hl, hf, ho, hia, hs => by
    obtain ⟨g1, g2, g3⟩ := at_drop hl
    obtain ⟨q1, q2⟩ := insT_spec s hs
    have hln := insT_len s out
    obtain ⟨T, e1, e2, e3⟩ := rsort_loop k a ha hk r f (i + 1) (insT s out) g2 (by simpa using hf) (by omega) (by omega) q1
    refine ⟨T, ?_, e2, fun x => ?_⟩
    · unfold millwrightref01_Sorted.l5
      have e0 : millwrightref01_Sorted.l30 k a out (i : Int) s k 0 = _ := pos_loop k a out (i : Int) s (by omega) out k 0 rfl (by omega)
      rw [if_pos (by simp; exact g3), g1, Option.bind_some, e0, Option.bind_some, Nat.zero_add, ins_step k _ a out i s (by omega) (by omega), e1]
    · rw [e3, q2, List.mem_cons]
      constructor
      · rintro ((h | h) | h)
        · exact .inr (.inl h)
        · exact .inl h
        · exact .inr (.inr h)
      · rintro (h | h | h)
        · exact .inl (.inr h)
        · exact .inl (.inl h)
        · exact .inr h
theorem rsort_eq (k : Nat) (a : List Tx) (ha : a.length ≤ 1000) (hk : 20000 < k) : millwrightref01_Sorted.f k a = some (sortedS a) := by
  unfold millwrightref01_Sorted.f millwrightref01_Sorted.j2
  obtain ⟨T, e1, e2, e3⟩ := rsort_loop k a ha hk a k 0 [] rfl (by omega) (by simp) (by omega) .nil
  have e1 : millwrightref01_Sorted.l5 k a k [] 0 = some T := e1
  obtain ⟨h1, h2⟩ := sortedS_spec a
  have : T = sortedS a := strict_eq T (sortedS a) e2 h1 fun x => by rw [e3, h2]; simp
  rw [e1, this]; rfl

/-! ### the document's changes -/
theorem rnames (m : Mp) (h : Keyed m) : (vals m).map (·.f_Name) = keys m := by
  unfold vals keys
  rw [List.map_map]
  exact List.map_congr_left fun y hy => (h y hy).symm
theorem nm1_loop (k : Nat) (w w1 : List Fl) (hw : w.length ≤ 1000) : ∀ (l : List Fl) (fuel i : Nat) (out : List Tx), w.drop i = l → l.length < fuel → out.length ≤ i + 1000 → millwrightref41_Of_m0.l45 k w w1 fuel out (i : Int) = some (out ++ l.map (·.f_Name))
  | _, 0, _, _, _, h, _ => by omega
  | [], f + 1, i, out, hl, _, _ => by
    have := at_nil hl
    unfold millwrightref41_Of_m0.l45
    rw [if_neg (by simp; omega)]; simp
  | c :: r, f + 1, i, out, hl, hf, ho => by
    obtain ⟨g1, g2, g3⟩ := at_drop hl
    unfold millwrightref41_Of_m0.l45
    rw [if_pos (by simp; exact g3), g1, Option.bind_some, wr1 (by omega), if_pos (lim_ok (by omega)), nm1_loop k w w1 hw r f (i + 1) _ g2 (by simpa using hf) (by simp; omega)]; simp
theorem nm2_loop (k : Nat) (w1 w : List Fl) (hw : w.length ≤ 1000) : ∀ (l : List Fl) (fuel i : Nat) (out : List Tx), w.drop i = l → l.length < fuel → out.length ≤ i + 1000 → millwrightref41_Of_m0.l34 k w1 w fuel out (i : Int) = some (out ++ l.map (·.f_Name))
  | _, 0, _, _, _, h, _ => by omega
  | [], f + 1, i, out, hl, _, _ => by
    have := at_nil hl
    unfold millwrightref41_Of_m0.l34
    rw [if_neg (by simp; omega)]; simp
  | c :: r, f + 1, i, out, hl, hf, ho => by
    obtain ⟨g1, g2, g3⟩ := at_drop hl
    unfold millwrightref41_Of_m0.l34
    rw [if_pos (by simp; exact g3), g1, Option.bind_some, wr1 (by omega), if_pos (lim_ok (by omega)), nm2_loop k w1 w hw r f (i + 1) _ g2 (by simpa using hf) (by simp; omega)]; simp
theorem at_get {w : List Fl} {j : Nat} {v : Fl} (h : w[j]? = some v) : idx w (j : Int) = some v := by
  have hj : j < w.length := by
    rcases Nat.lt_or_ge j w.length with h' | h'
    · exact h'
    · rw [List.getElem?_eq_none_iff.2 h'] at h; cases h
  rw [idx_at rfl hj]
  rw [List.getElem?_eq_getElem hj] at h
  exact h
theorem rof_loop2 (k : Nat) (hk : 20000 < k) (m m' : Mp) (hg : Good m) (hg' : Good m') (hm : m.length ≤ 200) (hm' : m'.length ≤ 200) (S : List Tx) (hS : S.length ≤ 1000) (hc : ∀ n ∈ S, mget n m ≠ none ∨ mget n m' ≠ none) : ∀ (l : List Tx) (fuel i : Nat) (out : List Rc), S.drop i = l → l.length < fuel → out.length ≤ i →
    millwrightref41_Of_m0.l8 k (vals m) (vals m') S fuel out (i : Int) = some (out ++ (chgs m m' l).map toR)
  | _, 0, _, _, _, h, _ => by omega
  | [], f + 1, i, out, hl, _, _ => by
    have := at_nil hl
    unfold millwrightref41_Of_m0.l8
    rw [if_neg (by simp; omega)]; simp [chgs]
  | n :: r, f + 1, i, out, hl, hf, ho => by
    obtain ⟨g1, g2, g3⟩ := at_drop hl
    have hn : n ∈ S := List.mem_of_mem_drop (hl ▸ List.mem_cons_self)
    have ih := fun out h => rof_loop2 k hk m m' hg hg' hm hm' S hS hc r f (i + 1) out g2 (by simpa using hf) h
    have hcc : chgs m m' (n :: r) = chg m m' n ++ chgs m m' r := by simp [chgs]
    rw [hcc]
    unfold millwrightref41_Of_m0.l8 millwrightref41_Of_m0.j14
    rw [if_pos (by simp; exact g3), g1, Option.bind_some, wr1 (by omega), at_eq k _ _ (by rw [vals_len]; omega) (by rw [vals_len]; omega), Option.bind_some, at_eq k _ _ (by rw [vals_len]; omega) (by rw [vals_len]; omega), Option.bind_some]
    have hcn := hc n hn
    unfold chg
    rcases atI_spec n m hg.keyed with ⟨q1, q2⟩ | ⟨v, j, q1, q2, q3⟩
    · rcases atI_spec n m' hg'.keyed with ⟨r1, r2⟩ | ⟨b, j', r1, r2, r3⟩
      · rw [q1, r1] at hcn; simp at hcn
      · rw [q1, q2, r1, r2, if_pos (by decide), at_get r3, Option.bind_some, fl_eta, if_pos (lim_ok (by omega)), ih _ (by simp; omega)]
        simp [toR]
    · rcases atI_spec n m' hg'.keyed with ⟨r1, r2⟩ | ⟨b, j', r1, r2, r3⟩
      · rw [q1, q2, r1, r2, if_neg (by rw [decide_eq_true_eq]; omega), if_pos (by decide), at_get q3, Option.bind_some, fl_eta, if_pos (lim_ok (by omega)), ih _ (by simp; omega)]
        simp [toR]
      · have hq : (v.f_Name == b.f_Name && (v.f_Content == b.f_Content && (v.f_Time == b.f_Time && true))) = feqB v b := rfl
        rw [q1, q2, r1, r2, if_neg (by rw [decide_eq_true_eq]; omega), if_neg (by rw [decide_eq_true_eq]; omega), at_get q3, Option.bind_some, at_get r3, Option.bind_some, Option.bind_some, Option.bind_some, hq, fl_eta, fl_eta]
        show _ = some (out ++ ((if feqB v b = true then [] else [(⟨2, v, b⟩ : Ch)]) ++ chgs m m' r).map toR)
        cases feqB v b
        · simp only [Bool.not_false, if_true, Bool.false_eq_true, if_false]
          rw [if_pos (lim_ok (by omega)), ih _ (by simp; omega)]; simp [toR]
        · simp only [Bool.not_true, Bool.false_eq_true, if_false, if_true]
          rw [ih _ (by omega)]; simp
theorem rof_eq (k : Nat) (hk : 20000 < k) (m m' : Mp) (hg : Good m) (hg' : Good m') (hm : m.length ≤ 200) (hm' : m'.length ≤ 200) : millwrightref41_Of_m0.f k (vals m) (vals m') = some ((chgs m m' (allK m m')).map toR) := by
  unfold millwrightref41_Of_m0.f millwrightref41_Of_m0.j42 millwrightref41_Of_m0.j31 millwrightref41_Of_m0.j4
  have h1 := vals_len m
  have h2 := vals_len m'
  have e1 : millwrightref41_Of_m0.l45 k (vals m) (vals m') k [] 0 = _ := nm1_loop k (vals m) (vals m') (by omega) (vals m) k 0 [] rfl (by omega) (by simp)
  have e2 : millwrightref41_Of_m0.l34 k (vals m) (vals m') k (keys m) 0 = _ := nm2_loop k (vals m) (vals m') (by omega) (vals m') k 0 (keys m) rfl (by omega) (by rw [keys_len]; omega)
  have h3 := keys_len m
  have h4 := keys_len m'
  have hsl := sortedS_len (keys m ++ keys m')
  rw [List.length_append] at hsl
  have e3 : millwrightref41_Of_m0.l8 k (vals m) (vals m') (allK m m') k [] 0 = _ := rof_loop2 k hk m m' hg hg' hm hm' (allK m m') (by show (sortedS _).length ≤ _; omega) (fun n hn => ((allK_cov m m').all n).1 hn) (allK m m') k 0 [] rfl (by show (sortedS _).length < _; omega) (by simp)
  rw [e1, List.nil_append, rnames m hg.keyed, Option.bind_some, e2, rnames m' hg'.keyed, Option.bind_some, rsort_eq k _ (by rw [List.length_append]; omega) hk, Option.bind_some]
  show (millwrightref41_Of_m0.l8 k (vals m) (vals m') (allK m m') k [] 0).bind _ = _
  rw [e3]; rfl

theorem deltaOf_true (a0 a1 : List Fl) (_ : Wf Un (.list (.named 3)) a0) (_ : Wf Un (.list (.named 3)) a1) : ∃ k, millwrightlaw41_DeltaOf.f k a0 a1 = some true := by
  refine ⟨40000, ?_⟩
  have ali : millwrightlaw41_alive.f 40000 = some true := by decide +kernel
  unfold millwrightlaw41_DeltaOf.f
  rw [ali, Option.bind_some, if_neg (by decide)]
  obtain ⟨r, hr, h | ⟨m, m', rfl, hg, hg', hv, hv', hl, hl'⟩⟩ := two_eq 40000 (by omega) a0 a1
  · rw [hr, Option.bind_some, h, if_pos (by simp)]
  · rw [hr, Option.bind_some]
    simp only [Bool.not_true, Bool.false_eq_true, if_false, if_true]
    have h3 := keys_len m
    have h4 := keys_len m'
    have hsl := sortedS_len (keys m ++ keys m')
    rw [List.length_append] at hsl
    have hcov := allK_cov m m'
    have hSl : (allK m m').length ≤ 100 := by show (sortedS _).length ≤ _; omega
    have hLl := chgs_len (m := m) (m' := m') (allK m m')
    obtain ⟨hnd, _⟩ := chgs_nodup hg.keyed hg'.keyed (allK m m') hcov.nodup fun n hn => (hcov.all n).1 hn
    have hchk : delta_Check.f 40000 (chgs m m' (allK m m')) = some 0 := check_eq 40000 (by omega) _ (by omega) (fun c hc => by
      obtain ⟨n, hn, hI⟩ := chgs_is hcov hc
      exact check_ok 40000 hI hg.keyed hg'.keyed) hnd
    rw [dof_eq 40000 (by omega) m m' (by omega) (by omega) hg hg', Option.bind_some, rof_eq 40000 (by omega) m m' hg hg' (by omega) (by omega), Option.bind_some, sameR_eq 40000 _ (by omega) (by omega), Option.bind_some, hchk, Option.bind_some, shows_eq 40000 (by omega) m hg (by omega), Option.bind_some]
    simp only [Bool.not_true, Bool.false_eq_true, if_false, beq_self_eq_true]
    unfold millwrightlaw41_DeltaOf.j27 millwrightlaw41_DeltaOf.j24 millwrightlaw41_DeltaOf.j20 millwrightlaw41_DeltaOf.j16
    have ec : tree_Tree_Copy_m0.f 40000 m = some m := rfl
    rw [if_neg (by simp)]
    simp only [ec, Option.bind_some]
    rw [apply_eq 40000 (by omega) hg hg' hv' hl' hcov (by omega), Option.bind_some]
    simp only [beq_self_eq_true, Bool.not_true, Bool.false_eq_true, if_false]
    rw [same_eq 40000 (by omega) hg' hg' (by omega), Option.bind_some, back_eq 40000 _ (by omega) (by omega), Option.bind_some, back_chgs _ (fun n hn => (hcov.all n).1 hn), apply_eq 40000 (by omega) hg' hg hv hl hcov.symm (by omega), Option.bind_some]
    simp only [decide_true, Bool.not_true, Bool.false_eq_true, if_false, beq_self_eq_true, if_true]
    rw [same_eq 40000 (by omega) hg hg (by omega), Option.bind_some]
    simp only [decide_true, if_true]
    rw [shows_eq 40000 (by omega) m' hg' (by omega)]; rfl
end Go.Proofs.YtkdpaglpieamgaaDoor
