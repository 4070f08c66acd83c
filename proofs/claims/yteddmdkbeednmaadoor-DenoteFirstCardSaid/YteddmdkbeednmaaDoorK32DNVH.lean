/- Which nodes may span nothing; the bytes with which texts may begin. -/
import Derived.Test.YteddmdkbeednmaaDoorK32DNVG
namespace Go.Proofs.YteddmdkbeednmaaDoor.Dn
open Go Go.AM
set_option linter.unusedVariables false
set_option linter.unusedSimpArgs false
set_option maxRecDepth 100000
theorem bits_or {a b : Nat} (ha : a < 2 ^ 64) (hb : b < 2 ^ 64) : bits .or .u64 (a : Int) (b : Int) = ((a ||| b : Nat) : Int) := by
  unfold bits
  have h : a ||| b < 2 ^ 64 := Nat.or_lt_two_pow ha hb
  show IntKind.u64.wrap (((BitVec.ofInt 64 (a : Int) ||| BitVec.ofInt 64 (b : Int)).toNat : Nat) : Int) = _
  rw [BitVec.toNat_or, BitVec.ofInt_natCast, BitVec.ofInt_natCast, BitVec.toNat_ofNat, BitVec.toNat_ofNat, Nat.mod_eq_of_lt ha, Nat.mod_eq_of_lt hb, wu64 (by omega) (by omega)]
def orW (a b : Int) : Int := bits .or .u64 a b
def uni (a b : List Int) : List Int := [orW (a.getD 0 0) (b.getD 0 0), orW (a.getD 1 0) (b.getD 1 0), orW (a.getD 2 0) (b.getD 2 0), orW (a.getD 3 0) (b.getD 3 0)]
theorem ok_four {w : List Int} (h : SetOk w) : ∃ a b c d : Nat, w = [(a : Int), (b : Int), (c : Int), (d : Int)] ∧ a < 2 ^ 64 ∧ b < 2 ^ 64 ∧ c < 2 ^ 64 ∧ d < 2 ^ 64 := by
  obtain ⟨hl, hx⟩ := h
  match w, hl, hx with
  | [a, b, c, d], _, hx =>
    have h1 := hx a (by simp)
    have h2 := hx b (by simp)
    have h3 := hx c (by simp)
    have h4 := hx d (by simp)
    exact ⟨a.toNat, b.toNat, c.toNat, d.toNat, by rw [Int.toNat_of_nonneg h1.1, Int.toNat_of_nonneg h2.1, Int.toNat_of_nonneg h3.1, Int.toNat_of_nonneg h4.1], by omega, by omega, by omega, by omega⟩
theorem orW_nat {a b : Nat} (ha : a < 2 ^ 64) (hb : b < 2 ^ 64) : orW (a : Int) (b : Int) = ((a ||| b : Nat) : Int) := bits_or ha hb
theorem uni_ok {a b : List Int} (ha : SetOk a) (hb : SetOk b) : SetOk (uni a b) := by
  obtain ⟨a0, a1, a2, a3, rfl, p0, p1, p2, p3⟩ := ok_four ha
  obtain ⟨b0, b1, b2, b3, rfl, q0, q1, q2, q3⟩ := ok_four hb
  refine ⟨rfl, fun x hx => ?_⟩
  have h : ∀ {u v : Nat}, u < 2 ^ 64 → v < 2 ^ 64 → 0 ≤ orW (u : Int) (v : Int) ∧ orW (u : Int) (v : Int) < 18446744073709551616 := fun hu hv => by
    rw [orW_nat hu hv]
    have := Nat.or_lt_two_pow hu hv
    omega
  simp only [uni, List.getD_cons_zero, List.getD_cons_succ, List.mem_cons, List.not_mem_nil, or_false] at hx
  rcases hx with rfl | rfl | rfl | rfl
  · exact h p0 q0
  · exact h p1 q1
  · exact h p2 q2
  · exact h p3 q3
theorem bit_or (a b e : Nat) (ha : a < 2 ^ 64) (hb : b < 2 ^ 64) : ((orW (a : Int) (b : Int)) / 2 ^ e % 2 == 1) = (((a : Int) / 2 ^ e % 2 == 1) || ((b : Int) / 2 ^ e % 2 == 1)) := by
  rw [orW_nat ha hb]
  have h : ∀ n : Nat, ((n : Int) / 2 ^ e % 2 == 1) = n.testBit e := fun n => by
    rw [Nat.testBit_eq_decide_div_mod_eq, Bool.eq_iff_iff, beq_iff_eq, decide_eq_true_iff]
    have e1 : ((2 : Int) ^ e) = ((2 ^ e : Nat) : Int) := by simp
    rw [e1]
    omega
  rw [h, h, h, Nat.testBit_or]
theorem has_uni {a b : List Int} (ha : SetOk a) (hb : SetOk b) {c : Nat} (hc : c < 256) : setHas (uni a b) c = (setHas a c || setHas b c) := by
  obtain ⟨a0, a1, a2, a3, rfl, p0, p1, p2, p3⟩ := ok_four ha
  obtain ⟨b0, b1, b2, b3, rfl, q0, q1, q2, q3⟩ := ok_four hb
  unfold setHas uni
  have : c / 64 = 0 ∨ c / 64 = 1 ∨ c / 64 = 2 ∨ c / 64 = 3 := by omega
  rcases this with h | h | h | h <;> rw [h] <;> simp only [List.getD_cons_zero, List.getD_cons_succ] <;> exact bit_or _ _ _ (by assumption) (by assumption)
theorem union_f {a b : List Int} (ha : SetOk a) (hb : SetOk b) {k : Nat} (hk : 5 ≤ k) : class_Set_Union.f k a b = some (uni a b) := by
  obtain ⟨a0, a1, a2, a3, rfl, _⟩ := ok_four ha
  obtain ⟨b0, b1, b2, b3, rfl, _⟩ := ok_four hb
  obtain ⟨n, rfl⟩ : ∃ n, k = n + 5 := ⟨k - 5, by omega⟩
  rfl
theorem uni_loop {a b : List Int} (ha : SetOk a) (hb : SetOk b) {k : Nat} (hk : 5 ≤ k) (n : DN) (v : Int) (m : DN) : millwrightref10_First.l24 k n v m b k a 0 = some (uni a b) := by
  obtain ⟨a0, a1, a2, a3, rfl, _⟩ := ok_four ha
  obtain ⟨b0, b1, b2, b3, rfl, _⟩ := ok_four hb
  obtain ⟨n, rfl⟩ : ∃ n, k = n + 5 := ⟨k - 5, by omega⟩
  rfl
mutual
def skipN : RN → Bool
  | .mk k _ _ ks => if k = 1 then false else if k = 2 ∨ k = 5 ∨ k = 7 then skipAll ks else if k = 3 then skipAny ks else true
def skipAll : List RN → Bool
  | [] => true
  | x :: xs => skipN x && skipAll xs
def skipAny : List RN → Bool
  | [] => false
  | x :: xs => skipN x || skipAny xs
end
theorem skip_eq (n : RN) : skipN n = if n.f_Kind = 1 then false else if n.f_Kind = 2 ∨ n.f_Kind = 5 ∨ n.f_Kind = 7 then skipAll n.f_Kids else if n.f_Kind = 3 then skipAny n.f_Kids else true := by
  cases n; rw [skipN]; rfl
theorem kid_ok {ks : List RN} (hr : rightNs ks = true) : ∀ x ∈ ks, nsz x ≤ nszs ks ∧ rightN x = true := by
  induction ks with
  | nil => intro x hx; cases hx
  | cons y ys ih =>
    rw [rightNs, Bool.and_eq_true] at hr
    intro x hx
    rw [nszs]
    rcases List.mem_cons.1 hx with rfl | hx
    · exact ⟨by omega, hr.1⟩
    · obtain ⟨a, b⟩ := ih hr.2 x hx
      exact ⟨by omega, b⟩
theorem kid_set {ks : List RN} (hr : setsL ks) : ∀ x ∈ ks, setsN x := by
  induction ks with
  | nil => intro x hx; cases hx
  | cons y ys ih =>
    rw [setsL] at hr
    intro x hx
    rcases List.mem_cons.1 hx with rfl | hx
    · exact hr.1
    · exact ih hr.2 x hx
theorem skips_succ (k : Nat) (n : RN) : denote_skips.f (k + 1) n = denote_skips.b k (rex_Node_m1.f k) (rex_Node_m2.f k) (denote_skips.f k) n := rfl
theorem m1_succ (k : Nat) (l : List RN) : rex_Node_m1.f (k + 1) l = rex_Node_m1.b k (rex_Node_49_m1.f k) l := rfl
theorem m2_succ (k : Nat) (l : List RN) : rex_Node_m2.f (k + 1) l = rex_Node_m2.b k (rex_Node_49_m2.f k) l := rfl
theorem i1_succ (k : Nat) (l : List RN) : rex_Node_49_m1.f (k + 1) l = rex_Node_49_m1.b k (denote_skips_1.f k) l := rfl
theorem i2_succ (k : Nat) (l : List RN) : rex_Node_49_m2.f (k + 1) l = rex_Node_49_m2.b k (denote_skips.f k) l := rfl
theorem s1_succ (k : Nat) (n : RN) : denote_skips_1.f (k + 1) n = denote_skips_1.b k (denote_skips.f k) n := rfl
theorem all_loop {k : Nat} {rf : RN → Option Bool} (ks : List RN) (hks : ks.length ≤ 1000) : ∀ (l : List RN) (fuel i : Nat), ks.drop i = l → l.length < fuel → (∀ x ∈ l, rf x = some (!skipN x)) →
    ∃ j : Nat, rex_Node_49_m1.l3 k rf ks fuel (i : Int) = some (if skipAll l then .inl () else .inr (j : Int))
  | _, 0, _, _, h, _ => by omega
  | [], f + 1, i, hl, _, _ => by
    have := at_nil hl
    refine ⟨0, ?_⟩
    unfold rex_Node_49_m1.l3
    rw [if_neg (by simp; omega)]
    rfl
  | x :: r, f + 1, i, hl, hf, hx => by
    obtain ⟨g1, g2, g3⟩ := at_drop hl
    obtain ⟨j, e⟩ := all_loop (k := k) ks hks r f (i + 1) g2 (by simp at hf; omega) (fun y hy => hx y (.tail _ hy))
    unfold rex_Node_49_m1.l3
    rw [if_pos (by simp; exact g3), g1, Option.bind_some, hx x (.head _), Option.bind_some, wr1 (by omega), e, skipAll]
    cases skipN x
    · exact ⟨i, rfl⟩
    · exact ⟨j, rfl⟩
theorem any_skip {k : Nat} {rf : RN → Option Bool} (ks : List RN) (hks : ks.length ≤ 1000) : ∀ (l : List RN) (fuel i : Nat), ks.drop i = l → l.length < fuel → (∀ x ∈ l, rf x = some (skipN x)) →
    ∃ j : Nat, rex_Node_49_m2.l3 k rf ks fuel (i : Int) = some (if skipAny l then .inr (j : Int) else .inl ())
  | _, 0, _, _, h, _ => by omega
  | [], f + 1, i, hl, _, _ => by
    have := at_nil hl
    refine ⟨0, ?_⟩
    unfold rex_Node_49_m2.l3
    rw [if_neg (by simp; omega)]
    rfl
  | x :: r, f + 1, i, hl, hf, hx => by
    obtain ⟨g1, g2, g3⟩ := at_drop hl
    obtain ⟨j, e⟩ := any_skip (k := k) ks hks r f (i + 1) g2 (by simp at hf; omega) (fun y hy => hx y (.tail _ hy))
    unfold rex_Node_49_m2.l3
    rw [if_pos (by simp; exact g3), g1, Option.bind_some, hx x (.head _), Option.bind_some, wr1 (by omega), e, skipAny]
    cases skipN x
    · exact ⟨j, rfl⟩
    · exact ⟨i, rfl⟩
theorem skips_f : ∀ (m : Nat) (n : RN) (k : Nat), nsz n ≤ m → nsz n ≤ 100 → rightN n = true → 200 + 4 * nsz n ≤ k → denote_skips.f k n = some (skipN n)
  | 0, n, _, h, _, _, _ => by have := nsz_pos n; omega
  | m + 1, n, k, h, h1, hr, hk => by
    obtain ⟨k, rfl⟩ : ∃ k', k = k' + 4 := ⟨k - 4, by omega⟩
    have hnk := nsz_kids n
    have hlen := nszs_len n.f_Kids
    rw [rightN_eq, Bool.and_eq_true] at hr
    have hkid := kid_ok hr.2
    have ih : ∀ x ∈ n.f_Kids, ∀ k', k ≤ k' → denote_skips.f k' x = some (skipN x) := fun x hx k' hk' => by
      obtain ⟨a, b⟩ := hkid x hx
      exact skips_f m x k' (by omega) (by omega) b (by omega)
    have hone : n.f_Kids.length = 1 → ∃ x, x ∈ n.f_Kids ∧ idx n.f_Kids 0 = some x ∧ skipAll n.f_Kids = skipN x := fun g => by
      obtain ⟨x, ex⟩ := one_kid g
      rw [ex]
      exact ⟨x, .head _, rfl, by simp [skipAll]⟩
    rw [skips_succ]
    unfold denote_skips.b denote_skips.j11 denote_skips.j1
    have he := skip_eq n
    rcases hdr_true hr.1 with ⟨ek, g⟩ | ⟨ek, g⟩ | ⟨ek, g⟩ | ⟨ek, g⟩ | ⟨ek, g⟩ | ⟨ek, g⟩ | ⟨ek, g⟩ | ⟨ek, g, _⟩ | ⟨ek, g⟩ | ⟨ek, g⟩ <;> simp only [ek, Int.reduceEq, Int.reduceBEq, Bool.false_eq_true, if_false, if_true, or_false, or_true, false_or, or_self] at he ⊢ <;> rw [he]
    · rw [m1_succ]
      unfold rex_Node_m1.b
      rw [i1_succ]
      unfold rex_Node_49_m1.b rex_Node_49_m1.j1
      obtain ⟨j, e⟩ := all_loop (k := k + 1) (rf := denote_skips_1.f (k + 1)) n.f_Kids (by omega) n.f_Kids (k + 1) 0 rfl (by omega) fun x hx => by
        rw [s1_succ]
        unfold denote_skips_1.b
        rw [rn_eta, ih x hx k (by omega)]; rfl
      rw [show (0 : Int) = ((0 : Nat) : Int) from rfl, e]
      cases skipAll n.f_Kids
      · simp
      · rfl
    · rw [m2_succ]
      unfold rex_Node_m2.b
      rw [i2_succ]
      unfold rex_Node_49_m2.b rex_Node_49_m2.j1
      obtain ⟨j, e⟩ := any_skip (k := k + 1) (rf := denote_skips.f (k + 1)) n.f_Kids (by omega) n.f_Kids (k + 1) 0 rfl (by omega) fun x hx => ih x hx _ (by omega)
      rw [show (0 : Int) = ((0 : Nat) : Int) from rfl, e]
      cases skipAny n.f_Kids
      · rfl
      · simp
    · obtain ⟨x, hx, hi, hs⟩ := hone g
      rw [hi, Option.bind_some, ih x hx _ (by omega), hs]; rfl
    · obtain ⟨x, hx, hi, hs⟩ := hone g
      rw [hi, Option.bind_some, ih x hx _ (by omega), hs]; rfl
theorem rskips_succ (k : Nat) (n : DN) : millwrightref10_Skips.f (k + 1) n = millwrightref10_Skips.b k (millwrightref10_Skips.f k) n := rfl
theorem rskips_loop {k : Nat} {rf : DN → Option Bool} {n : DN} (hn : n.f_Kids.length ≤ 1000) : ∀ (l : List RN) (fuel i : Nat) (p q : Bool), n.f_Kids.drop i = ofNs l → l.length < fuel → (∀ x ∈ l, rf (ofN x) = some (skipN x)) →
    millwrightref10_Skips.l18 k rf n fuel p q (i : Int) = some (p && skipAll l, q || skipAny l)
  | _, 0, _, _, _, _, h, _ => by omega
  | [], f + 1, i, p, q, hl, _, _ => by
    have := at_nil hl
    unfold millwrightref10_Skips.l18
    rw [if_neg (by simp; omega)]
    simp [skipAll, skipAny]
  | x :: r, f + 1, i, p, q, hl, hf, hx => by
    obtain ⟨g1, g2, g3⟩ := at_drop hl
    have e := fun p q => rskips_loop (k := k) hn r f (i + 1) p q g2 (by simp at hf; omega) (fun y hy => hx y (.tail _ hy))
    unfold millwrightref10_Skips.l18 millwrightref10_Skips.j31 millwrightref10_Skips.j26
    simp only [dn_eta]
    rw [if_pos (by simp; exact g3), g1, Option.bind_some, hx x (.head _)]
    simp only [Option.bind_some]
    rw [wr1 (by omega)]
    simp only [e]
    rw [skipAll, skipAny]
    cases p <;> cases q <;> cases skipN x <;> simp
theorem rskips_f : ∀ (m : Nat) (n : RN) (k : Nat), nsz n ≤ m → nsz n ≤ 100 → rightN n = true → 200 + nsz n ≤ k → millwrightref10_Skips.f k (ofN n) = some (skipN n)
  | 0, n, _, h, _, _, _ => by have := nsz_pos n; omega
  | m + 1, n, k, h, h1, hr, hk => by
    obtain ⟨k, rfl⟩ : ∃ k', k = k' + 1 := ⟨k - 1, by omega⟩
    have hnk := nsz_kids n
    have hlen := nszs_len n.f_Kids
    rw [rightN_eq, Bool.and_eq_true] at hr
    have hkid := kid_ok hr.2
    obtain ⟨o1, o2, o3, o4⟩ := of_kind n
    have hl2 : (ofN n).f_Kids.length = n.f_Kids.length := by rw [o4, ofNs_map]; simp
    have e := rskips_loop (k := k) (rf := millwrightref10_Skips.f k) (n := ofN n) (by omega) n.f_Kids k 0 true false (by rw [o4]; rfl) (by omega) fun x hx => by
      obtain ⟨a, b⟩ := hkid x hx
      exact rskips_f m x k (by omega) (by omega) b (by omega)
    rw [rskips_succ]
    unfold millwrightref10_Skips.b millwrightref10_Skips.j14
    rw [show (0 : Int) = ((0 : Nat) : Int) from rfl, e, Option.bind_some, o1]
    simp only [Bool.true_and, Bool.false_or]
    have he := skip_eq n
    rcases hdr_true hr.1 with ⟨ek, g⟩ | ⟨ek, g⟩ | ⟨ek, g⟩ | ⟨ek, g⟩ | ⟨ek, g⟩ | ⟨ek, g⟩ | ⟨ek, g⟩ | ⟨ek, g, _⟩ | ⟨ek, g⟩ | ⟨ek, g⟩ <;> simp only [ek, Int.reduceEq, Int.reduceBEq, Int.reduceBNe, Bool.false_eq_true, if_false, if_true, or_false, or_true, false_or, or_self] at he ⊢ <;> rw [he]
    all_goals cases skipAll n.f_Kids <;> rfl
mutual
def firstN : RN → List Int
  | .mk k _ w ks => firstL (decide (k = 2)) w ks
def firstL (c : Bool) (acc : List Int) : List RN → List Int
  | [] => acc
  | x :: xs => if c && !skipN x then uni acc (firstN x) else firstL c (uni acc (firstN x)) xs
end
theorem first_eq (n : RN) : firstN n = firstL (decide (n.f_Kind = 2)) n.f_Set n.f_Kids := by cases n; rw [firstN]; rfl
mutual
theorem first_ok : ∀ (n : RN), setsN n → SetOk (firstN n)
  | .mk k _ w ks, h => by
    rw [setsN] at h
    rw [firstN]
    exact firstL_ok _ ks w h.1 h.2
theorem firstL_ok (c : Bool) : ∀ (l : List RN) (acc : List Int), SetOk acc → setsL l → SetOk (firstL c acc l)
  | [], acc, h, _ => by rw [firstL]; exact h
  | x :: xs, acc, h, g => by
    rw [setsL] at g
    have := uni_ok h (first_ok x g.1)
    rw [firstL]
    split
    · exact this
    · exact firstL_ok c xs _ this g.2
end
theorem first_succ (k : Nat) (n : RN) : denote_first.f (k + 1) n = denote_first.b k (denote_first.f k) n := rfl
theorem first_loop {k : Nat} {rf : RN → Option (List Int)} {n : RN} (hn : n.f_Kids.length ≤ 1000) (hk : 5 ≤ k) : ∀ (l : List RN) (fuel i : Nat) (acc : List Int), n.f_Kids.drop i = l → l.length < fuel → SetOk acc → setsL l → (∀ x ∈ l, rf x = some (firstN x) ∧ denote_skips.f k x = some (skipN x)) →
    denote_first.l5 k rf n fuel acc (i : Int) = some (firstL (decide (n.f_Kind = 2)) acc l)
  | _, 0, _, _, _, h, _, _, _ => by omega
  | [], f + 1, i, acc, hl, _, _, _, _ => by
    have := at_nil hl
    unfold denote_first.l5
    rw [if_neg (by simp; omega)]
    simp [firstL]
  | x :: r, f + 1, i, acc, hl, hf, ha, hs, hx => by
    obtain ⟨g1, g2, g3⟩ := at_drop hl
    rw [setsL] at hs
    have hu := uni_ok ha (first_ok x hs.1)
    have e := first_loop (k := k) hn hk r f (i + 1) _ g2 (by simp at hf; omega) hu hs.2 (fun y hy => hx y (.tail _ hy))
    unfold denote_first.l5
    rw [if_pos (by simp; exact g3), g1, Option.bind_some, rn_eta, (hx x (.head _)).1, Option.bind_some, union_f ha (first_ok x hs.1) hk, Option.bind_some, (hx x (.head _)).2, Option.bind_some]
    unfold denote_first.j17 denote_first.j11
    rw [wr1 (by omega), e, firstL]
    by_cases h2 : n.f_Kind = 2
    · simp only [h2, beq_self_eq_true, if_true, decide_true, Bool.true_and]
      cases skipN x <;> rfl
    · have : (n.f_Kind == 2) = false := by simpa using h2
      simp only [this, h2, decide_false, Bool.false_and, Bool.false_eq_true, if_false]
theorem first_f : ∀ (m : Nat) (n : RN) (k : Nat), nsz n ≤ m → nsz n ≤ 100 → rightN n = true → setsN n → 200 + 5 * nsz n ≤ k → denote_first.f k n = some (firstN n)
  | 0, n, _, h, _, _, _, _ => by have := nsz_pos n; omega
  | m + 1, n, k, h, h1, hr, hw, hk => by
    obtain ⟨k, rfl⟩ : ∃ k', k = k' + 1 := ⟨k - 1, by omega⟩
    have hnk := nsz_kids n
    have hlen := nszs_len n.f_Kids
    rw [rightN_eq, Bool.and_eq_true] at hr
    rw [setsN_eq] at hw
    have hkid := kid_ok hr.2
    have hset := kid_set hw.2
    rw [first_succ]
    unfold denote_first.b denote_first.j2
    rw [show (0 : Int) = ((0 : Nat) : Int) from rfl, first_loop (by omega) (by omega) n.f_Kids k 0 n.f_Set rfl (by omega) hw.1 hw.2 fun x hx => by
      obtain ⟨a, b⟩ := hkid x hx
      exact ⟨first_f m x k (by omega) (by omega) b (hset x hx) (by omega), skips_f m x k (by omega) (by omega) b (by omega)⟩, ← first_eq]
    rfl
theorem rfirst_succ (k : Nat) (n : DN) : millwrightref10_First.f (k + 1) n = millwrightref10_First.b k (millwrightref10_First.f k) n := rfl
theorem rfirst_loop {k : Nat} {rf : DN → Option (List Int)} {n : DN} (hn : n.f_Kids.length ≤ 1000) (hk : 5 ≤ k) : ∀ (l : List RN) (fuel i : Nat) (acc : List Int), n.f_Kids.drop i = ofNs l → l.length < fuel → SetOk acc → setsL l → (∀ x ∈ l, rf (ofN x) = some (firstN x) ∧ millwrightref10_Skips.f k (ofN x) = some (skipN x)) →
    ∃ o, millwrightref10_First.l6 k rf n fuel acc (i : Int) = some o ∧ (match o with | .inl w => w = firstL (decide (n.f_Kind = 2)) acc l | .inr w => w = firstL (decide (n.f_Kind = 2)) acc l)
  | _, 0, _, _, _, h, _, _, _ => by omega
  | [], f + 1, i, acc, hl, _, _, _, _ => by
    have := at_nil hl
    unfold millwrightref10_First.l6
    rw [if_neg (by simp; omega)]
    exact ⟨_, rfl, by simp [firstL]⟩
  | x :: r, f + 1, i, acc, hl, hf, ha, hs, hx => by
    obtain ⟨g1, g2, g3⟩ := at_drop hl
    rw [setsL] at hs
    have hu := uni_ok ha (first_ok x hs.1)
    obtain ⟨o, e, p⟩ := rfirst_loop (k := k) hn hk r f (i + 1) _ g2 (by simp at hf; omega) hu hs.2 (fun y hy => hx y (.tail _ hy))
    unfold millwrightref10_First.l6
    rw [if_pos (by simp; exact g3), g1, Option.bind_some, dn_eta, (hx x (.head _)).1, Option.bind_some, uni_loop ha (first_ok x hs.1) hk, Option.bind_some]
    unfold millwrightref10_First.j21 millwrightref10_First.j18 millwrightref10_First.j12
    rw [dn_eta, (hx x (.head _)).2, Option.bind_some, wr1 (by omega), e, firstL]
    by_cases h2 : n.f_Kind = 2
    · simp only [h2, beq_self_eq_true, if_true, decide_true, Bool.true_and] at p ⊢
      cases skipN x
      · exact ⟨_, rfl, rfl⟩
      · exact ⟨o, rfl, p⟩
    · have : (n.f_Kind == 2) = false := by simpa using h2
      simp only [this, h2, decide_false, Bool.false_and, Bool.false_eq_true, if_false] at p ⊢
      exact ⟨o, rfl, p⟩
theorem hdr_set {kd ix : Int} {st : List Int} {m : Nat} (h : hdr kd ix st m = true) (h1 : kd ≠ 1) : st = zeros := by
  unfold hdr at h
  simp only [Bool.and_eq_true, Bool.or_eq_true, decide_eq_true_eq] at h
  have := h.2.resolve_left h1
  simpa using this
theorem rfirst_f : ∀ (m : Nat) (n : RN) (k : Nat), nsz n ≤ m → nsz n ≤ 100 → rightN n = true → setsN n → 300 + 2 * nsz n ≤ k → millwrightref10_First.f k (ofN n) = some (firstN n)
  | 0, n, _, h, _, _, _, _ => by have := nsz_pos n; omega
  | m + 1, n, k, h, h1, hr, hw, hk => by
    obtain ⟨k, rfl⟩ : ∃ k', k = k' + 1 := ⟨k - 1, by omega⟩
    have hnk := nsz_kids n
    have hlen := nszs_len n.f_Kids
    rw [rightN_eq, Bool.and_eq_true] at hr
    rw [setsN_eq] at hw
    have hkid := kid_ok hr.2
    have hset := kid_set hw.2
    obtain ⟨o1, o2, o3, o4⟩ := of_kind n
    have hl2 : (ofN n).f_Kids.length = n.f_Kids.length := by rw [o4, ofNs_map]; simp
    rw [rfirst_succ]
    unfold millwrightref10_First.b millwrightref10_First.j3
    rw [o1, o3]
    by_cases hk1 : n.f_Kind = 1
    · rw [if_pos (by simpa using hk1), first_eq]
      rcases hdr_true hr.1 with ⟨ek, g⟩ | ⟨ek, g⟩ | ⟨ek, g⟩ | ⟨ek, g⟩ | ⟨ek, g⟩ | ⟨ek, g⟩ | ⟨ek, g⟩ | ⟨ek, g, _⟩ | ⟨ek, g⟩ | ⟨ek, g⟩ <;> first | (exfalso; omega) | skip
      rw [List.eq_nil_of_length_eq_zero g, firstL]
    · rw [if_neg (by simpa using hk1)]
      obtain ⟨o, e, p⟩ := rfirst_loop (k := k) (rf := millwrightref10_First.f k) (n := ofN n) (by omega) (by omega) n.f_Kids k 0 zeros (by rw [o4]; rfl) (by omega) zero_ok hw.2 fun x hx => by
        obtain ⟨a, b⟩ := hkid x hx
        exact ⟨rfirst_f m x k (by omega) (by omega) b (hset x hx) (by omega), rskips_f m x k (by omega) (by omega) b (by omega)⟩
      have e' : millwrightref10_First.l6 k (millwrightref10_First.f k) (ofN n) k (List.replicate 4 0) 0 = some o := e
      rw [e', first_eq, hdr_set hr.1 hk1]
      rw [o1] at p
      cases o with
      | inl w => simp only at p; rw [← p]; rfl
      | inr w => simp only at p; rw [← p]; rfl
end Go.Proofs.YteddmdkbeednmaaDoor.Dn
