/- Expressions, as the document reads them. -/
import Derived.Test.YtpcobejkpbalcaaDoorK27POVS
import Derived.Test.YtpcobejkpbalcaaDoorK27POVA
namespace Go.Proofs.YtpcobejkpbalcaaDoor.Rx
open Go Go.AM
set_option linter.unusedVariables false
set_option linter.unusedSimpArgs false
set_option maxRecDepth 100000
set_option maxHeartbeats 1000000
def zeroD : DN := .mk 0 0 (List.replicate 4 (0 : Int)) []
theorem at_tk {ts t : List Tk} {i : Nat} {x : Tk} (h : ts.drop i = x :: t) : idx (ts.map ofT) (i : Int) = some (ofT x) ∧ ts.drop (i + 1) = t ∧ i < ts.length ∧ ts.take (i + 1) = ts.take i ++ [x] := by
  have hi : i < ts.length := by
    rcases Nat.lt_or_ge i ts.length with h' | h'
    · exact h'
    · rw [List.drop_of_length_le h'] at h; cases h
  rw [List.drop_eq_getElem_cons hi] at h
  injection h with h1 h2
  refine ⟨?_, h2, hi, ?_⟩
  · rw [idx_at rfl (by simpa using hi), List.getElem_map, h1]
  · rw [List.take_succ_eq_append_getElem hi, h1]
theorem tk_nil {ts : List Tk} {i : Nat} (h : ts.drop i = []) : ts.length ≤ i := by
  have := congrArg List.length h
  simp at this; omega
theorem wi {n : Nat} (h : n ≤ 100000) : IntKind.i64.wrap ((n : Int) + 1) = ((n + 1 : Nat) : Int) := by rw [w64 (by omega) (by omega)]; rfl
theorem mk_beq (x : Tk) (c : Int) : ((ofT x).f_Mark == c) = decide (x.1 = c) := by
  rw [Bool.eq_iff_iff]; simp [ofT]
theorem opened_loop (K : Nat) (ts : List Tk) (hl : ts.length ≤ 1000) : ∀ (fuel n i : Nat) (r : List Tk), ts.drop i = r → r.length < fuel → n + r.length ≤ 1000 →
    millwrightref07_opened.l5 K (ts.map ofT) fuel (n : Int) (i : Int) = some ((n + opn r : Nat) : Int)
  | 0, _, _, _, _, h, _ => by omega
  | fuel + 1, n, i, [], hd, _, _ => by
    have := tk_nil hd
    unfold millwrightref07_opened.l5
    rw [if_neg (by simp; omega)]; simp [opn]
  | fuel + 1, n, i, x :: t, hd, hf, hn => by
    obtain ⟨h1, h2, h3, _⟩ := at_tk hd
    simp only [List.length_cons] at hf hn
    unfold millwrightref07_opened.l5 millwrightref07_opened.j11
    rw [if_pos (by simp; omega), h1, Option.bind_some, mk_beq, wi (n := i) (by omega)]
    by_cases h : x.1 = 40
    · rw [if_pos (by simpa using h), wi (n := n) (by omega), opened_loop K ts hl fuel (n + 1) (i + 1) t h2 (by omega) (by omega)]
      simp only [opn, h, if_true]
      congr 2; omega
    · rw [if_neg (by simpa using h), opened_loop K ts hl fuel n (i + 1) t h2 (by omega) (by omega)]
      simp only [opn, h, if_false]
      congr 2; omega
theorem opened_eq (K : Nat) (hK : 1100 ≤ K) (ts : List Tk) (hl : ts.length ≤ 1000) : millwrightref07_opened.f K (ts.map ofT) = some (opn ts : Int) := by
  have h := opened_loop K ts hl K 0 0 ts rfl (by omega) (by omega)
  have h' : millwrightref07_opened.l5 K (ts.map ofT) K 0 0 = _ := h
  unfold millwrightref07_opened.f millwrightref07_opened.j2
  rw [h', Nat.zero_add]; rfl
theorem closing_loop (K : Nat) (ts : List Tk) (hl : ts.length ≤ 1000) : ∀ (fuel d i : Nat) (r : List Tk), ts.drop i = r → r.length < fuel → 1 ≤ d → d + r.length ≤ 2000 →
    millwrightref07_closing.l4 K (ts.map ofT) fuel (d : Int) (i : Int) = some (match cl d r with | some y => .inr ((i + y.1.length : Nat) : Int) | none => .inl ())
  | 0, _, _, _, _, h, _, _ => by omega
  | fuel + 1, d, i, [], hd, _, _, _ => by
    have := tk_nil hd
    unfold millwrightref07_closing.l4
    rw [if_neg (by simp; omega)]; rfl
  | fuel + 1, d, i, x :: t, hd, hf, h1d, hn => by
    obtain ⟨h1, h2, h3, _⟩ := at_tk hd
    simp only [List.length_cons] at hf hn
    unfold millwrightref07_closing.l4 millwrightref07_closing.j16 millwrightref07_closing.j13 millwrightref07_closing.j9
    rw [if_pos (by simp; omega), h1, Option.bind_some, Option.bind_some, Option.bind_some, mk_beq, mk_beq, wi (n := i) (by omega)]
    have shift : ∀ o : Option (List Tk × List Tk), (match o with | some y => (Sum.inr ((i + 1 + y.1.length : Nat) : Int) : Sum Unit Int) | none => .inl ()) = (match o.map (fun y => (x :: y.1, y.2)) with | some y => .inr ((i + y.1.length : Nat) : Int) | none => .inl ()) := fun o => by
      cases o with
      | none => rfl
      | some y => simp only [Option.map_some, List.length_cons]; congr 2; omega
    unfold cl
    by_cases h41 : x.1 = 41
    · rw [if_neg (by simp [h41]), if_pos (by simpa using h41), if_pos h41]
      have w : IntKind.i64.wrap ((d : Int) - 1) = ((d - 1 : Nat) : Int) := by rw [w64 (by omega) (by omega)]; omega
      rw [w]
      by_cases hd1 : d ≤ 1
      · rw [if_pos (by simp; omega), if_pos hd1]; simp
      · rw [if_neg (by simp; omega), if_neg hd1, closing_loop K ts hl fuel (d - 1) (i + 1) t h2 (by omega) (by omega) (by omega), shift]
    · rw [if_neg h41]
      by_cases h40 : x.1 = 40
      · rw [if_pos (by simpa using h40), if_neg (by simp [h40]), wi (n := d) (by omega), if_neg (by simp; omega), closing_loop K ts hl fuel (d + 1) (i + 1) t h2 (by omega) (by omega) (by omega), shift, if_pos h40]
      · rw [if_neg (by simpa using h40), if_neg (by simpa using h41), if_neg (by simp; omega), closing_loop K ts hl fuel d (i + 1) t h2 (by omega) (by omega) (by omega), shift, if_neg h40]
theorem closing_eq (K : Nat) (hK : 3000 ≤ K) (ts : List Tk) (hl : ts.length ≤ 1000) {i : Nat} {x : Tk} {t : List Tk} (hd : ts.drop i = x :: t) (hx : x.1 = 40) :
    millwrightref07_closing.f K (ts.map ofT) (i : Int) = some (match cl 1 t with | some y => ((i + 1 + y.1.length : Nat) : Int) | none => -1) := by
  obtain ⟨h1, h2, h3, _⟩ := at_tk hd
  obtain ⟨n, rfl⟩ : ∃ n, K = n + 1 := ⟨K - 1, by omega⟩
  have hr : t.length ≤ ts.length := by rw [← h2]; simp
  have hc := closing_loop (n + 1) ts hl n 1 (i + 1) t h2 (by omega) (by omega) (by omega)
  have e : millwrightref07_closing.l4 (n + 1) (ts.map ofT) (n + 1) 0 (i : Int) = millwrightref07_closing.l4 (n + 1) (ts.map ofT) n ((1 : Nat) : Int) ((i + 1 : Nat) : Int) := by
    conv => lhs; unfold millwrightref07_closing.l4
    unfold millwrightref07_closing.j16 millwrightref07_closing.j13 millwrightref07_closing.j9
    rw [if_pos (by simp; omega), h1, Option.bind_some, Option.bind_some, Option.bind_some, mk_beq, mk_beq, wi (n := i) (by omega), if_pos (by simpa using hx), if_neg (by simp [hx])]
    rfl
  unfold millwrightref07_closing.f millwrightref07_closing.j1
  rw [e, hc, Option.bind_some]
  cases cl 1 t <;> rfl
theorem ofNs_app (a b : List RN) : ofNs (a ++ b) = ofNs a ++ ofNs b := by rw [ofNs_map, ofNs_map, ofNs_map, List.map_append]
theorem ofNs_len (a : List RN) : (ofNs a).length = a.length := by rw [ofNs_map, List.length_map]
theorem one_eq (K : Nat) (a : Int) (l : List RN) : millwrightref07_one.f K a (ofNs l) = some (ofN (jn a l)) := by
  unfold millwrightref07_one.f
  rw [ofNs_len]
  match l with
  | [] => rfl
  | [n] =>
    rw [if_neg (by simp), if_pos (by simp), show ofNs [n] = [ofN n] from rfl, idx_at (v := 0) (i := 0) rfl (by simp), Option.bind_some]
    simp only [List.getElem_cons_zero, dn_eta]; rfl
  | x :: y :: l => rw [if_neg (by simp; omega), if_neg (by simp; omega)]; rfl
def brR : Option (List RN) → DN × Bool
  | some ks => (ofN (jn 2 ks), true)
  | none => (zeroD, false)
def exR : Option RN → DN × Bool
  | some n => (ofN n, true)
  | none => (zeroD, false)
theorem cut_tk {ts a u : List Tk} {i : Nat} (h : ts.drop i = a ++ u) (hi : i ≤ ts.length) : ts.take (i + a.length) = ts.take i ++ a ∧ ts.drop (i + a.length) = u ∧ i + a.length ≤ ts.length := by
  have e : ts = ts.take i ++ (a ++ u) := by rw [← h, List.take_append_drop]
  have hl : (ts.take i).length = i := by simp; omega
  have hlen := congrArg List.length h
  simp only [List.length_drop, List.length_append] at hlen
  refine ⟨?_, ?_, by omega⟩
  · rw [List.take_add, h, List.take_left]
  · rw [← List.drop_drop, h, List.drop_left]
section
variable (K : Nat) (hK : 4000 ≤ K) (ts : List Tk) (hl : ts.length ≤ 500) (a : Nat)
include hK hl in
theorem rbr_loop (rf : List T_millwrightref07_sign → Int → Option (DN × Bool)) (hrf : ∀ (M : Nat) (inner : List Tk) (c : Nat), inner.length + 1 ≤ ts.length → 2 * inner.length + 2 ≤ M → c + inner.length ≤ 10000 → rf (inner.map ofT) (c : Int) = some (exR (exD M inner c))) (ha : a + ts.length ≤ 10000) :
    ∀ (fuel M i : Nat) (r : List Tk) (kids : List RN), ts.drop i = r → i ≤ ts.length → 2 * r.length + 1 ≤ M → r.length < fuel → kids.length + r.length ≤ 10000 →
    millwrightref07_branch.l6 K rf (ts.map ofT) (a : Int) fuel (ofNs kids) (i : Int) = some (match brD M kids r (a + opn (ts.take i)) with | some ks => .inl (ofNs ks) | none => .inr (zeroD, false))
  | 0, _, _, _, _, _, _, _, h, _ => by omega
  | _, 0, _, _, _, _, _, h, _, _ => by omega
  | fuel + 1, M + 1, i, [], kids, hd, _, _, _, _ => by
    have := tk_nil hd
    unfold millwrightref07_branch.l6 brD
    rw [if_neg (by simp; omega)]
  | fuel + 1, M + 1, i, x :: t, kids, hd, hi, hM, hf, hk => by
    have hLIM : LIM = 4294967296 := rfl
    obtain ⟨h1, h2, h3, h4⟩ := at_tk hd
    have hrl := congrArg List.length hd
    simp only [List.length_cons, List.length_drop] at hM hf hk hrl
    have hopl := opn_le (ts.take i)
    have htl : (ts.take i).length = i := by simp; omega
    have one : ∀ kids2 : List RN, kids2.length ≤ kids.length + 1 → x.1 ≠ 40 → millwrightref07_branch.l6 K rf (ts.map ofT) (a : Int) fuel (ofNs kids2) ((i + 1 : Nat) : Int) = some (match brD M kids2 t (a + opn (ts.take i)) with | some ks => .inl (ofNs ks) | none => .inr (zeroD, false)) := fun kids2 hk2 h40 => by
      have := rbr_loop rf hrf ha fuel M (i + 1) t kids2 h2 (by omega) (by omega) (by omega) (by omega)
      have e : opn (ts.take (i + 1)) = opn (ts.take i) := by
        rw [h4, opn_app]
        simp only [opn, h40, if_false, Nat.add_zero]
      rw [e] at this
      exact this
    unfold millwrightref07_branch.l6 brD
    rw [if_pos (by simp; omega), h1, Option.bind_some, mk_beq, mk_beq, mk_beq, mk_beq, mk_beq, mk_beq, ofNs_len]
    by_cases h0 : x.1 = 0
    · rw [if_pos (by simpa using h0), if_pos h0, if_pos (by simp only [List.length_cons, List.length_nil]; omega)]
      unfold millwrightref07_branch.j13
      rw [wi (by omega)]
      have := one (kids ++ [oneN x.2]) (by simp) (by rw [h0]; decide)
      rw [ofNs_app] at this
      exact this
    rw [if_neg (by simpa using h0), if_neg h0]
    by_cases h94 : x.1 = 94
    · rw [if_pos (by simpa using h94), if_pos h94, if_pos (by simp only [List.length_cons, List.length_nil]; omega)]
      unfold millwrightref07_branch.j13
      rw [wi (by omega)]
      have := one (kids ++ [kindN 8]) (by simp) (by rw [h94]; decide)
      rw [ofNs_app] at this
      exact this
    rw [if_neg (by simpa using h94), if_neg h94]
    by_cases h36 : x.1 = 36
    · rw [if_pos (by simpa using h36), if_pos h36, if_pos (by simp only [List.length_cons, List.length_nil]; omega)]
      unfold millwrightref07_branch.j13
      rw [wi (by omega)]
      have := one (kids ++ [kindN 9]) (by simp) (by rw [h36]; decide)
      rw [ofNs_app] at this
      exact this
    rw [if_neg (by simpa using h36), if_neg h36]
    have ch : ∀ J : Bool → Option (Sum (List DN) (DN × Bool)), (if decide (x.1 = 42) then J (decide (x.1 = 42)) else (if decide (x.1 = 43) then J (decide (x.1 = 43)) else J (decide (x.1 = 63)))) = J (decide (x.1 = 42 ∨ x.1 = 43 ∨ x.1 = 63)) := fun J => by
      by_cases e1 : x.1 = 42
      · simp [e1]
      · by_cases e2 : x.1 = 43
        · simp [e2]
        · simp [e1, e2]
    rw [ch (fun v => millwrightref07_branch.j43 K (millwrightref07_branch.l6 K rf (ts.map ofT) (a : Int) fuel) rf (ts.map ofT) (a : Int) (ofNs kids) (i : Int) (ofT x) v)]
    unfold millwrightref07_branch.j43
    by_cases hw : x.1 = 42 ∨ x.1 = 43 ∨ x.1 = 63
    · rw [if_pos (by simpa using hw), if_pos hw, ofNs_len]
      rcases List.eq_nil_or_concat kids with rfl | ⟨ps, n, rfl⟩
      · rw [if_pos (by simp; decide)]; rfl
      · rw [List.concat_eq_append] at *
        have hpl : (ps ++ [n]).length = ps.length + 1 := by simp
        have w : IntKind.i64.wrap (((ps ++ [n]).length : Int) - 1) = (ps.length : Int) := by rw [hpl, w64 (by omega) (by omega)]; omega
        rw [w, if_neg (by simp), List.getLast?_concat]
        simp only [List.dropLast_concat]
        have upd1 : ∀ kind : Int, millwrightref07_branch.j30 K (millwrightref07_branch.l6 K rf (ts.map ofT) (a : Int) fuel) (ts.map ofT) (a : Int) (ofNs (ps ++ [n])) (i : Int) kind = millwrightref07_branch.l6 K rf (ts.map ofT) (a : Int) fuel (ofNs (ps ++ [T_rex_Node.mk kind 0 z4 [n]])) ((i + 1 : Nat) : Int) := fun kind => by
          unfold millwrightref07_branch.j30 millwrightref07_branch.j13
          have c : (0 : Int) ≤ (ps.length : Int) ∧ (ps.length : Int) < ((ps ++ [n]).length : Int) := ⟨by omega, by rw [hpl]; omega⟩
          have g : (ofNs (ps ++ [n]))[ps.length]? = some (ofN n) := by rw [ofNs_map]; simp
          rw [ofNs_len, w, if_pos c, Int.toNat_natCast, Nat.zero_add, g, Option.bind_some, if_pos c, Option.bind_some, wi (by omega)]
          congr 1
          rw [ofNs_app, ofNs_app]
          unfold upd
          rw [show ofNs [n] = [ofN n] from rfl, ← ofNs_len ps, List.set_append_right _ _ (Nat.le_refl _), Nat.sub_self]
          rfl
        unfold millwrightref07_branch.j32
        rw [mk_beq, mk_beq, upd1, upd1, upd1]
        have fin := one (ps ++ [wrapN x.1 n]) (by simp) (by rcases hw with h | h | h <;> rw [h] <;> decide)
        rw [← fin]
        unfold wrapN
        rcases hw with h | h | h <;> rw [h] <;> simp
    · rw [if_neg (by simpa using hw), if_neg hw, mk_beq]
      by_cases h40 : x.1 = 40
      · rw [if_pos (by simpa using h40), if_pos h40, closing_eq K (by omega) ts (by omega) hd h40, Option.bind_some]
        cases hc : cl 1 t with
        | none =>
          simp only
          rw [if_pos (by simp)]; rfl
        | some y =>
          obtain ⟨inner, u⟩ := y
          obtain ⟨z, hz, rfl, hdp⟩ := cl_spec t 0 inner u hc
          have hd5 : ts.drop i = (x :: inner) ++ (z :: u) := by rw [hd]; rfl
          obtain ⟨c1, c2, c3⟩ := cut_tk hd5 hi
          simp only [List.length_cons, List.length_append] at c1 c2 c3 hM hf hk hrl
          have hd6 : ts.drop (i + (inner.length + 1)) = z :: u := c2
          obtain ⟨_, d2, d3, d4⟩ := at_tk hd6
          have s1 : sub (ts.map ofT) 0 (i : Int) = some ((ts.take i).map ofT) := by
            rw [sub_to rfl rfl (by simp; omega), List.map_take]
          have s2 : sub (ts.map ofT) ((i + 1 : Nat) : Int) ((i + 1 + inner.length : Nat) : Int) = some (inner.map ofT) := by
            rw [sub_at rfl rfl (by omega) (by simp; omega), ← List.map_take, ← List.map_drop, show i + 1 + inner.length = i + (inner.length + 1) by omega, c1]
            rw [show i + 1 = (ts.take i).length + 1 by omega, ← List.drop_drop, List.drop_left]; rfl
          have w1 : IntKind.i64.wrap (IntKind.i64.wrap ((a : Int) + (opn (ts.take i) : Int)) + 1) = ((a + opn (ts.take i) + 1 : Nat) : Int) := by
            rw [w64 (n := (a : Int) + _) (by omega) (by omega), w64 (by omega) (by omega)]; omega
          simp only
          rw [if_neg (by simp; omega), s1, Option.bind_some, opened_eq K (by omega) _ (by simp; omega), Option.bind_some, wi (by omega), s2, Option.bind_some, w1, hrf M inner _ (by omega) (by omega) (by omega), Option.bind_some]
          cases hE : exD M inner (a + opn (ts.take i) + 1) with
          | none => simp only [exR]; rfl
          | some n =>
            simp only [exR, Bool.not_true, Bool.false_eq_true, if_false]
            rw [ofNs_len, if_pos (by simp only [List.length_cons, List.length_nil]; omega)]
            unfold millwrightref07_branch.j13
            rw [wi (by omega), dn_eta]
            have ih := rbr_loop rf hrf ha fuel M (i + (inner.length + 1) + 1) u (kids ++ [grpN (a + opn (ts.take i) + 1) n]) d2 (by omega) (by omega) (by omega) (by simp only [List.length_append, List.length_cons, List.length_nil]; omega)
            have eo : opn (ts.take (i + (inner.length + 1) + 1)) = opn (ts.take i) + 1 + opn inner := by
              rw [d4, c1, opn_app, opn_app]
              have hz40 : z.1 ≠ 40 := by rw [hz]; decide
              simp only [opn, h40, hz40, if_true, if_false]; omega
            rw [eo, ofNs_app, show i + (inner.length + 1) + 1 = i + 1 + inner.length + 1 by omega] at ih
            rw [show a + opn (ts.take i) + 1 + opn inner = a + (opn (ts.take i) + 1 + opn inner) by omega, ← ih]
            rfl
      · rw [if_neg (by simpa using h40), if_neg h40]; rfl
include hK hl in
theorem rbr_eq (rf : List T_millwrightref07_sign → Int → Option (DN × Bool)) (hrf : ∀ (M : Nat) (inner : List Tk) (c : Nat), inner.length + 1 ≤ ts.length → 2 * inner.length + 2 ≤ M → c + inner.length ≤ 10000 → rf (inner.map ofT) (c : Int) = some (exR (exD M inner c))) (ha : a + ts.length ≤ 10000) (M : Nat) (hM : 2 * ts.length + 1 ≤ M) :
    millwrightref07_branch.b K rf (ts.map ofT) (a : Int) = some (brR (brD M [] ts a)) := by
  have h := rbr_loop K hK ts hl a rf hrf ha K M 0 ts [] rfl (by omega) hM (by omega) (by simp only [List.length_nil]; omega)
  simp only [List.take_zero, opn, Nat.add_zero] at h
  have h' : millwrightref07_branch.l6 K rf (ts.map ofT) (a : Int) K [] 0 = _ := h
  unfold millwrightref07_branch.b
  rw [h', Option.bind_some]
  cases brD M [] ts a with
  | none => rfl
  | some ks =>
    unfold millwrightref07_branch.j3
    simp only
    rw [one_eq, Option.bind_some, dn_eta]; rfl
include hK hl in
theorem rex_loop (rf : List T_millwrightref07_sign → Int → Option (DN × Bool)) (M : Nat) (hrf : ∀ (seg : List Tk) (c : Nat), seg.length ≤ ts.length → c + seg.length ≤ 10000 → rf (seg.map ofT) (c : Int) = some (brR (brD M [] seg c))) (ha : a + ts.length ≤ 10000) :
    ∀ (fuel i from_ d : Nat) (r : List Tk) (kids : List RN), ts.drop i = r → i ≤ ts.length → from_ ≤ i → r.length + 1 < fuel → d ≤ i → kids.length + r.length ≤ 10000 →
    ((millwrightref07_expression.l8 K rf (ts.map ofT) (a : Int) fuel (ofNs kids) (from_ : Int) (d : Int) (i : Int)).bind fun o10 => match o10 with | Sum.inl u44 => millwrightref07_expression.j3 K u44 | Sum.inr u45 => some u45) =
      some (exR (segD (fun seg c' => brD M [] seg c') kids ((ts.take i).drop from_) d r (a + opn (ts.take from_))))
  | 0, _, _, _, _, _, _, _, _, h, _, _ => by omega
  | fuel + 1, i, from_, d, r, kids, hd, hi, hfr, hf, hdi, hk => by
    have hLIM : LIM = 4294967296 := rfl
    have hrl := congrArg List.length hd
    simp only [List.length_drop] at hrl
    have hoF := opn_le (ts.take from_)
    have htF : (ts.take from_).length = from_ := by simp; omega
    have s1 : sub (ts.map ofT) (from_ : Int) (i : Int) = some (((ts.take i).drop from_).map ofT) := by
      rw [sub_at rfl rfl hfr (by simp; omega), ← List.map_take, ← List.map_drop]
    have s2 : sub (ts.map ofT) 0 (from_ : Int) = some ((ts.take from_).map ofT) := by
      rw [sub_to rfl rfl (by simp; omega), List.map_take]
    have w1 : IntKind.i64.wrap ((a : Int) + (opn (ts.take from_) : Int)) = ((a + opn (ts.take from_) : Nat) : Int) := by
      rw [w64 (by omega) (by omega)]; omega
    have segl : ((ts.take i).drop from_).length = i - from_ := by simp; omega
    have hcall := hrf ((ts.take i).drop from_) (a + opn (ts.take from_)) (by omega) (by omega)
    unfold millwrightref07_expression.l8
    rw [List.length_map, if_pos (by simp; omega)]
    cases r with
    | nil =>
      have hil : i = ts.length := by
        have := tk_nil hd
        omega
      simp only [List.length_nil] at hf
      obtain ⟨fuel, rfl⟩ : ∃ y, fuel = y + 1 := ⟨fuel - 1, by omega⟩
      rw [if_neg (by simp; omega)]
      unfold millwrightref07_expression.j41 millwrightref07_expression.j38 millwrightref07_expression.j35 millwrightref07_expression.j32
      rw [if_neg (by decide), List.length_map, if_neg (by simp; omega), if_neg (by decide), if_neg (by simp), if_pos (by simp; omega)]
      unfold millwrightref07_expression.j28 millwrightref07_expression.j16
      rw [if_pos rfl, s1, Option.bind_some, s2, Option.bind_some, opened_eq K (by omega) _ (by simp; omega), Option.bind_some, w1, hcall, Option.bind_some]
      unfold segD
      cases hB : brD M [] ((ts.take i).drop from_) (a + opn (ts.take from_)) with
      | none => simp only [brR]; rfl
      | some ks =>
        simp only [brR, Bool.not_true, Bool.false_eq_true, if_false]
        rw [ofNs_len, if_pos (by simp only [List.length_cons, List.length_nil]; omega), wi (by omega)]
        unfold millwrightref07_expression.l8
        rw [List.length_map, if_neg (by simp; omega), Option.bind_some, dn_eta]
        unfold millwrightref07_expression.j3
        have e : ofNs kids ++ [ofN (jn 2 ks)] = ofNs (kids ++ [jn 2 ks]) := by rw [ofNs_app]; rfl
        simp only
        rw [e, one_eq, Option.bind_some, dn_eta]; rfl
    | cons x t =>
      obtain ⟨h1, h2, h3, h4⟩ := at_tk hd
      simp only [List.length_cons] at hf hk hrl
      have seg' : (ts.take (i + 1)).drop from_ = (ts.take i).drop from_ ++ [x] := by
        rw [h4, List.drop_append_of_le_length (by simp; omega)]
      have go : ∀ d' : Nat, d' ≤ i + 1 → ((millwrightref07_expression.l8 K rf (ts.map ofT) (a : Int) fuel (ofNs kids) (from_ : Int) (d' : Int) ((i + 1 : Nat) : Int)).bind fun o10 => match o10 with | Sum.inl u44 => millwrightref07_expression.j3 K u44 | Sum.inr u45 => some u45) = some (exR (segD (fun seg c' => brD M [] seg c') kids ((ts.take i).drop from_ ++ [x]) d' t (a + opn (ts.take from_)))) := fun d' hd' => by
        rw [← seg']
        exact rex_loop rf M hrf ha fuel (i + 1) from_ d' t kids h2 (by omega) (by omega) (by omega) hd' (by omega)
      rw [if_pos (by simp; omega), h1, Option.bind_some, mk_beq]
      unfold millwrightref07_expression.j41 millwrightref07_expression.j38 millwrightref07_expression.j35
      simp only [List.length_map, show decide ((i : Int) < (ts.length : Int)) = true by simp; omega, if_true, h1, Option.bind_some, mk_beq]
      unfold millwrightref07_expression.j32
      simp only [List.length_map, show ((i : Int) == (ts.length : Int)) = false by simp; omega, h1, Option.bind_some, mk_beq, Bool.false_eq_true, if_false]
      unfold segD
      by_cases h41 : x.1 = 41
      · have e40 : decide (x.1 = 40) = false := by simp [h41]
        have e41 : decide (x.1 = 41) = true := by simp [h41]
        have e124 : decide (x.1 = 124) = false := by simp [h41]
        rw [if_pos h41, e40, e41, e124]
        simp only [Bool.false_eq_true, if_false, if_true, ite_self]
        by_cases hd0 : d = 0
        · subst hd0
          rw [if_pos rfl, if_pos (by decide)]; rfl
        · have w : IntKind.i64.wrap ((d : Int) - 1) = ((d - 1 : Nat) : Int) := by rw [w64 (by omega) (by omega)]; omega
          rw [if_neg hd0, w, if_neg (by simp)]
          unfold millwrightref07_expression.j28 millwrightref07_expression.j16
          rw [if_neg (by decide), wi (n := i) (by omega)]
          exact go (d - 1) (by omega)
      · have e41 : decide (x.1 = 41) = false := by simp [h41]
        by_cases h40 : x.1 = 40
        · have e40 : decide (x.1 = 40) = true := by simp [h40]
          have e124 : decide (x.1 = 124) = false := by simp [h40]
          rw [if_neg h41, if_pos h40, e40, e41, e124]
          simp only [Bool.false_eq_true, if_false, if_true, ite_self]
          rw [wi (n := d) (by omega), if_neg (by simp; omega)]
          unfold millwrightref07_expression.j28 millwrightref07_expression.j16
          rw [if_neg (by decide), wi (n := i) (by omega)]
          exact go (d + 1) (by omega)
        · have e40 : decide (x.1 = 40) = false := by simp [h40]
          rw [if_neg h41, if_neg h40, e40, e41]
          simp only [Bool.false_eq_true, if_false]
          rw [if_neg (show ¬ decide ((d : Int) < 0) = true by simp)]
          by_cases hb : x.1 = 124 ∧ d = 0
          · obtain ⟨h124, rfl⟩ := hb
            have e124 : decide (x.1 = 124) = true := by simp [h124]
            rw [if_pos (show x.1 = 124 ∧ (0 : Nat) = 0 from ⟨h124, rfl⟩), if_pos (show (((0 : Nat) : Int) == 0) = true by decide), e124]
            unfold millwrightref07_expression.j28 millwrightref07_expression.j16
            rw [if_pos rfl, s1, Option.bind_some, s2, Option.bind_some, opened_eq K (by omega) _ (by simp; omega), Option.bind_some, w1, hcall, Option.bind_some]
            cases hB : brD M [] ((ts.take i).drop from_) (a + opn (ts.take from_)) with
            | none => simp only [brR]; rfl
            | some ks =>
              simp only [brR, Bool.not_true, Bool.false_eq_true, if_false]
              rw [ofNs_len, if_pos (by simp only [List.length_cons, List.length_nil]; omega), wi (by omega), dn_eta]
              have e : ofNs kids ++ [ofN (jn 2 ks)] = ofNs (kids ++ [jn 2 ks]) := by rw [ofNs_app]; rfl
              rw [e]
              have ih := rex_loop rf M hrf ha fuel (i + 1) (i + 1) 0 t (kids ++ [jn 2 ks]) h2 (by omega) (by omega) (by omega) (by omega) (by simp only [List.length_append, List.length_cons, List.length_nil]; omega)
              have e2 : (ts.take (i + 1)).drop (i + 1) = [] := List.drop_of_length_le (by simp; omega)
              have e3 : opn (ts.take (i + 1)) = opn (ts.take from_) + opn ((ts.take i).drop from_) := by
                have : ts.take i = ts.take from_ ++ (ts.take i).drop from_ := by
                  have := List.take_append_drop from_ (ts.take i)
                  rw [List.take_take, Nat.min_eq_left hfr] at this
                  exact this.symm
                rw [h4, opn_app]
                conv => lhs; rw [this]
                rw [opn_app]
                simp only [opn, h40, if_false, Nat.add_zero]
              rw [e2, e3] at ih
              rw [← Nat.add_assoc] at ih
              exact ih
          · rw [if_neg hb]
            have nb : (if (d : Int) == 0 then millwrightref07_expression.j28 K (millwrightref07_expression.l8 K rf (ts.map ofT) (a : Int) fuel) rf (ts.map ofT) (a : Int) (ofNs kids) (from_ : Int) (i : Int) (d : Int) (decide (x.1 = 124)) else millwrightref07_expression.j28 K (millwrightref07_expression.l8 K rf (ts.map ofT) (a : Int) fuel) rf (ts.map ofT) (a : Int) (ofNs kids) (from_ : Int) (i : Int) (d : Int) false) = millwrightref07_expression.j28 K (millwrightref07_expression.l8 K rf (ts.map ofT) (a : Int) fuel) rf (ts.map ofT) (a : Int) (ofNs kids) (from_ : Int) (i : Int) (d : Int) false := by
              by_cases hd0 : d = 0
              · have : ¬ x.1 = 124 := fun e => hb ⟨e, hd0⟩
                simp only [this, decide_false, ite_self]
              · rw [if_neg (by simp; omega)]
            rw [nb]
            unfold millwrightref07_expression.j28 millwrightref07_expression.j16
            rw [if_neg (by decide), wi (by omega)]
            exact go d (by omega)
end
theorem rexp_succ (k : Nat) : millwrightref07_expression.f (k + 1) = millwrightref07_expression.b k (millwrightref07_branch.f k) := rfl
theorem rbra_succ (k : Nat) : millwrightref07_branch.f (k + 1) = millwrightref07_branch.b k (millwrightref07_expression.f k) := rfl
theorem rexp_eq : ∀ (L K : Nat), 4100 + 2 * L ≤ K → L ≤ 500 → ∀ (M : Nat) (ts : List Tk) (c : Nat), ts.length ≤ L → 2 * ts.length + 2 ≤ M → c + ts.length ≤ 10000 →
    millwrightref07_expression.f K (ts.map ofT) (c : Int) = some (exR (exD M ts c)) := by
  intro L
  induction L with
  | zero =>
    intro K hK hL M ts c hl hM hc
    obtain ⟨K, rfl⟩ : ∃ y, K = y + 2 := ⟨K - 2, by omega⟩
    obtain ⟨M, rfl⟩ : ∃ y, M = y + 1 := ⟨M - 1, by omega⟩
    rw [rexp_succ]
    have h := rex_loop (K + 1) (by omega) ts (by omega) c (millwrightref07_branch.f (K + 1)) M (fun seg c' hs hc' => by
      rw [rbra_succ]
      exact rbr_eq K (by omega) seg (by omega) c' _ (fun M inner c hi => by omega) hc' M (by omega)) hc (K + 1) 0 0 0 ts [] rfl (by omega) (by omega) (by omega) (by omega) (by simp only [List.length_nil]; omega)
    simp only [List.take_zero, List.drop_nil, opn, Nat.add_zero] at h
    unfold exD millwrightref07_expression.b
    exact h
  | succ L ih =>
    intro K hK hL M ts c hl hM hc
    obtain ⟨K, rfl⟩ : ∃ y, K = y + 2 := ⟨K - 2, by omega⟩
    obtain ⟨M, rfl⟩ : ∃ y, M = y + 1 := ⟨M - 1, by omega⟩
    rw [rexp_succ]
    have h := rex_loop (K + 1) (by omega) ts (by omega) c (millwrightref07_branch.f (K + 1)) M (fun seg c' hs hc' => by
      rw [rbra_succ]
      exact rbr_eq K (by omega) seg (by omega) c' _ (fun M inner c hi hM hc => ih K (by omega) (by omega) M inner c (by omega) hM hc) hc' M (by omega)) hc (K + 1) 0 0 0 ts [] rfl (by omega) (by omega) (by omega) (by omega) (by simp only [List.length_nil]; omega)
    simp only [List.take_zero, List.drop_nil, opn, Nat.add_zero] at h
    unfold exD millwrightref07_expression.b
    exact h
theorem toks_len : ∀ (m : Nat) (r : List UInt8) (ts : List Tk), toksS m r = some ts → ts.length ≤ r.length := fun m r ts h => by
  have := (toks_con m r ts h).len tkC_ok
  omega
theorem rparse_eq (K : Nat) (hK : 5200 ≤ K) (s : List UInt8) : millwrightref07_Parse.f K s = some (ofN (parseD s).1, ((parseD s).2 : Int)) := by
  unfold millwrightref07_Parse.f parseD
  by_cases h : s.length > 60
  · rw [if_pos (by simp; omega), if_pos h]; rfl
  · rw [if_neg (by simp; omega), if_neg h, rsigns_eq s (by omega) K (by omega), Option.bind_some]
    cases hT : toksS (s.length + 1) s with
    | none => rfl
    | some ts =>
      have hl := toks_len _ _ _ hT
      have e := rexp_eq 60 K (by omega) (by omega) (2 * ts.length + 2) ts 0 (by omega) (Nat.le_refl _) (by omega)
      have e' : millwrightref07_expression.f K (ts.map ofT) 0 = _ := e
      simp only
      rw [if_neg (by decide), e', Option.bind_some]
      cases hE : exD (2 * ts.length + 2) ts 0 with
      | none => rfl
      | some n =>
        simp only [exR, Bool.not_true, Bool.false_eq_true, if_false]
        rw [opened_eq K (by omega) ts (by omega), Option.bind_some, dn_eta]
        by_cases h9 : opn ts > 9
        · rw [if_pos (by simp; omega), if_pos h9]; rfl
        · rw [if_neg (by simp; omega), if_neg h9]; rfl
end Go.Proofs.YtpcobejkpbalcaaDoor.Rx
