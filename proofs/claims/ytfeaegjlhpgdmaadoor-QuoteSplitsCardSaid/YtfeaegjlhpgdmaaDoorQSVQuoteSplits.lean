/- A part of the proof of a given law: QSVQuoteSplits. Own work, printed in part by a program of mine. -/
import Derived.Test.YtfeaegjlhpgdmaaDoorQSVB
namespace Go.Proofs.YtfeaegjlhpgdmaaDoor
open Go Go.AM Go.ChangeShapes Go.ChangeAt Go.RowKit
set_option linter.unusedVariables false
set_option linter.unusedSimpArgs false

/-- How many blanks a text begins with. -/
def sk : List UInt8 → Nat
  | [] => 0
  | b :: t => if bl b then sk t + 1 else 0
theorem sk_le : ∀ t, sk t ≤ t.length
  | [] => by simp [sk]
  | b :: t => by unfold sk; have := sk_le t; split <;> simp <;> omega
theorem sk_head : ∀ (t : List UInt8) (b : UInt8), (t.drop (sk t)).head? = some b → bl b = false
  | [], b, h => by simp at h
  | c :: t, b, h => by
    unfold sk at h
    cases hc : bl c with
    | true => rw [hc, if_pos rfl, List.drop_succ_cons] at h; exact sk_head t b h
    | false => rw [hc] at h; simp at h; rw [← h]; exact hc
theorem run_sk : ∀ (t : List UInt8) (out : List (List UInt8)) (w : List UInt8), run t out 0 w = run (t.drop (sk t)) out 0 w
  | [], out, w => rfl
  | c :: t, out, w => by
    unfold sk
    cases hc : bl c with
    | true =>
      rw [if_pos rfl, List.drop_succ_cons, ← run_sk t out w]
      simp [run, stp, norm, hc]
    | false => simp

theorem skip_loop (k : Nat) (s : List UInt8) (hs : s.length ≤ 100000) : ∀ (m i n : Nat) (v : Int), v = (i : Int) → i + m = s.length → m < n → quote_skip.l4 k s n v = some ((i + sk (s.drop i) : Nat) : Int) := by
  intro m
  induction m with
  | zero =>
    intro i n v hv hi hn; obtain ⟨n, rfl⟩ : ∃ m, n = m + 1 := ⟨n - 1, by omega⟩; subst hv
    unfold quote_skip.l4 quote_skip.j11
    rw [if_neg (by simp; omega), List.drop_eq_nil_of_le (by omega)]; rfl
  | succ m ih =>
    intro i n v hv hi hn; obtain ⟨n, rfl⟩ : ∃ m, n = m + 1 := ⟨n - 1, by omega⟩; subst hv
    have hlt : i < s.length := by omega
    have w1 : IntKind.i64.wrap ((i : Int) + 1) = ((i + 1 : Nat) : Int) := by rw [w64 (by omega) (by omega)]; omega
    unfold quote_skip.l4 quote_skip.j11 quote_skip.j8
    rw [if_pos (by simp; omega), idx_at rfl hlt, Option.bind_some, blank_eq k _ s[i].toNat_lt, Option.bind_some, w1, ih (i + 1) n _ rfl (by omega) (by omega), List.drop_eq_getElem_cons (i := i) (l := s) hlt, sk]
    unfold bl
    cases blankI s[i].toNat with
    | true => rw [if_pos rfl, if_pos rfl]; congr 2; omega
    | false => simp

theorem skip_eq (k : Nat) (s : List UInt8) (i : Nat) (hs : s.length ≤ 100000) (hk : s.length < k) (hi : i ≤ s.length) : quote_skip.f k s (i : Int) = some ((i + sk (s.drop i) : Nat) : Int) := by
  unfold quote_skip.f quote_skip.j2
  rw [skip_loop k s hs (s.length - i) i k _ rfl (by omega) (by omega)]; rfl

theorem pReplace_eq (k : Nat) (s old new : List UInt8) (hs : s.length ≤ 100000) (ho : 1 ≤ old.length) (hn : new.length ≤ 100000) : pReplaceAll.f k s old new = some (Lib.replaceAll s old new) := by
  unfold pReplaceAll.f
  have h1 := Lib.countB_le ⟨old.toArray⟩ (by show 1 ≤ old.toArray.size; simpa using ho) _ ⟨s.toArray⟩ (Nat.le_refl _)
  have h2 : (⟨s.toArray⟩ : ByteArray).size = s.length := by show s.toArray.size = _; simp
  rw [h2] at h1
  have h3 : Lib.countB ⟨s.toArray⟩ ⟨old.toArray⟩ * new.length ≤ 100000 * 100000 := Nat.mul_le_mul (by omega) hn
  rw [if_pos ⟨by omega, ho, by omega⟩]

theorem nums_cat (a b : List UInt8) : numsOf a ++ numsOf b = numsOf (a ++ b) := by simp [numsOf]

theorem word_loop (k : Nat) (s : List UInt8) (hs : s.length ≤ 100000) (hk : s.length < k) : ∀ (m i n : Nat) (v : Int) (out : List (List UInt8)) (st : Nat) (w : List UInt8), v = (i : Int) → i + m = s.length → m < n → w.length ≤ i →
    (st = 0 ∨ st = 1 ∨ st = 3) → (st = 3 → (s.drop i).head? ≠ some 39) →
    (quote_word.l6 k s n v (numsOf w) = some (.inr ([], -1)) ∧ (run (s.drop i) out st w).2.1 = 2) ∨
    ∃ e w' st', quote_word.l6 k s n v (numsOf w) = some (.inl ((e : Nat) , numsOf w')) ∧ i ≤ e ∧ e ≤ s.length ∧ (∀ b, (s.drop e).head? = some b → bl b = true) ∧
      run (s.drop i) out st w = run (s.drop e) out st' w' ∧ ((e = i ∧ st' = st) ∨ st' = 1 ∨ st' = 3) := by
  intro m
  induction m using Nat.strongRecOn with
  | _ m ih =>
    intro i n v out st w hv hi hn hw hst h39
    obtain ⟨n, rfl⟩ : ∃ m, n = m + 1 := ⟨n - 1, by omega⟩; subst hv
    have hLIM : LIM = 4294967296 := rfl
    unfold quote_word.l6 quote_word.j23
    by_cases hm : m = 0
    · right
      refine ⟨i, w, st, by rw [if_neg (by simp; omega)]; rfl, by omega, by omega, ?_, rfl, .inl ⟨rfl, rfl⟩⟩
      intro b hb; rw [List.drop_eq_nil_of_le (by omega)] at hb; cases hb
    have hlt : i < s.length := by omega
    have hd := List.drop_eq_getElem_cons (i := i) (l := s) hlt
    have w1 : IntKind.i64.wrap ((i : Int) + 1) = ((i + 1 : Nat) : Int) := by rw [w64 (by omega) (by omega)]; omega
    rw [if_pos (by simp; omega), idx_at rfl hlt, Option.bind_some, blank_eq k _ s[i].toNat_lt, Option.bind_some]
    cases hb : blankI s[i].toNat with
    | true =>
      right
      refine ⟨i, w, st, by simp, by omega, by omega, ?_, rfl, .inl ⟨rfl, rfl⟩⟩
      intro b hb'; rw [hd, List.head?_cons] at hb'; rw [← Option.some.inj hb']; exact hb
    | false =>
      have hbl : bl s[i] = false := hb
      simp only [Bool.not_false, if_true]
      unfold quote_word.j20
      rw [idx_at rfl hlt, Option.bind_some, q39', w1]
      by_cases hx : s[i] = 39
      · have hst3 : st ≠ 3 := fun e => h39 e (by rw [hd, hx]; rfl)
        have hr : run (s.drop i) out st w = run (s.drop (i + 1)) out 2 w := by
          rw [hd, run]
          have : stp s[i] out st w = (out, 2, w) := by
            unfold stp norm
            rw [if_neg hst3, if_neg (by omega), hbl, hx]; simp
          rw [this]
        rw [if_neg (by simp [hx]), end_eq k s _ hs hk, Option.bind_some]
        have e : (i : Int).toNat = i := by simp
        have hend : endAt s (i : Int) = (match fe (s.drop (i + 1)) with | some q => ((i + 1 + q : Nat) : Int) | none => -1) := by
          unfold endAt
          rw [e, if_pos ⟨by omega, by omega, by rw [List.getElem?_eq_getElem hlt, hx]⟩]
          cases fe (s.drop (i + 1)) <;> rfl
        rw [hend, hr]
        rcases quoted _ (s.drop (i + 1)) (Nat.le_refl _) out w with ⟨h1, h2⟩ | ⟨q, u, h1, h2, h3, h4, h5, h6⟩
        · left
          rw [h1]
          exact ⟨by simp, h2⟩
        · rw [h1]
          have hql : i + 1 + q ≤ s.length := by simp at h3; omega
          have w3 : IntKind.i64.wrap (((i + 1 + q : Nat) : Int) - 1) = ((i + q : Nat) : Int) := by rw [w64 (by omega) (by omega)]; omega
          have hsub : sub s ((i + 1 : Nat) : Int) ((i + q : Nat) : Int) = some ((s.drop (i + 1)).take (q - 1)) := by
            rw [sub_at rfl rfl (by omega) (by omega), List.drop_take]
            congr 2; omega
          have hul := h4.len
          simp only [List.length_take, List.length_drop] at hul
          simp only [w3, hsub, Option.bind_some]
          rw [if_neg (by simp; omega), pReplace_eq k _ _ _ (by simp; omega) (by simp) (by simp), Option.bind_some, replaceAll_un h4, if_pos (by rw [nums_len]; omega), nums_cat, h5, List.drop_drop]
          have e2 : i + 1 + q = i + (1 + q) := by omega
          have hdd : (s.drop (i + 1 + q)).head? ≠ some 39 := by rw [← List.drop_drop]; exact h6
          rcases ih (m - 1 - q) (by omega) (i + 1 + q) n _ out 3 (w ++ u) rfl (by omega) (by omega) (by simp; omega) (.inr (.inr rfl)) (fun _ => hdd) with ⟨h7, h8⟩ | ⟨e', w', st', h7, h8, h9, h10, h11, h12⟩
          · exact .inl ⟨h7, h8⟩
          · refine .inr ⟨e', w', st', h7, by omega, h9, h10, h11, .inr ?_⟩
            rcases h12 with h12 | h12
            · exact .inr h12.2
            · exact h12
      · have hr : run (s.drop i) out st w = run (s.drop (i + 1)) out 1 (w ++ [s[i]]) := by
          rw [hd, run]
          have : stp s[i] out st w = (out, 1, w ++ [s[i]]) := by
            unfold stp norm
            rcases hst with rfl | rfl | rfl <;> simp [hbl, hx]
          rw [this]
        rw [if_pos (by simp [hx]), Option.bind_some, if_pos (by rw [nums_len]; simp; omega), nums_app, hr]
        rcases ih (m - 1) (by omega) (i + 1) n _ out 1 (w ++ [s[i]]) rfl (by omega) (by omega) (by simp; omega) (.inr (.inl rfl)) (fun h => by omega) with ⟨h7, h8⟩ | ⟨e', w', st', h7, h8, h9, h10, h11, h12⟩
        · exact .inl ⟨h7, h8⟩
        · refine .inr ⟨e', w', st', h7, by omega, h9, h10, h11, .inr ?_⟩
          rcases h12 with h12 | h12
          · exact .inl h12.2
          · exact h12

theorem word_eq (k : Nat) (s : List UInt8) (i : Nat) (out : List (List UInt8)) (hs : s.length ≤ 100000) (hk : s.length < k) (hi : i < s.length) (hh : ∀ b, (s.drop i).head? = some b → bl b = false) :
    (quote_word.f k s (i : Int) = some ([], -1) ∧ (run (s.drop i) out 0 []).2.1 = 2) ∨
    ∃ (e : Nat) (w' : List UInt8) (st' : Nat), quote_word.f k s (i : Int) = some (w', (e : Int)) ∧ i < e ∧ e ≤ s.length ∧ (∀ b, (s.drop e).head? = some b → bl b = true) ∧
      run (s.drop i) out 0 [] = run (s.drop e) out st' w' ∧ (st' = 1 ∨ st' = 3) := by
  unfold quote_word.f quote_word.j3
  have e0 : numsOf [] = [] := rfl
  rcases word_loop k s hs hk (s.length - i) i k _ out 0 [] rfl (by omega) (by omega) (by simp) (.inl rfl) (fun h => by cases h) with ⟨h1, h2⟩ | ⟨e, w', st', h1, h2, h3, h4, h5, h6⟩
  · left; rw [e0] at h1; exact ⟨by rw [h1]; rfl, h2⟩
  · right
    rw [e0] at h1
    have hd := List.drop_eq_getElem_cons (i := i) (l := s) hi
    have hne : e ≠ i := fun e' => by
      subst e'
      have h7 := h4 s[e] (by rw [hd]; rfl)
      rw [hh s[e] (by rw [hd]; rfl)] at h7; cases h7
    exact ⟨e, w', st', by rw [h1, Option.bind_some]; simp only [txt_nums], by omega, h3, h4, h5, h6.resolve_left fun h => hne h.1⟩

def spl (r : MS) : Sum (List (List UInt8)) (List (List UInt8) × Nat) := if r.2.1 = 2 then .inr ([], 5) else .inl (fin r).1

theorem blank39 {b : UInt8} (h : bl b = true) : b ≠ 39 := by rintro rfl; revert h; decide

theorem splitP_loop (k : Nat) (s : List UInt8) (hs : s.length ≤ 100000) (hk : s.length < k) : ∀ (m i n : Nat) (v : Int) (out : List (List UInt8)), v = (i : Int) → i + m = s.length → m < n → out.length ≤ i →
    (∀ b, (s.drop i).head? = some b → bl b = false) → quote_Split.l6 k s n out v = some (spl (run (s.drop i) out 0 [])) := by
  intro m
  induction m using Nat.strongRecOn with
  | _ m ih =>
    intro i n v out hv hi hn ho hh
    obtain ⟨n, rfl⟩ : ∃ m, n = m + 1 := ⟨n - 1, by omega⟩; subst hv
    have hLIM : LIM = 4294967296 := rfl
    unfold quote_Split.l6
    by_cases hm : m = 0
    · rw [if_neg (by simp; omega), List.drop_eq_nil_of_le (by omega)]; rfl
    have hlt : i < s.length := by omega
    rw [if_pos (by simp; omega)]
    rcases word_eq k s i out hs hk hlt hh with ⟨h1, h2⟩ | ⟨e, w', st', h1, h2, h3, h4, h5, h6⟩
    · rw [h1, Option.bind_some, if_pos (by decide)]
      unfold spl; rw [if_pos h2]
    · have hle := sk_le (s.drop e)
      rw [h1, Option.bind_some, if_neg (by simp), if_pos (by simp; omega), skip_eq k s e hs hk h3, Option.bind_some]
      simp only [List.length_drop] at hle
      have h7 := ih (s.length - (e + sk (s.drop e))) (by omega) (e + sk (s.drop e)) n _ (out ++ [w']) rfl (by omega) (by omega) (by simp; omega) (fun b hb => by rw [← List.drop_drop] at hb; exact sk_head _ _ hb)
      rw [h7, h5, ← List.drop_drop, ← run_sk]
      congr 1
      cases hd : s.drop e with
      | nil =>
        simp only [run]
        unfold spl fin
        rcases h6 with rfl | rfl <;> rfl
      | cons b t =>
        have hb := h4 b (by rw [hd]; rfl)
        have hb39 := blank39 hb
        rw [run, run]
        have e1 : stp b out st' w' = (out ++ [w'], 0, []) := by
          unfold stp norm
          rcases h6 with rfl | rfl <;> simp [hb, hb39]
        have e2 : stp b (out ++ [w']) 0 [] = (out ++ [w'], 0, []) := by simp [stp, norm, hb]
        rw [e1, e2]

def splN (r : MS) : List (List UInt8) × Nat := if r.2.1 = 2 then ([], 5) else ((fin r).1, 0)

theorem splitP_eq (k : Nat) (s : List UInt8) (hs : s.length ≤ 100000) (hk : s.length < k) : quote_Split.f k s = some (splN (run s [] 0 [])) := by
  unfold quote_Split.f quote_Split.j2
  have h0 := skip_eq k s 0 hs hk (by omega)
  rw [List.drop_zero, Nat.zero_add] at h0
  have hle := sk_le s
  have h0' : quote_skip.f k s 0 = some (sk s : Int) := h0
  rw [h0', Option.bind_some, splitP_loop k s hs hk (s.length - sk s) (sk s) k _ [] rfl (by omega) (by omega) (by simp) (sk_head s), Option.bind_some, ← run_sk]
  unfold spl splN
  split
  · rename_i h; split at h
    · cases h
    · rename_i h2; cases h; rw [if_neg h2]
  · rename_i h; split at h
    · rename_i h2; cases h; rw [if_pos h2]
    · cases h

/-! ### the parts between blanks -/
def fld : List UInt8 → List (List UInt8) → List UInt8 → List (List UInt8)
  | [], out, w => if w = [] then out else out ++ [w]
  | b :: t, out, w => if bl b then fld t (if w = [] then out else out ++ [w]) [] else fld t out (w ++ [b])
theorem fld_sk : ∀ (t : List UInt8) (out : List (List UInt8)), fld t out [] = fld (t.drop (sk t)) out []
  | [], out => rfl
  | c :: t, out => by
    unfold sk
    cases hc : bl c with
    | true => rw [if_pos rfl, List.drop_succ_cons, ← fld_sk t out]; simp [fld, hc]
    | false => simp

theorem rfields_loop (k : Nat) (s : List UInt8) (hs : s.length ≤ 100000) : ∀ (m i n : Nat) (v : Int) (out : List (List UInt8)) (w : List UInt8), v = (i : Int) → i + m = s.length → m + 1 < n → out.length ≤ i → w.length ≤ i →
    millwrightref11_Fields.l6 k s n out w v = some (fld (s.drop i) out w) := by
  intro m
  induction m with
  | zero =>
    intro i n v out w hv hi hn ho hw; obtain ⟨n, rfl⟩ : ∃ m, n = m + 2 := ⟨n - 2, by omega⟩; subst hv
    have hLIM : LIM = 4294967296 := rfl
    have w1 : IntKind.i64.wrap ((i : Int) + 1) = ((i + 1 : Nat) : Int) := by rw [w64 (by omega) (by omega)]; omega
    have hend : ∀ o x, millwrightref11_Fields.l6 k s (n + 1) o x ((i + 1 : Nat) : Int) = some o := fun o x => by
      unfold millwrightref11_Fields.l6; rw [if_neg (by simp; omega)]
    unfold millwrightref11_Fields.l6 millwrightref11_Fields.j23 millwrightref11_Fields.j18 millwrightref11_Fields.j15 millwrightref11_Fields.j13
    rw [if_pos (by simp; omega), if_neg (by simp; omega), if_neg (by simp), w1, List.drop_eq_nil_of_le (by omega), fld]
    by_cases hz : w = []
    · subst hz; rw [if_neg (by decide), if_pos rfl, hend]
    · have hp : 0 < w.length := List.length_pos_iff.2 hz
      rw [if_pos (by simp; omega), if_neg hz, if_pos (by simp; omega), hend]
  | succ m ih =>
    intro i n v out w hv hi hn ho hw; obtain ⟨n, rfl⟩ : ∃ m, n = m + 1 := ⟨n - 1, by omega⟩; subst hv
    have hLIM : LIM = 4294967296 := rfl
    have hlt : i < s.length := by omega
    have w1 : IntKind.i64.wrap ((i : Int) + 1) = ((i + 1 : Nat) : Int) := by rw [w64 (by omega) (by omega)]; omega
    have hsub : sub s (i : Int) ((i + 1 : Nat) : Int) = some [s[i]] := by
      rw [sub_at (a := i) (b := i + 1) rfl rfl (by omega) (by omega), List.drop_take, List.drop_eq_getElem_cons (i := i) (l := s) hlt, Nat.add_sub_cancel_left]
      rfl
    unfold millwrightref11_Fields.l6 millwrightref11_Fields.j23 millwrightref11_Fields.j18 millwrightref11_Fields.j15 millwrightref11_Fields.j13
    rw [if_pos (by simp; omega), if_pos (by simp; omega), idx_at rfl hlt, Option.bind_some, rblank_eq, Option.bind_some, w1, hsub, Option.bind_some, List.drop_eq_getElem_cons (i := i) (l := s) hlt, fld]
    unfold bl
    cases hb : blankI s[i].toNat with
    | true =>
      rw [if_neg (by simp), if_pos rfl]
      by_cases hz : w = []
      · subst hz; rw [if_neg (by decide), if_pos rfl]
        exact ih (i + 1) n _ out [] rfl (by omega) (by omega) (by omega) (by simp)
      · have hp : 0 < w.length := List.length_pos_iff.2 hz
        rw [if_pos (by simp; omega), if_neg hz, if_pos (by simp; omega)]
        exact ih (i + 1) n _ (out ++ [w]) [] rfl (by omega) (by omega) (by simp; omega) (by simp)
    | false =>
      rw [if_pos (by simp), if_pos (by simp; omega)]
      simp only [Bool.false_eq_true, if_false]
      exact ih (i + 1) n _ out (w ++ [s[i]]) rfl (by omega) (by omega) (by omega) (by simp; omega)

theorem fields_loop (k : Nat) (s : List UInt8) (hs : s.length ≤ 100000) : ∀ (m i f n : Nat) (v u : Int) (out : List (List UInt8)), v = (i : Int) → u = (f : Int) → i + m = s.length → m + 1 < n → out.length ≤ i → f ≤ i →
    quote_Fields.l7 k s n out u v = some (fld (s.drop i) out ((s.take i).drop f)) := by
  intro m
  induction m with
  | zero =>
    intro i f n v u out hv hu hi hn ho hf; obtain ⟨n, rfl⟩ : ∃ m, n = m + 2 := ⟨n - 2, by omega⟩; subst hv; subst hu
    have hLIM : LIM = 4294967296 := rfl
    have w1 : IntKind.i64.wrap ((i : Int) + 1) = ((i + 1 : Nat) : Int) := by rw [w64 (by omega) (by omega)]; omega
    have hend : ∀ o x, quote_Fields.l7 k s (n + 1) o x ((i + 1 : Nat) : Int) = some o := fun o x => by
      unfold quote_Fields.l7; rw [if_neg (by simp; omega)]
    unfold quote_Fields.l7 quote_Fields.j23 quote_Fields.j20 quote_Fields.j16 quote_Fields.j14
    rw [if_pos (by simp; omega), if_neg (by simp; omega), if_neg (by simp), w1, List.drop_eq_nil_of_le (i := i) (by omega), fld]
    by_cases hz : f = i
    · subst hz
      have e : (s.take f).drop f = [] := List.drop_eq_nil_of_le (by simp; omega)
      rw [if_neg (by simp), e, if_pos rfl, hend]
    · have hne : (s.take i).drop f ≠ [] := fun e => by have := congrArg List.length e; simp at this; omega
      rw [if_pos (by simp; omega), if_neg hne, sub_at rfl rfl (by omega) (by omega), Option.bind_some, if_pos (by simp; omega), hend]
  | succ m ih =>
    intro i f n v u out hv hu hi hn ho hf; obtain ⟨n, rfl⟩ : ∃ m, n = m + 1 := ⟨n - 1, by omega⟩; subst hv; subst hu
    have hLIM : LIM = 4294967296 := rfl
    have hlt : i < s.length := by omega
    have w1 : IntKind.i64.wrap ((i : Int) + 1) = ((i + 1 : Nat) : Int) := by rw [w64 (by omega) (by omega)]; omega
    unfold quote_Fields.l7 quote_Fields.j23 quote_Fields.j20 quote_Fields.j16 quote_Fields.j14
    rw [if_pos (by simp; omega), if_pos (by simp; omega), idx_at rfl hlt, Option.bind_some, blank_eq k _ s[i].toNat_lt, Option.bind_some, w1, List.drop_eq_getElem_cons (i := i) (l := s) hlt, fld]
    unfold bl
    have e0 : (s.take (i + 1)).drop (i + 1) = [] := List.drop_eq_nil_of_le (by simp; omega)
    cases hb : blankI s[i].toNat with
    | true =>
      rw [if_neg (by simp), if_pos rfl]
      by_cases hz : f = i
      · subst hz
        have e : (s.take f).drop f = [] := List.drop_eq_nil_of_le (by simp; omega)
        rw [if_neg (by simp), e, if_pos rfl, ← e0]
        exact ih (f + 1) (f + 1) n _ _ out rfl rfl (by omega) (by omega) (by omega) (by omega)
      · have hne : (s.take i).drop f ≠ [] := fun e => by have := congrArg List.length e; simp at this; omega
        rw [if_pos (by simp; omega), if_neg hne, sub_at rfl rfl (by omega) (by omega), Option.bind_some, if_pos (by simp; omega), ← e0]
        exact ih (i + 1) (i + 1) n _ _ _ rfl rfl (by omega) (by omega) (by simp; omega) (by omega)
    | false =>
      rw [if_pos (by simp)]
      simp only [Bool.false_eq_true, if_false]
      have e1 : (s.take i).drop f ++ [s[i]] = (s.take (i + 1)).drop f := by
        rw [List.take_succ_eq_append_getElem hlt, List.drop_append_of_le_length (by simp; omega)]
      rw [e1]
      exact ih (i + 1) f n _ _ out rfl rfl (by omega) (by omega) (by omega) (by omega)

theorem fields_eq (k : Nat) (s : List UInt8) (hs : s.length ≤ 100000) (hk : s.length + 1 < k) : quote_Fields.f k s = some (fld s [] []) := by
  unfold quote_Fields.f quote_Fields.j3
  have h0 := skip_eq k s 0 hs (by omega) (by omega)
  rw [List.drop_zero, Nat.zero_add] at h0
  have hle := sk_le s
  have h0' : quote_skip.f k s 0 = some (sk s : Int) := h0
  rw [h0', Option.bind_some, fields_loop k s hs (s.length - sk s) (sk s) (sk s) k _ _ [] rfl rfl (by omega) (by omega) (by simp) (by omega), Option.bind_some]
  have e : (s.take (sk s)).drop (sk s) = [] := List.drop_eq_nil_of_le (by simp; omega)
  rw [e, ← fld_sk]
theorem rfields_eq (k : Nat) (s : List UInt8) (hs : s.length ≤ 100000) (hk : s.length + 1 < k) : millwrightref11_Fields.f k s = some (fld s [] []) := by
  unfold millwrightref11_Fields.f millwrightref11_Fields.j2
  have := rfields_loop k s hs s.length 0 k 0 [] [] rfl (by omega) hk (by simp) (by simp)
  rw [List.drop_zero] at this
  rw [this]; rfl

theorem same_loop (k : Nat) (l : List (List UInt8)) (hl : l.length ≤ 1000000) : ∀ (m i n : Nat) (v : Int), v = (i : Int) → i + m = l.length → m < n → millwrightnum_SameTexts.l4 k l l n v = some (.inl ()) := by
  intro m
  induction m with
  | zero =>
    intro i n v hv hi hn; obtain ⟨n, rfl⟩ : ∃ m, n = m + 1 := ⟨n - 1, by omega⟩; subst hv
    unfold millwrightnum_SameTexts.l4; rw [if_neg (by simp; omega)]
  | succ m ih =>
    intro i n v hv hi hn; obtain ⟨n, rfl⟩ : ∃ m, n = m + 1 := ⟨n - 1, by omega⟩; subst hv
    have w1 : IntKind.i64.wrap ((i : Int) + 1) = ((i + 1 : Nat) : Int) := by rw [w64 (by omega) (by omega)]; omega
    unfold millwrightnum_SameTexts.l4
    rw [if_pos (by simp; omega), idx_at rfl (by omega), Option.bind_some, Option.bind_some, w1, ih (i + 1) n _ rfl (by omega) (by omega)]
    simp
theorem same_eq (k : Nat) (l : List (List UInt8)) (hl : l.length ≤ 1000000) (hk : l.length < k) : millwrightnum_SameTexts.f k l l = some true := by
  unfold millwrightnum_SameTexts.f millwrightnum_SameTexts.j2
  rw [if_neg (by simp), same_loop k l hl l.length 0 k 0 rfl (by omega) hk]; rfl

theorem fld_len : ∀ (t : List UInt8) (out : List (List UInt8)) (w : List UInt8), (fld t out w).length ≤ out.length + t.length + 1
  | [], out, w => by unfold fld; split <;> simp
  | b :: t, out, w => by
    unfold fld
    have h1 := fld_len t (if w = [] then out else out ++ [w]) []
    have h2 := fld_len t out (w ++ [b])
    have h3 : (if w = [] then out else out ++ [w]).length ≤ out.length + 1 := by split <;> simp
    split <;> simp only [List.length_cons] <;> omega

theorem num0 : millwrightnum_Num.f 400 0 = some 0 := by decide +kernel
theorem num5 : millwrightnum_Num.f 400 5 = some 5 := by decide +kernel

theorem quoteSplits_true (s : List UInt8) (a : Int) (_ : Wf Un .str s) (_ : Wf Un (.int .i64) a) : ∃ k, millwrightlaw11_QuoteSplits.f k s a = some true := by
  refine ⟨400, ?_⟩
  unfold millwrightlaw11_QuoteSplits.f
  rw [alive_eq, Option.bind_some]
  by_cases h : (s.length : Int) > 300
  · simp [h]
  · have hs : s.length ≤ 300 := by omega
    have hrl := run_len s [] 0 []
    have hfl := fld_len s [] []
    have hfin : (splN (run s [] 0 [])).1 = (fin (run s [] 0 [])).1 ∧ millwrightnum_Num.f 400 (splN (run s [] 0 [])).2 = some (fin (run s [] 0 [])).2 ∧ (fin (run s [] 0 [])).1.length < 400 := by
      generalize run s [] 0 [] = r at hrl
      unfold splN fin
      simp only [List.length_nil] at hrl
      by_cases h2 : r.2.1 = 2
      · simp only [h2, if_true]; exact ⟨trivial, num5, by simp⟩
      · simp only [h2, if_false]
        refine ⟨trivial, ?_, ?_⟩
        · by_cases h1 : r.2.1 = 0
          · simp only [h1, ne_eq, not_true_eq_false, if_false]; exact num0
          · simp only [h1, ne_eq, not_false_eq_true, if_true]; exact num0
        · split <;> simp <;> omega
    simp only [List.length_nil] at hfl
    simp only [Bool.not_true, Bool.false_eq_true, if_false, h, decide_false, splitP_eq 400 s (by omega) (by omega), rsplit_eq 400 s (by omega) (by omega), Option.bind_some, hfin.2.1, hfin.1, same_eq 400 _ (by omega) hfin.2.2,
      fields_eq 400 s (by omega) (by omega), rfields_eq 400 s (by omega) (by omega), same_eq 400 (fld s [] []) (by omega) (by omega), end_eq 400 s a (by omega) (by omega), rend_eq 400 s a (by omega) (by omega), beq_self_eq_true, if_true]
end Go.Proofs.YtfeaegjlhpgdmaaDoor
