/- The words of a text: the code's and the document's by one mirror. -/
import Derived.Test.YtldepagjdbcmgaaGreatDoorK23XWVB
namespace Go.Proofs.YtldepagjdbcmgaaGreatDoor.Lx
open Go Go.AM Go.ChangeShapes Go.ChangeAt Go.RowKit
set_option linter.unusedVariables false
set_option linter.unusedSimpArgs false
set_option maxRecDepth 100000
set_option maxHeartbeats 1000000
def flu (out : List (List Pc)) (w : List Pc) : List (List Pc) := if w = [] then out else out ++ [w]
def runW : Nat → List UInt8 → List (List Pc) → List Pc → Sum (List (List Pc) × List Pc) Nat
  | 0, _, out, w => .inl (out, w)
  | _ + 1, [], out, w => .inl (out, w)
  | m + 1, b :: t, out, w => if bl b then runW m t (flu out w) [] else if (tokE (b :: t)).2.2 = 0 then runW m (tokE (b :: t)).2.1 out (w ++ [(tokE (b :: t)).1]) else .inr (tokE (b :: t)).2.2
def finW : Sum (List (List Pc) × List Pc) Nat → List (List Pc) × Nat
  | .inl x => (flu x.1 x.2, 0)
  | .inr e => ([], e)
theorem tk_le (b : UInt8) (r : List UInt8) {e : Nat} (h : e ≤ 18) : (tk b r e).2 ≤ 18 := by
  unfold tk fl
  split
  · split
    · exact h
    · simp only; split <;> omega
  · simp only; split <;> omega
theorem nmE_le (r : List UInt8) {e : Nat} (h : e ≤ 18) : nmE r e ≤ 18 := by
  unfold nmE fl
  split
  · exact h
  · split <;> omega
theorem tokE_le (b : UInt8) (t : List UInt8) : (tokE (b :: t)).2.2 ≤ 18 := by
  rw [tokE_cons]
  split
  · unfold quoE; split <;> simp
  split
  · unfold varE
    split
    · split
      · split
        · exact tk_le _ _ (tk_le _ _ (nmE_le _ (Nat.zero_le _)))
        · exact tk_le _ _ (nmE_le _ (Nat.zero_le _))
      · exact tk_le _ _ (nmE_le _ (Nat.zero_le _))
    · exact nmE_le _ (Nat.zero_le _)
  split
  · exact tk_le _ _ (tk_le _ _ (Nat.zero_le _))
  · simp
theorem runW_le : ∀ (m : Nat) (r : List UInt8) (out : List (List Pc)) (w : List Pc) (e : Nat), runW m r out w = .inr e → e ≤ 18 ∧ e ≠ 0
  | 0, _, _, _, _, h => by cases h
  | _ + 1, [], _, _, _, h => by cases h
  | m + 1, b :: t, out, w, e, h => by
    unfold runW at h
    split at h
    · exact runW_le m _ _ _ e h
    split at h
    · exact runW_le m _ _ _ e h
    · rename_i hne
      cases h
      exact ⟨tokE_le b t, hne⟩
def Sml (N n : Nat) (out : List (List Pc)) (w : List Pc) : Prop := out.length + w.length + n ≤ N ∧ (∀ x ∈ out, x.length ≤ N ∧ ∀ p ∈ x, smallP N p) ∧ ∀ p ∈ w, smallP N p
theorem Sml.flu {N n : Nat} {out : List (List Pc)} {w : List Pc} (h : Sml N (n + 1) out w) : Sml N n (flu out w) [] := by
  obtain ⟨h1, h2, h3⟩ := h
  unfold Lx.flu
  split
  · exact ⟨by simp only [List.length_nil]; omega, h2, fun p hp => by cases hp⟩
  · rename_i hw
    have : w.length ≠ 0 := fun e => hw (List.length_eq_zero_iff.1 e)
    refine ⟨by simp only [List.length_append, List.length_cons, List.length_nil]; omega, fun x hx => ?_, fun p hp => by cases hp⟩
    rcases List.mem_append.1 hx with hx | hx
    · exact h2 x hx
    · simp only [List.mem_singleton] at hx; subst hx; exact ⟨by omega, h3⟩
theorem Sml.put {N n n' : Nat} {out : List (List Pc)} {w : List Pc} (h : Sml N n out w) (hn : n' < n) {p : Pc} (hp : smallP N p) : Sml N n' out (w ++ [p]) := by
  obtain ⟨h1, h2, h3⟩ := h
  refine ⟨by simp only [List.length_append, List.length_cons, List.length_nil]; omega, h2, fun q hq => ?_⟩
  rcases List.mem_append.1 hq with hq | hq
  · exact h3 q hq
  · simp only [List.mem_singleton] at hq; subst hq; exact hp
theorem tok_small {N : Nat} {b : UInt8} {t : List UInt8} (hb : bl b = false) (he : (tokE (b :: t)).2.2 = 0) (h : (b :: t).length ≤ N) : smallP N (tokE (b :: t)).1 ∧ (tokE (b :: t)).2.1.length < (b :: t).length := by
  obtain ⟨_, f2, f3, _⟩ := tok_fine b t hb he
  exact ⟨⟨by omega, by omega, by omega⟩, f2⟩
theorem runW_sml {N : Nat} : ∀ (m : Nat) (r : List UInt8) (out : List (List Pc)) (w : List Pc), r.length < m → Sml N r.length out w → ∀ o v, runW m r out w = .inl (o, v) → Sml N 0 o v
  | 0, _, _, _, h, _, _, _, _ => by omega
  | _ + 1, [], out, w, _, hs, o, v, h => by cases h; exact hs
  | m + 1, b :: t, out, w, hm, hs, o, v, h => by
    simp only [List.length_cons] at hm
    have hN := hs.1
    unfold runW at h
    split at h
    · exact runW_sml m t _ _ (by omega) hs.flu o v h
    rename_i hb
    have hb : bl b = false := by simpa using hb
    split at h
    · rename_i he
      obtain ⟨q1, q2⟩ := tok_small (N := N) hb he (by omega)
      simp only [List.length_cons] at q2
      exact runW_sml m _ _ _ (by omega) (hs.put q2 q1) o v h
    · cases h
theorem doc_loop (k : Nat) (s : List UInt8) (hs : s.length ≤ 100000) (hk : s.length < k) : ∀ (m n i : Nat) (r : List UInt8) (out : List (List Pc)) (w : List Pc), s.drop i = r → i ≤ s.length → r.length < m → r.length < n → Sml s.length r.length out w →
    millwrightref13_Words.l11 k s n out w (i : Int) = some (match runW m r out w with | .inl x => .inl x | .inr e => .inr ([], (e : Int)))
  | 0, _, _, _, _, _, _, _, h, _, _ => by omega
  | _, 0, _, _, _, _, _, _, _, h, _ => by omega
  | m + 1, n + 1, i, [], out, w, hd, _, _, _, _ => by
    have := at_nil hd
    unfold millwrightref13_Words.l11
    rw [if_neg (by simp; omega)]; rfl
  | m + 1, n + 1, i, b :: t, out, w, hd, hi, hm, hn, hS => by
    obtain ⟨g1, g2, g3⟩ := at_drop hd
    have hLIM : LIM = 4294967296 := rfl
    have hN := hS.1
    simp only [List.length_cons] at hm hn
    have wlen : ((w.length : Int) > 0) ↔ ¬ w = [] := by
      cases w <;> simp
    unfold millwrightref13_Words.l11 millwrightref13_Words.j22
    rw [if_pos (by simp; exact g3), g1, Option.bind_some, rbl_eq, Option.bind_some, wr1 (by omega)]
    unfold runW
    cases hb : bl b with
    | true =>
      have hF := hS.flu
      rw [if_pos rfl, if_pos rfl]
      unfold flu at hF ⊢
      by_cases hw : w = []
      · subst hw
        rw [if_pos rfl] at hF ⊢
        rw [if_neg (by simp)]
        exact doc_loop k s hs hk m n (i + 1) t out [] g2 (by omega) (by omega) (by omega) hF
      · rw [if_neg hw] at hF ⊢
        rw [if_pos (by simpa using wlen.2 hw), if_pos (by simp only [List.length_cons, List.length_nil]; omega)]
        exact doc_loop k s hs hk m n (i + 1) t _ [] g2 (by omega) (by omega) (by omega) hF
    | false =>
      have ht := One_eq k s hs hk i b t hd
      rw [if_neg (by decide), if_neg (by decide)]
      unfold Told at ht
      by_cases he : (tokE (b :: t)).2.2 = 0
      · obtain ⟨q1, q2⟩ := tok_small (N := s.length) hb he (by omega)
        simp only [List.length_cons] at q2
        rw [if_pos he] at ht ⊢
        obtain ⟨j, h1, h2, h3⟩ := ht
        have ih := doc_loop k s hs hk m n j _ out (w ++ [(tokE (b :: t)).1]) h3 h2 (by omega) (by omega) (hS.put (by simpa using q2) q1)
        rw [h1, Option.bind_some, if_neg (by simp), if_pos (by simp only [List.length_cons, List.length_nil]; omega)]
        exact ih
      · rw [if_neg he] at ht ⊢
        rw [ht, Option.bind_some, if_pos (by simpa using he)]
theorem sml0 (s : List UInt8) : Sml s.length s.length [] [] := ⟨by simp, ⟨fun x hx => (by cases hx), fun x hx => (by cases hx)⟩⟩
theorem flu_len {N : Nat} {out : List (List Pc)} {w : List Pc} (h : Sml N 0 out w) : (flu out w).length ≤ N ∧ ∀ x ∈ flu out w, x.length ≤ N ∧ ∀ p ∈ x, smallP N p := by
  obtain ⟨h1, h2, h3⟩ := h
  unfold flu
  split
  · exact ⟨by omega, h2⟩
  · rename_i hw
    have : w.length ≠ 0 := fun e => hw (List.length_eq_zero_iff.1 e)
    refine ⟨by simp only [List.length_append, List.length_cons, List.length_nil]; omega, fun x hx => ?_⟩
    rcases List.mem_append.1 hx with hx | hx
    · exact h2 x hx
    · simp only [List.mem_singleton] at hx; subst hx; exact ⟨by omega, h3⟩
theorem doc_words (k : Nat) (s : List UInt8) (hs : s.length ≤ 100000) (hk : s.length < k) : millwrightref13_Words.f k s = some ((finW (runW (s.length + 1) s [] [])).1, ((finW (runW (s.length + 1) s [] [])).2 : Int)) := by
  have h := doc_loop k s hs hk (s.length + 1) k 0 s [] [] rfl (by omega) (by omega) hk (sml0 s)
  have h : millwrightref13_Words.l11 k s k [] [] 0 = _ := h
  unfold millwrightref13_Words.f millwrightref13_Words.j7 millwrightref13_Words.j4
  rw [h, Option.bind_some]
  cases hr : runW (s.length + 1) s [] [] with
  | inr e => rfl
  | inl x =>
    obtain ⟨out, w⟩ := x
    have hS := runW_sml (N := s.length) (s.length + 1) s [] [] (by omega) (sml0 s) out w hr
    have hN := hS.1
    have hLIM : LIM = 4294967296 := rfl
    unfold finW flu
    simp only
    cases w with
    | nil => rfl
    | cons p w => rw [if_pos (by simp), if_pos (by simp only [List.length_cons, List.length_nil] at hN ⊢; omega), if_neg (by simp)]; rfl
def brk (r : List UInt8) : Prop := r = [] ∨ ∃ b t, r = b :: t ∧ bl b = true
theorem fin_flu {r : List UInt8} (hb : brk r) (m : Nat) (hm : r.length < m) (out : List (List Pc)) (w : List Pc) : finW (runW m r out w) = finW (runW m r (flu out w) []) := by
  obtain ⟨m, rfl⟩ : ∃ x, m = x + 1 := ⟨m - 1, by omega⟩
  rcases hb with rfl | ⟨b, t, rfl, hb⟩
  · rfl
  · unfold runW
    rw [if_pos hb, if_pos hb]; rfl
theorem run_skip : ∀ (r : List UInt8) (m : Nat) (out : List (List Pc)), r.length < m → ∃ m', (r.dropWhile bl).length < m' ∧ m' ≤ m ∧ runW m r out [] = runW m' (r.dropWhile bl) out []
  | _, 0, _, h => by omega
  | [], m + 1, out, h => ⟨m + 1, h, Nat.le_refl _, rfl⟩
  | b :: t, m + 1, out, h => by
    simp only [List.length_cons] at h
    rw [List.dropWhile_cons]
    cases hb : bl b with
    | true =>
      obtain ⟨m', h1, h2, h3⟩ := run_skip t m out (by omega)
      refine ⟨m', by simpa using h1, by omega, ?_⟩
      rw [if_pos rfl, ← h3]
      conv => lhs; unfold runW
      rw [if_pos hb]; rfl
    | false => exact ⟨m + 1, by simpa using h, Nat.le_refl _, by simp⟩
theorem code_inner (k : Nat) (s : List UInt8) (hs : s.length ≤ 100000) (hk : s.length < k) (out : List (List Pc)) : ∀ (m n : Nat) (i : Int) (r : List UInt8) (acc : List Pc), At s i r → r.length < m → r.length < n → Sml s.length r.length out acc →
    (∃ w r' j m', lex_Words.l17 k s out n i 0 acc = some (.inl (j, 0, w)) ∧ At s j r' ∧ brk r' ∧ r'.length < m' ∧ runW m r out acc = runW m' r' out w ∧ Sml s.length r'.length out w ∧ r'.length ≤ r.length ∧ (acc ≠ [] → w ≠ []) ∧ (∀ b t, r = b :: t → bl b = false → r'.length < r.length ∧ w ≠ [])) ∨
    (∃ e, runW m r out acc = .inr e ∧ lex_Words.l17 k s out n i 0 acc = some (.inr ([], e)))
  | 0, n, i, r, acc, _, h, _, _ => by omega
  | m + 1, 0, i, r, acc, _, _, h, _ => by omega
  | m + 1, n + 1, i, [], acc, ha, hm, _, hS => by
    left
    refine ⟨acc, [], i, m + 1, ?_, ha, .inl rfl, hm, rfl, hS, Nat.le_refl _, id, fun b t h => by cases h⟩
    unfold lex_Words.l17 lex_Words.j29
    rw [if_neg (by simpa using ha.nil), if_neg (by decide)]
  | m + 1, n + 1, i, b :: r, acc, ha, hm, hn, hS => by
    obtain ⟨g1, g2, g3⟩ := ha.step hs
    have hLIM : LIM = 4294967296 := rfl
    have hN := hS.1
    simp only [List.length_cons] at hm hn
    unfold lex_Words.l17 lex_Words.j29
    rw [if_pos (by simpa using g3), g2, Option.bind_some, bl_eq, Option.bind_some]
    cases hb : bl b with
    | true => left; exact ⟨acc, b :: r, i, m + 1, by simp, ha, .inr ⟨b, r, rfl, hb⟩, by simpa using hm, rfl, hS, Nat.le_refl _, id, fun c t h hc => by cases h; rw [hb] at hc; cases hc⟩
    | false =>
      obtain ⟨j, f1, f2⟩ := piece_eq k s hs hk i b r ha
      have hR : runW (m + 1) (b :: r) out acc = if (tokE (b :: r)).2.2 = 0 then runW m (tokE (b :: r)).2.1 out (acc ++ [(tokE (b :: r)).1]) else .inr (tokE (b :: r)).2.2 := by
        conv => lhs; unfold runW
        rw [hb, if_neg (by decide)]
      simp only [Bool.not_false, if_true]
      unfold lex_Words.j26
      rw [f1, Option.bind_some]
      simp only [List.length_cons, List.length_nil] at hN ⊢
      rw [if_pos (by omega)]
      by_cases he : (tokE (b :: r)).2.2 = 0
      · obtain ⟨q1, q2⟩ := tok_small (N := s.length) hb he (by simp only [List.length_cons]; omega)
        simp only [List.length_cons] at q2
        rw [he, if_pos rfl] at hR
        rw [if_neg (by simp [he]), he, hR]
        rcases code_inner k s hs hk out m n j (tokE (b :: r)).2.1 (acc ++ [(tokE (b :: r)).1]) f2 (by omega) (by omega) (hS.put (by simpa using q2) q1) with ⟨w, r', j', m', h1, h2, h3, h4, h5, h6, h7, h8, h9⟩ | h
        · left
          exact ⟨w, r', j', m', h1, h2, h3, h4, h5, h6, by omega, fun _ => h8 (by simp), fun _ _ _ _ => ⟨by omega, h8 (by simp)⟩⟩
        · right; exact h
      · right
        rw [if_neg he] at hR
        rw [if_pos (by simp [he])]
        exact ⟨_, hR, rfl⟩
theorem code_loop (k : Nat) (s : List UInt8) (hs : s.length ≤ 100000) (hk : s.length < k) : ∀ (n m : Nat) (i : Int) (r : List UInt8) (out : List (List Pc)), At s i r → r.length < m → r.length < n → Sml s.length r.length out [] →
    lex_Words.l4 k s n i 0 out = some (finW (runW m r out []))
  | 0, m, i, r, out, _, _, h, _ => by omega
  | n + 1, m, i, r, out, ha, hm, hn, hS => by
    have hLIM : LIM = 4294967296 := rfl
    obtain ⟨j, h1, h2⟩ := take0_eq k s hs hk i r 0 ha
    obtain ⟨m', k1, k2, k3⟩ := run_skip r m out hm
    have hdl := dw_len bl r
    have hN := hS.1
    unfold lex_Words.l4
    rw [h1, Option.bind_some, k3]
    simp only
    cases hr : r.dropWhile bl with
    | nil =>
      rw [hr] at h2 k1
      rw [if_pos (by have := h2.nil; simp; omega)]
      obtain ⟨x, rfl⟩ : ∃ x, m' = x + 1 := ⟨m' - 1, by simp at k1; omega⟩
      rfl
    | cons b t =>
      have hb : bl b = false := dw_hd bl r b (by rw [hr]; rfl)
      rw [hr] at h2 hdl k1
      obtain ⟨_, _, g3⟩ := h2.step hs
      have hsl := h2.len
      rw [if_neg (by rw [decide_eq_true_eq]; omega)]
      have hS' : Sml s.length (b :: t).length out [] := ⟨by simp only [List.length_nil] at hN ⊢; omega, hS.2⟩
      rcases code_inner k s hs hk out m' k j (b :: t) [] h2 k1 (by omega) hS' with ⟨w, r', j', m2, e1, e2, e3, e4, e5, e6, e7, _, e9⟩ | ⟨e, e1, e2⟩
      · obtain ⟨q1, q2⟩ := e9 b t rfl hb
        have hN6 := e6.1
        rw [e1, e5, fin_flu e3 m2 e4]
        simp only [Option.bind_some]
        unfold lex_Words.j13
        have hw1 : w.length ≠ 0 := fun e => q2 (List.length_eq_zero_iff.1 e)
        rw [if_pos (by simp only [List.length_cons, List.length_nil]; omega)]
        have hF : Sml s.length r'.length (out ++ [w]) [] := by
          refine ⟨by simp only [List.length_append, List.length_cons, List.length_nil]; omega, fun x hx => ?_, fun p hp => by cases hp⟩
          rcases List.mem_append.1 hx with hx | hx
          · exact hS.2.1 x hx
          · simp only [List.mem_singleton] at hx; subst hx; exact ⟨by omega, e6.2.2⟩
        have : flu out w = out ++ [w] := if_neg q2
        rw [this]
        exact code_loop k s hs hk n m2 j' r' _ e2 e4 (by omega) hF
      · rw [e2, e1]; rfl
theorem code_words (k : Nat) (s : List UInt8) (hs : s.length ≤ 100000) (hk : s.length < k) : lex_Words.f k s = some (finW (runW (s.length + 1) s [] [])) := by
  unfold lex_Words.f
  rw [code_loop k s hs hk k (s.length + 1) 0 s [] ⟨0, rfl, by omega, rfl⟩ (by omega) hk (sml0 s)]; rfl
theorem words_small (s : List UInt8) : ((finW (runW (s.length + 1) s [] [])).2 ≤ 18) ∧ (finW (runW (s.length + 1) s [] [])).1.length ≤ s.length ∧ ∀ x ∈ (finW (runW (s.length + 1) s [] [])).1, x.length ≤ s.length ∧ ∀ p ∈ x, smallP s.length p := by
  cases hr : runW (s.length + 1) s [] [] with
  | inr e => exact ⟨(runW_le _ _ _ _ _ hr).1, by simp [finW], fun x hx => by cases hx⟩
  | inl x =>
    obtain ⟨out, w⟩ := x
    exact ⟨Nat.zero_le _, flu_len (runW_sml (N := s.length) (s.length + 1) s [] [] (by omega) (sml0 s) out w hr)⟩
end Go.Proofs.YtldepagjdbcmgaaGreatDoor.Lx
