/- Texts without signs: their pieces are their fields, and so is their list. -/
import Derived.Test.YtldepagjdbcmgaaDoorK21XPVE
import Derived.Test.YtldepagjdbcmgaaDoorK21XPVF
import Derived.Test.YtldepagjdbcmgaaDoorK21XPVW
namespace Go.Proofs.YtldepagjdbcmgaaDoor.Ex
open Go Go.AM Go.ChangeShapes Go.ChangeAt Go.RowKit
set_option linter.unusedVariables false
set_option linter.unusedSimpArgs false
set_option maxRecDepth 100000
abbrev Tx := List UInt8
abbrev Pc := T_lex_Piece
abbrev Mp := KV T_env_Var
def plain (s : Tx) : Prop := ∀ b ∈ s, b ≠ 39 ∧ b ≠ 36 ∧ b ≠ 96
def nb (b : UInt8) : Bool := !Lx.bl b
theorem plain_pl {b : UInt8} (h : b ≠ 39 ∧ b ≠ 36 ∧ b ≠ 96) : Lx.plB b = nb b := by
  unfold Lx.plB nb
  have h1 : (b != 39) = true := by simpa using h.1
  have h2 : (b != 36) = true := by simpa using h.2.1
  have h3 : (b != 96) = true := by simpa using h.2.2
  rw [h1, h2, h3]; simp
theorem take_pl : ∀ {s : Tx}, plain s → s.takeWhile Lx.plB = s.takeWhile nb ∧ s.dropWhile Lx.plB = s.dropWhile nb
  | [], _ => ⟨rfl, rfl⟩
  | b :: s, h => by
    obtain ⟨h1, h2⟩ := take_pl (s := s) fun x hx => h x (List.mem_cons_of_mem _ hx)
    rw [List.takeWhile_cons, List.takeWhile_cons, List.dropWhile_cons, List.dropWhile_cons, plain_pl (h b List.mem_cons_self), h1, h2]
    exact ⟨rfl, rfl⟩
theorem plain_drop {s : Tx} (h : plain s) (p : UInt8 → Bool) : plain (s.dropWhile p) := fun x hx => h x ((List.dropWhile_sublist p).subset hx)
def pl (w : Tx) : Pc := T_lex_Piece.mk 0 w [] []
theorem tok_plain {b : UInt8} {t : Tx} (h : plain (b :: t)) : Lx.tokE (b :: t) = (pl ((b :: t).takeWhile nb), (b :: t).dropWhile nb, 0) := by
  have hb := h b List.mem_cons_self
  obtain ⟨h1, h2⟩ := take_pl h
  rw [Lx.tokE_cons, if_neg hb.1, if_neg hb.2.1, if_neg hb.2.2, h1, h2]; rfl
theorem dw_head : ∀ (s : Tx) (p : UInt8 → Bool), s.dropWhile p = [] ∨ ∃ b t, s.dropWhile p = b :: t ∧ p b = false
  | [], _ => .inl rfl
  | b :: s, p => by
    rw [List.dropWhile_cons]
    cases hb : p b with
    | true => rw [if_pos rfl]; exact dw_head s p
    | false => exact .inr ⟨b, s, by rw [if_neg (by decide)], hb⟩
theorem word_plain {n : Nat} {b : UInt8} {t : Tx} (h : plain (b :: t)) (hb : Lx.bl b = false) : Lx.wordT (n + 2) (b :: t) = some ([pl ((b :: t).takeWhile nb)], (b :: t).dropWhile nb) := by
  unfold Lx.wordT
  rw [if_neg (by rw [hb]; decide), tok_plain h, if_pos rfl]
  simp only
  have e : Lx.wordT (n + 1) ((b :: t).dropWhile nb) = some ([], (b :: t).dropWhile nb) := by
    rcases dw_head (b :: t) nb with e | ⟨c, u, e, hc⟩
    · rw [e]; rfl
    · rw [e]
      have : Lx.bl c = true := by unfold nb at hc; simpa using hc
      unfold Lx.wordT
      rw [if_pos this]
  rw [e]; rfl
theorem fld_dw : ∀ (t : Tx) (out : List Tx), Qf.fld t out [] = Qf.fld (t.dropWhile Lx.bl) out []
  | [], out => rfl
  | c :: t, out => by
    rw [List.dropWhile_cons]
    cases hc : Lx.bl c with
    | true =>
      have hc' : Qf.bl c = true := hc
      rw [if_pos rfl, ← fld_dw t out]; simp [Qf.fld, hc']
    | false => rw [if_neg (by decide)]
theorem fld_tw : ∀ (t : Tx) (out : List Tx) (w : Tx), Qf.fld t out w = Qf.fld (t.dropWhile nb) out (w ++ t.takeWhile nb)
  | [], out, w => by simp
  | c :: t, out, w => by
    rw [List.dropWhile_cons, List.takeWhile_cons]
    cases hc : Lx.bl c with
    | true =>
      have : nb c = false := by unfold nb; rw [hc]; rfl
      rw [this]; simp
    | false =>
      have h1 : nb c = true := by unfold nb; rw [hc]; rfl
      have hc' : Qf.bl c = false := hc
      rw [h1, if_pos rfl, if_pos rfl]
      have := fld_tw t out (w ++ [c])
      rw [show Qf.fld (c :: t) out w = Qf.fld t out (w ++ [c]) by simp [Qf.fld, hc'], this, List.append_assoc]; rfl
theorem fld_end {u w : Tx} (hw : w ≠ []) (hu : u = [] ∨ ∃ c t, u = c :: t ∧ Lx.bl c = true) (out : List Tx) : Qf.fld u out w = Qf.fld u (out ++ [w]) [] := by
  rcases hu with rfl | ⟨c, t, rfl, hc⟩
  · simp [Qf.fld, hw]
  · have hc' : Qf.bl c = true := hc
    simp [Qf.fld, hw, hc']
theorem fld_out : ∀ (t : Tx) (out : List Tx) (w : Tx), Qf.fld t out w = out ++ Qf.fld t [] w
  | [], out, w => by unfold Qf.fld; split <;> simp
  | c :: t, out, w => by
    unfold Qf.fld
    cases hc : Qf.bl c with
    | true =>
      simp only [if_true]
      rw [fld_out t (if w = [] then out else out ++ [w]) [], fld_out t (if w = [] then [] else [] ++ [w]) []]
      split <;> simp
    | false =>
      simp only [Bool.false_eq_true, if_false]
      exact fld_out t out (w ++ [c])
theorem words_plain : ∀ (n : Nat) (s : Tx), plain s → s.length < n → Lx.wordsT n s = some ((Qf.fld s [] []).map fun w => [pl w])
  | 0, _, _, h => by omega
  | n + 1, s, h, hn => by
    have h' := plain_drop h Lx.bl
    have hl : (s.dropWhile Lx.bl).length ≤ s.length := (List.dropWhile_sublist _).length_le
    unfold Lx.wordsT
    rw [fld_dw s]
    rcases dw_head s Lx.bl with e | ⟨b, t, e, hb⟩
    · rw [e, if_pos rfl]; rfl
    · rw [e] at h' hl ⊢
      rw [if_neg (by simp)]
      have e1 : (b :: t).length + 1 = t.length + 2 := by simp
      rw [e1, word_plain h' hb, Option.bind_some]
      simp only
      have hb' : nb b = true := by unfold nb; rw [hb]; rfl
      have hd : ((b :: t).dropWhile nb).length ≤ t.length := by
        rw [List.dropWhile_cons, if_pos hb']; exact (List.dropWhile_sublist _).length_le
      have hw : (b :: t).takeWhile nb ≠ [] := by rw [List.takeWhile_cons, if_pos hb']; simp
      rw [words_plain n _ (plain_drop h' nb) (by simp at hl; omega), fld_tw (b :: t) [] [], List.nil_append]
      rw [fld_end hw (by
        rcases dw_head (b :: t) nb with e | ⟨c, u, e, hc⟩
        · exact .inl e
        · exact .inr ⟨c, u, e, by unfold nb at hc; simpa using hc⟩) [], fld_out _ ([] ++ [(b :: t).takeWhile nb])]
      rfl
theorem fld_ne : ∀ (t : Tx) (out : List Tx) (w : Tx), (∀ x ∈ out, x ≠ []) → ∀ x ∈ Qf.fld t out w, x ≠ []
  | [], out, w, h, x, hx => by
    unfold Qf.fld at hx
    split at hx
    · exact h x hx
    · rename_i hw
      rcases List.mem_append.1 hx with hx | hx
      · exact h x hx
      · rw [List.mem_singleton.1 hx]; exact hw
  | c :: t, out, w, h, x, hx => by
    unfold Qf.fld at hx
    split at hx
    · refine fld_ne t _ _ (fun y hy => ?_) x hx
      split at hy
      · exact h y hy
      · rename_i hw
        rcases List.mem_append.1 hy with hy | hy
        · exact h y hy
        · rw [List.mem_singleton.1 hy]; exact hw
    · exact fld_ne t _ _ h x hx

theorem joined1 (k : Nat) (w : Tx) (hw : w.length ≤ 100000) : expand_joined_m0.f k [[]] [w] = some [w] := by
  unfold expand_joined_m0.f
  have hlim : LIM = 4294967296 := rfl
  have e : IntKind.i64.wrap ((([[]] : List Tx).length : Int) - 1) = 0 := by decide
  rw [e]
  simp [upd, sub, hlim, idx]
  omega
theorem bounded1 (k : Nat) (hk : 4000 ≤ k) (w : Tx) (hw : w.length ≤ 120) : expand_bounded.f k [w] = some 0 := by
  unfold expand_bounded.f
  rw [if_neg (by simp), Ev.contains_eq2 k [w] (by simp) (by simp; omega), Option.bind_some]
  have : Ev.anyLong [w] = false := by unfold Ev.anyLong; simp; omega
  rw [this]; rfl
theorem word0 (k : Nat) (hk : 4000 ≤ k) (m : Mp) (out : List T_expand_Output) (w : Tx) (h0 : w ≠ []) (hw : w.length ≤ 120) : expand_Word_m0.f k [pl w] m out = some ([w], 0) := by
  unfold expand_Word_m0.f expand_expander_word_m0.f
  obtain ⟨j, hj⟩ : ∃ j, k = j + 2 := ⟨k - 2, by omega⟩
  have e : expand_expander_word_m0.l17 k m out [pl w] k [[]] true 0 = some (.inl ([w], true)) := by
    have : ∀ f, expand_expander_word_m0.l17 k m out [pl w] (f + 2) [[]] true 0 = some (.inl ([w], true)) := fun f => by
      unfold expand_expander_word_m0.l17 expand_expander_word_m0.j25
      have i0 : idx [pl w] 0 = some (pl w) := rfl
      have p0 : expand_expander_piece_m0.f k m out (T_lex_Piece.mk (pl w).f_Kind (pl w).f_Text (pl w).f_From (pl w).f_To) = some ([w], 0) := rfl
      rw [if_pos (by simp), i0, Option.bind_some, p0, Option.bind_some, if_neg (by simp)]
      simp only
      rw [joined1 k w (by omega), Option.bind_some, if_pos trivial]
      unfold expand_expander_word_m0.l17
      rw [if_neg (by rw [show IntKind.i64.wrap (0 + 1) = 1 from by decide]; simp)]; rfl
    have h2 := this j
    rw [← hj] at h2; exact h2
  rw [e, Option.bind_some]
  simp only
  unfold expand_expander_word_m0.j13 expand_expander_word_m0.j8 expand_expander_word_m0.j5
  rw [bounded1 k hk w hw]
  simp [h0]
theorem word1 (k : Nat) (hk : 4000 ≤ k) (out : List T_expand_Output) (w : Tx) (h0 : w ≠ []) (hw : w.length ≤ 120) : expand_Word_m1.f k [pl w] out = some ([w], 0) := by
  unfold expand_Word_m1.f expand_expander_word_m1.f
  obtain ⟨j, hj⟩ : ∃ j, k = j + 2 := ⟨k - 2, by omega⟩
  have e : expand_expander_word_m1.l17 k out [pl w] k [[]] true 0 = some (.inl ([w], true)) := by
    have : ∀ f, expand_expander_word_m1.l17 k out [pl w] (f + 2) [[]] true 0 = some (.inl ([w], true)) := fun f => by
      unfold expand_expander_word_m1.l17 expand_expander_word_m1.j25
      have i0 : idx [pl w] 0 = some (pl w) := rfl
      have p0 : expand_expander_piece_m1.f k out (T_lex_Piece.mk (pl w).f_Kind (pl w).f_Text (pl w).f_From (pl w).f_To) = some ([w], 0) := rfl
      rw [if_pos (by simp), i0, Option.bind_some, p0, Option.bind_some, if_neg (by simp)]
      simp only
      rw [joined1 k w (by omega), Option.bind_some, if_pos trivial]
      unfold expand_expander_word_m1.l17
      rw [if_neg (by rw [show IntKind.i64.wrap (0 + 1) = 1 from by decide]; simp)]; rfl
    have h2 := this j
    rw [← hj] at h2; exact h2
  rw [e, Option.bind_some]
  simp only
  unfold expand_expander_word_m1.j13 expand_expander_word_m1.j8 expand_expander_word_m1.j5
  rw [bounded1 k hk w hw]
  simp [h0]
def wds (ws : List Tx) : List (List Pc) := ws.map fun w => [pl w]
theorem wds_at {ws r : List Tx} {i : Nat} {w : Tx} (h : ws.drop i = w :: r) : idx (wds ws) (i : Int) = some [pl w] ∧ i < (wds ws).length := by
  obtain ⟨g1, g2, g3⟩ := Ev.at_drop h
  have g3' : i < (ws.map fun w => [pl w]).length := by simpa using g3
  rw [idx_at rfl g3] at g1
  refine ⟨?_, g3'⟩
  unfold wds
  rw [idx_at rfl g3', List.getElem_map]; simp only [Option.some.injEq] at g1 ⊢; rw [g1]
theorem words0 (k : Nat) (hk : 4000 ≤ k) (m : Mp) (out : List T_expand_Output) (ws : List Tx) (hl : ws.length ≤ 1000) (hw : ∀ w ∈ ws, w ≠ [] ∧ w.length ≤ 120) : ∀ (r : List Tx) (fuel i : Nat) (acc : List Tx), ws.drop i = r → r.length < fuel → acc.length ≤ i →
    expand_Words_m0.l6 k (wds ws) m out fuel acc (i : Int) = some (.inl (acc ++ r))
  | _, 0, _, _, _, h, _ => by omega
  | [], f + 1, i, acc, hd, _, _ => by
    have := Ev.at_nil hd
    have hlen : (wds ws).length = ws.length := by unfold wds; simp
    unfold expand_Words_m0.l6
    rw [if_neg (by simp; omega)]; simp
  | w :: r, f + 1, i, acc, hd, hf, ha => by
    obtain ⟨g1, g3⟩ := wds_at hd
    have g2 := (Ev.at_drop hd).2.1
    have hlen : (wds ws).length = ws.length := by unfold wds; simp
    have hx := hw w (List.mem_of_mem_drop (hd ▸ List.mem_cons_self))
    have hlim : LIM = 4294967296 := rfl
    unfold expand_Words_m0.l6
    rw [if_pos (by simp; omega), g1, Option.bind_some, word0 k hk m out w hx.1 hx.2, Option.bind_some, if_neg (by simp), if_pos (by simp; omega), Ev.wr1 (by omega), words0 k hk m out ws hl hw r f (i + 1) _ g2 (by simpa using hf) (by simp; omega)]
    simp
theorem words1 (k : Nat) (hk : 4000 ≤ k) (out : List T_expand_Output) (ws : List Tx) (hl : ws.length ≤ 1000) (hw : ∀ w ∈ ws, w ≠ [] ∧ w.length ≤ 120) : ∀ (r : List Tx) (fuel i : Nat) (acc : List Tx), ws.drop i = r → r.length < fuel → acc.length ≤ i →
    expand_Words_m1.l6 k (wds ws) out fuel acc (i : Int) = some (.inl (acc ++ r))
  | _, 0, _, _, _, h, _ => by omega
  | [], f + 1, i, acc, hd, _, _ => by
    have := Ev.at_nil hd
    have hlen : (wds ws).length = ws.length := by unfold wds; simp
    unfold expand_Words_m1.l6
    rw [if_neg (by simp; omega)]; simp
  | w :: r, f + 1, i, acc, hd, hf, ha => by
    obtain ⟨g1, g3⟩ := wds_at hd
    have g2 := (Ev.at_drop hd).2.1
    have hlen : (wds ws).length = ws.length := by unfold wds; simp
    have hx := hw w (List.mem_of_mem_drop (hd ▸ List.mem_cons_self))
    have hlim : LIM = 4294967296 := rfl
    unfold expand_Words_m1.l6
    rw [if_pos (by simp; omega), g1, Option.bind_some, word1 k hk out w hx.1 hx.2, Option.bind_some, if_neg (by simp), if_pos (by simp; omega), Ev.wr1 (by omega), words1 k hk out ws hl hw r f (i + 1) _ g2 (by simpa using hf) (by simp; omega)]
    simp
theorem text_plain (k : Nat) (hk : 4000 ≤ k) (s : Tx) (hs : s.length ≤ 1000) (hp : plain s) (hl : (Qf.fld s [] []).length ≤ 40) (hw : ∀ w ∈ Qf.fld s [] [], w.length ≤ 120) (m : Mp) (out : List T_expand_Output) :
    expand_Text_m0.f k s m out = some (Qf.fld s [] [], 0) ∧ expand_Text_m1.f k s out = some (Qf.fld s [] [], 0) := by
  have hw' : ∀ w ∈ Qf.fld s [] [], w ≠ [] ∧ w.length ≤ 120 := fun w h => ⟨fld_ne s [] [] (by simp) w h, hw w h⟩
  have ht := words_plain (s.length + 1) s hp (by omega)
  have hx : lex_Words.f k s = some (wds (Qf.fld s [] []), 0) := by
    rcases Lx.words_eq k s (by omega) (by omega) with ⟨l, h1, h2⟩ | ⟨h1, _⟩
    · rw [ht] at h1; cases h1; exact h2
    · rw [ht] at h1; cases h1
  unfold expand_Text_m0.f expand_Text_m1.f expand_Words_m0.f expand_Words_m1.f expand_Words_m0.j3 expand_Words_m1.j3
  rw [hx, Option.bind_some, Option.bind_some, if_neg (by simp), if_neg (by simp)]
  have e0 : expand_Words_m0.l6 k (wds (Qf.fld s [] [])) m out k [] 0 = _ := words0 k hk m out (Qf.fld s [] []) (by omega) hw' (Qf.fld s [] []) k 0 [] rfl (by omega) (by simp)
  have e1 : expand_Words_m1.l6 k (wds (Qf.fld s [] [])) out k [] 0 = _ := words1 k hk out (Qf.fld s [] []) (by omega) hw' (Qf.fld s [] []) k 0 [] rfl (by omega) (by simp)
  simp only
  rw [e0, e1, List.nil_append]
  simp only [Option.bind_some]
  rw [if_neg (by simp; omega)]
  exact ⟨rfl, rfl⟩
end Go.Proofs.YtldepagjdbcmgaaDoor.Ex
