/- A node's program: ways through it are its spans. -/
import Derived.Test.YteddmdkbeednmaaDoorK33DAXA
import Derived.Test.YteddmdkbeednmaaDoorK33DAWF
import Derived.Test.YteddmdkbeednmaaDoorK33DAVD
namespace Go.Proofs.YteddmdkbeednmaaDoor
open Go Go.AM
set_option linter.unusedVariables false
set_option linter.unusedSimpArgs false
set_option maxRecDepth 100000
namespace Dn
section
variable (P : List PI) (s : List UInt8)
abbrev Way (n i : Nat) (a : Int) : Prop := Pk.Hit P s.length (Pk.hasf s) n i a
variable {P s}
theorem at_pc {q : Nat} {x : PI} {R : List PI} (h : P.drop q = x :: R) : idx P (q : Int) = some x ∧ P.drop (q + 1) = R := ⟨(at_drop h).1, (at_drop h).2.1⟩
theorem drop_app {q : Nat} {A R : List PI} (h : P.drop q = A ++ R) : P.drop (q + A.length) = R := by
  rw [← List.drop_drop, h, List.drop_left]
theorem eps_ins (m i : Nat) (op x y a : Int) : Pk.eps m i (ins op x y) a = if op = 0 then [] else if op = 1 then [x, y] else if op = 2 then [x] else if op = 3 then [a + 1] else if op = 4 then (if i = 0 then [a + 1] else []) else if op = 5 then (if i = m then [a + 1] else []) else [] := rfl
theorem inv_split {n i q : Nat} {x y : Int} (h : Way P s n i q) (hx : idx P (q : Int) = some (ins 1 x y)) : ∃ n', n = n' + 1 ∧ (Way P s n' i x ∨ Way P s n' i y) := by
  rcases h.inv hx with ⟨h, _⟩ | ⟨n', b, e, hb, g⟩ | ⟨n', _, h, _⟩
  · cases h
  · rw [eps_ins] at hb
    simp only [Int.reduceEq, if_false, if_true] at hb
    rcases List.mem_cons.1 hb with rfl | hb
    · exact ⟨n', e, .inl g⟩
    · rw [List.mem_singleton.1 hb] at g; exact ⟨n', e, .inr g⟩
  · cases h
theorem inv_jump {n i q : Nat} {x y : Int} (h : Way P s n i q) (hx : idx P (q : Int) = some (ins 2 x y)) : ∃ n', n = n' + 1 ∧ Way P s n' i x := by
  rcases h.inv hx with ⟨h, _⟩ | ⟨n', b, e, hb, g⟩ | ⟨n', _, h, _⟩
  · cases h
  · rw [eps_ins] at hb
    simp only [Int.reduceEq, if_false, if_true] at hb
    rw [List.mem_singleton.1 hb] at g; exact ⟨n', e, g⟩
  · cases h
theorem inv_save {n i q : Nat} {x y : Int} (h : Way P s n i q) (hx : idx P (q : Int) = some (ins 3 x y)) : ∃ n', n = n' + 1 ∧ Way P s n' i ((q + 1 : Nat) : Int) := by
  rcases h.inv hx with ⟨h, _⟩ | ⟨n', b, e, hb, g⟩ | ⟨n', _, h, _⟩
  · cases h
  · rw [eps_ins] at hb
    simp only [Int.reduceEq, if_false, if_true] at hb
    rw [List.mem_singleton.1 hb] at g; exact ⟨n', e, g⟩
  · cases h
theorem inv_begin {n i q : Nat} {x y : Int} (h : Way P s n i q) (hx : idx P (q : Int) = some (ins 4 x y)) : ∃ n', n = n' + 1 ∧ i = 0 ∧ Way P s n' i ((q + 1 : Nat) : Int) := by
  rcases h.inv hx with ⟨h, _⟩ | ⟨n', b, e, hb, g⟩ | ⟨n', _, h, _⟩
  · cases h
  · rw [eps_ins] at hb
    simp only [Int.reduceEq, if_false, if_true] at hb
    split at hb
    · rename_i hi
      rw [List.mem_singleton.1 hb] at g; exact ⟨n', e, hi, g⟩
    · cases hb
  · cases h
theorem inv_end {n i q : Nat} {x y : Int} (h : Way P s n i q) (hx : idx P (q : Int) = some (ins 5 x y)) : ∃ n', n = n' + 1 ∧ i = s.length ∧ Way P s n' i ((q + 1 : Nat) : Int) := by
  rcases h.inv hx with ⟨h, _⟩ | ⟨n', b, e, hb, g⟩ | ⟨n', _, h, _⟩
  · cases h
  · rw [eps_ins] at hb
    simp only [Int.reduceEq, if_false, if_true] at hb
    split at hb
    · rename_i hi
      rw [List.mem_singleton.1 hb] at g; exact ⟨n', e, hi, g⟩
    · cases hb
  · cases h
theorem hasf_iff {i : Nat} {w : List Int} {a b c : Int} : Pk.hasf s i ⟨a, b, c, w⟩ = true ↔ ∃ c, s[i]? = some c ∧ setHas w c.toNat = true := by
  unfold Pk.hasf
  cases h : s[i]? with
  | none => simp
  | some c => simp only [Option.some.injEq, exists_eq_left']; exact Iff.rfl
theorem inv_byte {n i q : Nat} {w : List Int} (h : Way P s n i q) (hx : idx P (q : Int) = some ⟨0, 0, 0, w⟩) : ∃ n', n = n' + 1 ∧ (∃ c, s[i]? = some c ∧ setHas w c.toNat = true) ∧ Way P s n' (i + 1) ((q + 1 : Nat) : Int) := by
  rcases h.inv hx with ⟨h, _⟩ | ⟨n', b, e, hb, g⟩ | ⟨n', e, _, h1, h2, h3⟩
  · cases h
  · cases hb
  · exact ⟨n', e, hasf_iff.1 h1, h3⟩
theorem go_eps {i : Nat} {a b : Int} {x : PI} (hx : idx P a = some x) (hb : b ∈ Pk.eps s.length i x a) (h : ∃ n, Way P s n i b) : ∃ n, Way P s n i a := by
  obtain ⟨n, h⟩ := h
  exact ⟨n + 1, .eps hx hb h⟩
mutual
theorem way_in : ∀ (n : RN) (q : Nat) (R : List PI), rightN n = true → P.drop q = codeN n q ++ R → ∀ (i j : Nat), i ≤ s.length → Den s n i j → (∃ N, Way P s N j ((q + lenN n : Nat) : Int)) → ∃ N, Way P s N i (q : Int)
  | .mk kd ix st ks, q, R, h, hP, i, j, hi, hd, hw => by
    rw [rightN_eq] at h
    simp only [T_rex_Node.f_Kind, T_rex_Node.f_Index, T_rex_Node.f_Set, T_rex_Node.f_Kids, Bool.and_eq_true] at h
    have hC := fun q R => ways_in ks q R h.2
    have hA := fun q R e => waya_in ks q R e h.2
    have hL := fun q => lens_code ks q h.2
    have hle := denC_le s ks
    rw [Den] at hd
    rw [codeN] at hP
    rw [lenN] at hw
    rcases hdr_true h.1 with ⟨rfl, g⟩ | ⟨rfl, g⟩ | ⟨rfl, g⟩ | ⟨rfl, g⟩ | ⟨rfl, g⟩ | ⟨rfl, g⟩ | ⟨rfl, g⟩ | ⟨rfl, g, _⟩ | ⟨rfl, g⟩ | ⟨rfl, g⟩ <;>
      simp only [extra, Int.reduceEq, or_false, or_true, false_or, or_self, if_false, if_true, List.cons_append, List.append_assoc, List.nil_append] at hd hP hw
    · subst hd
      rw [List.eq_nil_of_length_eq_zero g, lensN] at hw
      exact hw
    · obtain ⟨rfl, hb⟩ := hd
      rw [List.eq_nil_of_length_eq_zero g, lensN] at hw
      obtain ⟨hx, _⟩ := at_pc hP
      obtain ⟨N, hN⟩ := hw
      have hlt : i < s.length := by
        obtain ⟨c, hc, _⟩ := hb
        rcases Nat.lt_or_ge i s.length with g | g
        · exact g
        · rw [List.getElem?_eq_none g] at hc; cases hc
      have e : ((q + (0 + 1) : Nat) : Int) = (q : Int) + 1 := by omega
      rw [e] at hN
      exact ⟨N + 1, .eat hx rfl (hasf_iff.2 hb) hlt hN⟩
    · exact hC q R hP i j hi hd (by rw [Nat.add_zero] at hw; exact hw)
    · exact hA q R _ hP rfl i j hi hd (by rw [← Nat.add_assoc] at hw; exact hw)
    · obtain ⟨hx, hP1⟩ := at_pc hP
      have hP2 := drop_app hP1
      rw [hL] at hP2
      obtain ⟨hy, _⟩ := at_pc hP2
      have back : ∀ b c, b ≤ s.length → DenC s ks b c → (∃ N, Way P s N c (q : Int)) → ∃ N, Way P s N b (q : Int) := fun b c hb hbc hq =>
        go_eps hx (by rw [eps_ins]; simp) (hC (q + 1) _ hP1 b c hb hbc (go_eps hy (by rw [eps_ins]; simp) hq))
      have hend : ∃ N, Way P s N j (q : Int) := go_eps hx (b := (q : Int) + (lensN ks : Int) + 2) (by rw [eps_ins]; simp) (by
        obtain ⟨N, hN⟩ := hw
        exact ⟨N, by rw [show (q : Int) + (lensN ks : Int) + 2 = ((q + (lensN ks + 2) : Nat) : Int) by omega]; exact hN⟩)
      revert hend
      clear hw
      induction hd with
      | refl => exact id
      | tail h1 h2 ih => exact fun he => ih hi (back _ _ (rt_le hle h1 hi).2 h2 he)
    · have hP2 := drop_app hP
      rw [hL] at hP2
      obtain ⟨hy, _⟩ := at_pc hP2
      obtain ⟨m, hm, hd⟩ := hd
      have hml := (hle i m hm hi).2
      have back : ∀ b c, b ≤ s.length → DenC s ks b c → (∃ N, Way P s N c ((q + lensN ks : Nat) : Int)) → ∃ N, Way P s N b (q : Int) := fun b c hb hbc hq => hC q _ hP b c hb hbc hq
      have hend : ∃ N, Way P s N j ((q + lensN ks : Nat) : Int) := go_eps hy (b := (q : Int) + (lensN ks : Int) + 1) (by rw [eps_ins]; simp) (by
        obtain ⟨N, hN⟩ := hw
        exact ⟨N, by rw [show (q : Int) + (lensN ks : Int) + 1 = ((q + (lensN ks + 1) : Nat) : Int) by omega]; exact hN⟩)
      have hm2 : ∃ N, Way P s N m ((q + lensN ks : Nat) : Int) := by
        revert hend
        clear hw hm
        induction hd with
        | refl => exact id
        | tail h1 h2 ih => exact fun he => ih hml (go_eps hy (by rw [eps_ins]; simp) (back _ _ (rt_le hle h1 hml).2 h2 he))
      exact back i m hi hm hm2
    · obtain ⟨hx, hP1⟩ := at_pc hP
      rcases hd with rfl | hd
      · exact go_eps hx (b := (q : Int) + 1 + (lensN ks : Int)) (by rw [eps_ins]; simp) (by
          obtain ⟨N, hN⟩ := hw
          exact ⟨N, by rw [show (q : Int) + 1 + (lensN ks : Int) = ((q + (lensN ks + 1) : Nat) : Int) by omega]; exact hN⟩)
      · exact go_eps hx (b := (q : Int) + 1) (by rw [eps_ins]; simp) (hC (q + 1) _ hP1 i j hi hd (by rw [show q + 1 + lensN ks = q + (lensN ks + 1) by omega]; exact hw))
    · obtain ⟨hx, hP1⟩ := at_pc hP
      have hP2 := drop_app hP1
      rw [hL] at hP2
      obtain ⟨hy, _⟩ := at_pc hP2
      refine go_eps hx (b := (q : Int) + 1) (by rw [eps_ins]; simp) (hC (q + 1) _ hP1 i j hi hd (go_eps hy (b := ((q + 1 + lensN ks : Nat) : Int) + 1) (by rw [eps_ins]; simp) ?_))
      obtain ⟨N, hN⟩ := hw
      exact ⟨N, by rw [show ((q + 1 + lensN ks : Nat) : Int) + 1 = ((q + (lensN ks + 2) : Nat) : Int) by omega]; exact hN⟩
    · obtain ⟨hx, _⟩ := at_pc hP
      obtain ⟨rfl, rfl⟩ := hd
      rw [List.eq_nil_of_length_eq_zero g, lensN] at hw
      exact go_eps hx (b := (q : Int) + 1) (by rw [eps_ins]; simp) (by
        obtain ⟨N, hN⟩ := hw
        exact ⟨N, by rw [show (q : Int) + 1 = ((q + (0 + 1) : Nat) : Int) by omega]; exact hN⟩)
    · obtain ⟨hx, _⟩ := at_pc hP
      obtain ⟨rfl, e⟩ := hd
      rw [List.eq_nil_of_length_eq_zero g, lensN] at hw
      exact go_eps hx (b := (q : Int) + 1) (by rw [eps_ins]; simp [e]) (by
        obtain ⟨N, hN⟩ := hw
        exact ⟨N, by rw [show (q : Int) + 1 = ((q + (0 + 1) : Nat) : Int) by omega]; exact hN⟩)
theorem ways_in : ∀ (ks : List RN) (q : Nat) (R : List PI), rightNs ks = true → P.drop q = codesN ks q ++ R → ∀ (i j : Nat), i ≤ s.length → DenC s ks i j → (∃ N, Way P s N j ((q + lensN ks : Nat) : Int)) → ∃ N, Way P s N i (q : Int)
  | [], q, R, _, _, i, j, _, hd, hw => by
    rw [DenC] at hd
    subst hd
    rw [lensN] at hw
    exact hw
  | x :: xs, q, R, h, hP, i, j, hi, hd, hw => by
    rw [rightNs, Bool.and_eq_true] at h
    rw [DenC] at hd
    obtain ⟨m, h1, h2⟩ := hd
    rw [codesN, List.append_assoc] at hP
    have hP2 := drop_app hP
    rw [len_code x q h.1] at hP2
    rw [lensN, ← Nat.add_assoc] at hw
    exact way_in x q _ h.1 hP i m hi h1 (ways_in xs (q + lenN x) _ h.2 hP2 m j (den_le s x i m h1 hi).2 h2 hw)
theorem waya_in : ∀ (ks : List RN) (q : Nat) (R : List PI) (e : Nat), rightNs ks = true → P.drop q = altN ks q e ++ R → e = q + lensN ks + 2 * (ks.length - 1) → ∀ (i j : Nat), i ≤ s.length → DenA s ks i j → (∃ N, Way P s N j (e : Int)) → ∃ N, Way P s N i (q : Int)
  | [], q, R, e, _, _, _, i, j, _, hd, hw => by rw [DenA] at hd; exact hd.elim
  | x :: xs, q, R, e, h, hP, he, i, j, hi, hd, hw => by
    rw [rightNs, Bool.and_eq_true] at h
    rw [DenA] at hd
    rw [altN] at hP
    have hrec := waya_in xs
    cases xs with
    | nil =>
      simp only [List.isEmpty_nil, if_true] at hP
      simp only [lensN, List.length_cons, List.length_nil, Nat.zero_add, Nat.sub_self, Nat.mul_zero, Nat.add_zero] at he
      rcases hd with hd | hd
      · exact way_in x q _ h.1 hP i j hi hd (by rw [← he]; exact hw)
      · rw [DenA] at hd; exact hd.elim
    | cons y ys =>
      simp only [List.isEmpty_cons, Bool.false_eq_true, if_false, List.cons_append, List.append_assoc] at hP
      obtain ⟨hx, hP1⟩ := at_pc hP
      have hP2 := drop_app hP1
      rw [len_code x _ h.1] at hP2
      obtain ⟨hy, hP3⟩ := at_pc hP2
      rcases hd with hd | hd
      · exact go_eps hx (b := (q : Int) + 1) (by rw [eps_ins]; simp) (way_in x (q + 1) _ h.1 hP1 i j hi hd (go_eps hy (b := (e : Int)) (by rw [eps_ins]; simp) hw))
      · refine go_eps hx (b := (q : Int) + 2 + (lenN x : Int)) (by rw [eps_ins]; simp) ?_
        have e1 : q + 1 + lenN x + 1 = q + lenN x + 2 := by omega
        rw [e1] at hP3
        obtain ⟨N, hN⟩ := hrec (q + lenN x + 2) R e h.2 hP3 (by simp only [lensN, List.length_cons] at he ⊢; omega) i j hi hd hw
        exact ⟨N, by rw [show (q : Int) + 2 + (lenN x : Int) = ((q + lenN x + 2 : Nat) : Int) by omega]; exact hN⟩
end
abbrev Out (P : List PI) (s : List UInt8) (N i : Nat) (D : Rl) (e : Int) : Prop := ∃ j N', N' ≤ N ∧ D i j ∧ Way P s N' j e
mutual
theorem way_out : ∀ (n : RN) (q : Nat) (R : List PI), rightN n = true → P.drop q = codeN n q ++ R → ∀ (N i : Nat), i ≤ s.length → Way P s N i (q : Int) → Out P s N i (Den s n) ((q + lenN n : Nat) : Int)
  | .mk kd ix st ks, q, R, h, hP, N, i, hi, hw => by
    rw [rightN_eq] at h
    simp only [T_rex_Node.f_Kind, T_rex_Node.f_Index, T_rex_Node.f_Set, T_rex_Node.f_Kids, Bool.and_eq_true] at h
    have hC := fun q R => ways_out ks q R h.2
    have hA := fun q R e => waya_out ks q R e h.2
    have hL := fun q => lens_code ks q h.2
    have hle := denC_le s ks
    rw [codeN] at hP
    rw [lenN]
    unfold Out
    simp only [Den]
    rcases hdr_true h.1 with ⟨rfl, g⟩ | ⟨rfl, g⟩ | ⟨rfl, g⟩ | ⟨rfl, g⟩ | ⟨rfl, g⟩ | ⟨rfl, g⟩ | ⟨rfl, g⟩ | ⟨rfl, g, _⟩ | ⟨rfl, g⟩ | ⟨rfl, g⟩ <;>
      simp only [extra, Int.reduceEq, or_false, or_true, false_or, or_self, if_false, if_true, List.cons_append, List.append_assoc, List.nil_append] at hP ⊢
    · rw [List.eq_nil_of_length_eq_zero g, lensN]
      exact ⟨i, N, Nat.le_refl _, rfl, hw⟩
    · obtain ⟨hx, _⟩ := at_pc hP
      rw [List.eq_nil_of_length_eq_zero g, lensN]
      obtain ⟨n', en', hb, hw⟩ := inv_byte hw hx
      exact ⟨i + 1, n', by omega, ⟨rfl, hb⟩, by rw [show q + (0 + 1) = q + 1 by omega]; exact hw⟩
    · exact hC q R hP N i hi hw
    · rw [← Nat.add_assoc]
      exact hA q R _ hP rfl N i hi hw (by rintro rfl; simp at g)
    · obtain ⟨hx, hP1⟩ := at_pc hP
      have hP2 := drop_app hP1
      rw [hL] at hP2
      obtain ⟨hy, _⟩ := at_pc hP2
      have go : ∀ (b N i : Nat), N ≤ b → i ≤ s.length → Way P s N i (q : Int) → ∃ j N', N' ≤ N ∧ RT (DenC s ks) i j ∧ Way P s N' j ((q + (lensN ks + 2) : Nat) : Int) := by
        intro b
        induction b with
        | zero =>
          intro N i hb hi hw
          obtain ⟨n', e, _⟩ := inv_split hw hx
          omega
        | succ b ih =>
          intro N i hb hi hw
          obtain ⟨n', en', hw | hw⟩ := inv_split hw hx
          · obtain ⟨j, n2, h2, h3, h4⟩ := hC (q + 1) _ hP1 n' i hi hw
            obtain ⟨n3, en3, h5⟩ := inv_jump h4 hy
            obtain ⟨j', n4, h6, h7, h8⟩ := ih n3 j (by omega) (hle i j h3 hi).2 h5
            exact ⟨j', n4, by omega, .head h3 h7, h8⟩
          · exact ⟨i, n', by omega, .refl i, by rw [show ((q + (lensN ks + 2) : Nat) : Int) = (q : Int) + (lensN ks : Int) + 2 by omega]; exact hw⟩
      exact go N N i (Nat.le_refl _) hi hw
    · have hP2 := drop_app hP
      rw [hL] at hP2
      obtain ⟨hy, _⟩ := at_pc hP2
      have go : ∀ (b N i : Nat), N ≤ b → i ≤ s.length → Way P s N i (q : Int) → ∃ j N', N' ≤ N ∧ (∃ m, DenC s ks i m ∧ RT (DenC s ks) m j) ∧ Way P s N' j ((q + (lensN ks + 1) : Nat) : Int) := by
        intro b
        induction b with
        | zero =>
          intro N i hb hi hw
          obtain ⟨j, n2, h2, h3, h4⟩ := hC q _ hP N i hi hw
          obtain ⟨n', e, _⟩ := inv_split h4 hy
          omega
        | succ b ih =>
          intro N i hb hi hw
          obtain ⟨j, n2, h2, h3, h4⟩ := hC q _ hP N i hi hw
          obtain ⟨n', en', hw | hw⟩ := inv_split h4 hy
          · obtain ⟨j', n4, h6, ⟨m, h7, h7'⟩, h8⟩ := ih n' j (by omega) (hle i j h3 hi).2 hw
            exact ⟨j', n4, by omega, ⟨j, h3, .head h7 h7'⟩, h8⟩
          · exact ⟨j, n', by omega, ⟨j, h3, .refl j⟩, by rw [show ((q + (lensN ks + 1) : Nat) : Int) = (q : Int) + (lensN ks : Int) + 1 by omega]; exact hw⟩
      exact go N N i (Nat.le_refl _) hi hw
    · obtain ⟨hx, hP1⟩ := at_pc hP
      obtain ⟨n', en', hw | hw⟩ := inv_split hw hx
      · obtain ⟨j, n2, h2, h3, h4⟩ := hC (q + 1) _ hP1 n' i hi hw
        exact ⟨j, n2, by omega, .inr h3, by rw [show q + (lensN ks + 1) = q + 1 + lensN ks by omega]; exact h4⟩
      · exact ⟨i, n', by omega, .inl rfl, by rw [show ((q + (lensN ks + 1) : Nat) : Int) = (q : Int) + 1 + (lensN ks : Int) by omega]; exact hw⟩
    · obtain ⟨hx, hP1⟩ := at_pc hP
      have hP2 := drop_app hP1
      rw [hL] at hP2
      obtain ⟨hy, _⟩ := at_pc hP2
      obtain ⟨n', en', hw⟩ := inv_save hw hx
      obtain ⟨j, n2, h2, h3, h4⟩ := hC (q + 1) _ hP1 n' i hi hw
      obtain ⟨n3, en3, h5⟩ := inv_save h4 hy
      exact ⟨j, n3, by omega, h3, by rw [show q + (lensN ks + 2) = q + 1 + lensN ks + 1 by omega]; exact h5⟩
    · obtain ⟨hx, _⟩ := at_pc hP
      rw [List.eq_nil_of_length_eq_zero g, lensN]
      obtain ⟨n', en', h0, hw⟩ := inv_begin hw hx
      exact ⟨i, n', by omega, ⟨rfl, h0⟩, by rw [show q + (0 + 1) = q + 1 by omega]; exact hw⟩
    · obtain ⟨hx, _⟩ := at_pc hP
      rw [List.eq_nil_of_length_eq_zero g, lensN]
      obtain ⟨n', en', h0, hw⟩ := inv_end hw hx
      exact ⟨i, n', by omega, ⟨rfl, h0⟩, by rw [show q + (0 + 1) = q + 1 by omega]; exact hw⟩
theorem ways_out : ∀ (ks : List RN) (q : Nat) (R : List PI), rightNs ks = true → P.drop q = codesN ks q ++ R → ∀ (N i : Nat), i ≤ s.length → Way P s N i (q : Int) → Out P s N i (DenC s ks) ((q + lensN ks : Nat) : Int)
  | [], q, R, _, _, N, i, hi, hw => ⟨i, N, Nat.le_refl _, by rw [DenC], by rw [lensN]; exact hw⟩
  | x :: xs, q, R, h, hP, N, i, hi, hw => by
    rw [rightNs, Bool.and_eq_true] at h
    rw [codesN, List.append_assoc] at hP
    have hP2 := drop_app hP
    rw [len_code x q h.1] at hP2
    obtain ⟨m, n1, a1, a2, a3⟩ := way_out x q _ h.1 hP N i hi hw
    obtain ⟨j, n2, b1, b2, b3⟩ := ways_out xs (q + lenN x) _ h.2 hP2 n1 m (den_le s x i m a2 hi).2 a3
    exact ⟨j, n2, by omega, by rw [DenC]; exact ⟨m, a2, b2⟩, by rw [lensN, ← Nat.add_assoc]; exact b3⟩
theorem waya_out : ∀ (ks : List RN) (q : Nat) (R : List PI) (e : Nat), rightNs ks = true → P.drop q = altN ks q e ++ R → e = q + lensN ks + 2 * (ks.length - 1) → ∀ (N i : Nat), i ≤ s.length → Way P s N i (q : Int) → ks ≠ [] → Out P s N i (DenA s ks) (e : Int)
  | [], q, R, e, _, _, _, N, i, hi, hw, hk => absurd rfl hk
  | x :: xs, q, R, e, h, hP, he, N, i, hi, hw, _ => by
    rw [rightNs, Bool.and_eq_true] at h
    rw [altN] at hP
    have hrec := waya_out xs
    unfold Out
    simp only [DenA]
    cases xs with
    | nil =>
      simp only [List.isEmpty_nil, if_true] at hP
      simp only [lensN, List.length_cons, List.length_nil, Nat.zero_add, Nat.sub_self, Nat.mul_zero, Nat.add_zero] at he
      obtain ⟨j, n1, a1, a2, a3⟩ := way_out x q _ h.1 hP N i hi hw
      exact ⟨j, n1, a1, .inl a2, by rw [he]; exact a3⟩
    | cons y ys =>
      simp only [List.isEmpty_cons, Bool.false_eq_true, if_false, List.cons_append, List.append_assoc] at hP
      obtain ⟨hx, hP1⟩ := at_pc hP
      have hP2 := drop_app hP1
      rw [len_code x _ h.1] at hP2
      obtain ⟨hy, hP3⟩ := at_pc hP2
      obtain ⟨n', en', hw | hw⟩ := inv_split hw hx
      · obtain ⟨j, n1, a1, a2, a3⟩ := way_out x (q + 1) _ h.1 hP1 n' i hi hw
        obtain ⟨n2, en2, a4⟩ := inv_jump a3 hy
        exact ⟨j, n2, by omega, .inl a2, a4⟩
      · have e1 : q + 1 + lenN x + 1 = q + lenN x + 2 := by omega
        rw [e1] at hP3
        obtain ⟨j, n1, a1, a2, a3⟩ := hrec (q + lenN x + 2) R e h.2 hP3 (by simp only [lensN, List.length_cons] at he ⊢; omega) n' i hi (by rw [show ((q + lenN x + 2 : Nat) : Int) = (q : Int) + 2 + (lenN x : Int) by omega]; exact hw) (by simp)
        exact ⟨j, n1, by omega, .inr a2, a3⟩
end
end
theorem way_prog {n : RN} {s : List UInt8} (h : rightN n = true) : (∃ N, Way (progN n) s N 0 0) ↔ Den s n 0 s.length := by
  have h0 : (progN n).drop 0 = ins 3 0 0 :: (codeN n 1 ++ [ins 3 1 0, ins 6 0 0]) := rfl
  obtain ⟨x0, d0⟩ := at_pc h0
  have d1 := drop_app d0
  rw [len_code n 1 h] at d1
  obtain ⟨x1, d2⟩ := at_pc d1
  obtain ⟨x2, _⟩ := at_pc d2
  constructor
  · rintro ⟨N, hw⟩
    obtain ⟨n1, en1, hw⟩ := inv_save (q := 0) hw x0
    obtain ⟨j, n2, _, hd, hw⟩ := way_out n 1 _ h d0 n1 0 (Nat.zero_le _) hw
    obtain ⟨n3, en3, hw⟩ := inv_save hw x1
    rcases hw.inv x2 with ⟨_, e⟩ | ⟨n', b, _, hb, _⟩ | ⟨n', _, h, _⟩
    · rw [← e]; exact hd
    · cases hb
    · cases h
  · intro hd
    have hend : ∃ N, Way (progN n) s N s.length ((0 + 1 + lenN n + 1 : Nat) : Int) := ⟨0, .done x2 rfl rfl⟩
    have h2 := go_eps (s := s) (i := s.length) x1 (b := ((0 + 1 + lenN n + 1 : Nat) : Int)) (by rw [eps_ins]; simp) hend
    obtain ⟨N, h3⟩ := way_in n 1 _ h d0 0 s.length (Nat.zero_le _) hd h2
    exact go_eps (s := s) (i := 0) x0 (b := ((0 + 1 : Nat) : Int)) (by rw [eps_ins]; simp) ⟨N, h3⟩
end Dn
end Go.Proofs.YteddmdkbeednmaaDoor
