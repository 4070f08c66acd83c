/- A part of the proof of a given law: DAVD. Own work, printed in part by a program of mine. -/
import Derived.Test.YteddmdkbeednmaaDoorK33DAVC
namespace Go.Proofs.YteddmdkbeednmaaDoor
open Go Go.AM
set_option linter.unusedVariables false
set_option linter.unusedSimpArgs false
set_option maxRecDepth 100000

theorem rightNs_app (ps : List RN) (x : RN) : rightNs (ps ++ [x]) = (rightNs ps && rightN x) := by
  induction ps with
  | nil => simp [rightNs]
  | cons y ys ih => simp [rightNs, ih, Bool.and_assoc]
theorem lensN_app (ps : List RN) (x : RN) : lensN (ps ++ [x]) = lensN ps + lenN x := by
  induction ps with
  | nil => simp [lensN]
  | cons y ys ih => simp only [List.cons_append, lensN, ih]; omega
theorem nszs_app (ps : List RN) (x : RN) : nszs (ps ++ [x]) = nszs ps + nsz x := by
  induction ps with
  | nil => simp [nszs]
  | cons y ys ih => simp only [List.cons_append, nszs, ih]; omega
theorem alt_pre : ∀ (ps : List RN) (x : RN) (p e : Nat), altN (ps ++ [x]) p e = preN ps p e ++ codeN x (p + lensN ps + 2 * ps.length)
  | [], x, p, e => by simp [altN, preN, lensN]
  | y :: ys, x, p, e => by
    have : (ys ++ [x]).isEmpty = false := by cases ys <;> rfl
    simp only [List.cons_append, altN, this, Bool.false_eq_true, if_false, preN, alt_pre ys x, lensN, List.length_cons, List.append_assoc]
    have : p + lenN y + 2 + lensN ys + 2 * ys.length = p + (lenN y + lensN ys) + 2 * (ys.length + 1) := by omega
    rw [this]
theorem len_pre : ∀ (ps : List RN) (p : Nat) (e : Int), rightNs ps = true → (preN ps p e).length = lensN ps + 2 * ps.length
  | [], p, e, _ => rfl
  | y :: ys, p, e, h => by
    simp only [rightNs, Bool.and_eq_true] at h
    simp only [preN, List.length_cons, List.length_append, len_code y _ h.1, len_pre ys _ e h.2, lensN]
    omega
theorem last_of {ks : List RN} (h : 1 ≤ ks.length) : ∃ ps x, ks = ps ++ [x] := by
  rcases List.eq_nil_or_concat ks with rfl | ⟨ps, x, rfl⟩
  · simp at h
  · exact ⟨ps, x, by simp⟩

theorem node_f : ∀ (k : Nat) (n : RN), rightN n = true → nsz n ≤ 120 → 2 * nsz n ≤ k → k ≤ 20000 → NodeOk k n
  | 0, n, _, _, h, _ => by have := nsz_pos n; omega
  | 1, n, _, _, h, _ => by have := nsz_pos n; omega
  | k + 2, .mk kd ix st ks, hr, h1, h2, h3 => by
    intro a hb
    rw [rightN_eq] at hr
    simp only [T_rex_Node.f_Kind, T_rex_Node.f_Index, T_rex_Node.f_Set, T_rex_Node.f_Kids, Bool.and_eq_true] at hr
    obtain ⟨hh, hks⟩ := hr
    simp only [nsz] at h1 h2 hb
    have hkl := nszs_len ks
    have hmem : ∀ x ∈ ks, rightN x = true := fun x hx => by
      clear hh h1 h2 hb hkl
      induction ks with
      | nil => cases hx
      | cons y ys ih =>
        simp only [rightNs, Bool.and_eq_true] at hks
        rcases List.mem_cons.1 hx with rfl | hx
        · exact hks.1
        · exact ih hks.2 hx
    have ih0 : ∀ x ∈ ks, NodeOk k x := fun x hx => by
      have := nsz_mem _ x hx
      exact node_f k x (hmem x hx) (by omega) (by omega) (by omega)
    have ih1 : ∀ x ∈ ks, NodeOk (k + 1) x := fun x hx => by
      have := nsz_mem _ x hx
      exact node_f (k + 1) x (hmem x hx) (by omega) (by omega) (by omega)
    rw [node_succ]
    unfold prog_writer_node_m0.b prog_writer_node_m0.j33
    simp only [T_rex_Node.f_Kind, T_rex_Node.f_Index, T_rex_Node.f_Set, T_rex_Node.f_Kids]
    rcases hdr_true hh with ⟨rfl, g⟩ | ⟨rfl, g⟩ | ⟨rfl, g⟩ | ⟨rfl, g⟩ | ⟨rfl, g⟩ | ⟨rfl, g⟩ | ⟨rfl, g⟩ | ⟨rfl, g, gi⟩ | ⟨rfl, g⟩ | ⟨rfl, g⟩
    · simp [codeN]
    · simp [codeN, put_f _ _ _ (show a.length ≤ 100000 by omega)]
    · -- one behind the other
      have := cat_loop (k + 1) (.mk 2 ix st ks) (by simp only [T_rex_Node.f_Kids]; omega) ks (k + 1) 0 a rfl (by omega) hks ih1 (by omega)
      have e0 : prog_writer_node_m0.l6 (k + 1) (prog_writer_node_m0.f (k + 1)) (.mk 2 ix st ks) (k + 1) a 0 = _ := this
      simp only [Int.reduceBEq, Bool.false_eq_true, if_false, if_true]
      rw [e0]
      simp [codeN]
    · -- one of them
      simp only [Int.reduceBEq, Bool.false_eq_true, if_false, if_true]
      rw [alt_succ]
      obtain ⟨ps, x, rfl⟩ := last_of (show 1 ≤ ks.length by omega)
      rw [rightNs_app, Bool.and_eq_true] at hks
      rw [nszs_app] at h1 h2 hb
      simp only [List.length_append, List.length_cons, List.length_nil] at g hkl
      have hbp := lens_bound ps hks.1
      have hbx := len_bound x hks.2
      have hpos := nsz_pos x
      have hpl := nszs_len ps
      unfold prog_writer_alt_m0.b prog_writer_alt_m0.j17
      have hlen : (((ps ++ [x]).length : Int) - 1) = (ps.length : Int) := by simp
      have hw : IntKind.i64.wrap (((ps ++ [x]).length : Int) - 1) = (ps.length : Int) := by rw [hlen, w64 (by omega) (by omega)]
      rw [hw, sub_to rfl rfl (by simp)]
      have htake : (ps ++ [x]).take ps.length = ps := List.take_left' rfl
      rw [htake]
      simp only [Option.bind_some]
      have e1 := alt_loop k (ps ++ [x]) ps (by omega) ps k 0 a [] rfl (by omega) hks.1 (fun y hy => ih0 y (List.mem_append.2 (.inl hy))) (by omega) rfl
      have e1' : prog_writer_alt_m0.l22 k (prog_writer_node_m0.f k) (ps ++ [x]) ps k a [] 0 = _ := e1
      rw [e1']
      simp only [Option.bind_some, List.nil_append]
      have hix : idx (ps ++ [x]) (ps.length : Int) = some x := by rw [idx_at rfl (by simp)]; simp
      rw [hix]
      simp only [Option.bind_some]
      have hlp := len_pre ps a.length 0 hks.1
      rw [ih0 x (by simp) _ (by simp [hlp]; omega)]
      simp only [Option.bind_some]
      have hA : (a ++ preN ps a.length 0).length = a.length + lensN ps + 2 * ps.length := by simp [hlp]; omega
      rw [hA]
      have hlx := len_code x (a.length + lensN ps + 2 * ps.length) hks.2
      have e2 := patch k (jumpsN ps a.length) (by
        have : ∀ (qs : List RN) p, (jumpsN qs p).length = qs.length := fun qs => by
          induction qs with
          | nil => intro p; rfl
          | cons y ys ih => intro p; simp [jumpsN, ih]
        rw [this]; omega) ps a (codeN x (a.length + lensN ps + 2 * ps.length)) k 0 (a.length + lensN (ps ++ [x]) + 2 * ((ps ++ [x]).length - 1)) hks.1 rfl (by omega) (by simp [hlp, hlx, lensN_app]; omega) (by simp [lensN_app]; omega)
      have e2' : prog_writer_alt_m0.l7 k (jumpsN ps a.length) k (a ++ preN ps a.length 0 ++ codeN x (a.length + lensN ps + 2 * ps.length)) 0 = _ := e2
      rw [e2']
      simp only [Option.bind_some]
      rw [show codeN (.mk 3 ix st (ps ++ [x])) a.length = altN (ps ++ [x]) a.length (a.length + lensN (ps ++ [x]) + 2 * ((ps ++ [x]).length - 1)) from rfl, alt_pre]
      simp
    all_goals try (obtain ⟨x, rfl⟩ := one_kid g)
    · -- again, or not
      simp only [Int.reduceBEq, Bool.false_eq_true, if_false, if_true]
      rw [show idx [x] 0 = some x from rfl]
      simp only [Option.bind_some]
      rw [maybe_succ]
      unfold prog_writer_maybe_m0.b prog_writer_maybe_m0.j6
      simp only [nszs] at h1 h2 hb
      simp only [rightNs, Bool.and_true] at hks
      have hbx := len_bound x hks
      have hlx := len_code x (a.length + 1) hks
      rw [wr1 (by omega), put_f k a _ (by omega)]
      simp only [Option.bind_some, rn_eta]
      rw [ih0 x (by simp) _ (by simp; omega)]
      have hl1 : (a ++ [T_prog_Instr.mk 1 ((a.length + 1 : Nat) : Int) 0 (List.replicate 4 0)]).length = a.length + 1 := by simp
      rw [hl1]
      simp only [Option.bind_some]
      simp only [Int.reduceBEq, Bool.false_eq_true, if_false, if_true]
      rw [put_f k _ _ (by simp [hlx]; omega)]
      simp only [Option.bind_some]
      have hcode : (a ++ [T_prog_Instr.mk 1 ((a.length + 1 : Nat) : Int) 0 (List.replicate 4 0)] ++ codeN x (a.length + 1) ++ [T_prog_Instr.mk 2 (a.length : Int) 0 (List.replicate 4 0)]) =
        a ++ T_prog_Instr.mk 1 ((a.length + 1 : Nat) : Int) 0 (List.replicate 4 0) :: (codeN x (a.length + 1) ++ [T_prog_Instr.mk 2 (a.length : Int) 0 (List.replicate 4 0)]) := by simp
      have hz : (0 + (a.length : Int).toNat) = a.length := by simp
      rw [hcode, hz, get_mid, if_pos (by simp; omega)]
      simp only [Option.bind_some, upd_mid]
      have hlen2 : (a ++ T_prog_Instr.mk 1 ((a.length + 1 : Nat) : Int) 0 (List.replicate 4 0) :: (codeN x (a.length + 1) ++ [T_prog_Instr.mk 2 (a.length : Int) 0 (List.replicate 4 0)])).length = a.length + lenN x + 2 := by simp [hlx]; omega
      rw [hlen2]
      simp [codeN, codesN, lensN, ins]
    · -- once or again
      simp only [Int.reduceBEq, Bool.false_eq_true, if_false, if_true]
      rw [show idx [x] 0 = some x from rfl]
      simp only [Option.bind_some]
      simp only [nszs] at h1 h2 hb
      simp only [rightNs, Bool.and_true] at hks
      have hbx := len_bound x hks
      have hlx := len_code x a.length hks
      rw [ih1 x (by simp) a (by omega)]
      simp only [Option.bind_some]
      have hl1 : (a ++ codeN x a.length).length = a.length + lenN x := by simp [hlx]
      rw [hl1, wr1 (by omega), put_f _ _ _ (by rw [hl1]; omega)]
      simp [codeN, codesN, lensN, ins]
    · -- or not
      simp only [Int.reduceBEq, Bool.false_eq_true, if_false, if_true]
      rw [show idx [x] 0 = some x from rfl]
      simp only [Option.bind_some]
      rw [maybe_succ]
      unfold prog_writer_maybe_m0.b prog_writer_maybe_m0.j6
      simp only [nszs] at h1 h2 hb
      simp only [rightNs, Bool.and_true] at hks
      have hbx := len_bound x hks
      have hlx := len_code x (a.length + 1) hks
      rw [wr1 (by omega), put_f k a _ (by omega)]
      simp only [Option.bind_some, rn_eta]
      rw [ih0 x (by simp) _ (by simp; omega)]
      have hl1 : (a ++ [T_prog_Instr.mk 1 ((a.length + 1 : Nat) : Int) 0 (List.replicate 4 0)]).length = a.length + 1 := by simp
      rw [hl1]
      simp only [Option.bind_some, Int.reduceBEq, Bool.false_eq_true, if_false, if_true]
      have hcode : (a ++ [T_prog_Instr.mk 1 ((a.length + 1 : Nat) : Int) 0 (List.replicate 4 0)] ++ codeN x (a.length + 1)) =
        a ++ T_prog_Instr.mk 1 ((a.length + 1 : Nat) : Int) 0 (List.replicate 4 0) :: codeN x (a.length + 1) := by simp
      have hz : (0 + (a.length : Int).toNat) = a.length := by simp
      rw [hcode, hz, get_mid, if_pos (by simp; omega)]
      simp only [Option.bind_some, upd_mid]
      have hlen2 : (a ++ T_prog_Instr.mk 1 ((a.length + 1 : Nat) : Int) 0 (List.replicate 4 0) :: codeN x (a.length + 1)).length = a.length + 1 + lenN x := by simp [hlx]; omega
      rw [hlen2]
      simp [codeN, codesN, lensN, ins]
    · -- a group
      simp only [Int.reduceBEq, Bool.false_eq_true, if_false, if_true]
      simp only [nszs] at h1 h2 hb
      simp only [rightNs, Bool.and_true] at hks
      have hbx := len_bound x hks
      have hlx := len_code x (a.length + 1) hks
      have hw1 : IntKind.i64.wrap (2 * ix) = 2 * ix := w64 (by omega) (by omega)
      have hw2 : IntKind.i64.wrap (2 * ix + 1) = 2 * ix + 1 := w64 (by omega) (by omega)
      rw [put_f _ a _ (by omega)]
      simp only [Option.bind_some, show idx [x] 0 = some x from rfl]
      rw [ih1 x (by simp) _ (by simp; omega)]
      simp only [Option.bind_some]
      rw [put_f _ _ _ (by simp [hlx]; omega), hw1, hw2]
      simp [codeN, codesN, lensN, ins]
    · simp [codeN, put_f _ _ _ (show a.length ≤ 100000 by omega), ins]
    · simp [codeN, put_f _ _ _ (show a.length ≤ 100000 by omega), ins]

theorem length_f (n : RN) (h1 : nsz n ≤ 120) : prog_Length.f 20000 n = some (if rightN n then (lenN n : Int) else 0) := by
  unfold prog_Length.f
  rw [rn_eta, right_f n 20000 h1 (by omega) (by omega)]
  simp only [Option.bind_some]
  cases hr : rightN n
  · simp
  · rw [if_neg (by simp), node_f 20000 n hr h1 (by omega) (by omega) [] (by simp; omega)]
    simp [len_code n 0 hr]

def progN (n : RN) : List PI := ins 3 0 0 :: (codeN n 1 ++ [ins 3 1 0, ins 6 0 0])

theorem compile_f (n : RN) (h1 : nsz n ≤ 120) : prog_Compile.f 20000 n = some (if rightN n then (if (lenN n : Int) > 197 then ([], 10) else (progN n, 0)) else ([], 17)) := by
  unfold prog_Compile.f
  rw [rn_eta, right_f n 20000 h1 (by omega) (by omega), length_f n h1]
  simp only [Option.bind_some]
  cases hr : rightN n
  · simp
  · rw [if_neg (by simp)]
    simp only [if_true]
    have hb := len_bound n hr
    have hw : IntKind.i64.wrap ((lenN n : Int) + 3) = (lenN n : Int) + 3 := w64 (by omega) (by omega)
    rw [hw]
    by_cases hl : (lenN n : Int) > 197
    · rw [if_pos (by simp; omega), if_pos hl]
    · rw [if_neg (by simp; omega), if_neg hl, put_f 20000 [] _ (by simp)]
      simp only [Option.bind_some]
      rw [node_f 20000 n hr h1 (by omega) (by omega) _ (by simp; omega)]
      simp only [Option.bind_some]
      have hlc := len_code n 1 hr
      rw [put_f _ _ _ (by simp [hlc]; omega)]
      simp only [Option.bind_some]
      rw [put_f _ _ _ (by simp [hlc]; omega)]
      simp [progN, ins]
end Go.Proofs.YteddmdkbeednmaaDoor
