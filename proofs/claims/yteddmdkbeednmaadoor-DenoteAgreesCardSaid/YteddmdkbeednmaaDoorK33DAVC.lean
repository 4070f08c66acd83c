/- A part of the proof of a given law: DAVC. Own work, printed in part by a program of mine. -/
import Derived.Test.YteddmdkbeednmaaDoorK33DAVB
namespace Go.Proofs.YteddmdkbeednmaaDoor
open Go Go.AM
set_option linter.unusedVariables false
set_option linter.unusedSimpArgs false
set_option maxRecDepth 100000

abbrev PI := T_prog_Instr
def ins (op x y : Int) : PI := ⟨op, x, y, List.replicate 4 (0 : Int)⟩
def extra (kd : Int) (m : Nat) : Nat :=
  if kd = 1 ∨ kd = 5 ∨ kd = 6 ∨ kd = 8 ∨ kd = 9 then 1 else if kd = 3 then 2 * (m - 1) else if kd = 4 ∨ kd = 7 then 2 else 0
mutual
def lenN : RN → Nat
  | .mk kd _ _ ks => lensN ks + extra kd ks.length
def lensN : List RN → Nat
  | [] => 0
  | x :: xs => lenN x + lensN xs
end
mutual
def codeN : RN → Nat → List PI
  | .mk kd ix st ks, p =>
    if kd = 1 then [⟨0, 0, 0, st⟩]
    else if kd = 2 then codesN ks p
    else if kd = 3 then altN ks p (p + lensN ks + 2 * (ks.length - 1))
    else if kd = 4 then ins 1 (p + 1) (p + lensN ks + 2) :: (codesN ks (p + 1) ++ [ins 2 p 0])
    else if kd = 5 then codesN ks p ++ [ins 1 p (p + lensN ks + 1)]
    else if kd = 6 then ins 1 (p + 1) (p + 1 + lensN ks) :: codesN ks (p + 1)
    else if kd = 7 then ins 3 (2 * ix) 0 :: (codesN ks (p + 1) ++ [ins 3 (2 * ix + 1) 0])
    else if kd = 8 then [ins 4 0 0] else if kd = 9 then [ins 5 0 0] else []
def codesN : List RN → Nat → List PI
  | [], _ => []
  | x :: xs, p => codeN x p ++ codesN xs (p + lenN x)
def altN : List RN → Nat → Nat → List PI
  | [], _, _ => []
  | x :: xs, p, e => if xs.isEmpty then codeN x p else ins 1 (p + 1) (p + 2 + lenN x) :: (codeN x (p + 1) ++ ins 2 e 0 :: altN xs (p + lenN x + 2) e)
end
def preN : List RN → Nat → Int → List PI
  | [], _, _ => []
  | x :: xs, p, e => ins 1 (p + 1) (p + 2 + lenN x) :: (codeN x (p + 1) ++ ins 2 e 0 :: preN xs (p + lenN x + 2) e)
def jumpsN : List RN → Nat → List Int
  | [], _ => []
  | x :: xs, p => ((p + 1 + lenN x : Nat) : Int) :: jumpsN xs (p + lenN x + 2)

theorem hdr_true {kd ix : Int} {st : List Int} {m : Nat} (h : hdr kd ix st m = true) :
    (kd = 0 ∧ m = 0) ∨ (kd = 1 ∧ m = 0) ∨ (kd = 2 ∧ 2 ≤ m) ∨ (kd = 3 ∧ 2 ≤ m) ∨ (kd = 4 ∧ m = 1) ∨ (kd = 5 ∧ m = 1) ∨ (kd = 6 ∧ m = 1) ∨ (kd = 7 ∧ m = 1 ∧ 1 ≤ ix ∧ ix ≤ 9) ∨ (kd = 8 ∧ m = 0) ∨ (kd = 9 ∧ m = 0) := by
  unfold hdr at h
  simp only [Bool.and_eq_true, decide_eq_true_eq] at h
  obtain ⟨⟨⟨h1, h2⟩, h3⟩, _⟩ := h
  have : kd = 0 ∨ kd = 1 ∨ kd = 2 ∨ kd = 3 ∨ kd = 4 ∨ kd = 5 ∨ kd = 6 ∨ kd = 7 ∨ kd = 8 ∨ kd = 9 := by omega
  rcases this with rfl | rfl | rfl | rfl | rfl | rfl | rfl | rfl | rfl | rfl <;> simp at h2 h3 <;> simp <;> omega

theorem one_kid {ks : List RN} (h : ks.length = 1) : ∃ x, ks = [x] := by
  match ks, h with
  | [x], _ => exact ⟨x, rfl⟩
theorem no_kid {ks : List RN} (h : ks.length = 0) : ks = [] := List.eq_nil_of_length_eq_zero h

mutual
theorem len_code : ∀ (n : RN) (p : Nat), rightN n = true → (codeN n p).length = lenN n
  | .mk kd ix st ks, p, h => by
    rw [rightN_eq] at h
    simp only [T_rex_Node.f_Kind, T_rex_Node.f_Index, T_rex_Node.f_Set, T_rex_Node.f_Kids, Bool.and_eq_true] at h
    have hc := fun q => lens_code ks q h.2
    have ha := fun q e => lens_alt ks q e h.2
    rcases hdr_true h.1 with ⟨rfl, g⟩ | ⟨rfl, g⟩ | ⟨rfl, g⟩ | ⟨rfl, g⟩ | ⟨rfl, g⟩ | ⟨rfl, g⟩ | ⟨rfl, g⟩ | ⟨rfl, g, _⟩ | ⟨rfl, g⟩ | ⟨rfl, g⟩ <;>
      simp [codeN, lenN, extra, hc, ha]
    all_goals first | (rw [no_kid g]; rfl) | omega
theorem lens_code : ∀ (ks : List RN) (p : Nat), rightNs ks = true → (codesN ks p).length = lensN ks
  | [], p, _ => rfl
  | x :: xs, p, h => by
    simp only [rightNs, Bool.and_eq_true] at h
    simp [codesN, lensN, len_code x p h.1, lens_code xs _ h.2]
theorem lens_alt : ∀ (ks : List RN) (p e : Nat), rightNs ks = true → (altN ks p e).length = lensN ks + 2 * (ks.length - 1)
  | [], p, e, _ => rfl
  | [x], p, e, h => by
    simp only [rightNs, Bool.and_eq_true] at h
    simp [altN, lensN, len_code x p h.1]
  | x :: y :: xs, p, e, h => by
    have h' := h
    rw [rightNs] at h'
    simp only [Bool.and_eq_true] at h'
    have := lens_alt (y :: xs) (p + lenN x + 2) e h'.2
    rw [altN]
    simp only [List.isEmpty_cons, Bool.false_eq_true, if_false, List.length_cons, List.length_append, len_code x _ h'.1, this, lensN]
    omega
end

mutual
theorem len_bound : ∀ (n : RN), rightN n = true → lenN n + 2 ≤ 4 * nsz n
  | .mk kd ix st ks, h => by
    rw [rightN_eq] at h
    simp only [T_rex_Node.f_Kind, T_rex_Node.f_Index, T_rex_Node.f_Set, T_rex_Node.f_Kids, Bool.and_eq_true] at h
    have hb := lens_bound ks h.2
    rcases hdr_true h.1 with ⟨rfl, g⟩ | ⟨rfl, g⟩ | ⟨rfl, g⟩ | ⟨rfl, g⟩ | ⟨rfl, g⟩ | ⟨rfl, g⟩ | ⟨rfl, g⟩ | ⟨rfl, g, _⟩ | ⟨rfl, g⟩ | ⟨rfl, g⟩ <;>
      simp [lenN, extra, nsz] <;> omega
theorem lens_bound : ∀ (ks : List RN), rightNs ks = true → lensN ks + 2 * ks.length ≤ 4 * nszs ks
  | [], _ => by simp [lensN, nszs]
  | x :: xs, h => by
    simp only [rightNs, Bool.and_eq_true] at h
    have h1 := len_bound x h.1
    have h2 := lens_bound xs h.2
    simp only [lensN, nszs, List.length_cons]; omega
end

theorem node_succ (k : Nat) (a : List PI) (n : RN) : prog_writer_node_m0.f (k + 1) a n = prog_writer_node_m0.b k (prog_writer_node_m0.f k) (prog_writer_alt_m0.f k) (prog_writer_maybe_m0.f k) a n := rfl
theorem alt_succ (k : Nat) (a : List PI) (n : List RN) : prog_writer_alt_m0.f (k + 1) a n = prog_writer_alt_m0.b k (prog_writer_node_m0.f k) a n := rfl
theorem maybe_succ (k : Nat) (a : List PI) (n : RN) (b : Bool) : prog_writer_maybe_m0.f (k + 1) a n b = prog_writer_maybe_m0.b k (prog_writer_node_m0.f k) a n b := rfl

theorem put_f (k : Nat) (a : List PI) (i : PI) (h : a.length ≤ 100000) : prog_writer_put_m0.f k a i = some ((a.length : Int), a ++ [i]) := by
  unfold prog_writer_put_m0.f
  have e : (T_prog_Instr.mk i.f_Op i.f_X i.f_Y i.f_Set) = i := by cases i; rfl
  rw [e, if_pos (by simp [LIM]; omega)]
  have : IntKind.i64.wrap (((a ++ [i]).length : Int) - 1) = a.length := by rw [w64 (by simp <;> omega) (by simp <;> omega)]; simp
  rw [this]

theorem upd_mid {α : Type} (a : List α) (x y : α) (z : List α) : upd (a ++ x :: z) a.length y = a ++ y :: z := by simp [upd]
theorem get_mid {α : Type} (a : List α) (x : α) (z : List α) : (a ++ x :: z)[a.length]? = some x := by simp

def NodeOk (k : Nat) (x : RN) : Prop := ∀ a : List PI, a.length + 4 * nsz x ≤ 10000 → prog_writer_node_m0.f k a x = some (a ++ codeN x a.length)

theorem cat_loop (k : Nat) (n : RN) (hn : n.f_Kids.length ≤ 20000) : ∀ (l : List RN) (fuel i : Nat) (a : List PI), n.f_Kids.drop i = l → l.length < fuel → rightNs l = true → (∀ x ∈ l, NodeOk k x) → a.length + 4 * nszs l ≤ 10000 →
    prog_writer_node_m0.l6 k (prog_writer_node_m0.f k) n fuel a (i : Int) = some (a ++ codesN l a.length)
  | _, 0, _, _, _, h, _, _, _ => by omega
  | [], f + 1, i, a, hl, _, _, _, _ => by
    have := at_nil hl
    unfold prog_writer_node_m0.l6
    rw [if_neg (by simp; omega)]
    simp [codesN]
  | x :: r, f + 1, i, a, hl, hf, hr, hx, hb => by
    obtain ⟨g1, g2, g3⟩ := at_drop hl
    simp only [rightNs, Bool.and_eq_true] at hr
    simp only [nszs] at hb
    have hlb := len_bound x hr.1
    have hlc := len_code x a.length hr.1
    unfold prog_writer_node_m0.l6
    rw [if_pos (by simp; exact g3), g1]
    simp only [Option.bind_some, rn_eta]
    rw [hx x List.mem_cons_self a (by omega)]
    simp only [Option.bind_some]
    rw [wr1 (by omega), cat_loop k n hn r f (i + 1) (a ++ codeN x a.length) g2 (by simp at hf; omega) hr.2 (fun y hy => hx y (List.mem_cons_of_mem _ hy)) (by simp [hlc]; omega)]
    simp [codesN, hlc]

theorem alt_loop (k : Nat) (ks0 : List RN) (v18 : List RN) (hn : v18.length ≤ 20000) : ∀ (l : List RN) (fuel i : Nat) (a : List PI) (js : List Int), v18.drop i = l → l.length < fuel → rightNs l = true → (∀ x ∈ l, NodeOk k x) → a.length + 4 * nszs l ≤ 9992 → js.length = i →
    prog_writer_alt_m0.l22 k (prog_writer_node_m0.f k) ks0 v18 fuel a js (i : Int) = some (a ++ preN l a.length 0, js ++ jumpsN l a.length)
  | _, 0, _, _, _, _, h, _, _, _, _ => by omega
  | [], f + 1, i, a, js, hl, _, _, _, _, _ => by
    have := at_nil hl
    unfold prog_writer_alt_m0.l22
    rw [if_neg (by simp; omega)]
    simp [preN, jumpsN]
  | x :: r, f + 1, i, a, js, hl, hf, hr, hx, hb, hj => by
    obtain ⟨g1, g2, g3⟩ := at_drop hl
    simp only [rightNs, Bool.and_eq_true] at hr
    simp only [nszs] at hb
    have hlb := len_bound x hr.1
    have hpos := nsz_pos x
    unfold prog_writer_alt_m0.l22
    rw [if_pos (by simp; exact g3), g1]
    simp only [Option.bind_some, rn_eta]
    have hw : IntKind.i64.wrap ((a.length : Int) + 1) = ((a.length + 1 : Nat) : Int) := wr1 (by omega)
    rw [hw, put_f k a _ (by omega)]
    simp only [Option.bind_some]
    rw [hx x List.mem_cons_self _ (by simp; omega)]
    simp only [Option.bind_some]
    have hlc := len_code x (a.length + 1) hr.1
    have hl1 : (a ++ [T_prog_Instr.mk 1 ((a.length + 1 : Nat) : Int) 0 (List.replicate 4 0)]).length = a.length + 1 := by simp
    rw [hl1, put_f k _ _ (by simp [hlc]; omega)]
    simp only [Option.bind_some]
    rw [if_pos (by simp [LIM]; omega), if_pos (by simp; omega)]
    have hcode : (a ++ [T_prog_Instr.mk 1 ((a.length + 1 : Nat) : Int) 0 (List.replicate 4 0)] ++ codeN x (a.length + 1) ++ [T_prog_Instr.mk 2 0 0 (List.replicate 4 0)]) =
        a ++ T_prog_Instr.mk 1 ((a.length + 1 : Nat) : Int) 0 (List.replicate 4 0) :: (codeN x (a.length + 1) ++ [T_prog_Instr.mk 2 0 0 (List.replicate 4 0)]) := by simp
    have hz : (0 + (a.length : Int).toNat) = a.length := by simp
    rw [hcode, hz, get_mid]
    simp only [Option.bind_some, upd_mid]
    have hlen2 : (a ++ T_prog_Instr.mk 1 ((a.length + 1 : Nat) : Int) 0 (List.replicate 4 0) :: (codeN x (a.length + 1) ++ [T_prog_Instr.mk 2 0 0 (List.replicate 4 0)])).length = a.length + 2 + lenN x := by simp [hlc]; omega
    rw [hlen2, wr1 (by omega)]
    have ih := alt_loop k ks0 v18 hn r f (i + 1) (a ++ T_prog_Instr.mk 1 ((a.length + 1 : Nat) : Int) ((a.length + 2 + lenN x : Nat) : Int) (List.replicate 4 0) :: (codeN x (a.length + 1) ++ [T_prog_Instr.mk 2 0 0 (List.replicate 4 0)]))
      (js ++ [((a ++ [T_prog_Instr.mk 1 ((a.length + 1 : Nat) : Int) 0 (List.replicate 4 0)] ++ codeN x (a.length + 1)).length : Int)]) g2 (by simp at hf; omega) hr.2 (fun y hy => hx y (List.mem_cons_of_mem _ hy)) (by simp [hlc]; omega) (by simp [hj])
    rw [ih]
    have hl3 : (a ++ T_prog_Instr.mk 1 ((a.length + 1 : Nat) : Int) ((a.length + 2 + lenN x : Nat) : Int) (List.replicate 4 0) :: (codeN x (a.length + 1) ++ [T_prog_Instr.mk 2 0 0 (List.replicate 4 0)])).length = a.length + lenN x + 2 := by simp [hlc]; omega
    rw [hl3]
    have hl4 : ((a ++ [T_prog_Instr.mk 1 ((a.length + 1 : Nat) : Int) 0 (List.replicate 4 0)] ++ codeN x (a.length + 1)).length : Int) = ((a.length + 1 + lenN x : Nat) : Int) := by simp [hlc]; omega
    rw [hl4]
    simp [preN, jumpsN, ins]

theorem patch (k : Nat) (v2 : List Int) (hn : v2.length ≤ 20000) : ∀ (ps : List RN) (A Z : List PI) (fuel i e : Nat), rightNs ps = true → v2.drop i = jumpsN ps A.length → ps.length < fuel → (A ++ preN ps A.length 0 ++ Z).length = e → e ≤ 100000 →
    prog_writer_alt_m0.l7 k v2 fuel (A ++ preN ps A.length 0 ++ Z) (i : Int) = some (A ++ preN ps A.length e ++ Z)
  | _, _, _, 0, _, _, _, _, h, _, _ => by omega
  | [], A, Z, f + 1, i, e, _, hl, _, _, _ => by
    have := at_nil hl
    unfold prog_writer_alt_m0.l7
    rw [if_neg (by simp; omega)]
    simp [preN]
  | x :: r, A, Z, f + 1, i, e, hr, hl, hf, he, hb => by
    obtain ⟨g1, g2, g3⟩ := at_drop hl
    simp only [rightNs, Bool.and_eq_true] at hr
    have hlc := len_code x (A.length + 1) hr.1
    have hform : ∀ q : Int, A ++ preN (x :: r) A.length q ++ Z = (A ++ ins 1 (A.length + 1) (A.length + 2 + lenN x) :: codeN x (A.length + 1)) ++ ins 2 q 0 :: (preN r (A.length + lenN x + 2) q ++ Z) := fun q => by simp [preN]
    have hpl : (A ++ ins 1 (A.length + 1) (A.length + 2 + lenN x) :: codeN x (A.length + 1)).length = A.length + 1 + lenN x := by simp [hlc]; omega
    rw [hform] at he
    rw [hform, hform]
    generalize hP : (A ++ ins 1 (A.length + 1) (A.length + 2 + lenN x) :: codeN x (A.length + 1)) = Q at *
    have hj : v2[(0 + (i : Int).toNat)]? = some ((A.length + 1 + lenN x : Nat) : Int) := by
      have := (List.getElem?_drop (xs := v2) (i := i) (j := 0)).symm
      rw [hl] at this
      simpa [jumpsN] using this
    unfold prog_writer_alt_m0.l7
    rw [if_pos (by simp; exact g3), if_pos (by simp; exact g3), hj]
    simp only [Option.bind_some]
    have hjl : A.length + 1 + lenN x < (Q ++ ins 2 0 0 :: (preN r (A.length + lenN x + 2) 0 ++ Z)).length := by simp [hpl]
    rw [if_pos ⟨by omega, by exact_mod_cast hjl⟩]
    have hz : (0 + (((A.length + 1 + lenN x : Nat) : Int)).toNat) = Q.length := by rw [Int.toNat_natCast, hpl, Nat.zero_add]
    rw [hz, get_mid]
    simp only [Option.bind_some, upd_mid]
    rw [he, wr1 (by omega)]
    have ih := patch k v2 hn r (Q ++ [ins 2 e 0]) Z f (i + 1) e hr.2 (by rw [g2]; simp [jumpsN, hpl]; congr 1; omega) (by simp at hf; omega) (by rw [← he]; simp [hpl]; congr 2; omega) hb
    have hq : (Q ++ [ins 2 (e : Int) 0]).length = A.length + lenN x + 2 := by simp [hpl]; omega
    rw [hq] at ih
    simp only [List.append_assoc, List.cons_append, List.nil_append] at ih ⊢
    exact ih
end Go.Proofs.YteddmdkbeednmaaDoor
