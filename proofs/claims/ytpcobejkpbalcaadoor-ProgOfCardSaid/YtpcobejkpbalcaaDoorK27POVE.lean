/- A part of the proof of a given law: POVE. Own work, printed in part by a program of mine. -/
import Derived.Test.YtpcobejkpbalcaaDoorK27POVD
namespace Go.Proofs.YtpcobejkpbalcaaDoor
open Go Go.AM
set_option linter.unusedVariables false
set_option linter.unusedSimpArgs false
set_option maxRecDepth 100000

abbrev RI := T_millwrightref08_Instr
def toR (i : PI) : RI := ⟨i.f_Op, i.f_X, i.f_Y, i.f_Set⟩

theorem rlen_succ (k : Nat) (n : DN) : millwrightref08_Length.f (k + 1) n = millwrightref08_Length.b k (millwrightref08_Length.f k) n := rfl
theorem rcode_succ (k : Nat) (n : DN) (p : Int) : millwrightref08_Code.f (k + 1) n p = millwrightref08_Code.b k (millwrightref08_Code.f k) n p := rfl

theorem rlen_loop (k : Nat) (n : DN) : ∀ (l : List RN) (fuel i s : Nat), n.f_Kids.drop i = ofNs l → l.length < fuel → n.f_Kids.length ≤ 6000 → rightNs l = true → (∀ x ∈ l, millwrightref08_Length.f k (ofN x) = some (lenN x : Int)) → s + 4 * nszs l ≤ 10000 →
    millwrightref08_Length.l18 k (millwrightref08_Length.f k) n fuel (s : Int) (i : Int) = some ((s + lensN l : Nat) : Int)
  | _, 0, _, _, _, h, _, _, _, _ => by omega
  | [], f + 1, i, s, hl, _, _, _, _, _ => by
    have := at_nil hl
    unfold millwrightref08_Length.l18
    rw [if_neg (by simp; omega)]
    simp [lensN]
  | x :: r, f + 1, i, s, hl, hf, h4, hr, hx, hb => by
    obtain ⟨g1, g2, g3⟩ := at_drop hl
    simp only [rightNs, Bool.and_eq_true] at hr
    simp only [nszs] at hb
    have hbx := len_bound x hr.1
    unfold millwrightref08_Length.l18
    rw [if_pos (by simp; exact g3), g1]
    simp only [Option.bind_some, dn_eta, hx x List.mem_cons_self]
    have hw : IntKind.i64.wrap ((s : Int) + (lenN x : Int)) = ((s + lenN x : Nat) : Int) := by rw [w64 (by omega) (by omega)]; simp
    rw [hw, wr1 (by omega), rlen_loop k n r f (i + 1) (s + lenN x) g2 (by simp at hf; omega) h4 hr.2 (fun y hy => hx y (List.mem_cons_of_mem _ hy)) (by omega)]
    simp only [lensN, Nat.add_assoc]

theorem ofNs_len (l : List RN) : (ofNs l).length = l.length := by rw [ofNs_map]; simp

theorem right_mem {ks : List RN} (h : rightNs ks = true) : ∀ x ∈ ks, rightN x = true := fun x hx => by
  induction ks with
  | nil => cases hx
  | cons y ys ih =>
    simp only [rightNs, Bool.and_eq_true] at h
    rcases List.mem_cons.1 hx with rfl | hx
    · exact h.1
    · exact ih h.2 hx

theorem rlen_f : ∀ (k : Nat) (n : RN), rightN n = true → nsz n ≤ 120 → nsz n + 1 ≤ k → k ≤ 6000 → millwrightref08_Length.f k (ofN n) = some (lenN n : Int)
  | 0, n, _, _, h, _ => by omega
  | k + 1, .mk kd ix st ks, hr, h1, h2, h3 => by
    rw [rightN_eq] at hr
    simp only [T_rex_Node.f_Kind, T_rex_Node.f_Index, T_rex_Node.f_Set, T_rex_Node.f_Kids, Bool.and_eq_true] at hr
    simp only [nsz] at h1 h2
    have hkl := nszs_len ks
    have hlb := lens_bound ks hr.2
    have hloop := rlen_loop k (ofN (.mk kd ix st ks)) ks k 0 0 rfl (by omega) (by simp only [ofN, T_millwrightref07_Node.f_Kids, ofNs_len]; omega) hr.2 (fun x hx => by
      have := nsz_mem _ x hx
      exact rlen_f k x (right_mem hr.2 x hx) (by omega) (by omega) (by omega)) (by omega)
    have e0 : millwrightref08_Length.l18 k (millwrightref08_Length.f k) (ofN (.mk kd ix st ks)) k 0 0 = some ((lensN ks : Nat) : Int) := by
      have := hloop
      simpa using this
    rw [rlen_succ]
    unfold millwrightref08_Length.b
    rw [e0]
    simp only [Option.bind_some]
    unfold millwrightref08_Length.j15 millwrightref08_Length.j10 millwrightref08_Length.j8 millwrightref08_Length.j2
    simp only [ofN, T_millwrightref07_Node.f_Kind, T_millwrightref07_Node.f_Kids, ofNs_len, lenN]
    have hw1 : IntKind.i64.wrap ((lensN ks : Int) + 1) = ((lensN ks + 1 : Nat) : Int) := wr1 (by omega)
    have hw2 : IntKind.i64.wrap ((lensN ks : Int) + 2) = ((lensN ks + 2 : Nat) : Int) := by rw [w64 (by omega) (by omega)]; rfl
    rcases hdr_true hr.1 with ⟨rfl, g⟩ | ⟨rfl, g⟩ | ⟨rfl, g⟩ | ⟨rfl, g⟩ | ⟨rfl, g⟩ | ⟨rfl, g⟩ | ⟨rfl, g⟩ | ⟨rfl, g, gi⟩ | ⟨rfl, g⟩ | ⟨rfl, g⟩ <;>
      simp only [Int.reduceBEq, Bool.false_eq_true, if_false, if_true, hw1, hw2, extra]
    all_goals try (simp; done)
    have hw3 : IntKind.i64.wrap ((ks.length : Int) - 1) = ((ks.length - 1 : Nat) : Int) := by rw [w64 (by omega) (by omega)]; omega
    have hw4 : IntKind.i64.wrap (2 * ((ks.length - 1 : Nat) : Int)) = ((2 * (ks.length - 1) : Nat) : Int) := by rw [w64 (by omega) (by omega)]; omega
    have hw5 : IntKind.i64.wrap ((lensN ks : Int) + ((2 * (ks.length - 1) : Nat) : Int)) = ((lensN ks + 2 * (ks.length - 1) : Nat) : Int) := by rw [w64 (by omega) (by omega)]; omega
    rw [hw3, hw4, hw5]
    simp

def CodeOk (k : Nat) (x : RN) : Prop := ∀ p : Nat, p + 4 * nsz x ≤ 10000 → millwrightref08_Code.f k (ofN x) (p : Int) = some ((codeN x p).map toR)

theorem rcat_loop (k : Nat) (n : DN) (p : Nat) : ∀ (l : List RN) (fuel i : Nat) (acc : List RI), n.f_Kids.drop i = ofNs l → l.length < fuel → n.f_Kids.length ≤ 6000 → rightNs l = true → (∀ x ∈ l, CodeOk k x) → p + acc.length + 4 * nszs l ≤ 10000 →
    millwrightref08_Code.l8 k (millwrightref08_Code.f k) n (p : Int) fuel acc (i : Int) = some (acc ++ (codesN l (p + acc.length)).map toR)
  | _, 0, _, _, _, h, _, _, _, _ => by omega
  | [], f + 1, i, acc, hl, _, _, _, _, _ => by
    have := at_nil hl
    unfold millwrightref08_Code.l8
    rw [if_neg (by simp; omega)]
    simp [codesN]
  | x :: r, f + 1, i, acc, hl, hf, h4, hr, hx, hb => by
    obtain ⟨g1, g2, g3⟩ := at_drop hl
    simp only [rightNs, Bool.and_eq_true] at hr
    simp only [nszs] at hb
    have hbx := len_bound x hr.1
    have hlx := len_code x (p + acc.length) hr.1
    unfold millwrightref08_Code.l8
    rw [if_pos (by simp; exact g3), g1]
    simp only [Option.bind_some, dn_eta]
    have hw : IntKind.i64.wrap ((p : Int) + (acc.length : Int)) = ((p + acc.length : Nat) : Int) := by rw [w64 (by omega) (by omega)]; simp
    rw [hw, hx x List.mem_cons_self _ (by omega)]
    simp only [Option.bind_some]
    rw [if_pos (by simp [hlx, LIM]; omega), wr1 (by omega), rcat_loop k n p r f (i + 1) _ g2 (by simp at hf; omega) h4 hr.2 (fun y hy => hx y (List.mem_cons_of_mem _ hy)) (by simp [hlx]; omega)]
    simp [codesN, hlx, Nat.add_assoc]

theorem ralt_loop (k : Nat) (n : DN) (p e : Nat) (len : Nat) (he : p + len = e) (heb : e ≤ 20000) : ∀ (l : List RN) (fuel i : Nat) (acc : List RI), n.f_Kids.drop i = ofNs l → l.length < fuel → n.f_Kids.length ≤ 6000 → rightNs l = true → (∀ x ∈ l, CodeOk k x) →
    (∀ x ∈ l, millwrightref08_Length.f k (ofN x) = some (lenN x : Int)) → p + acc.length + 4 * nszs l ≤ 9996 →
    millwrightref08_Code.l22 k (millwrightref08_Code.f k) n (p : Int) (len : Int) fuel acc (i : Int) = some (acc ++ (altN l (p + acc.length) e).map toR)
  | _, 0, _, _, _, h, _, _, _, _, _ => by omega
  | [], f + 1, i, acc, hl, _, _, _, _, _, _ => by
    have := at_nil hl
    unfold millwrightref08_Code.l22
    rw [if_neg (by simp; omega)]
    simp [altN]
  | x :: r, f + 1, i, acc, hl, hf, h4, hr, hx, hln, hb => by
    obtain ⟨g1, g2, g3⟩ := at_drop hl
    simp only [rightNs, Bool.and_eq_true] at hr
    simp only [nszs] at hb
    have hbx := len_bound x hr.1
    have hpos := nsz_pos x
    have hkl : n.f_Kids.length = i + 1 + r.length := by
      have := congrArg List.length hl
      simp [ofNs_len] at this; omega
    have hw : IntKind.i64.wrap ((p : Int) + (acc.length : Int)) = ((p + acc.length : Nat) : Int) := by rw [w64 (by omega) (by omega)]; simp
    have hwl : IntKind.i64.wrap ((n.f_Kids.length : Int) - 1) = ((i + r.length : Nat) : Int) := by rw [w64 (by omega) (by omega)]; omega
    unfold millwrightref08_Code.l22
    rw [if_pos (by simp; exact g3), g1]
    simp only [Option.bind_some, dn_eta]
    rw [hwl, hw]
    cases r with
    | nil =>
      have hlx := len_code x (p + acc.length) hr.1
      rw [if_pos (by simp), hx x List.mem_cons_self _ (by omega)]
      simp only [Option.bind_some]
      rw [if_pos (by simp [hlx, LIM]; omega)]
      unfold millwrightref08_Code.j28
      rw [wr1 (by omega), ralt_loop k n p e len he heb [] f (i + 1) _ g2 (by simp at hf ⊢; omega) h4 rfl (fun y hy => by cases hy) (fun y hy => by cases hy) (by simp [hlx, nszs] at hb ⊢; omega)]
      simp [altN]
    | cons y r =>
      have hlx := len_code x (p + acc.length + 1) hr.1
      have hw1 : IntKind.i64.wrap (((p + acc.length : Nat) : Int) + 1) = ((p + acc.length + 1 : Nat) : Int) := wr1 (by omega)
      have hw2 : IntKind.i64.wrap (((p + acc.length : Nat) : Int) + 2) = ((p + acc.length + 2 : Nat) : Int) := by rw [w64 (by omega) (by omega)]; rfl
      have hw3 : IntKind.i64.wrap (((p + acc.length + 2 : Nat) : Int) + (lenN x : Int)) = ((p + acc.length + 2 + lenN x : Nat) : Int) := by rw [w64 (by omega) (by omega)]; simp
      have hw4 : IntKind.i64.wrap ((p : Int) + (len : Int)) = ((e : Nat) : Int) := by rw [w64 (by omega) (by omega)]; omega
      rw [if_neg (by simp; omega), hln x List.mem_cons_self]
      simp only [Option.bind_some]
      rw [hw1, hw2, hw3, hw4, if_pos (by simp [LIM]; omega), hx x List.mem_cons_self _ (by omega)]
      simp only [Option.bind_some]
      rw [if_pos (by simp [hlx, LIM]; omega), if_pos (by simp [hlx, LIM]; omega)]
      unfold millwrightref08_Code.j28
      rw [wr1 (by omega), ralt_loop k n p e len he heb (y :: r) f (i + 1) _ g2 (by simp at hf ⊢; omega) h4 hr.2 (fun z hz => hx z (List.mem_cons_of_mem _ hz)) (fun z hz => hln z (List.mem_cons_of_mem _ hz)) (by simp [hlx]; omega)]
      have hal : (acc ++ [(T_millwrightref08_Instr.mk 1 ((p + acc.length + 1 : Nat) : Int) ((p + acc.length + 2 + lenN x : Nat) : Int) (List.replicate 4 0))] ++ (codeN x (p + acc.length + 1)).map toR ++ [T_millwrightref08_Instr.mk 2 (e : Int) 0 (List.replicate 4 0)]).length = acc.length + lenN x + 2 := by simp [hlx]; omega
      rw [hal]
      conv => rhs; rw [altN]
      simp [toR, ins, Nat.add_assoc]; omega

theorem rcode_f : ∀ (k : Nat) (n : RN), rightN n = true → nsz n ≤ 120 → nsz n + 2 ≤ k → k ≤ 6000 → CodeOk k n
  | 0, n, _, _, h, _ => by omega
  | k + 1, .mk kd ix st ks, hr, h1, h2, h3 => by
    intro p hb
    have hlen := rlen_f k (.mk kd ix st ks) hr h1 (by omega) (by omega)
    have hbn := len_bound _ hr
    rw [rightN_eq] at hr
    simp only [T_rex_Node.f_Kind, T_rex_Node.f_Index, T_rex_Node.f_Set, T_rex_Node.f_Kids, Bool.and_eq_true] at hr
    obtain ⟨hh, hks⟩ := hr
    simp only [nsz] at h1 h2 hb hbn
    have hkl := nszs_len ks
    have ih : ∀ x ∈ ks, CodeOk k x := fun x hx => by
      have := nsz_mem _ x hx
      exact rcode_f k x (right_mem hks x hx) (by omega) (by omega) (by omega)
    have ihl : ∀ x ∈ ks, millwrightref08_Length.f k (ofN x) = some (lenN x : Int) := fun x hx => by
      have := nsz_mem _ x hx
      exact rlen_f k x (right_mem hks x hx) (by omega) (by omega) (by omega)
    rw [rcode_succ]
    unfold millwrightref08_Code.b
    rw [dn_eta, hlen]
    simp only [Option.bind_some]
    have hk : (ofN (.mk kd ix st ks)).f_Kids = ofNs ks := rfl
    have hwe : IntKind.i64.wrap ((p : Int) + (lenN (.mk kd ix st ks) : Int)) = ((p + lenN (.mk kd ix st ks) : Nat) : Int) := by rw [w64 (by omega) (by omega)]; simp
    have hw1 : IntKind.i64.wrap ((p : Int) + 1) = ((p + 1 : Nat) : Int) := wr1 (by omega)
    rw [hwe, hw1]
    simp only [show (ofN (.mk kd ix st ks)).f_Kind = kd from rfl, show (ofN (.mk kd ix st ks)).f_Set = st from rfl, show (ofN (.mk kd ix st ks)).f_Index = ix from rfl]
    rcases hdr_true hh with ⟨rfl, g⟩ | ⟨rfl, g⟩ | ⟨rfl, g⟩ | ⟨rfl, g⟩ | ⟨rfl, g⟩ | ⟨rfl, g⟩ | ⟨rfl, g⟩ | ⟨rfl, g, gi⟩ | ⟨rfl, g⟩ | ⟨rfl, g⟩
    all_goals simp only [Int.reduceBEq, Bool.false_eq_true, if_false, if_true]
    · simp [codeN]
    · simp [codeN, toR]
    · have := rcat_loop k (ofN (.mk 2 ix st ks)) p ks k 0 [] rfl (by omega) (by rw [hk, ofNs_len]; omega) hks ih (by simp; omega)
      have e0 : millwrightref08_Code.l8 k (millwrightref08_Code.f k) (ofN (.mk 2 ix st ks)) (p : Int) k [] 0 = _ := this
      rw [e0]
      simp [codeN, millwrightref08_Code.j5]
    · have hle : lenN (.mk 3 ix st ks) = lensN ks + 2 * (ks.length - 1) := by simp [lenN, extra]
      have := ralt_loop k (ofN (.mk 3 ix st ks)) p (p + lenN (.mk 3 ix st ks)) (lenN (.mk 3 ix st ks)) rfl (by omega) ks k 0 [] rfl (by omega) (by rw [hk, ofNs_len]; omega) hks ih ihl (by simp; omega)
      have e0 : millwrightref08_Code.l22 k (millwrightref08_Code.f k) (ofN (.mk 3 ix st ks)) (p : Int) (lenN (.mk 3 ix st ks) : Int) k [] 0 = _ := this
      rw [e0]
      simp [codeN, millwrightref08_Code.j19, hle, Nat.add_assoc]
    all_goals try (obtain ⟨x, rfl⟩ := one_kid g)
    all_goals try (simp only [nszs] at h1 h2 hb hbn; simp only [rightNs, Bool.and_true] at hks; have hbx := len_bound x hks; have hlx := fun q => len_code x q hks)
    all_goals try (rw [hk, show idx (ofNs [x]) 0 = some (ofN x) from rfl])
    all_goals try simp only [Option.bind_some]
    · rw [ih x (by simp) (p + 1) (by omega)]
      simp only [Option.bind_some]
      rw [if_pos (by simp [hlx, LIM]; omega), if_pos (by simp [hlx, LIM]; omega)]
      simp [codeN, codesN, lensN, toR, ins, lenN, extra, Int.add_assoc]
    · rw [ih x (by simp) p (by omega)]
      simp only [Option.bind_some]
      rw [if_pos (by simp [hlx, LIM]; omega)]
      simp [codeN, codesN, lensN, toR, ins, lenN, extra, Int.add_assoc]
    · rw [ih x (by simp) (p + 1) (by omega)]
      simp only [Option.bind_some]
      rw [if_pos (by simp [hlx, LIM]; omega)]
      simp [codeN, codesN, lensN, toR, ins, lenN, extra]; omega
    · have hw2 : IntKind.i64.wrap (ix * 2) = ix * 2 := w64 (by omega) (by omega)
      have hw3 : IntKind.i64.wrap (ix * 2 + 1) = ix * 2 + 1 := w64 (by omega) (by omega)
      rw [ih x (by simp) (p + 1) (by omega), hw2, hw3]
      simp only [Option.bind_some]
      rw [if_pos (by simp [hlx, LIM]; omega), if_pos (by simp [hlx, LIM]; omega)]
      simp [codeN, codesN, lensN, toR, ins, Int.mul_comm]
    · simp [codeN, toR, ins]
    · simp [codeN, toR, ins]

theorem rprogram_f (n : RN) (hr : rightN n = true) (h1 : nsz n ≤ 120) : millwrightref08_Program.f 6000 (ofN n) = some ((progN n).map toR) := by
  unfold millwrightref08_Program.f
  have hb := len_bound n hr
  have hl := len_code n 1 hr
  have := rcode_f 6000 n hr h1 (by omega) (by omega) 1 (by omega)
  have e : millwrightref08_Code.f 6000 (ofN n) 1 = _ := this
  rw [dn_eta, e]
  simp only [Option.bind_some]
  rw [if_pos (by simp [hl, LIM]; omega), if_pos (by simp [hl, LIM]; omega)]
  simp [progN, toR, ins]
end Go.Proofs.YtpcobejkpbalcaaDoor
