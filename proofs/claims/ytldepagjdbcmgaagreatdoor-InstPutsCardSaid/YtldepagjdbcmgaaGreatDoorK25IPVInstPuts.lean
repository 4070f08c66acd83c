/- InstPuts, told plainly. -/
import Derived.Test.YtldepagjdbcmgaaGreatDoorK25IPF
namespace Go.Proofs.YtldepagjdbcmgaaGreatDoor
open Go Go.AM Go.ChangeShapes Go.ChangeAt Go.RowKit
set_option linter.unusedVariables false
set_option linter.unusedSimpArgs false
set_option maxRecDepth 100000
set_option maxHeartbeats 1000000
namespace Ip
abbrev Tx := List UInt8
theorem nb (b : UInt8) (n : UInt8) : ((b.toNat : Int) != (n.toNat : Int)) = (b != n) := by simp only [bne, u8_eq]
theorem wr1 {i : Nat} (h : i < 1000000) : IntKind.i64.wrap ((i : Int) + 1) = ((i + 1 : Nat) : Int) := by rw [w64 (by omega) (by omega)]; rfl
theorem at_drop {α : Type} {l r : List α} {i : Nat} {x : α} (h : l.drop i = x :: r) : idx l (i : Int) = some x ∧ l.drop (i + 1) = r ∧ i < l.length := by
  have hi : i < l.length := by
    rcases Nat.lt_or_ge i l.length with h' | h'
    · exact h'
    · rw [List.drop_of_length_le h'] at h; cases h
  rw [List.drop_eq_getElem_cons hi] at h
  injection h with h1 h2
  exact ⟨by rw [idx_at rfl hi, h1], h2, hi⟩
theorem at_nil {α : Type} {l : List α} {i : Nat} (h : l.drop i = []) : l.length ≤ i := by
  have := congrArg List.length h
  simp at this; omega
theorem txt_nums (w : List UInt8) : txtOf (numsOf w) = w := by
  simp [txtOf, numsOf, Function.comp_def]
def fig (b : UInt8) : Option Nat := if 48 ≤ b.toNat ∧ b.toNat ≤ 57 then some (b.toNat - 48) else none
theorem fig_w {b : UInt8} (h1 : 48 ≤ b.toNat) (h2 : b.toNat ≤ 57) : IntKind.i64.wrap (IntKind.u8.wrap ((b.toNat : Int) - 48)) = ((b.toNat - 48 : Nat) : Int) := by
  have : b.toNat = 48 ∨ b.toNat = 49 ∨ b.toNat = 50 ∨ b.toNat = 51 ∨ b.toNat = 52 ∨ b.toNat = 53 ∨ b.toNat = 54 ∨ b.toNat = 55 ∨ b.toNat = 56 ∨ b.toNat = 57 := by omega
  rcases this with h | h | h | h | h | h | h | h | h | h <;> rw [h] <;> rfl
theorem figure_eq (k : Nat) (b : UInt8) : inst_figure.f k (b.toNat : Int) = some (match fig b with | some n => (n : Int) | none => -1) := by
  unfold inst_figure.f inst_figure.j4 inst_figure.j1 fig
  by_cases h1 : 48 ≤ b.toNat
  · rw [if_neg (by simp; omega)]
    by_cases h2 : b.toNat ≤ 57
    · rw [if_neg (by simp; omega), if_pos ⟨h1, h2⟩, fig_w h1 h2]
    · rw [if_pos (by simp; omega), if_neg (fun h => h2 h.2)]
  · rw [if_pos (by simp; omega), if_pos rfl, if_neg (fun h => h1 h.1)]
def putS (subs : List Tx) : Tx → Tx
  | [] => []
  | [b] => [b]
  | b :: c :: t => match (if b = 92 then fig c else none) with
    | some n => (subs[n]?).getD [] ++ putS subs t
    | none => b :: putS subs (c :: t)
theorem sub_len (subs : List Tx) (hs : ∀ x ∈ subs, x.length ≤ 60) (n : Nat) : ((subs[n]?).getD []).length ≤ 60 := by
  cases h : subs[n]? with
  | none => simp
  | some x => exact hs x (List.mem_of_getElem? h)
theorem put_len (subs : List Tx) (hs : ∀ x ∈ subs, x.length ≤ 60) : ∀ (m : Nat) (r : Tx), r.length ≤ m → (putS subs r).length ≤ 60 * r.length
  | _, [], _ => by simp [putS]
  | _, [b], _ => by simp [putS]
  | 0, b :: c :: t, h => by simp at h
  | m + 1, b :: c :: t, h => by
    simp only [List.length_cons] at h
    unfold putS
    split
    · rename_i n _
      have h1 := put_len subs hs m t (by omega)
      have h2 := sub_len subs hs n
      simp only [List.length_cons, List.length_append]; omega
    · have h1 := put_len subs hs m (c :: t) (by simp only [List.length_cons]; omega)
      simp only [List.length_cons] at h1 ⊢; omega
theorem nums_app (a b : Tx) : numsOf (a ++ b) = numsOf a ++ numsOf b := by simp [numsOf]
theorem code_loop (k : Nat) (s : Tx) (subs : List Tx) (hs : s.length ≤ 100) (hn : subs.length ≤ 20) (hb : ∀ x ∈ subs, x.length ≤ 60) : ∀ (m : Nat) (r : Tx) (fuel i : Nat) (acc : List Int), r.length ≤ m → s.drop i = r → r.length < fuel → acc.length ≤ 60 * i →
    inst_Put.l5 k s subs fuel acc (i : Int) = some (acc ++ numsOf (putS subs r))
  | _, _, 0, _, _, _, _, h, _ => by omega
  | _, [], f + 1, i, acc, _, hd, _, _ => by
    have := at_nil hd
    unfold inst_Put.l5
    rw [if_neg (by simp; omega)]; simp [putS, numsOf]
  | 0, b :: t, f + 1, i, acc, hm, _, _, _ => by simp at hm
  | m + 1, b :: t, f + 1, i, acc, hm, hd, hf, ha => by
    obtain ⟨g1, g2, g3⟩ := at_drop hd
    have hLIM : LIM = 4294967296 := rfl
    simp only [List.length_cons] at hm hf
    have q : ((b.toNat : Int) != 92) = (b != 92) := nb b 92
    have plain : putS subs (b :: t) = b :: putS subs t → inst_Put.j23 k (inst_Put.l5 k s subs f) s subs acc (i : Int) true = some (acc ++ numsOf (putS subs (b :: t))) := fun e => by
      unfold inst_Put.j23 inst_Put.j12
      rw [if_pos rfl, g1, Option.bind_some, if_pos (by simp only [List.length_cons, List.length_nil]; omega), wr1 (by omega), code_loop k s subs hs hn hb m t f (i + 1) _ (by omega) g2 (by omega) (by simp only [List.length_append, List.length_cons, List.length_nil]; omega), e]
      simp [numsOf]
    unfold inst_Put.l5
    rw [if_pos (by simp; exact g3), g1, Option.bind_some, q]
    by_cases h92 : b = 92
    · subst h92
      rw [if_neg (by decide), wr1 (by omega)]
      cases t with
      | nil =>
        have := at_nil g2
        rw [if_pos (by simp; omega)]
        exact plain rfl
      | cons c u =>
        obtain ⟨d1, d2, d3⟩ := at_drop g2
        rw [if_neg (by simp; omega), d1, Option.bind_some, figure_eq, Option.bind_some]
        cases hF : fig c with
        | none =>
          have e : putS subs (92 :: c :: u) = 92 :: putS subs (c :: u) := by
            conv => lhs; unfold putS
            rw [if_pos rfl, hF]
          exact plain e
        | some n =>
          have e : putS subs (92 :: c :: u) = (subs[n]?).getD [] ++ putS subs u := by
            conv => lhs; unfold putS
            rw [if_pos rfl, hF]
          have hl := sub_len subs hb n
          simp only
          rw [show decide ((n : Int) < 0) = false by simp]
          unfold inst_Put.j23 inst_Put.j18 inst_Put.j12
          simp only [List.length_cons] at hm hf
          rw [if_neg (by decide), wr1 (by omega), d1, Option.bind_some, figure_eq, Option.bind_some, hF, wr1 (by omega), e]
          simp only
          by_cases hlt : n < subs.length
          · rw [List.getElem?_eq_getElem hlt] at hl ⊢
            rw [if_pos (by simp; omega), idx_at rfl hlt, Option.bind_some]
            simp only [Option.getD_some] at hl ⊢
            rw [if_pos (by omega), code_loop k s subs hs hn hb m u f (i + 1 + 1) _ (by omega) d2 (by omega) (by simp only [List.length_append, ints_length]; omega), nums_app, List.append_assoc]
          · rw [List.getElem?_eq_none (by omega), if_neg (by simp; omega), code_loop k s subs hs hn hb m u f (i + 1 + 1) acc (by omega) d2 (by omega) (by omega)]
            simp
    · rw [if_pos (by simpa using h92)]
      refine plain ?_
      cases t with
      | nil => rfl
      | cons c u => conv => lhs; unfold putS
                    rw [if_neg h92]
theorem code_eq (k : Nat) (hk : 200 ≤ k) (s : Tx) (subs : List Tx) (hs : s.length ≤ 100) (hn : subs.length ≤ 20) (hb : ∀ x ∈ subs, x.length ≤ 60) : inst_Put.f k s subs = some (putS subs s) := by
  have e : inst_Put.l5 k s subs k [] 0 = _ := code_loop k s subs hs hn hb s.length s k 0 [] (Nat.le_refl _) rfl (by omega) (by simp)
  unfold inst_Put.f inst_Put.j2
  rw [e, Option.bind_some, List.nil_append, txt_nums]
theorem i0 {α : Type} (b : α) (t : List α) : idx (b :: t) 0 = some b := idx_at (i := 0) rfl (by simp)
theorem i1 {α : Type} (b c : α) (t : List α) : idx (b :: c :: t) 1 = some c := idx_at (i := 1) rfl (by simp)
theorem s01 (b : UInt8) (t : Tx) : sub (b :: t) 0 1 = some [b] := by
  rw [sub_at (v := 0) (u := 1) (a := 0) (b := 1) rfl rfl (by omega) (by simp)]; rfl
theorem s1n (b : UInt8) (t : Tx) : sub (b :: t) 1 ((b :: t).length : Int) = some t := by
  rw [sub_at (v := 1) (a := 1) (b := (b :: t).length) rfl rfl (by simp) (by simp), List.take_length]; rfl
theorem s2n (b c : UInt8) (t : Tx) : sub (b :: c :: t) 2 ((b :: c :: t).length : Int) = some t := by
  rw [sub_at (v := 2) (a := 2) (b := (b :: c :: t).length) rfl rfl (by simp) (by simp), List.take_length]; rfl
theorem doc_eq (subs : List Tx) (hn : subs.length ≤ 20) (hb : ∀ x ∈ subs, x.length ≤ 60) : ∀ (m : Nat) (r : Tx), r.length ≤ 100 → r.length < m → scc_millwrightref22_Put m r subs = some (putS subs r)
  | 0, _, _, h => by omega
  | m + 1, [], _, _ => by
    unfold scc_millwrightref22_Put millwrightref22_Put.b
    rw [if_pos (by simp)]; rfl
  | m + 1, b :: t, h1, h2 => by
    simp only [List.length_cons] at h1 h2
    have plain : putS subs (b :: t) = b :: putS subs t → millwrightref22_Put.j17 m (scc_millwrightref22_Put m) (b :: t) subs false = some (putS subs (b :: t)) := fun e => by
      have hl := put_len subs hb t.length t (Nat.le_refl _)
      unfold millwrightref22_Put.j17 millwrightref22_Put.j6
      rw [if_neg (by decide), s01, Option.bind_some, s1n, Option.bind_some, doc_eq subs hn hb m t (by omega) (by omega), Option.bind_some, if_pos (by simp only [List.length_cons, List.length_nil]; omega), e]; rfl
    unfold scc_millwrightref22_Put millwrightref22_Put.b
    rw [if_neg (by simp; omega)]
    cases t with
    | nil => rw [if_neg (by simp)]; exact plain rfl
    | cons c u =>
      have q : ((b.toNat : Int) == 92) = (b == 92) := u8_eq (b := 92)
      rw [if_pos (by simp; omega), i0, Option.bind_some, q]
      by_cases h92 : b = 92
      · subst h92
        rw [if_pos (by decide), i1, Option.bind_some, Option.bind_some]
        have e0 : putS subs (92 :: c :: u) = match fig c with | some n => (subs[n]?).getD [] ++ putS subs u | none => 92 :: putS subs (c :: u) := by
          conv => lhs; unfold putS
          rw [if_pos rfl]
        by_cases c1 : 48 ≤ c.toNat
        · rw [if_pos (by simp; omega)]
          by_cases c2 : c.toNat ≤ 57
          · have hF : fig c = some (c.toNat - 48) := if_pos ⟨c1, c2⟩
            have hl := sub_len subs hb (c.toNat - 48)
            have hp := put_len subs hb u.length u (Nat.le_refl _)
            simp only [List.length_cons] at h1 h2
            rw [hF] at e0
            simp only at e0
            rw [show decide ((c.toNat : Int) ≤ 57) = true by simp; omega]
            unfold millwrightref22_Put.j17 millwrightref22_Put.j13
            rw [if_pos rfl, i1, Option.bind_some, fig_w c1 c2, s2n, e0]
            generalize c.toNat - 48 = n at *
            have ih := doc_eq subs hn hb m u (by omega) (by omega)
            by_cases hlt : n < subs.length
            · rw [List.getElem?_eq_getElem hlt] at hl ⊢
              rw [if_pos (by simp; omega), idx_at rfl hlt, Option.bind_some, Option.bind_some, ih, Option.bind_some]
              simp only [Option.getD_some] at hl ⊢
              rw [if_pos (by omega)]
            · rw [List.getElem?_eq_none (by omega), if_neg (by simp; omega), Option.bind_some, ih, Option.bind_some]
              rw [if_pos (by simp only [List.length_nil]; omega)]; rfl
          · have hF : fig c = none := if_neg (fun h => c2 h.2)
            rw [hF] at e0
            rw [show decide ((c.toNat : Int) ≤ 57) = false by simp; omega]
            exact plain e0
        · have hF : fig c = none := if_neg (fun h => c1 h.1)
          rw [hF] at e0
          rw [if_neg (by simp; omega)]
          exact plain e0
      · rw [if_neg (by simpa using h92)]
        refine plain ?_
        conv => lhs; unfold putS
        rw [if_neg h92]
theorem long_loop (k : Nat) (l : List (List UInt8)) (hl : l.length ≤ 1000) (m : Int) : ∀ (r : List (List UInt8)) (fuel i : Nat), l.drop i = r → r.length < fuel →
    millwrightnum_Long.l4 k l m fuel (i : Int) = some (if r.all (fun x => decide ((x.length : Int) ≤ m)) then .inl () else .inr true)
  | _, 0, _, _, h => by omega
  | [], f + 1, i, hr, _ => by
    have := at_nil hr
    unfold millwrightnum_Long.l4
    rw [if_neg (by simp; omega)]
    simp
  | x :: r, f + 1, i, hr, hf => by
    obtain ⟨g1, g2, g3⟩ := at_drop hr
    unfold millwrightnum_Long.l4
    rw [if_pos (by simp; omega), g1, Option.bind_some]
    by_cases hx : (x.length : Int) > m
    · rw [if_pos (by simpa using hx)]
      have : ¬ ((x.length : Int) ≤ m) := by omega
      simp [this]
    · rw [if_neg (by simpa using hx), wr1 (by omega), long_loop k l hl m r f (i + 1) g2 (by simp at hf; omega)]
      have : (x.length : Int) ≤ m := by omega
      simp [this]
theorem long_f (k : Nat) (hk : 1000 < k) (l : List (List UInt8)) : ∃ b, millwrightnum_Long.f k l 20 60 = some b ∧ (b = false → l.length ≤ 20 ∧ ∀ x ∈ l, x.length ≤ 60) := by
  unfold millwrightnum_Long.f
  by_cases h : (l.length : Int) > 20
  · exact ⟨true, by rw [if_pos (by simpa using h)], fun e => by cases e⟩
  · have e := long_loop k l (by omega) 60 l k 0 rfl (by omega)
    have e' : millwrightnum_Long.l4 k l 60 k 0 = _ := e
    rw [if_neg (by simpa using h), e']
    cases ha : l.all (fun x => decide ((x.length : Int) ≤ 60))
    · exact ⟨true, rfl, fun e => by cases e⟩
    · refine ⟨false, rfl, fun _ => ⟨by omega, fun x hx => ?_⟩⟩
      have := List.all_eq_true.1 ha x hx
      simp at this; omega
theorem same_loop (k : Nat) (l : List (List UInt8)) (hl : l.length ≤ 1000) : ∀ (r : List (List UInt8)) (i n : Nat), l.drop i = r → r.length < n → millwrightnum_SameTexts.l4 k l l n (i : Int) = some (.inl ())
  | _, _, 0, _, h => by omega
  | [], i, n + 1, hd, _ => by
    have := at_nil hd
    unfold millwrightnum_SameTexts.l4; rw [if_neg (by simp; omega)]
  | x :: r, i, n + 1, hd, hn => by
    obtain ⟨g1, g2, g3⟩ := at_drop hd
    unfold millwrightnum_SameTexts.l4
    rw [if_pos (by simp; omega), g1, Option.bind_some, Option.bind_some, wr1 (by omega), same_loop k l hl r (i + 1) n g2 (by simpa using hn)]
    simp
theorem same_eq (k : Nat) (l : List (List UInt8)) (hl : l.length ≤ 1000) (hk : l.length < k) : millwrightnum_SameTexts.f k l l = some true := by
  have e : millwrightnum_SameTexts.l4 k l l k 0 = _ := same_loop k l hl l 0 k rfl hk
  unfold millwrightnum_SameTexts.f millwrightnum_SameTexts.j2
  rw [if_neg (by simp), e]; rfl
def marks : List (List UInt8) := [[1], [2], [3]]
theorem texts_f (k : Nat) (l : List (List UInt8)) (h : l.length ≤ 1000) : millwrightnum_Texts.f k l = some (l ++ marks, l.length) := by
  have hw : IntKind.i64.wrap ((l.length : Int) + 3) = ((l.length + 3 : Nat) : Int) := by rw [w64 (by omega) (by omega)]; rfl
  unfold millwrightnum_Texts.f
  rw [hw]
  simp only [Int.toNat_natCast, Int.toNat_zero, List.take_zero, List.nil_append, Nat.zero_add, List.length_replicate]
  have h1 : (List.replicate (l.length + 3) ([] : List UInt8)).drop l.length = [[], [], []] := by
    rw [List.drop_replicate, show l.length + 3 - l.length = 3 by omega]; rfl
  rw [h1, if_pos ⟨by omega, by omega, by unfold LIM; omega⟩, if_pos ⟨by omega, by omega⟩, if_pos (by simp), if_pos ⟨by omega, by omega, by simp⟩]
  congr 2
  rw [List.take_left' rfl, List.drop_of_length_le (by simp)]
  simp [marks]
theorem kept_f (k : Nat) (hk : 1000 < k) (l : List (List UInt8)) (h : l.length ≤ 40) : millwrightnum_KeptTexts_m0.f k (l ++ marks) l.length l = some true := by
  have hw : ∀ j : Int, 0 ≤ j → j ≤ 3 → IntKind.i64.wrap ((l.length : Int) + j) = (l.length : Int) + j := fun j h0 h3 => w64 (by omega) (by omega)
  have hlen : (l ++ marks).length = l.length + 3 := by simp [marks]
  have hg : ∀ (j : Nat) (hj : j < 3), (l ++ marks)[l.length + j]? = marks[j]? := fun j hj => by
    rw [List.getElem?_append_right (by omega)]; congr 1; omega
  unfold millwrightnum_KeptTexts_m0.f
  simp only [Nat.sub_zero, Int.toNat_natCast, Nat.zero_add, List.drop_zero]
  rw [hlen, hw 3 (by omega) (by omega), if_pos ⟨by omega, by omega, by omega⟩, if_neg (by simp), if_pos ⟨by omega, by omega, by omega⟩, if_pos (by omega), List.take_left' rfl, same_eq k l (by omega) (by omega)]
  simp only [Option.bind_some]
  unfold millwrightnum_KeptTexts_m0.j13 millwrightnum_KeptTexts_m0.j10
  simp only [Bool.not_true, Bool.false_eq_true, if_false, Nat.sub_zero, Int.toNat_natCast, Nat.zero_add]
  have g0 := hg 0 (by omega)
  have g1 := hg 1 (by omega)
  have g2 := hg 2 (by omega)
  have t1 : ((l.length : Int) + 1).toNat = l.length + 1 := by omega
  have t2 : ((l.length : Int) + 2).toNat = l.length + 2 := by omega
  rw [hlen, if_pos ⟨by omega, by omega⟩, show (l ++ marks)[l.length]? = some [1] from g0]
  simp only [Option.bind_some, beq_self_eq_true, if_true]
  rw [hw 1 (by omega) (by omega), t1, if_pos ⟨by omega, by omega⟩, g1]
  simp only [marks, List.getElem?_cons_succ, List.getElem?_cons_zero, Option.bind_some, beq_self_eq_true, if_true]
  rw [hw 2 (by omega) (by omega), t2, if_pos ⟨by omega, by omega⟩, show (l ++ [[1], [2], [3]])[l.length + 2]? = some [3] from g2]
  rfl
theorem alive_eq : millwrightlaw22_alive.f 2000 = some true := by decide +kernel
end Ip
theorem instPuts_true (a0 : List UInt8) (a1 : List (List UInt8)) (_ : Wf Un .str a0) (_ : Wf Un (.list .str) a1) : ∃ k, millwrightlaw22_InstPuts.f k a0 a1 = some true := by
  refine ⟨2000, ?_⟩
  unfold millwrightlaw22_InstPuts.f millwrightlaw22_InstPuts.j12
  rw [Ip.alive_eq, Option.bind_some, if_neg (by decide)]
  by_cases h : (a0.length : Int) > 100
  · rw [if_pos (by simpa using h), if_pos rfl]
  · rw [if_neg (by simpa using h)]
    obtain ⟨b, e1, e2⟩ := Ip.long_f 2000 (by omega) a1
    rw [e1, Option.bind_some]
    cases b with
    | true => rw [if_pos rfl]
    | false =>
      obtain ⟨q1, q2⟩ := e2 rfl
      rw [if_neg (by decide)]
      unfold millwrightlaw22_InstPuts.j9
      have hd : millwrightref22_Put.f 2000 a0 a1 = some (Ip.putS a1 a0) := Ip.doc_eq a1 q1 q2 2000 a0 (by omega) (by omega)
      have hm : (a1 ++ Ip.marks).length = a1.length + 3 := by simp [Ip.marks]
      rw [Ip.texts_f 2000 a1 (by omega), Option.bind_some]
      simp only [List.drop_zero, Nat.zero_add]
      rw [if_pos (by omega), List.take_left' rfl, Ip.code_eq 2000 (by omega) a0 a1 (by omega) q1 q2, Option.bind_some, hd, Option.bind_some, if_pos (by simp), Ip.kept_f 2000 (by omega) a1 (by omega)]; rfl
end Go.Proofs.YtldepagjdbcmgaaGreatDoor
