/- InstPuts, told plainly. -/
import Derived.Test.YtpcobejkpbalcaaGreatDoorK28IOF
namespace Go.Proofs.YtpcobejkpbalcaaGreatDoor
open Go Go.AM Go.ChangeShapes Go.ChangeAt Go.RowKit
set_option linter.unusedVariables false
set_option linter.unusedSimpArgs false
set_option maxRecDepth 100000
set_option maxHeartbeats 1000000
namespace Ip
abbrev Tx := List UInt8
theorem nb (b : UInt8) (n : UInt8) : ((b.toNat : Int) != (n.toNat : Int)) = (b != n) := by simp only [bne, u8_eq]
theorem wr1 {i : Nat} (h : i < 1000000) : IntKind.i64.wrap ((i : Int) + 1) = ((i + 1 : Nat) : Int) := by rw [w64 (by omega) (by omega)]; rfl
theorem at_drop {α : Type} {l r : List α} {i : Nat} {x : α} (h : l.drop i = x :: r) : idx l (i : Int) = some x ∧ l.drop (i + 1) = r ∧ i < l.length := by
  have hi : i < l.length := by
    rcases Nat.lt_or_ge i l.length with h' | h'
    · exact h'
    · rw [List.drop_of_length_le h'] at h; cases h
  rw [List.drop_eq_getElem_cons hi] at h
  injection h with h1 h2
  exact ⟨by rw [idx_at rfl hi, h1], h2, hi⟩
theorem at_nil {α : Type} {l : List α} {i : Nat} (h : l.drop i = []) : l.length ≤ i := by
  have := congrArg List.length h
  simp at this; omega
theorem txt_nums (w : List UInt8) : txtOf (numsOf w) = w := by
  simp [txtOf, numsOf, Function.comp_def]
def fig (b : UInt8) : Option Nat := if 48 ≤ b.toNat ∧ b.toNat ≤ 57 then some (b.toNat - 48) else none
theorem fig_w {b : UInt8} (h1 : 48 ≤ b.toNat) (h2 : b.toNat ≤ 57) : IntKind.i64.wrap (IntKind.u8.wrap ((b.toNat : Int) - 48)) = ((b.toNat - 48 : Nat) : Int) := by
  have : b.toNat = 48 ∨ b.toNat = 49 ∨ b.toNat = 50 ∨ b.toNat = 51 ∨ b.toNat = 52 ∨ b.toNat = 53 ∨ b.toNat = 54 ∨ b.toNat = 55 ∨ b.toNat = 56 ∨ b.toNat = 57 := by omega
  rcases this with h | h | h | h | h | h | h | h | h | h <;> rw [h] <;> rfl
theorem figure_eq (k : Nat) (b : UInt8) : inst_figure.f k (b.toNat : Int) = some (match fig b with | some n => (n : Int) | none => -1) := by
  unfold inst_figure.f inst_figure.j4 inst_figure.j1 fig
  by_cases h1 : 48 ≤ b.toNat
  · rw [if_neg (by simp; omega)]
    by_cases h2 : b.toNat ≤ 57
    · rw [if_neg (by simp; omega), if_pos ⟨h1, h2⟩, fig_w h1 h2]
    · rw [if_pos (by simp; omega), if_neg (fun h => h2 h.2)]
  · rw [if_pos (by simp; omega), if_pos rfl, if_neg (fun h => h1 h.1)]
def putS (subs : List Tx) : Tx → Tx
  | [] => []
  | [b] => [b]
  | b :: c :: t => match (if b = 92 then fig c else none) with
    | some n => (subs[n]?).getD [] ++ putS subs t
    | none => b :: putS subs (c :: t)
theorem sub_len (subs : List Tx) (hs : ∀ x ∈ subs, x.length ≤ 60) (n : Nat) : ((subs[n]?).getD []).length ≤ 60 := by
  cases h : subs[n]? with
  | none => simp
  | some x => exact hs x (List.mem_of_getElem? h)
theorem nums_app (a b : Tx) : numsOf (a ++ b) = numsOf a ++ numsOf b := by simp [numsOf]
theorem code_loop (k : Nat) (s : Tx) (subs : List Tx) (hs : s.length ≤ 300) (hn : subs.length ≤ 20) (hb : ∀ x ∈ subs, x.length ≤ 60) : ∀ (m : Nat) (r : Tx) (fuel i : Nat) (acc : List Int), r.length ≤ m → s.drop i = r → r.length < fuel → acc.length ≤ 60 * i →
    inst_Put.l5 k s subs fuel acc (i : Int) = some (acc ++ numsOf (putS subs r))
  | _, _, 0, _, _, _, _, h, _ => by omega
  | _, [], f + 1, i, acc, _, hd, _, _ => by
    have := at_nil hd
    unfold inst_Put.l5
    rw [if_neg (by simp; omega)]; simp [putS, numsOf]
  | 0, b :: t, f + 1, i, acc, hm, _, _, _ => by simp at hm
  | m + 1, b :: t, f + 1, i, acc, hm, hd, hf, ha => by
    obtain ⟨g1, g2, g3⟩ := at_drop hd
    have hLIM : LIM = 4294967296 := rfl
    simp only [List.length_cons] at hm hf
    have q : ((b.toNat : Int) != 92) = (b != 92) := nb b 92
    have plain : putS subs (b :: t) = b :: putS subs t → inst_Put.j23 k (inst_Put.l5 k s subs f) s subs acc (i : Int) true = some (acc ++ numsOf (putS subs (b :: t))) := fun e => by
      unfold inst_Put.j23 inst_Put.j12
      rw [if_pos rfl, g1, Option.bind_some, if_pos (by simp only [List.length_cons, List.length_nil]; omega), wr1 (by omega), code_loop k s subs hs hn hb m t f (i + 1) _ (by omega) g2 (by omega) (by simp only [List.length_append, List.length_cons, List.length_nil]; omega), e]
      simp [numsOf]
    unfold inst_Put.l5
    rw [if_pos (by simp; exact g3), g1, Option.bind_some, q]
    by_cases h92 : b = 92
    · subst h92
      rw [if_neg (by decide), wr1 (by omega)]
      cases t with
      | nil =>
        have := at_nil g2
        rw [if_pos (by simp; omega)]
        exact plain rfl
      | cons c u =>
        obtain ⟨d1, d2, d3⟩ := at_drop g2
        rw [if_neg (by simp; omega), d1, Option.bind_some, figure_eq, Option.bind_some]
        cases hF : fig c with
        | none =>
          have e : putS subs (92 :: c :: u) = 92 :: putS subs (c :: u) := by
            conv => lhs; unfold putS
            rw [if_pos rfl, hF]
          exact plain e
        | some n =>
          have e : putS subs (92 :: c :: u) = (subs[n]?).getD [] ++ putS subs u := by
            conv => lhs; unfold putS
            rw [if_pos rfl, hF]
          have hl := sub_len subs hb n
          simp only
          rw [show decide ((n : Int) < 0) = false by simp]
          unfold inst_Put.j23 inst_Put.j18 inst_Put.j12
          simp only [List.length_cons] at hm hf
          rw [if_neg (by decide), wr1 (by omega), d1, Option.bind_some, figure_eq, Option.bind_some, hF, wr1 (by omega), e]
          simp only
          by_cases hlt : n < subs.length
          · rw [List.getElem?_eq_getElem hlt] at hl ⊢
            rw [if_pos (by simp; omega), idx_at rfl hlt, Option.bind_some]
            simp only [Option.getD_some] at hl ⊢
            rw [if_pos (by omega), code_loop k s subs hs hn hb m u f (i + 1 + 1) _ (by omega) d2 (by omega) (by simp only [List.length_append, ints_length]; omega), nums_app, List.append_assoc]
          · rw [List.getElem?_eq_none (by omega), if_neg (by simp; omega), code_loop k s subs hs hn hb m u f (i + 1 + 1) acc (by omega) d2 (by omega) (by omega)]
            simp
    · rw [if_pos (by simpa using h92)]
      refine plain ?_
      cases t with
      | nil => rfl
      | cons c u => conv => lhs; unfold putS
                    rw [if_neg h92]
theorem code_eq (k : Nat) (hk : 400 ≤ k) (s : Tx) (subs : List Tx) (hs : s.length ≤ 300) (hn : subs.length ≤ 20) (hb : ∀ x ∈ subs, x.length ≤ 60) : inst_Put.f k s subs = some (putS subs s) := by
  have e : inst_Put.l5 k s subs k [] 0 = _ := code_loop k s subs hs hn hb s.length s k 0 [] (Nat.le_refl _) rfl (by omega) (by simp)
  unfold inst_Put.f inst_Put.j2
  rw [e, Option.bind_some, List.nil_append, txt_nums]
end Ip
end Go.Proofs.YtpcobejkpbalcaaGreatDoor
