/- Rows of pieces that are too long, or not; what the document has of them. -/
import Derived.Test.YtldepagjdbcmgaaGreatDoorK22XWF
import Derived.Test.YtldepagjdbcmgaaGreatDoorK22AmM3
import Derived.Test.YtldepagjdbcmgaaGreatDoorK22AmM
import Derived.Test.YtldepagjdbcmgaaGreatDoorK22AmR5
import Derived.Test.YtldepagjdbcmgaaGreatDoorK22AmW
import Derived.Lib.SplitLaws
import Derived.Lib.CountLaws
import Derived.OpenShut
namespace Go.Proofs.YtldepagjdbcmgaaGreatDoor.Lt
open Go Go.AM Go.ChangeShapes Go.ChangeAt Go.RowKit
set_option linter.unusedVariables false
set_option linter.unusedSimpArgs false
set_option maxRecDepth 100000
abbrev Pc := T_lex_Piece
theorem pc_eta (p : Pc) : T_lex_Piece.mk p.f_Kind p.f_Text p.f_From p.f_To = p := by cases p; rfl
def okP (p : Pc) : Prop := p.f_Text.length ≤ 100 ∧ p.f_From.length ≤ 100 ∧ p.f_To.length ≤ 100

theorem at_drop {α : Type} {l r : List α} {i : Nat} {x : α} (h : l.drop i = x :: r) : idx l (i : Int) = some x ∧ l.drop (i + 1) = r ∧ i < l.length := by
  have hi : i < l.length := by
    rcases Nat.lt_or_ge i l.length with h' | h'
    · exact h'
    · rw [List.drop_of_length_le h'] at h; cases h
  rw [List.drop_eq_getElem_cons hi] at h
  injection h with h1 h2
  exact ⟨by rw [idx_at rfl hi, h1], h2, hi⟩
theorem at_nil {α : Type} {l : List α} {i : Nat} (h : l.drop i = []) : l.length ≤ i := by
  have := congrArg List.length h
  simp at this; omega
theorem wr1 {i : Nat} (h : i < 1000000) : IntKind.i64.wrap ((i : Int) + 1) = ((i + 1 : Nat) : Int) := by rw [w64 (by omega) (by omega)]; rfl

theorem long_in (k : Nat) (a0 : List (List Pc)) (m v3 : Int) (w : List Pc) (hw : w.length ≤ 1000) : ∀ (l : List Pc) (fuel i : Nat), w.drop i = l → l.length < fuel →
    ∃ o, millwrightlaw13_Long.l12 k a0 m v3 w fuel (i : Int) = some o ∧ ((o = .inl () ∧ ∀ p ∈ l, okP p) ∨ o = .inr true)
  | _, 0, _, _, h => by omega
  | [], f + 1, i, hl, _ => by
    have := at_nil hl
    refine ⟨.inl (), ?_, .inl ⟨rfl, fun p hp => by cases hp⟩⟩
    unfold millwrightlaw13_Long.l12
    rw [if_neg (by simp; omega)]
  | x :: r, f + 1, i, hl, hf => by
    obtain ⟨g1, g2, g3⟩ := at_drop hl
    unfold millwrightlaw13_Long.l12
    rw [if_pos (by simp; exact g3), g1]
    simp only [Option.bind_some]
    unfold millwrightlaw13_Long.j20 millwrightlaw13_Long.j16
    by_cases h1 : (x.f_Text.length : Int) > 100
    · exact ⟨.inr true, by simp [h1], .inr rfl⟩
    by_cases h2 : (x.f_From.length : Int) > 100
    · exact ⟨.inr true, by simp [h1, h2], .inr rfl⟩
    by_cases h3 : (x.f_To.length : Int) > 100
    · exact ⟨.inr true, by simp [h1, h2, h3], .inr rfl⟩
    obtain ⟨o, e1, e2⟩ := long_in k a0 m v3 w hw r f (i + 1) g2 (by simp at hf; omega)
    refine ⟨o, ?_, ?_⟩
    · rw [if_neg (by simpa using h1), if_neg (by simpa using h2), if_neg (by simpa using h3), wr1 (by omega)]
      exact e1
    · rcases e2 with ⟨e2, e3⟩ | e2
      · refine .inl ⟨e2, fun p hp => ?_⟩
        rcases List.mem_cons.1 hp with rfl | hp
        · exact ⟨by omega, by omega, by omega⟩
        · exact e3 p hp
      · exact .inr e2

def okW (w : List Pc) : Prop := w.length ≤ 12 ∧ ∀ p ∈ w, okP p

theorem long_out (k : Nat) (hk : 1000 < k) (a0 : List (List Pc)) (ha : a0.length ≤ 1000) : ∀ (l : List (List Pc)) (fuel i : Nat), a0.drop i = l → l.length < fuel →
    ∃ o, millwrightlaw13_Long.l4 k a0 12 fuel (i : Int) = some o ∧ ((o = .inl () ∧ ∀ w ∈ l, okW w) ∨ o = .inr true)
  | _, 0, _, _, h => by omega
  | [], f + 1, i, hl, _ => by
    have := at_nil hl
    refine ⟨.inl (), ?_, .inl ⟨rfl, fun p hp => by cases hp⟩⟩
    unfold millwrightlaw13_Long.l4
    rw [if_neg (by simp; omega)]
  | x :: r, f + 1, i, hl, hf => by
    obtain ⟨g1, g2, g3⟩ := at_drop hl
    unfold millwrightlaw13_Long.l4
    rw [if_pos (by simp; exact g3), g1]
    simp only [Option.bind_some]
    by_cases h1 : (x.length : Int) > 12
    · exact ⟨.inr true, by simp [h1], .inr rfl⟩
    rw [if_neg (by simpa using h1)]
    obtain ⟨o, e1, e2⟩ := long_in k a0 12 (i : Int) x (by omega) x k 0 rfl (by omega)
    have e1' : millwrightlaw13_Long.l12 k a0 12 (i : Int) x k 0 = some o := e1
    rw [e1']
    rcases e2 with ⟨rfl, e3⟩ | rfl
    · simp only [Option.bind_some]
      unfold millwrightlaw13_Long.j8
      rw [wr1 (by omega)]
      obtain ⟨o, f1, f2⟩ := long_out k hk a0 ha r f (i + 1) g2 (by simp at hf; omega)
      refine ⟨o, f1, ?_⟩
      rcases f2 with ⟨f2, f3⟩ | f2
      · refine .inl ⟨f2, fun p hp => ?_⟩
        rcases List.mem_cons.1 hp with rfl | hp
        · exact ⟨by omega, e3⟩
        · exact f3 p hp
      · exact .inr f2
    · exact ⟨.inr true, by simp, .inr rfl⟩

theorem long_f (k : Nat) (hk : 1000 < k) (a0 : List (List Pc)) : ∃ b, millwrightlaw13_Long.f k a0 12 = some b ∧ (b = false → a0.length ≤ 12 ∧ ∀ w ∈ a0, okW w) := by
  unfold millwrightlaw13_Long.f
  by_cases h : (a0.length : Int) > 12
  · exact ⟨true, by rw [if_pos (by simpa using h)], fun e => by cases e⟩
  · rw [if_neg (by simpa using h)]
    obtain ⟨o, e1, e2⟩ := long_out k hk a0 (by omega) a0 k 0 rfl (by omega)
    have e1' : millwrightlaw13_Long.l4 k a0 12 k 0 = some o := e1
    rw [e1']
    rcases e2 with ⟨rfl, e3⟩ | rfl
    · exact ⟨false, rfl, fun _ => ⟨by omega, e3⟩⟩
    · exact ⟨true, rfl, fun e => by cases e⟩

theorem word_loop (k : Nat) (w : List Pc) (hw : w.length ≤ 1000) : ∀ (l : List Pc) (fuel i : Nat) (acc : List Pc), w.drop i = l → l.length < fuel → acc.length = i → millwrightlaw13_Word.l5 k w fuel acc (i : Int) = some (acc ++ l)
  | _, 0, _, _, _, h, _ => by omega
  | [], f + 1, i, acc, hl, _, _ => by
    have := at_nil hl
    unfold millwrightlaw13_Word.l5
    rw [if_neg (by simp; omega)]; simp
  | x :: r, f + 1, i, acc, hl, hf, ha => by
    obtain ⟨g1, g2, g3⟩ := at_drop hl
    unfold millwrightlaw13_Word.l5
    rw [if_pos (by simp; exact g3), g1]
    simp only [Option.bind_some, pc_eta]
    rw [if_pos (by simp [LIM]; omega), wr1 (by omega), word_loop k w hw r f (i + 1) _ g2 (by simp at hf; omega) (by simp [ha])]
    simp
theorem word_f (k : Nat) (w : List Pc) (hw : w.length ≤ 1000) (hk : 1000 < k) : millwrightlaw13_Word.f k w = some w := by
  unfold millwrightlaw13_Word.f
  have e : millwrightlaw13_Word.l5 k w k [] 0 = _ := word_loop k w hw w k 0 [] rfl (by omega) rfl
  rw [e]; rfl
theorem of_loop (k : Nat) (hk : 1000 < k) (a : List (List Pc)) (ha : a.length ≤ 1000) (hw : ∀ w ∈ a, w.length ≤ 1000) : ∀ (l : List (List Pc)) (fuel i : Nat) (acc : List (List Pc)), a.drop i = l → l.length < fuel → acc.length = i → millwrightlaw13_Of.l5 k a fuel acc (i : Int) = some (acc ++ l)
  | _, 0, _, _, _, h, _ => by omega
  | [], f + 1, i, acc, hl, _, _ => by
    have := at_nil hl
    unfold millwrightlaw13_Of.l5
    rw [if_neg (by simp; omega)]; simp
  | x :: r, f + 1, i, acc, hl, hf, hac => by
    obtain ⟨g1, g2, g3⟩ := at_drop hl
    have hx : x ∈ a := List.mem_of_mem_drop (hl ▸ List.mem_cons_self)
    unfold millwrightlaw13_Of.l5
    rw [if_pos (by simp; exact g3), g1]
    simp only [Option.bind_some]
    rw [word_f k x (hw x hx) hk]
    simp only [Option.bind_some]
    rw [if_pos (by simp [LIM]; omega), wr1 (by omega), of_loop k hk a ha hw r f (i + 1) _ g2 (by simp at hf; omega) (by simp [hac])]
    simp
theorem of_f (k : Nat) (hk : 1000 < k) (a : List (List Pc)) (ha : a.length ≤ 1000) (hw : ∀ w ∈ a, w.length ≤ 1000) : millwrightlaw13_Of.f k a = some a := by
  unfold millwrightlaw13_Of.f
  have e : millwrightlaw13_Of.l5 k a k [] 0 = _ := of_loop k hk a ha hw a k 0 [] rfl (by omega) rfl
  rw [e]; rfl

end Go.Proofs.YtldepagjdbcmgaaGreatDoor.Lt
