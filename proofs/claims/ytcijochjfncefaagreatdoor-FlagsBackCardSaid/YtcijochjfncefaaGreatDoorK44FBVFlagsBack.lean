/- A part of a proof: FBVFlagsBack. -/
import Derived.Test.YtcijochjfncefaaGreatDoorK44FBVH
namespace Go.Proofs.YtcijochjfncefaaGreatDoor
open Go Go.AM Go.ChangeShapes Go.ChangeAt Go.RowKit
set_option linter.unusedVariables false
set_option linter.unusedSimpArgs false
set_option maxRecDepth 100000
theorem op_eta (o : Op1) : T_flags_Options.mk o.f_All o.f_Explain o.f_Ignore o.f_Keep o.f_Dry o.f_Touch o.f_News o.f_Goals o.f_File o.f_Nproc o.f_Vars = o := by cases o; rfl
theorem text_count (o : Op1) (hs : SmO o) : (textO o).length ≤ 30000 := by
  have := head_len o
  have := hs.v
  have := hs.g
  unfold textO
  simp; omega
theorem back (k : Nat) (hk : 1000000 < k) (o : Op1) (h : rightO o = true) (hs : SmO o) : flags_Parse.f k (textO o) = some (o, 0) := by
  obtain ⟨g1, g2⟩ := text_args o h hs
  rw [Parse_eq k hk (textO o) (by have := text_count o hs; omega) g1 g2, text_parse o h]
theorem init_right : rightO initO = true := by decide
theorem flagsBack_true (a0 : Op1) (a1 : List Tx) (_ : Wf Un (.named 4) a0) (_ : Wf Un (.list .str) a1) (hv0 : a0.f_Vars.length * 56 ≤ reachBytes) : ∃ k, W31_FlagsBack.f k a0 a1 = some true := by
  refine ⟨(a0.f_Vars.length + 1000001) + 300, ?_⟩
  generalize hk : a0.f_Vars.length + 1000001 = k'
  unfold W31_FlagsBack.f
  rw [alive31_eq, Option.bind_some, if_neg (by decide), op_eta]
  generalize hk2 : k' + 300 = k at *
  have hkk : 1000000 < k := by omega
  obtain ⟨b0, e0, f0⟩ := long31 k a0 (by omega) (by omega) hv0
  rw [e0, Option.bind_some]
  unfold W31_FlagsBack.j22
  cases b0 with
  | true => rfl
  | false =>
    rw [if_neg (by decide)]
    obtain ⟨b1, e1, f1⟩ := nlong_f k (by omega) a1 20 200 (by omega)
    have e1' : Nm_Long.f k a1 20 200 = some b1 := e1
    rw [e1', Option.bind_some]
    cases b1 with
    | true => rfl
    | false =>
      rw [if_neg (by decide)]
      have h0 := (f0 rfl).sm
      obtain ⟨l1, l2⟩ := f1 rfl
      have ha1 : ∀ x ∈ a1, okArg x := fun x hx => by have := l2 x hx; exact ⟨by omega, fun _ => by omega⟩
      have ht1 : tot a1 ≤ 4020 := Nat.le_trans (tot_le 200 a1 l2) (by omega)
      have hP := Parse_eq k hkk a1 (by omega) ha1 (by omega)
      have h10 : W31_FlagsBack.j10 k a1 = some true := by
        unfold W31_FlagsBack.j10
        rw [hP, Option.bind_some]
        have hr := parseS_right (a1.length + 1) a1 initO init_right
        show (if (!((parse a1).2 == 0)) = true then _ else _) = _
        have hr' : (parse a1).2 = 0 → rightO (parse a1).1 = true ∧ (parse a1).1.f_News.length ≤ 0 + tot a1 ∧ (parse a1).1.f_Goals.length ≤ 0 + tot a1 ∧ (parse a1).1.f_Vars.length ≤ 0 + tot a1 := hr
        generalize parse a1 = q at *
        by_cases c : q.2 = 0
        · rw [if_neg (by simpa using c)]
          obtain ⟨g1, g2, g3, g4⟩ := hr' c
          have hs := sm_of g1 (by omega) (by omega) (by omega)
          rw [op_eta, Text_eq k (by omega) q.1 hs, g1, Option.bind_some]
          simp only [if_true, BEq.rfl, Bool.not_true, Bool.false_eq_true, if_false]
          rw [back k hkk q.1 g1 hs, Option.bind_some]
          simp only [if_true, BEq.rfl]
          rw [op_eta, Same_eq k (by omega) q.1 q.1 hs, Option.bind_some, sameO_refl]
        · rw [if_pos (by simpa using c)]
      unfold W31_FlagsBack.j19
      rw [op_eta, Text_eq k (by omega) a0 h0, Option.bind_some]
      cases hr : rightO a0 with
      | false =>
        simp only [Bool.false_eq_true, if_false]
        rw [if_neg (by decide), h10]
      | true =>
        simp only [if_true, BEq.rfl]
        rw [back k hkk a0 hr h0, Option.bind_some]
        simp only [BEq.rfl, Bool.not_true, Bool.false_eq_true, if_false]
        rw [op_eta, Same_eq k (by omega) a0 a0 h0, Option.bind_some, sameO_refl]
        unfold W31_FlagsBack.j16
        rw [if_neg (by decide), h10]
end Go.Proofs.YtcijochjfncefaaGreatDoor
