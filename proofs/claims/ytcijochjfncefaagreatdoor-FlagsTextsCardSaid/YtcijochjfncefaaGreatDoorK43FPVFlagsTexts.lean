/- A part of a proof: FPVFlagsTexts. -/
import Derived.Test.YtcijochjfncefaaGreatDoorK43FPVE
namespace Go.Proofs.YtcijochjfncefaaGreatDoor
open Go Go.AM Go.ChangeShapes Go.ChangeAt Go.RowKit
set_option linter.unusedVariables false
set_option linter.unusedSimpArgs false
set_option maxRecDepth 100000
theorem op_eta (o : Op1) : T_flags_Options.mk o.f_All o.f_Explain o.f_Ignore o.f_Keep o.f_Dry o.f_Touch o.f_News o.f_Goals o.f_File o.f_Nproc o.f_Vars = o := by cases o; rfl
theorem op2_eta (o : Op2) : TR31O.mk o.f_On o.f_News o.f_Goals o.f_File o.f_Nproc o.f_Vars = o := by cases o; rfl
theorem num16 (k : Nat) : Nm_Num.f (k + 300) 16 = some 16 := by kernel_rfl
theorem text_len (o : Op1) (h : SmO o) : (textO o).length ≤ 100000 := by
  have := head_len o
  have := h.v
  have := h.g
  unfold textO
  simp; omega
theorem flagsTexts_true (a0 : Op1) (a1 : Op1) (_ : Wf Un (.named 4) a0) (_ : Wf Un (.named 4) a1) (hv0 : a0.f_Vars.length * 56 ≤ reachBytes) (hv1 : a1.f_Vars.length * 56 ≤ reachBytes) : ∃ k, W31_FlagsTexts.f k a0 a1 = some true := by
  refine ⟨(a0.f_Vars.length + a1.f_Vars.length + 100001) + 300, ?_⟩
  generalize hk : a0.f_Vars.length + a1.f_Vars.length + 100001 = k'
  unfold W31_FlagsTexts.f
  rw [alive31_eq, Option.bind_some, if_neg (by decide), op_eta, op_eta]
  have hn := num16 k'
  generalize hk2 : k' + 300 = k at *
  have hkk : 100000 < k := by omega
  obtain ⟨b0, e0, f0⟩ := long31 k a0 hkk (by omega) hv0
  rw [e0, Option.bind_some]
  unfold W31_FlagsTexts.j26
  cases b0 with
  | true => rfl
  | false =>
    rw [if_neg (by decide)]
    obtain ⟨b1, e1, f1⟩ := long31 k a1 hkk (by omega) hv1
    rw [e1, Option.bind_some]
    cases b1 with
    | true => rfl
    | false =>
      rw [if_neg (by decide)]
      have h0 := (f0 rfl).sm
      have h1 := (f1 rfl).sm
      unfold W31_FlagsTexts.j23
      rw [op_eta, op_eta, of_eq k hkk a0 h0.v, Option.bind_some, of_eq k hkk a1 h1.v, Option.bind_some, op2_eta, op2_eta, rRight_eq k hkk a0 h0, Option.bind_some, Text_eq k hkk a0 h0, Option.bind_some, Right_eq k hkk a0 h0, Option.bind_some,
        Same_eq k hkk a0 a1 h0, Option.bind_some, rSame_eq k hkk a0 a1 h0, Option.bind_some, Same_eq k hkk a0 a0 h0, Option.bind_some, sameO_refl]
      rw [show (rightO a0 == rightO a0) = true by simp, show (sameO a0 a1 == sameO a0 a1) = true by simp, if_neg (by decide), if_neg (by decide)]
      unfold W31_FlagsTexts.j16
      rw [if_neg (by decide)]
      unfold W31_FlagsTexts.j13
      rw [op2_eta, rText_eq k hkk a0 h0, Option.bind_some]
      have hl := text_len a0 h0
      cases rightO a0 with
      | false =>
        simp only [Bool.false_eq_true, if_false, Bool.not_false, if_true]
        rw [if_pos (by decide), hn]; rfl
      | true =>
        simp only [if_true, Bool.not_true, Bool.false_eq_true, if_false, BEq.rfl]
        rw [sameT_eq k _ _ hl (by omega), Option.bind_some, eqT_refl]
end Go.Proofs.YtcijochjfncefaaGreatDoor
