/- A part of a proof: DAC4. -/
import Derived.Test.YtkdpaglpieamgaaDoorK10DAC3
namespace Go.Proofs.YtkdpaglpieamgaaDoor
open Go Go.AM
set_option linter.unusedVariables false
set_option linter.unusedSimpArgs false
set_option maxRecDepth 100000
theorem delta_Back.ok (O : Out) (hO : GOk O) (k : Nat) (a0 : List TC) (out : List TC) (h : delta_Back.f k a0 = some out) : COk Un O Tryd.prog 34 { ar := [.p (.list (.named 6)) a0], r := .p (.list (.named 6)) out } := by
 refine cok_of_wp Tryd.func34 rfl (k := 42) rfl (Nat.le_of_ble_eq_true rfl) (namesOk_pure rfl rfl rfl rfl) ?_
 intro B hN
 refine ckS (b := ⟨[(0, .p (.list (.named 6)) a0)], []⟩) [0] [] (by kernel_rfl) ?_
 unfold delta_Back.f at h
 refine sq_ ?_
 refine rg4 (st1 := ⟨[(0, .p (.list (.named 6)) a0)], []⟩) [0] [] hN (.cons (moU (rs := []) rfl (.inr rfl) (.lit _ _ rfl)) .nil) (by kernel_rfl) ?_
 refine tnS ?_
 refine rg4 (st1 := ⟨[(0, .p (.list (.named 6)) a0), (3, .lit (.slice none 0 0))], []⟩) [0, 3] [] hN (.cons (moU (rs := []) rfl (.inr rfl) (.lit _ _ rfl)) .nil) (by kernel_rfl) ?_
 refine tnU ?_
 refine sqJ (fun st' => ∃ v1 : List TC, delta_Back.j2 k v1 = some out ∧ st' = ⟨[(3, .vec 1003 7 0 v1.length)], [(1003, .row 103 (.named 6) v1 false)]⟩) ?_ ?_
 ·refine sq_ ?_
  refine rg4 (st1 := ⟨[(3, .lit (.slice none 0 0)), (6, .p (.list (.named 6)) a0), (7, .p I6 ((a0.length : Int) : Int)), (8, .p I6 (0 : Int))], []⟩) [3, 6, 7, 8] [] hN (.cons (mvU (v := .p (.list (.named 6)) a0) rfl rfl) (.cons (u36_ (rs := [(6, .p (.list (.named 6)) a0)]) rfl rfl Tryd.underlying60 o0) (.cons (moU (rs := []) rfl (.inl rfl) (.int _ _ _)) .nil))) (by kernel_rfl) ?_
  refine tnU ?_
  refine wb_ ?_
  obtain ⟨o7, hlo7, h⟩ := bind_some h
  have hout8 := h
  clear h
  refine wc_ (cvT (u13_ 3 1003 103 (.named 6) (.head _) (by kernel_rfl) (by unfold K0; omega)) (cvK (b := ⟨[(3, .vec 1003 7 0 0), (6, .p (.list (.named 6)) a0), (7, .p I6 ((a0.length : Int) : Int)), (8, .p I6 (0 : Int))], [(1003, .row 103 (.named 6) [] false)]⟩) [3, 6, 7, 8] [1003] (by kernel_rfl))) ?_
  refine u14_ (fun n st' => ∃ v3 : List TC, ∃ v4 : Int, delta_Back.l5 k a0 n v3 v4 = some o7 ∧ st' = ⟨[(3, .vec 1003 7 0 v3.length), (6, .p (.list (.named 6)) a0), (7, .p I6 ((a0.length : Int) : Int)), (8, .p I6 v4)], [(1003, .row 103 (.named 6) v3 false)]⟩) k ⟨[], 0, hlo7, rfl⟩ ?_
  clear hlo7
  rintro (_ | n) _ ⟨v3, v4, h, rfl⟩
  ·cases h
  ·rw [delta_Back.l5] at h
   refine sq_ ?_
   refine rg4 (st1 := ⟨[(3, .vec 1003 7 0 v3.length), (6, .p (.list (.named 6)) a0), (7, .p I6 ((a0.length : Int) : Int)), (8, .p I6 v4), (9, .p .bool ((decide (v4 < (a0.length : Int))) : Bool))], [(1003, .row 103 (.named 6) v3 false)]⟩) [3, 6, 7, 8, 9] [1003] hN (.cons (cmU (rs := [(8, .p I6 v4), (7, .p I6 ((a0.length : Int) : Int))]) rfl rfl o0 o1 rfl) .nil) (by kernel_rfl) ?_
   refine tnS ?_
   refine cdU (b := (decide (v4 < (a0.length : Int)))) (.tmp m4_) (fun hc9 => ?_) (fun hc9 => ?_)
   ·replace h := ite_t hc9 h
    refine wc_ (cvK (b := ⟨[(3, .vec 1003 7 0 v3.length), (6, .p (.list (.named 6)) a0), (7, .p I6 ((a0.length : Int) : Int)), (8, .p I6 v4)], [(1003, .row 103 (.named 6) v3 false)]⟩) [3, 6, 7, 8] [1003] (by kernel_rfl)) (ws_ ?_)
    refine tnU ?_
    refine sqJ (fun st' => ∃ v10 : List TC, delta_Back.j11 k (delta_Back.l5 k a0 n) a0 v4 v10 = some o7 ∧ st' = ⟨[(3, .vec 1003 7 0 v10.length), (6, .p (.list (.named 6)) a0), (7, .p I6 ((a0.length : Int) : Int)), (8, .p I6 v4)], [(1003, .row 103 (.named 6) v10 false)]⟩) ?_ ?_
    ·refine wb_ ?_
     refine sq_ ?_
     obtain ⟨v12, hv12, h⟩ := bind_some h
     refine rg4 (st1 := ⟨[(3, .vec 1003 7 0 v3.length), (5, .loc 5 0), (6, .p (.list (.named 6)) a0), (7, .p I6 ((a0.length : Int) : Int)), (8, .p I6 v4)], [(5, .box [.p I6 v12.fK, .p .str v12.fO.fN, .p .str v12.fO.fC, .p I6 v12.fO.fT, .p .str v12.fW.fN, .p .str v12.fW.fC, .p I6 v12.fW.fT]), (1003, .row 103 (.named 6) v3 false)]⟩) [3, 5, 6, 7, 8] [5, 1003] hN (.cons (u33_ (rs := [(6, .p (.list (.named 6)) a0), (8, .p I6 v4)]) rfl rfl sl_60 o0 o1 hv12) (.cons (u42_ (rs := [(10, .pp (.named 6) v12)]) rfl rfl ty_103 o0) (.cons (u18_ (rs := []) (d := 5) (us := [.p I6 (0 : Int), .p .str ([] : List UInt8), .p .str ([] : List UInt8), .p I6 (0 : Int), .p .str ([] : List UInt8), .p .str ([] : List UInt8), .p I6 (0 : Int)]) (v := (.agg #[.int .i64 0, .string ByteArray.empty, .string ByteArray.empty, .int .i64 0, .string ByteArray.empty, .string ByteArray.empty, .int .i64 0])) rfl rfl rfl (by kernel_rfl) rfl (.data (fun _ _ _ => .int _ _) (.data (fun _ _ _ => rd_str0) (.data (fun _ _ _ => rd_str0) (.data (fun _ _ _ => .int _ _) (.data (fun _ _ _ => rd_str0) (.data (fun _ _ _ => rd_str0) (.data (fun _ _ _ => .int _ _) .nil))))))) (by kernel_rfl)) (.cons (u54_ (rs := [(5, .loc 5 0), (11, .p (.named 6) v12)]) (v := .p (.named 6) v12) (mid' := [.p I6 v12.fK, .p .str v12.fO.fN, .p .str v12.fO.fC, .p I6 v12.fO.fT, .p .str v12.fW.fN, .p .str v12.fW.fC, .p I6 v12.fW.fT]) [] [.p I6 (0 : Int), .p .str ([] : List UInt8), .p .str ([] : List UInt8), .p I6 (0 : Int), .p .str ([] : List UInt8), .p .str ([] : List UInt8), .p I6 (0 : Int)] [] rfl rfl rfl ty_103 o0 o1 (.data (.named (us := ([.p I6 v12.fK, .p .str v12.fO.fN, .p .str v12.fO.fC, .p I6 v12.fO.fT, .p .str v12.fW.fN, .p .str v12.fW.fC, .p I6 v12.fW.fT] : List (AVal Un))) (.pair (.one _ _) (.pair (.named (us := ([.p .str v12.fO.fN, .p .str v12.fO.fC, .p I6 v12.fO.fT] : List (AVal Un))) (.pair (.one _ _) (.pair (.one _ _) (.pair (.one _ _) .unit)))) (.pair (.named (us := ([.p .str v12.fW.fN, .p .str v12.fW.fC, .p I6 v12.fW.fT] : List (AVal Un))) (.pair (.one _ _) (.pair (.one _ _) (.pair (.one _ _) .unit)))) .unit))))) rfl rfl rfl rfl rfl rfl) .nil)))) (by kernel_rfl) ?_
     refine tnU ?_
     refine sqJ (fun st' => ∃ v13 : Int, ∃ v14 : List UInt8, ∃ v15 : List UInt8, ∃ v16 : Int, ∃ v17 : List UInt8, ∃ v18 : List UInt8, ∃ v19 : Int, delta_Back.j21 k (delta_Back.l5 k a0 n) a0 v3 v4 v13 v14 v15 v16 v17 v18 v19 = some o7 ∧ st' = ⟨[(3, .vec 1003 7 0 v3.length), (5, .loc 5 0), (6, .p (.list (.named 6)) a0), (7, .p I6 ((a0.length : Int) : Int)), (8, .p I6 v4)], [(5, .box [.p I6 v13, .p .str v14, .p .str v15, .p I6 v16, .p .str v17, .p .str v18, .p I6 v19]), (1003, .row 103 (.named 6) v3 false)]⟩) ?_ ?_
     ·refine sq_ ?_
      refine rg4 (st1 := ⟨[(3, .vec 1003 7 0 v3.length), (5, .loc 5 0), (6, .p (.list (.named 6)) a0), (7, .p I6 ((a0.length : Int) : Int)), (8, .p I6 v4), (13, .p I6 v12.fK)], [(5, .box [.p I6 v12.fK, .p .str v12.fO.fN, .p .str v12.fO.fC, .p I6 v12.fO.fT, .p .str v12.fW.fN, .p .str v12.fW.fC, .p I6 v12.fW.fT]), (1003, .row 103 (.named 6) v3 false)]⟩) [3, 5, 6, 7, 8, 13] [5, 1003] hN (.cons (fdB (rs := [(5, .loc 5 0)]) rfl rfl fd_103_0 (by decide) o0) (.cons (ldB (t := .int .i64) (rs := [(12, .loc 5 0)]) [] [.p I6 v12.fK] [.p .str v12.fO.fN, .p .str v12.fO.fC, .p I6 v12.fO.fT, .p .str v12.fW.fN, .p .str v12.fW.fC, .p I6 v12.fW.fT] (v := .p I6 v12.fK) rfl rfl ty_3 o0 rfl rfl rfl rfl (.data (.one _ _))) .nil)) (by kernel_rfl) ?_
      refine tnU ?_
      refine wb_ ?_
      refine sq_ ?_
      refine rg4 (st1 := ⟨[(3, .vec 1003 7 0 v3.length), (5, .loc 5 0), (6, .p (.list (.named 6)) a0), (7, .p I6 ((a0.length : Int) : Int)), (8, .p I6 v4), (13, .p I6 v12.fK), (14, .p .bool ((v12.fK == 1) : Bool))], [(5, .box [.p I6 v12.fK, .p .str v12.fO.fN, .p .str v12.fO.fC, .p I6 v12.fO.fT, .p .str v12.fW.fN, .p .str v12.fW.fC, .p I6 v12.fW.fT]), (1003, .row 103 (.named 6) v3 false)]⟩) [3, 5, 6, 7, 8, 13, 14] [5, 1003] hN (.cons (cmU (rs := [(13, .p I6 v12.fK)]) rfl rfl o0 (.int _ _ _) rfl) (.cons (mvA (v := .p .bool ((v12.fK == 1) : Bool)) rfl rfl) .nil)) (by kernel_rfl) ?_
      refine tnU ?_
      refine cdU (b := (v12.fK == 1)) (.tmp m6_) (fun hc22 => ?_) (fun hc22 => ?_)
      ·replace h := ite_t hc22 h
       refine rg4 (st1 := ⟨[(3, .vec 1003 7 0 v3.length), (5, .loc 5 0), (6, .p (.list (.named 6)) a0), (7, .p I6 ((a0.length : Int) : Int)), (8, .p I6 v4)], [(5, .box [.p I6 (3 : Int), .p .str v12.fW.fN, .p .str v12.fW.fC, .p I6 v12.fW.fT, .p .str v12.fO.fN, .p .str v12.fO.fC, .p I6 v12.fO.fT]), (1003, .row 103 (.named 6) v3 false)]⟩) [3, 5, 6, 7, 8] [5, 1003] hN (.cons (fdB (rs := [(5, .loc 5 0)]) rfl rfl fd_103_2 (by decide) o0) (.cons (ldB (t := .named 3) (rs := [(16, .loc 5 4)]) [.p I6 v12.fK, .p .str v12.fO.fN, .p .str v12.fO.fC, .p I6 v12.fO.fT] [.p .str v12.fW.fN, .p .str v12.fW.fC, .p I6 v12.fW.fT] [] (v := .p (.named 3) ((TF.mk v12.fW.fN v12.fW.fC v12.fW.fT) : TF)) rfl rfl ty_24 o0 rfl rfl rfl rfl (.data (.named (us := ([.p .str v12.fW.fN, .p .str v12.fW.fC, .p I6 v12.fW.fT] : List (AVal Un))) (.pair (.one _ _) (.pair (.one _ _) (.pair (.one _ _) .unit)))))) (.cons (fdB (rs := [(5, .loc 5 0)]) rfl rfl fd_103_1 (by decide) o0) (.cons (ldB (t := .named 3) (rs := [(18, .loc 5 1)]) [.p I6 v12.fK] [.p .str v12.fO.fN, .p .str v12.fO.fC, .p I6 v12.fO.fT] [.p .str v12.fW.fN, .p .str v12.fW.fC, .p I6 v12.fW.fT] (v := .p (.named 3) ((TF.mk v12.fO.fN v12.fO.fC v12.fO.fT) : TF)) rfl rfl ty_24 o0 rfl rfl rfl rfl (.data (.named (us := ([.p .str v12.fO.fN, .p .str v12.fO.fC, .p I6 v12.fO.fT] : List (AVal Un))) (.pair (.one _ _) (.pair (.one _ _) (.pair (.one _ _) .unit)))))) (.cons (u23_ (t := .named 6) (rs := [(17, .p (.named 3) ((TF.mk v12.fW.fN v12.fW.fC v12.fW.fT) : TF)), (19, .p (.named 3) ((TF.mk v12.fO.fN v12.fO.fC v12.fO.fT) : TF))]) (us0 := [.p I6 (0 : Int), .p .str ([] : List UInt8), .p .str ([] : List UInt8), .p I6 (0 : Int), .p .str ([] : List UInt8), .p .str ([] : List UInt8), .p I6 (0 : Int)]) (us := [.p I6 (3 : Int), .p .str v12.fW.fN, .p .str v12.fW.fC, .p I6 v12.fW.fT, .p .str v12.fO.fN, .p .str v12.fO.fC, .p I6 v12.fO.fT]) (v := .p (.named 6) ((TC.mk 3 (TF.mk v12.fW.fN v12.fW.fC v12.fW.fT) (TF.mk v12.fO.fN v12.fO.fC v12.fO.fT)) : TC)) rfl rfl lays_103 (.data (fun _ _ _ => .int _ _) (.data (fun _ _ _ => rd_str0) (.data (fun _ _ _ => rd_str0) (.data (fun _ _ _ => .int _ _) (.data (fun _ _ _ => rd_str0) (.data (fun _ _ _ => rd_str0) (.data (fun _ _ _ => .int _ _) .nil))))))) (Filled.cons (U := Un) (i := 0) (v := .p I6 (3 : Int)) [] [.p I6 (0 : Int)] [.p I6 (3 : Int)] [.p .str ([] : List UInt8), .p .str ([] : List UInt8), .p I6 (0 : Int), .p .str ([] : List UInt8), .p .str ([] : List UInt8), .p I6 (0 : Int)] (.int _ _ _) (.data (.one _ _)) rfl rfl rfl rfl rfl rfl (Filled.cons (U := Un) (i := 1) (v := .p (.named 3) ((TF.mk v12.fW.fN v12.fW.fC v12.fW.fT) : TF)) [.p I6 (3 : Int)] [.p .str ([] : List UInt8), .p .str ([] : List UInt8), .p I6 (0 : Int)] [.p .str v12.fW.fN, .p .str v12.fW.fC, .p I6 v12.fW.fT] [.p .str ([] : List UInt8), .p .str ([] : List UInt8), .p I6 (0 : Int)] o0 (.data (.named (us := ([.p .str v12.fW.fN, .p .str v12.fW.fC, .p I6 v12.fW.fT] : List (AVal Un))) (.pair (.one _ _) (.pair (.one _ _) (.pair (.one _ _) .unit))))) rfl rfl rfl rfl rfl rfl (Filled.cons (U := Un) (i := 2) (v := .p (.named 3) ((TF.mk v12.fO.fN v12.fO.fC v12.fO.fT) : TF)) [.p I6 (3 : Int), .p .str v12.fW.fN, .p .str v12.fW.fC, .p I6 v12.fW.fT] [.p .str ([] : List UInt8), .p .str ([] : List UInt8), .p I6 (0 : Int)] [.p .str v12.fO.fN, .p .str v12.fO.fC, .p I6 v12.fO.fT] [] o1 (.data (.named (us := ([.p .str v12.fO.fN, .p .str v12.fO.fC, .p I6 v12.fO.fT] : List (AVal Un))) (.pair (.one _ _) (.pair (.one _ _) (.pair (.one _ _) .unit))))) rfl rfl rfl rfl rfl rfl (.nil _)))) rfl (.data (.named (us := ([.p I6 (3 : Int), .p .str v12.fW.fN, .p .str v12.fW.fC, .p I6 v12.fW.fT, .p .str v12.fO.fN, .p .str v12.fO.fC, .p I6 v12.fO.fT] : List (AVal Un))) (.pair (.one _ _) (.pair (.named (us := ([.p .str v12.fW.fN, .p .str v12.fW.fC, .p I6 v12.fW.fT] : List (AVal Un))) (.pair (.one _ _) (.pair (.one _ _) (.pair (.one _ _) .unit)))) (.pair (.named (us := ([.p .str v12.fO.fN, .p .str v12.fO.fC, .p I6 v12.fO.fT] : List (AVal Un))) (.pair (.one _ _) (.pair (.one _ _) (.pair (.one _ _) .unit)))) .unit)))))) (.cons (u54_ (rs := [(5, .loc 5 0), (20, .p (.named 6) ((TC.mk 3 (TF.mk v12.fW.fN v12.fW.fC v12.fW.fT) (TF.mk v12.fO.fN v12.fO.fC v12.fO.fT)) : TC))]) (v := .p (.named 6) ((TC.mk 3 (TF.mk v12.fW.fN v12.fW.fC v12.fW.fT) (TF.mk v12.fO.fN v12.fO.fC v12.fO.fT)) : TC)) (mid' := [.p I6 (3 : Int), .p .str v12.fW.fN, .p .str v12.fW.fC, .p I6 v12.fW.fT, .p .str v12.fO.fN, .p .str v12.fO.fC, .p I6 v12.fO.fT]) [] [.p I6 v12.fK, .p .str v12.fO.fN, .p .str v12.fO.fC, .p I6 v12.fO.fT, .p .str v12.fW.fN, .p .str v12.fW.fC, .p I6 v12.fW.fT] [] rfl rfl rfl ty_103 o0 o1 (.data (.named (us := ([.p I6 (3 : Int), .p .str v12.fW.fN, .p .str v12.fW.fC, .p I6 v12.fW.fT, .p .str v12.fO.fN, .p .str v12.fO.fC, .p I6 v12.fO.fT] : List (AVal Un))) (.pair (.one _ _) (.pair (.named (us := ([.p .str v12.fW.fN, .p .str v12.fW.fC, .p I6 v12.fW.fT] : List (AVal Un))) (.pair (.one _ _) (.pair (.one _ _) (.pair (.one _ _) .unit)))) (.pair (.named (us := ([.p .str v12.fO.fN, .p .str v12.fO.fC, .p I6 v12.fO.fT] : List (AVal Un))) (.pair (.one _ _) (.pair (.one _ _) (.pair (.one _ _) .unit)))) .unit))))) rfl rfl rfl rfl rfl rfl) .nil)))))) (by kernel_rfl) ?_
       refine bn_ ?_
       refine tnU ?_
       exact ⟨3, v12.fW.fN, v12.fW.fC, v12.fW.fT, v12.fO.fN, v12.fO.fC, v12.fO.fT, h, rfl⟩
      ·replace h := ite_f hc22 h
       refine sq_ ?_
       refine rg4 (st1 := ⟨[(3, .vec 1003 7 0 v3.length), (5, .loc 5 0), (6, .p (.list (.named 6)) a0), (7, .p I6 ((a0.length : Int) : Int)), (8, .p I6 v4), (13, .p I6 v12.fK), (21, .p .bool ((v12.fK == 3) : Bool))], [(5, .box [.p I6 v12.fK, .p .str v12.fO.fN, .p .str v12.fO.fC, .p I6 v12.fO.fT, .p .str v12.fW.fN, .p .str v12.fW.fC, .p I6 v12.fW.fT]), (1003, .row 103 (.named 6) v3 false)]⟩) [3, 5, 6, 7, 8, 13, 21] [5, 1003] hN (.cons (cmU (rs := [(13, .p I6 v12.fK)]) rfl rfl o0 (.int _ _ _) rfl) (.cons (mvA (v := .p .bool ((v12.fK == 3) : Bool)) rfl rfl) .nil)) (by kernel_rfl) ?_
       refine tnU ?_
       refine cdU (b := (v12.fK == 3)) (.tmp m6_) (fun hc23 => ?_) (fun hc23 => ?_)
       ·replace h := ite_t hc23 h
        refine rg4 (st1 := ⟨[(3, .vec 1003 7 0 v3.length), (5, .loc 5 0), (6, .p (.list (.named 6)) a0), (7, .p I6 ((a0.length : Int) : Int)), (8, .p I6 v4)], [(5, .box [.p I6 (1 : Int), .p .str v12.fW.fN, .p .str v12.fW.fC, .p I6 v12.fW.fT, .p .str v12.fO.fN, .p .str v12.fO.fC, .p I6 v12.fO.fT]), (1003, .row 103 (.named 6) v3 false)]⟩) [3, 5, 6, 7, 8] [5, 1003] hN (.cons (fdB (rs := [(5, .loc 5 0)]) rfl rfl fd_103_2 (by decide) o0) (.cons (ldB (t := .named 3) (rs := [(23, .loc 5 4)]) [.p I6 v12.fK, .p .str v12.fO.fN, .p .str v12.fO.fC, .p I6 v12.fO.fT] [.p .str v12.fW.fN, .p .str v12.fW.fC, .p I6 v12.fW.fT] [] (v := .p (.named 3) ((TF.mk v12.fW.fN v12.fW.fC v12.fW.fT) : TF)) rfl rfl ty_24 o0 rfl rfl rfl rfl (.data (.named (us := ([.p .str v12.fW.fN, .p .str v12.fW.fC, .p I6 v12.fW.fT] : List (AVal Un))) (.pair (.one _ _) (.pair (.one _ _) (.pair (.one _ _) .unit)))))) (.cons (fdB (rs := [(5, .loc 5 0)]) rfl rfl fd_103_1 (by decide) o0) (.cons (ldB (t := .named 3) (rs := [(25, .loc 5 1)]) [.p I6 v12.fK] [.p .str v12.fO.fN, .p .str v12.fO.fC, .p I6 v12.fO.fT] [.p .str v12.fW.fN, .p .str v12.fW.fC, .p I6 v12.fW.fT] (v := .p (.named 3) ((TF.mk v12.fO.fN v12.fO.fC v12.fO.fT) : TF)) rfl rfl ty_24 o0 rfl rfl rfl rfl (.data (.named (us := ([.p .str v12.fO.fN, .p .str v12.fO.fC, .p I6 v12.fO.fT] : List (AVal Un))) (.pair (.one _ _) (.pair (.one _ _) (.pair (.one _ _) .unit)))))) (.cons (u23_ (t := .named 6) (rs := [(24, .p (.named 3) ((TF.mk v12.fW.fN v12.fW.fC v12.fW.fT) : TF)), (26, .p (.named 3) ((TF.mk v12.fO.fN v12.fO.fC v12.fO.fT) : TF))]) (us0 := [.p I6 (0 : Int), .p .str ([] : List UInt8), .p .str ([] : List UInt8), .p I6 (0 : Int), .p .str ([] : List UInt8), .p .str ([] : List UInt8), .p I6 (0 : Int)]) (us := [.p I6 (1 : Int), .p .str v12.fW.fN, .p .str v12.fW.fC, .p I6 v12.fW.fT, .p .str v12.fO.fN, .p .str v12.fO.fC, .p I6 v12.fO.fT]) (v := .p (.named 6) ((TC.mk 1 (TF.mk v12.fW.fN v12.fW.fC v12.fW.fT) (TF.mk v12.fO.fN v12.fO.fC v12.fO.fT)) : TC)) rfl rfl lays_103 (.data (fun _ _ _ => .int _ _) (.data (fun _ _ _ => rd_str0) (.data (fun _ _ _ => rd_str0) (.data (fun _ _ _ => .int _ _) (.data (fun _ _ _ => rd_str0) (.data (fun _ _ _ => rd_str0) (.data (fun _ _ _ => .int _ _) .nil))))))) (Filled.cons (U := Un) (i := 0) (v := .p I6 (1 : Int)) [] [.p I6 (0 : Int)] [.p I6 (1 : Int)] [.p .str ([] : List UInt8), .p .str ([] : List UInt8), .p I6 (0 : Int), .p .str ([] : List UInt8), .p .str ([] : List UInt8), .p I6 (0 : Int)] (.int _ _ _) (.data (.one _ _)) rfl rfl rfl rfl rfl rfl (Filled.cons (U := Un) (i := 1) (v := .p (.named 3) ((TF.mk v12.fW.fN v12.fW.fC v12.fW.fT) : TF)) [.p I6 (1 : Int)] [.p .str ([] : List UInt8), .p .str ([] : List UInt8), .p I6 (0 : Int)] [.p .str v12.fW.fN, .p .str v12.fW.fC, .p I6 v12.fW.fT] [.p .str ([] : List UInt8), .p .str ([] : List UInt8), .p I6 (0 : Int)] o0 (.data (.named (us := ([.p .str v12.fW.fN, .p .str v12.fW.fC, .p I6 v12.fW.fT] : List (AVal Un))) (.pair (.one _ _) (.pair (.one _ _) (.pair (.one _ _) .unit))))) rfl rfl rfl rfl rfl rfl (Filled.cons (U := Un) (i := 2) (v := .p (.named 3) ((TF.mk v12.fO.fN v12.fO.fC v12.fO.fT) : TF)) [.p I6 (1 : Int), .p .str v12.fW.fN, .p .str v12.fW.fC, .p I6 v12.fW.fT] [.p .str ([] : List UInt8), .p .str ([] : List UInt8), .p I6 (0 : Int)] [.p .str v12.fO.fN, .p .str v12.fO.fC, .p I6 v12.fO.fT] [] o1 (.data (.named (us := ([.p .str v12.fO.fN, .p .str v12.fO.fC, .p I6 v12.fO.fT] : List (AVal Un))) (.pair (.one _ _) (.pair (.one _ _) (.pair (.one _ _) .unit))))) rfl rfl rfl rfl rfl rfl (.nil _)))) rfl (.data (.named (us := ([.p I6 (1 : Int), .p .str v12.fW.fN, .p .str v12.fW.fC, .p I6 v12.fW.fT, .p .str v12.fO.fN, .p .str v12.fO.fC, .p I6 v12.fO.fT] : List (AVal Un))) (.pair (.one _ _) (.pair (.named (us := ([.p .str v12.fW.fN, .p .str v12.fW.fC, .p I6 v12.fW.fT] : List (AVal Un))) (.pair (.one _ _) (.pair (.one _ _) (.pair (.one _ _) .unit)))) (.pair (.named (us := ([.p .str v12.fO.fN, .p .str v12.fO.fC, .p I6 v12.fO.fT] : List (AVal Un))) (.pair (.one _ _) (.pair (.one _ _) (.pair (.one _ _) .unit)))) .unit)))))) (.cons (u54_ (rs := [(5, .loc 5 0), (27, .p (.named 6) ((TC.mk 1 (TF.mk v12.fW.fN v12.fW.fC v12.fW.fT) (TF.mk v12.fO.fN v12.fO.fC v12.fO.fT)) : TC))]) (v := .p (.named 6) ((TC.mk 1 (TF.mk v12.fW.fN v12.fW.fC v12.fW.fT) (TF.mk v12.fO.fN v12.fO.fC v12.fO.fT)) : TC)) (mid' := [.p I6 (1 : Int), .p .str v12.fW.fN, .p .str v12.fW.fC, .p I6 v12.fW.fT, .p .str v12.fO.fN, .p .str v12.fO.fC, .p I6 v12.fO.fT]) [] [.p I6 v12.fK, .p .str v12.fO.fN, .p .str v12.fO.fC, .p I6 v12.fO.fT, .p .str v12.fW.fN, .p .str v12.fW.fC, .p I6 v12.fW.fT] [] rfl rfl rfl ty_103 o0 o1 (.data (.named (us := ([.p I6 (1 : Int), .p .str v12.fW.fN, .p .str v12.fW.fC, .p I6 v12.fW.fT, .p .str v12.fO.fN, .p .str v12.fO.fC, .p I6 v12.fO.fT] : List (AVal Un))) (.pair (.one _ _) (.pair (.named (us := ([.p .str v12.fW.fN, .p .str v12.fW.fC, .p I6 v12.fW.fT] : List (AVal Un))) (.pair (.one _ _) (.pair (.one _ _) (.pair (.one _ _) .unit)))) (.pair (.named (us := ([.p .str v12.fO.fN, .p .str v12.fO.fC, .p I6 v12.fO.fT] : List (AVal Un))) (.pair (.one _ _) (.pair (.one _ _) (.pair (.one _ _) .unit)))) .unit))))) rfl rfl rfl rfl rfl rfl) .nil)))))) (by kernel_rfl) ?_
        refine bn_ ?_
        refine tnU ?_
        exact ⟨1, v12.fW.fN, v12.fW.fC, v12.fW.fT, v12.fO.fN, v12.fO.fC, v12.fO.fT, h, rfl⟩
       ·replace h := ite_f hc23 h
        refine sq_ ?_
        refine rg4 (st1 := ⟨[(3, .vec 1003 7 0 v3.length), (5, .loc 5 0), (6, .p (.list (.named 6)) a0), (7, .p I6 ((a0.length : Int) : Int)), (8, .p I6 v4), (28, .p .bool ((v12.fK == 2) : Bool))], [(5, .box [.p I6 v12.fK, .p .str v12.fO.fN, .p .str v12.fO.fC, .p I6 v12.fO.fT, .p .str v12.fW.fN, .p .str v12.fW.fC, .p I6 v12.fW.fT]), (1003, .row 103 (.named 6) v3 false)]⟩) [3, 5, 6, 7, 8, 28] [5, 1003] hN (.cons (cmU (rs := [(13, .p I6 v12.fK)]) rfl rfl o0 (.int _ _ _) rfl) (.cons (mvA (v := .p .bool ((v12.fK == 2) : Bool)) rfl rfl) .nil)) (by kernel_rfl) ?_
        refine tnU ?_
        refine cdU (b := (v12.fK == 2)) (.tmp m5_) (fun hc24 => ?_) (fun hc24 => ?_)
        ·replace h := ite_t hc24 h
         refine rg4 (st1 := ⟨[(3, .vec 1003 7 0 v3.length), (5, .loc 5 0), (6, .p (.list (.named 6)) a0), (7, .p I6 ((a0.length : Int) : Int)), (8, .p I6 v4)], [(5, .box [.p I6 v12.fK, .p .str v12.fW.fN, .p .str v12.fW.fC, .p I6 v12.fW.fT, .p .str v12.fO.fN, .p .str v12.fO.fC, .p I6 v12.fO.fT]), (1003, .row 103 (.named 6) v3 false)]⟩) [3, 5, 6, 7, 8] [5, 1003] hN (.cons (fdB (rs := [(5, .loc 5 0)]) rfl rfl fd_103_2 (by decide) o0) (.cons (ldB (t := .named 3) (rs := [(30, .loc 5 4)]) [.p I6 v12.fK, .p .str v12.fO.fN, .p .str v12.fO.fC, .p I6 v12.fO.fT] [.p .str v12.fW.fN, .p .str v12.fW.fC, .p I6 v12.fW.fT] [] (v := .p (.named 3) ((TF.mk v12.fW.fN v12.fW.fC v12.fW.fT) : TF)) rfl rfl ty_24 o0 rfl rfl rfl rfl (.data (.named (us := ([.p .str v12.fW.fN, .p .str v12.fW.fC, .p I6 v12.fW.fT] : List (AVal Un))) (.pair (.one _ _) (.pair (.one _ _) (.pair (.one _ _) .unit)))))) (.cons (fdB (rs := [(5, .loc 5 0)]) rfl rfl fd_103_1 (by decide) o0) (.cons (ldB (t := .named 3) (rs := [(32, .loc 5 1)]) [.p I6 v12.fK] [.p .str v12.fO.fN, .p .str v12.fO.fC, .p I6 v12.fO.fT] [.p .str v12.fW.fN, .p .str v12.fW.fC, .p I6 v12.fW.fT] (v := .p (.named 3) ((TF.mk v12.fO.fN v12.fO.fC v12.fO.fT) : TF)) rfl rfl ty_24 o0 rfl rfl rfl rfl (.data (.named (us := ([.p .str v12.fO.fN, .p .str v12.fO.fC, .p I6 v12.fO.fT] : List (AVal Un))) (.pair (.one _ _) (.pair (.one _ _) (.pair (.one _ _) .unit)))))) (.cons (fdB (rs := [(5, .loc 5 0)]) rfl rfl fd_103_1 (by decide) o0) (.cons (u54_ (rs := [(34, .loc 5 1), (31, .p (.named 3) ((TF.mk v12.fW.fN v12.fW.fC v12.fW.fT) : TF))]) (v := .p (.named 3) ((TF.mk v12.fW.fN v12.fW.fC v12.fW.fT) : TF)) (mid' := [.p .str v12.fW.fN, .p .str v12.fW.fC, .p I6 v12.fW.fT]) [.p I6 v12.fK] [.p .str v12.fO.fN, .p .str v12.fO.fC, .p I6 v12.fO.fT] [.p .str v12.fW.fN, .p .str v12.fW.fC, .p I6 v12.fW.fT] rfl rfl rfl ty_24 o0 o1 (.data (.named (us := ([.p .str v12.fW.fN, .p .str v12.fW.fC, .p I6 v12.fW.fT] : List (AVal Un))) (.pair (.one _ _) (.pair (.one _ _) (.pair (.one _ _) .unit))))) rfl rfl rfl rfl rfl rfl) (.cons (fdB (rs := [(5, .loc 5 0)]) rfl rfl fd_103_2 (by decide) o0) (.cons (u54_ (rs := [(35, .loc 5 4), (33, .p (.named 3) ((TF.mk v12.fO.fN v12.fO.fC v12.fO.fT) : TF))]) (v := .p (.named 3) ((TF.mk v12.fO.fN v12.fO.fC v12.fO.fT) : TF)) (mid' := [.p .str v12.fO.fN, .p .str v12.fO.fC, .p I6 v12.fO.fT]) [.p I6 v12.fK, .p .str v12.fW.fN, .p .str v12.fW.fC, .p I6 v12.fW.fT] [.p .str v12.fW.fN, .p .str v12.fW.fC, .p I6 v12.fW.fT] [] rfl rfl rfl ty_24 o0 o1 (.data (.named (us := ([.p .str v12.fO.fN, .p .str v12.fO.fC, .p I6 v12.fO.fT] : List (AVal Un))) (.pair (.one _ _) (.pair (.one _ _) (.pair (.one _ _) .unit))))) rfl rfl rfl rfl rfl rfl) .nil)))))))) (by kernel_rfl) ?_
         refine bn_ ?_
         refine tnU ?_
         exact ⟨v12.fK, v12.fW.fN, v12.fW.fC, v12.fW.fT, v12.fO.fN, v12.fO.fC, v12.fO.fT, h, rfl⟩
        ·replace h := ite_f hc24 h
         refine wc_ (cvK (b := ⟨[(3, .vec 1003 7 0 v3.length), (5, .loc 5 0), (6, .p (.list (.named 6)) a0), (7, .p I6 ((a0.length : Int) : Int)), (8, .p I6 v4)], [(5, .box [.p I6 v12.fK, .p .str v12.fO.fN, .p .str v12.fO.fC, .p I6 v12.fO.fT, .p .str v12.fW.fN, .p .str v12.fW.fC, .p I6 v12.fW.fT]), (1003, .row 103 (.named 6) v3 false)]⟩) [3, 5, 6, 7, 8] [5, 1003] (by kernel_rfl)) (ws_ ?_)
         refine bn_ ?_
         refine tnU ?_
         exact ⟨v12.fK, v12.fO.fN, v12.fO.fC, v12.fO.fT, v12.fW.fN, v12.fW.fC, v12.fW.fT, h, rfl⟩
     ·rintro _ ⟨v13, v14, v15, v16, v17, v18, v19, h, rfl⟩
      unfold delta_Back.j21 at h
      obtain ⟨g20, h⟩ := if_some h
      refine rg3 (st1 := ⟨[(3, .vec 39 7 0 ((v3 ++ [(TC.mk v13 (TF.mk v14 v15 v16) (TF.mk v17 v18 v19))]).length)), (6, .p (.list (.named 6)) a0), (7, .p I6 ((a0.length : Int) : Int)), (8, .p I6 v4)], [(39, .row 103 (.named 6) (v3 ++ [(TC.mk v13 (TF.mk v14 v15 v16) (TF.mk v17 v18 v19))]) false)]⟩) [3, 6, 7, 8] [39] hN (.cons (mvU (v := .vec 1003 7 0 v3.length) rfl rfl) (.cons (ldB (t := .named 6) (rs := [(5, .loc 5 0)]) [] [.p I6 v13, .p .str v14, .p .str v15, .p I6 v16, .p .str v17, .p .str v18, .p I6 v19] [] (v := .p (.named 6) ((TC.mk v13 (TF.mk v14 v15 v16) (TF.mk v17 v18 v19)) : TC)) rfl rfl ty_103 o0 rfl rfl rfl rfl (.data (.named (us := ([.p I6 v13, .p .str v14, .p .str v15, .p I6 v16, .p .str v17, .p .str v18, .p I6 v19] : List (AVal Un))) (.pair (.one _ _) (.pair (.named (us := ([.p .str v14, .p .str v15, .p I6 v16] : List (AVal Un))) (.pair (.one _ _) (.pair (.one _ _) (.pair (.one _ _) .unit)))) (.pair (.named (us := ([.p .str v17, .p .str v18, .p I6 v19] : List (AVal Un))) (.pair (.one _ _) (.pair (.one _ _) (.pair (.one _ _) .unit)))) .unit)))))) (.cons (u24_ (t := .named 6) (rs := [(37, .p (.named 6) ((TC.mk v13 (TF.mk v14 v15 v16) (TF.mk v17 v18 v19)) : TC))]) (ys := [.tmp 37]) (xs := [(TC.mk v13 (TF.mk v14 v15 v16) (TF.mk v17 v18 v19))]) rfl rfl rfl rfl row_60 (.cons o0 .nil) (by decide)) (.cons (u19_ (t := .named 6) (rs := [(36, .vec 1003 7 0 v3.length), (38, .vec 38 7 0 ([(TC.mk v13 (TF.mk v14 v15 v16) (TF.mk v17 v18 v19))].length))]) (vw := [(38, .row 103 (.named 6) [(TC.mk v13 (TF.mk v14 v15 v16) (TF.mk v17 v18 v19))] true)]) (xs := v3) (ys := [(TC.mk v13 (TF.mk v14 v15 v16) (TF.mk v17 v18 v19))]) (fx := false) rfl rfl rfl row_60 (by decide) o0 o1 (.whole (.head _)) (by simp) g20) (.cons (mvA (v := .vec 39 7 0 ((v3 ++ [(TC.mk v13 (TF.mk v14 v15 v16) (TF.mk v17 v18 v19))]).length)) rfl rfl) .nil))))) (by kernel_rfl) (cvT (u12_ (st' := ⟨[(3, .vec 1003 7 0 ((v3 ++ [(TC.mk v13 (TF.mk v14 v15 v16) (TF.mk v17 v18 v19))]).length)), (6, .p (.list (.named 6)) a0), (7, .p I6 ((a0.length : Int) : Int)), (8, .p I6 v4)], [(1003, .row 103 (.named 6) (v3 ++ [(TC.mk v13 (TF.mk v14 v15 v16) (TF.mk v17 v18 v19))]) false)]⟩) 39 1003 (by unfold K0; omega) (by kernel_rfl) (by kernel_rfl) (by kernel_rfl)) (cvK (b := ⟨[(3, .vec 1003 7 0 ((v3 ++ [(TC.mk v13 (TF.mk v14 v15 v16) (TF.mk v17 v18 v19))]).length)), (6, .p (.list (.named 6)) a0), (7, .p I6 ((a0.length : Int) : Int)), (8, .p I6 v4)], [(1003, .row 103 (.named 6) (v3 ++ [(TC.mk v13 (TF.mk v14 v15 v16) (TF.mk v17 v18 v19))]) false)]⟩) [3, 6, 7, 8] [1003] (by kernel_rfl))) ?_
      refine bn_ ?_
      refine tnU ?_
      exact ⟨(v3 ++ [(TC.mk v13 (TF.mk v14 v15 v16) (TF.mk v17 v18 v19))]), h, rfl⟩
    ·rintro _ ⟨v10, h, rfl⟩
     unfold delta_Back.j11 at h
     refine rg4 (st1 := ⟨[(3, .vec 1003 7 0 v10.length), (6, .p (.list (.named 6)) a0), (7, .p I6 ((a0.length : Int) : Int)), (8, .p I6 ((IntKind.i64.wrap (v4 + 1)) : Int))], [(1003, .row 103 (.named 6) v10 false)]⟩) [3, 6, 7, 8] [1003] hN (.cons (u21_ (rs := [(8, .p I6 v4)]) rfl rfl o0 (.int _ _ _) rfl) (.cons (mvU (v := .p I6 ((IntKind.i64.wrap (v4 + 1)) : Int)) rfl rfl) .nil)) (by kernel_rfl) ?_
     refine tnU ?_
     exact ⟨n, Nat.lt_succ_self n, v10, (IntKind.i64.wrap (v4 + 1)), h, rfl⟩
   ·replace h := ite_f hc9 h
    refine wc_ (cvK (b := ⟨[(3, .vec 1003 7 0 v3.length)], [(1003, .row 103 (.named 6) v3 false)]⟩) [3] [1003] (by kernel_rfl)) (we_ ?_)
    refine te_ ?_
    have hq := Option.some.inj h
    subst hq
    refine te_ ?_
    have h := hout8
    refine blockQ_hit ?_
    refine tnU ?_
    exact ⟨v3, h, rfl⟩
 ·rintro _ ⟨v1, h, rfl⟩
  unfold delta_Back.j2 at h
  refine sq_ ?_
  refine rg4 (st1 := ⟨[(2, .vec 1003 7 0 v1.length)], [(1003, .row 103 (.named 6) v1 false)]⟩) [2] [1003] hN (.cons (mvU (v := .vec 1003 7 0 v1.length) rfl rfl) (.cons (mvA (v := .vec 1003 7 0 v1.length) rfl rfl) .nil)) (by kernel_rfl) ?_
  refine tnU ?_
  refine wc_ (cvT (u2_ 2 1003 103 _ (.named 6) v1 false (.head _) (by first | rfl | (simp only [upd_length, List.length_replicate, List.length_append]; done) | (simp only [upd_length, List.length_replicate, List.length_append] at *; omega) | omega) (.head _) (by first | (simp [Blk.names]; done) | (simp [Blk.names, AVal.namesL, AVal.names]; done) | (simp [Blk.names]; decide))) (cvK (b := ⟨[(2, .p (.list (.named 6)) v1)], []⟩) [2] [] (by kernel_rfl))) (wr_ ?_)
  have hq := Option.some.inj h
  subst hq
  exact ends_ret (retV_1 rfl (.head _)) ain_nil

theorem R41_Back.ok (O : Out) (hO : GOk O) (k : Nat) (a0 : List TR41C) (out : List TR41C) (h : R41_Back.f k a0 = some out) : COk Un O Tryd.prog 42 { ar := [.p (.list (.named 7)) a0], r := .p (.list (.named 7)) out } := by
 refine cok_of_wp Tryd.func42 rfl (k := 42) rfl (Nat.le_of_ble_eq_true rfl) (namesOk_pure rfl rfl rfl rfl) ?_
 intro B hN
 refine ckS (b := ⟨[(0, .p (.list (.named 7)) a0)], []⟩) [0] [] (by kernel_rfl) ?_
 unfold R41_Back.f at h
 refine sq_ ?_
 refine rg4 (st1 := ⟨[(0, .p (.list (.named 7)) a0)], []⟩) [0] [] hN (.cons (moU (rs := []) rfl (.inr rfl) (.lit _ _ rfl)) .nil) (by kernel_rfl) ?_
 refine tnS ?_
 refine rg3 (st1 := ⟨[(0, .p (.list (.named 7)) a0), (3, .vec 7 7 0 (([] : List TR41C).length))], [(7, .row 77 (.named 7) ([] : List TR41C) true)]⟩) [0, 3] [7] hN (.cons (u24_ (t := .named 7) (rs := []) (ys := []) (xs := ([] : List TR41C)) rfl rfl rfl rfl row_66 .nil (by decide)) (.cons (mvA (v := .vec 7 7 0 (([] : List TR41C).length)) rfl rfl) .nil)) (by kernel_rfl) (u0_ (st' := ⟨[(0, .p (.list (.named 7)) a0), (3, .vec 7 7 0 0)], [(7, .row 77 (.named 7) ([] : List TR41C) true)]⟩) (by simp only [upd_length, List.length_nil, List.length_replicate])) ?_
 refine tnU ?_
 refine sqJ (fun st' => ∃ v1 : List TR41C, R41_Back.j2 k v1 = some out ∧ st' = ⟨[(3, .vec 1003 7 0 v1.length)], [(1003, .row 77 (.named 7) v1 false)]⟩) ?_ ?_
 ·refine sq_ ?_
  refine rg4 (st1 := ⟨[(3, .vec 7 7 0 0), (8, .p (.list (.named 7)) a0), (9, .p I6 ((a0.length : Int) : Int)), (10, .p I6 (0 : Int))], [(7, .row 77 (.named 7) ([] : List TR41C) true)]⟩) [3, 8, 9, 10] [7] hN (.cons (mvU (v := .p (.list (.named 7)) a0) rfl rfl) (.cons (u36_ (rs := [(8, .p (.list (.named 7)) a0)]) rfl rfl Tryd.underlying66 o0) (.cons (moU (rs := []) rfl (.inl rfl) (.int _ _ _)) .nil))) (by kernel_rfl) ?_
  refine tnU ?_
  refine wb_ ?_
  obtain ⟨o7, hlo7, h⟩ := bind_some h
  have hout8 := h
  clear h
  refine wc_ (cvT (u4_ 7 77 (.named 7) ([] : List TR41C) (.head _)) (cvT (cvK (b := ⟨[(3, .vec 7 7 0 0), (8, .p (.list (.named 7)) a0), (9, .p I6 ((a0.length : Int) : Int)), (10, .p I6 (0 : Int))], [(7, .row 77 (.named 7) ([] : List TR41C) false)]⟩) [3, 8, 9, 10] [7] (by kernel_rfl)) (cvT (u12_ (st' := ⟨[(3, .vec 1003 7 0 0), (8, .p (.list (.named 7)) a0), (9, .p I6 ((a0.length : Int) : Int)), (10, .p I6 (0 : Int))], [(1003, .row 77 (.named 7) ([] : List TR41C) false)]⟩) 7 1003 (by unfold K0; omega) (by kernel_rfl) (by kernel_rfl) (by kernel_rfl)) (cvK (b := ⟨[(3, .vec 1003 7 0 0), (8, .p (.list (.named 7)) a0), (9, .p I6 ((a0.length : Int) : Int)), (10, .p I6 (0 : Int))], [(1003, .row 77 (.named 7) ([] : List TR41C) false)]⟩) [3, 8, 9, 10] [1003] (by kernel_rfl))))) ?_
  refine u14_ (fun n st' => ∃ v3 : List TR41C, ∃ v4 : Int, R41_Back.l5 k a0 n v3 v4 = some o7 ∧ st' = ⟨[(3, .vec 1003 7 0 v3.length), (8, .p (.list (.named 7)) a0), (9, .p I6 ((a0.length : Int) : Int)), (10, .p I6 v4)], [(1003, .row 77 (.named 7) v3 false)]⟩) k ⟨([] : List TR41C), 0, hlo7, rfl⟩ ?_
  clear hlo7
  rintro (_ | n) _ ⟨v3, v4, h, rfl⟩
  ·cases h
  ·rw [R41_Back.l5] at h
   refine sq_ ?_
   refine rg4 (st1 := ⟨[(3, .vec 1003 7 0 v3.length), (8, .p (.list (.named 7)) a0), (9, .p I6 ((a0.length : Int) : Int)), (10, .p I6 v4), (11, .p .bool ((decide (v4 < (a0.length : Int))) : Bool))], [(1003, .row 77 (.named 7) v3 false)]⟩) [3, 8, 9, 10, 11] [1003] hN (.cons (cmU (rs := [(10, .p I6 v4), (9, .p I6 ((a0.length : Int) : Int))]) rfl rfl o0 o1 rfl) .nil) (by kernel_rfl) ?_
   refine tnS ?_
   refine cdU (b := (decide (v4 < (a0.length : Int)))) (.tmp m4_) (fun hc9 => ?_) (fun hc9 => ?_)
   ·replace h := ite_t hc9 h
    refine wc_ (cvK (b := ⟨[(3, .vec 1003 7 0 v3.length), (8, .p (.list (.named 7)) a0), (9, .p I6 ((a0.length : Int) : Int)), (10, .p I6 v4)], [(1003, .row 77 (.named 7) v3 false)]⟩) [3, 8, 9, 10] [1003] (by kernel_rfl)) (ws_ ?_)
    refine tnU ?_
    refine sqJ (fun st' => ∃ v10 : List TR41C, R41_Back.j11 k (R41_Back.l5 k a0 n) a0 v4 v10 = some o7 ∧ st' = ⟨[(3, .vec 1003 7 0 v10.length), (8, .p (.list (.named 7)) a0), (9, .p I6 ((a0.length : Int) : Int)), (10, .p I6 v4)], [(1003, .row 77 (.named 7) v10 false)]⟩) ?_ ?_
    ·refine wb_ ?_
     refine sq_ ?_
     obtain ⟨v12, hv12, h⟩ := bind_some h
     refine rg4 (st1 := ⟨[(3, .vec 1003 7 0 v3.length), (5, .loc 5 0), (8, .p (.list (.named 7)) a0), (9, .p I6 ((a0.length : Int) : Int)), (10, .p I6 v4)], [(5, .box [.p I6 v12.fK, .p .str v12.fO.fN, .p .str v12.fO.fC, .p I6 v12.fO.fT, .p .str v12.fW.fN, .p .str v12.fW.fC, .p I6 v12.fW.fT]), (1003, .row 77 (.named 7) v3 false)]⟩) [3, 5, 8, 9, 10] [5, 1003] hN (.cons (u33_ (rs := [(8, .p (.list (.named 7)) a0), (10, .p I6 v4)]) rfl rfl sl_66 o0 o1 hv12) (.cons (u42_ (rs := [(12, .pp (.named 7) v12)]) rfl rfl ty_77 o0) (.cons (u18_ (rs := []) (d := 5) (us := [.p I6 (0 : Int), .p .str ([] : List UInt8), .p .str ([] : List UInt8), .p I6 (0 : Int), .p .str ([] : List UInt8), .p .str ([] : List UInt8), .p I6 (0 : Int)]) (v := (.agg #[.int .i64 0, .string ByteArray.empty, .string ByteArray.empty, .int .i64 0, .string ByteArray.empty, .string ByteArray.empty, .int .i64 0])) rfl rfl rfl (by kernel_rfl) rfl (.data (fun _ _ _ => .int _ _) (.data (fun _ _ _ => rd_str0) (.data (fun _ _ _ => rd_str0) (.data (fun _ _ _ => .int _ _) (.data (fun _ _ _ => rd_str0) (.data (fun _ _ _ => rd_str0) (.data (fun _ _ _ => .int _ _) .nil))))))) (by kernel_rfl)) (.cons (u54_ (rs := [(5, .loc 5 0), (13, .p (.named 7) v12)]) (v := .p (.named 7) v12) (mid' := [.p I6 v12.fK, .p .str v12.fO.fN, .p .str v12.fO.fC, .p I6 v12.fO.fT, .p .str v12.fW.fN, .p .str v12.fW.fC, .p I6 v12.fW.fT]) [] [.p I6 (0 : Int), .p .str ([] : List UInt8), .p .str ([] : List UInt8), .p I6 (0 : Int), .p .str ([] : List UInt8), .p .str ([] : List UInt8), .p I6 (0 : Int)] [] rfl rfl rfl ty_77 o0 o1 (.data (.named (us := ([.p I6 v12.fK, .p .str v12.fO.fN, .p .str v12.fO.fC, .p I6 v12.fO.fT, .p .str v12.fW.fN, .p .str v12.fW.fC, .p I6 v12.fW.fT] : List (AVal Un))) (.pair (.one _ _) (.pair (.named (us := ([.p .str v12.fO.fN, .p .str v12.fO.fC, .p I6 v12.fO.fT] : List (AVal Un))) (.pair (.one _ _) (.pair (.one _ _) (.pair (.one _ _) .unit)))) (.pair (.named (us := ([.p .str v12.fW.fN, .p .str v12.fW.fC, .p I6 v12.fW.fT] : List (AVal Un))) (.pair (.one _ _) (.pair (.one _ _) (.pair (.one _ _) .unit)))) .unit))))) rfl rfl rfl rfl rfl rfl) .nil)))) (by kernel_rfl) ?_
     refine tnS ?_
     refine rg4 (st1 := ⟨[(3, .vec 1003 7 0 v3.length), (5, .loc 5 0), (6, .p I6 v12.fK), (8, .p (.list (.named 7)) a0), (9, .p I6 ((a0.length : Int) : Int)), (10, .p I6 v4)], [(5, .box [.p I6 v12.fK, .p .str v12.fO.fN, .p .str v12.fO.fC, .p I6 v12.fO.fT, .p .str v12.fW.fN, .p .str v12.fW.fC, .p I6 v12.fW.fT]), (1003, .row 77 (.named 7) v3 false)]⟩) [3, 5, 6, 8, 9, 10] [5, 1003] hN (.cons (fdB (rs := [(5, .loc 5 0)]) rfl rfl fd_77_0 (by decide) o0) (.cons (ldB (t := .int .i64) (rs := [(14, .loc 5 0)]) [] [.p I6 v12.fK] [.p .str v12.fO.fN, .p .str v12.fO.fC, .p I6 v12.fO.fT, .p .str v12.fW.fN, .p .str v12.fW.fC, .p I6 v12.fW.fT] (v := .p I6 v12.fK) rfl rfl ty_3 o0 rfl rfl rfl rfl (.data (.one _ _))) (.cons (mvA (v := .p I6 v12.fK) rfl rfl) .nil))) (by kernel_rfl) ?_
     refine tnU ?_
     refine sqJ (fun st' => ∃ v13 : Int, R41_Back.j30 k (R41_Back.l5 k a0 n) a0 v3 v4 v12 v13 = some o7 ∧ st' = ⟨[(3, .vec 1003 7 0 v3.length), (5, .loc 5 0), (6, .p I6 v13), (8, .p (.list (.named 7)) a0), (9, .p I6 ((a0.length : Int) : Int)), (10, .p I6 v4)], [(5, .box [.p I6 v12.fK, .p .str v12.fO.fN, .p .str v12.fO.fC, .p I6 v12.fO.fT, .p .str v12.fW.fN, .p .str v12.fW.fC, .p I6 v12.fW.fT]), (1003, .row 77 (.named 7) v3 false)]⟩) ?_ ?_
     ·refine sq_ ?_
      refine rg4 (st1 := ⟨[(3, .vec 1003 7 0 v3.length), (5, .loc 5 0), (6, .p I6 v12.fK), (8, .p (.list (.named 7)) a0), (9, .p I6 ((a0.length : Int) : Int)), (10, .p I6 v4), (18, .p .bool ((v12.fK == 1) : Bool))], [(5, .box [.p I6 v12.fK, .p .str v12.fO.fN, .p .str v12.fO.fC, .p I6 v12.fO.fT, .p .str v12.fW.fN, .p .str v12.fW.fC, .p I6 v12.fW.fT]), (1003, .row 77 (.named 7) v3 false)]⟩) [3, 5, 6, 8, 9, 10, 18] [5, 1003] hN (.cons (fdB (rs := [(5, .loc 5 0)]) rfl rfl fd_77_0 (by decide) o0) (.cons (ldB (t := .int .i64) (rs := [(16, .loc 5 0)]) [] [.p I6 v12.fK] [.p .str v12.fO.fN, .p .str v12.fO.fC, .p I6 v12.fO.fT, .p .str v12.fW.fN, .p .str v12.fW.fC, .p I6 v12.fW.fT] (v := .p I6 v12.fK) rfl rfl ty_3 o0 rfl rfl rfl rfl (.data (.one _ _))) (.cons (cmU (rs := [(17, .p I6 v12.fK)]) rfl rfl o0 (.int _ _ _) rfl) .nil))) (by kernel_rfl) ?_
      refine tnU ?_
      refine cdU (b := (v12.fK == 1)) (.tmp m6_) (fun hc31 => ?_) (fun hc31 => ?_)
      ·replace h := ite_t hc31 h
       refine rg4 (st1 := ⟨[(3, .vec 1003 7 0 v3.length), (5, .loc 5 0), (6, .p I6 (3 : Int)), (8, .p (.list (.named 7)) a0), (9, .p I6 ((a0.length : Int) : Int)), (10, .p I6 v4)], [(5, .box [.p I6 v12.fK, .p .str v12.fO.fN, .p .str v12.fO.fC, .p I6 v12.fO.fT, .p .str v12.fW.fN, .p .str v12.fW.fC, .p I6 v12.fW.fT]), (1003, .row 77 (.named 7) v3 false)]⟩) [3, 5, 6, 8, 9, 10] [5, 1003] hN (.cons (moU (rs := []) rfl (.inr rfl) (.int _ _ _)) .nil) (by kernel_rfl) ?_
       refine tnU ?_
       exact ⟨3, h, rfl⟩
      ·replace h := ite_f hc31 h
       refine wc_ (cvK (b := ⟨[(3, .vec 1003 7 0 v3.length), (5, .loc 5 0), (6, .p I6 v12.fK), (8, .p (.list (.named 7)) a0), (9, .p I6 ((a0.length : Int) : Int)), (10, .p I6 v4)], [(5, .box [.p I6 v12.fK, .p .str v12.fO.fN, .p .str v12.fO.fC, .p I6 v12.fO.fT, .p .str v12.fW.fN, .p .str v12.fW.fC, .p I6 v12.fW.fT]), (1003, .row 77 (.named 7) v3 false)]⟩) [3, 5, 6, 8, 9, 10] [5, 1003] (by kernel_rfl)) (ws_ ?_)
       refine tnU ?_
       exact ⟨v12.fK, h, rfl⟩
     ·rintro _ ⟨v13, h, rfl⟩
      unfold R41_Back.j30 at h
      refine sqJ (fun st' => ∃ v14 : Int, R41_Back.j28 k (R41_Back.l5 k a0 n) a0 v3 v4 v12 v14 = some o7 ∧ st' = ⟨[(3, .vec 1003 7 0 v3.length), (5, .loc 5 0), (6, .p I6 v14), (8, .p (.list (.named 7)) a0), (9, .p I6 ((a0.length : Int) : Int)), (10, .p I6 v4)], [(5, .box [.p I6 v12.fK, .p .str v12.fO.fN, .p .str v12.fO.fC, .p I6 v12.fO.fT, .p .str v12.fW.fN, .p .str v12.fW.fC, .p I6 v12.fW.fT]), (1003, .row 77 (.named 7) v3 false)]⟩) ?_ ?_
      ·refine sq_ ?_
       refine rg4 (st1 := ⟨[(3, .vec 1003 7 0 v3.length), (5, .loc 5 0), (6, .p I6 v13), (8, .p (.list (.named 7)) a0), (9, .p I6 ((a0.length : Int) : Int)), (10, .p I6 v4), (21, .p .bool ((v12.fK == 3) : Bool))], [(5, .box [.p I6 v12.fK, .p .str v12.fO.fN, .p .str v12.fO.fC, .p I6 v12.fO.fT, .p .str v12.fW.fN, .p .str v12.fW.fC, .p I6 v12.fW.fT]), (1003, .row 77 (.named 7) v3 false)]⟩) [3, 5, 6, 8, 9, 10, 21] [5, 1003] hN (.cons (fdB (rs := [(5, .loc 5 0)]) rfl rfl fd_77_0 (by decide) o0) (.cons (ldB (t := .int .i64) (rs := [(19, .loc 5 0)]) [] [.p I6 v12.fK] [.p .str v12.fO.fN, .p .str v12.fO.fC, .p I6 v12.fO.fT, .p .str v12.fW.fN, .p .str v12.fW.fC, .p I6 v12.fW.fT] (v := .p I6 v12.fK) rfl rfl ty_3 o0 rfl rfl rfl rfl (.data (.one _ _))) (.cons (cmU (rs := [(20, .p I6 v12.fK)]) rfl rfl o0 (.int _ _ _) rfl) .nil))) (by kernel_rfl) ?_
       refine tnU ?_
       refine cdU (b := (v12.fK == 3)) (.tmp m6_) (fun hc29 => ?_) (fun hc29 => ?_)
       ·replace h := ite_t hc29 h
        refine rg4 (st1 := ⟨[(3, .vec 1003 7 0 v3.length), (5, .loc 5 0), (6, .p I6 (1 : Int)), (8, .p (.list (.named 7)) a0), (9, .p I6 ((a0.length : Int) : Int)), (10, .p I6 v4)], [(5, .box [.p I6 v12.fK, .p .str v12.fO.fN, .p .str v12.fO.fC, .p I6 v12.fO.fT, .p .str v12.fW.fN, .p .str v12.fW.fC, .p I6 v12.fW.fT]), (1003, .row 77 (.named 7) v3 false)]⟩) [3, 5, 6, 8, 9, 10] [5, 1003] hN (.cons (moU (rs := []) rfl (.inr rfl) (.int _ _ _)) .nil) (by kernel_rfl) ?_
        refine tnU ?_
        exact ⟨1, h, rfl⟩
       ·replace h := ite_f hc29 h
        refine wc_ (cvK (b := ⟨[(3, .vec 1003 7 0 v3.length), (5, .loc 5 0), (6, .p I6 v13), (8, .p (.list (.named 7)) a0), (9, .p I6 ((a0.length : Int) : Int)), (10, .p I6 v4)], [(5, .box [.p I6 v12.fK, .p .str v12.fO.fN, .p .str v12.fO.fC, .p I6 v12.fO.fT, .p .str v12.fW.fN, .p .str v12.fW.fC, .p I6 v12.fW.fT]), (1003, .row 77 (.named 7) v3 false)]⟩) [3, 5, 6, 8, 9, 10] [5, 1003] (by kernel_rfl)) (ws_ ?_)
        refine tnU ?_
        exact ⟨v13, h, rfl⟩
      ·rintro _ ⟨v14, h, rfl⟩
       unfold R41_Back.j28 at h
       refine sqJ (fun st' => ∃ v15 : Int, ∃ v16 : List UInt8, ∃ v17 : List UInt8, ∃ v18 : Int, ∃ v19 : List UInt8, ∃ v20 : List UInt8, ∃ v21 : Int, R41_Back.j23 k (R41_Back.l5 k a0 n) a0 v3 v4 v15 v16 v17 v18 v19 v20 v21 = some o7 ∧ st' = ⟨[(3, .vec 1003 7 0 v3.length), (5, .loc 5 0), (8, .p (.list (.named 7)) a0), (9, .p I6 ((a0.length : Int) : Int)), (10, .p I6 v4)], [(5, .box [.p I6 v15, .p .str v16, .p .str v17, .p I6 v18, .p .str v19, .p .str v20, .p I6 v21]), (1003, .row 77 (.named 7) v3 false)]⟩) ?_ ?_
       ·refine sqJ (fun st' => ∃ v24 : Bool, R41_Back.j26 k (R41_Back.l5 k a0 n) a0 v3 v4 v12 v14 v24 = some o7 ∧ st' = ⟨[(3, .vec 1003 7 0 v3.length), (5, .loc 5 0), (6, .p I6 v14), (8, .p (.list (.named 7)) a0), (9, .p I6 ((a0.length : Int) : Int)), (10, .p I6 v4), (29, .p .bool v24)], [(5, .box [.p I6 v12.fK, .p .str v12.fO.fN, .p .str v12.fO.fC, .p I6 v12.fO.fT, .p .str v12.fW.fN, .p .str v12.fW.fC, .p I6 v12.fW.fT]), (1003, .row 77 (.named 7) v3 false)]⟩) ?_ ?_
        ·rcases bool_cases (decide (v12.fK ≥ 1)) with hc27 | hc27
         ·replace h := ite_t hc27 h
          refine rg4 (st1 := ⟨[(3, .vec 1003 7 0 v3.length), (5, .loc 5 0), (6, .p I6 v14), (8, .p (.list (.named 7)) a0), (9, .p I6 ((a0.length : Int) : Int)), (10, .p I6 v4), (29, .p .bool ((decide (v12.fK ≤ 3)) : Bool))], [(5, .box [.p I6 v12.fK, .p .str v12.fO.fN, .p .str v12.fO.fC, .p I6 v12.fO.fT, .p .str v12.fW.fN, .p .str v12.fW.fC, .p I6 v12.fW.fT]), (1003, .row 77 (.named 7) v3 false)]⟩) [3, 5, 6, 8, 9, 10, 29] [5, 1003] hN (.cons (fdB (rs := [(5, .loc 5 0)]) rfl rfl fd_77_0 (by decide) o0) (.cons (ldB (t := .int .i64) (rs := [(22, .loc 5 0)]) [] [.p I6 v12.fK] [.p .str v12.fO.fN, .p .str v12.fO.fC, .p I6 v12.fO.fT, .p .str v12.fW.fN, .p .str v12.fW.fC, .p I6 v12.fW.fT] (v := .p I6 v12.fK) rfl rfl ty_3 o0 rfl rfl rfl rfl (.data (.one _ _))) (.cons (cmU (rs := [(23, .p I6 v12.fK)]) rfl rfl o0 (.int _ _ _) rfl) (.cons (mvU (v := .p .bool ((decide (v12.fK ≥ 1)) : Bool)) rfl rfl) (.cons (sok_run rfl rfl hc27 (fdB (rs := [(5, .loc 5 0)]) rfl rfl fd_77_0 (by decide) o0)) (.cons (sok_run rfl rfl hc27 (ldB (t := .int .i64) (rs := [(26, .loc 5 0)]) [] [.p I6 v12.fK] [.p .str v12.fO.fN, .p .str v12.fO.fC, .p I6 v12.fO.fT, .p .str v12.fW.fN, .p .str v12.fW.fC, .p I6 v12.fW.fT] (v := .p I6 v12.fK) rfl rfl ty_3 o0 rfl rfl rfl rfl (.data (.one _ _)))) (.cons (sok_run rfl rfl hc27 (cmU (rs := [(27, .p I6 v12.fK)]) rfl rfl o0 (.int _ _ _) rfl)) (.cons (pkT (rs := [(25, .p .bool ((decide (v12.fK ≥ 1)) : Bool)), (28, .p .bool ((decide (v12.fK ≤ 3)) : Bool))]) rfl rfl o0 hc27 o1) .nil)))))))) (by kernel_rfl) ?_
          refine tnU ?_
          exact ⟨(decide (v12.fK ≤ 3)), h, rfl⟩
         ·replace h := ite_f hc27 h
          refine rg4 (st1 := ⟨[(3, .vec 1003 7 0 v3.length), (5, .loc 5 0), (6, .p I6 v14), (8, .p (.list (.named 7)) a0), (9, .p I6 ((a0.length : Int) : Int)), (10, .p I6 v4), (29, .p .bool false)], [(5, .box [.p I6 v12.fK, .p .str v12.fO.fN, .p .str v12.fO.fC, .p I6 v12.fO.fT, .p .str v12.fW.fN, .p .str v12.fW.fC, .p I6 v12.fW.fT]), (1003, .row 77 (.named 7) v3 false)]⟩) [3, 5, 6, 8, 9, 10, 29] [5, 1003] hN (.cons (fdB (rs := [(5, .loc 5 0)]) rfl rfl fd_77_0 (by decide) o0) (.cons (ldB (t := .int .i64) (rs := [(22, .loc 5 0)]) [] [.p I6 v12.fK] [.p .str v12.fO.fN, .p .str v12.fO.fC, .p I6 v12.fO.fT, .p .str v12.fW.fN, .p .str v12.fW.fC, .p I6 v12.fW.fT] (v := .p I6 v12.fK) rfl rfl ty_3 o0 rfl rfl rfl rfl (.data (.one _ _))) (.cons (cmU (rs := [(23, .p I6 v12.fK)]) rfl rfl o0 (.int _ _ _) rfl) (.cons (mvU (v := .p .bool ((decide (v12.fK ≥ 1)) : Bool)) rfl rfl) (.cons (skU rfl rfl hc27) (.cons (skU rfl rfl hc27) (.cons (skU rfl rfl hc27) (.cons (pkF (rs := [(25, .p .bool ((decide (v12.fK ≥ 1)) : Bool))]) rfl rfl o0 hc27 (.bool _ _)) .nil)))))))) (by kernel_rfl) ?_
          refine tnU ?_
          exact ⟨false, h, rfl⟩
        ·rintro _ ⟨v24, h, rfl⟩
         unfold R41_Back.j26 at h
         refine cdU (b := v24) (.tmp m6_) (fun hc25 => ?_) (fun hc25 => ?_)
         ·replace h := ite_t hc25 h
          refine rg4 (st1 := ⟨[(3, .vec 1003 7 0 v3.length), (5, .loc 5 0), (8, .p (.list (.named 7)) a0), (9, .p I6 ((a0.length : Int) : Int)), (10, .p I6 v4)], [(5, .box [.p I6 v14, .p .str v12.fW.fN, .p .str v12.fW.fC, .p I6 v12.fW.fT, .p .str v12.fO.fN, .p .str v12.fO.fC, .p I6 v12.fO.fT]), (1003, .row 77 (.named 7) v3 false)]⟩) [3, 5, 8, 9, 10] [5, 1003] hN (.cons (mvU (v := .p I6 v14) rfl rfl) (.cons (fdB (rs := [(5, .loc 5 0)]) rfl rfl fd_77_2 (by decide) o0) (.cons (ldB (t := .named 3) (rs := [(31, .loc 5 4)]) [.p I6 v12.fK, .p .str v12.fO.fN, .p .str v12.fO.fC, .p I6 v12.fO.fT] [.p .str v12.fW.fN, .p .str v12.fW.fC, .p I6 v12.fW.fT] [] (v := .p (.named 3) ((TF.mk v12.fW.fN v12.fW.fC v12.fW.fT) : TF)) rfl rfl ty_50 o0 rfl rfl rfl rfl (.data (.named (us := ([.p .str v12.fW.fN, .p .str v12.fW.fC, .p I6 v12.fW.fT] : List (AVal Un))) (.pair (.one _ _) (.pair (.one _ _) (.pair (.one _ _) .unit)))))) (.cons (fdB (rs := [(5, .loc 5 0)]) rfl rfl fd_77_1 (by decide) o0) (.cons (ldB (t := .named 3) (rs := [(33, .loc 5 1)]) [.p I6 v12.fK] [.p .str v12.fO.fN, .p .str v12.fO.fC, .p I6 v12.fO.fT] [.p .str v12.fW.fN, .p .str v12.fW.fC, .p I6 v12.fW.fT] (v := .p (.named 3) ((TF.mk v12.fO.fN v12.fO.fC v12.fO.fT) : TF)) rfl rfl ty_50 o0 rfl rfl rfl rfl (.data (.named (us := ([.p .str v12.fO.fN, .p .str v12.fO.fC, .p I6 v12.fO.fT] : List (AVal Un))) (.pair (.one _ _) (.pair (.one _ _) (.pair (.one _ _) .unit)))))) (.cons (u23_ (t := .named 7) (rs := [(30, .p I6 v14), (32, .p (.named 3) ((TF.mk v12.fW.fN v12.fW.fC v12.fW.fT) : TF)), (34, .p (.named 3) ((TF.mk v12.fO.fN v12.fO.fC v12.fO.fT) : TF))]) (us0 := [.p I6 (0 : Int), .p .str ([] : List UInt8), .p .str ([] : List UInt8), .p I6 (0 : Int), .p .str ([] : List UInt8), .p .str ([] : List UInt8), .p I6 (0 : Int)]) (us := [.p I6 v14, .p .str v12.fW.fN, .p .str v12.fW.fC, .p I6 v12.fW.fT, .p .str v12.fO.fN, .p .str v12.fO.fC, .p I6 v12.fO.fT]) (v := .p (.named 7) ((TR41C.mk v14 (TF.mk v12.fW.fN v12.fW.fC v12.fW.fT) (TF.mk v12.fO.fN v12.fO.fC v12.fO.fT)) : TR41C)) rfl rfl lays_77 (.data (fun _ _ _ => .int _ _) (.data (fun _ _ _ => rd_str0) (.data (fun _ _ _ => rd_str0) (.data (fun _ _ _ => .int _ _) (.data (fun _ _ _ => rd_str0) (.data (fun _ _ _ => rd_str0) (.data (fun _ _ _ => .int _ _) .nil))))))) (Filled.cons (U := Un) (i := 0) (v := .p I6 v14) [] [.p I6 (0 : Int)] [.p I6 v14] [.p .str ([] : List UInt8), .p .str ([] : List UInt8), .p I6 (0 : Int), .p .str ([] : List UInt8), .p .str ([] : List UInt8), .p I6 (0 : Int)] o0 (.data (.one _ _)) rfl rfl rfl rfl rfl rfl (Filled.cons (U := Un) (i := 1) (v := .p (.named 3) ((TF.mk v12.fW.fN v12.fW.fC v12.fW.fT) : TF)) [.p I6 v14] [.p .str ([] : List UInt8), .p .str ([] : List UInt8), .p I6 (0 : Int)] [.p .str v12.fW.fN, .p .str v12.fW.fC, .p I6 v12.fW.fT] [.p .str ([] : List UInt8), .p .str ([] : List UInt8), .p I6 (0 : Int)] o1 (.data (.named (us := ([.p .str v12.fW.fN, .p .str v12.fW.fC, .p I6 v12.fW.fT] : List (AVal Un))) (.pair (.one _ _) (.pair (.one _ _) (.pair (.one _ _) .unit))))) rfl rfl rfl rfl rfl rfl (Filled.cons (U := Un) (i := 2) (v := .p (.named 3) ((TF.mk v12.fO.fN v12.fO.fC v12.fO.fT) : TF)) [.p I6 v14, .p .str v12.fW.fN, .p .str v12.fW.fC, .p I6 v12.fW.fT] [.p .str ([] : List UInt8), .p .str ([] : List UInt8), .p I6 (0 : Int)] [.p .str v12.fO.fN, .p .str v12.fO.fC, .p I6 v12.fO.fT] [] (.tmp m2_) (.data (.named (us := ([.p .str v12.fO.fN, .p .str v12.fO.fC, .p I6 v12.fO.fT] : List (AVal Un))) (.pair (.one _ _) (.pair (.one _ _) (.pair (.one _ _) .unit))))) rfl rfl rfl rfl rfl rfl (.nil _)))) rfl (.data (.named (us := ([.p I6 v14, .p .str v12.fW.fN, .p .str v12.fW.fC, .p I6 v12.fW.fT, .p .str v12.fO.fN, .p .str v12.fO.fC, .p I6 v12.fO.fT] : List (AVal Un))) (.pair (.one _ _) (.pair (.named (us := ([.p .str v12.fW.fN, .p .str v12.fW.fC, .p I6 v12.fW.fT] : List (AVal Un))) (.pair (.one _ _) (.pair (.one _ _) (.pair (.one _ _) .unit)))) (.pair (.named (us := ([.p .str v12.fO.fN, .p .str v12.fO.fC, .p I6 v12.fO.fT] : List (AVal Un))) (.pair (.one _ _) (.pair (.one _ _) (.pair (.one _ _) .unit)))) .unit)))))) (.cons (u54_ (rs := [(5, .loc 5 0), (35, .p (.named 7) ((TR41C.mk v14 (TF.mk v12.fW.fN v12.fW.fC v12.fW.fT) (TF.mk v12.fO.fN v12.fO.fC v12.fO.fT)) : TR41C))]) (v := .p (.named 7) ((TR41C.mk v14 (TF.mk v12.fW.fN v12.fW.fC v12.fW.fT) (TF.mk v12.fO.fN v12.fO.fC v12.fO.fT)) : TR41C)) (mid' := [.p I6 v14, .p .str v12.fW.fN, .p .str v12.fW.fC, .p I6 v12.fW.fT, .p .str v12.fO.fN, .p .str v12.fO.fC, .p I6 v12.fO.fT]) [] [.p I6 v12.fK, .p .str v12.fO.fN, .p .str v12.fO.fC, .p I6 v12.fO.fT, .p .str v12.fW.fN, .p .str v12.fW.fC, .p I6 v12.fW.fT] [] rfl rfl rfl ty_77 o0 o1 (.data (.named (us := ([.p I6 v14, .p .str v12.fW.fN, .p .str v12.fW.fC, .p I6 v12.fW.fT, .p .str v12.fO.fN, .p .str v12.fO.fC, .p I6 v12.fO.fT] : List (AVal Un))) (.pair (.one _ _) (.pair (.named (us := ([.p .str v12.fW.fN, .p .str v12.fW.fC, .p I6 v12.fW.fT] : List (AVal Un))) (.pair (.one _ _) (.pair (.one _ _) (.pair (.one _ _) .unit)))) (.pair (.named (us := ([.p .str v12.fO.fN, .p .str v12.fO.fC, .p I6 v12.fO.fT] : List (AVal Un))) (.pair (.one _ _) (.pair (.one _ _) (.pair (.one _ _) .unit)))) .unit))))) rfl rfl rfl rfl rfl rfl) .nil))))))) (by kernel_rfl) ?_
          refine tnU ?_
          exact ⟨v14, v12.fW.fN, v12.fW.fC, v12.fW.fT, v12.fO.fN, v12.fO.fC, v12.fO.fT, h, rfl⟩
         ·replace h := ite_f hc25 h
          refine wc_ (cvK (b := ⟨[(3, .vec 1003 7 0 v3.length), (5, .loc 5 0), (8, .p (.list (.named 7)) a0), (9, .p I6 ((a0.length : Int) : Int)), (10, .p I6 v4)], [(5, .box [.p I6 v12.fK, .p .str v12.fO.fN, .p .str v12.fO.fC, .p I6 v12.fO.fT, .p .str v12.fW.fN, .p .str v12.fW.fC, .p I6 v12.fW.fT]), (1003, .row 77 (.named 7) v3 false)]⟩) [3, 5, 8, 9, 10] [5, 1003] (by kernel_rfl)) (ws_ ?_)
          refine tnU ?_
          exact ⟨v12.fK, v12.fO.fN, v12.fO.fC, v12.fO.fT, v12.fW.fN, v12.fW.fC, v12.fW.fT, h, rfl⟩
       ·rintro _ ⟨v15, v16, v17, v18, v19, v20, v21, h, rfl⟩
        unfold R41_Back.j23 at h
        obtain ⟨g22, h⟩ := if_some h
        refine rg3 (st1 := ⟨[(3, .vec 39 7 0 ((v3 ++ [(TR41C.mk v15 (TF.mk v16 v17 v18) (TF.mk v19 v20 v21))]).length)), (8, .p (.list (.named 7)) a0), (9, .p I6 ((a0.length : Int) : Int)), (10, .p I6 v4)], [(39, .row 77 (.named 7) (v3 ++ [(TR41C.mk v15 (TF.mk v16 v17 v18) (TF.mk v19 v20 v21))]) false)]⟩) [3, 8, 9, 10] [39] hN (.cons (mvU (v := .vec 1003 7 0 v3.length) rfl rfl) (.cons (ldB (t := .named 7) (rs := [(5, .loc 5 0)]) [] [.p I6 v15, .p .str v16, .p .str v17, .p I6 v18, .p .str v19, .p .str v20, .p I6 v21] [] (v := .p (.named 7) ((TR41C.mk v15 (TF.mk v16 v17 v18) (TF.mk v19 v20 v21)) : TR41C)) rfl rfl ty_77 o0 rfl rfl rfl rfl (.data (.named (us := ([.p I6 v15, .p .str v16, .p .str v17, .p I6 v18, .p .str v19, .p .str v20, .p I6 v21] : List (AVal Un))) (.pair (.one _ _) (.pair (.named (us := ([.p .str v16, .p .str v17, .p I6 v18] : List (AVal Un))) (.pair (.one _ _) (.pair (.one _ _) (.pair (.one _ _) .unit)))) (.pair (.named (us := ([.p .str v19, .p .str v20, .p I6 v21] : List (AVal Un))) (.pair (.one _ _) (.pair (.one _ _) (.pair (.one _ _) .unit)))) .unit)))))) (.cons (u24_ (t := .named 7) (rs := [(37, .p (.named 7) ((TR41C.mk v15 (TF.mk v16 v17 v18) (TF.mk v19 v20 v21)) : TR41C))]) (ys := [.tmp 37]) (xs := [(TR41C.mk v15 (TF.mk v16 v17 v18) (TF.mk v19 v20 v21))]) rfl rfl rfl rfl row_66 (.cons o0 .nil) (by decide)) (.cons (u19_ (t := .named 7) (rs := [(36, .vec 1003 7 0 v3.length), (38, .vec 38 7 0 ([(TR41C.mk v15 (TF.mk v16 v17 v18) (TF.mk v19 v20 v21))].length))]) (vw := [(38, .row 77 (.named 7) [(TR41C.mk v15 (TF.mk v16 v17 v18) (TF.mk v19 v20 v21))] true)]) (xs := v3) (ys := [(TR41C.mk v15 (TF.mk v16 v17 v18) (TF.mk v19 v20 v21))]) (fx := false) rfl rfl rfl row_66 (by decide) o0 o1 (.whole (.head _)) (by simp) g22) (.cons (mvA (v := .vec 39 7 0 ((v3 ++ [(TR41C.mk v15 (TF.mk v16 v17 v18) (TF.mk v19 v20 v21))]).length)) rfl rfl) .nil))))) (by kernel_rfl) (cvT (u12_ (st' := ⟨[(3, .vec 1003 7 0 ((v3 ++ [(TR41C.mk v15 (TF.mk v16 v17 v18) (TF.mk v19 v20 v21))]).length)), (8, .p (.list (.named 7)) a0), (9, .p I6 ((a0.length : Int) : Int)), (10, .p I6 v4)], [(1003, .row 77 (.named 7) (v3 ++ [(TR41C.mk v15 (TF.mk v16 v17 v18) (TF.mk v19 v20 v21))]) false)]⟩) 39 1003 (by unfold K0; omega) (by kernel_rfl) (by kernel_rfl) (by kernel_rfl)) (cvK (b := ⟨[(3, .vec 1003 7 0 ((v3 ++ [(TR41C.mk v15 (TF.mk v16 v17 v18) (TF.mk v19 v20 v21))]).length)), (8, .p (.list (.named 7)) a0), (9, .p I6 ((a0.length : Int) : Int)), (10, .p I6 v4)], [(1003, .row 77 (.named 7) (v3 ++ [(TR41C.mk v15 (TF.mk v16 v17 v18) (TF.mk v19 v20 v21))]) false)]⟩) [3, 8, 9, 10] [1003] (by kernel_rfl))) ?_
        refine bn_ ?_
        refine tnU ?_
        exact ⟨(v3 ++ [(TR41C.mk v15 (TF.mk v16 v17 v18) (TF.mk v19 v20 v21))]), h, rfl⟩
    ·rintro _ ⟨v10, h, rfl⟩
     unfold R41_Back.j11 at h
     refine rg4 (st1 := ⟨[(3, .vec 1003 7 0 v10.length), (8, .p (.list (.named 7)) a0), (9, .p I6 ((a0.length : Int) : Int)), (10, .p I6 ((IntKind.i64.wrap (v4 + 1)) : Int))], [(1003, .row 77 (.named 7) v10 false)]⟩) [3, 8, 9, 10] [1003] hN (.cons (u21_ (rs := [(10, .p I6 v4)]) rfl rfl o0 (.int _ _ _) rfl) (.cons (mvU (v := .p I6 ((IntKind.i64.wrap (v4 + 1)) : Int)) rfl rfl) .nil)) (by kernel_rfl) ?_
     refine tnU ?_
     exact ⟨n, Nat.lt_succ_self n, v10, (IntKind.i64.wrap (v4 + 1)), h, rfl⟩
   ·replace h := ite_f hc9 h
    refine wc_ (cvK (b := ⟨[(3, .vec 1003 7 0 v3.length)], [(1003, .row 77 (.named 7) v3 false)]⟩) [3] [1003] (by kernel_rfl)) (we_ ?_)
    refine te_ ?_
    have hq := Option.some.inj h
    subst hq
    refine te_ ?_
    have h := hout8
    refine blockQ_hit ?_
    refine tnU ?_
    exact ⟨v3, h, rfl⟩
 ·rintro _ ⟨v1, h, rfl⟩
  unfold R41_Back.j2 at h
  refine sq_ ?_
  refine rg4 (st1 := ⟨[(2, .vec 1003 7 0 v1.length)], [(1003, .row 77 (.named 7) v1 false)]⟩) [2] [1003] hN (.cons (mvU (v := .vec 1003 7 0 v1.length) rfl rfl) (.cons (mvA (v := .vec 1003 7 0 v1.length) rfl rfl) .nil)) (by kernel_rfl) ?_
  refine tnU ?_
  refine wc_ (cvT (u2_ 2 1003 77 _ (.named 7) v1 false (.head _) (by first | rfl | (simp only [upd_length, List.length_replicate, List.length_append]; done) | (simp only [upd_length, List.length_replicate, List.length_append] at *; omega) | omega) (.head _) (by first | (simp [Blk.names]; done) | (simp [Blk.names, AVal.namesL, AVal.names]; done) | (simp [Blk.names]; decide))) (cvK (b := ⟨[(2, .p (.list (.named 7)) v1)], []⟩) [2] [] (by kernel_rfl))) (wr_ ?_)
  have hq := Option.some.inj h
  subst hq
  exact ends_ret (retV_1 rfl (.head _)) ain_nil

theorem W41_same.ok (O : Out) (hO : GOk O) (k : Nat) (a0 : List TC) (a1 : List TR41C) (out : Bool) (h : W41_same.f k a0 a1 = some out) : COk Un O Tryd.prog 33 { ar := [.p (.list (.named 6)) a0, .p (.list (.named 7)) a1], r := .p .bool out } := by
 refine cok_of_wp Tryd.func33 rfl (k := 27) rfl (Nat.le_of_ble_eq_true rfl) (namesOk_pure rfl rfl rfl rfl) ?_
 intro B hN
 refine ckS (b := ⟨[(0, .p (.list (.named 6)) a0), (1, .p (.list (.named 7)) a1)], []⟩) [0, 1] [] (by kernel_rfl) ?_
 unfold W41_same.f at h
 refine sq_ ?_
 refine rg4 (st1 := ⟨[(0, .p (.list (.named 6)) a0), (1, .p (.list (.named 7)) a1)], []⟩) [0, 1] [] hN (.cons (moU (rs := []) rfl (.inr rfl) (.bool _ _)) .nil) (by kernel_rfl) ?_
 refine tnS ?_
 refine sq_ ?_
 refine rg4 (st1 := ⟨[(0, .p (.list (.named 6)) a0), (1, .p (.list (.named 7)) a1), (11, .p .bool (((a0.length : Int) != (a1.length : Int)) : Bool))], []⟩) [0, 1, 11] [] hN (.cons (mvU (v := .p (.list (.named 6)) a0) rfl rfl) (.cons (u36_ (rs := [(7, .p (.list (.named 6)) a0)]) rfl rfl Tryd.underlying60 o0) (.cons (mvU (v := .p (.list (.named 7)) a1) rfl rfl) (.cons (u36_ (rs := [(9, .p (.list (.named 7)) a1)]) rfl rfl Tryd.underlying66 o0) (.cons (cmU (rs := [(8, .p I6 ((a0.length : Int) : Int)), (10, .p I6 ((a1.length : Int) : Int))]) rfl rfl o0 o1 rfl) .nil))))) (by kernel_rfl) ?_
 refine tnU ?_
 refine cdU (b := ((a0.length : Int) != (a1.length : Int))) (.tmp m2_) (fun hc1 => ?_) (fun hc1 => ?_)
 ·replace h := ite_t hc1 h
  refine sq_ ?_
  refine rg4 (st1 := ⟨[(4, .p .bool false)], []⟩) [4] [] hN (.cons (moU (rs := []) rfl (.inr rfl) (.bool _ _)) .nil) (by kernel_rfl) ?_
  refine tnU ?_
  refine wr_ ?_
  refine tr_ ?_
  have hq := Option.some.inj h
  subst hq
  exact ends_ret (retV_1 rfl (.head _)) ain_nil
 ·replace h := ite_f hc1 h
  refine wc_ (cvK (b := ⟨[(0, .p (.list (.named 6)) a0), (1, .p (.list (.named 7)) a1)], []⟩) [0, 1] [] (by kernel_rfl)) (ws_ ?_)
  refine tnU ?_
  refine sqJ (fun st' => W41_same.j2 k = some out ∧ st' = ⟨[], []⟩) ?_ ?_
  ·refine sq_ ?_
   obtain ⟨v3, hv3, h⟩ := bind_some h
   refine rg4 (st1 := ⟨[(1, .p (.list (.named 7)) a1), (13, .p (.list (.named 7)) v3), (14, .p I6 ((v3.length : Int) : Int)), (15, .p I6 (0 : Int))], []⟩) [1, 13, 14, 15] [] hN (.cons (mvU (v := .p (.list (.named 6)) a0) rfl rfl) (.cons (caV (rs := [(12, .p (.list (.named 6)) a0)]) (vw := []) rfl rfl (.func _) hb_35 (W41_of.ok O hO k a0 v3 hv3) (.cons o0 .nil) (.cons (.same _) .nil) (by simp) (.inl rfl)) (.cons (u36_ (rs := [(13, .p (.list (.named 7)) v3)]) rfl rfl Tryd.underlying66 o0) (.cons (moU (rs := []) rfl (.inl rfl) (.int _ _ _)) .nil)))) (by kernel_rfl) ?_
   refine tnU ?_
   refine wb_ ?_
   obtain ⟨o6, hlo6, h⟩ := bind_some h
   have hout7 := h
   clear h
   refine u14_ (fun n st' => ∃ v4 : Int, W41_same.l5 k a1 v3 n v4 = some o6 ∧ st' = ⟨[(1, .p (.list (.named 7)) a1), (13, .p (.list (.named 7)) v3), (14, .p I6 ((v3.length : Int) : Int)), (15, .p I6 v4)], []⟩) k ⟨0, hlo6, rfl⟩ ?_
   clear hlo6
   rintro (_ | n) _ ⟨v4, h, rfl⟩
   ·cases h
   ·rw [W41_same.l5] at h
    refine sq_ ?_
    refine rg4 (st1 := ⟨[(1, .p (.list (.named 7)) a1), (13, .p (.list (.named 7)) v3), (14, .p I6 ((v3.length : Int) : Int)), (15, .p I6 v4), (16, .p .bool ((decide (v4 < (v3.length : Int))) : Bool))], []⟩) [1, 13, 14, 15, 16] [] hN (.cons (cmU (rs := [(15, .p I6 v4), (14, .p I6 ((v3.length : Int) : Int))]) rfl rfl o0 o1 rfl) .nil) (by kernel_rfl) ?_
    refine tnS ?_
    refine cdU (b := (decide (v4 < (v3.length : Int)))) (.tmp m4_) (fun hc8 => ?_) (fun hc8 => ?_)
    ·replace h := ite_t hc8 h
     refine wc_ (cvK (b := ⟨[(1, .p (.list (.named 7)) a1), (13, .p (.list (.named 7)) v3), (14, .p I6 ((v3.length : Int) : Int)), (15, .p I6 v4)], []⟩) [1, 13, 14, 15] [] (by kernel_rfl)) (ws_ ?_)
     refine tnS ?_
     refine wb_ ?_
     refine sq_ ?_
     obtain ⟨v9, hv9, h⟩ := bind_some h
     refine rg4 (st1 := ⟨[(1, .p (.list (.named 7)) a1), (5, .p I6 v4), (6, .loc 6 0), (13, .p (.list (.named 7)) v3), (14, .p I6 ((v3.length : Int) : Int)), (15, .p I6 v4)], [(6, .box [.p I6 v9.fK, .p .str v9.fO.fN, .p .str v9.fO.fC, .p I6 v9.fO.fT, .p .str v9.fW.fN, .p .str v9.fW.fC, .p I6 v9.fW.fT])]⟩) [1, 5, 6, 13, 14, 15] [6] hN (.cons (mvU (v := .p I6 v4) rfl rfl) (.cons (u33_ (rs := [(13, .p (.list (.named 7)) v3), (15, .p I6 v4)]) rfl rfl sl_66 o0 o1 hv9) (.cons (u42_ (rs := [(18, .pp (.named 7) v9)]) rfl rfl ty_77 o0) (.cons (u18_ (rs := []) (d := 6) (us := [.p I6 (0 : Int), .p .str ([] : List UInt8), .p .str ([] : List UInt8), .p I6 (0 : Int), .p .str ([] : List UInt8), .p .str ([] : List UInt8), .p I6 (0 : Int)]) (v := (.agg #[.int .i64 0, .string ByteArray.empty, .string ByteArray.empty, .int .i64 0, .string ByteArray.empty, .string ByteArray.empty, .int .i64 0])) rfl rfl rfl (by kernel_rfl) rfl (.data (fun _ _ _ => .int _ _) (.data (fun _ _ _ => rd_str0) (.data (fun _ _ _ => rd_str0) (.data (fun _ _ _ => .int _ _) (.data (fun _ _ _ => rd_str0) (.data (fun _ _ _ => rd_str0) (.data (fun _ _ _ => .int _ _) .nil))))))) (by kernel_rfl)) (.cons (mvA (v := .p I6 v4) rfl rfl) (.cons (u54_ (rs := [(6, .loc 6 0), (19, .p (.named 7) v9)]) (v := .p (.named 7) v9) (mid' := [.p I6 v9.fK, .p .str v9.fO.fN, .p .str v9.fO.fC, .p I6 v9.fO.fT, .p .str v9.fW.fN, .p .str v9.fW.fC, .p I6 v9.fW.fT]) [] [.p I6 (0 : Int), .p .str ([] : List UInt8), .p .str ([] : List UInt8), .p I6 (0 : Int), .p .str ([] : List UInt8), .p .str ([] : List UInt8), .p I6 (0 : Int)] [] rfl rfl rfl ty_77 o0 o1 (.data (.named (us := ([.p I6 v9.fK, .p .str v9.fO.fN, .p .str v9.fO.fC, .p I6 v9.fO.fT, .p .str v9.fW.fN, .p .str v9.fW.fC, .p I6 v9.fW.fT] : List (AVal Un))) (.pair (.one _ _) (.pair (.named (us := ([.p .str v9.fO.fN, .p .str v9.fO.fC, .p I6 v9.fO.fT] : List (AVal Un))) (.pair (.one _ _) (.pair (.one _ _) (.pair (.one _ _) .unit)))) (.pair (.named (us := ([.p .str v9.fW.fN, .p .str v9.fW.fC, .p I6 v9.fW.fT] : List (AVal Un))) (.pair (.one _ _) (.pair (.one _ _) (.pair (.one _ _) .unit)))) .unit))))) rfl rfl rfl rfl rfl rfl) .nil)))))) (by kernel_rfl) ?_
     refine tnS ?_
     obtain ⟨v10, hv10, h⟩ := bind_some h
     refine u17_ (st1 := ⟨[(1, .p (.list (.named 7)) a1), (13, .p (.list (.named 7)) v3), (14, .p I6 ((v3.length : Int) : Int)), (15, .p I6 v4), (25, .p .bool ((!(v9.fK == v10.fK && ((v9.fO.fN == v10.fO.fN && (v9.fO.fC == v10.fO.fC && (v9.fO.fT == v10.fO.fT && true))) && ((v9.fW.fN == v10.fW.fN && (v9.fW.fC == v10.fW.fC && (v9.fW.fT == v10.fW.fT && true))) && true)))) : Bool))], []⟩) [1, 13, 14, 15, 25] [] [[], [], [], [1, 2], [1, 2, 3], [0, 1, 2, 3, 4]] mixed hN (.cons (ldB (t := .named 7) (rs := [(6, .loc 6 0)]) [] [.p I6 v9.fK, .p .str v9.fO.fN, .p .str v9.fO.fC, .p I6 v9.fO.fT, .p .str v9.fW.fN, .p .str v9.fW.fC, .p I6 v9.fW.fT] [] (v := .p (.named 7) ((TR41C.mk v9.fK (TF.mk v9.fO.fN v9.fO.fC v9.fO.fT) (TF.mk v9.fW.fN v9.fW.fC v9.fW.fT)) : TR41C)) rfl rfl ty_77 o0 rfl rfl rfl rfl (.data (.named (us := ([.p I6 v9.fK, .p .str v9.fO.fN, .p .str v9.fO.fC, .p I6 v9.fO.fT, .p .str v9.fW.fN, .p .str v9.fW.fC, .p I6 v9.fW.fT] : List (AVal Un))) (.pair (.one _ _) (.pair (.named (us := ([.p .str v9.fO.fN, .p .str v9.fO.fC, .p I6 v9.fO.fT] : List (AVal Un))) (.pair (.one _ _) (.pair (.one _ _) (.pair (.one _ _) .unit)))) (.pair (.named (us := ([.p .str v9.fW.fN, .p .str v9.fW.fC, .p I6 v9.fW.fT] : List (AVal Un))) (.pair (.one _ _) (.pair (.one _ _) (.pair (.one _ _) .unit)))) .unit)))))) (.cons (mvU (v := .p (.list (.named 7)) a1) rfl rfl) (.cons (mvU (v := .p I6 v4) rfl rfl) (.cons (u33_ (rs := [(21, .p (.list (.named 7)) a1), (22, .p I6 v4)]) rfl rfl sl_66 o0 o1 hv10) (.cons (u42_ (rs := [(23, .pp (.named 7) v10)]) rfl rfl ty_77 o0) (.cons (u48_ (rs := [(20, .p (.named 7) ((TR41C.mk v9.fK (TF.mk v9.fO.fN v9.fO.fC v9.fO.fT) (TF.mk v9.fW.fN v9.fW.fC v9.fW.fT)) : TR41C)), (24, .p (.named 7) v10)]) rfl rfl Tryd.underlying77 (by kernel_rfl) (eqg_77 _ Tryd.underlying77) (by kernel_rfl) o0 o1) .nil)))))) (by kernel_rfl) (by kernel_rfl) (by kernel_rfl) (by kernel_rfl) (by kernel_rfl) (cvR _) ?_
     refine tnU ?_
     refine cdU (b := (!(v9.fK == v10.fK && ((v9.fO.fN == v10.fO.fN && (v9.fO.fC == v10.fO.fC && (v9.fO.fT == v10.fO.fT && true))) && ((v9.fW.fN == v10.fW.fN && (v9.fW.fC == v10.fW.fC && (v9.fW.fT == v10.fW.fT && true))) && true))))) (.tmp m4_) (fun hc11 => ?_) (fun hc11 => ?_)
     ·replace h := ite_t hc11 h
      refine sq_ ?_
      refine rg4 (st1 := ⟨[(4, .p .bool false)], []⟩) [4] [] hN (.cons (moU (rs := []) rfl (.inr rfl) (.bool _ _)) .nil) (by kernel_rfl) ?_
      refine tnU ?_
      refine wr_ ?_
      refine blockQ_ret ?_
      refine tr_ ?_
      have hq := Option.some.inj h
      subst hq
      refine tr_ ?_
      have h := hout7
      refine blockQ_ret ?_
      refine tr_ ?_
      have hq := Option.some.inj h
      subst hq
      exact ends_ret (retV_1 rfl (.head _)) ain_nil
     ·replace h := ite_f hc11 h
      refine wc_ (cvK (b := ⟨[(1, .p (.list (.named 7)) a1), (13, .p (.list (.named 7)) v3), (14, .p I6 ((v3.length : Int) : Int)), (15, .p I6 v4)], []⟩) [1, 13, 14, 15] [] (by kernel_rfl)) (ws_ ?_)
      refine bn_ ?_
      refine tnU ?_
      refine rg4 (st1 := ⟨[(1, .p (.list (.named 7)) a1), (13, .p (.list (.named 7)) v3), (14, .p I6 ((v3.length : Int) : Int)), (15, .p I6 ((IntKind.i64.wrap (v4 + 1)) : Int))], []⟩) [1, 13, 14, 15] [] hN (.cons (u21_ (rs := [(15, .p I6 v4)]) rfl rfl o0 (.int _ _ _) rfl) (.cons (mvU (v := .p I6 ((IntKind.i64.wrap (v4 + 1)) : Int)) rfl rfl) .nil)) (by kernel_rfl) ?_
      refine tnU ?_
      exact ⟨n, Nat.lt_succ_self n, (IntKind.i64.wrap (v4 + 1)), h, rfl⟩
    ·replace h := ite_f hc8 h
     refine wc_ (cvK (b := ⟨[], []⟩) [] [] (by kernel_rfl)) (we_ ?_)
     refine te_ ?_
     have hq := Option.some.inj h
     subst hq
     refine te_ ?_
     have h := hout7
     refine blockQ_hit ?_
     refine tnU ?_
     exact ⟨h, rfl⟩
  ·rintro _ ⟨h, rfl⟩
   unfold W41_same.j2 at h
   refine sq_ ?_
   refine rg4 (st1 := ⟨[(4, .p .bool true)], []⟩) [4] [] hN (.cons (moU (rs := []) rfl (.inr rfl) (.bool _ _)) .nil) (by kernel_rfl) ?_
   refine tnU ?_
   refine wr_ ?_
   have hq := Option.some.inj h
   subst hq
   exact ends_ret (retV_1 rfl (.head _)) ain_nil

theorem Nm_Has.ok (O : Out) (hO : GOk O) (k : Nat) (a0 : List (List UInt8)) (a1 : List UInt8) (out : Bool) (h : Nm_Has.f k a0 a1 = some out) : COk Un O Tryd.prog 44 { ar := [.p (.list .str) a0, .p .str a1], r := .p .bool out } := by
 refine cok_of_wp Tryd.func44 rfl (k := 17) rfl (Nat.le_of_ble_eq_true rfl) (namesOk_pure rfl rfl rfl rfl) ?_
 intro B hN
 refine ckS (b := ⟨[(0, .p (.list .str) a0), (1, .p .str a1)], []⟩) [0, 1] [] (by kernel_rfl) ?_
 unfold Nm_Has.f at h
 refine sq_ ?_
 refine rg4 (st1 := ⟨[(0, .p (.list .str) a0), (1, .p .str a1)], []⟩) [0, 1] [] hN (.cons (moU (rs := []) rfl (.inr rfl) (.bool _ _)) .nil) (by kernel_rfl) ?_
 refine tnU ?_
 refine sqJ (fun st' => Nm_Has.j1 k = some out ∧ st' = ⟨[], []⟩) ?_ ?_
 ·refine sq_ ?_
  refine rg4 (st1 := ⟨[(1, .p .str a1), (7, .p (.list .str) a0), (8, .p I6 ((a0.length : Int) : Int)), (9, .p I6 (0 : Int))], []⟩) [1, 7, 8, 9] [] hN (.cons (mvU (v := .p (.list .str) a0) rfl rfl) (.cons (u36_ (rs := [(7, .p (.list .str) a0)]) rfl rfl Tryd.underlying40 o0) (.cons (moU (rs := []) rfl (.inl rfl) (.int _ _ _)) .nil))) (by kernel_rfl) ?_
  refine tnU ?_
  refine wb_ ?_
  obtain ⟨o4, hlo4, h⟩ := bind_some h
  have hout5 := h
  clear h
  refine u14_ (fun n st' => ∃ v2 : Int, Nm_Has.l3 k a0 a1 n v2 = some o4 ∧ st' = ⟨[(1, .p .str a1), (7, .p (.list .str) a0), (8, .p I6 ((a0.length : Int) : Int)), (9, .p I6 v2)], []⟩) k ⟨0, hlo4, rfl⟩ ?_
  clear hlo4
  rintro (_ | n) _ ⟨v2, h, rfl⟩
  ·cases h
  ·rw [Nm_Has.l3] at h
   refine sq_ ?_
   refine rg4 (st1 := ⟨[(1, .p .str a1), (7, .p (.list .str) a0), (8, .p I6 ((a0.length : Int) : Int)), (9, .p I6 v2), (10, .p .bool ((decide (v2 < (a0.length : Int))) : Bool))], []⟩) [1, 7, 8, 9, 10] [] hN (.cons (cmU (rs := [(9, .p I6 v2), (8, .p I6 ((a0.length : Int) : Int))]) rfl rfl o0 o1 rfl) .nil) (by kernel_rfl) ?_
   refine tnS ?_
   refine cdU (b := (decide (v2 < (a0.length : Int)))) (.tmp m4_) (fun hc6 => ?_) (fun hc6 => ?_)
   ·replace h := ite_t hc6 h
    refine wc_ (cvK (b := ⟨[(1, .p .str a1), (7, .p (.list .str) a0), (8, .p I6 ((a0.length : Int) : Int)), (9, .p I6 v2)], []⟩) [1, 7, 8, 9] [] (by kernel_rfl)) (ws_ ?_)
    refine tnS ?_
    refine wb_ ?_
    refine sq_ ?_
    obtain ⟨v7, hv7, h⟩ := bind_some h
    refine rg4 (st1 := ⟨[(1, .p .str a1), (6, .p .str v7), (7, .p (.list .str) a0), (8, .p I6 ((a0.length : Int) : Int)), (9, .p I6 v2)], []⟩) [1, 6, 7, 8, 9] [] hN (.cons (u33_ (rs := [(7, .p (.list .str) a0), (9, .p I6 v2)]) rfl rfl sl_40 o0 o1 hv7) (.cons (u42_ (rs := [(11, .pp .str v7)]) rfl rfl ty_9 o0) (.cons (mvA (v := .p .str v7) rfl rfl) .nil))) (by kernel_rfl) ?_
    refine tnS ?_
    refine rg4 (st1 := ⟨[(1, .p .str a1), (7, .p (.list .str) a0), (8, .p I6 ((a0.length : Int) : Int)), (9, .p I6 v2), (15, .p .bool ((v7 == a1) : Bool))], []⟩) [1, 7, 8, 9, 15] [] hN (.cons (mvU (v := .p .str v7) rfl rfl) (.cons (mvU (v := .p .str a1) rfl rfl) (.cons (u27_ (rs := [(13, .p .str v7), (14, .p .str a1)]) rfl rfl o0 o1 rfl) .nil))) (by kernel_rfl) ?_
    refine tnU ?_
    refine cdU (b := (v7 == a1)) (.tmp m4_) (fun hc8 => ?_) (fun hc8 => ?_)
    ·replace h := ite_t hc8 h
     refine sq_ ?_
     refine rg4 (st1 := ⟨[(4, .p .bool true)], []⟩) [4] [] hN (.cons (moU (rs := []) rfl (.inr rfl) (.bool _ _)) .nil) (by kernel_rfl) ?_
     refine tnU ?_
     refine wr_ ?_
     refine blockQ_ret ?_
     refine tr_ ?_
     have hq := Option.some.inj h
     subst hq
     refine tr_ ?_
     have h := hout5
     refine blockQ_ret ?_
     refine tr_ ?_
     have hq := Option.some.inj h
     subst hq
     exact ends_ret (retV_1 rfl (.head _)) ain_nil
    ·replace h := ite_f hc8 h
     refine wc_ (cvK (b := ⟨[(1, .p .str a1), (7, .p (.list .str) a0), (8, .p I6 ((a0.length : Int) : Int)), (9, .p I6 v2)], []⟩) [1, 7, 8, 9] [] (by kernel_rfl)) (ws_ ?_)
     refine bn_ ?_
     refine tnU ?_
     refine rg4 (st1 := ⟨[(1, .p .str a1), (7, .p (.list .str) a0), (8, .p I6 ((a0.length : Int) : Int)), (9, .p I6 ((IntKind.i64.wrap (v2 + 1)) : Int))], []⟩) [1, 7, 8, 9] [] hN (.cons (u21_ (rs := [(9, .p I6 v2)]) rfl rfl o0 (.int _ _ _) rfl) (.cons (mvU (v := .p I6 ((IntKind.i64.wrap (v2 + 1)) : Int)) rfl rfl) .nil)) (by kernel_rfl) ?_
     refine tnU ?_
     exact ⟨n, Nat.lt_succ_self n, (IntKind.i64.wrap (v2 + 1)), h, rfl⟩
   ·replace h := ite_f hc6 h
    refine wc_ (cvK (b := ⟨[], []⟩) [] [] (by kernel_rfl)) (we_ ?_)
    refine te_ ?_
    have hq := Option.some.inj h
    subst hq
    refine te_ ?_
    have h := hout5
    refine blockQ_hit ?_
    refine tnU ?_
    exact ⟨h, rfl⟩
 ·rintro _ ⟨h, rfl⟩
  unfold Nm_Has.j1 at h
  refine sq_ ?_
  refine rg4 (st1 := ⟨[(4, .p .bool false)], []⟩) [4] [] hN (.cons (moU (rs := []) rfl (.inr rfl) (.bool _ _)) .nil) (by kernel_rfl) ?_
  refine tnU ?_
  refine wr_ ?_
  have hq := Option.some.inj h
  subst hq
  exact ends_ret (retV_1 rfl (.head _)) ain_nil

theorem delta_Names.ok (O : Out) (hO : GOk O) (k : Nat) (a0 : List TC) (out : List (List UInt8)) (h : delta_Names.f k a0 = some out) : COk Un O Tryd.prog 46 { ar := [.p (.list (.named 6)) a0], r := .p (.list .str) out } := by
 refine cok_of_wp Tryd.func46 rfl (k := 20) rfl (Nat.le_of_ble_eq_true rfl) (namesOk_pure rfl rfl rfl rfl) ?_
 intro B hN
 refine ckS (b := ⟨[(0, .p (.list (.named 6)) a0)], []⟩) [0] [] (by kernel_rfl) ?_
 unfold delta_Names.f at h
 refine sq_ ?_
 refine rg4 (st1 := ⟨[(0, .p (.list (.named 6)) a0)], []⟩) [0] [] hN (.cons (moU (rs := []) rfl (.inr rfl) (.lit _ _ rfl)) .nil) (by kernel_rfl) ?_
 refine tnS ?_
 refine rg4 (st1 := ⟨[(0, .p (.list (.named 6)) a0), (3, .lit (.slice none 0 0))], []⟩) [0, 3] [] hN (.cons (moU (rs := []) rfl (.inr rfl) (.lit _ _ rfl)) .nil) (by kernel_rfl) ?_
 refine tnU ?_
 refine sqJ (fun st' => ∃ v1 : List (List UInt8), delta_Names.j3 k v1 = some out ∧ st' = ⟨[(3, .vec 1003 1 0 v1.length)], [(1003, .row 9 .str v1 false)]⟩) ?_ ?_
 ·refine sq_ ?_
  refine rg4 (st1 := ⟨[(3, .lit (.slice none 0 0)), (6, .p (.list (.named 6)) a0), (7, .p I6 ((a0.length : Int) : Int)), (8, .p I6 (0 : Int))], []⟩) [3, 6, 7, 8] [] hN (.cons (mvU (v := .p (.list (.named 6)) a0) rfl rfl) (.cons (u36_ (rs := [(6, .p (.list (.named 6)) a0)]) rfl rfl Tryd.underlying60 o0) (.cons (moU (rs := []) rfl (.inl rfl) (.int _ _ _)) .nil))) (by kernel_rfl) ?_
  refine tnU ?_
  refine wb_ ?_
  obtain ⟨o8, hlo8, h⟩ := bind_some h
  have hout9 := h
  clear h
  refine wc_ (cvT (u13_ 3 1003 9 .str (.head _) (by kernel_rfl) (by unfold K0; omega)) (cvK (b := ⟨[(3, .vec 1003 1 0 0), (6, .p (.list (.named 6)) a0), (7, .p I6 ((a0.length : Int) : Int)), (8, .p I6 (0 : Int))], [(1003, .row 9 .str [] false)]⟩) [3, 6, 7, 8] [1003] (by kernel_rfl))) ?_
  refine u14_ (fun n st' => ∃ v4 : List (List UInt8), ∃ v5 : Int, delta_Names.l6 k a0 n v4 v5 = some o8 ∧ st' = ⟨[(3, .vec 1003 1 0 v4.length), (6, .p (.list (.named 6)) a0), (7, .p I6 ((a0.length : Int) : Int)), (8, .p I6 v5)], [(1003, .row 9 .str v4 false)]⟩) k ⟨[], 0, hlo8, rfl⟩ ?_
  clear hlo8
  rintro (_ | n) _ ⟨v4, v5, h, rfl⟩
  ·cases h
  ·rw [delta_Names.l6] at h
   refine sq_ ?_
   refine rg4 (st1 := ⟨[(3, .vec 1003 1 0 v4.length), (6, .p (.list (.named 6)) a0), (7, .p I6 ((a0.length : Int) : Int)), (8, .p I6 v5), (9, .p .bool ((decide (v5 < (a0.length : Int))) : Bool))], [(1003, .row 9 .str v4 false)]⟩) [3, 6, 7, 8, 9] [1003] hN (.cons (cmU (rs := [(8, .p I6 v5), (7, .p I6 ((a0.length : Int) : Int))]) rfl rfl o0 o1 rfl) .nil) (by kernel_rfl) ?_
   refine tnS ?_
   refine cdU (b := (decide (v5 < (a0.length : Int)))) (.tmp m4_) (fun hc10 => ?_) (fun hc10 => ?_)
   ·replace h := ite_t hc10 h
    refine wc_ (cvK (b := ⟨[(3, .vec 1003 1 0 v4.length), (6, .p (.list (.named 6)) a0), (7, .p I6 ((a0.length : Int) : Int)), (8, .p I6 v5)], [(1003, .row 9 .str v4 false)]⟩) [3, 6, 7, 8] [1003] (by kernel_rfl)) (ws_ ?_)
    refine tnS ?_
    refine wb_ ?_
    refine sq_ ?_
    obtain ⟨v11, hv11, h⟩ := bind_some h
    refine rg4 (st1 := ⟨[(3, .vec 1003 1 0 v4.length), (5, .loc 5 0), (6, .p (.list (.named 6)) a0), (7, .p I6 ((a0.length : Int) : Int)), (8, .p I6 v5)], [(5, .box [.p I6 v11.fK, .p .str v11.fO.fN, .p .str v11.fO.fC, .p I6 v11.fO.fT, .p .str v11.fW.fN, .p .str v11.fW.fC, .p I6 v11.fW.fT]), (1003, .row 9 .str v4 false)]⟩) [3, 5, 6, 7, 8] [5, 1003] hN (.cons (u33_ (rs := [(6, .p (.list (.named 6)) a0), (8, .p I6 v5)]) rfl rfl sl_60 o0 o1 hv11) (.cons (u42_ (rs := [(10, .pp (.named 6) v11)]) rfl rfl ty_103 o0) (.cons (u18_ (rs := []) (d := 5) (us := [.p I6 (0 : Int), .p .str ([] : List UInt8), .p .str ([] : List UInt8), .p I6 (0 : Int), .p .str ([] : List UInt8), .p .str ([] : List UInt8), .p I6 (0 : Int)]) (v := (.agg #[.int .i64 0, .string ByteArray.empty, .string ByteArray.empty, .int .i64 0, .string ByteArray.empty, .string ByteArray.empty, .int .i64 0])) rfl rfl rfl (by kernel_rfl) rfl (.data (fun _ _ _ => .int _ _) (.data (fun _ _ _ => rd_str0) (.data (fun _ _ _ => rd_str0) (.data (fun _ _ _ => .int _ _) (.data (fun _ _ _ => rd_str0) (.data (fun _ _ _ => rd_str0) (.data (fun _ _ _ => .int _ _) .nil))))))) (by kernel_rfl)) (.cons (u54_ (rs := [(5, .loc 5 0), (11, .p (.named 6) v11)]) (v := .p (.named 6) v11) (mid' := [.p I6 v11.fK, .p .str v11.fO.fN, .p .str v11.fO.fC, .p I6 v11.fO.fT, .p .str v11.fW.fN, .p .str v11.fW.fC, .p I6 v11.fW.fT]) [] [.p I6 (0 : Int), .p .str ([] : List UInt8), .p .str ([] : List UInt8), .p I6 (0 : Int), .p .str ([] : List UInt8), .p .str ([] : List UInt8), .p I6 (0 : Int)] [] rfl rfl rfl ty_103 o0 o1 (.data (.named (us := ([.p I6 v11.fK, .p .str v11.fO.fN, .p .str v11.fO.fC, .p I6 v11.fO.fT, .p .str v11.fW.fN, .p .str v11.fW.fC, .p I6 v11.fW.fT] : List (AVal Un))) (.pair (.one _ _) (.pair (.named (us := ([.p .str v11.fO.fN, .p .str v11.fO.fC, .p I6 v11.fO.fT] : List (AVal Un))) (.pair (.one _ _) (.pair (.one _ _) (.pair (.one _ _) .unit)))) (.pair (.named (us := ([.p .str v11.fW.fN, .p .str v11.fW.fC, .p I6 v11.fW.fT] : List (AVal Un))) (.pair (.one _ _) (.pair (.one _ _) (.pair (.one _ _) .unit)))) .unit))))) rfl rfl rfl rfl rfl rfl) .nil)))) (by kernel_rfl) ?_
    refine tnU ?_
    obtain ⟨v12, hv12, h⟩ := bind_some h
    obtain ⟨g13, h⟩ := if_some h
    refine rg4 (st1 := ⟨[(3, .vec 16 1 0 ((v4 ++ [v12]).length)), (6, .p (.list (.named 6)) a0), (7, .p I6 ((a0.length : Int) : Int)), (8, .p I6 v5)], [(16, .row 9 .str (v4 ++ [v12]) false)]⟩) [3, 6, 7, 8] [16] hN (.cons (mvU (v := .vec 1003 1 0 v4.length) rfl rfl) (.cons (ldB (t := .named 6) (rs := [(5, .loc 5 0)]) [] [.p I6 v11.fK, .p .str v11.fO.fN, .p .str v11.fO.fC, .p I6 v11.fO.fT, .p .str v11.fW.fN, .p .str v11.fW.fC, .p I6 v11.fW.fT] [] (v := .p (.named 6) ((TC.mk v11.fK (TF.mk v11.fO.fN v11.fO.fC v11.fO.fT) (TF.mk v11.fW.fN v11.fW.fC v11.fW.fT)) : TC)) rfl rfl ty_103 o0 rfl rfl rfl rfl (.data (.named (us := ([.p I6 v11.fK, .p .str v11.fO.fN, .p .str v11.fO.fC, .p I6 v11.fO.fT, .p .str v11.fW.fN, .p .str v11.fW.fC, .p I6 v11.fW.fT] : List (AVal Un))) (.pair (.one _ _) (.pair (.named (us := ([.p .str v11.fO.fN, .p .str v11.fO.fC, .p I6 v11.fO.fT] : List (AVal Un))) (.pair (.one _ _) (.pair (.one _ _) (.pair (.one _ _) .unit)))) (.pair (.named (us := ([.p .str v11.fW.fN, .p .str v11.fW.fC, .p I6 v11.fW.fT] : List (AVal Un))) (.pair (.one _ _) (.pair (.one _ _) (.pair (.one _ _) .unit)))) .unit)))))) (.cons (caV (rs := [(13, .p (.named 6) ((TC.mk v11.fK (TF.mk v11.fO.fN v11.fO.fC v11.fO.fT) (TF.mk v11.fW.fN v11.fW.fC v11.fW.fT)) : TC))]) (vw := []) rfl rfl (.func _) hb_65 (delta_Change_name.ok O hO k (TC.mk v11.fK (TF.mk v11.fO.fN v11.fO.fC v11.fO.fT) (TF.mk v11.fW.fN v11.fW.fC v11.fW.fT)) v12 hv12) (.cons o0 .nil) (.cons (.same _) .nil) (by simp) (.inl rfl)) (.cons (u24_ (t := .str) (rs := [(14, .p .str v12)]) (ys := [.tmp 14]) (xs := [v12]) rfl rfl rfl rfl row_40 (.cons o0 .nil) (by decide)) (.cons (u19_ (t := .str) (rs := [(12, .vec 1003 1 0 v4.length), (15, .vec 15 1 0 ([v12].length))]) (vw := [(15, .row 9 .str [v12] true)]) (xs := v4) (ys := [v12]) (fx := false) rfl rfl rfl row_40 (by decide) o0 o1 (.whole (.head _)) (by simp) g13) (.cons (mvA (v := .vec 16 1 0 ((v4 ++ [v12]).length)) rfl rfl) .nil)))))) (by kernel_rfl) ?_
    refine bn_ ?_
    refine tnU ?_
    refine rg3 (st1 := ⟨[(3, .vec 16 1 0 ((v4 ++ [v12]).length)), (6, .p (.list (.named 6)) a0), (7, .p I6 ((a0.length : Int) : Int)), (8, .p I6 ((IntKind.i64.wrap (v5 + 1)) : Int))], [(16, .row 9 .str (v4 ++ [v12]) false)]⟩) [3, 6, 7, 8] [16] hN (.cons (u21_ (rs := [(8, .p I6 v5)]) rfl rfl o0 (.int _ _ _) rfl) (.cons (mvU (v := .p I6 ((IntKind.i64.wrap (v5 + 1)) : Int)) rfl rfl) .nil)) (by kernel_rfl) (cvT (u12_ (st' := ⟨[(3, .vec 1003 1 0 ((v4 ++ [v12]).length)), (6, .p (.list (.named 6)) a0), (7, .p I6 ((a0.length : Int) : Int)), (8, .p I6 ((IntKind.i64.wrap (v5 + 1)) : Int))], [(1003, .row 9 .str (v4 ++ [v12]) false)]⟩) 16 1003 (by unfold K0; omega) (by kernel_rfl) (by kernel_rfl) (by kernel_rfl)) (cvK (b := ⟨[(3, .vec 1003 1 0 ((v4 ++ [v12]).length)), (6, .p (.list (.named 6)) a0), (7, .p I6 ((a0.length : Int) : Int)), (8, .p I6 ((IntKind.i64.wrap (v5 + 1)) : Int))], [(1003, .row 9 .str (v4 ++ [v12]) false)]⟩) [3, 6, 7, 8] [1003] (by kernel_rfl))) ?_
    refine tnU ?_
    exact ⟨n, Nat.lt_succ_self n, (v4 ++ [v12]), (IntKind.i64.wrap (v5 + 1)), h, rfl⟩
   ·replace h := ite_f hc10 h
    refine wc_ (cvK (b := ⟨[(3, .vec 1003 1 0 v4.length)], [(1003, .row 9 .str v4 false)]⟩) [3] [1003] (by kernel_rfl)) (we_ ?_)
    refine te_ ?_
    have hq := Option.some.inj h
    subst hq
    refine te_ ?_
    have h := hout9
    refine blockQ_hit ?_
    refine tnU ?_
    exact ⟨v4, h, rfl⟩
 ·rintro _ ⟨v1, h, rfl⟩
  unfold delta_Names.j3 at h
  refine sq_ ?_
  obtain ⟨v2, hv2, h⟩ := bind_some h
  refine rg4 (st1 := ⟨[(2, .p (.list .str) v2)], []⟩) [2] [] hN (.cons (mvU (v := .vec 1003 1 0 v1.length) rfl rfl) (.cons (u26_ (rs := [(18, .vec 1003 1 0 v1.length)]) (vw := [(1003, .row 9 .str v1 false)]) rfl rfl (.func _) hb_61 (names_Sorted.ok O hO k v1 v2 hv2) (.cons o0 .nil) (.cons (.whole' (.head _) (by first | rfl | (simp only [upd_length, List.length_replicate, List.length_append]; done) | (simp only [upd_length, List.length_replicate, List.length_append] at *; omega) | omega)) .nil) (by simp)) (.cons (mvA (v := .p (.list .str) v2) rfl rfl) .nil))) (by kernel_rfl) ?_
  refine tnU ?_
  refine wr_ ?_
  have hq := Option.some.inj h
  subst hq
  exact ends_ret (retV_1 rfl (.head _)) ain_nil

theorem R01_Sorted.ok (O : Out) (hO : GOk O) (k : Nat) (a0 : List (List UInt8)) (out : List (List UInt8)) (h : R01_Sorted.f k a0 = some out) : COk Un O Tryd.prog 47 { ar := [.p (.list .str) a0], r := .p (.list .str) out } := by
 refine cok_of_wp Tryd.func47 rfl (k := 54) rfl (Nat.le_of_ble_eq_true rfl) (namesOk_pure rfl rfl rfl rfl) ?_
 intro B hN
 refine ckS (b := ⟨[(0, .p (.list .str) a0)], []⟩) [0] [] (by kernel_rfl) ?_
 unfold R01_Sorted.f at h
 refine sq_ ?_
 refine rg4 (st1 := ⟨[(0, .p (.list .str) a0)], []⟩) [0] [] hN (.cons (moU (rs := []) rfl (.inr rfl) (.lit _ _ rfl)) .nil) (by kernel_rfl) ?_
 refine tnS ?_
 refine rg3 (st1 := ⟨[(0, .p (.list .str) a0), (3, .vec 7 1 0 (([] : List (List UInt8)).length))], [(7, .row 9 .str ([] : List (List UInt8)) true)]⟩) [0, 3] [7] hN (.cons (u24_ (t := .str) (rs := []) (ys := []) (xs := ([] : List (List UInt8))) rfl rfl rfl rfl row_40 .nil (by decide)) (.cons (mvA (v := .vec 7 1 0 (([] : List (List UInt8)).length)) rfl rfl) .nil)) (by kernel_rfl) (u0_ (st' := ⟨[(0, .p (.list .str) a0), (3, .vec 7 1 0 0)], [(7, .row 9 .str ([] : List (List UInt8)) true)]⟩) (by simp only [upd_length, List.length_nil, List.length_replicate])) ?_
 refine tnU ?_
 refine sqJ (fun st' => ∃ v1 : List (List UInt8), R01_Sorted.j2 k v1 = some out ∧ st' = ⟨[(3, .vec 1003 1 0 v1.length)], [(1003, .row 9 .str v1 false)]⟩) ?_ ?_
 ·refine sq_ ?_
  refine rg4 (st1 := ⟨[(3, .vec 7 1 0 0), (8, .p (.list .str) a0), (9, .p I6 ((a0.length : Int) : Int)), (10, .p I6 (0 : Int))], [(7, .row 9 .str ([] : List (List UInt8)) true)]⟩) [3, 8, 9, 10] [7] hN (.cons (mvU (v := .p (.list .str) a0) rfl rfl) (.cons (u36_ (rs := [(8, .p (.list .str) a0)]) rfl rfl Tryd.underlying40 o0) (.cons (moU (rs := []) rfl (.inl rfl) (.int _ _ _)) .nil))) (by kernel_rfl) ?_
  refine tnU ?_
  refine wb_ ?_
  obtain ⟨o7, hlo7, h⟩ := bind_some h
  have hout8 := h
  clear h
  refine wc_ (cvT (u4_ 7 9 .str ([] : List (List UInt8)) (.head _)) (cvT (cvK (b := ⟨[(3, .vec 7 1 0 0), (8, .p (.list .str) a0), (9, .p I6 ((a0.length : Int) : Int)), (10, .p I6 (0 : Int))], [(7, .row 9 .str ([] : List (List UInt8)) false)]⟩) [3, 8, 9, 10] [7] (by kernel_rfl)) (cvT (u12_ (st' := ⟨[(3, .vec 1003 1 0 0), (8, .p (.list .str) a0), (9, .p I6 ((a0.length : Int) : Int)), (10, .p I6 (0 : Int))], [(1003, .row 9 .str ([] : List (List UInt8)) false)]⟩) 7 1003 (by unfold K0; omega) (by kernel_rfl) (by kernel_rfl) (by kernel_rfl)) (cvK (b := ⟨[(3, .vec 1003 1 0 0), (8, .p (.list .str) a0), (9, .p I6 ((a0.length : Int) : Int)), (10, .p I6 (0 : Int))], [(1003, .row 9 .str ([] : List (List UInt8)) false)]⟩) [3, 8, 9, 10] [1003] (by kernel_rfl))))) ?_
  refine u14_ (fun n st' => ∃ v3 : List (List UInt8), ∃ v4 : Int, R01_Sorted.l5 k a0 n v3 v4 = some o7 ∧ st' = ⟨[(3, .vec 1003 1 0 v3.length), (8, .p (.list .str) a0), (9, .p I6 ((a0.length : Int) : Int)), (10, .p I6 v4)], [(1003, .row 9 .str v3 false)]⟩) k ⟨([] : List (List UInt8)), 0, hlo7, rfl⟩ ?_
  clear hlo7
  rintro (_ | n) _ ⟨v3, v4, h, rfl⟩
  ·cases h
  ·rw [R01_Sorted.l5] at h
   refine sq_ ?_
   refine rg4 (st1 := ⟨[(3, .vec 1003 1 0 v3.length), (8, .p (.list .str) a0), (9, .p I6 ((a0.length : Int) : Int)), (10, .p I6 v4), (11, .p .bool ((decide (v4 < (a0.length : Int))) : Bool))], [(1003, .row 9 .str v3 false)]⟩) [3, 8, 9, 10, 11] [1003] hN (.cons (cmU (rs := [(10, .p I6 v4), (9, .p I6 ((a0.length : Int) : Int))]) rfl rfl o0 o1 rfl) .nil) (by kernel_rfl) ?_
   refine tnS ?_
   refine cdU (b := (decide (v4 < (a0.length : Int)))) (.tmp m4_) (fun hc9 => ?_) (fun hc9 => ?_)
   ·replace h := ite_t hc9 h
    refine wc_ (cvK (b := ⟨[(3, .vec 1003 1 0 v3.length), (8, .p (.list .str) a0), (9, .p I6 ((a0.length : Int) : Int)), (10, .p I6 v4)], [(1003, .row 9 .str v3 false)]⟩) [3, 8, 9, 10] [1003] (by kernel_rfl)) (ws_ ?_)
    refine tnU ?_
    refine sqJ (fun st' => ∃ v10 : List (List UInt8), R01_Sorted.j11 k (R01_Sorted.l5 k a0 n) a0 v4 v10 = some o7 ∧ st' = ⟨[(3, .vec 1003 1 0 v10.length), (8, .p (.list .str) a0), (9, .p I6 ((a0.length : Int) : Int)), (10, .p I6 v4)], [(1003, .row 9 .str v10 false)]⟩) ?_ ?_
    ·refine wb_ ?_
     refine sq_ ?_
     obtain ⟨v12, hv12, h⟩ := bind_some h
     refine rg4 (st1 := ⟨[(3, .vec 1003 1 0 v3.length), (5, .p .str v12), (8, .p (.list .str) a0), (9, .p I6 ((a0.length : Int) : Int)), (10, .p I6 v4)], [(1003, .row 9 .str v3 false)]⟩) [3, 5, 8, 9, 10] [1003] hN (.cons (u33_ (rs := [(8, .p (.list .str) a0), (10, .p I6 v4)]) rfl rfl sl_40 o0 o1 hv12) (.cons (u42_ (rs := [(12, .pp .str v12)]) rfl rfl ty_9 o0) (.cons (mvA (v := .p .str v12) rfl rfl) .nil))) (by kernel_rfl) ?_
     refine tnS ?_
     refine rg4 (st1 := ⟨[(3, .vec 1003 1 0 v3.length), (5, .p .str v12), (6, .p I6 (0 : Int)), (8, .p (.list .str) a0), (9, .p I6 ((a0.length : Int) : Int)), (10, .p I6 v4)], [(1003, .row 9 .str v3 false)]⟩) [3, 5, 6, 8, 9, 10] [1003] hN (.cons (moU (rs := []) rfl (.inr rfl) (.int _ _ _)) .nil) (by kernel_rfl) ?_
     refine tnU ?_
     refine sqJ (fun st' => ∃ v13 : Int, R01_Sorted.j28 k (R01_Sorted.l5 k a0 n) a0 v3 v4 v12 v13 = some o7 ∧ st' = ⟨[(3, .vec 1003 1 0 v3.length), (5, .p .str v12), (6, .p I6 v13), (8, .p (.list .str) a0), (9, .p I6 ((a0.length : Int) : Int)), (10, .p I6 v4)], [(1003, .row 9 .str v3 false)]⟩) ?_ ?_
     ·refine wb_ ?_
      obtain ⟨o32, hlo32, h⟩ := bind_some h
      have hout33 := h
      clear h
      refine u14_ (fun n st' => ∃ v29 : Int, R01_Sorted.l30 k a0 v3 v4 v12 n v29 = some o32 ∧ st' = ⟨[(3, .vec 1003 1 0 v3.length), (5, .p .str v12), (6, .p I6 v29), (8, .p (.list .str) a0), (9, .p I6 ((a0.length : Int) : Int)), (10, .p I6 v4)], [(1003, .row 9 .str v3 false)]⟩) k ⟨0, hlo32, rfl⟩ ?_
      clear hlo32
      rintro (_ | n) _ ⟨v29, h, rfl⟩
      ·cases h
      ·rw [R01_Sorted.l30] at h
       refine sqJ (fun st' => R01_Sorted.j34 k (R01_Sorted.l30 k a0 v3 v4 v12 n) a0 v3 v4 v12 v29 = some o32 ∧ st' = ⟨[(3, .vec 1003 1 0 v3.length), (5, .p .str v12), (6, .p I6 v29), (8, .p (.list .str) a0), (9, .p I6 ((a0.length : Int) : Int)), (10, .p I6 v4)], [(1003, .row 9 .str v3 false)]⟩) ?_ ?_
       ·refine sqJ (fun st' => ∃ v35 : Bool, R01_Sorted.j37 k (R01_Sorted.l30 k a0 v3 v4 v12 n) a0 v3 v4 v12 v29 v35 = some o32 ∧ st' = ⟨[(3, .vec 1003 1 0 v3.length), (5, .p .str v12), (6, .p I6 v29), (8, .p (.list .str) a0), (9, .p I6 ((a0.length : Int) : Int)), (10, .p I6 v4), (25, .p .bool v35)], [(1003, .row 9 .str v3 false)]⟩) ?_ ?_
        ·rcases bool_cases (decide (v29 < (v3.length : Int))) with hc38 | hc38
         ·replace h := ite_t hc38 h
          obtain ⟨g39, h⟩ := if_some h
          obtain ⟨v40, hv40, h⟩ := bind_some h
          refine rg4 (st1 := ⟨[(3, .vec 1003 1 0 v3.length), (5, .p .str v12), (6, .p I6 v29), (8, .p (.list .str) a0), (9, .p I6 ((a0.length : Int) : Int)), (10, .p I6 v4), (25, .p .bool ((Op.bytesLess v40 v12) : Bool))], [(1003, .row 9 .str v3 false)]⟩) [3, 5, 6, 8, 9, 10, 25] [1003] hN (.cons (mvU (v := .p I6 v29) rfl rfl) (.cons (mvU (v := .vec 1003 1 0 v3.length) rfl rfl) (.cons (u39_ (rs := [(15, .vec 1003 1 0 v3.length)]) rfl rfl Tryd.underlying40 o0) (.cons (cmU (rs := [(14, .p I6 v29), (16, .p I6 ((v3.length : Int) : Int))]) rfl rfl o0 o1 rfl) (.cons (mvU (v := .p .bool ((decide (v29 < (v3.length : Int))) : Bool)) rfl rfl) (.cons (sok_run rfl rfl hc38 (mvU (v := .vec 1003 1 0 v3.length) rfl rfl)) (.cons (sok_run rfl rfl hc38 (mvU (v := .p I6 v29) rfl rfl)) (.cons (sok_run rfl rfl hc38 (u35_ (rs := [(19, .vec 1003 1 0 v3.length), (20, .p I6 v29)]) rfl rfl sl_40 o0 o1 g39)) (.cons (sok_run rfl rfl hc38 (u40_ (E := 9) (t := .str) (rs := [(21, .eloc 1003 1 (0 + v29.toNat) 0)]) (xs := v3) (fx := false) rfl rfl ty_9 o0 hv40 (.here _ _))) (.cons (sok_run rfl rfl hc38 (mvU (v := .p .str v12) rfl rfl)) (.cons (sok_run rfl rfl hc38 (u27_ (rs := [(22, .p .str v40), (23, .p .str v12)]) rfl rfl o0 o1 rfl)) (.cons (pkT (rs := [(18, .p .bool ((decide (v29 < (v3.length : Int))) : Bool)), (24, .p .bool ((Op.bytesLess v40 v12) : Bool))]) rfl rfl o0 hc38 o1) .nil)))))))))))) (by kernel_rfl) ?_
          refine tnU ?_
          exact ⟨(Op.bytesLess v40 v12), h, rfl⟩
         ·replace h := ite_f hc38 h
          refine rg4 (st1 := ⟨[(3, .vec 1003 1 0 v3.length), (5, .p .str v12), (6, .p I6 v29), (8, .p (.list .str) a0), (9, .p I6 ((a0.length : Int) : Int)), (10, .p I6 v4), (25, .p .bool false)], [(1003, .row 9 .str v3 false)]⟩) [3, 5, 6, 8, 9, 10, 25] [1003] hN (.cons (mvU (v := .p I6 v29) rfl rfl) (.cons (mvU (v := .vec 1003 1 0 v3.length) rfl rfl) (.cons (u39_ (rs := [(15, .vec 1003 1 0 v3.length)]) rfl rfl Tryd.underlying40 o0) (.cons (cmU (rs := [(14, .p I6 v29), (16, .p I6 ((v3.length : Int) : Int))]) rfl rfl o0 o1 rfl) (.cons (mvU (v := .p .bool ((decide (v29 < (v3.length : Int))) : Bool)) rfl rfl) (.cons (skU rfl rfl hc38) (.cons (skU rfl rfl hc38) (.cons (skU rfl rfl hc38) (.cons (skU rfl rfl hc38) (.cons (skU rfl rfl hc38) (.cons (skU rfl rfl hc38) (.cons (pkF (rs := [(18, .p .bool ((decide (v29 < (v3.length : Int))) : Bool))]) rfl rfl o0 hc38 (.bool _ _)) .nil)))))))))))) (by kernel_rfl) ?_
          refine tnU ?_
          exact ⟨false, h, rfl⟩
        ·rintro _ ⟨v35, h, rfl⟩
         unfold R01_Sorted.j37 at h
         refine cdU (b := v35) (.tmp m6_) (fun hc36 => ?_) (fun hc36 => ?_)
         ·replace h := ite_t hc36 h
          refine wc_ (cvK (b := ⟨[(3, .vec 1003 1 0 v3.length), (5, .p .str v12), (6, .p I6 v29), (8, .p (.list .str) a0), (9, .p I6 ((a0.length : Int) : Int)), (10, .p I6 v4)], [(1003, .row 9 .str v3 false)]⟩) [3, 5, 6, 8, 9, 10] [1003] (by kernel_rfl)) (ws_ ?_)
          refine tnU ?_
          exact ⟨h, rfl⟩
         ·replace h := ite_f hc36 h
          refine wc_ (cvK (b := ⟨[(3, .vec 1003 1 0 v3.length), (5, .p .str v12), (6, .p I6 v29), (8, .p (.list .str) a0), (9, .p I6 ((a0.length : Int) : Int)), (10, .p I6 v4)], [(1003, .row 9 .str v3 false)]⟩) [3, 5, 6, 8, 9, 10] [1003] (by kernel_rfl)) (we_ ?_)
          refine te_ ?_
          have hq := Option.some.inj h
          subst hq
          refine te_ ?_
          have h := hout33
          refine blockQ_hit ?_
          refine tnU ?_
          exact ⟨v29, h, rfl⟩
       ·rintro _ ⟨h, rfl⟩
        unfold R01_Sorted.j34 at h
        refine wb_ ?_
        refine rg4 (st1 := ⟨[(3, .vec 1003 1 0 v3.length), (5, .p .str v12), (6, .p I6 ((IntKind.i64.wrap (v29 + 1)) : Int)), (8, .p (.list .str) a0), (9, .p I6 ((a0.length : Int) : Int)), (10, .p I6 v4)], [(1003, .row 9 .str v3 false)]⟩) [3, 5, 6, 8, 9, 10] [1003] hN (.cons (mvU (v := .p I6 v29) rfl rfl) (.cons (u21_ (rs := [(26, .p I6 v29)]) rfl rfl o0 (.int _ _ _) rfl) (.cons (mvA (v := .p I6 ((IntKind.i64.wrap (v29 + 1)) : Int)) rfl rfl) .nil))) (by kernel_rfl) ?_
        refine bn_ ?_
        refine tnU ?_
        exact ⟨n, Nat.lt_succ_self n, (IntKind.i64.wrap (v29 + 1)), h, rfl⟩
     ·rintro _ ⟨v13, h, rfl⟩
      unfold R01_Sorted.j28 at h
      refine sqJ (fun st' => R01_Sorted.j21 k (R01_Sorted.l5 k a0 n) a0 v3 v4 v12 v13 = some o7 ∧ st' = ⟨[(3, .vec 1003 1 0 v3.length), (5, .p .str v12), (6, .p I6 v13), (8, .p (.list .str) a0), (9, .p I6 ((a0.length : Int) : Int)), (10, .p I6 v4)], [(1003, .row 9 .str v3 false)]⟩) ?_ ?_
      ·refine sqJ (fun st' => ∃ v22 : Bool, R01_Sorted.j24 k (R01_Sorted.l5 k a0 n) a0 v3 v4 v12 v13 v22 = some o7 ∧ st' = ⟨[(3, .vec 1003 1 0 v3.length), (5, .p .str v12), (6, .p I6 v13), (8, .p (.list .str) a0), (9, .p I6 ((a0.length : Int) : Int)), (10, .p I6 v4), (39, .p .bool v22)], [(1003, .row 9 .str v3 false)]⟩) ?_ ?_
       ·rcases bool_cases (decide (v13 < (v3.length : Int))) with hc25 | hc25
        ·replace h := ite_t hc25 h
         obtain ⟨g26, h⟩ := if_some h
         obtain ⟨v27, hv27, h⟩ := bind_some h
         refine rg4 (st1 := ⟨[(3, .vec 1003 1 0 v3.length), (5, .p .str v12), (6, .p I6 v13), (8, .p (.list .str) a0), (9, .p I6 ((a0.length : Int) : Int)), (10, .p I6 v4), (39, .p .bool ((v27 == v12) : Bool))], [(1003, .row 9 .str v3 false)]⟩) [3, 5, 6, 8, 9, 10, 39] [1003] hN (.cons (mvU (v := .p I6 v13) rfl rfl) (.cons (mvU (v := .vec 1003 1 0 v3.length) rfl rfl) (.cons (u39_ (rs := [(29, .vec 1003 1 0 v3.length)]) rfl rfl Tryd.underlying40 o0) (.cons (cmU (rs := [(28, .p I6 v13), (30, .p I6 ((v3.length : Int) : Int))]) rfl rfl o0 o1 rfl) (.cons (mvU (v := .p .bool ((decide (v13 < (v3.length : Int))) : Bool)) rfl rfl) (.cons (sok_run rfl rfl hc25 (mvU (v := .vec 1003 1 0 v3.length) rfl rfl)) (.cons (sok_run rfl rfl hc25 (mvU (v := .p I6 v13) rfl rfl)) (.cons (sok_run rfl rfl hc25 (u35_ (rs := [(33, .vec 1003 1 0 v3.length), (34, .p I6 v13)]) rfl rfl sl_40 o0 o1 g26)) (.cons (sok_run rfl rfl hc25 (u40_ (E := 9) (t := .str) (rs := [(35, .eloc 1003 1 (0 + v13.toNat) 0)]) (xs := v3) (fx := false) rfl rfl ty_9 o0 hv27 (.here _ _))) (.cons (sok_run rfl rfl hc25 (mvU (v := .p .str v12) rfl rfl)) (.cons (sok_run rfl rfl hc25 (u27_ (rs := [(36, .p .str v27), (37, .p .str v12)]) rfl rfl o0 o1 rfl)) (.cons (pkT (rs := [(32, .p .bool ((decide (v13 < (v3.length : Int))) : Bool)), (38, .p .bool ((v27 == v12) : Bool))]) rfl rfl o0 hc25 o1) .nil)))))))))))) (by kernel_rfl) ?_
         refine tnU ?_
         exact ⟨(v27 == v12), h, rfl⟩
        ·replace h := ite_f hc25 h
         refine rg4 (st1 := ⟨[(3, .vec 1003 1 0 v3.length), (5, .p .str v12), (6, .p I6 v13), (8, .p (.list .str) a0), (9, .p I6 ((a0.length : Int) : Int)), (10, .p I6 v4), (39, .p .bool false)], [(1003, .row 9 .str v3 false)]⟩) [3, 5, 6, 8, 9, 10, 39] [1003] hN (.cons (mvU (v := .p I6 v13) rfl rfl) (.cons (mvU (v := .vec 1003 1 0 v3.length) rfl rfl) (.cons (u39_ (rs := [(29, .vec 1003 1 0 v3.length)]) rfl rfl Tryd.underlying40 o0) (.cons (cmU (rs := [(28, .p I6 v13), (30, .p I6 ((v3.length : Int) : Int))]) rfl rfl o0 o1 rfl) (.cons (mvU (v := .p .bool ((decide (v13 < (v3.length : Int))) : Bool)) rfl rfl) (.cons (skU rfl rfl hc25) (.cons (skU rfl rfl hc25) (.cons (skU rfl rfl hc25) (.cons (skU rfl rfl hc25) (.cons (skU rfl rfl hc25) (.cons (skU rfl rfl hc25) (.cons (pkF (rs := [(32, .p .bool ((decide (v13 < (v3.length : Int))) : Bool))]) rfl rfl o0 hc25 (.bool _ _)) .nil)))))))))))) (by kernel_rfl) ?_
         refine tnU ?_
         exact ⟨false, h, rfl⟩
       ·rintro _ ⟨v22, h, rfl⟩
        unfold R01_Sorted.j24 at h
        refine cdU (b := v22) (.tmp m6_) (fun hc23 => ?_) (fun hc23 => ?_)
        ·replace h := ite_t hc23 h
         refine wc_ (cvK (b := ⟨[(3, .vec 1003 1 0 v3.length), (8, .p (.list .str) a0), (9, .p I6 ((a0.length : Int) : Int)), (10, .p I6 v4)], [(1003, .row 9 .str v3 false)]⟩) [3, 8, 9, 10] [1003] (by kernel_rfl)) (we_ ?_)
         refine te_ ?_
         refine blockQ_hit ?_
         refine tnU ?_
         exact ⟨v3, h, rfl⟩
        ·replace h := ite_f hc23 h
         refine wc_ (cvK (b := ⟨[(3, .vec 1003 1 0 v3.length), (5, .p .str v12), (6, .p I6 v13), (8, .p (.list .str) a0), (9, .p I6 ((a0.length : Int) : Int)), (10, .p I6 v4)], [(1003, .row 9 .str v3 false)]⟩) [3, 5, 6, 8, 9, 10] [1003] (by kernel_rfl)) (ws_ ?_)
         refine tnU ?_
         exact ⟨h, rfl⟩
      ·rintro _ ⟨h, rfl⟩
       unfold R01_Sorted.j21 at h
       obtain ⟨g14, h⟩ := if_some h
       obtain ⟨g15, h⟩ := if_some h
       obtain ⟨g16, h⟩ := if_some h
       obtain ⟨g17, h⟩ := if_some h
       obtain ⟨g18, h⟩ := if_some h
       obtain ⟨g19, h⟩ := if_some h
       obtain ⟨g20, h⟩ := if_some h
       refine u17_ (st1 := ⟨[(3, .vec 51 1 0 ((((([] : List (List UInt8)) ++ ((v3.drop 0).take v13.toNat)) ++ [v12]) ++ ((v3.drop (0 + v13.toNat)).take ((v3.length : Int).toNat - v13.toNat))).length)), (8, .p (.list .str) a0), (9, .p I6 ((a0.length : Int) : Int)), (10, .p I6 v4)], [(51, .row 9 .str (((([] : List (List UInt8)) ++ ((v3.drop 0).take v13.toNat)) ++ [v12]) ++ ((v3.drop (0 + v13.toNat)).take ((v3.length : Int).toNat - v13.toNat))) false)]⟩) [3, 8, 9, 10] [51] [[], [], [], [1, 2], [0, 1, 2, 3], [], [5], [0, 1, 2, 3, 4, 5, 6], [], [], [8, 9], [0, 1, 2, 3, 4, 5, 6, 7, 8, 9, 10], [0, 1, 2, 3, 4, 5, 6, 7, 8, 9, 10, 11]] mixed hN (.cons (u24_ (t := .str) (rs := []) (ys := []) (xs := ([] : List (List UInt8))) rfl rfl rfl rfl row_40 .nil (by decide)) (.cons (mvU (v := .vec 1003 1 0 v3.length) rfl rfl) (.cons (mvU (v := .p I6 v13) rfl rfl) (.cons (u53_ (t := .str) (rs := [(41, .vec 1003 1 0 v3.length), (42, .p I6 v13)]) (xs := v3) (fx := false) rfl rfl sl_40 o0 .no (.at o1) g14.1 g14.2.1 g14.2.2) (.cons (u19_ (t := .str) (rs := [(40, .vec 40 1 0 (([] : List (List UInt8)).length)), (43, .vec 1003 1 0 v13.toNat)]) (vw := [(1003, .row 9 .str v3 false)]) (xs := ([] : List (List UInt8))) (ys := ((v3.drop 0).take v13.toNat)) (fx := true) rfl rfl rfl row_40 (by decide) o0 o1 (.row 0 v13.toNat (.head _) g15) (by simp) g16) (.cons (mvU (v := .p .str v12) rfl rfl) (.cons (u24_ (t := .str) (rs := [(45, .p .str v12)]) (ys := [.tmp 45]) (xs := [v12]) rfl rfl rfl rfl row_40 (.cons o0 .nil) (by decide)) (.cons (u19_ (t := .str) (rs := [(44, .vec 44 1 0 ((([] : List (List UInt8)) ++ ((v3.drop 0).take v13.toNat)).length)), (46, .vec 46 1 0 ([v12].length))]) (vw := [(46, .row 9 .str [v12] true)]) (xs := (([] : List (List UInt8)) ++ ((v3.drop 0).take v13.toNat))) (ys := [v12]) (fx := false) rfl rfl rfl row_40 (by decide) o0 o1 (.whole (.head _)) (by simp) g17) (.cons (mvU (v := .vec 1003 1 0 v3.length) rfl rfl) (.cons (mvU (v := .p I6 v13) rfl rfl) (.cons (u53_ (t := .str) (rs := [(48, .vec 1003 1 0 v3.length), (49, .p I6 v13)]) (xs := v3) (fx := false) rfl rfl sl_40 o0 (.at o1) .no g18.1 g18.2.1 g18.2.2) (.cons (u19_ (t := .str) (rs := [(47, .vec 47 1 0 (((([] : List (List UInt8)) ++ ((v3.drop 0).take v13.toNat)) ++ [v12]).length)), (50, .vec 1003 1 (0 + v13.toNat) ((v3.length : Int).toNat - v13.toNat))]) (vw := [(1003, .row 9 .str v3 false)]) (xs := ((([] : List (List UInt8)) ++ ((v3.drop 0).take v13.toNat)) ++ [v12])) (ys := ((v3.drop (0 + v13.toNat)).take ((v3.length : Int).toNat - v13.toNat))) (fx := false) rfl rfl rfl row_40 (by decide) o0 o1 (.row (0 + v13.toNat) ((v3.length : Int).toNat - v13.toNat) (.head _) g19) (by simp) g20) (.cons (mvA (v := .vec 51 1 0 ((((([] : List (List UInt8)) ++ ((v3.drop 0).take v13.toNat)) ++ [v12]) ++ ((v3.drop (0 + v13.toNat)).take ((v3.length : Int).toNat - v13.toNat))).length)) rfl rfl) .nil))))))))))))) (by kernel_rfl) (by kernel_rfl) (by kernel_rfl) (by kernel_rfl) (by kernel_rfl) (cvT (u12_ (st' := ⟨[(3, .vec 1003 1 0 ((((([] : List (List UInt8)) ++ ((v3.drop 0).take v13.toNat)) ++ [v12]) ++ ((v3.drop (0 + v13.toNat)).take ((v3.length : Int).toNat - v13.toNat))).length)), (8, .p (.list .str) a0), (9, .p I6 ((a0.length : Int) : Int)), (10, .p I6 v4)], [(1003, .row 9 .str (((([] : List (List UInt8)) ++ ((v3.drop 0).take v13.toNat)) ++ [v12]) ++ ((v3.drop (0 + v13.toNat)).take ((v3.length : Int).toNat - v13.toNat))) false)]⟩) 51 1003 (by unfold K0; omega) (by kernel_rfl) (by kernel_rfl) (by kernel_rfl)) (cvK (b := ⟨[(3, .vec 1003 1 0 ((((([] : List (List UInt8)) ++ ((v3.drop 0).take v13.toNat)) ++ [v12]) ++ ((v3.drop (0 + v13.toNat)).take ((v3.length : Int).toNat - v13.toNat))).length)), (8, .p (.list .str) a0), (9, .p I6 ((a0.length : Int) : Int)), (10, .p I6 v4)], [(1003, .row 9 .str (((([] : List (List UInt8)) ++ ((v3.drop 0).take v13.toNat)) ++ [v12]) ++ ((v3.drop (0 + v13.toNat)).take ((v3.length : Int).toNat - v13.toNat))) false)]⟩) [3, 8, 9, 10] [1003] (by kernel_rfl))) ?_
       refine bn_ ?_
       refine tnU ?_
       exact ⟨(((([] : List (List UInt8)) ++ ((v3.drop 0).take v13.toNat)) ++ [v12]) ++ ((v3.drop (0 + v13.toNat)).take ((v3.length : Int).toNat - v13.toNat))), h, rfl⟩
    ·rintro _ ⟨v10, h, rfl⟩
     unfold R01_Sorted.j11 at h
     refine rg4 (st1 := ⟨[(3, .vec 1003 1 0 v10.length), (8, .p (.list .str) a0), (9, .p I6 ((a0.length : Int) : Int)), (10, .p I6 ((IntKind.i64.wrap (v4 + 1)) : Int))], [(1003, .row 9 .str v10 false)]⟩) [3, 8, 9, 10] [1003] hN (.cons (u21_ (rs := [(10, .p I6 v4)]) rfl rfl o0 (.int _ _ _) rfl) (.cons (mvU (v := .p I6 ((IntKind.i64.wrap (v4 + 1)) : Int)) rfl rfl) .nil)) (by kernel_rfl) ?_
     refine tnU ?_
     exact ⟨n, Nat.lt_succ_self n, v10, (IntKind.i64.wrap (v4 + 1)), h, rfl⟩
   ·replace h := ite_f hc9 h
    refine wc_ (cvK (b := ⟨[(3, .vec 1003 1 0 v3.length)], [(1003, .row 9 .str v3 false)]⟩) [3] [1003] (by kernel_rfl)) (we_ ?_)
    refine te_ ?_
    have hq := Option.some.inj h
    subst hq
    refine te_ ?_
    have h := hout8
    refine blockQ_hit ?_
    refine tnU ?_
    exact ⟨v3, h, rfl⟩
 ·rintro _ ⟨v1, h, rfl⟩
  unfold R01_Sorted.j2 at h
  refine sq_ ?_
  refine rg4 (st1 := ⟨[(2, .vec 1003 1 0 v1.length)], [(1003, .row 9 .str v1 false)]⟩) [2] [1003] hN (.cons (mvU (v := .vec 1003 1 0 v1.length) rfl rfl) (.cons (mvA (v := .vec 1003 1 0 v1.length) rfl rfl) .nil)) (by kernel_rfl) ?_
  refine tnU ?_
  refine wc_ (cvT (u2_ 2 1003 9 _ .str v1 false (.head _) (by first | rfl | (simp only [upd_length, List.length_replicate, List.length_append]; done) | (simp only [upd_length, List.length_replicate, List.length_append] at *; omega) | omega) (.head _) (by first | (simp [Blk.names]; done) | (simp [Blk.names, AVal.namesL, AVal.names]; done) | (simp [Blk.names]; decide))) (cvK (b := ⟨[(2, .p (.list .str) v1)], []⟩) [2] [] (by kernel_rfl))) (wr_ ?_)
  have hq := Option.some.inj h
  subst hq
  exact ends_ret (retV_1 rfl (.head _)) ain_nil

end Go.Proofs.YtkdpaglpieamgaaDoor
