/- A part of a proof: DAC1. -/
import Derived.Test.YtkdpaglpieamgaaDoorK10DAC0
namespace Go.Proofs.YtkdpaglpieamgaaDoor
open Go Go.AM
set_option linter.unusedVariables false
set_option linter.unusedSimpArgs false
set_option maxRecDepth 100000
theorem delta_Change_check.ok (O : Out) (hO : GOk O) (k : Nat) (a0 : TC) (out : Nat) (h : delta_Change_check.f k a0 = some out) : COk Un O Tryd.prog 64 { ar := [.p (.named 6) a0], r := .p .err out } := by
 refine cok_of_wp Tryd.func64 rfl (k := 38) rfl (Nat.le_of_ble_eq_true rfl) (namesOk_pure rfl rfl rfl rfl) ?_
 intro B hN
 refine ckS (b := ⟨[(0, .p (.named 6) a0)], []⟩) [0] [] (by kernel_rfl) ?_
 unfold delta_Change_check.f at h
 refine sq_ ?_
 refine rg4 (st1 := ⟨[(1, .loc 1 0)], [(1, .box [.p I6 a0.fK, .p .str a0.fO.fN, .p .str a0.fO.fC, .p I6 a0.fO.fT, .p .str a0.fW.fN, .p .str a0.fW.fC, .p I6 a0.fW.fT])]⟩) [1] [1] hN (.cons (u22_ (rs := [(0, .p (.named 6) a0)]) (d := 1) (us := [.p I6 a0.fK, .p .str a0.fO.fN, .p .str a0.fO.fC, .p I6 a0.fO.fT, .p .str a0.fW.fN, .p .str a0.fW.fC, .p I6 a0.fW.fT]) rfl rfl rfl o0 (.data (.named (us := ([.p I6 a0.fK, .p .str a0.fO.fN, .p .str a0.fO.fC, .p I6 a0.fO.fT, .p .str a0.fW.fN, .p .str a0.fW.fC, .p I6 a0.fW.fT] : List (AVal Un))) (.pair (.one _ _) (.pair (.named (us := ([.p .str a0.fO.fN, .p .str a0.fO.fC, .p I6 a0.fO.fT] : List (AVal Un))) (.pair (.one _ _) (.pair (.one _ _) (.pair (.one _ _) .unit)))) (.pair (.named (us := ([.p .str a0.fW.fN, .p .str a0.fW.fC, .p I6 a0.fW.fT] : List (AVal Un))) (.pair (.one _ _) (.pair (.one _ _) (.pair (.one _ _) .unit)))) .unit))))) rfl (notin_of (by kernel_rfl))) (.cons (moU (rs := []) rfl (.inr rfl) (.lit _ _ rfl)) .nil)) (by kernel_rfl) ?_
 refine tnS ?_
 refine rg4 (st1 := ⟨[(1, .loc 1 0), (3, .loc 3 0)], [(1, .box [.p I6 a0.fK, .p .str a0.fO.fN, .p .str a0.fO.fC, .p I6 a0.fO.fT, .p .str a0.fW.fN, .p .str a0.fW.fC, .p I6 a0.fW.fT]), (3, .box [.p .str ([] : List UInt8), .p .str ([] : List UInt8), .p I6 (0 : Int)])]⟩) [1, 3] [1, 3] hN (.cons (u18_ (rs := []) (d := 3) (us := [.p .str ([] : List UInt8), .p .str ([] : List UInt8), .p I6 (0 : Int)]) (v := (.agg #[.string ByteArray.empty, .string ByteArray.empty, .int .i64 0])) rfl rfl rfl (by kernel_rfl) rfl (.data (fun _ _ _ => rd_str0) (.data (fun _ _ _ => rd_str0) (.data (fun _ _ _ => .int _ _) .nil))) (by kernel_rfl)) .nil) (by kernel_rfl) ?_
 refine tnU ?_
 refine sqJ (fun st' => delta_Change_check.j1 k = some out ∧ st' = ⟨[], []⟩) ?_ ?_
 ·refine sq_ ?_
  refine rg4 (st1 := ⟨[(1, .loc 1 0), (3, .loc 3 0), (5, .p I6 a0.fK)], [(1, .box [.p I6 a0.fK, .p .str a0.fO.fN, .p .str a0.fO.fC, .p I6 a0.fO.fT, .p .str a0.fW.fN, .p .str a0.fW.fC, .p I6 a0.fW.fT]), (3, .box [.p .str ([] : List UInt8), .p .str ([] : List UInt8), .p I6 (0 : Int)])]⟩) [1, 3, 5] [1, 3] hN (.cons (fdB (rs := [(1, .loc 1 0)]) rfl rfl fd_103_0 (by decide) o0) (.cons (ldB (t := .int .i64) (rs := [(4, .loc 1 0)]) [] [.p I6 a0.fK] [.p .str a0.fO.fN, .p .str a0.fO.fC, .p I6 a0.fO.fT, .p .str a0.fW.fN, .p .str a0.fW.fC, .p I6 a0.fW.fT] (v := .p I6 a0.fK) rfl rfl ty_3 o0 rfl rfl rfl rfl (.data (.one _ _))) .nil)) (by kernel_rfl) ?_
  refine tnU ?_
  refine wb_ ?_
  refine sq_ ?_
  refine rg4 (st1 := ⟨[(1, .loc 1 0), (3, .loc 3 0), (5, .p I6 a0.fK), (7, .p .bool ((a0.fK == 1) : Bool))], [(1, .box [.p I6 a0.fK, .p .str a0.fO.fN, .p .str a0.fO.fC, .p I6 a0.fO.fT, .p .str a0.fW.fN, .p .str a0.fW.fC, .p I6 a0.fW.fT]), (3, .box [.p .str ([] : List UInt8), .p .str ([] : List UInt8), .p I6 (0 : Int)])]⟩) [1, 3, 5, 7] [1, 3] hN (.cons (cmU (rs := [(5, .p I6 a0.fK)]) rfl rfl o0 (.int _ _ _) rfl) (.cons (mvA (v := .p .bool ((a0.fK == 1) : Bool)) rfl rfl) .nil)) (by kernel_rfl) ?_
  refine tnU ?_
  refine cdU (b := (a0.fK == 1)) (.tmp m3_) (fun hc2 => ?_) (fun hc2 => ?_)
  ·replace h := ite_t hc2 h
   refine sq_ ?_
   refine rg4 (st1 := ⟨[(12, .p .bool ((!(a0.fO.fN == [] && (a0.fO.fC == [] && (a0.fO.fT == 0 && true)))) : Bool))], []⟩) [12] [] hN (.cons (fdB (rs := [(1, .loc 1 0)]) rfl rfl fd_103_1 (by decide) o0) (.cons (ldB (t := .named 3) (rs := [(9, .loc 1 1)]) [.p I6 a0.fK] [.p .str a0.fO.fN, .p .str a0.fO.fC, .p I6 a0.fO.fT] [.p .str a0.fW.fN, .p .str a0.fW.fC, .p I6 a0.fW.fT] (v := .p (.named 3) ((TF.mk a0.fO.fN a0.fO.fC a0.fO.fT) : TF)) rfl rfl ty_24 o0 rfl rfl rfl rfl (.data (.named (us := ([.p .str a0.fO.fN, .p .str a0.fO.fC, .p I6 a0.fO.fT] : List (AVal Un))) (.pair (.one _ _) (.pair (.one _ _) (.pair (.one _ _) .unit)))))) (.cons (ldB (t := .named 3) (rs := [(3, .loc 3 0)]) [] [.p .str ([] : List UInt8), .p .str ([] : List UInt8), .p I6 (0 : Int)] [] (v := .p (.named 3) ((TF.mk [] [] 0) : TF)) rfl rfl ty_24 o0 rfl rfl rfl rfl (.data (.named (us := ([.p .str ([] : List UInt8), .p .str ([] : List UInt8), .p I6 (0 : Int)] : List (AVal Un))) (.pair (.one _ _) (.pair (.one _ _) (.pair (.one _ _) .unit)))))) (.cons (u49_ (rs := [(10, .p (.named 3) ((TF.mk a0.fO.fN a0.fO.fC a0.fO.fT) : TF)), (11, .p (.named 3) ((TF.mk [] [] 0) : TF))]) rfl rfl Tryd.underlying24 (by kernel_rfl) (eqf_24 _ Tryd.underlying24) (by kernel_rfl) o0 o1) .nil)))) (by kernel_rfl) ?_
   refine tnU ?_
   refine cdU (b := (!(a0.fO.fN == [] && (a0.fO.fC == [] && (a0.fO.fT == 0 && true))))) o0 (fun hc3 => ?_) (fun hc3 => ?_)
   ·replace h := ite_t hc3 h
    refine sq_ ?_
    refine rg4 (st1 := ⟨[(2, .p .err (3 : Nat))], []⟩) [2] [] hN (.cons (u41_ (t := .err) (rs := []) rfl rfl ty_31 rfl rfl (hO.var 2 7 rfl) (fun S w => .err 2)) (.cons (mvA (v := .p .err (3 : Nat)) rfl rfl) .nil)) (by kernel_rfl) ?_
    refine tnU ?_
    refine wr_ ?_
    refine blockQ_ret ?_
    refine tr_ ?_
    have hq := Option.some.inj h
    subst hq
    exact ends_ret (retV_1 rfl (.head _)) ain_nil
   ·replace h := ite_f hc3 h
    refine wc_ (cvK (b := ⟨[], []⟩) [] [] (by kernel_rfl)) (ws_ ?_)
    refine bn_ ?_
    refine tnU ?_
    exact ⟨h, rfl⟩
  ·replace h := ite_f hc2 h
   refine sq_ ?_
   refine rg4 (st1 := ⟨[(1, .loc 1 0), (3, .loc 3 0), (5, .p I6 a0.fK), (14, .p .bool ((a0.fK == 2) : Bool))], [(1, .box [.p I6 a0.fK, .p .str a0.fO.fN, .p .str a0.fO.fC, .p I6 a0.fO.fT, .p .str a0.fW.fN, .p .str a0.fW.fC, .p I6 a0.fW.fT]), (3, .box [.p .str ([] : List UInt8), .p .str ([] : List UInt8), .p I6 (0 : Int)])]⟩) [1, 3, 5, 14] [1, 3] hN (.cons (cmU (rs := [(5, .p I6 a0.fK)]) rfl rfl o0 (.int _ _ _) rfl) (.cons (mvA (v := .p .bool ((a0.fK == 2) : Bool)) rfl rfl) .nil)) (by kernel_rfl) ?_
   refine tnU ?_
   refine cdU (b := (a0.fK == 2)) (.tmp m3_) (fun hc4 => ?_) (fun hc4 => ?_)
   ·replace h := ite_t hc4 h
    refine sqJ (fun st' => ∃ v5 : Bool, delta_Change_check.j7 k v5 = some out ∧ st' = ⟨[(29, .p .bool v5)], []⟩) ?_ ?_
    ·rcases bool_cases (!(a0.fO.fN == a0.fW.fN)) with hc8 | hc8
     ·replace h := ite_t hc8 h
      refine rg4 (st1 := ⟨[(29, .p .bool true)], []⟩) [29] [] hN (.cons (fdB (rs := [(1, .loc 1 0)]) rfl rfl fd_103_1 (by decide) o0) (.cons (fdB (rs := [(16, .loc 1 1)]) rfl rfl fd_24_0 (by decide) o0) (.cons (ldB (t := .str) (rs := [(17, .loc 1 1)]) [.p I6 a0.fK] [.p .str a0.fO.fN] [.p .str a0.fO.fC, .p I6 a0.fO.fT, .p .str a0.fW.fN, .p .str a0.fW.fC, .p I6 a0.fW.fT] (v := .p .str a0.fO.fN) rfl rfl ty_9 o0 rfl rfl rfl rfl (.data (.one _ _))) (.cons (fdB (rs := [(1, .loc 1 0)]) rfl rfl fd_103_2 (by decide) o0) (.cons (fdB (rs := [(19, .loc 1 4)]) rfl rfl fd_24_0 (by decide) o0) (.cons (ldB (t := .str) (rs := [(20, .loc 1 4)]) [.p I6 a0.fK, .p .str a0.fO.fN, .p .str a0.fO.fC, .p I6 a0.fO.fT] [.p .str a0.fW.fN] [.p .str a0.fW.fC, .p I6 a0.fW.fT] (v := .p .str a0.fW.fN) rfl rfl ty_9 o0 rfl rfl rfl rfl (.data (.one _ _))) (.cons (u27_ (rs := [(18, .p .str a0.fO.fN), (21, .p .str a0.fW.fN)]) rfl rfl o0 o1 rfl) (.cons (mvU (v := .p .bool ((!(a0.fO.fN == a0.fW.fN)) : Bool)) rfl rfl) (.cons (skU rfl rfl hc8) (.cons (skU rfl rfl hc8) (.cons (skU rfl rfl hc8) (.cons (skU rfl rfl hc8) (.cons (skU rfl rfl hc8) (.cons (pkT (rs := [(23, .p .bool ((!(a0.fO.fN == a0.fW.fN)) : Bool))]) rfl rfl o0 hc8 (.bool _ _)) .nil)))))))))))))) (by kernel_rfl) ?_
      refine tnU ?_
      exact ⟨true, h, rfl⟩
     ·replace h := ite_f hc8 h
      refine rg4 (st1 := ⟨[(29, .p .bool ((a0.fO.fN == a0.fW.fN && (a0.fO.fC == a0.fW.fC && (a0.fO.fT == a0.fW.fT && true))) : Bool))], []⟩) [29] [] hN (.cons (fdB (rs := [(1, .loc 1 0)]) rfl rfl fd_103_1 (by decide) o0) (.cons (fdB (rs := [(16, .loc 1 1)]) rfl rfl fd_24_0 (by decide) o0) (.cons (ldB (t := .str) (rs := [(17, .loc 1 1)]) [.p I6 a0.fK] [.p .str a0.fO.fN] [.p .str a0.fO.fC, .p I6 a0.fO.fT, .p .str a0.fW.fN, .p .str a0.fW.fC, .p I6 a0.fW.fT] (v := .p .str a0.fO.fN) rfl rfl ty_9 o0 rfl rfl rfl rfl (.data (.one _ _))) (.cons (fdB (rs := [(1, .loc 1 0)]) rfl rfl fd_103_2 (by decide) o0) (.cons (fdB (rs := [(19, .loc 1 4)]) rfl rfl fd_24_0 (by decide) o0) (.cons (ldB (t := .str) (rs := [(20, .loc 1 4)]) [.p I6 a0.fK, .p .str a0.fO.fN, .p .str a0.fO.fC, .p I6 a0.fO.fT] [.p .str a0.fW.fN] [.p .str a0.fW.fC, .p I6 a0.fW.fT] (v := .p .str a0.fW.fN) rfl rfl ty_9 o0 rfl rfl rfl rfl (.data (.one _ _))) (.cons (u27_ (rs := [(18, .p .str a0.fO.fN), (21, .p .str a0.fW.fN)]) rfl rfl o0 o1 rfl) (.cons (mvU (v := .p .bool ((!(a0.fO.fN == a0.fW.fN)) : Bool)) rfl rfl) (.cons (sok_run rfl rfl hc8 (fdB (rs := [(1, .loc 1 0)]) rfl rfl fd_103_1 (by decide) o0)) (.cons (sok_run rfl rfl hc8 (ldB (t := .named 3) (rs := [(24, .loc 1 1)]) [.p I6 a0.fK] [.p .str a0.fO.fN, .p .str a0.fO.fC, .p I6 a0.fO.fT] [.p .str a0.fW.fN, .p .str a0.fW.fC, .p I6 a0.fW.fT] (v := .p (.named 3) ((TF.mk a0.fO.fN a0.fO.fC a0.fO.fT) : TF)) rfl rfl ty_24 o0 rfl rfl rfl rfl (.data (.named (us := ([.p .str a0.fO.fN, .p .str a0.fO.fC, .p I6 a0.fO.fT] : List (AVal Un))) (.pair (.one _ _) (.pair (.one _ _) (.pair (.one _ _) .unit))))))) (.cons (sok_run rfl rfl hc8 (fdB (rs := [(1, .loc 1 0)]) rfl rfl fd_103_2 (by decide) o0)) (.cons (sok_run rfl rfl hc8 (ldB (t := .named 3) (rs := [(26, .loc 1 4)]) [.p I6 a0.fK, .p .str a0.fO.fN, .p .str a0.fO.fC, .p I6 a0.fO.fT] [.p .str a0.fW.fN, .p .str a0.fW.fC, .p I6 a0.fW.fT] [] (v := .p (.named 3) ((TF.mk a0.fW.fN a0.fW.fC a0.fW.fT) : TF)) rfl rfl ty_24 o0 rfl rfl rfl rfl (.data (.named (us := ([.p .str a0.fW.fN, .p .str a0.fW.fC, .p I6 a0.fW.fT] : List (AVal Un))) (.pair (.one _ _) (.pair (.one _ _) (.pair (.one _ _) .unit))))))) (.cons (sok_run rfl rfl hc8 (u30_ (rs := [(25, .p (.named 3) ((TF.mk a0.fO.fN a0.fO.fC a0.fO.fT) : TF)), (27, .p (.named 3) ((TF.mk a0.fW.fN a0.fW.fC a0.fW.fT) : TF))]) rfl rfl Tryd.underlying24 (by kernel_rfl) (eqf_24 _ Tryd.underlying24) (by kernel_rfl) o0 o1)) (.cons (pkF (rs := [(23, .p .bool ((!(a0.fO.fN == a0.fW.fN)) : Bool)), (28, .p .bool ((a0.fO.fN == a0.fW.fN && (a0.fO.fC == a0.fW.fC && (a0.fO.fT == a0.fW.fT && true))) : Bool))]) rfl rfl o0 hc8 o1) .nil)))))))))))))) (by kernel_rfl) ?_
      refine tnU ?_
      exact ⟨(a0.fO.fN == a0.fW.fN && (a0.fO.fC == a0.fW.fC && (a0.fO.fT == a0.fW.fT && true))), h, rfl⟩
    ·rintro _ ⟨v5, h, rfl⟩
     unfold delta_Change_check.j7 at h
     refine cdU (b := v5) o0 (fun hc6 => ?_) (fun hc6 => ?_)
     ·replace h := ite_t hc6 h
      refine sq_ ?_
      refine rg4 (st1 := ⟨[(2, .p .err (3 : Nat))], []⟩) [2] [] hN (.cons (u41_ (t := .err) (rs := []) rfl rfl ty_31 rfl rfl (hO.var 2 7 rfl) (fun S w => .err 2)) (.cons (mvA (v := .p .err (3 : Nat)) rfl rfl) .nil)) (by kernel_rfl) ?_
      refine tnU ?_
      refine wr_ ?_
      refine blockQ_ret ?_
      refine tr_ ?_
      have hq := Option.some.inj h
      subst hq
      exact ends_ret (retV_1 rfl (.head _)) ain_nil
     ·replace h := ite_f hc6 h
      refine wc_ (cvK (b := ⟨[], []⟩) [] [] (by kernel_rfl)) (ws_ ?_)
      refine bn_ ?_
      refine tnU ?_
      exact ⟨h, rfl⟩
   ·replace h := ite_f hc4 h
    refine sq_ ?_
    refine rg4 (st1 := ⟨[(1, .loc 1 0), (3, .loc 3 0), (31, .p .bool ((a0.fK == 3) : Bool))], [(1, .box [.p I6 a0.fK, .p .str a0.fO.fN, .p .str a0.fO.fC, .p I6 a0.fO.fT, .p .str a0.fW.fN, .p .str a0.fW.fC, .p I6 a0.fW.fT]), (3, .box [.p .str ([] : List UInt8), .p .str ([] : List UInt8), .p I6 (0 : Int)])]⟩) [1, 3, 31] [1, 3] hN (.cons (cmU (rs := [(5, .p I6 a0.fK)]) rfl rfl o0 (.int _ _ _) rfl) (.cons (mvA (v := .p .bool ((a0.fK == 3) : Bool)) rfl rfl) .nil)) (by kernel_rfl) ?_
    refine tnU ?_
    refine cdU (b := (a0.fK == 3)) (.tmp m2_) (fun hc9 => ?_) (fun hc9 => ?_)
    ·replace h := ite_t hc9 h
     refine sq_ ?_
     refine rg4 (st1 := ⟨[(36, .p .bool ((!(a0.fW.fN == [] && (a0.fW.fC == [] && (a0.fW.fT == 0 && true)))) : Bool))], []⟩) [36] [] hN (.cons (fdB (rs := [(1, .loc 1 0)]) rfl rfl fd_103_2 (by decide) o0) (.cons (ldB (t := .named 3) (rs := [(33, .loc 1 4)]) [.p I6 a0.fK, .p .str a0.fO.fN, .p .str a0.fO.fC, .p I6 a0.fO.fT] [.p .str a0.fW.fN, .p .str a0.fW.fC, .p I6 a0.fW.fT] [] (v := .p (.named 3) ((TF.mk a0.fW.fN a0.fW.fC a0.fW.fT) : TF)) rfl rfl ty_24 o0 rfl rfl rfl rfl (.data (.named (us := ([.p .str a0.fW.fN, .p .str a0.fW.fC, .p I6 a0.fW.fT] : List (AVal Un))) (.pair (.one _ _) (.pair (.one _ _) (.pair (.one _ _) .unit)))))) (.cons (ldB (t := .named 3) (rs := [(3, .loc 3 0)]) [] [.p .str ([] : List UInt8), .p .str ([] : List UInt8), .p I6 (0 : Int)] [] (v := .p (.named 3) ((TF.mk [] [] 0) : TF)) rfl rfl ty_24 o0 rfl rfl rfl rfl (.data (.named (us := ([.p .str ([] : List UInt8), .p .str ([] : List UInt8), .p I6 (0 : Int)] : List (AVal Un))) (.pair (.one _ _) (.pair (.one _ _) (.pair (.one _ _) .unit)))))) (.cons (u49_ (rs := [(34, .p (.named 3) ((TF.mk a0.fW.fN a0.fW.fC a0.fW.fT) : TF)), (35, .p (.named 3) ((TF.mk [] [] 0) : TF))]) rfl rfl Tryd.underlying24 (by kernel_rfl) (eqf_24 _ Tryd.underlying24) (by kernel_rfl) o0 o1) .nil)))) (by kernel_rfl) ?_
     refine tnU ?_
     refine cdU (b := (!(a0.fW.fN == [] && (a0.fW.fC == [] && (a0.fW.fT == 0 && true))))) o0 (fun hc10 => ?_) (fun hc10 => ?_)
     ·replace h := ite_t hc10 h
      refine sq_ ?_
      refine rg4 (st1 := ⟨[(2, .p .err (3 : Nat))], []⟩) [2] [] hN (.cons (u41_ (t := .err) (rs := []) rfl rfl ty_31 rfl rfl (hO.var 2 7 rfl) (fun S w => .err 2)) (.cons (mvA (v := .p .err (3 : Nat)) rfl rfl) .nil)) (by kernel_rfl) ?_
      refine tnU ?_
      refine wr_ ?_
      refine blockQ_ret ?_
      refine tr_ ?_
      have hq := Option.some.inj h
      subst hq
      exact ends_ret (retV_1 rfl (.head _)) ain_nil
     ·replace h := ite_f hc10 h
      refine wc_ (cvK (b := ⟨[], []⟩) [] [] (by kernel_rfl)) (ws_ ?_)
      refine bn_ ?_
      refine tnU ?_
      exact ⟨h, rfl⟩
    ·replace h := ite_f hc9 h
     refine sq_ ?_
     refine rg4 (st1 := ⟨[(2, .p .err (17 : Nat))], []⟩) [2] [] hN (.cons (u41_ (t := .err) (rs := []) rfl rfl ty_31 rfl rfl (hO.var 16 16 rfl) (fun S w => .err 16)) (.cons (mvA (v := .p .err (17 : Nat)) rfl rfl) .nil)) (by kernel_rfl) ?_
     refine tnU ?_
     refine wr_ ?_
     refine blockQ_ret ?_
     refine tr_ ?_
     have hq := Option.some.inj h
     subst hq
     exact ends_ret (retV_1 rfl (.head _)) ain_nil
 ·rintro _ ⟨h, rfl⟩
  unfold delta_Change_check.j1 at h
  refine sq_ ?_
  refine rg4 (st1 := ⟨[(2, .lit .nilIface)], []⟩) [2] [] hN (.cons (moU (rs := []) rfl (.inr rfl) (.lit _ _ rfl)) .nil) (by kernel_rfl) ?_
  refine tnU ?_
  refine wc_ (cvT (u5_ 2 (.head _)) (cvK (b := ⟨[(2, .p .err (0 : Nat))], []⟩) [2] [] (by kernel_rfl))) (wr_ ?_)
  have hq := Option.some.inj h
  subst hq
  exact ends_ret (retV_1 rfl (.head _)) ain_nil

theorem delta_Change_name.ok (O : Out) (hO : GOk O) (k : Nat) (a0 : TC) (out : List UInt8) (h : delta_Change_name.f k a0 = some out) : COk Un O Tryd.prog 65 { ar := [.p (.named 6) a0], r := .p .str out } := by
 refine cok_of_wp Tryd.func65 rfl (k := 12) rfl (Nat.le_of_ble_eq_true rfl) (namesOk_pure rfl rfl rfl rfl) ?_
 intro B hN
 refine ckS (b := ⟨[(0, .p (.named 6) a0)], []⟩) [0] [] (by kernel_rfl) ?_
 unfold delta_Change_name.f at h
 refine sq_ ?_
 refine rg4 (st1 := ⟨[(1, .loc 1 0)], [(1, .box [.p I6 a0.fK, .p .str a0.fO.fN, .p .str a0.fO.fC, .p I6 a0.fO.fT, .p .str a0.fW.fN, .p .str a0.fW.fC, .p I6 a0.fW.fT])]⟩) [1] [1] hN (.cons (u22_ (rs := [(0, .p (.named 6) a0)]) (d := 1) (us := [.p I6 a0.fK, .p .str a0.fO.fN, .p .str a0.fO.fC, .p I6 a0.fO.fT, .p .str a0.fW.fN, .p .str a0.fW.fC, .p I6 a0.fW.fT]) rfl rfl rfl o0 (.data (.named (us := ([.p I6 a0.fK, .p .str a0.fO.fN, .p .str a0.fO.fC, .p I6 a0.fO.fT, .p .str a0.fW.fN, .p .str a0.fW.fC, .p I6 a0.fW.fT] : List (AVal Un))) (.pair (.one _ _) (.pair (.named (us := ([.p .str a0.fO.fN, .p .str a0.fO.fC, .p I6 a0.fO.fT] : List (AVal Un))) (.pair (.one _ _) (.pair (.one _ _) (.pair (.one _ _) .unit)))) (.pair (.named (us := ([.p .str a0.fW.fN, .p .str a0.fW.fC, .p I6 a0.fW.fT] : List (AVal Un))) (.pair (.one _ _) (.pair (.one _ _) (.pair (.one _ _) .unit)))) .unit))))) rfl (notin_of (by kernel_rfl))) (.cons (moU (rs := []) rfl (.inr rfl) (.str _ _)) .nil)) (by kernel_rfl) ?_
 refine tnS ?_
 refine sq_ ?_
 refine rg4 (st1 := ⟨[(1, .loc 1 0), (5, .p .bool ((a0.fK == 1) : Bool))], [(1, .box [.p I6 a0.fK, .p .str a0.fO.fN, .p .str a0.fO.fC, .p I6 a0.fO.fT, .p .str a0.fW.fN, .p .str a0.fW.fC, .p I6 a0.fW.fT])]⟩) [1, 5] [1] hN (.cons (fdB (rs := [(1, .loc 1 0)]) rfl rfl fd_103_0 (by decide) o0) (.cons (ldB (t := .int .i64) (rs := [(3, .loc 1 0)]) [] [.p I6 a0.fK] [.p .str a0.fO.fN, .p .str a0.fO.fC, .p I6 a0.fO.fT, .p .str a0.fW.fN, .p .str a0.fW.fC, .p I6 a0.fW.fT] (v := .p I6 a0.fK) rfl rfl ty_3 o0 rfl rfl rfl rfl (.data (.one _ _))) (.cons (cmU (rs := [(4, .p I6 a0.fK)]) rfl rfl o0 (.int _ _ _) rfl) .nil))) (by kernel_rfl) ?_
 refine tnU ?_
 refine cdU (b := (a0.fK == 1)) o1 (fun hc1 => ?_) (fun hc1 => ?_)
 ·replace h := ite_t hc1 h
  refine sq_ ?_
  refine rg4 (st1 := ⟨[(2, .p .str a0.fW.fN)], []⟩) [2] [] hN (.cons (fdB (rs := [(1, .loc 1 0)]) rfl rfl fd_103_2 (by decide) o0) (.cons (fdB (rs := [(6, .loc 1 4)]) rfl rfl fd_24_0 (by decide) o0) (.cons (ldB (t := .str) (rs := [(7, .loc 1 4)]) [.p I6 a0.fK, .p .str a0.fO.fN, .p .str a0.fO.fC, .p I6 a0.fO.fT] [.p .str a0.fW.fN] [.p .str a0.fW.fC, .p I6 a0.fW.fT] (v := .p .str a0.fW.fN) rfl rfl ty_9 o0 rfl rfl rfl rfl (.data (.one _ _))) (.cons (mvA (v := .p .str a0.fW.fN) rfl rfl) .nil)))) (by kernel_rfl) ?_
  refine tnU ?_
  refine wr_ ?_
  refine tr_ ?_
  have hq := Option.some.inj h
  subst hq
  exact ends_ret (retV_1 rfl (.head _)) ain_nil
 ·replace h := ite_f hc1 h
  refine wc_ (cvK (b := ⟨[(1, .loc 1 0)], [(1, .box [.p I6 a0.fK, .p .str a0.fO.fN, .p .str a0.fO.fC, .p I6 a0.fO.fT, .p .str a0.fW.fN, .p .str a0.fW.fC, .p I6 a0.fW.fT])]⟩) [1] [1] (by kernel_rfl)) (ws_ ?_)
  refine tnS ?_
  refine rg4 (st1 := ⟨[(2, .p .str a0.fO.fN)], []⟩) [2] [] hN (.cons (fdB (rs := [(1, .loc 1 0)]) rfl rfl fd_103_1 (by decide) o0) (.cons (fdB (rs := [(9, .loc 1 1)]) rfl rfl fd_24_0 (by decide) o0) (.cons (ldB (t := .str) (rs := [(10, .loc 1 1)]) [.p I6 a0.fK] [.p .str a0.fO.fN] [.p .str a0.fO.fC, .p I6 a0.fO.fT, .p .str a0.fW.fN, .p .str a0.fW.fC, .p I6 a0.fW.fT] (v := .p .str a0.fO.fN) rfl rfl ty_9 o0 rfl rfl rfl rfl (.data (.one _ _))) (.cons (mvA (v := .p .str a0.fO.fN) rfl rfl) .nil)))) (by kernel_rfl) ?_
  refine tnU ?_
  refine wr_ ?_
  have hq := Option.some.inj h
  subst hq
  exact ends_ret (retV_1 rfl (.head _)) ain_nil

theorem delta_Check.ok (O : Out) (hO : GOk O) (k : Nat) (a0 : List TC) (out : Nat) (h : delta_Check.f k a0 = some out) : COk Un O Tryd.prog 39 { ar := [.p (.list (.named 6)) a0], r := .p .err out } := by
 refine cok_of_wp Tryd.func39 rfl (k := 31) rfl (Nat.le_of_ble_eq_true rfl) (namesOk_pure rfl rfl rfl rfl) ?_
 intro B hN
 refine ckS (b := ⟨[(0, .p (.list (.named 6)) a0)], []⟩) [0] [] (by kernel_rfl) ?_
 unfold delta_Check.f at h
 refine sq_ ?_
 refine rg4 (st1 := ⟨[(0, .p (.list (.named 6)) a0)], []⟩) [0] [] hN (.cons (moU (rs := []) rfl (.inr rfl) (.lit _ _ rfl)) .nil) (by kernel_rfl) ?_
 refine tnS ?_
 refine rg4 (st1 := ⟨[(0, .p (.list (.named 6)) a0), (3, .mp 7)], [(7, .map I6 ([] : List ((List UInt8) × Int)))]⟩) [0, 3] [7] hN (.cons (u45_ (t := .int .i64) (rs := []) (d := 7) rfl rfl rfl) (.cons (mvA (v := .mp 7) rfl rfl) .nil)) (by kernel_rfl) ?_
 refine tnU ?_
 refine sqJ (fun st' => ∃ v1 : List ((List UInt8) × Int), delta_Check.j3 k a0 v1 = some out ∧ st' = ⟨[(0, .p (.list (.named 6)) a0), (3, .mp 7)], [(7, .map I6 v1)]⟩) ?_ ?_
 ·refine sq_ ?_
  refine rg4 (st1 := ⟨[(0, .p (.list (.named 6)) a0), (3, .mp 7), (8, .p (.list (.named 6)) a0), (9, .p I6 ((a0.length : Int) : Int)), (10, .p I6 (0 : Int))], [(7, .map I6 ([] : List ((List UInt8) × Int)))]⟩) [0, 3, 8, 9, 10] [7] hN (.cons (mvU (v := .p (.list (.named 6)) a0) rfl rfl) (.cons (u36_ (rs := [(8, .p (.list (.named 6)) a0)]) rfl rfl Tryd.underlying60 o0) (.cons (moU (rs := []) rfl (.inl rfl) (.int _ _ _)) .nil))) (by kernel_rfl) ?_
  refine tnU ?_
  refine wb_ ?_
  obtain ⟨o8, hlo8, h⟩ := bind_some h
  have hout9 := h
  clear h
  refine u14_ (fun n st' => ∃ v4 : List ((List UInt8) × Int), ∃ v5 : Int, delta_Check.l6 k a0 n v4 v5 = some o8 ∧ st' = ⟨[(0, .p (.list (.named 6)) a0), (3, .mp 7), (8, .p (.list (.named 6)) a0), (9, .p I6 ((a0.length : Int) : Int)), (10, .p I6 v5)], [(7, .map I6 v4)]⟩) k ⟨[], 0, hlo8, rfl⟩ ?_
  clear hlo8
  rintro (_ | n) _ ⟨v4, v5, h, rfl⟩
  ·cases h
  ·rw [delta_Check.l6] at h
   refine sq_ ?_
   refine rg4 (st1 := ⟨[(0, .p (.list (.named 6)) a0), (3, .mp 7), (8, .p (.list (.named 6)) a0), (9, .p I6 ((a0.length : Int) : Int)), (10, .p I6 v5), (11, .p .bool ((decide (v5 < (a0.length : Int))) : Bool))], [(7, .map I6 v4)]⟩) [0, 3, 8, 9, 10, 11] [7] hN (.cons (cmU (rs := [(10, .p I6 v5), (9, .p I6 ((a0.length : Int) : Int))]) rfl rfl o0 o1 rfl) .nil) (by kernel_rfl) ?_
   refine tnS ?_
   refine cdU (b := (decide (v5 < (a0.length : Int)))) (.tmp m5_) (fun hc10 => ?_) (fun hc10 => ?_)
   ·replace h := ite_t hc10 h
    refine wc_ (cvK (b := ⟨[(0, .p (.list (.named 6)) a0), (3, .mp 7), (8, .p (.list (.named 6)) a0), (9, .p I6 ((a0.length : Int) : Int)), (10, .p I6 v5)], [(7, .map I6 v4)]⟩) [0, 3, 8, 9, 10] [7] (by kernel_rfl)) (ws_ ?_)
    refine tnS ?_
    refine wb_ ?_
    refine sq_ ?_
    obtain ⟨v11, hv11, h⟩ := bind_some h
    refine rg4 (st1 := ⟨[(0, .p (.list (.named 6)) a0), (3, .mp 7), (5, .loc 5 0), (8, .p (.list (.named 6)) a0), (9, .p I6 ((a0.length : Int) : Int)), (10, .p I6 v5)], [(5, .box [.p I6 v11.fK, .p .str v11.fO.fN, .p .str v11.fO.fC, .p I6 v11.fO.fT, .p .str v11.fW.fN, .p .str v11.fW.fC, .p I6 v11.fW.fT]), (7, .map I6 v4)]⟩) [0, 3, 5, 8, 9, 10] [5, 7] hN (.cons (u33_ (rs := [(8, .p (.list (.named 6)) a0), (10, .p I6 v5)]) rfl rfl sl_60 o0 o1 hv11) (.cons (u42_ (rs := [(12, .pp (.named 6) v11)]) rfl rfl ty_103 o0) (.cons (u18_ (rs := []) (d := 5) (us := [.p I6 (0 : Int), .p .str ([] : List UInt8), .p .str ([] : List UInt8), .p I6 (0 : Int), .p .str ([] : List UInt8), .p .str ([] : List UInt8), .p I6 (0 : Int)]) (v := (.agg #[.int .i64 0, .string ByteArray.empty, .string ByteArray.empty, .int .i64 0, .string ByteArray.empty, .string ByteArray.empty, .int .i64 0])) rfl rfl rfl (by kernel_rfl) rfl (.data (fun _ _ _ => .int _ _) (.data (fun _ _ _ => rd_str0) (.data (fun _ _ _ => rd_str0) (.data (fun _ _ _ => .int _ _) (.data (fun _ _ _ => rd_str0) (.data (fun _ _ _ => rd_str0) (.data (fun _ _ _ => .int _ _) .nil))))))) (by kernel_rfl)) (.cons (u54_ (rs := [(5, .loc 5 0), (13, .p (.named 6) v11)]) (v := .p (.named 6) v11) (mid' := [.p I6 v11.fK, .p .str v11.fO.fN, .p .str v11.fO.fC, .p I6 v11.fO.fT, .p .str v11.fW.fN, .p .str v11.fW.fC, .p I6 v11.fW.fT]) [] [.p I6 (0 : Int), .p .str ([] : List UInt8), .p .str ([] : List UInt8), .p I6 (0 : Int), .p .str ([] : List UInt8), .p .str ([] : List UInt8), .p I6 (0 : Int)] [] rfl rfl rfl ty_103 o0 o1 (.data (.named (us := ([.p I6 v11.fK, .p .str v11.fO.fN, .p .str v11.fO.fC, .p I6 v11.fO.fT, .p .str v11.fW.fN, .p .str v11.fW.fC, .p I6 v11.fW.fT] : List (AVal Un))) (.pair (.one _ _) (.pair (.named (us := ([.p .str v11.fO.fN, .p .str v11.fO.fC, .p I6 v11.fO.fT] : List (AVal Un))) (.pair (.one _ _) (.pair (.one _ _) (.pair (.one _ _) .unit)))) (.pair (.named (us := ([.p .str v11.fW.fN, .p .str v11.fW.fC, .p I6 v11.fW.fT] : List (AVal Un))) (.pair (.one _ _) (.pair (.one _ _) (.pair (.one _ _) .unit)))) .unit))))) rfl rfl rfl rfl rfl rfl) .nil)))) (by kernel_rfl) ?_
    refine tnS ?_
    refine sq_ ?_
    obtain ⟨v12, hv12, h⟩ := bind_some h
    refine rg4 (st1 := ⟨[(0, .p (.list (.named 6)) a0), (3, .mp 7), (5, .loc 5 0), (6, .p .err v12), (8, .p (.list (.named 6)) a0), (9, .p I6 ((a0.length : Int) : Int)), (10, .p I6 v5)], [(5, .box [.p I6 v11.fK, .p .str v11.fO.fN, .p .str v11.fO.fC, .p I6 v11.fO.fT, .p .str v11.fW.fN, .p .str v11.fW.fC, .p I6 v11.fW.fT]), (7, .map I6 v4)]⟩) [0, 3, 5, 6, 8, 9, 10] [5, 7] hN (.cons (ldB (t := .named 6) (rs := [(5, .loc 5 0)]) [] [.p I6 v11.fK, .p .str v11.fO.fN, .p .str v11.fO.fC, .p I6 v11.fO.fT, .p .str v11.fW.fN, .p .str v11.fW.fC, .p I6 v11.fW.fT] [] (v := .p (.named 6) ((TC.mk v11.fK (TF.mk v11.fO.fN v11.fO.fC v11.fO.fT) (TF.mk v11.fW.fN v11.fW.fC v11.fW.fT)) : TC)) rfl rfl ty_103 o0 rfl rfl rfl rfl (.data (.named (us := ([.p I6 v11.fK, .p .str v11.fO.fN, .p .str v11.fO.fC, .p I6 v11.fO.fT, .p .str v11.fW.fN, .p .str v11.fW.fC, .p I6 v11.fW.fT] : List (AVal Un))) (.pair (.one _ _) (.pair (.named (us := ([.p .str v11.fO.fN, .p .str v11.fO.fC, .p I6 v11.fO.fT] : List (AVal Un))) (.pair (.one _ _) (.pair (.one _ _) (.pair (.one _ _) .unit)))) (.pair (.named (us := ([.p .str v11.fW.fN, .p .str v11.fW.fC, .p I6 v11.fW.fT] : List (AVal Un))) (.pair (.one _ _) (.pair (.one _ _) (.pair (.one _ _) .unit)))) .unit)))))) (.cons (caV (rs := [(14, .p (.named 6) ((TC.mk v11.fK (TF.mk v11.fO.fN v11.fO.fC v11.fO.fT) (TF.mk v11.fW.fN v11.fW.fC v11.fW.fT)) : TC))]) (vw := []) rfl rfl (.func _) hb_64 (delta_Change_check.ok O hO k (TC.mk v11.fK (TF.mk v11.fO.fN v11.fO.fC v11.fO.fT) (TF.mk v11.fW.fN v11.fW.fC v11.fW.fT)) v12 hv12) (.cons o0 .nil) (.cons (.same _) .nil) (by simp) (.inl rfl)) (.cons (mvA (v := .p .err v12) rfl rfl) .nil))) (by kernel_rfl) ?_
    refine tnS ?_
    refine rg4 (st1 := ⟨[(0, .p (.list (.named 6)) a0), (3, .mp 7), (5, .loc 5 0), (6, .p .err v12), (8, .p (.list (.named 6)) a0), (9, .p I6 ((a0.length : Int) : Int)), (10, .p I6 v5), (17, .p .bool ((!(v12 == 0)) : Bool))], [(5, .box [.p I6 v11.fK, .p .str v11.fO.fN, .p .str v11.fO.fC, .p I6 v11.fO.fT, .p .str v11.fW.fN, .p .str v11.fW.fC, .p I6 v11.fW.fT]), (7, .map I6 v4)]⟩) [0, 3, 5, 6, 8, 9, 10, 17] [5, 7] hN (.cons (mvU (v := .p .err v12) rfl rfl) (.cons (u31_ (rs := [(16, .p .err v12)]) rfl rfl Tryd.underlying31 o0 rfl) .nil)) (by kernel_rfl) ?_
    refine tnU ?_
    refine cdU (b := (!(v12 == 0))) (.tmp m7_) (fun hc13 => ?_) (fun hc13 => ?_)
    ·replace h := ite_t hc13 h
     refine sq_ ?_
     refine rg4 (st1 := ⟨[(2, .p .err v12)], []⟩) [2] [] hN (.cons (mvU (v := .p .err v12) rfl rfl) (.cons (mvA (v := .p .err v12) rfl rfl) .nil)) (by kernel_rfl) ?_
     refine tnU ?_
     refine wr_ ?_
     refine tr_ ?_
     refine blockQ_ret ?_
     refine tr_ ?_
     have hq := Option.some.inj h
     subst hq
     refine tr_ ?_
     have h := hout9
     refine blockQ_ret ?_
     refine tr_ ?_
     have hq := Option.some.inj h
     subst hq
     exact ends_ret (retV_1 rfl (.head _)) ain_nil
    ·replace h := ite_f hc13 h
     refine wc_ (cvK (b := ⟨[(0, .p (.list (.named 6)) a0), (3, .mp 7), (5, .loc 5 0), (8, .p (.list (.named 6)) a0), (9, .p I6 ((a0.length : Int) : Int)), (10, .p I6 v5)], [(5, .box [.p I6 v11.fK, .p .str v11.fO.fN, .p .str v11.fO.fC, .p I6 v11.fO.fT, .p .str v11.fW.fN, .p .str v11.fW.fC, .p I6 v11.fW.fT]), (7, .map I6 v4)]⟩) [0, 3, 5, 8, 9, 10] [5, 7] (by kernel_rfl)) (ws_ ?_)
     refine tnU ?_
     obtain ⟨v14, hv14, h⟩ := bind_some h
     refine rg4 (st1 := ⟨[(0, .p (.list (.named 6)) a0), (3, .mp 7), (8, .p (.list (.named 6)) a0), (9, .p I6 ((a0.length : Int) : Int)), (10, .p I6 v5)], [(7, .map I6 ((mput v14 (IntKind.i64.wrap (((mget v14 v4).getD 0) + 1)) v4) : List ((List UInt8) × Int)))]⟩) [0, 3, 8, 9, 10] [7] hN (.cons (mvU (v := .mp 7) rfl rfl) (.cons (ldB (t := .named 6) (rs := [(5, .loc 5 0)]) [] [.p I6 v11.fK, .p .str v11.fO.fN, .p .str v11.fO.fC, .p I6 v11.fO.fT, .p .str v11.fW.fN, .p .str v11.fW.fC, .p I6 v11.fW.fT] [] (v := .p (.named 6) ((TC.mk v11.fK (TF.mk v11.fO.fN v11.fO.fC v11.fO.fT) (TF.mk v11.fW.fN v11.fW.fC v11.fW.fT)) : TC)) rfl rfl ty_103 o0 rfl rfl rfl rfl (.data (.named (us := ([.p I6 v11.fK, .p .str v11.fO.fN, .p .str v11.fO.fC, .p I6 v11.fO.fT, .p .str v11.fW.fN, .p .str v11.fW.fC, .p I6 v11.fW.fT] : List (AVal Un))) (.pair (.one _ _) (.pair (.named (us := ([.p .str v11.fO.fN, .p .str v11.fO.fC, .p I6 v11.fO.fT] : List (AVal Un))) (.pair (.one _ _) (.pair (.one _ _) (.pair (.one _ _) .unit)))) (.pair (.named (us := ([.p .str v11.fW.fN, .p .str v11.fW.fC, .p I6 v11.fW.fT] : List (AVal Un))) (.pair (.one _ _) (.pair (.one _ _) (.pair (.one _ _) .unit)))) .unit)))))) (.cons (caV (rs := [(20, .p (.named 6) ((TC.mk v11.fK (TF.mk v11.fO.fN v11.fO.fC v11.fO.fT) (TF.mk v11.fW.fN v11.fW.fC v11.fW.fT)) : TC))]) (vw := []) rfl rfl (.func _) hb_65 (delta_Change_name.ok O hO k (TC.mk v11.fK (TF.mk v11.fO.fN v11.fO.fC v11.fO.fT) (TF.mk v11.fW.fN v11.fW.fC v11.fW.fT)) v14 hv14) (.cons o0 .nil) (.cons (.same _) .nil) (by simp) (.inl rfl)) (.cons (u43_ (t := .int .i64) (kvs := v4) (rs := [(19, .mp 7), (21, .p .str v14)]) rfl rfl map_105 zv_3 o0 o1) (.cons (u21_ (rs := [(22, .p I6 (((mget v14 v4).getD 0) : Int))]) rfl rfl o0 (.int _ _ _) rfl) (.cons (u46_ (t := .int .i64) (kvs := v4) (rs := [(19, .mp 7), (21, .p .str v14), (23, .p I6 ((IntKind.i64.wrap (((mget v14 v4).getD 0) + 1)) : Int))]) rfl rfl rfl map_105 o0 o1 (.tmp m2_)) .nil)))))) (by kernel_rfl) ?_
     refine bn_ ?_
     refine tnU ?_
     refine rg4 (st1 := ⟨[(0, .p (.list (.named 6)) a0), (3, .mp 7), (8, .p (.list (.named 6)) a0), (9, .p I6 ((a0.length : Int) : Int)), (10, .p I6 ((IntKind.i64.wrap (v5 + 1)) : Int))], [(7, .map I6 ((mput v14 (IntKind.i64.wrap (((mget v14 v4).getD 0) + 1)) v4) : List ((List UInt8) × Int)))]⟩) [0, 3, 8, 9, 10] [7] hN (.cons (u21_ (rs := [(10, .p I6 v5)]) rfl rfl o0 (.int _ _ _) rfl) (.cons (mvU (v := .p I6 ((IntKind.i64.wrap (v5 + 1)) : Int)) rfl rfl) .nil)) (by kernel_rfl) ?_
     refine tnU ?_
     exact ⟨n, Nat.lt_succ_self n, (mput v14 (IntKind.i64.wrap (((mget v14 v4).getD 0) + 1)) v4), (IntKind.i64.wrap (v5 + 1)), h, rfl⟩
   ·replace h := ite_f hc10 h
    refine wc_ (cvK (b := ⟨[(0, .p (.list (.named 6)) a0), (3, .mp 7)], [(7, .map I6 v4)]⟩) [0, 3] [7] (by kernel_rfl)) (we_ ?_)
    refine te_ ?_
    have hq := Option.some.inj h
    subst hq
    refine te_ ?_
    have h := hout9
    refine blockQ_hit ?_
    refine tnU ?_
    exact ⟨v4, h, rfl⟩
 ·rintro _ ⟨v1, h, rfl⟩
  unfold delta_Check.j3 at h
  refine sq_ ?_
  refine sq_ ?_
  refine rg4 (st1 := ⟨[(29, .p .bool ((decide ((v1.length : Int) < (a0.length : Int))) : Bool))], []⟩) [29] [] hN (.cons (mvU (v := .mp 7) rfl rfl) (.cons (u37_ (t := .int .i64) (kvs := v1) (rs := [(25, .mp 7)]) rfl rfl map_105 o0) (.cons (mvU (v := .p (.list (.named 6)) a0) rfl rfl) (.cons (u36_ (rs := [(27, .p (.list (.named 6)) a0)]) rfl rfl Tryd.underlying60 o0) (.cons (cmU (rs := [(26, .p I6 ((v1.length : Int) : Int)), (28, .p I6 ((a0.length : Int) : Int))]) rfl rfl o0 o1 rfl) .nil))))) (by kernel_rfl) ?_
  refine tnU ?_
  refine cdU (b := (decide ((v1.length : Int) < (a0.length : Int)))) o0 (fun hc2 => ?_) (fun hc2 => ?_)
  ·replace h := ite_t hc2 h
   refine sq_ ?_
   refine rg4 (st1 := ⟨[(2, .p .err (9 : Nat))], []⟩) [2] [] hN (.cons (u41_ (t := .err) (rs := []) rfl rfl ty_31 rfl rfl (hO.var 8 0 rfl) (fun S w => .err 8)) (.cons (mvA (v := .p .err (9 : Nat)) rfl rfl) .nil)) (by kernel_rfl) ?_
   refine tnU ?_
   refine wr_ ?_
   refine tr_ ?_
   have hq := Option.some.inj h
   subst hq
   exact ends_ret (retV_1 rfl (.head _)) ain_nil
  ·replace h := ite_f hc2 h
   refine wc_ (cvK (b := ⟨[], []⟩) [] [] (by kernel_rfl)) (ws_ ?_)
   refine tnS ?_
   refine rg4 (st1 := ⟨[(2, .lit .nilIface)], []⟩) [2] [] hN (.cons (moU (rs := []) rfl (.inr rfl) (.lit _ _ rfl)) .nil) (by kernel_rfl) ?_
   refine tnU ?_
   refine wc_ (cvT (u5_ 2 (.head _)) (cvK (b := ⟨[(2, .p .err (0 : Nat))], []⟩) [2] [] (by kernel_rfl))) (wr_ ?_)
   have hq := Option.some.inj h
   subst hq
   exact ends_ret (retV_1 rfl (.head _)) ain_nil

theorem W41_alive.ok (O : Out) (hO : GOk O) (k : Nat) (out : Bool) (h : W41_alive.f k = some out) : COk Un O Tryd.prog 30 { ar := [], r := .p .bool out } := by
 refine cok_of_wp Tryd.func30 rfl (k := 42) rfl (Nat.le_of_ble_eq_true rfl) (namesOk_pure rfl rfl rfl rfl) ?_
 intro B hN
 refine ckS (b := ⟨[], []⟩) [] [] (by kernel_rfl) ?_
 unfold W41_alive.f at h
 refine sq_ ?_
 refine rg4 (st1 := ⟨[], []⟩) [] [] hN (.cons (moU (rs := []) rfl (.inr rfl) (.bool _ _)) .nil) (by kernel_rfl) ?_
 refine tnS ?_
 obtain ⟨v1, hv1, h⟩ := bind_some h
 refine rg4 (st1 := ⟨[(1, .opt v1.1 10001), (2, .p .err v1.2.2)], [(10001, .opt v1.1 (.box [.mp 10002])), (10002, .opt v1.1 (.map (.named 3) v1.2.1))]⟩) [1, 2] [10001, 10002] hN (.cons (u23_ (t := .named 3) (rs := []) (us0 := [.p .str ([] : List UInt8), .p .str ([] : List UInt8), .p I6 (0 : Int)]) (us := [.p .str (([97] : List UInt8) : List UInt8), .p .str ([] : List UInt8), .p I6 (1 : Int)]) (v := .p (.named 3) ((TF.mk ([97] : List UInt8) [] 1) : TF)) rfl rfl lays_24 (.data (fun _ _ _ => rd_str0) (.data (fun _ _ _ => rd_str0) (.data (fun _ _ _ => .int _ _) .nil))) (Filled.cons (U := Un) (i := 0) (v := .p .str (([97] : List UInt8) : List UInt8)) [] [.p .str ([] : List UInt8)] [.p .str (([97] : List UInt8) : List UInt8)] [.p .str ([] : List UInt8), .p I6 (0 : Int)] (.str _ _) (.data (.one _ _)) rfl rfl rfl rfl rfl rfl (Filled.cons (U := Un) (i := 2) (v := .p I6 (1 : Int)) [.p .str (([97] : List UInt8) : List UInt8), .p .str ([] : List UInt8)] [.p I6 (0 : Int)] [.p I6 (1 : Int)] [] (.int _ _ _) (.data (.one _ _)) rfl rfl rfl rfl rfl rfl (.nil _))) rfl (.data (.named (us := ([.p .str (([97] : List UInt8) : List UInt8), .p .str ([] : List UInt8), .p I6 (1 : Int)] : List (AVal Un))) (.pair (.one _ _) (.pair (.one _ _) (.pair (.one _ _) .unit)))))) (.cons (u24_ (t := .named 3) (rs := [(5, .p (.named 3) ((TF.mk ([97] : List UInt8) [] 1) : TF))]) (ys := [.tmp 5]) (xs := [(TF.mk ([97] : List UInt8) [] 1)]) rfl rfl rfl rfl row_22 (.cons o0 .nil) (by decide)) (.cons (u26_ (rs := [(6, .vec 6 3 0 ([(TF.mk ([97] : List UInt8) [] 1)].length))]) (vw := [(6, .row 24 (.named 3) [(TF.mk ([97] : List UInt8) [] 1)] true)]) rfl rfl (.func _) hb_11 (COk.ren (tree_Of.ok O hO k [(TF.mk ([97] : List UInt8) [] 1)] v1 hv1) (fun n => if n = 60500 then 10001 else if n = 60501 then 10002 else n) (injOn_of (by kernel_rfl))) (.cons o0 .nil) (.cons (.whole' (.head _) (by first | rfl | (simp only [upd_length, List.length_replicate, List.length_append]; done) | (simp only [upd_length, List.length_replicate, List.length_append] at *; omega) | omega)) .nil) (fun _ _ h => (List.not_mem_nil (show _ ∈ ([] : List Nat) from h)).elim)) (.cons (mvU (v := .tup [.opt v1.1 10001, .p .err v1.2.2]) rfl rfl) (.cons (exU (rs := [(4, .tup [.opt v1.1 10001, .p .err v1.2.2])]) rfl rfl o0 rfl) (.cons (exU (rs := [(4, .tup [.opt v1.1 10001, .p .err v1.2.2])]) rfl rfl o0 rfl) (.cons (mvA (v := .opt v1.1 10001) rfl rfl) (.cons (mvA (v := .p .err v1.2.2) rfl rfl) .nil)))))))) (by kernel_rfl) ?_
 refine tnU ?_
 refine sqJ (fun st' => W41_alive.j11 k v1 = some out ∧ st' = ⟨[(1, .opt v1.1 10001)], [(10001, .opt v1.1 (.box [.mp 10002])), (10002, .opt v1.1 (.map (.named 3) v1.2.1))]⟩) ?_ ?_
 ·refine sqJ (fun st' => ∃ v12 : Bool, W41_alive.j14 k v1 v12 = some out ∧ st' = ⟨[(1, .opt v1.1 10001), (15, .p .bool v12)], [(10001, .opt v1.1 (.box [.mp 10002])), (10002, .opt v1.1 (.map (.named 3) v1.2.1))]⟩) ?_ ?_
  ·rcases bool_cases (!(v1.2.2 == 0)) with hc15 | hc15
   ·replace h := ite_t hc15 h
    refine rg4 (st1 := ⟨[(1, .opt v1.1 10001), (15, .p .bool true)], [(10001, .opt v1.1 (.box [.mp 10002])), (10002, .opt v1.1 (.map (.named 3) v1.2.1))]⟩) [1, 15] [10001, 10002] hN (.cons (mvU (v := .p .err v1.2.2) rfl rfl) (.cons (u31_ (rs := [(10, .p .err v1.2.2)]) rfl rfl Tryd.underlying31 o0 rfl) (.cons (mvU (v := .p .bool ((!(v1.2.2 == 0)) : Bool)) rfl rfl) (.cons (skU rfl rfl hc15) (.cons (skU rfl rfl hc15) (.cons (pkT (rs := [(12, .p .bool ((!(v1.2.2 == 0)) : Bool))]) rfl rfl o0 hc15 (.bool _ _)) .nil)))))) (by kernel_rfl) ?_
    refine tnU ?_
    exact ⟨true, h, rfl⟩
   ·replace h := ite_f hc15 h
    refine rg4 (st1 := ⟨[(1, .opt v1.1 10001), (15, .p .bool ((!v1.1) : Bool))], [(10001, .opt v1.1 (.box [.mp 10002])), (10002, .opt v1.1 (.map (.named 3) v1.2.1))]⟩) [1, 15] [10001, 10002] hN (.cons (mvU (v := .p .err v1.2.2) rfl rfl) (.cons (u31_ (rs := [(10, .p .err v1.2.2)]) rfl rfl Tryd.underlying31 o0 rfl) (.cons (mvU (v := .p .bool ((!(v1.2.2 == 0)) : Bool)) rfl rfl) (.cons (sok_run rfl rfl hc15 (mvU (v := .opt v1.1 10001) rfl rfl)) (.cons (sok_run rfl rfl hc15 (eqU (rs := [(13, .opt v1.1 10001)]) rfl rfl Tryd.underlying29 o0 ptrV_opt)) (.cons (pkF (rs := [(12, .p .bool ((!(v1.2.2 == 0)) : Bool)), (14, .p .bool ((!v1.1) : Bool))]) rfl rfl o0 hc15 o1) .nil)))))) (by kernel_rfl) ?_
    refine tnU ?_
    exact ⟨(!v1.1), h, rfl⟩
  ·rintro _ ⟨v12, h, rfl⟩
   unfold W41_alive.j14 at h
   refine cdU (b := v12) o1 (fun hc13 => ?_) (fun hc13 => ?_)
   ·replace h := ite_t hc13 h
    refine sq_ ?_
    refine rg4 (st1 := ⟨[(0, .p .bool false)], []⟩) [0] [] hN (.cons (moU (rs := []) rfl (.inr rfl) (.bool _ _)) .nil) (by kernel_rfl) ?_
    refine tnU ?_
    refine wr_ ?_
    refine tr_ ?_
    have hq := Option.some.inj h
    subst hq
    exact ends_ret (retV_1 rfl (.head _)) ain_nil
   ·replace h := ite_f hc13 h
    refine wc_ (cvK (b := ⟨[(1, .opt v1.1 10001)], [(10001, .opt v1.1 (.box [.mp 10002])), (10002, .opt v1.1 (.map (.named 3) v1.2.1))]⟩) [1] [10001, 10002] (by kernel_rfl)) (ws_ ?_)
    refine tnU ?_
    exact ⟨h, rfl⟩
 ·rintro _ ⟨h, rfl⟩
  unfold W41_alive.j11 at h
  refine sq_ ?_
  obtain ⟨hc2, h⟩ := if_some h
  refine wc_ (cvT (u7_ 1 10001 hc2 (.head _)) (cvT (cvK (b := ⟨[(1, .loc 10001 0)], [(10001, .opt v1.1 (.box [.mp 10002])), (10002, .opt v1.1 (.map (.named 3) v1.2.1))]⟩) [1] [10001, 10002] (by kernel_rfl)) (cvT (u6_ 10001 (.box [.mp 10002]) hc2 (.head _)) (cvT (cvK (b := ⟨[(1, .loc 10001 0)], [(10001, .box [.mp 10002]), (10002, .opt v1.1 (.map (.named 3) v1.2.1))]⟩) [1] [10001, 10002] (by kernel_rfl)) (cvT (u6_ 10002 (.map (.named 3) v1.2.1) hc2 m1_) (cvK (b := ⟨[(1, .loc 10001 0)], [(10001, .box [.mp 10002]), (10002, .map (.named 3) v1.2.1)]⟩) [1] [10001, 10002] (by kernel_rfl))))))) ?_
  obtain ⟨v3, hv3, h⟩ := bind_some h
  obtain ⟨v4, hv4, h⟩ := bind_some h
  refine rg4 (st1 := ⟨[(3, .p (.list (.named 6)) v4)], []⟩) [3] [] hN (.cons (caV (rs := []) (vw := []) rfl rfl (.func _) hb_18 (COk.ren (tree_New.ok O hO k v3 hv3) (fun n => if n = 60500 then 10003 else if n = 60501 then 10004 else n) (injOn_of (by kernel_rfl))) .nil .nil (by simp) (.inl rfl)) (.cons (mvU (v := .loc 10001 0) rfl rfl) (.cons (caV (rs := [(16, .loc 10003 0), (17, .loc 10001 0)]) (vw := []) rfl rfl (.func _) hb_36 (COk.ren (delta_Of_m0.ok O hO k v3 v1.2.1 v4 hv4) (fun n => if n = 100000 then 10003 else if n = 100001 then 10004 else if n = 100002 then 10001 else if n = 100003 then 10002 else n) (injOn_of (by kernel_rfl))) (.cons o0 (.cons o1 .nil)) (.cons (.same _) (.cons (.same _) .nil)) (by simp) (.inl rfl)) (.cons (mvA (v := .p (.list (.named 6)) v4) rfl rfl) .nil)))) (by kernel_rfl) ?_
  refine tnS ?_
  rcases bool_cases ((v4.length : Int) == 1) with hc5 | hc5
  ·replace h := ite_t hc5 h
   obtain ⟨v6, hv6, h⟩ := bind_some h
   rcases bool_cases (v6.fK == 1) with hc7 | hc7
   ·replace h := ite_t hc7 h
    obtain ⟨v8, hv8, h⟩ := bind_some h
    rcases bool_cases (v8.fW.fN == ([97] : List UInt8)) with hc9 | hc9
    ·replace h := ite_t hc9 h
     obtain ⟨v10, hv10, h⟩ := bind_some h
     refine rg4 (st1 := ⟨[(0, .p .bool ((v10 == 0) : Bool))], []⟩) [0] [] hN (.cons (mvU (v := .p (.list (.named 6)) v4) rfl rfl) (.cons (u36_ (rs := [(19, .p (.list (.named 6)) v4)]) rfl rfl Tryd.underlying60 o0) (.cons (cmU (rs := [(20, .p I6 ((v4.length : Int) : Int))]) rfl rfl o0 (.int _ _ _) rfl) (.cons (mvU (v := .p .bool (((v4.length : Int) == 1) : Bool)) rfl rfl) (.cons (sok_run rfl rfl hc5 (mvU (v := .p (.list (.named 6)) v4) rfl rfl)) (.cons (sok_run rfl rfl hc5 (u33_ (rs := [(23, .p (.list (.named 6)) v4)]) rfl rfl sl_60 o0 (.int _ _ _) hv6)) (.cons (sok_run rfl rfl hc5 (u32_ (rs := [(24, .pp (.named 6) v6)]) rfl rfl fd_103_0 (by decide) o0 (.named (.fst (.here _ _))))) (.cons (sok_run rfl rfl hc5 (u42_ (rs := [(25, .pp I6 v6.fK)]) rfl rfl ty_3 o0)) (.cons (sok_run rfl rfl hc5 (cmU (rs := [(26, .p I6 v6.fK)]) rfl rfl o0 (.int _ _ _) rfl)) (.cons (pkT (rs := [(22, .p .bool (((v4.length : Int) == 1) : Bool)), (27, .p .bool ((v6.fK == 1) : Bool))]) rfl rfl o0 hc5 o1) (.cons (mvU (v := .p .bool ((v6.fK == 1) : Bool)) rfl rfl) (.cons (sok_run rfl rfl hc7 (mvU (v := .p (.list (.named 6)) v4) rfl rfl)) (.cons (sok_run rfl rfl hc7 (u33_ (rs := [(30, .p (.list (.named 6)) v4)]) rfl rfl sl_60 o0 (.int _ _ _) hv8)) (.cons (sok_run rfl rfl hc7 (u32_ (rs := [(31, .pp (.named 6) v8)]) rfl rfl fd_103_2 (by decide) o0 (.named (.snd (.snd (.fst (.here _ _)) rfl) rfl)))) (.cons (sok_run rfl rfl hc7 (u32_ (rs := [(32, .pp (.named 3) v8.fW)]) rfl rfl fd_24_0 (by decide) o0 (.named (.fst (.here _ _))))) (.cons (sok_run rfl rfl hc7 (u42_ (rs := [(33, .pp .str v8.fW.fN)]) rfl rfl ty_9 o0)) (.cons (sok_run rfl rfl hc7 (u27_ (rs := [(34, .p .str v8.fW.fN)]) rfl rfl o0 (.str _ _) rfl)) (.cons (pkT (rs := [(29, .p .bool ((v6.fK == 1) : Bool)), (35, .p .bool ((v8.fW.fN == ([97] : List UInt8)) : Bool))]) rfl rfl o0 hc7 o1) (.cons (mvU (v := .p .bool ((v8.fW.fN == ([97] : List UInt8)) : Bool)) rfl rfl) (.cons (sok_run rfl rfl hc9 (mvU (v := .p (.list (.named 6)) v4) rfl rfl)) (.cons (sok_run rfl rfl hc9 (caV (rs := [(38, .p (.list (.named 6)) v4)]) (vw := []) rfl rfl (.func _) hb_39 (delta_Check.ok O hO k v4 v10 hv10) (.cons o0 .nil) (.cons (.same _) .nil) (by simp) (.inl rfl))) (.cons (sok_run rfl rfl hc9 (u31_ (rs := [(39, .p .err v10)]) rfl rfl Tryd.underlying31 o0 rfl)) (.cons (pkT (rs := [(37, .p .bool ((v8.fW.fN == ([97] : List UInt8)) : Bool)), (40, .p .bool ((v10 == 0) : Bool))]) rfl rfl o0 hc9 o1) (.cons (mvA (v := .p .bool ((v10 == 0) : Bool)) rfl rfl) .nil)))))))))))))))))))))))) (by kernel_rfl) ?_
     refine tnU ?_
     refine wr_ ?_
     have hq := Option.some.inj h
     subst hq
     exact ends_ret (retV_1 rfl (.head _)) ain_nil
    ·replace h := ite_f hc9 h
     refine rg4 (st1 := ⟨[(0, .p .bool false)], []⟩) [0] [] hN (.cons (mvU (v := .p (.list (.named 6)) v4) rfl rfl) (.cons (u36_ (rs := [(19, .p (.list (.named 6)) v4)]) rfl rfl Tryd.underlying60 o0) (.cons (cmU (rs := [(20, .p I6 ((v4.length : Int) : Int))]) rfl rfl o0 (.int _ _ _) rfl) (.cons (mvU (v := .p .bool (((v4.length : Int) == 1) : Bool)) rfl rfl) (.cons (sok_run rfl rfl hc5 (mvU (v := .p (.list (.named 6)) v4) rfl rfl)) (.cons (sok_run rfl rfl hc5 (u33_ (rs := [(23, .p (.list (.named 6)) v4)]) rfl rfl sl_60 o0 (.int _ _ _) hv6)) (.cons (sok_run rfl rfl hc5 (u32_ (rs := [(24, .pp (.named 6) v6)]) rfl rfl fd_103_0 (by decide) o0 (.named (.fst (.here _ _))))) (.cons (sok_run rfl rfl hc5 (u42_ (rs := [(25, .pp I6 v6.fK)]) rfl rfl ty_3 o0)) (.cons (sok_run rfl rfl hc5 (cmU (rs := [(26, .p I6 v6.fK)]) rfl rfl o0 (.int _ _ _) rfl)) (.cons (pkT (rs := [(22, .p .bool (((v4.length : Int) == 1) : Bool)), (27, .p .bool ((v6.fK == 1) : Bool))]) rfl rfl o0 hc5 o1) (.cons (mvU (v := .p .bool ((v6.fK == 1) : Bool)) rfl rfl) (.cons (sok_run rfl rfl hc7 (mvU (v := .p (.list (.named 6)) v4) rfl rfl)) (.cons (sok_run rfl rfl hc7 (u33_ (rs := [(30, .p (.list (.named 6)) v4)]) rfl rfl sl_60 o0 (.int _ _ _) hv8)) (.cons (sok_run rfl rfl hc7 (u32_ (rs := [(31, .pp (.named 6) v8)]) rfl rfl fd_103_2 (by decide) o0 (.named (.snd (.snd (.fst (.here _ _)) rfl) rfl)))) (.cons (sok_run rfl rfl hc7 (u32_ (rs := [(32, .pp (.named 3) v8.fW)]) rfl rfl fd_24_0 (by decide) o0 (.named (.fst (.here _ _))))) (.cons (sok_run rfl rfl hc7 (u42_ (rs := [(33, .pp .str v8.fW.fN)]) rfl rfl ty_9 o0)) (.cons (sok_run rfl rfl hc7 (u27_ (rs := [(34, .p .str v8.fW.fN)]) rfl rfl o0 (.str _ _) rfl)) (.cons (pkT (rs := [(29, .p .bool ((v6.fK == 1) : Bool)), (35, .p .bool ((v8.fW.fN == ([97] : List UInt8)) : Bool))]) rfl rfl o0 hc7 o1) (.cons (mvU (v := .p .bool ((v8.fW.fN == ([97] : List UInt8)) : Bool)) rfl rfl) (.cons (skU rfl rfl hc9) (.cons (skU rfl rfl hc9) (.cons (skU rfl rfl hc9) (.cons (pkF (rs := [(37, .p .bool ((v8.fW.fN == ([97] : List UInt8)) : Bool))]) rfl rfl o0 hc9 (.bool _ _)) (.cons (mvA (v := .p .bool false) rfl rfl) .nil)))))))))))))))))))))))) (by kernel_rfl) ?_
     refine tnU ?_
     refine wr_ ?_
     have hq := Option.some.inj h
     subst hq
     exact ends_ret (retV_1 rfl (.head _)) ain_nil
   ·replace h := ite_f hc7 h
    refine rg4 (st1 := ⟨[(0, .p .bool false)], []⟩) [0] [] hN (.cons (mvU (v := .p (.list (.named 6)) v4) rfl rfl) (.cons (u36_ (rs := [(19, .p (.list (.named 6)) v4)]) rfl rfl Tryd.underlying60 o0) (.cons (cmU (rs := [(20, .p I6 ((v4.length : Int) : Int))]) rfl rfl o0 (.int _ _ _) rfl) (.cons (mvU (v := .p .bool (((v4.length : Int) == 1) : Bool)) rfl rfl) (.cons (sok_run rfl rfl hc5 (mvU (v := .p (.list (.named 6)) v4) rfl rfl)) (.cons (sok_run rfl rfl hc5 (u33_ (rs := [(23, .p (.list (.named 6)) v4)]) rfl rfl sl_60 o0 (.int _ _ _) hv6)) (.cons (sok_run rfl rfl hc5 (u32_ (rs := [(24, .pp (.named 6) v6)]) rfl rfl fd_103_0 (by decide) o0 (.named (.fst (.here _ _))))) (.cons (sok_run rfl rfl hc5 (u42_ (rs := [(25, .pp I6 v6.fK)]) rfl rfl ty_3 o0)) (.cons (sok_run rfl rfl hc5 (cmU (rs := [(26, .p I6 v6.fK)]) rfl rfl o0 (.int _ _ _) rfl)) (.cons (pkT (rs := [(22, .p .bool (((v4.length : Int) == 1) : Bool)), (27, .p .bool ((v6.fK == 1) : Bool))]) rfl rfl o0 hc5 o1) (.cons (mvU (v := .p .bool ((v6.fK == 1) : Bool)) rfl rfl) (.cons (skU rfl rfl hc7) (.cons (skU rfl rfl hc7) (.cons (skU rfl rfl hc7) (.cons (skU rfl rfl hc7) (.cons (skU rfl rfl hc7) (.cons (skU rfl rfl hc7) (.cons (pkF (rs := [(29, .p .bool ((v6.fK == 1) : Bool))]) rfl rfl o0 hc7 (.bool _ _)) (.cons (mvU (v := .p .bool false) rfl rfl) (.cons (skU rfl rfl rfl) (.cons (skU rfl rfl rfl) (.cons (skU rfl rfl rfl) (.cons (pkF (rs := [(37, .p .bool false)]) rfl rfl o0 rfl (.bool _ _)) (.cons (mvA (v := .p .bool false) rfl rfl) .nil)))))))))))))))))))))))) (by kernel_rfl) ?_
    refine tnU ?_
    refine wr_ ?_
    have hq := Option.some.inj h
    subst hq
    exact ends_ret (retV_1 rfl (.head _)) ain_nil
  ·replace h := ite_f hc5 h
   refine rg4 (st1 := ⟨[(0, .p .bool false)], []⟩) [0] [] hN (.cons (mvU (v := .p (.list (.named 6)) v4) rfl rfl) (.cons (u36_ (rs := [(19, .p (.list (.named 6)) v4)]) rfl rfl Tryd.underlying60 o0) (.cons (cmU (rs := [(20, .p I6 ((v4.length : Int) : Int))]) rfl rfl o0 (.int _ _ _) rfl) (.cons (mvU (v := .p .bool (((v4.length : Int) == 1) : Bool)) rfl rfl) (.cons (skU rfl rfl hc5) (.cons (skU rfl rfl hc5) (.cons (skU rfl rfl hc5) (.cons (skU rfl rfl hc5) (.cons (skU rfl rfl hc5) (.cons (pkF (rs := [(22, .p .bool (((v4.length : Int) == 1) : Bool))]) rfl rfl o0 hc5 (.bool _ _)) (.cons (mvU (v := .p .bool false) rfl rfl) (.cons (skU rfl rfl rfl) (.cons (skU rfl rfl rfl) (.cons (skU rfl rfl rfl) (.cons (skU rfl rfl rfl) (.cons (skU rfl rfl rfl) (.cons (skU rfl rfl rfl) (.cons (pkF (rs := [(29, .p .bool false)]) rfl rfl o0 rfl (.bool _ _)) (.cons (mvU (v := .p .bool false) rfl rfl) (.cons (skU rfl rfl rfl) (.cons (skU rfl rfl rfl) (.cons (skU rfl rfl rfl) (.cons (pkF (rs := [(37, .p .bool false)]) rfl rfl o0 rfl (.bool _ _)) (.cons (mvA (v := .p .bool false) rfl rfl) .nil)))))))))))))))))))))))) (by kernel_rfl) ?_
   refine tnU ?_
   refine wr_ ?_
   have hq := Option.some.inj h
   subst hq
   exact ends_ret (retV_1 rfl (.head _)) ain_nil

theorem W02_Long.ok (O : Out) (hO : GOk O) (k : Nat) (a0 : List TF) (a1 : Int) (out : Bool) (h : W02_Long.f k a0 a1 = some out) : COk Un O Tryd.prog 10 { ar := [.p (.list (.named 3)) a0, .p I6 a1], r := .p .bool out } := by
 refine cok_of_wp Tryd.func10 rfl (k := 28) rfl (Nat.le_of_ble_eq_true rfl) (namesOk_pure rfl rfl rfl rfl) ?_
 intro B hN
 refine ckS (b := ⟨[(0, .p (.list (.named 3)) a0), (1, .p I6 a1)], []⟩) [0, 1] [] (by kernel_rfl) ?_
 unfold W02_Long.f at h
 refine sq_ ?_
 refine rg4 (st1 := ⟨[(0, .p (.list (.named 3)) a0), (1, .p I6 a1)], []⟩) [0, 1] [] hN (.cons (moU (rs := []) rfl (.inr rfl) (.bool _ _)) .nil) (by kernel_rfl) ?_
 refine tnS ?_
 refine sq_ ?_
 refine rg4 (st1 := ⟨[(0, .p (.list (.named 3)) a0), (10, .p .bool ((decide ((a0.length : Int) > a1)) : Bool))], []⟩) [0, 10] [] hN (.cons (mvU (v := .p (.list (.named 3)) a0) rfl rfl) (.cons (u36_ (rs := [(7, .p (.list (.named 3)) a0)]) rfl rfl Tryd.underlying22 o0) (.cons (mvU (v := .p I6 a1) rfl rfl) (.cons (cmU (rs := [(8, .p I6 ((a0.length : Int) : Int)), (9, .p I6 a1)]) rfl rfl o0 o1 rfl) .nil)))) (by kernel_rfl) ?_
 refine tnU ?_
 refine cdU (b := (decide ((a0.length : Int) > a1))) o1 (fun hc1 => ?_) (fun hc1 => ?_)
 ·replace h := ite_t hc1 h
  refine sq_ ?_
  refine rg4 (st1 := ⟨[(4, .p .bool true)], []⟩) [4] [] hN (.cons (moU (rs := []) rfl (.inr rfl) (.bool _ _)) .nil) (by kernel_rfl) ?_
  refine tnU ?_
  refine wr_ ?_
  refine tr_ ?_
  have hq := Option.some.inj h
  subst hq
  exact ends_ret (retV_1 rfl (.head _)) ain_nil
 ·replace h := ite_f hc1 h
  refine wc_ (cvK (b := ⟨[(0, .p (.list (.named 3)) a0)], []⟩) [0] [] (by kernel_rfl)) (ws_ ?_)
  refine tnU ?_
  refine sqJ (fun st' => W02_Long.j2 k = some out ∧ st' = ⟨[], []⟩) ?_ ?_
  ·refine sq_ ?_
   refine rg4 (st1 := ⟨[(11, .p (.list (.named 3)) a0), (12, .p I6 ((a0.length : Int) : Int)), (13, .p I6 (0 : Int))], []⟩) [11, 12, 13] [] hN (.cons (mvU (v := .p (.list (.named 3)) a0) rfl rfl) (.cons (u36_ (rs := [(11, .p (.list (.named 3)) a0)]) rfl rfl Tryd.underlying22 o0) (.cons (moU (rs := []) rfl (.inl rfl) (.int _ _ _)) .nil))) (by kernel_rfl) ?_
   refine tnU ?_
   refine wb_ ?_
   obtain ⟨o5, hlo5, h⟩ := bind_some h
   have hout6 := h
   clear h
   refine u14_ (fun n st' => ∃ v3 : Int, W02_Long.l4 k a0 n v3 = some o5 ∧ st' = ⟨[(11, .p (.list (.named 3)) a0), (12, .p I6 ((a0.length : Int) : Int)), (13, .p I6 v3)], []⟩) k ⟨0, hlo5, rfl⟩ ?_
   clear hlo5
   rintro (_ | n) _ ⟨v3, h, rfl⟩
   ·cases h
   ·rw [W02_Long.l4] at h
    refine sq_ ?_
    refine rg4 (st1 := ⟨[(11, .p (.list (.named 3)) a0), (12, .p I6 ((a0.length : Int) : Int)), (13, .p I6 v3), (14, .p .bool ((decide (v3 < (a0.length : Int))) : Bool))], []⟩) [11, 12, 13, 14] [] hN (.cons (cmU (rs := [(13, .p I6 v3), (12, .p I6 ((a0.length : Int) : Int))]) rfl rfl o0 o1 rfl) .nil) (by kernel_rfl) ?_
    refine tnS ?_
    refine cdU (b := (decide (v3 < (a0.length : Int)))) (.tmp m3_) (fun hc7 => ?_) (fun hc7 => ?_)
    ·replace h := ite_t hc7 h
     refine wc_ (cvK (b := ⟨[(11, .p (.list (.named 3)) a0), (12, .p I6 ((a0.length : Int) : Int)), (13, .p I6 v3)], []⟩) [11, 12, 13] [] (by kernel_rfl)) (ws_ ?_)
     refine tnU ?_
     refine sqJ (fun st' => W02_Long.j8 k (W02_Long.l4 k a0 n) a0 v3 = some o5 ∧ st' = ⟨[(11, .p (.list (.named 3)) a0), (12, .p I6 ((a0.length : Int) : Int)), (13, .p I6 v3)], []⟩) ?_ ?_
     ·refine wb_ ?_
      refine sq_ ?_
      obtain ⟨v9, hv9, h⟩ := bind_some h
      refine rg4 (st1 := ⟨[(6, .loc 6 0), (11, .p (.list (.named 3)) a0), (12, .p I6 ((a0.length : Int) : Int)), (13, .p I6 v3)], [(6, .box [.p .str v9.fN, .p .str v9.fC, .p I6 v9.fT])]⟩) [6, 11, 12, 13] [6] hN (.cons (u33_ (rs := [(11, .p (.list (.named 3)) a0), (13, .p I6 v3)]) rfl rfl sl_22 o0 o1 hv9) (.cons (u42_ (rs := [(15, .pp (.named 3) v9)]) rfl rfl ty_24 o0) (.cons (u18_ (rs := []) (d := 6) (us := [.p .str ([] : List UInt8), .p .str ([] : List UInt8), .p I6 (0 : Int)]) (v := (.agg #[.string ByteArray.empty, .string ByteArray.empty, .int .i64 0])) rfl rfl rfl (by kernel_rfl) rfl (.data (fun _ _ _ => rd_str0) (.data (fun _ _ _ => rd_str0) (.data (fun _ _ _ => .int _ _) .nil))) (by kernel_rfl)) (.cons (u54_ (rs := [(6, .loc 6 0), (16, .p (.named 3) v9)]) (v := .p (.named 3) v9) (mid' := [.p .str v9.fN, .p .str v9.fC, .p I6 v9.fT]) [] [.p .str ([] : List UInt8), .p .str ([] : List UInt8), .p I6 (0 : Int)] [] rfl rfl rfl ty_24 o0 o1 (.data (.named (us := ([.p .str v9.fN, .p .str v9.fC, .p I6 v9.fT] : List (AVal Un))) (.pair (.one _ _) (.pair (.one _ _) (.pair (.one _ _) .unit))))) rfl rfl rfl rfl rfl rfl) .nil)))) (by kernel_rfl) ?_
      refine tnU ?_
      refine sqJ (fun st' => ∃ v10 : Bool, W02_Long.j12 k (W02_Long.l4 k a0 n) a0 v3 v10 = some o5 ∧ st' = ⟨[(11, .p (.list (.named 3)) a0), (12, .p I6 ((a0.length : Int) : Int)), (13, .p I6 v3), (26, .p .bool v10)], []⟩) ?_ ?_
      ·rcases bool_cases (decide ((v9.fN.length : Int) > 100)) with hc13 | hc13
       ·replace h := ite_t hc13 h
        refine rg4 (st1 := ⟨[(11, .p (.list (.named 3)) a0), (12, .p I6 ((a0.length : Int) : Int)), (13, .p I6 v3), (26, .p .bool true)], []⟩) [11, 12, 13, 26] [] hN (.cons (fdB (rs := [(6, .loc 6 0)]) rfl rfl fd_24_0 (by decide) o0) (.cons (ldB (t := .str) (rs := [(17, .loc 6 0)]) [] [.p .str v9.fN] [.p .str v9.fC, .p I6 v9.fT] (v := .p .str v9.fN) rfl rfl ty_9 o0 rfl rfl rfl rfl (.data (.one _ _))) (.cons (u38_ (rs := [(18, .p .str v9.fN)]) rfl rfl Tryd.underlying9 o0) (.cons (cmU (rs := [(19, .p I6 ((v9.fN.length : Int) : Int))]) rfl rfl o0 (.int _ _ _) rfl) (.cons (mvU (v := .p .bool ((decide ((v9.fN.length : Int) > 100)) : Bool)) rfl rfl) (.cons (skU rfl rfl hc13) (.cons (skU rfl rfl hc13) (.cons (skU rfl rfl hc13) (.cons (skU rfl rfl hc13) (.cons (pkT (rs := [(21, .p .bool ((decide ((v9.fN.length : Int) > 100)) : Bool))]) rfl rfl o0 hc13 (.bool _ _)) .nil)))))))))) (by kernel_rfl) ?_
        refine tnU ?_
        exact ⟨true, h, rfl⟩
       ·replace h := ite_f hc13 h
        refine rg4 (st1 := ⟨[(11, .p (.list (.named 3)) a0), (12, .p I6 ((a0.length : Int) : Int)), (13, .p I6 v3), (26, .p .bool ((decide ((v9.fC.length : Int) > 1000)) : Bool))], []⟩) [11, 12, 13, 26] [] hN (.cons (fdB (rs := [(6, .loc 6 0)]) rfl rfl fd_24_0 (by decide) o0) (.cons (ldB (t := .str) (rs := [(17, .loc 6 0)]) [] [.p .str v9.fN] [.p .str v9.fC, .p I6 v9.fT] (v := .p .str v9.fN) rfl rfl ty_9 o0 rfl rfl rfl rfl (.data (.one _ _))) (.cons (u38_ (rs := [(18, .p .str v9.fN)]) rfl rfl Tryd.underlying9 o0) (.cons (cmU (rs := [(19, .p I6 ((v9.fN.length : Int) : Int))]) rfl rfl o0 (.int _ _ _) rfl) (.cons (mvU (v := .p .bool ((decide ((v9.fN.length : Int) > 100)) : Bool)) rfl rfl) (.cons (sok_run rfl rfl hc13 (fdB (rs := [(6, .loc 6 0)]) rfl rfl fd_24_1 (by decide) o0)) (.cons (sok_run rfl rfl hc13 (ldB (t := .str) (rs := [(22, .loc 6 1)]) [.p .str v9.fN] [.p .str v9.fC] [.p I6 v9.fT] (v := .p .str v9.fC) rfl rfl ty_9 o0 rfl rfl rfl rfl (.data (.one _ _)))) (.cons (sok_run rfl rfl hc13 (u38_ (rs := [(23, .p .str v9.fC)]) rfl rfl Tryd.underlying9 o0)) (.cons (sok_run rfl rfl hc13 (cmU (rs := [(24, .p I6 ((v9.fC.length : Int) : Int))]) rfl rfl o0 (.int _ _ _) rfl)) (.cons (pkF (rs := [(21, .p .bool ((decide ((v9.fN.length : Int) > 100)) : Bool)), (25, .p .bool ((decide ((v9.fC.length : Int) > 1000)) : Bool))]) rfl rfl o0 hc13 o1) .nil)))))))))) (by kernel_rfl) ?_
        refine tnU ?_
        exact ⟨(decide ((v9.fC.length : Int) > 1000)), h, rfl⟩
      ·rintro _ ⟨v10, h, rfl⟩
       unfold W02_Long.j12 at h
       refine cdU (b := v10) (.tmp m3_) (fun hc11 => ?_) (fun hc11 => ?_)
       ·replace h := ite_t hc11 h
        refine sq_ ?_
        refine rg4 (st1 := ⟨[(4, .p .bool true)], []⟩) [4] [] hN (.cons (moU (rs := []) rfl (.inr rfl) (.bool _ _)) .nil) (by kernel_rfl) ?_
        refine tnU ?_
        refine wr_ ?_
        refine blockQ_ret ?_
        refine tr_ ?_
        have hq := Option.some.inj h
        subst hq
        refine tr_ ?_
        have h := hout6
        refine blockQ_ret ?_
        refine tr_ ?_
        have hq := Option.some.inj h
        subst hq
        exact ends_ret (retV_1 rfl (.head _)) ain_nil
       ·replace h := ite_f hc11 h
        refine wc_ (cvK (b := ⟨[(11, .p (.list (.named 3)) a0), (12, .p I6 ((a0.length : Int) : Int)), (13, .p I6 v3)], []⟩) [11, 12, 13] [] (by kernel_rfl)) (ws_ ?_)
        refine bn_ ?_
        refine tnU ?_
        exact ⟨h, rfl⟩
     ·rintro _ ⟨h, rfl⟩
      unfold W02_Long.j8 at h
      refine rg4 (st1 := ⟨[(11, .p (.list (.named 3)) a0), (12, .p I6 ((a0.length : Int) : Int)), (13, .p I6 ((IntKind.i64.wrap (v3 + 1)) : Int))], []⟩) [11, 12, 13] [] hN (.cons (u21_ (rs := [(13, .p I6 v3)]) rfl rfl o0 (.int _ _ _) rfl) (.cons (mvU (v := .p I6 ((IntKind.i64.wrap (v3 + 1)) : Int)) rfl rfl) .nil)) (by kernel_rfl) ?_
      refine tnU ?_
      exact ⟨n, Nat.lt_succ_self n, (IntKind.i64.wrap (v3 + 1)), h, rfl⟩
    ·replace h := ite_f hc7 h
     refine wc_ (cvK (b := ⟨[], []⟩) [] [] (by kernel_rfl)) (we_ ?_)
     refine te_ ?_
     have hq := Option.some.inj h
     subst hq
     refine te_ ?_
     have h := hout6
     refine blockQ_hit ?_
     refine tnU ?_
     exact ⟨h, rfl⟩
  ·rintro _ ⟨h, rfl⟩
   unfold W02_Long.j2 at h
   refine sq_ ?_
   refine rg4 (st1 := ⟨[(4, .p .bool false)], []⟩) [4] [] hN (.cons (moU (rs := []) rfl (.inr rfl) (.bool _ _)) .nil) (by kernel_rfl) ?_
   refine tnU ?_
   refine wr_ ?_
   have hq := Option.some.inj h
   subst hq
   exact ends_ret (retV_1 rfl (.head _)) ain_nil

theorem W41_long.ok (O : Out) (hO : GOk O) (k : Nat) (a0 : List TC) (out : Bool) (h : W41_long.f k a0 = some out) : COk Un O Tryd.prog 32 { ar := [.p (.list (.named 6)) a0], r := .p .bool out } := by
 refine cok_of_wp Tryd.func32 rfl (k := 28) rfl (Nat.le_of_ble_eq_true rfl) (namesOk_pure rfl rfl rfl rfl) ?_
 intro B hN
 refine ckS (b := ⟨[(0, .p (.list (.named 6)) a0)], []⟩) [0] [] (by kernel_rfl) ?_
 unfold W41_long.f at h
 refine sq_ ?_
 refine rg4 (st1 := ⟨[(0, .p (.list (.named 6)) a0)], []⟩) [0] [] hN (.cons (moU (rs := []) rfl (.inr rfl) (.bool _ _)) .nil) (by kernel_rfl) ?_
 refine tnS ?_
 refine rg3 (st1 := ⟨[(0, .p (.list (.named 6)) a0), (3, .vec 6 3 0 (([] : List TF).length))], [(6, .row 24 (.named 3) ([] : List TF) true)]⟩) [0, 3] [6] hN (.cons (u24_ (t := .named 3) (rs := []) (ys := []) (xs := ([] : List TF)) rfl rfl rfl rfl row_22 .nil (by decide)) (.cons (mvA (v := .vec 6 3 0 (([] : List TF).length)) rfl rfl) .nil)) (by kernel_rfl) (u0_ (st' := ⟨[(0, .p (.list (.named 6)) a0), (3, .vec 6 3 0 0)], [(6, .row 24 (.named 3) ([] : List TF) true)]⟩) (by simp only [upd_length, List.length_nil, List.length_replicate])) ?_
 refine tnU ?_
 refine sqJ (fun st' => ∃ v1 : List TF, W41_long.j4 k a0 v1 = some out ∧ st' = ⟨[(0, .p (.list (.named 6)) a0), (3, .vec 1003 3 0 v1.length)], [(1003, .row 24 (.named 3) v1 false)]⟩) ?_ ?_
 ·refine sq_ ?_
  refine rg4 (st1 := ⟨[(0, .p (.list (.named 6)) a0), (3, .vec 6 3 0 0), (7, .p (.list (.named 6)) a0), (8, .p I6 ((a0.length : Int) : Int)), (9, .p I6 (0 : Int))], [(6, .row 24 (.named 3) ([] : List TF) true)]⟩) [0, 3, 7, 8, 9] [6] hN (.cons (mvU (v := .p (.list (.named 6)) a0) rfl rfl) (.cons (u36_ (rs := [(7, .p (.list (.named 6)) a0)]) rfl rfl Tryd.underlying60 o0) (.cons (moU (rs := []) rfl (.inl rfl) (.int _ _ _)) .nil))) (by kernel_rfl) ?_
  refine tnU ?_
  refine wb_ ?_
  obtain ⟨o9, hlo9, h⟩ := bind_some h
  have hout10 := h
  clear h
  refine wc_ (cvT (u4_ 6 24 (.named 3) ([] : List TF) (.head _)) (cvT (cvK (b := ⟨[(0, .p (.list (.named 6)) a0), (3, .vec 6 3 0 0), (7, .p (.list (.named 6)) a0), (8, .p I6 ((a0.length : Int) : Int)), (9, .p I6 (0 : Int))], [(6, .row 24 (.named 3) ([] : List TF) false)]⟩) [0, 3, 7, 8, 9] [6] (by kernel_rfl)) (cvT (u12_ (st' := ⟨[(0, .p (.list (.named 6)) a0), (3, .vec 1003 3 0 0), (7, .p (.list (.named 6)) a0), (8, .p I6 ((a0.length : Int) : Int)), (9, .p I6 (0 : Int))], [(1003, .row 24 (.named 3) ([] : List TF) false)]⟩) 6 1003 (by unfold K0; omega) (by kernel_rfl) (by kernel_rfl) (by kernel_rfl)) (cvK (b := ⟨[(0, .p (.list (.named 6)) a0), (3, .vec 1003 3 0 0), (7, .p (.list (.named 6)) a0), (8, .p I6 ((a0.length : Int) : Int)), (9, .p I6 (0 : Int))], [(1003, .row 24 (.named 3) ([] : List TF) false)]⟩) [0, 3, 7, 8, 9] [1003] (by kernel_rfl))))) ?_
  refine u14_ (fun n st' => ∃ v5 : List TF, ∃ v6 : Int, W41_long.l7 k a0 n v5 v6 = some o9 ∧ st' = ⟨[(0, .p (.list (.named 6)) a0), (3, .vec 1003 3 0 v5.length), (7, .p (.list (.named 6)) a0), (8, .p I6 ((a0.length : Int) : Int)), (9, .p I6 v6)], [(1003, .row 24 (.named 3) v5 false)]⟩) k ⟨([] : List TF), 0, hlo9, rfl⟩ ?_
  clear hlo9
  rintro (_ | n) _ ⟨v5, v6, h, rfl⟩
  ·cases h
  ·rw [W41_long.l7] at h
   refine sq_ ?_
   refine rg4 (st1 := ⟨[(0, .p (.list (.named 6)) a0), (3, .vec 1003 3 0 v5.length), (7, .p (.list (.named 6)) a0), (8, .p I6 ((a0.length : Int) : Int)), (9, .p I6 v6), (10, .p .bool ((decide (v6 < (a0.length : Int))) : Bool))], [(1003, .row 24 (.named 3) v5 false)]⟩) [0, 3, 7, 8, 9, 10] [1003] hN (.cons (cmU (rs := [(9, .p I6 v6), (8, .p I6 ((a0.length : Int) : Int))]) rfl rfl o0 o1 rfl) .nil) (by kernel_rfl) ?_
   refine tnS ?_
   refine cdU (b := (decide (v6 < (a0.length : Int)))) (.tmp m5_) (fun hc11 => ?_) (fun hc11 => ?_)
   ·replace h := ite_t hc11 h
    refine wc_ (cvK (b := ⟨[(0, .p (.list (.named 6)) a0), (3, .vec 1003 3 0 v5.length), (7, .p (.list (.named 6)) a0), (8, .p I6 ((a0.length : Int) : Int)), (9, .p I6 v6)], [(1003, .row 24 (.named 3) v5 false)]⟩) [0, 3, 7, 8, 9] [1003] (by kernel_rfl)) (ws_ ?_)
    refine tnS ?_
    refine wb_ ?_
    refine sq_ ?_
    obtain ⟨v12, hv12, h⟩ := bind_some h
    refine rg4 (st1 := ⟨[(0, .p (.list (.named 6)) a0), (3, .vec 1003 3 0 v5.length), (5, .loc 5 0), (7, .p (.list (.named 6)) a0), (8, .p I6 ((a0.length : Int) : Int)), (9, .p I6 v6)], [(5, .box [.p I6 v12.fK, .p .str v12.fO.fN, .p .str v12.fO.fC, .p I6 v12.fO.fT, .p .str v12.fW.fN, .p .str v12.fW.fC, .p I6 v12.fW.fT]), (1003, .row 24 (.named 3) v5 false)]⟩) [0, 3, 5, 7, 8, 9] [5, 1003] hN (.cons (u33_ (rs := [(7, .p (.list (.named 6)) a0), (9, .p I6 v6)]) rfl rfl sl_60 o0 o1 hv12) (.cons (u42_ (rs := [(11, .pp (.named 6) v12)]) rfl rfl ty_103 o0) (.cons (u18_ (rs := []) (d := 5) (us := [.p I6 (0 : Int), .p .str ([] : List UInt8), .p .str ([] : List UInt8), .p I6 (0 : Int), .p .str ([] : List UInt8), .p .str ([] : List UInt8), .p I6 (0 : Int)]) (v := (.agg #[.int .i64 0, .string ByteArray.empty, .string ByteArray.empty, .int .i64 0, .string ByteArray.empty, .string ByteArray.empty, .int .i64 0])) rfl rfl rfl (by kernel_rfl) rfl (.data (fun _ _ _ => .int _ _) (.data (fun _ _ _ => rd_str0) (.data (fun _ _ _ => rd_str0) (.data (fun _ _ _ => .int _ _) (.data (fun _ _ _ => rd_str0) (.data (fun _ _ _ => rd_str0) (.data (fun _ _ _ => .int _ _) .nil))))))) (by kernel_rfl)) (.cons (u54_ (rs := [(5, .loc 5 0), (12, .p (.named 6) v12)]) (v := .p (.named 6) v12) (mid' := [.p I6 v12.fK, .p .str v12.fO.fN, .p .str v12.fO.fC, .p I6 v12.fO.fT, .p .str v12.fW.fN, .p .str v12.fW.fC, .p I6 v12.fW.fT]) [] [.p I6 (0 : Int), .p .str ([] : List UInt8), .p .str ([] : List UInt8), .p I6 (0 : Int), .p .str ([] : List UInt8), .p .str ([] : List UInt8), .p I6 (0 : Int)] [] rfl rfl rfl ty_103 o0 o1 (.data (.named (us := ([.p I6 v12.fK, .p .str v12.fO.fN, .p .str v12.fO.fC, .p I6 v12.fO.fT, .p .str v12.fW.fN, .p .str v12.fW.fC, .p I6 v12.fW.fT] : List (AVal Un))) (.pair (.one _ _) (.pair (.named (us := ([.p .str v12.fO.fN, .p .str v12.fO.fC, .p I6 v12.fO.fT] : List (AVal Un))) (.pair (.one _ _) (.pair (.one _ _) (.pair (.one _ _) .unit)))) (.pair (.named (us := ([.p .str v12.fW.fN, .p .str v12.fW.fC, .p I6 v12.fW.fT] : List (AVal Un))) (.pair (.one _ _) (.pair (.one _ _) (.pair (.one _ _) .unit)))) .unit))))) rfl rfl rfl rfl rfl rfl) .nil)))) (by kernel_rfl) ?_
    refine tnU ?_
    obtain ⟨g13, h⟩ := if_some h
    refine rg4 (st1 := ⟨[(0, .p (.list (.named 6)) a0), (3, .vec 19 3 0 ((v5 ++ [(TF.mk v12.fO.fN v12.fO.fC v12.fO.fT), (TF.mk v12.fW.fN v12.fW.fC v12.fW.fT)]).length)), (7, .p (.list (.named 6)) a0), (8, .p I6 ((a0.length : Int) : Int)), (9, .p I6 v6)], [(19, .row 24 (.named 3) (v5 ++ [(TF.mk v12.fO.fN v12.fO.fC v12.fO.fT), (TF.mk v12.fW.fN v12.fW.fC v12.fW.fT)]) false)]⟩) [0, 3, 7, 8, 9] [19] hN (.cons (mvU (v := .vec 1003 3 0 v5.length) rfl rfl) (.cons (fdB (rs := [(5, .loc 5 0)]) rfl rfl fd_103_1 (by decide) o0) (.cons (ldB (t := .named 3) (rs := [(14, .loc 5 1)]) [.p I6 v12.fK] [.p .str v12.fO.fN, .p .str v12.fO.fC, .p I6 v12.fO.fT] [.p .str v12.fW.fN, .p .str v12.fW.fC, .p I6 v12.fW.fT] (v := .p (.named 3) ((TF.mk v12.fO.fN v12.fO.fC v12.fO.fT) : TF)) rfl rfl ty_24 o0 rfl rfl rfl rfl (.data (.named (us := ([.p .str v12.fO.fN, .p .str v12.fO.fC, .p I6 v12.fO.fT] : List (AVal Un))) (.pair (.one _ _) (.pair (.one _ _) (.pair (.one _ _) .unit)))))) (.cons (fdB (rs := [(5, .loc 5 0)]) rfl rfl fd_103_2 (by decide) o0) (.cons (ldB (t := .named 3) (rs := [(16, .loc 5 4)]) [.p I6 v12.fK, .p .str v12.fO.fN, .p .str v12.fO.fC, .p I6 v12.fO.fT] [.p .str v12.fW.fN, .p .str v12.fW.fC, .p I6 v12.fW.fT] [] (v := .p (.named 3) ((TF.mk v12.fW.fN v12.fW.fC v12.fW.fT) : TF)) rfl rfl ty_24 o0 rfl rfl rfl rfl (.data (.named (us := ([.p .str v12.fW.fN, .p .str v12.fW.fC, .p I6 v12.fW.fT] : List (AVal Un))) (.pair (.one _ _) (.pair (.one _ _) (.pair (.one _ _) .unit)))))) (.cons (u24_ (t := .named 3) (rs := [(15, .p (.named 3) ((TF.mk v12.fO.fN v12.fO.fC v12.fO.fT) : TF)), (17, .p (.named 3) ((TF.mk v12.fW.fN v12.fW.fC v12.fW.fT) : TF))]) (ys := [.tmp 15, .tmp 17]) (xs := [(TF.mk v12.fO.fN v12.fO.fC v12.fO.fT), (TF.mk v12.fW.fN v12.fW.fC v12.fW.fT)]) rfl rfl rfl rfl row_22 (.cons o0 (.cons o1 .nil)) (by decide)) (.cons (u20_ (t := .named 3) (rs := [(13, .vec 1003 3 0 v5.length), (18, .vec 18 3 0 ([(TF.mk v12.fO.fN v12.fO.fC v12.fO.fT), (TF.mk v12.fW.fN v12.fW.fC v12.fW.fT)].length))]) (vw := [(18, .row 24 (.named 3) [(TF.mk v12.fO.fN v12.fO.fC v12.fO.fT), (TF.mk v12.fW.fN v12.fW.fC v12.fW.fT)] true)]) (xs := v5) (ys := [(TF.mk v12.fO.fN v12.fO.fC v12.fO.fT), (TF.mk v12.fW.fN v12.fW.fC v12.fW.fT)]) (fx := false) rfl rfl rfl row_22 (by decide) o0 o1 (.whole (.head _)) (by simp) g13) (.cons (mvA (v := .vec 19 3 0 ((v5 ++ [(TF.mk v12.fO.fN v12.fO.fC v12.fO.fT), (TF.mk v12.fW.fN v12.fW.fC v12.fW.fT)]).length)) rfl rfl) .nil)))))))) (by kernel_rfl) ?_
    refine bn_ ?_
    refine tnU ?_
    refine rg3 (st1 := ⟨[(0, .p (.list (.named 6)) a0), (3, .vec 19 3 0 ((v5 ++ [(TF.mk v12.fO.fN v12.fO.fC v12.fO.fT), (TF.mk v12.fW.fN v12.fW.fC v12.fW.fT)]).length)), (7, .p (.list (.named 6)) a0), (8, .p I6 ((a0.length : Int) : Int)), (9, .p I6 ((IntKind.i64.wrap (v6 + 1)) : Int))], [(19, .row 24 (.named 3) (v5 ++ [(TF.mk v12.fO.fN v12.fO.fC v12.fO.fT), (TF.mk v12.fW.fN v12.fW.fC v12.fW.fT)]) false)]⟩) [0, 3, 7, 8, 9] [19] hN (.cons (u21_ (rs := [(9, .p I6 v6)]) rfl rfl o0 (.int _ _ _) rfl) (.cons (mvU (v := .p I6 ((IntKind.i64.wrap (v6 + 1)) : Int)) rfl rfl) .nil)) (by kernel_rfl) (cvT (u12_ (st' := ⟨[(0, .p (.list (.named 6)) a0), (3, .vec 1003 3 0 ((v5 ++ [(TF.mk v12.fO.fN v12.fO.fC v12.fO.fT), (TF.mk v12.fW.fN v12.fW.fC v12.fW.fT)]).length)), (7, .p (.list (.named 6)) a0), (8, .p I6 ((a0.length : Int) : Int)), (9, .p I6 ((IntKind.i64.wrap (v6 + 1)) : Int))], [(1003, .row 24 (.named 3) (v5 ++ [(TF.mk v12.fO.fN v12.fO.fC v12.fO.fT), (TF.mk v12.fW.fN v12.fW.fC v12.fW.fT)]) false)]⟩) 19 1003 (by unfold K0; omega) (by kernel_rfl) (by kernel_rfl) (by kernel_rfl)) (cvK (b := ⟨[(0, .p (.list (.named 6)) a0), (3, .vec 1003 3 0 ((v5 ++ [(TF.mk v12.fO.fN v12.fO.fC v12.fO.fT), (TF.mk v12.fW.fN v12.fW.fC v12.fW.fT)]).length)), (7, .p (.list (.named 6)) a0), (8, .p I6 ((a0.length : Int) : Int)), (9, .p I6 ((IntKind.i64.wrap (v6 + 1)) : Int))], [(1003, .row 24 (.named 3) (v5 ++ [(TF.mk v12.fO.fN v12.fO.fC v12.fO.fT), (TF.mk v12.fW.fN v12.fW.fC v12.fW.fT)]) false)]⟩) [0, 3, 7, 8, 9] [1003] (by kernel_rfl))) ?_
    refine tnU ?_
    exact ⟨n, Nat.lt_succ_self n, (v5 ++ [(TF.mk v12.fO.fN v12.fO.fC v12.fO.fT), (TF.mk v12.fW.fN v12.fW.fC v12.fW.fT)]), (IntKind.i64.wrap (v6 + 1)), h, rfl⟩
   ·replace h := ite_f hc11 h
    refine wc_ (cvK (b := ⟨[(0, .p (.list (.named 6)) a0), (3, .vec 1003 3 0 v5.length)], [(1003, .row 24 (.named 3) v5 false)]⟩) [0, 3] [1003] (by kernel_rfl)) (we_ ?_)
    refine te_ ?_
    have hq := Option.some.inj h
    subst hq
    refine te_ ?_
    have h := hout10
    refine blockQ_hit ?_
    refine tnU ?_
    exact ⟨v5, h, rfl⟩
 ·rintro _ ⟨v1, h, rfl⟩
  unfold W41_long.j4 at h
  refine sq_ ?_
  rcases bool_cases (decide ((a0.length : Int) > 40)) with hc2 | hc2
  ·replace h := ite_t hc2 h
   refine rg4 (st1 := ⟨[(2, .p .bool true)], []⟩) [2] [] hN (.cons (mvU (v := .p (.list (.named 6)) a0) rfl rfl) (.cons (u36_ (rs := [(21, .p (.list (.named 6)) a0)]) rfl rfl Tryd.underlying60 o0) (.cons (cmU (rs := [(22, .p I6 ((a0.length : Int) : Int))]) rfl rfl o0 (.int _ _ _) rfl) (.cons (mvU (v := .p .bool ((decide ((a0.length : Int) > 40)) : Bool)) rfl rfl) (.cons (skU rfl rfl hc2) (.cons (skU rfl rfl hc2) (.cons (pkT (rs := [(24, .p .bool ((decide ((a0.length : Int) > 40)) : Bool))]) rfl rfl o0 hc2 (.bool _ _)) (.cons (mvA (v := .p .bool true) rfl rfl) .nil)))))))) (by kernel_rfl) ?_
   refine tnU ?_
   refine wr_ ?_
   have hq := Option.some.inj h
   subst hq
   exact ends_ret (retV_1 rfl (.head _)) ain_nil
  ·replace h := ite_f hc2 h
   obtain ⟨v3, hv3, h⟩ := bind_some h
   refine rg4 (st1 := ⟨[(2, .p .bool v3)], []⟩) [2] [] hN (.cons (mvU (v := .p (.list (.named 6)) a0) rfl rfl) (.cons (u36_ (rs := [(21, .p (.list (.named 6)) a0)]) rfl rfl Tryd.underlying60 o0) (.cons (cmU (rs := [(22, .p I6 ((a0.length : Int) : Int))]) rfl rfl o0 (.int _ _ _) rfl) (.cons (mvU (v := .p .bool ((decide ((a0.length : Int) > 40)) : Bool)) rfl rfl) (.cons (sok_run rfl rfl hc2 (mvU (v := .vec 1003 3 0 v1.length) rfl rfl)) (.cons (sok_run rfl rfl hc2 (caV (rs := [(25, .vec 1003 3 0 v1.length)]) (vw := [(1003, .row 24 (.named 3) v1 false)]) rfl rfl (.func _) hb_10 (W02_Long.ok O hO k v1 80 v3 hv3) (.cons o0 (.cons (.int _ _ _) .nil)) (.cons (.whole' (.head _) (by first | rfl | (simp only [upd_length, List.length_replicate, List.length_append]; done) | (simp only [upd_length, List.length_replicate, List.length_append] at *; omega) | omega)) (.cons (.same _) .nil)) (by simp) (.inr rfl))) (.cons (pkF (rs := [(24, .p .bool ((decide ((a0.length : Int) > 40)) : Bool)), (26, .p .bool v3)]) rfl rfl o0 hc2 o1) (.cons (mvA (v := .p .bool v3) rfl rfl) .nil)))))))) (by kernel_rfl) ?_
   refine tnU ?_
   refine wr_ ?_
   have hq := Option.some.inj h
   subst hq
   exact ends_ret (retV_1 rfl (.head _)) ain_nil

theorem Nm_Long.ok (O : Out) (hO : GOk O) (k : Nat) (a0 : List (List UInt8)) (a1 : Int) (a2 : Int) (out : Bool) (h : Nm_Long.f k a0 a1 a2 = some out) : COk Un O Tryd.prog 40 { ar := [.p (.list .str) a0, .p I6 a1, .p I6 a2], r := .p .bool out } := by
 refine cok_of_wp Tryd.func40 rfl (k := 24) rfl (Nat.le_of_ble_eq_true rfl) (namesOk_pure rfl rfl rfl rfl) ?_
 intro B hN
 refine ckS (b := ⟨[(0, .p (.list .str) a0), (1, .p I6 a1), (2, .p I6 a2)], []⟩) [0, 1, 2] [] (by kernel_rfl) ?_
 unfold Nm_Long.f at h
 refine sq_ ?_
 refine rg4 (st1 := ⟨[(0, .p (.list .str) a0), (1, .p I6 a1), (2, .p I6 a2)], []⟩) [0, 1, 2] [] hN (.cons (moU (rs := []) rfl (.inr rfl) (.bool _ _)) .nil) (by kernel_rfl) ?_
 refine tnS ?_
 refine sq_ ?_
 refine rg4 (st1 := ⟨[(0, .p (.list .str) a0), (2, .p I6 a2), (12, .p .bool ((decide ((a0.length : Int) > a1)) : Bool))], []⟩) [0, 2, 12] [] hN (.cons (mvU (v := .p (.list .str) a0) rfl rfl) (.cons (u36_ (rs := [(9, .p (.list .str) a0)]) rfl rfl Tryd.underlying40 o0) (.cons (mvU (v := .p I6 a1) rfl rfl) (.cons (cmU (rs := [(10, .p I6 ((a0.length : Int) : Int)), (11, .p I6 a1)]) rfl rfl o0 o1 rfl) .nil)))) (by kernel_rfl) ?_
 refine tnU ?_
 refine cdU (b := (decide ((a0.length : Int) > a1))) (.tmp m2_) (fun hc1 => ?_) (fun hc1 => ?_)
 ·replace h := ite_t hc1 h
  refine sq_ ?_
  refine rg4 (st1 := ⟨[(6, .p .bool true)], []⟩) [6] [] hN (.cons (moU (rs := []) rfl (.inr rfl) (.bool _ _)) .nil) (by kernel_rfl) ?_
  refine tnU ?_
  refine wr_ ?_
  refine tr_ ?_
  have hq := Option.some.inj h
  subst hq
  exact ends_ret (retV_1 rfl (.head _)) ain_nil
 ·replace h := ite_f hc1 h
  refine wc_ (cvK (b := ⟨[(0, .p (.list .str) a0), (2, .p I6 a2)], []⟩) [0, 2] [] (by kernel_rfl)) (ws_ ?_)
  refine tnU ?_
  refine sqJ (fun st' => Nm_Long.j2 k = some out ∧ st' = ⟨[], []⟩) ?_ ?_
  ·refine sq_ ?_
   refine rg4 (st1 := ⟨[(2, .p I6 a2), (13, .p (.list .str) a0), (14, .p I6 ((a0.length : Int) : Int)), (15, .p I6 (0 : Int))], []⟩) [2, 13, 14, 15] [] hN (.cons (mvU (v := .p (.list .str) a0) rfl rfl) (.cons (u36_ (rs := [(13, .p (.list .str) a0)]) rfl rfl Tryd.underlying40 o0) (.cons (moU (rs := []) rfl (.inl rfl) (.int _ _ _)) .nil))) (by kernel_rfl) ?_
   refine tnU ?_
   refine wb_ ?_
   obtain ⟨o5, hlo5, h⟩ := bind_some h
   have hout6 := h
   clear h
   refine u14_ (fun n st' => ∃ v3 : Int, Nm_Long.l4 k a0 a2 n v3 = some o5 ∧ st' = ⟨[(2, .p I6 a2), (13, .p (.list .str) a0), (14, .p I6 ((a0.length : Int) : Int)), (15, .p I6 v3)], []⟩) k ⟨0, hlo5, rfl⟩ ?_
   clear hlo5
   rintro (_ | n) _ ⟨v3, h, rfl⟩
   ·cases h
   ·rw [Nm_Long.l4] at h
    refine sq_ ?_
    refine rg4 (st1 := ⟨[(2, .p I6 a2), (13, .p (.list .str) a0), (14, .p I6 ((a0.length : Int) : Int)), (15, .p I6 v3), (16, .p .bool ((decide (v3 < (a0.length : Int))) : Bool))], []⟩) [2, 13, 14, 15, 16] [] hN (.cons (cmU (rs := [(15, .p I6 v3), (14, .p I6 ((a0.length : Int) : Int))]) rfl rfl o0 o1 rfl) .nil) (by kernel_rfl) ?_
    refine tnS ?_
    refine cdU (b := (decide (v3 < (a0.length : Int)))) (.tmp m4_) (fun hc7 => ?_) (fun hc7 => ?_)
    ·replace h := ite_t hc7 h
     refine wc_ (cvK (b := ⟨[(2, .p I6 a2), (13, .p (.list .str) a0), (14, .p I6 ((a0.length : Int) : Int)), (15, .p I6 v3)], []⟩) [2, 13, 14, 15] [] (by kernel_rfl)) (ws_ ?_)
     refine tnS ?_
     refine wb_ ?_
     refine sq_ ?_
     obtain ⟨v8, hv8, h⟩ := bind_some h
     refine rg4 (st1 := ⟨[(2, .p I6 a2), (8, .p .str v8), (13, .p (.list .str) a0), (14, .p I6 ((a0.length : Int) : Int)), (15, .p I6 v3)], []⟩) [2, 8, 13, 14, 15] [] hN (.cons (u33_ (rs := [(13, .p (.list .str) a0), (15, .p I6 v3)]) rfl rfl sl_40 o0 o1 hv8) (.cons (u42_ (rs := [(17, .pp .str v8)]) rfl rfl ty_9 o0) (.cons (mvA (v := .p .str v8) rfl rfl) .nil))) (by kernel_rfl) ?_
     refine tnS ?_
     refine rg4 (st1 := ⟨[(2, .p I6 a2), (13, .p (.list .str) a0), (14, .p I6 ((a0.length : Int) : Int)), (15, .p I6 v3), (22, .p .bool ((decide ((v8.length : Int) > a2)) : Bool))], []⟩) [2, 13, 14, 15, 22] [] hN (.cons (mvU (v := .p .str v8) rfl rfl) (.cons (u38_ (rs := [(19, .p .str v8)]) rfl rfl Tryd.underlying9 o0) (.cons (mvU (v := .p I6 a2) rfl rfl) (.cons (cmU (rs := [(20, .p I6 ((v8.length : Int) : Int)), (21, .p I6 a2)]) rfl rfl o0 o1 rfl) .nil)))) (by kernel_rfl) ?_
     refine tnU ?_
     refine cdU (b := (decide ((v8.length : Int) > a2))) (.tmp m4_) (fun hc9 => ?_) (fun hc9 => ?_)
     ·replace h := ite_t hc9 h
      refine sq_ ?_
      refine rg4 (st1 := ⟨[(6, .p .bool true)], []⟩) [6] [] hN (.cons (moU (rs := []) rfl (.inr rfl) (.bool _ _)) .nil) (by kernel_rfl) ?_
      refine tnU ?_
      refine wr_ ?_
      refine blockQ_ret ?_
      refine tr_ ?_
      have hq := Option.some.inj h
      subst hq
      refine tr_ ?_
      have h := hout6
      refine blockQ_ret ?_
      refine tr_ ?_
      have hq := Option.some.inj h
      subst hq
      exact ends_ret (retV_1 rfl (.head _)) ain_nil
     ·replace h := ite_f hc9 h
      refine wc_ (cvK (b := ⟨[(2, .p I6 a2), (13, .p (.list .str) a0), (14, .p I6 ((a0.length : Int) : Int)), (15, .p I6 v3)], []⟩) [2, 13, 14, 15] [] (by kernel_rfl)) (ws_ ?_)
      refine bn_ ?_
      refine tnU ?_
      refine rg4 (st1 := ⟨[(2, .p I6 a2), (13, .p (.list .str) a0), (14, .p I6 ((a0.length : Int) : Int)), (15, .p I6 ((IntKind.i64.wrap (v3 + 1)) : Int))], []⟩) [2, 13, 14, 15] [] hN (.cons (u21_ (rs := [(15, .p I6 v3)]) rfl rfl o0 (.int _ _ _) rfl) (.cons (mvU (v := .p I6 ((IntKind.i64.wrap (v3 + 1)) : Int)) rfl rfl) .nil)) (by kernel_rfl) ?_
      refine tnU ?_
      exact ⟨n, Nat.lt_succ_self n, (IntKind.i64.wrap (v3 + 1)), h, rfl⟩
    ·replace h := ite_f hc7 h
     refine wc_ (cvK (b := ⟨[], []⟩) [] [] (by kernel_rfl)) (we_ ?_)
     refine te_ ?_
     have hq := Option.some.inj h
     subst hq
     refine te_ ?_
     have h := hout6
     refine blockQ_hit ?_
     refine tnU ?_
     exact ⟨h, rfl⟩
  ·rintro _ ⟨h, rfl⟩
   unfold Nm_Long.j2 at h
   refine sq_ ?_
   refine rg4 (st1 := ⟨[(6, .p .bool false)], []⟩) [6] [] hN (.cons (moU (rs := []) rfl (.inr rfl) (.bool _ _)) .nil) (by kernel_rfl) ?_
   refine tnU ?_
   refine wr_ ?_
   have hq := Option.some.inj h
   subst hq
   exact ends_ret (retV_1 rfl (.head _)) ain_nil

theorem W02_Of.ok (O : Out) (hO : GOk O) (k : Nat) (a0 : List TF) (out : List TF) (h : W02_Of.f k a0 = some out) : COk Un O Tryd.prog 28 { ar := [.p (.list (.named 3)) a0], r := .p (.list (.named 3)) out } := by
 refine cok_of_wp Tryd.func28 rfl (k := 19) rfl (Nat.le_of_ble_eq_true rfl) (namesOk_pure rfl rfl rfl rfl) ?_
 intro B hN
 refine ckS (b := ⟨[(0, .p (.list (.named 3)) a0)], []⟩) [0] [] (by kernel_rfl) ?_
 unfold W02_Of.f at h
 refine sq_ ?_
 refine rg4 (st1 := ⟨[(0, .p (.list (.named 3)) a0)], []⟩) [0] [] hN (.cons (moU (rs := []) rfl (.inr rfl) (.lit _ _ rfl)) .nil) (by kernel_rfl) ?_
 refine tnS ?_
 refine rg3 (st1 := ⟨[(0, .p (.list (.named 3)) a0), (3, .vec 6 3 0 (([] : List TF).length))], [(6, .row 50 (.named 3) ([] : List TF) true)]⟩) [0, 3] [6] hN (.cons (u24_ (t := .named 3) (rs := []) (ys := []) (xs := ([] : List TF)) rfl rfl rfl rfl row_45 .nil (by decide)) (.cons (mvA (v := .vec 6 3 0 (([] : List TF).length)) rfl rfl) .nil)) (by kernel_rfl) (u0_ (st' := ⟨[(0, .p (.list (.named 3)) a0), (3, .vec 6 3 0 0)], [(6, .row 50 (.named 3) ([] : List TF) true)]⟩) (by simp only [upd_length, List.length_nil, List.length_replicate])) ?_
 refine tnU ?_
 refine sqJ (fun st' => ∃ v1 : List TF, W02_Of.j2 k v1 = some out ∧ st' = ⟨[(3, .vec 1003 3 0 v1.length)], [(1003, .row 50 (.named 3) v1 false)]⟩) ?_ ?_
 ·refine sq_ ?_
  refine rg4 (st1 := ⟨[(3, .vec 6 3 0 0), (7, .p (.list (.named 3)) a0), (8, .p I6 ((a0.length : Int) : Int)), (9, .p I6 (0 : Int))], [(6, .row 50 (.named 3) ([] : List TF) true)]⟩) [3, 7, 8, 9] [6] hN (.cons (mvU (v := .p (.list (.named 3)) a0) rfl rfl) (.cons (u36_ (rs := [(7, .p (.list (.named 3)) a0)]) rfl rfl Tryd.underlying22 o0) (.cons (moU (rs := []) rfl (.inl rfl) (.int _ _ _)) .nil))) (by kernel_rfl) ?_
  refine tnU ?_
  refine wb_ ?_
  obtain ⟨o7, hlo7, h⟩ := bind_some h
  have hout8 := h
  clear h
  refine wc_ (cvT (u4_ 6 50 (.named 3) ([] : List TF) (.head _)) (cvT (cvK (b := ⟨[(3, .vec 6 3 0 0), (7, .p (.list (.named 3)) a0), (8, .p I6 ((a0.length : Int) : Int)), (9, .p I6 (0 : Int))], [(6, .row 50 (.named 3) ([] : List TF) false)]⟩) [3, 7, 8, 9] [6] (by kernel_rfl)) (cvT (u12_ (st' := ⟨[(3, .vec 1003 3 0 0), (7, .p (.list (.named 3)) a0), (8, .p I6 ((a0.length : Int) : Int)), (9, .p I6 (0 : Int))], [(1003, .row 50 (.named 3) ([] : List TF) false)]⟩) 6 1003 (by unfold K0; omega) (by kernel_rfl) (by kernel_rfl) (by kernel_rfl)) (cvK (b := ⟨[(3, .vec 1003 3 0 0), (7, .p (.list (.named 3)) a0), (8, .p I6 ((a0.length : Int) : Int)), (9, .p I6 (0 : Int))], [(1003, .row 50 (.named 3) ([] : List TF) false)]⟩) [3, 7, 8, 9] [1003] (by kernel_rfl))))) ?_
  refine u14_ (fun n st' => ∃ v3 : List TF, ∃ v4 : Int, W02_Of.l5 k a0 n v3 v4 = some o7 ∧ st' = ⟨[(3, .vec 1003 3 0 v3.length), (7, .p (.list (.named 3)) a0), (8, .p I6 ((a0.length : Int) : Int)), (9, .p I6 v4)], [(1003, .row 50 (.named 3) v3 false)]⟩) k ⟨([] : List TF), 0, hlo7, rfl⟩ ?_
  clear hlo7
  rintro (_ | n) _ ⟨v3, v4, h, rfl⟩
  ·cases h
  ·rw [W02_Of.l5] at h
   refine sq_ ?_
   refine rg4 (st1 := ⟨[(3, .vec 1003 3 0 v3.length), (7, .p (.list (.named 3)) a0), (8, .p I6 ((a0.length : Int) : Int)), (9, .p I6 v4), (10, .p .bool ((decide (v4 < (a0.length : Int))) : Bool))], [(1003, .row 50 (.named 3) v3 false)]⟩) [3, 7, 8, 9, 10] [1003] hN (.cons (cmU (rs := [(9, .p I6 v4), (8, .p I6 ((a0.length : Int) : Int))]) rfl rfl o0 o1 rfl) .nil) (by kernel_rfl) ?_
   refine tnS ?_
   refine cdU (b := (decide (v4 < (a0.length : Int)))) (.tmp m4_) (fun hc9 => ?_) (fun hc9 => ?_)
   ·replace h := ite_t hc9 h
    refine wc_ (cvK (b := ⟨[(3, .vec 1003 3 0 v3.length), (7, .p (.list (.named 3)) a0), (8, .p I6 ((a0.length : Int) : Int)), (9, .p I6 v4)], [(1003, .row 50 (.named 3) v3 false)]⟩) [3, 7, 8, 9] [1003] (by kernel_rfl)) (ws_ ?_)
    refine tnS ?_
    refine wb_ ?_
    refine sq_ ?_
    obtain ⟨v10, hv10, h⟩ := bind_some h
    refine rg4 (st1 := ⟨[(3, .vec 1003 3 0 v3.length), (5, .loc 5 0), (7, .p (.list (.named 3)) a0), (8, .p I6 ((a0.length : Int) : Int)), (9, .p I6 v4)], [(5, .box [.p .str v10.fN, .p .str v10.fC, .p I6 v10.fT]), (1003, .row 50 (.named 3) v3 false)]⟩) [3, 5, 7, 8, 9] [5, 1003] hN (.cons (u33_ (rs := [(7, .p (.list (.named 3)) a0), (9, .p I6 v4)]) rfl rfl sl_22 o0 o1 hv10) (.cons (u42_ (rs := [(11, .pp (.named 3) v10)]) rfl rfl ty_24 o0) (.cons (u18_ (rs := []) (d := 5) (us := [.p .str ([] : List UInt8), .p .str ([] : List UInt8), .p I6 (0 : Int)]) (v := (.agg #[.string ByteArray.empty, .string ByteArray.empty, .int .i64 0])) rfl rfl rfl (by kernel_rfl) rfl (.data (fun _ _ _ => rd_str0) (.data (fun _ _ _ => rd_str0) (.data (fun _ _ _ => .int _ _) .nil))) (by kernel_rfl)) (.cons (u54_ (rs := [(5, .loc 5 0), (12, .p (.named 3) v10)]) (v := .p (.named 3) v10) (mid' := [.p .str v10.fN, .p .str v10.fC, .p I6 v10.fT]) [] [.p .str ([] : List UInt8), .p .str ([] : List UInt8), .p I6 (0 : Int)] [] rfl rfl rfl ty_24 o0 o1 (.data (.named (us := ([.p .str v10.fN, .p .str v10.fC, .p I6 v10.fT] : List (AVal Un))) (.pair (.one _ _) (.pair (.one _ _) (.pair (.one _ _) .unit))))) rfl rfl rfl rfl rfl rfl) .nil)))) (by kernel_rfl) ?_
    refine tnU ?_
    obtain ⟨g11, h⟩ := if_some h
    refine rg4 (st1 := ⟨[(3, .vec 16 3 0 ((v3 ++ [(TF.mk v10.fN v10.fC v10.fT)]).length)), (7, .p (.list (.named 3)) a0), (8, .p I6 ((a0.length : Int) : Int)), (9, .p I6 v4)], [(16, .row 50 (.named 3) (v3 ++ [(TF.mk v10.fN v10.fC v10.fT)]) false)]⟩) [3, 7, 8, 9] [16] hN (.cons (mvU (v := .vec 1003 3 0 v3.length) rfl rfl) (.cons (ldB (t := .named 3) (rs := [(5, .loc 5 0)]) [] [.p .str v10.fN, .p .str v10.fC, .p I6 v10.fT] [] (v := .p (.named 3) ((TF.mk v10.fN v10.fC v10.fT) : TF)) rfl rfl ty_24 o0 rfl rfl rfl rfl (.data (.named (us := ([.p .str v10.fN, .p .str v10.fC, .p I6 v10.fT] : List (AVal Un))) (.pair (.one _ _) (.pair (.one _ _) (.pair (.one _ _) .unit)))))) (.cons (u24_ (t := .named 3) (rs := [(14, .p (.named 3) ((TF.mk v10.fN v10.fC v10.fT) : TF))]) (ys := [.tmp 14]) (xs := [(TF.mk v10.fN v10.fC v10.fT)]) rfl rfl rfl rfl row_45 (.cons o0 .nil) (by decide)) (.cons (u19_ (t := .named 3) (rs := [(13, .vec 1003 3 0 v3.length), (15, .vec 15 3 0 ([(TF.mk v10.fN v10.fC v10.fT)].length))]) (vw := [(15, .row 50 (.named 3) [(TF.mk v10.fN v10.fC v10.fT)] true)]) (xs := v3) (ys := [(TF.mk v10.fN v10.fC v10.fT)]) (fx := false) rfl rfl rfl row_45 (by decide) o0 o1 (.whole (.head _)) (by simp) g11) (.cons (mvA (v := .vec 16 3 0 ((v3 ++ [(TF.mk v10.fN v10.fC v10.fT)]).length)) rfl rfl) .nil))))) (by kernel_rfl) ?_
    refine bn_ ?_
    refine tnU ?_
    refine rg3 (st1 := ⟨[(3, .vec 16 3 0 ((v3 ++ [(TF.mk v10.fN v10.fC v10.fT)]).length)), (7, .p (.list (.named 3)) a0), (8, .p I6 ((a0.length : Int) : Int)), (9, .p I6 ((IntKind.i64.wrap (v4 + 1)) : Int))], [(16, .row 50 (.named 3) (v3 ++ [(TF.mk v10.fN v10.fC v10.fT)]) false)]⟩) [3, 7, 8, 9] [16] hN (.cons (u21_ (rs := [(9, .p I6 v4)]) rfl rfl o0 (.int _ _ _) rfl) (.cons (mvU (v := .p I6 ((IntKind.i64.wrap (v4 + 1)) : Int)) rfl rfl) .nil)) (by kernel_rfl) (cvT (u12_ (st' := ⟨[(3, .vec 1003 3 0 ((v3 ++ [(TF.mk v10.fN v10.fC v10.fT)]).length)), (7, .p (.list (.named 3)) a0), (8, .p I6 ((a0.length : Int) : Int)), (9, .p I6 ((IntKind.i64.wrap (v4 + 1)) : Int))], [(1003, .row 50 (.named 3) (v3 ++ [(TF.mk v10.fN v10.fC v10.fT)]) false)]⟩) 16 1003 (by unfold K0; omega) (by kernel_rfl) (by kernel_rfl) (by kernel_rfl)) (cvK (b := ⟨[(3, .vec 1003 3 0 ((v3 ++ [(TF.mk v10.fN v10.fC v10.fT)]).length)), (7, .p (.list (.named 3)) a0), (8, .p I6 ((a0.length : Int) : Int)), (9, .p I6 ((IntKind.i64.wrap (v4 + 1)) : Int))], [(1003, .row 50 (.named 3) (v3 ++ [(TF.mk v10.fN v10.fC v10.fT)]) false)]⟩) [3, 7, 8, 9] [1003] (by kernel_rfl))) ?_
    refine tnU ?_
    exact ⟨n, Nat.lt_succ_self n, (v3 ++ [(TF.mk v10.fN v10.fC v10.fT)]), (IntKind.i64.wrap (v4 + 1)), h, rfl⟩
   ·replace h := ite_f hc9 h
    refine wc_ (cvK (b := ⟨[(3, .vec 1003 3 0 v3.length)], [(1003, .row 50 (.named 3) v3 false)]⟩) [3] [1003] (by kernel_rfl)) (we_ ?_)
    refine te_ ?_
    have hq := Option.some.inj h
    subst hq
    refine te_ ?_
    have h := hout8
    refine blockQ_hit ?_
    refine tnU ?_
    exact ⟨v3, h, rfl⟩
 ·rintro _ ⟨v1, h, rfl⟩
  unfold W02_Of.j2 at h
  refine sq_ ?_
  refine rg4 (st1 := ⟨[(2, .vec 1003 3 0 v1.length)], [(1003, .row 50 (.named 3) v1 false)]⟩) [2] [1003] hN (.cons (mvU (v := .vec 1003 3 0 v1.length) rfl rfl) (.cons (mvA (v := .vec 1003 3 0 v1.length) rfl rfl) .nil)) (by kernel_rfl) ?_
  refine tnU ?_
  refine wc_ (cvT (u2_ 2 1003 50 _ (.named 3) v1 false (.head _) (by first | rfl | (simp only [upd_length, List.length_replicate, List.length_append]; done) | (simp only [upd_length, List.length_replicate, List.length_append] at *; omega) | omega) (.head _) (by first | (simp [Blk.names]; done) | (simp [Blk.names, AVal.namesL, AVal.names]; done) | (simp [Blk.names]; decide))) (cvK (b := ⟨[(2, .p (.list (.named 3)) v1)], []⟩) [2] [] (by kernel_rfl))) (wr_ ?_)
  have hq := Option.some.inj h
  subst hq
  exact ends_ret (retV_1 rfl (.head _)) ain_nil

theorem R02_Tree_At_m0.ok (O : Out) (hO : GOk O) (k : Nat) (a0 : List TF) (a1 : List UInt8) (out : Int) (h : R02_Tree_At_m0.f k a0 a1 = some out) : COk Un O Tryd.prog 23 { ar := [.loc 100000 0, .p .str a1], r := .p I6 out, bs := [(100000, .box [.vec 100001 3 0 a0.length]), (100001, .row 50 (.named 3) a0 false)], bs' := [(100000, .box [.vec 100001 3 0 a0.length]), (100001, .row 50 (.named 3) a0 false)] } := by
 refine cok_of_wp Tryd.func23 rfl (k := 23) rfl (Nat.le_of_ble_eq_true rfl) (namesOk_of (by kernel_rfl)) ?_
 intro B hN
 refine ckS (b := ⟨[(0, .loc 100000 0), (1, .p .str a1)], [(100000, .box [.vec 100001 3 0 a0.length]), (100001, .row 50 (.named 3) a0 false)]⟩) [0, 1] [100000, 100001] (by kernel_rfl) ?_
 unfold R02_Tree_At_m0.f at h
 refine sq_ ?_
 refine rg4 (st1 := ⟨[(0, .loc 100000 0), (1, .p .str a1)], [(100000, .box [.vec 100001 3 0 a0.length]), (100001, .row 50 (.named 3) a0 false)]⟩) [0, 1] [100000, 100001] hN (.cons (moU (rs := []) rfl (.inr rfl) (.int _ _ _)) .nil) (by kernel_rfl) ?_
 refine tnU ?_
 refine sqJ (fun st' => R02_Tree_At_m0.j1 k a0 = some out ∧ st' = ⟨[], [(100000, .box [.vec 100001 3 0 a0.length]), (100001, .row 50 (.named 3) a0 false)]⟩) ?_ ?_
 ·refine sq_ ?_
  refine rg4 (st1 := ⟨[(1, .p .str a1), (10, .vec 100001 3 0 a0.length), (11, .p I6 ((a0.length : Int) : Int)), (12, .p I6 (0 : Int))], [(100000, .box [.vec 100001 3 0 a0.length]), (100001, .row 50 (.named 3) a0 false)]⟩) [1, 10, 11, 12] [100000, 100001] hN (.cons (mvU (v := .loc 100000 0) rfl rfl) (.cons (nlU (rs := [(7, .loc 100000 0)]) rfl rfl o0 rfl) (.cons (fdB (rs := [(8, .loc 100000 0)]) rfl rfl fd_47_0 (by decide) o0) (.cons (ldB (t := .list (.named 3)) (rs := [(9, .loc 100000 0)]) [] [.vec 100001 3 0 a0.length] [] (v := .vec 100001 3 0 a0.length) rfl rfl ty_45 o0 rfl rfl rfl rfl (.hand rfl rfl)) (.cons (u39_ (rs := [(10, .vec 100001 3 0 a0.length)]) rfl rfl Tryd.underlying45 o0) (.cons (moU (rs := []) rfl (.inl rfl) (.int _ _ _)) .nil)))))) (by kernel_rfl) ?_
  refine tnU ?_
  refine wb_ ?_
  obtain ⟨o4, hlo4, h⟩ := bind_some h
  have hout5 := h
  clear h
  refine u14_ (fun n st' => ∃ v2 : Int, R02_Tree_At_m0.l3 k a0 a1 n v2 = some o4 ∧ st' = ⟨[(1, .p .str a1), (10, .vec 100001 3 0 a0.length), (11, .p I6 ((a0.length : Int) : Int)), (12, .p I6 v2)], [(100000, .box [.vec 100001 3 0 a0.length]), (100001, .row 50 (.named 3) a0 false)]⟩) k ⟨0, hlo4, rfl⟩ ?_
  clear hlo4
  rintro (_ | n) _ ⟨v2, h, rfl⟩
  ·cases h
  ·rw [R02_Tree_At_m0.l3] at h
   refine sq_ ?_
   refine rg4 (st1 := ⟨[(1, .p .str a1), (10, .vec 100001 3 0 a0.length), (11, .p I6 ((a0.length : Int) : Int)), (12, .p I6 v2), (13, .p .bool ((decide (v2 < (a0.length : Int))) : Bool))], [(100000, .box [.vec 100001 3 0 a0.length]), (100001, .row 50 (.named 3) a0 false)]⟩) [1, 10, 11, 12, 13] [100000, 100001] hN (.cons (cmU (rs := [(12, .p I6 v2), (11, .p I6 ((a0.length : Int) : Int))]) rfl rfl o0 o1 rfl) .nil) (by kernel_rfl) ?_
   refine tnS ?_
   refine cdU (b := (decide (v2 < (a0.length : Int)))) (.tmp m4_) (fun hc6 => ?_) (fun hc6 => ?_)
   ·replace h := ite_t hc6 h
    refine wc_ (cvK (b := ⟨[(1, .p .str a1), (10, .vec 100001 3 0 a0.length), (11, .p I6 ((a0.length : Int) : Int)), (12, .p I6 v2)], [(100000, .box [.vec 100001 3 0 a0.length]), (100001, .row 50 (.named 3) a0 false)]⟩) [1, 10, 11, 12] [100000, 100001] (by kernel_rfl)) (ws_ ?_)
    refine tnS ?_
    refine wb_ ?_
    refine sq_ ?_
    obtain ⟨g7, h⟩ := if_some h
    obtain ⟨v8, hv8, h⟩ := bind_some h
    refine rg4 (st1 := ⟨[(1, .p .str a1), (5, .p I6 v2), (6, .loc 6 0), (10, .vec 100001 3 0 a0.length), (11, .p I6 ((a0.length : Int) : Int)), (12, .p I6 v2)], [(6, .box [.p .str v8.fN, .p .str v8.fC, .p I6 v8.fT]), (100000, .box [.vec 100001 3 0 a0.length]), (100001, .row 50 (.named 3) a0 false)]⟩) [1, 5, 6, 10, 11, 12] [6, 100000, 100001] hN (.cons (mvU (v := .p I6 v2) rfl rfl) (.cons (u35_ (rs := [(10, .vec 100001 3 0 a0.length), (12, .p I6 v2)]) rfl rfl sl_45 o0 o1 g7) (.cons (u40_ (E := 50) (t := .named 3) (rs := [(15, .eloc 100001 3 (0 + v2.toNat) 0)]) (xs := a0) (fx := false) rfl rfl ty_50 o0 hv8 (.here _ _)) (.cons (u18_ (rs := []) (d := 6) (us := [.p .str ([] : List UInt8), .p .str ([] : List UInt8), .p I6 (0 : Int)]) (v := (.agg #[.string ByteArray.empty, .string ByteArray.empty, .int .i64 0])) rfl rfl rfl (by kernel_rfl) rfl (.data (fun _ _ _ => rd_str0) (.data (fun _ _ _ => rd_str0) (.data (fun _ _ _ => .int _ _) .nil))) (by kernel_rfl)) (.cons (mvA (v := .p I6 v2) rfl rfl) (.cons (u54_ (rs := [(6, .loc 6 0), (16, .p (.named 3) v8)]) (v := .p (.named 3) v8) (mid' := [.p .str v8.fN, .p .str v8.fC, .p I6 v8.fT]) [] [.p .str ([] : List UInt8), .p .str ([] : List UInt8), .p I6 (0 : Int)] [] rfl rfl rfl ty_50 o0 o1 (.data (.named (us := ([.p .str v8.fN, .p .str v8.fC, .p I6 v8.fT] : List (AVal Un))) (.pair (.one _ _) (.pair (.one _ _) (.pair (.one _ _) .unit))))) rfl rfl rfl rfl rfl rfl) .nil)))))) (by kernel_rfl) ?_
    refine tnS ?_
    refine rg4 (st1 := ⟨[(1, .p .str a1), (5, .p I6 v2), (10, .vec 100001 3 0 a0.length), (11, .p I6 ((a0.length : Int) : Int)), (12, .p I6 v2), (20, .p .bool ((v8.fN == a1) : Bool))], [(100000, .box [.vec 100001 3 0 a0.length]), (100001, .row 50 (.named 3) a0 false)]⟩) [1, 5, 10, 11, 12, 20] [100000, 100001] hN (.cons (fdB (rs := [(6, .loc 6 0)]) rfl rfl fd_50_0 (by decide) o0) (.cons (ldB (t := .str) (rs := [(17, .loc 6 0)]) [] [.p .str v8.fN] [.p .str v8.fC, .p I6 v8.fT] (v := .p .str v8.fN) rfl rfl ty_9 o0 rfl rfl rfl rfl (.data (.one _ _))) (.cons (mvU (v := .p .str a1) rfl rfl) (.cons (u27_ (rs := [(18, .p .str v8.fN), (19, .p .str a1)]) rfl rfl o0 o1 rfl) .nil)))) (by kernel_rfl) ?_
    refine tnU ?_
    refine cdU (b := (v8.fN == a1)) (.tmp m5_) (fun hc9 => ?_) (fun hc9 => ?_)
    ·replace h := ite_t hc9 h
     refine sq_ ?_
     refine rg4 (st1 := ⟨[(4, .p I6 v2)], [(100000, .box [.vec 100001 3 0 a0.length]), (100001, .row 50 (.named 3) a0 false)]⟩) [4] [100000, 100001] hN (.cons (mvU (v := .p I6 v2) rfl rfl) (.cons (mvA (v := .p I6 v2) rfl rfl) .nil)) (by kernel_rfl) ?_
     refine tnU ?_
     refine wr_ ?_
     refine blockQ_ret ?_
     refine tr_ ?_
     have hq := Option.some.inj h
     subst hq
     refine tr_ ?_
     have h := hout5
     refine blockQ_ret ?_
     refine tr_ ?_
     have hq := Option.some.inj h
     subst hq
     exact ends_ret (retV_1 rfl (.head _)) (ain_cons (.head _) (ain_cons m1_ ain_nil))
    ·replace h := ite_f hc9 h
     refine wc_ (cvK (b := ⟨[(1, .p .str a1), (10, .vec 100001 3 0 a0.length), (11, .p I6 ((a0.length : Int) : Int)), (12, .p I6 v2)], [(100000, .box [.vec 100001 3 0 a0.length]), (100001, .row 50 (.named 3) a0 false)]⟩) [1, 10, 11, 12] [100000, 100001] (by kernel_rfl)) (ws_ ?_)
     refine bn_ ?_
     refine tnU ?_
     refine rg4 (st1 := ⟨[(1, .p .str a1), (10, .vec 100001 3 0 a0.length), (11, .p I6 ((a0.length : Int) : Int)), (12, .p I6 ((IntKind.i64.wrap (v2 + 1)) : Int))], [(100000, .box [.vec 100001 3 0 a0.length]), (100001, .row 50 (.named 3) a0 false)]⟩) [1, 10, 11, 12] [100000, 100001] hN (.cons (u21_ (rs := [(12, .p I6 v2)]) rfl rfl o0 (.int _ _ _) rfl) (.cons (mvU (v := .p I6 ((IntKind.i64.wrap (v2 + 1)) : Int)) rfl rfl) .nil)) (by kernel_rfl) ?_
     refine tnU ?_
     exact ⟨n, Nat.lt_succ_self n, (IntKind.i64.wrap (v2 + 1)), h, rfl⟩
   ·replace h := ite_f hc6 h
    refine wc_ (cvK (b := ⟨[], [(100000, .box [.vec 100001 3 0 a0.length]), (100001, .row 50 (.named 3) a0 false)]⟩) [] [100000, 100001] (by kernel_rfl)) (we_ ?_)
    refine te_ ?_
    have hq := Option.some.inj h
    subst hq
    refine te_ ?_
    have h := hout5
    refine blockQ_hit ?_
    refine tnU ?_
    exact ⟨h, rfl⟩
 ·rintro _ ⟨h, rfl⟩
  unfold R02_Tree_At_m0.j1 at h
  refine sq_ ?_
  refine rg4 (st1 := ⟨[(4, .p I6 ((-1) : Int))], [(100000, .box [.vec 100001 3 0 a0.length]), (100001, .row 50 (.named 3) a0 false)]⟩) [4] [100000, 100001] hN (.cons (moU (rs := []) rfl (.inr rfl) (.int _ _ _)) .nil) (by kernel_rfl) ?_
  refine tnU ?_
  refine wr_ ?_
  have hq := Option.some.inj h
  subst hq
  exact ends_ret (retV_1 rfl (.head _)) (ain_cons (.head _) (ain_cons m1_ ain_nil))

end Go.Proofs.YtkdpaglpieamgaaDoor
