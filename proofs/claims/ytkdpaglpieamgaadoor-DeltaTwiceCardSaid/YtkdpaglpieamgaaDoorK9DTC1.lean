/- A part of the proof of a given law: DTC1. Own work, printed in part by a program of mine. -/
import Derived.Test.YtkdpaglpieamgaaDoorK9DTC0
namespace Go.Proofs.YtkdpaglpieamgaaDoor
open Go Go.AM
set_option linter.unusedVariables false
set_option linter.unusedSimpArgs false
set_option maxRecDepth 100000
theorem delta_Change_check.ok (O : Out) (hO : GOk O) (k : Nat) (a0 : T_delta_Change) (out : Nat) (h : delta_Change_check.f k a0 = some out) : COk Un O Tryd.prog 64 { ar := [.p (.named 6) a0], r := .p .err out } := by
  refine cok_of_wp Tryd.func64 rfl (k := 38) rfl (Nat.le_of_ble_eq_true rfl) (namesOk_pure rfl rfl rfl rfl) ?_
  intro B hN
  refine WpC.conv (cvK (b := ⟨[(0, .p (.named 6) a0)], []⟩) [0] [] (by kernel_rfl)) ?_
  unfold delta_Change_check.f at h
  refine WpC.seq ?_
  refine rgU (st1 := ⟨[(1, .loc 1 0)], [(1, .box [.p I6 a0.f_Kind, .p .str a0.f_Old.f_Name, .p .str a0.f_Old.f_Content, .p I6 a0.f_Old.f_Time, .p .str a0.f_New.f_Name, .p .str a0.f_New.f_Content, .p I6 a0.f_New.f_Time])]⟩) [1] [1] hN (.cons (sok_box (U := Un) (rs := [(0, .p (.named 6) a0)]) (d := 1) (us := [.p I6 a0.f_Kind, .p .str a0.f_Old.f_Name, .p .str a0.f_Old.f_Content, .p I6 a0.f_Old.f_Time, .p .str a0.f_New.f_Name, .p .str a0.f_New.f_Content, .p I6 a0.f_New.f_Time]) rfl rfl rfl o0 (.data (.named (us := ([.p I6 a0.f_Kind, .p .str a0.f_Old.f_Name, .p .str a0.f_Old.f_Content, .p I6 a0.f_Old.f_Time, .p .str a0.f_New.f_Name, .p .str a0.f_New.f_Content, .p I6 a0.f_New.f_Time] : List (AVal Un))) (.pair (.one _ _) (.pair (.named (us := ([.p .str a0.f_Old.f_Name, .p .str a0.f_Old.f_Content, .p I6 a0.f_Old.f_Time] : List (AVal Un))) (.pair (.one _ _) (.pair (.one _ _) (.pair (.one _ _) .unit)))) (.pair (.named (us := ([.p .str a0.f_New.f_Name, .p .str a0.f_New.f_Content, .p I6 a0.f_New.f_Time] : List (AVal Un))) (.pair (.one _ _) (.pair (.one _ _) (.pair (.one _ _) .unit)))) .unit))))) rfl (notin_of (by kernel_rfl))) (.cons (moU (rs := []) rfl (.inr rfl) (.lit _ _ rfl)) .nil)) (by kernel_rfl) (by kernel_rfl) (by kernel_rfl) (cvR _) ?_
  refine tnU ?_
  refine WpC.seq ?_
  refine rgU (st1 := ⟨[(1, .loc 1 0), (3, .loc 3 0)], [(1, .box [.p I6 a0.f_Kind, .p .str a0.f_Old.f_Name, .p .str a0.f_Old.f_Content, .p I6 a0.f_Old.f_Time, .p .str a0.f_New.f_Name, .p .str a0.f_New.f_Content, .p I6 a0.f_New.f_Time]), (3, .box [.p .str ([] : List UInt8), .p .str ([] : List UInt8), .p I6 (0 : Int)])]⟩) [1, 3] [1, 3] hN (.cons (sok_allocZ (U := Un) (rs := []) (d := 3) (us := [.p .str ([] : List UInt8), .p .str ([] : List UInt8), .p I6 (0 : Int)]) (v := (.agg #[.string ByteArray.empty, .string ByteArray.empty, .int .i64 0])) rfl rfl rfl (by kernel_rfl) rfl (.data (fun _ _ _ => rd_str0) (.data (fun _ _ _ => rd_str0) (.data (fun _ _ _ => .int _ _) .nil))) (by kernel_rfl)) .nil) (by kernel_rfl) (by kernel_rfl) (by kernel_rfl) (cvR _) ?_
  refine tnU ?_
  refine sqJ (fun st' => delta_Change_check.j1 k = some out ∧ st' = ⟨[], []⟩) ?_ ?_
  · refine WpC.seq ?_
    refine rgU (st1 := ⟨[(1, .loc 1 0), (3, .loc 3 0), (5, .p I6 a0.f_Kind)], [(1, .box [.p I6 a0.f_Kind, .p .str a0.f_Old.f_Name, .p .str a0.f_Old.f_Content, .p I6 a0.f_Old.f_Time, .p .str a0.f_New.f_Name, .p .str a0.f_New.f_Content, .p I6 a0.f_New.f_Time]), (3, .box [.p .str ([] : List UInt8), .p .str ([] : List UInt8), .p I6 (0 : Int)])]⟩) [1, 3, 5] [1, 3] hN (.cons (fdB (rs := [(1, .loc 1 0)]) rfl rfl fd_103_0 (by decide) o0) (.cons (ldB (t := .int .i64) (rs := [(4, .loc 1 0)]) [] [.p I6 a0.f_Kind] [.p .str a0.f_Old.f_Name, .p .str a0.f_Old.f_Content, .p I6 a0.f_Old.f_Time, .p .str a0.f_New.f_Name, .p .str a0.f_New.f_Content, .p I6 a0.f_New.f_Time] (v := .p I6 a0.f_Kind) rfl rfl ty_3 o0 rfl rfl rfl rfl (.data (.one _ _))) .nil)) (by kernel_rfl) (by kernel_rfl) (by kernel_rfl) (cvR _) ?_
    refine tnU ?_
    refine WpC.block ?_
    refine WpC.seq ?_
    refine rgU (st1 := ⟨[(1, .loc 1 0), (3, .loc 3 0), (5, .p I6 a0.f_Kind), (7, .p .bool ((a0.f_Kind == 1) : Bool))], [(1, .box [.p I6 a0.f_Kind, .p .str a0.f_Old.f_Name, .p .str a0.f_Old.f_Content, .p I6 a0.f_Old.f_Time, .p .str a0.f_New.f_Name, .p .str a0.f_New.f_Content, .p I6 a0.f_New.f_Time]), (3, .box [.p .str ([] : List UInt8), .p .str ([] : List UInt8), .p I6 (0 : Int)])]⟩) [1, 3, 5, 7] [1, 3] hN (.cons (cmU (rs := [(5, .p I6 a0.f_Kind)]) rfl rfl o0 (.int _ _ _) rfl) (.cons (mvA (v := .p .bool ((a0.f_Kind == 1) : Bool)) rfl rfl) .nil)) (by kernel_rfl) (by kernel_rfl) (by kernel_rfl) (cvR _) ?_
    refine tnU ?_
    refine cdU (b := (a0.f_Kind == 1)) (.tmp (.tail _ (.tail _ (.tail _ (.head _))))) (fun hc2 => ?_) (fun hc2 => ?_)
    · replace h := ite_t hc2 h
      refine WpC.seq ?_
      refine rgU (st1 := ⟨[(12, .p .bool ((!(a0.f_Old.f_Name == [] && (a0.f_Old.f_Content == [] && (a0.f_Old.f_Time == 0 && true)))) : Bool))], []⟩) [12] [] hN (.cons (fdB (rs := [(1, .loc 1 0)]) rfl rfl fd_103_1 (by decide) o0) (.cons (ldB (t := .named 3) (rs := [(9, .loc 1 1)]) [.p I6 a0.f_Kind] [.p .str a0.f_Old.f_Name, .p .str a0.f_Old.f_Content, .p I6 a0.f_Old.f_Time] [.p .str a0.f_New.f_Name, .p .str a0.f_New.f_Content, .p I6 a0.f_New.f_Time] (v := .p (.named 3) ((T_tree_File.mk a0.f_Old.f_Name a0.f_Old.f_Content a0.f_Old.f_Time) : T_tree_File)) rfl rfl ty_24 o0 rfl rfl rfl rfl (.data (.named (us := ([.p .str a0.f_Old.f_Name, .p .str a0.f_Old.f_Content, .p I6 a0.f_Old.f_Time] : List (AVal Un))) (.pair (.one _ _) (.pair (.one _ _) (.pair (.one _ _) .unit)))))) (.cons (ldB (t := .named 3) (rs := [(3, .loc 3 0)]) [] [.p .str ([] : List UInt8), .p .str ([] : List UInt8), .p I6 (0 : Int)] [] (v := .p (.named 3) ((T_tree_File.mk [] [] 0) : T_tree_File)) rfl rfl ty_24 o0 rfl rfl rfl rfl (.data (.named (us := ([.p .str ([] : List UInt8), .p .str ([] : List UInt8), .p I6 (0 : Int)] : List (AVal Un))) (.pair (.one _ _) (.pair (.one _ _) (.pair (.one _ _) .unit)))))) (.cons (sok_neS (U := Un) (rs := [(10, .p (.named 3) ((T_tree_File.mk a0.f_Old.f_Name a0.f_Old.f_Content a0.f_Old.f_Time) : T_tree_File)), (11, .p (.named 3) ((T_tree_File.mk [] [] 0) : T_tree_File))]) rfl rfl Tryd.underlying24 (by kernel_rfl) (eqf_24 _ Tryd.underlying24) (by kernel_rfl) o0 o1) .nil)))) (by kernel_rfl) (by kernel_rfl) (by kernel_rfl) (cvR _) ?_
      refine tnU ?_
      refine cdU (b := (!(a0.f_Old.f_Name == [] && (a0.f_Old.f_Content == [] && (a0.f_Old.f_Time == 0 && true))))) o0 (fun hc3 => ?_) (fun hc3 => ?_)
      · replace h := ite_t hc3 h
        refine WpC.seq ?_
        refine rgU (st1 := ⟨[(2, .p .err (3 : Nat))], []⟩) [2] [] hN (.cons (sok_loadG (U := Un) (t := .err) (rs := []) rfl rfl ty_31 rfl rfl (hO.var 2 7 rfl) (fun S w => .err 2)) (.cons (mvA (v := .p .err (3 : Nat)) rfl rfl) .nil)) (by kernel_rfl) (by kernel_rfl) (by kernel_rfl) (cvR _) ?_
        refine tnU ?_
        refine WpC.ret ?_
        refine blockQ_ret ?_
        refine thenQ_ret ?_
        have hq := Option.some.inj h
        subst hq
        exact ends_ret (retV_1 rfl (.head _)) ain_nil
      · replace h := ite_f hc3 h
        refine WpC.conv (cvK (b := ⟨[], []⟩) [] [] (by kernel_rfl)) (WpC.skip ?_)
        refine blockQ_normal ?_
        refine tnU ?_
        exact ⟨h, rfl⟩
    · replace h := ite_f hc2 h
      refine WpC.seq ?_
      refine rgU (st1 := ⟨[(1, .loc 1 0), (3, .loc 3 0), (5, .p I6 a0.f_Kind), (14, .p .bool ((a0.f_Kind == 2) : Bool))], [(1, .box [.p I6 a0.f_Kind, .p .str a0.f_Old.f_Name, .p .str a0.f_Old.f_Content, .p I6 a0.f_Old.f_Time, .p .str a0.f_New.f_Name, .p .str a0.f_New.f_Content, .p I6 a0.f_New.f_Time]), (3, .box [.p .str ([] : List UInt8), .p .str ([] : List UInt8), .p I6 (0 : Int)])]⟩) [1, 3, 5, 14] [1, 3] hN (.cons (cmU (rs := [(5, .p I6 a0.f_Kind)]) rfl rfl o0 (.int _ _ _) rfl) (.cons (mvA (v := .p .bool ((a0.f_Kind == 2) : Bool)) rfl rfl) .nil)) (by kernel_rfl) (by kernel_rfl) (by kernel_rfl) (cvR _) ?_
      refine tnU ?_
      refine cdU (b := (a0.f_Kind == 2)) (.tmp (.tail _ (.tail _ (.tail _ (.head _))))) (fun hc4 => ?_) (fun hc4 => ?_)
      · replace h := ite_t hc4 h
        refine sqJ (fun st' => ∃ v5 : Bool, delta_Change_check.j7 k v5 = some out ∧ st' = ⟨[(29, .p .bool v5)], []⟩) ?_ ?_
        · rcases bool_cases (!(a0.f_Old.f_Name == a0.f_New.f_Name)) with hc8 | hc8
          · replace h := ite_t hc8 h
            refine rgU (st1 := ⟨[(29, .p .bool true)], []⟩) [29] [] hN (.cons (fdB (rs := [(1, .loc 1 0)]) rfl rfl fd_103_1 (by decide) o0) (.cons (fdB (rs := [(16, .loc 1 1)]) rfl rfl fd_24_0 (by decide) o0) (.cons (ldB (t := .str) (rs := [(17, .loc 1 1)]) [.p I6 a0.f_Kind] [.p .str a0.f_Old.f_Name] [.p .str a0.f_Old.f_Content, .p I6 a0.f_Old.f_Time, .p .str a0.f_New.f_Name, .p .str a0.f_New.f_Content, .p I6 a0.f_New.f_Time] (v := .p .str a0.f_Old.f_Name) rfl rfl ty_9 o0 rfl rfl rfl rfl (.data (.one _ _))) (.cons (fdB (rs := [(1, .loc 1 0)]) rfl rfl fd_103_2 (by decide) o0) (.cons (fdB (rs := [(19, .loc 1 4)]) rfl rfl fd_24_0 (by decide) o0) (.cons (ldB (t := .str) (rs := [(20, .loc 1 4)]) [.p I6 a0.f_Kind, .p .str a0.f_Old.f_Name, .p .str a0.f_Old.f_Content, .p I6 a0.f_Old.f_Time] [.p .str a0.f_New.f_Name] [.p .str a0.f_New.f_Content, .p I6 a0.f_New.f_Time] (v := .p .str a0.f_New.f_Name) rfl rfl ty_9 o0 rfl rfl rfl rfl (.data (.one _ _))) (.cons (sok_cmpS (U := Un) (rs := [(18, .p .str a0.f_Old.f_Name), (21, .p .str a0.f_New.f_Name)]) rfl rfl o0 o1 rfl) (.cons (mvU (v := .p .bool ((!(a0.f_Old.f_Name == a0.f_New.f_Name)) : Bool)) rfl rfl) (.cons (skU rfl rfl hc8) (.cons (skU rfl rfl hc8) (.cons (skU rfl rfl hc8) (.cons (skU rfl rfl hc8) (.cons (skU rfl rfl hc8) (.cons (pkT (rs := [(23, .p .bool ((!(a0.f_Old.f_Name == a0.f_New.f_Name)) : Bool))]) rfl rfl o0 hc8 (.bool _ _)) .nil)))))))))))))) (by kernel_rfl) (by kernel_rfl) (by kernel_rfl) (cvR _) ?_
            refine tnU ?_
            exact ⟨true, h, rfl⟩
          · replace h := ite_f hc8 h
            refine rgU (st1 := ⟨[(29, .p .bool ((a0.f_Old.f_Name == a0.f_New.f_Name && (a0.f_Old.f_Content == a0.f_New.f_Content && (a0.f_Old.f_Time == a0.f_New.f_Time && true))) : Bool))], []⟩) [29] [] hN (.cons (fdB (rs := [(1, .loc 1 0)]) rfl rfl fd_103_1 (by decide) o0) (.cons (fdB (rs := [(16, .loc 1 1)]) rfl rfl fd_24_0 (by decide) o0) (.cons (ldB (t := .str) (rs := [(17, .loc 1 1)]) [.p I6 a0.f_Kind] [.p .str a0.f_Old.f_Name] [.p .str a0.f_Old.f_Content, .p I6 a0.f_Old.f_Time, .p .str a0.f_New.f_Name, .p .str a0.f_New.f_Content, .p I6 a0.f_New.f_Time] (v := .p .str a0.f_Old.f_Name) rfl rfl ty_9 o0 rfl rfl rfl rfl (.data (.one _ _))) (.cons (fdB (rs := [(1, .loc 1 0)]) rfl rfl fd_103_2 (by decide) o0) (.cons (fdB (rs := [(19, .loc 1 4)]) rfl rfl fd_24_0 (by decide) o0) (.cons (ldB (t := .str) (rs := [(20, .loc 1 4)]) [.p I6 a0.f_Kind, .p .str a0.f_Old.f_Name, .p .str a0.f_Old.f_Content, .p I6 a0.f_Old.f_Time] [.p .str a0.f_New.f_Name] [.p .str a0.f_New.f_Content, .p I6 a0.f_New.f_Time] (v := .p .str a0.f_New.f_Name) rfl rfl ty_9 o0 rfl rfl rfl rfl (.data (.one _ _))) (.cons (sok_cmpS (U := Un) (rs := [(18, .p .str a0.f_Old.f_Name), (21, .p .str a0.f_New.f_Name)]) rfl rfl o0 o1 rfl) (.cons (mvU (v := .p .bool ((!(a0.f_Old.f_Name == a0.f_New.f_Name)) : Bool)) rfl rfl) (.cons (sok_run rfl rfl hc8 (fdB (rs := [(1, .loc 1 0)]) rfl rfl fd_103_1 (by decide) o0)) (.cons (sok_run rfl rfl hc8 (ldB (t := .named 3) (rs := [(24, .loc 1 1)]) [.p I6 a0.f_Kind] [.p .str a0.f_Old.f_Name, .p .str a0.f_Old.f_Content, .p I6 a0.f_Old.f_Time] [.p .str a0.f_New.f_Name, .p .str a0.f_New.f_Content, .p I6 a0.f_New.f_Time] (v := .p (.named 3) ((T_tree_File.mk a0.f_Old.f_Name a0.f_Old.f_Content a0.f_Old.f_Time) : T_tree_File)) rfl rfl ty_24 o0 rfl rfl rfl rfl (.data (.named (us := ([.p .str a0.f_Old.f_Name, .p .str a0.f_Old.f_Content, .p I6 a0.f_Old.f_Time] : List (AVal Un))) (.pair (.one _ _) (.pair (.one _ _) (.pair (.one _ _) .unit))))))) (.cons (sok_run rfl rfl hc8 (fdB (rs := [(1, .loc 1 0)]) rfl rfl fd_103_2 (by decide) o0)) (.cons (sok_run rfl rfl hc8 (ldB (t := .named 3) (rs := [(26, .loc 1 4)]) [.p I6 a0.f_Kind, .p .str a0.f_Old.f_Name, .p .str a0.f_Old.f_Content, .p I6 a0.f_Old.f_Time] [.p .str a0.f_New.f_Name, .p .str a0.f_New.f_Content, .p I6 a0.f_New.f_Time] [] (v := .p (.named 3) ((T_tree_File.mk a0.f_New.f_Name a0.f_New.f_Content a0.f_New.f_Time) : T_tree_File)) rfl rfl ty_24 o0 rfl rfl rfl rfl (.data (.named (us := ([.p .str a0.f_New.f_Name, .p .str a0.f_New.f_Content, .p I6 a0.f_New.f_Time] : List (AVal Un))) (.pair (.one _ _) (.pair (.one _ _) (.pair (.one _ _) .unit))))))) (.cons (sok_run rfl rfl hc8 (sok_eqS (U := Un) (rs := [(25, .p (.named 3) ((T_tree_File.mk a0.f_Old.f_Name a0.f_Old.f_Content a0.f_Old.f_Time) : T_tree_File)), (27, .p (.named 3) ((T_tree_File.mk a0.f_New.f_Name a0.f_New.f_Content a0.f_New.f_Time) : T_tree_File))]) rfl rfl Tryd.underlying24 (by kernel_rfl) (eqf_24 _ Tryd.underlying24) (by kernel_rfl) o0 o1)) (.cons (pkF (rs := [(23, .p .bool ((!(a0.f_Old.f_Name == a0.f_New.f_Name)) : Bool)), (28, .p .bool ((a0.f_Old.f_Name == a0.f_New.f_Name && (a0.f_Old.f_Content == a0.f_New.f_Content && (a0.f_Old.f_Time == a0.f_New.f_Time && true))) : Bool))]) rfl rfl o0 hc8 o1) .nil)))))))))))))) (by kernel_rfl) (by kernel_rfl) (by kernel_rfl) (cvR _) ?_
            refine tnU ?_
            exact ⟨(a0.f_Old.f_Name == a0.f_New.f_Name && (a0.f_Old.f_Content == a0.f_New.f_Content && (a0.f_Old.f_Time == a0.f_New.f_Time && true))), h, rfl⟩
        · rintro _ ⟨v5, h, rfl⟩
          unfold delta_Change_check.j7 at h
          refine cdU (b := v5) o0 (fun hc6 => ?_) (fun hc6 => ?_)
          · replace h := ite_t hc6 h
            refine WpC.seq ?_
            refine rgU (st1 := ⟨[(2, .p .err (3 : Nat))], []⟩) [2] [] hN (.cons (sok_loadG (U := Un) (t := .err) (rs := []) rfl rfl ty_31 rfl rfl (hO.var 2 7 rfl) (fun S w => .err 2)) (.cons (mvA (v := .p .err (3 : Nat)) rfl rfl) .nil)) (by kernel_rfl) (by kernel_rfl) (by kernel_rfl) (cvR _) ?_
            refine tnU ?_
            refine WpC.ret ?_
            refine blockQ_ret ?_
            refine thenQ_ret ?_
            have hq := Option.some.inj h
            subst hq
            exact ends_ret (retV_1 rfl (.head _)) ain_nil
          · replace h := ite_f hc6 h
            refine WpC.conv (cvK (b := ⟨[], []⟩) [] [] (by kernel_rfl)) (WpC.skip ?_)
            refine blockQ_normal ?_
            refine tnU ?_
            exact ⟨h, rfl⟩
      · replace h := ite_f hc4 h
        refine WpC.seq ?_
        refine rgU (st1 := ⟨[(1, .loc 1 0), (3, .loc 3 0), (31, .p .bool ((a0.f_Kind == 3) : Bool))], [(1, .box [.p I6 a0.f_Kind, .p .str a0.f_Old.f_Name, .p .str a0.f_Old.f_Content, .p I6 a0.f_Old.f_Time, .p .str a0.f_New.f_Name, .p .str a0.f_New.f_Content, .p I6 a0.f_New.f_Time]), (3, .box [.p .str ([] : List UInt8), .p .str ([] : List UInt8), .p I6 (0 : Int)])]⟩) [1, 3, 31] [1, 3] hN (.cons (cmU (rs := [(5, .p I6 a0.f_Kind)]) rfl rfl o0 (.int _ _ _) rfl) (.cons (mvA (v := .p .bool ((a0.f_Kind == 3) : Bool)) rfl rfl) .nil)) (by kernel_rfl) (by kernel_rfl) (by kernel_rfl) (cvR _) ?_
        refine tnU ?_
        refine cdU (b := (a0.f_Kind == 3)) (.tmp (.tail _ (.tail _ (.head _)))) (fun hc9 => ?_) (fun hc9 => ?_)
        · replace h := ite_t hc9 h
          refine WpC.seq ?_
          refine rgU (st1 := ⟨[(36, .p .bool ((!(a0.f_New.f_Name == [] && (a0.f_New.f_Content == [] && (a0.f_New.f_Time == 0 && true)))) : Bool))], []⟩) [36] [] hN (.cons (fdB (rs := [(1, .loc 1 0)]) rfl rfl fd_103_2 (by decide) o0) (.cons (ldB (t := .named 3) (rs := [(33, .loc 1 4)]) [.p I6 a0.f_Kind, .p .str a0.f_Old.f_Name, .p .str a0.f_Old.f_Content, .p I6 a0.f_Old.f_Time] [.p .str a0.f_New.f_Name, .p .str a0.f_New.f_Content, .p I6 a0.f_New.f_Time] [] (v := .p (.named 3) ((T_tree_File.mk a0.f_New.f_Name a0.f_New.f_Content a0.f_New.f_Time) : T_tree_File)) rfl rfl ty_24 o0 rfl rfl rfl rfl (.data (.named (us := ([.p .str a0.f_New.f_Name, .p .str a0.f_New.f_Content, .p I6 a0.f_New.f_Time] : List (AVal Un))) (.pair (.one _ _) (.pair (.one _ _) (.pair (.one _ _) .unit)))))) (.cons (ldB (t := .named 3) (rs := [(3, .loc 3 0)]) [] [.p .str ([] : List UInt8), .p .str ([] : List UInt8), .p I6 (0 : Int)] [] (v := .p (.named 3) ((T_tree_File.mk [] [] 0) : T_tree_File)) rfl rfl ty_24 o0 rfl rfl rfl rfl (.data (.named (us := ([.p .str ([] : List UInt8), .p .str ([] : List UInt8), .p I6 (0 : Int)] : List (AVal Un))) (.pair (.one _ _) (.pair (.one _ _) (.pair (.one _ _) .unit)))))) (.cons (sok_neS (U := Un) (rs := [(34, .p (.named 3) ((T_tree_File.mk a0.f_New.f_Name a0.f_New.f_Content a0.f_New.f_Time) : T_tree_File)), (35, .p (.named 3) ((T_tree_File.mk [] [] 0) : T_tree_File))]) rfl rfl Tryd.underlying24 (by kernel_rfl) (eqf_24 _ Tryd.underlying24) (by kernel_rfl) o0 o1) .nil)))) (by kernel_rfl) (by kernel_rfl) (by kernel_rfl) (cvR _) ?_
          refine tnU ?_
          refine cdU (b := (!(a0.f_New.f_Name == [] && (a0.f_New.f_Content == [] && (a0.f_New.f_Time == 0 && true))))) o0 (fun hc10 => ?_) (fun hc10 => ?_)
          · replace h := ite_t hc10 h
            refine WpC.seq ?_
            refine rgU (st1 := ⟨[(2, .p .err (3 : Nat))], []⟩) [2] [] hN (.cons (sok_loadG (U := Un) (t := .err) (rs := []) rfl rfl ty_31 rfl rfl (hO.var 2 7 rfl) (fun S w => .err 2)) (.cons (mvA (v := .p .err (3 : Nat)) rfl rfl) .nil)) (by kernel_rfl) (by kernel_rfl) (by kernel_rfl) (cvR _) ?_
            refine tnU ?_
            refine WpC.ret ?_
            refine blockQ_ret ?_
            refine thenQ_ret ?_
            have hq := Option.some.inj h
            subst hq
            exact ends_ret (retV_1 rfl (.head _)) ain_nil
          · replace h := ite_f hc10 h
            refine WpC.conv (cvK (b := ⟨[], []⟩) [] [] (by kernel_rfl)) (WpC.skip ?_)
            refine blockQ_normal ?_
            refine tnU ?_
            exact ⟨h, rfl⟩
        · replace h := ite_f hc9 h
          refine WpC.seq ?_
          refine rgU (st1 := ⟨[(2, .p .err (17 : Nat))], []⟩) [2] [] hN (.cons (sok_loadG (U := Un) (t := .err) (rs := []) rfl rfl ty_31 rfl rfl (hO.var 16 16 rfl) (fun S w => .err 16)) (.cons (mvA (v := .p .err (17 : Nat)) rfl rfl) .nil)) (by kernel_rfl) (by kernel_rfl) (by kernel_rfl) (cvR _) ?_
          refine tnU ?_
          refine WpC.ret ?_
          refine blockQ_ret ?_
          refine thenQ_ret ?_
          have hq := Option.some.inj h
          subst hq
          exact ends_ret (retV_1 rfl (.head _)) ain_nil
  · rintro _ ⟨h, rfl⟩
    unfold delta_Change_check.j1 at h
    refine WpC.seq ?_
    refine rgU (st1 := ⟨[(2, .lit .nilIface)], []⟩) [2] [] hN (.cons (moU (rs := []) rfl (.inr rfl) (.lit _ _ rfl)) .nil) (by kernel_rfl) (by kernel_rfl) (by kernel_rfl) (cvR _) ?_
    refine tnU ?_
    refine WpC.conv (cvT (Conv.nilE (U := Un) 2 (.head _)) (cvK (b := ⟨[(2, .p .err (0 : Nat))], []⟩) [2] [] (by kernel_rfl))) (WpC.ret ?_)
    have hq := Option.some.inj h
    subst hq
    exact ends_ret (retV_1 rfl (.head _)) ain_nil

theorem delta_Change_name.ok (O : Out) (hO : GOk O) (k : Nat) (a0 : T_delta_Change) (out : List UInt8) (h : delta_Change_name.f k a0 = some out) : COk Un O Tryd.prog 65 { ar := [.p (.named 6) a0], r := .p .str out } := by
  refine cok_of_wp Tryd.func65 rfl (k := 12) rfl (Nat.le_of_ble_eq_true rfl) (namesOk_pure rfl rfl rfl rfl) ?_
  intro B hN
  refine WpC.conv (cvK (b := ⟨[(0, .p (.named 6) a0)], []⟩) [0] [] (by kernel_rfl)) ?_
  unfold delta_Change_name.f at h
  refine WpC.seq ?_
  refine rgU (st1 := ⟨[(1, .loc 1 0)], [(1, .box [.p I6 a0.f_Kind, .p .str a0.f_Old.f_Name, .p .str a0.f_Old.f_Content, .p I6 a0.f_Old.f_Time, .p .str a0.f_New.f_Name, .p .str a0.f_New.f_Content, .p I6 a0.f_New.f_Time])]⟩) [1] [1] hN (.cons (sok_box (U := Un) (rs := [(0, .p (.named 6) a0)]) (d := 1) (us := [.p I6 a0.f_Kind, .p .str a0.f_Old.f_Name, .p .str a0.f_Old.f_Content, .p I6 a0.f_Old.f_Time, .p .str a0.f_New.f_Name, .p .str a0.f_New.f_Content, .p I6 a0.f_New.f_Time]) rfl rfl rfl o0 (.data (.named (us := ([.p I6 a0.f_Kind, .p .str a0.f_Old.f_Name, .p .str a0.f_Old.f_Content, .p I6 a0.f_Old.f_Time, .p .str a0.f_New.f_Name, .p .str a0.f_New.f_Content, .p I6 a0.f_New.f_Time] : List (AVal Un))) (.pair (.one _ _) (.pair (.named (us := ([.p .str a0.f_Old.f_Name, .p .str a0.f_Old.f_Content, .p I6 a0.f_Old.f_Time] : List (AVal Un))) (.pair (.one _ _) (.pair (.one _ _) (.pair (.one _ _) .unit)))) (.pair (.named (us := ([.p .str a0.f_New.f_Name, .p .str a0.f_New.f_Content, .p I6 a0.f_New.f_Time] : List (AVal Un))) (.pair (.one _ _) (.pair (.one _ _) (.pair (.one _ _) .unit)))) .unit))))) rfl (notin_of (by kernel_rfl))) (.cons (moU (rs := []) rfl (.inr rfl) (.str _ _)) .nil)) (by kernel_rfl) (by kernel_rfl) (by kernel_rfl) (cvR _) ?_
  refine tnU ?_
  refine WpC.seq ?_
  refine WpC.seq ?_
  refine rgU (st1 := ⟨[(1, .loc 1 0), (5, .p .bool ((a0.f_Kind == 1) : Bool))], [(1, .box [.p I6 a0.f_Kind, .p .str a0.f_Old.f_Name, .p .str a0.f_Old.f_Content, .p I6 a0.f_Old.f_Time, .p .str a0.f_New.f_Name, .p .str a0.f_New.f_Content, .p I6 a0.f_New.f_Time])]⟩) [1, 5] [1] hN (.cons (fdB (rs := [(1, .loc 1 0)]) rfl rfl fd_103_0 (by decide) o0) (.cons (ldB (t := .int .i64) (rs := [(3, .loc 1 0)]) [] [.p I6 a0.f_Kind] [.p .str a0.f_Old.f_Name, .p .str a0.f_Old.f_Content, .p I6 a0.f_Old.f_Time, .p .str a0.f_New.f_Name, .p .str a0.f_New.f_Content, .p I6 a0.f_New.f_Time] (v := .p I6 a0.f_Kind) rfl rfl ty_3 o0 rfl rfl rfl rfl (.data (.one _ _))) (.cons (cmU (rs := [(4, .p I6 a0.f_Kind)]) rfl rfl o0 (.int _ _ _) rfl) .nil))) (by kernel_rfl) (by kernel_rfl) (by kernel_rfl) (cvR _) ?_
  refine tnU ?_
  refine cdU (b := (a0.f_Kind == 1)) o1 (fun hc1 => ?_) (fun hc1 => ?_)
  · replace h := ite_t hc1 h
    refine WpC.seq ?_
    refine rgU (st1 := ⟨[(2, .p .str a0.f_New.f_Name)], []⟩) [2] [] hN (.cons (fdB (rs := [(1, .loc 1 0)]) rfl rfl fd_103_2 (by decide) o0) (.cons (fdB (rs := [(6, .loc 1 4)]) rfl rfl fd_24_0 (by decide) o0) (.cons (ldB (t := .str) (rs := [(7, .loc 1 4)]) [.p I6 a0.f_Kind, .p .str a0.f_Old.f_Name, .p .str a0.f_Old.f_Content, .p I6 a0.f_Old.f_Time] [.p .str a0.f_New.f_Name] [.p .str a0.f_New.f_Content, .p I6 a0.f_New.f_Time] (v := .p .str a0.f_New.f_Name) rfl rfl ty_9 o0 rfl rfl rfl rfl (.data (.one _ _))) (.cons (mvA (v := .p .str a0.f_New.f_Name) rfl rfl) .nil)))) (by kernel_rfl) (by kernel_rfl) (by kernel_rfl) (cvR _) ?_
    refine tnU ?_
    refine WpC.ret ?_
    refine thenQ_ret ?_
    have hq := Option.some.inj h
    subst hq
    exact ends_ret (retV_1 rfl (.head _)) ain_nil
  · replace h := ite_f hc1 h
    refine WpC.conv (cvK (b := ⟨[(1, .loc 1 0)], [(1, .box [.p I6 a0.f_Kind, .p .str a0.f_Old.f_Name, .p .str a0.f_Old.f_Content, .p I6 a0.f_Old.f_Time, .p .str a0.f_New.f_Name, .p .str a0.f_New.f_Content, .p I6 a0.f_New.f_Time])]⟩) [1] [1] (by kernel_rfl)) (WpC.skip ?_)
    refine tnU ?_
    refine WpC.seq ?_
    refine rgU (st1 := ⟨[(2, .p .str a0.f_Old.f_Name)], []⟩) [2] [] hN (.cons (fdB (rs := [(1, .loc 1 0)]) rfl rfl fd_103_1 (by decide) o0) (.cons (fdB (rs := [(9, .loc 1 1)]) rfl rfl fd_24_0 (by decide) o0) (.cons (ldB (t := .str) (rs := [(10, .loc 1 1)]) [.p I6 a0.f_Kind] [.p .str a0.f_Old.f_Name] [.p .str a0.f_Old.f_Content, .p I6 a0.f_Old.f_Time, .p .str a0.f_New.f_Name, .p .str a0.f_New.f_Content, .p I6 a0.f_New.f_Time] (v := .p .str a0.f_Old.f_Name) rfl rfl ty_9 o0 rfl rfl rfl rfl (.data (.one _ _))) (.cons (mvA (v := .p .str a0.f_Old.f_Name) rfl rfl) .nil)))) (by kernel_rfl) (by kernel_rfl) (by kernel_rfl) (cvR _) ?_
    refine tnU ?_
    refine WpC.ret ?_
    have hq := Option.some.inj h
    subst hq
    exact ends_ret (retV_1 rfl (.head _)) ain_nil

theorem delta_Check.ok (O : Out) (hO : GOk O) (k : Nat) (a0 : List T_delta_Change) (out : Nat) (h : delta_Check.f k a0 = some out) : COk Un O Tryd.prog 39 { ar := [.p (.list (.named 6)) a0], r := .p .err out } := by
  refine cok_of_wp Tryd.func39 rfl (k := 31) rfl (Nat.le_of_ble_eq_true rfl) (namesOk_pure rfl rfl rfl rfl) ?_
  intro B hN
  refine WpC.conv (cvK (b := ⟨[(0, .p (.list (.named 6)) a0)], []⟩) [0] [] (by kernel_rfl)) ?_
  unfold delta_Check.f at h
  refine WpC.seq ?_
  refine rgU (st1 := ⟨[(0, .p (.list (.named 6)) a0)], []⟩) [0] [] hN (.cons (moU (rs := []) rfl (.inr rfl) (.lit _ _ rfl)) .nil) (by kernel_rfl) (by kernel_rfl) (by kernel_rfl) (cvR _) ?_
  refine tnU ?_
  refine WpC.seq ?_
  refine rgU (st1 := ⟨[(0, .p (.list (.named 6)) a0), (3, .mp 7)], [(7, .map I6 ([] : List ((List UInt8) × Int)))]⟩) [0, 3] [7] hN (.cons (sok_makeMap (U := Un) (t := .int .i64) (rs := []) (d := 7) rfl rfl rfl) (.cons (mvA (v := .mp 7) rfl rfl) .nil)) (by kernel_rfl) (by kernel_rfl) (by kernel_rfl) (cvR _) ?_
  refine tnU ?_
  refine sqJ (fun st' => ∃ v1 : List ((List UInt8) × Int), delta_Check.j3 k a0 v1 = some out ∧ st' = ⟨[(0, .p (.list (.named 6)) a0), (3, .mp 7)], [(7, .map I6 v1)]⟩) ?_ ?_
  · refine WpC.seq ?_
    refine rgU (st1 := ⟨[(0, .p (.list (.named 6)) a0), (3, .mp 7), (8, .p (.list (.named 6)) a0), (9, .p I6 ((a0.length : Int) : Int)), (10, .p I6 (0 : Int))], [(7, .map I6 ([] : List ((List UInt8) × Int)))]⟩) [0, 3, 8, 9, 10] [7] hN (.cons (mvU (v := .p (.list (.named 6)) a0) rfl rfl) (.cons (sok_lenL (U := Un) (rs := [(8, .p (.list (.named 6)) a0)]) rfl rfl Tryd.underlying60 o0) (.cons (moU (rs := []) rfl (.inl rfl) (.int _ _ _)) .nil))) (by kernel_rfl) (by kernel_rfl) (by kernel_rfl) (cvR _) ?_
    refine tnU ?_
    refine WpC.block ?_
    obtain ⟨o8, hlo8, h⟩ := bind_some h
    have hout9 := h
    clear h
    refine WpC.loop (U := Un) (fun n st' => ∃ v4 : List ((List UInt8) × Int), ∃ v5 : Int, delta_Check.l6 k a0 n v4 v5 = some o8 ∧ st' = ⟨[(0, .p (.list (.named 6)) a0), (3, .mp 7), (8, .p (.list (.named 6)) a0), (9, .p I6 ((a0.length : Int) : Int)), (10, .p I6 v5)], [(7, .map I6 v4)]⟩) k ⟨[], 0, hlo8, rfl⟩ ?_
    clear hlo8
    rintro (_ | n) _ ⟨v4, v5, h, rfl⟩
    · cases h
    · rw [delta_Check.l6] at h
      refine WpC.seq ?_
      refine rgU (st1 := ⟨[(0, .p (.list (.named 6)) a0), (3, .mp 7), (8, .p (.list (.named 6)) a0), (9, .p I6 ((a0.length : Int) : Int)), (10, .p I6 v5), (11, .p .bool ((decide (v5 < (a0.length : Int))) : Bool))], [(7, .map I6 v4)]⟩) [0, 3, 8, 9, 10, 11] [7] hN (.cons (cmU (rs := [(10, .p I6 v5), (9, .p I6 ((a0.length : Int) : Int))]) rfl rfl o0 o1 rfl) .nil) (by kernel_rfl) (by kernel_rfl) (by kernel_rfl) (cvR _) ?_
      refine tnU ?_
      refine WpC.seq ?_
      refine cdU (b := (decide (v5 < (a0.length : Int)))) (.tmp (.tail _ (.tail _ (.tail _ (.tail _ (.tail _ (.head _))))))) (fun hc10 => ?_) (fun hc10 => ?_)
      · replace h := ite_t hc10 h
        refine WpC.conv (cvK (b := ⟨[(0, .p (.list (.named 6)) a0), (3, .mp 7), (8, .p (.list (.named 6)) a0), (9, .p I6 ((a0.length : Int) : Int)), (10, .p I6 v5)], [(7, .map I6 v4)]⟩) [0, 3, 8, 9, 10] [7] (by kernel_rfl)) (WpC.skip ?_)
        refine tnU ?_
        refine WpC.seq ?_
        refine WpC.block ?_
        refine WpC.seq ?_
        obtain ⟨v11, hv11, h⟩ := bind_some h
        refine rgU (st1 := ⟨[(0, .p (.list (.named 6)) a0), (3, .mp 7), (5, .loc 5 0), (8, .p (.list (.named 6)) a0), (9, .p I6 ((a0.length : Int) : Int)), (10, .p I6 v5)], [(5, .box [.p I6 v11.f_Kind, .p .str v11.f_Old.f_Name, .p .str v11.f_Old.f_Content, .p I6 v11.f_Old.f_Time, .p .str v11.f_New.f_Name, .p .str v11.f_New.f_Content, .p I6 v11.f_New.f_Time]), (7, .map I6 v4)]⟩) [0, 3, 5, 8, 9, 10] [5, 7] hN (.cons (sok_indexL (U := Un) (rs := [(8, .p (.list (.named 6)) a0), (10, .p I6 v5)]) rfl rfl sl_60 o0 o1 hv11) (.cons (sok_loadP (U := Un) (rs := [(12, .pp (.named 6) v11)]) rfl rfl ty_103 o0) (.cons (sok_allocZ (U := Un) (rs := []) (d := 5) (us := [.p I6 (0 : Int), .p .str ([] : List UInt8), .p .str ([] : List UInt8), .p I6 (0 : Int), .p .str ([] : List UInt8), .p .str ([] : List UInt8), .p I6 (0 : Int)]) (v := (.agg #[.int .i64 0, .string ByteArray.empty, .string ByteArray.empty, .int .i64 0, .string ByteArray.empty, .string ByteArray.empty, .int .i64 0])) rfl rfl rfl (by kernel_rfl) rfl (.data (fun _ _ _ => .int _ _) (.data (fun _ _ _ => rd_str0) (.data (fun _ _ _ => rd_str0) (.data (fun _ _ _ => .int _ _) (.data (fun _ _ _ => rd_str0) (.data (fun _ _ _ => rd_str0) (.data (fun _ _ _ => .int _ _) .nil))))))) (by kernel_rfl)) (.cons (sok_storeB (U := Un) (rs := [(5, .loc 5 0), (13, .p (.named 6) v11)]) (v := .p (.named 6) v11) (mid' := [.p I6 v11.f_Kind, .p .str v11.f_Old.f_Name, .p .str v11.f_Old.f_Content, .p I6 v11.f_Old.f_Time, .p .str v11.f_New.f_Name, .p .str v11.f_New.f_Content, .p I6 v11.f_New.f_Time]) [] [.p I6 (0 : Int), .p .str ([] : List UInt8), .p .str ([] : List UInt8), .p I6 (0 : Int), .p .str ([] : List UInt8), .p .str ([] : List UInt8), .p I6 (0 : Int)] [] rfl rfl rfl ty_103 o0 o1 (.data (.named (us := ([.p I6 v11.f_Kind, .p .str v11.f_Old.f_Name, .p .str v11.f_Old.f_Content, .p I6 v11.f_Old.f_Time, .p .str v11.f_New.f_Name, .p .str v11.f_New.f_Content, .p I6 v11.f_New.f_Time] : List (AVal Un))) (.pair (.one _ _) (.pair (.named (us := ([.p .str v11.f_Old.f_Name, .p .str v11.f_Old.f_Content, .p I6 v11.f_Old.f_Time] : List (AVal Un))) (.pair (.one _ _) (.pair (.one _ _) (.pair (.one _ _) .unit)))) (.pair (.named (us := ([.p .str v11.f_New.f_Name, .p .str v11.f_New.f_Content, .p I6 v11.f_New.f_Time] : List (AVal Un))) (.pair (.one _ _) (.pair (.one _ _) (.pair (.one _ _) .unit)))) .unit))))) rfl rfl rfl rfl rfl rfl) .nil)))) (by kernel_rfl) (by kernel_rfl) (by kernel_rfl) (cvR _) ?_
        refine tnU ?_
        refine WpC.seq ?_
        refine WpC.seq ?_
        obtain ⟨v12, hv12, h⟩ := bind_some h
        refine rgU (st1 := ⟨[(0, .p (.list (.named 6)) a0), (3, .mp 7), (5, .loc 5 0), (6, .p .err v12), (8, .p (.list (.named 6)) a0), (9, .p I6 ((a0.length : Int) : Int)), (10, .p I6 v5)], [(5, .box [.p I6 v11.f_Kind, .p .str v11.f_Old.f_Name, .p .str v11.f_Old.f_Content, .p I6 v11.f_Old.f_Time, .p .str v11.f_New.f_Name, .p .str v11.f_New.f_Content, .p I6 v11.f_New.f_Time]), (7, .map I6 v4)]⟩) [0, 3, 5, 6, 8, 9, 10] [5, 7] hN (.cons (ldB (t := .named 6) (rs := [(5, .loc 5 0)]) [] [.p I6 v11.f_Kind, .p .str v11.f_Old.f_Name, .p .str v11.f_Old.f_Content, .p I6 v11.f_Old.f_Time, .p .str v11.f_New.f_Name, .p .str v11.f_New.f_Content, .p I6 v11.f_New.f_Time] [] (v := .p (.named 6) ((T_delta_Change.mk v11.f_Kind (T_tree_File.mk v11.f_Old.f_Name v11.f_Old.f_Content v11.f_Old.f_Time) (T_tree_File.mk v11.f_New.f_Name v11.f_New.f_Content v11.f_New.f_Time)) : T_delta_Change)) rfl rfl ty_103 o0 rfl rfl rfl rfl (.data (.named (us := ([.p I6 v11.f_Kind, .p .str v11.f_Old.f_Name, .p .str v11.f_Old.f_Content, .p I6 v11.f_Old.f_Time, .p .str v11.f_New.f_Name, .p .str v11.f_New.f_Content, .p I6 v11.f_New.f_Time] : List (AVal Un))) (.pair (.one _ _) (.pair (.named (us := ([.p .str v11.f_Old.f_Name, .p .str v11.f_Old.f_Content, .p I6 v11.f_Old.f_Time] : List (AVal Un))) (.pair (.one _ _) (.pair (.one _ _) (.pair (.one _ _) .unit)))) (.pair (.named (us := ([.p .str v11.f_New.f_Name, .p .str v11.f_New.f_Content, .p I6 v11.f_New.f_Time] : List (AVal Un))) (.pair (.one _ _) (.pair (.one _ _) (.pair (.one _ _) .unit)))) .unit)))))) (.cons (caV (rs := [(14, .p (.named 6) ((T_delta_Change.mk v11.f_Kind (T_tree_File.mk v11.f_Old.f_Name v11.f_Old.f_Content v11.f_Old.f_Time) (T_tree_File.mk v11.f_New.f_Name v11.f_New.f_Content v11.f_New.f_Time)) : T_delta_Change))]) (vw := []) rfl rfl (.func _) hb_64 (delta_Change_check.ok O hO k (T_delta_Change.mk v11.f_Kind (T_tree_File.mk v11.f_Old.f_Name v11.f_Old.f_Content v11.f_Old.f_Time) (T_tree_File.mk v11.f_New.f_Name v11.f_New.f_Content v11.f_New.f_Time)) v12 hv12) (.cons o0 .nil) (.cons (.same _) .nil) (by simp) (.inl rfl)) (.cons (mvA (v := .p .err v12) rfl rfl) .nil))) (by kernel_rfl) (by kernel_rfl) (by kernel_rfl) (cvR _) ?_
        refine tnU ?_
        refine WpC.seq ?_
        refine rgU (st1 := ⟨[(0, .p (.list (.named 6)) a0), (3, .mp 7), (5, .loc 5 0), (6, .p .err v12), (8, .p (.list (.named 6)) a0), (9, .p I6 ((a0.length : Int) : Int)), (10, .p I6 v5), (17, .p .bool ((!(v12 == 0)) : Bool))], [(5, .box [.p I6 v11.f_Kind, .p .str v11.f_Old.f_Name, .p .str v11.f_Old.f_Content, .p I6 v11.f_Old.f_Time, .p .str v11.f_New.f_Name, .p .str v11.f_New.f_Content, .p I6 v11.f_New.f_Time]), (7, .map I6 v4)]⟩) [0, 3, 5, 6, 8, 9, 10, 17] [5, 7] hN (.cons (mvU (v := .p .err v12) rfl rfl) (.cons (sok_errNil (U := Un) (rs := [(16, .p .err v12)]) rfl rfl Tryd.underlying31 o0 rfl) .nil)) (by kernel_rfl) (by kernel_rfl) (by kernel_rfl) (cvR _) ?_
        refine tnU ?_
        refine cdU (b := (!(v12 == 0))) (.tmp (.tail _ (.tail _ (.tail _ (.tail _ (.tail _ (.tail _ (.tail _ (.head _))))))))) (fun hc13 => ?_) (fun hc13 => ?_)
        · replace h := ite_t hc13 h
          refine WpC.seq ?_
          refine rgU (st1 := ⟨[(2, .p .err v12)], []⟩) [2] [] hN (.cons (mvU (v := .p .err v12) rfl rfl) (.cons (mvA (v := .p .err v12) rfl rfl) .nil)) (by kernel_rfl) (by kernel_rfl) (by kernel_rfl) (cvR _) ?_
          refine tnU ?_
          refine WpC.ret ?_
          refine thenQ_ret ?_
          refine blockQ_ret ?_
          refine thenQ_ret ?_
          have hq := Option.some.inj h
          subst hq
          refine thenQ_ret ?_
          have h := hout9
          refine blockQ_ret ?_
          refine thenQ_ret ?_
          have hq := Option.some.inj h
          subst hq
          exact ends_ret (retV_1 rfl (.head _)) ain_nil
        · replace h := ite_f hc13 h
          refine WpC.conv (cvK (b := ⟨[(0, .p (.list (.named 6)) a0), (3, .mp 7), (5, .loc 5 0), (8, .p (.list (.named 6)) a0), (9, .p I6 ((a0.length : Int) : Int)), (10, .p I6 v5)], [(5, .box [.p I6 v11.f_Kind, .p .str v11.f_Old.f_Name, .p .str v11.f_Old.f_Content, .p I6 v11.f_Old.f_Time, .p .str v11.f_New.f_Name, .p .str v11.f_New.f_Content, .p I6 v11.f_New.f_Time]), (7, .map I6 v4)]⟩) [0, 3, 5, 8, 9, 10] [5, 7] (by kernel_rfl)) (WpC.skip ?_)
          refine tnU ?_
          obtain ⟨v14, hv14, h⟩ := bind_some h
          refine rgU (st1 := ⟨[(0, .p (.list (.named 6)) a0), (3, .mp 7), (8, .p (.list (.named 6)) a0), (9, .p I6 ((a0.length : Int) : Int)), (10, .p I6 v5)], [(7, .map I6 ((mput v14 (IntKind.i64.wrap (((mget v14 v4).getD 0) + 1)) v4) : List ((List UInt8) × Int)))]⟩) [0, 3, 8, 9, 10] [7] hN (.cons (mvU (v := .mp 7) rfl rfl) (.cons (ldB (t := .named 6) (rs := [(5, .loc 5 0)]) [] [.p I6 v11.f_Kind, .p .str v11.f_Old.f_Name, .p .str v11.f_Old.f_Content, .p I6 v11.f_Old.f_Time, .p .str v11.f_New.f_Name, .p .str v11.f_New.f_Content, .p I6 v11.f_New.f_Time] [] (v := .p (.named 6) ((T_delta_Change.mk v11.f_Kind (T_tree_File.mk v11.f_Old.f_Name v11.f_Old.f_Content v11.f_Old.f_Time) (T_tree_File.mk v11.f_New.f_Name v11.f_New.f_Content v11.f_New.f_Time)) : T_delta_Change)) rfl rfl ty_103 o0 rfl rfl rfl rfl (.data (.named (us := ([.p I6 v11.f_Kind, .p .str v11.f_Old.f_Name, .p .str v11.f_Old.f_Content, .p I6 v11.f_Old.f_Time, .p .str v11.f_New.f_Name, .p .str v11.f_New.f_Content, .p I6 v11.f_New.f_Time] : List (AVal Un))) (.pair (.one _ _) (.pair (.named (us := ([.p .str v11.f_Old.f_Name, .p .str v11.f_Old.f_Content, .p I6 v11.f_Old.f_Time] : List (AVal Un))) (.pair (.one _ _) (.pair (.one _ _) (.pair (.one _ _) .unit)))) (.pair (.named (us := ([.p .str v11.f_New.f_Name, .p .str v11.f_New.f_Content, .p I6 v11.f_New.f_Time] : List (AVal Un))) (.pair (.one _ _) (.pair (.one _ _) (.pair (.one _ _) .unit)))) .unit)))))) (.cons (caV (rs := [(20, .p (.named 6) ((T_delta_Change.mk v11.f_Kind (T_tree_File.mk v11.f_Old.f_Name v11.f_Old.f_Content v11.f_Old.f_Time) (T_tree_File.mk v11.f_New.f_Name v11.f_New.f_Content v11.f_New.f_Time)) : T_delta_Change))]) (vw := []) rfl rfl (.func _) hb_65 (delta_Change_name.ok O hO k (T_delta_Change.mk v11.f_Kind (T_tree_File.mk v11.f_Old.f_Name v11.f_Old.f_Content v11.f_Old.f_Time) (T_tree_File.mk v11.f_New.f_Name v11.f_New.f_Content v11.f_New.f_Time)) v14 hv14) (.cons o0 .nil) (.cons (.same _) .nil) (by simp) (.inl rfl)) (.cons (sok_lookup (U := Un) (t := .int .i64) (kvs := v4) (rs := [(19, .mp 7), (21, .p .str v14)]) rfl rfl map_105 zv_3 o0 o1) (.cons (sok_arith (U := Un) (rs := [(22, .p I6 (((mget v14 v4).getD 0) : Int))]) rfl rfl o0 (.int _ _ _) rfl) (.cons (sok_mapUpdate (U := Un) (t := .int .i64) (kvs := v4) (rs := [(19, .mp 7), (21, .p .str v14), (23, .p I6 ((IntKind.i64.wrap (((mget v14 v4).getD 0) + 1)) : Int))]) rfl rfl rfl map_105 o0 o1 (.tmp (.tail _ (.tail _ (.head _))))) .nil)))))) (by kernel_rfl) (by kernel_rfl) (by kernel_rfl) (cvR _) ?_
          refine blockQ_normal ?_
          refine tnU ?_
          refine rgU (st1 := ⟨[(0, .p (.list (.named 6)) a0), (3, .mp 7), (8, .p (.list (.named 6)) a0), (9, .p I6 ((a0.length : Int) : Int)), (10, .p I6 ((IntKind.i64.wrap (v5 + 1)) : Int))], [(7, .map I6 ((mput v14 (IntKind.i64.wrap (((mget v14 v4).getD 0) + 1)) v4) : List ((List UInt8) × Int)))]⟩) [0, 3, 8, 9, 10] [7] hN (.cons (sok_arith (U := Un) (rs := [(10, .p I6 v5)]) rfl rfl o0 (.int _ _ _) rfl) (.cons (mvU (v := .p I6 ((IntKind.i64.wrap (v5 + 1)) : Int)) rfl rfl) .nil)) (by kernel_rfl) (by kernel_rfl) (by kernel_rfl) (cvR _) ?_
          refine tnU ?_
          exact ⟨n, Nat.lt_succ_self n, (mput v14 (IntKind.i64.wrap (((mget v14 v4).getD 0) + 1)) v4), (IntKind.i64.wrap (v5 + 1)), h, rfl⟩
      · replace h := ite_f hc10 h
        refine WpC.conv (cvK (b := ⟨[(0, .p (.list (.named 6)) a0), (3, .mp 7)], [(7, .map I6 v4)]⟩) [0, 3] [7] (by kernel_rfl)) (WpC.exit ?_)
        refine thenQ_exit ?_
        have hq := Option.some.inj h
        subst hq
        refine thenQ_exit ?_
        have h := hout9
        refine blockQ_hit ?_
        refine tnU ?_
        exact ⟨v4, h, rfl⟩
  · rintro _ ⟨v1, h, rfl⟩
    unfold delta_Check.j3 at h
    refine WpC.seq ?_
    refine WpC.seq ?_
    refine rgU (st1 := ⟨[(29, .p .bool ((decide ((v1.length : Int) < (a0.length : Int))) : Bool))], []⟩) [29] [] hN (.cons (mvU (v := .mp 7) rfl rfl) (.cons (sok_lenM (U := Un) (t := .int .i64) (kvs := v1) (rs := [(25, .mp 7)]) rfl rfl map_105 o0) (.cons (mvU (v := .p (.list (.named 6)) a0) rfl rfl) (.cons (sok_lenL (U := Un) (rs := [(27, .p (.list (.named 6)) a0)]) rfl rfl Tryd.underlying60 o0) (.cons (cmU (rs := [(26, .p I6 ((v1.length : Int) : Int)), (28, .p I6 ((a0.length : Int) : Int))]) rfl rfl o0 o1 rfl) .nil))))) (by kernel_rfl) (by kernel_rfl) (by kernel_rfl) (cvR _) ?_
    refine tnU ?_
    refine cdU (b := (decide ((v1.length : Int) < (a0.length : Int)))) o0 (fun hc2 => ?_) (fun hc2 => ?_)
    · replace h := ite_t hc2 h
      refine WpC.seq ?_
      refine rgU (st1 := ⟨[(2, .p .err (9 : Nat))], []⟩) [2] [] hN (.cons (sok_loadG (U := Un) (t := .err) (rs := []) rfl rfl ty_31 rfl rfl (hO.var 8 0 rfl) (fun S w => .err 8)) (.cons (mvA (v := .p .err (9 : Nat)) rfl rfl) .nil)) (by kernel_rfl) (by kernel_rfl) (by kernel_rfl) (cvR _) ?_
      refine tnU ?_
      refine WpC.ret ?_
      refine thenQ_ret ?_
      have hq := Option.some.inj h
      subst hq
      exact ends_ret (retV_1 rfl (.head _)) ain_nil
    · replace h := ite_f hc2 h
      refine WpC.conv (cvK (b := ⟨[], []⟩) [] [] (by kernel_rfl)) (WpC.skip ?_)
      refine tnU ?_
      refine WpC.seq ?_
      refine rgU (st1 := ⟨[(2, .lit .nilIface)], []⟩) [2] [] hN (.cons (moU (rs := []) rfl (.inr rfl) (.lit _ _ rfl)) .nil) (by kernel_rfl) (by kernel_rfl) (by kernel_rfl) (cvR _) ?_
      refine tnU ?_
      refine WpC.conv (cvT (Conv.nilE (U := Un) 2 (.head _)) (cvK (b := ⟨[(2, .p .err (0 : Nat))], []⟩) [2] [] (by kernel_rfl))) (WpC.ret ?_)
      have hq := Option.some.inj h
      subst hq
      exact ends_ret (retV_1 rfl (.head _)) ain_nil

theorem millwrightlaw41_alive.ok (O : Out) (hO : GOk O) (k : Nat) (out : Bool) (h : millwrightlaw41_alive.f k = some out) : COk Un O Tryd.prog 30 { ar := [], r := .p .bool out } := by
  refine cok_of_wp Tryd.func30 rfl (k := 42) rfl (Nat.le_of_ble_eq_true rfl) (namesOk_pure rfl rfl rfl rfl) ?_
  intro B hN
  refine WpC.conv (cvK (b := ⟨[], []⟩) [] [] (by kernel_rfl)) ?_
  unfold millwrightlaw41_alive.f at h
  refine WpC.seq ?_
  refine rgU (st1 := ⟨[], []⟩) [] [] hN (.cons (moU (rs := []) rfl (.inr rfl) (.bool _ _)) .nil) (by kernel_rfl) (by kernel_rfl) (by kernel_rfl) (cvR _) ?_
  refine tnU ?_
  refine WpC.seq ?_
  obtain ⟨v1, hv1, h⟩ := bind_some h
  refine rgU (st1 := ⟨[(1, .opt v1.1 10001), (2, .p .err v1.2.2)], [(10001, .opt v1.1 (.box [.mp 10002])), (10002, .opt v1.1 (.map (.named 3) v1.2.1))]⟩) [1, 2] [10001, 10002] hN (.cons (sok_build (U := Un) (t := .named 3) (rs := []) (us0 := [.p .str ([] : List UInt8), .p .str ([] : List UInt8), .p I6 (0 : Int)]) (us := [.p .str (([97] : List UInt8) : List UInt8), .p .str ([] : List UInt8), .p I6 (1 : Int)]) (v := .p (.named 3) ((T_tree_File.mk ([97] : List UInt8) [] 1) : T_tree_File)) rfl rfl lays_24 (.data (fun _ _ _ => rd_str0) (.data (fun _ _ _ => rd_str0) (.data (fun _ _ _ => .int _ _) .nil))) (Filled.cons (U := Un) (i := 0) (v := .p .str (([97] : List UInt8) : List UInt8)) [] [.p .str ([] : List UInt8)] [.p .str (([97] : List UInt8) : List UInt8)] [.p .str ([] : List UInt8), .p I6 (0 : Int)] (.str _ _) (.data (.one _ _)) rfl rfl rfl rfl rfl rfl (Filled.cons (U := Un) (i := 2) (v := .p I6 (1 : Int)) [.p .str (([97] : List UInt8) : List UInt8), .p .str ([] : List UInt8)] [.p I6 (0 : Int)] [.p I6 (1 : Int)] [] (.int _ _ _) (.data (.one _ _)) rfl rfl rfl rfl rfl rfl (.nil _))) rfl (.data (.named (us := ([.p .str (([97] : List UInt8) : List UInt8), .p .str ([] : List UInt8), .p I6 (1 : Int)] : List (AVal Un))) (.pair (.one _ _) (.pair (.one _ _) (.pair (.one _ _) .unit)))))) (.cons (sok_buildSlice (U := Un) (t := .named 3) (rs := [(5, .p (.named 3) ((T_tree_File.mk ([97] : List UInt8) [] 1) : T_tree_File))]) (ys := [.tmp 5]) (xs := [(T_tree_File.mk ([97] : List UInt8) [] 1)]) rfl rfl rfl rfl row_22 (.cons o0 .nil) (by decide)) (.cons (sok_callF (U := Un) (rs := [(6, .vec 6 3 0 ([(T_tree_File.mk ([97] : List UInt8) [] 1)].length))]) (vw := [(6, .row 24 (.named 3) [(T_tree_File.mk ([97] : List UInt8) [] 1)] true)]) rfl rfl (.func _) hb_11 (COk.ren (tree_Of.ok O hO k [(T_tree_File.mk ([97] : List UInt8) [] 1)] v1 hv1) (fun n => if n = 60500 then 10001 else if n = 60501 then 10002 else n) (injOn_of (by kernel_rfl))) (.cons o0 .nil) (.cons (.whole' (.head _) (by first | rfl | (simp only [upd_length, List.length_replicate, List.length_append]; done) | (simp only [upd_length, List.length_replicate, List.length_append] at *; omega) | omega)) .nil) (fun _ _ h => (List.not_mem_nil (show _ ∈ ([] : List Nat) from h)).elim)) (.cons (mvU (v := .tup [.opt v1.1 10001, .p .err v1.2.2]) rfl rfl) (.cons (exU (rs := [(4, .tup [.opt v1.1 10001, .p .err v1.2.2])]) rfl rfl o0 rfl) (.cons (exU (rs := [(4, .tup [.opt v1.1 10001, .p .err v1.2.2])]) rfl rfl o0 rfl) (.cons (mvA (v := .opt v1.1 10001) rfl rfl) (.cons (mvA (v := .p .err v1.2.2) rfl rfl) .nil)))))))) (by kernel_rfl) (by kernel_rfl) (by kernel_rfl) (cvR _) ?_
  refine tnU ?_
  refine sqJ (fun st' => millwrightlaw41_alive.j11 k v1 = some out ∧ st' = ⟨[(1, .opt v1.1 10001)], [(10001, .opt v1.1 (.box [.mp 10002])), (10002, .opt v1.1 (.map (.named 3) v1.2.1))]⟩) ?_ ?_
  · refine sqJ (fun st' => ∃ v12 : Bool, millwrightlaw41_alive.j14 k v1 v12 = some out ∧ st' = ⟨[(1, .opt v1.1 10001), (15, .p .bool v12)], [(10001, .opt v1.1 (.box [.mp 10002])), (10002, .opt v1.1 (.map (.named 3) v1.2.1))]⟩) ?_ ?_
    · rcases bool_cases (!(v1.2.2 == 0)) with hc15 | hc15
      · replace h := ite_t hc15 h
        refine rgU (st1 := ⟨[(1, .opt v1.1 10001), (15, .p .bool true)], [(10001, .opt v1.1 (.box [.mp 10002])), (10002, .opt v1.1 (.map (.named 3) v1.2.1))]⟩) [1, 15] [10001, 10002] hN (.cons (mvU (v := .p .err v1.2.2) rfl rfl) (.cons (sok_errNil (U := Un) (rs := [(10, .p .err v1.2.2)]) rfl rfl Tryd.underlying31 o0 rfl) (.cons (mvU (v := .p .bool ((!(v1.2.2 == 0)) : Bool)) rfl rfl) (.cons (skU rfl rfl hc15) (.cons (skU rfl rfl hc15) (.cons (pkT (rs := [(12, .p .bool ((!(v1.2.2 == 0)) : Bool))]) rfl rfl o0 hc15 (.bool _ _)) .nil)))))) (by kernel_rfl) (by kernel_rfl) (by kernel_rfl) (cvR _) ?_
        refine tnU ?_
        exact ⟨true, h, rfl⟩
      · replace h := ite_f hc15 h
        refine rgU (st1 := ⟨[(1, .opt v1.1 10001), (15, .p .bool ((!v1.1) : Bool))], [(10001, .opt v1.1 (.box [.mp 10002])), (10002, .opt v1.1 (.map (.named 3) v1.2.1))]⟩) [1, 15] [10001, 10002] hN (.cons (mvU (v := .p .err v1.2.2) rfl rfl) (.cons (sok_errNil (U := Un) (rs := [(10, .p .err v1.2.2)]) rfl rfl Tryd.underlying31 o0 rfl) (.cons (mvU (v := .p .bool ((!(v1.2.2 == 0)) : Bool)) rfl rfl) (.cons (sok_run rfl rfl hc15 (mvU (v := .opt v1.1 10001) rfl rfl)) (.cons (sok_run rfl rfl hc15 (eqU (rs := [(13, .opt v1.1 10001)]) rfl rfl Tryd.underlying29 o0 ptrV_opt)) (.cons (pkF (rs := [(12, .p .bool ((!(v1.2.2 == 0)) : Bool)), (14, .p .bool ((!v1.1) : Bool))]) rfl rfl o0 hc15 o1) .nil)))))) (by kernel_rfl) (by kernel_rfl) (by kernel_rfl) (cvR _) ?_
        refine tnU ?_
        exact ⟨(!v1.1), h, rfl⟩
    · rintro _ ⟨v12, h, rfl⟩
      unfold millwrightlaw41_alive.j14 at h
      refine cdU (b := v12) o1 (fun hc13 => ?_) (fun hc13 => ?_)
      · replace h := ite_t hc13 h
        refine WpC.seq ?_
        refine rgU (st1 := ⟨[(0, .p .bool false)], []⟩) [0] [] hN (.cons (moU (rs := []) rfl (.inr rfl) (.bool _ _)) .nil) (by kernel_rfl) (by kernel_rfl) (by kernel_rfl) (cvR _) ?_
        refine tnU ?_
        refine WpC.ret ?_
        refine thenQ_ret ?_
        have hq := Option.some.inj h
        subst hq
        exact ends_ret (retV_1 rfl (.head _)) ain_nil
      · replace h := ite_f hc13 h
        refine WpC.conv (cvK (b := ⟨[(1, .opt v1.1 10001)], [(10001, .opt v1.1 (.box [.mp 10002])), (10002, .opt v1.1 (.map (.named 3) v1.2.1))]⟩) [1] [10001, 10002] (by kernel_rfl)) (WpC.skip ?_)
        refine tnU ?_
        exact ⟨h, rfl⟩
  · rintro _ ⟨h, rfl⟩
    unfold millwrightlaw41_alive.j11 at h
    refine WpC.seq ?_
    obtain ⟨hc2, h⟩ := if_some h
    refine WpC.conv (cvT (Conv.openS (U := Un) 1 10001 hc2 (.head _)) (cvT (cvK (b := ⟨[(1, .loc 10001 0)], [(10001, .opt v1.1 (.box [.mp 10002])), (10002, .opt v1.1 (.map (.named 3) v1.2.1))]⟩) [1] [10001, 10002] (by kernel_rfl)) (cvT (Conv.openB (U := Un) 10001 (.box [.mp 10002]) hc2 (.head _)) (cvT (cvK (b := ⟨[(1, .loc 10001 0)], [(10001, .box [.mp 10002]), (10002, .opt v1.1 (.map (.named 3) v1.2.1))]⟩) [1] [10001, 10002] (by kernel_rfl)) (cvT (Conv.openB (U := Un) 10002 (.map (.named 3) v1.2.1) hc2 (.tail _ (.head _))) (cvK (b := ⟨[(1, .loc 10001 0)], [(10001, .box [.mp 10002]), (10002, .map (.named 3) v1.2.1)]⟩) [1] [10001, 10002] (by kernel_rfl))))))) ?_
    obtain ⟨v3, hv3, h⟩ := bind_some h
    obtain ⟨v4, hv4, h⟩ := bind_some h
    refine rgU (st1 := ⟨[(3, .p (.list (.named 6)) v4)], []⟩) [3] [] hN (.cons (caV (rs := []) (vw := []) rfl rfl (.func _) hb_18 (COk.ren (tree_New.ok O hO k v3 hv3) (fun n => if n = 60500 then 10003 else if n = 60501 then 10004 else n) (injOn_of (by kernel_rfl))) .nil .nil (by simp) (.inl rfl)) (.cons (mvU (v := .loc 10001 0) rfl rfl) (.cons (caV (rs := [(16, .loc 10003 0), (17, .loc 10001 0)]) (vw := []) rfl rfl (.func _) hb_36 (COk.ren (delta_Of_m0.ok O hO k v3 v1.2.1 v4 hv4) (fun n => if n = 100000 then 10003 else if n = 100001 then 10004 else if n = 100002 then 10001 else if n = 100003 then 10002 else n) (injOn_of (by kernel_rfl))) (.cons o0 (.cons o1 .nil)) (.cons (.same _) (.cons (.same _) .nil)) (by simp) (.inl rfl)) (.cons (mvA (v := .p (.list (.named 6)) v4) rfl rfl) .nil)))) (by kernel_rfl) (by kernel_rfl) (by kernel_rfl) (cvR _) ?_
    refine tnU ?_
    refine WpC.seq ?_
    rcases bool_cases ((v4.length : Int) == 1) with hc5 | hc5
    · replace h := ite_t hc5 h
      obtain ⟨v6, hv6, h⟩ := bind_some h
      rcases bool_cases (v6.f_Kind == 1) with hc7 | hc7
      · replace h := ite_t hc7 h
        obtain ⟨v8, hv8, h⟩ := bind_some h
        rcases bool_cases (v8.f_New.f_Name == ([97] : List UInt8)) with hc9 | hc9
        · replace h := ite_t hc9 h
          obtain ⟨v10, hv10, h⟩ := bind_some h
          refine rgU (st1 := ⟨[(0, .p .bool ((v10 == 0) : Bool))], []⟩) [0] [] hN (.cons (mvU (v := .p (.list (.named 6)) v4) rfl rfl) (.cons (sok_lenL (U := Un) (rs := [(19, .p (.list (.named 6)) v4)]) rfl rfl Tryd.underlying60 o0) (.cons (cmU (rs := [(20, .p I6 ((v4.length : Int) : Int))]) rfl rfl o0 (.int _ _ _) rfl) (.cons (mvU (v := .p .bool (((v4.length : Int) == 1) : Bool)) rfl rfl) (.cons (sok_run rfl rfl hc5 (mvU (v := .p (.list (.named 6)) v4) rfl rfl)) (.cons (sok_run rfl rfl hc5 (sok_indexL (U := Un) (rs := [(23, .p (.list (.named 6)) v4)]) rfl rfl sl_60 o0 (.int _ _ _) hv6)) (.cons (sok_run rfl rfl hc5 (sok_fieldP (U := Un) (rs := [(24, .pp (.named 6) v6)]) rfl rfl fd_103_0 (by decide) o0 (.named (.fst (.here _ _))))) (.cons (sok_run rfl rfl hc5 (sok_loadP (U := Un) (rs := [(25, .pp I6 v6.f_Kind)]) rfl rfl ty_3 o0)) (.cons (sok_run rfl rfl hc5 (cmU (rs := [(26, .p I6 v6.f_Kind)]) rfl rfl o0 (.int _ _ _) rfl)) (.cons (pkT (rs := [(22, .p .bool (((v4.length : Int) == 1) : Bool)), (27, .p .bool ((v6.f_Kind == 1) : Bool))]) rfl rfl o0 hc5 o1) (.cons (mvU (v := .p .bool ((v6.f_Kind == 1) : Bool)) rfl rfl) (.cons (sok_run rfl rfl hc7 (mvU (v := .p (.list (.named 6)) v4) rfl rfl)) (.cons (sok_run rfl rfl hc7 (sok_indexL (U := Un) (rs := [(30, .p (.list (.named 6)) v4)]) rfl rfl sl_60 o0 (.int _ _ _) hv8)) (.cons (sok_run rfl rfl hc7 (sok_fieldP (U := Un) (rs := [(31, .pp (.named 6) v8)]) rfl rfl fd_103_2 (by decide) o0 (.named (.snd (.snd (.fst (.here _ _)) rfl) rfl)))) (.cons (sok_run rfl rfl hc7 (sok_fieldP (U := Un) (rs := [(32, .pp (.named 3) v8.f_New)]) rfl rfl fd_24_0 (by decide) o0 (.named (.fst (.here _ _))))) (.cons (sok_run rfl rfl hc7 (sok_loadP (U := Un) (rs := [(33, .pp .str v8.f_New.f_Name)]) rfl rfl ty_9 o0)) (.cons (sok_run rfl rfl hc7 (sok_cmpS (U := Un) (rs := [(34, .p .str v8.f_New.f_Name)]) rfl rfl o0 (.str _ _) rfl)) (.cons (pkT (rs := [(29, .p .bool ((v6.f_Kind == 1) : Bool)), (35, .p .bool ((v8.f_New.f_Name == ([97] : List UInt8)) : Bool))]) rfl rfl o0 hc7 o1) (.cons (mvU (v := .p .bool ((v8.f_New.f_Name == ([97] : List UInt8)) : Bool)) rfl rfl) (.cons (sok_run rfl rfl hc9 (mvU (v := .p (.list (.named 6)) v4) rfl rfl)) (.cons (sok_run rfl rfl hc9 (caV (rs := [(38, .p (.list (.named 6)) v4)]) (vw := []) rfl rfl (.func _) hb_39 (delta_Check.ok O hO k v4 v10 hv10) (.cons o0 .nil) (.cons (.same _) .nil) (by simp) (.inl rfl))) (.cons (sok_run rfl rfl hc9 (sok_errNil (U := Un) (rs := [(39, .p .err v10)]) rfl rfl Tryd.underlying31 o0 rfl)) (.cons (pkT (rs := [(37, .p .bool ((v8.f_New.f_Name == ([97] : List UInt8)) : Bool)), (40, .p .bool ((v10 == 0) : Bool))]) rfl rfl o0 hc9 o1) (.cons (mvA (v := .p .bool ((v10 == 0) : Bool)) rfl rfl) .nil)))))))))))))))))))))))) (by kernel_rfl) (by kernel_rfl) (by kernel_rfl) (cvR _) ?_
          refine tnU ?_
          refine WpC.ret ?_
          have hq := Option.some.inj h
          subst hq
          exact ends_ret (retV_1 rfl (.head _)) ain_nil
        · replace h := ite_f hc9 h
          refine rgU (st1 := ⟨[(0, .p .bool false)], []⟩) [0] [] hN (.cons (mvU (v := .p (.list (.named 6)) v4) rfl rfl) (.cons (sok_lenL (U := Un) (rs := [(19, .p (.list (.named 6)) v4)]) rfl rfl Tryd.underlying60 o0) (.cons (cmU (rs := [(20, .p I6 ((v4.length : Int) : Int))]) rfl rfl o0 (.int _ _ _) rfl) (.cons (mvU (v := .p .bool (((v4.length : Int) == 1) : Bool)) rfl rfl) (.cons (sok_run rfl rfl hc5 (mvU (v := .p (.list (.named 6)) v4) rfl rfl)) (.cons (sok_run rfl rfl hc5 (sok_indexL (U := Un) (rs := [(23, .p (.list (.named 6)) v4)]) rfl rfl sl_60 o0 (.int _ _ _) hv6)) (.cons (sok_run rfl rfl hc5 (sok_fieldP (U := Un) (rs := [(24, .pp (.named 6) v6)]) rfl rfl fd_103_0 (by decide) o0 (.named (.fst (.here _ _))))) (.cons (sok_run rfl rfl hc5 (sok_loadP (U := Un) (rs := [(25, .pp I6 v6.f_Kind)]) rfl rfl ty_3 o0)) (.cons (sok_run rfl rfl hc5 (cmU (rs := [(26, .p I6 v6.f_Kind)]) rfl rfl o0 (.int _ _ _) rfl)) (.cons (pkT (rs := [(22, .p .bool (((v4.length : Int) == 1) : Bool)), (27, .p .bool ((v6.f_Kind == 1) : Bool))]) rfl rfl o0 hc5 o1) (.cons (mvU (v := .p .bool ((v6.f_Kind == 1) : Bool)) rfl rfl) (.cons (sok_run rfl rfl hc7 (mvU (v := .p (.list (.named 6)) v4) rfl rfl)) (.cons (sok_run rfl rfl hc7 (sok_indexL (U := Un) (rs := [(30, .p (.list (.named 6)) v4)]) rfl rfl sl_60 o0 (.int _ _ _) hv8)) (.cons (sok_run rfl rfl hc7 (sok_fieldP (U := Un) (rs := [(31, .pp (.named 6) v8)]) rfl rfl fd_103_2 (by decide) o0 (.named (.snd (.snd (.fst (.here _ _)) rfl) rfl)))) (.cons (sok_run rfl rfl hc7 (sok_fieldP (U := Un) (rs := [(32, .pp (.named 3) v8.f_New)]) rfl rfl fd_24_0 (by decide) o0 (.named (.fst (.here _ _))))) (.cons (sok_run rfl rfl hc7 (sok_loadP (U := Un) (rs := [(33, .pp .str v8.f_New.f_Name)]) rfl rfl ty_9 o0)) (.cons (sok_run rfl rfl hc7 (sok_cmpS (U := Un) (rs := [(34, .p .str v8.f_New.f_Name)]) rfl rfl o0 (.str _ _) rfl)) (.cons (pkT (rs := [(29, .p .bool ((v6.f_Kind == 1) : Bool)), (35, .p .bool ((v8.f_New.f_Name == ([97] : List UInt8)) : Bool))]) rfl rfl o0 hc7 o1) (.cons (mvU (v := .p .bool ((v8.f_New.f_Name == ([97] : List UInt8)) : Bool)) rfl rfl) (.cons (skU rfl rfl hc9) (.cons (skU rfl rfl hc9) (.cons (skU rfl rfl hc9) (.cons (pkF (rs := [(37, .p .bool ((v8.f_New.f_Name == ([97] : List UInt8)) : Bool))]) rfl rfl o0 hc9 (.bool _ _)) (.cons (mvA (v := .p .bool false) rfl rfl) .nil)))))))))))))))))))))))) (by kernel_rfl) (by kernel_rfl) (by kernel_rfl) (cvR _) ?_
          refine tnU ?_
          refine WpC.ret ?_
          have hq := Option.some.inj h
          subst hq
          exact ends_ret (retV_1 rfl (.head _)) ain_nil
      · replace h := ite_f hc7 h
        refine rgU (st1 := ⟨[(0, .p .bool false)], []⟩) [0] [] hN (.cons (mvU (v := .p (.list (.named 6)) v4) rfl rfl) (.cons (sok_lenL (U := Un) (rs := [(19, .p (.list (.named 6)) v4)]) rfl rfl Tryd.underlying60 o0) (.cons (cmU (rs := [(20, .p I6 ((v4.length : Int) : Int))]) rfl rfl o0 (.int _ _ _) rfl) (.cons (mvU (v := .p .bool (((v4.length : Int) == 1) : Bool)) rfl rfl) (.cons (sok_run rfl rfl hc5 (mvU (v := .p (.list (.named 6)) v4) rfl rfl)) (.cons (sok_run rfl rfl hc5 (sok_indexL (U := Un) (rs := [(23, .p (.list (.named 6)) v4)]) rfl rfl sl_60 o0 (.int _ _ _) hv6)) (.cons (sok_run rfl rfl hc5 (sok_fieldP (U := Un) (rs := [(24, .pp (.named 6) v6)]) rfl rfl fd_103_0 (by decide) o0 (.named (.fst (.here _ _))))) (.cons (sok_run rfl rfl hc5 (sok_loadP (U := Un) (rs := [(25, .pp I6 v6.f_Kind)]) rfl rfl ty_3 o0)) (.cons (sok_run rfl rfl hc5 (cmU (rs := [(26, .p I6 v6.f_Kind)]) rfl rfl o0 (.int _ _ _) rfl)) (.cons (pkT (rs := [(22, .p .bool (((v4.length : Int) == 1) : Bool)), (27, .p .bool ((v6.f_Kind == 1) : Bool))]) rfl rfl o0 hc5 o1) (.cons (mvU (v := .p .bool ((v6.f_Kind == 1) : Bool)) rfl rfl) (.cons (skU rfl rfl hc7) (.cons (skU rfl rfl hc7) (.cons (skU rfl rfl hc7) (.cons (skU rfl rfl hc7) (.cons (skU rfl rfl hc7) (.cons (skU rfl rfl hc7) (.cons (pkF (rs := [(29, .p .bool ((v6.f_Kind == 1) : Bool))]) rfl rfl o0 hc7 (.bool _ _)) (.cons (mvU (v := .p .bool false) rfl rfl) (.cons (skU rfl rfl rfl) (.cons (skU rfl rfl rfl) (.cons (skU rfl rfl rfl) (.cons (pkF (rs := [(37, .p .bool false)]) rfl rfl o0 rfl (.bool _ _)) (.cons (mvA (v := .p .bool false) rfl rfl) .nil)))))))))))))))))))))))) (by kernel_rfl) (by kernel_rfl) (by kernel_rfl) (cvR _) ?_
        refine tnU ?_
        refine WpC.ret ?_
        have hq := Option.some.inj h
        subst hq
        exact ends_ret (retV_1 rfl (.head _)) ain_nil
    · replace h := ite_f hc5 h
      refine rgU (st1 := ⟨[(0, .p .bool false)], []⟩) [0] [] hN (.cons (mvU (v := .p (.list (.named 6)) v4) rfl rfl) (.cons (sok_lenL (U := Un) (rs := [(19, .p (.list (.named 6)) v4)]) rfl rfl Tryd.underlying60 o0) (.cons (cmU (rs := [(20, .p I6 ((v4.length : Int) : Int))]) rfl rfl o0 (.int _ _ _) rfl) (.cons (mvU (v := .p .bool (((v4.length : Int) == 1) : Bool)) rfl rfl) (.cons (skU rfl rfl hc5) (.cons (skU rfl rfl hc5) (.cons (skU rfl rfl hc5) (.cons (skU rfl rfl hc5) (.cons (skU rfl rfl hc5) (.cons (pkF (rs := [(22, .p .bool (((v4.length : Int) == 1) : Bool))]) rfl rfl o0 hc5 (.bool _ _)) (.cons (mvU (v := .p .bool false) rfl rfl) (.cons (skU rfl rfl rfl) (.cons (skU rfl rfl rfl) (.cons (skU rfl rfl rfl) (.cons (skU rfl rfl rfl) (.cons (skU rfl rfl rfl) (.cons (skU rfl rfl rfl) (.cons (pkF (rs := [(29, .p .bool false)]) rfl rfl o0 rfl (.bool _ _)) (.cons (mvU (v := .p .bool false) rfl rfl) (.cons (skU rfl rfl rfl) (.cons (skU rfl rfl rfl) (.cons (skU rfl rfl rfl) (.cons (pkF (rs := [(37, .p .bool false)]) rfl rfl o0 rfl (.bool _ _)) (.cons (mvA (v := .p .bool false) rfl rfl) .nil)))))))))))))))))))))))) (by kernel_rfl) (by kernel_rfl) (by kernel_rfl) (cvR _) ?_
      refine tnU ?_
      refine WpC.ret ?_
      have hq := Option.some.inj h
      subst hq
      exact ends_ret (retV_1 rfl (.head _)) ain_nil

theorem millwrightlaw02_Long.ok (O : Out) (hO : GOk O) (k : Nat) (a0 : List T_tree_File) (a1 : Int) (out : Bool) (h : millwrightlaw02_Long.f k a0 a1 = some out) : COk Un O Tryd.prog 10 { ar := [.p (.list (.named 3)) a0, .p I6 a1], r := .p .bool out } := by
  refine cok_of_wp Tryd.func10 rfl (k := 28) rfl (Nat.le_of_ble_eq_true rfl) (namesOk_pure rfl rfl rfl rfl) ?_
  intro B hN
  refine WpC.conv (cvK (b := ⟨[(0, .p (.list (.named 3)) a0), (1, .p I6 a1)], []⟩) [0, 1] [] (by kernel_rfl)) ?_
  unfold millwrightlaw02_Long.f at h
  refine WpC.seq ?_
  refine rgU (st1 := ⟨[(0, .p (.list (.named 3)) a0), (1, .p I6 a1)], []⟩) [0, 1] [] hN (.cons (moU (rs := []) rfl (.inr rfl) (.bool _ _)) .nil) (by kernel_rfl) (by kernel_rfl) (by kernel_rfl) (cvR _) ?_
  refine tnU ?_
  refine WpC.seq ?_
  refine WpC.seq ?_
  refine rgU (st1 := ⟨[(0, .p (.list (.named 3)) a0), (10, .p .bool ((decide ((a0.length : Int) > a1)) : Bool))], []⟩) [0, 10] [] hN (.cons (mvU (v := .p (.list (.named 3)) a0) rfl rfl) (.cons (sok_lenL (U := Un) (rs := [(7, .p (.list (.named 3)) a0)]) rfl rfl Tryd.underlying22 o0) (.cons (mvU (v := .p I6 a1) rfl rfl) (.cons (cmU (rs := [(8, .p I6 ((a0.length : Int) : Int)), (9, .p I6 a1)]) rfl rfl o0 o1 rfl) .nil)))) (by kernel_rfl) (by kernel_rfl) (by kernel_rfl) (cvR _) ?_
  refine tnU ?_
  refine cdU (b := (decide ((a0.length : Int) > a1))) o1 (fun hc1 => ?_) (fun hc1 => ?_)
  · replace h := ite_t hc1 h
    refine WpC.seq ?_
    refine rgU (st1 := ⟨[(4, .p .bool true)], []⟩) [4] [] hN (.cons (moU (rs := []) rfl (.inr rfl) (.bool _ _)) .nil) (by kernel_rfl) (by kernel_rfl) (by kernel_rfl) (cvR _) ?_
    refine tnU ?_
    refine WpC.ret ?_
    refine thenQ_ret ?_
    have hq := Option.some.inj h
    subst hq
    exact ends_ret (retV_1 rfl (.head _)) ain_nil
  · replace h := ite_f hc1 h
    refine WpC.conv (cvK (b := ⟨[(0, .p (.list (.named 3)) a0)], []⟩) [0] [] (by kernel_rfl)) (WpC.skip ?_)
    refine tnU ?_
    refine sqJ (fun st' => millwrightlaw02_Long.j2 k = some out ∧ st' = ⟨[], []⟩) ?_ ?_
    · refine WpC.seq ?_
      refine rgU (st1 := ⟨[(11, .p (.list (.named 3)) a0), (12, .p I6 ((a0.length : Int) : Int)), (13, .p I6 (0 : Int))], []⟩) [11, 12, 13] [] hN (.cons (mvU (v := .p (.list (.named 3)) a0) rfl rfl) (.cons (sok_lenL (U := Un) (rs := [(11, .p (.list (.named 3)) a0)]) rfl rfl Tryd.underlying22 o0) (.cons (moU (rs := []) rfl (.inl rfl) (.int _ _ _)) .nil))) (by kernel_rfl) (by kernel_rfl) (by kernel_rfl) (cvR _) ?_
      refine tnU ?_
      refine WpC.block ?_
      obtain ⟨o5, hlo5, h⟩ := bind_some h
      have hout6 := h
      clear h
      refine WpC.loop (U := Un) (fun n st' => ∃ v3 : Int, millwrightlaw02_Long.l4 k a0 n v3 = some o5 ∧ st' = ⟨[(11, .p (.list (.named 3)) a0), (12, .p I6 ((a0.length : Int) : Int)), (13, .p I6 v3)], []⟩) k ⟨0, hlo5, rfl⟩ ?_
      clear hlo5
      rintro (_ | n) _ ⟨v3, h, rfl⟩
      · cases h
      · rw [millwrightlaw02_Long.l4] at h
        refine WpC.seq ?_
        refine rgU (st1 := ⟨[(11, .p (.list (.named 3)) a0), (12, .p I6 ((a0.length : Int) : Int)), (13, .p I6 v3), (14, .p .bool ((decide (v3 < (a0.length : Int))) : Bool))], []⟩) [11, 12, 13, 14] [] hN (.cons (cmU (rs := [(13, .p I6 v3), (12, .p I6 ((a0.length : Int) : Int))]) rfl rfl o0 o1 rfl) .nil) (by kernel_rfl) (by kernel_rfl) (by kernel_rfl) (cvR _) ?_
        refine tnU ?_
        refine WpC.seq ?_
        refine cdU (b := (decide (v3 < (a0.length : Int)))) (.tmp (.tail _ (.tail _ (.tail _ (.head _))))) (fun hc7 => ?_) (fun hc7 => ?_)
        · replace h := ite_t hc7 h
          refine WpC.conv (cvK (b := ⟨[(11, .p (.list (.named 3)) a0), (12, .p I6 ((a0.length : Int) : Int)), (13, .p I6 v3)], []⟩) [11, 12, 13] [] (by kernel_rfl)) (WpC.skip ?_)
          refine tnU ?_
          refine sqJ (fun st' => millwrightlaw02_Long.j8 k (millwrightlaw02_Long.l4 k a0 n) a0 v3 = some o5 ∧ st' = ⟨[(11, .p (.list (.named 3)) a0), (12, .p I6 ((a0.length : Int) : Int)), (13, .p I6 v3)], []⟩) ?_ ?_
          · refine WpC.block ?_
            refine WpC.seq ?_
            obtain ⟨v9, hv9, h⟩ := bind_some h
            refine rgU (st1 := ⟨[(6, .loc 6 0), (11, .p (.list (.named 3)) a0), (12, .p I6 ((a0.length : Int) : Int)), (13, .p I6 v3)], [(6, .box [.p .str v9.f_Name, .p .str v9.f_Content, .p I6 v9.f_Time])]⟩) [6, 11, 12, 13] [6] hN (.cons (sok_indexL (U := Un) (rs := [(11, .p (.list (.named 3)) a0), (13, .p I6 v3)]) rfl rfl sl_22 o0 o1 hv9) (.cons (sok_loadP (U := Un) (rs := [(15, .pp (.named 3) v9)]) rfl rfl ty_24 o0) (.cons (sok_allocZ (U := Un) (rs := []) (d := 6) (us := [.p .str ([] : List UInt8), .p .str ([] : List UInt8), .p I6 (0 : Int)]) (v := (.agg #[.string ByteArray.empty, .string ByteArray.empty, .int .i64 0])) rfl rfl rfl (by kernel_rfl) rfl (.data (fun _ _ _ => rd_str0) (.data (fun _ _ _ => rd_str0) (.data (fun _ _ _ => .int _ _) .nil))) (by kernel_rfl)) (.cons (sok_storeB (U := Un) (rs := [(6, .loc 6 0), (16, .p (.named 3) v9)]) (v := .p (.named 3) v9) (mid' := [.p .str v9.f_Name, .p .str v9.f_Content, .p I6 v9.f_Time]) [] [.p .str ([] : List UInt8), .p .str ([] : List UInt8), .p I6 (0 : Int)] [] rfl rfl rfl ty_24 o0 o1 (.data (.named (us := ([.p .str v9.f_Name, .p .str v9.f_Content, .p I6 v9.f_Time] : List (AVal Un))) (.pair (.one _ _) (.pair (.one _ _) (.pair (.one _ _) .unit))))) rfl rfl rfl rfl rfl rfl) .nil)))) (by kernel_rfl) (by kernel_rfl) (by kernel_rfl) (cvR _) ?_
            refine tnU ?_
            refine sqJ (fun st' => ∃ v10 : Bool, millwrightlaw02_Long.j12 k (millwrightlaw02_Long.l4 k a0 n) a0 v3 v10 = some o5 ∧ st' = ⟨[(11, .p (.list (.named 3)) a0), (12, .p I6 ((a0.length : Int) : Int)), (13, .p I6 v3), (26, .p .bool v10)], []⟩) ?_ ?_
            · rcases bool_cases (decide ((v9.f_Name.length : Int) > 100)) with hc13 | hc13
              · replace h := ite_t hc13 h
                refine rgU (st1 := ⟨[(11, .p (.list (.named 3)) a0), (12, .p I6 ((a0.length : Int) : Int)), (13, .p I6 v3), (26, .p .bool true)], []⟩) [11, 12, 13, 26] [] hN (.cons (fdB (rs := [(6, .loc 6 0)]) rfl rfl fd_24_0 (by decide) o0) (.cons (ldB (t := .str) (rs := [(17, .loc 6 0)]) [] [.p .str v9.f_Name] [.p .str v9.f_Content, .p I6 v9.f_Time] (v := .p .str v9.f_Name) rfl rfl ty_9 o0 rfl rfl rfl rfl (.data (.one _ _))) (.cons (sok_lenS (U := Un) (rs := [(18, .p .str v9.f_Name)]) rfl rfl Tryd.underlying9 o0) (.cons (cmU (rs := [(19, .p I6 ((v9.f_Name.length : Int) : Int))]) rfl rfl o0 (.int _ _ _) rfl) (.cons (mvU (v := .p .bool ((decide ((v9.f_Name.length : Int) > 100)) : Bool)) rfl rfl) (.cons (skU rfl rfl hc13) (.cons (skU rfl rfl hc13) (.cons (skU rfl rfl hc13) (.cons (skU rfl rfl hc13) (.cons (pkT (rs := [(21, .p .bool ((decide ((v9.f_Name.length : Int) > 100)) : Bool))]) rfl rfl o0 hc13 (.bool _ _)) .nil)))))))))) (by kernel_rfl) (by kernel_rfl) (by kernel_rfl) (cvR _) ?_
                refine tnU ?_
                exact ⟨true, h, rfl⟩
              · replace h := ite_f hc13 h
                refine rgU (st1 := ⟨[(11, .p (.list (.named 3)) a0), (12, .p I6 ((a0.length : Int) : Int)), (13, .p I6 v3), (26, .p .bool ((decide ((v9.f_Content.length : Int) > 1000)) : Bool))], []⟩) [11, 12, 13, 26] [] hN (.cons (fdB (rs := [(6, .loc 6 0)]) rfl rfl fd_24_0 (by decide) o0) (.cons (ldB (t := .str) (rs := [(17, .loc 6 0)]) [] [.p .str v9.f_Name] [.p .str v9.f_Content, .p I6 v9.f_Time] (v := .p .str v9.f_Name) rfl rfl ty_9 o0 rfl rfl rfl rfl (.data (.one _ _))) (.cons (sok_lenS (U := Un) (rs := [(18, .p .str v9.f_Name)]) rfl rfl Tryd.underlying9 o0) (.cons (cmU (rs := [(19, .p I6 ((v9.f_Name.length : Int) : Int))]) rfl rfl o0 (.int _ _ _) rfl) (.cons (mvU (v := .p .bool ((decide ((v9.f_Name.length : Int) > 100)) : Bool)) rfl rfl) (.cons (sok_run rfl rfl hc13 (fdB (rs := [(6, .loc 6 0)]) rfl rfl fd_24_1 (by decide) o0)) (.cons (sok_run rfl rfl hc13 (ldB (t := .str) (rs := [(22, .loc 6 1)]) [.p .str v9.f_Name] [.p .str v9.f_Content] [.p I6 v9.f_Time] (v := .p .str v9.f_Content) rfl rfl ty_9 o0 rfl rfl rfl rfl (.data (.one _ _)))) (.cons (sok_run rfl rfl hc13 (sok_lenS (U := Un) (rs := [(23, .p .str v9.f_Content)]) rfl rfl Tryd.underlying9 o0)) (.cons (sok_run rfl rfl hc13 (cmU (rs := [(24, .p I6 ((v9.f_Content.length : Int) : Int))]) rfl rfl o0 (.int _ _ _) rfl)) (.cons (pkF (rs := [(21, .p .bool ((decide ((v9.f_Name.length : Int) > 100)) : Bool)), (25, .p .bool ((decide ((v9.f_Content.length : Int) > 1000)) : Bool))]) rfl rfl o0 hc13 o1) .nil)))))))))) (by kernel_rfl) (by kernel_rfl) (by kernel_rfl) (cvR _) ?_
                refine tnU ?_
                exact ⟨(decide ((v9.f_Content.length : Int) > 1000)), h, rfl⟩
            · rintro _ ⟨v10, h, rfl⟩
              unfold millwrightlaw02_Long.j12 at h
              refine cdU (b := v10) (.tmp (.tail _ (.tail _ (.tail _ (.head _))))) (fun hc11 => ?_) (fun hc11 => ?_)
              · replace h := ite_t hc11 h
                refine WpC.seq ?_
                refine rgU (st1 := ⟨[(4, .p .bool true)], []⟩) [4] [] hN (.cons (moU (rs := []) rfl (.inr rfl) (.bool _ _)) .nil) (by kernel_rfl) (by kernel_rfl) (by kernel_rfl) (cvR _) ?_
                refine tnU ?_
                refine WpC.ret ?_
                refine blockQ_ret ?_
                refine thenQ_ret ?_
                have hq := Option.some.inj h
                subst hq
                refine thenQ_ret ?_
                have h := hout6
                refine blockQ_ret ?_
                refine thenQ_ret ?_
                have hq := Option.some.inj h
                subst hq
                exact ends_ret (retV_1 rfl (.head _)) ain_nil
              · replace h := ite_f hc11 h
                refine WpC.conv (cvK (b := ⟨[(11, .p (.list (.named 3)) a0), (12, .p I6 ((a0.length : Int) : Int)), (13, .p I6 v3)], []⟩) [11, 12, 13] [] (by kernel_rfl)) (WpC.skip ?_)
                refine blockQ_normal ?_
                refine tnU ?_
                exact ⟨h, rfl⟩
          · rintro _ ⟨h, rfl⟩
            unfold millwrightlaw02_Long.j8 at h
            refine rgU (st1 := ⟨[(11, .p (.list (.named 3)) a0), (12, .p I6 ((a0.length : Int) : Int)), (13, .p I6 ((IntKind.i64.wrap (v3 + 1)) : Int))], []⟩) [11, 12, 13] [] hN (.cons (sok_arith (U := Un) (rs := [(13, .p I6 v3)]) rfl rfl o0 (.int _ _ _) rfl) (.cons (mvU (v := .p I6 ((IntKind.i64.wrap (v3 + 1)) : Int)) rfl rfl) .nil)) (by kernel_rfl) (by kernel_rfl) (by kernel_rfl) (cvR _) ?_
            refine tnU ?_
            exact ⟨n, Nat.lt_succ_self n, (IntKind.i64.wrap (v3 + 1)), h, rfl⟩
        · replace h := ite_f hc7 h
          refine WpC.conv (cvK (b := ⟨[], []⟩) [] [] (by kernel_rfl)) (WpC.exit ?_)
          refine thenQ_exit ?_
          have hq := Option.some.inj h
          subst hq
          refine thenQ_exit ?_
          have h := hout6
          refine blockQ_hit ?_
          refine tnU ?_
          exact ⟨h, rfl⟩
    · rintro _ ⟨h, rfl⟩
      unfold millwrightlaw02_Long.j2 at h
      refine WpC.seq ?_
      refine rgU (st1 := ⟨[(4, .p .bool false)], []⟩) [4] [] hN (.cons (moU (rs := []) rfl (.inr rfl) (.bool _ _)) .nil) (by kernel_rfl) (by kernel_rfl) (by kernel_rfl) (cvR _) ?_
      refine tnU ?_
      refine WpC.ret ?_
      have hq := Option.some.inj h
      subst hq
      exact ends_ret (retV_1 rfl (.head _)) ain_nil

theorem millwrightlaw02_Of.ok (O : Out) (hO : GOk O) (k : Nat) (a0 : List T_tree_File) (out : List T_tree_File) (h : millwrightlaw02_Of.f k a0 = some out) : COk Un O Tryd.prog 28 { ar := [.p (.list (.named 3)) a0], r := .p (.list (.named 3)) out } := by
  refine cok_of_wp Tryd.func28 rfl (k := 19) rfl (Nat.le_of_ble_eq_true rfl) (namesOk_pure rfl rfl rfl rfl) ?_
  intro B hN
  refine WpC.conv (cvK (b := ⟨[(0, .p (.list (.named 3)) a0)], []⟩) [0] [] (by kernel_rfl)) ?_
  unfold millwrightlaw02_Of.f at h
  refine WpC.seq ?_
  refine rgU (st1 := ⟨[(0, .p (.list (.named 3)) a0)], []⟩) [0] [] hN (.cons (moU (rs := []) rfl (.inr rfl) (.lit _ _ rfl)) .nil) (by kernel_rfl) (by kernel_rfl) (by kernel_rfl) (cvR _) ?_
  refine tnU ?_
  refine WpC.seq ?_
  refine rgU (st1 := ⟨[(0, .p (.list (.named 3)) a0), (3, .vec 6 3 0 (([] : List T_tree_File).length))], [(6, .row 50 (.named 3) ([] : List T_tree_File) true)]⟩) [0, 3] [6] hN (.cons (sok_buildSlice (U := Un) (t := .named 3) (rs := []) (ys := []) (xs := ([] : List T_tree_File)) rfl rfl rfl rfl row_45 .nil (by decide)) (.cons (mvA (v := .vec 6 3 0 (([] : List T_tree_File).length)) rfl rfl) .nil)) (by kernel_rfl) (by kernel_rfl) (by kernel_rfl) (Conv.cast (U := Un) (st' := ⟨[(0, .p (.list (.named 3)) a0), (3, .vec 6 3 0 0)], [(6, .row 50 (.named 3) ([] : List T_tree_File) true)]⟩) (by simp only [upd_length, List.length_nil, List.length_replicate])) ?_
  refine tnU ?_
  refine sqJ (fun st' => ∃ v1 : List T_tree_File, millwrightlaw02_Of.j2 k v1 = some out ∧ st' = ⟨[(3, .vec 1003 3 0 v1.length)], [(1003, .row 50 (.named 3) v1 false)]⟩) ?_ ?_
  · refine WpC.seq ?_
    refine rgU (st1 := ⟨[(3, .vec 6 3 0 0), (7, .p (.list (.named 3)) a0), (8, .p I6 ((a0.length : Int) : Int)), (9, .p I6 (0 : Int))], [(6, .row 50 (.named 3) ([] : List T_tree_File) true)]⟩) [3, 7, 8, 9] [6] hN (.cons (mvU (v := .p (.list (.named 3)) a0) rfl rfl) (.cons (sok_lenL (U := Un) (rs := [(7, .p (.list (.named 3)) a0)]) rfl rfl Tryd.underlying22 o0) (.cons (moU (rs := []) rfl (.inl rfl) (.int _ _ _)) .nil))) (by kernel_rfl) (by kernel_rfl) (by kernel_rfl) (cvR _) ?_
    refine tnU ?_
    refine WpC.block ?_
    obtain ⟨o7, hlo7, h⟩ := bind_some h
    have hout8 := h
    clear h
    refine WpC.conv (cvT (Conv.loose (U := Un) 6 50 (.named 3) ([] : List T_tree_File) (.head _)) (cvT (cvK (b := ⟨[(3, .vec 6 3 0 0), (7, .p (.list (.named 3)) a0), (8, .p I6 ((a0.length : Int) : Int)), (9, .p I6 (0 : Int))], [(6, .row 50 (.named 3) ([] : List T_tree_File) false)]⟩) [3, 7, 8, 9] [6] (by kernel_rfl)) (cvT (Conv.ren (U := Un) (st' := ⟨[(3, .vec 1003 3 0 0), (7, .p (.list (.named 3)) a0), (8, .p I6 ((a0.length : Int) : Int)), (9, .p I6 (0 : Int))], [(1003, .row 50 (.named 3) ([] : List T_tree_File) false)]⟩) 6 1003 (by unfold K0; omega) (by kernel_rfl) (by kernel_rfl) (by kernel_rfl)) (cvK (b := ⟨[(3, .vec 1003 3 0 0), (7, .p (.list (.named 3)) a0), (8, .p I6 ((a0.length : Int) : Int)), (9, .p I6 (0 : Int))], [(1003, .row 50 (.named 3) ([] : List T_tree_File) false)]⟩) [3, 7, 8, 9] [1003] (by kernel_rfl))))) ?_
    refine WpC.loop (U := Un) (fun n st' => ∃ v3 : List T_tree_File, ∃ v4 : Int, millwrightlaw02_Of.l5 k a0 n v3 v4 = some o7 ∧ st' = ⟨[(3, .vec 1003 3 0 v3.length), (7, .p (.list (.named 3)) a0), (8, .p I6 ((a0.length : Int) : Int)), (9, .p I6 v4)], [(1003, .row 50 (.named 3) v3 false)]⟩) k ⟨([] : List T_tree_File), 0, hlo7, rfl⟩ ?_
    clear hlo7
    rintro (_ | n) _ ⟨v3, v4, h, rfl⟩
    · cases h
    · rw [millwrightlaw02_Of.l5] at h
      refine WpC.seq ?_
      refine rgU (st1 := ⟨[(3, .vec 1003 3 0 v3.length), (7, .p (.list (.named 3)) a0), (8, .p I6 ((a0.length : Int) : Int)), (9, .p I6 v4), (10, .p .bool ((decide (v4 < (a0.length : Int))) : Bool))], [(1003, .row 50 (.named 3) v3 false)]⟩) [3, 7, 8, 9, 10] [1003] hN (.cons (cmU (rs := [(9, .p I6 v4), (8, .p I6 ((a0.length : Int) : Int))]) rfl rfl o0 o1 rfl) .nil) (by kernel_rfl) (by kernel_rfl) (by kernel_rfl) (cvR _) ?_
      refine tnU ?_
      refine WpC.seq ?_
      refine cdU (b := (decide (v4 < (a0.length : Int)))) (.tmp (.tail _ (.tail _ (.tail _ (.tail _ (.head _)))))) (fun hc9 => ?_) (fun hc9 => ?_)
      · replace h := ite_t hc9 h
        refine WpC.conv (cvK (b := ⟨[(3, .vec 1003 3 0 v3.length), (7, .p (.list (.named 3)) a0), (8, .p I6 ((a0.length : Int) : Int)), (9, .p I6 v4)], [(1003, .row 50 (.named 3) v3 false)]⟩) [3, 7, 8, 9] [1003] (by kernel_rfl)) (WpC.skip ?_)
        refine tnU ?_
        refine WpC.seq ?_
        refine WpC.block ?_
        refine WpC.seq ?_
        obtain ⟨v10, hv10, h⟩ := bind_some h
        refine rgU (st1 := ⟨[(3, .vec 1003 3 0 v3.length), (5, .loc 5 0), (7, .p (.list (.named 3)) a0), (8, .p I6 ((a0.length : Int) : Int)), (9, .p I6 v4)], [(5, .box [.p .str v10.f_Name, .p .str v10.f_Content, .p I6 v10.f_Time]), (1003, .row 50 (.named 3) v3 false)]⟩) [3, 5, 7, 8, 9] [5, 1003] hN (.cons (sok_indexL (U := Un) (rs := [(7, .p (.list (.named 3)) a0), (9, .p I6 v4)]) rfl rfl sl_22 o0 o1 hv10) (.cons (sok_loadP (U := Un) (rs := [(11, .pp (.named 3) v10)]) rfl rfl ty_24 o0) (.cons (sok_allocZ (U := Un) (rs := []) (d := 5) (us := [.p .str ([] : List UInt8), .p .str ([] : List UInt8), .p I6 (0 : Int)]) (v := (.agg #[.string ByteArray.empty, .string ByteArray.empty, .int .i64 0])) rfl rfl rfl (by kernel_rfl) rfl (.data (fun _ _ _ => rd_str0) (.data (fun _ _ _ => rd_str0) (.data (fun _ _ _ => .int _ _) .nil))) (by kernel_rfl)) (.cons (sok_storeB (U := Un) (rs := [(5, .loc 5 0), (12, .p (.named 3) v10)]) (v := .p (.named 3) v10) (mid' := [.p .str v10.f_Name, .p .str v10.f_Content, .p I6 v10.f_Time]) [] [.p .str ([] : List UInt8), .p .str ([] : List UInt8), .p I6 (0 : Int)] [] rfl rfl rfl ty_24 o0 o1 (.data (.named (us := ([.p .str v10.f_Name, .p .str v10.f_Content, .p I6 v10.f_Time] : List (AVal Un))) (.pair (.one _ _) (.pair (.one _ _) (.pair (.one _ _) .unit))))) rfl rfl rfl rfl rfl rfl) .nil)))) (by kernel_rfl) (by kernel_rfl) (by kernel_rfl) (cvR _) ?_
        refine tnU ?_
        obtain ⟨g11, h⟩ := if_some h
        refine rgU (st1 := ⟨[(3, .vec 16 3 0 ((v3 ++ [(T_tree_File.mk v10.f_Name v10.f_Content v10.f_Time)]).length)), (7, .p (.list (.named 3)) a0), (8, .p I6 ((a0.length : Int) : Int)), (9, .p I6 v4)], [(16, .row 50 (.named 3) (v3 ++ [(T_tree_File.mk v10.f_Name v10.f_Content v10.f_Time)]) false)]⟩) [3, 7, 8, 9] [16] hN (.cons (mvU (v := .vec 1003 3 0 v3.length) rfl rfl) (.cons (ldB (t := .named 3) (rs := [(5, .loc 5 0)]) [] [.p .str v10.f_Name, .p .str v10.f_Content, .p I6 v10.f_Time] [] (v := .p (.named 3) ((T_tree_File.mk v10.f_Name v10.f_Content v10.f_Time) : T_tree_File)) rfl rfl ty_24 o0 rfl rfl rfl rfl (.data (.named (us := ([.p .str v10.f_Name, .p .str v10.f_Content, .p I6 v10.f_Time] : List (AVal Un))) (.pair (.one _ _) (.pair (.one _ _) (.pair (.one _ _) .unit)))))) (.cons (sok_buildSlice (U := Un) (t := .named 3) (rs := [(14, .p (.named 3) ((T_tree_File.mk v10.f_Name v10.f_Content v10.f_Time) : T_tree_File))]) (ys := [.tmp 14]) (xs := [(T_tree_File.mk v10.f_Name v10.f_Content v10.f_Time)]) rfl rfl rfl rfl row_45 (.cons o0 .nil) (by decide)) (.cons (sok_append' (U := Un) (t := .named 3) (rs := [(13, .vec 1003 3 0 v3.length), (15, .vec 15 3 0 ([(T_tree_File.mk v10.f_Name v10.f_Content v10.f_Time)].length))]) (vw := [(15, .row 50 (.named 3) [(T_tree_File.mk v10.f_Name v10.f_Content v10.f_Time)] true)]) (xs := v3) (ys := [(T_tree_File.mk v10.f_Name v10.f_Content v10.f_Time)]) (fx := false) rfl rfl rfl row_45 (by decide) o0 o1 (.whole (.head _)) (by simp) g11) (.cons (mvA (v := .vec 16 3 0 ((v3 ++ [(T_tree_File.mk v10.f_Name v10.f_Content v10.f_Time)]).length)) rfl rfl) .nil))))) (by kernel_rfl) (by kernel_rfl) (by kernel_rfl) (cvR _) ?_
        refine blockQ_normal ?_
        refine tnU ?_
        refine rgU (st1 := ⟨[(3, .vec 16 3 0 ((v3 ++ [(T_tree_File.mk v10.f_Name v10.f_Content v10.f_Time)]).length)), (7, .p (.list (.named 3)) a0), (8, .p I6 ((a0.length : Int) : Int)), (9, .p I6 ((IntKind.i64.wrap (v4 + 1)) : Int))], [(16, .row 50 (.named 3) (v3 ++ [(T_tree_File.mk v10.f_Name v10.f_Content v10.f_Time)]) false)]⟩) [3, 7, 8, 9] [16] hN (.cons (sok_arith (U := Un) (rs := [(9, .p I6 v4)]) rfl rfl o0 (.int _ _ _) rfl) (.cons (mvU (v := .p I6 ((IntKind.i64.wrap (v4 + 1)) : Int)) rfl rfl) .nil)) (by kernel_rfl) (by kernel_rfl) (by kernel_rfl) (cvT (Conv.ren (U := Un) (st' := ⟨[(3, .vec 1003 3 0 ((v3 ++ [(T_tree_File.mk v10.f_Name v10.f_Content v10.f_Time)]).length)), (7, .p (.list (.named 3)) a0), (8, .p I6 ((a0.length : Int) : Int)), (9, .p I6 ((IntKind.i64.wrap (v4 + 1)) : Int))], [(1003, .row 50 (.named 3) (v3 ++ [(T_tree_File.mk v10.f_Name v10.f_Content v10.f_Time)]) false)]⟩) 16 1003 (by unfold K0; omega) (by kernel_rfl) (by kernel_rfl) (by kernel_rfl)) (cvK (b := ⟨[(3, .vec 1003 3 0 ((v3 ++ [(T_tree_File.mk v10.f_Name v10.f_Content v10.f_Time)]).length)), (7, .p (.list (.named 3)) a0), (8, .p I6 ((a0.length : Int) : Int)), (9, .p I6 ((IntKind.i64.wrap (v4 + 1)) : Int))], [(1003, .row 50 (.named 3) (v3 ++ [(T_tree_File.mk v10.f_Name v10.f_Content v10.f_Time)]) false)]⟩) [3, 7, 8, 9] [1003] (by kernel_rfl))) ?_
        refine tnU ?_
        exact ⟨n, Nat.lt_succ_self n, (v3 ++ [(T_tree_File.mk v10.f_Name v10.f_Content v10.f_Time)]), (IntKind.i64.wrap (v4 + 1)), h, rfl⟩
      · replace h := ite_f hc9 h
        refine WpC.conv (cvK (b := ⟨[(3, .vec 1003 3 0 v3.length)], [(1003, .row 50 (.named 3) v3 false)]⟩) [3] [1003] (by kernel_rfl)) (WpC.exit ?_)
        refine thenQ_exit ?_
        have hq := Option.some.inj h
        subst hq
        refine thenQ_exit ?_
        have h := hout8
        refine blockQ_hit ?_
        refine tnU ?_
        exact ⟨v3, h, rfl⟩
  · rintro _ ⟨v1, h, rfl⟩
    unfold millwrightlaw02_Of.j2 at h
    refine WpC.seq ?_
    refine rgU (st1 := ⟨[(2, .vec 1003 3 0 v1.length)], [(1003, .row 50 (.named 3) v1 false)]⟩) [2] [1003] hN (.cons (mvU (v := .vec 1003 3 0 v1.length) rfl rfl) (.cons (mvA (v := .vec 1003 3 0 v1.length) rfl rfl) .nil)) (by kernel_rfl) (by kernel_rfl) (by kernel_rfl) (cvR _) ?_
    refine tnU ?_
    refine WpC.conv (cvT (Conv.freeze (U := Un) 2 1003 50 _ (.named 3) v1 false (.head _) (by first | rfl | (simp only [upd_length, List.length_replicate, List.length_append]; done) | (simp only [upd_length, List.length_replicate, List.length_append] at *; omega) | omega) (.head _) (by first | (simp [Blk.names]; done) | (simp [Blk.names, AVal.namesL, AVal.names]; done) | (simp [Blk.names]; decide))) (cvK (b := ⟨[(2, .p (.list (.named 3)) v1)], []⟩) [2] [] (by kernel_rfl))) (WpC.ret ?_)
    have hq := Option.some.inj h
    subst hq
    exact ends_ret (retV_1 rfl (.head _)) ain_nil

theorem millwrightref02_Tree_At_m0.ok (O : Out) (hO : GOk O) (k : Nat) (a0 : List T_tree_File) (a1 : List UInt8) (out : Int) (h : millwrightref02_Tree_At_m0.f k a0 a1 = some out) : COk Un O Tryd.prog 23 { ar := [.loc 100000 0, .p .str a1], r := .p I6 out, bs := [(100000, .box [.p (.list (.named 3)) a0])], bs' := [(100000, .box [.p (.list (.named 3)) a0])] } := by
  refine cok_of_wp Tryd.func23 rfl (k := 23) rfl (Nat.le_of_ble_eq_true rfl) (namesOk_of (by kernel_rfl)) ?_
  intro B hN
  refine WpC.conv (cvK (b := ⟨[(0, .loc 100000 0), (1, .p .str a1)], [(100000, .box [.p (.list (.named 3)) a0])]⟩) [0, 1] [100000] (by kernel_rfl)) ?_
  unfold millwrightref02_Tree_At_m0.f at h
  refine WpC.seq ?_
  refine rgU (st1 := ⟨[(0, .loc 100000 0), (1, .p .str a1)], [(100000, .box [.p (.list (.named 3)) a0])]⟩) [0, 1] [100000] hN (.cons (moU (rs := []) rfl (.inr rfl) (.int _ _ _)) .nil) (by kernel_rfl) (by kernel_rfl) (by kernel_rfl) (cvR _) ?_
  refine tnU ?_
  refine sqJ (fun st' => millwrightref02_Tree_At_m0.j1 k a0 = some out ∧ st' = ⟨[], [(100000, .box [.p (.list (.named 3)) a0])]⟩) ?_ ?_
  · refine WpC.seq ?_
    refine rgU (st1 := ⟨[(1, .p .str a1), (10, .p (.list (.named 3)) a0), (11, .p I6 ((a0.length : Int) : Int)), (12, .p I6 (0 : Int))], [(100000, .box [.p (.list (.named 3)) a0])]⟩) [1, 10, 11, 12] [100000] hN (.cons (mvU (v := .loc 100000 0) rfl rfl) (.cons (nlU (rs := [(7, .loc 100000 0)]) rfl rfl o0 rfl) (.cons (fdB (rs := [(8, .loc 100000 0)]) rfl rfl fd_47_0 (by decide) o0) (.cons (ldB (t := .list (.named 3)) (rs := [(9, .loc 100000 0)]) [] [.p (.list (.named 3)) a0] [] (v := .p (.list (.named 3)) a0) rfl rfl ty_45 o0 rfl rfl rfl rfl (.data (.one _ _))) (.cons (sok_lenL (U := Un) (rs := [(10, .p (.list (.named 3)) a0)]) rfl rfl Tryd.underlying45 o0) (.cons (moU (rs := []) rfl (.inl rfl) (.int _ _ _)) .nil)))))) (by kernel_rfl) (by kernel_rfl) (by kernel_rfl) (cvR _) ?_
    refine tnU ?_
    refine WpC.block ?_
    obtain ⟨o4, hlo4, h⟩ := bind_some h
    have hout5 := h
    clear h
    refine WpC.loop (U := Un) (fun n st' => ∃ v2 : Int, millwrightref02_Tree_At_m0.l3 k a0 a1 n v2 = some o4 ∧ st' = ⟨[(1, .p .str a1), (10, .p (.list (.named 3)) a0), (11, .p I6 ((a0.length : Int) : Int)), (12, .p I6 v2)], [(100000, .box [.p (.list (.named 3)) a0])]⟩) k ⟨0, hlo4, rfl⟩ ?_
    clear hlo4
    rintro (_ | n) _ ⟨v2, h, rfl⟩
    · cases h
    · rw [millwrightref02_Tree_At_m0.l3] at h
      refine WpC.seq ?_
      refine rgU (st1 := ⟨[(1, .p .str a1), (10, .p (.list (.named 3)) a0), (11, .p I6 ((a0.length : Int) : Int)), (12, .p I6 v2), (13, .p .bool ((decide (v2 < (a0.length : Int))) : Bool))], [(100000, .box [.p (.list (.named 3)) a0])]⟩) [1, 10, 11, 12, 13] [100000] hN (.cons (cmU (rs := [(12, .p I6 v2), (11, .p I6 ((a0.length : Int) : Int))]) rfl rfl o0 o1 rfl) .nil) (by kernel_rfl) (by kernel_rfl) (by kernel_rfl) (cvR _) ?_
      refine tnU ?_
      refine WpC.seq ?_
      refine cdU (b := (decide (v2 < (a0.length : Int)))) (.tmp (.tail _ (.tail _ (.tail _ (.tail _ (.head _)))))) (fun hc6 => ?_) (fun hc6 => ?_)
      · replace h := ite_t hc6 h
        refine WpC.conv (cvK (b := ⟨[(1, .p .str a1), (10, .p (.list (.named 3)) a0), (11, .p I6 ((a0.length : Int) : Int)), (12, .p I6 v2)], [(100000, .box [.p (.list (.named 3)) a0])]⟩) [1, 10, 11, 12] [100000] (by kernel_rfl)) (WpC.skip ?_)
        refine tnU ?_
        refine WpC.seq ?_
        refine WpC.block ?_
        refine WpC.seq ?_
        obtain ⟨v7, hv7, h⟩ := bind_some h
        refine rgU (st1 := ⟨[(1, .p .str a1), (5, .p I6 v2), (6, .loc 6 0), (10, .p (.list (.named 3)) a0), (11, .p I6 ((a0.length : Int) : Int)), (12, .p I6 v2)], [(6, .box [.p .str v7.f_Name, .p .str v7.f_Content, .p I6 v7.f_Time]), (100000, .box [.p (.list (.named 3)) a0])]⟩) [1, 5, 6, 10, 11, 12] [6, 100000] hN (.cons (mvU (v := .p I6 v2) rfl rfl) (.cons (sok_indexL (U := Un) (rs := [(10, .p (.list (.named 3)) a0), (12, .p I6 v2)]) rfl rfl sl_45 o0 o1 hv7) (.cons (sok_loadP (U := Un) (rs := [(15, .pp (.named 3) v7)]) rfl rfl ty_50 o0) (.cons (sok_allocZ (U := Un) (rs := []) (d := 6) (us := [.p .str ([] : List UInt8), .p .str ([] : List UInt8), .p I6 (0 : Int)]) (v := (.agg #[.string ByteArray.empty, .string ByteArray.empty, .int .i64 0])) rfl rfl rfl (by kernel_rfl) rfl (.data (fun _ _ _ => rd_str0) (.data (fun _ _ _ => rd_str0) (.data (fun _ _ _ => .int _ _) .nil))) (by kernel_rfl)) (.cons (mvA (v := .p I6 v2) rfl rfl) (.cons (sok_storeB (U := Un) (rs := [(6, .loc 6 0), (16, .p (.named 3) v7)]) (v := .p (.named 3) v7) (mid' := [.p .str v7.f_Name, .p .str v7.f_Content, .p I6 v7.f_Time]) [] [.p .str ([] : List UInt8), .p .str ([] : List UInt8), .p I6 (0 : Int)] [] rfl rfl rfl ty_50 o0 o1 (.data (.named (us := ([.p .str v7.f_Name, .p .str v7.f_Content, .p I6 v7.f_Time] : List (AVal Un))) (.pair (.one _ _) (.pair (.one _ _) (.pair (.one _ _) .unit))))) rfl rfl rfl rfl rfl rfl) .nil)))))) (by kernel_rfl) (by kernel_rfl) (by kernel_rfl) (cvR _) ?_
        refine tnU ?_
        refine WpC.seq ?_
        refine rgU (st1 := ⟨[(1, .p .str a1), (5, .p I6 v2), (10, .p (.list (.named 3)) a0), (11, .p I6 ((a0.length : Int) : Int)), (12, .p I6 v2), (20, .p .bool ((v7.f_Name == a1) : Bool))], [(100000, .box [.p (.list (.named 3)) a0])]⟩) [1, 5, 10, 11, 12, 20] [100000] hN (.cons (fdB (rs := [(6, .loc 6 0)]) rfl rfl fd_50_0 (by decide) o0) (.cons (ldB (t := .str) (rs := [(17, .loc 6 0)]) [] [.p .str v7.f_Name] [.p .str v7.f_Content, .p I6 v7.f_Time] (v := .p .str v7.f_Name) rfl rfl ty_9 o0 rfl rfl rfl rfl (.data (.one _ _))) (.cons (mvU (v := .p .str a1) rfl rfl) (.cons (sok_cmpS (U := Un) (rs := [(18, .p .str v7.f_Name), (19, .p .str a1)]) rfl rfl o0 o1 rfl) .nil)))) (by kernel_rfl) (by kernel_rfl) (by kernel_rfl) (cvR _) ?_
        refine tnU ?_
        refine cdU (b := (v7.f_Name == a1)) (.tmp (.tail _ (.tail _ (.tail _ (.tail _ (.tail _ (.head _))))))) (fun hc8 => ?_) (fun hc8 => ?_)
        · replace h := ite_t hc8 h
          refine WpC.seq ?_
          refine rgU (st1 := ⟨[(4, .p I6 v2)], [(100000, .box [.p (.list (.named 3)) a0])]⟩) [4] [100000] hN (.cons (mvU (v := .p I6 v2) rfl rfl) (.cons (mvA (v := .p I6 v2) rfl rfl) .nil)) (by kernel_rfl) (by kernel_rfl) (by kernel_rfl) (cvR _) ?_
          refine tnU ?_
          refine WpC.ret ?_
          refine blockQ_ret ?_
          refine thenQ_ret ?_
          have hq := Option.some.inj h
          subst hq
          refine thenQ_ret ?_
          have h := hout5
          refine blockQ_ret ?_
          refine thenQ_ret ?_
          have hq := Option.some.inj h
          subst hq
          exact ends_ret (retV_1 rfl (.head _)) (ain_cons (.head _) ain_nil)
        · replace h := ite_f hc8 h
          refine WpC.conv (cvK (b := ⟨[(1, .p .str a1), (10, .p (.list (.named 3)) a0), (11, .p I6 ((a0.length : Int) : Int)), (12, .p I6 v2)], [(100000, .box [.p (.list (.named 3)) a0])]⟩) [1, 10, 11, 12] [100000] (by kernel_rfl)) (WpC.skip ?_)
          refine blockQ_normal ?_
          refine tnU ?_
          refine rgU (st1 := ⟨[(1, .p .str a1), (10, .p (.list (.named 3)) a0), (11, .p I6 ((a0.length : Int) : Int)), (12, .p I6 ((IntKind.i64.wrap (v2 + 1)) : Int))], [(100000, .box [.p (.list (.named 3)) a0])]⟩) [1, 10, 11, 12] [100000] hN (.cons (sok_arith (U := Un) (rs := [(12, .p I6 v2)]) rfl rfl o0 (.int _ _ _) rfl) (.cons (mvU (v := .p I6 ((IntKind.i64.wrap (v2 + 1)) : Int)) rfl rfl) .nil)) (by kernel_rfl) (by kernel_rfl) (by kernel_rfl) (cvR _) ?_
          refine tnU ?_
          exact ⟨n, Nat.lt_succ_self n, (IntKind.i64.wrap (v2 + 1)), h, rfl⟩
      · replace h := ite_f hc6 h
        refine WpC.conv (cvK (b := ⟨[], [(100000, .box [.p (.list (.named 3)) a0])]⟩) [] [100000] (by kernel_rfl)) (WpC.exit ?_)
        refine thenQ_exit ?_
        have hq := Option.some.inj h
        subst hq
        refine thenQ_exit ?_
        have h := hout5
        refine blockQ_hit ?_
        refine tnU ?_
        exact ⟨h, rfl⟩
  · rintro _ ⟨h, rfl⟩
    unfold millwrightref02_Tree_At_m0.j1 at h
    refine WpC.seq ?_
    refine rgU (st1 := ⟨[(4, .p I6 ((-1) : Int))], [(100000, .box [.p (.list (.named 3)) a0])]⟩) [4] [100000] hN (.cons (moU (rs := []) rfl (.inr rfl) (.int _ _ _)) .nil) (by kernel_rfl) (by kernel_rfl) (by kernel_rfl) (cvR _) ?_
    refine tnU ?_
    refine WpC.ret ?_
    have hq := Option.some.inj h
    subst hq
    exact ends_ret (retV_1 rfl (.head _)) (ain_cons (.head _) ain_nil)

theorem millwrightref01_Right.ok (O : Out) (hO : GOk O) (k : Nat) (a0 : List UInt8) (out : Bool) (h : millwrightref01_Right.f k a0 = some out) : COk Un O Tryd.prog 56 { ar := [.p .str a0], r := .p .bool out } := by
  refine cok_of_wp Tryd.func56 rfl (k := 28) rfl (Nat.le_of_ble_eq_true rfl) (namesOk_pure rfl rfl rfl rfl) ?_
  intro B hN
  refine WpC.conv (cvK (b := ⟨[(0, .p .str a0)], []⟩) [0] [] (by kernel_rfl)) ?_
  unfold millwrightref01_Right.f at h
  refine WpC.seq ?_
  refine rgU (st1 := ⟨[(0, .p .str a0)], []⟩) [0] [] hN (.cons (moU (rs := []) rfl (.inr rfl) (.bool _ _)) .nil) (by kernel_rfl) (by kernel_rfl) (by kernel_rfl) (cvR _) ?_
  refine tnU ?_
  refine sqJ (fun st' => millwrightref01_Right.j2 k a0 = some out ∧ st' = ⟨[(0, .p .str a0)], []⟩) ?_ ?_
  · refine WpC.seq ?_
    refine rgU (st1 := ⟨[(0, .p .str a0), (3, .p I6 (0 : Int))], []⟩) [0, 3] [] hN (.cons (moU (rs := []) rfl (.inr rfl) (.int _ _ _)) .nil) (by kernel_rfl) (by kernel_rfl) (by kernel_rfl) (cvR _) ?_
    refine tnU ?_
    refine WpC.block ?_
    obtain ⟨o5, hlo5, h⟩ := bind_some h
    have hout6 := h
    clear h
    refine WpC.loop (U := Un) (fun n st' => ∃ v3 : Int, millwrightref01_Right.l4 k a0 n v3 = some o5 ∧ st' = ⟨[(0, .p .str a0), (3, .p I6 v3)], []⟩) k ⟨0, hlo5, rfl⟩ ?_
    clear hlo5
    rintro (_ | n) _ ⟨v3, h, rfl⟩
    · cases h
    · rw [millwrightref01_Right.l4] at h
      refine WpC.seq ?_
      refine WpC.seq ?_
      refine rgU (st1 := ⟨[(0, .p .str a0), (3, .p I6 v3), (7, .p .bool ((decide (v3 < (a0.length : Int))) : Bool))], []⟩) [0, 3, 7] [] hN (.cons (mvU (v := .p I6 v3) rfl rfl) (.cons (mvU (v := .p .str a0) rfl rfl) (.cons (sok_lenS (U := Un) (rs := [(5, .p .str a0)]) rfl rfl Tryd.underlying9 o0) (.cons (cmU (rs := [(4, .p I6 v3), (6, .p I6 ((a0.length : Int) : Int))]) rfl rfl o0 o1 rfl) .nil)))) (by kernel_rfl) (by kernel_rfl) (by kernel_rfl) (cvR _) ?_
      refine tnU ?_
      refine cdU (b := (decide (v3 < (a0.length : Int)))) (.tmp (.tail _ (.tail _ (.head _)))) (fun hc7 => ?_) (fun hc7 => ?_)
      · replace h := ite_t hc7 h
        refine WpC.conv (cvK (b := ⟨[(0, .p .str a0), (3, .p I6 v3)], []⟩) [0, 3] [] (by kernel_rfl)) (WpC.skip ?_)
        refine tnU ?_
        refine sqJ (fun st' => millwrightref01_Right.j8 k (millwrightref01_Right.l4 k a0 n) a0 v3 = some o5 ∧ st' = ⟨[(0, .p .str a0), (3, .p I6 v3)], []⟩) ?_ ?_
        · refine WpC.block ?_
          refine sqJ (fun st' => ∃ v9 : Bool, millwrightref01_Right.j11 k (millwrightref01_Right.l4 k a0 n) a0 v3 v9 = some o5 ∧ st' = ⟨[(0, .p .str a0), (3, .p I6 v3), (19, .p .bool v9)], []⟩) ?_ ?_
          · obtain ⟨v12, hv12, h⟩ := bind_some h
            rcases bool_cases (decide ((v12.toNat : Int) ≤ 32)) with hc13 | hc13
            · replace h := ite_t hc13 h
              refine rgU (st1 := ⟨[(0, .p .str a0), (3, .p I6 v3), (19, .p .bool true)], []⟩) [0, 3, 19] [] hN (.cons (mvU (v := .p .str a0) rfl rfl) (.cons (mvU (v := .p I6 v3) rfl rfl) (.cons (sok_indexS (U := Un) (rs := [(10, .p .str a0), (11, .p I6 v3)]) rfl rfl Tryd.underlying9 o0 o1 hv12) (.cons (cmU (rs := [(12, .p (.int .u8) ((v12.toNat : Int) : Int))]) rfl rfl o0 (.int _ _ _) rfl) (.cons (mvU (v := .p .bool ((decide ((v12.toNat : Int) ≤ 32)) : Bool)) rfl rfl) (.cons (skU rfl rfl hc13) (.cons (skU rfl rfl hc13) (.cons (skU rfl rfl hc13) (.cons (skU rfl rfl hc13) (.cons (pkT (rs := [(14, .p .bool ((decide ((v12.toNat : Int) ≤ 32)) : Bool))]) rfl rfl o0 hc13 (.bool _ _)) .nil)))))))))) (by kernel_rfl) (by kernel_rfl) (by kernel_rfl) (cvR _) ?_
              refine tnU ?_
              exact ⟨true, h, rfl⟩
            · replace h := ite_f hc13 h
              obtain ⟨v14, hv14, h⟩ := bind_some h
              refine rgU (st1 := ⟨[(0, .p .str a0), (3, .p I6 v3), (19, .p .bool ((decide ((v14.toNat : Int) ≥ 127)) : Bool))], []⟩) [0, 3, 19] [] hN (.cons (mvU (v := .p .str a0) rfl rfl) (.cons (mvU (v := .p I6 v3) rfl rfl) (.cons (sok_indexS (U := Un) (rs := [(10, .p .str a0), (11, .p I6 v3)]) rfl rfl Tryd.underlying9 o0 o1 hv12) (.cons (cmU (rs := [(12, .p (.int .u8) ((v12.toNat : Int) : Int))]) rfl rfl o0 (.int _ _ _) rfl) (.cons (mvU (v := .p .bool ((decide ((v12.toNat : Int) ≤ 32)) : Bool)) rfl rfl) (.cons (sok_run rfl rfl hc13 (mvU (v := .p .str a0) rfl rfl)) (.cons (sok_run rfl rfl hc13 (mvU (v := .p I6 v3) rfl rfl)) (.cons (sok_run rfl rfl hc13 (sok_indexS (U := Un) (rs := [(15, .p .str a0), (16, .p I6 v3)]) rfl rfl Tryd.underlying9 o0 o1 hv14)) (.cons (sok_run rfl rfl hc13 (cmU (rs := [(17, .p (.int .u8) ((v14.toNat : Int) : Int))]) rfl rfl o0 (.int _ _ _) rfl)) (.cons (pkF (rs := [(14, .p .bool ((decide ((v12.toNat : Int) ≤ 32)) : Bool)), (18, .p .bool ((decide ((v14.toNat : Int) ≥ 127)) : Bool))]) rfl rfl o0 hc13 o1) .nil)))))))))) (by kernel_rfl) (by kernel_rfl) (by kernel_rfl) (cvR _) ?_
              refine tnU ?_
              exact ⟨(decide ((v14.toNat : Int) ≥ 127)), h, rfl⟩
          · rintro _ ⟨v9, h, rfl⟩
            unfold millwrightref01_Right.j11 at h
            refine cdU (b := v9) (.tmp (.tail _ (.tail _ (.head _)))) (fun hc10 => ?_) (fun hc10 => ?_)
            · replace h := ite_t hc10 h
              refine WpC.seq ?_
              refine rgU (st1 := ⟨[(2, .p .bool false)], []⟩) [2] [] hN (.cons (moU (rs := []) rfl (.inr rfl) (.bool _ _)) .nil) (by kernel_rfl) (by kernel_rfl) (by kernel_rfl) (cvR _) ?_
              refine tnU ?_
              refine WpC.ret ?_
              refine blockQ_ret ?_
              refine thenQ_ret ?_
              have hq := Option.some.inj h
              subst hq
              refine thenQ_ret ?_
              have h := hout6
              refine blockQ_ret ?_
              refine thenQ_ret ?_
              have hq := Option.some.inj h
              subst hq
              exact ends_ret (retV_1 rfl (.head _)) ain_nil
            · replace h := ite_f hc10 h
              refine WpC.conv (cvK (b := ⟨[(0, .p .str a0), (3, .p I6 v3)], []⟩) [0, 3] [] (by kernel_rfl)) (WpC.skip ?_)
              refine blockQ_normal ?_
              refine tnU ?_
              exact ⟨h, rfl⟩
        · rintro _ ⟨h, rfl⟩
          unfold millwrightref01_Right.j8 at h
          refine rgU (st1 := ⟨[(0, .p .str a0), (3, .p I6 ((IntKind.i64.wrap (v3 + 1)) : Int))], []⟩) [0, 3] [] hN (.cons (mvU (v := .p I6 v3) rfl rfl) (.cons (sok_arith (U := Un) (rs := [(8, .p I6 v3)]) rfl rfl o0 (.int _ _ _) rfl) (.cons (mvA (v := .p I6 ((IntKind.i64.wrap (v3 + 1)) : Int)) rfl rfl) .nil))) (by kernel_rfl) (by kernel_rfl) (by kernel_rfl) (cvR _) ?_
          refine tnU ?_
          exact ⟨n, Nat.lt_succ_self n, (IntKind.i64.wrap (v3 + 1)), h, rfl⟩
      · replace h := ite_f hc7 h
        refine WpC.conv (cvK (b := ⟨[(0, .p .str a0)], []⟩) [0] [] (by kernel_rfl)) (WpC.exit ?_)
        refine thenQ_exit ?_
        have hq := Option.some.inj h
        subst hq
        refine thenQ_exit ?_
        have h := hout6
        refine blockQ_hit ?_
        refine tnU ?_
        exact ⟨h, rfl⟩
  · rintro _ ⟨h, rfl⟩
    unfold millwrightref01_Right.j2 at h
    refine WpC.seq ?_
    rcases bool_cases (decide ((a0.length : Int) > 0)) with hc1 | hc1
    · replace h := ite_t hc1 h
      refine rgU (st1 := ⟨[(2, .p .bool ((decide ((a0.length : Int) ≤ 40)) : Bool))], []⟩) [2] [] hN (.cons (mvU (v := .p .str a0) rfl rfl) (.cons (sok_lenS (U := Un) (rs := [(20, .p .str a0)]) rfl rfl Tryd.underlying9 o0) (.cons (cmU (rs := [(21, .p I6 ((a0.length : Int) : Int))]) rfl rfl o0 (.int _ _ _) rfl) (.cons (mvU (v := .p .bool ((decide ((a0.length : Int) > 0)) : Bool)) rfl rfl) (.cons (sok_run rfl rfl hc1 (mvU (v := .p .str a0) rfl rfl)) (.cons (sok_run rfl rfl hc1 (sok_lenS (U := Un) (rs := [(24, .p .str a0)]) rfl rfl Tryd.underlying9 o0)) (.cons (sok_run rfl rfl hc1 (cmU (rs := [(25, .p I6 ((a0.length : Int) : Int))]) rfl rfl o0 (.int _ _ _) rfl)) (.cons (pkT (rs := [(23, .p .bool ((decide ((a0.length : Int) > 0)) : Bool)), (26, .p .bool ((decide ((a0.length : Int) ≤ 40)) : Bool))]) rfl rfl o0 hc1 o1) (.cons (mvA (v := .p .bool ((decide ((a0.length : Int) ≤ 40)) : Bool)) rfl rfl) .nil))))))))) (by kernel_rfl) (by kernel_rfl) (by kernel_rfl) (cvR _) ?_
      refine tnU ?_
      refine WpC.ret ?_
      have hq := Option.some.inj h
      subst hq
      exact ends_ret (retV_1 rfl (.head _)) ain_nil
    · replace h := ite_f hc1 h
      refine rgU (st1 := ⟨[(2, .p .bool false)], []⟩) [2] [] hN (.cons (mvU (v := .p .str a0) rfl rfl) (.cons (sok_lenS (U := Un) (rs := [(20, .p .str a0)]) rfl rfl Tryd.underlying9 o0) (.cons (cmU (rs := [(21, .p I6 ((a0.length : Int) : Int))]) rfl rfl o0 (.int _ _ _) rfl) (.cons (mvU (v := .p .bool ((decide ((a0.length : Int) > 0)) : Bool)) rfl rfl) (.cons (skU rfl rfl hc1) (.cons (skU rfl rfl hc1) (.cons (skU rfl rfl hc1) (.cons (pkF (rs := [(23, .p .bool ((decide ((a0.length : Int) > 0)) : Bool))]) rfl rfl o0 hc1 (.bool _ _)) (.cons (mvA (v := .p .bool false) rfl rfl) .nil))))))))) (by kernel_rfl) (by kernel_rfl) (by kernel_rfl) (cvR _) ?_
      refine tnU ?_
      refine WpC.ret ?_
      have hq := Option.some.inj h
      subst hq
      exact ends_ret (retV_1 rfl (.head _)) ain_nil

theorem millwrightref02_Tree_Put_m0.ok (O : Out) (hO : GOk O) (k : Nat) (a0 : List T_tree_File) (a1 : T_tree_File) (out : Int × (List T_tree_File)) (h : millwrightref02_Tree_Put_m0.f k a0 a1 = some out) : COk Un O Tryd.prog 20 { ar := [.loc 100000 0, .p (.named 3) a1], r := .p I6 out.1, bs := [(100000, .box [.p (.list (.named 3)) a0])], bs' := [(100000, .box [.p (.list (.named 3)) out.2])] } := by
  refine cok_of_wp Tryd.func20 rfl (k := 81) rfl (Nat.le_of_ble_eq_true rfl) (namesOk_of (by kernel_rfl)) ?_
  intro B hN
  refine WpC.conv (cvK (b := ⟨[(0, .loc 100000 0), (1, .p (.named 3) a1)], [(100000, .box [.p (.list (.named 3)) a0])]⟩) [0, 1] [100000] (by kernel_rfl)) ?_
  unfold millwrightref02_Tree_Put_m0.f at h
  refine WpC.seq ?_
  refine rgU (st1 := ⟨[(0, .loc 100000 0), (3, .loc 3 0)], [(3, .box [.p .str a1.f_Name, .p .str a1.f_Content, .p I6 a1.f_Time]), (100000, .box [.p (.list (.named 3)) a0])]⟩) [0, 3] [3, 100000] hN (.cons (sok_box (U := Un) (rs := [(1, .p (.named 3) a1)]) (d := 3) (us := [.p .str a1.f_Name, .p .str a1.f_Content, .p I6 a1.f_Time]) rfl rfl rfl o0 (.data (.named (us := ([.p .str a1.f_Name, .p .str a1.f_Content, .p I6 a1.f_Time] : List (AVal Un))) (.pair (.one _ _) (.pair (.one _ _) (.pair (.one _ _) .unit))))) rfl (notin_of (by kernel_rfl))) (.cons (moU (rs := []) rfl (.inr rfl) (.int _ _ _)) .nil)) (by kernel_rfl) (by kernel_rfl) (by kernel_rfl) (cvR _) ?_
  refine tnU ?_
  refine WpC.seq ?_
  refine WpC.seq ?_
  obtain ⟨v1, hv1, h⟩ := bind_some h
  refine rgU (st1 := ⟨[(0, .loc 100000 0), (3, .loc 3 0), (12, .p .bool ((!v1) : Bool))], [(3, .box [.p .str a1.f_Name, .p .str a1.f_Content, .p I6 a1.f_Time]), (100000, .box [.p (.list (.named 3)) a0])]⟩) [0, 3, 12] [3, 100000] hN (.cons (fdB (rs := [(3, .loc 3 0)]) rfl rfl fd_50_0 (by decide) o0) (.cons (ldB (t := .str) (rs := [(9, .loc 3 0)]) [] [.p .str a1.f_Name] [.p .str a1.f_Content, .p I6 a1.f_Time] (v := .p .str a1.f_Name) rfl rfl ty_9 o0 rfl rfl rfl rfl (.data (.one _ _))) (.cons (caV (rs := [(10, .p .str a1.f_Name)]) (vw := []) rfl rfl (.func _) hb_56 (millwrightref01_Right.ok O hO k a1.f_Name v1 hv1) (.cons o0 .nil) (.cons (.same _) .nil) (by simp) (.inl rfl)) (.cons (sok_not (U := Un) (rs := [(11, .p .bool v1)]) rfl rfl o0) .nil)))) (by kernel_rfl) (by kernel_rfl) (by kernel_rfl) (cvR _) ?_
  refine tnU ?_
  refine cdU (b := (!v1)) (.tmp (.tail _ (.tail _ (.head _)))) (fun hc2 => ?_) (fun hc2 => ?_)
  · replace h := ite_t hc2 h
    refine WpC.seq ?_
    refine rgU (st1 := ⟨[(4, .p I6 (4 : Int))], [(100000, .box [.p (.list (.named 3)) a0])]⟩) [4] [100000] hN (.cons (moU (rs := []) rfl (.inr rfl) (.int _ _ _)) .nil) (by kernel_rfl) (by kernel_rfl) (by kernel_rfl) (cvR _) ?_
    refine tnU ?_
    refine WpC.ret ?_
    refine thenQ_ret ?_
    have hq := Option.some.inj h
    subst hq
    exact ends_ret (retV_1 rfl (.head _)) (ain_cons (.head _) ain_nil)
  · replace h := ite_f hc2 h
    refine WpC.conv (cvK (b := ⟨[(0, .loc 100000 0), (3, .loc 3 0)], [(3, .box [.p .str a1.f_Name, .p .str a1.f_Content, .p I6 a1.f_Time]), (100000, .box [.p (.list (.named 3)) a0])]⟩) [0, 3] [3, 100000] (by kernel_rfl)) (WpC.skip ?_)
    refine tnU ?_
    refine WpC.seq ?_
    refine WpC.seq ?_
    refine rgU (st1 := ⟨[(0, .loc 100000 0), (3, .loc 3 0), (16, .p .bool ((decide ((a1.f_Content.length : Int) > 900)) : Bool))], [(3, .box [.p .str a1.f_Name, .p .str a1.f_Content, .p I6 a1.f_Time]), (100000, .box [.p (.list (.named 3)) a0])]⟩) [0, 3, 16] [3, 100000] hN (.cons (fdB (rs := [(3, .loc 3 0)]) rfl rfl fd_50_1 (by decide) o0) (.cons (ldB (t := .str) (rs := [(13, .loc 3 1)]) [.p .str a1.f_Name] [.p .str a1.f_Content] [.p I6 a1.f_Time] (v := .p .str a1.f_Content) rfl rfl ty_9 o0 rfl rfl rfl rfl (.data (.one _ _))) (.cons (sok_lenS (U := Un) (rs := [(14, .p .str a1.f_Content)]) rfl rfl Tryd.underlying9 o0) (.cons (cmU (rs := [(15, .p I6 ((a1.f_Content.length : Int) : Int))]) rfl rfl o0 (.int _ _ _) rfl) .nil)))) (by kernel_rfl) (by kernel_rfl) (by kernel_rfl) (cvR _) ?_
    refine tnU ?_
    refine cdU (b := (decide ((a1.f_Content.length : Int) > 900))) (.tmp (.tail _ (.tail _ (.head _)))) (fun hc3 => ?_) (fun hc3 => ?_)
    · replace h := ite_t hc3 h
      refine WpC.seq ?_
      refine rgU (st1 := ⟨[(4, .p I6 (2 : Int))], [(100000, .box [.p (.list (.named 3)) a0])]⟩) [4] [100000] hN (.cons (moU (rs := []) rfl (.inr rfl) (.int _ _ _)) .nil) (by kernel_rfl) (by kernel_rfl) (by kernel_rfl) (cvR _) ?_
      refine tnU ?_
      refine WpC.ret ?_
      refine thenQ_ret ?_
      have hq := Option.some.inj h
      subst hq
      exact ends_ret (retV_1 rfl (.head _)) (ain_cons (.head _) ain_nil)
    · replace h := ite_f hc3 h
      refine WpC.conv (cvK (b := ⟨[(0, .loc 100000 0), (3, .loc 3 0)], [(3, .box [.p .str a1.f_Name, .p .str a1.f_Content, .p I6 a1.f_Time]), (100000, .box [.p (.list (.named 3)) a0])]⟩) [0, 3] [3, 100000] (by kernel_rfl)) (WpC.skip ?_)
      refine tnU ?_
      refine sqJ (fun st' => millwrightref02_Tree_Put_m0.j41 k a0 a1 = some out ∧ st' = ⟨[(0, .loc 100000 0), (3, .loc 3 0)], [(3, .box [.p .str a1.f_Name, .p .str a1.f_Content, .p I6 a1.f_Time]), (100000, .box [.p (.list (.named 3)) a0])]⟩) ?_ ?_
      · refine sqJ (fun st' => ∃ v42 : Bool, millwrightref02_Tree_Put_m0.j44 k a0 a1 v42 = some out ∧ st' = ⟨[(0, .loc 100000 0), (3, .loc 3 0), (24, .p .bool v42)], [(3, .box [.p .str a1.f_Name, .p .str a1.f_Content, .p I6 a1.f_Time]), (100000, .box [.p (.list (.named 3)) a0])]⟩) ?_ ?_
        · rcases bool_cases (decide (a1.f_Time < 1)) with hc45 | hc45
          · replace h := ite_t hc45 h
            refine rgU (st1 := ⟨[(0, .loc 100000 0), (3, .loc 3 0), (24, .p .bool true)], [(3, .box [.p .str a1.f_Name, .p .str a1.f_Content, .p I6 a1.f_Time]), (100000, .box [.p (.list (.named 3)) a0])]⟩) [0, 3, 24] [3, 100000] hN (.cons (fdB (rs := [(3, .loc 3 0)]) rfl rfl fd_50_2 (by decide) o0) (.cons (ldB (t := .int .i64) (rs := [(17, .loc 3 2)]) [.p .str a1.f_Name, .p .str a1.f_Content] [.p I6 a1.f_Time] [] (v := .p I6 a1.f_Time) rfl rfl ty_3 o0 rfl rfl rfl rfl (.data (.one _ _))) (.cons (cmU (rs := [(18, .p I6 a1.f_Time)]) rfl rfl o0 (.int _ _ _) rfl) (.cons (mvU (v := .p .bool ((decide (a1.f_Time < 1)) : Bool)) rfl rfl) (.cons (skU rfl rfl hc45) (.cons (skU rfl rfl hc45) (.cons (skU rfl rfl hc45) (.cons (pkT (rs := [(20, .p .bool ((decide (a1.f_Time < 1)) : Bool))]) rfl rfl o0 hc45 (.bool _ _)) .nil)))))))) (by kernel_rfl) (by kernel_rfl) (by kernel_rfl) (cvR _) ?_
            refine tnU ?_
            exact ⟨true, h, rfl⟩
          · replace h := ite_f hc45 h
            refine rgU (st1 := ⟨[(0, .loc 100000 0), (3, .loc 3 0), (24, .p .bool ((decide (a1.f_Time > 549755813888)) : Bool))], [(3, .box [.p .str a1.f_Name, .p .str a1.f_Content, .p I6 a1.f_Time]), (100000, .box [.p (.list (.named 3)) a0])]⟩) [0, 3, 24] [3, 100000] hN (.cons (fdB (rs := [(3, .loc 3 0)]) rfl rfl fd_50_2 (by decide) o0) (.cons (ldB (t := .int .i64) (rs := [(17, .loc 3 2)]) [.p .str a1.f_Name, .p .str a1.f_Content] [.p I6 a1.f_Time] [] (v := .p I6 a1.f_Time) rfl rfl ty_3 o0 rfl rfl rfl rfl (.data (.one _ _))) (.cons (cmU (rs := [(18, .p I6 a1.f_Time)]) rfl rfl o0 (.int _ _ _) rfl) (.cons (mvU (v := .p .bool ((decide (a1.f_Time < 1)) : Bool)) rfl rfl) (.cons (sok_run rfl rfl hc45 (fdB (rs := [(3, .loc 3 0)]) rfl rfl fd_50_2 (by decide) o0)) (.cons (sok_run rfl rfl hc45 (ldB (t := .int .i64) (rs := [(21, .loc 3 2)]) [.p .str a1.f_Name, .p .str a1.f_Content] [.p I6 a1.f_Time] [] (v := .p I6 a1.f_Time) rfl rfl ty_3 o0 rfl rfl rfl rfl (.data (.one _ _)))) (.cons (sok_run rfl rfl hc45 (cmU (rs := [(22, .p I6 a1.f_Time)]) rfl rfl o0 (.int _ _ _) rfl)) (.cons (pkF (rs := [(20, .p .bool ((decide (a1.f_Time < 1)) : Bool)), (23, .p .bool ((decide (a1.f_Time > 549755813888)) : Bool))]) rfl rfl o0 hc45 o1) .nil)))))))) (by kernel_rfl) (by kernel_rfl) (by kernel_rfl) (cvR _) ?_
            refine tnU ?_
            exact ⟨(decide (a1.f_Time > 549755813888)), h, rfl⟩
        · rintro _ ⟨v42, h, rfl⟩
          unfold millwrightref02_Tree_Put_m0.j44 at h
          refine cdU (b := v42) (.tmp (.tail _ (.tail _ (.head _)))) (fun hc43 => ?_) (fun hc43 => ?_)
          · replace h := ite_t hc43 h
            refine WpC.seq ?_
            refine rgU (st1 := ⟨[(4, .p I6 (1 : Int))], [(100000, .box [.p (.list (.named 3)) a0])]⟩) [4] [100000] hN (.cons (moU (rs := []) rfl (.inr rfl) (.int _ _ _)) .nil) (by kernel_rfl) (by kernel_rfl) (by kernel_rfl) (cvR _) ?_
            refine tnU ?_
            refine WpC.ret ?_
            refine thenQ_ret ?_
            have hq := Option.some.inj h
            subst hq
            exact ends_ret (retV_1 rfl (.head _)) (ain_cons (.head _) ain_nil)
          · replace h := ite_f hc43 h
            refine WpC.conv (cvK (b := ⟨[(0, .loc 100000 0), (3, .loc 3 0)], [(3, .box [.p .str a1.f_Name, .p .str a1.f_Content, .p I6 a1.f_Time]), (100000, .box [.p (.list (.named 3)) a0])]⟩) [0, 3] [3, 100000] (by kernel_rfl)) (WpC.skip ?_)
            refine tnU ?_
            exact ⟨h, rfl⟩
      · rintro _ ⟨h, rfl⟩
        unfold millwrightref02_Tree_Put_m0.j41 at h
        refine sqJ (fun st' => millwrightref02_Tree_Put_m0.j35 k a0 a1 = some out ∧ st' = ⟨[(0, .loc 100000 0), (3, .loc 3 0)], [(3, .box [.p .str a1.f_Name, .p .str a1.f_Content, .p I6 a1.f_Time]), (100000, .box [.p (.list (.named 3)) a0])]⟩) ?_ ?_
        · refine sqJ (fun st' => ∃ v36 : Bool, millwrightref02_Tree_Put_m0.j38 k a0 a1 v36 = some out ∧ st' = ⟨[(0, .loc 100000 0), (3, .loc 3 0), (37, .p .bool v36)], [(3, .box [.p .str a1.f_Name, .p .str a1.f_Content, .p I6 a1.f_Time]), (100000, .box [.p (.list (.named 3)) a0])]⟩) ?_ ?_
          · obtain ⟨v39, hv39, h⟩ := bind_some h
            rcases bool_cases (decide (v39 < 0)) with hc40 | hc40
            · replace h := ite_t hc40 h
              refine rgU (st1 := ⟨[(0, .loc 100000 0), (3, .loc 3 0), (37, .p .bool ((decide ((a0.length : Int) ≥ 40)) : Bool))], [(3, .box [.p .str a1.f_Name, .p .str a1.f_Content, .p I6 a1.f_Time]), (100000, .box [.p (.list (.named 3)) a0])]⟩) [0, 3, 37] [3, 100000] hN (.cons (mvU (v := .loc 100000 0) rfl rfl) (.cons (fdB (rs := [(3, .loc 3 0)]) rfl rfl fd_50_0 (by decide) o0) (.cons (ldB (t := .str) (rs := [(26, .loc 3 0)]) [] [.p .str a1.f_Name] [.p .str a1.f_Content, .p I6 a1.f_Time] (v := .p .str a1.f_Name) rfl rfl ty_9 o0 rfl rfl rfl rfl (.data (.one _ _))) (.cons (caV (rs := [(25, .loc 100000 0), (27, .p .str a1.f_Name)]) (vw := []) rfl rfl (.func _) hb_23 (COk.ren (millwrightref02_Tree_At_m0.ok O hO k a0 a1.f_Name v39 hv39) (fun n => if n = 100000 then 100000 else n) (injOn_of (by kernel_rfl))) (.cons o0 (.cons o1 .nil)) (.cons (.same _) (.cons (.same _) .nil)) (by simp) (.inl rfl)) (.cons (cmU (rs := [(28, .p I6 v39)]) rfl rfl o0 (.int _ _ _) rfl) (.cons (mvU (v := .p .bool ((decide (v39 < 0)) : Bool)) rfl rfl) (.cons (sok_run rfl rfl hc40 (mvU (v := .loc 100000 0) rfl rfl)) (.cons (sok_run rfl rfl hc40 (nlU (rs := [(31, .loc 100000 0)]) rfl rfl o0 rfl)) (.cons (sok_run rfl rfl hc40 (fdB (rs := [(32, .loc 100000 0)]) rfl rfl fd_47_0 (by decide) o0)) (.cons (sok_run rfl rfl hc40 (ldB (t := .list (.named 3)) (rs := [(33, .loc 100000 0)]) [] [.p (.list (.named 3)) a0] [] (v := .p (.list (.named 3)) a0) rfl rfl ty_45 o0 rfl rfl rfl rfl (.data (.one _ _)))) (.cons (sok_run rfl rfl hc40 (sok_lenL (U := Un) (rs := [(34, .p (.list (.named 3)) a0)]) rfl rfl Tryd.underlying45 o0)) (.cons (sok_run rfl rfl hc40 (cmU (rs := [(35, .p I6 ((a0.length : Int) : Int))]) rfl rfl o0 (.int _ _ _) rfl)) (.cons (pkT (rs := [(30, .p .bool ((decide (v39 < 0)) : Bool)), (36, .p .bool ((decide ((a0.length : Int) ≥ 40)) : Bool))]) rfl rfl o0 hc40 o1) .nil))))))))))))) (by kernel_rfl) (by kernel_rfl) (by kernel_rfl) (cvR _) ?_
              refine tnU ?_
              exact ⟨(decide ((a0.length : Int) ≥ 40)), h, rfl⟩
            · replace h := ite_f hc40 h
              refine rgU (st1 := ⟨[(0, .loc 100000 0), (3, .loc 3 0), (37, .p .bool false)], [(3, .box [.p .str a1.f_Name, .p .str a1.f_Content, .p I6 a1.f_Time]), (100000, .box [.p (.list (.named 3)) a0])]⟩) [0, 3, 37] [3, 100000] hN (.cons (mvU (v := .loc 100000 0) rfl rfl) (.cons (fdB (rs := [(3, .loc 3 0)]) rfl rfl fd_50_0 (by decide) o0) (.cons (ldB (t := .str) (rs := [(26, .loc 3 0)]) [] [.p .str a1.f_Name] [.p .str a1.f_Content, .p I6 a1.f_Time] (v := .p .str a1.f_Name) rfl rfl ty_9 o0 rfl rfl rfl rfl (.data (.one _ _))) (.cons (caV (rs := [(25, .loc 100000 0), (27, .p .str a1.f_Name)]) (vw := []) rfl rfl (.func _) hb_23 (COk.ren (millwrightref02_Tree_At_m0.ok O hO k a0 a1.f_Name v39 hv39) (fun n => if n = 100000 then 100000 else n) (injOn_of (by kernel_rfl))) (.cons o0 (.cons o1 .nil)) (.cons (.same _) (.cons (.same _) .nil)) (by simp) (.inl rfl)) (.cons (cmU (rs := [(28, .p I6 v39)]) rfl rfl o0 (.int _ _ _) rfl) (.cons (mvU (v := .p .bool ((decide (v39 < 0)) : Bool)) rfl rfl) (.cons (skU rfl rfl hc40) (.cons (skU rfl rfl hc40) (.cons (skU rfl rfl hc40) (.cons (skU rfl rfl hc40) (.cons (skU rfl rfl hc40) (.cons (skU rfl rfl hc40) (.cons (pkF (rs := [(30, .p .bool ((decide (v39 < 0)) : Bool))]) rfl rfl o0 hc40 (.bool _ _)) .nil))))))))))))) (by kernel_rfl) (by kernel_rfl) (by kernel_rfl) (cvR _) ?_
              refine tnU ?_
              exact ⟨false, h, rfl⟩
          · rintro _ ⟨v36, h, rfl⟩
            unfold millwrightref02_Tree_Put_m0.j38 at h
            refine cdU (b := v36) (.tmp (.tail _ (.tail _ (.head _)))) (fun hc37 => ?_) (fun hc37 => ?_)
            · replace h := ite_t hc37 h
              refine WpC.seq ?_
              refine rgU (st1 := ⟨[(4, .p I6 (10 : Int))], [(100000, .box [.p (.list (.named 3)) a0])]⟩) [4] [100000] hN (.cons (moU (rs := []) rfl (.inr rfl) (.int _ _ _)) .nil) (by kernel_rfl) (by kernel_rfl) (by kernel_rfl) (cvR _) ?_
              refine tnU ?_
              refine WpC.ret ?_
              refine thenQ_ret ?_
              have hq := Option.some.inj h
              subst hq
              exact ends_ret (retV_1 rfl (.head _)) (ain_cons (.head _) ain_nil)
            · replace h := ite_f hc37 h
              refine WpC.conv (cvK (b := ⟨[(0, .loc 100000 0), (3, .loc 3 0)], [(3, .box [.p .str a1.f_Name, .p .str a1.f_Content, .p I6 a1.f_Time]), (100000, .box [.p (.list (.named 3)) a0])]⟩) [0, 3] [3, 100000] (by kernel_rfl)) (WpC.skip ?_)
              refine tnU ?_
              exact ⟨h, rfl⟩
        · rintro _ ⟨h, rfl⟩
          unfold millwrightref02_Tree_Put_m0.j35 at h
          refine WpC.seq ?_
          refine rgU (st1 := ⟨[(0, .loc 100000 0), (3, .loc 3 0), (5, .vec 38 3 0 (([] : List T_tree_File).length))], [(3, .box [.p .str a1.f_Name, .p .str a1.f_Content, .p I6 a1.f_Time]), (38, .row 50 (.named 3) ([] : List T_tree_File) true), (100000, .box [.p (.list (.named 3)) a0])]⟩) [0, 3, 5] [3, 38, 100000] hN (.cons (sok_buildSlice (U := Un) (t := .named 3) (rs := []) (ys := []) (xs := ([] : List T_tree_File)) rfl rfl rfl rfl row_45 .nil (by decide)) (.cons (mvA (v := .vec 38 3 0 (([] : List T_tree_File).length)) rfl rfl) .nil)) (by kernel_rfl) (by kernel_rfl) (by kernel_rfl) (Conv.cast (U := Un) (st' := ⟨[(0, .loc 100000 0), (3, .loc 3 0), (5, .vec 38 3 0 0)], [(3, .box [.p .str a1.f_Name, .p .str a1.f_Content, .p I6 a1.f_Time]), (38, .row 50 (.named 3) ([] : List T_tree_File) true), (100000, .box [.p (.list (.named 3)) a0])]⟩) (by simp only [upd_length, List.length_nil, List.length_replicate])) ?_
          refine tnU ?_
          refine WpC.seq ?_
          refine rgU (st1 := ⟨[(0, .loc 100000 0), (3, .loc 3 0), (5, .vec 38 3 0 0), (6, .p .bool false)], [(3, .box [.p .str a1.f_Name, .p .str a1.f_Content, .p I6 a1.f_Time]), (38, .row 50 (.named 3) ([] : List T_tree_File) true), (100000, .box [.p (.list (.named 3)) a0])]⟩) [0, 3, 5, 6] [3, 38, 100000] hN (.cons (moU (rs := []) rfl (.inr rfl) (.bool _ _)) .nil) (by kernel_rfl) (by kernel_rfl) (by kernel_rfl) (cvR _) ?_
          refine tnU ?_
          refine sqJ (fun st' => ∃ v4 : List T_tree_File, ∃ v5 : Bool, millwrightref02_Tree_Put_m0.j10 k a0 a1 v4 v5 = some out ∧ st' = ⟨[(0, .loc 100000 0), (3, .loc 3 0), (5, .vec 1005 3 0 v4.length), (6, .p .bool v5)], [(3, .box [.p .str a1.f_Name, .p .str a1.f_Content, .p I6 a1.f_Time]), (1005, .row 50 (.named 3) v4 false), (100000, .box [.p (.list (.named 3)) a0])]⟩) ?_ ?_
          · refine WpC.seq ?_
            refine rgU (st1 := ⟨[(0, .loc 100000 0), (3, .loc 3 0), (5, .vec 38 3 0 0), (6, .p .bool false), (42, .p (.list (.named 3)) a0), (43, .p I6 ((a0.length : Int) : Int)), (44, .p I6 (0 : Int))], [(3, .box [.p .str a1.f_Name, .p .str a1.f_Content, .p I6 a1.f_Time]), (38, .row 50 (.named 3) ([] : List T_tree_File) true), (100000, .box [.p (.list (.named 3)) a0])]⟩) [0, 3, 5, 6, 42, 43, 44] [3, 38, 100000] hN (.cons (mvU (v := .loc 100000 0) rfl rfl) (.cons (nlU (rs := [(39, .loc 100000 0)]) rfl rfl o0 rfl) (.cons (fdB (rs := [(40, .loc 100000 0)]) rfl rfl fd_47_0 (by decide) o0) (.cons (ldB (t := .list (.named 3)) (rs := [(41, .loc 100000 0)]) [] [.p (.list (.named 3)) a0] [] (v := .p (.list (.named 3)) a0) rfl rfl ty_45 o0 rfl rfl rfl rfl (.data (.one _ _))) (.cons (sok_lenL (U := Un) (rs := [(42, .p (.list (.named 3)) a0)]) rfl rfl Tryd.underlying45 o0) (.cons (moU (rs := []) rfl (.inl rfl) (.int _ _ _)) .nil)))))) (by kernel_rfl) (by kernel_rfl) (by kernel_rfl) (cvR _) ?_
            refine tnU ?_
            refine WpC.block ?_
            obtain ⟨o17, hlo17, h⟩ := bind_some h
            have hout18 := h
            clear h
            refine WpC.conv (cvT (Conv.loose (U := Un) 38 50 (.named 3) ([] : List T_tree_File) (.tail _ (.head _))) (cvT (cvK (b := ⟨[(0, .loc 100000 0), (3, .loc 3 0), (5, .vec 38 3 0 0), (6, .p .bool false), (42, .p (.list (.named 3)) a0), (43, .p I6 ((a0.length : Int) : Int)), (44, .p I6 (0 : Int))], [(3, .box [.p .str a1.f_Name, .p .str a1.f_Content, .p I6 a1.f_Time]), (38, .row 50 (.named 3) ([] : List T_tree_File) false), (100000, .box [.p (.list (.named 3)) a0])]⟩) [0, 3, 5, 6, 42, 43, 44] [3, 38, 100000] (by kernel_rfl)) (cvT (Conv.ren (U := Un) (st' := ⟨[(0, .loc 100000 0), (3, .loc 3 0), (5, .vec 1005 3 0 0), (6, .p .bool false), (42, .p (.list (.named 3)) a0), (43, .p I6 ((a0.length : Int) : Int)), (44, .p I6 (0 : Int))], [(3, .box [.p .str a1.f_Name, .p .str a1.f_Content, .p I6 a1.f_Time]), (1005, .row 50 (.named 3) ([] : List T_tree_File) false), (100000, .box [.p (.list (.named 3)) a0])]⟩) 38 1005 (by unfold K0; omega) (by kernel_rfl) (by kernel_rfl) (by kernel_rfl)) (cvK (b := ⟨[(0, .loc 100000 0), (3, .loc 3 0), (5, .vec 1005 3 0 0), (6, .p .bool false), (42, .p (.list (.named 3)) a0), (43, .p I6 ((a0.length : Int) : Int)), (44, .p I6 (0 : Int))], [(3, .box [.p .str a1.f_Name, .p .str a1.f_Content, .p I6 a1.f_Time]), (1005, .row 50 (.named 3) ([] : List T_tree_File) false), (100000, .box [.p (.list (.named 3)) a0])]⟩) [0, 3, 5, 6, 42, 43, 44] [3, 1005, 100000] (by kernel_rfl))))) ?_
            refine WpC.loop (U := Un) (fun n st' => ∃ v11 : List T_tree_File, ∃ v12 : Bool, ∃ v13 : Int, millwrightref02_Tree_Put_m0.l14 k a0 a1 n v11 v12 v13 = some o17 ∧ st' = ⟨[(0, .loc 100000 0), (3, .loc 3 0), (5, .vec 1005 3 0 v11.length), (6, .p .bool v12), (42, .p (.list (.named 3)) a0), (43, .p I6 ((a0.length : Int) : Int)), (44, .p I6 v13)], [(3, .box [.p .str a1.f_Name, .p .str a1.f_Content, .p I6 a1.f_Time]), (1005, .row 50 (.named 3) v11 false), (100000, .box [.p (.list (.named 3)) a0])]⟩) k ⟨([] : List T_tree_File), false, 0, hlo17, rfl⟩ ?_
            clear hlo17
            rintro (_ | n) _ ⟨v11, v12, v13, h, rfl⟩
            · cases h
            · rw [millwrightref02_Tree_Put_m0.l14] at h
              refine WpC.seq ?_
              refine rgU (st1 := ⟨[(0, .loc 100000 0), (3, .loc 3 0), (5, .vec 1005 3 0 v11.length), (6, .p .bool v12), (42, .p (.list (.named 3)) a0), (43, .p I6 ((a0.length : Int) : Int)), (44, .p I6 v13), (45, .p .bool ((decide (v13 < (a0.length : Int))) : Bool))], [(3, .box [.p .str a1.f_Name, .p .str a1.f_Content, .p I6 a1.f_Time]), (1005, .row 50 (.named 3) v11 false), (100000, .box [.p (.list (.named 3)) a0])]⟩) [0, 3, 5, 6, 42, 43, 44, 45] [3, 1005, 100000] hN (.cons (cmU (rs := [(44, .p I6 v13), (43, .p I6 ((a0.length : Int) : Int))]) rfl rfl o0 o1 rfl) .nil) (by kernel_rfl) (by kernel_rfl) (by kernel_rfl) (cvR _) ?_
              refine tnU ?_
              refine WpC.seq ?_
              refine cdU (b := (decide (v13 < (a0.length : Int)))) (.tmp (.tail _ (.tail _ (.tail _ (.tail _ (.tail _ (.tail _ (.tail _ (.head _))))))))) (fun hc19 => ?_) (fun hc19 => ?_)
              · replace h := ite_t hc19 h
                refine WpC.conv (cvK (b := ⟨[(0, .loc 100000 0), (3, .loc 3 0), (5, .vec 1005 3 0 v11.length), (6, .p .bool v12), (42, .p (.list (.named 3)) a0), (43, .p I6 ((a0.length : Int) : Int)), (44, .p I6 v13)], [(3, .box [.p .str a1.f_Name, .p .str a1.f_Content, .p I6 a1.f_Time]), (1005, .row 50 (.named 3) v11 false), (100000, .box [.p (.list (.named 3)) a0])]⟩) [0, 3, 5, 6, 42, 43, 44] [3, 1005, 100000] (by kernel_rfl)) (WpC.skip ?_)
                refine tnU ?_
                refine sqJ (fun st' => ∃ v20 : List T_tree_File, ∃ v21 : Bool, millwrightref02_Tree_Put_m0.j22 k (millwrightref02_Tree_Put_m0.l14 k a0 a1 n) a0 a1 v13 v20 v21 = some o17 ∧ st' = ⟨[(0, .loc 100000 0), (3, .loc 3 0), (5, .vec 1005 3 0 v20.length), (6, .p .bool v21), (42, .p (.list (.named 3)) a0), (43, .p I6 ((a0.length : Int) : Int)), (44, .p I6 v13)], [(3, .box [.p .str a1.f_Name, .p .str a1.f_Content, .p I6 a1.f_Time]), (1005, .row 50 (.named 3) v20 false), (100000, .box [.p (.list (.named 3)) a0])]⟩) ?_ ?_
                · refine WpC.block ?_
                  refine WpC.seq ?_
                  obtain ⟨v23, hv23, h⟩ := bind_some h
                  refine rgU (st1 := ⟨[(0, .loc 100000 0), (3, .loc 3 0), (5, .vec 1005 3 0 v11.length), (6, .p .bool v12), (8, .loc 8 0), (42, .p (.list (.named 3)) a0), (43, .p I6 ((a0.length : Int) : Int)), (44, .p I6 v13)], [(3, .box [.p .str a1.f_Name, .p .str a1.f_Content, .p I6 a1.f_Time]), (8, .box [.p .str v23.f_Name, .p .str v23.f_Content, .p I6 v23.f_Time]), (1005, .row 50 (.named 3) v11 false), (100000, .box [.p (.list (.named 3)) a0])]⟩) [0, 3, 5, 6, 8, 42, 43, 44] [3, 8, 1005, 100000] hN (.cons (sok_indexL (U := Un) (rs := [(42, .p (.list (.named 3)) a0), (44, .p I6 v13)]) rfl rfl sl_45 o0 o1 hv23) (.cons (sok_loadP (U := Un) (rs := [(46, .pp (.named 3) v23)]) rfl rfl ty_50 o0) (.cons (sok_allocZ (U := Un) (rs := []) (d := 8) (us := [.p .str ([] : List UInt8), .p .str ([] : List UInt8), .p I6 (0 : Int)]) (v := (.agg #[.string ByteArray.empty, .string ByteArray.empty, .int .i64 0])) rfl rfl rfl (by kernel_rfl) rfl (.data (fun _ _ _ => rd_str0) (.data (fun _ _ _ => rd_str0) (.data (fun _ _ _ => .int _ _) .nil))) (by kernel_rfl)) (.cons (sok_storeB (U := Un) (rs := [(8, .loc 8 0), (47, .p (.named 3) v23)]) (v := .p (.named 3) v23) (mid' := [.p .str v23.f_Name, .p .str v23.f_Content, .p I6 v23.f_Time]) [] [.p .str ([] : List UInt8), .p .str ([] : List UInt8), .p I6 (0 : Int)] [] rfl rfl rfl ty_50 o0 o1 (.data (.named (us := ([.p .str v23.f_Name, .p .str v23.f_Content, .p I6 v23.f_Time] : List (AVal Un))) (.pair (.one _ _) (.pair (.one _ _) (.pair (.one _ _) .unit))))) rfl rfl rfl rfl rfl rfl) .nil)))) (by kernel_rfl) (by kernel_rfl) (by kernel_rfl) (cvR _) ?_
                  refine tnU ?_
                  refine sqJ (fun st' => ∃ v24 : List T_tree_File, ∃ v25 : Bool, millwrightref02_Tree_Put_m0.j28 k (millwrightref02_Tree_Put_m0.l14 k a0 a1 n) a0 a1 v13 v23 v24 v25 = some o17 ∧ st' = ⟨[(0, .loc 100000 0), (3, .loc 3 0), (5, .vec 1005 3 0 v24.length), (6, .p .bool v25), (8, .loc 8 0), (42, .p (.list (.named 3)) a0), (43, .p I6 ((a0.length : Int) : Int)), (44, .p I6 v13)], [(3, .box [.p .str a1.f_Name, .p .str a1.f_Content, .p I6 a1.f_Time]), (8, .box [.p .str v23.f_Name, .p .str v23.f_Content, .p I6 v23.f_Time]), (1005, .row 50 (.named 3) v24 false), (100000, .box [.p (.list (.named 3)) a0])]⟩) ?_ ?_
                  · refine sqJ (fun st' => ∃ v29 : Bool, millwrightref02_Tree_Put_m0.j32 k (millwrightref02_Tree_Put_m0.l14 k a0 a1 n) a0 a1 v11 v12 v13 v23 v29 = some o17 ∧ st' = ⟨[(0, .loc 100000 0), (3, .loc 3 0), (5, .vec 1005 3 0 v11.length), (6, .p .bool v12), (8, .loc 8 0), (42, .p (.list (.named 3)) a0), (43, .p I6 ((a0.length : Int) : Int)), (44, .p I6 v13), (56, .p .bool v29)], [(3, .box [.p .str a1.f_Name, .p .str a1.f_Content, .p I6 a1.f_Time]), (8, .box [.p .str v23.f_Name, .p .str v23.f_Content, .p I6 v23.f_Time]), (1005, .row 50 (.named 3) v11 false), (100000, .box [.p (.list (.named 3)) a0])]⟩) ?_ ?_
                    · rcases bool_cases (!v12) with hc33 | hc33
                      · replace h := ite_t hc33 h
                        refine rgU (st1 := ⟨[(0, .loc 100000 0), (3, .loc 3 0), (5, .vec 1005 3 0 v11.length), (6, .p .bool v12), (8, .loc 8 0), (42, .p (.list (.named 3)) a0), (43, .p I6 ((a0.length : Int) : Int)), (44, .p I6 v13), (56, .p .bool ((Op.bytesLess a1.f_Name v23.f_Name || a1.f_Name == v23.f_Name) : Bool))], [(3, .box [.p .str a1.f_Name, .p .str a1.f_Content, .p I6 a1.f_Time]), (8, .box [.p .str v23.f_Name, .p .str v23.f_Content, .p I6 v23.f_Time]), (1005, .row 50 (.named 3) v11 false), (100000, .box [.p (.list (.named 3)) a0])]⟩) [0, 3, 5, 6, 8, 42, 43, 44, 56] [3, 8, 1005, 100000] hN (.cons (mvU (v := .p .bool v12) rfl rfl) (.cons (sok_not (U := Un) (rs := [(48, .p .bool v12)]) rfl rfl o0) (.cons (mvU (v := .p .bool ((!v12) : Bool)) rfl rfl) (.cons (sok_run rfl rfl hc33 (fdB (rs := [(3, .loc 3 0)]) rfl rfl fd_50_0 (by decide) o0)) (.cons (sok_run rfl rfl hc33 (ldB (t := .str) (rs := [(51, .loc 3 0)]) [] [.p .str a1.f_Name] [.p .str a1.f_Content, .p I6 a1.f_Time] (v := .p .str a1.f_Name) rfl rfl ty_9 o0 rfl rfl rfl rfl (.data (.one _ _)))) (.cons (sok_run rfl rfl hc33 (fdB (rs := [(8, .loc 8 0)]) rfl rfl fd_50_0 (by decide) o0)) (.cons (sok_run rfl rfl hc33 (ldB (t := .str) (rs := [(53, .loc 8 0)]) [] [.p .str v23.f_Name] [.p .str v23.f_Content, .p I6 v23.f_Time] (v := .p .str v23.f_Name) rfl rfl ty_9 o0 rfl rfl rfl rfl (.data (.one _ _)))) (.cons (sok_run rfl rfl hc33 (sok_cmpS (U := Un) (rs := [(52, .p .str a1.f_Name), (54, .p .str v23.f_Name)]) rfl rfl o0 o1 rfl)) (.cons (pkT (rs := [(50, .p .bool ((!v12) : Bool)), (55, .p .bool ((Op.bytesLess a1.f_Name v23.f_Name || a1.f_Name == v23.f_Name) : Bool))]) rfl rfl o0 hc33 o1) .nil))))))))) (by kernel_rfl) (by kernel_rfl) (by kernel_rfl) (cvR _) ?_
                        refine tnU ?_
                        exact ⟨(Op.bytesLess a1.f_Name v23.f_Name || a1.f_Name == v23.f_Name), h, rfl⟩
                      · replace h := ite_f hc33 h
                        refine rgU (st1 := ⟨[(0, .loc 100000 0), (3, .loc 3 0), (5, .vec 1005 3 0 v11.length), (6, .p .bool v12), (8, .loc 8 0), (42, .p (.list (.named 3)) a0), (43, .p I6 ((a0.length : Int) : Int)), (44, .p I6 v13), (56, .p .bool false)], [(3, .box [.p .str a1.f_Name, .p .str a1.f_Content, .p I6 a1.f_Time]), (8, .box [.p .str v23.f_Name, .p .str v23.f_Content, .p I6 v23.f_Time]), (1005, .row 50 (.named 3) v11 false), (100000, .box [.p (.list (.named 3)) a0])]⟩) [0, 3, 5, 6, 8, 42, 43, 44, 56] [3, 8, 1005, 100000] hN (.cons (mvU (v := .p .bool v12) rfl rfl) (.cons (sok_not (U := Un) (rs := [(48, .p .bool v12)]) rfl rfl o0) (.cons (mvU (v := .p .bool ((!v12) : Bool)) rfl rfl) (.cons (skU rfl rfl hc33) (.cons (skU rfl rfl hc33) (.cons (skU rfl rfl hc33) (.cons (skU rfl rfl hc33) (.cons (skU rfl rfl hc33) (.cons (pkF (rs := [(50, .p .bool ((!v12) : Bool))]) rfl rfl o0 hc33 (.bool _ _)) .nil))))))))) (by kernel_rfl) (by kernel_rfl) (by kernel_rfl) (cvR _) ?_
                        refine tnU ?_
                        exact ⟨false, h, rfl⟩
                    · rintro _ ⟨v29, h, rfl⟩
                      unfold millwrightref02_Tree_Put_m0.j32 at h
                      refine cdU (b := v29) (.tmp (.tail _ (.tail _ (.tail _ (.tail _ (.tail _ (.tail _ (.tail _ (.tail _ (.head _)))))))))) (fun hc30 => ?_) (fun hc30 => ?_)
                      · replace h := ite_t hc30 h
                        refine WpC.seq ?_
                        obtain ⟨g31, h⟩ := if_some h
                        refine rgU (st1 := ⟨[(0, .loc 100000 0), (3, .loc 3 0), (5, .vec 60 3 0 ((v11 ++ [(T_tree_File.mk a1.f_Name a1.f_Content a1.f_Time)]).length)), (8, .loc 8 0), (42, .p (.list (.named 3)) a0), (43, .p I6 ((a0.length : Int) : Int)), (44, .p I6 v13)], [(3, .box [.p .str a1.f_Name, .p .str a1.f_Content, .p I6 a1.f_Time]), (8, .box [.p .str v23.f_Name, .p .str v23.f_Content, .p I6 v23.f_Time]), (60, .row 50 (.named 3) (v11 ++ [(T_tree_File.mk a1.f_Name a1.f_Content a1.f_Time)]) false), (100000, .box [.p (.list (.named 3)) a0])]⟩) [0, 3, 5, 8, 42, 43, 44] [3, 8, 60, 100000] hN (.cons (mvU (v := .vec 1005 3 0 v11.length) rfl rfl) (.cons (ldB (t := .named 3) (rs := [(3, .loc 3 0)]) [] [.p .str a1.f_Name, .p .str a1.f_Content, .p I6 a1.f_Time] [] (v := .p (.named 3) ((T_tree_File.mk a1.f_Name a1.f_Content a1.f_Time) : T_tree_File)) rfl rfl ty_50 o0 rfl rfl rfl rfl (.data (.named (us := ([.p .str a1.f_Name, .p .str a1.f_Content, .p I6 a1.f_Time] : List (AVal Un))) (.pair (.one _ _) (.pair (.one _ _) (.pair (.one _ _) .unit)))))) (.cons (sok_buildSlice (U := Un) (t := .named 3) (rs := [(58, .p (.named 3) ((T_tree_File.mk a1.f_Name a1.f_Content a1.f_Time) : T_tree_File))]) (ys := [.tmp 58]) (xs := [(T_tree_File.mk a1.f_Name a1.f_Content a1.f_Time)]) rfl rfl rfl rfl row_45 (.cons o0 .nil) (by decide)) (.cons (sok_append' (U := Un) (t := .named 3) (rs := [(57, .vec 1005 3 0 v11.length), (59, .vec 59 3 0 ([(T_tree_File.mk a1.f_Name a1.f_Content a1.f_Time)].length))]) (vw := [(59, .row 50 (.named 3) [(T_tree_File.mk a1.f_Name a1.f_Content a1.f_Time)] true)]) (xs := v11) (ys := [(T_tree_File.mk a1.f_Name a1.f_Content a1.f_Time)]) (fx := false) rfl rfl rfl row_45 (by decide) o0 o1 (.whole (.head _)) (by simp) g31) (.cons (mvA (v := .vec 60 3 0 ((v11 ++ [(T_tree_File.mk a1.f_Name a1.f_Content a1.f_Time)]).length)) rfl rfl) .nil))))) (by kernel_rfl) (by kernel_rfl) (by kernel_rfl) (cvR _) ?_
                        refine tnU ?_
                        refine rgU (st1 := ⟨[(0, .loc 100000 0), (3, .loc 3 0), (5, .vec 60 3 0 ((v11 ++ [(T_tree_File.mk a1.f_Name a1.f_Content a1.f_Time)]).length)), (6, .p .bool true), (8, .loc 8 0), (42, .p (.list (.named 3)) a0), (43, .p I6 ((a0.length : Int) : Int)), (44, .p I6 v13)], [(3, .box [.p .str a1.f_Name, .p .str a1.f_Content, .p I6 a1.f_Time]), (8, .box [.p .str v23.f_Name, .p .str v23.f_Content, .p I6 v23.f_Time]), (60, .row 50 (.named 3) (v11 ++ [(T_tree_File.mk a1.f_Name a1.f_Content a1.f_Time)]) false), (100000, .box [.p (.list (.named 3)) a0])]⟩) [0, 3, 5, 6, 8, 42, 43, 44] [3, 8, 60, 100000] hN (.cons (moU (rs := []) rfl (.inr rfl) (.bool _ _)) .nil) (by kernel_rfl) (by kernel_rfl) (by kernel_rfl) (cvT (Conv.ren (U := Un) (st' := ⟨[(0, .loc 100000 0), (3, .loc 3 0), (5, .vec 1005 3 0 ((v11 ++ [(T_tree_File.mk a1.f_Name a1.f_Content a1.f_Time)]).length)), (6, .p .bool true), (8, .loc 8 0), (42, .p (.list (.named 3)) a0), (43, .p I6 ((a0.length : Int) : Int)), (44, .p I6 v13)], [(3, .box [.p .str a1.f_Name, .p .str a1.f_Content, .p I6 a1.f_Time]), (8, .box [.p .str v23.f_Name, .p .str v23.f_Content, .p I6 v23.f_Time]), (1005, .row 50 (.named 3) (v11 ++ [(T_tree_File.mk a1.f_Name a1.f_Content a1.f_Time)]) false), (100000, .box [.p (.list (.named 3)) a0])]⟩) 60 1005 (by unfold K0; omega) (by kernel_rfl) (by kernel_rfl) (by kernel_rfl)) (cvK (b := ⟨[(0, .loc 100000 0), (3, .loc 3 0), (5, .vec 1005 3 0 ((v11 ++ [(T_tree_File.mk a1.f_Name a1.f_Content a1.f_Time)]).length)), (6, .p .bool true), (8, .loc 8 0), (42, .p (.list (.named 3)) a0), (43, .p I6 ((a0.length : Int) : Int)), (44, .p I6 v13)], [(3, .box [.p .str a1.f_Name, .p .str a1.f_Content, .p I6 a1.f_Time]), (8, .box [.p .str v23.f_Name, .p .str v23.f_Content, .p I6 v23.f_Time]), (1005, .row 50 (.named 3) (v11 ++ [(T_tree_File.mk a1.f_Name a1.f_Content a1.f_Time)]) false), (100000, .box [.p (.list (.named 3)) a0])]⟩) [0, 3, 5, 6, 8, 42, 43, 44] [3, 8, 1005, 100000] (by kernel_rfl))) ?_
                        refine tnU ?_
                        exact ⟨(v11 ++ [(T_tree_File.mk a1.f_Name a1.f_Content a1.f_Time)]), true, h, rfl⟩
                      · replace h := ite_f hc30 h
                        refine WpC.conv (cvK (b := ⟨[(0, .loc 100000 0), (3, .loc 3 0), (5, .vec 1005 3 0 v11.length), (6, .p .bool v12), (8, .loc 8 0), (42, .p (.list (.named 3)) a0), (43, .p I6 ((a0.length : Int) : Int)), (44, .p I6 v13)], [(3, .box [.p .str a1.f_Name, .p .str a1.f_Content, .p I6 a1.f_Time]), (8, .box [.p .str v23.f_Name, .p .str v23.f_Content, .p I6 v23.f_Time]), (1005, .row 50 (.named 3) v11 false), (100000, .box [.p (.list (.named 3)) a0])]⟩) [0, 3, 5, 6, 8, 42, 43, 44] [3, 8, 1005, 100000] (by kernel_rfl)) (WpC.skip ?_)
                        refine tnU ?_
                        exact ⟨v11, v12, h, rfl⟩
                  · rintro _ ⟨v24, v25, h, rfl⟩
                    unfold millwrightref02_Tree_Put_m0.j28 at h
                    refine WpC.seq ?_
                    refine rgU (st1 := ⟨[(0, .loc 100000 0), (3, .loc 3 0), (5, .vec 1005 3 0 v24.length), (6, .p .bool v25), (8, .loc 8 0), (42, .p (.list (.named 3)) a0), (43, .p I6 ((a0.length : Int) : Int)), (44, .p I6 v13), (65, .p .bool ((!(v23.f_Name == a1.f_Name)) : Bool))], [(3, .box [.p .str a1.f_Name, .p .str a1.f_Content, .p I6 a1.f_Time]), (8, .box [.p .str v23.f_Name, .p .str v23.f_Content, .p I6 v23.f_Time]), (1005, .row 50 (.named 3) v24 false), (100000, .box [.p (.list (.named 3)) a0])]⟩) [0, 3, 5, 6, 8, 42, 43, 44, 65] [3, 8, 1005, 100000] hN (.cons (fdB (rs := [(8, .loc 8 0)]) rfl rfl fd_50_0 (by decide) o0) (.cons (ldB (t := .str) (rs := [(61, .loc 8 0)]) [] [.p .str v23.f_Name] [.p .str v23.f_Content, .p I6 v23.f_Time] (v := .p .str v23.f_Name) rfl rfl ty_9 o0 rfl rfl rfl rfl (.data (.one _ _))) (.cons (fdB (rs := [(3, .loc 3 0)]) rfl rfl fd_50_0 (by decide) o0) (.cons (ldB (t := .str) (rs := [(63, .loc 3 0)]) [] [.p .str a1.f_Name] [.p .str a1.f_Content, .p I6 a1.f_Time] (v := .p .str a1.f_Name) rfl rfl ty_9 o0 rfl rfl rfl rfl (.data (.one _ _))) (.cons (sok_cmpS (U := Un) (rs := [(62, .p .str v23.f_Name), (64, .p .str a1.f_Name)]) rfl rfl o0 o1 rfl) .nil))))) (by kernel_rfl) (by kernel_rfl) (by kernel_rfl) (cvR _) ?_
                    refine tnU ?_
                    refine cdU (b := (!(v23.f_Name == a1.f_Name))) (.tmp (.tail _ (.tail _ (.tail _ (.tail _ (.tail _ (.tail _ (.tail _ (.tail _ (.head _)))))))))) (fun hc26 => ?_) (fun hc26 => ?_)
                    · replace h := ite_t hc26 h
                      obtain ⟨g27, h⟩ := if_some h
                      refine rgU (st1 := ⟨[(0, .loc 100000 0), (3, .loc 3 0), (5, .vec 69 3 0 ((v24 ++ [(T_tree_File.mk v23.f_Name v23.f_Content v23.f_Time)]).length)), (6, .p .bool v25), (42, .p (.list (.named 3)) a0), (43, .p I6 ((a0.length : Int) : Int)), (44, .p I6 v13)], [(3, .box [.p .str a1.f_Name, .p .str a1.f_Content, .p I6 a1.f_Time]), (69, .row 50 (.named 3) (v24 ++ [(T_tree_File.mk v23.f_Name v23.f_Content v23.f_Time)]) false), (100000, .box [.p (.list (.named 3)) a0])]⟩) [0, 3, 5, 6, 42, 43, 44] [3, 69, 100000] hN (.cons (mvU (v := .vec 1005 3 0 v24.length) rfl rfl) (.cons (ldB (t := .named 3) (rs := [(8, .loc 8 0)]) [] [.p .str v23.f_Name, .p .str v23.f_Content, .p I6 v23.f_Time] [] (v := .p (.named 3) ((T_tree_File.mk v23.f_Name v23.f_Content v23.f_Time) : T_tree_File)) rfl rfl ty_50 o0 rfl rfl rfl rfl (.data (.named (us := ([.p .str v23.f_Name, .p .str v23.f_Content, .p I6 v23.f_Time] : List (AVal Un))) (.pair (.one _ _) (.pair (.one _ _) (.pair (.one _ _) .unit)))))) (.cons (sok_buildSlice (U := Un) (t := .named 3) (rs := [(67, .p (.named 3) ((T_tree_File.mk v23.f_Name v23.f_Content v23.f_Time) : T_tree_File))]) (ys := [.tmp 67]) (xs := [(T_tree_File.mk v23.f_Name v23.f_Content v23.f_Time)]) rfl rfl rfl rfl row_45 (.cons o0 .nil) (by decide)) (.cons (sok_append' (U := Un) (t := .named 3) (rs := [(66, .vec 1005 3 0 v24.length), (68, .vec 68 3 0 ([(T_tree_File.mk v23.f_Name v23.f_Content v23.f_Time)].length))]) (vw := [(68, .row 50 (.named 3) [(T_tree_File.mk v23.f_Name v23.f_Content v23.f_Time)] true)]) (xs := v24) (ys := [(T_tree_File.mk v23.f_Name v23.f_Content v23.f_Time)]) (fx := false) rfl rfl rfl row_45 (by decide) o0 o1 (.whole (.head _)) (by simp) g27) (.cons (mvA (v := .vec 69 3 0 ((v24 ++ [(T_tree_File.mk v23.f_Name v23.f_Content v23.f_Time)]).length)) rfl rfl) .nil))))) (by kernel_rfl) (by kernel_rfl) (by kernel_rfl) (cvT (Conv.ren (U := Un) (st' := ⟨[(0, .loc 100000 0), (3, .loc 3 0), (5, .vec 1005 3 0 ((v24 ++ [(T_tree_File.mk v23.f_Name v23.f_Content v23.f_Time)]).length)), (6, .p .bool v25), (42, .p (.list (.named 3)) a0), (43, .p I6 ((a0.length : Int) : Int)), (44, .p I6 v13)], [(3, .box [.p .str a1.f_Name, .p .str a1.f_Content, .p I6 a1.f_Time]), (1005, .row 50 (.named 3) (v24 ++ [(T_tree_File.mk v23.f_Name v23.f_Content v23.f_Time)]) false), (100000, .box [.p (.list (.named 3)) a0])]⟩) 69 1005 (by unfold K0; omega) (by kernel_rfl) (by kernel_rfl) (by kernel_rfl)) (cvK (b := ⟨[(0, .loc 100000 0), (3, .loc 3 0), (5, .vec 1005 3 0 ((v24 ++ [(T_tree_File.mk v23.f_Name v23.f_Content v23.f_Time)]).length)), (6, .p .bool v25), (42, .p (.list (.named 3)) a0), (43, .p I6 ((a0.length : Int) : Int)), (44, .p I6 v13)], [(3, .box [.p .str a1.f_Name, .p .str a1.f_Content, .p I6 a1.f_Time]), (1005, .row 50 (.named 3) (v24 ++ [(T_tree_File.mk v23.f_Name v23.f_Content v23.f_Time)]) false), (100000, .box [.p (.list (.named 3)) a0])]⟩) [0, 3, 5, 6, 42, 43, 44] [3, 1005, 100000] (by kernel_rfl))) ?_
                      refine blockQ_normal ?_
                      refine tnU ?_
                      exact ⟨(v24 ++ [(T_tree_File.mk v23.f_Name v23.f_Content v23.f_Time)]), v25, h, rfl⟩
                    · replace h := ite_f hc26 h
                      refine WpC.conv (cvK (b := ⟨[(0, .loc 100000 0), (3, .loc 3 0), (5, .vec 1005 3 0 v24.length), (6, .p .bool v25), (42, .p (.list (.named 3)) a0), (43, .p I6 ((a0.length : Int) : Int)), (44, .p I6 v13)], [(3, .box [.p .str a1.f_Name, .p .str a1.f_Content, .p I6 a1.f_Time]), (1005, .row 50 (.named 3) v24 false), (100000, .box [.p (.list (.named 3)) a0])]⟩) [0, 3, 5, 6, 42, 43, 44] [3, 1005, 100000] (by kernel_rfl)) (WpC.skip ?_)
                      refine blockQ_normal ?_
                      refine tnU ?_
                      exact ⟨v24, v25, h, rfl⟩
                · rintro _ ⟨v20, v21, h, rfl⟩
                  unfold millwrightref02_Tree_Put_m0.j22 at h
                  refine rgU (st1 := ⟨[(0, .loc 100000 0), (3, .loc 3 0), (5, .vec 1005 3 0 v20.length), (6, .p .bool v21), (42, .p (.list (.named 3)) a0), (43, .p I6 ((a0.length : Int) : Int)), (44, .p I6 ((IntKind.i64.wrap (v13 + 1)) : Int))], [(3, .box [.p .str a1.f_Name, .p .str a1.f_Content, .p I6 a1.f_Time]), (1005, .row 50 (.named 3) v20 false), (100000, .box [.p (.list (.named 3)) a0])]⟩) [0, 3, 5, 6, 42, 43, 44] [3, 1005, 100000] hN (.cons (sok_arith (U := Un) (rs := [(44, .p I6 v13)]) rfl rfl o0 (.int _ _ _) rfl) (.cons (mvU (v := .p I6 ((IntKind.i64.wrap (v13 + 1)) : Int)) rfl rfl) .nil)) (by kernel_rfl) (by kernel_rfl) (by kernel_rfl) (cvR _) ?_
                  refine tnU ?_
                  exact ⟨n, Nat.lt_succ_self n, v20, v21, (IntKind.i64.wrap (v13 + 1)), h, rfl⟩
              · replace h := ite_f hc19 h
                refine WpC.conv (cvK (b := ⟨[(0, .loc 100000 0), (3, .loc 3 0), (5, .vec 1005 3 0 v11.length), (6, .p .bool v12)], [(3, .box [.p .str a1.f_Name, .p .str a1.f_Content, .p I6 a1.f_Time]), (1005, .row 50 (.named 3) v11 false), (100000, .box [.p (.list (.named 3)) a0])]⟩) [0, 3, 5, 6] [3, 1005, 100000] (by kernel_rfl)) (WpC.exit ?_)
                refine thenQ_exit ?_
                have hq := Option.some.inj h
                subst hq
                refine thenQ_exit ?_
                have h := hout18
                refine blockQ_hit ?_
                refine tnU ?_
                exact ⟨v11, v12, h, rfl⟩
          · rintro _ ⟨v4, v5, h, rfl⟩
            unfold millwrightref02_Tree_Put_m0.j10 at h
            refine sqJ (fun st' => ∃ v6 : List T_tree_File, millwrightref02_Tree_Put_m0.j7 k a0 v6 = some out ∧ st' = ⟨[(0, .loc 100000 0), (5, .vec 1005 3 0 v6.length)], [(1005, .row 50 (.named 3) v6 false), (100000, .box [.p (.list (.named 3)) a0])]⟩) ?_ ?_
            · refine WpC.seq ?_
              refine rgU (st1 := ⟨[(0, .loc 100000 0), (3, .loc 3 0), (5, .vec 1005 3 0 v4.length), (72, .p .bool ((!v5) : Bool))], [(3, .box [.p .str a1.f_Name, .p .str a1.f_Content, .p I6 a1.f_Time]), (1005, .row 50 (.named 3) v4 false), (100000, .box [.p (.list (.named 3)) a0])]⟩) [0, 3, 5, 72] [3, 1005, 100000] hN (.cons (mvU (v := .p .bool v5) rfl rfl) (.cons (sok_not (U := Un) (rs := [(71, .p .bool v5)]) rfl rfl o0) .nil)) (by kernel_rfl) (by kernel_rfl) (by kernel_rfl) (cvR _) ?_
              refine tnU ?_
              refine cdU (b := (!v5)) (.tmp (.tail _ (.tail _ (.tail _ (.head _))))) (fun hc8 => ?_) (fun hc8 => ?_)
              · replace h := ite_t hc8 h
                obtain ⟨g9, h⟩ := if_some h
                refine rgU (st1 := ⟨[(0, .loc 100000 0), (5, .vec 76 3 0 ((v4 ++ [(T_tree_File.mk a1.f_Name a1.f_Content a1.f_Time)]).length))], [(76, .row 50 (.named 3) (v4 ++ [(T_tree_File.mk a1.f_Name a1.f_Content a1.f_Time)]) false), (100000, .box [.p (.list (.named 3)) a0])]⟩) [0, 5] [76, 100000] hN (.cons (mvU (v := .vec 1005 3 0 v4.length) rfl rfl) (.cons (ldB (t := .named 3) (rs := [(3, .loc 3 0)]) [] [.p .str a1.f_Name, .p .str a1.f_Content, .p I6 a1.f_Time] [] (v := .p (.named 3) ((T_tree_File.mk a1.f_Name a1.f_Content a1.f_Time) : T_tree_File)) rfl rfl ty_50 o0 rfl rfl rfl rfl (.data (.named (us := ([.p .str a1.f_Name, .p .str a1.f_Content, .p I6 a1.f_Time] : List (AVal Un))) (.pair (.one _ _) (.pair (.one _ _) (.pair (.one _ _) .unit)))))) (.cons (sok_buildSlice (U := Un) (t := .named 3) (rs := [(74, .p (.named 3) ((T_tree_File.mk a1.f_Name a1.f_Content a1.f_Time) : T_tree_File))]) (ys := [.tmp 74]) (xs := [(T_tree_File.mk a1.f_Name a1.f_Content a1.f_Time)]) rfl rfl rfl rfl row_45 (.cons o0 .nil) (by decide)) (.cons (sok_append' (U := Un) (t := .named 3) (rs := [(73, .vec 1005 3 0 v4.length), (75, .vec 75 3 0 ([(T_tree_File.mk a1.f_Name a1.f_Content a1.f_Time)].length))]) (vw := [(75, .row 50 (.named 3) [(T_tree_File.mk a1.f_Name a1.f_Content a1.f_Time)] true)]) (xs := v4) (ys := [(T_tree_File.mk a1.f_Name a1.f_Content a1.f_Time)]) (fx := false) rfl rfl rfl row_45 (by decide) o0 o1 (.whole (.head _)) (by simp) g9) (.cons (mvA (v := .vec 76 3 0 ((v4 ++ [(T_tree_File.mk a1.f_Name a1.f_Content a1.f_Time)]).length)) rfl rfl) .nil))))) (by kernel_rfl) (by kernel_rfl) (by kernel_rfl) (cvT (Conv.ren (U := Un) (st' := ⟨[(0, .loc 100000 0), (5, .vec 1005 3 0 ((v4 ++ [(T_tree_File.mk a1.f_Name a1.f_Content a1.f_Time)]).length))], [(1005, .row 50 (.named 3) (v4 ++ [(T_tree_File.mk a1.f_Name a1.f_Content a1.f_Time)]) false), (100000, .box [.p (.list (.named 3)) a0])]⟩) 76 1005 (by unfold K0; omega) (by kernel_rfl) (by kernel_rfl) (by kernel_rfl)) (cvK (b := ⟨[(0, .loc 100000 0), (5, .vec 1005 3 0 ((v4 ++ [(T_tree_File.mk a1.f_Name a1.f_Content a1.f_Time)]).length))], [(1005, .row 50 (.named 3) (v4 ++ [(T_tree_File.mk a1.f_Name a1.f_Content a1.f_Time)]) false), (100000, .box [.p (.list (.named 3)) a0])]⟩) [0, 5] [1005, 100000] (by kernel_rfl))) ?_
                refine tnU ?_
                exact ⟨(v4 ++ [(T_tree_File.mk a1.f_Name a1.f_Content a1.f_Time)]), h, rfl⟩
              · replace h := ite_f hc8 h
                refine WpC.conv (cvK (b := ⟨[(0, .loc 100000 0), (5, .vec 1005 3 0 v4.length)], [(1005, .row 50 (.named 3) v4 false), (100000, .box [.p (.list (.named 3)) a0])]⟩) [0, 5] [1005, 100000] (by kernel_rfl)) (WpC.skip ?_)
                refine tnU ?_
                exact ⟨v4, h, rfl⟩
            · rintro _ ⟨v6, h, rfl⟩
              unfold millwrightref02_Tree_Put_m0.j7 at h
              refine WpC.seq ?_
              refine rgU (st1 := ⟨[], [(1005, .row 50 (.named 3) v6 false), (100000, .box [.vec 1005 3 0 v6.length])]⟩) [] [1005, 100000] hN (.cons (mvU (v := .loc 100000 0) rfl rfl) (.cons (mvU (v := .vec 1005 3 0 v6.length) rfl rfl) (.cons (nlU (rs := [(77, .loc 100000 0)]) rfl rfl o0 rfl) (.cons (fdB (rs := [(79, .loc 100000 0)]) rfl rfl fd_47_0 (by decide) o0) (.cons (sok_storeB (U := Un) (rs := [(80, .loc 100000 0), (78, .vec 1005 3 0 v6.length)]) (v := .vec 1005 3 0 v6.length) (mid' := [.vec 1005 3 0 v6.length]) [] [.p (.list (.named 3)) a0] [] rfl rfl rfl ty_45 o0 o1 (.hand rfl) rfl rfl rfl rfl rfl rfl) .nil))))) (by kernel_rfl) (by kernel_rfl) (by kernel_rfl) (cvR _) ?_
              refine tnU ?_
              refine WpC.seq ?_
              refine rgU (st1 := ⟨[(4, .p I6 (0 : Int))], [(1005, .row 50 (.named 3) v6 false), (100000, .box [.vec 1005 3 0 v6.length])]⟩) [4] [1005, 100000] hN (.cons (moU (rs := []) rfl (.inr rfl) (.int _ _ _)) .nil) (by kernel_rfl) (by kernel_rfl) (by kernel_rfl) (cvR _) ?_
              refine tnU ?_
              refine WpC.conv (cvT (Conv.freezeU (U := Un) 100000 1005 50 _ (.named 3) v6 false [] [] (.tail _ (.head _)) (by first | rfl | (simp only [upd_length, List.length_replicate, List.length_append]; done) | (simp only [upd_length, List.length_replicate, List.length_append] at *; omega) | omega) (.head _) (by kernel_rfl)) (cvK (b := ⟨[(4, .p I6 (0 : Int))], [(100000, .box [.p (.list (.named 3)) v6])]⟩) [4] [100000] (by kernel_rfl))) (WpC.ret ?_)
              have hq := Option.some.inj h
              subst hq
              exact ends_ret (retV_1 rfl (.head _)) (ain_cons (.head _) ain_nil)

end Go.Proofs.YtkdpaglpieamgaaDoor
