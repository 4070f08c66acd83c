/- A part of the proof of a given law: DTC3. Own work, printed in part by a program of mine. -/
import Derived.Test.YtkdpaglpieamgaaDoorK9DTC2
namespace Go.Proofs.YtkdpaglpieamgaaDoor
open Go Go.AM
set_option linter.unusedVariables false
set_option linter.unusedSimpArgs false
set_option maxRecDepth 100000
theorem millwrightlaw41_of.ok (O : Out) (hO : GOk O) (k : Nat) (a0 : List T_delta_Change) (out : List T_millwrightref41_Change) (h : millwrightlaw41_of.f k a0 = some out) : COk Un O Tryd.prog 35 { ar := [.p (.list (.named 6)) a0], r := .p (.list (.named 7)) out } := by
  refine cok_of_wp Tryd.func35 rfl (k := 25) rfl (Nat.le_of_ble_eq_true rfl) (namesOk_pure rfl rfl rfl rfl) ?_
  intro B hN
  refine WpC.conv (cvK (b := ⟨[(0, .p (.list (.named 6)) a0)], []⟩) [0] [] (by kernel_rfl)) ?_
  unfold millwrightlaw41_of.f at h
  refine WpC.seq ?_
  refine rgU (st1 := ⟨[(0, .p (.list (.named 6)) a0)], []⟩) [0] [] hN (.cons (moU (rs := []) rfl (.inr rfl) (.lit _ _ rfl)) .nil) (by kernel_rfl) (by kernel_rfl) (by kernel_rfl) (cvR _) ?_
  refine tnU ?_
  refine WpC.seq ?_
  refine rgU (st1 := ⟨[(0, .p (.list (.named 6)) a0), (3, .vec 6 7 0 (([] : List T_millwrightref41_Change).length))], [(6, .row 77 (.named 7) ([] : List T_millwrightref41_Change) true)]⟩) [0, 3] [6] hN (.cons (sok_buildSlice (U := Un) (t := .named 7) (rs := []) (ys := []) (xs := ([] : List T_millwrightref41_Change)) rfl rfl rfl rfl row_66 .nil (by decide)) (.cons (mvA (v := .vec 6 7 0 (([] : List T_millwrightref41_Change).length)) rfl rfl) .nil)) (by kernel_rfl) (by kernel_rfl) (by kernel_rfl) (Conv.cast (U := Un) (st' := ⟨[(0, .p (.list (.named 6)) a0), (3, .vec 6 7 0 0)], [(6, .row 77 (.named 7) ([] : List T_millwrightref41_Change) true)]⟩) (by simp only [upd_length, List.length_nil, List.length_replicate])) ?_
  refine tnU ?_
  refine sqJ (fun st' => ∃ v1 : List T_millwrightref41_Change, millwrightlaw41_of.j2 k v1 = some out ∧ st' = ⟨[(3, .vec 1003 7 0 v1.length)], [(1003, .row 77 (.named 7) v1 false)]⟩) ?_ ?_
  · refine WpC.seq ?_
    refine rgU (st1 := ⟨[(3, .vec 6 7 0 0), (7, .p (.list (.named 6)) a0), (8, .p I6 ((a0.length : Int) : Int)), (9, .p I6 (0 : Int))], [(6, .row 77 (.named 7) ([] : List T_millwrightref41_Change) true)]⟩) [3, 7, 8, 9] [6] hN (.cons (mvU (v := .p (.list (.named 6)) a0) rfl rfl) (.cons (sok_lenL (U := Un) (rs := [(7, .p (.list (.named 6)) a0)]) rfl rfl Tryd.underlying60 o0) (.cons (moU (rs := []) rfl (.inl rfl) (.int _ _ _)) .nil))) (by kernel_rfl) (by kernel_rfl) (by kernel_rfl) (cvR _) ?_
    refine tnU ?_
    refine WpC.block ?_
    obtain ⟨o7, hlo7, h⟩ := bind_some h
    have hout8 := h
    clear h
    refine WpC.conv (cvT (Conv.loose (U := Un) 6 77 (.named 7) ([] : List T_millwrightref41_Change) (.head _)) (cvT (cvK (b := ⟨[(3, .vec 6 7 0 0), (7, .p (.list (.named 6)) a0), (8, .p I6 ((a0.length : Int) : Int)), (9, .p I6 (0 : Int))], [(6, .row 77 (.named 7) ([] : List T_millwrightref41_Change) false)]⟩) [3, 7, 8, 9] [6] (by kernel_rfl)) (cvT (Conv.ren (U := Un) (st' := ⟨[(3, .vec 1003 7 0 0), (7, .p (.list (.named 6)) a0), (8, .p I6 ((a0.length : Int) : Int)), (9, .p I6 (0 : Int))], [(1003, .row 77 (.named 7) ([] : List T_millwrightref41_Change) false)]⟩) 6 1003 (by unfold K0; omega) (by kernel_rfl) (by kernel_rfl) (by kernel_rfl)) (cvK (b := ⟨[(3, .vec 1003 7 0 0), (7, .p (.list (.named 6)) a0), (8, .p I6 ((a0.length : Int) : Int)), (9, .p I6 (0 : Int))], [(1003, .row 77 (.named 7) ([] : List T_millwrightref41_Change) false)]⟩) [3, 7, 8, 9] [1003] (by kernel_rfl))))) ?_
    refine WpC.loop (U := Un) (fun n st' => ∃ v3 : List T_millwrightref41_Change, ∃ v4 : Int, millwrightlaw41_of.l5 k a0 n v3 v4 = some o7 ∧ st' = ⟨[(3, .vec 1003 7 0 v3.length), (7, .p (.list (.named 6)) a0), (8, .p I6 ((a0.length : Int) : Int)), (9, .p I6 v4)], [(1003, .row 77 (.named 7) v3 false)]⟩) k ⟨([] : List T_millwrightref41_Change), 0, hlo7, rfl⟩ ?_
    clear hlo7
    rintro (_ | n) _ ⟨v3, v4, h, rfl⟩
    · cases h
    · rw [millwrightlaw41_of.l5] at h
      refine WpC.seq ?_
      refine rgU (st1 := ⟨[(3, .vec 1003 7 0 v3.length), (7, .p (.list (.named 6)) a0), (8, .p I6 ((a0.length : Int) : Int)), (9, .p I6 v4), (10, .p .bool ((decide (v4 < (a0.length : Int))) : Bool))], [(1003, .row 77 (.named 7) v3 false)]⟩) [3, 7, 8, 9, 10] [1003] hN (.cons (cmU (rs := [(9, .p I6 v4), (8, .p I6 ((a0.length : Int) : Int))]) rfl rfl o0 o1 rfl) .nil) (by kernel_rfl) (by kernel_rfl) (by kernel_rfl) (cvR _) ?_
      refine tnU ?_
      refine WpC.seq ?_
      refine cdU (b := (decide (v4 < (a0.length : Int)))) (.tmp (.tail _ (.tail _ (.tail _ (.tail _ (.head _)))))) (fun hc9 => ?_) (fun hc9 => ?_)
      · replace h := ite_t hc9 h
        refine WpC.conv (cvK (b := ⟨[(3, .vec 1003 7 0 v3.length), (7, .p (.list (.named 6)) a0), (8, .p I6 ((a0.length : Int) : Int)), (9, .p I6 v4)], [(1003, .row 77 (.named 7) v3 false)]⟩) [3, 7, 8, 9] [1003] (by kernel_rfl)) (WpC.skip ?_)
        refine tnU ?_
        refine WpC.seq ?_
        refine WpC.block ?_
        refine WpC.seq ?_
        obtain ⟨v10, hv10, h⟩ := bind_some h
        refine rgU (st1 := ⟨[(3, .vec 1003 7 0 v3.length), (5, .loc 5 0), (7, .p (.list (.named 6)) a0), (8, .p I6 ((a0.length : Int) : Int)), (9, .p I6 v4)], [(5, .box [.p I6 v10.f_Kind, .p .str v10.f_Old.f_Name, .p .str v10.f_Old.f_Content, .p I6 v10.f_Old.f_Time, .p .str v10.f_New.f_Name, .p .str v10.f_New.f_Content, .p I6 v10.f_New.f_Time]), (1003, .row 77 (.named 7) v3 false)]⟩) [3, 5, 7, 8, 9] [5, 1003] hN (.cons (sok_indexL (U := Un) (rs := [(7, .p (.list (.named 6)) a0), (9, .p I6 v4)]) rfl rfl sl_60 o0 o1 hv10) (.cons (sok_loadP (U := Un) (rs := [(11, .pp (.named 6) v10)]) rfl rfl ty_103 o0) (.cons (sok_allocZ (U := Un) (rs := []) (d := 5) (us := [.p I6 (0 : Int), .p .str ([] : List UInt8), .p .str ([] : List UInt8), .p I6 (0 : Int), .p .str ([] : List UInt8), .p .str ([] : List UInt8), .p I6 (0 : Int)]) (v := (.agg #[.int .i64 0, .string ByteArray.empty, .string ByteArray.empty, .int .i64 0, .string ByteArray.empty, .string ByteArray.empty, .int .i64 0])) rfl rfl rfl (by kernel_rfl) rfl (.data (fun _ _ _ => .int _ _) (.data (fun _ _ _ => rd_str0) (.data (fun _ _ _ => rd_str0) (.data (fun _ _ _ => .int _ _) (.data (fun _ _ _ => rd_str0) (.data (fun _ _ _ => rd_str0) (.data (fun _ _ _ => .int _ _) .nil))))))) (by kernel_rfl)) (.cons (sok_storeB (U := Un) (rs := [(5, .loc 5 0), (12, .p (.named 6) v10)]) (v := .p (.named 6) v10) (mid' := [.p I6 v10.f_Kind, .p .str v10.f_Old.f_Name, .p .str v10.f_Old.f_Content, .p I6 v10.f_Old.f_Time, .p .str v10.f_New.f_Name, .p .str v10.f_New.f_Content, .p I6 v10.f_New.f_Time]) [] [.p I6 (0 : Int), .p .str ([] : List UInt8), .p .str ([] : List UInt8), .p I6 (0 : Int), .p .str ([] : List UInt8), .p .str ([] : List UInt8), .p I6 (0 : Int)] [] rfl rfl rfl ty_103 o0 o1 (.data (.named (us := ([.p I6 v10.f_Kind, .p .str v10.f_Old.f_Name, .p .str v10.f_Old.f_Content, .p I6 v10.f_Old.f_Time, .p .str v10.f_New.f_Name, .p .str v10.f_New.f_Content, .p I6 v10.f_New.f_Time] : List (AVal Un))) (.pair (.one _ _) (.pair (.named (us := ([.p .str v10.f_Old.f_Name, .p .str v10.f_Old.f_Content, .p I6 v10.f_Old.f_Time] : List (AVal Un))) (.pair (.one _ _) (.pair (.one _ _) (.pair (.one _ _) .unit)))) (.pair (.named (us := ([.p .str v10.f_New.f_Name, .p .str v10.f_New.f_Content, .p I6 v10.f_New.f_Time] : List (AVal Un))) (.pair (.one _ _) (.pair (.one _ _) (.pair (.one _ _) .unit)))) .unit))))) rfl rfl rfl rfl rfl rfl) .nil)))) (by kernel_rfl) (by kernel_rfl) (by kernel_rfl) (cvR _) ?_
        refine tnU ?_
        obtain ⟨g11, h⟩ := if_some h
        refine rgU (st1 := ⟨[(3, .vec 22 7 0 ((v3 ++ [(T_millwrightref41_Change.mk v10.f_Kind (T_tree_File.mk v10.f_Old.f_Name v10.f_Old.f_Content v10.f_Old.f_Time) (T_tree_File.mk v10.f_New.f_Name v10.f_New.f_Content v10.f_New.f_Time))]).length)), (7, .p (.list (.named 6)) a0), (8, .p I6 ((a0.length : Int) : Int)), (9, .p I6 v4)], [(22, .row 77 (.named 7) (v3 ++ [(T_millwrightref41_Change.mk v10.f_Kind (T_tree_File.mk v10.f_Old.f_Name v10.f_Old.f_Content v10.f_Old.f_Time) (T_tree_File.mk v10.f_New.f_Name v10.f_New.f_Content v10.f_New.f_Time))]) false)]⟩) [3, 7, 8, 9] [22] hN (.cons (mvU (v := .vec 1003 7 0 v3.length) rfl rfl) (.cons (fdB (rs := [(5, .loc 5 0)]) rfl rfl fd_103_0 (by decide) o0) (.cons (ldB (t := .int .i64) (rs := [(14, .loc 5 0)]) [] [.p I6 v10.f_Kind] [.p .str v10.f_Old.f_Name, .p .str v10.f_Old.f_Content, .p I6 v10.f_Old.f_Time, .p .str v10.f_New.f_Name, .p .str v10.f_New.f_Content, .p I6 v10.f_New.f_Time] (v := .p I6 v10.f_Kind) rfl rfl ty_3 o0 rfl rfl rfl rfl (.data (.one _ _))) (.cons (fdB (rs := [(5, .loc 5 0)]) rfl rfl fd_103_1 (by decide) o0) (.cons (ldB (t := .named 3) (rs := [(16, .loc 5 1)]) [.p I6 v10.f_Kind] [.p .str v10.f_Old.f_Name, .p .str v10.f_Old.f_Content, .p I6 v10.f_Old.f_Time] [.p .str v10.f_New.f_Name, .p .str v10.f_New.f_Content, .p I6 v10.f_New.f_Time] (v := .p (.named 3) ((T_tree_File.mk v10.f_Old.f_Name v10.f_Old.f_Content v10.f_Old.f_Time) : T_tree_File)) rfl rfl ty_24 o0 rfl rfl rfl rfl (.data (.named (us := ([.p .str v10.f_Old.f_Name, .p .str v10.f_Old.f_Content, .p I6 v10.f_Old.f_Time] : List (AVal Un))) (.pair (.one _ _) (.pair (.one _ _) (.pair (.one _ _) .unit)))))) (.cons (fdB (rs := [(5, .loc 5 0)]) rfl rfl fd_103_2 (by decide) o0) (.cons (ldB (t := .named 3) (rs := [(18, .loc 5 4)]) [.p I6 v10.f_Kind, .p .str v10.f_Old.f_Name, .p .str v10.f_Old.f_Content, .p I6 v10.f_Old.f_Time] [.p .str v10.f_New.f_Name, .p .str v10.f_New.f_Content, .p I6 v10.f_New.f_Time] [] (v := .p (.named 3) ((T_tree_File.mk v10.f_New.f_Name v10.f_New.f_Content v10.f_New.f_Time) : T_tree_File)) rfl rfl ty_24 o0 rfl rfl rfl rfl (.data (.named (us := ([.p .str v10.f_New.f_Name, .p .str v10.f_New.f_Content, .p I6 v10.f_New.f_Time] : List (AVal Un))) (.pair (.one _ _) (.pair (.one _ _) (.pair (.one _ _) .unit)))))) (.cons (sok_build (U := Un) (t := .named 7) (rs := [(15, .p I6 v10.f_Kind), (17, .p (.named 3) ((T_tree_File.mk v10.f_Old.f_Name v10.f_Old.f_Content v10.f_Old.f_Time) : T_tree_File)), (19, .p (.named 3) ((T_tree_File.mk v10.f_New.f_Name v10.f_New.f_Content v10.f_New.f_Time) : T_tree_File))]) (us0 := [.p I6 (0 : Int), .p .str ([] : List UInt8), .p .str ([] : List UInt8), .p I6 (0 : Int), .p .str ([] : List UInt8), .p .str ([] : List UInt8), .p I6 (0 : Int)]) (us := [.p I6 v10.f_Kind, .p .str v10.f_Old.f_Name, .p .str v10.f_Old.f_Content, .p I6 v10.f_Old.f_Time, .p .str v10.f_New.f_Name, .p .str v10.f_New.f_Content, .p I6 v10.f_New.f_Time]) (v := .p (.named 7) ((T_millwrightref41_Change.mk v10.f_Kind (T_tree_File.mk v10.f_Old.f_Name v10.f_Old.f_Content v10.f_Old.f_Time) (T_tree_File.mk v10.f_New.f_Name v10.f_New.f_Content v10.f_New.f_Time)) : T_millwrightref41_Change)) rfl rfl lays_77 (.data (fun _ _ _ => .int _ _) (.data (fun _ _ _ => rd_str0) (.data (fun _ _ _ => rd_str0) (.data (fun _ _ _ => .int _ _) (.data (fun _ _ _ => rd_str0) (.data (fun _ _ _ => rd_str0) (.data (fun _ _ _ => .int _ _) .nil))))))) (Filled.cons (U := Un) (i := 0) (v := .p I6 v10.f_Kind) [] [.p I6 (0 : Int)] [.p I6 v10.f_Kind] [.p .str ([] : List UInt8), .p .str ([] : List UInt8), .p I6 (0 : Int), .p .str ([] : List UInt8), .p .str ([] : List UInt8), .p I6 (0 : Int)] o0 (.data (.one _ _)) rfl rfl rfl rfl rfl rfl (Filled.cons (U := Un) (i := 1) (v := .p (.named 3) ((T_tree_File.mk v10.f_Old.f_Name v10.f_Old.f_Content v10.f_Old.f_Time) : T_tree_File)) [.p I6 v10.f_Kind] [.p .str ([] : List UInt8), .p .str ([] : List UInt8), .p I6 (0 : Int)] [.p .str v10.f_Old.f_Name, .p .str v10.f_Old.f_Content, .p I6 v10.f_Old.f_Time] [.p .str ([] : List UInt8), .p .str ([] : List UInt8), .p I6 (0 : Int)] o1 (.data (.named (us := ([.p .str v10.f_Old.f_Name, .p .str v10.f_Old.f_Content, .p I6 v10.f_Old.f_Time] : List (AVal Un))) (.pair (.one _ _) (.pair (.one _ _) (.pair (.one _ _) .unit))))) rfl rfl rfl rfl rfl rfl (Filled.cons (U := Un) (i := 2) (v := .p (.named 3) ((T_tree_File.mk v10.f_New.f_Name v10.f_New.f_Content v10.f_New.f_Time) : T_tree_File)) [.p I6 v10.f_Kind, .p .str v10.f_Old.f_Name, .p .str v10.f_Old.f_Content, .p I6 v10.f_Old.f_Time] [.p .str ([] : List UInt8), .p .str ([] : List UInt8), .p I6 (0 : Int)] [.p .str v10.f_New.f_Name, .p .str v10.f_New.f_Content, .p I6 v10.f_New.f_Time] [] (.tmp (.tail _ (.tail _ (.head _)))) (.data (.named (us := ([.p .str v10.f_New.f_Name, .p .str v10.f_New.f_Content, .p I6 v10.f_New.f_Time] : List (AVal Un))) (.pair (.one _ _) (.pair (.one _ _) (.pair (.one _ _) .unit))))) rfl rfl rfl rfl rfl rfl (.nil _)))) rfl (.data (.named (us := ([.p I6 v10.f_Kind, .p .str v10.f_Old.f_Name, .p .str v10.f_Old.f_Content, .p I6 v10.f_Old.f_Time, .p .str v10.f_New.f_Name, .p .str v10.f_New.f_Content, .p I6 v10.f_New.f_Time] : List (AVal Un))) (.pair (.one _ _) (.pair (.named (us := ([.p .str v10.f_Old.f_Name, .p .str v10.f_Old.f_Content, .p I6 v10.f_Old.f_Time] : List (AVal Un))) (.pair (.one _ _) (.pair (.one _ _) (.pair (.one _ _) .unit)))) (.pair (.named (us := ([.p .str v10.f_New.f_Name, .p .str v10.f_New.f_Content, .p I6 v10.f_New.f_Time] : List (AVal Un))) (.pair (.one _ _) (.pair (.one _ _) (.pair (.one _ _) .unit)))) .unit)))))) (.cons (sok_buildSlice (U := Un) (t := .named 7) (rs := [(20, .p (.named 7) ((T_millwrightref41_Change.mk v10.f_Kind (T_tree_File.mk v10.f_Old.f_Name v10.f_Old.f_Content v10.f_Old.f_Time) (T_tree_File.mk v10.f_New.f_Name v10.f_New.f_Content v10.f_New.f_Time)) : T_millwrightref41_Change))]) (ys := [.tmp 20]) (xs := [(T_millwrightref41_Change.mk v10.f_Kind (T_tree_File.mk v10.f_Old.f_Name v10.f_Old.f_Content v10.f_Old.f_Time) (T_tree_File.mk v10.f_New.f_Name v10.f_New.f_Content v10.f_New.f_Time))]) rfl rfl rfl rfl row_66 (.cons o0 .nil) (by decide)) (.cons (sok_append' (U := Un) (t := .named 7) (rs := [(13, .vec 1003 7 0 v3.length), (21, .vec 21 7 0 ([(T_millwrightref41_Change.mk v10.f_Kind (T_tree_File.mk v10.f_Old.f_Name v10.f_Old.f_Content v10.f_Old.f_Time) (T_tree_File.mk v10.f_New.f_Name v10.f_New.f_Content v10.f_New.f_Time))].length))]) (vw := [(21, .row 77 (.named 7) [(T_millwrightref41_Change.mk v10.f_Kind (T_tree_File.mk v10.f_Old.f_Name v10.f_Old.f_Content v10.f_Old.f_Time) (T_tree_File.mk v10.f_New.f_Name v10.f_New.f_Content v10.f_New.f_Time))] true)]) (xs := v3) (ys := [(T_millwrightref41_Change.mk v10.f_Kind (T_tree_File.mk v10.f_Old.f_Name v10.f_Old.f_Content v10.f_Old.f_Time) (T_tree_File.mk v10.f_New.f_Name v10.f_New.f_Content v10.f_New.f_Time))]) (fx := false) rfl rfl rfl row_66 (by decide) o0 o1 (.whole (.head _)) (by simp) g11) (.cons (mvA (v := .vec 22 7 0 ((v3 ++ [(T_millwrightref41_Change.mk v10.f_Kind (T_tree_File.mk v10.f_Old.f_Name v10.f_Old.f_Content v10.f_Old.f_Time) (T_tree_File.mk v10.f_New.f_Name v10.f_New.f_Content v10.f_New.f_Time))]).length)) rfl rfl) .nil))))))))))) (by kernel_rfl) (by kernel_rfl) (by kernel_rfl) (cvR _) ?_
        refine blockQ_normal ?_
        refine tnU ?_
        refine rgU (st1 := ⟨[(3, .vec 22 7 0 ((v3 ++ [(T_millwrightref41_Change.mk v10.f_Kind (T_tree_File.mk v10.f_Old.f_Name v10.f_Old.f_Content v10.f_Old.f_Time) (T_tree_File.mk v10.f_New.f_Name v10.f_New.f_Content v10.f_New.f_Time))]).length)), (7, .p (.list (.named 6)) a0), (8, .p I6 ((a0.length : Int) : Int)), (9, .p I6 ((IntKind.i64.wrap (v4 + 1)) : Int))], [(22, .row 77 (.named 7) (v3 ++ [(T_millwrightref41_Change.mk v10.f_Kind (T_tree_File.mk v10.f_Old.f_Name v10.f_Old.f_Content v10.f_Old.f_Time) (T_tree_File.mk v10.f_New.f_Name v10.f_New.f_Content v10.f_New.f_Time))]) false)]⟩) [3, 7, 8, 9] [22] hN (.cons (sok_arith (U := Un) (rs := [(9, .p I6 v4)]) rfl rfl o0 (.int _ _ _) rfl) (.cons (mvU (v := .p I6 ((IntKind.i64.wrap (v4 + 1)) : Int)) rfl rfl) .nil)) (by kernel_rfl) (by kernel_rfl) (by kernel_rfl) (cvT (Conv.ren (U := Un) (st' := ⟨[(3, .vec 1003 7 0 ((v3 ++ [(T_millwrightref41_Change.mk v10.f_Kind (T_tree_File.mk v10.f_Old.f_Name v10.f_Old.f_Content v10.f_Old.f_Time) (T_tree_File.mk v10.f_New.f_Name v10.f_New.f_Content v10.f_New.f_Time))]).length)), (7, .p (.list (.named 6)) a0), (8, .p I6 ((a0.length : Int) : Int)), (9, .p I6 ((IntKind.i64.wrap (v4 + 1)) : Int))], [(1003, .row 77 (.named 7) (v3 ++ [(T_millwrightref41_Change.mk v10.f_Kind (T_tree_File.mk v10.f_Old.f_Name v10.f_Old.f_Content v10.f_Old.f_Time) (T_tree_File.mk v10.f_New.f_Name v10.f_New.f_Content v10.f_New.f_Time))]) false)]⟩) 22 1003 (by unfold K0; omega) (by kernel_rfl) (by kernel_rfl) (by kernel_rfl)) (cvK (b := ⟨[(3, .vec 1003 7 0 ((v3 ++ [(T_millwrightref41_Change.mk v10.f_Kind (T_tree_File.mk v10.f_Old.f_Name v10.f_Old.f_Content v10.f_Old.f_Time) (T_tree_File.mk v10.f_New.f_Name v10.f_New.f_Content v10.f_New.f_Time))]).length)), (7, .p (.list (.named 6)) a0), (8, .p I6 ((a0.length : Int) : Int)), (9, .p I6 ((IntKind.i64.wrap (v4 + 1)) : Int))], [(1003, .row 77 (.named 7) (v3 ++ [(T_millwrightref41_Change.mk v10.f_Kind (T_tree_File.mk v10.f_Old.f_Name v10.f_Old.f_Content v10.f_Old.f_Time) (T_tree_File.mk v10.f_New.f_Name v10.f_New.f_Content v10.f_New.f_Time))]) false)]⟩) [3, 7, 8, 9] [1003] (by kernel_rfl))) ?_
        refine tnU ?_
        exact ⟨n, Nat.lt_succ_self n, (v3 ++ [(T_millwrightref41_Change.mk v10.f_Kind (T_tree_File.mk v10.f_Old.f_Name v10.f_Old.f_Content v10.f_Old.f_Time) (T_tree_File.mk v10.f_New.f_Name v10.f_New.f_Content v10.f_New.f_Time))]), (IntKind.i64.wrap (v4 + 1)), h, rfl⟩
      · replace h := ite_f hc9 h
        refine WpC.conv (cvK (b := ⟨[(3, .vec 1003 7 0 v3.length)], [(1003, .row 77 (.named 7) v3 false)]⟩) [3] [1003] (by kernel_rfl)) (WpC.exit ?_)
        refine thenQ_exit ?_
        have hq := Option.some.inj h
        subst hq
        refine thenQ_exit ?_
        have h := hout8
        refine blockQ_hit ?_
        refine tnU ?_
        exact ⟨v3, h, rfl⟩
  · rintro _ ⟨v1, h, rfl⟩
    unfold millwrightlaw41_of.j2 at h
    refine WpC.seq ?_
    refine rgU (st1 := ⟨[(2, .vec 1003 7 0 v1.length)], [(1003, .row 77 (.named 7) v1 false)]⟩) [2] [1003] hN (.cons (mvU (v := .vec 1003 7 0 v1.length) rfl rfl) (.cons (mvA (v := .vec 1003 7 0 v1.length) rfl rfl) .nil)) (by kernel_rfl) (by kernel_rfl) (by kernel_rfl) (cvR _) ?_
    refine tnU ?_
    refine WpC.conv (cvT (Conv.freeze (U := Un) 2 1003 77 _ (.named 7) v1 false (.head _) (by first | rfl | (simp only [upd_length, List.length_replicate, List.length_append]; done) | (simp only [upd_length, List.length_replicate, List.length_append] at *; omega) | omega) (.head _) (by first | (simp [Blk.names]; done) | (simp [Blk.names, AVal.namesL, AVal.names]; done) | (simp [Blk.names]; decide))) (cvK (b := ⟨[(2, .p (.list (.named 7)) v1)], []⟩) [2] [] (by kernel_rfl))) (WpC.ret ?_)
    have hq := Option.some.inj h
    subst hq
    exact ends_ret (retV_1 rfl (.head _)) ain_nil

theorem millwrightlaw41_same.ok (O : Out) (hO : GOk O) (k : Nat) (a0 : List T_delta_Change) (a1 : List T_millwrightref41_Change) (out : Bool) (h : millwrightlaw41_same.f k a0 a1 = some out) : COk Un O Tryd.prog 33 { ar := [.p (.list (.named 6)) a0, .p (.list (.named 7)) a1], r := .p .bool out } := by
  refine cok_of_wp Tryd.func33 rfl (k := 27) rfl (Nat.le_of_ble_eq_true rfl) (namesOk_pure rfl rfl rfl rfl) ?_
  intro B hN
  refine WpC.conv (cvK (b := ⟨[(0, .p (.list (.named 6)) a0), (1, .p (.list (.named 7)) a1)], []⟩) [0, 1] [] (by kernel_rfl)) ?_
  unfold millwrightlaw41_same.f at h
  refine WpC.seq ?_
  refine rgU (st1 := ⟨[(0, .p (.list (.named 6)) a0), (1, .p (.list (.named 7)) a1)], []⟩) [0, 1] [] hN (.cons (moU (rs := []) rfl (.inr rfl) (.bool _ _)) .nil) (by kernel_rfl) (by kernel_rfl) (by kernel_rfl) (cvR _) ?_
  refine tnU ?_
  refine WpC.seq ?_
  refine WpC.seq ?_
  refine rgU (st1 := ⟨[(0, .p (.list (.named 6)) a0), (1, .p (.list (.named 7)) a1), (11, .p .bool (((a0.length : Int) != (a1.length : Int)) : Bool))], []⟩) [0, 1, 11] [] hN (.cons (mvU (v := .p (.list (.named 6)) a0) rfl rfl) (.cons (sok_lenL (U := Un) (rs := [(7, .p (.list (.named 6)) a0)]) rfl rfl Tryd.underlying60 o0) (.cons (mvU (v := .p (.list (.named 7)) a1) rfl rfl) (.cons (sok_lenL (U := Un) (rs := [(9, .p (.list (.named 7)) a1)]) rfl rfl Tryd.underlying66 o0) (.cons (cmU (rs := [(8, .p I6 ((a0.length : Int) : Int)), (10, .p I6 ((a1.length : Int) : Int))]) rfl rfl o0 o1 rfl) .nil))))) (by kernel_rfl) (by kernel_rfl) (by kernel_rfl) (cvR _) ?_
  refine tnU ?_
  refine cdU (b := ((a0.length : Int) != (a1.length : Int))) (.tmp (.tail _ (.tail _ (.head _)))) (fun hc1 => ?_) (fun hc1 => ?_)
  · replace h := ite_t hc1 h
    refine WpC.seq ?_
    refine rgU (st1 := ⟨[(4, .p .bool false)], []⟩) [4] [] hN (.cons (moU (rs := []) rfl (.inr rfl) (.bool _ _)) .nil) (by kernel_rfl) (by kernel_rfl) (by kernel_rfl) (cvR _) ?_
    refine tnU ?_
    refine WpC.ret ?_
    refine thenQ_ret ?_
    have hq := Option.some.inj h
    subst hq
    exact ends_ret (retV_1 rfl (.head _)) ain_nil
  · replace h := ite_f hc1 h
    refine WpC.conv (cvK (b := ⟨[(0, .p (.list (.named 6)) a0), (1, .p (.list (.named 7)) a1)], []⟩) [0, 1] [] (by kernel_rfl)) (WpC.skip ?_)
    refine tnU ?_
    refine sqJ (fun st' => millwrightlaw41_same.j2 k = some out ∧ st' = ⟨[], []⟩) ?_ ?_
    · refine WpC.seq ?_
      obtain ⟨v3, hv3, h⟩ := bind_some h
      refine rgU (st1 := ⟨[(1, .p (.list (.named 7)) a1), (13, .p (.list (.named 7)) v3), (14, .p I6 ((v3.length : Int) : Int)), (15, .p I6 (0 : Int))], []⟩) [1, 13, 14, 15] [] hN (.cons (mvU (v := .p (.list (.named 6)) a0) rfl rfl) (.cons (caV (rs := [(12, .p (.list (.named 6)) a0)]) (vw := []) rfl rfl (.func _) hb_35 (millwrightlaw41_of.ok O hO k a0 v3 hv3) (.cons o0 .nil) (.cons (.same _) .nil) (by simp) (.inl rfl)) (.cons (sok_lenL (U := Un) (rs := [(13, .p (.list (.named 7)) v3)]) rfl rfl Tryd.underlying66 o0) (.cons (moU (rs := []) rfl (.inl rfl) (.int _ _ _)) .nil)))) (by kernel_rfl) (by kernel_rfl) (by kernel_rfl) (cvR _) ?_
      refine tnU ?_
      refine WpC.block ?_
      obtain ⟨o6, hlo6, h⟩ := bind_some h
      have hout7 := h
      clear h
      refine WpC.loop (U := Un) (fun n st' => ∃ v4 : Int, millwrightlaw41_same.l5 k a1 v3 n v4 = some o6 ∧ st' = ⟨[(1, .p (.list (.named 7)) a1), (13, .p (.list (.named 7)) v3), (14, .p I6 ((v3.length : Int) : Int)), (15, .p I6 v4)], []⟩) k ⟨0, hlo6, rfl⟩ ?_
      clear hlo6
      rintro (_ | n) _ ⟨v4, h, rfl⟩
      · cases h
      · rw [millwrightlaw41_same.l5] at h
        refine WpC.seq ?_
        refine rgU (st1 := ⟨[(1, .p (.list (.named 7)) a1), (13, .p (.list (.named 7)) v3), (14, .p I6 ((v3.length : Int) : Int)), (15, .p I6 v4), (16, .p .bool ((decide (v4 < (v3.length : Int))) : Bool))], []⟩) [1, 13, 14, 15, 16] [] hN (.cons (cmU (rs := [(15, .p I6 v4), (14, .p I6 ((v3.length : Int) : Int))]) rfl rfl o0 o1 rfl) .nil) (by kernel_rfl) (by kernel_rfl) (by kernel_rfl) (cvR _) ?_
        refine tnU ?_
        refine WpC.seq ?_
        refine cdU (b := (decide (v4 < (v3.length : Int)))) (.tmp (.tail _ (.tail _ (.tail _ (.tail _ (.head _)))))) (fun hc8 => ?_) (fun hc8 => ?_)
        · replace h := ite_t hc8 h
          refine WpC.conv (cvK (b := ⟨[(1, .p (.list (.named 7)) a1), (13, .p (.list (.named 7)) v3), (14, .p I6 ((v3.length : Int) : Int)), (15, .p I6 v4)], []⟩) [1, 13, 14, 15] [] (by kernel_rfl)) (WpC.skip ?_)
          refine tnU ?_
          refine WpC.seq ?_
          refine WpC.block ?_
          refine WpC.seq ?_
          obtain ⟨v9, hv9, h⟩ := bind_some h
          refine rgU (st1 := ⟨[(1, .p (.list (.named 7)) a1), (5, .p I6 v4), (6, .loc 6 0), (13, .p (.list (.named 7)) v3), (14, .p I6 ((v3.length : Int) : Int)), (15, .p I6 v4)], [(6, .box [.p I6 v9.f_Kind, .p .str v9.f_Old.f_Name, .p .str v9.f_Old.f_Content, .p I6 v9.f_Old.f_Time, .p .str v9.f_New.f_Name, .p .str v9.f_New.f_Content, .p I6 v9.f_New.f_Time])]⟩) [1, 5, 6, 13, 14, 15] [6] hN (.cons (mvU (v := .p I6 v4) rfl rfl) (.cons (sok_indexL (U := Un) (rs := [(13, .p (.list (.named 7)) v3), (15, .p I6 v4)]) rfl rfl sl_66 o0 o1 hv9) (.cons (sok_loadP (U := Un) (rs := [(18, .pp (.named 7) v9)]) rfl rfl ty_77 o0) (.cons (sok_allocZ (U := Un) (rs := []) (d := 6) (us := [.p I6 (0 : Int), .p .str ([] : List UInt8), .p .str ([] : List UInt8), .p I6 (0 : Int), .p .str ([] : List UInt8), .p .str ([] : List UInt8), .p I6 (0 : Int)]) (v := (.agg #[.int .i64 0, .string ByteArray.empty, .string ByteArray.empty, .int .i64 0, .string ByteArray.empty, .string ByteArray.empty, .int .i64 0])) rfl rfl rfl (by kernel_rfl) rfl (.data (fun _ _ _ => .int _ _) (.data (fun _ _ _ => rd_str0) (.data (fun _ _ _ => rd_str0) (.data (fun _ _ _ => .int _ _) (.data (fun _ _ _ => rd_str0) (.data (fun _ _ _ => rd_str0) (.data (fun _ _ _ => .int _ _) .nil))))))) (by kernel_rfl)) (.cons (mvA (v := .p I6 v4) rfl rfl) (.cons (sok_storeB (U := Un) (rs := [(6, .loc 6 0), (19, .p (.named 7) v9)]) (v := .p (.named 7) v9) (mid' := [.p I6 v9.f_Kind, .p .str v9.f_Old.f_Name, .p .str v9.f_Old.f_Content, .p I6 v9.f_Old.f_Time, .p .str v9.f_New.f_Name, .p .str v9.f_New.f_Content, .p I6 v9.f_New.f_Time]) [] [.p I6 (0 : Int), .p .str ([] : List UInt8), .p .str ([] : List UInt8), .p I6 (0 : Int), .p .str ([] : List UInt8), .p .str ([] : List UInt8), .p I6 (0 : Int)] [] rfl rfl rfl ty_77 o0 o1 (.data (.named (us := ([.p I6 v9.f_Kind, .p .str v9.f_Old.f_Name, .p .str v9.f_Old.f_Content, .p I6 v9.f_Old.f_Time, .p .str v9.f_New.f_Name, .p .str v9.f_New.f_Content, .p I6 v9.f_New.f_Time] : List (AVal Un))) (.pair (.one _ _) (.pair (.named (us := ([.p .str v9.f_Old.f_Name, .p .str v9.f_Old.f_Content, .p I6 v9.f_Old.f_Time] : List (AVal Un))) (.pair (.one _ _) (.pair (.one _ _) (.pair (.one _ _) .unit)))) (.pair (.named (us := ([.p .str v9.f_New.f_Name, .p .str v9.f_New.f_Content, .p I6 v9.f_New.f_Time] : List (AVal Un))) (.pair (.one _ _) (.pair (.one _ _) (.pair (.one _ _) .unit)))) .unit))))) rfl rfl rfl rfl rfl rfl) .nil)))))) (by kernel_rfl) (by kernel_rfl) (by kernel_rfl) (cvR _) ?_
          refine tnU ?_
          refine WpC.seq ?_
          obtain ⟨v10, hv10, h⟩ := bind_some h
          refine WpC.regA (U := Un) (st1 := ⟨[(1, .p (.list (.named 7)) a1), (13, .p (.list (.named 7)) v3), (14, .p I6 ((v3.length : Int) : Int)), (15, .p I6 v4), (25, .p .bool ((!(v9.f_Kind == v10.f_Kind && ((v9.f_Old.f_Name == v10.f_Old.f_Name && (v9.f_Old.f_Content == v10.f_Old.f_Content && (v9.f_Old.f_Time == v10.f_Old.f_Time && true))) && ((v9.f_New.f_Name == v10.f_New.f_Name && (v9.f_New.f_Content == v10.f_New.f_Content && (v9.f_New.f_Time == v10.f_New.f_Time && true))) && true)))) : Bool))], []⟩) [1, 13, 14, 15, 25] [] [[], [], [], [1, 2], [1, 2, 3], [0, 1, 2, 3, 4]] mixed hN (.cons (ldB (t := .named 7) (rs := [(6, .loc 6 0)]) [] [.p I6 v9.f_Kind, .p .str v9.f_Old.f_Name, .p .str v9.f_Old.f_Content, .p I6 v9.f_Old.f_Time, .p .str v9.f_New.f_Name, .p .str v9.f_New.f_Content, .p I6 v9.f_New.f_Time] [] (v := .p (.named 7) ((T_millwrightref41_Change.mk v9.f_Kind (T_tree_File.mk v9.f_Old.f_Name v9.f_Old.f_Content v9.f_Old.f_Time) (T_tree_File.mk v9.f_New.f_Name v9.f_New.f_Content v9.f_New.f_Time)) : T_millwrightref41_Change)) rfl rfl ty_77 o0 rfl rfl rfl rfl (.data (.named (us := ([.p I6 v9.f_Kind, .p .str v9.f_Old.f_Name, .p .str v9.f_Old.f_Content, .p I6 v9.f_Old.f_Time, .p .str v9.f_New.f_Name, .p .str v9.f_New.f_Content, .p I6 v9.f_New.f_Time] : List (AVal Un))) (.pair (.one _ _) (.pair (.named (us := ([.p .str v9.f_Old.f_Name, .p .str v9.f_Old.f_Content, .p I6 v9.f_Old.f_Time] : List (AVal Un))) (.pair (.one _ _) (.pair (.one _ _) (.pair (.one _ _) .unit)))) (.pair (.named (us := ([.p .str v9.f_New.f_Name, .p .str v9.f_New.f_Content, .p I6 v9.f_New.f_Time] : List (AVal Un))) (.pair (.one _ _) (.pair (.one _ _) (.pair (.one _ _) .unit)))) .unit)))))) (.cons (mvU (v := .p (.list (.named 7)) a1) rfl rfl) (.cons (mvU (v := .p I6 v4) rfl rfl) (.cons (sok_indexL (U := Un) (rs := [(21, .p (.list (.named 7)) a1), (22, .p I6 v4)]) rfl rfl sl_66 o0 o1 hv10) (.cons (sok_loadP (U := Un) (rs := [(23, .pp (.named 7) v10)]) rfl rfl ty_77 o0) (.cons (sok_neG (U := Un) (rs := [(20, .p (.named 7) ((T_millwrightref41_Change.mk v9.f_Kind (T_tree_File.mk v9.f_Old.f_Name v9.f_Old.f_Content v9.f_Old.f_Time) (T_tree_File.mk v9.f_New.f_Name v9.f_New.f_Content v9.f_New.f_Time)) : T_millwrightref41_Change)), (24, .p (.named 7) v10)]) rfl rfl Tryd.underlying77 (by kernel_rfl) (eqg_77 _ Tryd.underlying77) (by kernel_rfl) o0 o1) .nil)))))) (by kernel_rfl) (by kernel_rfl) (by kernel_rfl) (by kernel_rfl) (by kernel_rfl) (cvR _) ?_
          refine tnU ?_
          refine cdU (b := (!(v9.f_Kind == v10.f_Kind && ((v9.f_Old.f_Name == v10.f_Old.f_Name && (v9.f_Old.f_Content == v10.f_Old.f_Content && (v9.f_Old.f_Time == v10.f_Old.f_Time && true))) && ((v9.f_New.f_Name == v10.f_New.f_Name && (v9.f_New.f_Content == v10.f_New.f_Content && (v9.f_New.f_Time == v10.f_New.f_Time && true))) && true))))) (.tmp (.tail _ (.tail _ (.tail _ (.tail _ (.head _)))))) (fun hc11 => ?_) (fun hc11 => ?_)
          · replace h := ite_t hc11 h
            refine WpC.seq ?_
            refine rgU (st1 := ⟨[(4, .p .bool false)], []⟩) [4] [] hN (.cons (moU (rs := []) rfl (.inr rfl) (.bool _ _)) .nil) (by kernel_rfl) (by kernel_rfl) (by kernel_rfl) (cvR _) ?_
            refine tnU ?_
            refine WpC.ret ?_
            refine blockQ_ret ?_
            refine thenQ_ret ?_
            have hq := Option.some.inj h
            subst hq
            refine thenQ_ret ?_
            have h := hout7
            refine blockQ_ret ?_
            refine thenQ_ret ?_
            have hq := Option.some.inj h
            subst hq
            exact ends_ret (retV_1 rfl (.head _)) ain_nil
          · replace h := ite_f hc11 h
            refine WpC.conv (cvK (b := ⟨[(1, .p (.list (.named 7)) a1), (13, .p (.list (.named 7)) v3), (14, .p I6 ((v3.length : Int) : Int)), (15, .p I6 v4)], []⟩) [1, 13, 14, 15] [] (by kernel_rfl)) (WpC.skip ?_)
            refine blockQ_normal ?_
            refine tnU ?_
            refine rgU (st1 := ⟨[(1, .p (.list (.named 7)) a1), (13, .p (.list (.named 7)) v3), (14, .p I6 ((v3.length : Int) : Int)), (15, .p I6 ((IntKind.i64.wrap (v4 + 1)) : Int))], []⟩) [1, 13, 14, 15] [] hN (.cons (sok_arith (U := Un) (rs := [(15, .p I6 v4)]) rfl rfl o0 (.int _ _ _) rfl) (.cons (mvU (v := .p I6 ((IntKind.i64.wrap (v4 + 1)) : Int)) rfl rfl) .nil)) (by kernel_rfl) (by kernel_rfl) (by kernel_rfl) (cvR _) ?_
            refine tnU ?_
            exact ⟨n, Nat.lt_succ_self n, (IntKind.i64.wrap (v4 + 1)), h, rfl⟩
        · replace h := ite_f hc8 h
          refine WpC.conv (cvK (b := ⟨[], []⟩) [] [] (by kernel_rfl)) (WpC.exit ?_)
          refine thenQ_exit ?_
          have hq := Option.some.inj h
          subst hq
          refine thenQ_exit ?_
          have h := hout7
          refine blockQ_hit ?_
          refine tnU ?_
          exact ⟨h, rfl⟩
    · rintro _ ⟨h, rfl⟩
      unfold millwrightlaw41_same.j2 at h
      refine WpC.seq ?_
      refine rgU (st1 := ⟨[(4, .p .bool true)], []⟩) [4] [] hN (.cons (moU (rs := []) rfl (.inr rfl) (.bool _ _)) .nil) (by kernel_rfl) (by kernel_rfl) (by kernel_rfl) (cvR _) ?_
      refine tnU ?_
      refine WpC.ret ?_
      have hq := Option.some.inj h
      subst hq
      exact ends_ret (retV_1 rfl (.head _)) ain_nil

theorem delta_Change_fits_m0.ok (O : Out) (hO : GOk O) (k : Nat) (a0 : T_delta_Change) (a1 : List ((List UInt8) × T_tree_File)) (out : Bool) (h : delta_Change_fits_m0.f k a0 a1 = some out) : COk Un O Tryd.prog 62 { ar := [.p (.named 6) a0, .loc 100000 0], r := .p .bool out, bs := [(100000, .box [.mp 100001]), (100001, .map (.named 3) a1)], bs' := [(100000, .box [.mp 100001]), (100001, .map (.named 3) a1)] } := by
  refine cok_of_wp Tryd.func62 rfl (k := 26) rfl (Nat.le_of_ble_eq_true rfl) (namesOk_of (by kernel_rfl)) ?_
  intro B hN
  refine WpC.conv (cvK (b := ⟨[(0, .p (.named 6) a0), (1, .loc 100000 0)], [(100000, .box [.mp 100001]), (100001, .map (.named 3) a1)]⟩) [0, 1] [100000, 100001] (by kernel_rfl)) ?_
  unfold delta_Change_fits_m0.f at h
  refine WpC.seq ?_
  refine rgU (st1 := ⟨[(1, .loc 100000 0), (2, .loc 2 0)], [(2, .box [.p I6 a0.f_Kind, .p .str a0.f_Old.f_Name, .p .str a0.f_Old.f_Content, .p I6 a0.f_Old.f_Time, .p .str a0.f_New.f_Name, .p .str a0.f_New.f_Content, .p I6 a0.f_New.f_Time]), (100000, .box [.mp 100001]), (100001, .map (.named 3) a1)]⟩) [1, 2] [2, 100000, 100001] hN (.cons (sok_box (U := Un) (rs := [(0, .p (.named 6) a0)]) (d := 2) (us := [.p I6 a0.f_Kind, .p .str a0.f_Old.f_Name, .p .str a0.f_Old.f_Content, .p I6 a0.f_Old.f_Time, .p .str a0.f_New.f_Name, .p .str a0.f_New.f_Content, .p I6 a0.f_New.f_Time]) rfl rfl rfl o0 (.data (.named (us := ([.p I6 a0.f_Kind, .p .str a0.f_Old.f_Name, .p .str a0.f_Old.f_Content, .p I6 a0.f_Old.f_Time, .p .str a0.f_New.f_Name, .p .str a0.f_New.f_Content, .p I6 a0.f_New.f_Time] : List (AVal Un))) (.pair (.one _ _) (.pair (.named (us := ([.p .str a0.f_Old.f_Name, .p .str a0.f_Old.f_Content, .p I6 a0.f_Old.f_Time] : List (AVal Un))) (.pair (.one _ _) (.pair (.one _ _) (.pair (.one _ _) .unit)))) (.pair (.named (us := ([.p .str a0.f_New.f_Name, .p .str a0.f_New.f_Content, .p I6 a0.f_New.f_Time] : List (AVal Un))) (.pair (.one _ _) (.pair (.one _ _) (.pair (.one _ _) .unit)))) .unit))))) rfl (notin_of (by kernel_rfl))) (.cons (moU (rs := []) rfl (.inr rfl) (.bool _ _)) .nil)) (by kernel_rfl) (by kernel_rfl) (by kernel_rfl) (cvR _) ?_
  refine tnU ?_
  refine WpC.seq ?_
  obtain ⟨v1, hv1, h⟩ := bind_some h
  obtain ⟨v2, hv2, h⟩ := bind_some h
  refine rgU (st1 := ⟨[(2, .loc 2 0), (5, .loc 5 0), (6, .p .bool v2.2)], [(2, .box [.p I6 a0.f_Kind, .p .str a0.f_Old.f_Name, .p .str a0.f_Old.f_Content, .p I6 a0.f_Old.f_Time, .p .str a0.f_New.f_Name, .p .str a0.f_New.f_Content, .p I6 a0.f_New.f_Time]), (5, .box [.p .str v2.1.f_Name, .p .str v2.1.f_Content, .p I6 v2.1.f_Time]), (100000, .box [.mp 100001]), (100001, .map (.named 3) a1)]⟩) [2, 5, 6] [2, 5, 100000, 100001] hN (.cons (mvU (v := .loc 100000 0) rfl rfl) (.cons (ldB (t := .named 6) (rs := [(2, .loc 2 0)]) [] [.p I6 a0.f_Kind, .p .str a0.f_Old.f_Name, .p .str a0.f_Old.f_Content, .p I6 a0.f_Old.f_Time, .p .str a0.f_New.f_Name, .p .str a0.f_New.f_Content, .p I6 a0.f_New.f_Time] [] (v := .p (.named 6) ((T_delta_Change.mk a0.f_Kind (T_tree_File.mk a0.f_Old.f_Name a0.f_Old.f_Content a0.f_Old.f_Time) (T_tree_File.mk a0.f_New.f_Name a0.f_New.f_Content a0.f_New.f_Time)) : T_delta_Change)) rfl rfl ty_103 o0 rfl rfl rfl rfl (.data (.named (us := ([.p I6 a0.f_Kind, .p .str a0.f_Old.f_Name, .p .str a0.f_Old.f_Content, .p I6 a0.f_Old.f_Time, .p .str a0.f_New.f_Name, .p .str a0.f_New.f_Content, .p I6 a0.f_New.f_Time] : List (AVal Un))) (.pair (.one _ _) (.pair (.named (us := ([.p .str a0.f_Old.f_Name, .p .str a0.f_Old.f_Content, .p I6 a0.f_Old.f_Time] : List (AVal Un))) (.pair (.one _ _) (.pair (.one _ _) (.pair (.one _ _) .unit)))) (.pair (.named (us := ([.p .str a0.f_New.f_Name, .p .str a0.f_New.f_Content, .p I6 a0.f_New.f_Time] : List (AVal Un))) (.pair (.one _ _) (.pair (.one _ _) (.pair (.one _ _) .unit)))) .unit)))))) (.cons (caV (rs := [(9, .p (.named 6) ((T_delta_Change.mk a0.f_Kind (T_tree_File.mk a0.f_Old.f_Name a0.f_Old.f_Content a0.f_Old.f_Time) (T_tree_File.mk a0.f_New.f_Name a0.f_New.f_Content a0.f_New.f_Time)) : T_delta_Change))]) (vw := []) rfl rfl (.func _) hb_65 (delta_Change_name.ok O hO k (T_delta_Change.mk a0.f_Kind (T_tree_File.mk a0.f_Old.f_Name a0.f_Old.f_Content a0.f_Old.f_Time) (T_tree_File.mk a0.f_New.f_Name a0.f_New.f_Content a0.f_New.f_Time)) v1 hv1) (.cons o0 .nil) (.cons (.same _) .nil) (by simp) (.inl rfl)) (.cons (caV (rs := [(8, .loc 100000 0), (10, .p .str v1)]) (vw := []) rfl rfl (.func _) hb_16 (COk.ren (tree_Tree_Get_m0.ok O hO k a1 v1 v2 hv2) (fun n => if n = 100000 then 100000 else if n = 100001 then 100001 else n) (injOn_of (by kernel_rfl))) (.cons o0 (.cons o1 .nil)) (.cons (.same _) (.cons (.same _) .nil)) (by simp) (.inl rfl)) (.cons (mvU (v := .tup [.p (.named 3) v2.1, .p .bool v2.2]) rfl rfl) (.cons (exU (rs := [(7, .tup [.p (.named 3) v2.1, .p .bool v2.2])]) rfl rfl o0 rfl) (.cons (exU (rs := [(7, .tup [.p (.named 3) v2.1, .p .bool v2.2])]) rfl rfl o0 rfl) (.cons (sok_allocZ (U := Un) (rs := []) (d := 5) (us := [.p .str ([] : List UInt8), .p .str ([] : List UInt8), .p I6 (0 : Int)]) (v := (.agg #[.string ByteArray.empty, .string ByteArray.empty, .int .i64 0])) rfl rfl rfl (by kernel_rfl) rfl (.data (fun _ _ _ => rd_str0) (.data (fun _ _ _ => rd_str0) (.data (fun _ _ _ => .int _ _) .nil))) (by kernel_rfl)) (.cons (sok_storeB (U := Un) (rs := [(5, .loc 5 0), (12, .p (.named 3) v2.1)]) (v := .p (.named 3) v2.1) (mid' := [.p .str v2.1.f_Name, .p .str v2.1.f_Content, .p I6 v2.1.f_Time]) [] [.p .str ([] : List UInt8), .p .str ([] : List UInt8), .p I6 (0 : Int)] [] rfl rfl rfl ty_24 o0 o1 (.data (.named (us := ([.p .str v2.1.f_Name, .p .str v2.1.f_Content, .p I6 v2.1.f_Time] : List (AVal Un))) (.pair (.one _ _) (.pair (.one _ _) (.pair (.one _ _) .unit))))) rfl rfl rfl rfl rfl rfl) (.cons (mvA (v := .p .bool v2.2) rfl rfl) .nil)))))))))) (by kernel_rfl) (by kernel_rfl) (by kernel_rfl) (cvR _) ?_
  refine tnU ?_
  refine WpC.seq ?_
  refine WpC.seq ?_
  refine rgU (st1 := ⟨[(2, .loc 2 0), (5, .loc 5 0), (6, .p .bool v2.2), (16, .p .bool ((a0.f_Kind == 1) : Bool))], [(2, .box [.p I6 a0.f_Kind, .p .str a0.f_Old.f_Name, .p .str a0.f_Old.f_Content, .p I6 a0.f_Old.f_Time, .p .str a0.f_New.f_Name, .p .str a0.f_New.f_Content, .p I6 a0.f_New.f_Time]), (5, .box [.p .str v2.1.f_Name, .p .str v2.1.f_Content, .p I6 v2.1.f_Time]), (100000, .box [.mp 100001]), (100001, .map (.named 3) a1)]⟩) [2, 5, 6, 16] [2, 5, 100000, 100001] hN (.cons (fdB (rs := [(2, .loc 2 0)]) rfl rfl fd_103_0 (by decide) o0) (.cons (ldB (t := .int .i64) (rs := [(14, .loc 2 0)]) [] [.p I6 a0.f_Kind] [.p .str a0.f_Old.f_Name, .p .str a0.f_Old.f_Content, .p I6 a0.f_Old.f_Time, .p .str a0.f_New.f_Name, .p .str a0.f_New.f_Content, .p I6 a0.f_New.f_Time] (v := .p I6 a0.f_Kind) rfl rfl ty_3 o0 rfl rfl rfl rfl (.data (.one _ _))) (.cons (cmU (rs := [(15, .p I6 a0.f_Kind)]) rfl rfl o0 (.int _ _ _) rfl) .nil))) (by kernel_rfl) (by kernel_rfl) (by kernel_rfl) (cvR _) ?_
  refine tnU ?_
  refine cdU (b := (a0.f_Kind == 1)) (.tmp (.tail _ (.tail _ (.tail _ (.head _))))) (fun hc3 => ?_) (fun hc3 => ?_)
  · replace h := ite_t hc3 h
    refine WpC.seq ?_
    refine rgU (st1 := ⟨[(4, .p .bool ((!v2.2) : Bool))], [(100000, .box [.mp 100001]), (100001, .map (.named 3) a1)]⟩) [4] [100000, 100001] hN (.cons (mvU (v := .p .bool v2.2) rfl rfl) (.cons (sok_not (U := Un) (rs := [(17, .p .bool v2.2)]) rfl rfl o0) (.cons (mvA (v := .p .bool ((!v2.2) : Bool)) rfl rfl) .nil))) (by kernel_rfl) (by kernel_rfl) (by kernel_rfl) (cvR _) ?_
    refine tnU ?_
    refine WpC.ret ?_
    refine thenQ_ret ?_
    have hq := Option.some.inj h
    subst hq
    exact ends_ret (retV_1 rfl (.head _)) (ain_cons (.head _) (ain_cons (.tail _ (.head _)) ain_nil))
  · replace h := ite_f hc3 h
    refine WpC.conv (cvK (b := ⟨[(2, .loc 2 0), (5, .loc 5 0), (6, .p .bool v2.2)], [(2, .box [.p I6 a0.f_Kind, .p .str a0.f_Old.f_Name, .p .str a0.f_Old.f_Content, .p I6 a0.f_Old.f_Time, .p .str a0.f_New.f_Name, .p .str a0.f_New.f_Content, .p I6 a0.f_New.f_Time]), (5, .box [.p .str v2.1.f_Name, .p .str v2.1.f_Content, .p I6 v2.1.f_Time]), (100000, .box [.mp 100001]), (100001, .map (.named 3) a1)]⟩) [2, 5, 6] [2, 5, 100000, 100001] (by kernel_rfl)) (WpC.skip ?_)
    refine tnU ?_
    refine WpC.seq ?_
    rcases bool_cases v2.2 with hc4 | hc4
    · replace h := ite_t hc4 h
      refine rgU (st1 := ⟨[(4, .p .bool ((v2.1.f_Name == a0.f_Old.f_Name && (v2.1.f_Content == a0.f_Old.f_Content && (v2.1.f_Time == a0.f_Old.f_Time && true))) : Bool))], [(100000, .box [.mp 100001]), (100001, .map (.named 3) a1)]⟩) [4] [100000, 100001] hN (.cons (mvU (v := .p .bool v2.2) rfl rfl) (.cons (mvU (v := .p .bool v2.2) rfl rfl) (.cons (sok_run rfl rfl hc4 (ldB (t := .named 3) (rs := [(5, .loc 5 0)]) [] [.p .str v2.1.f_Name, .p .str v2.1.f_Content, .p I6 v2.1.f_Time] [] (v := .p (.named 3) ((T_tree_File.mk v2.1.f_Name v2.1.f_Content v2.1.f_Time) : T_tree_File)) rfl rfl ty_24 o0 rfl rfl rfl rfl (.data (.named (us := ([.p .str v2.1.f_Name, .p .str v2.1.f_Content, .p I6 v2.1.f_Time] : List (AVal Un))) (.pair (.one _ _) (.pair (.one _ _) (.pair (.one _ _) .unit))))))) (.cons (sok_run rfl rfl hc4 (fdB (rs := [(2, .loc 2 0)]) rfl rfl fd_103_1 (by decide) o0)) (.cons (sok_run rfl rfl hc4 (ldB (t := .named 3) (rs := [(22, .loc 2 1)]) [.p I6 a0.f_Kind] [.p .str a0.f_Old.f_Name, .p .str a0.f_Old.f_Content, .p I6 a0.f_Old.f_Time] [.p .str a0.f_New.f_Name, .p .str a0.f_New.f_Content, .p I6 a0.f_New.f_Time] (v := .p (.named 3) ((T_tree_File.mk a0.f_Old.f_Name a0.f_Old.f_Content a0.f_Old.f_Time) : T_tree_File)) rfl rfl ty_24 o0 rfl rfl rfl rfl (.data (.named (us := ([.p .str a0.f_Old.f_Name, .p .str a0.f_Old.f_Content, .p I6 a0.f_Old.f_Time] : List (AVal Un))) (.pair (.one _ _) (.pair (.one _ _) (.pair (.one _ _) .unit))))))) (.cons (sok_run rfl rfl hc4 (sok_eqS (U := Un) (rs := [(21, .p (.named 3) ((T_tree_File.mk v2.1.f_Name v2.1.f_Content v2.1.f_Time) : T_tree_File)), (23, .p (.named 3) ((T_tree_File.mk a0.f_Old.f_Name a0.f_Old.f_Content a0.f_Old.f_Time) : T_tree_File))]) rfl rfl Tryd.underlying24 (by kernel_rfl) (eqf_24 _ Tryd.underlying24) (by kernel_rfl) o0 o1)) (.cons (pkT (rs := [(20, .p .bool v2.2), (24, .p .bool ((v2.1.f_Name == a0.f_Old.f_Name && (v2.1.f_Content == a0.f_Old.f_Content && (v2.1.f_Time == a0.f_Old.f_Time && true))) : Bool))]) rfl rfl o0 hc4 o1) (.cons (mvA (v := .p .bool ((v2.1.f_Name == a0.f_Old.f_Name && (v2.1.f_Content == a0.f_Old.f_Content && (v2.1.f_Time == a0.f_Old.f_Time && true))) : Bool)) rfl rfl) .nil)))))))) (by kernel_rfl) (by kernel_rfl) (by kernel_rfl) (cvR _) ?_
      refine tnU ?_
      refine WpC.ret ?_
      have hq := Option.some.inj h
      subst hq
      exact ends_ret (retV_1 rfl (.head _)) (ain_cons (.head _) (ain_cons (.tail _ (.head _)) ain_nil))
    · replace h := ite_f hc4 h
      refine rgU (st1 := ⟨[(4, .p .bool false)], [(100000, .box [.mp 100001]), (100001, .map (.named 3) a1)]⟩) [4] [100000, 100001] hN (.cons (mvU (v := .p .bool v2.2) rfl rfl) (.cons (mvU (v := .p .bool v2.2) rfl rfl) (.cons (skU rfl rfl hc4) (.cons (skU rfl rfl hc4) (.cons (skU rfl rfl hc4) (.cons (skU rfl rfl hc4) (.cons (pkF (rs := [(20, .p .bool v2.2)]) rfl rfl o0 hc4 (.bool _ _)) (.cons (mvA (v := .p .bool false) rfl rfl) .nil)))))))) (by kernel_rfl) (by kernel_rfl) (by kernel_rfl) (cvR _) ?_
      refine tnU ?_
      refine WpC.ret ?_
      have hq := Option.some.inj h
      subst hq
      exact ends_ret (retV_1 rfl (.head _)) (ain_cons (.head _) (ain_cons (.tail _ (.head _)) ain_nil))

theorem tree_Tree_Copy_m0.ok (O : Out) (hO : GOk O) (k : Nat) (a0 : List ((List UInt8) × T_tree_File)) (out : List ((List UInt8) × T_tree_File)) (h : tree_Tree_Copy_m0.f k a0 = some out) : COk Un O Tryd.prog 12 { ar := [.loc 100000 0], r := .loc 60500 0, bs := [(100000, .box [.mp 100001]), (100001, .map (.named 3) a0)], bs' := [(60500, .box [.mp 60501]), (60501, .map (.named 3) out), (100000, .box [.mp 100001]), (100001, .map (.named 3) a0)], nn := [60500, 60501] } := by
  refine cok_of_wp Tryd.func12 rfl (k := 10) rfl (Nat.le_of_ble_eq_true rfl) (namesOk_of (by kernel_rfl)) ?_
  intro B hN
  refine WpC.conv (cvK (b := ⟨[(0, .loc 100000 0)], [(100000, .box [.mp 100001]), (100001, .map (.named 3) a0)]⟩) [0] [100000, 100001] (by kernel_rfl)) ?_
  unfold tree_Tree_Copy_m0.f at h
  refine WpC.seq ?_
  refine rgU (st1 := ⟨[(0, .loc 100000 0)], [(100000, .box [.mp 100001]), (100001, .map (.named 3) a0)]⟩) [0] [100000, 100001] hN (.cons (moU (rs := []) rfl (.inr rfl) (.lit _ _ rfl)) .nil) (by kernel_rfl) (by kernel_rfl) (by kernel_rfl) (cvR _) ?_
  refine tnU ?_
  refine WpC.seq ?_
  obtain ⟨v1, hv1, h⟩ := bind_some h
  refine rgU (st1 := ⟨[(2, .loc 9 0)], [(9, .box [.mp 10001]), (10001, .map (.named 3) v1), (100000, .box [.mp 100001]), (100001, .map (.named 3) a0)]⟩) [2] [9, 10001, 100000, 100001] hN (.cons (mvU (v := .loc 100000 0) rfl rfl) (.cons (nlU (rs := [(3, .loc 100000 0)]) rfl rfl o0 rfl) (.cons (fdB (rs := [(4, .loc 100000 0)]) rfl rfl fd_89_0 (by decide) o0) (.cons (ldB (t := .bool) (rs := [(5, .loc 100000 0)]) [] [.mp 100001] [] (v := .mp 100001) rfl rfl ty1_86 o0 rfl rfl rfl rfl (.hand rfl rfl)) (.cons (caV (rs := [(6, .mp 100001)]) (vw := []) rfl rfl (.func _) hb_50 (COk.ren (pMapClone.ok (U := Un) (t := .named 3) O hO k a0 v1 hv1) (fun n => if n = 60500 then 10001 else if n = 100000 then 100001 else n) (injOn_of (by kernel_rfl))) (.cons o0 .nil) (.cons (.same _) .nil) (by simp) (.inl rfl)) (.cons (sok_build (U := Un) (t := .arr 1 .bool) (rs := [(7, .mp 10001)]) (us0 := [.lit (.map none)]) (us := [.mp 10001]) (v := .agg [.mp 10001]) rfl rfl lays_89 (.lit rfl .nil) (Filled.cons (U := Un) (i := 0) (v := .mp 10001) [] [.lit (.map none)] [.mp 10001] [] o0 (.hand rfl) rfl rfl rfl rfl rfl rfl (.nil _)) rfl (.agg rfl)) (.cons (sok_box (U := Un) (rs := [(8, .agg [.mp 10001])]) (d := 9) (us := [.mp 10001]) rfl rfl rfl o0 .agg rfl (notin_of (by kernel_rfl))) (.cons (mvA (v := .loc 9 0) rfl rfl) .nil)))))))) (by kernel_rfl) (by kernel_rfl) (by kernel_rfl) (cvR _) ?_
  refine tnU ?_
  refine WpC.conv (cvT (Conv.ren (U := Un) (st' := ⟨[(2, .loc 9 0)], [(9, .box [.mp 60501]), (60501, .map (.named 3) v1), (100000, .box [.mp 100001]), (100001, .map (.named 3) a0)]⟩) 10001 60501 (by unfold K0; omega) (by kernel_rfl) (by kernel_rfl) (by kernel_rfl)) (cvT (cvK (b := ⟨[(2, .loc 9 0)], [(9, .box [.mp 60501]), (60501, .map (.named 3) v1), (100000, .box [.mp 100001]), (100001, .map (.named 3) a0)]⟩) [2] [9, 60501, 100000, 100001] (by kernel_rfl)) (cvT (Conv.ren (U := Un) (st' := ⟨[(2, .loc 60500 0)], [(60500, .box [.mp 60501]), (60501, .map (.named 3) v1), (100000, .box [.mp 100001]), (100001, .map (.named 3) a0)]⟩) 9 60500 (by unfold K0; omega) (by kernel_rfl) (by kernel_rfl) (by kernel_rfl)) (cvK (b := ⟨[(2, .loc 60500 0)], [(60500, .box [.mp 60501]), (60501, .map (.named 3) v1), (100000, .box [.mp 100001]), (100001, .map (.named 3) a0)]⟩) [2] [60500, 60501, 100000, 100001] (by kernel_rfl))))) (WpC.ret ?_)
  have hq := Option.some.inj h
  subst hq
  exact ends_ret (retV_1 rfl (.head _)) (ain_cons (.head _) (ain_cons (.tail _ (.head _)) (ain_cons (.tail _ (.tail _ (.head _))) (ain_cons (.tail _ (.tail _ (.tail _ (.head _)))) ain_nil))))

theorem tree_Tree_Remove_m0.ok (O : Out) (hO : GOk O) (k : Nat) (a0 : List ((List UInt8) × T_tree_File)) (a1 : List UInt8) (out : Nat × (List ((List UInt8) × T_tree_File))) (h : tree_Tree_Remove_m0.f k a0 a1 = some out) : COk Un O Tryd.prog 15 { ar := [.loc 100000 0, .p .str a1], r := .p .err out.1, bs := [(100000, .box [.mp 100001]), (100001, .map (.named 3) a0)], bs' := [(100000, .box [.mp 100001]), (100001, .map (.named 3) out.2)] } := by
  refine cok_of_wp Tryd.func15 rfl (k := 24) rfl (Nat.le_of_ble_eq_true rfl) (namesOk_of (by kernel_rfl)) ?_
  intro B hN
  refine WpC.conv (cvK (b := ⟨[(0, .loc 100000 0), (1, .p .str a1)], [(100000, .box [.mp 100001]), (100001, .map (.named 3) a0)]⟩) [0, 1] [100000, 100001] (by kernel_rfl)) ?_
  unfold tree_Tree_Remove_m0.f at h
  refine WpC.seq ?_
  refine rgU (st1 := ⟨[(0, .loc 100000 0), (1, .p .str a1)], [(100000, .box [.mp 100001]), (100001, .map (.named 3) a0)]⟩) [0, 1] [100000, 100001] hN (.cons (moU (rs := []) rfl (.inr rfl) (.lit _ _ rfl)) .nil) (by kernel_rfl) (by kernel_rfl) (by kernel_rfl) (cvR _) ?_
  refine tnU ?_
  refine WpC.seq ?_
  refine WpC.seq ?_
  refine rgU (st1 := ⟨[(0, .loc 100000 0), (1, .p .str a1), (6, .p .bool ((mget a1 a0).isSome : Bool))], [(100000, .box [.mp 100001]), (100001, .map (.named 3) a0)]⟩) [0, 1, 6] [100000, 100001] hN (.cons (mvU (v := .loc 100000 0) rfl rfl) (.cons (nlU (rs := [(8, .loc 100000 0)]) rfl rfl o0 rfl) (.cons (fdB (rs := [(9, .loc 100000 0)]) rfl rfl fd_89_0 (by decide) o0) (.cons (ldB (t := .bool) (rs := [(10, .loc 100000 0)]) [] [.mp 100001] [] (v := .mp 100001) rfl rfl ty1_86 o0 rfl rfl rfl rfl (.hand rfl rfl)) (.cons (mvU (v := .p .str a1) rfl rfl) (.cons (sok_lookup2 (U := Un) (t := .named 3) (kvs := a0) (rs := [(11, .mp 100001), (12, .p .str a1)]) rfl rfl map_86 zv_24 o0 o1) (.cons (mvU (v := .tup [.p (.named 3) (((mget a1 a0).getD (T_tree_File.mk [] [] 0)) : T_tree_File), .p .bool ((mget a1 a0).isSome : Bool)]) rfl rfl) (.cons (exU (rs := [(7, .tup [.p (.named 3) (((mget a1 a0).getD (T_tree_File.mk [] [] 0)) : T_tree_File), .p .bool ((mget a1 a0).isSome : Bool)])]) rfl rfl o0 rfl) (.cons (exU (rs := [(7, .tup [.p (.named 3) (((mget a1 a0).getD (T_tree_File.mk [] [] 0)) : T_tree_File), .p .bool ((mget a1 a0).isSome : Bool)])]) rfl rfl o0 rfl) (.cons (sok_allocZ (U := Un) (rs := []) (d := 5) (us := [.p .str ([] : List UInt8), .p .str ([] : List UInt8), .p I6 (0 : Int)]) (v := (.agg #[.string ByteArray.empty, .string ByteArray.empty, .int .i64 0])) rfl rfl rfl (by kernel_rfl) rfl (.data (fun _ _ _ => rd_str0) (.data (fun _ _ _ => rd_str0) (.data (fun _ _ _ => .int _ _) .nil))) (by kernel_rfl)) (.cons (sok_storeB (U := Un) (rs := [(5, .loc 5 0), (14, .p (.named 3) (((mget a1 a0).getD (T_tree_File.mk [] [] 0)) : T_tree_File))]) (v := .p (.named 3) (((mget a1 a0).getD (T_tree_File.mk [] [] 0)) : T_tree_File)) (mid' := [.p .str (((mget a1 a0).getD (T_tree_File.mk [] [] 0)).f_Name : List UInt8), .p .str (((mget a1 a0).getD (T_tree_File.mk [] [] 0)).f_Content : List UInt8), .p I6 (((mget a1 a0).getD (T_tree_File.mk [] [] 0)).f_Time : Int)]) [] [.p .str ([] : List UInt8), .p .str ([] : List UInt8), .p I6 (0 : Int)] [] rfl rfl rfl ty_24 o0 o1 (.data (.named (us := ([.p .str (((mget a1 a0).getD (T_tree_File.mk [] [] 0)).f_Name : List UInt8), .p .str (((mget a1 a0).getD (T_tree_File.mk [] [] 0)).f_Content : List UInt8), .p I6 (((mget a1 a0).getD (T_tree_File.mk [] [] 0)).f_Time : Int)] : List (AVal Un))) (.pair (.one _ _) (.pair (.one _ _) (.pair (.one _ _) .unit))))) rfl rfl rfl rfl rfl rfl) (.cons (mvA (v := .p .bool ((mget a1 a0).isSome : Bool)) rfl rfl) .nil)))))))))))) (by kernel_rfl) (by kernel_rfl) (by kernel_rfl) (cvR _) ?_
  refine tnU ?_
  refine WpC.seq ?_
  refine rgU (st1 := ⟨[(0, .loc 100000 0), (1, .p .str a1), (17, .p .bool ((!((mget a1 a0).isSome)) : Bool))], [(100000, .box [.mp 100001]), (100001, .map (.named 3) a0)]⟩) [0, 1, 17] [100000, 100001] hN (.cons (mvU (v := .p .bool ((mget a1 a0).isSome : Bool)) rfl rfl) (.cons (sok_not (U := Un) (rs := [(16, .p .bool ((mget a1 a0).isSome : Bool))]) rfl rfl o0) .nil)) (by kernel_rfl) (by kernel_rfl) (by kernel_rfl) (cvR _) ?_
  refine tnU ?_
  refine cdU (b := (!((mget a1 a0).isSome))) (.tmp (.tail _ (.tail _ (.head _)))) (fun hc1 => ?_) (fun hc1 => ?_)
  · replace h := ite_t hc1 h
    refine WpC.seq ?_
    refine rgU (st1 := ⟨[(4, .p .err (8 : Nat))], [(100000, .box [.mp 100001]), (100001, .map (.named 3) a0)]⟩) [4] [100000, 100001] hN (.cons (sok_loadG (U := Un) (t := .err) (rs := []) rfl rfl ty_31 rfl rfl (hO.var 7 1 rfl) (fun S w => .err 7)) (.cons (mvA (v := .p .err (8 : Nat)) rfl rfl) .nil)) (by kernel_rfl) (by kernel_rfl) (by kernel_rfl) (cvR _) ?_
    refine tnU ?_
    refine WpC.ret ?_
    refine thenQ_ret ?_
    have hq := Option.some.inj h
    subst hq
    exact ends_ret (retV_1 rfl (.head _)) (ain_cons (.head _) (ain_cons (.tail _ (.head _)) ain_nil))
  · replace h := ite_f hc1 h
    refine WpC.conv (cvK (b := ⟨[(0, .loc 100000 0), (1, .p .str a1)], [(100000, .box [.mp 100001]), (100001, .map (.named 3) a0)]⟩) [0, 1] [100000, 100001] (by kernel_rfl)) (WpC.skip ?_)
    refine tnU ?_
    refine WpC.seq ?_
    refine rgU (st1 := ⟨[], [(100000, .box [.mp 100001]), (100001, .map (.named 3) ((mdel a1 a0) : List ((List UInt8) × T_tree_File)))]⟩) [] [100000, 100001] hN (.cons (mvU (v := .loc 100000 0) rfl rfl) (.cons (nlU (rs := [(19, .loc 100000 0)]) rfl rfl o0 rfl) (.cons (fdB (rs := [(20, .loc 100000 0)]) rfl rfl fd_89_0 (by decide) o0) (.cons (ldB (t := .bool) (rs := [(21, .loc 100000 0)]) [] [.mp 100001] [] (v := .mp 100001) rfl rfl ty1_86 o0 rfl rfl rfl rfl (.hand rfl rfl)) (.cons (mvU (v := .p .str a1) rfl rfl) (.cons (sok_delete (U := Un) (t := .named 3) (kvs := a0) (rs := [(22, .mp 100001), (23, .p .str a1)]) rfl rfl map_86 o0 o1) .nil)))))) (by kernel_rfl) (by kernel_rfl) (by kernel_rfl) (cvR _) ?_
    refine tnU ?_
    refine WpC.seq ?_
    refine rgU (st1 := ⟨[(4, .lit .nilIface)], [(100000, .box [.mp 100001]), (100001, .map (.named 3) ((mdel a1 a0) : List ((List UInt8) × T_tree_File)))]⟩) [4] [100000, 100001] hN (.cons (moU (rs := []) rfl (.inr rfl) (.lit _ _ rfl)) .nil) (by kernel_rfl) (by kernel_rfl) (by kernel_rfl) (cvR _) ?_
    refine tnU ?_
    refine WpC.conv (cvT (Conv.nilE (U := Un) 4 (.head _)) (cvK (b := ⟨[(4, .p .err (0 : Nat))], [(100000, .box [.mp 100001]), (100001, .map (.named 3) ((mdel a1 a0) : List ((List UInt8) × T_tree_File)))]⟩) [4] [100000, 100001] (by kernel_rfl))) (WpC.ret ?_)
    have hq := Option.some.inj h
    subst hq
    exact ends_ret (retV_1 rfl (.head _)) (ain_cons (.head _) (ain_cons (.tail _ (.head _)) ain_nil))

theorem delta_do_m0.ok (O : Out) (hO : GOk O) (k : Nat) (a0 : List ((List UInt8) × T_tree_File)) (a1 : List T_delta_Change) (out : Nat × (List ((List UInt8) × T_tree_File))) (h : delta_do_m0.f k a0 a1 = some out) : COk Un O Tryd.prog 63 { ar := [.loc 100000 0, .p (.list (.named 6)) a1], r := .p .err out.1, bs := [(100000, .box [.mp 100001]), (100001, .map (.named 3) a0)], bs' := [(100000, .box [.mp 100001]), (100001, .map (.named 3) out.2)] } := by
  refine cok_of_wp Tryd.func63 rfl (k := 53) rfl (Nat.le_of_ble_eq_true rfl) (namesOk_of (by kernel_rfl)) ?_
  intro B hN
  refine WpC.conv (cvK (b := ⟨[(0, .loc 100000 0), (1, .p (.list (.named 6)) a1)], [(100000, .box [.mp 100001]), (100001, .map (.named 3) a0)]⟩) [0, 1] [100000, 100001] (by kernel_rfl)) ?_
  unfold delta_do_m0.f at h
  refine WpC.seq ?_
  refine rgU (st1 := ⟨[(0, .loc 100000 0), (1, .p (.list (.named 6)) a1)], [(100000, .box [.mp 100001]), (100001, .map (.named 3) a0)]⟩) [0, 1] [100000, 100001] hN (.cons (moU (rs := []) rfl (.inr rfl) (.lit _ _ rfl)) .nil) (by kernel_rfl) (by kernel_rfl) (by kernel_rfl) (cvR _) ?_
  refine tnU ?_
  refine sqJ (fun st' => ∃ v1 : List ((List UInt8) × T_tree_File), delta_do_m0.j19 k a1 v1 = some out ∧ st' = ⟨[(0, .loc 100000 0), (1, .p (.list (.named 6)) a1)], [(100000, .box [.mp 100001]), (100001, .map (.named 3) v1)]⟩) ?_ ?_
  · refine WpC.seq ?_
    refine rgU (st1 := ⟨[(0, .loc 100000 0), (1, .p (.list (.named 6)) a1), (11, .p (.list (.named 6)) a1), (12, .p I6 ((a1.length : Int) : Int)), (13, .p I6 (0 : Int))], [(100000, .box [.mp 100001]), (100001, .map (.named 3) a0)]⟩) [0, 1, 11, 12, 13] [100000, 100001] hN (.cons (mvU (v := .p (.list (.named 6)) a1) rfl rfl) (.cons (sok_lenL (U := Un) (rs := [(11, .p (.list (.named 6)) a1)]) rfl rfl Tryd.underlying60 o0) (.cons (moU (rs := []) rfl (.inl rfl) (.int _ _ _)) .nil))) (by kernel_rfl) (by kernel_rfl) (by kernel_rfl) (cvR _) ?_
    refine tnU ?_
    refine WpC.block ?_
    obtain ⟨o24, hlo24, h⟩ := bind_some h
    have hout25 := h
    clear h
    refine WpC.loop (U := Un) (fun n st' => ∃ v20 : List ((List UInt8) × T_tree_File), ∃ v21 : Int, delta_do_m0.l22 k a1 n v20 v21 = some o24 ∧ st' = ⟨[(0, .loc 100000 0), (1, .p (.list (.named 6)) a1), (11, .p (.list (.named 6)) a1), (12, .p I6 ((a1.length : Int) : Int)), (13, .p I6 v21)], [(100000, .box [.mp 100001]), (100001, .map (.named 3) v20)]⟩) k ⟨a0, 0, hlo24, rfl⟩ ?_
    clear hlo24
    rintro (_ | n) _ ⟨v20, v21, h, rfl⟩
    · cases h
    · rw [delta_do_m0.l22] at h
      refine WpC.seq ?_
      refine rgU (st1 := ⟨[(0, .loc 100000 0), (1, .p (.list (.named 6)) a1), (11, .p (.list (.named 6)) a1), (12, .p I6 ((a1.length : Int) : Int)), (13, .p I6 v21), (14, .p .bool ((decide (v21 < (a1.length : Int))) : Bool))], [(100000, .box [.mp 100001]), (100001, .map (.named 3) v20)]⟩) [0, 1, 11, 12, 13, 14] [100000, 100001] hN (.cons (cmU (rs := [(13, .p I6 v21), (12, .p I6 ((a1.length : Int) : Int))]) rfl rfl o0 o1 rfl) .nil) (by kernel_rfl) (by kernel_rfl) (by kernel_rfl) (cvR _) ?_
      refine tnU ?_
      refine WpC.seq ?_
      refine cdU (b := (decide (v21 < (a1.length : Int)))) (.tmp (.tail _ (.tail _ (.tail _ (.tail _ (.tail _ (.head _))))))) (fun hc26 => ?_) (fun hc26 => ?_)
      · replace h := ite_t hc26 h
        refine WpC.conv (cvK (b := ⟨[(0, .loc 100000 0), (1, .p (.list (.named 6)) a1), (11, .p (.list (.named 6)) a1), (12, .p I6 ((a1.length : Int) : Int)), (13, .p I6 v21)], [(100000, .box [.mp 100001]), (100001, .map (.named 3) v20)]⟩) [0, 1, 11, 12, 13] [100000, 100001] (by kernel_rfl)) (WpC.skip ?_)
        refine tnU ?_
        refine sqJ (fun st' => ∃ v27 : List ((List UInt8) × T_tree_File), delta_do_m0.j28 k (delta_do_m0.l22 k a1 n) a1 v21 v27 = some o24 ∧ st' = ⟨[(0, .loc 100000 0), (1, .p (.list (.named 6)) a1), (11, .p (.list (.named 6)) a1), (12, .p I6 ((a1.length : Int) : Int)), (13, .p I6 v21)], [(100000, .box [.mp 100001]), (100001, .map (.named 3) v27)]⟩) ?_ ?_
        · refine WpC.block ?_
          refine WpC.seq ?_
          obtain ⟨v29, hv29, h⟩ := bind_some h
          refine rgU (st1 := ⟨[(0, .loc 100000 0), (1, .p (.list (.named 6)) a1), (6, .loc 6 0), (11, .p (.list (.named 6)) a1), (12, .p I6 ((a1.length : Int) : Int)), (13, .p I6 v21)], [(6, .box [.p I6 v29.f_Kind, .p .str v29.f_Old.f_Name, .p .str v29.f_Old.f_Content, .p I6 v29.f_Old.f_Time, .p .str v29.f_New.f_Name, .p .str v29.f_New.f_Content, .p I6 v29.f_New.f_Time]), (100000, .box [.mp 100001]), (100001, .map (.named 3) v20)]⟩) [0, 1, 6, 11, 12, 13] [6, 100000, 100001] hN (.cons (sok_indexL (U := Un) (rs := [(11, .p (.list (.named 6)) a1), (13, .p I6 v21)]) rfl rfl sl_60 o0 o1 hv29) (.cons (sok_loadP (U := Un) (rs := [(15, .pp (.named 6) v29)]) rfl rfl ty_103 o0) (.cons (sok_allocZ (U := Un) (rs := []) (d := 6) (us := [.p I6 (0 : Int), .p .str ([] : List UInt8), .p .str ([] : List UInt8), .p I6 (0 : Int), .p .str ([] : List UInt8), .p .str ([] : List UInt8), .p I6 (0 : Int)]) (v := (.agg #[.int .i64 0, .string ByteArray.empty, .string ByteArray.empty, .int .i64 0, .string ByteArray.empty, .string ByteArray.empty, .int .i64 0])) rfl rfl rfl (by kernel_rfl) rfl (.data (fun _ _ _ => .int _ _) (.data (fun _ _ _ => rd_str0) (.data (fun _ _ _ => rd_str0) (.data (fun _ _ _ => .int _ _) (.data (fun _ _ _ => rd_str0) (.data (fun _ _ _ => rd_str0) (.data (fun _ _ _ => .int _ _) .nil))))))) (by kernel_rfl)) (.cons (sok_storeB (U := Un) (rs := [(6, .loc 6 0), (16, .p (.named 6) v29)]) (v := .p (.named 6) v29) (mid' := [.p I6 v29.f_Kind, .p .str v29.f_Old.f_Name, .p .str v29.f_Old.f_Content, .p I6 v29.f_Old.f_Time, .p .str v29.f_New.f_Name, .p .str v29.f_New.f_Content, .p I6 v29.f_New.f_Time]) [] [.p I6 (0 : Int), .p .str ([] : List UInt8), .p .str ([] : List UInt8), .p I6 (0 : Int), .p .str ([] : List UInt8), .p .str ([] : List UInt8), .p I6 (0 : Int)] [] rfl rfl rfl ty_103 o0 o1 (.data (.named (us := ([.p I6 v29.f_Kind, .p .str v29.f_Old.f_Name, .p .str v29.f_Old.f_Content, .p I6 v29.f_Old.f_Time, .p .str v29.f_New.f_Name, .p .str v29.f_New.f_Content, .p I6 v29.f_New.f_Time] : List (AVal Un))) (.pair (.one _ _) (.pair (.named (us := ([.p .str v29.f_Old.f_Name, .p .str v29.f_Old.f_Content, .p I6 v29.f_Old.f_Time] : List (AVal Un))) (.pair (.one _ _) (.pair (.one _ _) (.pair (.one _ _) .unit)))) (.pair (.named (us := ([.p .str v29.f_New.f_Name, .p .str v29.f_New.f_Content, .p I6 v29.f_New.f_Time] : List (AVal Un))) (.pair (.one _ _) (.pair (.one _ _) (.pair (.one _ _) .unit)))) .unit))))) rfl rfl rfl rfl rfl rfl) .nil)))) (by kernel_rfl) (by kernel_rfl) (by kernel_rfl) (cvR _) ?_
          refine tnU ?_
          refine WpC.seq ?_
          refine rgU (st1 := ⟨[(0, .loc 100000 0), (1, .p (.list (.named 6)) a1), (6, .loc 6 0), (11, .p (.list (.named 6)) a1), (12, .p I6 ((a1.length : Int) : Int)), (13, .p I6 v21), (19, .p .bool ((v29.f_Kind == 3) : Bool))], [(6, .box [.p I6 v29.f_Kind, .p .str v29.f_Old.f_Name, .p .str v29.f_Old.f_Content, .p I6 v29.f_Old.f_Time, .p .str v29.f_New.f_Name, .p .str v29.f_New.f_Content, .p I6 v29.f_New.f_Time]), (100000, .box [.mp 100001]), (100001, .map (.named 3) v20)]⟩) [0, 1, 6, 11, 12, 13, 19] [6, 100000, 100001] hN (.cons (fdB (rs := [(6, .loc 6 0)]) rfl rfl fd_103_0 (by decide) o0) (.cons (ldB (t := .int .i64) (rs := [(17, .loc 6 0)]) [] [.p I6 v29.f_Kind] [.p .str v29.f_Old.f_Name, .p .str v29.f_Old.f_Content, .p I6 v29.f_Old.f_Time, .p .str v29.f_New.f_Name, .p .str v29.f_New.f_Content, .p I6 v29.f_New.f_Time] (v := .p I6 v29.f_Kind) rfl rfl ty_3 o0 rfl rfl rfl rfl (.data (.one _ _))) (.cons (cmU (rs := [(18, .p I6 v29.f_Kind)]) rfl rfl o0 (.int _ _ _) rfl) .nil))) (by kernel_rfl) (by kernel_rfl) (by kernel_rfl) (cvR _) ?_
          refine tnU ?_
          refine cdU (b := (v29.f_Kind == 3)) (.tmp (.tail _ (.tail _ (.tail _ (.tail _ (.tail _ (.tail _ (.head _)))))))) (fun hc30 => ?_) (fun hc30 => ?_)
          · replace h := ite_t hc30 h
            refine WpC.seq ?_
            obtain ⟨v31, hv31, h⟩ := bind_some h
            refine rgU (st1 := ⟨[(0, .loc 100000 0), (1, .p (.list (.named 6)) a1), (7, .p .err v31.1), (11, .p (.list (.named 6)) a1), (12, .p I6 ((a1.length : Int) : Int)), (13, .p I6 v21)], [(100000, .box [.mp 100001]), (100001, .map (.named 3) v31.2)]⟩) [0, 1, 7, 11, 12, 13] [100000, 100001] hN (.cons (mvU (v := .loc 100000 0) rfl rfl) (.cons (fdB (rs := [(6, .loc 6 0)]) rfl rfl fd_103_1 (by decide) o0) (.cons (fdB (rs := [(21, .loc 6 1)]) rfl rfl fd_24_0 (by decide) o0) (.cons (ldB (t := .str) (rs := [(22, .loc 6 1)]) [.p I6 v29.f_Kind] [.p .str v29.f_Old.f_Name] [.p .str v29.f_Old.f_Content, .p I6 v29.f_Old.f_Time, .p .str v29.f_New.f_Name, .p .str v29.f_New.f_Content, .p I6 v29.f_New.f_Time] (v := .p .str v29.f_Old.f_Name) rfl rfl ty_9 o0 rfl rfl rfl rfl (.data (.one _ _))) (.cons (caV (rs := [(20, .loc 100000 0), (23, .p .str v29.f_Old.f_Name)]) (vw := []) rfl rfl (.func _) hb_15 (COk.ren (tree_Tree_Remove_m0.ok O hO k v20 v29.f_Old.f_Name v31 hv31) (fun n => if n = 100000 then 100000 else if n = 100001 then 100001 else n) (injOn_of (by kernel_rfl))) (.cons o0 (.cons o1 .nil)) (.cons (.same _) (.cons (.same _) .nil)) (by simp) (.inl rfl)) (.cons (mvA (v := .p .err v31.1) rfl rfl) .nil)))))) (by kernel_rfl) (by kernel_rfl) (by kernel_rfl) (cvR _) ?_
            refine tnU ?_
            refine WpC.seq ?_
            refine rgU (st1 := ⟨[(0, .loc 100000 0), (1, .p (.list (.named 6)) a1), (7, .p .err v31.1), (11, .p (.list (.named 6)) a1), (12, .p I6 ((a1.length : Int) : Int)), (13, .p I6 v21), (26, .p .bool ((!(v31.1 == 0)) : Bool))], [(100000, .box [.mp 100001]), (100001, .map (.named 3) v31.2)]⟩) [0, 1, 7, 11, 12, 13, 26] [100000, 100001] hN (.cons (mvU (v := .p .err v31.1) rfl rfl) (.cons (sok_errNil (U := Un) (rs := [(25, .p .err v31.1)]) rfl rfl Tryd.underlying31 o0 rfl) .nil)) (by kernel_rfl) (by kernel_rfl) (by kernel_rfl) (cvR _) ?_
            refine tnU ?_
            refine cdU (b := (!(v31.1 == 0))) (.tmp (.tail _ (.tail _ (.tail _ (.tail _ (.tail _ (.tail _ (.head _)))))))) (fun hc32 => ?_) (fun hc32 => ?_)
            · replace h := ite_t hc32 h
              refine WpC.seq ?_
              refine rgU (st1 := ⟨[(4, .p .err v31.1)], [(100000, .box [.mp 100001]), (100001, .map (.named 3) v31.2)]⟩) [4] [100000, 100001] hN (.cons (mvU (v := .p .err v31.1) rfl rfl) (.cons (mvA (v := .p .err v31.1) rfl rfl) .nil)) (by kernel_rfl) (by kernel_rfl) (by kernel_rfl) (cvR _) ?_
              refine tnU ?_
              refine WpC.ret ?_
              refine blockQ_ret ?_
              refine thenQ_ret ?_
              have hq := Option.some.inj h
              subst hq
              refine thenQ_ret ?_
              have h := hout25
              refine blockQ_ret ?_
              refine thenQ_ret ?_
              have hq := Option.some.inj h
              subst hq
              exact ends_ret (retV_1 rfl (.head _)) (ain_cons (.head _) (ain_cons (.tail _ (.head _)) ain_nil))
            · replace h := ite_f hc32 h
              refine WpC.conv (cvK (b := ⟨[(0, .loc 100000 0), (1, .p (.list (.named 6)) a1), (11, .p (.list (.named 6)) a1), (12, .p I6 ((a1.length : Int) : Int)), (13, .p I6 v21)], [(100000, .box [.mp 100001]), (100001, .map (.named 3) v31.2)]⟩) [0, 1, 11, 12, 13] [100000, 100001] (by kernel_rfl)) (WpC.skip ?_)
              refine blockQ_normal ?_
              refine tnU ?_
              exact ⟨v31.2, h, rfl⟩
          · replace h := ite_f hc30 h
            refine WpC.conv (cvK (b := ⟨[(0, .loc 100000 0), (1, .p (.list (.named 6)) a1), (11, .p (.list (.named 6)) a1), (12, .p I6 ((a1.length : Int) : Int)), (13, .p I6 v21)], [(100000, .box [.mp 100001]), (100001, .map (.named 3) v20)]⟩) [0, 1, 11, 12, 13] [100000, 100001] (by kernel_rfl)) (WpC.skip ?_)
            refine blockQ_normal ?_
            refine tnU ?_
            exact ⟨v20, h, rfl⟩
        · rintro _ ⟨v27, h, rfl⟩
          unfold delta_do_m0.j28 at h
          refine rgU (st1 := ⟨[(0, .loc 100000 0), (1, .p (.list (.named 6)) a1), (11, .p (.list (.named 6)) a1), (12, .p I6 ((a1.length : Int) : Int)), (13, .p I6 ((IntKind.i64.wrap (v21 + 1)) : Int))], [(100000, .box [.mp 100001]), (100001, .map (.named 3) v27)]⟩) [0, 1, 11, 12, 13] [100000, 100001] hN (.cons (sok_arith (U := Un) (rs := [(13, .p I6 v21)]) rfl rfl o0 (.int _ _ _) rfl) (.cons (mvU (v := .p I6 ((IntKind.i64.wrap (v21 + 1)) : Int)) rfl rfl) .nil)) (by kernel_rfl) (by kernel_rfl) (by kernel_rfl) (cvR _) ?_
          refine tnU ?_
          exact ⟨n, Nat.lt_succ_self n, v27, (IntKind.i64.wrap (v21 + 1)), h, rfl⟩
      · replace h := ite_f hc26 h
        refine WpC.conv (cvK (b := ⟨[(0, .loc 100000 0), (1, .p (.list (.named 6)) a1)], [(100000, .box [.mp 100001]), (100001, .map (.named 3) v20)]⟩) [0, 1] [100000, 100001] (by kernel_rfl)) (WpC.exit ?_)
        refine thenQ_exit ?_
        have hq := Option.some.inj h
        subst hq
        refine thenQ_exit ?_
        have h := hout25
        refine blockQ_hit ?_
        refine tnU ?_
        exact ⟨v20, h, rfl⟩
  · rintro _ ⟨v1, h, rfl⟩
    unfold delta_do_m0.j19 at h
    refine sqJ (fun st' => ∃ v2 : List ((List UInt8) × T_tree_File), delta_do_m0.j3 k v2 = some out ∧ st' = ⟨[], [(100000, .box [.mp 100001]), (100001, .map (.named 3) v2)]⟩) ?_ ?_
    · refine WpC.seq ?_
      refine rgU (st1 := ⟨[(0, .loc 100000 0), (29, .p (.list (.named 6)) a1), (30, .p I6 ((a1.length : Int) : Int)), (31, .p I6 (0 : Int))], [(100000, .box [.mp 100001]), (100001, .map (.named 3) v1)]⟩) [0, 29, 30, 31] [100000, 100001] hN (.cons (mvU (v := .p (.list (.named 6)) a1) rfl rfl) (.cons (sok_lenL (U := Un) (rs := [(29, .p (.list (.named 6)) a1)]) rfl rfl Tryd.underlying60 o0) (.cons (moU (rs := []) rfl (.inl rfl) (.int _ _ _)) .nil))) (by kernel_rfl) (by kernel_rfl) (by kernel_rfl) (cvR _) ?_
      refine tnU ?_
      refine WpC.block ?_
      obtain ⟨o8, hlo8, h⟩ := bind_some h
      have hout9 := h
      clear h
      refine WpC.loop (U := Un) (fun n st' => ∃ v4 : List ((List UInt8) × T_tree_File), ∃ v5 : Int, delta_do_m0.l6 k a1 n v4 v5 = some o8 ∧ st' = ⟨[(0, .loc 100000 0), (29, .p (.list (.named 6)) a1), (30, .p I6 ((a1.length : Int) : Int)), (31, .p I6 v5)], [(100000, .box [.mp 100001]), (100001, .map (.named 3) v4)]⟩) k ⟨v1, 0, hlo8, rfl⟩ ?_
      clear hlo8
      rintro (_ | n) _ ⟨v4, v5, h, rfl⟩
      · cases h
      · rw [delta_do_m0.l6] at h
        refine WpC.seq ?_
        refine rgU (st1 := ⟨[(0, .loc 100000 0), (29, .p (.list (.named 6)) a1), (30, .p I6 ((a1.length : Int) : Int)), (31, .p I6 v5), (32, .p .bool ((decide (v5 < (a1.length : Int))) : Bool))], [(100000, .box [.mp 100001]), (100001, .map (.named 3) v4)]⟩) [0, 29, 30, 31, 32] [100000, 100001] hN (.cons (cmU (rs := [(31, .p I6 v5), (30, .p I6 ((a1.length : Int) : Int))]) rfl rfl o0 o1 rfl) .nil) (by kernel_rfl) (by kernel_rfl) (by kernel_rfl) (cvR _) ?_
        refine tnU ?_
        refine WpC.seq ?_
        refine cdU (b := (decide (v5 < (a1.length : Int)))) (.tmp (.tail _ (.tail _ (.tail _ (.tail _ (.head _)))))) (fun hc10 => ?_) (fun hc10 => ?_)
        · replace h := ite_t hc10 h
          refine WpC.conv (cvK (b := ⟨[(0, .loc 100000 0), (29, .p (.list (.named 6)) a1), (30, .p I6 ((a1.length : Int) : Int)), (31, .p I6 v5)], [(100000, .box [.mp 100001]), (100001, .map (.named 3) v4)]⟩) [0, 29, 30, 31] [100000, 100001] (by kernel_rfl)) (WpC.skip ?_)
          refine tnU ?_
          refine sqJ (fun st' => ∃ v11 : List ((List UInt8) × T_tree_File), delta_do_m0.j12 k (delta_do_m0.l6 k a1 n) a1 v5 v11 = some o8 ∧ st' = ⟨[(0, .loc 100000 0), (29, .p (.list (.named 6)) a1), (30, .p I6 ((a1.length : Int) : Int)), (31, .p I6 v5)], [(100000, .box [.mp 100001]), (100001, .map (.named 3) v11)]⟩) ?_ ?_
          · refine WpC.block ?_
            refine WpC.seq ?_
            obtain ⟨v13, hv13, h⟩ := bind_some h
            refine rgU (st1 := ⟨[(0, .loc 100000 0), (9, .loc 9 0), (29, .p (.list (.named 6)) a1), (30, .p I6 ((a1.length : Int) : Int)), (31, .p I6 v5)], [(9, .box [.p I6 v13.f_Kind, .p .str v13.f_Old.f_Name, .p .str v13.f_Old.f_Content, .p I6 v13.f_Old.f_Time, .p .str v13.f_New.f_Name, .p .str v13.f_New.f_Content, .p I6 v13.f_New.f_Time]), (100000, .box [.mp 100001]), (100001, .map (.named 3) v4)]⟩) [0, 9, 29, 30, 31] [9, 100000, 100001] hN (.cons (sok_indexL (U := Un) (rs := [(29, .p (.list (.named 6)) a1), (31, .p I6 v5)]) rfl rfl sl_60 o0 o1 hv13) (.cons (sok_loadP (U := Un) (rs := [(33, .pp (.named 6) v13)]) rfl rfl ty_103 o0) (.cons (sok_allocZ (U := Un) (rs := []) (d := 9) (us := [.p I6 (0 : Int), .p .str ([] : List UInt8), .p .str ([] : List UInt8), .p I6 (0 : Int), .p .str ([] : List UInt8), .p .str ([] : List UInt8), .p I6 (0 : Int)]) (v := (.agg #[.int .i64 0, .string ByteArray.empty, .string ByteArray.empty, .int .i64 0, .string ByteArray.empty, .string ByteArray.empty, .int .i64 0])) rfl rfl rfl (by kernel_rfl) rfl (.data (fun _ _ _ => .int _ _) (.data (fun _ _ _ => rd_str0) (.data (fun _ _ _ => rd_str0) (.data (fun _ _ _ => .int _ _) (.data (fun _ _ _ => rd_str0) (.data (fun _ _ _ => rd_str0) (.data (fun _ _ _ => .int _ _) .nil))))))) (by kernel_rfl)) (.cons (sok_storeB (U := Un) (rs := [(9, .loc 9 0), (34, .p (.named 6) v13)]) (v := .p (.named 6) v13) (mid' := [.p I6 v13.f_Kind, .p .str v13.f_Old.f_Name, .p .str v13.f_Old.f_Content, .p I6 v13.f_Old.f_Time, .p .str v13.f_New.f_Name, .p .str v13.f_New.f_Content, .p I6 v13.f_New.f_Time]) [] [.p I6 (0 : Int), .p .str ([] : List UInt8), .p .str ([] : List UInt8), .p I6 (0 : Int), .p .str ([] : List UInt8), .p .str ([] : List UInt8), .p I6 (0 : Int)] [] rfl rfl rfl ty_103 o0 o1 (.data (.named (us := ([.p I6 v13.f_Kind, .p .str v13.f_Old.f_Name, .p .str v13.f_Old.f_Content, .p I6 v13.f_Old.f_Time, .p .str v13.f_New.f_Name, .p .str v13.f_New.f_Content, .p I6 v13.f_New.f_Time] : List (AVal Un))) (.pair (.one _ _) (.pair (.named (us := ([.p .str v13.f_Old.f_Name, .p .str v13.f_Old.f_Content, .p I6 v13.f_Old.f_Time] : List (AVal Un))) (.pair (.one _ _) (.pair (.one _ _) (.pair (.one _ _) .unit)))) (.pair (.named (us := ([.p .str v13.f_New.f_Name, .p .str v13.f_New.f_Content, .p I6 v13.f_New.f_Time] : List (AVal Un))) (.pair (.one _ _) (.pair (.one _ _) (.pair (.one _ _) .unit)))) .unit))))) rfl rfl rfl rfl rfl rfl) .nil)))) (by kernel_rfl) (by kernel_rfl) (by kernel_rfl) (cvR _) ?_
            refine tnU ?_
            refine WpC.seq ?_
            refine rgU (st1 := ⟨[(0, .loc 100000 0), (9, .loc 9 0), (29, .p (.list (.named 6)) a1), (30, .p I6 ((a1.length : Int) : Int)), (31, .p I6 v5), (37, .p .bool ((v13.f_Kind != 3) : Bool))], [(9, .box [.p I6 v13.f_Kind, .p .str v13.f_Old.f_Name, .p .str v13.f_Old.f_Content, .p I6 v13.f_Old.f_Time, .p .str v13.f_New.f_Name, .p .str v13.f_New.f_Content, .p I6 v13.f_New.f_Time]), (100000, .box [.mp 100001]), (100001, .map (.named 3) v4)]⟩) [0, 9, 29, 30, 31, 37] [9, 100000, 100001] hN (.cons (fdB (rs := [(9, .loc 9 0)]) rfl rfl fd_103_0 (by decide) o0) (.cons (ldB (t := .int .i64) (rs := [(35, .loc 9 0)]) [] [.p I6 v13.f_Kind] [.p .str v13.f_Old.f_Name, .p .str v13.f_Old.f_Content, .p I6 v13.f_Old.f_Time, .p .str v13.f_New.f_Name, .p .str v13.f_New.f_Content, .p I6 v13.f_New.f_Time] (v := .p I6 v13.f_Kind) rfl rfl ty_3 o0 rfl rfl rfl rfl (.data (.one _ _))) (.cons (cmU (rs := [(36, .p I6 v13.f_Kind)]) rfl rfl o0 (.int _ _ _) rfl) .nil))) (by kernel_rfl) (by kernel_rfl) (by kernel_rfl) (cvR _) ?_
            refine tnU ?_
            refine cdU (b := (v13.f_Kind != 3)) (.tmp (.tail _ (.tail _ (.tail _ (.tail _ (.tail _ (.head _))))))) (fun hc14 => ?_) (fun hc14 => ?_)
            · replace h := ite_t hc14 h
              refine WpC.seq ?_
              obtain ⟨v15, hv15, h⟩ := bind_some h
              refine rgU (st1 := ⟨[(0, .loc 100000 0), (10, .p .err v15.1), (29, .p (.list (.named 6)) a1), (30, .p I6 ((a1.length : Int) : Int)), (31, .p I6 v5)], [(100000, .box [.mp 100001]), (100001, .map (.named 3) v15.2)]⟩) [0, 10, 29, 30, 31] [100000, 100001] hN (.cons (mvU (v := .loc 100000 0) rfl rfl) (.cons (fdB (rs := [(9, .loc 9 0)]) rfl rfl fd_103_2 (by decide) o0) (.cons (fdB (rs := [(39, .loc 9 4)]) rfl rfl fd_24_0 (by decide) o0) (.cons (ldB (t := .str) (rs := [(40, .loc 9 4)]) [.p I6 v13.f_Kind, .p .str v13.f_Old.f_Name, .p .str v13.f_Old.f_Content, .p I6 v13.f_Old.f_Time] [.p .str v13.f_New.f_Name] [.p .str v13.f_New.f_Content, .p I6 v13.f_New.f_Time] (v := .p .str v13.f_New.f_Name) rfl rfl ty_9 o0 rfl rfl rfl rfl (.data (.one _ _))) (.cons (fdB (rs := [(9, .loc 9 0)]) rfl rfl fd_103_2 (by decide) o0) (.cons (fdB (rs := [(42, .loc 9 4)]) rfl rfl fd_24_1 (by decide) o0) (.cons (ldB (t := .str) (rs := [(43, .loc 9 5)]) [.p I6 v13.f_Kind, .p .str v13.f_Old.f_Name, .p .str v13.f_Old.f_Content, .p I6 v13.f_Old.f_Time, .p .str v13.f_New.f_Name] [.p .str v13.f_New.f_Content] [.p I6 v13.f_New.f_Time] (v := .p .str v13.f_New.f_Content) rfl rfl ty_9 o0 rfl rfl rfl rfl (.data (.one _ _))) (.cons (fdB (rs := [(9, .loc 9 0)]) rfl rfl fd_103_2 (by decide) o0) (.cons (fdB (rs := [(45, .loc 9 4)]) rfl rfl fd_24_2 (by decide) o0) (.cons (ldB (t := .int .i64) (rs := [(46, .loc 9 6)]) [.p I6 v13.f_Kind, .p .str v13.f_Old.f_Name, .p .str v13.f_Old.f_Content, .p I6 v13.f_Old.f_Time, .p .str v13.f_New.f_Name, .p .str v13.f_New.f_Content] [.p I6 v13.f_New.f_Time] [] (v := .p I6 v13.f_New.f_Time) rfl rfl ty_3 o0 rfl rfl rfl rfl (.data (.one _ _))) (.cons (caV (rs := [(38, .loc 100000 0), (41, .p .str v13.f_New.f_Name), (44, .p .str v13.f_New.f_Content), (47, .p I6 v13.f_New.f_Time)]) (vw := []) rfl rfl (.func _) hb_13 (COk.ren (tree_Tree_Put_m0.ok O hO k v4 v13.f_New.f_Name v13.f_New.f_Content v13.f_New.f_Time v15 hv15) (fun n => if n = 100000 then 100000 else if n = 100001 then 100001 else n) (injOn_of (by kernel_rfl))) (.cons o0 (.cons o1 (.cons (.tmp (.tail _ (.tail _ (.head _)))) (.cons (.tmp (.tail _ (.tail _ (.tail _ (.head _))))) .nil)))) (.cons (.same _) (.cons (.same _) (.cons (.same _) (.cons (.same _) .nil)))) (by simp) (.inl rfl)) (.cons (mvA (v := .p .err v15.1) rfl rfl) .nil)))))))))))) (by kernel_rfl) (by kernel_rfl) (by kernel_rfl) (cvR _) ?_
              refine tnU ?_
              refine WpC.seq ?_
              refine rgU (st1 := ⟨[(0, .loc 100000 0), (10, .p .err v15.1), (29, .p (.list (.named 6)) a1), (30, .p I6 ((a1.length : Int) : Int)), (31, .p I6 v5), (50, .p .bool ((!(v15.1 == 0)) : Bool))], [(100000, .box [.mp 100001]), (100001, .map (.named 3) v15.2)]⟩) [0, 10, 29, 30, 31, 50] [100000, 100001] hN (.cons (mvU (v := .p .err v15.1) rfl rfl) (.cons (sok_errNil (U := Un) (rs := [(49, .p .err v15.1)]) rfl rfl Tryd.underlying31 o0 rfl) .nil)) (by kernel_rfl) (by kernel_rfl) (by kernel_rfl) (cvR _) ?_
              refine tnU ?_
              refine cdU (b := (!(v15.1 == 0))) (.tmp (.tail _ (.tail _ (.tail _ (.tail _ (.tail _ (.head _))))))) (fun hc16 => ?_) (fun hc16 => ?_)
              · replace h := ite_t hc16 h
                refine WpC.seq ?_
                refine rgU (st1 := ⟨[(4, .p .err v15.1)], [(100000, .box [.mp 100001]), (100001, .map (.named 3) v15.2)]⟩) [4] [100000, 100001] hN (.cons (mvU (v := .p .err v15.1) rfl rfl) (.cons (mvA (v := .p .err v15.1) rfl rfl) .nil)) (by kernel_rfl) (by kernel_rfl) (by kernel_rfl) (cvR _) ?_
                refine tnU ?_
                refine WpC.ret ?_
                refine blockQ_ret ?_
                refine thenQ_ret ?_
                have hq := Option.some.inj h
                subst hq
                refine thenQ_ret ?_
                have h := hout9
                refine blockQ_ret ?_
                refine thenQ_ret ?_
                have hq := Option.some.inj h
                subst hq
                exact ends_ret (retV_1 rfl (.head _)) (ain_cons (.head _) (ain_cons (.tail _ (.head _)) ain_nil))
              · replace h := ite_f hc16 h
                refine WpC.conv (cvK (b := ⟨[(0, .loc 100000 0), (29, .p (.list (.named 6)) a1), (30, .p I6 ((a1.length : Int) : Int)), (31, .p I6 v5)], [(100000, .box [.mp 100001]), (100001, .map (.named 3) v15.2)]⟩) [0, 29, 30, 31] [100000, 100001] (by kernel_rfl)) (WpC.skip ?_)
                refine blockQ_normal ?_
                refine tnU ?_
                exact ⟨v15.2, h, rfl⟩
            · replace h := ite_f hc14 h
              refine WpC.conv (cvK (b := ⟨[(0, .loc 100000 0), (29, .p (.list (.named 6)) a1), (30, .p I6 ((a1.length : Int) : Int)), (31, .p I6 v5)], [(100000, .box [.mp 100001]), (100001, .map (.named 3) v4)]⟩) [0, 29, 30, 31] [100000, 100001] (by kernel_rfl)) (WpC.skip ?_)
              refine blockQ_normal ?_
              refine tnU ?_
              exact ⟨v4, h, rfl⟩
          · rintro _ ⟨v11, h, rfl⟩
            unfold delta_do_m0.j12 at h
            refine rgU (st1 := ⟨[(0, .loc 100000 0), (29, .p (.list (.named 6)) a1), (30, .p I6 ((a1.length : Int) : Int)), (31, .p I6 ((IntKind.i64.wrap (v5 + 1)) : Int))], [(100000, .box [.mp 100001]), (100001, .map (.named 3) v11)]⟩) [0, 29, 30, 31] [100000, 100001] hN (.cons (sok_arith (U := Un) (rs := [(31, .p I6 v5)]) rfl rfl o0 (.int _ _ _) rfl) (.cons (mvU (v := .p I6 ((IntKind.i64.wrap (v5 + 1)) : Int)) rfl rfl) .nil)) (by kernel_rfl) (by kernel_rfl) (by kernel_rfl) (cvR _) ?_
            refine tnU ?_
            exact ⟨n, Nat.lt_succ_self n, v11, (IntKind.i64.wrap (v5 + 1)), h, rfl⟩
        · replace h := ite_f hc10 h
          refine WpC.conv (cvK (b := ⟨[], [(100000, .box [.mp 100001]), (100001, .map (.named 3) v4)]⟩) [] [100000, 100001] (by kernel_rfl)) (WpC.exit ?_)
          refine thenQ_exit ?_
          have hq := Option.some.inj h
          subst hq
          refine thenQ_exit ?_
          have h := hout9
          refine blockQ_hit ?_
          refine tnU ?_
          exact ⟨v4, h, rfl⟩
    · rintro _ ⟨v2, h, rfl⟩
      unfold delta_do_m0.j3 at h
      refine WpC.seq ?_
      refine rgU (st1 := ⟨[(4, .lit .nilIface)], [(100000, .box [.mp 100001]), (100001, .map (.named 3) v2)]⟩) [4] [100000, 100001] hN (.cons (moU (rs := []) rfl (.inr rfl) (.lit _ _ rfl)) .nil) (by kernel_rfl) (by kernel_rfl) (by kernel_rfl) (cvR _) ?_
      refine tnU ?_
      refine WpC.conv (cvT (Conv.nilE (U := Un) 4 (.head _)) (cvK (b := ⟨[(4, .p .err (0 : Nat))], [(100000, .box [.mp 100001]), (100001, .map (.named 3) v2)]⟩) [4] [100000, 100001] (by kernel_rfl))) (WpC.ret ?_)
      have hq := Option.some.inj h
      subst hq
      exact ends_ret (retV_1 rfl (.head _)) (ain_cons (.head _) (ain_cons (.tail _ (.head _)) ain_nil))

theorem delta_Apply_m0.ok (O : Out) (hO : GOk O) (k : Nat) (a0 : List ((List UInt8) × T_tree_File)) (a1 : List T_delta_Change) (out : Nat × (List ((List UInt8) × T_tree_File))) (h : delta_Apply_m0.f k a0 a1 = some out) : COk Un O Tryd.prog 37 { ar := [.loc 100000 0, .p (.list (.named 6)) a1], r := .p .err out.1, bs := [(100000, .box [.mp 100001]), (100001, .map (.named 3) a0)], bs' := [(100000, .box [.mp 100001]), (100001, .map (.named 3) out.2)] } := by
  refine cok_of_wp Tryd.func37 rfl (k := 36) rfl (Nat.le_of_ble_eq_true rfl) (namesOk_of (by kernel_rfl)) ?_
  intro B hN
  refine WpC.conv (cvK (b := ⟨[(0, .loc 100000 0), (1, .p (.list (.named 6)) a1)], [(100000, .box [.mp 100001]), (100001, .map (.named 3) a0)]⟩) [0, 1] [100000, 100001] (by kernel_rfl)) ?_
  unfold delta_Apply_m0.f at h
  refine WpC.seq ?_
  refine rgU (st1 := ⟨[(0, .loc 100000 0), (1, .p (.list (.named 6)) a1)], [(100000, .box [.mp 100001]), (100001, .map (.named 3) a0)]⟩) [0, 1] [100000, 100001] hN (.cons (moU (rs := []) rfl (.inr rfl) (.lit _ _ rfl)) .nil) (by kernel_rfl) (by kernel_rfl) (by kernel_rfl) (cvR _) ?_
  refine tnU ?_
  refine WpC.seq ?_
  refine WpC.seq ?_
  obtain ⟨v1, hv1, h⟩ := bind_some h
  refine rgU (st1 := ⟨[(0, .loc 100000 0), (1, .p (.list (.named 6)) a1), (5, .p .err v1)], [(100000, .box [.mp 100001]), (100001, .map (.named 3) a0)]⟩) [0, 1, 5] [100000, 100001] hN (.cons (mvU (v := .p (.list (.named 6)) a1) rfl rfl) (.cons (caV (rs := [(9, .p (.list (.named 6)) a1)]) (vw := []) rfl rfl (.func _) hb_39 (delta_Check.ok O hO k a1 v1 hv1) (.cons o0 .nil) (.cons (.same _) .nil) (by simp) (.inl rfl)) (.cons (mvA (v := .p .err v1) rfl rfl) .nil))) (by kernel_rfl) (by kernel_rfl) (by kernel_rfl) (cvR _) ?_
  refine tnU ?_
  refine WpC.seq ?_
  refine rgU (st1 := ⟨[(0, .loc 100000 0), (1, .p (.list (.named 6)) a1), (5, .p .err v1), (12, .p .bool ((!(v1 == 0)) : Bool))], [(100000, .box [.mp 100001]), (100001, .map (.named 3) a0)]⟩) [0, 1, 5, 12] [100000, 100001] hN (.cons (mvU (v := .p .err v1) rfl rfl) (.cons (sok_errNil (U := Un) (rs := [(11, .p .err v1)]) rfl rfl Tryd.underlying31 o0 rfl) .nil)) (by kernel_rfl) (by kernel_rfl) (by kernel_rfl) (cvR _) ?_
  refine tnU ?_
  refine cdU (b := (!(v1 == 0))) (.tmp (.tail _ (.tail _ (.tail _ (.head _))))) (fun hc2 => ?_) (fun hc2 => ?_)
  · replace h := ite_t hc2 h
    refine WpC.seq ?_
    refine rgU (st1 := ⟨[(4, .p .err v1)], [(100000, .box [.mp 100001]), (100001, .map (.named 3) a0)]⟩) [4] [100000, 100001] hN (.cons (mvU (v := .p .err v1) rfl rfl) (.cons (mvA (v := .p .err v1) rfl rfl) .nil)) (by kernel_rfl) (by kernel_rfl) (by kernel_rfl) (cvR _) ?_
    refine tnU ?_
    refine WpC.ret ?_
    refine thenQ_ret ?_
    have hq := Option.some.inj h
    subst hq
    exact ends_ret (retV_1 rfl (.head _)) (ain_cons (.head _) (ain_cons (.tail _ (.head _)) ain_nil))
  · replace h := ite_f hc2 h
    refine WpC.conv (cvK (b := ⟨[(0, .loc 100000 0), (1, .p (.list (.named 6)) a1)], [(100000, .box [.mp 100001]), (100001, .map (.named 3) a0)]⟩) [0, 1] [100000, 100001] (by kernel_rfl)) (WpC.skip ?_)
    refine tnU ?_
    refine sqJ (fun st' => delta_Apply_m0.j7 k a0 a1 = some out ∧ st' = ⟨[(0, .loc 100000 0), (1, .p (.list (.named 6)) a1)], [(100000, .box [.mp 100001]), (100001, .map (.named 3) a0)]⟩) ?_ ?_
    · refine WpC.seq ?_
      refine rgU (st1 := ⟨[(0, .loc 100000 0), (1, .p (.list (.named 6)) a1), (14, .p (.list (.named 6)) a1), (15, .p I6 ((a1.length : Int) : Int)), (16, .p I6 (0 : Int))], [(100000, .box [.mp 100001]), (100001, .map (.named 3) a0)]⟩) [0, 1, 14, 15, 16] [100000, 100001] hN (.cons (mvU (v := .p (.list (.named 6)) a1) rfl rfl) (.cons (sok_lenL (U := Un) (rs := [(14, .p (.list (.named 6)) a1)]) rfl rfl Tryd.underlying60 o0) (.cons (moU (rs := []) rfl (.inl rfl) (.int _ _ _)) .nil))) (by kernel_rfl) (by kernel_rfl) (by kernel_rfl) (cvR _) ?_
      refine tnU ?_
      refine WpC.block ?_
      obtain ⟨o10, hlo10, h⟩ := bind_some h
      have hout11 := h
      clear h
      refine WpC.loop (U := Un) (fun n st' => ∃ v8 : Int, delta_Apply_m0.l9 k a0 a1 n v8 = some o10 ∧ st' = ⟨[(0, .loc 100000 0), (1, .p (.list (.named 6)) a1), (14, .p (.list (.named 6)) a1), (15, .p I6 ((a1.length : Int) : Int)), (16, .p I6 v8)], [(100000, .box [.mp 100001]), (100001, .map (.named 3) a0)]⟩) k ⟨0, hlo10, rfl⟩ ?_
      clear hlo10
      rintro (_ | n) _ ⟨v8, h, rfl⟩
      · cases h
      · rw [delta_Apply_m0.l9] at h
        refine WpC.seq ?_
        refine rgU (st1 := ⟨[(0, .loc 100000 0), (1, .p (.list (.named 6)) a1), (14, .p (.list (.named 6)) a1), (15, .p I6 ((a1.length : Int) : Int)), (16, .p I6 v8), (17, .p .bool ((decide (v8 < (a1.length : Int))) : Bool))], [(100000, .box [.mp 100001]), (100001, .map (.named 3) a0)]⟩) [0, 1, 14, 15, 16, 17] [100000, 100001] hN (.cons (cmU (rs := [(16, .p I6 v8), (15, .p I6 ((a1.length : Int) : Int))]) rfl rfl o0 o1 rfl) .nil) (by kernel_rfl) (by kernel_rfl) (by kernel_rfl) (cvR _) ?_
        refine tnU ?_
        refine WpC.seq ?_
        refine cdU (b := (decide (v8 < (a1.length : Int)))) (.tmp (.tail _ (.tail _ (.tail _ (.tail _ (.tail _ (.head _))))))) (fun hc12 => ?_) (fun hc12 => ?_)
        · replace h := ite_t hc12 h
          refine WpC.conv (cvK (b := ⟨[(0, .loc 100000 0), (1, .p (.list (.named 6)) a1), (14, .p (.list (.named 6)) a1), (15, .p I6 ((a1.length : Int) : Int)), (16, .p I6 v8)], [(100000, .box [.mp 100001]), (100001, .map (.named 3) a0)]⟩) [0, 1, 14, 15, 16] [100000, 100001] (by kernel_rfl)) (WpC.skip ?_)
          refine tnU ?_
          refine WpC.seq ?_
          refine WpC.block ?_
          refine WpC.seq ?_
          obtain ⟨v13, hv13, h⟩ := bind_some h
          refine rgU (st1 := ⟨[(0, .loc 100000 0), (1, .p (.list (.named 6)) a1), (7, .loc 7 0), (14, .p (.list (.named 6)) a1), (15, .p I6 ((a1.length : Int) : Int)), (16, .p I6 v8)], [(7, .box [.p I6 v13.f_Kind, .p .str v13.f_Old.f_Name, .p .str v13.f_Old.f_Content, .p I6 v13.f_Old.f_Time, .p .str v13.f_New.f_Name, .p .str v13.f_New.f_Content, .p I6 v13.f_New.f_Time]), (100000, .box [.mp 100001]), (100001, .map (.named 3) a0)]⟩) [0, 1, 7, 14, 15, 16] [7, 100000, 100001] hN (.cons (sok_indexL (U := Un) (rs := [(14, .p (.list (.named 6)) a1), (16, .p I6 v8)]) rfl rfl sl_60 o0 o1 hv13) (.cons (sok_loadP (U := Un) (rs := [(18, .pp (.named 6) v13)]) rfl rfl ty_103 o0) (.cons (sok_allocZ (U := Un) (rs := []) (d := 7) (us := [.p I6 (0 : Int), .p .str ([] : List UInt8), .p .str ([] : List UInt8), .p I6 (0 : Int), .p .str ([] : List UInt8), .p .str ([] : List UInt8), .p I6 (0 : Int)]) (v := (.agg #[.int .i64 0, .string ByteArray.empty, .string ByteArray.empty, .int .i64 0, .string ByteArray.empty, .string ByteArray.empty, .int .i64 0])) rfl rfl rfl (by kernel_rfl) rfl (.data (fun _ _ _ => .int _ _) (.data (fun _ _ _ => rd_str0) (.data (fun _ _ _ => rd_str0) (.data (fun _ _ _ => .int _ _) (.data (fun _ _ _ => rd_str0) (.data (fun _ _ _ => rd_str0) (.data (fun _ _ _ => .int _ _) .nil))))))) (by kernel_rfl)) (.cons (sok_storeB (U := Un) (rs := [(7, .loc 7 0), (19, .p (.named 6) v13)]) (v := .p (.named 6) v13) (mid' := [.p I6 v13.f_Kind, .p .str v13.f_Old.f_Name, .p .str v13.f_Old.f_Content, .p I6 v13.f_Old.f_Time, .p .str v13.f_New.f_Name, .p .str v13.f_New.f_Content, .p I6 v13.f_New.f_Time]) [] [.p I6 (0 : Int), .p .str ([] : List UInt8), .p .str ([] : List UInt8), .p I6 (0 : Int), .p .str ([] : List UInt8), .p .str ([] : List UInt8), .p I6 (0 : Int)] [] rfl rfl rfl ty_103 o0 o1 (.data (.named (us := ([.p I6 v13.f_Kind, .p .str v13.f_Old.f_Name, .p .str v13.f_Old.f_Content, .p I6 v13.f_Old.f_Time, .p .str v13.f_New.f_Name, .p .str v13.f_New.f_Content, .p I6 v13.f_New.f_Time] : List (AVal Un))) (.pair (.one _ _) (.pair (.named (us := ([.p .str v13.f_Old.f_Name, .p .str v13.f_Old.f_Content, .p I6 v13.f_Old.f_Time] : List (AVal Un))) (.pair (.one _ _) (.pair (.one _ _) (.pair (.one _ _) .unit)))) (.pair (.named (us := ([.p .str v13.f_New.f_Name, .p .str v13.f_New.f_Content, .p I6 v13.f_New.f_Time] : List (AVal Un))) (.pair (.one _ _) (.pair (.one _ _) (.pair (.one _ _) .unit)))) .unit))))) rfl rfl rfl rfl rfl rfl) .nil)))) (by kernel_rfl) (by kernel_rfl) (by kernel_rfl) (cvR _) ?_
          refine tnU ?_
          refine WpC.seq ?_
          obtain ⟨v14, hv14, h⟩ := bind_some h
          refine rgU (st1 := ⟨[(0, .loc 100000 0), (1, .p (.list (.named 6)) a1), (14, .p (.list (.named 6)) a1), (15, .p I6 ((a1.length : Int) : Int)), (16, .p I6 v8), (23, .p .bool ((!v14) : Bool))], [(100000, .box [.mp 100001]), (100001, .map (.named 3) a0)]⟩) [0, 1, 14, 15, 16, 23] [100000, 100001] hN (.cons (ldB (t := .named 6) (rs := [(7, .loc 7 0)]) [] [.p I6 v13.f_Kind, .p .str v13.f_Old.f_Name, .p .str v13.f_Old.f_Content, .p I6 v13.f_Old.f_Time, .p .str v13.f_New.f_Name, .p .str v13.f_New.f_Content, .p I6 v13.f_New.f_Time] [] (v := .p (.named 6) ((T_delta_Change.mk v13.f_Kind (T_tree_File.mk v13.f_Old.f_Name v13.f_Old.f_Content v13.f_Old.f_Time) (T_tree_File.mk v13.f_New.f_Name v13.f_New.f_Content v13.f_New.f_Time)) : T_delta_Change)) rfl rfl ty_103 o0 rfl rfl rfl rfl (.data (.named (us := ([.p I6 v13.f_Kind, .p .str v13.f_Old.f_Name, .p .str v13.f_Old.f_Content, .p I6 v13.f_Old.f_Time, .p .str v13.f_New.f_Name, .p .str v13.f_New.f_Content, .p I6 v13.f_New.f_Time] : List (AVal Un))) (.pair (.one _ _) (.pair (.named (us := ([.p .str v13.f_Old.f_Name, .p .str v13.f_Old.f_Content, .p I6 v13.f_Old.f_Time] : List (AVal Un))) (.pair (.one _ _) (.pair (.one _ _) (.pair (.one _ _) .unit)))) (.pair (.named (us := ([.p .str v13.f_New.f_Name, .p .str v13.f_New.f_Content, .p I6 v13.f_New.f_Time] : List (AVal Un))) (.pair (.one _ _) (.pair (.one _ _) (.pair (.one _ _) .unit)))) .unit)))))) (.cons (mvU (v := .loc 100000 0) rfl rfl) (.cons (caV (rs := [(20, .p (.named 6) ((T_delta_Change.mk v13.f_Kind (T_tree_File.mk v13.f_Old.f_Name v13.f_Old.f_Content v13.f_Old.f_Time) (T_tree_File.mk v13.f_New.f_Name v13.f_New.f_Content v13.f_New.f_Time)) : T_delta_Change)), (21, .loc 100000 0)]) (vw := []) rfl rfl (.func _) hb_62 (COk.ren (delta_Change_fits_m0.ok O hO k (T_delta_Change.mk v13.f_Kind (T_tree_File.mk v13.f_Old.f_Name v13.f_Old.f_Content v13.f_Old.f_Time) (T_tree_File.mk v13.f_New.f_Name v13.f_New.f_Content v13.f_New.f_Time)) a0 v14 hv14) (fun n => if n = 100000 then 100000 else if n = 100001 then 100001 else n) (injOn_of (by kernel_rfl))) (.cons o0 (.cons o1 .nil)) (.cons (.same _) (.cons (.same _) .nil)) (by simp) (.inl rfl)) (.cons (sok_not (U := Un) (rs := [(22, .p .bool v14)]) rfl rfl o0) .nil)))) (by kernel_rfl) (by kernel_rfl) (by kernel_rfl) (cvR _) ?_
          refine tnU ?_
          refine cdU (b := (!v14)) (.tmp (.tail _ (.tail _ (.tail _ (.tail _ (.tail _ (.head _))))))) (fun hc15 => ?_) (fun hc15 => ?_)
          · replace h := ite_t hc15 h
            refine WpC.seq ?_
            refine rgU (st1 := ⟨[(4, .p .err (14 : Nat))], [(100000, .box [.mp 100001]), (100001, .map (.named 3) a0)]⟩) [4] [100000, 100001] hN (.cons (sok_loadG (U := Un) (t := .err) (rs := []) rfl rfl ty_31 rfl rfl (hO.var 13 2 rfl) (fun S w => .err 13)) (.cons (mvA (v := .p .err (14 : Nat)) rfl rfl) .nil)) (by kernel_rfl) (by kernel_rfl) (by kernel_rfl) (cvR _) ?_
            refine tnU ?_
            refine WpC.ret ?_
            refine blockQ_ret ?_
            refine thenQ_ret ?_
            have hq := Option.some.inj h
            subst hq
            refine thenQ_ret ?_
            have h := hout11
            refine blockQ_ret ?_
            refine thenQ_ret ?_
            have hq := Option.some.inj h
            subst hq
            exact ends_ret (retV_1 rfl (.head _)) (ain_cons (.head _) (ain_cons (.tail _ (.head _)) ain_nil))
          · replace h := ite_f hc15 h
            refine WpC.conv (cvK (b := ⟨[(0, .loc 100000 0), (1, .p (.list (.named 6)) a1), (14, .p (.list (.named 6)) a1), (15, .p I6 ((a1.length : Int) : Int)), (16, .p I6 v8)], [(100000, .box [.mp 100001]), (100001, .map (.named 3) a0)]⟩) [0, 1, 14, 15, 16] [100000, 100001] (by kernel_rfl)) (WpC.skip ?_)
            refine blockQ_normal ?_
            refine tnU ?_
            refine rgU (st1 := ⟨[(0, .loc 100000 0), (1, .p (.list (.named 6)) a1), (14, .p (.list (.named 6)) a1), (15, .p I6 ((a1.length : Int) : Int)), (16, .p I6 ((IntKind.i64.wrap (v8 + 1)) : Int))], [(100000, .box [.mp 100001]), (100001, .map (.named 3) a0)]⟩) [0, 1, 14, 15, 16] [100000, 100001] hN (.cons (sok_arith (U := Un) (rs := [(16, .p I6 v8)]) rfl rfl o0 (.int _ _ _) rfl) (.cons (mvU (v := .p I6 ((IntKind.i64.wrap (v8 + 1)) : Int)) rfl rfl) .nil)) (by kernel_rfl) (by kernel_rfl) (by kernel_rfl) (cvR _) ?_
            refine tnU ?_
            exact ⟨n, Nat.lt_succ_self n, (IntKind.i64.wrap (v8 + 1)), h, rfl⟩
        · replace h := ite_f hc12 h
          refine WpC.conv (cvK (b := ⟨[(0, .loc 100000 0), (1, .p (.list (.named 6)) a1)], [(100000, .box [.mp 100001]), (100001, .map (.named 3) a0)]⟩) [0, 1] [100000, 100001] (by kernel_rfl)) (WpC.exit ?_)
          refine thenQ_exit ?_
          have hq := Option.some.inj h
          subst hq
          refine thenQ_exit ?_
          have h := hout11
          refine blockQ_hit ?_
          refine tnU ?_
          exact ⟨h, rfl⟩
    · rintro _ ⟨h, rfl⟩
      unfold delta_Apply_m0.j7 at h
      refine WpC.seq ?_
      refine WpC.seq ?_
      obtain ⟨v3, hv3, h⟩ := bind_some h
      obtain ⟨v4, hv4, h⟩ := bind_some h
      refine rgU (st1 := ⟨[(0, .loc 100000 0), (1, .p (.list (.named 6)) a1), (8, .p .err v4.1)], [(100000, .box [.mp 100001]), (100001, .map (.named 3) a0)]⟩) [0, 1, 8] [100000, 100001] hN (.cons (mvU (v := .loc 100000 0) rfl rfl) (.cons (caV (rs := [(26, .loc 100000 0)]) (vw := []) rfl rfl (.func _) hb_12 (COk.ren (tree_Tree_Copy_m0.ok O hO k a0 v3 hv3) (fun n => if n = 60500 then 10001 else if n = 60501 then 10002 else if n = 100000 then 100000 else if n = 100001 then 100001 else n) (injOn_of (by kernel_rfl))) (.cons o0 .nil) (.cons (.same _) .nil) (by simp) (.inl rfl)) (.cons (mvU (v := .p (.list (.named 6)) a1) rfl rfl) (.cons (caV (rs := [(27, .loc 10001 0), (28, .p (.list (.named 6)) a1)]) (vw := []) rfl rfl (.func _) hb_63 (COk.ren (delta_do_m0.ok O hO k v3 a1 v4 hv4) (fun n => if n = 100000 then 10001 else if n = 100001 then 10002 else n) (injOn_of (by kernel_rfl))) (.cons o0 (.cons o1 .nil)) (.cons (.same _) (.cons (.same _) .nil)) (by simp) (.inl rfl)) (.cons (mvA (v := .p .err v4.1) rfl rfl) .nil))))) (by kernel_rfl) (by kernel_rfl) (by kernel_rfl) (cvR _) ?_
      refine tnU ?_
      refine WpC.seq ?_
      refine rgU (st1 := ⟨[(0, .loc 100000 0), (1, .p (.list (.named 6)) a1), (8, .p .err v4.1), (31, .p .bool ((!(v4.1 == 0)) : Bool))], [(100000, .box [.mp 100001]), (100001, .map (.named 3) a0)]⟩) [0, 1, 8, 31] [100000, 100001] hN (.cons (mvU (v := .p .err v4.1) rfl rfl) (.cons (sok_errNil (U := Un) (rs := [(30, .p .err v4.1)]) rfl rfl Tryd.underlying31 o0 rfl) .nil)) (by kernel_rfl) (by kernel_rfl) (by kernel_rfl) (cvR _) ?_
      refine tnU ?_
      refine cdU (b := (!(v4.1 == 0))) (.tmp (.tail _ (.tail _ (.tail _ (.head _))))) (fun hc5 => ?_) (fun hc5 => ?_)
      · replace h := ite_t hc5 h
        refine WpC.seq ?_
        refine rgU (st1 := ⟨[(4, .p .err v4.1)], [(100000, .box [.mp 100001]), (100001, .map (.named 3) a0)]⟩) [4] [100000, 100001] hN (.cons (mvU (v := .p .err v4.1) rfl rfl) (.cons (mvA (v := .p .err v4.1) rfl rfl) .nil)) (by kernel_rfl) (by kernel_rfl) (by kernel_rfl) (cvR _) ?_
        refine tnU ?_
        refine WpC.ret ?_
        refine thenQ_ret ?_
        have hq := Option.some.inj h
        subst hq
        exact ends_ret (retV_1 rfl (.head _)) (ain_cons (.head _) (ain_cons (.tail _ (.head _)) ain_nil))
      · replace h := ite_f hc5 h
        refine WpC.conv (cvK (b := ⟨[(0, .loc 100000 0), (1, .p (.list (.named 6)) a1)], [(100000, .box [.mp 100001]), (100001, .map (.named 3) a0)]⟩) [0, 1] [100000, 100001] (by kernel_rfl)) (WpC.skip ?_)
        refine tnU ?_
        refine WpC.seq ?_
        obtain ⟨v6, hv6, h⟩ := bind_some h
        refine rgU (st1 := ⟨[(4, .p .err v6.1)], [(100000, .box [.mp 100001]), (100001, .map (.named 3) v6.2)]⟩) [4] [100000, 100001] hN (.cons (mvU (v := .loc 100000 0) rfl rfl) (.cons (mvU (v := .p (.list (.named 6)) a1) rfl rfl) (.cons (caV (rs := [(33, .loc 100000 0), (34, .p (.list (.named 6)) a1)]) (vw := []) rfl rfl (.func _) hb_63 (COk.ren (delta_do_m0.ok O hO k a0 a1 v6 hv6) (fun n => if n = 100000 then 100000 else if n = 100001 then 100001 else n) (injOn_of (by kernel_rfl))) (.cons o0 (.cons o1 .nil)) (.cons (.same _) (.cons (.same _) .nil)) (by simp) (.inl rfl)) (.cons (mvA (v := .p .err v6.1) rfl rfl) .nil)))) (by kernel_rfl) (by kernel_rfl) (by kernel_rfl) (cvR _) ?_
        refine tnU ?_
        refine WpC.ret ?_
        have hq := Option.some.inj h
        subst hq
        exact ends_ret (retV_1 rfl (.head _)) (ain_cons (.head _) (ain_cons (.tail _ (.head _)) ain_nil))

theorem tree_File_60_m0.ok (O : Out) (hO : GOk O) (k : Nat) (a0 : List ((List UInt8) × T_tree_File)) (a1 : List ((List UInt8) × T_tree_File)) (out : Bool) (h : tree_File_60_m0.f k a0 a1 = some out) : COk Un O Tryd.prog 60 { ar := [.mp 100000, .mp 100001], r := .p .bool out, bs := [(100000, .map (.named 3) a0), (100001, .map (.named 3) a1)], bs' := [(100000, .map (.named 3) a0), (100001, .map (.named 3) a1)] } := by
  refine cok_of_wp Tryd.func60 rfl (k := 34) rfl (Nat.le_of_ble_eq_true rfl) (namesOk_of (by kernel_rfl)) ?_
  intro B hN
  refine WpC.conv (cvK (b := ⟨[(0, .mp 100000), (1, .mp 100001)], [(100000, .map (.named 3) a0), (100001, .map (.named 3) a1)]⟩) [0, 1] [100000, 100001] (by kernel_rfl)) ?_
  unfold tree_File_60_m0.f at h
  refine WpC.seq ?_
  refine rgU (st1 := ⟨[(0, .mp 100000), (1, .mp 100001)], [(100000, .map (.named 3) a0), (100001, .map (.named 3) a1)]⟩) [0, 1] [100000, 100001] hN (.cons (moU (rs := []) rfl (.inr rfl) (.bool _ _)) .nil) (by kernel_rfl) (by kernel_rfl) (by kernel_rfl) (cvR _) ?_
  refine tnU ?_
  refine WpC.seq ?_
  refine WpC.seq ?_
  refine rgU (st1 := ⟨[(0, .mp 100000), (1, .mp 100001), (13, .p .bool (((a0.length : Int) != (a1.length : Int)) : Bool))], [(100000, .map (.named 3) a0), (100001, .map (.named 3) a1)]⟩) [0, 1, 13] [100000, 100001] hN (.cons (mvU (v := .mp 100000) rfl rfl) (.cons (sok_lenM (U := Un) (t := .named 3) (kvs := a0) (rs := [(9, .mp 100000)]) rfl rfl map_86 o0) (.cons (mvU (v := .mp 100001) rfl rfl) (.cons (sok_lenM (U := Un) (t := .named 3) (kvs := a1) (rs := [(11, .mp 100001)]) rfl rfl map_86 o0) (.cons (cmU (rs := [(10, .p I6 ((a0.length : Int) : Int)), (12, .p I6 ((a1.length : Int) : Int))]) rfl rfl o0 o1 rfl) .nil))))) (by kernel_rfl) (by kernel_rfl) (by kernel_rfl) (cvR _) ?_
  refine tnU ?_
  refine cdU (b := ((a0.length : Int) != (a1.length : Int))) (.tmp (.tail _ (.tail _ (.head _)))) (fun hc1 => ?_) (fun hc1 => ?_)
  · replace h := ite_t hc1 h
    refine WpC.seq ?_
    refine rgU (st1 := ⟨[(4, .p .bool false)], [(100000, .map (.named 3) a0), (100001, .map (.named 3) a1)]⟩) [4] [100000, 100001] hN (.cons (moU (rs := []) rfl (.inr rfl) (.bool _ _)) .nil) (by kernel_rfl) (by kernel_rfl) (by kernel_rfl) (cvR _) ?_
    refine tnU ?_
    refine WpC.ret ?_
    refine thenQ_ret ?_
    have hq := Option.some.inj h
    subst hq
    exact ends_ret (retV_1 rfl (.head _)) (ain_cons (.head _) (ain_cons (.tail _ (.head _)) ain_nil))
  · replace h := ite_f hc1 h
    refine WpC.conv (cvK (b := ⟨[(0, .mp 100000), (1, .mp 100001)], [(100000, .map (.named 3) a0), (100001, .map (.named 3) a1)]⟩) [0, 1] [100000, 100001] (by kernel_rfl)) (WpC.skip ?_)
    refine tnU ?_
    refine sqJ (fun st' => tree_File_60_m0.j2 k a0 a1 = some out ∧ st' = ⟨[], [(100000, .map (.named 3) a0), (100001, .map (.named 3) a1)]⟩) ?_ ?_
    · refine WpC.seq ?_
      refine WpC.openMap (U := Un) (t := .named 3) (n := 100000) (kvs := a0) (.head _) ?_
      intro es3 ck3 ys3 hys3 hri3
      refine WpC.conv (cvK (b := ⟨[(0, .mp 100000), (1, .mp 100001)], [(100000, .mapE (.named 3) es3 ck3 ys3), (100001, .map (.named 3) a1)]⟩) [0, 1] [100000, 100001] (by kernel_rfl)) ?_
      refine rgU (st1 := ⟨[(1, .mp 100001), (15, .loc 15 0)], [(15, .iter 100000 (.named 3) es3 ck3 ys3 a0 none), (100000, .mapE (.named 3) es3 ck3 ys3), (100001, .map (.named 3) a1)]⟩) [1, 15] [15, 100000, 100001] hN (.cons (mvU (v := .mp 100000) rfl rfl) (.cons (sok_range (U := Un) (t := .named 3) (es := es3) (clock := ck3) (kvs := a0) (rs := [(14, .mp 100000)]) (d := 15) (m := 100000) rfl rfl rfl map_86 hys3 (by decide) o0) .nil)) (by kernel_rfl) (by kernel_rfl) (by kernel_rfl) (cvR _) ?_
      refine tnU ?_
      refine WpC.block ?_
      obtain ⟨o6, hlo6, h⟩ := bind_some h
      have hout7 := h
      clear h
      refine WpC.loop (U := Un) (fun n st' => ∃ v4 : List ((List UInt8) × T_tree_File), tree_File_60_m0.l5 k a1 n v4 = some o6 ∧ st' = ⟨[(1, .mp 100001), (15, .loc 15 0)], [(15, .iter 100000 (.named 3) es3 ck3 ys3 v4 none), (100000, .mapE (.named 3) es3 ck3 ys3), (100001, .map (.named 3) a1)]⟩) k ⟨a0, hlo6, rfl⟩ ?_
      clear hlo6
      rintro (_ | n) _ ⟨v4, h, rfl⟩
      · cases h
      · refine WpC.seq ?_
        refine WpC.next (U := Un) (t := .named 3) (d := 15) (m := 100000) (it := 15) (left := v4) [1, 15, 17] [15, 100000, 100001] hN rfl rfl rfl rfl rfl rfl (by decide) (by decide) (by decide) (.tail _ (.head _)) (.head _) (.tail _ (.head _)) (fun (v8 : (List UInt8) × T_tree_File) (v9 : List ((List UInt8) × T_tree_File)) hp10 ha10 => ⟨⟨[(1, .mp 100001), (15, .loc 15 0), (17, .p .bool true)], [(15, .iter 100000 (.named 3) es3 ck3 ys3 v9 (some v8)), (100000, .mapE (.named 3) es3 ck3 ys3), (100001, .map (.named 3) a1)]⟩, by kernel_rfl, _, (cvR _), ?_⟩) (fun hl10 => ⟨⟨[(1, .mp 100001), (15, .loc 15 0), (17, .p .bool false)], [(15, .iter 100000 (.named 3) es3 ck3 ys3 v4 none), (100000, .mapE (.named 3) es3 ck3 ys3), (100001, .map (.named 3) a1)]⟩, by kernel_rfl, _, (cvR _), ?_⟩)
        · have h := tree_File_60_m0.l5_perm k a1 hp10 ha10 h
          unfold tree_File_60_m0.l5 at h
          obtain ⟨_, h⟩ := if_some h
          refine tnU ?_
          refine WpC.seq ?_
          refine cdU (b := true) (.tmp (.tail _ (.tail _ (.head _)))) (fun hc => ?_) (fun hc => ?_)
          · refine WpC.conv (cvK (b := ⟨[(1, .mp 100001), (15, .loc 15 0)], [(15, .iter 100000 (.named 3) es3 ck3 ys3 v9 (some v8)), (100000, .mapE (.named 3) es3 ck3 ys3), (100001, .map (.named 3) a1)]⟩) [1, 15] [15, 100000, 100001] (by kernel_rfl)) (WpC.skip ?_)
            refine tnU ?_
            refine WpC.block ?_
            refine WpC.seq ?_
            refine rgU (st1 := ⟨[(1, .mp 100001), (5, .p .str v8.1), (6, .loc 6 0), (15, .loc 15 0)], [(6, .box [.p .str v8.2.f_Name, .p .str v8.2.f_Content, .p I6 v8.2.f_Time]), (15, .iter 100000 (.named 3) es3 ck3 ys3 v9 (some v8)), (100000, .mapE (.named 3) es3 ck3 ys3), (100001, .map (.named 3) a1)]⟩) [1, 5, 6, 15] [6, 15, 100000, 100001] hN (.cons (sok_entry (U := Un) (t := .named 3) (rs := [(15, .loc 15 0)]) (d := 15) (m := 100000) (es := es3) (clock := ck3) (ys := ys3) (left := v9) (y := v8) rfl rfl o0) (.cons (exU (rs := [(18, .tup [.p .str v8.1, .p (.named 3) v8.2])]) rfl rfl o0 rfl) (.cons (exU (rs := [(18, .tup [.p .str v8.1, .p (.named 3) v8.2])]) rfl rfl o0 rfl) (.cons (sok_allocZ (U := Un) (rs := []) (d := 6) (us := [.p .str ([] : List UInt8), .p .str ([] : List UInt8), .p I6 (0 : Int)]) (v := (.agg #[.string ByteArray.empty, .string ByteArray.empty, .int .i64 0])) rfl rfl rfl (by kernel_rfl) rfl (.data (fun _ _ _ => rd_str0) (.data (fun _ _ _ => rd_str0) (.data (fun _ _ _ => .int _ _) .nil))) (by kernel_rfl)) (.cons (mvA (v := .p .str v8.1) rfl rfl) (.cons (sok_storeB (U := Un) (rs := [(6, .loc 6 0), (20, .p (.named 3) v8.2)]) (v := .p (.named 3) v8.2) (mid' := [.p .str v8.2.f_Name, .p .str v8.2.f_Content, .p I6 v8.2.f_Time]) [] [.p .str ([] : List UInt8), .p .str ([] : List UInt8), .p I6 (0 : Int)] [] rfl rfl rfl ty_24 o0 o1 (.data (.named (us := ([.p .str v8.2.f_Name, .p .str v8.2.f_Content, .p I6 v8.2.f_Time] : List (AVal Un))) (.pair (.one _ _) (.pair (.one _ _) (.pair (.one _ _) .unit))))) rfl rfl rfl rfl rfl rfl) .nil)))))) (by kernel_rfl) (by kernel_rfl) (by kernel_rfl) (cvR _) ?_
            refine tnU ?_
            refine WpC.seq ?_
            refine rgU (st1 := ⟨[(1, .mp 100001), (6, .loc 6 0), (7, .loc 7 0), (8, .p .bool ((mget v8.1 a1).isSome : Bool)), (15, .loc 15 0)], [(6, .box [.p .str v8.2.f_Name, .p .str v8.2.f_Content, .p I6 v8.2.f_Time]), (7, .box [.p .str (((mget v8.1 a1).getD (T_tree_File.mk [] [] 0)).f_Name : List UInt8), .p .str (((mget v8.1 a1).getD (T_tree_File.mk [] [] 0)).f_Content : List UInt8), .p I6 (((mget v8.1 a1).getD (T_tree_File.mk [] [] 0)).f_Time : Int)]), (15, .iter 100000 (.named 3) es3 ck3 ys3 v9 (some v8)), (100000, .mapE (.named 3) es3 ck3 ys3), (100001, .map (.named 3) a1)]⟩) [1, 6, 7, 8, 15] [6, 7, 15, 100000, 100001] hN (.cons (mvU (v := .mp 100001) rfl rfl) (.cons (mvU (v := .p .str v8.1) rfl rfl) (.cons (sok_lookup2 (U := Un) (t := .named 3) (kvs := a1) (rs := [(22, .mp 100001), (23, .p .str v8.1)]) rfl rfl map_86 zv_24 o0 o1) (.cons (mvU (v := .tup [.p (.named 3) (((mget v8.1 a1).getD (T_tree_File.mk [] [] 0)) : T_tree_File), .p .bool ((mget v8.1 a1).isSome : Bool)]) rfl rfl) (.cons (exU (rs := [(21, .tup [.p (.named 3) (((mget v8.1 a1).getD (T_tree_File.mk [] [] 0)) : T_tree_File), .p .bool ((mget v8.1 a1).isSome : Bool)])]) rfl rfl o0 rfl) (.cons (exU (rs := [(21, .tup [.p (.named 3) (((mget v8.1 a1).getD (T_tree_File.mk [] [] 0)) : T_tree_File), .p .bool ((mget v8.1 a1).isSome : Bool)])]) rfl rfl o0 rfl) (.cons (sok_allocZ (U := Un) (rs := []) (d := 7) (us := [.p .str ([] : List UInt8), .p .str ([] : List UInt8), .p I6 (0 : Int)]) (v := (.agg #[.string ByteArray.empty, .string ByteArray.empty, .int .i64 0])) rfl rfl rfl (by kernel_rfl) rfl (.data (fun _ _ _ => rd_str0) (.data (fun _ _ _ => rd_str0) (.data (fun _ _ _ => .int _ _) .nil))) (by kernel_rfl)) (.cons (sok_storeB (U := Un) (rs := [(7, .loc 7 0), (25, .p (.named 3) (((mget v8.1 a1).getD (T_tree_File.mk [] [] 0)) : T_tree_File))]) (v := .p (.named 3) (((mget v8.1 a1).getD (T_tree_File.mk [] [] 0)) : T_tree_File)) (mid' := [.p .str (((mget v8.1 a1).getD (T_tree_File.mk [] [] 0)).f_Name : List UInt8), .p .str (((mget v8.1 a1).getD (T_tree_File.mk [] [] 0)).f_Content : List UInt8), .p I6 (((mget v8.1 a1).getD (T_tree_File.mk [] [] 0)).f_Time : Int)]) [] [.p .str ([] : List UInt8), .p .str ([] : List UInt8), .p I6 (0 : Int)] [] rfl rfl rfl ty_24 o0 o1 (.data (.named (us := ([.p .str (((mget v8.1 a1).getD (T_tree_File.mk [] [] 0)).f_Name : List UInt8), .p .str (((mget v8.1 a1).getD (T_tree_File.mk [] [] 0)).f_Content : List UInt8), .p I6 (((mget v8.1 a1).getD (T_tree_File.mk [] [] 0)).f_Time : Int)] : List (AVal Un))) (.pair (.one _ _) (.pair (.one _ _) (.pair (.one _ _) .unit))))) rfl rfl rfl rfl rfl rfl) (.cons (mvA (v := .p .bool ((mget v8.1 a1).isSome : Bool)) rfl rfl) .nil))))))))) (by kernel_rfl) (by kernel_rfl) (by kernel_rfl) (cvR _) ?_
            refine tnU ?_
            refine sqJ (fun st' => ∃ v11 : Bool, tree_File_60_m0.j13 k (tree_File_60_m0.l5 k a1 n) a1 v8 v9 v11 = some o6 ∧ st' = ⟨[(1, .mp 100001), (15, .loc 15 0), (33, .p .bool v11)], [(15, .iter 100000 (.named 3) es3 ck3 ys3 v9 (some v8)), (100000, .mapE (.named 3) es3 ck3 ys3), (100001, .map (.named 3) a1)]⟩) ?_ ?_
            · rcases bool_cases (!((mget v8.1 a1).isSome)) with hc14 | hc14
              · replace h := ite_t hc14 h
                refine rgU (st1 := ⟨[(1, .mp 100001), (15, .loc 15 0), (33, .p .bool true)], [(15, .iter 100000 (.named 3) es3 ck3 ys3 v9 (some v8)), (100000, .mapE (.named 3) es3 ck3 ys3), (100001, .map (.named 3) a1)]⟩) [1, 15, 33] [15, 100000, 100001] hN (.cons (mvU (v := .p .bool ((mget v8.1 a1).isSome : Bool)) rfl rfl) (.cons (sok_not (U := Un) (rs := [(27, .p .bool ((mget v8.1 a1).isSome : Bool))]) rfl rfl o0) (.cons (mvU (v := .p .bool ((!((mget v8.1 a1).isSome)) : Bool)) rfl rfl) (.cons (skU rfl rfl hc14) (.cons (skU rfl rfl hc14) (.cons (skU rfl rfl hc14) (.cons (pkT (rs := [(29, .p .bool ((!((mget v8.1 a1).isSome)) : Bool))]) rfl rfl o0 hc14 (.bool _ _)) .nil))))))) (by kernel_rfl) (by kernel_rfl) (by kernel_rfl) (cvR _) ?_
                refine tnU ?_
                exact ⟨true, h, rfl⟩
              · replace h := ite_f hc14 h
                refine rgU (st1 := ⟨[(1, .mp 100001), (15, .loc 15 0), (33, .p .bool ((!(v8.2.f_Name == (((mget v8.1 a1).getD (T_tree_File.mk [] [] 0)).f_Name) && (v8.2.f_Content == (((mget v8.1 a1).getD (T_tree_File.mk [] [] 0)).f_Content) && (v8.2.f_Time == (((mget v8.1 a1).getD (T_tree_File.mk [] [] 0)).f_Time) && true)))) : Bool))], [(15, .iter 100000 (.named 3) es3 ck3 ys3 v9 (some v8)), (100000, .mapE (.named 3) es3 ck3 ys3), (100001, .map (.named 3) a1)]⟩) [1, 15, 33] [15, 100000, 100001] hN (.cons (mvU (v := .p .bool ((mget v8.1 a1).isSome : Bool)) rfl rfl) (.cons (sok_not (U := Un) (rs := [(27, .p .bool ((mget v8.1 a1).isSome : Bool))]) rfl rfl o0) (.cons (mvU (v := .p .bool ((!((mget v8.1 a1).isSome)) : Bool)) rfl rfl) (.cons (sok_run rfl rfl hc14 (ldB (t := .named 3) (rs := [(6, .loc 6 0)]) [] [.p .str v8.2.f_Name, .p .str v8.2.f_Content, .p I6 v8.2.f_Time] [] (v := .p (.named 3) ((T_tree_File.mk v8.2.f_Name v8.2.f_Content v8.2.f_Time) : T_tree_File)) rfl rfl ty_24 o0 rfl rfl rfl rfl (.data (.named (us := ([.p .str v8.2.f_Name, .p .str v8.2.f_Content, .p I6 v8.2.f_Time] : List (AVal Un))) (.pair (.one _ _) (.pair (.one _ _) (.pair (.one _ _) .unit))))))) (.cons (sok_run rfl rfl hc14 (ldB (t := .named 3) (rs := [(7, .loc 7 0)]) [] [.p .str (((mget v8.1 a1).getD (T_tree_File.mk [] [] 0)).f_Name : List UInt8), .p .str (((mget v8.1 a1).getD (T_tree_File.mk [] [] 0)).f_Content : List UInt8), .p I6 (((mget v8.1 a1).getD (T_tree_File.mk [] [] 0)).f_Time : Int)] [] (v := .p (.named 3) ((T_tree_File.mk (((mget v8.1 a1).getD (T_tree_File.mk [] [] 0)).f_Name) (((mget v8.1 a1).getD (T_tree_File.mk [] [] 0)).f_Content) (((mget v8.1 a1).getD (T_tree_File.mk [] [] 0)).f_Time)) : T_tree_File)) rfl rfl ty_24 o0 rfl rfl rfl rfl (.data (.named (us := ([.p .str (((mget v8.1 a1).getD (T_tree_File.mk [] [] 0)).f_Name : List UInt8), .p .str (((mget v8.1 a1).getD (T_tree_File.mk [] [] 0)).f_Content : List UInt8), .p I6 (((mget v8.1 a1).getD (T_tree_File.mk [] [] 0)).f_Time : Int)] : List (AVal Un))) (.pair (.one _ _) (.pair (.one _ _) (.pair (.one _ _) .unit))))))) (.cons (sok_run rfl rfl hc14 (sok_neS (U := Un) (rs := [(30, .p (.named 3) ((T_tree_File.mk v8.2.f_Name v8.2.f_Content v8.2.f_Time) : T_tree_File)), (31, .p (.named 3) ((T_tree_File.mk (((mget v8.1 a1).getD (T_tree_File.mk [] [] 0)).f_Name) (((mget v8.1 a1).getD (T_tree_File.mk [] [] 0)).f_Content) (((mget v8.1 a1).getD (T_tree_File.mk [] [] 0)).f_Time)) : T_tree_File))]) rfl rfl Tryd.underlying24 (by kernel_rfl) (eqf_24 _ Tryd.underlying24) (by kernel_rfl) o0 o1)) (.cons (pkF (rs := [(29, .p .bool ((!((mget v8.1 a1).isSome)) : Bool)), (32, .p .bool ((!(v8.2.f_Name == (((mget v8.1 a1).getD (T_tree_File.mk [] [] 0)).f_Name) && (v8.2.f_Content == (((mget v8.1 a1).getD (T_tree_File.mk [] [] 0)).f_Content) && (v8.2.f_Time == (((mget v8.1 a1).getD (T_tree_File.mk [] [] 0)).f_Time) && true)))) : Bool))]) rfl rfl o0 hc14 o1) .nil))))))) (by kernel_rfl) (by kernel_rfl) (by kernel_rfl) (cvR _) ?_
                refine tnU ?_
                exact ⟨(!(v8.2.f_Name == (((mget v8.1 a1).getD (T_tree_File.mk [] [] 0)).f_Name) && (v8.2.f_Content == (((mget v8.1 a1).getD (T_tree_File.mk [] [] 0)).f_Content) && (v8.2.f_Time == (((mget v8.1 a1).getD (T_tree_File.mk [] [] 0)).f_Time) && true)))), h, rfl⟩
            · rintro _ ⟨v11, h, rfl⟩
              unfold tree_File_60_m0.j13 at h
              refine cdU (b := v11) (.tmp (.tail _ (.tail _ (.head _)))) (fun hc12 => ?_) (fun hc12 => ?_)
              · replace h := ite_t hc12 h
                refine WpC.seq ?_
                refine rgU (st1 := ⟨[(4, .p .bool false)], [(100000, .mapE (.named 3) es3 ck3 ys3), (100001, .map (.named 3) a1)]⟩) [4] [100000, 100001] hN (.cons (moU (rs := []) rfl (.inr rfl) (.bool _ _)) .nil) (by kernel_rfl) (by kernel_rfl) (by kernel_rfl) (cvR _) ?_
                refine tnU ?_
                refine WpC.conv (cvT (Conv.closeMap (U := Un) (t := .named 3) (n := 100000) (.head _) hys3 hri3) (cvK (b := ⟨[(4, .p .bool false)], [(100000, .map (.named 3) a0), (100001, .map (.named 3) a1)]⟩) [4] [100000, 100001] (by kernel_rfl))) (WpC.ret ?_)
                refine blockQ_ret ?_
                have hq := Option.some.inj h
                subst hq
                refine thenQ_ret ?_
                have h := hout7
                refine blockQ_ret ?_
                refine thenQ_ret ?_
                have hq := Option.some.inj h
                subst hq
                exact ends_ret (retV_1 rfl (.head _)) (ain_cons (.head _) (ain_cons (.tail _ (.head _)) ain_nil))
              · replace h := ite_f hc12 h
                refine WpC.conv (cvT (cvK (b := ⟨[(1, .mp 100001), (15, .loc 15 0)], [(15, .iter 100000 (.named 3) es3 ck3 ys3 v9 (some v8)), (100000, .mapE (.named 3) es3 ck3 ys3), (100001, .map (.named 3) a1)]⟩) [1, 15] [15, 100000, 100001] (by kernel_rfl)) (cvT (Conv.iterRest (U := Un) (t := .named 3) (d := 15) (.head _)) (cvK (b := ⟨[(1, .mp 100001), (15, .loc 15 0)], [(15, .iter 100000 (.named 3) es3 ck3 ys3 v9 none), (100000, .mapE (.named 3) es3 ck3 ys3), (100001, .map (.named 3) a1)]⟩) [1, 15] [15, 100000, 100001] (by kernel_rfl)))) (WpC.skip ?_)
                refine blockQ_normal ?_
                refine tnU ?_
                exact ⟨n, Nat.lt_succ_self n, v9, h, rfl⟩
          · cases hc
        · subst hl10
          unfold tree_File_60_m0.l5 at h
          refine tnU ?_
          refine WpC.seq ?_
          refine cdU (b := false) (.tmp (.tail _ (.tail _ (.head _)))) (fun hc => ?_) (fun hc => ?_)
          · cases hc
          · refine WpC.conv (cvT (cvK (b := ⟨[], [(100000, .mapE (.named 3) es3 ck3 ys3), (100001, .map (.named 3) a1)]⟩) [] [100000, 100001] (by kernel_rfl)) (cvT (Conv.closeMap (U := Un) (t := .named 3) (n := 100000) (.head _) hys3 hri3) (cvK (b := ⟨[], [(100000, .map (.named 3) a0), (100001, .map (.named 3) a1)]⟩) [] [100000, 100001] (by kernel_rfl)))) (WpC.exit ?_)
            refine thenQ_exit ?_
            have hq := Option.some.inj h
            subst hq
            refine thenQ_exit ?_
            have h := hout7
            refine blockQ_hit ?_
            refine tnU ?_
            exact ⟨h, rfl⟩
    · rintro _ ⟨h, rfl⟩
      unfold tree_File_60_m0.j2 at h
      refine WpC.seq ?_
      refine rgU (st1 := ⟨[(4, .p .bool true)], [(100000, .map (.named 3) a0), (100001, .map (.named 3) a1)]⟩) [4] [100000, 100001] hN (.cons (moU (rs := []) rfl (.inr rfl) (.bool _ _)) .nil) (by kernel_rfl) (by kernel_rfl) (by kernel_rfl) (cvR _) ?_
      refine tnU ?_
      refine WpC.ret ?_
      have hq := Option.some.inj h
      subst hq
      exact ends_ret (retV_1 rfl (.head _)) (ain_cons (.head _) (ain_cons (.tail _ (.head _)) ain_nil))

end Go.Proofs.YtkdpaglpieamgaaDoor
