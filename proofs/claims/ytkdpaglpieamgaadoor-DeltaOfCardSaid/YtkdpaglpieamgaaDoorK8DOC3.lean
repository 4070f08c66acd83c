/- A part of the proof of a given law: DOC3. Own work, printed in part by a program of mine. -/
import Derived.Test.YtkdpaglpieamgaaDoorK8DOC2
namespace Go.Proofs.YtkdpaglpieamgaaDoor
open Go Go.AM
set_option linter.unusedVariables false
set_option linter.unusedSimpArgs false
set_option maxRecDepth 100000
theorem millwrightlaw41_of.ok (O : Out) (hO : GOk O) (k : Nat) (a0 : List T_delta_Change) (out : List T_millwrightref41_Change) (h : millwrightlaw41_of.f k a0 = some out) : COk Un O Tryd.prog 35 { ar := [.p (.list (.named 6)) a0], r := .p (.list (.named 7)) out } := by
  refine cok_of_wp Tryd.func35 rfl (k := 25) rfl (Nat.le_of_ble_eq_true rfl) (namesOk_pure rfl rfl rfl rfl) ?_
  intro B hN
  refine WpC.conv (cvK (b := ⟨[(0, .p (.list (.named 6)) a0)], []⟩) [0] [] (by kernel_rfl)) ?_
  unfold millwrightlaw41_of.f at h
  refine WpC.seq ?_
  refine rgU (st1 := ⟨[(0, .p (.list (.named 6)) a0)], []⟩) [0] [] hN (.cons (moU (rs := []) rfl (.inr rfl) (.lit _ _ rfl)) .nil) (by kernel_rfl) (by kernel_rfl) (by kernel_rfl) (cvR _) ?_
  refine tnU ?_
  refine WpC.seq ?_
  refine rgU (st1 := ⟨[(0, .p (.list (.named 6)) a0), (3, .vec 6 7 0 (([] : List T_millwrightref41_Change).length))], [(6, .row 77 (.named 7) ([] : List T_millwrightref41_Change) true)]⟩) [0, 3] [6] hN (.cons (sok_buildSlice (U := Un) (t := .named 7) (rs := []) (ys := []) (xs := ([] : List T_millwrightref41_Change)) rfl rfl rfl rfl row_66 .nil (by decide)) (.cons (mvA (v := .vec 6 7 0 (([] : List T_millwrightref41_Change).length)) rfl rfl) .nil)) (by kernel_rfl) (by kernel_rfl) (by kernel_rfl) (Conv.cast (U := Un) (st' := ⟨[(0, .p (.list (.named 6)) a0), (3, .vec 6 7 0 0)], [(6, .row 77 (.named 7) ([] : List T_millwrightref41_Change) true)]⟩) (by simp only [upd_length, List.length_nil, List.length_replicate])) ?_
  refine tnU ?_
  refine sqJ (fun st' => ∃ v1 : List T_millwrightref41_Change, millwrightlaw41_of.j2 k v1 = some out ∧ st' = ⟨[(3, .vec 1003 7 0 v1.length)], [(1003, .row 77 (.named 7) v1 false)]⟩) ?_ ?_
  · refine WpC.seq ?_
    refine rgU (st1 := ⟨[(3, .vec 6 7 0 0), (7, .p (.list (.named 6)) a0), (8, .p I6 ((a0.length : Int) : Int)), (9, .p I6 (0 : Int))], [(6, .row 77 (.named 7) ([] : List T_millwrightref41_Change) true)]⟩) [3, 7, 8, 9] [6] hN (.cons (mvU (v := .p (.list (.named 6)) a0) rfl rfl) (.cons (sok_lenL (U := Un) (rs := [(7, .p (.list (.named 6)) a0)]) rfl rfl Tryd.underlying60 o0) (.cons (moU (rs := []) rfl (.inl rfl) (.int _ _ _)) .nil))) (by kernel_rfl) (by kernel_rfl) (by kernel_rfl) (cvR _) ?_
    refine tnU ?_
    refine WpC.block ?_
    obtain ⟨o7, hlo7, h⟩ := bind_some h
    have hout8 := h
    clear h
    refine WpC.conv (cvT (Conv.loose (U := Un) 6 77 (.named 7) ([] : List T_millwrightref41_Change) (.head _)) (cvT (cvK (b := ⟨[(3, .vec 6 7 0 0), (7, .p (.list (.named 6)) a0), (8, .p I6 ((a0.length : Int) : Int)), (9, .p I6 (0 : Int))], [(6, .row 77 (.named 7) ([] : List T_millwrightref41_Change) false)]⟩) [3, 7, 8, 9] [6] (by kernel_rfl)) (cvT (Conv.ren (U := Un) (st' := ⟨[(3, .vec 1003 7 0 0), (7, .p (.list (.named 6)) a0), (8, .p I6 ((a0.length : Int) : Int)), (9, .p I6 (0 : Int))], [(1003, .row 77 (.named 7) ([] : List T_millwrightref41_Change) false)]⟩) 6 1003 (by unfold K0; omega) (by kernel_rfl) (by kernel_rfl) (by kernel_rfl)) (cvK (b := ⟨[(3, .vec 1003 7 0 0), (7, .p (.list (.named 6)) a0), (8, .p I6 ((a0.length : Int) : Int)), (9, .p I6 (0 : Int))], [(1003, .row 77 (.named 7) ([] : List T_millwrightref41_Change) false)]⟩) [3, 7, 8, 9] [1003] (by kernel_rfl))))) ?_
    refine WpC.loop (U := Un) (fun n st' => ∃ v3 : List T_millwrightref41_Change, ∃ v4 : Int, millwrightlaw41_of.l5 k a0 n v3 v4 = some o7 ∧ st' = ⟨[(3, .vec 1003 7 0 v3.length), (7, .p (.list (.named 6)) a0), (8, .p I6 ((a0.length : Int) : Int)), (9, .p I6 v4)], [(1003, .row 77 (.named 7) v3 false)]⟩) k ⟨([] : List T_millwrightref41_Change), 0, hlo7, rfl⟩ ?_
    clear hlo7
    rintro (_ | n) _ ⟨v3, v4, h, rfl⟩
    · cases h
    · rw [millwrightlaw41_of.l5] at h
      refine WpC.seq ?_
      refine rgU (st1 := ⟨[(3, .vec 1003 7 0 v3.length), (7, .p (.list (.named 6)) a0), (8, .p I6 ((a0.length : Int) : Int)), (9, .p I6 v4), (10, .p .bool ((decide (v4 < (a0.length : Int))) : Bool))], [(1003, .row 77 (.named 7) v3 false)]⟩) [3, 7, 8, 9, 10] [1003] hN (.cons (cmU (rs := [(9, .p I6 v4), (8, .p I6 ((a0.length : Int) : Int))]) rfl rfl o0 o1 rfl) .nil) (by kernel_rfl) (by kernel_rfl) (by kernel_rfl) (cvR _) ?_
      refine tnU ?_
      refine WpC.seq ?_
      refine cdU (b := (decide (v4 < (a0.length : Int)))) (.tmp (.tail _ (.tail _ (.tail _ (.tail _ (.head _)))))) (fun hc9 => ?_) (fun hc9 => ?_)
      · replace h := ite_t hc9 h
        refine WpC.conv (cvK (b := ⟨[(3, .vec 1003 7 0 v3.length), (7, .p (.list (.named 6)) a0), (8, .p I6 ((a0.length : Int) : Int)), (9, .p I6 v4)], [(1003, .row 77 (.named 7) v3 false)]⟩) [3, 7, 8, 9] [1003] (by kernel_rfl)) (WpC.skip ?_)
        refine tnU ?_
        refine WpC.seq ?_
        refine WpC.block ?_
        refine WpC.seq ?_
        obtain ⟨v10, hv10, h⟩ := bind_some h
        refine rgU (st1 := ⟨[(3, .vec 1003 7 0 v3.length), (5, .loc 5 0), (7, .p (.list (.named 6)) a0), (8, .p I6 ((a0.length : Int) : Int)), (9, .p I6 v4)], [(5, .box [.p I6 v10.f_Kind, .p .str v10.f_Old.f_Name, .p .str v10.f_Old.f_Content, .p I6 v10.f_Old.f_Time, .p .str v10.f_New.f_Name, .p .str v10.f_New.f_Content, .p I6 v10.f_New.f_Time]), (1003, .row 77 (.named 7) v3 false)]⟩) [3, 5, 7, 8, 9] [5, 1003] hN (.cons (sok_indexL (U := Un) (rs := [(7, .p (.list (.named 6)) a0), (9, .p I6 v4)]) rfl rfl sl_60 o0 o1 hv10) (.cons (sok_loadP (U := Un) (rs := [(11, .pp (.named 6) v10)]) rfl rfl ty_103 o0) (.cons (sok_allocZ (U := Un) (rs := []) (d := 5) (us := [.p I6 (0 : Int), .p .str ([] : List UInt8), .p .str ([] : List UInt8), .p I6 (0 : Int), .p .str ([] : List UInt8), .p .str ([] : List UInt8), .p I6 (0 : Int)]) (v := (.agg #[.int .i64 0, .string ByteArray.empty, .string ByteArray.empty, .int .i64 0, .string ByteArray.empty, .string ByteArray.empty, .int .i64 0])) rfl rfl rfl (by kernel_rfl) rfl (.data (fun _ _ _ => .int _ _) (.data (fun _ _ _ => rd_str0) (.data (fun _ _ _ => rd_str0) (.data (fun _ _ _ => .int _ _) (.data (fun _ _ _ => rd_str0) (.data (fun _ _ _ => rd_str0) (.data (fun _ _ _ => .int _ _) .nil))))))) (by kernel_rfl)) (.cons (sok_storeB (U := Un) (rs := [(5, .loc 5 0), (12, .p (.named 6) v10)]) (v := .p (.named 6) v10) (mid' := [.p I6 v10.f_Kind, .p .str v10.f_Old.f_Name, .p .str v10.f_Old.f_Content, .p I6 v10.f_Old.f_Time, .p .str v10.f_New.f_Name, .p .str v10.f_New.f_Content, .p I6 v10.f_New.f_Time]) [] [.p I6 (0 : Int), .p .str ([] : List UInt8), .p .str ([] : List UInt8), .p I6 (0 : Int), .p .str ([] : List UInt8), .p .str ([] : List UInt8), .p I6 (0 : Int)] [] rfl rfl rfl ty_103 o0 o1 (.data (.named (us := ([.p I6 v10.f_Kind, .p .str v10.f_Old.f_Name, .p .str v10.f_Old.f_Content, .p I6 v10.f_Old.f_Time, .p .str v10.f_New.f_Name, .p .str v10.f_New.f_Content, .p I6 v10.f_New.f_Time] : List (AVal Un))) (.pair (.one _ _) (.pair (.named (us := ([.p .str v10.f_Old.f_Name, .p .str v10.f_Old.f_Content, .p I6 v10.f_Old.f_Time] : List (AVal Un))) (.pair (.one _ _) (.pair (.one _ _) (.pair (.one _ _) .unit)))) (.pair (.named (us := ([.p .str v10.f_New.f_Name, .p .str v10.f_New.f_Content, .p I6 v10.f_New.f_Time] : List (AVal Un))) (.pair (.one _ _) (.pair (.one _ _) (.pair (.one _ _) .unit)))) .unit))))) rfl rfl rfl rfl rfl rfl) .nil)))) (by kernel_rfl) (by kernel_rfl) (by kernel_rfl) (cvR _) ?_
        refine tnU ?_
        obtain ⟨g11, h⟩ := if_some h
        refine rgU (st1 := ⟨[(3, .vec 22 7 0 ((v3 ++ [(T_millwrightref41_Change.mk v10.f_Kind (T_tree_File.mk v10.f_Old.f_Name v10.f_Old.f_Content v10.f_Old.f_Time) (T_tree_File.mk v10.f_New.f_Name v10.f_New.f_Content v10.f_New.f_Time))]).length)), (7, .p (.list (.named 6)) a0), (8, .p I6 ((a0.length : Int) : Int)), (9, .p I6 v4)], [(22, .row 77 (.named 7) (v3 ++ [(T_millwrightref41_Change.mk v10.f_Kind (T_tree_File.mk v10.f_Old.f_Name v10.f_Old.f_Content v10.f_Old.f_Time) (T_tree_File.mk v10.f_New.f_Name v10.f_New.f_Content v10.f_New.f_Time))]) false)]⟩) [3, 7, 8, 9] [22] hN (.cons (mvU (v := .vec 1003 7 0 v3.length) rfl rfl) (.cons (fdB (rs := [(5, .loc 5 0)]) rfl rfl fd_103_0 (by decide) o0) (.cons (ldB (t := .int .i64) (rs := [(14, .loc 5 0)]) [] [.p I6 v10.f_Kind] [.p .str v10.f_Old.f_Name, .p .str v10.f_Old.f_Content, .p I6 v10.f_Old.f_Time, .p .str v10.f_New.f_Name, .p .str v10.f_New.f_Content, .p I6 v10.f_New.f_Time] (v := .p I6 v10.f_Kind) rfl rfl ty_3 o0 rfl rfl rfl rfl (.data (.one _ _))) (.cons (fdB (rs := [(5, .loc 5 0)]) rfl rfl fd_103_1 (by decide) o0) (.cons (ldB (t := .named 3) (rs := [(16, .loc 5 1)]) [.p I6 v10.f_Kind] [.p .str v10.f_Old.f_Name, .p .str v10.f_Old.f_Content, .p I6 v10.f_Old.f_Time] [.p .str v10.f_New.f_Name, .p .str v10.f_New.f_Content, .p I6 v10.f_New.f_Time] (v := .p (.named 3) ((T_tree_File.mk v10.f_Old.f_Name v10.f_Old.f_Content v10.f_Old.f_Time) : T_tree_File)) rfl rfl ty_24 o0 rfl rfl rfl rfl (.data (.named (us := ([.p .str v10.f_Old.f_Name, .p .str v10.f_Old.f_Content, .p I6 v10.f_Old.f_Time] : List (AVal Un))) (.pair (.one _ _) (.pair (.one _ _) (.pair (.one _ _) .unit)))))) (.cons (fdB (rs := [(5, .loc 5 0)]) rfl rfl fd_103_2 (by decide) o0) (.cons (ldB (t := .named 3) (rs := [(18, .loc 5 4)]) [.p I6 v10.f_Kind, .p .str v10.f_Old.f_Name, .p .str v10.f_Old.f_Content, .p I6 v10.f_Old.f_Time] [.p .str v10.f_New.f_Name, .p .str v10.f_New.f_Content, .p I6 v10.f_New.f_Time] [] (v := .p (.named 3) ((T_tree_File.mk v10.f_New.f_Name v10.f_New.f_Content v10.f_New.f_Time) : T_tree_File)) rfl rfl ty_24 o0 rfl rfl rfl rfl (.data (.named (us := ([.p .str v10.f_New.f_Name, .p .str v10.f_New.f_Content, .p I6 v10.f_New.f_Time] : List (AVal Un))) (.pair (.one _ _) (.pair (.one _ _) (.pair (.one _ _) .unit)))))) (.cons (sok_build (U := Un) (t := .named 7) (rs := [(15, .p I6 v10.f_Kind), (17, .p (.named 3) ((T_tree_File.mk v10.f_Old.f_Name v10.f_Old.f_Content v10.f_Old.f_Time) : T_tree_File)), (19, .p (.named 3) ((T_tree_File.mk v10.f_New.f_Name v10.f_New.f_Content v10.f_New.f_Time) : T_tree_File))]) (us0 := [.p I6 (0 : Int), .p .str ([] : List UInt8), .p .str ([] : List UInt8), .p I6 (0 : Int), .p .str ([] : List UInt8), .p .str ([] : List UInt8), .p I6 (0 : Int)]) (us := [.p I6 v10.f_Kind, .p .str v10.f_Old.f_Name, .p .str v10.f_Old.f_Content, .p I6 v10.f_Old.f_Time, .p .str v10.f_New.f_Name, .p .str v10.f_New.f_Content, .p I6 v10.f_New.f_Time]) (v := .p (.named 7) ((T_millwrightref41_Change.mk v10.f_Kind (T_tree_File.mk v10.f_Old.f_Name v10.f_Old.f_Content v10.f_Old.f_Time) (T_tree_File.mk v10.f_New.f_Name v10.f_New.f_Content v10.f_New.f_Time)) : T_millwrightref41_Change)) rfl rfl lays_77 (.data (fun _ _ _ => .int _ _) (.data (fun _ _ _ => rd_str0) (.data (fun _ _ _ => rd_str0) (.data (fun _ _ _ => .int _ _) (.data (fun _ _ _ => rd_str0) (.data (fun _ _ _ => rd_str0) (.data (fun _ _ _ => .int _ _) .nil))))))) (Filled.cons (U := Un) (i := 0) (v := .p I6 v10.f_Kind) [] [.p I6 (0 : Int)] [.p I6 v10.f_Kind] [.p .str ([] : List UInt8), .p .str ([] : List UInt8), .p I6 (0 : Int), .p .str ([] : List UInt8), .p .str ([] : List UInt8), .p I6 (0 : Int)] o0 (.data (.one _ _)) rfl rfl rfl rfl rfl rfl (Filled.cons (U := Un) (i := 1) (v := .p (.named 3) ((T_tree_File.mk v10.f_Old.f_Name v10.f_Old.f_Content v10.f_Old.f_Time) : T_tree_File)) [.p I6 v10.f_Kind] [.p .str ([] : List UInt8), .p .str ([] : List UInt8), .p I6 (0 : Int)] [.p .str v10.f_Old.f_Name, .p .str v10.f_Old.f_Content, .p I6 v10.f_Old.f_Time] [.p .str ([] : List UInt8), .p .str ([] : List UInt8), .p I6 (0 : Int)] o1 (.data (.named (us := ([.p .str v10.f_Old.f_Name, .p .str v10.f_Old.f_Content, .p I6 v10.f_Old.f_Time] : List (AVal Un))) (.pair (.one _ _) (.pair (.one _ _) (.pair (.one _ _) .unit))))) rfl rfl rfl rfl rfl rfl (Filled.cons (U := Un) (i := 2) (v := .p (.named 3) ((T_tree_File.mk v10.f_New.f_Name v10.f_New.f_Content v10.f_New.f_Time) : T_tree_File)) [.p I6 v10.f_Kind, .p .str v10.f_Old.f_Name, .p .str v10.f_Old.f_Content, .p I6 v10.f_Old.f_Time] [.p .str ([] : List UInt8), .p .str ([] : List UInt8), .p I6 (0 : Int)] [.p .str v10.f_New.f_Name, .p .str v10.f_New.f_Content, .p I6 v10.f_New.f_Time] [] (.tmp (.tail _ (.tail _ (.head _)))) (.data (.named (us := ([.p .str v10.f_New.f_Name, .p .str v10.f_New.f_Content, .p I6 v10.f_New.f_Time] : List (AVal Un))) (.pair (.one _ _) (.pair (.one _ _) (.pair (.one _ _) .unit))))) rfl rfl rfl rfl rfl rfl (.nil _)))) rfl (.data (.named (us := ([.p I6 v10.f_Kind, .p .str v10.f_Old.f_Name, .p .str v10.f_Old.f_Content, .p I6 v10.f_Old.f_Time, .p .str v10.f_New.f_Name, .p .str v10.f_New.f_Content, .p I6 v10.f_New.f_Time] : List (AVal Un))) (.pair (.one _ _) (.pair (.named (us := ([.p .str v10.f_Old.f_Name, .p .str v10.f_Old.f_Content, .p I6 v10.f_Old.f_Time] : List (AVal Un))) (.pair (.one _ _) (.pair (.one _ _) (.pair (.one _ _) .unit)))) (.pair (.named (us := ([.p .str v10.f_New.f_Name, .p .str v10.f_New.f_Content, .p I6 v10.f_New.f_Time] : List (AVal Un))) (.pair (.one _ _) (.pair (.one _ _) (.pair (.one _ _) .unit)))) .unit)))))) (.cons (sok_buildSlice (U := Un) (t := .named 7) (rs := [(20, .p (.named 7) ((T_millwrightref41_Change.mk v10.f_Kind (T_tree_File.mk v10.f_Old.f_Name v10.f_Old.f_Content v10.f_Old.f_Time) (T_tree_File.mk v10.f_New.f_Name v10.f_New.f_Content v10.f_New.f_Time)) : T_millwrightref41_Change))]) (ys := [.tmp 20]) (xs := [(T_millwrightref41_Change.mk v10.f_Kind (T_tree_File.mk v10.f_Old.f_Name v10.f_Old.f_Content v10.f_Old.f_Time) (T_tree_File.mk v10.f_New.f_Name v10.f_New.f_Content v10.f_New.f_Time))]) rfl rfl rfl rfl row_66 (.cons o0 .nil) (by decide)) (.cons (sok_append' (U := Un) (t := .named 7) (rs := [(13, .vec 1003 7 0 v3.length), (21, .vec 21 7 0 ([(T_millwrightref41_Change.mk v10.f_Kind (T_tree_File.mk v10.f_Old.f_Name v10.f_Old.f_Content v10.f_Old.f_Time) (T_tree_File.mk v10.f_New.f_Name v10.f_New.f_Content v10.f_New.f_Time))].length))]) (vw := [(21, .row 77 (.named 7) [(T_millwrightref41_Change.mk v10.f_Kind (T_tree_File.mk v10.f_Old.f_Name v10.f_Old.f_Content v10.f_Old.f_Time) (T_tree_File.mk v10.f_New.f_Name v10.f_New.f_Content v10.f_New.f_Time))] true)]) (xs := v3) (ys := [(T_millwrightref41_Change.mk v10.f_Kind (T_tree_File.mk v10.f_Old.f_Name v10.f_Old.f_Content v10.f_Old.f_Time) (T_tree_File.mk v10.f_New.f_Name v10.f_New.f_Content v10.f_New.f_Time))]) (fx := false) rfl rfl rfl row_66 (by decide) o0 o1 (.whole (.head _)) (by simp) g11) (.cons (mvA (v := .vec 22 7 0 ((v3 ++ [(T_millwrightref41_Change.mk v10.f_Kind (T_tree_File.mk v10.f_Old.f_Name v10.f_Old.f_Content v10.f_Old.f_Time) (T_tree_File.mk v10.f_New.f_Name v10.f_New.f_Content v10.f_New.f_Time))]).length)) rfl rfl) .nil))))))))))) (by kernel_rfl) (by kernel_rfl) (by kernel_rfl) (cvR _) ?_
        refine blockQ_normal ?_
        refine tnU ?_
        refine rgU (st1 := ⟨[(3, .vec 22 7 0 ((v3 ++ [(T_millwrightref41_Change.mk v10.f_Kind (T_tree_File.mk v10.f_Old.f_Name v10.f_Old.f_Content v10.f_Old.f_Time) (T_tree_File.mk v10.f_New.f_Name v10.f_New.f_Content v10.f_New.f_Time))]).length)), (7, .p (.list (.named 6)) a0), (8, .p I6 ((a0.length : Int) : Int)), (9, .p I6 ((IntKind.i64.wrap (v4 + 1)) : Int))], [(22, .row 77 (.named 7) (v3 ++ [(T_millwrightref41_Change.mk v10.f_Kind (T_tree_File.mk v10.f_Old.f_Name v10.f_Old.f_Content v10.f_Old.f_Time) (T_tree_File.mk v10.f_New.f_Name v10.f_New.f_Content v10.f_New.f_Time))]) false)]⟩) [3, 7, 8, 9] [22] hN (.cons (sok_arith (U := Un) (rs := [(9, .p I6 v4)]) rfl rfl o0 (.int _ _ _) rfl) (.cons (mvU (v := .p I6 ((IntKind.i64.wrap (v4 + 1)) : Int)) rfl rfl) .nil)) (by kernel_rfl) (by kernel_rfl) (by kernel_rfl) (cvT (Conv.ren (U := Un) (st' := ⟨[(3, .vec 1003 7 0 ((v3 ++ [(T_millwrightref41_Change.mk v10.f_Kind (T_tree_File.mk v10.f_Old.f_Name v10.f_Old.f_Content v10.f_Old.f_Time) (T_tree_File.mk v10.f_New.f_Name v10.f_New.f_Content v10.f_New.f_Time))]).length)), (7, .p (.list (.named 6)) a0), (8, .p I6 ((a0.length : Int) : Int)), (9, .p I6 ((IntKind.i64.wrap (v4 + 1)) : Int))], [(1003, .row 77 (.named 7) (v3 ++ [(T_millwrightref41_Change.mk v10.f_Kind (T_tree_File.mk v10.f_Old.f_Name v10.f_Old.f_Content v10.f_Old.f_Time) (T_tree_File.mk v10.f_New.f_Name v10.f_New.f_Content v10.f_New.f_Time))]) false)]⟩) 22 1003 (by unfold K0; omega) (by kernel_rfl) (by kernel_rfl) (by kernel_rfl)) (cvK (b := ⟨[(3, .vec 1003 7 0 ((v3 ++ [(T_millwrightref41_Change.mk v10.f_Kind (T_tree_File.mk v10.f_Old.f_Name v10.f_Old.f_Content v10.f_Old.f_Time) (T_tree_File.mk v10.f_New.f_Name v10.f_New.f_Content v10.f_New.f_Time))]).length)), (7, .p (.list (.named 6)) a0), (8, .p I6 ((a0.length : Int) : Int)), (9, .p I6 ((IntKind.i64.wrap (v4 + 1)) : Int))], [(1003, .row 77 (.named 7) (v3 ++ [(T_millwrightref41_Change.mk v10.f_Kind (T_tree_File.mk v10.f_Old.f_Name v10.f_Old.f_Content v10.f_Old.f_Time) (T_tree_File.mk v10.f_New.f_Name v10.f_New.f_Content v10.f_New.f_Time))]) false)]⟩) [3, 7, 8, 9] [1003] (by kernel_rfl))) ?_
        refine tnU ?_
        exact ⟨n, Nat.lt_succ_self n, (v3 ++ [(T_millwrightref41_Change.mk v10.f_Kind (T_tree_File.mk v10.f_Old.f_Name v10.f_Old.f_Content v10.f_Old.f_Time) (T_tree_File.mk v10.f_New.f_Name v10.f_New.f_Content v10.f_New.f_Time))]), (IntKind.i64.wrap (v4 + 1)), h, rfl⟩
      · replace h := ite_f hc9 h
        refine WpC.conv (cvK (b := ⟨[(3, .vec 1003 7 0 v3.length)], [(1003, .row 77 (.named 7) v3 false)]⟩) [3] [1003] (by kernel_rfl)) (WpC.exit ?_)
        refine thenQ_exit ?_
        have hq := Option.some.inj h
        subst hq
        refine thenQ_exit ?_
        have h := hout8
        refine blockQ_hit ?_
        refine tnU ?_
        exact ⟨v3, h, rfl⟩
  · rintro _ ⟨v1, h, rfl⟩
    unfold millwrightlaw41_of.j2 at h
    refine WpC.seq ?_
    refine rgU (st1 := ⟨[(2, .vec 1003 7 0 v1.length)], [(1003, .row 77 (.named 7) v1 false)]⟩) [2] [1003] hN (.cons (mvU (v := .vec 1003 7 0 v1.length) rfl rfl) (.cons (mvA (v := .vec 1003 7 0 v1.length) rfl rfl) .nil)) (by kernel_rfl) (by kernel_rfl) (by kernel_rfl) (cvR _) ?_
    refine tnU ?_
    refine WpC.conv (cvT (Conv.freeze (U := Un) 2 1003 77 _ (.named 7) v1 false (.head _) (by first | rfl | (simp only [upd_length, List.length_replicate, List.length_append]; done) | (simp only [upd_length, List.length_replicate, List.length_append] at *; omega) | omega) (.head _) (by first | (simp [Blk.names]; done) | (simp [Blk.names, AVal.namesL, AVal.names]; done) | (simp [Blk.names]; decide))) (cvK (b := ⟨[(2, .p (.list (.named 7)) v1)], []⟩) [2] [] (by kernel_rfl))) (WpC.ret ?_)
    have hq := Option.some.inj h
    subst hq
    exact ends_ret (retV_1 rfl (.head _)) ain_nil

theorem millwrightlaw41_same.ok (O : Out) (hO : GOk O) (k : Nat) (a0 : List T_delta_Change) (a1 : List T_millwrightref41_Change) (out : Bool) (h : millwrightlaw41_same.f k a0 a1 = some out) : COk Un O Tryd.prog 33 { ar := [.p (.list (.named 6)) a0, .p (.list (.named 7)) a1], r := .p .bool out } := by
  refine cok_of_wp Tryd.func33 rfl (k := 27) rfl (Nat.le_of_ble_eq_true rfl) (namesOk_pure rfl rfl rfl rfl) ?_
  intro B hN
  refine WpC.conv (cvK (b := ⟨[(0, .p (.list (.named 6)) a0), (1, .p (.list (.named 7)) a1)], []⟩) [0, 1] [] (by kernel_rfl)) ?_
  unfold millwrightlaw41_same.f at h
  refine WpC.seq ?_
  refine rgU (st1 := ⟨[(0, .p (.list (.named 6)) a0), (1, .p (.list (.named 7)) a1)], []⟩) [0, 1] [] hN (.cons (moU (rs := []) rfl (.inr rfl) (.bool _ _)) .nil) (by kernel_rfl) (by kernel_rfl) (by kernel_rfl) (cvR _) ?_
  refine tnU ?_
  refine WpC.seq ?_
  refine WpC.seq ?_
  refine rgU (st1 := ⟨[(0, .p (.list (.named 6)) a0), (1, .p (.list (.named 7)) a1), (11, .p .bool (((a0.length : Int) != (a1.length : Int)) : Bool))], []⟩) [0, 1, 11] [] hN (.cons (mvU (v := .p (.list (.named 6)) a0) rfl rfl) (.cons (sok_lenL (U := Un) (rs := [(7, .p (.list (.named 6)) a0)]) rfl rfl Tryd.underlying60 o0) (.cons (mvU (v := .p (.list (.named 7)) a1) rfl rfl) (.cons (sok_lenL (U := Un) (rs := [(9, .p (.list (.named 7)) a1)]) rfl rfl Tryd.underlying66 o0) (.cons (cmU (rs := [(8, .p I6 ((a0.length : Int) : Int)), (10, .p I6 ((a1.length : Int) : Int))]) rfl rfl o0 o1 rfl) .nil))))) (by kernel_rfl) (by kernel_rfl) (by kernel_rfl) (cvR _) ?_
  refine tnU ?_
  refine cdU (b := ((a0.length : Int) != (a1.length : Int))) (.tmp (.tail _ (.tail _ (.head _)))) (fun hc1 => ?_) (fun hc1 => ?_)
  · replace h := ite_t hc1 h
    refine WpC.seq ?_
    refine rgU (st1 := ⟨[(4, .p .bool false)], []⟩) [4] [] hN (.cons (moU (rs := []) rfl (.inr rfl) (.bool _ _)) .nil) (by kernel_rfl) (by kernel_rfl) (by kernel_rfl) (cvR _) ?_
    refine tnU ?_
    refine WpC.ret ?_
    refine thenQ_ret ?_
    have hq := Option.some.inj h
    subst hq
    exact ends_ret (retV_1 rfl (.head _)) ain_nil
  · replace h := ite_f hc1 h
    refine WpC.conv (cvK (b := ⟨[(0, .p (.list (.named 6)) a0), (1, .p (.list (.named 7)) a1)], []⟩) [0, 1] [] (by kernel_rfl)) (WpC.skip ?_)
    refine tnU ?_
    refine sqJ (fun st' => millwrightlaw41_same.j2 k = some out ∧ st' = ⟨[], []⟩) ?_ ?_
    · refine WpC.seq ?_
      obtain ⟨v3, hv3, h⟩ := bind_some h
      refine rgU (st1 := ⟨[(1, .p (.list (.named 7)) a1), (13, .p (.list (.named 7)) v3), (14, .p I6 ((v3.length : Int) : Int)), (15, .p I6 (0 : Int))], []⟩) [1, 13, 14, 15] [] hN (.cons (mvU (v := .p (.list (.named 6)) a0) rfl rfl) (.cons (caV (rs := [(12, .p (.list (.named 6)) a0)]) (vw := []) rfl rfl (.func _) hb_35 (millwrightlaw41_of.ok O hO k a0 v3 hv3) (.cons o0 .nil) (.cons (.same _) .nil) (by simp) (.inl rfl)) (.cons (sok_lenL (U := Un) (rs := [(13, .p (.list (.named 7)) v3)]) rfl rfl Tryd.underlying66 o0) (.cons (moU (rs := []) rfl (.inl rfl) (.int _ _ _)) .nil)))) (by kernel_rfl) (by kernel_rfl) (by kernel_rfl) (cvR _) ?_
      refine tnU ?_
      refine WpC.block ?_
      obtain ⟨o6, hlo6, h⟩ := bind_some h
      have hout7 := h
      clear h
      refine WpC.loop (U := Un) (fun n st' => ∃ v4 : Int, millwrightlaw41_same.l5 k a1 v3 n v4 = some o6 ∧ st' = ⟨[(1, .p (.list (.named 7)) a1), (13, .p (.list (.named 7)) v3), (14, .p I6 ((v3.length : Int) : Int)), (15, .p I6 v4)], []⟩) k ⟨0, hlo6, rfl⟩ ?_
      clear hlo6
      rintro (_ | n) _ ⟨v4, h, rfl⟩
      · cases h
      · rw [millwrightlaw41_same.l5] at h
        refine WpC.seq ?_
        refine rgU (st1 := ⟨[(1, .p (.list (.named 7)) a1), (13, .p (.list (.named 7)) v3), (14, .p I6 ((v3.length : Int) : Int)), (15, .p I6 v4), (16, .p .bool ((decide (v4 < (v3.length : Int))) : Bool))], []⟩) [1, 13, 14, 15, 16] [] hN (.cons (cmU (rs := [(15, .p I6 v4), (14, .p I6 ((v3.length : Int) : Int))]) rfl rfl o0 o1 rfl) .nil) (by kernel_rfl) (by kernel_rfl) (by kernel_rfl) (cvR _) ?_
        refine tnU ?_
        refine WpC.seq ?_
        refine cdU (b := (decide (v4 < (v3.length : Int)))) (.tmp (.tail _ (.tail _ (.tail _ (.tail _ (.head _)))))) (fun hc8 => ?_) (fun hc8 => ?_)
        · replace h := ite_t hc8 h
          refine WpC.conv (cvK (b := ⟨[(1, .p (.list (.named 7)) a1), (13, .p (.list (.named 7)) v3), (14, .p I6 ((v3.length : Int) : Int)), (15, .p I6 v4)], []⟩) [1, 13, 14, 15] [] (by kernel_rfl)) (WpC.skip ?_)
          refine tnU ?_
          refine WpC.seq ?_
          refine WpC.block ?_
          refine WpC.seq ?_
          obtain ⟨v9, hv9, h⟩ := bind_some h
          refine rgU (st1 := ⟨[(1, .p (.list (.named 7)) a1), (5, .p I6 v4), (6, .loc 6 0), (13, .p (.list (.named 7)) v3), (14, .p I6 ((v3.length : Int) : Int)), (15, .p I6 v4)], [(6, .box [.p I6 v9.f_Kind, .p .str v9.f_Old.f_Name, .p .str v9.f_Old.f_Content, .p I6 v9.f_Old.f_Time, .p .str v9.f_New.f_Name, .p .str v9.f_New.f_Content, .p I6 v9.f_New.f_Time])]⟩) [1, 5, 6, 13, 14, 15] [6] hN (.cons (mvU (v := .p I6 v4) rfl rfl) (.cons (sok_indexL (U := Un) (rs := [(13, .p (.list (.named 7)) v3), (15, .p I6 v4)]) rfl rfl sl_66 o0 o1 hv9) (.cons (sok_loadP (U := Un) (rs := [(18, .pp (.named 7) v9)]) rfl rfl ty_77 o0) (.cons (sok_allocZ (U := Un) (rs := []) (d := 6) (us := [.p I6 (0 : Int), .p .str ([] : List UInt8), .p .str ([] : List UInt8), .p I6 (0 : Int), .p .str ([] : List UInt8), .p .str ([] : List UInt8), .p I6 (0 : Int)]) (v := (.agg #[.int .i64 0, .string ByteArray.empty, .string ByteArray.empty, .int .i64 0, .string ByteArray.empty, .string ByteArray.empty, .int .i64 0])) rfl rfl rfl (by kernel_rfl) rfl (.data (fun _ _ _ => .int _ _) (.data (fun _ _ _ => rd_str0) (.data (fun _ _ _ => rd_str0) (.data (fun _ _ _ => .int _ _) (.data (fun _ _ _ => rd_str0) (.data (fun _ _ _ => rd_str0) (.data (fun _ _ _ => .int _ _) .nil))))))) (by kernel_rfl)) (.cons (mvA (v := .p I6 v4) rfl rfl) (.cons (sok_storeB (U := Un) (rs := [(6, .loc 6 0), (19, .p (.named 7) v9)]) (v := .p (.named 7) v9) (mid' := [.p I6 v9.f_Kind, .p .str v9.f_Old.f_Name, .p .str v9.f_Old.f_Content, .p I6 v9.f_Old.f_Time, .p .str v9.f_New.f_Name, .p .str v9.f_New.f_Content, .p I6 v9.f_New.f_Time]) [] [.p I6 (0 : Int), .p .str ([] : List UInt8), .p .str ([] : List UInt8), .p I6 (0 : Int), .p .str ([] : List UInt8), .p .str ([] : List UInt8), .p I6 (0 : Int)] [] rfl rfl rfl ty_77 o0 o1 (.data (.named (us := ([.p I6 v9.f_Kind, .p .str v9.f_Old.f_Name, .p .str v9.f_Old.f_Content, .p I6 v9.f_Old.f_Time, .p .str v9.f_New.f_Name, .p .str v9.f_New.f_Content, .p I6 v9.f_New.f_Time] : List (AVal Un))) (.pair (.one _ _) (.pair (.named (us := ([.p .str v9.f_Old.f_Name, .p .str v9.f_Old.f_Content, .p I6 v9.f_Old.f_Time] : List (AVal Un))) (.pair (.one _ _) (.pair (.one _ _) (.pair (.one _ _) .unit)))) (.pair (.named (us := ([.p .str v9.f_New.f_Name, .p .str v9.f_New.f_Content, .p I6 v9.f_New.f_Time] : List (AVal Un))) (.pair (.one _ _) (.pair (.one _ _) (.pair (.one _ _) .unit)))) .unit))))) rfl rfl rfl rfl rfl rfl) .nil)))))) (by kernel_rfl) (by kernel_rfl) (by kernel_rfl) (cvR _) ?_
          refine tnU ?_
          refine WpC.seq ?_
          obtain ⟨v10, hv10, h⟩ := bind_some h
          refine WpC.regA (U := Un) (st1 := ⟨[(1, .p (.list (.named 7)) a1), (13, .p (.list (.named 7)) v3), (14, .p I6 ((v3.length : Int) : Int)), (15, .p I6 v4), (25, .p .bool ((!(v9.f_Kind == v10.f_Kind && ((v9.f_Old.f_Name == v10.f_Old.f_Name && (v9.f_Old.f_Content == v10.f_Old.f_Content && (v9.f_Old.f_Time == v10.f_Old.f_Time && true))) && ((v9.f_New.f_Name == v10.f_New.f_Name && (v9.f_New.f_Content == v10.f_New.f_Content && (v9.f_New.f_Time == v10.f_New.f_Time && true))) && true)))) : Bool))], []⟩) [1, 13, 14, 15, 25] [] [[], [], [], [1, 2], [1, 2, 3], [0, 1, 2, 3, 4]] mixed hN (.cons (ldB (t := .named 7) (rs := [(6, .loc 6 0)]) [] [.p I6 v9.f_Kind, .p .str v9.f_Old.f_Name, .p .str v9.f_Old.f_Content, .p I6 v9.f_Old.f_Time, .p .str v9.f_New.f_Name, .p .str v9.f_New.f_Content, .p I6 v9.f_New.f_Time] [] (v := .p (.named 7) ((T_millwrightref41_Change.mk v9.f_Kind (T_tree_File.mk v9.f_Old.f_Name v9.f_Old.f_Content v9.f_Old.f_Time) (T_tree_File.mk v9.f_New.f_Name v9.f_New.f_Content v9.f_New.f_Time)) : T_millwrightref41_Change)) rfl rfl ty_77 o0 rfl rfl rfl rfl (.data (.named (us := ([.p I6 v9.f_Kind, .p .str v9.f_Old.f_Name, .p .str v9.f_Old.f_Content, .p I6 v9.f_Old.f_Time, .p .str v9.f_New.f_Name, .p .str v9.f_New.f_Content, .p I6 v9.f_New.f_Time] : List (AVal Un))) (.pair (.one _ _) (.pair (.named (us := ([.p .str v9.f_Old.f_Name, .p .str v9.f_Old.f_Content, .p I6 v9.f_Old.f_Time] : List (AVal Un))) (.pair (.one _ _) (.pair (.one _ _) (.pair (.one _ _) .unit)))) (.pair (.named (us := ([.p .str v9.f_New.f_Name, .p .str v9.f_New.f_Content, .p I6 v9.f_New.f_Time] : List (AVal Un))) (.pair (.one _ _) (.pair (.one _ _) (.pair (.one _ _) .unit)))) .unit)))))) (.cons (mvU (v := .p (.list (.named 7)) a1) rfl rfl) (.cons (mvU (v := .p I6 v4) rfl rfl) (.cons (sok_indexL (U := Un) (rs := [(21, .p (.list (.named 7)) a1), (22, .p I6 v4)]) rfl rfl sl_66 o0 o1 hv10) (.cons (sok_loadP (U := Un) (rs := [(23, .pp (.named 7) v10)]) rfl rfl ty_77 o0) (.cons (sok_neG (U := Un) (rs := [(20, .p (.named 7) ((T_millwrightref41_Change.mk v9.f_Kind (T_tree_File.mk v9.f_Old.f_Name v9.f_Old.f_Content v9.f_Old.f_Time) (T_tree_File.mk v9.f_New.f_Name v9.f_New.f_Content v9.f_New.f_Time)) : T_millwrightref41_Change)), (24, .p (.named 7) v10)]) rfl rfl Tryd.underlying77 (by kernel_rfl) (eqg_77 _ Tryd.underlying77) (by kernel_rfl) o0 o1) .nil)))))) (by kernel_rfl) (by kernel_rfl) (by kernel_rfl) (by kernel_rfl) (by kernel_rfl) (cvR _) ?_
          refine tnU ?_
          refine cdU (b := (!(v9.f_Kind == v10.f_Kind && ((v9.f_Old.f_Name == v10.f_Old.f_Name && (v9.f_Old.f_Content == v10.f_Old.f_Content && (v9.f_Old.f_Time == v10.f_Old.f_Time && true))) && ((v9.f_New.f_Name == v10.f_New.f_Name && (v9.f_New.f_Content == v10.f_New.f_Content && (v9.f_New.f_Time == v10.f_New.f_Time && true))) && true))))) (.tmp (.tail _ (.tail _ (.tail _ (.tail _ (.head _)))))) (fun hc11 => ?_) (fun hc11 => ?_)
          · replace h := ite_t hc11 h
            refine WpC.seq ?_
            refine rgU (st1 := ⟨[(4, .p .bool false)], []⟩) [4] [] hN (.cons (moU (rs := []) rfl (.inr rfl) (.bool _ _)) .nil) (by kernel_rfl) (by kernel_rfl) (by kernel_rfl) (cvR _) ?_
            refine tnU ?_
            refine WpC.ret ?_
            refine blockQ_ret ?_
            refine thenQ_ret ?_
            have hq := Option.some.inj h
            subst hq
            refine thenQ_ret ?_
            have h := hout7
            refine blockQ_ret ?_
            refine thenQ_ret ?_
            have hq := Option.some.inj h
            subst hq
            exact ends_ret (retV_1 rfl (.head _)) ain_nil
          · replace h := ite_f hc11 h
            refine WpC.conv (cvK (b := ⟨[(1, .p (.list (.named 7)) a1), (13, .p (.list (.named 7)) v3), (14, .p I6 ((v3.length : Int) : Int)), (15, .p I6 v4)], []⟩) [1, 13, 14, 15] [] (by kernel_rfl)) (WpC.skip ?_)
            refine blockQ_normal ?_
            refine tnU ?_
            refine rgU (st1 := ⟨[(1, .p (.list (.named 7)) a1), (13, .p (.list (.named 7)) v3), (14, .p I6 ((v3.length : Int) : Int)), (15, .p I6 ((IntKind.i64.wrap (v4 + 1)) : Int))], []⟩) [1, 13, 14, 15] [] hN (.cons (sok_arith (U := Un) (rs := [(15, .p I6 v4)]) rfl rfl o0 (.int _ _ _) rfl) (.cons (mvU (v := .p I6 ((IntKind.i64.wrap (v4 + 1)) : Int)) rfl rfl) .nil)) (by kernel_rfl) (by kernel_rfl) (by kernel_rfl) (cvR _) ?_
            refine tnU ?_
            exact ⟨n, Nat.lt_succ_self n, (IntKind.i64.wrap (v4 + 1)), h, rfl⟩
        · replace h := ite_f hc8 h
          refine WpC.conv (cvK (b := ⟨[], []⟩) [] [] (by kernel_rfl)) (WpC.exit ?_)
          refine thenQ_exit ?_
          have hq := Option.some.inj h
          subst hq
          refine thenQ_exit ?_
          have h := hout7
          refine blockQ_hit ?_
          refine tnU ?_
          exact ⟨h, rfl⟩
    · rintro _ ⟨h, rfl⟩
      unfold millwrightlaw41_same.j2 at h
      refine WpC.seq ?_
      refine rgU (st1 := ⟨[(4, .p .bool true)], []⟩) [4] [] hN (.cons (moU (rs := []) rfl (.inr rfl) (.bool _ _)) .nil) (by kernel_rfl) (by kernel_rfl) (by kernel_rfl) (cvR _) ?_
      refine tnU ?_
      refine WpC.ret ?_
      have hq := Option.some.inj h
      subst hq
      exact ends_ret (retV_1 rfl (.head _)) ain_nil

theorem tree_Tree_Files_m0.ok (O : Out) (hO : GOk O) (k : Nat) (a0 : List ((List UInt8) × T_tree_File)) (out : List T_tree_File) (h : tree_Tree_Files_m0.f k a0 = some out) : COk Un O Tryd.prog 57 { ar := [.loc 100000 0], r := .p (.list (.named 3)) out, bs := [(100000, .box [.mp 100001]), (100001, .map (.named 3) a0)], bs' := [(100000, .box [.mp 100001]), (100001, .map (.named 3) a0)] } := by
  refine cok_of_wp Tryd.func57 rfl (k := 24) rfl (Nat.le_of_ble_eq_true rfl) (namesOk_of (by kernel_rfl)) ?_
  intro B hN
  refine WpC.conv (cvK (b := ⟨[(0, .loc 100000 0)], [(100000, .box [.mp 100001]), (100001, .map (.named 3) a0)]⟩) [0] [100000, 100001] (by kernel_rfl)) ?_
  unfold tree_Tree_Files_m0.f at h
  refine WpC.seq ?_
  refine rgU (st1 := ⟨[(0, .loc 100000 0)], [(100000, .box [.mp 100001]), (100001, .map (.named 3) a0)]⟩) [0] [100000, 100001] hN (.cons (moU (rs := []) rfl (.inr rfl) (.lit _ _ rfl)) .nil) (by kernel_rfl) (by kernel_rfl) (by kernel_rfl) (cvR _) ?_
  refine tnU ?_
  refine WpC.seq ?_
  refine rgU (st1 := ⟨[(0, .loc 100000 0), (3, .lit (.slice none 0 0))], [(100000, .box [.mp 100001]), (100001, .map (.named 3) a0)]⟩) [0, 3] [100000, 100001] hN (.cons (moU (rs := []) rfl (.inr rfl) (.lit _ _ rfl)) .nil) (by kernel_rfl) (by kernel_rfl) (by kernel_rfl) (cvR _) ?_
  refine tnU ?_
  refine sqJ (fun st' => ∃ v1 : List T_tree_File, tree_Tree_Files_m0.j2 k a0 v1 = some out ∧ st' = ⟨[(3, .vec 1003 3 0 v1.length)], [(1003, .row 24 (.named 3) v1 false), (100000, .box [.mp 100001]), (100001, .map (.named 3) a0)]⟩) ?_ ?_
  · refine WpC.seq ?_
    obtain ⟨v3, hv3, h⟩ := bind_some h
    refine rgU (st1 := ⟨[(0, .loc 100000 0), (3, .lit (.slice none 0 0)), (7, .vec 10001 1 0 v3.length), (8, .p I6 ((v3.length : Int) : Int)), (9, .p I6 (0 : Int))], [(10001, .row 9 .str v3 false), (100000, .box [.mp 100001]), (100001, .map (.named 3) a0)]⟩) [0, 3, 7, 8, 9] [10001, 100000, 100001] hN (.cons (mvU (v := .loc 100000 0) rfl rfl) (.cons (caV (rs := [(6, .loc 100000 0)]) (vw := []) rfl rfl (.func _) hb_17 (COk.ren (tree_Tree_Names_m0.ok O hO k a0 v3 hv3) (fun n => if n = 60500 then 10001 else if n = 100000 then 100000 else if n = 100001 then 100001 else n) (injOn_of (by kernel_rfl))) (.cons o0 .nil) (.cons (.same _) .nil) (by simp) (.inl rfl)) (.cons (sok_lenV (U := Un) (rs := [(7, .vec 10001 1 0 v3.length)]) rfl rfl Tryd.underlying40 o0) (.cons (moU (rs := []) rfl (.inl rfl) (.int _ _ _)) .nil)))) (by kernel_rfl) (by kernel_rfl) (by kernel_rfl) (cvR _) ?_
    refine tnU ?_
    refine WpC.block ?_
    obtain ⟨o8, hlo8, h⟩ := bind_some h
    have hout9 := h
    clear h
    refine WpC.conv (cvT (Conv.thaw (U := Un) 3 1003 24 (.named 3) (.tail _ (.head _)) (by kernel_rfl) (by unfold K0; omega)) (cvK (b := ⟨[(0, .loc 100000 0), (3, .vec 1003 3 0 0), (7, .vec 10001 1 0 v3.length), (8, .p I6 ((v3.length : Int) : Int)), (9, .p I6 (0 : Int))], [(1003, .row 24 (.named 3) [] false), (10001, .row 9 .str v3 false), (100000, .box [.mp 100001]), (100001, .map (.named 3) a0)]⟩) [0, 3, 7, 8, 9] [1003, 10001, 100000, 100001] (by kernel_rfl))) ?_
    refine WpC.loop (U := Un) (fun n st' => ∃ v4 : List T_tree_File, ∃ v5 : Int, tree_Tree_Files_m0.l6 k a0 v3 n v4 v5 = some o8 ∧ st' = ⟨[(0, .loc 100000 0), (3, .vec 1003 3 0 v4.length), (7, .vec 10001 1 0 v3.length), (8, .p I6 ((v3.length : Int) : Int)), (9, .p I6 v5)], [(1003, .row 24 (.named 3) v4 false), (10001, .row 9 .str v3 false), (100000, .box [.mp 100001]), (100001, .map (.named 3) a0)]⟩) k ⟨[], 0, hlo8, rfl⟩ ?_
    clear hlo8
    rintro (_ | n) _ ⟨v4, v5, h, rfl⟩
    · cases h
    · rw [tree_Tree_Files_m0.l6] at h
      refine WpC.seq ?_
      refine rgU (st1 := ⟨[(0, .loc 100000 0), (3, .vec 1003 3 0 v4.length), (7, .vec 10001 1 0 v3.length), (8, .p I6 ((v3.length : Int) : Int)), (9, .p I6 v5), (10, .p .bool ((decide (v5 < (v3.length : Int))) : Bool))], [(1003, .row 24 (.named 3) v4 false), (10001, .row 9 .str v3 false), (100000, .box [.mp 100001]), (100001, .map (.named 3) a0)]⟩) [0, 3, 7, 8, 9, 10] [1003, 10001, 100000, 100001] hN (.cons (cmU (rs := [(9, .p I6 v5), (8, .p I6 ((v3.length : Int) : Int))]) rfl rfl o0 o1 rfl) .nil) (by kernel_rfl) (by kernel_rfl) (by kernel_rfl) (cvR _) ?_
      refine tnU ?_
      refine WpC.seq ?_
      refine cdU (b := (decide (v5 < (v3.length : Int)))) (.tmp (.tail _ (.tail _ (.tail _ (.tail _ (.tail _ (.head _))))))) (fun hc10 => ?_) (fun hc10 => ?_)
      · replace h := ite_t hc10 h
        refine WpC.conv (cvK (b := ⟨[(0, .loc 100000 0), (3, .vec 1003 3 0 v4.length), (7, .vec 10001 1 0 v3.length), (8, .p I6 ((v3.length : Int) : Int)), (9, .p I6 v5)], [(1003, .row 24 (.named 3) v4 false), (10001, .row 9 .str v3 false), (100000, .box [.mp 100001]), (100001, .map (.named 3) a0)]⟩) [0, 3, 7, 8, 9] [1003, 10001, 100000, 100001] (by kernel_rfl)) (WpC.skip ?_)
        refine tnU ?_
        refine WpC.seq ?_
        refine WpC.block ?_
        refine WpC.seq ?_
        obtain ⟨g11, h⟩ := if_some h
        obtain ⟨v12, hv12, h⟩ := bind_some h
        refine rgU (st1 := ⟨[(0, .loc 100000 0), (3, .vec 1003 3 0 v4.length), (5, .p .str v12), (7, .vec 10001 1 0 v3.length), (8, .p I6 ((v3.length : Int) : Int)), (9, .p I6 v5)], [(1003, .row 24 (.named 3) v4 false), (10001, .row 9 .str v3 false), (100000, .box [.mp 100001]), (100001, .map (.named 3) a0)]⟩) [0, 3, 5, 7, 8, 9] [1003, 10001, 100000, 100001] hN (.cons (sok_indexV (U := Un) (rs := [(7, .vec 10001 1 0 v3.length), (9, .p I6 v5)]) rfl rfl sl_40 o0 o1 g11) (.cons (sok_loadE (U := Un) (E := 9) (t := .str) (rs := [(11, .eloc 10001 1 (0 + v5.toNat) 0)]) (xs := v3) (fx := false) rfl rfl ty_9 o0 hv12 (.here _ _)) (.cons (mvA (v := .p .str v12) rfl rfl) .nil))) (by kernel_rfl) (by kernel_rfl) (by kernel_rfl) (cvR _) ?_
        refine tnU ?_
        obtain ⟨g13, h⟩ := if_some h
        refine rgU (st1 := ⟨[(0, .loc 100000 0), (3, .vec 21 3 0 ((v4 ++ [((mget v12 a0).getD (T_tree_File.mk [] [] 0))]).length)), (7, .vec 10001 1 0 v3.length), (8, .p I6 ((v3.length : Int) : Int)), (9, .p I6 v5)], [(21, .row 24 (.named 3) (v4 ++ [((mget v12 a0).getD (T_tree_File.mk [] [] 0))]) false), (10001, .row 9 .str v3 false), (100000, .box [.mp 100001]), (100001, .map (.named 3) a0)]⟩) [0, 3, 7, 8, 9] [21, 10001, 100000, 100001] hN (.cons (mvU (v := .vec 1003 3 0 v4.length) rfl rfl) (.cons (mvU (v := .loc 100000 0) rfl rfl) (.cons (nlU (rs := [(14, .loc 100000 0)]) rfl rfl o0 rfl) (.cons (fdB (rs := [(15, .loc 100000 0)]) rfl rfl fd_89_0 (by decide) o0) (.cons (ldB (t := .bool) (rs := [(16, .loc 100000 0)]) [] [.mp 100001] [] (v := .mp 100001) rfl rfl ty1_86 o0 rfl rfl rfl rfl (.hand rfl rfl)) (.cons (mvU (v := .p .str v12) rfl rfl) (.cons (sok_lookup (U := Un) (t := .named 3) (kvs := a0) (rs := [(17, .mp 100001), (18, .p .str v12)]) rfl rfl map_86 zv_24 o0 o1) (.cons (sok_buildSlice (U := Un) (t := .named 3) (rs := [(19, .p (.named 3) (((mget v12 a0).getD (T_tree_File.mk [] [] 0)) : T_tree_File))]) (ys := [.tmp 19]) (xs := [((mget v12 a0).getD (T_tree_File.mk [] [] 0))]) rfl rfl rfl rfl row_22 (.cons o0 .nil) (by decide)) (.cons (sok_append' (U := Un) (t := .named 3) (rs := [(13, .vec 1003 3 0 v4.length), (20, .vec 20 3 0 ([((mget v12 a0).getD (T_tree_File.mk [] [] 0))].length))]) (vw := [(20, .row 24 (.named 3) [((mget v12 a0).getD (T_tree_File.mk [] [] 0))] true)]) (xs := v4) (ys := [((mget v12 a0).getD (T_tree_File.mk [] [] 0))]) (fx := false) rfl rfl rfl row_22 (by decide) o0 o1 (.whole (.head _)) (by simp) g13) (.cons (mvA (v := .vec 21 3 0 ((v4 ++ [((mget v12 a0).getD (T_tree_File.mk [] [] 0))]).length)) rfl rfl) .nil)))))))))) (by kernel_rfl) (by kernel_rfl) (by kernel_rfl) (cvR _) ?_
        refine blockQ_normal ?_
        refine tnU ?_
        refine rgU (st1 := ⟨[(0, .loc 100000 0), (3, .vec 21 3 0 ((v4 ++ [((mget v12 a0).getD (T_tree_File.mk [] [] 0))]).length)), (7, .vec 10001 1 0 v3.length), (8, .p I6 ((v3.length : Int) : Int)), (9, .p I6 ((IntKind.i64.wrap (v5 + 1)) : Int))], [(21, .row 24 (.named 3) (v4 ++ [((mget v12 a0).getD (T_tree_File.mk [] [] 0))]) false), (10001, .row 9 .str v3 false), (100000, .box [.mp 100001]), (100001, .map (.named 3) a0)]⟩) [0, 3, 7, 8, 9] [21, 10001, 100000, 100001] hN (.cons (sok_arith (U := Un) (rs := [(9, .p I6 v5)]) rfl rfl o0 (.int _ _ _) rfl) (.cons (mvU (v := .p I6 ((IntKind.i64.wrap (v5 + 1)) : Int)) rfl rfl) .nil)) (by kernel_rfl) (by kernel_rfl) (by kernel_rfl) (cvT (Conv.ren (U := Un) (st' := ⟨[(0, .loc 100000 0), (3, .vec 1003 3 0 ((v4 ++ [((mget v12 a0).getD (T_tree_File.mk [] [] 0))]).length)), (7, .vec 10001 1 0 v3.length), (8, .p I6 ((v3.length : Int) : Int)), (9, .p I6 ((IntKind.i64.wrap (v5 + 1)) : Int))], [(1003, .row 24 (.named 3) (v4 ++ [((mget v12 a0).getD (T_tree_File.mk [] [] 0))]) false), (10001, .row 9 .str v3 false), (100000, .box [.mp 100001]), (100001, .map (.named 3) a0)]⟩) 21 1003 (by unfold K0; omega) (by kernel_rfl) (by kernel_rfl) (by kernel_rfl)) (cvK (b := ⟨[(0, .loc 100000 0), (3, .vec 1003 3 0 ((v4 ++ [((mget v12 a0).getD (T_tree_File.mk [] [] 0))]).length)), (7, .vec 10001 1 0 v3.length), (8, .p I6 ((v3.length : Int) : Int)), (9, .p I6 ((IntKind.i64.wrap (v5 + 1)) : Int))], [(1003, .row 24 (.named 3) (v4 ++ [((mget v12 a0).getD (T_tree_File.mk [] [] 0))]) false), (10001, .row 9 .str v3 false), (100000, .box [.mp 100001]), (100001, .map (.named 3) a0)]⟩) [0, 3, 7, 8, 9] [1003, 10001, 100000, 100001] (by kernel_rfl))) ?_
        refine tnU ?_
        exact ⟨n, Nat.lt_succ_self n, (v4 ++ [((mget v12 a0).getD (T_tree_File.mk [] [] 0))]), (IntKind.i64.wrap (v5 + 1)), h, rfl⟩
      · replace h := ite_f hc10 h
        refine WpC.conv (cvK (b := ⟨[(3, .vec 1003 3 0 v4.length)], [(1003, .row 24 (.named 3) v4 false), (100000, .box [.mp 100001]), (100001, .map (.named 3) a0)]⟩) [3] [1003, 100000, 100001] (by kernel_rfl)) (WpC.exit ?_)
        refine thenQ_exit ?_
        have hq := Option.some.inj h
        subst hq
        refine thenQ_exit ?_
        have h := hout9
        refine blockQ_hit ?_
        refine tnU ?_
        exact ⟨v4, h, rfl⟩
  · rintro _ ⟨v1, h, rfl⟩
    unfold tree_Tree_Files_m0.j2 at h
    refine WpC.seq ?_
    refine rgU (st1 := ⟨[(2, .vec 1003 3 0 v1.length)], [(1003, .row 24 (.named 3) v1 false), (100000, .box [.mp 100001]), (100001, .map (.named 3) a0)]⟩) [2] [1003, 100000, 100001] hN (.cons (mvU (v := .vec 1003 3 0 v1.length) rfl rfl) (.cons (mvA (v := .vec 1003 3 0 v1.length) rfl rfl) .nil)) (by kernel_rfl) (by kernel_rfl) (by kernel_rfl) (cvR _) ?_
    refine tnU ?_
    refine WpC.conv (cvT (Conv.freeze (U := Un) 2 1003 24 _ (.named 3) v1 false (.head _) (by first | rfl | (simp only [upd_length, List.length_replicate, List.length_append]; done) | (simp only [upd_length, List.length_replicate, List.length_append] at *; omega) | omega) (.head _) (by first | (simp [Blk.names]; done) | (simp [Blk.names, AVal.namesL, AVal.names]; done) | (simp [Blk.names]; decide))) (cvK (b := ⟨[(2, .p (.list (.named 3)) v1)], [(100000, .box [.mp 100001]), (100001, .map (.named 3) a0)]⟩) [2] [100000, 100001] (by kernel_rfl))) (WpC.ret ?_)
    have hq := Option.some.inj h
    subst hq
    exact ends_ret (retV_1 rfl (.head _)) (ain_cons (.head _) (ain_cons (.tail _ (.head _)) ain_nil))

theorem tree_Tree_Latest_m0.ok (O : Out) (hO : GOk O) (k : Nat) (a0 : List ((List UInt8) × T_tree_File)) (out : Int) (h : tree_Tree_Latest_m0.f k a0 = some out) : COk Un O Tryd.prog 58 { ar := [.loc 100000 0], r := .p I6 out, bs := [(100000, .box [.mp 100001]), (100001, .map (.named 3) a0)], bs' := [(100000, .box [.mp 100001]), (100001, .map (.named 3) a0)] } := by
  refine cok_of_wp Tryd.func58 rfl (k := 20) rfl (Nat.le_of_ble_eq_true rfl) (namesOk_of (by kernel_rfl)) ?_
  intro B hN
  refine WpC.conv (cvK (b := ⟨[(0, .loc 100000 0)], [(100000, .box [.mp 100001]), (100001, .map (.named 3) a0)]⟩) [0] [100000, 100001] (by kernel_rfl)) ?_
  unfold tree_Tree_Latest_m0.f at h
  refine WpC.seq ?_
  refine rgU (st1 := ⟨[(0, .loc 100000 0)], [(100000, .box [.mp 100001]), (100001, .map (.named 3) a0)]⟩) [0] [100000, 100001] hN (.cons (moU (rs := []) rfl (.inr rfl) (.int _ _ _)) .nil) (by kernel_rfl) (by kernel_rfl) (by kernel_rfl) (cvR _) ?_
  refine tnU ?_
  refine WpC.seq ?_
  refine rgU (st1 := ⟨[(0, .loc 100000 0), (3, .p I6 (0 : Int))], [(100000, .box [.mp 100001]), (100001, .map (.named 3) a0)]⟩) [0, 3] [100000, 100001] hN (.cons (moU (rs := []) rfl (.inr rfl) (.int _ _ _)) .nil) (by kernel_rfl) (by kernel_rfl) (by kernel_rfl) (cvR _) ?_
  refine tnU ?_
  refine sqJ (fun st' => ∃ v1 : Int, tree_Tree_Latest_m0.j2 k a0 v1 = some out ∧ st' = ⟨[(3, .p I6 v1)], [(100000, .box [.mp 100001]), (100001, .map (.named 3) a0)]⟩) ?_ ?_
  · refine WpC.seq ?_
    refine WpC.openMap (U := Un) (t := .named 3) (n := 100001) (kvs := a0) (.tail _ (.head _)) ?_
    intro es3 ck3 ys3 hys3 hri3
    refine WpC.conv (cvK (b := ⟨[(0, .loc 100000 0), (3, .p I6 (0 : Int))], [(100000, .box [.mp 100001]), (100001, .mapE (.named 3) es3 ck3 ys3)]⟩) [0, 3] [100000, 100001] (by kernel_rfl)) ?_
    refine rgU (st1 := ⟨[(3, .p I6 (0 : Int)), (10, .loc 10 0)], [(10, .iter 100001 (.named 3) es3 ck3 ys3 a0 none), (100000, .box [.mp 100001]), (100001, .mapE (.named 3) es3 ck3 ys3)]⟩) [3, 10] [10, 100000, 100001] hN (.cons (mvU (v := .loc 100000 0) rfl rfl) (.cons (nlU (rs := [(6, .loc 100000 0)]) rfl rfl o0 rfl) (.cons (fdB (rs := [(7, .loc 100000 0)]) rfl rfl fd_89_0 (by decide) o0) (.cons (ldB (t := .bool) (rs := [(8, .loc 100000 0)]) [] [.mp 100001] [] (v := .mp 100001) rfl rfl ty1_86 o0 rfl rfl rfl rfl (.hand rfl rfl)) (.cons (sok_range (U := Un) (t := .named 3) (es := es3) (clock := ck3) (kvs := a0) (rs := [(9, .mp 100001)]) (d := 10) (m := 100001) rfl rfl rfl map_86 hys3 (by decide) o0) .nil))))) (by kernel_rfl) (by kernel_rfl) (by kernel_rfl) (cvR _) ?_
    refine tnU ?_
    refine WpC.block ?_
    obtain ⟨o8, hlo8, h⟩ := bind_some h
    have hout9 := h
    clear h
    refine WpC.loop (U := Un) (fun n st' => ∃ v4 : Int, ∃ v5 : List ((List UInt8) × T_tree_File), tree_Tree_Latest_m0.l6 k n v4 v5 = some o8 ∧ st' = ⟨[(3, .p I6 v4), (10, .loc 10 0)], [(10, .iter 100001 (.named 3) es3 ck3 ys3 v5 none), (100000, .box [.mp 100001]), (100001, .mapE (.named 3) es3 ck3 ys3)]⟩) k ⟨0, a0, hlo8, rfl⟩ ?_
    clear hlo8
    rintro (_ | n) _ ⟨v4, v5, h, rfl⟩
    · cases h
    · refine WpC.seq ?_
      refine WpC.next (U := Un) (t := .named 3) (d := 10) (m := 100001) (it := 10) (left := v5) [3, 10, 12] [10, 100000, 100001] hN rfl rfl rfl rfl rfl rfl (by decide) (by decide) (by decide) (.tail _ (.head _)) (.head _) (.tail _ (.tail _ (.head _))) (fun (v10 : (List UInt8) × T_tree_File) (v11 : List ((List UInt8) × T_tree_File)) hp12 ha12 => ⟨⟨[(3, .p I6 v4), (10, .loc 10 0), (12, .p .bool true)], [(10, .iter 100001 (.named 3) es3 ck3 ys3 v11 (some v10)), (100000, .box [.mp 100001]), (100001, .mapE (.named 3) es3 ck3 ys3)]⟩, by kernel_rfl, _, (cvR _), ?_⟩) (fun hl12 => ⟨⟨[(3, .p I6 v4), (10, .loc 10 0), (12, .p .bool false)], [(10, .iter 100001 (.named 3) es3 ck3 ys3 v5 none), (100000, .box [.mp 100001]), (100001, .mapE (.named 3) es3 ck3 ys3)]⟩, by kernel_rfl, _, (cvR _), ?_⟩)
      · have h := tree_Tree_Latest_m0.l6_perm k hp12 ha12 h
        unfold tree_Tree_Latest_m0.l6 at h
        obtain ⟨_, h⟩ := if_some h
        refine tnU ?_
        refine WpC.seq ?_
        refine cdU (b := true) (.tmp (.tail _ (.tail _ (.head _)))) (fun hc => ?_) (fun hc => ?_)
        · refine WpC.conv (cvK (b := ⟨[(3, .p I6 v4), (10, .loc 10 0)], [(10, .iter 100001 (.named 3) es3 ck3 ys3 v11 (some v10)), (100000, .box [.mp 100001]), (100001, .mapE (.named 3) es3 ck3 ys3)]⟩) [3, 10] [10, 100000, 100001] (by kernel_rfl)) (WpC.skip ?_)
          refine tnU ?_
          refine WpC.block ?_
          refine WpC.seq ?_
          refine rgU (st1 := ⟨[(3, .p I6 v4), (5, .loc 5 0), (10, .loc 10 0)], [(5, .box [.p .str v10.2.f_Name, .p .str v10.2.f_Content, .p I6 v10.2.f_Time]), (10, .iter 100001 (.named 3) es3 ck3 ys3 v11 (some v10)), (100000, .box [.mp 100001]), (100001, .mapE (.named 3) es3 ck3 ys3)]⟩) [3, 5, 10] [5, 10, 100000, 100001] hN (.cons (sok_entry (U := Un) (t := .named 3) (rs := [(10, .loc 10 0)]) (d := 10) (m := 100001) (es := es3) (clock := ck3) (ys := ys3) (left := v11) (y := v10) rfl rfl o0) (.cons (exU (rs := [(13, .tup [.p .str v10.1, .p (.named 3) v10.2])]) rfl rfl o0 rfl) (.cons (sok_allocZ (U := Un) (rs := []) (d := 5) (us := [.p .str ([] : List UInt8), .p .str ([] : List UInt8), .p I6 (0 : Int)]) (v := (.agg #[.string ByteArray.empty, .string ByteArray.empty, .int .i64 0])) rfl rfl rfl (by kernel_rfl) rfl (.data (fun _ _ _ => rd_str0) (.data (fun _ _ _ => rd_str0) (.data (fun _ _ _ => .int _ _) .nil))) (by kernel_rfl)) (.cons (sok_storeB (U := Un) (rs := [(5, .loc 5 0), (14, .p (.named 3) v10.2)]) (v := .p (.named 3) v10.2) (mid' := [.p .str v10.2.f_Name, .p .str v10.2.f_Content, .p I6 v10.2.f_Time]) [] [.p .str ([] : List UInt8), .p .str ([] : List UInt8), .p I6 (0 : Int)] [] rfl rfl rfl ty_24 o0 o1 (.data (.named (us := ([.p .str v10.2.f_Name, .p .str v10.2.f_Content, .p I6 v10.2.f_Time] : List (AVal Un))) (.pair (.one _ _) (.pair (.one _ _) (.pair (.one _ _) .unit))))) rfl rfl rfl rfl rfl rfl) .nil)))) (by kernel_rfl) (by kernel_rfl) (by kernel_rfl) (cvR _) ?_
          refine tnU ?_
          refine rgU (st1 := ⟨[(3, .p I6 ((if v10.2.f_Time > v4 then v10.2.f_Time else v4) : Int)), (10, .loc 10 0)], [(10, .iter 100001 (.named 3) es3 ck3 ys3 v11 (some v10)), (100000, .box [.mp 100001]), (100001, .mapE (.named 3) es3 ck3 ys3)]⟩) [3, 10] [10, 100000, 100001] hN (.cons (mvU (v := .p I6 v4) rfl rfl) (.cons (fdB (rs := [(5, .loc 5 0)]) rfl rfl fd_24_2 (by decide) o0) (.cons (ldB (t := .int .i64) (rs := [(16, .loc 5 2)]) [.p .str v10.2.f_Name, .p .str v10.2.f_Content] [.p I6 v10.2.f_Time] [] (v := .p I6 v10.2.f_Time) rfl rfl ty_3 o0 rfl rfl rfl rfl (.data (.one _ _))) (.cons (sok_max (U := Un) (rs := [(15, .p I6 v4), (17, .p I6 v10.2.f_Time)]) rfl rfl o0 o1) (.cons (mvA (v := .p I6 ((if v10.2.f_Time > v4 then v10.2.f_Time else v4) : Int)) rfl rfl) .nil))))) (by kernel_rfl) (by kernel_rfl) (by kernel_rfl) (cvT (Conv.iterRest (U := Un) (t := .named 3) (d := 10) (.head _)) (cvK (b := ⟨[(3, .p I6 ((if v10.2.f_Time > v4 then v10.2.f_Time else v4) : Int)), (10, .loc 10 0)], [(10, .iter 100001 (.named 3) es3 ck3 ys3 v11 none), (100000, .box [.mp 100001]), (100001, .mapE (.named 3) es3 ck3 ys3)]⟩) [3, 10] [10, 100000, 100001] (by kernel_rfl))) ?_
          refine blockQ_normal ?_
          refine tnU ?_
          exact ⟨n, Nat.lt_succ_self n, (if v10.2.f_Time > v4 then v10.2.f_Time else v4), v11, h, rfl⟩
        · cases hc
      · subst hl12
        unfold tree_Tree_Latest_m0.l6 at h
        refine tnU ?_
        refine WpC.seq ?_
        refine cdU (b := false) (.tmp (.tail _ (.tail _ (.head _)))) (fun hc => ?_) (fun hc => ?_)
        · cases hc
        · refine WpC.conv (cvT (cvK (b := ⟨[(3, .p I6 v4)], [(100000, .box [.mp 100001]), (100001, .mapE (.named 3) es3 ck3 ys3)]⟩) [3] [100000, 100001] (by kernel_rfl)) (cvT (Conv.closeMap (U := Un) (t := .named 3) (n := 100001) (.tail _ (.head _)) hys3 hri3) (cvK (b := ⟨[(3, .p I6 v4)], [(100000, .box [.mp 100001]), (100001, .map (.named 3) a0)]⟩) [3] [100000, 100001] (by kernel_rfl)))) (WpC.exit ?_)
          refine thenQ_exit ?_
          have hq := Option.some.inj h
          subst hq
          refine thenQ_exit ?_
          have h := hout9
          refine blockQ_hit ?_
          refine tnU ?_
          exact ⟨v4, h, rfl⟩
  · rintro _ ⟨v1, h, rfl⟩
    unfold tree_Tree_Latest_m0.j2 at h
    refine WpC.seq ?_
    refine rgU (st1 := ⟨[(2, .p I6 v1)], [(100000, .box [.mp 100001]), (100001, .map (.named 3) a0)]⟩) [2] [100000, 100001] hN (.cons (mvU (v := .p I6 v1) rfl rfl) (.cons (mvA (v := .p I6 v1) rfl rfl) .nil)) (by kernel_rfl) (by kernel_rfl) (by kernel_rfl) (cvR _) ?_
    refine tnU ?_
    refine WpC.ret ?_
    have hq := Option.some.inj h
    subst hq
    exact ends_ret (retV_1 rfl (.head _)) (ain_cons (.head _) (ain_cons (.tail _ (.head _)) ain_nil))

theorem millwrightref02_Tree_Latest_m0.ok (O : Out) (hO : GOk O) (k : Nat) (a0 : List T_tree_File) (out : Int) (h : millwrightref02_Tree_Latest_m0.f k a0 = some out) : COk Un O Tryd.prog 59 { ar := [.loc 100000 0], r := .p I6 out, bs := [(100000, .box [.p (.list (.named 3)) a0])], bs' := [(100000, .box [.p (.list (.named 3)) a0])] } := by
  refine cok_of_wp Tryd.func59 rfl (k := 23) rfl (Nat.le_of_ble_eq_true rfl) (namesOk_of (by kernel_rfl)) ?_
  intro B hN
  refine WpC.conv (cvK (b := ⟨[(0, .loc 100000 0)], [(100000, .box [.p (.list (.named 3)) a0])]⟩) [0] [100000] (by kernel_rfl)) ?_
  unfold millwrightref02_Tree_Latest_m0.f at h
  refine WpC.seq ?_
  refine rgU (st1 := ⟨[(0, .loc 100000 0)], [(100000, .box [.p (.list (.named 3)) a0])]⟩) [0] [100000] hN (.cons (moU (rs := []) rfl (.inr rfl) (.int _ _ _)) .nil) (by kernel_rfl) (by kernel_rfl) (by kernel_rfl) (cvR _) ?_
  refine tnU ?_
  refine WpC.seq ?_
  refine rgU (st1 := ⟨[(0, .loc 100000 0), (3, .p I6 (0 : Int))], [(100000, .box [.p (.list (.named 3)) a0])]⟩) [0, 3] [100000] hN (.cons (moU (rs := []) rfl (.inr rfl) (.int _ _ _)) .nil) (by kernel_rfl) (by kernel_rfl) (by kernel_rfl) (cvR _) ?_
  refine tnU ?_
  refine sqJ (fun st' => ∃ v1 : Int, millwrightref02_Tree_Latest_m0.j2 k a0 v1 = some out ∧ st' = ⟨[(3, .p I6 v1)], [(100000, .box [.p (.list (.named 3)) a0])]⟩) ?_ ?_
  · refine WpC.seq ?_
    refine rgU (st1 := ⟨[(3, .p I6 (0 : Int)), (9, .p (.list (.named 3)) a0), (10, .p I6 ((a0.length : Int) : Int)), (11, .p I6 (0 : Int))], [(100000, .box [.p (.list (.named 3)) a0])]⟩) [3, 9, 10, 11] [100000] hN (.cons (mvU (v := .loc 100000 0) rfl rfl) (.cons (nlU (rs := [(6, .loc 100000 0)]) rfl rfl o0 rfl) (.cons (fdB (rs := [(7, .loc 100000 0)]) rfl rfl fd_47_0 (by decide) o0) (.cons (ldB (t := .list (.named 3)) (rs := [(8, .loc 100000 0)]) [] [.p (.list (.named 3)) a0] [] (v := .p (.list (.named 3)) a0) rfl rfl ty_45 o0 rfl rfl rfl rfl (.data (.one _ _))) (.cons (sok_lenL (U := Un) (rs := [(9, .p (.list (.named 3)) a0)]) rfl rfl Tryd.underlying45 o0) (.cons (moU (rs := []) rfl (.inl rfl) (.int _ _ _)) .nil)))))) (by kernel_rfl) (by kernel_rfl) (by kernel_rfl) (cvR _) ?_
    refine tnU ?_
    refine WpC.block ?_
    obtain ⟨o7, hlo7, h⟩ := bind_some h
    have hout8 := h
    clear h
    refine WpC.loop (U := Un) (fun n st' => ∃ v3 : Int, ∃ v4 : Int, millwrightref02_Tree_Latest_m0.l5 k a0 n v3 v4 = some o7 ∧ st' = ⟨[(3, .p I6 v3), (9, .p (.list (.named 3)) a0), (10, .p I6 ((a0.length : Int) : Int)), (11, .p I6 v4)], [(100000, .box [.p (.list (.named 3)) a0])]⟩) k ⟨0, 0, hlo7, rfl⟩ ?_
    clear hlo7
    rintro (_ | n) _ ⟨v3, v4, h, rfl⟩
    · cases h
    · rw [millwrightref02_Tree_Latest_m0.l5] at h
      refine WpC.seq ?_
      refine rgU (st1 := ⟨[(3, .p I6 v3), (9, .p (.list (.named 3)) a0), (10, .p I6 ((a0.length : Int) : Int)), (11, .p I6 v4), (12, .p .bool ((decide (v4 < (a0.length : Int))) : Bool))], [(100000, .box [.p (.list (.named 3)) a0])]⟩) [3, 9, 10, 11, 12] [100000] hN (.cons (cmU (rs := [(11, .p I6 v4), (10, .p I6 ((a0.length : Int) : Int))]) rfl rfl o0 o1 rfl) .nil) (by kernel_rfl) (by kernel_rfl) (by kernel_rfl) (cvR _) ?_
      refine tnU ?_
      refine WpC.seq ?_
      refine cdU (b := (decide (v4 < (a0.length : Int)))) (.tmp (.tail _ (.tail _ (.tail _ (.tail _ (.head _)))))) (fun hc9 => ?_) (fun hc9 => ?_)
      · replace h := ite_t hc9 h
        refine WpC.conv (cvK (b := ⟨[(3, .p I6 v3), (9, .p (.list (.named 3)) a0), (10, .p I6 ((a0.length : Int) : Int)), (11, .p I6 v4)], [(100000, .box [.p (.list (.named 3)) a0])]⟩) [3, 9, 10, 11] [100000] (by kernel_rfl)) (WpC.skip ?_)
        refine tnU ?_
        refine sqJ (fun st' => ∃ v10 : Int, millwrightref02_Tree_Latest_m0.j11 k (millwrightref02_Tree_Latest_m0.l5 k a0 n) a0 v4 v10 = some o7 ∧ st' = ⟨[(3, .p I6 v10), (9, .p (.list (.named 3)) a0), (10, .p I6 ((a0.length : Int) : Int)), (11, .p I6 v4)], [(100000, .box [.p (.list (.named 3)) a0])]⟩) ?_ ?_
        · refine WpC.block ?_
          refine WpC.seq ?_
          obtain ⟨v12, hv12, h⟩ := bind_some h
          refine rgU (st1 := ⟨[(3, .p I6 v3), (5, .loc 5 0), (9, .p (.list (.named 3)) a0), (10, .p I6 ((a0.length : Int) : Int)), (11, .p I6 v4)], [(5, .box [.p .str v12.f_Name, .p .str v12.f_Content, .p I6 v12.f_Time]), (100000, .box [.p (.list (.named 3)) a0])]⟩) [3, 5, 9, 10, 11] [5, 100000] hN (.cons (sok_indexL (U := Un) (rs := [(9, .p (.list (.named 3)) a0), (11, .p I6 v4)]) rfl rfl sl_45 o0 o1 hv12) (.cons (sok_loadP (U := Un) (rs := [(13, .pp (.named 3) v12)]) rfl rfl ty_50 o0) (.cons (sok_allocZ (U := Un) (rs := []) (d := 5) (us := [.p .str ([] : List UInt8), .p .str ([] : List UInt8), .p I6 (0 : Int)]) (v := (.agg #[.string ByteArray.empty, .string ByteArray.empty, .int .i64 0])) rfl rfl rfl (by kernel_rfl) rfl (.data (fun _ _ _ => rd_str0) (.data (fun _ _ _ => rd_str0) (.data (fun _ _ _ => .int _ _) .nil))) (by kernel_rfl)) (.cons (sok_storeB (U := Un) (rs := [(5, .loc 5 0), (14, .p (.named 3) v12)]) (v := .p (.named 3) v12) (mid' := [.p .str v12.f_Name, .p .str v12.f_Content, .p I6 v12.f_Time]) [] [.p .str ([] : List UInt8), .p .str ([] : List UInt8), .p I6 (0 : Int)] [] rfl rfl rfl ty_50 o0 o1 (.data (.named (us := ([.p .str v12.f_Name, .p .str v12.f_Content, .p I6 v12.f_Time] : List (AVal Un))) (.pair (.one _ _) (.pair (.one _ _) (.pair (.one _ _) .unit))))) rfl rfl rfl rfl rfl rfl) .nil)))) (by kernel_rfl) (by kernel_rfl) (by kernel_rfl) (cvR _) ?_
          refine tnU ?_
          refine WpC.seq ?_
          refine rgU (st1 := ⟨[(3, .p I6 v3), (5, .loc 5 0), (9, .p (.list (.named 3)) a0), (10, .p I6 ((a0.length : Int) : Int)), (11, .p I6 v4), (18, .p .bool ((decide (v12.f_Time > v3)) : Bool))], [(5, .box [.p .str v12.f_Name, .p .str v12.f_Content, .p I6 v12.f_Time]), (100000, .box [.p (.list (.named 3)) a0])]⟩) [3, 5, 9, 10, 11, 18] [5, 100000] hN (.cons (fdB (rs := [(5, .loc 5 0)]) rfl rfl fd_50_2 (by decide) o0) (.cons (ldB (t := .int .i64) (rs := [(15, .loc 5 2)]) [.p .str v12.f_Name, .p .str v12.f_Content] [.p I6 v12.f_Time] [] (v := .p I6 v12.f_Time) rfl rfl ty_3 o0 rfl rfl rfl rfl (.data (.one _ _))) (.cons (mvU (v := .p I6 v3) rfl rfl) (.cons (cmU (rs := [(16, .p I6 v12.f_Time), (17, .p I6 v3)]) rfl rfl o0 o1 rfl) .nil)))) (by kernel_rfl) (by kernel_rfl) (by kernel_rfl) (cvR _) ?_
          refine tnU ?_
          refine cdU (b := (decide (v12.f_Time > v3))) (.tmp (.tail _ (.tail _ (.tail _ (.tail _ (.tail _ (.head _))))))) (fun hc13 => ?_) (fun hc13 => ?_)
          · replace h := ite_t hc13 h
            refine rgU (st1 := ⟨[(3, .p I6 v12.f_Time), (9, .p (.list (.named 3)) a0), (10, .p I6 ((a0.length : Int) : Int)), (11, .p I6 v4)], [(100000, .box [.p (.list (.named 3)) a0])]⟩) [3, 9, 10, 11] [100000] hN (.cons (fdB (rs := [(5, .loc 5 0)]) rfl rfl fd_50_2 (by decide) o0) (.cons (ldB (t := .int .i64) (rs := [(19, .loc 5 2)]) [.p .str v12.f_Name, .p .str v12.f_Content] [.p I6 v12.f_Time] [] (v := .p I6 v12.f_Time) rfl rfl ty_3 o0 rfl rfl rfl rfl (.data (.one _ _))) (.cons (mvA (v := .p I6 v12.f_Time) rfl rfl) .nil))) (by kernel_rfl) (by kernel_rfl) (by kernel_rfl) (cvR _) ?_
            refine blockQ_normal ?_
            refine tnU ?_
            exact ⟨v12.f_Time, h, rfl⟩
          · replace h := ite_f hc13 h
            refine WpC.conv (cvK (b := ⟨[(3, .p I6 v3), (9, .p (.list (.named 3)) a0), (10, .p I6 ((a0.length : Int) : Int)), (11, .p I6 v4)], [(100000, .box [.p (.list (.named 3)) a0])]⟩) [3, 9, 10, 11] [100000] (by kernel_rfl)) (WpC.skip ?_)
            refine blockQ_normal ?_
            refine tnU ?_
            exact ⟨v3, h, rfl⟩
        · rintro _ ⟨v10, h, rfl⟩
          unfold millwrightref02_Tree_Latest_m0.j11 at h
          refine rgU (st1 := ⟨[(3, .p I6 v10), (9, .p (.list (.named 3)) a0), (10, .p I6 ((a0.length : Int) : Int)), (11, .p I6 ((IntKind.i64.wrap (v4 + 1)) : Int))], [(100000, .box [.p (.list (.named 3)) a0])]⟩) [3, 9, 10, 11] [100000] hN (.cons (sok_arith (U := Un) (rs := [(11, .p I6 v4)]) rfl rfl o0 (.int _ _ _) rfl) (.cons (mvU (v := .p I6 ((IntKind.i64.wrap (v4 + 1)) : Int)) rfl rfl) .nil)) (by kernel_rfl) (by kernel_rfl) (by kernel_rfl) (cvR _) ?_
          refine tnU ?_
          exact ⟨n, Nat.lt_succ_self n, v10, (IntKind.i64.wrap (v4 + 1)), h, rfl⟩
      · replace h := ite_f hc9 h
        refine WpC.conv (cvK (b := ⟨[(3, .p I6 v3)], [(100000, .box [.p (.list (.named 3)) a0])]⟩) [3] [100000] (by kernel_rfl)) (WpC.exit ?_)
        refine thenQ_exit ?_
        have hq := Option.some.inj h
        subst hq
        refine thenQ_exit ?_
        have h := hout8
        refine blockQ_hit ?_
        refine tnU ?_
        exact ⟨v3, h, rfl⟩
  · rintro _ ⟨v1, h, rfl⟩
    unfold millwrightref02_Tree_Latest_m0.j2 at h
    refine WpC.seq ?_
    refine rgU (st1 := ⟨[(2, .p I6 v1)], [(100000, .box [.p (.list (.named 3)) a0])]⟩) [2] [100000] hN (.cons (mvU (v := .p I6 v1) rfl rfl) (.cons (mvA (v := .p I6 v1) rfl rfl) .nil)) (by kernel_rfl) (by kernel_rfl) (by kernel_rfl) (cvR _) ?_
    refine tnU ?_
    refine WpC.ret ?_
    have hq := Option.some.inj h
    subst hq
    exact ends_ret (retV_1 rfl (.head _)) (ain_cons (.head _) ain_nil)

theorem millwrightlaw02_Shows_m0.ok (O : Out) (hO : GOk O) (k : Nat) (a0 : List ((List UInt8) × T_tree_File)) (a1 : List T_tree_File) (out : Bool) (h : millwrightlaw02_Shows_m0.f k a0 a1 = some out) : COk Un O Tryd.prog 26 { ar := [.loc 100000 0, .loc 100002 0], r := .p .bool out, bs := [(100000, .box [.mp 100001]), (100001, .map (.named 3) a0), (100002, .box [.p (.list (.named 3)) a1])], bs' := [(100000, .box [.mp 100001]), (100001, .map (.named 3) a0), (100002, .box [.p (.list (.named 3)) a1])] } := by
  refine cok_of_wp Tryd.func26 rfl (k := 67) rfl (Nat.le_of_ble_eq_true rfl) (namesOk_of (by kernel_rfl)) ?_
  intro B hN
  refine WpC.conv (cvK (b := ⟨[(0, .loc 100000 0), (1, .loc 100002 0)], [(100000, .box [.mp 100001]), (100001, .map (.named 3) a0), (100002, .box [.p (.list (.named 3)) a1])]⟩) [0, 1] [100000, 100001, 100002] (by kernel_rfl)) ?_
  unfold millwrightlaw02_Shows_m0.f at h
  refine WpC.seq ?_
  refine rgU (st1 := ⟨[(0, .loc 100000 0), (1, .loc 100002 0)], [(100000, .box [.mp 100001]), (100001, .map (.named 3) a0), (100002, .box [.p (.list (.named 3)) a1])]⟩) [0, 1] [100000, 100001, 100002] hN (.cons (moU (rs := []) rfl (.inr rfl) (.bool _ _)) .nil) (by kernel_rfl) (by kernel_rfl) (by kernel_rfl) (cvR _) ?_
  refine tnU ?_
  refine WpC.seq ?_
  obtain ⟨v1, hv1, h⟩ := bind_some h
  refine rgU (st1 := ⟨[(0, .loc 100000 0), (1, .loc 100002 0), (5, .p (.list (.named 3)) v1)], [(100000, .box [.mp 100001]), (100001, .map (.named 3) a0), (100002, .box [.p (.list (.named 3)) a1])]⟩) [0, 1, 5] [100000, 100001, 100002] hN (.cons (mvU (v := .loc 100000 0) rfl rfl) (.cons (caV (rs := [(8, .loc 100000 0)]) (vw := []) rfl rfl (.func _) hb_57 (COk.ren (tree_Tree_Files_m0.ok O hO k a0 v1 hv1) (fun n => if n = 100000 then 100000 else if n = 100001 then 100001 else n) (injOn_of (by kernel_rfl))) (.cons o0 .nil) (.cons (.same _) .nil) (by simp) (.inl rfl)) (.cons (mvA (v := .p (.list (.named 3)) v1) rfl rfl) .nil))) (by kernel_rfl) (by kernel_rfl) (by kernel_rfl) (cvR _) ?_
  refine tnU ?_
  refine sqJ (fun st' => millwrightlaw02_Shows_m0.j23 k a0 a1 v1 = some out ∧ st' = ⟨[(0, .loc 100000 0), (1, .loc 100002 0), (5, .p (.list (.named 3)) v1)], [(100000, .box [.mp 100001]), (100001, .map (.named 3) a0), (100002, .box [.p (.list (.named 3)) a1])]⟩) ?_ ?_
  · refine sqJ (fun st' => ∃ v24 : Bool, millwrightlaw02_Shows_m0.j26 k a0 a1 v1 v24 = some out ∧ st' = ⟨[(0, .loc 100000 0), (1, .loc 100002 0), (5, .p (.list (.named 3)) v1), (24, .p .bool v24)], [(100000, .box [.mp 100001]), (100001, .map (.named 3) a0), (100002, .box [.p (.list (.named 3)) a1])]⟩) ?_ ?_
    · rcases bool_cases ((v1.length : Int) != (a1.length : Int)) with hc27 | hc27
      · replace h := ite_t hc27 h
        refine rgU (st1 := ⟨[(0, .loc 100000 0), (1, .loc 100002 0), (5, .p (.list (.named 3)) v1), (24, .p .bool true)], [(100000, .box [.mp 100001]), (100001, .map (.named 3) a0), (100002, .box [.p (.list (.named 3)) a1])]⟩) [0, 1, 5, 24] [100000, 100001, 100002] hN (.cons (mvU (v := .p (.list (.named 3)) v1) rfl rfl) (.cons (sok_lenL (U := Un) (rs := [(10, .p (.list (.named 3)) v1)]) rfl rfl Tryd.underlying22 o0) (.cons (mvU (v := .loc 100002 0) rfl rfl) (.cons (nlU (rs := [(12, .loc 100002 0)]) rfl rfl o0 rfl) (.cons (fdB (rs := [(13, .loc 100002 0)]) rfl rfl fd_47_0 (by decide) o0) (.cons (ldB (t := .list (.named 3)) (rs := [(14, .loc 100002 0)]) [] [.p (.list (.named 3)) a1] [] (v := .p (.list (.named 3)) a1) rfl rfl ty_45 o0 rfl rfl rfl rfl (.data (.one _ _))) (.cons (sok_lenL (U := Un) (rs := [(15, .p (.list (.named 3)) a1)]) rfl rfl Tryd.underlying45 o0) (.cons (cmU (rs := [(11, .p I6 ((v1.length : Int) : Int)), (16, .p I6 ((a1.length : Int) : Int))]) rfl rfl o0 o1 rfl) (.cons (mvU (v := .p .bool (((v1.length : Int) != (a1.length : Int)) : Bool)) rfl rfl) (.cons (skU rfl rfl hc27) (.cons (skU rfl rfl hc27) (.cons (skU rfl rfl hc27) (.cons (skU rfl rfl hc27) (.cons (skU rfl rfl hc27) (.cons (pkT (rs := [(18, .p .bool (((v1.length : Int) != (a1.length : Int)) : Bool))]) rfl rfl o0 hc27 (.bool _ _)) .nil))))))))))))))) (by kernel_rfl) (by kernel_rfl) (by kernel_rfl) (cvR _) ?_
        refine tnU ?_
        exact ⟨true, h, rfl⟩
      · replace h := ite_f hc27 h
        obtain ⟨v28, hv28, h⟩ := bind_some h
        obtain ⟨v29, hv29, h⟩ := bind_some h
        refine rgU (st1 := ⟨[(0, .loc 100000 0), (1, .loc 100002 0), (5, .p (.list (.named 3)) v1), (24, .p .bool ((v28 != v29) : Bool))], [(100000, .box [.mp 100001]), (100001, .map (.named 3) a0), (100002, .box [.p (.list (.named 3)) a1])]⟩) [0, 1, 5, 24] [100000, 100001, 100002] hN (.cons (mvU (v := .p (.list (.named 3)) v1) rfl rfl) (.cons (sok_lenL (U := Un) (rs := [(10, .p (.list (.named 3)) v1)]) rfl rfl Tryd.underlying22 o0) (.cons (mvU (v := .loc 100002 0) rfl rfl) (.cons (nlU (rs := [(12, .loc 100002 0)]) rfl rfl o0 rfl) (.cons (fdB (rs := [(13, .loc 100002 0)]) rfl rfl fd_47_0 (by decide) o0) (.cons (ldB (t := .list (.named 3)) (rs := [(14, .loc 100002 0)]) [] [.p (.list (.named 3)) a1] [] (v := .p (.list (.named 3)) a1) rfl rfl ty_45 o0 rfl rfl rfl rfl (.data (.one _ _))) (.cons (sok_lenL (U := Un) (rs := [(15, .p (.list (.named 3)) a1)]) rfl rfl Tryd.underlying45 o0) (.cons (cmU (rs := [(11, .p I6 ((v1.length : Int) : Int)), (16, .p I6 ((a1.length : Int) : Int))]) rfl rfl o0 o1 rfl) (.cons (mvU (v := .p .bool (((v1.length : Int) != (a1.length : Int)) : Bool)) rfl rfl) (.cons (sok_run rfl rfl hc27 (mvU (v := .loc 100000 0) rfl rfl)) (.cons (sok_run rfl rfl hc27 (caV (rs := [(19, .loc 100000 0)]) (vw := []) rfl rfl (.func _) hb_58 (COk.ren (tree_Tree_Latest_m0.ok O hO k a0 v28 hv28) (fun n => if n = 100000 then 100000 else if n = 100001 then 100001 else n) (injOn_of (by kernel_rfl))) (.cons o0 .nil) (.cons (.same _) .nil) (by simp) (.inl rfl))) (.cons (sok_run rfl rfl hc27 (mvU (v := .loc 100002 0) rfl rfl)) (.cons (sok_run rfl rfl hc27 (caV (rs := [(21, .loc 100002 0)]) (vw := []) rfl rfl (.func _) hb_59 (COk.ren (millwrightref02_Tree_Latest_m0.ok O hO k a1 v29 hv29) (fun n => if n = 100000 then 100002 else n) (injOn_of (by kernel_rfl))) (.cons o0 .nil) (.cons (.same _) .nil) (by simp) (.inl rfl))) (.cons (sok_run rfl rfl hc27 (cmU (rs := [(20, .p I6 v28), (22, .p I6 v29)]) rfl rfl o0 o1 rfl)) (.cons (pkF (rs := [(18, .p .bool (((v1.length : Int) != (a1.length : Int)) : Bool)), (23, .p .bool ((v28 != v29) : Bool))]) rfl rfl o0 hc27 o1) .nil))))))))))))))) (by kernel_rfl) (by kernel_rfl) (by kernel_rfl) (cvR _) ?_
        refine tnU ?_
        exact ⟨(v28 != v29), h, rfl⟩
    · rintro _ ⟨v24, h, rfl⟩
      unfold millwrightlaw02_Shows_m0.j26 at h
      refine cdU (b := v24) (.tmp (.tail _ (.tail _ (.tail _ (.head _))))) (fun hc25 => ?_) (fun hc25 => ?_)
      · replace h := ite_t hc25 h
        refine WpC.seq ?_
        refine rgU (st1 := ⟨[(4, .p .bool false)], [(100000, .box [.mp 100001]), (100001, .map (.named 3) a0), (100002, .box [.p (.list (.named 3)) a1])]⟩) [4] [100000, 100001, 100002] hN (.cons (moU (rs := []) rfl (.inr rfl) (.bool _ _)) .nil) (by kernel_rfl) (by kernel_rfl) (by kernel_rfl) (cvR _) ?_
        refine tnU ?_
        refine WpC.ret ?_
        refine thenQ_ret ?_
        have hq := Option.some.inj h
        subst hq
        exact ends_ret (retV_1 rfl (.head _)) (ain_cons (.head _) (ain_cons (.tail _ (.head _)) (ain_cons (.tail _ (.tail _ (.head _))) ain_nil)))
      · replace h := ite_f hc25 h
        refine WpC.conv (cvK (b := ⟨[(0, .loc 100000 0), (1, .loc 100002 0), (5, .p (.list (.named 3)) v1)], [(100000, .box [.mp 100001]), (100001, .map (.named 3) a0), (100002, .box [.p (.list (.named 3)) a1])]⟩) [0, 1, 5] [100000, 100001, 100002] (by kernel_rfl)) (WpC.skip ?_)
        refine tnU ?_
        exact ⟨h, rfl⟩
  · rintro _ ⟨h, rfl⟩
    unfold millwrightlaw02_Shows_m0.j23 at h
    refine sqJ (fun st' => millwrightlaw02_Shows_m0.j3 k a0 a1 v1 = some out ∧ st' = ⟨[(0, .loc 100000 0), (5, .p (.list (.named 3)) v1)], [(100000, .box [.mp 100001]), (100001, .map (.named 3) a0), (100002, .box [.p (.list (.named 3)) a1])]⟩) ?_ ?_
    · refine WpC.seq ?_
      obtain ⟨v4, hv4, h⟩ := bind_some h
      refine rgU (st1 := ⟨[(0, .loc 100000 0), (1, .loc 100002 0), (5, .p (.list (.named 3)) v1), (26, .vec 10002 1 0 v4.length), (27, .p I6 ((v4.length : Int) : Int)), (28, .p I6 (0 : Int))], [(10002, .row 9 .str v4 false), (100000, .box [.mp 100001]), (100001, .map (.named 3) a0), (100002, .box [.p (.list (.named 3)) a1])]⟩) [0, 1, 5, 26, 27, 28] [10002, 100000, 100001, 100002] hN (.cons (mvU (v := .loc 100000 0) rfl rfl) (.cons (caV (rs := [(25, .loc 100000 0)]) (vw := []) rfl rfl (.func _) hb_17 (COk.ren (tree_Tree_Names_m0.ok O hO k a0 v4 hv4) (fun n => if n = 60500 then 10002 else if n = 100000 then 100000 else if n = 100001 then 100001 else n) (injOn_of (by kernel_rfl))) (.cons o0 .nil) (.cons (.same _) .nil) (by simp) (.inl rfl)) (.cons (sok_lenV (U := Un) (rs := [(26, .vec 10002 1 0 v4.length)]) rfl rfl Tryd.underlying40 o0) (.cons (moU (rs := []) rfl (.inl rfl) (.int _ _ _)) .nil)))) (by kernel_rfl) (by kernel_rfl) (by kernel_rfl) (cvR _) ?_
      refine tnU ?_
      refine WpC.block ?_
      obtain ⟨o7, hlo7, h⟩ := bind_some h
      have hout8 := h
      clear h
      refine WpC.loop (U := Un) (fun n st' => ∃ v5 : Int, millwrightlaw02_Shows_m0.l6 k a0 a1 v1 v4 n v5 = some o7 ∧ st' = ⟨[(0, .loc 100000 0), (1, .loc 100002 0), (5, .p (.list (.named 3)) v1), (26, .vec 10002 1 0 v4.length), (27, .p I6 ((v4.length : Int) : Int)), (28, .p I6 v5)], [(10002, .row 9 .str v4 false), (100000, .box [.mp 100001]), (100001, .map (.named 3) a0), (100002, .box [.p (.list (.named 3)) a1])]⟩) k ⟨0, hlo7, rfl⟩ ?_
      clear hlo7
      rintro (_ | n) _ ⟨v5, h, rfl⟩
      · cases h
      · rw [millwrightlaw02_Shows_m0.l6] at h
        refine WpC.seq ?_
        refine rgU (st1 := ⟨[(0, .loc 100000 0), (1, .loc 100002 0), (5, .p (.list (.named 3)) v1), (26, .vec 10002 1 0 v4.length), (27, .p I6 ((v4.length : Int) : Int)), (28, .p I6 v5), (29, .p .bool ((decide (v5 < (v4.length : Int))) : Bool))], [(10002, .row 9 .str v4 false), (100000, .box [.mp 100001]), (100001, .map (.named 3) a0), (100002, .box [.p (.list (.named 3)) a1])]⟩) [0, 1, 5, 26, 27, 28, 29] [10002, 100000, 100001, 100002] hN (.cons (cmU (rs := [(28, .p I6 v5), (27, .p I6 ((v4.length : Int) : Int))]) rfl rfl o0 o1 rfl) .nil) (by kernel_rfl) (by kernel_rfl) (by kernel_rfl) (cvR _) ?_
        refine tnU ?_
        refine WpC.seq ?_
        refine cdU (b := (decide (v5 < (v4.length : Int)))) (.tmp (.tail _ (.tail _ (.tail _ (.tail _ (.tail _ (.tail _ (.head _)))))))) (fun hc9 => ?_) (fun hc9 => ?_)
        · replace h := ite_t hc9 h
          refine WpC.conv (cvK (b := ⟨[(0, .loc 100000 0), (1, .loc 100002 0), (5, .p (.list (.named 3)) v1), (26, .vec 10002 1 0 v4.length), (27, .p I6 ((v4.length : Int) : Int)), (28, .p I6 v5)], [(10002, .row 9 .str v4 false), (100000, .box [.mp 100001]), (100001, .map (.named 3) a0), (100002, .box [.p (.list (.named 3)) a1])]⟩) [0, 1, 5, 26, 27, 28] [10002, 100000, 100001, 100002] (by kernel_rfl)) (WpC.skip ?_)
          refine tnU ?_
          refine sqJ (fun st' => millwrightlaw02_Shows_m0.j10 k (millwrightlaw02_Shows_m0.l6 k a0 a1 v1 v4 n) a0 a1 v1 v4 v5 = some o7 ∧ st' = ⟨[(0, .loc 100000 0), (1, .loc 100002 0), (5, .p (.list (.named 3)) v1), (26, .vec 10002 1 0 v4.length), (27, .p I6 ((v4.length : Int) : Int)), (28, .p I6 v5)], [(10002, .row 9 .str v4 false), (100000, .box [.mp 100001]), (100001, .map (.named 3) a0), (100002, .box [.p (.list (.named 3)) a1])]⟩) ?_ ?_
          · refine WpC.block ?_
            refine WpC.seq ?_
            obtain ⟨g11, h⟩ := if_some h
            obtain ⟨v12, hv12, h⟩ := bind_some h
            refine rgU (st1 := ⟨[(0, .loc 100000 0), (1, .loc 100002 0), (5, .p (.list (.named 3)) v1), (6, .p I6 v5), (7, .p .str v12), (26, .vec 10002 1 0 v4.length), (27, .p I6 ((v4.length : Int) : Int)), (28, .p I6 v5)], [(10002, .row 9 .str v4 false), (100000, .box [.mp 100001]), (100001, .map (.named 3) a0), (100002, .box [.p (.list (.named 3)) a1])]⟩) [0, 1, 5, 6, 7, 26, 27, 28] [10002, 100000, 100001, 100002] hN (.cons (mvU (v := .p I6 v5) rfl rfl) (.cons (sok_indexV (U := Un) (rs := [(26, .vec 10002 1 0 v4.length), (28, .p I6 v5)]) rfl rfl sl_40 o0 o1 g11) (.cons (sok_loadE (U := Un) (E := 9) (t := .str) (rs := [(31, .eloc 10002 1 (0 + v5.toNat) 0)]) (xs := v4) (fx := false) rfl rfl ty_9 o0 hv12 (.here _ _)) (.cons (mvA (v := .p I6 v5) rfl rfl) (.cons (mvA (v := .p .str v12) rfl rfl) .nil))))) (by kernel_rfl) (by kernel_rfl) (by kernel_rfl) (cvR _) ?_
            refine tnU ?_
            refine sqJ (fun st' => ∃ v13 : Bool, millwrightlaw02_Shows_m0.j15 k (millwrightlaw02_Shows_m0.l6 k a0 a1 v1 v4 n) a0 a1 v1 v4 v5 v13 = some o7 ∧ st' = ⟨[(0, .loc 100000 0), (1, .loc 100002 0), (5, .p (.list (.named 3)) v1), (26, .vec 10002 1 0 v4.length), (27, .p I6 ((v4.length : Int) : Int)), (28, .p I6 v5), (59, .p .bool v13)], [(10002, .row 9 .str v4 false), (100000, .box [.mp 100001]), (100001, .map (.named 3) a0), (100002, .box [.p (.list (.named 3)) a1])]⟩) ?_ ?_
            · rcases bool_cases (decide (v5 ≥ (v1.length : Int))) with hc16 | hc16
              · replace h := ite_t hc16 h
                refine WpC.regA (U := Un) (st1 := ⟨[(0, .loc 100000 0), (1, .loc 100002 0), (5, .p (.list (.named 3)) v1), (26, .vec 10002 1 0 v4.length), (27, .p I6 ((v4.length : Int) : Int)), (28, .p I6 v5), (59, .p .bool true)], [(10002, .row 9 .str v4 false), (100000, .box [.mp 100001]), (100001, .map (.named 3) a0), (100002, .box [.p (.list (.named 3)) a1])]⟩) [0, 1, 5, 26, 27, 28, 59] [10002, 100000, 100001, 100002] [[], [], [1], [0, 1, 2], [0, 1, 2, 3], [0, 1, 2, 3, 4], [0, 1, 2, 3, 4], [0, 1, 2, 3, 4], [0, 1, 2, 3, 4, 6, 7], [0, 1, 2, 3, 4, 6, 7, 8], [0, 1, 2, 3, 4, 6, 7, 8, 9], [0, 1, 2, 3, 4, 5, 6, 7, 8, 9, 10], [0, 1, 2, 3, 4, 5, 6, 7, 8, 9, 10, 11], [0, 1, 2, 3, 4, 5, 6, 7, 8, 9, 10, 11, 12], [0, 1, 2, 3, 4, 5, 6, 7, 8, 9, 10, 11, 12, 13], [0, 1, 2, 3, 4, 5, 6, 7, 8, 9, 10, 11, 12, 13], [0, 1, 2, 3, 4, 5, 6, 7, 8, 9, 10, 11, 12, 13, 14, 15], [0, 1, 2, 3, 4, 5, 6, 7, 8, 9, 10, 11, 12, 13, 14, 15, 16], [0, 1, 2, 3, 4, 5, 6, 7, 8, 9, 10, 11, 12, 13], [0, 1, 2, 3, 4, 5, 6, 7, 8, 9, 10, 11, 12, 13, 18], [0, 1, 2, 3, 4, 5, 6, 7, 8, 9, 10, 11, 12, 13, 18, 19], [0, 1, 2, 3, 4, 5, 6, 7, 8, 9, 10, 11, 12, 13, 18, 19, 20], [0, 1, 2, 3, 4, 5, 6, 7, 8, 9, 10, 11, 12, 13], [0, 1, 2, 3, 4, 5, 6, 7, 8, 9, 10, 11, 12, 13, 18, 19, 20, 21, 22], [0, 1, 2, 3, 4, 5, 6, 7, 8, 9, 10, 11, 12, 13, 18, 19, 20, 21, 22, 23], [0, 1, 2, 3, 4, 5, 6, 7, 8, 9, 10, 11, 12, 13, 14, 15, 16, 17, 18, 19, 20, 21, 22, 23, 24], [0, 1, 2, 3, 4, 5, 6, 7, 8, 9, 10, 11, 12, 13, 14, 15, 16, 17, 18, 19, 20, 21, 22, 23, 24, 25]] mixed hN (.cons (mvU (v := .p I6 v5) rfl rfl) (.cons (mvU (v := .p (.list (.named 3)) v1) rfl rfl) (.cons (sok_lenL (U := Un) (rs := [(34, .p (.list (.named 3)) v1)]) rfl rfl Tryd.underlying22 o0) (.cons (cmU (rs := [(33, .p I6 v5), (35, .p I6 ((v1.length : Int) : Int))]) rfl rfl o0 o1 rfl) (.cons (mvU (v := .p .bool ((decide (v5 ≥ (v1.length : Int))) : Bool)) rfl rfl) (.cons (skU rfl rfl hc16) (.cons (skU rfl rfl hc16) (.cons (skU rfl rfl hc16) (.cons (skU rfl rfl hc16) (.cons (skU rfl rfl hc16) (.cons (skU rfl rfl hc16) (.cons (skU rfl rfl hc16) (.cons (pkT (rs := [(37, .p .bool ((decide (v5 ≥ (v1.length : Int))) : Bool))]) rfl rfl o0 hc16 (.bool _ _)) (.cons (mvU (v := .p .bool true) rfl rfl) (.cons (skU rfl rfl rfl) (.cons (skU rfl rfl rfl) (.cons (skU rfl rfl rfl) (.cons (skU rfl rfl rfl) (.cons (skU rfl rfl rfl) (.cons (skU rfl rfl rfl) (.cons (skU rfl rfl rfl) (.cons (skU rfl rfl rfl) (.cons (skU rfl rfl rfl) (.cons (skU rfl rfl rfl) (.cons (skU rfl rfl rfl) (.cons (skU rfl rfl rfl) (.cons (pkT (rs := [(46, .p .bool true)]) rfl rfl o0 rfl (.bool _ _)) .nil))))))))))))))))))))))))))) (by kernel_rfl) (by kernel_rfl) (by kernel_rfl) (by kernel_rfl) (by kernel_rfl) (cvR _) ?_
                refine tnU ?_
                exact ⟨true, h, rfl⟩
              · replace h := ite_f hc16 h
                obtain ⟨v17, hv17, h⟩ := bind_some h
                rcases bool_cases (!(v12 == v17.f_Name)) with hc18 | hc18
                · replace h := ite_t hc18 h
                  refine WpC.regA (U := Un) (st1 := ⟨[(0, .loc 100000 0), (1, .loc 100002 0), (5, .p (.list (.named 3)) v1), (26, .vec 10002 1 0 v4.length), (27, .p I6 ((v4.length : Int) : Int)), (28, .p I6 v5), (59, .p .bool true)], [(10002, .row 9 .str v4 false), (100000, .box [.mp 100001]), (100001, .map (.named 3) a0), (100002, .box [.p (.list (.named 3)) a1])]⟩) [0, 1, 5, 26, 27, 28, 59] [10002, 100000, 100001, 100002] [[], [], [1], [0, 1, 2], [0, 1, 2, 3], [0, 1, 2, 3, 4], [0, 1, 2, 3, 4], [0, 1, 2, 3, 4], [0, 1, 2, 3, 4, 6, 7], [0, 1, 2, 3, 4, 6, 7, 8], [0, 1, 2, 3, 4, 6, 7, 8, 9], [0, 1, 2, 3, 4, 5, 6, 7, 8, 9, 10], [0, 1, 2, 3, 4, 5, 6, 7, 8, 9, 10, 11], [0, 1, 2, 3, 4, 5, 6, 7, 8, 9, 10, 11, 12], [0, 1, 2, 3, 4, 5, 6, 7, 8, 9, 10, 11, 12, 13], [0, 1, 2, 3, 4, 5, 6, 7, 8, 9, 10, 11, 12, 13], [0, 1, 2, 3, 4, 5, 6, 7, 8, 9, 10, 11, 12, 13, 14, 15], [0, 1, 2, 3, 4, 5, 6, 7, 8, 9, 10, 11, 12, 13, 14, 15, 16], [0, 1, 2, 3, 4, 5, 6, 7, 8, 9, 10, 11, 12, 13], [0, 1, 2, 3, 4, 5, 6, 7, 8, 9, 10, 11, 12, 13, 18], [0, 1, 2, 3, 4, 5, 6, 7, 8, 9, 10, 11, 12, 13, 18, 19], [0, 1, 2, 3, 4, 5, 6, 7, 8, 9, 10, 11, 12, 13, 18, 19, 20], [0, 1, 2, 3, 4, 5, 6, 7, 8, 9, 10, 11, 12, 13], [0, 1, 2, 3, 4, 5, 6, 7, 8, 9, 10, 11, 12, 13, 18, 19, 20, 21, 22], [0, 1, 2, 3, 4, 5, 6, 7, 8, 9, 10, 11, 12, 13, 18, 19, 20, 21, 22, 23], [0, 1, 2, 3, 4, 5, 6, 7, 8, 9, 10, 11, 12, 13, 14, 15, 16, 17, 18, 19, 20, 21, 22, 23, 24], [0, 1, 2, 3, 4, 5, 6, 7, 8, 9, 10, 11, 12, 13, 14, 15, 16, 17, 18, 19, 20, 21, 22, 23, 24, 25]] mixed hN (.cons (mvU (v := .p I6 v5) rfl rfl) (.cons (mvU (v := .p (.list (.named 3)) v1) rfl rfl) (.cons (sok_lenL (U := Un) (rs := [(34, .p (.list (.named 3)) v1)]) rfl rfl Tryd.underlying22 o0) (.cons (cmU (rs := [(33, .p I6 v5), (35, .p I6 ((v1.length : Int) : Int))]) rfl rfl o0 o1 rfl) (.cons (mvU (v := .p .bool ((decide (v5 ≥ (v1.length : Int))) : Bool)) rfl rfl) (.cons (sok_run rfl rfl hc16 (mvU (v := .p .str v12) rfl rfl)) (.cons (sok_run rfl rfl hc16 (mvU (v := .p (.list (.named 3)) v1) rfl rfl)) (.cons (sok_run rfl rfl hc16 (mvU (v := .p I6 v5) rfl rfl)) (.cons (sok_run rfl rfl hc16 (sok_indexL (U := Un) (rs := [(39, .p (.list (.named 3)) v1), (40, .p I6 v5)]) rfl rfl sl_22 o0 o1 hv17)) (.cons (sok_run rfl rfl hc16 (sok_fieldP (U := Un) (rs := [(41, .pp (.named 3) v17)]) rfl rfl fd_24_0 (by decide) o0 (.named (.fst (.here _ _))))) (.cons (sok_run rfl rfl hc16 (sok_loadP (U := Un) (rs := [(42, .pp .str v17.f_Name)]) rfl rfl ty_9 o0)) (.cons (sok_run rfl rfl hc16 (sok_cmpS (U := Un) (rs := [(38, .p .str v12), (43, .p .str v17.f_Name)]) rfl rfl o0 o1 rfl)) (.cons (pkF (rs := [(37, .p .bool ((decide (v5 ≥ (v1.length : Int))) : Bool)), (44, .p .bool ((!(v12 == v17.f_Name)) : Bool))]) rfl rfl o0 hc16 o1) (.cons (mvU (v := .p .bool ((!(v12 == v17.f_Name)) : Bool)) rfl rfl) (.cons (skU rfl rfl hc18) (.cons (skU rfl rfl hc18) (.cons (skU rfl rfl hc18) (.cons (skU rfl rfl hc18) (.cons (skU rfl rfl hc18) (.cons (skU rfl rfl hc18) (.cons (skU rfl rfl hc18) (.cons (skU rfl rfl hc18) (.cons (skU rfl rfl hc18) (.cons (skU rfl rfl hc18) (.cons (skU rfl rfl hc18) (.cons (skU rfl rfl hc18) (.cons (pkT (rs := [(46, .p .bool ((!(v12 == v17.f_Name)) : Bool))]) rfl rfl o0 hc18 (.bool _ _)) .nil))))))))))))))))))))))))))) (by kernel_rfl) (by kernel_rfl) (by kernel_rfl) (by kernel_rfl) (by kernel_rfl) (cvR _) ?_
                  refine tnU ?_
                  exact ⟨true, h, rfl⟩
                · replace h := ite_f hc18 h
                  obtain ⟨v19, hv19, h⟩ := bind_some h
                  obtain ⟨v20, hv20, h⟩ := bind_some h
                  refine WpC.regA (U := Un) (st1 := ⟨[(0, .loc 100000 0), (1, .loc 100002 0), (5, .p (.list (.named 3)) v1), (26, .vec 10002 1 0 v4.length), (27, .p I6 ((v4.length : Int) : Int)), (28, .p I6 v5), (59, .p .bool ((!(v19.f_Name == v20.f_Name && (v19.f_Content == v20.f_Content && (v19.f_Time == v20.f_Time && true)))) : Bool))], [(10002, .row 9 .str v4 false), (100000, .box [.mp 100001]), (100001, .map (.named 3) a0), (100002, .box [.p (.list (.named 3)) a1])]⟩) [0, 1, 5, 26, 27, 28, 59] [10002, 100000, 100001, 100002] [[], [], [1], [0, 1, 2], [0, 1, 2, 3], [0, 1, 2, 3, 4], [0, 1, 2, 3, 4], [0, 1, 2, 3, 4], [0, 1, 2, 3, 4, 6, 7], [0, 1, 2, 3, 4, 6, 7, 8], [0, 1, 2, 3, 4, 6, 7, 8, 9], [0, 1, 2, 3, 4, 5, 6, 7, 8, 9, 10], [0, 1, 2, 3, 4, 5, 6, 7, 8, 9, 10, 11], [0, 1, 2, 3, 4, 5, 6, 7, 8, 9, 10, 11, 12], [0, 1, 2, 3, 4, 5, 6, 7, 8, 9, 10, 11, 12, 13], [0, 1, 2, 3, 4, 5, 6, 7, 8, 9, 10, 11, 12, 13], [0, 1, 2, 3, 4, 5, 6, 7, 8, 9, 10, 11, 12, 13, 14, 15], [0, 1, 2, 3, 4, 5, 6, 7, 8, 9, 10, 11, 12, 13, 14, 15, 16], [0, 1, 2, 3, 4, 5, 6, 7, 8, 9, 10, 11, 12, 13], [0, 1, 2, 3, 4, 5, 6, 7, 8, 9, 10, 11, 12, 13, 18], [0, 1, 2, 3, 4, 5, 6, 7, 8, 9, 10, 11, 12, 13, 18, 19], [0, 1, 2, 3, 4, 5, 6, 7, 8, 9, 10, 11, 12, 13, 18, 19, 20], [0, 1, 2, 3, 4, 5, 6, 7, 8, 9, 10, 11, 12, 13], [0, 1, 2, 3, 4, 5, 6, 7, 8, 9, 10, 11, 12, 13, 18, 19, 20, 21, 22], [0, 1, 2, 3, 4, 5, 6, 7, 8, 9, 10, 11, 12, 13, 18, 19, 20, 21, 22, 23], [0, 1, 2, 3, 4, 5, 6, 7, 8, 9, 10, 11, 12, 13, 14, 15, 16, 17, 18, 19, 20, 21, 22, 23, 24], [0, 1, 2, 3, 4, 5, 6, 7, 8, 9, 10, 11, 12, 13, 14, 15, 16, 17, 18, 19, 20, 21, 22, 23, 24, 25]] mixed hN (.cons (mvU (v := .p I6 v5) rfl rfl) (.cons (mvU (v := .p (.list (.named 3)) v1) rfl rfl) (.cons (sok_lenL (U := Un) (rs := [(34, .p (.list (.named 3)) v1)]) rfl rfl Tryd.underlying22 o0) (.cons (cmU (rs := [(33, .p I6 v5), (35, .p I6 ((v1.length : Int) : Int))]) rfl rfl o0 o1 rfl) (.cons (mvU (v := .p .bool ((decide (v5 ≥ (v1.length : Int))) : Bool)) rfl rfl) (.cons (sok_run rfl rfl hc16 (mvU (v := .p .str v12) rfl rfl)) (.cons (sok_run rfl rfl hc16 (mvU (v := .p (.list (.named 3)) v1) rfl rfl)) (.cons (sok_run rfl rfl hc16 (mvU (v := .p I6 v5) rfl rfl)) (.cons (sok_run rfl rfl hc16 (sok_indexL (U := Un) (rs := [(39, .p (.list (.named 3)) v1), (40, .p I6 v5)]) rfl rfl sl_22 o0 o1 hv17)) (.cons (sok_run rfl rfl hc16 (sok_fieldP (U := Un) (rs := [(41, .pp (.named 3) v17)]) rfl rfl fd_24_0 (by decide) o0 (.named (.fst (.here _ _))))) (.cons (sok_run rfl rfl hc16 (sok_loadP (U := Un) (rs := [(42, .pp .str v17.f_Name)]) rfl rfl ty_9 o0)) (.cons (sok_run rfl rfl hc16 (sok_cmpS (U := Un) (rs := [(38, .p .str v12), (43, .p .str v17.f_Name)]) rfl rfl o0 o1 rfl)) (.cons (pkF (rs := [(37, .p .bool ((decide (v5 ≥ (v1.length : Int))) : Bool)), (44, .p .bool ((!(v12 == v17.f_Name)) : Bool))]) rfl rfl o0 hc16 o1) (.cons (mvU (v := .p .bool ((!(v12 == v17.f_Name)) : Bool)) rfl rfl) (.cons (sok_run rfl rfl hc18 (mvU (v := .p (.list (.named 3)) v1) rfl rfl)) (.cons (sok_run rfl rfl hc18 (mvU (v := .p I6 v5) rfl rfl)) (.cons (sok_run rfl rfl hc18 (sok_indexL (U := Un) (rs := [(47, .p (.list (.named 3)) v1), (48, .p I6 v5)]) rfl rfl sl_22 o0 o1 hv19)) (.cons (sok_run rfl rfl hc18 (sok_loadP (U := Un) (rs := [(49, .pp (.named 3) v19)]) rfl rfl ty_24 o0)) (.cons (sok_run rfl rfl hc18 (mvU (v := .loc 100002 0) rfl rfl)) (.cons (sok_run rfl rfl hc18 (nlU (rs := [(51, .loc 100002 0)]) rfl rfl o0 rfl)) (.cons (sok_run rfl rfl hc18 (fdB (rs := [(52, .loc 100002 0)]) rfl rfl fd_47_0 (by decide) o0)) (.cons (sok_run rfl rfl hc18 (ldB (t := .list (.named 3)) (rs := [(53, .loc 100002 0)]) [] [.p (.list (.named 3)) a1] [] (v := .p (.list (.named 3)) a1) rfl rfl ty_45 o0 rfl rfl rfl rfl (.data (.one _ _)))) (.cons (sok_run rfl rfl hc18 (mvU (v := .p I6 v5) rfl rfl)) (.cons (sok_run rfl rfl hc18 (sok_indexL (U := Un) (rs := [(54, .p (.list (.named 3)) a1), (55, .p I6 v5)]) rfl rfl sl_45 o0 o1 hv20)) (.cons (sok_run rfl rfl hc18 (sok_loadP (U := Un) (rs := [(56, .pp (.named 3) v20)]) rfl rfl ty_50 o0)) (.cons (sok_run rfl rfl hc18 (sok_neS (U := Un) (rs := [(50, .p (.named 3) v19), (57, .p (.named 3) v20)]) rfl rfl Tryd.underlying50 (by kernel_rfl) (eqf_50 _ Tryd.underlying50) (by kernel_rfl) o0 o1)) (.cons (pkF (rs := [(46, .p .bool ((!(v12 == v17.f_Name)) : Bool)), (58, .p .bool ((!(v19.f_Name == v20.f_Name && (v19.f_Content == v20.f_Content && (v19.f_Time == v20.f_Time && true)))) : Bool))]) rfl rfl o0 hc18 o1) .nil))))))))))))))))))))))))))) (by kernel_rfl) (by kernel_rfl) (by kernel_rfl) (by kernel_rfl) (by kernel_rfl) (cvR _) ?_
                  refine tnU ?_
                  exact ⟨(!(v19.f_Name == v20.f_Name && (v19.f_Content == v20.f_Content && (v19.f_Time == v20.f_Time && true)))), h, rfl⟩
            · rintro _ ⟨v13, h, rfl⟩
              unfold millwrightlaw02_Shows_m0.j15 at h
              refine cdU (b := v13) (.tmp (.tail _ (.tail _ (.tail _ (.tail _ (.tail _ (.tail _ (.head _)))))))) (fun hc14 => ?_) (fun hc14 => ?_)
              · replace h := ite_t hc14 h
                refine WpC.seq ?_
                refine rgU (st1 := ⟨[(4, .p .bool false)], [(100000, .box [.mp 100001]), (100001, .map (.named 3) a0), (100002, .box [.p (.list (.named 3)) a1])]⟩) [4] [100000, 100001, 100002] hN (.cons (moU (rs := []) rfl (.inr rfl) (.bool _ _)) .nil) (by kernel_rfl) (by kernel_rfl) (by kernel_rfl) (cvR _) ?_
                refine tnU ?_
                refine WpC.ret ?_
                refine blockQ_ret ?_
                refine thenQ_ret ?_
                have hq := Option.some.inj h
                subst hq
                refine thenQ_ret ?_
                have h := hout8
                refine blockQ_ret ?_
                refine thenQ_ret ?_
                have hq := Option.some.inj h
                subst hq
                exact ends_ret (retV_1 rfl (.head _)) (ain_cons (.head _) (ain_cons (.tail _ (.head _)) (ain_cons (.tail _ (.tail _ (.head _))) ain_nil)))
              · replace h := ite_f hc14 h
                refine WpC.conv (cvK (b := ⟨[(0, .loc 100000 0), (1, .loc 100002 0), (5, .p (.list (.named 3)) v1), (26, .vec 10002 1 0 v4.length), (27, .p I6 ((v4.length : Int) : Int)), (28, .p I6 v5)], [(10002, .row 9 .str v4 false), (100000, .box [.mp 100001]), (100001, .map (.named 3) a0), (100002, .box [.p (.list (.named 3)) a1])]⟩) [0, 1, 5, 26, 27, 28] [10002, 100000, 100001, 100002] (by kernel_rfl)) (WpC.skip ?_)
                refine blockQ_normal ?_
                refine tnU ?_
                exact ⟨h, rfl⟩
          · rintro _ ⟨h, rfl⟩
            unfold millwrightlaw02_Shows_m0.j10 at h
            refine rgU (st1 := ⟨[(0, .loc 100000 0), (1, .loc 100002 0), (5, .p (.list (.named 3)) v1), (26, .vec 10002 1 0 v4.length), (27, .p I6 ((v4.length : Int) : Int)), (28, .p I6 ((IntKind.i64.wrap (v5 + 1)) : Int))], [(10002, .row 9 .str v4 false), (100000, .box [.mp 100001]), (100001, .map (.named 3) a0), (100002, .box [.p (.list (.named 3)) a1])]⟩) [0, 1, 5, 26, 27, 28] [10002, 100000, 100001, 100002] hN (.cons (sok_arith (U := Un) (rs := [(28, .p I6 v5)]) rfl rfl o0 (.int _ _ _) rfl) (.cons (mvU (v := .p I6 ((IntKind.i64.wrap (v5 + 1)) : Int)) rfl rfl) .nil)) (by kernel_rfl) (by kernel_rfl) (by kernel_rfl) (cvR _) ?_
            refine tnU ?_
            exact ⟨n, Nat.lt_succ_self n, (IntKind.i64.wrap (v5 + 1)), h, rfl⟩
        · replace h := ite_f hc9 h
          refine WpC.conv (cvK (b := ⟨[(0, .loc 100000 0), (5, .p (.list (.named 3)) v1)], [(100000, .box [.mp 100001]), (100001, .map (.named 3) a0), (100002, .box [.p (.list (.named 3)) a1])]⟩) [0, 5] [100000, 100001, 100002] (by kernel_rfl)) (WpC.exit ?_)
          refine thenQ_exit ?_
          have hq := Option.some.inj h
          subst hq
          refine thenQ_exit ?_
          have h := hout8
          refine blockQ_hit ?_
          refine tnU ?_
          exact ⟨h, rfl⟩
    · rintro _ ⟨h, rfl⟩
      unfold millwrightlaw02_Shows_m0.j3 at h
      refine WpC.seq ?_
      obtain ⟨v2, hv2, h⟩ := bind_some h
      refine rgU (st1 := ⟨[(4, .p .bool (((v2.length : Int) == (v1.length : Int)) : Bool))], [(100000, .box [.mp 100001]), (100001, .map (.named 3) a0), (100002, .box [.p (.list (.named 3)) a1])]⟩) [4] [100000, 100001, 100002] hN (.cons (mvU (v := .loc 100000 0) rfl rfl) (.cons (caV (rs := [(61, .loc 100000 0)]) (vw := []) rfl rfl (.func _) hb_17 (COk.ren (tree_Tree_Names_m0.ok O hO k a0 v2 hv2) (fun n => if n = 60500 then 10001 else if n = 100000 then 100000 else if n = 100001 then 100001 else n) (injOn_of (by kernel_rfl))) (.cons o0 .nil) (.cons (.same _) .nil) (by simp) (.inl rfl)) (.cons (sok_lenV (U := Un) (rs := [(62, .vec 10001 1 0 v2.length)]) rfl rfl Tryd.underlying40 o0) (.cons (mvU (v := .p (.list (.named 3)) v1) rfl rfl) (.cons (sok_lenL (U := Un) (rs := [(64, .p (.list (.named 3)) v1)]) rfl rfl Tryd.underlying22 o0) (.cons (cmU (rs := [(63, .p I6 ((v2.length : Int) : Int)), (65, .p I6 ((v1.length : Int) : Int))]) rfl rfl o0 o1 rfl) (.cons (mvA (v := .p .bool (((v2.length : Int) == (v1.length : Int)) : Bool)) rfl rfl) .nil))))))) (by kernel_rfl) (by kernel_rfl) (by kernel_rfl) (cvR _) ?_
      refine tnU ?_
      refine WpC.ret ?_
      have hq := Option.some.inj h
      subst hq
      exact ends_ret (retV_1 rfl (.head _)) (ain_cons (.head _) (ain_cons (.tail _ (.head _)) (ain_cons (.tail _ (.tail _ (.head _))) ain_nil)))

theorem tree_Tree_Copy_m0.ok (O : Out) (hO : GOk O) (k : Nat) (a0 : List ((List UInt8) × T_tree_File)) (out : List ((List UInt8) × T_tree_File)) (h : tree_Tree_Copy_m0.f k a0 = some out) : COk Un O Tryd.prog 12 { ar := [.loc 100000 0], r := .loc 60500 0, bs := [(100000, .box [.mp 100001]), (100001, .map (.named 3) a0)], bs' := [(60500, .box [.mp 60501]), (60501, .map (.named 3) out), (100000, .box [.mp 100001]), (100001, .map (.named 3) a0)], nn := [60500, 60501] } := by
  refine cok_of_wp Tryd.func12 rfl (k := 10) rfl (Nat.le_of_ble_eq_true rfl) (namesOk_of (by kernel_rfl)) ?_
  intro B hN
  refine WpC.conv (cvK (b := ⟨[(0, .loc 100000 0)], [(100000, .box [.mp 100001]), (100001, .map (.named 3) a0)]⟩) [0] [100000, 100001] (by kernel_rfl)) ?_
  unfold tree_Tree_Copy_m0.f at h
  refine WpC.seq ?_
  refine rgU (st1 := ⟨[(0, .loc 100000 0)], [(100000, .box [.mp 100001]), (100001, .map (.named 3) a0)]⟩) [0] [100000, 100001] hN (.cons (moU (rs := []) rfl (.inr rfl) (.lit _ _ rfl)) .nil) (by kernel_rfl) (by kernel_rfl) (by kernel_rfl) (cvR _) ?_
  refine tnU ?_
  refine WpC.seq ?_
  obtain ⟨v1, hv1, h⟩ := bind_some h
  refine rgU (st1 := ⟨[(2, .loc 9 0)], [(9, .box [.mp 10001]), (10001, .map (.named 3) v1), (100000, .box [.mp 100001]), (100001, .map (.named 3) a0)]⟩) [2] [9, 10001, 100000, 100001] hN (.cons (mvU (v := .loc 100000 0) rfl rfl) (.cons (nlU (rs := [(3, .loc 100000 0)]) rfl rfl o0 rfl) (.cons (fdB (rs := [(4, .loc 100000 0)]) rfl rfl fd_89_0 (by decide) o0) (.cons (ldB (t := .bool) (rs := [(5, .loc 100000 0)]) [] [.mp 100001] [] (v := .mp 100001) rfl rfl ty1_86 o0 rfl rfl rfl rfl (.hand rfl rfl)) (.cons (caV (rs := [(6, .mp 100001)]) (vw := []) rfl rfl (.func _) hb_50 (COk.ren (pMapClone.ok (U := Un) (t := .named 3) O hO k a0 v1 hv1) (fun n => if n = 60500 then 10001 else if n = 100000 then 100001 else n) (injOn_of (by kernel_rfl))) (.cons o0 .nil) (.cons (.same _) .nil) (by simp) (.inl rfl)) (.cons (sok_build (U := Un) (t := .arr 1 .bool) (rs := [(7, .mp 10001)]) (us0 := [.lit (.map none)]) (us := [.mp 10001]) (v := .agg [.mp 10001]) rfl rfl lays_89 (.lit rfl .nil) (Filled.cons (U := Un) (i := 0) (v := .mp 10001) [] [.lit (.map none)] [.mp 10001] [] o0 (.hand rfl) rfl rfl rfl rfl rfl rfl (.nil _)) rfl (.agg rfl)) (.cons (sok_box (U := Un) (rs := [(8, .agg [.mp 10001])]) (d := 9) (us := [.mp 10001]) rfl rfl rfl o0 .agg rfl (notin_of (by kernel_rfl))) (.cons (mvA (v := .loc 9 0) rfl rfl) .nil)))))))) (by kernel_rfl) (by kernel_rfl) (by kernel_rfl) (cvR _) ?_
  refine tnU ?_
  refine WpC.conv (cvT (Conv.ren (U := Un) (st' := ⟨[(2, .loc 9 0)], [(9, .box [.mp 60501]), (60501, .map (.named 3) v1), (100000, .box [.mp 100001]), (100001, .map (.named 3) a0)]⟩) 10001 60501 (by unfold K0; omega) (by kernel_rfl) (by kernel_rfl) (by kernel_rfl)) (cvT (cvK (b := ⟨[(2, .loc 9 0)], [(9, .box [.mp 60501]), (60501, .map (.named 3) v1), (100000, .box [.mp 100001]), (100001, .map (.named 3) a0)]⟩) [2] [9, 60501, 100000, 100001] (by kernel_rfl)) (cvT (Conv.ren (U := Un) (st' := ⟨[(2, .loc 60500 0)], [(60500, .box [.mp 60501]), (60501, .map (.named 3) v1), (100000, .box [.mp 100001]), (100001, .map (.named 3) a0)]⟩) 9 60500 (by unfold K0; omega) (by kernel_rfl) (by kernel_rfl) (by kernel_rfl)) (cvK (b := ⟨[(2, .loc 60500 0)], [(60500, .box [.mp 60501]), (60501, .map (.named 3) v1), (100000, .box [.mp 100001]), (100001, .map (.named 3) a0)]⟩) [2] [60500, 60501, 100000, 100001] (by kernel_rfl))))) (WpC.ret ?_)
  have hq := Option.some.inj h
  subst hq
  exact ends_ret (retV_1 rfl (.head _)) (ain_cons (.head _) (ain_cons (.tail _ (.head _)) (ain_cons (.tail _ (.tail _ (.head _))) (ain_cons (.tail _ (.tail _ (.tail _ (.head _)))) ain_nil))))

theorem delta_Change_fits_m0.ok (O : Out) (hO : GOk O) (k : Nat) (a0 : T_delta_Change) (a1 : List ((List UInt8) × T_tree_File)) (out : Bool) (h : delta_Change_fits_m0.f k a0 a1 = some out) : COk Un O Tryd.prog 62 { ar := [.p (.named 6) a0, .loc 100000 0], r := .p .bool out, bs := [(100000, .box [.mp 100001]), (100001, .map (.named 3) a1)], bs' := [(100000, .box [.mp 100001]), (100001, .map (.named 3) a1)] } := by
  refine cok_of_wp Tryd.func62 rfl (k := 26) rfl (Nat.le_of_ble_eq_true rfl) (namesOk_of (by kernel_rfl)) ?_
  intro B hN
  refine WpC.conv (cvK (b := ⟨[(0, .p (.named 6) a0), (1, .loc 100000 0)], [(100000, .box [.mp 100001]), (100001, .map (.named 3) a1)]⟩) [0, 1] [100000, 100001] (by kernel_rfl)) ?_
  unfold delta_Change_fits_m0.f at h
  refine WpC.seq ?_
  refine rgU (st1 := ⟨[(1, .loc 100000 0), (2, .loc 2 0)], [(2, .box [.p I6 a0.f_Kind, .p .str a0.f_Old.f_Name, .p .str a0.f_Old.f_Content, .p I6 a0.f_Old.f_Time, .p .str a0.f_New.f_Name, .p .str a0.f_New.f_Content, .p I6 a0.f_New.f_Time]), (100000, .box [.mp 100001]), (100001, .map (.named 3) a1)]⟩) [1, 2] [2, 100000, 100001] hN (.cons (sok_box (U := Un) (rs := [(0, .p (.named 6) a0)]) (d := 2) (us := [.p I6 a0.f_Kind, .p .str a0.f_Old.f_Name, .p .str a0.f_Old.f_Content, .p I6 a0.f_Old.f_Time, .p .str a0.f_New.f_Name, .p .str a0.f_New.f_Content, .p I6 a0.f_New.f_Time]) rfl rfl rfl o0 (.data (.named (us := ([.p I6 a0.f_Kind, .p .str a0.f_Old.f_Name, .p .str a0.f_Old.f_Content, .p I6 a0.f_Old.f_Time, .p .str a0.f_New.f_Name, .p .str a0.f_New.f_Content, .p I6 a0.f_New.f_Time] : List (AVal Un))) (.pair (.one _ _) (.pair (.named (us := ([.p .str a0.f_Old.f_Name, .p .str a0.f_Old.f_Content, .p I6 a0.f_Old.f_Time] : List (AVal Un))) (.pair (.one _ _) (.pair (.one _ _) (.pair (.one _ _) .unit)))) (.pair (.named (us := ([.p .str a0.f_New.f_Name, .p .str a0.f_New.f_Content, .p I6 a0.f_New.f_Time] : List (AVal Un))) (.pair (.one _ _) (.pair (.one _ _) (.pair (.one _ _) .unit)))) .unit))))) rfl (notin_of (by kernel_rfl))) (.cons (moU (rs := []) rfl (.inr rfl) (.bool _ _)) .nil)) (by kernel_rfl) (by kernel_rfl) (by kernel_rfl) (cvR _) ?_
  refine tnU ?_
  refine WpC.seq ?_
  obtain ⟨v1, hv1, h⟩ := bind_some h
  obtain ⟨v2, hv2, h⟩ := bind_some h
  refine rgU (st1 := ⟨[(2, .loc 2 0), (5, .loc 5 0), (6, .p .bool v2.2)], [(2, .box [.p I6 a0.f_Kind, .p .str a0.f_Old.f_Name, .p .str a0.f_Old.f_Content, .p I6 a0.f_Old.f_Time, .p .str a0.f_New.f_Name, .p .str a0.f_New.f_Content, .p I6 a0.f_New.f_Time]), (5, .box [.p .str v2.1.f_Name, .p .str v2.1.f_Content, .p I6 v2.1.f_Time]), (100000, .box [.mp 100001]), (100001, .map (.named 3) a1)]⟩) [2, 5, 6] [2, 5, 100000, 100001] hN (.cons (mvU (v := .loc 100000 0) rfl rfl) (.cons (ldB (t := .named 6) (rs := [(2, .loc 2 0)]) [] [.p I6 a0.f_Kind, .p .str a0.f_Old.f_Name, .p .str a0.f_Old.f_Content, .p I6 a0.f_Old.f_Time, .p .str a0.f_New.f_Name, .p .str a0.f_New.f_Content, .p I6 a0.f_New.f_Time] [] (v := .p (.named 6) ((T_delta_Change.mk a0.f_Kind (T_tree_File.mk a0.f_Old.f_Name a0.f_Old.f_Content a0.f_Old.f_Time) (T_tree_File.mk a0.f_New.f_Name a0.f_New.f_Content a0.f_New.f_Time)) : T_delta_Change)) rfl rfl ty_103 o0 rfl rfl rfl rfl (.data (.named (us := ([.p I6 a0.f_Kind, .p .str a0.f_Old.f_Name, .p .str a0.f_Old.f_Content, .p I6 a0.f_Old.f_Time, .p .str a0.f_New.f_Name, .p .str a0.f_New.f_Content, .p I6 a0.f_New.f_Time] : List (AVal Un))) (.pair (.one _ _) (.pair (.named (us := ([.p .str a0.f_Old.f_Name, .p .str a0.f_Old.f_Content, .p I6 a0.f_Old.f_Time] : List (AVal Un))) (.pair (.one _ _) (.pair (.one _ _) (.pair (.one _ _) .unit)))) (.pair (.named (us := ([.p .str a0.f_New.f_Name, .p .str a0.f_New.f_Content, .p I6 a0.f_New.f_Time] : List (AVal Un))) (.pair (.one _ _) (.pair (.one _ _) (.pair (.one _ _) .unit)))) .unit)))))) (.cons (caV (rs := [(9, .p (.named 6) ((T_delta_Change.mk a0.f_Kind (T_tree_File.mk a0.f_Old.f_Name a0.f_Old.f_Content a0.f_Old.f_Time) (T_tree_File.mk a0.f_New.f_Name a0.f_New.f_Content a0.f_New.f_Time)) : T_delta_Change))]) (vw := []) rfl rfl (.func _) hb_65 (delta_Change_name.ok O hO k (T_delta_Change.mk a0.f_Kind (T_tree_File.mk a0.f_Old.f_Name a0.f_Old.f_Content a0.f_Old.f_Time) (T_tree_File.mk a0.f_New.f_Name a0.f_New.f_Content a0.f_New.f_Time)) v1 hv1) (.cons o0 .nil) (.cons (.same _) .nil) (by simp) (.inl rfl)) (.cons (caV (rs := [(8, .loc 100000 0), (10, .p .str v1)]) (vw := []) rfl rfl (.func _) hb_16 (COk.ren (tree_Tree_Get_m0.ok O hO k a1 v1 v2 hv2) (fun n => if n = 100000 then 100000 else if n = 100001 then 100001 else n) (injOn_of (by kernel_rfl))) (.cons o0 (.cons o1 .nil)) (.cons (.same _) (.cons (.same _) .nil)) (by simp) (.inl rfl)) (.cons (mvU (v := .tup [.p (.named 3) v2.1, .p .bool v2.2]) rfl rfl) (.cons (exU (rs := [(7, .tup [.p (.named 3) v2.1, .p .bool v2.2])]) rfl rfl o0 rfl) (.cons (exU (rs := [(7, .tup [.p (.named 3) v2.1, .p .bool v2.2])]) rfl rfl o0 rfl) (.cons (sok_allocZ (U := Un) (rs := []) (d := 5) (us := [.p .str ([] : List UInt8), .p .str ([] : List UInt8), .p I6 (0 : Int)]) (v := (.agg #[.string ByteArray.empty, .string ByteArray.empty, .int .i64 0])) rfl rfl rfl (by kernel_rfl) rfl (.data (fun _ _ _ => rd_str0) (.data (fun _ _ _ => rd_str0) (.data (fun _ _ _ => .int _ _) .nil))) (by kernel_rfl)) (.cons (sok_storeB (U := Un) (rs := [(5, .loc 5 0), (12, .p (.named 3) v2.1)]) (v := .p (.named 3) v2.1) (mid' := [.p .str v2.1.f_Name, .p .str v2.1.f_Content, .p I6 v2.1.f_Time]) [] [.p .str ([] : List UInt8), .p .str ([] : List UInt8), .p I6 (0 : Int)] [] rfl rfl rfl ty_24 o0 o1 (.data (.named (us := ([.p .str v2.1.f_Name, .p .str v2.1.f_Content, .p I6 v2.1.f_Time] : List (AVal Un))) (.pair (.one _ _) (.pair (.one _ _) (.pair (.one _ _) .unit))))) rfl rfl rfl rfl rfl rfl) (.cons (mvA (v := .p .bool v2.2) rfl rfl) .nil)))))))))) (by kernel_rfl) (by kernel_rfl) (by kernel_rfl) (cvR _) ?_
  refine tnU ?_
  refine WpC.seq ?_
  refine WpC.seq ?_
  refine rgU (st1 := ⟨[(2, .loc 2 0), (5, .loc 5 0), (6, .p .bool v2.2), (16, .p .bool ((a0.f_Kind == 1) : Bool))], [(2, .box [.p I6 a0.f_Kind, .p .str a0.f_Old.f_Name, .p .str a0.f_Old.f_Content, .p I6 a0.f_Old.f_Time, .p .str a0.f_New.f_Name, .p .str a0.f_New.f_Content, .p I6 a0.f_New.f_Time]), (5, .box [.p .str v2.1.f_Name, .p .str v2.1.f_Content, .p I6 v2.1.f_Time]), (100000, .box [.mp 100001]), (100001, .map (.named 3) a1)]⟩) [2, 5, 6, 16] [2, 5, 100000, 100001] hN (.cons (fdB (rs := [(2, .loc 2 0)]) rfl rfl fd_103_0 (by decide) o0) (.cons (ldB (t := .int .i64) (rs := [(14, .loc 2 0)]) [] [.p I6 a0.f_Kind] [.p .str a0.f_Old.f_Name, .p .str a0.f_Old.f_Content, .p I6 a0.f_Old.f_Time, .p .str a0.f_New.f_Name, .p .str a0.f_New.f_Content, .p I6 a0.f_New.f_Time] (v := .p I6 a0.f_Kind) rfl rfl ty_3 o0 rfl rfl rfl rfl (.data (.one _ _))) (.cons (cmU (rs := [(15, .p I6 a0.f_Kind)]) rfl rfl o0 (.int _ _ _) rfl) .nil))) (by kernel_rfl) (by kernel_rfl) (by kernel_rfl) (cvR _) ?_
  refine tnU ?_
  refine cdU (b := (a0.f_Kind == 1)) (.tmp (.tail _ (.tail _ (.tail _ (.head _))))) (fun hc3 => ?_) (fun hc3 => ?_)
  · replace h := ite_t hc3 h
    refine WpC.seq ?_
    refine rgU (st1 := ⟨[(4, .p .bool ((!v2.2) : Bool))], [(100000, .box [.mp 100001]), (100001, .map (.named 3) a1)]⟩) [4] [100000, 100001] hN (.cons (mvU (v := .p .bool v2.2) rfl rfl) (.cons (sok_not (U := Un) (rs := [(17, .p .bool v2.2)]) rfl rfl o0) (.cons (mvA (v := .p .bool ((!v2.2) : Bool)) rfl rfl) .nil))) (by kernel_rfl) (by kernel_rfl) (by kernel_rfl) (cvR _) ?_
    refine tnU ?_
    refine WpC.ret ?_
    refine thenQ_ret ?_
    have hq := Option.some.inj h
    subst hq
    exact ends_ret (retV_1 rfl (.head _)) (ain_cons (.head _) (ain_cons (.tail _ (.head _)) ain_nil))
  · replace h := ite_f hc3 h
    refine WpC.conv (cvK (b := ⟨[(2, .loc 2 0), (5, .loc 5 0), (6, .p .bool v2.2)], [(2, .box [.p I6 a0.f_Kind, .p .str a0.f_Old.f_Name, .p .str a0.f_Old.f_Content, .p I6 a0.f_Old.f_Time, .p .str a0.f_New.f_Name, .p .str a0.f_New.f_Content, .p I6 a0.f_New.f_Time]), (5, .box [.p .str v2.1.f_Name, .p .str v2.1.f_Content, .p I6 v2.1.f_Time]), (100000, .box [.mp 100001]), (100001, .map (.named 3) a1)]⟩) [2, 5, 6] [2, 5, 100000, 100001] (by kernel_rfl)) (WpC.skip ?_)
    refine tnU ?_
    refine WpC.seq ?_
    rcases bool_cases v2.2 with hc4 | hc4
    · replace h := ite_t hc4 h
      refine rgU (st1 := ⟨[(4, .p .bool ((v2.1.f_Name == a0.f_Old.f_Name && (v2.1.f_Content == a0.f_Old.f_Content && (v2.1.f_Time == a0.f_Old.f_Time && true))) : Bool))], [(100000, .box [.mp 100001]), (100001, .map (.named 3) a1)]⟩) [4] [100000, 100001] hN (.cons (mvU (v := .p .bool v2.2) rfl rfl) (.cons (mvU (v := .p .bool v2.2) rfl rfl) (.cons (sok_run rfl rfl hc4 (ldB (t := .named 3) (rs := [(5, .loc 5 0)]) [] [.p .str v2.1.f_Name, .p .str v2.1.f_Content, .p I6 v2.1.f_Time] [] (v := .p (.named 3) ((T_tree_File.mk v2.1.f_Name v2.1.f_Content v2.1.f_Time) : T_tree_File)) rfl rfl ty_24 o0 rfl rfl rfl rfl (.data (.named (us := ([.p .str v2.1.f_Name, .p .str v2.1.f_Content, .p I6 v2.1.f_Time] : List (AVal Un))) (.pair (.one _ _) (.pair (.one _ _) (.pair (.one _ _) .unit))))))) (.cons (sok_run rfl rfl hc4 (fdB (rs := [(2, .loc 2 0)]) rfl rfl fd_103_1 (by decide) o0)) (.cons (sok_run rfl rfl hc4 (ldB (t := .named 3) (rs := [(22, .loc 2 1)]) [.p I6 a0.f_Kind] [.p .str a0.f_Old.f_Name, .p .str a0.f_Old.f_Content, .p I6 a0.f_Old.f_Time] [.p .str a0.f_New.f_Name, .p .str a0.f_New.f_Content, .p I6 a0.f_New.f_Time] (v := .p (.named 3) ((T_tree_File.mk a0.f_Old.f_Name a0.f_Old.f_Content a0.f_Old.f_Time) : T_tree_File)) rfl rfl ty_24 o0 rfl rfl rfl rfl (.data (.named (us := ([.p .str a0.f_Old.f_Name, .p .str a0.f_Old.f_Content, .p I6 a0.f_Old.f_Time] : List (AVal Un))) (.pair (.one _ _) (.pair (.one _ _) (.pair (.one _ _) .unit))))))) (.cons (sok_run rfl rfl hc4 (sok_eqS (U := Un) (rs := [(21, .p (.named 3) ((T_tree_File.mk v2.1.f_Name v2.1.f_Content v2.1.f_Time) : T_tree_File)), (23, .p (.named 3) ((T_tree_File.mk a0.f_Old.f_Name a0.f_Old.f_Content a0.f_Old.f_Time) : T_tree_File))]) rfl rfl Tryd.underlying24 (by kernel_rfl) (eqf_24 _ Tryd.underlying24) (by kernel_rfl) o0 o1)) (.cons (pkT (rs := [(20, .p .bool v2.2), (24, .p .bool ((v2.1.f_Name == a0.f_Old.f_Name && (v2.1.f_Content == a0.f_Old.f_Content && (v2.1.f_Time == a0.f_Old.f_Time && true))) : Bool))]) rfl rfl o0 hc4 o1) (.cons (mvA (v := .p .bool ((v2.1.f_Name == a0.f_Old.f_Name && (v2.1.f_Content == a0.f_Old.f_Content && (v2.1.f_Time == a0.f_Old.f_Time && true))) : Bool)) rfl rfl) .nil)))))))) (by kernel_rfl) (by kernel_rfl) (by kernel_rfl) (cvR _) ?_
      refine tnU ?_
      refine WpC.ret ?_
      have hq := Option.some.inj h
      subst hq
      exact ends_ret (retV_1 rfl (.head _)) (ain_cons (.head _) (ain_cons (.tail _ (.head _)) ain_nil))
    · replace h := ite_f hc4 h
      refine rgU (st1 := ⟨[(4, .p .bool false)], [(100000, .box [.mp 100001]), (100001, .map (.named 3) a1)]⟩) [4] [100000, 100001] hN (.cons (mvU (v := .p .bool v2.2) rfl rfl) (.cons (mvU (v := .p .bool v2.2) rfl rfl) (.cons (skU rfl rfl hc4) (.cons (skU rfl rfl hc4) (.cons (skU rfl rfl hc4) (.cons (skU rfl rfl hc4) (.cons (pkF (rs := [(20, .p .bool v2.2)]) rfl rfl o0 hc4 (.bool _ _)) (.cons (mvA (v := .p .bool false) rfl rfl) .nil)))))))) (by kernel_rfl) (by kernel_rfl) (by kernel_rfl) (cvR _) ?_
      refine tnU ?_
      refine WpC.ret ?_
      have hq := Option.some.inj h
      subst hq
      exact ends_ret (retV_1 rfl (.head _)) (ain_cons (.head _) (ain_cons (.tail _ (.head _)) ain_nil))

theorem tree_Tree_Remove_m0.ok (O : Out) (hO : GOk O) (k : Nat) (a0 : List ((List UInt8) × T_tree_File)) (a1 : List UInt8) (out : Nat × (List ((List UInt8) × T_tree_File))) (h : tree_Tree_Remove_m0.f k a0 a1 = some out) : COk Un O Tryd.prog 15 { ar := [.loc 100000 0, .p .str a1], r := .p .err out.1, bs := [(100000, .box [.mp 100001]), (100001, .map (.named 3) a0)], bs' := [(100000, .box [.mp 100001]), (100001, .map (.named 3) out.2)] } := by
  refine cok_of_wp Tryd.func15 rfl (k := 24) rfl (Nat.le_of_ble_eq_true rfl) (namesOk_of (by kernel_rfl)) ?_
  intro B hN
  refine WpC.conv (cvK (b := ⟨[(0, .loc 100000 0), (1, .p .str a1)], [(100000, .box [.mp 100001]), (100001, .map (.named 3) a0)]⟩) [0, 1] [100000, 100001] (by kernel_rfl)) ?_
  unfold tree_Tree_Remove_m0.f at h
  refine WpC.seq ?_
  refine rgU (st1 := ⟨[(0, .loc 100000 0), (1, .p .str a1)], [(100000, .box [.mp 100001]), (100001, .map (.named 3) a0)]⟩) [0, 1] [100000, 100001] hN (.cons (moU (rs := []) rfl (.inr rfl) (.lit _ _ rfl)) .nil) (by kernel_rfl) (by kernel_rfl) (by kernel_rfl) (cvR _) ?_
  refine tnU ?_
  refine WpC.seq ?_
  refine WpC.seq ?_
  refine rgU (st1 := ⟨[(0, .loc 100000 0), (1, .p .str a1), (6, .p .bool ((mget a1 a0).isSome : Bool))], [(100000, .box [.mp 100001]), (100001, .map (.named 3) a0)]⟩) [0, 1, 6] [100000, 100001] hN (.cons (mvU (v := .loc 100000 0) rfl rfl) (.cons (nlU (rs := [(8, .loc 100000 0)]) rfl rfl o0 rfl) (.cons (fdB (rs := [(9, .loc 100000 0)]) rfl rfl fd_89_0 (by decide) o0) (.cons (ldB (t := .bool) (rs := [(10, .loc 100000 0)]) [] [.mp 100001] [] (v := .mp 100001) rfl rfl ty1_86 o0 rfl rfl rfl rfl (.hand rfl rfl)) (.cons (mvU (v := .p .str a1) rfl rfl) (.cons (sok_lookup2 (U := Un) (t := .named 3) (kvs := a0) (rs := [(11, .mp 100001), (12, .p .str a1)]) rfl rfl map_86 zv_24 o0 o1) (.cons (mvU (v := .tup [.p (.named 3) (((mget a1 a0).getD (T_tree_File.mk [] [] 0)) : T_tree_File), .p .bool ((mget a1 a0).isSome : Bool)]) rfl rfl) (.cons (exU (rs := [(7, .tup [.p (.named 3) (((mget a1 a0).getD (T_tree_File.mk [] [] 0)) : T_tree_File), .p .bool ((mget a1 a0).isSome : Bool)])]) rfl rfl o0 rfl) (.cons (exU (rs := [(7, .tup [.p (.named 3) (((mget a1 a0).getD (T_tree_File.mk [] [] 0)) : T_tree_File), .p .bool ((mget a1 a0).isSome : Bool)])]) rfl rfl o0 rfl) (.cons (sok_allocZ (U := Un) (rs := []) (d := 5) (us := [.p .str ([] : List UInt8), .p .str ([] : List UInt8), .p I6 (0 : Int)]) (v := (.agg #[.string ByteArray.empty, .string ByteArray.empty, .int .i64 0])) rfl rfl rfl (by kernel_rfl) rfl (.data (fun _ _ _ => rd_str0) (.data (fun _ _ _ => rd_str0) (.data (fun _ _ _ => .int _ _) .nil))) (by kernel_rfl)) (.cons (sok_storeB (U := Un) (rs := [(5, .loc 5 0), (14, .p (.named 3) (((mget a1 a0).getD (T_tree_File.mk [] [] 0)) : T_tree_File))]) (v := .p (.named 3) (((mget a1 a0).getD (T_tree_File.mk [] [] 0)) : T_tree_File)) (mid' := [.p .str (((mget a1 a0).getD (T_tree_File.mk [] [] 0)).f_Name : List UInt8), .p .str (((mget a1 a0).getD (T_tree_File.mk [] [] 0)).f_Content : List UInt8), .p I6 (((mget a1 a0).getD (T_tree_File.mk [] [] 0)).f_Time : Int)]) [] [.p .str ([] : List UInt8), .p .str ([] : List UInt8), .p I6 (0 : Int)] [] rfl rfl rfl ty_24 o0 o1 (.data (.named (us := ([.p .str (((mget a1 a0).getD (T_tree_File.mk [] [] 0)).f_Name : List UInt8), .p .str (((mget a1 a0).getD (T_tree_File.mk [] [] 0)).f_Content : List UInt8), .p I6 (((mget a1 a0).getD (T_tree_File.mk [] [] 0)).f_Time : Int)] : List (AVal Un))) (.pair (.one _ _) (.pair (.one _ _) (.pair (.one _ _) .unit))))) rfl rfl rfl rfl rfl rfl) (.cons (mvA (v := .p .bool ((mget a1 a0).isSome : Bool)) rfl rfl) .nil)))))))))))) (by kernel_rfl) (by kernel_rfl) (by kernel_rfl) (cvR _) ?_
  refine tnU ?_
  refine WpC.seq ?_
  refine rgU (st1 := ⟨[(0, .loc 100000 0), (1, .p .str a1), (17, .p .bool ((!((mget a1 a0).isSome)) : Bool))], [(100000, .box [.mp 100001]), (100001, .map (.named 3) a0)]⟩) [0, 1, 17] [100000, 100001] hN (.cons (mvU (v := .p .bool ((mget a1 a0).isSome : Bool)) rfl rfl) (.cons (sok_not (U := Un) (rs := [(16, .p .bool ((mget a1 a0).isSome : Bool))]) rfl rfl o0) .nil)) (by kernel_rfl) (by kernel_rfl) (by kernel_rfl) (cvR _) ?_
  refine tnU ?_
  refine cdU (b := (!((mget a1 a0).isSome))) (.tmp (.tail _ (.tail _ (.head _)))) (fun hc1 => ?_) (fun hc1 => ?_)
  · replace h := ite_t hc1 h
    refine WpC.seq ?_
    refine rgU (st1 := ⟨[(4, .p .err (8 : Nat))], [(100000, .box [.mp 100001]), (100001, .map (.named 3) a0)]⟩) [4] [100000, 100001] hN (.cons (sok_loadG (U := Un) (t := .err) (rs := []) rfl rfl ty_31 rfl rfl (hO.var 7 1 rfl) (fun S w => .err 7)) (.cons (mvA (v := .p .err (8 : Nat)) rfl rfl) .nil)) (by kernel_rfl) (by kernel_rfl) (by kernel_rfl) (cvR _) ?_
    refine tnU ?_
    refine WpC.ret ?_
    refine thenQ_ret ?_
    have hq := Option.some.inj h
    subst hq
    exact ends_ret (retV_1 rfl (.head _)) (ain_cons (.head _) (ain_cons (.tail _ (.head _)) ain_nil))
  · replace h := ite_f hc1 h
    refine WpC.conv (cvK (b := ⟨[(0, .loc 100000 0), (1, .p .str a1)], [(100000, .box [.mp 100001]), (100001, .map (.named 3) a0)]⟩) [0, 1] [100000, 100001] (by kernel_rfl)) (WpC.skip ?_)
    refine tnU ?_
    refine WpC.seq ?_
    refine rgU (st1 := ⟨[], [(100000, .box [.mp 100001]), (100001, .map (.named 3) ((mdel a1 a0) : List ((List UInt8) × T_tree_File)))]⟩) [] [100000, 100001] hN (.cons (mvU (v := .loc 100000 0) rfl rfl) (.cons (nlU (rs := [(19, .loc 100000 0)]) rfl rfl o0 rfl) (.cons (fdB (rs := [(20, .loc 100000 0)]) rfl rfl fd_89_0 (by decide) o0) (.cons (ldB (t := .bool) (rs := [(21, .loc 100000 0)]) [] [.mp 100001] [] (v := .mp 100001) rfl rfl ty1_86 o0 rfl rfl rfl rfl (.hand rfl rfl)) (.cons (mvU (v := .p .str a1) rfl rfl) (.cons (sok_delete (U := Un) (t := .named 3) (kvs := a0) (rs := [(22, .mp 100001), (23, .p .str a1)]) rfl rfl map_86 o0 o1) .nil)))))) (by kernel_rfl) (by kernel_rfl) (by kernel_rfl) (cvR _) ?_
    refine tnU ?_
    refine WpC.seq ?_
    refine rgU (st1 := ⟨[(4, .lit .nilIface)], [(100000, .box [.mp 100001]), (100001, .map (.named 3) ((mdel a1 a0) : List ((List UInt8) × T_tree_File)))]⟩) [4] [100000, 100001] hN (.cons (moU (rs := []) rfl (.inr rfl) (.lit _ _ rfl)) .nil) (by kernel_rfl) (by kernel_rfl) (by kernel_rfl) (cvR _) ?_
    refine tnU ?_
    refine WpC.conv (cvT (Conv.nilE (U := Un) 4 (.head _)) (cvK (b := ⟨[(4, .p .err (0 : Nat))], [(100000, .box [.mp 100001]), (100001, .map (.named 3) ((mdel a1 a0) : List ((List UInt8) × T_tree_File)))]⟩) [4] [100000, 100001] (by kernel_rfl))) (WpC.ret ?_)
    have hq := Option.some.inj h
    subst hq
    exact ends_ret (retV_1 rfl (.head _)) (ain_cons (.head _) (ain_cons (.tail _ (.head _)) ain_nil))

end Go.Proofs.YtkdpaglpieamgaaDoor
