/- A part of the proof of a given law: TOC2. Own work, printed in part by a program of mine. -/
import Derived.Test.YtkdpaglpieamgaaDoorK6TOC1
namespace Go.Proofs.YtkdpaglpieamgaaDoor
open Go Go.AM
set_option linter.unusedVariables false
set_option linter.unusedSimpArgs false
set_option maxRecDepth 100000
theorem millwrightref02_Of.ok (O : Out) (hO : GOk O) (k : Nat) (a0 : List T_tree_File) (out : Bool × (List T_tree_File) × Int) (h : millwrightref02_Of.f k a0 = some out) : COk Un O Tryd.prog 27 { ar := [.p (.list (.named 3)) a0], r := .tup [.opt out.1 60500, .p I6 out.2.2], bs' := [(60500, .opt out.1 (.box [.p (.list (.named 3)) out.2.1]))], nn := [60500] } := by
  refine cok_of_wp Tryd.func27 rfl (k := 29) rfl (Nat.le_of_ble_eq_true rfl) (namesOk_of (by kernel_rfl)) ?_
  intro B hN
  refine WpC.conv (cvK (b := ⟨[(0, .p (.list (.named 3)) a0)], []⟩) [0] [] (by kernel_rfl)) ?_
  unfold millwrightref02_Of.f at h
  refine WpC.seq ?_
  refine rgU (st1 := ⟨[(0, .p (.list (.named 3)) a0)], []⟩) [0] [] hN (.cons (moU (rs := []) rfl (.inr rfl) (.lit _ _ rfl)) (.cons (moU (rs := []) rfl (.inr rfl) (.int _ _ _)) .nil)) (by kernel_rfl) (by kernel_rfl) (by kernel_rfl) (cvR _) ?_
  refine tnU ?_
  refine WpC.seq ?_
  refine rgU (st1 := ⟨[(0, .p (.list (.named 3)) a0), (4, .loc 9 0)], [(9, .box [.p (.list (.named 3)) ([] : List T_tree_File)])]⟩) [0, 4] [9] hN (.cons (sok_build (U := Un) (t := .named 5) (rs := []) (us0 := [.p (.list (.named 3)) ([] : List T_tree_File)]) (us := [.p (.list (.named 3)) ([] : List T_tree_File)]) (v := .p (.named 5) ((T_millwrightref02_Tree.mk []) : T_millwrightref02_Tree)) rfl rfl lays_47 (.data (fun _ _ _ => .lnil _) .nil) (.nil _) rfl (.data (.named (us := ([.p (.list (.named 3)) ([] : List T_tree_File)] : List (AVal Un))) (.pair (.one _ _) .unit)))) (.cons (sok_box (U := Un) (rs := [(8, .p (.named 5) ((T_millwrightref02_Tree.mk []) : T_millwrightref02_Tree))]) (d := 9) (us := [.p (.list (.named 3)) ([] : List T_tree_File)]) rfl rfl rfl o0 (.data (.named (us := ([.p (.list (.named 3)) ([] : List T_tree_File)] : List (AVal Un))) (.pair (.one _ _) .unit))) rfl (notin_of (by kernel_rfl))) (.cons (mvA (v := .loc 9 0) rfl rfl) .nil))) (by kernel_rfl) (by kernel_rfl) (by kernel_rfl) (cvR _) ?_
  refine tnU ?_
  refine sqJ (fun st' => ∃ v1 : List T_tree_File, millwrightref02_Of.j2 k v1 = some out ∧ st' = ⟨[(4, .loc 9 0)], [(9, .box [.p (.list (.named 3)) v1])]⟩) ?_ ?_
  · refine WpC.seq ?_
    refine rgU (st1 := ⟨[(4, .loc 9 0), (10, .p (.list (.named 3)) a0), (11, .p I6 ((a0.length : Int) : Int)), (12, .p I6 (0 : Int))], [(9, .box [.p (.list (.named 3)) ([] : List T_tree_File)])]⟩) [4, 10, 11, 12] [9] hN (.cons (mvU (v := .p (.list (.named 3)) a0) rfl rfl) (.cons (sok_lenL (U := Un) (rs := [(10, .p (.list (.named 3)) a0)]) rfl rfl Tryd.underlying45 o0) (.cons (moU (rs := []) rfl (.inl rfl) (.int _ _ _)) .nil))) (by kernel_rfl) (by kernel_rfl) (by kernel_rfl) (cvR _) ?_
    refine tnU ?_
    refine WpC.block ?_
    obtain ⟨o7, hlo7, h⟩ := bind_some h
    have hout8 := h
    clear h
    refine WpC.loop (U := Un) (fun n st' => ∃ v3 : List T_tree_File, ∃ v4 : Int, millwrightref02_Of.l5 k a0 n v3 v4 = some o7 ∧ st' = ⟨[(4, .loc 9 0), (10, .p (.list (.named 3)) a0), (11, .p I6 ((a0.length : Int) : Int)), (12, .p I6 v4)], [(9, .box [.p (.list (.named 3)) v3])]⟩) k ⟨[], 0, hlo7, rfl⟩ ?_
    clear hlo7
    rintro (_ | n) _ ⟨v3, v4, h, rfl⟩
    · cases h
    · rw [millwrightref02_Of.l5] at h
      refine WpC.seq ?_
      refine rgU (st1 := ⟨[(4, .loc 9 0), (10, .p (.list (.named 3)) a0), (11, .p I6 ((a0.length : Int) : Int)), (12, .p I6 v4), (13, .p .bool ((decide (v4 < (a0.length : Int))) : Bool))], [(9, .box [.p (.list (.named 3)) v3])]⟩) [4, 10, 11, 12, 13] [9] hN (.cons (cmU (rs := [(12, .p I6 v4), (11, .p I6 ((a0.length : Int) : Int))]) rfl rfl o0 o1 rfl) .nil) (by kernel_rfl) (by kernel_rfl) (by kernel_rfl) (cvR _) ?_
      refine tnU ?_
      refine WpC.seq ?_
      refine cdU (b := (decide (v4 < (a0.length : Int)))) (.tmp (.tail _ (.tail _ (.tail _ (.tail _ (.head _)))))) (fun hc9 => ?_) (fun hc9 => ?_)
      · replace h := ite_t hc9 h
        refine WpC.conv (cvK (b := ⟨[(4, .loc 9 0), (10, .p (.list (.named 3)) a0), (11, .p I6 ((a0.length : Int) : Int)), (12, .p I6 v4)], [(9, .box [.p (.list (.named 3)) v3])]⟩) [4, 10, 11, 12] [9] (by kernel_rfl)) (WpC.skip ?_)
        refine tnU ?_
        refine WpC.seq ?_
        refine WpC.block ?_
        refine WpC.seq ?_
        obtain ⟨v10, hv10, h⟩ := bind_some h
        refine rgU (st1 := ⟨[(4, .loc 9 0), (6, .loc 6 0), (10, .p (.list (.named 3)) a0), (11, .p I6 ((a0.length : Int) : Int)), (12, .p I6 v4)], [(6, .box [.p .str v10.f_Name, .p .str v10.f_Content, .p I6 v10.f_Time]), (9, .box [.p (.list (.named 3)) v3])]⟩) [4, 6, 10, 11, 12] [6, 9] hN (.cons (sok_indexL (U := Un) (rs := [(10, .p (.list (.named 3)) a0), (12, .p I6 v4)]) rfl rfl sl_45 o0 o1 hv10) (.cons (sok_loadP (U := Un) (rs := [(14, .pp (.named 3) v10)]) rfl rfl ty_50 o0) (.cons (sok_allocZ (U := Un) (rs := []) (d := 6) (us := [.p .str ([] : List UInt8), .p .str ([] : List UInt8), .p I6 (0 : Int)]) (v := (.agg #[.string ByteArray.empty, .string ByteArray.empty, .int .i64 0])) rfl rfl rfl (by kernel_rfl) rfl (.data (fun _ _ _ => rd_str0) (.data (fun _ _ _ => rd_str0) (.data (fun _ _ _ => .int _ _) .nil))) (by kernel_rfl)) (.cons (sok_storeB (U := Un) (rs := [(6, .loc 6 0), (15, .p (.named 3) v10)]) (v := .p (.named 3) v10) (mid' := [.p .str v10.f_Name, .p .str v10.f_Content, .p I6 v10.f_Time]) [] [.p .str ([] : List UInt8), .p .str ([] : List UInt8), .p I6 (0 : Int)] [] rfl rfl rfl ty_50 o0 o1 (.data (.named (us := ([.p .str v10.f_Name, .p .str v10.f_Content, .p I6 v10.f_Time] : List (AVal Un))) (.pair (.one _ _) (.pair (.one _ _) (.pair (.one _ _) .unit))))) rfl rfl rfl rfl rfl rfl) .nil)))) (by kernel_rfl) (by kernel_rfl) (by kernel_rfl) (cvR _) ?_
        refine tnU ?_
        refine WpC.seq ?_
        refine WpC.seq ?_
        obtain ⟨v11, hv11, h⟩ := bind_some h
        refine rgU (st1 := ⟨[(4, .loc 9 0), (6, .loc 6 0), (10, .p (.list (.named 3)) a0), (11, .p I6 ((a0.length : Int) : Int)), (12, .p I6 v4), (20, .p .bool ((decide (v11 ≥ 0)) : Bool))], [(6, .box [.p .str v10.f_Name, .p .str v10.f_Content, .p I6 v10.f_Time]), (9, .box [.p (.list (.named 3)) v3])]⟩) [4, 6, 10, 11, 12, 20] [6, 9] hN (.cons (mvU (v := .loc 9 0) rfl rfl) (.cons (fdB (rs := [(6, .loc 6 0)]) rfl rfl fd_50_0 (by decide) o0) (.cons (ldB (t := .str) (rs := [(17, .loc 6 0)]) [] [.p .str v10.f_Name] [.p .str v10.f_Content, .p I6 v10.f_Time] (v := .p .str v10.f_Name) rfl rfl ty_9 o0 rfl rfl rfl rfl (.data (.one _ _))) (.cons (caV (rs := [(16, .loc 9 0), (18, .p .str v10.f_Name)]) (vw := []) rfl rfl (.func _) hb_23 (COk.ren (millwrightref02_Tree_At_m0.ok O hO k v3 v10.f_Name v11 hv11) (fun n => if n = 100000 then 9 else n) (injOn_of (by kernel_rfl))) (.cons o0 (.cons o1 .nil)) (.cons (.same _) (.cons (.same _) .nil)) (by simp) (.inl rfl)) (.cons (cmU (rs := [(19, .p I6 v11)]) rfl rfl o0 (.int _ _ _) rfl) .nil))))) (by kernel_rfl) (by kernel_rfl) (by kernel_rfl) (cvR _) ?_
        refine tnU ?_
        refine cdU (b := (decide (v11 ≥ 0))) (.tmp (.tail _ (.tail _ (.tail _ (.tail _ (.tail _ (.head _))))))) (fun hc12 => ?_) (fun hc12 => ?_)
        · replace h := ite_t hc12 h
          refine WpC.seq ?_
          refine rgU (st1 := ⟨[(2, .lit (.pointer none)), (3, .p I6 (9 : Int))], []⟩) [2, 3] [] hN (.cons (moU (rs := []) rfl (.inr rfl) (.lit _ _ rfl)) (.cons (moU (rs := []) rfl (.inr rfl) (.int _ _ _)) .nil)) (by kernel_rfl) (by kernel_rfl) (by kernel_rfl) (cvR _) ?_
          refine tnU ?_
          refine WpC.conv (cvT (Conv.optNew (U := Un) 60500 (.box [.p (.list (.named 3)) ([] : List T_tree_File)]) (by kernel_rfl) (by unfold K0; omega)) (cvT (cvK (b := ⟨[(2, .lit (.pointer none)), (3, .p I6 (9 : Int))], [(60500, .opt false (.box [.p (.list (.named 3)) ([] : List T_tree_File)]))]⟩) [2, 3] [60500] (by kernel_rfl)) (cvT (Conv.optNil (U := Un) 2 60500 (.head _)) (cvK (b := ⟨[(2, .opt false 60500), (3, .p I6 (9 : Int))], [(60500, .opt false (.box [.p (.list (.named 3)) ([] : List T_tree_File)]))]⟩) [2, 3] [60500] (by kernel_rfl))))) (WpC.ret ?_)
          refine thenQ_ret ?_
          refine blockQ_ret ?_
          refine thenQ_ret ?_
          have hq := Option.some.inj h
          subst hq
          refine thenQ_ret ?_
          have h := hout8
          refine blockQ_ret ?_
          refine thenQ_ret ?_
          have hq := Option.some.inj h
          subst hq
          exact ends_ret (retV_2 rfl (.head _) (.tail _ (.head _))) (ain_cons (.head _) ain_nil)
        · replace h := ite_f hc12 h
          refine WpC.conv (cvK (b := ⟨[(4, .loc 9 0), (6, .loc 6 0), (10, .p (.list (.named 3)) a0), (11, .p I6 ((a0.length : Int) : Int)), (12, .p I6 v4)], [(6, .box [.p .str v10.f_Name, .p .str v10.f_Content, .p I6 v10.f_Time]), (9, .box [.p (.list (.named 3)) v3])]⟩) [4, 6, 10, 11, 12] [6, 9] (by kernel_rfl)) (WpC.skip ?_)
          refine tnU ?_
          refine WpC.seq ?_
          obtain ⟨v13, hv13, h⟩ := bind_some h
          refine rgU (st1 := ⟨[(4, .loc 9 0), (7, .p I6 v13.1), (10, .p (.list (.named 3)) a0), (11, .p I6 ((a0.length : Int) : Int)), (12, .p I6 v4)], [(9, .box [.p (.list (.named 3)) v13.2])]⟩) [4, 7, 10, 11, 12] [9] hN (.cons (mvU (v := .loc 9 0) rfl rfl) (.cons (ldB (t := .named 3) (rs := [(6, .loc 6 0)]) [] [.p .str v10.f_Name, .p .str v10.f_Content, .p I6 v10.f_Time] [] (v := .p (.named 3) ((T_tree_File.mk v10.f_Name v10.f_Content v10.f_Time) : T_tree_File)) rfl rfl ty_50 o0 rfl rfl rfl rfl (.data (.named (us := ([.p .str v10.f_Name, .p .str v10.f_Content, .p I6 v10.f_Time] : List (AVal Un))) (.pair (.one _ _) (.pair (.one _ _) (.pair (.one _ _) .unit)))))) (.cons (caV (rs := [(21, .loc 9 0), (22, .p (.named 3) ((T_tree_File.mk v10.f_Name v10.f_Content v10.f_Time) : T_tree_File))]) (vw := []) rfl rfl (.func _) hb_20 (COk.ren (millwrightref02_Tree_Put_m0.ok O hO k v3 (T_tree_File.mk v10.f_Name v10.f_Content v10.f_Time) v13 hv13) (fun n => if n = 100000 then 9 else n) (injOn_of (by kernel_rfl))) (.cons o0 (.cons o1 .nil)) (.cons (.same _) (.cons (.same _) .nil)) (by simp) (.inl rfl)) (.cons (mvA (v := .p I6 v13.1) rfl rfl) .nil)))) (by kernel_rfl) (by kernel_rfl) (by kernel_rfl) (cvR _) ?_
          refine tnU ?_
          refine WpC.seq ?_
          refine rgU (st1 := ⟨[(4, .loc 9 0), (7, .p I6 v13.1), (10, .p (.list (.named 3)) a0), (11, .p I6 ((a0.length : Int) : Int)), (12, .p I6 v4), (25, .p .bool ((v13.1 != 0) : Bool))], [(9, .box [.p (.list (.named 3)) v13.2])]⟩) [4, 7, 10, 11, 12, 25] [9] hN (.cons (mvU (v := .p I6 v13.1) rfl rfl) (.cons (cmU (rs := [(24, .p I6 v13.1)]) rfl rfl o0 (.int _ _ _) rfl) .nil)) (by kernel_rfl) (by kernel_rfl) (by kernel_rfl) (cvR _) ?_
          refine tnU ?_
          refine cdU (b := (v13.1 != 0)) (.tmp (.tail _ (.tail _ (.tail _ (.tail _ (.tail _ (.head _))))))) (fun hc14 => ?_) (fun hc14 => ?_)
          · replace h := ite_t hc14 h
            refine WpC.seq ?_
            refine rgU (st1 := ⟨[(2, .lit (.pointer none)), (3, .p I6 v13.1)], []⟩) [2, 3] [] hN (.cons (mvU (v := .p I6 v13.1) rfl rfl) (.cons (moU (rs := []) rfl (.inr rfl) (.lit _ _ rfl)) (.cons (mvA (v := .p I6 v13.1) rfl rfl) .nil))) (by kernel_rfl) (by kernel_rfl) (by kernel_rfl) (cvR _) ?_
            refine tnU ?_
            refine WpC.conv (cvT (Conv.optNew (U := Un) 60500 (.box [.p (.list (.named 3)) ([] : List T_tree_File)]) (by kernel_rfl) (by unfold K0; omega)) (cvT (cvK (b := ⟨[(2, .lit (.pointer none)), (3, .p I6 v13.1)], [(60500, .opt false (.box [.p (.list (.named 3)) ([] : List T_tree_File)]))]⟩) [2, 3] [60500] (by kernel_rfl)) (cvT (Conv.optNil (U := Un) 2 60500 (.head _)) (cvK (b := ⟨[(2, .opt false 60500), (3, .p I6 v13.1)], [(60500, .opt false (.box [.p (.list (.named 3)) ([] : List T_tree_File)]))]⟩) [2, 3] [60500] (by kernel_rfl))))) (WpC.ret ?_)
            refine blockQ_ret ?_
            refine thenQ_ret ?_
            have hq := Option.some.inj h
            subst hq
            refine thenQ_ret ?_
            have h := hout8
            refine blockQ_ret ?_
            refine thenQ_ret ?_
            have hq := Option.some.inj h
            subst hq
            exact ends_ret (retV_2 rfl (.head _) (.tail _ (.head _))) (ain_cons (.head _) ain_nil)
          · replace h := ite_f hc14 h
            refine WpC.conv (cvK (b := ⟨[(4, .loc 9 0), (10, .p (.list (.named 3)) a0), (11, .p I6 ((a0.length : Int) : Int)), (12, .p I6 v4)], [(9, .box [.p (.list (.named 3)) v13.2])]⟩) [4, 10, 11, 12] [9] (by kernel_rfl)) (WpC.skip ?_)
            refine blockQ_normal ?_
            refine tnU ?_
            refine rgU (st1 := ⟨[(4, .loc 9 0), (10, .p (.list (.named 3)) a0), (11, .p I6 ((a0.length : Int) : Int)), (12, .p I6 ((IntKind.i64.wrap (v4 + 1)) : Int))], [(9, .box [.p (.list (.named 3)) v13.2])]⟩) [4, 10, 11, 12] [9] hN (.cons (sok_arith (U := Un) (rs := [(12, .p I6 v4)]) rfl rfl o0 (.int _ _ _) rfl) (.cons (mvU (v := .p I6 ((IntKind.i64.wrap (v4 + 1)) : Int)) rfl rfl) .nil)) (by kernel_rfl) (by kernel_rfl) (by kernel_rfl) (cvR _) ?_
            refine tnU ?_
            exact ⟨n, Nat.lt_succ_self n, v13.2, (IntKind.i64.wrap (v4 + 1)), h, rfl⟩
      · replace h := ite_f hc9 h
        refine WpC.conv (cvK (b := ⟨[(4, .loc 9 0)], [(9, .box [.p (.list (.named 3)) v3])]⟩) [4] [9] (by kernel_rfl)) (WpC.exit ?_)
        refine thenQ_exit ?_
        have hq := Option.some.inj h
        subst hq
        refine thenQ_exit ?_
        have h := hout8
        refine blockQ_hit ?_
        refine tnU ?_
        exact ⟨v3, h, rfl⟩
  · rintro _ ⟨v1, h, rfl⟩
    unfold millwrightref02_Of.j2 at h
    refine WpC.seq ?_
    refine rgU (st1 := ⟨[(2, .loc 9 0), (3, .p I6 (0 : Int))], [(9, .box [.p (.list (.named 3)) v1])]⟩) [2, 3] [9] hN (.cons (mvU (v := .loc 9 0) rfl rfl) (.cons (mvA (v := .loc 9 0) rfl rfl) (.cons (moU (rs := []) rfl (.inr rfl) (.int _ _ _)) .nil))) (by kernel_rfl) (by kernel_rfl) (by kernel_rfl) (cvR _) ?_
    refine tnU ?_
    refine WpC.conv (cvT (Conv.ren (U := Un) (st' := ⟨[(2, .loc 60500 0), (3, .p I6 (0 : Int))], [(60500, .box [.p (.list (.named 3)) v1])]⟩) 9 60500 (by unfold K0; omega) (by kernel_rfl) (by kernel_rfl) (by kernel_rfl)) (cvT (cvK (b := ⟨[(2, .loc 60500 0), (3, .p I6 (0 : Int))], [(60500, .box [.p (.list (.named 3)) v1])]⟩) [2, 3] [60500] (by kernel_rfl)) (cvT (Conv.optBlk (U := Un) 60500 (.box [.p (.list (.named 3)) v1]) (.head _)) (cvT (cvK (b := ⟨[(2, .loc 60500 0), (3, .p I6 (0 : Int))], [(60500, .opt true (.box [.p (.list (.named 3)) v1]))]⟩) [2, 3] [60500] (by kernel_rfl)) (cvT (Conv.optLoc (U := Un) 2 60500 (.head _)) (cvK (b := ⟨[(2, .opt true 60500), (3, .p I6 (0 : Int))], [(60500, .opt true (.box [.p (.list (.named 3)) v1]))]⟩) [2, 3] [60500] (by kernel_rfl))))))) (WpC.ret ?_)
    have hq := Option.some.inj h
    subst hq
    exact ends_ret (retV_2 rfl (.head _) (.tail _ (.head _))) (ain_cons (.head _) ain_nil)

theorem millwrightnum_all.ok (O : Out) (hO : GOk O) (k : Nat) (out : List Nat) (h : millwrightnum_all.f k = some out) : COk Un O Tryd.prog 54 { ar := [], r := .p (.list .err) out } := by
  refine cok_of_wp Tryd.func54 rfl (k := 20) rfl (Nat.le_of_ble_eq_true rfl) (namesOk_pure rfl rfl rfl rfl) ?_
  intro B hN
  refine WpC.conv (cvK (b := ⟨[], []⟩) [] [] (by kernel_rfl)) ?_
  unfold millwrightnum_all.f at h
  refine WpC.seq ?_
  refine rgU (st1 := ⟨[], []⟩) [] [] hN (.cons (moU (rs := []) rfl (.inr rfl) (.lit _ _ rfl)) .nil) (by kernel_rfl) (by kernel_rfl) (by kernel_rfl) (cvR _) ?_
  refine tnU ?_
  refine WpC.seq ?_
  refine rgU (st1 := ⟨[(0, .vec 19 1 0 ([(1 : Nat), (2 : Nat), (3 : Nat), (4 : Nat), (5 : Nat), (6 : Nat), (7 : Nat), (8 : Nat), (9 : Nat), (10 : Nat), (11 : Nat), (12 : Nat), (13 : Nat), (14 : Nat), (15 : Nat), (16 : Nat), (17 : Nat), (18 : Nat)].length))], [(19, .row 31 .err [(1 : Nat), (2 : Nat), (3 : Nat), (4 : Nat), (5 : Nat), (6 : Nat), (7 : Nat), (8 : Nat), (9 : Nat), (10 : Nat), (11 : Nat), (12 : Nat), (13 : Nat), (14 : Nat), (15 : Nat), (16 : Nat), (17 : Nat), (18 : Nat)] true)]⟩) [0] [19] hN (.cons (sok_loadG (U := Un) (t := .err) (rs := []) rfl rfl ty_31 rfl rfl (hO.var 0 5 rfl) (fun S w => .err 0)) (.cons (sok_loadG (U := Un) (t := .err) (rs := []) rfl rfl ty_31 rfl rfl (hO.var 1 4 rfl) (fun S w => .err 1)) (.cons (sok_loadG (U := Un) (t := .err) (rs := []) rfl rfl ty_31 rfl rfl (hO.var 2 7 rfl) (fun S w => .err 2)) (.cons (sok_loadG (U := Un) (t := .err) (rs := []) rfl rfl ty_31 rfl rfl (hO.var 3 3 rfl) (fun S w => .err 3)) (.cons (sok_loadG (U := Un) (t := .err) (rs := []) rfl rfl ty_31 rfl rfl (hO.var 4 8 rfl) (fun S w => .err 4)) (.cons (sok_loadG (U := Un) (t := .err) (rs := []) rfl rfl ty_31 rfl rfl (hO.var 5 9 rfl) (fun S w => .err 5)) (.cons (sok_loadG (U := Un) (t := .err) (rs := []) rfl rfl ty_31 rfl rfl (hO.var 6 10 rfl) (fun S w => .err 6)) (.cons (sok_loadG (U := Un) (t := .err) (rs := []) rfl rfl ty_31 rfl rfl (hO.var 7 1 rfl) (fun S w => .err 7)) (.cons (sok_loadG (U := Un) (t := .err) (rs := []) rfl rfl ty_31 rfl rfl (hO.var 8 0 rfl) (fun S w => .err 8)) (.cons (sok_loadG (U := Un) (t := .err) (rs := []) rfl rfl ty_31 rfl rfl (hO.var 9 6 rfl) (fun S w => .err 9)) (.cons (sok_loadG (U := Un) (t := .err) (rs := []) rfl rfl ty_31 rfl rfl (hO.var 10 11 rfl) (fun S w => .err 10)) (.cons (sok_loadG (U := Un) (t := .err) (rs := []) rfl rfl ty_31 rfl rfl (hO.var 11 12 rfl) (fun S w => .err 11)) (.cons (sok_loadG (U := Un) (t := .err) (rs := []) rfl rfl ty_31 rfl rfl (hO.var 12 13 rfl) (fun S w => .err 12)) (.cons (sok_loadG (U := Un) (t := .err) (rs := []) rfl rfl ty_31 rfl rfl (hO.var 13 2 rfl) (fun S w => .err 13)) (.cons (sok_loadG (U := Un) (t := .err) (rs := []) rfl rfl ty_31 rfl rfl (hO.var 14 14 rfl) (fun S w => .err 14)) (.cons (sok_loadG (U := Un) (t := .err) (rs := []) rfl rfl ty_31 rfl rfl (hO.var 15 15 rfl) (fun S w => .err 15)) (.cons (sok_loadG (U := Un) (t := .err) (rs := []) rfl rfl ty_31 rfl rfl (hO.var 16 16 rfl) (fun S w => .err 16)) (.cons (sok_loadG (U := Un) (t := .err) (rs := []) rfl rfl ty_31 rfl rfl (hO.var 17 17 rfl) (fun S w => .err 17)) (.cons (sok_buildSlice (U := Un) (t := .err) (rs := [(1, .p .err (1 : Nat)), (2, .p .err (2 : Nat)), (3, .p .err (3 : Nat)), (4, .p .err (4 : Nat)), (5, .p .err (5 : Nat)), (6, .p .err (6 : Nat)), (7, .p .err (7 : Nat)), (8, .p .err (8 : Nat)), (9, .p .err (9 : Nat)), (10, .p .err (10 : Nat)), (11, .p .err (11 : Nat)), (12, .p .err (12 : Nat)), (13, .p .err (13 : Nat)), (14, .p .err (14 : Nat)), (15, .p .err (15 : Nat)), (16, .p .err (16 : Nat)), (17, .p .err (17 : Nat)), (18, .p .err (18 : Nat))]) (ys := [.tmp 1, .tmp 2, .tmp 3, .tmp 4, .tmp 5, .tmp 6, .tmp 7, .tmp 8, .tmp 9, .tmp 10, .tmp 11, .tmp 12, .tmp 13, .tmp 14, .tmp 15, .tmp 16, .tmp 17, .tmp 18]) (xs := [(1 : Nat), (2 : Nat), (3 : Nat), (4 : Nat), (5 : Nat), (6 : Nat), (7 : Nat), (8 : Nat), (9 : Nat), (10 : Nat), (11 : Nat), (12 : Nat), (13 : Nat), (14 : Nat), (15 : Nat), (16 : Nat), (17 : Nat), (18 : Nat)]) rfl rfl rfl rfl row_95 (.cons o0 (.cons o1 (.cons (.tmp (.tail _ (.tail _ (.head _)))) (.cons (.tmp (.tail _ (.tail _ (.tail _ (.head _))))) (.cons (.tmp (.tail _ (.tail _ (.tail _ (.tail _ (.head _)))))) (.cons (.tmp (.tail _ (.tail _ (.tail _ (.tail _ (.tail _ (.head _))))))) (.cons (.tmp (.tail _ (.tail _ (.tail _ (.tail _ (.tail _ (.tail _ (.head _)))))))) (.cons (.tmp (.tail _ (.tail _ (.tail _ (.tail _ (.tail _ (.tail _ (.tail _ (.head _))))))))) (.cons (.tmp (.tail _ (.tail _ (.tail _ (.tail _ (.tail _ (.tail _ (.tail _ (.tail _ (.head _)))))))))) (.cons (.tmp (.tail _ (.tail _ (.tail _ (.tail _ (.tail _ (.tail _ (.tail _ (.tail _ (.tail _ (.head _))))))))))) (.cons (.tmp (.tail _ (.tail _ (.tail _ (.tail _ (.tail _ (.tail _ (.tail _ (.tail _ (.tail _ (.tail _ (.head _)))))))))))) (.cons (.tmp (.tail _ (.tail _ (.tail _ (.tail _ (.tail _ (.tail _ (.tail _ (.tail _ (.tail _ (.tail _ (.tail _ (.head _))))))))))))) (.cons (.tmp (.tail _ (.tail _ (.tail _ (.tail _ (.tail _ (.tail _ (.tail _ (.tail _ (.tail _ (.tail _ (.tail _ (.tail _ (.head _)))))))))))))) (.cons (.tmp (.tail _ (.tail _ (.tail _ (.tail _ (.tail _ (.tail _ (.tail _ (.tail _ (.tail _ (.tail _ (.tail _ (.tail _ (.tail _ (.head _))))))))))))))) (.cons (.tmp (.tail _ (.tail _ (.tail _ (.tail _ (.tail _ (.tail _ (.tail _ (.tail _ (.tail _ (.tail _ (.tail _ (.tail _ (.tail _ (.tail _ (.head _)))))))))))))))) (.cons (.tmp (.tail _ (.tail _ (.tail _ (.tail _ (.tail _ (.tail _ (.tail _ (.tail _ (.tail _ (.tail _ (.tail _ (.tail _ (.tail _ (.tail _ (.tail _ (.head _))))))))))))))))) (.cons (.tmp (.tail _ (.tail _ (.tail _ (.tail _ (.tail _ (.tail _ (.tail _ (.tail _ (.tail _ (.tail _ (.tail _ (.tail _ (.tail _ (.tail _ (.tail _ (.tail _ (.head _)))))))))))))))))) (.cons (.tmp (.tail _ (.tail _ (.tail _ (.tail _ (.tail _ (.tail _ (.tail _ (.tail _ (.tail _ (.tail _ (.tail _ (.tail _ (.tail _ (.tail _ (.tail _ (.tail _ (.tail _ (.head _))))))))))))))))))) .nil)))))))))))))))))) (by decide)) (.cons (mvA (v := .vec 19 1 0 ([(1 : Nat), (2 : Nat), (3 : Nat), (4 : Nat), (5 : Nat), (6 : Nat), (7 : Nat), (8 : Nat), (9 : Nat), (10 : Nat), (11 : Nat), (12 : Nat), (13 : Nat), (14 : Nat), (15 : Nat), (16 : Nat), (17 : Nat), (18 : Nat)].length)) rfl rfl) .nil)))))))))))))))))))) (by kernel_rfl) (by kernel_rfl) (by kernel_rfl) (cvR _) ?_
  refine tnU ?_
  refine WpC.conv (cvT (Conv.freeze (U := Un) 0 19 31 _ .err [(1 : Nat), (2 : Nat), (3 : Nat), (4 : Nat), (5 : Nat), (6 : Nat), (7 : Nat), (8 : Nat), (9 : Nat), (10 : Nat), (11 : Nat), (12 : Nat), (13 : Nat), (14 : Nat), (15 : Nat), (16 : Nat), (17 : Nat), (18 : Nat)] true (.head _) (by first | rfl | (simp only [upd_length, List.length_replicate, List.length_append]; done) | (simp only [upd_length, List.length_replicate, List.length_append] at *; omega) | omega) (.head _) (by first | (simp [Blk.names]; done) | (simp [Blk.names]; decide))) (cvK (b := ⟨[(0, .p (.list .err) ([(1 : Nat), (2 : Nat), (3 : Nat), (4 : Nat), (5 : Nat), (6 : Nat), (7 : Nat), (8 : Nat), (9 : Nat), (10 : Nat), (11 : Nat), (12 : Nat), (13 : Nat), (14 : Nat), (15 : Nat), (16 : Nat), (17 : Nat), (18 : Nat)] : List Nat))], []⟩) [0] [] (by kernel_rfl))) (WpC.ret ?_)
  have hq := Option.some.inj h
  subst hq
  exact ends_ret (retV_1 rfl (.head _)) ain_nil

theorem millwrightnum_Num.ok (O : Out) (hO : GOk O) (k : Nat) (a0 : Nat) (out : Int) (h : millwrightnum_Num.f k a0 = some out) : COk Un O Tryd.prog 19 { ar := [.p .err a0], r := .p I6 out } := by
  refine cok_of_wp Tryd.func19 rfl (k := 20) rfl (Nat.le_of_ble_eq_true rfl) (namesOk_pure rfl rfl rfl rfl) ?_
  intro B hN
  refine WpC.conv (cvK (b := ⟨[(0, .p .err a0)], []⟩) [0] [] (by kernel_rfl)) ?_
  unfold millwrightnum_Num.f at h
  refine WpC.seq ?_
  refine rgU (st1 := ⟨[(0, .p .err a0)], []⟩) [0] [] hN (.cons (moU (rs := []) rfl (.inr rfl) (.int _ _ _)) .nil) (by kernel_rfl) (by kernel_rfl) (by kernel_rfl) (cvR _) ?_
  refine tnU ?_
  refine WpC.seq ?_
  refine WpC.seq ?_
  refine rgU (st1 := ⟨[(0, .p .err a0), (6, .p .bool ((a0 == 0) : Bool))], []⟩) [0, 6] [] hN (.cons (mvU (v := .p .err a0) rfl rfl) (.cons (sok_errNil (U := Un) (rs := [(5, .p .err a0)]) rfl rfl Tryd.underlying31 o0 rfl) .nil)) (by kernel_rfl) (by kernel_rfl) (by kernel_rfl) (cvR _) ?_
  refine tnU ?_
  refine cdU (b := (a0 == 0)) o1 (fun hc1 => ?_) (fun hc1 => ?_)
  · replace h := ite_t hc1 h
    refine WpC.seq ?_
    refine rgU (st1 := ⟨[(2, .p I6 (0 : Int))], []⟩) [2] [] hN (.cons (moU (rs := []) rfl (.inr rfl) (.int _ _ _)) .nil) (by kernel_rfl) (by kernel_rfl) (by kernel_rfl) (cvR _) ?_
    refine tnU ?_
    refine WpC.ret ?_
    refine thenQ_ret ?_
    have hq := Option.some.inj h
    subst hq
    exact ends_ret (retV_1 rfl (.head _)) ain_nil
  · replace h := ite_f hc1 h
    refine WpC.conv (cvK (b := ⟨[(0, .p .err a0)], []⟩) [0] [] (by kernel_rfl)) (WpC.skip ?_)
    refine tnU ?_
    refine sqJ (fun st' => millwrightnum_Num.j2 k = some out ∧ st' = ⟨[], []⟩) ?_ ?_
    · refine WpC.seq ?_
      obtain ⟨v3, hv3, h⟩ := bind_some h
      refine rgU (st1 := ⟨[(0, .p .err a0), (7, .p (.list .err) v3), (8, .p I6 ((v3.length : Int) : Int)), (9, .p I6 (0 : Int))], []⟩) [0, 7, 8, 9] [] hN (.cons (caV (rs := []) (vw := []) rfl rfl (.func _) hb_54 (millwrightnum_all.ok O hO k v3 hv3) .nil .nil (by simp) (.inl rfl)) (.cons (sok_lenL (U := Un) (rs := [(7, .p (.list .err) v3)]) rfl rfl Tryd.underlying95 o0) (.cons (moU (rs := []) rfl (.inl rfl) (.int _ _ _)) .nil))) (by kernel_rfl) (by kernel_rfl) (by kernel_rfl) (cvR _) ?_
      refine tnU ?_
      refine WpC.block ?_
      obtain ⟨o6, hlo6, h⟩ := bind_some h
      have hout7 := h
      clear h
      refine WpC.loop (U := Un) (fun n st' => ∃ v4 : Int, millwrightnum_Num.l5 k a0 v3 n v4 = some o6 ∧ st' = ⟨[(0, .p .err a0), (7, .p (.list .err) v3), (8, .p I6 ((v3.length : Int) : Int)), (9, .p I6 v4)], []⟩) k ⟨0, hlo6, rfl⟩ ?_
      clear hlo6
      rintro (_ | n) _ ⟨v4, h, rfl⟩
      · cases h
      · rw [millwrightnum_Num.l5] at h
        refine WpC.seq ?_
        refine rgU (st1 := ⟨[(0, .p .err a0), (7, .p (.list .err) v3), (8, .p I6 ((v3.length : Int) : Int)), (9, .p I6 v4), (10, .p .bool ((decide (v4 < (v3.length : Int))) : Bool))], []⟩) [0, 7, 8, 9, 10] [] hN (.cons (cmU (rs := [(9, .p I6 v4), (8, .p I6 ((v3.length : Int) : Int))]) rfl rfl o0 o1 rfl) .nil) (by kernel_rfl) (by kernel_rfl) (by kernel_rfl) (cvR _) ?_
        refine tnU ?_
        refine WpC.seq ?_
        refine cdU (b := (decide (v4 < (v3.length : Int)))) (.tmp (.tail _ (.tail _ (.tail _ (.tail _ (.head _)))))) (fun hc8 => ?_) (fun hc8 => ?_)
        · replace h := ite_t hc8 h
          refine WpC.conv (cvK (b := ⟨[(0, .p .err a0), (7, .p (.list .err) v3), (8, .p I6 ((v3.length : Int) : Int)), (9, .p I6 v4)], []⟩) [0, 7, 8, 9] [] (by kernel_rfl)) (WpC.skip ?_)
          refine tnU ?_
          refine WpC.seq ?_
          refine WpC.block ?_
          refine WpC.seq ?_
          obtain ⟨v9, hv9, h⟩ := bind_some h
          refine rgU (st1 := ⟨[(0, .p .err a0), (3, .p I6 v4), (4, .p .err v9), (7, .p (.list .err) v3), (8, .p I6 ((v3.length : Int) : Int)), (9, .p I6 v4)], []⟩) [0, 3, 4, 7, 8, 9] [] hN (.cons (mvU (v := .p I6 v4) rfl rfl) (.cons (sok_indexL (U := Un) (rs := [(7, .p (.list .err) v3), (9, .p I6 v4)]) rfl rfl sl_95 o0 o1 hv9) (.cons (sok_loadP (U := Un) (rs := [(12, .pp .err v9)]) rfl rfl ty_31 o0) (.cons (mvA (v := .p I6 v4) rfl rfl) (.cons (mvA (v := .p .err v9) rfl rfl) .nil))))) (by kernel_rfl) (by kernel_rfl) (by kernel_rfl) (cvR _) ?_
          refine tnU ?_
          refine WpC.seq ?_
          obtain ⟨v10, hv10, h⟩ := bind_some h
          refine rgU (st1 := ⟨[(0, .p .err a0), (3, .p I6 v4), (7, .p (.list .err) v3), (8, .p I6 ((v3.length : Int) : Int)), (9, .p I6 v4), (16, .p .bool v10)], []⟩) [0, 3, 7, 8, 9, 16] [] hN (.cons (mvU (v := .p .err a0) rfl rfl) (.cons (mvU (v := .p .err v9) rfl rfl) (.cons (sok_call (U := Un) (rs := [(14, .p .err a0), (15, .p .err v9)]) (vw := []) rfl rfl hb_55 (pIs.ok O hO k a0 v9 v10 hv10) (.cons o0 (.cons o1 .nil)) (.cons (.same _) (.cons (.same _) .nil)) (by simp) (.inl rfl)) .nil))) (by kernel_rfl) (by kernel_rfl) (by kernel_rfl) (cvR _) ?_
          refine tnU ?_
          refine cdU (b := v10) (.tmp (.tail _ (.tail _ (.tail _ (.tail _ (.tail _ (.head _))))))) (fun hc11 => ?_) (fun hc11 => ?_)
          · replace h := ite_t hc11 h
            refine WpC.seq ?_
            refine rgU (st1 := ⟨[(2, .p I6 ((IntKind.i64.wrap (v4 + 1)) : Int))], []⟩) [2] [] hN (.cons (mvU (v := .p I6 v4) rfl rfl) (.cons (sok_arith (U := Un) (rs := [(17, .p I6 v4)]) rfl rfl o0 (.int _ _ _) rfl) (.cons (mvA (v := .p I6 ((IntKind.i64.wrap (v4 + 1)) : Int)) rfl rfl) .nil))) (by kernel_rfl) (by kernel_rfl) (by kernel_rfl) (cvR _) ?_
            refine tnU ?_
            refine WpC.ret ?_
            refine blockQ_ret ?_
            refine thenQ_ret ?_
            have hq := Option.some.inj h
            subst hq
            refine thenQ_ret ?_
            have h := hout7
            refine blockQ_ret ?_
            refine thenQ_ret ?_
            have hq := Option.some.inj h
            subst hq
            exact ends_ret (retV_1 rfl (.head _)) ain_nil
          · replace h := ite_f hc11 h
            refine WpC.conv (cvK (b := ⟨[(0, .p .err a0), (7, .p (.list .err) v3), (8, .p I6 ((v3.length : Int) : Int)), (9, .p I6 v4)], []⟩) [0, 7, 8, 9] [] (by kernel_rfl)) (WpC.skip ?_)
            refine blockQ_normal ?_
            refine tnU ?_
            refine rgU (st1 := ⟨[(0, .p .err a0), (7, .p (.list .err) v3), (8, .p I6 ((v3.length : Int) : Int)), (9, .p I6 ((IntKind.i64.wrap (v4 + 1)) : Int))], []⟩) [0, 7, 8, 9] [] hN (.cons (sok_arith (U := Un) (rs := [(9, .p I6 v4)]) rfl rfl o0 (.int _ _ _) rfl) (.cons (mvU (v := .p I6 ((IntKind.i64.wrap (v4 + 1)) : Int)) rfl rfl) .nil)) (by kernel_rfl) (by kernel_rfl) (by kernel_rfl) (cvR _) ?_
            refine tnU ?_
            exact ⟨n, Nat.lt_succ_self n, (IntKind.i64.wrap (v4 + 1)), h, rfl⟩
        · replace h := ite_f hc8 h
          refine WpC.conv (cvK (b := ⟨[], []⟩) [] [] (by kernel_rfl)) (WpC.exit ?_)
          refine thenQ_exit ?_
          have hq := Option.some.inj h
          subst hq
          refine thenQ_exit ?_
          have h := hout7
          refine blockQ_hit ?_
          refine tnU ?_
          exact ⟨h, rfl⟩
    · rintro _ ⟨h, rfl⟩
      unfold millwrightnum_Num.j2 at h
      refine WpC.seq ?_
      refine rgU (st1 := ⟨[(2, .p I6 ((-1) : Int))], []⟩) [2] [] hN (.cons (moU (rs := []) rfl (.inr rfl) (.int _ _ _)) .nil) (by kernel_rfl) (by kernel_rfl) (by kernel_rfl) (cvR _) ?_
      refine tnU ?_
      refine WpC.ret ?_
      have hq := Option.some.inj h
      subst hq
      exact ends_ret (retV_1 rfl (.head _)) ain_nil

theorem tree_Tree_Files_m0.ok (O : Out) (hO : GOk O) (k : Nat) (a0 : List ((List UInt8) × T_tree_File)) (out : List T_tree_File) (h : tree_Tree_Files_m0.f k a0 = some out) : COk Un O Tryd.prog 57 { ar := [.loc 100000 0], r := .p (.list (.named 3)) out, bs := [(100000, .box [.mp 100001]), (100001, .map (.named 3) a0)], bs' := [(100000, .box [.mp 100001]), (100001, .map (.named 3) a0)] } := by
  refine cok_of_wp Tryd.func57 rfl (k := 24) rfl (Nat.le_of_ble_eq_true rfl) (namesOk_of (by kernel_rfl)) ?_
  intro B hN
  refine WpC.conv (cvK (b := ⟨[(0, .loc 100000 0)], [(100000, .box [.mp 100001]), (100001, .map (.named 3) a0)]⟩) [0] [100000, 100001] (by kernel_rfl)) ?_
  unfold tree_Tree_Files_m0.f at h
  refine WpC.seq ?_
  refine rgU (st1 := ⟨[(0, .loc 100000 0)], [(100000, .box [.mp 100001]), (100001, .map (.named 3) a0)]⟩) [0] [100000, 100001] hN (.cons (moU (rs := []) rfl (.inr rfl) (.lit _ _ rfl)) .nil) (by kernel_rfl) (by kernel_rfl) (by kernel_rfl) (cvR _) ?_
  refine tnU ?_
  refine WpC.seq ?_
  refine rgU (st1 := ⟨[(0, .loc 100000 0), (3, .lit (.slice none 0 0))], [(100000, .box [.mp 100001]), (100001, .map (.named 3) a0)]⟩) [0, 3] [100000, 100001] hN (.cons (moU (rs := []) rfl (.inr rfl) (.lit _ _ rfl)) .nil) (by kernel_rfl) (by kernel_rfl) (by kernel_rfl) (cvR _) ?_
  refine tnU ?_
  refine sqJ (fun st' => ∃ v1 : List T_tree_File, tree_Tree_Files_m0.j2 k a0 v1 = some out ∧ st' = ⟨[(3, .vec 1003 3 0 v1.length)], [(1003, .row 24 (.named 3) v1 false), (100000, .box [.mp 100001]), (100001, .map (.named 3) a0)]⟩) ?_ ?_
  · refine WpC.seq ?_
    obtain ⟨v3, hv3, h⟩ := bind_some h
    refine rgU (st1 := ⟨[(0, .loc 100000 0), (3, .lit (.slice none 0 0)), (7, .p (.list .str) v3), (8, .p I6 ((v3.length : Int) : Int)), (9, .p I6 (0 : Int))], [(100000, .box [.mp 100001]), (100001, .map (.named 3) a0)]⟩) [0, 3, 7, 8, 9] [100000, 100001] hN (.cons (mvU (v := .loc 100000 0) rfl rfl) (.cons (caV (rs := [(6, .loc 100000 0)]) (vw := []) rfl rfl (.func _) hb_17 (COk.ren (tree_Tree_Names_m0.ok O hO k a0 v3 hv3) (fun n => if n = 100000 then 100000 else if n = 100001 then 100001 else n) (injOn_of (by kernel_rfl))) (.cons o0 .nil) (.cons (.same _) .nil) (by simp) (.inl rfl)) (.cons (sok_lenL (U := Un) (rs := [(7, .p (.list .str) v3)]) rfl rfl Tryd.underlying40 o0) (.cons (moU (rs := []) rfl (.inl rfl) (.int _ _ _)) .nil)))) (by kernel_rfl) (by kernel_rfl) (by kernel_rfl) (cvR _) ?_
    refine tnU ?_
    refine WpC.block ?_
    obtain ⟨o8, hlo8, h⟩ := bind_some h
    have hout9 := h
    clear h
    refine WpC.conv (cvT (Conv.thaw (U := Un) 3 1003 24 (.named 3) (.tail _ (.head _)) (by kernel_rfl) (by unfold K0; omega)) (cvK (b := ⟨[(0, .loc 100000 0), (3, .vec 1003 3 0 0), (7, .p (.list .str) v3), (8, .p I6 ((v3.length : Int) : Int)), (9, .p I6 (0 : Int))], [(1003, .row 24 (.named 3) [] false), (100000, .box [.mp 100001]), (100001, .map (.named 3) a0)]⟩) [0, 3, 7, 8, 9] [1003, 100000, 100001] (by kernel_rfl))) ?_
    refine WpC.loop (U := Un) (fun n st' => ∃ v4 : List T_tree_File, ∃ v5 : Int, tree_Tree_Files_m0.l6 k a0 v3 n v4 v5 = some o8 ∧ st' = ⟨[(0, .loc 100000 0), (3, .vec 1003 3 0 v4.length), (7, .p (.list .str) v3), (8, .p I6 ((v3.length : Int) : Int)), (9, .p I6 v5)], [(1003, .row 24 (.named 3) v4 false), (100000, .box [.mp 100001]), (100001, .map (.named 3) a0)]⟩) k ⟨[], 0, hlo8, rfl⟩ ?_
    clear hlo8
    rintro (_ | n) _ ⟨v4, v5, h, rfl⟩
    · cases h
    · rw [tree_Tree_Files_m0.l6] at h
      refine WpC.seq ?_
      refine rgU (st1 := ⟨[(0, .loc 100000 0), (3, .vec 1003 3 0 v4.length), (7, .p (.list .str) v3), (8, .p I6 ((v3.length : Int) : Int)), (9, .p I6 v5), (10, .p .bool ((decide (v5 < (v3.length : Int))) : Bool))], [(1003, .row 24 (.named 3) v4 false), (100000, .box [.mp 100001]), (100001, .map (.named 3) a0)]⟩) [0, 3, 7, 8, 9, 10] [1003, 100000, 100001] hN (.cons (cmU (rs := [(9, .p I6 v5), (8, .p I6 ((v3.length : Int) : Int))]) rfl rfl o0 o1 rfl) .nil) (by kernel_rfl) (by kernel_rfl) (by kernel_rfl) (cvR _) ?_
      refine tnU ?_
      refine WpC.seq ?_
      refine cdU (b := (decide (v5 < (v3.length : Int)))) (.tmp (.tail _ (.tail _ (.tail _ (.tail _ (.tail _ (.head _))))))) (fun hc10 => ?_) (fun hc10 => ?_)
      · replace h := ite_t hc10 h
        refine WpC.conv (cvK (b := ⟨[(0, .loc 100000 0), (3, .vec 1003 3 0 v4.length), (7, .p (.list .str) v3), (8, .p I6 ((v3.length : Int) : Int)), (9, .p I6 v5)], [(1003, .row 24 (.named 3) v4 false), (100000, .box [.mp 100001]), (100001, .map (.named 3) a0)]⟩) [0, 3, 7, 8, 9] [1003, 100000, 100001] (by kernel_rfl)) (WpC.skip ?_)
        refine tnU ?_
        refine WpC.seq ?_
        refine WpC.block ?_
        refine WpC.seq ?_
        obtain ⟨v11, hv11, h⟩ := bind_some h
        refine rgU (st1 := ⟨[(0, .loc 100000 0), (3, .vec 1003 3 0 v4.length), (5, .p .str v11), (7, .p (.list .str) v3), (8, .p I6 ((v3.length : Int) : Int)), (9, .p I6 v5)], [(1003, .row 24 (.named 3) v4 false), (100000, .box [.mp 100001]), (100001, .map (.named 3) a0)]⟩) [0, 3, 5, 7, 8, 9] [1003, 100000, 100001] hN (.cons (sok_indexL (U := Un) (rs := [(7, .p (.list .str) v3), (9, .p I6 v5)]) rfl rfl sl_40 o0 o1 hv11) (.cons (sok_loadP (U := Un) (rs := [(11, .pp .str v11)]) rfl rfl ty_9 o0) (.cons (mvA (v := .p .str v11) rfl rfl) .nil))) (by kernel_rfl) (by kernel_rfl) (by kernel_rfl) (cvR _) ?_
        refine tnU ?_
        obtain ⟨g12, h⟩ := if_some h
        refine rgU (st1 := ⟨[(0, .loc 100000 0), (3, .vec 21 3 0 ((v4 ++ [((mget v11 a0).getD (T_tree_File.mk [] [] 0))]).length)), (7, .p (.list .str) v3), (8, .p I6 ((v3.length : Int) : Int)), (9, .p I6 v5)], [(21, .row 24 (.named 3) (v4 ++ [((mget v11 a0).getD (T_tree_File.mk [] [] 0))]) false), (100000, .box [.mp 100001]), (100001, .map (.named 3) a0)]⟩) [0, 3, 7, 8, 9] [21, 100000, 100001] hN (.cons (mvU (v := .vec 1003 3 0 v4.length) rfl rfl) (.cons (mvU (v := .loc 100000 0) rfl rfl) (.cons (nlU (rs := [(14, .loc 100000 0)]) rfl rfl o0 rfl) (.cons (fdB (rs := [(15, .loc 100000 0)]) rfl rfl fd_89_0 (by decide) o0) (.cons (ldB (t := .bool) (rs := [(16, .loc 100000 0)]) [] [.mp 100001] [] (v := .mp 100001) rfl rfl ty1_86 o0 rfl rfl rfl rfl (.hand rfl rfl)) (.cons (mvU (v := .p .str v11) rfl rfl) (.cons (sok_lookup (U := Un) (t := .named 3) (kvs := a0) (rs := [(17, .mp 100001), (18, .p .str v11)]) rfl rfl map_86 zv_24 o0 o1) (.cons (sok_buildSlice (U := Un) (t := .named 3) (rs := [(19, .p (.named 3) (((mget v11 a0).getD (T_tree_File.mk [] [] 0)) : T_tree_File))]) (ys := [.tmp 19]) (xs := [((mget v11 a0).getD (T_tree_File.mk [] [] 0))]) rfl rfl rfl rfl row_22 (.cons o0 .nil) (by decide)) (.cons (sok_append' (U := Un) (t := .named 3) (rs := [(13, .vec 1003 3 0 v4.length), (20, .vec 20 3 0 ([((mget v11 a0).getD (T_tree_File.mk [] [] 0))].length))]) (vw := [(20, .row 24 (.named 3) [((mget v11 a0).getD (T_tree_File.mk [] [] 0))] true)]) (xs := v4) (ys := [((mget v11 a0).getD (T_tree_File.mk [] [] 0))]) (fx := false) rfl rfl rfl row_22 (by decide) o0 o1 (.whole (.head _)) (by simp) g12) (.cons (mvA (v := .vec 21 3 0 ((v4 ++ [((mget v11 a0).getD (T_tree_File.mk [] [] 0))]).length)) rfl rfl) .nil)))))))))) (by kernel_rfl) (by kernel_rfl) (by kernel_rfl) (cvR _) ?_
        refine blockQ_normal ?_
        refine tnU ?_
        refine rgU (st1 := ⟨[(0, .loc 100000 0), (3, .vec 21 3 0 ((v4 ++ [((mget v11 a0).getD (T_tree_File.mk [] [] 0))]).length)), (7, .p (.list .str) v3), (8, .p I6 ((v3.length : Int) : Int)), (9, .p I6 ((IntKind.i64.wrap (v5 + 1)) : Int))], [(21, .row 24 (.named 3) (v4 ++ [((mget v11 a0).getD (T_tree_File.mk [] [] 0))]) false), (100000, .box [.mp 100001]), (100001, .map (.named 3) a0)]⟩) [0, 3, 7, 8, 9] [21, 100000, 100001] hN (.cons (sok_arith (U := Un) (rs := [(9, .p I6 v5)]) rfl rfl o0 (.int _ _ _) rfl) (.cons (mvU (v := .p I6 ((IntKind.i64.wrap (v5 + 1)) : Int)) rfl rfl) .nil)) (by kernel_rfl) (by kernel_rfl) (by kernel_rfl) (cvT (Conv.ren (U := Un) (st' := ⟨[(0, .loc 100000 0), (3, .vec 1003 3 0 ((v4 ++ [((mget v11 a0).getD (T_tree_File.mk [] [] 0))]).length)), (7, .p (.list .str) v3), (8, .p I6 ((v3.length : Int) : Int)), (9, .p I6 ((IntKind.i64.wrap (v5 + 1)) : Int))], [(1003, .row 24 (.named 3) (v4 ++ [((mget v11 a0).getD (T_tree_File.mk [] [] 0))]) false), (100000, .box [.mp 100001]), (100001, .map (.named 3) a0)]⟩) 21 1003 (by unfold K0; omega) (by kernel_rfl) (by kernel_rfl) (by kernel_rfl)) (cvK (b := ⟨[(0, .loc 100000 0), (3, .vec 1003 3 0 ((v4 ++ [((mget v11 a0).getD (T_tree_File.mk [] [] 0))]).length)), (7, .p (.list .str) v3), (8, .p I6 ((v3.length : Int) : Int)), (9, .p I6 ((IntKind.i64.wrap (v5 + 1)) : Int))], [(1003, .row 24 (.named 3) (v4 ++ [((mget v11 a0).getD (T_tree_File.mk [] [] 0))]) false), (100000, .box [.mp 100001]), (100001, .map (.named 3) a0)]⟩) [0, 3, 7, 8, 9] [1003, 100000, 100001] (by kernel_rfl))) ?_
        refine tnU ?_
        exact ⟨n, Nat.lt_succ_self n, (v4 ++ [((mget v11 a0).getD (T_tree_File.mk [] [] 0))]), (IntKind.i64.wrap (v5 + 1)), h, rfl⟩
      · replace h := ite_f hc10 h
        refine WpC.conv (cvK (b := ⟨[(3, .vec 1003 3 0 v4.length)], [(1003, .row 24 (.named 3) v4 false), (100000, .box [.mp 100001]), (100001, .map (.named 3) a0)]⟩) [3] [1003, 100000, 100001] (by kernel_rfl)) (WpC.exit ?_)
        refine thenQ_exit ?_
        have hq := Option.some.inj h
        subst hq
        refine thenQ_exit ?_
        have h := hout9
        refine blockQ_hit ?_
        refine tnU ?_
        exact ⟨v4, h, rfl⟩
  · rintro _ ⟨v1, h, rfl⟩
    unfold tree_Tree_Files_m0.j2 at h
    refine WpC.seq ?_
    refine rgU (st1 := ⟨[(2, .vec 1003 3 0 v1.length)], [(1003, .row 24 (.named 3) v1 false), (100000, .box [.mp 100001]), (100001, .map (.named 3) a0)]⟩) [2] [1003, 100000, 100001] hN (.cons (mvU (v := .vec 1003 3 0 v1.length) rfl rfl) (.cons (mvA (v := .vec 1003 3 0 v1.length) rfl rfl) .nil)) (by kernel_rfl) (by kernel_rfl) (by kernel_rfl) (cvR _) ?_
    refine tnU ?_
    refine WpC.conv (cvT (Conv.freeze (U := Un) 2 1003 24 _ (.named 3) v1 false (.head _) (by first | rfl | (simp only [upd_length, List.length_replicate, List.length_append]; done) | (simp only [upd_length, List.length_replicate, List.length_append] at *; omega) | omega) (.head _) (by first | (simp [Blk.names]; done) | (simp [Blk.names]; decide))) (cvK (b := ⟨[(2, .p (.list (.named 3)) v1)], [(100000, .box [.mp 100001]), (100001, .map (.named 3) a0)]⟩) [2] [100000, 100001] (by kernel_rfl))) (WpC.ret ?_)
    have hq := Option.some.inj h
    subst hq
    exact ends_ret (retV_1 rfl (.head _)) (ain_cons (.head _) (ain_cons (.tail _ (.head _)) ain_nil))

theorem tree_Tree_Latest_m0.ok (O : Out) (hO : GOk O) (k : Nat) (a0 : List ((List UInt8) × T_tree_File)) (out : Int) (h : tree_Tree_Latest_m0.f k a0 = some out) : COk Un O Tryd.prog 58 { ar := [.loc 100000 0], r := .p I6 out, bs := [(100000, .box [.mp 100001]), (100001, .map (.named 3) a0)], bs' := [(100000, .box [.mp 100001]), (100001, .map (.named 3) a0)] } := by
  refine cok_of_wp Tryd.func58 rfl (k := 20) rfl (Nat.le_of_ble_eq_true rfl) (namesOk_of (by kernel_rfl)) ?_
  intro B hN
  refine WpC.conv (cvK (b := ⟨[(0, .loc 100000 0)], [(100000, .box [.mp 100001]), (100001, .map (.named 3) a0)]⟩) [0] [100000, 100001] (by kernel_rfl)) ?_
  unfold tree_Tree_Latest_m0.f at h
  refine WpC.seq ?_
  refine rgU (st1 := ⟨[(0, .loc 100000 0)], [(100000, .box [.mp 100001]), (100001, .map (.named 3) a0)]⟩) [0] [100000, 100001] hN (.cons (moU (rs := []) rfl (.inr rfl) (.int _ _ _)) .nil) (by kernel_rfl) (by kernel_rfl) (by kernel_rfl) (cvR _) ?_
  refine tnU ?_
  refine WpC.seq ?_
  refine rgU (st1 := ⟨[(0, .loc 100000 0), (3, .p I6 (0 : Int))], [(100000, .box [.mp 100001]), (100001, .map (.named 3) a0)]⟩) [0, 3] [100000, 100001] hN (.cons (moU (rs := []) rfl (.inr rfl) (.int _ _ _)) .nil) (by kernel_rfl) (by kernel_rfl) (by kernel_rfl) (cvR _) ?_
  refine tnU ?_
  refine sqJ (fun st' => ∃ v1 : Int, tree_Tree_Latest_m0.j2 k a0 v1 = some out ∧ st' = ⟨[(3, .p I6 v1)], [(100000, .box [.mp 100001]), (100001, .map (.named 3) a0)]⟩) ?_ ?_
  · refine WpC.seq ?_
    refine WpC.openMap (U := Un) (t := .named 3) (n := 100001) (kvs := a0) (.tail _ (.head _)) ?_
    intro es3 ck3 ys3 hys3 hri3
    refine WpC.conv (cvK (b := ⟨[(0, .loc 100000 0), (3, .p I6 (0 : Int))], [(100000, .box [.mp 100001]), (100001, .mapE (.named 3) es3 ck3 ys3)]⟩) [0, 3] [100000, 100001] (by kernel_rfl)) ?_
    refine rgU (st1 := ⟨[(3, .p I6 (0 : Int)), (10, .loc 10 0)], [(10, .iter 100001 (.named 3) es3 ck3 ys3 a0 none), (100000, .box [.mp 100001]), (100001, .mapE (.named 3) es3 ck3 ys3)]⟩) [3, 10] [10, 100000, 100001] hN (.cons (mvU (v := .loc 100000 0) rfl rfl) (.cons (nlU (rs := [(6, .loc 100000 0)]) rfl rfl o0 rfl) (.cons (fdB (rs := [(7, .loc 100000 0)]) rfl rfl fd_89_0 (by decide) o0) (.cons (ldB (t := .bool) (rs := [(8, .loc 100000 0)]) [] [.mp 100001] [] (v := .mp 100001) rfl rfl ty1_86 o0 rfl rfl rfl rfl (.hand rfl rfl)) (.cons (sok_range (U := Un) (t := .named 3) (es := es3) (clock := ck3) (kvs := a0) (rs := [(9, .mp 100001)]) (d := 10) (m := 100001) rfl rfl rfl map_86 hys3 (by decide) o0) .nil))))) (by kernel_rfl) (by kernel_rfl) (by kernel_rfl) (cvR _) ?_
    refine tnU ?_
    refine WpC.block ?_
    obtain ⟨o8, hlo8, h⟩ := bind_some h
    have hout9 := h
    clear h
    refine WpC.loop (U := Un) (fun n st' => ∃ v4 : Int, ∃ v5 : List ((List UInt8) × T_tree_File), tree_Tree_Latest_m0.l6 k n v4 v5 = some o8 ∧ st' = ⟨[(3, .p I6 v4), (10, .loc 10 0)], [(10, .iter 100001 (.named 3) es3 ck3 ys3 v5 none), (100000, .box [.mp 100001]), (100001, .mapE (.named 3) es3 ck3 ys3)]⟩) k ⟨0, a0, hlo8, rfl⟩ ?_
    clear hlo8
    rintro (_ | n) _ ⟨v4, v5, h, rfl⟩
    · cases h
    · refine WpC.seq ?_
      refine WpC.next (U := Un) (t := .named 3) (d := 10) (m := 100001) (it := 10) (left := v5) [3, 10, 12] [10, 100000, 100001] hN rfl rfl rfl rfl rfl rfl (by decide) (by decide) (by decide) (.tail _ (.head _)) (.head _) (.tail _ (.tail _ (.head _))) (fun (v10 : (List UInt8) × T_tree_File) (v11 : List ((List UInt8) × T_tree_File)) hp12 ha12 => ⟨⟨[(3, .p I6 v4), (10, .loc 10 0), (12, .p .bool true)], [(10, .iter 100001 (.named 3) es3 ck3 ys3 v11 (some v10)), (100000, .box [.mp 100001]), (100001, .mapE (.named 3) es3 ck3 ys3)]⟩, by kernel_rfl, _, (cvR _), ?_⟩) (fun hl12 => ⟨⟨[(3, .p I6 v4), (10, .loc 10 0), (12, .p .bool false)], [(10, .iter 100001 (.named 3) es3 ck3 ys3 v5 none), (100000, .box [.mp 100001]), (100001, .mapE (.named 3) es3 ck3 ys3)]⟩, by kernel_rfl, _, (cvR _), ?_⟩)
      · have h := tree_Tree_Latest_m0.l6_perm k hp12 ha12 h
        unfold tree_Tree_Latest_m0.l6 at h
        obtain ⟨_, h⟩ := if_some h
        refine tnU ?_
        refine WpC.seq ?_
        refine cdU (b := true) (.tmp (.tail _ (.tail _ (.head _)))) (fun hc => ?_) (fun hc => ?_)
        · refine WpC.conv (cvK (b := ⟨[(3, .p I6 v4), (10, .loc 10 0)], [(10, .iter 100001 (.named 3) es3 ck3 ys3 v11 (some v10)), (100000, .box [.mp 100001]), (100001, .mapE (.named 3) es3 ck3 ys3)]⟩) [3, 10] [10, 100000, 100001] (by kernel_rfl)) (WpC.skip ?_)
          refine tnU ?_
          refine WpC.block ?_
          refine WpC.seq ?_
          refine rgU (st1 := ⟨[(3, .p I6 v4), (5, .loc 5 0), (10, .loc 10 0)], [(5, .box [.p .str v10.2.f_Name, .p .str v10.2.f_Content, .p I6 v10.2.f_Time]), (10, .iter 100001 (.named 3) es3 ck3 ys3 v11 (some v10)), (100000, .box [.mp 100001]), (100001, .mapE (.named 3) es3 ck3 ys3)]⟩) [3, 5, 10] [5, 10, 100000, 100001] hN (.cons (sok_entry (U := Un) (t := .named 3) (rs := [(10, .loc 10 0)]) (d := 10) (m := 100001) (es := es3) (clock := ck3) (ys := ys3) (left := v11) (y := v10) rfl rfl o0) (.cons (exU (rs := [(13, .tup [.p .str v10.1, .p (.named 3) v10.2])]) rfl rfl o0 rfl) (.cons (sok_allocZ (U := Un) (rs := []) (d := 5) (us := [.p .str ([] : List UInt8), .p .str ([] : List UInt8), .p I6 (0 : Int)]) (v := (.agg #[.string ByteArray.empty, .string ByteArray.empty, .int .i64 0])) rfl rfl rfl (by kernel_rfl) rfl (.data (fun _ _ _ => rd_str0) (.data (fun _ _ _ => rd_str0) (.data (fun _ _ _ => .int _ _) .nil))) (by kernel_rfl)) (.cons (sok_storeB (U := Un) (rs := [(5, .loc 5 0), (14, .p (.named 3) v10.2)]) (v := .p (.named 3) v10.2) (mid' := [.p .str v10.2.f_Name, .p .str v10.2.f_Content, .p I6 v10.2.f_Time]) [] [.p .str ([] : List UInt8), .p .str ([] : List UInt8), .p I6 (0 : Int)] [] rfl rfl rfl ty_24 o0 o1 (.data (.named (us := ([.p .str v10.2.f_Name, .p .str v10.2.f_Content, .p I6 v10.2.f_Time] : List (AVal Un))) (.pair (.one _ _) (.pair (.one _ _) (.pair (.one _ _) .unit))))) rfl rfl rfl rfl rfl rfl) .nil)))) (by kernel_rfl) (by kernel_rfl) (by kernel_rfl) (cvR _) ?_
          refine tnU ?_
          refine rgU (st1 := ⟨[(3, .p I6 ((if v10.2.f_Time > v4 then v10.2.f_Time else v4) : Int)), (10, .loc 10 0)], [(10, .iter 100001 (.named 3) es3 ck3 ys3 v11 (some v10)), (100000, .box [.mp 100001]), (100001, .mapE (.named 3) es3 ck3 ys3)]⟩) [3, 10] [10, 100000, 100001] hN (.cons (mvU (v := .p I6 v4) rfl rfl) (.cons (fdB (rs := [(5, .loc 5 0)]) rfl rfl fd_24_2 (by decide) o0) (.cons (ldB (t := .int .i64) (rs := [(16, .loc 5 2)]) [.p .str v10.2.f_Name, .p .str v10.2.f_Content] [.p I6 v10.2.f_Time] [] (v := .p I6 v10.2.f_Time) rfl rfl ty_3 o0 rfl rfl rfl rfl (.data (.one _ _))) (.cons (sok_max (U := Un) (rs := [(15, .p I6 v4), (17, .p I6 v10.2.f_Time)]) rfl rfl o0 o1) (.cons (mvA (v := .p I6 ((if v10.2.f_Time > v4 then v10.2.f_Time else v4) : Int)) rfl rfl) .nil))))) (by kernel_rfl) (by kernel_rfl) (by kernel_rfl) (cvT (Conv.iterRest (U := Un) (t := .named 3) (d := 10) (.head _)) (cvK (b := ⟨[(3, .p I6 ((if v10.2.f_Time > v4 then v10.2.f_Time else v4) : Int)), (10, .loc 10 0)], [(10, .iter 100001 (.named 3) es3 ck3 ys3 v11 none), (100000, .box [.mp 100001]), (100001, .mapE (.named 3) es3 ck3 ys3)]⟩) [3, 10] [10, 100000, 100001] (by kernel_rfl))) ?_
          refine blockQ_normal ?_
          refine tnU ?_
          exact ⟨n, Nat.lt_succ_self n, (if v10.2.f_Time > v4 then v10.2.f_Time else v4), v11, h, rfl⟩
        · cases hc
      · subst hl12
        unfold tree_Tree_Latest_m0.l6 at h
        refine tnU ?_
        refine WpC.seq ?_
        refine cdU (b := false) (.tmp (.tail _ (.tail _ (.head _)))) (fun hc => ?_) (fun hc => ?_)
        · cases hc
        · refine WpC.conv (cvT (cvK (b := ⟨[(3, .p I6 v4)], [(100000, .box [.mp 100001]), (100001, .mapE (.named 3) es3 ck3 ys3)]⟩) [3] [100000, 100001] (by kernel_rfl)) (cvT (Conv.closeMap (U := Un) (t := .named 3) (n := 100001) (.tail _ (.head _)) hys3 hri3) (cvK (b := ⟨[(3, .p I6 v4)], [(100000, .box [.mp 100001]), (100001, .map (.named 3) a0)]⟩) [3] [100000, 100001] (by kernel_rfl)))) (WpC.exit ?_)
          refine thenQ_exit ?_
          have hq := Option.some.inj h
          subst hq
          refine thenQ_exit ?_
          have h := hout9
          refine blockQ_hit ?_
          refine tnU ?_
          exact ⟨v4, h, rfl⟩
  · rintro _ ⟨v1, h, rfl⟩
    unfold tree_Tree_Latest_m0.j2 at h
    refine WpC.seq ?_
    refine rgU (st1 := ⟨[(2, .p I6 v1)], [(100000, .box [.mp 100001]), (100001, .map (.named 3) a0)]⟩) [2] [100000, 100001] hN (.cons (mvU (v := .p I6 v1) rfl rfl) (.cons (mvA (v := .p I6 v1) rfl rfl) .nil)) (by kernel_rfl) (by kernel_rfl) (by kernel_rfl) (cvR _) ?_
    refine tnU ?_
    refine WpC.ret ?_
    have hq := Option.some.inj h
    subst hq
    exact ends_ret (retV_1 rfl (.head _)) (ain_cons (.head _) (ain_cons (.tail _ (.head _)) ain_nil))

theorem millwrightref02_Tree_Latest_m0.ok (O : Out) (hO : GOk O) (k : Nat) (a0 : List T_tree_File) (out : Int) (h : millwrightref02_Tree_Latest_m0.f k a0 = some out) : COk Un O Tryd.prog 59 { ar := [.loc 100000 0], r := .p I6 out, bs := [(100000, .box [.p (.list (.named 3)) a0])], bs' := [(100000, .box [.p (.list (.named 3)) a0])] } := by
  refine cok_of_wp Tryd.func59 rfl (k := 23) rfl (Nat.le_of_ble_eq_true rfl) (namesOk_of (by kernel_rfl)) ?_
  intro B hN
  refine WpC.conv (cvK (b := ⟨[(0, .loc 100000 0)], [(100000, .box [.p (.list (.named 3)) a0])]⟩) [0] [100000] (by kernel_rfl)) ?_
  unfold millwrightref02_Tree_Latest_m0.f at h
  refine WpC.seq ?_
  refine rgU (st1 := ⟨[(0, .loc 100000 0)], [(100000, .box [.p (.list (.named 3)) a0])]⟩) [0] [100000] hN (.cons (moU (rs := []) rfl (.inr rfl) (.int _ _ _)) .nil) (by kernel_rfl) (by kernel_rfl) (by kernel_rfl) (cvR _) ?_
  refine tnU ?_
  refine WpC.seq ?_
  refine rgU (st1 := ⟨[(0, .loc 100000 0), (3, .p I6 (0 : Int))], [(100000, .box [.p (.list (.named 3)) a0])]⟩) [0, 3] [100000] hN (.cons (moU (rs := []) rfl (.inr rfl) (.int _ _ _)) .nil) (by kernel_rfl) (by kernel_rfl) (by kernel_rfl) (cvR _) ?_
  refine tnU ?_
  refine sqJ (fun st' => ∃ v1 : Int, millwrightref02_Tree_Latest_m0.j2 k a0 v1 = some out ∧ st' = ⟨[(3, .p I6 v1)], [(100000, .box [.p (.list (.named 3)) a0])]⟩) ?_ ?_
  · refine WpC.seq ?_
    refine rgU (st1 := ⟨[(3, .p I6 (0 : Int)), (9, .p (.list (.named 3)) a0), (10, .p I6 ((a0.length : Int) : Int)), (11, .p I6 (0 : Int))], [(100000, .box [.p (.list (.named 3)) a0])]⟩) [3, 9, 10, 11] [100000] hN (.cons (mvU (v := .loc 100000 0) rfl rfl) (.cons (nlU (rs := [(6, .loc 100000 0)]) rfl rfl o0 rfl) (.cons (fdB (rs := [(7, .loc 100000 0)]) rfl rfl fd_47_0 (by decide) o0) (.cons (ldB (t := .list (.named 3)) (rs := [(8, .loc 100000 0)]) [] [.p (.list (.named 3)) a0] [] (v := .p (.list (.named 3)) a0) rfl rfl ty_45 o0 rfl rfl rfl rfl (.data (.one _ _))) (.cons (sok_lenL (U := Un) (rs := [(9, .p (.list (.named 3)) a0)]) rfl rfl Tryd.underlying45 o0) (.cons (moU (rs := []) rfl (.inl rfl) (.int _ _ _)) .nil)))))) (by kernel_rfl) (by kernel_rfl) (by kernel_rfl) (cvR _) ?_
    refine tnU ?_
    refine WpC.block ?_
    obtain ⟨o7, hlo7, h⟩ := bind_some h
    have hout8 := h
    clear h
    refine WpC.loop (U := Un) (fun n st' => ∃ v3 : Int, ∃ v4 : Int, millwrightref02_Tree_Latest_m0.l5 k a0 n v3 v4 = some o7 ∧ st' = ⟨[(3, .p I6 v3), (9, .p (.list (.named 3)) a0), (10, .p I6 ((a0.length : Int) : Int)), (11, .p I6 v4)], [(100000, .box [.p (.list (.named 3)) a0])]⟩) k ⟨0, 0, hlo7, rfl⟩ ?_
    clear hlo7
    rintro (_ | n) _ ⟨v3, v4, h, rfl⟩
    · cases h
    · rw [millwrightref02_Tree_Latest_m0.l5] at h
      refine WpC.seq ?_
      refine rgU (st1 := ⟨[(3, .p I6 v3), (9, .p (.list (.named 3)) a0), (10, .p I6 ((a0.length : Int) : Int)), (11, .p I6 v4), (12, .p .bool ((decide (v4 < (a0.length : Int))) : Bool))], [(100000, .box [.p (.list (.named 3)) a0])]⟩) [3, 9, 10, 11, 12] [100000] hN (.cons (cmU (rs := [(11, .p I6 v4), (10, .p I6 ((a0.length : Int) : Int))]) rfl rfl o0 o1 rfl) .nil) (by kernel_rfl) (by kernel_rfl) (by kernel_rfl) (cvR _) ?_
      refine tnU ?_
      refine WpC.seq ?_
      refine cdU (b := (decide (v4 < (a0.length : Int)))) (.tmp (.tail _ (.tail _ (.tail _ (.tail _ (.head _)))))) (fun hc9 => ?_) (fun hc9 => ?_)
      · replace h := ite_t hc9 h
        refine WpC.conv (cvK (b := ⟨[(3, .p I6 v3), (9, .p (.list (.named 3)) a0), (10, .p I6 ((a0.length : Int) : Int)), (11, .p I6 v4)], [(100000, .box [.p (.list (.named 3)) a0])]⟩) [3, 9, 10, 11] [100000] (by kernel_rfl)) (WpC.skip ?_)
        refine tnU ?_
        refine sqJ (fun st' => ∃ v10 : Int, millwrightref02_Tree_Latest_m0.j11 k (millwrightref02_Tree_Latest_m0.l5 k a0 n) a0 v4 v10 = some o7 ∧ st' = ⟨[(3, .p I6 v10), (9, .p (.list (.named 3)) a0), (10, .p I6 ((a0.length : Int) : Int)), (11, .p I6 v4)], [(100000, .box [.p (.list (.named 3)) a0])]⟩) ?_ ?_
        · refine WpC.block ?_
          refine WpC.seq ?_
          obtain ⟨v12, hv12, h⟩ := bind_some h
          refine rgU (st1 := ⟨[(3, .p I6 v3), (5, .loc 5 0), (9, .p (.list (.named 3)) a0), (10, .p I6 ((a0.length : Int) : Int)), (11, .p I6 v4)], [(5, .box [.p .str v12.f_Name, .p .str v12.f_Content, .p I6 v12.f_Time]), (100000, .box [.p (.list (.named 3)) a0])]⟩) [3, 5, 9, 10, 11] [5, 100000] hN (.cons (sok_indexL (U := Un) (rs := [(9, .p (.list (.named 3)) a0), (11, .p I6 v4)]) rfl rfl sl_45 o0 o1 hv12) (.cons (sok_loadP (U := Un) (rs := [(13, .pp (.named 3) v12)]) rfl rfl ty_50 o0) (.cons (sok_allocZ (U := Un) (rs := []) (d := 5) (us := [.p .str ([] : List UInt8), .p .str ([] : List UInt8), .p I6 (0 : Int)]) (v := (.agg #[.string ByteArray.empty, .string ByteArray.empty, .int .i64 0])) rfl rfl rfl (by kernel_rfl) rfl (.data (fun _ _ _ => rd_str0) (.data (fun _ _ _ => rd_str0) (.data (fun _ _ _ => .int _ _) .nil))) (by kernel_rfl)) (.cons (sok_storeB (U := Un) (rs := [(5, .loc 5 0), (14, .p (.named 3) v12)]) (v := .p (.named 3) v12) (mid' := [.p .str v12.f_Name, .p .str v12.f_Content, .p I6 v12.f_Time]) [] [.p .str ([] : List UInt8), .p .str ([] : List UInt8), .p I6 (0 : Int)] [] rfl rfl rfl ty_50 o0 o1 (.data (.named (us := ([.p .str v12.f_Name, .p .str v12.f_Content, .p I6 v12.f_Time] : List (AVal Un))) (.pair (.one _ _) (.pair (.one _ _) (.pair (.one _ _) .unit))))) rfl rfl rfl rfl rfl rfl) .nil)))) (by kernel_rfl) (by kernel_rfl) (by kernel_rfl) (cvR _) ?_
          refine tnU ?_
          refine WpC.seq ?_
          refine rgU (st1 := ⟨[(3, .p I6 v3), (5, .loc 5 0), (9, .p (.list (.named 3)) a0), (10, .p I6 ((a0.length : Int) : Int)), (11, .p I6 v4), (18, .p .bool ((decide (v12.f_Time > v3)) : Bool))], [(5, .box [.p .str v12.f_Name, .p .str v12.f_Content, .p I6 v12.f_Time]), (100000, .box [.p (.list (.named 3)) a0])]⟩) [3, 5, 9, 10, 11, 18] [5, 100000] hN (.cons (fdB (rs := [(5, .loc 5 0)]) rfl rfl fd_50_2 (by decide) o0) (.cons (ldB (t := .int .i64) (rs := [(15, .loc 5 2)]) [.p .str v12.f_Name, .p .str v12.f_Content] [.p I6 v12.f_Time] [] (v := .p I6 v12.f_Time) rfl rfl ty_3 o0 rfl rfl rfl rfl (.data (.one _ _))) (.cons (mvU (v := .p I6 v3) rfl rfl) (.cons (cmU (rs := [(16, .p I6 v12.f_Time), (17, .p I6 v3)]) rfl rfl o0 o1 rfl) .nil)))) (by kernel_rfl) (by kernel_rfl) (by kernel_rfl) (cvR _) ?_
          refine tnU ?_
          refine cdU (b := (decide (v12.f_Time > v3))) (.tmp (.tail _ (.tail _ (.tail _ (.tail _ (.tail _ (.head _))))))) (fun hc13 => ?_) (fun hc13 => ?_)
          · replace h := ite_t hc13 h
            refine rgU (st1 := ⟨[(3, .p I6 v12.f_Time), (9, .p (.list (.named 3)) a0), (10, .p I6 ((a0.length : Int) : Int)), (11, .p I6 v4)], [(100000, .box [.p (.list (.named 3)) a0])]⟩) [3, 9, 10, 11] [100000] hN (.cons (fdB (rs := [(5, .loc 5 0)]) rfl rfl fd_50_2 (by decide) o0) (.cons (ldB (t := .int .i64) (rs := [(19, .loc 5 2)]) [.p .str v12.f_Name, .p .str v12.f_Content] [.p I6 v12.f_Time] [] (v := .p I6 v12.f_Time) rfl rfl ty_3 o0 rfl rfl rfl rfl (.data (.one _ _))) (.cons (mvA (v := .p I6 v12.f_Time) rfl rfl) .nil))) (by kernel_rfl) (by kernel_rfl) (by kernel_rfl) (cvR _) ?_
            refine blockQ_normal ?_
            refine tnU ?_
            exact ⟨v12.f_Time, h, rfl⟩
          · replace h := ite_f hc13 h
            refine WpC.conv (cvK (b := ⟨[(3, .p I6 v3), (9, .p (.list (.named 3)) a0), (10, .p I6 ((a0.length : Int) : Int)), (11, .p I6 v4)], [(100000, .box [.p (.list (.named 3)) a0])]⟩) [3, 9, 10, 11] [100000] (by kernel_rfl)) (WpC.skip ?_)
            refine blockQ_normal ?_
            refine tnU ?_
            exact ⟨v3, h, rfl⟩
        · rintro _ ⟨v10, h, rfl⟩
          unfold millwrightref02_Tree_Latest_m0.j11 at h
          refine rgU (st1 := ⟨[(3, .p I6 v10), (9, .p (.list (.named 3)) a0), (10, .p I6 ((a0.length : Int) : Int)), (11, .p I6 ((IntKind.i64.wrap (v4 + 1)) : Int))], [(100000, .box [.p (.list (.named 3)) a0])]⟩) [3, 9, 10, 11] [100000] hN (.cons (sok_arith (U := Un) (rs := [(11, .p I6 v4)]) rfl rfl o0 (.int _ _ _) rfl) (.cons (mvU (v := .p I6 ((IntKind.i64.wrap (v4 + 1)) : Int)) rfl rfl) .nil)) (by kernel_rfl) (by kernel_rfl) (by kernel_rfl) (cvR _) ?_
          refine tnU ?_
          exact ⟨n, Nat.lt_succ_self n, v10, (IntKind.i64.wrap (v4 + 1)), h, rfl⟩
      · replace h := ite_f hc9 h
        refine WpC.conv (cvK (b := ⟨[(3, .p I6 v3)], [(100000, .box [.p (.list (.named 3)) a0])]⟩) [3] [100000] (by kernel_rfl)) (WpC.exit ?_)
        refine thenQ_exit ?_
        have hq := Option.some.inj h
        subst hq
        refine thenQ_exit ?_
        have h := hout8
        refine blockQ_hit ?_
        refine tnU ?_
        exact ⟨v3, h, rfl⟩
  · rintro _ ⟨v1, h, rfl⟩
    unfold millwrightref02_Tree_Latest_m0.j2 at h
    refine WpC.seq ?_
    refine rgU (st1 := ⟨[(2, .p I6 v1)], [(100000, .box [.p (.list (.named 3)) a0])]⟩) [2] [100000] hN (.cons (mvU (v := .p I6 v1) rfl rfl) (.cons (mvA (v := .p I6 v1) rfl rfl) .nil)) (by kernel_rfl) (by kernel_rfl) (by kernel_rfl) (cvR _) ?_
    refine tnU ?_
    refine WpC.ret ?_
    have hq := Option.some.inj h
    subst hq
    exact ends_ret (retV_1 rfl (.head _)) (ain_cons (.head _) ain_nil)

theorem millwrightlaw02_Shows_m0.ok (O : Out) (hO : GOk O) (k : Nat) (a0 : List ((List UInt8) × T_tree_File)) (a1 : List T_tree_File) (out : Bool) (h : millwrightlaw02_Shows_m0.f k a0 a1 = some out) : COk Un O Tryd.prog 26 { ar := [.loc 100000 0, .loc 100002 0], r := .p .bool out, bs := [(100000, .box [.mp 100001]), (100001, .map (.named 3) a0), (100002, .box [.p (.list (.named 3)) a1])], bs' := [(100000, .box [.mp 100001]), (100001, .map (.named 3) a0), (100002, .box [.p (.list (.named 3)) a1])] } := by
  refine cok_of_wp Tryd.func26 rfl (k := 67) rfl (Nat.le_of_ble_eq_true rfl) (namesOk_of (by kernel_rfl)) ?_
  intro B hN
  refine WpC.conv (cvK (b := ⟨[(0, .loc 100000 0), (1, .loc 100002 0)], [(100000, .box [.mp 100001]), (100001, .map (.named 3) a0), (100002, .box [.p (.list (.named 3)) a1])]⟩) [0, 1] [100000, 100001, 100002] (by kernel_rfl)) ?_
  unfold millwrightlaw02_Shows_m0.f at h
  refine WpC.seq ?_
  refine rgU (st1 := ⟨[(0, .loc 100000 0), (1, .loc 100002 0)], [(100000, .box [.mp 100001]), (100001, .map (.named 3) a0), (100002, .box [.p (.list (.named 3)) a1])]⟩) [0, 1] [100000, 100001, 100002] hN (.cons (moU (rs := []) rfl (.inr rfl) (.bool _ _)) .nil) (by kernel_rfl) (by kernel_rfl) (by kernel_rfl) (cvR _) ?_
  refine tnU ?_
  refine WpC.seq ?_
  obtain ⟨v1, hv1, h⟩ := bind_some h
  refine rgU (st1 := ⟨[(0, .loc 100000 0), (1, .loc 100002 0), (5, .p (.list (.named 3)) v1)], [(100000, .box [.mp 100001]), (100001, .map (.named 3) a0), (100002, .box [.p (.list (.named 3)) a1])]⟩) [0, 1, 5] [100000, 100001, 100002] hN (.cons (mvU (v := .loc 100000 0) rfl rfl) (.cons (caV (rs := [(8, .loc 100000 0)]) (vw := []) rfl rfl (.func _) hb_57 (COk.ren (tree_Tree_Files_m0.ok O hO k a0 v1 hv1) (fun n => if n = 100000 then 100000 else if n = 100001 then 100001 else n) (injOn_of (by kernel_rfl))) (.cons o0 .nil) (.cons (.same _) .nil) (by simp) (.inl rfl)) (.cons (mvA (v := .p (.list (.named 3)) v1) rfl rfl) .nil))) (by kernel_rfl) (by kernel_rfl) (by kernel_rfl) (cvR _) ?_
  refine tnU ?_
  refine sqJ (fun st' => millwrightlaw02_Shows_m0.j22 k a0 a1 v1 = some out ∧ st' = ⟨[(0, .loc 100000 0), (1, .loc 100002 0), (5, .p (.list (.named 3)) v1)], [(100000, .box [.mp 100001]), (100001, .map (.named 3) a0), (100002, .box [.p (.list (.named 3)) a1])]⟩) ?_ ?_
  · refine sqJ (fun st' => ∃ v23 : Bool, millwrightlaw02_Shows_m0.j25 k a0 a1 v1 v23 = some out ∧ st' = ⟨[(0, .loc 100000 0), (1, .loc 100002 0), (5, .p (.list (.named 3)) v1), (24, .p .bool v23)], [(100000, .box [.mp 100001]), (100001, .map (.named 3) a0), (100002, .box [.p (.list (.named 3)) a1])]⟩) ?_ ?_
    · rcases bool_cases ((v1.length : Int) != (a1.length : Int)) with hc26 | hc26
      · replace h := ite_t hc26 h
        refine rgU (st1 := ⟨[(0, .loc 100000 0), (1, .loc 100002 0), (5, .p (.list (.named 3)) v1), (24, .p .bool true)], [(100000, .box [.mp 100001]), (100001, .map (.named 3) a0), (100002, .box [.p (.list (.named 3)) a1])]⟩) [0, 1, 5, 24] [100000, 100001, 100002] hN (.cons (mvU (v := .p (.list (.named 3)) v1) rfl rfl) (.cons (sok_lenL (U := Un) (rs := [(10, .p (.list (.named 3)) v1)]) rfl rfl Tryd.underlying22 o0) (.cons (mvU (v := .loc 100002 0) rfl rfl) (.cons (nlU (rs := [(12, .loc 100002 0)]) rfl rfl o0 rfl) (.cons (fdB (rs := [(13, .loc 100002 0)]) rfl rfl fd_47_0 (by decide) o0) (.cons (ldB (t := .list (.named 3)) (rs := [(14, .loc 100002 0)]) [] [.p (.list (.named 3)) a1] [] (v := .p (.list (.named 3)) a1) rfl rfl ty_45 o0 rfl rfl rfl rfl (.data (.one _ _))) (.cons (sok_lenL (U := Un) (rs := [(15, .p (.list (.named 3)) a1)]) rfl rfl Tryd.underlying45 o0) (.cons (cmU (rs := [(11, .p I6 ((v1.length : Int) : Int)), (16, .p I6 ((a1.length : Int) : Int))]) rfl rfl o0 o1 rfl) (.cons (mvU (v := .p .bool (((v1.length : Int) != (a1.length : Int)) : Bool)) rfl rfl) (.cons (skU rfl rfl hc26) (.cons (skU rfl rfl hc26) (.cons (skU rfl rfl hc26) (.cons (skU rfl rfl hc26) (.cons (skU rfl rfl hc26) (.cons (pkT (rs := [(18, .p .bool (((v1.length : Int) != (a1.length : Int)) : Bool))]) rfl rfl o0 hc26 (.bool _ _)) .nil))))))))))))))) (by kernel_rfl) (by kernel_rfl) (by kernel_rfl) (cvR _) ?_
        refine tnU ?_
        exact ⟨true, h, rfl⟩
      · replace h := ite_f hc26 h
        obtain ⟨v27, hv27, h⟩ := bind_some h
        obtain ⟨v28, hv28, h⟩ := bind_some h
        refine rgU (st1 := ⟨[(0, .loc 100000 0), (1, .loc 100002 0), (5, .p (.list (.named 3)) v1), (24, .p .bool ((v27 != v28) : Bool))], [(100000, .box [.mp 100001]), (100001, .map (.named 3) a0), (100002, .box [.p (.list (.named 3)) a1])]⟩) [0, 1, 5, 24] [100000, 100001, 100002] hN (.cons (mvU (v := .p (.list (.named 3)) v1) rfl rfl) (.cons (sok_lenL (U := Un) (rs := [(10, .p (.list (.named 3)) v1)]) rfl rfl Tryd.underlying22 o0) (.cons (mvU (v := .loc 100002 0) rfl rfl) (.cons (nlU (rs := [(12, .loc 100002 0)]) rfl rfl o0 rfl) (.cons (fdB (rs := [(13, .loc 100002 0)]) rfl rfl fd_47_0 (by decide) o0) (.cons (ldB (t := .list (.named 3)) (rs := [(14, .loc 100002 0)]) [] [.p (.list (.named 3)) a1] [] (v := .p (.list (.named 3)) a1) rfl rfl ty_45 o0 rfl rfl rfl rfl (.data (.one _ _))) (.cons (sok_lenL (U := Un) (rs := [(15, .p (.list (.named 3)) a1)]) rfl rfl Tryd.underlying45 o0) (.cons (cmU (rs := [(11, .p I6 ((v1.length : Int) : Int)), (16, .p I6 ((a1.length : Int) : Int))]) rfl rfl o0 o1 rfl) (.cons (mvU (v := .p .bool (((v1.length : Int) != (a1.length : Int)) : Bool)) rfl rfl) (.cons (sok_run rfl rfl hc26 (mvU (v := .loc 100000 0) rfl rfl)) (.cons (sok_run rfl rfl hc26 (caV (rs := [(19, .loc 100000 0)]) (vw := []) rfl rfl (.func _) hb_58 (COk.ren (tree_Tree_Latest_m0.ok O hO k a0 v27 hv27) (fun n => if n = 100000 then 100000 else if n = 100001 then 100001 else n) (injOn_of (by kernel_rfl))) (.cons o0 .nil) (.cons (.same _) .nil) (by simp) (.inl rfl))) (.cons (sok_run rfl rfl hc26 (mvU (v := .loc 100002 0) rfl rfl)) (.cons (sok_run rfl rfl hc26 (caV (rs := [(21, .loc 100002 0)]) (vw := []) rfl rfl (.func _) hb_59 (COk.ren (millwrightref02_Tree_Latest_m0.ok O hO k a1 v28 hv28) (fun n => if n = 100000 then 100002 else n) (injOn_of (by kernel_rfl))) (.cons o0 .nil) (.cons (.same _) .nil) (by simp) (.inl rfl))) (.cons (sok_run rfl rfl hc26 (cmU (rs := [(20, .p I6 v27), (22, .p I6 v28)]) rfl rfl o0 o1 rfl)) (.cons (pkF (rs := [(18, .p .bool (((v1.length : Int) != (a1.length : Int)) : Bool)), (23, .p .bool ((v27 != v28) : Bool))]) rfl rfl o0 hc26 o1) .nil))))))))))))))) (by kernel_rfl) (by kernel_rfl) (by kernel_rfl) (cvR _) ?_
        refine tnU ?_
        exact ⟨(v27 != v28), h, rfl⟩
    · rintro _ ⟨v23, h, rfl⟩
      unfold millwrightlaw02_Shows_m0.j25 at h
      refine cdU (b := v23) (.tmp (.tail _ (.tail _ (.tail _ (.head _))))) (fun hc24 => ?_) (fun hc24 => ?_)
      · replace h := ite_t hc24 h
        refine WpC.seq ?_
        refine rgU (st1 := ⟨[(4, .p .bool false)], [(100000, .box [.mp 100001]), (100001, .map (.named 3) a0), (100002, .box [.p (.list (.named 3)) a1])]⟩) [4] [100000, 100001, 100002] hN (.cons (moU (rs := []) rfl (.inr rfl) (.bool _ _)) .nil) (by kernel_rfl) (by kernel_rfl) (by kernel_rfl) (cvR _) ?_
        refine tnU ?_
        refine WpC.ret ?_
        refine thenQ_ret ?_
        have hq := Option.some.inj h
        subst hq
        exact ends_ret (retV_1 rfl (.head _)) (ain_cons (.head _) (ain_cons (.tail _ (.head _)) (ain_cons (.tail _ (.tail _ (.head _))) ain_nil)))
      · replace h := ite_f hc24 h
        refine WpC.conv (cvK (b := ⟨[(0, .loc 100000 0), (1, .loc 100002 0), (5, .p (.list (.named 3)) v1)], [(100000, .box [.mp 100001]), (100001, .map (.named 3) a0), (100002, .box [.p (.list (.named 3)) a1])]⟩) [0, 1, 5] [100000, 100001, 100002] (by kernel_rfl)) (WpC.skip ?_)
        refine tnU ?_
        exact ⟨h, rfl⟩
  · rintro _ ⟨h, rfl⟩
    unfold millwrightlaw02_Shows_m0.j22 at h
    refine sqJ (fun st' => millwrightlaw02_Shows_m0.j3 k a0 a1 v1 = some out ∧ st' = ⟨[(0, .loc 100000 0), (5, .p (.list (.named 3)) v1)], [(100000, .box [.mp 100001]), (100001, .map (.named 3) a0), (100002, .box [.p (.list (.named 3)) a1])]⟩) ?_ ?_
    · refine WpC.seq ?_
      obtain ⟨v4, hv4, h⟩ := bind_some h
      refine rgU (st1 := ⟨[(0, .loc 100000 0), (1, .loc 100002 0), (5, .p (.list (.named 3)) v1), (26, .p (.list .str) v4), (27, .p I6 ((v4.length : Int) : Int)), (28, .p I6 (0 : Int))], [(100000, .box [.mp 100001]), (100001, .map (.named 3) a0), (100002, .box [.p (.list (.named 3)) a1])]⟩) [0, 1, 5, 26, 27, 28] [100000, 100001, 100002] hN (.cons (mvU (v := .loc 100000 0) rfl rfl) (.cons (caV (rs := [(25, .loc 100000 0)]) (vw := []) rfl rfl (.func _) hb_17 (COk.ren (tree_Tree_Names_m0.ok O hO k a0 v4 hv4) (fun n => if n = 100000 then 100000 else if n = 100001 then 100001 else n) (injOn_of (by kernel_rfl))) (.cons o0 .nil) (.cons (.same _) .nil) (by simp) (.inl rfl)) (.cons (sok_lenL (U := Un) (rs := [(26, .p (.list .str) v4)]) rfl rfl Tryd.underlying40 o0) (.cons (moU (rs := []) rfl (.inl rfl) (.int _ _ _)) .nil)))) (by kernel_rfl) (by kernel_rfl) (by kernel_rfl) (cvR _) ?_
      refine tnU ?_
      refine WpC.block ?_
      obtain ⟨o7, hlo7, h⟩ := bind_some h
      have hout8 := h
      clear h
      refine WpC.loop (U := Un) (fun n st' => ∃ v5 : Int, millwrightlaw02_Shows_m0.l6 k a0 a1 v1 v4 n v5 = some o7 ∧ st' = ⟨[(0, .loc 100000 0), (1, .loc 100002 0), (5, .p (.list (.named 3)) v1), (26, .p (.list .str) v4), (27, .p I6 ((v4.length : Int) : Int)), (28, .p I6 v5)], [(100000, .box [.mp 100001]), (100001, .map (.named 3) a0), (100002, .box [.p (.list (.named 3)) a1])]⟩) k ⟨0, hlo7, rfl⟩ ?_
      clear hlo7
      rintro (_ | n) _ ⟨v5, h, rfl⟩
      · cases h
      · rw [millwrightlaw02_Shows_m0.l6] at h
        refine WpC.seq ?_
        refine rgU (st1 := ⟨[(0, .loc 100000 0), (1, .loc 100002 0), (5, .p (.list (.named 3)) v1), (26, .p (.list .str) v4), (27, .p I6 ((v4.length : Int) : Int)), (28, .p I6 v5), (29, .p .bool ((decide (v5 < (v4.length : Int))) : Bool))], [(100000, .box [.mp 100001]), (100001, .map (.named 3) a0), (100002, .box [.p (.list (.named 3)) a1])]⟩) [0, 1, 5, 26, 27, 28, 29] [100000, 100001, 100002] hN (.cons (cmU (rs := [(28, .p I6 v5), (27, .p I6 ((v4.length : Int) : Int))]) rfl rfl o0 o1 rfl) .nil) (by kernel_rfl) (by kernel_rfl) (by kernel_rfl) (cvR _) ?_
        refine tnU ?_
        refine WpC.seq ?_
        refine cdU (b := (decide (v5 < (v4.length : Int)))) (.tmp (.tail _ (.tail _ (.tail _ (.tail _ (.tail _ (.tail _ (.head _)))))))) (fun hc9 => ?_) (fun hc9 => ?_)
        · replace h := ite_t hc9 h
          refine WpC.conv (cvK (b := ⟨[(0, .loc 100000 0), (1, .loc 100002 0), (5, .p (.list (.named 3)) v1), (26, .p (.list .str) v4), (27, .p I6 ((v4.length : Int) : Int)), (28, .p I6 v5)], [(100000, .box [.mp 100001]), (100001, .map (.named 3) a0), (100002, .box [.p (.list (.named 3)) a1])]⟩) [0, 1, 5, 26, 27, 28] [100000, 100001, 100002] (by kernel_rfl)) (WpC.skip ?_)
          refine tnU ?_
          refine sqJ (fun st' => millwrightlaw02_Shows_m0.j10 k (millwrightlaw02_Shows_m0.l6 k a0 a1 v1 v4 n) a0 a1 v1 v4 v5 = some o7 ∧ st' = ⟨[(0, .loc 100000 0), (1, .loc 100002 0), (5, .p (.list (.named 3)) v1), (26, .p (.list .str) v4), (27, .p I6 ((v4.length : Int) : Int)), (28, .p I6 v5)], [(100000, .box [.mp 100001]), (100001, .map (.named 3) a0), (100002, .box [.p (.list (.named 3)) a1])]⟩) ?_ ?_
          · refine WpC.block ?_
            refine WpC.seq ?_
            obtain ⟨v11, hv11, h⟩ := bind_some h
            refine rgU (st1 := ⟨[(0, .loc 100000 0), (1, .loc 100002 0), (5, .p (.list (.named 3)) v1), (6, .p I6 v5), (7, .p .str v11), (26, .p (.list .str) v4), (27, .p I6 ((v4.length : Int) : Int)), (28, .p I6 v5)], [(100000, .box [.mp 100001]), (100001, .map (.named 3) a0), (100002, .box [.p (.list (.named 3)) a1])]⟩) [0, 1, 5, 6, 7, 26, 27, 28] [100000, 100001, 100002] hN (.cons (mvU (v := .p I6 v5) rfl rfl) (.cons (sok_indexL (U := Un) (rs := [(26, .p (.list .str) v4), (28, .p I6 v5)]) rfl rfl sl_40 o0 o1 hv11) (.cons (sok_loadP (U := Un) (rs := [(31, .pp .str v11)]) rfl rfl ty_9 o0) (.cons (mvA (v := .p I6 v5) rfl rfl) (.cons (mvA (v := .p .str v11) rfl rfl) .nil))))) (by kernel_rfl) (by kernel_rfl) (by kernel_rfl) (cvR _) ?_
            refine tnU ?_
            refine sqJ (fun st' => ∃ v12 : Bool, millwrightlaw02_Shows_m0.j14 k (millwrightlaw02_Shows_m0.l6 k a0 a1 v1 v4 n) a0 a1 v1 v4 v5 v12 = some o7 ∧ st' = ⟨[(0, .loc 100000 0), (1, .loc 100002 0), (5, .p (.list (.named 3)) v1), (26, .p (.list .str) v4), (27, .p I6 ((v4.length : Int) : Int)), (28, .p I6 v5), (59, .p .bool v12)], [(100000, .box [.mp 100001]), (100001, .map (.named 3) a0), (100002, .box [.p (.list (.named 3)) a1])]⟩) ?_ ?_
            · rcases bool_cases (decide (v5 ≥ (v1.length : Int))) with hc15 | hc15
              · replace h := ite_t hc15 h
                refine WpC.regA (U := Un) (st1 := ⟨[(0, .loc 100000 0), (1, .loc 100002 0), (5, .p (.list (.named 3)) v1), (26, .p (.list .str) v4), (27, .p I6 ((v4.length : Int) : Int)), (28, .p I6 v5), (59, .p .bool true)], [(100000, .box [.mp 100001]), (100001, .map (.named 3) a0), (100002, .box [.p (.list (.named 3)) a1])]⟩) [0, 1, 5, 26, 27, 28, 59] [100000, 100001, 100002] [[], [], [1], [0, 1, 2], [0, 1, 2, 3], [0, 1, 2, 3, 4], [0, 1, 2, 3, 4], [0, 1, 2, 3, 4], [0, 1, 2, 3, 4, 6, 7], [0, 1, 2, 3, 4, 6, 7, 8], [0, 1, 2, 3, 4, 6, 7, 8, 9], [0, 1, 2, 3, 4, 5, 6, 7, 8, 9, 10], [0, 1, 2, 3, 4, 5, 6, 7, 8, 9, 10, 11], [0, 1, 2, 3, 4, 5, 6, 7, 8, 9, 10, 11, 12], [0, 1, 2, 3, 4, 5, 6, 7, 8, 9, 10, 11, 12, 13], [0, 1, 2, 3, 4, 5, 6, 7, 8, 9, 10, 11, 12, 13], [0, 1, 2, 3, 4, 5, 6, 7, 8, 9, 10, 11, 12, 13, 14, 15], [0, 1, 2, 3, 4, 5, 6, 7, 8, 9, 10, 11, 12, 13, 14, 15, 16], [0, 1, 2, 3, 4, 5, 6, 7, 8, 9, 10, 11, 12, 13], [0, 1, 2, 3, 4, 5, 6, 7, 8, 9, 10, 11, 12, 13, 18], [0, 1, 2, 3, 4, 5, 6, 7, 8, 9, 10, 11, 12, 13, 18, 19], [0, 1, 2, 3, 4, 5, 6, 7, 8, 9, 10, 11, 12, 13, 18, 19, 20], [0, 1, 2, 3, 4, 5, 6, 7, 8, 9, 10, 11, 12, 13], [0, 1, 2, 3, 4, 5, 6, 7, 8, 9, 10, 11, 12, 13, 18, 19, 20, 21, 22], [0, 1, 2, 3, 4, 5, 6, 7, 8, 9, 10, 11, 12, 13, 18, 19, 20, 21, 22, 23], [0, 1, 2, 3, 4, 5, 6, 7, 8, 9, 10, 11, 12, 13, 14, 15, 16, 17, 18, 19, 20, 21, 22, 23, 24], [0, 1, 2, 3, 4, 5, 6, 7, 8, 9, 10, 11, 12, 13, 14, 15, 16, 17, 18, 19, 20, 21, 22, 23, 24, 25]] mixed hN (.cons (mvU (v := .p I6 v5) rfl rfl) (.cons (mvU (v := .p (.list (.named 3)) v1) rfl rfl) (.cons (sok_lenL (U := Un) (rs := [(34, .p (.list (.named 3)) v1)]) rfl rfl Tryd.underlying22 o0) (.cons (cmU (rs := [(33, .p I6 v5), (35, .p I6 ((v1.length : Int) : Int))]) rfl rfl o0 o1 rfl) (.cons (mvU (v := .p .bool ((decide (v5 ≥ (v1.length : Int))) : Bool)) rfl rfl) (.cons (skU rfl rfl hc15) (.cons (skU rfl rfl hc15) (.cons (skU rfl rfl hc15) (.cons (skU rfl rfl hc15) (.cons (skU rfl rfl hc15) (.cons (skU rfl rfl hc15) (.cons (skU rfl rfl hc15) (.cons (pkT (rs := [(37, .p .bool ((decide (v5 ≥ (v1.length : Int))) : Bool))]) rfl rfl o0 hc15 (.bool _ _)) (.cons (mvU (v := .p .bool true) rfl rfl) (.cons (skU rfl rfl rfl) (.cons (skU rfl rfl rfl) (.cons (skU rfl rfl rfl) (.cons (skU rfl rfl rfl) (.cons (skU rfl rfl rfl) (.cons (skU rfl rfl rfl) (.cons (skU rfl rfl rfl) (.cons (skU rfl rfl rfl) (.cons (skU rfl rfl rfl) (.cons (skU rfl rfl rfl) (.cons (skU rfl rfl rfl) (.cons (skU rfl rfl rfl) (.cons (pkT (rs := [(46, .p .bool true)]) rfl rfl o0 rfl (.bool _ _)) .nil))))))))))))))))))))))))))) (by kernel_rfl) (by kernel_rfl) (by kernel_rfl) (by kernel_rfl) (by kernel_rfl) (cvR _) ?_
                refine tnU ?_
                exact ⟨true, h, rfl⟩
              · replace h := ite_f hc15 h
                obtain ⟨v16, hv16, h⟩ := bind_some h
                rcases bool_cases (!(v11 == v16.f_Name)) with hc17 | hc17
                · replace h := ite_t hc17 h
                  refine WpC.regA (U := Un) (st1 := ⟨[(0, .loc 100000 0), (1, .loc 100002 0), (5, .p (.list (.named 3)) v1), (26, .p (.list .str) v4), (27, .p I6 ((v4.length : Int) : Int)), (28, .p I6 v5), (59, .p .bool true)], [(100000, .box [.mp 100001]), (100001, .map (.named 3) a0), (100002, .box [.p (.list (.named 3)) a1])]⟩) [0, 1, 5, 26, 27, 28, 59] [100000, 100001, 100002] [[], [], [1], [0, 1, 2], [0, 1, 2, 3], [0, 1, 2, 3, 4], [0, 1, 2, 3, 4], [0, 1, 2, 3, 4], [0, 1, 2, 3, 4, 6, 7], [0, 1, 2, 3, 4, 6, 7, 8], [0, 1, 2, 3, 4, 6, 7, 8, 9], [0, 1, 2, 3, 4, 5, 6, 7, 8, 9, 10], [0, 1, 2, 3, 4, 5, 6, 7, 8, 9, 10, 11], [0, 1, 2, 3, 4, 5, 6, 7, 8, 9, 10, 11, 12], [0, 1, 2, 3, 4, 5, 6, 7, 8, 9, 10, 11, 12, 13], [0, 1, 2, 3, 4, 5, 6, 7, 8, 9, 10, 11, 12, 13], [0, 1, 2, 3, 4, 5, 6, 7, 8, 9, 10, 11, 12, 13, 14, 15], [0, 1, 2, 3, 4, 5, 6, 7, 8, 9, 10, 11, 12, 13, 14, 15, 16], [0, 1, 2, 3, 4, 5, 6, 7, 8, 9, 10, 11, 12, 13], [0, 1, 2, 3, 4, 5, 6, 7, 8, 9, 10, 11, 12, 13, 18], [0, 1, 2, 3, 4, 5, 6, 7, 8, 9, 10, 11, 12, 13, 18, 19], [0, 1, 2, 3, 4, 5, 6, 7, 8, 9, 10, 11, 12, 13, 18, 19, 20], [0, 1, 2, 3, 4, 5, 6, 7, 8, 9, 10, 11, 12, 13], [0, 1, 2, 3, 4, 5, 6, 7, 8, 9, 10, 11, 12, 13, 18, 19, 20, 21, 22], [0, 1, 2, 3, 4, 5, 6, 7, 8, 9, 10, 11, 12, 13, 18, 19, 20, 21, 22, 23], [0, 1, 2, 3, 4, 5, 6, 7, 8, 9, 10, 11, 12, 13, 14, 15, 16, 17, 18, 19, 20, 21, 22, 23, 24], [0, 1, 2, 3, 4, 5, 6, 7, 8, 9, 10, 11, 12, 13, 14, 15, 16, 17, 18, 19, 20, 21, 22, 23, 24, 25]] mixed hN (.cons (mvU (v := .p I6 v5) rfl rfl) (.cons (mvU (v := .p (.list (.named 3)) v1) rfl rfl) (.cons (sok_lenL (U := Un) (rs := [(34, .p (.list (.named 3)) v1)]) rfl rfl Tryd.underlying22 o0) (.cons (cmU (rs := [(33, .p I6 v5), (35, .p I6 ((v1.length : Int) : Int))]) rfl rfl o0 o1 rfl) (.cons (mvU (v := .p .bool ((decide (v5 ≥ (v1.length : Int))) : Bool)) rfl rfl) (.cons (sok_run rfl rfl hc15 (mvU (v := .p .str v11) rfl rfl)) (.cons (sok_run rfl rfl hc15 (mvU (v := .p (.list (.named 3)) v1) rfl rfl)) (.cons (sok_run rfl rfl hc15 (mvU (v := .p I6 v5) rfl rfl)) (.cons (sok_run rfl rfl hc15 (sok_indexL (U := Un) (rs := [(39, .p (.list (.named 3)) v1), (40, .p I6 v5)]) rfl rfl sl_22 o0 o1 hv16)) (.cons (sok_run rfl rfl hc15 (sok_fieldP (U := Un) (rs := [(41, .pp (.named 3) v16)]) rfl rfl fd_24_0 (by decide) o0 (.named (.fst (.here _ _))))) (.cons (sok_run rfl rfl hc15 (sok_loadP (U := Un) (rs := [(42, .pp .str v16.f_Name)]) rfl rfl ty_9 o0)) (.cons (sok_run rfl rfl hc15 (sok_cmpS (U := Un) (rs := [(38, .p .str v11), (43, .p .str v16.f_Name)]) rfl rfl o0 o1 rfl)) (.cons (pkF (rs := [(37, .p .bool ((decide (v5 ≥ (v1.length : Int))) : Bool)), (44, .p .bool ((!(v11 == v16.f_Name)) : Bool))]) rfl rfl o0 hc15 o1) (.cons (mvU (v := .p .bool ((!(v11 == v16.f_Name)) : Bool)) rfl rfl) (.cons (skU rfl rfl hc17) (.cons (skU rfl rfl hc17) (.cons (skU rfl rfl hc17) (.cons (skU rfl rfl hc17) (.cons (skU rfl rfl hc17) (.cons (skU rfl rfl hc17) (.cons (skU rfl rfl hc17) (.cons (skU rfl rfl hc17) (.cons (skU rfl rfl hc17) (.cons (skU rfl rfl hc17) (.cons (skU rfl rfl hc17) (.cons (skU rfl rfl hc17) (.cons (pkT (rs := [(46, .p .bool ((!(v11 == v16.f_Name)) : Bool))]) rfl rfl o0 hc17 (.bool _ _)) .nil))))))))))))))))))))))))))) (by kernel_rfl) (by kernel_rfl) (by kernel_rfl) (by kernel_rfl) (by kernel_rfl) (cvR _) ?_
                  refine tnU ?_
                  exact ⟨true, h, rfl⟩
                · replace h := ite_f hc17 h
                  obtain ⟨v18, hv18, h⟩ := bind_some h
                  obtain ⟨v19, hv19, h⟩ := bind_some h
                  refine WpC.regA (U := Un) (st1 := ⟨[(0, .loc 100000 0), (1, .loc 100002 0), (5, .p (.list (.named 3)) v1), (26, .p (.list .str) v4), (27, .p I6 ((v4.length : Int) : Int)), (28, .p I6 v5), (59, .p .bool ((!(v18.f_Name == v19.f_Name && (v18.f_Content == v19.f_Content && (v18.f_Time == v19.f_Time && true)))) : Bool))], [(100000, .box [.mp 100001]), (100001, .map (.named 3) a0), (100002, .box [.p (.list (.named 3)) a1])]⟩) [0, 1, 5, 26, 27, 28, 59] [100000, 100001, 100002] [[], [], [1], [0, 1, 2], [0, 1, 2, 3], [0, 1, 2, 3, 4], [0, 1, 2, 3, 4], [0, 1, 2, 3, 4], [0, 1, 2, 3, 4, 6, 7], [0, 1, 2, 3, 4, 6, 7, 8], [0, 1, 2, 3, 4, 6, 7, 8, 9], [0, 1, 2, 3, 4, 5, 6, 7, 8, 9, 10], [0, 1, 2, 3, 4, 5, 6, 7, 8, 9, 10, 11], [0, 1, 2, 3, 4, 5, 6, 7, 8, 9, 10, 11, 12], [0, 1, 2, 3, 4, 5, 6, 7, 8, 9, 10, 11, 12, 13], [0, 1, 2, 3, 4, 5, 6, 7, 8, 9, 10, 11, 12, 13], [0, 1, 2, 3, 4, 5, 6, 7, 8, 9, 10, 11, 12, 13, 14, 15], [0, 1, 2, 3, 4, 5, 6, 7, 8, 9, 10, 11, 12, 13, 14, 15, 16], [0, 1, 2, 3, 4, 5, 6, 7, 8, 9, 10, 11, 12, 13], [0, 1, 2, 3, 4, 5, 6, 7, 8, 9, 10, 11, 12, 13, 18], [0, 1, 2, 3, 4, 5, 6, 7, 8, 9, 10, 11, 12, 13, 18, 19], [0, 1, 2, 3, 4, 5, 6, 7, 8, 9, 10, 11, 12, 13, 18, 19, 20], [0, 1, 2, 3, 4, 5, 6, 7, 8, 9, 10, 11, 12, 13], [0, 1, 2, 3, 4, 5, 6, 7, 8, 9, 10, 11, 12, 13, 18, 19, 20, 21, 22], [0, 1, 2, 3, 4, 5, 6, 7, 8, 9, 10, 11, 12, 13, 18, 19, 20, 21, 22, 23], [0, 1, 2, 3, 4, 5, 6, 7, 8, 9, 10, 11, 12, 13, 14, 15, 16, 17, 18, 19, 20, 21, 22, 23, 24], [0, 1, 2, 3, 4, 5, 6, 7, 8, 9, 10, 11, 12, 13, 14, 15, 16, 17, 18, 19, 20, 21, 22, 23, 24, 25]] mixed hN (.cons (mvU (v := .p I6 v5) rfl rfl) (.cons (mvU (v := .p (.list (.named 3)) v1) rfl rfl) (.cons (sok_lenL (U := Un) (rs := [(34, .p (.list (.named 3)) v1)]) rfl rfl Tryd.underlying22 o0) (.cons (cmU (rs := [(33, .p I6 v5), (35, .p I6 ((v1.length : Int) : Int))]) rfl rfl o0 o1 rfl) (.cons (mvU (v := .p .bool ((decide (v5 ≥ (v1.length : Int))) : Bool)) rfl rfl) (.cons (sok_run rfl rfl hc15 (mvU (v := .p .str v11) rfl rfl)) (.cons (sok_run rfl rfl hc15 (mvU (v := .p (.list (.named 3)) v1) rfl rfl)) (.cons (sok_run rfl rfl hc15 (mvU (v := .p I6 v5) rfl rfl)) (.cons (sok_run rfl rfl hc15 (sok_indexL (U := Un) (rs := [(39, .p (.list (.named 3)) v1), (40, .p I6 v5)]) rfl rfl sl_22 o0 o1 hv16)) (.cons (sok_run rfl rfl hc15 (sok_fieldP (U := Un) (rs := [(41, .pp (.named 3) v16)]) rfl rfl fd_24_0 (by decide) o0 (.named (.fst (.here _ _))))) (.cons (sok_run rfl rfl hc15 (sok_loadP (U := Un) (rs := [(42, .pp .str v16.f_Name)]) rfl rfl ty_9 o0)) (.cons (sok_run rfl rfl hc15 (sok_cmpS (U := Un) (rs := [(38, .p .str v11), (43, .p .str v16.f_Name)]) rfl rfl o0 o1 rfl)) (.cons (pkF (rs := [(37, .p .bool ((decide (v5 ≥ (v1.length : Int))) : Bool)), (44, .p .bool ((!(v11 == v16.f_Name)) : Bool))]) rfl rfl o0 hc15 o1) (.cons (mvU (v := .p .bool ((!(v11 == v16.f_Name)) : Bool)) rfl rfl) (.cons (sok_run rfl rfl hc17 (mvU (v := .p (.list (.named 3)) v1) rfl rfl)) (.cons (sok_run rfl rfl hc17 (mvU (v := .p I6 v5) rfl rfl)) (.cons (sok_run rfl rfl hc17 (sok_indexL (U := Un) (rs := [(47, .p (.list (.named 3)) v1), (48, .p I6 v5)]) rfl rfl sl_22 o0 o1 hv18)) (.cons (sok_run rfl rfl hc17 (sok_loadP (U := Un) (rs := [(49, .pp (.named 3) v18)]) rfl rfl ty_24 o0)) (.cons (sok_run rfl rfl hc17 (mvU (v := .loc 100002 0) rfl rfl)) (.cons (sok_run rfl rfl hc17 (nlU (rs := [(51, .loc 100002 0)]) rfl rfl o0 rfl)) (.cons (sok_run rfl rfl hc17 (fdB (rs := [(52, .loc 100002 0)]) rfl rfl fd_47_0 (by decide) o0)) (.cons (sok_run rfl rfl hc17 (ldB (t := .list (.named 3)) (rs := [(53, .loc 100002 0)]) [] [.p (.list (.named 3)) a1] [] (v := .p (.list (.named 3)) a1) rfl rfl ty_45 o0 rfl rfl rfl rfl (.data (.one _ _)))) (.cons (sok_run rfl rfl hc17 (mvU (v := .p I6 v5) rfl rfl)) (.cons (sok_run rfl rfl hc17 (sok_indexL (U := Un) (rs := [(54, .p (.list (.named 3)) a1), (55, .p I6 v5)]) rfl rfl sl_45 o0 o1 hv19)) (.cons (sok_run rfl rfl hc17 (sok_loadP (U := Un) (rs := [(56, .pp (.named 3) v19)]) rfl rfl ty_50 o0)) (.cons (sok_run rfl rfl hc17 (sok_neS (U := Un) (rs := [(50, .p (.named 3) v18), (57, .p (.named 3) v19)]) rfl rfl Tryd.underlying50 (by kernel_rfl) (eqf_50 _ Tryd.underlying50) (by kernel_rfl) o0 o1)) (.cons (pkF (rs := [(46, .p .bool ((!(v11 == v16.f_Name)) : Bool)), (58, .p .bool ((!(v18.f_Name == v19.f_Name && (v18.f_Content == v19.f_Content && (v18.f_Time == v19.f_Time && true)))) : Bool))]) rfl rfl o0 hc17 o1) .nil))))))))))))))))))))))))))) (by kernel_rfl) (by kernel_rfl) (by kernel_rfl) (by kernel_rfl) (by kernel_rfl) (cvR _) ?_
                  refine tnU ?_
                  exact ⟨(!(v18.f_Name == v19.f_Name && (v18.f_Content == v19.f_Content && (v18.f_Time == v19.f_Time && true)))), h, rfl⟩
            · rintro _ ⟨v12, h, rfl⟩
              unfold millwrightlaw02_Shows_m0.j14 at h
              refine cdU (b := v12) (.tmp (.tail _ (.tail _ (.tail _ (.tail _ (.tail _ (.tail _ (.head _)))))))) (fun hc13 => ?_) (fun hc13 => ?_)
              · replace h := ite_t hc13 h
                refine WpC.seq ?_
                refine rgU (st1 := ⟨[(4, .p .bool false)], [(100000, .box [.mp 100001]), (100001, .map (.named 3) a0), (100002, .box [.p (.list (.named 3)) a1])]⟩) [4] [100000, 100001, 100002] hN (.cons (moU (rs := []) rfl (.inr rfl) (.bool _ _)) .nil) (by kernel_rfl) (by kernel_rfl) (by kernel_rfl) (cvR _) ?_
                refine tnU ?_
                refine WpC.ret ?_
                refine blockQ_ret ?_
                refine thenQ_ret ?_
                have hq := Option.some.inj h
                subst hq
                refine thenQ_ret ?_
                have h := hout8
                refine blockQ_ret ?_
                refine thenQ_ret ?_
                have hq := Option.some.inj h
                subst hq
                exact ends_ret (retV_1 rfl (.head _)) (ain_cons (.head _) (ain_cons (.tail _ (.head _)) (ain_cons (.tail _ (.tail _ (.head _))) ain_nil)))
              · replace h := ite_f hc13 h
                refine WpC.conv (cvK (b := ⟨[(0, .loc 100000 0), (1, .loc 100002 0), (5, .p (.list (.named 3)) v1), (26, .p (.list .str) v4), (27, .p I6 ((v4.length : Int) : Int)), (28, .p I6 v5)], [(100000, .box [.mp 100001]), (100001, .map (.named 3) a0), (100002, .box [.p (.list (.named 3)) a1])]⟩) [0, 1, 5, 26, 27, 28] [100000, 100001, 100002] (by kernel_rfl)) (WpC.skip ?_)
                refine blockQ_normal ?_
                refine tnU ?_
                exact ⟨h, rfl⟩
          · rintro _ ⟨h, rfl⟩
            unfold millwrightlaw02_Shows_m0.j10 at h
            refine rgU (st1 := ⟨[(0, .loc 100000 0), (1, .loc 100002 0), (5, .p (.list (.named 3)) v1), (26, .p (.list .str) v4), (27, .p I6 ((v4.length : Int) : Int)), (28, .p I6 ((IntKind.i64.wrap (v5 + 1)) : Int))], [(100000, .box [.mp 100001]), (100001, .map (.named 3) a0), (100002, .box [.p (.list (.named 3)) a1])]⟩) [0, 1, 5, 26, 27, 28] [100000, 100001, 100002] hN (.cons (sok_arith (U := Un) (rs := [(28, .p I6 v5)]) rfl rfl o0 (.int _ _ _) rfl) (.cons (mvU (v := .p I6 ((IntKind.i64.wrap (v5 + 1)) : Int)) rfl rfl) .nil)) (by kernel_rfl) (by kernel_rfl) (by kernel_rfl) (cvR _) ?_
            refine tnU ?_
            exact ⟨n, Nat.lt_succ_self n, (IntKind.i64.wrap (v5 + 1)), h, rfl⟩
        · replace h := ite_f hc9 h
          refine WpC.conv (cvK (b := ⟨[(0, .loc 100000 0), (5, .p (.list (.named 3)) v1)], [(100000, .box [.mp 100001]), (100001, .map (.named 3) a0), (100002, .box [.p (.list (.named 3)) a1])]⟩) [0, 5] [100000, 100001, 100002] (by kernel_rfl)) (WpC.exit ?_)
          refine thenQ_exit ?_
          have hq := Option.some.inj h
          subst hq
          refine thenQ_exit ?_
          have h := hout8
          refine blockQ_hit ?_
          refine tnU ?_
          exact ⟨h, rfl⟩
    · rintro _ ⟨h, rfl⟩
      unfold millwrightlaw02_Shows_m0.j3 at h
      refine WpC.seq ?_
      obtain ⟨v2, hv2, h⟩ := bind_some h
      refine rgU (st1 := ⟨[(4, .p .bool (((v2.length : Int) == (v1.length : Int)) : Bool))], [(100000, .box [.mp 100001]), (100001, .map (.named 3) a0), (100002, .box [.p (.list (.named 3)) a1])]⟩) [4] [100000, 100001, 100002] hN (.cons (mvU (v := .loc 100000 0) rfl rfl) (.cons (caV (rs := [(61, .loc 100000 0)]) (vw := []) rfl rfl (.func _) hb_17 (COk.ren (tree_Tree_Names_m0.ok O hO k a0 v2 hv2) (fun n => if n = 100000 then 100000 else if n = 100001 then 100001 else n) (injOn_of (by kernel_rfl))) (.cons o0 .nil) (.cons (.same _) .nil) (by simp) (.inl rfl)) (.cons (sok_lenL (U := Un) (rs := [(62, .p (.list .str) v2)]) rfl rfl Tryd.underlying40 o0) (.cons (mvU (v := .p (.list (.named 3)) v1) rfl rfl) (.cons (sok_lenL (U := Un) (rs := [(64, .p (.list (.named 3)) v1)]) rfl rfl Tryd.underlying22 o0) (.cons (cmU (rs := [(63, .p I6 ((v2.length : Int) : Int)), (65, .p I6 ((v1.length : Int) : Int))]) rfl rfl o0 o1 rfl) (.cons (mvA (v := .p .bool (((v2.length : Int) == (v1.length : Int)) : Bool)) rfl rfl) .nil))))))) (by kernel_rfl) (by kernel_rfl) (by kernel_rfl) (cvR _) ?_
      refine tnU ?_
      refine WpC.ret ?_
      have hq := Option.some.inj h
      subst hq
      exact ends_ret (retV_1 rfl (.head _)) (ain_cons (.head _) (ain_cons (.tail _ (.head _)) (ain_cons (.tail _ (.tail _ (.head _))) ain_nil)))

end Go.Proofs.YtkdpaglpieamgaaDoor
