/- A part of the proof of a given law: TPC2. Own work, printed in part by a program of mine. -/
import Derived.Test.YtkdpaglpieamgaaDoorK7TPC1
namespace Go.Proofs.YtkdpaglpieamgaaDoor
open Go Go.AM
set_option linter.unusedVariables false
set_option linter.unusedSimpArgs false
set_option maxRecDepth 100000
theorem millwrightref02_Tree_Touch_m0.ok (O : Out) (hO : GOk O) (k : Nat) (a0 : List T_tree_File) (a1 : List UInt8) (a2 : Int) (out : Int × (List T_tree_File)) (h : millwrightref02_Tree_Touch_m0.f k a0 a1 a2 = some out) : COk Un O Tryd.prog 21 { ar := [.loc 100000 0, .p .str a1, .p I6 a2], r := .p I6 out.1, bs := [(100000, .box [.p (.list (.named 3)) a0])], bs' := [(100000, .box [.p (.list (.named 3)) out.2])] } := by
  refine cok_of_wp Tryd.func21 rfl (k := 29) rfl (Nat.le_of_ble_eq_true rfl) (namesOk_of (by kernel_rfl)) ?_
  intro B hN
  refine WpC.conv (cvK (b := ⟨[(0, .loc 100000 0), (1, .p .str a1), (2, .p I6 a2)], [(100000, .box [.p (.list (.named 3)) a0])]⟩) [0, 1, 2] [100000] (by kernel_rfl)) ?_
  unfold millwrightref02_Tree_Touch_m0.f at h
  refine WpC.seq ?_
  refine rgU (st1 := ⟨[(0, .loc 100000 0), (1, .p .str a1), (2, .p I6 a2)], [(100000, .box [.p (.list (.named 3)) a0])]⟩) [0, 1, 2] [100000] hN (.cons (moU (rs := []) rfl (.inr rfl) (.int _ _ _)) .nil) (by kernel_rfl) (by kernel_rfl) (by kernel_rfl) (cvR _) ?_
  refine tnU ?_
  refine WpC.seq ?_
  refine rgU (st1 := ⟨[(0, .loc 100000 0), (1, .p .str a1), (7, .loc 7 0)], [(7, .box [.p .str a1, .p .str ([] : List UInt8), .p I6 a2]), (100000, .box [.p (.list (.named 3)) a0])]⟩) [0, 1, 7] [7, 100000] hN (.cons (mvU (v := .p .str a1) rfl rfl) (.cons (mvU (v := .p I6 a2) rfl rfl) (.cons (sok_build (U := Un) (t := .named 3) (rs := [(9, .p .str a1), (10, .p I6 a2)]) (us0 := [.p .str ([] : List UInt8), .p .str ([] : List UInt8), .p I6 (0 : Int)]) (us := [.p .str a1, .p .str ([] : List UInt8), .p I6 a2]) (v := .p (.named 3) ((T_tree_File.mk a1 [] a2) : T_tree_File)) rfl rfl lays_50 (.data (fun _ _ _ => rd_str0) (.data (fun _ _ _ => rd_str0) (.data (fun _ _ _ => .int _ _) .nil))) (Filled.cons (U := Un) (i := 0) (v := .p .str a1) [] [.p .str ([] : List UInt8)] [.p .str a1] [.p .str ([] : List UInt8), .p I6 (0 : Int)] o0 (.data (.one _ _)) rfl rfl rfl rfl rfl rfl (Filled.cons (U := Un) (i := 2) (v := .p I6 a2) [.p .str a1, .p .str ([] : List UInt8)] [.p I6 (0 : Int)] [.p I6 a2] [] o1 (.data (.one _ _)) rfl rfl rfl rfl rfl rfl (.nil _))) rfl (.data (.named (us := ([.p .str a1, .p .str ([] : List UInt8), .p I6 a2] : List (AVal Un))) (.pair (.one _ _) (.pair (.one _ _) (.pair (.one _ _) .unit)))))) (.cons (sok_allocZ (U := Un) (rs := []) (d := 7) (us := [.p .str ([] : List UInt8), .p .str ([] : List UInt8), .p I6 (0 : Int)]) (v := (.agg #[.string ByteArray.empty, .string ByteArray.empty, .int .i64 0])) rfl rfl rfl (by kernel_rfl) rfl (.data (fun _ _ _ => rd_str0) (.data (fun _ _ _ => rd_str0) (.data (fun _ _ _ => .int _ _) .nil))) (by kernel_rfl)) (.cons (sok_storeB (U := Un) (rs := [(7, .loc 7 0), (11, .p (.named 3) ((T_tree_File.mk a1 [] a2) : T_tree_File))]) (v := .p (.named 3) ((T_tree_File.mk a1 [] a2) : T_tree_File)) (mid' := [.p .str a1, .p .str ([] : List UInt8), .p I6 a2]) [] [.p .str ([] : List UInt8), .p .str ([] : List UInt8), .p I6 (0 : Int)] [] rfl rfl rfl ty_50 o0 o1 (.data (.named (us := ([.p .str a1, .p .str ([] : List UInt8), .p I6 a2] : List (AVal Un))) (.pair (.one _ _) (.pair (.one _ _) (.pair (.one _ _) .unit))))) rfl rfl rfl rfl rfl rfl) .nil))))) (by kernel_rfl) (by kernel_rfl) (by kernel_rfl) (cvR _) ?_
  refine tnU ?_
  refine sqJ (fun st' => ∃ v1 : List UInt8, millwrightref02_Tree_Touch_m0.j3 k a0 a1 a2 v1 = some out ∧ st' = ⟨[(0, .loc 100000 0), (7, .loc 7 0)], [(7, .box [.p .str a1, .p .str v1, .p I6 a2]), (100000, .box [.p (.list (.named 3)) a0])]⟩) ?_ ?_
  · refine WpC.seq ?_
    obtain ⟨v4, hv4, h⟩ := bind_some h
    refine rgU (st1 := ⟨[(0, .loc 100000 0), (7, .loc 7 0), (8, .p I6 v4)], [(7, .box [.p .str a1, .p .str ([] : List UInt8), .p I6 a2]), (100000, .box [.p (.list (.named 3)) a0])]⟩) [0, 7, 8] [7, 100000] hN (.cons (mvU (v := .loc 100000 0) rfl rfl) (.cons (mvU (v := .p .str a1) rfl rfl) (.cons (caV (rs := [(12, .loc 100000 0), (13, .p .str a1)]) (vw := []) rfl rfl (.func _) hb_23 (COk.ren (millwrightref02_Tree_At_m0.ok O hO k a0 a1 v4 hv4) (fun n => if n = 100000 then 100000 else n) (injOn_of (by kernel_rfl))) (.cons o0 (.cons o1 .nil)) (.cons (.same _) (.cons (.same _) .nil)) (by simp) (.inl rfl)) (.cons (mvA (v := .p I6 v4) rfl rfl) .nil)))) (by kernel_rfl) (by kernel_rfl) (by kernel_rfl) (cvR _) ?_
    refine tnU ?_
    refine WpC.seq ?_
    refine rgU (st1 := ⟨[(0, .loc 100000 0), (7, .loc 7 0), (8, .p I6 v4), (16, .p .bool ((decide (v4 ≥ 0)) : Bool))], [(7, .box [.p .str a1, .p .str ([] : List UInt8), .p I6 a2]), (100000, .box [.p (.list (.named 3)) a0])]⟩) [0, 7, 8, 16] [7, 100000] hN (.cons (mvU (v := .p I6 v4) rfl rfl) (.cons (cmU (rs := [(15, .p I6 v4)]) rfl rfl o0 (.int _ _ _) rfl) .nil)) (by kernel_rfl) (by kernel_rfl) (by kernel_rfl) (cvR _) ?_
    refine tnU ?_
    refine cdU (b := (decide (v4 ≥ 0))) (.tmp (.tail _ (.tail _ (.tail _ (.head _))))) (fun hc5 => ?_) (fun hc5 => ?_)
    · replace h := ite_t hc5 h
      obtain ⟨v6, hv6, h⟩ := bind_some h
      refine rgU (st1 := ⟨[(0, .loc 100000 0), (7, .loc 7 0)], [(7, .box [.p .str a1, .p .str v6.f_Content, .p I6 a2]), (100000, .box [.p (.list (.named 3)) a0])]⟩) [0, 7] [7, 100000] hN (.cons (mvU (v := .loc 100000 0) rfl rfl) (.cons (nlU (rs := [(17, .loc 100000 0)]) rfl rfl o0 rfl) (.cons (fdB (rs := [(18, .loc 100000 0)]) rfl rfl fd_47_0 (by decide) o0) (.cons (ldB (t := .list (.named 3)) (rs := [(19, .loc 100000 0)]) [] [.p (.list (.named 3)) a0] [] (v := .p (.list (.named 3)) a0) rfl rfl ty_45 o0 rfl rfl rfl rfl (.data (.one _ _))) (.cons (mvU (v := .p I6 v4) rfl rfl) (.cons (sok_indexL (U := Un) (rs := [(20, .p (.list (.named 3)) a0), (21, .p I6 v4)]) rfl rfl sl_45 o0 o1 hv6) (.cons (sok_fieldP (U := Un) (rs := [(22, .pp (.named 3) v6)]) rfl rfl fd_50_1 (by decide) o0 (.named (.snd (.fst (.here _ _)) rfl))) (.cons (sok_loadP (U := Un) (rs := [(23, .pp .str v6.f_Content)]) rfl rfl ty_9 o0) (.cons (fdB (rs := [(7, .loc 7 0)]) rfl rfl fd_50_1 (by decide) o0) (.cons (sok_storeB (U := Un) (rs := [(25, .loc 7 1), (24, .p .str v6.f_Content)]) (v := .p .str v6.f_Content) (mid' := [.p .str v6.f_Content]) [.p .str a1] [.p .str ([] : List UInt8)] [.p I6 a2] rfl rfl rfl ty_9 o0 o1 (.data (.one _ _)) rfl rfl rfl rfl rfl rfl) .nil)))))))))) (by kernel_rfl) (by kernel_rfl) (by kernel_rfl) (cvR _) ?_
      refine tnU ?_
      exact ⟨v6.f_Content, h, rfl⟩
    · replace h := ite_f hc5 h
      refine WpC.conv (cvK (b := ⟨[(0, .loc 100000 0), (7, .loc 7 0)], [(7, .box [.p .str a1, .p .str ([] : List UInt8), .p I6 a2]), (100000, .box [.p (.list (.named 3)) a0])]⟩) [0, 7] [7, 100000] (by kernel_rfl)) (WpC.skip ?_)
      refine tnU ?_
      exact ⟨[], h, rfl⟩
  · rintro _ ⟨v1, h, rfl⟩
    unfold millwrightref02_Tree_Touch_m0.j3 at h
    refine WpC.seq ?_
    obtain ⟨v2, hv2, h⟩ := bind_some h
    refine rgU (st1 := ⟨[(6, .p I6 v2.1)], [(100000, .box [.p (.list (.named 3)) v2.2])]⟩) [6] [100000] hN (.cons (mvU (v := .loc 100000 0) rfl rfl) (.cons (ldB (t := .named 3) (rs := [(7, .loc 7 0)]) [] [.p .str a1, .p .str v1, .p I6 a2] [] (v := .p (.named 3) ((T_tree_File.mk a1 v1 a2) : T_tree_File)) rfl rfl ty_50 o0 rfl rfl rfl rfl (.data (.named (us := ([.p .str a1, .p .str v1, .p I6 a2] : List (AVal Un))) (.pair (.one _ _) (.pair (.one _ _) (.pair (.one _ _) .unit)))))) (.cons (caV (rs := [(26, .loc 100000 0), (27, .p (.named 3) ((T_tree_File.mk a1 v1 a2) : T_tree_File))]) (vw := []) rfl rfl (.func _) hb_20 (COk.ren (millwrightref02_Tree_Put_m0.ok O hO k a0 (T_tree_File.mk a1 v1 a2) v2 hv2) (fun n => if n = 100000 then 100000 else n) (injOn_of (by kernel_rfl))) (.cons o0 (.cons o1 .nil)) (.cons (.same _) (.cons (.same _) .nil)) (by simp) (.inl rfl)) (.cons (mvA (v := .p I6 v2.1) rfl rfl) .nil)))) (by kernel_rfl) (by kernel_rfl) (by kernel_rfl) (cvR _) ?_
    refine tnU ?_
    refine WpC.ret ?_
    have hq := Option.some.inj h
    subst hq
    exact ends_ret (retV_1 rfl (.head _)) (ain_cons (.head _) ain_nil)

theorem tree_Tree_Remove_m0.ok (O : Out) (hO : GOk O) (k : Nat) (a0 : List ((List UInt8) × T_tree_File)) (a1 : List UInt8) (out : Nat × (List ((List UInt8) × T_tree_File))) (h : tree_Tree_Remove_m0.f k a0 a1 = some out) : COk Un O Tryd.prog 15 { ar := [.loc 100000 0, .p .str a1], r := .p .err out.1, bs := [(100000, .box [.mp 100001]), (100001, .map (.named 3) a0)], bs' := [(100000, .box [.mp 100001]), (100001, .map (.named 3) out.2)] } := by
  refine cok_of_wp Tryd.func15 rfl (k := 24) rfl (Nat.le_of_ble_eq_true rfl) (namesOk_of (by kernel_rfl)) ?_
  intro B hN
  refine WpC.conv (cvK (b := ⟨[(0, .loc 100000 0), (1, .p .str a1)], [(100000, .box [.mp 100001]), (100001, .map (.named 3) a0)]⟩) [0, 1] [100000, 100001] (by kernel_rfl)) ?_
  unfold tree_Tree_Remove_m0.f at h
  refine WpC.seq ?_
  refine rgU (st1 := ⟨[(0, .loc 100000 0), (1, .p .str a1)], [(100000, .box [.mp 100001]), (100001, .map (.named 3) a0)]⟩) [0, 1] [100000, 100001] hN (.cons (moU (rs := []) rfl (.inr rfl) (.lit _ _ rfl)) .nil) (by kernel_rfl) (by kernel_rfl) (by kernel_rfl) (cvR _) ?_
  refine tnU ?_
  refine WpC.seq ?_
  refine WpC.seq ?_
  refine rgU (st1 := ⟨[(0, .loc 100000 0), (1, .p .str a1), (6, .p .bool ((mget a1 a0).isSome : Bool))], [(100000, .box [.mp 100001]), (100001, .map (.named 3) a0)]⟩) [0, 1, 6] [100000, 100001] hN (.cons (mvU (v := .loc 100000 0) rfl rfl) (.cons (nlU (rs := [(8, .loc 100000 0)]) rfl rfl o0 rfl) (.cons (fdB (rs := [(9, .loc 100000 0)]) rfl rfl fd_89_0 (by decide) o0) (.cons (ldB (t := .bool) (rs := [(10, .loc 100000 0)]) [] [.mp 100001] [] (v := .mp 100001) rfl rfl ty1_86 o0 rfl rfl rfl rfl (.hand rfl rfl)) (.cons (mvU (v := .p .str a1) rfl rfl) (.cons (sok_lookup2 (U := Un) (t := .named 3) (kvs := a0) (rs := [(11, .mp 100001), (12, .p .str a1)]) rfl rfl map_86 zv_24 o0 o1) (.cons (mvU (v := .tup [.p (.named 3) (((mget a1 a0).getD (T_tree_File.mk [] [] 0)) : T_tree_File), .p .bool ((mget a1 a0).isSome : Bool)]) rfl rfl) (.cons (exU (rs := [(7, .tup [.p (.named 3) (((mget a1 a0).getD (T_tree_File.mk [] [] 0)) : T_tree_File), .p .bool ((mget a1 a0).isSome : Bool)])]) rfl rfl o0 rfl) (.cons (exU (rs := [(7, .tup [.p (.named 3) (((mget a1 a0).getD (T_tree_File.mk [] [] 0)) : T_tree_File), .p .bool ((mget a1 a0).isSome : Bool)])]) rfl rfl o0 rfl) (.cons (sok_allocZ (U := Un) (rs := []) (d := 5) (us := [.p .str ([] : List UInt8), .p .str ([] : List UInt8), .p I6 (0 : Int)]) (v := (.agg #[.string ByteArray.empty, .string ByteArray.empty, .int .i64 0])) rfl rfl rfl (by kernel_rfl) rfl (.data (fun _ _ _ => rd_str0) (.data (fun _ _ _ => rd_str0) (.data (fun _ _ _ => .int _ _) .nil))) (by kernel_rfl)) (.cons (sok_storeB (U := Un) (rs := [(5, .loc 5 0), (14, .p (.named 3) (((mget a1 a0).getD (T_tree_File.mk [] [] 0)) : T_tree_File))]) (v := .p (.named 3) (((mget a1 a0).getD (T_tree_File.mk [] [] 0)) : T_tree_File)) (mid' := [.p .str (((mget a1 a0).getD (T_tree_File.mk [] [] 0)).f_Name : List UInt8), .p .str (((mget a1 a0).getD (T_tree_File.mk [] [] 0)).f_Content : List UInt8), .p I6 (((mget a1 a0).getD (T_tree_File.mk [] [] 0)).f_Time : Int)]) [] [.p .str ([] : List UInt8), .p .str ([] : List UInt8), .p I6 (0 : Int)] [] rfl rfl rfl ty_24 o0 o1 (.data (.named (us := ([.p .str (((mget a1 a0).getD (T_tree_File.mk [] [] 0)).f_Name : List UInt8), .p .str (((mget a1 a0).getD (T_tree_File.mk [] [] 0)).f_Content : List UInt8), .p I6 (((mget a1 a0).getD (T_tree_File.mk [] [] 0)).f_Time : Int)] : List (AVal Un))) (.pair (.one _ _) (.pair (.one _ _) (.pair (.one _ _) .unit))))) rfl rfl rfl rfl rfl rfl) (.cons (mvA (v := .p .bool ((mget a1 a0).isSome : Bool)) rfl rfl) .nil)))))))))))) (by kernel_rfl) (by kernel_rfl) (by kernel_rfl) (cvR _) ?_
  refine tnU ?_
  refine WpC.seq ?_
  refine rgU (st1 := ⟨[(0, .loc 100000 0), (1, .p .str a1), (17, .p .bool ((!((mget a1 a0).isSome)) : Bool))], [(100000, .box [.mp 100001]), (100001, .map (.named 3) a0)]⟩) [0, 1, 17] [100000, 100001] hN (.cons (mvU (v := .p .bool ((mget a1 a0).isSome : Bool)) rfl rfl) (.cons (sok_not (U := Un) (rs := [(16, .p .bool ((mget a1 a0).isSome : Bool))]) rfl rfl o0) .nil)) (by kernel_rfl) (by kernel_rfl) (by kernel_rfl) (cvR _) ?_
  refine tnU ?_
  refine cdU (b := (!((mget a1 a0).isSome))) (.tmp (.tail _ (.tail _ (.head _)))) (fun hc1 => ?_) (fun hc1 => ?_)
  · replace h := ite_t hc1 h
    refine WpC.seq ?_
    refine rgU (st1 := ⟨[(4, .p .err (8 : Nat))], [(100000, .box [.mp 100001]), (100001, .map (.named 3) a0)]⟩) [4] [100000, 100001] hN (.cons (sok_loadG (U := Un) (t := .err) (rs := []) rfl rfl ty_31 rfl rfl (hO.var 7 1 rfl) (fun S w => .err 7)) (.cons (mvA (v := .p .err (8 : Nat)) rfl rfl) .nil)) (by kernel_rfl) (by kernel_rfl) (by kernel_rfl) (cvR _) ?_
    refine tnU ?_
    refine WpC.ret ?_
    refine thenQ_ret ?_
    have hq := Option.some.inj h
    subst hq
    exact ends_ret (retV_1 rfl (.head _)) (ain_cons (.head _) (ain_cons (.tail _ (.head _)) ain_nil))
  · replace h := ite_f hc1 h
    refine WpC.conv (cvK (b := ⟨[(0, .loc 100000 0), (1, .p .str a1)], [(100000, .box [.mp 100001]), (100001, .map (.named 3) a0)]⟩) [0, 1] [100000, 100001] (by kernel_rfl)) (WpC.skip ?_)
    refine tnU ?_
    refine WpC.seq ?_
    refine rgU (st1 := ⟨[], [(100000, .box [.mp 100001]), (100001, .map (.named 3) ((mdel a1 a0) : List ((List UInt8) × T_tree_File)))]⟩) [] [100000, 100001] hN (.cons (mvU (v := .loc 100000 0) rfl rfl) (.cons (nlU (rs := [(19, .loc 100000 0)]) rfl rfl o0 rfl) (.cons (fdB (rs := [(20, .loc 100000 0)]) rfl rfl fd_89_0 (by decide) o0) (.cons (ldB (t := .bool) (rs := [(21, .loc 100000 0)]) [] [.mp 100001] [] (v := .mp 100001) rfl rfl ty1_86 o0 rfl rfl rfl rfl (.hand rfl rfl)) (.cons (mvU (v := .p .str a1) rfl rfl) (.cons (sok_delete (U := Un) (t := .named 3) (kvs := a0) (rs := [(22, .mp 100001), (23, .p .str a1)]) rfl rfl map_86 o0 o1) .nil)))))) (by kernel_rfl) (by kernel_rfl) (by kernel_rfl) (cvR _) ?_
    refine tnU ?_
    refine WpC.seq ?_
    refine rgU (st1 := ⟨[(4, .lit .nilIface)], [(100000, .box [.mp 100001]), (100001, .map (.named 3) ((mdel a1 a0) : List ((List UInt8) × T_tree_File)))]⟩) [4] [100000, 100001] hN (.cons (moU (rs := []) rfl (.inr rfl) (.lit _ _ rfl)) .nil) (by kernel_rfl) (by kernel_rfl) (by kernel_rfl) (cvR _) ?_
    refine tnU ?_
    refine WpC.conv (cvT (Conv.nilE (U := Un) 4 (.head _)) (cvK (b := ⟨[(4, .p .err (0 : Nat))], [(100000, .box [.mp 100001]), (100001, .map (.named 3) ((mdel a1 a0) : List ((List UInt8) × T_tree_File)))]⟩) [4] [100000, 100001] (by kernel_rfl))) (WpC.ret ?_)
    have hq := Option.some.inj h
    subst hq
    exact ends_ret (retV_1 rfl (.head _)) (ain_cons (.head _) (ain_cons (.tail _ (.head _)) ain_nil))

theorem millwrightref02_Tree_Remove_m0.ok (O : Out) (hO : GOk O) (k : Nat) (a0 : List T_tree_File) (a1 : List UInt8) (out : Int × (List T_tree_File)) (h : millwrightref02_Tree_Remove_m0.f k a0 a1 = some out) : COk Un O Tryd.prog 22 { ar := [.loc 100000 0, .p .str a1], r := .p I6 out.1, bs := [(100000, .box [.p (.list (.named 3)) a0])], bs' := [(100000, .box [.p (.list (.named 3)) out.2])] } := by
  refine cok_of_wp Tryd.func22 rfl (k := 30) rfl (Nat.le_of_ble_eq_true rfl) (namesOk_of (by kernel_rfl)) ?_
  intro B hN
  refine WpC.conv (cvK (b := ⟨[(0, .loc 100000 0), (1, .p .str a1)], [(100000, .box [.p (.list (.named 3)) a0])]⟩) [0, 1] [100000] (by kernel_rfl)) ?_
  unfold millwrightref02_Tree_Remove_m0.f at h
  refine WpC.seq ?_
  refine rgU (st1 := ⟨[(0, .loc 100000 0), (1, .p .str a1)], [(100000, .box [.p (.list (.named 3)) a0])]⟩) [0, 1] [100000] hN (.cons (moU (rs := []) rfl (.inr rfl) (.int _ _ _)) .nil) (by kernel_rfl) (by kernel_rfl) (by kernel_rfl) (cvR _) ?_
  refine tnU ?_
  refine WpC.seq ?_
  obtain ⟨v1, hv1, h⟩ := bind_some h
  refine rgU (st1 := ⟨[(0, .loc 100000 0), (5, .p I6 v1)], [(100000, .box [.p (.list (.named 3)) a0])]⟩) [0, 5] [100000] hN (.cons (mvU (v := .loc 100000 0) rfl rfl) (.cons (mvU (v := .p .str a1) rfl rfl) (.cons (caV (rs := [(6, .loc 100000 0), (7, .p .str a1)]) (vw := []) rfl rfl (.func _) hb_23 (COk.ren (millwrightref02_Tree_At_m0.ok O hO k a0 a1 v1 hv1) (fun n => if n = 100000 then 100000 else n) (injOn_of (by kernel_rfl))) (.cons o0 (.cons o1 .nil)) (.cons (.same _) (.cons (.same _) .nil)) (by simp) (.inl rfl)) (.cons (mvA (v := .p I6 v1) rfl rfl) .nil)))) (by kernel_rfl) (by kernel_rfl) (by kernel_rfl) (cvR _) ?_
  refine tnU ?_
  refine WpC.seq ?_
  refine WpC.seq ?_
  refine rgU (st1 := ⟨[(0, .loc 100000 0), (5, .p I6 v1), (10, .p .bool ((decide (v1 < 0)) : Bool))], [(100000, .box [.p (.list (.named 3)) a0])]⟩) [0, 5, 10] [100000] hN (.cons (mvU (v := .p I6 v1) rfl rfl) (.cons (cmU (rs := [(9, .p I6 v1)]) rfl rfl o0 (.int _ _ _) rfl) .nil)) (by kernel_rfl) (by kernel_rfl) (by kernel_rfl) (cvR _) ?_
  refine tnU ?_
  refine cdU (b := (decide (v1 < 0))) (.tmp (.tail _ (.tail _ (.head _)))) (fun hc2 => ?_) (fun hc2 => ?_)
  · replace h := ite_t hc2 h
    refine WpC.seq ?_
    refine rgU (st1 := ⟨[(4, .p I6 (8 : Int))], [(100000, .box [.p (.list (.named 3)) a0])]⟩) [4] [100000] hN (.cons (moU (rs := []) rfl (.inr rfl) (.int _ _ _)) .nil) (by kernel_rfl) (by kernel_rfl) (by kernel_rfl) (cvR _) ?_
    refine tnU ?_
    refine WpC.ret ?_
    refine thenQ_ret ?_
    have hq := Option.some.inj h
    subst hq
    exact ends_ret (retV_1 rfl (.head _)) (ain_cons (.head _) ain_nil)
  · replace h := ite_f hc2 h
    refine WpC.conv (cvK (b := ⟨[(0, .loc 100000 0), (5, .p I6 v1)], [(100000, .box [.p (.list (.named 3)) a0])]⟩) [0, 5] [100000] (by kernel_rfl)) (WpC.skip ?_)
    refine tnU ?_
    refine WpC.seq ?_
    obtain ⟨v3, hv3, h⟩ := bind_some h
    obtain ⟨g4, h⟩ := if_some h
    obtain ⟨v5, hv5, h⟩ := bind_some h
    obtain ⟨g6, h⟩ := if_some h
    refine WpC.regA (U := Un) (st1 := ⟨[], [(27, .row 50 (.named 3) ((([] : List T_tree_File) ++ v3) ++ v5) false), (100000, .box [.vec 27 3 0 (((([] : List T_tree_File) ++ v3) ++ v5).length)])]⟩) [] [27, 100000] [[], [], [], [2], [2, 3], [2, 3, 4], [], [2, 3, 4, 5, 6], [1, 2, 3, 4, 5, 6, 7], [], [9], [9, 10], [9, 10, 11], [], [13], [9, 10, 11, 12, 13, 14], [1, 2, 3, 4, 5, 6, 7, 8, 9, 10, 11, 12, 13, 14, 15], [0, 1, 2, 3, 4, 5, 6, 7, 8, 9, 10, 11, 12, 13, 14, 15, 16], [0, 1, 2, 3, 4, 5, 6, 7, 8, 9, 10, 11, 12, 13, 14, 15, 16, 17], [0, 1, 2, 3, 4, 5, 6, 7, 8, 9, 10, 11, 12, 13, 14, 15, 16, 17, 18]] mixed hN (.cons (mvU (v := .loc 100000 0) rfl rfl) (.cons (sok_buildSlice (U := Un) (t := .named 3) (rs := []) (ys := []) (xs := ([] : List T_tree_File)) rfl rfl rfl rfl row_45 .nil (by decide)) (.cons (mvU (v := .loc 100000 0) rfl rfl) (.cons (nlU (rs := [(13, .loc 100000 0)]) rfl rfl o0 rfl) (.cons (fdB (rs := [(14, .loc 100000 0)]) rfl rfl fd_47_0 (by decide) o0) (.cons (ldB (t := .list (.named 3)) (rs := [(15, .loc 100000 0)]) [] [.p (.list (.named 3)) a0] [] (v := .p (.list (.named 3)) a0) rfl rfl ty_45 o0 rfl rfl rfl rfl (.data (.one _ _))) (.cons (mvU (v := .p I6 v1) rfl rfl) (.cons (sok_sliceL (U := Un) (rs := [(16, .p (.list (.named 3)) a0), (17, .p I6 v1)]) rfl rfl sl_45 o0 .no (.at o1) hv3) (.cons (sok_append' (U := Un) (t := .named 3) (rs := [(12, .vec 12 3 0 (([] : List T_tree_File).length)), (18, .p (.list (.named 3)) v3)]) (vw := []) (xs := ([] : List T_tree_File)) (ys := v3) (fx := true) rfl rfl rfl row_45 (by decide) o0 o1 (.same _) (by simp) g4) (.cons (mvU (v := .loc 100000 0) rfl rfl) (.cons (nlU (rs := [(20, .loc 100000 0)]) rfl rfl o0 rfl) (.cons (fdB (rs := [(21, .loc 100000 0)]) rfl rfl fd_47_0 (by decide) o0) (.cons (ldB (t := .list (.named 3)) (rs := [(22, .loc 100000 0)]) [] [.p (.list (.named 3)) a0] [] (v := .p (.list (.named 3)) a0) rfl rfl ty_45 o0 rfl rfl rfl rfl (.data (.one _ _))) (.cons (mvU (v := .p I6 v1) rfl rfl) (.cons (sok_arith (U := Un) (rs := [(24, .p I6 v1)]) rfl rfl o0 (.int _ _ _) rfl) (.cons (sok_sliceL (U := Un) (rs := [(23, .p (.list (.named 3)) a0), (25, .p I6 ((IntKind.i64.wrap (v1 + 1)) : Int))]) rfl rfl sl_45 o0 (.at o1) .no hv5) (.cons (sok_append' (U := Un) (t := .named 3) (rs := [(19, .vec 19 3 0 ((([] : List T_tree_File) ++ v3).length)), (26, .p (.list (.named 3)) v5)]) (vw := []) (xs := (([] : List T_tree_File) ++ v3)) (ys := v5) (fx := false) rfl rfl rfl row_45 (by decide) o0 o1 (.same _) (by simp) g6) (.cons (nlU (rs := [(11, .loc 100000 0)]) rfl rfl o0 rfl) (.cons (fdB (rs := [(28, .loc 100000 0)]) rfl rfl fd_47_0 (by decide) o0) (.cons (sok_storeB (U := Un) (rs := [(29, .loc 100000 0), (27, .vec 27 3 0 (((([] : List T_tree_File) ++ v3) ++ v5).length))]) (v := .vec 27 3 0 (((([] : List T_tree_File) ++ v3) ++ v5).length)) (mid' := [.vec 27 3 0 (((([] : List T_tree_File) ++ v3) ++ v5).length)]) [] [.p (.list (.named 3)) a0] [] rfl rfl rfl ty_45 o0 o1 (.hand rfl) rfl rfl rfl rfl rfl rfl) .nil)))))))))))))))))))) (by kernel_rfl) (by kernel_rfl) (by kernel_rfl) (by kernel_rfl) (by kernel_rfl) (cvR _) ?_
    refine tnU ?_
    refine WpC.seq ?_
    refine rgU (st1 := ⟨[(4, .p I6 (0 : Int))], [(27, .row 50 (.named 3) ((([] : List T_tree_File) ++ v3) ++ v5) false), (100000, .box [.vec 27 3 0 (((([] : List T_tree_File) ++ v3) ++ v5).length)])]⟩) [4] [27, 100000] hN (.cons (moU (rs := []) rfl (.inr rfl) (.int _ _ _)) .nil) (by kernel_rfl) (by kernel_rfl) (by kernel_rfl) (cvR _) ?_
    refine tnU ?_
    refine WpC.conv (cvT (Conv.freezeU (U := Un) 100000 27 50 _ (.named 3) ((([] : List T_tree_File) ++ v3) ++ v5) false [] [] (.tail _ (.head _)) (by first | rfl | (simp only [upd_length, List.length_replicate, List.length_append]; done) | (simp only [upd_length, List.length_replicate, List.length_append] at *; omega) | omega) (.head _) (by kernel_rfl)) (cvK (b := ⟨[(4, .p I6 (0 : Int))], [(100000, .box [.p (.list (.named 3)) (((([] : List T_tree_File) ++ v3) ++ v5) : List T_tree_File)])]⟩) [4] [100000] (by kernel_rfl))) (WpC.ret ?_)
    have hq := Option.some.inj h
    subst hq
    exact ends_ret (retV_1 rfl (.head _)) (ain_cons (.head _) ain_nil)

theorem tree_Tree_Get_m0.ok (O : Out) (hO : GOk O) (k : Nat) (a0 : List ((List UInt8) × T_tree_File)) (a1 : List UInt8) (out : T_tree_File × Bool) (h : tree_Tree_Get_m0.f k a0 a1 = some out) : COk Un O Tryd.prog 16 { ar := [.loc 100000 0, .p .str a1], r := .tup [.p (.named 3) out.1, .p .bool out.2], bs := [(100000, .box [.mp 100001]), (100001, .map (.named 3) a0)], bs' := [(100000, .box [.mp 100001]), (100001, .map (.named 3) a0)] } := by
  refine cok_of_wp Tryd.func16 rfl (k := 19) rfl (Nat.le_of_ble_eq_true rfl) (namesOk_of (by kernel_rfl)) ?_
  intro B hN
  refine WpC.conv (cvK (b := ⟨[(0, .loc 100000 0), (1, .p .str a1)], [(100000, .box [.mp 100001]), (100001, .map (.named 3) a0)]⟩) [0, 1] [100000, 100001] (by kernel_rfl)) ?_
  unfold tree_Tree_Get_m0.f at h
  refine WpC.seq ?_
  refine rgU (st1 := ⟨[(0, .loc 100000 0), (1, .p .str a1), (4, .loc 4 0)], [(4, .box [.p .str ([] : List UInt8), .p .str ([] : List UInt8), .p I6 (0 : Int)]), (100000, .box [.mp 100001]), (100001, .map (.named 3) a0)]⟩) [0, 1, 4] [4, 100000, 100001] hN (.cons (sok_allocZ (U := Un) (rs := []) (d := 4) (us := [.p .str ([] : List UInt8), .p .str ([] : List UInt8), .p I6 (0 : Int)]) (v := (.agg #[.string ByteArray.empty, .string ByteArray.empty, .int .i64 0])) rfl rfl rfl (by kernel_rfl) rfl (.data (fun _ _ _ => rd_str0) (.data (fun _ _ _ => rd_str0) (.data (fun _ _ _ => .int _ _) .nil))) (by kernel_rfl)) (.cons (moU (rs := []) rfl (.inr rfl) (.bool _ _)) .nil)) (by kernel_rfl) (by kernel_rfl) (by kernel_rfl) (cvR _) ?_
  refine tnU ?_
  refine WpC.seq ?_
  refine rgU (st1 := ⟨[(4, .loc 4 0), (6, .loc 6 0), (7, .p .bool ((mget a1 a0).isSome : Bool))], [(4, .box [.p .str ([] : List UInt8), .p .str ([] : List UInt8), .p I6 (0 : Int)]), (6, .box [.p .str (((mget a1 a0).getD (T_tree_File.mk [] [] 0)).f_Name : List UInt8), .p .str (((mget a1 a0).getD (T_tree_File.mk [] [] 0)).f_Content : List UInt8), .p I6 (((mget a1 a0).getD (T_tree_File.mk [] [] 0)).f_Time : Int)]), (100000, .box [.mp 100001]), (100001, .map (.named 3) a0)]⟩) [4, 6, 7] [4, 6, 100000, 100001] hN (.cons (mvU (v := .loc 100000 0) rfl rfl) (.cons (nlU (rs := [(9, .loc 100000 0)]) rfl rfl o0 rfl) (.cons (fdB (rs := [(10, .loc 100000 0)]) rfl rfl fd_89_0 (by decide) o0) (.cons (ldB (t := .bool) (rs := [(11, .loc 100000 0)]) [] [.mp 100001] [] (v := .mp 100001) rfl rfl ty1_86 o0 rfl rfl rfl rfl (.hand rfl rfl)) (.cons (mvU (v := .p .str a1) rfl rfl) (.cons (sok_lookup2 (U := Un) (t := .named 3) (kvs := a0) (rs := [(12, .mp 100001), (13, .p .str a1)]) rfl rfl map_86 zv_24 o0 o1) (.cons (mvU (v := .tup [.p (.named 3) (((mget a1 a0).getD (T_tree_File.mk [] [] 0)) : T_tree_File), .p .bool ((mget a1 a0).isSome : Bool)]) rfl rfl) (.cons (exU (rs := [(8, .tup [.p (.named 3) (((mget a1 a0).getD (T_tree_File.mk [] [] 0)) : T_tree_File), .p .bool ((mget a1 a0).isSome : Bool)])]) rfl rfl o0 rfl) (.cons (exU (rs := [(8, .tup [.p (.named 3) (((mget a1 a0).getD (T_tree_File.mk [] [] 0)) : T_tree_File), .p .bool ((mget a1 a0).isSome : Bool)])]) rfl rfl o0 rfl) (.cons (sok_allocZ (U := Un) (rs := []) (d := 6) (us := [.p .str ([] : List UInt8), .p .str ([] : List UInt8), .p I6 (0 : Int)]) (v := (.agg #[.string ByteArray.empty, .string ByteArray.empty, .int .i64 0])) rfl rfl rfl (by kernel_rfl) rfl (.data (fun _ _ _ => rd_str0) (.data (fun _ _ _ => rd_str0) (.data (fun _ _ _ => .int _ _) .nil))) (by kernel_rfl)) (.cons (sok_storeB (U := Un) (rs := [(6, .loc 6 0), (15, .p (.named 3) (((mget a1 a0).getD (T_tree_File.mk [] [] 0)) : T_tree_File))]) (v := .p (.named 3) (((mget a1 a0).getD (T_tree_File.mk [] [] 0)) : T_tree_File)) (mid' := [.p .str (((mget a1 a0).getD (T_tree_File.mk [] [] 0)).f_Name : List UInt8), .p .str (((mget a1 a0).getD (T_tree_File.mk [] [] 0)).f_Content : List UInt8), .p I6 (((mget a1 a0).getD (T_tree_File.mk [] [] 0)).f_Time : Int)]) [] [.p .str ([] : List UInt8), .p .str ([] : List UInt8), .p I6 (0 : Int)] [] rfl rfl rfl ty_24 o0 o1 (.data (.named (us := ([.p .str (((mget a1 a0).getD (T_tree_File.mk [] [] 0)).f_Name : List UInt8), .p .str (((mget a1 a0).getD (T_tree_File.mk [] [] 0)).f_Content : List UInt8), .p I6 (((mget a1 a0).getD (T_tree_File.mk [] [] 0)).f_Time : Int)] : List (AVal Un))) (.pair (.one _ _) (.pair (.one _ _) (.pair (.one _ _) .unit))))) rfl rfl rfl rfl rfl rfl) (.cons (mvA (v := .p .bool ((mget a1 a0).isSome : Bool)) rfl rfl) .nil)))))))))))) (by kernel_rfl) (by kernel_rfl) (by kernel_rfl) (cvR _) ?_
  refine tnU ?_
  refine WpC.seq ?_
  refine rgU (st1 := ⟨[(4, .loc 4 0), (5, .p .bool ((mget a1 a0).isSome : Bool))], [(4, .box [.p .str ((((mget a1 a0).getD (T_tree_File.mk [] [] 0)).f_Name) : List UInt8), .p .str ((((mget a1 a0).getD (T_tree_File.mk [] [] 0)).f_Content) : List UInt8), .p I6 ((((mget a1 a0).getD (T_tree_File.mk [] [] 0)).f_Time) : Int)]), (100000, .box [.mp 100001]), (100001, .map (.named 3) a0)]⟩) [4, 5] [4, 100000, 100001] hN (.cons (ldB (t := .named 3) (rs := [(6, .loc 6 0)]) [] [.p .str (((mget a1 a0).getD (T_tree_File.mk [] [] 0)).f_Name : List UInt8), .p .str (((mget a1 a0).getD (T_tree_File.mk [] [] 0)).f_Content : List UInt8), .p I6 (((mget a1 a0).getD (T_tree_File.mk [] [] 0)).f_Time : Int)] [] (v := .p (.named 3) ((T_tree_File.mk (((mget a1 a0).getD (T_tree_File.mk [] [] 0)).f_Name) (((mget a1 a0).getD (T_tree_File.mk [] [] 0)).f_Content) (((mget a1 a0).getD (T_tree_File.mk [] [] 0)).f_Time)) : T_tree_File)) rfl rfl ty_24 o0 rfl rfl rfl rfl (.data (.named (us := ([.p .str (((mget a1 a0).getD (T_tree_File.mk [] [] 0)).f_Name : List UInt8), .p .str (((mget a1 a0).getD (T_tree_File.mk [] [] 0)).f_Content : List UInt8), .p I6 (((mget a1 a0).getD (T_tree_File.mk [] [] 0)).f_Time : Int)] : List (AVal Un))) (.pair (.one _ _) (.pair (.one _ _) (.pair (.one _ _) .unit)))))) (.cons (mvU (v := .p .bool ((mget a1 a0).isSome : Bool)) rfl rfl) (.cons (sok_storeB (U := Un) (rs := [(4, .loc 4 0), (17, .p (.named 3) ((T_tree_File.mk (((mget a1 a0).getD (T_tree_File.mk [] [] 0)).f_Name) (((mget a1 a0).getD (T_tree_File.mk [] [] 0)).f_Content) (((mget a1 a0).getD (T_tree_File.mk [] [] 0)).f_Time)) : T_tree_File))]) (v := .p (.named 3) ((T_tree_File.mk (((mget a1 a0).getD (T_tree_File.mk [] [] 0)).f_Name) (((mget a1 a0).getD (T_tree_File.mk [] [] 0)).f_Content) (((mget a1 a0).getD (T_tree_File.mk [] [] 0)).f_Time)) : T_tree_File)) (mid' := [.p .str ((((mget a1 a0).getD (T_tree_File.mk [] [] 0)).f_Name) : List UInt8), .p .str ((((mget a1 a0).getD (T_tree_File.mk [] [] 0)).f_Content) : List UInt8), .p I6 ((((mget a1 a0).getD (T_tree_File.mk [] [] 0)).f_Time) : Int)]) [] [.p .str ([] : List UInt8), .p .str ([] : List UInt8), .p I6 (0 : Int)] [] rfl rfl rfl ty_24 o0 o1 (.data (.named (us := ([.p .str ((((mget a1 a0).getD (T_tree_File.mk [] [] 0)).f_Name) : List UInt8), .p .str ((((mget a1 a0).getD (T_tree_File.mk [] [] 0)).f_Content) : List UInt8), .p I6 ((((mget a1 a0).getD (T_tree_File.mk [] [] 0)).f_Time) : Int)] : List (AVal Un))) (.pair (.one _ _) (.pair (.one _ _) (.pair (.one _ _) .unit))))) rfl rfl rfl rfl rfl rfl) (.cons (mvA (v := .p .bool ((mget a1 a0).isSome : Bool)) rfl rfl) .nil)))) (by kernel_rfl) (by kernel_rfl) (by kernel_rfl) (cvR _) ?_
  refine tnU ?_
  refine WpC.ret ?_
  have hq := Option.some.inj h
  subst hq
  exact ends_ret (retV_L (U := Un) (vs := [.p (.named 3) ((T_tree_File.mk (((mget a1 a0).getD (T_tree_File.mk [] [] 0)).f_Name) (((mget a1 a0).getD (T_tree_File.mk [] [] 0)).f_Content) (((mget a1 a0).getD (T_tree_File.mk [] [] 0)).f_Time)) : T_tree_File), .p .bool ((mget a1 a0).isSome : Bool)]) rfl (ResL.cell (U := Un) [] [.p .str ((((mget a1 a0).getD (T_tree_File.mk [] [] 0)).f_Name) : List UInt8), .p .str ((((mget a1 a0).getD (T_tree_File.mk [] [] 0)).f_Content) : List UInt8), .p I6 ((((mget a1 a0).getD (T_tree_File.mk [] [] 0)).f_Time) : Int)] [] (.head _) (.head _) rfl rfl rfl rfl ty_24 (.data (.named (us := ([.p .str ((((mget a1 a0).getD (T_tree_File.mk [] [] 0)).f_Name) : List UInt8), .p .str ((((mget a1 a0).getD (T_tree_File.mk [] [] 0)).f_Content) : List UInt8), .p I6 ((((mget a1 a0).getD (T_tree_File.mk [] [] 0)).f_Time) : Int)] : List (AVal Un))) (.pair (.one _ _) (.pair (.one _ _) (.pair (.one _ _) .unit))))) (ResL.tmp (U := Un) (.tail _ (.head _)) .nil))) (ain_cons (.tail _ (.head _)) (ain_cons (.tail _ (.tail _ (.head _))) ain_nil))

theorem millwrightref02_Tree_Time_m0.ok (O : Out) (hO : GOk O) (k : Nat) (a0 : List T_tree_File) (a1 : List UInt8) (out : Int) (h : millwrightref02_Tree_Time_m0.f k a0 a1 = some out) : COk Un O Tryd.prog 25 { ar := [.loc 100000 0, .p .str a1], r := .p I6 out, bs := [(100000, .box [.p (.list (.named 3)) a0])], bs' := [(100000, .box [.p (.list (.named 3)) a0])] } := by
  refine cok_of_wp Tryd.func25 rfl (k := 19) rfl (Nat.le_of_ble_eq_true rfl) (namesOk_of (by kernel_rfl)) ?_
  intro B hN
  refine WpC.conv (cvK (b := ⟨[(0, .loc 100000 0), (1, .p .str a1)], [(100000, .box [.p (.list (.named 3)) a0])]⟩) [0, 1] [100000] (by kernel_rfl)) ?_
  unfold millwrightref02_Tree_Time_m0.f at h
  refine WpC.seq ?_
  refine rgU (st1 := ⟨[(0, .loc 100000 0), (1, .p .str a1)], [(100000, .box [.p (.list (.named 3)) a0])]⟩) [0, 1] [100000] hN (.cons (moU (rs := []) rfl (.inr rfl) (.int _ _ _)) .nil) (by kernel_rfl) (by kernel_rfl) (by kernel_rfl) (cvR _) ?_
  refine tnU ?_
  refine WpC.seq ?_
  obtain ⟨v1, hv1, h⟩ := bind_some h
  refine rgU (st1 := ⟨[(0, .loc 100000 0), (5, .p I6 v1)], [(100000, .box [.p (.list (.named 3)) a0])]⟩) [0, 5] [100000] hN (.cons (mvU (v := .loc 100000 0) rfl rfl) (.cons (mvU (v := .p .str a1) rfl rfl) (.cons (caV (rs := [(6, .loc 100000 0), (7, .p .str a1)]) (vw := []) rfl rfl (.func _) hb_23 (COk.ren (millwrightref02_Tree_At_m0.ok O hO k a0 a1 v1 hv1) (fun n => if n = 100000 then 100000 else n) (injOn_of (by kernel_rfl))) (.cons o0 (.cons o1 .nil)) (.cons (.same _) (.cons (.same _) .nil)) (by simp) (.inl rfl)) (.cons (mvA (v := .p I6 v1) rfl rfl) .nil)))) (by kernel_rfl) (by kernel_rfl) (by kernel_rfl) (cvR _) ?_
  refine tnU ?_
  refine WpC.seq ?_
  refine WpC.seq ?_
  refine rgU (st1 := ⟨[(0, .loc 100000 0), (5, .p I6 v1), (10, .p .bool ((decide (v1 < 0)) : Bool))], [(100000, .box [.p (.list (.named 3)) a0])]⟩) [0, 5, 10] [100000] hN (.cons (mvU (v := .p I6 v1) rfl rfl) (.cons (cmU (rs := [(9, .p I6 v1)]) rfl rfl o0 (.int _ _ _) rfl) .nil)) (by kernel_rfl) (by kernel_rfl) (by kernel_rfl) (cvR _) ?_
  refine tnU ?_
  refine cdU (b := (decide (v1 < 0))) (.tmp (.tail _ (.tail _ (.head _)))) (fun hc2 => ?_) (fun hc2 => ?_)
  · replace h := ite_t hc2 h
    refine WpC.seq ?_
    refine rgU (st1 := ⟨[(4, .p I6 (0 : Int))], [(100000, .box [.p (.list (.named 3)) a0])]⟩) [4] [100000] hN (.cons (moU (rs := []) rfl (.inr rfl) (.int _ _ _)) .nil) (by kernel_rfl) (by kernel_rfl) (by kernel_rfl) (cvR _) ?_
    refine tnU ?_
    refine WpC.ret ?_
    refine thenQ_ret ?_
    have hq := Option.some.inj h
    subst hq
    exact ends_ret (retV_1 rfl (.head _)) (ain_cons (.head _) ain_nil)
  · replace h := ite_f hc2 h
    refine WpC.conv (cvK (b := ⟨[(0, .loc 100000 0), (5, .p I6 v1)], [(100000, .box [.p (.list (.named 3)) a0])]⟩) [0, 5] [100000] (by kernel_rfl)) (WpC.skip ?_)
    refine tnU ?_
    refine WpC.seq ?_
    obtain ⟨v3, hv3, h⟩ := bind_some h
    refine rgU (st1 := ⟨[(4, .p I6 v3.f_Time)], [(100000, .box [.p (.list (.named 3)) a0])]⟩) [4] [100000] hN (.cons (mvU (v := .loc 100000 0) rfl rfl) (.cons (nlU (rs := [(11, .loc 100000 0)]) rfl rfl o0 rfl) (.cons (fdB (rs := [(12, .loc 100000 0)]) rfl rfl fd_47_0 (by decide) o0) (.cons (ldB (t := .list (.named 3)) (rs := [(13, .loc 100000 0)]) [] [.p (.list (.named 3)) a0] [] (v := .p (.list (.named 3)) a0) rfl rfl ty_45 o0 rfl rfl rfl rfl (.data (.one _ _))) (.cons (mvU (v := .p I6 v1) rfl rfl) (.cons (sok_indexL (U := Un) (rs := [(14, .p (.list (.named 3)) a0), (15, .p I6 v1)]) rfl rfl sl_45 o0 o1 hv3) (.cons (sok_fieldP (U := Un) (rs := [(16, .pp (.named 3) v3)]) rfl rfl fd_50_2 (by decide) o0 (.named (.snd (.snd (.fst (.here _ _)) rfl) rfl))) (.cons (sok_loadP (U := Un) (rs := [(17, .pp I6 v3.f_Time)]) rfl rfl ty_3 o0) (.cons (mvA (v := .p I6 v3.f_Time) rfl rfl) .nil))))))))) (by kernel_rfl) (by kernel_rfl) (by kernel_rfl) (cvR _) ?_
    refine tnU ?_
    refine WpC.ret ?_
    have hq := Option.some.inj h
    subst hq
    exact ends_ret (retV_1 rfl (.head _)) (ain_cons (.head _) ain_nil)

theorem tree_Tree_Files_m0.ok (O : Out) (hO : GOk O) (k : Nat) (a0 : List ((List UInt8) × T_tree_File)) (out : List T_tree_File) (h : tree_Tree_Files_m0.f k a0 = some out) : COk Un O Tryd.prog 57 { ar := [.loc 100000 0], r := .p (.list (.named 3)) out, bs := [(100000, .box [.mp 100001]), (100001, .map (.named 3) a0)], bs' := [(100000, .box [.mp 100001]), (100001, .map (.named 3) a0)] } := by
  refine cok_of_wp Tryd.func57 rfl (k := 24) rfl (Nat.le_of_ble_eq_true rfl) (namesOk_of (by kernel_rfl)) ?_
  intro B hN
  refine WpC.conv (cvK (b := ⟨[(0, .loc 100000 0)], [(100000, .box [.mp 100001]), (100001, .map (.named 3) a0)]⟩) [0] [100000, 100001] (by kernel_rfl)) ?_
  unfold tree_Tree_Files_m0.f at h
  refine WpC.seq ?_
  refine rgU (st1 := ⟨[(0, .loc 100000 0)], [(100000, .box [.mp 100001]), (100001, .map (.named 3) a0)]⟩) [0] [100000, 100001] hN (.cons (moU (rs := []) rfl (.inr rfl) (.lit _ _ rfl)) .nil) (by kernel_rfl) (by kernel_rfl) (by kernel_rfl) (cvR _) ?_
  refine tnU ?_
  refine WpC.seq ?_
  refine rgU (st1 := ⟨[(0, .loc 100000 0), (3, .lit (.slice none 0 0))], [(100000, .box [.mp 100001]), (100001, .map (.named 3) a0)]⟩) [0, 3] [100000, 100001] hN (.cons (moU (rs := []) rfl (.inr rfl) (.lit _ _ rfl)) .nil) (by kernel_rfl) (by kernel_rfl) (by kernel_rfl) (cvR _) ?_
  refine tnU ?_
  refine sqJ (fun st' => ∃ v1 : List T_tree_File, tree_Tree_Files_m0.j2 k a0 v1 = some out ∧ st' = ⟨[(3, .vec 1003 3 0 v1.length)], [(1003, .row 24 (.named 3) v1 false), (100000, .box [.mp 100001]), (100001, .map (.named 3) a0)]⟩) ?_ ?_
  · refine WpC.seq ?_
    obtain ⟨v3, hv3, h⟩ := bind_some h
    refine rgU (st1 := ⟨[(0, .loc 100000 0), (3, .lit (.slice none 0 0)), (7, .p (.list .str) v3), (8, .p I6 ((v3.length : Int) : Int)), (9, .p I6 (0 : Int))], [(100000, .box [.mp 100001]), (100001, .map (.named 3) a0)]⟩) [0, 3, 7, 8, 9] [100000, 100001] hN (.cons (mvU (v := .loc 100000 0) rfl rfl) (.cons (caV (rs := [(6, .loc 100000 0)]) (vw := []) rfl rfl (.func _) hb_17 (COk.ren (tree_Tree_Names_m0.ok O hO k a0 v3 hv3) (fun n => if n = 100000 then 100000 else if n = 100001 then 100001 else n) (injOn_of (by kernel_rfl))) (.cons o0 .nil) (.cons (.same _) .nil) (by simp) (.inl rfl)) (.cons (sok_lenL (U := Un) (rs := [(7, .p (.list .str) v3)]) rfl rfl Tryd.underlying40 o0) (.cons (moU (rs := []) rfl (.inl rfl) (.int _ _ _)) .nil)))) (by kernel_rfl) (by kernel_rfl) (by kernel_rfl) (cvR _) ?_
    refine tnU ?_
    refine WpC.block ?_
    obtain ⟨o8, hlo8, h⟩ := bind_some h
    have hout9 := h
    clear h
    refine WpC.conv (cvT (Conv.thaw (U := Un) 3 1003 24 (.named 3) (.tail _ (.head _)) (by kernel_rfl) (by unfold K0; omega)) (cvK (b := ⟨[(0, .loc 100000 0), (3, .vec 1003 3 0 0), (7, .p (.list .str) v3), (8, .p I6 ((v3.length : Int) : Int)), (9, .p I6 (0 : Int))], [(1003, .row 24 (.named 3) [] false), (100000, .box [.mp 100001]), (100001, .map (.named 3) a0)]⟩) [0, 3, 7, 8, 9] [1003, 100000, 100001] (by kernel_rfl))) ?_
    refine WpC.loop (U := Un) (fun n st' => ∃ v4 : List T_tree_File, ∃ v5 : Int, tree_Tree_Files_m0.l6 k a0 v3 n v4 v5 = some o8 ∧ st' = ⟨[(0, .loc 100000 0), (3, .vec 1003 3 0 v4.length), (7, .p (.list .str) v3), (8, .p I6 ((v3.length : Int) : Int)), (9, .p I6 v5)], [(1003, .row 24 (.named 3) v4 false), (100000, .box [.mp 100001]), (100001, .map (.named 3) a0)]⟩) k ⟨[], 0, hlo8, rfl⟩ ?_
    clear hlo8
    rintro (_ | n) _ ⟨v4, v5, h, rfl⟩
    · cases h
    · rw [tree_Tree_Files_m0.l6] at h
      refine WpC.seq ?_
      refine rgU (st1 := ⟨[(0, .loc 100000 0), (3, .vec 1003 3 0 v4.length), (7, .p (.list .str) v3), (8, .p I6 ((v3.length : Int) : Int)), (9, .p I6 v5), (10, .p .bool ((decide (v5 < (v3.length : Int))) : Bool))], [(1003, .row 24 (.named 3) v4 false), (100000, .box [.mp 100001]), (100001, .map (.named 3) a0)]⟩) [0, 3, 7, 8, 9, 10] [1003, 100000, 100001] hN (.cons (cmU (rs := [(9, .p I6 v5), (8, .p I6 ((v3.length : Int) : Int))]) rfl rfl o0 o1 rfl) .nil) (by kernel_rfl) (by kernel_rfl) (by kernel_rfl) (cvR _) ?_
      refine tnU ?_
      refine WpC.seq ?_
      refine cdU (b := (decide (v5 < (v3.length : Int)))) (.tmp (.tail _ (.tail _ (.tail _ (.tail _ (.tail _ (.head _))))))) (fun hc10 => ?_) (fun hc10 => ?_)
      · replace h := ite_t hc10 h
        refine WpC.conv (cvK (b := ⟨[(0, .loc 100000 0), (3, .vec 1003 3 0 v4.length), (7, .p (.list .str) v3), (8, .p I6 ((v3.length : Int) : Int)), (9, .p I6 v5)], [(1003, .row 24 (.named 3) v4 false), (100000, .box [.mp 100001]), (100001, .map (.named 3) a0)]⟩) [0, 3, 7, 8, 9] [1003, 100000, 100001] (by kernel_rfl)) (WpC.skip ?_)
        refine tnU ?_
        refine WpC.seq ?_
        refine WpC.block ?_
        refine WpC.seq ?_
        obtain ⟨v11, hv11, h⟩ := bind_some h
        refine rgU (st1 := ⟨[(0, .loc 100000 0), (3, .vec 1003 3 0 v4.length), (5, .p .str v11), (7, .p (.list .str) v3), (8, .p I6 ((v3.length : Int) : Int)), (9, .p I6 v5)], [(1003, .row 24 (.named 3) v4 false), (100000, .box [.mp 100001]), (100001, .map (.named 3) a0)]⟩) [0, 3, 5, 7, 8, 9] [1003, 100000, 100001] hN (.cons (sok_indexL (U := Un) (rs := [(7, .p (.list .str) v3), (9, .p I6 v5)]) rfl rfl sl_40 o0 o1 hv11) (.cons (sok_loadP (U := Un) (rs := [(11, .pp .str v11)]) rfl rfl ty_9 o0) (.cons (mvA (v := .p .str v11) rfl rfl) .nil))) (by kernel_rfl) (by kernel_rfl) (by kernel_rfl) (cvR _) ?_
        refine tnU ?_
        obtain ⟨g12, h⟩ := if_some h
        refine rgU (st1 := ⟨[(0, .loc 100000 0), (3, .vec 21 3 0 ((v4 ++ [((mget v11 a0).getD (T_tree_File.mk [] [] 0))]).length)), (7, .p (.list .str) v3), (8, .p I6 ((v3.length : Int) : Int)), (9, .p I6 v5)], [(21, .row 24 (.named 3) (v4 ++ [((mget v11 a0).getD (T_tree_File.mk [] [] 0))]) false), (100000, .box [.mp 100001]), (100001, .map (.named 3) a0)]⟩) [0, 3, 7, 8, 9] [21, 100000, 100001] hN (.cons (mvU (v := .vec 1003 3 0 v4.length) rfl rfl) (.cons (mvU (v := .loc 100000 0) rfl rfl) (.cons (nlU (rs := [(14, .loc 100000 0)]) rfl rfl o0 rfl) (.cons (fdB (rs := [(15, .loc 100000 0)]) rfl rfl fd_89_0 (by decide) o0) (.cons (ldB (t := .bool) (rs := [(16, .loc 100000 0)]) [] [.mp 100001] [] (v := .mp 100001) rfl rfl ty1_86 o0 rfl rfl rfl rfl (.hand rfl rfl)) (.cons (mvU (v := .p .str v11) rfl rfl) (.cons (sok_lookup (U := Un) (t := .named 3) (kvs := a0) (rs := [(17, .mp 100001), (18, .p .str v11)]) rfl rfl map_86 zv_24 o0 o1) (.cons (sok_buildSlice (U := Un) (t := .named 3) (rs := [(19, .p (.named 3) (((mget v11 a0).getD (T_tree_File.mk [] [] 0)) : T_tree_File))]) (ys := [.tmp 19]) (xs := [((mget v11 a0).getD (T_tree_File.mk [] [] 0))]) rfl rfl rfl rfl row_22 (.cons o0 .nil) (by decide)) (.cons (sok_append' (U := Un) (t := .named 3) (rs := [(13, .vec 1003 3 0 v4.length), (20, .vec 20 3 0 ([((mget v11 a0).getD (T_tree_File.mk [] [] 0))].length))]) (vw := [(20, .row 24 (.named 3) [((mget v11 a0).getD (T_tree_File.mk [] [] 0))] true)]) (xs := v4) (ys := [((mget v11 a0).getD (T_tree_File.mk [] [] 0))]) (fx := false) rfl rfl rfl row_22 (by decide) o0 o1 (.whole (.head _)) (by simp) g12) (.cons (mvA (v := .vec 21 3 0 ((v4 ++ [((mget v11 a0).getD (T_tree_File.mk [] [] 0))]).length)) rfl rfl) .nil)))))))))) (by kernel_rfl) (by kernel_rfl) (by kernel_rfl) (cvR _) ?_
        refine blockQ_normal ?_
        refine tnU ?_
        refine rgU (st1 := ⟨[(0, .loc 100000 0), (3, .vec 21 3 0 ((v4 ++ [((mget v11 a0).getD (T_tree_File.mk [] [] 0))]).length)), (7, .p (.list .str) v3), (8, .p I6 ((v3.length : Int) : Int)), (9, .p I6 ((IntKind.i64.wrap (v5 + 1)) : Int))], [(21, .row 24 (.named 3) (v4 ++ [((mget v11 a0).getD (T_tree_File.mk [] [] 0))]) false), (100000, .box [.mp 100001]), (100001, .map (.named 3) a0)]⟩) [0, 3, 7, 8, 9] [21, 100000, 100001] hN (.cons (sok_arith (U := Un) (rs := [(9, .p I6 v5)]) rfl rfl o0 (.int _ _ _) rfl) (.cons (mvU (v := .p I6 ((IntKind.i64.wrap (v5 + 1)) : Int)) rfl rfl) .nil)) (by kernel_rfl) (by kernel_rfl) (by kernel_rfl) (cvT (Conv.ren (U := Un) (st' := ⟨[(0, .loc 100000 0), (3, .vec 1003 3 0 ((v4 ++ [((mget v11 a0).getD (T_tree_File.mk [] [] 0))]).length)), (7, .p (.list .str) v3), (8, .p I6 ((v3.length : Int) : Int)), (9, .p I6 ((IntKind.i64.wrap (v5 + 1)) : Int))], [(1003, .row 24 (.named 3) (v4 ++ [((mget v11 a0).getD (T_tree_File.mk [] [] 0))]) false), (100000, .box [.mp 100001]), (100001, .map (.named 3) a0)]⟩) 21 1003 (by unfold K0; omega) (by kernel_rfl) (by kernel_rfl) (by kernel_rfl)) (cvK (b := ⟨[(0, .loc 100000 0), (3, .vec 1003 3 0 ((v4 ++ [((mget v11 a0).getD (T_tree_File.mk [] [] 0))]).length)), (7, .p (.list .str) v3), (8, .p I6 ((v3.length : Int) : Int)), (9, .p I6 ((IntKind.i64.wrap (v5 + 1)) : Int))], [(1003, .row 24 (.named 3) (v4 ++ [((mget v11 a0).getD (T_tree_File.mk [] [] 0))]) false), (100000, .box [.mp 100001]), (100001, .map (.named 3) a0)]⟩) [0, 3, 7, 8, 9] [1003, 100000, 100001] (by kernel_rfl))) ?_
        refine tnU ?_
        exact ⟨n, Nat.lt_succ_self n, (v4 ++ [((mget v11 a0).getD (T_tree_File.mk [] [] 0))]), (IntKind.i64.wrap (v5 + 1)), h, rfl⟩
      · replace h := ite_f hc10 h
        refine WpC.conv (cvK (b := ⟨[(3, .vec 1003 3 0 v4.length)], [(1003, .row 24 (.named 3) v4 false), (100000, .box [.mp 100001]), (100001, .map (.named 3) a0)]⟩) [3] [1003, 100000, 100001] (by kernel_rfl)) (WpC.exit ?_)
        refine thenQ_exit ?_
        have hq := Option.some.inj h
        subst hq
        refine thenQ_exit ?_
        have h := hout9
        refine blockQ_hit ?_
        refine tnU ?_
        exact ⟨v4, h, rfl⟩
  · rintro _ ⟨v1, h, rfl⟩
    unfold tree_Tree_Files_m0.j2 at h
    refine WpC.seq ?_
    refine rgU (st1 := ⟨[(2, .vec 1003 3 0 v1.length)], [(1003, .row 24 (.named 3) v1 false), (100000, .box [.mp 100001]), (100001, .map (.named 3) a0)]⟩) [2] [1003, 100000, 100001] hN (.cons (mvU (v := .vec 1003 3 0 v1.length) rfl rfl) (.cons (mvA (v := .vec 1003 3 0 v1.length) rfl rfl) .nil)) (by kernel_rfl) (by kernel_rfl) (by kernel_rfl) (cvR _) ?_
    refine tnU ?_
    refine WpC.conv (cvT (Conv.freeze (U := Un) 2 1003 24 _ (.named 3) v1 false (.head _) (by first | rfl | (simp only [upd_length, List.length_replicate, List.length_append]; done) | (simp only [upd_length, List.length_replicate, List.length_append] at *; omega) | omega) (.head _) (by first | (simp [Blk.names]; done) | (simp [Blk.names]; decide))) (cvK (b := ⟨[(2, .p (.list (.named 3)) v1)], [(100000, .box [.mp 100001]), (100001, .map (.named 3) a0)]⟩) [2] [100000, 100001] (by kernel_rfl))) (WpC.ret ?_)
    have hq := Option.some.inj h
    subst hq
    exact ends_ret (retV_1 rfl (.head _)) (ain_cons (.head _) (ain_cons (.tail _ (.head _)) ain_nil))

theorem tree_Tree_Latest_m0.ok (O : Out) (hO : GOk O) (k : Nat) (a0 : List ((List UInt8) × T_tree_File)) (out : Int) (h : tree_Tree_Latest_m0.f k a0 = some out) : COk Un O Tryd.prog 58 { ar := [.loc 100000 0], r := .p I6 out, bs := [(100000, .box [.mp 100001]), (100001, .map (.named 3) a0)], bs' := [(100000, .box [.mp 100001]), (100001, .map (.named 3) a0)] } := by
  refine cok_of_wp Tryd.func58 rfl (k := 20) rfl (Nat.le_of_ble_eq_true rfl) (namesOk_of (by kernel_rfl)) ?_
  intro B hN
  refine WpC.conv (cvK (b := ⟨[(0, .loc 100000 0)], [(100000, .box [.mp 100001]), (100001, .map (.named 3) a0)]⟩) [0] [100000, 100001] (by kernel_rfl)) ?_
  unfold tree_Tree_Latest_m0.f at h
  refine WpC.seq ?_
  refine rgU (st1 := ⟨[(0, .loc 100000 0)], [(100000, .box [.mp 100001]), (100001, .map (.named 3) a0)]⟩) [0] [100000, 100001] hN (.cons (moU (rs := []) rfl (.inr rfl) (.int _ _ _)) .nil) (by kernel_rfl) (by kernel_rfl) (by kernel_rfl) (cvR _) ?_
  refine tnU ?_
  refine WpC.seq ?_
  refine rgU (st1 := ⟨[(0, .loc 100000 0), (3, .p I6 (0 : Int))], [(100000, .box [.mp 100001]), (100001, .map (.named 3) a0)]⟩) [0, 3] [100000, 100001] hN (.cons (moU (rs := []) rfl (.inr rfl) (.int _ _ _)) .nil) (by kernel_rfl) (by kernel_rfl) (by kernel_rfl) (cvR _) ?_
  refine tnU ?_
  refine sqJ (fun st' => ∃ v1 : Int, tree_Tree_Latest_m0.j2 k a0 v1 = some out ∧ st' = ⟨[(3, .p I6 v1)], [(100000, .box [.mp 100001]), (100001, .map (.named 3) a0)]⟩) ?_ ?_
  · refine WpC.seq ?_
    refine WpC.openMap (U := Un) (t := .named 3) (n := 100001) (kvs := a0) (.tail _ (.head _)) ?_
    intro es3 ck3 ys3 hys3 hri3
    refine WpC.conv (cvK (b := ⟨[(0, .loc 100000 0), (3, .p I6 (0 : Int))], [(100000, .box [.mp 100001]), (100001, .mapE (.named 3) es3 ck3 ys3)]⟩) [0, 3] [100000, 100001] (by kernel_rfl)) ?_
    refine rgU (st1 := ⟨[(3, .p I6 (0 : Int)), (10, .loc 10 0)], [(10, .iter 100001 (.named 3) es3 ck3 ys3 a0 none), (100000, .box [.mp 100001]), (100001, .mapE (.named 3) es3 ck3 ys3)]⟩) [3, 10] [10, 100000, 100001] hN (.cons (mvU (v := .loc 100000 0) rfl rfl) (.cons (nlU (rs := [(6, .loc 100000 0)]) rfl rfl o0 rfl) (.cons (fdB (rs := [(7, .loc 100000 0)]) rfl rfl fd_89_0 (by decide) o0) (.cons (ldB (t := .bool) (rs := [(8, .loc 100000 0)]) [] [.mp 100001] [] (v := .mp 100001) rfl rfl ty1_86 o0 rfl rfl rfl rfl (.hand rfl rfl)) (.cons (sok_range (U := Un) (t := .named 3) (es := es3) (clock := ck3) (kvs := a0) (rs := [(9, .mp 100001)]) (d := 10) (m := 100001) rfl rfl rfl map_86 hys3 (by decide) o0) .nil))))) (by kernel_rfl) (by kernel_rfl) (by kernel_rfl) (cvR _) ?_
    refine tnU ?_
    refine WpC.block ?_
    obtain ⟨o8, hlo8, h⟩ := bind_some h
    have hout9 := h
    clear h
    refine WpC.loop (U := Un) (fun n st' => ∃ v4 : Int, ∃ v5 : List ((List UInt8) × T_tree_File), tree_Tree_Latest_m0.l6 k n v4 v5 = some o8 ∧ st' = ⟨[(3, .p I6 v4), (10, .loc 10 0)], [(10, .iter 100001 (.named 3) es3 ck3 ys3 v5 none), (100000, .box [.mp 100001]), (100001, .mapE (.named 3) es3 ck3 ys3)]⟩) k ⟨0, a0, hlo8, rfl⟩ ?_
    clear hlo8
    rintro (_ | n) _ ⟨v4, v5, h, rfl⟩
    · cases h
    · refine WpC.seq ?_
      refine WpC.next (U := Un) (t := .named 3) (d := 10) (m := 100001) (it := 10) (left := v5) [3, 10, 12] [10, 100000, 100001] hN rfl rfl rfl rfl rfl rfl (by decide) (by decide) (by decide) (.tail _ (.head _)) (.head _) (.tail _ (.tail _ (.head _))) (fun (v10 : (List UInt8) × T_tree_File) (v11 : List ((List UInt8) × T_tree_File)) hp12 ha12 => ⟨⟨[(3, .p I6 v4), (10, .loc 10 0), (12, .p .bool true)], [(10, .iter 100001 (.named 3) es3 ck3 ys3 v11 (some v10)), (100000, .box [.mp 100001]), (100001, .mapE (.named 3) es3 ck3 ys3)]⟩, by kernel_rfl, _, (cvR _), ?_⟩) (fun hl12 => ⟨⟨[(3, .p I6 v4), (10, .loc 10 0), (12, .p .bool false)], [(10, .iter 100001 (.named 3) es3 ck3 ys3 v5 none), (100000, .box [.mp 100001]), (100001, .mapE (.named 3) es3 ck3 ys3)]⟩, by kernel_rfl, _, (cvR _), ?_⟩)
      · have h := tree_Tree_Latest_m0.l6_perm k hp12 ha12 h
        unfold tree_Tree_Latest_m0.l6 at h
        obtain ⟨_, h⟩ := if_some h
        refine tnU ?_
        refine WpC.seq ?_
        refine cdU (b := true) (.tmp (.tail _ (.tail _ (.head _)))) (fun hc => ?_) (fun hc => ?_)
        · refine WpC.conv (cvK (b := ⟨[(3, .p I6 v4), (10, .loc 10 0)], [(10, .iter 100001 (.named 3) es3 ck3 ys3 v11 (some v10)), (100000, .box [.mp 100001]), (100001, .mapE (.named 3) es3 ck3 ys3)]⟩) [3, 10] [10, 100000, 100001] (by kernel_rfl)) (WpC.skip ?_)
          refine tnU ?_
          refine WpC.block ?_
          refine WpC.seq ?_
          refine rgU (st1 := ⟨[(3, .p I6 v4), (5, .loc 5 0), (10, .loc 10 0)], [(5, .box [.p .str v10.2.f_Name, .p .str v10.2.f_Content, .p I6 v10.2.f_Time]), (10, .iter 100001 (.named 3) es3 ck3 ys3 v11 (some v10)), (100000, .box [.mp 100001]), (100001, .mapE (.named 3) es3 ck3 ys3)]⟩) [3, 5, 10] [5, 10, 100000, 100001] hN (.cons (sok_entry (U := Un) (t := .named 3) (rs := [(10, .loc 10 0)]) (d := 10) (m := 100001) (es := es3) (clock := ck3) (ys := ys3) (left := v11) (y := v10) rfl rfl o0) (.cons (exU (rs := [(13, .tup [.p .str v10.1, .p (.named 3) v10.2])]) rfl rfl o0 rfl) (.cons (sok_allocZ (U := Un) (rs := []) (d := 5) (us := [.p .str ([] : List UInt8), .p .str ([] : List UInt8), .p I6 (0 : Int)]) (v := (.agg #[.string ByteArray.empty, .string ByteArray.empty, .int .i64 0])) rfl rfl rfl (by kernel_rfl) rfl (.data (fun _ _ _ => rd_str0) (.data (fun _ _ _ => rd_str0) (.data (fun _ _ _ => .int _ _) .nil))) (by kernel_rfl)) (.cons (sok_storeB (U := Un) (rs := [(5, .loc 5 0), (14, .p (.named 3) v10.2)]) (v := .p (.named 3) v10.2) (mid' := [.p .str v10.2.f_Name, .p .str v10.2.f_Content, .p I6 v10.2.f_Time]) [] [.p .str ([] : List UInt8), .p .str ([] : List UInt8), .p I6 (0 : Int)] [] rfl rfl rfl ty_24 o0 o1 (.data (.named (us := ([.p .str v10.2.f_Name, .p .str v10.2.f_Content, .p I6 v10.2.f_Time] : List (AVal Un))) (.pair (.one _ _) (.pair (.one _ _) (.pair (.one _ _) .unit))))) rfl rfl rfl rfl rfl rfl) .nil)))) (by kernel_rfl) (by kernel_rfl) (by kernel_rfl) (cvR _) ?_
          refine tnU ?_
          refine rgU (st1 := ⟨[(3, .p I6 ((if v10.2.f_Time > v4 then v10.2.f_Time else v4) : Int)), (10, .loc 10 0)], [(10, .iter 100001 (.named 3) es3 ck3 ys3 v11 (some v10)), (100000, .box [.mp 100001]), (100001, .mapE (.named 3) es3 ck3 ys3)]⟩) [3, 10] [10, 100000, 100001] hN (.cons (mvU (v := .p I6 v4) rfl rfl) (.cons (fdB (rs := [(5, .loc 5 0)]) rfl rfl fd_24_2 (by decide) o0) (.cons (ldB (t := .int .i64) (rs := [(16, .loc 5 2)]) [.p .str v10.2.f_Name, .p .str v10.2.f_Content] [.p I6 v10.2.f_Time] [] (v := .p I6 v10.2.f_Time) rfl rfl ty_3 o0 rfl rfl rfl rfl (.data (.one _ _))) (.cons (sok_max (U := Un) (rs := [(15, .p I6 v4), (17, .p I6 v10.2.f_Time)]) rfl rfl o0 o1) (.cons (mvA (v := .p I6 ((if v10.2.f_Time > v4 then v10.2.f_Time else v4) : Int)) rfl rfl) .nil))))) (by kernel_rfl) (by kernel_rfl) (by kernel_rfl) (cvT (Conv.iterRest (U := Un) (t := .named 3) (d := 10) (.head _)) (cvK (b := ⟨[(3, .p I6 ((if v10.2.f_Time > v4 then v10.2.f_Time else v4) : Int)), (10, .loc 10 0)], [(10, .iter 100001 (.named 3) es3 ck3 ys3 v11 none), (100000, .box [.mp 100001]), (100001, .mapE (.named 3) es3 ck3 ys3)]⟩) [3, 10] [10, 100000, 100001] (by kernel_rfl))) ?_
          refine blockQ_normal ?_
          refine tnU ?_
          exact ⟨n, Nat.lt_succ_self n, (if v10.2.f_Time > v4 then v10.2.f_Time else v4), v11, h, rfl⟩
        · cases hc
      · subst hl12
        unfold tree_Tree_Latest_m0.l6 at h
        refine tnU ?_
        refine WpC.seq ?_
        refine cdU (b := false) (.tmp (.tail _ (.tail _ (.head _)))) (fun hc => ?_) (fun hc => ?_)
        · cases hc
        · refine WpC.conv (cvT (cvK (b := ⟨[(3, .p I6 v4)], [(100000, .box [.mp 100001]), (100001, .mapE (.named 3) es3 ck3 ys3)]⟩) [3] [100000, 100001] (by kernel_rfl)) (cvT (Conv.closeMap (U := Un) (t := .named 3) (n := 100001) (.tail _ (.head _)) hys3 hri3) (cvK (b := ⟨[(3, .p I6 v4)], [(100000, .box [.mp 100001]), (100001, .map (.named 3) a0)]⟩) [3] [100000, 100001] (by kernel_rfl)))) (WpC.exit ?_)
          refine thenQ_exit ?_
          have hq := Option.some.inj h
          subst hq
          refine thenQ_exit ?_
          have h := hout9
          refine blockQ_hit ?_
          refine tnU ?_
          exact ⟨v4, h, rfl⟩
  · rintro _ ⟨v1, h, rfl⟩
    unfold tree_Tree_Latest_m0.j2 at h
    refine WpC.seq ?_
    refine rgU (st1 := ⟨[(2, .p I6 v1)], [(100000, .box [.mp 100001]), (100001, .map (.named 3) a0)]⟩) [2] [100000, 100001] hN (.cons (mvU (v := .p I6 v1) rfl rfl) (.cons (mvA (v := .p I6 v1) rfl rfl) .nil)) (by kernel_rfl) (by kernel_rfl) (by kernel_rfl) (cvR _) ?_
    refine tnU ?_
    refine WpC.ret ?_
    have hq := Option.some.inj h
    subst hq
    exact ends_ret (retV_1 rfl (.head _)) (ain_cons (.head _) (ain_cons (.tail _ (.head _)) ain_nil))

theorem millwrightref02_Tree_Latest_m0.ok (O : Out) (hO : GOk O) (k : Nat) (a0 : List T_tree_File) (out : Int) (h : millwrightref02_Tree_Latest_m0.f k a0 = some out) : COk Un O Tryd.prog 59 { ar := [.loc 100000 0], r := .p I6 out, bs := [(100000, .box [.p (.list (.named 3)) a0])], bs' := [(100000, .box [.p (.list (.named 3)) a0])] } := by
  refine cok_of_wp Tryd.func59 rfl (k := 23) rfl (Nat.le_of_ble_eq_true rfl) (namesOk_of (by kernel_rfl)) ?_
  intro B hN
  refine WpC.conv (cvK (b := ⟨[(0, .loc 100000 0)], [(100000, .box [.p (.list (.named 3)) a0])]⟩) [0] [100000] (by kernel_rfl)) ?_
  unfold millwrightref02_Tree_Latest_m0.f at h
  refine WpC.seq ?_
  refine rgU (st1 := ⟨[(0, .loc 100000 0)], [(100000, .box [.p (.list (.named 3)) a0])]⟩) [0] [100000] hN (.cons (moU (rs := []) rfl (.inr rfl) (.int _ _ _)) .nil) (by kernel_rfl) (by kernel_rfl) (by kernel_rfl) (cvR _) ?_
  refine tnU ?_
  refine WpC.seq ?_
  refine rgU (st1 := ⟨[(0, .loc 100000 0), (3, .p I6 (0 : Int))], [(100000, .box [.p (.list (.named 3)) a0])]⟩) [0, 3] [100000] hN (.cons (moU (rs := []) rfl (.inr rfl) (.int _ _ _)) .nil) (by kernel_rfl) (by kernel_rfl) (by kernel_rfl) (cvR _) ?_
  refine tnU ?_
  refine sqJ (fun st' => ∃ v1 : Int, millwrightref02_Tree_Latest_m0.j2 k a0 v1 = some out ∧ st' = ⟨[(3, .p I6 v1)], [(100000, .box [.p (.list (.named 3)) a0])]⟩) ?_ ?_
  · refine WpC.seq ?_
    refine rgU (st1 := ⟨[(3, .p I6 (0 : Int)), (9, .p (.list (.named 3)) a0), (10, .p I6 ((a0.length : Int) : Int)), (11, .p I6 (0 : Int))], [(100000, .box [.p (.list (.named 3)) a0])]⟩) [3, 9, 10, 11] [100000] hN (.cons (mvU (v := .loc 100000 0) rfl rfl) (.cons (nlU (rs := [(6, .loc 100000 0)]) rfl rfl o0 rfl) (.cons (fdB (rs := [(7, .loc 100000 0)]) rfl rfl fd_47_0 (by decide) o0) (.cons (ldB (t := .list (.named 3)) (rs := [(8, .loc 100000 0)]) [] [.p (.list (.named 3)) a0] [] (v := .p (.list (.named 3)) a0) rfl rfl ty_45 o0 rfl rfl rfl rfl (.data (.one _ _))) (.cons (sok_lenL (U := Un) (rs := [(9, .p (.list (.named 3)) a0)]) rfl rfl Tryd.underlying45 o0) (.cons (moU (rs := []) rfl (.inl rfl) (.int _ _ _)) .nil)))))) (by kernel_rfl) (by kernel_rfl) (by kernel_rfl) (cvR _) ?_
    refine tnU ?_
    refine WpC.block ?_
    obtain ⟨o7, hlo7, h⟩ := bind_some h
    have hout8 := h
    clear h
    refine WpC.loop (U := Un) (fun n st' => ∃ v3 : Int, ∃ v4 : Int, millwrightref02_Tree_Latest_m0.l5 k a0 n v3 v4 = some o7 ∧ st' = ⟨[(3, .p I6 v3), (9, .p (.list (.named 3)) a0), (10, .p I6 ((a0.length : Int) : Int)), (11, .p I6 v4)], [(100000, .box [.p (.list (.named 3)) a0])]⟩) k ⟨0, 0, hlo7, rfl⟩ ?_
    clear hlo7
    rintro (_ | n) _ ⟨v3, v4, h, rfl⟩
    · cases h
    · rw [millwrightref02_Tree_Latest_m0.l5] at h
      refine WpC.seq ?_
      refine rgU (st1 := ⟨[(3, .p I6 v3), (9, .p (.list (.named 3)) a0), (10, .p I6 ((a0.length : Int) : Int)), (11, .p I6 v4), (12, .p .bool ((decide (v4 < (a0.length : Int))) : Bool))], [(100000, .box [.p (.list (.named 3)) a0])]⟩) [3, 9, 10, 11, 12] [100000] hN (.cons (cmU (rs := [(11, .p I6 v4), (10, .p I6 ((a0.length : Int) : Int))]) rfl rfl o0 o1 rfl) .nil) (by kernel_rfl) (by kernel_rfl) (by kernel_rfl) (cvR _) ?_
      refine tnU ?_
      refine WpC.seq ?_
      refine cdU (b := (decide (v4 < (a0.length : Int)))) (.tmp (.tail _ (.tail _ (.tail _ (.tail _ (.head _)))))) (fun hc9 => ?_) (fun hc9 => ?_)
      · replace h := ite_t hc9 h
        refine WpC.conv (cvK (b := ⟨[(3, .p I6 v3), (9, .p (.list (.named 3)) a0), (10, .p I6 ((a0.length : Int) : Int)), (11, .p I6 v4)], [(100000, .box [.p (.list (.named 3)) a0])]⟩) [3, 9, 10, 11] [100000] (by kernel_rfl)) (WpC.skip ?_)
        refine tnU ?_
        refine sqJ (fun st' => ∃ v10 : Int, millwrightref02_Tree_Latest_m0.j11 k (millwrightref02_Tree_Latest_m0.l5 k a0 n) a0 v4 v10 = some o7 ∧ st' = ⟨[(3, .p I6 v10), (9, .p (.list (.named 3)) a0), (10, .p I6 ((a0.length : Int) : Int)), (11, .p I6 v4)], [(100000, .box [.p (.list (.named 3)) a0])]⟩) ?_ ?_
        · refine WpC.block ?_
          refine WpC.seq ?_
          obtain ⟨v12, hv12, h⟩ := bind_some h
          refine rgU (st1 := ⟨[(3, .p I6 v3), (5, .loc 5 0), (9, .p (.list (.named 3)) a0), (10, .p I6 ((a0.length : Int) : Int)), (11, .p I6 v4)], [(5, .box [.p .str v12.f_Name, .p .str v12.f_Content, .p I6 v12.f_Time]), (100000, .box [.p (.list (.named 3)) a0])]⟩) [3, 5, 9, 10, 11] [5, 100000] hN (.cons (sok_indexL (U := Un) (rs := [(9, .p (.list (.named 3)) a0), (11, .p I6 v4)]) rfl rfl sl_45 o0 o1 hv12) (.cons (sok_loadP (U := Un) (rs := [(13, .pp (.named 3) v12)]) rfl rfl ty_50 o0) (.cons (sok_allocZ (U := Un) (rs := []) (d := 5) (us := [.p .str ([] : List UInt8), .p .str ([] : List UInt8), .p I6 (0 : Int)]) (v := (.agg #[.string ByteArray.empty, .string ByteArray.empty, .int .i64 0])) rfl rfl rfl (by kernel_rfl) rfl (.data (fun _ _ _ => rd_str0) (.data (fun _ _ _ => rd_str0) (.data (fun _ _ _ => .int _ _) .nil))) (by kernel_rfl)) (.cons (sok_storeB (U := Un) (rs := [(5, .loc 5 0), (14, .p (.named 3) v12)]) (v := .p (.named 3) v12) (mid' := [.p .str v12.f_Name, .p .str v12.f_Content, .p I6 v12.f_Time]) [] [.p .str ([] : List UInt8), .p .str ([] : List UInt8), .p I6 (0 : Int)] [] rfl rfl rfl ty_50 o0 o1 (.data (.named (us := ([.p .str v12.f_Name, .p .str v12.f_Content, .p I6 v12.f_Time] : List (AVal Un))) (.pair (.one _ _) (.pair (.one _ _) (.pair (.one _ _) .unit))))) rfl rfl rfl rfl rfl rfl) .nil)))) (by kernel_rfl) (by kernel_rfl) (by kernel_rfl) (cvR _) ?_
          refine tnU ?_
          refine WpC.seq ?_
          refine rgU (st1 := ⟨[(3, .p I6 v3), (5, .loc 5 0), (9, .p (.list (.named 3)) a0), (10, .p I6 ((a0.length : Int) : Int)), (11, .p I6 v4), (18, .p .bool ((decide (v12.f_Time > v3)) : Bool))], [(5, .box [.p .str v12.f_Name, .p .str v12.f_Content, .p I6 v12.f_Time]), (100000, .box [.p (.list (.named 3)) a0])]⟩) [3, 5, 9, 10, 11, 18] [5, 100000] hN (.cons (fdB (rs := [(5, .loc 5 0)]) rfl rfl fd_50_2 (by decide) o0) (.cons (ldB (t := .int .i64) (rs := [(15, .loc 5 2)]) [.p .str v12.f_Name, .p .str v12.f_Content] [.p I6 v12.f_Time] [] (v := .p I6 v12.f_Time) rfl rfl ty_3 o0 rfl rfl rfl rfl (.data (.one _ _))) (.cons (mvU (v := .p I6 v3) rfl rfl) (.cons (cmU (rs := [(16, .p I6 v12.f_Time), (17, .p I6 v3)]) rfl rfl o0 o1 rfl) .nil)))) (by kernel_rfl) (by kernel_rfl) (by kernel_rfl) (cvR _) ?_
          refine tnU ?_
          refine cdU (b := (decide (v12.f_Time > v3))) (.tmp (.tail _ (.tail _ (.tail _ (.tail _ (.tail _ (.head _))))))) (fun hc13 => ?_) (fun hc13 => ?_)
          · replace h := ite_t hc13 h
            refine rgU (st1 := ⟨[(3, .p I6 v12.f_Time), (9, .p (.list (.named 3)) a0), (10, .p I6 ((a0.length : Int) : Int)), (11, .p I6 v4)], [(100000, .box [.p (.list (.named 3)) a0])]⟩) [3, 9, 10, 11] [100000] hN (.cons (fdB (rs := [(5, .loc 5 0)]) rfl rfl fd_50_2 (by decide) o0) (.cons (ldB (t := .int .i64) (rs := [(19, .loc 5 2)]) [.p .str v12.f_Name, .p .str v12.f_Content] [.p I6 v12.f_Time] [] (v := .p I6 v12.f_Time) rfl rfl ty_3 o0 rfl rfl rfl rfl (.data (.one _ _))) (.cons (mvA (v := .p I6 v12.f_Time) rfl rfl) .nil))) (by kernel_rfl) (by kernel_rfl) (by kernel_rfl) (cvR _) ?_
            refine blockQ_normal ?_
            refine tnU ?_
            exact ⟨v12.f_Time, h, rfl⟩
          · replace h := ite_f hc13 h
            refine WpC.conv (cvK (b := ⟨[(3, .p I6 v3), (9, .p (.list (.named 3)) a0), (10, .p I6 ((a0.length : Int) : Int)), (11, .p I6 v4)], [(100000, .box [.p (.list (.named 3)) a0])]⟩) [3, 9, 10, 11] [100000] (by kernel_rfl)) (WpC.skip ?_)
            refine blockQ_normal ?_
            refine tnU ?_
            exact ⟨v3, h, rfl⟩
        · rintro _ ⟨v10, h, rfl⟩
          unfold millwrightref02_Tree_Latest_m0.j11 at h
          refine rgU (st1 := ⟨[(3, .p I6 v10), (9, .p (.list (.named 3)) a0), (10, .p I6 ((a0.length : Int) : Int)), (11, .p I6 ((IntKind.i64.wrap (v4 + 1)) : Int))], [(100000, .box [.p (.list (.named 3)) a0])]⟩) [3, 9, 10, 11] [100000] hN (.cons (sok_arith (U := Un) (rs := [(11, .p I6 v4)]) rfl rfl o0 (.int _ _ _) rfl) (.cons (mvU (v := .p I6 ((IntKind.i64.wrap (v4 + 1)) : Int)) rfl rfl) .nil)) (by kernel_rfl) (by kernel_rfl) (by kernel_rfl) (cvR _) ?_
          refine tnU ?_
          exact ⟨n, Nat.lt_succ_self n, v10, (IntKind.i64.wrap (v4 + 1)), h, rfl⟩
      · replace h := ite_f hc9 h
        refine WpC.conv (cvK (b := ⟨[(3, .p I6 v3)], [(100000, .box [.p (.list (.named 3)) a0])]⟩) [3] [100000] (by kernel_rfl)) (WpC.exit ?_)
        refine thenQ_exit ?_
        have hq := Option.some.inj h
        subst hq
        refine thenQ_exit ?_
        have h := hout8
        refine blockQ_hit ?_
        refine tnU ?_
        exact ⟨v3, h, rfl⟩
  · rintro _ ⟨v1, h, rfl⟩
    unfold millwrightref02_Tree_Latest_m0.j2 at h
    refine WpC.seq ?_
    refine rgU (st1 := ⟨[(2, .p I6 v1)], [(100000, .box [.p (.list (.named 3)) a0])]⟩) [2] [100000] hN (.cons (mvU (v := .p I6 v1) rfl rfl) (.cons (mvA (v := .p I6 v1) rfl rfl) .nil)) (by kernel_rfl) (by kernel_rfl) (by kernel_rfl) (cvR _) ?_
    refine tnU ?_
    refine WpC.ret ?_
    have hq := Option.some.inj h
    subst hq
    exact ends_ret (retV_1 rfl (.head _)) (ain_cons (.head _) ain_nil)

end Go.Proofs.YtkdpaglpieamgaaDoor
