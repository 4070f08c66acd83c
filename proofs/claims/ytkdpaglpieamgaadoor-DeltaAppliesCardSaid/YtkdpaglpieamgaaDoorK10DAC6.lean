/- A part of a proof: DAC6. -/
import Derived.Test.YtkdpaglpieamgaaDoorK10DAC5
namespace Go.Proofs.YtkdpaglpieamgaaDoor
open Go Go.AM
set_option linter.unusedVariables false
set_option linter.unusedSimpArgs false
set_option maxRecDepth 100000
theorem delta_Change_fits_m0.ok (O : Out) (hO : GOk O) (k : Nat) (a0 : TC) (a1 : List ((List UInt8) × TF)) (out : Bool) (h : delta_Change_fits_m0.f k a0 a1 = some out) : COk Un O Tryd.prog 62 { ar := [.p (.named 6) a0, .loc 100000 0], r := .p .bool out, bs := [(100000, .box [.mp 100001]), (100001, .map (.named 3) a1)], bs' := [(100000, .box [.mp 100001]), (100001, .map (.named 3) a1)] } := by
 refine cok_of_wp Tryd.func62 rfl (k := 26) rfl (Nat.le_of_ble_eq_true rfl) (namesOk_of (by kernel_rfl)) ?_
 intro B hN
 refine ckS (b := ⟨[(0, .p (.named 6) a0), (1, .loc 100000 0)], [(100000, .box [.mp 100001]), (100001, .map (.named 3) a1)]⟩) [0, 1] [100000, 100001] (by kernel_rfl) ?_
 unfold delta_Change_fits_m0.f at h
 refine sq_ ?_
 refine rg4 (st1 := ⟨[(1, .loc 100000 0), (2, .loc 2 0)], [(2, .box [.p I6 a0.fK, .p .str a0.fO.fN, .p .str a0.fO.fC, .p I6 a0.fO.fT, .p .str a0.fW.fN, .p .str a0.fW.fC, .p I6 a0.fW.fT]), (100000, .box [.mp 100001]), (100001, .map (.named 3) a1)]⟩) [1, 2] [2, 100000, 100001] hN (.cons (u22_ (rs := [(0, .p (.named 6) a0)]) (d := 2) (us := [.p I6 a0.fK, .p .str a0.fO.fN, .p .str a0.fO.fC, .p I6 a0.fO.fT, .p .str a0.fW.fN, .p .str a0.fW.fC, .p I6 a0.fW.fT]) rfl rfl rfl o0 (.data (.named (us := ([.p I6 a0.fK, .p .str a0.fO.fN, .p .str a0.fO.fC, .p I6 a0.fO.fT, .p .str a0.fW.fN, .p .str a0.fW.fC, .p I6 a0.fW.fT] : List (AVal Un))) (.pair (.one _ _) (.pair (.named (us := ([.p .str a0.fO.fN, .p .str a0.fO.fC, .p I6 a0.fO.fT] : List (AVal Un))) (.pair (.one _ _) (.pair (.one _ _) (.pair (.one _ _) .unit)))) (.pair (.named (us := ([.p .str a0.fW.fN, .p .str a0.fW.fC, .p I6 a0.fW.fT] : List (AVal Un))) (.pair (.one _ _) (.pair (.one _ _) (.pair (.one _ _) .unit)))) .unit))))) rfl (notin_of (by kernel_rfl))) (.cons (moU (rs := []) rfl (.inr rfl) (.bool _ _)) .nil)) (by kernel_rfl) ?_
 refine tnS ?_
 obtain ⟨v1, hv1, h⟩ := bind_some h
 obtain ⟨v2, hv2, h⟩ := bind_some h
 refine rg4 (st1 := ⟨[(2, .loc 2 0), (5, .loc 5 0), (6, .p .bool v2.2)], [(2, .box [.p I6 a0.fK, .p .str a0.fO.fN, .p .str a0.fO.fC, .p I6 a0.fO.fT, .p .str a0.fW.fN, .p .str a0.fW.fC, .p I6 a0.fW.fT]), (5, .box [.p .str v2.1.fN, .p .str v2.1.fC, .p I6 v2.1.fT]), (100000, .box [.mp 100001]), (100001, .map (.named 3) a1)]⟩) [2, 5, 6] [2, 5, 100000, 100001] hN (.cons (mvU (v := .loc 100000 0) rfl rfl) (.cons (ldB (t := .named 6) (rs := [(2, .loc 2 0)]) [] [.p I6 a0.fK, .p .str a0.fO.fN, .p .str a0.fO.fC, .p I6 a0.fO.fT, .p .str a0.fW.fN, .p .str a0.fW.fC, .p I6 a0.fW.fT] [] (v := .p (.named 6) ((TC.mk a0.fK (TF.mk a0.fO.fN a0.fO.fC a0.fO.fT) (TF.mk a0.fW.fN a0.fW.fC a0.fW.fT)) : TC)) rfl rfl ty_103 o0 rfl rfl rfl rfl (.data (.named (us := ([.p I6 a0.fK, .p .str a0.fO.fN, .p .str a0.fO.fC, .p I6 a0.fO.fT, .p .str a0.fW.fN, .p .str a0.fW.fC, .p I6 a0.fW.fT] : List (AVal Un))) (.pair (.one _ _) (.pair (.named (us := ([.p .str a0.fO.fN, .p .str a0.fO.fC, .p I6 a0.fO.fT] : List (AVal Un))) (.pair (.one _ _) (.pair (.one _ _) (.pair (.one _ _) .unit)))) (.pair (.named (us := ([.p .str a0.fW.fN, .p .str a0.fW.fC, .p I6 a0.fW.fT] : List (AVal Un))) (.pair (.one _ _) (.pair (.one _ _) (.pair (.one _ _) .unit)))) .unit)))))) (.cons (caV (rs := [(9, .p (.named 6) ((TC.mk a0.fK (TF.mk a0.fO.fN a0.fO.fC a0.fO.fT) (TF.mk a0.fW.fN a0.fW.fC a0.fW.fT)) : TC))]) (vw := []) rfl rfl (.func _) hb_65 (delta_Change_name.ok O hO k (TC.mk a0.fK (TF.mk a0.fO.fN a0.fO.fC a0.fO.fT) (TF.mk a0.fW.fN a0.fW.fC a0.fW.fT)) v1 hv1) (.cons o0 .nil) (.cons (.same _) .nil) (by simp) (.inl rfl)) (.cons (caV (rs := [(8, .loc 100000 0), (10, .p .str v1)]) (vw := []) rfl rfl (.func _) hb_16 (COk.ren (tree_Tree_Get_m0.ok O hO k a1 v1 v2 hv2) (fun n => if n = 100000 then 100000 else if n = 100001 then 100001 else n) (injOn_of (by kernel_rfl))) (.cons o0 (.cons o1 .nil)) (.cons (.same _) (.cons (.same _) .nil)) (by simp) (.inl rfl)) (.cons (mvU (v := .tup [.p (.named 3) v2.1, .p .bool v2.2]) rfl rfl) (.cons (exU (rs := [(7, .tup [.p (.named 3) v2.1, .p .bool v2.2])]) rfl rfl o0 rfl) (.cons (exU (rs := [(7, .tup [.p (.named 3) v2.1, .p .bool v2.2])]) rfl rfl o0 rfl) (.cons (u18_ (rs := []) (d := 5) (us := [.p .str ([] : List UInt8), .p .str ([] : List UInt8), .p I6 (0 : Int)]) (v := (.agg #[.string ByteArray.empty, .string ByteArray.empty, .int .i64 0])) rfl rfl rfl (by kernel_rfl) rfl (.data (fun _ _ _ => rd_str0) (.data (fun _ _ _ => rd_str0) (.data (fun _ _ _ => .int _ _) .nil))) (by kernel_rfl)) (.cons (u54_ (rs := [(5, .loc 5 0), (12, .p (.named 3) v2.1)]) (v := .p (.named 3) v2.1) (mid' := [.p .str v2.1.fN, .p .str v2.1.fC, .p I6 v2.1.fT]) [] [.p .str ([] : List UInt8), .p .str ([] : List UInt8), .p I6 (0 : Int)] [] rfl rfl rfl ty_24 o0 o1 (.data (.named (us := ([.p .str v2.1.fN, .p .str v2.1.fC, .p I6 v2.1.fT] : List (AVal Un))) (.pair (.one _ _) (.pair (.one _ _) (.pair (.one _ _) .unit))))) rfl rfl rfl rfl rfl rfl) (.cons (mvA (v := .p .bool v2.2) rfl rfl) .nil)))))))))) (by kernel_rfl) ?_
 refine tnS ?_
 refine sq_ ?_
 refine rg4 (st1 := ⟨[(2, .loc 2 0), (5, .loc 5 0), (6, .p .bool v2.2), (16, .p .bool ((a0.fK == 1) : Bool))], [(2, .box [.p I6 a0.fK, .p .str a0.fO.fN, .p .str a0.fO.fC, .p I6 a0.fO.fT, .p .str a0.fW.fN, .p .str a0.fW.fC, .p I6 a0.fW.fT]), (5, .box [.p .str v2.1.fN, .p .str v2.1.fC, .p I6 v2.1.fT]), (100000, .box [.mp 100001]), (100001, .map (.named 3) a1)]⟩) [2, 5, 6, 16] [2, 5, 100000, 100001] hN (.cons (fdB (rs := [(2, .loc 2 0)]) rfl rfl fd_103_0 (by decide) o0) (.cons (ldB (t := .int .i64) (rs := [(14, .loc 2 0)]) [] [.p I6 a0.fK] [.p .str a0.fO.fN, .p .str a0.fO.fC, .p I6 a0.fO.fT, .p .str a0.fW.fN, .p .str a0.fW.fC, .p I6 a0.fW.fT] (v := .p I6 a0.fK) rfl rfl ty_3 o0 rfl rfl rfl rfl (.data (.one _ _))) (.cons (cmU (rs := [(15, .p I6 a0.fK)]) rfl rfl o0 (.int _ _ _) rfl) .nil))) (by kernel_rfl) ?_
 refine tnU ?_
 refine cdU (b := (a0.fK == 1)) (.tmp m3_) (fun hc3 => ?_) (fun hc3 => ?_)
 ·replace h := ite_t hc3 h
  refine sq_ ?_
  refine rg4 (st1 := ⟨[(4, .p .bool ((!v2.2) : Bool))], [(100000, .box [.mp 100001]), (100001, .map (.named 3) a1)]⟩) [4] [100000, 100001] hN (.cons (mvU (v := .p .bool v2.2) rfl rfl) (.cons (u50_ (rs := [(17, .p .bool v2.2)]) rfl rfl o0) (.cons (mvA (v := .p .bool ((!v2.2) : Bool)) rfl rfl) .nil))) (by kernel_rfl) ?_
  refine tnU ?_
  refine wr_ ?_
  refine tr_ ?_
  have hq := Option.some.inj h
  subst hq
  exact ends_ret (retV_1 rfl (.head _)) (ain_cons (.head _) (ain_cons m1_ ain_nil))
 ·replace h := ite_f hc3 h
  refine wc_ (cvK (b := ⟨[(2, .loc 2 0), (5, .loc 5 0), (6, .p .bool v2.2)], [(2, .box [.p I6 a0.fK, .p .str a0.fO.fN, .p .str a0.fO.fC, .p I6 a0.fO.fT, .p .str a0.fW.fN, .p .str a0.fW.fC, .p I6 a0.fW.fT]), (5, .box [.p .str v2.1.fN, .p .str v2.1.fC, .p I6 v2.1.fT]), (100000, .box [.mp 100001]), (100001, .map (.named 3) a1)]⟩) [2, 5, 6] [2, 5, 100000, 100001] (by kernel_rfl)) (ws_ ?_)
  refine tnS ?_
  rcases bool_cases v2.2 with hc4 | hc4
  ·replace h := ite_t hc4 h
   refine rg4 (st1 := ⟨[(4, .p .bool ((v2.1.fN == a0.fO.fN && (v2.1.fC == a0.fO.fC && (v2.1.fT == a0.fO.fT && true))) : Bool))], [(100000, .box [.mp 100001]), (100001, .map (.named 3) a1)]⟩) [4] [100000, 100001] hN (.cons (mvU (v := .p .bool v2.2) rfl rfl) (.cons (mvU (v := .p .bool v2.2) rfl rfl) (.cons (sok_run rfl rfl hc4 (ldB (t := .named 3) (rs := [(5, .loc 5 0)]) [] [.p .str v2.1.fN, .p .str v2.1.fC, .p I6 v2.1.fT] [] (v := .p (.named 3) ((TF.mk v2.1.fN v2.1.fC v2.1.fT) : TF)) rfl rfl ty_24 o0 rfl rfl rfl rfl (.data (.named (us := ([.p .str v2.1.fN, .p .str v2.1.fC, .p I6 v2.1.fT] : List (AVal Un))) (.pair (.one _ _) (.pair (.one _ _) (.pair (.one _ _) .unit))))))) (.cons (sok_run rfl rfl hc4 (fdB (rs := [(2, .loc 2 0)]) rfl rfl fd_103_1 (by decide) o0)) (.cons (sok_run rfl rfl hc4 (ldB (t := .named 3) (rs := [(22, .loc 2 1)]) [.p I6 a0.fK] [.p .str a0.fO.fN, .p .str a0.fO.fC, .p I6 a0.fO.fT] [.p .str a0.fW.fN, .p .str a0.fW.fC, .p I6 a0.fW.fT] (v := .p (.named 3) ((TF.mk a0.fO.fN a0.fO.fC a0.fO.fT) : TF)) rfl rfl ty_24 o0 rfl rfl rfl rfl (.data (.named (us := ([.p .str a0.fO.fN, .p .str a0.fO.fC, .p I6 a0.fO.fT] : List (AVal Un))) (.pair (.one _ _) (.pair (.one _ _) (.pair (.one _ _) .unit))))))) (.cons (sok_run rfl rfl hc4 (u30_ (rs := [(21, .p (.named 3) ((TF.mk v2.1.fN v2.1.fC v2.1.fT) : TF)), (23, .p (.named 3) ((TF.mk a0.fO.fN a0.fO.fC a0.fO.fT) : TF))]) rfl rfl Tryd.underlying24 (by kernel_rfl) (eqf_24 _ Tryd.underlying24) (by kernel_rfl) o0 o1)) (.cons (pkT (rs := [(20, .p .bool v2.2), (24, .p .bool ((v2.1.fN == a0.fO.fN && (v2.1.fC == a0.fO.fC && (v2.1.fT == a0.fO.fT && true))) : Bool))]) rfl rfl o0 hc4 o1) (.cons (mvA (v := .p .bool ((v2.1.fN == a0.fO.fN && (v2.1.fC == a0.fO.fC && (v2.1.fT == a0.fO.fT && true))) : Bool)) rfl rfl) .nil)))))))) (by kernel_rfl) ?_
   refine tnU ?_
   refine wr_ ?_
   have hq := Option.some.inj h
   subst hq
   exact ends_ret (retV_1 rfl (.head _)) (ain_cons (.head _) (ain_cons m1_ ain_nil))
  ·replace h := ite_f hc4 h
   refine rg4 (st1 := ⟨[(4, .p .bool false)], [(100000, .box [.mp 100001]), (100001, .map (.named 3) a1)]⟩) [4] [100000, 100001] hN (.cons (mvU (v := .p .bool v2.2) rfl rfl) (.cons (mvU (v := .p .bool v2.2) rfl rfl) (.cons (skU rfl rfl hc4) (.cons (skU rfl rfl hc4) (.cons (skU rfl rfl hc4) (.cons (skU rfl rfl hc4) (.cons (pkF (rs := [(20, .p .bool v2.2)]) rfl rfl o0 hc4 (.bool _ _)) (.cons (mvA (v := .p .bool false) rfl rfl) .nil)))))))) (by kernel_rfl) ?_
   refine tnU ?_
   refine wr_ ?_
   have hq := Option.some.inj h
   subst hq
   exact ends_ret (retV_1 rfl (.head _)) (ain_cons (.head _) (ain_cons m1_ ain_nil))

theorem tree_Tree_Copy_m0.ok (O : Out) (hO : GOk O) (k : Nat) (a0 : List ((List UInt8) × TF)) (out : List ((List UInt8) × TF)) (h : tree_Tree_Copy_m0.f k a0 = some out) : COk Un O Tryd.prog 12 { ar := [.loc 100000 0], r := .loc 60500 0, bs := [(100000, .box [.mp 100001]), (100001, .map (.named 3) a0)], bs' := [(60500, .box [.mp 60501]), (60501, .map (.named 3) out), (100000, .box [.mp 100001]), (100001, .map (.named 3) a0)], nn := [60500, 60501] } := by
 refine cok_of_wp Tryd.func12 rfl (k := 10) rfl (Nat.le_of_ble_eq_true rfl) (namesOk_of (by kernel_rfl)) ?_
 intro B hN
 refine ckS (b := ⟨[(0, .loc 100000 0)], [(100000, .box [.mp 100001]), (100001, .map (.named 3) a0)]⟩) [0] [100000, 100001] (by kernel_rfl) ?_
 unfold tree_Tree_Copy_m0.f at h
 refine sq_ ?_
 refine rg4 (st1 := ⟨[(0, .loc 100000 0)], [(100000, .box [.mp 100001]), (100001, .map (.named 3) a0)]⟩) [0] [100000, 100001] hN (.cons (moU (rs := []) rfl (.inr rfl) (.lit _ _ rfl)) .nil) (by kernel_rfl) ?_
 refine tnS ?_
 obtain ⟨v1, hv1, h⟩ := bind_some h
 refine rg4 (st1 := ⟨[(2, .loc 9 0)], [(9, .box [.mp 10001]), (10001, .map (.named 3) v1), (100000, .box [.mp 100001]), (100001, .map (.named 3) a0)]⟩) [2] [9, 10001, 100000, 100001] hN (.cons (mvU (v := .loc 100000 0) rfl rfl) (.cons (nlU (rs := [(3, .loc 100000 0)]) rfl rfl o0 rfl) (.cons (fdB (rs := [(4, .loc 100000 0)]) rfl rfl fd_89_0 (by decide) o0) (.cons (ldB (t := .bool) (rs := [(5, .loc 100000 0)]) [] [.mp 100001] [] (v := .mp 100001) rfl rfl ty1_86 o0 rfl rfl rfl rfl (.hand rfl rfl)) (.cons (caV (rs := [(6, .mp 100001)]) (vw := []) rfl rfl (.func _) hb_50 (COk.ren (pMapClone.ok (U := Un) (t := .named 3) O hO k a0 v1 hv1) (fun n => if n = 60500 then 10001 else if n = 100000 then 100001 else n) (injOn_of (by kernel_rfl))) (.cons o0 .nil) (.cons (.same _) .nil) (by simp) (.inl rfl)) (.cons (u23_ (t := .arr 1 .bool) (rs := [(7, .mp 10001)]) (us0 := [.lit (.map none)]) (us := [.mp 10001]) (v := .agg [.mp 10001]) rfl rfl lays_89 (.lit rfl .nil) (Filled.cons (U := Un) (i := 0) (v := .mp 10001) [] [.lit (.map none)] [.mp 10001] [] o0 (.hand rfl) rfl rfl rfl rfl rfl rfl (.nil _)) rfl (.agg rfl)) (.cons (u22_ (rs := [(8, .agg [.mp 10001])]) (d := 9) (us := [.mp 10001]) rfl rfl rfl o0 .agg rfl (notin_of (by kernel_rfl))) (.cons (mvA (v := .loc 9 0) rfl rfl) .nil)))))))) (by kernel_rfl) ?_
 refine tnU ?_
 refine wc_ (cvT (u12_ (st' := ⟨[(2, .loc 9 0)], [(9, .box [.mp 60501]), (60501, .map (.named 3) v1), (100000, .box [.mp 100001]), (100001, .map (.named 3) a0)]⟩) 10001 60501 (by unfold K0; omega) (by kernel_rfl) (by kernel_rfl) (by kernel_rfl)) (cvT (cvK (b := ⟨[(2, .loc 9 0)], [(9, .box [.mp 60501]), (60501, .map (.named 3) v1), (100000, .box [.mp 100001]), (100001, .map (.named 3) a0)]⟩) [2] [9, 60501, 100000, 100001] (by kernel_rfl)) (cvT (u12_ (st' := ⟨[(2, .loc 60500 0)], [(60500, .box [.mp 60501]), (60501, .map (.named 3) v1), (100000, .box [.mp 100001]), (100001, .map (.named 3) a0)]⟩) 9 60500 (by unfold K0; omega) (by kernel_rfl) (by kernel_rfl) (by kernel_rfl)) (cvK (b := ⟨[(2, .loc 60500 0)], [(60500, .box [.mp 60501]), (60501, .map (.named 3) v1), (100000, .box [.mp 100001]), (100001, .map (.named 3) a0)]⟩) [2] [60500, 60501, 100000, 100001] (by kernel_rfl))))) (wr_ ?_)
 have hq := Option.some.inj h
 subst hq
 exact ends_ret (retV_1 rfl (.head _)) (ain_cons (.head _) (ain_cons m1_ (ain_cons m2_ (ain_cons m3_ ain_nil))))

theorem tree_Tree_Remove_m0.ok (O : Out) (hO : GOk O) (k : Nat) (a0 : List ((List UInt8) × TF)) (a1 : List UInt8) (out : Nat × (List ((List UInt8) × TF))) (h : tree_Tree_Remove_m0.f k a0 a1 = some out) : COk Un O Tryd.prog 15 { ar := [.loc 100000 0, .p .str a1], r := .p .err out.1, bs := [(100000, .box [.mp 100001]), (100001, .map (.named 3) a0)], bs' := [(100000, .box [.mp 100001]), (100001, .map (.named 3) out.2)] } := by
 refine cok_of_wp Tryd.func15 rfl (k := 24) rfl (Nat.le_of_ble_eq_true rfl) (namesOk_of (by kernel_rfl)) ?_
 intro B hN
 refine ckS (b := ⟨[(0, .loc 100000 0), (1, .p .str a1)], [(100000, .box [.mp 100001]), (100001, .map (.named 3) a0)]⟩) [0, 1] [100000, 100001] (by kernel_rfl) ?_
 unfold tree_Tree_Remove_m0.f at h
 refine sq_ ?_
 refine rg4 (st1 := ⟨[(0, .loc 100000 0), (1, .p .str a1)], [(100000, .box [.mp 100001]), (100001, .map (.named 3) a0)]⟩) [0, 1] [100000, 100001] hN (.cons (moU (rs := []) rfl (.inr rfl) (.lit _ _ rfl)) .nil) (by kernel_rfl) ?_
 refine tnS ?_
 refine sq_ ?_
 refine rg4 (st1 := ⟨[(0, .loc 100000 0), (1, .p .str a1), (6, .p .bool ((mget a1 a0).isSome : Bool))], [(100000, .box [.mp 100001]), (100001, .map (.named 3) a0)]⟩) [0, 1, 6] [100000, 100001] hN (.cons (mvU (v := .loc 100000 0) rfl rfl) (.cons (nlU (rs := [(8, .loc 100000 0)]) rfl rfl o0 rfl) (.cons (fdB (rs := [(9, .loc 100000 0)]) rfl rfl fd_89_0 (by decide) o0) (.cons (ldB (t := .bool) (rs := [(10, .loc 100000 0)]) [] [.mp 100001] [] (v := .mp 100001) rfl rfl ty1_86 o0 rfl rfl rfl rfl (.hand rfl rfl)) (.cons (mvU (v := .p .str a1) rfl rfl) (.cons (u44_ (t := .named 3) (kvs := a0) (rs := [(11, .mp 100001), (12, .p .str a1)]) rfl rfl map_86 zv_24 o0 o1) (.cons (mvU (v := .tup [.p (.named 3) (((mget a1 a0).getD (TF.mk [] [] 0)) : TF), .p .bool ((mget a1 a0).isSome : Bool)]) rfl rfl) (.cons (exU (rs := [(7, .tup [.p (.named 3) (((mget a1 a0).getD (TF.mk [] [] 0)) : TF), .p .bool ((mget a1 a0).isSome : Bool)])]) rfl rfl o0 rfl) (.cons (exU (rs := [(7, .tup [.p (.named 3) (((mget a1 a0).getD (TF.mk [] [] 0)) : TF), .p .bool ((mget a1 a0).isSome : Bool)])]) rfl rfl o0 rfl) (.cons (u18_ (rs := []) (d := 5) (us := [.p .str ([] : List UInt8), .p .str ([] : List UInt8), .p I6 (0 : Int)]) (v := (.agg #[.string ByteArray.empty, .string ByteArray.empty, .int .i64 0])) rfl rfl rfl (by kernel_rfl) rfl (.data (fun _ _ _ => rd_str0) (.data (fun _ _ _ => rd_str0) (.data (fun _ _ _ => .int _ _) .nil))) (by kernel_rfl)) (.cons (u54_ (rs := [(5, .loc 5 0), (14, .p (.named 3) (((mget a1 a0).getD (TF.mk [] [] 0)) : TF))]) (v := .p (.named 3) (((mget a1 a0).getD (TF.mk [] [] 0)) : TF)) (mid' := [.p .str (((mget a1 a0).getD (TF.mk [] [] 0)).fN : List UInt8), .p .str (((mget a1 a0).getD (TF.mk [] [] 0)).fC : List UInt8), .p I6 (((mget a1 a0).getD (TF.mk [] [] 0)).fT : Int)]) [] [.p .str ([] : List UInt8), .p .str ([] : List UInt8), .p I6 (0 : Int)] [] rfl rfl rfl ty_24 o0 o1 (.data (.named (us := ([.p .str (((mget a1 a0).getD (TF.mk [] [] 0)).fN : List UInt8), .p .str (((mget a1 a0).getD (TF.mk [] [] 0)).fC : List UInt8), .p I6 (((mget a1 a0).getD (TF.mk [] [] 0)).fT : Int)] : List (AVal Un))) (.pair (.one _ _) (.pair (.one _ _) (.pair (.one _ _) .unit))))) rfl rfl rfl rfl rfl rfl) (.cons (mvA (v := .p .bool ((mget a1 a0).isSome : Bool)) rfl rfl) .nil)))))))))))) (by kernel_rfl) ?_
 refine tnS ?_
 refine rg4 (st1 := ⟨[(0, .loc 100000 0), (1, .p .str a1), (17, .p .bool ((!((mget a1 a0).isSome)) : Bool))], [(100000, .box [.mp 100001]), (100001, .map (.named 3) a0)]⟩) [0, 1, 17] [100000, 100001] hN (.cons (mvU (v := .p .bool ((mget a1 a0).isSome : Bool)) rfl rfl) (.cons (u50_ (rs := [(16, .p .bool ((mget a1 a0).isSome : Bool))]) rfl rfl o0) .nil)) (by kernel_rfl) ?_
 refine tnU ?_
 refine cdU (b := (!((mget a1 a0).isSome))) (.tmp m2_) (fun hc1 => ?_) (fun hc1 => ?_)
 ·replace h := ite_t hc1 h
  refine sq_ ?_
  refine rg4 (st1 := ⟨[(4, .p .err (8 : Nat))], [(100000, .box [.mp 100001]), (100001, .map (.named 3) a0)]⟩) [4] [100000, 100001] hN (.cons (u41_ (t := .err) (rs := []) rfl rfl ty_31 rfl rfl (hO.var 7 1 rfl) (fun S w => .err 7)) (.cons (mvA (v := .p .err (8 : Nat)) rfl rfl) .nil)) (by kernel_rfl) ?_
  refine tnU ?_
  refine wr_ ?_
  refine tr_ ?_
  have hq := Option.some.inj h
  subst hq
  exact ends_ret (retV_1 rfl (.head _)) (ain_cons (.head _) (ain_cons m1_ ain_nil))
 ·replace h := ite_f hc1 h
  refine wc_ (cvK (b := ⟨[(0, .loc 100000 0), (1, .p .str a1)], [(100000, .box [.mp 100001]), (100001, .map (.named 3) a0)]⟩) [0, 1] [100000, 100001] (by kernel_rfl)) (ws_ ?_)
  refine tnS ?_
  refine rg4 (st1 := ⟨[], [(100000, .box [.mp 100001]), (100001, .map (.named 3) ((mdel a1 a0) : List ((List UInt8) × TF)))]⟩) [] [100000, 100001] hN (.cons (mvU (v := .loc 100000 0) rfl rfl) (.cons (nlU (rs := [(19, .loc 100000 0)]) rfl rfl o0 rfl) (.cons (fdB (rs := [(20, .loc 100000 0)]) rfl rfl fd_89_0 (by decide) o0) (.cons (ldB (t := .bool) (rs := [(21, .loc 100000 0)]) [] [.mp 100001] [] (v := .mp 100001) rfl rfl ty1_86 o0 rfl rfl rfl rfl (.hand rfl rfl)) (.cons (mvU (v := .p .str a1) rfl rfl) (.cons (u28_ (t := .named 3) (kvs := a0) (rs := [(22, .mp 100001), (23, .p .str a1)]) rfl rfl map_86 o0 o1) .nil)))))) (by kernel_rfl) ?_
  refine tnS ?_
  refine rg4 (st1 := ⟨[(4, .lit .nilIface)], [(100000, .box [.mp 100001]), (100001, .map (.named 3) ((mdel a1 a0) : List ((List UInt8) × TF)))]⟩) [4] [100000, 100001] hN (.cons (moU (rs := []) rfl (.inr rfl) (.lit _ _ rfl)) .nil) (by kernel_rfl) ?_
  refine tnU ?_
  refine wc_ (cvT (u5_ 4 (.head _)) (cvK (b := ⟨[(4, .p .err (0 : Nat))], [(100000, .box [.mp 100001]), (100001, .map (.named 3) ((mdel a1 a0) : List ((List UInt8) × TF)))]⟩) [4] [100000, 100001] (by kernel_rfl))) (wr_ ?_)
  have hq := Option.some.inj h
  subst hq
  exact ends_ret (retV_1 rfl (.head _)) (ain_cons (.head _) (ain_cons m1_ ain_nil))

theorem delta_do_m0.ok (O : Out) (hO : GOk O) (k : Nat) (a0 : List ((List UInt8) × TF)) (a1 : List TC) (out : Nat × (List ((List UInt8) × TF))) (h : delta_do_m0.f k a0 a1 = some out) : COk Un O Tryd.prog 63 { ar := [.loc 100000 0, .p (.list (.named 6)) a1], r := .p .err out.1, bs := [(100000, .box [.mp 100001]), (100001, .map (.named 3) a0)], bs' := [(100000, .box [.mp 100001]), (100001, .map (.named 3) out.2)] } := by
 refine cok_of_wp Tryd.func63 rfl (k := 53) rfl (Nat.le_of_ble_eq_true rfl) (namesOk_of (by kernel_rfl)) ?_
 intro B hN
 refine ckS (b := ⟨[(0, .loc 100000 0), (1, .p (.list (.named 6)) a1)], [(100000, .box [.mp 100001]), (100001, .map (.named 3) a0)]⟩) [0, 1] [100000, 100001] (by kernel_rfl) ?_
 unfold delta_do_m0.f at h
 refine sq_ ?_
 refine rg4 (st1 := ⟨[(0, .loc 100000 0), (1, .p (.list (.named 6)) a1)], [(100000, .box [.mp 100001]), (100001, .map (.named 3) a0)]⟩) [0, 1] [100000, 100001] hN (.cons (moU (rs := []) rfl (.inr rfl) (.lit _ _ rfl)) .nil) (by kernel_rfl) ?_
 refine tnU ?_
 refine sqJ (fun st' => ∃ v1 : List ((List UInt8) × TF), delta_do_m0.j19 k a1 v1 = some out ∧ st' = ⟨[(0, .loc 100000 0), (1, .p (.list (.named 6)) a1)], [(100000, .box [.mp 100001]), (100001, .map (.named 3) v1)]⟩) ?_ ?_
 ·refine sq_ ?_
  refine rg4 (st1 := ⟨[(0, .loc 100000 0), (1, .p (.list (.named 6)) a1), (11, .p (.list (.named 6)) a1), (12, .p I6 ((a1.length : Int) : Int)), (13, .p I6 (0 : Int))], [(100000, .box [.mp 100001]), (100001, .map (.named 3) a0)]⟩) [0, 1, 11, 12, 13] [100000, 100001] hN (.cons (mvU (v := .p (.list (.named 6)) a1) rfl rfl) (.cons (u36_ (rs := [(11, .p (.list (.named 6)) a1)]) rfl rfl Tryd.underlying60 o0) (.cons (moU (rs := []) rfl (.inl rfl) (.int _ _ _)) .nil))) (by kernel_rfl) ?_
  refine tnU ?_
  refine wb_ ?_
  obtain ⟨o24, hlo24, h⟩ := bind_some h
  have hout25 := h
  clear h
  refine u14_ (fun n st' => ∃ v20 : List ((List UInt8) × TF), ∃ v21 : Int, delta_do_m0.l22 k a1 n v20 v21 = some o24 ∧ st' = ⟨[(0, .loc 100000 0), (1, .p (.list (.named 6)) a1), (11, .p (.list (.named 6)) a1), (12, .p I6 ((a1.length : Int) : Int)), (13, .p I6 v21)], [(100000, .box [.mp 100001]), (100001, .map (.named 3) v20)]⟩) k ⟨a0, 0, hlo24, rfl⟩ ?_
  clear hlo24
  rintro (_ | n) _ ⟨v20, v21, h, rfl⟩
  ·cases h
  ·rw [delta_do_m0.l22] at h
   refine sq_ ?_
   refine rg4 (st1 := ⟨[(0, .loc 100000 0), (1, .p (.list (.named 6)) a1), (11, .p (.list (.named 6)) a1), (12, .p I6 ((a1.length : Int) : Int)), (13, .p I6 v21), (14, .p .bool ((decide (v21 < (a1.length : Int))) : Bool))], [(100000, .box [.mp 100001]), (100001, .map (.named 3) v20)]⟩) [0, 1, 11, 12, 13, 14] [100000, 100001] hN (.cons (cmU (rs := [(13, .p I6 v21), (12, .p I6 ((a1.length : Int) : Int))]) rfl rfl o0 o1 rfl) .nil) (by kernel_rfl) ?_
   refine tnS ?_
   refine cdU (b := (decide (v21 < (a1.length : Int)))) (.tmp m5_) (fun hc26 => ?_) (fun hc26 => ?_)
   ·replace h := ite_t hc26 h
    refine wc_ (cvK (b := ⟨[(0, .loc 100000 0), (1, .p (.list (.named 6)) a1), (11, .p (.list (.named 6)) a1), (12, .p I6 ((a1.length : Int) : Int)), (13, .p I6 v21)], [(100000, .box [.mp 100001]), (100001, .map (.named 3) v20)]⟩) [0, 1, 11, 12, 13] [100000, 100001] (by kernel_rfl)) (ws_ ?_)
    refine tnU ?_
    refine sqJ (fun st' => ∃ v27 : List ((List UInt8) × TF), delta_do_m0.j28 k (delta_do_m0.l22 k a1 n) a1 v21 v27 = some o24 ∧ st' = ⟨[(0, .loc 100000 0), (1, .p (.list (.named 6)) a1), (11, .p (.list (.named 6)) a1), (12, .p I6 ((a1.length : Int) : Int)), (13, .p I6 v21)], [(100000, .box [.mp 100001]), (100001, .map (.named 3) v27)]⟩) ?_ ?_
    ·refine wb_ ?_
     refine sq_ ?_
     obtain ⟨v29, hv29, h⟩ := bind_some h
     refine rg4 (st1 := ⟨[(0, .loc 100000 0), (1, .p (.list (.named 6)) a1), (6, .loc 6 0), (11, .p (.list (.named 6)) a1), (12, .p I6 ((a1.length : Int) : Int)), (13, .p I6 v21)], [(6, .box [.p I6 v29.fK, .p .str v29.fO.fN, .p .str v29.fO.fC, .p I6 v29.fO.fT, .p .str v29.fW.fN, .p .str v29.fW.fC, .p I6 v29.fW.fT]), (100000, .box [.mp 100001]), (100001, .map (.named 3) v20)]⟩) [0, 1, 6, 11, 12, 13] [6, 100000, 100001] hN (.cons (u33_ (rs := [(11, .p (.list (.named 6)) a1), (13, .p I6 v21)]) rfl rfl sl_60 o0 o1 hv29) (.cons (u42_ (rs := [(15, .pp (.named 6) v29)]) rfl rfl ty_103 o0) (.cons (u18_ (rs := []) (d := 6) (us := [.p I6 (0 : Int), .p .str ([] : List UInt8), .p .str ([] : List UInt8), .p I6 (0 : Int), .p .str ([] : List UInt8), .p .str ([] : List UInt8), .p I6 (0 : Int)]) (v := (.agg #[.int .i64 0, .string ByteArray.empty, .string ByteArray.empty, .int .i64 0, .string ByteArray.empty, .string ByteArray.empty, .int .i64 0])) rfl rfl rfl (by kernel_rfl) rfl (.data (fun _ _ _ => .int _ _) (.data (fun _ _ _ => rd_str0) (.data (fun _ _ _ => rd_str0) (.data (fun _ _ _ => .int _ _) (.data (fun _ _ _ => rd_str0) (.data (fun _ _ _ => rd_str0) (.data (fun _ _ _ => .int _ _) .nil))))))) (by kernel_rfl)) (.cons (u54_ (rs := [(6, .loc 6 0), (16, .p (.named 6) v29)]) (v := .p (.named 6) v29) (mid' := [.p I6 v29.fK, .p .str v29.fO.fN, .p .str v29.fO.fC, .p I6 v29.fO.fT, .p .str v29.fW.fN, .p .str v29.fW.fC, .p I6 v29.fW.fT]) [] [.p I6 (0 : Int), .p .str ([] : List UInt8), .p .str ([] : List UInt8), .p I6 (0 : Int), .p .str ([] : List UInt8), .p .str ([] : List UInt8), .p I6 (0 : Int)] [] rfl rfl rfl ty_103 o0 o1 (.data (.named (us := ([.p I6 v29.fK, .p .str v29.fO.fN, .p .str v29.fO.fC, .p I6 v29.fO.fT, .p .str v29.fW.fN, .p .str v29.fW.fC, .p I6 v29.fW.fT] : List (AVal Un))) (.pair (.one _ _) (.pair (.named (us := ([.p .str v29.fO.fN, .p .str v29.fO.fC, .p I6 v29.fO.fT] : List (AVal Un))) (.pair (.one _ _) (.pair (.one _ _) (.pair (.one _ _) .unit)))) (.pair (.named (us := ([.p .str v29.fW.fN, .p .str v29.fW.fC, .p I6 v29.fW.fT] : List (AVal Un))) (.pair (.one _ _) (.pair (.one _ _) (.pair (.one _ _) .unit)))) .unit))))) rfl rfl rfl rfl rfl rfl) .nil)))) (by kernel_rfl) ?_
     refine tnS ?_
     refine rg4 (st1 := ⟨[(0, .loc 100000 0), (1, .p (.list (.named 6)) a1), (6, .loc 6 0), (11, .p (.list (.named 6)) a1), (12, .p I6 ((a1.length : Int) : Int)), (13, .p I6 v21), (19, .p .bool ((v29.fK == 3) : Bool))], [(6, .box [.p I6 v29.fK, .p .str v29.fO.fN, .p .str v29.fO.fC, .p I6 v29.fO.fT, .p .str v29.fW.fN, .p .str v29.fW.fC, .p I6 v29.fW.fT]), (100000, .box [.mp 100001]), (100001, .map (.named 3) v20)]⟩) [0, 1, 6, 11, 12, 13, 19] [6, 100000, 100001] hN (.cons (fdB (rs := [(6, .loc 6 0)]) rfl rfl fd_103_0 (by decide) o0) (.cons (ldB (t := .int .i64) (rs := [(17, .loc 6 0)]) [] [.p I6 v29.fK] [.p .str v29.fO.fN, .p .str v29.fO.fC, .p I6 v29.fO.fT, .p .str v29.fW.fN, .p .str v29.fW.fC, .p I6 v29.fW.fT] (v := .p I6 v29.fK) rfl rfl ty_3 o0 rfl rfl rfl rfl (.data (.one _ _))) (.cons (cmU (rs := [(18, .p I6 v29.fK)]) rfl rfl o0 (.int _ _ _) rfl) .nil))) (by kernel_rfl) ?_
     refine tnU ?_
     refine cdU (b := (v29.fK == 3)) (.tmp m6_) (fun hc30 => ?_) (fun hc30 => ?_)
     ·replace h := ite_t hc30 h
      refine sq_ ?_
      obtain ⟨v31, hv31, h⟩ := bind_some h
      refine rg4 (st1 := ⟨[(0, .loc 100000 0), (1, .p (.list (.named 6)) a1), (7, .p .err v31.1), (11, .p (.list (.named 6)) a1), (12, .p I6 ((a1.length : Int) : Int)), (13, .p I6 v21)], [(100000, .box [.mp 100001]), (100001, .map (.named 3) v31.2)]⟩) [0, 1, 7, 11, 12, 13] [100000, 100001] hN (.cons (mvU (v := .loc 100000 0) rfl rfl) (.cons (fdB (rs := [(6, .loc 6 0)]) rfl rfl fd_103_1 (by decide) o0) (.cons (fdB (rs := [(21, .loc 6 1)]) rfl rfl fd_24_0 (by decide) o0) (.cons (ldB (t := .str) (rs := [(22, .loc 6 1)]) [.p I6 v29.fK] [.p .str v29.fO.fN] [.p .str v29.fO.fC, .p I6 v29.fO.fT, .p .str v29.fW.fN, .p .str v29.fW.fC, .p I6 v29.fW.fT] (v := .p .str v29.fO.fN) rfl rfl ty_9 o0 rfl rfl rfl rfl (.data (.one _ _))) (.cons (caV (rs := [(20, .loc 100000 0), (23, .p .str v29.fO.fN)]) (vw := []) rfl rfl (.func _) hb_15 (COk.ren (tree_Tree_Remove_m0.ok O hO k v20 v29.fO.fN v31 hv31) (fun n => if n = 100000 then 100000 else if n = 100001 then 100001 else n) (injOn_of (by kernel_rfl))) (.cons o0 (.cons o1 .nil)) (.cons (.same _) (.cons (.same _) .nil)) (by simp) (.inl rfl)) (.cons (mvA (v := .p .err v31.1) rfl rfl) .nil)))))) (by kernel_rfl) ?_
      refine tnS ?_
      refine rg4 (st1 := ⟨[(0, .loc 100000 0), (1, .p (.list (.named 6)) a1), (7, .p .err v31.1), (11, .p (.list (.named 6)) a1), (12, .p I6 ((a1.length : Int) : Int)), (13, .p I6 v21), (26, .p .bool ((!(v31.1 == 0)) : Bool))], [(100000, .box [.mp 100001]), (100001, .map (.named 3) v31.2)]⟩) [0, 1, 7, 11, 12, 13, 26] [100000, 100001] hN (.cons (mvU (v := .p .err v31.1) rfl rfl) (.cons (u31_ (rs := [(25, .p .err v31.1)]) rfl rfl Tryd.underlying31 o0 rfl) .nil)) (by kernel_rfl) ?_
      refine tnU ?_
      refine cdU (b := (!(v31.1 == 0))) (.tmp m6_) (fun hc32 => ?_) (fun hc32 => ?_)
      ·replace h := ite_t hc32 h
       refine sq_ ?_
       refine rg4 (st1 := ⟨[(4, .p .err v31.1)], [(100000, .box [.mp 100001]), (100001, .map (.named 3) v31.2)]⟩) [4] [100000, 100001] hN (.cons (mvU (v := .p .err v31.1) rfl rfl) (.cons (mvA (v := .p .err v31.1) rfl rfl) .nil)) (by kernel_rfl) ?_
       refine tnU ?_
       refine wr_ ?_
       refine blockQ_ret ?_
       refine tr_ ?_
       have hq := Option.some.inj h
       subst hq
       refine tr_ ?_
       have h := hout25
       refine blockQ_ret ?_
       refine tr_ ?_
       have hq := Option.some.inj h
       subst hq
       exact ends_ret (retV_1 rfl (.head _)) (ain_cons (.head _) (ain_cons m1_ ain_nil))
      ·replace h := ite_f hc32 h
       refine wc_ (cvK (b := ⟨[(0, .loc 100000 0), (1, .p (.list (.named 6)) a1), (11, .p (.list (.named 6)) a1), (12, .p I6 ((a1.length : Int) : Int)), (13, .p I6 v21)], [(100000, .box [.mp 100001]), (100001, .map (.named 3) v31.2)]⟩) [0, 1, 11, 12, 13] [100000, 100001] (by kernel_rfl)) (ws_ ?_)
       refine bn_ ?_
       refine tnU ?_
       exact ⟨v31.2, h, rfl⟩
     ·replace h := ite_f hc30 h
      refine wc_ (cvK (b := ⟨[(0, .loc 100000 0), (1, .p (.list (.named 6)) a1), (11, .p (.list (.named 6)) a1), (12, .p I6 ((a1.length : Int) : Int)), (13, .p I6 v21)], [(100000, .box [.mp 100001]), (100001, .map (.named 3) v20)]⟩) [0, 1, 11, 12, 13] [100000, 100001] (by kernel_rfl)) (ws_ ?_)
      refine bn_ ?_
      refine tnU ?_
      exact ⟨v20, h, rfl⟩
    ·rintro _ ⟨v27, h, rfl⟩
     unfold delta_do_m0.j28 at h
     refine rg4 (st1 := ⟨[(0, .loc 100000 0), (1, .p (.list (.named 6)) a1), (11, .p (.list (.named 6)) a1), (12, .p I6 ((a1.length : Int) : Int)), (13, .p I6 ((IntKind.i64.wrap (v21 + 1)) : Int))], [(100000, .box [.mp 100001]), (100001, .map (.named 3) v27)]⟩) [0, 1, 11, 12, 13] [100000, 100001] hN (.cons (u21_ (rs := [(13, .p I6 v21)]) rfl rfl o0 (.int _ _ _) rfl) (.cons (mvU (v := .p I6 ((IntKind.i64.wrap (v21 + 1)) : Int)) rfl rfl) .nil)) (by kernel_rfl) ?_
     refine tnU ?_
     exact ⟨n, Nat.lt_succ_self n, v27, (IntKind.i64.wrap (v21 + 1)), h, rfl⟩
   ·replace h := ite_f hc26 h
    refine wc_ (cvK (b := ⟨[(0, .loc 100000 0), (1, .p (.list (.named 6)) a1)], [(100000, .box [.mp 100001]), (100001, .map (.named 3) v20)]⟩) [0, 1] [100000, 100001] (by kernel_rfl)) (we_ ?_)
    refine te_ ?_
    have hq := Option.some.inj h
    subst hq
    refine te_ ?_
    have h := hout25
    refine blockQ_hit ?_
    refine tnU ?_
    exact ⟨v20, h, rfl⟩
 ·rintro _ ⟨v1, h, rfl⟩
  unfold delta_do_m0.j19 at h
  refine sqJ (fun st' => ∃ v2 : List ((List UInt8) × TF), delta_do_m0.j3 k v2 = some out ∧ st' = ⟨[], [(100000, .box [.mp 100001]), (100001, .map (.named 3) v2)]⟩) ?_ ?_
  ·refine sq_ ?_
   refine rg4 (st1 := ⟨[(0, .loc 100000 0), (29, .p (.list (.named 6)) a1), (30, .p I6 ((a1.length : Int) : Int)), (31, .p I6 (0 : Int))], [(100000, .box [.mp 100001]), (100001, .map (.named 3) v1)]⟩) [0, 29, 30, 31] [100000, 100001] hN (.cons (mvU (v := .p (.list (.named 6)) a1) rfl rfl) (.cons (u36_ (rs := [(29, .p (.list (.named 6)) a1)]) rfl rfl Tryd.underlying60 o0) (.cons (moU (rs := []) rfl (.inl rfl) (.int _ _ _)) .nil))) (by kernel_rfl) ?_
   refine tnU ?_
   refine wb_ ?_
   obtain ⟨o8, hlo8, h⟩ := bind_some h
   have hout9 := h
   clear h
   refine u14_ (fun n st' => ∃ v4 : List ((List UInt8) × TF), ∃ v5 : Int, delta_do_m0.l6 k a1 n v4 v5 = some o8 ∧ st' = ⟨[(0, .loc 100000 0), (29, .p (.list (.named 6)) a1), (30, .p I6 ((a1.length : Int) : Int)), (31, .p I6 v5)], [(100000, .box [.mp 100001]), (100001, .map (.named 3) v4)]⟩) k ⟨v1, 0, hlo8, rfl⟩ ?_
   clear hlo8
   rintro (_ | n) _ ⟨v4, v5, h, rfl⟩
   ·cases h
   ·rw [delta_do_m0.l6] at h
    refine sq_ ?_
    refine rg4 (st1 := ⟨[(0, .loc 100000 0), (29, .p (.list (.named 6)) a1), (30, .p I6 ((a1.length : Int) : Int)), (31, .p I6 v5), (32, .p .bool ((decide (v5 < (a1.length : Int))) : Bool))], [(100000, .box [.mp 100001]), (100001, .map (.named 3) v4)]⟩) [0, 29, 30, 31, 32] [100000, 100001] hN (.cons (cmU (rs := [(31, .p I6 v5), (30, .p I6 ((a1.length : Int) : Int))]) rfl rfl o0 o1 rfl) .nil) (by kernel_rfl) ?_
    refine tnS ?_
    refine cdU (b := (decide (v5 < (a1.length : Int)))) (.tmp m4_) (fun hc10 => ?_) (fun hc10 => ?_)
    ·replace h := ite_t hc10 h
     refine wc_ (cvK (b := ⟨[(0, .loc 100000 0), (29, .p (.list (.named 6)) a1), (30, .p I6 ((a1.length : Int) : Int)), (31, .p I6 v5)], [(100000, .box [.mp 100001]), (100001, .map (.named 3) v4)]⟩) [0, 29, 30, 31] [100000, 100001] (by kernel_rfl)) (ws_ ?_)
     refine tnU ?_
     refine sqJ (fun st' => ∃ v11 : List ((List UInt8) × TF), delta_do_m0.j12 k (delta_do_m0.l6 k a1 n) a1 v5 v11 = some o8 ∧ st' = ⟨[(0, .loc 100000 0), (29, .p (.list (.named 6)) a1), (30, .p I6 ((a1.length : Int) : Int)), (31, .p I6 v5)], [(100000, .box [.mp 100001]), (100001, .map (.named 3) v11)]⟩) ?_ ?_
     ·refine wb_ ?_
      refine sq_ ?_
      obtain ⟨v13, hv13, h⟩ := bind_some h
      refine rg4 (st1 := ⟨[(0, .loc 100000 0), (9, .loc 9 0), (29, .p (.list (.named 6)) a1), (30, .p I6 ((a1.length : Int) : Int)), (31, .p I6 v5)], [(9, .box [.p I6 v13.fK, .p .str v13.fO.fN, .p .str v13.fO.fC, .p I6 v13.fO.fT, .p .str v13.fW.fN, .p .str v13.fW.fC, .p I6 v13.fW.fT]), (100000, .box [.mp 100001]), (100001, .map (.named 3) v4)]⟩) [0, 9, 29, 30, 31] [9, 100000, 100001] hN (.cons (u33_ (rs := [(29, .p (.list (.named 6)) a1), (31, .p I6 v5)]) rfl rfl sl_60 o0 o1 hv13) (.cons (u42_ (rs := [(33, .pp (.named 6) v13)]) rfl rfl ty_103 o0) (.cons (u18_ (rs := []) (d := 9) (us := [.p I6 (0 : Int), .p .str ([] : List UInt8), .p .str ([] : List UInt8), .p I6 (0 : Int), .p .str ([] : List UInt8), .p .str ([] : List UInt8), .p I6 (0 : Int)]) (v := (.agg #[.int .i64 0, .string ByteArray.empty, .string ByteArray.empty, .int .i64 0, .string ByteArray.empty, .string ByteArray.empty, .int .i64 0])) rfl rfl rfl (by kernel_rfl) rfl (.data (fun _ _ _ => .int _ _) (.data (fun _ _ _ => rd_str0) (.data (fun _ _ _ => rd_str0) (.data (fun _ _ _ => .int _ _) (.data (fun _ _ _ => rd_str0) (.data (fun _ _ _ => rd_str0) (.data (fun _ _ _ => .int _ _) .nil))))))) (by kernel_rfl)) (.cons (u54_ (rs := [(9, .loc 9 0), (34, .p (.named 6) v13)]) (v := .p (.named 6) v13) (mid' := [.p I6 v13.fK, .p .str v13.fO.fN, .p .str v13.fO.fC, .p I6 v13.fO.fT, .p .str v13.fW.fN, .p .str v13.fW.fC, .p I6 v13.fW.fT]) [] [.p I6 (0 : Int), .p .str ([] : List UInt8), .p .str ([] : List UInt8), .p I6 (0 : Int), .p .str ([] : List UInt8), .p .str ([] : List UInt8), .p I6 (0 : Int)] [] rfl rfl rfl ty_103 o0 o1 (.data (.named (us := ([.p I6 v13.fK, .p .str v13.fO.fN, .p .str v13.fO.fC, .p I6 v13.fO.fT, .p .str v13.fW.fN, .p .str v13.fW.fC, .p I6 v13.fW.fT] : List (AVal Un))) (.pair (.one _ _) (.pair (.named (us := ([.p .str v13.fO.fN, .p .str v13.fO.fC, .p I6 v13.fO.fT] : List (AVal Un))) (.pair (.one _ _) (.pair (.one _ _) (.pair (.one _ _) .unit)))) (.pair (.named (us := ([.p .str v13.fW.fN, .p .str v13.fW.fC, .p I6 v13.fW.fT] : List (AVal Un))) (.pair (.one _ _) (.pair (.one _ _) (.pair (.one _ _) .unit)))) .unit))))) rfl rfl rfl rfl rfl rfl) .nil)))) (by kernel_rfl) ?_
      refine tnS ?_
      refine rg4 (st1 := ⟨[(0, .loc 100000 0), (9, .loc 9 0), (29, .p (.list (.named 6)) a1), (30, .p I6 ((a1.length : Int) : Int)), (31, .p I6 v5), (37, .p .bool ((v13.fK != 3) : Bool))], [(9, .box [.p I6 v13.fK, .p .str v13.fO.fN, .p .str v13.fO.fC, .p I6 v13.fO.fT, .p .str v13.fW.fN, .p .str v13.fW.fC, .p I6 v13.fW.fT]), (100000, .box [.mp 100001]), (100001, .map (.named 3) v4)]⟩) [0, 9, 29, 30, 31, 37] [9, 100000, 100001] hN (.cons (fdB (rs := [(9, .loc 9 0)]) rfl rfl fd_103_0 (by decide) o0) (.cons (ldB (t := .int .i64) (rs := [(35, .loc 9 0)]) [] [.p I6 v13.fK] [.p .str v13.fO.fN, .p .str v13.fO.fC, .p I6 v13.fO.fT, .p .str v13.fW.fN, .p .str v13.fW.fC, .p I6 v13.fW.fT] (v := .p I6 v13.fK) rfl rfl ty_3 o0 rfl rfl rfl rfl (.data (.one _ _))) (.cons (cmU (rs := [(36, .p I6 v13.fK)]) rfl rfl o0 (.int _ _ _) rfl) .nil))) (by kernel_rfl) ?_
      refine tnU ?_
      refine cdU (b := (v13.fK != 3)) (.tmp m5_) (fun hc14 => ?_) (fun hc14 => ?_)
      ·replace h := ite_t hc14 h
       refine sq_ ?_
       obtain ⟨v15, hv15, h⟩ := bind_some h
       refine rg4 (st1 := ⟨[(0, .loc 100000 0), (10, .p .err v15.1), (29, .p (.list (.named 6)) a1), (30, .p I6 ((a1.length : Int) : Int)), (31, .p I6 v5)], [(100000, .box [.mp 100001]), (100001, .map (.named 3) v15.2)]⟩) [0, 10, 29, 30, 31] [100000, 100001] hN (.cons (mvU (v := .loc 100000 0) rfl rfl) (.cons (fdB (rs := [(9, .loc 9 0)]) rfl rfl fd_103_2 (by decide) o0) (.cons (fdB (rs := [(39, .loc 9 4)]) rfl rfl fd_24_0 (by decide) o0) (.cons (ldB (t := .str) (rs := [(40, .loc 9 4)]) [.p I6 v13.fK, .p .str v13.fO.fN, .p .str v13.fO.fC, .p I6 v13.fO.fT] [.p .str v13.fW.fN] [.p .str v13.fW.fC, .p I6 v13.fW.fT] (v := .p .str v13.fW.fN) rfl rfl ty_9 o0 rfl rfl rfl rfl (.data (.one _ _))) (.cons (fdB (rs := [(9, .loc 9 0)]) rfl rfl fd_103_2 (by decide) o0) (.cons (fdB (rs := [(42, .loc 9 4)]) rfl rfl fd_24_1 (by decide) o0) (.cons (ldB (t := .str) (rs := [(43, .loc 9 5)]) [.p I6 v13.fK, .p .str v13.fO.fN, .p .str v13.fO.fC, .p I6 v13.fO.fT, .p .str v13.fW.fN] [.p .str v13.fW.fC] [.p I6 v13.fW.fT] (v := .p .str v13.fW.fC) rfl rfl ty_9 o0 rfl rfl rfl rfl (.data (.one _ _))) (.cons (fdB (rs := [(9, .loc 9 0)]) rfl rfl fd_103_2 (by decide) o0) (.cons (fdB (rs := [(45, .loc 9 4)]) rfl rfl fd_24_2 (by decide) o0) (.cons (ldB (t := .int .i64) (rs := [(46, .loc 9 6)]) [.p I6 v13.fK, .p .str v13.fO.fN, .p .str v13.fO.fC, .p I6 v13.fO.fT, .p .str v13.fW.fN, .p .str v13.fW.fC] [.p I6 v13.fW.fT] [] (v := .p I6 v13.fW.fT) rfl rfl ty_3 o0 rfl rfl rfl rfl (.data (.one _ _))) (.cons (caV (rs := [(38, .loc 100000 0), (41, .p .str v13.fW.fN), (44, .p .str v13.fW.fC), (47, .p I6 v13.fW.fT)]) (vw := []) rfl rfl (.func _) hb_13 (COk.ren (tree_Tree_Put_m0.ok O hO k v4 v13.fW.fN v13.fW.fC v13.fW.fT v15 hv15) (fun n => if n = 100000 then 100000 else if n = 100001 then 100001 else n) (injOn_of (by kernel_rfl))) (.cons o0 (.cons o1 (.cons (.tmp m2_) (.cons (.tmp m3_) .nil)))) (.cons (.same _) (.cons (.same _) (.cons (.same _) (.cons (.same _) .nil)))) (by simp) (.inl rfl)) (.cons (mvA (v := .p .err v15.1) rfl rfl) .nil)))))))))))) (by kernel_rfl) ?_
       refine tnS ?_
       refine rg4 (st1 := ⟨[(0, .loc 100000 0), (10, .p .err v15.1), (29, .p (.list (.named 6)) a1), (30, .p I6 ((a1.length : Int) : Int)), (31, .p I6 v5), (50, .p .bool ((!(v15.1 == 0)) : Bool))], [(100000, .box [.mp 100001]), (100001, .map (.named 3) v15.2)]⟩) [0, 10, 29, 30, 31, 50] [100000, 100001] hN (.cons (mvU (v := .p .err v15.1) rfl rfl) (.cons (u31_ (rs := [(49, .p .err v15.1)]) rfl rfl Tryd.underlying31 o0 rfl) .nil)) (by kernel_rfl) ?_
       refine tnU ?_
       refine cdU (b := (!(v15.1 == 0))) (.tmp m5_) (fun hc16 => ?_) (fun hc16 => ?_)
       ·replace h := ite_t hc16 h
        refine sq_ ?_
        refine rg4 (st1 := ⟨[(4, .p .err v15.1)], [(100000, .box [.mp 100001]), (100001, .map (.named 3) v15.2)]⟩) [4] [100000, 100001] hN (.cons (mvU (v := .p .err v15.1) rfl rfl) (.cons (mvA (v := .p .err v15.1) rfl rfl) .nil)) (by kernel_rfl) ?_
        refine tnU ?_
        refine wr_ ?_
        refine blockQ_ret ?_
        refine tr_ ?_
        have hq := Option.some.inj h
        subst hq
        refine tr_ ?_
        have h := hout9
        refine blockQ_ret ?_
        refine tr_ ?_
        have hq := Option.some.inj h
        subst hq
        exact ends_ret (retV_1 rfl (.head _)) (ain_cons (.head _) (ain_cons m1_ ain_nil))
       ·replace h := ite_f hc16 h
        refine wc_ (cvK (b := ⟨[(0, .loc 100000 0), (29, .p (.list (.named 6)) a1), (30, .p I6 ((a1.length : Int) : Int)), (31, .p I6 v5)], [(100000, .box [.mp 100001]), (100001, .map (.named 3) v15.2)]⟩) [0, 29, 30, 31] [100000, 100001] (by kernel_rfl)) (ws_ ?_)
        refine bn_ ?_
        refine tnU ?_
        exact ⟨v15.2, h, rfl⟩
      ·replace h := ite_f hc14 h
       refine wc_ (cvK (b := ⟨[(0, .loc 100000 0), (29, .p (.list (.named 6)) a1), (30, .p I6 ((a1.length : Int) : Int)), (31, .p I6 v5)], [(100000, .box [.mp 100001]), (100001, .map (.named 3) v4)]⟩) [0, 29, 30, 31] [100000, 100001] (by kernel_rfl)) (ws_ ?_)
       refine bn_ ?_
       refine tnU ?_
       exact ⟨v4, h, rfl⟩
     ·rintro _ ⟨v11, h, rfl⟩
      unfold delta_do_m0.j12 at h
      refine rg4 (st1 := ⟨[(0, .loc 100000 0), (29, .p (.list (.named 6)) a1), (30, .p I6 ((a1.length : Int) : Int)), (31, .p I6 ((IntKind.i64.wrap (v5 + 1)) : Int))], [(100000, .box [.mp 100001]), (100001, .map (.named 3) v11)]⟩) [0, 29, 30, 31] [100000, 100001] hN (.cons (u21_ (rs := [(31, .p I6 v5)]) rfl rfl o0 (.int _ _ _) rfl) (.cons (mvU (v := .p I6 ((IntKind.i64.wrap (v5 + 1)) : Int)) rfl rfl) .nil)) (by kernel_rfl) ?_
      refine tnU ?_
      exact ⟨n, Nat.lt_succ_self n, v11, (IntKind.i64.wrap (v5 + 1)), h, rfl⟩
    ·replace h := ite_f hc10 h
     refine wc_ (cvK (b := ⟨[], [(100000, .box [.mp 100001]), (100001, .map (.named 3) v4)]⟩) [] [100000, 100001] (by kernel_rfl)) (we_ ?_)
     refine te_ ?_
     have hq := Option.some.inj h
     subst hq
     refine te_ ?_
     have h := hout9
     refine blockQ_hit ?_
     refine tnU ?_
     exact ⟨v4, h, rfl⟩
  ·rintro _ ⟨v2, h, rfl⟩
   unfold delta_do_m0.j3 at h
   refine sq_ ?_
   refine rg4 (st1 := ⟨[(4, .lit .nilIface)], [(100000, .box [.mp 100001]), (100001, .map (.named 3) v2)]⟩) [4] [100000, 100001] hN (.cons (moU (rs := []) rfl (.inr rfl) (.lit _ _ rfl)) .nil) (by kernel_rfl) ?_
   refine tnU ?_
   refine wc_ (cvT (u5_ 4 (.head _)) (cvK (b := ⟨[(4, .p .err (0 : Nat))], [(100000, .box [.mp 100001]), (100001, .map (.named 3) v2)]⟩) [4] [100000, 100001] (by kernel_rfl))) (wr_ ?_)
   have hq := Option.some.inj h
   subst hq
   exact ends_ret (retV_1 rfl (.head _)) (ain_cons (.head _) (ain_cons m1_ ain_nil))

theorem delta_Apply_m0.ok (O : Out) (hO : GOk O) (k : Nat) (a0 : List ((List UInt8) × TF)) (a1 : List TC) (out : Nat × (List ((List UInt8) × TF))) (h : delta_Apply_m0.f k a0 a1 = some out) : COk Un O Tryd.prog 37 { ar := [.loc 100000 0, .p (.list (.named 6)) a1], r := .p .err out.1, bs := [(100000, .box [.mp 100001]), (100001, .map (.named 3) a0)], bs' := [(100000, .box [.mp 100001]), (100001, .map (.named 3) out.2)] } := by
 refine cok_of_wp Tryd.func37 rfl (k := 36) rfl (Nat.le_of_ble_eq_true rfl) (namesOk_of (by kernel_rfl)) ?_
 intro B hN
 refine ckS (b := ⟨[(0, .loc 100000 0), (1, .p (.list (.named 6)) a1)], [(100000, .box [.mp 100001]), (100001, .map (.named 3) a0)]⟩) [0, 1] [100000, 100001] (by kernel_rfl) ?_
 unfold delta_Apply_m0.f at h
 refine sq_ ?_
 refine rg4 (st1 := ⟨[(0, .loc 100000 0), (1, .p (.list (.named 6)) a1)], [(100000, .box [.mp 100001]), (100001, .map (.named 3) a0)]⟩) [0, 1] [100000, 100001] hN (.cons (moU (rs := []) rfl (.inr rfl) (.lit _ _ rfl)) .nil) (by kernel_rfl) ?_
 refine tnS ?_
 refine sq_ ?_
 obtain ⟨v1, hv1, h⟩ := bind_some h
 refine rg4 (st1 := ⟨[(0, .loc 100000 0), (1, .p (.list (.named 6)) a1), (5, .p .err v1)], [(100000, .box [.mp 100001]), (100001, .map (.named 3) a0)]⟩) [0, 1, 5] [100000, 100001] hN (.cons (mvU (v := .p (.list (.named 6)) a1) rfl rfl) (.cons (caV (rs := [(9, .p (.list (.named 6)) a1)]) (vw := []) rfl rfl (.func _) hb_39 (delta_Check.ok O hO k a1 v1 hv1) (.cons o0 .nil) (.cons (.same _) .nil) (by simp) (.inl rfl)) (.cons (mvA (v := .p .err v1) rfl rfl) .nil))) (by kernel_rfl) ?_
 refine tnS ?_
 refine rg4 (st1 := ⟨[(0, .loc 100000 0), (1, .p (.list (.named 6)) a1), (5, .p .err v1), (12, .p .bool ((!(v1 == 0)) : Bool))], [(100000, .box [.mp 100001]), (100001, .map (.named 3) a0)]⟩) [0, 1, 5, 12] [100000, 100001] hN (.cons (mvU (v := .p .err v1) rfl rfl) (.cons (u31_ (rs := [(11, .p .err v1)]) rfl rfl Tryd.underlying31 o0 rfl) .nil)) (by kernel_rfl) ?_
 refine tnU ?_
 refine cdU (b := (!(v1 == 0))) (.tmp m3_) (fun hc2 => ?_) (fun hc2 => ?_)
 ·replace h := ite_t hc2 h
  refine sq_ ?_
  refine rg4 (st1 := ⟨[(4, .p .err v1)], [(100000, .box [.mp 100001]), (100001, .map (.named 3) a0)]⟩) [4] [100000, 100001] hN (.cons (mvU (v := .p .err v1) rfl rfl) (.cons (mvA (v := .p .err v1) rfl rfl) .nil)) (by kernel_rfl) ?_
  refine tnU ?_
  refine wr_ ?_
  refine tr_ ?_
  have hq := Option.some.inj h
  subst hq
  exact ends_ret (retV_1 rfl (.head _)) (ain_cons (.head _) (ain_cons m1_ ain_nil))
 ·replace h := ite_f hc2 h
  refine wc_ (cvK (b := ⟨[(0, .loc 100000 0), (1, .p (.list (.named 6)) a1)], [(100000, .box [.mp 100001]), (100001, .map (.named 3) a0)]⟩) [0, 1] [100000, 100001] (by kernel_rfl)) (ws_ ?_)
  refine tnU ?_
  refine sqJ (fun st' => delta_Apply_m0.j7 k a0 a1 = some out ∧ st' = ⟨[(0, .loc 100000 0), (1, .p (.list (.named 6)) a1)], [(100000, .box [.mp 100001]), (100001, .map (.named 3) a0)]⟩) ?_ ?_
  ·refine sq_ ?_
   refine rg4 (st1 := ⟨[(0, .loc 100000 0), (1, .p (.list (.named 6)) a1), (14, .p (.list (.named 6)) a1), (15, .p I6 ((a1.length : Int) : Int)), (16, .p I6 (0 : Int))], [(100000, .box [.mp 100001]), (100001, .map (.named 3) a0)]⟩) [0, 1, 14, 15, 16] [100000, 100001] hN (.cons (mvU (v := .p (.list (.named 6)) a1) rfl rfl) (.cons (u36_ (rs := [(14, .p (.list (.named 6)) a1)]) rfl rfl Tryd.underlying60 o0) (.cons (moU (rs := []) rfl (.inl rfl) (.int _ _ _)) .nil))) (by kernel_rfl) ?_
   refine tnU ?_
   refine wb_ ?_
   obtain ⟨o10, hlo10, h⟩ := bind_some h
   have hout11 := h
   clear h
   refine u14_ (fun n st' => ∃ v8 : Int, delta_Apply_m0.l9 k a0 a1 n v8 = some o10 ∧ st' = ⟨[(0, .loc 100000 0), (1, .p (.list (.named 6)) a1), (14, .p (.list (.named 6)) a1), (15, .p I6 ((a1.length : Int) : Int)), (16, .p I6 v8)], [(100000, .box [.mp 100001]), (100001, .map (.named 3) a0)]⟩) k ⟨0, hlo10, rfl⟩ ?_
   clear hlo10
   rintro (_ | n) _ ⟨v8, h, rfl⟩
   ·cases h
   ·rw [delta_Apply_m0.l9] at h
    refine sq_ ?_
    refine rg4 (st1 := ⟨[(0, .loc 100000 0), (1, .p (.list (.named 6)) a1), (14, .p (.list (.named 6)) a1), (15, .p I6 ((a1.length : Int) : Int)), (16, .p I6 v8), (17, .p .bool ((decide (v8 < (a1.length : Int))) : Bool))], [(100000, .box [.mp 100001]), (100001, .map (.named 3) a0)]⟩) [0, 1, 14, 15, 16, 17] [100000, 100001] hN (.cons (cmU (rs := [(16, .p I6 v8), (15, .p I6 ((a1.length : Int) : Int))]) rfl rfl o0 o1 rfl) .nil) (by kernel_rfl) ?_
    refine tnS ?_
    refine cdU (b := (decide (v8 < (a1.length : Int)))) (.tmp m5_) (fun hc12 => ?_) (fun hc12 => ?_)
    ·replace h := ite_t hc12 h
     refine wc_ (cvK (b := ⟨[(0, .loc 100000 0), (1, .p (.list (.named 6)) a1), (14, .p (.list (.named 6)) a1), (15, .p I6 ((a1.length : Int) : Int)), (16, .p I6 v8)], [(100000, .box [.mp 100001]), (100001, .map (.named 3) a0)]⟩) [0, 1, 14, 15, 16] [100000, 100001] (by kernel_rfl)) (ws_ ?_)
     refine tnS ?_
     refine wb_ ?_
     refine sq_ ?_
     obtain ⟨v13, hv13, h⟩ := bind_some h
     refine rg4 (st1 := ⟨[(0, .loc 100000 0), (1, .p (.list (.named 6)) a1), (7, .loc 7 0), (14, .p (.list (.named 6)) a1), (15, .p I6 ((a1.length : Int) : Int)), (16, .p I6 v8)], [(7, .box [.p I6 v13.fK, .p .str v13.fO.fN, .p .str v13.fO.fC, .p I6 v13.fO.fT, .p .str v13.fW.fN, .p .str v13.fW.fC, .p I6 v13.fW.fT]), (100000, .box [.mp 100001]), (100001, .map (.named 3) a0)]⟩) [0, 1, 7, 14, 15, 16] [7, 100000, 100001] hN (.cons (u33_ (rs := [(14, .p (.list (.named 6)) a1), (16, .p I6 v8)]) rfl rfl sl_60 o0 o1 hv13) (.cons (u42_ (rs := [(18, .pp (.named 6) v13)]) rfl rfl ty_103 o0) (.cons (u18_ (rs := []) (d := 7) (us := [.p I6 (0 : Int), .p .str ([] : List UInt8), .p .str ([] : List UInt8), .p I6 (0 : Int), .p .str ([] : List UInt8), .p .str ([] : List UInt8), .p I6 (0 : Int)]) (v := (.agg #[.int .i64 0, .string ByteArray.empty, .string ByteArray.empty, .int .i64 0, .string ByteArray.empty, .string ByteArray.empty, .int .i64 0])) rfl rfl rfl (by kernel_rfl) rfl (.data (fun _ _ _ => .int _ _) (.data (fun _ _ _ => rd_str0) (.data (fun _ _ _ => rd_str0) (.data (fun _ _ _ => .int _ _) (.data (fun _ _ _ => rd_str0) (.data (fun _ _ _ => rd_str0) (.data (fun _ _ _ => .int _ _) .nil))))))) (by kernel_rfl)) (.cons (u54_ (rs := [(7, .loc 7 0), (19, .p (.named 6) v13)]) (v := .p (.named 6) v13) (mid' := [.p I6 v13.fK, .p .str v13.fO.fN, .p .str v13.fO.fC, .p I6 v13.fO.fT, .p .str v13.fW.fN, .p .str v13.fW.fC, .p I6 v13.fW.fT]) [] [.p I6 (0 : Int), .p .str ([] : List UInt8), .p .str ([] : List UInt8), .p I6 (0 : Int), .p .str ([] : List UInt8), .p .str ([] : List UInt8), .p I6 (0 : Int)] [] rfl rfl rfl ty_103 o0 o1 (.data (.named (us := ([.p I6 v13.fK, .p .str v13.fO.fN, .p .str v13.fO.fC, .p I6 v13.fO.fT, .p .str v13.fW.fN, .p .str v13.fW.fC, .p I6 v13.fW.fT] : List (AVal Un))) (.pair (.one _ _) (.pair (.named (us := ([.p .str v13.fO.fN, .p .str v13.fO.fC, .p I6 v13.fO.fT] : List (AVal Un))) (.pair (.one _ _) (.pair (.one _ _) (.pair (.one _ _) .unit)))) (.pair (.named (us := ([.p .str v13.fW.fN, .p .str v13.fW.fC, .p I6 v13.fW.fT] : List (AVal Un))) (.pair (.one _ _) (.pair (.one _ _) (.pair (.one _ _) .unit)))) .unit))))) rfl rfl rfl rfl rfl rfl) .nil)))) (by kernel_rfl) ?_
     refine tnS ?_
     obtain ⟨v14, hv14, h⟩ := bind_some h
     refine rg4 (st1 := ⟨[(0, .loc 100000 0), (1, .p (.list (.named 6)) a1), (14, .p (.list (.named 6)) a1), (15, .p I6 ((a1.length : Int) : Int)), (16, .p I6 v8), (23, .p .bool ((!v14) : Bool))], [(100000, .box [.mp 100001]), (100001, .map (.named 3) a0)]⟩) [0, 1, 14, 15, 16, 23] [100000, 100001] hN (.cons (ldB (t := .named 6) (rs := [(7, .loc 7 0)]) [] [.p I6 v13.fK, .p .str v13.fO.fN, .p .str v13.fO.fC, .p I6 v13.fO.fT, .p .str v13.fW.fN, .p .str v13.fW.fC, .p I6 v13.fW.fT] [] (v := .p (.named 6) ((TC.mk v13.fK (TF.mk v13.fO.fN v13.fO.fC v13.fO.fT) (TF.mk v13.fW.fN v13.fW.fC v13.fW.fT)) : TC)) rfl rfl ty_103 o0 rfl rfl rfl rfl (.data (.named (us := ([.p I6 v13.fK, .p .str v13.fO.fN, .p .str v13.fO.fC, .p I6 v13.fO.fT, .p .str v13.fW.fN, .p .str v13.fW.fC, .p I6 v13.fW.fT] : List (AVal Un))) (.pair (.one _ _) (.pair (.named (us := ([.p .str v13.fO.fN, .p .str v13.fO.fC, .p I6 v13.fO.fT] : List (AVal Un))) (.pair (.one _ _) (.pair (.one _ _) (.pair (.one _ _) .unit)))) (.pair (.named (us := ([.p .str v13.fW.fN, .p .str v13.fW.fC, .p I6 v13.fW.fT] : List (AVal Un))) (.pair (.one _ _) (.pair (.one _ _) (.pair (.one _ _) .unit)))) .unit)))))) (.cons (mvU (v := .loc 100000 0) rfl rfl) (.cons (caV (rs := [(20, .p (.named 6) ((TC.mk v13.fK (TF.mk v13.fO.fN v13.fO.fC v13.fO.fT) (TF.mk v13.fW.fN v13.fW.fC v13.fW.fT)) : TC)), (21, .loc 100000 0)]) (vw := []) rfl rfl (.func _) hb_62 (COk.ren (delta_Change_fits_m0.ok O hO k (TC.mk v13.fK (TF.mk v13.fO.fN v13.fO.fC v13.fO.fT) (TF.mk v13.fW.fN v13.fW.fC v13.fW.fT)) a0 v14 hv14) (fun n => if n = 100000 then 100000 else if n = 100001 then 100001 else n) (injOn_of (by kernel_rfl))) (.cons o0 (.cons o1 .nil)) (.cons (.same _) (.cons (.same _) .nil)) (by simp) (.inl rfl)) (.cons (u50_ (rs := [(22, .p .bool v14)]) rfl rfl o0) .nil)))) (by kernel_rfl) ?_
     refine tnU ?_
     refine cdU (b := (!v14)) (.tmp m5_) (fun hc15 => ?_) (fun hc15 => ?_)
     ·replace h := ite_t hc15 h
      refine sq_ ?_
      refine rg4 (st1 := ⟨[(4, .p .err (14 : Nat))], [(100000, .box [.mp 100001]), (100001, .map (.named 3) a0)]⟩) [4] [100000, 100001] hN (.cons (u41_ (t := .err) (rs := []) rfl rfl ty_31 rfl rfl (hO.var 13 2 rfl) (fun S w => .err 13)) (.cons (mvA (v := .p .err (14 : Nat)) rfl rfl) .nil)) (by kernel_rfl) ?_
      refine tnU ?_
      refine wr_ ?_
      refine blockQ_ret ?_
      refine tr_ ?_
      have hq := Option.some.inj h
      subst hq
      refine tr_ ?_
      have h := hout11
      refine blockQ_ret ?_
      refine tr_ ?_
      have hq := Option.some.inj h
      subst hq
      exact ends_ret (retV_1 rfl (.head _)) (ain_cons (.head _) (ain_cons m1_ ain_nil))
     ·replace h := ite_f hc15 h
      refine wc_ (cvK (b := ⟨[(0, .loc 100000 0), (1, .p (.list (.named 6)) a1), (14, .p (.list (.named 6)) a1), (15, .p I6 ((a1.length : Int) : Int)), (16, .p I6 v8)], [(100000, .box [.mp 100001]), (100001, .map (.named 3) a0)]⟩) [0, 1, 14, 15, 16] [100000, 100001] (by kernel_rfl)) (ws_ ?_)
      refine bn_ ?_
      refine tnU ?_
      refine rg4 (st1 := ⟨[(0, .loc 100000 0), (1, .p (.list (.named 6)) a1), (14, .p (.list (.named 6)) a1), (15, .p I6 ((a1.length : Int) : Int)), (16, .p I6 ((IntKind.i64.wrap (v8 + 1)) : Int))], [(100000, .box [.mp 100001]), (100001, .map (.named 3) a0)]⟩) [0, 1, 14, 15, 16] [100000, 100001] hN (.cons (u21_ (rs := [(16, .p I6 v8)]) rfl rfl o0 (.int _ _ _) rfl) (.cons (mvU (v := .p I6 ((IntKind.i64.wrap (v8 + 1)) : Int)) rfl rfl) .nil)) (by kernel_rfl) ?_
      refine tnU ?_
      exact ⟨n, Nat.lt_succ_self n, (IntKind.i64.wrap (v8 + 1)), h, rfl⟩
    ·replace h := ite_f hc12 h
     refine wc_ (cvK (b := ⟨[(0, .loc 100000 0), (1, .p (.list (.named 6)) a1)], [(100000, .box [.mp 100001]), (100001, .map (.named 3) a0)]⟩) [0, 1] [100000, 100001] (by kernel_rfl)) (we_ ?_)
     refine te_ ?_
     have hq := Option.some.inj h
     subst hq
     refine te_ ?_
     have h := hout11
     refine blockQ_hit ?_
     refine tnU ?_
     exact ⟨h, rfl⟩
  ·rintro _ ⟨h, rfl⟩
   unfold delta_Apply_m0.j7 at h
   refine sq_ ?_
   refine sq_ ?_
   obtain ⟨v3, hv3, h⟩ := bind_some h
   obtain ⟨v4, hv4, h⟩ := bind_some h
   refine rg4 (st1 := ⟨[(0, .loc 100000 0), (1, .p (.list (.named 6)) a1), (8, .p .err v4.1)], [(100000, .box [.mp 100001]), (100001, .map (.named 3) a0)]⟩) [0, 1, 8] [100000, 100001] hN (.cons (mvU (v := .loc 100000 0) rfl rfl) (.cons (caV (rs := [(26, .loc 100000 0)]) (vw := []) rfl rfl (.func _) hb_12 (COk.ren (tree_Tree_Copy_m0.ok O hO k a0 v3 hv3) (fun n => if n = 60500 then 10001 else if n = 60501 then 10002 else if n = 100000 then 100000 else if n = 100001 then 100001 else n) (injOn_of (by kernel_rfl))) (.cons o0 .nil) (.cons (.same _) .nil) (by simp) (.inl rfl)) (.cons (mvU (v := .p (.list (.named 6)) a1) rfl rfl) (.cons (caV (rs := [(27, .loc 10001 0), (28, .p (.list (.named 6)) a1)]) (vw := []) rfl rfl (.func _) hb_63 (COk.ren (delta_do_m0.ok O hO k v3 a1 v4 hv4) (fun n => if n = 100000 then 10001 else if n = 100001 then 10002 else n) (injOn_of (by kernel_rfl))) (.cons o0 (.cons o1 .nil)) (.cons (.same _) (.cons (.same _) .nil)) (by simp) (.inl rfl)) (.cons (mvA (v := .p .err v4.1) rfl rfl) .nil))))) (by kernel_rfl) ?_
   refine tnS ?_
   refine rg4 (st1 := ⟨[(0, .loc 100000 0), (1, .p (.list (.named 6)) a1), (8, .p .err v4.1), (31, .p .bool ((!(v4.1 == 0)) : Bool))], [(100000, .box [.mp 100001]), (100001, .map (.named 3) a0)]⟩) [0, 1, 8, 31] [100000, 100001] hN (.cons (mvU (v := .p .err v4.1) rfl rfl) (.cons (u31_ (rs := [(30, .p .err v4.1)]) rfl rfl Tryd.underlying31 o0 rfl) .nil)) (by kernel_rfl) ?_
   refine tnU ?_
   refine cdU (b := (!(v4.1 == 0))) (.tmp m3_) (fun hc5 => ?_) (fun hc5 => ?_)
   ·replace h := ite_t hc5 h
    refine sq_ ?_
    refine rg4 (st1 := ⟨[(4, .p .err v4.1)], [(100000, .box [.mp 100001]), (100001, .map (.named 3) a0)]⟩) [4] [100000, 100001] hN (.cons (mvU (v := .p .err v4.1) rfl rfl) (.cons (mvA (v := .p .err v4.1) rfl rfl) .nil)) (by kernel_rfl) ?_
    refine tnU ?_
    refine wr_ ?_
    refine tr_ ?_
    have hq := Option.some.inj h
    subst hq
    exact ends_ret (retV_1 rfl (.head _)) (ain_cons (.head _) (ain_cons m1_ ain_nil))
   ·replace h := ite_f hc5 h
    refine wc_ (cvK (b := ⟨[(0, .loc 100000 0), (1, .p (.list (.named 6)) a1)], [(100000, .box [.mp 100001]), (100001, .map (.named 3) a0)]⟩) [0, 1] [100000, 100001] (by kernel_rfl)) (ws_ ?_)
    refine tnS ?_
    obtain ⟨v6, hv6, h⟩ := bind_some h
    refine rg4 (st1 := ⟨[(4, .p .err v6.1)], [(100000, .box [.mp 100001]), (100001, .map (.named 3) v6.2)]⟩) [4] [100000, 100001] hN (.cons (mvU (v := .loc 100000 0) rfl rfl) (.cons (mvU (v := .p (.list (.named 6)) a1) rfl rfl) (.cons (caV (rs := [(33, .loc 100000 0), (34, .p (.list (.named 6)) a1)]) (vw := []) rfl rfl (.func _) hb_63 (COk.ren (delta_do_m0.ok O hO k a0 a1 v6 hv6) (fun n => if n = 100000 then 100000 else if n = 100001 then 100001 else n) (injOn_of (by kernel_rfl))) (.cons o0 (.cons o1 .nil)) (.cons (.same _) (.cons (.same _) .nil)) (by simp) (.inl rfl)) (.cons (mvA (v := .p .err v6.1) rfl rfl) .nil)))) (by kernel_rfl) ?_
    refine tnU ?_
    refine wr_ ?_
    have hq := Option.some.inj h
    subst hq
    exact ends_ret (retV_1 rfl (.head _)) (ain_cons (.head _) (ain_cons m1_ ain_nil))

theorem tree_Tree_Files_m0.ok (O : Out) (hO : GOk O) (k : Nat) (a0 : List ((List UInt8) × TF)) (out : List TF) (h : tree_Tree_Files_m0.f k a0 = some out) : COk Un O Tryd.prog 57 { ar := [.loc 100000 0], r := .p (.list (.named 3)) out, bs := [(100000, .box [.mp 100001]), (100001, .map (.named 3) a0)], bs' := [(100000, .box [.mp 100001]), (100001, .map (.named 3) a0)] } := by
 refine cok_of_wp Tryd.func57 rfl (k := 24) rfl (Nat.le_of_ble_eq_true rfl) (namesOk_of (by kernel_rfl)) ?_
 intro B hN
 refine ckS (b := ⟨[(0, .loc 100000 0)], [(100000, .box [.mp 100001]), (100001, .map (.named 3) a0)]⟩) [0] [100000, 100001] (by kernel_rfl) ?_
 unfold tree_Tree_Files_m0.f at h
 refine sq_ ?_
 refine rg4 (st1 := ⟨[(0, .loc 100000 0)], [(100000, .box [.mp 100001]), (100001, .map (.named 3) a0)]⟩) [0] [100000, 100001] hN (.cons (moU (rs := []) rfl (.inr rfl) (.lit _ _ rfl)) .nil) (by kernel_rfl) ?_
 refine tnS ?_
 refine rg4 (st1 := ⟨[(0, .loc 100000 0), (3, .lit (.slice none 0 0))], [(100000, .box [.mp 100001]), (100001, .map (.named 3) a0)]⟩) [0, 3] [100000, 100001] hN (.cons (moU (rs := []) rfl (.inr rfl) (.lit _ _ rfl)) .nil) (by kernel_rfl) ?_
 refine tnU ?_
 refine sqJ (fun st' => ∃ v1 : List TF, tree_Tree_Files_m0.j2 k a0 v1 = some out ∧ st' = ⟨[(3, .vec 1003 3 0 v1.length)], [(1003, .row 24 (.named 3) v1 false), (100000, .box [.mp 100001]), (100001, .map (.named 3) a0)]⟩) ?_ ?_
 ·refine sq_ ?_
  obtain ⟨v3, hv3, h⟩ := bind_some h
  refine rg4 (st1 := ⟨[(0, .loc 100000 0), (3, .lit (.slice none 0 0)), (7, .vec 10001 1 0 v3.length), (8, .p I6 ((v3.length : Int) : Int)), (9, .p I6 (0 : Int))], [(10001, .row 9 .str v3 false), (100000, .box [.mp 100001]), (100001, .map (.named 3) a0)]⟩) [0, 3, 7, 8, 9] [10001, 100000, 100001] hN (.cons (mvU (v := .loc 100000 0) rfl rfl) (.cons (caV (rs := [(6, .loc 100000 0)]) (vw := []) rfl rfl (.func _) hb_17 (COk.ren (tree_Tree_Names_m0.ok O hO k a0 v3 hv3) (fun n => if n = 60500 then 10001 else if n = 100000 then 100000 else if n = 100001 then 100001 else n) (injOn_of (by kernel_rfl))) (.cons o0 .nil) (.cons (.same _) .nil) (by simp) (.inl rfl)) (.cons (u39_ (rs := [(7, .vec 10001 1 0 v3.length)]) rfl rfl Tryd.underlying40 o0) (.cons (moU (rs := []) rfl (.inl rfl) (.int _ _ _)) .nil)))) (by kernel_rfl) ?_
  refine tnU ?_
  refine wb_ ?_
  obtain ⟨o8, hlo8, h⟩ := bind_some h
  have hout9 := h
  clear h
  refine wc_ (cvT (u13_ 3 1003 24 (.named 3) m1_ (by kernel_rfl) (by unfold K0; omega)) (cvK (b := ⟨[(0, .loc 100000 0), (3, .vec 1003 3 0 0), (7, .vec 10001 1 0 v3.length), (8, .p I6 ((v3.length : Int) : Int)), (9, .p I6 (0 : Int))], [(1003, .row 24 (.named 3) [] false), (10001, .row 9 .str v3 false), (100000, .box [.mp 100001]), (100001, .map (.named 3) a0)]⟩) [0, 3, 7, 8, 9] [1003, 10001, 100000, 100001] (by kernel_rfl))) ?_
  refine u14_ (fun n st' => ∃ v4 : List TF, ∃ v5 : Int, tree_Tree_Files_m0.l6 k a0 v3 n v4 v5 = some o8 ∧ st' = ⟨[(0, .loc 100000 0), (3, .vec 1003 3 0 v4.length), (7, .vec 10001 1 0 v3.length), (8, .p I6 ((v3.length : Int) : Int)), (9, .p I6 v5)], [(1003, .row 24 (.named 3) v4 false), (10001, .row 9 .str v3 false), (100000, .box [.mp 100001]), (100001, .map (.named 3) a0)]⟩) k ⟨[], 0, hlo8, rfl⟩ ?_
  clear hlo8
  rintro (_ | n) _ ⟨v4, v5, h, rfl⟩
  ·cases h
  ·rw [tree_Tree_Files_m0.l6] at h
   refine sq_ ?_
   refine rg4 (st1 := ⟨[(0, .loc 100000 0), (3, .vec 1003 3 0 v4.length), (7, .vec 10001 1 0 v3.length), (8, .p I6 ((v3.length : Int) : Int)), (9, .p I6 v5), (10, .p .bool ((decide (v5 < (v3.length : Int))) : Bool))], [(1003, .row 24 (.named 3) v4 false), (10001, .row 9 .str v3 false), (100000, .box [.mp 100001]), (100001, .map (.named 3) a0)]⟩) [0, 3, 7, 8, 9, 10] [1003, 10001, 100000, 100001] hN (.cons (cmU (rs := [(9, .p I6 v5), (8, .p I6 ((v3.length : Int) : Int))]) rfl rfl o0 o1 rfl) .nil) (by kernel_rfl) ?_
   refine tnS ?_
   refine cdU (b := (decide (v5 < (v3.length : Int)))) (.tmp m5_) (fun hc10 => ?_) (fun hc10 => ?_)
   ·replace h := ite_t hc10 h
    refine wc_ (cvK (b := ⟨[(0, .loc 100000 0), (3, .vec 1003 3 0 v4.length), (7, .vec 10001 1 0 v3.length), (8, .p I6 ((v3.length : Int) : Int)), (9, .p I6 v5)], [(1003, .row 24 (.named 3) v4 false), (10001, .row 9 .str v3 false), (100000, .box [.mp 100001]), (100001, .map (.named 3) a0)]⟩) [0, 3, 7, 8, 9] [1003, 10001, 100000, 100001] (by kernel_rfl)) (ws_ ?_)
    refine tnS ?_
    refine wb_ ?_
    refine sq_ ?_
    obtain ⟨g11, h⟩ := if_some h
    obtain ⟨v12, hv12, h⟩ := bind_some h
    refine rg4 (st1 := ⟨[(0, .loc 100000 0), (3, .vec 1003 3 0 v4.length), (5, .p .str v12), (7, .vec 10001 1 0 v3.length), (8, .p I6 ((v3.length : Int) : Int)), (9, .p I6 v5)], [(1003, .row 24 (.named 3) v4 false), (10001, .row 9 .str v3 false), (100000, .box [.mp 100001]), (100001, .map (.named 3) a0)]⟩) [0, 3, 5, 7, 8, 9] [1003, 10001, 100000, 100001] hN (.cons (u35_ (rs := [(7, .vec 10001 1 0 v3.length), (9, .p I6 v5)]) rfl rfl sl_40 o0 o1 g11) (.cons (u40_ (E := 9) (t := .str) (rs := [(11, .eloc 10001 1 (0 + v5.toNat) 0)]) (xs := v3) (fx := false) rfl rfl ty_9 o0 hv12 (.here _ _)) (.cons (mvA (v := .p .str v12) rfl rfl) .nil))) (by kernel_rfl) ?_
    refine tnU ?_
    obtain ⟨g13, h⟩ := if_some h
    refine rg4 (st1 := ⟨[(0, .loc 100000 0), (3, .vec 21 3 0 ((v4 ++ [((mget v12 a0).getD (TF.mk [] [] 0))]).length)), (7, .vec 10001 1 0 v3.length), (8, .p I6 ((v3.length : Int) : Int)), (9, .p I6 v5)], [(21, .row 24 (.named 3) (v4 ++ [((mget v12 a0).getD (TF.mk [] [] 0))]) false), (10001, .row 9 .str v3 false), (100000, .box [.mp 100001]), (100001, .map (.named 3) a0)]⟩) [0, 3, 7, 8, 9] [21, 10001, 100000, 100001] hN (.cons (mvU (v := .vec 1003 3 0 v4.length) rfl rfl) (.cons (mvU (v := .loc 100000 0) rfl rfl) (.cons (nlU (rs := [(14, .loc 100000 0)]) rfl rfl o0 rfl) (.cons (fdB (rs := [(15, .loc 100000 0)]) rfl rfl fd_89_0 (by decide) o0) (.cons (ldB (t := .bool) (rs := [(16, .loc 100000 0)]) [] [.mp 100001] [] (v := .mp 100001) rfl rfl ty1_86 o0 rfl rfl rfl rfl (.hand rfl rfl)) (.cons (mvU (v := .p .str v12) rfl rfl) (.cons (u43_ (t := .named 3) (kvs := a0) (rs := [(17, .mp 100001), (18, .p .str v12)]) rfl rfl map_86 zv_24 o0 o1) (.cons (u24_ (t := .named 3) (rs := [(19, .p (.named 3) (((mget v12 a0).getD (TF.mk [] [] 0)) : TF))]) (ys := [.tmp 19]) (xs := [((mget v12 a0).getD (TF.mk [] [] 0))]) rfl rfl rfl rfl row_22 (.cons o0 .nil) (by decide)) (.cons (u19_ (t := .named 3) (rs := [(13, .vec 1003 3 0 v4.length), (20, .vec 20 3 0 ([((mget v12 a0).getD (TF.mk [] [] 0))].length))]) (vw := [(20, .row 24 (.named 3) [((mget v12 a0).getD (TF.mk [] [] 0))] true)]) (xs := v4) (ys := [((mget v12 a0).getD (TF.mk [] [] 0))]) (fx := false) rfl rfl rfl row_22 (by decide) o0 o1 (.whole (.head _)) (by simp) g13) (.cons (mvA (v := .vec 21 3 0 ((v4 ++ [((mget v12 a0).getD (TF.mk [] [] 0))]).length)) rfl rfl) .nil)))))))))) (by kernel_rfl) ?_
    refine bn_ ?_
    refine tnU ?_
    refine rg3 (st1 := ⟨[(0, .loc 100000 0), (3, .vec 21 3 0 ((v4 ++ [((mget v12 a0).getD (TF.mk [] [] 0))]).length)), (7, .vec 10001 1 0 v3.length), (8, .p I6 ((v3.length : Int) : Int)), (9, .p I6 ((IntKind.i64.wrap (v5 + 1)) : Int))], [(21, .row 24 (.named 3) (v4 ++ [((mget v12 a0).getD (TF.mk [] [] 0))]) false), (10001, .row 9 .str v3 false), (100000, .box [.mp 100001]), (100001, .map (.named 3) a0)]⟩) [0, 3, 7, 8, 9] [21, 10001, 100000, 100001] hN (.cons (u21_ (rs := [(9, .p I6 v5)]) rfl rfl o0 (.int _ _ _) rfl) (.cons (mvU (v := .p I6 ((IntKind.i64.wrap (v5 + 1)) : Int)) rfl rfl) .nil)) (by kernel_rfl) (cvT (u12_ (st' := ⟨[(0, .loc 100000 0), (3, .vec 1003 3 0 ((v4 ++ [((mget v12 a0).getD (TF.mk [] [] 0))]).length)), (7, .vec 10001 1 0 v3.length), (8, .p I6 ((v3.length : Int) : Int)), (9, .p I6 ((IntKind.i64.wrap (v5 + 1)) : Int))], [(1003, .row 24 (.named 3) (v4 ++ [((mget v12 a0).getD (TF.mk [] [] 0))]) false), (10001, .row 9 .str v3 false), (100000, .box [.mp 100001]), (100001, .map (.named 3) a0)]⟩) 21 1003 (by unfold K0; omega) (by kernel_rfl) (by kernel_rfl) (by kernel_rfl)) (cvK (b := ⟨[(0, .loc 100000 0), (3, .vec 1003 3 0 ((v4 ++ [((mget v12 a0).getD (TF.mk [] [] 0))]).length)), (7, .vec 10001 1 0 v3.length), (8, .p I6 ((v3.length : Int) : Int)), (9, .p I6 ((IntKind.i64.wrap (v5 + 1)) : Int))], [(1003, .row 24 (.named 3) (v4 ++ [((mget v12 a0).getD (TF.mk [] [] 0))]) false), (10001, .row 9 .str v3 false), (100000, .box [.mp 100001]), (100001, .map (.named 3) a0)]⟩) [0, 3, 7, 8, 9] [1003, 10001, 100000, 100001] (by kernel_rfl))) ?_
    refine tnU ?_
    exact ⟨n, Nat.lt_succ_self n, (v4 ++ [((mget v12 a0).getD (TF.mk [] [] 0))]), (IntKind.i64.wrap (v5 + 1)), h, rfl⟩
   ·replace h := ite_f hc10 h
    refine wc_ (cvK (b := ⟨[(3, .vec 1003 3 0 v4.length)], [(1003, .row 24 (.named 3) v4 false), (100000, .box [.mp 100001]), (100001, .map (.named 3) a0)]⟩) [3] [1003, 100000, 100001] (by kernel_rfl)) (we_ ?_)
    refine te_ ?_
    have hq := Option.some.inj h
    subst hq
    refine te_ ?_
    have h := hout9
    refine blockQ_hit ?_
    refine tnU ?_
    exact ⟨v4, h, rfl⟩
 ·rintro _ ⟨v1, h, rfl⟩
  unfold tree_Tree_Files_m0.j2 at h
  refine sq_ ?_
  refine rg4 (st1 := ⟨[(2, .vec 1003 3 0 v1.length)], [(1003, .row 24 (.named 3) v1 false), (100000, .box [.mp 100001]), (100001, .map (.named 3) a0)]⟩) [2] [1003, 100000, 100001] hN (.cons (mvU (v := .vec 1003 3 0 v1.length) rfl rfl) (.cons (mvA (v := .vec 1003 3 0 v1.length) rfl rfl) .nil)) (by kernel_rfl) ?_
  refine tnU ?_
  refine wc_ (cvT (u2_ 2 1003 24 _ (.named 3) v1 false (.head _) (by first | rfl | (simp only [upd_length, List.length_replicate, List.length_append]; done) | (simp only [upd_length, List.length_replicate, List.length_append] at *; omega) | omega) (.head _) (by first | (simp [Blk.names]; done) | (simp [Blk.names, AVal.namesL, AVal.names]; done) | (simp [Blk.names]; decide))) (cvK (b := ⟨[(2, .p (.list (.named 3)) v1)], [(100000, .box [.mp 100001]), (100001, .map (.named 3) a0)]⟩) [2] [100000, 100001] (by kernel_rfl))) (wr_ ?_)
  have hq := Option.some.inj h
  subst hq
  exact ends_ret (retV_1 rfl (.head _)) (ain_cons (.head _) (ain_cons m1_ ain_nil))

theorem tree_Tree_Latest_m0.ok (O : Out) (hO : GOk O) (k : Nat) (a0 : List ((List UInt8) × TF)) (out : Int) (h : tree_Tree_Latest_m0.f k a0 = some out) : COk Un O Tryd.prog 58 { ar := [.loc 100000 0], r := .p I6 out, bs := [(100000, .box [.mp 100001]), (100001, .map (.named 3) a0)], bs' := [(100000, .box [.mp 100001]), (100001, .map (.named 3) a0)] } := by
 refine cok_of_wp Tryd.func58 rfl (k := 20) rfl (Nat.le_of_ble_eq_true rfl) (namesOk_of (by kernel_rfl)) ?_
 intro B hN
 refine ckS (b := ⟨[(0, .loc 100000 0)], [(100000, .box [.mp 100001]), (100001, .map (.named 3) a0)]⟩) [0] [100000, 100001] (by kernel_rfl) ?_
 unfold tree_Tree_Latest_m0.f at h
 refine sq_ ?_
 refine rg4 (st1 := ⟨[(0, .loc 100000 0)], [(100000, .box [.mp 100001]), (100001, .map (.named 3) a0)]⟩) [0] [100000, 100001] hN (.cons (moU (rs := []) rfl (.inr rfl) (.int _ _ _)) .nil) (by kernel_rfl) ?_
 refine tnS ?_
 refine rg4 (st1 := ⟨[(0, .loc 100000 0), (3, .p I6 (0 : Int))], [(100000, .box [.mp 100001]), (100001, .map (.named 3) a0)]⟩) [0, 3] [100000, 100001] hN (.cons (moU (rs := []) rfl (.inr rfl) (.int _ _ _)) .nil) (by kernel_rfl) ?_
 refine tnU ?_
 refine sqJ (fun st' => ∃ v1 : Int, tree_Tree_Latest_m0.j2 k a0 v1 = some out ∧ st' = ⟨[(3, .p I6 v1)], [(100000, .box [.mp 100001]), (100001, .map (.named 3) a0)]⟩) ?_ ?_
 ·refine sq_ ?_
  refine u16_ (t := .named 3) (n := 100001) (kvs := a0) m1_ ?_
  intro es3 ck3 ys3 hys3 hri3
  refine ckS (b := ⟨[(0, .loc 100000 0), (3, .p I6 (0 : Int))], [(100000, .box [.mp 100001]), (100001, .mapE (.named 3) es3 ck3 ys3)]⟩) [0, 3] [100000, 100001] (by kernel_rfl) ?_
  refine rg4 (st1 := ⟨[(3, .p I6 (0 : Int)), (10, .loc 10 0)], [(10, .iter 100001 (.named 3) es3 ck3 ys3 a0 none), (100000, .box [.mp 100001]), (100001, .mapE (.named 3) es3 ck3 ys3)]⟩) [3, 10] [10, 100000, 100001] hN (.cons (mvU (v := .loc 100000 0) rfl rfl) (.cons (nlU (rs := [(6, .loc 100000 0)]) rfl rfl o0 rfl) (.cons (fdB (rs := [(7, .loc 100000 0)]) rfl rfl fd_89_0 (by decide) o0) (.cons (ldB (t := .bool) (rs := [(8, .loc 100000 0)]) [] [.mp 100001] [] (v := .mp 100001) rfl rfl ty1_86 o0 rfl rfl rfl rfl (.hand rfl rfl)) (.cons (u51_ (t := .named 3) (es := es3) (clock := ck3) (kvs := a0) (rs := [(9, .mp 100001)]) (d := 10) (m := 100001) rfl rfl rfl map_86 hys3 (by decide) o0) .nil))))) (by kernel_rfl) ?_
  refine tnU ?_
  refine wb_ ?_
  obtain ⟨o8, hlo8, h⟩ := bind_some h
  have hout9 := h
  clear h
  refine u14_ (fun n st' => ∃ v4 : Int, ∃ v5 : List ((List UInt8) × TF), tree_Tree_Latest_m0.l6 k n v4 v5 = some o8 ∧ st' = ⟨[(3, .p I6 v4), (10, .loc 10 0)], [(10, .iter 100001 (.named 3) es3 ck3 ys3 v5 none), (100000, .box [.mp 100001]), (100001, .mapE (.named 3) es3 ck3 ys3)]⟩) k ⟨0, a0, hlo8, rfl⟩ ?_
  clear hlo8
  rintro (_ | n) _ ⟨v4, v5, h, rfl⟩
  ·cases h
  ·refine sq_ ?_
   refine u15_ (t := .named 3) (d := 10) (m := 100001) (it := 10) (left := v5) [3, 10, 12] [10, 100000, 100001] hN rfl rfl rfl rfl rfl rfl (by decide) (by decide) (by decide) m1_ (.head _) m2_ (fun (v10 : (List UInt8) × TF) (v11 : List ((List UInt8) × TF)) hp12 ha12 => ⟨⟨[(3, .p I6 v4), (10, .loc 10 0), (12, .p .bool true)], [(10, .iter 100001 (.named 3) es3 ck3 ys3 v11 (some v10)), (100000, .box [.mp 100001]), (100001, .mapE (.named 3) es3 ck3 ys3)]⟩, by kernel_rfl, _, (cvR _), ?_⟩) (fun hl12 => ⟨⟨[(3, .p I6 v4), (10, .loc 10 0), (12, .p .bool false)], [(10, .iter 100001 (.named 3) es3 ck3 ys3 v5 none), (100000, .box [.mp 100001]), (100001, .mapE (.named 3) es3 ck3 ys3)]⟩, by kernel_rfl, _, (cvR _), ?_⟩)
   ·have h := tree_Tree_Latest_m0.l6_perm k hp12 ha12 h
    unfold tree_Tree_Latest_m0.l6 at h
    obtain ⟨_, h⟩ := if_some h
    refine tnS ?_
    refine cdU (b := true) (.tmp m2_) (fun hc => ?_) (fun hc => ?_)
    ·refine wc_ (cvK (b := ⟨[(3, .p I6 v4), (10, .loc 10 0)], [(10, .iter 100001 (.named 3) es3 ck3 ys3 v11 (some v10)), (100000, .box [.mp 100001]), (100001, .mapE (.named 3) es3 ck3 ys3)]⟩) [3, 10] [10, 100000, 100001] (by kernel_rfl)) (ws_ ?_)
     refine tnU ?_
     refine wb_ ?_
     refine sq_ ?_
     refine rg4 (st1 := ⟨[(3, .p I6 v4), (5, .loc 5 0), (10, .loc 10 0)], [(5, .box [.p .str v10.2.fN, .p .str v10.2.fC, .p I6 v10.2.fT]), (10, .iter 100001 (.named 3) es3 ck3 ys3 v11 (some v10)), (100000, .box [.mp 100001]), (100001, .mapE (.named 3) es3 ck3 ys3)]⟩) [3, 5, 10] [5, 10, 100000, 100001] hN (.cons (u29_ (t := .named 3) (rs := [(10, .loc 10 0)]) (d := 10) (m := 100001) (es := es3) (clock := ck3) (ys := ys3) (left := v11) (y := v10) rfl rfl o0) (.cons (exU (rs := [(13, .tup [.p .str v10.1, .p (.named 3) v10.2])]) rfl rfl o0 rfl) (.cons (u18_ (rs := []) (d := 5) (us := [.p .str ([] : List UInt8), .p .str ([] : List UInt8), .p I6 (0 : Int)]) (v := (.agg #[.string ByteArray.empty, .string ByteArray.empty, .int .i64 0])) rfl rfl rfl (by kernel_rfl) rfl (.data (fun _ _ _ => rd_str0) (.data (fun _ _ _ => rd_str0) (.data (fun _ _ _ => .int _ _) .nil))) (by kernel_rfl)) (.cons (u54_ (rs := [(5, .loc 5 0), (14, .p (.named 3) v10.2)]) (v := .p (.named 3) v10.2) (mid' := [.p .str v10.2.fN, .p .str v10.2.fC, .p I6 v10.2.fT]) [] [.p .str ([] : List UInt8), .p .str ([] : List UInt8), .p I6 (0 : Int)] [] rfl rfl rfl ty_24 o0 o1 (.data (.named (us := ([.p .str v10.2.fN, .p .str v10.2.fC, .p I6 v10.2.fT] : List (AVal Un))) (.pair (.one _ _) (.pair (.one _ _) (.pair (.one _ _) .unit))))) rfl rfl rfl rfl rfl rfl) .nil)))) (by kernel_rfl) ?_
     refine tnU ?_
     refine rg3 (st1 := ⟨[(3, .p I6 ((if v10.2.fT > v4 then v10.2.fT else v4) : Int)), (10, .loc 10 0)], [(10, .iter 100001 (.named 3) es3 ck3 ys3 v11 (some v10)), (100000, .box [.mp 100001]), (100001, .mapE (.named 3) es3 ck3 ys3)]⟩) [3, 10] [10, 100000, 100001] hN (.cons (mvU (v := .p I6 v4) rfl rfl) (.cons (fdB (rs := [(5, .loc 5 0)]) rfl rfl fd_24_2 (by decide) o0) (.cons (ldB (t := .int .i64) (rs := [(16, .loc 5 2)]) [.p .str v10.2.fN, .p .str v10.2.fC] [.p I6 v10.2.fT] [] (v := .p I6 v10.2.fT) rfl rfl ty_3 o0 rfl rfl rfl rfl (.data (.one _ _))) (.cons (u47_ (rs := [(15, .p I6 v4), (17, .p I6 v10.2.fT)]) rfl rfl o0 o1) (.cons (mvA (v := .p I6 ((if v10.2.fT > v4 then v10.2.fT else v4) : Int)) rfl rfl) .nil))))) (by kernel_rfl) (cvT (u3_ (t := .named 3) (d := 10) (.head _)) (cvK (b := ⟨[(3, .p I6 ((if v10.2.fT > v4 then v10.2.fT else v4) : Int)), (10, .loc 10 0)], [(10, .iter 100001 (.named 3) es3 ck3 ys3 v11 none), (100000, .box [.mp 100001]), (100001, .mapE (.named 3) es3 ck3 ys3)]⟩) [3, 10] [10, 100000, 100001] (by kernel_rfl))) ?_
     refine bn_ ?_
     refine tnU ?_
     exact ⟨n, Nat.lt_succ_self n, (if v10.2.fT > v4 then v10.2.fT else v4), v11, h, rfl⟩
    ·cases hc
   ·subst hl12
    unfold tree_Tree_Latest_m0.l6 at h
    refine tnS ?_
    refine cdU (b := false) (.tmp m2_) (fun hc => ?_) (fun hc => ?_)
    ·cases hc
    ·refine wc_ (cvT (cvK (b := ⟨[(3, .p I6 v4)], [(100000, .box [.mp 100001]), (100001, .mapE (.named 3) es3 ck3 ys3)]⟩) [3] [100000, 100001] (by kernel_rfl)) (cvT (u1_ (t := .named 3) (n := 100001) m1_ hys3 hri3) (cvK (b := ⟨[(3, .p I6 v4)], [(100000, .box [.mp 100001]), (100001, .map (.named 3) a0)]⟩) [3] [100000, 100001] (by kernel_rfl)))) (we_ ?_)
     refine te_ ?_
     have hq := Option.some.inj h
     subst hq
     refine te_ ?_
     have h := hout9
     refine blockQ_hit ?_
     refine tnU ?_
     exact ⟨v4, h, rfl⟩
 ·rintro _ ⟨v1, h, rfl⟩
  unfold tree_Tree_Latest_m0.j2 at h
  refine sq_ ?_
  refine rg4 (st1 := ⟨[(2, .p I6 v1)], [(100000, .box [.mp 100001]), (100001, .map (.named 3) a0)]⟩) [2] [100000, 100001] hN (.cons (mvU (v := .p I6 v1) rfl rfl) (.cons (mvA (v := .p I6 v1) rfl rfl) .nil)) (by kernel_rfl) ?_
  refine tnU ?_
  refine wr_ ?_
  have hq := Option.some.inj h
  subst hq
  exact ends_ret (retV_1 rfl (.head _)) (ain_cons (.head _) (ain_cons m1_ ain_nil))

theorem R02_Tree_Latest_m0.ok (O : Out) (hO : GOk O) (k : Nat) (a0 : List TF) (out : Int) (h : R02_Tree_Latest_m0.f k a0 = some out) : COk Un O Tryd.prog 59 { ar := [.loc 100000 0], r := .p I6 out, bs := [(100000, .box [.vec 100001 3 0 a0.length]), (100001, .row 50 (.named 3) a0 false)], bs' := [(100000, .box [.vec 100001 3 0 a0.length]), (100001, .row 50 (.named 3) a0 false)] } := by
 refine cok_of_wp Tryd.func59 rfl (k := 23) rfl (Nat.le_of_ble_eq_true rfl) (namesOk_of (by kernel_rfl)) ?_
 intro B hN
 refine ckS (b := ⟨[(0, .loc 100000 0)], [(100000, .box [.vec 100001 3 0 a0.length]), (100001, .row 50 (.named 3) a0 false)]⟩) [0] [100000, 100001] (by kernel_rfl) ?_
 unfold R02_Tree_Latest_m0.f at h
 refine sq_ ?_
 refine rg4 (st1 := ⟨[(0, .loc 100000 0)], [(100000, .box [.vec 100001 3 0 a0.length]), (100001, .row 50 (.named 3) a0 false)]⟩) [0] [100000, 100001] hN (.cons (moU (rs := []) rfl (.inr rfl) (.int _ _ _)) .nil) (by kernel_rfl) ?_
 refine tnS ?_
 refine rg4 (st1 := ⟨[(0, .loc 100000 0), (3, .p I6 (0 : Int))], [(100000, .box [.vec 100001 3 0 a0.length]), (100001, .row 50 (.named 3) a0 false)]⟩) [0, 3] [100000, 100001] hN (.cons (moU (rs := []) rfl (.inr rfl) (.int _ _ _)) .nil) (by kernel_rfl) ?_
 refine tnU ?_
 refine sqJ (fun st' => ∃ v1 : Int, R02_Tree_Latest_m0.j2 k a0 v1 = some out ∧ st' = ⟨[(3, .p I6 v1)], [(100000, .box [.vec 100001 3 0 a0.length]), (100001, .row 50 (.named 3) a0 false)]⟩) ?_ ?_
 ·refine sq_ ?_
  refine rg4 (st1 := ⟨[(3, .p I6 (0 : Int)), (9, .vec 100001 3 0 a0.length), (10, .p I6 ((a0.length : Int) : Int)), (11, .p I6 (0 : Int))], [(100000, .box [.vec 100001 3 0 a0.length]), (100001, .row 50 (.named 3) a0 false)]⟩) [3, 9, 10, 11] [100000, 100001] hN (.cons (mvU (v := .loc 100000 0) rfl rfl) (.cons (nlU (rs := [(6, .loc 100000 0)]) rfl rfl o0 rfl) (.cons (fdB (rs := [(7, .loc 100000 0)]) rfl rfl fd_47_0 (by decide) o0) (.cons (ldB (t := .list (.named 3)) (rs := [(8, .loc 100000 0)]) [] [.vec 100001 3 0 a0.length] [] (v := .vec 100001 3 0 a0.length) rfl rfl ty_45 o0 rfl rfl rfl rfl (.hand rfl rfl)) (.cons (u39_ (rs := [(9, .vec 100001 3 0 a0.length)]) rfl rfl Tryd.underlying45 o0) (.cons (moU (rs := []) rfl (.inl rfl) (.int _ _ _)) .nil)))))) (by kernel_rfl) ?_
  refine tnU ?_
  refine wb_ ?_
  obtain ⟨o7, hlo7, h⟩ := bind_some h
  have hout8 := h
  clear h
  refine u14_ (fun n st' => ∃ v3 : Int, ∃ v4 : Int, R02_Tree_Latest_m0.l5 k a0 n v3 v4 = some o7 ∧ st' = ⟨[(3, .p I6 v3), (9, .vec 100001 3 0 a0.length), (10, .p I6 ((a0.length : Int) : Int)), (11, .p I6 v4)], [(100000, .box [.vec 100001 3 0 a0.length]), (100001, .row 50 (.named 3) a0 false)]⟩) k ⟨0, 0, hlo7, rfl⟩ ?_
  clear hlo7
  rintro (_ | n) _ ⟨v3, v4, h, rfl⟩
  ·cases h
  ·rw [R02_Tree_Latest_m0.l5] at h
   refine sq_ ?_
   refine rg4 (st1 := ⟨[(3, .p I6 v3), (9, .vec 100001 3 0 a0.length), (10, .p I6 ((a0.length : Int) : Int)), (11, .p I6 v4), (12, .p .bool ((decide (v4 < (a0.length : Int))) : Bool))], [(100000, .box [.vec 100001 3 0 a0.length]), (100001, .row 50 (.named 3) a0 false)]⟩) [3, 9, 10, 11, 12] [100000, 100001] hN (.cons (cmU (rs := [(11, .p I6 v4), (10, .p I6 ((a0.length : Int) : Int))]) rfl rfl o0 o1 rfl) .nil) (by kernel_rfl) ?_
   refine tnS ?_
   refine cdU (b := (decide (v4 < (a0.length : Int)))) (.tmp m4_) (fun hc9 => ?_) (fun hc9 => ?_)
   ·replace h := ite_t hc9 h
    refine wc_ (cvK (b := ⟨[(3, .p I6 v3), (9, .vec 100001 3 0 a0.length), (10, .p I6 ((a0.length : Int) : Int)), (11, .p I6 v4)], [(100000, .box [.vec 100001 3 0 a0.length]), (100001, .row 50 (.named 3) a0 false)]⟩) [3, 9, 10, 11] [100000, 100001] (by kernel_rfl)) (ws_ ?_)
    refine tnU ?_
    refine sqJ (fun st' => ∃ v10 : Int, R02_Tree_Latest_m0.j11 k (R02_Tree_Latest_m0.l5 k a0 n) a0 v4 v10 = some o7 ∧ st' = ⟨[(3, .p I6 v10), (9, .vec 100001 3 0 a0.length), (10, .p I6 ((a0.length : Int) : Int)), (11, .p I6 v4)], [(100000, .box [.vec 100001 3 0 a0.length]), (100001, .row 50 (.named 3) a0 false)]⟩) ?_ ?_
    ·refine wb_ ?_
     refine sq_ ?_
     obtain ⟨g12, h⟩ := if_some h
     obtain ⟨v13, hv13, h⟩ := bind_some h
     refine rg4 (st1 := ⟨[(3, .p I6 v3), (5, .loc 5 0), (9, .vec 100001 3 0 a0.length), (10, .p I6 ((a0.length : Int) : Int)), (11, .p I6 v4)], [(5, .box [.p .str v13.fN, .p .str v13.fC, .p I6 v13.fT]), (100000, .box [.vec 100001 3 0 a0.length]), (100001, .row 50 (.named 3) a0 false)]⟩) [3, 5, 9, 10, 11] [5, 100000, 100001] hN (.cons (u35_ (rs := [(9, .vec 100001 3 0 a0.length), (11, .p I6 v4)]) rfl rfl sl_45 o0 o1 g12) (.cons (u40_ (E := 50) (t := .named 3) (rs := [(13, .eloc 100001 3 (0 + v4.toNat) 0)]) (xs := a0) (fx := false) rfl rfl ty_50 o0 hv13 (.here _ _)) (.cons (u18_ (rs := []) (d := 5) (us := [.p .str ([] : List UInt8), .p .str ([] : List UInt8), .p I6 (0 : Int)]) (v := (.agg #[.string ByteArray.empty, .string ByteArray.empty, .int .i64 0])) rfl rfl rfl (by kernel_rfl) rfl (.data (fun _ _ _ => rd_str0) (.data (fun _ _ _ => rd_str0) (.data (fun _ _ _ => .int _ _) .nil))) (by kernel_rfl)) (.cons (u54_ (rs := [(5, .loc 5 0), (14, .p (.named 3) v13)]) (v := .p (.named 3) v13) (mid' := [.p .str v13.fN, .p .str v13.fC, .p I6 v13.fT]) [] [.p .str ([] : List UInt8), .p .str ([] : List UInt8), .p I6 (0 : Int)] [] rfl rfl rfl ty_50 o0 o1 (.data (.named (us := ([.p .str v13.fN, .p .str v13.fC, .p I6 v13.fT] : List (AVal Un))) (.pair (.one _ _) (.pair (.one _ _) (.pair (.one _ _) .unit))))) rfl rfl rfl rfl rfl rfl) .nil)))) (by kernel_rfl) ?_
     refine tnS ?_
     refine rg4 (st1 := ⟨[(3, .p I6 v3), (5, .loc 5 0), (9, .vec 100001 3 0 a0.length), (10, .p I6 ((a0.length : Int) : Int)), (11, .p I6 v4), (18, .p .bool ((decide (v13.fT > v3)) : Bool))], [(5, .box [.p .str v13.fN, .p .str v13.fC, .p I6 v13.fT]), (100000, .box [.vec 100001 3 0 a0.length]), (100001, .row 50 (.named 3) a0 false)]⟩) [3, 5, 9, 10, 11, 18] [5, 100000, 100001] hN (.cons (fdB (rs := [(5, .loc 5 0)]) rfl rfl fd_50_2 (by decide) o0) (.cons (ldB (t := .int .i64) (rs := [(15, .loc 5 2)]) [.p .str v13.fN, .p .str v13.fC] [.p I6 v13.fT] [] (v := .p I6 v13.fT) rfl rfl ty_3 o0 rfl rfl rfl rfl (.data (.one _ _))) (.cons (mvU (v := .p I6 v3) rfl rfl) (.cons (cmU (rs := [(16, .p I6 v13.fT), (17, .p I6 v3)]) rfl rfl o0 o1 rfl) .nil)))) (by kernel_rfl) ?_
     refine tnU ?_
     refine cdU (b := (decide (v13.fT > v3))) (.tmp m5_) (fun hc14 => ?_) (fun hc14 => ?_)
     ·replace h := ite_t hc14 h
      refine rg4 (st1 := ⟨[(3, .p I6 v13.fT), (9, .vec 100001 3 0 a0.length), (10, .p I6 ((a0.length : Int) : Int)), (11, .p I6 v4)], [(100000, .box [.vec 100001 3 0 a0.length]), (100001, .row 50 (.named 3) a0 false)]⟩) [3, 9, 10, 11] [100000, 100001] hN (.cons (fdB (rs := [(5, .loc 5 0)]) rfl rfl fd_50_2 (by decide) o0) (.cons (ldB (t := .int .i64) (rs := [(19, .loc 5 2)]) [.p .str v13.fN, .p .str v13.fC] [.p I6 v13.fT] [] (v := .p I6 v13.fT) rfl rfl ty_3 o0 rfl rfl rfl rfl (.data (.one _ _))) (.cons (mvA (v := .p I6 v13.fT) rfl rfl) .nil))) (by kernel_rfl) ?_
      refine bn_ ?_
      refine tnU ?_
      exact ⟨v13.fT, h, rfl⟩
     ·replace h := ite_f hc14 h
      refine wc_ (cvK (b := ⟨[(3, .p I6 v3), (9, .vec 100001 3 0 a0.length), (10, .p I6 ((a0.length : Int) : Int)), (11, .p I6 v4)], [(100000, .box [.vec 100001 3 0 a0.length]), (100001, .row 50 (.named 3) a0 false)]⟩) [3, 9, 10, 11] [100000, 100001] (by kernel_rfl)) (ws_ ?_)
      refine bn_ ?_
      refine tnU ?_
      exact ⟨v3, h, rfl⟩
    ·rintro _ ⟨v10, h, rfl⟩
     unfold R02_Tree_Latest_m0.j11 at h
     refine rg4 (st1 := ⟨[(3, .p I6 v10), (9, .vec 100001 3 0 a0.length), (10, .p I6 ((a0.length : Int) : Int)), (11, .p I6 ((IntKind.i64.wrap (v4 + 1)) : Int))], [(100000, .box [.vec 100001 3 0 a0.length]), (100001, .row 50 (.named 3) a0 false)]⟩) [3, 9, 10, 11] [100000, 100001] hN (.cons (u21_ (rs := [(11, .p I6 v4)]) rfl rfl o0 (.int _ _ _) rfl) (.cons (mvU (v := .p I6 ((IntKind.i64.wrap (v4 + 1)) : Int)) rfl rfl) .nil)) (by kernel_rfl) ?_
     refine tnU ?_
     exact ⟨n, Nat.lt_succ_self n, v10, (IntKind.i64.wrap (v4 + 1)), h, rfl⟩
   ·replace h := ite_f hc9 h
    refine wc_ (cvK (b := ⟨[(3, .p I6 v3)], [(100000, .box [.vec 100001 3 0 a0.length]), (100001, .row 50 (.named 3) a0 false)]⟩) [3] [100000, 100001] (by kernel_rfl)) (we_ ?_)
    refine te_ ?_
    have hq := Option.some.inj h
    subst hq
    refine te_ ?_
    have h := hout8
    refine blockQ_hit ?_
    refine tnU ?_
    exact ⟨v3, h, rfl⟩
 ·rintro _ ⟨v1, h, rfl⟩
  unfold R02_Tree_Latest_m0.j2 at h
  refine sq_ ?_
  refine rg4 (st1 := ⟨[(2, .p I6 v1)], [(100000, .box [.vec 100001 3 0 a0.length]), (100001, .row 50 (.named 3) a0 false)]⟩) [2] [100000, 100001] hN (.cons (mvU (v := .p I6 v1) rfl rfl) (.cons (mvA (v := .p I6 v1) rfl rfl) .nil)) (by kernel_rfl) ?_
  refine tnU ?_
  refine wr_ ?_
  have hq := Option.some.inj h
  subst hq
  exact ends_ret (retV_1 rfl (.head _)) (ain_cons (.head _) (ain_cons m1_ ain_nil))

theorem W02_Shows_m0.ok (O : Out) (hO : GOk O) (k : Nat) (a0 : List ((List UInt8) × TF)) (a1 : List TF) (out : Bool) (h : W02_Shows_m0.f k a0 a1 = some out) : COk Un O Tryd.prog 26 { ar := [.loc 100000 0, .loc 100002 0], r := .p .bool out, bs := [(100000, .box [.mp 100001]), (100001, .map (.named 3) a0), (100002, .box [.vec 100003 3 0 a1.length]), (100003, .row 50 (.named 3) a1 false)], bs' := [(100000, .box [.mp 100001]), (100001, .map (.named 3) a0), (100002, .box [.vec 100003 3 0 a1.length]), (100003, .row 50 (.named 3) a1 false)] } := by
 refine cok_of_wp Tryd.func26 rfl (k := 67) rfl (Nat.le_of_ble_eq_true rfl) (namesOk_of (by kernel_rfl)) ?_
 intro B hN
 refine ckS (b := ⟨[(0, .loc 100000 0), (1, .loc 100002 0)], [(100000, .box [.mp 100001]), (100001, .map (.named 3) a0), (100002, .box [.vec 100003 3 0 a1.length]), (100003, .row 50 (.named 3) a1 false)]⟩) [0, 1] [100000, 100001, 100002, 100003] (by kernel_rfl) ?_
 unfold W02_Shows_m0.f at h
 refine sq_ ?_
 refine rg4 (st1 := ⟨[(0, .loc 100000 0), (1, .loc 100002 0)], [(100000, .box [.mp 100001]), (100001, .map (.named 3) a0), (100002, .box [.vec 100003 3 0 a1.length]), (100003, .row 50 (.named 3) a1 false)]⟩) [0, 1] [100000, 100001, 100002, 100003] hN (.cons (moU (rs := []) rfl (.inr rfl) (.bool _ _)) .nil) (by kernel_rfl) ?_
 refine tnS ?_
 obtain ⟨v1, hv1, h⟩ := bind_some h
 refine rg4 (st1 := ⟨[(0, .loc 100000 0), (1, .loc 100002 0), (5, .p (.list (.named 3)) v1)], [(100000, .box [.mp 100001]), (100001, .map (.named 3) a0), (100002, .box [.vec 100003 3 0 a1.length]), (100003, .row 50 (.named 3) a1 false)]⟩) [0, 1, 5] [100000, 100001, 100002, 100003] hN (.cons (mvU (v := .loc 100000 0) rfl rfl) (.cons (caV (rs := [(8, .loc 100000 0)]) (vw := []) rfl rfl (.func _) hb_57 (COk.ren (tree_Tree_Files_m0.ok O hO k a0 v1 hv1) (fun n => if n = 100000 then 100000 else if n = 100001 then 100001 else n) (injOn_of (by kernel_rfl))) (.cons o0 .nil) (.cons (.same _) .nil) (by simp) (.inl rfl)) (.cons (mvA (v := .p (.list (.named 3)) v1) rfl rfl) .nil))) (by kernel_rfl) ?_
 refine tnU ?_
 refine sqJ (fun st' => W02_Shows_m0.j24 k a0 a1 v1 = some out ∧ st' = ⟨[(0, .loc 100000 0), (1, .loc 100002 0), (5, .p (.list (.named 3)) v1)], [(100000, .box [.mp 100001]), (100001, .map (.named 3) a0), (100002, .box [.vec 100003 3 0 a1.length]), (100003, .row 50 (.named 3) a1 false)]⟩) ?_ ?_
 ·refine sqJ (fun st' => ∃ v25 : Bool, W02_Shows_m0.j27 k a0 a1 v1 v25 = some out ∧ st' = ⟨[(0, .loc 100000 0), (1, .loc 100002 0), (5, .p (.list (.named 3)) v1), (24, .p .bool v25)], [(100000, .box [.mp 100001]), (100001, .map (.named 3) a0), (100002, .box [.vec 100003 3 0 a1.length]), (100003, .row 50 (.named 3) a1 false)]⟩) ?_ ?_
  ·rcases bool_cases ((v1.length : Int) != (a1.length : Int)) with hc28 | hc28
   ·replace h := ite_t hc28 h
    refine rg4 (st1 := ⟨[(0, .loc 100000 0), (1, .loc 100002 0), (5, .p (.list (.named 3)) v1), (24, .p .bool true)], [(100000, .box [.mp 100001]), (100001, .map (.named 3) a0), (100002, .box [.vec 100003 3 0 a1.length]), (100003, .row 50 (.named 3) a1 false)]⟩) [0, 1, 5, 24] [100000, 100001, 100002, 100003] hN (.cons (mvU (v := .p (.list (.named 3)) v1) rfl rfl) (.cons (u36_ (rs := [(10, .p (.list (.named 3)) v1)]) rfl rfl Tryd.underlying22 o0) (.cons (mvU (v := .loc 100002 0) rfl rfl) (.cons (nlU (rs := [(12, .loc 100002 0)]) rfl rfl o0 rfl) (.cons (fdB (rs := [(13, .loc 100002 0)]) rfl rfl fd_47_0 (by decide) o0) (.cons (ldB (t := .list (.named 3)) (rs := [(14, .loc 100002 0)]) [] [.vec 100003 3 0 a1.length] [] (v := .vec 100003 3 0 a1.length) rfl rfl ty_45 o0 rfl rfl rfl rfl (.hand rfl rfl)) (.cons (u39_ (rs := [(15, .vec 100003 3 0 a1.length)]) rfl rfl Tryd.underlying45 o0) (.cons (cmU (rs := [(11, .p I6 ((v1.length : Int) : Int)), (16, .p I6 ((a1.length : Int) : Int))]) rfl rfl o0 o1 rfl) (.cons (mvU (v := .p .bool (((v1.length : Int) != (a1.length : Int)) : Bool)) rfl rfl) (.cons (skU rfl rfl hc28) (.cons (skU rfl rfl hc28) (.cons (skU rfl rfl hc28) (.cons (skU rfl rfl hc28) (.cons (skU rfl rfl hc28) (.cons (pkT (rs := [(18, .p .bool (((v1.length : Int) != (a1.length : Int)) : Bool))]) rfl rfl o0 hc28 (.bool _ _)) .nil))))))))))))))) (by kernel_rfl) ?_
    refine tnU ?_
    exact ⟨true, h, rfl⟩
   ·replace h := ite_f hc28 h
    obtain ⟨v29, hv29, h⟩ := bind_some h
    obtain ⟨v30, hv30, h⟩ := bind_some h
    refine rg4 (st1 := ⟨[(0, .loc 100000 0), (1, .loc 100002 0), (5, .p (.list (.named 3)) v1), (24, .p .bool ((v29 != v30) : Bool))], [(100000, .box [.mp 100001]), (100001, .map (.named 3) a0), (100002, .box [.vec 100003 3 0 a1.length]), (100003, .row 50 (.named 3) a1 false)]⟩) [0, 1, 5, 24] [100000, 100001, 100002, 100003] hN (.cons (mvU (v := .p (.list (.named 3)) v1) rfl rfl) (.cons (u36_ (rs := [(10, .p (.list (.named 3)) v1)]) rfl rfl Tryd.underlying22 o0) (.cons (mvU (v := .loc 100002 0) rfl rfl) (.cons (nlU (rs := [(12, .loc 100002 0)]) rfl rfl o0 rfl) (.cons (fdB (rs := [(13, .loc 100002 0)]) rfl rfl fd_47_0 (by decide) o0) (.cons (ldB (t := .list (.named 3)) (rs := [(14, .loc 100002 0)]) [] [.vec 100003 3 0 a1.length] [] (v := .vec 100003 3 0 a1.length) rfl rfl ty_45 o0 rfl rfl rfl rfl (.hand rfl rfl)) (.cons (u39_ (rs := [(15, .vec 100003 3 0 a1.length)]) rfl rfl Tryd.underlying45 o0) (.cons (cmU (rs := [(11, .p I6 ((v1.length : Int) : Int)), (16, .p I6 ((a1.length : Int) : Int))]) rfl rfl o0 o1 rfl) (.cons (mvU (v := .p .bool (((v1.length : Int) != (a1.length : Int)) : Bool)) rfl rfl) (.cons (sok_run rfl rfl hc28 (mvU (v := .loc 100000 0) rfl rfl)) (.cons (sok_run rfl rfl hc28 (caV (rs := [(19, .loc 100000 0)]) (vw := []) rfl rfl (.func _) hb_58 (COk.ren (tree_Tree_Latest_m0.ok O hO k a0 v29 hv29) (fun n => if n = 100000 then 100000 else if n = 100001 then 100001 else n) (injOn_of (by kernel_rfl))) (.cons o0 .nil) (.cons (.same _) .nil) (by simp) (.inl rfl))) (.cons (sok_run rfl rfl hc28 (mvU (v := .loc 100002 0) rfl rfl)) (.cons (sok_run rfl rfl hc28 (caV (rs := [(21, .loc 100002 0)]) (vw := []) rfl rfl (.func _) hb_59 (COk.ren (R02_Tree_Latest_m0.ok O hO k a1 v30 hv30) (fun n => if n = 100000 then 100002 else if n = 100001 then 100003 else n) (injOn_of (by kernel_rfl))) (.cons o0 .nil) (.cons (.same _) .nil) (by simp) (.inl rfl))) (.cons (sok_run rfl rfl hc28 (cmU (rs := [(20, .p I6 v29), (22, .p I6 v30)]) rfl rfl o0 o1 rfl)) (.cons (pkF (rs := [(18, .p .bool (((v1.length : Int) != (a1.length : Int)) : Bool)), (23, .p .bool ((v29 != v30) : Bool))]) rfl rfl o0 hc28 o1) .nil))))))))))))))) (by kernel_rfl) ?_
    refine tnU ?_
    exact ⟨(v29 != v30), h, rfl⟩
  ·rintro _ ⟨v25, h, rfl⟩
   unfold W02_Shows_m0.j27 at h
   refine cdU (b := v25) (.tmp m3_) (fun hc26 => ?_) (fun hc26 => ?_)
   ·replace h := ite_t hc26 h
    refine sq_ ?_
    refine rg4 (st1 := ⟨[(4, .p .bool false)], [(100000, .box [.mp 100001]), (100001, .map (.named 3) a0), (100002, .box [.vec 100003 3 0 a1.length]), (100003, .row 50 (.named 3) a1 false)]⟩) [4] [100000, 100001, 100002, 100003] hN (.cons (moU (rs := []) rfl (.inr rfl) (.bool _ _)) .nil) (by kernel_rfl) ?_
    refine tnU ?_
    refine wr_ ?_
    refine tr_ ?_
    have hq := Option.some.inj h
    subst hq
    exact ends_ret (retV_1 rfl (.head _)) (ain_cons (.head _) (ain_cons m1_ (ain_cons m2_ (ain_cons m3_ ain_nil))))
   ·replace h := ite_f hc26 h
    refine wc_ (cvK (b := ⟨[(0, .loc 100000 0), (1, .loc 100002 0), (5, .p (.list (.named 3)) v1)], [(100000, .box [.mp 100001]), (100001, .map (.named 3) a0), (100002, .box [.vec 100003 3 0 a1.length]), (100003, .row 50 (.named 3) a1 false)]⟩) [0, 1, 5] [100000, 100001, 100002, 100003] (by kernel_rfl)) (ws_ ?_)
    refine tnU ?_
    exact ⟨h, rfl⟩
 ·rintro _ ⟨h, rfl⟩
  unfold W02_Shows_m0.j24 at h
  refine sqJ (fun st' => W02_Shows_m0.j3 k a0 a1 v1 = some out ∧ st' = ⟨[(0, .loc 100000 0), (5, .p (.list (.named 3)) v1)], [(100000, .box [.mp 100001]), (100001, .map (.named 3) a0), (100002, .box [.vec 100003 3 0 a1.length]), (100003, .row 50 (.named 3) a1 false)]⟩) ?_ ?_
  ·refine sq_ ?_
   obtain ⟨v4, hv4, h⟩ := bind_some h
   refine rg4 (st1 := ⟨[(0, .loc 100000 0), (1, .loc 100002 0), (5, .p (.list (.named 3)) v1), (26, .vec 10002 1 0 v4.length), (27, .p I6 ((v4.length : Int) : Int)), (28, .p I6 (0 : Int))], [(10002, .row 9 .str v4 false), (100000, .box [.mp 100001]), (100001, .map (.named 3) a0), (100002, .box [.vec 100003 3 0 a1.length]), (100003, .row 50 (.named 3) a1 false)]⟩) [0, 1, 5, 26, 27, 28] [10002, 100000, 100001, 100002, 100003] hN (.cons (mvU (v := .loc 100000 0) rfl rfl) (.cons (caV (rs := [(25, .loc 100000 0)]) (vw := []) rfl rfl (.func _) hb_17 (COk.ren (tree_Tree_Names_m0.ok O hO k a0 v4 hv4) (fun n => if n = 60500 then 10002 else if n = 100000 then 100000 else if n = 100001 then 100001 else n) (injOn_of (by kernel_rfl))) (.cons o0 .nil) (.cons (.same _) .nil) (by simp) (.inl rfl)) (.cons (u39_ (rs := [(26, .vec 10002 1 0 v4.length)]) rfl rfl Tryd.underlying40 o0) (.cons (moU (rs := []) rfl (.inl rfl) (.int _ _ _)) .nil)))) (by kernel_rfl) ?_
   refine tnU ?_
   refine wb_ ?_
   obtain ⟨o7, hlo7, h⟩ := bind_some h
   have hout8 := h
   clear h
   refine u14_ (fun n st' => ∃ v5 : Int, W02_Shows_m0.l6 k a0 a1 v1 v4 n v5 = some o7 ∧ st' = ⟨[(0, .loc 100000 0), (1, .loc 100002 0), (5, .p (.list (.named 3)) v1), (26, .vec 10002 1 0 v4.length), (27, .p I6 ((v4.length : Int) : Int)), (28, .p I6 v5)], [(10002, .row 9 .str v4 false), (100000, .box [.mp 100001]), (100001, .map (.named 3) a0), (100002, .box [.vec 100003 3 0 a1.length]), (100003, .row 50 (.named 3) a1 false)]⟩) k ⟨0, hlo7, rfl⟩ ?_
   clear hlo7
   rintro (_ | n) _ ⟨v5, h, rfl⟩
   ·cases h
   ·rw [W02_Shows_m0.l6] at h
    refine sq_ ?_
    refine rg4 (st1 := ⟨[(0, .loc 100000 0), (1, .loc 100002 0), (5, .p (.list (.named 3)) v1), (26, .vec 10002 1 0 v4.length), (27, .p I6 ((v4.length : Int) : Int)), (28, .p I6 v5), (29, .p .bool ((decide (v5 < (v4.length : Int))) : Bool))], [(10002, .row 9 .str v4 false), (100000, .box [.mp 100001]), (100001, .map (.named 3) a0), (100002, .box [.vec 100003 3 0 a1.length]), (100003, .row 50 (.named 3) a1 false)]⟩) [0, 1, 5, 26, 27, 28, 29] [10002, 100000, 100001, 100002, 100003] hN (.cons (cmU (rs := [(28, .p I6 v5), (27, .p I6 ((v4.length : Int) : Int))]) rfl rfl o0 o1 rfl) .nil) (by kernel_rfl) ?_
    refine tnS ?_
    refine cdU (b := (decide (v5 < (v4.length : Int)))) (.tmp m6_) (fun hc9 => ?_) (fun hc9 => ?_)
    ·replace h := ite_t hc9 h
     refine wc_ (cvK (b := ⟨[(0, .loc 100000 0), (1, .loc 100002 0), (5, .p (.list (.named 3)) v1), (26, .vec 10002 1 0 v4.length), (27, .p I6 ((v4.length : Int) : Int)), (28, .p I6 v5)], [(10002, .row 9 .str v4 false), (100000, .box [.mp 100001]), (100001, .map (.named 3) a0), (100002, .box [.vec 100003 3 0 a1.length]), (100003, .row 50 (.named 3) a1 false)]⟩) [0, 1, 5, 26, 27, 28] [10002, 100000, 100001, 100002, 100003] (by kernel_rfl)) (ws_ ?_)
     refine tnU ?_
     refine sqJ (fun st' => W02_Shows_m0.j10 k (W02_Shows_m0.l6 k a0 a1 v1 v4 n) a0 a1 v1 v4 v5 = some o7 ∧ st' = ⟨[(0, .loc 100000 0), (1, .loc 100002 0), (5, .p (.list (.named 3)) v1), (26, .vec 10002 1 0 v4.length), (27, .p I6 ((v4.length : Int) : Int)), (28, .p I6 v5)], [(10002, .row 9 .str v4 false), (100000, .box [.mp 100001]), (100001, .map (.named 3) a0), (100002, .box [.vec 100003 3 0 a1.length]), (100003, .row 50 (.named 3) a1 false)]⟩) ?_ ?_
     ·refine wb_ ?_
      refine sq_ ?_
      obtain ⟨g11, h⟩ := if_some h
      obtain ⟨v12, hv12, h⟩ := bind_some h
      refine rg4 (st1 := ⟨[(0, .loc 100000 0), (1, .loc 100002 0), (5, .p (.list (.named 3)) v1), (6, .p I6 v5), (7, .p .str v12), (26, .vec 10002 1 0 v4.length), (27, .p I6 ((v4.length : Int) : Int)), (28, .p I6 v5)], [(10002, .row 9 .str v4 false), (100000, .box [.mp 100001]), (100001, .map (.named 3) a0), (100002, .box [.vec 100003 3 0 a1.length]), (100003, .row 50 (.named 3) a1 false)]⟩) [0, 1, 5, 6, 7, 26, 27, 28] [10002, 100000, 100001, 100002, 100003] hN (.cons (mvU (v := .p I6 v5) rfl rfl) (.cons (u35_ (rs := [(26, .vec 10002 1 0 v4.length), (28, .p I6 v5)]) rfl rfl sl_40 o0 o1 g11) (.cons (u40_ (E := 9) (t := .str) (rs := [(31, .eloc 10002 1 (0 + v5.toNat) 0)]) (xs := v4) (fx := false) rfl rfl ty_9 o0 hv12 (.here _ _)) (.cons (mvA (v := .p I6 v5) rfl rfl) (.cons (mvA (v := .p .str v12) rfl rfl) .nil))))) (by kernel_rfl) ?_
      refine tnU ?_
      refine sqJ (fun st' => ∃ v13 : Bool, W02_Shows_m0.j15 k (W02_Shows_m0.l6 k a0 a1 v1 v4 n) a0 a1 v1 v4 v5 v13 = some o7 ∧ st' = ⟨[(0, .loc 100000 0), (1, .loc 100002 0), (5, .p (.list (.named 3)) v1), (26, .vec 10002 1 0 v4.length), (27, .p I6 ((v4.length : Int) : Int)), (28, .p I6 v5), (59, .p .bool v13)], [(10002, .row 9 .str v4 false), (100000, .box [.mp 100001]), (100001, .map (.named 3) a0), (100002, .box [.vec 100003 3 0 a1.length]), (100003, .row 50 (.named 3) a1 false)]⟩) ?_ ?_
      ·rcases bool_cases (decide (v5 ≥ (v1.length : Int))) with hc16 | hc16
       ·replace h := ite_t hc16 h
        refine u17_ (st1 := ⟨[(0, .loc 100000 0), (1, .loc 100002 0), (5, .p (.list (.named 3)) v1), (26, .vec 10002 1 0 v4.length), (27, .p I6 ((v4.length : Int) : Int)), (28, .p I6 v5), (59, .p .bool true)], [(10002, .row 9 .str v4 false), (100000, .box [.mp 100001]), (100001, .map (.named 3) a0), (100002, .box [.vec 100003 3 0 a1.length]), (100003, .row 50 (.named 3) a1 false)]⟩) [0, 1, 5, 26, 27, 28, 59] [10002, 100000, 100001, 100002, 100003] [[], [], [1], [0, 1, 2], [0, 1, 2, 3], [0, 1, 2, 3, 4], [0, 1, 2, 3, 4], [0, 1, 2, 3, 4], [0, 1, 2, 3, 4, 6, 7], [0, 1, 2, 3, 4, 6, 7, 8], [0, 1, 2, 3, 4, 6, 7, 8, 9], [0, 1, 2, 3, 4, 5, 6, 7, 8, 9, 10], [0, 1, 2, 3, 4, 5, 6, 7, 8, 9, 10, 11], [0, 1, 2, 3, 4, 5, 6, 7, 8, 9, 10, 11, 12], [0, 1, 2, 3, 4, 5, 6, 7, 8, 9, 10, 11, 12, 13], [0, 1, 2, 3, 4, 5, 6, 7, 8, 9, 10, 11, 12, 13], [0, 1, 2, 3, 4, 5, 6, 7, 8, 9, 10, 11, 12, 13, 14, 15], [0, 1, 2, 3, 4, 5, 6, 7, 8, 9, 10, 11, 12, 13, 14, 15, 16], [0, 1, 2, 3, 4, 5, 6, 7, 8, 9, 10, 11, 12, 13], [0, 1, 2, 3, 4, 5, 6, 7, 8, 9, 10, 11, 12, 13, 18], [0, 1, 2, 3, 4, 5, 6, 7, 8, 9, 10, 11, 12, 13, 18, 19], [0, 1, 2, 3, 4, 5, 6, 7, 8, 9, 10, 11, 12, 13, 18, 19, 20], [0, 1, 2, 3, 4, 5, 6, 7, 8, 9, 10, 11, 12, 13], [0, 1, 2, 3, 4, 5, 6, 7, 8, 9, 10, 11, 12, 13, 18, 19, 20, 21, 22], [0, 1, 2, 3, 4, 5, 6, 7, 8, 9, 10, 11, 12, 13, 18, 19, 20, 21, 22, 23], [0, 1, 2, 3, 4, 5, 6, 7, 8, 9, 10, 11, 12, 13, 14, 15, 16, 17, 18, 19, 20, 21, 22, 23, 24], [0, 1, 2, 3, 4, 5, 6, 7, 8, 9, 10, 11, 12, 13, 14, 15, 16, 17, 18, 19, 20, 21, 22, 23, 24, 25]] mixed hN (.cons (mvU (v := .p I6 v5) rfl rfl) (.cons (mvU (v := .p (.list (.named 3)) v1) rfl rfl) (.cons (u36_ (rs := [(34, .p (.list (.named 3)) v1)]) rfl rfl Tryd.underlying22 o0) (.cons (cmU (rs := [(33, .p I6 v5), (35, .p I6 ((v1.length : Int) : Int))]) rfl rfl o0 o1 rfl) (.cons (mvU (v := .p .bool ((decide (v5 ≥ (v1.length : Int))) : Bool)) rfl rfl) (.cons (skU rfl rfl hc16) (.cons (skU rfl rfl hc16) (.cons (skU rfl rfl hc16) (.cons (skU rfl rfl hc16) (.cons (skU rfl rfl hc16) (.cons (skU rfl rfl hc16) (.cons (skU rfl rfl hc16) (.cons (pkT (rs := [(37, .p .bool ((decide (v5 ≥ (v1.length : Int))) : Bool))]) rfl rfl o0 hc16 (.bool _ _)) (.cons (mvU (v := .p .bool true) rfl rfl) (.cons (skU rfl rfl rfl) (.cons (skU rfl rfl rfl) (.cons (skU rfl rfl rfl) (.cons (skU rfl rfl rfl) (.cons (skU rfl rfl rfl) (.cons (skU rfl rfl rfl) (.cons (skU rfl rfl rfl) (.cons (skU rfl rfl rfl) (.cons (skU rfl rfl rfl) (.cons (skU rfl rfl rfl) (.cons (skU rfl rfl rfl) (.cons (skU rfl rfl rfl) (.cons (pkT (rs := [(46, .p .bool true)]) rfl rfl o0 rfl (.bool _ _)) .nil))))))))))))))))))))))))))) (by kernel_rfl) (by kernel_rfl) (by kernel_rfl) (by kernel_rfl) (by kernel_rfl) (cvR _) ?_
        refine tnU ?_
        exact ⟨true, h, rfl⟩
       ·replace h := ite_f hc16 h
        obtain ⟨v17, hv17, h⟩ := bind_some h
        rcases bool_cases (!(v12 == v17.fN)) with hc18 | hc18
        ·replace h := ite_t hc18 h
         refine u17_ (st1 := ⟨[(0, .loc 100000 0), (1, .loc 100002 0), (5, .p (.list (.named 3)) v1), (26, .vec 10002 1 0 v4.length), (27, .p I6 ((v4.length : Int) : Int)), (28, .p I6 v5), (59, .p .bool true)], [(10002, .row 9 .str v4 false), (100000, .box [.mp 100001]), (100001, .map (.named 3) a0), (100002, .box [.vec 100003 3 0 a1.length]), (100003, .row 50 (.named 3) a1 false)]⟩) [0, 1, 5, 26, 27, 28, 59] [10002, 100000, 100001, 100002, 100003] [[], [], [1], [0, 1, 2], [0, 1, 2, 3], [0, 1, 2, 3, 4], [0, 1, 2, 3, 4], [0, 1, 2, 3, 4], [0, 1, 2, 3, 4, 6, 7], [0, 1, 2, 3, 4, 6, 7, 8], [0, 1, 2, 3, 4, 6, 7, 8, 9], [0, 1, 2, 3, 4, 5, 6, 7, 8, 9, 10], [0, 1, 2, 3, 4, 5, 6, 7, 8, 9, 10, 11], [0, 1, 2, 3, 4, 5, 6, 7, 8, 9, 10, 11, 12], [0, 1, 2, 3, 4, 5, 6, 7, 8, 9, 10, 11, 12, 13], [0, 1, 2, 3, 4, 5, 6, 7, 8, 9, 10, 11, 12, 13], [0, 1, 2, 3, 4, 5, 6, 7, 8, 9, 10, 11, 12, 13, 14, 15], [0, 1, 2, 3, 4, 5, 6, 7, 8, 9, 10, 11, 12, 13, 14, 15, 16], [0, 1, 2, 3, 4, 5, 6, 7, 8, 9, 10, 11, 12, 13], [0, 1, 2, 3, 4, 5, 6, 7, 8, 9, 10, 11, 12, 13, 18], [0, 1, 2, 3, 4, 5, 6, 7, 8, 9, 10, 11, 12, 13, 18, 19], [0, 1, 2, 3, 4, 5, 6, 7, 8, 9, 10, 11, 12, 13, 18, 19, 20], [0, 1, 2, 3, 4, 5, 6, 7, 8, 9, 10, 11, 12, 13], [0, 1, 2, 3, 4, 5, 6, 7, 8, 9, 10, 11, 12, 13, 18, 19, 20, 21, 22], [0, 1, 2, 3, 4, 5, 6, 7, 8, 9, 10, 11, 12, 13, 18, 19, 20, 21, 22, 23], [0, 1, 2, 3, 4, 5, 6, 7, 8, 9, 10, 11, 12, 13, 14, 15, 16, 17, 18, 19, 20, 21, 22, 23, 24], [0, 1, 2, 3, 4, 5, 6, 7, 8, 9, 10, 11, 12, 13, 14, 15, 16, 17, 18, 19, 20, 21, 22, 23, 24, 25]] mixed hN (.cons (mvU (v := .p I6 v5) rfl rfl) (.cons (mvU (v := .p (.list (.named 3)) v1) rfl rfl) (.cons (u36_ (rs := [(34, .p (.list (.named 3)) v1)]) rfl rfl Tryd.underlying22 o0) (.cons (cmU (rs := [(33, .p I6 v5), (35, .p I6 ((v1.length : Int) : Int))]) rfl rfl o0 o1 rfl) (.cons (mvU (v := .p .bool ((decide (v5 ≥ (v1.length : Int))) : Bool)) rfl rfl) (.cons (sok_run rfl rfl hc16 (mvU (v := .p .str v12) rfl rfl)) (.cons (sok_run rfl rfl hc16 (mvU (v := .p (.list (.named 3)) v1) rfl rfl)) (.cons (sok_run rfl rfl hc16 (mvU (v := .p I6 v5) rfl rfl)) (.cons (sok_run rfl rfl hc16 (u33_ (rs := [(39, .p (.list (.named 3)) v1), (40, .p I6 v5)]) rfl rfl sl_22 o0 o1 hv17)) (.cons (sok_run rfl rfl hc16 (u32_ (rs := [(41, .pp (.named 3) v17)]) rfl rfl fd_24_0 (by decide) o0 (.named (.fst (.here _ _))))) (.cons (sok_run rfl rfl hc16 (u42_ (rs := [(42, .pp .str v17.fN)]) rfl rfl ty_9 o0)) (.cons (sok_run rfl rfl hc16 (u27_ (rs := [(38, .p .str v12), (43, .p .str v17.fN)]) rfl rfl o0 o1 rfl)) (.cons (pkF (rs := [(37, .p .bool ((decide (v5 ≥ (v1.length : Int))) : Bool)), (44, .p .bool ((!(v12 == v17.fN)) : Bool))]) rfl rfl o0 hc16 o1) (.cons (mvU (v := .p .bool ((!(v12 == v17.fN)) : Bool)) rfl rfl) (.cons (skU rfl rfl hc18) (.cons (skU rfl rfl hc18) (.cons (skU rfl rfl hc18) (.cons (skU rfl rfl hc18) (.cons (skU rfl rfl hc18) (.cons (skU rfl rfl hc18) (.cons (skU rfl rfl hc18) (.cons (skU rfl rfl hc18) (.cons (skU rfl rfl hc18) (.cons (skU rfl rfl hc18) (.cons (skU rfl rfl hc18) (.cons (skU rfl rfl hc18) (.cons (pkT (rs := [(46, .p .bool ((!(v12 == v17.fN)) : Bool))]) rfl rfl o0 hc18 (.bool _ _)) .nil))))))))))))))))))))))))))) (by kernel_rfl) (by kernel_rfl) (by kernel_rfl) (by kernel_rfl) (by kernel_rfl) (cvR _) ?_
         refine tnU ?_
         exact ⟨true, h, rfl⟩
        ·replace h := ite_f hc18 h
         obtain ⟨v19, hv19, h⟩ := bind_some h
         obtain ⟨g20, h⟩ := if_some h
         obtain ⟨v21, hv21, h⟩ := bind_some h
         refine u17_ (st1 := ⟨[(0, .loc 100000 0), (1, .loc 100002 0), (5, .p (.list (.named 3)) v1), (26, .vec 10002 1 0 v4.length), (27, .p I6 ((v4.length : Int) : Int)), (28, .p I6 v5), (59, .p .bool ((!(v19.fN == v21.fN && (v19.fC == v21.fC && (v19.fT == v21.fT && true)))) : Bool))], [(10002, .row 9 .str v4 false), (100000, .box [.mp 100001]), (100001, .map (.named 3) a0), (100002, .box [.vec 100003 3 0 a1.length]), (100003, .row 50 (.named 3) a1 false)]⟩) [0, 1, 5, 26, 27, 28, 59] [10002, 100000, 100001, 100002, 100003] [[], [], [1], [0, 1, 2], [0, 1, 2, 3], [0, 1, 2, 3, 4], [0, 1, 2, 3, 4], [0, 1, 2, 3, 4], [0, 1, 2, 3, 4, 6, 7], [0, 1, 2, 3, 4, 6, 7, 8], [0, 1, 2, 3, 4, 6, 7, 8, 9], [0, 1, 2, 3, 4, 5, 6, 7, 8, 9, 10], [0, 1, 2, 3, 4, 5, 6, 7, 8, 9, 10, 11], [0, 1, 2, 3, 4, 5, 6, 7, 8, 9, 10, 11, 12], [0, 1, 2, 3, 4, 5, 6, 7, 8, 9, 10, 11, 12, 13], [0, 1, 2, 3, 4, 5, 6, 7, 8, 9, 10, 11, 12, 13], [0, 1, 2, 3, 4, 5, 6, 7, 8, 9, 10, 11, 12, 13, 14, 15], [0, 1, 2, 3, 4, 5, 6, 7, 8, 9, 10, 11, 12, 13, 14, 15, 16], [0, 1, 2, 3, 4, 5, 6, 7, 8, 9, 10, 11, 12, 13], [0, 1, 2, 3, 4, 5, 6, 7, 8, 9, 10, 11, 12, 13, 18], [0, 1, 2, 3, 4, 5, 6, 7, 8, 9, 10, 11, 12, 13, 18, 19], [0, 1, 2, 3, 4, 5, 6, 7, 8, 9, 10, 11, 12, 13, 18, 19, 20], [0, 1, 2, 3, 4, 5, 6, 7, 8, 9, 10, 11, 12, 13], [0, 1, 2, 3, 4, 5, 6, 7, 8, 9, 10, 11, 12, 13, 18, 19, 20, 21, 22], [0, 1, 2, 3, 4, 5, 6, 7, 8, 9, 10, 11, 12, 13, 18, 19, 20, 21, 22, 23], [0, 1, 2, 3, 4, 5, 6, 7, 8, 9, 10, 11, 12, 13, 14, 15, 16, 17, 18, 19, 20, 21, 22, 23, 24], [0, 1, 2, 3, 4, 5, 6, 7, 8, 9, 10, 11, 12, 13, 14, 15, 16, 17, 18, 19, 20, 21, 22, 23, 24, 25]] mixed hN (.cons (mvU (v := .p I6 v5) rfl rfl) (.cons (mvU (v := .p (.list (.named 3)) v1) rfl rfl) (.cons (u36_ (rs := [(34, .p (.list (.named 3)) v1)]) rfl rfl Tryd.underlying22 o0) (.cons (cmU (rs := [(33, .p I6 v5), (35, .p I6 ((v1.length : Int) : Int))]) rfl rfl o0 o1 rfl) (.cons (mvU (v := .p .bool ((decide (v5 ≥ (v1.length : Int))) : Bool)) rfl rfl) (.cons (sok_run rfl rfl hc16 (mvU (v := .p .str v12) rfl rfl)) (.cons (sok_run rfl rfl hc16 (mvU (v := .p (.list (.named 3)) v1) rfl rfl)) (.cons (sok_run rfl rfl hc16 (mvU (v := .p I6 v5) rfl rfl)) (.cons (sok_run rfl rfl hc16 (u33_ (rs := [(39, .p (.list (.named 3)) v1), (40, .p I6 v5)]) rfl rfl sl_22 o0 o1 hv17)) (.cons (sok_run rfl rfl hc16 (u32_ (rs := [(41, .pp (.named 3) v17)]) rfl rfl fd_24_0 (by decide) o0 (.named (.fst (.here _ _))))) (.cons (sok_run rfl rfl hc16 (u42_ (rs := [(42, .pp .str v17.fN)]) rfl rfl ty_9 o0)) (.cons (sok_run rfl rfl hc16 (u27_ (rs := [(38, .p .str v12), (43, .p .str v17.fN)]) rfl rfl o0 o1 rfl)) (.cons (pkF (rs := [(37, .p .bool ((decide (v5 ≥ (v1.length : Int))) : Bool)), (44, .p .bool ((!(v12 == v17.fN)) : Bool))]) rfl rfl o0 hc16 o1) (.cons (mvU (v := .p .bool ((!(v12 == v17.fN)) : Bool)) rfl rfl) (.cons (sok_run rfl rfl hc18 (mvU (v := .p (.list (.named 3)) v1) rfl rfl)) (.cons (sok_run rfl rfl hc18 (mvU (v := .p I6 v5) rfl rfl)) (.cons (sok_run rfl rfl hc18 (u33_ (rs := [(47, .p (.list (.named 3)) v1), (48, .p I6 v5)]) rfl rfl sl_22 o0 o1 hv19)) (.cons (sok_run rfl rfl hc18 (u42_ (rs := [(49, .pp (.named 3) v19)]) rfl rfl ty_24 o0)) (.cons (sok_run rfl rfl hc18 (mvU (v := .loc 100002 0) rfl rfl)) (.cons (sok_run rfl rfl hc18 (nlU (rs := [(51, .loc 100002 0)]) rfl rfl o0 rfl)) (.cons (sok_run rfl rfl hc18 (fdB (rs := [(52, .loc 100002 0)]) rfl rfl fd_47_0 (by decide) o0)) (.cons (sok_run rfl rfl hc18 (ldB (t := .list (.named 3)) (rs := [(53, .loc 100002 0)]) [] [.vec 100003 3 0 a1.length] [] (v := .vec 100003 3 0 a1.length) rfl rfl ty_45 o0 rfl rfl rfl rfl (.hand rfl rfl))) (.cons (sok_run rfl rfl hc18 (mvU (v := .p I6 v5) rfl rfl)) (.cons (sok_run rfl rfl hc18 (u35_ (rs := [(54, .vec 100003 3 0 a1.length), (55, .p I6 v5)]) rfl rfl sl_45 o0 o1 g20)) (.cons (sok_run rfl rfl hc18 (u40_ (E := 50) (t := .named 3) (rs := [(56, .eloc 100003 3 (0 + v5.toNat) 0)]) (xs := a1) (fx := false) rfl rfl ty_50 o0 hv21 (.here _ _))) (.cons (sok_run rfl rfl hc18 (u49_ (rs := [(50, .p (.named 3) v19), (57, .p (.named 3) v21)]) rfl rfl Tryd.underlying50 (by kernel_rfl) (eqf_50 _ Tryd.underlying50) (by kernel_rfl) o0 o1)) (.cons (pkF (rs := [(46, .p .bool ((!(v12 == v17.fN)) : Bool)), (58, .p .bool ((!(v19.fN == v21.fN && (v19.fC == v21.fC && (v19.fT == v21.fT && true)))) : Bool))]) rfl rfl o0 hc18 o1) .nil))))))))))))))))))))))))))) (by kernel_rfl) (by kernel_rfl) (by kernel_rfl) (by kernel_rfl) (by kernel_rfl) (cvR _) ?_
         refine tnU ?_
         exact ⟨(!(v19.fN == v21.fN && (v19.fC == v21.fC && (v19.fT == v21.fT && true)))), h, rfl⟩
      ·rintro _ ⟨v13, h, rfl⟩
       unfold W02_Shows_m0.j15 at h
       refine cdU (b := v13) (.tmp m6_) (fun hc14 => ?_) (fun hc14 => ?_)
       ·replace h := ite_t hc14 h
        refine sq_ ?_
        refine rg4 (st1 := ⟨[(4, .p .bool false)], [(100000, .box [.mp 100001]), (100001, .map (.named 3) a0), (100002, .box [.vec 100003 3 0 a1.length]), (100003, .row 50 (.named 3) a1 false)]⟩) [4] [100000, 100001, 100002, 100003] hN (.cons (moU (rs := []) rfl (.inr rfl) (.bool _ _)) .nil) (by kernel_rfl) ?_
        refine tnU ?_
        refine wr_ ?_
        refine blockQ_ret ?_
        refine tr_ ?_
        have hq := Option.some.inj h
        subst hq
        refine tr_ ?_
        have h := hout8
        refine blockQ_ret ?_
        refine tr_ ?_
        have hq := Option.some.inj h
        subst hq
        exact ends_ret (retV_1 rfl (.head _)) (ain_cons (.head _) (ain_cons m1_ (ain_cons m2_ (ain_cons m3_ ain_nil))))
       ·replace h := ite_f hc14 h
        refine wc_ (cvK (b := ⟨[(0, .loc 100000 0), (1, .loc 100002 0), (5, .p (.list (.named 3)) v1), (26, .vec 10002 1 0 v4.length), (27, .p I6 ((v4.length : Int) : Int)), (28, .p I6 v5)], [(10002, .row 9 .str v4 false), (100000, .box [.mp 100001]), (100001, .map (.named 3) a0), (100002, .box [.vec 100003 3 0 a1.length]), (100003, .row 50 (.named 3) a1 false)]⟩) [0, 1, 5, 26, 27, 28] [10002, 100000, 100001, 100002, 100003] (by kernel_rfl)) (ws_ ?_)
        refine bn_ ?_
        refine tnU ?_
        exact ⟨h, rfl⟩
     ·rintro _ ⟨h, rfl⟩
      unfold W02_Shows_m0.j10 at h
      refine rg4 (st1 := ⟨[(0, .loc 100000 0), (1, .loc 100002 0), (5, .p (.list (.named 3)) v1), (26, .vec 10002 1 0 v4.length), (27, .p I6 ((v4.length : Int) : Int)), (28, .p I6 ((IntKind.i64.wrap (v5 + 1)) : Int))], [(10002, .row 9 .str v4 false), (100000, .box [.mp 100001]), (100001, .map (.named 3) a0), (100002, .box [.vec 100003 3 0 a1.length]), (100003, .row 50 (.named 3) a1 false)]⟩) [0, 1, 5, 26, 27, 28] [10002, 100000, 100001, 100002, 100003] hN (.cons (u21_ (rs := [(28, .p I6 v5)]) rfl rfl o0 (.int _ _ _) rfl) (.cons (mvU (v := .p I6 ((IntKind.i64.wrap (v5 + 1)) : Int)) rfl rfl) .nil)) (by kernel_rfl) ?_
      refine tnU ?_
      exact ⟨n, Nat.lt_succ_self n, (IntKind.i64.wrap (v5 + 1)), h, rfl⟩
    ·replace h := ite_f hc9 h
     refine wc_ (cvK (b := ⟨[(0, .loc 100000 0), (5, .p (.list (.named 3)) v1)], [(100000, .box [.mp 100001]), (100001, .map (.named 3) a0), (100002, .box [.vec 100003 3 0 a1.length]), (100003, .row 50 (.named 3) a1 false)]⟩) [0, 5] [100000, 100001, 100002, 100003] (by kernel_rfl)) (we_ ?_)
     refine te_ ?_
     have hq := Option.some.inj h
     subst hq
     refine te_ ?_
     have h := hout8
     refine blockQ_hit ?_
     refine tnU ?_
     exact ⟨h, rfl⟩
  ·rintro _ ⟨h, rfl⟩
   unfold W02_Shows_m0.j3 at h
   refine sq_ ?_
   obtain ⟨v2, hv2, h⟩ := bind_some h
   refine rg4 (st1 := ⟨[(4, .p .bool (((v2.length : Int) == (v1.length : Int)) : Bool))], [(100000, .box [.mp 100001]), (100001, .map (.named 3) a0), (100002, .box [.vec 100003 3 0 a1.length]), (100003, .row 50 (.named 3) a1 false)]⟩) [4] [100000, 100001, 100002, 100003] hN (.cons (mvU (v := .loc 100000 0) rfl rfl) (.cons (caV (rs := [(61, .loc 100000 0)]) (vw := []) rfl rfl (.func _) hb_17 (COk.ren (tree_Tree_Names_m0.ok O hO k a0 v2 hv2) (fun n => if n = 60500 then 10001 else if n = 100000 then 100000 else if n = 100001 then 100001 else n) (injOn_of (by kernel_rfl))) (.cons o0 .nil) (.cons (.same _) .nil) (by simp) (.inl rfl)) (.cons (u39_ (rs := [(62, .vec 10001 1 0 v2.length)]) rfl rfl Tryd.underlying40 o0) (.cons (mvU (v := .p (.list (.named 3)) v1) rfl rfl) (.cons (u36_ (rs := [(64, .p (.list (.named 3)) v1)]) rfl rfl Tryd.underlying22 o0) (.cons (cmU (rs := [(63, .p I6 ((v2.length : Int) : Int)), (65, .p I6 ((v1.length : Int) : Int))]) rfl rfl o0 o1 rfl) (.cons (mvA (v := .p .bool (((v2.length : Int) == (v1.length : Int)) : Bool)) rfl rfl) .nil))))))) (by kernel_rfl) ?_
   refine tnU ?_
   refine wr_ ?_
   have hq := Option.some.inj h
   subst hq
   exact ends_ret (retV_1 rfl (.head _)) (ain_cons (.head _) (ain_cons m1_ (ain_cons m2_ (ain_cons m3_ ain_nil))))

end Go.Proofs.YtkdpaglpieamgaaDoor
