/- A part of a proof: DAC0. -/
import Derived.Test.YtkdpaglpieamgaaDoorK10DAN
namespace Go.Proofs.YtkdpaglpieamgaaDoor
open Go Go.AM
set_option linter.unusedVariables false
set_option linter.unusedSimpArgs false
set_option maxRecDepth 100000
theorem tree_New.ok (O : Out) (hO : GOk O) (k : Nat) (out : List ((List UInt8) × TF)) (h : tree_New.f k = some out) : COk Un O Tryd.prog 18 { ar := [], r := .loc 60500 0, bs' := [(60500, .box [.mp 60501]), (60501, .map (.named 3) out)], nn := [60500, 60501] } := by
 refine cok_of_wp Tryd.func18 rfl (k := 4) rfl (Nat.le_of_ble_eq_true rfl) (namesOk_of (by kernel_rfl)) ?_
 intro B hN
 refine ckS (b := ⟨[], []⟩) [] [] (by kernel_rfl) ?_
 unfold tree_New.f at h
 refine sq_ ?_
 refine rg4 (st1 := ⟨[], []⟩) [] [] hN (.cons (moU (rs := []) rfl (.inr rfl) (.lit _ _ rfl)) .nil) (by kernel_rfl) ?_
 refine tnS ?_
 refine rg4 (st1 := ⟨[(0, .loc 3 0)], [(1, .map (.named 3) ([] : List ((List UInt8) × TF))), (3, .box [.mp 1])]⟩) [0] [1, 3] hN (.cons (u45_ (t := .named 3) (rs := []) (d := 1) rfl rfl rfl) (.cons (u23_ (t := .arr 1 .bool) (rs := [(1, .mp 1)]) (us0 := [.lit (.map none)]) (us := [.mp 1]) (v := .agg [.mp 1]) rfl rfl lays_89 (.lit rfl .nil) (Filled.cons (U := Un) (i := 0) (v := .mp 1) [] [.lit (.map none)] [.mp 1] [] o0 (.hand rfl) rfl rfl rfl rfl rfl rfl (.nil _)) rfl (.agg rfl)) (.cons (u22_ (rs := [(2, .agg [.mp 1])]) (d := 3) (us := [.mp 1]) rfl rfl rfl o0 .agg rfl (notin_of (by kernel_rfl))) (.cons (mvA (v := .loc 3 0) rfl rfl) .nil)))) (by kernel_rfl) ?_
 refine tnU ?_
 refine wc_ (cvT (u12_ (st' := ⟨[(0, .loc 3 0)], [(60501, .map (.named 3) ([] : List ((List UInt8) × TF))), (3, .box [.mp 60501])]⟩) 1 60501 (by unfold K0; omega) (by kernel_rfl) (by kernel_rfl) (by kernel_rfl)) (cvT (cvK (b := ⟨[(0, .loc 3 0)], [(3, .box [.mp 60501]), (60501, .map (.named 3) ([] : List ((List UInt8) × TF)))]⟩) [0] [3, 60501] (by kernel_rfl)) (cvT (u12_ (st' := ⟨[(0, .loc 60500 0)], [(60500, .box [.mp 60501]), (60501, .map (.named 3) ([] : List ((List UInt8) × TF)))]⟩) 3 60500 (by unfold K0; omega) (by kernel_rfl) (by kernel_rfl) (by kernel_rfl)) (cvK (b := ⟨[(0, .loc 60500 0)], [(60500, .box [.mp 60501]), (60501, .map (.named 3) ([] : List ((List UInt8) × TF)))]⟩) [0] [60500, 60501] (by kernel_rfl))))) (wr_ ?_)
 have hq := Option.some.inj h
 subst hq
 exact ends_ret (retV_1 rfl (.head _)) (ain_cons (.head _) (ain_cons m1_ ain_nil))

theorem tree_Tree_Get_m0.ok (O : Out) (hO : GOk O) (k : Nat) (a0 : List ((List UInt8) × TF)) (a1 : List UInt8) (out : TF × Bool) (h : tree_Tree_Get_m0.f k a0 a1 = some out) : COk Un O Tryd.prog 16 { ar := [.loc 100000 0, .p .str a1], r := .tup [.p (.named 3) out.1, .p .bool out.2], bs := [(100000, .box [.mp 100001]), (100001, .map (.named 3) a0)], bs' := [(100000, .box [.mp 100001]), (100001, .map (.named 3) a0)] } := by
 refine cok_of_wp Tryd.func16 rfl (k := 19) rfl (Nat.le_of_ble_eq_true rfl) (namesOk_of (by kernel_rfl)) ?_
 intro B hN
 refine ckS (b := ⟨[(0, .loc 100000 0), (1, .p .str a1)], [(100000, .box [.mp 100001]), (100001, .map (.named 3) a0)]⟩) [0, 1] [100000, 100001] (by kernel_rfl) ?_
 unfold tree_Tree_Get_m0.f at h
 refine sq_ ?_
 refine rg4 (st1 := ⟨[(0, .loc 100000 0), (1, .p .str a1), (4, .loc 4 0)], [(4, .box [.p .str ([] : List UInt8), .p .str ([] : List UInt8), .p I6 (0 : Int)]), (100000, .box [.mp 100001]), (100001, .map (.named 3) a0)]⟩) [0, 1, 4] [4, 100000, 100001] hN (.cons (u18_ (rs := []) (d := 4) (us := [.p .str ([] : List UInt8), .p .str ([] : List UInt8), .p I6 (0 : Int)]) (v := (.agg #[.string ByteArray.empty, .string ByteArray.empty, .int .i64 0])) rfl rfl rfl (by kernel_rfl) rfl (.data (fun _ _ _ => rd_str0) (.data (fun _ _ _ => rd_str0) (.data (fun _ _ _ => .int _ _) .nil))) (by kernel_rfl)) (.cons (moU (rs := []) rfl (.inr rfl) (.bool _ _)) .nil)) (by kernel_rfl) ?_
 refine tnS ?_
 refine rg4 (st1 := ⟨[(4, .loc 4 0), (6, .loc 6 0), (7, .p .bool ((mget a1 a0).isSome : Bool))], [(4, .box [.p .str ([] : List UInt8), .p .str ([] : List UInt8), .p I6 (0 : Int)]), (6, .box [.p .str (((mget a1 a0).getD (TF.mk [] [] 0)).fN : List UInt8), .p .str (((mget a1 a0).getD (TF.mk [] [] 0)).fC : List UInt8), .p I6 (((mget a1 a0).getD (TF.mk [] [] 0)).fT : Int)]), (100000, .box [.mp 100001]), (100001, .map (.named 3) a0)]⟩) [4, 6, 7] [4, 6, 100000, 100001] hN (.cons (mvU (v := .loc 100000 0) rfl rfl) (.cons (nlU (rs := [(9, .loc 100000 0)]) rfl rfl o0 rfl) (.cons (fdB (rs := [(10, .loc 100000 0)]) rfl rfl fd_89_0 (by decide) o0) (.cons (ldB (t := .bool) (rs := [(11, .loc 100000 0)]) [] [.mp 100001] [] (v := .mp 100001) rfl rfl ty1_86 o0 rfl rfl rfl rfl (.hand rfl rfl)) (.cons (mvU (v := .p .str a1) rfl rfl) (.cons (u44_ (t := .named 3) (kvs := a0) (rs := [(12, .mp 100001), (13, .p .str a1)]) rfl rfl map_86 zv_24 o0 o1) (.cons (mvU (v := .tup [.p (.named 3) (((mget a1 a0).getD (TF.mk [] [] 0)) : TF), .p .bool ((mget a1 a0).isSome : Bool)]) rfl rfl) (.cons (exU (rs := [(8, .tup [.p (.named 3) (((mget a1 a0).getD (TF.mk [] [] 0)) : TF), .p .bool ((mget a1 a0).isSome : Bool)])]) rfl rfl o0 rfl) (.cons (exU (rs := [(8, .tup [.p (.named 3) (((mget a1 a0).getD (TF.mk [] [] 0)) : TF), .p .bool ((mget a1 a0).isSome : Bool)])]) rfl rfl o0 rfl) (.cons (u18_ (rs := []) (d := 6) (us := [.p .str ([] : List UInt8), .p .str ([] : List UInt8), .p I6 (0 : Int)]) (v := (.agg #[.string ByteArray.empty, .string ByteArray.empty, .int .i64 0])) rfl rfl rfl (by kernel_rfl) rfl (.data (fun _ _ _ => rd_str0) (.data (fun _ _ _ => rd_str0) (.data (fun _ _ _ => .int _ _) .nil))) (by kernel_rfl)) (.cons (u54_ (rs := [(6, .loc 6 0), (15, .p (.named 3) (((mget a1 a0).getD (TF.mk [] [] 0)) : TF))]) (v := .p (.named 3) (((mget a1 a0).getD (TF.mk [] [] 0)) : TF)) (mid' := [.p .str (((mget a1 a0).getD (TF.mk [] [] 0)).fN : List UInt8), .p .str (((mget a1 a0).getD (TF.mk [] [] 0)).fC : List UInt8), .p I6 (((mget a1 a0).getD (TF.mk [] [] 0)).fT : Int)]) [] [.p .str ([] : List UInt8), .p .str ([] : List UInt8), .p I6 (0 : Int)] [] rfl rfl rfl ty_24 o0 o1 (.data (.named (us := ([.p .str (((mget a1 a0).getD (TF.mk [] [] 0)).fN : List UInt8), .p .str (((mget a1 a0).getD (TF.mk [] [] 0)).fC : List UInt8), .p I6 (((mget a1 a0).getD (TF.mk [] [] 0)).fT : Int)] : List (AVal Un))) (.pair (.one _ _) (.pair (.one _ _) (.pair (.one _ _) .unit))))) rfl rfl rfl rfl rfl rfl) (.cons (mvA (v := .p .bool ((mget a1 a0).isSome : Bool)) rfl rfl) .nil)))))))))))) (by kernel_rfl) ?_
 refine tnS ?_
 refine rg4 (st1 := ⟨[(4, .loc 4 0), (5, .p .bool ((mget a1 a0).isSome : Bool))], [(4, .box [.p .str ((((mget a1 a0).getD (TF.mk [] [] 0)).fN) : List UInt8), .p .str ((((mget a1 a0).getD (TF.mk [] [] 0)).fC) : List UInt8), .p I6 ((((mget a1 a0).getD (TF.mk [] [] 0)).fT) : Int)]), (100000, .box [.mp 100001]), (100001, .map (.named 3) a0)]⟩) [4, 5] [4, 100000, 100001] hN (.cons (ldB (t := .named 3) (rs := [(6, .loc 6 0)]) [] [.p .str (((mget a1 a0).getD (TF.mk [] [] 0)).fN : List UInt8), .p .str (((mget a1 a0).getD (TF.mk [] [] 0)).fC : List UInt8), .p I6 (((mget a1 a0).getD (TF.mk [] [] 0)).fT : Int)] [] (v := .p (.named 3) ((TF.mk (((mget a1 a0).getD (TF.mk [] [] 0)).fN) (((mget a1 a0).getD (TF.mk [] [] 0)).fC) (((mget a1 a0).getD (TF.mk [] [] 0)).fT)) : TF)) rfl rfl ty_24 o0 rfl rfl rfl rfl (.data (.named (us := ([.p .str (((mget a1 a0).getD (TF.mk [] [] 0)).fN : List UInt8), .p .str (((mget a1 a0).getD (TF.mk [] [] 0)).fC : List UInt8), .p I6 (((mget a1 a0).getD (TF.mk [] [] 0)).fT : Int)] : List (AVal Un))) (.pair (.one _ _) (.pair (.one _ _) (.pair (.one _ _) .unit)))))) (.cons (mvU (v := .p .bool ((mget a1 a0).isSome : Bool)) rfl rfl) (.cons (u54_ (rs := [(4, .loc 4 0), (17, .p (.named 3) ((TF.mk (((mget a1 a0).getD (TF.mk [] [] 0)).fN) (((mget a1 a0).getD (TF.mk [] [] 0)).fC) (((mget a1 a0).getD (TF.mk [] [] 0)).fT)) : TF))]) (v := .p (.named 3) ((TF.mk (((mget a1 a0).getD (TF.mk [] [] 0)).fN) (((mget a1 a0).getD (TF.mk [] [] 0)).fC) (((mget a1 a0).getD (TF.mk [] [] 0)).fT)) : TF)) (mid' := [.p .str ((((mget a1 a0).getD (TF.mk [] [] 0)).fN) : List UInt8), .p .str ((((mget a1 a0).getD (TF.mk [] [] 0)).fC) : List UInt8), .p I6 ((((mget a1 a0).getD (TF.mk [] [] 0)).fT) : Int)]) [] [.p .str ([] : List UInt8), .p .str ([] : List UInt8), .p I6 (0 : Int)] [] rfl rfl rfl ty_24 o0 o1 (.data (.named (us := ([.p .str ((((mget a1 a0).getD (TF.mk [] [] 0)).fN) : List UInt8), .p .str ((((mget a1 a0).getD (TF.mk [] [] 0)).fC) : List UInt8), .p I6 ((((mget a1 a0).getD (TF.mk [] [] 0)).fT) : Int)] : List (AVal Un))) (.pair (.one _ _) (.pair (.one _ _) (.pair (.one _ _) .unit))))) rfl rfl rfl rfl rfl rfl) (.cons (mvA (v := .p .bool ((mget a1 a0).isSome : Bool)) rfl rfl) .nil)))) (by kernel_rfl) ?_
 refine tnU ?_
 refine wr_ ?_
 have hq := Option.some.inj h
 subst hq
 exact ends_ret (retV_L (U := Un) (vs := [.p (.named 3) ((TF.mk (((mget a1 a0).getD (TF.mk [] [] 0)).fN) (((mget a1 a0).getD (TF.mk [] [] 0)).fC) (((mget a1 a0).getD (TF.mk [] [] 0)).fT)) : TF), .p .bool ((mget a1 a0).isSome : Bool)]) rfl (ResL.cell (U := Un) [] [.p .str ((((mget a1 a0).getD (TF.mk [] [] 0)).fN) : List UInt8), .p .str ((((mget a1 a0).getD (TF.mk [] [] 0)).fC) : List UInt8), .p I6 ((((mget a1 a0).getD (TF.mk [] [] 0)).fT) : Int)] [] (.head _) (.head _) rfl rfl rfl rfl ty_24 (.data (.named (us := ([.p .str ((((mget a1 a0).getD (TF.mk [] [] 0)).fN) : List UInt8), .p .str ((((mget a1 a0).getD (TF.mk [] [] 0)).fC) : List UInt8), .p I6 ((((mget a1 a0).getD (TF.mk [] [] 0)).fT) : Int)] : List (AVal Un))) (.pair (.one _ _) (.pair (.one _ _) (.pair (.one _ _) .unit))))) (ResL.tmp (U := Un) m1_ .nil))) (ain_cons m1_ (ain_cons m2_ ain_nil))

theorem names_Right.ok (O : Out) (hO : GOk O) (k : Nat) (a0 : List UInt8) (out : Bool) (h : names_Right.f k a0 = some out) : COk Un O Tryd.prog 68 { ar := [.p .str a0], r := .p .bool out } := by
 refine cok_of_wp Tryd.func68 rfl (k := 28) rfl (Nat.le_of_ble_eq_true rfl) (namesOk_pure rfl rfl rfl rfl) ?_
 intro B hN
 refine ckS (b := ⟨[(0, .p .str a0)], []⟩) [0] [] (by kernel_rfl) ?_
 unfold names_Right.f at h
 refine sq_ ?_
 refine rg4 (st1 := ⟨[(0, .p .str a0)], []⟩) [0] [] hN (.cons (moU (rs := []) rfl (.inr rfl) (.bool _ _)) .nil) (by kernel_rfl) ?_
 refine tnU ?_
 refine sqJ (fun st' => names_Right.j16 k a0 = some out ∧ st' = ⟨[(0, .p .str a0)], []⟩) ?_ ?_
 ·refine sqJ (fun st' => ∃ v17 : Bool, names_Right.j19 k a0 v17 = some out ∧ st' = ⟨[(0, .p .str a0), (11, .p .bool v17)], []⟩) ?_ ?_
  ·rcases bool_cases (decide ((a0.length : Int) < 1)) with hc20 | hc20
   ·replace h := ite_t hc20 h
    refine rg4 (st1 := ⟨[(0, .p .str a0), (11, .p .bool true)], []⟩) [0, 11] [] hN (.cons (mvU (v := .p .str a0) rfl rfl) (.cons (u38_ (rs := [(4, .p .str a0)]) rfl rfl Tryd.underlying9 o0) (.cons (cmU (rs := [(5, .p I6 ((a0.length : Int) : Int))]) rfl rfl o0 (.int _ _ _) rfl) (.cons (mvU (v := .p .bool ((decide ((a0.length : Int) < 1)) : Bool)) rfl rfl) (.cons (skU rfl rfl hc20) (.cons (skU rfl rfl hc20) (.cons (skU rfl rfl hc20) (.cons (pkT (rs := [(7, .p .bool ((decide ((a0.length : Int) < 1)) : Bool))]) rfl rfl o0 hc20 (.bool _ _)) .nil)))))))) (by kernel_rfl) ?_
    refine tnU ?_
    exact ⟨true, h, rfl⟩
   ·replace h := ite_f hc20 h
    refine rg4 (st1 := ⟨[(0, .p .str a0), (11, .p .bool ((decide ((a0.length : Int) > 40)) : Bool))], []⟩) [0, 11] [] hN (.cons (mvU (v := .p .str a0) rfl rfl) (.cons (u38_ (rs := [(4, .p .str a0)]) rfl rfl Tryd.underlying9 o0) (.cons (cmU (rs := [(5, .p I6 ((a0.length : Int) : Int))]) rfl rfl o0 (.int _ _ _) rfl) (.cons (mvU (v := .p .bool ((decide ((a0.length : Int) < 1)) : Bool)) rfl rfl) (.cons (sok_run rfl rfl hc20 (mvU (v := .p .str a0) rfl rfl)) (.cons (sok_run rfl rfl hc20 (u38_ (rs := [(8, .p .str a0)]) rfl rfl Tryd.underlying9 o0)) (.cons (sok_run rfl rfl hc20 (cmU (rs := [(9, .p I6 ((a0.length : Int) : Int))]) rfl rfl o0 (.int _ _ _) rfl)) (.cons (pkF (rs := [(7, .p .bool ((decide ((a0.length : Int) < 1)) : Bool)), (10, .p .bool ((decide ((a0.length : Int) > 40)) : Bool))]) rfl rfl o0 hc20 o1) .nil)))))))) (by kernel_rfl) ?_
    refine tnU ?_
    exact ⟨(decide ((a0.length : Int) > 40)), h, rfl⟩
  ·rintro _ ⟨v17, h, rfl⟩
   unfold names_Right.j19 at h
   refine cdU (b := v17) o1 (fun hc18 => ?_) (fun hc18 => ?_)
   ·replace h := ite_t hc18 h
    refine sq_ ?_
    refine rg4 (st1 := ⟨[(2, .p .bool false)], []⟩) [2] [] hN (.cons (moU (rs := []) rfl (.inr rfl) (.bool _ _)) .nil) (by kernel_rfl) ?_
    refine tnU ?_
    refine wr_ ?_
    refine tr_ ?_
    have hq := Option.some.inj h
    subst hq
    exact ends_ret (retV_1 rfl (.head _)) ain_nil
   ·replace h := ite_f hc18 h
    refine wc_ (cvK (b := ⟨[(0, .p .str a0)], []⟩) [0] [] (by kernel_rfl)) (ws_ ?_)
    refine tnU ?_
    exact ⟨h, rfl⟩
 ·rintro _ ⟨h, rfl⟩
  unfold names_Right.j16 at h
  refine sqJ (fun st' => names_Right.j1 k = some out ∧ st' = ⟨[], []⟩) ?_ ?_
  ·refine sq_ ?_
   refine rg4 (st1 := ⟨[(0, .p .str a0), (13, .p I6 ((a0.length : Int) : Int)), (14, .p I6 (0 : Int))], []⟩) [0, 13, 14] [] hN (.cons (mvU (v := .p .str a0) rfl rfl) (.cons (u38_ (rs := [(12, .p .str a0)]) rfl rfl Tryd.underlying9 o0) (.cons (moU (rs := []) rfl (.inl rfl) (.int _ _ _)) .nil))) (by kernel_rfl) ?_
   refine tnU ?_
   refine wb_ ?_
   obtain ⟨o4, hlo4, h⟩ := bind_some h
   have hout5 := h
   clear h
   refine u14_ (fun n st' => ∃ v2 : Int, names_Right.l3 k a0 n v2 = some o4 ∧ st' = ⟨[(0, .p .str a0), (13, .p I6 ((a0.length : Int) : Int)), (14, .p I6 v2)], []⟩) k ⟨0, hlo4, rfl⟩ ?_
   clear hlo4
   rintro (_ | n) _ ⟨v2, h, rfl⟩
   ·cases h
   ·rw [names_Right.l3] at h
    refine sq_ ?_
    refine rg4 (st1 := ⟨[(0, .p .str a0), (13, .p I6 ((a0.length : Int) : Int)), (14, .p I6 v2), (15, .p .bool ((decide (v2 < (a0.length : Int))) : Bool))], []⟩) [0, 13, 14, 15] [] hN (.cons (cmU (rs := [(14, .p I6 v2), (13, .p I6 ((a0.length : Int) : Int))]) rfl rfl o0 o1 rfl) .nil) (by kernel_rfl) ?_
    refine tnS ?_
    refine cdU (b := (decide (v2 < (a0.length : Int)))) (.tmp m3_) (fun hc6 => ?_) (fun hc6 => ?_)
    ·replace h := ite_t hc6 h
     refine wc_ (cvK (b := ⟨[(0, .p .str a0), (13, .p I6 ((a0.length : Int) : Int)), (14, .p I6 v2)], []⟩) [0, 13, 14] [] (by kernel_rfl)) (ws_ ?_)
     refine tnU ?_
     refine sqJ (fun st' => names_Right.j7 k (names_Right.l3 k a0 n) a0 v2 = some o4 ∧ st' = ⟨[(0, .p .str a0), (13, .p I6 ((a0.length : Int) : Int)), (14, .p I6 v2)], []⟩) ?_ ?_
     ·refine wb_ ?_
      refine sq_ ?_
      refine rg4 (st1 := ⟨[(0, .p .str a0), (3, .p I6 v2), (13, .p I6 ((a0.length : Int) : Int)), (14, .p I6 v2)], []⟩) [0, 3, 13, 14] [] hN (.cons (mvU (v := .p I6 v2) rfl rfl) (.cons (mvA (v := .p I6 v2) rfl rfl) .nil)) (by kernel_rfl) ?_
      refine tnU ?_
      refine sqJ (fun st' => ∃ v8 : Bool, names_Right.j10 k (names_Right.l3 k a0 n) a0 v2 v8 = some o4 ∧ st' = ⟨[(0, .p .str a0), (13, .p I6 ((a0.length : Int) : Int)), (14, .p I6 v2), (26, .p .bool v8)], []⟩) ?_ ?_
      ·obtain ⟨v11, hv11, h⟩ := bind_some h
       rcases bool_cases (decide ((v11.toNat : Int) < 33)) with hc12 | hc12
       ·replace h := ite_t hc12 h
        refine rg4 (st1 := ⟨[(0, .p .str a0), (13, .p I6 ((a0.length : Int) : Int)), (14, .p I6 v2), (26, .p .bool true)], []⟩) [0, 13, 14, 26] [] hN (.cons (mvU (v := .p .str a0) rfl rfl) (.cons (mvU (v := .p I6 v2) rfl rfl) (.cons (u34_ (rs := [(17, .p .str a0), (18, .p I6 v2)]) rfl rfl Tryd.underlying9 o0 o1 hv11) (.cons (cmU (rs := [(19, .p (.int .u8) ((v11.toNat : Int) : Int))]) rfl rfl o0 (.int _ _ _) rfl) (.cons (mvU (v := .p .bool ((decide ((v11.toNat : Int) < 33)) : Bool)) rfl rfl) (.cons (skU rfl rfl hc12) (.cons (skU rfl rfl hc12) (.cons (skU rfl rfl hc12) (.cons (skU rfl rfl hc12) (.cons (pkT (rs := [(21, .p .bool ((decide ((v11.toNat : Int) < 33)) : Bool))]) rfl rfl o0 hc12 (.bool _ _)) .nil)))))))))) (by kernel_rfl) ?_
        refine tnU ?_
        exact ⟨true, h, rfl⟩
       ·replace h := ite_f hc12 h
        obtain ⟨v13, hv13, h⟩ := bind_some h
        refine rg4 (st1 := ⟨[(0, .p .str a0), (13, .p I6 ((a0.length : Int) : Int)), (14, .p I6 v2), (26, .p .bool ((decide ((v13.toNat : Int) > 126)) : Bool))], []⟩) [0, 13, 14, 26] [] hN (.cons (mvU (v := .p .str a0) rfl rfl) (.cons (mvU (v := .p I6 v2) rfl rfl) (.cons (u34_ (rs := [(17, .p .str a0), (18, .p I6 v2)]) rfl rfl Tryd.underlying9 o0 o1 hv11) (.cons (cmU (rs := [(19, .p (.int .u8) ((v11.toNat : Int) : Int))]) rfl rfl o0 (.int _ _ _) rfl) (.cons (mvU (v := .p .bool ((decide ((v11.toNat : Int) < 33)) : Bool)) rfl rfl) (.cons (sok_run rfl rfl hc12 (mvU (v := .p .str a0) rfl rfl)) (.cons (sok_run rfl rfl hc12 (mvU (v := .p I6 v2) rfl rfl)) (.cons (sok_run rfl rfl hc12 (u34_ (rs := [(22, .p .str a0), (23, .p I6 v2)]) rfl rfl Tryd.underlying9 o0 o1 hv13)) (.cons (sok_run rfl rfl hc12 (cmU (rs := [(24, .p (.int .u8) ((v13.toNat : Int) : Int))]) rfl rfl o0 (.int _ _ _) rfl)) (.cons (pkF (rs := [(21, .p .bool ((decide ((v11.toNat : Int) < 33)) : Bool)), (25, .p .bool ((decide ((v13.toNat : Int) > 126)) : Bool))]) rfl rfl o0 hc12 o1) .nil)))))))))) (by kernel_rfl) ?_
        refine tnU ?_
        exact ⟨(decide ((v13.toNat : Int) > 126)), h, rfl⟩
      ·rintro _ ⟨v8, h, rfl⟩
       unfold names_Right.j10 at h
       refine cdU (b := v8) (.tmp m3_) (fun hc9 => ?_) (fun hc9 => ?_)
       ·replace h := ite_t hc9 h
        refine sq_ ?_
        refine rg4 (st1 := ⟨[(2, .p .bool false)], []⟩) [2] [] hN (.cons (moU (rs := []) rfl (.inr rfl) (.bool _ _)) .nil) (by kernel_rfl) ?_
        refine tnU ?_
        refine wr_ ?_
        refine blockQ_ret ?_
        refine tr_ ?_
        have hq := Option.some.inj h
        subst hq
        refine tr_ ?_
        have h := hout5
        refine blockQ_ret ?_
        refine tr_ ?_
        have hq := Option.some.inj h
        subst hq
        exact ends_ret (retV_1 rfl (.head _)) ain_nil
       ·replace h := ite_f hc9 h
        refine wc_ (cvK (b := ⟨[(0, .p .str a0), (13, .p I6 ((a0.length : Int) : Int)), (14, .p I6 v2)], []⟩) [0, 13, 14] [] (by kernel_rfl)) (ws_ ?_)
        refine bn_ ?_
        refine tnU ?_
        exact ⟨h, rfl⟩
     ·rintro _ ⟨h, rfl⟩
      unfold names_Right.j7 at h
      refine rg4 (st1 := ⟨[(0, .p .str a0), (13, .p I6 ((a0.length : Int) : Int)), (14, .p I6 ((IntKind.i64.wrap (v2 + 1)) : Int))], []⟩) [0, 13, 14] [] hN (.cons (u21_ (rs := [(14, .p I6 v2)]) rfl rfl o0 (.int _ _ _) rfl) (.cons (mvU (v := .p I6 ((IntKind.i64.wrap (v2 + 1)) : Int)) rfl rfl) .nil)) (by kernel_rfl) ?_
      refine tnU ?_
      exact ⟨n, Nat.lt_succ_self n, (IntKind.i64.wrap (v2 + 1)), h, rfl⟩
    ·replace h := ite_f hc6 h
     refine wc_ (cvK (b := ⟨[], []⟩) [] [] (by kernel_rfl)) (we_ ?_)
     refine te_ ?_
     have hq := Option.some.inj h
     subst hq
     refine te_ ?_
     have h := hout5
     refine blockQ_hit ?_
     refine tnU ?_
     exact ⟨h, rfl⟩
  ·rintro _ ⟨h, rfl⟩
   unfold names_Right.j1 at h
   refine sq_ ?_
   refine rg4 (st1 := ⟨[(2, .p .bool true)], []⟩) [2] [] hN (.cons (moU (rs := []) rfl (.inr rfl) (.bool _ _)) .nil) (by kernel_rfl) ?_
   refine tnU ?_
   refine wr_ ?_
   have hq := Option.some.inj h
   subst hq
   exact ends_ret (retV_1 rfl (.head _)) ain_nil

theorem tree_Tree_may_m0.ok (O : Out) (hO : GOk O) (k : Nat) (a0 : List ((List UInt8) × TF)) (a1 : TF) (out : Nat) (h : tree_Tree_may_m0.f k a0 a1 = some out) : COk Un O Tryd.prog 51 { ar := [.loc 100000 0, .p (.named 3) a1], r := .p .err out, bs := [(100000, .box [.mp 100001]), (100001, .map (.named 3) a0)], bs' := [(100000, .box [.mp 100001]), (100001, .map (.named 3) a0)] } := by
 refine cok_of_wp Tryd.func51 rfl (k := 51) rfl (Nat.le_of_ble_eq_true rfl) (namesOk_of (by kernel_rfl)) ?_
 intro B hN
 refine ckS (b := ⟨[(0, .loc 100000 0), (1, .p (.named 3) a1)], [(100000, .box [.mp 100001]), (100001, .map (.named 3) a0)]⟩) [0, 1] [100000, 100001] (by kernel_rfl) ?_
 unfold tree_Tree_may_m0.f at h
 refine sq_ ?_
 refine rg4 (st1 := ⟨[(0, .loc 100000 0), (3, .loc 3 0)], [(3, .box [.p .str a1.fN, .p .str a1.fC, .p I6 a1.fT]), (100000, .box [.mp 100001]), (100001, .map (.named 3) a0)]⟩) [0, 3] [3, 100000, 100001] hN (.cons (u22_ (rs := [(1, .p (.named 3) a1)]) (d := 3) (us := [.p .str a1.fN, .p .str a1.fC, .p I6 a1.fT]) rfl rfl rfl o0 (.data (.named (us := ([.p .str a1.fN, .p .str a1.fC, .p I6 a1.fT] : List (AVal Un))) (.pair (.one _ _) (.pair (.one _ _) (.pair (.one _ _) .unit))))) rfl (notin_of (by kernel_rfl))) (.cons (moU (rs := []) rfl (.inr rfl) (.lit _ _ rfl)) .nil)) (by kernel_rfl) ?_
 refine tnS ?_
 refine u17_ (st1 := ⟨[(0, .loc 100000 0), (3, .loc 3 0), (6, .p .bool ((mget a1.fN a0).isSome : Bool))], [(3, .box [.p .str a1.fN, .p .str a1.fC, .p I6 a1.fT]), (100000, .box [.mp 100001]), (100001, .map (.named 3) a0)]⟩) [0, 3, 6] [3, 100000, 100001] [[], [0], [0, 1], [0, 1, 2], [], [4], [0, 1, 2, 3, 4, 5], [0, 1, 2, 3, 4, 5, 6], [0, 1, 2, 3, 4, 5, 6, 7], [0, 1, 2, 3, 4, 5, 6, 7], [], [0, 1, 2, 3, 4, 5, 6, 7, 8, 10], [0, 1, 2, 3, 4, 5, 6, 7, 8, 9, 10, 11]] mixed hN (.cons (mvU (v := .loc 100000 0) rfl rfl) (.cons (nlU (rs := [(8, .loc 100000 0)]) rfl rfl o0 rfl) (.cons (fdB (rs := [(9, .loc 100000 0)]) rfl rfl fd_89_0 (by decide) o0) (.cons (ldB (t := .bool) (rs := [(10, .loc 100000 0)]) [] [.mp 100001] [] (v := .mp 100001) rfl rfl ty1_86 o0 rfl rfl rfl rfl (.hand rfl rfl)) (.cons (fdB (rs := [(3, .loc 3 0)]) rfl rfl fd_24_0 (by decide) o0) (.cons (ldB (t := .str) (rs := [(12, .loc 3 0)]) [] [.p .str a1.fN] [.p .str a1.fC, .p I6 a1.fT] (v := .p .str a1.fN) rfl rfl ty_9 o0 rfl rfl rfl rfl (.data (.one _ _))) (.cons (u44_ (t := .named 3) (kvs := a0) (rs := [(11, .mp 100001), (13, .p .str a1.fN)]) rfl rfl map_86 zv_24 o0 o1) (.cons (mvU (v := .tup [.p (.named 3) (((mget a1.fN a0).getD (TF.mk [] [] 0)) : TF), .p .bool ((mget a1.fN a0).isSome : Bool)]) rfl rfl) (.cons (exU (rs := [(7, .tup [.p (.named 3) (((mget a1.fN a0).getD (TF.mk [] [] 0)) : TF), .p .bool ((mget a1.fN a0).isSome : Bool)])]) rfl rfl o0 rfl) (.cons (exU (rs := [(7, .tup [.p (.named 3) (((mget a1.fN a0).getD (TF.mk [] [] 0)) : TF), .p .bool ((mget a1.fN a0).isSome : Bool)])]) rfl rfl o0 rfl) (.cons (u18_ (rs := []) (d := 5) (us := [.p .str ([] : List UInt8), .p .str ([] : List UInt8), .p I6 (0 : Int)]) (v := (.agg #[.string ByteArray.empty, .string ByteArray.empty, .int .i64 0])) rfl rfl rfl (by kernel_rfl) rfl (.data (fun _ _ _ => rd_str0) (.data (fun _ _ _ => rd_str0) (.data (fun _ _ _ => .int _ _) .nil))) (by kernel_rfl)) (.cons (u54_ (rs := [(5, .loc 5 0), (15, .p (.named 3) (((mget a1.fN a0).getD (TF.mk [] [] 0)) : TF))]) (v := .p (.named 3) (((mget a1.fN a0).getD (TF.mk [] [] 0)) : TF)) (mid' := [.p .str (((mget a1.fN a0).getD (TF.mk [] [] 0)).fN : List UInt8), .p .str (((mget a1.fN a0).getD (TF.mk [] [] 0)).fC : List UInt8), .p I6 (((mget a1.fN a0).getD (TF.mk [] [] 0)).fT : Int)]) [] [.p .str ([] : List UInt8), .p .str ([] : List UInt8), .p I6 (0 : Int)] [] rfl rfl rfl ty_24 o0 o1 (.data (.named (us := ([.p .str (((mget a1.fN a0).getD (TF.mk [] [] 0)).fN : List UInt8), .p .str (((mget a1.fN a0).getD (TF.mk [] [] 0)).fC : List UInt8), .p I6 (((mget a1.fN a0).getD (TF.mk [] [] 0)).fT : Int)] : List (AVal Un))) (.pair (.one _ _) (.pair (.one _ _) (.pair (.one _ _) .unit))))) rfl rfl rfl rfl rfl rfl) (.cons (mvA (v := .p .bool ((mget a1.fN a0).isSome : Bool)) rfl rfl) .nil))))))))))))) (by kernel_rfl) (by kernel_rfl) (by kernel_rfl) (by kernel_rfl) (by kernel_rfl) (cvR _) ?_
 refine tnU ?_
 refine sqJ (fun st' => tree_Tree_may_m0.j1 k a0 = some out ∧ st' = ⟨[], [(100000, .box [.mp 100001]), (100001, .map (.named 3) a0)]⟩) ?_ ?_
 ·refine wb_ ?_
  refine sq_ ?_
  obtain ⟨v2, hv2, h⟩ := bind_some h
  refine rg4 (st1 := ⟨[(0, .loc 100000 0), (3, .loc 3 0), (6, .p .bool ((mget a1.fN a0).isSome : Bool)), (17, .p .bool ((!v2) : Bool))], [(3, .box [.p .str a1.fN, .p .str a1.fC, .p I6 a1.fT]), (100000, .box [.mp 100001]), (100001, .map (.named 3) a0)]⟩) [0, 3, 6, 17] [3, 100000, 100001] hN (.cons (fdB (rs := [(3, .loc 3 0)]) rfl rfl fd_24_0 (by decide) o0) (.cons (ldB (t := .str) (rs := [(18, .loc 3 0)]) [] [.p .str a1.fN] [.p .str a1.fC, .p I6 a1.fT] (v := .p .str a1.fN) rfl rfl ty_9 o0 rfl rfl rfl rfl (.data (.one _ _))) (.cons (caV (rs := [(19, .p .str a1.fN)]) (vw := []) rfl rfl (.func _) hb_68 (names_Right.ok O hO k a1.fN v2 hv2) (.cons o0 .nil) (.cons (.same _) .nil) (by simp) (.inl rfl)) (.cons (u50_ (rs := [(20, .p .bool v2)]) rfl rfl o0) (.cons (mvA (v := .p .bool ((!v2) : Bool)) rfl rfl) .nil))))) (by kernel_rfl) ?_
  refine tnU ?_
  refine cdU (b := (!v2)) (.tmp m3_) (fun hc3 => ?_) (fun hc3 => ?_)
  ·replace h := ite_t hc3 h
   refine sq_ ?_
   refine rg4 (st1 := ⟨[(4, .p .err (4 : Nat))], [(100000, .box [.mp 100001]), (100001, .map (.named 3) a0)]⟩) [4] [100000, 100001] hN (.cons (u41_ (t := .err) (rs := []) rfl rfl ty_31 rfl rfl (hO.var 3 3 rfl) (fun S w => .err 3)) (.cons (mvA (v := .p .err (4 : Nat)) rfl rfl) .nil)) (by kernel_rfl) ?_
   refine tnU ?_
   refine wr_ ?_
   refine blockQ_ret ?_
   refine tr_ ?_
   have hq := Option.some.inj h
   subst hq
   exact ends_ret (retV_1 rfl (.head _)) (ain_cons (.head _) (ain_cons m1_ ain_nil))
  ·replace h := ite_f hc3 h
   refine sq_ ?_
   refine rg4 (st1 := ⟨[(0, .loc 100000 0), (3, .loc 3 0), (6, .p .bool ((mget a1.fN a0).isSome : Bool)), (23, .p .bool ((decide ((a1.fC.length : Int) > 900)) : Bool))], [(3, .box [.p .str a1.fN, .p .str a1.fC, .p I6 a1.fT]), (100000, .box [.mp 100001]), (100001, .map (.named 3) a0)]⟩) [0, 3, 6, 23] [3, 100000, 100001] hN (.cons (fdB (rs := [(3, .loc 3 0)]) rfl rfl fd_24_1 (by decide) o0) (.cons (ldB (t := .str) (rs := [(24, .loc 3 1)]) [.p .str a1.fN] [.p .str a1.fC] [.p I6 a1.fT] (v := .p .str a1.fC) rfl rfl ty_9 o0 rfl rfl rfl rfl (.data (.one _ _))) (.cons (u38_ (rs := [(25, .p .str a1.fC)]) rfl rfl Tryd.underlying9 o0) (.cons (cmU (rs := [(26, .p I6 ((a1.fC.length : Int) : Int))]) rfl rfl o0 (.int _ _ _) rfl) (.cons (mvA (v := .p .bool ((decide ((a1.fC.length : Int) > 900)) : Bool)) rfl rfl) .nil))))) (by kernel_rfl) ?_
   refine tnU ?_
   refine cdU (b := (decide ((a1.fC.length : Int) > 900))) (.tmp m3_) (fun hc4 => ?_) (fun hc4 => ?_)
   ·replace h := ite_t hc4 h
    refine sq_ ?_
    refine rg4 (st1 := ⟨[(4, .p .err (2 : Nat))], [(100000, .box [.mp 100001]), (100001, .map (.named 3) a0)]⟩) [4] [100000, 100001] hN (.cons (u41_ (t := .err) (rs := []) rfl rfl ty_31 rfl rfl (hO.var 1 4 rfl) (fun S w => .err 1)) (.cons (mvA (v := .p .err (2 : Nat)) rfl rfl) .nil)) (by kernel_rfl) ?_
    refine tnU ?_
    refine wr_ ?_
    refine blockQ_ret ?_
    refine tr_ ?_
    have hq := Option.some.inj h
    subst hq
    exact ends_ret (retV_1 rfl (.head _)) (ain_cons (.head _) (ain_cons m1_ ain_nil))
   ·replace h := ite_f hc4 h
    refine sqJ (fun st' => ∃ v5 : Bool, tree_Tree_may_m0.j11 k a0 a1 v5 = some out ∧ st' = ⟨[(0, .loc 100000 0), (6, .p .bool ((mget a1.fN a0).isSome : Bool)), (29, .p .bool v5)], [(100000, .box [.mp 100001]), (100001, .map (.named 3) a0)]⟩) ?_ ?_
    ·rcases bool_cases (decide (a1.fT < 1)) with hc12 | hc12
     ·replace h := ite_t hc12 h
      refine rg4 (st1 := ⟨[(0, .loc 100000 0), (6, .p .bool ((mget a1.fN a0).isSome : Bool)), (29, .p .bool true)], [(100000, .box [.mp 100001]), (100001, .map (.named 3) a0)]⟩) [0, 6, 29] [100000, 100001] hN (.cons (fdB (rs := [(3, .loc 3 0)]) rfl rfl fd_24_2 (by decide) o0) (.cons (ldB (t := .int .i64) (rs := [(30, .loc 3 2)]) [.p .str a1.fN, .p .str a1.fC] [.p I6 a1.fT] [] (v := .p I6 a1.fT) rfl rfl ty_3 o0 rfl rfl rfl rfl (.data (.one _ _))) (.cons (cmU (rs := [(31, .p I6 a1.fT)]) rfl rfl o0 (.int _ _ _) rfl) (.cons (mvU (v := .p .bool ((decide (a1.fT < 1)) : Bool)) rfl rfl) (.cons (skU rfl rfl hc12) (.cons (skU rfl rfl hc12) (.cons (skU rfl rfl hc12) (.cons (pkT (rs := [(33, .p .bool ((decide (a1.fT < 1)) : Bool))]) rfl rfl o0 hc12 (.bool _ _)) (.cons (mvA (v := .p .bool true) rfl rfl) .nil))))))))) (by kernel_rfl) ?_
      refine tnU ?_
      exact ⟨true, h, rfl⟩
     ·replace h := ite_f hc12 h
      refine rg4 (st1 := ⟨[(0, .loc 100000 0), (6, .p .bool ((mget a1.fN a0).isSome : Bool)), (29, .p .bool ((decide (a1.fT > 549755813888)) : Bool))], [(100000, .box [.mp 100001]), (100001, .map (.named 3) a0)]⟩) [0, 6, 29] [100000, 100001] hN (.cons (fdB (rs := [(3, .loc 3 0)]) rfl rfl fd_24_2 (by decide) o0) (.cons (ldB (t := .int .i64) (rs := [(30, .loc 3 2)]) [.p .str a1.fN, .p .str a1.fC] [.p I6 a1.fT] [] (v := .p I6 a1.fT) rfl rfl ty_3 o0 rfl rfl rfl rfl (.data (.one _ _))) (.cons (cmU (rs := [(31, .p I6 a1.fT)]) rfl rfl o0 (.int _ _ _) rfl) (.cons (mvU (v := .p .bool ((decide (a1.fT < 1)) : Bool)) rfl rfl) (.cons (sok_run rfl rfl hc12 (fdB (rs := [(3, .loc 3 0)]) rfl rfl fd_24_2 (by decide) o0)) (.cons (sok_run rfl rfl hc12 (ldB (t := .int .i64) (rs := [(34, .loc 3 2)]) [.p .str a1.fN, .p .str a1.fC] [.p I6 a1.fT] [] (v := .p I6 a1.fT) rfl rfl ty_3 o0 rfl rfl rfl rfl (.data (.one _ _)))) (.cons (sok_run rfl rfl hc12 (cmU (rs := [(35, .p I6 a1.fT)]) rfl rfl o0 (.int _ _ _) rfl)) (.cons (pkF (rs := [(33, .p .bool ((decide (a1.fT < 1)) : Bool)), (36, .p .bool ((decide (a1.fT > 549755813888)) : Bool))]) rfl rfl o0 hc12 o1) (.cons (mvA (v := .p .bool ((decide (a1.fT > 549755813888)) : Bool)) rfl rfl) .nil))))))))) (by kernel_rfl) ?_
      refine tnU ?_
      exact ⟨(decide (a1.fT > 549755813888)), h, rfl⟩
    ·rintro _ ⟨v5, h, rfl⟩
     unfold tree_Tree_may_m0.j11 at h
     refine cdU (b := v5) (.tmp m2_) (fun hc6 => ?_) (fun hc6 => ?_)
     ·replace h := ite_t hc6 h
      refine sq_ ?_
      refine rg4 (st1 := ⟨[(4, .p .err (1 : Nat))], [(100000, .box [.mp 100001]), (100001, .map (.named 3) a0)]⟩) [4] [100000, 100001] hN (.cons (u41_ (t := .err) (rs := []) rfl rfl ty_31 rfl rfl (hO.var 0 5 rfl) (fun S w => .err 0)) (.cons (mvA (v := .p .err (1 : Nat)) rfl rfl) .nil)) (by kernel_rfl) ?_
      refine tnU ?_
      refine wr_ ?_
      refine blockQ_ret ?_
      refine tr_ ?_
      have hq := Option.some.inj h
      subst hq
      exact ends_ret (retV_1 rfl (.head _)) (ain_cons (.head _) (ain_cons m1_ ain_nil))
     ·replace h := ite_f hc6 h
      refine sqJ (fun st' => ∃ v7 : Bool, tree_Tree_may_m0.j9 k a0 v7 = some out ∧ st' = ⟨[(39, .p .bool v7)], [(100000, .box [.mp 100001]), (100001, .map (.named 3) a0)]⟩) ?_ ?_
      ·rcases bool_cases (!((mget a1.fN a0).isSome)) with hc10 | hc10
       ·replace h := ite_t hc10 h
        refine rg4 (st1 := ⟨[(39, .p .bool ((decide ((a0.length : Int) ≥ 40)) : Bool))], [(100000, .box [.mp 100001]), (100001, .map (.named 3) a0)]⟩) [39] [100000, 100001] hN (.cons (mvU (v := .p .bool ((mget a1.fN a0).isSome : Bool)) rfl rfl) (.cons (u50_ (rs := [(40, .p .bool ((mget a1.fN a0).isSome : Bool))]) rfl rfl o0) (.cons (mvU (v := .p .bool ((!((mget a1.fN a0).isSome)) : Bool)) rfl rfl) (.cons (sok_run rfl rfl hc10 (mvU (v := .loc 100000 0) rfl rfl)) (.cons (sok_run rfl rfl hc10 (nlU (rs := [(43, .loc 100000 0)]) rfl rfl o0 rfl)) (.cons (sok_run rfl rfl hc10 (fdB (rs := [(44, .loc 100000 0)]) rfl rfl fd_89_0 (by decide) o0)) (.cons (sok_run rfl rfl hc10 (ldB (t := .bool) (rs := [(45, .loc 100000 0)]) [] [.mp 100001] [] (v := .mp 100001) rfl rfl ty1_86 o0 rfl rfl rfl rfl (.hand rfl rfl))) (.cons (sok_run rfl rfl hc10 (u37_ (t := .named 3) (kvs := a0) (rs := [(46, .mp 100001)]) rfl rfl map_86 o0)) (.cons (sok_run rfl rfl hc10 (cmU (rs := [(47, .p I6 ((a0.length : Int) : Int))]) rfl rfl o0 (.int _ _ _) rfl)) (.cons (pkT (rs := [(42, .p .bool ((!((mget a1.fN a0).isSome)) : Bool)), (48, .p .bool ((decide ((a0.length : Int) ≥ 40)) : Bool))]) rfl rfl o0 hc10 o1) (.cons (mvA (v := .p .bool ((decide ((a0.length : Int) ≥ 40)) : Bool)) rfl rfl) .nil))))))))))) (by kernel_rfl) ?_
        refine tnU ?_
        exact ⟨(decide ((a0.length : Int) ≥ 40)), h, rfl⟩
       ·replace h := ite_f hc10 h
        refine rg4 (st1 := ⟨[(39, .p .bool false)], [(100000, .box [.mp 100001]), (100001, .map (.named 3) a0)]⟩) [39] [100000, 100001] hN (.cons (mvU (v := .p .bool ((mget a1.fN a0).isSome : Bool)) rfl rfl) (.cons (u50_ (rs := [(40, .p .bool ((mget a1.fN a0).isSome : Bool))]) rfl rfl o0) (.cons (mvU (v := .p .bool ((!((mget a1.fN a0).isSome)) : Bool)) rfl rfl) (.cons (skU rfl rfl hc10) (.cons (skU rfl rfl hc10) (.cons (skU rfl rfl hc10) (.cons (skU rfl rfl hc10) (.cons (skU rfl rfl hc10) (.cons (skU rfl rfl hc10) (.cons (pkF (rs := [(42, .p .bool ((!((mget a1.fN a0).isSome)) : Bool))]) rfl rfl o0 hc10 (.bool _ _)) (.cons (mvA (v := .p .bool false) rfl rfl) .nil))))))))))) (by kernel_rfl) ?_
        refine tnU ?_
        exact ⟨false, h, rfl⟩
      ·rintro _ ⟨v7, h, rfl⟩
       unfold tree_Tree_may_m0.j9 at h
       refine cdU (b := v7) o0 (fun hc8 => ?_) (fun hc8 => ?_)
       ·replace h := ite_t hc8 h
        refine sq_ ?_
        refine rg4 (st1 := ⟨[(4, .p .err (10 : Nat))], [(100000, .box [.mp 100001]), (100001, .map (.named 3) a0)]⟩) [4] [100000, 100001] hN (.cons (u41_ (t := .err) (rs := []) rfl rfl ty_31 rfl rfl (hO.var 9 6 rfl) (fun S w => .err 9)) (.cons (mvA (v := .p .err (10 : Nat)) rfl rfl) .nil)) (by kernel_rfl) ?_
        refine tnU ?_
        refine wr_ ?_
        refine blockQ_ret ?_
        refine tr_ ?_
        have hq := Option.some.inj h
        subst hq
        exact ends_ret (retV_1 rfl (.head _)) (ain_cons (.head _) (ain_cons m1_ ain_nil))
       ·replace h := ite_f hc8 h
        refine wc_ (cvK (b := ⟨[], [(100000, .box [.mp 100001]), (100001, .map (.named 3) a0)]⟩) [] [100000, 100001] (by kernel_rfl)) (ws_ ?_)
        refine bn_ ?_
        refine tnU ?_
        exact ⟨h, rfl⟩
 ·rintro _ ⟨h, rfl⟩
  unfold tree_Tree_may_m0.j1 at h
  refine sq_ ?_
  refine rg4 (st1 := ⟨[(4, .lit .nilIface)], [(100000, .box [.mp 100001]), (100001, .map (.named 3) a0)]⟩) [4] [100000, 100001] hN (.cons (moU (rs := []) rfl (.inr rfl) (.lit _ _ rfl)) .nil) (by kernel_rfl) ?_
  refine tnU ?_
  refine wc_ (cvT (u5_ 4 (.head _)) (cvK (b := ⟨[(4, .p .err (0 : Nat))], [(100000, .box [.mp 100001]), (100001, .map (.named 3) a0)]⟩) [4] [100000, 100001] (by kernel_rfl))) (wr_ ?_)
  have hq := Option.some.inj h
  subst hq
  exact ends_ret (retV_1 rfl (.head _)) (ain_cons (.head _) (ain_cons m1_ ain_nil))

theorem tree_Tree_Put_m0.ok (O : Out) (hO : GOk O) (k : Nat) (a0 : List ((List UInt8) × TF)) (a1 : List UInt8) (a2 : List UInt8) (a3 : Int) (out : Nat × (List ((List UInt8) × TF))) (h : tree_Tree_Put_m0.f k a0 a1 a2 a3 = some out) : COk Un O Tryd.prog 13 { ar := [.loc 100000 0, .p .str a1, .p .str a2, .p I6 a3], r := .p .err out.1, bs := [(100000, .box [.mp 100001]), (100001, .map (.named 3) a0)], bs' := [(100000, .box [.mp 100001]), (100001, .map (.named 3) out.2)] } := by
 refine cok_of_wp Tryd.func13 rfl (k := 27) rfl (Nat.le_of_ble_eq_true rfl) (namesOk_of (by kernel_rfl)) ?_
 intro B hN
 refine ckS (b := ⟨[(0, .loc 100000 0), (1, .p .str a1), (2, .p .str a2), (3, .p I6 a3)], [(100000, .box [.mp 100001]), (100001, .map (.named 3) a0)]⟩) [0, 1, 2, 3] [100000, 100001] (by kernel_rfl) ?_
 unfold tree_Tree_Put_m0.f at h
 refine sq_ ?_
 refine rg4 (st1 := ⟨[(0, .loc 100000 0), (1, .p .str a1), (2, .p .str a2), (3, .p I6 a3)], [(100000, .box [.mp 100001]), (100001, .map (.named 3) a0)]⟩) [0, 1, 2, 3] [100000, 100001] hN (.cons (moU (rs := []) rfl (.inr rfl) (.lit _ _ rfl)) .nil) (by kernel_rfl) ?_
 refine tnS ?_
 refine rg4 (st1 := ⟨[(0, .loc 100000 0), (1, .p .str a1), (9, .loc 9 0)], [(9, .box [.p .str a1, .p .str a2, .p I6 a3]), (100000, .box [.mp 100001]), (100001, .map (.named 3) a0)]⟩) [0, 1, 9] [9, 100000, 100001] hN (.cons (mvU (v := .p .str a1) rfl rfl) (.cons (mvU (v := .p .str a2) rfl rfl) (.cons (mvU (v := .p I6 a3) rfl rfl) (.cons (u23_ (t := .named 3) (rs := [(11, .p .str a1), (12, .p .str a2), (13, .p I6 a3)]) (us0 := [.p .str ([] : List UInt8), .p .str ([] : List UInt8), .p I6 (0 : Int)]) (us := [.p .str a1, .p .str a2, .p I6 a3]) (v := .p (.named 3) ((TF.mk a1 a2 a3) : TF)) rfl rfl lays_24 (.data (fun _ _ _ => rd_str0) (.data (fun _ _ _ => rd_str0) (.data (fun _ _ _ => .int _ _) .nil))) (Filled.cons (U := Un) (i := 0) (v := .p .str a1) [] [.p .str ([] : List UInt8)] [.p .str a1] [.p .str ([] : List UInt8), .p I6 (0 : Int)] o0 (.data (.one _ _)) rfl rfl rfl rfl rfl rfl (Filled.cons (U := Un) (i := 1) (v := .p .str a2) [.p .str a1] [.p .str ([] : List UInt8)] [.p .str a2] [.p I6 (0 : Int)] o1 (.data (.one _ _)) rfl rfl rfl rfl rfl rfl (Filled.cons (U := Un) (i := 2) (v := .p I6 a3) [.p .str a1, .p .str a2] [.p I6 (0 : Int)] [.p I6 a3] [] (.tmp m2_) (.data (.one _ _)) rfl rfl rfl rfl rfl rfl (.nil _)))) rfl (.data (.named (us := ([.p .str a1, .p .str a2, .p I6 a3] : List (AVal Un))) (.pair (.one _ _) (.pair (.one _ _) (.pair (.one _ _) .unit)))))) (.cons (u18_ (rs := []) (d := 9) (us := [.p .str ([] : List UInt8), .p .str ([] : List UInt8), .p I6 (0 : Int)]) (v := (.agg #[.string ByteArray.empty, .string ByteArray.empty, .int .i64 0])) rfl rfl rfl (by kernel_rfl) rfl (.data (fun _ _ _ => rd_str0) (.data (fun _ _ _ => rd_str0) (.data (fun _ _ _ => .int _ _) .nil))) (by kernel_rfl)) (.cons (u54_ (rs := [(9, .loc 9 0), (14, .p (.named 3) ((TF.mk a1 a2 a3) : TF))]) (v := .p (.named 3) ((TF.mk a1 a2 a3) : TF)) (mid' := [.p .str a1, .p .str a2, .p I6 a3]) [] [.p .str ([] : List UInt8), .p .str ([] : List UInt8), .p I6 (0 : Int)] [] rfl rfl rfl ty_24 o0 o1 (.data (.named (us := ([.p .str a1, .p .str a2, .p I6 a3] : List (AVal Un))) (.pair (.one _ _) (.pair (.one _ _) (.pair (.one _ _) .unit))))) rfl rfl rfl rfl rfl rfl) .nil)))))) (by kernel_rfl) ?_
 refine tnS ?_
 refine sq_ ?_
 obtain ⟨v1, hv1, h⟩ := bind_some h
 refine rg4 (st1 := ⟨[(0, .loc 100000 0), (1, .p .str a1), (9, .loc 9 0), (10, .p .err v1)], [(9, .box [.p .str a1, .p .str a2, .p I6 a3]), (100000, .box [.mp 100001]), (100001, .map (.named 3) a0)]⟩) [0, 1, 9, 10] [9, 100000, 100001] hN (.cons (mvU (v := .loc 100000 0) rfl rfl) (.cons (ldB (t := .named 3) (rs := [(9, .loc 9 0)]) [] [.p .str a1, .p .str a2, .p I6 a3] [] (v := .p (.named 3) ((TF.mk a1 a2 a3) : TF)) rfl rfl ty_24 o0 rfl rfl rfl rfl (.data (.named (us := ([.p .str a1, .p .str a2, .p I6 a3] : List (AVal Un))) (.pair (.one _ _) (.pair (.one _ _) (.pair (.one _ _) .unit)))))) (.cons (caV (rs := [(15, .loc 100000 0), (16, .p (.named 3) ((TF.mk a1 a2 a3) : TF))]) (vw := []) rfl rfl (.func _) hb_51 (COk.ren (tree_Tree_may_m0.ok O hO k a0 (TF.mk a1 a2 a3) v1 hv1) (fun n => if n = 100000 then 100000 else if n = 100001 then 100001 else n) (injOn_of (by kernel_rfl))) (.cons o0 (.cons o1 .nil)) (.cons (.same _) (.cons (.same _) .nil)) (by simp) (.inl rfl)) (.cons (mvA (v := .p .err v1) rfl rfl) .nil)))) (by kernel_rfl) ?_
 refine tnS ?_
 refine rg4 (st1 := ⟨[(0, .loc 100000 0), (1, .p .str a1), (9, .loc 9 0), (10, .p .err v1), (19, .p .bool ((!(v1 == 0)) : Bool))], [(9, .box [.p .str a1, .p .str a2, .p I6 a3]), (100000, .box [.mp 100001]), (100001, .map (.named 3) a0)]⟩) [0, 1, 9, 10, 19] [9, 100000, 100001] hN (.cons (mvU (v := .p .err v1) rfl rfl) (.cons (u31_ (rs := [(18, .p .err v1)]) rfl rfl Tryd.underlying31 o0 rfl) .nil)) (by kernel_rfl) ?_
 refine tnU ?_
 refine cdU (b := (!(v1 == 0))) (.tmp m4_) (fun hc2 => ?_) (fun hc2 => ?_)
 ·replace h := ite_t hc2 h
  refine sq_ ?_
  refine rg4 (st1 := ⟨[(8, .p .err v1)], [(100000, .box [.mp 100001]), (100001, .map (.named 3) a0)]⟩) [8] [100000, 100001] hN (.cons (mvU (v := .p .err v1) rfl rfl) (.cons (mvA (v := .p .err v1) rfl rfl) .nil)) (by kernel_rfl) ?_
  refine tnU ?_
  refine wr_ ?_
  refine tr_ ?_
  have hq := Option.some.inj h
  subst hq
  exact ends_ret (retV_1 rfl (.head _)) (ain_cons (.head _) (ain_cons m1_ ain_nil))
 ·replace h := ite_f hc2 h
  refine wc_ (cvK (b := ⟨[(0, .loc 100000 0), (1, .p .str a1), (9, .loc 9 0)], [(9, .box [.p .str a1, .p .str a2, .p I6 a3]), (100000, .box [.mp 100001]), (100001, .map (.named 3) a0)]⟩) [0, 1, 9] [9, 100000, 100001] (by kernel_rfl)) (ws_ ?_)
  refine tnS ?_
  refine u17_ (st1 := ⟨[], [(100000, .box [.mp 100001]), (100001, .map (.named 3) ((mput a1 (TF.mk a1 a2 a3) a0) : List ((List UInt8) × TF)))]⟩) [] [100000, 100001] [[], [0], [0, 1], [0, 1, 2], [], [], [0, 1, 2, 3, 4, 5]] mixed hN (.cons (mvU (v := .loc 100000 0) rfl rfl) (.cons (nlU (rs := [(21, .loc 100000 0)]) rfl rfl o0 rfl) (.cons (fdB (rs := [(22, .loc 100000 0)]) rfl rfl fd_89_0 (by decide) o0) (.cons (ldB (t := .bool) (rs := [(23, .loc 100000 0)]) [] [.mp 100001] [] (v := .mp 100001) rfl rfl ty1_86 o0 rfl rfl rfl rfl (.hand rfl rfl)) (.cons (mvU (v := .p .str a1) rfl rfl) (.cons (ldB (t := .named 3) (rs := [(9, .loc 9 0)]) [] [.p .str a1, .p .str a2, .p I6 a3] [] (v := .p (.named 3) ((TF.mk a1 a2 a3) : TF)) rfl rfl ty_24 o0 rfl rfl rfl rfl (.data (.named (us := ([.p .str a1, .p .str a2, .p I6 a3] : List (AVal Un))) (.pair (.one _ _) (.pair (.one _ _) (.pair (.one _ _) .unit)))))) (.cons (u46_ (t := .named 3) (kvs := a0) (rs := [(24, .mp 100001), (25, .p .str a1), (26, .p (.named 3) ((TF.mk a1 a2 a3) : TF))]) rfl rfl rfl map_86 o0 o1 (.tmp m2_)) .nil))))))) (by kernel_rfl) (by kernel_rfl) (by kernel_rfl) (by kernel_rfl) (by kernel_rfl) (cvR _) ?_
  refine tnS ?_
  refine rg4 (st1 := ⟨[(8, .lit .nilIface)], [(100000, .box [.mp 100001]), (100001, .map (.named 3) ((mput a1 (TF.mk a1 a2 a3) a0) : List ((List UInt8) × TF)))]⟩) [8] [100000, 100001] hN (.cons (moU (rs := []) rfl (.inr rfl) (.lit _ _ rfl)) .nil) (by kernel_rfl) ?_
  refine tnU ?_
  refine wc_ (cvT (u5_ 8 (.head _)) (cvK (b := ⟨[(8, .p .err (0 : Nat))], [(100000, .box [.mp 100001]), (100001, .map (.named 3) ((mput a1 (TF.mk a1 a2 a3) a0) : List ((List UInt8) × TF)))]⟩) [8] [100000, 100001] (by kernel_rfl))) (wr_ ?_)
  have hq := Option.some.inj h
  subst hq
  exact ends_ret (retV_1 rfl (.head _)) (ain_cons (.head _) (ain_cons m1_ ain_nil))

theorem tree_Of.ok (O : Out) (hO : GOk O) (k : Nat) (a0 : List TF) (out : Bool × (List ((List UInt8) × TF)) × Nat) (h : tree_Of.f k a0 = some out) : COk Un O Tryd.prog 11 { ar := [.p (.list (.named 3)) a0], r := .tup [.opt out.1 60500, .p .err out.2.2], bs' := [(60500, .opt out.1 (.box [.mp 60501])), (60501, .opt out.1 (.map (.named 3) out.2.1))], nn := [60500, 60501] } := by
 refine cok_of_wp Tryd.func11 rfl (k := 39) rfl (Nat.le_of_ble_eq_true rfl) (namesOk_of (by kernel_rfl)) ?_
 intro B hN
 refine ckS (b := ⟨[(0, .p (.list (.named 3)) a0)], []⟩) [0] [] (by kernel_rfl) ?_
 unfold tree_Of.f at h
 refine sq_ ?_
 refine rg4 (st1 := ⟨[(0, .p (.list (.named 3)) a0)], []⟩) [0] [] hN (.cons (moU (rs := []) rfl (.inr rfl) (.lit _ _ rfl)) (.cons (moU (rs := []) rfl (.inr rfl) (.lit _ _ rfl)) .nil)) (by kernel_rfl) ?_
 refine tnS ?_
 obtain ⟨v1, hv1, h⟩ := bind_some h
 refine rg4 (st1 := ⟨[(0, .p (.list (.named 3)) a0), (4, .loc 10001 0)], [(10001, .box [.mp 10002]), (10002, .map (.named 3) v1)]⟩) [0, 4] [10001, 10002] hN (.cons (caV (rs := []) (vw := []) rfl rfl (.func _) hb_18 (COk.ren (tree_New.ok O hO k v1 hv1) (fun n => if n = 60500 then 10001 else if n = 60501 then 10002 else n) (injOn_of (by kernel_rfl))) .nil .nil (by simp) (.inl rfl)) (.cons (mvA (v := .loc 10001 0) rfl rfl) .nil)) (by kernel_rfl) ?_
 refine tnU ?_
 refine sqJ (fun st' => ∃ v2 : List ((List UInt8) × TF), tree_Of.j3 k v2 = some out ∧ st' = ⟨[(4, .loc 10001 0)], [(10001, .box [.mp 10002]), (10002, .map (.named 3) v2)]⟩) ?_ ?_
 ·refine sq_ ?_
  refine rg4 (st1 := ⟨[(4, .loc 10001 0), (11, .p (.list (.named 3)) a0), (12, .p I6 ((a0.length : Int) : Int)), (13, .p I6 (0 : Int))], [(10001, .box [.mp 10002]), (10002, .map (.named 3) v1)]⟩) [4, 11, 12, 13] [10001, 10002] hN (.cons (mvU (v := .p (.list (.named 3)) a0) rfl rfl) (.cons (u36_ (rs := [(11, .p (.list (.named 3)) a0)]) rfl rfl Tryd.underlying22 o0) (.cons (moU (rs := []) rfl (.inl rfl) (.int _ _ _)) .nil))) (by kernel_rfl) ?_
  refine tnU ?_
  refine wb_ ?_
  obtain ⟨o8, hlo8, h⟩ := bind_some h
  have hout9 := h
  clear h
  refine u14_ (fun n st' => ∃ v4 : List ((List UInt8) × TF), ∃ v5 : Int, tree_Of.l6 k a0 n v4 v5 = some o8 ∧ st' = ⟨[(4, .loc 10001 0), (11, .p (.list (.named 3)) a0), (12, .p I6 ((a0.length : Int) : Int)), (13, .p I6 v5)], [(10001, .box [.mp 10002]), (10002, .map (.named 3) v4)]⟩) k ⟨v1, 0, hlo8, rfl⟩ ?_
  clear hlo8
  rintro (_ | n) _ ⟨v4, v5, h, rfl⟩
  ·cases h
  ·rw [tree_Of.l6] at h
   refine sq_ ?_
   refine rg4 (st1 := ⟨[(4, .loc 10001 0), (11, .p (.list (.named 3)) a0), (12, .p I6 ((a0.length : Int) : Int)), (13, .p I6 v5), (14, .p .bool ((decide (v5 < (a0.length : Int))) : Bool))], [(10001, .box [.mp 10002]), (10002, .map (.named 3) v4)]⟩) [4, 11, 12, 13, 14] [10001, 10002] hN (.cons (cmU (rs := [(13, .p I6 v5), (12, .p I6 ((a0.length : Int) : Int))]) rfl rfl o0 o1 rfl) .nil) (by kernel_rfl) ?_
   refine tnS ?_
   refine cdU (b := (decide (v5 < (a0.length : Int)))) (.tmp m4_) (fun hc10 => ?_) (fun hc10 => ?_)
   ·replace h := ite_t hc10 h
    refine wc_ (cvK (b := ⟨[(4, .loc 10001 0), (11, .p (.list (.named 3)) a0), (12, .p I6 ((a0.length : Int) : Int)), (13, .p I6 v5)], [(10001, .box [.mp 10002]), (10002, .map (.named 3) v4)]⟩) [4, 11, 12, 13] [10001, 10002] (by kernel_rfl)) (ws_ ?_)
    refine tnS ?_
    refine wb_ ?_
    refine sq_ ?_
    obtain ⟨v11, hv11, h⟩ := bind_some h
    refine rg4 (st1 := ⟨[(4, .loc 10001 0), (6, .loc 6 0), (11, .p (.list (.named 3)) a0), (12, .p I6 ((a0.length : Int) : Int)), (13, .p I6 v5)], [(6, .box [.p .str v11.fN, .p .str v11.fC, .p I6 v11.fT]), (10001, .box [.mp 10002]), (10002, .map (.named 3) v4)]⟩) [4, 6, 11, 12, 13] [6, 10001, 10002] hN (.cons (u33_ (rs := [(11, .p (.list (.named 3)) a0), (13, .p I6 v5)]) rfl rfl sl_22 o0 o1 hv11) (.cons (u42_ (rs := [(15, .pp (.named 3) v11)]) rfl rfl ty_24 o0) (.cons (u18_ (rs := []) (d := 6) (us := [.p .str ([] : List UInt8), .p .str ([] : List UInt8), .p I6 (0 : Int)]) (v := (.agg #[.string ByteArray.empty, .string ByteArray.empty, .int .i64 0])) rfl rfl rfl (by kernel_rfl) rfl (.data (fun _ _ _ => rd_str0) (.data (fun _ _ _ => rd_str0) (.data (fun _ _ _ => .int _ _) .nil))) (by kernel_rfl)) (.cons (u54_ (rs := [(6, .loc 6 0), (16, .p (.named 3) v11)]) (v := .p (.named 3) v11) (mid' := [.p .str v11.fN, .p .str v11.fC, .p I6 v11.fT]) [] [.p .str ([] : List UInt8), .p .str ([] : List UInt8), .p I6 (0 : Int)] [] rfl rfl rfl ty_24 o0 o1 (.data (.named (us := ([.p .str v11.fN, .p .str v11.fC, .p I6 v11.fT] : List (AVal Un))) (.pair (.one _ _) (.pair (.one _ _) (.pair (.one _ _) .unit))))) rfl rfl rfl rfl rfl rfl) .nil)))) (by kernel_rfl) ?_
    refine tnS ?_
    refine sq_ ?_
    obtain ⟨v12, hv12, h⟩ := bind_some h
    refine rg4 (st1 := ⟨[(4, .loc 10001 0), (6, .loc 6 0), (8, .p .bool v12.2), (11, .p (.list (.named 3)) a0), (12, .p I6 ((a0.length : Int) : Int)), (13, .p I6 v5)], [(6, .box [.p .str v11.fN, .p .str v11.fC, .p I6 v11.fT]), (10001, .box [.mp 10002]), (10002, .map (.named 3) v4)]⟩) [4, 6, 8, 11, 12, 13] [6, 10001, 10002] hN (.cons (mvU (v := .loc 10001 0) rfl rfl) (.cons (fdB (rs := [(6, .loc 6 0)]) rfl rfl fd_24_0 (by decide) o0) (.cons (ldB (t := .str) (rs := [(19, .loc 6 0)]) [] [.p .str v11.fN] [.p .str v11.fC, .p I6 v11.fT] (v := .p .str v11.fN) rfl rfl ty_9 o0 rfl rfl rfl rfl (.data (.one _ _))) (.cons (caV (rs := [(18, .loc 10001 0), (20, .p .str v11.fN)]) (vw := []) rfl rfl (.func _) hb_16 (COk.ren (tree_Tree_Get_m0.ok O hO k v4 v11.fN v12 hv12) (fun n => if n = 100000 then 10001 else if n = 100001 then 10002 else n) (injOn_of (by kernel_rfl))) (.cons o0 (.cons o1 .nil)) (.cons (.same _) (.cons (.same _) .nil)) (by simp) (.inl rfl)) (.cons (mvU (v := .tup [.p (.named 3) v12.1, .p .bool v12.2]) rfl rfl) (.cons (exU (rs := [(17, .tup [.p (.named 3) v12.1, .p .bool v12.2])]) rfl rfl o0 rfl) (.cons (exU (rs := [(17, .tup [.p (.named 3) v12.1, .p .bool v12.2])]) rfl rfl o0 rfl) (.cons (u18_ (rs := []) (d := 7) (us := [.p .str ([] : List UInt8), .p .str ([] : List UInt8), .p I6 (0 : Int)]) (v := (.agg #[.string ByteArray.empty, .string ByteArray.empty, .int .i64 0])) rfl rfl rfl (by kernel_rfl) rfl (.data (fun _ _ _ => rd_str0) (.data (fun _ _ _ => rd_str0) (.data (fun _ _ _ => .int _ _) .nil))) (by kernel_rfl)) (.cons (u54_ (rs := [(7, .loc 7 0), (22, .p (.named 3) v12.1)]) (v := .p (.named 3) v12.1) (mid' := [.p .str v12.1.fN, .p .str v12.1.fC, .p I6 v12.1.fT]) [] [.p .str ([] : List UInt8), .p .str ([] : List UInt8), .p I6 (0 : Int)] [] rfl rfl rfl ty_24 o0 o1 (.data (.named (us := ([.p .str v12.1.fN, .p .str v12.1.fC, .p I6 v12.1.fT] : List (AVal Un))) (.pair (.one _ _) (.pair (.one _ _) (.pair (.one _ _) .unit))))) rfl rfl rfl rfl rfl rfl) (.cons (mvA (v := .p .bool v12.2) rfl rfl) .nil)))))))))) (by kernel_rfl) ?_
    refine tnS ?_
    refine rg4 (st1 := ⟨[(4, .loc 10001 0), (6, .loc 6 0), (11, .p (.list (.named 3)) a0), (12, .p I6 ((a0.length : Int) : Int)), (13, .p I6 v5), (24, .p .bool v12.2)], [(6, .box [.p .str v11.fN, .p .str v11.fC, .p I6 v11.fT]), (10001, .box [.mp 10002]), (10002, .map (.named 3) v4)]⟩) [4, 6, 11, 12, 13, 24] [6, 10001, 10002] hN (.cons (mvU (v := .p .bool v12.2) rfl rfl) .nil) (by kernel_rfl) ?_
    refine tnU ?_
    refine cdU (b := v12.2) (.tmp m5_) (fun hc13 => ?_) (fun hc13 => ?_)
    ·replace h := ite_t hc13 h
     refine sq_ ?_
     refine u17_ (st1 := ⟨[(2, .lit (.pointer none)), (3, .p .err (9 : Nat))], []⟩) [2, 3] [] [[], [], [0, 1]] mixed hN (.cons (u41_ (t := .err) (rs := []) rfl rfl ty_31 rfl rfl (hO.var 8 0 rfl) (fun S w => .err 8)) (.cons (moU (rs := []) rfl (.inr rfl) (.lit _ _ rfl)) (.cons (mvA (v := .p .err (9 : Nat)) rfl rfl) .nil))) (by kernel_rfl) (by kernel_rfl) (by kernel_rfl) (by kernel_rfl) (by kernel_rfl) (cvR _) ?_
     refine tnU ?_
     refine wc_ (cvT (u10_ 60501 (.map (.named 3) ([] : List ((List UInt8) × TF))) (by kernel_rfl) (by unfold K0; omega)) (cvT (cvK (b := ⟨[(2, .lit (.pointer none)), (3, .p .err (9 : Nat))], [(60501, .opt false (.map (.named 3) ([] : List ((List UInt8) × TF))))]⟩) [2, 3] [60501] (by kernel_rfl)) (cvT (u10_ 60500 (.box [.mp 60501]) (by kernel_rfl) (by unfold K0; omega)) (cvT (cvK (b := ⟨[(2, .lit (.pointer none)), (3, .p .err (9 : Nat))], [(60500, .opt false (.box [.mp 60501])), (60501, .opt false (.map (.named 3) ([] : List ((List UInt8) × TF))))]⟩) [2, 3] [60500, 60501] (by kernel_rfl)) (cvT (u11_ 2 60500 (.head _)) (cvK (b := ⟨[(2, .opt false 60500), (3, .p .err (9 : Nat))], [(60500, .opt false (.box [.mp 60501])), (60501, .opt false (.map (.named 3) ([] : List ((List UInt8) × TF))))]⟩) [2, 3] [60500, 60501] (by kernel_rfl))))))) (wr_ ?_)
     refine tr_ ?_
     refine blockQ_ret ?_
     refine tr_ ?_
     have hq := Option.some.inj h
     subst hq
     refine tr_ ?_
     have h := hout9
     refine blockQ_ret ?_
     refine tr_ ?_
     have hq := Option.some.inj h
     subst hq
     exact ends_ret (retV_2 rfl (.head _) m1_) (ain_cons (.head _) (ain_cons m1_ ain_nil))
    ·replace h := ite_f hc13 h
     refine wc_ (cvK (b := ⟨[(4, .loc 10001 0), (6, .loc 6 0), (11, .p (.list (.named 3)) a0), (12, .p I6 ((a0.length : Int) : Int)), (13, .p I6 v5)], [(6, .box [.p .str v11.fN, .p .str v11.fC, .p I6 v11.fT]), (10001, .box [.mp 10002]), (10002, .map (.named 3) v4)]⟩) [4, 6, 11, 12, 13] [6, 10001, 10002] (by kernel_rfl)) (ws_ ?_)
     refine tnS ?_
     obtain ⟨v14, hv14, h⟩ := bind_some h
     refine rg4 (st1 := ⟨[(4, .loc 10001 0), (9, .p .err v14.1), (11, .p (.list (.named 3)) a0), (12, .p I6 ((a0.length : Int) : Int)), (13, .p I6 v5)], [(10001, .box [.mp 10002]), (10002, .map (.named 3) v14.2)]⟩) [4, 9, 11, 12, 13] [10001, 10002] hN (.cons (mvU (v := .loc 10001 0) rfl rfl) (.cons (fdB (rs := [(6, .loc 6 0)]) rfl rfl fd_24_0 (by decide) o0) (.cons (ldB (t := .str) (rs := [(27, .loc 6 0)]) [] [.p .str v11.fN] [.p .str v11.fC, .p I6 v11.fT] (v := .p .str v11.fN) rfl rfl ty_9 o0 rfl rfl rfl rfl (.data (.one _ _))) (.cons (fdB (rs := [(6, .loc 6 0)]) rfl rfl fd_24_1 (by decide) o0) (.cons (ldB (t := .str) (rs := [(29, .loc 6 1)]) [.p .str v11.fN] [.p .str v11.fC] [.p I6 v11.fT] (v := .p .str v11.fC) rfl rfl ty_9 o0 rfl rfl rfl rfl (.data (.one _ _))) (.cons (fdB (rs := [(6, .loc 6 0)]) rfl rfl fd_24_2 (by decide) o0) (.cons (ldB (t := .int .i64) (rs := [(31, .loc 6 2)]) [.p .str v11.fN, .p .str v11.fC] [.p I6 v11.fT] [] (v := .p I6 v11.fT) rfl rfl ty_3 o0 rfl rfl rfl rfl (.data (.one _ _))) (.cons (caV (rs := [(26, .loc 10001 0), (28, .p .str v11.fN), (30, .p .str v11.fC), (32, .p I6 v11.fT)]) (vw := []) rfl rfl (.func _) hb_13 (COk.ren (tree_Tree_Put_m0.ok O hO k v4 v11.fN v11.fC v11.fT v14 hv14) (fun n => if n = 100000 then 10001 else if n = 100001 then 10002 else n) (injOn_of (by kernel_rfl))) (.cons o0 (.cons o1 (.cons (.tmp m2_) (.cons (.tmp m3_) .nil)))) (.cons (.same _) (.cons (.same _) (.cons (.same _) (.cons (.same _) .nil)))) (by simp) (.inl rfl)) (.cons (mvA (v := .p .err v14.1) rfl rfl) .nil))))))))) (by kernel_rfl) ?_
     refine tnS ?_
     refine rg4 (st1 := ⟨[(4, .loc 10001 0), (9, .p .err v14.1), (11, .p (.list (.named 3)) a0), (12, .p I6 ((a0.length : Int) : Int)), (13, .p I6 v5), (35, .p .bool ((!(v14.1 == 0)) : Bool))], [(10001, .box [.mp 10002]), (10002, .map (.named 3) v14.2)]⟩) [4, 9, 11, 12, 13, 35] [10001, 10002] hN (.cons (mvU (v := .p .err v14.1) rfl rfl) (.cons (u31_ (rs := [(34, .p .err v14.1)]) rfl rfl Tryd.underlying31 o0 rfl) .nil)) (by kernel_rfl) ?_
     refine tnU ?_
     refine cdU (b := (!(v14.1 == 0))) (.tmp m5_) (fun hc15 => ?_) (fun hc15 => ?_)
     ·replace h := ite_t hc15 h
      refine sq_ ?_
      refine rg4 (st1 := ⟨[(2, .lit (.pointer none)), (3, .p .err v14.1)], []⟩) [2, 3] [] hN (.cons (mvU (v := .p .err v14.1) rfl rfl) (.cons (moU (rs := []) rfl (.inr rfl) (.lit _ _ rfl)) (.cons (mvA (v := .p .err v14.1) rfl rfl) .nil))) (by kernel_rfl) ?_
      refine tnU ?_
      refine wc_ (cvT (u10_ 60501 (.map (.named 3) ([] : List ((List UInt8) × TF))) (by kernel_rfl) (by unfold K0; omega)) (cvT (cvK (b := ⟨[(2, .lit (.pointer none)), (3, .p .err v14.1)], [(60501, .opt false (.map (.named 3) ([] : List ((List UInt8) × TF))))]⟩) [2, 3] [60501] (by kernel_rfl)) (cvT (u10_ 60500 (.box [.mp 60501]) (by kernel_rfl) (by unfold K0; omega)) (cvT (cvK (b := ⟨[(2, .lit (.pointer none)), (3, .p .err v14.1)], [(60500, .opt false (.box [.mp 60501])), (60501, .opt false (.map (.named 3) ([] : List ((List UInt8) × TF))))]⟩) [2, 3] [60500, 60501] (by kernel_rfl)) (cvT (u11_ 2 60500 (.head _)) (cvK (b := ⟨[(2, .opt false 60500), (3, .p .err v14.1)], [(60500, .opt false (.box [.mp 60501])), (60501, .opt false (.map (.named 3) ([] : List ((List UInt8) × TF))))]⟩) [2, 3] [60500, 60501] (by kernel_rfl))))))) (wr_ ?_)
      refine blockQ_ret ?_
      refine tr_ ?_
      have hq := Option.some.inj h
      subst hq
      refine tr_ ?_
      have h := hout9
      refine blockQ_ret ?_
      refine tr_ ?_
      have hq := Option.some.inj h
      subst hq
      exact ends_ret (retV_2 rfl (.head _) m1_) (ain_cons (.head _) (ain_cons m1_ ain_nil))
     ·replace h := ite_f hc15 h
      refine wc_ (cvK (b := ⟨[(4, .loc 10001 0), (11, .p (.list (.named 3)) a0), (12, .p I6 ((a0.length : Int) : Int)), (13, .p I6 v5)], [(10001, .box [.mp 10002]), (10002, .map (.named 3) v14.2)]⟩) [4, 11, 12, 13] [10001, 10002] (by kernel_rfl)) (ws_ ?_)
      refine bn_ ?_
      refine tnU ?_
      refine rg4 (st1 := ⟨[(4, .loc 10001 0), (11, .p (.list (.named 3)) a0), (12, .p I6 ((a0.length : Int) : Int)), (13, .p I6 ((IntKind.i64.wrap (v5 + 1)) : Int))], [(10001, .box [.mp 10002]), (10002, .map (.named 3) v14.2)]⟩) [4, 11, 12, 13] [10001, 10002] hN (.cons (u21_ (rs := [(13, .p I6 v5)]) rfl rfl o0 (.int _ _ _) rfl) (.cons (mvU (v := .p I6 ((IntKind.i64.wrap (v5 + 1)) : Int)) rfl rfl) .nil)) (by kernel_rfl) ?_
      refine tnU ?_
      exact ⟨n, Nat.lt_succ_self n, v14.2, (IntKind.i64.wrap (v5 + 1)), h, rfl⟩
   ·replace h := ite_f hc10 h
    refine wc_ (cvK (b := ⟨[(4, .loc 10001 0)], [(10001, .box [.mp 10002]), (10002, .map (.named 3) v4)]⟩) [4] [10001, 10002] (by kernel_rfl)) (we_ ?_)
    refine te_ ?_
    have hq := Option.some.inj h
    subst hq
    refine te_ ?_
    have h := hout9
    refine blockQ_hit ?_
    refine tnU ?_
    exact ⟨v4, h, rfl⟩
 ·rintro _ ⟨v2, h, rfl⟩
  unfold tree_Of.j3 at h
  refine sq_ ?_
  refine rg4 (st1 := ⟨[(2, .loc 10001 0), (3, .lit .nilIface)], [(10001, .box [.mp 10002]), (10002, .map (.named 3) v2)]⟩) [2, 3] [10001, 10002] hN (.cons (mvU (v := .loc 10001 0) rfl rfl) (.cons (mvA (v := .loc 10001 0) rfl rfl) (.cons (moU (rs := []) rfl (.inr rfl) (.lit _ _ rfl)) .nil))) (by kernel_rfl) ?_
  refine tnU ?_
  refine wc_ (cvT (u5_ 3 m1_) (cvT (cvK (b := ⟨[(2, .loc 10001 0), (3, .p .err (0 : Nat))], [(10001, .box [.mp 10002]), (10002, .map (.named 3) v2)]⟩) [2, 3] [10001, 10002] (by kernel_rfl)) (cvT (u12_ (st' := ⟨[(2, .loc 10001 0), (3, .p .err (0 : Nat))], [(10001, .box [.mp 60501]), (60501, .map (.named 3) v2)]⟩) 10002 60501 (by unfold K0; omega) (by kernel_rfl) (by kernel_rfl) (by kernel_rfl)) (cvT (cvK (b := ⟨[(2, .loc 10001 0), (3, .p .err (0 : Nat))], [(10001, .box [.mp 60501]), (60501, .map (.named 3) v2)]⟩) [2, 3] [10001, 60501] (by kernel_rfl)) (cvT (u12_ (st' := ⟨[(2, .loc 60500 0), (3, .p .err (0 : Nat))], [(60500, .box [.mp 60501]), (60501, .map (.named 3) v2)]⟩) 10001 60500 (by unfold K0; omega) (by kernel_rfl) (by kernel_rfl) (by kernel_rfl)) (cvT (cvK (b := ⟨[(2, .loc 60500 0), (3, .p .err (0 : Nat))], [(60500, .box [.mp 60501]), (60501, .map (.named 3) v2)]⟩) [2, 3] [60500, 60501] (by kernel_rfl)) (cvT (u8_ 60500 (.box [.mp 60501]) (.head _)) (cvT (cvK (b := ⟨[(2, .loc 60500 0), (3, .p .err (0 : Nat))], [(60500, .opt true (.box [.mp 60501])), (60501, .map (.named 3) v2)]⟩) [2, 3] [60500, 60501] (by kernel_rfl)) (cvT (u8_ 60501 (.map (.named 3) v2) m1_) (cvT (cvK (b := ⟨[(2, .loc 60500 0), (3, .p .err (0 : Nat))], [(60500, .opt true (.box [.mp 60501])), (60501, .opt true (.map (.named 3) v2))]⟩) [2, 3] [60500, 60501] (by kernel_rfl)) (cvT (u9_ 2 60500 (.head _)) (cvK (b := ⟨[(2, .opt true 60500), (3, .p .err (0 : Nat))], [(60500, .opt true (.box [.mp 60501])), (60501, .opt true (.map (.named 3) v2))]⟩) [2, 3] [60500, 60501] (by kernel_rfl))))))))))))) (wr_ ?_)
  have hq := Option.some.inj h
  subst hq
  exact ends_ret (retV_2 rfl (.head _) m1_) (ain_cons (.head _) (ain_cons m1_ ain_nil))

theorem tree_Tree_Names_m0.ok (O : Out) (hO : GOk O) (k : Nat) (a0 : List ((List UInt8) × TF)) (out : List (List UInt8)) (h : tree_Tree_Names_m0.f k a0 = some out) : COk Un O Tryd.prog 17 { ar := [.loc 100000 0], r := .vec 60500 1 0 out.length, bs := [(100000, .box [.mp 100001]), (100001, .map (.named 3) a0)], bs' := [(60500, .row 9 .str out false), (100000, .box [.mp 100001]), (100001, .map (.named 3) a0)], nn := [60500] } := by
 refine cok_of_wp Tryd.func17 rfl (k := 9) rfl (Nat.le_of_ble_eq_true rfl) (namesOk_of (by kernel_rfl)) ?_
 intro B hN
 refine ckS (b := ⟨[(0, .loc 100000 0)], [(100000, .box [.mp 100001]), (100001, .map (.named 3) a0)]⟩) [0] [100000, 100001] (by kernel_rfl) ?_
 unfold tree_Tree_Names_m0.f at h
 refine sq_ ?_
 refine rg4 (st1 := ⟨[(0, .loc 100000 0)], [(100000, .box [.mp 100001]), (100001, .map (.named 3) a0)]⟩) [0] [100000, 100001] hN (.cons (moU (rs := []) rfl (.inr rfl) (.lit _ _ rfl)) .nil) (by kernel_rfl) ?_
 refine tnS ?_
 obtain ⟨v1, hv1, h⟩ := bind_some h
 obtain ⟨v2, hv2, h⟩ := bind_some h
 refine rg4 (st1 := ⟨[(2, .vec 10002 1 0 v2.length)], [(10002, .row 9 .str v2 false), (100000, .box [.mp 100001]), (100001, .map (.named 3) a0)]⟩) [2] [10002, 100000, 100001] hN (.cons (mvU (v := .loc 100000 0) rfl rfl) (.cons (nlU (rs := [(3, .loc 100000 0)]) rfl rfl o0 rfl) (.cons (fdB (rs := [(4, .loc 100000 0)]) rfl rfl fd_89_0 (by decide) o0) (.cons (ldB (t := .bool) (rs := [(5, .loc 100000 0)]) [] [.mp 100001] [] (v := .mp 100001) rfl rfl ty1_86 o0 rfl rfl rfl rfl (.hand rfl rfl)) (.cons (caV (rs := [(6, .mp 100001)]) (vw := []) rfl rfl (.func _) hb_53 (COk.ren (pKeys.ok (U := Un) (t := .named 3) O hO k a0 v1 hv1) (fun n => if n = 60500 then 10001 else if n = 100000 then 100001 else n) (injOn_of (by kernel_rfl))) (.cons o0 .nil) (.cons (.same _) .nil) (by simp) (.inl rfl)) (.cons (caV (rs := [(7, .clo 71 [.loc 10001 0])]) (vw := []) rfl rfl (.func _) hb_52 (COk.ren (pSortedR.ok (U := Un) (t := .named 3) O hO k a0 v2 hv2) (fun n => if n = 60500 then 10002 else if n = 100000 then 10001 else if n = 100001 then 100001 else n) (injOn_of (by kernel_rfl))) (.cons o0 .nil) (.cons (.same _) .nil) (by simp) (.inl rfl)) (.cons (mvA (v := .vec 10002 1 0 v2.length) rfl rfl) .nil))))))) (by kernel_rfl) ?_
 refine tnU ?_
 refine wc_ (cvT (u12_ (st' := ⟨[(2, .vec 60500 1 0 v2.length)], [(60500, .row 9 .str v2 false), (100000, .box [.mp 100001]), (100001, .map (.named 3) a0)]⟩) 10002 60500 (by unfold K0; omega) (by kernel_rfl) (by kernel_rfl) (by kernel_rfl)) (cvK (b := ⟨[(2, .vec 60500 1 0 v2.length)], [(60500, .row 9 .str v2 false), (100000, .box [.mp 100001]), (100001, .map (.named 3) a0)]⟩) [2] [60500, 100000, 100001] (by kernel_rfl))) (wr_ ?_)
 have hq := Option.some.inj h
 subst hq
 exact ends_ret (retV_1 rfl (.head _)) (ain_cons (.head _) (ain_cons m1_ (ain_cons m2_ ain_nil)))

theorem names_Sorted.ok (O : Out) (hO : GOk O) (k : Nat) (a0 : List (List UInt8)) (out : List (List UInt8)) (h : names_Sorted.f k a0 = some out) : COk Un O Tryd.prog 61 { ar := [.p (.list .str) a0], r := .p (.list .str) out } := by
 refine cok_of_wp Tryd.func61 rfl (k := 10) rfl (Nat.le_of_ble_eq_true rfl) (namesOk_pure rfl rfl rfl rfl) ?_
 intro B hN
 refine ckS (b := ⟨[(0, .p (.list .str) a0)], []⟩) [0] [] (by kernel_rfl) ?_
 unfold names_Sorted.f at h
 refine sq_ ?_
 refine rg4 (st1 := ⟨[(0, .p (.list .str) a0)], []⟩) [0] [] hN (.cons (moU (rs := []) rfl (.inr rfl) (.lit _ _ rfl)) .nil) (by kernel_rfl) ?_
 refine tnS ?_
 obtain ⟨v1, hv1, h⟩ := bind_some h
 refine rg4 (st1 := ⟨[(3, .vec 10001 1 0 v1.length)], [(10001, .row 9 .str v1 false)]⟩) [3] [10001] hN (.cons (mvU (v := .p (.list .str) a0) rfl rfl) (.cons (caV (rs := [(4, .p (.list .str) a0)]) (vw := []) rfl rfl (.func _) hb_74 (COk.ren (pCloneR.ok O hO k a0 v1 hv1) (fun n => if n = 60500 then 10001 else n) (injOn_of (by kernel_rfl))) (.cons o0 .nil) (.cons (.same _) .nil) (by simp) (.inl rfl)) (.cons (mvA (v := .vec 10001 1 0 v1.length) rfl rfl) .nil))) (by kernel_rfl) ?_
 refine tnS ?_
 obtain ⟨v2, hv2, h⟩ := bind_some h
 obtain ⟨g3, h⟩ := if_some h
 refine rg3 (st1 := ⟨[(3, .vec 10001 1 0 v1.length)], [(10001, .row 9 .str v2 false)]⟩) [3] [10001] hN (.cons (mvU (v := .vec 10001 1 0 v1.length) rfl rfl) (.cons (caV (rs := [(6, .vec 10001 1 0 v1.length)]) (vw := []) rfl rfl (.func _) hb_70 (COk.ren (pSortR.ok O hO k v1 v2 hv2) (fun n => if n = 100000 then 10001 else n) (injOn_of (by kernel_rfl))) (.cons o0 .nil) (.cons (.cast (by first | rfl | (simp only [upd_length, List.length_replicate, List.length_append]; done) | (simp only [upd_length, List.length_replicate, List.length_append] at *; omega) | omega)) .nil) (by simp) (.inl rfl)) .nil)) (by kernel_rfl) (u0_ (st' := ⟨[(3, .vec 10001 1 0 v2.length)], [(10001, .row 9 .str v2 false)]⟩) (by simp only [upd_length, List.length_nil, List.length_replicate, g3])) ?_
 refine tnS ?_
 obtain ⟨v4, hv4, h⟩ := bind_some h
 refine rg4 (st1 := ⟨[(2, .p (.list .str) v4)], []⟩) [2] [] hN (.cons (mvU (v := .vec 10001 1 0 v2.length) rfl rfl) (.cons (caV (rs := [(8, .vec 10001 1 0 v2.length)]) (vw := []) rfl rfl (.func _) hb_75 (COk.ren (pCompactR.ok O hO k v2 v4 hv4) (fun n => if n = 100000 then 10001 else n) (injOn_of (by kernel_rfl))) (.cons o0 .nil) (.cons (.cast (by first | rfl | (simp only [upd_length, List.length_replicate, List.length_append]; done) | (simp only [upd_length, List.length_replicate, List.length_append] at *; omega) | omega)) .nil) (by simp) (.inl rfl)) (.cons (mvA (v := .p (.list .str) v4) rfl rfl) .nil))) (by kernel_rfl) ?_
 refine tnU ?_
 refine wr_ ?_
 have hq := Option.some.inj h
 subst hq
 exact ends_ret (retV_1 rfl (.head _)) ain_nil

theorem delta_Of_m0.ok (O : Out) (hO : GOk O) (k : Nat) (a0 : List ((List UInt8) × TF)) (a1 : List ((List UInt8) × TF)) (out : List TC) (h : delta_Of_m0.f k a0 a1 = some out) : COk Un O Tryd.prog 36 { ar := [.loc 100000 0, .loc 100002 0], r := .p (.list (.named 6)) out, bs := [(100000, .box [.mp 100001]), (100001, .map (.named 3) a0), (100002, .box [.mp 100003]), (100003, .map (.named 3) a1)], bs' := [(100000, .box [.mp 100001]), (100001, .map (.named 3) a0), (100002, .box [.mp 100003]), (100003, .map (.named 3) a1)] } := by
 refine cok_of_wp Tryd.func36 rfl (k := 63) rfl (Nat.le_of_ble_eq_true rfl) (namesOk_of (by kernel_rfl)) ?_
 intro B hN
 refine ckS (b := ⟨[(0, .loc 100000 0), (1, .loc 100002 0)], [(100000, .box [.mp 100001]), (100001, .map (.named 3) a0), (100002, .box [.mp 100003]), (100003, .map (.named 3) a1)]⟩) [0, 1] [100000, 100001, 100002, 100003] (by kernel_rfl) ?_
 unfold delta_Of_m0.f at h
 refine sq_ ?_
 refine rg4 (st1 := ⟨[(0, .loc 100000 0), (1, .loc 100002 0)], [(100000, .box [.mp 100001]), (100001, .map (.named 3) a0), (100002, .box [.mp 100003]), (100003, .map (.named 3) a1)]⟩) [0, 1] [100000, 100001, 100002, 100003] hN (.cons (moU (rs := []) rfl (.inr rfl) (.lit _ _ rfl)) .nil) (by kernel_rfl) ?_
 refine tnS ?_
 refine rg4 (st1 := ⟨[(0, .loc 100000 0), (1, .loc 100002 0), (5, .lit (.slice none 0 0))], [(100000, .box [.mp 100001]), (100001, .map (.named 3) a0), (100002, .box [.mp 100003]), (100003, .map (.named 3) a1)]⟩) [0, 1, 5] [100000, 100001, 100002, 100003] hN (.cons (moU (rs := []) rfl (.inr rfl) (.lit _ _ rfl)) .nil) (by kernel_rfl) ?_
 refine tnU ?_
 refine sqJ (fun st' => ∃ v1 : List TC, delta_Of_m0.j2 k a0 a1 v1 = some out ∧ st' = ⟨[(5, .vec 1005 7 0 v1.length)], [(1005, .row 103 (.named 6) v1 false), (100000, .box [.mp 100001]), (100001, .map (.named 3) a0), (100002, .box [.mp 100003]), (100003, .map (.named 3) a1)]⟩) ?_ ?_
 ·refine sq_ ?_
  obtain ⟨v3, hv3, h⟩ := bind_some h
  obtain ⟨v4, hv4, h⟩ := bind_some h
  obtain ⟨g5, h⟩ := if_some h
  obtain ⟨v6, hv6, h⟩ := bind_some h
  refine rg4 (st1 := ⟨[(0, .loc 100000 0), (1, .loc 100002 0), (5, .lit (.slice none 0 0)), (17, .p (.list .str) v6), (18, .p I6 ((v6.length : Int) : Int)), (19, .p I6 (0 : Int))], [(100000, .box [.mp 100001]), (100001, .map (.named 3) a0), (100002, .box [.mp 100003]), (100003, .map (.named 3) a1)]⟩) [0, 1, 5, 17, 18, 19] [100000, 100001, 100002, 100003] hN (.cons (mvU (v := .loc 100000 0) rfl rfl) (.cons (caV (rs := [(12, .loc 100000 0)]) (vw := []) rfl rfl (.func _) hb_17 (COk.ren (tree_Tree_Names_m0.ok O hO k a0 v3 hv3) (fun n => if n = 60500 then 10001 else if n = 100000 then 100000 else if n = 100001 then 100001 else n) (injOn_of (by kernel_rfl))) (.cons o0 .nil) (.cons (.same _) .nil) (by simp) (.inl rfl)) (.cons (mvU (v := .loc 100002 0) rfl rfl) (.cons (caV (rs := [(14, .loc 100002 0)]) (vw := []) rfl rfl (.func _) hb_17 (COk.ren (tree_Tree_Names_m0.ok O hO k a1 v4 hv4) (fun n => if n = 60500 then 10002 else if n = 100000 then 100002 else if n = 100001 then 100003 else n) (injOn_of (by kernel_rfl))) (.cons o0 .nil) (.cons (.same _) .nil) (by simp) (.inl rfl)) (.cons (u19_ (t := .str) (rs := [(13, .vec 10001 1 0 v3.length), (15, .vec 10002 1 0 v4.length)]) (vw := [(10002, .row 9 .str v4 false)]) (xs := v3) (ys := v4) (fx := false) rfl rfl rfl row_40 (by decide) o0 o1 (.whole (.head _)) (by simp) g5) (.cons (u26_ (rs := [(16, .vec 16 1 0 ((v3 ++ v4).length))]) (vw := [(16, .row 9 .str (v3 ++ v4) false)]) rfl rfl (.func _) hb_61 (names_Sorted.ok O hO k (v3 ++ v4) v6 hv6) (.cons o0 .nil) (.cons (.whole' (.head _) (by first | rfl | (simp only [upd_length, List.length_replicate, List.length_append]; done) | (simp only [upd_length, List.length_replicate, List.length_append] at *; omega) | omega)) .nil) (by simp)) (.cons (u36_ (rs := [(17, .p (.list .str) v6)]) rfl rfl Tryd.underlying40 o0) (.cons (moU (rs := []) rfl (.inl rfl) (.int _ _ _)) .nil)))))))) (by kernel_rfl) ?_
  refine tnU ?_
  refine wb_ ?_
  obtain ⟨o11, hlo11, h⟩ := bind_some h
  have hout12 := h
  clear h
  refine wc_ (cvT (u13_ 5 1005 103 (.named 6) m2_ (by kernel_rfl) (by unfold K0; omega)) (cvK (b := ⟨[(0, .loc 100000 0), (1, .loc 100002 0), (5, .vec 1005 7 0 0), (17, .p (.list .str) v6), (18, .p I6 ((v6.length : Int) : Int)), (19, .p I6 (0 : Int))], [(1005, .row 103 (.named 6) [] false), (100000, .box [.mp 100001]), (100001, .map (.named 3) a0), (100002, .box [.mp 100003]), (100003, .map (.named 3) a1)]⟩) [0, 1, 5, 17, 18, 19] [1005, 100000, 100001, 100002, 100003] (by kernel_rfl))) ?_
  refine u14_ (fun n st' => ∃ v7 : List TC, ∃ v8 : Int, delta_Of_m0.l9 k a0 a1 v6 n v7 v8 = some o11 ∧ st' = ⟨[(0, .loc 100000 0), (1, .loc 100002 0), (5, .vec 1005 7 0 v7.length), (17, .p (.list .str) v6), (18, .p I6 ((v6.length : Int) : Int)), (19, .p I6 v8)], [(1005, .row 103 (.named 6) v7 false), (100000, .box [.mp 100001]), (100001, .map (.named 3) a0), (100002, .box [.mp 100003]), (100003, .map (.named 3) a1)]⟩) k ⟨[], 0, hlo11, rfl⟩ ?_
  clear hlo11
  rintro (_ | n) _ ⟨v7, v8, h, rfl⟩
  ·cases h
  ·rw [delta_Of_m0.l9] at h
   refine sq_ ?_
   refine rg4 (st1 := ⟨[(0, .loc 100000 0), (1, .loc 100002 0), (5, .vec 1005 7 0 v7.length), (17, .p (.list .str) v6), (18, .p I6 ((v6.length : Int) : Int)), (19, .p I6 v8), (20, .p .bool ((decide (v8 < (v6.length : Int))) : Bool))], [(1005, .row 103 (.named 6) v7 false), (100000, .box [.mp 100001]), (100001, .map (.named 3) a0), (100002, .box [.mp 100003]), (100003, .map (.named 3) a1)]⟩) [0, 1, 5, 17, 18, 19, 20] [1005, 100000, 100001, 100002, 100003] hN (.cons (cmU (rs := [(19, .p I6 v8), (18, .p I6 ((v6.length : Int) : Int))]) rfl rfl o0 o1 rfl) .nil) (by kernel_rfl) ?_
   refine tnS ?_
   refine cdU (b := (decide (v8 < (v6.length : Int)))) (.tmp m6_) (fun hc13 => ?_) (fun hc13 => ?_)
   ·replace h := ite_t hc13 h
    refine wc_ (cvK (b := ⟨[(0, .loc 100000 0), (1, .loc 100002 0), (5, .vec 1005 7 0 v7.length), (17, .p (.list .str) v6), (18, .p I6 ((v6.length : Int) : Int)), (19, .p I6 v8)], [(1005, .row 103 (.named 6) v7 false), (100000, .box [.mp 100001]), (100001, .map (.named 3) a0), (100002, .box [.mp 100003]), (100003, .map (.named 3) a1)]⟩) [0, 1, 5, 17, 18, 19] [1005, 100000, 100001, 100002, 100003] (by kernel_rfl)) (ws_ ?_)
    refine tnU ?_
    refine sqJ (fun st' => ∃ v14 : List TC, delta_Of_m0.j15 k (delta_Of_m0.l9 k a0 a1 v6 n) a0 a1 v6 v8 v14 = some o11 ∧ st' = ⟨[(0, .loc 100000 0), (1, .loc 100002 0), (5, .vec 1005 7 0 v14.length), (17, .p (.list .str) v6), (18, .p I6 ((v6.length : Int) : Int)), (19, .p I6 v8)], [(1005, .row 103 (.named 6) v14 false), (100000, .box [.mp 100001]), (100001, .map (.named 3) a0), (100002, .box [.mp 100003]), (100003, .map (.named 3) a1)]⟩) ?_ ?_
    ·refine wb_ ?_
     refine sq_ ?_
     obtain ⟨v16, hv16, h⟩ := bind_some h
     refine rg4 (st1 := ⟨[(0, .loc 100000 0), (1, .loc 100002 0), (5, .vec 1005 7 0 v7.length), (7, .p .str v16), (17, .p (.list .str) v6), (18, .p I6 ((v6.length : Int) : Int)), (19, .p I6 v8)], [(1005, .row 103 (.named 6) v7 false), (100000, .box [.mp 100001]), (100001, .map (.named 3) a0), (100002, .box [.mp 100003]), (100003, .map (.named 3) a1)]⟩) [0, 1, 5, 7, 17, 18, 19] [1005, 100000, 100001, 100002, 100003] hN (.cons (u33_ (rs := [(17, .p (.list .str) v6), (19, .p I6 v8)]) rfl rfl sl_40 o0 o1 hv16) (.cons (u42_ (rs := [(21, .pp .str v16)]) rfl rfl ty_9 o0) (.cons (mvA (v := .p .str v16) rfl rfl) .nil))) (by kernel_rfl) ?_
     refine tnS ?_
     obtain ⟨v17, hv17, h⟩ := bind_some h
     refine rg4 (st1 := ⟨[(0, .loc 100000 0), (1, .loc 100002 0), (5, .vec 1005 7 0 v7.length), (7, .p .str v16), (8, .loc 8 0), (9, .p .bool v17.2), (17, .p (.list .str) v6), (18, .p I6 ((v6.length : Int) : Int)), (19, .p I6 v8)], [(8, .box [.p .str v17.1.fN, .p .str v17.1.fC, .p I6 v17.1.fT]), (1005, .row 103 (.named 6) v7 false), (100000, .box [.mp 100001]), (100001, .map (.named 3) a0), (100002, .box [.mp 100003]), (100003, .map (.named 3) a1)]⟩) [0, 1, 5, 7, 8, 9, 17, 18, 19] [8, 1005, 100000, 100001, 100002, 100003] hN (.cons (mvU (v := .loc 100000 0) rfl rfl) (.cons (mvU (v := .p .str v16) rfl rfl) (.cons (caV (rs := [(24, .loc 100000 0), (25, .p .str v16)]) (vw := []) rfl rfl (.func _) hb_16 (COk.ren (tree_Tree_Get_m0.ok O hO k a0 v16 v17 hv17) (fun n => if n = 100000 then 100000 else if n = 100001 then 100001 else n) (injOn_of (by kernel_rfl))) (.cons o0 (.cons o1 .nil)) (.cons (.same _) (.cons (.same _) .nil)) (by simp) (.inl rfl)) (.cons (mvU (v := .tup [.p (.named 3) v17.1, .p .bool v17.2]) rfl rfl) (.cons (exU (rs := [(23, .tup [.p (.named 3) v17.1, .p .bool v17.2])]) rfl rfl o0 rfl) (.cons (exU (rs := [(23, .tup [.p (.named 3) v17.1, .p .bool v17.2])]) rfl rfl o0 rfl) (.cons (u18_ (rs := []) (d := 8) (us := [.p .str ([] : List UInt8), .p .str ([] : List UInt8), .p I6 (0 : Int)]) (v := (.agg #[.string ByteArray.empty, .string ByteArray.empty, .int .i64 0])) rfl rfl rfl (by kernel_rfl) rfl (.data (fun _ _ _ => rd_str0) (.data (fun _ _ _ => rd_str0) (.data (fun _ _ _ => .int _ _) .nil))) (by kernel_rfl)) (.cons (u54_ (rs := [(8, .loc 8 0), (27, .p (.named 3) v17.1)]) (v := .p (.named 3) v17.1) (mid' := [.p .str v17.1.fN, .p .str v17.1.fC, .p I6 v17.1.fT]) [] [.p .str ([] : List UInt8), .p .str ([] : List UInt8), .p I6 (0 : Int)] [] rfl rfl rfl ty_24 o0 o1 (.data (.named (us := ([.p .str v17.1.fN, .p .str v17.1.fC, .p I6 v17.1.fT] : List (AVal Un))) (.pair (.one _ _) (.pair (.one _ _) (.pair (.one _ _) .unit))))) rfl rfl rfl rfl rfl rfl) (.cons (mvA (v := .p .bool v17.2) rfl rfl) .nil))))))))) (by kernel_rfl) ?_
     refine tnS ?_
     obtain ⟨v18, hv18, h⟩ := bind_some h
     refine rg4 (st1 := ⟨[(0, .loc 100000 0), (1, .loc 100002 0), (5, .vec 1005 7 0 v7.length), (8, .loc 8 0), (9, .p .bool v17.2), (10, .loc 10 0), (11, .p .bool v18.2), (17, .p (.list .str) v6), (18, .p I6 ((v6.length : Int) : Int)), (19, .p I6 v8)], [(8, .box [.p .str v17.1.fN, .p .str v17.1.fC, .p I6 v17.1.fT]), (10, .box [.p .str v18.1.fN, .p .str v18.1.fC, .p I6 v18.1.fT]), (1005, .row 103 (.named 6) v7 false), (100000, .box [.mp 100001]), (100001, .map (.named 3) a0), (100002, .box [.mp 100003]), (100003, .map (.named 3) a1)]⟩) [0, 1, 5, 8, 9, 10, 11, 17, 18, 19] [8, 10, 1005, 100000, 100001, 100002, 100003] hN (.cons (mvU (v := .loc 100002 0) rfl rfl) (.cons (mvU (v := .p .str v16) rfl rfl) (.cons (caV (rs := [(30, .loc 100002 0), (31, .p .str v16)]) (vw := []) rfl rfl (.func _) hb_16 (COk.ren (tree_Tree_Get_m0.ok O hO k a1 v16 v18 hv18) (fun n => if n = 100000 then 100002 else if n = 100001 then 100003 else n) (injOn_of (by kernel_rfl))) (.cons o0 (.cons o1 .nil)) (.cons (.same _) (.cons (.same _) .nil)) (by simp) (.inl rfl)) (.cons (mvU (v := .tup [.p (.named 3) v18.1, .p .bool v18.2]) rfl rfl) (.cons (exU (rs := [(29, .tup [.p (.named 3) v18.1, .p .bool v18.2])]) rfl rfl o0 rfl) (.cons (exU (rs := [(29, .tup [.p (.named 3) v18.1, .p .bool v18.2])]) rfl rfl o0 rfl) (.cons (u18_ (rs := []) (d := 10) (us := [.p .str ([] : List UInt8), .p .str ([] : List UInt8), .p I6 (0 : Int)]) (v := (.agg #[.string ByteArray.empty, .string ByteArray.empty, .int .i64 0])) rfl rfl rfl (by kernel_rfl) rfl (.data (fun _ _ _ => rd_str0) (.data (fun _ _ _ => rd_str0) (.data (fun _ _ _ => .int _ _) .nil))) (by kernel_rfl)) (.cons (u54_ (rs := [(10, .loc 10 0), (33, .p (.named 3) v18.1)]) (v := .p (.named 3) v18.1) (mid' := [.p .str v18.1.fN, .p .str v18.1.fC, .p I6 v18.1.fT]) [] [.p .str ([] : List UInt8), .p .str ([] : List UInt8), .p I6 (0 : Int)] [] rfl rfl rfl ty_24 o0 o1 (.data (.named (us := ([.p .str v18.1.fN, .p .str v18.1.fC, .p I6 v18.1.fT] : List (AVal Un))) (.pair (.one _ _) (.pair (.one _ _) (.pair (.one _ _) .unit))))) rfl rfl rfl rfl rfl rfl) (.cons (mvA (v := .p .bool v18.2) rfl rfl) .nil))))))))) (by kernel_rfl) ?_
     refine tnU ?_
     refine wb_ ?_
     refine sq_ ?_
     refine rg4 (st1 := ⟨[(0, .loc 100000 0), (1, .loc 100002 0), (5, .vec 1005 7 0 v7.length), (8, .loc 8 0), (10, .loc 10 0), (11, .p .bool v18.2), (17, .p (.list .str) v6), (18, .p I6 ((v6.length : Int) : Int)), (19, .p I6 v8), (35, .p .bool ((!v17.2) : Bool))], [(8, .box [.p .str v17.1.fN, .p .str v17.1.fC, .p I6 v17.1.fT]), (10, .box [.p .str v18.1.fN, .p .str v18.1.fC, .p I6 v18.1.fT]), (1005, .row 103 (.named 6) v7 false), (100000, .box [.mp 100001]), (100001, .map (.named 3) a0), (100002, .box [.mp 100003]), (100003, .map (.named 3) a1)]⟩) [0, 1, 5, 8, 10, 11, 17, 18, 19, 35] [8, 10, 1005, 100000, 100001, 100002, 100003] hN (.cons (mvU (v := .p .bool v17.2) rfl rfl) (.cons (u50_ (rs := [(36, .p .bool v17.2)]) rfl rfl o0) (.cons (mvA (v := .p .bool ((!v17.2) : Bool)) rfl rfl) .nil))) (by kernel_rfl) ?_
     refine tnU ?_
     refine cdU (b := (!v17.2)) (.tmp (.tail _ m8_)) (fun hc19 => ?_) (fun hc19 => ?_)
     ·replace h := ite_t hc19 h
      obtain ⟨g20, h⟩ := if_some h
      refine rg3 (st1 := ⟨[(0, .loc 100000 0), (1, .loc 100002 0), (5, .vec 42 7 0 ((v7 ++ [(TC.mk 1 (TF.mk [] [] 0) (TF.mk v18.1.fN v18.1.fC v18.1.fT))]).length)), (17, .p (.list .str) v6), (18, .p I6 ((v6.length : Int) : Int)), (19, .p I6 v8)], [(42, .row 103 (.named 6) (v7 ++ [(TC.mk 1 (TF.mk [] [] 0) (TF.mk v18.1.fN v18.1.fC v18.1.fT))]) false), (100000, .box [.mp 100001]), (100001, .map (.named 3) a0), (100002, .box [.mp 100003]), (100003, .map (.named 3) a1)]⟩) [0, 1, 5, 17, 18, 19] [42, 100000, 100001, 100002, 100003] hN (.cons (mvU (v := .vec 1005 7 0 v7.length) rfl rfl) (.cons (ldB (t := .named 3) (rs := [(10, .loc 10 0)]) [] [.p .str v18.1.fN, .p .str v18.1.fC, .p I6 v18.1.fT] [] (v := .p (.named 3) ((TF.mk v18.1.fN v18.1.fC v18.1.fT) : TF)) rfl rfl ty_24 o0 rfl rfl rfl rfl (.data (.named (us := ([.p .str v18.1.fN, .p .str v18.1.fC, .p I6 v18.1.fT] : List (AVal Un))) (.pair (.one _ _) (.pair (.one _ _) (.pair (.one _ _) .unit)))))) (.cons (u23_ (t := .named 6) (rs := [(39, .p (.named 3) ((TF.mk v18.1.fN v18.1.fC v18.1.fT) : TF))]) (us0 := [.p I6 (0 : Int), .p .str ([] : List UInt8), .p .str ([] : List UInt8), .p I6 (0 : Int), .p .str ([] : List UInt8), .p .str ([] : List UInt8), .p I6 (0 : Int)]) (us := [.p I6 (1 : Int), .p .str ([] : List UInt8), .p .str ([] : List UInt8), .p I6 (0 : Int), .p .str v18.1.fN, .p .str v18.1.fC, .p I6 v18.1.fT]) (v := .p (.named 6) ((TC.mk 1 (TF.mk [] [] 0) (TF.mk v18.1.fN v18.1.fC v18.1.fT)) : TC)) rfl rfl lays_103 (.data (fun _ _ _ => .int _ _) (.data (fun _ _ _ => rd_str0) (.data (fun _ _ _ => rd_str0) (.data (fun _ _ _ => .int _ _) (.data (fun _ _ _ => rd_str0) (.data (fun _ _ _ => rd_str0) (.data (fun _ _ _ => .int _ _) .nil))))))) (Filled.cons (U := Un) (i := 0) (v := .p I6 (1 : Int)) [] [.p I6 (0 : Int)] [.p I6 (1 : Int)] [.p .str ([] : List UInt8), .p .str ([] : List UInt8), .p I6 (0 : Int), .p .str ([] : List UInt8), .p .str ([] : List UInt8), .p I6 (0 : Int)] (.int _ _ _) (.data (.one _ _)) rfl rfl rfl rfl rfl rfl (Filled.cons (U := Un) (i := 2) (v := .p (.named 3) ((TF.mk v18.1.fN v18.1.fC v18.1.fT) : TF)) [.p I6 (1 : Int), .p .str ([] : List UInt8), .p .str ([] : List UInt8), .p I6 (0 : Int)] [.p .str ([] : List UInt8), .p .str ([] : List UInt8), .p I6 (0 : Int)] [.p .str v18.1.fN, .p .str v18.1.fC, .p I6 v18.1.fT] [] o0 (.data (.named (us := ([.p .str v18.1.fN, .p .str v18.1.fC, .p I6 v18.1.fT] : List (AVal Un))) (.pair (.one _ _) (.pair (.one _ _) (.pair (.one _ _) .unit))))) rfl rfl rfl rfl rfl rfl (.nil _))) rfl (.data (.named (us := ([.p I6 (1 : Int), .p .str ([] : List UInt8), .p .str ([] : List UInt8), .p I6 (0 : Int), .p .str v18.1.fN, .p .str v18.1.fC, .p I6 v18.1.fT] : List (AVal Un))) (.pair (.one _ _) (.pair (.named (us := ([.p .str ([] : List UInt8), .p .str ([] : List UInt8), .p I6 (0 : Int)] : List (AVal Un))) (.pair (.one _ _) (.pair (.one _ _) (.pair (.one _ _) .unit)))) (.pair (.named (us := ([.p .str v18.1.fN, .p .str v18.1.fC, .p I6 v18.1.fT] : List (AVal Un))) (.pair (.one _ _) (.pair (.one _ _) (.pair (.one _ _) .unit)))) .unit)))))) (.cons (u24_ (t := .named 6) (rs := [(40, .p (.named 6) ((TC.mk 1 (TF.mk [] [] 0) (TF.mk v18.1.fN v18.1.fC v18.1.fT)) : TC))]) (ys := [.tmp 40]) (xs := [(TC.mk 1 (TF.mk [] [] 0) (TF.mk v18.1.fN v18.1.fC v18.1.fT))]) rfl rfl rfl rfl row_60 (.cons o0 .nil) (by decide)) (.cons (u19_ (t := .named 6) (rs := [(38, .vec 1005 7 0 v7.length), (41, .vec 41 7 0 ([(TC.mk 1 (TF.mk [] [] 0) (TF.mk v18.1.fN v18.1.fC v18.1.fT))].length))]) (vw := [(41, .row 103 (.named 6) [(TC.mk 1 (TF.mk [] [] 0) (TF.mk v18.1.fN v18.1.fC v18.1.fT))] true)]) (xs := v7) (ys := [(TC.mk 1 (TF.mk [] [] 0) (TF.mk v18.1.fN v18.1.fC v18.1.fT))]) (fx := false) rfl rfl rfl row_60 (by decide) o0 o1 (.whole (.head _)) (by simp) g20) (.cons (mvA (v := .vec 42 7 0 ((v7 ++ [(TC.mk 1 (TF.mk [] [] 0) (TF.mk v18.1.fN v18.1.fC v18.1.fT))]).length)) rfl rfl) .nil)))))) (by kernel_rfl) (cvT (u12_ (st' := ⟨[(0, .loc 100000 0), (1, .loc 100002 0), (5, .vec 1005 7 0 ((v7 ++ [(TC.mk 1 (TF.mk [] [] 0) (TF.mk v18.1.fN v18.1.fC v18.1.fT))]).length)), (17, .p (.list .str) v6), (18, .p I6 ((v6.length : Int) : Int)), (19, .p I6 v8)], [(1005, .row 103 (.named 6) (v7 ++ [(TC.mk 1 (TF.mk [] [] 0) (TF.mk v18.1.fN v18.1.fC v18.1.fT))]) false), (100000, .box [.mp 100001]), (100001, .map (.named 3) a0), (100002, .box [.mp 100003]), (100003, .map (.named 3) a1)]⟩) 42 1005 (by unfold K0; omega) (by kernel_rfl) (by kernel_rfl) (by kernel_rfl)) (cvK (b := ⟨[(0, .loc 100000 0), (1, .loc 100002 0), (5, .vec 1005 7 0 ((v7 ++ [(TC.mk 1 (TF.mk [] [] 0) (TF.mk v18.1.fN v18.1.fC v18.1.fT))]).length)), (17, .p (.list .str) v6), (18, .p I6 ((v6.length : Int) : Int)), (19, .p I6 v8)], [(1005, .row 103 (.named 6) (v7 ++ [(TC.mk 1 (TF.mk [] [] 0) (TF.mk v18.1.fN v18.1.fC v18.1.fT))]) false), (100000, .box [.mp 100001]), (100001, .map (.named 3) a0), (100002, .box [.mp 100003]), (100003, .map (.named 3) a1)]⟩) [0, 1, 5, 17, 18, 19] [1005, 100000, 100001, 100002, 100003] (by kernel_rfl))) ?_
      refine bn_ ?_
      refine bn_ ?_
      refine tnU ?_
      exact ⟨(v7 ++ [(TC.mk 1 (TF.mk [] [] 0) (TF.mk v18.1.fN v18.1.fC v18.1.fT))]), h, rfl⟩
     ·replace h := ite_f hc19 h
      refine sq_ ?_
      refine rg4 (st1 := ⟨[(0, .loc 100000 0), (1, .loc 100002 0), (5, .vec 1005 7 0 v7.length), (8, .loc 8 0), (10, .loc 10 0), (17, .p (.list .str) v6), (18, .p I6 ((v6.length : Int) : Int)), (19, .p I6 v8), (43, .p .bool ((!v18.2) : Bool))], [(8, .box [.p .str v17.1.fN, .p .str v17.1.fC, .p I6 v17.1.fT]), (10, .box [.p .str v18.1.fN, .p .str v18.1.fC, .p I6 v18.1.fT]), (1005, .row 103 (.named 6) v7 false), (100000, .box [.mp 100001]), (100001, .map (.named 3) a0), (100002, .box [.mp 100003]), (100003, .map (.named 3) a1)]⟩) [0, 1, 5, 8, 10, 17, 18, 19, 43] [8, 10, 1005, 100000, 100001, 100002, 100003] hN (.cons (mvU (v := .p .bool v18.2) rfl rfl) (.cons (u50_ (rs := [(44, .p .bool v18.2)]) rfl rfl o0) (.cons (mvA (v := .p .bool ((!v18.2) : Bool)) rfl rfl) .nil))) (by kernel_rfl) ?_
      refine tnU ?_
      refine cdU (b := (!v18.2)) (.tmp m8_) (fun hc21 => ?_) (fun hc21 => ?_)
      ·replace h := ite_t hc21 h
       obtain ⟨g22, h⟩ := if_some h
       refine rg3 (st1 := ⟨[(0, .loc 100000 0), (1, .loc 100002 0), (5, .vec 50 7 0 ((v7 ++ [(TC.mk 3 (TF.mk v17.1.fN v17.1.fC v17.1.fT) (TF.mk [] [] 0))]).length)), (17, .p (.list .str) v6), (18, .p I6 ((v6.length : Int) : Int)), (19, .p I6 v8)], [(50, .row 103 (.named 6) (v7 ++ [(TC.mk 3 (TF.mk v17.1.fN v17.1.fC v17.1.fT) (TF.mk [] [] 0))]) false), (100000, .box [.mp 100001]), (100001, .map (.named 3) a0), (100002, .box [.mp 100003]), (100003, .map (.named 3) a1)]⟩) [0, 1, 5, 17, 18, 19] [50, 100000, 100001, 100002, 100003] hN (.cons (mvU (v := .vec 1005 7 0 v7.length) rfl rfl) (.cons (ldB (t := .named 3) (rs := [(8, .loc 8 0)]) [] [.p .str v17.1.fN, .p .str v17.1.fC, .p I6 v17.1.fT] [] (v := .p (.named 3) ((TF.mk v17.1.fN v17.1.fC v17.1.fT) : TF)) rfl rfl ty_24 o0 rfl rfl rfl rfl (.data (.named (us := ([.p .str v17.1.fN, .p .str v17.1.fC, .p I6 v17.1.fT] : List (AVal Un))) (.pair (.one _ _) (.pair (.one _ _) (.pair (.one _ _) .unit)))))) (.cons (u23_ (t := .named 6) (rs := [(47, .p (.named 3) ((TF.mk v17.1.fN v17.1.fC v17.1.fT) : TF))]) (us0 := [.p I6 (0 : Int), .p .str ([] : List UInt8), .p .str ([] : List UInt8), .p I6 (0 : Int), .p .str ([] : List UInt8), .p .str ([] : List UInt8), .p I6 (0 : Int)]) (us := [.p I6 (3 : Int), .p .str v17.1.fN, .p .str v17.1.fC, .p I6 v17.1.fT, .p .str ([] : List UInt8), .p .str ([] : List UInt8), .p I6 (0 : Int)]) (v := .p (.named 6) ((TC.mk 3 (TF.mk v17.1.fN v17.1.fC v17.1.fT) (TF.mk [] [] 0)) : TC)) rfl rfl lays_103 (.data (fun _ _ _ => .int _ _) (.data (fun _ _ _ => rd_str0) (.data (fun _ _ _ => rd_str0) (.data (fun _ _ _ => .int _ _) (.data (fun _ _ _ => rd_str0) (.data (fun _ _ _ => rd_str0) (.data (fun _ _ _ => .int _ _) .nil))))))) (Filled.cons (U := Un) (i := 0) (v := .p I6 (3 : Int)) [] [.p I6 (0 : Int)] [.p I6 (3 : Int)] [.p .str ([] : List UInt8), .p .str ([] : List UInt8), .p I6 (0 : Int), .p .str ([] : List UInt8), .p .str ([] : List UInt8), .p I6 (0 : Int)] (.int _ _ _) (.data (.one _ _)) rfl rfl rfl rfl rfl rfl (Filled.cons (U := Un) (i := 1) (v := .p (.named 3) ((TF.mk v17.1.fN v17.1.fC v17.1.fT) : TF)) [.p I6 (3 : Int)] [.p .str ([] : List UInt8), .p .str ([] : List UInt8), .p I6 (0 : Int)] [.p .str v17.1.fN, .p .str v17.1.fC, .p I6 v17.1.fT] [.p .str ([] : List UInt8), .p .str ([] : List UInt8), .p I6 (0 : Int)] o0 (.data (.named (us := ([.p .str v17.1.fN, .p .str v17.1.fC, .p I6 v17.1.fT] : List (AVal Un))) (.pair (.one _ _) (.pair (.one _ _) (.pair (.one _ _) .unit))))) rfl rfl rfl rfl rfl rfl (.nil _))) rfl (.data (.named (us := ([.p I6 (3 : Int), .p .str v17.1.fN, .p .str v17.1.fC, .p I6 v17.1.fT, .p .str ([] : List UInt8), .p .str ([] : List UInt8), .p I6 (0 : Int)] : List (AVal Un))) (.pair (.one _ _) (.pair (.named (us := ([.p .str v17.1.fN, .p .str v17.1.fC, .p I6 v17.1.fT] : List (AVal Un))) (.pair (.one _ _) (.pair (.one _ _) (.pair (.one _ _) .unit)))) (.pair (.named (us := ([.p .str ([] : List UInt8), .p .str ([] : List UInt8), .p I6 (0 : Int)] : List (AVal Un))) (.pair (.one _ _) (.pair (.one _ _) (.pair (.one _ _) .unit)))) .unit)))))) (.cons (u24_ (t := .named 6) (rs := [(48, .p (.named 6) ((TC.mk 3 (TF.mk v17.1.fN v17.1.fC v17.1.fT) (TF.mk [] [] 0)) : TC))]) (ys := [.tmp 48]) (xs := [(TC.mk 3 (TF.mk v17.1.fN v17.1.fC v17.1.fT) (TF.mk [] [] 0))]) rfl rfl rfl rfl row_60 (.cons o0 .nil) (by decide)) (.cons (u19_ (t := .named 6) (rs := [(46, .vec 1005 7 0 v7.length), (49, .vec 49 7 0 ([(TC.mk 3 (TF.mk v17.1.fN v17.1.fC v17.1.fT) (TF.mk [] [] 0))].length))]) (vw := [(49, .row 103 (.named 6) [(TC.mk 3 (TF.mk v17.1.fN v17.1.fC v17.1.fT) (TF.mk [] [] 0))] true)]) (xs := v7) (ys := [(TC.mk 3 (TF.mk v17.1.fN v17.1.fC v17.1.fT) (TF.mk [] [] 0))]) (fx := false) rfl rfl rfl row_60 (by decide) o0 o1 (.whole (.head _)) (by simp) g22) (.cons (mvA (v := .vec 50 7 0 ((v7 ++ [(TC.mk 3 (TF.mk v17.1.fN v17.1.fC v17.1.fT) (TF.mk [] [] 0))]).length)) rfl rfl) .nil)))))) (by kernel_rfl) (cvT (u12_ (st' := ⟨[(0, .loc 100000 0), (1, .loc 100002 0), (5, .vec 1005 7 0 ((v7 ++ [(TC.mk 3 (TF.mk v17.1.fN v17.1.fC v17.1.fT) (TF.mk [] [] 0))]).length)), (17, .p (.list .str) v6), (18, .p I6 ((v6.length : Int) : Int)), (19, .p I6 v8)], [(1005, .row 103 (.named 6) (v7 ++ [(TC.mk 3 (TF.mk v17.1.fN v17.1.fC v17.1.fT) (TF.mk [] [] 0))]) false), (100000, .box [.mp 100001]), (100001, .map (.named 3) a0), (100002, .box [.mp 100003]), (100003, .map (.named 3) a1)]⟩) 50 1005 (by unfold K0; omega) (by kernel_rfl) (by kernel_rfl) (by kernel_rfl)) (cvK (b := ⟨[(0, .loc 100000 0), (1, .loc 100002 0), (5, .vec 1005 7 0 ((v7 ++ [(TC.mk 3 (TF.mk v17.1.fN v17.1.fC v17.1.fT) (TF.mk [] [] 0))]).length)), (17, .p (.list .str) v6), (18, .p I6 ((v6.length : Int) : Int)), (19, .p I6 v8)], [(1005, .row 103 (.named 6) (v7 ++ [(TC.mk 3 (TF.mk v17.1.fN v17.1.fC v17.1.fT) (TF.mk [] [] 0))]) false), (100000, .box [.mp 100001]), (100001, .map (.named 3) a0), (100002, .box [.mp 100003]), (100003, .map (.named 3) a1)]⟩) [0, 1, 5, 17, 18, 19] [1005, 100000, 100001, 100002, 100003] (by kernel_rfl))) ?_
       refine bn_ ?_
       refine bn_ ?_
       refine tnU ?_
       exact ⟨(v7 ++ [(TC.mk 3 (TF.mk v17.1.fN v17.1.fC v17.1.fT) (TF.mk [] [] 0))]), h, rfl⟩
      ·replace h := ite_f hc21 h
       refine sq_ ?_
       refine rg4 (st1 := ⟨[(0, .loc 100000 0), (1, .loc 100002 0), (5, .vec 1005 7 0 v7.length), (8, .loc 8 0), (10, .loc 10 0), (17, .p (.list .str) v6), (18, .p I6 ((v6.length : Int) : Int)), (19, .p I6 v8), (51, .p .bool ((!(v17.1.fN == v18.1.fN && (v17.1.fC == v18.1.fC && (v17.1.fT == v18.1.fT && true)))) : Bool))], [(8, .box [.p .str v17.1.fN, .p .str v17.1.fC, .p I6 v17.1.fT]), (10, .box [.p .str v18.1.fN, .p .str v18.1.fC, .p I6 v18.1.fT]), (1005, .row 103 (.named 6) v7 false), (100000, .box [.mp 100001]), (100001, .map (.named 3) a0), (100002, .box [.mp 100003]), (100003, .map (.named 3) a1)]⟩) [0, 1, 5, 8, 10, 17, 18, 19, 51] [8, 10, 1005, 100000, 100001, 100002, 100003] hN (.cons (ldB (t := .named 3) (rs := [(8, .loc 8 0)]) [] [.p .str v17.1.fN, .p .str v17.1.fC, .p I6 v17.1.fT] [] (v := .p (.named 3) ((TF.mk v17.1.fN v17.1.fC v17.1.fT) : TF)) rfl rfl ty_24 o0 rfl rfl rfl rfl (.data (.named (us := ([.p .str v17.1.fN, .p .str v17.1.fC, .p I6 v17.1.fT] : List (AVal Un))) (.pair (.one _ _) (.pair (.one _ _) (.pair (.one _ _) .unit)))))) (.cons (ldB (t := .named 3) (rs := [(10, .loc 10 0)]) [] [.p .str v18.1.fN, .p .str v18.1.fC, .p I6 v18.1.fT] [] (v := .p (.named 3) ((TF.mk v18.1.fN v18.1.fC v18.1.fT) : TF)) rfl rfl ty_24 o0 rfl rfl rfl rfl (.data (.named (us := ([.p .str v18.1.fN, .p .str v18.1.fC, .p I6 v18.1.fT] : List (AVal Un))) (.pair (.one _ _) (.pair (.one _ _) (.pair (.one _ _) .unit)))))) (.cons (u49_ (rs := [(52, .p (.named 3) ((TF.mk v17.1.fN v17.1.fC v17.1.fT) : TF)), (53, .p (.named 3) ((TF.mk v18.1.fN v18.1.fC v18.1.fT) : TF))]) rfl rfl Tryd.underlying24 (by kernel_rfl) (eqf_24 _ Tryd.underlying24) (by kernel_rfl) o0 o1) (.cons (mvA (v := .p .bool ((!(v17.1.fN == v18.1.fN && (v17.1.fC == v18.1.fC && (v17.1.fT == v18.1.fT && true)))) : Bool)) rfl rfl) .nil)))) (by kernel_rfl) ?_
       refine tnU ?_
       refine cdU (b := (!(v17.1.fN == v18.1.fN && (v17.1.fC == v18.1.fC && (v17.1.fT == v18.1.fT && true))))) (.tmp m8_) (fun hc23 => ?_) (fun hc23 => ?_)
       ·replace h := ite_t hc23 h
        obtain ⟨g24, h⟩ := if_some h
        refine rg3 (st1 := ⟨[(0, .loc 100000 0), (1, .loc 100002 0), (5, .vec 60 7 0 ((v7 ++ [(TC.mk 2 (TF.mk v17.1.fN v17.1.fC v17.1.fT) (TF.mk v18.1.fN v18.1.fC v18.1.fT))]).length)), (17, .p (.list .str) v6), (18, .p I6 ((v6.length : Int) : Int)), (19, .p I6 v8)], [(60, .row 103 (.named 6) (v7 ++ [(TC.mk 2 (TF.mk v17.1.fN v17.1.fC v17.1.fT) (TF.mk v18.1.fN v18.1.fC v18.1.fT))]) false), (100000, .box [.mp 100001]), (100001, .map (.named 3) a0), (100002, .box [.mp 100003]), (100003, .map (.named 3) a1)]⟩) [0, 1, 5, 17, 18, 19] [60, 100000, 100001, 100002, 100003] hN (.cons (mvU (v := .vec 1005 7 0 v7.length) rfl rfl) (.cons (ldB (t := .named 3) (rs := [(8, .loc 8 0)]) [] [.p .str v17.1.fN, .p .str v17.1.fC, .p I6 v17.1.fT] [] (v := .p (.named 3) ((TF.mk v17.1.fN v17.1.fC v17.1.fT) : TF)) rfl rfl ty_24 o0 rfl rfl rfl rfl (.data (.named (us := ([.p .str v17.1.fN, .p .str v17.1.fC, .p I6 v17.1.fT] : List (AVal Un))) (.pair (.one _ _) (.pair (.one _ _) (.pair (.one _ _) .unit)))))) (.cons (ldB (t := .named 3) (rs := [(10, .loc 10 0)]) [] [.p .str v18.1.fN, .p .str v18.1.fC, .p I6 v18.1.fT] [] (v := .p (.named 3) ((TF.mk v18.1.fN v18.1.fC v18.1.fT) : TF)) rfl rfl ty_24 o0 rfl rfl rfl rfl (.data (.named (us := ([.p .str v18.1.fN, .p .str v18.1.fC, .p I6 v18.1.fT] : List (AVal Un))) (.pair (.one _ _) (.pair (.one _ _) (.pair (.one _ _) .unit)))))) (.cons (u23_ (t := .named 6) (rs := [(56, .p (.named 3) ((TF.mk v17.1.fN v17.1.fC v17.1.fT) : TF)), (57, .p (.named 3) ((TF.mk v18.1.fN v18.1.fC v18.1.fT) : TF))]) (us0 := [.p I6 (0 : Int), .p .str ([] : List UInt8), .p .str ([] : List UInt8), .p I6 (0 : Int), .p .str ([] : List UInt8), .p .str ([] : List UInt8), .p I6 (0 : Int)]) (us := [.p I6 (2 : Int), .p .str v17.1.fN, .p .str v17.1.fC, .p I6 v17.1.fT, .p .str v18.1.fN, .p .str v18.1.fC, .p I6 v18.1.fT]) (v := .p (.named 6) ((TC.mk 2 (TF.mk v17.1.fN v17.1.fC v17.1.fT) (TF.mk v18.1.fN v18.1.fC v18.1.fT)) : TC)) rfl rfl lays_103 (.data (fun _ _ _ => .int _ _) (.data (fun _ _ _ => rd_str0) (.data (fun _ _ _ => rd_str0) (.data (fun _ _ _ => .int _ _) (.data (fun _ _ _ => rd_str0) (.data (fun _ _ _ => rd_str0) (.data (fun _ _ _ => .int _ _) .nil))))))) (Filled.cons (U := Un) (i := 0) (v := .p I6 (2 : Int)) [] [.p I6 (0 : Int)] [.p I6 (2 : Int)] [.p .str ([] : List UInt8), .p .str ([] : List UInt8), .p I6 (0 : Int), .p .str ([] : List UInt8), .p .str ([] : List UInt8), .p I6 (0 : Int)] (.int _ _ _) (.data (.one _ _)) rfl rfl rfl rfl rfl rfl (Filled.cons (U := Un) (i := 1) (v := .p (.named 3) ((TF.mk v17.1.fN v17.1.fC v17.1.fT) : TF)) [.p I6 (2 : Int)] [.p .str ([] : List UInt8), .p .str ([] : List UInt8), .p I6 (0 : Int)] [.p .str v17.1.fN, .p .str v17.1.fC, .p I6 v17.1.fT] [.p .str ([] : List UInt8), .p .str ([] : List UInt8), .p I6 (0 : Int)] o0 (.data (.named (us := ([.p .str v17.1.fN, .p .str v17.1.fC, .p I6 v17.1.fT] : List (AVal Un))) (.pair (.one _ _) (.pair (.one _ _) (.pair (.one _ _) .unit))))) rfl rfl rfl rfl rfl rfl (Filled.cons (U := Un) (i := 2) (v := .p (.named 3) ((TF.mk v18.1.fN v18.1.fC v18.1.fT) : TF)) [.p I6 (2 : Int), .p .str v17.1.fN, .p .str v17.1.fC, .p I6 v17.1.fT] [.p .str ([] : List UInt8), .p .str ([] : List UInt8), .p I6 (0 : Int)] [.p .str v18.1.fN, .p .str v18.1.fC, .p I6 v18.1.fT] [] o1 (.data (.named (us := ([.p .str v18.1.fN, .p .str v18.1.fC, .p I6 v18.1.fT] : List (AVal Un))) (.pair (.one _ _) (.pair (.one _ _) (.pair (.one _ _) .unit))))) rfl rfl rfl rfl rfl rfl (.nil _)))) rfl (.data (.named (us := ([.p I6 (2 : Int), .p .str v17.1.fN, .p .str v17.1.fC, .p I6 v17.1.fT, .p .str v18.1.fN, .p .str v18.1.fC, .p I6 v18.1.fT] : List (AVal Un))) (.pair (.one _ _) (.pair (.named (us := ([.p .str v17.1.fN, .p .str v17.1.fC, .p I6 v17.1.fT] : List (AVal Un))) (.pair (.one _ _) (.pair (.one _ _) (.pair (.one _ _) .unit)))) (.pair (.named (us := ([.p .str v18.1.fN, .p .str v18.1.fC, .p I6 v18.1.fT] : List (AVal Un))) (.pair (.one _ _) (.pair (.one _ _) (.pair (.one _ _) .unit)))) .unit)))))) (.cons (u24_ (t := .named 6) (rs := [(58, .p (.named 6) ((TC.mk 2 (TF.mk v17.1.fN v17.1.fC v17.1.fT) (TF.mk v18.1.fN v18.1.fC v18.1.fT)) : TC))]) (ys := [.tmp 58]) (xs := [(TC.mk 2 (TF.mk v17.1.fN v17.1.fC v17.1.fT) (TF.mk v18.1.fN v18.1.fC v18.1.fT))]) rfl rfl rfl rfl row_60 (.cons o0 .nil) (by decide)) (.cons (u19_ (t := .named 6) (rs := [(55, .vec 1005 7 0 v7.length), (59, .vec 59 7 0 ([(TC.mk 2 (TF.mk v17.1.fN v17.1.fC v17.1.fT) (TF.mk v18.1.fN v18.1.fC v18.1.fT))].length))]) (vw := [(59, .row 103 (.named 6) [(TC.mk 2 (TF.mk v17.1.fN v17.1.fC v17.1.fT) (TF.mk v18.1.fN v18.1.fC v18.1.fT))] true)]) (xs := v7) (ys := [(TC.mk 2 (TF.mk v17.1.fN v17.1.fC v17.1.fT) (TF.mk v18.1.fN v18.1.fC v18.1.fT))]) (fx := false) rfl rfl rfl row_60 (by decide) o0 o1 (.whole (.head _)) (by simp) g24) (.cons (mvA (v := .vec 60 7 0 ((v7 ++ [(TC.mk 2 (TF.mk v17.1.fN v17.1.fC v17.1.fT) (TF.mk v18.1.fN v18.1.fC v18.1.fT))]).length)) rfl rfl) .nil))))))) (by kernel_rfl) (cvT (u12_ (st' := ⟨[(0, .loc 100000 0), (1, .loc 100002 0), (5, .vec 1005 7 0 ((v7 ++ [(TC.mk 2 (TF.mk v17.1.fN v17.1.fC v17.1.fT) (TF.mk v18.1.fN v18.1.fC v18.1.fT))]).length)), (17, .p (.list .str) v6), (18, .p I6 ((v6.length : Int) : Int)), (19, .p I6 v8)], [(1005, .row 103 (.named 6) (v7 ++ [(TC.mk 2 (TF.mk v17.1.fN v17.1.fC v17.1.fT) (TF.mk v18.1.fN v18.1.fC v18.1.fT))]) false), (100000, .box [.mp 100001]), (100001, .map (.named 3) a0), (100002, .box [.mp 100003]), (100003, .map (.named 3) a1)]⟩) 60 1005 (by unfold K0; omega) (by kernel_rfl) (by kernel_rfl) (by kernel_rfl)) (cvK (b := ⟨[(0, .loc 100000 0), (1, .loc 100002 0), (5, .vec 1005 7 0 ((v7 ++ [(TC.mk 2 (TF.mk v17.1.fN v17.1.fC v17.1.fT) (TF.mk v18.1.fN v18.1.fC v18.1.fT))]).length)), (17, .p (.list .str) v6), (18, .p I6 ((v6.length : Int) : Int)), (19, .p I6 v8)], [(1005, .row 103 (.named 6) (v7 ++ [(TC.mk 2 (TF.mk v17.1.fN v17.1.fC v17.1.fT) (TF.mk v18.1.fN v18.1.fC v18.1.fT))]) false), (100000, .box [.mp 100001]), (100001, .map (.named 3) a0), (100002, .box [.mp 100003]), (100003, .map (.named 3) a1)]⟩) [0, 1, 5, 17, 18, 19] [1005, 100000, 100001, 100002, 100003] (by kernel_rfl))) ?_
        refine bn_ ?_
        refine bn_ ?_
        refine tnU ?_
        exact ⟨(v7 ++ [(TC.mk 2 (TF.mk v17.1.fN v17.1.fC v17.1.fT) (TF.mk v18.1.fN v18.1.fC v18.1.fT))]), h, rfl⟩
       ·replace h := ite_f hc23 h
        refine wc_ (cvK (b := ⟨[(0, .loc 100000 0), (1, .loc 100002 0), (5, .vec 1005 7 0 v7.length), (17, .p (.list .str) v6), (18, .p I6 ((v6.length : Int) : Int)), (19, .p I6 v8)], [(1005, .row 103 (.named 6) v7 false), (100000, .box [.mp 100001]), (100001, .map (.named 3) a0), (100002, .box [.mp 100003]), (100003, .map (.named 3) a1)]⟩) [0, 1, 5, 17, 18, 19] [1005, 100000, 100001, 100002, 100003] (by kernel_rfl)) (ws_ ?_)
        refine bn_ ?_
        refine bn_ ?_
        refine tnU ?_
        exact ⟨v7, h, rfl⟩
    ·rintro _ ⟨v14, h, rfl⟩
     unfold delta_Of_m0.j15 at h
     refine rg4 (st1 := ⟨[(0, .loc 100000 0), (1, .loc 100002 0), (5, .vec 1005 7 0 v14.length), (17, .p (.list .str) v6), (18, .p I6 ((v6.length : Int) : Int)), (19, .p I6 ((IntKind.i64.wrap (v8 + 1)) : Int))], [(1005, .row 103 (.named 6) v14 false), (100000, .box [.mp 100001]), (100001, .map (.named 3) a0), (100002, .box [.mp 100003]), (100003, .map (.named 3) a1)]⟩) [0, 1, 5, 17, 18, 19] [1005, 100000, 100001, 100002, 100003] hN (.cons (u21_ (rs := [(19, .p I6 v8)]) rfl rfl o0 (.int _ _ _) rfl) (.cons (mvU (v := .p I6 ((IntKind.i64.wrap (v8 + 1)) : Int)) rfl rfl) .nil)) (by kernel_rfl) ?_
     refine tnU ?_
     exact ⟨n, Nat.lt_succ_self n, v14, (IntKind.i64.wrap (v8 + 1)), h, rfl⟩
   ·replace h := ite_f hc13 h
    refine wc_ (cvK (b := ⟨[(5, .vec 1005 7 0 v7.length)], [(1005, .row 103 (.named 6) v7 false), (100000, .box [.mp 100001]), (100001, .map (.named 3) a0), (100002, .box [.mp 100003]), (100003, .map (.named 3) a1)]⟩) [5] [1005, 100000, 100001, 100002, 100003] (by kernel_rfl)) (we_ ?_)
    refine te_ ?_
    have hq := Option.some.inj h
    subst hq
    refine te_ ?_
    have h := hout12
    refine blockQ_hit ?_
    refine tnU ?_
    exact ⟨v7, h, rfl⟩
 ·rintro _ ⟨v1, h, rfl⟩
  unfold delta_Of_m0.j2 at h
  refine sq_ ?_
  refine rg4 (st1 := ⟨[(4, .vec 1005 7 0 v1.length)], [(1005, .row 103 (.named 6) v1 false), (100000, .box [.mp 100001]), (100001, .map (.named 3) a0), (100002, .box [.mp 100003]), (100003, .map (.named 3) a1)]⟩) [4] [1005, 100000, 100001, 100002, 100003] hN (.cons (mvU (v := .vec 1005 7 0 v1.length) rfl rfl) (.cons (mvA (v := .vec 1005 7 0 v1.length) rfl rfl) .nil)) (by kernel_rfl) ?_
  refine tnU ?_
  refine wc_ (cvT (u2_ 4 1005 103 _ (.named 6) v1 false (.head _) (by first | rfl | (simp only [upd_length, List.length_replicate, List.length_append]; done) | (simp only [upd_length, List.length_replicate, List.length_append] at *; omega) | omega) (.head _) (by first | (simp [Blk.names]; done) | (simp [Blk.names, AVal.namesL, AVal.names]; done) | (simp [Blk.names]; decide))) (cvK (b := ⟨[(4, .p (.list (.named 6)) v1)], [(100000, .box [.mp 100001]), (100001, .map (.named 3) a0), (100002, .box [.mp 100003]), (100003, .map (.named 3) a1)]⟩) [4] [100000, 100001, 100002, 100003] (by kernel_rfl))) (wr_ ?_)
  have hq := Option.some.inj h
  subst hq
  exact ends_ret (retV_1 rfl (.head _)) (ain_cons (.head _) (ain_cons m1_ (ain_cons m2_ (ain_cons m3_ ain_nil))))

end Go.Proofs.YtkdpaglpieamgaaDoor
