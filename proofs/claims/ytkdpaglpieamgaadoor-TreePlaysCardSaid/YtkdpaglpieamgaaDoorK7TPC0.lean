/- A part of the proof of a given law: TPC0. Own work, printed in part by a program of mine. -/
import Derived.Test.YtkdpaglpieamgaaDoorK7TPN
namespace Go.Proofs.YtkdpaglpieamgaaDoor
open Go Go.AM
set_option linter.unusedVariables false
set_option linter.unusedSimpArgs false
set_option maxRecDepth 100000
theorem tree_New.ok (O : Out) (hO : GOk O) (k : Nat) (out : List ((List UInt8) × T_tree_File)) (h : tree_New.f k = some out) : COk Un O Tryd.prog 18 { ar := [], r := .loc 60500 0, bs' := [(60500, .box [.mp 60501]), (60501, .map (.named 3) out)], nn := [60500, 60501] } := by
  refine cok_of_wp Tryd.func18 rfl (k := 4) rfl (Nat.le_of_ble_eq_true rfl) (namesOk_of (by kernel_rfl)) ?_
  intro B hN
  refine WpC.conv (cvK (b := ⟨[], []⟩) [] [] (by kernel_rfl)) ?_
  unfold tree_New.f at h
  refine WpC.seq ?_
  refine rgU (st1 := ⟨[], []⟩) [] [] hN (.cons (moU (rs := []) rfl (.inr rfl) (.lit _ _ rfl)) .nil) (by kernel_rfl) (by kernel_rfl) (by kernel_rfl) (cvR _) ?_
  refine tnU ?_
  refine WpC.seq ?_
  refine rgU (st1 := ⟨[(0, .loc 3 0)], [(1, .map (.named 3) ([] : List ((List UInt8) × T_tree_File))), (3, .box [.mp 1])]⟩) [0] [1, 3] hN (.cons (sok_makeMap (U := Un) (t := .named 3) (rs := []) (d := 1) rfl rfl rfl) (.cons (sok_build (U := Un) (t := .arr 1 .bool) (rs := [(1, .mp 1)]) (us0 := [.lit (.map none)]) (us := [.mp 1]) (v := .agg [.mp 1]) rfl rfl lays_89 (.lit rfl .nil) (Filled.cons (U := Un) (i := 0) (v := .mp 1) [] [.lit (.map none)] [.mp 1] [] o0 (.hand rfl) rfl rfl rfl rfl rfl rfl (.nil _)) rfl (.agg rfl)) (.cons (sok_box (U := Un) (rs := [(2, .agg [.mp 1])]) (d := 3) (us := [.mp 1]) rfl rfl rfl o0 .agg rfl (notin_of (by kernel_rfl))) (.cons (mvA (v := .loc 3 0) rfl rfl) .nil)))) (by kernel_rfl) (by kernel_rfl) (by kernel_rfl) (cvR _) ?_
  refine tnU ?_
  refine WpC.conv (cvT (Conv.ren (U := Un) (st' := ⟨[(0, .loc 3 0)], [(60501, .map (.named 3) ([] : List ((List UInt8) × T_tree_File))), (3, .box [.mp 60501])]⟩) 1 60501 (by unfold K0; omega) (by kernel_rfl) (by kernel_rfl) (by kernel_rfl)) (cvT (cvK (b := ⟨[(0, .loc 3 0)], [(3, .box [.mp 60501]), (60501, .map (.named 3) ([] : List ((List UInt8) × T_tree_File)))]⟩) [0] [3, 60501] (by kernel_rfl)) (cvT (Conv.ren (U := Un) (st' := ⟨[(0, .loc 60500 0)], [(60500, .box [.mp 60501]), (60501, .map (.named 3) ([] : List ((List UInt8) × T_tree_File)))]⟩) 3 60500 (by unfold K0; omega) (by kernel_rfl) (by kernel_rfl) (by kernel_rfl)) (cvK (b := ⟨[(0, .loc 60500 0)], [(60500, .box [.mp 60501]), (60501, .map (.named 3) ([] : List ((List UInt8) × T_tree_File)))]⟩) [0] [60500, 60501] (by kernel_rfl))))) (WpC.ret ?_)
  have hq := Option.some.inj h
  subst hq
  exact ends_ret (retV_1 rfl (.head _)) (ain_cons (.head _) (ain_cons (.tail _ (.head _)) ain_nil))

theorem names_Right.ok (O : Out) (hO : GOk O) (k : Nat) (a0 : List UInt8) (out : Bool) (h : names_Right.f k a0 = some out) : COk Un O Tryd.prog 68 { ar := [.p .str a0], r := .p .bool out } := by
  refine cok_of_wp Tryd.func68 rfl (k := 28) rfl (Nat.le_of_ble_eq_true rfl) (namesOk_pure rfl rfl rfl rfl) ?_
  intro B hN
  refine WpC.conv (cvK (b := ⟨[(0, .p .str a0)], []⟩) [0] [] (by kernel_rfl)) ?_
  unfold names_Right.f at h
  refine WpC.seq ?_
  refine rgU (st1 := ⟨[(0, .p .str a0)], []⟩) [0] [] hN (.cons (moU (rs := []) rfl (.inr rfl) (.bool _ _)) .nil) (by kernel_rfl) (by kernel_rfl) (by kernel_rfl) (cvR _) ?_
  refine tnU ?_
  refine sqJ (fun st' => names_Right.j16 k a0 = some out ∧ st' = ⟨[(0, .p .str a0)], []⟩) ?_ ?_
  · refine sqJ (fun st' => ∃ v17 : Bool, names_Right.j19 k a0 v17 = some out ∧ st' = ⟨[(0, .p .str a0), (11, .p .bool v17)], []⟩) ?_ ?_
    · rcases bool_cases (decide ((a0.length : Int) < 1)) with hc20 | hc20
      · replace h := ite_t hc20 h
        refine rgU (st1 := ⟨[(0, .p .str a0), (11, .p .bool true)], []⟩) [0, 11] [] hN (.cons (mvU (v := .p .str a0) rfl rfl) (.cons (sok_lenS (U := Un) (rs := [(4, .p .str a0)]) rfl rfl Tryd.underlying9 o0) (.cons (cmU (rs := [(5, .p I6 ((a0.length : Int) : Int))]) rfl rfl o0 (.int _ _ _) rfl) (.cons (mvU (v := .p .bool ((decide ((a0.length : Int) < 1)) : Bool)) rfl rfl) (.cons (skU rfl rfl hc20) (.cons (skU rfl rfl hc20) (.cons (skU rfl rfl hc20) (.cons (pkT (rs := [(7, .p .bool ((decide ((a0.length : Int) < 1)) : Bool))]) rfl rfl o0 hc20 (.bool _ _)) .nil)))))))) (by kernel_rfl) (by kernel_rfl) (by kernel_rfl) (cvR _) ?_
        refine tnU ?_
        exact ⟨true, h, rfl⟩
      · replace h := ite_f hc20 h
        refine rgU (st1 := ⟨[(0, .p .str a0), (11, .p .bool ((decide ((a0.length : Int) > 40)) : Bool))], []⟩) [0, 11] [] hN (.cons (mvU (v := .p .str a0) rfl rfl) (.cons (sok_lenS (U := Un) (rs := [(4, .p .str a0)]) rfl rfl Tryd.underlying9 o0) (.cons (cmU (rs := [(5, .p I6 ((a0.length : Int) : Int))]) rfl rfl o0 (.int _ _ _) rfl) (.cons (mvU (v := .p .bool ((decide ((a0.length : Int) < 1)) : Bool)) rfl rfl) (.cons (sok_run rfl rfl hc20 (mvU (v := .p .str a0) rfl rfl)) (.cons (sok_run rfl rfl hc20 (sok_lenS (U := Un) (rs := [(8, .p .str a0)]) rfl rfl Tryd.underlying9 o0)) (.cons (sok_run rfl rfl hc20 (cmU (rs := [(9, .p I6 ((a0.length : Int) : Int))]) rfl rfl o0 (.int _ _ _) rfl)) (.cons (pkF (rs := [(7, .p .bool ((decide ((a0.length : Int) < 1)) : Bool)), (10, .p .bool ((decide ((a0.length : Int) > 40)) : Bool))]) rfl rfl o0 hc20 o1) .nil)))))))) (by kernel_rfl) (by kernel_rfl) (by kernel_rfl) (cvR _) ?_
        refine tnU ?_
        exact ⟨(decide ((a0.length : Int) > 40)), h, rfl⟩
    · rintro _ ⟨v17, h, rfl⟩
      unfold names_Right.j19 at h
      refine cdU (b := v17) o1 (fun hc18 => ?_) (fun hc18 => ?_)
      · replace h := ite_t hc18 h
        refine WpC.seq ?_
        refine rgU (st1 := ⟨[(2, .p .bool false)], []⟩) [2] [] hN (.cons (moU (rs := []) rfl (.inr rfl) (.bool _ _)) .nil) (by kernel_rfl) (by kernel_rfl) (by kernel_rfl) (cvR _) ?_
        refine tnU ?_
        refine WpC.ret ?_
        refine thenQ_ret ?_
        have hq := Option.some.inj h
        subst hq
        exact ends_ret (retV_1 rfl (.head _)) ain_nil
      · replace h := ite_f hc18 h
        refine WpC.conv (cvK (b := ⟨[(0, .p .str a0)], []⟩) [0] [] (by kernel_rfl)) (WpC.skip ?_)
        refine tnU ?_
        exact ⟨h, rfl⟩
  · rintro _ ⟨h, rfl⟩
    unfold names_Right.j16 at h
    refine sqJ (fun st' => names_Right.j1 k = some out ∧ st' = ⟨[], []⟩) ?_ ?_
    · refine WpC.seq ?_
      refine rgU (st1 := ⟨[(0, .p .str a0), (13, .p I6 ((a0.length : Int) : Int)), (14, .p I6 (0 : Int))], []⟩) [0, 13, 14] [] hN (.cons (mvU (v := .p .str a0) rfl rfl) (.cons (sok_lenS (U := Un) (rs := [(12, .p .str a0)]) rfl rfl Tryd.underlying9 o0) (.cons (moU (rs := []) rfl (.inl rfl) (.int _ _ _)) .nil))) (by kernel_rfl) (by kernel_rfl) (by kernel_rfl) (cvR _) ?_
      refine tnU ?_
      refine WpC.block ?_
      obtain ⟨o4, hlo4, h⟩ := bind_some h
      have hout5 := h
      clear h
      refine WpC.loop (U := Un) (fun n st' => ∃ v2 : Int, names_Right.l3 k a0 n v2 = some o4 ∧ st' = ⟨[(0, .p .str a0), (13, .p I6 ((a0.length : Int) : Int)), (14, .p I6 v2)], []⟩) k ⟨0, hlo4, rfl⟩ ?_
      clear hlo4
      rintro (_ | n) _ ⟨v2, h, rfl⟩
      · cases h
      · rw [names_Right.l3] at h
        refine WpC.seq ?_
        refine rgU (st1 := ⟨[(0, .p .str a0), (13, .p I6 ((a0.length : Int) : Int)), (14, .p I6 v2), (15, .p .bool ((decide (v2 < (a0.length : Int))) : Bool))], []⟩) [0, 13, 14, 15] [] hN (.cons (cmU (rs := [(14, .p I6 v2), (13, .p I6 ((a0.length : Int) : Int))]) rfl rfl o0 o1 rfl) .nil) (by kernel_rfl) (by kernel_rfl) (by kernel_rfl) (cvR _) ?_
        refine tnU ?_
        refine WpC.seq ?_
        refine cdU (b := (decide (v2 < (a0.length : Int)))) (.tmp (.tail _ (.tail _ (.tail _ (.head _))))) (fun hc6 => ?_) (fun hc6 => ?_)
        · replace h := ite_t hc6 h
          refine WpC.conv (cvK (b := ⟨[(0, .p .str a0), (13, .p I6 ((a0.length : Int) : Int)), (14, .p I6 v2)], []⟩) [0, 13, 14] [] (by kernel_rfl)) (WpC.skip ?_)
          refine tnU ?_
          refine sqJ (fun st' => names_Right.j7 k (names_Right.l3 k a0 n) a0 v2 = some o4 ∧ st' = ⟨[(0, .p .str a0), (13, .p I6 ((a0.length : Int) : Int)), (14, .p I6 v2)], []⟩) ?_ ?_
          · refine WpC.block ?_
            refine WpC.seq ?_
            refine rgU (st1 := ⟨[(0, .p .str a0), (3, .p I6 v2), (13, .p I6 ((a0.length : Int) : Int)), (14, .p I6 v2)], []⟩) [0, 3, 13, 14] [] hN (.cons (mvU (v := .p I6 v2) rfl rfl) (.cons (mvA (v := .p I6 v2) rfl rfl) .nil)) (by kernel_rfl) (by kernel_rfl) (by kernel_rfl) (cvR _) ?_
            refine tnU ?_
            refine sqJ (fun st' => ∃ v8 : Bool, names_Right.j10 k (names_Right.l3 k a0 n) a0 v2 v8 = some o4 ∧ st' = ⟨[(0, .p .str a0), (13, .p I6 ((a0.length : Int) : Int)), (14, .p I6 v2), (26, .p .bool v8)], []⟩) ?_ ?_
            · obtain ⟨v11, hv11, h⟩ := bind_some h
              rcases bool_cases (decide ((v11.toNat : Int) < 33)) with hc12 | hc12
              · replace h := ite_t hc12 h
                refine rgU (st1 := ⟨[(0, .p .str a0), (13, .p I6 ((a0.length : Int) : Int)), (14, .p I6 v2), (26, .p .bool true)], []⟩) [0, 13, 14, 26] [] hN (.cons (mvU (v := .p .str a0) rfl rfl) (.cons (mvU (v := .p I6 v2) rfl rfl) (.cons (sok_indexS (U := Un) (rs := [(17, .p .str a0), (18, .p I6 v2)]) rfl rfl Tryd.underlying9 o0 o1 hv11) (.cons (cmU (rs := [(19, .p (.int .u8) ((v11.toNat : Int) : Int))]) rfl rfl o0 (.int _ _ _) rfl) (.cons (mvU (v := .p .bool ((decide ((v11.toNat : Int) < 33)) : Bool)) rfl rfl) (.cons (skU rfl rfl hc12) (.cons (skU rfl rfl hc12) (.cons (skU rfl rfl hc12) (.cons (skU rfl rfl hc12) (.cons (pkT (rs := [(21, .p .bool ((decide ((v11.toNat : Int) < 33)) : Bool))]) rfl rfl o0 hc12 (.bool _ _)) .nil)))))))))) (by kernel_rfl) (by kernel_rfl) (by kernel_rfl) (cvR _) ?_
                refine tnU ?_
                exact ⟨true, h, rfl⟩
              · replace h := ite_f hc12 h
                obtain ⟨v13, hv13, h⟩ := bind_some h
                refine rgU (st1 := ⟨[(0, .p .str a0), (13, .p I6 ((a0.length : Int) : Int)), (14, .p I6 v2), (26, .p .bool ((decide ((v13.toNat : Int) > 126)) : Bool))], []⟩) [0, 13, 14, 26] [] hN (.cons (mvU (v := .p .str a0) rfl rfl) (.cons (mvU (v := .p I6 v2) rfl rfl) (.cons (sok_indexS (U := Un) (rs := [(17, .p .str a0), (18, .p I6 v2)]) rfl rfl Tryd.underlying9 o0 o1 hv11) (.cons (cmU (rs := [(19, .p (.int .u8) ((v11.toNat : Int) : Int))]) rfl rfl o0 (.int _ _ _) rfl) (.cons (mvU (v := .p .bool ((decide ((v11.toNat : Int) < 33)) : Bool)) rfl rfl) (.cons (sok_run rfl rfl hc12 (mvU (v := .p .str a0) rfl rfl)) (.cons (sok_run rfl rfl hc12 (mvU (v := .p I6 v2) rfl rfl)) (.cons (sok_run rfl rfl hc12 (sok_indexS (U := Un) (rs := [(22, .p .str a0), (23, .p I6 v2)]) rfl rfl Tryd.underlying9 o0 o1 hv13)) (.cons (sok_run rfl rfl hc12 (cmU (rs := [(24, .p (.int .u8) ((v13.toNat : Int) : Int))]) rfl rfl o0 (.int _ _ _) rfl)) (.cons (pkF (rs := [(21, .p .bool ((decide ((v11.toNat : Int) < 33)) : Bool)), (25, .p .bool ((decide ((v13.toNat : Int) > 126)) : Bool))]) rfl rfl o0 hc12 o1) .nil)))))))))) (by kernel_rfl) (by kernel_rfl) (by kernel_rfl) (cvR _) ?_
                refine tnU ?_
                exact ⟨(decide ((v13.toNat : Int) > 126)), h, rfl⟩
            · rintro _ ⟨v8, h, rfl⟩
              unfold names_Right.j10 at h
              refine cdU (b := v8) (.tmp (.tail _ (.tail _ (.tail _ (.head _))))) (fun hc9 => ?_) (fun hc9 => ?_)
              · replace h := ite_t hc9 h
                refine WpC.seq ?_
                refine rgU (st1 := ⟨[(2, .p .bool false)], []⟩) [2] [] hN (.cons (moU (rs := []) rfl (.inr rfl) (.bool _ _)) .nil) (by kernel_rfl) (by kernel_rfl) (by kernel_rfl) (cvR _) ?_
                refine tnU ?_
                refine WpC.ret ?_
                refine blockQ_ret ?_
                refine thenQ_ret ?_
                have hq := Option.some.inj h
                subst hq
                refine thenQ_ret ?_
                have h := hout5
                refine blockQ_ret ?_
                refine thenQ_ret ?_
                have hq := Option.some.inj h
                subst hq
                exact ends_ret (retV_1 rfl (.head _)) ain_nil
              · replace h := ite_f hc9 h
                refine WpC.conv (cvK (b := ⟨[(0, .p .str a0), (13, .p I6 ((a0.length : Int) : Int)), (14, .p I6 v2)], []⟩) [0, 13, 14] [] (by kernel_rfl)) (WpC.skip ?_)
                refine blockQ_normal ?_
                refine tnU ?_
                exact ⟨h, rfl⟩
          · rintro _ ⟨h, rfl⟩
            unfold names_Right.j7 at h
            refine rgU (st1 := ⟨[(0, .p .str a0), (13, .p I6 ((a0.length : Int) : Int)), (14, .p I6 ((IntKind.i64.wrap (v2 + 1)) : Int))], []⟩) [0, 13, 14] [] hN (.cons (sok_arith (U := Un) (rs := [(14, .p I6 v2)]) rfl rfl o0 (.int _ _ _) rfl) (.cons (mvU (v := .p I6 ((IntKind.i64.wrap (v2 + 1)) : Int)) rfl rfl) .nil)) (by kernel_rfl) (by kernel_rfl) (by kernel_rfl) (cvR _) ?_
            refine tnU ?_
            exact ⟨n, Nat.lt_succ_self n, (IntKind.i64.wrap (v2 + 1)), h, rfl⟩
        · replace h := ite_f hc6 h
          refine WpC.conv (cvK (b := ⟨[], []⟩) [] [] (by kernel_rfl)) (WpC.exit ?_)
          refine thenQ_exit ?_
          have hq := Option.some.inj h
          subst hq
          refine thenQ_exit ?_
          have h := hout5
          refine blockQ_hit ?_
          refine tnU ?_
          exact ⟨h, rfl⟩
    · rintro _ ⟨h, rfl⟩
      unfold names_Right.j1 at h
      refine WpC.seq ?_
      refine rgU (st1 := ⟨[(2, .p .bool true)], []⟩) [2] [] hN (.cons (moU (rs := []) rfl (.inr rfl) (.bool _ _)) .nil) (by kernel_rfl) (by kernel_rfl) (by kernel_rfl) (cvR _) ?_
      refine tnU ?_
      refine WpC.ret ?_
      have hq := Option.some.inj h
      subst hq
      exact ends_ret (retV_1 rfl (.head _)) ain_nil

theorem tree_Tree_may_m0.ok (O : Out) (hO : GOk O) (k : Nat) (a0 : List ((List UInt8) × T_tree_File)) (a1 : T_tree_File) (out : Nat) (h : tree_Tree_may_m0.f k a0 a1 = some out) : COk Un O Tryd.prog 51 { ar := [.loc 100000 0, .p (.named 3) a1], r := .p .err out, bs := [(100000, .box [.mp 100001]), (100001, .map (.named 3) a0)], bs' := [(100000, .box [.mp 100001]), (100001, .map (.named 3) a0)] } := by
  refine cok_of_wp Tryd.func51 rfl (k := 51) rfl (Nat.le_of_ble_eq_true rfl) (namesOk_of (by kernel_rfl)) ?_
  intro B hN
  refine WpC.conv (cvK (b := ⟨[(0, .loc 100000 0), (1, .p (.named 3) a1)], [(100000, .box [.mp 100001]), (100001, .map (.named 3) a0)]⟩) [0, 1] [100000, 100001] (by kernel_rfl)) ?_
  unfold tree_Tree_may_m0.f at h
  refine WpC.seq ?_
  refine rgU (st1 := ⟨[(0, .loc 100000 0), (3, .loc 3 0)], [(3, .box [.p .str a1.f_Name, .p .str a1.f_Content, .p I6 a1.f_Time]), (100000, .box [.mp 100001]), (100001, .map (.named 3) a0)]⟩) [0, 3] [3, 100000, 100001] hN (.cons (sok_box (U := Un) (rs := [(1, .p (.named 3) a1)]) (d := 3) (us := [.p .str a1.f_Name, .p .str a1.f_Content, .p I6 a1.f_Time]) rfl rfl rfl o0 (.data (.named (us := ([.p .str a1.f_Name, .p .str a1.f_Content, .p I6 a1.f_Time] : List (AVal Un))) (.pair (.one _ _) (.pair (.one _ _) (.pair (.one _ _) .unit))))) rfl (notin_of (by kernel_rfl))) (.cons (moU (rs := []) rfl (.inr rfl) (.lit _ _ rfl)) .nil)) (by kernel_rfl) (by kernel_rfl) (by kernel_rfl) (cvR _) ?_
  refine tnU ?_
  refine WpC.seq ?_
  refine WpC.regA (U := Un) (st1 := ⟨[(0, .loc 100000 0), (3, .loc 3 0), (6, .p .bool ((mget a1.f_Name a0).isSome : Bool))], [(3, .box [.p .str a1.f_Name, .p .str a1.f_Content, .p I6 a1.f_Time]), (100000, .box [.mp 100001]), (100001, .map (.named 3) a0)]⟩) [0, 3, 6] [3, 100000, 100001] [[], [0], [0, 1], [0, 1, 2], [], [4], [0, 1, 2, 3, 4, 5], [0, 1, 2, 3, 4, 5, 6], [0, 1, 2, 3, 4, 5, 6, 7], [0, 1, 2, 3, 4, 5, 6, 7], [], [0, 1, 2, 3, 4, 5, 6, 7, 8, 10], [0, 1, 2, 3, 4, 5, 6, 7, 8, 9, 10, 11]] mixed hN (.cons (mvU (v := .loc 100000 0) rfl rfl) (.cons (nlU (rs := [(8, .loc 100000 0)]) rfl rfl o0 rfl) (.cons (fdB (rs := [(9, .loc 100000 0)]) rfl rfl fd_89_0 (by decide) o0) (.cons (ldB (t := .bool) (rs := [(10, .loc 100000 0)]) [] [.mp 100001] [] (v := .mp 100001) rfl rfl ty1_86 o0 rfl rfl rfl rfl (.hand rfl rfl)) (.cons (fdB (rs := [(3, .loc 3 0)]) rfl rfl fd_24_0 (by decide) o0) (.cons (ldB (t := .str) (rs := [(12, .loc 3 0)]) [] [.p .str a1.f_Name] [.p .str a1.f_Content, .p I6 a1.f_Time] (v := .p .str a1.f_Name) rfl rfl ty_9 o0 rfl rfl rfl rfl (.data (.one _ _))) (.cons (sok_lookup2 (U := Un) (t := .named 3) (kvs := a0) (rs := [(11, .mp 100001), (13, .p .str a1.f_Name)]) rfl rfl map_86 zv_24 o0 o1) (.cons (mvU (v := .tup [.p (.named 3) (((mget a1.f_Name a0).getD (T_tree_File.mk [] [] 0)) : T_tree_File), .p .bool ((mget a1.f_Name a0).isSome : Bool)]) rfl rfl) (.cons (exU (rs := [(7, .tup [.p (.named 3) (((mget a1.f_Name a0).getD (T_tree_File.mk [] [] 0)) : T_tree_File), .p .bool ((mget a1.f_Name a0).isSome : Bool)])]) rfl rfl o0 rfl) (.cons (exU (rs := [(7, .tup [.p (.named 3) (((mget a1.f_Name a0).getD (T_tree_File.mk [] [] 0)) : T_tree_File), .p .bool ((mget a1.f_Name a0).isSome : Bool)])]) rfl rfl o0 rfl) (.cons (sok_allocZ (U := Un) (rs := []) (d := 5) (us := [.p .str ([] : List UInt8), .p .str ([] : List UInt8), .p I6 (0 : Int)]) (v := (.agg #[.string ByteArray.empty, .string ByteArray.empty, .int .i64 0])) rfl rfl rfl (by kernel_rfl) rfl (.data (fun _ _ _ => rd_str0) (.data (fun _ _ _ => rd_str0) (.data (fun _ _ _ => .int _ _) .nil))) (by kernel_rfl)) (.cons (sok_storeB (U := Un) (rs := [(5, .loc 5 0), (15, .p (.named 3) (((mget a1.f_Name a0).getD (T_tree_File.mk [] [] 0)) : T_tree_File))]) (v := .p (.named 3) (((mget a1.f_Name a0).getD (T_tree_File.mk [] [] 0)) : T_tree_File)) (mid' := [.p .str (((mget a1.f_Name a0).getD (T_tree_File.mk [] [] 0)).f_Name : List UInt8), .p .str (((mget a1.f_Name a0).getD (T_tree_File.mk [] [] 0)).f_Content : List UInt8), .p I6 (((mget a1.f_Name a0).getD (T_tree_File.mk [] [] 0)).f_Time : Int)]) [] [.p .str ([] : List UInt8), .p .str ([] : List UInt8), .p I6 (0 : Int)] [] rfl rfl rfl ty_24 o0 o1 (.data (.named (us := ([.p .str (((mget a1.f_Name a0).getD (T_tree_File.mk [] [] 0)).f_Name : List UInt8), .p .str (((mget a1.f_Name a0).getD (T_tree_File.mk [] [] 0)).f_Content : List UInt8), .p I6 (((mget a1.f_Name a0).getD (T_tree_File.mk [] [] 0)).f_Time : Int)] : List (AVal Un))) (.pair (.one _ _) (.pair (.one _ _) (.pair (.one _ _) .unit))))) rfl rfl rfl rfl rfl rfl) (.cons (mvA (v := .p .bool ((mget a1.f_Name a0).isSome : Bool)) rfl rfl) .nil))))))))))))) (by kernel_rfl) (by kernel_rfl) (by kernel_rfl) (by kernel_rfl) (by kernel_rfl) (cvR _) ?_
  refine tnU ?_
  refine sqJ (fun st' => tree_Tree_may_m0.j1 k a0 = some out ∧ st' = ⟨[], [(100000, .box [.mp 100001]), (100001, .map (.named 3) a0)]⟩) ?_ ?_
  · refine WpC.block ?_
    refine WpC.seq ?_
    obtain ⟨v2, hv2, h⟩ := bind_some h
    refine rgU (st1 := ⟨[(0, .loc 100000 0), (3, .loc 3 0), (6, .p .bool ((mget a1.f_Name a0).isSome : Bool)), (17, .p .bool ((!v2) : Bool))], [(3, .box [.p .str a1.f_Name, .p .str a1.f_Content, .p I6 a1.f_Time]), (100000, .box [.mp 100001]), (100001, .map (.named 3) a0)]⟩) [0, 3, 6, 17] [3, 100000, 100001] hN (.cons (fdB (rs := [(3, .loc 3 0)]) rfl rfl fd_24_0 (by decide) o0) (.cons (ldB (t := .str) (rs := [(18, .loc 3 0)]) [] [.p .str a1.f_Name] [.p .str a1.f_Content, .p I6 a1.f_Time] (v := .p .str a1.f_Name) rfl rfl ty_9 o0 rfl rfl rfl rfl (.data (.one _ _))) (.cons (caV (rs := [(19, .p .str a1.f_Name)]) (vw := []) rfl rfl (.func _) hb_68 (names_Right.ok O hO k a1.f_Name v2 hv2) (.cons o0 .nil) (.cons (.same _) .nil) (by simp) (.inl rfl)) (.cons (sok_not (U := Un) (rs := [(20, .p .bool v2)]) rfl rfl o0) (.cons (mvA (v := .p .bool ((!v2) : Bool)) rfl rfl) .nil))))) (by kernel_rfl) (by kernel_rfl) (by kernel_rfl) (cvR _) ?_
    refine tnU ?_
    refine cdU (b := (!v2)) (.tmp (.tail _ (.tail _ (.tail _ (.head _))))) (fun hc3 => ?_) (fun hc3 => ?_)
    · replace h := ite_t hc3 h
      refine WpC.seq ?_
      refine rgU (st1 := ⟨[(4, .p .err (4 : Nat))], [(100000, .box [.mp 100001]), (100001, .map (.named 3) a0)]⟩) [4] [100000, 100001] hN (.cons (sok_loadG (U := Un) (t := .err) (rs := []) rfl rfl ty_31 rfl rfl (hO.var 3 3 rfl) (fun S w => .err 3)) (.cons (mvA (v := .p .err (4 : Nat)) rfl rfl) .nil)) (by kernel_rfl) (by kernel_rfl) (by kernel_rfl) (cvR _) ?_
      refine tnU ?_
      refine WpC.ret ?_
      refine blockQ_ret ?_
      refine thenQ_ret ?_
      have hq := Option.some.inj h
      subst hq
      exact ends_ret (retV_1 rfl (.head _)) (ain_cons (.head _) (ain_cons (.tail _ (.head _)) ain_nil))
    · replace h := ite_f hc3 h
      refine WpC.seq ?_
      refine rgU (st1 := ⟨[(0, .loc 100000 0), (3, .loc 3 0), (6, .p .bool ((mget a1.f_Name a0).isSome : Bool)), (23, .p .bool ((decide ((a1.f_Content.length : Int) > 900)) : Bool))], [(3, .box [.p .str a1.f_Name, .p .str a1.f_Content, .p I6 a1.f_Time]), (100000, .box [.mp 100001]), (100001, .map (.named 3) a0)]⟩) [0, 3, 6, 23] [3, 100000, 100001] hN (.cons (fdB (rs := [(3, .loc 3 0)]) rfl rfl fd_24_1 (by decide) o0) (.cons (ldB (t := .str) (rs := [(24, .loc 3 1)]) [.p .str a1.f_Name] [.p .str a1.f_Content] [.p I6 a1.f_Time] (v := .p .str a1.f_Content) rfl rfl ty_9 o0 rfl rfl rfl rfl (.data (.one _ _))) (.cons (sok_lenS (U := Un) (rs := [(25, .p .str a1.f_Content)]) rfl rfl Tryd.underlying9 o0) (.cons (cmU (rs := [(26, .p I6 ((a1.f_Content.length : Int) : Int))]) rfl rfl o0 (.int _ _ _) rfl) (.cons (mvA (v := .p .bool ((decide ((a1.f_Content.length : Int) > 900)) : Bool)) rfl rfl) .nil))))) (by kernel_rfl) (by kernel_rfl) (by kernel_rfl) (cvR _) ?_
      refine tnU ?_
      refine cdU (b := (decide ((a1.f_Content.length : Int) > 900))) (.tmp (.tail _ (.tail _ (.tail _ (.head _))))) (fun hc4 => ?_) (fun hc4 => ?_)
      · replace h := ite_t hc4 h
        refine WpC.seq ?_
        refine rgU (st1 := ⟨[(4, .p .err (2 : Nat))], [(100000, .box [.mp 100001]), (100001, .map (.named 3) a0)]⟩) [4] [100000, 100001] hN (.cons (sok_loadG (U := Un) (t := .err) (rs := []) rfl rfl ty_31 rfl rfl (hO.var 1 4 rfl) (fun S w => .err 1)) (.cons (mvA (v := .p .err (2 : Nat)) rfl rfl) .nil)) (by kernel_rfl) (by kernel_rfl) (by kernel_rfl) (cvR _) ?_
        refine tnU ?_
        refine WpC.ret ?_
        refine blockQ_ret ?_
        refine thenQ_ret ?_
        have hq := Option.some.inj h
        subst hq
        exact ends_ret (retV_1 rfl (.head _)) (ain_cons (.head _) (ain_cons (.tail _ (.head _)) ain_nil))
      · replace h := ite_f hc4 h
        refine sqJ (fun st' => ∃ v5 : Bool, tree_Tree_may_m0.j11 k a0 a1 v5 = some out ∧ st' = ⟨[(0, .loc 100000 0), (6, .p .bool ((mget a1.f_Name a0).isSome : Bool)), (29, .p .bool v5)], [(100000, .box [.mp 100001]), (100001, .map (.named 3) a0)]⟩) ?_ ?_
        · rcases bool_cases (decide (a1.f_Time < 1)) with hc12 | hc12
          · replace h := ite_t hc12 h
            refine rgU (st1 := ⟨[(0, .loc 100000 0), (6, .p .bool ((mget a1.f_Name a0).isSome : Bool)), (29, .p .bool true)], [(100000, .box [.mp 100001]), (100001, .map (.named 3) a0)]⟩) [0, 6, 29] [100000, 100001] hN (.cons (fdB (rs := [(3, .loc 3 0)]) rfl rfl fd_24_2 (by decide) o0) (.cons (ldB (t := .int .i64) (rs := [(30, .loc 3 2)]) [.p .str a1.f_Name, .p .str a1.f_Content] [.p I6 a1.f_Time] [] (v := .p I6 a1.f_Time) rfl rfl ty_3 o0 rfl rfl rfl rfl (.data (.one _ _))) (.cons (cmU (rs := [(31, .p I6 a1.f_Time)]) rfl rfl o0 (.int _ _ _) rfl) (.cons (mvU (v := .p .bool ((decide (a1.f_Time < 1)) : Bool)) rfl rfl) (.cons (skU rfl rfl hc12) (.cons (skU rfl rfl hc12) (.cons (skU rfl rfl hc12) (.cons (pkT (rs := [(33, .p .bool ((decide (a1.f_Time < 1)) : Bool))]) rfl rfl o0 hc12 (.bool _ _)) (.cons (mvA (v := .p .bool true) rfl rfl) .nil))))))))) (by kernel_rfl) (by kernel_rfl) (by kernel_rfl) (cvR _) ?_
            refine tnU ?_
            exact ⟨true, h, rfl⟩
          · replace h := ite_f hc12 h
            refine rgU (st1 := ⟨[(0, .loc 100000 0), (6, .p .bool ((mget a1.f_Name a0).isSome : Bool)), (29, .p .bool ((decide (a1.f_Time > 549755813888)) : Bool))], [(100000, .box [.mp 100001]), (100001, .map (.named 3) a0)]⟩) [0, 6, 29] [100000, 100001] hN (.cons (fdB (rs := [(3, .loc 3 0)]) rfl rfl fd_24_2 (by decide) o0) (.cons (ldB (t := .int .i64) (rs := [(30, .loc 3 2)]) [.p .str a1.f_Name, .p .str a1.f_Content] [.p I6 a1.f_Time] [] (v := .p I6 a1.f_Time) rfl rfl ty_3 o0 rfl rfl rfl rfl (.data (.one _ _))) (.cons (cmU (rs := [(31, .p I6 a1.f_Time)]) rfl rfl o0 (.int _ _ _) rfl) (.cons (mvU (v := .p .bool ((decide (a1.f_Time < 1)) : Bool)) rfl rfl) (.cons (sok_run rfl rfl hc12 (fdB (rs := [(3, .loc 3 0)]) rfl rfl fd_24_2 (by decide) o0)) (.cons (sok_run rfl rfl hc12 (ldB (t := .int .i64) (rs := [(34, .loc 3 2)]) [.p .str a1.f_Name, .p .str a1.f_Content] [.p I6 a1.f_Time] [] (v := .p I6 a1.f_Time) rfl rfl ty_3 o0 rfl rfl rfl rfl (.data (.one _ _)))) (.cons (sok_run rfl rfl hc12 (cmU (rs := [(35, .p I6 a1.f_Time)]) rfl rfl o0 (.int _ _ _) rfl)) (.cons (pkF (rs := [(33, .p .bool ((decide (a1.f_Time < 1)) : Bool)), (36, .p .bool ((decide (a1.f_Time > 549755813888)) : Bool))]) rfl rfl o0 hc12 o1) (.cons (mvA (v := .p .bool ((decide (a1.f_Time > 549755813888)) : Bool)) rfl rfl) .nil))))))))) (by kernel_rfl) (by kernel_rfl) (by kernel_rfl) (cvR _) ?_
            refine tnU ?_
            exact ⟨(decide (a1.f_Time > 549755813888)), h, rfl⟩
        · rintro _ ⟨v5, h, rfl⟩
          unfold tree_Tree_may_m0.j11 at h
          refine cdU (b := v5) (.tmp (.tail _ (.tail _ (.head _)))) (fun hc6 => ?_) (fun hc6 => ?_)
          · replace h := ite_t hc6 h
            refine WpC.seq ?_
            refine rgU (st1 := ⟨[(4, .p .err (1 : Nat))], [(100000, .box [.mp 100001]), (100001, .map (.named 3) a0)]⟩) [4] [100000, 100001] hN (.cons (sok_loadG (U := Un) (t := .err) (rs := []) rfl rfl ty_31 rfl rfl (hO.var 0 5 rfl) (fun S w => .err 0)) (.cons (mvA (v := .p .err (1 : Nat)) rfl rfl) .nil)) (by kernel_rfl) (by kernel_rfl) (by kernel_rfl) (cvR _) ?_
            refine tnU ?_
            refine WpC.ret ?_
            refine blockQ_ret ?_
            refine thenQ_ret ?_
            have hq := Option.some.inj h
            subst hq
            exact ends_ret (retV_1 rfl (.head _)) (ain_cons (.head _) (ain_cons (.tail _ (.head _)) ain_nil))
          · replace h := ite_f hc6 h
            refine sqJ (fun st' => ∃ v7 : Bool, tree_Tree_may_m0.j9 k a0 v7 = some out ∧ st' = ⟨[(39, .p .bool v7)], [(100000, .box [.mp 100001]), (100001, .map (.named 3) a0)]⟩) ?_ ?_
            · rcases bool_cases (!((mget a1.f_Name a0).isSome)) with hc10 | hc10
              · replace h := ite_t hc10 h
                refine rgU (st1 := ⟨[(39, .p .bool ((decide ((a0.length : Int) ≥ 40)) : Bool))], [(100000, .box [.mp 100001]), (100001, .map (.named 3) a0)]⟩) [39] [100000, 100001] hN (.cons (mvU (v := .p .bool ((mget a1.f_Name a0).isSome : Bool)) rfl rfl) (.cons (sok_not (U := Un) (rs := [(40, .p .bool ((mget a1.f_Name a0).isSome : Bool))]) rfl rfl o0) (.cons (mvU (v := .p .bool ((!((mget a1.f_Name a0).isSome)) : Bool)) rfl rfl) (.cons (sok_run rfl rfl hc10 (mvU (v := .loc 100000 0) rfl rfl)) (.cons (sok_run rfl rfl hc10 (nlU (rs := [(43, .loc 100000 0)]) rfl rfl o0 rfl)) (.cons (sok_run rfl rfl hc10 (fdB (rs := [(44, .loc 100000 0)]) rfl rfl fd_89_0 (by decide) o0)) (.cons (sok_run rfl rfl hc10 (ldB (t := .bool) (rs := [(45, .loc 100000 0)]) [] [.mp 100001] [] (v := .mp 100001) rfl rfl ty1_86 o0 rfl rfl rfl rfl (.hand rfl rfl))) (.cons (sok_run rfl rfl hc10 (sok_lenM (U := Un) (t := .named 3) (kvs := a0) (rs := [(46, .mp 100001)]) rfl rfl map_86 o0)) (.cons (sok_run rfl rfl hc10 (cmU (rs := [(47, .p I6 ((a0.length : Int) : Int))]) rfl rfl o0 (.int _ _ _) rfl)) (.cons (pkT (rs := [(42, .p .bool ((!((mget a1.f_Name a0).isSome)) : Bool)), (48, .p .bool ((decide ((a0.length : Int) ≥ 40)) : Bool))]) rfl rfl o0 hc10 o1) (.cons (mvA (v := .p .bool ((decide ((a0.length : Int) ≥ 40)) : Bool)) rfl rfl) .nil))))))))))) (by kernel_rfl) (by kernel_rfl) (by kernel_rfl) (cvR _) ?_
                refine tnU ?_
                exact ⟨(decide ((a0.length : Int) ≥ 40)), h, rfl⟩
              · replace h := ite_f hc10 h
                refine rgU (st1 := ⟨[(39, .p .bool false)], [(100000, .box [.mp 100001]), (100001, .map (.named 3) a0)]⟩) [39] [100000, 100001] hN (.cons (mvU (v := .p .bool ((mget a1.f_Name a0).isSome : Bool)) rfl rfl) (.cons (sok_not (U := Un) (rs := [(40, .p .bool ((mget a1.f_Name a0).isSome : Bool))]) rfl rfl o0) (.cons (mvU (v := .p .bool ((!((mget a1.f_Name a0).isSome)) : Bool)) rfl rfl) (.cons (skU rfl rfl hc10) (.cons (skU rfl rfl hc10) (.cons (skU rfl rfl hc10) (.cons (skU rfl rfl hc10) (.cons (skU rfl rfl hc10) (.cons (skU rfl rfl hc10) (.cons (pkF (rs := [(42, .p .bool ((!((mget a1.f_Name a0).isSome)) : Bool))]) rfl rfl o0 hc10 (.bool _ _)) (.cons (mvA (v := .p .bool false) rfl rfl) .nil))))))))))) (by kernel_rfl) (by kernel_rfl) (by kernel_rfl) (cvR _) ?_
                refine tnU ?_
                exact ⟨false, h, rfl⟩
            · rintro _ ⟨v7, h, rfl⟩
              unfold tree_Tree_may_m0.j9 at h
              refine cdU (b := v7) o0 (fun hc8 => ?_) (fun hc8 => ?_)
              · replace h := ite_t hc8 h
                refine WpC.seq ?_
                refine rgU (st1 := ⟨[(4, .p .err (10 : Nat))], [(100000, .box [.mp 100001]), (100001, .map (.named 3) a0)]⟩) [4] [100000, 100001] hN (.cons (sok_loadG (U := Un) (t := .err) (rs := []) rfl rfl ty_31 rfl rfl (hO.var 9 6 rfl) (fun S w => .err 9)) (.cons (mvA (v := .p .err (10 : Nat)) rfl rfl) .nil)) (by kernel_rfl) (by kernel_rfl) (by kernel_rfl) (cvR _) ?_
                refine tnU ?_
                refine WpC.ret ?_
                refine blockQ_ret ?_
                refine thenQ_ret ?_
                have hq := Option.some.inj h
                subst hq
                exact ends_ret (retV_1 rfl (.head _)) (ain_cons (.head _) (ain_cons (.tail _ (.head _)) ain_nil))
              · replace h := ite_f hc8 h
                refine WpC.conv (cvK (b := ⟨[], [(100000, .box [.mp 100001]), (100001, .map (.named 3) a0)]⟩) [] [100000, 100001] (by kernel_rfl)) (WpC.skip ?_)
                refine blockQ_normal ?_
                refine tnU ?_
                exact ⟨h, rfl⟩
  · rintro _ ⟨h, rfl⟩
    unfold tree_Tree_may_m0.j1 at h
    refine WpC.seq ?_
    refine rgU (st1 := ⟨[(4, .lit .nilIface)], [(100000, .box [.mp 100001]), (100001, .map (.named 3) a0)]⟩) [4] [100000, 100001] hN (.cons (moU (rs := []) rfl (.inr rfl) (.lit _ _ rfl)) .nil) (by kernel_rfl) (by kernel_rfl) (by kernel_rfl) (cvR _) ?_
    refine tnU ?_
    refine WpC.conv (cvT (Conv.nilE (U := Un) 4 (.head _)) (cvK (b := ⟨[(4, .p .err (0 : Nat))], [(100000, .box [.mp 100001]), (100001, .map (.named 3) a0)]⟩) [4] [100000, 100001] (by kernel_rfl))) (WpC.ret ?_)
    have hq := Option.some.inj h
    subst hq
    exact ends_ret (retV_1 rfl (.head _)) (ain_cons (.head _) (ain_cons (.tail _ (.head _)) ain_nil))

theorem tree_Tree_Put_m0.ok (O : Out) (hO : GOk O) (k : Nat) (a0 : List ((List UInt8) × T_tree_File)) (a1 : List UInt8) (a2 : List UInt8) (a3 : Int) (out : Nat × (List ((List UInt8) × T_tree_File))) (h : tree_Tree_Put_m0.f k a0 a1 a2 a3 = some out) : COk Un O Tryd.prog 13 { ar := [.loc 100000 0, .p .str a1, .p .str a2, .p I6 a3], r := .p .err out.1, bs := [(100000, .box [.mp 100001]), (100001, .map (.named 3) a0)], bs' := [(100000, .box [.mp 100001]), (100001, .map (.named 3) out.2)] } := by
  refine cok_of_wp Tryd.func13 rfl (k := 27) rfl (Nat.le_of_ble_eq_true rfl) (namesOk_of (by kernel_rfl)) ?_
  intro B hN
  refine WpC.conv (cvK (b := ⟨[(0, .loc 100000 0), (1, .p .str a1), (2, .p .str a2), (3, .p I6 a3)], [(100000, .box [.mp 100001]), (100001, .map (.named 3) a0)]⟩) [0, 1, 2, 3] [100000, 100001] (by kernel_rfl)) ?_
  unfold tree_Tree_Put_m0.f at h
  refine WpC.seq ?_
  refine rgU (st1 := ⟨[(0, .loc 100000 0), (1, .p .str a1), (2, .p .str a2), (3, .p I6 a3)], [(100000, .box [.mp 100001]), (100001, .map (.named 3) a0)]⟩) [0, 1, 2, 3] [100000, 100001] hN (.cons (moU (rs := []) rfl (.inr rfl) (.lit _ _ rfl)) .nil) (by kernel_rfl) (by kernel_rfl) (by kernel_rfl) (cvR _) ?_
  refine tnU ?_
  refine WpC.seq ?_
  refine rgU (st1 := ⟨[(0, .loc 100000 0), (1, .p .str a1), (9, .loc 9 0)], [(9, .box [.p .str a1, .p .str a2, .p I6 a3]), (100000, .box [.mp 100001]), (100001, .map (.named 3) a0)]⟩) [0, 1, 9] [9, 100000, 100001] hN (.cons (mvU (v := .p .str a1) rfl rfl) (.cons (mvU (v := .p .str a2) rfl rfl) (.cons (mvU (v := .p I6 a3) rfl rfl) (.cons (sok_build (U := Un) (t := .named 3) (rs := [(11, .p .str a1), (12, .p .str a2), (13, .p I6 a3)]) (us0 := [.p .str ([] : List UInt8), .p .str ([] : List UInt8), .p I6 (0 : Int)]) (us := [.p .str a1, .p .str a2, .p I6 a3]) (v := .p (.named 3) ((T_tree_File.mk a1 a2 a3) : T_tree_File)) rfl rfl lays_24 (.data (fun _ _ _ => rd_str0) (.data (fun _ _ _ => rd_str0) (.data (fun _ _ _ => .int _ _) .nil))) (Filled.cons (U := Un) (i := 0) (v := .p .str a1) [] [.p .str ([] : List UInt8)] [.p .str a1] [.p .str ([] : List UInt8), .p I6 (0 : Int)] o0 (.data (.one _ _)) rfl rfl rfl rfl rfl rfl (Filled.cons (U := Un) (i := 1) (v := .p .str a2) [.p .str a1] [.p .str ([] : List UInt8)] [.p .str a2] [.p I6 (0 : Int)] o1 (.data (.one _ _)) rfl rfl rfl rfl rfl rfl (Filled.cons (U := Un) (i := 2) (v := .p I6 a3) [.p .str a1, .p .str a2] [.p I6 (0 : Int)] [.p I6 a3] [] (.tmp (.tail _ (.tail _ (.head _)))) (.data (.one _ _)) rfl rfl rfl rfl rfl rfl (.nil _)))) rfl (.data (.named (us := ([.p .str a1, .p .str a2, .p I6 a3] : List (AVal Un))) (.pair (.one _ _) (.pair (.one _ _) (.pair (.one _ _) .unit)))))) (.cons (sok_allocZ (U := Un) (rs := []) (d := 9) (us := [.p .str ([] : List UInt8), .p .str ([] : List UInt8), .p I6 (0 : Int)]) (v := (.agg #[.string ByteArray.empty, .string ByteArray.empty, .int .i64 0])) rfl rfl rfl (by kernel_rfl) rfl (.data (fun _ _ _ => rd_str0) (.data (fun _ _ _ => rd_str0) (.data (fun _ _ _ => .int _ _) .nil))) (by kernel_rfl)) (.cons (sok_storeB (U := Un) (rs := [(9, .loc 9 0), (14, .p (.named 3) ((T_tree_File.mk a1 a2 a3) : T_tree_File))]) (v := .p (.named 3) ((T_tree_File.mk a1 a2 a3) : T_tree_File)) (mid' := [.p .str a1, .p .str a2, .p I6 a3]) [] [.p .str ([] : List UInt8), .p .str ([] : List UInt8), .p I6 (0 : Int)] [] rfl rfl rfl ty_24 o0 o1 (.data (.named (us := ([.p .str a1, .p .str a2, .p I6 a3] : List (AVal Un))) (.pair (.one _ _) (.pair (.one _ _) (.pair (.one _ _) .unit))))) rfl rfl rfl rfl rfl rfl) .nil)))))) (by kernel_rfl) (by kernel_rfl) (by kernel_rfl) (cvR _) ?_
  refine tnU ?_
  refine WpC.seq ?_
  refine WpC.seq ?_
  obtain ⟨v1, hv1, h⟩ := bind_some h
  refine rgU (st1 := ⟨[(0, .loc 100000 0), (1, .p .str a1), (9, .loc 9 0), (10, .p .err v1)], [(9, .box [.p .str a1, .p .str a2, .p I6 a3]), (100000, .box [.mp 100001]), (100001, .map (.named 3) a0)]⟩) [0, 1, 9, 10] [9, 100000, 100001] hN (.cons (mvU (v := .loc 100000 0) rfl rfl) (.cons (ldB (t := .named 3) (rs := [(9, .loc 9 0)]) [] [.p .str a1, .p .str a2, .p I6 a3] [] (v := .p (.named 3) ((T_tree_File.mk a1 a2 a3) : T_tree_File)) rfl rfl ty_24 o0 rfl rfl rfl rfl (.data (.named (us := ([.p .str a1, .p .str a2, .p I6 a3] : List (AVal Un))) (.pair (.one _ _) (.pair (.one _ _) (.pair (.one _ _) .unit)))))) (.cons (caV (rs := [(15, .loc 100000 0), (16, .p (.named 3) ((T_tree_File.mk a1 a2 a3) : T_tree_File))]) (vw := []) rfl rfl (.func _) hb_51 (COk.ren (tree_Tree_may_m0.ok O hO k a0 (T_tree_File.mk a1 a2 a3) v1 hv1) (fun n => if n = 100000 then 100000 else if n = 100001 then 100001 else n) (injOn_of (by kernel_rfl))) (.cons o0 (.cons o1 .nil)) (.cons (.same _) (.cons (.same _) .nil)) (by simp) (.inl rfl)) (.cons (mvA (v := .p .err v1) rfl rfl) .nil)))) (by kernel_rfl) (by kernel_rfl) (by kernel_rfl) (cvR _) ?_
  refine tnU ?_
  refine WpC.seq ?_
  refine rgU (st1 := ⟨[(0, .loc 100000 0), (1, .p .str a1), (9, .loc 9 0), (10, .p .err v1), (19, .p .bool ((!(v1 == 0)) : Bool))], [(9, .box [.p .str a1, .p .str a2, .p I6 a3]), (100000, .box [.mp 100001]), (100001, .map (.named 3) a0)]⟩) [0, 1, 9, 10, 19] [9, 100000, 100001] hN (.cons (mvU (v := .p .err v1) rfl rfl) (.cons (sok_errNil (U := Un) (rs := [(18, .p .err v1)]) rfl rfl Tryd.underlying31 o0 rfl) .nil)) (by kernel_rfl) (by kernel_rfl) (by kernel_rfl) (cvR _) ?_
  refine tnU ?_
  refine cdU (b := (!(v1 == 0))) (.tmp (.tail _ (.tail _ (.tail _ (.tail _ (.head _)))))) (fun hc2 => ?_) (fun hc2 => ?_)
  · replace h := ite_t hc2 h
    refine WpC.seq ?_
    refine rgU (st1 := ⟨[(8, .p .err v1)], [(100000, .box [.mp 100001]), (100001, .map (.named 3) a0)]⟩) [8] [100000, 100001] hN (.cons (mvU (v := .p .err v1) rfl rfl) (.cons (mvA (v := .p .err v1) rfl rfl) .nil)) (by kernel_rfl) (by kernel_rfl) (by kernel_rfl) (cvR _) ?_
    refine tnU ?_
    refine WpC.ret ?_
    refine thenQ_ret ?_
    have hq := Option.some.inj h
    subst hq
    exact ends_ret (retV_1 rfl (.head _)) (ain_cons (.head _) (ain_cons (.tail _ (.head _)) ain_nil))
  · replace h := ite_f hc2 h
    refine WpC.conv (cvK (b := ⟨[(0, .loc 100000 0), (1, .p .str a1), (9, .loc 9 0)], [(9, .box [.p .str a1, .p .str a2, .p I6 a3]), (100000, .box [.mp 100001]), (100001, .map (.named 3) a0)]⟩) [0, 1, 9] [9, 100000, 100001] (by kernel_rfl)) (WpC.skip ?_)
    refine tnU ?_
    refine WpC.seq ?_
    refine WpC.regA (U := Un) (st1 := ⟨[], [(100000, .box [.mp 100001]), (100001, .map (.named 3) ((mput a1 (T_tree_File.mk a1 a2 a3) a0) : List ((List UInt8) × T_tree_File)))]⟩) [] [100000, 100001] [[], [0], [0, 1], [0, 1, 2], [], [], [0, 1, 2, 3, 4, 5]] mixed hN (.cons (mvU (v := .loc 100000 0) rfl rfl) (.cons (nlU (rs := [(21, .loc 100000 0)]) rfl rfl o0 rfl) (.cons (fdB (rs := [(22, .loc 100000 0)]) rfl rfl fd_89_0 (by decide) o0) (.cons (ldB (t := .bool) (rs := [(23, .loc 100000 0)]) [] [.mp 100001] [] (v := .mp 100001) rfl rfl ty1_86 o0 rfl rfl rfl rfl (.hand rfl rfl)) (.cons (mvU (v := .p .str a1) rfl rfl) (.cons (ldB (t := .named 3) (rs := [(9, .loc 9 0)]) [] [.p .str a1, .p .str a2, .p I6 a3] [] (v := .p (.named 3) ((T_tree_File.mk a1 a2 a3) : T_tree_File)) rfl rfl ty_24 o0 rfl rfl rfl rfl (.data (.named (us := ([.p .str a1, .p .str a2, .p I6 a3] : List (AVal Un))) (.pair (.one _ _) (.pair (.one _ _) (.pair (.one _ _) .unit)))))) (.cons (sok_mapUpdate (U := Un) (t := .named 3) (kvs := a0) (rs := [(24, .mp 100001), (25, .p .str a1), (26, .p (.named 3) ((T_tree_File.mk a1 a2 a3) : T_tree_File))]) rfl rfl rfl map_86 o0 o1 (.tmp (.tail _ (.tail _ (.head _))))) .nil))))))) (by kernel_rfl) (by kernel_rfl) (by kernel_rfl) (by kernel_rfl) (by kernel_rfl) (cvR _) ?_
    refine tnU ?_
    refine WpC.seq ?_
    refine rgU (st1 := ⟨[(8, .lit .nilIface)], [(100000, .box [.mp 100001]), (100001, .map (.named 3) ((mput a1 (T_tree_File.mk a1 a2 a3) a0) : List ((List UInt8) × T_tree_File)))]⟩) [8] [100000, 100001] hN (.cons (moU (rs := []) rfl (.inr rfl) (.lit _ _ rfl)) .nil) (by kernel_rfl) (by kernel_rfl) (by kernel_rfl) (cvR _) ?_
    refine tnU ?_
    refine WpC.conv (cvT (Conv.nilE (U := Un) 8 (.head _)) (cvK (b := ⟨[(8, .p .err (0 : Nat))], [(100000, .box [.mp 100001]), (100001, .map (.named 3) ((mput a1 (T_tree_File.mk a1 a2 a3) a0) : List ((List UInt8) × T_tree_File)))]⟩) [8] [100000, 100001] (by kernel_rfl))) (WpC.ret ?_)
    have hq := Option.some.inj h
    subst hq
    exact ends_ret (retV_1 rfl (.head _)) (ain_cons (.head _) (ain_cons (.tail _ (.head _)) ain_nil))

theorem tree_Tree_Touch_m0.ok (O : Out) (hO : GOk O) (k : Nat) (a0 : List ((List UInt8) × T_tree_File)) (a1 : List UInt8) (a2 : Int) (out : Nat × (List ((List UInt8) × T_tree_File))) (h : tree_Tree_Touch_m0.f k a0 a1 a2 = some out) : COk Un O Tryd.prog 14 { ar := [.loc 100000 0, .p .str a1, .p I6 a2], r := .p .err out.1, bs := [(100000, .box [.mp 100001]), (100001, .map (.named 3) a0)], bs' := [(100000, .box [.mp 100001]), (100001, .map (.named 3) out.2)] } := by
  refine cok_of_wp Tryd.func14 rfl (k := 18) rfl (Nat.le_of_ble_eq_true rfl) (namesOk_of (by kernel_rfl)) ?_
  intro B hN
  refine WpC.conv (cvK (b := ⟨[(0, .loc 100000 0), (1, .p .str a1), (2, .p I6 a2)], [(100000, .box [.mp 100001]), (100001, .map (.named 3) a0)]⟩) [0, 1, 2] [100000, 100001] (by kernel_rfl)) ?_
  unfold tree_Tree_Touch_m0.f at h
  refine WpC.seq ?_
  refine rgU (st1 := ⟨[(0, .loc 100000 0), (1, .p .str a1), (2, .p I6 a2)], [(100000, .box [.mp 100001]), (100001, .map (.named 3) a0)]⟩) [0, 1, 2] [100000, 100001] hN (.cons (moU (rs := []) rfl (.inr rfl) (.lit _ _ rfl)) .nil) (by kernel_rfl) (by kernel_rfl) (by kernel_rfl) (cvR _) ?_
  refine tnU ?_
  refine WpC.seq ?_
  obtain ⟨v1, hv1, h⟩ := bind_some h
  refine rgU (st1 := ⟨[(6, .p .err v1.1)], [(100000, .box [.mp 100001]), (100001, .map (.named 3) v1.2)]⟩) [6] [100000, 100001] hN (.cons (mvU (v := .loc 100000 0) rfl rfl) (.cons (mvU (v := .p .str a1) rfl rfl) (.cons (mvU (v := .loc 100000 0) rfl rfl) (.cons (nlU (rs := [(9, .loc 100000 0)]) rfl rfl o0 rfl) (.cons (fdB (rs := [(10, .loc 100000 0)]) rfl rfl fd_89_0 (by decide) o0) (.cons (ldB (t := .bool) (rs := [(11, .loc 100000 0)]) [] [.mp 100001] [] (v := .mp 100001) rfl rfl ty1_86 o0 rfl rfl rfl rfl (.hand rfl rfl)) (.cons (mvU (v := .p .str a1) rfl rfl) (.cons (sok_lookup (U := Un) (t := .named 3) (kvs := a0) (rs := [(12, .mp 100001), (13, .p .str a1)]) rfl rfl map_86 zv_24 o0 o1) (.cons (sok_field (U := Un) (rs := [(14, .p (.named 3) (((mget a1 a0).getD (T_tree_File.mk [] [] 0)) : T_tree_File))]) rfl rfl fd_24_1 rfl o0 (.named (.snd (.fst (.here _ _)) rfl))) (.cons (mvU (v := .p I6 a2) rfl rfl) (.cons (caV (rs := [(7, .loc 100000 0), (8, .p .str a1), (15, .p .str (((mget a1 a0).getD (T_tree_File.mk [] [] 0)).f_Content : List UInt8)), (16, .p I6 a2)]) (vw := []) rfl rfl (.func _) hb_13 (COk.ren (tree_Tree_Put_m0.ok O hO k a0 a1 (((mget a1 a0).getD (T_tree_File.mk [] [] 0)).f_Content) a2 v1 hv1) (fun n => if n = 100000 then 100000 else if n = 100001 then 100001 else n) (injOn_of (by kernel_rfl))) (.cons o0 (.cons o1 (.cons (.tmp (.tail _ (.tail _ (.head _)))) (.cons (.tmp (.tail _ (.tail _ (.tail _ (.head _))))) .nil)))) (.cons (.same _) (.cons (.same _) (.cons (.same _) (.cons (.same _) .nil)))) (by simp) (.inl rfl)) (.cons (mvA (v := .p .err v1.1) rfl rfl) .nil)))))))))))) (by kernel_rfl) (by kernel_rfl) (by kernel_rfl) (cvR _) ?_
  refine tnU ?_
  refine WpC.ret ?_
  have hq := Option.some.inj h
  subst hq
  exact ends_ret (retV_1 rfl (.head _)) (ain_cons (.head _) (ain_cons (.tail _ (.head _)) ain_nil))

theorem tree_Tree_Time_m0.ok (O : Out) (hO : GOk O) (k : Nat) (a0 : List ((List UInt8) × T_tree_File)) (a1 : List UInt8) (out : Int) (h : tree_Tree_Time_m0.f k a0 a1 = some out) : COk Un O Tryd.prog 24 { ar := [.loc 100000 0, .p .str a1], r := .p I6 out, bs := [(100000, .box [.mp 100001]), (100001, .map (.named 3) a0)], bs' := [(100000, .box [.mp 100001]), (100001, .map (.named 3) a0)] } := by
  refine cok_of_wp Tryd.func24 rfl (k := 12) rfl (Nat.le_of_ble_eq_true rfl) (namesOk_of (by kernel_rfl)) ?_
  intro B hN
  refine WpC.conv (cvK (b := ⟨[(0, .loc 100000 0), (1, .p .str a1)], [(100000, .box [.mp 100001]), (100001, .map (.named 3) a0)]⟩) [0, 1] [100000, 100001] (by kernel_rfl)) ?_
  unfold tree_Tree_Time_m0.f at h
  refine WpC.seq ?_
  refine rgU (st1 := ⟨[(0, .loc 100000 0), (1, .p .str a1)], [(100000, .box [.mp 100001]), (100001, .map (.named 3) a0)]⟩) [0, 1] [100000, 100001] hN (.cons (moU (rs := []) rfl (.inr rfl) (.int _ _ _)) .nil) (by kernel_rfl) (by kernel_rfl) (by kernel_rfl) (cvR _) ?_
  refine tnU ?_
  refine WpC.seq ?_
  refine rgU (st1 := ⟨[(4, .p I6 (((mget a1 a0).getD (T_tree_File.mk [] [] 0)).f_Time : Int))], [(100000, .box [.mp 100001]), (100001, .map (.named 3) a0)]⟩) [4] [100000, 100001] hN (.cons (mvU (v := .loc 100000 0) rfl rfl) (.cons (nlU (rs := [(5, .loc 100000 0)]) rfl rfl o0 rfl) (.cons (fdB (rs := [(6, .loc 100000 0)]) rfl rfl fd_89_0 (by decide) o0) (.cons (ldB (t := .bool) (rs := [(7, .loc 100000 0)]) [] [.mp 100001] [] (v := .mp 100001) rfl rfl ty1_86 o0 rfl rfl rfl rfl (.hand rfl rfl)) (.cons (mvU (v := .p .str a1) rfl rfl) (.cons (sok_lookup (U := Un) (t := .named 3) (kvs := a0) (rs := [(8, .mp 100001), (9, .p .str a1)]) rfl rfl map_86 zv_24 o0 o1) (.cons (sok_field (U := Un) (rs := [(10, .p (.named 3) (((mget a1 a0).getD (T_tree_File.mk [] [] 0)) : T_tree_File))]) rfl rfl fd_24_2 rfl o0 (.named (.snd (.snd (.fst (.here _ _)) rfl) rfl))) (.cons (mvA (v := .p I6 (((mget a1 a0).getD (T_tree_File.mk [] [] 0)).f_Time : Int)) rfl rfl) .nil)))))))) (by kernel_rfl) (by kernel_rfl) (by kernel_rfl) (cvR _) ?_
  refine tnU ?_
  refine WpC.ret ?_
  have hq := Option.some.inj h
  subst hq
  exact ends_ret (retV_1 rfl (.head _)) (ain_cons (.head _) (ain_cons (.tail _ (.head _)) ain_nil))

theorem tree_Tree_Names_m0.ok (O : Out) (hO : GOk O) (k : Nat) (a0 : List ((List UInt8) × T_tree_File)) (out : List (List UInt8)) (h : tree_Tree_Names_m0.f k a0 = some out) : COk Un O Tryd.prog 17 { ar := [.loc 100000 0], r := .p (.list .str) out, bs := [(100000, .box [.mp 100001]), (100001, .map (.named 3) a0)], bs' := [(100000, .box [.mp 100001]), (100001, .map (.named 3) a0)] } := by
  refine cok_of_wp Tryd.func17 rfl (k := 9) rfl (Nat.le_of_ble_eq_true rfl) (namesOk_of (by kernel_rfl)) ?_
  intro B hN
  refine WpC.conv (cvK (b := ⟨[(0, .loc 100000 0)], [(100000, .box [.mp 100001]), (100001, .map (.named 3) a0)]⟩) [0] [100000, 100001] (by kernel_rfl)) ?_
  unfold tree_Tree_Names_m0.f at h
  refine WpC.seq ?_
  refine rgU (st1 := ⟨[(0, .loc 100000 0)], [(100000, .box [.mp 100001]), (100001, .map (.named 3) a0)]⟩) [0] [100000, 100001] hN (.cons (moU (rs := []) rfl (.inr rfl) (.lit _ _ rfl)) .nil) (by kernel_rfl) (by kernel_rfl) (by kernel_rfl) (cvR _) ?_
  refine tnU ?_
  refine WpC.seq ?_
  obtain ⟨v1, hv1, h⟩ := bind_some h
  obtain ⟨v2, hv2, h⟩ := bind_some h
  refine rgU (st1 := ⟨[(2, .p (.list .str) v2)], [(100000, .box [.mp 100001]), (100001, .map (.named 3) a0)]⟩) [2] [100000, 100001] hN (.cons (mvU (v := .loc 100000 0) rfl rfl) (.cons (nlU (rs := [(3, .loc 100000 0)]) rfl rfl o0 rfl) (.cons (fdB (rs := [(4, .loc 100000 0)]) rfl rfl fd_89_0 (by decide) o0) (.cons (ldB (t := .bool) (rs := [(5, .loc 100000 0)]) [] [.mp 100001] [] (v := .mp 100001) rfl rfl ty1_86 o0 rfl rfl rfl rfl (.hand rfl rfl)) (.cons (caV (rs := [(6, .mp 100001)]) (vw := []) rfl rfl (.func _) hb_53 (COk.ren (pKeys.ok (U := Un) (t := .named 3) O hO k a0 v1 hv1) (fun n => if n = 60500 then 10001 else if n = 100000 then 100001 else n) (injOn_of (by kernel_rfl))) (.cons o0 .nil) (.cons (.same _) .nil) (by simp) (.inl rfl)) (.cons (caV (rs := [(7, .clo 71 [.loc 10001 0])]) (vw := []) rfl rfl (.func _) hb_52 (COk.ren (pSorted.ok (U := Un) (t := .named 3) O hO k a0 v2 hv2) (fun n => if n = 100000 then 10001 else if n = 100001 then 100001 else n) (injOn_of (by kernel_rfl))) (.cons o0 .nil) (.cons (.same _) .nil) (by simp) (.inl rfl)) (.cons (mvA (v := .p (.list .str) v2) rfl rfl) .nil))))))) (by kernel_rfl) (by kernel_rfl) (by kernel_rfl) (cvR _) ?_
  refine tnU ?_
  refine WpC.ret ?_
  have hq := Option.some.inj h
  subst hq
  exact ends_ret (retV_1 rfl (.head _)) (ain_cons (.head _) (ain_cons (.tail _ (.head _)) ain_nil))

theorem millwrightlaw02_alive.ok (O : Out) (hO : GOk O) (k : Nat) (out : Bool) (h : millwrightlaw02_alive.f k = some out) : COk Un O Tryd.prog 9 { ar := [], r := .p .bool out } := by
  refine cok_of_wp Tryd.func9 rfl (k := 21) rfl (Nat.le_of_ble_eq_true rfl) (namesOk_pure rfl rfl rfl rfl) ?_
  intro B hN
  refine WpC.conv (cvK (b := ⟨[], []⟩) [] [] (by kernel_rfl)) ?_
  unfold millwrightlaw02_alive.f at h
  refine WpC.seq ?_
  refine rgU (st1 := ⟨[], []⟩) [] [] hN (.cons (moU (rs := []) rfl (.inr rfl) (.bool _ _)) .nil) (by kernel_rfl) (by kernel_rfl) (by kernel_rfl) (cvR _) ?_
  refine tnU ?_
  refine WpC.seq ?_
  obtain ⟨v1, hv1, h⟩ := bind_some h
  refine rgU (st1 := ⟨[(1, .loc 10001 0)], [(10001, .box [.mp 10002]), (10002, .map (.named 3) v1)]⟩) [1] [10001, 10002] hN (.cons (caV (rs := []) (vw := []) rfl rfl (.func _) hb_18 (COk.ren (tree_New.ok O hO k v1 hv1) (fun n => if n = 60500 then 10001 else if n = 60501 then 10002 else n) (injOn_of (by kernel_rfl))) .nil .nil (by simp) (.inl rfl)) (.cons (mvA (v := .loc 10001 0) rfl rfl) .nil)) (by kernel_rfl) (by kernel_rfl) (by kernel_rfl) (cvR _) ?_
  refine tnU ?_
  refine WpC.seq ?_
  obtain ⟨v2, hv2, h⟩ := bind_some h
  rcases bool_cases (v2.1 == 0) with hc3 | hc3
  · replace h := ite_t hc3 h
    obtain ⟨v4, hv4, h⟩ := bind_some h
    rcases bool_cases (v4 == 5) with hc5 | hc5
    · replace h := ite_t hc5 h
      obtain ⟨v6, hv6, h⟩ := bind_some h
      refine rgU (st1 := ⟨[(0, .p .bool (((v6.length : Int) == 1) : Bool))], []⟩) [0] [] hN (.cons (mvU (v := .loc 10001 0) rfl rfl) (.cons (sok_nePN (U := Un) (rs := [(3, .loc 10001 0)]) rfl rfl Tryd.underlying29 o0 ptrV_loc) (.cons (mvU (v := .p .bool true) rfl rfl) (.cons (sok_run rfl rfl rfl (mvU (v := .loc 10001 0) rfl rfl)) (.cons (sok_run rfl rfl rfl (caV (rs := [(6, .loc 10001 0)]) (vw := []) rfl rfl (.func _) hb_14 (COk.ren (tree_Tree_Touch_m0.ok O hO k v1 ([97] : List UInt8) 5 v2 hv2) (fun n => if n = 100000 then 10001 else if n = 100001 then 10002 else n) (injOn_of (by kernel_rfl))) (.cons o0 (.cons (.str _ _) (.cons (.int _ _ _) .nil))) (.cons (.same _) (.cons (.same _) (.cons (.same _) .nil))) (by simp) (.inl rfl))) (.cons (sok_run rfl rfl rfl (sok_errNil (U := Un) (rs := [(7, .p .err v2.1)]) rfl rfl Tryd.underlying31 o0 rfl)) (.cons (pkT (rs := [(5, .p .bool true), (8, .p .bool ((v2.1 == 0) : Bool))]) rfl rfl o0 rfl o1) (.cons (mvU (v := .p .bool ((v2.1 == 0) : Bool)) rfl rfl) (.cons (sok_run rfl rfl hc3 (mvU (v := .loc 10001 0) rfl rfl)) (.cons (sok_run rfl rfl hc3 (caV (rs := [(11, .loc 10001 0)]) (vw := []) rfl rfl (.func _) hb_24 (COk.ren (tree_Tree_Time_m0.ok O hO k v2.2 ([97] : List UInt8) v4 hv4) (fun n => if n = 100000 then 10001 else if n = 100001 then 10002 else n) (injOn_of (by kernel_rfl))) (.cons o0 (.cons (.str _ _) .nil)) (.cons (.same _) (.cons (.same _) .nil)) (by simp) (.inl rfl))) (.cons (sok_run rfl rfl hc3 (cmU (rs := [(12, .p I6 v4)]) rfl rfl o0 (.int _ _ _) rfl)) (.cons (pkT (rs := [(10, .p .bool ((v2.1 == 0) : Bool)), (13, .p .bool ((v4 == 5) : Bool))]) rfl rfl o0 hc3 o1) (.cons (mvU (v := .p .bool ((v4 == 5) : Bool)) rfl rfl) (.cons (sok_run rfl rfl hc5 (mvU (v := .loc 10001 0) rfl rfl)) (.cons (sok_run rfl rfl hc5 (caV (rs := [(16, .loc 10001 0)]) (vw := []) rfl rfl (.func _) hb_17 (COk.ren (tree_Tree_Names_m0.ok O hO k v2.2 v6 hv6) (fun n => if n = 100000 then 10001 else if n = 100001 then 10002 else n) (injOn_of (by kernel_rfl))) (.cons o0 .nil) (.cons (.same _) .nil) (by simp) (.inl rfl))) (.cons (sok_run rfl rfl hc5 (sok_lenL (U := Un) (rs := [(17, .p (.list .str) v6)]) rfl rfl Tryd.underlying40 o0)) (.cons (sok_run rfl rfl hc5 (cmU (rs := [(18, .p I6 ((v6.length : Int) : Int))]) rfl rfl o0 (.int _ _ _) rfl)) (.cons (pkT (rs := [(15, .p .bool ((v4 == 5) : Bool)), (19, .p .bool (((v6.length : Int) == 1) : Bool))]) rfl rfl o0 hc5 o1) (.cons (mvA (v := .p .bool (((v6.length : Int) == 1) : Bool)) rfl rfl) .nil))))))))))))))))))) (by kernel_rfl) (by kernel_rfl) (by kernel_rfl) (cvR _) ?_
      refine tnU ?_
      refine WpC.ret ?_
      have hq := Option.some.inj h
      subst hq
      exact ends_ret (retV_1 rfl (.head _)) ain_nil
    · replace h := ite_f hc5 h
      refine rgU (st1 := ⟨[(0, .p .bool false)], []⟩) [0] [] hN (.cons (mvU (v := .loc 10001 0) rfl rfl) (.cons (sok_nePN (U := Un) (rs := [(3, .loc 10001 0)]) rfl rfl Tryd.underlying29 o0 ptrV_loc) (.cons (mvU (v := .p .bool true) rfl rfl) (.cons (sok_run rfl rfl rfl (mvU (v := .loc 10001 0) rfl rfl)) (.cons (sok_run rfl rfl rfl (caV (rs := [(6, .loc 10001 0)]) (vw := []) rfl rfl (.func _) hb_14 (COk.ren (tree_Tree_Touch_m0.ok O hO k v1 ([97] : List UInt8) 5 v2 hv2) (fun n => if n = 100000 then 10001 else if n = 100001 then 10002 else n) (injOn_of (by kernel_rfl))) (.cons o0 (.cons (.str _ _) (.cons (.int _ _ _) .nil))) (.cons (.same _) (.cons (.same _) (.cons (.same _) .nil))) (by simp) (.inl rfl))) (.cons (sok_run rfl rfl rfl (sok_errNil (U := Un) (rs := [(7, .p .err v2.1)]) rfl rfl Tryd.underlying31 o0 rfl)) (.cons (pkT (rs := [(5, .p .bool true), (8, .p .bool ((v2.1 == 0) : Bool))]) rfl rfl o0 rfl o1) (.cons (mvU (v := .p .bool ((v2.1 == 0) : Bool)) rfl rfl) (.cons (sok_run rfl rfl hc3 (mvU (v := .loc 10001 0) rfl rfl)) (.cons (sok_run rfl rfl hc3 (caV (rs := [(11, .loc 10001 0)]) (vw := []) rfl rfl (.func _) hb_24 (COk.ren (tree_Tree_Time_m0.ok O hO k v2.2 ([97] : List UInt8) v4 hv4) (fun n => if n = 100000 then 10001 else if n = 100001 then 10002 else n) (injOn_of (by kernel_rfl))) (.cons o0 (.cons (.str _ _) .nil)) (.cons (.same _) (.cons (.same _) .nil)) (by simp) (.inl rfl))) (.cons (sok_run rfl rfl hc3 (cmU (rs := [(12, .p I6 v4)]) rfl rfl o0 (.int _ _ _) rfl)) (.cons (pkT (rs := [(10, .p .bool ((v2.1 == 0) : Bool)), (13, .p .bool ((v4 == 5) : Bool))]) rfl rfl o0 hc3 o1) (.cons (mvU (v := .p .bool ((v4 == 5) : Bool)) rfl rfl) (.cons (skU rfl rfl hc5) (.cons (skU rfl rfl hc5) (.cons (skU rfl rfl hc5) (.cons (skU rfl rfl hc5) (.cons (pkF (rs := [(15, .p .bool ((v4 == 5) : Bool))]) rfl rfl o0 hc5 (.bool _ _)) (.cons (mvA (v := .p .bool false) rfl rfl) .nil))))))))))))))))))) (by kernel_rfl) (by kernel_rfl) (by kernel_rfl) (cvR _) ?_
      refine tnU ?_
      refine WpC.ret ?_
      have hq := Option.some.inj h
      subst hq
      exact ends_ret (retV_1 rfl (.head _)) ain_nil
  · replace h := ite_f hc3 h
    refine rgU (st1 := ⟨[(0, .p .bool false)], []⟩) [0] [] hN (.cons (mvU (v := .loc 10001 0) rfl rfl) (.cons (sok_nePN (U := Un) (rs := [(3, .loc 10001 0)]) rfl rfl Tryd.underlying29 o0 ptrV_loc) (.cons (mvU (v := .p .bool true) rfl rfl) (.cons (sok_run rfl rfl rfl (mvU (v := .loc 10001 0) rfl rfl)) (.cons (sok_run rfl rfl rfl (caV (rs := [(6, .loc 10001 0)]) (vw := []) rfl rfl (.func _) hb_14 (COk.ren (tree_Tree_Touch_m0.ok O hO k v1 ([97] : List UInt8) 5 v2 hv2) (fun n => if n = 100000 then 10001 else if n = 100001 then 10002 else n) (injOn_of (by kernel_rfl))) (.cons o0 (.cons (.str _ _) (.cons (.int _ _ _) .nil))) (.cons (.same _) (.cons (.same _) (.cons (.same _) .nil))) (by simp) (.inl rfl))) (.cons (sok_run rfl rfl rfl (sok_errNil (U := Un) (rs := [(7, .p .err v2.1)]) rfl rfl Tryd.underlying31 o0 rfl)) (.cons (pkT (rs := [(5, .p .bool true), (8, .p .bool ((v2.1 == 0) : Bool))]) rfl rfl o0 rfl o1) (.cons (mvU (v := .p .bool ((v2.1 == 0) : Bool)) rfl rfl) (.cons (skU rfl rfl hc3) (.cons (skU rfl rfl hc3) (.cons (skU rfl rfl hc3) (.cons (pkF (rs := [(10, .p .bool ((v2.1 == 0) : Bool))]) rfl rfl o0 hc3 (.bool _ _)) (.cons (mvU (v := .p .bool false) rfl rfl) (.cons (skU rfl rfl rfl) (.cons (skU rfl rfl rfl) (.cons (skU rfl rfl rfl) (.cons (skU rfl rfl rfl) (.cons (pkF (rs := [(15, .p .bool false)]) rfl rfl o0 rfl (.bool _ _)) (.cons (mvA (v := .p .bool false) rfl rfl) .nil))))))))))))))))))) (by kernel_rfl) (by kernel_rfl) (by kernel_rfl) (cvR _) ?_
    refine tnU ?_
    refine WpC.ret ?_
    have hq := Option.some.inj h
    subst hq
    exact ends_ret (retV_1 rfl (.head _)) ain_nil

theorem tree_Tree_Copy_m0.ok (O : Out) (hO : GOk O) (k : Nat) (a0 : List ((List UInt8) × T_tree_File)) (out : List ((List UInt8) × T_tree_File)) (h : tree_Tree_Copy_m0.f k a0 = some out) : COk Un O Tryd.prog 12 { ar := [.loc 100000 0], r := .loc 60500 0, bs := [(100000, .box [.mp 100001]), (100001, .map (.named 3) a0)], bs' := [(60500, .box [.mp 60501]), (60501, .map (.named 3) out), (100000, .box [.mp 100001]), (100001, .map (.named 3) a0)], nn := [60500, 60501] } := by
  refine cok_of_wp Tryd.func12 rfl (k := 10) rfl (Nat.le_of_ble_eq_true rfl) (namesOk_of (by kernel_rfl)) ?_
  intro B hN
  refine WpC.conv (cvK (b := ⟨[(0, .loc 100000 0)], [(100000, .box [.mp 100001]), (100001, .map (.named 3) a0)]⟩) [0] [100000, 100001] (by kernel_rfl)) ?_
  unfold tree_Tree_Copy_m0.f at h
  refine WpC.seq ?_
  refine rgU (st1 := ⟨[(0, .loc 100000 0)], [(100000, .box [.mp 100001]), (100001, .map (.named 3) a0)]⟩) [0] [100000, 100001] hN (.cons (moU (rs := []) rfl (.inr rfl) (.lit _ _ rfl)) .nil) (by kernel_rfl) (by kernel_rfl) (by kernel_rfl) (cvR _) ?_
  refine tnU ?_
  refine WpC.seq ?_
  obtain ⟨v1, hv1, h⟩ := bind_some h
  refine rgU (st1 := ⟨[(2, .loc 9 0)], [(9, .box [.mp 10001]), (10001, .map (.named 3) v1), (100000, .box [.mp 100001]), (100001, .map (.named 3) a0)]⟩) [2] [9, 10001, 100000, 100001] hN (.cons (mvU (v := .loc 100000 0) rfl rfl) (.cons (nlU (rs := [(3, .loc 100000 0)]) rfl rfl o0 rfl) (.cons (fdB (rs := [(4, .loc 100000 0)]) rfl rfl fd_89_0 (by decide) o0) (.cons (ldB (t := .bool) (rs := [(5, .loc 100000 0)]) [] [.mp 100001] [] (v := .mp 100001) rfl rfl ty1_86 o0 rfl rfl rfl rfl (.hand rfl rfl)) (.cons (caV (rs := [(6, .mp 100001)]) (vw := []) rfl rfl (.func _) hb_50 (COk.ren (pMapClone.ok (U := Un) (t := .named 3) O hO k a0 v1 hv1) (fun n => if n = 60500 then 10001 else if n = 100000 then 100001 else n) (injOn_of (by kernel_rfl))) (.cons o0 .nil) (.cons (.same _) .nil) (by simp) (.inl rfl)) (.cons (sok_build (U := Un) (t := .arr 1 .bool) (rs := [(7, .mp 10001)]) (us0 := [.lit (.map none)]) (us := [.mp 10001]) (v := .agg [.mp 10001]) rfl rfl lays_89 (.lit rfl .nil) (Filled.cons (U := Un) (i := 0) (v := .mp 10001) [] [.lit (.map none)] [.mp 10001] [] o0 (.hand rfl) rfl rfl rfl rfl rfl rfl (.nil _)) rfl (.agg rfl)) (.cons (sok_box (U := Un) (rs := [(8, .agg [.mp 10001])]) (d := 9) (us := [.mp 10001]) rfl rfl rfl o0 .agg rfl (notin_of (by kernel_rfl))) (.cons (mvA (v := .loc 9 0) rfl rfl) .nil)))))))) (by kernel_rfl) (by kernel_rfl) (by kernel_rfl) (cvR _) ?_
  refine tnU ?_
  refine WpC.conv (cvT (Conv.ren (U := Un) (st' := ⟨[(2, .loc 9 0)], [(9, .box [.mp 60501]), (60501, .map (.named 3) v1), (100000, .box [.mp 100001]), (100001, .map (.named 3) a0)]⟩) 10001 60501 (by unfold K0; omega) (by kernel_rfl) (by kernel_rfl) (by kernel_rfl)) (cvT (cvK (b := ⟨[(2, .loc 9 0)], [(9, .box [.mp 60501]), (60501, .map (.named 3) v1), (100000, .box [.mp 100001]), (100001, .map (.named 3) a0)]⟩) [2] [9, 60501, 100000, 100001] (by kernel_rfl)) (cvT (Conv.ren (U := Un) (st' := ⟨[(2, .loc 60500 0)], [(60500, .box [.mp 60501]), (60501, .map (.named 3) v1), (100000, .box [.mp 100001]), (100001, .map (.named 3) a0)]⟩) 9 60500 (by unfold K0; omega) (by kernel_rfl) (by kernel_rfl) (by kernel_rfl)) (cvK (b := ⟨[(2, .loc 60500 0)], [(60500, .box [.mp 60501]), (60501, .map (.named 3) v1), (100000, .box [.mp 100001]), (100001, .map (.named 3) a0)]⟩) [2] [60500, 60501, 100000, 100001] (by kernel_rfl))))) (WpC.ret ?_)
  have hq := Option.some.inj h
  subst hq
  exact ends_ret (retV_1 rfl (.head _)) (ain_cons (.head _) (ain_cons (.tail _ (.head _)) (ain_cons (.tail _ (.tail _ (.head _))) (ain_cons (.tail _ (.tail _ (.tail _ (.head _)))) ain_nil))))

theorem millwrightnum_all.ok (O : Out) (hO : GOk O) (k : Nat) (out : List Nat) (h : millwrightnum_all.f k = some out) : COk Un O Tryd.prog 54 { ar := [], r := .p (.list .err) out } := by
  refine cok_of_wp Tryd.func54 rfl (k := 20) rfl (Nat.le_of_ble_eq_true rfl) (namesOk_pure rfl rfl rfl rfl) ?_
  intro B hN
  refine WpC.conv (cvK (b := ⟨[], []⟩) [] [] (by kernel_rfl)) ?_
  unfold millwrightnum_all.f at h
  refine WpC.seq ?_
  refine rgU (st1 := ⟨[], []⟩) [] [] hN (.cons (moU (rs := []) rfl (.inr rfl) (.lit _ _ rfl)) .nil) (by kernel_rfl) (by kernel_rfl) (by kernel_rfl) (cvR _) ?_
  refine tnU ?_
  refine WpC.seq ?_
  refine rgU (st1 := ⟨[(0, .vec 19 1 0 ([(1 : Nat), (2 : Nat), (3 : Nat), (4 : Nat), (5 : Nat), (6 : Nat), (7 : Nat), (8 : Nat), (9 : Nat), (10 : Nat), (11 : Nat), (12 : Nat), (13 : Nat), (14 : Nat), (15 : Nat), (16 : Nat), (17 : Nat), (18 : Nat)].length))], [(19, .row 31 .err [(1 : Nat), (2 : Nat), (3 : Nat), (4 : Nat), (5 : Nat), (6 : Nat), (7 : Nat), (8 : Nat), (9 : Nat), (10 : Nat), (11 : Nat), (12 : Nat), (13 : Nat), (14 : Nat), (15 : Nat), (16 : Nat), (17 : Nat), (18 : Nat)] true)]⟩) [0] [19] hN (.cons (sok_loadG (U := Un) (t := .err) (rs := []) rfl rfl ty_31 rfl rfl (hO.var 0 5 rfl) (fun S w => .err 0)) (.cons (sok_loadG (U := Un) (t := .err) (rs := []) rfl rfl ty_31 rfl rfl (hO.var 1 4 rfl) (fun S w => .err 1)) (.cons (sok_loadG (U := Un) (t := .err) (rs := []) rfl rfl ty_31 rfl rfl (hO.var 2 7 rfl) (fun S w => .err 2)) (.cons (sok_loadG (U := Un) (t := .err) (rs := []) rfl rfl ty_31 rfl rfl (hO.var 3 3 rfl) (fun S w => .err 3)) (.cons (sok_loadG (U := Un) (t := .err) (rs := []) rfl rfl ty_31 rfl rfl (hO.var 4 8 rfl) (fun S w => .err 4)) (.cons (sok_loadG (U := Un) (t := .err) (rs := []) rfl rfl ty_31 rfl rfl (hO.var 5 9 rfl) (fun S w => .err 5)) (.cons (sok_loadG (U := Un) (t := .err) (rs := []) rfl rfl ty_31 rfl rfl (hO.var 6 10 rfl) (fun S w => .err 6)) (.cons (sok_loadG (U := Un) (t := .err) (rs := []) rfl rfl ty_31 rfl rfl (hO.var 7 1 rfl) (fun S w => .err 7)) (.cons (sok_loadG (U := Un) (t := .err) (rs := []) rfl rfl ty_31 rfl rfl (hO.var 8 0 rfl) (fun S w => .err 8)) (.cons (sok_loadG (U := Un) (t := .err) (rs := []) rfl rfl ty_31 rfl rfl (hO.var 9 6 rfl) (fun S w => .err 9)) (.cons (sok_loadG (U := Un) (t := .err) (rs := []) rfl rfl ty_31 rfl rfl (hO.var 10 11 rfl) (fun S w => .err 10)) (.cons (sok_loadG (U := Un) (t := .err) (rs := []) rfl rfl ty_31 rfl rfl (hO.var 11 12 rfl) (fun S w => .err 11)) (.cons (sok_loadG (U := Un) (t := .err) (rs := []) rfl rfl ty_31 rfl rfl (hO.var 12 13 rfl) (fun S w => .err 12)) (.cons (sok_loadG (U := Un) (t := .err) (rs := []) rfl rfl ty_31 rfl rfl (hO.var 13 2 rfl) (fun S w => .err 13)) (.cons (sok_loadG (U := Un) (t := .err) (rs := []) rfl rfl ty_31 rfl rfl (hO.var 14 14 rfl) (fun S w => .err 14)) (.cons (sok_loadG (U := Un) (t := .err) (rs := []) rfl rfl ty_31 rfl rfl (hO.var 15 15 rfl) (fun S w => .err 15)) (.cons (sok_loadG (U := Un) (t := .err) (rs := []) rfl rfl ty_31 rfl rfl (hO.var 16 16 rfl) (fun S w => .err 16)) (.cons (sok_loadG (U := Un) (t := .err) (rs := []) rfl rfl ty_31 rfl rfl (hO.var 17 17 rfl) (fun S w => .err 17)) (.cons (sok_buildSlice (U := Un) (t := .err) (rs := [(1, .p .err (1 : Nat)), (2, .p .err (2 : Nat)), (3, .p .err (3 : Nat)), (4, .p .err (4 : Nat)), (5, .p .err (5 : Nat)), (6, .p .err (6 : Nat)), (7, .p .err (7 : Nat)), (8, .p .err (8 : Nat)), (9, .p .err (9 : Nat)), (10, .p .err (10 : Nat)), (11, .p .err (11 : Nat)), (12, .p .err (12 : Nat)), (13, .p .err (13 : Nat)), (14, .p .err (14 : Nat)), (15, .p .err (15 : Nat)), (16, .p .err (16 : Nat)), (17, .p .err (17 : Nat)), (18, .p .err (18 : Nat))]) (ys := [.tmp 1, .tmp 2, .tmp 3, .tmp 4, .tmp 5, .tmp 6, .tmp 7, .tmp 8, .tmp 9, .tmp 10, .tmp 11, .tmp 12, .tmp 13, .tmp 14, .tmp 15, .tmp 16, .tmp 17, .tmp 18]) (xs := [(1 : Nat), (2 : Nat), (3 : Nat), (4 : Nat), (5 : Nat), (6 : Nat), (7 : Nat), (8 : Nat), (9 : Nat), (10 : Nat), (11 : Nat), (12 : Nat), (13 : Nat), (14 : Nat), (15 : Nat), (16 : Nat), (17 : Nat), (18 : Nat)]) rfl rfl rfl rfl row_95 (.cons o0 (.cons o1 (.cons (.tmp (.tail _ (.tail _ (.head _)))) (.cons (.tmp (.tail _ (.tail _ (.tail _ (.head _))))) (.cons (.tmp (.tail _ (.tail _ (.tail _ (.tail _ (.head _)))))) (.cons (.tmp (.tail _ (.tail _ (.tail _ (.tail _ (.tail _ (.head _))))))) (.cons (.tmp (.tail _ (.tail _ (.tail _ (.tail _ (.tail _ (.tail _ (.head _)))))))) (.cons (.tmp (.tail _ (.tail _ (.tail _ (.tail _ (.tail _ (.tail _ (.tail _ (.head _))))))))) (.cons (.tmp (.tail _ (.tail _ (.tail _ (.tail _ (.tail _ (.tail _ (.tail _ (.tail _ (.head _)))))))))) (.cons (.tmp (.tail _ (.tail _ (.tail _ (.tail _ (.tail _ (.tail _ (.tail _ (.tail _ (.tail _ (.head _))))))))))) (.cons (.tmp (.tail _ (.tail _ (.tail _ (.tail _ (.tail _ (.tail _ (.tail _ (.tail _ (.tail _ (.tail _ (.head _)))))))))))) (.cons (.tmp (.tail _ (.tail _ (.tail _ (.tail _ (.tail _ (.tail _ (.tail _ (.tail _ (.tail _ (.tail _ (.tail _ (.head _))))))))))))) (.cons (.tmp (.tail _ (.tail _ (.tail _ (.tail _ (.tail _ (.tail _ (.tail _ (.tail _ (.tail _ (.tail _ (.tail _ (.tail _ (.head _)))))))))))))) (.cons (.tmp (.tail _ (.tail _ (.tail _ (.tail _ (.tail _ (.tail _ (.tail _ (.tail _ (.tail _ (.tail _ (.tail _ (.tail _ (.tail _ (.head _))))))))))))))) (.cons (.tmp (.tail _ (.tail _ (.tail _ (.tail _ (.tail _ (.tail _ (.tail _ (.tail _ (.tail _ (.tail _ (.tail _ (.tail _ (.tail _ (.tail _ (.head _)))))))))))))))) (.cons (.tmp (.tail _ (.tail _ (.tail _ (.tail _ (.tail _ (.tail _ (.tail _ (.tail _ (.tail _ (.tail _ (.tail _ (.tail _ (.tail _ (.tail _ (.tail _ (.head _))))))))))))))))) (.cons (.tmp (.tail _ (.tail _ (.tail _ (.tail _ (.tail _ (.tail _ (.tail _ (.tail _ (.tail _ (.tail _ (.tail _ (.tail _ (.tail _ (.tail _ (.tail _ (.tail _ (.head _)))))))))))))))))) (.cons (.tmp (.tail _ (.tail _ (.tail _ (.tail _ (.tail _ (.tail _ (.tail _ (.tail _ (.tail _ (.tail _ (.tail _ (.tail _ (.tail _ (.tail _ (.tail _ (.tail _ (.tail _ (.head _))))))))))))))))))) .nil)))))))))))))))))) (by decide)) (.cons (mvA (v := .vec 19 1 0 ([(1 : Nat), (2 : Nat), (3 : Nat), (4 : Nat), (5 : Nat), (6 : Nat), (7 : Nat), (8 : Nat), (9 : Nat), (10 : Nat), (11 : Nat), (12 : Nat), (13 : Nat), (14 : Nat), (15 : Nat), (16 : Nat), (17 : Nat), (18 : Nat)].length)) rfl rfl) .nil)))))))))))))))))))) (by kernel_rfl) (by kernel_rfl) (by kernel_rfl) (cvR _) ?_
  refine tnU ?_
  refine WpC.conv (cvT (Conv.freeze (U := Un) 0 19 31 _ .err [(1 : Nat), (2 : Nat), (3 : Nat), (4 : Nat), (5 : Nat), (6 : Nat), (7 : Nat), (8 : Nat), (9 : Nat), (10 : Nat), (11 : Nat), (12 : Nat), (13 : Nat), (14 : Nat), (15 : Nat), (16 : Nat), (17 : Nat), (18 : Nat)] true (.head _) (by first | rfl | (simp only [upd_length, List.length_replicate, List.length_append]; done) | (simp only [upd_length, List.length_replicate, List.length_append] at *; omega) | omega) (.head _) (by first | (simp [Blk.names]; done) | (simp [Blk.names]; decide))) (cvK (b := ⟨[(0, .p (.list .err) ([(1 : Nat), (2 : Nat), (3 : Nat), (4 : Nat), (5 : Nat), (6 : Nat), (7 : Nat), (8 : Nat), (9 : Nat), (10 : Nat), (11 : Nat), (12 : Nat), (13 : Nat), (14 : Nat), (15 : Nat), (16 : Nat), (17 : Nat), (18 : Nat)] : List Nat))], []⟩) [0] [] (by kernel_rfl))) (WpC.ret ?_)
  have hq := Option.some.inj h
  subst hq
  exact ends_ret (retV_1 rfl (.head _)) ain_nil

end Go.Proofs.YtkdpaglpieamgaaDoor
