/- A part of the proof of a given law: EPC0. Own work, printed in part by a program of mine. -/
import Derived.Test.YtnbnfjgedinlbabDoorK12EPN
namespace Go.Proofs.YtnbnfjgedinlbabDoor
open Go Go.AM
set_option linter.unusedVariables false
set_option linter.unusedSimpArgs false
set_option maxRecDepth 100000
theorem env_New.ok (O : Out) (hO : GOk O) (k : Nat) (out : List ((List UInt8) × T_env_Var)) (h : env_New.f k = some out) : COk Un O Tryd.prog 26 { ar := [], r := .loc 60500 0, bs' := [(60500, .box [.mp 60501]), (60501, .map (.named 5) out)], nn := [60500, 60501] } := by
  refine cok_of_wp Tryd.func26 rfl (k := 4) rfl (Nat.le_of_ble_eq_true rfl) (namesOk_of (by kernel_rfl)) ?_
  intro B hN
  refine WpC.conv (cvK (b := ⟨[], []⟩) [] [] (by kernel_rfl)) ?_
  unfold env_New.f at h
  refine WpC.seq ?_
  refine rgU (st1 := ⟨[], []⟩) [] [] hN (.cons (moU (rs := []) rfl (.inr rfl) (.lit _ _ rfl)) .nil) (by kernel_rfl) (by kernel_rfl) (by kernel_rfl) (cvR _) ?_
  refine tnU ?_
  refine WpC.seq ?_
  refine rgU (st1 := ⟨[(0, .loc 3 0)], [(1, .map (.named 5) ([] : List ((List UInt8) × T_env_Var))), (3, .box [.mp 1])]⟩) [0] [1, 3] hN (.cons (sok_makeMap (U := Un) (t := .named 5) (rs := []) (d := 1) rfl rfl rfl) (.cons (sok_build (U := Un) (t := .arr 1 .bool) (rs := [(1, .mp 1)]) (us0 := [.lit (.map none)]) (us := [.mp 1]) (v := .agg [.mp 1]) rfl rfl lays_91 (.lit rfl .nil) (Filled.cons (U := Un) (i := 0) (v := .mp 1) [] [.lit (.map none)] [.mp 1] [] o0 (.hand rfl) rfl rfl rfl rfl rfl rfl (.nil _)) rfl (.agg rfl)) (.cons (sok_box (U := Un) (rs := [(2, .agg [.mp 1])]) (d := 3) (us := [.mp 1]) rfl rfl rfl o0 .agg rfl (notin_of (by kernel_rfl))) (.cons (mvA (v := .loc 3 0) rfl rfl) .nil)))) (by kernel_rfl) (by kernel_rfl) (by kernel_rfl) (cvR _) ?_
  refine tnU ?_
  refine WpC.conv (cvT (Conv.ren (U := Un) (st' := ⟨[(0, .loc 3 0)], [(60501, .map (.named 5) ([] : List ((List UInt8) × T_env_Var))), (3, .box [.mp 60501])]⟩) 1 60501 (by unfold K0; omega) (by kernel_rfl) (by kernel_rfl) (by kernel_rfl)) (cvT (cvK (b := ⟨[(0, .loc 3 0)], [(3, .box [.mp 60501]), (60501, .map (.named 5) ([] : List ((List UInt8) × T_env_Var)))]⟩) [0] [3, 60501] (by kernel_rfl)) (cvT (Conv.ren (U := Un) (st' := ⟨[(0, .loc 60500 0)], [(60500, .box [.mp 60501]), (60501, .map (.named 5) ([] : List ((List UInt8) × T_env_Var)))]⟩) 3 60500 (by unfold K0; omega) (by kernel_rfl) (by kernel_rfl) (by kernel_rfl)) (cvK (b := ⟨[(0, .loc 60500 0)], [(60500, .box [.mp 60501]), (60501, .map (.named 5) ([] : List ((List UInt8) × T_env_Var)))]⟩) [0] [60500, 60501] (by kernel_rfl))))) (WpC.ret ?_)
  have hq := Option.some.inj h
  subst hq
  exact ends_ret (retV_1 rfl (.head _)) (ain_cons (.head _) (ain_cons (.tail _ (.head _)) ain_nil))

theorem lex_letter.ok (O : Out) (hO : GOk O) (k : Nat) (a0 : Int) (out : Bool) (h : lex_letter.f k a0 = some out) : COk Un O Tryd.prog 75 { ar := [.p (.int .u8) a0], r := .p .bool out } := by
  refine cok_of_wp Tryd.func75 rfl (k := 29) rfl (Nat.le_of_ble_eq_true rfl) (namesOk_pure rfl rfl rfl rfl) ?_
  intro B hN
  refine WpC.conv (cvK (b := ⟨[(0, .p (.int .u8) a0)], []⟩) [0] [] (by kernel_rfl)) ?_
  unfold lex_letter.f at h
  refine WpC.seq ?_
  refine rgU (st1 := ⟨[(0, .p (.int .u8) a0)], []⟩) [0] [] hN (.cons (moU (rs := []) rfl (.inr rfl) (.bool _ _)) .nil) (by kernel_rfl) (by kernel_rfl) (by kernel_rfl) (cvR _) ?_
  refine tnU ?_
  refine WpC.seq ?_
  rcases bool_cases (decide (a0 ≥ 97)) with hc1 | hc1
  · replace h := ite_t hc1 h
    rcases bool_cases (decide (a0 ≤ 122)) with hc2 | hc2
    · replace h := ite_t hc2 h
      refine rgU (st1 := ⟨[(2, .p .bool true)], []⟩) [2] [] hN (.cons (mvU (v := .p (.int .u8) a0) rfl rfl) (.cons (cmU (rs := [(3, .p (.int .u8) a0)]) rfl rfl o0 (.int _ _ _) rfl) (.cons (mvU (v := .p .bool ((decide (a0 ≥ 97)) : Bool)) rfl rfl) (.cons (sok_run rfl rfl hc1 (mvU (v := .p (.int .u8) a0) rfl rfl)) (.cons (sok_run rfl rfl hc1 (cmU (rs := [(6, .p (.int .u8) a0)]) rfl rfl o0 (.int _ _ _) rfl)) (.cons (pkT (rs := [(5, .p .bool ((decide (a0 ≥ 97)) : Bool)), (7, .p .bool ((decide (a0 ≤ 122)) : Bool))]) rfl rfl o0 hc1 o1) (.cons (mvU (v := .p .bool ((decide (a0 ≤ 122)) : Bool)) rfl rfl) (.cons (skU rfl rfl hc2) (.cons (skU rfl rfl hc2) (.cons (skU rfl rfl hc2) (.cons (sok_skipU rfl rfl) (.cons (sok_skipU rfl rfl) (.cons (skU rfl rfl hc2) (.cons (pkT (rs := [(9, .p .bool ((decide (a0 ≤ 122)) : Bool))]) rfl rfl o0 hc2 (.bool _ _)) (.cons (mvU (v := .p .bool true) rfl rfl) (.cons (skU rfl rfl rfl) (.cons (skU rfl rfl rfl) (.cons (skU rfl rfl rfl) (.cons (sok_skipU rfl rfl) (.cons (sok_skipU rfl rfl) (.cons (skU rfl rfl rfl) (.cons (pkT (rs := [(17, .p .bool true)]) rfl rfl o0 rfl (.bool _ _)) (.cons (mvU (v := .p .bool true) rfl rfl) (.cons (skU rfl rfl rfl) (.cons (skU rfl rfl rfl) (.cons (pkT (rs := [(25, .p .bool true)]) rfl rfl o0 rfl (.bool _ _)) (.cons (mvA (v := .p .bool true) rfl rfl) .nil))))))))))))))))))))))))))) (by kernel_rfl) (by kernel_rfl) (by kernel_rfl) (cvR _) ?_
      refine tnU ?_
      refine WpC.ret ?_
      have hq := Option.some.inj h
      subst hq
      exact ends_ret (retV_1 rfl (.head _)) ain_nil
    · replace h := ite_f hc2 h
      rcases bool_cases (decide (a0 ≥ 65)) with hc3 | hc3
      · replace h := ite_t hc3 h
        rcases bool_cases (decide (a0 ≤ 90)) with hc4 | hc4
        · replace h := ite_t hc4 h
          refine rgU (st1 := ⟨[(2, .p .bool true)], []⟩) [2] [] hN (.cons (mvU (v := .p (.int .u8) a0) rfl rfl) (.cons (cmU (rs := [(3, .p (.int .u8) a0)]) rfl rfl o0 (.int _ _ _) rfl) (.cons (mvU (v := .p .bool ((decide (a0 ≥ 97)) : Bool)) rfl rfl) (.cons (sok_run rfl rfl hc1 (mvU (v := .p (.int .u8) a0) rfl rfl)) (.cons (sok_run rfl rfl hc1 (cmU (rs := [(6, .p (.int .u8) a0)]) rfl rfl o0 (.int _ _ _) rfl)) (.cons (pkT (rs := [(5, .p .bool ((decide (a0 ≥ 97)) : Bool)), (7, .p .bool ((decide (a0 ≤ 122)) : Bool))]) rfl rfl o0 hc1 o1) (.cons (mvU (v := .p .bool ((decide (a0 ≤ 122)) : Bool)) rfl rfl) (.cons (sok_run rfl rfl hc2 (mvU (v := .p (.int .u8) a0) rfl rfl)) (.cons (sok_run rfl rfl hc2 (cmU (rs := [(10, .p (.int .u8) a0)]) rfl rfl o0 (.int _ _ _) rfl)) (.cons (sok_run rfl rfl hc2 (mvU (v := .p .bool ((decide (a0 ≥ 65)) : Bool)) rfl rfl)) (.cons (sok_run rfl rfl hc3 (mvU (v := .p (.int .u8) a0) rfl rfl)) (.cons (sok_run rfl rfl hc3 (cmU (rs := [(13, .p (.int .u8) a0)]) rfl rfl o0 (.int _ _ _) rfl)) (.cons (sok_run rfl rfl hc2 (pkT (rs := [(12, .p .bool ((decide (a0 ≥ 65)) : Bool)), (14, .p .bool ((decide (a0 ≤ 90)) : Bool))]) rfl rfl o0 hc3 o1)) (.cons (pkF (rs := [(9, .p .bool ((decide (a0 ≤ 122)) : Bool)), (15, .p .bool ((decide (a0 ≤ 90)) : Bool))]) rfl rfl o0 hc2 o1) (.cons (mvU (v := .p .bool ((decide (a0 ≤ 90)) : Bool)) rfl rfl) (.cons (skU rfl rfl hc4) (.cons (skU rfl rfl hc4) (.cons (skU rfl rfl hc4) (.cons (sok_skipU rfl rfl) (.cons (sok_skipU rfl rfl) (.cons (skU rfl rfl hc4) (.cons (pkT (rs := [(17, .p .bool ((decide (a0 ≤ 90)) : Bool))]) rfl rfl o0 hc4 (.bool _ _)) (.cons (mvU (v := .p .bool true) rfl rfl) (.cons (skU rfl rfl rfl) (.cons (skU rfl rfl rfl) (.cons (pkT (rs := [(25, .p .bool true)]) rfl rfl o0 rfl (.bool _ _)) (.cons (mvA (v := .p .bool true) rfl rfl) .nil))))))))))))))))))))))))))) (by kernel_rfl) (by kernel_rfl) (by kernel_rfl) (cvR _) ?_
          refine tnU ?_
          refine WpC.ret ?_
          have hq := Option.some.inj h
          subst hq
          exact ends_ret (retV_1 rfl (.head _)) ain_nil
        · replace h := ite_f hc4 h
          rcases bool_cases (decide (a0 ≥ 48)) with hc5 | hc5
          · replace h := ite_t hc5 h
            rcases bool_cases (decide (a0 ≤ 57)) with hc6 | hc6
            · replace h := ite_t hc6 h
              refine rgU (st1 := ⟨[(2, .p .bool true)], []⟩) [2] [] hN (.cons (mvU (v := .p (.int .u8) a0) rfl rfl) (.cons (cmU (rs := [(3, .p (.int .u8) a0)]) rfl rfl o0 (.int _ _ _) rfl) (.cons (mvU (v := .p .bool ((decide (a0 ≥ 97)) : Bool)) rfl rfl) (.cons (sok_run rfl rfl hc1 (mvU (v := .p (.int .u8) a0) rfl rfl)) (.cons (sok_run rfl rfl hc1 (cmU (rs := [(6, .p (.int .u8) a0)]) rfl rfl o0 (.int _ _ _) rfl)) (.cons (pkT (rs := [(5, .p .bool ((decide (a0 ≥ 97)) : Bool)), (7, .p .bool ((decide (a0 ≤ 122)) : Bool))]) rfl rfl o0 hc1 o1) (.cons (mvU (v := .p .bool ((decide (a0 ≤ 122)) : Bool)) rfl rfl) (.cons (sok_run rfl rfl hc2 (mvU (v := .p (.int .u8) a0) rfl rfl)) (.cons (sok_run rfl rfl hc2 (cmU (rs := [(10, .p (.int .u8) a0)]) rfl rfl o0 (.int _ _ _) rfl)) (.cons (sok_run rfl rfl hc2 (mvU (v := .p .bool ((decide (a0 ≥ 65)) : Bool)) rfl rfl)) (.cons (sok_run rfl rfl hc3 (mvU (v := .p (.int .u8) a0) rfl rfl)) (.cons (sok_run rfl rfl hc3 (cmU (rs := [(13, .p (.int .u8) a0)]) rfl rfl o0 (.int _ _ _) rfl)) (.cons (sok_run rfl rfl hc2 (pkT (rs := [(12, .p .bool ((decide (a0 ≥ 65)) : Bool)), (14, .p .bool ((decide (a0 ≤ 90)) : Bool))]) rfl rfl o0 hc3 o1)) (.cons (pkF (rs := [(9, .p .bool ((decide (a0 ≤ 122)) : Bool)), (15, .p .bool ((decide (a0 ≤ 90)) : Bool))]) rfl rfl o0 hc2 o1) (.cons (mvU (v := .p .bool ((decide (a0 ≤ 90)) : Bool)) rfl rfl) (.cons (sok_run rfl rfl hc4 (mvU (v := .p (.int .u8) a0) rfl rfl)) (.cons (sok_run rfl rfl hc4 (cmU (rs := [(18, .p (.int .u8) a0)]) rfl rfl o0 (.int _ _ _) rfl)) (.cons (sok_run rfl rfl hc4 (mvU (v := .p .bool ((decide (a0 ≥ 48)) : Bool)) rfl rfl)) (.cons (sok_run rfl rfl hc5 (mvU (v := .p (.int .u8) a0) rfl rfl)) (.cons (sok_run rfl rfl hc5 (cmU (rs := [(21, .p (.int .u8) a0)]) rfl rfl o0 (.int _ _ _) rfl)) (.cons (sok_run rfl rfl hc4 (pkT (rs := [(20, .p .bool ((decide (a0 ≥ 48)) : Bool)), (22, .p .bool ((decide (a0 ≤ 57)) : Bool))]) rfl rfl o0 hc5 o1)) (.cons (pkF (rs := [(17, .p .bool ((decide (a0 ≤ 90)) : Bool)), (23, .p .bool ((decide (a0 ≤ 57)) : Bool))]) rfl rfl o0 hc4 o1) (.cons (mvU (v := .p .bool ((decide (a0 ≤ 57)) : Bool)) rfl rfl) (.cons (skU rfl rfl hc6) (.cons (skU rfl rfl hc6) (.cons (pkT (rs := [(25, .p .bool ((decide (a0 ≤ 57)) : Bool))]) rfl rfl o0 hc6 (.bool _ _)) (.cons (mvA (v := .p .bool true) rfl rfl) .nil))))))))))))))))))))))))))) (by kernel_rfl) (by kernel_rfl) (by kernel_rfl) (cvR _) ?_
              refine tnU ?_
              refine WpC.ret ?_
              have hq := Option.some.inj h
              subst hq
              exact ends_ret (retV_1 rfl (.head _)) ain_nil
            · replace h := ite_f hc6 h
              refine rgU (st1 := ⟨[(2, .p .bool ((a0 == 95) : Bool))], []⟩) [2] [] hN (.cons (mvU (v := .p (.int .u8) a0) rfl rfl) (.cons (cmU (rs := [(3, .p (.int .u8) a0)]) rfl rfl o0 (.int _ _ _) rfl) (.cons (mvU (v := .p .bool ((decide (a0 ≥ 97)) : Bool)) rfl rfl) (.cons (sok_run rfl rfl hc1 (mvU (v := .p (.int .u8) a0) rfl rfl)) (.cons (sok_run rfl rfl hc1 (cmU (rs := [(6, .p (.int .u8) a0)]) rfl rfl o0 (.int _ _ _) rfl)) (.cons (pkT (rs := [(5, .p .bool ((decide (a0 ≥ 97)) : Bool)), (7, .p .bool ((decide (a0 ≤ 122)) : Bool))]) rfl rfl o0 hc1 o1) (.cons (mvU (v := .p .bool ((decide (a0 ≤ 122)) : Bool)) rfl rfl) (.cons (sok_run rfl rfl hc2 (mvU (v := .p (.int .u8) a0) rfl rfl)) (.cons (sok_run rfl rfl hc2 (cmU (rs := [(10, .p (.int .u8) a0)]) rfl rfl o0 (.int _ _ _) rfl)) (.cons (sok_run rfl rfl hc2 (mvU (v := .p .bool ((decide (a0 ≥ 65)) : Bool)) rfl rfl)) (.cons (sok_run rfl rfl hc3 (mvU (v := .p (.int .u8) a0) rfl rfl)) (.cons (sok_run rfl rfl hc3 (cmU (rs := [(13, .p (.int .u8) a0)]) rfl rfl o0 (.int _ _ _) rfl)) (.cons (sok_run rfl rfl hc2 (pkT (rs := [(12, .p .bool ((decide (a0 ≥ 65)) : Bool)), (14, .p .bool ((decide (a0 ≤ 90)) : Bool))]) rfl rfl o0 hc3 o1)) (.cons (pkF (rs := [(9, .p .bool ((decide (a0 ≤ 122)) : Bool)), (15, .p .bool ((decide (a0 ≤ 90)) : Bool))]) rfl rfl o0 hc2 o1) (.cons (mvU (v := .p .bool ((decide (a0 ≤ 90)) : Bool)) rfl rfl) (.cons (sok_run rfl rfl hc4 (mvU (v := .p (.int .u8) a0) rfl rfl)) (.cons (sok_run rfl rfl hc4 (cmU (rs := [(18, .p (.int .u8) a0)]) rfl rfl o0 (.int _ _ _) rfl)) (.cons (sok_run rfl rfl hc4 (mvU (v := .p .bool ((decide (a0 ≥ 48)) : Bool)) rfl rfl)) (.cons (sok_run rfl rfl hc5 (mvU (v := .p (.int .u8) a0) rfl rfl)) (.cons (sok_run rfl rfl hc5 (cmU (rs := [(21, .p (.int .u8) a0)]) rfl rfl o0 (.int _ _ _) rfl)) (.cons (sok_run rfl rfl hc4 (pkT (rs := [(20, .p .bool ((decide (a0 ≥ 48)) : Bool)), (22, .p .bool ((decide (a0 ≤ 57)) : Bool))]) rfl rfl o0 hc5 o1)) (.cons (pkF (rs := [(17, .p .bool ((decide (a0 ≤ 90)) : Bool)), (23, .p .bool ((decide (a0 ≤ 57)) : Bool))]) rfl rfl o0 hc4 o1) (.cons (mvU (v := .p .bool ((decide (a0 ≤ 57)) : Bool)) rfl rfl) (.cons (sok_run rfl rfl hc6 (mvU (v := .p (.int .u8) a0) rfl rfl)) (.cons (sok_run rfl rfl hc6 (cmU (rs := [(26, .p (.int .u8) a0)]) rfl rfl o0 (.int _ _ _) rfl)) (.cons (pkF (rs := [(25, .p .bool ((decide (a0 ≤ 57)) : Bool)), (27, .p .bool ((a0 == 95) : Bool))]) rfl rfl o0 hc6 o1) (.cons (mvA (v := .p .bool ((a0 == 95) : Bool)) rfl rfl) .nil))))))))))))))))))))))))))) (by kernel_rfl) (by kernel_rfl) (by kernel_rfl) (cvR _) ?_
              refine tnU ?_
              refine WpC.ret ?_
              have hq := Option.some.inj h
              subst hq
              exact ends_ret (retV_1 rfl (.head _)) ain_nil
          · replace h := ite_f hc5 h
            refine rgU (st1 := ⟨[(2, .p .bool ((a0 == 95) : Bool))], []⟩) [2] [] hN (.cons (mvU (v := .p (.int .u8) a0) rfl rfl) (.cons (cmU (rs := [(3, .p (.int .u8) a0)]) rfl rfl o0 (.int _ _ _) rfl) (.cons (mvU (v := .p .bool ((decide (a0 ≥ 97)) : Bool)) rfl rfl) (.cons (sok_run rfl rfl hc1 (mvU (v := .p (.int .u8) a0) rfl rfl)) (.cons (sok_run rfl rfl hc1 (cmU (rs := [(6, .p (.int .u8) a0)]) rfl rfl o0 (.int _ _ _) rfl)) (.cons (pkT (rs := [(5, .p .bool ((decide (a0 ≥ 97)) : Bool)), (7, .p .bool ((decide (a0 ≤ 122)) : Bool))]) rfl rfl o0 hc1 o1) (.cons (mvU (v := .p .bool ((decide (a0 ≤ 122)) : Bool)) rfl rfl) (.cons (sok_run rfl rfl hc2 (mvU (v := .p (.int .u8) a0) rfl rfl)) (.cons (sok_run rfl rfl hc2 (cmU (rs := [(10, .p (.int .u8) a0)]) rfl rfl o0 (.int _ _ _) rfl)) (.cons (sok_run rfl rfl hc2 (mvU (v := .p .bool ((decide (a0 ≥ 65)) : Bool)) rfl rfl)) (.cons (sok_run rfl rfl hc3 (mvU (v := .p (.int .u8) a0) rfl rfl)) (.cons (sok_run rfl rfl hc3 (cmU (rs := [(13, .p (.int .u8) a0)]) rfl rfl o0 (.int _ _ _) rfl)) (.cons (sok_run rfl rfl hc2 (pkT (rs := [(12, .p .bool ((decide (a0 ≥ 65)) : Bool)), (14, .p .bool ((decide (a0 ≤ 90)) : Bool))]) rfl rfl o0 hc3 o1)) (.cons (pkF (rs := [(9, .p .bool ((decide (a0 ≤ 122)) : Bool)), (15, .p .bool ((decide (a0 ≤ 90)) : Bool))]) rfl rfl o0 hc2 o1) (.cons (mvU (v := .p .bool ((decide (a0 ≤ 90)) : Bool)) rfl rfl) (.cons (sok_run rfl rfl hc4 (mvU (v := .p (.int .u8) a0) rfl rfl)) (.cons (sok_run rfl rfl hc4 (cmU (rs := [(18, .p (.int .u8) a0)]) rfl rfl o0 (.int _ _ _) rfl)) (.cons (sok_run rfl rfl hc4 (mvU (v := .p .bool ((decide (a0 ≥ 48)) : Bool)) rfl rfl)) (.cons (skU rfl rfl hc5) (.cons (skU rfl rfl hc5) (.cons (sok_run rfl rfl hc4 (pkF (rs := [(20, .p .bool ((decide (a0 ≥ 48)) : Bool))]) rfl rfl o0 hc5 (.bool _ _))) (.cons (pkF (rs := [(17, .p .bool ((decide (a0 ≤ 90)) : Bool)), (23, .p .bool false)]) rfl rfl o0 hc4 o1) (.cons (mvU (v := .p .bool false) rfl rfl) (.cons (sok_run rfl rfl rfl (mvU (v := .p (.int .u8) a0) rfl rfl)) (.cons (sok_run rfl rfl rfl (cmU (rs := [(26, .p (.int .u8) a0)]) rfl rfl o0 (.int _ _ _) rfl)) (.cons (pkF (rs := [(25, .p .bool false), (27, .p .bool ((a0 == 95) : Bool))]) rfl rfl o0 rfl o1) (.cons (mvA (v := .p .bool ((a0 == 95) : Bool)) rfl rfl) .nil))))))))))))))))))))))))))) (by kernel_rfl) (by kernel_rfl) (by kernel_rfl) (cvR _) ?_
            refine tnU ?_
            refine WpC.ret ?_
            have hq := Option.some.inj h
            subst hq
            exact ends_ret (retV_1 rfl (.head _)) ain_nil
      · replace h := ite_f hc3 h
        rcases bool_cases (decide (a0 ≥ 48)) with hc7 | hc7
        · replace h := ite_t hc7 h
          rcases bool_cases (decide (a0 ≤ 57)) with hc8 | hc8
          · replace h := ite_t hc8 h
            refine rgU (st1 := ⟨[(2, .p .bool true)], []⟩) [2] [] hN (.cons (mvU (v := .p (.int .u8) a0) rfl rfl) (.cons (cmU (rs := [(3, .p (.int .u8) a0)]) rfl rfl o0 (.int _ _ _) rfl) (.cons (mvU (v := .p .bool ((decide (a0 ≥ 97)) : Bool)) rfl rfl) (.cons (sok_run rfl rfl hc1 (mvU (v := .p (.int .u8) a0) rfl rfl)) (.cons (sok_run rfl rfl hc1 (cmU (rs := [(6, .p (.int .u8) a0)]) rfl rfl o0 (.int _ _ _) rfl)) (.cons (pkT (rs := [(5, .p .bool ((decide (a0 ≥ 97)) : Bool)), (7, .p .bool ((decide (a0 ≤ 122)) : Bool))]) rfl rfl o0 hc1 o1) (.cons (mvU (v := .p .bool ((decide (a0 ≤ 122)) : Bool)) rfl rfl) (.cons (sok_run rfl rfl hc2 (mvU (v := .p (.int .u8) a0) rfl rfl)) (.cons (sok_run rfl rfl hc2 (cmU (rs := [(10, .p (.int .u8) a0)]) rfl rfl o0 (.int _ _ _) rfl)) (.cons (sok_run rfl rfl hc2 (mvU (v := .p .bool ((decide (a0 ≥ 65)) : Bool)) rfl rfl)) (.cons (skU rfl rfl hc3) (.cons (skU rfl rfl hc3) (.cons (sok_run rfl rfl hc2 (pkF (rs := [(12, .p .bool ((decide (a0 ≥ 65)) : Bool))]) rfl rfl o0 hc3 (.bool _ _))) (.cons (pkF (rs := [(9, .p .bool ((decide (a0 ≤ 122)) : Bool)), (15, .p .bool false)]) rfl rfl o0 hc2 o1) (.cons (mvU (v := .p .bool false) rfl rfl) (.cons (sok_run rfl rfl rfl (mvU (v := .p (.int .u8) a0) rfl rfl)) (.cons (sok_run rfl rfl rfl (cmU (rs := [(18, .p (.int .u8) a0)]) rfl rfl o0 (.int _ _ _) rfl)) (.cons (sok_run rfl rfl rfl (mvU (v := .p .bool ((decide (a0 ≥ 48)) : Bool)) rfl rfl)) (.cons (sok_run rfl rfl hc7 (mvU (v := .p (.int .u8) a0) rfl rfl)) (.cons (sok_run rfl rfl hc7 (cmU (rs := [(21, .p (.int .u8) a0)]) rfl rfl o0 (.int _ _ _) rfl)) (.cons (sok_run rfl rfl rfl (pkT (rs := [(20, .p .bool ((decide (a0 ≥ 48)) : Bool)), (22, .p .bool ((decide (a0 ≤ 57)) : Bool))]) rfl rfl o0 hc7 o1)) (.cons (pkF (rs := [(17, .p .bool false), (23, .p .bool ((decide (a0 ≤ 57)) : Bool))]) rfl rfl o0 rfl o1) (.cons (mvU (v := .p .bool ((decide (a0 ≤ 57)) : Bool)) rfl rfl) (.cons (skU rfl rfl hc8) (.cons (skU rfl rfl hc8) (.cons (pkT (rs := [(25, .p .bool ((decide (a0 ≤ 57)) : Bool))]) rfl rfl o0 hc8 (.bool _ _)) (.cons (mvA (v := .p .bool true) rfl rfl) .nil))))))))))))))))))))))))))) (by kernel_rfl) (by kernel_rfl) (by kernel_rfl) (cvR _) ?_
            refine tnU ?_
            refine WpC.ret ?_
            have hq := Option.some.inj h
            subst hq
            exact ends_ret (retV_1 rfl (.head _)) ain_nil
          · replace h := ite_f hc8 h
            refine rgU (st1 := ⟨[(2, .p .bool ((a0 == 95) : Bool))], []⟩) [2] [] hN (.cons (mvU (v := .p (.int .u8) a0) rfl rfl) (.cons (cmU (rs := [(3, .p (.int .u8) a0)]) rfl rfl o0 (.int _ _ _) rfl) (.cons (mvU (v := .p .bool ((decide (a0 ≥ 97)) : Bool)) rfl rfl) (.cons (sok_run rfl rfl hc1 (mvU (v := .p (.int .u8) a0) rfl rfl)) (.cons (sok_run rfl rfl hc1 (cmU (rs := [(6, .p (.int .u8) a0)]) rfl rfl o0 (.int _ _ _) rfl)) (.cons (pkT (rs := [(5, .p .bool ((decide (a0 ≥ 97)) : Bool)), (7, .p .bool ((decide (a0 ≤ 122)) : Bool))]) rfl rfl o0 hc1 o1) (.cons (mvU (v := .p .bool ((decide (a0 ≤ 122)) : Bool)) rfl rfl) (.cons (sok_run rfl rfl hc2 (mvU (v := .p (.int .u8) a0) rfl rfl)) (.cons (sok_run rfl rfl hc2 (cmU (rs := [(10, .p (.int .u8) a0)]) rfl rfl o0 (.int _ _ _) rfl)) (.cons (sok_run rfl rfl hc2 (mvU (v := .p .bool ((decide (a0 ≥ 65)) : Bool)) rfl rfl)) (.cons (skU rfl rfl hc3) (.cons (skU rfl rfl hc3) (.cons (sok_run rfl rfl hc2 (pkF (rs := [(12, .p .bool ((decide (a0 ≥ 65)) : Bool))]) rfl rfl o0 hc3 (.bool _ _))) (.cons (pkF (rs := [(9, .p .bool ((decide (a0 ≤ 122)) : Bool)), (15, .p .bool false)]) rfl rfl o0 hc2 o1) (.cons (mvU (v := .p .bool false) rfl rfl) (.cons (sok_run rfl rfl rfl (mvU (v := .p (.int .u8) a0) rfl rfl)) (.cons (sok_run rfl rfl rfl (cmU (rs := [(18, .p (.int .u8) a0)]) rfl rfl o0 (.int _ _ _) rfl)) (.cons (sok_run rfl rfl rfl (mvU (v := .p .bool ((decide (a0 ≥ 48)) : Bool)) rfl rfl)) (.cons (sok_run rfl rfl hc7 (mvU (v := .p (.int .u8) a0) rfl rfl)) (.cons (sok_run rfl rfl hc7 (cmU (rs := [(21, .p (.int .u8) a0)]) rfl rfl o0 (.int _ _ _) rfl)) (.cons (sok_run rfl rfl rfl (pkT (rs := [(20, .p .bool ((decide (a0 ≥ 48)) : Bool)), (22, .p .bool ((decide (a0 ≤ 57)) : Bool))]) rfl rfl o0 hc7 o1)) (.cons (pkF (rs := [(17, .p .bool false), (23, .p .bool ((decide (a0 ≤ 57)) : Bool))]) rfl rfl o0 rfl o1) (.cons (mvU (v := .p .bool ((decide (a0 ≤ 57)) : Bool)) rfl rfl) (.cons (sok_run rfl rfl hc8 (mvU (v := .p (.int .u8) a0) rfl rfl)) (.cons (sok_run rfl rfl hc8 (cmU (rs := [(26, .p (.int .u8) a0)]) rfl rfl o0 (.int _ _ _) rfl)) (.cons (pkF (rs := [(25, .p .bool ((decide (a0 ≤ 57)) : Bool)), (27, .p .bool ((a0 == 95) : Bool))]) rfl rfl o0 hc8 o1) (.cons (mvA (v := .p .bool ((a0 == 95) : Bool)) rfl rfl) .nil))))))))))))))))))))))))))) (by kernel_rfl) (by kernel_rfl) (by kernel_rfl) (cvR _) ?_
            refine tnU ?_
            refine WpC.ret ?_
            have hq := Option.some.inj h
            subst hq
            exact ends_ret (retV_1 rfl (.head _)) ain_nil
        · replace h := ite_f hc7 h
          refine rgU (st1 := ⟨[(2, .p .bool ((a0 == 95) : Bool))], []⟩) [2] [] hN (.cons (mvU (v := .p (.int .u8) a0) rfl rfl) (.cons (cmU (rs := [(3, .p (.int .u8) a0)]) rfl rfl o0 (.int _ _ _) rfl) (.cons (mvU (v := .p .bool ((decide (a0 ≥ 97)) : Bool)) rfl rfl) (.cons (sok_run rfl rfl hc1 (mvU (v := .p (.int .u8) a0) rfl rfl)) (.cons (sok_run rfl rfl hc1 (cmU (rs := [(6, .p (.int .u8) a0)]) rfl rfl o0 (.int _ _ _) rfl)) (.cons (pkT (rs := [(5, .p .bool ((decide (a0 ≥ 97)) : Bool)), (7, .p .bool ((decide (a0 ≤ 122)) : Bool))]) rfl rfl o0 hc1 o1) (.cons (mvU (v := .p .bool ((decide (a0 ≤ 122)) : Bool)) rfl rfl) (.cons (sok_run rfl rfl hc2 (mvU (v := .p (.int .u8) a0) rfl rfl)) (.cons (sok_run rfl rfl hc2 (cmU (rs := [(10, .p (.int .u8) a0)]) rfl rfl o0 (.int _ _ _) rfl)) (.cons (sok_run rfl rfl hc2 (mvU (v := .p .bool ((decide (a0 ≥ 65)) : Bool)) rfl rfl)) (.cons (skU rfl rfl hc3) (.cons (skU rfl rfl hc3) (.cons (sok_run rfl rfl hc2 (pkF (rs := [(12, .p .bool ((decide (a0 ≥ 65)) : Bool))]) rfl rfl o0 hc3 (.bool _ _))) (.cons (pkF (rs := [(9, .p .bool ((decide (a0 ≤ 122)) : Bool)), (15, .p .bool false)]) rfl rfl o0 hc2 o1) (.cons (mvU (v := .p .bool false) rfl rfl) (.cons (sok_run rfl rfl rfl (mvU (v := .p (.int .u8) a0) rfl rfl)) (.cons (sok_run rfl rfl rfl (cmU (rs := [(18, .p (.int .u8) a0)]) rfl rfl o0 (.int _ _ _) rfl)) (.cons (sok_run rfl rfl rfl (mvU (v := .p .bool ((decide (a0 ≥ 48)) : Bool)) rfl rfl)) (.cons (skU rfl rfl hc7) (.cons (skU rfl rfl hc7) (.cons (sok_run rfl rfl rfl (pkF (rs := [(20, .p .bool ((decide (a0 ≥ 48)) : Bool))]) rfl rfl o0 hc7 (.bool _ _))) (.cons (pkF (rs := [(17, .p .bool false), (23, .p .bool false)]) rfl rfl o0 rfl o1) (.cons (mvU (v := .p .bool false) rfl rfl) (.cons (sok_run rfl rfl rfl (mvU (v := .p (.int .u8) a0) rfl rfl)) (.cons (sok_run rfl rfl rfl (cmU (rs := [(26, .p (.int .u8) a0)]) rfl rfl o0 (.int _ _ _) rfl)) (.cons (pkF (rs := [(25, .p .bool false), (27, .p .bool ((a0 == 95) : Bool))]) rfl rfl o0 rfl o1) (.cons (mvA (v := .p .bool ((a0 == 95) : Bool)) rfl rfl) .nil))))))))))))))))))))))))))) (by kernel_rfl) (by kernel_rfl) (by kernel_rfl) (cvR _) ?_
          refine tnU ?_
          refine WpC.ret ?_
          have hq := Option.some.inj h
          subst hq
          exact ends_ret (retV_1 rfl (.head _)) ain_nil
  · replace h := ite_f hc1 h
    rcases bool_cases (decide (a0 ≥ 65)) with hc9 | hc9
    · replace h := ite_t hc9 h
      rcases bool_cases (decide (a0 ≤ 90)) with hc10 | hc10
      · replace h := ite_t hc10 h
        refine rgU (st1 := ⟨[(2, .p .bool true)], []⟩) [2] [] hN (.cons (mvU (v := .p (.int .u8) a0) rfl rfl) (.cons (cmU (rs := [(3, .p (.int .u8) a0)]) rfl rfl o0 (.int _ _ _) rfl) (.cons (mvU (v := .p .bool ((decide (a0 ≥ 97)) : Bool)) rfl rfl) (.cons (skU rfl rfl hc1) (.cons (skU rfl rfl hc1) (.cons (pkF (rs := [(5, .p .bool ((decide (a0 ≥ 97)) : Bool))]) rfl rfl o0 hc1 (.bool _ _)) (.cons (mvU (v := .p .bool false) rfl rfl) (.cons (sok_run rfl rfl rfl (mvU (v := .p (.int .u8) a0) rfl rfl)) (.cons (sok_run rfl rfl rfl (cmU (rs := [(10, .p (.int .u8) a0)]) rfl rfl o0 (.int _ _ _) rfl)) (.cons (sok_run rfl rfl rfl (mvU (v := .p .bool ((decide (a0 ≥ 65)) : Bool)) rfl rfl)) (.cons (sok_run rfl rfl hc9 (mvU (v := .p (.int .u8) a0) rfl rfl)) (.cons (sok_run rfl rfl hc9 (cmU (rs := [(13, .p (.int .u8) a0)]) rfl rfl o0 (.int _ _ _) rfl)) (.cons (sok_run rfl rfl rfl (pkT (rs := [(12, .p .bool ((decide (a0 ≥ 65)) : Bool)), (14, .p .bool ((decide (a0 ≤ 90)) : Bool))]) rfl rfl o0 hc9 o1)) (.cons (pkF (rs := [(9, .p .bool false), (15, .p .bool ((decide (a0 ≤ 90)) : Bool))]) rfl rfl o0 rfl o1) (.cons (mvU (v := .p .bool ((decide (a0 ≤ 90)) : Bool)) rfl rfl) (.cons (skU rfl rfl hc10) (.cons (skU rfl rfl hc10) (.cons (skU rfl rfl hc10) (.cons (sok_skipU rfl rfl) (.cons (sok_skipU rfl rfl) (.cons (skU rfl rfl hc10) (.cons (pkT (rs := [(17, .p .bool ((decide (a0 ≤ 90)) : Bool))]) rfl rfl o0 hc10 (.bool _ _)) (.cons (mvU (v := .p .bool true) rfl rfl) (.cons (skU rfl rfl rfl) (.cons (skU rfl rfl rfl) (.cons (pkT (rs := [(25, .p .bool true)]) rfl rfl o0 rfl (.bool _ _)) (.cons (mvA (v := .p .bool true) rfl rfl) .nil))))))))))))))))))))))))))) (by kernel_rfl) (by kernel_rfl) (by kernel_rfl) (cvR _) ?_
        refine tnU ?_
        refine WpC.ret ?_
        have hq := Option.some.inj h
        subst hq
        exact ends_ret (retV_1 rfl (.head _)) ain_nil
      · replace h := ite_f hc10 h
        rcases bool_cases (decide (a0 ≥ 48)) with hc11 | hc11
        · replace h := ite_t hc11 h
          rcases bool_cases (decide (a0 ≤ 57)) with hc12 | hc12
          · replace h := ite_t hc12 h
            refine rgU (st1 := ⟨[(2, .p .bool true)], []⟩) [2] [] hN (.cons (mvU (v := .p (.int .u8) a0) rfl rfl) (.cons (cmU (rs := [(3, .p (.int .u8) a0)]) rfl rfl o0 (.int _ _ _) rfl) (.cons (mvU (v := .p .bool ((decide (a0 ≥ 97)) : Bool)) rfl rfl) (.cons (skU rfl rfl hc1) (.cons (skU rfl rfl hc1) (.cons (pkF (rs := [(5, .p .bool ((decide (a0 ≥ 97)) : Bool))]) rfl rfl o0 hc1 (.bool _ _)) (.cons (mvU (v := .p .bool false) rfl rfl) (.cons (sok_run rfl rfl rfl (mvU (v := .p (.int .u8) a0) rfl rfl)) (.cons (sok_run rfl rfl rfl (cmU (rs := [(10, .p (.int .u8) a0)]) rfl rfl o0 (.int _ _ _) rfl)) (.cons (sok_run rfl rfl rfl (mvU (v := .p .bool ((decide (a0 ≥ 65)) : Bool)) rfl rfl)) (.cons (sok_run rfl rfl hc9 (mvU (v := .p (.int .u8) a0) rfl rfl)) (.cons (sok_run rfl rfl hc9 (cmU (rs := [(13, .p (.int .u8) a0)]) rfl rfl o0 (.int _ _ _) rfl)) (.cons (sok_run rfl rfl rfl (pkT (rs := [(12, .p .bool ((decide (a0 ≥ 65)) : Bool)), (14, .p .bool ((decide (a0 ≤ 90)) : Bool))]) rfl rfl o0 hc9 o1)) (.cons (pkF (rs := [(9, .p .bool false), (15, .p .bool ((decide (a0 ≤ 90)) : Bool))]) rfl rfl o0 rfl o1) (.cons (mvU (v := .p .bool ((decide (a0 ≤ 90)) : Bool)) rfl rfl) (.cons (sok_run rfl rfl hc10 (mvU (v := .p (.int .u8) a0) rfl rfl)) (.cons (sok_run rfl rfl hc10 (cmU (rs := [(18, .p (.int .u8) a0)]) rfl rfl o0 (.int _ _ _) rfl)) (.cons (sok_run rfl rfl hc10 (mvU (v := .p .bool ((decide (a0 ≥ 48)) : Bool)) rfl rfl)) (.cons (sok_run rfl rfl hc11 (mvU (v := .p (.int .u8) a0) rfl rfl)) (.cons (sok_run rfl rfl hc11 (cmU (rs := [(21, .p (.int .u8) a0)]) rfl rfl o0 (.int _ _ _) rfl)) (.cons (sok_run rfl rfl hc10 (pkT (rs := [(20, .p .bool ((decide (a0 ≥ 48)) : Bool)), (22, .p .bool ((decide (a0 ≤ 57)) : Bool))]) rfl rfl o0 hc11 o1)) (.cons (pkF (rs := [(17, .p .bool ((decide (a0 ≤ 90)) : Bool)), (23, .p .bool ((decide (a0 ≤ 57)) : Bool))]) rfl rfl o0 hc10 o1) (.cons (mvU (v := .p .bool ((decide (a0 ≤ 57)) : Bool)) rfl rfl) (.cons (skU rfl rfl hc12) (.cons (skU rfl rfl hc12) (.cons (pkT (rs := [(25, .p .bool ((decide (a0 ≤ 57)) : Bool))]) rfl rfl o0 hc12 (.bool _ _)) (.cons (mvA (v := .p .bool true) rfl rfl) .nil))))))))))))))))))))))))))) (by kernel_rfl) (by kernel_rfl) (by kernel_rfl) (cvR _) ?_
            refine tnU ?_
            refine WpC.ret ?_
            have hq := Option.some.inj h
            subst hq
            exact ends_ret (retV_1 rfl (.head _)) ain_nil
          · replace h := ite_f hc12 h
            refine rgU (st1 := ⟨[(2, .p .bool ((a0 == 95) : Bool))], []⟩) [2] [] hN (.cons (mvU (v := .p (.int .u8) a0) rfl rfl) (.cons (cmU (rs := [(3, .p (.int .u8) a0)]) rfl rfl o0 (.int _ _ _) rfl) (.cons (mvU (v := .p .bool ((decide (a0 ≥ 97)) : Bool)) rfl rfl) (.cons (skU rfl rfl hc1) (.cons (skU rfl rfl hc1) (.cons (pkF (rs := [(5, .p .bool ((decide (a0 ≥ 97)) : Bool))]) rfl rfl o0 hc1 (.bool _ _)) (.cons (mvU (v := .p .bool false) rfl rfl) (.cons (sok_run rfl rfl rfl (mvU (v := .p (.int .u8) a0) rfl rfl)) (.cons (sok_run rfl rfl rfl (cmU (rs := [(10, .p (.int .u8) a0)]) rfl rfl o0 (.int _ _ _) rfl)) (.cons (sok_run rfl rfl rfl (mvU (v := .p .bool ((decide (a0 ≥ 65)) : Bool)) rfl rfl)) (.cons (sok_run rfl rfl hc9 (mvU (v := .p (.int .u8) a0) rfl rfl)) (.cons (sok_run rfl rfl hc9 (cmU (rs := [(13, .p (.int .u8) a0)]) rfl rfl o0 (.int _ _ _) rfl)) (.cons (sok_run rfl rfl rfl (pkT (rs := [(12, .p .bool ((decide (a0 ≥ 65)) : Bool)), (14, .p .bool ((decide (a0 ≤ 90)) : Bool))]) rfl rfl o0 hc9 o1)) (.cons (pkF (rs := [(9, .p .bool false), (15, .p .bool ((decide (a0 ≤ 90)) : Bool))]) rfl rfl o0 rfl o1) (.cons (mvU (v := .p .bool ((decide (a0 ≤ 90)) : Bool)) rfl rfl) (.cons (sok_run rfl rfl hc10 (mvU (v := .p (.int .u8) a0) rfl rfl)) (.cons (sok_run rfl rfl hc10 (cmU (rs := [(18, .p (.int .u8) a0)]) rfl rfl o0 (.int _ _ _) rfl)) (.cons (sok_run rfl rfl hc10 (mvU (v := .p .bool ((decide (a0 ≥ 48)) : Bool)) rfl rfl)) (.cons (sok_run rfl rfl hc11 (mvU (v := .p (.int .u8) a0) rfl rfl)) (.cons (sok_run rfl rfl hc11 (cmU (rs := [(21, .p (.int .u8) a0)]) rfl rfl o0 (.int _ _ _) rfl)) (.cons (sok_run rfl rfl hc10 (pkT (rs := [(20, .p .bool ((decide (a0 ≥ 48)) : Bool)), (22, .p .bool ((decide (a0 ≤ 57)) : Bool))]) rfl rfl o0 hc11 o1)) (.cons (pkF (rs := [(17, .p .bool ((decide (a0 ≤ 90)) : Bool)), (23, .p .bool ((decide (a0 ≤ 57)) : Bool))]) rfl rfl o0 hc10 o1) (.cons (mvU (v := .p .bool ((decide (a0 ≤ 57)) : Bool)) rfl rfl) (.cons (sok_run rfl rfl hc12 (mvU (v := .p (.int .u8) a0) rfl rfl)) (.cons (sok_run rfl rfl hc12 (cmU (rs := [(26, .p (.int .u8) a0)]) rfl rfl o0 (.int _ _ _) rfl)) (.cons (pkF (rs := [(25, .p .bool ((decide (a0 ≤ 57)) : Bool)), (27, .p .bool ((a0 == 95) : Bool))]) rfl rfl o0 hc12 o1) (.cons (mvA (v := .p .bool ((a0 == 95) : Bool)) rfl rfl) .nil))))))))))))))))))))))))))) (by kernel_rfl) (by kernel_rfl) (by kernel_rfl) (cvR _) ?_
            refine tnU ?_
            refine WpC.ret ?_
            have hq := Option.some.inj h
            subst hq
            exact ends_ret (retV_1 rfl (.head _)) ain_nil
        · replace h := ite_f hc11 h
          refine rgU (st1 := ⟨[(2, .p .bool ((a0 == 95) : Bool))], []⟩) [2] [] hN (.cons (mvU (v := .p (.int .u8) a0) rfl rfl) (.cons (cmU (rs := [(3, .p (.int .u8) a0)]) rfl rfl o0 (.int _ _ _) rfl) (.cons (mvU (v := .p .bool ((decide (a0 ≥ 97)) : Bool)) rfl rfl) (.cons (skU rfl rfl hc1) (.cons (skU rfl rfl hc1) (.cons (pkF (rs := [(5, .p .bool ((decide (a0 ≥ 97)) : Bool))]) rfl rfl o0 hc1 (.bool _ _)) (.cons (mvU (v := .p .bool false) rfl rfl) (.cons (sok_run rfl rfl rfl (mvU (v := .p (.int .u8) a0) rfl rfl)) (.cons (sok_run rfl rfl rfl (cmU (rs := [(10, .p (.int .u8) a0)]) rfl rfl o0 (.int _ _ _) rfl)) (.cons (sok_run rfl rfl rfl (mvU (v := .p .bool ((decide (a0 ≥ 65)) : Bool)) rfl rfl)) (.cons (sok_run rfl rfl hc9 (mvU (v := .p (.int .u8) a0) rfl rfl)) (.cons (sok_run rfl rfl hc9 (cmU (rs := [(13, .p (.int .u8) a0)]) rfl rfl o0 (.int _ _ _) rfl)) (.cons (sok_run rfl rfl rfl (pkT (rs := [(12, .p .bool ((decide (a0 ≥ 65)) : Bool)), (14, .p .bool ((decide (a0 ≤ 90)) : Bool))]) rfl rfl o0 hc9 o1)) (.cons (pkF (rs := [(9, .p .bool false), (15, .p .bool ((decide (a0 ≤ 90)) : Bool))]) rfl rfl o0 rfl o1) (.cons (mvU (v := .p .bool ((decide (a0 ≤ 90)) : Bool)) rfl rfl) (.cons (sok_run rfl rfl hc10 (mvU (v := .p (.int .u8) a0) rfl rfl)) (.cons (sok_run rfl rfl hc10 (cmU (rs := [(18, .p (.int .u8) a0)]) rfl rfl o0 (.int _ _ _) rfl)) (.cons (sok_run rfl rfl hc10 (mvU (v := .p .bool ((decide (a0 ≥ 48)) : Bool)) rfl rfl)) (.cons (skU rfl rfl hc11) (.cons (skU rfl rfl hc11) (.cons (sok_run rfl rfl hc10 (pkF (rs := [(20, .p .bool ((decide (a0 ≥ 48)) : Bool))]) rfl rfl o0 hc11 (.bool _ _))) (.cons (pkF (rs := [(17, .p .bool ((decide (a0 ≤ 90)) : Bool)), (23, .p .bool false)]) rfl rfl o0 hc10 o1) (.cons (mvU (v := .p .bool false) rfl rfl) (.cons (sok_run rfl rfl rfl (mvU (v := .p (.int .u8) a0) rfl rfl)) (.cons (sok_run rfl rfl rfl (cmU (rs := [(26, .p (.int .u8) a0)]) rfl rfl o0 (.int _ _ _) rfl)) (.cons (pkF (rs := [(25, .p .bool false), (27, .p .bool ((a0 == 95) : Bool))]) rfl rfl o0 rfl o1) (.cons (mvA (v := .p .bool ((a0 == 95) : Bool)) rfl rfl) .nil))))))))))))))))))))))))))) (by kernel_rfl) (by kernel_rfl) (by kernel_rfl) (cvR _) ?_
          refine tnU ?_
          refine WpC.ret ?_
          have hq := Option.some.inj h
          subst hq
          exact ends_ret (retV_1 rfl (.head _)) ain_nil
    · replace h := ite_f hc9 h
      rcases bool_cases (decide (a0 ≥ 48)) with hc13 | hc13
      · replace h := ite_t hc13 h
        rcases bool_cases (decide (a0 ≤ 57)) with hc14 | hc14
        · replace h := ite_t hc14 h
          refine rgU (st1 := ⟨[(2, .p .bool true)], []⟩) [2] [] hN (.cons (mvU (v := .p (.int .u8) a0) rfl rfl) (.cons (cmU (rs := [(3, .p (.int .u8) a0)]) rfl rfl o0 (.int _ _ _) rfl) (.cons (mvU (v := .p .bool ((decide (a0 ≥ 97)) : Bool)) rfl rfl) (.cons (skU rfl rfl hc1) (.cons (skU rfl rfl hc1) (.cons (pkF (rs := [(5, .p .bool ((decide (a0 ≥ 97)) : Bool))]) rfl rfl o0 hc1 (.bool _ _)) (.cons (mvU (v := .p .bool false) rfl rfl) (.cons (sok_run rfl rfl rfl (mvU (v := .p (.int .u8) a0) rfl rfl)) (.cons (sok_run rfl rfl rfl (cmU (rs := [(10, .p (.int .u8) a0)]) rfl rfl o0 (.int _ _ _) rfl)) (.cons (sok_run rfl rfl rfl (mvU (v := .p .bool ((decide (a0 ≥ 65)) : Bool)) rfl rfl)) (.cons (skU rfl rfl hc9) (.cons (skU rfl rfl hc9) (.cons (sok_run rfl rfl rfl (pkF (rs := [(12, .p .bool ((decide (a0 ≥ 65)) : Bool))]) rfl rfl o0 hc9 (.bool _ _))) (.cons (pkF (rs := [(9, .p .bool false), (15, .p .bool false)]) rfl rfl o0 rfl o1) (.cons (mvU (v := .p .bool false) rfl rfl) (.cons (sok_run rfl rfl rfl (mvU (v := .p (.int .u8) a0) rfl rfl)) (.cons (sok_run rfl rfl rfl (cmU (rs := [(18, .p (.int .u8) a0)]) rfl rfl o0 (.int _ _ _) rfl)) (.cons (sok_run rfl rfl rfl (mvU (v := .p .bool ((decide (a0 ≥ 48)) : Bool)) rfl rfl)) (.cons (sok_run rfl rfl hc13 (mvU (v := .p (.int .u8) a0) rfl rfl)) (.cons (sok_run rfl rfl hc13 (cmU (rs := [(21, .p (.int .u8) a0)]) rfl rfl o0 (.int _ _ _) rfl)) (.cons (sok_run rfl rfl rfl (pkT (rs := [(20, .p .bool ((decide (a0 ≥ 48)) : Bool)), (22, .p .bool ((decide (a0 ≤ 57)) : Bool))]) rfl rfl o0 hc13 o1)) (.cons (pkF (rs := [(17, .p .bool false), (23, .p .bool ((decide (a0 ≤ 57)) : Bool))]) rfl rfl o0 rfl o1) (.cons (mvU (v := .p .bool ((decide (a0 ≤ 57)) : Bool)) rfl rfl) (.cons (skU rfl rfl hc14) (.cons (skU rfl rfl hc14) (.cons (pkT (rs := [(25, .p .bool ((decide (a0 ≤ 57)) : Bool))]) rfl rfl o0 hc14 (.bool _ _)) (.cons (mvA (v := .p .bool true) rfl rfl) .nil))))))))))))))))))))))))))) (by kernel_rfl) (by kernel_rfl) (by kernel_rfl) (cvR _) ?_
          refine tnU ?_
          refine WpC.ret ?_
          have hq := Option.some.inj h
          subst hq
          exact ends_ret (retV_1 rfl (.head _)) ain_nil
        · replace h := ite_f hc14 h
          refine rgU (st1 := ⟨[(2, .p .bool ((a0 == 95) : Bool))], []⟩) [2] [] hN (.cons (mvU (v := .p (.int .u8) a0) rfl rfl) (.cons (cmU (rs := [(3, .p (.int .u8) a0)]) rfl rfl o0 (.int _ _ _) rfl) (.cons (mvU (v := .p .bool ((decide (a0 ≥ 97)) : Bool)) rfl rfl) (.cons (skU rfl rfl hc1) (.cons (skU rfl rfl hc1) (.cons (pkF (rs := [(5, .p .bool ((decide (a0 ≥ 97)) : Bool))]) rfl rfl o0 hc1 (.bool _ _)) (.cons (mvU (v := .p .bool false) rfl rfl) (.cons (sok_run rfl rfl rfl (mvU (v := .p (.int .u8) a0) rfl rfl)) (.cons (sok_run rfl rfl rfl (cmU (rs := [(10, .p (.int .u8) a0)]) rfl rfl o0 (.int _ _ _) rfl)) (.cons (sok_run rfl rfl rfl (mvU (v := .p .bool ((decide (a0 ≥ 65)) : Bool)) rfl rfl)) (.cons (skU rfl rfl hc9) (.cons (skU rfl rfl hc9) (.cons (sok_run rfl rfl rfl (pkF (rs := [(12, .p .bool ((decide (a0 ≥ 65)) : Bool))]) rfl rfl o0 hc9 (.bool _ _))) (.cons (pkF (rs := [(9, .p .bool false), (15, .p .bool false)]) rfl rfl o0 rfl o1) (.cons (mvU (v := .p .bool false) rfl rfl) (.cons (sok_run rfl rfl rfl (mvU (v := .p (.int .u8) a0) rfl rfl)) (.cons (sok_run rfl rfl rfl (cmU (rs := [(18, .p (.int .u8) a0)]) rfl rfl o0 (.int _ _ _) rfl)) (.cons (sok_run rfl rfl rfl (mvU (v := .p .bool ((decide (a0 ≥ 48)) : Bool)) rfl rfl)) (.cons (sok_run rfl rfl hc13 (mvU (v := .p (.int .u8) a0) rfl rfl)) (.cons (sok_run rfl rfl hc13 (cmU (rs := [(21, .p (.int .u8) a0)]) rfl rfl o0 (.int _ _ _) rfl)) (.cons (sok_run rfl rfl rfl (pkT (rs := [(20, .p .bool ((decide (a0 ≥ 48)) : Bool)), (22, .p .bool ((decide (a0 ≤ 57)) : Bool))]) rfl rfl o0 hc13 o1)) (.cons (pkF (rs := [(17, .p .bool false), (23, .p .bool ((decide (a0 ≤ 57)) : Bool))]) rfl rfl o0 rfl o1) (.cons (mvU (v := .p .bool ((decide (a0 ≤ 57)) : Bool)) rfl rfl) (.cons (sok_run rfl rfl hc14 (mvU (v := .p (.int .u8) a0) rfl rfl)) (.cons (sok_run rfl rfl hc14 (cmU (rs := [(26, .p (.int .u8) a0)]) rfl rfl o0 (.int _ _ _) rfl)) (.cons (pkF (rs := [(25, .p .bool ((decide (a0 ≤ 57)) : Bool)), (27, .p .bool ((a0 == 95) : Bool))]) rfl rfl o0 hc14 o1) (.cons (mvA (v := .p .bool ((a0 == 95) : Bool)) rfl rfl) .nil))))))))))))))))))))))))))) (by kernel_rfl) (by kernel_rfl) (by kernel_rfl) (cvR _) ?_
          refine tnU ?_
          refine WpC.ret ?_
          have hq := Option.some.inj h
          subst hq
          exact ends_ret (retV_1 rfl (.head _)) ain_nil
      · replace h := ite_f hc13 h
        refine rgU (st1 := ⟨[(2, .p .bool ((a0 == 95) : Bool))], []⟩) [2] [] hN (.cons (mvU (v := .p (.int .u8) a0) rfl rfl) (.cons (cmU (rs := [(3, .p (.int .u8) a0)]) rfl rfl o0 (.int _ _ _) rfl) (.cons (mvU (v := .p .bool ((decide (a0 ≥ 97)) : Bool)) rfl rfl) (.cons (skU rfl rfl hc1) (.cons (skU rfl rfl hc1) (.cons (pkF (rs := [(5, .p .bool ((decide (a0 ≥ 97)) : Bool))]) rfl rfl o0 hc1 (.bool _ _)) (.cons (mvU (v := .p .bool false) rfl rfl) (.cons (sok_run rfl rfl rfl (mvU (v := .p (.int .u8) a0) rfl rfl)) (.cons (sok_run rfl rfl rfl (cmU (rs := [(10, .p (.int .u8) a0)]) rfl rfl o0 (.int _ _ _) rfl)) (.cons (sok_run rfl rfl rfl (mvU (v := .p .bool ((decide (a0 ≥ 65)) : Bool)) rfl rfl)) (.cons (skU rfl rfl hc9) (.cons (skU rfl rfl hc9) (.cons (sok_run rfl rfl rfl (pkF (rs := [(12, .p .bool ((decide (a0 ≥ 65)) : Bool))]) rfl rfl o0 hc9 (.bool _ _))) (.cons (pkF (rs := [(9, .p .bool false), (15, .p .bool false)]) rfl rfl o0 rfl o1) (.cons (mvU (v := .p .bool false) rfl rfl) (.cons (sok_run rfl rfl rfl (mvU (v := .p (.int .u8) a0) rfl rfl)) (.cons (sok_run rfl rfl rfl (cmU (rs := [(18, .p (.int .u8) a0)]) rfl rfl o0 (.int _ _ _) rfl)) (.cons (sok_run rfl rfl rfl (mvU (v := .p .bool ((decide (a0 ≥ 48)) : Bool)) rfl rfl)) (.cons (skU rfl rfl hc13) (.cons (skU rfl rfl hc13) (.cons (sok_run rfl rfl rfl (pkF (rs := [(20, .p .bool ((decide (a0 ≥ 48)) : Bool))]) rfl rfl o0 hc13 (.bool _ _))) (.cons (pkF (rs := [(17, .p .bool false), (23, .p .bool false)]) rfl rfl o0 rfl o1) (.cons (mvU (v := .p .bool false) rfl rfl) (.cons (sok_run rfl rfl rfl (mvU (v := .p (.int .u8) a0) rfl rfl)) (.cons (sok_run rfl rfl rfl (cmU (rs := [(26, .p (.int .u8) a0)]) rfl rfl o0 (.int _ _ _) rfl)) (.cons (pkF (rs := [(25, .p .bool false), (27, .p .bool ((a0 == 95) : Bool))]) rfl rfl o0 rfl o1) (.cons (mvA (v := .p .bool ((a0 == 95) : Bool)) rfl rfl) .nil))))))))))))))))))))))))))) (by kernel_rfl) (by kernel_rfl) (by kernel_rfl) (cvR _) ?_
        refine tnU ?_
        refine WpC.ret ?_
        have hq := Option.some.inj h
        subst hq
        exact ends_ret (retV_1 rfl (.head _)) ain_nil

theorem lex_run_m0.ok (O : Out) (hO : GOk O) (k : Nat) (a0 : List UInt8) (a1 : Int) (out : Int) (h : lex_run_m0.f k a0 a1 = some out) : COk Un O Tryd.prog 66 { ar := [.p .str a0, .p I6 a1, .clo 75 []], r := .p I6 out } := by
  refine cok_of_wp Tryd.func66 rfl (k := 26) rfl (Nat.le_of_ble_eq_true rfl) (namesOk_pure rfl rfl rfl rfl) ?_
  intro B hN
  refine WpC.conv (cvK (b := ⟨[(0, .p .str a0), (1, .p I6 a1), (2, .clo 75 [])], []⟩) [0, 1, 2] [] (by kernel_rfl)) ?_
  unfold lex_run_m0.f at h
  refine WpC.seq ?_
  refine rgU (st1 := ⟨[(0, .p .str a0), (1, .p I6 a1), (2, .clo 75 [])], []⟩) [0, 1, 2] [] hN (.cons (moU (rs := []) rfl (.inr rfl) (.int _ _ _)) .nil) (by kernel_rfl) (by kernel_rfl) (by kernel_rfl) (cvR _) ?_
  refine tnU ?_
  refine WpC.seq ?_
  refine rgU (st1 := ⟨[(0, .p .str a0), (1, .p I6 a1), (2, .clo 75 []), (7, .p I6 (0 : Int))], []⟩) [0, 1, 2, 7] [] hN (.cons (moU (rs := []) rfl (.inr rfl) (.int _ _ _)) .nil) (by kernel_rfl) (by kernel_rfl) (by kernel_rfl) (cvR _) ?_
  refine tnU ?_
  refine sqJ (fun st' => ∃ v1 : Int, lex_run_m0.j2 k v1 = some out ∧ st' = ⟨[(7, .p I6 v1)], []⟩) ?_ ?_
  · refine WpC.block ?_
    obtain ⟨o6, hlo6, h⟩ := bind_some h
    have hout7 := h
    clear h
    refine WpC.loop (U := Un) (fun n st' => ∃ v3 : Int, lex_run_m0.l4 k a0 a1 n v3 = some o6 ∧ st' = ⟨[(0, .p .str a0), (1, .p I6 a1), (2, .clo 75 []), (7, .p I6 v3)], []⟩) k ⟨0, hlo6, rfl⟩ ?_
    clear hlo6
    rintro (_ | n) _ ⟨v3, h, rfl⟩
    · cases h
    · rw [lex_run_m0.l4] at h
      refine sqJ (fun st' => lex_run_m0.j8 k (lex_run_m0.l4 k a0 a1 n) a0 a1 v3 = some o6 ∧ st' = ⟨[(0, .p .str a0), (1, .p I6 a1), (2, .clo 75 []), (7, .p I6 v3)], []⟩) ?_ ?_
      · refine sqJ (fun st' => ∃ v9 : Bool, lex_run_m0.j11 k (lex_run_m0.l4 k a0 a1 n) a0 a1 v3 v9 = some o6 ∧ st' = ⟨[(0, .p .str a0), (1, .p I6 a1), (2, .clo 75 []), (7, .p I6 v3), (22, .p .bool v9)], []⟩) ?_ ?_
        · rcases bool_cases (decide ((IntKind.i64.wrap (a1 + v3)) < (a0.length : Int))) with hc12 | hc12
          · replace h := ite_t hc12 h
            obtain ⟨v13, hv13, h⟩ := bind_some h
            obtain ⟨v14, hv14, h⟩ := bind_some h
            refine rgU (st1 := ⟨[(0, .p .str a0), (1, .p I6 a1), (2, .clo 75 []), (7, .p I6 v3), (22, .p .bool v14)], []⟩) [0, 1, 2, 7, 22] [] hN (.cons (mvU (v := .p I6 a1) rfl rfl) (.cons (mvU (v := .p I6 v3) rfl rfl) (.cons (sok_arith (U := Un) (rs := [(8, .p I6 a1), (9, .p I6 v3)]) rfl rfl o0 o1 rfl) (.cons (mvU (v := .p .str a0) rfl rfl) (.cons (sok_lenS (U := Un) (rs := [(11, .p .str a0)]) rfl rfl Tryd.underlying9 o0) (.cons (cmU (rs := [(10, .p I6 ((IntKind.i64.wrap (a1 + v3)) : Int)), (12, .p I6 ((a0.length : Int) : Int))]) rfl rfl o0 o1 rfl) (.cons (mvU (v := .p .bool ((decide ((IntKind.i64.wrap (a1 + v3)) < (a0.length : Int))) : Bool)) rfl rfl) (.cons (sok_run rfl rfl hc12 (mvU (v := .clo 75 []) rfl rfl)) (.cons (sok_run rfl rfl hc12 (mvU (v := .p .str a0) rfl rfl)) (.cons (sok_run rfl rfl hc12 (mvU (v := .p I6 a1) rfl rfl)) (.cons (sok_run rfl rfl hc12 (mvU (v := .p I6 v3) rfl rfl)) (.cons (sok_run rfl rfl hc12 (sok_arith (U := Un) (rs := [(17, .p I6 a1), (18, .p I6 v3)]) rfl rfl o0 o1 rfl)) (.cons (sok_run rfl rfl hc12 (sok_indexS (U := Un) (rs := [(16, .p .str a0), (19, .p I6 ((IntKind.i64.wrap (a1 + v3)) : Int))]) rfl rfl Tryd.underlying9 o0 o1 hv13)) (.cons (sok_run rfl rfl hc12 (caV (rs := [(20, .p (.int .u8) ((v13.toNat : Int) : Int)), (15, .clo 75 [])]) (vw := []) rfl rfl (.clo o1) hb_75 (lex_letter.ok O hO k (v13.toNat : Int) v14 hv14) (.cons o0 .nil) (.cons (.same _) .nil) (by simp) (.inl rfl))) (.cons (pkT (rs := [(14, .p .bool ((decide ((IntKind.i64.wrap (a1 + v3)) < (a0.length : Int))) : Bool)), (21, .p .bool v14)]) rfl rfl o0 hc12 o1) .nil))))))))))))))) (by kernel_rfl) (by kernel_rfl) (by kernel_rfl) (cvR _) ?_
            refine tnU ?_
            exact ⟨v14, h, rfl⟩
          · replace h := ite_f hc12 h
            refine rgU (st1 := ⟨[(0, .p .str a0), (1, .p I6 a1), (2, .clo 75 []), (7, .p I6 v3), (22, .p .bool false)], []⟩) [0, 1, 2, 7, 22] [] hN (.cons (mvU (v := .p I6 a1) rfl rfl) (.cons (mvU (v := .p I6 v3) rfl rfl) (.cons (sok_arith (U := Un) (rs := [(8, .p I6 a1), (9, .p I6 v3)]) rfl rfl o0 o1 rfl) (.cons (mvU (v := .p .str a0) rfl rfl) (.cons (sok_lenS (U := Un) (rs := [(11, .p .str a0)]) rfl rfl Tryd.underlying9 o0) (.cons (cmU (rs := [(10, .p I6 ((IntKind.i64.wrap (a1 + v3)) : Int)), (12, .p I6 ((a0.length : Int) : Int))]) rfl rfl o0 o1 rfl) (.cons (mvU (v := .p .bool ((decide ((IntKind.i64.wrap (a1 + v3)) < (a0.length : Int))) : Bool)) rfl rfl) (.cons (skU rfl rfl hc12) (.cons (skU rfl rfl hc12) (.cons (skU rfl rfl hc12) (.cons (skU rfl rfl hc12) (.cons (skU rfl rfl hc12) (.cons (skU rfl rfl hc12) (.cons (skU rfl rfl hc12) (.cons (pkF (rs := [(14, .p .bool ((decide ((IntKind.i64.wrap (a1 + v3)) < (a0.length : Int))) : Bool))]) rfl rfl o0 hc12 (.bool _ _)) .nil))))))))))))))) (by kernel_rfl) (by kernel_rfl) (by kernel_rfl) (cvR _) ?_
            refine tnU ?_
            exact ⟨false, h, rfl⟩
        · rintro _ ⟨v9, h, rfl⟩
          unfold lex_run_m0.j11 at h
          refine cdU (b := v9) (.tmp (.tail _ (.tail _ (.tail _ (.tail _ (.head _)))))) (fun hc10 => ?_) (fun hc10 => ?_)
          · replace h := ite_t hc10 h
            refine WpC.conv (cvK (b := ⟨[(0, .p .str a0), (1, .p I6 a1), (2, .clo 75 []), (7, .p I6 v3)], []⟩) [0, 1, 2, 7] [] (by kernel_rfl)) (WpC.skip ?_)
            refine tnU ?_
            exact ⟨h, rfl⟩
          · replace h := ite_f hc10 h
            refine WpC.conv (cvK (b := ⟨[(7, .p I6 v3)], []⟩) [7] [] (by kernel_rfl)) (WpC.exit ?_)
            refine thenQ_exit ?_
            have hq := Option.some.inj h
            subst hq
            refine thenQ_exit ?_
            have h := hout7
            refine blockQ_hit ?_
            refine tnU ?_
            exact ⟨v3, h, rfl⟩
      · rintro _ ⟨h, rfl⟩
        unfold lex_run_m0.j8 at h
        refine WpC.block ?_
        refine rgU (st1 := ⟨[(0, .p .str a0), (1, .p I6 a1), (2, .clo 75 []), (7, .p I6 ((IntKind.i64.wrap (v3 + 1)) : Int))], []⟩) [0, 1, 2, 7] [] hN (.cons (mvU (v := .p I6 v3) rfl rfl) (.cons (sok_arith (U := Un) (rs := [(23, .p I6 v3)]) rfl rfl o0 (.int _ _ _) rfl) (.cons (mvA (v := .p I6 ((IntKind.i64.wrap (v3 + 1)) : Int)) rfl rfl) .nil))) (by kernel_rfl) (by kernel_rfl) (by kernel_rfl) (cvR _) ?_
        refine blockQ_normal ?_
        refine tnU ?_
        exact ⟨n, Nat.lt_succ_self n, (IntKind.i64.wrap (v3 + 1)), h, rfl⟩
  · rintro _ ⟨v1, h, rfl⟩
    unfold lex_run_m0.j2 at h
    refine WpC.seq ?_
    refine rgU (st1 := ⟨[(6, .p I6 v1)], []⟩) [6] [] hN (.cons (mvU (v := .p I6 v1) rfl rfl) (.cons (mvA (v := .p I6 v1) rfl rfl) .nil)) (by kernel_rfl) (by kernel_rfl) (by kernel_rfl) (cvR _) ?_
    refine tnU ?_
    refine WpC.ret ?_
    have hq := Option.some.inj h
    subst hq
    exact ends_ret (retV_1 rfl (.head _)) ain_nil

theorem lex_Name.ok (O : Out) (hO : GOk O) (k : Nat) (a0 : List UInt8) (out : Bool) (h : lex_Name.f k a0 = some out) : COk Un O Tryd.prog 55 { ar := [.p .str a0], r := .p .bool out } := by
  refine cok_of_wp Tryd.func55 rfl (k := 17) rfl (Nat.le_of_ble_eq_true rfl) (namesOk_pure rfl rfl rfl rfl) ?_
  intro B hN
  refine WpC.conv (cvK (b := ⟨[(0, .p .str a0)], []⟩) [0] [] (by kernel_rfl)) ?_
  unfold lex_Name.f at h
  refine WpC.seq ?_
  refine rgU (st1 := ⟨[(0, .p .str a0)], []⟩) [0] [] hN (.cons (moU (rs := []) rfl (.inr rfl) (.bool _ _)) .nil) (by kernel_rfl) (by kernel_rfl) (by kernel_rfl) (cvR _) ?_
  refine tnU ?_
  refine WpC.seq ?_
  rcases bool_cases (!(a0 == ([] : List UInt8))) with hc1 | hc1
  · replace h := ite_t hc1 h
    rcases bool_cases (decide ((a0.length : Int) ≤ 12)) with hc2 | hc2
    · replace h := ite_t hc2 h
      obtain ⟨v3, hv3, h⟩ := bind_some h
      refine rgU (st1 := ⟨[(2, .p .bool ((v3 == (a0.length : Int)) : Bool))], []⟩) [2] [] hN (.cons (mvU (v := .p .str a0) rfl rfl) (.cons (sok_cmpS (U := Un) (rs := [(3, .p .str a0)]) rfl rfl o0 (.str _ _) rfl) (.cons (mvU (v := .p .bool ((!(a0 == ([] : List UInt8))) : Bool)) rfl rfl) (.cons (sok_run rfl rfl hc1 (mvU (v := .p .str a0) rfl rfl)) (.cons (sok_run rfl rfl hc1 (sok_lenS (U := Un) (rs := [(6, .p .str a0)]) rfl rfl Tryd.underlying9 o0)) (.cons (sok_run rfl rfl hc1 (cmU (rs := [(7, .p I6 ((a0.length : Int) : Int))]) rfl rfl o0 (.int _ _ _) rfl)) (.cons (pkT (rs := [(5, .p .bool ((!(a0 == ([] : List UInt8))) : Bool)), (8, .p .bool ((decide ((a0.length : Int) ≤ 12)) : Bool))]) rfl rfl o0 hc1 o1) (.cons (mvU (v := .p .bool ((decide ((a0.length : Int) ≤ 12)) : Bool)) rfl rfl) (.cons (sok_run rfl rfl hc2 (mvU (v := .p .str a0) rfl rfl)) (.cons (sok_run rfl rfl hc2 (caV (rs := [(11, .p .str a0)]) (vw := []) rfl rfl (.func _) hb_66 (lex_run_m0.ok O hO k a0 0 v3 hv3) (.cons o0 (.cons (.int _ _ _) (.cons (.func _ _) .nil))) (.cons (.same _) (.cons (.same _) (.cons (.same _) .nil))) (by simp) (.inl rfl))) (.cons (sok_run rfl rfl hc2 (mvU (v := .p .str a0) rfl rfl)) (.cons (sok_run rfl rfl hc2 (sok_lenS (U := Un) (rs := [(13, .p .str a0)]) rfl rfl Tryd.underlying9 o0)) (.cons (sok_run rfl rfl hc2 (cmU (rs := [(12, .p I6 v3), (14, .p I6 ((a0.length : Int) : Int))]) rfl rfl o0 o1 rfl)) (.cons (pkT (rs := [(10, .p .bool ((decide ((a0.length : Int) ≤ 12)) : Bool)), (15, .p .bool ((v3 == (a0.length : Int)) : Bool))]) rfl rfl o0 hc2 o1) (.cons (mvA (v := .p .bool ((v3 == (a0.length : Int)) : Bool)) rfl rfl) .nil))))))))))))))) (by kernel_rfl) (by kernel_rfl) (by kernel_rfl) (cvR _) ?_
      refine tnU ?_
      refine WpC.ret ?_
      have hq := Option.some.inj h
      subst hq
      exact ends_ret (retV_1 rfl (.head _)) ain_nil
    · replace h := ite_f hc2 h
      refine rgU (st1 := ⟨[(2, .p .bool false)], []⟩) [2] [] hN (.cons (mvU (v := .p .str a0) rfl rfl) (.cons (sok_cmpS (U := Un) (rs := [(3, .p .str a0)]) rfl rfl o0 (.str _ _) rfl) (.cons (mvU (v := .p .bool ((!(a0 == ([] : List UInt8))) : Bool)) rfl rfl) (.cons (sok_run rfl rfl hc1 (mvU (v := .p .str a0) rfl rfl)) (.cons (sok_run rfl rfl hc1 (sok_lenS (U := Un) (rs := [(6, .p .str a0)]) rfl rfl Tryd.underlying9 o0)) (.cons (sok_run rfl rfl hc1 (cmU (rs := [(7, .p I6 ((a0.length : Int) : Int))]) rfl rfl o0 (.int _ _ _) rfl)) (.cons (pkT (rs := [(5, .p .bool ((!(a0 == ([] : List UInt8))) : Bool)), (8, .p .bool ((decide ((a0.length : Int) ≤ 12)) : Bool))]) rfl rfl o0 hc1 o1) (.cons (mvU (v := .p .bool ((decide ((a0.length : Int) ≤ 12)) : Bool)) rfl rfl) (.cons (skU rfl rfl hc2) (.cons (skU rfl rfl hc2) (.cons (skU rfl rfl hc2) (.cons (skU rfl rfl hc2) (.cons (skU rfl rfl hc2) (.cons (pkF (rs := [(10, .p .bool ((decide ((a0.length : Int) ≤ 12)) : Bool))]) rfl rfl o0 hc2 (.bool _ _)) (.cons (mvA (v := .p .bool false) rfl rfl) .nil))))))))))))))) (by kernel_rfl) (by kernel_rfl) (by kernel_rfl) (cvR _) ?_
      refine tnU ?_
      refine WpC.ret ?_
      have hq := Option.some.inj h
      subst hq
      exact ends_ret (retV_1 rfl (.head _)) ain_nil
  · replace h := ite_f hc1 h
    refine rgU (st1 := ⟨[(2, .p .bool false)], []⟩) [2] [] hN (.cons (mvU (v := .p .str a0) rfl rfl) (.cons (sok_cmpS (U := Un) (rs := [(3, .p .str a0)]) rfl rfl o0 (.str _ _) rfl) (.cons (mvU (v := .p .bool ((!(a0 == ([] : List UInt8))) : Bool)) rfl rfl) (.cons (skU rfl rfl hc1) (.cons (skU rfl rfl hc1) (.cons (skU rfl rfl hc1) (.cons (pkF (rs := [(5, .p .bool ((!(a0 == ([] : List UInt8))) : Bool))]) rfl rfl o0 hc1 (.bool _ _)) (.cons (mvU (v := .p .bool false) rfl rfl) (.cons (skU rfl rfl rfl) (.cons (skU rfl rfl rfl) (.cons (skU rfl rfl rfl) (.cons (skU rfl rfl rfl) (.cons (skU rfl rfl rfl) (.cons (pkF (rs := [(10, .p .bool false)]) rfl rfl o0 rfl (.bool _ _)) (.cons (mvA (v := .p .bool false) rfl rfl) .nil))))))))))))))) (by kernel_rfl) (by kernel_rfl) (by kernel_rfl) (cvR _) ?_
    refine tnU ?_
    refine WpC.ret ?_
    have hq := Option.some.inj h
    subst hq
    exact ends_ret (retV_1 rfl (.head _)) ain_nil

theorem env_Check_1.ok (O : Out) (hO : GOk O) (k : Nat) (a0 : List UInt8) (out : Bool) (h : env_Check_1.f k a0 = some out) : COk Un O Tryd.prog 54 { ar := [.p .str a0], r := .p .bool out } := by
  refine cok_of_wp Tryd.func54 rfl (k := 6) rfl (Nat.le_of_ble_eq_true rfl) (namesOk_pure rfl rfl rfl rfl) ?_
  intro B hN
  refine WpC.conv (cvK (b := ⟨[(0, .p .str a0)], []⟩) [0] [] (by kernel_rfl)) ?_
  unfold env_Check_1.f at h
  refine WpC.seq ?_
  refine rgU (st1 := ⟨[(0, .p .str a0)], []⟩) [0] [] hN (.cons (moU (rs := []) rfl (.inr rfl) (.bool _ _)) .nil) (by kernel_rfl) (by kernel_rfl) (by kernel_rfl) (cvR _) ?_
  refine tnU ?_
  refine WpC.seq ?_
  refine rgU (st1 := ⟨[(2, .p .bool ((decide ((a0.length : Int) > 120)) : Bool))], []⟩) [2] [] hN (.cons (mvU (v := .p .str a0) rfl rfl) (.cons (sok_lenS (U := Un) (rs := [(3, .p .str a0)]) rfl rfl Tryd.underlying9 o0) (.cons (cmU (rs := [(4, .p I6 ((a0.length : Int) : Int))]) rfl rfl o0 (.int _ _ _) rfl) (.cons (mvA (v := .p .bool ((decide ((a0.length : Int) > 120)) : Bool)) rfl rfl) .nil)))) (by kernel_rfl) (by kernel_rfl) (by kernel_rfl) (cvR _) ?_
  refine tnU ?_
  refine WpC.ret ?_
  have hq := Option.some.inj h
  subst hq
  exact ends_ret (retV_1 rfl (.head _)) ain_nil

theorem slices_IndexFunc_string_string_m0.ok (O : Out) (hO : GOk O) (k : Nat) (a0 : List (List UInt8)) (out : Int) (h : slices_IndexFunc_string_string_m0.f k a0 = some out) : COk Un O Tryd.prog 76 { ar := [.p (.list .str) a0, .clo 54 []], r := .p I6 out } := by
  refine cok_of_wp Tryd.func76 rfl (k := 19) rfl (Nat.le_of_ble_eq_true rfl) (namesOk_pure rfl rfl rfl rfl) ?_
  intro B hN
  refine WpC.conv (cvK (b := ⟨[(0, .p (.list .str) a0), (1, .clo 54 [])], []⟩) [0, 1] [] (by kernel_rfl)) ?_
  unfold slices_IndexFunc_string_string_m0.f at h
  refine WpC.seq ?_
  refine rgU (st1 := ⟨[(0, .p (.list .str) a0), (1, .clo 54 [])], []⟩) [0, 1] [] hN (.cons (moU (rs := []) rfl (.inr rfl) (.int _ _ _)) .nil) (by kernel_rfl) (by kernel_rfl) (by kernel_rfl) (cvR _) ?_
  refine tnU ?_
  refine sqJ (fun st' => slices_IndexFunc_string_string_m0.j1 k = some out ∧ st' = ⟨[], []⟩) ?_ ?_
  · refine WpC.seq ?_
    refine rgU (st1 := ⟨[(0, .p (.list .str) a0), (1, .clo 54 []), (7, .p I6 ((a0.length : Int) : Int)), (8, .p I6 (0 : Int))], []⟩) [0, 1, 7, 8] [] hN (.cons (mvU (v := .p (.list .str) a0) rfl rfl) (.cons (sok_lenL (U := Un) (rs := [(6, .p (.list .str) a0)]) rfl rfl Tryd.underlying22 o0) (.cons (moU (rs := []) rfl (.inl rfl) (.int _ _ _)) .nil))) (by kernel_rfl) (by kernel_rfl) (by kernel_rfl) (cvR _) ?_
    refine tnU ?_
    refine WpC.block ?_
    obtain ⟨o4, hlo4, h⟩ := bind_some h
    have hout5 := h
    clear h
    refine WpC.loop (U := Un) (fun n st' => ∃ v2 : Int, slices_IndexFunc_string_string_m0.l3 k a0 n v2 = some o4 ∧ st' = ⟨[(0, .p (.list .str) a0), (1, .clo 54 []), (7, .p I6 ((a0.length : Int) : Int)), (8, .p I6 v2)], []⟩) k ⟨0, hlo4, rfl⟩ ?_
    clear hlo4
    rintro (_ | n) _ ⟨v2, h, rfl⟩
    · cases h
    · rw [slices_IndexFunc_string_string_m0.l3] at h
      refine WpC.seq ?_
      refine rgU (st1 := ⟨[(0, .p (.list .str) a0), (1, .clo 54 []), (7, .p I6 ((a0.length : Int) : Int)), (8, .p I6 v2), (9, .p .bool ((decide (v2 < (a0.length : Int))) : Bool))], []⟩) [0, 1, 7, 8, 9] [] hN (.cons (cmU (rs := [(8, .p I6 v2), (7, .p I6 ((a0.length : Int) : Int))]) rfl rfl o0 o1 rfl) .nil) (by kernel_rfl) (by kernel_rfl) (by kernel_rfl) (cvR _) ?_
      refine tnU ?_
      refine WpC.seq ?_
      refine cdU (b := (decide (v2 < (a0.length : Int)))) (.tmp (.tail _ (.tail _ (.tail _ (.tail _ (.head _)))))) (fun hc6 => ?_) (fun hc6 => ?_)
      · replace h := ite_t hc6 h
        refine WpC.conv (cvK (b := ⟨[(0, .p (.list .str) a0), (1, .clo 54 []), (7, .p I6 ((a0.length : Int) : Int)), (8, .p I6 v2)], []⟩) [0, 1, 7, 8] [] (by kernel_rfl)) (WpC.skip ?_)
        refine tnU ?_
        refine WpC.seq ?_
        refine WpC.block ?_
        refine WpC.seq ?_
        refine rgU (st1 := ⟨[(0, .p (.list .str) a0), (1, .clo 54 []), (5, .p I6 v2), (7, .p I6 ((a0.length : Int) : Int)), (8, .p I6 v2)], []⟩) [0, 1, 5, 7, 8] [] hN (.cons (mvU (v := .p I6 v2) rfl rfl) (.cons (mvA (v := .p I6 v2) rfl rfl) .nil)) (by kernel_rfl) (by kernel_rfl) (by kernel_rfl) (cvR _) ?_
        refine tnU ?_
        refine WpC.seq ?_
        obtain ⟨v7, hv7, h⟩ := bind_some h
        obtain ⟨v8, hv8, h⟩ := bind_some h
        refine rgU (st1 := ⟨[(0, .p (.list .str) a0), (1, .clo 54 []), (5, .p I6 v2), (7, .p I6 ((a0.length : Int) : Int)), (8, .p I6 v2), (16, .p .bool v8)], []⟩) [0, 1, 5, 7, 8, 16] [] hN (.cons (mvU (v := .clo 54 []) rfl rfl) (.cons (mvU (v := .p (.list .str) a0) rfl rfl) (.cons (mvU (v := .p I6 v2) rfl rfl) (.cons (sok_indexL (U := Un) (rs := [(12, .p (.list .str) a0), (13, .p I6 v2)]) rfl rfl sl_22 o0 o1 hv7) (.cons (sok_loadP (U := Un) (rs := [(14, .pp .str v7)]) rfl rfl ty_9 o0) (.cons (caV (rs := [(15, .p .str v7), (11, .clo 54 [])]) (vw := []) rfl rfl (.clo o1) hb_54 (env_Check_1.ok O hO k v7 v8 hv8) (.cons o0 .nil) (.cons (.same _) .nil) (by simp) (.inl rfl)) .nil)))))) (by kernel_rfl) (by kernel_rfl) (by kernel_rfl) (cvR _) ?_
        refine tnU ?_
        refine cdU (b := v8) (.tmp (.tail _ (.tail _ (.tail _ (.tail _ (.tail _ (.head _))))))) (fun hc9 => ?_) (fun hc9 => ?_)
        · replace h := ite_t hc9 h
          refine WpC.seq ?_
          refine rgU (st1 := ⟨[(4, .p I6 v2)], []⟩) [4] [] hN (.cons (mvU (v := .p I6 v2) rfl rfl) (.cons (mvA (v := .p I6 v2) rfl rfl) .nil)) (by kernel_rfl) (by kernel_rfl) (by kernel_rfl) (cvR _) ?_
          refine tnU ?_
          refine WpC.ret ?_
          refine blockQ_ret ?_
          refine thenQ_ret ?_
          have hq := Option.some.inj h
          subst hq
          refine thenQ_ret ?_
          have h := hout5
          refine blockQ_ret ?_
          refine thenQ_ret ?_
          have hq := Option.some.inj h
          subst hq
          exact ends_ret (retV_1 rfl (.head _)) ain_nil
        · replace h := ite_f hc9 h
          refine WpC.conv (cvK (b := ⟨[(0, .p (.list .str) a0), (1, .clo 54 []), (7, .p I6 ((a0.length : Int) : Int)), (8, .p I6 v2)], []⟩) [0, 1, 7, 8] [] (by kernel_rfl)) (WpC.skip ?_)
          refine blockQ_normal ?_
          refine tnU ?_
          refine rgU (st1 := ⟨[(0, .p (.list .str) a0), (1, .clo 54 []), (7, .p I6 ((a0.length : Int) : Int)), (8, .p I6 ((IntKind.i64.wrap (v2 + 1)) : Int))], []⟩) [0, 1, 7, 8] [] hN (.cons (sok_arith (U := Un) (rs := [(8, .p I6 v2)]) rfl rfl o0 (.int _ _ _) rfl) (.cons (mvU (v := .p I6 ((IntKind.i64.wrap (v2 + 1)) : Int)) rfl rfl) .nil)) (by kernel_rfl) (by kernel_rfl) (by kernel_rfl) (cvR _) ?_
          refine tnU ?_
          exact ⟨n, Nat.lt_succ_self n, (IntKind.i64.wrap (v2 + 1)), h, rfl⟩
      · replace h := ite_f hc6 h
        refine WpC.conv (cvK (b := ⟨[], []⟩) [] [] (by kernel_rfl)) (WpC.exit ?_)
        refine thenQ_exit ?_
        have hq := Option.some.inj h
        subst hq
        refine thenQ_exit ?_
        have h := hout5
        refine blockQ_hit ?_
        refine tnU ?_
        exact ⟨h, rfl⟩
  · rintro _ ⟨h, rfl⟩
    unfold slices_IndexFunc_string_string_m0.j1 at h
    refine WpC.seq ?_
    refine rgU (st1 := ⟨[(4, .p I6 ((-1) : Int))], []⟩) [4] [] hN (.cons (moU (rs := []) rfl (.inr rfl) (.int _ _ _)) .nil) (by kernel_rfl) (by kernel_rfl) (by kernel_rfl) (cvR _) ?_
    refine tnU ?_
    refine WpC.ret ?_
    have hq := Option.some.inj h
    subst hq
    exact ends_ret (retV_1 rfl (.head _)) ain_nil

theorem slices_ContainsFunc_string_string_m0.ok (O : Out) (hO : GOk O) (k : Nat) (a0 : List (List UInt8)) (out : Bool) (h : slices_ContainsFunc_string_string_m0.f k a0 = some out) : COk Un O Tryd.prog 56 { ar := [.p (.list .str) a0, .clo 54 []], r := .p .bool out } := by
  refine cok_of_wp Tryd.func56 rfl (k := 9) rfl (Nat.le_of_ble_eq_true rfl) (namesOk_pure rfl rfl rfl rfl) ?_
  intro B hN
  refine WpC.conv (cvK (b := ⟨[(0, .p (.list .str) a0), (1, .clo 54 [])], []⟩) [0, 1] [] (by kernel_rfl)) ?_
  unfold slices_ContainsFunc_string_string_m0.f at h
  refine WpC.seq ?_
  refine rgU (st1 := ⟨[(0, .p (.list .str) a0), (1, .clo 54 [])], []⟩) [0, 1] [] hN (.cons (moU (rs := []) rfl (.inr rfl) (.bool _ _)) .nil) (by kernel_rfl) (by kernel_rfl) (by kernel_rfl) (cvR _) ?_
  refine tnU ?_
  refine WpC.seq ?_
  obtain ⟨v1, hv1, h⟩ := bind_some h
  refine rgU (st1 := ⟨[(4, .p .bool ((decide (v1 ≥ 0)) : Bool))], []⟩) [4] [] hN (.cons (mvU (v := .p (.list .str) a0) rfl rfl) (.cons (mvU (v := .clo 54 []) rfl rfl) (.cons (caV (rs := [(5, .p (.list .str) a0), (6, .clo 54 [])]) (vw := []) rfl rfl (.func _) hb_76 (slices_IndexFunc_string_string_m0.ok O hO k a0 v1 hv1) (.cons o0 (.cons o1 .nil)) (.cons (.same _) (.cons (.same _) .nil)) (by simp) (.inl rfl)) (.cons (cmU (rs := [(7, .p I6 v1)]) rfl rfl o0 (.int _ _ _) rfl) (.cons (mvA (v := .p .bool ((decide (v1 ≥ 0)) : Bool)) rfl rfl) .nil))))) (by kernel_rfl) (by kernel_rfl) (by kernel_rfl) (cvR _) ?_
  refine tnU ?_
  refine WpC.ret ?_
  have hq := Option.some.inj h
  subst hq
  exact ends_ret (retV_1 rfl (.head _)) ain_nil

end Go.Proofs.YtnbnfjgedinlbabDoor
