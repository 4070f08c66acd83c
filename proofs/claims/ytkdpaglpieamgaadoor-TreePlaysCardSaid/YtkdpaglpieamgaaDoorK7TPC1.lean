/- A part of the proof of a given law: TPC1. Own work, printed in part by a program of mine. -/
import Derived.Test.YtkdpaglpieamgaaDoorK7TPC0
namespace Go.Proofs.YtkdpaglpieamgaaDoor
open Go Go.AM
set_option linter.unusedVariables false
set_option linter.unusedSimpArgs false
set_option maxRecDepth 100000
theorem millwrightnum_Num.ok (O : Out) (hO : GOk O) (k : Nat) (a0 : Nat) (out : Int) (h : millwrightnum_Num.f k a0 = some out) : COk Un O Tryd.prog 19 { ar := [.p .err a0], r := .p I6 out } := by
  refine cok_of_wp Tryd.func19 rfl (k := 20) rfl (Nat.le_of_ble_eq_true rfl) (namesOk_pure rfl rfl rfl rfl) ?_
  intro B hN
  refine WpC.conv (cvK (b := ⟨[(0, .p .err a0)], []⟩) [0] [] (by kernel_rfl)) ?_
  unfold millwrightnum_Num.f at h
  refine WpC.seq ?_
  refine rgU (st1 := ⟨[(0, .p .err a0)], []⟩) [0] [] hN (.cons (moU (rs := []) rfl (.inr rfl) (.int _ _ _)) .nil) (by kernel_rfl) (by kernel_rfl) (by kernel_rfl) (cvR _) ?_
  refine tnU ?_
  refine WpC.seq ?_
  refine WpC.seq ?_
  refine rgU (st1 := ⟨[(0, .p .err a0), (6, .p .bool ((a0 == 0) : Bool))], []⟩) [0, 6] [] hN (.cons (mvU (v := .p .err a0) rfl rfl) (.cons (sok_errNil (U := Un) (rs := [(5, .p .err a0)]) rfl rfl Tryd.underlying31 o0 rfl) .nil)) (by kernel_rfl) (by kernel_rfl) (by kernel_rfl) (cvR _) ?_
  refine tnU ?_
  refine cdU (b := (a0 == 0)) o1 (fun hc1 => ?_) (fun hc1 => ?_)
  · replace h := ite_t hc1 h
    refine WpC.seq ?_
    refine rgU (st1 := ⟨[(2, .p I6 (0 : Int))], []⟩) [2] [] hN (.cons (moU (rs := []) rfl (.inr rfl) (.int _ _ _)) .nil) (by kernel_rfl) (by kernel_rfl) (by kernel_rfl) (cvR _) ?_
    refine tnU ?_
    refine WpC.ret ?_
    refine thenQ_ret ?_
    have hq := Option.some.inj h
    subst hq
    exact ends_ret (retV_1 rfl (.head _)) ain_nil
  · replace h := ite_f hc1 h
    refine WpC.conv (cvK (b := ⟨[(0, .p .err a0)], []⟩) [0] [] (by kernel_rfl)) (WpC.skip ?_)
    refine tnU ?_
    refine sqJ (fun st' => millwrightnum_Num.j2 k = some out ∧ st' = ⟨[], []⟩) ?_ ?_
    · refine WpC.seq ?_
      obtain ⟨v3, hv3, h⟩ := bind_some h
      refine rgU (st1 := ⟨[(0, .p .err a0), (7, .p (.list .err) v3), (8, .p I6 ((v3.length : Int) : Int)), (9, .p I6 (0 : Int))], []⟩) [0, 7, 8, 9] [] hN (.cons (caV (rs := []) (vw := []) rfl rfl (.func _) hb_54 (millwrightnum_all.ok O hO k v3 hv3) .nil .nil (by simp) (.inl rfl)) (.cons (sok_lenL (U := Un) (rs := [(7, .p (.list .err) v3)]) rfl rfl Tryd.underlying95 o0) (.cons (moU (rs := []) rfl (.inl rfl) (.int _ _ _)) .nil))) (by kernel_rfl) (by kernel_rfl) (by kernel_rfl) (cvR _) ?_
      refine tnU ?_
      refine WpC.block ?_
      obtain ⟨o6, hlo6, h⟩ := bind_some h
      have hout7 := h
      clear h
      refine WpC.loop (U := Un) (fun n st' => ∃ v4 : Int, millwrightnum_Num.l5 k a0 v3 n v4 = some o6 ∧ st' = ⟨[(0, .p .err a0), (7, .p (.list .err) v3), (8, .p I6 ((v3.length : Int) : Int)), (9, .p I6 v4)], []⟩) k ⟨0, hlo6, rfl⟩ ?_
      clear hlo6
      rintro (_ | n) _ ⟨v4, h, rfl⟩
      · cases h
      · rw [millwrightnum_Num.l5] at h
        refine WpC.seq ?_
        refine rgU (st1 := ⟨[(0, .p .err a0), (7, .p (.list .err) v3), (8, .p I6 ((v3.length : Int) : Int)), (9, .p I6 v4), (10, .p .bool ((decide (v4 < (v3.length : Int))) : Bool))], []⟩) [0, 7, 8, 9, 10] [] hN (.cons (cmU (rs := [(9, .p I6 v4), (8, .p I6 ((v3.length : Int) : Int))]) rfl rfl o0 o1 rfl) .nil) (by kernel_rfl) (by kernel_rfl) (by kernel_rfl) (cvR _) ?_
        refine tnU ?_
        refine WpC.seq ?_
        refine cdU (b := (decide (v4 < (v3.length : Int)))) (.tmp (.tail _ (.tail _ (.tail _ (.tail _ (.head _)))))) (fun hc8 => ?_) (fun hc8 => ?_)
        · replace h := ite_t hc8 h
          refine WpC.conv (cvK (b := ⟨[(0, .p .err a0), (7, .p (.list .err) v3), (8, .p I6 ((v3.length : Int) : Int)), (9, .p I6 v4)], []⟩) [0, 7, 8, 9] [] (by kernel_rfl)) (WpC.skip ?_)
          refine tnU ?_
          refine WpC.seq ?_
          refine WpC.block ?_
          refine WpC.seq ?_
          obtain ⟨v9, hv9, h⟩ := bind_some h
          refine rgU (st1 := ⟨[(0, .p .err a0), (3, .p I6 v4), (4, .p .err v9), (7, .p (.list .err) v3), (8, .p I6 ((v3.length : Int) : Int)), (9, .p I6 v4)], []⟩) [0, 3, 4, 7, 8, 9] [] hN (.cons (mvU (v := .p I6 v4) rfl rfl) (.cons (sok_indexL (U := Un) (rs := [(7, .p (.list .err) v3), (9, .p I6 v4)]) rfl rfl sl_95 o0 o1 hv9) (.cons (sok_loadP (U := Un) (rs := [(12, .pp .err v9)]) rfl rfl ty_31 o0) (.cons (mvA (v := .p I6 v4) rfl rfl) (.cons (mvA (v := .p .err v9) rfl rfl) .nil))))) (by kernel_rfl) (by kernel_rfl) (by kernel_rfl) (cvR _) ?_
          refine tnU ?_
          refine WpC.seq ?_
          obtain ⟨v10, hv10, h⟩ := bind_some h
          refine rgU (st1 := ⟨[(0, .p .err a0), (3, .p I6 v4), (7, .p (.list .err) v3), (8, .p I6 ((v3.length : Int) : Int)), (9, .p I6 v4), (16, .p .bool v10)], []⟩) [0, 3, 7, 8, 9, 16] [] hN (.cons (mvU (v := .p .err a0) rfl rfl) (.cons (mvU (v := .p .err v9) rfl rfl) (.cons (sok_call (U := Un) (rs := [(14, .p .err a0), (15, .p .err v9)]) (vw := []) rfl rfl hb_55 (pIs.ok O hO k a0 v9 v10 hv10) (.cons o0 (.cons o1 .nil)) (.cons (.same _) (.cons (.same _) .nil)) (by simp) (.inl rfl)) .nil))) (by kernel_rfl) (by kernel_rfl) (by kernel_rfl) (cvR _) ?_
          refine tnU ?_
          refine cdU (b := v10) (.tmp (.tail _ (.tail _ (.tail _ (.tail _ (.tail _ (.head _))))))) (fun hc11 => ?_) (fun hc11 => ?_)
          · replace h := ite_t hc11 h
            refine WpC.seq ?_
            refine rgU (st1 := ⟨[(2, .p I6 ((IntKind.i64.wrap (v4 + 1)) : Int))], []⟩) [2] [] hN (.cons (mvU (v := .p I6 v4) rfl rfl) (.cons (sok_arith (U := Un) (rs := [(17, .p I6 v4)]) rfl rfl o0 (.int _ _ _) rfl) (.cons (mvA (v := .p I6 ((IntKind.i64.wrap (v4 + 1)) : Int)) rfl rfl) .nil))) (by kernel_rfl) (by kernel_rfl) (by kernel_rfl) (cvR _) ?_
            refine tnU ?_
            refine WpC.ret ?_
            refine blockQ_ret ?_
            refine thenQ_ret ?_
            have hq := Option.some.inj h
            subst hq
            refine thenQ_ret ?_
            have h := hout7
            refine blockQ_ret ?_
            refine thenQ_ret ?_
            have hq := Option.some.inj h
            subst hq
            exact ends_ret (retV_1 rfl (.head _)) ain_nil
          · replace h := ite_f hc11 h
            refine WpC.conv (cvK (b := ⟨[(0, .p .err a0), (7, .p (.list .err) v3), (8, .p I6 ((v3.length : Int) : Int)), (9, .p I6 v4)], []⟩) [0, 7, 8, 9] [] (by kernel_rfl)) (WpC.skip ?_)
            refine blockQ_normal ?_
            refine tnU ?_
            refine rgU (st1 := ⟨[(0, .p .err a0), (7, .p (.list .err) v3), (8, .p I6 ((v3.length : Int) : Int)), (9, .p I6 ((IntKind.i64.wrap (v4 + 1)) : Int))], []⟩) [0, 7, 8, 9] [] hN (.cons (sok_arith (U := Un) (rs := [(9, .p I6 v4)]) rfl rfl o0 (.int _ _ _) rfl) (.cons (mvU (v := .p I6 ((IntKind.i64.wrap (v4 + 1)) : Int)) rfl rfl) .nil)) (by kernel_rfl) (by kernel_rfl) (by kernel_rfl) (cvR _) ?_
            refine tnU ?_
            exact ⟨n, Nat.lt_succ_self n, (IntKind.i64.wrap (v4 + 1)), h, rfl⟩
        · replace h := ite_f hc8 h
          refine WpC.conv (cvK (b := ⟨[], []⟩) [] [] (by kernel_rfl)) (WpC.exit ?_)
          refine thenQ_exit ?_
          have hq := Option.some.inj h
          subst hq
          refine thenQ_exit ?_
          have h := hout7
          refine blockQ_hit ?_
          refine tnU ?_
          exact ⟨h, rfl⟩
    · rintro _ ⟨h, rfl⟩
      unfold millwrightnum_Num.j2 at h
      refine WpC.seq ?_
      refine rgU (st1 := ⟨[(2, .p I6 ((-1) : Int))], []⟩) [2] [] hN (.cons (moU (rs := []) rfl (.inr rfl) (.int _ _ _)) .nil) (by kernel_rfl) (by kernel_rfl) (by kernel_rfl) (cvR _) ?_
      refine tnU ?_
      refine WpC.ret ?_
      have hq := Option.some.inj h
      subst hq
      exact ends_ret (retV_1 rfl (.head _)) ain_nil

theorem millwrightref01_Right.ok (O : Out) (hO : GOk O) (k : Nat) (a0 : List UInt8) (out : Bool) (h : millwrightref01_Right.f k a0 = some out) : COk Un O Tryd.prog 56 { ar := [.p .str a0], r := .p .bool out } := by
  refine cok_of_wp Tryd.func56 rfl (k := 28) rfl (Nat.le_of_ble_eq_true rfl) (namesOk_pure rfl rfl rfl rfl) ?_
  intro B hN
  refine WpC.conv (cvK (b := ⟨[(0, .p .str a0)], []⟩) [0] [] (by kernel_rfl)) ?_
  unfold millwrightref01_Right.f at h
  refine WpC.seq ?_
  refine rgU (st1 := ⟨[(0, .p .str a0)], []⟩) [0] [] hN (.cons (moU (rs := []) rfl (.inr rfl) (.bool _ _)) .nil) (by kernel_rfl) (by kernel_rfl) (by kernel_rfl) (cvR _) ?_
  refine tnU ?_
  refine sqJ (fun st' => millwrightref01_Right.j2 k a0 = some out ∧ st' = ⟨[(0, .p .str a0)], []⟩) ?_ ?_
  · refine WpC.seq ?_
    refine rgU (st1 := ⟨[(0, .p .str a0), (3, .p I6 (0 : Int))], []⟩) [0, 3] [] hN (.cons (moU (rs := []) rfl (.inr rfl) (.int _ _ _)) .nil) (by kernel_rfl) (by kernel_rfl) (by kernel_rfl) (cvR _) ?_
    refine tnU ?_
    refine WpC.block ?_
    obtain ⟨o5, hlo5, h⟩ := bind_some h
    have hout6 := h
    clear h
    refine WpC.loop (U := Un) (fun n st' => ∃ v3 : Int, millwrightref01_Right.l4 k a0 n v3 = some o5 ∧ st' = ⟨[(0, .p .str a0), (3, .p I6 v3)], []⟩) k ⟨0, hlo5, rfl⟩ ?_
    clear hlo5
    rintro (_ | n) _ ⟨v3, h, rfl⟩
    · cases h
    · rw [millwrightref01_Right.l4] at h
      refine WpC.seq ?_
      refine WpC.seq ?_
      refine rgU (st1 := ⟨[(0, .p .str a0), (3, .p I6 v3), (7, .p .bool ((decide (v3 < (a0.length : Int))) : Bool))], []⟩) [0, 3, 7] [] hN (.cons (mvU (v := .p I6 v3) rfl rfl) (.cons (mvU (v := .p .str a0) rfl rfl) (.cons (sok_lenS (U := Un) (rs := [(5, .p .str a0)]) rfl rfl Tryd.underlying9 o0) (.cons (cmU (rs := [(4, .p I6 v3), (6, .p I6 ((a0.length : Int) : Int))]) rfl rfl o0 o1 rfl) .nil)))) (by kernel_rfl) (by kernel_rfl) (by kernel_rfl) (cvR _) ?_
      refine tnU ?_
      refine cdU (b := (decide (v3 < (a0.length : Int)))) (.tmp (.tail _ (.tail _ (.head _)))) (fun hc7 => ?_) (fun hc7 => ?_)
      · replace h := ite_t hc7 h
        refine WpC.conv (cvK (b := ⟨[(0, .p .str a0), (3, .p I6 v3)], []⟩) [0, 3] [] (by kernel_rfl)) (WpC.skip ?_)
        refine tnU ?_
        refine sqJ (fun st' => millwrightref01_Right.j8 k (millwrightref01_Right.l4 k a0 n) a0 v3 = some o5 ∧ st' = ⟨[(0, .p .str a0), (3, .p I6 v3)], []⟩) ?_ ?_
        · refine WpC.block ?_
          refine sqJ (fun st' => ∃ v9 : Bool, millwrightref01_Right.j11 k (millwrightref01_Right.l4 k a0 n) a0 v3 v9 = some o5 ∧ st' = ⟨[(0, .p .str a0), (3, .p I6 v3), (19, .p .bool v9)], []⟩) ?_ ?_
          · obtain ⟨v12, hv12, h⟩ := bind_some h
            rcases bool_cases (decide ((v12.toNat : Int) ≤ 32)) with hc13 | hc13
            · replace h := ite_t hc13 h
              refine rgU (st1 := ⟨[(0, .p .str a0), (3, .p I6 v3), (19, .p .bool true)], []⟩) [0, 3, 19] [] hN (.cons (mvU (v := .p .str a0) rfl rfl) (.cons (mvU (v := .p I6 v3) rfl rfl) (.cons (sok_indexS (U := Un) (rs := [(10, .p .str a0), (11, .p I6 v3)]) rfl rfl Tryd.underlying9 o0 o1 hv12) (.cons (cmU (rs := [(12, .p (.int .u8) ((v12.toNat : Int) : Int))]) rfl rfl o0 (.int _ _ _) rfl) (.cons (mvU (v := .p .bool ((decide ((v12.toNat : Int) ≤ 32)) : Bool)) rfl rfl) (.cons (skU rfl rfl hc13) (.cons (skU rfl rfl hc13) (.cons (skU rfl rfl hc13) (.cons (skU rfl rfl hc13) (.cons (pkT (rs := [(14, .p .bool ((decide ((v12.toNat : Int) ≤ 32)) : Bool))]) rfl rfl o0 hc13 (.bool _ _)) .nil)))))))))) (by kernel_rfl) (by kernel_rfl) (by kernel_rfl) (cvR _) ?_
              refine tnU ?_
              exact ⟨true, h, rfl⟩
            · replace h := ite_f hc13 h
              obtain ⟨v14, hv14, h⟩ := bind_some h
              refine rgU (st1 := ⟨[(0, .p .str a0), (3, .p I6 v3), (19, .p .bool ((decide ((v14.toNat : Int) ≥ 127)) : Bool))], []⟩) [0, 3, 19] [] hN (.cons (mvU (v := .p .str a0) rfl rfl) (.cons (mvU (v := .p I6 v3) rfl rfl) (.cons (sok_indexS (U := Un) (rs := [(10, .p .str a0), (11, .p I6 v3)]) rfl rfl Tryd.underlying9 o0 o1 hv12) (.cons (cmU (rs := [(12, .p (.int .u8) ((v12.toNat : Int) : Int))]) rfl rfl o0 (.int _ _ _) rfl) (.cons (mvU (v := .p .bool ((decide ((v12.toNat : Int) ≤ 32)) : Bool)) rfl rfl) (.cons (sok_run rfl rfl hc13 (mvU (v := .p .str a0) rfl rfl)) (.cons (sok_run rfl rfl hc13 (mvU (v := .p I6 v3) rfl rfl)) (.cons (sok_run rfl rfl hc13 (sok_indexS (U := Un) (rs := [(15, .p .str a0), (16, .p I6 v3)]) rfl rfl Tryd.underlying9 o0 o1 hv14)) (.cons (sok_run rfl rfl hc13 (cmU (rs := [(17, .p (.int .u8) ((v14.toNat : Int) : Int))]) rfl rfl o0 (.int _ _ _) rfl)) (.cons (pkF (rs := [(14, .p .bool ((decide ((v12.toNat : Int) ≤ 32)) : Bool)), (18, .p .bool ((decide ((v14.toNat : Int) ≥ 127)) : Bool))]) rfl rfl o0 hc13 o1) .nil)))))))))) (by kernel_rfl) (by kernel_rfl) (by kernel_rfl) (cvR _) ?_
              refine tnU ?_
              exact ⟨(decide ((v14.toNat : Int) ≥ 127)), h, rfl⟩
          · rintro _ ⟨v9, h, rfl⟩
            unfold millwrightref01_Right.j11 at h
            refine cdU (b := v9) (.tmp (.tail _ (.tail _ (.head _)))) (fun hc10 => ?_) (fun hc10 => ?_)
            · replace h := ite_t hc10 h
              refine WpC.seq ?_
              refine rgU (st1 := ⟨[(2, .p .bool false)], []⟩) [2] [] hN (.cons (moU (rs := []) rfl (.inr rfl) (.bool _ _)) .nil) (by kernel_rfl) (by kernel_rfl) (by kernel_rfl) (cvR _) ?_
              refine tnU ?_
              refine WpC.ret ?_
              refine blockQ_ret ?_
              refine thenQ_ret ?_
              have hq := Option.some.inj h
              subst hq
              refine thenQ_ret ?_
              have h := hout6
              refine blockQ_ret ?_
              refine thenQ_ret ?_
              have hq := Option.some.inj h
              subst hq
              exact ends_ret (retV_1 rfl (.head _)) ain_nil
            · replace h := ite_f hc10 h
              refine WpC.conv (cvK (b := ⟨[(0, .p .str a0), (3, .p I6 v3)], []⟩) [0, 3] [] (by kernel_rfl)) (WpC.skip ?_)
              refine blockQ_normal ?_
              refine tnU ?_
              exact ⟨h, rfl⟩
        · rintro _ ⟨h, rfl⟩
          unfold millwrightref01_Right.j8 at h
          refine rgU (st1 := ⟨[(0, .p .str a0), (3, .p I6 ((IntKind.i64.wrap (v3 + 1)) : Int))], []⟩) [0, 3] [] hN (.cons (mvU (v := .p I6 v3) rfl rfl) (.cons (sok_arith (U := Un) (rs := [(8, .p I6 v3)]) rfl rfl o0 (.int _ _ _) rfl) (.cons (mvA (v := .p I6 ((IntKind.i64.wrap (v3 + 1)) : Int)) rfl rfl) .nil))) (by kernel_rfl) (by kernel_rfl) (by kernel_rfl) (cvR _) ?_
          refine tnU ?_
          exact ⟨n, Nat.lt_succ_self n, (IntKind.i64.wrap (v3 + 1)), h, rfl⟩
      · replace h := ite_f hc7 h
        refine WpC.conv (cvK (b := ⟨[(0, .p .str a0)], []⟩) [0] [] (by kernel_rfl)) (WpC.exit ?_)
        refine thenQ_exit ?_
        have hq := Option.some.inj h
        subst hq
        refine thenQ_exit ?_
        have h := hout6
        refine blockQ_hit ?_
        refine tnU ?_
        exact ⟨h, rfl⟩
  · rintro _ ⟨h, rfl⟩
    unfold millwrightref01_Right.j2 at h
    refine WpC.seq ?_
    rcases bool_cases (decide ((a0.length : Int) > 0)) with hc1 | hc1
    · replace h := ite_t hc1 h
      refine rgU (st1 := ⟨[(2, .p .bool ((decide ((a0.length : Int) ≤ 40)) : Bool))], []⟩) [2] [] hN (.cons (mvU (v := .p .str a0) rfl rfl) (.cons (sok_lenS (U := Un) (rs := [(20, .p .str a0)]) rfl rfl Tryd.underlying9 o0) (.cons (cmU (rs := [(21, .p I6 ((a0.length : Int) : Int))]) rfl rfl o0 (.int _ _ _) rfl) (.cons (mvU (v := .p .bool ((decide ((a0.length : Int) > 0)) : Bool)) rfl rfl) (.cons (sok_run rfl rfl hc1 (mvU (v := .p .str a0) rfl rfl)) (.cons (sok_run rfl rfl hc1 (sok_lenS (U := Un) (rs := [(24, .p .str a0)]) rfl rfl Tryd.underlying9 o0)) (.cons (sok_run rfl rfl hc1 (cmU (rs := [(25, .p I6 ((a0.length : Int) : Int))]) rfl rfl o0 (.int _ _ _) rfl)) (.cons (pkT (rs := [(23, .p .bool ((decide ((a0.length : Int) > 0)) : Bool)), (26, .p .bool ((decide ((a0.length : Int) ≤ 40)) : Bool))]) rfl rfl o0 hc1 o1) (.cons (mvA (v := .p .bool ((decide ((a0.length : Int) ≤ 40)) : Bool)) rfl rfl) .nil))))))))) (by kernel_rfl) (by kernel_rfl) (by kernel_rfl) (cvR _) ?_
      refine tnU ?_
      refine WpC.ret ?_
      have hq := Option.some.inj h
      subst hq
      exact ends_ret (retV_1 rfl (.head _)) ain_nil
    · replace h := ite_f hc1 h
      refine rgU (st1 := ⟨[(2, .p .bool false)], []⟩) [2] [] hN (.cons (mvU (v := .p .str a0) rfl rfl) (.cons (sok_lenS (U := Un) (rs := [(20, .p .str a0)]) rfl rfl Tryd.underlying9 o0) (.cons (cmU (rs := [(21, .p I6 ((a0.length : Int) : Int))]) rfl rfl o0 (.int _ _ _) rfl) (.cons (mvU (v := .p .bool ((decide ((a0.length : Int) > 0)) : Bool)) rfl rfl) (.cons (skU rfl rfl hc1) (.cons (skU rfl rfl hc1) (.cons (skU rfl rfl hc1) (.cons (pkF (rs := [(23, .p .bool ((decide ((a0.length : Int) > 0)) : Bool))]) rfl rfl o0 hc1 (.bool _ _)) (.cons (mvA (v := .p .bool false) rfl rfl) .nil))))))))) (by kernel_rfl) (by kernel_rfl) (by kernel_rfl) (cvR _) ?_
      refine tnU ?_
      refine WpC.ret ?_
      have hq := Option.some.inj h
      subst hq
      exact ends_ret (retV_1 rfl (.head _)) ain_nil

theorem millwrightref02_Tree_At_m0.ok (O : Out) (hO : GOk O) (k : Nat) (a0 : List T_tree_File) (a1 : List UInt8) (out : Int) (h : millwrightref02_Tree_At_m0.f k a0 a1 = some out) : COk Un O Tryd.prog 23 { ar := [.loc 100000 0, .p .str a1], r := .p I6 out, bs := [(100000, .box [.p (.list (.named 3)) a0])], bs' := [(100000, .box [.p (.list (.named 3)) a0])] } := by
  refine cok_of_wp Tryd.func23 rfl (k := 23) rfl (Nat.le_of_ble_eq_true rfl) (namesOk_of (by kernel_rfl)) ?_
  intro B hN
  refine WpC.conv (cvK (b := ⟨[(0, .loc 100000 0), (1, .p .str a1)], [(100000, .box [.p (.list (.named 3)) a0])]⟩) [0, 1] [100000] (by kernel_rfl)) ?_
  unfold millwrightref02_Tree_At_m0.f at h
  refine WpC.seq ?_
  refine rgU (st1 := ⟨[(0, .loc 100000 0), (1, .p .str a1)], [(100000, .box [.p (.list (.named 3)) a0])]⟩) [0, 1] [100000] hN (.cons (moU (rs := []) rfl (.inr rfl) (.int _ _ _)) .nil) (by kernel_rfl) (by kernel_rfl) (by kernel_rfl) (cvR _) ?_
  refine tnU ?_
  refine sqJ (fun st' => millwrightref02_Tree_At_m0.j1 k a0 = some out ∧ st' = ⟨[], [(100000, .box [.p (.list (.named 3)) a0])]⟩) ?_ ?_
  · refine WpC.seq ?_
    refine rgU (st1 := ⟨[(1, .p .str a1), (10, .p (.list (.named 3)) a0), (11, .p I6 ((a0.length : Int) : Int)), (12, .p I6 (0 : Int))], [(100000, .box [.p (.list (.named 3)) a0])]⟩) [1, 10, 11, 12] [100000] hN (.cons (mvU (v := .loc 100000 0) rfl rfl) (.cons (nlU (rs := [(7, .loc 100000 0)]) rfl rfl o0 rfl) (.cons (fdB (rs := [(8, .loc 100000 0)]) rfl rfl fd_47_0 (by decide) o0) (.cons (ldB (t := .list (.named 3)) (rs := [(9, .loc 100000 0)]) [] [.p (.list (.named 3)) a0] [] (v := .p (.list (.named 3)) a0) rfl rfl ty_45 o0 rfl rfl rfl rfl (.data (.one _ _))) (.cons (sok_lenL (U := Un) (rs := [(10, .p (.list (.named 3)) a0)]) rfl rfl Tryd.underlying45 o0) (.cons (moU (rs := []) rfl (.inl rfl) (.int _ _ _)) .nil)))))) (by kernel_rfl) (by kernel_rfl) (by kernel_rfl) (cvR _) ?_
    refine tnU ?_
    refine WpC.block ?_
    obtain ⟨o4, hlo4, h⟩ := bind_some h
    have hout5 := h
    clear h
    refine WpC.loop (U := Un) (fun n st' => ∃ v2 : Int, millwrightref02_Tree_At_m0.l3 k a0 a1 n v2 = some o4 ∧ st' = ⟨[(1, .p .str a1), (10, .p (.list (.named 3)) a0), (11, .p I6 ((a0.length : Int) : Int)), (12, .p I6 v2)], [(100000, .box [.p (.list (.named 3)) a0])]⟩) k ⟨0, hlo4, rfl⟩ ?_
    clear hlo4
    rintro (_ | n) _ ⟨v2, h, rfl⟩
    · cases h
    · rw [millwrightref02_Tree_At_m0.l3] at h
      refine WpC.seq ?_
      refine rgU (st1 := ⟨[(1, .p .str a1), (10, .p (.list (.named 3)) a0), (11, .p I6 ((a0.length : Int) : Int)), (12, .p I6 v2), (13, .p .bool ((decide (v2 < (a0.length : Int))) : Bool))], [(100000, .box [.p (.list (.named 3)) a0])]⟩) [1, 10, 11, 12, 13] [100000] hN (.cons (cmU (rs := [(12, .p I6 v2), (11, .p I6 ((a0.length : Int) : Int))]) rfl rfl o0 o1 rfl) .nil) (by kernel_rfl) (by kernel_rfl) (by kernel_rfl) (cvR _) ?_
      refine tnU ?_
      refine WpC.seq ?_
      refine cdU (b := (decide (v2 < (a0.length : Int)))) (.tmp (.tail _ (.tail _ (.tail _ (.tail _ (.head _)))))) (fun hc6 => ?_) (fun hc6 => ?_)
      · replace h := ite_t hc6 h
        refine WpC.conv (cvK (b := ⟨[(1, .p .str a1), (10, .p (.list (.named 3)) a0), (11, .p I6 ((a0.length : Int) : Int)), (12, .p I6 v2)], [(100000, .box [.p (.list (.named 3)) a0])]⟩) [1, 10, 11, 12] [100000] (by kernel_rfl)) (WpC.skip ?_)
        refine tnU ?_
        refine WpC.seq ?_
        refine WpC.block ?_
        refine WpC.seq ?_
        obtain ⟨v7, hv7, h⟩ := bind_some h
        refine rgU (st1 := ⟨[(1, .p .str a1), (5, .p I6 v2), (6, .loc 6 0), (10, .p (.list (.named 3)) a0), (11, .p I6 ((a0.length : Int) : Int)), (12, .p I6 v2)], [(6, .box [.p .str v7.f_Name, .p .str v7.f_Content, .p I6 v7.f_Time]), (100000, .box [.p (.list (.named 3)) a0])]⟩) [1, 5, 6, 10, 11, 12] [6, 100000] hN (.cons (mvU (v := .p I6 v2) rfl rfl) (.cons (sok_indexL (U := Un) (rs := [(10, .p (.list (.named 3)) a0), (12, .p I6 v2)]) rfl rfl sl_45 o0 o1 hv7) (.cons (sok_loadP (U := Un) (rs := [(15, .pp (.named 3) v7)]) rfl rfl ty_50 o0) (.cons (sok_allocZ (U := Un) (rs := []) (d := 6) (us := [.p .str ([] : List UInt8), .p .str ([] : List UInt8), .p I6 (0 : Int)]) (v := (.agg #[.string ByteArray.empty, .string ByteArray.empty, .int .i64 0])) rfl rfl rfl (by kernel_rfl) rfl (.data (fun _ _ _ => rd_str0) (.data (fun _ _ _ => rd_str0) (.data (fun _ _ _ => .int _ _) .nil))) (by kernel_rfl)) (.cons (mvA (v := .p I6 v2) rfl rfl) (.cons (sok_storeB (U := Un) (rs := [(6, .loc 6 0), (16, .p (.named 3) v7)]) (v := .p (.named 3) v7) (mid' := [.p .str v7.f_Name, .p .str v7.f_Content, .p I6 v7.f_Time]) [] [.p .str ([] : List UInt8), .p .str ([] : List UInt8), .p I6 (0 : Int)] [] rfl rfl rfl ty_50 o0 o1 (.data (.named (us := ([.p .str v7.f_Name, .p .str v7.f_Content, .p I6 v7.f_Time] : List (AVal Un))) (.pair (.one _ _) (.pair (.one _ _) (.pair (.one _ _) .unit))))) rfl rfl rfl rfl rfl rfl) .nil)))))) (by kernel_rfl) (by kernel_rfl) (by kernel_rfl) (cvR _) ?_
        refine tnU ?_
        refine WpC.seq ?_
        refine rgU (st1 := ⟨[(1, .p .str a1), (5, .p I6 v2), (10, .p (.list (.named 3)) a0), (11, .p I6 ((a0.length : Int) : Int)), (12, .p I6 v2), (20, .p .bool ((v7.f_Name == a1) : Bool))], [(100000, .box [.p (.list (.named 3)) a0])]⟩) [1, 5, 10, 11, 12, 20] [100000] hN (.cons (fdB (rs := [(6, .loc 6 0)]) rfl rfl fd_50_0 (by decide) o0) (.cons (ldB (t := .str) (rs := [(17, .loc 6 0)]) [] [.p .str v7.f_Name] [.p .str v7.f_Content, .p I6 v7.f_Time] (v := .p .str v7.f_Name) rfl rfl ty_9 o0 rfl rfl rfl rfl (.data (.one _ _))) (.cons (mvU (v := .p .str a1) rfl rfl) (.cons (sok_cmpS (U := Un) (rs := [(18, .p .str v7.f_Name), (19, .p .str a1)]) rfl rfl o0 o1 rfl) .nil)))) (by kernel_rfl) (by kernel_rfl) (by kernel_rfl) (cvR _) ?_
        refine tnU ?_
        refine cdU (b := (v7.f_Name == a1)) (.tmp (.tail _ (.tail _ (.tail _ (.tail _ (.tail _ (.head _))))))) (fun hc8 => ?_) (fun hc8 => ?_)
        · replace h := ite_t hc8 h
          refine WpC.seq ?_
          refine rgU (st1 := ⟨[(4, .p I6 v2)], [(100000, .box [.p (.list (.named 3)) a0])]⟩) [4] [100000] hN (.cons (mvU (v := .p I6 v2) rfl rfl) (.cons (mvA (v := .p I6 v2) rfl rfl) .nil)) (by kernel_rfl) (by kernel_rfl) (by kernel_rfl) (cvR _) ?_
          refine tnU ?_
          refine WpC.ret ?_
          refine blockQ_ret ?_
          refine thenQ_ret ?_
          have hq := Option.some.inj h
          subst hq
          refine thenQ_ret ?_
          have h := hout5
          refine blockQ_ret ?_
          refine thenQ_ret ?_
          have hq := Option.some.inj h
          subst hq
          exact ends_ret (retV_1 rfl (.head _)) (ain_cons (.head _) ain_nil)
        · replace h := ite_f hc8 h
          refine WpC.conv (cvK (b := ⟨[(1, .p .str a1), (10, .p (.list (.named 3)) a0), (11, .p I6 ((a0.length : Int) : Int)), (12, .p I6 v2)], [(100000, .box [.p (.list (.named 3)) a0])]⟩) [1, 10, 11, 12] [100000] (by kernel_rfl)) (WpC.skip ?_)
          refine blockQ_normal ?_
          refine tnU ?_
          refine rgU (st1 := ⟨[(1, .p .str a1), (10, .p (.list (.named 3)) a0), (11, .p I6 ((a0.length : Int) : Int)), (12, .p I6 ((IntKind.i64.wrap (v2 + 1)) : Int))], [(100000, .box [.p (.list (.named 3)) a0])]⟩) [1, 10, 11, 12] [100000] hN (.cons (sok_arith (U := Un) (rs := [(12, .p I6 v2)]) rfl rfl o0 (.int _ _ _) rfl) (.cons (mvU (v := .p I6 ((IntKind.i64.wrap (v2 + 1)) : Int)) rfl rfl) .nil)) (by kernel_rfl) (by kernel_rfl) (by kernel_rfl) (cvR _) ?_
          refine tnU ?_
          exact ⟨n, Nat.lt_succ_self n, (IntKind.i64.wrap (v2 + 1)), h, rfl⟩
      · replace h := ite_f hc6 h
        refine WpC.conv (cvK (b := ⟨[], [(100000, .box [.p (.list (.named 3)) a0])]⟩) [] [100000] (by kernel_rfl)) (WpC.exit ?_)
        refine thenQ_exit ?_
        have hq := Option.some.inj h
        subst hq
        refine thenQ_exit ?_
        have h := hout5
        refine blockQ_hit ?_
        refine tnU ?_
        exact ⟨h, rfl⟩
  · rintro _ ⟨h, rfl⟩
    unfold millwrightref02_Tree_At_m0.j1 at h
    refine WpC.seq ?_
    refine rgU (st1 := ⟨[(4, .p I6 ((-1) : Int))], [(100000, .box [.p (.list (.named 3)) a0])]⟩) [4] [100000] hN (.cons (moU (rs := []) rfl (.inr rfl) (.int _ _ _)) .nil) (by kernel_rfl) (by kernel_rfl) (by kernel_rfl) (cvR _) ?_
    refine tnU ?_
    refine WpC.ret ?_
    have hq := Option.some.inj h
    subst hq
    exact ends_ret (retV_1 rfl (.head _)) (ain_cons (.head _) ain_nil)

theorem millwrightref02_Tree_Put_m0.ok (O : Out) (hO : GOk O) (k : Nat) (a0 : List T_tree_File) (a1 : T_tree_File) (out : Int × (List T_tree_File)) (h : millwrightref02_Tree_Put_m0.f k a0 a1 = some out) : COk Un O Tryd.prog 20 { ar := [.loc 100000 0, .p (.named 3) a1], r := .p I6 out.1, bs := [(100000, .box [.p (.list (.named 3)) a0])], bs' := [(100000, .box [.p (.list (.named 3)) out.2])] } := by
  refine cok_of_wp Tryd.func20 rfl (k := 81) rfl (Nat.le_of_ble_eq_true rfl) (namesOk_of (by kernel_rfl)) ?_
  intro B hN
  refine WpC.conv (cvK (b := ⟨[(0, .loc 100000 0), (1, .p (.named 3) a1)], [(100000, .box [.p (.list (.named 3)) a0])]⟩) [0, 1] [100000] (by kernel_rfl)) ?_
  unfold millwrightref02_Tree_Put_m0.f at h
  refine WpC.seq ?_
  refine rgU (st1 := ⟨[(0, .loc 100000 0), (3, .loc 3 0)], [(3, .box [.p .str a1.f_Name, .p .str a1.f_Content, .p I6 a1.f_Time]), (100000, .box [.p (.list (.named 3)) a0])]⟩) [0, 3] [3, 100000] hN (.cons (sok_box (U := Un) (rs := [(1, .p (.named 3) a1)]) (d := 3) (us := [.p .str a1.f_Name, .p .str a1.f_Content, .p I6 a1.f_Time]) rfl rfl rfl o0 (.data (.named (us := ([.p .str a1.f_Name, .p .str a1.f_Content, .p I6 a1.f_Time] : List (AVal Un))) (.pair (.one _ _) (.pair (.one _ _) (.pair (.one _ _) .unit))))) rfl (notin_of (by kernel_rfl))) (.cons (moU (rs := []) rfl (.inr rfl) (.int _ _ _)) .nil)) (by kernel_rfl) (by kernel_rfl) (by kernel_rfl) (cvR _) ?_
  refine tnU ?_
  refine WpC.seq ?_
  refine WpC.seq ?_
  obtain ⟨v1, hv1, h⟩ := bind_some h
  refine rgU (st1 := ⟨[(0, .loc 100000 0), (3, .loc 3 0), (12, .p .bool ((!v1) : Bool))], [(3, .box [.p .str a1.f_Name, .p .str a1.f_Content, .p I6 a1.f_Time]), (100000, .box [.p (.list (.named 3)) a0])]⟩) [0, 3, 12] [3, 100000] hN (.cons (fdB (rs := [(3, .loc 3 0)]) rfl rfl fd_50_0 (by decide) o0) (.cons (ldB (t := .str) (rs := [(9, .loc 3 0)]) [] [.p .str a1.f_Name] [.p .str a1.f_Content, .p I6 a1.f_Time] (v := .p .str a1.f_Name) rfl rfl ty_9 o0 rfl rfl rfl rfl (.data (.one _ _))) (.cons (caV (rs := [(10, .p .str a1.f_Name)]) (vw := []) rfl rfl (.func _) hb_56 (millwrightref01_Right.ok O hO k a1.f_Name v1 hv1) (.cons o0 .nil) (.cons (.same _) .nil) (by simp) (.inl rfl)) (.cons (sok_not (U := Un) (rs := [(11, .p .bool v1)]) rfl rfl o0) .nil)))) (by kernel_rfl) (by kernel_rfl) (by kernel_rfl) (cvR _) ?_
  refine tnU ?_
  refine cdU (b := (!v1)) (.tmp (.tail _ (.tail _ (.head _)))) (fun hc2 => ?_) (fun hc2 => ?_)
  · replace h := ite_t hc2 h
    refine WpC.seq ?_
    refine rgU (st1 := ⟨[(4, .p I6 (4 : Int))], [(100000, .box [.p (.list (.named 3)) a0])]⟩) [4] [100000] hN (.cons (moU (rs := []) rfl (.inr rfl) (.int _ _ _)) .nil) (by kernel_rfl) (by kernel_rfl) (by kernel_rfl) (cvR _) ?_
    refine tnU ?_
    refine WpC.ret ?_
    refine thenQ_ret ?_
    have hq := Option.some.inj h
    subst hq
    exact ends_ret (retV_1 rfl (.head _)) (ain_cons (.head _) ain_nil)
  · replace h := ite_f hc2 h
    refine WpC.conv (cvK (b := ⟨[(0, .loc 100000 0), (3, .loc 3 0)], [(3, .box [.p .str a1.f_Name, .p .str a1.f_Content, .p I6 a1.f_Time]), (100000, .box [.p (.list (.named 3)) a0])]⟩) [0, 3] [3, 100000] (by kernel_rfl)) (WpC.skip ?_)
    refine tnU ?_
    refine WpC.seq ?_
    refine WpC.seq ?_
    refine rgU (st1 := ⟨[(0, .loc 100000 0), (3, .loc 3 0), (16, .p .bool ((decide ((a1.f_Content.length : Int) > 900)) : Bool))], [(3, .box [.p .str a1.f_Name, .p .str a1.f_Content, .p I6 a1.f_Time]), (100000, .box [.p (.list (.named 3)) a0])]⟩) [0, 3, 16] [3, 100000] hN (.cons (fdB (rs := [(3, .loc 3 0)]) rfl rfl fd_50_1 (by decide) o0) (.cons (ldB (t := .str) (rs := [(13, .loc 3 1)]) [.p .str a1.f_Name] [.p .str a1.f_Content] [.p I6 a1.f_Time] (v := .p .str a1.f_Content) rfl rfl ty_9 o0 rfl rfl rfl rfl (.data (.one _ _))) (.cons (sok_lenS (U := Un) (rs := [(14, .p .str a1.f_Content)]) rfl rfl Tryd.underlying9 o0) (.cons (cmU (rs := [(15, .p I6 ((a1.f_Content.length : Int) : Int))]) rfl rfl o0 (.int _ _ _) rfl) .nil)))) (by kernel_rfl) (by kernel_rfl) (by kernel_rfl) (cvR _) ?_
    refine tnU ?_
    refine cdU (b := (decide ((a1.f_Content.length : Int) > 900))) (.tmp (.tail _ (.tail _ (.head _)))) (fun hc3 => ?_) (fun hc3 => ?_)
    · replace h := ite_t hc3 h
      refine WpC.seq ?_
      refine rgU (st1 := ⟨[(4, .p I6 (2 : Int))], [(100000, .box [.p (.list (.named 3)) a0])]⟩) [4] [100000] hN (.cons (moU (rs := []) rfl (.inr rfl) (.int _ _ _)) .nil) (by kernel_rfl) (by kernel_rfl) (by kernel_rfl) (cvR _) ?_
      refine tnU ?_
      refine WpC.ret ?_
      refine thenQ_ret ?_
      have hq := Option.some.inj h
      subst hq
      exact ends_ret (retV_1 rfl (.head _)) (ain_cons (.head _) ain_nil)
    · replace h := ite_f hc3 h
      refine WpC.conv (cvK (b := ⟨[(0, .loc 100000 0), (3, .loc 3 0)], [(3, .box [.p .str a1.f_Name, .p .str a1.f_Content, .p I6 a1.f_Time]), (100000, .box [.p (.list (.named 3)) a0])]⟩) [0, 3] [3, 100000] (by kernel_rfl)) (WpC.skip ?_)
      refine tnU ?_
      refine sqJ (fun st' => millwrightref02_Tree_Put_m0.j41 k a0 a1 = some out ∧ st' = ⟨[(0, .loc 100000 0), (3, .loc 3 0)], [(3, .box [.p .str a1.f_Name, .p .str a1.f_Content, .p I6 a1.f_Time]), (100000, .box [.p (.list (.named 3)) a0])]⟩) ?_ ?_
      · refine sqJ (fun st' => ∃ v42 : Bool, millwrightref02_Tree_Put_m0.j44 k a0 a1 v42 = some out ∧ st' = ⟨[(0, .loc 100000 0), (3, .loc 3 0), (24, .p .bool v42)], [(3, .box [.p .str a1.f_Name, .p .str a1.f_Content, .p I6 a1.f_Time]), (100000, .box [.p (.list (.named 3)) a0])]⟩) ?_ ?_
        · rcases bool_cases (decide (a1.f_Time < 1)) with hc45 | hc45
          · replace h := ite_t hc45 h
            refine rgU (st1 := ⟨[(0, .loc 100000 0), (3, .loc 3 0), (24, .p .bool true)], [(3, .box [.p .str a1.f_Name, .p .str a1.f_Content, .p I6 a1.f_Time]), (100000, .box [.p (.list (.named 3)) a0])]⟩) [0, 3, 24] [3, 100000] hN (.cons (fdB (rs := [(3, .loc 3 0)]) rfl rfl fd_50_2 (by decide) o0) (.cons (ldB (t := .int .i64) (rs := [(17, .loc 3 2)]) [.p .str a1.f_Name, .p .str a1.f_Content] [.p I6 a1.f_Time] [] (v := .p I6 a1.f_Time) rfl rfl ty_3 o0 rfl rfl rfl rfl (.data (.one _ _))) (.cons (cmU (rs := [(18, .p I6 a1.f_Time)]) rfl rfl o0 (.int _ _ _) rfl) (.cons (mvU (v := .p .bool ((decide (a1.f_Time < 1)) : Bool)) rfl rfl) (.cons (skU rfl rfl hc45) (.cons (skU rfl rfl hc45) (.cons (skU rfl rfl hc45) (.cons (pkT (rs := [(20, .p .bool ((decide (a1.f_Time < 1)) : Bool))]) rfl rfl o0 hc45 (.bool _ _)) .nil)))))))) (by kernel_rfl) (by kernel_rfl) (by kernel_rfl) (cvR _) ?_
            refine tnU ?_
            exact ⟨true, h, rfl⟩
          · replace h := ite_f hc45 h
            refine rgU (st1 := ⟨[(0, .loc 100000 0), (3, .loc 3 0), (24, .p .bool ((decide (a1.f_Time > 549755813888)) : Bool))], [(3, .box [.p .str a1.f_Name, .p .str a1.f_Content, .p I6 a1.f_Time]), (100000, .box [.p (.list (.named 3)) a0])]⟩) [0, 3, 24] [3, 100000] hN (.cons (fdB (rs := [(3, .loc 3 0)]) rfl rfl fd_50_2 (by decide) o0) (.cons (ldB (t := .int .i64) (rs := [(17, .loc 3 2)]) [.p .str a1.f_Name, .p .str a1.f_Content] [.p I6 a1.f_Time] [] (v := .p I6 a1.f_Time) rfl rfl ty_3 o0 rfl rfl rfl rfl (.data (.one _ _))) (.cons (cmU (rs := [(18, .p I6 a1.f_Time)]) rfl rfl o0 (.int _ _ _) rfl) (.cons (mvU (v := .p .bool ((decide (a1.f_Time < 1)) : Bool)) rfl rfl) (.cons (sok_run rfl rfl hc45 (fdB (rs := [(3, .loc 3 0)]) rfl rfl fd_50_2 (by decide) o0)) (.cons (sok_run rfl rfl hc45 (ldB (t := .int .i64) (rs := [(21, .loc 3 2)]) [.p .str a1.f_Name, .p .str a1.f_Content] [.p I6 a1.f_Time] [] (v := .p I6 a1.f_Time) rfl rfl ty_3 o0 rfl rfl rfl rfl (.data (.one _ _)))) (.cons (sok_run rfl rfl hc45 (cmU (rs := [(22, .p I6 a1.f_Time)]) rfl rfl o0 (.int _ _ _) rfl)) (.cons (pkF (rs := [(20, .p .bool ((decide (a1.f_Time < 1)) : Bool)), (23, .p .bool ((decide (a1.f_Time > 549755813888)) : Bool))]) rfl rfl o0 hc45 o1) .nil)))))))) (by kernel_rfl) (by kernel_rfl) (by kernel_rfl) (cvR _) ?_
            refine tnU ?_
            exact ⟨(decide (a1.f_Time > 549755813888)), h, rfl⟩
        · rintro _ ⟨v42, h, rfl⟩
          unfold millwrightref02_Tree_Put_m0.j44 at h
          refine cdU (b := v42) (.tmp (.tail _ (.tail _ (.head _)))) (fun hc43 => ?_) (fun hc43 => ?_)
          · replace h := ite_t hc43 h
            refine WpC.seq ?_
            refine rgU (st1 := ⟨[(4, .p I6 (1 : Int))], [(100000, .box [.p (.list (.named 3)) a0])]⟩) [4] [100000] hN (.cons (moU (rs := []) rfl (.inr rfl) (.int _ _ _)) .nil) (by kernel_rfl) (by kernel_rfl) (by kernel_rfl) (cvR _) ?_
            refine tnU ?_
            refine WpC.ret ?_
            refine thenQ_ret ?_
            have hq := Option.some.inj h
            subst hq
            exact ends_ret (retV_1 rfl (.head _)) (ain_cons (.head _) ain_nil)
          · replace h := ite_f hc43 h
            refine WpC.conv (cvK (b := ⟨[(0, .loc 100000 0), (3, .loc 3 0)], [(3, .box [.p .str a1.f_Name, .p .str a1.f_Content, .p I6 a1.f_Time]), (100000, .box [.p (.list (.named 3)) a0])]⟩) [0, 3] [3, 100000] (by kernel_rfl)) (WpC.skip ?_)
            refine tnU ?_
            exact ⟨h, rfl⟩
      · rintro _ ⟨h, rfl⟩
        unfold millwrightref02_Tree_Put_m0.j41 at h
        refine sqJ (fun st' => millwrightref02_Tree_Put_m0.j35 k a0 a1 = some out ∧ st' = ⟨[(0, .loc 100000 0), (3, .loc 3 0)], [(3, .box [.p .str a1.f_Name, .p .str a1.f_Content, .p I6 a1.f_Time]), (100000, .box [.p (.list (.named 3)) a0])]⟩) ?_ ?_
        · refine sqJ (fun st' => ∃ v36 : Bool, millwrightref02_Tree_Put_m0.j38 k a0 a1 v36 = some out ∧ st' = ⟨[(0, .loc 100000 0), (3, .loc 3 0), (37, .p .bool v36)], [(3, .box [.p .str a1.f_Name, .p .str a1.f_Content, .p I6 a1.f_Time]), (100000, .box [.p (.list (.named 3)) a0])]⟩) ?_ ?_
          · obtain ⟨v39, hv39, h⟩ := bind_some h
            rcases bool_cases (decide (v39 < 0)) with hc40 | hc40
            · replace h := ite_t hc40 h
              refine rgU (st1 := ⟨[(0, .loc 100000 0), (3, .loc 3 0), (37, .p .bool ((decide ((a0.length : Int) ≥ 40)) : Bool))], [(3, .box [.p .str a1.f_Name, .p .str a1.f_Content, .p I6 a1.f_Time]), (100000, .box [.p (.list (.named 3)) a0])]⟩) [0, 3, 37] [3, 100000] hN (.cons (mvU (v := .loc 100000 0) rfl rfl) (.cons (fdB (rs := [(3, .loc 3 0)]) rfl rfl fd_50_0 (by decide) o0) (.cons (ldB (t := .str) (rs := [(26, .loc 3 0)]) [] [.p .str a1.f_Name] [.p .str a1.f_Content, .p I6 a1.f_Time] (v := .p .str a1.f_Name) rfl rfl ty_9 o0 rfl rfl rfl rfl (.data (.one _ _))) (.cons (caV (rs := [(25, .loc 100000 0), (27, .p .str a1.f_Name)]) (vw := []) rfl rfl (.func _) hb_23 (COk.ren (millwrightref02_Tree_At_m0.ok O hO k a0 a1.f_Name v39 hv39) (fun n => if n = 100000 then 100000 else n) (injOn_of (by kernel_rfl))) (.cons o0 (.cons o1 .nil)) (.cons (.same _) (.cons (.same _) .nil)) (by simp) (.inl rfl)) (.cons (cmU (rs := [(28, .p I6 v39)]) rfl rfl o0 (.int _ _ _) rfl) (.cons (mvU (v := .p .bool ((decide (v39 < 0)) : Bool)) rfl rfl) (.cons (sok_run rfl rfl hc40 (mvU (v := .loc 100000 0) rfl rfl)) (.cons (sok_run rfl rfl hc40 (nlU (rs := [(31, .loc 100000 0)]) rfl rfl o0 rfl)) (.cons (sok_run rfl rfl hc40 (fdB (rs := [(32, .loc 100000 0)]) rfl rfl fd_47_0 (by decide) o0)) (.cons (sok_run rfl rfl hc40 (ldB (t := .list (.named 3)) (rs := [(33, .loc 100000 0)]) [] [.p (.list (.named 3)) a0] [] (v := .p (.list (.named 3)) a0) rfl rfl ty_45 o0 rfl rfl rfl rfl (.data (.one _ _)))) (.cons (sok_run rfl rfl hc40 (sok_lenL (U := Un) (rs := [(34, .p (.list (.named 3)) a0)]) rfl rfl Tryd.underlying45 o0)) (.cons (sok_run rfl rfl hc40 (cmU (rs := [(35, .p I6 ((a0.length : Int) : Int))]) rfl rfl o0 (.int _ _ _) rfl)) (.cons (pkT (rs := [(30, .p .bool ((decide (v39 < 0)) : Bool)), (36, .p .bool ((decide ((a0.length : Int) ≥ 40)) : Bool))]) rfl rfl o0 hc40 o1) .nil))))))))))))) (by kernel_rfl) (by kernel_rfl) (by kernel_rfl) (cvR _) ?_
              refine tnU ?_
              exact ⟨(decide ((a0.length : Int) ≥ 40)), h, rfl⟩
            · replace h := ite_f hc40 h
              refine rgU (st1 := ⟨[(0, .loc 100000 0), (3, .loc 3 0), (37, .p .bool false)], [(3, .box [.p .str a1.f_Name, .p .str a1.f_Content, .p I6 a1.f_Time]), (100000, .box [.p (.list (.named 3)) a0])]⟩) [0, 3, 37] [3, 100000] hN (.cons (mvU (v := .loc 100000 0) rfl rfl) (.cons (fdB (rs := [(3, .loc 3 0)]) rfl rfl fd_50_0 (by decide) o0) (.cons (ldB (t := .str) (rs := [(26, .loc 3 0)]) [] [.p .str a1.f_Name] [.p .str a1.f_Content, .p I6 a1.f_Time] (v := .p .str a1.f_Name) rfl rfl ty_9 o0 rfl rfl rfl rfl (.data (.one _ _))) (.cons (caV (rs := [(25, .loc 100000 0), (27, .p .str a1.f_Name)]) (vw := []) rfl rfl (.func _) hb_23 (COk.ren (millwrightref02_Tree_At_m0.ok O hO k a0 a1.f_Name v39 hv39) (fun n => if n = 100000 then 100000 else n) (injOn_of (by kernel_rfl))) (.cons o0 (.cons o1 .nil)) (.cons (.same _) (.cons (.same _) .nil)) (by simp) (.inl rfl)) (.cons (cmU (rs := [(28, .p I6 v39)]) rfl rfl o0 (.int _ _ _) rfl) (.cons (mvU (v := .p .bool ((decide (v39 < 0)) : Bool)) rfl rfl) (.cons (skU rfl rfl hc40) (.cons (skU rfl rfl hc40) (.cons (skU rfl rfl hc40) (.cons (skU rfl rfl hc40) (.cons (skU rfl rfl hc40) (.cons (skU rfl rfl hc40) (.cons (pkF (rs := [(30, .p .bool ((decide (v39 < 0)) : Bool))]) rfl rfl o0 hc40 (.bool _ _)) .nil))))))))))))) (by kernel_rfl) (by kernel_rfl) (by kernel_rfl) (cvR _) ?_
              refine tnU ?_
              exact ⟨false, h, rfl⟩
          · rintro _ ⟨v36, h, rfl⟩
            unfold millwrightref02_Tree_Put_m0.j38 at h
            refine cdU (b := v36) (.tmp (.tail _ (.tail _ (.head _)))) (fun hc37 => ?_) (fun hc37 => ?_)
            · replace h := ite_t hc37 h
              refine WpC.seq ?_
              refine rgU (st1 := ⟨[(4, .p I6 (10 : Int))], [(100000, .box [.p (.list (.named 3)) a0])]⟩) [4] [100000] hN (.cons (moU (rs := []) rfl (.inr rfl) (.int _ _ _)) .nil) (by kernel_rfl) (by kernel_rfl) (by kernel_rfl) (cvR _) ?_
              refine tnU ?_
              refine WpC.ret ?_
              refine thenQ_ret ?_
              have hq := Option.some.inj h
              subst hq
              exact ends_ret (retV_1 rfl (.head _)) (ain_cons (.head _) ain_nil)
            · replace h := ite_f hc37 h
              refine WpC.conv (cvK (b := ⟨[(0, .loc 100000 0), (3, .loc 3 0)], [(3, .box [.p .str a1.f_Name, .p .str a1.f_Content, .p I6 a1.f_Time]), (100000, .box [.p (.list (.named 3)) a0])]⟩) [0, 3] [3, 100000] (by kernel_rfl)) (WpC.skip ?_)
              refine tnU ?_
              exact ⟨h, rfl⟩
        · rintro _ ⟨h, rfl⟩
          unfold millwrightref02_Tree_Put_m0.j35 at h
          refine WpC.seq ?_
          refine rgU (st1 := ⟨[(0, .loc 100000 0), (3, .loc 3 0), (5, .vec 38 3 0 (([] : List T_tree_File).length))], [(3, .box [.p .str a1.f_Name, .p .str a1.f_Content, .p I6 a1.f_Time]), (38, .row 50 (.named 3) ([] : List T_tree_File) true), (100000, .box [.p (.list (.named 3)) a0])]⟩) [0, 3, 5] [3, 38, 100000] hN (.cons (sok_buildSlice (U := Un) (t := .named 3) (rs := []) (ys := []) (xs := ([] : List T_tree_File)) rfl rfl rfl rfl row_45 .nil (by decide)) (.cons (mvA (v := .vec 38 3 0 (([] : List T_tree_File).length)) rfl rfl) .nil)) (by kernel_rfl) (by kernel_rfl) (by kernel_rfl) (Conv.cast (U := Un) (st' := ⟨[(0, .loc 100000 0), (3, .loc 3 0), (5, .vec 38 3 0 0)], [(3, .box [.p .str a1.f_Name, .p .str a1.f_Content, .p I6 a1.f_Time]), (38, .row 50 (.named 3) ([] : List T_tree_File) true), (100000, .box [.p (.list (.named 3)) a0])]⟩) (by simp only [upd_length, List.length_nil, List.length_replicate])) ?_
          refine tnU ?_
          refine WpC.seq ?_
          refine rgU (st1 := ⟨[(0, .loc 100000 0), (3, .loc 3 0), (5, .vec 38 3 0 0), (6, .p .bool false)], [(3, .box [.p .str a1.f_Name, .p .str a1.f_Content, .p I6 a1.f_Time]), (38, .row 50 (.named 3) ([] : List T_tree_File) true), (100000, .box [.p (.list (.named 3)) a0])]⟩) [0, 3, 5, 6] [3, 38, 100000] hN (.cons (moU (rs := []) rfl (.inr rfl) (.bool _ _)) .nil) (by kernel_rfl) (by kernel_rfl) (by kernel_rfl) (cvR _) ?_
          refine tnU ?_
          refine sqJ (fun st' => ∃ v4 : List T_tree_File, ∃ v5 : Bool, millwrightref02_Tree_Put_m0.j10 k a0 a1 v4 v5 = some out ∧ st' = ⟨[(0, .loc 100000 0), (3, .loc 3 0), (5, .vec 1005 3 0 v4.length), (6, .p .bool v5)], [(3, .box [.p .str a1.f_Name, .p .str a1.f_Content, .p I6 a1.f_Time]), (1005, .row 50 (.named 3) v4 false), (100000, .box [.p (.list (.named 3)) a0])]⟩) ?_ ?_
          · refine WpC.seq ?_
            refine rgU (st1 := ⟨[(0, .loc 100000 0), (3, .loc 3 0), (5, .vec 38 3 0 0), (6, .p .bool false), (42, .p (.list (.named 3)) a0), (43, .p I6 ((a0.length : Int) : Int)), (44, .p I6 (0 : Int))], [(3, .box [.p .str a1.f_Name, .p .str a1.f_Content, .p I6 a1.f_Time]), (38, .row 50 (.named 3) ([] : List T_tree_File) true), (100000, .box [.p (.list (.named 3)) a0])]⟩) [0, 3, 5, 6, 42, 43, 44] [3, 38, 100000] hN (.cons (mvU (v := .loc 100000 0) rfl rfl) (.cons (nlU (rs := [(39, .loc 100000 0)]) rfl rfl o0 rfl) (.cons (fdB (rs := [(40, .loc 100000 0)]) rfl rfl fd_47_0 (by decide) o0) (.cons (ldB (t := .list (.named 3)) (rs := [(41, .loc 100000 0)]) [] [.p (.list (.named 3)) a0] [] (v := .p (.list (.named 3)) a0) rfl rfl ty_45 o0 rfl rfl rfl rfl (.data (.one _ _))) (.cons (sok_lenL (U := Un) (rs := [(42, .p (.list (.named 3)) a0)]) rfl rfl Tryd.underlying45 o0) (.cons (moU (rs := []) rfl (.inl rfl) (.int _ _ _)) .nil)))))) (by kernel_rfl) (by kernel_rfl) (by kernel_rfl) (cvR _) ?_
            refine tnU ?_
            refine WpC.block ?_
            obtain ⟨o17, hlo17, h⟩ := bind_some h
            have hout18 := h
            clear h
            refine WpC.conv (cvT (Conv.loose (U := Un) 38 50 (.named 3) ([] : List T_tree_File) (.tail _ (.head _))) (cvT (cvK (b := ⟨[(0, .loc 100000 0), (3, .loc 3 0), (5, .vec 38 3 0 0), (6, .p .bool false), (42, .p (.list (.named 3)) a0), (43, .p I6 ((a0.length : Int) : Int)), (44, .p I6 (0 : Int))], [(3, .box [.p .str a1.f_Name, .p .str a1.f_Content, .p I6 a1.f_Time]), (38, .row 50 (.named 3) ([] : List T_tree_File) false), (100000, .box [.p (.list (.named 3)) a0])]⟩) [0, 3, 5, 6, 42, 43, 44] [3, 38, 100000] (by kernel_rfl)) (cvT (Conv.ren (U := Un) (st' := ⟨[(0, .loc 100000 0), (3, .loc 3 0), (5, .vec 1005 3 0 0), (6, .p .bool false), (42, .p (.list (.named 3)) a0), (43, .p I6 ((a0.length : Int) : Int)), (44, .p I6 (0 : Int))], [(3, .box [.p .str a1.f_Name, .p .str a1.f_Content, .p I6 a1.f_Time]), (1005, .row 50 (.named 3) ([] : List T_tree_File) false), (100000, .box [.p (.list (.named 3)) a0])]⟩) 38 1005 (by unfold K0; omega) (by kernel_rfl) (by kernel_rfl) (by kernel_rfl)) (cvK (b := ⟨[(0, .loc 100000 0), (3, .loc 3 0), (5, .vec 1005 3 0 0), (6, .p .bool false), (42, .p (.list (.named 3)) a0), (43, .p I6 ((a0.length : Int) : Int)), (44, .p I6 (0 : Int))], [(3, .box [.p .str a1.f_Name, .p .str a1.f_Content, .p I6 a1.f_Time]), (1005, .row 50 (.named 3) ([] : List T_tree_File) false), (100000, .box [.p (.list (.named 3)) a0])]⟩) [0, 3, 5, 6, 42, 43, 44] [3, 1005, 100000] (by kernel_rfl))))) ?_
            refine WpC.loop (U := Un) (fun n st' => ∃ v11 : List T_tree_File, ∃ v12 : Bool, ∃ v13 : Int, millwrightref02_Tree_Put_m0.l14 k a0 a1 n v11 v12 v13 = some o17 ∧ st' = ⟨[(0, .loc 100000 0), (3, .loc 3 0), (5, .vec 1005 3 0 v11.length), (6, .p .bool v12), (42, .p (.list (.named 3)) a0), (43, .p I6 ((a0.length : Int) : Int)), (44, .p I6 v13)], [(3, .box [.p .str a1.f_Name, .p .str a1.f_Content, .p I6 a1.f_Time]), (1005, .row 50 (.named 3) v11 false), (100000, .box [.p (.list (.named 3)) a0])]⟩) k ⟨([] : List T_tree_File), false, 0, hlo17, rfl⟩ ?_
            clear hlo17
            rintro (_ | n) _ ⟨v11, v12, v13, h, rfl⟩
            · cases h
            · rw [millwrightref02_Tree_Put_m0.l14] at h
              refine WpC.seq ?_
              refine rgU (st1 := ⟨[(0, .loc 100000 0), (3, .loc 3 0), (5, .vec 1005 3 0 v11.length), (6, .p .bool v12), (42, .p (.list (.named 3)) a0), (43, .p I6 ((a0.length : Int) : Int)), (44, .p I6 v13), (45, .p .bool ((decide (v13 < (a0.length : Int))) : Bool))], [(3, .box [.p .str a1.f_Name, .p .str a1.f_Content, .p I6 a1.f_Time]), (1005, .row 50 (.named 3) v11 false), (100000, .box [.p (.list (.named 3)) a0])]⟩) [0, 3, 5, 6, 42, 43, 44, 45] [3, 1005, 100000] hN (.cons (cmU (rs := [(44, .p I6 v13), (43, .p I6 ((a0.length : Int) : Int))]) rfl rfl o0 o1 rfl) .nil) (by kernel_rfl) (by kernel_rfl) (by kernel_rfl) (cvR _) ?_
              refine tnU ?_
              refine WpC.seq ?_
              refine cdU (b := (decide (v13 < (a0.length : Int)))) (.tmp (.tail _ (.tail _ (.tail _ (.tail _ (.tail _ (.tail _ (.tail _ (.head _))))))))) (fun hc19 => ?_) (fun hc19 => ?_)
              · replace h := ite_t hc19 h
                refine WpC.conv (cvK (b := ⟨[(0, .loc 100000 0), (3, .loc 3 0), (5, .vec 1005 3 0 v11.length), (6, .p .bool v12), (42, .p (.list (.named 3)) a0), (43, .p I6 ((a0.length : Int) : Int)), (44, .p I6 v13)], [(3, .box [.p .str a1.f_Name, .p .str a1.f_Content, .p I6 a1.f_Time]), (1005, .row 50 (.named 3) v11 false), (100000, .box [.p (.list (.named 3)) a0])]⟩) [0, 3, 5, 6, 42, 43, 44] [3, 1005, 100000] (by kernel_rfl)) (WpC.skip ?_)
                refine tnU ?_
                refine sqJ (fun st' => ∃ v20 : List T_tree_File, ∃ v21 : Bool, millwrightref02_Tree_Put_m0.j22 k (millwrightref02_Tree_Put_m0.l14 k a0 a1 n) a0 a1 v13 v20 v21 = some o17 ∧ st' = ⟨[(0, .loc 100000 0), (3, .loc 3 0), (5, .vec 1005 3 0 v20.length), (6, .p .bool v21), (42, .p (.list (.named 3)) a0), (43, .p I6 ((a0.length : Int) : Int)), (44, .p I6 v13)], [(3, .box [.p .str a1.f_Name, .p .str a1.f_Content, .p I6 a1.f_Time]), (1005, .row 50 (.named 3) v20 false), (100000, .box [.p (.list (.named 3)) a0])]⟩) ?_ ?_
                · refine WpC.block ?_
                  refine WpC.seq ?_
                  obtain ⟨v23, hv23, h⟩ := bind_some h
                  refine rgU (st1 := ⟨[(0, .loc 100000 0), (3, .loc 3 0), (5, .vec 1005 3 0 v11.length), (6, .p .bool v12), (8, .loc 8 0), (42, .p (.list (.named 3)) a0), (43, .p I6 ((a0.length : Int) : Int)), (44, .p I6 v13)], [(3, .box [.p .str a1.f_Name, .p .str a1.f_Content, .p I6 a1.f_Time]), (8, .box [.p .str v23.f_Name, .p .str v23.f_Content, .p I6 v23.f_Time]), (1005, .row 50 (.named 3) v11 false), (100000, .box [.p (.list (.named 3)) a0])]⟩) [0, 3, 5, 6, 8, 42, 43, 44] [3, 8, 1005, 100000] hN (.cons (sok_indexL (U := Un) (rs := [(42, .p (.list (.named 3)) a0), (44, .p I6 v13)]) rfl rfl sl_45 o0 o1 hv23) (.cons (sok_loadP (U := Un) (rs := [(46, .pp (.named 3) v23)]) rfl rfl ty_50 o0) (.cons (sok_allocZ (U := Un) (rs := []) (d := 8) (us := [.p .str ([] : List UInt8), .p .str ([] : List UInt8), .p I6 (0 : Int)]) (v := (.agg #[.string ByteArray.empty, .string ByteArray.empty, .int .i64 0])) rfl rfl rfl (by kernel_rfl) rfl (.data (fun _ _ _ => rd_str0) (.data (fun _ _ _ => rd_str0) (.data (fun _ _ _ => .int _ _) .nil))) (by kernel_rfl)) (.cons (sok_storeB (U := Un) (rs := [(8, .loc 8 0), (47, .p (.named 3) v23)]) (v := .p (.named 3) v23) (mid' := [.p .str v23.f_Name, .p .str v23.f_Content, .p I6 v23.f_Time]) [] [.p .str ([] : List UInt8), .p .str ([] : List UInt8), .p I6 (0 : Int)] [] rfl rfl rfl ty_50 o0 o1 (.data (.named (us := ([.p .str v23.f_Name, .p .str v23.f_Content, .p I6 v23.f_Time] : List (AVal Un))) (.pair (.one _ _) (.pair (.one _ _) (.pair (.one _ _) .unit))))) rfl rfl rfl rfl rfl rfl) .nil)))) (by kernel_rfl) (by kernel_rfl) (by kernel_rfl) (cvR _) ?_
                  refine tnU ?_
                  refine sqJ (fun st' => ∃ v24 : List T_tree_File, ∃ v25 : Bool, millwrightref02_Tree_Put_m0.j28 k (millwrightref02_Tree_Put_m0.l14 k a0 a1 n) a0 a1 v13 v23 v24 v25 = some o17 ∧ st' = ⟨[(0, .loc 100000 0), (3, .loc 3 0), (5, .vec 1005 3 0 v24.length), (6, .p .bool v25), (8, .loc 8 0), (42, .p (.list (.named 3)) a0), (43, .p I6 ((a0.length : Int) : Int)), (44, .p I6 v13)], [(3, .box [.p .str a1.f_Name, .p .str a1.f_Content, .p I6 a1.f_Time]), (8, .box [.p .str v23.f_Name, .p .str v23.f_Content, .p I6 v23.f_Time]), (1005, .row 50 (.named 3) v24 false), (100000, .box [.p (.list (.named 3)) a0])]⟩) ?_ ?_
                  · refine sqJ (fun st' => ∃ v29 : Bool, millwrightref02_Tree_Put_m0.j32 k (millwrightref02_Tree_Put_m0.l14 k a0 a1 n) a0 a1 v11 v12 v13 v23 v29 = some o17 ∧ st' = ⟨[(0, .loc 100000 0), (3, .loc 3 0), (5, .vec 1005 3 0 v11.length), (6, .p .bool v12), (8, .loc 8 0), (42, .p (.list (.named 3)) a0), (43, .p I6 ((a0.length : Int) : Int)), (44, .p I6 v13), (56, .p .bool v29)], [(3, .box [.p .str a1.f_Name, .p .str a1.f_Content, .p I6 a1.f_Time]), (8, .box [.p .str v23.f_Name, .p .str v23.f_Content, .p I6 v23.f_Time]), (1005, .row 50 (.named 3) v11 false), (100000, .box [.p (.list (.named 3)) a0])]⟩) ?_ ?_
                    · rcases bool_cases (!v12) with hc33 | hc33
                      · replace h := ite_t hc33 h
                        refine rgU (st1 := ⟨[(0, .loc 100000 0), (3, .loc 3 0), (5, .vec 1005 3 0 v11.length), (6, .p .bool v12), (8, .loc 8 0), (42, .p (.list (.named 3)) a0), (43, .p I6 ((a0.length : Int) : Int)), (44, .p I6 v13), (56, .p .bool ((Op.bytesLess a1.f_Name v23.f_Name || a1.f_Name == v23.f_Name) : Bool))], [(3, .box [.p .str a1.f_Name, .p .str a1.f_Content, .p I6 a1.f_Time]), (8, .box [.p .str v23.f_Name, .p .str v23.f_Content, .p I6 v23.f_Time]), (1005, .row 50 (.named 3) v11 false), (100000, .box [.p (.list (.named 3)) a0])]⟩) [0, 3, 5, 6, 8, 42, 43, 44, 56] [3, 8, 1005, 100000] hN (.cons (mvU (v := .p .bool v12) rfl rfl) (.cons (sok_not (U := Un) (rs := [(48, .p .bool v12)]) rfl rfl o0) (.cons (mvU (v := .p .bool ((!v12) : Bool)) rfl rfl) (.cons (sok_run rfl rfl hc33 (fdB (rs := [(3, .loc 3 0)]) rfl rfl fd_50_0 (by decide) o0)) (.cons (sok_run rfl rfl hc33 (ldB (t := .str) (rs := [(51, .loc 3 0)]) [] [.p .str a1.f_Name] [.p .str a1.f_Content, .p I6 a1.f_Time] (v := .p .str a1.f_Name) rfl rfl ty_9 o0 rfl rfl rfl rfl (.data (.one _ _)))) (.cons (sok_run rfl rfl hc33 (fdB (rs := [(8, .loc 8 0)]) rfl rfl fd_50_0 (by decide) o0)) (.cons (sok_run rfl rfl hc33 (ldB (t := .str) (rs := [(53, .loc 8 0)]) [] [.p .str v23.f_Name] [.p .str v23.f_Content, .p I6 v23.f_Time] (v := .p .str v23.f_Name) rfl rfl ty_9 o0 rfl rfl rfl rfl (.data (.one _ _)))) (.cons (sok_run rfl rfl hc33 (sok_cmpS (U := Un) (rs := [(52, .p .str a1.f_Name), (54, .p .str v23.f_Name)]) rfl rfl o0 o1 rfl)) (.cons (pkT (rs := [(50, .p .bool ((!v12) : Bool)), (55, .p .bool ((Op.bytesLess a1.f_Name v23.f_Name || a1.f_Name == v23.f_Name) : Bool))]) rfl rfl o0 hc33 o1) .nil))))))))) (by kernel_rfl) (by kernel_rfl) (by kernel_rfl) (cvR _) ?_
                        refine tnU ?_
                        exact ⟨(Op.bytesLess a1.f_Name v23.f_Name || a1.f_Name == v23.f_Name), h, rfl⟩
                      · replace h := ite_f hc33 h
                        refine rgU (st1 := ⟨[(0, .loc 100000 0), (3, .loc 3 0), (5, .vec 1005 3 0 v11.length), (6, .p .bool v12), (8, .loc 8 0), (42, .p (.list (.named 3)) a0), (43, .p I6 ((a0.length : Int) : Int)), (44, .p I6 v13), (56, .p .bool false)], [(3, .box [.p .str a1.f_Name, .p .str a1.f_Content, .p I6 a1.f_Time]), (8, .box [.p .str v23.f_Name, .p .str v23.f_Content, .p I6 v23.f_Time]), (1005, .row 50 (.named 3) v11 false), (100000, .box [.p (.list (.named 3)) a0])]⟩) [0, 3, 5, 6, 8, 42, 43, 44, 56] [3, 8, 1005, 100000] hN (.cons (mvU (v := .p .bool v12) rfl rfl) (.cons (sok_not (U := Un) (rs := [(48, .p .bool v12)]) rfl rfl o0) (.cons (mvU (v := .p .bool ((!v12) : Bool)) rfl rfl) (.cons (skU rfl rfl hc33) (.cons (skU rfl rfl hc33) (.cons (skU rfl rfl hc33) (.cons (skU rfl rfl hc33) (.cons (skU rfl rfl hc33) (.cons (pkF (rs := [(50, .p .bool ((!v12) : Bool))]) rfl rfl o0 hc33 (.bool _ _)) .nil))))))))) (by kernel_rfl) (by kernel_rfl) (by kernel_rfl) (cvR _) ?_
                        refine tnU ?_
                        exact ⟨false, h, rfl⟩
                    · rintro _ ⟨v29, h, rfl⟩
                      unfold millwrightref02_Tree_Put_m0.j32 at h
                      refine cdU (b := v29) (.tmp (.tail _ (.tail _ (.tail _ (.tail _ (.tail _ (.tail _ (.tail _ (.tail _ (.head _)))))))))) (fun hc30 => ?_) (fun hc30 => ?_)
                      · replace h := ite_t hc30 h
                        refine WpC.seq ?_
                        obtain ⟨g31, h⟩ := if_some h
                        refine rgU (st1 := ⟨[(0, .loc 100000 0), (3, .loc 3 0), (5, .vec 60 3 0 ((v11 ++ [(T_tree_File.mk a1.f_Name a1.f_Content a1.f_Time)]).length)), (8, .loc 8 0), (42, .p (.list (.named 3)) a0), (43, .p I6 ((a0.length : Int) : Int)), (44, .p I6 v13)], [(3, .box [.p .str a1.f_Name, .p .str a1.f_Content, .p I6 a1.f_Time]), (8, .box [.p .str v23.f_Name, .p .str v23.f_Content, .p I6 v23.f_Time]), (60, .row 50 (.named 3) (v11 ++ [(T_tree_File.mk a1.f_Name a1.f_Content a1.f_Time)]) false), (100000, .box [.p (.list (.named 3)) a0])]⟩) [0, 3, 5, 8, 42, 43, 44] [3, 8, 60, 100000] hN (.cons (mvU (v := .vec 1005 3 0 v11.length) rfl rfl) (.cons (ldB (t := .named 3) (rs := [(3, .loc 3 0)]) [] [.p .str a1.f_Name, .p .str a1.f_Content, .p I6 a1.f_Time] [] (v := .p (.named 3) ((T_tree_File.mk a1.f_Name a1.f_Content a1.f_Time) : T_tree_File)) rfl rfl ty_50 o0 rfl rfl rfl rfl (.data (.named (us := ([.p .str a1.f_Name, .p .str a1.f_Content, .p I6 a1.f_Time] : List (AVal Un))) (.pair (.one _ _) (.pair (.one _ _) (.pair (.one _ _) .unit)))))) (.cons (sok_buildSlice (U := Un) (t := .named 3) (rs := [(58, .p (.named 3) ((T_tree_File.mk a1.f_Name a1.f_Content a1.f_Time) : T_tree_File))]) (ys := [.tmp 58]) (xs := [(T_tree_File.mk a1.f_Name a1.f_Content a1.f_Time)]) rfl rfl rfl rfl row_45 (.cons o0 .nil) (by decide)) (.cons (sok_append' (U := Un) (t := .named 3) (rs := [(57, .vec 1005 3 0 v11.length), (59, .vec 59 3 0 ([(T_tree_File.mk a1.f_Name a1.f_Content a1.f_Time)].length))]) (vw := [(59, .row 50 (.named 3) [(T_tree_File.mk a1.f_Name a1.f_Content a1.f_Time)] true)]) (xs := v11) (ys := [(T_tree_File.mk a1.f_Name a1.f_Content a1.f_Time)]) (fx := false) rfl rfl rfl row_45 (by decide) o0 o1 (.whole (.head _)) (by simp) g31) (.cons (mvA (v := .vec 60 3 0 ((v11 ++ [(T_tree_File.mk a1.f_Name a1.f_Content a1.f_Time)]).length)) rfl rfl) .nil))))) (by kernel_rfl) (by kernel_rfl) (by kernel_rfl) (cvR _) ?_
                        refine tnU ?_
                        refine rgU (st1 := ⟨[(0, .loc 100000 0), (3, .loc 3 0), (5, .vec 60 3 0 ((v11 ++ [(T_tree_File.mk a1.f_Name a1.f_Content a1.f_Time)]).length)), (6, .p .bool true), (8, .loc 8 0), (42, .p (.list (.named 3)) a0), (43, .p I6 ((a0.length : Int) : Int)), (44, .p I6 v13)], [(3, .box [.p .str a1.f_Name, .p .str a1.f_Content, .p I6 a1.f_Time]), (8, .box [.p .str v23.f_Name, .p .str v23.f_Content, .p I6 v23.f_Time]), (60, .row 50 (.named 3) (v11 ++ [(T_tree_File.mk a1.f_Name a1.f_Content a1.f_Time)]) false), (100000, .box [.p (.list (.named 3)) a0])]⟩) [0, 3, 5, 6, 8, 42, 43, 44] [3, 8, 60, 100000] hN (.cons (moU (rs := []) rfl (.inr rfl) (.bool _ _)) .nil) (by kernel_rfl) (by kernel_rfl) (by kernel_rfl) (cvT (Conv.ren (U := Un) (st' := ⟨[(0, .loc 100000 0), (3, .loc 3 0), (5, .vec 1005 3 0 ((v11 ++ [(T_tree_File.mk a1.f_Name a1.f_Content a1.f_Time)]).length)), (6, .p .bool true), (8, .loc 8 0), (42, .p (.list (.named 3)) a0), (43, .p I6 ((a0.length : Int) : Int)), (44, .p I6 v13)], [(3, .box [.p .str a1.f_Name, .p .str a1.f_Content, .p I6 a1.f_Time]), (8, .box [.p .str v23.f_Name, .p .str v23.f_Content, .p I6 v23.f_Time]), (1005, .row 50 (.named 3) (v11 ++ [(T_tree_File.mk a1.f_Name a1.f_Content a1.f_Time)]) false), (100000, .box [.p (.list (.named 3)) a0])]⟩) 60 1005 (by unfold K0; omega) (by kernel_rfl) (by kernel_rfl) (by kernel_rfl)) (cvK (b := ⟨[(0, .loc 100000 0), (3, .loc 3 0), (5, .vec 1005 3 0 ((v11 ++ [(T_tree_File.mk a1.f_Name a1.f_Content a1.f_Time)]).length)), (6, .p .bool true), (8, .loc 8 0), (42, .p (.list (.named 3)) a0), (43, .p I6 ((a0.length : Int) : Int)), (44, .p I6 v13)], [(3, .box [.p .str a1.f_Name, .p .str a1.f_Content, .p I6 a1.f_Time]), (8, .box [.p .str v23.f_Name, .p .str v23.f_Content, .p I6 v23.f_Time]), (1005, .row 50 (.named 3) (v11 ++ [(T_tree_File.mk a1.f_Name a1.f_Content a1.f_Time)]) false), (100000, .box [.p (.list (.named 3)) a0])]⟩) [0, 3, 5, 6, 8, 42, 43, 44] [3, 8, 1005, 100000] (by kernel_rfl))) ?_
                        refine tnU ?_
                        exact ⟨(v11 ++ [(T_tree_File.mk a1.f_Name a1.f_Content a1.f_Time)]), true, h, rfl⟩
                      · replace h := ite_f hc30 h
                        refine WpC.conv (cvK (b := ⟨[(0, .loc 100000 0), (3, .loc 3 0), (5, .vec 1005 3 0 v11.length), (6, .p .bool v12), (8, .loc 8 0), (42, .p (.list (.named 3)) a0), (43, .p I6 ((a0.length : Int) : Int)), (44, .p I6 v13)], [(3, .box [.p .str a1.f_Name, .p .str a1.f_Content, .p I6 a1.f_Time]), (8, .box [.p .str v23.f_Name, .p .str v23.f_Content, .p I6 v23.f_Time]), (1005, .row 50 (.named 3) v11 false), (100000, .box [.p (.list (.named 3)) a0])]⟩) [0, 3, 5, 6, 8, 42, 43, 44] [3, 8, 1005, 100000] (by kernel_rfl)) (WpC.skip ?_)
                        refine tnU ?_
                        exact ⟨v11, v12, h, rfl⟩
                  · rintro _ ⟨v24, v25, h, rfl⟩
                    unfold millwrightref02_Tree_Put_m0.j28 at h
                    refine WpC.seq ?_
                    refine rgU (st1 := ⟨[(0, .loc 100000 0), (3, .loc 3 0), (5, .vec 1005 3 0 v24.length), (6, .p .bool v25), (8, .loc 8 0), (42, .p (.list (.named 3)) a0), (43, .p I6 ((a0.length : Int) : Int)), (44, .p I6 v13), (65, .p .bool ((!(v23.f_Name == a1.f_Name)) : Bool))], [(3, .box [.p .str a1.f_Name, .p .str a1.f_Content, .p I6 a1.f_Time]), (8, .box [.p .str v23.f_Name, .p .str v23.f_Content, .p I6 v23.f_Time]), (1005, .row 50 (.named 3) v24 false), (100000, .box [.p (.list (.named 3)) a0])]⟩) [0, 3, 5, 6, 8, 42, 43, 44, 65] [3, 8, 1005, 100000] hN (.cons (fdB (rs := [(8, .loc 8 0)]) rfl rfl fd_50_0 (by decide) o0) (.cons (ldB (t := .str) (rs := [(61, .loc 8 0)]) [] [.p .str v23.f_Name] [.p .str v23.f_Content, .p I6 v23.f_Time] (v := .p .str v23.f_Name) rfl rfl ty_9 o0 rfl rfl rfl rfl (.data (.one _ _))) (.cons (fdB (rs := [(3, .loc 3 0)]) rfl rfl fd_50_0 (by decide) o0) (.cons (ldB (t := .str) (rs := [(63, .loc 3 0)]) [] [.p .str a1.f_Name] [.p .str a1.f_Content, .p I6 a1.f_Time] (v := .p .str a1.f_Name) rfl rfl ty_9 o0 rfl rfl rfl rfl (.data (.one _ _))) (.cons (sok_cmpS (U := Un) (rs := [(62, .p .str v23.f_Name), (64, .p .str a1.f_Name)]) rfl rfl o0 o1 rfl) .nil))))) (by kernel_rfl) (by kernel_rfl) (by kernel_rfl) (cvR _) ?_
                    refine tnU ?_
                    refine cdU (b := (!(v23.f_Name == a1.f_Name))) (.tmp (.tail _ (.tail _ (.tail _ (.tail _ (.tail _ (.tail _ (.tail _ (.tail _ (.head _)))))))))) (fun hc26 => ?_) (fun hc26 => ?_)
                    · replace h := ite_t hc26 h
                      obtain ⟨g27, h⟩ := if_some h
                      refine rgU (st1 := ⟨[(0, .loc 100000 0), (3, .loc 3 0), (5, .vec 69 3 0 ((v24 ++ [(T_tree_File.mk v23.f_Name v23.f_Content v23.f_Time)]).length)), (6, .p .bool v25), (42, .p (.list (.named 3)) a0), (43, .p I6 ((a0.length : Int) : Int)), (44, .p I6 v13)], [(3, .box [.p .str a1.f_Name, .p .str a1.f_Content, .p I6 a1.f_Time]), (69, .row 50 (.named 3) (v24 ++ [(T_tree_File.mk v23.f_Name v23.f_Content v23.f_Time)]) false), (100000, .box [.p (.list (.named 3)) a0])]⟩) [0, 3, 5, 6, 42, 43, 44] [3, 69, 100000] hN (.cons (mvU (v := .vec 1005 3 0 v24.length) rfl rfl) (.cons (ldB (t := .named 3) (rs := [(8, .loc 8 0)]) [] [.p .str v23.f_Name, .p .str v23.f_Content, .p I6 v23.f_Time] [] (v := .p (.named 3) ((T_tree_File.mk v23.f_Name v23.f_Content v23.f_Time) : T_tree_File)) rfl rfl ty_50 o0 rfl rfl rfl rfl (.data (.named (us := ([.p .str v23.f_Name, .p .str v23.f_Content, .p I6 v23.f_Time] : List (AVal Un))) (.pair (.one _ _) (.pair (.one _ _) (.pair (.one _ _) .unit)))))) (.cons (sok_buildSlice (U := Un) (t := .named 3) (rs := [(67, .p (.named 3) ((T_tree_File.mk v23.f_Name v23.f_Content v23.f_Time) : T_tree_File))]) (ys := [.tmp 67]) (xs := [(T_tree_File.mk v23.f_Name v23.f_Content v23.f_Time)]) rfl rfl rfl rfl row_45 (.cons o0 .nil) (by decide)) (.cons (sok_append' (U := Un) (t := .named 3) (rs := [(66, .vec 1005 3 0 v24.length), (68, .vec 68 3 0 ([(T_tree_File.mk v23.f_Name v23.f_Content v23.f_Time)].length))]) (vw := [(68, .row 50 (.named 3) [(T_tree_File.mk v23.f_Name v23.f_Content v23.f_Time)] true)]) (xs := v24) (ys := [(T_tree_File.mk v23.f_Name v23.f_Content v23.f_Time)]) (fx := false) rfl rfl rfl row_45 (by decide) o0 o1 (.whole (.head _)) (by simp) g27) (.cons (mvA (v := .vec 69 3 0 ((v24 ++ [(T_tree_File.mk v23.f_Name v23.f_Content v23.f_Time)]).length)) rfl rfl) .nil))))) (by kernel_rfl) (by kernel_rfl) (by kernel_rfl) (cvT (Conv.ren (U := Un) (st' := ⟨[(0, .loc 100000 0), (3, .loc 3 0), (5, .vec 1005 3 0 ((v24 ++ [(T_tree_File.mk v23.f_Name v23.f_Content v23.f_Time)]).length)), (6, .p .bool v25), (42, .p (.list (.named 3)) a0), (43, .p I6 ((a0.length : Int) : Int)), (44, .p I6 v13)], [(3, .box [.p .str a1.f_Name, .p .str a1.f_Content, .p I6 a1.f_Time]), (1005, .row 50 (.named 3) (v24 ++ [(T_tree_File.mk v23.f_Name v23.f_Content v23.f_Time)]) false), (100000, .box [.p (.list (.named 3)) a0])]⟩) 69 1005 (by unfold K0; omega) (by kernel_rfl) (by kernel_rfl) (by kernel_rfl)) (cvK (b := ⟨[(0, .loc 100000 0), (3, .loc 3 0), (5, .vec 1005 3 0 ((v24 ++ [(T_tree_File.mk v23.f_Name v23.f_Content v23.f_Time)]).length)), (6, .p .bool v25), (42, .p (.list (.named 3)) a0), (43, .p I6 ((a0.length : Int) : Int)), (44, .p I6 v13)], [(3, .box [.p .str a1.f_Name, .p .str a1.f_Content, .p I6 a1.f_Time]), (1005, .row 50 (.named 3) (v24 ++ [(T_tree_File.mk v23.f_Name v23.f_Content v23.f_Time)]) false), (100000, .box [.p (.list (.named 3)) a0])]⟩) [0, 3, 5, 6, 42, 43, 44] [3, 1005, 100000] (by kernel_rfl))) ?_
                      refine blockQ_normal ?_
                      refine tnU ?_
                      exact ⟨(v24 ++ [(T_tree_File.mk v23.f_Name v23.f_Content v23.f_Time)]), v25, h, rfl⟩
                    · replace h := ite_f hc26 h
                      refine WpC.conv (cvK (b := ⟨[(0, .loc 100000 0), (3, .loc 3 0), (5, .vec 1005 3 0 v24.length), (6, .p .bool v25), (42, .p (.list (.named 3)) a0), (43, .p I6 ((a0.length : Int) : Int)), (44, .p I6 v13)], [(3, .box [.p .str a1.f_Name, .p .str a1.f_Content, .p I6 a1.f_Time]), (1005, .row 50 (.named 3) v24 false), (100000, .box [.p (.list (.named 3)) a0])]⟩) [0, 3, 5, 6, 42, 43, 44] [3, 1005, 100000] (by kernel_rfl)) (WpC.skip ?_)
                      refine blockQ_normal ?_
                      refine tnU ?_
                      exact ⟨v24, v25, h, rfl⟩
                · rintro _ ⟨v20, v21, h, rfl⟩
                  unfold millwrightref02_Tree_Put_m0.j22 at h
                  refine rgU (st1 := ⟨[(0, .loc 100000 0), (3, .loc 3 0), (5, .vec 1005 3 0 v20.length), (6, .p .bool v21), (42, .p (.list (.named 3)) a0), (43, .p I6 ((a0.length : Int) : Int)), (44, .p I6 ((IntKind.i64.wrap (v13 + 1)) : Int))], [(3, .box [.p .str a1.f_Name, .p .str a1.f_Content, .p I6 a1.f_Time]), (1005, .row 50 (.named 3) v20 false), (100000, .box [.p (.list (.named 3)) a0])]⟩) [0, 3, 5, 6, 42, 43, 44] [3, 1005, 100000] hN (.cons (sok_arith (U := Un) (rs := [(44, .p I6 v13)]) rfl rfl o0 (.int _ _ _) rfl) (.cons (mvU (v := .p I6 ((IntKind.i64.wrap (v13 + 1)) : Int)) rfl rfl) .nil)) (by kernel_rfl) (by kernel_rfl) (by kernel_rfl) (cvR _) ?_
                  refine tnU ?_
                  exact ⟨n, Nat.lt_succ_self n, v20, v21, (IntKind.i64.wrap (v13 + 1)), h, rfl⟩
              · replace h := ite_f hc19 h
                refine WpC.conv (cvK (b := ⟨[(0, .loc 100000 0), (3, .loc 3 0), (5, .vec 1005 3 0 v11.length), (6, .p .bool v12)], [(3, .box [.p .str a1.f_Name, .p .str a1.f_Content, .p I6 a1.f_Time]), (1005, .row 50 (.named 3) v11 false), (100000, .box [.p (.list (.named 3)) a0])]⟩) [0, 3, 5, 6] [3, 1005, 100000] (by kernel_rfl)) (WpC.exit ?_)
                refine thenQ_exit ?_
                have hq := Option.some.inj h
                subst hq
                refine thenQ_exit ?_
                have h := hout18
                refine blockQ_hit ?_
                refine tnU ?_
                exact ⟨v11, v12, h, rfl⟩
          · rintro _ ⟨v4, v5, h, rfl⟩
            unfold millwrightref02_Tree_Put_m0.j10 at h
            refine sqJ (fun st' => ∃ v6 : List T_tree_File, millwrightref02_Tree_Put_m0.j7 k a0 v6 = some out ∧ st' = ⟨[(0, .loc 100000 0), (5, .vec 1005 3 0 v6.length)], [(1005, .row 50 (.named 3) v6 false), (100000, .box [.p (.list (.named 3)) a0])]⟩) ?_ ?_
            · refine WpC.seq ?_
              refine rgU (st1 := ⟨[(0, .loc 100000 0), (3, .loc 3 0), (5, .vec 1005 3 0 v4.length), (72, .p .bool ((!v5) : Bool))], [(3, .box [.p .str a1.f_Name, .p .str a1.f_Content, .p I6 a1.f_Time]), (1005, .row 50 (.named 3) v4 false), (100000, .box [.p (.list (.named 3)) a0])]⟩) [0, 3, 5, 72] [3, 1005, 100000] hN (.cons (mvU (v := .p .bool v5) rfl rfl) (.cons (sok_not (U := Un) (rs := [(71, .p .bool v5)]) rfl rfl o0) .nil)) (by kernel_rfl) (by kernel_rfl) (by kernel_rfl) (cvR _) ?_
              refine tnU ?_
              refine cdU (b := (!v5)) (.tmp (.tail _ (.tail _ (.tail _ (.head _))))) (fun hc8 => ?_) (fun hc8 => ?_)
              · replace h := ite_t hc8 h
                obtain ⟨g9, h⟩ := if_some h
                refine rgU (st1 := ⟨[(0, .loc 100000 0), (5, .vec 76 3 0 ((v4 ++ [(T_tree_File.mk a1.f_Name a1.f_Content a1.f_Time)]).length))], [(76, .row 50 (.named 3) (v4 ++ [(T_tree_File.mk a1.f_Name a1.f_Content a1.f_Time)]) false), (100000, .box [.p (.list (.named 3)) a0])]⟩) [0, 5] [76, 100000] hN (.cons (mvU (v := .vec 1005 3 0 v4.length) rfl rfl) (.cons (ldB (t := .named 3) (rs := [(3, .loc 3 0)]) [] [.p .str a1.f_Name, .p .str a1.f_Content, .p I6 a1.f_Time] [] (v := .p (.named 3) ((T_tree_File.mk a1.f_Name a1.f_Content a1.f_Time) : T_tree_File)) rfl rfl ty_50 o0 rfl rfl rfl rfl (.data (.named (us := ([.p .str a1.f_Name, .p .str a1.f_Content, .p I6 a1.f_Time] : List (AVal Un))) (.pair (.one _ _) (.pair (.one _ _) (.pair (.one _ _) .unit)))))) (.cons (sok_buildSlice (U := Un) (t := .named 3) (rs := [(74, .p (.named 3) ((T_tree_File.mk a1.f_Name a1.f_Content a1.f_Time) : T_tree_File))]) (ys := [.tmp 74]) (xs := [(T_tree_File.mk a1.f_Name a1.f_Content a1.f_Time)]) rfl rfl rfl rfl row_45 (.cons o0 .nil) (by decide)) (.cons (sok_append' (U := Un) (t := .named 3) (rs := [(73, .vec 1005 3 0 v4.length), (75, .vec 75 3 0 ([(T_tree_File.mk a1.f_Name a1.f_Content a1.f_Time)].length))]) (vw := [(75, .row 50 (.named 3) [(T_tree_File.mk a1.f_Name a1.f_Content a1.f_Time)] true)]) (xs := v4) (ys := [(T_tree_File.mk a1.f_Name a1.f_Content a1.f_Time)]) (fx := false) rfl rfl rfl row_45 (by decide) o0 o1 (.whole (.head _)) (by simp) g9) (.cons (mvA (v := .vec 76 3 0 ((v4 ++ [(T_tree_File.mk a1.f_Name a1.f_Content a1.f_Time)]).length)) rfl rfl) .nil))))) (by kernel_rfl) (by kernel_rfl) (by kernel_rfl) (cvT (Conv.ren (U := Un) (st' := ⟨[(0, .loc 100000 0), (5, .vec 1005 3 0 ((v4 ++ [(T_tree_File.mk a1.f_Name a1.f_Content a1.f_Time)]).length))], [(1005, .row 50 (.named 3) (v4 ++ [(T_tree_File.mk a1.f_Name a1.f_Content a1.f_Time)]) false), (100000, .box [.p (.list (.named 3)) a0])]⟩) 76 1005 (by unfold K0; omega) (by kernel_rfl) (by kernel_rfl) (by kernel_rfl)) (cvK (b := ⟨[(0, .loc 100000 0), (5, .vec 1005 3 0 ((v4 ++ [(T_tree_File.mk a1.f_Name a1.f_Content a1.f_Time)]).length))], [(1005, .row 50 (.named 3) (v4 ++ [(T_tree_File.mk a1.f_Name a1.f_Content a1.f_Time)]) false), (100000, .box [.p (.list (.named 3)) a0])]⟩) [0, 5] [1005, 100000] (by kernel_rfl))) ?_
                refine tnU ?_
                exact ⟨(v4 ++ [(T_tree_File.mk a1.f_Name a1.f_Content a1.f_Time)]), h, rfl⟩
              · replace h := ite_f hc8 h
                refine WpC.conv (cvK (b := ⟨[(0, .loc 100000 0), (5, .vec 1005 3 0 v4.length)], [(1005, .row 50 (.named 3) v4 false), (100000, .box [.p (.list (.named 3)) a0])]⟩) [0, 5] [1005, 100000] (by kernel_rfl)) (WpC.skip ?_)
                refine tnU ?_
                exact ⟨v4, h, rfl⟩
            · rintro _ ⟨v6, h, rfl⟩
              unfold millwrightref02_Tree_Put_m0.j7 at h
              refine WpC.seq ?_
              refine rgU (st1 := ⟨[], [(1005, .row 50 (.named 3) v6 false), (100000, .box [.vec 1005 3 0 v6.length])]⟩) [] [1005, 100000] hN (.cons (mvU (v := .loc 100000 0) rfl rfl) (.cons (mvU (v := .vec 1005 3 0 v6.length) rfl rfl) (.cons (nlU (rs := [(77, .loc 100000 0)]) rfl rfl o0 rfl) (.cons (fdB (rs := [(79, .loc 100000 0)]) rfl rfl fd_47_0 (by decide) o0) (.cons (sok_storeB (U := Un) (rs := [(80, .loc 100000 0), (78, .vec 1005 3 0 v6.length)]) (v := .vec 1005 3 0 v6.length) (mid' := [.vec 1005 3 0 v6.length]) [] [.p (.list (.named 3)) a0] [] rfl rfl rfl ty_45 o0 o1 (.hand rfl) rfl rfl rfl rfl rfl rfl) .nil))))) (by kernel_rfl) (by kernel_rfl) (by kernel_rfl) (cvR _) ?_
              refine tnU ?_
              refine WpC.seq ?_
              refine rgU (st1 := ⟨[(4, .p I6 (0 : Int))], [(1005, .row 50 (.named 3) v6 false), (100000, .box [.vec 1005 3 0 v6.length])]⟩) [4] [1005, 100000] hN (.cons (moU (rs := []) rfl (.inr rfl) (.int _ _ _)) .nil) (by kernel_rfl) (by kernel_rfl) (by kernel_rfl) (cvR _) ?_
              refine tnU ?_
              refine WpC.conv (cvT (Conv.freezeU (U := Un) 100000 1005 50 _ (.named 3) v6 false [] [] (.tail _ (.head _)) (by first | rfl | (simp only [upd_length, List.length_replicate, List.length_append]; done) | (simp only [upd_length, List.length_replicate, List.length_append] at *; omega) | omega) (.head _) (by kernel_rfl)) (cvK (b := ⟨[(4, .p I6 (0 : Int))], [(100000, .box [.p (.list (.named 3)) v6])]⟩) [4] [100000] (by kernel_rfl))) (WpC.ret ?_)
              have hq := Option.some.inj h
              subst hq
              exact ends_ret (retV_1 rfl (.head _)) (ain_cons (.head _) ain_nil)

end Go.Proofs.YtkdpaglpieamgaaDoor
