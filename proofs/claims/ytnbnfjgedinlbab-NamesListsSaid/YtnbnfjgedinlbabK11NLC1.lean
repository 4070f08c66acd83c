/- A part of the proof of a given law: NLC1. Own work, printed in part by a program of mine. -/
import Derived.Test.YtnbnfjgedinlbabK11NLC0
namespace Go.Proofs.Ytnbnfjgedinlbab
open Go Go.AM
set_option linter.unusedVariables false
set_option linter.unusedSimpArgs false
set_option maxRecDepth 100000
theorem names_cut.ok (O : Out) (k : Nat) (a0 : List UInt8) (out : Int) (h : names_cut.f k a0 = some out) : COk Un O Try.prog 38 { ar := [.p .str a0], r := .p I6 out } := by
  refine cok_of_wp Try.func38 rfl (k := 6) rfl (Nat.le_of_ble_eq_true rfl) (namesOk_pure rfl rfl rfl rfl) ?_
  intro B hN
  refine WpC.conv (cvK (b := ⟨[(0, .p .str a0)], []⟩) [0] [] (by kernel_rfl)) ?_
  unfold names_cut.f at h
  refine WpC.seq ?_
  refine rgU (st1 := ⟨[(0, .p .str a0)], []⟩) [0] [] hN (.cons (moU (rs := []) rfl (.inr rfl) (.int _ _ _)) .nil) (by kernel_rfl) (by kernel_rfl) (by kernel_rfl) (cvR _) ?_
  refine tnU ?_
  refine WpC.seq ?_
  obtain ⟨v1, hv1, h⟩ := bind_some h
  refine rgU (st1 := ⟨[(2, .p I6 ((IntKind.i64.wrap (v1 + 1)) : Int))], []⟩) [2] [] hN (.cons (mvU (v := .p .str a0) rfl rfl) (.cons (caV (rs := [(3, .p .str a0)]) (vw := []) rfl rfl (.func _) hb_30 (strings_LastIndex.ok O k a0 ([47] : List UInt8) v1 hv1) (.cons o0 (.cons (.str _ _) .nil)) (.cons (.same _) (.cons (.same _) .nil)) (by simp) (.inl rfl)) (.cons (sok_arith (U := Un) (rs := [(4, .p I6 v1)]) rfl rfl o0 (.int _ _ _) rfl) (.cons (mvA (v := .p I6 ((IntKind.i64.wrap (v1 + 1)) : Int)) rfl rfl) .nil)))) (by kernel_rfl) (by kernel_rfl) (by kernel_rfl) (cvR _) ?_
  refine tnU ?_
  refine WpC.ret ?_
  have hq := Option.some.inj h
  subst hq
  exact ends_ret (retV_1 rfl (.head _)) ain_nil

theorem names_Base.ok (O : Out) (k : Nat) (a0 : List UInt8) (out : List UInt8) (h : names_Base.f k a0 = some out) : COk Un O Try.prog 29 { ar := [.p .str a0], r := .p .str out } := by
  refine cok_of_wp Try.func29 rfl (k := 7) rfl (Nat.le_of_ble_eq_true rfl) (namesOk_pure rfl rfl rfl rfl) ?_
  intro B hN
  refine WpC.conv (cvK (b := ⟨[(0, .p .str a0)], []⟩) [0] [] (by kernel_rfl)) ?_
  unfold names_Base.f at h
  refine WpC.seq ?_
  refine rgU (st1 := ⟨[(0, .p .str a0)], []⟩) [0] [] hN (.cons (moU (rs := []) rfl (.inr rfl) (.str _ _)) .nil) (by kernel_rfl) (by kernel_rfl) (by kernel_rfl) (cvR _) ?_
  refine tnU ?_
  refine WpC.seq ?_
  obtain ⟨v1, hv1, h⟩ := bind_some h
  obtain ⟨v2, hv2, h⟩ := bind_some h
  refine rgU (st1 := ⟨[(2, .p .str v2)], []⟩) [2] [] hN (.cons (mvU (v := .p .str a0) rfl rfl) (.cons (mvU (v := .p .str a0) rfl rfl) (.cons (caV (rs := [(4, .p .str a0)]) (vw := []) rfl rfl (.func _) hb_38 (names_cut.ok O k a0 v1 hv1) (.cons o0 .nil) (.cons (.same _) .nil) (by simp) (.inl rfl)) (.cons (sok_sliceS (U := Un) (rs := [(3, .p .str a0), (5, .p I6 v1)]) rfl rfl Try.underlying9 o0 (.at o1) .no hv2) (.cons (mvA (v := .p .str v2) rfl rfl) .nil))))) (by kernel_rfl) (by kernel_rfl) (by kernel_rfl) (cvR _) ?_
  refine tnU ?_
  refine WpC.ret ?_
  have hq := Option.some.inj h
  subst hq
  exact ends_ret (retV_1 rfl (.head _)) ain_nil

theorem names_Suffix.ok (O : Out) (k : Nat) (a0 : List UInt8) (out : List UInt8) (h : names_Suffix.f k a0 = some out) : COk Un O Try.prog 18 { ar := [.p .str a0], r := .p .str out } := by
  refine cok_of_wp Try.func18 rfl (k := 14) rfl (Nat.le_of_ble_eq_true rfl) (namesOk_pure rfl rfl rfl rfl) ?_
  intro B hN
  refine WpC.conv (cvK (b := ⟨[(0, .p .str a0)], []⟩) [0] [] (by kernel_rfl)) ?_
  unfold names_Suffix.f at h
  refine WpC.seq ?_
  refine rgU (st1 := ⟨[(0, .p .str a0)], []⟩) [0] [] hN (.cons (moU (rs := []) rfl (.inr rfl) (.str _ _)) .nil) (by kernel_rfl) (by kernel_rfl) (by kernel_rfl) (cvR _) ?_
  refine tnU ?_
  refine WpC.seq ?_
  obtain ⟨v1, hv1, h⟩ := bind_some h
  refine rgU (st1 := ⟨[(3, .p .str v1)], []⟩) [3] [] hN (.cons (mvU (v := .p .str a0) rfl rfl) (.cons (caV (rs := [(5, .p .str a0)]) (vw := []) rfl rfl (.func _) hb_29 (names_Base.ok O k a0 v1 hv1) (.cons o0 .nil) (.cons (.same _) .nil) (by simp) (.inl rfl)) (.cons (mvA (v := .p .str v1) rfl rfl) .nil))) (by kernel_rfl) (by kernel_rfl) (by kernel_rfl) (cvR _) ?_
  refine tnU ?_
  refine WpC.seq ?_
  obtain ⟨v2, hv2, h⟩ := bind_some h
  refine rgU (st1 := ⟨[(3, .p .str v1), (4, .p I6 v2)], []⟩) [3, 4] [] hN (.cons (mvU (v := .p .str v1) rfl rfl) (.cons (caV (rs := [(7, .p .str v1)]) (vw := []) rfl rfl (.func _) hb_30 (strings_LastIndex.ok O k v1 ([46] : List UInt8) v2 hv2) (.cons o0 (.cons (.str _ _) .nil)) (.cons (.same _) (.cons (.same _) .nil)) (by simp) (.inl rfl)) (.cons (mvA (v := .p I6 v2) rfl rfl) .nil))) (by kernel_rfl) (by kernel_rfl) (by kernel_rfl) (cvR _) ?_
  refine tnU ?_
  refine WpC.seq ?_
  refine WpC.seq ?_
  refine rgU (st1 := ⟨[(3, .p .str v1), (4, .p I6 v2), (10, .p .bool ((decide (v2 < 1)) : Bool))], []⟩) [3, 4, 10] [] hN (.cons (mvU (v := .p I6 v2) rfl rfl) (.cons (cmU (rs := [(9, .p I6 v2)]) rfl rfl o0 (.int _ _ _) rfl) .nil)) (by kernel_rfl) (by kernel_rfl) (by kernel_rfl) (cvR _) ?_
  refine tnU ?_
  refine cdU (b := (decide (v2 < 1))) (.tmp (.tail _ (.tail _ (.head _)))) (fun hc3 => ?_) (fun hc3 => ?_)
  · replace h := ite_t hc3 h
    refine WpC.seq ?_
    refine rgU (st1 := ⟨[(2, .p .str (([] : List UInt8) : List UInt8))], []⟩) [2] [] hN (.cons (moU (rs := []) rfl (.inr rfl) (.str _ _)) .nil) (by kernel_rfl) (by kernel_rfl) (by kernel_rfl) (cvR _) ?_
    refine tnU ?_
    refine WpC.ret ?_
    refine thenQ_ret ?_
    have hq := Option.some.inj h
    subst hq
    exact ends_ret (retV_1 rfl (.head _)) ain_nil
  · replace h := ite_f hc3 h
    refine WpC.conv (cvK (b := ⟨[(3, .p .str v1), (4, .p I6 v2)], []⟩) [3, 4] [] (by kernel_rfl)) (WpC.skip ?_)
    refine tnU ?_
    refine WpC.seq ?_
    obtain ⟨v4, hv4, h⟩ := bind_some h
    refine rgU (st1 := ⟨[(2, .p .str v4)], []⟩) [2] [] hN (.cons (mvU (v := .p .str v1) rfl rfl) (.cons (mvU (v := .p I6 v2) rfl rfl) (.cons (sok_sliceS (U := Un) (rs := [(11, .p .str v1), (12, .p I6 v2)]) rfl rfl Try.underlying9 o0 (.at o1) .no hv4) (.cons (mvA (v := .p .str v4) rfl rfl) .nil)))) (by kernel_rfl) (by kernel_rfl) (by kernel_rfl) (cvR _) ?_
    refine tnU ?_
    refine WpC.ret ?_
    have hq := Option.some.inj h
    subst hq
    exact ends_ret (retV_1 rfl (.head _)) ain_nil

theorem millwrightlaw01_alive.ok (O : Out) (k : Nat) (out : Bool) (h : millwrightlaw01_alive.f k = some out) : COk Un O Try.prog 4 { ar := [], r := .p .bool out } := by
  refine cok_of_wp Try.func4 rfl (k := 22) rfl (Nat.le_of_ble_eq_true rfl) (namesOk_pure rfl rfl rfl rfl) ?_
  intro B hN
  refine WpC.conv (cvK (b := ⟨[], []⟩) [] [] (by kernel_rfl)) ?_
  unfold millwrightlaw01_alive.f at h
  refine WpC.seq ?_
  refine rgU (st1 := ⟨[], []⟩) [] [] hN (.cons (moU (rs := []) rfl (.inr rfl) (.bool _ _)) .nil) (by kernel_rfl) (by kernel_rfl) (by kernel_rfl) (cvR _) ?_
  refine tnU ?_
  refine WpC.seq ?_
  obtain ⟨v1, hv1, h⟩ := bind_some h
  refine rgU (st1 := ⟨[(1, .p .str v1.1), (2, .p .str v1.2.1), (3, .p .bool v1.2.2)], []⟩) [1, 2, 3] [] hN (.cons (caV (rs := []) (vw := []) rfl rfl (.func _) hb_17 (names_Member.ok O k ([108, 105, 98, 46, 97, 40, 120, 46, 111, 41] : List UInt8) v1 hv1) (.cons (.str _ _) .nil) (.cons (.same _) .nil) (by simp) (.inl rfl)) (.cons (mvU (v := .tup [.p .str v1.1, .p .str v1.2.1, .p .bool v1.2.2]) rfl rfl) (.cons (exU (rs := [(4, .tup [.p .str v1.1, .p .str v1.2.1, .p .bool v1.2.2])]) rfl rfl o0 rfl) (.cons (exU (rs := [(4, .tup [.p .str v1.1, .p .str v1.2.1, .p .bool v1.2.2])]) rfl rfl o0 rfl) (.cons (exU (rs := [(4, .tup [.p .str v1.1, .p .str v1.2.1, .p .bool v1.2.2])]) rfl rfl o0 rfl) (.cons (mvA (v := .p .str v1.1) rfl rfl) (.cons (mvA (v := .p .str v1.2.1) rfl rfl) (.cons (mvA (v := .p .bool v1.2.2) rfl rfl) .nil)))))))) (by kernel_rfl) (by kernel_rfl) (by kernel_rfl) (cvR _) ?_
  refine tnU ?_
  refine WpC.seq ?_
  rcases bool_cases v1.2.2 with hc2 | hc2
  · replace h := ite_t hc2 h
    rcases bool_cases (v1.1 == ([108, 105, 98, 46, 97] : List UInt8)) with hc3 | hc3
    · replace h := ite_t hc3 h
      rcases bool_cases (v1.2.1 == ([120, 46, 111] : List UInt8)) with hc4 | hc4
      · replace h := ite_t hc4 h
        obtain ⟨v5, hv5, h⟩ := bind_some h
        refine rgU (st1 := ⟨[(0, .p .bool ((v5 == ([46, 99] : List UInt8)) : Bool))], []⟩) [0] [] hN (.cons (mvU (v := .p .bool v1.2.2) rfl rfl) (.cons (mvU (v := .p .bool v1.2.2) rfl rfl) (.cons (sok_run rfl rfl hc2 (mvU (v := .p .str v1.1) rfl rfl)) (.cons (sok_run rfl rfl hc2 (sok_cmpS (U := Un) (rs := [(11, .p .str v1.1)]) rfl rfl o0 (.str _ _) rfl)) (.cons (pkT (rs := [(10, .p .bool v1.2.2), (12, .p .bool ((v1.1 == ([108, 105, 98, 46, 97] : List UInt8)) : Bool))]) rfl rfl o0 hc2 o1) (.cons (mvU (v := .p .bool ((v1.1 == ([108, 105, 98, 46, 97] : List UInt8)) : Bool)) rfl rfl) (.cons (sok_run rfl rfl hc3 (mvU (v := .p .str v1.2.1) rfl rfl)) (.cons (sok_run rfl rfl hc3 (sok_cmpS (U := Un) (rs := [(15, .p .str v1.2.1)]) rfl rfl o0 (.str _ _) rfl)) (.cons (pkT (rs := [(14, .p .bool ((v1.1 == ([108, 105, 98, 46, 97] : List UInt8)) : Bool)), (16, .p .bool ((v1.2.1 == ([120, 46, 111] : List UInt8)) : Bool))]) rfl rfl o0 hc3 o1) (.cons (mvU (v := .p .bool ((v1.2.1 == ([120, 46, 111] : List UInt8)) : Bool)) rfl rfl) (.cons (sok_run rfl rfl hc4 (caV (rs := []) (vw := []) rfl rfl (.func _) hb_18 (names_Suffix.ok O k ([97, 47, 98, 46, 99] : List UInt8) v5 hv5) (.cons (.str _ _) .nil) (.cons (.same _) .nil) (by simp) (.inl rfl))) (.cons (sok_run rfl rfl hc4 (sok_cmpS (U := Un) (rs := [(19, .p .str v5)]) rfl rfl o0 (.str _ _) rfl)) (.cons (pkT (rs := [(18, .p .bool ((v1.2.1 == ([120, 46, 111] : List UInt8)) : Bool)), (20, .p .bool ((v5 == ([46, 99] : List UInt8)) : Bool))]) rfl rfl o0 hc4 o1) (.cons (mvA (v := .p .bool ((v5 == ([46, 99] : List UInt8)) : Bool)) rfl rfl) .nil)))))))))))))) (by kernel_rfl) (by kernel_rfl) (by kernel_rfl) (cvR _) ?_
        refine tnU ?_
        refine WpC.ret ?_
        have hq := Option.some.inj h
        subst hq
        exact ends_ret (retV_1 rfl (.head _)) ain_nil
      · replace h := ite_f hc4 h
        refine rgU (st1 := ⟨[(0, .p .bool false)], []⟩) [0] [] hN (.cons (mvU (v := .p .bool v1.2.2) rfl rfl) (.cons (mvU (v := .p .bool v1.2.2) rfl rfl) (.cons (sok_run rfl rfl hc2 (mvU (v := .p .str v1.1) rfl rfl)) (.cons (sok_run rfl rfl hc2 (sok_cmpS (U := Un) (rs := [(11, .p .str v1.1)]) rfl rfl o0 (.str _ _) rfl)) (.cons (pkT (rs := [(10, .p .bool v1.2.2), (12, .p .bool ((v1.1 == ([108, 105, 98, 46, 97] : List UInt8)) : Bool))]) rfl rfl o0 hc2 o1) (.cons (mvU (v := .p .bool ((v1.1 == ([108, 105, 98, 46, 97] : List UInt8)) : Bool)) rfl rfl) (.cons (sok_run rfl rfl hc3 (mvU (v := .p .str v1.2.1) rfl rfl)) (.cons (sok_run rfl rfl hc3 (sok_cmpS (U := Un) (rs := [(15, .p .str v1.2.1)]) rfl rfl o0 (.str _ _) rfl)) (.cons (pkT (rs := [(14, .p .bool ((v1.1 == ([108, 105, 98, 46, 97] : List UInt8)) : Bool)), (16, .p .bool ((v1.2.1 == ([120, 46, 111] : List UInt8)) : Bool))]) rfl rfl o0 hc3 o1) (.cons (mvU (v := .p .bool ((v1.2.1 == ([120, 46, 111] : List UInt8)) : Bool)) rfl rfl) (.cons (skU rfl rfl hc4) (.cons (skU rfl rfl hc4) (.cons (pkF (rs := [(18, .p .bool ((v1.2.1 == ([120, 46, 111] : List UInt8)) : Bool))]) rfl rfl o0 hc4 (.bool _ _)) (.cons (mvA (v := .p .bool false) rfl rfl) .nil)))))))))))))) (by kernel_rfl) (by kernel_rfl) (by kernel_rfl) (cvR _) ?_
        refine tnU ?_
        refine WpC.ret ?_
        have hq := Option.some.inj h
        subst hq
        exact ends_ret (retV_1 rfl (.head _)) ain_nil
    · replace h := ite_f hc3 h
      refine rgU (st1 := ⟨[(0, .p .bool false)], []⟩) [0] [] hN (.cons (mvU (v := .p .bool v1.2.2) rfl rfl) (.cons (mvU (v := .p .bool v1.2.2) rfl rfl) (.cons (sok_run rfl rfl hc2 (mvU (v := .p .str v1.1) rfl rfl)) (.cons (sok_run rfl rfl hc2 (sok_cmpS (U := Un) (rs := [(11, .p .str v1.1)]) rfl rfl o0 (.str _ _) rfl)) (.cons (pkT (rs := [(10, .p .bool v1.2.2), (12, .p .bool ((v1.1 == ([108, 105, 98, 46, 97] : List UInt8)) : Bool))]) rfl rfl o0 hc2 o1) (.cons (mvU (v := .p .bool ((v1.1 == ([108, 105, 98, 46, 97] : List UInt8)) : Bool)) rfl rfl) (.cons (skU rfl rfl hc3) (.cons (skU rfl rfl hc3) (.cons (pkF (rs := [(14, .p .bool ((v1.1 == ([108, 105, 98, 46, 97] : List UInt8)) : Bool))]) rfl rfl o0 hc3 (.bool _ _)) (.cons (mvU (v := .p .bool false) rfl rfl) (.cons (skU rfl rfl rfl) (.cons (skU rfl rfl rfl) (.cons (pkF (rs := [(18, .p .bool false)]) rfl rfl o0 rfl (.bool _ _)) (.cons (mvA (v := .p .bool false) rfl rfl) .nil)))))))))))))) (by kernel_rfl) (by kernel_rfl) (by kernel_rfl) (cvR _) ?_
      refine tnU ?_
      refine WpC.ret ?_
      have hq := Option.some.inj h
      subst hq
      exact ends_ret (retV_1 rfl (.head _)) ain_nil
  · replace h := ite_f hc2 h
    refine rgU (st1 := ⟨[(0, .p .bool false)], []⟩) [0] [] hN (.cons (mvU (v := .p .bool v1.2.2) rfl rfl) (.cons (mvU (v := .p .bool v1.2.2) rfl rfl) (.cons (skU rfl rfl hc2) (.cons (skU rfl rfl hc2) (.cons (pkF (rs := [(10, .p .bool v1.2.2)]) rfl rfl o0 hc2 (.bool _ _)) (.cons (mvU (v := .p .bool false) rfl rfl) (.cons (skU rfl rfl rfl) (.cons (skU rfl rfl rfl) (.cons (pkF (rs := [(14, .p .bool false)]) rfl rfl o0 rfl (.bool _ _)) (.cons (mvU (v := .p .bool false) rfl rfl) (.cons (skU rfl rfl rfl) (.cons (skU rfl rfl rfl) (.cons (pkF (rs := [(18, .p .bool false)]) rfl rfl o0 rfl (.bool _ _)) (.cons (mvA (v := .p .bool false) rfl rfl) .nil)))))))))))))) (by kernel_rfl) (by kernel_rfl) (by kernel_rfl) (cvR _) ?_
    refine tnU ?_
    refine WpC.ret ?_
    have hq := Option.some.inj h
    subst hq
    exact ends_ret (retV_1 rfl (.head _)) ain_nil

theorem millwrightnum_Long.ok (O : Out) (k : Nat) (a0 : List (List UInt8)) (a1 : Int) (a2 : Int) (out : Bool) (h : millwrightnum_Long.f k a0 a1 a2 = some out) : COk Un O Try.prog 5 { ar := [.p (.list .str) a0, .p I6 a1, .p I6 a2], r := .p .bool out } := by
  refine cok_of_wp Try.func5 rfl (k := 24) rfl (Nat.le_of_ble_eq_true rfl) (namesOk_pure rfl rfl rfl rfl) ?_
  intro B hN
  refine WpC.conv (cvK (b := ⟨[(0, .p (.list .str) a0), (1, .p I6 a1), (2, .p I6 a2)], []⟩) [0, 1, 2] [] (by kernel_rfl)) ?_
  unfold millwrightnum_Long.f at h
  refine WpC.seq ?_
  refine rgU (st1 := ⟨[(0, .p (.list .str) a0), (1, .p I6 a1), (2, .p I6 a2)], []⟩) [0, 1, 2] [] hN (.cons (moU (rs := []) rfl (.inr rfl) (.bool _ _)) .nil) (by kernel_rfl) (by kernel_rfl) (by kernel_rfl) (cvR _) ?_
  refine tnU ?_
  refine WpC.seq ?_
  refine WpC.seq ?_
  refine rgU (st1 := ⟨[(0, .p (.list .str) a0), (2, .p I6 a2), (12, .p .bool ((decide ((a0.length : Int) > a1)) : Bool))], []⟩) [0, 2, 12] [] hN (.cons (mvU (v := .p (.list .str) a0) rfl rfl) (.cons (sok_lenL (U := Un) (rs := [(9, .p (.list .str) a0)]) rfl rfl Try.underlying22 o0) (.cons (mvU (v := .p I6 a1) rfl rfl) (.cons (cmU (rs := [(10, .p I6 ((a0.length : Int) : Int)), (11, .p I6 a1)]) rfl rfl o0 o1 rfl) .nil)))) (by kernel_rfl) (by kernel_rfl) (by kernel_rfl) (cvR _) ?_
  refine tnU ?_
  refine cdU (b := (decide ((a0.length : Int) > a1))) (.tmp (.tail _ (.tail _ (.head _)))) (fun hc1 => ?_) (fun hc1 => ?_)
  · replace h := ite_t hc1 h
    refine WpC.seq ?_
    refine rgU (st1 := ⟨[(6, .p .bool true)], []⟩) [6] [] hN (.cons (moU (rs := []) rfl (.inr rfl) (.bool _ _)) .nil) (by kernel_rfl) (by kernel_rfl) (by kernel_rfl) (cvR _) ?_
    refine tnU ?_
    refine WpC.ret ?_
    refine thenQ_ret ?_
    have hq := Option.some.inj h
    subst hq
    exact ends_ret (retV_1 rfl (.head _)) ain_nil
  · replace h := ite_f hc1 h
    refine WpC.conv (cvK (b := ⟨[(0, .p (.list .str) a0), (2, .p I6 a2)], []⟩) [0, 2] [] (by kernel_rfl)) (WpC.skip ?_)
    refine tnU ?_
    refine sqJ (fun st' => millwrightnum_Long.j2 k = some out ∧ st' = ⟨[], []⟩) ?_ ?_
    · refine WpC.seq ?_
      refine rgU (st1 := ⟨[(2, .p I6 a2), (13, .p (.list .str) a0), (14, .p I6 ((a0.length : Int) : Int)), (15, .p I6 (0 : Int))], []⟩) [2, 13, 14, 15] [] hN (.cons (mvU (v := .p (.list .str) a0) rfl rfl) (.cons (sok_lenL (U := Un) (rs := [(13, .p (.list .str) a0)]) rfl rfl Try.underlying22 o0) (.cons (moU (rs := []) rfl (.inl rfl) (.int _ _ _)) .nil))) (by kernel_rfl) (by kernel_rfl) (by kernel_rfl) (cvR _) ?_
      refine tnU ?_
      refine WpC.block ?_
      obtain ⟨o5, hlo5, h⟩ := bind_some h
      have hout6 := h
      clear h
      refine WpC.loop (U := Un) (fun n st' => ∃ v3 : Int, millwrightnum_Long.l4 k a0 a2 n v3 = some o5 ∧ st' = ⟨[(2, .p I6 a2), (13, .p (.list .str) a0), (14, .p I6 ((a0.length : Int) : Int)), (15, .p I6 v3)], []⟩) k ⟨0, hlo5, rfl⟩ ?_
      clear hlo5
      rintro (_ | n) _ ⟨v3, h, rfl⟩
      · cases h
      · rw [millwrightnum_Long.l4] at h
        refine WpC.seq ?_
        refine rgU (st1 := ⟨[(2, .p I6 a2), (13, .p (.list .str) a0), (14, .p I6 ((a0.length : Int) : Int)), (15, .p I6 v3), (16, .p .bool ((decide (v3 < (a0.length : Int))) : Bool))], []⟩) [2, 13, 14, 15, 16] [] hN (.cons (cmU (rs := [(15, .p I6 v3), (14, .p I6 ((a0.length : Int) : Int))]) rfl rfl o0 o1 rfl) .nil) (by kernel_rfl) (by kernel_rfl) (by kernel_rfl) (cvR _) ?_
        refine tnU ?_
        refine WpC.seq ?_
        refine cdU (b := (decide (v3 < (a0.length : Int)))) (.tmp (.tail _ (.tail _ (.tail _ (.tail _ (.head _)))))) (fun hc7 => ?_) (fun hc7 => ?_)
        · replace h := ite_t hc7 h
          refine WpC.conv (cvK (b := ⟨[(2, .p I6 a2), (13, .p (.list .str) a0), (14, .p I6 ((a0.length : Int) : Int)), (15, .p I6 v3)], []⟩) [2, 13, 14, 15] [] (by kernel_rfl)) (WpC.skip ?_)
          refine tnU ?_
          refine WpC.seq ?_
          refine WpC.block ?_
          refine WpC.seq ?_
          obtain ⟨v8, hv8, h⟩ := bind_some h
          refine rgU (st1 := ⟨[(2, .p I6 a2), (8, .p .str v8), (13, .p (.list .str) a0), (14, .p I6 ((a0.length : Int) : Int)), (15, .p I6 v3)], []⟩) [2, 8, 13, 14, 15] [] hN (.cons (sok_indexL (U := Un) (rs := [(13, .p (.list .str) a0), (15, .p I6 v3)]) rfl rfl sl_22 o0 o1 hv8) (.cons (sok_loadP (U := Un) (rs := [(17, .pp .str v8)]) rfl rfl ty_9 o0) (.cons (mvA (v := .p .str v8) rfl rfl) .nil))) (by kernel_rfl) (by kernel_rfl) (by kernel_rfl) (cvR _) ?_
          refine tnU ?_
          refine WpC.seq ?_
          refine rgU (st1 := ⟨[(2, .p I6 a2), (13, .p (.list .str) a0), (14, .p I6 ((a0.length : Int) : Int)), (15, .p I6 v3), (22, .p .bool ((decide ((v8.length : Int) > a2)) : Bool))], []⟩) [2, 13, 14, 15, 22] [] hN (.cons (mvU (v := .p .str v8) rfl rfl) (.cons (sok_lenS (U := Un) (rs := [(19, .p .str v8)]) rfl rfl Try.underlying9 o0) (.cons (mvU (v := .p I6 a2) rfl rfl) (.cons (cmU (rs := [(20, .p I6 ((v8.length : Int) : Int)), (21, .p I6 a2)]) rfl rfl o0 o1 rfl) .nil)))) (by kernel_rfl) (by kernel_rfl) (by kernel_rfl) (cvR _) ?_
          refine tnU ?_
          refine cdU (b := (decide ((v8.length : Int) > a2))) (.tmp (.tail _ (.tail _ (.tail _ (.tail _ (.head _)))))) (fun hc9 => ?_) (fun hc9 => ?_)
          · replace h := ite_t hc9 h
            refine WpC.seq ?_
            refine rgU (st1 := ⟨[(6, .p .bool true)], []⟩) [6] [] hN (.cons (moU (rs := []) rfl (.inr rfl) (.bool _ _)) .nil) (by kernel_rfl) (by kernel_rfl) (by kernel_rfl) (cvR _) ?_
            refine tnU ?_
            refine WpC.ret ?_
            refine blockQ_ret ?_
            refine thenQ_ret ?_
            have hq := Option.some.inj h
            subst hq
            refine thenQ_ret ?_
            have h := hout6
            refine blockQ_ret ?_
            refine thenQ_ret ?_
            have hq := Option.some.inj h
            subst hq
            exact ends_ret (retV_1 rfl (.head _)) ain_nil
          · replace h := ite_f hc9 h
            refine WpC.conv (cvK (b := ⟨[(2, .p I6 a2), (13, .p (.list .str) a0), (14, .p I6 ((a0.length : Int) : Int)), (15, .p I6 v3)], []⟩) [2, 13, 14, 15] [] (by kernel_rfl)) (WpC.skip ?_)
            refine blockQ_normal ?_
            refine tnU ?_
            refine rgU (st1 := ⟨[(2, .p I6 a2), (13, .p (.list .str) a0), (14, .p I6 ((a0.length : Int) : Int)), (15, .p I6 ((IntKind.i64.wrap (v3 + 1)) : Int))], []⟩) [2, 13, 14, 15] [] hN (.cons (sok_arith (U := Un) (rs := [(15, .p I6 v3)]) rfl rfl o0 (.int _ _ _) rfl) (.cons (mvU (v := .p I6 ((IntKind.i64.wrap (v3 + 1)) : Int)) rfl rfl) .nil)) (by kernel_rfl) (by kernel_rfl) (by kernel_rfl) (cvR _) ?_
            refine tnU ?_
            exact ⟨n, Nat.lt_succ_self n, (IntKind.i64.wrap (v3 + 1)), h, rfl⟩
        · replace h := ite_f hc7 h
          refine WpC.conv (cvK (b := ⟨[], []⟩) [] [] (by kernel_rfl)) (WpC.exit ?_)
          refine thenQ_exit ?_
          have hq := Option.some.inj h
          subst hq
          refine thenQ_exit ?_
          have h := hout6
          refine blockQ_hit ?_
          refine tnU ?_
          exact ⟨h, rfl⟩
    · rintro _ ⟨h, rfl⟩
      unfold millwrightnum_Long.j2 at h
      refine WpC.seq ?_
      refine rgU (st1 := ⟨[(6, .p .bool false)], []⟩) [6] [] hN (.cons (moU (rs := []) rfl (.inr rfl) (.bool _ _)) .nil) (by kernel_rfl) (by kernel_rfl) (by kernel_rfl) (cvR _) ?_
      refine tnU ?_
      refine WpC.ret ?_
      have hq := Option.some.inj h
      subst hq
      exact ends_ret (retV_1 rfl (.head _)) ain_nil

theorem millwrightnum_Texts.ok (O : Out) (k : Nat) (a0 : List (List UInt8)) (out : (List (List UInt8)) × Nat) (h : millwrightnum_Texts.f k a0 = some out) : COk Un O Try.prog 6 { ar := [.p (.list .str) a0], r := .vec 60500 1 0 out.2, bs' := [(60500, .row 9 .str out.1 true)], nn := [60500] } := by
  refine cok_of_wp Try.func6 rfl (k := 16) rfl (Nat.le_of_ble_eq_true rfl) (namesOk_of (by kernel_rfl)) ?_
  intro B hN
  refine WpC.conv (cvK (b := ⟨[(0, .p (.list .str) a0)], []⟩) [0] [] (by kernel_rfl)) ?_
  unfold millwrightnum_Texts.f at h
  refine WpC.seq ?_
  refine rgU (st1 := ⟨[(0, .p (.list .str) a0)], []⟩) [0] [] hN (.cons (moU (rs := []) rfl (.inr rfl) (.lit _ _ rfl)) .nil) (by kernel_rfl) (by kernel_rfl) (by kernel_rfl) (cvR _) ?_
  refine tnU ?_
  refine WpC.seq ?_
  obtain ⟨g1, h⟩ := if_some h
  obtain ⟨g2, h⟩ := if_some h
  obtain ⟨g3, h⟩ := if_some h
  refine rgU (st1 := ⟨[(0, .p (.list .str) a0), (3, .vec 7 1 0 (((0 : Int).toNat + a0.length) + [([1] : List UInt8), ([2] : List UInt8), ([3] : List UInt8)].length))], [(7, .row 9 .str (((List.replicate (IntKind.i64.wrap ((a0.length : Int) + 3)).toNat ([] : List UInt8)).take ((0 : Int).toNat) ++ a0 ++ (List.replicate (IntKind.i64.wrap ((a0.length : Int) + 3)).toNat ([] : List UInt8)).drop ((0 : Int).toNat + a0.length)).take ((0 : Int).toNat + a0.length) ++ [([1] : List UInt8), ([2] : List UInt8), ([3] : List UInt8)] ++ ((List.replicate (IntKind.i64.wrap ((a0.length : Int) + 3)).toNat ([] : List UInt8)).take ((0 : Int).toNat) ++ a0 ++ (List.replicate (IntKind.i64.wrap ((a0.length : Int) + 3)).toNat ([] : List UInt8)).drop ((0 : Int).toNat + a0.length)).drop (((0 : Int).toNat + a0.length) + [([1] : List UInt8), ([2] : List UInt8), ([3] : List UInt8)].length)) true)]⟩) [0, 3] [7] hN (.cons (mvU (v := .p (.list .str) a0) rfl rfl) (.cons (sok_lenL (U := Un) (rs := [(4, .p (.list .str) a0)]) rfl rfl Try.underlying22 o0) (.cons (sok_arith (U := Un) (rs := [(5, .p I6 ((a0.length : Int) : Int))]) rfl rfl o0 (.int _ _ _) rfl) (.cons (sok_makeSlice (U := Un) (t := .str) (rs := [(6, .p I6 ((IntKind.i64.wrap ((a0.length : Int) + 3)) : Int))]) (z := ([] : List UInt8)) rfl rfl rfl row_22 (by decide) z0_9 (.int _ _ _) o0 g1.1 g1.2.1 g1.2.2) (.cons (mvU (v := .p (.list .str) a0) rfl rfl) (.cons (sok_appendPart (U := Un) (t := .str) (rs := [(7, .vec 7 1 0 ((0 : Int).toNat)), (8, .p (.list .str) a0)]) (vw := []) (xs := (List.replicate (IntKind.i64.wrap ((a0.length : Int) + 3)).toNat ([] : List UInt8))) (ys := a0) (fx := true) rfl rfl rfl row_22 o0 o1 (.same _) (by simp) g2.1 g2.2) (.cons (sok_buildSlice (U := Un) (t := .str) (rs := []) (ys := [.const (.string ⟨#[1]⟩), .const (.string ⟨#[2]⟩), .const (.string ⟨#[3]⟩)]) (xs := [([1] : List UInt8), ([2] : List UInt8), ([3] : List UInt8)]) rfl rfl rfl rfl row_22 (.cons (.str _ _) (.cons (.str _ _) (.cons (.str _ _) .nil))) (by decide)) (.cons (sok_appendPart (U := Un) (t := .str) (rs := [(9, .vec 7 1 0 ((0 : Int).toNat + a0.length)), (10, .vec 10 1 0 ([([1] : List UInt8), ([2] : List UInt8), ([3] : List UInt8)].length))]) (vw := [(10, .row 9 .str [([1] : List UInt8), ([2] : List UInt8), ([3] : List UInt8)] true)]) (xs := ((List.replicate (IntKind.i64.wrap ((a0.length : Int) + 3)).toNat ([] : List UInt8)).take ((0 : Int).toNat) ++ a0 ++ (List.replicate (IntKind.i64.wrap ((a0.length : Int) + 3)).toNat ([] : List UInt8)).drop ((0 : Int).toNat + a0.length))) (ys := [([1] : List UInt8), ([2] : List UInt8), ([3] : List UInt8)]) (fx := true) rfl rfl rfl row_22 o0 o1 (.whole (.head _)) (by simp) g3.1 g3.2) (.cons (mvA (v := .vec 7 1 0 (((0 : Int).toNat + a0.length) + [([1] : List UInt8), ([2] : List UInt8), ([3] : List UInt8)].length)) rfl rfl) .nil))))))))) (by kernel_rfl) (by kernel_rfl) (by kernel_rfl) (cvR _) ?_
  refine tnU ?_
  refine WpC.seq ?_
  obtain ⟨g4, h⟩ := if_some h
  refine rgU (st1 := ⟨[(2, .vec 7 1 0 a0.length)], [(7, .row 9 .str (((List.replicate (IntKind.i64.wrap ((a0.length : Int) + 3)).toNat ([] : List UInt8)).take ((0 : Int).toNat) ++ a0 ++ (List.replicate (IntKind.i64.wrap ((a0.length : Int) + 3)).toNat ([] : List UInt8)).drop ((0 : Int).toNat + a0.length)).take ((0 : Int).toNat + a0.length) ++ [([1] : List UInt8), ([2] : List UInt8), ([3] : List UInt8)] ++ ((List.replicate (IntKind.i64.wrap ((a0.length : Int) + 3)).toNat ([] : List UInt8)).take ((0 : Int).toNat) ++ a0 ++ (List.replicate (IntKind.i64.wrap ((a0.length : Int) + 3)).toNat ([] : List UInt8)).drop ((0 : Int).toNat + a0.length)).drop (((0 : Int).toNat + a0.length) + [([1] : List UInt8), ([2] : List UInt8), ([3] : List UInt8)].length)) true)]⟩) [2] [7] hN (.cons (mvU (v := .vec 7 1 0 (((0 : Int).toNat + a0.length) + [([1] : List UInt8), ([2] : List UInt8), ([3] : List UInt8)].length)) rfl rfl) (.cons (mvU (v := .p (.list .str) a0) rfl rfl) (.cons (sok_lenL (U := Un) (rs := [(13, .p (.list .str) a0)]) rfl rfl Try.underlying22 o0) (.cons (sok_sliceV (U := Un) (t := .str) (rs := [(12, .vec 7 1 0 (((0 : Int).toNat + a0.length) + [([1] : List UInt8), ([2] : List UInt8), ([3] : List UInt8)].length)), (14, .p I6 ((a0.length : Int) : Int))]) (xs := (((List.replicate (IntKind.i64.wrap ((a0.length : Int) + 3)).toNat ([] : List UInt8)).take ((0 : Int).toNat) ++ a0 ++ (List.replicate (IntKind.i64.wrap ((a0.length : Int) + 3)).toNat ([] : List UInt8)).drop ((0 : Int).toNat + a0.length)).take ((0 : Int).toNat + a0.length) ++ [([1] : List UInt8), ([2] : List UInt8), ([3] : List UInt8)] ++ ((List.replicate (IntKind.i64.wrap ((a0.length : Int) + 3)).toNat ([] : List UInt8)).take ((0 : Int).toNat) ++ a0 ++ (List.replicate (IntKind.i64.wrap ((a0.length : Int) + 3)).toNat ([] : List UInt8)).drop ((0 : Int).toNat + a0.length)).drop (((0 : Int).toNat + a0.length) + [([1] : List UInt8), ([2] : List UInt8), ([3] : List UInt8)].length))) (fx := true) rfl rfl sl_22 o0 .no (.at o1) g4.1 g4.2.1 g4.2.2) (.cons (mvA (v := .vec 7 1 0 a0.length) rfl rfl) .nil))))) (by kernel_rfl) (by kernel_rfl) (by kernel_rfl) (cvR _) ?_
  refine tnU ?_
  refine WpC.conv (cvT (Conv.ren (U := Un) (st' := ⟨[(2, .vec 60500 1 0 a0.length)], [(60500, .row 9 .str (((List.replicate (IntKind.i64.wrap ((a0.length : Int) + 3)).toNat ([] : List UInt8)).take ((0 : Int).toNat) ++ a0 ++ (List.replicate (IntKind.i64.wrap ((a0.length : Int) + 3)).toNat ([] : List UInt8)).drop ((0 : Int).toNat + a0.length)).take ((0 : Int).toNat + a0.length) ++ [([1] : List UInt8), ([2] : List UInt8), ([3] : List UInt8)] ++ ((List.replicate (IntKind.i64.wrap ((a0.length : Int) + 3)).toNat ([] : List UInt8)).take ((0 : Int).toNat) ++ a0 ++ (List.replicate (IntKind.i64.wrap ((a0.length : Int) + 3)).toNat ([] : List UInt8)).drop ((0 : Int).toNat + a0.length)).drop (((0 : Int).toNat + a0.length) + [([1] : List UInt8), ([2] : List UInt8), ([3] : List UInt8)].length)) true)]⟩) 7 60500 (by unfold K0; omega) (by kernel_rfl) (by kernel_rfl) (by kernel_rfl)) (cvK (b := ⟨[(2, .vec 60500 1 0 a0.length)], [(60500, .row 9 .str (((List.replicate (IntKind.i64.wrap ((a0.length : Int) + 3)).toNat ([] : List UInt8)).take ((0 : Int).toNat) ++ a0 ++ (List.replicate (IntKind.i64.wrap ((a0.length : Int) + 3)).toNat ([] : List UInt8)).drop ((0 : Int).toNat + a0.length)).take ((0 : Int).toNat + a0.length) ++ [([1] : List UInt8), ([2] : List UInt8), ([3] : List UInt8)] ++ ((List.replicate (IntKind.i64.wrap ((a0.length : Int) + 3)).toNat ([] : List UInt8)).take ((0 : Int).toNat) ++ a0 ++ (List.replicate (IntKind.i64.wrap ((a0.length : Int) + 3)).toNat ([] : List UInt8)).drop ((0 : Int).toNat + a0.length)).drop (((0 : Int).toNat + a0.length) + [([1] : List UInt8), ([2] : List UInt8), ([3] : List UInt8)].length)) true)]⟩) [2] [60500] (by kernel_rfl))) (WpC.ret ?_)
  have hq := Option.some.inj h
  subst hq
  exact ends_ret (retV_1 rfl (.head _)) (ain_cons (.head _) ain_nil)

theorem names_Sorted.ok (O : Out) (k : Nat) (a0 : List (List UInt8)) (out : List (List UInt8)) (h : names_Sorted.f k a0 = some out) : COk Un O Try.prog 8 { ar := [.p (.list .str) a0], r := .vec 60500 1 0 out.length, bs' := [(60500, .row 9 .str out false)], nn := [60500] } := by
  refine cok_of_wp Try.func8 rfl (k := 10) rfl (Nat.le_of_ble_eq_true rfl) (namesOk_of (by kernel_rfl)) ?_
  intro B hN
  refine WpC.conv (cvK (b := ⟨[(0, .p (.list .str) a0)], []⟩) [0] [] (by kernel_rfl)) ?_
  unfold names_Sorted.f at h
  refine WpC.seq ?_
  refine rgU (st1 := ⟨[(0, .p (.list .str) a0)], []⟩) [0] [] hN (.cons (moU (rs := []) rfl (.inr rfl) (.lit _ _ rfl)) .nil) (by kernel_rfl) (by kernel_rfl) (by kernel_rfl) (cvR _) ?_
  refine tnU ?_
  refine WpC.seq ?_
  obtain ⟨v1, hv1, h⟩ := bind_some h
  refine rgU (st1 := ⟨[(3, .vec 10001 1 0 v1.length)], [(10001, .row 9 .str v1 false)]⟩) [3] [10001] hN (.cons (mvU (v := .p (.list .str) a0) rfl rfl) (.cons (caV (rs := [(4, .p (.list .str) a0)]) (vw := []) rfl rfl (.func _) hb_19 (COk.ren (pCloneR.ok O k a0 v1 hv1) (fun n => if n = 60500 then 10001 else n) (injOn_of (by kernel_rfl))) (.cons o0 .nil) (.cons (.same _) .nil) (by simp) (.inl rfl)) (.cons (mvA (v := .vec 10001 1 0 v1.length) rfl rfl) .nil))) (by kernel_rfl) (by kernel_rfl) (by kernel_rfl) (cvR _) ?_
  refine tnU ?_
  refine WpC.seq ?_
  obtain ⟨v2, hv2, h⟩ := bind_some h
  obtain ⟨g3, h⟩ := if_some h
  refine rgU (st1 := ⟨[(3, .vec 10001 1 0 v1.length)], [(10001, .row 9 .str v2 false)]⟩) [3] [10001] hN (.cons (mvU (v := .vec 10001 1 0 v1.length) rfl rfl) (.cons (caV (rs := [(6, .vec 10001 1 0 v1.length)]) (vw := []) rfl rfl (.func _) hb_20 (COk.ren (pSortR.ok O k v1 v2 hv2) (fun n => if n = 100000 then 10001 else n) (injOn_of (by kernel_rfl))) (.cons o0 .nil) (.cons (.cast (by first | rfl | (simp only [upd_length, List.length_replicate, List.length_append]; done) | (simp only [upd_length, List.length_replicate, List.length_append] at *; omega) | omega)) .nil) (by simp) (.inl rfl)) .nil)) (by kernel_rfl) (by kernel_rfl) (by kernel_rfl) (Conv.cast (U := Un) (st' := ⟨[(3, .vec 10001 1 0 v2.length)], [(10001, .row 9 .str v2 false)]⟩) (by simp only [upd_length, List.length_nil, List.length_replicate, g3])) ?_
  refine tnU ?_
  refine WpC.seq ?_
  obtain ⟨v4, hv4, h⟩ := bind_some h
  refine rgU (st1 := ⟨[(2, .vec 10002 1 0 v4.length)], [(10002, .row 9 .str v4 false)]⟩) [2] [10002] hN (.cons (mvU (v := .vec 10001 1 0 v2.length) rfl rfl) (.cons (caV (rs := [(8, .vec 10001 1 0 v2.length)]) (vw := []) rfl rfl (.func _) hb_21 (COk.ren (pCompactRR.ok O k v2 v4 hv4) (fun n => if n = 60500 then 10002 else if n = 100000 then 10001 else n) (injOn_of (by kernel_rfl))) (.cons o0 .nil) (.cons (.cast (by first | rfl | (simp only [upd_length, List.length_replicate, List.length_append]; done) | (simp only [upd_length, List.length_replicate, List.length_append] at *; omega) | omega)) .nil) (by simp) (.inl rfl)) (.cons (mvA (v := .vec 10002 1 0 v4.length) rfl rfl) .nil))) (by kernel_rfl) (by kernel_rfl) (by kernel_rfl) (cvR _) ?_
  refine tnU ?_
  refine WpC.conv (cvT (Conv.ren (U := Un) (st' := ⟨[(2, .vec 60500 1 0 v4.length)], [(60500, .row 9 .str v4 false)]⟩) 10002 60500 (by unfold K0; omega) (by kernel_rfl) (by kernel_rfl) (by kernel_rfl)) (cvK (b := ⟨[(2, .vec 60500 1 0 v4.length)], [(60500, .row 9 .str v4 false)]⟩) [2] [60500] (by kernel_rfl))) (WpC.ret ?_)
  have hq := Option.some.inj h
  subst hq
  exact ends_ret (retV_1 rfl (.head _)) (ain_cons (.head _) ain_nil)

theorem millwrightref01_Sorted.ok (O : Out) (k : Nat) (a0 : List (List UInt8)) (out : List (List UInt8)) (h : millwrightref01_Sorted.f k a0 = some out) : COk Un O Try.prog 9 { ar := [.p (.list .str) a0], r := .p (.list .str) out } := by
  refine cok_of_wp Try.func9 rfl (k := 54) rfl (Nat.le_of_ble_eq_true rfl) (namesOk_pure rfl rfl rfl rfl) ?_
  intro B hN
  refine WpC.conv (cvK (b := ⟨[(0, .p (.list .str) a0)], []⟩) [0] [] (by kernel_rfl)) ?_
  unfold millwrightref01_Sorted.f at h
  refine WpC.seq ?_
  refine rgU (st1 := ⟨[(0, .p (.list .str) a0)], []⟩) [0] [] hN (.cons (moU (rs := []) rfl (.inr rfl) (.lit _ _ rfl)) .nil) (by kernel_rfl) (by kernel_rfl) (by kernel_rfl) (cvR _) ?_
  refine tnU ?_
  refine WpC.seq ?_
  refine rgU (st1 := ⟨[(0, .p (.list .str) a0), (3, .vec 7 1 0 (([] : List (List UInt8)).length))], [(7, .row 9 .str ([] : List (List UInt8)) true)]⟩) [0, 3] [7] hN (.cons (sok_buildSlice (U := Un) (t := .str) (rs := []) (ys := []) (xs := ([] : List (List UInt8))) rfl rfl rfl rfl row_22 .nil (by decide)) (.cons (mvA (v := .vec 7 1 0 (([] : List (List UInt8)).length)) rfl rfl) .nil)) (by kernel_rfl) (by kernel_rfl) (by kernel_rfl) (Conv.cast (U := Un) (st' := ⟨[(0, .p (.list .str) a0), (3, .vec 7 1 0 0)], [(7, .row 9 .str ([] : List (List UInt8)) true)]⟩) (by simp only [upd_length, List.length_nil, List.length_replicate])) ?_
  refine tnU ?_
  refine sqJ (fun st' => ∃ v1 : List (List UInt8), millwrightref01_Sorted.j2 k v1 = some out ∧ st' = ⟨[(3, .vec 1003 1 0 v1.length)], [(1003, .row 9 .str v1 false)]⟩) ?_ ?_
  · refine WpC.seq ?_
    refine rgU (st1 := ⟨[(3, .vec 7 1 0 0), (8, .p (.list .str) a0), (9, .p I6 ((a0.length : Int) : Int)), (10, .p I6 (0 : Int))], [(7, .row 9 .str ([] : List (List UInt8)) true)]⟩) [3, 8, 9, 10] [7] hN (.cons (mvU (v := .p (.list .str) a0) rfl rfl) (.cons (sok_lenL (U := Un) (rs := [(8, .p (.list .str) a0)]) rfl rfl Try.underlying22 o0) (.cons (moU (rs := []) rfl (.inl rfl) (.int _ _ _)) .nil))) (by kernel_rfl) (by kernel_rfl) (by kernel_rfl) (cvR _) ?_
    refine tnU ?_
    refine WpC.block ?_
    obtain ⟨o7, hlo7, h⟩ := bind_some h
    have hout8 := h
    clear h
    refine WpC.conv (cvT (Conv.loose (U := Un) 7 9 .str ([] : List (List UInt8)) (.head _)) (cvT (cvK (b := ⟨[(3, .vec 7 1 0 0), (8, .p (.list .str) a0), (9, .p I6 ((a0.length : Int) : Int)), (10, .p I6 (0 : Int))], [(7, .row 9 .str ([] : List (List UInt8)) false)]⟩) [3, 8, 9, 10] [7] (by kernel_rfl)) (cvT (Conv.ren (U := Un) (st' := ⟨[(3, .vec 1003 1 0 0), (8, .p (.list .str) a0), (9, .p I6 ((a0.length : Int) : Int)), (10, .p I6 (0 : Int))], [(1003, .row 9 .str ([] : List (List UInt8)) false)]⟩) 7 1003 (by unfold K0; omega) (by kernel_rfl) (by kernel_rfl) (by kernel_rfl)) (cvK (b := ⟨[(3, .vec 1003 1 0 0), (8, .p (.list .str) a0), (9, .p I6 ((a0.length : Int) : Int)), (10, .p I6 (0 : Int))], [(1003, .row 9 .str ([] : List (List UInt8)) false)]⟩) [3, 8, 9, 10] [1003] (by kernel_rfl))))) ?_
    refine WpC.loop (U := Un) (fun n st' => ∃ v3 : List (List UInt8), ∃ v4 : Int, millwrightref01_Sorted.l5 k a0 n v3 v4 = some o7 ∧ st' = ⟨[(3, .vec 1003 1 0 v3.length), (8, .p (.list .str) a0), (9, .p I6 ((a0.length : Int) : Int)), (10, .p I6 v4)], [(1003, .row 9 .str v3 false)]⟩) k ⟨([] : List (List UInt8)), 0, hlo7, rfl⟩ ?_
    clear hlo7
    rintro (_ | n) _ ⟨v3, v4, h, rfl⟩
    · cases h
    · rw [millwrightref01_Sorted.l5] at h
      refine WpC.seq ?_
      refine rgU (st1 := ⟨[(3, .vec 1003 1 0 v3.length), (8, .p (.list .str) a0), (9, .p I6 ((a0.length : Int) : Int)), (10, .p I6 v4), (11, .p .bool ((decide (v4 < (a0.length : Int))) : Bool))], [(1003, .row 9 .str v3 false)]⟩) [3, 8, 9, 10, 11] [1003] hN (.cons (cmU (rs := [(10, .p I6 v4), (9, .p I6 ((a0.length : Int) : Int))]) rfl rfl o0 o1 rfl) .nil) (by kernel_rfl) (by kernel_rfl) (by kernel_rfl) (cvR _) ?_
      refine tnU ?_
      refine WpC.seq ?_
      refine cdU (b := (decide (v4 < (a0.length : Int)))) (.tmp (.tail _ (.tail _ (.tail _ (.tail _ (.head _)))))) (fun hc9 => ?_) (fun hc9 => ?_)
      · replace h := ite_t hc9 h
        refine WpC.conv (cvK (b := ⟨[(3, .vec 1003 1 0 v3.length), (8, .p (.list .str) a0), (9, .p I6 ((a0.length : Int) : Int)), (10, .p I6 v4)], [(1003, .row 9 .str v3 false)]⟩) [3, 8, 9, 10] [1003] (by kernel_rfl)) (WpC.skip ?_)
        refine tnU ?_
        refine sqJ (fun st' => ∃ v10 : List (List UInt8), millwrightref01_Sorted.j11 k (millwrightref01_Sorted.l5 k a0 n) a0 v4 v10 = some o7 ∧ st' = ⟨[(3, .vec 1003 1 0 v10.length), (8, .p (.list .str) a0), (9, .p I6 ((a0.length : Int) : Int)), (10, .p I6 v4)], [(1003, .row 9 .str v10 false)]⟩) ?_ ?_
        · refine WpC.block ?_
          refine WpC.seq ?_
          obtain ⟨v12, hv12, h⟩ := bind_some h
          refine rgU (st1 := ⟨[(3, .vec 1003 1 0 v3.length), (5, .p .str v12), (8, .p (.list .str) a0), (9, .p I6 ((a0.length : Int) : Int)), (10, .p I6 v4)], [(1003, .row 9 .str v3 false)]⟩) [3, 5, 8, 9, 10] [1003] hN (.cons (sok_indexL (U := Un) (rs := [(8, .p (.list .str) a0), (10, .p I6 v4)]) rfl rfl sl_22 o0 o1 hv12) (.cons (sok_loadP (U := Un) (rs := [(12, .pp .str v12)]) rfl rfl ty_9 o0) (.cons (mvA (v := .p .str v12) rfl rfl) .nil))) (by kernel_rfl) (by kernel_rfl) (by kernel_rfl) (cvR _) ?_
          refine tnU ?_
          refine WpC.seq ?_
          refine rgU (st1 := ⟨[(3, .vec 1003 1 0 v3.length), (5, .p .str v12), (6, .p I6 (0 : Int)), (8, .p (.list .str) a0), (9, .p I6 ((a0.length : Int) : Int)), (10, .p I6 v4)], [(1003, .row 9 .str v3 false)]⟩) [3, 5, 6, 8, 9, 10] [1003] hN (.cons (moU (rs := []) rfl (.inr rfl) (.int _ _ _)) .nil) (by kernel_rfl) (by kernel_rfl) (by kernel_rfl) (cvR _) ?_
          refine tnU ?_
          refine sqJ (fun st' => ∃ v13 : Int, millwrightref01_Sorted.j28 k (millwrightref01_Sorted.l5 k a0 n) a0 v3 v4 v12 v13 = some o7 ∧ st' = ⟨[(3, .vec 1003 1 0 v3.length), (5, .p .str v12), (6, .p I6 v13), (8, .p (.list .str) a0), (9, .p I6 ((a0.length : Int) : Int)), (10, .p I6 v4)], [(1003, .row 9 .str v3 false)]⟩) ?_ ?_
          · refine WpC.block ?_
            obtain ⟨o32, hlo32, h⟩ := bind_some h
            have hout33 := h
            clear h
            refine WpC.loop (U := Un) (fun n st' => ∃ v29 : Int, millwrightref01_Sorted.l30 k a0 v3 v4 v12 n v29 = some o32 ∧ st' = ⟨[(3, .vec 1003 1 0 v3.length), (5, .p .str v12), (6, .p I6 v29), (8, .p (.list .str) a0), (9, .p I6 ((a0.length : Int) : Int)), (10, .p I6 v4)], [(1003, .row 9 .str v3 false)]⟩) k ⟨0, hlo32, rfl⟩ ?_
            clear hlo32
            rintro (_ | n) _ ⟨v29, h, rfl⟩
            · cases h
            · rw [millwrightref01_Sorted.l30] at h
              refine sqJ (fun st' => millwrightref01_Sorted.j34 k (millwrightref01_Sorted.l30 k a0 v3 v4 v12 n) a0 v3 v4 v12 v29 = some o32 ∧ st' = ⟨[(3, .vec 1003 1 0 v3.length), (5, .p .str v12), (6, .p I6 v29), (8, .p (.list .str) a0), (9, .p I6 ((a0.length : Int) : Int)), (10, .p I6 v4)], [(1003, .row 9 .str v3 false)]⟩) ?_ ?_
              · refine sqJ (fun st' => ∃ v35 : Bool, millwrightref01_Sorted.j37 k (millwrightref01_Sorted.l30 k a0 v3 v4 v12 n) a0 v3 v4 v12 v29 v35 = some o32 ∧ st' = ⟨[(3, .vec 1003 1 0 v3.length), (5, .p .str v12), (6, .p I6 v29), (8, .p (.list .str) a0), (9, .p I6 ((a0.length : Int) : Int)), (10, .p I6 v4), (25, .p .bool v35)], [(1003, .row 9 .str v3 false)]⟩) ?_ ?_
                · rcases bool_cases (decide (v29 < (v3.length : Int))) with hc38 | hc38
                  · replace h := ite_t hc38 h
                    obtain ⟨g39, h⟩ := if_some h
                    obtain ⟨v40, hv40, h⟩ := bind_some h
                    refine rgU (st1 := ⟨[(3, .vec 1003 1 0 v3.length), (5, .p .str v12), (6, .p I6 v29), (8, .p (.list .str) a0), (9, .p I6 ((a0.length : Int) : Int)), (10, .p I6 v4), (25, .p .bool ((Op.bytesLess v40 v12) : Bool))], [(1003, .row 9 .str v3 false)]⟩) [3, 5, 6, 8, 9, 10, 25] [1003] hN (.cons (mvU (v := .p I6 v29) rfl rfl) (.cons (mvU (v := .vec 1003 1 0 v3.length) rfl rfl) (.cons (sok_lenV (U := Un) (rs := [(15, .vec 1003 1 0 v3.length)]) rfl rfl Try.underlying22 o0) (.cons (cmU (rs := [(14, .p I6 v29), (16, .p I6 ((v3.length : Int) : Int))]) rfl rfl o0 o1 rfl) (.cons (mvU (v := .p .bool ((decide (v29 < (v3.length : Int))) : Bool)) rfl rfl) (.cons (sok_run rfl rfl hc38 (mvU (v := .vec 1003 1 0 v3.length) rfl rfl)) (.cons (sok_run rfl rfl hc38 (mvU (v := .p I6 v29) rfl rfl)) (.cons (sok_run rfl rfl hc38 (sok_indexV (U := Un) (rs := [(19, .vec 1003 1 0 v3.length), (20, .p I6 v29)]) rfl rfl sl_22 o0 o1 g39)) (.cons (sok_run rfl rfl hc38 (sok_loadE (U := Un) (E := 9) (t := .str) (rs := [(21, .eloc 1003 1 (0 + v29.toNat) 0)]) (xs := v3) (fx := false) rfl rfl ty_9 o0 hv40 (.here _ _))) (.cons (sok_run rfl rfl hc38 (mvU (v := .p .str v12) rfl rfl)) (.cons (sok_run rfl rfl hc38 (sok_cmpS (U := Un) (rs := [(22, .p .str v40), (23, .p .str v12)]) rfl rfl o0 o1 rfl)) (.cons (pkT (rs := [(18, .p .bool ((decide (v29 < (v3.length : Int))) : Bool)), (24, .p .bool ((Op.bytesLess v40 v12) : Bool))]) rfl rfl o0 hc38 o1) .nil)))))))))))) (by kernel_rfl) (by kernel_rfl) (by kernel_rfl) (cvR _) ?_
                    refine tnU ?_
                    exact ⟨(Op.bytesLess v40 v12), h, rfl⟩
                  · replace h := ite_f hc38 h
                    refine rgU (st1 := ⟨[(3, .vec 1003 1 0 v3.length), (5, .p .str v12), (6, .p I6 v29), (8, .p (.list .str) a0), (9, .p I6 ((a0.length : Int) : Int)), (10, .p I6 v4), (25, .p .bool false)], [(1003, .row 9 .str v3 false)]⟩) [3, 5, 6, 8, 9, 10, 25] [1003] hN (.cons (mvU (v := .p I6 v29) rfl rfl) (.cons (mvU (v := .vec 1003 1 0 v3.length) rfl rfl) (.cons (sok_lenV (U := Un) (rs := [(15, .vec 1003 1 0 v3.length)]) rfl rfl Try.underlying22 o0) (.cons (cmU (rs := [(14, .p I6 v29), (16, .p I6 ((v3.length : Int) : Int))]) rfl rfl o0 o1 rfl) (.cons (mvU (v := .p .bool ((decide (v29 < (v3.length : Int))) : Bool)) rfl rfl) (.cons (skU rfl rfl hc38) (.cons (skU rfl rfl hc38) (.cons (skU rfl rfl hc38) (.cons (skU rfl rfl hc38) (.cons (skU rfl rfl hc38) (.cons (skU rfl rfl hc38) (.cons (pkF (rs := [(18, .p .bool ((decide (v29 < (v3.length : Int))) : Bool))]) rfl rfl o0 hc38 (.bool _ _)) .nil)))))))))))) (by kernel_rfl) (by kernel_rfl) (by kernel_rfl) (cvR _) ?_
                    refine tnU ?_
                    exact ⟨false, h, rfl⟩
                · rintro _ ⟨v35, h, rfl⟩
                  unfold millwrightref01_Sorted.j37 at h
                  refine cdU (b := v35) (.tmp (.tail _ (.tail _ (.tail _ (.tail _ (.tail _ (.tail _ (.head _)))))))) (fun hc36 => ?_) (fun hc36 => ?_)
                  · replace h := ite_t hc36 h
                    refine WpC.conv (cvK (b := ⟨[(3, .vec 1003 1 0 v3.length), (5, .p .str v12), (6, .p I6 v29), (8, .p (.list .str) a0), (9, .p I6 ((a0.length : Int) : Int)), (10, .p I6 v4)], [(1003, .row 9 .str v3 false)]⟩) [3, 5, 6, 8, 9, 10] [1003] (by kernel_rfl)) (WpC.skip ?_)
                    refine tnU ?_
                    exact ⟨h, rfl⟩
                  · replace h := ite_f hc36 h
                    refine WpC.conv (cvK (b := ⟨[(3, .vec 1003 1 0 v3.length), (5, .p .str v12), (6, .p I6 v29), (8, .p (.list .str) a0), (9, .p I6 ((a0.length : Int) : Int)), (10, .p I6 v4)], [(1003, .row 9 .str v3 false)]⟩) [3, 5, 6, 8, 9, 10] [1003] (by kernel_rfl)) (WpC.exit ?_)
                    refine thenQ_exit ?_
                    have hq := Option.some.inj h
                    subst hq
                    refine thenQ_exit ?_
                    have h := hout33
                    refine blockQ_hit ?_
                    refine tnU ?_
                    exact ⟨v29, h, rfl⟩
              · rintro _ ⟨h, rfl⟩
                unfold millwrightref01_Sorted.j34 at h
                refine WpC.block ?_
                refine rgU (st1 := ⟨[(3, .vec 1003 1 0 v3.length), (5, .p .str v12), (6, .p I6 ((IntKind.i64.wrap (v29 + 1)) : Int)), (8, .p (.list .str) a0), (9, .p I6 ((a0.length : Int) : Int)), (10, .p I6 v4)], [(1003, .row 9 .str v3 false)]⟩) [3, 5, 6, 8, 9, 10] [1003] hN (.cons (mvU (v := .p I6 v29) rfl rfl) (.cons (sok_arith (U := Un) (rs := [(26, .p I6 v29)]) rfl rfl o0 (.int _ _ _) rfl) (.cons (mvA (v := .p I6 ((IntKind.i64.wrap (v29 + 1)) : Int)) rfl rfl) .nil))) (by kernel_rfl) (by kernel_rfl) (by kernel_rfl) (cvR _) ?_
                refine blockQ_normal ?_
                refine tnU ?_
                exact ⟨n, Nat.lt_succ_self n, (IntKind.i64.wrap (v29 + 1)), h, rfl⟩
          · rintro _ ⟨v13, h, rfl⟩
            unfold millwrightref01_Sorted.j28 at h
            refine sqJ (fun st' => millwrightref01_Sorted.j21 k (millwrightref01_Sorted.l5 k a0 n) a0 v3 v4 v12 v13 = some o7 ∧ st' = ⟨[(3, .vec 1003 1 0 v3.length), (5, .p .str v12), (6, .p I6 v13), (8, .p (.list .str) a0), (9, .p I6 ((a0.length : Int) : Int)), (10, .p I6 v4)], [(1003, .row 9 .str v3 false)]⟩) ?_ ?_
            · refine sqJ (fun st' => ∃ v22 : Bool, millwrightref01_Sorted.j24 k (millwrightref01_Sorted.l5 k a0 n) a0 v3 v4 v12 v13 v22 = some o7 ∧ st' = ⟨[(3, .vec 1003 1 0 v3.length), (5, .p .str v12), (6, .p I6 v13), (8, .p (.list .str) a0), (9, .p I6 ((a0.length : Int) : Int)), (10, .p I6 v4), (39, .p .bool v22)], [(1003, .row 9 .str v3 false)]⟩) ?_ ?_
              · rcases bool_cases (decide (v13 < (v3.length : Int))) with hc25 | hc25
                · replace h := ite_t hc25 h
                  obtain ⟨g26, h⟩ := if_some h
                  obtain ⟨v27, hv27, h⟩ := bind_some h
                  refine rgU (st1 := ⟨[(3, .vec 1003 1 0 v3.length), (5, .p .str v12), (6, .p I6 v13), (8, .p (.list .str) a0), (9, .p I6 ((a0.length : Int) : Int)), (10, .p I6 v4), (39, .p .bool ((v27 == v12) : Bool))], [(1003, .row 9 .str v3 false)]⟩) [3, 5, 6, 8, 9, 10, 39] [1003] hN (.cons (mvU (v := .p I6 v13) rfl rfl) (.cons (mvU (v := .vec 1003 1 0 v3.length) rfl rfl) (.cons (sok_lenV (U := Un) (rs := [(29, .vec 1003 1 0 v3.length)]) rfl rfl Try.underlying22 o0) (.cons (cmU (rs := [(28, .p I6 v13), (30, .p I6 ((v3.length : Int) : Int))]) rfl rfl o0 o1 rfl) (.cons (mvU (v := .p .bool ((decide (v13 < (v3.length : Int))) : Bool)) rfl rfl) (.cons (sok_run rfl rfl hc25 (mvU (v := .vec 1003 1 0 v3.length) rfl rfl)) (.cons (sok_run rfl rfl hc25 (mvU (v := .p I6 v13) rfl rfl)) (.cons (sok_run rfl rfl hc25 (sok_indexV (U := Un) (rs := [(33, .vec 1003 1 0 v3.length), (34, .p I6 v13)]) rfl rfl sl_22 o0 o1 g26)) (.cons (sok_run rfl rfl hc25 (sok_loadE (U := Un) (E := 9) (t := .str) (rs := [(35, .eloc 1003 1 (0 + v13.toNat) 0)]) (xs := v3) (fx := false) rfl rfl ty_9 o0 hv27 (.here _ _))) (.cons (sok_run rfl rfl hc25 (mvU (v := .p .str v12) rfl rfl)) (.cons (sok_run rfl rfl hc25 (sok_cmpS (U := Un) (rs := [(36, .p .str v27), (37, .p .str v12)]) rfl rfl o0 o1 rfl)) (.cons (pkT (rs := [(32, .p .bool ((decide (v13 < (v3.length : Int))) : Bool)), (38, .p .bool ((v27 == v12) : Bool))]) rfl rfl o0 hc25 o1) .nil)))))))))))) (by kernel_rfl) (by kernel_rfl) (by kernel_rfl) (cvR _) ?_
                  refine tnU ?_
                  exact ⟨(v27 == v12), h, rfl⟩
                · replace h := ite_f hc25 h
                  refine rgU (st1 := ⟨[(3, .vec 1003 1 0 v3.length), (5, .p .str v12), (6, .p I6 v13), (8, .p (.list .str) a0), (9, .p I6 ((a0.length : Int) : Int)), (10, .p I6 v4), (39, .p .bool false)], [(1003, .row 9 .str v3 false)]⟩) [3, 5, 6, 8, 9, 10, 39] [1003] hN (.cons (mvU (v := .p I6 v13) rfl rfl) (.cons (mvU (v := .vec 1003 1 0 v3.length) rfl rfl) (.cons (sok_lenV (U := Un) (rs := [(29, .vec 1003 1 0 v3.length)]) rfl rfl Try.underlying22 o0) (.cons (cmU (rs := [(28, .p I6 v13), (30, .p I6 ((v3.length : Int) : Int))]) rfl rfl o0 o1 rfl) (.cons (mvU (v := .p .bool ((decide (v13 < (v3.length : Int))) : Bool)) rfl rfl) (.cons (skU rfl rfl hc25) (.cons (skU rfl rfl hc25) (.cons (skU rfl rfl hc25) (.cons (skU rfl rfl hc25) (.cons (skU rfl rfl hc25) (.cons (skU rfl rfl hc25) (.cons (pkF (rs := [(32, .p .bool ((decide (v13 < (v3.length : Int))) : Bool))]) rfl rfl o0 hc25 (.bool _ _)) .nil)))))))))))) (by kernel_rfl) (by kernel_rfl) (by kernel_rfl) (cvR _) ?_
                  refine tnU ?_
                  exact ⟨false, h, rfl⟩
              · rintro _ ⟨v22, h, rfl⟩
                unfold millwrightref01_Sorted.j24 at h
                refine cdU (b := v22) (.tmp (.tail _ (.tail _ (.tail _ (.tail _ (.tail _ (.tail _ (.head _)))))))) (fun hc23 => ?_) (fun hc23 => ?_)
                · replace h := ite_t hc23 h
                  refine WpC.conv (cvK (b := ⟨[(3, .vec 1003 1 0 v3.length), (8, .p (.list .str) a0), (9, .p I6 ((a0.length : Int) : Int)), (10, .p I6 v4)], [(1003, .row 9 .str v3 false)]⟩) [3, 8, 9, 10] [1003] (by kernel_rfl)) (WpC.exit ?_)
                  refine thenQ_exit ?_
                  refine blockQ_hit ?_
                  refine tnU ?_
                  exact ⟨v3, h, rfl⟩
                · replace h := ite_f hc23 h
                  refine WpC.conv (cvK (b := ⟨[(3, .vec 1003 1 0 v3.length), (5, .p .str v12), (6, .p I6 v13), (8, .p (.list .str) a0), (9, .p I6 ((a0.length : Int) : Int)), (10, .p I6 v4)], [(1003, .row 9 .str v3 false)]⟩) [3, 5, 6, 8, 9, 10] [1003] (by kernel_rfl)) (WpC.skip ?_)
                  refine tnU ?_
                  exact ⟨h, rfl⟩
            · rintro _ ⟨h, rfl⟩
              unfold millwrightref01_Sorted.j21 at h
              obtain ⟨g14, h⟩ := if_some h
              obtain ⟨g15, h⟩ := if_some h
              obtain ⟨g16, h⟩ := if_some h
              obtain ⟨g17, h⟩ := if_some h
              obtain ⟨g18, h⟩ := if_some h
              obtain ⟨g19, h⟩ := if_some h
              obtain ⟨g20, h⟩ := if_some h
              refine WpC.regA (U := Un) (st1 := ⟨[(3, .vec 51 1 0 ((((([] : List (List UInt8)) ++ ((v3.drop 0).take v13.toNat)) ++ [v12]) ++ ((v3.drop (0 + v13.toNat)).take ((v3.length : Int).toNat - v13.toNat))).length)), (8, .p (.list .str) a0), (9, .p I6 ((a0.length : Int) : Int)), (10, .p I6 v4)], [(51, .row 9 .str (((([] : List (List UInt8)) ++ ((v3.drop 0).take v13.toNat)) ++ [v12]) ++ ((v3.drop (0 + v13.toNat)).take ((v3.length : Int).toNat - v13.toNat))) false)]⟩) [3, 8, 9, 10] [51] [[], [], [], [1, 2], [0, 1, 2, 3], [], [5], [0, 1, 2, 3, 4, 5, 6], [], [], [8, 9], [0, 1, 2, 3, 4, 5, 6, 7, 8, 9, 10], [0, 1, 2, 3, 4, 5, 6, 7, 8, 9, 10, 11]] mixed hN (.cons (sok_buildSlice (U := Un) (t := .str) (rs := []) (ys := []) (xs := ([] : List (List UInt8))) rfl rfl rfl rfl row_22 .nil (by decide)) (.cons (mvU (v := .vec 1003 1 0 v3.length) rfl rfl) (.cons (mvU (v := .p I6 v13) rfl rfl) (.cons (sok_sliceV (U := Un) (t := .str) (rs := [(41, .vec 1003 1 0 v3.length), (42, .p I6 v13)]) (xs := v3) (fx := false) rfl rfl sl_22 o0 .no (.at o1) g14.1 g14.2.1 g14.2.2) (.cons (sok_append' (U := Un) (t := .str) (rs := [(40, .vec 40 1 0 (([] : List (List UInt8)).length)), (43, .vec 1003 1 0 v13.toNat)]) (vw := [(1003, .row 9 .str v3 false)]) (xs := ([] : List (List UInt8))) (ys := ((v3.drop 0).take v13.toNat)) (fx := true) rfl rfl rfl row_22 (by decide) o0 o1 (.row 0 v13.toNat (.head _) g15) (by simp) g16) (.cons (mvU (v := .p .str v12) rfl rfl) (.cons (sok_buildSlice (U := Un) (t := .str) (rs := [(45, .p .str v12)]) (ys := [.tmp 45]) (xs := [v12]) rfl rfl rfl rfl row_22 (.cons o0 .nil) (by decide)) (.cons (sok_append' (U := Un) (t := .str) (rs := [(44, .vec 44 1 0 ((([] : List (List UInt8)) ++ ((v3.drop 0).take v13.toNat)).length)), (46, .vec 46 1 0 ([v12].length))]) (vw := [(46, .row 9 .str [v12] true)]) (xs := (([] : List (List UInt8)) ++ ((v3.drop 0).take v13.toNat))) (ys := [v12]) (fx := false) rfl rfl rfl row_22 (by decide) o0 o1 (.whole (.head _)) (by simp) g17) (.cons (mvU (v := .vec 1003 1 0 v3.length) rfl rfl) (.cons (mvU (v := .p I6 v13) rfl rfl) (.cons (sok_sliceV (U := Un) (t := .str) (rs := [(48, .vec 1003 1 0 v3.length), (49, .p I6 v13)]) (xs := v3) (fx := false) rfl rfl sl_22 o0 (.at o1) .no g18.1 g18.2.1 g18.2.2) (.cons (sok_append' (U := Un) (t := .str) (rs := [(47, .vec 47 1 0 (((([] : List (List UInt8)) ++ ((v3.drop 0).take v13.toNat)) ++ [v12]).length)), (50, .vec 1003 1 (0 + v13.toNat) ((v3.length : Int).toNat - v13.toNat))]) (vw := [(1003, .row 9 .str v3 false)]) (xs := ((([] : List (List UInt8)) ++ ((v3.drop 0).take v13.toNat)) ++ [v12])) (ys := ((v3.drop (0 + v13.toNat)).take ((v3.length : Int).toNat - v13.toNat))) (fx := false) rfl rfl rfl row_22 (by decide) o0 o1 (.row (0 + v13.toNat) ((v3.length : Int).toNat - v13.toNat) (.head _) g19) (by simp) g20) (.cons (mvA (v := .vec 51 1 0 ((((([] : List (List UInt8)) ++ ((v3.drop 0).take v13.toNat)) ++ [v12]) ++ ((v3.drop (0 + v13.toNat)).take ((v3.length : Int).toNat - v13.toNat))).length)) rfl rfl) .nil))))))))))))) (by kernel_rfl) (by kernel_rfl) (by kernel_rfl) (by kernel_rfl) (by kernel_rfl) (cvT (Conv.ren (U := Un) (st' := ⟨[(3, .vec 1003 1 0 ((((([] : List (List UInt8)) ++ ((v3.drop 0).take v13.toNat)) ++ [v12]) ++ ((v3.drop (0 + v13.toNat)).take ((v3.length : Int).toNat - v13.toNat))).length)), (8, .p (.list .str) a0), (9, .p I6 ((a0.length : Int) : Int)), (10, .p I6 v4)], [(1003, .row 9 .str (((([] : List (List UInt8)) ++ ((v3.drop 0).take v13.toNat)) ++ [v12]) ++ ((v3.drop (0 + v13.toNat)).take ((v3.length : Int).toNat - v13.toNat))) false)]⟩) 51 1003 (by unfold K0; omega) (by kernel_rfl) (by kernel_rfl) (by kernel_rfl)) (cvK (b := ⟨[(3, .vec 1003 1 0 ((((([] : List (List UInt8)) ++ ((v3.drop 0).take v13.toNat)) ++ [v12]) ++ ((v3.drop (0 + v13.toNat)).take ((v3.length : Int).toNat - v13.toNat))).length)), (8, .p (.list .str) a0), (9, .p I6 ((a0.length : Int) : Int)), (10, .p I6 v4)], [(1003, .row 9 .str (((([] : List (List UInt8)) ++ ((v3.drop 0).take v13.toNat)) ++ [v12]) ++ ((v3.drop (0 + v13.toNat)).take ((v3.length : Int).toNat - v13.toNat))) false)]⟩) [3, 8, 9, 10] [1003] (by kernel_rfl))) ?_
              refine blockQ_normal ?_
              refine tnU ?_
              exact ⟨(((([] : List (List UInt8)) ++ ((v3.drop 0).take v13.toNat)) ++ [v12]) ++ ((v3.drop (0 + v13.toNat)).take ((v3.length : Int).toNat - v13.toNat))), h, rfl⟩
        · rintro _ ⟨v10, h, rfl⟩
          unfold millwrightref01_Sorted.j11 at h
          refine rgU (st1 := ⟨[(3, .vec 1003 1 0 v10.length), (8, .p (.list .str) a0), (9, .p I6 ((a0.length : Int) : Int)), (10, .p I6 ((IntKind.i64.wrap (v4 + 1)) : Int))], [(1003, .row 9 .str v10 false)]⟩) [3, 8, 9, 10] [1003] hN (.cons (sok_arith (U := Un) (rs := [(10, .p I6 v4)]) rfl rfl o0 (.int _ _ _) rfl) (.cons (mvU (v := .p I6 ((IntKind.i64.wrap (v4 + 1)) : Int)) rfl rfl) .nil)) (by kernel_rfl) (by kernel_rfl) (by kernel_rfl) (cvR _) ?_
          refine tnU ?_
          exact ⟨n, Nat.lt_succ_self n, v10, (IntKind.i64.wrap (v4 + 1)), h, rfl⟩
      · replace h := ite_f hc9 h
        refine WpC.conv (cvK (b := ⟨[(3, .vec 1003 1 0 v3.length)], [(1003, .row 9 .str v3 false)]⟩) [3] [1003] (by kernel_rfl)) (WpC.exit ?_)
        refine thenQ_exit ?_
        have hq := Option.some.inj h
        subst hq
        refine thenQ_exit ?_
        have h := hout8
        refine blockQ_hit ?_
        refine tnU ?_
        exact ⟨v3, h, rfl⟩
  · rintro _ ⟨v1, h, rfl⟩
    unfold millwrightref01_Sorted.j2 at h
    refine WpC.seq ?_
    refine rgU (st1 := ⟨[(2, .vec 1003 1 0 v1.length)], [(1003, .row 9 .str v1 false)]⟩) [2] [1003] hN (.cons (mvU (v := .vec 1003 1 0 v1.length) rfl rfl) (.cons (mvA (v := .vec 1003 1 0 v1.length) rfl rfl) .nil)) (by kernel_rfl) (by kernel_rfl) (by kernel_rfl) (cvR _) ?_
    refine tnU ?_
    refine WpC.conv (cvT (Conv.freeze (U := Un) 2 1003 9 _ .str v1 false (.head _) (by first | rfl | (simp only [upd_length, List.length_replicate, List.length_append]; done) | (simp only [upd_length, List.length_replicate, List.length_append] at *; omega) | omega) (.head _) (by first | (simp [Blk.names]; done) | (simp [Blk.names, AVal.namesL, AVal.names]; done) | (simp [Blk.names]; decide))) (cvK (b := ⟨[(2, .p (.list .str) v1)], []⟩) [2] [] (by kernel_rfl))) (WpC.ret ?_)
    have hq := Option.some.inj h
    subst hq
    exact ends_ret (retV_1 rfl (.head _)) ain_nil

theorem millwrightnum_SameTexts.ok (O : Out) (k : Nat) (a0 : List (List UInt8)) (a1 : List (List UInt8)) (out : Bool) (h : millwrightnum_SameTexts.f k a0 a1 = some out) : COk Un O Try.prog 7 { ar := [.p (.list .str) a0, .p (.list .str) a1], r := .p .bool out } := by
  refine cok_of_wp Try.func7 rfl (k := 26) rfl (Nat.le_of_ble_eq_true rfl) (namesOk_pure rfl rfl rfl rfl) ?_
  intro B hN
  refine WpC.conv (cvK (b := ⟨[(0, .p (.list .str) a0), (1, .p (.list .str) a1)], []⟩) [0, 1] [] (by kernel_rfl)) ?_
  unfold millwrightnum_SameTexts.f at h
  refine WpC.seq ?_
  refine rgU (st1 := ⟨[(0, .p (.list .str) a0), (1, .p (.list .str) a1)], []⟩) [0, 1] [] hN (.cons (moU (rs := []) rfl (.inr rfl) (.bool _ _)) .nil) (by kernel_rfl) (by kernel_rfl) (by kernel_rfl) (cvR _) ?_
  refine tnU ?_
  refine WpC.seq ?_
  refine WpC.seq ?_
  refine rgU (st1 := ⟨[(0, .p (.list .str) a0), (1, .p (.list .str) a1), (10, .p .bool (((a0.length : Int) != (a1.length : Int)) : Bool))], []⟩) [0, 1, 10] [] hN (.cons (mvU (v := .p (.list .str) a0) rfl rfl) (.cons (sok_lenL (U := Un) (rs := [(6, .p (.list .str) a0)]) rfl rfl Try.underlying22 o0) (.cons (mvU (v := .p (.list .str) a1) rfl rfl) (.cons (sok_lenL (U := Un) (rs := [(8, .p (.list .str) a1)]) rfl rfl Try.underlying22 o0) (.cons (cmU (rs := [(7, .p I6 ((a0.length : Int) : Int)), (9, .p I6 ((a1.length : Int) : Int))]) rfl rfl o0 o1 rfl) .nil))))) (by kernel_rfl) (by kernel_rfl) (by kernel_rfl) (cvR _) ?_
  refine tnU ?_
  refine cdU (b := ((a0.length : Int) != (a1.length : Int))) (.tmp (.tail _ (.tail _ (.head _)))) (fun hc1 => ?_) (fun hc1 => ?_)
  · replace h := ite_t hc1 h
    refine WpC.seq ?_
    refine rgU (st1 := ⟨[(4, .p .bool false)], []⟩) [4] [] hN (.cons (moU (rs := []) rfl (.inr rfl) (.bool _ _)) .nil) (by kernel_rfl) (by kernel_rfl) (by kernel_rfl) (cvR _) ?_
    refine tnU ?_
    refine WpC.ret ?_
    refine thenQ_ret ?_
    have hq := Option.some.inj h
    subst hq
    exact ends_ret (retV_1 rfl (.head _)) ain_nil
  · replace h := ite_f hc1 h
    refine WpC.conv (cvK (b := ⟨[(0, .p (.list .str) a0), (1, .p (.list .str) a1)], []⟩) [0, 1] [] (by kernel_rfl)) (WpC.skip ?_)
    refine tnU ?_
    refine sqJ (fun st' => millwrightnum_SameTexts.j2 k = some out ∧ st' = ⟨[], []⟩) ?_ ?_
    · refine WpC.seq ?_
      refine rgU (st1 := ⟨[(0, .p (.list .str) a0), (1, .p (.list .str) a1), (12, .p I6 ((a0.length : Int) : Int)), (13, .p I6 (0 : Int))], []⟩) [0, 1, 12, 13] [] hN (.cons (mvU (v := .p (.list .str) a0) rfl rfl) (.cons (sok_lenL (U := Un) (rs := [(11, .p (.list .str) a0)]) rfl rfl Try.underlying22 o0) (.cons (moU (rs := []) rfl (.inl rfl) (.int _ _ _)) .nil))) (by kernel_rfl) (by kernel_rfl) (by kernel_rfl) (cvR _) ?_
      refine tnU ?_
      refine WpC.block ?_
      obtain ⟨o5, hlo5, h⟩ := bind_some h
      have hout6 := h
      clear h
      refine WpC.loop (U := Un) (fun n st' => ∃ v3 : Int, millwrightnum_SameTexts.l4 k a0 a1 n v3 = some o5 ∧ st' = ⟨[(0, .p (.list .str) a0), (1, .p (.list .str) a1), (12, .p I6 ((a0.length : Int) : Int)), (13, .p I6 v3)], []⟩) k ⟨0, hlo5, rfl⟩ ?_
      clear hlo5
      rintro (_ | n) _ ⟨v3, h, rfl⟩
      · cases h
      · rw [millwrightnum_SameTexts.l4] at h
        refine WpC.seq ?_
        refine rgU (st1 := ⟨[(0, .p (.list .str) a0), (1, .p (.list .str) a1), (12, .p I6 ((a0.length : Int) : Int)), (13, .p I6 v3), (14, .p .bool ((decide (v3 < (a0.length : Int))) : Bool))], []⟩) [0, 1, 12, 13, 14] [] hN (.cons (cmU (rs := [(13, .p I6 v3), (12, .p I6 ((a0.length : Int) : Int))]) rfl rfl o0 o1 rfl) .nil) (by kernel_rfl) (by kernel_rfl) (by kernel_rfl) (cvR _) ?_
        refine tnU ?_
        refine WpC.seq ?_
        refine cdU (b := (decide (v3 < (a0.length : Int)))) (.tmp (.tail _ (.tail _ (.tail _ (.tail _ (.head _)))))) (fun hc7 => ?_) (fun hc7 => ?_)
        · replace h := ite_t hc7 h
          refine WpC.conv (cvK (b := ⟨[(0, .p (.list .str) a0), (1, .p (.list .str) a1), (12, .p I6 ((a0.length : Int) : Int)), (13, .p I6 v3)], []⟩) [0, 1, 12, 13] [] (by kernel_rfl)) (WpC.skip ?_)
          refine tnU ?_
          refine WpC.seq ?_
          refine WpC.block ?_
          refine WpC.seq ?_
          refine rgU (st1 := ⟨[(0, .p (.list .str) a0), (1, .p (.list .str) a1), (5, .p I6 v3), (12, .p I6 ((a0.length : Int) : Int)), (13, .p I6 v3)], []⟩) [0, 1, 5, 12, 13] [] hN (.cons (mvU (v := .p I6 v3) rfl rfl) (.cons (mvA (v := .p I6 v3) rfl rfl) .nil)) (by kernel_rfl) (by kernel_rfl) (by kernel_rfl) (cvR _) ?_
          refine tnU ?_
          refine WpC.seq ?_
          obtain ⟨v8, hv8, h⟩ := bind_some h
          obtain ⟨v9, hv9, h⟩ := bind_some h
          refine WpC.regA (U := Un) (st1 := ⟨[(0, .p (.list .str) a0), (1, .p (.list .str) a1), (12, .p I6 ((a0.length : Int) : Int)), (13, .p I6 v3), (24, .p .bool ((!(v8 == v9)) : Bool))], []⟩) [0, 1, 12, 13, 24] [] [[], [], [0, 1], [0, 1, 2], [], [], [4, 5], [4, 5, 6], [0, 1, 2, 3, 4, 5, 6, 7]] mixed hN (.cons (mvU (v := .p (.list .str) a0) rfl rfl) (.cons (mvU (v := .p I6 v3) rfl rfl) (.cons (sok_indexL (U := Un) (rs := [(16, .p (.list .str) a0), (17, .p I6 v3)]) rfl rfl sl_22 o0 o1 hv8) (.cons (sok_loadP (U := Un) (rs := [(18, .pp .str v8)]) rfl rfl ty_9 o0) (.cons (mvU (v := .p (.list .str) a1) rfl rfl) (.cons (mvU (v := .p I6 v3) rfl rfl) (.cons (sok_indexL (U := Un) (rs := [(20, .p (.list .str) a1), (21, .p I6 v3)]) rfl rfl sl_22 o0 o1 hv9) (.cons (sok_loadP (U := Un) (rs := [(22, .pp .str v9)]) rfl rfl ty_9 o0) (.cons (sok_cmpS (U := Un) (rs := [(19, .p .str v8), (23, .p .str v9)]) rfl rfl o0 o1 rfl) .nil))))))))) (by kernel_rfl) (by kernel_rfl) (by kernel_rfl) (by kernel_rfl) (by kernel_rfl) (cvR _) ?_
          refine tnU ?_
          refine cdU (b := (!(v8 == v9))) (.tmp (.tail _ (.tail _ (.tail _ (.tail _ (.head _)))))) (fun hc10 => ?_) (fun hc10 => ?_)
          · replace h := ite_t hc10 h
            refine WpC.seq ?_
            refine rgU (st1 := ⟨[(4, .p .bool false)], []⟩) [4] [] hN (.cons (moU (rs := []) rfl (.inr rfl) (.bool _ _)) .nil) (by kernel_rfl) (by kernel_rfl) (by kernel_rfl) (cvR _) ?_
            refine tnU ?_
            refine WpC.ret ?_
            refine blockQ_ret ?_
            refine thenQ_ret ?_
            have hq := Option.some.inj h
            subst hq
            refine thenQ_ret ?_
            have h := hout6
            refine blockQ_ret ?_
            refine thenQ_ret ?_
            have hq := Option.some.inj h
            subst hq
            exact ends_ret (retV_1 rfl (.head _)) ain_nil
          · replace h := ite_f hc10 h
            refine WpC.conv (cvK (b := ⟨[(0, .p (.list .str) a0), (1, .p (.list .str) a1), (12, .p I6 ((a0.length : Int) : Int)), (13, .p I6 v3)], []⟩) [0, 1, 12, 13] [] (by kernel_rfl)) (WpC.skip ?_)
            refine blockQ_normal ?_
            refine tnU ?_
            refine rgU (st1 := ⟨[(0, .p (.list .str) a0), (1, .p (.list .str) a1), (12, .p I6 ((a0.length : Int) : Int)), (13, .p I6 ((IntKind.i64.wrap (v3 + 1)) : Int))], []⟩) [0, 1, 12, 13] [] hN (.cons (sok_arith (U := Un) (rs := [(13, .p I6 v3)]) rfl rfl o0 (.int _ _ _) rfl) (.cons (mvU (v := .p I6 ((IntKind.i64.wrap (v3 + 1)) : Int)) rfl rfl) .nil)) (by kernel_rfl) (by kernel_rfl) (by kernel_rfl) (cvR _) ?_
            refine tnU ?_
            exact ⟨n, Nat.lt_succ_self n, (IntKind.i64.wrap (v3 + 1)), h, rfl⟩
        · replace h := ite_f hc7 h
          refine WpC.conv (cvK (b := ⟨[], []⟩) [] [] (by kernel_rfl)) (WpC.exit ?_)
          refine thenQ_exit ?_
          have hq := Option.some.inj h
          subst hq
          refine thenQ_exit ?_
          have h := hout6
          refine blockQ_hit ?_
          refine tnU ?_
          exact ⟨h, rfl⟩
    · rintro _ ⟨h, rfl⟩
      unfold millwrightnum_SameTexts.j2 at h
      refine WpC.seq ?_
      refine rgU (st1 := ⟨[(4, .p .bool true)], []⟩) [4] [] hN (.cons (moU (rs := []) rfl (.inr rfl) (.bool _ _)) .nil) (by kernel_rfl) (by kernel_rfl) (by kernel_rfl) (cvR _) ?_
      refine tnU ?_
      refine WpC.ret ?_
      have hq := Option.some.inj h
      subst hq
      exact ends_ret (retV_1 rfl (.head _)) ain_nil

end Go.Proofs.Ytnbnfjgedinlbab
