/- A part of the proof of a given law: NLC0. Own work, printed in part by a program of mine. -/
import Derived.Test.YtnbnfjgedinlbabK11NLF
namespace Go.Proofs.Ytnbnfjgedinlbab
open Go Go.AM
set_option linter.unusedVariables false
set_option linter.unusedSimpArgs false
set_option maxRecDepth 100000
theorem stringslite_HasSuffix.ok (O : Out) (k : Nat) (a0 : List UInt8) (a1 : List UInt8) (out : Bool) (h : stringslite_HasSuffix.f k a0 a1 = some out) : COk Un O Try.prog 52 { ar := [.p .str a0, .p .str a1], r := .p .bool out } := by
  refine cok_of_wp Try.func52 rfl (k := 21) rfl (Nat.le_of_ble_eq_true rfl) (namesOk_pure rfl rfl rfl rfl) ?_
  intro B hN
  refine WpC.conv (cvK (b := ⟨[(0, .p .str a0), (1, .p .str a1)], []⟩) [0, 1] [] (by kernel_rfl)) ?_
  unfold stringslite_HasSuffix.f at h
  refine WpC.seq ?_
  refine rgU (st1 := ⟨[(0, .p .str a0), (1, .p .str a1)], []⟩) [0, 1] [] hN (.cons (moU (rs := []) rfl (.inr rfl) (.bool _ _)) .nil) (by kernel_rfl) (by kernel_rfl) (by kernel_rfl) (cvR _) ?_
  refine tnU ?_
  refine WpC.seq ?_
  rcases bool_cases (decide ((a0.length : Int) ≥ (a1.length : Int))) with hc1 | hc1
  · replace h := ite_t hc1 h
    obtain ⟨v2, hv2, h⟩ := bind_some h
    refine rgU (st1 := ⟨[(4, .p .bool ((v2 == a1) : Bool))], []⟩) [4] [] hN (.cons (mvU (v := .p .str a0) rfl rfl) (.cons (sok_lenS (U := Un) (rs := [(5, .p .str a0)]) rfl rfl Try.underlying9 o0) (.cons (mvU (v := .p .str a1) rfl rfl) (.cons (sok_lenS (U := Un) (rs := [(7, .p .str a1)]) rfl rfl Try.underlying9 o0) (.cons (cmU (rs := [(6, .p I6 ((a0.length : Int) : Int)), (8, .p I6 ((a1.length : Int) : Int))]) rfl rfl o0 o1 rfl) (.cons (mvU (v := .p .bool ((decide ((a0.length : Int) ≥ (a1.length : Int))) : Bool)) rfl rfl) (.cons (sok_run rfl rfl hc1 (mvU (v := .p .str a0) rfl rfl)) (.cons (sok_run rfl rfl hc1 (mvU (v := .p .str a0) rfl rfl)) (.cons (sok_run rfl rfl hc1 (sok_lenS (U := Un) (rs := [(12, .p .str a0)]) rfl rfl Try.underlying9 o0)) (.cons (sok_run rfl rfl hc1 (mvU (v := .p .str a1) rfl rfl)) (.cons (sok_run rfl rfl hc1 (sok_lenS (U := Un) (rs := [(14, .p .str a1)]) rfl rfl Try.underlying9 o0)) (.cons (sok_run rfl rfl hc1 (sok_arith (U := Un) (rs := [(13, .p I6 ((a0.length : Int) : Int)), (15, .p I6 ((a1.length : Int) : Int))]) rfl rfl o0 o1 rfl)) (.cons (sok_run rfl rfl hc1 (sok_sliceS (U := Un) (rs := [(11, .p .str a0), (16, .p I6 ((IntKind.i64.wrap ((a0.length : Int) - (a1.length : Int))) : Int))]) rfl rfl Try.underlying9 o0 (.at o1) .no hv2)) (.cons (sok_run rfl rfl hc1 (mvU (v := .p .str a1) rfl rfl)) (.cons (sok_run rfl rfl hc1 (sok_cmpS (U := Un) (rs := [(17, .p .str v2), (18, .p .str a1)]) rfl rfl o0 o1 rfl)) (.cons (pkT (rs := [(10, .p .bool ((decide ((a0.length : Int) ≥ (a1.length : Int))) : Bool)), (19, .p .bool ((v2 == a1) : Bool))]) rfl rfl o0 hc1 o1) (.cons (mvA (v := .p .bool ((v2 == a1) : Bool)) rfl rfl) .nil))))))))))))))))) (by kernel_rfl) (by kernel_rfl) (by kernel_rfl) (cvR _) ?_
    refine tnU ?_
    refine WpC.ret ?_
    have hq := Option.some.inj h
    subst hq
    exact ends_ret (retV_1 rfl (.head _)) ain_nil
  · replace h := ite_f hc1 h
    refine rgU (st1 := ⟨[(4, .p .bool false)], []⟩) [4] [] hN (.cons (mvU (v := .p .str a0) rfl rfl) (.cons (sok_lenS (U := Un) (rs := [(5, .p .str a0)]) rfl rfl Try.underlying9 o0) (.cons (mvU (v := .p .str a1) rfl rfl) (.cons (sok_lenS (U := Un) (rs := [(7, .p .str a1)]) rfl rfl Try.underlying9 o0) (.cons (cmU (rs := [(6, .p I6 ((a0.length : Int) : Int)), (8, .p I6 ((a1.length : Int) : Int))]) rfl rfl o0 o1 rfl) (.cons (mvU (v := .p .bool ((decide ((a0.length : Int) ≥ (a1.length : Int))) : Bool)) rfl rfl) (.cons (skU rfl rfl hc1) (.cons (skU rfl rfl hc1) (.cons (skU rfl rfl hc1) (.cons (skU rfl rfl hc1) (.cons (skU rfl rfl hc1) (.cons (skU rfl rfl hc1) (.cons (skU rfl rfl hc1) (.cons (skU rfl rfl hc1) (.cons (skU rfl rfl hc1) (.cons (pkF (rs := [(10, .p .bool ((decide ((a0.length : Int) ≥ (a1.length : Int))) : Bool))]) rfl rfl o0 hc1 (.bool _ _)) (.cons (mvA (v := .p .bool false) rfl rfl) .nil))))))))))))))))) (by kernel_rfl) (by kernel_rfl) (by kernel_rfl) (cvR _) ?_
    refine tnU ?_
    refine WpC.ret ?_
    have hq := Option.some.inj h
    subst hq
    exact ends_ret (retV_1 rfl (.head _)) ain_nil

theorem stringslite_CutSuffix.ok (O : Out) (k : Nat) (a0 : List UInt8) (a1 : List UInt8) (out : (List UInt8) × Bool) (h : stringslite_CutSuffix.f k a0 a1 = some out) : COk Un O Try.prog 35 { ar := [.p .str a0, .p .str a1], r := .tup [.p .str out.1, .p .bool out.2] } := by
  refine cok_of_wp Try.func35 rfl (k := 18) rfl (Nat.le_of_ble_eq_true rfl) (namesOk_pure rfl rfl rfl rfl) ?_
  intro B hN
  refine WpC.conv (cvK (b := ⟨[(0, .p .str a0), (1, .p .str a1)], []⟩) [0, 1] [] (by kernel_rfl)) ?_
  unfold stringslite_CutSuffix.f at h
  refine WpC.seq ?_
  refine rgU (st1 := ⟨[(0, .p .str a0), (1, .p .str a1)], []⟩) [0, 1] [] hN (.cons (moU (rs := []) rfl (.inr rfl) (.str _ _)) (.cons (moU (rs := []) rfl (.inr rfl) (.bool _ _)) .nil)) (by kernel_rfl) (by kernel_rfl) (by kernel_rfl) (cvR _) ?_
  refine tnU ?_
  refine WpC.seq ?_
  refine WpC.seq ?_
  obtain ⟨v1, hv1, h⟩ := bind_some h
  refine rgU (st1 := ⟨[(0, .p .str a0), (1, .p .str a1), (9, .p .bool ((!v1) : Bool))], []⟩) [0, 1, 9] [] hN (.cons (mvU (v := .p .str a0) rfl rfl) (.cons (mvU (v := .p .str a1) rfl rfl) (.cons (caV (rs := [(6, .p .str a0), (7, .p .str a1)]) (vw := []) rfl rfl (.func _) hb_52 (stringslite_HasSuffix.ok O k a0 a1 v1 hv1) (.cons o0 (.cons o1 .nil)) (.cons (.same _) (.cons (.same _) .nil)) (by simp) (.inl rfl)) (.cons (sok_not (U := Un) (rs := [(8, .p .bool v1)]) rfl rfl o0) .nil)))) (by kernel_rfl) (by kernel_rfl) (by kernel_rfl) (cvR _) ?_
  refine tnU ?_
  refine cdU (b := (!v1)) (.tmp (.tail _ (.tail _ (.head _)))) (fun hc2 => ?_) (fun hc2 => ?_)
  · replace h := ite_t hc2 h
    refine WpC.seq ?_
    refine rgU (st1 := ⟨[(4, .p .str a0), (5, .p .bool false)], []⟩) [4, 5] [] hN (.cons (mvU (v := .p .str a0) rfl rfl) (.cons (mvA (v := .p .str a0) rfl rfl) (.cons (moU (rs := []) rfl (.inr rfl) (.bool _ _)) .nil))) (by kernel_rfl) (by kernel_rfl) (by kernel_rfl) (cvR _) ?_
    refine tnU ?_
    refine WpC.ret ?_
    refine thenQ_ret ?_
    have hq := Option.some.inj h
    subst hq
    exact ends_ret (retV_2 rfl (.head _) (.tail _ (.head _))) ain_nil
  · replace h := ite_f hc2 h
    refine WpC.conv (cvK (b := ⟨[(0, .p .str a0), (1, .p .str a1)], []⟩) [0, 1] [] (by kernel_rfl)) (WpC.skip ?_)
    refine tnU ?_
    refine WpC.seq ?_
    obtain ⟨v3, hv3, h⟩ := bind_some h
    refine rgU (st1 := ⟨[(4, .p .str v3), (5, .p .bool true)], []⟩) [4, 5] [] hN (.cons (mvU (v := .p .str a0) rfl rfl) (.cons (mvU (v := .p .str a0) rfl rfl) (.cons (sok_lenS (U := Un) (rs := [(12, .p .str a0)]) rfl rfl Try.underlying9 o0) (.cons (mvU (v := .p .str a1) rfl rfl) (.cons (sok_lenS (U := Un) (rs := [(14, .p .str a1)]) rfl rfl Try.underlying9 o0) (.cons (sok_arith (U := Un) (rs := [(13, .p I6 ((a0.length : Int) : Int)), (15, .p I6 ((a1.length : Int) : Int))]) rfl rfl o0 o1 rfl) (.cons (sok_sliceS (U := Un) (rs := [(11, .p .str a0), (16, .p I6 ((IntKind.i64.wrap ((a0.length : Int) - (a1.length : Int))) : Int))]) rfl rfl Try.underlying9 o0 .no (.at o1) hv3) (.cons (mvA (v := .p .str v3) rfl rfl) (.cons (moU (rs := []) rfl (.inr rfl) (.bool _ _)) .nil))))))))) (by kernel_rfl) (by kernel_rfl) (by kernel_rfl) (cvR _) ?_
    refine tnU ?_
    refine WpC.ret ?_
    have hq := Option.some.inj h
    subst hq
    exact ends_ret (retV_2 rfl (.head _) (.tail _ (.head _))) ain_nil

theorem strings_CutSuffix.ok (O : Out) (k : Nat) (a0 : List UInt8) (a1 : List UInt8) (out : (List UInt8) × Bool) (h : strings_CutSuffix.f k a0 a1 = some out) : COk Un O Try.prog 25 { ar := [.p .str a0, .p .str a1], r := .tup [.p .str out.1, .p .bool out.2] } := by
  refine cok_of_wp Try.func25 rfl (k := 11) rfl (Nat.le_of_ble_eq_true rfl) (namesOk_pure rfl rfl rfl rfl) ?_
  intro B hN
  refine WpC.conv (cvK (b := ⟨[(0, .p .str a0), (1, .p .str a1)], []⟩) [0, 1] [] (by kernel_rfl)) ?_
  unfold strings_CutSuffix.f at h
  refine WpC.seq ?_
  refine rgU (st1 := ⟨[(0, .p .str a0), (1, .p .str a1)], []⟩) [0, 1] [] hN (.cons (moU (rs := []) rfl (.inr rfl) (.str _ _)) (.cons (moU (rs := []) rfl (.inr rfl) (.bool _ _)) .nil)) (by kernel_rfl) (by kernel_rfl) (by kernel_rfl) (cvR _) ?_
  refine tnU ?_
  refine WpC.seq ?_
  obtain ⟨v1, hv1, h⟩ := bind_some h
  refine rgU (st1 := ⟨[(4, .p .str v1.1), (5, .p .bool v1.2)], []⟩) [4, 5] [] hN (.cons (mvU (v := .p .str a0) rfl rfl) (.cons (mvU (v := .p .str a1) rfl rfl) (.cons (caV (rs := [(6, .p .str a0), (7, .p .str a1)]) (vw := []) rfl rfl (.func _) hb_35 (stringslite_CutSuffix.ok O k a0 a1 v1 hv1) (.cons o0 (.cons o1 .nil)) (.cons (.same _) (.cons (.same _) .nil)) (by simp) (.inl rfl)) (.cons (exU (rs := [(8, .tup [.p .str v1.1, .p .bool v1.2])]) rfl rfl o0 rfl) (.cons (exU (rs := [(8, .tup [.p .str v1.1, .p .bool v1.2])]) rfl rfl o0 rfl) (.cons (mvA (v := .p .str v1.1) rfl rfl) (.cons (mvA (v := .p .bool v1.2) rfl rfl) .nil))))))) (by kernel_rfl) (by kernel_rfl) (by kernel_rfl) (cvR _) ?_
  refine tnU ?_
  refine WpC.ret ?_
  have hq := Option.some.inj h
  subst hq
  exact ends_ret (retV_2 rfl (.head _) (.tail _ (.head _))) ain_nil

theorem stringslite_Cut.ok (O : Out) (k : Nat) (a0 : List UInt8) (a1 : List UInt8) (out : (List UInt8) × (List UInt8) × Bool) (h : stringslite_Cut.f k a0 a1 = some out) : COk Un O Try.prog 36 { ar := [.p .str a0, .p .str a1], r := .tup [.p .str out.1, .p .str out.2.1, .p .bool out.2.2] } := by
  refine cok_of_wp Try.func36 rfl (k := 23) rfl (Nat.le_of_ble_eq_true rfl) (namesOk_pure rfl rfl rfl rfl) ?_
  intro B hN
  refine WpC.conv (cvK (b := ⟨[(0, .p .str a0), (1, .p .str a1)], []⟩) [0, 1] [] (by kernel_rfl)) ?_
  unfold stringslite_Cut.f at h
  refine WpC.seq ?_
  refine rgU (st1 := ⟨[(0, .p .str a0), (1, .p .str a1)], []⟩) [0, 1] [] hN (.cons (moU (rs := []) rfl (.inr rfl) (.str _ _)) (.cons (moU (rs := []) rfl (.inr rfl) (.str _ _)) (.cons (moU (rs := []) rfl (.inr rfl) (.bool _ _)) .nil))) (by kernel_rfl) (by kernel_rfl) (by kernel_rfl) (cvR _) ?_
  refine tnU ?_
  refine WpC.seq ?_
  refine WpC.seq ?_
  obtain ⟨v1, hv1, h⟩ := bind_some h
  refine rgU (st1 := ⟨[(0, .p .str a0), (1, .p .str a1), (7, .p I6 v1)], []⟩) [0, 1, 7] [] hN (.cons (mvU (v := .p .str a0) rfl rfl) (.cons (mvU (v := .p .str a1) rfl rfl) (.cons (sok_call (U := Un) (rs := [(8, .p .str a0), (9, .p .str a1)]) (vw := []) rfl rfl hb_53 (pIndex.ok O k a0 a1 v1 hv1) (.cons o0 (.cons o1 .nil)) (.cons (.same _) (.cons (.same _) .nil)) (by simp) (.inl rfl)) (.cons (mvA (v := .p I6 v1) rfl rfl) .nil)))) (by kernel_rfl) (by kernel_rfl) (by kernel_rfl) (cvR _) ?_
  refine tnU ?_
  refine WpC.seq ?_
  refine rgU (st1 := ⟨[(0, .p .str a0), (1, .p .str a1), (7, .p I6 v1), (12, .p .bool ((decide (v1 ≥ 0)) : Bool))], []⟩) [0, 1, 7, 12] [] hN (.cons (mvU (v := .p I6 v1) rfl rfl) (.cons (cmU (rs := [(11, .p I6 v1)]) rfl rfl o0 (.int _ _ _) rfl) .nil)) (by kernel_rfl) (by kernel_rfl) (by kernel_rfl) (cvR _) ?_
  refine tnU ?_
  refine cdU (b := (decide (v1 ≥ 0))) (.tmp (.tail _ (.tail _ (.tail _ (.head _))))) (fun hc2 => ?_) (fun hc2 => ?_)
  · replace h := ite_t hc2 h
    refine WpC.seq ?_
    obtain ⟨v3, hv3, h⟩ := bind_some h
    obtain ⟨v4, hv4, h⟩ := bind_some h
    refine WpC.regA (U := Un) (st1 := ⟨[(4, .p .str v3), (5, .p .str v4), (6, .p .bool true)], []⟩) [4, 5, 6] [] [[], [], [0, 1], [], [], [], [5], [4, 5, 6], [3, 4, 5, 6, 7], [0, 1, 2], [0, 1, 2, 3, 4, 5, 6, 7, 8, 9], [0, 1, 2, 3, 4, 5, 6, 7, 8, 9, 10]] mixed hN (.cons (mvU (v := .p .str a0) rfl rfl) (.cons (mvU (v := .p I6 v1) rfl rfl) (.cons (sok_sliceS (U := Un) (rs := [(13, .p .str a0), (14, .p I6 v1)]) rfl rfl Try.underlying9 o0 .no (.at o1) hv3) (.cons (mvU (v := .p .str a0) rfl rfl) (.cons (mvU (v := .p I6 v1) rfl rfl) (.cons (mvU (v := .p .str a1) rfl rfl) (.cons (sok_lenS (U := Un) (rs := [(18, .p .str a1)]) rfl rfl Try.underlying9 o0) (.cons (sok_arith (U := Un) (rs := [(17, .p I6 v1), (19, .p I6 ((a1.length : Int) : Int))]) rfl rfl o0 o1 rfl) (.cons (sok_sliceS (U := Un) (rs := [(16, .p .str a0), (20, .p I6 ((IntKind.i64.wrap (v1 + (a1.length : Int))) : Int))]) rfl rfl Try.underlying9 o0 (.at o1) .no hv4) (.cons (mvA (v := .p .str v3) rfl rfl) (.cons (mvA (v := .p .str v4) rfl rfl) (.cons (moU (rs := []) rfl (.inr rfl) (.bool _ _)) .nil)))))))))))) (by kernel_rfl) (by kernel_rfl) (by kernel_rfl) (by kernel_rfl) (by kernel_rfl) (cvR _) ?_
    refine tnU ?_
    refine WpC.ret ?_
    refine thenQ_ret ?_
    have hq := Option.some.inj h
    subst hq
    exact ends_ret (retV_3 rfl (.head _) (.tail _ (.head _)) (.tail _ (.tail _ (.head _)))) ain_nil
  · replace h := ite_f hc2 h
    refine WpC.conv (cvK (b := ⟨[(0, .p .str a0)], []⟩) [0] [] (by kernel_rfl)) (WpC.skip ?_)
    refine tnU ?_
    refine WpC.seq ?_
    refine rgU (st1 := ⟨[(4, .p .str a0), (5, .p .str (([] : List UInt8) : List UInt8)), (6, .p .bool false)], []⟩) [4, 5, 6] [] hN (.cons (mvU (v := .p .str a0) rfl rfl) (.cons (mvA (v := .p .str a0) rfl rfl) (.cons (moU (rs := []) rfl (.inr rfl) (.str _ _)) (.cons (moU (rs := []) rfl (.inr rfl) (.bool _ _)) .nil)))) (by kernel_rfl) (by kernel_rfl) (by kernel_rfl) (cvR _) ?_
    refine tnU ?_
    refine WpC.ret ?_
    have hq := Option.some.inj h
    subst hq
    exact ends_ret (retV_3 rfl (.head _) (.tail _ (.head _)) (.tail _ (.tail _ (.head _)))) ain_nil

theorem strings_Cut.ok (O : Out) (k : Nat) (a0 : List UInt8) (a1 : List UInt8) (out : (List UInt8) × (List UInt8) × Bool) (h : strings_Cut.f k a0 a1 = some out) : COk Un O Try.prog 26 { ar := [.p .str a0, .p .str a1], r := .tup [.p .str out.1, .p .str out.2.1, .p .bool out.2.2] } := by
  refine cok_of_wp Try.func26 rfl (k := 13) rfl (Nat.le_of_ble_eq_true rfl) (namesOk_pure rfl rfl rfl rfl) ?_
  intro B hN
  refine WpC.conv (cvK (b := ⟨[(0, .p .str a0), (1, .p .str a1)], []⟩) [0, 1] [] (by kernel_rfl)) ?_
  unfold strings_Cut.f at h
  refine WpC.seq ?_
  refine rgU (st1 := ⟨[(0, .p .str a0), (1, .p .str a1)], []⟩) [0, 1] [] hN (.cons (moU (rs := []) rfl (.inr rfl) (.str _ _)) (.cons (moU (rs := []) rfl (.inr rfl) (.str _ _)) (.cons (moU (rs := []) rfl (.inr rfl) (.bool _ _)) .nil))) (by kernel_rfl) (by kernel_rfl) (by kernel_rfl) (cvR _) ?_
  refine tnU ?_
  refine WpC.seq ?_
  obtain ⟨v1, hv1, h⟩ := bind_some h
  refine rgU (st1 := ⟨[(4, .p .str v1.1), (5, .p .str v1.2.1), (6, .p .bool v1.2.2)], []⟩) [4, 5, 6] [] hN (.cons (mvU (v := .p .str a0) rfl rfl) (.cons (mvU (v := .p .str a1) rfl rfl) (.cons (caV (rs := [(7, .p .str a0), (8, .p .str a1)]) (vw := []) rfl rfl (.func _) hb_36 (stringslite_Cut.ok O k a0 a1 v1 hv1) (.cons o0 (.cons o1 .nil)) (.cons (.same _) (.cons (.same _) .nil)) (by simp) (.inl rfl)) (.cons (exU (rs := [(9, .tup [.p .str v1.1, .p .str v1.2.1, .p .bool v1.2.2])]) rfl rfl o0 rfl) (.cons (exU (rs := [(9, .tup [.p .str v1.1, .p .str v1.2.1, .p .bool v1.2.2])]) rfl rfl o0 rfl) (.cons (exU (rs := [(9, .tup [.p .str v1.1, .p .str v1.2.1, .p .bool v1.2.2])]) rfl rfl o0 rfl) (.cons (mvA (v := .p .str v1.1) rfl rfl) (.cons (mvA (v := .p .str v1.2.1) rfl rfl) (.cons (mvA (v := .p .bool v1.2.2) rfl rfl) .nil))))))))) (by kernel_rfl) (by kernel_rfl) (by kernel_rfl) (cvR _) ?_
  refine tnU ?_
  refine WpC.ret ?_
  have hq := Option.some.inj h
  subst hq
  exact ends_ret (retV_3 rfl (.head _) (.tail _ (.head _)) (.tail _ (.tail _ (.head _)))) ain_nil

theorem names_Right.ok (O : Out) (k : Nat) (a0 : List UInt8) (out : Bool) (h : names_Right.f k a0 = some out) : COk Un O Try.prog 27 { ar := [.p .str a0], r := .p .bool out } := by
  refine cok_of_wp Try.func27 rfl (k := 28) rfl (Nat.le_of_ble_eq_true rfl) (namesOk_pure rfl rfl rfl rfl) ?_
  intro B hN
  refine WpC.conv (cvK (b := ⟨[(0, .p .str a0)], []⟩) [0] [] (by kernel_rfl)) ?_
  unfold names_Right.f at h
  refine WpC.seq ?_
  refine rgU (st1 := ⟨[(0, .p .str a0)], []⟩) [0] [] hN (.cons (moU (rs := []) rfl (.inr rfl) (.bool _ _)) .nil) (by kernel_rfl) (by kernel_rfl) (by kernel_rfl) (cvR _) ?_
  refine tnU ?_
  refine sqJ (fun st' => names_Right.j16 k a0 = some out ∧ st' = ⟨[(0, .p .str a0)], []⟩) ?_ ?_
  · refine sqJ (fun st' => ∃ v17 : Bool, names_Right.j19 k a0 v17 = some out ∧ st' = ⟨[(0, .p .str a0), (11, .p .bool v17)], []⟩) ?_ ?_
    · rcases bool_cases (decide ((a0.length : Int) < 1)) with hc20 | hc20
      · replace h := ite_t hc20 h
        refine rgU (st1 := ⟨[(0, .p .str a0), (11, .p .bool true)], []⟩) [0, 11] [] hN (.cons (mvU (v := .p .str a0) rfl rfl) (.cons (sok_lenS (U := Un) (rs := [(4, .p .str a0)]) rfl rfl Try.underlying9 o0) (.cons (cmU (rs := [(5, .p I6 ((a0.length : Int) : Int))]) rfl rfl o0 (.int _ _ _) rfl) (.cons (mvU (v := .p .bool ((decide ((a0.length : Int) < 1)) : Bool)) rfl rfl) (.cons (skU rfl rfl hc20) (.cons (skU rfl rfl hc20) (.cons (skU rfl rfl hc20) (.cons (pkT (rs := [(7, .p .bool ((decide ((a0.length : Int) < 1)) : Bool))]) rfl rfl o0 hc20 (.bool _ _)) .nil)))))))) (by kernel_rfl) (by kernel_rfl) (by kernel_rfl) (cvR _) ?_
        refine tnU ?_
        exact ⟨true, h, rfl⟩
      · replace h := ite_f hc20 h
        refine rgU (st1 := ⟨[(0, .p .str a0), (11, .p .bool ((decide ((a0.length : Int) > 40)) : Bool))], []⟩) [0, 11] [] hN (.cons (mvU (v := .p .str a0) rfl rfl) (.cons (sok_lenS (U := Un) (rs := [(4, .p .str a0)]) rfl rfl Try.underlying9 o0) (.cons (cmU (rs := [(5, .p I6 ((a0.length : Int) : Int))]) rfl rfl o0 (.int _ _ _) rfl) (.cons (mvU (v := .p .bool ((decide ((a0.length : Int) < 1)) : Bool)) rfl rfl) (.cons (sok_run rfl rfl hc20 (mvU (v := .p .str a0) rfl rfl)) (.cons (sok_run rfl rfl hc20 (sok_lenS (U := Un) (rs := [(8, .p .str a0)]) rfl rfl Try.underlying9 o0)) (.cons (sok_run rfl rfl hc20 (cmU (rs := [(9, .p I6 ((a0.length : Int) : Int))]) rfl rfl o0 (.int _ _ _) rfl)) (.cons (pkF (rs := [(7, .p .bool ((decide ((a0.length : Int) < 1)) : Bool)), (10, .p .bool ((decide ((a0.length : Int) > 40)) : Bool))]) rfl rfl o0 hc20 o1) .nil)))))))) (by kernel_rfl) (by kernel_rfl) (by kernel_rfl) (cvR _) ?_
        refine tnU ?_
        exact ⟨(decide ((a0.length : Int) > 40)), h, rfl⟩
    · rintro _ ⟨v17, h, rfl⟩
      unfold names_Right.j19 at h
      refine cdU (b := v17) o1 (fun hc18 => ?_) (fun hc18 => ?_)
      · replace h := ite_t hc18 h
        refine WpC.seq ?_
        refine rgU (st1 := ⟨[(2, .p .bool false)], []⟩) [2] [] hN (.cons (moU (rs := []) rfl (.inr rfl) (.bool _ _)) .nil) (by kernel_rfl) (by kernel_rfl) (by kernel_rfl) (cvR _) ?_
        refine tnU ?_
        refine WpC.ret ?_
        refine thenQ_ret ?_
        have hq := Option.some.inj h
        subst hq
        exact ends_ret (retV_1 rfl (.head _)) ain_nil
      · replace h := ite_f hc18 h
        refine WpC.conv (cvK (b := ⟨[(0, .p .str a0)], []⟩) [0] [] (by kernel_rfl)) (WpC.skip ?_)
        refine tnU ?_
        exact ⟨h, rfl⟩
  · rintro _ ⟨h, rfl⟩
    unfold names_Right.j16 at h
    refine sqJ (fun st' => names_Right.j1 k = some out ∧ st' = ⟨[], []⟩) ?_ ?_
    · refine WpC.seq ?_
      refine rgU (st1 := ⟨[(0, .p .str a0), (13, .p I6 ((a0.length : Int) : Int)), (14, .p I6 (0 : Int))], []⟩) [0, 13, 14] [] hN (.cons (mvU (v := .p .str a0) rfl rfl) (.cons (sok_lenS (U := Un) (rs := [(12, .p .str a0)]) rfl rfl Try.underlying9 o0) (.cons (moU (rs := []) rfl (.inl rfl) (.int _ _ _)) .nil))) (by kernel_rfl) (by kernel_rfl) (by kernel_rfl) (cvR _) ?_
      refine tnU ?_
      refine WpC.block ?_
      obtain ⟨o4, hlo4, h⟩ := bind_some h
      have hout5 := h
      clear h
      refine WpC.loop (U := Un) (fun n st' => ∃ v2 : Int, names_Right.l3 k a0 n v2 = some o4 ∧ st' = ⟨[(0, .p .str a0), (13, .p I6 ((a0.length : Int) : Int)), (14, .p I6 v2)], []⟩) k ⟨0, hlo4, rfl⟩ ?_
      clear hlo4
      rintro (_ | n) _ ⟨v2, h, rfl⟩
      · cases h
      · rw [names_Right.l3] at h
        refine WpC.seq ?_
        refine rgU (st1 := ⟨[(0, .p .str a0), (13, .p I6 ((a0.length : Int) : Int)), (14, .p I6 v2), (15, .p .bool ((decide (v2 < (a0.length : Int))) : Bool))], []⟩) [0, 13, 14, 15] [] hN (.cons (cmU (rs := [(14, .p I6 v2), (13, .p I6 ((a0.length : Int) : Int))]) rfl rfl o0 o1 rfl) .nil) (by kernel_rfl) (by kernel_rfl) (by kernel_rfl) (cvR _) ?_
        refine tnU ?_
        refine WpC.seq ?_
        refine cdU (b := (decide (v2 < (a0.length : Int)))) (.tmp (.tail _ (.tail _ (.tail _ (.head _))))) (fun hc6 => ?_) (fun hc6 => ?_)
        · replace h := ite_t hc6 h
          refine WpC.conv (cvK (b := ⟨[(0, .p .str a0), (13, .p I6 ((a0.length : Int) : Int)), (14, .p I6 v2)], []⟩) [0, 13, 14] [] (by kernel_rfl)) (WpC.skip ?_)
          refine tnU ?_
          refine sqJ (fun st' => names_Right.j7 k (names_Right.l3 k a0 n) a0 v2 = some o4 ∧ st' = ⟨[(0, .p .str a0), (13, .p I6 ((a0.length : Int) : Int)), (14, .p I6 v2)], []⟩) ?_ ?_
          · refine WpC.block ?_
            refine WpC.seq ?_
            refine rgU (st1 := ⟨[(0, .p .str a0), (3, .p I6 v2), (13, .p I6 ((a0.length : Int) : Int)), (14, .p I6 v2)], []⟩) [0, 3, 13, 14] [] hN (.cons (mvU (v := .p I6 v2) rfl rfl) (.cons (mvA (v := .p I6 v2) rfl rfl) .nil)) (by kernel_rfl) (by kernel_rfl) (by kernel_rfl) (cvR _) ?_
            refine tnU ?_
            refine sqJ (fun st' => ∃ v8 : Bool, names_Right.j10 k (names_Right.l3 k a0 n) a0 v2 v8 = some o4 ∧ st' = ⟨[(0, .p .str a0), (13, .p I6 ((a0.length : Int) : Int)), (14, .p I6 v2), (26, .p .bool v8)], []⟩) ?_ ?_
            · obtain ⟨v11, hv11, h⟩ := bind_some h
              rcases bool_cases (decide ((v11.toNat : Int) < 33)) with hc12 | hc12
              · replace h := ite_t hc12 h
                refine rgU (st1 := ⟨[(0, .p .str a0), (13, .p I6 ((a0.length : Int) : Int)), (14, .p I6 v2), (26, .p .bool true)], []⟩) [0, 13, 14, 26] [] hN (.cons (mvU (v := .p .str a0) rfl rfl) (.cons (mvU (v := .p I6 v2) rfl rfl) (.cons (sok_indexS (U := Un) (rs := [(17, .p .str a0), (18, .p I6 v2)]) rfl rfl Try.underlying9 o0 o1 hv11) (.cons (cmU (rs := [(19, .p (.int .u8) ((v11.toNat : Int) : Int))]) rfl rfl o0 (.int _ _ _) rfl) (.cons (mvU (v := .p .bool ((decide ((v11.toNat : Int) < 33)) : Bool)) rfl rfl) (.cons (skU rfl rfl hc12) (.cons (skU rfl rfl hc12) (.cons (skU rfl rfl hc12) (.cons (skU rfl rfl hc12) (.cons (pkT (rs := [(21, .p .bool ((decide ((v11.toNat : Int) < 33)) : Bool))]) rfl rfl o0 hc12 (.bool _ _)) .nil)))))))))) (by kernel_rfl) (by kernel_rfl) (by kernel_rfl) (cvR _) ?_
                refine tnU ?_
                exact ⟨true, h, rfl⟩
              · replace h := ite_f hc12 h
                obtain ⟨v13, hv13, h⟩ := bind_some h
                refine rgU (st1 := ⟨[(0, .p .str a0), (13, .p I6 ((a0.length : Int) : Int)), (14, .p I6 v2), (26, .p .bool ((decide ((v13.toNat : Int) > 126)) : Bool))], []⟩) [0, 13, 14, 26] [] hN (.cons (mvU (v := .p .str a0) rfl rfl) (.cons (mvU (v := .p I6 v2) rfl rfl) (.cons (sok_indexS (U := Un) (rs := [(17, .p .str a0), (18, .p I6 v2)]) rfl rfl Try.underlying9 o0 o1 hv11) (.cons (cmU (rs := [(19, .p (.int .u8) ((v11.toNat : Int) : Int))]) rfl rfl o0 (.int _ _ _) rfl) (.cons (mvU (v := .p .bool ((decide ((v11.toNat : Int) < 33)) : Bool)) rfl rfl) (.cons (sok_run rfl rfl hc12 (mvU (v := .p .str a0) rfl rfl)) (.cons (sok_run rfl rfl hc12 (mvU (v := .p I6 v2) rfl rfl)) (.cons (sok_run rfl rfl hc12 (sok_indexS (U := Un) (rs := [(22, .p .str a0), (23, .p I6 v2)]) rfl rfl Try.underlying9 o0 o1 hv13)) (.cons (sok_run rfl rfl hc12 (cmU (rs := [(24, .p (.int .u8) ((v13.toNat : Int) : Int))]) rfl rfl o0 (.int _ _ _) rfl)) (.cons (pkF (rs := [(21, .p .bool ((decide ((v11.toNat : Int) < 33)) : Bool)), (25, .p .bool ((decide ((v13.toNat : Int) > 126)) : Bool))]) rfl rfl o0 hc12 o1) .nil)))))))))) (by kernel_rfl) (by kernel_rfl) (by kernel_rfl) (cvR _) ?_
                refine tnU ?_
                exact ⟨(decide ((v13.toNat : Int) > 126)), h, rfl⟩
            · rintro _ ⟨v8, h, rfl⟩
              unfold names_Right.j10 at h
              refine cdU (b := v8) (.tmp (.tail _ (.tail _ (.tail _ (.head _))))) (fun hc9 => ?_) (fun hc9 => ?_)
              · replace h := ite_t hc9 h
                refine WpC.seq ?_
                refine rgU (st1 := ⟨[(2, .p .bool false)], []⟩) [2] [] hN (.cons (moU (rs := []) rfl (.inr rfl) (.bool _ _)) .nil) (by kernel_rfl) (by kernel_rfl) (by kernel_rfl) (cvR _) ?_
                refine tnU ?_
                refine WpC.ret ?_
                refine blockQ_ret ?_
                refine thenQ_ret ?_
                have hq := Option.some.inj h
                subst hq
                refine thenQ_ret ?_
                have h := hout5
                refine blockQ_ret ?_
                refine thenQ_ret ?_
                have hq := Option.some.inj h
                subst hq
                exact ends_ret (retV_1 rfl (.head _)) ain_nil
              · replace h := ite_f hc9 h
                refine WpC.conv (cvK (b := ⟨[(0, .p .str a0), (13, .p I6 ((a0.length : Int) : Int)), (14, .p I6 v2)], []⟩) [0, 13, 14] [] (by kernel_rfl)) (WpC.skip ?_)
                refine blockQ_normal ?_
                refine tnU ?_
                exact ⟨h, rfl⟩
          · rintro _ ⟨h, rfl⟩
            unfold names_Right.j7 at h
            refine rgU (st1 := ⟨[(0, .p .str a0), (13, .p I6 ((a0.length : Int) : Int)), (14, .p I6 ((IntKind.i64.wrap (v2 + 1)) : Int))], []⟩) [0, 13, 14] [] hN (.cons (sok_arith (U := Un) (rs := [(14, .p I6 v2)]) rfl rfl o0 (.int _ _ _) rfl) (.cons (mvU (v := .p I6 ((IntKind.i64.wrap (v2 + 1)) : Int)) rfl rfl) .nil)) (by kernel_rfl) (by kernel_rfl) (by kernel_rfl) (cvR _) ?_
            refine tnU ?_
            exact ⟨n, Nat.lt_succ_self n, (IntKind.i64.wrap (v2 + 1)), h, rfl⟩
        · replace h := ite_f hc6 h
          refine WpC.conv (cvK (b := ⟨[], []⟩) [] [] (by kernel_rfl)) (WpC.exit ?_)
          refine thenQ_exit ?_
          have hq := Option.some.inj h
          subst hq
          refine thenQ_exit ?_
          have h := hout5
          refine blockQ_hit ?_
          refine tnU ?_
          exact ⟨h, rfl⟩
    · rintro _ ⟨h, rfl⟩
      unfold names_Right.j1 at h
      refine WpC.seq ?_
      refine rgU (st1 := ⟨[(2, .p .bool true)], []⟩) [2] [] hN (.cons (moU (rs := []) rfl (.inr rfl) (.bool _ _)) .nil) (by kernel_rfl) (by kernel_rfl) (by kernel_rfl) (cvR _) ?_
      refine tnU ?_
      refine WpC.ret ?_
      have hq := Option.some.inj h
      subst hq
      exact ends_ret (retV_1 rfl (.head _)) ain_nil

theorem strings_Index.ok (O : Out) (k : Nat) (a0 : List UInt8) (a1 : List UInt8) (out : Int) (h : strings_Index.f k a0 a1 = some out) : COk Un O Try.prog 37 { ar := [.p .str a0, .p .str a1], r := .p I6 out } := by
  refine cok_of_wp Try.func37 rfl (k := 8) rfl (Nat.le_of_ble_eq_true rfl) (namesOk_pure rfl rfl rfl rfl) ?_
  intro B hN
  refine WpC.conv (cvK (b := ⟨[(0, .p .str a0), (1, .p .str a1)], []⟩) [0, 1] [] (by kernel_rfl)) ?_
  unfold strings_Index.f at h
  refine WpC.seq ?_
  refine rgU (st1 := ⟨[(0, .p .str a0), (1, .p .str a1)], []⟩) [0, 1] [] hN (.cons (moU (rs := []) rfl (.inr rfl) (.int _ _ _)) .nil) (by kernel_rfl) (by kernel_rfl) (by kernel_rfl) (cvR _) ?_
  refine tnU ?_
  refine WpC.seq ?_
  obtain ⟨v1, hv1, h⟩ := bind_some h
  refine rgU (st1 := ⟨[(4, .p I6 v1)], []⟩) [4] [] hN (.cons (mvU (v := .p .str a0) rfl rfl) (.cons (mvU (v := .p .str a1) rfl rfl) (.cons (sok_call (U := Un) (rs := [(5, .p .str a0), (6, .p .str a1)]) (vw := []) rfl rfl hb_53 (pIndex.ok O k a0 a1 v1 hv1) (.cons o0 (.cons o1 .nil)) (.cons (.same _) (.cons (.same _) .nil)) (by simp) (.inl rfl)) (.cons (mvA (v := .p I6 v1) rfl rfl) .nil)))) (by kernel_rfl) (by kernel_rfl) (by kernel_rfl) (cvR _) ?_
  refine tnU ?_
  refine WpC.ret ?_
  have hq := Option.some.inj h
  subst hq
  exact ends_ret (retV_1 rfl (.head _)) ain_nil

theorem strings_Contains.ok (O : Out) (k : Nat) (a0 : List UInt8) (a1 : List UInt8) (out : Bool) (h : strings_Contains.f k a0 a1 = some out) : COk Un O Try.prog 28 { ar := [.p .str a0, .p .str a1], r := .p .bool out } := by
  refine cok_of_wp Try.func28 rfl (k := 9) rfl (Nat.le_of_ble_eq_true rfl) (namesOk_pure rfl rfl rfl rfl) ?_
  intro B hN
  refine WpC.conv (cvK (b := ⟨[(0, .p .str a0), (1, .p .str a1)], []⟩) [0, 1] [] (by kernel_rfl)) ?_
  unfold strings_Contains.f at h
  refine WpC.seq ?_
  refine rgU (st1 := ⟨[(0, .p .str a0), (1, .p .str a1)], []⟩) [0, 1] [] hN (.cons (moU (rs := []) rfl (.inr rfl) (.bool _ _)) .nil) (by kernel_rfl) (by kernel_rfl) (by kernel_rfl) (cvR _) ?_
  refine tnU ?_
  refine WpC.seq ?_
  obtain ⟨v1, hv1, h⟩ := bind_some h
  refine rgU (st1 := ⟨[(4, .p .bool ((decide (v1 ≥ 0)) : Bool))], []⟩) [4] [] hN (.cons (mvU (v := .p .str a0) rfl rfl) (.cons (mvU (v := .p .str a1) rfl rfl) (.cons (caV (rs := [(5, .p .str a0), (6, .p .str a1)]) (vw := []) rfl rfl (.func _) hb_37 (strings_Index.ok O k a0 a1 v1 hv1) (.cons o0 (.cons o1 .nil)) (.cons (.same _) (.cons (.same _) .nil)) (by simp) (.inl rfl)) (.cons (cmU (rs := [(7, .p I6 v1)]) rfl rfl o0 (.int _ _ _) rfl) (.cons (mvA (v := .p .bool ((decide (v1 ≥ 0)) : Bool)) rfl rfl) .nil))))) (by kernel_rfl) (by kernel_rfl) (by kernel_rfl) (cvR _) ?_
  refine tnU ?_
  refine WpC.ret ?_
  have hq := Option.some.inj h
  subst hq
  exact ends_ret (retV_1 rfl (.head _)) ain_nil

theorem names_Member.ok (O : Out) (k : Nat) (a0 : List UInt8) (out : (List UInt8) × (List UInt8) × Bool) (h : names_Member.f k a0 = some out) : COk Un O Try.prog 17 { ar := [.p .str a0], r := .tup [.p .str out.1, .p .str out.2.1, .p .bool out.2.2] } := by
  refine cok_of_wp Try.func17 rfl (k := 48) rfl (Nat.le_of_ble_eq_true rfl) (namesOk_pure rfl rfl rfl rfl) ?_
  intro B hN
  refine WpC.conv (cvK (b := ⟨[(0, .p .str a0)], []⟩) [0] [] (by kernel_rfl)) ?_
  unfold names_Member.f at h
  refine WpC.seq ?_
  refine rgU (st1 := ⟨[(0, .p .str a0)], []⟩) [0] [] hN (.cons (moU (rs := []) rfl (.inr rfl) (.str _ _)) (.cons (moU (rs := []) rfl (.inr rfl) (.str _ _)) (.cons (moU (rs := []) rfl (.inr rfl) (.bool _ _)) .nil))) (by kernel_rfl) (by kernel_rfl) (by kernel_rfl) (cvR _) ?_
  refine tnU ?_
  refine WpC.seq ?_
  obtain ⟨v1, hv1, h⟩ := bind_some h
  refine rgU (st1 := ⟨[(0, .p .str a0), (5, .p .str v1.1), (6, .p .bool v1.2)], []⟩) [0, 5, 6] [] hN (.cons (mvU (v := .p .str a0) rfl rfl) (.cons (caV (rs := [(9, .p .str a0)]) (vw := []) rfl rfl (.func _) hb_25 (strings_CutSuffix.ok O k a0 ([41] : List UInt8) v1 hv1) (.cons o0 (.cons (.str _ _) .nil)) (.cons (.same _) (.cons (.same _) .nil)) (by simp) (.inl rfl)) (.cons (mvU (v := .tup [.p .str v1.1, .p .bool v1.2]) rfl rfl) (.cons (exU (rs := [(8, .tup [.p .str v1.1, .p .bool v1.2])]) rfl rfl o0 rfl) (.cons (exU (rs := [(8, .tup [.p .str v1.1, .p .bool v1.2])]) rfl rfl o0 rfl) (.cons (mvA (v := .p .str v1.1) rfl rfl) (.cons (mvA (v := .p .bool v1.2) rfl rfl) .nil))))))) (by kernel_rfl) (by kernel_rfl) (by kernel_rfl) (cvR _) ?_
  refine tnU ?_
  refine WpC.seq ?_
  obtain ⟨v2, hv2, h⟩ := bind_some h
  refine rgU (st1 := ⟨[(0, .p .str a0), (2, .p .str v2.1), (3, .p .str v2.2.1), (5, .p .str v1.1), (6, .p .bool v1.2), (7, .p .bool v2.2.2)], []⟩) [0, 2, 3, 5, 6, 7] [] hN (.cons (mvU (v := .p .str v1.1) rfl rfl) (.cons (caV (rs := [(14, .p .str v1.1)]) (vw := []) rfl rfl (.func _) hb_26 (strings_Cut.ok O k v1.1 ([40] : List UInt8) v2 hv2) (.cons o0 (.cons (.str _ _) .nil)) (.cons (.same _) (.cons (.same _) .nil)) (by simp) (.inl rfl)) (.cons (mvU (v := .tup [.p .str v2.1, .p .str v2.2.1, .p .bool v2.2.2]) rfl rfl) (.cons (exU (rs := [(13, .tup [.p .str v2.1, .p .str v2.2.1, .p .bool v2.2.2])]) rfl rfl o0 rfl) (.cons (exU (rs := [(13, .tup [.p .str v2.1, .p .str v2.2.1, .p .bool v2.2.2])]) rfl rfl o0 rfl) (.cons (exU (rs := [(13, .tup [.p .str v2.1, .p .str v2.2.1, .p .bool v2.2.2])]) rfl rfl o0 rfl) (.cons (mvA (v := .p .str v2.1) rfl rfl) (.cons (mvA (v := .p .str v2.2.1) rfl rfl) (.cons (mvA (v := .p .bool v2.2.2) rfl rfl) .nil))))))))) (by kernel_rfl) (by kernel_rfl) (by kernel_rfl) (cvR _) ?_
  refine tnU ?_
  refine sqJ (fun st' => names_Member.j3 k v2 = some out ∧ st' = ⟨[(2, .p .str v2.1), (3, .p .str v2.2.1)], []⟩) ?_ ?_
  · refine sqJ (fun st' => ∃ v4 : Bool, names_Member.j6 k v2 v4 = some out ∧ st' = ⟨[(2, .p .str v2.1), (3, .p .str v2.2.1), (45, .p .bool v4)], []⟩) ?_ ?_
    · obtain ⟨v7, hv7, h⟩ := bind_some h
      rcases bool_cases (!v7) with hc8 | hc8
      · replace h := ite_t hc8 h
        refine rgU (st1 := ⟨[(2, .p .str v2.1), (3, .p .str v2.2.1), (45, .p .bool true)], []⟩) [2, 3, 45] [] hN (.cons (mvU (v := .p .str a0) rfl rfl) (.cons (caV (rs := [(19, .p .str a0)]) (vw := []) rfl rfl (.func _) hb_27 (names_Right.ok O k a0 v7 hv7) (.cons o0 .nil) (.cons (.same _) .nil) (by simp) (.inl rfl)) (.cons (sok_not (U := Un) (rs := [(20, .p .bool v7)]) rfl rfl o0) (.cons (mvU (v := .p .bool ((!v7) : Bool)) rfl rfl) (.cons (skU rfl rfl hc8) (.cons (skU rfl rfl hc8) (.cons (pkT (rs := [(22, .p .bool ((!v7) : Bool))]) rfl rfl o0 hc8 (.bool _ _)) (.cons (mvU (v := .p .bool true) rfl rfl) (.cons (skU rfl rfl rfl) (.cons (skU rfl rfl rfl) (.cons (pkT (rs := [(26, .p .bool true)]) rfl rfl o0 rfl (.bool _ _)) (.cons (mvU (v := .p .bool true) rfl rfl) (.cons (skU rfl rfl rfl) (.cons (skU rfl rfl rfl) (.cons (pkT (rs := [(30, .p .bool true)]) rfl rfl o0 rfl (.bool _ _)) (.cons (mvU (v := .p .bool true) rfl rfl) (.cons (skU rfl rfl rfl) (.cons (skU rfl rfl rfl) (.cons (pkT (rs := [(34, .p .bool true)]) rfl rfl o0 rfl (.bool _ _)) (.cons (mvU (v := .p .bool true) rfl rfl) (.cons (skU rfl rfl rfl) (.cons (skU rfl rfl rfl) (.cons (pkT (rs := [(38, .p .bool true)]) rfl rfl o0 rfl (.bool _ _)) (.cons (mvU (v := .p .bool true) rfl rfl) (.cons (skU rfl rfl rfl) (.cons (skU rfl rfl rfl) (.cons (pkT (rs := [(42, .p .bool true)]) rfl rfl o0 rfl (.bool _ _)) .nil))))))))))))))))))))))))))) (by kernel_rfl) (by kernel_rfl) (by kernel_rfl) (cvR _) ?_
        refine tnU ?_
        exact ⟨true, h, rfl⟩
      · replace h := ite_f hc8 h
        rcases bool_cases (!v1.2) with hc9 | hc9
        · replace h := ite_t hc9 h
          refine rgU (st1 := ⟨[(2, .p .str v2.1), (3, .p .str v2.2.1), (45, .p .bool true)], []⟩) [2, 3, 45] [] hN (.cons (mvU (v := .p .str a0) rfl rfl) (.cons (caV (rs := [(19, .p .str a0)]) (vw := []) rfl rfl (.func _) hb_27 (names_Right.ok O k a0 v7 hv7) (.cons o0 .nil) (.cons (.same _) .nil) (by simp) (.inl rfl)) (.cons (sok_not (U := Un) (rs := [(20, .p .bool v7)]) rfl rfl o0) (.cons (mvU (v := .p .bool ((!v7) : Bool)) rfl rfl) (.cons (sok_run rfl rfl hc8 (mvU (v := .p .bool v1.2) rfl rfl)) (.cons (sok_run rfl rfl hc8 (sok_not (U := Un) (rs := [(23, .p .bool v1.2)]) rfl rfl o0)) (.cons (pkF (rs := [(22, .p .bool ((!v7) : Bool)), (24, .p .bool ((!v1.2) : Bool))]) rfl rfl o0 hc8 o1) (.cons (mvU (v := .p .bool ((!v1.2) : Bool)) rfl rfl) (.cons (skU rfl rfl hc9) (.cons (skU rfl rfl hc9) (.cons (pkT (rs := [(26, .p .bool ((!v1.2) : Bool))]) rfl rfl o0 hc9 (.bool _ _)) (.cons (mvU (v := .p .bool true) rfl rfl) (.cons (skU rfl rfl rfl) (.cons (skU rfl rfl rfl) (.cons (pkT (rs := [(30, .p .bool true)]) rfl rfl o0 rfl (.bool _ _)) (.cons (mvU (v := .p .bool true) rfl rfl) (.cons (skU rfl rfl rfl) (.cons (skU rfl rfl rfl) (.cons (pkT (rs := [(34, .p .bool true)]) rfl rfl o0 rfl (.bool _ _)) (.cons (mvU (v := .p .bool true) rfl rfl) (.cons (skU rfl rfl rfl) (.cons (skU rfl rfl rfl) (.cons (pkT (rs := [(38, .p .bool true)]) rfl rfl o0 rfl (.bool _ _)) (.cons (mvU (v := .p .bool true) rfl rfl) (.cons (skU rfl rfl rfl) (.cons (skU rfl rfl rfl) (.cons (pkT (rs := [(42, .p .bool true)]) rfl rfl o0 rfl (.bool _ _)) .nil))))))))))))))))))))))))))) (by kernel_rfl) (by kernel_rfl) (by kernel_rfl) (cvR _) ?_
          refine tnU ?_
          exact ⟨true, h, rfl⟩
        · replace h := ite_f hc9 h
          rcases bool_cases (!v2.2.2) with hc10 | hc10
          · replace h := ite_t hc10 h
            refine rgU (st1 := ⟨[(2, .p .str v2.1), (3, .p .str v2.2.1), (45, .p .bool true)], []⟩) [2, 3, 45] [] hN (.cons (mvU (v := .p .str a0) rfl rfl) (.cons (caV (rs := [(19, .p .str a0)]) (vw := []) rfl rfl (.func _) hb_27 (names_Right.ok O k a0 v7 hv7) (.cons o0 .nil) (.cons (.same _) .nil) (by simp) (.inl rfl)) (.cons (sok_not (U := Un) (rs := [(20, .p .bool v7)]) rfl rfl o0) (.cons (mvU (v := .p .bool ((!v7) : Bool)) rfl rfl) (.cons (sok_run rfl rfl hc8 (mvU (v := .p .bool v1.2) rfl rfl)) (.cons (sok_run rfl rfl hc8 (sok_not (U := Un) (rs := [(23, .p .bool v1.2)]) rfl rfl o0)) (.cons (pkF (rs := [(22, .p .bool ((!v7) : Bool)), (24, .p .bool ((!v1.2) : Bool))]) rfl rfl o0 hc8 o1) (.cons (mvU (v := .p .bool ((!v1.2) : Bool)) rfl rfl) (.cons (sok_run rfl rfl hc9 (mvU (v := .p .bool v2.2.2) rfl rfl)) (.cons (sok_run rfl rfl hc9 (sok_not (U := Un) (rs := [(27, .p .bool v2.2.2)]) rfl rfl o0)) (.cons (pkF (rs := [(26, .p .bool ((!v1.2) : Bool)), (28, .p .bool ((!v2.2.2) : Bool))]) rfl rfl o0 hc9 o1) (.cons (mvU (v := .p .bool ((!v2.2.2) : Bool)) rfl rfl) (.cons (skU rfl rfl hc10) (.cons (skU rfl rfl hc10) (.cons (pkT (rs := [(30, .p .bool ((!v2.2.2) : Bool))]) rfl rfl o0 hc10 (.bool _ _)) (.cons (mvU (v := .p .bool true) rfl rfl) (.cons (skU rfl rfl rfl) (.cons (skU rfl rfl rfl) (.cons (pkT (rs := [(34, .p .bool true)]) rfl rfl o0 rfl (.bool _ _)) (.cons (mvU (v := .p .bool true) rfl rfl) (.cons (skU rfl rfl rfl) (.cons (skU rfl rfl rfl) (.cons (pkT (rs := [(38, .p .bool true)]) rfl rfl o0 rfl (.bool _ _)) (.cons (mvU (v := .p .bool true) rfl rfl) (.cons (skU rfl rfl rfl) (.cons (skU rfl rfl rfl) (.cons (pkT (rs := [(42, .p .bool true)]) rfl rfl o0 rfl (.bool _ _)) .nil))))))))))))))))))))))))))) (by kernel_rfl) (by kernel_rfl) (by kernel_rfl) (cvR _) ?_
            refine tnU ?_
            exact ⟨true, h, rfl⟩
          · replace h := ite_f hc10 h
            rcases bool_cases (v2.1 == ([] : List UInt8)) with hc11 | hc11
            · replace h := ite_t hc11 h
              refine rgU (st1 := ⟨[(2, .p .str v2.1), (3, .p .str v2.2.1), (45, .p .bool true)], []⟩) [2, 3, 45] [] hN (.cons (mvU (v := .p .str a0) rfl rfl) (.cons (caV (rs := [(19, .p .str a0)]) (vw := []) rfl rfl (.func _) hb_27 (names_Right.ok O k a0 v7 hv7) (.cons o0 .nil) (.cons (.same _) .nil) (by simp) (.inl rfl)) (.cons (sok_not (U := Un) (rs := [(20, .p .bool v7)]) rfl rfl o0) (.cons (mvU (v := .p .bool ((!v7) : Bool)) rfl rfl) (.cons (sok_run rfl rfl hc8 (mvU (v := .p .bool v1.2) rfl rfl)) (.cons (sok_run rfl rfl hc8 (sok_not (U := Un) (rs := [(23, .p .bool v1.2)]) rfl rfl o0)) (.cons (pkF (rs := [(22, .p .bool ((!v7) : Bool)), (24, .p .bool ((!v1.2) : Bool))]) rfl rfl o0 hc8 o1) (.cons (mvU (v := .p .bool ((!v1.2) : Bool)) rfl rfl) (.cons (sok_run rfl rfl hc9 (mvU (v := .p .bool v2.2.2) rfl rfl)) (.cons (sok_run rfl rfl hc9 (sok_not (U := Un) (rs := [(27, .p .bool v2.2.2)]) rfl rfl o0)) (.cons (pkF (rs := [(26, .p .bool ((!v1.2) : Bool)), (28, .p .bool ((!v2.2.2) : Bool))]) rfl rfl o0 hc9 o1) (.cons (mvU (v := .p .bool ((!v2.2.2) : Bool)) rfl rfl) (.cons (sok_run rfl rfl hc10 (mvU (v := .p .str v2.1) rfl rfl)) (.cons (sok_run rfl rfl hc10 (sok_cmpS (U := Un) (rs := [(31, .p .str v2.1)]) rfl rfl o0 (.str _ _) rfl)) (.cons (pkF (rs := [(30, .p .bool ((!v2.2.2) : Bool)), (32, .p .bool ((v2.1 == ([] : List UInt8)) : Bool))]) rfl rfl o0 hc10 o1) (.cons (mvU (v := .p .bool ((v2.1 == ([] : List UInt8)) : Bool)) rfl rfl) (.cons (skU rfl rfl hc11) (.cons (skU rfl rfl hc11) (.cons (pkT (rs := [(34, .p .bool ((v2.1 == ([] : List UInt8)) : Bool))]) rfl rfl o0 hc11 (.bool _ _)) (.cons (mvU (v := .p .bool true) rfl rfl) (.cons (skU rfl rfl rfl) (.cons (skU rfl rfl rfl) (.cons (pkT (rs := [(38, .p .bool true)]) rfl rfl o0 rfl (.bool _ _)) (.cons (mvU (v := .p .bool true) rfl rfl) (.cons (skU rfl rfl rfl) (.cons (skU rfl rfl rfl) (.cons (pkT (rs := [(42, .p .bool true)]) rfl rfl o0 rfl (.bool _ _)) .nil))))))))))))))))))))))))))) (by kernel_rfl) (by kernel_rfl) (by kernel_rfl) (cvR _) ?_
              refine tnU ?_
              exact ⟨true, h, rfl⟩
            · replace h := ite_f hc11 h
              rcases bool_cases (v2.2.1 == ([] : List UInt8)) with hc12 | hc12
              · replace h := ite_t hc12 h
                refine rgU (st1 := ⟨[(2, .p .str v2.1), (3, .p .str v2.2.1), (45, .p .bool true)], []⟩) [2, 3, 45] [] hN (.cons (mvU (v := .p .str a0) rfl rfl) (.cons (caV (rs := [(19, .p .str a0)]) (vw := []) rfl rfl (.func _) hb_27 (names_Right.ok O k a0 v7 hv7) (.cons o0 .nil) (.cons (.same _) .nil) (by simp) (.inl rfl)) (.cons (sok_not (U := Un) (rs := [(20, .p .bool v7)]) rfl rfl o0) (.cons (mvU (v := .p .bool ((!v7) : Bool)) rfl rfl) (.cons (sok_run rfl rfl hc8 (mvU (v := .p .bool v1.2) rfl rfl)) (.cons (sok_run rfl rfl hc8 (sok_not (U := Un) (rs := [(23, .p .bool v1.2)]) rfl rfl o0)) (.cons (pkF (rs := [(22, .p .bool ((!v7) : Bool)), (24, .p .bool ((!v1.2) : Bool))]) rfl rfl o0 hc8 o1) (.cons (mvU (v := .p .bool ((!v1.2) : Bool)) rfl rfl) (.cons (sok_run rfl rfl hc9 (mvU (v := .p .bool v2.2.2) rfl rfl)) (.cons (sok_run rfl rfl hc9 (sok_not (U := Un) (rs := [(27, .p .bool v2.2.2)]) rfl rfl o0)) (.cons (pkF (rs := [(26, .p .bool ((!v1.2) : Bool)), (28, .p .bool ((!v2.2.2) : Bool))]) rfl rfl o0 hc9 o1) (.cons (mvU (v := .p .bool ((!v2.2.2) : Bool)) rfl rfl) (.cons (sok_run rfl rfl hc10 (mvU (v := .p .str v2.1) rfl rfl)) (.cons (sok_run rfl rfl hc10 (sok_cmpS (U := Un) (rs := [(31, .p .str v2.1)]) rfl rfl o0 (.str _ _) rfl)) (.cons (pkF (rs := [(30, .p .bool ((!v2.2.2) : Bool)), (32, .p .bool ((v2.1 == ([] : List UInt8)) : Bool))]) rfl rfl o0 hc10 o1) (.cons (mvU (v := .p .bool ((v2.1 == ([] : List UInt8)) : Bool)) rfl rfl) (.cons (sok_run rfl rfl hc11 (mvU (v := .p .str v2.2.1) rfl rfl)) (.cons (sok_run rfl rfl hc11 (sok_cmpS (U := Un) (rs := [(35, .p .str v2.2.1)]) rfl rfl o0 (.str _ _) rfl)) (.cons (pkF (rs := [(34, .p .bool ((v2.1 == ([] : List UInt8)) : Bool)), (36, .p .bool ((v2.2.1 == ([] : List UInt8)) : Bool))]) rfl rfl o0 hc11 o1) (.cons (mvU (v := .p .bool ((v2.2.1 == ([] : List UInt8)) : Bool)) rfl rfl) (.cons (skU rfl rfl hc12) (.cons (skU rfl rfl hc12) (.cons (pkT (rs := [(38, .p .bool ((v2.2.1 == ([] : List UInt8)) : Bool))]) rfl rfl o0 hc12 (.bool _ _)) (.cons (mvU (v := .p .bool true) rfl rfl) (.cons (skU rfl rfl rfl) (.cons (skU rfl rfl rfl) (.cons (pkT (rs := [(42, .p .bool true)]) rfl rfl o0 rfl (.bool _ _)) .nil))))))))))))))))))))))))))) (by kernel_rfl) (by kernel_rfl) (by kernel_rfl) (cvR _) ?_
                refine tnU ?_
                exact ⟨true, h, rfl⟩
              · replace h := ite_f hc12 h
                obtain ⟨v13, hv13, h⟩ := bind_some h
                rcases bool_cases v13 with hc14 | hc14
                · replace h := ite_t hc14 h
                  refine rgU (st1 := ⟨[(2, .p .str v2.1), (3, .p .str v2.2.1), (45, .p .bool true)], []⟩) [2, 3, 45] [] hN (.cons (mvU (v := .p .str a0) rfl rfl) (.cons (caV (rs := [(19, .p .str a0)]) (vw := []) rfl rfl (.func _) hb_27 (names_Right.ok O k a0 v7 hv7) (.cons o0 .nil) (.cons (.same _) .nil) (by simp) (.inl rfl)) (.cons (sok_not (U := Un) (rs := [(20, .p .bool v7)]) rfl rfl o0) (.cons (mvU (v := .p .bool ((!v7) : Bool)) rfl rfl) (.cons (sok_run rfl rfl hc8 (mvU (v := .p .bool v1.2) rfl rfl)) (.cons (sok_run rfl rfl hc8 (sok_not (U := Un) (rs := [(23, .p .bool v1.2)]) rfl rfl o0)) (.cons (pkF (rs := [(22, .p .bool ((!v7) : Bool)), (24, .p .bool ((!v1.2) : Bool))]) rfl rfl o0 hc8 o1) (.cons (mvU (v := .p .bool ((!v1.2) : Bool)) rfl rfl) (.cons (sok_run rfl rfl hc9 (mvU (v := .p .bool v2.2.2) rfl rfl)) (.cons (sok_run rfl rfl hc9 (sok_not (U := Un) (rs := [(27, .p .bool v2.2.2)]) rfl rfl o0)) (.cons (pkF (rs := [(26, .p .bool ((!v1.2) : Bool)), (28, .p .bool ((!v2.2.2) : Bool))]) rfl rfl o0 hc9 o1) (.cons (mvU (v := .p .bool ((!v2.2.2) : Bool)) rfl rfl) (.cons (sok_run rfl rfl hc10 (mvU (v := .p .str v2.1) rfl rfl)) (.cons (sok_run rfl rfl hc10 (sok_cmpS (U := Un) (rs := [(31, .p .str v2.1)]) rfl rfl o0 (.str _ _) rfl)) (.cons (pkF (rs := [(30, .p .bool ((!v2.2.2) : Bool)), (32, .p .bool ((v2.1 == ([] : List UInt8)) : Bool))]) rfl rfl o0 hc10 o1) (.cons (mvU (v := .p .bool ((v2.1 == ([] : List UInt8)) : Bool)) rfl rfl) (.cons (sok_run rfl rfl hc11 (mvU (v := .p .str v2.2.1) rfl rfl)) (.cons (sok_run rfl rfl hc11 (sok_cmpS (U := Un) (rs := [(35, .p .str v2.2.1)]) rfl rfl o0 (.str _ _) rfl)) (.cons (pkF (rs := [(34, .p .bool ((v2.1 == ([] : List UInt8)) : Bool)), (36, .p .bool ((v2.2.1 == ([] : List UInt8)) : Bool))]) rfl rfl o0 hc11 o1) (.cons (mvU (v := .p .bool ((v2.2.1 == ([] : List UInt8)) : Bool)) rfl rfl) (.cons (sok_run rfl rfl hc12 (mvU (v := .p .str v2.2.1) rfl rfl)) (.cons (sok_run rfl rfl hc12 (caV (rs := [(39, .p .str v2.2.1)]) (vw := []) rfl rfl (.func _) hb_28 (strings_Contains.ok O k v2.2.1 ([40] : List UInt8) v13 hv13) (.cons o0 (.cons (.str _ _) .nil)) (.cons (.same _) (.cons (.same _) .nil)) (by simp) (.inl rfl))) (.cons (pkF (rs := [(38, .p .bool ((v2.2.1 == ([] : List UInt8)) : Bool)), (40, .p .bool v13)]) rfl rfl o0 hc12 o1) (.cons (mvU (v := .p .bool v13) rfl rfl) (.cons (skU rfl rfl hc14) (.cons (skU rfl rfl hc14) (.cons (pkT (rs := [(42, .p .bool v13)]) rfl rfl o0 hc14 (.bool _ _)) .nil))))))))))))))))))))))))))) (by kernel_rfl) (by kernel_rfl) (by kernel_rfl) (cvR _) ?_
                  refine tnU ?_
                  exact ⟨true, h, rfl⟩
                · replace h := ite_f hc14 h
                  obtain ⟨v15, hv15, h⟩ := bind_some h
                  refine rgU (st1 := ⟨[(2, .p .str v2.1), (3, .p .str v2.2.1), (45, .p .bool v15)], []⟩) [2, 3, 45] [] hN (.cons (mvU (v := .p .str a0) rfl rfl) (.cons (caV (rs := [(19, .p .str a0)]) (vw := []) rfl rfl (.func _) hb_27 (names_Right.ok O k a0 v7 hv7) (.cons o0 .nil) (.cons (.same _) .nil) (by simp) (.inl rfl)) (.cons (sok_not (U := Un) (rs := [(20, .p .bool v7)]) rfl rfl o0) (.cons (mvU (v := .p .bool ((!v7) : Bool)) rfl rfl) (.cons (sok_run rfl rfl hc8 (mvU (v := .p .bool v1.2) rfl rfl)) (.cons (sok_run rfl rfl hc8 (sok_not (U := Un) (rs := [(23, .p .bool v1.2)]) rfl rfl o0)) (.cons (pkF (rs := [(22, .p .bool ((!v7) : Bool)), (24, .p .bool ((!v1.2) : Bool))]) rfl rfl o0 hc8 o1) (.cons (mvU (v := .p .bool ((!v1.2) : Bool)) rfl rfl) (.cons (sok_run rfl rfl hc9 (mvU (v := .p .bool v2.2.2) rfl rfl)) (.cons (sok_run rfl rfl hc9 (sok_not (U := Un) (rs := [(27, .p .bool v2.2.2)]) rfl rfl o0)) (.cons (pkF (rs := [(26, .p .bool ((!v1.2) : Bool)), (28, .p .bool ((!v2.2.2) : Bool))]) rfl rfl o0 hc9 o1) (.cons (mvU (v := .p .bool ((!v2.2.2) : Bool)) rfl rfl) (.cons (sok_run rfl rfl hc10 (mvU (v := .p .str v2.1) rfl rfl)) (.cons (sok_run rfl rfl hc10 (sok_cmpS (U := Un) (rs := [(31, .p .str v2.1)]) rfl rfl o0 (.str _ _) rfl)) (.cons (pkF (rs := [(30, .p .bool ((!v2.2.2) : Bool)), (32, .p .bool ((v2.1 == ([] : List UInt8)) : Bool))]) rfl rfl o0 hc10 o1) (.cons (mvU (v := .p .bool ((v2.1 == ([] : List UInt8)) : Bool)) rfl rfl) (.cons (sok_run rfl rfl hc11 (mvU (v := .p .str v2.2.1) rfl rfl)) (.cons (sok_run rfl rfl hc11 (sok_cmpS (U := Un) (rs := [(35, .p .str v2.2.1)]) rfl rfl o0 (.str _ _) rfl)) (.cons (pkF (rs := [(34, .p .bool ((v2.1 == ([] : List UInt8)) : Bool)), (36, .p .bool ((v2.2.1 == ([] : List UInt8)) : Bool))]) rfl rfl o0 hc11 o1) (.cons (mvU (v := .p .bool ((v2.2.1 == ([] : List UInt8)) : Bool)) rfl rfl) (.cons (sok_run rfl rfl hc12 (mvU (v := .p .str v2.2.1) rfl rfl)) (.cons (sok_run rfl rfl hc12 (caV (rs := [(39, .p .str v2.2.1)]) (vw := []) rfl rfl (.func _) hb_28 (strings_Contains.ok O k v2.2.1 ([40] : List UInt8) v13 hv13) (.cons o0 (.cons (.str _ _) .nil)) (.cons (.same _) (.cons (.same _) .nil)) (by simp) (.inl rfl))) (.cons (pkF (rs := [(38, .p .bool ((v2.2.1 == ([] : List UInt8)) : Bool)), (40, .p .bool v13)]) rfl rfl o0 hc12 o1) (.cons (mvU (v := .p .bool v13) rfl rfl) (.cons (sok_run rfl rfl hc14 (mvU (v := .p .str v1.1) rfl rfl)) (.cons (sok_run rfl rfl hc14 (caV (rs := [(43, .p .str v1.1)]) (vw := []) rfl rfl (.func _) hb_28 (strings_Contains.ok O k v1.1 ([41] : List UInt8) v15 hv15) (.cons o0 (.cons (.str _ _) .nil)) (.cons (.same _) (.cons (.same _) .nil)) (by simp) (.inl rfl))) (.cons (pkF (rs := [(42, .p .bool v13), (44, .p .bool v15)]) rfl rfl o0 hc14 o1) .nil))))))))))))))))))))))))))) (by kernel_rfl) (by kernel_rfl) (by kernel_rfl) (cvR _) ?_
                  refine tnU ?_
                  exact ⟨v15, h, rfl⟩
    · rintro _ ⟨v4, h, rfl⟩
      unfold names_Member.j6 at h
      refine cdU (b := v4) (.tmp (.tail _ (.tail _ (.head _)))) (fun hc5 => ?_) (fun hc5 => ?_)
      · replace h := ite_t hc5 h
        refine WpC.seq ?_
        refine rgU (st1 := ⟨[(2, .p .str (([] : List UInt8) : List UInt8)), (3, .p .str (([] : List UInt8) : List UInt8)), (4, .p .bool false)], []⟩) [2, 3, 4] [] hN (.cons (moU (rs := []) rfl (.inr rfl) (.str _ _)) (.cons (moU (rs := []) rfl (.inr rfl) (.str _ _)) (.cons (moU (rs := []) rfl (.inr rfl) (.bool _ _)) .nil))) (by kernel_rfl) (by kernel_rfl) (by kernel_rfl) (cvR _) ?_
        refine tnU ?_
        refine WpC.ret ?_
        refine thenQ_ret ?_
        have hq := Option.some.inj h
        subst hq
        exact ends_ret (retV_3 rfl (.head _) (.tail _ (.head _)) (.tail _ (.tail _ (.head _)))) ain_nil
      · replace h := ite_f hc5 h
        refine WpC.conv (cvK (b := ⟨[(2, .p .str v2.1), (3, .p .str v2.2.1)], []⟩) [2, 3] [] (by kernel_rfl)) (WpC.skip ?_)
        refine tnU ?_
        exact ⟨h, rfl⟩
  · rintro _ ⟨h, rfl⟩
    unfold names_Member.j3 at h
    refine WpC.seq ?_
    refine rgU (st1 := ⟨[(2, .p .str v2.1), (3, .p .str v2.2.1), (4, .p .bool true)], []⟩) [2, 3, 4] [] hN (.cons (mvU (v := .p .str v2.1) rfl rfl) (.cons (mvU (v := .p .str v2.2.1) rfl rfl) (.cons (mvA (v := .p .str v2.1) rfl rfl) (.cons (mvA (v := .p .str v2.2.1) rfl rfl) (.cons (moU (rs := []) rfl (.inr rfl) (.bool _ _)) .nil))))) (by kernel_rfl) (by kernel_rfl) (by kernel_rfl) (cvR _) ?_
    refine tnU ?_
    refine WpC.ret ?_
    have hq := Option.some.inj h
    subst hq
    exact ends_ret (retV_3 rfl (.head _) (.tail _ (.head _)) (.tail _ (.tail _ (.head _)))) ain_nil

theorem bytealg_LastIndexByteString.ok (O : Out) (k : Nat) (a0 : List UInt8) (a1 : Int) (out : Int) (h : bytealg_LastIndexByteString.f k a0 a1 = some out) : COk Un O Try.prog 39 { ar := [.p .str a0, .p (.int .u8) a1], r := .p I6 out } := by
  refine cok_of_wp Try.func39 rfl (k := 19) rfl (Nat.le_of_ble_eq_true rfl) (namesOk_pure rfl rfl rfl rfl) ?_
  intro B hN
  refine WpC.conv (cvK (b := ⟨[(0, .p .str a0), (1, .p (.int .u8) a1)], []⟩) [0, 1] [] (by kernel_rfl)) ?_
  unfold bytealg_LastIndexByteString.f at h
  refine WpC.seq ?_
  refine rgU (st1 := ⟨[(0, .p .str a0), (1, .p (.int .u8) a1)], []⟩) [0, 1] [] hN (.cons (moU (rs := []) rfl (.inr rfl) (.int _ _ _)) .nil) (by kernel_rfl) (by kernel_rfl) (by kernel_rfl) (cvR _) ?_
  refine tnU ?_
  refine sqJ (fun st' => bytealg_LastIndexByteString.j1 k = some out ∧ st' = ⟨[], []⟩) ?_ ?_
  · refine WpC.seq ?_
    refine rgU (st1 := ⟨[(0, .p .str a0), (1, .p (.int .u8) a1), (5, .p I6 ((IntKind.i64.wrap ((a0.length : Int) - 1)) : Int))], []⟩) [0, 1, 5] [] hN (.cons (mvU (v := .p .str a0) rfl rfl) (.cons (sok_lenS (U := Un) (rs := [(6, .p .str a0)]) rfl rfl Try.underlying9 o0) (.cons (sok_arith (U := Un) (rs := [(7, .p I6 ((a0.length : Int) : Int))]) rfl rfl o0 (.int _ _ _) rfl) (.cons (mvA (v := .p I6 ((IntKind.i64.wrap ((a0.length : Int) - 1)) : Int)) rfl rfl) .nil)))) (by kernel_rfl) (by kernel_rfl) (by kernel_rfl) (cvR _) ?_
    refine tnU ?_
    refine WpC.block ?_
    obtain ⟨o4, hlo4, h⟩ := bind_some h
    have hout5 := h
    clear h
    refine WpC.loop (U := Un) (fun n st' => ∃ v2 : Int, bytealg_LastIndexByteString.l3 k a0 a1 n v2 = some o4 ∧ st' = ⟨[(0, .p .str a0), (1, .p (.int .u8) a1), (5, .p I6 v2)], []⟩) k ⟨(IntKind.i64.wrap ((a0.length : Int) - 1)), hlo4, rfl⟩ ?_
    clear hlo4
    rintro (_ | n) _ ⟨v2, h, rfl⟩
    · cases h
    · rw [bytealg_LastIndexByteString.l3] at h
      refine WpC.seq ?_
      refine WpC.seq ?_
      refine rgU (st1 := ⟨[(0, .p .str a0), (1, .p (.int .u8) a1), (5, .p I6 v2), (10, .p .bool ((decide (v2 ≥ 0)) : Bool))], []⟩) [0, 1, 5, 10] [] hN (.cons (mvU (v := .p I6 v2) rfl rfl) (.cons (cmU (rs := [(9, .p I6 v2)]) rfl rfl o0 (.int _ _ _) rfl) .nil)) (by kernel_rfl) (by kernel_rfl) (by kernel_rfl) (cvR _) ?_
      refine tnU ?_
      refine cdU (b := (decide (v2 ≥ 0))) (.tmp (.tail _ (.tail _ (.tail _ (.head _))))) (fun hc6 => ?_) (fun hc6 => ?_)
      · replace h := ite_t hc6 h
        refine WpC.conv (cvK (b := ⟨[(0, .p .str a0), (1, .p (.int .u8) a1), (5, .p I6 v2)], []⟩) [0, 1, 5] [] (by kernel_rfl)) (WpC.skip ?_)
        refine tnU ?_
        refine WpC.seq ?_
        refine WpC.block ?_
        refine WpC.seq ?_
        obtain ⟨v7, hv7, h⟩ := bind_some h
        refine rgU (st1 := ⟨[(0, .p .str a0), (1, .p (.int .u8) a1), (5, .p I6 v2), (17, .p .bool (((v7.toNat : Int) == a1) : Bool))], []⟩) [0, 1, 5, 17] [] hN (.cons (mvU (v := .p .str a0) rfl rfl) (.cons (mvU (v := .p I6 v2) rfl rfl) (.cons (sok_indexS (U := Un) (rs := [(13, .p .str a0), (14, .p I6 v2)]) rfl rfl Try.underlying9 o0 o1 hv7) (.cons (mvU (v := .p (.int .u8) a1) rfl rfl) (.cons (cmU (rs := [(15, .p (.int .u8) ((v7.toNat : Int) : Int)), (16, .p (.int .u8) a1)]) rfl rfl o0 o1 rfl) .nil))))) (by kernel_rfl) (by kernel_rfl) (by kernel_rfl) (cvR _) ?_
        refine tnU ?_
        refine cdU (b := ((v7.toNat : Int) == a1)) (.tmp (.tail _ (.tail _ (.tail _ (.head _))))) (fun hc8 => ?_) (fun hc8 => ?_)
        · replace h := ite_t hc8 h
          refine WpC.seq ?_
          refine rgU (st1 := ⟨[(4, .p I6 v2)], []⟩) [4] [] hN (.cons (mvU (v := .p I6 v2) rfl rfl) (.cons (mvA (v := .p I6 v2) rfl rfl) .nil)) (by kernel_rfl) (by kernel_rfl) (by kernel_rfl) (cvR _) ?_
          refine tnU ?_
          refine WpC.ret ?_
          refine blockQ_ret ?_
          refine thenQ_ret ?_
          have hq := Option.some.inj h
          subst hq
          refine thenQ_ret ?_
          have h := hout5
          refine blockQ_ret ?_
          refine thenQ_ret ?_
          have hq := Option.some.inj h
          subst hq
          exact ends_ret (retV_1 rfl (.head _)) ain_nil
        · replace h := ite_f hc8 h
          refine WpC.conv (cvK (b := ⟨[(0, .p .str a0), (1, .p (.int .u8) a1), (5, .p I6 v2)], []⟩) [0, 1, 5] [] (by kernel_rfl)) (WpC.skip ?_)
          refine blockQ_normal ?_
          refine tnU ?_
          refine rgU (st1 := ⟨[(0, .p .str a0), (1, .p (.int .u8) a1), (5, .p I6 ((IntKind.i64.wrap (v2 - 1)) : Int))], []⟩) [0, 1, 5] [] hN (.cons (mvU (v := .p I6 v2) rfl rfl) (.cons (sok_arith (U := Un) (rs := [(11, .p I6 v2)]) rfl rfl o0 (.int _ _ _) rfl) (.cons (mvA (v := .p I6 ((IntKind.i64.wrap (v2 - 1)) : Int)) rfl rfl) .nil))) (by kernel_rfl) (by kernel_rfl) (by kernel_rfl) (cvR _) ?_
          refine tnU ?_
          exact ⟨n, Nat.lt_succ_self n, (IntKind.i64.wrap (v2 - 1)), h, rfl⟩
      · replace h := ite_f hc6 h
        refine WpC.conv (cvK (b := ⟨[], []⟩) [] [] (by kernel_rfl)) (WpC.exit ?_)
        refine thenQ_exit ?_
        have hq := Option.some.inj h
        subst hq
        refine thenQ_exit ?_
        have h := hout5
        refine blockQ_hit ?_
        refine tnU ?_
        exact ⟨h, rfl⟩
  · rintro _ ⟨h, rfl⟩
    unfold bytealg_LastIndexByteString.j1 at h
    refine WpC.seq ?_
    refine rgU (st1 := ⟨[(4, .p I6 ((-1) : Int))], []⟩) [4] [] hN (.cons (moU (rs := []) rfl (.inr rfl) (.int _ _ _)) .nil) (by kernel_rfl) (by kernel_rfl) (by kernel_rfl) (cvR _) ?_
    refine tnU ?_
    refine WpC.ret ?_
    have hq := Option.some.inj h
    subst hq
    exact ends_ret (retV_1 rfl (.head _)) ain_nil

theorem strings_LastIndex.ok (O : Out) (k : Nat) (a0 : List UInt8) (a1 : List UInt8) (out : Int) (h : strings_LastIndex.f k a0 a1 = some out) : COk Un O Try.prog 30 { ar := [.p .str a0, .p .str a1], r := .p I6 out } := by
  refine cok_of_wp Try.func30 rfl (k := 36) rfl (Nat.le_of_ble_eq_true rfl) (namesOk_pure rfl rfl rfl rfl) ?_
  intro B hN
  refine WpC.conv (cvK (b := ⟨[(0, .p .str a0), (1, .p .str a1)], []⟩) [0, 1] [] (by kernel_rfl)) ?_
  unfold strings_LastIndex.f at h
  refine WpC.seq ?_
  refine rgU (st1 := ⟨[(0, .p .str a0), (1, .p .str a1)], []⟩) [0, 1] [] hN (.cons (moU (rs := []) rfl (.inr rfl) (.int _ _ _)) .nil) (by kernel_rfl) (by kernel_rfl) (by kernel_rfl) (cvR _) ?_
  refine tnU ?_
  refine WpC.seq ?_
  refine rgU (st1 := ⟨[(0, .p .str a0), (1, .p .str a1), (5, .p I6 ((a1.length : Int) : Int))], []⟩) [0, 1, 5] [] hN (.cons (mvU (v := .p .str a1) rfl rfl) (.cons (sok_lenS (U := Un) (rs := [(6, .p .str a1)]) rfl rfl Try.underlying9 o0) (.cons (mvA (v := .p I6 ((a1.length : Int) : Int)) rfl rfl) .nil))) (by kernel_rfl) (by kernel_rfl) (by kernel_rfl) (cvR _) ?_
  refine tnU ?_
  refine WpC.seq ?_
  refine WpC.block ?_
  refine WpC.seq ?_
  refine rgU (st1 := ⟨[(0, .p .str a0), (1, .p .str a1), (5, .p I6 ((a1.length : Int) : Int)), (8, .p .bool (((a1.length : Int) == 0) : Bool))], []⟩) [0, 1, 5, 8] [] hN (.cons (mvU (v := .p I6 ((a1.length : Int) : Int)) rfl rfl) (.cons (cmU (rs := [(9, .p I6 ((a1.length : Int) : Int))]) rfl rfl o0 (.int _ _ _) rfl) (.cons (mvA (v := .p .bool (((a1.length : Int) == 0) : Bool)) rfl rfl) .nil))) (by kernel_rfl) (by kernel_rfl) (by kernel_rfl) (cvR _) ?_
  refine tnU ?_
  refine cdU (b := ((a1.length : Int) == 0)) (.tmp (.tail _ (.tail _ (.tail _ (.head _))))) (fun hc1 => ?_) (fun hc1 => ?_)
  · replace h := ite_t hc1 h
    refine WpC.seq ?_
    refine rgU (st1 := ⟨[(4, .p I6 ((a0.length : Int) : Int))], []⟩) [4] [] hN (.cons (mvU (v := .p .str a0) rfl rfl) (.cons (sok_lenS (U := Un) (rs := [(11, .p .str a0)]) rfl rfl Try.underlying9 o0) (.cons (mvA (v := .p I6 ((a0.length : Int) : Int)) rfl rfl) .nil))) (by kernel_rfl) (by kernel_rfl) (by kernel_rfl) (cvR _) ?_
    refine tnU ?_
    refine WpC.ret ?_
    refine blockQ_ret ?_
    refine thenQ_ret ?_
    have hq := Option.some.inj h
    subst hq
    exact ends_ret (retV_1 rfl (.head _)) ain_nil
  · replace h := ite_f hc1 h
    refine WpC.seq ?_
    refine rgU (st1 := ⟨[(0, .p .str a0), (1, .p .str a1), (5, .p I6 ((a1.length : Int) : Int)), (13, .p .bool (((a1.length : Int) == 1) : Bool))], []⟩) [0, 1, 5, 13] [] hN (.cons (mvU (v := .p I6 ((a1.length : Int) : Int)) rfl rfl) (.cons (cmU (rs := [(14, .p I6 ((a1.length : Int) : Int))]) rfl rfl o0 (.int _ _ _) rfl) (.cons (mvA (v := .p .bool (((a1.length : Int) == 1) : Bool)) rfl rfl) .nil))) (by kernel_rfl) (by kernel_rfl) (by kernel_rfl) (cvR _) ?_
    refine tnU ?_
    refine cdU (b := ((a1.length : Int) == 1)) (.tmp (.tail _ (.tail _ (.tail _ (.head _))))) (fun hc2 => ?_) (fun hc2 => ?_)
    · replace h := ite_t hc2 h
      refine WpC.seq ?_
      obtain ⟨v3, hv3, h⟩ := bind_some h
      obtain ⟨v4, hv4, h⟩ := bind_some h
      refine rgU (st1 := ⟨[(4, .p I6 v4)], []⟩) [4] [] hN (.cons (mvU (v := .p .str a0) rfl rfl) (.cons (mvU (v := .p .str a1) rfl rfl) (.cons (sok_indexS (U := Un) (rs := [(17, .p .str a1)]) rfl rfl Try.underlying9 o0 (.int _ _ _) hv3) (.cons (caV (rs := [(16, .p .str a0), (18, .p (.int .u8) ((v3.toNat : Int) : Int))]) (vw := []) rfl rfl (.func _) hb_39 (bytealg_LastIndexByteString.ok O k a0 (v3.toNat : Int) v4 hv4) (.cons o0 (.cons o1 .nil)) (.cons (.same _) (.cons (.same _) .nil)) (by simp) (.inl rfl)) (.cons (mvA (v := .p I6 v4) rfl rfl) .nil))))) (by kernel_rfl) (by kernel_rfl) (by kernel_rfl) (cvR _) ?_
      refine tnU ?_
      refine WpC.ret ?_
      refine blockQ_ret ?_
      refine thenQ_ret ?_
      have hq := Option.some.inj h
      subst hq
      exact ends_ret (retV_1 rfl (.head _)) ain_nil
    · replace h := ite_f hc2 h
      refine WpC.seq ?_
      refine rgU (st1 := ⟨[(0, .p .str a0), (1, .p .str a1), (5, .p I6 ((a1.length : Int) : Int)), (20, .p .bool (((a1.length : Int) == (a0.length : Int)) : Bool))], []⟩) [0, 1, 5, 20] [] hN (.cons (mvU (v := .p I6 ((a1.length : Int) : Int)) rfl rfl) (.cons (mvU (v := .p .str a0) rfl rfl) (.cons (sok_lenS (U := Un) (rs := [(22, .p .str a0)]) rfl rfl Try.underlying9 o0) (.cons (cmU (rs := [(21, .p I6 ((a1.length : Int) : Int)), (23, .p I6 ((a0.length : Int) : Int))]) rfl rfl o0 o1 rfl) (.cons (mvA (v := .p .bool (((a1.length : Int) == (a0.length : Int)) : Bool)) rfl rfl) .nil))))) (by kernel_rfl) (by kernel_rfl) (by kernel_rfl) (cvR _) ?_
      refine tnU ?_
      refine cdU (b := ((a1.length : Int) == (a0.length : Int))) (.tmp (.tail _ (.tail _ (.tail _ (.head _))))) (fun hc5 => ?_) (fun hc5 => ?_)
      · replace h := ite_t hc5 h
        refine WpC.seq ?_
        refine WpC.seq ?_
        refine rgU (st1 := ⟨[(27, .p .bool ((a1 == a0) : Bool))], []⟩) [27] [] hN (.cons (mvU (v := .p .str a1) rfl rfl) (.cons (mvU (v := .p .str a0) rfl rfl) (.cons (sok_cmpS (U := Un) (rs := [(25, .p .str a1), (26, .p .str a0)]) rfl rfl o0 o1 rfl) .nil))) (by kernel_rfl) (by kernel_rfl) (by kernel_rfl) (cvR _) ?_
        refine tnU ?_
        refine cdU (b := (a1 == a0)) o0 (fun hc6 => ?_) (fun hc6 => ?_)
        · replace h := ite_t hc6 h
          refine WpC.seq ?_
          refine rgU (st1 := ⟨[(4, .p I6 (0 : Int))], []⟩) [4] [] hN (.cons (moU (rs := []) rfl (.inr rfl) (.int _ _ _)) .nil) (by kernel_rfl) (by kernel_rfl) (by kernel_rfl) (cvR _) ?_
          refine tnU ?_
          refine WpC.ret ?_
          refine thenQ_ret ?_
          refine blockQ_ret ?_
          refine thenQ_ret ?_
          have hq := Option.some.inj h
          subst hq
          exact ends_ret (retV_1 rfl (.head _)) ain_nil
        · replace h := ite_f hc6 h
          refine WpC.conv (cvK (b := ⟨[], []⟩) [] [] (by kernel_rfl)) (WpC.skip ?_)
          refine tnU ?_
          refine WpC.seq ?_
          refine rgU (st1 := ⟨[(4, .p I6 ((-1) : Int))], []⟩) [4] [] hN (.cons (moU (rs := []) rfl (.inr rfl) (.int _ _ _)) .nil) (by kernel_rfl) (by kernel_rfl) (by kernel_rfl) (cvR _) ?_
          refine tnU ?_
          refine WpC.ret ?_
          refine blockQ_ret ?_
          refine thenQ_ret ?_
          have hq := Option.some.inj h
          subst hq
          exact ends_ret (retV_1 rfl (.head _)) ain_nil
      · replace h := ite_f hc5 h
        refine WpC.seq ?_
        refine rgU (st1 := ⟨[(0, .p .str a0), (1, .p .str a1), (28, .p .bool ((decide ((a1.length : Int) > (a0.length : Int))) : Bool))], []⟩) [0, 1, 28] [] hN (.cons (mvU (v := .p I6 ((a1.length : Int) : Int)) rfl rfl) (.cons (mvU (v := .p .str a0) rfl rfl) (.cons (sok_lenS (U := Un) (rs := [(30, .p .str a0)]) rfl rfl Try.underlying9 o0) (.cons (cmU (rs := [(29, .p I6 ((a1.length : Int) : Int)), (31, .p I6 ((a0.length : Int) : Int))]) rfl rfl o0 o1 rfl) (.cons (mvA (v := .p .bool ((decide ((a1.length : Int) > (a0.length : Int))) : Bool)) rfl rfl) .nil))))) (by kernel_rfl) (by kernel_rfl) (by kernel_rfl) (cvR _) ?_
        refine tnU ?_
        refine cdU (b := (decide ((a1.length : Int) > (a0.length : Int)))) (.tmp (.tail _ (.tail _ (.head _)))) (fun hc7 => ?_) (fun hc7 => ?_)
        · replace h := ite_t hc7 h
          refine WpC.seq ?_
          refine rgU (st1 := ⟨[(4, .p I6 ((-1) : Int))], []⟩) [4] [] hN (.cons (moU (rs := []) rfl (.inr rfl) (.int _ _ _)) .nil) (by kernel_rfl) (by kernel_rfl) (by kernel_rfl) (cvR _) ?_
          refine tnU ?_
          refine WpC.ret ?_
          refine blockQ_ret ?_
          refine thenQ_ret ?_
          have hq := Option.some.inj h
          subst hq
          exact ends_ret (retV_1 rfl (.head _)) ain_nil
        · replace h := ite_f hc7 h
          refine WpC.conv (cvK (b := ⟨[(0, .p .str a0), (1, .p .str a1)], []⟩) [0, 1] [] (by kernel_rfl)) (WpC.skip ?_)
          refine blockQ_normal ?_
          refine tnU ?_
          refine WpC.seq ?_
          obtain ⟨v8, hv8, h⟩ := bind_some h
          refine rgU (st1 := ⟨[(4, .p I6 v8)], []⟩) [4] [] hN (.cons (mvU (v := .p .str a0) rfl rfl) (.cons (mvU (v := .p .str a1) rfl rfl) (.cons (sok_call (U := Un) (rs := [(33, .p .str a0), (34, .p .str a1)]) (vw := []) rfl rfl hb_40 (pLRK.ok O k a0 a1 v8 hv8) (.cons o0 (.cons o1 .nil)) (.cons (.same _) (.cons (.same _) .nil)) (by simp) (.inl rfl)) (.cons (mvA (v := .p I6 v8) rfl rfl) .nil)))) (by kernel_rfl) (by kernel_rfl) (by kernel_rfl) (cvR _) ?_
          refine tnU ?_
          refine WpC.ret ?_
          have hq := Option.some.inj h
          subst hq
          exact ends_ret (retV_1 rfl (.head _)) ain_nil

end Go.Proofs.Ytnbnfjgedinlbab
