/- A part of the proof of a given law: LTC3. Own work, printed in part by a program of mine. -/
import Derived.Test.YtnbnfjgedinlbabDoorK2LTC2
namespace Go.Proofs.YtnbnfjgedinlbabDoor
open Go Go.AM
set_option linter.unusedVariables false
set_option linter.unusedSimpArgs false
set_option maxRecDepth 100000
theorem millwrightlaw13_alive.ok (O : Out) (hO : GOkL O) (k : Nat) (out : Bool) (h : millwrightlaw13_alive.f k = some out) : COk Un O Tryd.prog 14 { ar := [], r := .p .bool out } := by
  refine cok_of_wp Tryd.func14 rfl (k := 39) rfl (Nat.le_of_ble_eq_true rfl) (namesOk_pure rfl rfl rfl rfl) ?_
  intro B hN
  refine WpC.conv (Conv.keep (U := Un) (b := ⟨[], []⟩) [] [] (by kernel_rfl)) ?_
  unfold millwrightlaw13_alive.f at h
  refine WpC.seq ?_
  refine WpC.reg (U := Un) (st1 := ⟨[], []⟩) [] [] hN (.cons (sok_move (U := Un) (rs := []) rfl (.inr rfl) (.bool _ _)) .nil) (by kernel_rfl) (by kernel_rfl) (by kernel_rfl) (Conv.refl (U := Un) _) ?_
  refine thenQ_normal ?_
  refine WpC.seq ?_
  obtain ⟨v1, hv1, h⟩ := bind_some h
  refine WpC.reg (U := Un) (st1 := ⟨[(1, .p (.list (.list (.named 3))) v1.1), (2, .p .err v1.2)], []⟩) [1, 2] [] hN (.cons (sok_callV (U := Un) (rs := []) (vw := []) rfl rfl (.func _) hb_15 (lex_Words.ok O hO k ([97, 36, 120, 39, 98, 32, 99, 39, 32, 100] : List UInt8) v1 hv1) (.cons (.str _ _) .nil) (.cons (.same _) .nil) (by simp) (.inl rfl)) (.cons (mv (U := Un) (v := .tup [.p (.list (.list (.named 3))) v1.1, .p .err v1.2]) rfl rfl) (.cons (sok_extract (U := Un) (rs := [(3, .tup [.p (.list (.list (.named 3))) v1.1, .p .err v1.2])]) rfl rfl o0 rfl) (.cons (sok_extract (U := Un) (rs := [(3, .tup [.p (.list (.list (.named 3))) v1.1, .p .err v1.2])]) rfl rfl o0 rfl) (.cons (mva (U := Un) (v := .p (.list (.list (.named 3))) v1.1) rfl rfl) (.cons (mva (U := Un) (v := .p .err v1.2) rfl rfl) .nil)))))) (by kernel_rfl) (by kernel_rfl) (by kernel_rfl) (Conv.refl (U := Un) _) ?_
  refine thenQ_normal ?_
  refine WpC.seq ?_
  rcases bool_cases (v1.2 == 0) with hc2 | hc2
  · replace h := ite_t hc2 h
    rcases bool_cases ((v1.1.length : Int) == 2) with hc3 | hc3
    · replace h := ite_t hc3 h
      obtain ⟨v4, hv4, h⟩ := bind_some h
      rcases bool_cases ((v4.length : Int) == 3) with hc5 | hc5
      · replace h := ite_t hc5 h
        obtain ⟨v6, hv6, h⟩ := bind_some h
        obtain ⟨v7, hv7, h⟩ := bind_some h
        rcases bool_cases (v7.f_Kind == 2) with hc8 | hc8
        · replace h := ite_t hc8 h
          obtain ⟨v9, hv9, h⟩ := bind_some h
          obtain ⟨v10, hv10, h⟩ := bind_some h
          refine WpC.reg (U := Un) (st1 := ⟨[(0, .p .bool ((v10.f_Text == ([98, 32, 99] : List UInt8)) : Bool))], []⟩) [0] [] hN (.cons (mv (U := Un) (v := .p .err v1.2) rfl rfl) (.cons (sok_errNil (U := Un) (rs := [(7, .p .err v1.2)]) rfl rfl Tryd.underlying27 o0 rfl) (.cons (mv (U := Un) (v := .p .bool ((v1.2 == 0) : Bool)) rfl rfl) (.cons (sok_run rfl rfl hc2 (mv (U := Un) (v := .p (.list (.list (.named 3))) v1.1) rfl rfl)) (.cons (sok_run rfl rfl hc2 (sok_lenL (U := Un) (rs := [(10, .p (.list (.list (.named 3))) v1.1)]) rfl rfl Tryd.underlying33 o0)) (.cons (sok_run rfl rfl hc2 (sok_cmp (U := Un) (rs := [(11, .p I6 ((v1.1.length : Int) : Int))]) rfl rfl o0 (.int _ _ _) rfl)) (.cons (sok_pickT (U := Un) (rs := [(9, .p .bool ((v1.2 == 0) : Bool)), (12, .p .bool (((v1.1.length : Int) == 2) : Bool))]) rfl rfl o0 hc2 o1) (.cons (mv (U := Un) (v := .p .bool (((v1.1.length : Int) == 2) : Bool)) rfl rfl) (.cons (sok_run rfl rfl hc3 (mv (U := Un) (v := .p (.list (.list (.named 3))) v1.1) rfl rfl)) (.cons (sok_run rfl rfl hc3 (sok_indexL (U := Un) (rs := [(15, .p (.list (.list (.named 3))) v1.1)]) rfl rfl sl_33 o0 (.int _ _ _) hv4)) (.cons (sok_run rfl rfl hc3 (sok_loadP (U := Un) (rs := [(16, .pp (.list (.named 3)) v4)]) rfl rfl ty_36 o0)) (.cons (sok_run rfl rfl hc3 (sok_lenL (U := Un) (rs := [(17, .p (.list (.named 3)) v4)]) rfl rfl Tryd.underlying36 o0)) (.cons (sok_run rfl rfl hc3 (sok_cmp (U := Un) (rs := [(18, .p I6 ((v4.length : Int) : Int))]) rfl rfl o0 (.int _ _ _) rfl)) (.cons (sok_pickT (U := Un) (rs := [(14, .p .bool (((v1.1.length : Int) == 2) : Bool)), (19, .p .bool (((v4.length : Int) == 3) : Bool))]) rfl rfl o0 hc3 o1) (.cons (mv (U := Un) (v := .p .bool (((v4.length : Int) == 3) : Bool)) rfl rfl) (.cons (sok_run rfl rfl hc5 (mv (U := Un) (v := .p (.list (.list (.named 3))) v1.1) rfl rfl)) (.cons (sok_run rfl rfl hc5 (sok_indexL (U := Un) (rs := [(22, .p (.list (.list (.named 3))) v1.1)]) rfl rfl sl_33 o0 (.int _ _ _) hv6)) (.cons (sok_run rfl rfl hc5 (sok_loadP (U := Un) (rs := [(23, .pp (.list (.named 3)) v6)]) rfl rfl ty_36 o0)) (.cons (sok_run rfl rfl hc5 (sok_indexL (U := Un) (rs := [(24, .p (.list (.named 3)) v6)]) rfl rfl sl_36 o0 (.int _ _ _) hv7)) (.cons (sok_run rfl rfl hc5 (sok_fieldP (U := Un) (rs := [(25, .pp (.named 3) v7)]) rfl rfl fd_42_0 (by decide) o0 (.named (.fst (.here _ _))))) (.cons (sok_run rfl rfl hc5 (sok_loadP (U := Un) (rs := [(26, .pp I6 v7.f_Kind)]) rfl rfl ty_3 o0)) (.cons (sok_run rfl rfl hc5 (sok_cmp (U := Un) (rs := [(27, .p I6 v7.f_Kind)]) rfl rfl o0 (.int _ _ _) rfl)) (.cons (sok_pickT (U := Un) (rs := [(21, .p .bool (((v4.length : Int) == 3) : Bool)), (28, .p .bool ((v7.f_Kind == 2) : Bool))]) rfl rfl o0 hc5 o1) (.cons (mv (U := Un) (v := .p .bool ((v7.f_Kind == 2) : Bool)) rfl rfl) (.cons (sok_run rfl rfl hc8 (mv (U := Un) (v := .p (.list (.list (.named 3))) v1.1) rfl rfl)) (.cons (sok_run rfl rfl hc8 (sok_indexL (U := Un) (rs := [(31, .p (.list (.list (.named 3))) v1.1)]) rfl rfl sl_33 o0 (.int _ _ _) hv9)) (.cons (sok_run rfl rfl hc8 (sok_loadP (U := Un) (rs := [(32, .pp (.list (.named 3)) v9)]) rfl rfl ty_36 o0)) (.cons (sok_run rfl rfl hc8 (sok_indexL (U := Un) (rs := [(33, .p (.list (.named 3)) v9)]) rfl rfl sl_36 o0 (.int _ _ _) hv10)) (.cons (sok_run rfl rfl hc8 (sok_fieldP (U := Un) (rs := [(34, .pp (.named 3) v10)]) rfl rfl fd_42_1 (by decide) o0 (.named (.snd (.fst (.here _ _)) rfl)))) (.cons (sok_run rfl rfl hc8 (sok_loadP (U := Un) (rs := [(35, .pp .str v10.f_Text)]) rfl rfl ty_9 o0)) (.cons (sok_run rfl rfl hc8 (sok_cmpS (U := Un) (rs := [(36, .p .str v10.f_Text)]) rfl rfl o0 (.str _ _) rfl)) (.cons (sok_pickT (U := Un) (rs := [(30, .p .bool ((v7.f_Kind == 2) : Bool)), (37, .p .bool ((v10.f_Text == ([98, 32, 99] : List UInt8)) : Bool))]) rfl rfl o0 hc8 o1) (.cons (mva (U := Un) (v := .p .bool ((v10.f_Text == ([98, 32, 99] : List UInt8)) : Bool)) rfl rfl) .nil))))))))))))))))))))))))))))))))) (by kernel_rfl) (by kernel_rfl) (by kernel_rfl) (Conv.refl (U := Un) _) ?_
          refine thenQ_normal ?_
          refine WpC.ret ?_
          have hq := Option.some.inj h
          subst hq
          exact ends_ret (retV_1 rfl (.head _)) ain_nil
        · replace h := ite_f hc8 h
          refine WpC.reg (U := Un) (st1 := ⟨[(0, .p .bool false)], []⟩) [0] [] hN (.cons (mv (U := Un) (v := .p .err v1.2) rfl rfl) (.cons (sok_errNil (U := Un) (rs := [(7, .p .err v1.2)]) rfl rfl Tryd.underlying27 o0 rfl) (.cons (mv (U := Un) (v := .p .bool ((v1.2 == 0) : Bool)) rfl rfl) (.cons (sok_run rfl rfl hc2 (mv (U := Un) (v := .p (.list (.list (.named 3))) v1.1) rfl rfl)) (.cons (sok_run rfl rfl hc2 (sok_lenL (U := Un) (rs := [(10, .p (.list (.list (.named 3))) v1.1)]) rfl rfl Tryd.underlying33 o0)) (.cons (sok_run rfl rfl hc2 (sok_cmp (U := Un) (rs := [(11, .p I6 ((v1.1.length : Int) : Int))]) rfl rfl o0 (.int _ _ _) rfl)) (.cons (sok_pickT (U := Un) (rs := [(9, .p .bool ((v1.2 == 0) : Bool)), (12, .p .bool (((v1.1.length : Int) == 2) : Bool))]) rfl rfl o0 hc2 o1) (.cons (mv (U := Un) (v := .p .bool (((v1.1.length : Int) == 2) : Bool)) rfl rfl) (.cons (sok_run rfl rfl hc3 (mv (U := Un) (v := .p (.list (.list (.named 3))) v1.1) rfl rfl)) (.cons (sok_run rfl rfl hc3 (sok_indexL (U := Un) (rs := [(15, .p (.list (.list (.named 3))) v1.1)]) rfl rfl sl_33 o0 (.int _ _ _) hv4)) (.cons (sok_run rfl rfl hc3 (sok_loadP (U := Un) (rs := [(16, .pp (.list (.named 3)) v4)]) rfl rfl ty_36 o0)) (.cons (sok_run rfl rfl hc3 (sok_lenL (U := Un) (rs := [(17, .p (.list (.named 3)) v4)]) rfl rfl Tryd.underlying36 o0)) (.cons (sok_run rfl rfl hc3 (sok_cmp (U := Un) (rs := [(18, .p I6 ((v4.length : Int) : Int))]) rfl rfl o0 (.int _ _ _) rfl)) (.cons (sok_pickT (U := Un) (rs := [(14, .p .bool (((v1.1.length : Int) == 2) : Bool)), (19, .p .bool (((v4.length : Int) == 3) : Bool))]) rfl rfl o0 hc3 o1) (.cons (mv (U := Un) (v := .p .bool (((v4.length : Int) == 3) : Bool)) rfl rfl) (.cons (sok_run rfl rfl hc5 (mv (U := Un) (v := .p (.list (.list (.named 3))) v1.1) rfl rfl)) (.cons (sok_run rfl rfl hc5 (sok_indexL (U := Un) (rs := [(22, .p (.list (.list (.named 3))) v1.1)]) rfl rfl sl_33 o0 (.int _ _ _) hv6)) (.cons (sok_run rfl rfl hc5 (sok_loadP (U := Un) (rs := [(23, .pp (.list (.named 3)) v6)]) rfl rfl ty_36 o0)) (.cons (sok_run rfl rfl hc5 (sok_indexL (U := Un) (rs := [(24, .p (.list (.named 3)) v6)]) rfl rfl sl_36 o0 (.int _ _ _) hv7)) (.cons (sok_run rfl rfl hc5 (sok_fieldP (U := Un) (rs := [(25, .pp (.named 3) v7)]) rfl rfl fd_42_0 (by decide) o0 (.named (.fst (.here _ _))))) (.cons (sok_run rfl rfl hc5 (sok_loadP (U := Un) (rs := [(26, .pp I6 v7.f_Kind)]) rfl rfl ty_3 o0)) (.cons (sok_run rfl rfl hc5 (sok_cmp (U := Un) (rs := [(27, .p I6 v7.f_Kind)]) rfl rfl o0 (.int _ _ _) rfl)) (.cons (sok_pickT (U := Un) (rs := [(21, .p .bool (((v4.length : Int) == 3) : Bool)), (28, .p .bool ((v7.f_Kind == 2) : Bool))]) rfl rfl o0 hc5 o1) (.cons (mv (U := Un) (v := .p .bool ((v7.f_Kind == 2) : Bool)) rfl rfl) (.cons (sok_skip rfl rfl hc8) (.cons (sok_skip rfl rfl hc8) (.cons (sok_skip rfl rfl hc8) (.cons (sok_skip rfl rfl hc8) (.cons (sok_skip rfl rfl hc8) (.cons (sok_skip rfl rfl hc8) (.cons (sok_skip rfl rfl hc8) (.cons (sok_pickF (U := Un) (rs := [(30, .p .bool ((v7.f_Kind == 2) : Bool))]) rfl rfl o0 hc8 (.bool _ _)) (.cons (mva (U := Un) (v := .p .bool false) rfl rfl) .nil))))))))))))))))))))))))))))))))) (by kernel_rfl) (by kernel_rfl) (by kernel_rfl) (Conv.refl (U := Un) _) ?_
          refine thenQ_normal ?_
          refine WpC.ret ?_
          have hq := Option.some.inj h
          subst hq
          exact ends_ret (retV_1 rfl (.head _)) ain_nil
      · replace h := ite_f hc5 h
        refine WpC.reg (U := Un) (st1 := ⟨[(0, .p .bool false)], []⟩) [0] [] hN (.cons (mv (U := Un) (v := .p .err v1.2) rfl rfl) (.cons (sok_errNil (U := Un) (rs := [(7, .p .err v1.2)]) rfl rfl Tryd.underlying27 o0 rfl) (.cons (mv (U := Un) (v := .p .bool ((v1.2 == 0) : Bool)) rfl rfl) (.cons (sok_run rfl rfl hc2 (mv (U := Un) (v := .p (.list (.list (.named 3))) v1.1) rfl rfl)) (.cons (sok_run rfl rfl hc2 (sok_lenL (U := Un) (rs := [(10, .p (.list (.list (.named 3))) v1.1)]) rfl rfl Tryd.underlying33 o0)) (.cons (sok_run rfl rfl hc2 (sok_cmp (U := Un) (rs := [(11, .p I6 ((v1.1.length : Int) : Int))]) rfl rfl o0 (.int _ _ _) rfl)) (.cons (sok_pickT (U := Un) (rs := [(9, .p .bool ((v1.2 == 0) : Bool)), (12, .p .bool (((v1.1.length : Int) == 2) : Bool))]) rfl rfl o0 hc2 o1) (.cons (mv (U := Un) (v := .p .bool (((v1.1.length : Int) == 2) : Bool)) rfl rfl) (.cons (sok_run rfl rfl hc3 (mv (U := Un) (v := .p (.list (.list (.named 3))) v1.1) rfl rfl)) (.cons (sok_run rfl rfl hc3 (sok_indexL (U := Un) (rs := [(15, .p (.list (.list (.named 3))) v1.1)]) rfl rfl sl_33 o0 (.int _ _ _) hv4)) (.cons (sok_run rfl rfl hc3 (sok_loadP (U := Un) (rs := [(16, .pp (.list (.named 3)) v4)]) rfl rfl ty_36 o0)) (.cons (sok_run rfl rfl hc3 (sok_lenL (U := Un) (rs := [(17, .p (.list (.named 3)) v4)]) rfl rfl Tryd.underlying36 o0)) (.cons (sok_run rfl rfl hc3 (sok_cmp (U := Un) (rs := [(18, .p I6 ((v4.length : Int) : Int))]) rfl rfl o0 (.int _ _ _) rfl)) (.cons (sok_pickT (U := Un) (rs := [(14, .p .bool (((v1.1.length : Int) == 2) : Bool)), (19, .p .bool (((v4.length : Int) == 3) : Bool))]) rfl rfl o0 hc3 o1) (.cons (mv (U := Un) (v := .p .bool (((v4.length : Int) == 3) : Bool)) rfl rfl) (.cons (sok_skip rfl rfl hc5) (.cons (sok_skip rfl rfl hc5) (.cons (sok_skip rfl rfl hc5) (.cons (sok_skip rfl rfl hc5) (.cons (sok_skip rfl rfl hc5) (.cons (sok_skip rfl rfl hc5) (.cons (sok_skip rfl rfl hc5) (.cons (sok_pickF (U := Un) (rs := [(21, .p .bool (((v4.length : Int) == 3) : Bool))]) rfl rfl o0 hc5 (.bool _ _)) (.cons (mv (U := Un) (v := .p .bool false) rfl rfl) (.cons (sok_skip rfl rfl rfl) (.cons (sok_skip rfl rfl rfl) (.cons (sok_skip rfl rfl rfl) (.cons (sok_skip rfl rfl rfl) (.cons (sok_skip rfl rfl rfl) (.cons (sok_skip rfl rfl rfl) (.cons (sok_skip rfl rfl rfl) (.cons (sok_pickF (U := Un) (rs := [(30, .p .bool false)]) rfl rfl o0 rfl (.bool _ _)) (.cons (mva (U := Un) (v := .p .bool false) rfl rfl) .nil))))))))))))))))))))))))))))))))) (by kernel_rfl) (by kernel_rfl) (by kernel_rfl) (Conv.refl (U := Un) _) ?_
        refine thenQ_normal ?_
        refine WpC.ret ?_
        have hq := Option.some.inj h
        subst hq
        exact ends_ret (retV_1 rfl (.head _)) ain_nil
    · replace h := ite_f hc3 h
      refine WpC.reg (U := Un) (st1 := ⟨[(0, .p .bool false)], []⟩) [0] [] hN (.cons (mv (U := Un) (v := .p .err v1.2) rfl rfl) (.cons (sok_errNil (U := Un) (rs := [(7, .p .err v1.2)]) rfl rfl Tryd.underlying27 o0 rfl) (.cons (mv (U := Un) (v := .p .bool ((v1.2 == 0) : Bool)) rfl rfl) (.cons (sok_run rfl rfl hc2 (mv (U := Un) (v := .p (.list (.list (.named 3))) v1.1) rfl rfl)) (.cons (sok_run rfl rfl hc2 (sok_lenL (U := Un) (rs := [(10, .p (.list (.list (.named 3))) v1.1)]) rfl rfl Tryd.underlying33 o0)) (.cons (sok_run rfl rfl hc2 (sok_cmp (U := Un) (rs := [(11, .p I6 ((v1.1.length : Int) : Int))]) rfl rfl o0 (.int _ _ _) rfl)) (.cons (sok_pickT (U := Un) (rs := [(9, .p .bool ((v1.2 == 0) : Bool)), (12, .p .bool (((v1.1.length : Int) == 2) : Bool))]) rfl rfl o0 hc2 o1) (.cons (mv (U := Un) (v := .p .bool (((v1.1.length : Int) == 2) : Bool)) rfl rfl) (.cons (sok_skip rfl rfl hc3) (.cons (sok_skip rfl rfl hc3) (.cons (sok_skip rfl rfl hc3) (.cons (sok_skip rfl rfl hc3) (.cons (sok_skip rfl rfl hc3) (.cons (sok_pickF (U := Un) (rs := [(14, .p .bool (((v1.1.length : Int) == 2) : Bool))]) rfl rfl o0 hc3 (.bool _ _)) (.cons (mv (U := Un) (v := .p .bool false) rfl rfl) (.cons (sok_skip rfl rfl rfl) (.cons (sok_skip rfl rfl rfl) (.cons (sok_skip rfl rfl rfl) (.cons (sok_skip rfl rfl rfl) (.cons (sok_skip rfl rfl rfl) (.cons (sok_skip rfl rfl rfl) (.cons (sok_skip rfl rfl rfl) (.cons (sok_pickF (U := Un) (rs := [(21, .p .bool false)]) rfl rfl o0 rfl (.bool _ _)) (.cons (mv (U := Un) (v := .p .bool false) rfl rfl) (.cons (sok_skip rfl rfl rfl) (.cons (sok_skip rfl rfl rfl) (.cons (sok_skip rfl rfl rfl) (.cons (sok_skip rfl rfl rfl) (.cons (sok_skip rfl rfl rfl) (.cons (sok_skip rfl rfl rfl) (.cons (sok_skip rfl rfl rfl) (.cons (sok_pickF (U := Un) (rs := [(30, .p .bool false)]) rfl rfl o0 rfl (.bool _ _)) (.cons (mva (U := Un) (v := .p .bool false) rfl rfl) .nil))))))))))))))))))))))))))))))))) (by kernel_rfl) (by kernel_rfl) (by kernel_rfl) (Conv.refl (U := Un) _) ?_
      refine thenQ_normal ?_
      refine WpC.ret ?_
      have hq := Option.some.inj h
      subst hq
      exact ends_ret (retV_1 rfl (.head _)) ain_nil
  · replace h := ite_f hc2 h
    refine WpC.reg (U := Un) (st1 := ⟨[(0, .p .bool false)], []⟩) [0] [] hN (.cons (mv (U := Un) (v := .p .err v1.2) rfl rfl) (.cons (sok_errNil (U := Un) (rs := [(7, .p .err v1.2)]) rfl rfl Tryd.underlying27 o0 rfl) (.cons (mv (U := Un) (v := .p .bool ((v1.2 == 0) : Bool)) rfl rfl) (.cons (sok_skip rfl rfl hc2) (.cons (sok_skip rfl rfl hc2) (.cons (sok_skip rfl rfl hc2) (.cons (sok_pickF (U := Un) (rs := [(9, .p .bool ((v1.2 == 0) : Bool))]) rfl rfl o0 hc2 (.bool _ _)) (.cons (mv (U := Un) (v := .p .bool false) rfl rfl) (.cons (sok_skip rfl rfl rfl) (.cons (sok_skip rfl rfl rfl) (.cons (sok_skip rfl rfl rfl) (.cons (sok_skip rfl rfl rfl) (.cons (sok_skip rfl rfl rfl) (.cons (sok_pickF (U := Un) (rs := [(14, .p .bool false)]) rfl rfl o0 rfl (.bool _ _)) (.cons (mv (U := Un) (v := .p .bool false) rfl rfl) (.cons (sok_skip rfl rfl rfl) (.cons (sok_skip rfl rfl rfl) (.cons (sok_skip rfl rfl rfl) (.cons (sok_skip rfl rfl rfl) (.cons (sok_skip rfl rfl rfl) (.cons (sok_skip rfl rfl rfl) (.cons (sok_skip rfl rfl rfl) (.cons (sok_pickF (U := Un) (rs := [(21, .p .bool false)]) rfl rfl o0 rfl (.bool _ _)) (.cons (mv (U := Un) (v := .p .bool false) rfl rfl) (.cons (sok_skip rfl rfl rfl) (.cons (sok_skip rfl rfl rfl) (.cons (sok_skip rfl rfl rfl) (.cons (sok_skip rfl rfl rfl) (.cons (sok_skip rfl rfl rfl) (.cons (sok_skip rfl rfl rfl) (.cons (sok_skip rfl rfl rfl) (.cons (sok_pickF (U := Un) (rs := [(30, .p .bool false)]) rfl rfl o0 rfl (.bool _ _)) (.cons (mva (U := Un) (v := .p .bool false) rfl rfl) .nil))))))))))))))))))))))))))))))))) (by kernel_rfl) (by kernel_rfl) (by kernel_rfl) (Conv.refl (U := Un) _) ?_
    refine thenQ_normal ?_
    refine WpC.ret ?_
    have hq := Option.some.inj h
    subst hq
    exact ends_ret (retV_1 rfl (.head _)) ain_nil

theorem millwrightlaw13_Long.ok (O : Out) (hO : GOkL O) (k : Nat) (a0 : List (List T_lex_Piece)) (a1 : Int) (out : Bool) (h : millwrightlaw13_Long.f k a0 a1 = some out) : COk Un O Tryd.prog 18 { ar := [.p (.list (.list (.named 3))) a0, .p I6 a1], r := .p .bool out } := by
  refine cok_of_wp Tryd.func18 rfl (k := 47) rfl (Nat.le_of_ble_eq_true rfl) (namesOk_pure rfl rfl rfl rfl) ?_
  intro B hN
  refine WpC.conv (Conv.keep (U := Un) (b := ⟨[(0, .p (.list (.list (.named 3))) a0), (1, .p I6 a1)], []⟩) [0, 1] [] (by kernel_rfl)) ?_
  unfold millwrightlaw13_Long.f at h
  refine WpC.seq ?_
  refine WpC.reg (U := Un) (st1 := ⟨[(0, .p (.list (.list (.named 3))) a0), (1, .p I6 a1)], []⟩) [0, 1] [] hN (.cons (sok_move (U := Un) (rs := []) rfl (.inr rfl) (.bool _ _)) .nil) (by kernel_rfl) (by kernel_rfl) (by kernel_rfl) (Conv.refl (U := Un) _) ?_
  refine thenQ_normal ?_
  refine WpC.seq ?_
  refine WpC.seq ?_
  refine WpC.reg (U := Un) (st1 := ⟨[(0, .p (.list (.list (.named 3))) a0), (1, .p I6 a1), (12, .p .bool ((decide ((a0.length : Int) > a1)) : Bool))], []⟩) [0, 1, 12] [] hN (.cons (mv (U := Un) (v := .p (.list (.list (.named 3))) a0) rfl rfl) (.cons (sok_lenL (U := Un) (rs := [(9, .p (.list (.list (.named 3))) a0)]) rfl rfl Tryd.underlying33 o0) (.cons (mv (U := Un) (v := .p I6 a1) rfl rfl) (.cons (sok_cmp (U := Un) (rs := [(10, .p I6 ((a0.length : Int) : Int)), (11, .p I6 a1)]) rfl rfl o0 o1 rfl) .nil)))) (by kernel_rfl) (by kernel_rfl) (by kernel_rfl) (Conv.refl (U := Un) _) ?_
  refine thenQ_normal ?_
  refine WpC.cond (U := Un) (b := (decide ((a0.length : Int) > a1))) (.tmp (.tail _ (.tail _ (.head _)))) (fun hc1 => ?_) (fun hc1 => ?_)
  · replace h := ite_t hc1 h
    refine WpC.seq ?_
    refine WpC.reg (U := Un) (st1 := ⟨[(4, .p .bool true)], []⟩) [4] [] hN (.cons (sok_move (U := Un) (rs := []) rfl (.inr rfl) (.bool _ _)) .nil) (by kernel_rfl) (by kernel_rfl) (by kernel_rfl) (Conv.refl (U := Un) _) ?_
    refine thenQ_normal ?_
    refine WpC.ret ?_
    refine thenQ_ret ?_
    have hq := Option.some.inj h
    subst hq
    exact ends_ret (retV_1 rfl (.head _)) ain_nil
  · replace h := ite_f hc1 h
    refine WpC.conv (Conv.keep (U := Un) (b := ⟨[(0, .p (.list (.list (.named 3))) a0), (1, .p I6 a1)], []⟩) [0, 1] [] (by kernel_rfl)) (WpC.skip ?_)
    refine thenQ_normal ?_
    refine WpC.seqJ (U := Un) (fun st' => millwrightlaw13_Long.j2 k = some out ∧ st' = ⟨[], []⟩) ?_ ?_
    · refine WpC.seq ?_
      refine WpC.reg (U := Un) (st1 := ⟨[(1, .p I6 a1), (13, .p (.list (.list (.named 3))) a0), (14, .p I6 ((a0.length : Int) : Int)), (15, .p I6 (0 : Int))], []⟩) [1, 13, 14, 15] [] hN (.cons (mv (U := Un) (v := .p (.list (.list (.named 3))) a0) rfl rfl) (.cons (sok_lenL (U := Un) (rs := [(13, .p (.list (.list (.named 3))) a0)]) rfl rfl Tryd.underlying33 o0) (.cons (sok_move (U := Un) (rs := []) rfl (.inl rfl) (.int _ _ _)) .nil))) (by kernel_rfl) (by kernel_rfl) (by kernel_rfl) (Conv.refl (U := Un) _) ?_
      refine thenQ_normal ?_
      refine WpC.block ?_
      obtain ⟨o5, hlo5, h⟩ := bind_some h
      have hout6 := h
      clear h
      refine WpC.loop (U := Un) (fun n st' => ∃ v3 : Int, millwrightlaw13_Long.l4 k a0 a1 n v3 = some o5 ∧ st' = ⟨[(1, .p I6 a1), (13, .p (.list (.list (.named 3))) a0), (14, .p I6 ((a0.length : Int) : Int)), (15, .p I6 v3)], []⟩) k ⟨0, hlo5, rfl⟩ ?_
      clear hlo5
      rintro (_ | n) _ ⟨v3, h, rfl⟩
      · cases h
      · rw [millwrightlaw13_Long.l4] at h
        refine WpC.seq ?_
        refine WpC.reg (U := Un) (st1 := ⟨[(1, .p I6 a1), (13, .p (.list (.list (.named 3))) a0), (14, .p I6 ((a0.length : Int) : Int)), (15, .p I6 v3), (16, .p .bool ((decide (v3 < (a0.length : Int))) : Bool))], []⟩) [1, 13, 14, 15, 16] [] hN (.cons (sok_cmp (U := Un) (rs := [(15, .p I6 v3), (14, .p I6 ((a0.length : Int) : Int))]) rfl rfl o0 o1 rfl) .nil) (by kernel_rfl) (by kernel_rfl) (by kernel_rfl) (Conv.refl (U := Un) _) ?_
        refine thenQ_normal ?_
        refine WpC.seq ?_
        refine WpC.cond (U := Un) (b := (decide (v3 < (a0.length : Int)))) (.tmp (.tail _ (.tail _ (.tail _ (.tail _ (.head _)))))) (fun hc7 => ?_) (fun hc7 => ?_)
        · replace h := ite_t hc7 h
          refine WpC.conv (Conv.keep (U := Un) (b := ⟨[(1, .p I6 a1), (13, .p (.list (.list (.named 3))) a0), (14, .p I6 ((a0.length : Int) : Int)), (15, .p I6 v3)], []⟩) [1, 13, 14, 15] [] (by kernel_rfl)) (WpC.skip ?_)
          refine thenQ_normal ?_
          refine WpC.seqJ (U := Un) (fun st' => millwrightlaw13_Long.j8 k (millwrightlaw13_Long.l4 k a0 a1 n) a0 a1 v3 = some o5 ∧ st' = ⟨[(1, .p I6 a1), (13, .p (.list (.list (.named 3))) a0), (14, .p I6 ((a0.length : Int) : Int)), (15, .p I6 v3)], []⟩) ?_ ?_
          · refine WpC.block ?_
            refine WpC.seq ?_
            obtain ⟨v9, hv9, h⟩ := bind_some h
            refine WpC.reg (U := Un) (st1 := ⟨[(1, .p I6 a1), (6, .p (.list (.named 3)) v9), (13, .p (.list (.list (.named 3))) a0), (14, .p I6 ((a0.length : Int) : Int)), (15, .p I6 v3)], []⟩) [1, 6, 13, 14, 15] [] hN (.cons (sok_indexL (U := Un) (rs := [(13, .p (.list (.list (.named 3))) a0), (15, .p I6 v3)]) rfl rfl sl_33 o0 o1 hv9) (.cons (sok_loadP (U := Un) (rs := [(17, .pp (.list (.named 3)) v9)]) rfl rfl ty_36 o0) (.cons (mva (U := Un) (v := .p (.list (.named 3)) v9) rfl rfl) .nil))) (by kernel_rfl) (by kernel_rfl) (by kernel_rfl) (Conv.refl (U := Un) _) ?_
            refine thenQ_normal ?_
            refine WpC.seq ?_
            refine WpC.seq ?_
            refine WpC.reg (U := Un) (st1 := ⟨[(1, .p I6 a1), (6, .p (.list (.named 3)) v9), (13, .p (.list (.list (.named 3))) a0), (14, .p I6 ((a0.length : Int) : Int)), (15, .p I6 v3), (22, .p .bool ((decide ((v9.length : Int) > a1)) : Bool))], []⟩) [1, 6, 13, 14, 15, 22] [] hN (.cons (mv (U := Un) (v := .p (.list (.named 3)) v9) rfl rfl) (.cons (sok_lenL (U := Un) (rs := [(19, .p (.list (.named 3)) v9)]) rfl rfl Tryd.underlying36 o0) (.cons (mv (U := Un) (v := .p I6 a1) rfl rfl) (.cons (sok_cmp (U := Un) (rs := [(20, .p I6 ((v9.length : Int) : Int)), (21, .p I6 a1)]) rfl rfl o0 o1 rfl) .nil)))) (by kernel_rfl) (by kernel_rfl) (by kernel_rfl) (Conv.refl (U := Un) _) ?_
            refine thenQ_normal ?_
            refine WpC.cond (U := Un) (b := (decide ((v9.length : Int) > a1))) (.tmp (.tail _ (.tail _ (.tail _ (.tail _ (.tail _ (.head _))))))) (fun hc10 => ?_) (fun hc10 => ?_)
            · replace h := ite_t hc10 h
              refine WpC.seq ?_
              refine WpC.reg (U := Un) (st1 := ⟨[(4, .p .bool true)], []⟩) [4] [] hN (.cons (sok_move (U := Un) (rs := []) rfl (.inr rfl) (.bool _ _)) .nil) (by kernel_rfl) (by kernel_rfl) (by kernel_rfl) (Conv.refl (U := Un) _) ?_
              refine thenQ_normal ?_
              refine WpC.ret ?_
              refine thenQ_ret ?_
              refine blockQ_ret ?_
              refine thenQ_ret ?_
              have hq := Option.some.inj h
              subst hq
              refine thenQ_ret ?_
              have h := hout6
              refine blockQ_ret ?_
              refine thenQ_ret ?_
              have hq := Option.some.inj h
              subst hq
              exact ends_ret (retV_1 rfl (.head _)) ain_nil
            · replace h := ite_f hc10 h
              refine WpC.conv (Conv.keep (U := Un) (b := ⟨[(1, .p I6 a1), (6, .p (.list (.named 3)) v9), (13, .p (.list (.list (.named 3))) a0), (14, .p I6 ((a0.length : Int) : Int)), (15, .p I6 v3)], []⟩) [1, 6, 13, 14, 15] [] (by kernel_rfl)) (WpC.skip ?_)
              refine thenQ_normal ?_
              refine WpC.seq ?_
              refine WpC.reg (U := Un) (st1 := ⟨[(1, .p I6 a1), (13, .p (.list (.list (.named 3))) a0), (14, .p I6 ((a0.length : Int) : Int)), (15, .p I6 v3), (23, .p (.list (.named 3)) v9), (24, .p I6 ((v9.length : Int) : Int)), (25, .p I6 (0 : Int))], []⟩) [1, 13, 14, 15, 23, 24, 25] [] hN (.cons (mv (U := Un) (v := .p (.list (.named 3)) v9) rfl rfl) (.cons (sok_lenL (U := Un) (rs := [(23, .p (.list (.named 3)) v9)]) rfl rfl Tryd.underlying36 o0) (.cons (sok_move (U := Un) (rs := []) rfl (.inl rfl) (.int _ _ _)) .nil))) (by kernel_rfl) (by kernel_rfl) (by kernel_rfl) (Conv.refl (U := Un) _) ?_
              refine thenQ_normal ?_
              refine WpC.block ?_
              obtain ⟨o13, hlo13, h⟩ := bind_some h
              have hout14 := h
              clear h
              refine WpC.loop (U := Un) (fun n st' => ∃ v11 : Int, millwrightlaw13_Long.l12 k a0 a1 v3 v9 n v11 = some o13 ∧ st' = ⟨[(1, .p I6 a1), (13, .p (.list (.list (.named 3))) a0), (14, .p I6 ((a0.length : Int) : Int)), (15, .p I6 v3), (23, .p (.list (.named 3)) v9), (24, .p I6 ((v9.length : Int) : Int)), (25, .p I6 v11)], []⟩) k ⟨0, hlo13, rfl⟩ ?_
              clear hlo13
              rintro (_ | n) _ ⟨v11, h, rfl⟩
              · cases h
              · rw [millwrightlaw13_Long.l12] at h
                refine WpC.seq ?_
                refine WpC.reg (U := Un) (st1 := ⟨[(1, .p I6 a1), (13, .p (.list (.list (.named 3))) a0), (14, .p I6 ((a0.length : Int) : Int)), (15, .p I6 v3), (23, .p (.list (.named 3)) v9), (24, .p I6 ((v9.length : Int) : Int)), (25, .p I6 v11), (26, .p .bool ((decide (v11 < (v9.length : Int))) : Bool))], []⟩) [1, 13, 14, 15, 23, 24, 25, 26] [] hN (.cons (sok_cmp (U := Un) (rs := [(25, .p I6 v11), (24, .p I6 ((v9.length : Int) : Int))]) rfl rfl o0 o1 rfl) .nil) (by kernel_rfl) (by kernel_rfl) (by kernel_rfl) (Conv.refl (U := Un) _) ?_
                refine thenQ_normal ?_
                refine WpC.seq ?_
                refine WpC.cond (U := Un) (b := (decide (v11 < (v9.length : Int)))) (.tmp (.tail _ (.tail _ (.tail _ (.tail _ (.tail _ (.tail _ (.tail _ (.head _))))))))) (fun hc15 => ?_) (fun hc15 => ?_)
                · replace h := ite_t hc15 h
                  refine WpC.conv (Conv.keep (U := Un) (b := ⟨[(1, .p I6 a1), (13, .p (.list (.list (.named 3))) a0), (14, .p I6 ((a0.length : Int) : Int)), (15, .p I6 v3), (23, .p (.list (.named 3)) v9), (24, .p I6 ((v9.length : Int) : Int)), (25, .p I6 v11)], []⟩) [1, 13, 14, 15, 23, 24, 25] [] (by kernel_rfl)) (WpC.skip ?_)
                  refine thenQ_normal ?_
                  refine WpC.seqJ (U := Un) (fun st' => millwrightlaw13_Long.j16 k (millwrightlaw13_Long.l12 k a0 a1 v3 v9 n) a0 a1 v3 v9 v11 = some o13 ∧ st' = ⟨[(1, .p I6 a1), (13, .p (.list (.list (.named 3))) a0), (14, .p I6 ((a0.length : Int) : Int)), (15, .p I6 v3), (23, .p (.list (.named 3)) v9), (24, .p I6 ((v9.length : Int) : Int)), (25, .p I6 v11)], []⟩) ?_ ?_
                  · refine WpC.block ?_
                    refine WpC.seq ?_
                    obtain ⟨v17, hv17, h⟩ := bind_some h
                    refine WpC.reg (U := Un) (st1 := ⟨[(1, .p I6 a1), (8, .loc 8 0), (13, .p (.list (.list (.named 3))) a0), (14, .p I6 ((a0.length : Int) : Int)), (15, .p I6 v3), (23, .p (.list (.named 3)) v9), (24, .p I6 ((v9.length : Int) : Int)), (25, .p I6 v11)], [(8, .box [.p I6 v17.f_Kind, .p .str v17.f_Text, .p .str v17.f_From, .p .str v17.f_To])]⟩) [1, 8, 13, 14, 15, 23, 24, 25] [8] hN (.cons (sok_indexL (U := Un) (rs := [(23, .p (.list (.named 3)) v9), (25, .p I6 v11)]) rfl rfl sl_36 o0 o1 hv17) (.cons (sok_loadP (U := Un) (rs := [(27, .pp (.named 3) v17)]) rfl rfl ty_42 o0) (.cons (sok_allocZ (U := Un) (rs := []) (d := 8) (us := [.p I6 (0 : Int), .p .str ([] : List UInt8), .p .str ([] : List UInt8), .p .str ([] : List UInt8)]) (v := (.agg #[.int .i64 0, .string ByteArray.empty, .string ByteArray.empty, .string ByteArray.empty])) rfl rfl rfl (by kernel_rfl) rfl (.data (fun _ _ _ => .int _ _) (.data (fun _ _ _ => rd_str0) (.data (fun _ _ _ => rd_str0) (.data (fun _ _ _ => rd_str0) .nil)))) (by kernel_rfl)) (.cons (sok_storeB (U := Un) (rs := [(8, .loc 8 0), (28, .p (.named 3) v17)]) (v := .p (.named 3) v17) (mid' := [.p I6 v17.f_Kind, .p .str v17.f_Text, .p .str v17.f_From, .p .str v17.f_To]) [] [.p I6 (0 : Int), .p .str ([] : List UInt8), .p .str ([] : List UInt8), .p .str ([] : List UInt8)] [] rfl rfl rfl ty_42 o0 o1 (.data (.named (.pair (.one _ _) (.pair (.one _ _) (.pair (.one _ _) (.pair (.one _ _) .unit)))))) rfl rfl rfl rfl rfl rfl) .nil)))) (by kernel_rfl) (by kernel_rfl) (by kernel_rfl) (Conv.refl (U := Un) _) ?_
                    refine thenQ_normal ?_
                    refine WpC.seqJ (U := Un) (fun st' => ∃ v18 : Bool, millwrightlaw13_Long.j20 k (millwrightlaw13_Long.l12 k a0 a1 v3 v9 n) a0 a1 v3 v9 v11 v18 = some o13 ∧ st' = ⟨[(1, .p I6 a1), (13, .p (.list (.list (.named 3))) a0), (14, .p I6 ((a0.length : Int) : Int)), (15, .p I6 v3), (23, .p (.list (.named 3)) v9), (24, .p I6 ((v9.length : Int) : Int)), (25, .p I6 v11), (44, .p .bool v18)], []⟩) ?_ ?_
                    · rcases bool_cases (decide ((v17.f_Text.length : Int) > 100)) with hc21 | hc21
                      · replace h := ite_t hc21 h
                        refine WpC.reg (U := Un) (st1 := ⟨[(1, .p I6 a1), (13, .p (.list (.list (.named 3))) a0), (14, .p I6 ((a0.length : Int) : Int)), (15, .p I6 v3), (23, .p (.list (.named 3)) v9), (24, .p I6 ((v9.length : Int) : Int)), (25, .p I6 v11), (44, .p .bool true)], []⟩) [1, 13, 14, 15, 23, 24, 25, 44] [] hN (.cons (sok_fieldB (U := Un) (rs := [(8, .loc 8 0)]) rfl rfl fd_42_1 (by decide) o0) (.cons (sok_loadB (U := Un) (t := .str) (rs := [(29, .loc 8 1)]) [.p I6 v17.f_Kind] [.p .str v17.f_Text] [.p .str v17.f_From, .p .str v17.f_To] (v := .p .str v17.f_Text) rfl rfl ty_9 o0 rfl rfl rfl rfl (.data (.one _ _))) (.cons (sok_lenS (U := Un) (rs := [(30, .p .str v17.f_Text)]) rfl rfl Tryd.underlying9 o0) (.cons (sok_cmp (U := Un) (rs := [(31, .p I6 ((v17.f_Text.length : Int) : Int))]) rfl rfl o0 (.int _ _ _) rfl) (.cons (mv (U := Un) (v := .p .bool ((decide ((v17.f_Text.length : Int) > 100)) : Bool)) rfl rfl) (.cons (sok_skip rfl rfl hc21) (.cons (sok_skip rfl rfl hc21) (.cons (sok_skip rfl rfl hc21) (.cons (sok_skip rfl rfl hc21) (.cons (sok_pickT (U := Un) (rs := [(33, .p .bool ((decide ((v17.f_Text.length : Int) > 100)) : Bool))]) rfl rfl o0 hc21 (.bool _ _)) (.cons (mv (U := Un) (v := .p .bool true) rfl rfl) (.cons (sok_skip rfl rfl rfl) (.cons (sok_skip rfl rfl rfl) (.cons (sok_skip rfl rfl rfl) (.cons (sok_skip rfl rfl rfl) (.cons (sok_pickT (U := Un) (rs := [(39, .p .bool true)]) rfl rfl o0 rfl (.bool _ _)) .nil)))))))))))))))) (by kernel_rfl) (by kernel_rfl) (by kernel_rfl) (Conv.refl (U := Un) _) ?_
                        refine thenQ_normal ?_
                        exact ⟨true, h, rfl⟩
                      · replace h := ite_f hc21 h
                        rcases bool_cases (decide ((v17.f_From.length : Int) > 100)) with hc22 | hc22
                        · replace h := ite_t hc22 h
                          refine WpC.reg (U := Un) (st1 := ⟨[(1, .p I6 a1), (13, .p (.list (.list (.named 3))) a0), (14, .p I6 ((a0.length : Int) : Int)), (15, .p I6 v3), (23, .p (.list (.named 3)) v9), (24, .p I6 ((v9.length : Int) : Int)), (25, .p I6 v11), (44, .p .bool true)], []⟩) [1, 13, 14, 15, 23, 24, 25, 44] [] hN (.cons (sok_fieldB (U := Un) (rs := [(8, .loc 8 0)]) rfl rfl fd_42_1 (by decide) o0) (.cons (sok_loadB (U := Un) (t := .str) (rs := [(29, .loc 8 1)]) [.p I6 v17.f_Kind] [.p .str v17.f_Text] [.p .str v17.f_From, .p .str v17.f_To] (v := .p .str v17.f_Text) rfl rfl ty_9 o0 rfl rfl rfl rfl (.data (.one _ _))) (.cons (sok_lenS (U := Un) (rs := [(30, .p .str v17.f_Text)]) rfl rfl Tryd.underlying9 o0) (.cons (sok_cmp (U := Un) (rs := [(31, .p I6 ((v17.f_Text.length : Int) : Int))]) rfl rfl o0 (.int _ _ _) rfl) (.cons (mv (U := Un) (v := .p .bool ((decide ((v17.f_Text.length : Int) > 100)) : Bool)) rfl rfl) (.cons (sok_run rfl rfl hc21 (sok_fieldB (U := Un) (rs := [(8, .loc 8 0)]) rfl rfl fd_42_2 (by decide) o0)) (.cons (sok_run rfl rfl hc21 (sok_loadB (U := Un) (t := .str) (rs := [(34, .loc 8 2)]) [.p I6 v17.f_Kind, .p .str v17.f_Text] [.p .str v17.f_From] [.p .str v17.f_To] (v := .p .str v17.f_From) rfl rfl ty_9 o0 rfl rfl rfl rfl (.data (.one _ _)))) (.cons (sok_run rfl rfl hc21 (sok_lenS (U := Un) (rs := [(35, .p .str v17.f_From)]) rfl rfl Tryd.underlying9 o0)) (.cons (sok_run rfl rfl hc21 (sok_cmp (U := Un) (rs := [(36, .p I6 ((v17.f_From.length : Int) : Int))]) rfl rfl o0 (.int _ _ _) rfl)) (.cons (sok_pickF (U := Un) (rs := [(33, .p .bool ((decide ((v17.f_Text.length : Int) > 100)) : Bool)), (37, .p .bool ((decide ((v17.f_From.length : Int) > 100)) : Bool))]) rfl rfl o0 hc21 o1) (.cons (mv (U := Un) (v := .p .bool ((decide ((v17.f_From.length : Int) > 100)) : Bool)) rfl rfl) (.cons (sok_skip rfl rfl hc22) (.cons (sok_skip rfl rfl hc22) (.cons (sok_skip rfl rfl hc22) (.cons (sok_skip rfl rfl hc22) (.cons (sok_pickT (U := Un) (rs := [(39, .p .bool ((decide ((v17.f_From.length : Int) > 100)) : Bool))]) rfl rfl o0 hc22 (.bool _ _)) .nil)))))))))))))))) (by kernel_rfl) (by kernel_rfl) (by kernel_rfl) (Conv.refl (U := Un) _) ?_
                          refine thenQ_normal ?_
                          exact ⟨true, h, rfl⟩
                        · replace h := ite_f hc22 h
                          refine WpC.reg (U := Un) (st1 := ⟨[(1, .p I6 a1), (13, .p (.list (.list (.named 3))) a0), (14, .p I6 ((a0.length : Int) : Int)), (15, .p I6 v3), (23, .p (.list (.named 3)) v9), (24, .p I6 ((v9.length : Int) : Int)), (25, .p I6 v11), (44, .p .bool ((decide ((v17.f_To.length : Int) > 100)) : Bool))], []⟩) [1, 13, 14, 15, 23, 24, 25, 44] [] hN (.cons (sok_fieldB (U := Un) (rs := [(8, .loc 8 0)]) rfl rfl fd_42_1 (by decide) o0) (.cons (sok_loadB (U := Un) (t := .str) (rs := [(29, .loc 8 1)]) [.p I6 v17.f_Kind] [.p .str v17.f_Text] [.p .str v17.f_From, .p .str v17.f_To] (v := .p .str v17.f_Text) rfl rfl ty_9 o0 rfl rfl rfl rfl (.data (.one _ _))) (.cons (sok_lenS (U := Un) (rs := [(30, .p .str v17.f_Text)]) rfl rfl Tryd.underlying9 o0) (.cons (sok_cmp (U := Un) (rs := [(31, .p I6 ((v17.f_Text.length : Int) : Int))]) rfl rfl o0 (.int _ _ _) rfl) (.cons (mv (U := Un) (v := .p .bool ((decide ((v17.f_Text.length : Int) > 100)) : Bool)) rfl rfl) (.cons (sok_run rfl rfl hc21 (sok_fieldB (U := Un) (rs := [(8, .loc 8 0)]) rfl rfl fd_42_2 (by decide) o0)) (.cons (sok_run rfl rfl hc21 (sok_loadB (U := Un) (t := .str) (rs := [(34, .loc 8 2)]) [.p I6 v17.f_Kind, .p .str v17.f_Text] [.p .str v17.f_From] [.p .str v17.f_To] (v := .p .str v17.f_From) rfl rfl ty_9 o0 rfl rfl rfl rfl (.data (.one _ _)))) (.cons (sok_run rfl rfl hc21 (sok_lenS (U := Un) (rs := [(35, .p .str v17.f_From)]) rfl rfl Tryd.underlying9 o0)) (.cons (sok_run rfl rfl hc21 (sok_cmp (U := Un) (rs := [(36, .p I6 ((v17.f_From.length : Int) : Int))]) rfl rfl o0 (.int _ _ _) rfl)) (.cons (sok_pickF (U := Un) (rs := [(33, .p .bool ((decide ((v17.f_Text.length : Int) > 100)) : Bool)), (37, .p .bool ((decide ((v17.f_From.length : Int) > 100)) : Bool))]) rfl rfl o0 hc21 o1) (.cons (mv (U := Un) (v := .p .bool ((decide ((v17.f_From.length : Int) > 100)) : Bool)) rfl rfl) (.cons (sok_run rfl rfl hc22 (sok_fieldB (U := Un) (rs := [(8, .loc 8 0)]) rfl rfl fd_42_3 (by decide) o0)) (.cons (sok_run rfl rfl hc22 (sok_loadB (U := Un) (t := .str) (rs := [(40, .loc 8 3)]) [.p I6 v17.f_Kind, .p .str v17.f_Text, .p .str v17.f_From] [.p .str v17.f_To] [] (v := .p .str v17.f_To) rfl rfl ty_9 o0 rfl rfl rfl rfl (.data (.one _ _)))) (.cons (sok_run rfl rfl hc22 (sok_lenS (U := Un) (rs := [(41, .p .str v17.f_To)]) rfl rfl Tryd.underlying9 o0)) (.cons (sok_run rfl rfl hc22 (sok_cmp (U := Un) (rs := [(42, .p I6 ((v17.f_To.length : Int) : Int))]) rfl rfl o0 (.int _ _ _) rfl)) (.cons (sok_pickF (U := Un) (rs := [(39, .p .bool ((decide ((v17.f_From.length : Int) > 100)) : Bool)), (43, .p .bool ((decide ((v17.f_To.length : Int) > 100)) : Bool))]) rfl rfl o0 hc22 o1) .nil)))))))))))))))) (by kernel_rfl) (by kernel_rfl) (by kernel_rfl) (Conv.refl (U := Un) _) ?_
                          refine thenQ_normal ?_
                          exact ⟨(decide ((v17.f_To.length : Int) > 100)), h, rfl⟩
                    · rintro _ ⟨v18, h, rfl⟩
                      unfold millwrightlaw13_Long.j20 at h
                      refine WpC.cond (U := Un) (b := v18) (.tmp (.tail _ (.tail _ (.tail _ (.tail _ (.tail _ (.tail _ (.tail _ (.head _))))))))) (fun hc19 => ?_) (fun hc19 => ?_)
                      · replace h := ite_t hc19 h
                        refine WpC.seq ?_
                        refine WpC.reg (U := Un) (st1 := ⟨[(4, .p .bool true)], []⟩) [4] [] hN (.cons (sok_move (U := Un) (rs := []) rfl (.inr rfl) (.bool _ _)) .nil) (by kernel_rfl) (by kernel_rfl) (by kernel_rfl) (Conv.refl (U := Un) _) ?_
                        refine thenQ_normal ?_
                        refine WpC.ret ?_
                        refine blockQ_ret ?_
                        refine thenQ_ret ?_
                        have hq := Option.some.inj h
                        subst hq
                        refine thenQ_ret ?_
                        have h := hout14
                        refine blockQ_ret ?_
                        refine blockQ_ret ?_
                        refine thenQ_ret ?_
                        have hq := Option.some.inj h
                        subst hq
                        refine thenQ_ret ?_
                        have h := hout6
                        refine blockQ_ret ?_
                        refine thenQ_ret ?_
                        have hq := Option.some.inj h
                        subst hq
                        exact ends_ret (retV_1 rfl (.head _)) ain_nil
                      · replace h := ite_f hc19 h
                        refine WpC.conv (Conv.keep (U := Un) (b := ⟨[(1, .p I6 a1), (13, .p (.list (.list (.named 3))) a0), (14, .p I6 ((a0.length : Int) : Int)), (15, .p I6 v3), (23, .p (.list (.named 3)) v9), (24, .p I6 ((v9.length : Int) : Int)), (25, .p I6 v11)], []⟩) [1, 13, 14, 15, 23, 24, 25] [] (by kernel_rfl)) (WpC.skip ?_)
                        refine blockQ_normal ?_
                        refine thenQ_normal ?_
                        exact ⟨h, rfl⟩
                  · rintro _ ⟨h, rfl⟩
                    unfold millwrightlaw13_Long.j16 at h
                    refine WpC.reg (U := Un) (st1 := ⟨[(1, .p I6 a1), (13, .p (.list (.list (.named 3))) a0), (14, .p I6 ((a0.length : Int) : Int)), (15, .p I6 v3), (23, .p (.list (.named 3)) v9), (24, .p I6 ((v9.length : Int) : Int)), (25, .p I6 ((IntKind.i64.wrap (v11 + 1)) : Int))], []⟩) [1, 13, 14, 15, 23, 24, 25] [] hN (.cons (sok_arith (U := Un) (rs := [(25, .p I6 v11)]) rfl rfl o0 (.int _ _ _) rfl) (.cons (mv (U := Un) (v := .p I6 ((IntKind.i64.wrap (v11 + 1)) : Int)) rfl rfl) .nil)) (by kernel_rfl) (by kernel_rfl) (by kernel_rfl) (Conv.refl (U := Un) _) ?_
                    refine thenQ_normal ?_
                    exact ⟨n, Nat.lt_succ_self n, (IntKind.i64.wrap (v11 + 1)), h, rfl⟩
                · replace h := ite_f hc15 h
                  refine WpC.conv (Conv.keep (U := Un) (b := ⟨[(1, .p I6 a1), (13, .p (.list (.list (.named 3))) a0), (14, .p I6 ((a0.length : Int) : Int)), (15, .p I6 v3)], []⟩) [1, 13, 14, 15] [] (by kernel_rfl)) (WpC.exit ?_)
                  refine thenQ_exit ?_
                  have hq := Option.some.inj h
                  subst hq
                  refine thenQ_exit ?_
                  have h := hout14
                  refine blockQ_hit ?_
                  refine blockQ_normal ?_
                  refine thenQ_normal ?_
                  exact ⟨h, rfl⟩
          · rintro _ ⟨h, rfl⟩
            unfold millwrightlaw13_Long.j8 at h
            refine WpC.reg (U := Un) (st1 := ⟨[(1, .p I6 a1), (13, .p (.list (.list (.named 3))) a0), (14, .p I6 ((a0.length : Int) : Int)), (15, .p I6 ((IntKind.i64.wrap (v3 + 1)) : Int))], []⟩) [1, 13, 14, 15] [] hN (.cons (sok_arith (U := Un) (rs := [(15, .p I6 v3)]) rfl rfl o0 (.int _ _ _) rfl) (.cons (mv (U := Un) (v := .p I6 ((IntKind.i64.wrap (v3 + 1)) : Int)) rfl rfl) .nil)) (by kernel_rfl) (by kernel_rfl) (by kernel_rfl) (Conv.refl (U := Un) _) ?_
            refine thenQ_normal ?_
            exact ⟨n, Nat.lt_succ_self n, (IntKind.i64.wrap (v3 + 1)), h, rfl⟩
        · replace h := ite_f hc7 h
          refine WpC.conv (Conv.keep (U := Un) (b := ⟨[], []⟩) [] [] (by kernel_rfl)) (WpC.exit ?_)
          refine thenQ_exit ?_
          have hq := Option.some.inj h
          subst hq
          refine thenQ_exit ?_
          have h := hout6
          refine blockQ_hit ?_
          refine thenQ_normal ?_
          exact ⟨h, rfl⟩
    · rintro _ ⟨h, rfl⟩
      unfold millwrightlaw13_Long.j2 at h
      refine WpC.seq ?_
      refine WpC.reg (U := Un) (st1 := ⟨[(4, .p .bool false)], []⟩) [4] [] hN (.cons (sok_move (U := Un) (rs := []) rfl (.inr rfl) (.bool _ _)) .nil) (by kernel_rfl) (by kernel_rfl) (by kernel_rfl) (Conv.refl (U := Un) _) ?_
      refine thenQ_normal ?_
      refine WpC.ret ?_
      have hq := Option.some.inj h
      subst hq
      exact ends_ret (retV_1 rfl (.head _)) ain_nil

theorem lex_Literal.ok (O : Out) (hO : GOkL O) (k : Nat) (a0 : List T_lex_Piece) (out : (List UInt8) × Bool) (h : lex_Literal.f k a0 = some out) : COk Un O Tryd.prog 19 { ar := [.p (.list (.named 3)) a0], r := .tup [.p .str out.1, .p .bool out.2] } := by
  refine cok_of_wp Tryd.func19 rfl (k := 27) rfl (Nat.le_of_ble_eq_true rfl) (namesOk_pure rfl rfl rfl rfl) ?_
  intro B hN
  refine WpC.conv (Conv.keep (U := Un) (b := ⟨[(0, .p (.list (.named 3)) a0)], []⟩) [0] [] (by kernel_rfl)) ?_
  unfold lex_Literal.f at h
  refine WpC.seq ?_
  refine WpC.reg (U := Un) (st1 := ⟨[(0, .p (.list (.named 3)) a0)], []⟩) [0] [] hN (.cons (sok_move (U := Un) (rs := []) rfl (.inr rfl) (.str _ _)) (.cons (sok_move (U := Un) (rs := []) rfl (.inr rfl) (.bool _ _)) .nil)) (by kernel_rfl) (by kernel_rfl) (by kernel_rfl) (Conv.refl (U := Un) _) ?_
  refine thenQ_normal ?_
  refine WpC.seq ?_
  refine WpC.reg (U := Un) (st1 := ⟨[(0, .p (.list (.named 3)) a0), (4, .p .str (([] : List UInt8) : List UInt8))], []⟩) [0, 4] [] hN (.cons (sok_move (U := Un) (rs := []) rfl (.inr rfl) (.str _ _)) .nil) (by kernel_rfl) (by kernel_rfl) (by kernel_rfl) (Conv.refl (U := Un) _) ?_
  refine thenQ_normal ?_
  refine WpC.seqJ (U := Un) (fun st' => ∃ v1 : List UInt8, lex_Literal.j2 k v1 = some out ∧ st' = ⟨[(4, .p .str v1)], []⟩) ?_ ?_
  · refine WpC.seq ?_
    refine WpC.reg (U := Un) (st1 := ⟨[(4, .p .str (([] : List UInt8) : List UInt8)), (7, .p (.list (.named 3)) a0), (8, .p I6 ((a0.length : Int) : Int)), (9, .p I6 (0 : Int))], []⟩) [4, 7, 8, 9] [] hN (.cons (mv (U := Un) (v := .p (.list (.named 3)) a0) rfl rfl) (.cons (sok_lenL (U := Un) (rs := [(7, .p (.list (.named 3)) a0)]) rfl rfl Tryd.underlying36 o0) (.cons (sok_move (U := Un) (rs := []) rfl (.inl rfl) (.int _ _ _)) .nil))) (by kernel_rfl) (by kernel_rfl) (by kernel_rfl) (Conv.refl (U := Un) _) ?_
    refine thenQ_normal ?_
    refine WpC.block ?_
    obtain ⟨o7, hlo7, h⟩ := bind_some h
    have hout8 := h
    clear h
    refine WpC.loop (U := Un) (fun n st' => ∃ v3 : List UInt8, ∃ v4 : Int, lex_Literal.l5 k a0 n v3 v4 = some o7 ∧ st' = ⟨[(4, .p .str v3), (7, .p (.list (.named 3)) a0), (8, .p I6 ((a0.length : Int) : Int)), (9, .p I6 v4)], []⟩) k ⟨([] : List UInt8), 0, hlo7, rfl⟩ ?_
    clear hlo7
    rintro (_ | n) _ ⟨v3, v4, h, rfl⟩
    · cases h
    · rw [lex_Literal.l5] at h
      refine WpC.seq ?_
      refine WpC.reg (U := Un) (st1 := ⟨[(4, .p .str v3), (7, .p (.list (.named 3)) a0), (8, .p I6 ((a0.length : Int) : Int)), (9, .p I6 v4), (10, .p .bool ((decide (v4 < (a0.length : Int))) : Bool))], []⟩) [4, 7, 8, 9, 10] [] hN (.cons (sok_cmp (U := Un) (rs := [(9, .p I6 v4), (8, .p I6 ((a0.length : Int) : Int))]) rfl rfl o0 o1 rfl) .nil) (by kernel_rfl) (by kernel_rfl) (by kernel_rfl) (Conv.refl (U := Un) _) ?_
      refine thenQ_normal ?_
      refine WpC.seq ?_
      refine WpC.cond (U := Un) (b := (decide (v4 < (a0.length : Int)))) (.tmp (.tail _ (.tail _ (.tail _ (.tail _ (.head _)))))) (fun hc9 => ?_) (fun hc9 => ?_)
      · replace h := ite_t hc9 h
        refine WpC.conv (Conv.keep (U := Un) (b := ⟨[(4, .p .str v3), (7, .p (.list (.named 3)) a0), (8, .p I6 ((a0.length : Int) : Int)), (9, .p I6 v4)], []⟩) [4, 7, 8, 9] [] (by kernel_rfl)) (WpC.skip ?_)
        refine thenQ_normal ?_
        refine WpC.seqJ (U := Un) (fun st' => ∃ v10 : List UInt8, lex_Literal.j11 k (lex_Literal.l5 k a0 n) a0 v4 v10 = some o7 ∧ st' = ⟨[(4, .p .str v10), (7, .p (.list (.named 3)) a0), (8, .p I6 ((a0.length : Int) : Int)), (9, .p I6 v4)], []⟩) ?_ ?_
        · refine WpC.block ?_
          refine WpC.seq ?_
          obtain ⟨v12, hv12, h⟩ := bind_some h
          refine WpC.reg (U := Un) (st1 := ⟨[(4, .p .str v3), (6, .loc 6 0), (7, .p (.list (.named 3)) a0), (8, .p I6 ((a0.length : Int) : Int)), (9, .p I6 v4)], [(6, .box [.p I6 v12.f_Kind, .p .str v12.f_Text, .p .str v12.f_From, .p .str v12.f_To])]⟩) [4, 6, 7, 8, 9] [6] hN (.cons (sok_indexL (U := Un) (rs := [(7, .p (.list (.named 3)) a0), (9, .p I6 v4)]) rfl rfl sl_36 o0 o1 hv12) (.cons (sok_loadP (U := Un) (rs := [(11, .pp (.named 3) v12)]) rfl rfl ty_42 o0) (.cons (sok_allocZ (U := Un) (rs := []) (d := 6) (us := [.p I6 (0 : Int), .p .str ([] : List UInt8), .p .str ([] : List UInt8), .p .str ([] : List UInt8)]) (v := (.agg #[.int .i64 0, .string ByteArray.empty, .string ByteArray.empty, .string ByteArray.empty])) rfl rfl rfl (by kernel_rfl) rfl (.data (fun _ _ _ => .int _ _) (.data (fun _ _ _ => rd_str0) (.data (fun _ _ _ => rd_str0) (.data (fun _ _ _ => rd_str0) .nil)))) (by kernel_rfl)) (.cons (sok_storeB (U := Un) (rs := [(6, .loc 6 0), (12, .p (.named 3) v12)]) (v := .p (.named 3) v12) (mid' := [.p I6 v12.f_Kind, .p .str v12.f_Text, .p .str v12.f_From, .p .str v12.f_To]) [] [.p I6 (0 : Int), .p .str ([] : List UInt8), .p .str ([] : List UInt8), .p .str ([] : List UInt8)] [] rfl rfl rfl ty_42 o0 o1 (.data (.named (.pair (.one _ _) (.pair (.one _ _) (.pair (.one _ _) (.pair (.one _ _) .unit)))))) rfl rfl rfl rfl rfl rfl) .nil)))) (by kernel_rfl) (by kernel_rfl) (by kernel_rfl) (Conv.refl (U := Un) _) ?_
          refine thenQ_normal ?_
          refine WpC.seqJ (U := Un) (fun st' => lex_Literal.j14 k (lex_Literal.l5 k a0 n) a0 v3 v4 v12 = some o7 ∧ st' = ⟨[(4, .p .str v3), (6, .loc 6 0), (7, .p (.list (.named 3)) a0), (8, .p I6 ((a0.length : Int) : Int)), (9, .p I6 v4)], [(6, .box [.p I6 v12.f_Kind, .p .str v12.f_Text, .p .str v12.f_From, .p .str v12.f_To])]⟩) ?_ ?_
          · refine WpC.seqJ (U := Un) (fun st' => ∃ v15 : Bool, lex_Literal.j17 k (lex_Literal.l5 k a0 n) a0 v3 v4 v12 v15 = some o7 ∧ st' = ⟨[(4, .p .str v3), (6, .loc 6 0), (7, .p (.list (.named 3)) a0), (8, .p I6 ((a0.length : Int) : Int)), (9, .p I6 v4), (20, .p .bool v15)], [(6, .box [.p I6 v12.f_Kind, .p .str v12.f_Text, .p .str v12.f_From, .p .str v12.f_To])]⟩) ?_ ?_
            · rcases bool_cases (v12.f_Kind != 0) with hc18 | hc18
              · replace h := ite_t hc18 h
                refine WpC.reg (U := Un) (st1 := ⟨[(4, .p .str v3), (6, .loc 6 0), (7, .p (.list (.named 3)) a0), (8, .p I6 ((a0.length : Int) : Int)), (9, .p I6 v4), (20, .p .bool ((v12.f_Kind != 1) : Bool))], [(6, .box [.p I6 v12.f_Kind, .p .str v12.f_Text, .p .str v12.f_From, .p .str v12.f_To])]⟩) [4, 6, 7, 8, 9, 20] [6] hN (.cons (sok_fieldB (U := Un) (rs := [(6, .loc 6 0)]) rfl rfl fd_42_0 (by decide) o0) (.cons (sok_loadB (U := Un) (t := .int .i64) (rs := [(13, .loc 6 0)]) [] [.p I6 v12.f_Kind] [.p .str v12.f_Text, .p .str v12.f_From, .p .str v12.f_To] (v := .p I6 v12.f_Kind) rfl rfl ty_3 o0 rfl rfl rfl rfl (.data (.one _ _))) (.cons (sok_cmp (U := Un) (rs := [(14, .p I6 v12.f_Kind)]) rfl rfl o0 (.int _ _ _) rfl) (.cons (mv (U := Un) (v := .p .bool ((v12.f_Kind != 0) : Bool)) rfl rfl) (.cons (sok_run rfl rfl hc18 (sok_fieldB (U := Un) (rs := [(6, .loc 6 0)]) rfl rfl fd_42_0 (by decide) o0)) (.cons (sok_run rfl rfl hc18 (sok_loadB (U := Un) (t := .int .i64) (rs := [(17, .loc 6 0)]) [] [.p I6 v12.f_Kind] [.p .str v12.f_Text, .p .str v12.f_From, .p .str v12.f_To] (v := .p I6 v12.f_Kind) rfl rfl ty_3 o0 rfl rfl rfl rfl (.data (.one _ _)))) (.cons (sok_run rfl rfl hc18 (sok_cmp (U := Un) (rs := [(18, .p I6 v12.f_Kind)]) rfl rfl o0 (.int _ _ _) rfl)) (.cons (sok_pickT (U := Un) (rs := [(16, .p .bool ((v12.f_Kind != 0) : Bool)), (19, .p .bool ((v12.f_Kind != 1) : Bool))]) rfl rfl o0 hc18 o1) .nil)))))))) (by kernel_rfl) (by kernel_rfl) (by kernel_rfl) (Conv.refl (U := Un) _) ?_
                refine thenQ_normal ?_
                exact ⟨(v12.f_Kind != 1), h, rfl⟩
              · replace h := ite_f hc18 h
                refine WpC.reg (U := Un) (st1 := ⟨[(4, .p .str v3), (6, .loc 6 0), (7, .p (.list (.named 3)) a0), (8, .p I6 ((a0.length : Int) : Int)), (9, .p I6 v4), (20, .p .bool false)], [(6, .box [.p I6 v12.f_Kind, .p .str v12.f_Text, .p .str v12.f_From, .p .str v12.f_To])]⟩) [4, 6, 7, 8, 9, 20] [6] hN (.cons (sok_fieldB (U := Un) (rs := [(6, .loc 6 0)]) rfl rfl fd_42_0 (by decide) o0) (.cons (sok_loadB (U := Un) (t := .int .i64) (rs := [(13, .loc 6 0)]) [] [.p I6 v12.f_Kind] [.p .str v12.f_Text, .p .str v12.f_From, .p .str v12.f_To] (v := .p I6 v12.f_Kind) rfl rfl ty_3 o0 rfl rfl rfl rfl (.data (.one _ _))) (.cons (sok_cmp (U := Un) (rs := [(14, .p I6 v12.f_Kind)]) rfl rfl o0 (.int _ _ _) rfl) (.cons (mv (U := Un) (v := .p .bool ((v12.f_Kind != 0) : Bool)) rfl rfl) (.cons (sok_skip rfl rfl hc18) (.cons (sok_skip rfl rfl hc18) (.cons (sok_skip rfl rfl hc18) (.cons (sok_pickF (U := Un) (rs := [(16, .p .bool ((v12.f_Kind != 0) : Bool))]) rfl rfl o0 hc18 (.bool _ _)) .nil)))))))) (by kernel_rfl) (by kernel_rfl) (by kernel_rfl) (Conv.refl (U := Un) _) ?_
                refine thenQ_normal ?_
                exact ⟨false, h, rfl⟩
            · rintro _ ⟨v15, h, rfl⟩
              unfold lex_Literal.j17 at h
              refine WpC.cond (U := Un) (b := v15) (.tmp (.tail _ (.tail _ (.tail _ (.tail _ (.tail _ (.head _))))))) (fun hc16 => ?_) (fun hc16 => ?_)
              · replace h := ite_t hc16 h
                refine WpC.seq ?_
                refine WpC.reg (U := Un) (st1 := ⟨[(2, .p .str (([] : List UInt8) : List UInt8)), (3, .p .bool false)], []⟩) [2, 3] [] hN (.cons (sok_move (U := Un) (rs := []) rfl (.inr rfl) (.str _ _)) (.cons (sok_move (U := Un) (rs := []) rfl (.inr rfl) (.bool _ _)) .nil)) (by kernel_rfl) (by kernel_rfl) (by kernel_rfl) (Conv.refl (U := Un) _) ?_
                refine thenQ_normal ?_
                refine WpC.ret ?_
                refine thenQ_ret ?_
                refine blockQ_ret ?_
                refine thenQ_ret ?_
                have hq := Option.some.inj h
                subst hq
                refine thenQ_ret ?_
                have h := hout8
                refine blockQ_ret ?_
                refine thenQ_ret ?_
                have hq := Option.some.inj h
                subst hq
                exact ends_ret (retV_2 rfl (.head _) (.tail _ (.head _))) ain_nil
              · replace h := ite_f hc16 h
                refine WpC.conv (Conv.keep (U := Un) (b := ⟨[(4, .p .str v3), (6, .loc 6 0), (7, .p (.list (.named 3)) a0), (8, .p I6 ((a0.length : Int) : Int)), (9, .p I6 v4)], [(6, .box [.p I6 v12.f_Kind, .p .str v12.f_Text, .p .str v12.f_From, .p .str v12.f_To])]⟩) [4, 6, 7, 8, 9] [6] (by kernel_rfl)) (WpC.skip ?_)
                refine thenQ_normal ?_
                exact ⟨h, rfl⟩
          · rintro _ ⟨h, rfl⟩
            unfold lex_Literal.j14 at h
            obtain ⟨g13, h⟩ := if_some h
            refine WpC.reg (U := Un) (st1 := ⟨[(4, .p .str ((v3 ++ v12.f_Text) : List UInt8)), (7, .p (.list (.named 3)) a0), (8, .p I6 ((a0.length : Int) : Int)), (9, .p I6 v4)], []⟩) [4, 7, 8, 9] [] hN (.cons (mv (U := Un) (v := .p .str v3) rfl rfl) (.cons (sok_fieldB (U := Un) (rs := [(6, .loc 6 0)]) rfl rfl fd_42_1 (by decide) o0) (.cons (sok_loadB (U := Un) (t := .str) (rs := [(22, .loc 6 1)]) [.p I6 v12.f_Kind] [.p .str v12.f_Text] [.p .str v12.f_From, .p .str v12.f_To] (v := .p .str v12.f_Text) rfl rfl ty_9 o0 rfl rfl rfl rfl (.data (.one _ _))) (.cons (sok_cat (U := Un) (rs := [(21, .p .str v3), (23, .p .str v12.f_Text)]) rfl rfl o0 o1 g13) (.cons (mva (U := Un) (v := .p .str ((v3 ++ v12.f_Text) : List UInt8)) rfl rfl) .nil))))) (by kernel_rfl) (by kernel_rfl) (by kernel_rfl) (Conv.refl (U := Un) _) ?_
            refine blockQ_normal ?_
            refine thenQ_normal ?_
            exact ⟨(v3 ++ v12.f_Text), h, rfl⟩
        · rintro _ ⟨v10, h, rfl⟩
          unfold lex_Literal.j11 at h
          refine WpC.reg (U := Un) (st1 := ⟨[(4, .p .str v10), (7, .p (.list (.named 3)) a0), (8, .p I6 ((a0.length : Int) : Int)), (9, .p I6 ((IntKind.i64.wrap (v4 + 1)) : Int))], []⟩) [4, 7, 8, 9] [] hN (.cons (sok_arith (U := Un) (rs := [(9, .p I6 v4)]) rfl rfl o0 (.int _ _ _) rfl) (.cons (mv (U := Un) (v := .p I6 ((IntKind.i64.wrap (v4 + 1)) : Int)) rfl rfl) .nil)) (by kernel_rfl) (by kernel_rfl) (by kernel_rfl) (Conv.refl (U := Un) _) ?_
          refine thenQ_normal ?_
          exact ⟨n, Nat.lt_succ_self n, v10, (IntKind.i64.wrap (v4 + 1)), h, rfl⟩
      · replace h := ite_f hc9 h
        refine WpC.conv (Conv.keep (U := Un) (b := ⟨[(4, .p .str v3)], []⟩) [4] [] (by kernel_rfl)) (WpC.exit ?_)
        refine thenQ_exit ?_
        have hq := Option.some.inj h
        subst hq
        refine thenQ_exit ?_
        have h := hout8
        refine blockQ_hit ?_
        refine thenQ_normal ?_
        exact ⟨v3, h, rfl⟩
  · rintro _ ⟨v1, h, rfl⟩
    unfold lex_Literal.j2 at h
    refine WpC.seq ?_
    refine WpC.reg (U := Un) (st1 := ⟨[(2, .p .str v1), (3, .p .bool true)], []⟩) [2, 3] [] hN (.cons (mv (U := Un) (v := .p .str v1) rfl rfl) (.cons (mva (U := Un) (v := .p .str v1) rfl rfl) (.cons (sok_move (U := Un) (rs := []) rfl (.inr rfl) (.bool _ _)) .nil))) (by kernel_rfl) (by kernel_rfl) (by kernel_rfl) (Conv.refl (U := Un) _) ?_
    refine thenQ_normal ?_
    refine WpC.ret ?_
    have hq := Option.some.inj h
    subst hq
    exact ends_ret (retV_2 rfl (.head _) (.tail _ (.head _))) ain_nil

theorem lex_Piece_text.ok (O : Out) (hO : GOkL O) (k : Nat) (a0 : T_lex_Piece) (out : List UInt8) (h : lex_Piece_text.f k a0 = some out) : COk Un O Tryd.prog 48 { ar := [.p (.named 3) a0], r := .p .str out } := by
  refine cok_of_wp Tryd.func48 rfl (k := 42) rfl (Nat.le_of_ble_eq_true rfl) (namesOk_pure rfl rfl rfl rfl) ?_
  intro B hN
  refine WpC.conv (Conv.keep (U := Un) (b := ⟨[(0, .p (.named 3) a0)], []⟩) [0] [] (by kernel_rfl)) ?_
  unfold lex_Piece_text.f at h
  refine WpC.seq ?_
  refine WpC.reg (U := Un) (st1 := ⟨[(1, .loc 1 0)], [(1, .box [.p I6 a0.f_Kind, .p .str a0.f_Text, .p .str a0.f_From, .p .str a0.f_To])]⟩) [1] [1] hN (.cons (sok_box (U := Un) (rs := [(0, .p (.named 3) a0)]) (d := 1) (us := [.p I6 a0.f_Kind, .p .str a0.f_Text, .p .str a0.f_From, .p .str a0.f_To]) rfl rfl rfl o0 (.data (.named (.pair (.one _ _) (.pair (.one _ _) (.pair (.one _ _) (.pair (.one _ _) .unit)))))) rfl (notin_of (by kernel_rfl))) (.cons (sok_move (U := Un) (rs := []) rfl (.inr rfl) (.str _ _)) .nil)) (by kernel_rfl) (by kernel_rfl) (by kernel_rfl) (Conv.refl (U := Un) _) ?_
  refine thenQ_normal ?_
  refine WpC.seq ?_
  refine WpC.seq ?_
  refine WpC.reg (U := Un) (st1 := ⟨[(1, .loc 1 0), (4, .p I6 a0.f_Kind)], [(1, .box [.p I6 a0.f_Kind, .p .str a0.f_Text, .p .str a0.f_From, .p .str a0.f_To])]⟩) [1, 4] [1] hN (.cons (sok_fieldB (U := Un) (rs := [(1, .loc 1 0)]) rfl rfl fd_42_0 (by decide) o0) (.cons (sok_loadB (U := Un) (t := .int .i64) (rs := [(3, .loc 1 0)]) [] [.p I6 a0.f_Kind] [.p .str a0.f_Text, .p .str a0.f_From, .p .str a0.f_To] (v := .p I6 a0.f_Kind) rfl rfl ty_3 o0 rfl rfl rfl rfl (.data (.one _ _))) .nil)) (by kernel_rfl) (by kernel_rfl) (by kernel_rfl) (Conv.refl (U := Un) _) ?_
  refine thenQ_normal ?_
  refine WpC.block ?_
  refine WpC.seq ?_
  refine WpC.reg (U := Un) (st1 := ⟨[(1, .loc 1 0), (4, .p I6 a0.f_Kind), (5, .p .bool ((a0.f_Kind == 0) : Bool))], [(1, .box [.p I6 a0.f_Kind, .p .str a0.f_Text, .p .str a0.f_From, .p .str a0.f_To])]⟩) [1, 4, 5] [1] hN (.cons (sok_cmp (U := Un) (rs := [(4, .p I6 a0.f_Kind)]) rfl rfl o0 (.int _ _ _) rfl) (.cons (mva (U := Un) (v := .p .bool ((a0.f_Kind == 0) : Bool)) rfl rfl) .nil)) (by kernel_rfl) (by kernel_rfl) (by kernel_rfl) (Conv.refl (U := Un) _) ?_
  refine thenQ_normal ?_
  refine WpC.cond (U := Un) (b := (a0.f_Kind == 0)) (.tmp (.tail _ (.tail _ (.head _)))) (fun hc1 => ?_) (fun hc1 => ?_)
  · replace h := ite_t hc1 h
    refine WpC.seq ?_
    refine WpC.reg (U := Un) (st1 := ⟨[(2, .p .str a0.f_Text)], []⟩) [2] [] hN (.cons (sok_fieldB (U := Un) (rs := [(1, .loc 1 0)]) rfl rfl fd_42_1 (by decide) o0) (.cons (sok_loadB (U := Un) (t := .str) (rs := [(7, .loc 1 1)]) [.p I6 a0.f_Kind] [.p .str a0.f_Text] [.p .str a0.f_From, .p .str a0.f_To] (v := .p .str a0.f_Text) rfl rfl ty_9 o0 rfl rfl rfl rfl (.data (.one _ _))) (.cons (mva (U := Un) (v := .p .str a0.f_Text) rfl rfl) .nil))) (by kernel_rfl) (by kernel_rfl) (by kernel_rfl) (Conv.refl (U := Un) _) ?_
    refine thenQ_normal ?_
    refine WpC.ret ?_
    refine blockQ_ret ?_
    refine thenQ_ret ?_
    have hq := Option.some.inj h
    subst hq
    exact ends_ret (retV_1 rfl (.head _)) ain_nil
  · replace h := ite_f hc1 h
    refine WpC.seq ?_
    refine WpC.reg (U := Un) (st1 := ⟨[(1, .loc 1 0), (4, .p I6 a0.f_Kind), (9, .p .bool ((a0.f_Kind == 1) : Bool))], [(1, .box [.p I6 a0.f_Kind, .p .str a0.f_Text, .p .str a0.f_From, .p .str a0.f_To])]⟩) [1, 4, 9] [1] hN (.cons (sok_cmp (U := Un) (rs := [(4, .p I6 a0.f_Kind)]) rfl rfl o0 (.int _ _ _) rfl) (.cons (mva (U := Un) (v := .p .bool ((a0.f_Kind == 1) : Bool)) rfl rfl) .nil)) (by kernel_rfl) (by kernel_rfl) (by kernel_rfl) (Conv.refl (U := Un) _) ?_
    refine thenQ_normal ?_
    refine WpC.cond (U := Un) (b := (a0.f_Kind == 1)) (.tmp (.tail _ (.tail _ (.head _)))) (fun hc2 => ?_) (fun hc2 => ?_)
    · replace h := ite_t hc2 h
      refine WpC.seq ?_
      obtain ⟨v3, hv3, h⟩ := bind_some h
      obtain ⟨g4, h⟩ := if_some h
      obtain ⟨g5, h⟩ := if_some h
      refine WpC.reg (U := Un) (st1 := ⟨[(2, .p .str (((([39] : List UInt8) ++ v3) ++ ([39] : List UInt8)) : List UInt8))], []⟩) [2] [] hN (.cons (sok_fieldB (U := Un) (rs := [(1, .loc 1 0)]) rfl rfl fd_42_1 (by decide) o0) (.cons (sok_loadB (U := Un) (t := .str) (rs := [(11, .loc 1 1)]) [.p I6 a0.f_Kind] [.p .str a0.f_Text] [.p .str a0.f_From, .p .str a0.f_To] (v := .p .str a0.f_Text) rfl rfl ty_9 o0 rfl rfl rfl rfl (.data (.one _ _))) (.cons (sok_call (U := Un) (rs := [(12, .p .str a0.f_Text)]) (vw := []) rfl rfl hb_61 (pReplaceAllL.ok O hO k a0.f_Text ([39] : List UInt8) ([39, 39] : List UInt8) v3 hv3) (.cons o0 (.cons (.str _ _) (.cons (.str _ _) .nil))) (.cons (.same _) (.cons (.same _) (.cons (.same _) .nil))) (by simp) (.inl rfl)) (.cons (sok_cat (U := Un) (rs := [(13, .p .str v3)]) rfl rfl (.str _ _) o0 g4) (.cons (sok_cat (U := Un) (rs := [(14, .p .str ((([39] : List UInt8) ++ v3) : List UInt8))]) rfl rfl o0 (.str _ _) g5) (.cons (mva (U := Un) (v := .p .str (((([39] : List UInt8) ++ v3) ++ ([39] : List UInt8)) : List UInt8)) rfl rfl) .nil)))))) (by kernel_rfl) (by kernel_rfl) (by kernel_rfl) (Conv.refl (U := Un) _) ?_
      refine thenQ_normal ?_
      refine WpC.ret ?_
      refine blockQ_ret ?_
      refine thenQ_ret ?_
      have hq := Option.some.inj h
      subst hq
      exact ends_ret (retV_1 rfl (.head _)) ain_nil
    · replace h := ite_f hc2 h
      refine WpC.seq ?_
      refine WpC.reg (U := Un) (st1 := ⟨[(1, .loc 1 0), (4, .p I6 a0.f_Kind), (16, .p .bool ((a0.f_Kind == 2) : Bool))], [(1, .box [.p I6 a0.f_Kind, .p .str a0.f_Text, .p .str a0.f_From, .p .str a0.f_To])]⟩) [1, 4, 16] [1] hN (.cons (sok_cmp (U := Un) (rs := [(4, .p I6 a0.f_Kind)]) rfl rfl o0 (.int _ _ _) rfl) (.cons (mva (U := Un) (v := .p .bool ((a0.f_Kind == 2) : Bool)) rfl rfl) .nil)) (by kernel_rfl) (by kernel_rfl) (by kernel_rfl) (Conv.refl (U := Un) _) ?_
      refine thenQ_normal ?_
      refine WpC.cond (U := Un) (b := (a0.f_Kind == 2)) (.tmp (.tail _ (.tail _ (.head _)))) (fun hc6 => ?_) (fun hc6 => ?_)
      · replace h := ite_t hc6 h
        refine WpC.seq ?_
        obtain ⟨g7, h⟩ := if_some h
        obtain ⟨g8, h⟩ := if_some h
        refine WpC.reg (U := Un) (st1 := ⟨[(2, .p .str (((([36, 123] : List UInt8) ++ a0.f_Text) ++ ([125] : List UInt8)) : List UInt8))], []⟩) [2] [] hN (.cons (sok_fieldB (U := Un) (rs := [(1, .loc 1 0)]) rfl rfl fd_42_1 (by decide) o0) (.cons (sok_loadB (U := Un) (t := .str) (rs := [(18, .loc 1 1)]) [.p I6 a0.f_Kind] [.p .str a0.f_Text] [.p .str a0.f_From, .p .str a0.f_To] (v := .p .str a0.f_Text) rfl rfl ty_9 o0 rfl rfl rfl rfl (.data (.one _ _))) (.cons (sok_cat (U := Un) (rs := [(19, .p .str a0.f_Text)]) rfl rfl (.str _ _) o0 g7) (.cons (sok_cat (U := Un) (rs := [(20, .p .str ((([36, 123] : List UInt8) ++ a0.f_Text) : List UInt8))]) rfl rfl o0 (.str _ _) g8) (.cons (mva (U := Un) (v := .p .str (((([36, 123] : List UInt8) ++ a0.f_Text) ++ ([125] : List UInt8)) : List UInt8)) rfl rfl) .nil))))) (by kernel_rfl) (by kernel_rfl) (by kernel_rfl) (Conv.refl (U := Un) _) ?_
        refine thenQ_normal ?_
        refine WpC.ret ?_
        refine blockQ_ret ?_
        refine thenQ_ret ?_
        have hq := Option.some.inj h
        subst hq
        exact ends_ret (retV_1 rfl (.head _)) ain_nil
      · replace h := ite_f hc6 h
        refine WpC.seq ?_
        refine WpC.reg (U := Un) (st1 := ⟨[(1, .loc 1 0), (4, .p I6 a0.f_Kind), (22, .p .bool ((a0.f_Kind == 3) : Bool))], [(1, .box [.p I6 a0.f_Kind, .p .str a0.f_Text, .p .str a0.f_From, .p .str a0.f_To])]⟩) [1, 4, 22] [1] hN (.cons (sok_cmp (U := Un) (rs := [(4, .p I6 a0.f_Kind)]) rfl rfl o0 (.int _ _ _) rfl) (.cons (mva (U := Un) (v := .p .bool ((a0.f_Kind == 3) : Bool)) rfl rfl) .nil)) (by kernel_rfl) (by kernel_rfl) (by kernel_rfl) (Conv.refl (U := Un) _) ?_
        refine thenQ_normal ?_
        refine WpC.cond (U := Un) (b := (a0.f_Kind == 3)) (.tmp (.tail _ (.tail _ (.head _)))) (fun hc9 => ?_) (fun hc9 => ?_)
        · replace h := ite_t hc9 h
          refine WpC.seq ?_
          obtain ⟨g10, h⟩ := if_some h
          obtain ⟨g11, h⟩ := if_some h
          obtain ⟨g12, h⟩ := if_some h
          obtain ⟨g13, h⟩ := if_some h
          obtain ⟨g14, h⟩ := if_some h
          obtain ⟨g15, h⟩ := if_some h
          refine WpC.reg (U := Un) (st1 := ⟨[(2, .p .str (((((((([36, 123] : List UInt8) ++ a0.f_Text) ++ ([58] : List UInt8)) ++ a0.f_From) ++ ([61] : List UInt8)) ++ a0.f_To) ++ ([125] : List UInt8)) : List UInt8))], []⟩) [2] [] hN (.cons (sok_fieldB (U := Un) (rs := [(1, .loc 1 0)]) rfl rfl fd_42_1 (by decide) o0) (.cons (sok_loadB (U := Un) (t := .str) (rs := [(24, .loc 1 1)]) [.p I6 a0.f_Kind] [.p .str a0.f_Text] [.p .str a0.f_From, .p .str a0.f_To] (v := .p .str a0.f_Text) rfl rfl ty_9 o0 rfl rfl rfl rfl (.data (.one _ _))) (.cons (sok_cat (U := Un) (rs := [(25, .p .str a0.f_Text)]) rfl rfl (.str _ _) o0 g10) (.cons (sok_cat (U := Un) (rs := [(26, .p .str ((([36, 123] : List UInt8) ++ a0.f_Text) : List UInt8))]) rfl rfl o0 (.str _ _) g11) (.cons (sok_fieldB (U := Un) (rs := [(1, .loc 1 0)]) rfl rfl fd_42_2 (by decide) o0) (.cons (sok_loadB (U := Un) (t := .str) (rs := [(28, .loc 1 2)]) [.p I6 a0.f_Kind, .p .str a0.f_Text] [.p .str a0.f_From] [.p .str a0.f_To] (v := .p .str a0.f_From) rfl rfl ty_9 o0 rfl rfl rfl rfl (.data (.one _ _))) (.cons (sok_cat (U := Un) (rs := [(27, .p .str (((([36, 123] : List UInt8) ++ a0.f_Text) ++ ([58] : List UInt8)) : List UInt8)), (29, .p .str a0.f_From)]) rfl rfl o0 o1 g12) (.cons (sok_cat (U := Un) (rs := [(30, .p .str ((((([36, 123] : List UInt8) ++ a0.f_Text) ++ ([58] : List UInt8)) ++ a0.f_From) : List UInt8))]) rfl rfl o0 (.str _ _) g13) (.cons (sok_fieldB (U := Un) (rs := [(1, .loc 1 0)]) rfl rfl fd_42_3 (by decide) o0) (.cons (sok_loadB (U := Un) (t := .str) (rs := [(32, .loc 1 3)]) [.p I6 a0.f_Kind, .p .str a0.f_Text, .p .str a0.f_From] [.p .str a0.f_To] [] (v := .p .str a0.f_To) rfl rfl ty_9 o0 rfl rfl rfl rfl (.data (.one _ _))) (.cons (sok_cat (U := Un) (rs := [(31, .p .str (((((([36, 123] : List UInt8) ++ a0.f_Text) ++ ([58] : List UInt8)) ++ a0.f_From) ++ ([61] : List UInt8)) : List UInt8)), (33, .p .str a0.f_To)]) rfl rfl o0 o1 g14) (.cons (sok_cat (U := Un) (rs := [(34, .p .str ((((((([36, 123] : List UInt8) ++ a0.f_Text) ++ ([58] : List UInt8)) ++ a0.f_From) ++ ([61] : List UInt8)) ++ a0.f_To) : List UInt8))]) rfl rfl o0 (.str _ _) g15) (.cons (mva (U := Un) (v := .p .str (((((((([36, 123] : List UInt8) ++ a0.f_Text) ++ ([58] : List UInt8)) ++ a0.f_From) ++ ([61] : List UInt8)) ++ a0.f_To) ++ ([125] : List UInt8)) : List UInt8)) rfl rfl) .nil))))))))))))) (by kernel_rfl) (by kernel_rfl) (by kernel_rfl) (Conv.refl (U := Un) _) ?_
          refine thenQ_normal ?_
          refine WpC.ret ?_
          refine blockQ_ret ?_
          refine thenQ_ret ?_
          have hq := Option.some.inj h
          subst hq
          exact ends_ret (retV_1 rfl (.head _)) ain_nil
        · replace h := ite_f hc9 h
          refine WpC.seq ?_
          refine WpC.reg (U := Un) (st1 := ⟨[(1, .loc 1 0), (36, .p .bool ((a0.f_Kind == 4) : Bool))], [(1, .box [.p I6 a0.f_Kind, .p .str a0.f_Text, .p .str a0.f_From, .p .str a0.f_To])]⟩) [1, 36] [1] hN (.cons (sok_cmp (U := Un) (rs := [(4, .p I6 a0.f_Kind)]) rfl rfl o0 (.int _ _ _) rfl) (.cons (mva (U := Un) (v := .p .bool ((a0.f_Kind == 4) : Bool)) rfl rfl) .nil)) (by kernel_rfl) (by kernel_rfl) (by kernel_rfl) (Conv.refl (U := Un) _) ?_
          refine thenQ_normal ?_
          refine WpC.cond (U := Un) (b := (a0.f_Kind == 4)) o1 (fun hc16 => ?_) (fun hc16 => ?_)
          · replace h := ite_t hc16 h
            refine WpC.seq ?_
            obtain ⟨g17, h⟩ := if_some h
            obtain ⟨g18, h⟩ := if_some h
            refine WpC.reg (U := Un) (st1 := ⟨[(2, .p .str (((([96, 123] : List UInt8) ++ a0.f_Text) ++ ([125] : List UInt8)) : List UInt8))], []⟩) [2] [] hN (.cons (sok_fieldB (U := Un) (rs := [(1, .loc 1 0)]) rfl rfl fd_42_1 (by decide) o0) (.cons (sok_loadB (U := Un) (t := .str) (rs := [(38, .loc 1 1)]) [.p I6 a0.f_Kind] [.p .str a0.f_Text] [.p .str a0.f_From, .p .str a0.f_To] (v := .p .str a0.f_Text) rfl rfl ty_9 o0 rfl rfl rfl rfl (.data (.one _ _))) (.cons (sok_cat (U := Un) (rs := [(39, .p .str a0.f_Text)]) rfl rfl (.str _ _) o0 g17) (.cons (sok_cat (U := Un) (rs := [(40, .p .str ((([96, 123] : List UInt8) ++ a0.f_Text) : List UInt8))]) rfl rfl o0 (.str _ _) g18) (.cons (mva (U := Un) (v := .p .str (((([96, 123] : List UInt8) ++ a0.f_Text) ++ ([125] : List UInt8)) : List UInt8)) rfl rfl) .nil))))) (by kernel_rfl) (by kernel_rfl) (by kernel_rfl) (Conv.refl (U := Un) _) ?_
            refine thenQ_normal ?_
            refine WpC.ret ?_
            refine blockQ_ret ?_
            refine thenQ_ret ?_
            have hq := Option.some.inj h
            subst hq
            exact ends_ret (retV_1 rfl (.head _)) ain_nil
          · replace h := ite_f hc16 h
            refine WpC.conv (Conv.keep (U := Un) (b := ⟨[], []⟩) [] [] (by kernel_rfl)) (WpC.skip ?_)
            refine blockQ_normal ?_
            refine thenQ_normal ?_
            refine WpC.seq ?_
            refine WpC.reg (U := Un) (st1 := ⟨[(2, .p .str (([] : List UInt8) : List UInt8))], []⟩) [2] [] hN (.cons (sok_move (U := Un) (rs := []) rfl (.inr rfl) (.str _ _)) .nil) (by kernel_rfl) (by kernel_rfl) (by kernel_rfl) (Conv.refl (U := Un) _) ?_
            refine thenQ_normal ?_
            refine WpC.ret ?_
            have hq := Option.some.inj h
            subst hq
            exact ends_ret (retV_1 rfl (.head _)) ain_nil

end Go.Proofs.YtnbnfjgedinlbabDoor
