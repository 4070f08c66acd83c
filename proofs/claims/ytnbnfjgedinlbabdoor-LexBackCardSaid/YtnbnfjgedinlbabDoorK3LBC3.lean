/- A part of the proof of a given law: LBC3. Own work, printed in part by a program of mine. -/
import Derived.Test.YtnbnfjgedinlbabDoorK3LBC2
namespace Go.Proofs.YtnbnfjgedinlbabDoor
open Go Go.AM
set_option linter.unusedVariables false
set_option linter.unusedSimpArgs false
set_option maxRecDepth 100000
theorem millwrightlaw13_alive.ok (O : Out) (hO : GOkL O) (k : Nat) (out : Bool) (h : millwrightlaw13_alive.f k = some out) : COk Un O Tryd.prog 14 { ar := [], r := .p .bool out } := by
  refine cok_of_wp Tryd.func14 rfl (k := 39) rfl (Nat.le_of_ble_eq_true rfl) (namesOk_pure rfl rfl rfl rfl) ?_
  intro B hN
  refine WpC.conv (Conv.keep (U := Un) (b := ⟨[], []⟩) [] [] (by kernel_rfl)) ?_
  unfold millwrightlaw13_alive.f at h
  refine WpC.seq ?_
  refine WpC.reg (U := Un) (st1 := ⟨[], []⟩) [] [] hN (.cons (sok_move (U := Un) (rs := []) rfl (.inr rfl) (.bool _ _)) .nil) (by kernel_rfl) (by kernel_rfl) (by kernel_rfl) (Conv.refl (U := Un) _) ?_
  refine thenQ_normal ?_
  refine WpC.seq ?_
  obtain ⟨v1, hv1, h⟩ := bind_some h
  refine WpC.reg (U := Un) (st1 := ⟨[(1, .p (.list (.list (.named 3))) v1.1), (2, .p .err v1.2)], []⟩) [1, 2] [] hN (.cons (sok_callV (U := Un) (rs := []) (vw := []) rfl rfl (.func _) hb_15 (lex_Words.ok O hO k ([97, 36, 120, 39, 98, 32, 99, 39, 32, 100] : List UInt8) v1 hv1) (.cons (.str _ _) .nil) (.cons (.same _) .nil) (by simp) (.inl rfl)) (.cons (mv (U := Un) (v := .tup [.p (.list (.list (.named 3))) v1.1, .p .err v1.2]) rfl rfl) (.cons (sok_extract (U := Un) (rs := [(3, .tup [.p (.list (.list (.named 3))) v1.1, .p .err v1.2])]) rfl rfl o0 rfl) (.cons (sok_extract (U := Un) (rs := [(3, .tup [.p (.list (.list (.named 3))) v1.1, .p .err v1.2])]) rfl rfl o0 rfl) (.cons (mva (U := Un) (v := .p (.list (.list (.named 3))) v1.1) rfl rfl) (.cons (mva (U := Un) (v := .p .err v1.2) rfl rfl) .nil)))))) (by kernel_rfl) (by kernel_rfl) (by kernel_rfl) (Conv.refl (U := Un) _) ?_
  refine thenQ_normal ?_
  refine WpC.seq ?_
  rcases bool_cases (v1.2 == 0) with hc2 | hc2
  · replace h := ite_t hc2 h
    rcases bool_cases ((v1.1.length : Int) == 2) with hc3 | hc3
    · replace h := ite_t hc3 h
      obtain ⟨v4, hv4, h⟩ := bind_some h
      rcases bool_cases ((v4.length : Int) == 3) with hc5 | hc5
      · replace h := ite_t hc5 h
        obtain ⟨v6, hv6, h⟩ := bind_some h
        obtain ⟨v7, hv7, h⟩ := bind_some h
        rcases bool_cases (v7.f_Kind == 2) with hc8 | hc8
        · replace h := ite_t hc8 h
          obtain ⟨v9, hv9, h⟩ := bind_some h
          obtain ⟨v10, hv10, h⟩ := bind_some h
          refine WpC.reg (U := Un) (st1 := ⟨[(0, .p .bool ((v10.f_Text == ([98, 32, 99] : List UInt8)) : Bool))], []⟩) [0] [] hN (.cons (mv (U := Un) (v := .p .err v1.2) rfl rfl) (.cons (sok_errNil (U := Un) (rs := [(7, .p .err v1.2)]) rfl rfl Tryd.underlying27 o0 rfl) (.cons (mv (U := Un) (v := .p .bool ((v1.2 == 0) : Bool)) rfl rfl) (.cons (sok_run rfl rfl hc2 (mv (U := Un) (v := .p (.list (.list (.named 3))) v1.1) rfl rfl)) (.cons (sok_run rfl rfl hc2 (sok_lenL (U := Un) (rs := [(10, .p (.list (.list (.named 3))) v1.1)]) rfl rfl Tryd.underlying33 o0)) (.cons (sok_run rfl rfl hc2 (sok_cmp (U := Un) (rs := [(11, .p I6 ((v1.1.length : Int) : Int))]) rfl rfl o0 (.int _ _ _) rfl)) (.cons (sok_pickT (U := Un) (rs := [(9, .p .bool ((v1.2 == 0) : Bool)), (12, .p .bool (((v1.1.length : Int) == 2) : Bool))]) rfl rfl o0 hc2 o1) (.cons (mv (U := Un) (v := .p .bool (((v1.1.length : Int) == 2) : Bool)) rfl rfl) (.cons (sok_run rfl rfl hc3 (mv (U := Un) (v := .p (.list (.list (.named 3))) v1.1) rfl rfl)) (.cons (sok_run rfl rfl hc3 (sok_indexL (U := Un) (rs := [(15, .p (.list (.list (.named 3))) v1.1)]) rfl rfl sl_33 o0 (.int _ _ _) hv4)) (.cons (sok_run rfl rfl hc3 (sok_loadP (U := Un) (rs := [(16, .pp (.list (.named 3)) v4)]) rfl rfl ty_36 o0)) (.cons (sok_run rfl rfl hc3 (sok_lenL (U := Un) (rs := [(17, .p (.list (.named 3)) v4)]) rfl rfl Tryd.underlying36 o0)) (.cons (sok_run rfl rfl hc3 (sok_cmp (U := Un) (rs := [(18, .p I6 ((v4.length : Int) : Int))]) rfl rfl o0 (.int _ _ _) rfl)) (.cons (sok_pickT (U := Un) (rs := [(14, .p .bool (((v1.1.length : Int) == 2) : Bool)), (19, .p .bool (((v4.length : Int) == 3) : Bool))]) rfl rfl o0 hc3 o1) (.cons (mv (U := Un) (v := .p .bool (((v4.length : Int) == 3) : Bool)) rfl rfl) (.cons (sok_run rfl rfl hc5 (mv (U := Un) (v := .p (.list (.list (.named 3))) v1.1) rfl rfl)) (.cons (sok_run rfl rfl hc5 (sok_indexL (U := Un) (rs := [(22, .p (.list (.list (.named 3))) v1.1)]) rfl rfl sl_33 o0 (.int _ _ _) hv6)) (.cons (sok_run rfl rfl hc5 (sok_loadP (U := Un) (rs := [(23, .pp (.list (.named 3)) v6)]) rfl rfl ty_36 o0)) (.cons (sok_run rfl rfl hc5 (sok_indexL (U := Un) (rs := [(24, .p (.list (.named 3)) v6)]) rfl rfl sl_36 o0 (.int _ _ _) hv7)) (.cons (sok_run rfl rfl hc5 (sok_fieldP (U := Un) (rs := [(25, .pp (.named 3) v7)]) rfl rfl fd_42_0 (by decide) o0 (.named (.fst (.here _ _))))) (.cons (sok_run rfl rfl hc5 (sok_loadP (U := Un) (rs := [(26, .pp I6 v7.f_Kind)]) rfl rfl ty_3 o0)) (.cons (sok_run rfl rfl hc5 (sok_cmp (U := Un) (rs := [(27, .p I6 v7.f_Kind)]) rfl rfl o0 (.int _ _ _) rfl)) (.cons (sok_pickT (U := Un) (rs := [(21, .p .bool (((v4.length : Int) == 3) : Bool)), (28, .p .bool ((v7.f_Kind == 2) : Bool))]) rfl rfl o0 hc5 o1) (.cons (mv (U := Un) (v := .p .bool ((v7.f_Kind == 2) : Bool)) rfl rfl) (.cons (sok_run rfl rfl hc8 (mv (U := Un) (v := .p (.list (.list (.named 3))) v1.1) rfl rfl)) (.cons (sok_run rfl rfl hc8 (sok_indexL (U := Un) (rs := [(31, .p (.list (.list (.named 3))) v1.1)]) rfl rfl sl_33 o0 (.int _ _ _) hv9)) (.cons (sok_run rfl rfl hc8 (sok_loadP (U := Un) (rs := [(32, .pp (.list (.named 3)) v9)]) rfl rfl ty_36 o0)) (.cons (sok_run rfl rfl hc8 (sok_indexL (U := Un) (rs := [(33, .p (.list (.named 3)) v9)]) rfl rfl sl_36 o0 (.int _ _ _) hv10)) (.cons (sok_run rfl rfl hc8 (sok_fieldP (U := Un) (rs := [(34, .pp (.named 3) v10)]) rfl rfl fd_42_1 (by decide) o0 (.named (.snd (.fst (.here _ _)) rfl)))) (.cons (sok_run rfl rfl hc8 (sok_loadP (U := Un) (rs := [(35, .pp .str v10.f_Text)]) rfl rfl ty_9 o0)) (.cons (sok_run rfl rfl hc8 (sok_cmpS (U := Un) (rs := [(36, .p .str v10.f_Text)]) rfl rfl o0 (.str _ _) rfl)) (.cons (sok_pickT (U := Un) (rs := [(30, .p .bool ((v7.f_Kind == 2) : Bool)), (37, .p .bool ((v10.f_Text == ([98, 32, 99] : List UInt8)) : Bool))]) rfl rfl o0 hc8 o1) (.cons (mva (U := Un) (v := .p .bool ((v10.f_Text == ([98, 32, 99] : List UInt8)) : Bool)) rfl rfl) .nil))))))))))))))))))))))))))))))))) (by kernel_rfl) (by kernel_rfl) (by kernel_rfl) (Conv.refl (U := Un) _) ?_
          refine thenQ_normal ?_
          refine WpC.ret ?_
          have hq := Option.some.inj h
          subst hq
          exact ends_ret (retV_1 rfl (.head _)) ain_nil
        · replace h := ite_f hc8 h
          refine WpC.reg (U := Un) (st1 := ⟨[(0, .p .bool false)], []⟩) [0] [] hN (.cons (mv (U := Un) (v := .p .err v1.2) rfl rfl) (.cons (sok_errNil (U := Un) (rs := [(7, .p .err v1.2)]) rfl rfl Tryd.underlying27 o0 rfl) (.cons (mv (U := Un) (v := .p .bool ((v1.2 == 0) : Bool)) rfl rfl) (.cons (sok_run rfl rfl hc2 (mv (U := Un) (v := .p (.list (.list (.named 3))) v1.1) rfl rfl)) (.cons (sok_run rfl rfl hc2 (sok_lenL (U := Un) (rs := [(10, .p (.list (.list (.named 3))) v1.1)]) rfl rfl Tryd.underlying33 o0)) (.cons (sok_run rfl rfl hc2 (sok_cmp (U := Un) (rs := [(11, .p I6 ((v1.1.length : Int) : Int))]) rfl rfl o0 (.int _ _ _) rfl)) (.cons (sok_pickT (U := Un) (rs := [(9, .p .bool ((v1.2 == 0) : Bool)), (12, .p .bool (((v1.1.length : Int) == 2) : Bool))]) rfl rfl o0 hc2 o1) (.cons (mv (U := Un) (v := .p .bool (((v1.1.length : Int) == 2) : Bool)) rfl rfl) (.cons (sok_run rfl rfl hc3 (mv (U := Un) (v := .p (.list (.list (.named 3))) v1.1) rfl rfl)) (.cons (sok_run rfl rfl hc3 (sok_indexL (U := Un) (rs := [(15, .p (.list (.list (.named 3))) v1.1)]) rfl rfl sl_33 o0 (.int _ _ _) hv4)) (.cons (sok_run rfl rfl hc3 (sok_loadP (U := Un) (rs := [(16, .pp (.list (.named 3)) v4)]) rfl rfl ty_36 o0)) (.cons (sok_run rfl rfl hc3 (sok_lenL (U := Un) (rs := [(17, .p (.list (.named 3)) v4)]) rfl rfl Tryd.underlying36 o0)) (.cons (sok_run rfl rfl hc3 (sok_cmp (U := Un) (rs := [(18, .p I6 ((v4.length : Int) : Int))]) rfl rfl o0 (.int _ _ _) rfl)) (.cons (sok_pickT (U := Un) (rs := [(14, .p .bool (((v1.1.length : Int) == 2) : Bool)), (19, .p .bool (((v4.length : Int) == 3) : Bool))]) rfl rfl o0 hc3 o1) (.cons (mv (U := Un) (v := .p .bool (((v4.length : Int) == 3) : Bool)) rfl rfl) (.cons (sok_run rfl rfl hc5 (mv (U := Un) (v := .p (.list (.list (.named 3))) v1.1) rfl rfl)) (.cons (sok_run rfl rfl hc5 (sok_indexL (U := Un) (rs := [(22, .p (.list (.list (.named 3))) v1.1)]) rfl rfl sl_33 o0 (.int _ _ _) hv6)) (.cons (sok_run rfl rfl hc5 (sok_loadP (U := Un) (rs := [(23, .pp (.list (.named 3)) v6)]) rfl rfl ty_36 o0)) (.cons (sok_run rfl rfl hc5 (sok_indexL (U := Un) (rs := [(24, .p (.list (.named 3)) v6)]) rfl rfl sl_36 o0 (.int _ _ _) hv7)) (.cons (sok_run rfl rfl hc5 (sok_fieldP (U := Un) (rs := [(25, .pp (.named 3) v7)]) rfl rfl fd_42_0 (by decide) o0 (.named (.fst (.here _ _))))) (.cons (sok_run rfl rfl hc5 (sok_loadP (U := Un) (rs := [(26, .pp I6 v7.f_Kind)]) rfl rfl ty_3 o0)) (.cons (sok_run rfl rfl hc5 (sok_cmp (U := Un) (rs := [(27, .p I6 v7.f_Kind)]) rfl rfl o0 (.int _ _ _) rfl)) (.cons (sok_pickT (U := Un) (rs := [(21, .p .bool (((v4.length : Int) == 3) : Bool)), (28, .p .bool ((v7.f_Kind == 2) : Bool))]) rfl rfl o0 hc5 o1) (.cons (mv (U := Un) (v := .p .bool ((v7.f_Kind == 2) : Bool)) rfl rfl) (.cons (sok_skip rfl rfl hc8) (.cons (sok_skip rfl rfl hc8) (.cons (sok_skip rfl rfl hc8) (.cons (sok_skip rfl rfl hc8) (.cons (sok_skip rfl rfl hc8) (.cons (sok_skip rfl rfl hc8) (.cons (sok_skip rfl rfl hc8) (.cons (sok_pickF (U := Un) (rs := [(30, .p .bool ((v7.f_Kind == 2) : Bool))]) rfl rfl o0 hc8 (.bool _ _)) (.cons (mva (U := Un) (v := .p .bool false) rfl rfl) .nil))))))))))))))))))))))))))))))))) (by kernel_rfl) (by kernel_rfl) (by kernel_rfl) (Conv.refl (U := Un) _) ?_
          refine thenQ_normal ?_
          refine WpC.ret ?_
          have hq := Option.some.inj h
          subst hq
          exact ends_ret (retV_1 rfl (.head _)) ain_nil
      · replace h := ite_f hc5 h
        refine WpC.reg (U := Un) (st1 := ⟨[(0, .p .bool false)], []⟩) [0] [] hN (.cons (mv (U := Un) (v := .p .err v1.2) rfl rfl) (.cons (sok_errNil (U := Un) (rs := [(7, .p .err v1.2)]) rfl rfl Tryd.underlying27 o0 rfl) (.cons (mv (U := Un) (v := .p .bool ((v1.2 == 0) : Bool)) rfl rfl) (.cons (sok_run rfl rfl hc2 (mv (U := Un) (v := .p (.list (.list (.named 3))) v1.1) rfl rfl)) (.cons (sok_run rfl rfl hc2 (sok_lenL (U := Un) (rs := [(10, .p (.list (.list (.named 3))) v1.1)]) rfl rfl Tryd.underlying33 o0)) (.cons (sok_run rfl rfl hc2 (sok_cmp (U := Un) (rs := [(11, .p I6 ((v1.1.length : Int) : Int))]) rfl rfl o0 (.int _ _ _) rfl)) (.cons (sok_pickT (U := Un) (rs := [(9, .p .bool ((v1.2 == 0) : Bool)), (12, .p .bool (((v1.1.length : Int) == 2) : Bool))]) rfl rfl o0 hc2 o1) (.cons (mv (U := Un) (v := .p .bool (((v1.1.length : Int) == 2) : Bool)) rfl rfl) (.cons (sok_run rfl rfl hc3 (mv (U := Un) (v := .p (.list (.list (.named 3))) v1.1) rfl rfl)) (.cons (sok_run rfl rfl hc3 (sok_indexL (U := Un) (rs := [(15, .p (.list (.list (.named 3))) v1.1)]) rfl rfl sl_33 o0 (.int _ _ _) hv4)) (.cons (sok_run rfl rfl hc3 (sok_loadP (U := Un) (rs := [(16, .pp (.list (.named 3)) v4)]) rfl rfl ty_36 o0)) (.cons (sok_run rfl rfl hc3 (sok_lenL (U := Un) (rs := [(17, .p (.list (.named 3)) v4)]) rfl rfl Tryd.underlying36 o0)) (.cons (sok_run rfl rfl hc3 (sok_cmp (U := Un) (rs := [(18, .p I6 ((v4.length : Int) : Int))]) rfl rfl o0 (.int _ _ _) rfl)) (.cons (sok_pickT (U := Un) (rs := [(14, .p .bool (((v1.1.length : Int) == 2) : Bool)), (19, .p .bool (((v4.length : Int) == 3) : Bool))]) rfl rfl o0 hc3 o1) (.cons (mv (U := Un) (v := .p .bool (((v4.length : Int) == 3) : Bool)) rfl rfl) (.cons (sok_skip rfl rfl hc5) (.cons (sok_skip rfl rfl hc5) (.cons (sok_skip rfl rfl hc5) (.cons (sok_skip rfl rfl hc5) (.cons (sok_skip rfl rfl hc5) (.cons (sok_skip rfl rfl hc5) (.cons (sok_skip rfl rfl hc5) (.cons (sok_pickF (U := Un) (rs := [(21, .p .bool (((v4.length : Int) == 3) : Bool))]) rfl rfl o0 hc5 (.bool _ _)) (.cons (mv (U := Un) (v := .p .bool false) rfl rfl) (.cons (sok_skip rfl rfl rfl) (.cons (sok_skip rfl rfl rfl) (.cons (sok_skip rfl rfl rfl) (.cons (sok_skip rfl rfl rfl) (.cons (sok_skip rfl rfl rfl) (.cons (sok_skip rfl rfl rfl) (.cons (sok_skip rfl rfl rfl) (.cons (sok_pickF (U := Un) (rs := [(30, .p .bool false)]) rfl rfl o0 rfl (.bool _ _)) (.cons (mva (U := Un) (v := .p .bool false) rfl rfl) .nil))))))))))))))))))))))))))))))))) (by kernel_rfl) (by kernel_rfl) (by kernel_rfl) (Conv.refl (U := Un) _) ?_
        refine thenQ_normal ?_
        refine WpC.ret ?_
        have hq := Option.some.inj h
        subst hq
        exact ends_ret (retV_1 rfl (.head _)) ain_nil
    · replace h := ite_f hc3 h
      refine WpC.reg (U := Un) (st1 := ⟨[(0, .p .bool false)], []⟩) [0] [] hN (.cons (mv (U := Un) (v := .p .err v1.2) rfl rfl) (.cons (sok_errNil (U := Un) (rs := [(7, .p .err v1.2)]) rfl rfl Tryd.underlying27 o0 rfl) (.cons (mv (U := Un) (v := .p .bool ((v1.2 == 0) : Bool)) rfl rfl) (.cons (sok_run rfl rfl hc2 (mv (U := Un) (v := .p (.list (.list (.named 3))) v1.1) rfl rfl)) (.cons (sok_run rfl rfl hc2 (sok_lenL (U := Un) (rs := [(10, .p (.list (.list (.named 3))) v1.1)]) rfl rfl Tryd.underlying33 o0)) (.cons (sok_run rfl rfl hc2 (sok_cmp (U := Un) (rs := [(11, .p I6 ((v1.1.length : Int) : Int))]) rfl rfl o0 (.int _ _ _) rfl)) (.cons (sok_pickT (U := Un) (rs := [(9, .p .bool ((v1.2 == 0) : Bool)), (12, .p .bool (((v1.1.length : Int) == 2) : Bool))]) rfl rfl o0 hc2 o1) (.cons (mv (U := Un) (v := .p .bool (((v1.1.length : Int) == 2) : Bool)) rfl rfl) (.cons (sok_skip rfl rfl hc3) (.cons (sok_skip rfl rfl hc3) (.cons (sok_skip rfl rfl hc3) (.cons (sok_skip rfl rfl hc3) (.cons (sok_skip rfl rfl hc3) (.cons (sok_pickF (U := Un) (rs := [(14, .p .bool (((v1.1.length : Int) == 2) : Bool))]) rfl rfl o0 hc3 (.bool _ _)) (.cons (mv (U := Un) (v := .p .bool false) rfl rfl) (.cons (sok_skip rfl rfl rfl) (.cons (sok_skip rfl rfl rfl) (.cons (sok_skip rfl rfl rfl) (.cons (sok_skip rfl rfl rfl) (.cons (sok_skip rfl rfl rfl) (.cons (sok_skip rfl rfl rfl) (.cons (sok_skip rfl rfl rfl) (.cons (sok_pickF (U := Un) (rs := [(21, .p .bool false)]) rfl rfl o0 rfl (.bool _ _)) (.cons (mv (U := Un) (v := .p .bool false) rfl rfl) (.cons (sok_skip rfl rfl rfl) (.cons (sok_skip rfl rfl rfl) (.cons (sok_skip rfl rfl rfl) (.cons (sok_skip rfl rfl rfl) (.cons (sok_skip rfl rfl rfl) (.cons (sok_skip rfl rfl rfl) (.cons (sok_skip rfl rfl rfl) (.cons (sok_pickF (U := Un) (rs := [(30, .p .bool false)]) rfl rfl o0 rfl (.bool _ _)) (.cons (mva (U := Un) (v := .p .bool false) rfl rfl) .nil))))))))))))))))))))))))))))))))) (by kernel_rfl) (by kernel_rfl) (by kernel_rfl) (Conv.refl (U := Un) _) ?_
      refine thenQ_normal ?_
      refine WpC.ret ?_
      have hq := Option.some.inj h
      subst hq
      exact ends_ret (retV_1 rfl (.head _)) ain_nil
  · replace h := ite_f hc2 h
    refine WpC.reg (U := Un) (st1 := ⟨[(0, .p .bool false)], []⟩) [0] [] hN (.cons (mv (U := Un) (v := .p .err v1.2) rfl rfl) (.cons (sok_errNil (U := Un) (rs := [(7, .p .err v1.2)]) rfl rfl Tryd.underlying27 o0 rfl) (.cons (mv (U := Un) (v := .p .bool ((v1.2 == 0) : Bool)) rfl rfl) (.cons (sok_skip rfl rfl hc2) (.cons (sok_skip rfl rfl hc2) (.cons (sok_skip rfl rfl hc2) (.cons (sok_pickF (U := Un) (rs := [(9, .p .bool ((v1.2 == 0) : Bool))]) rfl rfl o0 hc2 (.bool _ _)) (.cons (mv (U := Un) (v := .p .bool false) rfl rfl) (.cons (sok_skip rfl rfl rfl) (.cons (sok_skip rfl rfl rfl) (.cons (sok_skip rfl rfl rfl) (.cons (sok_skip rfl rfl rfl) (.cons (sok_skip rfl rfl rfl) (.cons (sok_pickF (U := Un) (rs := [(14, .p .bool false)]) rfl rfl o0 rfl (.bool _ _)) (.cons (mv (U := Un) (v := .p .bool false) rfl rfl) (.cons (sok_skip rfl rfl rfl) (.cons (sok_skip rfl rfl rfl) (.cons (sok_skip rfl rfl rfl) (.cons (sok_skip rfl rfl rfl) (.cons (sok_skip rfl rfl rfl) (.cons (sok_skip rfl rfl rfl) (.cons (sok_skip rfl rfl rfl) (.cons (sok_pickF (U := Un) (rs := [(21, .p .bool false)]) rfl rfl o0 rfl (.bool _ _)) (.cons (mv (U := Un) (v := .p .bool false) rfl rfl) (.cons (sok_skip rfl rfl rfl) (.cons (sok_skip rfl rfl rfl) (.cons (sok_skip rfl rfl rfl) (.cons (sok_skip rfl rfl rfl) (.cons (sok_skip rfl rfl rfl) (.cons (sok_skip rfl rfl rfl) (.cons (sok_skip rfl rfl rfl) (.cons (sok_pickF (U := Un) (rs := [(30, .p .bool false)]) rfl rfl o0 rfl (.bool _ _)) (.cons (mva (U := Un) (v := .p .bool false) rfl rfl) .nil))))))))))))))))))))))))))))))))) (by kernel_rfl) (by kernel_rfl) (by kernel_rfl) (Conv.refl (U := Un) _) ?_
    refine thenQ_normal ?_
    refine WpC.ret ?_
    have hq := Option.some.inj h
    subst hq
    exact ends_ret (retV_1 rfl (.head _)) ain_nil

theorem lex_Piece_text.ok (O : Out) (hO : GOkL O) (k : Nat) (a0 : T_lex_Piece) (out : List UInt8) (h : lex_Piece_text.f k a0 = some out) : COk Un O Tryd.prog 48 { ar := [.p (.named 3) a0], r := .p .str out } := by
  refine cok_of_wp Tryd.func48 rfl (k := 42) rfl (Nat.le_of_ble_eq_true rfl) (namesOk_pure rfl rfl rfl rfl) ?_
  intro B hN
  refine WpC.conv (Conv.keep (U := Un) (b := ⟨[(0, .p (.named 3) a0)], []⟩) [0] [] (by kernel_rfl)) ?_
  unfold lex_Piece_text.f at h
  refine WpC.seq ?_
  refine WpC.reg (U := Un) (st1 := ⟨[(1, .loc 1 0)], [(1, .box [.p I6 a0.f_Kind, .p .str a0.f_Text, .p .str a0.f_From, .p .str a0.f_To])]⟩) [1] [1] hN (.cons (sok_box (U := Un) (rs := [(0, .p (.named 3) a0)]) (d := 1) (us := [.p I6 a0.f_Kind, .p .str a0.f_Text, .p .str a0.f_From, .p .str a0.f_To]) rfl rfl rfl o0 (.data (.named (.pair (.one _ _) (.pair (.one _ _) (.pair (.one _ _) (.pair (.one _ _) .unit)))))) rfl (notin_of (by kernel_rfl))) (.cons (sok_move (U := Un) (rs := []) rfl (.inr rfl) (.str _ _)) .nil)) (by kernel_rfl) (by kernel_rfl) (by kernel_rfl) (Conv.refl (U := Un) _) ?_
  refine thenQ_normal ?_
  refine WpC.seq ?_
  refine WpC.seq ?_
  refine WpC.reg (U := Un) (st1 := ⟨[(1, .loc 1 0), (4, .p I6 a0.f_Kind)], [(1, .box [.p I6 a0.f_Kind, .p .str a0.f_Text, .p .str a0.f_From, .p .str a0.f_To])]⟩) [1, 4] [1] hN (.cons (sok_fieldB (U := Un) (rs := [(1, .loc 1 0)]) rfl rfl fd_42_0 (by decide) o0) (.cons (sok_loadB (U := Un) (t := .int .i64) (rs := [(3, .loc 1 0)]) [] [.p I6 a0.f_Kind] [.p .str a0.f_Text, .p .str a0.f_From, .p .str a0.f_To] (v := .p I6 a0.f_Kind) rfl rfl ty_3 o0 rfl rfl rfl rfl (.data (.one _ _))) .nil)) (by kernel_rfl) (by kernel_rfl) (by kernel_rfl) (Conv.refl (U := Un) _) ?_
  refine thenQ_normal ?_
  refine WpC.block ?_
  refine WpC.seq ?_
  refine WpC.reg (U := Un) (st1 := ⟨[(1, .loc 1 0), (4, .p I6 a0.f_Kind), (5, .p .bool ((a0.f_Kind == 0) : Bool))], [(1, .box [.p I6 a0.f_Kind, .p .str a0.f_Text, .p .str a0.f_From, .p .str a0.f_To])]⟩) [1, 4, 5] [1] hN (.cons (sok_cmp (U := Un) (rs := [(4, .p I6 a0.f_Kind)]) rfl rfl o0 (.int _ _ _) rfl) (.cons (mva (U := Un) (v := .p .bool ((a0.f_Kind == 0) : Bool)) rfl rfl) .nil)) (by kernel_rfl) (by kernel_rfl) (by kernel_rfl) (Conv.refl (U := Un) _) ?_
  refine thenQ_normal ?_
  refine WpC.cond (U := Un) (b := (a0.f_Kind == 0)) (.tmp (.tail _ (.tail _ (.head _)))) (fun hc1 => ?_) (fun hc1 => ?_)
  · replace h := ite_t hc1 h
    refine WpC.seq ?_
    refine WpC.reg (U := Un) (st1 := ⟨[(2, .p .str a0.f_Text)], []⟩) [2] [] hN (.cons (sok_fieldB (U := Un) (rs := [(1, .loc 1 0)]) rfl rfl fd_42_1 (by decide) o0) (.cons (sok_loadB (U := Un) (t := .str) (rs := [(7, .loc 1 1)]) [.p I6 a0.f_Kind] [.p .str a0.f_Text] [.p .str a0.f_From, .p .str a0.f_To] (v := .p .str a0.f_Text) rfl rfl ty_9 o0 rfl rfl rfl rfl (.data (.one _ _))) (.cons (mva (U := Un) (v := .p .str a0.f_Text) rfl rfl) .nil))) (by kernel_rfl) (by kernel_rfl) (by kernel_rfl) (Conv.refl (U := Un) _) ?_
    refine thenQ_normal ?_
    refine WpC.ret ?_
    refine blockQ_ret ?_
    refine thenQ_ret ?_
    have hq := Option.some.inj h
    subst hq
    exact ends_ret (retV_1 rfl (.head _)) ain_nil
  · replace h := ite_f hc1 h
    refine WpC.seq ?_
    refine WpC.reg (U := Un) (st1 := ⟨[(1, .loc 1 0), (4, .p I6 a0.f_Kind), (9, .p .bool ((a0.f_Kind == 1) : Bool))], [(1, .box [.p I6 a0.f_Kind, .p .str a0.f_Text, .p .str a0.f_From, .p .str a0.f_To])]⟩) [1, 4, 9] [1] hN (.cons (sok_cmp (U := Un) (rs := [(4, .p I6 a0.f_Kind)]) rfl rfl o0 (.int _ _ _) rfl) (.cons (mva (U := Un) (v := .p .bool ((a0.f_Kind == 1) : Bool)) rfl rfl) .nil)) (by kernel_rfl) (by kernel_rfl) (by kernel_rfl) (Conv.refl (U := Un) _) ?_
    refine thenQ_normal ?_
    refine WpC.cond (U := Un) (b := (a0.f_Kind == 1)) (.tmp (.tail _ (.tail _ (.head _)))) (fun hc2 => ?_) (fun hc2 => ?_)
    · replace h := ite_t hc2 h
      refine WpC.seq ?_
      obtain ⟨v3, hv3, h⟩ := bind_some h
      obtain ⟨g4, h⟩ := if_some h
      obtain ⟨g5, h⟩ := if_some h
      refine WpC.reg (U := Un) (st1 := ⟨[(2, .p .str (((([39] : List UInt8) ++ v3) ++ ([39] : List UInt8)) : List UInt8))], []⟩) [2] [] hN (.cons (sok_fieldB (U := Un) (rs := [(1, .loc 1 0)]) rfl rfl fd_42_1 (by decide) o0) (.cons (sok_loadB (U := Un) (t := .str) (rs := [(11, .loc 1 1)]) [.p I6 a0.f_Kind] [.p .str a0.f_Text] [.p .str a0.f_From, .p .str a0.f_To] (v := .p .str a0.f_Text) rfl rfl ty_9 o0 rfl rfl rfl rfl (.data (.one _ _))) (.cons (sok_call (U := Un) (rs := [(12, .p .str a0.f_Text)]) (vw := []) rfl rfl hb_61 (pReplaceAllL.ok O hO k a0.f_Text ([39] : List UInt8) ([39, 39] : List UInt8) v3 hv3) (.cons o0 (.cons (.str _ _) (.cons (.str _ _) .nil))) (.cons (.same _) (.cons (.same _) (.cons (.same _) .nil))) (by simp) (.inl rfl)) (.cons (sok_cat (U := Un) (rs := [(13, .p .str v3)]) rfl rfl (.str _ _) o0 g4) (.cons (sok_cat (U := Un) (rs := [(14, .p .str ((([39] : List UInt8) ++ v3) : List UInt8))]) rfl rfl o0 (.str _ _) g5) (.cons (mva (U := Un) (v := .p .str (((([39] : List UInt8) ++ v3) ++ ([39] : List UInt8)) : List UInt8)) rfl rfl) .nil)))))) (by kernel_rfl) (by kernel_rfl) (by kernel_rfl) (Conv.refl (U := Un) _) ?_
      refine thenQ_normal ?_
      refine WpC.ret ?_
      refine blockQ_ret ?_
      refine thenQ_ret ?_
      have hq := Option.some.inj h
      subst hq
      exact ends_ret (retV_1 rfl (.head _)) ain_nil
    · replace h := ite_f hc2 h
      refine WpC.seq ?_
      refine WpC.reg (U := Un) (st1 := ⟨[(1, .loc 1 0), (4, .p I6 a0.f_Kind), (16, .p .bool ((a0.f_Kind == 2) : Bool))], [(1, .box [.p I6 a0.f_Kind, .p .str a0.f_Text, .p .str a0.f_From, .p .str a0.f_To])]⟩) [1, 4, 16] [1] hN (.cons (sok_cmp (U := Un) (rs := [(4, .p I6 a0.f_Kind)]) rfl rfl o0 (.int _ _ _) rfl) (.cons (mva (U := Un) (v := .p .bool ((a0.f_Kind == 2) : Bool)) rfl rfl) .nil)) (by kernel_rfl) (by kernel_rfl) (by kernel_rfl) (Conv.refl (U := Un) _) ?_
      refine thenQ_normal ?_
      refine WpC.cond (U := Un) (b := (a0.f_Kind == 2)) (.tmp (.tail _ (.tail _ (.head _)))) (fun hc6 => ?_) (fun hc6 => ?_)
      · replace h := ite_t hc6 h
        refine WpC.seq ?_
        obtain ⟨g7, h⟩ := if_some h
        obtain ⟨g8, h⟩ := if_some h
        refine WpC.reg (U := Un) (st1 := ⟨[(2, .p .str (((([36, 123] : List UInt8) ++ a0.f_Text) ++ ([125] : List UInt8)) : List UInt8))], []⟩) [2] [] hN (.cons (sok_fieldB (U := Un) (rs := [(1, .loc 1 0)]) rfl rfl fd_42_1 (by decide) o0) (.cons (sok_loadB (U := Un) (t := .str) (rs := [(18, .loc 1 1)]) [.p I6 a0.f_Kind] [.p .str a0.f_Text] [.p .str a0.f_From, .p .str a0.f_To] (v := .p .str a0.f_Text) rfl rfl ty_9 o0 rfl rfl rfl rfl (.data (.one _ _))) (.cons (sok_cat (U := Un) (rs := [(19, .p .str a0.f_Text)]) rfl rfl (.str _ _) o0 g7) (.cons (sok_cat (U := Un) (rs := [(20, .p .str ((([36, 123] : List UInt8) ++ a0.f_Text) : List UInt8))]) rfl rfl o0 (.str _ _) g8) (.cons (mva (U := Un) (v := .p .str (((([36, 123] : List UInt8) ++ a0.f_Text) ++ ([125] : List UInt8)) : List UInt8)) rfl rfl) .nil))))) (by kernel_rfl) (by kernel_rfl) (by kernel_rfl) (Conv.refl (U := Un) _) ?_
        refine thenQ_normal ?_
        refine WpC.ret ?_
        refine blockQ_ret ?_
        refine thenQ_ret ?_
        have hq := Option.some.inj h
        subst hq
        exact ends_ret (retV_1 rfl (.head _)) ain_nil
      · replace h := ite_f hc6 h
        refine WpC.seq ?_
        refine WpC.reg (U := Un) (st1 := ⟨[(1, .loc 1 0), (4, .p I6 a0.f_Kind), (22, .p .bool ((a0.f_Kind == 3) : Bool))], [(1, .box [.p I6 a0.f_Kind, .p .str a0.f_Text, .p .str a0.f_From, .p .str a0.f_To])]⟩) [1, 4, 22] [1] hN (.cons (sok_cmp (U := Un) (rs := [(4, .p I6 a0.f_Kind)]) rfl rfl o0 (.int _ _ _) rfl) (.cons (mva (U := Un) (v := .p .bool ((a0.f_Kind == 3) : Bool)) rfl rfl) .nil)) (by kernel_rfl) (by kernel_rfl) (by kernel_rfl) (Conv.refl (U := Un) _) ?_
        refine thenQ_normal ?_
        refine WpC.cond (U := Un) (b := (a0.f_Kind == 3)) (.tmp (.tail _ (.tail _ (.head _)))) (fun hc9 => ?_) (fun hc9 => ?_)
        · replace h := ite_t hc9 h
          refine WpC.seq ?_
          obtain ⟨g10, h⟩ := if_some h
          obtain ⟨g11, h⟩ := if_some h
          obtain ⟨g12, h⟩ := if_some h
          obtain ⟨g13, h⟩ := if_some h
          obtain ⟨g14, h⟩ := if_some h
          obtain ⟨g15, h⟩ := if_some h
          refine WpC.reg (U := Un) (st1 := ⟨[(2, .p .str (((((((([36, 123] : List UInt8) ++ a0.f_Text) ++ ([58] : List UInt8)) ++ a0.f_From) ++ ([61] : List UInt8)) ++ a0.f_To) ++ ([125] : List UInt8)) : List UInt8))], []⟩) [2] [] hN (.cons (sok_fieldB (U := Un) (rs := [(1, .loc 1 0)]) rfl rfl fd_42_1 (by decide) o0) (.cons (sok_loadB (U := Un) (t := .str) (rs := [(24, .loc 1 1)]) [.p I6 a0.f_Kind] [.p .str a0.f_Text] [.p .str a0.f_From, .p .str a0.f_To] (v := .p .str a0.f_Text) rfl rfl ty_9 o0 rfl rfl rfl rfl (.data (.one _ _))) (.cons (sok_cat (U := Un) (rs := [(25, .p .str a0.f_Text)]) rfl rfl (.str _ _) o0 g10) (.cons (sok_cat (U := Un) (rs := [(26, .p .str ((([36, 123] : List UInt8) ++ a0.f_Text) : List UInt8))]) rfl rfl o0 (.str _ _) g11) (.cons (sok_fieldB (U := Un) (rs := [(1, .loc 1 0)]) rfl rfl fd_42_2 (by decide) o0) (.cons (sok_loadB (U := Un) (t := .str) (rs := [(28, .loc 1 2)]) [.p I6 a0.f_Kind, .p .str a0.f_Text] [.p .str a0.f_From] [.p .str a0.f_To] (v := .p .str a0.f_From) rfl rfl ty_9 o0 rfl rfl rfl rfl (.data (.one _ _))) (.cons (sok_cat (U := Un) (rs := [(27, .p .str (((([36, 123] : List UInt8) ++ a0.f_Text) ++ ([58] : List UInt8)) : List UInt8)), (29, .p .str a0.f_From)]) rfl rfl o0 o1 g12) (.cons (sok_cat (U := Un) (rs := [(30, .p .str ((((([36, 123] : List UInt8) ++ a0.f_Text) ++ ([58] : List UInt8)) ++ a0.f_From) : List UInt8))]) rfl rfl o0 (.str _ _) g13) (.cons (sok_fieldB (U := Un) (rs := [(1, .loc 1 0)]) rfl rfl fd_42_3 (by decide) o0) (.cons (sok_loadB (U := Un) (t := .str) (rs := [(32, .loc 1 3)]) [.p I6 a0.f_Kind, .p .str a0.f_Text, .p .str a0.f_From] [.p .str a0.f_To] [] (v := .p .str a0.f_To) rfl rfl ty_9 o0 rfl rfl rfl rfl (.data (.one _ _))) (.cons (sok_cat (U := Un) (rs := [(31, .p .str (((((([36, 123] : List UInt8) ++ a0.f_Text) ++ ([58] : List UInt8)) ++ a0.f_From) ++ ([61] : List UInt8)) : List UInt8)), (33, .p .str a0.f_To)]) rfl rfl o0 o1 g14) (.cons (sok_cat (U := Un) (rs := [(34, .p .str ((((((([36, 123] : List UInt8) ++ a0.f_Text) ++ ([58] : List UInt8)) ++ a0.f_From) ++ ([61] : List UInt8)) ++ a0.f_To) : List UInt8))]) rfl rfl o0 (.str _ _) g15) (.cons (mva (U := Un) (v := .p .str (((((((([36, 123] : List UInt8) ++ a0.f_Text) ++ ([58] : List UInt8)) ++ a0.f_From) ++ ([61] : List UInt8)) ++ a0.f_To) ++ ([125] : List UInt8)) : List UInt8)) rfl rfl) .nil))))))))))))) (by kernel_rfl) (by kernel_rfl) (by kernel_rfl) (Conv.refl (U := Un) _) ?_
          refine thenQ_normal ?_
          refine WpC.ret ?_
          refine blockQ_ret ?_
          refine thenQ_ret ?_
          have hq := Option.some.inj h
          subst hq
          exact ends_ret (retV_1 rfl (.head _)) ain_nil
        · replace h := ite_f hc9 h
          refine WpC.seq ?_
          refine WpC.reg (U := Un) (st1 := ⟨[(1, .loc 1 0), (36, .p .bool ((a0.f_Kind == 4) : Bool))], [(1, .box [.p I6 a0.f_Kind, .p .str a0.f_Text, .p .str a0.f_From, .p .str a0.f_To])]⟩) [1, 36] [1] hN (.cons (sok_cmp (U := Un) (rs := [(4, .p I6 a0.f_Kind)]) rfl rfl o0 (.int _ _ _) rfl) (.cons (mva (U := Un) (v := .p .bool ((a0.f_Kind == 4) : Bool)) rfl rfl) .nil)) (by kernel_rfl) (by kernel_rfl) (by kernel_rfl) (Conv.refl (U := Un) _) ?_
          refine thenQ_normal ?_
          refine WpC.cond (U := Un) (b := (a0.f_Kind == 4)) o1 (fun hc16 => ?_) (fun hc16 => ?_)
          · replace h := ite_t hc16 h
            refine WpC.seq ?_
            obtain ⟨g17, h⟩ := if_some h
            obtain ⟨g18, h⟩ := if_some h
            refine WpC.reg (U := Un) (st1 := ⟨[(2, .p .str (((([96, 123] : List UInt8) ++ a0.f_Text) ++ ([125] : List UInt8)) : List UInt8))], []⟩) [2] [] hN (.cons (sok_fieldB (U := Un) (rs := [(1, .loc 1 0)]) rfl rfl fd_42_1 (by decide) o0) (.cons (sok_loadB (U := Un) (t := .str) (rs := [(38, .loc 1 1)]) [.p I6 a0.f_Kind] [.p .str a0.f_Text] [.p .str a0.f_From, .p .str a0.f_To] (v := .p .str a0.f_Text) rfl rfl ty_9 o0 rfl rfl rfl rfl (.data (.one _ _))) (.cons (sok_cat (U := Un) (rs := [(39, .p .str a0.f_Text)]) rfl rfl (.str _ _) o0 g17) (.cons (sok_cat (U := Un) (rs := [(40, .p .str ((([96, 123] : List UInt8) ++ a0.f_Text) : List UInt8))]) rfl rfl o0 (.str _ _) g18) (.cons (mva (U := Un) (v := .p .str (((([96, 123] : List UInt8) ++ a0.f_Text) ++ ([125] : List UInt8)) : List UInt8)) rfl rfl) .nil))))) (by kernel_rfl) (by kernel_rfl) (by kernel_rfl) (Conv.refl (U := Un) _) ?_
            refine thenQ_normal ?_
            refine WpC.ret ?_
            refine blockQ_ret ?_
            refine thenQ_ret ?_
            have hq := Option.some.inj h
            subst hq
            exact ends_ret (retV_1 rfl (.head _)) ain_nil
          · replace h := ite_f hc16 h
            refine WpC.conv (Conv.keep (U := Un) (b := ⟨[], []⟩) [] [] (by kernel_rfl)) (WpC.skip ?_)
            refine blockQ_normal ?_
            refine thenQ_normal ?_
            refine WpC.seq ?_
            refine WpC.reg (U := Un) (st1 := ⟨[(2, .p .str (([] : List UInt8) : List UInt8))], []⟩) [2] [] hN (.cons (sok_move (U := Un) (rs := []) rfl (.inr rfl) (.str _ _)) .nil) (by kernel_rfl) (by kernel_rfl) (by kernel_rfl) (Conv.refl (U := Un) _) ?_
            refine thenQ_normal ?_
            refine WpC.ret ?_
            have hq := Option.some.inj h
            subst hq
            exact ends_ret (retV_1 rfl (.head _)) ain_nil

theorem lex_Text.ok (O : Out) (hO : GOkL O) (k : Nat) (a0 : List T_lex_Piece) (out : List UInt8) (h : lex_Text.f k a0 = some out) : COk Un O Tryd.prog 16 { ar := [.p (.list (.named 3)) a0], r := .p .str out } := by
  refine cok_of_wp Tryd.func16 rfl (k := 18) rfl (Nat.le_of_ble_eq_true rfl) (namesOk_pure rfl rfl rfl rfl) ?_
  intro B hN
  refine WpC.conv (Conv.keep (U := Un) (b := ⟨[(0, .p (.list (.named 3)) a0)], []⟩) [0] [] (by kernel_rfl)) ?_
  unfold lex_Text.f at h
  refine WpC.seq ?_
  refine WpC.reg (U := Un) (st1 := ⟨[(0, .p (.list (.named 3)) a0)], []⟩) [0] [] hN (.cons (sok_move (U := Un) (rs := []) rfl (.inr rfl) (.str _ _)) .nil) (by kernel_rfl) (by kernel_rfl) (by kernel_rfl) (Conv.refl (U := Un) _) ?_
  refine thenQ_normal ?_
  refine WpC.seq ?_
  refine WpC.reg (U := Un) (st1 := ⟨[(0, .p (.list (.named 3)) a0), (3, .p .str (([] : List UInt8) : List UInt8))], []⟩) [0, 3] [] hN (.cons (sok_move (U := Un) (rs := []) rfl (.inr rfl) (.str _ _)) .nil) (by kernel_rfl) (by kernel_rfl) (by kernel_rfl) (Conv.refl (U := Un) _) ?_
  refine thenQ_normal ?_
  refine WpC.seqJ (U := Un) (fun st' => ∃ v1 : List UInt8, lex_Text.j2 k v1 = some out ∧ st' = ⟨[(3, .p .str v1)], []⟩) ?_ ?_
  · refine WpC.seq ?_
    refine WpC.reg (U := Un) (st1 := ⟨[(3, .p .str (([] : List UInt8) : List UInt8)), (6, .p (.list (.named 3)) a0), (7, .p I6 ((a0.length : Int) : Int)), (8, .p I6 (0 : Int))], []⟩) [3, 6, 7, 8] [] hN (.cons (mv (U := Un) (v := .p (.list (.named 3)) a0) rfl rfl) (.cons (sok_lenL (U := Un) (rs := [(6, .p (.list (.named 3)) a0)]) rfl rfl Tryd.underlying36 o0) (.cons (sok_move (U := Un) (rs := []) rfl (.inl rfl) (.int _ _ _)) .nil))) (by kernel_rfl) (by kernel_rfl) (by kernel_rfl) (Conv.refl (U := Un) _) ?_
    refine thenQ_normal ?_
    refine WpC.block ?_
    obtain ⟨o7, hlo7, h⟩ := bind_some h
    have hout8 := h
    clear h
    refine WpC.loop (U := Un) (fun n st' => ∃ v3 : List UInt8, ∃ v4 : Int, lex_Text.l5 k a0 n v3 v4 = some o7 ∧ st' = ⟨[(3, .p .str v3), (6, .p (.list (.named 3)) a0), (7, .p I6 ((a0.length : Int) : Int)), (8, .p I6 v4)], []⟩) k ⟨([] : List UInt8), 0, hlo7, rfl⟩ ?_
    clear hlo7
    rintro (_ | n) _ ⟨v3, v4, h, rfl⟩
    · cases h
    · rw [lex_Text.l5] at h
      refine WpC.seq ?_
      refine WpC.reg (U := Un) (st1 := ⟨[(3, .p .str v3), (6, .p (.list (.named 3)) a0), (7, .p I6 ((a0.length : Int) : Int)), (8, .p I6 v4), (9, .p .bool ((decide (v4 < (a0.length : Int))) : Bool))], []⟩) [3, 6, 7, 8, 9] [] hN (.cons (sok_cmp (U := Un) (rs := [(8, .p I6 v4), (7, .p I6 ((a0.length : Int) : Int))]) rfl rfl o0 o1 rfl) .nil) (by kernel_rfl) (by kernel_rfl) (by kernel_rfl) (Conv.refl (U := Un) _) ?_
      refine thenQ_normal ?_
      refine WpC.seq ?_
      refine WpC.cond (U := Un) (b := (decide (v4 < (a0.length : Int)))) (.tmp (.tail _ (.tail _ (.tail _ (.tail _ (.head _)))))) (fun hc9 => ?_) (fun hc9 => ?_)
      · replace h := ite_t hc9 h
        refine WpC.conv (Conv.keep (U := Un) (b := ⟨[(3, .p .str v3), (6, .p (.list (.named 3)) a0), (7, .p I6 ((a0.length : Int) : Int)), (8, .p I6 v4)], []⟩) [3, 6, 7, 8] [] (by kernel_rfl)) (WpC.skip ?_)
        refine thenQ_normal ?_
        refine WpC.seq ?_
        refine WpC.block ?_
        refine WpC.seq ?_
        obtain ⟨v10, hv10, h⟩ := bind_some h
        refine WpC.reg (U := Un) (st1 := ⟨[(3, .p .str v3), (5, .loc 5 0), (6, .p (.list (.named 3)) a0), (7, .p I6 ((a0.length : Int) : Int)), (8, .p I6 v4)], [(5, .box [.p I6 v10.f_Kind, .p .str v10.f_Text, .p .str v10.f_From, .p .str v10.f_To])]⟩) [3, 5, 6, 7, 8] [5] hN (.cons (sok_indexL (U := Un) (rs := [(6, .p (.list (.named 3)) a0), (8, .p I6 v4)]) rfl rfl sl_36 o0 o1 hv10) (.cons (sok_loadP (U := Un) (rs := [(10, .pp (.named 3) v10)]) rfl rfl ty_42 o0) (.cons (sok_allocZ (U := Un) (rs := []) (d := 5) (us := [.p I6 (0 : Int), .p .str ([] : List UInt8), .p .str ([] : List UInt8), .p .str ([] : List UInt8)]) (v := (.agg #[.int .i64 0, .string ByteArray.empty, .string ByteArray.empty, .string ByteArray.empty])) rfl rfl rfl (by kernel_rfl) rfl (.data (fun _ _ _ => .int _ _) (.data (fun _ _ _ => rd_str0) (.data (fun _ _ _ => rd_str0) (.data (fun _ _ _ => rd_str0) .nil)))) (by kernel_rfl)) (.cons (sok_storeB (U := Un) (rs := [(5, .loc 5 0), (11, .p (.named 3) v10)]) (v := .p (.named 3) v10) (mid' := [.p I6 v10.f_Kind, .p .str v10.f_Text, .p .str v10.f_From, .p .str v10.f_To]) [] [.p I6 (0 : Int), .p .str ([] : List UInt8), .p .str ([] : List UInt8), .p .str ([] : List UInt8)] [] rfl rfl rfl ty_42 o0 o1 (.data (.named (.pair (.one _ _) (.pair (.one _ _) (.pair (.one _ _) (.pair (.one _ _) .unit)))))) rfl rfl rfl rfl rfl rfl) .nil)))) (by kernel_rfl) (by kernel_rfl) (by kernel_rfl) (Conv.refl (U := Un) _) ?_
        refine thenQ_normal ?_
        obtain ⟨v11, hv11, h⟩ := bind_some h
        obtain ⟨g12, h⟩ := if_some h
        refine WpC.reg (U := Un) (st1 := ⟨[(3, .p .str ((v3 ++ v11) : List UInt8)), (6, .p (.list (.named 3)) a0), (7, .p I6 ((a0.length : Int) : Int)), (8, .p I6 v4)], []⟩) [3, 6, 7, 8] [] hN (.cons (mv (U := Un) (v := .p .str v3) rfl rfl) (.cons (sok_loadB (U := Un) (t := .named 3) (rs := [(5, .loc 5 0)]) [] [.p I6 v10.f_Kind, .p .str v10.f_Text, .p .str v10.f_From, .p .str v10.f_To] [] (v := .p (.named 3) ((T_lex_Piece.mk v10.f_Kind v10.f_Text v10.f_From v10.f_To) : T_lex_Piece)) rfl rfl ty_42 o0 rfl rfl rfl rfl (.data (.named (.pair (.one _ _) (.pair (.one _ _) (.pair (.one _ _) (.pair (.one _ _) .unit))))))) (.cons (sok_callV (U := Un) (rs := [(13, .p (.named 3) ((T_lex_Piece.mk v10.f_Kind v10.f_Text v10.f_From v10.f_To) : T_lex_Piece))]) (vw := []) rfl rfl (.func _) hb_48 (lex_Piece_text.ok O hO k (T_lex_Piece.mk v10.f_Kind v10.f_Text v10.f_From v10.f_To) v11 hv11) (.cons o0 .nil) (.cons (.same _) .nil) (by simp) (.inl rfl)) (.cons (sok_cat (U := Un) (rs := [(12, .p .str v3), (14, .p .str v11)]) rfl rfl o0 o1 g12) (.cons (mva (U := Un) (v := .p .str ((v3 ++ v11) : List UInt8)) rfl rfl) .nil))))) (by kernel_rfl) (by kernel_rfl) (by kernel_rfl) (Conv.refl (U := Un) _) ?_
        refine blockQ_normal ?_
        refine thenQ_normal ?_
        refine WpC.reg (U := Un) (st1 := ⟨[(3, .p .str ((v3 ++ v11) : List UInt8)), (6, .p (.list (.named 3)) a0), (7, .p I6 ((a0.length : Int) : Int)), (8, .p I6 ((IntKind.i64.wrap (v4 + 1)) : Int))], []⟩) [3, 6, 7, 8] [] hN (.cons (sok_arith (U := Un) (rs := [(8, .p I6 v4)]) rfl rfl o0 (.int _ _ _) rfl) (.cons (mv (U := Un) (v := .p I6 ((IntKind.i64.wrap (v4 + 1)) : Int)) rfl rfl) .nil)) (by kernel_rfl) (by kernel_rfl) (by kernel_rfl) (Conv.refl (U := Un) _) ?_
        refine thenQ_normal ?_
        exact ⟨n, Nat.lt_succ_self n, (v3 ++ v11), (IntKind.i64.wrap (v4 + 1)), h, rfl⟩
      · replace h := ite_f hc9 h
        refine WpC.conv (Conv.keep (U := Un) (b := ⟨[(3, .p .str v3)], []⟩) [3] [] (by kernel_rfl)) (WpC.exit ?_)
        refine thenQ_exit ?_
        have hq := Option.some.inj h
        subst hq
        refine thenQ_exit ?_
        have h := hout8
        refine blockQ_hit ?_
        refine thenQ_normal ?_
        exact ⟨v3, h, rfl⟩
  · rintro _ ⟨v1, h, rfl⟩
    unfold lex_Text.j2 at h
    refine WpC.seq ?_
    refine WpC.reg (U := Un) (st1 := ⟨[(2, .p .str v1)], []⟩) [2] [] hN (.cons (mv (U := Un) (v := .p .str v1) rfl rfl) (.cons (mva (U := Un) (v := .p .str v1) rfl rfl) .nil)) (by kernel_rfl) (by kernel_rfl) (by kernel_rfl) (Conv.refl (U := Un) _) ?_
    refine thenQ_normal ?_
    refine WpC.ret ?_
    have hq := Option.some.inj h
    subst hq
    exact ends_ret (retV_1 rfl (.head _)) ain_nil

theorem lex_Piece_50.ok (O : Out) (hO : GOkL O) (k : Nat) (a0 : List T_lex_Piece) (a1 : List T_lex_Piece) (out : Bool) (h : lex_Piece_50.f k a0 a1 = some out) : COk Un O Tryd.prog 50 { ar := [.p (.list (.named 3)) a0, .p (.list (.named 3)) a1], r := .p .bool out } := by
  refine cok_of_wp Tryd.func50 rfl (k := 26) rfl (Nat.le_of_ble_eq_true rfl) (namesOk_pure rfl rfl rfl rfl) ?_
  intro B hN
  refine WpC.conv (Conv.keep (U := Un) (b := ⟨[(0, .p (.list (.named 3)) a0), (1, .p (.list (.named 3)) a1)], []⟩) [0, 1] [] (by kernel_rfl)) ?_
  unfold lex_Piece_50.f at h
  refine WpC.seq ?_
  refine WpC.reg (U := Un) (st1 := ⟨[(0, .p (.list (.named 3)) a0), (1, .p (.list (.named 3)) a1)], []⟩) [0, 1] [] hN (.cons (sok_move (U := Un) (rs := []) rfl (.inr rfl) (.bool _ _)) .nil) (by kernel_rfl) (by kernel_rfl) (by kernel_rfl) (Conv.refl (U := Un) _) ?_
  refine thenQ_normal ?_
  refine WpC.seq ?_
  refine WpC.seq ?_
  refine WpC.reg (U := Un) (st1 := ⟨[(0, .p (.list (.named 3)) a0), (1, .p (.list (.named 3)) a1), (10, .p .bool (((a0.length : Int) != (a1.length : Int)) : Bool))], []⟩) [0, 1, 10] [] hN (.cons (mv (U := Un) (v := .p (.list (.named 3)) a0) rfl rfl) (.cons (sok_lenL (U := Un) (rs := [(6, .p (.list (.named 3)) a0)]) rfl rfl Tryd.underlying36 o0) (.cons (mv (U := Un) (v := .p (.list (.named 3)) a1) rfl rfl) (.cons (sok_lenL (U := Un) (rs := [(8, .p (.list (.named 3)) a1)]) rfl rfl Tryd.underlying36 o0) (.cons (sok_cmp (U := Un) (rs := [(7, .p I6 ((a0.length : Int) : Int)), (9, .p I6 ((a1.length : Int) : Int))]) rfl rfl o0 o1 rfl) .nil))))) (by kernel_rfl) (by kernel_rfl) (by kernel_rfl) (Conv.refl (U := Un) _) ?_
  refine thenQ_normal ?_
  refine WpC.cond (U := Un) (b := ((a0.length : Int) != (a1.length : Int))) (.tmp (.tail _ (.tail _ (.head _)))) (fun hc1 => ?_) (fun hc1 => ?_)
  · replace h := ite_t hc1 h
    refine WpC.seq ?_
    refine WpC.reg (U := Un) (st1 := ⟨[(4, .p .bool false)], []⟩) [4] [] hN (.cons (sok_move (U := Un) (rs := []) rfl (.inr rfl) (.bool _ _)) .nil) (by kernel_rfl) (by kernel_rfl) (by kernel_rfl) (Conv.refl (U := Un) _) ?_
    refine thenQ_normal ?_
    refine WpC.ret ?_
    refine thenQ_ret ?_
    have hq := Option.some.inj h
    subst hq
    exact ends_ret (retV_1 rfl (.head _)) ain_nil
  · replace h := ite_f hc1 h
    refine WpC.conv (Conv.keep (U := Un) (b := ⟨[(0, .p (.list (.named 3)) a0), (1, .p (.list (.named 3)) a1)], []⟩) [0, 1] [] (by kernel_rfl)) (WpC.skip ?_)
    refine thenQ_normal ?_
    refine WpC.seqJ (U := Un) (fun st' => lex_Piece_50.j2 k = some out ∧ st' = ⟨[], []⟩) ?_ ?_
    · refine WpC.seq ?_
      refine WpC.reg (U := Un) (st1 := ⟨[(0, .p (.list (.named 3)) a0), (1, .p (.list (.named 3)) a1), (12, .p I6 ((a0.length : Int) : Int)), (13, .p I6 (0 : Int))], []⟩) [0, 1, 12, 13] [] hN (.cons (mv (U := Un) (v := .p (.list (.named 3)) a0) rfl rfl) (.cons (sok_lenL (U := Un) (rs := [(11, .p (.list (.named 3)) a0)]) rfl rfl Tryd.underlying36 o0) (.cons (sok_move (U := Un) (rs := []) rfl (.inl rfl) (.int _ _ _)) .nil))) (by kernel_rfl) (by kernel_rfl) (by kernel_rfl) (Conv.refl (U := Un) _) ?_
      refine thenQ_normal ?_
      refine WpC.block ?_
      obtain ⟨o5, hlo5, h⟩ := bind_some h
      have hout6 := h
      clear h
      refine WpC.loop (U := Un) (fun n st' => ∃ v3 : Int, lex_Piece_50.l4 k a0 a1 n v3 = some o5 ∧ st' = ⟨[(0, .p (.list (.named 3)) a0), (1, .p (.list (.named 3)) a1), (12, .p I6 ((a0.length : Int) : Int)), (13, .p I6 v3)], []⟩) k ⟨0, hlo5, rfl⟩ ?_
      clear hlo5
      rintro (_ | n) _ ⟨v3, h, rfl⟩
      · cases h
      · rw [lex_Piece_50.l4] at h
        refine WpC.seq ?_
        refine WpC.reg (U := Un) (st1 := ⟨[(0, .p (.list (.named 3)) a0), (1, .p (.list (.named 3)) a1), (12, .p I6 ((a0.length : Int) : Int)), (13, .p I6 v3), (14, .p .bool ((decide (v3 < (a0.length : Int))) : Bool))], []⟩) [0, 1, 12, 13, 14] [] hN (.cons (sok_cmp (U := Un) (rs := [(13, .p I6 v3), (12, .p I6 ((a0.length : Int) : Int))]) rfl rfl o0 o1 rfl) .nil) (by kernel_rfl) (by kernel_rfl) (by kernel_rfl) (Conv.refl (U := Un) _) ?_
        refine thenQ_normal ?_
        refine WpC.seq ?_
        refine WpC.cond (U := Un) (b := (decide (v3 < (a0.length : Int)))) (.tmp (.tail _ (.tail _ (.tail _ (.tail _ (.head _)))))) (fun hc7 => ?_) (fun hc7 => ?_)
        · replace h := ite_t hc7 h
          refine WpC.conv (Conv.keep (U := Un) (b := ⟨[(0, .p (.list (.named 3)) a0), (1, .p (.list (.named 3)) a1), (12, .p I6 ((a0.length : Int) : Int)), (13, .p I6 v3)], []⟩) [0, 1, 12, 13] [] (by kernel_rfl)) (WpC.skip ?_)
          refine thenQ_normal ?_
          refine WpC.seq ?_
          refine WpC.block ?_
          refine WpC.seq ?_
          refine WpC.reg (U := Un) (st1 := ⟨[(0, .p (.list (.named 3)) a0), (1, .p (.list (.named 3)) a1), (5, .p I6 v3), (12, .p I6 ((a0.length : Int) : Int)), (13, .p I6 v3)], []⟩) [0, 1, 5, 12, 13] [] hN (.cons (mv (U := Un) (v := .p I6 v3) rfl rfl) (.cons (mva (U := Un) (v := .p I6 v3) rfl rfl) .nil)) (by kernel_rfl) (by kernel_rfl) (by kernel_rfl) (Conv.refl (U := Un) _) ?_
          refine thenQ_normal ?_
          refine WpC.seq ?_
          obtain ⟨v8, hv8, h⟩ := bind_some h
          obtain ⟨v9, hv9, h⟩ := bind_some h
          refine WpC.regA (U := Un) (st1 := ⟨[(0, .p (.list (.named 3)) a0), (1, .p (.list (.named 3)) a1), (12, .p I6 ((a0.length : Int) : Int)), (13, .p I6 v3), (24, .p .bool ((!(v8.f_Kind == v9.f_Kind && (v8.f_Text == v9.f_Text && (v8.f_From == v9.f_From && (v8.f_To == v9.f_To && true))))) : Bool))], []⟩) [0, 1, 12, 13, 24] [] [[], [], [0, 1], [0, 1, 2], [], [], [4, 5], [4, 5, 6], [0, 1, 2, 3, 4, 5, 6, 7]] mixed hN (.cons (mv (U := Un) (v := .p (.list (.named 3)) a0) rfl rfl) (.cons (mv (U := Un) (v := .p I6 v3) rfl rfl) (.cons (sok_indexL (U := Un) (rs := [(16, .p (.list (.named 3)) a0), (17, .p I6 v3)]) rfl rfl sl_36 o0 o1 hv8) (.cons (sok_loadP (U := Un) (rs := [(18, .pp (.named 3) v8)]) rfl rfl ty_42 o0) (.cons (mv (U := Un) (v := .p (.list (.named 3)) a1) rfl rfl) (.cons (mv (U := Un) (v := .p I6 v3) rfl rfl) (.cons (sok_indexL (U := Un) (rs := [(20, .p (.list (.named 3)) a1), (21, .p I6 v3)]) rfl rfl sl_36 o0 o1 hv9) (.cons (sok_loadP (U := Un) (rs := [(22, .pp (.named 3) v9)]) rfl rfl ty_42 o0) (.cons (sok_neS (U := Un) (rs := [(19, .p (.named 3) v8), (23, .p (.named 3) v9)]) rfl rfl Tryd.underlying42 (by kernel_rfl) (eqf_42 _ Tryd.underlying42) (by kernel_rfl) o0 o1) .nil))))))))) (by kernel_rfl) (by kernel_rfl) (by kernel_rfl) (by kernel_rfl) (by kernel_rfl) (Conv.refl (U := Un) _) ?_
          refine thenQ_normal ?_
          refine WpC.cond (U := Un) (b := (!(v8.f_Kind == v9.f_Kind && (v8.f_Text == v9.f_Text && (v8.f_From == v9.f_From && (v8.f_To == v9.f_To && true)))))) (.tmp (.tail _ (.tail _ (.tail _ (.tail _ (.head _)))))) (fun hc10 => ?_) (fun hc10 => ?_)
          · replace h := ite_t hc10 h
            refine WpC.seq ?_
            refine WpC.reg (U := Un) (st1 := ⟨[(4, .p .bool false)], []⟩) [4] [] hN (.cons (sok_move (U := Un) (rs := []) rfl (.inr rfl) (.bool _ _)) .nil) (by kernel_rfl) (by kernel_rfl) (by kernel_rfl) (Conv.refl (U := Un) _) ?_
            refine thenQ_normal ?_
            refine WpC.ret ?_
            refine blockQ_ret ?_
            refine thenQ_ret ?_
            have hq := Option.some.inj h
            subst hq
            refine thenQ_ret ?_
            have h := hout6
            refine blockQ_ret ?_
            refine thenQ_ret ?_
            have hq := Option.some.inj h
            subst hq
            exact ends_ret (retV_1 rfl (.head _)) ain_nil
          · replace h := ite_f hc10 h
            refine WpC.conv (Conv.keep (U := Un) (b := ⟨[(0, .p (.list (.named 3)) a0), (1, .p (.list (.named 3)) a1), (12, .p I6 ((a0.length : Int) : Int)), (13, .p I6 v3)], []⟩) [0, 1, 12, 13] [] (by kernel_rfl)) (WpC.skip ?_)
            refine blockQ_normal ?_
            refine thenQ_normal ?_
            refine WpC.reg (U := Un) (st1 := ⟨[(0, .p (.list (.named 3)) a0), (1, .p (.list (.named 3)) a1), (12, .p I6 ((a0.length : Int) : Int)), (13, .p I6 ((IntKind.i64.wrap (v3 + 1)) : Int))], []⟩) [0, 1, 12, 13] [] hN (.cons (sok_arith (U := Un) (rs := [(13, .p I6 v3)]) rfl rfl o0 (.int _ _ _) rfl) (.cons (mv (U := Un) (v := .p I6 ((IntKind.i64.wrap (v3 + 1)) : Int)) rfl rfl) .nil)) (by kernel_rfl) (by kernel_rfl) (by kernel_rfl) (Conv.refl (U := Un) _) ?_
            refine thenQ_normal ?_
            exact ⟨n, Nat.lt_succ_self n, (IntKind.i64.wrap (v3 + 1)), h, rfl⟩
        · replace h := ite_f hc7 h
          refine WpC.conv (Conv.keep (U := Un) (b := ⟨[], []⟩) [] [] (by kernel_rfl)) (WpC.exit ?_)
          refine thenQ_exit ?_
          have hq := Option.some.inj h
          subst hq
          refine thenQ_exit ?_
          have h := hout6
          refine blockQ_hit ?_
          refine thenQ_normal ?_
          exact ⟨h, rfl⟩
    · rintro _ ⟨h, rfl⟩
      unfold lex_Piece_50.j2 at h
      refine WpC.seq ?_
      refine WpC.reg (U := Un) (st1 := ⟨[(4, .p .bool true)], []⟩) [4] [] hN (.cons (sok_move (U := Un) (rs := []) rfl (.inr rfl) (.bool _ _)) .nil) (by kernel_rfl) (by kernel_rfl) (by kernel_rfl) (Conv.refl (U := Un) _) ?_
      refine thenQ_normal ?_
      refine WpC.ret ?_
      have hq := Option.some.inj h
      subst hq
      exact ends_ret (retV_1 rfl (.head _)) ain_nil

theorem lex_Piece_m0.ok (O : Out) (hO : GOkL O) (k : Nat) (a0 : List (List T_lex_Piece)) (a1 : List (List T_lex_Piece)) (out : Bool) (h : lex_Piece_m0.f k a0 a1 = some out) : COk Un O Tryd.prog 49 { ar := [.p (.list (.list (.named 3))) a0, .p (.list (.list (.named 3))) a1, .clo 50 []], r := .p .bool out } := by
  refine cok_of_wp Tryd.func49 rfl (k := 32) rfl (Nat.le_of_ble_eq_true rfl) (namesOk_pure rfl rfl rfl rfl) ?_
  intro B hN
  refine WpC.conv (Conv.keep (U := Un) (b := ⟨[(0, .p (.list (.list (.named 3))) a0), (1, .p (.list (.list (.named 3))) a1), (2, .clo 50 [])], []⟩) [0, 1, 2] [] (by kernel_rfl)) ?_
  unfold lex_Piece_m0.f at h
  refine WpC.seq ?_
  refine WpC.reg (U := Un) (st1 := ⟨[(0, .p (.list (.list (.named 3))) a0), (1, .p (.list (.list (.named 3))) a1), (2, .clo 50 [])], []⟩) [0, 1, 2] [] hN (.cons (sok_move (U := Un) (rs := []) rfl (.inr rfl) (.bool _ _)) .nil) (by kernel_rfl) (by kernel_rfl) (by kernel_rfl) (Conv.refl (U := Un) _) ?_
  refine thenQ_normal ?_
  refine WpC.seq ?_
  refine WpC.seq ?_
  refine WpC.reg (U := Un) (st1 := ⟨[(0, .p (.list (.list (.named 3))) a0), (1, .p (.list (.list (.named 3))) a1), (2, .clo 50 []), (14, .p .bool (((a0.length : Int) != (a1.length : Int)) : Bool))], []⟩) [0, 1, 2, 14] [] hN (.cons (mv (U := Un) (v := .p (.list (.list (.named 3))) a0) rfl rfl) (.cons (sok_lenL (U := Un) (rs := [(10, .p (.list (.list (.named 3))) a0)]) rfl rfl Tryd.underlying33 o0) (.cons (mv (U := Un) (v := .p (.list (.list (.named 3))) a1) rfl rfl) (.cons (sok_lenL (U := Un) (rs := [(12, .p (.list (.list (.named 3))) a1)]) rfl rfl Tryd.underlying33 o0) (.cons (sok_cmp (U := Un) (rs := [(11, .p I6 ((a0.length : Int) : Int)), (13, .p I6 ((a1.length : Int) : Int))]) rfl rfl o0 o1 rfl) .nil))))) (by kernel_rfl) (by kernel_rfl) (by kernel_rfl) (Conv.refl (U := Un) _) ?_
  refine thenQ_normal ?_
  refine WpC.cond (U := Un) (b := ((a0.length : Int) != (a1.length : Int))) (.tmp (.tail _ (.tail _ (.tail _ (.head _))))) (fun hc1 => ?_) (fun hc1 => ?_)
  · replace h := ite_t hc1 h
    refine WpC.seq ?_
    refine WpC.reg (U := Un) (st1 := ⟨[(6, .p .bool false)], []⟩) [6] [] hN (.cons (sok_move (U := Un) (rs := []) rfl (.inr rfl) (.bool _ _)) .nil) (by kernel_rfl) (by kernel_rfl) (by kernel_rfl) (Conv.refl (U := Un) _) ?_
    refine thenQ_normal ?_
    refine WpC.ret ?_
    refine thenQ_ret ?_
    have hq := Option.some.inj h
    subst hq
    exact ends_ret (retV_1 rfl (.head _)) ain_nil
  · replace h := ite_f hc1 h
    refine WpC.conv (Conv.keep (U := Un) (b := ⟨[(0, .p (.list (.list (.named 3))) a0), (1, .p (.list (.list (.named 3))) a1), (2, .clo 50 [])], []⟩) [0, 1, 2] [] (by kernel_rfl)) (WpC.skip ?_)
    refine thenQ_normal ?_
    refine WpC.seqJ (U := Un) (fun st' => lex_Piece_m0.j2 k = some out ∧ st' = ⟨[], []⟩) ?_ ?_
    · refine WpC.seq ?_
      refine WpC.reg (U := Un) (st1 := ⟨[(1, .p (.list (.list (.named 3))) a1), (2, .clo 50 []), (15, .p (.list (.list (.named 3))) a0), (16, .p I6 ((a0.length : Int) : Int)), (17, .p I6 (0 : Int))], []⟩) [1, 2, 15, 16, 17] [] hN (.cons (mv (U := Un) (v := .p (.list (.list (.named 3))) a0) rfl rfl) (.cons (sok_lenL (U := Un) (rs := [(15, .p (.list (.list (.named 3))) a0)]) rfl rfl Tryd.underlying33 o0) (.cons (sok_move (U := Un) (rs := []) rfl (.inl rfl) (.int _ _ _)) .nil))) (by kernel_rfl) (by kernel_rfl) (by kernel_rfl) (Conv.refl (U := Un) _) ?_
      refine thenQ_normal ?_
      refine WpC.block ?_
      obtain ⟨o5, hlo5, h⟩ := bind_some h
      have hout6 := h
      clear h
      refine WpC.loop (U := Un) (fun n st' => ∃ v3 : Int, lex_Piece_m0.l4 k a0 a1 n v3 = some o5 ∧ st' = ⟨[(1, .p (.list (.list (.named 3))) a1), (2, .clo 50 []), (15, .p (.list (.list (.named 3))) a0), (16, .p I6 ((a0.length : Int) : Int)), (17, .p I6 v3)], []⟩) k ⟨0, hlo5, rfl⟩ ?_
      clear hlo5
      rintro (_ | n) _ ⟨v3, h, rfl⟩
      · cases h
      · rw [lex_Piece_m0.l4] at h
        refine WpC.seq ?_
        refine WpC.reg (U := Un) (st1 := ⟨[(1, .p (.list (.list (.named 3))) a1), (2, .clo 50 []), (15, .p (.list (.list (.named 3))) a0), (16, .p I6 ((a0.length : Int) : Int)), (17, .p I6 v3), (18, .p .bool ((decide (v3 < (a0.length : Int))) : Bool))], []⟩) [1, 2, 15, 16, 17, 18] [] hN (.cons (sok_cmp (U := Un) (rs := [(17, .p I6 v3), (16, .p I6 ((a0.length : Int) : Int))]) rfl rfl o0 o1 rfl) .nil) (by kernel_rfl) (by kernel_rfl) (by kernel_rfl) (Conv.refl (U := Un) _) ?_
        refine thenQ_normal ?_
        refine WpC.seq ?_
        refine WpC.cond (U := Un) (b := (decide (v3 < (a0.length : Int)))) (.tmp (.tail _ (.tail _ (.tail _ (.tail _ (.tail _ (.head _))))))) (fun hc7 => ?_) (fun hc7 => ?_)
        · replace h := ite_t hc7 h
          refine WpC.conv (Conv.keep (U := Un) (b := ⟨[(1, .p (.list (.list (.named 3))) a1), (2, .clo 50 []), (15, .p (.list (.list (.named 3))) a0), (16, .p I6 ((a0.length : Int) : Int)), (17, .p I6 v3)], []⟩) [1, 2, 15, 16, 17] [] (by kernel_rfl)) (WpC.skip ?_)
          refine thenQ_normal ?_
          refine WpC.seq ?_
          refine WpC.block ?_
          refine WpC.seq ?_
          obtain ⟨v8, hv8, h⟩ := bind_some h
          refine WpC.reg (U := Un) (st1 := ⟨[(1, .p (.list (.list (.named 3))) a1), (2, .clo 50 []), (7, .p I6 v3), (8, .p (.list (.named 3)) v8), (15, .p (.list (.list (.named 3))) a0), (16, .p I6 ((a0.length : Int) : Int)), (17, .p I6 v3)], []⟩) [1, 2, 7, 8, 15, 16, 17] [] hN (.cons (mv (U := Un) (v := .p I6 v3) rfl rfl) (.cons (sok_indexL (U := Un) (rs := [(15, .p (.list (.list (.named 3))) a0), (17, .p I6 v3)]) rfl rfl sl_33 o0 o1 hv8) (.cons (sok_loadP (U := Un) (rs := [(20, .pp (.list (.named 3)) v8)]) rfl rfl ty_36 o0) (.cons (mva (U := Un) (v := .p I6 v3) rfl rfl) (.cons (mva (U := Un) (v := .p (.list (.named 3)) v8) rfl rfl) .nil))))) (by kernel_rfl) (by kernel_rfl) (by kernel_rfl) (Conv.refl (U := Un) _) ?_
          refine thenQ_normal ?_
          refine WpC.seq ?_
          obtain ⟨v9, hv9, h⟩ := bind_some h
          refine WpC.reg (U := Un) (st1 := ⟨[(1, .p (.list (.list (.named 3))) a1), (2, .clo 50 []), (8, .p (.list (.named 3)) v8), (9, .p (.list (.named 3)) v9), (15, .p (.list (.list (.named 3))) a0), (16, .p I6 ((a0.length : Int) : Int)), (17, .p I6 v3)], []⟩) [1, 2, 8, 9, 15, 16, 17] [] hN (.cons (mv (U := Un) (v := .p (.list (.list (.named 3))) a1) rfl rfl) (.cons (mv (U := Un) (v := .p I6 v3) rfl rfl) (.cons (sok_indexL (U := Un) (rs := [(22, .p (.list (.list (.named 3))) a1), (23, .p I6 v3)]) rfl rfl sl_33 o0 o1 hv9) (.cons (sok_loadP (U := Un) (rs := [(24, .pp (.list (.named 3)) v9)]) rfl rfl ty_36 o0) (.cons (mva (U := Un) (v := .p (.list (.named 3)) v9) rfl rfl) .nil))))) (by kernel_rfl) (by kernel_rfl) (by kernel_rfl) (Conv.refl (U := Un) _) ?_
          refine thenQ_normal ?_
          refine WpC.seq ?_
          obtain ⟨v10, hv10, h⟩ := bind_some h
          refine WpC.reg (U := Un) (st1 := ⟨[(1, .p (.list (.list (.named 3))) a1), (2, .clo 50 []), (15, .p (.list (.list (.named 3))) a0), (16, .p I6 ((a0.length : Int) : Int)), (17, .p I6 v3), (30, .p .bool ((!v10) : Bool))], []⟩) [1, 2, 15, 16, 17, 30] [] hN (.cons (mv (U := Un) (v := .clo 50 []) rfl rfl) (.cons (mv (U := Un) (v := .p (.list (.named 3)) v8) rfl rfl) (.cons (mv (U := Un) (v := .p (.list (.named 3)) v9) rfl rfl) (.cons (sok_callV (U := Un) (rs := [(27, .p (.list (.named 3)) v8), (28, .p (.list (.named 3)) v9), (26, .clo 50 [])]) (vw := []) rfl rfl (.clo (.tmp (.tail _ (.tail _ (.head _))))) hb_50 (lex_Piece_50.ok O hO k v8 v9 v10 hv10) (.cons o0 (.cons o1 .nil)) (.cons (.same _) (.cons (.same _) .nil)) (by simp) (.inl rfl)) (.cons (sok_not (U := Un) (rs := [(29, .p .bool v10)]) rfl rfl o0) .nil))))) (by kernel_rfl) (by kernel_rfl) (by kernel_rfl) (Conv.refl (U := Un) _) ?_
          refine thenQ_normal ?_
          refine WpC.cond (U := Un) (b := (!v10)) (.tmp (.tail _ (.tail _ (.tail _ (.tail _ (.tail _ (.head _))))))) (fun hc11 => ?_) (fun hc11 => ?_)
          · replace h := ite_t hc11 h
            refine WpC.seq ?_
            refine WpC.reg (U := Un) (st1 := ⟨[(6, .p .bool false)], []⟩) [6] [] hN (.cons (sok_move (U := Un) (rs := []) rfl (.inr rfl) (.bool _ _)) .nil) (by kernel_rfl) (by kernel_rfl) (by kernel_rfl) (Conv.refl (U := Un) _) ?_
            refine thenQ_normal ?_
            refine WpC.ret ?_
            refine blockQ_ret ?_
            refine thenQ_ret ?_
            have hq := Option.some.inj h
            subst hq
            refine thenQ_ret ?_
            have h := hout6
            refine blockQ_ret ?_
            refine thenQ_ret ?_
            have hq := Option.some.inj h
            subst hq
            exact ends_ret (retV_1 rfl (.head _)) ain_nil
          · replace h := ite_f hc11 h
            refine WpC.conv (Conv.keep (U := Un) (b := ⟨[(1, .p (.list (.list (.named 3))) a1), (2, .clo 50 []), (15, .p (.list (.list (.named 3))) a0), (16, .p I6 ((a0.length : Int) : Int)), (17, .p I6 v3)], []⟩) [1, 2, 15, 16, 17] [] (by kernel_rfl)) (WpC.skip ?_)
            refine blockQ_normal ?_
            refine thenQ_normal ?_
            refine WpC.reg (U := Un) (st1 := ⟨[(1, .p (.list (.list (.named 3))) a1), (2, .clo 50 []), (15, .p (.list (.list (.named 3))) a0), (16, .p I6 ((a0.length : Int) : Int)), (17, .p I6 ((IntKind.i64.wrap (v3 + 1)) : Int))], []⟩) [1, 2, 15, 16, 17] [] hN (.cons (sok_arith (U := Un) (rs := [(17, .p I6 v3)]) rfl rfl o0 (.int _ _ _) rfl) (.cons (mv (U := Un) (v := .p I6 ((IntKind.i64.wrap (v3 + 1)) : Int)) rfl rfl) .nil)) (by kernel_rfl) (by kernel_rfl) (by kernel_rfl) (Conv.refl (U := Un) _) ?_
            refine thenQ_normal ?_
            exact ⟨n, Nat.lt_succ_self n, (IntKind.i64.wrap (v3 + 1)), h, rfl⟩
        · replace h := ite_f hc7 h
          refine WpC.conv (Conv.keep (U := Un) (b := ⟨[], []⟩) [] [] (by kernel_rfl)) (WpC.exit ?_)
          refine thenQ_exit ?_
          have hq := Option.some.inj h
          subst hq
          refine thenQ_exit ?_
          have h := hout6
          refine blockQ_hit ?_
          refine thenQ_normal ?_
          exact ⟨h, rfl⟩
    · rintro _ ⟨h, rfl⟩
      unfold lex_Piece_m0.j2 at h
      refine WpC.seq ?_
      refine WpC.reg (U := Un) (st1 := ⟨[(6, .p .bool true)], []⟩) [6] [] hN (.cons (sok_move (U := Un) (rs := []) rfl (.inr rfl) (.bool _ _)) .nil) (by kernel_rfl) (by kernel_rfl) (by kernel_rfl) (Conv.refl (U := Un) _) ?_
      refine thenQ_normal ?_
      refine WpC.ret ?_
      have hq := Option.some.inj h
      subst hq
      exact ends_ret (retV_1 rfl (.head _)) ain_nil

theorem lex_Same.ok (O : Out) (hO : GOkL O) (k : Nat) (a0 : List (List T_lex_Piece)) (a1 : List (List T_lex_Piece)) (out : Bool) (h : lex_Same.f k a0 a1 = some out) : COk Un O Tryd.prog 17 { ar := [.p (.list (.list (.named 3))) a0, .p (.list (.list (.named 3))) a1], r := .p .bool out } := by
  refine cok_of_wp Tryd.func17 rfl (k := 8) rfl (Nat.le_of_ble_eq_true rfl) (namesOk_pure rfl rfl rfl rfl) ?_
  intro B hN
  refine WpC.conv (Conv.keep (U := Un) (b := ⟨[(0, .p (.list (.list (.named 3))) a0), (1, .p (.list (.list (.named 3))) a1)], []⟩) [0, 1] [] (by kernel_rfl)) ?_
  unfold lex_Same.f at h
  refine WpC.seq ?_
  refine WpC.reg (U := Un) (st1 := ⟨[(0, .p (.list (.list (.named 3))) a0), (1, .p (.list (.list (.named 3))) a1)], []⟩) [0, 1] [] hN (.cons (sok_move (U := Un) (rs := []) rfl (.inr rfl) (.bool _ _)) .nil) (by kernel_rfl) (by kernel_rfl) (by kernel_rfl) (Conv.refl (U := Un) _) ?_
  refine thenQ_normal ?_
  refine WpC.seq ?_
  obtain ⟨v1, hv1, h⟩ := bind_some h
  refine WpC.reg (U := Un) (st1 := ⟨[(4, .p .bool v1)], []⟩) [4] [] hN (.cons (mv (U := Un) (v := .p (.list (.list (.named 3))) a0) rfl rfl) (.cons (mv (U := Un) (v := .p (.list (.list (.named 3))) a1) rfl rfl) (.cons (sok_callV (U := Un) (rs := [(5, .p (.list (.list (.named 3))) a0), (6, .p (.list (.list (.named 3))) a1)]) (vw := []) rfl rfl (.func _) hb_49 (lex_Piece_m0.ok O hO k a0 a1 v1 hv1) (.cons o0 (.cons o1 (.cons (.func _ _) .nil))) (.cons (.same _) (.cons (.same _) (.cons (.same _) .nil))) (by simp) (.inl rfl)) (.cons (mva (U := Un) (v := .p .bool v1) rfl rfl) .nil)))) (by kernel_rfl) (by kernel_rfl) (by kernel_rfl) (Conv.refl (U := Un) _) ?_
  refine thenQ_normal ?_
  refine WpC.ret ?_
  have hq := Option.some.inj h
  subst hq
  exact ends_ret (retV_1 rfl (.head _)) ain_nil

theorem millwrightlaw13_LexBack.ok (O : Out) (hO : GOkL O) (k : Nat) (a0 : List UInt8) (out : Bool) (h : millwrightlaw13_LexBack.f k a0 = some out) : COk Un O Tryd.prog 4 { ar := [.p .str a0], r := .p .bool out } := by
  refine cok_of_wp Tryd.func4 rfl (k := 48) rfl (Nat.le_of_ble_eq_true rfl) (namesOk_pure rfl rfl rfl rfl) ?_
  intro B hN
  refine WpC.conv (Conv.keep (U := Un) (b := ⟨[(0, .p .str a0)], []⟩) [0] [] (by kernel_rfl)) ?_
  unfold millwrightlaw13_LexBack.f at h
  refine WpC.seq ?_
  refine WpC.reg (U := Un) (st1 := ⟨[(0, .p .str a0)], []⟩) [0] [] hN (.cons (sok_move (U := Un) (rs := []) rfl (.inr rfl) (.bool _ _)) .nil) (by kernel_rfl) (by kernel_rfl) (by kernel_rfl) (Conv.refl (U := Un) _) ?_
  refine thenQ_normal ?_
  refine WpC.seq ?_
  refine WpC.seq ?_
  obtain ⟨v1, hv1, h⟩ := bind_some h
  refine WpC.reg (U := Un) (st1 := ⟨[(0, .p .str a0), (10, .p .bool ((!v1) : Bool))], []⟩) [0, 10] [] hN (.cons (sok_callV (U := Un) (rs := []) (vw := []) rfl rfl (.func _) hb_14 (millwrightlaw13_alive.ok O hO k v1 hv1) .nil .nil (by simp) (.inl rfl)) (.cons (sok_not (U := Un) (rs := [(9, .p .bool v1)]) rfl rfl o0) .nil)) (by kernel_rfl) (by kernel_rfl) (by kernel_rfl) (Conv.refl (U := Un) _) ?_
  refine thenQ_normal ?_
  refine WpC.cond (U := Un) (b := (!v1)) o1 (fun hc2 => ?_) (fun hc2 => ?_)
  · replace h := ite_t hc2 h
    refine WpC.seq ?_
    refine WpC.reg (U := Un) (st1 := ⟨[(2, .p .bool false)], []⟩) [2] [] hN (.cons (sok_move (U := Un) (rs := []) rfl (.inr rfl) (.bool _ _)) .nil) (by kernel_rfl) (by kernel_rfl) (by kernel_rfl) (Conv.refl (U := Un) _) ?_
    refine thenQ_normal ?_
    refine WpC.ret ?_
    refine thenQ_ret ?_
    have hq := Option.some.inj h
    subst hq
    exact ends_ret (retV_1 rfl (.head _)) ain_nil
  · replace h := ite_f hc2 h
    refine WpC.conv (Conv.keep (U := Un) (b := ⟨[(0, .p .str a0)], []⟩) [0] [] (by kernel_rfl)) (WpC.skip ?_)
    refine thenQ_normal ?_
    refine WpC.seq ?_
    refine WpC.seq ?_
    refine WpC.reg (U := Un) (st1 := ⟨[(0, .p .str a0), (13, .p .bool ((decide ((a0.length : Int) > 300)) : Bool))], []⟩) [0, 13] [] hN (.cons (mv (U := Un) (v := .p .str a0) rfl rfl) (.cons (sok_lenS (U := Un) (rs := [(11, .p .str a0)]) rfl rfl Tryd.underlying9 o0) (.cons (sok_cmp (U := Un) (rs := [(12, .p I6 ((a0.length : Int) : Int))]) rfl rfl o0 (.int _ _ _) rfl) .nil))) (by kernel_rfl) (by kernel_rfl) (by kernel_rfl) (Conv.refl (U := Un) _) ?_
    refine thenQ_normal ?_
    refine WpC.cond (U := Un) (b := (decide ((a0.length : Int) > 300))) o1 (fun hc3 => ?_) (fun hc3 => ?_)
    · replace h := ite_t hc3 h
      refine WpC.seq ?_
      refine WpC.reg (U := Un) (st1 := ⟨[(2, .p .bool true)], []⟩) [2] [] hN (.cons (sok_move (U := Un) (rs := []) rfl (.inr rfl) (.bool _ _)) .nil) (by kernel_rfl) (by kernel_rfl) (by kernel_rfl) (Conv.refl (U := Un) _) ?_
      refine thenQ_normal ?_
      refine WpC.ret ?_
      refine thenQ_ret ?_
      have hq := Option.some.inj h
      subst hq
      exact ends_ret (retV_1 rfl (.head _)) ain_nil
    · replace h := ite_f hc3 h
      refine WpC.conv (Conv.keep (U := Un) (b := ⟨[(0, .p .str a0)], []⟩) [0] [] (by kernel_rfl)) (WpC.skip ?_)
      refine thenQ_normal ?_
      refine WpC.seq ?_
      obtain ⟨v4, hv4, h⟩ := bind_some h
      refine WpC.reg (U := Un) (st1 := ⟨[(3, .p (.list (.list (.named 3))) v4.1), (4, .p .err v4.2)], []⟩) [3, 4] [] hN (.cons (mv (U := Un) (v := .p .str a0) rfl rfl) (.cons (sok_callV (U := Un) (rs := [(15, .p .str a0)]) (vw := []) rfl rfl (.func _) hb_15 (lex_Words.ok O hO k a0 v4 hv4) (.cons o0 .nil) (.cons (.same _) .nil) (by simp) (.inl rfl)) (.cons (mv (U := Un) (v := .tup [.p (.list (.list (.named 3))) v4.1, .p .err v4.2]) rfl rfl) (.cons (sok_extract (U := Un) (rs := [(14, .tup [.p (.list (.list (.named 3))) v4.1, .p .err v4.2])]) rfl rfl o0 rfl) (.cons (sok_extract (U := Un) (rs := [(14, .tup [.p (.list (.list (.named 3))) v4.1, .p .err v4.2])]) rfl rfl o0 rfl) (.cons (mva (U := Un) (v := .p (.list (.list (.named 3))) v4.1) rfl rfl) (.cons (mva (U := Un) (v := .p .err v4.2) rfl rfl) .nil))))))) (by kernel_rfl) (by kernel_rfl) (by kernel_rfl) (Conv.refl (U := Un) _) ?_
      refine thenQ_normal ?_
      refine WpC.seq ?_
      refine WpC.seq ?_
      refine WpC.reg (U := Un) (st1 := ⟨[(3, .p (.list (.list (.named 3))) v4.1), (20, .p .bool ((!(v4.2 == 0)) : Bool))], []⟩) [3, 20] [] hN (.cons (mv (U := Un) (v := .p .err v4.2) rfl rfl) (.cons (sok_errNil (U := Un) (rs := [(19, .p .err v4.2)]) rfl rfl Tryd.underlying27 o0 rfl) .nil)) (by kernel_rfl) (by kernel_rfl) (by kernel_rfl) (Conv.refl (U := Un) _) ?_
      refine thenQ_normal ?_
      refine WpC.cond (U := Un) (b := (!(v4.2 == 0))) o1 (fun hc5 => ?_) (fun hc5 => ?_)
      · replace h := ite_t hc5 h
        refine WpC.seq ?_
        refine WpC.reg (U := Un) (st1 := ⟨[(2, .p .bool (((v4.1.length : Int) == 0) : Bool))], []⟩) [2] [] hN (.cons (mv (U := Un) (v := .p (.list (.list (.named 3))) v4.1) rfl rfl) (.cons (sok_lenL (U := Un) (rs := [(21, .p (.list (.list (.named 3))) v4.1)]) rfl rfl Tryd.underlying33 o0) (.cons (sok_cmp (U := Un) (rs := [(22, .p I6 ((v4.1.length : Int) : Int))]) rfl rfl o0 (.int _ _ _) rfl) (.cons (mva (U := Un) (v := .p .bool (((v4.1.length : Int) == 0) : Bool)) rfl rfl) .nil)))) (by kernel_rfl) (by kernel_rfl) (by kernel_rfl) (Conv.refl (U := Un) _) ?_
        refine thenQ_normal ?_
        refine WpC.ret ?_
        refine thenQ_ret ?_
        have hq := Option.some.inj h
        subst hq
        exact ends_ret (retV_1 rfl (.head _)) ain_nil
      · replace h := ite_f hc5 h
        refine WpC.conv (Conv.keep (U := Un) (b := ⟨[(3, .p (.list (.list (.named 3))) v4.1)], []⟩) [3] [] (by kernel_rfl)) (WpC.skip ?_)
        refine thenQ_normal ?_
        refine WpC.seq ?_
        refine WpC.reg (U := Un) (st1 := ⟨[(3, .p (.list (.list (.named 3))) v4.1), (5, .p .str (([] : List UInt8) : List UInt8))], []⟩) [3, 5] [] hN (.cons (sok_move (U := Un) (rs := []) rfl (.inr rfl) (.str _ _)) .nil) (by kernel_rfl) (by kernel_rfl) (by kernel_rfl) (Conv.refl (U := Un) _) ?_
        refine thenQ_normal ?_
        refine WpC.seqJ (U := Un) (fun st' => ∃ v6 : List UInt8, millwrightlaw13_LexBack.j10 k v4 v6 = some out ∧ st' = ⟨[(3, .p (.list (.list (.named 3))) v4.1), (5, .p .str v6)], []⟩) ?_ ?_
        · refine WpC.seq ?_
          refine WpC.reg (U := Un) (st1 := ⟨[(3, .p (.list (.list (.named 3))) v4.1), (5, .p .str (([] : List UInt8) : List UInt8)), (24, .p (.list (.list (.named 3))) v4.1), (25, .p I6 ((v4.1.length : Int) : Int)), (26, .p I6 (0 : Int))], []⟩) [3, 5, 24, 25, 26] [] hN (.cons (mv (U := Un) (v := .p (.list (.list (.named 3))) v4.1) rfl rfl) (.cons (sok_lenL (U := Un) (rs := [(24, .p (.list (.list (.named 3))) v4.1)]) rfl rfl Tryd.underlying33 o0) (.cons (sok_move (U := Un) (rs := []) rfl (.inl rfl) (.int _ _ _)) .nil))) (by kernel_rfl) (by kernel_rfl) (by kernel_rfl) (Conv.refl (U := Un) _) ?_
          refine thenQ_normal ?_
          refine WpC.block ?_
          obtain ⟨o15, hlo15, h⟩ := bind_some h
          have hout16 := h
          clear h
          refine WpC.loop (U := Un) (fun n st' => ∃ v11 : List UInt8, ∃ v12 : Int, millwrightlaw13_LexBack.l13 k v4 n v11 v12 = some o15 ∧ st' = ⟨[(3, .p (.list (.list (.named 3))) v4.1), (5, .p .str v11), (24, .p (.list (.list (.named 3))) v4.1), (25, .p I6 ((v4.1.length : Int) : Int)), (26, .p I6 v12)], []⟩) k ⟨([] : List UInt8), 0, hlo15, rfl⟩ ?_
          clear hlo15
          rintro (_ | n) _ ⟨v11, v12, h, rfl⟩
          · cases h
          · rw [millwrightlaw13_LexBack.l13] at h
            refine WpC.seq ?_
            refine WpC.reg (U := Un) (st1 := ⟨[(3, .p (.list (.list (.named 3))) v4.1), (5, .p .str v11), (24, .p (.list (.list (.named 3))) v4.1), (25, .p I6 ((v4.1.length : Int) : Int)), (26, .p I6 v12), (27, .p .bool ((decide (v12 < (v4.1.length : Int))) : Bool))], []⟩) [3, 5, 24, 25, 26, 27] [] hN (.cons (sok_cmp (U := Un) (rs := [(26, .p I6 v12), (25, .p I6 ((v4.1.length : Int) : Int))]) rfl rfl o0 o1 rfl) .nil) (by kernel_rfl) (by kernel_rfl) (by kernel_rfl) (Conv.refl (U := Un) _) ?_
            refine thenQ_normal ?_
            refine WpC.seq ?_
            refine WpC.cond (U := Un) (b := (decide (v12 < (v4.1.length : Int)))) (.tmp (.tail _ (.tail _ (.tail _ (.tail _ (.tail _ (.head _))))))) (fun hc17 => ?_) (fun hc17 => ?_)
            · replace h := ite_t hc17 h
              refine WpC.conv (Conv.keep (U := Un) (b := ⟨[(3, .p (.list (.list (.named 3))) v4.1), (5, .p .str v11), (24, .p (.list (.list (.named 3))) v4.1), (25, .p I6 ((v4.1.length : Int) : Int)), (26, .p I6 v12)], []⟩) [3, 5, 24, 25, 26] [] (by kernel_rfl)) (WpC.skip ?_)
              refine thenQ_normal ?_
              refine WpC.seq ?_
              refine WpC.block ?_
              refine WpC.seq ?_
              obtain ⟨v18, hv18, h⟩ := bind_some h
              refine WpC.reg (U := Un) (st1 := ⟨[(3, .p (.list (.list (.named 3))) v4.1), (5, .p .str v11), (7, .p (.list (.named 3)) v18), (24, .p (.list (.list (.named 3))) v4.1), (25, .p I6 ((v4.1.length : Int) : Int)), (26, .p I6 v12)], []⟩) [3, 5, 7, 24, 25, 26] [] hN (.cons (sok_indexL (U := Un) (rs := [(24, .p (.list (.list (.named 3))) v4.1), (26, .p I6 v12)]) rfl rfl sl_33 o0 o1 hv18) (.cons (sok_loadP (U := Un) (rs := [(28, .pp (.list (.named 3)) v18)]) rfl rfl ty_36 o0) (.cons (mva (U := Un) (v := .p (.list (.named 3)) v18) rfl rfl) .nil))) (by kernel_rfl) (by kernel_rfl) (by kernel_rfl) (Conv.refl (U := Un) _) ?_
              refine thenQ_normal ?_
              obtain ⟨v19, hv19, h⟩ := bind_some h
              obtain ⟨g20, h⟩ := if_some h
              obtain ⟨g21, h⟩ := if_some h
              refine WpC.reg (U := Un) (st1 := ⟨[(3, .p (.list (.list (.named 3))) v4.1), (5, .p .str ((v11 ++ (([32] : List UInt8) ++ v19)) : List UInt8)), (24, .p (.list (.list (.named 3))) v4.1), (25, .p I6 ((v4.1.length : Int) : Int)), (26, .p I6 v12)], []⟩) [3, 5, 24, 25, 26] [] hN (.cons (mv (U := Un) (v := .p .str v11) rfl rfl) (.cons (mv (U := Un) (v := .p (.list (.named 3)) v18) rfl rfl) (.cons (sok_callV (U := Un) (rs := [(31, .p (.list (.named 3)) v18)]) (vw := []) rfl rfl (.func _) hb_16 (lex_Text.ok O hO k v18 v19 hv19) (.cons o0 .nil) (.cons (.same _) .nil) (by simp) (.inl rfl)) (.cons (sok_cat (U := Un) (rs := [(32, .p .str v19)]) rfl rfl (.str _ _) o0 g20) (.cons (sok_cat (U := Un) (rs := [(30, .p .str v11), (33, .p .str ((([32] : List UInt8) ++ v19) : List UInt8))]) rfl rfl o0 o1 g21) (.cons (mva (U := Un) (v := .p .str ((v11 ++ (([32] : List UInt8) ++ v19)) : List UInt8)) rfl rfl) .nil)))))) (by kernel_rfl) (by kernel_rfl) (by kernel_rfl) (Conv.refl (U := Un) _) ?_
              refine blockQ_normal ?_
              refine thenQ_normal ?_
              refine WpC.reg (U := Un) (st1 := ⟨[(3, .p (.list (.list (.named 3))) v4.1), (5, .p .str ((v11 ++ (([32] : List UInt8) ++ v19)) : List UInt8)), (24, .p (.list (.list (.named 3))) v4.1), (25, .p I6 ((v4.1.length : Int) : Int)), (26, .p I6 ((IntKind.i64.wrap (v12 + 1)) : Int))], []⟩) [3, 5, 24, 25, 26] [] hN (.cons (sok_arith (U := Un) (rs := [(26, .p I6 v12)]) rfl rfl o0 (.int _ _ _) rfl) (.cons (mv (U := Un) (v := .p I6 ((IntKind.i64.wrap (v12 + 1)) : Int)) rfl rfl) .nil)) (by kernel_rfl) (by kernel_rfl) (by kernel_rfl) (Conv.refl (U := Un) _) ?_
              refine thenQ_normal ?_
              exact ⟨n, Nat.lt_succ_self n, (v11 ++ (([32] : List UInt8) ++ v19)), (IntKind.i64.wrap (v12 + 1)), h, rfl⟩
            · replace h := ite_f hc17 h
              refine WpC.conv (Conv.keep (U := Un) (b := ⟨[(3, .p (.list (.list (.named 3))) v4.1), (5, .p .str v11)], []⟩) [3, 5] [] (by kernel_rfl)) (WpC.exit ?_)
              refine thenQ_exit ?_
              have hq := Option.some.inj h
              subst hq
              refine thenQ_exit ?_
              have h := hout16
              refine blockQ_hit ?_
              refine thenQ_normal ?_
              exact ⟨v11, h, rfl⟩
        · rintro _ ⟨v6, h, rfl⟩
          unfold millwrightlaw13_LexBack.j10 at h
          refine WpC.seq ?_
          obtain ⟨v7, hv7, h⟩ := bind_some h
          refine WpC.reg (U := Un) (st1 := ⟨[(3, .p (.list (.list (.named 3))) v4.1), (4, .p .err v7.2), (8, .p (.list (.list (.named 3))) v7.1)], []⟩) [3, 4, 8] [] hN (.cons (mv (U := Un) (v := .p .str v6) rfl rfl) (.cons (sok_callV (U := Un) (rs := [(37, .p .str v6)]) (vw := []) rfl rfl (.func _) hb_15 (lex_Words.ok O hO k v6 v7 hv7) (.cons o0 .nil) (.cons (.same _) .nil) (by simp) (.inl rfl)) (.cons (mv (U := Un) (v := .tup [.p (.list (.list (.named 3))) v7.1, .p .err v7.2]) rfl rfl) (.cons (sok_extract (U := Un) (rs := [(36, .tup [.p (.list (.list (.named 3))) v7.1, .p .err v7.2])]) rfl rfl o0 rfl) (.cons (sok_extract (U := Un) (rs := [(36, .tup [.p (.list (.list (.named 3))) v7.1, .p .err v7.2])]) rfl rfl o0 rfl) (.cons (mva (U := Un) (v := .p (.list (.list (.named 3))) v7.1) rfl rfl) (.cons (mva (U := Un) (v := .p .err v7.2) rfl rfl) .nil))))))) (by kernel_rfl) (by kernel_rfl) (by kernel_rfl) (Conv.refl (U := Un) _) ?_
          refine thenQ_normal ?_
          refine WpC.seq ?_
          rcases bool_cases (v7.2 == 0) with hc8 | hc8
          · replace h := ite_t hc8 h
            obtain ⟨v9, hv9, h⟩ := bind_some h
            refine WpC.reg (U := Un) (st1 := ⟨[(2, .p .bool v9)], []⟩) [2] [] hN (.cons (mv (U := Un) (v := .p .err v7.2) rfl rfl) (.cons (sok_errNil (U := Un) (rs := [(41, .p .err v7.2)]) rfl rfl Tryd.underlying27 o0 rfl) (.cons (mv (U := Un) (v := .p .bool ((v7.2 == 0) : Bool)) rfl rfl) (.cons (sok_run rfl rfl hc8 (mv (U := Un) (v := .p (.list (.list (.named 3))) v7.1) rfl rfl)) (.cons (sok_run rfl rfl hc8 (mv (U := Un) (v := .p (.list (.list (.named 3))) v4.1) rfl rfl)) (.cons (sok_run rfl rfl hc8 (sok_callV (U := Un) (rs := [(44, .p (.list (.list (.named 3))) v7.1), (45, .p (.list (.list (.named 3))) v4.1)]) (vw := []) rfl rfl (.func _) hb_17 (lex_Same.ok O hO k v7.1 v4.1 v9 hv9) (.cons o0 (.cons o1 .nil)) (.cons (.same _) (.cons (.same _) .nil)) (by simp) (.inl rfl))) (.cons (sok_pickT (U := Un) (rs := [(43, .p .bool ((v7.2 == 0) : Bool)), (46, .p .bool v9)]) rfl rfl o0 hc8 o1) (.cons (mva (U := Un) (v := .p .bool v9) rfl rfl) .nil)))))))) (by kernel_rfl) (by kernel_rfl) (by kernel_rfl) (Conv.refl (U := Un) _) ?_
            refine thenQ_normal ?_
            refine WpC.ret ?_
            have hq := Option.some.inj h
            subst hq
            exact ends_ret (retV_1 rfl (.head _)) ain_nil
          · replace h := ite_f hc8 h
            refine WpC.reg (U := Un) (st1 := ⟨[(2, .p .bool false)], []⟩) [2] [] hN (.cons (mv (U := Un) (v := .p .err v7.2) rfl rfl) (.cons (sok_errNil (U := Un) (rs := [(41, .p .err v7.2)]) rfl rfl Tryd.underlying27 o0 rfl) (.cons (mv (U := Un) (v := .p .bool ((v7.2 == 0) : Bool)) rfl rfl) (.cons (sok_skip rfl rfl hc8) (.cons (sok_skip rfl rfl hc8) (.cons (sok_skip rfl rfl hc8) (.cons (sok_pickF (U := Un) (rs := [(43, .p .bool ((v7.2 == 0) : Bool))]) rfl rfl o0 hc8 (.bool _ _)) (.cons (mva (U := Un) (v := .p .bool false) rfl rfl) .nil)))))))) (by kernel_rfl) (by kernel_rfl) (by kernel_rfl) (Conv.refl (U := Un) _) ?_
            refine thenQ_normal ?_
            refine WpC.ret ?_
            have hq := Option.some.inj h
            subst hq
            exact ends_ret (retV_1 rfl (.head _)) ain_nil

end Go.Proofs.YtnbnfjgedinlbabDoor
