/- A part of the proof of a given law: AC1. Own work, printed in part by a program of mine. -/
import Derived.Test.YtfeaegjlhpgdmaaAC0
namespace Go.Proofs.Ytfeaegjlhpgdmaa
open Go Go.AM
set_option linter.unusedVariables false
set_option maxRecDepth 100000
theorem strings_LastIndex.ok (O : Out) (k : Nat) (a0 : List UInt8) (a1 : List UInt8) (out : Int) (h : strings_LastIndex.f k a0 a1 = some out) : COk Un O Try.prog 36 { ar := [.p .str a0, .p .str a1], r := .p (.int .i64) out } := by
  refine cok_of_wp Try.func36 rfl (k := 36) rfl (Nat.le_of_ble_eq_true rfl) (namesOk_pure rfl rfl rfl rfl) ?_
  intro B hN
  refine WpC.conv (Conv.keep (b := ⟨[(0, .p .str a0), (1, .p .str a1)], []⟩) [0, 1] [] (by kernel_rfl)) ?_
  unfold strings_LastIndex.f at h
  refine WpC.seq ?_
  refine WpC.reg (st1 := ⟨[(0, .p .str a0), (1, .p .str a1)], []⟩) [0, 1] [] hN (.cons (sok_move (rs := []) rfl (.inr rfl) (.int _ _ _)) .nil) (by kernel_rfl) (by kernel_rfl) (by kernel_rfl) (Conv.refl _) ?_
  refine thenQ_normal ?_
  refine WpC.seq ?_
  refine WpC.reg (st1 := ⟨[(0, .p .str a0), (1, .p .str a1), (5, .p (.int .i64) ((a1.length : Int) : Int))], []⟩) [0, 1, 5] [] hN (.cons (sok_move (rs := [(1, .p .str a1)]) rfl (.inl rfl) (.tmp (.head _))) (.cons (sok_lenS (rs := [(6, .p .str a1)]) rfl rfl Try.underlying9 (.tmp (.head _))) (.cons (sok_move (rs := [(7, .p (.int .i64) ((a1.length : Int) : Int))]) rfl (.inr rfl) (.tmp (.head _))) .nil))) (by kernel_rfl) (by kernel_rfl) (by kernel_rfl) (Conv.refl _) ?_
  refine thenQ_normal ?_
  refine WpC.seq ?_
  refine WpC.block ?_
  refine WpC.seq ?_
  refine WpC.reg (st1 := ⟨[(0, .p .str a0), (1, .p .str a1), (5, .p (.int .i64) ((a1.length : Int) : Int)), (8, .p .bool (((a1.length : Int) == 0) : Bool))], []⟩) [0, 1, 5, 8] [] hN (.cons (sok_move (rs := [(5, .p (.int .i64) ((a1.length : Int) : Int))]) rfl (.inl rfl) (.tmp (.head _))) (.cons (sok_cmp (rs := [(9, .p (.int .i64) ((a1.length : Int) : Int))]) rfl rfl (.tmp (.head _)) (.int _ _ _) rfl) (.cons (sok_move (rs := [(10, .p .bool (((a1.length : Int) == 0) : Bool))]) rfl (.inr rfl) (.tmp (.head _))) .nil))) (by kernel_rfl) (by kernel_rfl) (by kernel_rfl) (Conv.refl _) ?_
  refine thenQ_normal ?_
  refine WpC.cond (b := ((a1.length : Int) == 0)) (.tmp (.tail _ (.tail _ (.tail _ (.head _))))) (fun hc1 => ?_) (fun hc1 => ?_)
  · replace h := ite_t hc1 h
    refine WpC.seq ?_
    refine WpC.reg (st1 := ⟨[(4, .p (.int .i64) ((a0.length : Int) : Int))], []⟩) [4] [] hN (.cons (sok_move (rs := [(0, .p .str a0)]) rfl (.inl rfl) (.tmp (.head _))) (.cons (sok_lenS (rs := [(11, .p .str a0)]) rfl rfl Try.underlying9 (.tmp (.head _))) (.cons (sok_move (rs := [(12, .p (.int .i64) ((a0.length : Int) : Int))]) rfl (.inr rfl) (.tmp (.head _))) .nil))) (by kernel_rfl) (by kernel_rfl) (by kernel_rfl) (Conv.refl _) ?_
    refine thenQ_normal ?_
    refine WpC.ret ?_
    refine blockQ_ret ?_
    refine thenQ_ret ?_
    have hq := Option.some.inj h
    subst hq
    exact ends_ret (retV_1 rfl (.head _)) (by simp)
  · replace h := ite_f hc1 h
    refine WpC.seq ?_
    refine WpC.reg (st1 := ⟨[(0, .p .str a0), (1, .p .str a1), (5, .p (.int .i64) ((a1.length : Int) : Int)), (13, .p .bool (((a1.length : Int) == 1) : Bool))], []⟩) [0, 1, 5, 13] [] hN (.cons (sok_move (rs := [(5, .p (.int .i64) ((a1.length : Int) : Int))]) rfl (.inl rfl) (.tmp (.head _))) (.cons (sok_cmp (rs := [(14, .p (.int .i64) ((a1.length : Int) : Int))]) rfl rfl (.tmp (.head _)) (.int _ _ _) rfl) (.cons (sok_move (rs := [(15, .p .bool (((a1.length : Int) == 1) : Bool))]) rfl (.inr rfl) (.tmp (.head _))) .nil))) (by kernel_rfl) (by kernel_rfl) (by kernel_rfl) (Conv.refl _) ?_
    refine thenQ_normal ?_
    refine WpC.cond (b := ((a1.length : Int) == 1)) (.tmp (.tail _ (.tail _ (.tail _ (.head _))))) (fun hc2 => ?_) (fun hc2 => ?_)
    · replace h := ite_t hc2 h
      refine WpC.seq ?_
      obtain ⟨v3, hv3, h⟩ := bind_some h
      obtain ⟨v4, hv4, h⟩ := bind_some h
      refine WpC.reg (st1 := ⟨[(4, .p (.int .i64) v4)], []⟩) [4] [] hN (.cons (sok_move (rs := [(0, .p .str a0)]) rfl (.inl rfl) (.tmp (.head _))) (.cons (sok_move (rs := [(1, .p .str a1)]) rfl (.inl rfl) (.tmp (.head _))) (.cons (sok_indexS (rs := [(17, .p .str a1)]) rfl rfl Try.underlying9 (.tmp (.head _)) (.int _ _ _) hv3) (.cons (sok_call (rs := [(16, .p .str a0), (18, .p (.int .u8) ((v3.toNat : Int) : Int))]) (vw := []) rfl rfl hb_46 (bytealg_LastIndexByteString.ok O k a0 (v3.toNat : Int) v4 hv4) (.cons (.tmp (.head _)) (.cons (.tmp (.tail _ (.head _))) .nil)) (.cons (.same _) (.cons (.same _) .nil)) (by simp) (.inl rfl)) (.cons (sok_move (rs := [(19, .p (.int .i64) v4)]) rfl (.inr rfl) (.tmp (.head _))) .nil))))) (by kernel_rfl) (by kernel_rfl) (by kernel_rfl) (Conv.refl _) ?_
      refine thenQ_normal ?_
      refine WpC.ret ?_
      refine blockQ_ret ?_
      refine thenQ_ret ?_
      have hq := Option.some.inj h
      subst hq
      exact ends_ret (retV_1 rfl (.head _)) (by simp)
    · replace h := ite_f hc2 h
      refine WpC.seq ?_
      refine WpC.reg (st1 := ⟨[(0, .p .str a0), (1, .p .str a1), (5, .p (.int .i64) ((a1.length : Int) : Int)), (20, .p .bool (((a1.length : Int) == (a0.length : Int)) : Bool))], []⟩) [0, 1, 5, 20] [] hN (.cons (sok_move (rs := [(5, .p (.int .i64) ((a1.length : Int) : Int))]) rfl (.inl rfl) (.tmp (.head _))) (.cons (sok_move (rs := [(0, .p .str a0)]) rfl (.inl rfl) (.tmp (.head _))) (.cons (sok_lenS (rs := [(22, .p .str a0)]) rfl rfl Try.underlying9 (.tmp (.head _))) (.cons (sok_cmp (rs := [(21, .p (.int .i64) ((a1.length : Int) : Int)), (23, .p (.int .i64) ((a0.length : Int) : Int))]) rfl rfl (.tmp (.head _)) (.tmp (.tail _ (.head _))) rfl) (.cons (sok_move (rs := [(24, .p .bool (((a1.length : Int) == (a0.length : Int)) : Bool))]) rfl (.inr rfl) (.tmp (.head _))) .nil))))) (by kernel_rfl) (by kernel_rfl) (by kernel_rfl) (Conv.refl _) ?_
      refine thenQ_normal ?_
      refine WpC.cond (b := ((a1.length : Int) == (a0.length : Int))) (.tmp (.tail _ (.tail _ (.tail _ (.head _))))) (fun hc5 => ?_) (fun hc5 => ?_)
      · replace h := ite_t hc5 h
        refine WpC.seq ?_
        refine WpC.seq ?_
        refine WpC.reg (st1 := ⟨[(27, .p .bool ((a1 == a0) : Bool))], []⟩) [27] [] hN (.cons (sok_move (rs := [(1, .p .str a1)]) rfl (.inl rfl) (.tmp (.head _))) (.cons (sok_move (rs := [(0, .p .str a0)]) rfl (.inl rfl) (.tmp (.head _))) (.cons (sok_cmpS (rs := [(25, .p .str a1), (26, .p .str a0)]) rfl rfl (.tmp (.head _)) (.tmp (.tail _ (.head _))) rfl) .nil))) (by kernel_rfl) (by kernel_rfl) (by kernel_rfl) (Conv.refl _) ?_
        refine thenQ_normal ?_
        refine WpC.cond (b := (a1 == a0)) (.tmp (.head _)) (fun hc6 => ?_) (fun hc6 => ?_)
        · replace h := ite_t hc6 h
          refine WpC.seq ?_
          refine WpC.reg (st1 := ⟨[(4, .p (.int .i64) (0 : Int))], []⟩) [4] [] hN (.cons (sok_move (rs := []) rfl (.inr rfl) (.int _ _ _)) .nil) (by kernel_rfl) (by kernel_rfl) (by kernel_rfl) (Conv.refl _) ?_
          refine thenQ_normal ?_
          refine WpC.ret ?_
          refine thenQ_ret ?_
          refine blockQ_ret ?_
          refine thenQ_ret ?_
          have hq := Option.some.inj h
          subst hq
          exact ends_ret (retV_1 rfl (.head _)) (by simp)
        · replace h := ite_f hc6 h
          refine WpC.conv (Conv.keep (b := ⟨[], []⟩) [] [] (by kernel_rfl)) (WpC.skip ?_)
          refine thenQ_normal ?_
          refine WpC.seq ?_
          refine WpC.reg (st1 := ⟨[(4, .p (.int .i64) ((-1) : Int))], []⟩) [4] [] hN (.cons (sok_move (rs := []) rfl (.inr rfl) (.int _ _ _)) .nil) (by kernel_rfl) (by kernel_rfl) (by kernel_rfl) (Conv.refl _) ?_
          refine thenQ_normal ?_
          refine WpC.ret ?_
          refine blockQ_ret ?_
          refine thenQ_ret ?_
          have hq := Option.some.inj h
          subst hq
          exact ends_ret (retV_1 rfl (.head _)) (by simp)
      · replace h := ite_f hc5 h
        refine WpC.seq ?_
        refine WpC.reg (st1 := ⟨[(0, .p .str a0), (1, .p .str a1), (28, .p .bool ((decide ((a1.length : Int) > (a0.length : Int))) : Bool))], []⟩) [0, 1, 28] [] hN (.cons (sok_move (rs := [(5, .p (.int .i64) ((a1.length : Int) : Int))]) rfl (.inl rfl) (.tmp (.head _))) (.cons (sok_move (rs := [(0, .p .str a0)]) rfl (.inl rfl) (.tmp (.head _))) (.cons (sok_lenS (rs := [(30, .p .str a0)]) rfl rfl Try.underlying9 (.tmp (.head _))) (.cons (sok_cmp (rs := [(29, .p (.int .i64) ((a1.length : Int) : Int)), (31, .p (.int .i64) ((a0.length : Int) : Int))]) rfl rfl (.tmp (.head _)) (.tmp (.tail _ (.head _))) rfl) (.cons (sok_move (rs := [(32, .p .bool ((decide ((a1.length : Int) > (a0.length : Int))) : Bool))]) rfl (.inr rfl) (.tmp (.head _))) .nil))))) (by kernel_rfl) (by kernel_rfl) (by kernel_rfl) (Conv.refl _) ?_
        refine thenQ_normal ?_
        refine WpC.cond (b := (decide ((a1.length : Int) > (a0.length : Int)))) (.tmp (.tail _ (.tail _ (.head _)))) (fun hc7 => ?_) (fun hc7 => ?_)
        · replace h := ite_t hc7 h
          refine WpC.seq ?_
          refine WpC.reg (st1 := ⟨[(4, .p (.int .i64) ((-1) : Int))], []⟩) [4] [] hN (.cons (sok_move (rs := []) rfl (.inr rfl) (.int _ _ _)) .nil) (by kernel_rfl) (by kernel_rfl) (by kernel_rfl) (Conv.refl _) ?_
          refine thenQ_normal ?_
          refine WpC.ret ?_
          refine blockQ_ret ?_
          refine thenQ_ret ?_
          have hq := Option.some.inj h
          subst hq
          exact ends_ret (retV_1 rfl (.head _)) (by simp)
        · replace h := ite_f hc7 h
          refine WpC.conv (Conv.keep (b := ⟨[(0, .p .str a0), (1, .p .str a1)], []⟩) [0, 1] [] (by kernel_rfl)) (WpC.skip ?_)
          refine blockQ_normal ?_
          refine thenQ_normal ?_
          refine WpC.seq ?_
          obtain ⟨v8, hv8, h⟩ := bind_some h
          refine WpC.reg (st1 := ⟨[(4, .p (.int .i64) v8)], []⟩) [4] [] hN (.cons (sok_move (rs := [(0, .p .str a0)]) rfl (.inl rfl) (.tmp (.head _))) (.cons (sok_move (rs := [(1, .p .str a1)]) rfl (.inl rfl) (.tmp (.head _))) (.cons (sok_call (rs := [(33, .p .str a0), (34, .p .str a1)]) (vw := []) rfl rfl hb_47 (pLRK.ok O k a0 a1 v8 hv8) (.cons (.tmp (.head _)) (.cons (.tmp (.tail _ (.head _))) .nil)) (.cons (.same _) (.cons (.same _) .nil)) (by simp) (.inl rfl)) (.cons (sok_move (rs := [(35, .p (.int .i64) v8)]) rfl (.inr rfl) (.tmp (.head _))) .nil)))) (by kernel_rfl) (by kernel_rfl) (by kernel_rfl) (Conv.refl _) ?_
          refine thenQ_normal ?_
          refine WpC.ret ?_
          have hq := Option.some.inj h
          subst hq
          exact ends_ret (retV_1 rfl (.head _)) (by simp)

theorem names_cut.ok (O : Out) (k : Nat) (a0 : List UInt8) (out : Int) (h : names_cut.f k a0 = some out) : COk Un O Try.prog 35 { ar := [.p .str a0], r := .p (.int .i64) out } := by
  refine cok_of_wp Try.func35 rfl (k := 6) rfl (Nat.le_of_ble_eq_true rfl) (namesOk_pure rfl rfl rfl rfl) ?_
  intro B hN
  refine WpC.conv (Conv.keep (b := ⟨[(0, .p .str a0)], []⟩) [0] [] (by kernel_rfl)) ?_
  unfold names_cut.f at h
  refine WpC.seq ?_
  refine WpC.reg (st1 := ⟨[(0, .p .str a0)], []⟩) [0] [] hN (.cons (sok_move (rs := []) rfl (.inr rfl) (.int _ _ _)) .nil) (by kernel_rfl) (by kernel_rfl) (by kernel_rfl) (Conv.refl _) ?_
  refine thenQ_normal ?_
  refine WpC.seq ?_
  obtain ⟨v1, hv1, h⟩ := bind_some h
  refine WpC.reg (st1 := ⟨[(2, .p (.int .i64) ((IntKind.i64.wrap (v1 + 1)) : Int))], []⟩) [2] [] hN (.cons (sok_move (rs := [(0, .p .str a0)]) rfl (.inl rfl) (.tmp (.head _))) (.cons (sok_call (rs := [(3, .p .str a0)]) (vw := []) rfl rfl hb_36 (strings_LastIndex.ok O k a0 ([47] : List UInt8) v1 hv1) (.cons (.tmp (.head _)) (.cons (.str _ _) .nil)) (.cons (.same _) (.cons (.same _) .nil)) (by simp) (.inl rfl)) (.cons (sok_arith (rs := [(4, .p (.int .i64) v1)]) rfl rfl (.tmp (.head _)) (.int _ _ _) rfl) (.cons (sok_move (rs := [(5, .p (.int .i64) ((IntKind.i64.wrap (v1 + 1)) : Int))]) rfl (.inr rfl) (.tmp (.head _))) .nil)))) (by kernel_rfl) (by kernel_rfl) (by kernel_rfl) (Conv.refl _) ?_
  refine thenQ_normal ?_
  refine WpC.ret ?_
  have hq := Option.some.inj h
  subst hq
  exact ends_ret (retV_1 rfl (.head _)) (by simp)

theorem names_Base.ok (O : Out) (k : Nat) (a0 : List UInt8) (out : List UInt8) (h : names_Base.f k a0 = some out) : COk Un O Try.prog 14 { ar := [.p .str a0], r := .p .str out } := by
  refine cok_of_wp Try.func14 rfl (k := 7) rfl (Nat.le_of_ble_eq_true rfl) (namesOk_pure rfl rfl rfl rfl) ?_
  intro B hN
  refine WpC.conv (Conv.keep (b := ⟨[(0, .p .str a0)], []⟩) [0] [] (by kernel_rfl)) ?_
  unfold names_Base.f at h
  refine WpC.seq ?_
  refine WpC.reg (st1 := ⟨[(0, .p .str a0)], []⟩) [0] [] hN (.cons (sok_move (rs := []) rfl (.inr rfl) (.str _ _)) .nil) (by kernel_rfl) (by kernel_rfl) (by kernel_rfl) (Conv.refl _) ?_
  refine thenQ_normal ?_
  refine WpC.seq ?_
  obtain ⟨v1, hv1, h⟩ := bind_some h
  obtain ⟨v2, hv2, h⟩ := bind_some h
  refine WpC.reg (st1 := ⟨[(2, .p .str v2)], []⟩) [2] [] hN (.cons (sok_move (rs := [(0, .p .str a0)]) rfl (.inl rfl) (.tmp (.head _))) (.cons (sok_move (rs := [(0, .p .str a0)]) rfl (.inl rfl) (.tmp (.head _))) (.cons (sok_call (rs := [(4, .p .str a0)]) (vw := []) rfl rfl hb_35 (names_cut.ok O k a0 v1 hv1) (.cons (.tmp (.head _)) .nil) (.cons (.same _) .nil) (by simp) (.inl rfl)) (.cons (sok_sliceS (rs := [(3, .p .str a0), (5, .p (.int .i64) v1)]) rfl rfl Try.underlying9 (.tmp (.head _)) (.at (.tmp (.tail _ (.head _)))) .no hv2) (.cons (sok_move (rs := [(6, .p .str v2)]) rfl (.inr rfl) (.tmp (.head _))) .nil))))) (by kernel_rfl) (by kernel_rfl) (by kernel_rfl) (Conv.refl _) ?_
  refine thenQ_normal ?_
  refine WpC.ret ?_
  have hq := Option.some.inj h
  subst hq
  exact ends_ret (retV_1 rfl (.head _)) (by simp)

theorem names_Suffix.ok (O : Out) (k : Nat) (a0 : List UInt8) (out : List UInt8) (h : names_Suffix.f k a0 = some out) : COk Un O Try.prog 15 { ar := [.p .str a0], r := .p .str out } := by
  refine cok_of_wp Try.func15 rfl (k := 14) rfl (Nat.le_of_ble_eq_true rfl) (namesOk_pure rfl rfl rfl rfl) ?_
  intro B hN
  refine WpC.conv (Conv.keep (b := ⟨[(0, .p .str a0)], []⟩) [0] [] (by kernel_rfl)) ?_
  unfold names_Suffix.f at h
  refine WpC.seq ?_
  refine WpC.reg (st1 := ⟨[(0, .p .str a0)], []⟩) [0] [] hN (.cons (sok_move (rs := []) rfl (.inr rfl) (.str _ _)) .nil) (by kernel_rfl) (by kernel_rfl) (by kernel_rfl) (Conv.refl _) ?_
  refine thenQ_normal ?_
  refine WpC.seq ?_
  obtain ⟨v1, hv1, h⟩ := bind_some h
  refine WpC.reg (st1 := ⟨[(3, .p .str v1)], []⟩) [3] [] hN (.cons (sok_move (rs := [(0, .p .str a0)]) rfl (.inl rfl) (.tmp (.head _))) (.cons (sok_call (rs := [(5, .p .str a0)]) (vw := []) rfl rfl hb_14 (names_Base.ok O k a0 v1 hv1) (.cons (.tmp (.head _)) .nil) (.cons (.same _) .nil) (by simp) (.inl rfl)) (.cons (sok_move (rs := [(6, .p .str v1)]) rfl (.inr rfl) (.tmp (.head _))) .nil))) (by kernel_rfl) (by kernel_rfl) (by kernel_rfl) (Conv.refl _) ?_
  refine thenQ_normal ?_
  refine WpC.seq ?_
  obtain ⟨v2, hv2, h⟩ := bind_some h
  refine WpC.reg (st1 := ⟨[(3, .p .str v1), (4, .p (.int .i64) v2)], []⟩) [3, 4] [] hN (.cons (sok_move (rs := [(3, .p .str v1)]) rfl (.inl rfl) (.tmp (.head _))) (.cons (sok_call (rs := [(7, .p .str v1)]) (vw := []) rfl rfl hb_36 (strings_LastIndex.ok O k v1 ([46] : List UInt8) v2 hv2) (.cons (.tmp (.head _)) (.cons (.str _ _) .nil)) (.cons (.same _) (.cons (.same _) .nil)) (by simp) (.inl rfl)) (.cons (sok_move (rs := [(8, .p (.int .i64) v2)]) rfl (.inr rfl) (.tmp (.head _))) .nil))) (by kernel_rfl) (by kernel_rfl) (by kernel_rfl) (Conv.refl _) ?_
  refine thenQ_normal ?_
  refine WpC.seq ?_
  refine WpC.seq ?_
  refine WpC.reg (st1 := ⟨[(3, .p .str v1), (4, .p (.int .i64) v2), (10, .p .bool ((decide (v2 < 1)) : Bool))], []⟩) [3, 4, 10] [] hN (.cons (sok_move (rs := [(4, .p (.int .i64) v2)]) rfl (.inl rfl) (.tmp (.head _))) (.cons (sok_cmp (rs := [(9, .p (.int .i64) v2)]) rfl rfl (.tmp (.head _)) (.int _ _ _) rfl) .nil)) (by kernel_rfl) (by kernel_rfl) (by kernel_rfl) (Conv.refl _) ?_
  refine thenQ_normal ?_
  refine WpC.cond (b := (decide (v2 < 1))) (.tmp (.tail _ (.tail _ (.head _)))) (fun hc3 => ?_) (fun hc3 => ?_)
  · replace h := ite_t hc3 h
    refine WpC.seq ?_
    refine WpC.reg (st1 := ⟨[(2, .p .str (([] : List UInt8) : List UInt8))], []⟩) [2] [] hN (.cons (sok_move (rs := []) rfl (.inr rfl) (.str _ _)) .nil) (by kernel_rfl) (by kernel_rfl) (by kernel_rfl) (Conv.refl _) ?_
    refine thenQ_normal ?_
    refine WpC.ret ?_
    refine thenQ_ret ?_
    have hq := Option.some.inj h
    subst hq
    exact ends_ret (retV_1 rfl (.head _)) (by simp)
  · replace h := ite_f hc3 h
    refine WpC.conv (Conv.keep (b := ⟨[(3, .p .str v1), (4, .p (.int .i64) v2)], []⟩) [3, 4] [] (by kernel_rfl)) (WpC.skip ?_)
    refine thenQ_normal ?_
    refine WpC.seq ?_
    obtain ⟨v4, hv4, h⟩ := bind_some h
    refine WpC.reg (st1 := ⟨[(2, .p .str v4)], []⟩) [2] [] hN (.cons (sok_move (rs := [(3, .p .str v1)]) rfl (.inl rfl) (.tmp (.head _))) (.cons (sok_move (rs := [(4, .p (.int .i64) v2)]) rfl (.inl rfl) (.tmp (.head _))) (.cons (sok_sliceS (rs := [(11, .p .str v1), (12, .p (.int .i64) v2)]) rfl rfl Try.underlying9 (.tmp (.head _)) (.at (.tmp (.tail _ (.head _)))) .no hv4) (.cons (sok_move (rs := [(13, .p .str v4)]) rfl (.inr rfl) (.tmp (.head _))) .nil)))) (by kernel_rfl) (by kernel_rfl) (by kernel_rfl) (Conv.refl _) ?_
    refine thenQ_normal ?_
    refine WpC.ret ?_
    have hq := Option.some.inj h
    subst hq
    exact ends_ret (retV_1 rfl (.head _)) (by simp)

theorem millwrightlaw01_alive.ok (O : Out) (k : Nat) (out : Bool) (h : millwrightlaw01_alive.f k = some out) : COk Un O Try.prog 7 { ar := [], r := .p .bool out } := by
  refine cok_of_wp Try.func7 rfl (k := 22) rfl (Nat.le_of_ble_eq_true rfl) (namesOk_pure rfl rfl rfl rfl) ?_
  intro B hN
  refine WpC.conv (Conv.keep (b := ⟨[], []⟩) [] [] (by kernel_rfl)) ?_
  unfold millwrightlaw01_alive.f at h
  refine WpC.seq ?_
  refine WpC.reg (st1 := ⟨[], []⟩) [] [] hN (.cons (sok_move (rs := []) rfl (.inr rfl) (.bool _ _)) .nil) (by kernel_rfl) (by kernel_rfl) (by kernel_rfl) (Conv.refl _) ?_
  refine thenQ_normal ?_
  refine WpC.seq ?_
  obtain ⟨v1, hv1, h⟩ := bind_some h
  refine WpC.reg (st1 := ⟨[(1, .p .str v1.1), (2, .p .str v1.2.1), (3, .p .bool v1.2.2)], []⟩) [1, 2, 3] [] hN (.cons (sok_call (rs := []) (vw := []) rfl rfl hb_8 (names_Member.ok O k ([108, 105, 98, 46, 97, 40, 120, 46, 111, 41] : List UInt8) v1 hv1) (.cons (.str _ _) .nil) (.cons (.same _) .nil) (by simp) (.inl rfl)) (.cons (sok_move (rs := [(5, .tup [.p .str v1.1, .p .str v1.2.1, .p .bool v1.2.2])]) rfl (.inl rfl) (.tmp (.head _))) (.cons (sok_extract (rs := [(4, .tup [.p .str v1.1, .p .str v1.2.1, .p .bool v1.2.2])]) rfl rfl (.tmp (.head _)) rfl) (.cons (sok_extract (rs := [(4, .tup [.p .str v1.1, .p .str v1.2.1, .p .bool v1.2.2])]) rfl rfl (.tmp (.head _)) rfl) (.cons (sok_extract (rs := [(4, .tup [.p .str v1.1, .p .str v1.2.1, .p .bool v1.2.2])]) rfl rfl (.tmp (.head _)) rfl) (.cons (sok_move (rs := [(6, .p .str v1.1)]) rfl (.inr rfl) (.tmp (.head _))) (.cons (sok_move (rs := [(7, .p .str v1.2.1)]) rfl (.inr rfl) (.tmp (.head _))) (.cons (sok_move (rs := [(8, .p .bool v1.2.2)]) rfl (.inr rfl) (.tmp (.head _))) .nil)))))))) (by kernel_rfl) (by kernel_rfl) (by kernel_rfl) (Conv.refl _) ?_
  refine thenQ_normal ?_
  refine WpC.seq ?_
  rcases bool_cases v1.2.2 with hc2 | hc2
  · replace h := ite_t hc2 h
    rcases bool_cases (v1.1 == ([108, 105, 98, 46, 97] : List UInt8)) with hc3 | hc3
    · replace h := ite_t hc3 h
      rcases bool_cases (v1.2.1 == ([120, 46, 111] : List UInt8)) with hc4 | hc4
      · replace h := ite_t hc4 h
        obtain ⟨v5, hv5, h⟩ := bind_some h
        refine WpC.reg (st1 := ⟨[(0, .p .bool ((v5 == ([46, 99] : List UInt8)) : Bool))], []⟩) [0] [] hN (.cons (sok_move (rs := [(3, .p .bool v1.2.2)]) rfl (.inl rfl) (.tmp (.head _))) (.cons (sok_move (rs := [(9, .p .bool v1.2.2)]) rfl (.inl rfl) (.tmp (.head _))) (.cons (sok_run rfl rfl hc2 (sok_move (rs := [(1, .p .str v1.1)]) rfl (.inl rfl) (.tmp (.head _)))) (.cons (sok_run rfl rfl hc2 (sok_cmpS (rs := [(11, .p .str v1.1)]) rfl rfl (.tmp (.head _)) (.str _ _) rfl)) (.cons (sok_pickT (rs := [(10, .p .bool v1.2.2), (12, .p .bool ((v1.1 == ([108, 105, 98, 46, 97] : List UInt8)) : Bool))]) rfl rfl (.tmp (.head _)) hc2 (.tmp (.tail _ (.head _)))) (.cons (sok_move (rs := [(13, .p .bool ((v1.1 == ([108, 105, 98, 46, 97] : List UInt8)) : Bool))]) rfl (.inl rfl) (.tmp (.head _))) (.cons (sok_run rfl rfl hc3 (sok_move (rs := [(2, .p .str v1.2.1)]) rfl (.inl rfl) (.tmp (.head _)))) (.cons (sok_run rfl rfl hc3 (sok_cmpS (rs := [(15, .p .str v1.2.1)]) rfl rfl (.tmp (.head _)) (.str _ _) rfl)) (.cons (sok_pickT (rs := [(14, .p .bool ((v1.1 == ([108, 105, 98, 46, 97] : List UInt8)) : Bool)), (16, .p .bool ((v1.2.1 == ([120, 46, 111] : List UInt8)) : Bool))]) rfl rfl (.tmp (.head _)) hc3 (.tmp (.tail _ (.head _)))) (.cons (sok_move (rs := [(17, .p .bool ((v1.2.1 == ([120, 46, 111] : List UInt8)) : Bool))]) rfl (.inl rfl) (.tmp (.head _))) (.cons (sok_run rfl rfl hc4 (sok_call (rs := []) (vw := []) rfl rfl hb_15 (names_Suffix.ok O k ([97, 47, 98, 46, 99] : List UInt8) v5 hv5) (.cons (.str _ _) .nil) (.cons (.same _) .nil) (by simp) (.inl rfl))) (.cons (sok_run rfl rfl hc4 (sok_cmpS (rs := [(19, .p .str v5)]) rfl rfl (.tmp (.head _)) (.str _ _) rfl)) (.cons (sok_pickT (rs := [(18, .p .bool ((v1.2.1 == ([120, 46, 111] : List UInt8)) : Bool)), (20, .p .bool ((v5 == ([46, 99] : List UInt8)) : Bool))]) rfl rfl (.tmp (.head _)) hc4 (.tmp (.tail _ (.head _)))) (.cons (sok_move (rs := [(21, .p .bool ((v5 == ([46, 99] : List UInt8)) : Bool))]) rfl (.inr rfl) (.tmp (.head _))) .nil)))))))))))))) (by kernel_rfl) (by kernel_rfl) (by kernel_rfl) (Conv.refl _) ?_
        refine thenQ_normal ?_
        refine WpC.ret ?_
        have hq := Option.some.inj h
        subst hq
        exact ends_ret (retV_1 rfl (.head _)) (by simp)
      · replace h := ite_f hc4 h
        refine WpC.reg (st1 := ⟨[(0, .p .bool false)], []⟩) [0] [] hN (.cons (sok_move (rs := [(3, .p .bool v1.2.2)]) rfl (.inl rfl) (.tmp (.head _))) (.cons (sok_move (rs := [(9, .p .bool v1.2.2)]) rfl (.inl rfl) (.tmp (.head _))) (.cons (sok_run rfl rfl hc2 (sok_move (rs := [(1, .p .str v1.1)]) rfl (.inl rfl) (.tmp (.head _)))) (.cons (sok_run rfl rfl hc2 (sok_cmpS (rs := [(11, .p .str v1.1)]) rfl rfl (.tmp (.head _)) (.str _ _) rfl)) (.cons (sok_pickT (rs := [(10, .p .bool v1.2.2), (12, .p .bool ((v1.1 == ([108, 105, 98, 46, 97] : List UInt8)) : Bool))]) rfl rfl (.tmp (.head _)) hc2 (.tmp (.tail _ (.head _)))) (.cons (sok_move (rs := [(13, .p .bool ((v1.1 == ([108, 105, 98, 46, 97] : List UInt8)) : Bool))]) rfl (.inl rfl) (.tmp (.head _))) (.cons (sok_run rfl rfl hc3 (sok_move (rs := [(2, .p .str v1.2.1)]) rfl (.inl rfl) (.tmp (.head _)))) (.cons (sok_run rfl rfl hc3 (sok_cmpS (rs := [(15, .p .str v1.2.1)]) rfl rfl (.tmp (.head _)) (.str _ _) rfl)) (.cons (sok_pickT (rs := [(14, .p .bool ((v1.1 == ([108, 105, 98, 46, 97] : List UInt8)) : Bool)), (16, .p .bool ((v1.2.1 == ([120, 46, 111] : List UInt8)) : Bool))]) rfl rfl (.tmp (.head _)) hc3 (.tmp (.tail _ (.head _)))) (.cons (sok_move (rs := [(17, .p .bool ((v1.2.1 == ([120, 46, 111] : List UInt8)) : Bool))]) rfl (.inl rfl) (.tmp (.head _))) (.cons (sok_skip rfl rfl hc4) (.cons (sok_skip rfl rfl hc4) (.cons (sok_pickF (rs := [(18, .p .bool ((v1.2.1 == ([120, 46, 111] : List UInt8)) : Bool))]) rfl rfl (.tmp (.head _)) hc4 (.bool _ _)) (.cons (sok_move (rs := [(21, .p .bool false)]) rfl (.inr rfl) (.tmp (.head _))) .nil)))))))))))))) (by kernel_rfl) (by kernel_rfl) (by kernel_rfl) (Conv.refl _) ?_
        refine thenQ_normal ?_
        refine WpC.ret ?_
        have hq := Option.some.inj h
        subst hq
        exact ends_ret (retV_1 rfl (.head _)) (by simp)
    · replace h := ite_f hc3 h
      refine WpC.reg (st1 := ⟨[(0, .p .bool false)], []⟩) [0] [] hN (.cons (sok_move (rs := [(3, .p .bool v1.2.2)]) rfl (.inl rfl) (.tmp (.head _))) (.cons (sok_move (rs := [(9, .p .bool v1.2.2)]) rfl (.inl rfl) (.tmp (.head _))) (.cons (sok_run rfl rfl hc2 (sok_move (rs := [(1, .p .str v1.1)]) rfl (.inl rfl) (.tmp (.head _)))) (.cons (sok_run rfl rfl hc2 (sok_cmpS (rs := [(11, .p .str v1.1)]) rfl rfl (.tmp (.head _)) (.str _ _) rfl)) (.cons (sok_pickT (rs := [(10, .p .bool v1.2.2), (12, .p .bool ((v1.1 == ([108, 105, 98, 46, 97] : List UInt8)) : Bool))]) rfl rfl (.tmp (.head _)) hc2 (.tmp (.tail _ (.head _)))) (.cons (sok_move (rs := [(13, .p .bool ((v1.1 == ([108, 105, 98, 46, 97] : List UInt8)) : Bool))]) rfl (.inl rfl) (.tmp (.head _))) (.cons (sok_skip rfl rfl hc3) (.cons (sok_skip rfl rfl hc3) (.cons (sok_pickF (rs := [(14, .p .bool ((v1.1 == ([108, 105, 98, 46, 97] : List UInt8)) : Bool))]) rfl rfl (.tmp (.head _)) hc3 (.bool _ _)) (.cons (sok_move (rs := [(17, .p .bool false)]) rfl (.inl rfl) (.tmp (.head _))) (.cons (sok_skip rfl rfl rfl) (.cons (sok_skip rfl rfl rfl) (.cons (sok_pickF (rs := [(18, .p .bool false)]) rfl rfl (.tmp (.head _)) rfl (.bool _ _)) (.cons (sok_move (rs := [(21, .p .bool false)]) rfl (.inr rfl) (.tmp (.head _))) .nil)))))))))))))) (by kernel_rfl) (by kernel_rfl) (by kernel_rfl) (Conv.refl _) ?_
      refine thenQ_normal ?_
      refine WpC.ret ?_
      have hq := Option.some.inj h
      subst hq
      exact ends_ret (retV_1 rfl (.head _)) (by simp)
  · replace h := ite_f hc2 h
    refine WpC.reg (st1 := ⟨[(0, .p .bool false)], []⟩) [0] [] hN (.cons (sok_move (rs := [(3, .p .bool v1.2.2)]) rfl (.inl rfl) (.tmp (.head _))) (.cons (sok_move (rs := [(9, .p .bool v1.2.2)]) rfl (.inl rfl) (.tmp (.head _))) (.cons (sok_skip rfl rfl hc2) (.cons (sok_skip rfl rfl hc2) (.cons (sok_pickF (rs := [(10, .p .bool v1.2.2)]) rfl rfl (.tmp (.head _)) hc2 (.bool _ _)) (.cons (sok_move (rs := [(13, .p .bool false)]) rfl (.inl rfl) (.tmp (.head _))) (.cons (sok_skip rfl rfl rfl) (.cons (sok_skip rfl rfl rfl) (.cons (sok_pickF (rs := [(14, .p .bool false)]) rfl rfl (.tmp (.head _)) rfl (.bool _ _)) (.cons (sok_move (rs := [(17, .p .bool false)]) rfl (.inl rfl) (.tmp (.head _))) (.cons (sok_skip rfl rfl rfl) (.cons (sok_skip rfl rfl rfl) (.cons (sok_pickF (rs := [(18, .p .bool false)]) rfl rfl (.tmp (.head _)) rfl (.bool _ _)) (.cons (sok_move (rs := [(21, .p .bool false)]) rfl (.inr rfl) (.tmp (.head _))) .nil)))))))))))))) (by kernel_rfl) (by kernel_rfl) (by kernel_rfl) (Conv.refl _) ?_
    refine thenQ_normal ?_
    refine WpC.ret ?_
    have hq := Option.some.inj h
    subst hq
    exact ends_ret (retV_1 rfl (.head _)) (by simp)

theorem millwrightref01_Right.ok (O : Out) (k : Nat) (a0 : List UInt8) (out : Bool) (h : millwrightref01_Right.f k a0 = some out) : COk Un O Try.prog 11 { ar := [.p .str a0], r := .p .bool out } := by
  refine cok_of_wp Try.func11 rfl (k := 28) rfl (Nat.le_of_ble_eq_true rfl) (namesOk_pure rfl rfl rfl rfl) ?_
  intro B hN
  refine WpC.conv (Conv.keep (b := ⟨[(0, .p .str a0)], []⟩) [0] [] (by kernel_rfl)) ?_
  unfold millwrightref01_Right.f at h
  refine WpC.seq ?_
  refine WpC.reg (st1 := ⟨[(0, .p .str a0)], []⟩) [0] [] hN (.cons (sok_move (rs := []) rfl (.inr rfl) (.bool _ _)) .nil) (by kernel_rfl) (by kernel_rfl) (by kernel_rfl) (Conv.refl _) ?_
  refine thenQ_normal ?_
  refine WpC.seqJ (fun st' => millwrightref01_Right.j2 k a0 = some out ∧ st' = ⟨[(0, .p .str a0)], []⟩) ?_ ?_
  · refine WpC.seq ?_
    refine WpC.reg (st1 := ⟨[(0, .p .str a0), (3, .p (.int .i64) (0 : Int))], []⟩) [0, 3] [] hN (.cons (sok_move (rs := []) rfl (.inr rfl) (.int _ _ _)) .nil) (by kernel_rfl) (by kernel_rfl) (by kernel_rfl) (Conv.refl _) ?_
    refine thenQ_normal ?_
    refine WpC.block ?_
    obtain ⟨o5, hlo5, h⟩ := bind_some h
    have hout6 := h
    clear h
    refine WpC.loop (fun n st' => ∃ v3 : Int, millwrightref01_Right.l4 k a0 n v3 = some o5 ∧ st' = ⟨[(0, .p .str a0), (3, .p (.int .i64) v3)], []⟩) k ⟨0, hlo5, rfl⟩ ?_
    clear hlo5
    rintro (_ | n) _ ⟨v3, h, rfl⟩
    · cases h
    · rw [millwrightref01_Right.l4] at h
      refine WpC.seq ?_
      refine WpC.seq ?_
      refine WpC.reg (st1 := ⟨[(0, .p .str a0), (3, .p (.int .i64) v3), (7, .p .bool ((decide (v3 < (a0.length : Int))) : Bool))], []⟩) [0, 3, 7] [] hN (.cons (sok_move (rs := [(3, .p (.int .i64) v3)]) rfl (.inl rfl) (.tmp (.head _))) (.cons (sok_move (rs := [(0, .p .str a0)]) rfl (.inl rfl) (.tmp (.head _))) (.cons (sok_lenS (rs := [(5, .p .str a0)]) rfl rfl Try.underlying9 (.tmp (.head _))) (.cons (sok_cmp (rs := [(4, .p (.int .i64) v3), (6, .p (.int .i64) ((a0.length : Int) : Int))]) rfl rfl (.tmp (.head _)) (.tmp (.tail _ (.head _))) rfl) .nil)))) (by kernel_rfl) (by kernel_rfl) (by kernel_rfl) (Conv.refl _) ?_
      refine thenQ_normal ?_
      refine WpC.cond (b := (decide (v3 < (a0.length : Int)))) (.tmp (.tail _ (.tail _ (.head _)))) (fun hc7 => ?_) (fun hc7 => ?_)
      · replace h := ite_t hc7 h
        refine WpC.conv (Conv.keep (b := ⟨[(0, .p .str a0), (3, .p (.int .i64) v3)], []⟩) [0, 3] [] (by kernel_rfl)) (WpC.skip ?_)
        refine thenQ_normal ?_
        refine WpC.seqJ (fun st' => millwrightref01_Right.j8 k (millwrightref01_Right.l4 k a0 n) a0 v3 = some o5 ∧ st' = ⟨[(0, .p .str a0), (3, .p (.int .i64) v3)], []⟩) ?_ ?_
        · refine WpC.block ?_
          refine WpC.seqJ (fun st' => ∃ v9 : Bool, millwrightref01_Right.j11 k (millwrightref01_Right.l4 k a0 n) a0 v3 v9 = some o5 ∧ st' = ⟨[(0, .p .str a0), (3, .p (.int .i64) v3), (19, .p .bool v9)], []⟩) ?_ ?_
          · obtain ⟨v12, hv12, h⟩ := bind_some h
            rcases bool_cases (decide ((v12.toNat : Int) ≤ 32)) with hc13 | hc13
            · replace h := ite_t hc13 h
              refine WpC.reg (st1 := ⟨[(0, .p .str a0), (3, .p (.int .i64) v3), (19, .p .bool true)], []⟩) [0, 3, 19] [] hN (.cons (sok_move (rs := [(0, .p .str a0)]) rfl (.inl rfl) (.tmp (.head _))) (.cons (sok_move (rs := [(3, .p (.int .i64) v3)]) rfl (.inl rfl) (.tmp (.head _))) (.cons (sok_indexS (rs := [(10, .p .str a0), (11, .p (.int .i64) v3)]) rfl rfl Try.underlying9 (.tmp (.head _)) (.tmp (.tail _ (.head _))) hv12) (.cons (sok_cmp (rs := [(12, .p (.int .u8) ((v12.toNat : Int) : Int))]) rfl rfl (.tmp (.head _)) (.int _ _ _) rfl) (.cons (sok_move (rs := [(13, .p .bool ((decide ((v12.toNat : Int) ≤ 32)) : Bool))]) rfl (.inl rfl) (.tmp (.head _))) (.cons (sok_skip rfl rfl hc13) (.cons (sok_skip rfl rfl hc13) (.cons (sok_skip rfl rfl hc13) (.cons (sok_skip rfl rfl hc13) (.cons (sok_pickT (rs := [(14, .p .bool ((decide ((v12.toNat : Int) ≤ 32)) : Bool))]) rfl rfl (.tmp (.head _)) hc13 (.bool _ _)) .nil)))))))))) (by kernel_rfl) (by kernel_rfl) (by kernel_rfl) (Conv.refl _) ?_
              refine thenQ_normal ?_
              exact ⟨true, h, rfl⟩
            · replace h := ite_f hc13 h
              obtain ⟨v14, hv14, h⟩ := bind_some h
              refine WpC.reg (st1 := ⟨[(0, .p .str a0), (3, .p (.int .i64) v3), (19, .p .bool ((decide ((v14.toNat : Int) ≥ 127)) : Bool))], []⟩) [0, 3, 19] [] hN (.cons (sok_move (rs := [(0, .p .str a0)]) rfl (.inl rfl) (.tmp (.head _))) (.cons (sok_move (rs := [(3, .p (.int .i64) v3)]) rfl (.inl rfl) (.tmp (.head _))) (.cons (sok_indexS (rs := [(10, .p .str a0), (11, .p (.int .i64) v3)]) rfl rfl Try.underlying9 (.tmp (.head _)) (.tmp (.tail _ (.head _))) hv12) (.cons (sok_cmp (rs := [(12, .p (.int .u8) ((v12.toNat : Int) : Int))]) rfl rfl (.tmp (.head _)) (.int _ _ _) rfl) (.cons (sok_move (rs := [(13, .p .bool ((decide ((v12.toNat : Int) ≤ 32)) : Bool))]) rfl (.inl rfl) (.tmp (.head _))) (.cons (sok_run rfl rfl hc13 (sok_move (rs := [(0, .p .str a0)]) rfl (.inl rfl) (.tmp (.head _)))) (.cons (sok_run rfl rfl hc13 (sok_move (rs := [(3, .p (.int .i64) v3)]) rfl (.inl rfl) (.tmp (.head _)))) (.cons (sok_run rfl rfl hc13 (sok_indexS (rs := [(15, .p .str a0), (16, .p (.int .i64) v3)]) rfl rfl Try.underlying9 (.tmp (.head _)) (.tmp (.tail _ (.head _))) hv14)) (.cons (sok_run rfl rfl hc13 (sok_cmp (rs := [(17, .p (.int .u8) ((v14.toNat : Int) : Int))]) rfl rfl (.tmp (.head _)) (.int _ _ _) rfl)) (.cons (sok_pickF (rs := [(14, .p .bool ((decide ((v12.toNat : Int) ≤ 32)) : Bool)), (18, .p .bool ((decide ((v14.toNat : Int) ≥ 127)) : Bool))]) rfl rfl (.tmp (.head _)) hc13 (.tmp (.tail _ (.head _)))) .nil)))))))))) (by kernel_rfl) (by kernel_rfl) (by kernel_rfl) (Conv.refl _) ?_
              refine thenQ_normal ?_
              exact ⟨(decide ((v14.toNat : Int) ≥ 127)), h, rfl⟩
          · rintro _ ⟨v9, h, rfl⟩
            unfold millwrightref01_Right.j11 at h
            refine WpC.cond (b := v9) (.tmp (.tail _ (.tail _ (.head _)))) (fun hc10 => ?_) (fun hc10 => ?_)
            · replace h := ite_t hc10 h
              refine WpC.seq ?_
              refine WpC.reg (st1 := ⟨[(2, .p .bool false)], []⟩) [2] [] hN (.cons (sok_move (rs := []) rfl (.inr rfl) (.bool _ _)) .nil) (by kernel_rfl) (by kernel_rfl) (by kernel_rfl) (Conv.refl _) ?_
              refine thenQ_normal ?_
              refine WpC.ret ?_
              refine blockQ_ret ?_
              refine thenQ_ret ?_
              have hq := Option.some.inj h
              subst hq
              refine thenQ_ret ?_
              have h := hout6
              refine blockQ_ret ?_
              refine thenQ_ret ?_
              have hq := Option.some.inj h
              subst hq
              exact ends_ret (retV_1 rfl (.head _)) (by simp)
            · replace h := ite_f hc10 h
              refine WpC.conv (Conv.keep (b := ⟨[(0, .p .str a0), (3, .p (.int .i64) v3)], []⟩) [0, 3] [] (by kernel_rfl)) (WpC.skip ?_)
              refine blockQ_normal ?_
              refine thenQ_normal ?_
              exact ⟨h, rfl⟩
        · rintro _ ⟨h, rfl⟩
          unfold millwrightref01_Right.j8 at h
          refine WpC.reg (st1 := ⟨[(0, .p .str a0), (3, .p (.int .i64) ((IntKind.i64.wrap (v3 + 1)) : Int))], []⟩) [0, 3] [] hN (.cons (sok_move (rs := [(3, .p (.int .i64) v3)]) rfl (.inl rfl) (.tmp (.head _))) (.cons (sok_arith (rs := [(8, .p (.int .i64) v3)]) rfl rfl (.tmp (.head _)) (.int _ _ _) rfl) (.cons (sok_move (rs := [(9, .p (.int .i64) ((IntKind.i64.wrap (v3 + 1)) : Int))]) rfl (.inr rfl) (.tmp (.head _))) .nil))) (by kernel_rfl) (by kernel_rfl) (by kernel_rfl) (Conv.refl _) ?_
          refine thenQ_normal ?_
          exact ⟨n, Nat.lt_succ_self n, (IntKind.i64.wrap (v3 + 1)), h, rfl⟩
      · replace h := ite_f hc7 h
        refine WpC.conv (Conv.keep (b := ⟨[(0, .p .str a0)], []⟩) [0] [] (by kernel_rfl)) (WpC.exit ?_)
        refine thenQ_exit ?_
        have hq := Option.some.inj h
        subst hq
        refine thenQ_exit ?_
        have h := hout6
        refine blockQ_hit ?_
        refine thenQ_normal ?_
        exact ⟨h, rfl⟩
  · rintro _ ⟨h, rfl⟩
    unfold millwrightref01_Right.j2 at h
    refine WpC.seq ?_
    rcases bool_cases (decide ((a0.length : Int) > 0)) with hc1 | hc1
    · replace h := ite_t hc1 h
      refine WpC.reg (st1 := ⟨[(2, .p .bool ((decide ((a0.length : Int) ≤ 40)) : Bool))], []⟩) [2] [] hN (.cons (sok_move (rs := [(0, .p .str a0)]) rfl (.inl rfl) (.tmp (.head _))) (.cons (sok_lenS (rs := [(20, .p .str a0)]) rfl rfl Try.underlying9 (.tmp (.head _))) (.cons (sok_cmp (rs := [(21, .p (.int .i64) ((a0.length : Int) : Int))]) rfl rfl (.tmp (.head _)) (.int _ _ _) rfl) (.cons (sok_move (rs := [(22, .p .bool ((decide ((a0.length : Int) > 0)) : Bool))]) rfl (.inl rfl) (.tmp (.head _))) (.cons (sok_run rfl rfl hc1 (sok_move (rs := [(0, .p .str a0)]) rfl (.inl rfl) (.tmp (.head _)))) (.cons (sok_run rfl rfl hc1 (sok_lenS (rs := [(24, .p .str a0)]) rfl rfl Try.underlying9 (.tmp (.head _)))) (.cons (sok_run rfl rfl hc1 (sok_cmp (rs := [(25, .p (.int .i64) ((a0.length : Int) : Int))]) rfl rfl (.tmp (.head _)) (.int _ _ _) rfl)) (.cons (sok_pickT (rs := [(23, .p .bool ((decide ((a0.length : Int) > 0)) : Bool)), (26, .p .bool ((decide ((a0.length : Int) ≤ 40)) : Bool))]) rfl rfl (.tmp (.head _)) hc1 (.tmp (.tail _ (.head _)))) (.cons (sok_move (rs := [(27, .p .bool ((decide ((a0.length : Int) ≤ 40)) : Bool))]) rfl (.inr rfl) (.tmp (.head _))) .nil))))))))) (by kernel_rfl) (by kernel_rfl) (by kernel_rfl) (Conv.refl _) ?_
      refine thenQ_normal ?_
      refine WpC.ret ?_
      have hq := Option.some.inj h
      subst hq
      exact ends_ret (retV_1 rfl (.head _)) (by simp)
    · replace h := ite_f hc1 h
      refine WpC.reg (st1 := ⟨[(2, .p .bool false)], []⟩) [2] [] hN (.cons (sok_move (rs := [(0, .p .str a0)]) rfl (.inl rfl) (.tmp (.head _))) (.cons (sok_lenS (rs := [(20, .p .str a0)]) rfl rfl Try.underlying9 (.tmp (.head _))) (.cons (sok_cmp (rs := [(21, .p (.int .i64) ((a0.length : Int) : Int))]) rfl rfl (.tmp (.head _)) (.int _ _ _) rfl) (.cons (sok_move (rs := [(22, .p .bool ((decide ((a0.length : Int) > 0)) : Bool))]) rfl (.inl rfl) (.tmp (.head _))) (.cons (sok_skip rfl rfl hc1) (.cons (sok_skip rfl rfl hc1) (.cons (sok_skip rfl rfl hc1) (.cons (sok_pickF (rs := [(23, .p .bool ((decide ((a0.length : Int) > 0)) : Bool))]) rfl rfl (.tmp (.head _)) hc1 (.bool _ _)) (.cons (sok_move (rs := [(27, .p .bool false)]) rfl (.inr rfl) (.tmp (.head _))) .nil))))))))) (by kernel_rfl) (by kernel_rfl) (by kernel_rfl) (Conv.refl _) ?_
      refine thenQ_normal ?_
      refine WpC.ret ?_
      have hq := Option.some.inj h
      subst hq
      exact ends_ret (retV_1 rfl (.head _)) (by simp)

theorem millwrightref01_count.ok (O : Out) (k : Nat) (a0 : List UInt8) (a1 : Int) (out : Int) (h : millwrightref01_count.f k a0 a1 = some out) : COk Un O Try.prog 34 { ar := [.p .str a0, .p (.int .u8) a1], r := .p (.int .i64) out } := by
  refine cok_of_wp Try.func34 rfl (k := 21) rfl (Nat.le_of_ble_eq_true rfl) (namesOk_pure rfl rfl rfl rfl) ?_
  intro B hN
  refine WpC.conv (Conv.keep (b := ⟨[(0, .p .str a0), (1, .p (.int .u8) a1)], []⟩) [0, 1] [] (by kernel_rfl)) ?_
  unfold millwrightref01_count.f at h
  refine WpC.seq ?_
  refine WpC.reg (st1 := ⟨[(0, .p .str a0), (1, .p (.int .u8) a1)], []⟩) [0, 1] [] hN (.cons (sok_move (rs := []) rfl (.inr rfl) (.int _ _ _)) .nil) (by kernel_rfl) (by kernel_rfl) (by kernel_rfl) (Conv.refl _) ?_
  refine thenQ_normal ?_
  refine WpC.seq ?_
  refine WpC.reg (st1 := ⟨[(0, .p .str a0), (1, .p (.int .u8) a1), (5, .p (.int .i64) (0 : Int))], []⟩) [0, 1, 5] [] hN (.cons (sok_move (rs := []) rfl (.inr rfl) (.int _ _ _)) .nil) (by kernel_rfl) (by kernel_rfl) (by kernel_rfl) (Conv.refl _) ?_
  refine thenQ_normal ?_
  refine WpC.seqJ (fun st' => ∃ v1 : Int, millwrightref01_count.j2 k v1 = some out ∧ st' = ⟨[(5, .p (.int .i64) v1)], []⟩) ?_ ?_
  · refine WpC.seq ?_
    refine WpC.reg (st1 := ⟨[(0, .p .str a0), (1, .p (.int .u8) a1), (5, .p (.int .i64) (0 : Int)), (6, .p (.int .i64) (0 : Int))], []⟩) [0, 1, 5, 6] [] hN (.cons (sok_move (rs := []) rfl (.inr rfl) (.int _ _ _)) .nil) (by kernel_rfl) (by kernel_rfl) (by kernel_rfl) (Conv.refl _) ?_
    refine thenQ_normal ?_
    refine WpC.block ?_
    obtain ⟨o7, hlo7, h⟩ := bind_some h
    have hout8 := h
    clear h
    refine WpC.loop (fun n st' => ∃ v3 : Int, ∃ v4 : Int, millwrightref01_count.l5 k a0 a1 n v3 v4 = some o7 ∧ st' = ⟨[(0, .p .str a0), (1, .p (.int .u8) a1), (5, .p (.int .i64) v3), (6, .p (.int .i64) v4)], []⟩) k ⟨0, 0, hlo7, rfl⟩ ?_
    clear hlo7
    rintro (_ | n) _ ⟨v3, v4, h, rfl⟩
    · cases h
    · rw [millwrightref01_count.l5] at h
      refine WpC.seq ?_
      refine WpC.seq ?_
      refine WpC.reg (st1 := ⟨[(0, .p .str a0), (1, .p (.int .u8) a1), (5, .p (.int .i64) v3), (6, .p (.int .i64) v4), (10, .p .bool ((decide (v4 < (a0.length : Int))) : Bool))], []⟩) [0, 1, 5, 6, 10] [] hN (.cons (sok_move (rs := [(6, .p (.int .i64) v4)]) rfl (.inl rfl) (.tmp (.head _))) (.cons (sok_move (rs := [(0, .p .str a0)]) rfl (.inl rfl) (.tmp (.head _))) (.cons (sok_lenS (rs := [(8, .p .str a0)]) rfl rfl Try.underlying9 (.tmp (.head _))) (.cons (sok_cmp (rs := [(7, .p (.int .i64) v4), (9, .p (.int .i64) ((a0.length : Int) : Int))]) rfl rfl (.tmp (.head _)) (.tmp (.tail _ (.head _))) rfl) .nil)))) (by kernel_rfl) (by kernel_rfl) (by kernel_rfl) (Conv.refl _) ?_
      refine thenQ_normal ?_
      refine WpC.cond (b := (decide (v4 < (a0.length : Int)))) (.tmp (.tail _ (.tail _ (.tail _ (.tail _ (.head _)))))) (fun hc9 => ?_) (fun hc9 => ?_)
      · replace h := ite_t hc9 h
        refine WpC.conv (Conv.keep (b := ⟨[(0, .p .str a0), (1, .p (.int .u8) a1), (5, .p (.int .i64) v3), (6, .p (.int .i64) v4)], []⟩) [0, 1, 5, 6] [] (by kernel_rfl)) (WpC.skip ?_)
        refine thenQ_normal ?_
        refine WpC.seqJ (fun st' => ∃ v10 : Int, millwrightref01_count.j11 k (millwrightref01_count.l5 k a0 a1 n) a0 a1 v4 v10 = some o7 ∧ st' = ⟨[(0, .p .str a0), (1, .p (.int .u8) a1), (5, .p (.int .i64) v10), (6, .p (.int .i64) v4)], []⟩) ?_ ?_
        · refine WpC.block ?_
          refine WpC.seq ?_
          obtain ⟨v12, hv12, h⟩ := bind_some h
          refine WpC.reg (st1 := ⟨[(0, .p .str a0), (1, .p (.int .u8) a1), (5, .p (.int .i64) v3), (6, .p (.int .i64) v4), (17, .p .bool (((v12.toNat : Int) == a1) : Bool))], []⟩) [0, 1, 5, 6, 17] [] hN (.cons (sok_move (rs := [(0, .p .str a0)]) rfl (.inl rfl) (.tmp (.head _))) (.cons (sok_move (rs := [(6, .p (.int .i64) v4)]) rfl (.inl rfl) (.tmp (.head _))) (.cons (sok_indexS (rs := [(13, .p .str a0), (14, .p (.int .i64) v4)]) rfl rfl Try.underlying9 (.tmp (.head _)) (.tmp (.tail _ (.head _))) hv12) (.cons (sok_move (rs := [(1, .p (.int .u8) a1)]) rfl (.inl rfl) (.tmp (.head _))) (.cons (sok_cmp (rs := [(15, .p (.int .u8) ((v12.toNat : Int) : Int)), (16, .p (.int .u8) a1)]) rfl rfl (.tmp (.head _)) (.tmp (.tail _ (.head _))) rfl) .nil))))) (by kernel_rfl) (by kernel_rfl) (by kernel_rfl) (Conv.refl _) ?_
          refine thenQ_normal ?_
          refine WpC.cond (b := ((v12.toNat : Int) == a1)) (.tmp (.tail _ (.tail _ (.tail _ (.tail _ (.head _)))))) (fun hc13 => ?_) (fun hc13 => ?_)
          · replace h := ite_t hc13 h
            refine WpC.reg (st1 := ⟨[(0, .p .str a0), (1, .p (.int .u8) a1), (5, .p (.int .i64) ((IntKind.i64.wrap (v3 + 1)) : Int)), (6, .p (.int .i64) v4)], []⟩) [0, 1, 5, 6] [] hN (.cons (sok_move (rs := [(5, .p (.int .i64) v3)]) rfl (.inl rfl) (.tmp (.head _))) (.cons (sok_arith (rs := [(18, .p (.int .i64) v3)]) rfl rfl (.tmp (.head _)) (.int _ _ _) rfl) (.cons (sok_move (rs := [(19, .p (.int .i64) ((IntKind.i64.wrap (v3 + 1)) : Int))]) rfl (.inr rfl) (.tmp (.head _))) .nil))) (by kernel_rfl) (by kernel_rfl) (by kernel_rfl) (Conv.refl _) ?_
            refine blockQ_normal ?_
            refine thenQ_normal ?_
            exact ⟨(IntKind.i64.wrap (v3 + 1)), h, rfl⟩
          · replace h := ite_f hc13 h
            refine WpC.conv (Conv.keep (b := ⟨[(0, .p .str a0), (1, .p (.int .u8) a1), (5, .p (.int .i64) v3), (6, .p (.int .i64) v4)], []⟩) [0, 1, 5, 6] [] (by kernel_rfl)) (WpC.skip ?_)
            refine blockQ_normal ?_
            refine thenQ_normal ?_
            exact ⟨v3, h, rfl⟩
        · rintro _ ⟨v10, h, rfl⟩
          unfold millwrightref01_count.j11 at h
          refine WpC.reg (st1 := ⟨[(0, .p .str a0), (1, .p (.int .u8) a1), (5, .p (.int .i64) v10), (6, .p (.int .i64) ((IntKind.i64.wrap (v4 + 1)) : Int))], []⟩) [0, 1, 5, 6] [] hN (.cons (sok_move (rs := [(6, .p (.int .i64) v4)]) rfl (.inl rfl) (.tmp (.head _))) (.cons (sok_arith (rs := [(11, .p (.int .i64) v4)]) rfl rfl (.tmp (.head _)) (.int _ _ _) rfl) (.cons (sok_move (rs := [(12, .p (.int .i64) ((IntKind.i64.wrap (v4 + 1)) : Int))]) rfl (.inr rfl) (.tmp (.head _))) .nil))) (by kernel_rfl) (by kernel_rfl) (by kernel_rfl) (Conv.refl _) ?_
          refine thenQ_normal ?_
          exact ⟨n, Nat.lt_succ_self n, v10, (IntKind.i64.wrap (v4 + 1)), h, rfl⟩
      · replace h := ite_f hc9 h
        refine WpC.conv (Conv.keep (b := ⟨[(5, .p (.int .i64) v3)], []⟩) [5] [] (by kernel_rfl)) (WpC.exit ?_)
        refine thenQ_exit ?_
        have hq := Option.some.inj h
        subst hq
        refine thenQ_exit ?_
        have h := hout8
        refine blockQ_hit ?_
        refine thenQ_normal ?_
        exact ⟨v3, h, rfl⟩
  · rintro _ ⟨v1, h, rfl⟩
    unfold millwrightref01_count.j2 at h
    refine WpC.seq ?_
    refine WpC.reg (st1 := ⟨[(4, .p (.int .i64) v1)], []⟩) [4] [] hN (.cons (sok_move (rs := [(5, .p (.int .i64) v1)]) rfl (.inl rfl) (.tmp (.head _))) (.cons (sok_move (rs := [(20, .p (.int .i64) v1)]) rfl (.inr rfl) (.tmp (.head _))) .nil)) (by kernel_rfl) (by kernel_rfl) (by kernel_rfl) (Conv.refl _) ?_
    refine thenQ_normal ?_
    refine WpC.ret ?_
    have hq := Option.some.inj h
    subst hq
    exact ends_ret (retV_1 rfl (.head _)) (by simp)

theorem millwrightref01_Member.ok (O : Out) (k : Nat) (a0 : List UInt8) (out : (List UInt8) × (List UInt8) × Bool) (h : millwrightref01_Member.f k a0 = some out) : COk Un O Try.prog 9 { ar := [.p .str a0], r := .tup [.p .str out.1, .p .str out.2.1, .p .bool out.2.2] } := by
  refine cok_of_wp Try.func9 rfl (k := 53) rfl (Nat.le_of_ble_eq_true rfl) (namesOk_pure rfl rfl rfl rfl) ?_
  intro B hN
  refine WpC.conv (Conv.keep (b := ⟨[(0, .p .str a0)], []⟩) [0] [] (by kernel_rfl)) ?_
  unfold millwrightref01_Member.f at h
  refine WpC.seq ?_
  refine WpC.reg (st1 := ⟨[(0, .p .str a0)], []⟩) [0] [] hN (.cons (sok_move (rs := []) rfl (.inr rfl) (.str _ _)) (.cons (sok_move (rs := []) rfl (.inr rfl) (.str _ _)) (.cons (sok_move (rs := []) rfl (.inr rfl) (.bool _ _)) .nil))) (by kernel_rfl) (by kernel_rfl) (by kernel_rfl) (Conv.refl _) ?_
  refine thenQ_normal ?_
  refine WpC.seqJ (fun st' => millwrightref01_Member.j14 k a0 = some out ∧ st' = ⟨[(0, .p .str a0)], []⟩) ?_ ?_
  · refine WpC.seqJ (fun st' => ∃ v15 : Bool, millwrightref01_Member.j17 k a0 v15 = some out ∧ st' = ⟨[(0, .p .str a0), (31, .p .bool v15)], []⟩) ?_ ?_
    · obtain ⟨v18, hv18, h⟩ := bind_some h
      rcases bool_cases (!v18) with hc19 | hc19
      · replace h := ite_t hc19 h
        refine WpC.reg (st1 := ⟨[(0, .p .str a0), (31, .p .bool true)], []⟩) [0, 31] [] hN (.cons (sok_move (rs := [(0, .p .str a0)]) rfl (.inl rfl) (.tmp (.head _))) (.cons (sok_call (rs := [(6, .p .str a0)]) (vw := []) rfl rfl hb_11 (millwrightref01_Right.ok O k a0 v18 hv18) (.cons (.tmp (.head _)) .nil) (.cons (.same _) .nil) (by simp) (.inl rfl)) (.cons (sok_not (rs := [(7, .p .bool v18)]) rfl rfl (.tmp (.head _))) (.cons (sok_move (rs := [(8, .p .bool ((!v18) : Bool))]) rfl (.inl rfl) (.tmp (.head _))) (.cons (sok_skip rfl rfl hc19) (.cons (sok_skip rfl rfl hc19) (.cons (sok_skip rfl rfl hc19) (.cons (sok_skip rfl rfl hc19) (.cons (sok_skip rfl rfl hc19) (.cons (sok_skip rfl rfl hc19) (.cons (sok_pickT (rs := [(9, .p .bool ((!v18) : Bool))]) rfl rfl (.tmp (.head _)) hc19 (.bool _ _)) (.cons (sok_move (rs := [(16, .p .bool true)]) rfl (.inl rfl) (.tmp (.head _))) (.cons (sok_skip rfl rfl rfl) (.cons (sok_skip rfl rfl rfl) (.cons (sok_skip rfl rfl rfl) (.cons (sok_pickT (rs := [(17, .p .bool true)]) rfl rfl (.tmp (.head _)) rfl (.bool _ _)) (.cons (sok_move (rs := [(21, .p .bool true)]) rfl (.inl rfl) (.tmp (.head _))) (.cons (sok_skip rfl rfl rfl) (.cons (sok_skip rfl rfl rfl) (.cons (sok_skip rfl rfl rfl) (.cons (sok_pickT (rs := [(22, .p .bool true)]) rfl rfl (.tmp (.head _)) rfl (.bool _ _)) (.cons (sok_move (rs := [(26, .p .bool true)]) rfl (.inl rfl) (.tmp (.head _))) (.cons (sok_skip rfl rfl rfl) (.cons (sok_skip rfl rfl rfl) (.cons (sok_skip rfl rfl rfl) (.cons (sok_pickT (rs := [(27, .p .bool true)]) rfl rfl (.tmp (.head _)) rfl (.bool _ _)) .nil)))))))))))))))))))))))))) (by kernel_rfl) (by kernel_rfl) (by kernel_rfl) (Conv.refl _) ?_
        refine thenQ_normal ?_
        exact ⟨true, h, rfl⟩
      · replace h := ite_f hc19 h
        obtain ⟨v20, hv20, h⟩ := bind_some h
        rcases bool_cases ((v20.toNat : Int) != 41) with hc21 | hc21
        · replace h := ite_t hc21 h
          refine WpC.reg (st1 := ⟨[(0, .p .str a0), (31, .p .bool true)], []⟩) [0, 31] [] hN (.cons (sok_move (rs := [(0, .p .str a0)]) rfl (.inl rfl) (.tmp (.head _))) (.cons (sok_call (rs := [(6, .p .str a0)]) (vw := []) rfl rfl hb_11 (millwrightref01_Right.ok O k a0 v18 hv18) (.cons (.tmp (.head _)) .nil) (.cons (.same _) .nil) (by simp) (.inl rfl)) (.cons (sok_not (rs := [(7, .p .bool v18)]) rfl rfl (.tmp (.head _))) (.cons (sok_move (rs := [(8, .p .bool ((!v18) : Bool))]) rfl (.inl rfl) (.tmp (.head _))) (.cons (sok_run rfl rfl hc19 (sok_move (rs := [(0, .p .str a0)]) rfl (.inl rfl) (.tmp (.head _)))) (.cons (sok_run rfl rfl hc19 (sok_move (rs := [(0, .p .str a0)]) rfl (.inl rfl) (.tmp (.head _)))) (.cons (sok_run rfl rfl hc19 (sok_lenS (rs := [(11, .p .str a0)]) rfl rfl Try.underlying9 (.tmp (.head _)))) (.cons (sok_run rfl rfl hc19 (sok_arith (rs := [(12, .p (.int .i64) ((a0.length : Int) : Int))]) rfl rfl (.tmp (.head _)) (.int _ _ _) rfl)) (.cons (sok_run rfl rfl hc19 (sok_indexS (rs := [(10, .p .str a0), (13, .p (.int .i64) ((IntKind.i64.wrap ((a0.length : Int) - 1)) : Int))]) rfl rfl Try.underlying9 (.tmp (.head _)) (.tmp (.tail _ (.head _))) hv20)) (.cons (sok_run rfl rfl hc19 (sok_cmp (rs := [(14, .p (.int .u8) ((v20.toNat : Int) : Int))]) rfl rfl (.tmp (.head _)) (.int _ _ _) rfl)) (.cons (sok_pickF (rs := [(9, .p .bool ((!v18) : Bool)), (15, .p .bool (((v20.toNat : Int) != 41) : Bool))]) rfl rfl (.tmp (.head _)) hc19 (.tmp (.tail _ (.head _)))) (.cons (sok_move (rs := [(16, .p .bool (((v20.toNat : Int) != 41) : Bool))]) rfl (.inl rfl) (.tmp (.head _))) (.cons (sok_skip rfl rfl hc21) (.cons (sok_skip rfl rfl hc21) (.cons (sok_skip rfl rfl hc21) (.cons (sok_pickT (rs := [(17, .p .bool (((v20.toNat : Int) != 41) : Bool))]) rfl rfl (.tmp (.head _)) hc21 (.bool _ _)) (.cons (sok_move (rs := [(21, .p .bool true)]) rfl (.inl rfl) (.tmp (.head _))) (.cons (sok_skip rfl rfl rfl) (.cons (sok_skip rfl rfl rfl) (.cons (sok_skip rfl rfl rfl) (.cons (sok_pickT (rs := [(22, .p .bool true)]) rfl rfl (.tmp (.head _)) rfl (.bool _ _)) (.cons (sok_move (rs := [(26, .p .bool true)]) rfl (.inl rfl) (.tmp (.head _))) (.cons (sok_skip rfl rfl rfl) (.cons (sok_skip rfl rfl rfl) (.cons (sok_skip rfl rfl rfl) (.cons (sok_pickT (rs := [(27, .p .bool true)]) rfl rfl (.tmp (.head _)) rfl (.bool _ _)) .nil)))))))))))))))))))))))))) (by kernel_rfl) (by kernel_rfl) (by kernel_rfl) (Conv.refl _) ?_
          refine thenQ_normal ?_
          exact ⟨true, h, rfl⟩
        · replace h := ite_f hc21 h
          obtain ⟨v22, hv22, h⟩ := bind_some h
          rcases bool_cases (v22 != 1) with hc23 | hc23
          · replace h := ite_t hc23 h
            refine WpC.reg (st1 := ⟨[(0, .p .str a0), (31, .p .bool true)], []⟩) [0, 31] [] hN (.cons (sok_move (rs := [(0, .p .str a0)]) rfl (.inl rfl) (.tmp (.head _))) (.cons (sok_call (rs := [(6, .p .str a0)]) (vw := []) rfl rfl hb_11 (millwrightref01_Right.ok O k a0 v18 hv18) (.cons (.tmp (.head _)) .nil) (.cons (.same _) .nil) (by simp) (.inl rfl)) (.cons (sok_not (rs := [(7, .p .bool v18)]) rfl rfl (.tmp (.head _))) (.cons (sok_move (rs := [(8, .p .bool ((!v18) : Bool))]) rfl (.inl rfl) (.tmp (.head _))) (.cons (sok_run rfl rfl hc19 (sok_move (rs := [(0, .p .str a0)]) rfl (.inl rfl) (.tmp (.head _)))) (.cons (sok_run rfl rfl hc19 (sok_move (rs := [(0, .p .str a0)]) rfl (.inl rfl) (.tmp (.head _)))) (.cons (sok_run rfl rfl hc19 (sok_lenS (rs := [(11, .p .str a0)]) rfl rfl Try.underlying9 (.tmp (.head _)))) (.cons (sok_run rfl rfl hc19 (sok_arith (rs := [(12, .p (.int .i64) ((a0.length : Int) : Int))]) rfl rfl (.tmp (.head _)) (.int _ _ _) rfl)) (.cons (sok_run rfl rfl hc19 (sok_indexS (rs := [(10, .p .str a0), (13, .p (.int .i64) ((IntKind.i64.wrap ((a0.length : Int) - 1)) : Int))]) rfl rfl Try.underlying9 (.tmp (.head _)) (.tmp (.tail _ (.head _))) hv20)) (.cons (sok_run rfl rfl hc19 (sok_cmp (rs := [(14, .p (.int .u8) ((v20.toNat : Int) : Int))]) rfl rfl (.tmp (.head _)) (.int _ _ _) rfl)) (.cons (sok_pickF (rs := [(9, .p .bool ((!v18) : Bool)), (15, .p .bool (((v20.toNat : Int) != 41) : Bool))]) rfl rfl (.tmp (.head _)) hc19 (.tmp (.tail _ (.head _)))) (.cons (sok_move (rs := [(16, .p .bool (((v20.toNat : Int) != 41) : Bool))]) rfl (.inl rfl) (.tmp (.head _))) (.cons (sok_run rfl rfl hc21 (sok_move (rs := [(0, .p .str a0)]) rfl (.inl rfl) (.tmp (.head _)))) (.cons (sok_run rfl rfl hc21 (sok_call (rs := [(18, .p .str a0)]) (vw := []) rfl rfl hb_34 (millwrightref01_count.ok O k a0 40 v22 hv22) (.cons (.tmp (.head _)) (.cons (.int _ _ _) .nil)) (.cons (.same _) (.cons (.same _) .nil)) (by simp) (.inl rfl))) (.cons (sok_run rfl rfl hc21 (sok_cmp (rs := [(19, .p (.int .i64) v22)]) rfl rfl (.tmp (.head _)) (.int _ _ _) rfl)) (.cons (sok_pickF (rs := [(17, .p .bool (((v20.toNat : Int) != 41) : Bool)), (20, .p .bool ((v22 != 1) : Bool))]) rfl rfl (.tmp (.head _)) hc21 (.tmp (.tail _ (.head _)))) (.cons (sok_move (rs := [(21, .p .bool ((v22 != 1) : Bool))]) rfl (.inl rfl) (.tmp (.head _))) (.cons (sok_skip rfl rfl hc23) (.cons (sok_skip rfl rfl hc23) (.cons (sok_skip rfl rfl hc23) (.cons (sok_pickT (rs := [(22, .p .bool ((v22 != 1) : Bool))]) rfl rfl (.tmp (.head _)) hc23 (.bool _ _)) (.cons (sok_move (rs := [(26, .p .bool true)]) rfl (.inl rfl) (.tmp (.head _))) (.cons (sok_skip rfl rfl rfl) (.cons (sok_skip rfl rfl rfl) (.cons (sok_skip rfl rfl rfl) (.cons (sok_pickT (rs := [(27, .p .bool true)]) rfl rfl (.tmp (.head _)) rfl (.bool _ _)) .nil)))))))))))))))))))))))))) (by kernel_rfl) (by kernel_rfl) (by kernel_rfl) (Conv.refl _) ?_
            refine thenQ_normal ?_
            exact ⟨true, h, rfl⟩
          · replace h := ite_f hc23 h
            obtain ⟨v24, hv24, h⟩ := bind_some h
            rcases bool_cases (v24 != 1) with hc25 | hc25
            · replace h := ite_t hc25 h
              refine WpC.reg (st1 := ⟨[(0, .p .str a0), (31, .p .bool true)], []⟩) [0, 31] [] hN (.cons (sok_move (rs := [(0, .p .str a0)]) rfl (.inl rfl) (.tmp (.head _))) (.cons (sok_call (rs := [(6, .p .str a0)]) (vw := []) rfl rfl hb_11 (millwrightref01_Right.ok O k a0 v18 hv18) (.cons (.tmp (.head _)) .nil) (.cons (.same _) .nil) (by simp) (.inl rfl)) (.cons (sok_not (rs := [(7, .p .bool v18)]) rfl rfl (.tmp (.head _))) (.cons (sok_move (rs := [(8, .p .bool ((!v18) : Bool))]) rfl (.inl rfl) (.tmp (.head _))) (.cons (sok_run rfl rfl hc19 (sok_move (rs := [(0, .p .str a0)]) rfl (.inl rfl) (.tmp (.head _)))) (.cons (sok_run rfl rfl hc19 (sok_move (rs := [(0, .p .str a0)]) rfl (.inl rfl) (.tmp (.head _)))) (.cons (sok_run rfl rfl hc19 (sok_lenS (rs := [(11, .p .str a0)]) rfl rfl Try.underlying9 (.tmp (.head _)))) (.cons (sok_run rfl rfl hc19 (sok_arith (rs := [(12, .p (.int .i64) ((a0.length : Int) : Int))]) rfl rfl (.tmp (.head _)) (.int _ _ _) rfl)) (.cons (sok_run rfl rfl hc19 (sok_indexS (rs := [(10, .p .str a0), (13, .p (.int .i64) ((IntKind.i64.wrap ((a0.length : Int) - 1)) : Int))]) rfl rfl Try.underlying9 (.tmp (.head _)) (.tmp (.tail _ (.head _))) hv20)) (.cons (sok_run rfl rfl hc19 (sok_cmp (rs := [(14, .p (.int .u8) ((v20.toNat : Int) : Int))]) rfl rfl (.tmp (.head _)) (.int _ _ _) rfl)) (.cons (sok_pickF (rs := [(9, .p .bool ((!v18) : Bool)), (15, .p .bool (((v20.toNat : Int) != 41) : Bool))]) rfl rfl (.tmp (.head _)) hc19 (.tmp (.tail _ (.head _)))) (.cons (sok_move (rs := [(16, .p .bool (((v20.toNat : Int) != 41) : Bool))]) rfl (.inl rfl) (.tmp (.head _))) (.cons (sok_run rfl rfl hc21 (sok_move (rs := [(0, .p .str a0)]) rfl (.inl rfl) (.tmp (.head _)))) (.cons (sok_run rfl rfl hc21 (sok_call (rs := [(18, .p .str a0)]) (vw := []) rfl rfl hb_34 (millwrightref01_count.ok O k a0 40 v22 hv22) (.cons (.tmp (.head _)) (.cons (.int _ _ _) .nil)) (.cons (.same _) (.cons (.same _) .nil)) (by simp) (.inl rfl))) (.cons (sok_run rfl rfl hc21 (sok_cmp (rs := [(19, .p (.int .i64) v22)]) rfl rfl (.tmp (.head _)) (.int _ _ _) rfl)) (.cons (sok_pickF (rs := [(17, .p .bool (((v20.toNat : Int) != 41) : Bool)), (20, .p .bool ((v22 != 1) : Bool))]) rfl rfl (.tmp (.head _)) hc21 (.tmp (.tail _ (.head _)))) (.cons (sok_move (rs := [(21, .p .bool ((v22 != 1) : Bool))]) rfl (.inl rfl) (.tmp (.head _))) (.cons (sok_run rfl rfl hc23 (sok_move (rs := [(0, .p .str a0)]) rfl (.inl rfl) (.tmp (.head _)))) (.cons (sok_run rfl rfl hc23 (sok_call (rs := [(23, .p .str a0)]) (vw := []) rfl rfl hb_34 (millwrightref01_count.ok O k a0 41 v24 hv24) (.cons (.tmp (.head _)) (.cons (.int _ _ _) .nil)) (.cons (.same _) (.cons (.same _) .nil)) (by simp) (.inl rfl))) (.cons (sok_run rfl rfl hc23 (sok_cmp (rs := [(24, .p (.int .i64) v24)]) rfl rfl (.tmp (.head _)) (.int _ _ _) rfl)) (.cons (sok_pickF (rs := [(22, .p .bool ((v22 != 1) : Bool)), (25, .p .bool ((v24 != 1) : Bool))]) rfl rfl (.tmp (.head _)) hc23 (.tmp (.tail _ (.head _)))) (.cons (sok_move (rs := [(26, .p .bool ((v24 != 1) : Bool))]) rfl (.inl rfl) (.tmp (.head _))) (.cons (sok_skip rfl rfl hc25) (.cons (sok_skip rfl rfl hc25) (.cons (sok_skip rfl rfl hc25) (.cons (sok_pickT (rs := [(27, .p .bool ((v24 != 1) : Bool))]) rfl rfl (.tmp (.head _)) hc25 (.bool _ _)) .nil)))))))))))))))))))))))))) (by kernel_rfl) (by kernel_rfl) (by kernel_rfl) (Conv.refl _) ?_
              refine thenQ_normal ?_
              exact ⟨true, h, rfl⟩
            · replace h := ite_f hc25 h
              obtain ⟨v26, hv26, h⟩ := bind_some h
              refine WpC.reg (st1 := ⟨[(0, .p .str a0), (31, .p .bool (((v26.toNat : Int) == 40) : Bool))], []⟩) [0, 31] [] hN (.cons (sok_move (rs := [(0, .p .str a0)]) rfl (.inl rfl) (.tmp (.head _))) (.cons (sok_call (rs := [(6, .p .str a0)]) (vw := []) rfl rfl hb_11 (millwrightref01_Right.ok O k a0 v18 hv18) (.cons (.tmp (.head _)) .nil) (.cons (.same _) .nil) (by simp) (.inl rfl)) (.cons (sok_not (rs := [(7, .p .bool v18)]) rfl rfl (.tmp (.head _))) (.cons (sok_move (rs := [(8, .p .bool ((!v18) : Bool))]) rfl (.inl rfl) (.tmp (.head _))) (.cons (sok_run rfl rfl hc19 (sok_move (rs := [(0, .p .str a0)]) rfl (.inl rfl) (.tmp (.head _)))) (.cons (sok_run rfl rfl hc19 (sok_move (rs := [(0, .p .str a0)]) rfl (.inl rfl) (.tmp (.head _)))) (.cons (sok_run rfl rfl hc19 (sok_lenS (rs := [(11, .p .str a0)]) rfl rfl Try.underlying9 (.tmp (.head _)))) (.cons (sok_run rfl rfl hc19 (sok_arith (rs := [(12, .p (.int .i64) ((a0.length : Int) : Int))]) rfl rfl (.tmp (.head _)) (.int _ _ _) rfl)) (.cons (sok_run rfl rfl hc19 (sok_indexS (rs := [(10, .p .str a0), (13, .p (.int .i64) ((IntKind.i64.wrap ((a0.length : Int) - 1)) : Int))]) rfl rfl Try.underlying9 (.tmp (.head _)) (.tmp (.tail _ (.head _))) hv20)) (.cons (sok_run rfl rfl hc19 (sok_cmp (rs := [(14, .p (.int .u8) ((v20.toNat : Int) : Int))]) rfl rfl (.tmp (.head _)) (.int _ _ _) rfl)) (.cons (sok_pickF (rs := [(9, .p .bool ((!v18) : Bool)), (15, .p .bool (((v20.toNat : Int) != 41) : Bool))]) rfl rfl (.tmp (.head _)) hc19 (.tmp (.tail _ (.head _)))) (.cons (sok_move (rs := [(16, .p .bool (((v20.toNat : Int) != 41) : Bool))]) rfl (.inl rfl) (.tmp (.head _))) (.cons (sok_run rfl rfl hc21 (sok_move (rs := [(0, .p .str a0)]) rfl (.inl rfl) (.tmp (.head _)))) (.cons (sok_run rfl rfl hc21 (sok_call (rs := [(18, .p .str a0)]) (vw := []) rfl rfl hb_34 (millwrightref01_count.ok O k a0 40 v22 hv22) (.cons (.tmp (.head _)) (.cons (.int _ _ _) .nil)) (.cons (.same _) (.cons (.same _) .nil)) (by simp) (.inl rfl))) (.cons (sok_run rfl rfl hc21 (sok_cmp (rs := [(19, .p (.int .i64) v22)]) rfl rfl (.tmp (.head _)) (.int _ _ _) rfl)) (.cons (sok_pickF (rs := [(17, .p .bool (((v20.toNat : Int) != 41) : Bool)), (20, .p .bool ((v22 != 1) : Bool))]) rfl rfl (.tmp (.head _)) hc21 (.tmp (.tail _ (.head _)))) (.cons (sok_move (rs := [(21, .p .bool ((v22 != 1) : Bool))]) rfl (.inl rfl) (.tmp (.head _))) (.cons (sok_run rfl rfl hc23 (sok_move (rs := [(0, .p .str a0)]) rfl (.inl rfl) (.tmp (.head _)))) (.cons (sok_run rfl rfl hc23 (sok_call (rs := [(23, .p .str a0)]) (vw := []) rfl rfl hb_34 (millwrightref01_count.ok O k a0 41 v24 hv24) (.cons (.tmp (.head _)) (.cons (.int _ _ _) .nil)) (.cons (.same _) (.cons (.same _) .nil)) (by simp) (.inl rfl))) (.cons (sok_run rfl rfl hc23 (sok_cmp (rs := [(24, .p (.int .i64) v24)]) rfl rfl (.tmp (.head _)) (.int _ _ _) rfl)) (.cons (sok_pickF (rs := [(22, .p .bool ((v22 != 1) : Bool)), (25, .p .bool ((v24 != 1) : Bool))]) rfl rfl (.tmp (.head _)) hc23 (.tmp (.tail _ (.head _)))) (.cons (sok_move (rs := [(26, .p .bool ((v24 != 1) : Bool))]) rfl (.inl rfl) (.tmp (.head _))) (.cons (sok_run rfl rfl hc25 (sok_move (rs := [(0, .p .str a0)]) rfl (.inl rfl) (.tmp (.head _)))) (.cons (sok_run rfl rfl hc25 (sok_indexS (rs := [(28, .p .str a0)]) rfl rfl Try.underlying9 (.tmp (.head _)) (.int _ _ _) hv26)) (.cons (sok_run rfl rfl hc25 (sok_cmp (rs := [(29, .p (.int .u8) ((v26.toNat : Int) : Int))]) rfl rfl (.tmp (.head _)) (.int _ _ _) rfl)) (.cons (sok_pickF (rs := [(27, .p .bool ((v24 != 1) : Bool)), (30, .p .bool (((v26.toNat : Int) == 40) : Bool))]) rfl rfl (.tmp (.head _)) hc25 (.tmp (.tail _ (.head _)))) .nil)))))))))))))))))))))))))) (by kernel_rfl) (by kernel_rfl) (by kernel_rfl) (Conv.refl _) ?_
              refine thenQ_normal ?_
              exact ⟨((v26.toNat : Int) == 40), h, rfl⟩
    · rintro _ ⟨v15, h, rfl⟩
      unfold millwrightref01_Member.j17 at h
      refine WpC.cond (b := v15) (.tmp (.tail _ (.head _))) (fun hc16 => ?_) (fun hc16 => ?_)
      · replace h := ite_t hc16 h
        refine WpC.seq ?_
        refine WpC.reg (st1 := ⟨[(2, .p .str (([] : List UInt8) : List UInt8)), (3, .p .str (([] : List UInt8) : List UInt8)), (4, .p .bool false)], []⟩) [2, 3, 4] [] hN (.cons (sok_move (rs := []) rfl (.inr rfl) (.str _ _)) (.cons (sok_move (rs := []) rfl (.inr rfl) (.str _ _)) (.cons (sok_move (rs := []) rfl (.inr rfl) (.bool _ _)) .nil))) (by kernel_rfl) (by kernel_rfl) (by kernel_rfl) (Conv.refl _) ?_
        refine thenQ_normal ?_
        refine WpC.ret ?_
        refine thenQ_ret ?_
        have hq := Option.some.inj h
        subst hq
        exact ends_ret (retV_3 rfl (.head _) (.tail _ (.head _)) (.tail _ (.tail _ (.head _)))) (by simp)
      · replace h := ite_f hc16 h
        refine WpC.conv (Conv.keep (b := ⟨[(0, .p .str a0)], []⟩) [0] [] (by kernel_rfl)) (WpC.skip ?_)
        refine thenQ_normal ?_
        exact ⟨h, rfl⟩
  · rintro _ ⟨h, rfl⟩
    unfold millwrightref01_Member.j14 at h
    refine WpC.seq ?_
    refine WpC.reg (st1 := ⟨[(0, .p .str a0), (5, .p (.int .i64) (0 : Int))], []⟩) [0, 5] [] hN (.cons (sok_move (rs := []) rfl (.inr rfl) (.int _ _ _)) .nil) (by kernel_rfl) (by kernel_rfl) (by kernel_rfl) (Conv.refl _) ?_
    refine thenQ_normal ?_
    refine WpC.seqJ (fun st' => ∃ v1 : Int, millwrightref01_Member.j5 k a0 v1 = some out ∧ st' = ⟨[(0, .p .str a0), (5, .p (.int .i64) v1)], []⟩) ?_ ?_
    · refine WpC.block ?_
      obtain ⟨o9, hlo9, h⟩ := bind_some h
      have hout10 := h
      clear h
      refine WpC.loop (fun n st' => ∃ v6 : Int, millwrightref01_Member.l7 k a0 n v6 = some o9 ∧ st' = ⟨[(0, .p .str a0), (5, .p (.int .i64) v6)], []⟩) k ⟨0, hlo9, rfl⟩ ?_
      clear hlo9
      rintro (_ | n) _ ⟨v6, h, rfl⟩
      · cases h
      · rw [millwrightref01_Member.l7] at h
        refine WpC.seq ?_
        refine WpC.seq ?_
        obtain ⟨v11, hv11, h⟩ := bind_some h
        refine WpC.reg (st1 := ⟨[(0, .p .str a0), (5, .p (.int .i64) v6), (35, .p .bool (((v11.toNat : Int) != 40) : Bool))], []⟩) [0, 5, 35] [] hN (.cons (sok_move (rs := [(0, .p .str a0)]) rfl (.inl rfl) (.tmp (.head _))) (.cons (sok_move (rs := [(5, .p (.int .i64) v6)]) rfl (.inl rfl) (.tmp (.head _))) (.cons (sok_indexS (rs := [(32, .p .str a0), (33, .p (.int .i64) v6)]) rfl rfl Try.underlying9 (.tmp (.head _)) (.tmp (.tail _ (.head _))) hv11) (.cons (sok_cmp (rs := [(34, .p (.int .u8) ((v11.toNat : Int) : Int))]) rfl rfl (.tmp (.head _)) (.int _ _ _) rfl) .nil)))) (by kernel_rfl) (by kernel_rfl) (by kernel_rfl) (Conv.refl _) ?_
        refine thenQ_normal ?_
        refine WpC.cond (b := ((v11.toNat : Int) != 40)) (.tmp (.tail _ (.tail _ (.head _)))) (fun hc12 => ?_) (fun hc12 => ?_)
        · replace h := ite_t hc12 h
          refine WpC.conv (Conv.keep (b := ⟨[(0, .p .str a0), (5, .p (.int .i64) v6)], []⟩) [0, 5] [] (by kernel_rfl)) (WpC.skip ?_)
          refine thenQ_normal ?_
          refine WpC.block ?_
          refine WpC.reg (st1 := ⟨[(0, .p .str a0), (5, .p (.int .i64) ((IntKind.i64.wrap (v6 + 1)) : Int))], []⟩) [0, 5] [] hN (.cons (sok_move (rs := [(5, .p (.int .i64) v6)]) rfl (.inl rfl) (.tmp (.head _))) (.cons (sok_arith (rs := [(36, .p (.int .i64) v6)]) rfl rfl (.tmp (.head _)) (.int _ _ _) rfl) (.cons (sok_move (rs := [(37, .p (.int .i64) ((IntKind.i64.wrap (v6 + 1)) : Int))]) rfl (.inr rfl) (.tmp (.head _))) .nil))) (by kernel_rfl) (by kernel_rfl) (by kernel_rfl) (Conv.refl _) ?_
          refine blockQ_normal ?_
          refine thenQ_normal ?_
          exact ⟨n, Nat.lt_succ_self n, (IntKind.i64.wrap (v6 + 1)), h, rfl⟩
        · replace h := ite_f hc12 h
          refine WpC.conv (Conv.keep (b := ⟨[(0, .p .str a0), (5, .p (.int .i64) v6)], []⟩) [0, 5] [] (by kernel_rfl)) (WpC.exit ?_)
          refine thenQ_exit ?_
          have hq := Option.some.inj h
          subst hq
          refine thenQ_exit ?_
          have h := hout10
          refine blockQ_hit ?_
          refine thenQ_normal ?_
          exact ⟨v6, h, rfl⟩
    · rintro _ ⟨v1, h, rfl⟩
      unfold millwrightref01_Member.j5 at h
      refine WpC.seq ?_
      refine WpC.seq ?_
      refine WpC.reg (st1 := ⟨[(0, .p .str a0), (5, .p (.int .i64) v1), (42, .p .bool ((v1 == (IntKind.i64.wrap ((a0.length : Int) - 2))) : Bool))], []⟩) [0, 5, 42] [] hN (.cons (sok_move (rs := [(5, .p (.int .i64) v1)]) rfl (.inl rfl) (.tmp (.head _))) (.cons (sok_move (rs := [(0, .p .str a0)]) rfl (.inl rfl) (.tmp (.head _))) (.cons (sok_lenS (rs := [(39, .p .str a0)]) rfl rfl Try.underlying9 (.tmp (.head _))) (.cons (sok_arith (rs := [(40, .p (.int .i64) ((a0.length : Int) : Int))]) rfl rfl (.tmp (.head _)) (.int _ _ _) rfl) (.cons (sok_cmp (rs := [(38, .p (.int .i64) v1), (41, .p (.int .i64) ((IntKind.i64.wrap ((a0.length : Int) - 2)) : Int))]) rfl rfl (.tmp (.head _)) (.tmp (.tail _ (.head _))) rfl) .nil))))) (by kernel_rfl) (by kernel_rfl) (by kernel_rfl) (Conv.refl _) ?_
      refine thenQ_normal ?_
      refine WpC.cond (b := (v1 == (IntKind.i64.wrap ((a0.length : Int) - 2)))) (.tmp (.tail _ (.tail _ (.head _)))) (fun hc2 => ?_) (fun hc2 => ?_)
      · replace h := ite_t hc2 h
        refine WpC.seq ?_
        refine WpC.reg (st1 := ⟨[(2, .p .str (([] : List UInt8) : List UInt8)), (3, .p .str (([] : List UInt8) : List UInt8)), (4, .p .bool false)], []⟩) [2, 3, 4] [] hN (.cons (sok_move (rs := []) rfl (.inr rfl) (.str _ _)) (.cons (sok_move (rs := []) rfl (.inr rfl) (.str _ _)) (.cons (sok_move (rs := []) rfl (.inr rfl) (.bool _ _)) .nil))) (by kernel_rfl) (by kernel_rfl) (by kernel_rfl) (Conv.refl _) ?_
        refine thenQ_normal ?_
        refine WpC.ret ?_
        refine thenQ_ret ?_
        have hq := Option.some.inj h
        subst hq
        exact ends_ret (retV_3 rfl (.head _) (.tail _ (.head _)) (.tail _ (.tail _ (.head _)))) (by simp)
      · replace h := ite_f hc2 h
        refine WpC.conv (Conv.keep (b := ⟨[(0, .p .str a0), (5, .p (.int .i64) v1)], []⟩) [0, 5] [] (by kernel_rfl)) (WpC.skip ?_)
        refine thenQ_normal ?_
        refine WpC.seq ?_
        obtain ⟨v3, hv3, h⟩ := bind_some h
        obtain ⟨v4, hv4, h⟩ := bind_some h
        refine WpC.regA (st1 := ⟨[(2, .p .str v3), (3, .p .str v4), (4, .p .bool true)], []⟩) [2, 3, 4] [] [[], [], [0, 1], [], [], [4], [], [6], [6, 7], [3, 4, 5, 6, 7, 8], [0, 1, 2], [0, 1, 2, 3, 4, 5, 6, 7, 8, 9, 10], [0, 1, 2, 3, 4, 5, 6, 7, 8, 9, 10, 11]] mixed hN (.cons (sok_move (rs := [(0, .p .str a0)]) rfl (.inl rfl) (.tmp (.head _))) (.cons (sok_move (rs := [(5, .p (.int .i64) v1)]) rfl (.inl rfl) (.tmp (.head _))) (.cons (sok_sliceS (rs := [(43, .p .str a0), (44, .p (.int .i64) v1)]) rfl rfl Try.underlying9 (.tmp (.head _)) .no (.at (.tmp (.tail _ (.head _)))) hv3) (.cons (sok_move (rs := [(0, .p .str a0)]) rfl (.inl rfl) (.tmp (.head _))) (.cons (sok_move (rs := [(5, .p (.int .i64) v1)]) rfl (.inl rfl) (.tmp (.head _))) (.cons (sok_arith (rs := [(47, .p (.int .i64) v1)]) rfl rfl (.tmp (.head _)) (.int _ _ _) rfl) (.cons (sok_move (rs := [(0, .p .str a0)]) rfl (.inl rfl) (.tmp (.head _))) (.cons (sok_lenS (rs := [(49, .p .str a0)]) rfl rfl Try.underlying9 (.tmp (.head _))) (.cons (sok_arith (rs := [(50, .p (.int .i64) ((a0.length : Int) : Int))]) rfl rfl (.tmp (.head _)) (.int _ _ _) rfl) (.cons (sok_sliceS (rs := [(46, .p .str a0), (48, .p (.int .i64) ((IntKind.i64.wrap (v1 + 1)) : Int)), (51, .p (.int .i64) ((IntKind.i64.wrap ((a0.length : Int) - 1)) : Int))]) rfl rfl Try.underlying9 (.tmp (.head _)) (.at (.tmp (.tail _ (.head _)))) (.at (.tmp (.tail _ (.tail _ (.head _))))) hv4) (.cons (sok_move (rs := [(45, .p .str v3)]) rfl (.inr rfl) (.tmp (.head _))) (.cons (sok_move (rs := [(52, .p .str v4)]) rfl (.inr rfl) (.tmp (.head _))) (.cons (sok_move (rs := []) rfl (.inr rfl) (.bool _ _)) .nil))))))))))))) (by kernel_rfl) (by kernel_rfl) (by kernel_rfl) (by kernel_rfl) (by kernel_rfl) (Conv.refl _) ?_
        refine thenQ_normal ?_
        refine WpC.ret ?_
        have hq := Option.some.inj h
        subst hq
        exact ends_ret (retV_3 rfl (.head _) (.tail _ (.head _)) (.tail _ (.tail _ (.head _)))) (by simp)

end Go.Proofs.Ytfeaegjlhpgdmaa
