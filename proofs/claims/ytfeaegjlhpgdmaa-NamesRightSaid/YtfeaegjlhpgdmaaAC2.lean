/- A part of the proof of a given law: AC2. Own work, printed in part by a program of mine. -/
import Derived.Test.YtfeaegjlhpgdmaaAC1
namespace Go.Proofs.Ytfeaegjlhpgdmaa
open Go Go.AM
set_option linter.unusedVariables false
set_option maxRecDepth 100000
theorem millwrightlaw01_NamesRight.ok (O : Out) (k : Nat) (a0 : List UInt8) (out : Bool) (h : millwrightlaw01_NamesRight.f k a0 = some out) : COk Un O Try.prog 3 { ar := [.p .str a0], r := .p .bool out } := by
  refine cok_of_wp Try.func3 rfl (k := 46) rfl (Nat.le_of_ble_eq_true rfl) (namesOk_pure rfl rfl rfl rfl) ?_
  intro B hN
  refine WpC.conv (Conv.keep (b := ⟨[(0, .p .str a0)], []⟩) [0] [] (by kernel_rfl)) ?_
  unfold millwrightlaw01_NamesRight.f at h
  refine WpC.seq ?_
  refine WpC.reg (st1 := ⟨[(0, .p .str a0)], []⟩) [0] [] hN (.cons (sok_move (rs := []) rfl (.inr rfl) (.bool _ _)) .nil) (by kernel_rfl) (by kernel_rfl) (by kernel_rfl) (Conv.refl _) ?_
  refine thenQ_normal ?_
  refine WpC.seq ?_
  refine WpC.seq ?_
  obtain ⟨v1, hv1, h⟩ := bind_some h
  refine WpC.reg (st1 := ⟨[(0, .p .str a0), (10, .p .bool ((!v1) : Bool))], []⟩) [0, 10] [] hN (.cons (sok_call (rs := []) (vw := []) rfl rfl hb_7 (millwrightlaw01_alive.ok O k  v1 hv1) .nil .nil (by simp) (.inl rfl)) (.cons (sok_not (rs := [(9, .p .bool v1)]) rfl rfl (.tmp (.head _))) .nil)) (by kernel_rfl) (by kernel_rfl) (by kernel_rfl) (Conv.refl _) ?_
  refine thenQ_normal ?_
  refine WpC.cond (b := (!v1)) (.tmp (.tail _ (.head _))) (fun hc2 => ?_) (fun hc2 => ?_)
  · replace h := ite_t hc2 h
    refine WpC.seq ?_
    refine WpC.reg (st1 := ⟨[(2, .p .bool false)], []⟩) [2] [] hN (.cons (sok_move (rs := []) rfl (.inr rfl) (.bool _ _)) .nil) (by kernel_rfl) (by kernel_rfl) (by kernel_rfl) (Conv.refl _) ?_
    refine thenQ_normal ?_
    refine WpC.ret ?_
    refine thenQ_ret ?_
    have hq := Option.some.inj h
    subst hq
    exact ends_ret (retV_1 rfl (.head _)) (by simp)
  · replace h := ite_f hc2 h
    refine WpC.conv (Conv.keep (b := ⟨[(0, .p .str a0)], []⟩) [0] [] (by kernel_rfl)) (WpC.skip ?_)
    refine thenQ_normal ?_
    refine WpC.seq ?_
    refine WpC.seq ?_
    refine WpC.reg (st1 := ⟨[(0, .p .str a0), (13, .p .bool ((decide ((a0.length : Int) > 300)) : Bool))], []⟩) [0, 13] [] hN (.cons (sok_move (rs := [(0, .p .str a0)]) rfl (.inl rfl) (.tmp (.head _))) (.cons (sok_lenS (rs := [(11, .p .str a0)]) rfl rfl Try.underlying9 (.tmp (.head _))) (.cons (sok_cmp (rs := [(12, .p (.int .i64) ((a0.length : Int) : Int))]) rfl rfl (.tmp (.head _)) (.int _ _ _) rfl) .nil))) (by kernel_rfl) (by kernel_rfl) (by kernel_rfl) (Conv.refl _) ?_
    refine thenQ_normal ?_
    refine WpC.cond (b := (decide ((a0.length : Int) > 300))) (.tmp (.tail _ (.head _))) (fun hc3 => ?_) (fun hc3 => ?_)
    · replace h := ite_t hc3 h
      refine WpC.seq ?_
      refine WpC.reg (st1 := ⟨[(2, .p .bool true)], []⟩) [2] [] hN (.cons (sok_move (rs := []) rfl (.inr rfl) (.bool _ _)) .nil) (by kernel_rfl) (by kernel_rfl) (by kernel_rfl) (Conv.refl _) ?_
      refine thenQ_normal ?_
      refine WpC.ret ?_
      refine thenQ_ret ?_
      have hq := Option.some.inj h
      subst hq
      exact ends_ret (retV_1 rfl (.head _)) (by simp)
    · replace h := ite_f hc3 h
      refine WpC.conv (Conv.keep (b := ⟨[(0, .p .str a0)], []⟩) [0] [] (by kernel_rfl)) (WpC.skip ?_)
      refine thenQ_normal ?_
      refine WpC.seq ?_
      obtain ⟨v4, hv4, h⟩ := bind_some h
      refine WpC.reg (st1 := ⟨[(0, .p .str a0), (3, .p .str v4.1), (4, .p .str v4.2.1), (5, .p .bool v4.2.2)], []⟩) [0, 3, 4, 5] [] hN (.cons (sok_move (rs := [(0, .p .str a0)]) rfl (.inl rfl) (.tmp (.head _))) (.cons (sok_call (rs := [(15, .p .str a0)]) (vw := []) rfl rfl hb_8 (names_Member.ok O k a0 v4 hv4) (.cons (.tmp (.head _)) .nil) (.cons (.same _) .nil) (by simp) (.inl rfl)) (.cons (sok_move (rs := [(16, .tup [.p .str v4.1, .p .str v4.2.1, .p .bool v4.2.2])]) rfl (.inl rfl) (.tmp (.head _))) (.cons (sok_extract (rs := [(14, .tup [.p .str v4.1, .p .str v4.2.1, .p .bool v4.2.2])]) rfl rfl (.tmp (.head _)) rfl) (.cons (sok_extract (rs := [(14, .tup [.p .str v4.1, .p .str v4.2.1, .p .bool v4.2.2])]) rfl rfl (.tmp (.head _)) rfl) (.cons (sok_extract (rs := [(14, .tup [.p .str v4.1, .p .str v4.2.1, .p .bool v4.2.2])]) rfl rfl (.tmp (.head _)) rfl) (.cons (sok_move (rs := [(17, .p .str v4.1)]) rfl (.inr rfl) (.tmp (.head _))) (.cons (sok_move (rs := [(18, .p .str v4.2.1)]) rfl (.inr rfl) (.tmp (.head _))) (.cons (sok_move (rs := [(19, .p .bool v4.2.2)]) rfl (.inr rfl) (.tmp (.head _))) .nil))))))))) (by kernel_rfl) (by kernel_rfl) (by kernel_rfl) (Conv.refl _) ?_
      refine thenQ_normal ?_
      refine WpC.seq ?_
      obtain ⟨v5, hv5, h⟩ := bind_some h
      refine WpC.reg (st1 := ⟨[(0, .p .str a0), (3, .p .str v4.1), (4, .p .str v4.2.1), (5, .p .bool v4.2.2), (6, .p .str v5.1), (7, .p .str v5.2.1), (8, .p .bool v5.2.2)], []⟩) [0, 3, 4, 5, 6, 7, 8] [] hN (.cons (sok_move (rs := [(0, .p .str a0)]) rfl (.inl rfl) (.tmp (.head _))) (.cons (sok_call (rs := [(21, .p .str a0)]) (vw := []) rfl rfl hb_9 (millwrightref01_Member.ok O k a0 v5 hv5) (.cons (.tmp (.head _)) .nil) (.cons (.same _) .nil) (by simp) (.inl rfl)) (.cons (sok_move (rs := [(22, .tup [.p .str v5.1, .p .str v5.2.1, .p .bool v5.2.2])]) rfl (.inl rfl) (.tmp (.head _))) (.cons (sok_extract (rs := [(20, .tup [.p .str v5.1, .p .str v5.2.1, .p .bool v5.2.2])]) rfl rfl (.tmp (.head _)) rfl) (.cons (sok_extract (rs := [(20, .tup [.p .str v5.1, .p .str v5.2.1, .p .bool v5.2.2])]) rfl rfl (.tmp (.head _)) rfl) (.cons (sok_extract (rs := [(20, .tup [.p .str v5.1, .p .str v5.2.1, .p .bool v5.2.2])]) rfl rfl (.tmp (.head _)) rfl) (.cons (sok_move (rs := [(23, .p .str v5.1)]) rfl (.inr rfl) (.tmp (.head _))) (.cons (sok_move (rs := [(24, .p .str v5.2.1)]) rfl (.inr rfl) (.tmp (.head _))) (.cons (sok_move (rs := [(25, .p .bool v5.2.2)]) rfl (.inr rfl) (.tmp (.head _))) .nil))))))))) (by kernel_rfl) (by kernel_rfl) (by kernel_rfl) (Conv.refl _) ?_
      refine thenQ_normal ?_
      refine WpC.seq ?_
      obtain ⟨v6, hv6, h⟩ := bind_some h
      obtain ⟨v7, hv7, h⟩ := bind_some h
      rcases bool_cases (v6 == v7) with hc8 | hc8
      · replace h := ite_t hc8 h
        rcases bool_cases (v4.2.2 == v5.2.2) with hc9 | hc9
        · replace h := ite_t hc9 h
          rcases bool_cases (v4.1 == v5.1) with hc10 | hc10
          · replace h := ite_t hc10 h
            refine WpC.reg (st1 := ⟨[(2, .p .bool ((v4.2.1 == v5.2.1) : Bool))], []⟩) [2] [] hN (.cons (sok_move (rs := [(0, .p .str a0)]) rfl (.inl rfl) (.tmp (.head _))) (.cons (sok_call (rs := [(26, .p .str a0)]) (vw := []) rfl rfl hb_10 (names_Right.ok O k a0 v6 hv6) (.cons (.tmp (.head _)) .nil) (.cons (.same _) .nil) (by simp) (.inl rfl)) (.cons (sok_move (rs := [(0, .p .str a0)]) rfl (.inl rfl) (.tmp (.head _))) (.cons (sok_call (rs := [(28, .p .str a0)]) (vw := []) rfl rfl hb_11 (millwrightref01_Right.ok O k a0 v7 hv7) (.cons (.tmp (.head _)) .nil) (.cons (.same _) .nil) (by simp) (.inl rfl)) (.cons (sok_eqB (rs := [(27, .p .bool v6), (29, .p .bool v7)]) rfl rfl Try.underlying4 (.tmp (.head _)) (.tmp (.tail _ (.head _)))) (.cons (sok_move (rs := [(30, .p .bool ((v6 == v7) : Bool))]) rfl (.inl rfl) (.tmp (.head _))) (.cons (sok_run rfl rfl hc8 (sok_move (rs := [(5, .p .bool v4.2.2)]) rfl (.inl rfl) (.tmp (.head _)))) (.cons (sok_run rfl rfl hc8 (sok_move (rs := [(8, .p .bool v5.2.2)]) rfl (.inl rfl) (.tmp (.head _)))) (.cons (sok_run rfl rfl hc8 (sok_eqB (rs := [(32, .p .bool v4.2.2), (33, .p .bool v5.2.2)]) rfl rfl Try.underlying4 (.tmp (.head _)) (.tmp (.tail _ (.head _))))) (.cons (sok_pickT (rs := [(31, .p .bool ((v6 == v7) : Bool)), (34, .p .bool ((v4.2.2 == v5.2.2) : Bool))]) rfl rfl (.tmp (.head _)) hc8 (.tmp (.tail _ (.head _)))) (.cons (sok_move (rs := [(35, .p .bool ((v4.2.2 == v5.2.2) : Bool))]) rfl (.inl rfl) (.tmp (.head _))) (.cons (sok_run rfl rfl hc9 (sok_move (rs := [(3, .p .str v4.1)]) rfl (.inl rfl) (.tmp (.head _)))) (.cons (sok_run rfl rfl hc9 (sok_move (rs := [(6, .p .str v5.1)]) rfl (.inl rfl) (.tmp (.head _)))) (.cons (sok_run rfl rfl hc9 (sok_cmpS (rs := [(37, .p .str v4.1), (38, .p .str v5.1)]) rfl rfl (.tmp (.head _)) (.tmp (.tail _ (.head _))) rfl)) (.cons (sok_pickT (rs := [(36, .p .bool ((v4.2.2 == v5.2.2) : Bool)), (39, .p .bool ((v4.1 == v5.1) : Bool))]) rfl rfl (.tmp (.head _)) hc9 (.tmp (.tail _ (.head _)))) (.cons (sok_move (rs := [(40, .p .bool ((v4.1 == v5.1) : Bool))]) rfl (.inl rfl) (.tmp (.head _))) (.cons (sok_run rfl rfl hc10 (sok_move (rs := [(4, .p .str v4.2.1)]) rfl (.inl rfl) (.tmp (.head _)))) (.cons (sok_run rfl rfl hc10 (sok_move (rs := [(7, .p .str v5.2.1)]) rfl (.inl rfl) (.tmp (.head _)))) (.cons (sok_run rfl rfl hc10 (sok_cmpS (rs := [(42, .p .str v4.2.1), (43, .p .str v5.2.1)]) rfl rfl (.tmp (.head _)) (.tmp (.tail _ (.head _))) rfl)) (.cons (sok_pickT (rs := [(41, .p .bool ((v4.1 == v5.1) : Bool)), (44, .p .bool ((v4.2.1 == v5.2.1) : Bool))]) rfl rfl (.tmp (.head _)) hc10 (.tmp (.tail _ (.head _)))) (.cons (sok_move (rs := [(45, .p .bool ((v4.2.1 == v5.2.1) : Bool))]) rfl (.inr rfl) (.tmp (.head _))) .nil))))))))))))))))))))) (by kernel_rfl) (by kernel_rfl) (by kernel_rfl) (Conv.refl _) ?_
            refine thenQ_normal ?_
            refine WpC.ret ?_
            have hq := Option.some.inj h
            subst hq
            exact ends_ret (retV_1 rfl (.head _)) (by simp)
          · replace h := ite_f hc10 h
            refine WpC.reg (st1 := ⟨[(2, .p .bool false)], []⟩) [2] [] hN (.cons (sok_move (rs := [(0, .p .str a0)]) rfl (.inl rfl) (.tmp (.head _))) (.cons (sok_call (rs := [(26, .p .str a0)]) (vw := []) rfl rfl hb_10 (names_Right.ok O k a0 v6 hv6) (.cons (.tmp (.head _)) .nil) (.cons (.same _) .nil) (by simp) (.inl rfl)) (.cons (sok_move (rs := [(0, .p .str a0)]) rfl (.inl rfl) (.tmp (.head _))) (.cons (sok_call (rs := [(28, .p .str a0)]) (vw := []) rfl rfl hb_11 (millwrightref01_Right.ok O k a0 v7 hv7) (.cons (.tmp (.head _)) .nil) (.cons (.same _) .nil) (by simp) (.inl rfl)) (.cons (sok_eqB (rs := [(27, .p .bool v6), (29, .p .bool v7)]) rfl rfl Try.underlying4 (.tmp (.head _)) (.tmp (.tail _ (.head _)))) (.cons (sok_move (rs := [(30, .p .bool ((v6 == v7) : Bool))]) rfl (.inl rfl) (.tmp (.head _))) (.cons (sok_run rfl rfl hc8 (sok_move (rs := [(5, .p .bool v4.2.2)]) rfl (.inl rfl) (.tmp (.head _)))) (.cons (sok_run rfl rfl hc8 (sok_move (rs := [(8, .p .bool v5.2.2)]) rfl (.inl rfl) (.tmp (.head _)))) (.cons (sok_run rfl rfl hc8 (sok_eqB (rs := [(32, .p .bool v4.2.2), (33, .p .bool v5.2.2)]) rfl rfl Try.underlying4 (.tmp (.head _)) (.tmp (.tail _ (.head _))))) (.cons (sok_pickT (rs := [(31, .p .bool ((v6 == v7) : Bool)), (34, .p .bool ((v4.2.2 == v5.2.2) : Bool))]) rfl rfl (.tmp (.head _)) hc8 (.tmp (.tail _ (.head _)))) (.cons (sok_move (rs := [(35, .p .bool ((v4.2.2 == v5.2.2) : Bool))]) rfl (.inl rfl) (.tmp (.head _))) (.cons (sok_run rfl rfl hc9 (sok_move (rs := [(3, .p .str v4.1)]) rfl (.inl rfl) (.tmp (.head _)))) (.cons (sok_run rfl rfl hc9 (sok_move (rs := [(6, .p .str v5.1)]) rfl (.inl rfl) (.tmp (.head _)))) (.cons (sok_run rfl rfl hc9 (sok_cmpS (rs := [(37, .p .str v4.1), (38, .p .str v5.1)]) rfl rfl (.tmp (.head _)) (.tmp (.tail _ (.head _))) rfl)) (.cons (sok_pickT (rs := [(36, .p .bool ((v4.2.2 == v5.2.2) : Bool)), (39, .p .bool ((v4.1 == v5.1) : Bool))]) rfl rfl (.tmp (.head _)) hc9 (.tmp (.tail _ (.head _)))) (.cons (sok_move (rs := [(40, .p .bool ((v4.1 == v5.1) : Bool))]) rfl (.inl rfl) (.tmp (.head _))) (.cons (sok_skip rfl rfl hc10) (.cons (sok_skip rfl rfl hc10) (.cons (sok_skip rfl rfl hc10) (.cons (sok_pickF (rs := [(41, .p .bool ((v4.1 == v5.1) : Bool))]) rfl rfl (.tmp (.head _)) hc10 (.bool _ _)) (.cons (sok_move (rs := [(45, .p .bool false)]) rfl (.inr rfl) (.tmp (.head _))) .nil))))))))))))))))))))) (by kernel_rfl) (by kernel_rfl) (by kernel_rfl) (Conv.refl _) ?_
            refine thenQ_normal ?_
            refine WpC.ret ?_
            have hq := Option.some.inj h
            subst hq
            exact ends_ret (retV_1 rfl (.head _)) (by simp)
        · replace h := ite_f hc9 h
          refine WpC.reg (st1 := ⟨[(2, .p .bool false)], []⟩) [2] [] hN (.cons (sok_move (rs := [(0, .p .str a0)]) rfl (.inl rfl) (.tmp (.head _))) (.cons (sok_call (rs := [(26, .p .str a0)]) (vw := []) rfl rfl hb_10 (names_Right.ok O k a0 v6 hv6) (.cons (.tmp (.head _)) .nil) (.cons (.same _) .nil) (by simp) (.inl rfl)) (.cons (sok_move (rs := [(0, .p .str a0)]) rfl (.inl rfl) (.tmp (.head _))) (.cons (sok_call (rs := [(28, .p .str a0)]) (vw := []) rfl rfl hb_11 (millwrightref01_Right.ok O k a0 v7 hv7) (.cons (.tmp (.head _)) .nil) (.cons (.same _) .nil) (by simp) (.inl rfl)) (.cons (sok_eqB (rs := [(27, .p .bool v6), (29, .p .bool v7)]) rfl rfl Try.underlying4 (.tmp (.head _)) (.tmp (.tail _ (.head _)))) (.cons (sok_move (rs := [(30, .p .bool ((v6 == v7) : Bool))]) rfl (.inl rfl) (.tmp (.head _))) (.cons (sok_run rfl rfl hc8 (sok_move (rs := [(5, .p .bool v4.2.2)]) rfl (.inl rfl) (.tmp (.head _)))) (.cons (sok_run rfl rfl hc8 (sok_move (rs := [(8, .p .bool v5.2.2)]) rfl (.inl rfl) (.tmp (.head _)))) (.cons (sok_run rfl rfl hc8 (sok_eqB (rs := [(32, .p .bool v4.2.2), (33, .p .bool v5.2.2)]) rfl rfl Try.underlying4 (.tmp (.head _)) (.tmp (.tail _ (.head _))))) (.cons (sok_pickT (rs := [(31, .p .bool ((v6 == v7) : Bool)), (34, .p .bool ((v4.2.2 == v5.2.2) : Bool))]) rfl rfl (.tmp (.head _)) hc8 (.tmp (.tail _ (.head _)))) (.cons (sok_move (rs := [(35, .p .bool ((v4.2.2 == v5.2.2) : Bool))]) rfl (.inl rfl) (.tmp (.head _))) (.cons (sok_skip rfl rfl hc9) (.cons (sok_skip rfl rfl hc9) (.cons (sok_skip rfl rfl hc9) (.cons (sok_pickF (rs := [(36, .p .bool ((v4.2.2 == v5.2.2) : Bool))]) rfl rfl (.tmp (.head _)) hc9 (.bool _ _)) (.cons (sok_move (rs := [(40, .p .bool false)]) rfl (.inl rfl) (.tmp (.head _))) (.cons (sok_skip rfl rfl rfl) (.cons (sok_skip rfl rfl rfl) (.cons (sok_skip rfl rfl rfl) (.cons (sok_pickF (rs := [(41, .p .bool false)]) rfl rfl (.tmp (.head _)) rfl (.bool _ _)) (.cons (sok_move (rs := [(45, .p .bool false)]) rfl (.inr rfl) (.tmp (.head _))) .nil))))))))))))))))))))) (by kernel_rfl) (by kernel_rfl) (by kernel_rfl) (Conv.refl _) ?_
          refine thenQ_normal ?_
          refine WpC.ret ?_
          have hq := Option.some.inj h
          subst hq
          exact ends_ret (retV_1 rfl (.head _)) (by simp)
      · replace h := ite_f hc8 h
        refine WpC.reg (st1 := ⟨[(2, .p .bool false)], []⟩) [2] [] hN (.cons (sok_move (rs := [(0, .p .str a0)]) rfl (.inl rfl) (.tmp (.head _))) (.cons (sok_call (rs := [(26, .p .str a0)]) (vw := []) rfl rfl hb_10 (names_Right.ok O k a0 v6 hv6) (.cons (.tmp (.head _)) .nil) (.cons (.same _) .nil) (by simp) (.inl rfl)) (.cons (sok_move (rs := [(0, .p .str a0)]) rfl (.inl rfl) (.tmp (.head _))) (.cons (sok_call (rs := [(28, .p .str a0)]) (vw := []) rfl rfl hb_11 (millwrightref01_Right.ok O k a0 v7 hv7) (.cons (.tmp (.head _)) .nil) (.cons (.same _) .nil) (by simp) (.inl rfl)) (.cons (sok_eqB (rs := [(27, .p .bool v6), (29, .p .bool v7)]) rfl rfl Try.underlying4 (.tmp (.head _)) (.tmp (.tail _ (.head _)))) (.cons (sok_move (rs := [(30, .p .bool ((v6 == v7) : Bool))]) rfl (.inl rfl) (.tmp (.head _))) (.cons (sok_skip rfl rfl hc8) (.cons (sok_skip rfl rfl hc8) (.cons (sok_skip rfl rfl hc8) (.cons (sok_pickF (rs := [(31, .p .bool ((v6 == v7) : Bool))]) rfl rfl (.tmp (.head _)) hc8 (.bool _ _)) (.cons (sok_move (rs := [(35, .p .bool false)]) rfl (.inl rfl) (.tmp (.head _))) (.cons (sok_skip rfl rfl rfl) (.cons (sok_skip rfl rfl rfl) (.cons (sok_skip rfl rfl rfl) (.cons (sok_pickF (rs := [(36, .p .bool false)]) rfl rfl (.tmp (.head _)) rfl (.bool _ _)) (.cons (sok_move (rs := [(40, .p .bool false)]) rfl (.inl rfl) (.tmp (.head _))) (.cons (sok_skip rfl rfl rfl) (.cons (sok_skip rfl rfl rfl) (.cons (sok_skip rfl rfl rfl) (.cons (sok_pickF (rs := [(41, .p .bool false)]) rfl rfl (.tmp (.head _)) rfl (.bool _ _)) (.cons (sok_move (rs := [(45, .p .bool false)]) rfl (.inr rfl) (.tmp (.head _))) .nil))))))))))))))))))))) (by kernel_rfl) (by kernel_rfl) (by kernel_rfl) (Conv.refl _) ?_
        refine thenQ_normal ?_
        refine WpC.ret ?_
        have hq := Option.some.inj h
        subst hq
        exact ends_ret (retV_1 rfl (.head _)) (by simp)

theorem millwrightref01_Base.ok (O : Out) (k : Nat) (a0 : List UInt8) (out : Int) (h : millwrightref01_Base.f k a0 = some out) : COk Un O Try.prog 12 { ar := [.p .str a0], r := .p (.int .i64) out } := by
  refine cok_of_wp Try.func12 rfl (k := 17) rfl (Nat.le_of_ble_eq_true rfl) (namesOk_pure rfl rfl rfl rfl) ?_
  intro B hN
  refine WpC.conv (Conv.keep (b := ⟨[(0, .p .str a0)], []⟩) [0] [] (by kernel_rfl)) ?_
  unfold millwrightref01_Base.f at h
  refine WpC.seq ?_
  refine WpC.reg (st1 := ⟨[(0, .p .str a0)], []⟩) [0] [] hN (.cons (sok_move (rs := []) rfl (.inr rfl) (.int _ _ _)) .nil) (by kernel_rfl) (by kernel_rfl) (by kernel_rfl) (Conv.refl _) ?_
  refine thenQ_normal ?_
  refine WpC.seqJ (fun st' => millwrightref01_Base.j1 k = some out ∧ st' = ⟨[], []⟩) ?_ ?_
  · refine WpC.seq ?_
    refine WpC.reg (st1 := ⟨[(0, .p .str a0), (3, .p (.int .i64) ((IntKind.i64.wrap ((a0.length : Int) - 1)) : Int))], []⟩) [0, 3] [] hN (.cons (sok_move (rs := [(0, .p .str a0)]) rfl (.inl rfl) (.tmp (.head _))) (.cons (sok_lenS (rs := [(4, .p .str a0)]) rfl rfl Try.underlying9 (.tmp (.head _))) (.cons (sok_arith (rs := [(5, .p (.int .i64) ((a0.length : Int) : Int))]) rfl rfl (.tmp (.head _)) (.int _ _ _) rfl) (.cons (sok_move (rs := [(6, .p (.int .i64) ((IntKind.i64.wrap ((a0.length : Int) - 1)) : Int))]) rfl (.inr rfl) (.tmp (.head _))) .nil)))) (by kernel_rfl) (by kernel_rfl) (by kernel_rfl) (Conv.refl _) ?_
    refine thenQ_normal ?_
    refine WpC.block ?_
    obtain ⟨o4, hlo4, h⟩ := bind_some h
    have hout5 := h
    clear h
    refine WpC.loop (fun n st' => ∃ v2 : Int, millwrightref01_Base.l3 k a0 n v2 = some o4 ∧ st' = ⟨[(0, .p .str a0), (3, .p (.int .i64) v2)], []⟩) k ⟨(IntKind.i64.wrap ((a0.length : Int) - 1)), hlo4, rfl⟩ ?_
    clear hlo4
    rintro (_ | n) _ ⟨v2, h, rfl⟩
    · cases h
    · rw [millwrightref01_Base.l3] at h
      refine WpC.seq ?_
      refine WpC.seq ?_
      refine WpC.reg (st1 := ⟨[(0, .p .str a0), (3, .p (.int .i64) v2), (8, .p .bool ((decide (v2 ≥ 0)) : Bool))], []⟩) [0, 3, 8] [] hN (.cons (sok_move (rs := [(3, .p (.int .i64) v2)]) rfl (.inl rfl) (.tmp (.head _))) (.cons (sok_cmp (rs := [(7, .p (.int .i64) v2)]) rfl rfl (.tmp (.head _)) (.int _ _ _) rfl) .nil)) (by kernel_rfl) (by kernel_rfl) (by kernel_rfl) (Conv.refl _) ?_
      refine thenQ_normal ?_
      refine WpC.cond (b := (decide (v2 ≥ 0))) (.tmp (.tail _ (.tail _ (.head _)))) (fun hc6 => ?_) (fun hc6 => ?_)
      · replace h := ite_t hc6 h
        refine WpC.conv (Conv.keep (b := ⟨[(0, .p .str a0), (3, .p (.int .i64) v2)], []⟩) [0, 3] [] (by kernel_rfl)) (WpC.skip ?_)
        refine thenQ_normal ?_
        refine WpC.seq ?_
        refine WpC.block ?_
        refine WpC.seq ?_
        obtain ⟨v7, hv7, h⟩ := bind_some h
        refine WpC.reg (st1 := ⟨[(0, .p .str a0), (3, .p (.int .i64) v2), (14, .p .bool (((v7.toNat : Int) == 47) : Bool))], []⟩) [0, 3, 14] [] hN (.cons (sok_move (rs := [(0, .p .str a0)]) rfl (.inl rfl) (.tmp (.head _))) (.cons (sok_move (rs := [(3, .p (.int .i64) v2)]) rfl (.inl rfl) (.tmp (.head _))) (.cons (sok_indexS (rs := [(11, .p .str a0), (12, .p (.int .i64) v2)]) rfl rfl Try.underlying9 (.tmp (.head _)) (.tmp (.tail _ (.head _))) hv7) (.cons (sok_cmp (rs := [(13, .p (.int .u8) ((v7.toNat : Int) : Int))]) rfl rfl (.tmp (.head _)) (.int _ _ _) rfl) .nil)))) (by kernel_rfl) (by kernel_rfl) (by kernel_rfl) (Conv.refl _) ?_
        refine thenQ_normal ?_
        refine WpC.cond (b := ((v7.toNat : Int) == 47)) (.tmp (.tail _ (.tail _ (.head _)))) (fun hc8 => ?_) (fun hc8 => ?_)
        · replace h := ite_t hc8 h
          refine WpC.seq ?_
          refine WpC.reg (st1 := ⟨[(2, .p (.int .i64) ((IntKind.i64.wrap (v2 + 1)) : Int))], []⟩) [2] [] hN (.cons (sok_move (rs := [(3, .p (.int .i64) v2)]) rfl (.inl rfl) (.tmp (.head _))) (.cons (sok_arith (rs := [(15, .p (.int .i64) v2)]) rfl rfl (.tmp (.head _)) (.int _ _ _) rfl) (.cons (sok_move (rs := [(16, .p (.int .i64) ((IntKind.i64.wrap (v2 + 1)) : Int))]) rfl (.inr rfl) (.tmp (.head _))) .nil))) (by kernel_rfl) (by kernel_rfl) (by kernel_rfl) (Conv.refl _) ?_
          refine thenQ_normal ?_
          refine WpC.ret ?_
          refine blockQ_ret ?_
          refine thenQ_ret ?_
          have hq := Option.some.inj h
          subst hq
          refine thenQ_ret ?_
          have h := hout5
          refine blockQ_ret ?_
          refine thenQ_ret ?_
          have hq := Option.some.inj h
          subst hq
          exact ends_ret (retV_1 rfl (.head _)) (by simp)
        · replace h := ite_f hc8 h
          refine WpC.conv (Conv.keep (b := ⟨[(0, .p .str a0), (3, .p (.int .i64) v2)], []⟩) [0, 3] [] (by kernel_rfl)) (WpC.skip ?_)
          refine blockQ_normal ?_
          refine thenQ_normal ?_
          refine WpC.reg (st1 := ⟨[(0, .p .str a0), (3, .p (.int .i64) ((IntKind.i64.wrap (v2 - 1)) : Int))], []⟩) [0, 3] [] hN (.cons (sok_move (rs := [(3, .p (.int .i64) v2)]) rfl (.inl rfl) (.tmp (.head _))) (.cons (sok_arith (rs := [(9, .p (.int .i64) v2)]) rfl rfl (.tmp (.head _)) (.int _ _ _) rfl) (.cons (sok_move (rs := [(10, .p (.int .i64) ((IntKind.i64.wrap (v2 - 1)) : Int))]) rfl (.inr rfl) (.tmp (.head _))) .nil))) (by kernel_rfl) (by kernel_rfl) (by kernel_rfl) (Conv.refl _) ?_
          refine thenQ_normal ?_
          exact ⟨n, Nat.lt_succ_self n, (IntKind.i64.wrap (v2 - 1)), h, rfl⟩
      · replace h := ite_f hc6 h
        refine WpC.conv (Conv.keep (b := ⟨[], []⟩) [] [] (by kernel_rfl)) (WpC.exit ?_)
        refine thenQ_exit ?_
        have hq := Option.some.inj h
        subst hq
        refine thenQ_exit ?_
        have h := hout5
        refine blockQ_hit ?_
        refine thenQ_normal ?_
        exact ⟨h, rfl⟩
  · rintro _ ⟨h, rfl⟩
    unfold millwrightref01_Base.j1 at h
    refine WpC.seq ?_
    refine WpC.reg (st1 := ⟨[(2, .p (.int .i64) (0 : Int))], []⟩) [2] [] hN (.cons (sok_move (rs := []) rfl (.inr rfl) (.int _ _ _)) .nil) (by kernel_rfl) (by kernel_rfl) (by kernel_rfl) (Conv.refl _) ?_
    refine thenQ_normal ?_
    refine WpC.ret ?_
    have hq := Option.some.inj h
    subst hq
    exact ends_ret (retV_1 rfl (.head _)) (by simp)

theorem names_Dir.ok (O : Out) (k : Nat) (a0 : List UInt8) (out : List UInt8) (h : names_Dir.f k a0 = some out) : COk Un O Try.prog 13 { ar := [.p .str a0], r := .p .str out } := by
  refine cok_of_wp Try.func13 rfl (k := 7) rfl (Nat.le_of_ble_eq_true rfl) (namesOk_pure rfl rfl rfl rfl) ?_
  intro B hN
  refine WpC.conv (Conv.keep (b := ⟨[(0, .p .str a0)], []⟩) [0] [] (by kernel_rfl)) ?_
  unfold names_Dir.f at h
  refine WpC.seq ?_
  refine WpC.reg (st1 := ⟨[(0, .p .str a0)], []⟩) [0] [] hN (.cons (sok_move (rs := []) rfl (.inr rfl) (.str _ _)) .nil) (by kernel_rfl) (by kernel_rfl) (by kernel_rfl) (Conv.refl _) ?_
  refine thenQ_normal ?_
  refine WpC.seq ?_
  obtain ⟨v1, hv1, h⟩ := bind_some h
  obtain ⟨v2, hv2, h⟩ := bind_some h
  refine WpC.reg (st1 := ⟨[(2, .p .str v2)], []⟩) [2] [] hN (.cons (sok_move (rs := [(0, .p .str a0)]) rfl (.inl rfl) (.tmp (.head _))) (.cons (sok_move (rs := [(0, .p .str a0)]) rfl (.inl rfl) (.tmp (.head _))) (.cons (sok_call (rs := [(4, .p .str a0)]) (vw := []) rfl rfl hb_35 (names_cut.ok O k a0 v1 hv1) (.cons (.tmp (.head _)) .nil) (.cons (.same _) .nil) (by simp) (.inl rfl)) (.cons (sok_sliceS (rs := [(3, .p .str a0), (5, .p (.int .i64) v1)]) rfl rfl Try.underlying9 (.tmp (.head _)) .no (.at (.tmp (.tail _ (.head _)))) hv2) (.cons (sok_move (rs := [(6, .p .str v2)]) rfl (.inr rfl) (.tmp (.head _))) .nil))))) (by kernel_rfl) (by kernel_rfl) (by kernel_rfl) (Conv.refl _) ?_
  refine thenQ_normal ?_
  refine WpC.ret ?_
  have hq := Option.some.inj h
  subst hq
  exact ends_ret (retV_1 rfl (.head _)) (by simp)

theorem millwrightref01_Suffix.ok (O : Out) (k : Nat) (a0 : List UInt8) (out : List UInt8) (h : millwrightref01_Suffix.f k a0 = some out) : COk Un O Try.prog 16 { ar := [.p .str a0], r := .p .str out } := by
  refine cok_of_wp Try.func16 rfl (k := 20) rfl (Nat.le_of_ble_eq_true rfl) (namesOk_pure rfl rfl rfl rfl) ?_
  intro B hN
  refine WpC.conv (Conv.keep (b := ⟨[(0, .p .str a0)], []⟩) [0] [] (by kernel_rfl)) ?_
  unfold millwrightref01_Suffix.f at h
  refine WpC.seq ?_
  refine WpC.reg (st1 := ⟨[(0, .p .str a0)], []⟩) [0] [] hN (.cons (sok_move (rs := []) rfl (.inr rfl) (.str _ _)) .nil) (by kernel_rfl) (by kernel_rfl) (by kernel_rfl) (Conv.refl _) ?_
  refine thenQ_normal ?_
  refine WpC.seqJ (fun st' => millwrightref01_Suffix.j1 k = some out ∧ st' = ⟨[], []⟩) ?_ ?_
  · refine WpC.seq ?_
    refine WpC.reg (st1 := ⟨[(0, .p .str a0), (3, .p (.int .i64) ((IntKind.i64.wrap ((a0.length : Int) - 1)) : Int))], []⟩) [0, 3] [] hN (.cons (sok_move (rs := [(0, .p .str a0)]) rfl (.inl rfl) (.tmp (.head _))) (.cons (sok_lenS (rs := [(4, .p .str a0)]) rfl rfl Try.underlying9 (.tmp (.head _))) (.cons (sok_arith (rs := [(5, .p (.int .i64) ((a0.length : Int) : Int))]) rfl rfl (.tmp (.head _)) (.int _ _ _) rfl) (.cons (sok_move (rs := [(6, .p (.int .i64) ((IntKind.i64.wrap ((a0.length : Int) - 1)) : Int))]) rfl (.inr rfl) (.tmp (.head _))) .nil)))) (by kernel_rfl) (by kernel_rfl) (by kernel_rfl) (Conv.refl _) ?_
    refine thenQ_normal ?_
    refine WpC.block ?_
    obtain ⟨o4, hlo4, h⟩ := bind_some h
    have hout5 := h
    clear h
    refine WpC.loop (fun n st' => ∃ v2 : Int, millwrightref01_Suffix.l3 k a0 n v2 = some o4 ∧ st' = ⟨[(0, .p .str a0), (3, .p (.int .i64) v2)], []⟩) k ⟨(IntKind.i64.wrap ((a0.length : Int) - 1)), hlo4, rfl⟩ ?_
    clear hlo4
    rintro (_ | n) _ ⟨v2, h, rfl⟩
    · cases h
    · rw [millwrightref01_Suffix.l3] at h
      refine WpC.seq ?_
      refine WpC.seq ?_
      obtain ⟨v6, hv6, h⟩ := bind_some h
      refine WpC.reg (st1 := ⟨[(0, .p .str a0), (3, .p (.int .i64) v2), (10, .p .bool ((decide (v2 > v6)) : Bool))], []⟩) [0, 3, 10] [] hN (.cons (sok_move (rs := [(3, .p (.int .i64) v2)]) rfl (.inl rfl) (.tmp (.head _))) (.cons (sok_move (rs := [(0, .p .str a0)]) rfl (.inl rfl) (.tmp (.head _))) (.cons (sok_call (rs := [(8, .p .str a0)]) (vw := []) rfl rfl hb_12 (millwrightref01_Base.ok O k a0 v6 hv6) (.cons (.tmp (.head _)) .nil) (.cons (.same _) .nil) (by simp) (.inl rfl)) (.cons (sok_cmp (rs := [(7, .p (.int .i64) v2), (9, .p (.int .i64) v6)]) rfl rfl (.tmp (.head _)) (.tmp (.tail _ (.head _))) rfl) .nil)))) (by kernel_rfl) (by kernel_rfl) (by kernel_rfl) (Conv.refl _) ?_
      refine thenQ_normal ?_
      refine WpC.cond (b := (decide (v2 > v6))) (.tmp (.tail _ (.tail _ (.head _)))) (fun hc7 => ?_) (fun hc7 => ?_)
      · replace h := ite_t hc7 h
        refine WpC.conv (Conv.keep (b := ⟨[(0, .p .str a0), (3, .p (.int .i64) v2)], []⟩) [0, 3] [] (by kernel_rfl)) (WpC.skip ?_)
        refine thenQ_normal ?_
        refine WpC.seq ?_
        refine WpC.block ?_
        refine WpC.seq ?_
        obtain ⟨v8, hv8, h⟩ := bind_some h
        refine WpC.reg (st1 := ⟨[(0, .p .str a0), (3, .p (.int .i64) v2), (16, .p .bool (((v8.toNat : Int) == 46) : Bool))], []⟩) [0, 3, 16] [] hN (.cons (sok_move (rs := [(0, .p .str a0)]) rfl (.inl rfl) (.tmp (.head _))) (.cons (sok_move (rs := [(3, .p (.int .i64) v2)]) rfl (.inl rfl) (.tmp (.head _))) (.cons (sok_indexS (rs := [(13, .p .str a0), (14, .p (.int .i64) v2)]) rfl rfl Try.underlying9 (.tmp (.head _)) (.tmp (.tail _ (.head _))) hv8) (.cons (sok_cmp (rs := [(15, .p (.int .u8) ((v8.toNat : Int) : Int))]) rfl rfl (.tmp (.head _)) (.int _ _ _) rfl) .nil)))) (by kernel_rfl) (by kernel_rfl) (by kernel_rfl) (Conv.refl _) ?_
        refine thenQ_normal ?_
        refine WpC.cond (b := ((v8.toNat : Int) == 46)) (.tmp (.tail _ (.tail _ (.head _)))) (fun hc9 => ?_) (fun hc9 => ?_)
        · replace h := ite_t hc9 h
          refine WpC.seq ?_
          obtain ⟨v10, hv10, h⟩ := bind_some h
          refine WpC.reg (st1 := ⟨[(2, .p .str v10)], []⟩) [2] [] hN (.cons (sok_move (rs := [(0, .p .str a0)]) rfl (.inl rfl) (.tmp (.head _))) (.cons (sok_move (rs := [(3, .p (.int .i64) v2)]) rfl (.inl rfl) (.tmp (.head _))) (.cons (sok_sliceS (rs := [(17, .p .str a0), (18, .p (.int .i64) v2)]) rfl rfl Try.underlying9 (.tmp (.head _)) (.at (.tmp (.tail _ (.head _)))) .no hv10) (.cons (sok_move (rs := [(19, .p .str v10)]) rfl (.inr rfl) (.tmp (.head _))) .nil)))) (by kernel_rfl) (by kernel_rfl) (by kernel_rfl) (Conv.refl _) ?_
          refine thenQ_normal ?_
          refine WpC.ret ?_
          refine blockQ_ret ?_
          refine thenQ_ret ?_
          have hq := Option.some.inj h
          subst hq
          refine thenQ_ret ?_
          have h := hout5
          refine blockQ_ret ?_
          refine thenQ_ret ?_
          have hq := Option.some.inj h
          subst hq
          exact ends_ret (retV_1 rfl (.head _)) (by simp)
        · replace h := ite_f hc9 h
          refine WpC.conv (Conv.keep (b := ⟨[(0, .p .str a0), (3, .p (.int .i64) v2)], []⟩) [0, 3] [] (by kernel_rfl)) (WpC.skip ?_)
          refine blockQ_normal ?_
          refine thenQ_normal ?_
          refine WpC.reg (st1 := ⟨[(0, .p .str a0), (3, .p (.int .i64) ((IntKind.i64.wrap (v2 - 1)) : Int))], []⟩) [0, 3] [] hN (.cons (sok_move (rs := [(3, .p (.int .i64) v2)]) rfl (.inl rfl) (.tmp (.head _))) (.cons (sok_arith (rs := [(11, .p (.int .i64) v2)]) rfl rfl (.tmp (.head _)) (.int _ _ _) rfl) (.cons (sok_move (rs := [(12, .p (.int .i64) ((IntKind.i64.wrap (v2 - 1)) : Int))]) rfl (.inr rfl) (.tmp (.head _))) .nil))) (by kernel_rfl) (by kernel_rfl) (by kernel_rfl) (Conv.refl _) ?_
          refine thenQ_normal ?_
          exact ⟨n, Nat.lt_succ_self n, (IntKind.i64.wrap (v2 - 1)), h, rfl⟩
      · replace h := ite_f hc7 h
        refine WpC.conv (Conv.keep (b := ⟨[], []⟩) [] [] (by kernel_rfl)) (WpC.exit ?_)
        refine thenQ_exit ?_
        have hq := Option.some.inj h
        subst hq
        refine thenQ_exit ?_
        have h := hout5
        refine blockQ_hit ?_
        refine thenQ_normal ?_
        exact ⟨h, rfl⟩
  · rintro _ ⟨h, rfl⟩
    unfold millwrightref01_Suffix.j1 at h
    refine WpC.seq ?_
    refine WpC.reg (st1 := ⟨[(2, .p .str (([] : List UInt8) : List UInt8))], []⟩) [2] [] hN (.cons (sok_move (rs := []) rfl (.inr rfl) (.str _ _)) .nil) (by kernel_rfl) (by kernel_rfl) (by kernel_rfl) (Conv.refl _) ?_
    refine thenQ_normal ?_
    refine WpC.ret ?_
    have hq := Option.some.inj h
    subst hq
    exact ends_ret (retV_1 rfl (.head _)) (by simp)

theorem millwrightlaw01_NamesParts.ok (O : Out) (k : Nat) (a0 : List UInt8) (out : Bool) (h : millwrightlaw01_NamesParts.f k a0 = some out) : COk Un O Try.prog 4 { ar := [.p .str a0], r := .p .bool out } := by
  refine cok_of_wp Try.func4 rfl (k := 32) rfl (Nat.le_of_ble_eq_true rfl) (namesOk_pure rfl rfl rfl rfl) ?_
  intro B hN
  refine WpC.conv (Conv.keep (b := ⟨[(0, .p .str a0)], []⟩) [0] [] (by kernel_rfl)) ?_
  unfold millwrightlaw01_NamesParts.f at h
  refine WpC.seq ?_
  refine WpC.reg (st1 := ⟨[(0, .p .str a0)], []⟩) [0] [] hN (.cons (sok_move (rs := []) rfl (.inr rfl) (.bool _ _)) .nil) (by kernel_rfl) (by kernel_rfl) (by kernel_rfl) (Conv.refl _) ?_
  refine thenQ_normal ?_
  refine WpC.seq ?_
  refine WpC.seq ?_
  obtain ⟨v1, hv1, h⟩ := bind_some h
  refine WpC.reg (st1 := ⟨[(0, .p .str a0), (5, .p .bool ((!v1) : Bool))], []⟩) [0, 5] [] hN (.cons (sok_call (rs := []) (vw := []) rfl rfl hb_7 (millwrightlaw01_alive.ok O k  v1 hv1) .nil .nil (by simp) (.inl rfl)) (.cons (sok_not (rs := [(4, .p .bool v1)]) rfl rfl (.tmp (.head _))) .nil)) (by kernel_rfl) (by kernel_rfl) (by kernel_rfl) (Conv.refl _) ?_
  refine thenQ_normal ?_
  refine WpC.cond (b := (!v1)) (.tmp (.tail _ (.head _))) (fun hc2 => ?_) (fun hc2 => ?_)
  · replace h := ite_t hc2 h
    refine WpC.seq ?_
    refine WpC.reg (st1 := ⟨[(2, .p .bool false)], []⟩) [2] [] hN (.cons (sok_move (rs := []) rfl (.inr rfl) (.bool _ _)) .nil) (by kernel_rfl) (by kernel_rfl) (by kernel_rfl) (Conv.refl _) ?_
    refine thenQ_normal ?_
    refine WpC.ret ?_
    refine thenQ_ret ?_
    have hq := Option.some.inj h
    subst hq
    exact ends_ret (retV_1 rfl (.head _)) (by simp)
  · replace h := ite_f hc2 h
    refine WpC.conv (Conv.keep (b := ⟨[(0, .p .str a0)], []⟩) [0] [] (by kernel_rfl)) (WpC.skip ?_)
    refine thenQ_normal ?_
    refine WpC.seq ?_
    refine WpC.seq ?_
    refine WpC.reg (st1 := ⟨[(0, .p .str a0), (8, .p .bool ((decide ((a0.length : Int) > 300)) : Bool))], []⟩) [0, 8] [] hN (.cons (sok_move (rs := [(0, .p .str a0)]) rfl (.inl rfl) (.tmp (.head _))) (.cons (sok_lenS (rs := [(6, .p .str a0)]) rfl rfl Try.underlying9 (.tmp (.head _))) (.cons (sok_cmp (rs := [(7, .p (.int .i64) ((a0.length : Int) : Int))]) rfl rfl (.tmp (.head _)) (.int _ _ _) rfl) .nil))) (by kernel_rfl) (by kernel_rfl) (by kernel_rfl) (Conv.refl _) ?_
    refine thenQ_normal ?_
    refine WpC.cond (b := (decide ((a0.length : Int) > 300))) (.tmp (.tail _ (.head _))) (fun hc3 => ?_) (fun hc3 => ?_)
    · replace h := ite_t hc3 h
      refine WpC.seq ?_
      refine WpC.reg (st1 := ⟨[(2, .p .bool true)], []⟩) [2] [] hN (.cons (sok_move (rs := []) rfl (.inr rfl) (.bool _ _)) .nil) (by kernel_rfl) (by kernel_rfl) (by kernel_rfl) (Conv.refl _) ?_
      refine thenQ_normal ?_
      refine WpC.ret ?_
      refine thenQ_ret ?_
      have hq := Option.some.inj h
      subst hq
      exact ends_ret (retV_1 rfl (.head _)) (by simp)
    · replace h := ite_f hc3 h
      refine WpC.conv (Conv.keep (b := ⟨[(0, .p .str a0)], []⟩) [0] [] (by kernel_rfl)) (WpC.skip ?_)
      refine thenQ_normal ?_
      refine WpC.seq ?_
      obtain ⟨v4, hv4, h⟩ := bind_some h
      refine WpC.reg (st1 := ⟨[(0, .p .str a0), (3, .p (.int .i64) v4)], []⟩) [0, 3] [] hN (.cons (sok_move (rs := [(0, .p .str a0)]) rfl (.inl rfl) (.tmp (.head _))) (.cons (sok_call (rs := [(9, .p .str a0)]) (vw := []) rfl rfl hb_12 (millwrightref01_Base.ok O k a0 v4 hv4) (.cons (.tmp (.head _)) .nil) (.cons (.same _) .nil) (by simp) (.inl rfl)) (.cons (sok_move (rs := [(10, .p (.int .i64) v4)]) rfl (.inr rfl) (.tmp (.head _))) .nil))) (by kernel_rfl) (by kernel_rfl) (by kernel_rfl) (Conv.refl _) ?_
      refine thenQ_normal ?_
      refine WpC.seq ?_
      obtain ⟨v5, hv5, h⟩ := bind_some h
      obtain ⟨v6, hv6, h⟩ := bind_some h
      rcases bool_cases (v5 == v6) with hc7 | hc7
      · replace h := ite_t hc7 h
        obtain ⟨v8, hv8, h⟩ := bind_some h
        obtain ⟨v9, hv9, h⟩ := bind_some h
        rcases bool_cases (v8 == v9) with hc10 | hc10
        · replace h := ite_t hc10 h
          obtain ⟨v11, hv11, h⟩ := bind_some h
          obtain ⟨v12, hv12, h⟩ := bind_some h
          refine WpC.regA (st1 := ⟨[(2, .p .bool ((v11 == v12) : Bool))], []⟩) [2] [] [[], [0], [], [], [2, 3], [0, 1, 2, 3, 4], [0, 1, 2, 3, 4, 5], [0, 1, 2, 3, 4, 5, 6], [0, 1, 2, 3, 4, 5, 6, 7], [0, 1, 2, 3, 4, 5, 6], [0, 1, 2, 3, 4, 5, 6], [0, 1, 2, 3, 4, 5, 6, 9, 10], [0, 1, 2, 3, 4, 5, 6, 7, 8, 9, 10, 11], [0, 1, 2, 3, 4, 5, 6, 7, 8, 9, 10, 11, 12], [0, 1, 2, 3, 4, 5, 6, 7, 8, 9, 10, 11, 12, 13], [0, 1, 2, 3, 4, 5, 6, 7, 8, 9, 10, 11, 12, 13, 14], [0, 1, 2, 3, 4, 5, 6, 7, 8, 9, 10, 11, 12, 13, 14, 15], [0, 1, 2, 3, 4, 5, 6, 7, 8, 9, 10, 11, 12, 13, 14], [0, 1, 2, 3, 4, 5, 6, 7, 8, 9, 10, 11, 12, 13, 14, 15, 16, 17], [0, 1, 2, 3, 4, 5, 6, 7, 8, 9, 10, 11, 12, 13, 14, 15, 16, 17, 18], [0, 1, 2, 3, 4, 5, 6, 7, 8, 9, 10, 11, 12, 13, 14, 15, 16, 17, 18, 19], [0, 1, 2, 3, 4, 5, 6, 7, 8, 9, 10, 11, 12, 13, 14, 15, 16, 17, 18, 19, 20]] mixed hN (.cons (sok_move (rs := [(0, .p .str a0)]) rfl (.inl rfl) (.tmp (.head _))) (.cons (sok_call (rs := [(11, .p .str a0)]) (vw := []) rfl rfl hb_13 (names_Dir.ok O k a0 v5 hv5) (.cons (.tmp (.head _)) .nil) (.cons (.same _) .nil) (by simp) (.inl rfl)) (.cons (sok_move (rs := [(0, .p .str a0)]) rfl (.inl rfl) (.tmp (.head _))) (.cons (sok_move (rs := [(3, .p (.int .i64) v4)]) rfl (.inl rfl) (.tmp (.head _))) (.cons (sok_sliceS (rs := [(13, .p .str a0), (14, .p (.int .i64) v4)]) rfl rfl Try.underlying9 (.tmp (.head _)) .no (.at (.tmp (.tail _ (.head _)))) hv6) (.cons (sok_cmpS (rs := [(12, .p .str v5), (15, .p .str v6)]) rfl rfl (.tmp (.head _)) (.tmp (.tail _ (.head _))) rfl) (.cons (sok_move (rs := [(16, .p .bool ((v5 == v6) : Bool))]) rfl (.inl rfl) (.tmp (.head _))) (.cons (sok_run rfl rfl hc7 (sok_move (rs := [(0, .p .str a0)]) rfl (.inl rfl) (.tmp (.head _)))) (.cons (sok_run rfl rfl hc7 (sok_call (rs := [(18, .p .str a0)]) (vw := []) rfl rfl hb_14 (names_Base.ok O k a0 v8 hv8) (.cons (.tmp (.head _)) .nil) (.cons (.same _) .nil) (by simp) (.inl rfl))) (.cons (sok_run rfl rfl hc7 (sok_move (rs := [(0, .p .str a0)]) rfl (.inl rfl) (.tmp (.head _)))) (.cons (sok_run rfl rfl hc7 (sok_move (rs := [(3, .p (.int .i64) v4)]) rfl (.inl rfl) (.tmp (.head _)))) (.cons (sok_run rfl rfl hc7 (sok_sliceS (rs := [(20, .p .str a0), (21, .p (.int .i64) v4)]) rfl rfl Try.underlying9 (.tmp (.head _)) (.at (.tmp (.tail _ (.head _)))) .no hv9)) (.cons (sok_run rfl rfl hc7 (sok_cmpS (rs := [(19, .p .str v8), (22, .p .str v9)]) rfl rfl (.tmp (.head _)) (.tmp (.tail _ (.head _))) rfl)) (.cons (sok_pickT (rs := [(17, .p .bool ((v5 == v6) : Bool)), (23, .p .bool ((v8 == v9) : Bool))]) rfl rfl (.tmp (.head _)) hc7 (.tmp (.tail _ (.head _)))) (.cons (sok_move (rs := [(24, .p .bool ((v8 == v9) : Bool))]) rfl (.inl rfl) (.tmp (.head _))) (.cons (sok_run rfl rfl hc10 (sok_move (rs := [(0, .p .str a0)]) rfl (.inl rfl) (.tmp (.head _)))) (.cons (sok_run rfl rfl hc10 (sok_call (rs := [(26, .p .str a0)]) (vw := []) rfl rfl hb_15 (names_Suffix.ok O k a0 v11 hv11) (.cons (.tmp (.head _)) .nil) (.cons (.same _) .nil) (by simp) (.inl rfl))) (.cons (sok_run rfl rfl hc10 (sok_move (rs := [(0, .p .str a0)]) rfl (.inl rfl) (.tmp (.head _)))) (.cons (sok_run rfl rfl hc10 (sok_call (rs := [(28, .p .str a0)]) (vw := []) rfl rfl hb_16 (millwrightref01_Suffix.ok O k a0 v12 hv12) (.cons (.tmp (.head _)) .nil) (.cons (.same _) .nil) (by simp) (.inl rfl))) (.cons (sok_run rfl rfl hc10 (sok_cmpS (rs := [(27, .p .str v11), (29, .p .str v12)]) rfl rfl (.tmp (.head _)) (.tmp (.tail _ (.head _))) rfl)) (.cons (sok_pickT (rs := [(25, .p .bool ((v8 == v9) : Bool)), (30, .p .bool ((v11 == v12) : Bool))]) rfl rfl (.tmp (.head _)) hc10 (.tmp (.tail _ (.head _)))) (.cons (sok_move (rs := [(31, .p .bool ((v11 == v12) : Bool))]) rfl (.inr rfl) (.tmp (.head _))) .nil)))))))))))))))))))))) (by kernel_rfl) (by kernel_rfl) (by kernel_rfl) (by kernel_rfl) (by kernel_rfl) (Conv.refl _) ?_
          refine thenQ_normal ?_
          refine WpC.ret ?_
          have hq := Option.some.inj h
          subst hq
          exact ends_ret (retV_1 rfl (.head _)) (by simp)
        · replace h := ite_f hc10 h
          refine WpC.regA (st1 := ⟨[(2, .p .bool false)], []⟩) [2] [] [[], [0], [], [], [2, 3], [0, 1, 2, 3, 4], [0, 1, 2, 3, 4, 5], [0, 1, 2, 3, 4, 5, 6], [0, 1, 2, 3, 4, 5, 6, 7], [0, 1, 2, 3, 4, 5, 6], [0, 1, 2, 3, 4, 5, 6], [0, 1, 2, 3, 4, 5, 6, 9, 10], [0, 1, 2, 3, 4, 5, 6, 7, 8, 9, 10, 11], [0, 1, 2, 3, 4, 5, 6, 7, 8, 9, 10, 11, 12], [0, 1, 2, 3, 4, 5, 6, 7, 8, 9, 10, 11, 12, 13], [0, 1, 2, 3, 4, 5, 6, 7, 8, 9, 10, 11, 12, 13, 14], [0, 1, 2, 3, 4, 5, 6, 7, 8, 9, 10, 11, 12, 13, 14, 15], [0, 1, 2, 3, 4, 5, 6, 7, 8, 9, 10, 11, 12, 13, 14], [0, 1, 2, 3, 4, 5, 6, 7, 8, 9, 10, 11, 12, 13, 14, 15, 16, 17], [0, 1, 2, 3, 4, 5, 6, 7, 8, 9, 10, 11, 12, 13, 14, 15, 16, 17, 18], [0, 1, 2, 3, 4, 5, 6, 7, 8, 9, 10, 11, 12, 13, 14, 15, 16, 17, 18, 19], [0, 1, 2, 3, 4, 5, 6, 7, 8, 9, 10, 11, 12, 13, 14, 15, 16, 17, 18, 19, 20]] mixed hN (.cons (sok_move (rs := [(0, .p .str a0)]) rfl (.inl rfl) (.tmp (.head _))) (.cons (sok_call (rs := [(11, .p .str a0)]) (vw := []) rfl rfl hb_13 (names_Dir.ok O k a0 v5 hv5) (.cons (.tmp (.head _)) .nil) (.cons (.same _) .nil) (by simp) (.inl rfl)) (.cons (sok_move (rs := [(0, .p .str a0)]) rfl (.inl rfl) (.tmp (.head _))) (.cons (sok_move (rs := [(3, .p (.int .i64) v4)]) rfl (.inl rfl) (.tmp (.head _))) (.cons (sok_sliceS (rs := [(13, .p .str a0), (14, .p (.int .i64) v4)]) rfl rfl Try.underlying9 (.tmp (.head _)) .no (.at (.tmp (.tail _ (.head _)))) hv6) (.cons (sok_cmpS (rs := [(12, .p .str v5), (15, .p .str v6)]) rfl rfl (.tmp (.head _)) (.tmp (.tail _ (.head _))) rfl) (.cons (sok_move (rs := [(16, .p .bool ((v5 == v6) : Bool))]) rfl (.inl rfl) (.tmp (.head _))) (.cons (sok_run rfl rfl hc7 (sok_move (rs := [(0, .p .str a0)]) rfl (.inl rfl) (.tmp (.head _)))) (.cons (sok_run rfl rfl hc7 (sok_call (rs := [(18, .p .str a0)]) (vw := []) rfl rfl hb_14 (names_Base.ok O k a0 v8 hv8) (.cons (.tmp (.head _)) .nil) (.cons (.same _) .nil) (by simp) (.inl rfl))) (.cons (sok_run rfl rfl hc7 (sok_move (rs := [(0, .p .str a0)]) rfl (.inl rfl) (.tmp (.head _)))) (.cons (sok_run rfl rfl hc7 (sok_move (rs := [(3, .p (.int .i64) v4)]) rfl (.inl rfl) (.tmp (.head _)))) (.cons (sok_run rfl rfl hc7 (sok_sliceS (rs := [(20, .p .str a0), (21, .p (.int .i64) v4)]) rfl rfl Try.underlying9 (.tmp (.head _)) (.at (.tmp (.tail _ (.head _)))) .no hv9)) (.cons (sok_run rfl rfl hc7 (sok_cmpS (rs := [(19, .p .str v8), (22, .p .str v9)]) rfl rfl (.tmp (.head _)) (.tmp (.tail _ (.head _))) rfl)) (.cons (sok_pickT (rs := [(17, .p .bool ((v5 == v6) : Bool)), (23, .p .bool ((v8 == v9) : Bool))]) rfl rfl (.tmp (.head _)) hc7 (.tmp (.tail _ (.head _)))) (.cons (sok_move (rs := [(24, .p .bool ((v8 == v9) : Bool))]) rfl (.inl rfl) (.tmp (.head _))) (.cons (sok_skip rfl rfl hc10) (.cons (sok_skip rfl rfl hc10) (.cons (sok_skip rfl rfl hc10) (.cons (sok_skip rfl rfl hc10) (.cons (sok_skip rfl rfl hc10) (.cons (sok_pickF (rs := [(25, .p .bool ((v8 == v9) : Bool))]) rfl rfl (.tmp (.head _)) hc10 (.bool _ _)) (.cons (sok_move (rs := [(31, .p .bool false)]) rfl (.inr rfl) (.tmp (.head _))) .nil)))))))))))))))))))))) (by kernel_rfl) (by kernel_rfl) (by kernel_rfl) (by kernel_rfl) (by kernel_rfl) (Conv.refl _) ?_
          refine thenQ_normal ?_
          refine WpC.ret ?_
          have hq := Option.some.inj h
          subst hq
          exact ends_ret (retV_1 rfl (.head _)) (by simp)
      · replace h := ite_f hc7 h
        refine WpC.regA (st1 := ⟨[(2, .p .bool false)], []⟩) [2] [] [[], [0], [], [], [2, 3], [0, 1, 2, 3, 4], [0, 1, 2, 3, 4, 5], [0, 1, 2, 3, 4, 5, 6], [0, 1, 2, 3, 4, 5, 6, 7], [0, 1, 2, 3, 4, 5, 6], [0, 1, 2, 3, 4, 5, 6], [0, 1, 2, 3, 4, 5, 6, 9, 10], [0, 1, 2, 3, 4, 5, 6, 7, 8, 9, 10, 11], [0, 1, 2, 3, 4, 5, 6, 7, 8, 9, 10, 11, 12], [0, 1, 2, 3, 4, 5, 6, 7, 8, 9, 10, 11, 12, 13], [0, 1, 2, 3, 4, 5, 6, 7, 8, 9, 10, 11, 12, 13, 14], [0, 1, 2, 3, 4, 5, 6, 7, 8, 9, 10, 11, 12, 13, 14, 15], [0, 1, 2, 3, 4, 5, 6, 7, 8, 9, 10, 11, 12, 13, 14], [0, 1, 2, 3, 4, 5, 6, 7, 8, 9, 10, 11, 12, 13, 14, 15, 16, 17], [0, 1, 2, 3, 4, 5, 6, 7, 8, 9, 10, 11, 12, 13, 14, 15, 16, 17, 18], [0, 1, 2, 3, 4, 5, 6, 7, 8, 9, 10, 11, 12, 13, 14, 15, 16, 17, 18, 19], [0, 1, 2, 3, 4, 5, 6, 7, 8, 9, 10, 11, 12, 13, 14, 15, 16, 17, 18, 19, 20]] mixed hN (.cons (sok_move (rs := [(0, .p .str a0)]) rfl (.inl rfl) (.tmp (.head _))) (.cons (sok_call (rs := [(11, .p .str a0)]) (vw := []) rfl rfl hb_13 (names_Dir.ok O k a0 v5 hv5) (.cons (.tmp (.head _)) .nil) (.cons (.same _) .nil) (by simp) (.inl rfl)) (.cons (sok_move (rs := [(0, .p .str a0)]) rfl (.inl rfl) (.tmp (.head _))) (.cons (sok_move (rs := [(3, .p (.int .i64) v4)]) rfl (.inl rfl) (.tmp (.head _))) (.cons (sok_sliceS (rs := [(13, .p .str a0), (14, .p (.int .i64) v4)]) rfl rfl Try.underlying9 (.tmp (.head _)) .no (.at (.tmp (.tail _ (.head _)))) hv6) (.cons (sok_cmpS (rs := [(12, .p .str v5), (15, .p .str v6)]) rfl rfl (.tmp (.head _)) (.tmp (.tail _ (.head _))) rfl) (.cons (sok_move (rs := [(16, .p .bool ((v5 == v6) : Bool))]) rfl (.inl rfl) (.tmp (.head _))) (.cons (sok_skip rfl rfl hc7) (.cons (sok_skip rfl rfl hc7) (.cons (sok_skip rfl rfl hc7) (.cons (sok_skip rfl rfl hc7) (.cons (sok_skip rfl rfl hc7) (.cons (sok_skip rfl rfl hc7) (.cons (sok_pickF (rs := [(17, .p .bool ((v5 == v6) : Bool))]) rfl rfl (.tmp (.head _)) hc7 (.bool _ _)) (.cons (sok_move (rs := [(24, .p .bool false)]) rfl (.inl rfl) (.tmp (.head _))) (.cons (sok_skip rfl rfl rfl) (.cons (sok_skip rfl rfl rfl) (.cons (sok_skip rfl rfl rfl) (.cons (sok_skip rfl rfl rfl) (.cons (sok_skip rfl rfl rfl) (.cons (sok_pickF (rs := [(25, .p .bool false)]) rfl rfl (.tmp (.head _)) rfl (.bool _ _)) (.cons (sok_move (rs := [(31, .p .bool false)]) rfl (.inr rfl) (.tmp (.head _))) .nil)))))))))))))))))))))) (by kernel_rfl) (by kernel_rfl) (by kernel_rfl) (by kernel_rfl) (by kernel_rfl) (Conv.refl _) ?_
        refine thenQ_normal ?_
        refine WpC.ret ?_
        have hq := Option.some.inj h
        subst hq
        exact ends_ret (retV_1 rfl (.head _)) (by simp)

theorem names_Join.ok (O : Out) (k : Nat) (a0 : List UInt8) (a1 : List UInt8) (out : List UInt8) (h : names_Join.f k a0 a1 = some out) : COk Un O Try.prog 17 { ar := [.p .str a0, .p .str a1], r := .p .str out } := by
  refine cok_of_wp Try.func17 rfl (k := 10) rfl (Nat.le_of_ble_eq_true rfl) (namesOk_pure rfl rfl rfl rfl) ?_
  intro B hN
  refine WpC.conv (Conv.keep (b := ⟨[(0, .p .str a0), (1, .p .str a1)], []⟩) [0, 1] [] (by kernel_rfl)) ?_
  unfold names_Join.f at h
  refine WpC.seq ?_
  refine WpC.reg (st1 := ⟨[(0, .p .str a0), (1, .p .str a1)], []⟩) [0, 1] [] hN (.cons (sok_move (rs := []) rfl (.inr rfl) (.str _ _)) .nil) (by kernel_rfl) (by kernel_rfl) (by kernel_rfl) (Conv.refl _) ?_
  refine thenQ_normal ?_
  refine WpC.seq ?_
  obtain ⟨g1, h⟩ := if_some h
  obtain ⟨g2, h⟩ := if_some h
  obtain ⟨g3, h⟩ := if_some h
  refine WpC.reg (st1 := ⟨[(4, .p .str ((((a0 ++ ([40] : List UInt8)) ++ a1) ++ ([41] : List UInt8)) : List UInt8))], []⟩) [4] [] hN (.cons (sok_move (rs := [(0, .p .str a0)]) rfl (.inl rfl) (.tmp (.head _))) (.cons (sok_cat (rs := [(5, .p .str a0)]) rfl rfl (.tmp (.head _)) (.str _ _) g1) (.cons (sok_move (rs := [(1, .p .str a1)]) rfl (.inl rfl) (.tmp (.head _))) (.cons (sok_cat (rs := [(6, .p .str ((a0 ++ ([40] : List UInt8)) : List UInt8)), (7, .p .str a1)]) rfl rfl (.tmp (.head _)) (.tmp (.tail _ (.head _))) g2) (.cons (sok_cat (rs := [(8, .p .str (((a0 ++ ([40] : List UInt8)) ++ a1) : List UInt8))]) rfl rfl (.tmp (.head _)) (.str _ _) g3) (.cons (sok_move (rs := [(9, .p .str ((((a0 ++ ([40] : List UInt8)) ++ a1) ++ ([41] : List UInt8)) : List UInt8))]) rfl (.inr rfl) (.tmp (.head _))) .nil)))))) (by kernel_rfl) (by kernel_rfl) (by kernel_rfl) (Conv.refl _) ?_
  refine thenQ_normal ?_
  refine WpC.ret ?_
  have hq := Option.some.inj h
  subst hq
  exact ends_ret (retV_1 rfl (.head _)) (by simp)

theorem millwrightlaw01_plain.ok (O : Out) (k : Nat) (a0 : List UInt8) (out : Bool) (h : millwrightlaw01_plain.f k a0 = some out) : COk Un O Try.prog 18 { ar := [.p .str a0], r := .p .bool out } := by
  refine cok_of_wp Try.func18 rfl (k := 20) rfl (Nat.le_of_ble_eq_true rfl) (namesOk_pure rfl rfl rfl rfl) ?_
  intro B hN
  refine WpC.conv (Conv.keep (b := ⟨[(0, .p .str a0)], []⟩) [0] [] (by kernel_rfl)) ?_
  unfold millwrightlaw01_plain.f at h
  refine WpC.seq ?_
  refine WpC.reg (st1 := ⟨[(0, .p .str a0)], []⟩) [0] [] hN (.cons (sok_move (rs := []) rfl (.inr rfl) (.bool _ _)) .nil) (by kernel_rfl) (by kernel_rfl) (by kernel_rfl) (Conv.refl _) ?_
  refine thenQ_normal ?_
  refine WpC.seqJ (fun st' => millwrightlaw01_plain.j1 k = some out ∧ st' = ⟨[], []⟩) ?_ ?_
  · refine WpC.seq ?_
    refine WpC.reg (st1 := ⟨[(0, .p .str a0), (3, .p (.int .i64) (0 : Int))], []⟩) [0, 3] [] hN (.cons (sok_move (rs := []) rfl (.inr rfl) (.int _ _ _)) .nil) (by kernel_rfl) (by kernel_rfl) (by kernel_rfl) (Conv.refl _) ?_
    refine thenQ_normal ?_
    refine WpC.block ?_
    obtain ⟨o4, hlo4, h⟩ := bind_some h
    have hout5 := h
    clear h
    refine WpC.loop (fun n st' => ∃ v2 : Int, millwrightlaw01_plain.l3 k a0 n v2 = some o4 ∧ st' = ⟨[(0, .p .str a0), (3, .p (.int .i64) v2)], []⟩) k ⟨0, hlo4, rfl⟩ ?_
    clear hlo4
    rintro (_ | n) _ ⟨v2, h, rfl⟩
    · cases h
    · rw [millwrightlaw01_plain.l3] at h
      refine WpC.seq ?_
      refine WpC.seq ?_
      refine WpC.reg (st1 := ⟨[(0, .p .str a0), (3, .p (.int .i64) v2), (7, .p .bool ((decide (v2 < (a0.length : Int))) : Bool))], []⟩) [0, 3, 7] [] hN (.cons (sok_move (rs := [(3, .p (.int .i64) v2)]) rfl (.inl rfl) (.tmp (.head _))) (.cons (sok_move (rs := [(0, .p .str a0)]) rfl (.inl rfl) (.tmp (.head _))) (.cons (sok_lenS (rs := [(5, .p .str a0)]) rfl rfl Try.underlying9 (.tmp (.head _))) (.cons (sok_cmp (rs := [(4, .p (.int .i64) v2), (6, .p (.int .i64) ((a0.length : Int) : Int))]) rfl rfl (.tmp (.head _)) (.tmp (.tail _ (.head _))) rfl) .nil)))) (by kernel_rfl) (by kernel_rfl) (by kernel_rfl) (Conv.refl _) ?_
      refine thenQ_normal ?_
      refine WpC.cond (b := (decide (v2 < (a0.length : Int)))) (.tmp (.tail _ (.tail _ (.head _)))) (fun hc6 => ?_) (fun hc6 => ?_)
      · replace h := ite_t hc6 h
        refine WpC.conv (Conv.keep (b := ⟨[(0, .p .str a0), (3, .p (.int .i64) v2)], []⟩) [0, 3] [] (by kernel_rfl)) (WpC.skip ?_)
        refine thenQ_normal ?_
        refine WpC.seqJ (fun st' => millwrightlaw01_plain.j7 k (millwrightlaw01_plain.l3 k a0 n) a0 v2 = some o4 ∧ st' = ⟨[(0, .p .str a0), (3, .p (.int .i64) v2)], []⟩) ?_ ?_
        · refine WpC.block ?_
          refine WpC.seqJ (fun st' => ∃ v8 : Bool, millwrightlaw01_plain.j10 k (millwrightlaw01_plain.l3 k a0 n) a0 v2 v8 = some o4 ∧ st' = ⟨[(0, .p .str a0), (3, .p (.int .i64) v2), (19, .p .bool v8)], []⟩) ?_ ?_
          · obtain ⟨v11, hv11, h⟩ := bind_some h
            rcases bool_cases ((v11.toNat : Int) == 40) with hc12 | hc12
            · replace h := ite_t hc12 h
              refine WpC.reg (st1 := ⟨[(0, .p .str a0), (3, .p (.int .i64) v2), (19, .p .bool true)], []⟩) [0, 3, 19] [] hN (.cons (sok_move (rs := [(0, .p .str a0)]) rfl (.inl rfl) (.tmp (.head _))) (.cons (sok_move (rs := [(3, .p (.int .i64) v2)]) rfl (.inl rfl) (.tmp (.head _))) (.cons (sok_indexS (rs := [(10, .p .str a0), (11, .p (.int .i64) v2)]) rfl rfl Try.underlying9 (.tmp (.head _)) (.tmp (.tail _ (.head _))) hv11) (.cons (sok_cmp (rs := [(12, .p (.int .u8) ((v11.toNat : Int) : Int))]) rfl rfl (.tmp (.head _)) (.int _ _ _) rfl) (.cons (sok_move (rs := [(13, .p .bool (((v11.toNat : Int) == 40) : Bool))]) rfl (.inl rfl) (.tmp (.head _))) (.cons (sok_skip rfl rfl hc12) (.cons (sok_skip rfl rfl hc12) (.cons (sok_skip rfl rfl hc12) (.cons (sok_skip rfl rfl hc12) (.cons (sok_pickT (rs := [(14, .p .bool (((v11.toNat : Int) == 40) : Bool))]) rfl rfl (.tmp (.head _)) hc12 (.bool _ _)) .nil)))))))))) (by kernel_rfl) (by kernel_rfl) (by kernel_rfl) (Conv.refl _) ?_
              refine thenQ_normal ?_
              exact ⟨true, h, rfl⟩
            · replace h := ite_f hc12 h
              obtain ⟨v13, hv13, h⟩ := bind_some h
              refine WpC.reg (st1 := ⟨[(0, .p .str a0), (3, .p (.int .i64) v2), (19, .p .bool (((v13.toNat : Int) == 41) : Bool))], []⟩) [0, 3, 19] [] hN (.cons (sok_move (rs := [(0, .p .str a0)]) rfl (.inl rfl) (.tmp (.head _))) (.cons (sok_move (rs := [(3, .p (.int .i64) v2)]) rfl (.inl rfl) (.tmp (.head _))) (.cons (sok_indexS (rs := [(10, .p .str a0), (11, .p (.int .i64) v2)]) rfl rfl Try.underlying9 (.tmp (.head _)) (.tmp (.tail _ (.head _))) hv11) (.cons (sok_cmp (rs := [(12, .p (.int .u8) ((v11.toNat : Int) : Int))]) rfl rfl (.tmp (.head _)) (.int _ _ _) rfl) (.cons (sok_move (rs := [(13, .p .bool (((v11.toNat : Int) == 40) : Bool))]) rfl (.inl rfl) (.tmp (.head _))) (.cons (sok_run rfl rfl hc12 (sok_move (rs := [(0, .p .str a0)]) rfl (.inl rfl) (.tmp (.head _)))) (.cons (sok_run rfl rfl hc12 (sok_move (rs := [(3, .p (.int .i64) v2)]) rfl (.inl rfl) (.tmp (.head _)))) (.cons (sok_run rfl rfl hc12 (sok_indexS (rs := [(15, .p .str a0), (16, .p (.int .i64) v2)]) rfl rfl Try.underlying9 (.tmp (.head _)) (.tmp (.tail _ (.head _))) hv13)) (.cons (sok_run rfl rfl hc12 (sok_cmp (rs := [(17, .p (.int .u8) ((v13.toNat : Int) : Int))]) rfl rfl (.tmp (.head _)) (.int _ _ _) rfl)) (.cons (sok_pickF (rs := [(14, .p .bool (((v11.toNat : Int) == 40) : Bool)), (18, .p .bool (((v13.toNat : Int) == 41) : Bool))]) rfl rfl (.tmp (.head _)) hc12 (.tmp (.tail _ (.head _)))) .nil)))))))))) (by kernel_rfl) (by kernel_rfl) (by kernel_rfl) (Conv.refl _) ?_
              refine thenQ_normal ?_
              exact ⟨((v13.toNat : Int) == 41), h, rfl⟩
          · rintro _ ⟨v8, h, rfl⟩
            unfold millwrightlaw01_plain.j10 at h
            refine WpC.cond (b := v8) (.tmp (.tail _ (.tail _ (.head _)))) (fun hc9 => ?_) (fun hc9 => ?_)
            · replace h := ite_t hc9 h
              refine WpC.seq ?_
              refine WpC.reg (st1 := ⟨[(2, .p .bool false)], []⟩) [2] [] hN (.cons (sok_move (rs := []) rfl (.inr rfl) (.bool _ _)) .nil) (by kernel_rfl) (by kernel_rfl) (by kernel_rfl) (Conv.refl _) ?_
              refine thenQ_normal ?_
              refine WpC.ret ?_
              refine blockQ_ret ?_
              refine thenQ_ret ?_
              have hq := Option.some.inj h
              subst hq
              refine thenQ_ret ?_
              have h := hout5
              refine blockQ_ret ?_
              refine thenQ_ret ?_
              have hq := Option.some.inj h
              subst hq
              exact ends_ret (retV_1 rfl (.head _)) (by simp)
            · replace h := ite_f hc9 h
              refine WpC.conv (Conv.keep (b := ⟨[(0, .p .str a0), (3, .p (.int .i64) v2)], []⟩) [0, 3] [] (by kernel_rfl)) (WpC.skip ?_)
              refine blockQ_normal ?_
              refine thenQ_normal ?_
              exact ⟨h, rfl⟩
        · rintro _ ⟨h, rfl⟩
          unfold millwrightlaw01_plain.j7 at h
          refine WpC.reg (st1 := ⟨[(0, .p .str a0), (3, .p (.int .i64) ((IntKind.i64.wrap (v2 + 1)) : Int))], []⟩) [0, 3] [] hN (.cons (sok_move (rs := [(3, .p (.int .i64) v2)]) rfl (.inl rfl) (.tmp (.head _))) (.cons (sok_arith (rs := [(8, .p (.int .i64) v2)]) rfl rfl (.tmp (.head _)) (.int _ _ _) rfl) (.cons (sok_move (rs := [(9, .p (.int .i64) ((IntKind.i64.wrap (v2 + 1)) : Int))]) rfl (.inr rfl) (.tmp (.head _))) .nil))) (by kernel_rfl) (by kernel_rfl) (by kernel_rfl) (Conv.refl _) ?_
          refine thenQ_normal ?_
          exact ⟨n, Nat.lt_succ_self n, (IntKind.i64.wrap (v2 + 1)), h, rfl⟩
      · replace h := ite_f hc6 h
        refine WpC.conv (Conv.keep (b := ⟨[], []⟩) [] [] (by kernel_rfl)) (WpC.exit ?_)
        refine thenQ_exit ?_
        have hq := Option.some.inj h
        subst hq
        refine thenQ_exit ?_
        have h := hout5
        refine blockQ_hit ?_
        refine thenQ_normal ?_
        exact ⟨h, rfl⟩
  · rintro _ ⟨h, rfl⟩
    unfold millwrightlaw01_plain.j1 at h
    refine WpC.seq ?_
    refine WpC.reg (st1 := ⟨[(2, .p .bool true)], []⟩) [2] [] hN (.cons (sok_move (rs := []) rfl (.inr rfl) (.bool _ _)) .nil) (by kernel_rfl) (by kernel_rfl) (by kernel_rfl) (Conv.refl _) ?_
    refine thenQ_normal ?_
    refine WpC.ret ?_
    have hq := Option.some.inj h
    subst hq
    exact ends_ret (retV_1 rfl (.head _)) (by simp)

theorem millwrightlaw01_NamesJoins.ok (O : Out) (k : Nat) (a0 : List UInt8) (a1 : List UInt8) (a2 : List UInt8) (out : Bool) (h : millwrightlaw01_NamesJoins.f k a0 a1 a2 = some out) : COk Un O Try.prog 5 { ar := [.p .str a0, .p .str a1, .p .str a2], r := .p .bool out } := by
  refine cok_of_wp Try.func5 rfl (k := 94) rfl (Nat.le_of_ble_eq_true rfl) (namesOk_pure rfl rfl rfl rfl) ?_
  intro B hN
  refine WpC.conv (Conv.keep (b := ⟨[(0, .p .str a0), (1, .p .str a1), (2, .p .str a2)], []⟩) [0, 1, 2] [] (by kernel_rfl)) ?_
  unfold millwrightlaw01_NamesJoins.f at h
  refine WpC.seq ?_
  refine WpC.reg (st1 := ⟨[(0, .p .str a0), (1, .p .str a1), (2, .p .str a2)], []⟩) [0, 1, 2] [] hN (.cons (sok_move (rs := []) rfl (.inr rfl) (.bool _ _)) .nil) (by kernel_rfl) (by kernel_rfl) (by kernel_rfl) (Conv.refl _) ?_
  refine thenQ_normal ?_
  refine WpC.seq ?_
  refine WpC.seq ?_
  obtain ⟨v1, hv1, h⟩ := bind_some h
  refine WpC.reg (st1 := ⟨[(0, .p .str a0), (1, .p .str a1), (2, .p .str a2), (14, .p .bool ((!v1) : Bool))], []⟩) [0, 1, 2, 14] [] hN (.cons (sok_call (rs := []) (vw := []) rfl rfl hb_7 (millwrightlaw01_alive.ok O k  v1 hv1) .nil .nil (by simp) (.inl rfl)) (.cons (sok_not (rs := [(13, .p .bool v1)]) rfl rfl (.tmp (.head _))) .nil)) (by kernel_rfl) (by kernel_rfl) (by kernel_rfl) (Conv.refl _) ?_
  refine thenQ_normal ?_
  refine WpC.cond (b := (!v1)) (.tmp (.tail _ (.tail _ (.tail _ (.head _))))) (fun hc2 => ?_) (fun hc2 => ?_)
  · replace h := ite_t hc2 h
    refine WpC.seq ?_
    refine WpC.reg (st1 := ⟨[(6, .p .bool false)], []⟩) [6] [] hN (.cons (sok_move (rs := []) rfl (.inr rfl) (.bool _ _)) .nil) (by kernel_rfl) (by kernel_rfl) (by kernel_rfl) (Conv.refl _) ?_
    refine thenQ_normal ?_
    refine WpC.ret ?_
    refine thenQ_ret ?_
    have hq := Option.some.inj h
    subst hq
    exact ends_ret (retV_1 rfl (.head _)) (by simp)
  · replace h := ite_f hc2 h
    refine WpC.conv (Conv.keep (b := ⟨[(0, .p .str a0), (1, .p .str a1), (2, .p .str a2)], []⟩) [0, 1, 2] [] (by kernel_rfl)) (WpC.skip ?_)
    refine thenQ_normal ?_
    refine WpC.seqJ (fun st' => millwrightlaw01_NamesJoins.j30 k a0 a1 a2 = some out ∧ st' = ⟨[(0, .p .str a0), (1, .p .str a1), (2, .p .str a2)], []⟩) ?_ ?_
    · refine WpC.seqJ (fun st' => ∃ v31 : Bool, millwrightlaw01_NamesJoins.j33 k a0 a1 a2 v31 = some out ∧ st' = ⟨[(0, .p .str a0), (1, .p .str a1), (2, .p .str a2), (27, .p .bool v31)], []⟩) ?_ ?_
      · rcases bool_cases (decide ((a0.length : Int) > 300)) with hc34 | hc34
        · replace h := ite_t hc34 h
          refine WpC.reg (st1 := ⟨[(0, .p .str a0), (1, .p .str a1), (2, .p .str a2), (27, .p .bool true)], []⟩) [0, 1, 2, 27] [] hN (.cons (sok_move (rs := [(0, .p .str a0)]) rfl (.inl rfl) (.tmp (.head _))) (.cons (sok_lenS (rs := [(15, .p .str a0)]) rfl rfl Try.underlying9 (.tmp (.head _))) (.cons (sok_cmp (rs := [(16, .p (.int .i64) ((a0.length : Int) : Int))]) rfl rfl (.tmp (.head _)) (.int _ _ _) rfl) (.cons (sok_move (rs := [(17, .p .bool ((decide ((a0.length : Int) > 300)) : Bool))]) rfl (.inl rfl) (.tmp (.head _))) (.cons (sok_skip rfl rfl hc34) (.cons (sok_skip rfl rfl hc34) (.cons (sok_skip rfl rfl hc34) (.cons (sok_pickT (rs := [(18, .p .bool ((decide ((a0.length : Int) > 300)) : Bool))]) rfl rfl (.tmp (.head _)) hc34 (.bool _ _)) (.cons (sok_move (rs := [(22, .p .bool true)]) rfl (.inl rfl) (.tmp (.head _))) (.cons (sok_skip rfl rfl rfl) (.cons (sok_skip rfl rfl rfl) (.cons (sok_skip rfl rfl rfl) (.cons (sok_pickT (rs := [(23, .p .bool true)]) rfl rfl (.tmp (.head _)) rfl (.bool _ _)) .nil))))))))))))) (by kernel_rfl) (by kernel_rfl) (by kernel_rfl) (Conv.refl _) ?_
          refine thenQ_normal ?_
          exact ⟨true, h, rfl⟩
        · replace h := ite_f hc34 h
          rcases bool_cases (decide ((a1.length : Int) > 100)) with hc35 | hc35
          · replace h := ite_t hc35 h
            refine WpC.reg (st1 := ⟨[(0, .p .str a0), (1, .p .str a1), (2, .p .str a2), (27, .p .bool true)], []⟩) [0, 1, 2, 27] [] hN (.cons (sok_move (rs := [(0, .p .str a0)]) rfl (.inl rfl) (.tmp (.head _))) (.cons (sok_lenS (rs := [(15, .p .str a0)]) rfl rfl Try.underlying9 (.tmp (.head _))) (.cons (sok_cmp (rs := [(16, .p (.int .i64) ((a0.length : Int) : Int))]) rfl rfl (.tmp (.head _)) (.int _ _ _) rfl) (.cons (sok_move (rs := [(17, .p .bool ((decide ((a0.length : Int) > 300)) : Bool))]) rfl (.inl rfl) (.tmp (.head _))) (.cons (sok_run rfl rfl hc34 (sok_move (rs := [(1, .p .str a1)]) rfl (.inl rfl) (.tmp (.head _)))) (.cons (sok_run rfl rfl hc34 (sok_lenS (rs := [(19, .p .str a1)]) rfl rfl Try.underlying9 (.tmp (.head _)))) (.cons (sok_run rfl rfl hc34 (sok_cmp (rs := [(20, .p (.int .i64) ((a1.length : Int) : Int))]) rfl rfl (.tmp (.head _)) (.int _ _ _) rfl)) (.cons (sok_pickF (rs := [(18, .p .bool ((decide ((a0.length : Int) > 300)) : Bool)), (21, .p .bool ((decide ((a1.length : Int) > 100)) : Bool))]) rfl rfl (.tmp (.head _)) hc34 (.tmp (.tail _ (.head _)))) (.cons (sok_move (rs := [(22, .p .bool ((decide ((a1.length : Int) > 100)) : Bool))]) rfl (.inl rfl) (.tmp (.head _))) (.cons (sok_skip rfl rfl hc35) (.cons (sok_skip rfl rfl hc35) (.cons (sok_skip rfl rfl hc35) (.cons (sok_pickT (rs := [(23, .p .bool ((decide ((a1.length : Int) > 100)) : Bool))]) rfl rfl (.tmp (.head _)) hc35 (.bool _ _)) .nil))))))))))))) (by kernel_rfl) (by kernel_rfl) (by kernel_rfl) (Conv.refl _) ?_
            refine thenQ_normal ?_
            exact ⟨true, h, rfl⟩
          · replace h := ite_f hc35 h
            refine WpC.reg (st1 := ⟨[(0, .p .str a0), (1, .p .str a1), (2, .p .str a2), (27, .p .bool ((decide ((a2.length : Int) > 100)) : Bool))], []⟩) [0, 1, 2, 27] [] hN (.cons (sok_move (rs := [(0, .p .str a0)]) rfl (.inl rfl) (.tmp (.head _))) (.cons (sok_lenS (rs := [(15, .p .str a0)]) rfl rfl Try.underlying9 (.tmp (.head _))) (.cons (sok_cmp (rs := [(16, .p (.int .i64) ((a0.length : Int) : Int))]) rfl rfl (.tmp (.head _)) (.int _ _ _) rfl) (.cons (sok_move (rs := [(17, .p .bool ((decide ((a0.length : Int) > 300)) : Bool))]) rfl (.inl rfl) (.tmp (.head _))) (.cons (sok_run rfl rfl hc34 (sok_move (rs := [(1, .p .str a1)]) rfl (.inl rfl) (.tmp (.head _)))) (.cons (sok_run rfl rfl hc34 (sok_lenS (rs := [(19, .p .str a1)]) rfl rfl Try.underlying9 (.tmp (.head _)))) (.cons (sok_run rfl rfl hc34 (sok_cmp (rs := [(20, .p (.int .i64) ((a1.length : Int) : Int))]) rfl rfl (.tmp (.head _)) (.int _ _ _) rfl)) (.cons (sok_pickF (rs := [(18, .p .bool ((decide ((a0.length : Int) > 300)) : Bool)), (21, .p .bool ((decide ((a1.length : Int) > 100)) : Bool))]) rfl rfl (.tmp (.head _)) hc34 (.tmp (.tail _ (.head _)))) (.cons (sok_move (rs := [(22, .p .bool ((decide ((a1.length : Int) > 100)) : Bool))]) rfl (.inl rfl) (.tmp (.head _))) (.cons (sok_run rfl rfl hc35 (sok_move (rs := [(2, .p .str a2)]) rfl (.inl rfl) (.tmp (.head _)))) (.cons (sok_run rfl rfl hc35 (sok_lenS (rs := [(24, .p .str a2)]) rfl rfl Try.underlying9 (.tmp (.head _)))) (.cons (sok_run rfl rfl hc35 (sok_cmp (rs := [(25, .p (.int .i64) ((a2.length : Int) : Int))]) rfl rfl (.tmp (.head _)) (.int _ _ _) rfl)) (.cons (sok_pickF (rs := [(23, .p .bool ((decide ((a1.length : Int) > 100)) : Bool)), (26, .p .bool ((decide ((a2.length : Int) > 100)) : Bool))]) rfl rfl (.tmp (.head _)) hc35 (.tmp (.tail _ (.head _)))) .nil))))))))))))) (by kernel_rfl) (by kernel_rfl) (by kernel_rfl) (Conv.refl _) ?_
            refine thenQ_normal ?_
            exact ⟨(decide ((a2.length : Int) > 100)), h, rfl⟩
      · rintro _ ⟨v31, h, rfl⟩
        unfold millwrightlaw01_NamesJoins.j33 at h
        refine WpC.cond (b := v31) (.tmp (.tail _ (.tail _ (.tail _ (.head _))))) (fun hc32 => ?_) (fun hc32 => ?_)
        · replace h := ite_t hc32 h
          refine WpC.seq ?_
          refine WpC.reg (st1 := ⟨[(6, .p .bool true)], []⟩) [6] [] hN (.cons (sok_move (rs := []) rfl (.inr rfl) (.bool _ _)) .nil) (by kernel_rfl) (by kernel_rfl) (by kernel_rfl) (Conv.refl _) ?_
          refine thenQ_normal ?_
          refine WpC.ret ?_
          refine thenQ_ret ?_
          have hq := Option.some.inj h
          subst hq
          exact ends_ret (retV_1 rfl (.head _)) (by simp)
        · replace h := ite_f hc32 h
          refine WpC.conv (Conv.keep (b := ⟨[(0, .p .str a0), (1, .p .str a1), (2, .p .str a2)], []⟩) [0, 1, 2] [] (by kernel_rfl)) (WpC.skip ?_)
          refine thenQ_normal ?_
          exact ⟨h, rfl⟩
    · rintro _ ⟨h, rfl⟩
      unfold millwrightlaw01_NamesJoins.j30 at h
      refine WpC.seq ?_
      refine WpC.seq ?_
      obtain ⟨v3, hv3, h⟩ := bind_some h
      obtain ⟨v4, hv4, h⟩ := bind_some h
      obtain ⟨g5, h⟩ := if_some h
      refine WpC.reg (st1 := ⟨[(0, .p .str a0), (1, .p .str a1), (2, .p .str a2), (34, .p .bool ((!((v3 ++ v4) == a0)) : Bool))], []⟩) [0, 1, 2, 34] [] hN (.cons (sok_move (rs := [(0, .p .str a0)]) rfl (.inl rfl) (.tmp (.head _))) (.cons (sok_call (rs := [(28, .p .str a0)]) (vw := []) rfl rfl hb_13 (names_Dir.ok O k a0 v3 hv3) (.cons (.tmp (.head _)) .nil) (.cons (.same _) .nil) (by simp) (.inl rfl)) (.cons (sok_move (rs := [(0, .p .str a0)]) rfl (.inl rfl) (.tmp (.head _))) (.cons (sok_call (rs := [(30, .p .str a0)]) (vw := []) rfl rfl hb_14 (names_Base.ok O k a0 v4 hv4) (.cons (.tmp (.head _)) .nil) (.cons (.same _) .nil) (by simp) (.inl rfl)) (.cons (sok_cat (rs := [(29, .p .str v3), (31, .p .str v4)]) rfl rfl (.tmp (.head _)) (.tmp (.tail _ (.head _))) g5) (.cons (sok_move (rs := [(0, .p .str a0)]) rfl (.inl rfl) (.tmp (.head _))) (.cons (sok_cmpS (rs := [(32, .p .str ((v3 ++ v4) : List UInt8)), (33, .p .str a0)]) rfl rfl (.tmp (.head _)) (.tmp (.tail _ (.head _))) rfl) .nil))))))) (by kernel_rfl) (by kernel_rfl) (by kernel_rfl) (Conv.refl _) ?_
      refine thenQ_normal ?_
      refine WpC.cond (b := (!((v3 ++ v4) == a0))) (.tmp (.tail _ (.tail _ (.tail _ (.head _))))) (fun hc6 => ?_) (fun hc6 => ?_)
      · replace h := ite_t hc6 h
        refine WpC.seq ?_
        refine WpC.reg (st1 := ⟨[(6, .p .bool false)], []⟩) [6] [] hN (.cons (sok_move (rs := []) rfl (.inr rfl) (.bool _ _)) .nil) (by kernel_rfl) (by kernel_rfl) (by kernel_rfl) (Conv.refl _) ?_
        refine thenQ_normal ?_
        refine WpC.ret ?_
        refine thenQ_ret ?_
        have hq := Option.some.inj h
        subst hq
        exact ends_ret (retV_1 rfl (.head _)) (by simp)
      · replace h := ite_f hc6 h
        refine WpC.conv (Conv.keep (b := ⟨[(0, .p .str a0), (1, .p .str a1), (2, .p .str a2)], []⟩) [0, 1, 2] [] (by kernel_rfl)) (WpC.skip ?_)
        refine thenQ_normal ?_
        refine WpC.seqJ (fun st' => millwrightlaw01_NamesJoins.j23 k a1 a2 = some out ∧ st' = ⟨[(1, .p .str a1), (2, .p .str a2)], []⟩) ?_ ?_
        · refine WpC.seq ?_
          obtain ⟨v24, hv24, h⟩ := bind_some h
          refine WpC.reg (st1 := ⟨[(0, .p .str a0), (1, .p .str a1), (2, .p .str a2), (7, .p .str v24.1), (8, .p .str v24.2.1), (9, .p .bool v24.2.2)], []⟩) [0, 1, 2, 7, 8, 9] [] hN (.cons (sok_move (rs := [(0, .p .str a0)]) rfl (.inl rfl) (.tmp (.head _))) (.cons (sok_call (rs := [(36, .p .str a0)]) (vw := []) rfl rfl hb_8 (names_Member.ok O k a0 v24 hv24) (.cons (.tmp (.head _)) .nil) (.cons (.same _) .nil) (by simp) (.inl rfl)) (.cons (sok_move (rs := [(37, .tup [.p .str v24.1, .p .str v24.2.1, .p .bool v24.2.2])]) rfl (.inl rfl) (.tmp (.head _))) (.cons (sok_extract (rs := [(35, .tup [.p .str v24.1, .p .str v24.2.1, .p .bool v24.2.2])]) rfl rfl (.tmp (.head _)) rfl) (.cons (sok_extract (rs := [(35, .tup [.p .str v24.1, .p .str v24.2.1, .p .bool v24.2.2])]) rfl rfl (.tmp (.head _)) rfl) (.cons (sok_extract (rs := [(35, .tup [.p .str v24.1, .p .str v24.2.1, .p .bool v24.2.2])]) rfl rfl (.tmp (.head _)) rfl) (.cons (sok_move (rs := [(38, .p .str v24.1)]) rfl (.inr rfl) (.tmp (.head _))) (.cons (sok_move (rs := [(39, .p .str v24.2.1)]) rfl (.inr rfl) (.tmp (.head _))) (.cons (sok_move (rs := [(40, .p .bool v24.2.2)]) rfl (.inr rfl) (.tmp (.head _))) .nil))))))))) (by kernel_rfl) (by kernel_rfl) (by kernel_rfl) (Conv.refl _) ?_
          refine thenQ_normal ?_
          refine WpC.seqJ (fun st' => ∃ v25 : Bool, millwrightlaw01_NamesJoins.j27 k a1 a2 v25 = some out ∧ st' = ⟨[(1, .p .str a1), (2, .p .str a2), (48, .p .bool v25)], []⟩) ?_ ?_
          · rcases bool_cases v24.2.2 with hc28 | hc28
            · replace h := ite_t hc28 h
              obtain ⟨v29, hv29, h⟩ := bind_some h
              refine WpC.reg (st1 := ⟨[(1, .p .str a1), (2, .p .str a2), (48, .p .bool ((!(v29 == a0)) : Bool))], []⟩) [1, 2, 48] [] hN (.cons (sok_move (rs := [(9, .p .bool v24.2.2)]) rfl (.inl rfl) (.tmp (.head _))) (.cons (sok_move (rs := [(41, .p .bool v24.2.2)]) rfl (.inl rfl) (.tmp (.head _))) (.cons (sok_run rfl rfl hc28 (sok_move (rs := [(7, .p .str v24.1)]) rfl (.inl rfl) (.tmp (.head _)))) (.cons (sok_run rfl rfl hc28 (sok_move (rs := [(8, .p .str v24.2.1)]) rfl (.inl rfl) (.tmp (.head _)))) (.cons (sok_run rfl rfl hc28 (sok_call (rs := [(43, .p .str v24.1), (44, .p .str v24.2.1)]) (vw := []) rfl rfl hb_17 (names_Join.ok O k v24.1 v24.2.1 v29 hv29) (.cons (.tmp (.head _)) (.cons (.tmp (.tail _ (.head _))) .nil)) (.cons (.same _) (.cons (.same _) .nil)) (by simp) (.inl rfl))) (.cons (sok_run rfl rfl hc28 (sok_move (rs := [(0, .p .str a0)]) rfl (.inl rfl) (.tmp (.head _)))) (.cons (sok_run rfl rfl hc28 (sok_cmpS (rs := [(45, .p .str v29), (46, .p .str a0)]) rfl rfl (.tmp (.head _)) (.tmp (.tail _ (.head _))) rfl)) (.cons (sok_pickT (rs := [(42, .p .bool v24.2.2), (47, .p .bool ((!(v29 == a0)) : Bool))]) rfl rfl (.tmp (.head _)) hc28 (.tmp (.tail _ (.head _)))) .nil)))))))) (by kernel_rfl) (by kernel_rfl) (by kernel_rfl) (Conv.refl _) ?_
              refine thenQ_normal ?_
              exact ⟨(!(v29 == a0)), h, rfl⟩
            · replace h := ite_f hc28 h
              refine WpC.reg (st1 := ⟨[(1, .p .str a1), (2, .p .str a2), (48, .p .bool false)], []⟩) [1, 2, 48] [] hN (.cons (sok_move (rs := [(9, .p .bool v24.2.2)]) rfl (.inl rfl) (.tmp (.head _))) (.cons (sok_move (rs := [(41, .p .bool v24.2.2)]) rfl (.inl rfl) (.tmp (.head _))) (.cons (sok_skip rfl rfl hc28) (.cons (sok_skip rfl rfl hc28) (.cons (sok_skip rfl rfl hc28) (.cons (sok_skip rfl rfl hc28) (.cons (sok_skip rfl rfl hc28) (.cons (sok_pickF (rs := [(42, .p .bool v24.2.2)]) rfl rfl (.tmp (.head _)) hc28 (.bool _ _)) .nil)))))))) (by kernel_rfl) (by kernel_rfl) (by kernel_rfl) (Conv.refl _) ?_
              refine thenQ_normal ?_
              exact ⟨false, h, rfl⟩
          · rintro _ ⟨v25, h, rfl⟩
            unfold millwrightlaw01_NamesJoins.j27 at h
            refine WpC.cond (b := v25) (.tmp (.tail _ (.tail _ (.head _)))) (fun hc26 => ?_) (fun hc26 => ?_)
            · replace h := ite_t hc26 h
              refine WpC.seq ?_
              refine WpC.reg (st1 := ⟨[(6, .p .bool false)], []⟩) [6] [] hN (.cons (sok_move (rs := []) rfl (.inr rfl) (.bool _ _)) .nil) (by kernel_rfl) (by kernel_rfl) (by kernel_rfl) (Conv.refl _) ?_
              refine thenQ_normal ?_
              refine WpC.ret ?_
              refine thenQ_ret ?_
              have hq := Option.some.inj h
              subst hq
              exact ends_ret (retV_1 rfl (.head _)) (by simp)
            · replace h := ite_f hc26 h
              refine WpC.conv (Conv.keep (b := ⟨[(1, .p .str a1), (2, .p .str a2)], []⟩) [1, 2] [] (by kernel_rfl)) (WpC.skip ?_)
              refine thenQ_normal ?_
              exact ⟨h, rfl⟩
        · rintro _ ⟨h, rfl⟩
          unfold millwrightlaw01_NamesJoins.j23 at h
          refine WpC.seqJ (fun st' => millwrightlaw01_NamesJoins.j11 k a1 a2 = some out ∧ st' = ⟨[(1, .p .str a1), (2, .p .str a2)], []⟩) ?_ ?_
          · refine WpC.seqJ (fun st' => ∃ v12 : Bool, millwrightlaw01_NamesJoins.j14 k a1 a2 v12 = some out ∧ st' = ⟨[(1, .p .str a1), (2, .p .str a2), (74, .p .bool v12)], []⟩) ?_ ?_
            · obtain ⟨v15, hv15, h⟩ := bind_some h
              rcases bool_cases (!v15) with hc16 | hc16
              · replace h := ite_t hc16 h
                refine WpC.reg (st1 := ⟨[(1, .p .str a1), (2, .p .str a2), (74, .p .bool true)], []⟩) [1, 2, 74] [] hN (.cons (sok_move (rs := [(1, .p .str a1)]) rfl (.inl rfl) (.tmp (.head _))) (.cons (sok_call (rs := [(49, .p .str a1)]) (vw := []) rfl rfl hb_10 (names_Right.ok O k a1 v15 hv15) (.cons (.tmp (.head _)) .nil) (.cons (.same _) .nil) (by simp) (.inl rfl)) (.cons (sok_not (rs := [(50, .p .bool v15)]) rfl rfl (.tmp (.head _))) (.cons (sok_move (rs := [(51, .p .bool ((!v15) : Bool))]) rfl (.inl rfl) (.tmp (.head _))) (.cons (sok_skip rfl rfl hc16) (.cons (sok_skip rfl rfl hc16) (.cons (sok_skip rfl rfl hc16) (.cons (sok_pickT (rs := [(52, .p .bool ((!v15) : Bool))]) rfl rfl (.tmp (.head _)) hc16 (.bool _ _)) (.cons (sok_move (rs := [(56, .p .bool true)]) rfl (.inl rfl) (.tmp (.head _))) (.cons (sok_skip rfl rfl rfl) (.cons (sok_skip rfl rfl rfl) (.cons (sok_skip rfl rfl rfl) (.cons (sok_pickT (rs := [(57, .p .bool true)]) rfl rfl (.tmp (.head _)) rfl (.bool _ _)) (.cons (sok_move (rs := [(61, .p .bool true)]) rfl (.inl rfl) (.tmp (.head _))) (.cons (sok_skip rfl rfl rfl) (.cons (sok_skip rfl rfl rfl) (.cons (sok_skip rfl rfl rfl) (.cons (sok_pickT (rs := [(62, .p .bool true)]) rfl rfl (.tmp (.head _)) rfl (.bool _ _)) (.cons (sok_move (rs := [(66, .p .bool true)]) rfl (.inl rfl) (.tmp (.head _))) (.cons (sok_skip rfl rfl rfl) (.cons (sok_skip rfl rfl rfl) (.cons (sok_skip rfl rfl rfl) (.cons (sok_skip rfl rfl rfl) (.cons (sok_skip rfl rfl rfl) (.cons (sok_skip rfl rfl rfl) (.cons (sok_pickT (rs := [(67, .p .bool true)]) rfl rfl (.tmp (.head _)) rfl (.bool _ _)) .nil)))))))))))))))))))))))))) (by kernel_rfl) (by kernel_rfl) (by kernel_rfl) (Conv.refl _) ?_
                refine thenQ_normal ?_
                exact ⟨true, h, rfl⟩
              · replace h := ite_f hc16 h
                obtain ⟨v17, hv17, h⟩ := bind_some h
                rcases bool_cases (!v17) with hc18 | hc18
                · replace h := ite_t hc18 h
                  refine WpC.reg (st1 := ⟨[(1, .p .str a1), (2, .p .str a2), (74, .p .bool true)], []⟩) [1, 2, 74] [] hN (.cons (sok_move (rs := [(1, .p .str a1)]) rfl (.inl rfl) (.tmp (.head _))) (.cons (sok_call (rs := [(49, .p .str a1)]) (vw := []) rfl rfl hb_10 (names_Right.ok O k a1 v15 hv15) (.cons (.tmp (.head _)) .nil) (.cons (.same _) .nil) (by simp) (.inl rfl)) (.cons (sok_not (rs := [(50, .p .bool v15)]) rfl rfl (.tmp (.head _))) (.cons (sok_move (rs := [(51, .p .bool ((!v15) : Bool))]) rfl (.inl rfl) (.tmp (.head _))) (.cons (sok_run rfl rfl hc16 (sok_move (rs := [(2, .p .str a2)]) rfl (.inl rfl) (.tmp (.head _)))) (.cons (sok_run rfl rfl hc16 (sok_call (rs := [(53, .p .str a2)]) (vw := []) rfl rfl hb_10 (names_Right.ok O k a2 v17 hv17) (.cons (.tmp (.head _)) .nil) (.cons (.same _) .nil) (by simp) (.inl rfl))) (.cons (sok_run rfl rfl hc16 (sok_not (rs := [(54, .p .bool v17)]) rfl rfl (.tmp (.head _)))) (.cons (sok_pickF (rs := [(52, .p .bool ((!v15) : Bool)), (55, .p .bool ((!v17) : Bool))]) rfl rfl (.tmp (.head _)) hc16 (.tmp (.tail _ (.head _)))) (.cons (sok_move (rs := [(56, .p .bool ((!v17) : Bool))]) rfl (.inl rfl) (.tmp (.head _))) (.cons (sok_skip rfl rfl hc18) (.cons (sok_skip rfl rfl hc18) (.cons (sok_skip rfl rfl hc18) (.cons (sok_pickT (rs := [(57, .p .bool ((!v17) : Bool))]) rfl rfl (.tmp (.head _)) hc18 (.bool _ _)) (.cons (sok_move (rs := [(61, .p .bool true)]) rfl (.inl rfl) (.tmp (.head _))) (.cons (sok_skip rfl rfl rfl) (.cons (sok_skip rfl rfl rfl) (.cons (sok_skip rfl rfl rfl) (.cons (sok_pickT (rs := [(62, .p .bool true)]) rfl rfl (.tmp (.head _)) rfl (.bool _ _)) (.cons (sok_move (rs := [(66, .p .bool true)]) rfl (.inl rfl) (.tmp (.head _))) (.cons (sok_skip rfl rfl rfl) (.cons (sok_skip rfl rfl rfl) (.cons (sok_skip rfl rfl rfl) (.cons (sok_skip rfl rfl rfl) (.cons (sok_skip rfl rfl rfl) (.cons (sok_skip rfl rfl rfl) (.cons (sok_pickT (rs := [(67, .p .bool true)]) rfl rfl (.tmp (.head _)) rfl (.bool _ _)) .nil)))))))))))))))))))))))))) (by kernel_rfl) (by kernel_rfl) (by kernel_rfl) (Conv.refl _) ?_
                  refine thenQ_normal ?_
                  exact ⟨true, h, rfl⟩
                · replace h := ite_f hc18 h
                  obtain ⟨v19, hv19, h⟩ := bind_some h
                  rcases bool_cases (!v19) with hc20 | hc20
                  · replace h := ite_t hc20 h
                    refine WpC.reg (st1 := ⟨[(1, .p .str a1), (2, .p .str a2), (74, .p .bool true)], []⟩) [1, 2, 74] [] hN (.cons (sok_move (rs := [(1, .p .str a1)]) rfl (.inl rfl) (.tmp (.head _))) (.cons (sok_call (rs := [(49, .p .str a1)]) (vw := []) rfl rfl hb_10 (names_Right.ok O k a1 v15 hv15) (.cons (.tmp (.head _)) .nil) (.cons (.same _) .nil) (by simp) (.inl rfl)) (.cons (sok_not (rs := [(50, .p .bool v15)]) rfl rfl (.tmp (.head _))) (.cons (sok_move (rs := [(51, .p .bool ((!v15) : Bool))]) rfl (.inl rfl) (.tmp (.head _))) (.cons (sok_run rfl rfl hc16 (sok_move (rs := [(2, .p .str a2)]) rfl (.inl rfl) (.tmp (.head _)))) (.cons (sok_run rfl rfl hc16 (sok_call (rs := [(53, .p .str a2)]) (vw := []) rfl rfl hb_10 (names_Right.ok O k a2 v17 hv17) (.cons (.tmp (.head _)) .nil) (.cons (.same _) .nil) (by simp) (.inl rfl))) (.cons (sok_run rfl rfl hc16 (sok_not (rs := [(54, .p .bool v17)]) rfl rfl (.tmp (.head _)))) (.cons (sok_pickF (rs := [(52, .p .bool ((!v15) : Bool)), (55, .p .bool ((!v17) : Bool))]) rfl rfl (.tmp (.head _)) hc16 (.tmp (.tail _ (.head _)))) (.cons (sok_move (rs := [(56, .p .bool ((!v17) : Bool))]) rfl (.inl rfl) (.tmp (.head _))) (.cons (sok_run rfl rfl hc18 (sok_move (rs := [(1, .p .str a1)]) rfl (.inl rfl) (.tmp (.head _)))) (.cons (sok_run rfl rfl hc18 (sok_call (rs := [(58, .p .str a1)]) (vw := []) rfl rfl hb_18 (millwrightlaw01_plain.ok O k a1 v19 hv19) (.cons (.tmp (.head _)) .nil) (.cons (.same _) .nil) (by simp) (.inl rfl))) (.cons (sok_run rfl rfl hc18 (sok_not (rs := [(59, .p .bool v19)]) rfl rfl (.tmp (.head _)))) (.cons (sok_pickF (rs := [(57, .p .bool ((!v17) : Bool)), (60, .p .bool ((!v19) : Bool))]) rfl rfl (.tmp (.head _)) hc18 (.tmp (.tail _ (.head _)))) (.cons (sok_move (rs := [(61, .p .bool ((!v19) : Bool))]) rfl (.inl rfl) (.tmp (.head _))) (.cons (sok_skip rfl rfl hc20) (.cons (sok_skip rfl rfl hc20) (.cons (sok_skip rfl rfl hc20) (.cons (sok_pickT (rs := [(62, .p .bool ((!v19) : Bool))]) rfl rfl (.tmp (.head _)) hc20 (.bool _ _)) (.cons (sok_move (rs := [(66, .p .bool true)]) rfl (.inl rfl) (.tmp (.head _))) (.cons (sok_skip rfl rfl rfl) (.cons (sok_skip rfl rfl rfl) (.cons (sok_skip rfl rfl rfl) (.cons (sok_skip rfl rfl rfl) (.cons (sok_skip rfl rfl rfl) (.cons (sok_skip rfl rfl rfl) (.cons (sok_pickT (rs := [(67, .p .bool true)]) rfl rfl (.tmp (.head _)) rfl (.bool _ _)) .nil)))))))))))))))))))))))))) (by kernel_rfl) (by kernel_rfl) (by kernel_rfl) (Conv.refl _) ?_
                    refine thenQ_normal ?_
                    exact ⟨true, h, rfl⟩
                  · replace h := ite_f hc20 h
                    obtain ⟨v21, hv21, h⟩ := bind_some h
                    rcases bool_cases (!v21) with hc22 | hc22
                    · replace h := ite_t hc22 h
                      refine WpC.reg (st1 := ⟨[(1, .p .str a1), (2, .p .str a2), (74, .p .bool true)], []⟩) [1, 2, 74] [] hN (.cons (sok_move (rs := [(1, .p .str a1)]) rfl (.inl rfl) (.tmp (.head _))) (.cons (sok_call (rs := [(49, .p .str a1)]) (vw := []) rfl rfl hb_10 (names_Right.ok O k a1 v15 hv15) (.cons (.tmp (.head _)) .nil) (.cons (.same _) .nil) (by simp) (.inl rfl)) (.cons (sok_not (rs := [(50, .p .bool v15)]) rfl rfl (.tmp (.head _))) (.cons (sok_move (rs := [(51, .p .bool ((!v15) : Bool))]) rfl (.inl rfl) (.tmp (.head _))) (.cons (sok_run rfl rfl hc16 (sok_move (rs := [(2, .p .str a2)]) rfl (.inl rfl) (.tmp (.head _)))) (.cons (sok_run rfl rfl hc16 (sok_call (rs := [(53, .p .str a2)]) (vw := []) rfl rfl hb_10 (names_Right.ok O k a2 v17 hv17) (.cons (.tmp (.head _)) .nil) (.cons (.same _) .nil) (by simp) (.inl rfl))) (.cons (sok_run rfl rfl hc16 (sok_not (rs := [(54, .p .bool v17)]) rfl rfl (.tmp (.head _)))) (.cons (sok_pickF (rs := [(52, .p .bool ((!v15) : Bool)), (55, .p .bool ((!v17) : Bool))]) rfl rfl (.tmp (.head _)) hc16 (.tmp (.tail _ (.head _)))) (.cons (sok_move (rs := [(56, .p .bool ((!v17) : Bool))]) rfl (.inl rfl) (.tmp (.head _))) (.cons (sok_run rfl rfl hc18 (sok_move (rs := [(1, .p .str a1)]) rfl (.inl rfl) (.tmp (.head _)))) (.cons (sok_run rfl rfl hc18 (sok_call (rs := [(58, .p .str a1)]) (vw := []) rfl rfl hb_18 (millwrightlaw01_plain.ok O k a1 v19 hv19) (.cons (.tmp (.head _)) .nil) (.cons (.same _) .nil) (by simp) (.inl rfl))) (.cons (sok_run rfl rfl hc18 (sok_not (rs := [(59, .p .bool v19)]) rfl rfl (.tmp (.head _)))) (.cons (sok_pickF (rs := [(57, .p .bool ((!v17) : Bool)), (60, .p .bool ((!v19) : Bool))]) rfl rfl (.tmp (.head _)) hc18 (.tmp (.tail _ (.head _)))) (.cons (sok_move (rs := [(61, .p .bool ((!v19) : Bool))]) rfl (.inl rfl) (.tmp (.head _))) (.cons (sok_run rfl rfl hc20 (sok_move (rs := [(2, .p .str a2)]) rfl (.inl rfl) (.tmp (.head _)))) (.cons (sok_run rfl rfl hc20 (sok_call (rs := [(63, .p .str a2)]) (vw := []) rfl rfl hb_18 (millwrightlaw01_plain.ok O k a2 v21 hv21) (.cons (.tmp (.head _)) .nil) (.cons (.same _) .nil) (by simp) (.inl rfl))) (.cons (sok_run rfl rfl hc20 (sok_not (rs := [(64, .p .bool v21)]) rfl rfl (.tmp (.head _)))) (.cons (sok_pickF (rs := [(62, .p .bool ((!v19) : Bool)), (65, .p .bool ((!v21) : Bool))]) rfl rfl (.tmp (.head _)) hc20 (.tmp (.tail _ (.head _)))) (.cons (sok_move (rs := [(66, .p .bool ((!v21) : Bool))]) rfl (.inl rfl) (.tmp (.head _))) (.cons (sok_skip rfl rfl hc22) (.cons (sok_skip rfl rfl hc22) (.cons (sok_skip rfl rfl hc22) (.cons (sok_skip rfl rfl hc22) (.cons (sok_skip rfl rfl hc22) (.cons (sok_skip rfl rfl hc22) (.cons (sok_pickT (rs := [(67, .p .bool ((!v21) : Bool))]) rfl rfl (.tmp (.head _)) hc22 (.bool _ _)) .nil)))))))))))))))))))))))))) (by kernel_rfl) (by kernel_rfl) (by kernel_rfl) (Conv.refl _) ?_
                      refine thenQ_normal ?_
                      exact ⟨true, h, rfl⟩
                    · replace h := ite_f hc22 h
                      refine WpC.reg (st1 := ⟨[(1, .p .str a1), (2, .p .str a2), (74, .p .bool ((decide ((IntKind.i64.wrap ((a1.length : Int) + (a2.length : Int))) > 38)) : Bool))], []⟩) [1, 2, 74] [] hN (.cons (sok_move (rs := [(1, .p .str a1)]) rfl (.inl rfl) (.tmp (.head _))) (.cons (sok_call (rs := [(49, .p .str a1)]) (vw := []) rfl rfl hb_10 (names_Right.ok O k a1 v15 hv15) (.cons (.tmp (.head _)) .nil) (.cons (.same _) .nil) (by simp) (.inl rfl)) (.cons (sok_not (rs := [(50, .p .bool v15)]) rfl rfl (.tmp (.head _))) (.cons (sok_move (rs := [(51, .p .bool ((!v15) : Bool))]) rfl (.inl rfl) (.tmp (.head _))) (.cons (sok_run rfl rfl hc16 (sok_move (rs := [(2, .p .str a2)]) rfl (.inl rfl) (.tmp (.head _)))) (.cons (sok_run rfl rfl hc16 (sok_call (rs := [(53, .p .str a2)]) (vw := []) rfl rfl hb_10 (names_Right.ok O k a2 v17 hv17) (.cons (.tmp (.head _)) .nil) (.cons (.same _) .nil) (by simp) (.inl rfl))) (.cons (sok_run rfl rfl hc16 (sok_not (rs := [(54, .p .bool v17)]) rfl rfl (.tmp (.head _)))) (.cons (sok_pickF (rs := [(52, .p .bool ((!v15) : Bool)), (55, .p .bool ((!v17) : Bool))]) rfl rfl (.tmp (.head _)) hc16 (.tmp (.tail _ (.head _)))) (.cons (sok_move (rs := [(56, .p .bool ((!v17) : Bool))]) rfl (.inl rfl) (.tmp (.head _))) (.cons (sok_run rfl rfl hc18 (sok_move (rs := [(1, .p .str a1)]) rfl (.inl rfl) (.tmp (.head _)))) (.cons (sok_run rfl rfl hc18 (sok_call (rs := [(58, .p .str a1)]) (vw := []) rfl rfl hb_18 (millwrightlaw01_plain.ok O k a1 v19 hv19) (.cons (.tmp (.head _)) .nil) (.cons (.same _) .nil) (by simp) (.inl rfl))) (.cons (sok_run rfl rfl hc18 (sok_not (rs := [(59, .p .bool v19)]) rfl rfl (.tmp (.head _)))) (.cons (sok_pickF (rs := [(57, .p .bool ((!v17) : Bool)), (60, .p .bool ((!v19) : Bool))]) rfl rfl (.tmp (.head _)) hc18 (.tmp (.tail _ (.head _)))) (.cons (sok_move (rs := [(61, .p .bool ((!v19) : Bool))]) rfl (.inl rfl) (.tmp (.head _))) (.cons (sok_run rfl rfl hc20 (sok_move (rs := [(2, .p .str a2)]) rfl (.inl rfl) (.tmp (.head _)))) (.cons (sok_run rfl rfl hc20 (sok_call (rs := [(63, .p .str a2)]) (vw := []) rfl rfl hb_18 (millwrightlaw01_plain.ok O k a2 v21 hv21) (.cons (.tmp (.head _)) .nil) (.cons (.same _) .nil) (by simp) (.inl rfl))) (.cons (sok_run rfl rfl hc20 (sok_not (rs := [(64, .p .bool v21)]) rfl rfl (.tmp (.head _)))) (.cons (sok_pickF (rs := [(62, .p .bool ((!v19) : Bool)), (65, .p .bool ((!v21) : Bool))]) rfl rfl (.tmp (.head _)) hc20 (.tmp (.tail _ (.head _)))) (.cons (sok_move (rs := [(66, .p .bool ((!v21) : Bool))]) rfl (.inl rfl) (.tmp (.head _))) (.cons (sok_run rfl rfl hc22 (sok_move (rs := [(1, .p .str a1)]) rfl (.inl rfl) (.tmp (.head _)))) (.cons (sok_run rfl rfl hc22 (sok_lenS (rs := [(68, .p .str a1)]) rfl rfl Try.underlying9 (.tmp (.head _)))) (.cons (sok_run rfl rfl hc22 (sok_move (rs := [(2, .p .str a2)]) rfl (.inl rfl) (.tmp (.head _)))) (.cons (sok_run rfl rfl hc22 (sok_lenS (rs := [(70, .p .str a2)]) rfl rfl Try.underlying9 (.tmp (.head _)))) (.cons (sok_run rfl rfl hc22 (sok_arith (rs := [(69, .p (.int .i64) ((a1.length : Int) : Int)), (71, .p (.int .i64) ((a2.length : Int) : Int))]) rfl rfl (.tmp (.head _)) (.tmp (.tail _ (.head _))) rfl)) (.cons (sok_run rfl rfl hc22 (sok_cmp (rs := [(72, .p (.int .i64) ((IntKind.i64.wrap ((a1.length : Int) + (a2.length : Int))) : Int))]) rfl rfl (.tmp (.head _)) (.int _ _ _) rfl)) (.cons (sok_pickF (rs := [(67, .p .bool ((!v21) : Bool)), (73, .p .bool ((decide ((IntKind.i64.wrap ((a1.length : Int) + (a2.length : Int))) > 38)) : Bool))]) rfl rfl (.tmp (.head _)) hc22 (.tmp (.tail _ (.head _)))) .nil)))))))))))))))))))))))))) (by kernel_rfl) (by kernel_rfl) (by kernel_rfl) (Conv.refl _) ?_
                      refine thenQ_normal ?_
                      exact ⟨(decide ((IntKind.i64.wrap ((a1.length : Int) + (a2.length : Int))) > 38)), h, rfl⟩
            · rintro _ ⟨v12, h, rfl⟩
              unfold millwrightlaw01_NamesJoins.j14 at h
              refine WpC.cond (b := v12) (.tmp (.tail _ (.tail _ (.head _)))) (fun hc13 => ?_) (fun hc13 => ?_)
              · replace h := ite_t hc13 h
                refine WpC.seq ?_
                refine WpC.reg (st1 := ⟨[(6, .p .bool true)], []⟩) [6] [] hN (.cons (sok_move (rs := []) rfl (.inr rfl) (.bool _ _)) .nil) (by kernel_rfl) (by kernel_rfl) (by kernel_rfl) (Conv.refl _) ?_
                refine thenQ_normal ?_
                refine WpC.ret ?_
                refine thenQ_ret ?_
                have hq := Option.some.inj h
                subst hq
                exact ends_ret (retV_1 rfl (.head _)) (by simp)
              · replace h := ite_f hc13 h
                refine WpC.conv (Conv.keep (b := ⟨[(1, .p .str a1), (2, .p .str a2)], []⟩) [1, 2] [] (by kernel_rfl)) (WpC.skip ?_)
                refine thenQ_normal ?_
                exact ⟨h, rfl⟩
          · rintro _ ⟨h, rfl⟩
            unfold millwrightlaw01_NamesJoins.j11 at h
            refine WpC.seq ?_
            obtain ⟨v7, hv7, h⟩ := bind_some h
            obtain ⟨v8, hv8, h⟩ := bind_some h
            refine WpC.reg (st1 := ⟨[(1, .p .str a1), (2, .p .str a2), (10, .p .str v8.1), (11, .p .str v8.2.1), (12, .p .bool v8.2.2)], []⟩) [1, 2, 10, 11, 12] [] hN (.cons (sok_move (rs := [(1, .p .str a1)]) rfl (.inl rfl) (.tmp (.head _))) (.cons (sok_move (rs := [(2, .p .str a2)]) rfl (.inl rfl) (.tmp (.head _))) (.cons (sok_call (rs := [(76, .p .str a1), (77, .p .str a2)]) (vw := []) rfl rfl hb_17 (names_Join.ok O k a1 a2 v7 hv7) (.cons (.tmp (.head _)) (.cons (.tmp (.tail _ (.head _))) .nil)) (.cons (.same _) (.cons (.same _) .nil)) (by simp) (.inl rfl)) (.cons (sok_call (rs := [(78, .p .str v7)]) (vw := []) rfl rfl hb_8 (names_Member.ok O k v7 v8 hv8) (.cons (.tmp (.head _)) .nil) (.cons (.same _) .nil) (by simp) (.inl rfl)) (.cons (sok_move (rs := [(79, .tup [.p .str v8.1, .p .str v8.2.1, .p .bool v8.2.2])]) rfl (.inl rfl) (.tmp (.head _))) (.cons (sok_extract (rs := [(75, .tup [.p .str v8.1, .p .str v8.2.1, .p .bool v8.2.2])]) rfl rfl (.tmp (.head _)) rfl) (.cons (sok_extract (rs := [(75, .tup [.p .str v8.1, .p .str v8.2.1, .p .bool v8.2.2])]) rfl rfl (.tmp (.head _)) rfl) (.cons (sok_extract (rs := [(75, .tup [.p .str v8.1, .p .str v8.2.1, .p .bool v8.2.2])]) rfl rfl (.tmp (.head _)) rfl) (.cons (sok_move (rs := [(80, .p .str v8.1)]) rfl (.inr rfl) (.tmp (.head _))) (.cons (sok_move (rs := [(81, .p .str v8.2.1)]) rfl (.inr rfl) (.tmp (.head _))) (.cons (sok_move (rs := [(82, .p .bool v8.2.2)]) rfl (.inr rfl) (.tmp (.head _))) .nil))))))))))) (by kernel_rfl) (by kernel_rfl) (by kernel_rfl) (Conv.refl _) ?_
            refine thenQ_normal ?_
            refine WpC.seq ?_
            rcases bool_cases v8.2.2 with hc9 | hc9
            · replace h := ite_t hc9 h
              rcases bool_cases (v8.1 == a1) with hc10 | hc10
              · replace h := ite_t hc10 h
                refine WpC.reg (st1 := ⟨[(6, .p .bool ((v8.2.1 == a2) : Bool))], []⟩) [6] [] hN (.cons (sok_move (rs := [(12, .p .bool v8.2.2)]) rfl (.inl rfl) (.tmp (.head _))) (.cons (sok_move (rs := [(83, .p .bool v8.2.2)]) rfl (.inl rfl) (.tmp (.head _))) (.cons (sok_run rfl rfl hc9 (sok_move (rs := [(10, .p .str v8.1)]) rfl (.inl rfl) (.tmp (.head _)))) (.cons (sok_run rfl rfl hc9 (sok_move (rs := [(1, .p .str a1)]) rfl (.inl rfl) (.tmp (.head _)))) (.cons (sok_run rfl rfl hc9 (sok_cmpS (rs := [(85, .p .str v8.1), (86, .p .str a1)]) rfl rfl (.tmp (.head _)) (.tmp (.tail _ (.head _))) rfl)) (.cons (sok_pickT (rs := [(84, .p .bool v8.2.2), (87, .p .bool ((v8.1 == a1) : Bool))]) rfl rfl (.tmp (.head _)) hc9 (.tmp (.tail _ (.head _)))) (.cons (sok_move (rs := [(88, .p .bool ((v8.1 == a1) : Bool))]) rfl (.inl rfl) (.tmp (.head _))) (.cons (sok_run rfl rfl hc10 (sok_move (rs := [(11, .p .str v8.2.1)]) rfl (.inl rfl) (.tmp (.head _)))) (.cons (sok_run rfl rfl hc10 (sok_move (rs := [(2, .p .str a2)]) rfl (.inl rfl) (.tmp (.head _)))) (.cons (sok_run rfl rfl hc10 (sok_cmpS (rs := [(90, .p .str v8.2.1), (91, .p .str a2)]) rfl rfl (.tmp (.head _)) (.tmp (.tail _ (.head _))) rfl)) (.cons (sok_pickT (rs := [(89, .p .bool ((v8.1 == a1) : Bool)), (92, .p .bool ((v8.2.1 == a2) : Bool))]) rfl rfl (.tmp (.head _)) hc10 (.tmp (.tail _ (.head _)))) (.cons (sok_move (rs := [(93, .p .bool ((v8.2.1 == a2) : Bool))]) rfl (.inr rfl) (.tmp (.head _))) .nil)))))))))))) (by kernel_rfl) (by kernel_rfl) (by kernel_rfl) (Conv.refl _) ?_
                refine thenQ_normal ?_
                refine WpC.ret ?_
                have hq := Option.some.inj h
                subst hq
                exact ends_ret (retV_1 rfl (.head _)) (by simp)
              · replace h := ite_f hc10 h
                refine WpC.reg (st1 := ⟨[(6, .p .bool false)], []⟩) [6] [] hN (.cons (sok_move (rs := [(12, .p .bool v8.2.2)]) rfl (.inl rfl) (.tmp (.head _))) (.cons (sok_move (rs := [(83, .p .bool v8.2.2)]) rfl (.inl rfl) (.tmp (.head _))) (.cons (sok_run rfl rfl hc9 (sok_move (rs := [(10, .p .str v8.1)]) rfl (.inl rfl) (.tmp (.head _)))) (.cons (sok_run rfl rfl hc9 (sok_move (rs := [(1, .p .str a1)]) rfl (.inl rfl) (.tmp (.head _)))) (.cons (sok_run rfl rfl hc9 (sok_cmpS (rs := [(85, .p .str v8.1), (86, .p .str a1)]) rfl rfl (.tmp (.head _)) (.tmp (.tail _ (.head _))) rfl)) (.cons (sok_pickT (rs := [(84, .p .bool v8.2.2), (87, .p .bool ((v8.1 == a1) : Bool))]) rfl rfl (.tmp (.head _)) hc9 (.tmp (.tail _ (.head _)))) (.cons (sok_move (rs := [(88, .p .bool ((v8.1 == a1) : Bool))]) rfl (.inl rfl) (.tmp (.head _))) (.cons (sok_skip rfl rfl hc10) (.cons (sok_skip rfl rfl hc10) (.cons (sok_skip rfl rfl hc10) (.cons (sok_pickF (rs := [(89, .p .bool ((v8.1 == a1) : Bool))]) rfl rfl (.tmp (.head _)) hc10 (.bool _ _)) (.cons (sok_move (rs := [(93, .p .bool false)]) rfl (.inr rfl) (.tmp (.head _))) .nil)))))))))))) (by kernel_rfl) (by kernel_rfl) (by kernel_rfl) (Conv.refl _) ?_
                refine thenQ_normal ?_
                refine WpC.ret ?_
                have hq := Option.some.inj h
                subst hq
                exact ends_ret (retV_1 rfl (.head _)) (by simp)
            · replace h := ite_f hc9 h
              refine WpC.reg (st1 := ⟨[(6, .p .bool false)], []⟩) [6] [] hN (.cons (sok_move (rs := [(12, .p .bool v8.2.2)]) rfl (.inl rfl) (.tmp (.head _))) (.cons (sok_move (rs := [(83, .p .bool v8.2.2)]) rfl (.inl rfl) (.tmp (.head _))) (.cons (sok_skip rfl rfl hc9) (.cons (sok_skip rfl rfl hc9) (.cons (sok_skip rfl rfl hc9) (.cons (sok_pickF (rs := [(84, .p .bool v8.2.2)]) rfl rfl (.tmp (.head _)) hc9 (.bool _ _)) (.cons (sok_move (rs := [(88, .p .bool false)]) rfl (.inl rfl) (.tmp (.head _))) (.cons (sok_skip rfl rfl rfl) (.cons (sok_skip rfl rfl rfl) (.cons (sok_skip rfl rfl rfl) (.cons (sok_pickF (rs := [(89, .p .bool false)]) rfl rfl (.tmp (.head _)) rfl (.bool _ _)) (.cons (sok_move (rs := [(93, .p .bool false)]) rfl (.inr rfl) (.tmp (.head _))) .nil)))))))))))) (by kernel_rfl) (by kernel_rfl) (by kernel_rfl) (Conv.refl _) ?_
              refine thenQ_normal ?_
              refine WpC.ret ?_
              have hq := Option.some.inj h
              subst hq
              exact ends_ret (retV_1 rfl (.head _)) (by simp)

end Go.Proofs.Ytfeaegjlhpgdmaa
