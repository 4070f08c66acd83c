/- A part of the proof of a given law: QBC2. Own work, printed in part by a program of mine. -/
import Derived.Test.YtnbnfjgedinlbabDoorK1QBC1
namespace Go.Proofs.YtnbnfjgedinlbabDoor
open Go Go.AM
set_option linter.unusedVariables false
set_option linter.unusedSimpArgs false
set_option maxRecDepth 100000
theorem millwrightlaw11_QuoteBack.ok (O : Out) (hO : GOkQ O) (k : Nat) (a0 : List (List UInt8)) (out : Bool) (h : millwrightlaw11_QuoteBack.f k a0 = some out) : COk Un O Tryd.prog 3 { ar := [.p (.list .str) a0], r := .p .bool out } := by
  refine cok_of_wp Tryd.func3 rfl (k := 30) rfl (Nat.le_of_ble_eq_true rfl) (namesOk_pure rfl rfl rfl rfl) ?_
  intro B hN
  refine WpC.conv (Conv.keep (U := Un) (b := ⟨[(0, .p (.list .str) a0)], []⟩) [0] [] (by kernel_rfl)) ?_
  unfold millwrightlaw11_QuoteBack.f at h
  refine WpC.seq ?_
  refine WpC.reg (U := Un) (st1 := ⟨[(0, .p (.list .str) a0)], []⟩) [0] [] hN (.cons (sok_move (U := Un) (rs := []) rfl (.inr rfl) (.bool _ _)) .nil) (by kernel_rfl) (by kernel_rfl) (by kernel_rfl) (Conv.refl (U := Un) _) ?_
  refine thenQ_normal ?_
  refine WpC.seq ?_
  refine WpC.seq ?_
  obtain ⟨v1, hv1, h⟩ := bind_some h
  refine WpC.reg (U := Un) (st1 := ⟨[(0, .p (.list .str) a0), (7, .p .bool ((!v1) : Bool))], []⟩) [0, 7] [] hN (.cons (sok_callV (U := Un) (rs := []) (vw := []) rfl rfl (.func _) hb_7 (millwrightlaw11_alive.ok O hO k v1 hv1) .nil .nil (by simp) (.inl rfl)) (.cons (sok_not (U := Un) (rs := [(6, .p .bool v1)]) rfl rfl o0) .nil)) (by kernel_rfl) (by kernel_rfl) (by kernel_rfl) (Conv.refl (U := Un) _) ?_
  refine thenQ_normal ?_
  refine WpC.cond (U := Un) (b := (!v1)) o1 (fun hc2 => ?_) (fun hc2 => ?_)
  · replace h := ite_t hc2 h
    refine WpC.seq ?_
    refine WpC.reg (U := Un) (st1 := ⟨[(2, .p .bool false)], []⟩) [2] [] hN (.cons (sok_move (U := Un) (rs := []) rfl (.inr rfl) (.bool _ _)) .nil) (by kernel_rfl) (by kernel_rfl) (by kernel_rfl) (Conv.refl (U := Un) _) ?_
    refine thenQ_normal ?_
    refine WpC.ret ?_
    refine thenQ_ret ?_
    have hq := Option.some.inj h
    subst hq
    exact ends_ret (retV_1 rfl (.head _)) ain_nil
  · replace h := ite_f hc2 h
    refine WpC.conv (Conv.keep (U := Un) (b := ⟨[(0, .p (.list .str) a0)], []⟩) [0] [] (by kernel_rfl)) (WpC.skip ?_)
    refine thenQ_normal ?_
    refine WpC.seq ?_
    refine WpC.seq ?_
    obtain ⟨v3, hv3, h⟩ := bind_some h
    refine WpC.reg (U := Un) (st1 := ⟨[(0, .p (.list .str) a0), (9, .p .bool v3)], []⟩) [0, 9] [] hN (.cons (mv (U := Un) (v := .p (.list .str) a0) rfl rfl) (.cons (sok_callV (U := Un) (rs := [(8, .p (.list .str) a0)]) (vw := []) rfl rfl (.func _) hb_8 (millwrightnum_Long.ok O hO k a0 20 60 v3 hv3) (.cons o0 (.cons (.int _ _ _) (.cons (.int _ _ _) .nil))) (.cons (.same _) (.cons (.same _) (.cons (.same _) .nil))) (by simp) (.inl rfl)) .nil)) (by kernel_rfl) (by kernel_rfl) (by kernel_rfl) (Conv.refl (U := Un) _) ?_
    refine thenQ_normal ?_
    refine WpC.cond (U := Un) (b := v3) o1 (fun hc4 => ?_) (fun hc4 => ?_)
    · replace h := ite_t hc4 h
      refine WpC.seq ?_
      refine WpC.reg (U := Un) (st1 := ⟨[(2, .p .bool true)], []⟩) [2] [] hN (.cons (sok_move (U := Un) (rs := []) rfl (.inr rfl) (.bool _ _)) .nil) (by kernel_rfl) (by kernel_rfl) (by kernel_rfl) (Conv.refl (U := Un) _) ?_
      refine thenQ_normal ?_
      refine WpC.ret ?_
      refine thenQ_ret ?_
      have hq := Option.some.inj h
      subst hq
      exact ends_ret (retV_1 rfl (.head _)) ain_nil
    · replace h := ite_f hc4 h
      refine WpC.conv (Conv.keep (U := Un) (b := ⟨[(0, .p (.list .str) a0)], []⟩) [0] [] (by kernel_rfl)) (WpC.skip ?_)
      refine thenQ_normal ?_
      refine WpC.seq ?_
      obtain ⟨v5, hv5, h⟩ := bind_some h
      refine WpC.reg (U := Un) (st1 := ⟨[(0, .p (.list .str) a0), (3, .vec 10001 1 0 v5.2)], [(10001, .row 9 .str v5.1 true)]⟩) [0, 3] [10001] hN (.cons (mv (U := Un) (v := .p (.list .str) a0) rfl rfl) (.cons (sok_callV (U := Un) (rs := [(10, .p (.list .str) a0)]) (vw := []) rfl rfl (.func _) hb_9 (COk.ren (millwrightnum_Texts.ok O hO k a0 v5 hv5) (fun n => if n = 60500 then 10001 else n) (injOn_of (by kernel_rfl))) (.cons o0 .nil) (.cons (.same _) .nil) (by simp) (.inl rfl)) (.cons (mva (U := Un) (v := .vec 10001 1 0 v5.2) rfl rfl) .nil))) (by kernel_rfl) (by kernel_rfl) (by kernel_rfl) (Conv.refl (U := Un) _) ?_
      refine thenQ_normal ?_
      refine WpC.seq ?_
      obtain ⟨g6, h⟩ := if_some h
      obtain ⟨v7, hv7, h⟩ := bind_some h
      obtain ⟨v8, hv8, h⟩ := bind_some h
      refine WpC.reg (U := Un) (st1 := ⟨[(0, .p (.list .str) a0), (3, .vec 10001 1 0 v5.2), (4, .p (.list .str) v8.1), (5, .p .err v8.2)], [(10001, .row 9 .str v5.1 true)]⟩) [0, 3, 4, 5] [10001] hN (.cons (mv (U := Un) (v := .vec 10001 1 0 v5.2) rfl rfl) (.cons (sok_callV (U := Un) (rs := [(13, .vec 10001 1 0 v5.2)]) (vw := [(10001, .row 9 .str v5.1 true)]) rfl rfl (.func _) hb_11 (quote_Join.ok O hO k ((v5.1.drop 0).take v5.2) v7 hv7) (.cons o0 .nil) (.cons (.row 0 v5.2 (.head _) g6) .nil) (by simp) (.inr rfl)) (.cons (sok_callV (U := Un) (rs := [(14, .p .str v7)]) (vw := []) rfl rfl (.func _) hb_10 (quote_Split.ok O hO k v7 v8 hv8) (.cons o0 .nil) (.cons (.same _) .nil) (by simp) (.inl rfl)) (.cons (mv (U := Un) (v := .tup [.p (.list .str) v8.1, .p .err v8.2]) rfl rfl) (.cons (sok_extract (U := Un) (rs := [(12, .tup [.p (.list .str) v8.1, .p .err v8.2])]) rfl rfl o0 rfl) (.cons (sok_extract (U := Un) (rs := [(12, .tup [.p (.list .str) v8.1, .p .err v8.2])]) rfl rfl o0 rfl) (.cons (mva (U := Un) (v := .p (.list .str) v8.1) rfl rfl) (.cons (mva (U := Un) (v := .p .err v8.2) rfl rfl) .nil)))))))) (by kernel_rfl) (by kernel_rfl) (by kernel_rfl) (Conv.refl (U := Un) _) ?_
      refine thenQ_normal ?_
      refine WpC.seq ?_
      rcases bool_cases (v8.2 == 0) with hc9 | hc9
      · replace h := ite_t hc9 h
        obtain ⟨v10, hv10, h⟩ := bind_some h
        rcases bool_cases v10 with hc11 | hc11
        · replace h := ite_t hc11 h
          obtain ⟨v12, hv12, h⟩ := bind_some h
          refine WpC.reg (U := Un) (st1 := ⟨[(2, .p .bool v12)], []⟩) [2] [] hN (.cons (mv (U := Un) (v := .p .err v8.2) rfl rfl) (.cons (sok_errNil (U := Un) (rs := [(18, .p .err v8.2)]) rfl rfl Tryd.underlying27 o0 rfl) (.cons (mv (U := Un) (v := .p .bool ((v8.2 == 0) : Bool)) rfl rfl) (.cons (sok_run rfl rfl hc9 (mv (U := Un) (v := .p (.list .str) v8.1) rfl rfl)) (.cons (sok_run rfl rfl hc9 (mv (U := Un) (v := .p (.list .str) a0) rfl rfl)) (.cons (sok_run rfl rfl hc9 (sok_callV (U := Un) (rs := [(21, .p (.list .str) v8.1), (22, .p (.list .str) a0)]) (vw := []) rfl rfl (.func _) hb_12 (millwrightnum_SameTexts.ok O hO k v8.1 a0 v10 hv10) (.cons o0 (.cons o1 .nil)) (.cons (.same _) (.cons (.same _) .nil)) (by simp) (.inl rfl))) (.cons (sok_pickT (U := Un) (rs := [(20, .p .bool ((v8.2 == 0) : Bool)), (23, .p .bool v10)]) rfl rfl o0 hc9 o1) (.cons (mv (U := Un) (v := .p .bool v10) rfl rfl) (.cons (sok_run rfl rfl hc11 (mv (U := Un) (v := .vec 10001 1 0 v5.2) rfl rfl)) (.cons (sok_run rfl rfl hc11 (mv (U := Un) (v := .p (.list .str) a0) rfl rfl)) (.cons (sok_run rfl rfl hc11 (sok_callV (U := Un) (rs := [(26, .vec 10001 1 0 v5.2), (27, .p (.list .str) a0)]) (vw := []) rfl rfl (.func _) hb_13 (COk.ren (millwrightnum_KeptTexts_m0.ok O hO k v5.1 v5.2 a0 v12 hv12) (fun n => if n = 100000 then 10001 else n) (injOn_of (by kernel_rfl))) (.cons o0 (.cons o1 .nil)) (.cons (.cast (by first | rfl | (simp only [upd_length, List.length_replicate, List.length_append]; done) | (simp only [upd_length, List.length_replicate, List.length_append] at *; omega) | omega)) (.cons (.same _) .nil)) (by simp) (.inl rfl))) (.cons (sok_pickT (U := Un) (rs := [(25, .p .bool v10), (28, .p .bool v12)]) rfl rfl o0 hc11 o1) (.cons (mva (U := Un) (v := .p .bool v12) rfl rfl) .nil))))))))))))) (by kernel_rfl) (by kernel_rfl) (by kernel_rfl) (Conv.refl (U := Un) _) ?_
          refine thenQ_normal ?_
          refine WpC.ret ?_
          have hq := Option.some.inj h
          subst hq
          exact ends_ret (retV_1 rfl (.head _)) ain_nil
        · replace h := ite_f hc11 h
          refine WpC.reg (U := Un) (st1 := ⟨[(2, .p .bool false)], []⟩) [2] [] hN (.cons (mv (U := Un) (v := .p .err v8.2) rfl rfl) (.cons (sok_errNil (U := Un) (rs := [(18, .p .err v8.2)]) rfl rfl Tryd.underlying27 o0 rfl) (.cons (mv (U := Un) (v := .p .bool ((v8.2 == 0) : Bool)) rfl rfl) (.cons (sok_run rfl rfl hc9 (mv (U := Un) (v := .p (.list .str) v8.1) rfl rfl)) (.cons (sok_run rfl rfl hc9 (mv (U := Un) (v := .p (.list .str) a0) rfl rfl)) (.cons (sok_run rfl rfl hc9 (sok_callV (U := Un) (rs := [(21, .p (.list .str) v8.1), (22, .p (.list .str) a0)]) (vw := []) rfl rfl (.func _) hb_12 (millwrightnum_SameTexts.ok O hO k v8.1 a0 v10 hv10) (.cons o0 (.cons o1 .nil)) (.cons (.same _) (.cons (.same _) .nil)) (by simp) (.inl rfl))) (.cons (sok_pickT (U := Un) (rs := [(20, .p .bool ((v8.2 == 0) : Bool)), (23, .p .bool v10)]) rfl rfl o0 hc9 o1) (.cons (mv (U := Un) (v := .p .bool v10) rfl rfl) (.cons (sok_skip rfl rfl hc11) (.cons (sok_skip rfl rfl hc11) (.cons (sok_skip rfl rfl hc11) (.cons (sok_pickF (U := Un) (rs := [(25, .p .bool v10)]) rfl rfl o0 hc11 (.bool _ _)) (.cons (mva (U := Un) (v := .p .bool false) rfl rfl) .nil))))))))))))) (by kernel_rfl) (by kernel_rfl) (by kernel_rfl) (Conv.refl (U := Un) _) ?_
          refine thenQ_normal ?_
          refine WpC.ret ?_
          have hq := Option.some.inj h
          subst hq
          exact ends_ret (retV_1 rfl (.head _)) ain_nil
      · replace h := ite_f hc9 h
        refine WpC.reg (U := Un) (st1 := ⟨[(2, .p .bool false)], []⟩) [2] [] hN (.cons (mv (U := Un) (v := .p .err v8.2) rfl rfl) (.cons (sok_errNil (U := Un) (rs := [(18, .p .err v8.2)]) rfl rfl Tryd.underlying27 o0 rfl) (.cons (mv (U := Un) (v := .p .bool ((v8.2 == 0) : Bool)) rfl rfl) (.cons (sok_skip rfl rfl hc9) (.cons (sok_skip rfl rfl hc9) (.cons (sok_skip rfl rfl hc9) (.cons (sok_pickF (U := Un) (rs := [(20, .p .bool ((v8.2 == 0) : Bool))]) rfl rfl o0 hc9 (.bool _ _)) (.cons (mv (U := Un) (v := .p .bool false) rfl rfl) (.cons (sok_skip rfl rfl rfl) (.cons (sok_skip rfl rfl rfl) (.cons (sok_skip rfl rfl rfl) (.cons (sok_pickF (U := Un) (rs := [(25, .p .bool false)]) rfl rfl o0 rfl (.bool _ _)) (.cons (mva (U := Un) (v := .p .bool false) rfl rfl) .nil))))))))))))) (by kernel_rfl) (by kernel_rfl) (by kernel_rfl) (Conv.refl (U := Un) _) ?_
        refine thenQ_normal ?_
        refine WpC.ret ?_
        have hq := Option.some.inj h
        subst hq
        exact ends_ret (retV_1 rfl (.head _)) ain_nil

end Go.Proofs.YtnbnfjgedinlbabDoor
