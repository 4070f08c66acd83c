/- A part of the proof of a given law: AC0. Own work, printed in part by a program of mine. -/
import Derived.Test.YtfeaegjlhpgdmaaAF
namespace Go.Proofs.Ytfeaegjlhpgdmaa
open Go Go.AM
set_option linter.unusedVariables false
set_option maxRecDepth 100000
theorem names_Right.ok (O : Out) (k : Nat) (a0 : List UInt8) (out : Bool) (h : names_Right.f k a0 = some out) : COk Un O Try.prog 10 { ar := [.p .str a0], r := .p .bool out } := by
  refine cok_of_wp Try.func10 rfl (k := 28) rfl (Nat.le_of_ble_eq_true rfl) (namesOk_pure rfl rfl rfl rfl) ?_
  intro B hN
  refine WpC.conv (Conv.keep (b := ⟨[(0, .p .str a0)], []⟩) [0] [] (by kernel_rfl)) ?_
  unfold names_Right.f at h
  refine WpC.seq ?_
  refine WpC.reg (st1 := ⟨[(0, .p .str a0)], []⟩) [0] [] hN (.cons (sok_move (rs := []) rfl (.inr rfl) (.bool _ _)) .nil) (by kernel_rfl) (by kernel_rfl) (by kernel_rfl) (Conv.refl _) ?_
  refine thenQ_normal ?_
  refine WpC.seqJ (fun st' => names_Right.j16 k a0 = some out ∧ st' = ⟨[(0, .p .str a0)], []⟩) ?_ ?_
  · refine WpC.seqJ (fun st' => ∃ v17 : Bool, names_Right.j19 k a0 v17 = some out ∧ st' = ⟨[(0, .p .str a0), (11, .p .bool v17)], []⟩) ?_ ?_
    · rcases bool_cases (decide ((a0.length : Int) < 1)) with hc20 | hc20
      · replace h := ite_t hc20 h
        refine WpC.reg (st1 := ⟨[(0, .p .str a0), (11, .p .bool true)], []⟩) [0, 11] [] hN (.cons (sok_move (rs := [(0, .p .str a0)]) rfl (.inl rfl) (.tmp (.head _))) (.cons (sok_lenS (rs := [(4, .p .str a0)]) rfl rfl Try.underlying9 (.tmp (.head _))) (.cons (sok_cmp (rs := [(5, .p (.int .i64) ((a0.length : Int) : Int))]) rfl rfl (.tmp (.head _)) (.int _ _ _) rfl) (.cons (sok_move (rs := [(6, .p .bool ((decide ((a0.length : Int) < 1)) : Bool))]) rfl (.inl rfl) (.tmp (.head _))) (.cons (sok_skip rfl rfl hc20) (.cons (sok_skip rfl rfl hc20) (.cons (sok_skip rfl rfl hc20) (.cons (sok_pickT (rs := [(7, .p .bool ((decide ((a0.length : Int) < 1)) : Bool))]) rfl rfl (.tmp (.head _)) hc20 (.bool _ _)) .nil)))))))) (by kernel_rfl) (by kernel_rfl) (by kernel_rfl) (Conv.refl _) ?_
        refine thenQ_normal ?_
        exact ⟨true, h, rfl⟩
      · replace h := ite_f hc20 h
        refine WpC.reg (st1 := ⟨[(0, .p .str a0), (11, .p .bool ((decide ((a0.length : Int) > 40)) : Bool))], []⟩) [0, 11] [] hN (.cons (sok_move (rs := [(0, .p .str a0)]) rfl (.inl rfl) (.tmp (.head _))) (.cons (sok_lenS (rs := [(4, .p .str a0)]) rfl rfl Try.underlying9 (.tmp (.head _))) (.cons (sok_cmp (rs := [(5, .p (.int .i64) ((a0.length : Int) : Int))]) rfl rfl (.tmp (.head _)) (.int _ _ _) rfl) (.cons (sok_move (rs := [(6, .p .bool ((decide ((a0.length : Int) < 1)) : Bool))]) rfl (.inl rfl) (.tmp (.head _))) (.cons (sok_run rfl rfl hc20 (sok_move (rs := [(0, .p .str a0)]) rfl (.inl rfl) (.tmp (.head _)))) (.cons (sok_run rfl rfl hc20 (sok_lenS (rs := [(8, .p .str a0)]) rfl rfl Try.underlying9 (.tmp (.head _)))) (.cons (sok_run rfl rfl hc20 (sok_cmp (rs := [(9, .p (.int .i64) ((a0.length : Int) : Int))]) rfl rfl (.tmp (.head _)) (.int _ _ _) rfl)) (.cons (sok_pickF (rs := [(7, .p .bool ((decide ((a0.length : Int) < 1)) : Bool)), (10, .p .bool ((decide ((a0.length : Int) > 40)) : Bool))]) rfl rfl (.tmp (.head _)) hc20 (.tmp (.tail _ (.head _)))) .nil)))))))) (by kernel_rfl) (by kernel_rfl) (by kernel_rfl) (Conv.refl _) ?_
        refine thenQ_normal ?_
        exact ⟨(decide ((a0.length : Int) > 40)), h, rfl⟩
    · rintro _ ⟨v17, h, rfl⟩
      unfold names_Right.j19 at h
      refine WpC.cond (b := v17) (.tmp (.tail _ (.head _))) (fun hc18 => ?_) (fun hc18 => ?_)
      · replace h := ite_t hc18 h
        refine WpC.seq ?_
        refine WpC.reg (st1 := ⟨[(2, .p .bool false)], []⟩) [2] [] hN (.cons (sok_move (rs := []) rfl (.inr rfl) (.bool _ _)) .nil) (by kernel_rfl) (by kernel_rfl) (by kernel_rfl) (Conv.refl _) ?_
        refine thenQ_normal ?_
        refine WpC.ret ?_
        refine thenQ_ret ?_
        have hq := Option.some.inj h
        subst hq
        exact ends_ret (retV_1 rfl (.head _)) (by simp)
      · replace h := ite_f hc18 h
        refine WpC.conv (Conv.keep (b := ⟨[(0, .p .str a0)], []⟩) [0] [] (by kernel_rfl)) (WpC.skip ?_)
        refine thenQ_normal ?_
        exact ⟨h, rfl⟩
  · rintro _ ⟨h, rfl⟩
    unfold names_Right.j16 at h
    refine WpC.seqJ (fun st' => names_Right.j1 k = some out ∧ st' = ⟨[], []⟩) ?_ ?_
    · refine WpC.seq ?_
      refine WpC.reg (st1 := ⟨[(0, .p .str a0), (13, .p (.int .i64) ((a0.length : Int) : Int)), (14, .p (.int .i64) (0 : Int))], []⟩) [0, 13, 14] [] hN (.cons (sok_move (rs := [(0, .p .str a0)]) rfl (.inl rfl) (.tmp (.head _))) (.cons (sok_lenS (rs := [(12, .p .str a0)]) rfl rfl Try.underlying9 (.tmp (.head _))) (.cons (sok_move (rs := []) rfl (.inl rfl) (.int _ _ _)) .nil))) (by kernel_rfl) (by kernel_rfl) (by kernel_rfl) (Conv.refl _) ?_
      refine thenQ_normal ?_
      refine WpC.block ?_
      obtain ⟨o4, hlo4, h⟩ := bind_some h
      have hout5 := h
      clear h
      refine WpC.loop (fun n st' => ∃ v2 : Int, names_Right.l3 k a0 n v2 = some o4 ∧ st' = ⟨[(0, .p .str a0), (13, .p (.int .i64) ((a0.length : Int) : Int)), (14, .p (.int .i64) v2)], []⟩) k ⟨0, hlo4, rfl⟩ ?_
      clear hlo4
      rintro (_ | n) _ ⟨v2, h, rfl⟩
      · cases h
      · rw [names_Right.l3] at h
        refine WpC.seq ?_
        refine WpC.reg (st1 := ⟨[(0, .p .str a0), (13, .p (.int .i64) ((a0.length : Int) : Int)), (14, .p (.int .i64) v2), (15, .p .bool ((decide (v2 < (a0.length : Int))) : Bool))], []⟩) [0, 13, 14, 15] [] hN (.cons (sok_cmp (rs := [(14, .p (.int .i64) v2), (13, .p (.int .i64) ((a0.length : Int) : Int))]) rfl rfl (.tmp (.head _)) (.tmp (.tail _ (.head _))) rfl) .nil) (by kernel_rfl) (by kernel_rfl) (by kernel_rfl) (Conv.refl _) ?_
        refine thenQ_normal ?_
        refine WpC.seq ?_
        refine WpC.cond (b := (decide (v2 < (a0.length : Int)))) (.tmp (.tail _ (.tail _ (.tail _ (.head _))))) (fun hc6 => ?_) (fun hc6 => ?_)
        · replace h := ite_t hc6 h
          refine WpC.conv (Conv.keep (b := ⟨[(0, .p .str a0), (13, .p (.int .i64) ((a0.length : Int) : Int)), (14, .p (.int .i64) v2)], []⟩) [0, 13, 14] [] (by kernel_rfl)) (WpC.skip ?_)
          refine thenQ_normal ?_
          refine WpC.seqJ (fun st' => names_Right.j7 k (names_Right.l3 k a0 n) a0 v2 = some o4 ∧ st' = ⟨[(0, .p .str a0), (13, .p (.int .i64) ((a0.length : Int) : Int)), (14, .p (.int .i64) v2)], []⟩) ?_ ?_
          · refine WpC.block ?_
            refine WpC.seq ?_
            refine WpC.reg (st1 := ⟨[(0, .p .str a0), (3, .p (.int .i64) v2), (13, .p (.int .i64) ((a0.length : Int) : Int)), (14, .p (.int .i64) v2)], []⟩) [0, 3, 13, 14] [] hN (.cons (sok_move (rs := [(14, .p (.int .i64) v2)]) rfl (.inl rfl) (.tmp (.head _))) (.cons (sok_move (rs := [(16, .p (.int .i64) v2)]) rfl (.inr rfl) (.tmp (.head _))) .nil)) (by kernel_rfl) (by kernel_rfl) (by kernel_rfl) (Conv.refl _) ?_
            refine thenQ_normal ?_
            refine WpC.seqJ (fun st' => ∃ v8 : Bool, names_Right.j10 k (names_Right.l3 k a0 n) a0 v2 v8 = some o4 ∧ st' = ⟨[(0, .p .str a0), (13, .p (.int .i64) ((a0.length : Int) : Int)), (14, .p (.int .i64) v2), (26, .p .bool v8)], []⟩) ?_ ?_
            · obtain ⟨v11, hv11, h⟩ := bind_some h
              rcases bool_cases (decide ((v11.toNat : Int) < 33)) with hc12 | hc12
              · replace h := ite_t hc12 h
                refine WpC.reg (st1 := ⟨[(0, .p .str a0), (13, .p (.int .i64) ((a0.length : Int) : Int)), (14, .p (.int .i64) v2), (26, .p .bool true)], []⟩) [0, 13, 14, 26] [] hN (.cons (sok_move (rs := [(0, .p .str a0)]) rfl (.inl rfl) (.tmp (.head _))) (.cons (sok_move (rs := [(3, .p (.int .i64) v2)]) rfl (.inl rfl) (.tmp (.head _))) (.cons (sok_indexS (rs := [(17, .p .str a0), (18, .p (.int .i64) v2)]) rfl rfl Try.underlying9 (.tmp (.head _)) (.tmp (.tail _ (.head _))) hv11) (.cons (sok_cmp (rs := [(19, .p (.int .u8) ((v11.toNat : Int) : Int))]) rfl rfl (.tmp (.head _)) (.int _ _ _) rfl) (.cons (sok_move (rs := [(20, .p .bool ((decide ((v11.toNat : Int) < 33)) : Bool))]) rfl (.inl rfl) (.tmp (.head _))) (.cons (sok_skip rfl rfl hc12) (.cons (sok_skip rfl rfl hc12) (.cons (sok_skip rfl rfl hc12) (.cons (sok_skip rfl rfl hc12) (.cons (sok_pickT (rs := [(21, .p .bool ((decide ((v11.toNat : Int) < 33)) : Bool))]) rfl rfl (.tmp (.head _)) hc12 (.bool _ _)) .nil)))))))))) (by kernel_rfl) (by kernel_rfl) (by kernel_rfl) (Conv.refl _) ?_
                refine thenQ_normal ?_
                exact ⟨true, h, rfl⟩
              · replace h := ite_f hc12 h
                obtain ⟨v13, hv13, h⟩ := bind_some h
                refine WpC.reg (st1 := ⟨[(0, .p .str a0), (13, .p (.int .i64) ((a0.length : Int) : Int)), (14, .p (.int .i64) v2), (26, .p .bool ((decide ((v13.toNat : Int) > 126)) : Bool))], []⟩) [0, 13, 14, 26] [] hN (.cons (sok_move (rs := [(0, .p .str a0)]) rfl (.inl rfl) (.tmp (.head _))) (.cons (sok_move (rs := [(3, .p (.int .i64) v2)]) rfl (.inl rfl) (.tmp (.head _))) (.cons (sok_indexS (rs := [(17, .p .str a0), (18, .p (.int .i64) v2)]) rfl rfl Try.underlying9 (.tmp (.head _)) (.tmp (.tail _ (.head _))) hv11) (.cons (sok_cmp (rs := [(19, .p (.int .u8) ((v11.toNat : Int) : Int))]) rfl rfl (.tmp (.head _)) (.int _ _ _) rfl) (.cons (sok_move (rs := [(20, .p .bool ((decide ((v11.toNat : Int) < 33)) : Bool))]) rfl (.inl rfl) (.tmp (.head _))) (.cons (sok_run rfl rfl hc12 (sok_move (rs := [(0, .p .str a0)]) rfl (.inl rfl) (.tmp (.head _)))) (.cons (sok_run rfl rfl hc12 (sok_move (rs := [(3, .p (.int .i64) v2)]) rfl (.inl rfl) (.tmp (.head _)))) (.cons (sok_run rfl rfl hc12 (sok_indexS (rs := [(22, .p .str a0), (23, .p (.int .i64) v2)]) rfl rfl Try.underlying9 (.tmp (.head _)) (.tmp (.tail _ (.head _))) hv13)) (.cons (sok_run rfl rfl hc12 (sok_cmp (rs := [(24, .p (.int .u8) ((v13.toNat : Int) : Int))]) rfl rfl (.tmp (.head _)) (.int _ _ _) rfl)) (.cons (sok_pickF (rs := [(21, .p .bool ((decide ((v11.toNat : Int) < 33)) : Bool)), (25, .p .bool ((decide ((v13.toNat : Int) > 126)) : Bool))]) rfl rfl (.tmp (.head _)) hc12 (.tmp (.tail _ (.head _)))) .nil)))))))))) (by kernel_rfl) (by kernel_rfl) (by kernel_rfl) (Conv.refl _) ?_
                refine thenQ_normal ?_
                exact ⟨(decide ((v13.toNat : Int) > 126)), h, rfl⟩
            · rintro _ ⟨v8, h, rfl⟩
              unfold names_Right.j10 at h
              refine WpC.cond (b := v8) (.tmp (.tail _ (.tail _ (.tail _ (.head _))))) (fun hc9 => ?_) (fun hc9 => ?_)
              · replace h := ite_t hc9 h
                refine WpC.seq ?_
                refine WpC.reg (st1 := ⟨[(2, .p .bool false)], []⟩) [2] [] hN (.cons (sok_move (rs := []) rfl (.inr rfl) (.bool _ _)) .nil) (by kernel_rfl) (by kernel_rfl) (by kernel_rfl) (Conv.refl _) ?_
                refine thenQ_normal ?_
                refine WpC.ret ?_
                refine blockQ_ret ?_
                refine thenQ_ret ?_
                have hq := Option.some.inj h
                subst hq
                refine thenQ_ret ?_
                have h := hout5
                refine blockQ_ret ?_
                refine thenQ_ret ?_
                have hq := Option.some.inj h
                subst hq
                exact ends_ret (retV_1 rfl (.head _)) (by simp)
              · replace h := ite_f hc9 h
                refine WpC.conv (Conv.keep (b := ⟨[(0, .p .str a0), (13, .p (.int .i64) ((a0.length : Int) : Int)), (14, .p (.int .i64) v2)], []⟩) [0, 13, 14] [] (by kernel_rfl)) (WpC.skip ?_)
                refine blockQ_normal ?_
                refine thenQ_normal ?_
                exact ⟨h, rfl⟩
          · rintro _ ⟨h, rfl⟩
            unfold names_Right.j7 at h
            refine WpC.reg (st1 := ⟨[(0, .p .str a0), (13, .p (.int .i64) ((a0.length : Int) : Int)), (14, .p (.int .i64) ((IntKind.i64.wrap (v2 + 1)) : Int))], []⟩) [0, 13, 14] [] hN (.cons (sok_arith (rs := [(14, .p (.int .i64) v2)]) rfl rfl (.tmp (.head _)) (.int _ _ _) rfl) (.cons (sok_move (rs := [(27, .p (.int .i64) ((IntKind.i64.wrap (v2 + 1)) : Int))]) rfl (.inl rfl) (.tmp (.head _))) .nil)) (by kernel_rfl) (by kernel_rfl) (by kernel_rfl) (Conv.refl _) ?_
            refine thenQ_normal ?_
            exact ⟨n, Nat.lt_succ_self n, (IntKind.i64.wrap (v2 + 1)), h, rfl⟩
        · replace h := ite_f hc6 h
          refine WpC.conv (Conv.keep (b := ⟨[], []⟩) [] [] (by kernel_rfl)) (WpC.exit ?_)
          refine thenQ_exit ?_
          have hq := Option.some.inj h
          subst hq
          refine thenQ_exit ?_
          have h := hout5
          refine blockQ_hit ?_
          refine thenQ_normal ?_
          exact ⟨h, rfl⟩
    · rintro _ ⟨h, rfl⟩
      unfold names_Right.j1 at h
      refine WpC.seq ?_
      refine WpC.reg (st1 := ⟨[(2, .p .bool true)], []⟩) [2] [] hN (.cons (sok_move (rs := []) rfl (.inr rfl) (.bool _ _)) .nil) (by kernel_rfl) (by kernel_rfl) (by kernel_rfl) (Conv.refl _) ?_
      refine thenQ_normal ?_
      refine WpC.ret ?_
      have hq := Option.some.inj h
      subst hq
      exact ends_ret (retV_1 rfl (.head _)) (by simp)

theorem stringslite_HasSuffix.ok (O : Out) (k : Nat) (a0 : List UInt8) (a1 : List UInt8) (out : Bool) (h : stringslite_HasSuffix.f k a0 a1 = some out) : COk Un O Try.prog 52 { ar := [.p .str a0, .p .str a1], r := .p .bool out } := by
  refine cok_of_wp Try.func52 rfl (k := 21) rfl (Nat.le_of_ble_eq_true rfl) (namesOk_pure rfl rfl rfl rfl) ?_
  intro B hN
  refine WpC.conv (Conv.keep (b := ⟨[(0, .p .str a0), (1, .p .str a1)], []⟩) [0, 1] [] (by kernel_rfl)) ?_
  unfold stringslite_HasSuffix.f at h
  refine WpC.seq ?_
  refine WpC.reg (st1 := ⟨[(0, .p .str a0), (1, .p .str a1)], []⟩) [0, 1] [] hN (.cons (sok_move (rs := []) rfl (.inr rfl) (.bool _ _)) .nil) (by kernel_rfl) (by kernel_rfl) (by kernel_rfl) (Conv.refl _) ?_
  refine thenQ_normal ?_
  refine WpC.seq ?_
  rcases bool_cases (decide ((a0.length : Int) ≥ (a1.length : Int))) with hc1 | hc1
  · replace h := ite_t hc1 h
    obtain ⟨v2, hv2, h⟩ := bind_some h
    refine WpC.reg (st1 := ⟨[(4, .p .bool ((v2 == a1) : Bool))], []⟩) [4] [] hN (.cons (sok_move (rs := [(0, .p .str a0)]) rfl (.inl rfl) (.tmp (.head _))) (.cons (sok_lenS (rs := [(5, .p .str a0)]) rfl rfl Try.underlying9 (.tmp (.head _))) (.cons (sok_move (rs := [(1, .p .str a1)]) rfl (.inl rfl) (.tmp (.head _))) (.cons (sok_lenS (rs := [(7, .p .str a1)]) rfl rfl Try.underlying9 (.tmp (.head _))) (.cons (sok_cmp (rs := [(6, .p (.int .i64) ((a0.length : Int) : Int)), (8, .p (.int .i64) ((a1.length : Int) : Int))]) rfl rfl (.tmp (.head _)) (.tmp (.tail _ (.head _))) rfl) (.cons (sok_move (rs := [(9, .p .bool ((decide ((a0.length : Int) ≥ (a1.length : Int))) : Bool))]) rfl (.inl rfl) (.tmp (.head _))) (.cons (sok_run rfl rfl hc1 (sok_move (rs := [(0, .p .str a0)]) rfl (.inl rfl) (.tmp (.head _)))) (.cons (sok_run rfl rfl hc1 (sok_move (rs := [(0, .p .str a0)]) rfl (.inl rfl) (.tmp (.head _)))) (.cons (sok_run rfl rfl hc1 (sok_lenS (rs := [(12, .p .str a0)]) rfl rfl Try.underlying9 (.tmp (.head _)))) (.cons (sok_run rfl rfl hc1 (sok_move (rs := [(1, .p .str a1)]) rfl (.inl rfl) (.tmp (.head _)))) (.cons (sok_run rfl rfl hc1 (sok_lenS (rs := [(14, .p .str a1)]) rfl rfl Try.underlying9 (.tmp (.head _)))) (.cons (sok_run rfl rfl hc1 (sok_arith (rs := [(13, .p (.int .i64) ((a0.length : Int) : Int)), (15, .p (.int .i64) ((a1.length : Int) : Int))]) rfl rfl (.tmp (.head _)) (.tmp (.tail _ (.head _))) rfl)) (.cons (sok_run rfl rfl hc1 (sok_sliceS (rs := [(11, .p .str a0), (16, .p (.int .i64) ((IntKind.i64.wrap ((a0.length : Int) - (a1.length : Int))) : Int))]) rfl rfl Try.underlying9 (.tmp (.head _)) (.at (.tmp (.tail _ (.head _)))) .no hv2)) (.cons (sok_run rfl rfl hc1 (sok_move (rs := [(1, .p .str a1)]) rfl (.inl rfl) (.tmp (.head _)))) (.cons (sok_run rfl rfl hc1 (sok_cmpS (rs := [(17, .p .str v2), (18, .p .str a1)]) rfl rfl (.tmp (.head _)) (.tmp (.tail _ (.head _))) rfl)) (.cons (sok_pickT (rs := [(10, .p .bool ((decide ((a0.length : Int) ≥ (a1.length : Int))) : Bool)), (19, .p .bool ((v2 == a1) : Bool))]) rfl rfl (.tmp (.head _)) hc1 (.tmp (.tail _ (.head _)))) (.cons (sok_move (rs := [(20, .p .bool ((v2 == a1) : Bool))]) rfl (.inr rfl) (.tmp (.head _))) .nil))))))))))))))))) (by kernel_rfl) (by kernel_rfl) (by kernel_rfl) (Conv.refl _) ?_
    refine thenQ_normal ?_
    refine WpC.ret ?_
    have hq := Option.some.inj h
    subst hq
    exact ends_ret (retV_1 rfl (.head _)) (by simp)
  · replace h := ite_f hc1 h
    refine WpC.reg (st1 := ⟨[(4, .p .bool false)], []⟩) [4] [] hN (.cons (sok_move (rs := [(0, .p .str a0)]) rfl (.inl rfl) (.tmp (.head _))) (.cons (sok_lenS (rs := [(5, .p .str a0)]) rfl rfl Try.underlying9 (.tmp (.head _))) (.cons (sok_move (rs := [(1, .p .str a1)]) rfl (.inl rfl) (.tmp (.head _))) (.cons (sok_lenS (rs := [(7, .p .str a1)]) rfl rfl Try.underlying9 (.tmp (.head _))) (.cons (sok_cmp (rs := [(6, .p (.int .i64) ((a0.length : Int) : Int)), (8, .p (.int .i64) ((a1.length : Int) : Int))]) rfl rfl (.tmp (.head _)) (.tmp (.tail _ (.head _))) rfl) (.cons (sok_move (rs := [(9, .p .bool ((decide ((a0.length : Int) ≥ (a1.length : Int))) : Bool))]) rfl (.inl rfl) (.tmp (.head _))) (.cons (sok_skip rfl rfl hc1) (.cons (sok_skip rfl rfl hc1) (.cons (sok_skip rfl rfl hc1) (.cons (sok_skip rfl rfl hc1) (.cons (sok_skip rfl rfl hc1) (.cons (sok_skip rfl rfl hc1) (.cons (sok_skip rfl rfl hc1) (.cons (sok_skip rfl rfl hc1) (.cons (sok_skip rfl rfl hc1) (.cons (sok_pickF (rs := [(10, .p .bool ((decide ((a0.length : Int) ≥ (a1.length : Int))) : Bool))]) rfl rfl (.tmp (.head _)) hc1 (.bool _ _)) (.cons (sok_move (rs := [(20, .p .bool false)]) rfl (.inr rfl) (.tmp (.head _))) .nil))))))))))))))))) (by kernel_rfl) (by kernel_rfl) (by kernel_rfl) (Conv.refl _) ?_
    refine thenQ_normal ?_
    refine WpC.ret ?_
    have hq := Option.some.inj h
    subst hq
    exact ends_ret (retV_1 rfl (.head _)) (by simp)

theorem stringslite_CutSuffix.ok (O : Out) (k : Nat) (a0 : List UInt8) (a1 : List UInt8) (out : (List UInt8) × Bool) (h : stringslite_CutSuffix.f k a0 a1 = some out) : COk Un O Try.prog 43 { ar := [.p .str a0, .p .str a1], r := .tup [.p .str out.1, .p .bool out.2] } := by
  refine cok_of_wp Try.func43 rfl (k := 18) rfl (Nat.le_of_ble_eq_true rfl) (namesOk_pure rfl rfl rfl rfl) ?_
  intro B hN
  refine WpC.conv (Conv.keep (b := ⟨[(0, .p .str a0), (1, .p .str a1)], []⟩) [0, 1] [] (by kernel_rfl)) ?_
  unfold stringslite_CutSuffix.f at h
  refine WpC.seq ?_
  refine WpC.reg (st1 := ⟨[(0, .p .str a0), (1, .p .str a1)], []⟩) [0, 1] [] hN (.cons (sok_move (rs := []) rfl (.inr rfl) (.str _ _)) (.cons (sok_move (rs := []) rfl (.inr rfl) (.bool _ _)) .nil)) (by kernel_rfl) (by kernel_rfl) (by kernel_rfl) (Conv.refl _) ?_
  refine thenQ_normal ?_
  refine WpC.seq ?_
  refine WpC.seq ?_
  obtain ⟨v1, hv1, h⟩ := bind_some h
  refine WpC.reg (st1 := ⟨[(0, .p .str a0), (1, .p .str a1), (9, .p .bool ((!v1) : Bool))], []⟩) [0, 1, 9] [] hN (.cons (sok_move (rs := [(0, .p .str a0)]) rfl (.inl rfl) (.tmp (.head _))) (.cons (sok_move (rs := [(1, .p .str a1)]) rfl (.inl rfl) (.tmp (.head _))) (.cons (sok_call (rs := [(6, .p .str a0), (7, .p .str a1)]) (vw := []) rfl rfl hb_52 (stringslite_HasSuffix.ok O k a0 a1 v1 hv1) (.cons (.tmp (.head _)) (.cons (.tmp (.tail _ (.head _))) .nil)) (.cons (.same _) (.cons (.same _) .nil)) (by simp) (.inl rfl)) (.cons (sok_not (rs := [(8, .p .bool v1)]) rfl rfl (.tmp (.head _))) .nil)))) (by kernel_rfl) (by kernel_rfl) (by kernel_rfl) (Conv.refl _) ?_
  refine thenQ_normal ?_
  refine WpC.cond (b := (!v1)) (.tmp (.tail _ (.tail _ (.head _)))) (fun hc2 => ?_) (fun hc2 => ?_)
  · replace h := ite_t hc2 h
    refine WpC.seq ?_
    refine WpC.reg (st1 := ⟨[(4, .p .str a0), (5, .p .bool false)], []⟩) [4, 5] [] hN (.cons (sok_move (rs := [(0, .p .str a0)]) rfl (.inl rfl) (.tmp (.head _))) (.cons (sok_move (rs := [(10, .p .str a0)]) rfl (.inr rfl) (.tmp (.head _))) (.cons (sok_move (rs := []) rfl (.inr rfl) (.bool _ _)) .nil))) (by kernel_rfl) (by kernel_rfl) (by kernel_rfl) (Conv.refl _) ?_
    refine thenQ_normal ?_
    refine WpC.ret ?_
    refine thenQ_ret ?_
    have hq := Option.some.inj h
    subst hq
    exact ends_ret (retV_2 rfl (.head _) (.tail _ (.head _))) (by simp)
  · replace h := ite_f hc2 h
    refine WpC.conv (Conv.keep (b := ⟨[(0, .p .str a0), (1, .p .str a1)], []⟩) [0, 1] [] (by kernel_rfl)) (WpC.skip ?_)
    refine thenQ_normal ?_
    refine WpC.seq ?_
    obtain ⟨v3, hv3, h⟩ := bind_some h
    refine WpC.reg (st1 := ⟨[(4, .p .str v3), (5, .p .bool true)], []⟩) [4, 5] [] hN (.cons (sok_move (rs := [(0, .p .str a0)]) rfl (.inl rfl) (.tmp (.head _))) (.cons (sok_move (rs := [(0, .p .str a0)]) rfl (.inl rfl) (.tmp (.head _))) (.cons (sok_lenS (rs := [(12, .p .str a0)]) rfl rfl Try.underlying9 (.tmp (.head _))) (.cons (sok_move (rs := [(1, .p .str a1)]) rfl (.inl rfl) (.tmp (.head _))) (.cons (sok_lenS (rs := [(14, .p .str a1)]) rfl rfl Try.underlying9 (.tmp (.head _))) (.cons (sok_arith (rs := [(13, .p (.int .i64) ((a0.length : Int) : Int)), (15, .p (.int .i64) ((a1.length : Int) : Int))]) rfl rfl (.tmp (.head _)) (.tmp (.tail _ (.head _))) rfl) (.cons (sok_sliceS (rs := [(11, .p .str a0), (16, .p (.int .i64) ((IntKind.i64.wrap ((a0.length : Int) - (a1.length : Int))) : Int))]) rfl rfl Try.underlying9 (.tmp (.head _)) .no (.at (.tmp (.tail _ (.head _)))) hv3) (.cons (sok_move (rs := [(17, .p .str v3)]) rfl (.inr rfl) (.tmp (.head _))) (.cons (sok_move (rs := []) rfl (.inr rfl) (.bool _ _)) .nil))))))))) (by kernel_rfl) (by kernel_rfl) (by kernel_rfl) (Conv.refl _) ?_
    refine thenQ_normal ?_
    refine WpC.ret ?_
    have hq := Option.some.inj h
    subst hq
    exact ends_ret (retV_2 rfl (.head _) (.tail _ (.head _))) (by simp)

theorem strings_CutSuffix.ok (O : Out) (k : Nat) (a0 : List UInt8) (a1 : List UInt8) (out : (List UInt8) × Bool) (h : strings_CutSuffix.f k a0 a1 = some out) : COk Un O Try.prog 31 { ar := [.p .str a0, .p .str a1], r := .tup [.p .str out.1, .p .bool out.2] } := by
  refine cok_of_wp Try.func31 rfl (k := 11) rfl (Nat.le_of_ble_eq_true rfl) (namesOk_pure rfl rfl rfl rfl) ?_
  intro B hN
  refine WpC.conv (Conv.keep (b := ⟨[(0, .p .str a0), (1, .p .str a1)], []⟩) [0, 1] [] (by kernel_rfl)) ?_
  unfold strings_CutSuffix.f at h
  refine WpC.seq ?_
  refine WpC.reg (st1 := ⟨[(0, .p .str a0), (1, .p .str a1)], []⟩) [0, 1] [] hN (.cons (sok_move (rs := []) rfl (.inr rfl) (.str _ _)) (.cons (sok_move (rs := []) rfl (.inr rfl) (.bool _ _)) .nil)) (by kernel_rfl) (by kernel_rfl) (by kernel_rfl) (Conv.refl _) ?_
  refine thenQ_normal ?_
  refine WpC.seq ?_
  obtain ⟨v1, hv1, h⟩ := bind_some h
  refine WpC.reg (st1 := ⟨[(4, .p .str v1.1), (5, .p .bool v1.2)], []⟩) [4, 5] [] hN (.cons (sok_move (rs := [(0, .p .str a0)]) rfl (.inl rfl) (.tmp (.head _))) (.cons (sok_move (rs := [(1, .p .str a1)]) rfl (.inl rfl) (.tmp (.head _))) (.cons (sok_call (rs := [(6, .p .str a0), (7, .p .str a1)]) (vw := []) rfl rfl hb_43 (stringslite_CutSuffix.ok O k a0 a1 v1 hv1) (.cons (.tmp (.head _)) (.cons (.tmp (.tail _ (.head _))) .nil)) (.cons (.same _) (.cons (.same _) .nil)) (by simp) (.inl rfl)) (.cons (sok_extract (rs := [(8, .tup [.p .str v1.1, .p .bool v1.2])]) rfl rfl (.tmp (.head _)) rfl) (.cons (sok_extract (rs := [(8, .tup [.p .str v1.1, .p .bool v1.2])]) rfl rfl (.tmp (.head _)) rfl) (.cons (sok_move (rs := [(9, .p .str v1.1)]) rfl (.inr rfl) (.tmp (.head _))) (.cons (sok_move (rs := [(10, .p .bool v1.2)]) rfl (.inr rfl) (.tmp (.head _))) .nil))))))) (by kernel_rfl) (by kernel_rfl) (by kernel_rfl) (Conv.refl _) ?_
  refine thenQ_normal ?_
  refine WpC.ret ?_
  have hq := Option.some.inj h
  subst hq
  exact ends_ret (retV_2 rfl (.head _) (.tail _ (.head _))) (by simp)

theorem stringslite_Cut.ok (O : Out) (k : Nat) (a0 : List UInt8) (a1 : List UInt8) (out : (List UInt8) × (List UInt8) × Bool) (h : stringslite_Cut.f k a0 a1 = some out) : COk Un O Try.prog 44 { ar := [.p .str a0, .p .str a1], r := .tup [.p .str out.1, .p .str out.2.1, .p .bool out.2.2] } := by
  refine cok_of_wp Try.func44 rfl (k := 23) rfl (Nat.le_of_ble_eq_true rfl) (namesOk_pure rfl rfl rfl rfl) ?_
  intro B hN
  refine WpC.conv (Conv.keep (b := ⟨[(0, .p .str a0), (1, .p .str a1)], []⟩) [0, 1] [] (by kernel_rfl)) ?_
  unfold stringslite_Cut.f at h
  refine WpC.seq ?_
  refine WpC.reg (st1 := ⟨[(0, .p .str a0), (1, .p .str a1)], []⟩) [0, 1] [] hN (.cons (sok_move (rs := []) rfl (.inr rfl) (.str _ _)) (.cons (sok_move (rs := []) rfl (.inr rfl) (.str _ _)) (.cons (sok_move (rs := []) rfl (.inr rfl) (.bool _ _)) .nil))) (by kernel_rfl) (by kernel_rfl) (by kernel_rfl) (Conv.refl _) ?_
  refine thenQ_normal ?_
  refine WpC.seq ?_
  refine WpC.seq ?_
  obtain ⟨v1, hv1, h⟩ := bind_some h
  refine WpC.reg (st1 := ⟨[(0, .p .str a0), (1, .p .str a1), (7, .p (.int .i64) v1)], []⟩) [0, 1, 7] [] hN (.cons (sok_move (rs := [(0, .p .str a0)]) rfl (.inl rfl) (.tmp (.head _))) (.cons (sok_move (rs := [(1, .p .str a1)]) rfl (.inl rfl) (.tmp (.head _))) (.cons (sok_call (rs := [(8, .p .str a0), (9, .p .str a1)]) (vw := []) rfl rfl hb_53 (pIndex.ok O k a0 a1 v1 hv1) (.cons (.tmp (.head _)) (.cons (.tmp (.tail _ (.head _))) .nil)) (.cons (.same _) (.cons (.same _) .nil)) (by simp) (.inl rfl)) (.cons (sok_move (rs := [(10, .p (.int .i64) v1)]) rfl (.inr rfl) (.tmp (.head _))) .nil)))) (by kernel_rfl) (by kernel_rfl) (by kernel_rfl) (Conv.refl _) ?_
  refine thenQ_normal ?_
  refine WpC.seq ?_
  refine WpC.reg (st1 := ⟨[(0, .p .str a0), (1, .p .str a1), (7, .p (.int .i64) v1), (12, .p .bool ((decide (v1 ≥ 0)) : Bool))], []⟩) [0, 1, 7, 12] [] hN (.cons (sok_move (rs := [(7, .p (.int .i64) v1)]) rfl (.inl rfl) (.tmp (.head _))) (.cons (sok_cmp (rs := [(11, .p (.int .i64) v1)]) rfl rfl (.tmp (.head _)) (.int _ _ _) rfl) .nil)) (by kernel_rfl) (by kernel_rfl) (by kernel_rfl) (Conv.refl _) ?_
  refine thenQ_normal ?_
  refine WpC.cond (b := (decide (v1 ≥ 0))) (.tmp (.tail _ (.tail _ (.tail _ (.head _))))) (fun hc2 => ?_) (fun hc2 => ?_)
  · replace h := ite_t hc2 h
    refine WpC.seq ?_
    obtain ⟨v3, hv3, h⟩ := bind_some h
    obtain ⟨v4, hv4, h⟩ := bind_some h
    refine WpC.regA (st1 := ⟨[(4, .p .str v3), (5, .p .str v4), (6, .p .bool true)], []⟩) [4, 5, 6] [] [[], [], [0, 1], [], [], [], [5], [4, 5, 6], [3, 4, 5, 6, 7], [0, 1, 2], [0, 1, 2, 3, 4, 5, 6, 7, 8, 9], [0, 1, 2, 3, 4, 5, 6, 7, 8, 9, 10]] mixed hN (.cons (sok_move (rs := [(0, .p .str a0)]) rfl (.inl rfl) (.tmp (.head _))) (.cons (sok_move (rs := [(7, .p (.int .i64) v1)]) rfl (.inl rfl) (.tmp (.head _))) (.cons (sok_sliceS (rs := [(13, .p .str a0), (14, .p (.int .i64) v1)]) rfl rfl Try.underlying9 (.tmp (.head _)) .no (.at (.tmp (.tail _ (.head _)))) hv3) (.cons (sok_move (rs := [(0, .p .str a0)]) rfl (.inl rfl) (.tmp (.head _))) (.cons (sok_move (rs := [(7, .p (.int .i64) v1)]) rfl (.inl rfl) (.tmp (.head _))) (.cons (sok_move (rs := [(1, .p .str a1)]) rfl (.inl rfl) (.tmp (.head _))) (.cons (sok_lenS (rs := [(18, .p .str a1)]) rfl rfl Try.underlying9 (.tmp (.head _))) (.cons (sok_arith (rs := [(17, .p (.int .i64) v1), (19, .p (.int .i64) ((a1.length : Int) : Int))]) rfl rfl (.tmp (.head _)) (.tmp (.tail _ (.head _))) rfl) (.cons (sok_sliceS (rs := [(16, .p .str a0), (20, .p (.int .i64) ((IntKind.i64.wrap (v1 + (a1.length : Int))) : Int))]) rfl rfl Try.underlying9 (.tmp (.head _)) (.at (.tmp (.tail _ (.head _)))) .no hv4) (.cons (sok_move (rs := [(15, .p .str v3)]) rfl (.inr rfl) (.tmp (.head _))) (.cons (sok_move (rs := [(21, .p .str v4)]) rfl (.inr rfl) (.tmp (.head _))) (.cons (sok_move (rs := []) rfl (.inr rfl) (.bool _ _)) .nil)))))))))))) (by kernel_rfl) (by kernel_rfl) (by kernel_rfl) (by kernel_rfl) (by kernel_rfl) (Conv.refl _) ?_
    refine thenQ_normal ?_
    refine WpC.ret ?_
    refine thenQ_ret ?_
    have hq := Option.some.inj h
    subst hq
    exact ends_ret (retV_3 rfl (.head _) (.tail _ (.head _)) (.tail _ (.tail _ (.head _)))) (by simp)
  · replace h := ite_f hc2 h
    refine WpC.conv (Conv.keep (b := ⟨[(0, .p .str a0)], []⟩) [0] [] (by kernel_rfl)) (WpC.skip ?_)
    refine thenQ_normal ?_
    refine WpC.seq ?_
    refine WpC.reg (st1 := ⟨[(4, .p .str a0), (5, .p .str (([] : List UInt8) : List UInt8)), (6, .p .bool false)], []⟩) [4, 5, 6] [] hN (.cons (sok_move (rs := [(0, .p .str a0)]) rfl (.inl rfl) (.tmp (.head _))) (.cons (sok_move (rs := [(22, .p .str a0)]) rfl (.inr rfl) (.tmp (.head _))) (.cons (sok_move (rs := []) rfl (.inr rfl) (.str _ _)) (.cons (sok_move (rs := []) rfl (.inr rfl) (.bool _ _)) .nil)))) (by kernel_rfl) (by kernel_rfl) (by kernel_rfl) (Conv.refl _) ?_
    refine thenQ_normal ?_
    refine WpC.ret ?_
    have hq := Option.some.inj h
    subst hq
    exact ends_ret (retV_3 rfl (.head _) (.tail _ (.head _)) (.tail _ (.tail _ (.head _)))) (by simp)

theorem strings_Cut.ok (O : Out) (k : Nat) (a0 : List UInt8) (a1 : List UInt8) (out : (List UInt8) × (List UInt8) × Bool) (h : strings_Cut.f k a0 a1 = some out) : COk Un O Try.prog 32 { ar := [.p .str a0, .p .str a1], r := .tup [.p .str out.1, .p .str out.2.1, .p .bool out.2.2] } := by
  refine cok_of_wp Try.func32 rfl (k := 13) rfl (Nat.le_of_ble_eq_true rfl) (namesOk_pure rfl rfl rfl rfl) ?_
  intro B hN
  refine WpC.conv (Conv.keep (b := ⟨[(0, .p .str a0), (1, .p .str a1)], []⟩) [0, 1] [] (by kernel_rfl)) ?_
  unfold strings_Cut.f at h
  refine WpC.seq ?_
  refine WpC.reg (st1 := ⟨[(0, .p .str a0), (1, .p .str a1)], []⟩) [0, 1] [] hN (.cons (sok_move (rs := []) rfl (.inr rfl) (.str _ _)) (.cons (sok_move (rs := []) rfl (.inr rfl) (.str _ _)) (.cons (sok_move (rs := []) rfl (.inr rfl) (.bool _ _)) .nil))) (by kernel_rfl) (by kernel_rfl) (by kernel_rfl) (Conv.refl _) ?_
  refine thenQ_normal ?_
  refine WpC.seq ?_
  obtain ⟨v1, hv1, h⟩ := bind_some h
  refine WpC.reg (st1 := ⟨[(4, .p .str v1.1), (5, .p .str v1.2.1), (6, .p .bool v1.2.2)], []⟩) [4, 5, 6] [] hN (.cons (sok_move (rs := [(0, .p .str a0)]) rfl (.inl rfl) (.tmp (.head _))) (.cons (sok_move (rs := [(1, .p .str a1)]) rfl (.inl rfl) (.tmp (.head _))) (.cons (sok_call (rs := [(7, .p .str a0), (8, .p .str a1)]) (vw := []) rfl rfl hb_44 (stringslite_Cut.ok O k a0 a1 v1 hv1) (.cons (.tmp (.head _)) (.cons (.tmp (.tail _ (.head _))) .nil)) (.cons (.same _) (.cons (.same _) .nil)) (by simp) (.inl rfl)) (.cons (sok_extract (rs := [(9, .tup [.p .str v1.1, .p .str v1.2.1, .p .bool v1.2.2])]) rfl rfl (.tmp (.head _)) rfl) (.cons (sok_extract (rs := [(9, .tup [.p .str v1.1, .p .str v1.2.1, .p .bool v1.2.2])]) rfl rfl (.tmp (.head _)) rfl) (.cons (sok_extract (rs := [(9, .tup [.p .str v1.1, .p .str v1.2.1, .p .bool v1.2.2])]) rfl rfl (.tmp (.head _)) rfl) (.cons (sok_move (rs := [(10, .p .str v1.1)]) rfl (.inr rfl) (.tmp (.head _))) (.cons (sok_move (rs := [(11, .p .str v1.2.1)]) rfl (.inr rfl) (.tmp (.head _))) (.cons (sok_move (rs := [(12, .p .bool v1.2.2)]) rfl (.inr rfl) (.tmp (.head _))) .nil))))))))) (by kernel_rfl) (by kernel_rfl) (by kernel_rfl) (Conv.refl _) ?_
  refine thenQ_normal ?_
  refine WpC.ret ?_
  have hq := Option.some.inj h
  subst hq
  exact ends_ret (retV_3 rfl (.head _) (.tail _ (.head _)) (.tail _ (.tail _ (.head _)))) (by simp)

theorem strings_Index.ok (O : Out) (k : Nat) (a0 : List UInt8) (a1 : List UInt8) (out : Int) (h : strings_Index.f k a0 a1 = some out) : COk Un O Try.prog 45 { ar := [.p .str a0, .p .str a1], r := .p (.int .i64) out } := by
  refine cok_of_wp Try.func45 rfl (k := 8) rfl (Nat.le_of_ble_eq_true rfl) (namesOk_pure rfl rfl rfl rfl) ?_
  intro B hN
  refine WpC.conv (Conv.keep (b := ⟨[(0, .p .str a0), (1, .p .str a1)], []⟩) [0, 1] [] (by kernel_rfl)) ?_
  unfold strings_Index.f at h
  refine WpC.seq ?_
  refine WpC.reg (st1 := ⟨[(0, .p .str a0), (1, .p .str a1)], []⟩) [0, 1] [] hN (.cons (sok_move (rs := []) rfl (.inr rfl) (.int _ _ _)) .nil) (by kernel_rfl) (by kernel_rfl) (by kernel_rfl) (Conv.refl _) ?_
  refine thenQ_normal ?_
  refine WpC.seq ?_
  obtain ⟨v1, hv1, h⟩ := bind_some h
  refine WpC.reg (st1 := ⟨[(4, .p (.int .i64) v1)], []⟩) [4] [] hN (.cons (sok_move (rs := [(0, .p .str a0)]) rfl (.inl rfl) (.tmp (.head _))) (.cons (sok_move (rs := [(1, .p .str a1)]) rfl (.inl rfl) (.tmp (.head _))) (.cons (sok_call (rs := [(5, .p .str a0), (6, .p .str a1)]) (vw := []) rfl rfl hb_53 (pIndex.ok O k a0 a1 v1 hv1) (.cons (.tmp (.head _)) (.cons (.tmp (.tail _ (.head _))) .nil)) (.cons (.same _) (.cons (.same _) .nil)) (by simp) (.inl rfl)) (.cons (sok_move (rs := [(7, .p (.int .i64) v1)]) rfl (.inr rfl) (.tmp (.head _))) .nil)))) (by kernel_rfl) (by kernel_rfl) (by kernel_rfl) (Conv.refl _) ?_
  refine thenQ_normal ?_
  refine WpC.ret ?_
  have hq := Option.some.inj h
  subst hq
  exact ends_ret (retV_1 rfl (.head _)) (by simp)

theorem strings_Contains.ok (O : Out) (k : Nat) (a0 : List UInt8) (a1 : List UInt8) (out : Bool) (h : strings_Contains.f k a0 a1 = some out) : COk Un O Try.prog 33 { ar := [.p .str a0, .p .str a1], r := .p .bool out } := by
  refine cok_of_wp Try.func33 rfl (k := 9) rfl (Nat.le_of_ble_eq_true rfl) (namesOk_pure rfl rfl rfl rfl) ?_
  intro B hN
  refine WpC.conv (Conv.keep (b := ⟨[(0, .p .str a0), (1, .p .str a1)], []⟩) [0, 1] [] (by kernel_rfl)) ?_
  unfold strings_Contains.f at h
  refine WpC.seq ?_
  refine WpC.reg (st1 := ⟨[(0, .p .str a0), (1, .p .str a1)], []⟩) [0, 1] [] hN (.cons (sok_move (rs := []) rfl (.inr rfl) (.bool _ _)) .nil) (by kernel_rfl) (by kernel_rfl) (by kernel_rfl) (Conv.refl _) ?_
  refine thenQ_normal ?_
  refine WpC.seq ?_
  obtain ⟨v1, hv1, h⟩ := bind_some h
  refine WpC.reg (st1 := ⟨[(4, .p .bool ((decide (v1 ≥ 0)) : Bool))], []⟩) [4] [] hN (.cons (sok_move (rs := [(0, .p .str a0)]) rfl (.inl rfl) (.tmp (.head _))) (.cons (sok_move (rs := [(1, .p .str a1)]) rfl (.inl rfl) (.tmp (.head _))) (.cons (sok_call (rs := [(5, .p .str a0), (6, .p .str a1)]) (vw := []) rfl rfl hb_45 (strings_Index.ok O k a0 a1 v1 hv1) (.cons (.tmp (.head _)) (.cons (.tmp (.tail _ (.head _))) .nil)) (.cons (.same _) (.cons (.same _) .nil)) (by simp) (.inl rfl)) (.cons (sok_cmp (rs := [(7, .p (.int .i64) v1)]) rfl rfl (.tmp (.head _)) (.int _ _ _) rfl) (.cons (sok_move (rs := [(8, .p .bool ((decide (v1 ≥ 0)) : Bool))]) rfl (.inr rfl) (.tmp (.head _))) .nil))))) (by kernel_rfl) (by kernel_rfl) (by kernel_rfl) (Conv.refl _) ?_
  refine thenQ_normal ?_
  refine WpC.ret ?_
  have hq := Option.some.inj h
  subst hq
  exact ends_ret (retV_1 rfl (.head _)) (by simp)

theorem names_Member.ok (O : Out) (k : Nat) (a0 : List UInt8) (out : (List UInt8) × (List UInt8) × Bool) (h : names_Member.f k a0 = some out) : COk Un O Try.prog 8 { ar := [.p .str a0], r := .tup [.p .str out.1, .p .str out.2.1, .p .bool out.2.2] } := by
  refine cok_of_wp Try.func8 rfl (k := 48) rfl (Nat.le_of_ble_eq_true rfl) (namesOk_pure rfl rfl rfl rfl) ?_
  intro B hN
  refine WpC.conv (Conv.keep (b := ⟨[(0, .p .str a0)], []⟩) [0] [] (by kernel_rfl)) ?_
  unfold names_Member.f at h
  refine WpC.seq ?_
  refine WpC.reg (st1 := ⟨[(0, .p .str a0)], []⟩) [0] [] hN (.cons (sok_move (rs := []) rfl (.inr rfl) (.str _ _)) (.cons (sok_move (rs := []) rfl (.inr rfl) (.str _ _)) (.cons (sok_move (rs := []) rfl (.inr rfl) (.bool _ _)) .nil))) (by kernel_rfl) (by kernel_rfl) (by kernel_rfl) (Conv.refl _) ?_
  refine thenQ_normal ?_
  refine WpC.seq ?_
  obtain ⟨v1, hv1, h⟩ := bind_some h
  refine WpC.reg (st1 := ⟨[(0, .p .str a0), (5, .p .str v1.1), (6, .p .bool v1.2)], []⟩) [0, 5, 6] [] hN (.cons (sok_move (rs := [(0, .p .str a0)]) rfl (.inl rfl) (.tmp (.head _))) (.cons (sok_call (rs := [(9, .p .str a0)]) (vw := []) rfl rfl hb_31 (strings_CutSuffix.ok O k a0 ([41] : List UInt8) v1 hv1) (.cons (.tmp (.head _)) (.cons (.str _ _) .nil)) (.cons (.same _) (.cons (.same _) .nil)) (by simp) (.inl rfl)) (.cons (sok_move (rs := [(10, .tup [.p .str v1.1, .p .bool v1.2])]) rfl (.inl rfl) (.tmp (.head _))) (.cons (sok_extract (rs := [(8, .tup [.p .str v1.1, .p .bool v1.2])]) rfl rfl (.tmp (.head _)) rfl) (.cons (sok_extract (rs := [(8, .tup [.p .str v1.1, .p .bool v1.2])]) rfl rfl (.tmp (.head _)) rfl) (.cons (sok_move (rs := [(11, .p .str v1.1)]) rfl (.inr rfl) (.tmp (.head _))) (.cons (sok_move (rs := [(12, .p .bool v1.2)]) rfl (.inr rfl) (.tmp (.head _))) .nil))))))) (by kernel_rfl) (by kernel_rfl) (by kernel_rfl) (Conv.refl _) ?_
  refine thenQ_normal ?_
  refine WpC.seq ?_
  obtain ⟨v2, hv2, h⟩ := bind_some h
  refine WpC.reg (st1 := ⟨[(0, .p .str a0), (2, .p .str v2.1), (3, .p .str v2.2.1), (5, .p .str v1.1), (6, .p .bool v1.2), (7, .p .bool v2.2.2)], []⟩) [0, 2, 3, 5, 6, 7] [] hN (.cons (sok_move (rs := [(5, .p .str v1.1)]) rfl (.inl rfl) (.tmp (.head _))) (.cons (sok_call (rs := [(14, .p .str v1.1)]) (vw := []) rfl rfl hb_32 (strings_Cut.ok O k v1.1 ([40] : List UInt8) v2 hv2) (.cons (.tmp (.head _)) (.cons (.str _ _) .nil)) (.cons (.same _) (.cons (.same _) .nil)) (by simp) (.inl rfl)) (.cons (sok_move (rs := [(15, .tup [.p .str v2.1, .p .str v2.2.1, .p .bool v2.2.2])]) rfl (.inl rfl) (.tmp (.head _))) (.cons (sok_extract (rs := [(13, .tup [.p .str v2.1, .p .str v2.2.1, .p .bool v2.2.2])]) rfl rfl (.tmp (.head _)) rfl) (.cons (sok_extract (rs := [(13, .tup [.p .str v2.1, .p .str v2.2.1, .p .bool v2.2.2])]) rfl rfl (.tmp (.head _)) rfl) (.cons (sok_extract (rs := [(13, .tup [.p .str v2.1, .p .str v2.2.1, .p .bool v2.2.2])]) rfl rfl (.tmp (.head _)) rfl) (.cons (sok_move (rs := [(16, .p .str v2.1)]) rfl (.inr rfl) (.tmp (.head _))) (.cons (sok_move (rs := [(17, .p .str v2.2.1)]) rfl (.inr rfl) (.tmp (.head _))) (.cons (sok_move (rs := [(18, .p .bool v2.2.2)]) rfl (.inr rfl) (.tmp (.head _))) .nil))))))))) (by kernel_rfl) (by kernel_rfl) (by kernel_rfl) (Conv.refl _) ?_
  refine thenQ_normal ?_
  refine WpC.seqJ (fun st' => names_Member.j3 k v2 = some out ∧ st' = ⟨[(2, .p .str v2.1), (3, .p .str v2.2.1)], []⟩) ?_ ?_
  · refine WpC.seqJ (fun st' => ∃ v4 : Bool, names_Member.j6 k v2 v4 = some out ∧ st' = ⟨[(2, .p .str v2.1), (3, .p .str v2.2.1), (45, .p .bool v4)], []⟩) ?_ ?_
    · obtain ⟨v7, hv7, h⟩ := bind_some h
      rcases bool_cases (!v7) with hc8 | hc8
      · replace h := ite_t hc8 h
        refine WpC.reg (st1 := ⟨[(2, .p .str v2.1), (3, .p .str v2.2.1), (45, .p .bool true)], []⟩) [2, 3, 45] [] hN (.cons (sok_move (rs := [(0, .p .str a0)]) rfl (.inl rfl) (.tmp (.head _))) (.cons (sok_call (rs := [(19, .p .str a0)]) (vw := []) rfl rfl hb_10 (names_Right.ok O k a0 v7 hv7) (.cons (.tmp (.head _)) .nil) (.cons (.same _) .nil) (by simp) (.inl rfl)) (.cons (sok_not (rs := [(20, .p .bool v7)]) rfl rfl (.tmp (.head _))) (.cons (sok_move (rs := [(21, .p .bool ((!v7) : Bool))]) rfl (.inl rfl) (.tmp (.head _))) (.cons (sok_skip rfl rfl hc8) (.cons (sok_skip rfl rfl hc8) (.cons (sok_pickT (rs := [(22, .p .bool ((!v7) : Bool))]) rfl rfl (.tmp (.head _)) hc8 (.bool _ _)) (.cons (sok_move (rs := [(25, .p .bool true)]) rfl (.inl rfl) (.tmp (.head _))) (.cons (sok_skip rfl rfl rfl) (.cons (sok_skip rfl rfl rfl) (.cons (sok_pickT (rs := [(26, .p .bool true)]) rfl rfl (.tmp (.head _)) rfl (.bool _ _)) (.cons (sok_move (rs := [(29, .p .bool true)]) rfl (.inl rfl) (.tmp (.head _))) (.cons (sok_skip rfl rfl rfl) (.cons (sok_skip rfl rfl rfl) (.cons (sok_pickT (rs := [(30, .p .bool true)]) rfl rfl (.tmp (.head _)) rfl (.bool _ _)) (.cons (sok_move (rs := [(33, .p .bool true)]) rfl (.inl rfl) (.tmp (.head _))) (.cons (sok_skip rfl rfl rfl) (.cons (sok_skip rfl rfl rfl) (.cons (sok_pickT (rs := [(34, .p .bool true)]) rfl rfl (.tmp (.head _)) rfl (.bool _ _)) (.cons (sok_move (rs := [(37, .p .bool true)]) rfl (.inl rfl) (.tmp (.head _))) (.cons (sok_skip rfl rfl rfl) (.cons (sok_skip rfl rfl rfl) (.cons (sok_pickT (rs := [(38, .p .bool true)]) rfl rfl (.tmp (.head _)) rfl (.bool _ _)) (.cons (sok_move (rs := [(41, .p .bool true)]) rfl (.inl rfl) (.tmp (.head _))) (.cons (sok_skip rfl rfl rfl) (.cons (sok_skip rfl rfl rfl) (.cons (sok_pickT (rs := [(42, .p .bool true)]) rfl rfl (.tmp (.head _)) rfl (.bool _ _)) .nil))))))))))))))))))))))))))) (by kernel_rfl) (by kernel_rfl) (by kernel_rfl) (Conv.refl _) ?_
        refine thenQ_normal ?_
        exact ⟨true, h, rfl⟩
      · replace h := ite_f hc8 h
        rcases bool_cases (!v1.2) with hc9 | hc9
        · replace h := ite_t hc9 h
          refine WpC.reg (st1 := ⟨[(2, .p .str v2.1), (3, .p .str v2.2.1), (45, .p .bool true)], []⟩) [2, 3, 45] [] hN (.cons (sok_move (rs := [(0, .p .str a0)]) rfl (.inl rfl) (.tmp (.head _))) (.cons (sok_call (rs := [(19, .p .str a0)]) (vw := []) rfl rfl hb_10 (names_Right.ok O k a0 v7 hv7) (.cons (.tmp (.head _)) .nil) (.cons (.same _) .nil) (by simp) (.inl rfl)) (.cons (sok_not (rs := [(20, .p .bool v7)]) rfl rfl (.tmp (.head _))) (.cons (sok_move (rs := [(21, .p .bool ((!v7) : Bool))]) rfl (.inl rfl) (.tmp (.head _))) (.cons (sok_run rfl rfl hc8 (sok_move (rs := [(6, .p .bool v1.2)]) rfl (.inl rfl) (.tmp (.head _)))) (.cons (sok_run rfl rfl hc8 (sok_not (rs := [(23, .p .bool v1.2)]) rfl rfl (.tmp (.head _)))) (.cons (sok_pickF (rs := [(22, .p .bool ((!v7) : Bool)), (24, .p .bool ((!v1.2) : Bool))]) rfl rfl (.tmp (.head _)) hc8 (.tmp (.tail _ (.head _)))) (.cons (sok_move (rs := [(25, .p .bool ((!v1.2) : Bool))]) rfl (.inl rfl) (.tmp (.head _))) (.cons (sok_skip rfl rfl hc9) (.cons (sok_skip rfl rfl hc9) (.cons (sok_pickT (rs := [(26, .p .bool ((!v1.2) : Bool))]) rfl rfl (.tmp (.head _)) hc9 (.bool _ _)) (.cons (sok_move (rs := [(29, .p .bool true)]) rfl (.inl rfl) (.tmp (.head _))) (.cons (sok_skip rfl rfl rfl) (.cons (sok_skip rfl rfl rfl) (.cons (sok_pickT (rs := [(30, .p .bool true)]) rfl rfl (.tmp (.head _)) rfl (.bool _ _)) (.cons (sok_move (rs := [(33, .p .bool true)]) rfl (.inl rfl) (.tmp (.head _))) (.cons (sok_skip rfl rfl rfl) (.cons (sok_skip rfl rfl rfl) (.cons (sok_pickT (rs := [(34, .p .bool true)]) rfl rfl (.tmp (.head _)) rfl (.bool _ _)) (.cons (sok_move (rs := [(37, .p .bool true)]) rfl (.inl rfl) (.tmp (.head _))) (.cons (sok_skip rfl rfl rfl) (.cons (sok_skip rfl rfl rfl) (.cons (sok_pickT (rs := [(38, .p .bool true)]) rfl rfl (.tmp (.head _)) rfl (.bool _ _)) (.cons (sok_move (rs := [(41, .p .bool true)]) rfl (.inl rfl) (.tmp (.head _))) (.cons (sok_skip rfl rfl rfl) (.cons (sok_skip rfl rfl rfl) (.cons (sok_pickT (rs := [(42, .p .bool true)]) rfl rfl (.tmp (.head _)) rfl (.bool _ _)) .nil))))))))))))))))))))))))))) (by kernel_rfl) (by kernel_rfl) (by kernel_rfl) (Conv.refl _) ?_
          refine thenQ_normal ?_
          exact ⟨true, h, rfl⟩
        · replace h := ite_f hc9 h
          rcases bool_cases (!v2.2.2) with hc10 | hc10
          · replace h := ite_t hc10 h
            refine WpC.reg (st1 := ⟨[(2, .p .str v2.1), (3, .p .str v2.2.1), (45, .p .bool true)], []⟩) [2, 3, 45] [] hN (.cons (sok_move (rs := [(0, .p .str a0)]) rfl (.inl rfl) (.tmp (.head _))) (.cons (sok_call (rs := [(19, .p .str a0)]) (vw := []) rfl rfl hb_10 (names_Right.ok O k a0 v7 hv7) (.cons (.tmp (.head _)) .nil) (.cons (.same _) .nil) (by simp) (.inl rfl)) (.cons (sok_not (rs := [(20, .p .bool v7)]) rfl rfl (.tmp (.head _))) (.cons (sok_move (rs := [(21, .p .bool ((!v7) : Bool))]) rfl (.inl rfl) (.tmp (.head _))) (.cons (sok_run rfl rfl hc8 (sok_move (rs := [(6, .p .bool v1.2)]) rfl (.inl rfl) (.tmp (.head _)))) (.cons (sok_run rfl rfl hc8 (sok_not (rs := [(23, .p .bool v1.2)]) rfl rfl (.tmp (.head _)))) (.cons (sok_pickF (rs := [(22, .p .bool ((!v7) : Bool)), (24, .p .bool ((!v1.2) : Bool))]) rfl rfl (.tmp (.head _)) hc8 (.tmp (.tail _ (.head _)))) (.cons (sok_move (rs := [(25, .p .bool ((!v1.2) : Bool))]) rfl (.inl rfl) (.tmp (.head _))) (.cons (sok_run rfl rfl hc9 (sok_move (rs := [(7, .p .bool v2.2.2)]) rfl (.inl rfl) (.tmp (.head _)))) (.cons (sok_run rfl rfl hc9 (sok_not (rs := [(27, .p .bool v2.2.2)]) rfl rfl (.tmp (.head _)))) (.cons (sok_pickF (rs := [(26, .p .bool ((!v1.2) : Bool)), (28, .p .bool ((!v2.2.2) : Bool))]) rfl rfl (.tmp (.head _)) hc9 (.tmp (.tail _ (.head _)))) (.cons (sok_move (rs := [(29, .p .bool ((!v2.2.2) : Bool))]) rfl (.inl rfl) (.tmp (.head _))) (.cons (sok_skip rfl rfl hc10) (.cons (sok_skip rfl rfl hc10) (.cons (sok_pickT (rs := [(30, .p .bool ((!v2.2.2) : Bool))]) rfl rfl (.tmp (.head _)) hc10 (.bool _ _)) (.cons (sok_move (rs := [(33, .p .bool true)]) rfl (.inl rfl) (.tmp (.head _))) (.cons (sok_skip rfl rfl rfl) (.cons (sok_skip rfl rfl rfl) (.cons (sok_pickT (rs := [(34, .p .bool true)]) rfl rfl (.tmp (.head _)) rfl (.bool _ _)) (.cons (sok_move (rs := [(37, .p .bool true)]) rfl (.inl rfl) (.tmp (.head _))) (.cons (sok_skip rfl rfl rfl) (.cons (sok_skip rfl rfl rfl) (.cons (sok_pickT (rs := [(38, .p .bool true)]) rfl rfl (.tmp (.head _)) rfl (.bool _ _)) (.cons (sok_move (rs := [(41, .p .bool true)]) rfl (.inl rfl) (.tmp (.head _))) (.cons (sok_skip rfl rfl rfl) (.cons (sok_skip rfl rfl rfl) (.cons (sok_pickT (rs := [(42, .p .bool true)]) rfl rfl (.tmp (.head _)) rfl (.bool _ _)) .nil))))))))))))))))))))))))))) (by kernel_rfl) (by kernel_rfl) (by kernel_rfl) (Conv.refl _) ?_
            refine thenQ_normal ?_
            exact ⟨true, h, rfl⟩
          · replace h := ite_f hc10 h
            rcases bool_cases (v2.1 == ([] : List UInt8)) with hc11 | hc11
            · replace h := ite_t hc11 h
              refine WpC.reg (st1 := ⟨[(2, .p .str v2.1), (3, .p .str v2.2.1), (45, .p .bool true)], []⟩) [2, 3, 45] [] hN (.cons (sok_move (rs := [(0, .p .str a0)]) rfl (.inl rfl) (.tmp (.head _))) (.cons (sok_call (rs := [(19, .p .str a0)]) (vw := []) rfl rfl hb_10 (names_Right.ok O k a0 v7 hv7) (.cons (.tmp (.head _)) .nil) (.cons (.same _) .nil) (by simp) (.inl rfl)) (.cons (sok_not (rs := [(20, .p .bool v7)]) rfl rfl (.tmp (.head _))) (.cons (sok_move (rs := [(21, .p .bool ((!v7) : Bool))]) rfl (.inl rfl) (.tmp (.head _))) (.cons (sok_run rfl rfl hc8 (sok_move (rs := [(6, .p .bool v1.2)]) rfl (.inl rfl) (.tmp (.head _)))) (.cons (sok_run rfl rfl hc8 (sok_not (rs := [(23, .p .bool v1.2)]) rfl rfl (.tmp (.head _)))) (.cons (sok_pickF (rs := [(22, .p .bool ((!v7) : Bool)), (24, .p .bool ((!v1.2) : Bool))]) rfl rfl (.tmp (.head _)) hc8 (.tmp (.tail _ (.head _)))) (.cons (sok_move (rs := [(25, .p .bool ((!v1.2) : Bool))]) rfl (.inl rfl) (.tmp (.head _))) (.cons (sok_run rfl rfl hc9 (sok_move (rs := [(7, .p .bool v2.2.2)]) rfl (.inl rfl) (.tmp (.head _)))) (.cons (sok_run rfl rfl hc9 (sok_not (rs := [(27, .p .bool v2.2.2)]) rfl rfl (.tmp (.head _)))) (.cons (sok_pickF (rs := [(26, .p .bool ((!v1.2) : Bool)), (28, .p .bool ((!v2.2.2) : Bool))]) rfl rfl (.tmp (.head _)) hc9 (.tmp (.tail _ (.head _)))) (.cons (sok_move (rs := [(29, .p .bool ((!v2.2.2) : Bool))]) rfl (.inl rfl) (.tmp (.head _))) (.cons (sok_run rfl rfl hc10 (sok_move (rs := [(2, .p .str v2.1)]) rfl (.inl rfl) (.tmp (.head _)))) (.cons (sok_run rfl rfl hc10 (sok_cmpS (rs := [(31, .p .str v2.1)]) rfl rfl (.tmp (.head _)) (.str _ _) rfl)) (.cons (sok_pickF (rs := [(30, .p .bool ((!v2.2.2) : Bool)), (32, .p .bool ((v2.1 == ([] : List UInt8)) : Bool))]) rfl rfl (.tmp (.head _)) hc10 (.tmp (.tail _ (.head _)))) (.cons (sok_move (rs := [(33, .p .bool ((v2.1 == ([] : List UInt8)) : Bool))]) rfl (.inl rfl) (.tmp (.head _))) (.cons (sok_skip rfl rfl hc11) (.cons (sok_skip rfl rfl hc11) (.cons (sok_pickT (rs := [(34, .p .bool ((v2.1 == ([] : List UInt8)) : Bool))]) rfl rfl (.tmp (.head _)) hc11 (.bool _ _)) (.cons (sok_move (rs := [(37, .p .bool true)]) rfl (.inl rfl) (.tmp (.head _))) (.cons (sok_skip rfl rfl rfl) (.cons (sok_skip rfl rfl rfl) (.cons (sok_pickT (rs := [(38, .p .bool true)]) rfl rfl (.tmp (.head _)) rfl (.bool _ _)) (.cons (sok_move (rs := [(41, .p .bool true)]) rfl (.inl rfl) (.tmp (.head _))) (.cons (sok_skip rfl rfl rfl) (.cons (sok_skip rfl rfl rfl) (.cons (sok_pickT (rs := [(42, .p .bool true)]) rfl rfl (.tmp (.head _)) rfl (.bool _ _)) .nil))))))))))))))))))))))))))) (by kernel_rfl) (by kernel_rfl) (by kernel_rfl) (Conv.refl _) ?_
              refine thenQ_normal ?_
              exact ⟨true, h, rfl⟩
            · replace h := ite_f hc11 h
              rcases bool_cases (v2.2.1 == ([] : List UInt8)) with hc12 | hc12
              · replace h := ite_t hc12 h
                refine WpC.reg (st1 := ⟨[(2, .p .str v2.1), (3, .p .str v2.2.1), (45, .p .bool true)], []⟩) [2, 3, 45] [] hN (.cons (sok_move (rs := [(0, .p .str a0)]) rfl (.inl rfl) (.tmp (.head _))) (.cons (sok_call (rs := [(19, .p .str a0)]) (vw := []) rfl rfl hb_10 (names_Right.ok O k a0 v7 hv7) (.cons (.tmp (.head _)) .nil) (.cons (.same _) .nil) (by simp) (.inl rfl)) (.cons (sok_not (rs := [(20, .p .bool v7)]) rfl rfl (.tmp (.head _))) (.cons (sok_move (rs := [(21, .p .bool ((!v7) : Bool))]) rfl (.inl rfl) (.tmp (.head _))) (.cons (sok_run rfl rfl hc8 (sok_move (rs := [(6, .p .bool v1.2)]) rfl (.inl rfl) (.tmp (.head _)))) (.cons (sok_run rfl rfl hc8 (sok_not (rs := [(23, .p .bool v1.2)]) rfl rfl (.tmp (.head _)))) (.cons (sok_pickF (rs := [(22, .p .bool ((!v7) : Bool)), (24, .p .bool ((!v1.2) : Bool))]) rfl rfl (.tmp (.head _)) hc8 (.tmp (.tail _ (.head _)))) (.cons (sok_move (rs := [(25, .p .bool ((!v1.2) : Bool))]) rfl (.inl rfl) (.tmp (.head _))) (.cons (sok_run rfl rfl hc9 (sok_move (rs := [(7, .p .bool v2.2.2)]) rfl (.inl rfl) (.tmp (.head _)))) (.cons (sok_run rfl rfl hc9 (sok_not (rs := [(27, .p .bool v2.2.2)]) rfl rfl (.tmp (.head _)))) (.cons (sok_pickF (rs := [(26, .p .bool ((!v1.2) : Bool)), (28, .p .bool ((!v2.2.2) : Bool))]) rfl rfl (.tmp (.head _)) hc9 (.tmp (.tail _ (.head _)))) (.cons (sok_move (rs := [(29, .p .bool ((!v2.2.2) : Bool))]) rfl (.inl rfl) (.tmp (.head _))) (.cons (sok_run rfl rfl hc10 (sok_move (rs := [(2, .p .str v2.1)]) rfl (.inl rfl) (.tmp (.head _)))) (.cons (sok_run rfl rfl hc10 (sok_cmpS (rs := [(31, .p .str v2.1)]) rfl rfl (.tmp (.head _)) (.str _ _) rfl)) (.cons (sok_pickF (rs := [(30, .p .bool ((!v2.2.2) : Bool)), (32, .p .bool ((v2.1 == ([] : List UInt8)) : Bool))]) rfl rfl (.tmp (.head _)) hc10 (.tmp (.tail _ (.head _)))) (.cons (sok_move (rs := [(33, .p .bool ((v2.1 == ([] : List UInt8)) : Bool))]) rfl (.inl rfl) (.tmp (.head _))) (.cons (sok_run rfl rfl hc11 (sok_move (rs := [(3, .p .str v2.2.1)]) rfl (.inl rfl) (.tmp (.head _)))) (.cons (sok_run rfl rfl hc11 (sok_cmpS (rs := [(35, .p .str v2.2.1)]) rfl rfl (.tmp (.head _)) (.str _ _) rfl)) (.cons (sok_pickF (rs := [(34, .p .bool ((v2.1 == ([] : List UInt8)) : Bool)), (36, .p .bool ((v2.2.1 == ([] : List UInt8)) : Bool))]) rfl rfl (.tmp (.head _)) hc11 (.tmp (.tail _ (.head _)))) (.cons (sok_move (rs := [(37, .p .bool ((v2.2.1 == ([] : List UInt8)) : Bool))]) rfl (.inl rfl) (.tmp (.head _))) (.cons (sok_skip rfl rfl hc12) (.cons (sok_skip rfl rfl hc12) (.cons (sok_pickT (rs := [(38, .p .bool ((v2.2.1 == ([] : List UInt8)) : Bool))]) rfl rfl (.tmp (.head _)) hc12 (.bool _ _)) (.cons (sok_move (rs := [(41, .p .bool true)]) rfl (.inl rfl) (.tmp (.head _))) (.cons (sok_skip rfl rfl rfl) (.cons (sok_skip rfl rfl rfl) (.cons (sok_pickT (rs := [(42, .p .bool true)]) rfl rfl (.tmp (.head _)) rfl (.bool _ _)) .nil))))))))))))))))))))))))))) (by kernel_rfl) (by kernel_rfl) (by kernel_rfl) (Conv.refl _) ?_
                refine thenQ_normal ?_
                exact ⟨true, h, rfl⟩
              · replace h := ite_f hc12 h
                obtain ⟨v13, hv13, h⟩ := bind_some h
                rcases bool_cases v13 with hc14 | hc14
                · replace h := ite_t hc14 h
                  refine WpC.reg (st1 := ⟨[(2, .p .str v2.1), (3, .p .str v2.2.1), (45, .p .bool true)], []⟩) [2, 3, 45] [] hN (.cons (sok_move (rs := [(0, .p .str a0)]) rfl (.inl rfl) (.tmp (.head _))) (.cons (sok_call (rs := [(19, .p .str a0)]) (vw := []) rfl rfl hb_10 (names_Right.ok O k a0 v7 hv7) (.cons (.tmp (.head _)) .nil) (.cons (.same _) .nil) (by simp) (.inl rfl)) (.cons (sok_not (rs := [(20, .p .bool v7)]) rfl rfl (.tmp (.head _))) (.cons (sok_move (rs := [(21, .p .bool ((!v7) : Bool))]) rfl (.inl rfl) (.tmp (.head _))) (.cons (sok_run rfl rfl hc8 (sok_move (rs := [(6, .p .bool v1.2)]) rfl (.inl rfl) (.tmp (.head _)))) (.cons (sok_run rfl rfl hc8 (sok_not (rs := [(23, .p .bool v1.2)]) rfl rfl (.tmp (.head _)))) (.cons (sok_pickF (rs := [(22, .p .bool ((!v7) : Bool)), (24, .p .bool ((!v1.2) : Bool))]) rfl rfl (.tmp (.head _)) hc8 (.tmp (.tail _ (.head _)))) (.cons (sok_move (rs := [(25, .p .bool ((!v1.2) : Bool))]) rfl (.inl rfl) (.tmp (.head _))) (.cons (sok_run rfl rfl hc9 (sok_move (rs := [(7, .p .bool v2.2.2)]) rfl (.inl rfl) (.tmp (.head _)))) (.cons (sok_run rfl rfl hc9 (sok_not (rs := [(27, .p .bool v2.2.2)]) rfl rfl (.tmp (.head _)))) (.cons (sok_pickF (rs := [(26, .p .bool ((!v1.2) : Bool)), (28, .p .bool ((!v2.2.2) : Bool))]) rfl rfl (.tmp (.head _)) hc9 (.tmp (.tail _ (.head _)))) (.cons (sok_move (rs := [(29, .p .bool ((!v2.2.2) : Bool))]) rfl (.inl rfl) (.tmp (.head _))) (.cons (sok_run rfl rfl hc10 (sok_move (rs := [(2, .p .str v2.1)]) rfl (.inl rfl) (.tmp (.head _)))) (.cons (sok_run rfl rfl hc10 (sok_cmpS (rs := [(31, .p .str v2.1)]) rfl rfl (.tmp (.head _)) (.str _ _) rfl)) (.cons (sok_pickF (rs := [(30, .p .bool ((!v2.2.2) : Bool)), (32, .p .bool ((v2.1 == ([] : List UInt8)) : Bool))]) rfl rfl (.tmp (.head _)) hc10 (.tmp (.tail _ (.head _)))) (.cons (sok_move (rs := [(33, .p .bool ((v2.1 == ([] : List UInt8)) : Bool))]) rfl (.inl rfl) (.tmp (.head _))) (.cons (sok_run rfl rfl hc11 (sok_move (rs := [(3, .p .str v2.2.1)]) rfl (.inl rfl) (.tmp (.head _)))) (.cons (sok_run rfl rfl hc11 (sok_cmpS (rs := [(35, .p .str v2.2.1)]) rfl rfl (.tmp (.head _)) (.str _ _) rfl)) (.cons (sok_pickF (rs := [(34, .p .bool ((v2.1 == ([] : List UInt8)) : Bool)), (36, .p .bool ((v2.2.1 == ([] : List UInt8)) : Bool))]) rfl rfl (.tmp (.head _)) hc11 (.tmp (.tail _ (.head _)))) (.cons (sok_move (rs := [(37, .p .bool ((v2.2.1 == ([] : List UInt8)) : Bool))]) rfl (.inl rfl) (.tmp (.head _))) (.cons (sok_run rfl rfl hc12 (sok_move (rs := [(3, .p .str v2.2.1)]) rfl (.inl rfl) (.tmp (.head _)))) (.cons (sok_run rfl rfl hc12 (sok_call (rs := [(39, .p .str v2.2.1)]) (vw := []) rfl rfl hb_33 (strings_Contains.ok O k v2.2.1 ([40] : List UInt8) v13 hv13) (.cons (.tmp (.head _)) (.cons (.str _ _) .nil)) (.cons (.same _) (.cons (.same _) .nil)) (by simp) (.inl rfl))) (.cons (sok_pickF (rs := [(38, .p .bool ((v2.2.1 == ([] : List UInt8)) : Bool)), (40, .p .bool v13)]) rfl rfl (.tmp (.head _)) hc12 (.tmp (.tail _ (.head _)))) (.cons (sok_move (rs := [(41, .p .bool v13)]) rfl (.inl rfl) (.tmp (.head _))) (.cons (sok_skip rfl rfl hc14) (.cons (sok_skip rfl rfl hc14) (.cons (sok_pickT (rs := [(42, .p .bool v13)]) rfl rfl (.tmp (.head _)) hc14 (.bool _ _)) .nil))))))))))))))))))))))))))) (by kernel_rfl) (by kernel_rfl) (by kernel_rfl) (Conv.refl _) ?_
                  refine thenQ_normal ?_
                  exact ⟨true, h, rfl⟩
                · replace h := ite_f hc14 h
                  obtain ⟨v15, hv15, h⟩ := bind_some h
                  refine WpC.reg (st1 := ⟨[(2, .p .str v2.1), (3, .p .str v2.2.1), (45, .p .bool v15)], []⟩) [2, 3, 45] [] hN (.cons (sok_move (rs := [(0, .p .str a0)]) rfl (.inl rfl) (.tmp (.head _))) (.cons (sok_call (rs := [(19, .p .str a0)]) (vw := []) rfl rfl hb_10 (names_Right.ok O k a0 v7 hv7) (.cons (.tmp (.head _)) .nil) (.cons (.same _) .nil) (by simp) (.inl rfl)) (.cons (sok_not (rs := [(20, .p .bool v7)]) rfl rfl (.tmp (.head _))) (.cons (sok_move (rs := [(21, .p .bool ((!v7) : Bool))]) rfl (.inl rfl) (.tmp (.head _))) (.cons (sok_run rfl rfl hc8 (sok_move (rs := [(6, .p .bool v1.2)]) rfl (.inl rfl) (.tmp (.head _)))) (.cons (sok_run rfl rfl hc8 (sok_not (rs := [(23, .p .bool v1.2)]) rfl rfl (.tmp (.head _)))) (.cons (sok_pickF (rs := [(22, .p .bool ((!v7) : Bool)), (24, .p .bool ((!v1.2) : Bool))]) rfl rfl (.tmp (.head _)) hc8 (.tmp (.tail _ (.head _)))) (.cons (sok_move (rs := [(25, .p .bool ((!v1.2) : Bool))]) rfl (.inl rfl) (.tmp (.head _))) (.cons (sok_run rfl rfl hc9 (sok_move (rs := [(7, .p .bool v2.2.2)]) rfl (.inl rfl) (.tmp (.head _)))) (.cons (sok_run rfl rfl hc9 (sok_not (rs := [(27, .p .bool v2.2.2)]) rfl rfl (.tmp (.head _)))) (.cons (sok_pickF (rs := [(26, .p .bool ((!v1.2) : Bool)), (28, .p .bool ((!v2.2.2) : Bool))]) rfl rfl (.tmp (.head _)) hc9 (.tmp (.tail _ (.head _)))) (.cons (sok_move (rs := [(29, .p .bool ((!v2.2.2) : Bool))]) rfl (.inl rfl) (.tmp (.head _))) (.cons (sok_run rfl rfl hc10 (sok_move (rs := [(2, .p .str v2.1)]) rfl (.inl rfl) (.tmp (.head _)))) (.cons (sok_run rfl rfl hc10 (sok_cmpS (rs := [(31, .p .str v2.1)]) rfl rfl (.tmp (.head _)) (.str _ _) rfl)) (.cons (sok_pickF (rs := [(30, .p .bool ((!v2.2.2) : Bool)), (32, .p .bool ((v2.1 == ([] : List UInt8)) : Bool))]) rfl rfl (.tmp (.head _)) hc10 (.tmp (.tail _ (.head _)))) (.cons (sok_move (rs := [(33, .p .bool ((v2.1 == ([] : List UInt8)) : Bool))]) rfl (.inl rfl) (.tmp (.head _))) (.cons (sok_run rfl rfl hc11 (sok_move (rs := [(3, .p .str v2.2.1)]) rfl (.inl rfl) (.tmp (.head _)))) (.cons (sok_run rfl rfl hc11 (sok_cmpS (rs := [(35, .p .str v2.2.1)]) rfl rfl (.tmp (.head _)) (.str _ _) rfl)) (.cons (sok_pickF (rs := [(34, .p .bool ((v2.1 == ([] : List UInt8)) : Bool)), (36, .p .bool ((v2.2.1 == ([] : List UInt8)) : Bool))]) rfl rfl (.tmp (.head _)) hc11 (.tmp (.tail _ (.head _)))) (.cons (sok_move (rs := [(37, .p .bool ((v2.2.1 == ([] : List UInt8)) : Bool))]) rfl (.inl rfl) (.tmp (.head _))) (.cons (sok_run rfl rfl hc12 (sok_move (rs := [(3, .p .str v2.2.1)]) rfl (.inl rfl) (.tmp (.head _)))) (.cons (sok_run rfl rfl hc12 (sok_call (rs := [(39, .p .str v2.2.1)]) (vw := []) rfl rfl hb_33 (strings_Contains.ok O k v2.2.1 ([40] : List UInt8) v13 hv13) (.cons (.tmp (.head _)) (.cons (.str _ _) .nil)) (.cons (.same _) (.cons (.same _) .nil)) (by simp) (.inl rfl))) (.cons (sok_pickF (rs := [(38, .p .bool ((v2.2.1 == ([] : List UInt8)) : Bool)), (40, .p .bool v13)]) rfl rfl (.tmp (.head _)) hc12 (.tmp (.tail _ (.head _)))) (.cons (sok_move (rs := [(41, .p .bool v13)]) rfl (.inl rfl) (.tmp (.head _))) (.cons (sok_run rfl rfl hc14 (sok_move (rs := [(5, .p .str v1.1)]) rfl (.inl rfl) (.tmp (.head _)))) (.cons (sok_run rfl rfl hc14 (sok_call (rs := [(43, .p .str v1.1)]) (vw := []) rfl rfl hb_33 (strings_Contains.ok O k v1.1 ([41] : List UInt8) v15 hv15) (.cons (.tmp (.head _)) (.cons (.str _ _) .nil)) (.cons (.same _) (.cons (.same _) .nil)) (by simp) (.inl rfl))) (.cons (sok_pickF (rs := [(42, .p .bool v13), (44, .p .bool v15)]) rfl rfl (.tmp (.head _)) hc14 (.tmp (.tail _ (.head _)))) .nil))))))))))))))))))))))))))) (by kernel_rfl) (by kernel_rfl) (by kernel_rfl) (Conv.refl _) ?_
                  refine thenQ_normal ?_
                  exact ⟨v15, h, rfl⟩
    · rintro _ ⟨v4, h, rfl⟩
      unfold names_Member.j6 at h
      refine WpC.cond (b := v4) (.tmp (.tail _ (.tail _ (.head _)))) (fun hc5 => ?_) (fun hc5 => ?_)
      · replace h := ite_t hc5 h
        refine WpC.seq ?_
        refine WpC.reg (st1 := ⟨[(2, .p .str (([] : List UInt8) : List UInt8)), (3, .p .str (([] : List UInt8) : List UInt8)), (4, .p .bool false)], []⟩) [2, 3, 4] [] hN (.cons (sok_move (rs := []) rfl (.inr rfl) (.str _ _)) (.cons (sok_move (rs := []) rfl (.inr rfl) (.str _ _)) (.cons (sok_move (rs := []) rfl (.inr rfl) (.bool _ _)) .nil))) (by kernel_rfl) (by kernel_rfl) (by kernel_rfl) (Conv.refl _) ?_
        refine thenQ_normal ?_
        refine WpC.ret ?_
        refine thenQ_ret ?_
        have hq := Option.some.inj h
        subst hq
        exact ends_ret (retV_3 rfl (.head _) (.tail _ (.head _)) (.tail _ (.tail _ (.head _)))) (by simp)
      · replace h := ite_f hc5 h
        refine WpC.conv (Conv.keep (b := ⟨[(2, .p .str v2.1), (3, .p .str v2.2.1)], []⟩) [2, 3] [] (by kernel_rfl)) (WpC.skip ?_)
        refine thenQ_normal ?_
        exact ⟨h, rfl⟩
  · rintro _ ⟨h, rfl⟩
    unfold names_Member.j3 at h
    refine WpC.seq ?_
    refine WpC.reg (st1 := ⟨[(2, .p .str v2.1), (3, .p .str v2.2.1), (4, .p .bool true)], []⟩) [2, 3, 4] [] hN (.cons (sok_move (rs := [(2, .p .str v2.1)]) rfl (.inl rfl) (.tmp (.head _))) (.cons (sok_move (rs := [(3, .p .str v2.2.1)]) rfl (.inl rfl) (.tmp (.head _))) (.cons (sok_move (rs := [(46, .p .str v2.1)]) rfl (.inr rfl) (.tmp (.head _))) (.cons (sok_move (rs := [(47, .p .str v2.2.1)]) rfl (.inr rfl) (.tmp (.head _))) (.cons (sok_move (rs := []) rfl (.inr rfl) (.bool _ _)) .nil))))) (by kernel_rfl) (by kernel_rfl) (by kernel_rfl) (Conv.refl _) ?_
    refine thenQ_normal ?_
    refine WpC.ret ?_
    have hq := Option.some.inj h
    subst hq
    exact ends_ret (retV_3 rfl (.head _) (.tail _ (.head _)) (.tail _ (.tail _ (.head _)))) (by simp)

theorem bytealg_LastIndexByteString.ok (O : Out) (k : Nat) (a0 : List UInt8) (a1 : Int) (out : Int) (h : bytealg_LastIndexByteString.f k a0 a1 = some out) : COk Un O Try.prog 46 { ar := [.p .str a0, .p (.int .u8) a1], r := .p (.int .i64) out } := by
  refine cok_of_wp Try.func46 rfl (k := 19) rfl (Nat.le_of_ble_eq_true rfl) (namesOk_pure rfl rfl rfl rfl) ?_
  intro B hN
  refine WpC.conv (Conv.keep (b := ⟨[(0, .p .str a0), (1, .p (.int .u8) a1)], []⟩) [0, 1] [] (by kernel_rfl)) ?_
  unfold bytealg_LastIndexByteString.f at h
  refine WpC.seq ?_
  refine WpC.reg (st1 := ⟨[(0, .p .str a0), (1, .p (.int .u8) a1)], []⟩) [0, 1] [] hN (.cons (sok_move (rs := []) rfl (.inr rfl) (.int _ _ _)) .nil) (by kernel_rfl) (by kernel_rfl) (by kernel_rfl) (Conv.refl _) ?_
  refine thenQ_normal ?_
  refine WpC.seqJ (fun st' => bytealg_LastIndexByteString.j1 k = some out ∧ st' = ⟨[], []⟩) ?_ ?_
  · refine WpC.seq ?_
    refine WpC.reg (st1 := ⟨[(0, .p .str a0), (1, .p (.int .u8) a1), (5, .p (.int .i64) ((IntKind.i64.wrap ((a0.length : Int) - 1)) : Int))], []⟩) [0, 1, 5] [] hN (.cons (sok_move (rs := [(0, .p .str a0)]) rfl (.inl rfl) (.tmp (.head _))) (.cons (sok_lenS (rs := [(6, .p .str a0)]) rfl rfl Try.underlying9 (.tmp (.head _))) (.cons (sok_arith (rs := [(7, .p (.int .i64) ((a0.length : Int) : Int))]) rfl rfl (.tmp (.head _)) (.int _ _ _) rfl) (.cons (sok_move (rs := [(8, .p (.int .i64) ((IntKind.i64.wrap ((a0.length : Int) - 1)) : Int))]) rfl (.inr rfl) (.tmp (.head _))) .nil)))) (by kernel_rfl) (by kernel_rfl) (by kernel_rfl) (Conv.refl _) ?_
    refine thenQ_normal ?_
    refine WpC.block ?_
    obtain ⟨o4, hlo4, h⟩ := bind_some h
    have hout5 := h
    clear h
    refine WpC.loop (fun n st' => ∃ v2 : Int, bytealg_LastIndexByteString.l3 k a0 a1 n v2 = some o4 ∧ st' = ⟨[(0, .p .str a0), (1, .p (.int .u8) a1), (5, .p (.int .i64) v2)], []⟩) k ⟨(IntKind.i64.wrap ((a0.length : Int) - 1)), hlo4, rfl⟩ ?_
    clear hlo4
    rintro (_ | n) _ ⟨v2, h, rfl⟩
    · cases h
    · rw [bytealg_LastIndexByteString.l3] at h
      refine WpC.seq ?_
      refine WpC.seq ?_
      refine WpC.reg (st1 := ⟨[(0, .p .str a0), (1, .p (.int .u8) a1), (5, .p (.int .i64) v2), (10, .p .bool ((decide (v2 ≥ 0)) : Bool))], []⟩) [0, 1, 5, 10] [] hN (.cons (sok_move (rs := [(5, .p (.int .i64) v2)]) rfl (.inl rfl) (.tmp (.head _))) (.cons (sok_cmp (rs := [(9, .p (.int .i64) v2)]) rfl rfl (.tmp (.head _)) (.int _ _ _) rfl) .nil)) (by kernel_rfl) (by kernel_rfl) (by kernel_rfl) (Conv.refl _) ?_
      refine thenQ_normal ?_
      refine WpC.cond (b := (decide (v2 ≥ 0))) (.tmp (.tail _ (.tail _ (.tail _ (.head _))))) (fun hc6 => ?_) (fun hc6 => ?_)
      · replace h := ite_t hc6 h
        refine WpC.conv (Conv.keep (b := ⟨[(0, .p .str a0), (1, .p (.int .u8) a1), (5, .p (.int .i64) v2)], []⟩) [0, 1, 5] [] (by kernel_rfl)) (WpC.skip ?_)
        refine thenQ_normal ?_
        refine WpC.seq ?_
        refine WpC.block ?_
        refine WpC.seq ?_
        obtain ⟨v7, hv7, h⟩ := bind_some h
        refine WpC.reg (st1 := ⟨[(0, .p .str a0), (1, .p (.int .u8) a1), (5, .p (.int .i64) v2), (17, .p .bool (((v7.toNat : Int) == a1) : Bool))], []⟩) [0, 1, 5, 17] [] hN (.cons (sok_move (rs := [(0, .p .str a0)]) rfl (.inl rfl) (.tmp (.head _))) (.cons (sok_move (rs := [(5, .p (.int .i64) v2)]) rfl (.inl rfl) (.tmp (.head _))) (.cons (sok_indexS (rs := [(13, .p .str a0), (14, .p (.int .i64) v2)]) rfl rfl Try.underlying9 (.tmp (.head _)) (.tmp (.tail _ (.head _))) hv7) (.cons (sok_move (rs := [(1, .p (.int .u8) a1)]) rfl (.inl rfl) (.tmp (.head _))) (.cons (sok_cmp (rs := [(15, .p (.int .u8) ((v7.toNat : Int) : Int)), (16, .p (.int .u8) a1)]) rfl rfl (.tmp (.head _)) (.tmp (.tail _ (.head _))) rfl) .nil))))) (by kernel_rfl) (by kernel_rfl) (by kernel_rfl) (Conv.refl _) ?_
        refine thenQ_normal ?_
        refine WpC.cond (b := ((v7.toNat : Int) == a1)) (.tmp (.tail _ (.tail _ (.tail _ (.head _))))) (fun hc8 => ?_) (fun hc8 => ?_)
        · replace h := ite_t hc8 h
          refine WpC.seq ?_
          refine WpC.reg (st1 := ⟨[(4, .p (.int .i64) v2)], []⟩) [4] [] hN (.cons (sok_move (rs := [(5, .p (.int .i64) v2)]) rfl (.inl rfl) (.tmp (.head _))) (.cons (sok_move (rs := [(18, .p (.int .i64) v2)]) rfl (.inr rfl) (.tmp (.head _))) .nil)) (by kernel_rfl) (by kernel_rfl) (by kernel_rfl) (Conv.refl _) ?_
          refine thenQ_normal ?_
          refine WpC.ret ?_
          refine blockQ_ret ?_
          refine thenQ_ret ?_
          have hq := Option.some.inj h
          subst hq
          refine thenQ_ret ?_
          have h := hout5
          refine blockQ_ret ?_
          refine thenQ_ret ?_
          have hq := Option.some.inj h
          subst hq
          exact ends_ret (retV_1 rfl (.head _)) (by simp)
        · replace h := ite_f hc8 h
          refine WpC.conv (Conv.keep (b := ⟨[(0, .p .str a0), (1, .p (.int .u8) a1), (5, .p (.int .i64) v2)], []⟩) [0, 1, 5] [] (by kernel_rfl)) (WpC.skip ?_)
          refine blockQ_normal ?_
          refine thenQ_normal ?_
          refine WpC.reg (st1 := ⟨[(0, .p .str a0), (1, .p (.int .u8) a1), (5, .p (.int .i64) ((IntKind.i64.wrap (v2 - 1)) : Int))], []⟩) [0, 1, 5] [] hN (.cons (sok_move (rs := [(5, .p (.int .i64) v2)]) rfl (.inl rfl) (.tmp (.head _))) (.cons (sok_arith (rs := [(11, .p (.int .i64) v2)]) rfl rfl (.tmp (.head _)) (.int _ _ _) rfl) (.cons (sok_move (rs := [(12, .p (.int .i64) ((IntKind.i64.wrap (v2 - 1)) : Int))]) rfl (.inr rfl) (.tmp (.head _))) .nil))) (by kernel_rfl) (by kernel_rfl) (by kernel_rfl) (Conv.refl _) ?_
          refine thenQ_normal ?_
          exact ⟨n, Nat.lt_succ_self n, (IntKind.i64.wrap (v2 - 1)), h, rfl⟩
      · replace h := ite_f hc6 h
        refine WpC.conv (Conv.keep (b := ⟨[], []⟩) [] [] (by kernel_rfl)) (WpC.exit ?_)
        refine thenQ_exit ?_
        have hq := Option.some.inj h
        subst hq
        refine thenQ_exit ?_
        have h := hout5
        refine blockQ_hit ?_
        refine thenQ_normal ?_
        exact ⟨h, rfl⟩
  · rintro _ ⟨h, rfl⟩
    unfold bytealg_LastIndexByteString.j1 at h
    refine WpC.seq ?_
    refine WpC.reg (st1 := ⟨[(4, .p (.int .i64) ((-1) : Int))], []⟩) [4] [] hN (.cons (sok_move (rs := []) rfl (.inr rfl) (.int _ _ _)) .nil) (by kernel_rfl) (by kernel_rfl) (by kernel_rfl) (Conv.refl _) ?_
    refine thenQ_normal ?_
    refine WpC.ret ?_
    have hq := Option.some.inj h
    subst hq
    exact ends_ret (retV_1 rfl (.head _)) (by simp)

end Go.Proofs.Ytfeaegjlhpgdmaa
