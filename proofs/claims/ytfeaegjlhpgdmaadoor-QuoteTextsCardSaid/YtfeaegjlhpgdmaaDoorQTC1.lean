/- A part of the proof of a given law: QTC1. Own work, printed in part by a program of mine. -/
import Derived.Test.YtfeaegjlhpgdmaaDoorQTC0
namespace Go.Proofs.YtfeaegjlhpgdmaaDoor
open Go Go.AM
set_option linter.unusedVariables false
set_option maxRecDepth 100000
theorem quote_Plain.ok (O : Out) (hO : GOk O) (k : Nat) (a0 : List UInt8) (out : Bool) (h : quote_Plain.f k a0 = some out) : COk Un O Tryd.prog 18 { ar := [.p .str a0], r := .p .bool out } := by
  refine cok_of_wp Tryd.func18 rfl (k := 29) rfl (Nat.le_of_ble_eq_true rfl) (namesOk_pure rfl rfl rfl rfl) ?_
  intro B hN
  refine WpC.conv (Conv.keep (b := ⟨[(0, .p .str a0)], []⟩) [0] [] (by kernel_rfl)) ?_
  unfold quote_Plain.f at h
  refine WpC.seq ?_
  refine WpC.reg (st1 := ⟨[(0, .p .str a0)], []⟩) [0] [] hN (.cons (sok_move (rs := []) rfl (.inr rfl) (.bool _ _)) .nil) (by kernel_rfl) (by kernel_rfl) (by kernel_rfl) (Conv.refl _) ?_
  refine thenQ_normal ?_
  refine WpC.seqJ (fun st' => quote_Plain.j1 k a0 = some out ∧ st' = ⟨[(0, .p .str a0)], []⟩) ?_ ?_
  · refine WpC.seq ?_
    refine WpC.reg (st1 := ⟨[(0, .p .str a0), (5, .p (.int .i64) ((a0.length : Int) : Int)), (6, .p (.int .i64) (0 : Int))], []⟩) [0, 5, 6] [] hN (.cons (sok_move (rs := [(0, .p .str a0)]) rfl (.inl rfl) (.tmp (.head _))) (.cons (sok_lenS (rs := [(4, .p .str a0)]) rfl rfl Tryd.underlying9 (.tmp (.head _))) (.cons (sok_move (rs := []) rfl (.inl rfl) (.int _ _ _)) .nil))) (by kernel_rfl) (by kernel_rfl) (by kernel_rfl) (Conv.refl _) ?_
    refine thenQ_normal ?_
    refine WpC.block ?_
    obtain ⟨o4, hlo4, h⟩ := bind_some h
    have hout5 := h
    clear h
    refine WpC.loop (fun n st' => ∃ v2 : Int, quote_Plain.l3 k a0 n v2 = some o4 ∧ st' = ⟨[(0, .p .str a0), (5, .p (.int .i64) ((a0.length : Int) : Int)), (6, .p (.int .i64) v2)], []⟩) k ⟨0, hlo4, rfl⟩ ?_
    clear hlo4
    rintro (_ | n) _ ⟨v2, h, rfl⟩
    · cases h
    · rw [quote_Plain.l3] at h
      refine WpC.seq ?_
      refine WpC.reg (st1 := ⟨[(0, .p .str a0), (5, .p (.int .i64) ((a0.length : Int) : Int)), (6, .p (.int .i64) v2), (7, .p .bool ((decide (v2 < (a0.length : Int))) : Bool))], []⟩) [0, 5, 6, 7] [] hN (.cons (sok_cmp (rs := [(6, .p (.int .i64) v2), (5, .p (.int .i64) ((a0.length : Int) : Int))]) rfl rfl (.tmp (.head _)) (.tmp (.tail _ (.head _))) rfl) .nil) (by kernel_rfl) (by kernel_rfl) (by kernel_rfl) (Conv.refl _) ?_
      refine thenQ_normal ?_
      refine WpC.seq ?_
      refine WpC.cond (b := (decide (v2 < (a0.length : Int)))) (.tmp (.tail _ (.tail _ (.tail _ (.head _))))) (fun hc6 => ?_) (fun hc6 => ?_)
      · replace h := ite_t hc6 h
        refine WpC.conv (Conv.keep (b := ⟨[(0, .p .str a0), (5, .p (.int .i64) ((a0.length : Int) : Int)), (6, .p (.int .i64) v2)], []⟩) [0, 5, 6] [] (by kernel_rfl)) (WpC.skip ?_)
        refine thenQ_normal ?_
        refine WpC.seqJ (fun st' => quote_Plain.j7 k (quote_Plain.l3 k a0 n) a0 v2 = some o4 ∧ st' = ⟨[(0, .p .str a0), (5, .p (.int .i64) ((a0.length : Int) : Int)), (6, .p (.int .i64) v2)], []⟩) ?_ ?_
        · refine WpC.block ?_
          refine WpC.seq ?_
          refine WpC.reg (st1 := ⟨[(0, .p .str a0), (3, .p (.int .i64) v2), (5, .p (.int .i64) ((a0.length : Int) : Int)), (6, .p (.int .i64) v2)], []⟩) [0, 3, 5, 6] [] hN (.cons (sok_move (rs := [(6, .p (.int .i64) v2)]) rfl (.inl rfl) (.tmp (.head _))) (.cons (sok_move (rs := [(8, .p (.int .i64) v2)]) rfl (.inr rfl) (.tmp (.head _))) .nil)) (by kernel_rfl) (by kernel_rfl) (by kernel_rfl) (Conv.refl _) ?_
          refine thenQ_normal ?_
          refine WpC.seqJ (fun st' => ∃ v8 : Bool, quote_Plain.j10 k (quote_Plain.l3 k a0 n) a0 v2 v8 = some o4 ∧ st' = ⟨[(0, .p .str a0), (5, .p (.int .i64) ((a0.length : Int) : Int)), (6, .p (.int .i64) v2), (25, .p .bool v8)], []⟩) ?_ ?_
          · obtain ⟨v11, hv11, h⟩ := bind_some h
            obtain ⟨v12, hv12, h⟩ := bind_some h
            rcases bool_cases v12 with hc13 | hc13
            · replace h := ite_t hc13 h
              refine WpC.reg (st1 := ⟨[(0, .p .str a0), (5, .p (.int .i64) ((a0.length : Int) : Int)), (6, .p (.int .i64) v2), (25, .p .bool true)], []⟩) [0, 5, 6, 25] [] hN (.cons (sok_move (rs := [(0, .p .str a0)]) rfl (.inl rfl) (.tmp (.head _))) (.cons (sok_move (rs := [(3, .p (.int .i64) v2)]) rfl (.inl rfl) (.tmp (.head _))) (.cons (sok_indexS (rs := [(9, .p .str a0), (10, .p (.int .i64) v2)]) rfl rfl Tryd.underlying9 (.tmp (.head _)) (.tmp (.tail _ (.head _))) hv11) (.cons (sok_call (rs := [(11, .p (.int .u8) ((v11.toNat : Int) : Int))]) (vw := []) rfl rfl hb_22 (quote_Blank.ok O hO k (v11.toNat : Int) v12 hv12) (.cons (.tmp (.head _)) .nil) (.cons (.same _) .nil) (by simp) (.inl rfl)) (.cons (sok_move (rs := [(12, .p .bool v12)]) rfl (.inl rfl) (.tmp (.head _))) (.cons (sok_skip rfl rfl hc13) (.cons (sok_skip rfl rfl hc13) (.cons (sok_skip rfl rfl hc13) (.cons (sok_skip rfl rfl hc13) (.cons (sok_pickT (rs := [(13, .p .bool v12)]) rfl rfl (.tmp (.head _)) hc13 (.bool _ _)) (.cons (sok_move (rs := [(18, .p .bool true)]) rfl (.inl rfl) (.tmp (.head _))) (.cons (sok_skip rfl rfl rfl) (.cons (sok_skip rfl rfl rfl) (.cons (sok_skip rfl rfl rfl) (.cons (sok_skip rfl rfl rfl) (.cons (sok_skip rfl rfl rfl) (.cons (sok_pickT (rs := [(19, .p .bool true)]) rfl rfl (.tmp (.head _)) rfl (.bool _ _)) .nil))))))))))))))))) (by kernel_rfl) (by kernel_rfl) (by kernel_rfl) (Conv.refl _) ?_
              refine thenQ_normal ?_
              exact ⟨true, h, rfl⟩
            · replace h := ite_f hc13 h
              obtain ⟨v14, hv14, h⟩ := bind_some h
              rcases bool_cases ((v14.toNat : Int) == 39) with hc15 | hc15
              · replace h := ite_t hc15 h
                refine WpC.reg (st1 := ⟨[(0, .p .str a0), (5, .p (.int .i64) ((a0.length : Int) : Int)), (6, .p (.int .i64) v2), (25, .p .bool true)], []⟩) [0, 5, 6, 25] [] hN (.cons (sok_move (rs := [(0, .p .str a0)]) rfl (.inl rfl) (.tmp (.head _))) (.cons (sok_move (rs := [(3, .p (.int .i64) v2)]) rfl (.inl rfl) (.tmp (.head _))) (.cons (sok_indexS (rs := [(9, .p .str a0), (10, .p (.int .i64) v2)]) rfl rfl Tryd.underlying9 (.tmp (.head _)) (.tmp (.tail _ (.head _))) hv11) (.cons (sok_call (rs := [(11, .p (.int .u8) ((v11.toNat : Int) : Int))]) (vw := []) rfl rfl hb_22 (quote_Blank.ok O hO k (v11.toNat : Int) v12 hv12) (.cons (.tmp (.head _)) .nil) (.cons (.same _) .nil) (by simp) (.inl rfl)) (.cons (sok_move (rs := [(12, .p .bool v12)]) rfl (.inl rfl) (.tmp (.head _))) (.cons (sok_run rfl rfl hc13 (sok_move (rs := [(0, .p .str a0)]) rfl (.inl rfl) (.tmp (.head _)))) (.cons (sok_run rfl rfl hc13 (sok_move (rs := [(3, .p (.int .i64) v2)]) rfl (.inl rfl) (.tmp (.head _)))) (.cons (sok_run rfl rfl hc13 (sok_indexS (rs := [(14, .p .str a0), (15, .p (.int .i64) v2)]) rfl rfl Tryd.underlying9 (.tmp (.head _)) (.tmp (.tail _ (.head _))) hv14)) (.cons (sok_run rfl rfl hc13 (sok_cmp (rs := [(16, .p (.int .u8) ((v14.toNat : Int) : Int))]) rfl rfl (.tmp (.head _)) (.int _ _ _) rfl)) (.cons (sok_pickF (rs := [(13, .p .bool v12), (17, .p .bool (((v14.toNat : Int) == 39) : Bool))]) rfl rfl (.tmp (.head _)) hc13 (.tmp (.tail _ (.head _)))) (.cons (sok_move (rs := [(18, .p .bool (((v14.toNat : Int) == 39) : Bool))]) rfl (.inl rfl) (.tmp (.head _))) (.cons (sok_skip rfl rfl hc15) (.cons (sok_skip rfl rfl hc15) (.cons (sok_skip rfl rfl hc15) (.cons (sok_skip rfl rfl hc15) (.cons (sok_skip rfl rfl hc15) (.cons (sok_pickT (rs := [(19, .p .bool (((v14.toNat : Int) == 39) : Bool))]) rfl rfl (.tmp (.head _)) hc15 (.bool _ _)) .nil))))))))))))))))) (by kernel_rfl) (by kernel_rfl) (by kernel_rfl) (Conv.refl _) ?_
                refine thenQ_normal ?_
                exact ⟨true, h, rfl⟩
              · replace h := ite_f hc15 h
                obtain ⟨v16, hv16, h⟩ := bind_some h
                obtain ⟨v17, hv17, h⟩ := bind_some h
                refine WpC.reg (st1 := ⟨[(0, .p .str a0), (5, .p (.int .i64) ((a0.length : Int) : Int)), (6, .p (.int .i64) v2), (25, .p .bool ((decide (v17 ≥ 0)) : Bool))], []⟩) [0, 5, 6, 25] [] hN (.cons (sok_move (rs := [(0, .p .str a0)]) rfl (.inl rfl) (.tmp (.head _))) (.cons (sok_move (rs := [(3, .p (.int .i64) v2)]) rfl (.inl rfl) (.tmp (.head _))) (.cons (sok_indexS (rs := [(9, .p .str a0), (10, .p (.int .i64) v2)]) rfl rfl Tryd.underlying9 (.tmp (.head _)) (.tmp (.tail _ (.head _))) hv11) (.cons (sok_call (rs := [(11, .p (.int .u8) ((v11.toNat : Int) : Int))]) (vw := []) rfl rfl hb_22 (quote_Blank.ok O hO k (v11.toNat : Int) v12 hv12) (.cons (.tmp (.head _)) .nil) (.cons (.same _) .nil) (by simp) (.inl rfl)) (.cons (sok_move (rs := [(12, .p .bool v12)]) rfl (.inl rfl) (.tmp (.head _))) (.cons (sok_run rfl rfl hc13 (sok_move (rs := [(0, .p .str a0)]) rfl (.inl rfl) (.tmp (.head _)))) (.cons (sok_run rfl rfl hc13 (sok_move (rs := [(3, .p (.int .i64) v2)]) rfl (.inl rfl) (.tmp (.head _)))) (.cons (sok_run rfl rfl hc13 (sok_indexS (rs := [(14, .p .str a0), (15, .p (.int .i64) v2)]) rfl rfl Tryd.underlying9 (.tmp (.head _)) (.tmp (.tail _ (.head _))) hv14)) (.cons (sok_run rfl rfl hc13 (sok_cmp (rs := [(16, .p (.int .u8) ((v14.toNat : Int) : Int))]) rfl rfl (.tmp (.head _)) (.int _ _ _) rfl)) (.cons (sok_pickF (rs := [(13, .p .bool v12), (17, .p .bool (((v14.toNat : Int) == 39) : Bool))]) rfl rfl (.tmp (.head _)) hc13 (.tmp (.tail _ (.head _)))) (.cons (sok_move (rs := [(18, .p .bool (((v14.toNat : Int) == 39) : Bool))]) rfl (.inl rfl) (.tmp (.head _))) (.cons (sok_run rfl rfl hc15 (sok_move (rs := [(0, .p .str a0)]) rfl (.inl rfl) (.tmp (.head _)))) (.cons (sok_run rfl rfl hc15 (sok_move (rs := [(3, .p (.int .i64) v2)]) rfl (.inl rfl) (.tmp (.head _)))) (.cons (sok_run rfl rfl hc15 (sok_indexS (rs := [(20, .p .str a0), (21, .p (.int .i64) v2)]) rfl rfl Tryd.underlying9 (.tmp (.head _)) (.tmp (.tail _ (.head _))) hv16)) (.cons (sok_run rfl rfl hc15 (sok_call (rs := [(22, .p (.int .u8) ((v16.toNat : Int) : Int))]) (vw := []) rfl rfl hb_59 (strings_IndexByte.ok O hO k ([35, 36, 96, 58, 61, 60, 92, 59, 38, 124, 40, 41, 123, 125, 91, 93, 42, 63, 94, 126] : List UInt8) (v16.toNat : Int) v17 hv17) (.cons (.str _ _) (.cons (.tmp (.head _)) .nil)) (.cons (.same _) (.cons (.same _) .nil)) (by simp) (.inl rfl))) (.cons (sok_run rfl rfl hc15 (sok_cmp (rs := [(23, .p (.int .i64) v17)]) rfl rfl (.tmp (.head _)) (.int _ _ _) rfl)) (.cons (sok_pickF (rs := [(19, .p .bool (((v14.toNat : Int) == 39) : Bool)), (24, .p .bool ((decide (v17 ≥ 0)) : Bool))]) rfl rfl (.tmp (.head _)) hc15 (.tmp (.tail _ (.head _)))) .nil))))))))))))))))) (by kernel_rfl) (by kernel_rfl) (by kernel_rfl) (Conv.refl _) ?_
                refine thenQ_normal ?_
                exact ⟨(decide (v17 ≥ 0)), h, rfl⟩
          · rintro _ ⟨v8, h, rfl⟩
            unfold quote_Plain.j10 at h
            refine WpC.cond (b := v8) (.tmp (.tail _ (.tail _ (.tail _ (.head _))))) (fun hc9 => ?_) (fun hc9 => ?_)
            · replace h := ite_t hc9 h
              refine WpC.seq ?_
              refine WpC.reg (st1 := ⟨[(2, .p .bool false)], []⟩) [2] [] hN (.cons (sok_move (rs := []) rfl (.inr rfl) (.bool _ _)) .nil) (by kernel_rfl) (by kernel_rfl) (by kernel_rfl) (Conv.refl _) ?_
              refine thenQ_normal ?_
              refine WpC.ret ?_
              refine blockQ_ret ?_
              refine thenQ_ret ?_
              have hq := Option.some.inj h
              subst hq
              refine thenQ_ret ?_
              have h := hout5
              refine blockQ_ret ?_
              refine thenQ_ret ?_
              have hq := Option.some.inj h
              subst hq
              exact ends_ret (retV_1 rfl (.head _)) (by simp)
            · replace h := ite_f hc9 h
              refine WpC.conv (Conv.keep (b := ⟨[(0, .p .str a0), (5, .p (.int .i64) ((a0.length : Int) : Int)), (6, .p (.int .i64) v2)], []⟩) [0, 5, 6] [] (by kernel_rfl)) (WpC.skip ?_)
              refine blockQ_normal ?_
              refine thenQ_normal ?_
              exact ⟨h, rfl⟩
        · rintro _ ⟨h, rfl⟩
          unfold quote_Plain.j7 at h
          refine WpC.reg (st1 := ⟨[(0, .p .str a0), (5, .p (.int .i64) ((a0.length : Int) : Int)), (6, .p (.int .i64) ((IntKind.i64.wrap (v2 + 1)) : Int))], []⟩) [0, 5, 6] [] hN (.cons (sok_arith (rs := [(6, .p (.int .i64) v2)]) rfl rfl (.tmp (.head _)) (.int _ _ _) rfl) (.cons (sok_move (rs := [(26, .p (.int .i64) ((IntKind.i64.wrap (v2 + 1)) : Int))]) rfl (.inl rfl) (.tmp (.head _))) .nil)) (by kernel_rfl) (by kernel_rfl) (by kernel_rfl) (Conv.refl _) ?_
          refine thenQ_normal ?_
          exact ⟨n, Nat.lt_succ_self n, (IntKind.i64.wrap (v2 + 1)), h, rfl⟩
      · replace h := ite_f hc6 h
        refine WpC.conv (Conv.keep (b := ⟨[(0, .p .str a0)], []⟩) [0] [] (by kernel_rfl)) (WpC.exit ?_)
        refine thenQ_exit ?_
        have hq := Option.some.inj h
        subst hq
        refine thenQ_exit ?_
        have h := hout5
        refine blockQ_hit ?_
        refine thenQ_normal ?_
        exact ⟨h, rfl⟩
  · rintro _ ⟨h, rfl⟩
    unfold quote_Plain.j1 at h
    refine WpC.seq ?_
    refine WpC.reg (st1 := ⟨[(2, .p .bool ((!(a0 == ([] : List UInt8))) : Bool))], []⟩) [2] [] hN (.cons (sok_move (rs := [(0, .p .str a0)]) rfl (.inl rfl) (.tmp (.head _))) (.cons (sok_cmpS (rs := [(27, .p .str a0)]) rfl rfl (.tmp (.head _)) (.str _ _) rfl) (.cons (sok_move (rs := [(28, .p .bool ((!(a0 == ([] : List UInt8))) : Bool))]) rfl (.inr rfl) (.tmp (.head _))) .nil))) (by kernel_rfl) (by kernel_rfl) (by kernel_rfl) (Conv.refl _) ?_
    refine thenQ_normal ?_
    refine WpC.ret ?_
    have hq := Option.some.inj h
    subst hq
    exact ends_ret (retV_1 rfl (.head _)) (by simp)

theorem millwrightref11_Plain.ok (O : Out) (hO : GOk O) (k : Nat) (a0 : List UInt8) (out : Bool) (h : millwrightref11_Plain.f k a0 = some out) : COk Un O Tryd.prog 19 { ar := [.p .str a0], r := .p .bool out } := by
  refine cok_of_wp Tryd.func19 rfl (k := 28) rfl (Nat.le_of_ble_eq_true rfl) (namesOk_pure rfl rfl rfl rfl) ?_
  intro B hN
  refine WpC.conv (Conv.keep (b := ⟨[(0, .p .str a0)], []⟩) [0] [] (by kernel_rfl)) ?_
  unfold millwrightref11_Plain.f at h
  refine WpC.seq ?_
  refine WpC.reg (st1 := ⟨[(0, .p .str a0)], []⟩) [0] [] hN (.cons (sok_move (rs := []) rfl (.inr rfl) (.bool _ _)) .nil) (by kernel_rfl) (by kernel_rfl) (by kernel_rfl) (Conv.refl _) ?_
  refine thenQ_normal ?_
  refine WpC.seq ?_
  refine WpC.reg (st1 := ⟨[(0, .p .str a0), (3, .p .str (([39, 32, 9, 10, 35, 36, 96, 58, 61, 60, 92, 59, 38, 124, 40, 41, 123, 125, 91, 93, 42, 63, 94, 126] : List UInt8) : List UInt8))], []⟩) [0, 3] [] hN (.cons (sok_move (rs := []) rfl (.inr rfl) (.str _ _)) .nil) (by kernel_rfl) (by kernel_rfl) (by kernel_rfl) (Conv.refl _) ?_
  refine thenQ_normal ?_
  refine WpC.seqJ (fun st' => millwrightref11_Plain.j1 k a0 = some out ∧ st' = ⟨[(0, .p .str a0)], []⟩) ?_ ?_
  · refine WpC.seq ?_
    refine WpC.reg (st1 := ⟨[(0, .p .str a0), (3, .p .str (([39, 32, 9, 10, 35, 36, 96, 58, 61, 60, 92, 59, 38, 124, 40, 41, 123, 125, 91, 93, 42, 63, 94, 126] : List UInt8) : List UInt8)), (4, .p (.int .i64) (0 : Int))], []⟩) [0, 3, 4] [] hN (.cons (sok_move (rs := []) rfl (.inr rfl) (.int _ _ _)) .nil) (by kernel_rfl) (by kernel_rfl) (by kernel_rfl) (Conv.refl _) ?_
    refine thenQ_normal ?_
    refine WpC.block ?_
    obtain ⟨o4, hlo4, h⟩ := bind_some h
    have hout5 := h
    clear h
    refine WpC.loop (fun n st' => ∃ v2 : Int, millwrightref11_Plain.l3 k a0 n v2 = some o4 ∧ st' = ⟨[(0, .p .str a0), (3, .p .str (([39, 32, 9, 10, 35, 36, 96, 58, 61, 60, 92, 59, 38, 124, 40, 41, 123, 125, 91, 93, 42, 63, 94, 126] : List UInt8) : List UInt8)), (4, .p (.int .i64) v2)], []⟩) k ⟨0, hlo4, rfl⟩ ?_
    clear hlo4
    rintro (_ | n) _ ⟨v2, h, rfl⟩
    · cases h
    · rw [millwrightref11_Plain.l3] at h
      refine WpC.seq ?_
      refine WpC.seq ?_
      refine WpC.reg (st1 := ⟨[(0, .p .str a0), (3, .p .str (([39, 32, 9, 10, 35, 36, 96, 58, 61, 60, 92, 59, 38, 124, 40, 41, 123, 125, 91, 93, 42, 63, 94, 126] : List UInt8) : List UInt8)), (4, .p (.int .i64) v2), (9, .p .bool ((decide (v2 < (a0.length : Int))) : Bool))], []⟩) [0, 3, 4, 9] [] hN (.cons (sok_move (rs := [(4, .p (.int .i64) v2)]) rfl (.inl rfl) (.tmp (.head _))) (.cons (sok_move (rs := [(0, .p .str a0)]) rfl (.inl rfl) (.tmp (.head _))) (.cons (sok_lenS (rs := [(7, .p .str a0)]) rfl rfl Tryd.underlying9 (.tmp (.head _))) (.cons (sok_cmp (rs := [(6, .p (.int .i64) v2), (8, .p (.int .i64) ((a0.length : Int) : Int))]) rfl rfl (.tmp (.head _)) (.tmp (.tail _ (.head _))) rfl) .nil)))) (by kernel_rfl) (by kernel_rfl) (by kernel_rfl) (Conv.refl _) ?_
      refine thenQ_normal ?_
      refine WpC.cond (b := (decide (v2 < (a0.length : Int)))) (.tmp (.tail _ (.tail _ (.tail _ (.head _))))) (fun hc6 => ?_) (fun hc6 => ?_)
      · replace h := ite_t hc6 h
        refine WpC.conv (Conv.keep (b := ⟨[(0, .p .str a0), (3, .p .str (([39, 32, 9, 10, 35, 36, 96, 58, 61, 60, 92, 59, 38, 124, 40, 41, 123, 125, 91, 93, 42, 63, 94, 126] : List UInt8) : List UInt8)), (4, .p (.int .i64) v2)], []⟩) [0, 3, 4] [] (by kernel_rfl)) (WpC.skip ?_)
        refine thenQ_normal ?_
        refine WpC.seqJ (fun st' => millwrightref11_Plain.j7 k (millwrightref11_Plain.l3 k a0 n) a0 v2 = some o4 ∧ st' = ⟨[(0, .p .str a0), (3, .p .str (([39, 32, 9, 10, 35, 36, 96, 58, 61, 60, 92, 59, 38, 124, 40, 41, 123, 125, 91, 93, 42, 63, 94, 126] : List UInt8) : List UInt8)), (4, .p (.int .i64) v2)], []⟩) ?_ ?_
        · refine WpC.block ?_
          refine WpC.seq ?_
          refine WpC.reg (st1 := ⟨[(0, .p .str a0), (3, .p .str (([39, 32, 9, 10, 35, 36, 96, 58, 61, 60, 92, 59, 38, 124, 40, 41, 123, 125, 91, 93, 42, 63, 94, 126] : List UInt8) : List UInt8)), (4, .p (.int .i64) v2), (5, .p (.int .i64) (0 : Int))], []⟩) [0, 3, 4, 5] [] hN (.cons (sok_move (rs := []) rfl (.inr rfl) (.int _ _ _)) .nil) (by kernel_rfl) (by kernel_rfl) (by kernel_rfl) (Conv.refl _) ?_
          refine thenQ_normal ?_
          refine WpC.block ?_
          obtain ⟨o10, hlo10, h⟩ := bind_some h
          have hout11 := h
          clear h
          refine WpC.loop (fun n st' => ∃ v8 : Int, millwrightref11_Plain.l9 k a0 v2 n v8 = some o10 ∧ st' = ⟨[(0, .p .str a0), (3, .p .str (([39, 32, 9, 10, 35, 36, 96, 58, 61, 60, 92, 59, 38, 124, 40, 41, 123, 125, 91, 93, 42, 63, 94, 126] : List UInt8) : List UInt8)), (4, .p (.int .i64) v2), (5, .p (.int .i64) v8)], []⟩) k ⟨0, hlo10, rfl⟩ ?_
          clear hlo10
          rintro (_ | n) _ ⟨v8, h, rfl⟩
          · cases h
          · rw [millwrightref11_Plain.l9] at h
            refine WpC.seq ?_
            refine WpC.seq ?_
            refine WpC.reg (st1 := ⟨[(0, .p .str a0), (3, .p .str (([39, 32, 9, 10, 35, 36, 96, 58, 61, 60, 92, 59, 38, 124, 40, 41, 123, 125, 91, 93, 42, 63, 94, 126] : List UInt8) : List UInt8)), (4, .p (.int .i64) v2), (5, .p (.int .i64) v8), (15, .p .bool ((decide (v8 < (([39, 32, 9, 10, 35, 36, 96, 58, 61, 60, 92, 59, 38, 124, 40, 41, 123, 125, 91, 93, 42, 63, 94, 126] : List UInt8).length : Int))) : Bool))], []⟩) [0, 3, 4, 5, 15] [] hN (.cons (sok_move (rs := [(5, .p (.int .i64) v8)]) rfl (.inl rfl) (.tmp (.head _))) (.cons (sok_move (rs := [(3, .p .str (([39, 32, 9, 10, 35, 36, 96, 58, 61, 60, 92, 59, 38, 124, 40, 41, 123, 125, 91, 93, 42, 63, 94, 126] : List UInt8) : List UInt8))]) rfl (.inl rfl) (.tmp (.head _))) (.cons (sok_lenS (rs := [(13, .p .str (([39, 32, 9, 10, 35, 36, 96, 58, 61, 60, 92, 59, 38, 124, 40, 41, 123, 125, 91, 93, 42, 63, 94, 126] : List UInt8) : List UInt8))]) rfl rfl Tryd.underlying9 (.tmp (.head _))) (.cons (sok_cmp (rs := [(12, .p (.int .i64) v8), (14, .p (.int .i64) ((([39, 32, 9, 10, 35, 36, 96, 58, 61, 60, 92, 59, 38, 124, 40, 41, 123, 125, 91, 93, 42, 63, 94, 126] : List UInt8).length : Int) : Int))]) rfl rfl (.tmp (.head _)) (.tmp (.tail _ (.head _))) rfl) .nil)))) (by kernel_rfl) (by kernel_rfl) (by kernel_rfl) (Conv.refl _) ?_
            refine thenQ_normal ?_
            refine WpC.cond (b := (decide (v8 < (([39, 32, 9, 10, 35, 36, 96, 58, 61, 60, 92, 59, 38, 124, 40, 41, 123, 125, 91, 93, 42, 63, 94, 126] : List UInt8).length : Int)))) (.tmp (.tail _ (.tail _ (.tail _ (.tail _ (.head _)))))) (fun hc12 => ?_) (fun hc12 => ?_)
            · replace h := ite_t hc12 h
              refine WpC.conv (Conv.keep (b := ⟨[(0, .p .str a0), (3, .p .str (([39, 32, 9, 10, 35, 36, 96, 58, 61, 60, 92, 59, 38, 124, 40, 41, 123, 125, 91, 93, 42, 63, 94, 126] : List UInt8) : List UInt8)), (4, .p (.int .i64) v2), (5, .p (.int .i64) v8)], []⟩) [0, 3, 4, 5] [] (by kernel_rfl)) (WpC.skip ?_)
              refine thenQ_normal ?_
              refine WpC.seq ?_
              refine WpC.block ?_
              refine WpC.seq ?_
              obtain ⟨v13, hv13, h⟩ := bind_some h
              obtain ⟨v14, hv14, h⟩ := bind_some h
              refine WpC.regA (st1 := ⟨[(0, .p .str a0), (3, .p .str (([39, 32, 9, 10, 35, 36, 96, 58, 61, 60, 92, 59, 38, 124, 40, 41, 123, 125, 91, 93, 42, 63, 94, 126] : List UInt8) : List UInt8)), (4, .p (.int .i64) v2), (5, .p (.int .i64) v8), (24, .p .bool (((v13.toNat : Int) == (v14.toNat : Int)) : Bool))], []⟩) [0, 3, 4, 5, 24] [] [[], [], [0, 1], [], [], [3, 4], [0, 1, 2, 3, 4, 5]] mixed hN (.cons (sok_move (rs := [(0, .p .str a0)]) rfl (.inl rfl) (.tmp (.head _))) (.cons (sok_move (rs := [(4, .p (.int .i64) v2)]) rfl (.inl rfl) (.tmp (.head _))) (.cons (sok_indexS (rs := [(18, .p .str a0), (19, .p (.int .i64) v2)]) rfl rfl Tryd.underlying9 (.tmp (.head _)) (.tmp (.tail _ (.head _))) hv13) (.cons (sok_move (rs := [(3, .p .str (([39, 32, 9, 10, 35, 36, 96, 58, 61, 60, 92, 59, 38, 124, 40, 41, 123, 125, 91, 93, 42, 63, 94, 126] : List UInt8) : List UInt8))]) rfl (.inl rfl) (.tmp (.head _))) (.cons (sok_move (rs := [(5, .p (.int .i64) v8)]) rfl (.inl rfl) (.tmp (.head _))) (.cons (sok_indexS (rs := [(21, .p .str (([39, 32, 9, 10, 35, 36, 96, 58, 61, 60, 92, 59, 38, 124, 40, 41, 123, 125, 91, 93, 42, 63, 94, 126] : List UInt8) : List UInt8)), (22, .p (.int .i64) v8)]) rfl rfl Tryd.underlying9 (.tmp (.head _)) (.tmp (.tail _ (.head _))) hv14) (.cons (sok_cmp (rs := [(20, .p (.int .u8) ((v13.toNat : Int) : Int)), (23, .p (.int .u8) ((v14.toNat : Int) : Int))]) rfl rfl (.tmp (.head _)) (.tmp (.tail _ (.head _))) rfl) .nil))))))) (by kernel_rfl) (by kernel_rfl) (by kernel_rfl) (by kernel_rfl) (by kernel_rfl) (Conv.refl _) ?_
              refine thenQ_normal ?_
              refine WpC.cond (b := ((v13.toNat : Int) == (v14.toNat : Int))) (.tmp (.tail _ (.tail _ (.tail _ (.tail _ (.head _)))))) (fun hc15 => ?_) (fun hc15 => ?_)
              · replace h := ite_t hc15 h
                refine WpC.seq ?_
                refine WpC.reg (st1 := ⟨[(2, .p .bool false)], []⟩) [2] [] hN (.cons (sok_move (rs := []) rfl (.inr rfl) (.bool _ _)) .nil) (by kernel_rfl) (by kernel_rfl) (by kernel_rfl) (Conv.refl _) ?_
                refine thenQ_normal ?_
                refine WpC.ret ?_
                refine blockQ_ret ?_
                refine thenQ_ret ?_
                have hq := Option.some.inj h
                subst hq
                refine thenQ_ret ?_
                have h := hout11
                refine blockQ_ret ?_
                refine blockQ_ret ?_
                refine thenQ_ret ?_
                have hq := Option.some.inj h
                subst hq
                refine thenQ_ret ?_
                have h := hout5
                refine blockQ_ret ?_
                refine thenQ_ret ?_
                have hq := Option.some.inj h
                subst hq
                exact ends_ret (retV_1 rfl (.head _)) (by simp)
              · replace h := ite_f hc15 h
                refine WpC.conv (Conv.keep (b := ⟨[(0, .p .str a0), (3, .p .str (([39, 32, 9, 10, 35, 36, 96, 58, 61, 60, 92, 59, 38, 124, 40, 41, 123, 125, 91, 93, 42, 63, 94, 126] : List UInt8) : List UInt8)), (4, .p (.int .i64) v2), (5, .p (.int .i64) v8)], []⟩) [0, 3, 4, 5] [] (by kernel_rfl)) (WpC.skip ?_)
                refine blockQ_normal ?_
                refine thenQ_normal ?_
                refine WpC.reg (st1 := ⟨[(0, .p .str a0), (3, .p .str (([39, 32, 9, 10, 35, 36, 96, 58, 61, 60, 92, 59, 38, 124, 40, 41, 123, 125, 91, 93, 42, 63, 94, 126] : List UInt8) : List UInt8)), (4, .p (.int .i64) v2), (5, .p (.int .i64) ((IntKind.i64.wrap (v8 + 1)) : Int))], []⟩) [0, 3, 4, 5] [] hN (.cons (sok_move (rs := [(5, .p (.int .i64) v8)]) rfl (.inl rfl) (.tmp (.head _))) (.cons (sok_arith (rs := [(16, .p (.int .i64) v8)]) rfl rfl (.tmp (.head _)) (.int _ _ _) rfl) (.cons (sok_move (rs := [(17, .p (.int .i64) ((IntKind.i64.wrap (v8 + 1)) : Int))]) rfl (.inr rfl) (.tmp (.head _))) .nil))) (by kernel_rfl) (by kernel_rfl) (by kernel_rfl) (Conv.refl _) ?_
                refine thenQ_normal ?_
                exact ⟨n, Nat.lt_succ_self n, (IntKind.i64.wrap (v8 + 1)), h, rfl⟩
            · replace h := ite_f hc12 h
              refine WpC.conv (Conv.keep (b := ⟨[(0, .p .str a0), (3, .p .str (([39, 32, 9, 10, 35, 36, 96, 58, 61, 60, 92, 59, 38, 124, 40, 41, 123, 125, 91, 93, 42, 63, 94, 126] : List UInt8) : List UInt8)), (4, .p (.int .i64) v2)], []⟩) [0, 3, 4] [] (by kernel_rfl)) (WpC.exit ?_)
              refine thenQ_exit ?_
              have hq := Option.some.inj h
              subst hq
              refine thenQ_exit ?_
              have h := hout11
              refine blockQ_hit ?_
              refine blockQ_normal ?_
              refine thenQ_normal ?_
              exact ⟨h, rfl⟩
        · rintro _ ⟨h, rfl⟩
          unfold millwrightref11_Plain.j7 at h
          refine WpC.reg (st1 := ⟨[(0, .p .str a0), (3, .p .str (([39, 32, 9, 10, 35, 36, 96, 58, 61, 60, 92, 59, 38, 124, 40, 41, 123, 125, 91, 93, 42, 63, 94, 126] : List UInt8) : List UInt8)), (4, .p (.int .i64) ((IntKind.i64.wrap (v2 + 1)) : Int))], []⟩) [0, 3, 4] [] hN (.cons (sok_move (rs := [(4, .p (.int .i64) v2)]) rfl (.inl rfl) (.tmp (.head _))) (.cons (sok_arith (rs := [(10, .p (.int .i64) v2)]) rfl rfl (.tmp (.head _)) (.int _ _ _) rfl) (.cons (sok_move (rs := [(11, .p (.int .i64) ((IntKind.i64.wrap (v2 + 1)) : Int))]) rfl (.inr rfl) (.tmp (.head _))) .nil))) (by kernel_rfl) (by kernel_rfl) (by kernel_rfl) (Conv.refl _) ?_
          refine thenQ_normal ?_
          exact ⟨n, Nat.lt_succ_self n, (IntKind.i64.wrap (v2 + 1)), h, rfl⟩
      · replace h := ite_f hc6 h
        refine WpC.conv (Conv.keep (b := ⟨[(0, .p .str a0)], []⟩) [0] [] (by kernel_rfl)) (WpC.exit ?_)
        refine thenQ_exit ?_
        have hq := Option.some.inj h
        subst hq
        refine thenQ_exit ?_
        have h := hout5
        refine blockQ_hit ?_
        refine thenQ_normal ?_
        exact ⟨h, rfl⟩
  · rintro _ ⟨h, rfl⟩
    unfold millwrightref11_Plain.j1 at h
    refine WpC.seq ?_
    refine WpC.reg (st1 := ⟨[(2, .p .bool ((decide ((a0.length : Int) > 0)) : Bool))], []⟩) [2] [] hN (.cons (sok_move (rs := [(0, .p .str a0)]) rfl (.inl rfl) (.tmp (.head _))) (.cons (sok_lenS (rs := [(25, .p .str a0)]) rfl rfl Tryd.underlying9 (.tmp (.head _))) (.cons (sok_cmp (rs := [(26, .p (.int .i64) ((a0.length : Int) : Int))]) rfl rfl (.tmp (.head _)) (.int _ _ _) rfl) (.cons (sok_move (rs := [(27, .p .bool ((decide ((a0.length : Int) > 0)) : Bool))]) rfl (.inr rfl) (.tmp (.head _))) .nil)))) (by kernel_rfl) (by kernel_rfl) (by kernel_rfl) (Conv.refl _) ?_
    refine thenQ_normal ?_
    refine WpC.ret ?_
    have hq := Option.some.inj h
    subst hq
    exact ends_ret (retV_1 rfl (.head _)) (by simp)

theorem quote_Quote.ok (O : Out) (hO : GOk O) (k : Nat) (a0 : List UInt8) (out : List UInt8) (h : quote_Quote.f k a0 = some out) : COk Un O Tryd.prog 20 { ar := [.p .str a0], r := .p .str out } := by
  refine cok_of_wp Tryd.func20 rfl (k := 10) rfl (Nat.le_of_ble_eq_true rfl) (namesOk_pure rfl rfl rfl rfl) ?_
  intro B hN
  refine WpC.conv (Conv.keep (b := ⟨[(0, .p .str a0)], []⟩) [0] [] (by kernel_rfl)) ?_
  unfold quote_Quote.f at h
  refine WpC.seq ?_
  refine WpC.reg (st1 := ⟨[(0, .p .str a0)], []⟩) [0] [] hN (.cons (sok_move (rs := []) rfl (.inr rfl) (.str _ _)) .nil) (by kernel_rfl) (by kernel_rfl) (by kernel_rfl) (Conv.refl _) ?_
  refine thenQ_normal ?_
  refine WpC.seq ?_
  refine WpC.seq ?_
  obtain ⟨v1, hv1, h⟩ := bind_some h
  refine WpC.reg (st1 := ⟨[(0, .p .str a0), (4, .p .bool v1)], []⟩) [0, 4] [] hN (.cons (sok_move (rs := [(0, .p .str a0)]) rfl (.inl rfl) (.tmp (.head _))) (.cons (sok_call (rs := [(3, .p .str a0)]) (vw := []) rfl rfl hb_18 (quote_Plain.ok O hO k a0 v1 hv1) (.cons (.tmp (.head _)) .nil) (.cons (.same _) .nil) (by simp) (.inl rfl)) .nil)) (by kernel_rfl) (by kernel_rfl) (by kernel_rfl) (Conv.refl _) ?_
  refine thenQ_normal ?_
  refine WpC.cond (b := v1) (.tmp (.tail _ (.head _))) (fun hc2 => ?_) (fun hc2 => ?_)
  · replace h := ite_t hc2 h
    refine WpC.seq ?_
    refine WpC.reg (st1 := ⟨[(2, .p .str a0)], []⟩) [2] [] hN (.cons (sok_move (rs := [(0, .p .str a0)]) rfl (.inl rfl) (.tmp (.head _))) (.cons (sok_move (rs := [(5, .p .str a0)]) rfl (.inr rfl) (.tmp (.head _))) .nil)) (by kernel_rfl) (by kernel_rfl) (by kernel_rfl) (Conv.refl _) ?_
    refine thenQ_normal ?_
    refine WpC.ret ?_
    refine thenQ_ret ?_
    have hq := Option.some.inj h
    subst hq
    exact ends_ret (retV_1 rfl (.head _)) (by simp)
  · replace h := ite_f hc2 h
    refine WpC.conv (Conv.keep (b := ⟨[(0, .p .str a0)], []⟩) [0] [] (by kernel_rfl)) (WpC.skip ?_)
    refine thenQ_normal ?_
    refine WpC.seq ?_
    obtain ⟨v3, hv3, h⟩ := bind_some h
    obtain ⟨g4, h⟩ := if_some h
    obtain ⟨g5, h⟩ := if_some h
    refine WpC.reg (st1 := ⟨[(2, .p .str (((([39] : List UInt8) ++ v3) ++ ([39] : List UInt8)) : List UInt8))], []⟩) [2] [] hN (.cons (sok_move (rs := [(0, .p .str a0)]) rfl (.inl rfl) (.tmp (.head _))) (.cons (sok_call (rs := [(6, .p .str a0)]) (vw := []) rfl rfl hb_60 (pReplaceAll.ok O hO k a0 ([39] : List UInt8) ([39, 39] : List UInt8) v3 hv3) (.cons (.tmp (.head _)) (.cons (.str _ _) (.cons (.str _ _) .nil))) (.cons (.same _) (.cons (.same _) (.cons (.same _) .nil))) (by simp) (.inl rfl)) (.cons (sok_cat (rs := [(7, .p .str v3)]) rfl rfl (.str _ _) (.tmp (.head _)) g4) (.cons (sok_cat (rs := [(8, .p .str ((([39] : List UInt8) ++ v3) : List UInt8))]) rfl rfl (.tmp (.head _)) (.str _ _) g5) (.cons (sok_move (rs := [(9, .p .str (((([39] : List UInt8) ++ v3) ++ ([39] : List UInt8)) : List UInt8))]) rfl (.inr rfl) (.tmp (.head _))) .nil))))) (by kernel_rfl) (by kernel_rfl) (by kernel_rfl) (Conv.refl _) ?_
    refine thenQ_normal ?_
    refine WpC.ret ?_
    have hq := Option.some.inj h
    subst hq
    exact ends_ret (retV_1 rfl (.head _)) (by simp)

theorem millwrightref11_Quote.ok (O : Out) (hO : GOk O) (k : Nat) (a0 : List UInt8) (out : List UInt8) (h : millwrightref11_Quote.f k a0 = some out) : COk Un O Tryd.prog 21 { ar := [.p .str a0], r := .p .str out } := by
  refine cok_of_wp Tryd.func21 rfl (k := 29) rfl (Nat.le_of_ble_eq_true rfl) (namesOk_pure rfl rfl rfl rfl) ?_
  intro B hN
  refine WpC.conv (Conv.keep (b := ⟨[(0, .p .str a0)], []⟩) [0] [] (by kernel_rfl)) ?_
  unfold millwrightref11_Quote.f at h
  refine WpC.seq ?_
  refine WpC.reg (st1 := ⟨[(0, .p .str a0)], []⟩) [0] [] hN (.cons (sok_move (rs := []) rfl (.inr rfl) (.str _ _)) .nil) (by kernel_rfl) (by kernel_rfl) (by kernel_rfl) (Conv.refl _) ?_
  refine thenQ_normal ?_
  refine WpC.seq ?_
  refine WpC.seq ?_
  obtain ⟨v1, hv1, h⟩ := bind_some h
  refine WpC.reg (st1 := ⟨[(0, .p .str a0), (6, .p .bool v1)], []⟩) [0, 6] [] hN (.cons (sok_move (rs := [(0, .p .str a0)]) rfl (.inl rfl) (.tmp (.head _))) (.cons (sok_call (rs := [(5, .p .str a0)]) (vw := []) rfl rfl hb_19 (millwrightref11_Plain.ok O hO k a0 v1 hv1) (.cons (.tmp (.head _)) .nil) (.cons (.same _) .nil) (by simp) (.inl rfl)) .nil)) (by kernel_rfl) (by kernel_rfl) (by kernel_rfl) (Conv.refl _) ?_
  refine thenQ_normal ?_
  refine WpC.cond (b := v1) (.tmp (.tail _ (.head _))) (fun hc2 => ?_) (fun hc2 => ?_)
  · replace h := ite_t hc2 h
    refine WpC.seq ?_
    refine WpC.reg (st1 := ⟨[(2, .p .str a0)], []⟩) [2] [] hN (.cons (sok_move (rs := [(0, .p .str a0)]) rfl (.inl rfl) (.tmp (.head _))) (.cons (sok_move (rs := [(7, .p .str a0)]) rfl (.inr rfl) (.tmp (.head _))) .nil)) (by kernel_rfl) (by kernel_rfl) (by kernel_rfl) (Conv.refl _) ?_
    refine thenQ_normal ?_
    refine WpC.ret ?_
    refine thenQ_ret ?_
    have hq := Option.some.inj h
    subst hq
    exact ends_ret (retV_1 rfl (.head _)) (by simp)
  · replace h := ite_f hc2 h
    refine WpC.conv (Conv.keep (b := ⟨[(0, .p .str a0)], []⟩) [0] [] (by kernel_rfl)) (WpC.skip ?_)
    refine thenQ_normal ?_
    refine WpC.seq ?_
    refine WpC.reg (st1 := ⟨[(0, .p .str a0), (3, .p .str (([39] : List UInt8) : List UInt8))], []⟩) [0, 3] [] hN (.cons (sok_move (rs := []) rfl (.inr rfl) (.str _ _)) .nil) (by kernel_rfl) (by kernel_rfl) (by kernel_rfl) (Conv.refl _) ?_
    refine thenQ_normal ?_
    refine WpC.seqJ (fun st' => ∃ v3 : List UInt8, millwrightref11_Quote.j5 k v3 = some out ∧ st' = ⟨[(3, .p .str v3)], []⟩) ?_ ?_
    · refine WpC.seq ?_
      refine WpC.reg (st1 := ⟨[(0, .p .str a0), (3, .p .str (([39] : List UInt8) : List UInt8)), (4, .p (.int .i64) (0 : Int))], []⟩) [0, 3, 4] [] hN (.cons (sok_move (rs := []) rfl (.inr rfl) (.int _ _ _)) .nil) (by kernel_rfl) (by kernel_rfl) (by kernel_rfl) (Conv.refl _) ?_
      refine thenQ_normal ?_
      refine WpC.block ?_
      obtain ⟨o10, hlo10, h⟩ := bind_some h
      have hout11 := h
      clear h
      refine WpC.loop (fun n st' => ∃ v6 : List UInt8, ∃ v7 : Int, millwrightref11_Quote.l8 k a0 n v6 v7 = some o10 ∧ st' = ⟨[(0, .p .str a0), (3, .p .str v6), (4, .p (.int .i64) v7)], []⟩) k ⟨([39] : List UInt8), 0, hlo10, rfl⟩ ?_
      clear hlo10
      rintro (_ | n) _ ⟨v6, v7, h, rfl⟩
      · cases h
      · rw [millwrightref11_Quote.l8] at h
        refine WpC.seq ?_
        refine WpC.seq ?_
        refine WpC.reg (st1 := ⟨[(0, .p .str a0), (3, .p .str v6), (4, .p (.int .i64) v7), (11, .p .bool ((decide (v7 < (a0.length : Int))) : Bool))], []⟩) [0, 3, 4, 11] [] hN (.cons (sok_move (rs := [(4, .p (.int .i64) v7)]) rfl (.inl rfl) (.tmp (.head _))) (.cons (sok_move (rs := [(0, .p .str a0)]) rfl (.inl rfl) (.tmp (.head _))) (.cons (sok_lenS (rs := [(9, .p .str a0)]) rfl rfl Tryd.underlying9 (.tmp (.head _))) (.cons (sok_cmp (rs := [(8, .p (.int .i64) v7), (10, .p (.int .i64) ((a0.length : Int) : Int))]) rfl rfl (.tmp (.head _)) (.tmp (.tail _ (.head _))) rfl) .nil)))) (by kernel_rfl) (by kernel_rfl) (by kernel_rfl) (Conv.refl _) ?_
        refine thenQ_normal ?_
        refine WpC.cond (b := (decide (v7 < (a0.length : Int)))) (.tmp (.tail _ (.tail _ (.tail _ (.head _))))) (fun hc12 => ?_) (fun hc12 => ?_)
        · replace h := ite_t hc12 h
          refine WpC.conv (Conv.keep (b := ⟨[(0, .p .str a0), (3, .p .str v6), (4, .p (.int .i64) v7)], []⟩) [0, 3, 4] [] (by kernel_rfl)) (WpC.skip ?_)
          refine thenQ_normal ?_
          refine WpC.seqJ (fun st' => ∃ v13 : List UInt8, millwrightref11_Quote.j14 k (millwrightref11_Quote.l8 k a0 n) a0 v7 v13 = some o10 ∧ st' = ⟨[(0, .p .str a0), (3, .p .str v13), (4, .p (.int .i64) v7)], []⟩) ?_ ?_
          · refine WpC.block ?_
            refine WpC.seq ?_
            obtain ⟨v15, hv15, h⟩ := bind_some h
            obtain ⟨g16, h⟩ := if_some h
            refine WpC.reg (st1 := ⟨[(0, .p .str a0), (3, .p .str ((v6 ++ v15) : List UInt8)), (4, .p (.int .i64) v7)], []⟩) [0, 3, 4] [] hN (.cons (sok_move (rs := [(3, .p .str v6)]) rfl (.inl rfl) (.tmp (.head _))) (.cons (sok_move (rs := [(0, .p .str a0)]) rfl (.inl rfl) (.tmp (.head _))) (.cons (sok_move (rs := [(4, .p (.int .i64) v7)]) rfl (.inl rfl) (.tmp (.head _))) (.cons (sok_move (rs := [(4, .p (.int .i64) v7)]) rfl (.inl rfl) (.tmp (.head _))) (.cons (sok_arith (rs := [(17, .p (.int .i64) v7)]) rfl rfl (.tmp (.head _)) (.int _ _ _) rfl) (.cons (sok_sliceS (rs := [(15, .p .str a0), (16, .p (.int .i64) v7), (18, .p (.int .i64) ((IntKind.i64.wrap (v7 + 1)) : Int))]) rfl rfl Tryd.underlying9 (.tmp (.head _)) (.at (.tmp (.tail _ (.head _)))) (.at (.tmp (.tail _ (.tail _ (.head _))))) hv15) (.cons (sok_cat (rs := [(14, .p .str v6), (19, .p .str v15)]) rfl rfl (.tmp (.head _)) (.tmp (.tail _ (.head _))) g16) (.cons (sok_move (rs := [(20, .p .str ((v6 ++ v15) : List UInt8))]) rfl (.inr rfl) (.tmp (.head _))) .nil)))))))) (by kernel_rfl) (by kernel_rfl) (by kernel_rfl) (Conv.refl _) ?_
            refine thenQ_normal ?_
            refine WpC.seq ?_
            obtain ⟨v17, hv17, h⟩ := bind_some h
            refine WpC.reg (st1 := ⟨[(0, .p .str a0), (3, .p .str ((v6 ++ v15) : List UInt8)), (4, .p (.int .i64) v7), (24, .p .bool (((v17.toNat : Int) == 39) : Bool))], []⟩) [0, 3, 4, 24] [] hN (.cons (sok_move (rs := [(0, .p .str a0)]) rfl (.inl rfl) (.tmp (.head _))) (.cons (sok_move (rs := [(4, .p (.int .i64) v7)]) rfl (.inl rfl) (.tmp (.head _))) (.cons (sok_indexS (rs := [(21, .p .str a0), (22, .p (.int .i64) v7)]) rfl rfl Tryd.underlying9 (.tmp (.head _)) (.tmp (.tail _ (.head _))) hv17) (.cons (sok_cmp (rs := [(23, .p (.int .u8) ((v17.toNat : Int) : Int))]) rfl rfl (.tmp (.head _)) (.int _ _ _) rfl) .nil)))) (by kernel_rfl) (by kernel_rfl) (by kernel_rfl) (Conv.refl _) ?_
            refine thenQ_normal ?_
            refine WpC.cond (b := ((v17.toNat : Int) == 39)) (.tmp (.tail _ (.tail _ (.tail _ (.head _))))) (fun hc18 => ?_) (fun hc18 => ?_)
            · replace h := ite_t hc18 h
              obtain ⟨g19, h⟩ := if_some h
              refine WpC.reg (st1 := ⟨[(0, .p .str a0), (3, .p .str (((v6 ++ v15) ++ ([39] : List UInt8)) : List UInt8)), (4, .p (.int .i64) v7)], []⟩) [0, 3, 4] [] hN (.cons (sok_move (rs := [(3, .p .str ((v6 ++ v15) : List UInt8))]) rfl (.inl rfl) (.tmp (.head _))) (.cons (sok_cat (rs := [(25, .p .str ((v6 ++ v15) : List UInt8))]) rfl rfl (.tmp (.head _)) (.str _ _) g19) (.cons (sok_move (rs := [(26, .p .str (((v6 ++ v15) ++ ([39] : List UInt8)) : List UInt8))]) rfl (.inr rfl) (.tmp (.head _))) .nil))) (by kernel_rfl) (by kernel_rfl) (by kernel_rfl) (Conv.refl _) ?_
              refine blockQ_normal ?_
              refine thenQ_normal ?_
              exact ⟨((v6 ++ v15) ++ ([39] : List UInt8)), h, rfl⟩
            · replace h := ite_f hc18 h
              refine WpC.conv (Conv.keep (b := ⟨[(0, .p .str a0), (3, .p .str ((v6 ++ v15) : List UInt8)), (4, .p (.int .i64) v7)], []⟩) [0, 3, 4] [] (by kernel_rfl)) (WpC.skip ?_)
              refine blockQ_normal ?_
              refine thenQ_normal ?_
              exact ⟨(v6 ++ v15), h, rfl⟩
          · rintro _ ⟨v13, h, rfl⟩
            unfold millwrightref11_Quote.j14 at h
            refine WpC.reg (st1 := ⟨[(0, .p .str a0), (3, .p .str v13), (4, .p (.int .i64) ((IntKind.i64.wrap (v7 + 1)) : Int))], []⟩) [0, 3, 4] [] hN (.cons (sok_move (rs := [(4, .p (.int .i64) v7)]) rfl (.inl rfl) (.tmp (.head _))) (.cons (sok_arith (rs := [(12, .p (.int .i64) v7)]) rfl rfl (.tmp (.head _)) (.int _ _ _) rfl) (.cons (sok_move (rs := [(13, .p (.int .i64) ((IntKind.i64.wrap (v7 + 1)) : Int))]) rfl (.inr rfl) (.tmp (.head _))) .nil))) (by kernel_rfl) (by kernel_rfl) (by kernel_rfl) (Conv.refl _) ?_
            refine thenQ_normal ?_
            exact ⟨n, Nat.lt_succ_self n, v13, (IntKind.i64.wrap (v7 + 1)), h, rfl⟩
        · replace h := ite_f hc12 h
          refine WpC.conv (Conv.keep (b := ⟨[(3, .p .str v6)], []⟩) [3] [] (by kernel_rfl)) (WpC.exit ?_)
          refine thenQ_exit ?_
          have hq := Option.some.inj h
          subst hq
          refine thenQ_exit ?_
          have h := hout11
          refine blockQ_hit ?_
          refine thenQ_normal ?_
          exact ⟨v6, h, rfl⟩
    · rintro _ ⟨v3, h, rfl⟩
      unfold millwrightref11_Quote.j5 at h
      refine WpC.seq ?_
      obtain ⟨g4, h⟩ := if_some h
      refine WpC.reg (st1 := ⟨[(2, .p .str ((v3 ++ ([39] : List UInt8)) : List UInt8))], []⟩) [2] [] hN (.cons (sok_move (rs := [(3, .p .str v3)]) rfl (.inl rfl) (.tmp (.head _))) (.cons (sok_cat (rs := [(27, .p .str v3)]) rfl rfl (.tmp (.head _)) (.str _ _) g4) (.cons (sok_move (rs := [(28, .p .str ((v3 ++ ([39] : List UInt8)) : List UInt8))]) rfl (.inr rfl) (.tmp (.head _))) .nil))) (by kernel_rfl) (by kernel_rfl) (by kernel_rfl) (Conv.refl _) ?_
      refine thenQ_normal ?_
      refine WpC.ret ?_
      have hq := Option.some.inj h
      subst hq
      exact ends_ret (retV_1 rfl (.head _)) (by simp)

theorem millwrightref11_Blank.ok (O : Out) (hO : GOk O) (k : Nat) (a0 : Int) (out : Bool) (h : millwrightref11_Blank.f k a0 = some out) : COk Un O Tryd.prog 23 { ar := [.p (.int .u8) a0], r := .p .bool out } := by
  refine cok_of_wp Tryd.func23 rfl (k := 13) rfl (Nat.le_of_ble_eq_true rfl) (namesOk_pure rfl rfl rfl rfl) ?_
  intro B hN
  refine WpC.conv (Conv.keep (b := ⟨[(0, .p (.int .u8) a0)], []⟩) [0] [] (by kernel_rfl)) ?_
  unfold millwrightref11_Blank.f at h
  refine WpC.seq ?_
  refine WpC.reg (st1 := ⟨[(0, .p (.int .u8) a0)], []⟩) [0] [] hN (.cons (sok_move (rs := []) rfl (.inr rfl) (.bool _ _)) .nil) (by kernel_rfl) (by kernel_rfl) (by kernel_rfl) (Conv.refl _) ?_
  refine thenQ_normal ?_
  refine WpC.seq ?_
  rcases bool_cases (a0 == 32) with hc1 | hc1
  · replace h := ite_t hc1 h
    refine WpC.reg (st1 := ⟨[(2, .p .bool true)], []⟩) [2] [] hN (.cons (sok_move (rs := [(0, .p (.int .u8) a0)]) rfl (.inl rfl) (.tmp (.head _))) (.cons (sok_cmp (rs := [(3, .p (.int .u8) a0)]) rfl rfl (.tmp (.head _)) (.int _ _ _) rfl) (.cons (sok_move (rs := [(4, .p .bool ((a0 == 32) : Bool))]) rfl (.inl rfl) (.tmp (.head _))) (.cons (sok_skip rfl rfl hc1) (.cons (sok_skip rfl rfl hc1) (.cons (sok_pickT (rs := [(5, .p .bool ((a0 == 32) : Bool))]) rfl rfl (.tmp (.head _)) hc1 (.bool _ _)) (.cons (sok_move (rs := [(8, .p .bool true)]) rfl (.inl rfl) (.tmp (.head _))) (.cons (sok_skip rfl rfl rfl) (.cons (sok_skip rfl rfl rfl) (.cons (sok_pickT (rs := [(9, .p .bool true)]) rfl rfl (.tmp (.head _)) rfl (.bool _ _)) (.cons (sok_move (rs := [(12, .p .bool true)]) rfl (.inr rfl) (.tmp (.head _))) .nil))))))))))) (by kernel_rfl) (by kernel_rfl) (by kernel_rfl) (Conv.refl _) ?_
    refine thenQ_normal ?_
    refine WpC.ret ?_
    have hq := Option.some.inj h
    subst hq
    exact ends_ret (retV_1 rfl (.head _)) (by simp)
  · replace h := ite_f hc1 h
    rcases bool_cases (a0 == 9) with hc2 | hc2
    · replace h := ite_t hc2 h
      refine WpC.reg (st1 := ⟨[(2, .p .bool true)], []⟩) [2] [] hN (.cons (sok_move (rs := [(0, .p (.int .u8) a0)]) rfl (.inl rfl) (.tmp (.head _))) (.cons (sok_cmp (rs := [(3, .p (.int .u8) a0)]) rfl rfl (.tmp (.head _)) (.int _ _ _) rfl) (.cons (sok_move (rs := [(4, .p .bool ((a0 == 32) : Bool))]) rfl (.inl rfl) (.tmp (.head _))) (.cons (sok_run rfl rfl hc1 (sok_move (rs := [(0, .p (.int .u8) a0)]) rfl (.inl rfl) (.tmp (.head _)))) (.cons (sok_run rfl rfl hc1 (sok_cmp (rs := [(6, .p (.int .u8) a0)]) rfl rfl (.tmp (.head _)) (.int _ _ _) rfl)) (.cons (sok_pickF (rs := [(5, .p .bool ((a0 == 32) : Bool)), (7, .p .bool ((a0 == 9) : Bool))]) rfl rfl (.tmp (.head _)) hc1 (.tmp (.tail _ (.head _)))) (.cons (sok_move (rs := [(8, .p .bool ((a0 == 9) : Bool))]) rfl (.inl rfl) (.tmp (.head _))) (.cons (sok_skip rfl rfl hc2) (.cons (sok_skip rfl rfl hc2) (.cons (sok_pickT (rs := [(9, .p .bool ((a0 == 9) : Bool))]) rfl rfl (.tmp (.head _)) hc2 (.bool _ _)) (.cons (sok_move (rs := [(12, .p .bool true)]) rfl (.inr rfl) (.tmp (.head _))) .nil))))))))))) (by kernel_rfl) (by kernel_rfl) (by kernel_rfl) (Conv.refl _) ?_
      refine thenQ_normal ?_
      refine WpC.ret ?_
      have hq := Option.some.inj h
      subst hq
      exact ends_ret (retV_1 rfl (.head _)) (by simp)
    · replace h := ite_f hc2 h
      refine WpC.reg (st1 := ⟨[(2, .p .bool ((a0 == 10) : Bool))], []⟩) [2] [] hN (.cons (sok_move (rs := [(0, .p (.int .u8) a0)]) rfl (.inl rfl) (.tmp (.head _))) (.cons (sok_cmp (rs := [(3, .p (.int .u8) a0)]) rfl rfl (.tmp (.head _)) (.int _ _ _) rfl) (.cons (sok_move (rs := [(4, .p .bool ((a0 == 32) : Bool))]) rfl (.inl rfl) (.tmp (.head _))) (.cons (sok_run rfl rfl hc1 (sok_move (rs := [(0, .p (.int .u8) a0)]) rfl (.inl rfl) (.tmp (.head _)))) (.cons (sok_run rfl rfl hc1 (sok_cmp (rs := [(6, .p (.int .u8) a0)]) rfl rfl (.tmp (.head _)) (.int _ _ _) rfl)) (.cons (sok_pickF (rs := [(5, .p .bool ((a0 == 32) : Bool)), (7, .p .bool ((a0 == 9) : Bool))]) rfl rfl (.tmp (.head _)) hc1 (.tmp (.tail _ (.head _)))) (.cons (sok_move (rs := [(8, .p .bool ((a0 == 9) : Bool))]) rfl (.inl rfl) (.tmp (.head _))) (.cons (sok_run rfl rfl hc2 (sok_move (rs := [(0, .p (.int .u8) a0)]) rfl (.inl rfl) (.tmp (.head _)))) (.cons (sok_run rfl rfl hc2 (sok_cmp (rs := [(10, .p (.int .u8) a0)]) rfl rfl (.tmp (.head _)) (.int _ _ _) rfl)) (.cons (sok_pickF (rs := [(9, .p .bool ((a0 == 9) : Bool)), (11, .p .bool ((a0 == 10) : Bool))]) rfl rfl (.tmp (.head _)) hc2 (.tmp (.tail _ (.head _)))) (.cons (sok_move (rs := [(12, .p .bool ((a0 == 10) : Bool))]) rfl (.inr rfl) (.tmp (.head _))) .nil))))))))))) (by kernel_rfl) (by kernel_rfl) (by kernel_rfl) (Conv.refl _) ?_
      refine thenQ_normal ?_
      refine WpC.ret ?_
      have hq := Option.some.inj h
      subst hq
      exact ends_ret (retV_1 rfl (.head _)) (by simp)

theorem millwrightlaw11_QuoteTexts.ok (O : Out) (hO : GOk O) (k : Nat) (a0 : List UInt8) (a1 : Int) (out : Bool) (h : millwrightlaw11_QuoteTexts.f k a0 a1 = some out) : COk Un O Tryd.prog 4 { ar := [.p .str a0, .p (.int .u8) a1], r := .p .bool out } := by
  refine cok_of_wp Tryd.func4 rfl (k := 29) rfl (Nat.le_of_ble_eq_true rfl) (namesOk_pure rfl rfl rfl rfl) ?_
  intro B hN
  refine WpC.conv (Conv.keep (b := ⟨[(0, .p .str a0), (1, .p (.int .u8) a1)], []⟩) [0, 1] [] (by kernel_rfl)) ?_
  unfold millwrightlaw11_QuoteTexts.f at h
  refine WpC.seq ?_
  refine WpC.reg (st1 := ⟨[(0, .p .str a0), (1, .p (.int .u8) a1)], []⟩) [0, 1] [] hN (.cons (sok_move (rs := []) rfl (.inr rfl) (.bool _ _)) .nil) (by kernel_rfl) (by kernel_rfl) (by kernel_rfl) (Conv.refl _) ?_
  refine thenQ_normal ?_
  refine WpC.seq ?_
  refine WpC.seq ?_
  obtain ⟨v1, hv1, h⟩ := bind_some h
  refine WpC.reg (st1 := ⟨[(0, .p .str a0), (1, .p (.int .u8) a1), (6, .p .bool ((!v1) : Bool))], []⟩) [0, 1, 6] [] hN (.cons (sok_call (rs := []) (vw := []) rfl rfl hb_17 (millwrightlaw11_alive.ok O hO k  v1 hv1) .nil .nil (by simp) (.inl rfl)) (.cons (sok_not (rs := [(5, .p .bool v1)]) rfl rfl (.tmp (.head _))) .nil)) (by kernel_rfl) (by kernel_rfl) (by kernel_rfl) (Conv.refl _) ?_
  refine thenQ_normal ?_
  refine WpC.cond (b := (!v1)) (.tmp (.tail _ (.tail _ (.head _)))) (fun hc2 => ?_) (fun hc2 => ?_)
  · replace h := ite_t hc2 h
    refine WpC.seq ?_
    refine WpC.reg (st1 := ⟨[(4, .p .bool false)], []⟩) [4] [] hN (.cons (sok_move (rs := []) rfl (.inr rfl) (.bool _ _)) .nil) (by kernel_rfl) (by kernel_rfl) (by kernel_rfl) (Conv.refl _) ?_
    refine thenQ_normal ?_
    refine WpC.ret ?_
    refine thenQ_ret ?_
    have hq := Option.some.inj h
    subst hq
    exact ends_ret (retV_1 rfl (.head _)) (by simp)
  · replace h := ite_f hc2 h
    refine WpC.conv (Conv.keep (b := ⟨[(0, .p .str a0), (1, .p (.int .u8) a1)], []⟩) [0, 1] [] (by kernel_rfl)) (WpC.skip ?_)
    refine thenQ_normal ?_
    refine WpC.seq ?_
    refine WpC.seq ?_
    refine WpC.reg (st1 := ⟨[(0, .p .str a0), (1, .p (.int .u8) a1), (9, .p .bool ((decide ((a0.length : Int) > 200)) : Bool))], []⟩) [0, 1, 9] [] hN (.cons (sok_move (rs := [(0, .p .str a0)]) rfl (.inl rfl) (.tmp (.head _))) (.cons (sok_lenS (rs := [(7, .p .str a0)]) rfl rfl Tryd.underlying9 (.tmp (.head _))) (.cons (sok_cmp (rs := [(8, .p (.int .i64) ((a0.length : Int) : Int))]) rfl rfl (.tmp (.head _)) (.int _ _ _) rfl) .nil))) (by kernel_rfl) (by kernel_rfl) (by kernel_rfl) (Conv.refl _) ?_
    refine thenQ_normal ?_
    refine WpC.cond (b := (decide ((a0.length : Int) > 200))) (.tmp (.tail _ (.tail _ (.head _)))) (fun hc3 => ?_) (fun hc3 => ?_)
    · replace h := ite_t hc3 h
      refine WpC.seq ?_
      refine WpC.reg (st1 := ⟨[(4, .p .bool true)], []⟩) [4] [] hN (.cons (sok_move (rs := []) rfl (.inr rfl) (.bool _ _)) .nil) (by kernel_rfl) (by kernel_rfl) (by kernel_rfl) (Conv.refl _) ?_
      refine thenQ_normal ?_
      refine WpC.ret ?_
      refine thenQ_ret ?_
      have hq := Option.some.inj h
      subst hq
      exact ends_ret (retV_1 rfl (.head _)) (by simp)
    · replace h := ite_f hc3 h
      refine WpC.conv (Conv.keep (b := ⟨[(0, .p .str a0), (1, .p (.int .u8) a1)], []⟩) [0, 1] [] (by kernel_rfl)) (WpC.skip ?_)
      refine thenQ_normal ?_
      refine WpC.seq ?_
      obtain ⟨v4, hv4, h⟩ := bind_some h
      obtain ⟨v5, hv5, h⟩ := bind_some h
      rcases bool_cases (v4 == v5) with hc6 | hc6
      · replace h := ite_t hc6 h
        obtain ⟨v7, hv7, h⟩ := bind_some h
        obtain ⟨v8, hv8, h⟩ := bind_some h
        rcases bool_cases (v7 == v8) with hc9 | hc9
        · replace h := ite_t hc9 h
          obtain ⟨v10, hv10, h⟩ := bind_some h
          obtain ⟨v11, hv11, h⟩ := bind_some h
          refine WpC.reg (st1 := ⟨[(4, .p .bool ((v10 == v11) : Bool))], []⟩) [4] [] hN (.cons (sok_move (rs := [(0, .p .str a0)]) rfl (.inl rfl) (.tmp (.head _))) (.cons (sok_call (rs := [(10, .p .str a0)]) (vw := []) rfl rfl hb_18 (quote_Plain.ok O hO k a0 v4 hv4) (.cons (.tmp (.head _)) .nil) (.cons (.same _) .nil) (by simp) (.inl rfl)) (.cons (sok_move (rs := [(0, .p .str a0)]) rfl (.inl rfl) (.tmp (.head _))) (.cons (sok_call (rs := [(12, .p .str a0)]) (vw := []) rfl rfl hb_19 (millwrightref11_Plain.ok O hO k a0 v5 hv5) (.cons (.tmp (.head _)) .nil) (.cons (.same _) .nil) (by simp) (.inl rfl)) (.cons (sok_eqB (rs := [(11, .p .bool v4), (13, .p .bool v5)]) rfl rfl Tryd.underlying4 (.tmp (.head _)) (.tmp (.tail _ (.head _)))) (.cons (sok_move (rs := [(14, .p .bool ((v4 == v5) : Bool))]) rfl (.inl rfl) (.tmp (.head _))) (.cons (sok_run rfl rfl hc6 (sok_move (rs := [(0, .p .str a0)]) rfl (.inl rfl) (.tmp (.head _)))) (.cons (sok_run rfl rfl hc6 (sok_call (rs := [(16, .p .str a0)]) (vw := []) rfl rfl hb_20 (quote_Quote.ok O hO k a0 v7 hv7) (.cons (.tmp (.head _)) .nil) (.cons (.same _) .nil) (by simp) (.inl rfl))) (.cons (sok_run rfl rfl hc6 (sok_move (rs := [(0, .p .str a0)]) rfl (.inl rfl) (.tmp (.head _)))) (.cons (sok_run rfl rfl hc6 (sok_call (rs := [(18, .p .str a0)]) (vw := []) rfl rfl hb_21 (millwrightref11_Quote.ok O hO k a0 v8 hv8) (.cons (.tmp (.head _)) .nil) (.cons (.same _) .nil) (by simp) (.inl rfl))) (.cons (sok_run rfl rfl hc6 (sok_cmpS (rs := [(17, .p .str v7), (19, .p .str v8)]) rfl rfl (.tmp (.head _)) (.tmp (.tail _ (.head _))) rfl)) (.cons (sok_pickT (rs := [(15, .p .bool ((v4 == v5) : Bool)), (20, .p .bool ((v7 == v8) : Bool))]) rfl rfl (.tmp (.head _)) hc6 (.tmp (.tail _ (.head _)))) (.cons (sok_move (rs := [(21, .p .bool ((v7 == v8) : Bool))]) rfl (.inl rfl) (.tmp (.head _))) (.cons (sok_run rfl rfl hc9 (sok_move (rs := [(1, .p (.int .u8) a1)]) rfl (.inl rfl) (.tmp (.head _)))) (.cons (sok_run rfl rfl hc9 (sok_call (rs := [(23, .p (.int .u8) a1)]) (vw := []) rfl rfl hb_22 (quote_Blank.ok O hO k a1 v10 hv10) (.cons (.tmp (.head _)) .nil) (.cons (.same _) .nil) (by simp) (.inl rfl))) (.cons (sok_run rfl rfl hc9 (sok_move (rs := [(1, .p (.int .u8) a1)]) rfl (.inl rfl) (.tmp (.head _)))) (.cons (sok_run rfl rfl hc9 (sok_call (rs := [(25, .p (.int .u8) a1)]) (vw := []) rfl rfl hb_23 (millwrightref11_Blank.ok O hO k a1 v11 hv11) (.cons (.tmp (.head _)) .nil) (.cons (.same _) .nil) (by simp) (.inl rfl))) (.cons (sok_run rfl rfl hc9 (sok_eqB (rs := [(24, .p .bool v10), (26, .p .bool v11)]) rfl rfl Tryd.underlying4 (.tmp (.head _)) (.tmp (.tail _ (.head _))))) (.cons (sok_pickT (rs := [(22, .p .bool ((v7 == v8) : Bool)), (27, .p .bool ((v10 == v11) : Bool))]) rfl rfl (.tmp (.head _)) hc9 (.tmp (.tail _ (.head _)))) (.cons (sok_move (rs := [(28, .p .bool ((v10 == v11) : Bool))]) rfl (.inr rfl) (.tmp (.head _))) .nil)))))))))))))))))))) (by kernel_rfl) (by kernel_rfl) (by kernel_rfl) (Conv.refl _) ?_
          refine thenQ_normal ?_
          refine WpC.ret ?_
          have hq := Option.some.inj h
          subst hq
          exact ends_ret (retV_1 rfl (.head _)) (by simp)
        · replace h := ite_f hc9 h
          refine WpC.reg (st1 := ⟨[(4, .p .bool false)], []⟩) [4] [] hN (.cons (sok_move (rs := [(0, .p .str a0)]) rfl (.inl rfl) (.tmp (.head _))) (.cons (sok_call (rs := [(10, .p .str a0)]) (vw := []) rfl rfl hb_18 (quote_Plain.ok O hO k a0 v4 hv4) (.cons (.tmp (.head _)) .nil) (.cons (.same _) .nil) (by simp) (.inl rfl)) (.cons (sok_move (rs := [(0, .p .str a0)]) rfl (.inl rfl) (.tmp (.head _))) (.cons (sok_call (rs := [(12, .p .str a0)]) (vw := []) rfl rfl hb_19 (millwrightref11_Plain.ok O hO k a0 v5 hv5) (.cons (.tmp (.head _)) .nil) (.cons (.same _) .nil) (by simp) (.inl rfl)) (.cons (sok_eqB (rs := [(11, .p .bool v4), (13, .p .bool v5)]) rfl rfl Tryd.underlying4 (.tmp (.head _)) (.tmp (.tail _ (.head _)))) (.cons (sok_move (rs := [(14, .p .bool ((v4 == v5) : Bool))]) rfl (.inl rfl) (.tmp (.head _))) (.cons (sok_run rfl rfl hc6 (sok_move (rs := [(0, .p .str a0)]) rfl (.inl rfl) (.tmp (.head _)))) (.cons (sok_run rfl rfl hc6 (sok_call (rs := [(16, .p .str a0)]) (vw := []) rfl rfl hb_20 (quote_Quote.ok O hO k a0 v7 hv7) (.cons (.tmp (.head _)) .nil) (.cons (.same _) .nil) (by simp) (.inl rfl))) (.cons (sok_run rfl rfl hc6 (sok_move (rs := [(0, .p .str a0)]) rfl (.inl rfl) (.tmp (.head _)))) (.cons (sok_run rfl rfl hc6 (sok_call (rs := [(18, .p .str a0)]) (vw := []) rfl rfl hb_21 (millwrightref11_Quote.ok O hO k a0 v8 hv8) (.cons (.tmp (.head _)) .nil) (.cons (.same _) .nil) (by simp) (.inl rfl))) (.cons (sok_run rfl rfl hc6 (sok_cmpS (rs := [(17, .p .str v7), (19, .p .str v8)]) rfl rfl (.tmp (.head _)) (.tmp (.tail _ (.head _))) rfl)) (.cons (sok_pickT (rs := [(15, .p .bool ((v4 == v5) : Bool)), (20, .p .bool ((v7 == v8) : Bool))]) rfl rfl (.tmp (.head _)) hc6 (.tmp (.tail _ (.head _)))) (.cons (sok_move (rs := [(21, .p .bool ((v7 == v8) : Bool))]) rfl (.inl rfl) (.tmp (.head _))) (.cons (sok_skip rfl rfl hc9) (.cons (sok_skip rfl rfl hc9) (.cons (sok_skip rfl rfl hc9) (.cons (sok_skip rfl rfl hc9) (.cons (sok_skip rfl rfl hc9) (.cons (sok_pickF (rs := [(22, .p .bool ((v7 == v8) : Bool))]) rfl rfl (.tmp (.head _)) hc9 (.bool _ _)) (.cons (sok_move (rs := [(28, .p .bool false)]) rfl (.inr rfl) (.tmp (.head _))) .nil)))))))))))))))))))) (by kernel_rfl) (by kernel_rfl) (by kernel_rfl) (Conv.refl _) ?_
          refine thenQ_normal ?_
          refine WpC.ret ?_
          have hq := Option.some.inj h
          subst hq
          exact ends_ret (retV_1 rfl (.head _)) (by simp)
      · replace h := ite_f hc6 h
        refine WpC.reg (st1 := ⟨[(4, .p .bool false)], []⟩) [4] [] hN (.cons (sok_move (rs := [(0, .p .str a0)]) rfl (.inl rfl) (.tmp (.head _))) (.cons (sok_call (rs := [(10, .p .str a0)]) (vw := []) rfl rfl hb_18 (quote_Plain.ok O hO k a0 v4 hv4) (.cons (.tmp (.head _)) .nil) (.cons (.same _) .nil) (by simp) (.inl rfl)) (.cons (sok_move (rs := [(0, .p .str a0)]) rfl (.inl rfl) (.tmp (.head _))) (.cons (sok_call (rs := [(12, .p .str a0)]) (vw := []) rfl rfl hb_19 (millwrightref11_Plain.ok O hO k a0 v5 hv5) (.cons (.tmp (.head _)) .nil) (.cons (.same _) .nil) (by simp) (.inl rfl)) (.cons (sok_eqB (rs := [(11, .p .bool v4), (13, .p .bool v5)]) rfl rfl Tryd.underlying4 (.tmp (.head _)) (.tmp (.tail _ (.head _)))) (.cons (sok_move (rs := [(14, .p .bool ((v4 == v5) : Bool))]) rfl (.inl rfl) (.tmp (.head _))) (.cons (sok_skip rfl rfl hc6) (.cons (sok_skip rfl rfl hc6) (.cons (sok_skip rfl rfl hc6) (.cons (sok_skip rfl rfl hc6) (.cons (sok_skip rfl rfl hc6) (.cons (sok_pickF (rs := [(15, .p .bool ((v4 == v5) : Bool))]) rfl rfl (.tmp (.head _)) hc6 (.bool _ _)) (.cons (sok_move (rs := [(21, .p .bool false)]) rfl (.inl rfl) (.tmp (.head _))) (.cons (sok_skip rfl rfl rfl) (.cons (sok_skip rfl rfl rfl) (.cons (sok_skip rfl rfl rfl) (.cons (sok_skip rfl rfl rfl) (.cons (sok_skip rfl rfl rfl) (.cons (sok_pickF (rs := [(22, .p .bool false)]) rfl rfl (.tmp (.head _)) rfl (.bool _ _)) (.cons (sok_move (rs := [(28, .p .bool false)]) rfl (.inr rfl) (.tmp (.head _))) .nil)))))))))))))))))))) (by kernel_rfl) (by kernel_rfl) (by kernel_rfl) (Conv.refl _) ?_
        refine thenQ_normal ?_
        refine WpC.ret ?_
        have hq := Option.some.inj h
        subst hq
        exact ends_ret (retV_1 rfl (.head _)) (by simp)

end Go.Proofs.YtfeaegjlhpgdmaaDoor
