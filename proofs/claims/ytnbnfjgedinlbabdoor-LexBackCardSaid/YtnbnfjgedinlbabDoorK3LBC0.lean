/- A part of the proof of a given law: LBC0. Own work, printed in part by a program of mine. -/
import Derived.Test.YtnbnfjgedinlbabDoorK3LBF
namespace Go.Proofs.YtnbnfjgedinlbabDoor
open Go Go.AM
set_option linter.unusedVariables false
set_option linter.unusedSimpArgs false
set_option maxRecDepth 100000
theorem quote_Blank.ok (O : Out) (hO : GOkL O) (k : Nat) (a0 : Int) (out : Bool) (h : quote_Blank.f k a0 = some out) : COk Un O Tryd.prog 46 { ar := [.p (.int .u8) a0], r := .p .bool out } := by
  refine cok_of_wp Tryd.func46 rfl (k := 6) rfl (Nat.le_of_ble_eq_true rfl) (namesOk_pure rfl rfl rfl rfl) ?_
  intro B hN
  refine WpC.conv (Conv.keep (U := Un) (b := ⟨[(0, .p (.int .u8) a0)], []⟩) [0] [] (by kernel_rfl)) ?_
  unfold quote_Blank.f at h
  refine WpC.seq ?_
  refine WpC.reg (U := Un) (st1 := ⟨[(0, .p (.int .u8) a0)], []⟩) [0] [] hN (.cons (sok_move (U := Un) (rs := []) rfl (.inr rfl) (.bool _ _)) .nil) (by kernel_rfl) (by kernel_rfl) (by kernel_rfl) (Conv.refl (U := Un) _) ?_
  refine thenQ_normal ?_
  refine WpC.seq ?_
  obtain ⟨v1, hv1, h⟩ := bind_some h
  refine WpC.reg (U := Un) (st1 := ⟨[(2, .p .bool ((decide (v1 ≥ 0)) : Bool))], []⟩) [2] [] hN (.cons (mv (U := Un) (v := .p (.int .u8) a0) rfl rfl) (.cons (sok_call (U := Un) (rs := [(3, .p (.int .u8) a0)]) (vw := []) rfl rfl hb_67 (pIndexByteL.ok O hO k ([32, 9, 10] : List UInt8) a0 v1 hv1) (.cons (.str _ _) (.cons o0 .nil)) (.cons (.same _) (.cons (.same _) .nil)) (by simp) (.inl rfl)) (.cons (sok_cmp (U := Un) (rs := [(4, .p I6 v1)]) rfl rfl o0 (.int _ _ _) rfl) (.cons (mva (U := Un) (v := .p .bool ((decide (v1 ≥ 0)) : Bool)) rfl rfl) .nil)))) (by kernel_rfl) (by kernel_rfl) (by kernel_rfl) (Conv.refl (U := Un) _) ?_
  refine thenQ_normal ?_
  refine WpC.ret ?_
  have hq := Option.some.inj h
  subst hq
  exact ends_ret (retV_1 rfl (.head _)) ain_nil

theorem lex_run_m0.ok (O : Out) (hO : GOkL O) (k : Nat) (a0 : List UInt8) (a1 : Int) (out : Int) (h : lex_run_m0.f k a0 a1 = some out) : COk Un O Tryd.prog 66 { ar := [.p .str a0, .p I6 a1, .clo 46 []], r := .p I6 out } := by
  refine cok_of_wp Tryd.func66 rfl (k := 26) rfl (Nat.le_of_ble_eq_true rfl) (namesOk_pure rfl rfl rfl rfl) ?_
  intro B hN
  refine WpC.conv (Conv.keep (U := Un) (b := ⟨[(0, .p .str a0), (1, .p I6 a1), (2, .clo 46 [])], []⟩) [0, 1, 2] [] (by kernel_rfl)) ?_
  unfold lex_run_m0.f at h
  refine WpC.seq ?_
  refine WpC.reg (U := Un) (st1 := ⟨[(0, .p .str a0), (1, .p I6 a1), (2, .clo 46 [])], []⟩) [0, 1, 2] [] hN (.cons (sok_move (U := Un) (rs := []) rfl (.inr rfl) (.int _ _ _)) .nil) (by kernel_rfl) (by kernel_rfl) (by kernel_rfl) (Conv.refl (U := Un) _) ?_
  refine thenQ_normal ?_
  refine WpC.seq ?_
  refine WpC.reg (U := Un) (st1 := ⟨[(0, .p .str a0), (1, .p I6 a1), (2, .clo 46 []), (7, .p I6 (0 : Int))], []⟩) [0, 1, 2, 7] [] hN (.cons (sok_move (U := Un) (rs := []) rfl (.inr rfl) (.int _ _ _)) .nil) (by kernel_rfl) (by kernel_rfl) (by kernel_rfl) (Conv.refl (U := Un) _) ?_
  refine thenQ_normal ?_
  refine WpC.seqJ (U := Un) (fun st' => ∃ v1 : Int, lex_run_m0.j2 k v1 = some out ∧ st' = ⟨[(7, .p I6 v1)], []⟩) ?_ ?_
  · refine WpC.block ?_
    obtain ⟨o6, hlo6, h⟩ := bind_some h
    have hout7 := h
    clear h
    refine WpC.loop (U := Un) (fun n st' => ∃ v3 : Int, lex_run_m0.l4 k a0 a1 n v3 = some o6 ∧ st' = ⟨[(0, .p .str a0), (1, .p I6 a1), (2, .clo 46 []), (7, .p I6 v3)], []⟩) k ⟨0, hlo6, rfl⟩ ?_
    clear hlo6
    rintro (_ | n) _ ⟨v3, h, rfl⟩
    · cases h
    · rw [lex_run_m0.l4] at h
      refine WpC.seqJ (U := Un) (fun st' => lex_run_m0.j8 k (lex_run_m0.l4 k a0 a1 n) a0 a1 v3 = some o6 ∧ st' = ⟨[(0, .p .str a0), (1, .p I6 a1), (2, .clo 46 []), (7, .p I6 v3)], []⟩) ?_ ?_
      · refine WpC.seqJ (U := Un) (fun st' => ∃ v9 : Bool, lex_run_m0.j11 k (lex_run_m0.l4 k a0 a1 n) a0 a1 v3 v9 = some o6 ∧ st' = ⟨[(0, .p .str a0), (1, .p I6 a1), (2, .clo 46 []), (7, .p I6 v3), (22, .p .bool v9)], []⟩) ?_ ?_
        · rcases bool_cases (decide ((IntKind.i64.wrap (a1 + v3)) < (a0.length : Int))) with hc12 | hc12
          · replace h := ite_t hc12 h
            obtain ⟨v13, hv13, h⟩ := bind_some h
            obtain ⟨v14, hv14, h⟩ := bind_some h
            refine WpC.reg (U := Un) (st1 := ⟨[(0, .p .str a0), (1, .p I6 a1), (2, .clo 46 []), (7, .p I6 v3), (22, .p .bool v14)], []⟩) [0, 1, 2, 7, 22] [] hN (.cons (mv (U := Un) (v := .p I6 a1) rfl rfl) (.cons (mv (U := Un) (v := .p I6 v3) rfl rfl) (.cons (sok_arith (U := Un) (rs := [(8, .p I6 a1), (9, .p I6 v3)]) rfl rfl o0 o1 rfl) (.cons (mv (U := Un) (v := .p .str a0) rfl rfl) (.cons (sok_lenS (U := Un) (rs := [(11, .p .str a0)]) rfl rfl Tryd.underlying9 o0) (.cons (sok_cmp (U := Un) (rs := [(10, .p I6 ((IntKind.i64.wrap (a1 + v3)) : Int)), (12, .p I6 ((a0.length : Int) : Int))]) rfl rfl o0 o1 rfl) (.cons (mv (U := Un) (v := .p .bool ((decide ((IntKind.i64.wrap (a1 + v3)) < (a0.length : Int))) : Bool)) rfl rfl) (.cons (sok_run rfl rfl hc12 (mv (U := Un) (v := .clo 46 []) rfl rfl)) (.cons (sok_run rfl rfl hc12 (mv (U := Un) (v := .p .str a0) rfl rfl)) (.cons (sok_run rfl rfl hc12 (mv (U := Un) (v := .p I6 a1) rfl rfl)) (.cons (sok_run rfl rfl hc12 (mv (U := Un) (v := .p I6 v3) rfl rfl)) (.cons (sok_run rfl rfl hc12 (sok_arith (U := Un) (rs := [(17, .p I6 a1), (18, .p I6 v3)]) rfl rfl o0 o1 rfl)) (.cons (sok_run rfl rfl hc12 (sok_indexS (U := Un) (rs := [(16, .p .str a0), (19, .p I6 ((IntKind.i64.wrap (a1 + v3)) : Int))]) rfl rfl Tryd.underlying9 o0 o1 hv13)) (.cons (sok_run rfl rfl hc12 (sok_callV (U := Un) (rs := [(20, .p (.int .u8) ((v13.toNat : Int) : Int)), (15, .clo 46 [])]) (vw := []) rfl rfl (.clo o1) hb_46 (quote_Blank.ok O hO k (v13.toNat : Int) v14 hv14) (.cons o0 .nil) (.cons (.same _) .nil) (by simp) (.inl rfl))) (.cons (sok_pickT (U := Un) (rs := [(14, .p .bool ((decide ((IntKind.i64.wrap (a1 + v3)) < (a0.length : Int))) : Bool)), (21, .p .bool v14)]) rfl rfl o0 hc12 o1) .nil))))))))))))))) (by kernel_rfl) (by kernel_rfl) (by kernel_rfl) (Conv.refl (U := Un) _) ?_
            refine thenQ_normal ?_
            exact ⟨v14, h, rfl⟩
          · replace h := ite_f hc12 h
            refine WpC.reg (U := Un) (st1 := ⟨[(0, .p .str a0), (1, .p I6 a1), (2, .clo 46 []), (7, .p I6 v3), (22, .p .bool false)], []⟩) [0, 1, 2, 7, 22] [] hN (.cons (mv (U := Un) (v := .p I6 a1) rfl rfl) (.cons (mv (U := Un) (v := .p I6 v3) rfl rfl) (.cons (sok_arith (U := Un) (rs := [(8, .p I6 a1), (9, .p I6 v3)]) rfl rfl o0 o1 rfl) (.cons (mv (U := Un) (v := .p .str a0) rfl rfl) (.cons (sok_lenS (U := Un) (rs := [(11, .p .str a0)]) rfl rfl Tryd.underlying9 o0) (.cons (sok_cmp (U := Un) (rs := [(10, .p I6 ((IntKind.i64.wrap (a1 + v3)) : Int)), (12, .p I6 ((a0.length : Int) : Int))]) rfl rfl o0 o1 rfl) (.cons (mv (U := Un) (v := .p .bool ((decide ((IntKind.i64.wrap (a1 + v3)) < (a0.length : Int))) : Bool)) rfl rfl) (.cons (sok_skip rfl rfl hc12) (.cons (sok_skip rfl rfl hc12) (.cons (sok_skip rfl rfl hc12) (.cons (sok_skip rfl rfl hc12) (.cons (sok_skip rfl rfl hc12) (.cons (sok_skip rfl rfl hc12) (.cons (sok_skip rfl rfl hc12) (.cons (sok_pickF (U := Un) (rs := [(14, .p .bool ((decide ((IntKind.i64.wrap (a1 + v3)) < (a0.length : Int))) : Bool))]) rfl rfl o0 hc12 (.bool _ _)) .nil))))))))))))))) (by kernel_rfl) (by kernel_rfl) (by kernel_rfl) (Conv.refl (U := Un) _) ?_
            refine thenQ_normal ?_
            exact ⟨false, h, rfl⟩
        · rintro _ ⟨v9, h, rfl⟩
          unfold lex_run_m0.j11 at h
          refine WpC.cond (U := Un) (b := v9) (.tmp (.tail _ (.tail _ (.tail _ (.tail _ (.head _)))))) (fun hc10 => ?_) (fun hc10 => ?_)
          · replace h := ite_t hc10 h
            refine WpC.conv (Conv.keep (U := Un) (b := ⟨[(0, .p .str a0), (1, .p I6 a1), (2, .clo 46 []), (7, .p I6 v3)], []⟩) [0, 1, 2, 7] [] (by kernel_rfl)) (WpC.skip ?_)
            refine thenQ_normal ?_
            exact ⟨h, rfl⟩
          · replace h := ite_f hc10 h
            refine WpC.conv (Conv.keep (U := Un) (b := ⟨[(7, .p I6 v3)], []⟩) [7] [] (by kernel_rfl)) (WpC.exit ?_)
            refine thenQ_exit ?_
            have hq := Option.some.inj h
            subst hq
            refine thenQ_exit ?_
            have h := hout7
            refine blockQ_hit ?_
            refine thenQ_normal ?_
            exact ⟨v3, h, rfl⟩
      · rintro _ ⟨h, rfl⟩
        unfold lex_run_m0.j8 at h
        refine WpC.block ?_
        refine WpC.reg (U := Un) (st1 := ⟨[(0, .p .str a0), (1, .p I6 a1), (2, .clo 46 []), (7, .p I6 ((IntKind.i64.wrap (v3 + 1)) : Int))], []⟩) [0, 1, 2, 7] [] hN (.cons (mv (U := Un) (v := .p I6 v3) rfl rfl) (.cons (sok_arith (U := Un) (rs := [(23, .p I6 v3)]) rfl rfl o0 (.int _ _ _) rfl) (.cons (mva (U := Un) (v := .p I6 ((IntKind.i64.wrap (v3 + 1)) : Int)) rfl rfl) .nil))) (by kernel_rfl) (by kernel_rfl) (by kernel_rfl) (Conv.refl (U := Un) _) ?_
        refine blockQ_normal ?_
        refine thenQ_normal ?_
        exact ⟨n, Nat.lt_succ_self n, (IntKind.i64.wrap (v3 + 1)), h, rfl⟩
  · rintro _ ⟨v1, h, rfl⟩
    unfold lex_run_m0.j2 at h
    refine WpC.seq ?_
    refine WpC.reg (U := Un) (st1 := ⟨[(6, .p I6 v1)], []⟩) [6] [] hN (.cons (mv (U := Un) (v := .p I6 v1) rfl rfl) (.cons (mva (U := Un) (v := .p I6 v1) rfl rfl) .nil)) (by kernel_rfl) (by kernel_rfl) (by kernel_rfl) (Conv.refl (U := Un) _) ?_
    refine thenQ_normal ?_
    refine WpC.ret ?_
    have hq := Option.some.inj h
    subst hq
    exact ends_ret (retV_1 rfl (.head _)) ain_nil

theorem lex_reader_take_m0.ok (O : Out) (hO : GOkL O) (k : Nat) (a0 : List UInt8) (a1 : Int) (a2 : Nat) (out : (List UInt8) × Int) (h : lex_reader_take_m0.f k a0 a1 a2 = some out) : COk Un O Tryd.prog 45 { ar := [.loc 100000 0, .clo 46 []], r := .p .str out.1, bs := [(100000, .box [.p .str a0, .p I6 a1, .p .err a2])], bs' := [(100000, .box [.p .str a0, .p I6 out.2, .p .err a2])] } := by
  refine cok_of_wp Tryd.func45 rfl (k := 39) rfl (Nat.le_of_ble_eq_true rfl) (namesOk_of (by kernel_rfl)) ?_
  intro B hN
  refine WpC.conv (Conv.keep (U := Un) (b := ⟨[(0, .loc 100000 0), (1, .clo 46 [])], [(100000, .box [.p .str a0, .p I6 a1, .p .err a2])]⟩) [0, 1] [100000] (by kernel_rfl)) ?_
  unfold lex_reader_take_m0.f at h
  refine WpC.seq ?_
  refine WpC.reg (U := Un) (st1 := ⟨[(0, .loc 100000 0), (1, .clo 46 [])], [(100000, .box [.p .str a0, .p I6 a1, .p .err a2])]⟩) [0, 1] [100000] hN (.cons (sok_move (U := Un) (rs := []) rfl (.inr rfl) (.str _ _)) .nil) (by kernel_rfl) (by kernel_rfl) (by kernel_rfl) (Conv.refl (U := Un) _) ?_
  refine thenQ_normal ?_
  refine WpC.seq ?_
  obtain ⟨v1, hv1, h⟩ := bind_some h
  refine WpC.regA (U := Un) (st1 := ⟨[(0, .loc 100000 0), (5, .p I6 v1)], [(100000, .box [.p .str a0, .p I6 a1, .p .err a2])]⟩) [0, 5] [100000] [[], [0], [0, 1], [0, 1, 2], [], [4], [4, 5], [4, 5, 6], [], [0, 1, 2, 3, 4, 5, 6, 7, 8], [0, 1, 2, 3, 4, 5, 6, 7, 8, 9]] mixed hN (.cons (mv (U := Un) (v := .loc 100000 0) rfl rfl) (.cons (sok_nilCheck (U := Un) (rs := [(6, .loc 100000 0)]) rfl rfl o0 rfl) (.cons (sok_fieldB (U := Un) (rs := [(7, .loc 100000 0)]) rfl rfl fd_81_0 (by decide) o0) (.cons (sok_loadB (U := Un) (t := .str) (rs := [(8, .loc 100000 0)]) [] [.p .str a0] [.p I6 a1, .p .err a2] (v := .p .str a0) rfl rfl ty_9 o0 rfl rfl rfl rfl (.data (.one _ _))) (.cons (mv (U := Un) (v := .loc 100000 0) rfl rfl) (.cons (sok_nilCheck (U := Un) (rs := [(10, .loc 100000 0)]) rfl rfl o0 rfl) (.cons (sok_fieldB (U := Un) (rs := [(11, .loc 100000 0)]) rfl rfl fd_81_1 (by decide) o0) (.cons (sok_loadB (U := Un) (t := .int .i64) (rs := [(12, .loc 100000 1)]) [.p .str a0] [.p I6 a1] [.p .err a2] (v := .p I6 a1) rfl rfl ty_3 o0 rfl rfl rfl rfl (.data (.one _ _))) (.cons (mv (U := Un) (v := .clo 46 []) rfl rfl) (.cons (sok_callV (U := Un) (rs := [(9, .p .str a0), (13, .p I6 a1), (14, .clo 46 [])]) (vw := []) rfl rfl (.func _) hb_66 (lex_run_m0.ok O hO k a0 a1 v1 hv1) (.cons o0 (.cons o1 (.cons (.tmp (.tail _ (.tail _ (.head _)))) .nil))) (.cons (.same _) (.cons (.same _) (.cons (.same _) .nil))) (by simp) (.inl rfl)) (.cons (mva (U := Un) (v := .p I6 v1) rfl rfl) .nil))))))))))) (by kernel_rfl) (by kernel_rfl) (by kernel_rfl) (by kernel_rfl) (by kernel_rfl) (Conv.refl (U := Un) _) ?_
  refine thenQ_normal ?_
  refine WpC.seq ?_
  refine WpC.reg (U := Un) (st1 := ⟨[(0, .loc 100000 0), (5, .p I6 v1)], [(100000, .box [.p .str a0, .p I6 ((IntKind.i64.wrap (a1 + v1)) : Int), .p .err a2])]⟩) [0, 5] [100000] hN (.cons (mv (U := Un) (v := .loc 100000 0) rfl rfl) (.cons (sok_nilCheck (U := Un) (rs := [(16, .loc 100000 0)]) rfl rfl o0 rfl) (.cons (sok_fieldB (U := Un) (rs := [(17, .loc 100000 0)]) rfl rfl fd_81_1 (by decide) o0) (.cons (sok_loadB (U := Un) (t := .int .i64) (rs := [(18, .loc 100000 1)]) [.p .str a0] [.p I6 a1] [.p .err a2] (v := .p I6 a1) rfl rfl ty_3 o0 rfl rfl rfl rfl (.data (.one _ _))) (.cons (mv (U := Un) (v := .p I6 v1) rfl rfl) (.cons (sok_arith (U := Un) (rs := [(19, .p I6 a1), (20, .p I6 v1)]) rfl rfl o0 o1 rfl) (.cons (sok_nilCheck (U := Un) (rs := [(16, .loc 100000 0)]) rfl rfl o0 rfl) (.cons (sok_fieldB (U := Un) (rs := [(22, .loc 100000 0)]) rfl rfl fd_81_1 (by decide) o0) (.cons (sok_storeB (U := Un) (rs := [(23, .loc 100000 1), (21, .p I6 ((IntKind.i64.wrap (a1 + v1)) : Int))]) (v := .p I6 ((IntKind.i64.wrap (a1 + v1)) : Int)) (mid' := [.p I6 ((IntKind.i64.wrap (a1 + v1)) : Int)]) [.p .str a0] [.p I6 a1] [.p .err a2] rfl rfl rfl ty_3 o0 o1 (.data (.one _ _)) rfl rfl rfl rfl rfl rfl) .nil))))))))) (by kernel_rfl) (by kernel_rfl) (by kernel_rfl) (Conv.refl (U := Un) _) ?_
  refine thenQ_normal ?_
  refine WpC.seq ?_
  obtain ⟨v2, hv2, h⟩ := bind_some h
  refine WpC.regA (U := Un) (st1 := ⟨[(4, .p .str v2)], [(100000, .box [.p .str a0, .p I6 ((IntKind.i64.wrap (a1 + v1)) : Int), .p .err a2])]⟩) [4] [100000] [[], [0], [0, 1], [0, 1, 2], [], [4], [4, 5], [4, 5, 6], [], [4, 5, 6, 7, 8], [], [10], [10, 11], [10, 11, 12], [0, 1, 2, 3, 4, 5, 6, 7, 8, 9, 10, 11, 12, 13], [0, 1, 2, 3, 4, 5, 6, 7, 8, 9, 10, 11, 12, 13, 14]] mixed hN (.cons (mv (U := Un) (v := .loc 100000 0) rfl rfl) (.cons (sok_nilCheck (U := Un) (rs := [(24, .loc 100000 0)]) rfl rfl o0 rfl) (.cons (sok_fieldB (U := Un) (rs := [(25, .loc 100000 0)]) rfl rfl fd_81_0 (by decide) o0) (.cons (sok_loadB (U := Un) (t := .str) (rs := [(26, .loc 100000 0)]) [] [.p .str a0] [.p I6 ((IntKind.i64.wrap (a1 + v1)) : Int), .p .err a2] (v := .p .str a0) rfl rfl ty_9 o0 rfl rfl rfl rfl (.data (.one _ _))) (.cons (mv (U := Un) (v := .loc 100000 0) rfl rfl) (.cons (sok_nilCheck (U := Un) (rs := [(28, .loc 100000 0)]) rfl rfl o0 rfl) (.cons (sok_fieldB (U := Un) (rs := [(29, .loc 100000 0)]) rfl rfl fd_81_1 (by decide) o0) (.cons (sok_loadB (U := Un) (t := .int .i64) (rs := [(30, .loc 100000 1)]) [.p .str a0] [.p I6 ((IntKind.i64.wrap (a1 + v1)) : Int)] [.p .err a2] (v := .p I6 ((IntKind.i64.wrap (a1 + v1)) : Int)) rfl rfl ty_3 o0 rfl rfl rfl rfl (.data (.one _ _))) (.cons (mv (U := Un) (v := .p I6 v1) rfl rfl) (.cons (sok_arith (U := Un) (rs := [(31, .p I6 ((IntKind.i64.wrap (a1 + v1)) : Int)), (32, .p I6 v1)]) rfl rfl o0 o1 rfl) (.cons (mv (U := Un) (v := .loc 100000 0) rfl rfl) (.cons (sok_nilCheck (U := Un) (rs := [(34, .loc 100000 0)]) rfl rfl o0 rfl) (.cons (sok_fieldB (U := Un) (rs := [(35, .loc 100000 0)]) rfl rfl fd_81_1 (by decide) o0) (.cons (sok_loadB (U := Un) (t := .int .i64) (rs := [(36, .loc 100000 1)]) [.p .str a0] [.p I6 ((IntKind.i64.wrap (a1 + v1)) : Int)] [.p .err a2] (v := .p I6 ((IntKind.i64.wrap (a1 + v1)) : Int)) rfl rfl ty_3 o0 rfl rfl rfl rfl (.data (.one _ _))) (.cons (sok_sliceS (U := Un) (rs := [(27, .p .str a0), (33, .p I6 ((IntKind.i64.wrap ((IntKind.i64.wrap (a1 + v1)) - v1)) : Int)), (37, .p I6 ((IntKind.i64.wrap (a1 + v1)) : Int))]) rfl rfl Tryd.underlying9 o0 (.at o1) (.at (.tmp (.tail _ (.tail _ (.head _))))) hv2) (.cons (mva (U := Un) (v := .p .str v2) rfl rfl) .nil)))))))))))))))) (by kernel_rfl) (by kernel_rfl) (by kernel_rfl) (by kernel_rfl) (by kernel_rfl) (Conv.refl (U := Un) _) ?_
  refine thenQ_normal ?_
  refine WpC.ret ?_
  have hq := Option.some.inj h
  subst hq
  exact ends_ret (retV_1 rfl (.head _)) (ain_cons (.head _) ain_nil)

theorem quote_End.ok (O : Out) (hO : GOkL O) (k : Nat) (a0 : List UInt8) (a1 : Int) (out : Int) (h : quote_End.f k a0 a1 = some out) : COk Un O Tryd.prog 60 { ar := [.p .str a0, .p I6 a1], r := .p I6 out } := by
  refine cok_of_wp Tryd.func60 rfl (k := 50) rfl (Nat.le_of_ble_eq_true rfl) (namesOk_pure rfl rfl rfl rfl) ?_
  intro B hN
  refine WpC.conv (Conv.keep (U := Un) (b := ⟨[(0, .p .str a0), (1, .p I6 a1)], []⟩) [0, 1] [] (by kernel_rfl)) ?_
  unfold quote_End.f at h
  refine WpC.seq ?_
  refine WpC.reg (U := Un) (st1 := ⟨[(0, .p .str a0), (1, .p I6 a1)], []⟩) [0, 1] [] hN (.cons (sok_move (U := Un) (rs := []) rfl (.inr rfl) (.int _ _ _)) .nil) (by kernel_rfl) (by kernel_rfl) (by kernel_rfl) (Conv.refl (U := Un) _) ?_
  refine thenQ_normal ?_
  refine WpC.seqJ (U := Un) (fun st' => quote_End.j18 k a0 a1 = some out ∧ st' = ⟨[(0, .p .str a0), (1, .p I6 a1)], []⟩) ?_ ?_
  · refine WpC.seqJ (U := Un) (fun st' => ∃ v19 : Bool, quote_End.j21 k a0 a1 v19 = some out ∧ st' = ⟨[(0, .p .str a0), (1, .p I6 a1), (19, .p .bool v19)], []⟩) ?_ ?_
    · rcases bool_cases (decide (a1 < 0)) with hc22 | hc22
      · replace h := ite_t hc22 h
        refine WpC.reg (U := Un) (st1 := ⟨[(0, .p .str a0), (1, .p I6 a1), (19, .p .bool true)], []⟩) [0, 1, 19] [] hN (.cons (mv (U := Un) (v := .p I6 a1) rfl rfl) (.cons (sok_cmp (U := Un) (rs := [(6, .p I6 a1)]) rfl rfl o0 (.int _ _ _) rfl) (.cons (mv (U := Un) (v := .p .bool ((decide (a1 < 0)) : Bool)) rfl rfl) (.cons (sok_skip rfl rfl hc22) (.cons (sok_skip rfl rfl hc22) (.cons (sok_skip rfl rfl hc22) (.cons (sok_skip rfl rfl hc22) (.cons (sok_pickT (U := Un) (rs := [(8, .p .bool ((decide (a1 < 0)) : Bool))]) rfl rfl o0 hc22 (.bool _ _)) (.cons (mv (U := Un) (v := .p .bool true) rfl rfl) (.cons (sok_skip rfl rfl rfl) (.cons (sok_skip rfl rfl rfl) (.cons (sok_skip rfl rfl rfl) (.cons (sok_skip rfl rfl rfl) (.cons (sok_pickT (U := Un) (rs := [(14, .p .bool true)]) rfl rfl o0 rfl (.bool _ _)) .nil)))))))))))))) (by kernel_rfl) (by kernel_rfl) (by kernel_rfl) (Conv.refl (U := Un) _) ?_
        refine thenQ_normal ?_
        exact ⟨true, h, rfl⟩
      · replace h := ite_f hc22 h
        rcases bool_cases (decide (a1 ≥ (a0.length : Int))) with hc23 | hc23
        · replace h := ite_t hc23 h
          refine WpC.reg (U := Un) (st1 := ⟨[(0, .p .str a0), (1, .p I6 a1), (19, .p .bool true)], []⟩) [0, 1, 19] [] hN (.cons (mv (U := Un) (v := .p I6 a1) rfl rfl) (.cons (sok_cmp (U := Un) (rs := [(6, .p I6 a1)]) rfl rfl o0 (.int _ _ _) rfl) (.cons (mv (U := Un) (v := .p .bool ((decide (a1 < 0)) : Bool)) rfl rfl) (.cons (sok_run rfl rfl hc22 (mv (U := Un) (v := .p I6 a1) rfl rfl)) (.cons (sok_run rfl rfl hc22 (mv (U := Un) (v := .p .str a0) rfl rfl)) (.cons (sok_run rfl rfl hc22 (sok_lenS (U := Un) (rs := [(10, .p .str a0)]) rfl rfl Tryd.underlying9 o0)) (.cons (sok_run rfl rfl hc22 (sok_cmp (U := Un) (rs := [(9, .p I6 a1), (11, .p I6 ((a0.length : Int) : Int))]) rfl rfl o0 o1 rfl)) (.cons (sok_pickF (U := Un) (rs := [(8, .p .bool ((decide (a1 < 0)) : Bool)), (12, .p .bool ((decide (a1 ≥ (a0.length : Int))) : Bool))]) rfl rfl o0 hc22 o1) (.cons (mv (U := Un) (v := .p .bool ((decide (a1 ≥ (a0.length : Int))) : Bool)) rfl rfl) (.cons (sok_skip rfl rfl hc23) (.cons (sok_skip rfl rfl hc23) (.cons (sok_skip rfl rfl hc23) (.cons (sok_skip rfl rfl hc23) (.cons (sok_pickT (U := Un) (rs := [(14, .p .bool ((decide (a1 ≥ (a0.length : Int))) : Bool))]) rfl rfl o0 hc23 (.bool _ _)) .nil)))))))))))))) (by kernel_rfl) (by kernel_rfl) (by kernel_rfl) (Conv.refl (U := Un) _) ?_
          refine thenQ_normal ?_
          exact ⟨true, h, rfl⟩
        · replace h := ite_f hc23 h
          obtain ⟨v24, hv24, h⟩ := bind_some h
          refine WpC.reg (U := Un) (st1 := ⟨[(0, .p .str a0), (1, .p I6 a1), (19, .p .bool (((v24.toNat : Int) != 39) : Bool))], []⟩) [0, 1, 19] [] hN (.cons (mv (U := Un) (v := .p I6 a1) rfl rfl) (.cons (sok_cmp (U := Un) (rs := [(6, .p I6 a1)]) rfl rfl o0 (.int _ _ _) rfl) (.cons (mv (U := Un) (v := .p .bool ((decide (a1 < 0)) : Bool)) rfl rfl) (.cons (sok_run rfl rfl hc22 (mv (U := Un) (v := .p I6 a1) rfl rfl)) (.cons (sok_run rfl rfl hc22 (mv (U := Un) (v := .p .str a0) rfl rfl)) (.cons (sok_run rfl rfl hc22 (sok_lenS (U := Un) (rs := [(10, .p .str a0)]) rfl rfl Tryd.underlying9 o0)) (.cons (sok_run rfl rfl hc22 (sok_cmp (U := Un) (rs := [(9, .p I6 a1), (11, .p I6 ((a0.length : Int) : Int))]) rfl rfl o0 o1 rfl)) (.cons (sok_pickF (U := Un) (rs := [(8, .p .bool ((decide (a1 < 0)) : Bool)), (12, .p .bool ((decide (a1 ≥ (a0.length : Int))) : Bool))]) rfl rfl o0 hc22 o1) (.cons (mv (U := Un) (v := .p .bool ((decide (a1 ≥ (a0.length : Int))) : Bool)) rfl rfl) (.cons (sok_run rfl rfl hc23 (mv (U := Un) (v := .p .str a0) rfl rfl)) (.cons (sok_run rfl rfl hc23 (mv (U := Un) (v := .p I6 a1) rfl rfl)) (.cons (sok_run rfl rfl hc23 (sok_indexS (U := Un) (rs := [(15, .p .str a0), (16, .p I6 a1)]) rfl rfl Tryd.underlying9 o0 o1 hv24)) (.cons (sok_run rfl rfl hc23 (sok_cmp (U := Un) (rs := [(17, .p (.int .u8) ((v24.toNat : Int) : Int))]) rfl rfl o0 (.int _ _ _) rfl)) (.cons (sok_pickF (U := Un) (rs := [(14, .p .bool ((decide (a1 ≥ (a0.length : Int))) : Bool)), (18, .p .bool (((v24.toNat : Int) != 39) : Bool))]) rfl rfl o0 hc23 o1) .nil)))))))))))))) (by kernel_rfl) (by kernel_rfl) (by kernel_rfl) (Conv.refl (U := Un) _) ?_
          refine thenQ_normal ?_
          exact ⟨((v24.toNat : Int) != 39), h, rfl⟩
    · rintro _ ⟨v19, h, rfl⟩
      unfold quote_End.j21 at h
      refine WpC.cond (U := Un) (b := v19) (.tmp (.tail _ (.tail _ (.head _)))) (fun hc20 => ?_) (fun hc20 => ?_)
      · replace h := ite_t hc20 h
        refine WpC.seq ?_
        refine WpC.reg (U := Un) (st1 := ⟨[(4, .p I6 ((-1) : Int))], []⟩) [4] [] hN (.cons (sok_move (U := Un) (rs := []) rfl (.inr rfl) (.int _ _ _)) .nil) (by kernel_rfl) (by kernel_rfl) (by kernel_rfl) (Conv.refl (U := Un) _) ?_
        refine thenQ_normal ?_
        refine WpC.ret ?_
        refine thenQ_ret ?_
        have hq := Option.some.inj h
        subst hq
        exact ends_ret (retV_1 rfl (.head _)) ain_nil
      · replace h := ite_f hc20 h
        refine WpC.conv (Conv.keep (U := Un) (b := ⟨[(0, .p .str a0), (1, .p I6 a1)], []⟩) [0, 1] [] (by kernel_rfl)) (WpC.skip ?_)
        refine thenQ_normal ?_
        exact ⟨h, rfl⟩
  · rintro _ ⟨h, rfl⟩
    unfold quote_End.j18 at h
    refine WpC.seqJ (U := Un) (fun st' => quote_End.j1 k = some out ∧ st' = ⟨[], []⟩) ?_ ?_
    · refine WpC.seq ?_
      refine WpC.reg (U := Un) (st1 := ⟨[(0, .p .str a0), (5, .p I6 ((IntKind.i64.wrap (a1 + 1)) : Int))], []⟩) [0, 5] [] hN (.cons (mv (U := Un) (v := .p I6 a1) rfl rfl) (.cons (sok_arith (U := Un) (rs := [(20, .p I6 a1)]) rfl rfl o0 (.int _ _ _) rfl) (.cons (mva (U := Un) (v := .p I6 ((IntKind.i64.wrap (a1 + 1)) : Int)) rfl rfl) .nil))) (by kernel_rfl) (by kernel_rfl) (by kernel_rfl) (Conv.refl (U := Un) _) ?_
      refine thenQ_normal ?_
      refine WpC.block ?_
      obtain ⟨o4, hlo4, h⟩ := bind_some h
      have hout5 := h
      clear h
      refine WpC.loop (U := Un) (fun n st' => ∃ v2 : Int, quote_End.l3 k a0 n v2 = some o4 ∧ st' = ⟨[(0, .p .str a0), (5, .p I6 v2)], []⟩) k ⟨(IntKind.i64.wrap (a1 + 1)), hlo4, rfl⟩ ?_
      clear hlo4
      rintro (_ | n) _ ⟨v2, h, rfl⟩
      · cases h
      · rw [quote_End.l3] at h
        refine WpC.seq ?_
        refine WpC.seq ?_
        refine WpC.reg (U := Un) (st1 := ⟨[(0, .p .str a0), (5, .p I6 v2), (25, .p .bool ((decide (v2 < (a0.length : Int))) : Bool))], []⟩) [0, 5, 25] [] hN (.cons (mv (U := Un) (v := .p I6 v2) rfl rfl) (.cons (mv (U := Un) (v := .p .str a0) rfl rfl) (.cons (sok_lenS (U := Un) (rs := [(23, .p .str a0)]) rfl rfl Tryd.underlying9 o0) (.cons (sok_cmp (U := Un) (rs := [(22, .p I6 v2), (24, .p I6 ((a0.length : Int) : Int))]) rfl rfl o0 o1 rfl) .nil)))) (by kernel_rfl) (by kernel_rfl) (by kernel_rfl) (Conv.refl (U := Un) _) ?_
        refine thenQ_normal ?_
        refine WpC.cond (U := Un) (b := (decide (v2 < (a0.length : Int)))) (.tmp (.tail _ (.tail _ (.head _)))) (fun hc6 => ?_) (fun hc6 => ?_)
        · replace h := ite_t hc6 h
          refine WpC.conv (Conv.keep (U := Un) (b := ⟨[(0, .p .str a0), (5, .p I6 v2)], []⟩) [0, 5] [] (by kernel_rfl)) (WpC.skip ?_)
          refine thenQ_normal ?_
          refine WpC.seqJ (U := Un) (fun st' => ∃ v7 : Int, quote_End.j8 k (quote_End.l3 k a0 n) a0 v7 = some o4 ∧ st' = ⟨[(0, .p .str a0), (5, .p I6 v7)], []⟩) ?_ ?_
          · refine WpC.block ?_
            refine WpC.block ?_
            refine WpC.seq ?_
            obtain ⟨v9, hv9, h⟩ := bind_some h
            refine WpC.reg (U := Un) (st1 := ⟨[(0, .p .str a0), (5, .p I6 v2), (30, .p .bool (((v9.toNat : Int) != 39) : Bool))], []⟩) [0, 5, 30] [] hN (.cons (mv (U := Un) (v := .p .str a0) rfl rfl) (.cons (mv (U := Un) (v := .p I6 v2) rfl rfl) (.cons (sok_indexS (U := Un) (rs := [(31, .p .str a0), (32, .p I6 v2)]) rfl rfl Tryd.underlying9 o0 o1 hv9) (.cons (sok_cmp (U := Un) (rs := [(33, .p (.int .u8) ((v9.toNat : Int) : Int))]) rfl rfl o0 (.int _ _ _) rfl) (.cons (mva (U := Un) (v := .p .bool (((v9.toNat : Int) != 39) : Bool)) rfl rfl) .nil))))) (by kernel_rfl) (by kernel_rfl) (by kernel_rfl) (Conv.refl (U := Un) _) ?_
            refine thenQ_normal ?_
            refine WpC.cond (U := Un) (b := ((v9.toNat : Int) != 39)) (.tmp (.tail _ (.tail _ (.head _)))) (fun hc10 => ?_) (fun hc10 => ?_)
            · replace h := ite_t hc10 h
              refine WpC.conv (Conv.keep (U := Un) (b := ⟨[(0, .p .str a0), (5, .p I6 v2)], []⟩) [0, 5] [] (by kernel_rfl)) (WpC.exit ?_)
              refine blockQ_pass (by decide) ?_
              refine blockQ_hit ?_
              refine thenQ_normal ?_
              exact ⟨v2, h, rfl⟩
            · replace h := ite_f hc10 h
              refine WpC.seqJ (U := Un) (fun st' => ∃ v11 : Bool, quote_End.j13 k (quote_End.l3 k a0 n) a0 v2 v11 = some o4 ∧ st' = ⟨[(0, .p .str a0), (5, .p I6 v2), (35, .p .bool v11)], []⟩) ?_ ?_
              · rcases bool_cases (decide ((IntKind.i64.wrap (v2 + 1)) < (a0.length : Int))) with hc14 | hc14
                · replace h := ite_t hc14 h
                  obtain ⟨v15, hv15, h⟩ := bind_some h
                  refine WpC.reg (U := Un) (st1 := ⟨[(0, .p .str a0), (5, .p I6 v2), (35, .p .bool (((v15.toNat : Int) == 39) : Bool))], []⟩) [0, 5, 35] [] hN (.cons (mv (U := Un) (v := .p I6 v2) rfl rfl) (.cons (sok_arith (U := Un) (rs := [(36, .p I6 v2)]) rfl rfl o0 (.int _ _ _) rfl) (.cons (mv (U := Un) (v := .p .str a0) rfl rfl) (.cons (sok_lenS (U := Un) (rs := [(38, .p .str a0)]) rfl rfl Tryd.underlying9 o0) (.cons (sok_cmp (U := Un) (rs := [(37, .p I6 ((IntKind.i64.wrap (v2 + 1)) : Int)), (39, .p I6 ((a0.length : Int) : Int))]) rfl rfl o0 o1 rfl) (.cons (mv (U := Un) (v := .p .bool ((decide ((IntKind.i64.wrap (v2 + 1)) < (a0.length : Int))) : Bool)) rfl rfl) (.cons (sok_run rfl rfl hc14 (mv (U := Un) (v := .p .str a0) rfl rfl)) (.cons (sok_run rfl rfl hc14 (mv (U := Un) (v := .p I6 v2) rfl rfl)) (.cons (sok_run rfl rfl hc14 (sok_arith (U := Un) (rs := [(43, .p I6 v2)]) rfl rfl o0 (.int _ _ _) rfl)) (.cons (sok_run rfl rfl hc14 (sok_indexS (U := Un) (rs := [(42, .p .str a0), (44, .p I6 ((IntKind.i64.wrap (v2 + 1)) : Int))]) rfl rfl Tryd.underlying9 o0 o1 hv15)) (.cons (sok_run rfl rfl hc14 (sok_cmp (U := Un) (rs := [(45, .p (.int .u8) ((v15.toNat : Int) : Int))]) rfl rfl o0 (.int _ _ _) rfl)) (.cons (sok_pickT (U := Un) (rs := [(41, .p .bool ((decide ((IntKind.i64.wrap (v2 + 1)) < (a0.length : Int))) : Bool)), (46, .p .bool (((v15.toNat : Int) == 39) : Bool))]) rfl rfl o0 hc14 o1) (.cons (mva (U := Un) (v := .p .bool (((v15.toNat : Int) == 39) : Bool)) rfl rfl) .nil))))))))))))) (by kernel_rfl) (by kernel_rfl) (by kernel_rfl) (Conv.refl (U := Un) _) ?_
                  refine thenQ_normal ?_
                  exact ⟨((v15.toNat : Int) == 39), h, rfl⟩
                · replace h := ite_f hc14 h
                  refine WpC.reg (U := Un) (st1 := ⟨[(0, .p .str a0), (5, .p I6 v2), (35, .p .bool false)], []⟩) [0, 5, 35] [] hN (.cons (mv (U := Un) (v := .p I6 v2) rfl rfl) (.cons (sok_arith (U := Un) (rs := [(36, .p I6 v2)]) rfl rfl o0 (.int _ _ _) rfl) (.cons (mv (U := Un) (v := .p .str a0) rfl rfl) (.cons (sok_lenS (U := Un) (rs := [(38, .p .str a0)]) rfl rfl Tryd.underlying9 o0) (.cons (sok_cmp (U := Un) (rs := [(37, .p I6 ((IntKind.i64.wrap (v2 + 1)) : Int)), (39, .p I6 ((a0.length : Int) : Int))]) rfl rfl o0 o1 rfl) (.cons (mv (U := Un) (v := .p .bool ((decide ((IntKind.i64.wrap (v2 + 1)) < (a0.length : Int))) : Bool)) rfl rfl) (.cons (sok_skip rfl rfl hc14) (.cons (sok_skip rfl rfl hc14) (.cons (sok_skip rfl rfl hc14) (.cons (sok_skip rfl rfl hc14) (.cons (sok_skip rfl rfl hc14) (.cons (sok_pickF (U := Un) (rs := [(41, .p .bool ((decide ((IntKind.i64.wrap (v2 + 1)) < (a0.length : Int))) : Bool))]) rfl rfl o0 hc14 (.bool _ _)) (.cons (mva (U := Un) (v := .p .bool false) rfl rfl) .nil))))))))))))) (by kernel_rfl) (by kernel_rfl) (by kernel_rfl) (Conv.refl (U := Un) _) ?_
                  refine thenQ_normal ?_
                  exact ⟨false, h, rfl⟩
              · rintro _ ⟨v11, h, rfl⟩
                unfold quote_End.j13 at h
                refine WpC.cond (U := Un) (b := v11) (.tmp (.tail _ (.tail _ (.head _)))) (fun hc12 => ?_) (fun hc12 => ?_)
                · replace h := ite_t hc12 h
                  refine WpC.reg (U := Un) (st1 := ⟨[(0, .p .str a0), (5, .p I6 ((IntKind.i64.wrap (v2 + 1)) : Int))], []⟩) [0, 5] [] hN (.cons (mv (U := Un) (v := .p I6 v2) rfl rfl) (.cons (sok_arith (U := Un) (rs := [(48, .p I6 v2)]) rfl rfl o0 (.int _ _ _) rfl) (.cons (mva (U := Un) (v := .p I6 ((IntKind.i64.wrap (v2 + 1)) : Int)) rfl rfl) .nil))) (by kernel_rfl) (by kernel_rfl) (by kernel_rfl) (Conv.refl (U := Un) _) ?_
                  refine blockQ_normal ?_
                  refine blockQ_normal ?_
                  refine thenQ_normal ?_
                  exact ⟨(IntKind.i64.wrap (v2 + 1)), h, rfl⟩
                · replace h := ite_f hc12 h
                  refine WpC.seq ?_
                  refine WpC.reg (U := Un) (st1 := ⟨[(4, .p I6 ((IntKind.i64.wrap (v2 + 1)) : Int))], []⟩) [4] [] hN (.cons (mv (U := Un) (v := .p I6 v2) rfl rfl) (.cons (sok_arith (U := Un) (rs := [(28, .p I6 v2)]) rfl rfl o0 (.int _ _ _) rfl) (.cons (mva (U := Un) (v := .p I6 ((IntKind.i64.wrap (v2 + 1)) : Int)) rfl rfl) .nil))) (by kernel_rfl) (by kernel_rfl) (by kernel_rfl) (Conv.refl (U := Un) _) ?_
                  refine thenQ_normal ?_
                  refine WpC.ret ?_
                  refine blockQ_ret ?_
                  refine blockQ_ret ?_
                  refine thenQ_ret ?_
                  have hq := Option.some.inj h
                  subst hq
                  refine thenQ_ret ?_
                  have h := hout5
                  refine blockQ_ret ?_
                  refine thenQ_ret ?_
                  have hq := Option.some.inj h
                  subst hq
                  exact ends_ret (retV_1 rfl (.head _)) ain_nil
          · rintro _ ⟨v7, h, rfl⟩
            unfold quote_End.j8 at h
            refine WpC.reg (U := Un) (st1 := ⟨[(0, .p .str a0), (5, .p I6 ((IntKind.i64.wrap (v7 + 1)) : Int))], []⟩) [0, 5] [] hN (.cons (mv (U := Un) (v := .p I6 v7) rfl rfl) (.cons (sok_arith (U := Un) (rs := [(26, .p I6 v7)]) rfl rfl o0 (.int _ _ _) rfl) (.cons (mva (U := Un) (v := .p I6 ((IntKind.i64.wrap (v7 + 1)) : Int)) rfl rfl) .nil))) (by kernel_rfl) (by kernel_rfl) (by kernel_rfl) (Conv.refl (U := Un) _) ?_
            refine thenQ_normal ?_
            exact ⟨n, Nat.lt_succ_self n, (IntKind.i64.wrap (v7 + 1)), h, rfl⟩
        · replace h := ite_f hc6 h
          refine WpC.conv (Conv.keep (U := Un) (b := ⟨[], []⟩) [] [] (by kernel_rfl)) (WpC.exit ?_)
          refine thenQ_exit ?_
          have hq := Option.some.inj h
          subst hq
          refine thenQ_exit ?_
          have h := hout5
          refine blockQ_hit ?_
          refine thenQ_normal ?_
          exact ⟨h, rfl⟩
    · rintro _ ⟨h, rfl⟩
      unfold quote_End.j1 at h
      refine WpC.seq ?_
      refine WpC.reg (U := Un) (st1 := ⟨[(4, .p I6 ((-1) : Int))], []⟩) [4] [] hN (.cons (sok_move (U := Un) (rs := []) rfl (.inr rfl) (.int _ _ _)) .nil) (by kernel_rfl) (by kernel_rfl) (by kernel_rfl) (Conv.refl (U := Un) _) ?_
      refine thenQ_normal ?_
      refine WpC.ret ?_
      have hq := Option.some.inj h
      subst hq
      exact ends_ret (retV_1 rfl (.head _)) ain_nil

theorem lex_reader_fail_m0.ok (O : Out) (hO : GOkL O) (k : Nat) (a0 : List UInt8) (a1 : Int) (a2 : Nat) (a3 : Nat) (out : Nat) (h : lex_reader_fail_m0.f k a0 a1 a2 a3 = some out) : COk Un O Tryd.prog 86 { ar := [.loc 100000 0, .p .err a3], r := .tup [], bs := [(100000, .box [.p .str a0, .p I6 a1, .p .err a2])], bs' := [(100000, .box [.p .str a0, .p I6 a1, .p .err out])] } := by
  refine cok_of_wp Tryd.func86 rfl (k := 13) rfl (Nat.le_of_ble_eq_true rfl) (namesOk_of (by kernel_rfl)) ?_
  intro B hN
  refine WpC.conv (Conv.keep (U := Un) (b := ⟨[(0, .loc 100000 0), (1, .p .err a3)], [(100000, .box [.p .str a0, .p I6 a1, .p .err a2])]⟩) [0, 1] [100000] (by kernel_rfl)) ?_
  unfold lex_reader_fail_m0.f at h
  refine WpC.seq ?_
  refine WpC.reg (U := Un) (st1 := ⟨[(0, .loc 100000 0), (1, .p .err a3), (8, .p .bool ((a2 == 0) : Bool))], [(100000, .box [.p .str a0, .p I6 a1, .p .err a2])]⟩) [0, 1, 8] [100000] hN (.cons (mv (U := Un) (v := .loc 100000 0) rfl rfl) (.cons (sok_nilCheck (U := Un) (rs := [(4, .loc 100000 0)]) rfl rfl o0 rfl) (.cons (sok_fieldB (U := Un) (rs := [(5, .loc 100000 0)]) rfl rfl fd_81_2 (by decide) o0) (.cons (sok_loadB (U := Un) (t := .err) (rs := [(6, .loc 100000 2)]) [.p .str a0, .p I6 a1] [.p .err a2] [] (v := .p .err a2) rfl rfl ty_27 o0 rfl rfl rfl rfl (.data (.one _ _))) (.cons (sok_errNil (U := Un) (rs := [(7, .p .err a2)]) rfl rfl Tryd.underlying27 o0 rfl) .nil))))) (by kernel_rfl) (by kernel_rfl) (by kernel_rfl) (Conv.refl (U := Un) _) ?_
  refine thenQ_normal ?_
  refine WpC.cond (U := Un) (b := (a2 == 0)) (.tmp (.tail _ (.tail _ (.head _)))) (fun hc1 => ?_) (fun hc1 => ?_)
  · replace h := ite_t hc1 h
    refine WpC.reg (U := Un) (st1 := ⟨[], [(100000, .box [.p .str a0, .p I6 a1, .p .err a3])]⟩) [] [100000] hN (.cons (mv (U := Un) (v := .loc 100000 0) rfl rfl) (.cons (mv (U := Un) (v := .p .err a3) rfl rfl) (.cons (sok_nilCheck (U := Un) (rs := [(9, .loc 100000 0)]) rfl rfl o0 rfl) (.cons (sok_fieldB (U := Un) (rs := [(11, .loc 100000 0)]) rfl rfl fd_81_2 (by decide) o0) (.cons (sok_storeB (U := Un) (rs := [(12, .loc 100000 2), (10, .p .err a3)]) (v := .p .err a3) (mid' := [.p .err a3]) [.p .str a0, .p I6 a1] [.p .err a2] [] rfl rfl rfl ty_27 o0 o1 (.data (.one _ _)) rfl rfl rfl rfl rfl rfl) .nil))))) (by kernel_rfl) (by kernel_rfl) (by kernel_rfl) (Conv.refl (U := Un) _) ?_
    have hq := Option.some.inj h
    subst hq
    exact ends_normal (retV_0 rfl ) (ain_cons (.head _) ain_nil)
  · replace h := ite_f hc1 h
    refine WpC.conv (Conv.keep (U := Un) (b := ⟨[], [(100000, .box [.p .str a0, .p I6 a1, .p .err a2])]⟩) [] [100000] (by kernel_rfl)) (WpC.skip ?_)
    have hq := Option.some.inj h
    subst hq
    exact ends_normal (retV_0 rfl ) (ain_cons (.head _) ain_nil)

theorem lex_reader_quoted_m0.ok (O : Out) (hO : GOkL O) (k : Nat) (a0 : List UInt8) (a1 : Int) (a2 : Nat) (out : T_lex_Piece × Int × Nat) (h : lex_reader_quoted_m0.f k a0 a1 a2 = some out) : COk Un O Tryd.prog 68 { ar := [.loc 100000 0], r := .p (.named 3) out.1, bs := [(100000, .box [.p .str a0, .p I6 a1, .p .err a2])], bs' := [(100000, .box [.p .str a0, .p I6 out.2.1, .p .err out.2.2])] } := by
  refine cok_of_wp Tryd.func68 rfl (k := 39) rfl (Nat.le_of_ble_eq_true rfl) (namesOk_of (by kernel_rfl)) ?_
  intro B hN
  refine WpC.conv (Conv.keep (U := Un) (b := ⟨[(0, .loc 100000 0)], [(100000, .box [.p .str a0, .p I6 a1, .p .err a2])]⟩) [0] [100000] (by kernel_rfl)) ?_
  unfold lex_reader_quoted_m0.f at h
  refine WpC.seq ?_
  refine WpC.reg (U := Un) (st1 := ⟨[(0, .loc 100000 0), (2, .loc 2 0)], [(2, .box [.p I6 (0 : Int), .p .str ([] : List UInt8), .p .str ([] : List UInt8), .p .str ([] : List UInt8)]), (100000, .box [.p .str a0, .p I6 a1, .p .err a2])]⟩) [0, 2] [2, 100000] hN (.cons (sok_allocZ (U := Un) (rs := []) (d := 2) (us := [.p I6 (0 : Int), .p .str ([] : List UInt8), .p .str ([] : List UInt8), .p .str ([] : List UInt8)]) (v := (.agg #[.int .i64 0, .string ByteArray.empty, .string ByteArray.empty, .string ByteArray.empty])) rfl rfl rfl (by kernel_rfl) rfl (.data (fun _ _ _ => .int _ _) (.data (fun _ _ _ => rd_str0) (.data (fun _ _ _ => rd_str0) (.data (fun _ _ _ => rd_str0) .nil)))) (by kernel_rfl)) .nil) (by kernel_rfl) (by kernel_rfl) (by kernel_rfl) (Conv.refl (U := Un) _) ?_
  refine thenQ_normal ?_
  refine WpC.seq ?_
  obtain ⟨v1, hv1, h⟩ := bind_some h
  refine WpC.regA (U := Un) (st1 := ⟨[(0, .loc 100000 0), (2, .loc 2 0), (3, .p I6 v1)], [(2, .box [.p I6 (0 : Int), .p .str ([] : List UInt8), .p .str ([] : List UInt8), .p .str ([] : List UInt8)]), (100000, .box [.p .str a0, .p I6 a1, .p .err a2])]⟩) [0, 2, 3] [2, 100000] [[], [0], [0, 1], [0, 1, 2], [], [4], [4, 5], [4, 5, 6], [0, 1, 2, 3, 4, 5, 6, 7], [0, 1, 2, 3, 4, 5, 6, 7, 8]] mixed hN (.cons (mv (U := Un) (v := .loc 100000 0) rfl rfl) (.cons (sok_nilCheck (U := Un) (rs := [(5, .loc 100000 0)]) rfl rfl o0 rfl) (.cons (sok_fieldB (U := Un) (rs := [(6, .loc 100000 0)]) rfl rfl fd_81_0 (by decide) o0) (.cons (sok_loadB (U := Un) (t := .str) (rs := [(7, .loc 100000 0)]) [] [.p .str a0] [.p I6 a1, .p .err a2] (v := .p .str a0) rfl rfl ty_9 o0 rfl rfl rfl rfl (.data (.one _ _))) (.cons (mv (U := Un) (v := .loc 100000 0) rfl rfl) (.cons (sok_nilCheck (U := Un) (rs := [(9, .loc 100000 0)]) rfl rfl o0 rfl) (.cons (sok_fieldB (U := Un) (rs := [(10, .loc 100000 0)]) rfl rfl fd_81_1 (by decide) o0) (.cons (sok_loadB (U := Un) (t := .int .i64) (rs := [(11, .loc 100000 1)]) [.p .str a0] [.p I6 a1] [.p .err a2] (v := .p I6 a1) rfl rfl ty_3 o0 rfl rfl rfl rfl (.data (.one _ _))) (.cons (sok_callV (U := Un) (rs := [(8, .p .str a0), (12, .p I6 a1)]) (vw := []) rfl rfl (.func _) hb_60 (quote_End.ok O hO k a0 a1 v1 hv1) (.cons o0 (.cons o1 .nil)) (.cons (.same _) (.cons (.same _) .nil)) (by simp) (.inl rfl)) (.cons (mva (U := Un) (v := .p I6 v1) rfl rfl) .nil)))))))))) (by kernel_rfl) (by kernel_rfl) (by kernel_rfl) (by kernel_rfl) (by kernel_rfl) (Conv.refl (U := Un) _) ?_
  refine thenQ_normal ?_
  refine WpC.seq ?_
  refine WpC.seq ?_
  refine WpC.reg (U := Un) (st1 := ⟨[(0, .loc 100000 0), (2, .loc 2 0), (3, .p I6 v1), (15, .p .bool ((decide (v1 < 0)) : Bool))], [(2, .box [.p I6 (0 : Int), .p .str ([] : List UInt8), .p .str ([] : List UInt8), .p .str ([] : List UInt8)]), (100000, .box [.p .str a0, .p I6 a1, .p .err a2])]⟩) [0, 2, 3, 15] [2, 100000] hN (.cons (mv (U := Un) (v := .p I6 v1) rfl rfl) (.cons (sok_cmp (U := Un) (rs := [(14, .p I6 v1)]) rfl rfl o0 (.int _ _ _) rfl) .nil)) (by kernel_rfl) (by kernel_rfl) (by kernel_rfl) (Conv.refl (U := Un) _) ?_
  refine thenQ_normal ?_
  refine WpC.cond (U := Un) (b := (decide (v1 < 0))) (.tmp (.tail _ (.tail _ (.tail _ (.head _))))) (fun hc2 => ?_) (fun hc2 => ?_)
  · replace h := ite_t hc2 h
    refine WpC.seq ?_
    obtain ⟨v3, hv3, h⟩ := bind_some h
    refine WpC.reg (U := Un) (st1 := ⟨[(2, .loc 2 0)], [(2, .box [.p I6 (0 : Int), .p .str ([] : List UInt8), .p .str ([] : List UInt8), .p .str ([] : List UInt8)]), (100000, .box [.p .str a0, .p I6 a1, .p .err v3])]⟩) [2] [2, 100000] hN (.cons (mv (U := Un) (v := .loc 100000 0) rfl rfl) (.cons (sok_loadG (U := Un) (t := .err) (rs := []) rfl rfl ty_27 rfl rfl (hO.var 4 0 rfl) (fun S w => .err 4)) (.cons (sok_callV (U := Un) (rs := [(16, .loc 100000 0), (17, .p .err (5 : Nat))]) (vw := []) rfl rfl (.func _) hb_86 (COk.ren (lex_reader_fail_m0.ok O hO k a0 a1 a2 5 v3 hv3) (fun n => if n = 100000 then 100000 else n) (injOn_of (by kernel_rfl))) (.cons o0 (.cons o1 .nil)) (.cons (.same _) (.cons (.same _) .nil)) (by simp) (.inl rfl)) .nil))) (by kernel_rfl) (by kernel_rfl) (by kernel_rfl) (Conv.refl (U := Un) _) ?_
    refine thenQ_normal ?_
    refine WpC.seq ?_
    refine WpC.reg (U := Un) (st1 := ⟨[(2, .loc 2 0)], [(2, .box [.p I6 (0 : Int), .p .str ([] : List UInt8), .p .str ([] : List UInt8), .p .str ([] : List UInt8)]), (100000, .box [.p .str a0, .p I6 a1, .p .err v3])]⟩) [2] [2, 100000] hN (.cons (sok_build (U := Un) (t := .named 3) (rs := []) (us0 := [.p I6 (0 : Int), .p .str ([] : List UInt8), .p .str ([] : List UInt8), .p .str ([] : List UInt8)]) (us := [.p I6 (0 : Int), .p .str ([] : List UInt8), .p .str ([] : List UInt8), .p .str ([] : List UInt8)]) (v := .p (.named 3) ((T_lex_Piece.mk 0 [] [] []) : T_lex_Piece)) rfl rfl lays_42 (.data (fun _ _ _ => .int _ _) (.data (fun _ _ _ => rd_str0) (.data (fun _ _ _ => rd_str0) (.data (fun _ _ _ => rd_str0) .nil)))) (.nil _) rfl (.data (.named (.pair (.one _ _) (.pair (.one _ _) (.pair (.one _ _) (.pair (.one _ _) .unit))))))) (.cons (sok_storeB (U := Un) (rs := [(2, .loc 2 0), (19, .p (.named 3) ((T_lex_Piece.mk 0 [] [] []) : T_lex_Piece))]) (v := .p (.named 3) ((T_lex_Piece.mk 0 [] [] []) : T_lex_Piece)) (mid' := [.p I6 (0 : Int), .p .str ([] : List UInt8), .p .str ([] : List UInt8), .p .str ([] : List UInt8)]) [] [.p I6 (0 : Int), .p .str ([] : List UInt8), .p .str ([] : List UInt8), .p .str ([] : List UInt8)] [] rfl rfl rfl ty_42 o0 o1 (.data (.named (.pair (.one _ _) (.pair (.one _ _) (.pair (.one _ _) (.pair (.one _ _) .unit)))))) rfl rfl rfl rfl rfl rfl) .nil)) (by kernel_rfl) (by kernel_rfl) (by kernel_rfl) (Conv.refl (U := Un) _) ?_
    refine thenQ_normal ?_
    refine WpC.ret ?_
    refine thenQ_ret ?_
    have hq := Option.some.inj h
    subst hq
    exact ends_ret (retV_L (U := Un) (vs := [.p (.named 3) ((T_lex_Piece.mk 0 [] [] []) : T_lex_Piece)]) rfl (ResL.cell (U := Un) [] [.p I6 (0 : Int), .p .str ([] : List UInt8), .p .str ([] : List UInt8), .p .str ([] : List UInt8)] [] (.head _) (.head _) rfl rfl rfl rfl ty_42 (.data (.named (.pair (.one _ _) (.pair (.one _ _) (.pair (.one _ _) (.pair (.one _ _) .unit)))))) .nil)) (ain_cons (.tail _ (.head _)) ain_nil)
  · replace h := ite_f hc2 h
    refine WpC.conv (Conv.keep (U := Un) (b := ⟨[(0, .loc 100000 0), (2, .loc 2 0), (3, .p I6 v1)], [(2, .box [.p I6 (0 : Int), .p .str ([] : List UInt8), .p .str ([] : List UInt8), .p .str ([] : List UInt8)]), (100000, .box [.p .str a0, .p I6 a1, .p .err a2])]⟩) [0, 2, 3] [2, 100000] (by kernel_rfl)) (WpC.skip ?_)
    refine thenQ_normal ?_
    refine WpC.seq ?_
    obtain ⟨v4, hv4, h⟩ := bind_some h
    refine WpC.regA (U := Un) (st1 := ⟨[(0, .loc 100000 0), (2, .loc 2 0), (3, .p I6 v1), (4, .p .str v4)], [(2, .box [.p I6 (0 : Int), .p .str ([] : List UInt8), .p .str ([] : List UInt8), .p .str ([] : List UInt8)]), (100000, .box [.p .str a0, .p I6 a1, .p .err a2])]⟩) [0, 2, 3, 4] [2, 100000] [[], [0], [0, 1], [0, 1, 2], [], [4], [4, 5], [4, 5, 6], [4, 5, 6, 7], [], [9], [0, 1, 2, 3, 4, 5, 6, 7, 8, 9, 10], [0, 1, 2, 3, 4, 5, 6, 7, 8, 9, 10, 11]] mixed hN (.cons (mv (U := Un) (v := .loc 100000 0) rfl rfl) (.cons (sok_nilCheck (U := Un) (rs := [(20, .loc 100000 0)]) rfl rfl o0 rfl) (.cons (sok_fieldB (U := Un) (rs := [(21, .loc 100000 0)]) rfl rfl fd_81_0 (by decide) o0) (.cons (sok_loadB (U := Un) (t := .str) (rs := [(22, .loc 100000 0)]) [] [.p .str a0] [.p I6 a1, .p .err a2] (v := .p .str a0) rfl rfl ty_9 o0 rfl rfl rfl rfl (.data (.one _ _))) (.cons (mv (U := Un) (v := .loc 100000 0) rfl rfl) (.cons (sok_nilCheck (U := Un) (rs := [(24, .loc 100000 0)]) rfl rfl o0 rfl) (.cons (sok_fieldB (U := Un) (rs := [(25, .loc 100000 0)]) rfl rfl fd_81_1 (by decide) o0) (.cons (sok_loadB (U := Un) (t := .int .i64) (rs := [(26, .loc 100000 1)]) [.p .str a0] [.p I6 a1] [.p .err a2] (v := .p I6 a1) rfl rfl ty_3 o0 rfl rfl rfl rfl (.data (.one _ _))) (.cons (sok_arith (U := Un) (rs := [(27, .p I6 a1)]) rfl rfl o0 (.int _ _ _) rfl) (.cons (mv (U := Un) (v := .p I6 v1) rfl rfl) (.cons (sok_arith (U := Un) (rs := [(29, .p I6 v1)]) rfl rfl o0 (.int _ _ _) rfl) (.cons (sok_sliceS (U := Un) (rs := [(23, .p .str a0), (28, .p I6 ((IntKind.i64.wrap (a1 + 1)) : Int)), (30, .p I6 ((IntKind.i64.wrap (v1 - 1)) : Int))]) rfl rfl Tryd.underlying9 o0 (.at o1) (.at (.tmp (.tail _ (.tail _ (.head _))))) hv4) (.cons (mva (U := Un) (v := .p .str v4) rfl rfl) .nil))))))))))))) (by kernel_rfl) (by kernel_rfl) (by kernel_rfl) (by kernel_rfl) (by kernel_rfl) (Conv.refl (U := Un) _) ?_
    refine thenQ_normal ?_
    refine WpC.seq ?_
    refine WpC.reg (U := Un) (st1 := ⟨[(2, .loc 2 0), (4, .p .str v4)], [(2, .box [.p I6 (0 : Int), .p .str ([] : List UInt8), .p .str ([] : List UInt8), .p .str ([] : List UInt8)]), (100000, .box [.p .str a0, .p I6 v1, .p .err a2])]⟩) [2, 4] [2, 100000] hN (.cons (mv (U := Un) (v := .loc 100000 0) rfl rfl) (.cons (mv (U := Un) (v := .p I6 v1) rfl rfl) (.cons (sok_nilCheck (U := Un) (rs := [(32, .loc 100000 0)]) rfl rfl o0 rfl) (.cons (sok_fieldB (U := Un) (rs := [(34, .loc 100000 0)]) rfl rfl fd_81_1 (by decide) o0) (.cons (sok_storeB (U := Un) (rs := [(35, .loc 100000 1), (33, .p I6 v1)]) (v := .p I6 v1) (mid' := [.p I6 v1]) [.p .str a0] [.p I6 a1] [.p .err a2] rfl rfl rfl ty_3 o0 o1 (.data (.one _ _)) rfl rfl rfl rfl rfl rfl) .nil))))) (by kernel_rfl) (by kernel_rfl) (by kernel_rfl) (Conv.refl (U := Un) _) ?_
    refine thenQ_normal ?_
    refine WpC.seq ?_
    obtain ⟨v5, hv5, h⟩ := bind_some h
    refine WpC.reg (U := Un) (st1 := ⟨[(2, .loc 2 0)], [(2, .box [.p I6 (1 : Int), .p .str v5, .p .str ([] : List UInt8), .p .str ([] : List UInt8)]), (100000, .box [.p .str a0, .p I6 v1, .p .err a2])]⟩) [2] [2, 100000] hN (.cons (mv (U := Un) (v := .p .str v4) rfl rfl) (.cons (sok_call (U := Un) (rs := [(36, .p .str v4)]) (vw := []) rfl rfl hb_61 (pReplaceAllL.ok O hO k v4 ([39, 39] : List UInt8) ([39] : List UInt8) v5 hv5) (.cons o0 (.cons (.str _ _) (.cons (.str _ _) .nil))) (.cons (.same _) (.cons (.same _) (.cons (.same _) .nil))) (by simp) (.inl rfl)) (.cons (sok_build (U := Un) (t := .named 3) (rs := [(37, .p .str v5)]) (us0 := [.p I6 (0 : Int), .p .str ([] : List UInt8), .p .str ([] : List UInt8), .p .str ([] : List UInt8)]) (us := [.p I6 (1 : Int), .p .str v5, .p .str ([] : List UInt8), .p .str ([] : List UInt8)]) (v := .p (.named 3) ((T_lex_Piece.mk 1 v5 [] []) : T_lex_Piece)) rfl rfl lays_42 (.data (fun _ _ _ => .int _ _) (.data (fun _ _ _ => rd_str0) (.data (fun _ _ _ => rd_str0) (.data (fun _ _ _ => rd_str0) .nil)))) (Filled.cons (U := Un) (i := 0) (v := .p I6 (1 : Int)) [] [.p I6 (0 : Int)] [.p I6 (1 : Int)] [.p .str ([] : List UInt8), .p .str ([] : List UInt8), .p .str ([] : List UInt8)] (.int _ _ _) (.data (.one _ _)) rfl rfl rfl rfl rfl rfl (Filled.cons (U := Un) (i := 1) (v := .p .str v5) [.p I6 (1 : Int)] [.p .str ([] : List UInt8)] [.p .str v5] [.p .str ([] : List UInt8), .p .str ([] : List UInt8)] o0 (.data (.one _ _)) rfl rfl rfl rfl rfl rfl (.nil _))) rfl (.data (.named (.pair (.one _ _) (.pair (.one _ _) (.pair (.one _ _) (.pair (.one _ _) .unit))))))) (.cons (sok_storeB (U := Un) (rs := [(2, .loc 2 0), (38, .p (.named 3) ((T_lex_Piece.mk 1 v5 [] []) : T_lex_Piece))]) (v := .p (.named 3) ((T_lex_Piece.mk 1 v5 [] []) : T_lex_Piece)) (mid' := [.p I6 (1 : Int), .p .str v5, .p .str ([] : List UInt8), .p .str ([] : List UInt8)]) [] [.p I6 (0 : Int), .p .str ([] : List UInt8), .p .str ([] : List UInt8), .p .str ([] : List UInt8)] [] rfl rfl rfl ty_42 o0 o1 (.data (.named (.pair (.one _ _) (.pair (.one _ _) (.pair (.one _ _) (.pair (.one _ _) .unit)))))) rfl rfl rfl rfl rfl rfl) .nil)))) (by kernel_rfl) (by kernel_rfl) (by kernel_rfl) (Conv.refl (U := Un) _) ?_
    refine thenQ_normal ?_
    refine WpC.ret ?_
    have hq := Option.some.inj h
    subst hq
    exact ends_ret (retV_L (U := Un) (vs := [.p (.named 3) ((T_lex_Piece.mk 1 v5 [] []) : T_lex_Piece)]) rfl (ResL.cell (U := Un) [] [.p I6 (1 : Int), .p .str v5, .p .str ([] : List UInt8), .p .str ([] : List UInt8)] [] (.head _) (.head _) rfl rfl rfl rfl ty_42 (.data (.named (.pair (.one _ _) (.pair (.one _ _) (.pair (.one _ _) (.pair (.one _ _) .unit)))))) .nil)) (ain_cons (.tail _ (.head _)) ain_nil)

theorem lex_reader_is_m0.ok (O : Out) (hO : GOkL O) (k : Nat) (a0 : List UInt8) (a1 : Int) (a2 : Nat) (a3 : Int) (out : Bool) (h : lex_reader_is_m0.f k a0 a1 a2 a3 = some out) : COk Un O Tryd.prog 87 { ar := [.loc 100000 0, .p (.int .u8) a3], r := .p .bool out, bs := [(100000, .box [.p .str a0, .p I6 a1, .p .err a2])], bs' := [(100000, .box [.p .str a0, .p I6 a1, .p .err a2])] } := by
  refine cok_of_wp Tryd.func87 rfl (k := 28) rfl (Nat.le_of_ble_eq_true rfl) (namesOk_of (by kernel_rfl)) ?_
  intro B hN
  refine WpC.conv (Conv.keep (U := Un) (b := ⟨[(0, .loc 100000 0), (1, .p (.int .u8) a3)], [(100000, .box [.p .str a0, .p I6 a1, .p .err a2])]⟩) [0, 1] [100000] (by kernel_rfl)) ?_
  unfold lex_reader_is_m0.f at h
  refine WpC.seq ?_
  refine WpC.reg (U := Un) (st1 := ⟨[(0, .loc 100000 0), (1, .p (.int .u8) a3)], [(100000, .box [.p .str a0, .p I6 a1, .p .err a2])]⟩) [0, 1] [100000] hN (.cons (sok_move (U := Un) (rs := []) rfl (.inr rfl) (.bool _ _)) .nil) (by kernel_rfl) (by kernel_rfl) (by kernel_rfl) (Conv.refl (U := Un) _) ?_
  refine thenQ_normal ?_
  refine WpC.seq ?_
  rcases bool_cases (decide (a1 < (a0.length : Int))) with hc1 | hc1
  · replace h := ite_t hc1 h
    obtain ⟨v2, hv2, h⟩ := bind_some h
    refine WpC.regA (U := Un) (st1 := ⟨[(4, .p .bool (((v2.toNat : Int) == a3) : Bool))], [(100000, .box [.p .str a0, .p I6 a1, .p .err a2])]⟩) [4] [100000] [[], [0], [0, 1], [0, 1, 2], [], [4], [4, 5], [4, 5, 6], [4, 5, 6, 7], [0, 1, 2, 3, 4, 5, 6, 7, 8], [0, 1, 2, 3, 4, 5, 6, 7, 8, 9], [0, 1, 2, 3, 4, 5, 6, 7, 8, 9, 10], [0, 1, 2, 3, 4, 5, 6, 7, 8, 9, 10, 11], [0, 1, 2, 3, 4, 5, 6, 7, 8, 9, 10, 11, 12], [0, 1, 2, 3, 4, 5, 6, 7, 8, 9, 10, 11, 12, 13], [0, 1, 2, 3, 4, 5, 6, 7, 8, 9, 10], [0, 1, 2, 3, 4, 5, 6, 7, 8, 9, 10, 15], [0, 1, 2, 3, 4, 5, 6, 7, 8, 9, 10, 15, 16], [0, 1, 2, 3, 4, 5, 6, 7, 8, 9, 10, 15, 16, 17], [0, 1, 2, 3, 4, 5, 6, 7, 8, 9, 10, 11, 12, 13, 14, 15, 16, 17, 18], [0, 1, 2, 3, 4, 5, 6, 7, 8, 9, 10], [0, 1, 2, 3, 4, 5, 6, 7, 8, 9, 10, 11, 12, 13, 14, 15, 16, 17, 18, 19, 20], [0, 1, 2, 3, 4, 5, 6, 7, 8, 9, 10, 11, 12, 13, 14, 15, 16, 17, 18, 19, 20, 21], [0, 1, 2, 3, 4, 5, 6, 7, 8, 9, 10, 11, 12, 13, 14, 15, 16, 17, 18, 19, 20, 21, 22]] mixed hN (.cons (mv (U := Un) (v := .loc 100000 0) rfl rfl) (.cons (sok_nilCheck (U := Un) (rs := [(5, .loc 100000 0)]) rfl rfl o0 rfl) (.cons (sok_fieldB (U := Un) (rs := [(6, .loc 100000 0)]) rfl rfl fd_81_1 (by decide) o0) (.cons (sok_loadB (U := Un) (t := .int .i64) (rs := [(7, .loc 100000 1)]) [.p .str a0] [.p I6 a1] [.p .err a2] (v := .p I6 a1) rfl rfl ty_3 o0 rfl rfl rfl rfl (.data (.one _ _))) (.cons (mv (U := Un) (v := .loc 100000 0) rfl rfl) (.cons (sok_nilCheck (U := Un) (rs := [(9, .loc 100000 0)]) rfl rfl o0 rfl) (.cons (sok_fieldB (U := Un) (rs := [(10, .loc 100000 0)]) rfl rfl fd_81_0 (by decide) o0) (.cons (sok_loadB (U := Un) (t := .str) (rs := [(11, .loc 100000 0)]) [] [.p .str a0] [.p I6 a1, .p .err a2] (v := .p .str a0) rfl rfl ty_9 o0 rfl rfl rfl rfl (.data (.one _ _))) (.cons (sok_lenS (U := Un) (rs := [(12, .p .str a0)]) rfl rfl Tryd.underlying9 o0) (.cons (sok_cmp (U := Un) (rs := [(8, .p I6 a1), (13, .p I6 ((a0.length : Int) : Int))]) rfl rfl o0 o1 rfl) (.cons (mv (U := Un) (v := .p .bool ((decide (a1 < (a0.length : Int))) : Bool)) rfl rfl) (.cons (sok_run rfl rfl hc1 (mv (U := Un) (v := .loc 100000 0) rfl rfl)) (.cons (sok_run rfl rfl hc1 (sok_nilCheck (U := Un) (rs := [(16, .loc 100000 0)]) rfl rfl o0 rfl)) (.cons (sok_run rfl rfl hc1 (sok_fieldB (U := Un) (rs := [(17, .loc 100000 0)]) rfl rfl fd_81_0 (by decide) o0)) (.cons (sok_run rfl rfl hc1 (sok_loadB (U := Un) (t := .str) (rs := [(18, .loc 100000 0)]) [] [.p .str a0] [.p I6 a1, .p .err a2] (v := .p .str a0) rfl rfl ty_9 o0 rfl rfl rfl rfl (.data (.one _ _)))) (.cons (sok_run rfl rfl hc1 (mv (U := Un) (v := .loc 100000 0) rfl rfl)) (.cons (sok_run rfl rfl hc1 (sok_nilCheck (U := Un) (rs := [(20, .loc 100000 0)]) rfl rfl o0 rfl)) (.cons (sok_run rfl rfl hc1 (sok_fieldB (U := Un) (rs := [(21, .loc 100000 0)]) rfl rfl fd_81_1 (by decide) o0)) (.cons (sok_run rfl rfl hc1 (sok_loadB (U := Un) (t := .int .i64) (rs := [(22, .loc 100000 1)]) [.p .str a0] [.p I6 a1] [.p .err a2] (v := .p I6 a1) rfl rfl ty_3 o0 rfl rfl rfl rfl (.data (.one _ _)))) (.cons (sok_run rfl rfl hc1 (sok_indexS (U := Un) (rs := [(19, .p .str a0), (23, .p I6 a1)]) rfl rfl Tryd.underlying9 o0 o1 hv2)) (.cons (sok_run rfl rfl hc1 (mv (U := Un) (v := .p (.int .u8) a3) rfl rfl)) (.cons (sok_run rfl rfl hc1 (sok_cmp (U := Un) (rs := [(24, .p (.int .u8) ((v2.toNat : Int) : Int)), (25, .p (.int .u8) a3)]) rfl rfl o0 o1 rfl)) (.cons (sok_pickT (U := Un) (rs := [(15, .p .bool ((decide (a1 < (a0.length : Int))) : Bool)), (26, .p .bool (((v2.toNat : Int) == a3) : Bool))]) rfl rfl o0 hc1 o1) (.cons (mva (U := Un) (v := .p .bool (((v2.toNat : Int) == a3) : Bool)) rfl rfl) .nil)))))))))))))))))))))))) (by kernel_rfl) (by kernel_rfl) (by kernel_rfl) (by kernel_rfl) (by kernel_rfl) (Conv.refl (U := Un) _) ?_
    refine thenQ_normal ?_
    refine WpC.ret ?_
    have hq := Option.some.inj h
    subst hq
    exact ends_ret (retV_1 rfl (.head _)) (ain_cons (.head _) ain_nil)
  · replace h := ite_f hc1 h
    refine WpC.regA (U := Un) (st1 := ⟨[(4, .p .bool false)], [(100000, .box [.p .str a0, .p I6 a1, .p .err a2])]⟩) [4] [100000] [[], [0], [0, 1], [0, 1, 2], [], [4], [4, 5], [4, 5, 6], [4, 5, 6, 7], [0, 1, 2, 3, 4, 5, 6, 7, 8], [0, 1, 2, 3, 4, 5, 6, 7, 8, 9], [0, 1, 2, 3, 4, 5, 6, 7, 8, 9, 10], [0, 1, 2, 3, 4, 5, 6, 7, 8, 9, 10, 11], [0, 1, 2, 3, 4, 5, 6, 7, 8, 9, 10, 11, 12], [0, 1, 2, 3, 4, 5, 6, 7, 8, 9, 10, 11, 12, 13], [0, 1, 2, 3, 4, 5, 6, 7, 8, 9, 10], [0, 1, 2, 3, 4, 5, 6, 7, 8, 9, 10, 15], [0, 1, 2, 3, 4, 5, 6, 7, 8, 9, 10, 15, 16], [0, 1, 2, 3, 4, 5, 6, 7, 8, 9, 10, 15, 16, 17], [0, 1, 2, 3, 4, 5, 6, 7, 8, 9, 10, 11, 12, 13, 14, 15, 16, 17, 18], [0, 1, 2, 3, 4, 5, 6, 7, 8, 9, 10], [0, 1, 2, 3, 4, 5, 6, 7, 8, 9, 10, 11, 12, 13, 14, 15, 16, 17, 18, 19, 20], [0, 1, 2, 3, 4, 5, 6, 7, 8, 9, 10, 11, 12, 13, 14, 15, 16, 17, 18, 19, 20, 21], [0, 1, 2, 3, 4, 5, 6, 7, 8, 9, 10, 11, 12, 13, 14, 15, 16, 17, 18, 19, 20, 21, 22]] mixed hN (.cons (mv (U := Un) (v := .loc 100000 0) rfl rfl) (.cons (sok_nilCheck (U := Un) (rs := [(5, .loc 100000 0)]) rfl rfl o0 rfl) (.cons (sok_fieldB (U := Un) (rs := [(6, .loc 100000 0)]) rfl rfl fd_81_1 (by decide) o0) (.cons (sok_loadB (U := Un) (t := .int .i64) (rs := [(7, .loc 100000 1)]) [.p .str a0] [.p I6 a1] [.p .err a2] (v := .p I6 a1) rfl rfl ty_3 o0 rfl rfl rfl rfl (.data (.one _ _))) (.cons (mv (U := Un) (v := .loc 100000 0) rfl rfl) (.cons (sok_nilCheck (U := Un) (rs := [(9, .loc 100000 0)]) rfl rfl o0 rfl) (.cons (sok_fieldB (U := Un) (rs := [(10, .loc 100000 0)]) rfl rfl fd_81_0 (by decide) o0) (.cons (sok_loadB (U := Un) (t := .str) (rs := [(11, .loc 100000 0)]) [] [.p .str a0] [.p I6 a1, .p .err a2] (v := .p .str a0) rfl rfl ty_9 o0 rfl rfl rfl rfl (.data (.one _ _))) (.cons (sok_lenS (U := Un) (rs := [(12, .p .str a0)]) rfl rfl Tryd.underlying9 o0) (.cons (sok_cmp (U := Un) (rs := [(8, .p I6 a1), (13, .p I6 ((a0.length : Int) : Int))]) rfl rfl o0 o1 rfl) (.cons (mv (U := Un) (v := .p .bool ((decide (a1 < (a0.length : Int))) : Bool)) rfl rfl) (.cons (sok_skip rfl rfl hc1) (.cons (sok_skip rfl rfl hc1) (.cons (sok_skip rfl rfl hc1) (.cons (sok_skip rfl rfl hc1) (.cons (sok_skip rfl rfl hc1) (.cons (sok_skip rfl rfl hc1) (.cons (sok_skip rfl rfl hc1) (.cons (sok_skip rfl rfl hc1) (.cons (sok_skip rfl rfl hc1) (.cons (sok_skip rfl rfl hc1) (.cons (sok_skip rfl rfl hc1) (.cons (sok_pickF (U := Un) (rs := [(15, .p .bool ((decide (a1 < (a0.length : Int))) : Bool))]) rfl rfl o0 hc1 (.bool _ _)) (.cons (mva (U := Un) (v := .p .bool false) rfl rfl) .nil)))))))))))))))))))))))) (by kernel_rfl) (by kernel_rfl) (by kernel_rfl) (by kernel_rfl) (by kernel_rfl) (Conv.refl (U := Un) _) ?_
    refine thenQ_normal ?_
    refine WpC.ret ?_
    have hq := Option.some.inj h
    subst hq
    exact ends_ret (retV_1 rfl (.head _)) (ain_cons (.head _) ain_nil)

theorem lex_letter.ok (O : Out) (hO : GOkL O) (k : Nat) (a0 : Int) (out : Bool) (h : lex_letter.f k a0 = some out) : COk Un O Tryd.prog 75 { ar := [.p (.int .u8) a0], r := .p .bool out } := by
  refine cok_of_wp Tryd.func75 rfl (k := 29) rfl (Nat.le_of_ble_eq_true rfl) (namesOk_pure rfl rfl rfl rfl) ?_
  intro B hN
  refine WpC.conv (Conv.keep (U := Un) (b := ⟨[(0, .p (.int .u8) a0)], []⟩) [0] [] (by kernel_rfl)) ?_
  unfold lex_letter.f at h
  refine WpC.seq ?_
  refine WpC.reg (U := Un) (st1 := ⟨[(0, .p (.int .u8) a0)], []⟩) [0] [] hN (.cons (sok_move (U := Un) (rs := []) rfl (.inr rfl) (.bool _ _)) .nil) (by kernel_rfl) (by kernel_rfl) (by kernel_rfl) (Conv.refl (U := Un) _) ?_
  refine thenQ_normal ?_
  refine WpC.seq ?_
  rcases bool_cases (decide (a0 ≥ 97)) with hc1 | hc1
  · replace h := ite_t hc1 h
    rcases bool_cases (decide (a0 ≤ 122)) with hc2 | hc2
    · replace h := ite_t hc2 h
      refine WpC.reg (U := Un) (st1 := ⟨[(2, .p .bool true)], []⟩) [2] [] hN (.cons (mv (U := Un) (v := .p (.int .u8) a0) rfl rfl) (.cons (sok_cmp (U := Un) (rs := [(3, .p (.int .u8) a0)]) rfl rfl o0 (.int _ _ _) rfl) (.cons (mv (U := Un) (v := .p .bool ((decide (a0 ≥ 97)) : Bool)) rfl rfl) (.cons (sok_run rfl rfl hc1 (mv (U := Un) (v := .p (.int .u8) a0) rfl rfl)) (.cons (sok_run rfl rfl hc1 (sok_cmp (U := Un) (rs := [(6, .p (.int .u8) a0)]) rfl rfl o0 (.int _ _ _) rfl)) (.cons (sok_pickT (U := Un) (rs := [(5, .p .bool ((decide (a0 ≥ 97)) : Bool)), (7, .p .bool ((decide (a0 ≤ 122)) : Bool))]) rfl rfl o0 hc1 o1) (.cons (mv (U := Un) (v := .p .bool ((decide (a0 ≤ 122)) : Bool)) rfl rfl) (.cons (sok_skip rfl rfl hc2) (.cons (sok_skip rfl rfl hc2) (.cons (sok_skip rfl rfl hc2) (.cons (sok_skipU rfl rfl) (.cons (sok_skipU rfl rfl) (.cons (sok_skip rfl rfl hc2) (.cons (sok_pickT (U := Un) (rs := [(9, .p .bool ((decide (a0 ≤ 122)) : Bool))]) rfl rfl o0 hc2 (.bool _ _)) (.cons (mv (U := Un) (v := .p .bool true) rfl rfl) (.cons (sok_skip rfl rfl rfl) (.cons (sok_skip rfl rfl rfl) (.cons (sok_skip rfl rfl rfl) (.cons (sok_skipU rfl rfl) (.cons (sok_skipU rfl rfl) (.cons (sok_skip rfl rfl rfl) (.cons (sok_pickT (U := Un) (rs := [(17, .p .bool true)]) rfl rfl o0 rfl (.bool _ _)) (.cons (mv (U := Un) (v := .p .bool true) rfl rfl) (.cons (sok_skip rfl rfl rfl) (.cons (sok_skip rfl rfl rfl) (.cons (sok_pickT (U := Un) (rs := [(25, .p .bool true)]) rfl rfl o0 rfl (.bool _ _)) (.cons (mva (U := Un) (v := .p .bool true) rfl rfl) .nil))))))))))))))))))))))))))) (by kernel_rfl) (by kernel_rfl) (by kernel_rfl) (Conv.refl (U := Un) _) ?_
      refine thenQ_normal ?_
      refine WpC.ret ?_
      have hq := Option.some.inj h
      subst hq
      exact ends_ret (retV_1 rfl (.head _)) ain_nil
    · replace h := ite_f hc2 h
      rcases bool_cases (decide (a0 ≥ 65)) with hc3 | hc3
      · replace h := ite_t hc3 h
        rcases bool_cases (decide (a0 ≤ 90)) with hc4 | hc4
        · replace h := ite_t hc4 h
          refine WpC.reg (U := Un) (st1 := ⟨[(2, .p .bool true)], []⟩) [2] [] hN (.cons (mv (U := Un) (v := .p (.int .u8) a0) rfl rfl) (.cons (sok_cmp (U := Un) (rs := [(3, .p (.int .u8) a0)]) rfl rfl o0 (.int _ _ _) rfl) (.cons (mv (U := Un) (v := .p .bool ((decide (a0 ≥ 97)) : Bool)) rfl rfl) (.cons (sok_run rfl rfl hc1 (mv (U := Un) (v := .p (.int .u8) a0) rfl rfl)) (.cons (sok_run rfl rfl hc1 (sok_cmp (U := Un) (rs := [(6, .p (.int .u8) a0)]) rfl rfl o0 (.int _ _ _) rfl)) (.cons (sok_pickT (U := Un) (rs := [(5, .p .bool ((decide (a0 ≥ 97)) : Bool)), (7, .p .bool ((decide (a0 ≤ 122)) : Bool))]) rfl rfl o0 hc1 o1) (.cons (mv (U := Un) (v := .p .bool ((decide (a0 ≤ 122)) : Bool)) rfl rfl) (.cons (sok_run rfl rfl hc2 (mv (U := Un) (v := .p (.int .u8) a0) rfl rfl)) (.cons (sok_run rfl rfl hc2 (sok_cmp (U := Un) (rs := [(10, .p (.int .u8) a0)]) rfl rfl o0 (.int _ _ _) rfl)) (.cons (sok_run rfl rfl hc2 (mv (U := Un) (v := .p .bool ((decide (a0 ≥ 65)) : Bool)) rfl rfl)) (.cons (sok_run rfl rfl hc3 (mv (U := Un) (v := .p (.int .u8) a0) rfl rfl)) (.cons (sok_run rfl rfl hc3 (sok_cmp (U := Un) (rs := [(13, .p (.int .u8) a0)]) rfl rfl o0 (.int _ _ _) rfl)) (.cons (sok_run rfl rfl hc2 (sok_pickT (U := Un) (rs := [(12, .p .bool ((decide (a0 ≥ 65)) : Bool)), (14, .p .bool ((decide (a0 ≤ 90)) : Bool))]) rfl rfl o0 hc3 o1)) (.cons (sok_pickF (U := Un) (rs := [(9, .p .bool ((decide (a0 ≤ 122)) : Bool)), (15, .p .bool ((decide (a0 ≤ 90)) : Bool))]) rfl rfl o0 hc2 o1) (.cons (mv (U := Un) (v := .p .bool ((decide (a0 ≤ 90)) : Bool)) rfl rfl) (.cons (sok_skip rfl rfl hc4) (.cons (sok_skip rfl rfl hc4) (.cons (sok_skip rfl rfl hc4) (.cons (sok_skipU rfl rfl) (.cons (sok_skipU rfl rfl) (.cons (sok_skip rfl rfl hc4) (.cons (sok_pickT (U := Un) (rs := [(17, .p .bool ((decide (a0 ≤ 90)) : Bool))]) rfl rfl o0 hc4 (.bool _ _)) (.cons (mv (U := Un) (v := .p .bool true) rfl rfl) (.cons (sok_skip rfl rfl rfl) (.cons (sok_skip rfl rfl rfl) (.cons (sok_pickT (U := Un) (rs := [(25, .p .bool true)]) rfl rfl o0 rfl (.bool _ _)) (.cons (mva (U := Un) (v := .p .bool true) rfl rfl) .nil))))))))))))))))))))))))))) (by kernel_rfl) (by kernel_rfl) (by kernel_rfl) (Conv.refl (U := Un) _) ?_
          refine thenQ_normal ?_
          refine WpC.ret ?_
          have hq := Option.some.inj h
          subst hq
          exact ends_ret (retV_1 rfl (.head _)) ain_nil
        · replace h := ite_f hc4 h
          rcases bool_cases (decide (a0 ≥ 48)) with hc5 | hc5
          · replace h := ite_t hc5 h
            rcases bool_cases (decide (a0 ≤ 57)) with hc6 | hc6
            · replace h := ite_t hc6 h
              refine WpC.reg (U := Un) (st1 := ⟨[(2, .p .bool true)], []⟩) [2] [] hN (.cons (mv (U := Un) (v := .p (.int .u8) a0) rfl rfl) (.cons (sok_cmp (U := Un) (rs := [(3, .p (.int .u8) a0)]) rfl rfl o0 (.int _ _ _) rfl) (.cons (mv (U := Un) (v := .p .bool ((decide (a0 ≥ 97)) : Bool)) rfl rfl) (.cons (sok_run rfl rfl hc1 (mv (U := Un) (v := .p (.int .u8) a0) rfl rfl)) (.cons (sok_run rfl rfl hc1 (sok_cmp (U := Un) (rs := [(6, .p (.int .u8) a0)]) rfl rfl o0 (.int _ _ _) rfl)) (.cons (sok_pickT (U := Un) (rs := [(5, .p .bool ((decide (a0 ≥ 97)) : Bool)), (7, .p .bool ((decide (a0 ≤ 122)) : Bool))]) rfl rfl o0 hc1 o1) (.cons (mv (U := Un) (v := .p .bool ((decide (a0 ≤ 122)) : Bool)) rfl rfl) (.cons (sok_run rfl rfl hc2 (mv (U := Un) (v := .p (.int .u8) a0) rfl rfl)) (.cons (sok_run rfl rfl hc2 (sok_cmp (U := Un) (rs := [(10, .p (.int .u8) a0)]) rfl rfl o0 (.int _ _ _) rfl)) (.cons (sok_run rfl rfl hc2 (mv (U := Un) (v := .p .bool ((decide (a0 ≥ 65)) : Bool)) rfl rfl)) (.cons (sok_run rfl rfl hc3 (mv (U := Un) (v := .p (.int .u8) a0) rfl rfl)) (.cons (sok_run rfl rfl hc3 (sok_cmp (U := Un) (rs := [(13, .p (.int .u8) a0)]) rfl rfl o0 (.int _ _ _) rfl)) (.cons (sok_run rfl rfl hc2 (sok_pickT (U := Un) (rs := [(12, .p .bool ((decide (a0 ≥ 65)) : Bool)), (14, .p .bool ((decide (a0 ≤ 90)) : Bool))]) rfl rfl o0 hc3 o1)) (.cons (sok_pickF (U := Un) (rs := [(9, .p .bool ((decide (a0 ≤ 122)) : Bool)), (15, .p .bool ((decide (a0 ≤ 90)) : Bool))]) rfl rfl o0 hc2 o1) (.cons (mv (U := Un) (v := .p .bool ((decide (a0 ≤ 90)) : Bool)) rfl rfl) (.cons (sok_run rfl rfl hc4 (mv (U := Un) (v := .p (.int .u8) a0) rfl rfl)) (.cons (sok_run rfl rfl hc4 (sok_cmp (U := Un) (rs := [(18, .p (.int .u8) a0)]) rfl rfl o0 (.int _ _ _) rfl)) (.cons (sok_run rfl rfl hc4 (mv (U := Un) (v := .p .bool ((decide (a0 ≥ 48)) : Bool)) rfl rfl)) (.cons (sok_run rfl rfl hc5 (mv (U := Un) (v := .p (.int .u8) a0) rfl rfl)) (.cons (sok_run rfl rfl hc5 (sok_cmp (U := Un) (rs := [(21, .p (.int .u8) a0)]) rfl rfl o0 (.int _ _ _) rfl)) (.cons (sok_run rfl rfl hc4 (sok_pickT (U := Un) (rs := [(20, .p .bool ((decide (a0 ≥ 48)) : Bool)), (22, .p .bool ((decide (a0 ≤ 57)) : Bool))]) rfl rfl o0 hc5 o1)) (.cons (sok_pickF (U := Un) (rs := [(17, .p .bool ((decide (a0 ≤ 90)) : Bool)), (23, .p .bool ((decide (a0 ≤ 57)) : Bool))]) rfl rfl o0 hc4 o1) (.cons (mv (U := Un) (v := .p .bool ((decide (a0 ≤ 57)) : Bool)) rfl rfl) (.cons (sok_skip rfl rfl hc6) (.cons (sok_skip rfl rfl hc6) (.cons (sok_pickT (U := Un) (rs := [(25, .p .bool ((decide (a0 ≤ 57)) : Bool))]) rfl rfl o0 hc6 (.bool _ _)) (.cons (mva (U := Un) (v := .p .bool true) rfl rfl) .nil))))))))))))))))))))))))))) (by kernel_rfl) (by kernel_rfl) (by kernel_rfl) (Conv.refl (U := Un) _) ?_
              refine thenQ_normal ?_
              refine WpC.ret ?_
              have hq := Option.some.inj h
              subst hq
              exact ends_ret (retV_1 rfl (.head _)) ain_nil
            · replace h := ite_f hc6 h
              refine WpC.reg (U := Un) (st1 := ⟨[(2, .p .bool ((a0 == 95) : Bool))], []⟩) [2] [] hN (.cons (mv (U := Un) (v := .p (.int .u8) a0) rfl rfl) (.cons (sok_cmp (U := Un) (rs := [(3, .p (.int .u8) a0)]) rfl rfl o0 (.int _ _ _) rfl) (.cons (mv (U := Un) (v := .p .bool ((decide (a0 ≥ 97)) : Bool)) rfl rfl) (.cons (sok_run rfl rfl hc1 (mv (U := Un) (v := .p (.int .u8) a0) rfl rfl)) (.cons (sok_run rfl rfl hc1 (sok_cmp (U := Un) (rs := [(6, .p (.int .u8) a0)]) rfl rfl o0 (.int _ _ _) rfl)) (.cons (sok_pickT (U := Un) (rs := [(5, .p .bool ((decide (a0 ≥ 97)) : Bool)), (7, .p .bool ((decide (a0 ≤ 122)) : Bool))]) rfl rfl o0 hc1 o1) (.cons (mv (U := Un) (v := .p .bool ((decide (a0 ≤ 122)) : Bool)) rfl rfl) (.cons (sok_run rfl rfl hc2 (mv (U := Un) (v := .p (.int .u8) a0) rfl rfl)) (.cons (sok_run rfl rfl hc2 (sok_cmp (U := Un) (rs := [(10, .p (.int .u8) a0)]) rfl rfl o0 (.int _ _ _) rfl)) (.cons (sok_run rfl rfl hc2 (mv (U := Un) (v := .p .bool ((decide (a0 ≥ 65)) : Bool)) rfl rfl)) (.cons (sok_run rfl rfl hc3 (mv (U := Un) (v := .p (.int .u8) a0) rfl rfl)) (.cons (sok_run rfl rfl hc3 (sok_cmp (U := Un) (rs := [(13, .p (.int .u8) a0)]) rfl rfl o0 (.int _ _ _) rfl)) (.cons (sok_run rfl rfl hc2 (sok_pickT (U := Un) (rs := [(12, .p .bool ((decide (a0 ≥ 65)) : Bool)), (14, .p .bool ((decide (a0 ≤ 90)) : Bool))]) rfl rfl o0 hc3 o1)) (.cons (sok_pickF (U := Un) (rs := [(9, .p .bool ((decide (a0 ≤ 122)) : Bool)), (15, .p .bool ((decide (a0 ≤ 90)) : Bool))]) rfl rfl o0 hc2 o1) (.cons (mv (U := Un) (v := .p .bool ((decide (a0 ≤ 90)) : Bool)) rfl rfl) (.cons (sok_run rfl rfl hc4 (mv (U := Un) (v := .p (.int .u8) a0) rfl rfl)) (.cons (sok_run rfl rfl hc4 (sok_cmp (U := Un) (rs := [(18, .p (.int .u8) a0)]) rfl rfl o0 (.int _ _ _) rfl)) (.cons (sok_run rfl rfl hc4 (mv (U := Un) (v := .p .bool ((decide (a0 ≥ 48)) : Bool)) rfl rfl)) (.cons (sok_run rfl rfl hc5 (mv (U := Un) (v := .p (.int .u8) a0) rfl rfl)) (.cons (sok_run rfl rfl hc5 (sok_cmp (U := Un) (rs := [(21, .p (.int .u8) a0)]) rfl rfl o0 (.int _ _ _) rfl)) (.cons (sok_run rfl rfl hc4 (sok_pickT (U := Un) (rs := [(20, .p .bool ((decide (a0 ≥ 48)) : Bool)), (22, .p .bool ((decide (a0 ≤ 57)) : Bool))]) rfl rfl o0 hc5 o1)) (.cons (sok_pickF (U := Un) (rs := [(17, .p .bool ((decide (a0 ≤ 90)) : Bool)), (23, .p .bool ((decide (a0 ≤ 57)) : Bool))]) rfl rfl o0 hc4 o1) (.cons (mv (U := Un) (v := .p .bool ((decide (a0 ≤ 57)) : Bool)) rfl rfl) (.cons (sok_run rfl rfl hc6 (mv (U := Un) (v := .p (.int .u8) a0) rfl rfl)) (.cons (sok_run rfl rfl hc6 (sok_cmp (U := Un) (rs := [(26, .p (.int .u8) a0)]) rfl rfl o0 (.int _ _ _) rfl)) (.cons (sok_pickF (U := Un) (rs := [(25, .p .bool ((decide (a0 ≤ 57)) : Bool)), (27, .p .bool ((a0 == 95) : Bool))]) rfl rfl o0 hc6 o1) (.cons (mva (U := Un) (v := .p .bool ((a0 == 95) : Bool)) rfl rfl) .nil))))))))))))))))))))))))))) (by kernel_rfl) (by kernel_rfl) (by kernel_rfl) (Conv.refl (U := Un) _) ?_
              refine thenQ_normal ?_
              refine WpC.ret ?_
              have hq := Option.some.inj h
              subst hq
              exact ends_ret (retV_1 rfl (.head _)) ain_nil
          · replace h := ite_f hc5 h
            refine WpC.reg (U := Un) (st1 := ⟨[(2, .p .bool ((a0 == 95) : Bool))], []⟩) [2] [] hN (.cons (mv (U := Un) (v := .p (.int .u8) a0) rfl rfl) (.cons (sok_cmp (U := Un) (rs := [(3, .p (.int .u8) a0)]) rfl rfl o0 (.int _ _ _) rfl) (.cons (mv (U := Un) (v := .p .bool ((decide (a0 ≥ 97)) : Bool)) rfl rfl) (.cons (sok_run rfl rfl hc1 (mv (U := Un) (v := .p (.int .u8) a0) rfl rfl)) (.cons (sok_run rfl rfl hc1 (sok_cmp (U := Un) (rs := [(6, .p (.int .u8) a0)]) rfl rfl o0 (.int _ _ _) rfl)) (.cons (sok_pickT (U := Un) (rs := [(5, .p .bool ((decide (a0 ≥ 97)) : Bool)), (7, .p .bool ((decide (a0 ≤ 122)) : Bool))]) rfl rfl o0 hc1 o1) (.cons (mv (U := Un) (v := .p .bool ((decide (a0 ≤ 122)) : Bool)) rfl rfl) (.cons (sok_run rfl rfl hc2 (mv (U := Un) (v := .p (.int .u8) a0) rfl rfl)) (.cons (sok_run rfl rfl hc2 (sok_cmp (U := Un) (rs := [(10, .p (.int .u8) a0)]) rfl rfl o0 (.int _ _ _) rfl)) (.cons (sok_run rfl rfl hc2 (mv (U := Un) (v := .p .bool ((decide (a0 ≥ 65)) : Bool)) rfl rfl)) (.cons (sok_run rfl rfl hc3 (mv (U := Un) (v := .p (.int .u8) a0) rfl rfl)) (.cons (sok_run rfl rfl hc3 (sok_cmp (U := Un) (rs := [(13, .p (.int .u8) a0)]) rfl rfl o0 (.int _ _ _) rfl)) (.cons (sok_run rfl rfl hc2 (sok_pickT (U := Un) (rs := [(12, .p .bool ((decide (a0 ≥ 65)) : Bool)), (14, .p .bool ((decide (a0 ≤ 90)) : Bool))]) rfl rfl o0 hc3 o1)) (.cons (sok_pickF (U := Un) (rs := [(9, .p .bool ((decide (a0 ≤ 122)) : Bool)), (15, .p .bool ((decide (a0 ≤ 90)) : Bool))]) rfl rfl o0 hc2 o1) (.cons (mv (U := Un) (v := .p .bool ((decide (a0 ≤ 90)) : Bool)) rfl rfl) (.cons (sok_run rfl rfl hc4 (mv (U := Un) (v := .p (.int .u8) a0) rfl rfl)) (.cons (sok_run rfl rfl hc4 (sok_cmp (U := Un) (rs := [(18, .p (.int .u8) a0)]) rfl rfl o0 (.int _ _ _) rfl)) (.cons (sok_run rfl rfl hc4 (mv (U := Un) (v := .p .bool ((decide (a0 ≥ 48)) : Bool)) rfl rfl)) (.cons (sok_skip rfl rfl hc5) (.cons (sok_skip rfl rfl hc5) (.cons (sok_run rfl rfl hc4 (sok_pickF (U := Un) (rs := [(20, .p .bool ((decide (a0 ≥ 48)) : Bool))]) rfl rfl o0 hc5 (.bool _ _))) (.cons (sok_pickF (U := Un) (rs := [(17, .p .bool ((decide (a0 ≤ 90)) : Bool)), (23, .p .bool false)]) rfl rfl o0 hc4 o1) (.cons (mv (U := Un) (v := .p .bool false) rfl rfl) (.cons (sok_run rfl rfl rfl (mv (U := Un) (v := .p (.int .u8) a0) rfl rfl)) (.cons (sok_run rfl rfl rfl (sok_cmp (U := Un) (rs := [(26, .p (.int .u8) a0)]) rfl rfl o0 (.int _ _ _) rfl)) (.cons (sok_pickF (U := Un) (rs := [(25, .p .bool false), (27, .p .bool ((a0 == 95) : Bool))]) rfl rfl o0 rfl o1) (.cons (mva (U := Un) (v := .p .bool ((a0 == 95) : Bool)) rfl rfl) .nil))))))))))))))))))))))))))) (by kernel_rfl) (by kernel_rfl) (by kernel_rfl) (Conv.refl (U := Un) _) ?_
            refine thenQ_normal ?_
            refine WpC.ret ?_
            have hq := Option.some.inj h
            subst hq
            exact ends_ret (retV_1 rfl (.head _)) ain_nil
      · replace h := ite_f hc3 h
        rcases bool_cases (decide (a0 ≥ 48)) with hc7 | hc7
        · replace h := ite_t hc7 h
          rcases bool_cases (decide (a0 ≤ 57)) with hc8 | hc8
          · replace h := ite_t hc8 h
            refine WpC.reg (U := Un) (st1 := ⟨[(2, .p .bool true)], []⟩) [2] [] hN (.cons (mv (U := Un) (v := .p (.int .u8) a0) rfl rfl) (.cons (sok_cmp (U := Un) (rs := [(3, .p (.int .u8) a0)]) rfl rfl o0 (.int _ _ _) rfl) (.cons (mv (U := Un) (v := .p .bool ((decide (a0 ≥ 97)) : Bool)) rfl rfl) (.cons (sok_run rfl rfl hc1 (mv (U := Un) (v := .p (.int .u8) a0) rfl rfl)) (.cons (sok_run rfl rfl hc1 (sok_cmp (U := Un) (rs := [(6, .p (.int .u8) a0)]) rfl rfl o0 (.int _ _ _) rfl)) (.cons (sok_pickT (U := Un) (rs := [(5, .p .bool ((decide (a0 ≥ 97)) : Bool)), (7, .p .bool ((decide (a0 ≤ 122)) : Bool))]) rfl rfl o0 hc1 o1) (.cons (mv (U := Un) (v := .p .bool ((decide (a0 ≤ 122)) : Bool)) rfl rfl) (.cons (sok_run rfl rfl hc2 (mv (U := Un) (v := .p (.int .u8) a0) rfl rfl)) (.cons (sok_run rfl rfl hc2 (sok_cmp (U := Un) (rs := [(10, .p (.int .u8) a0)]) rfl rfl o0 (.int _ _ _) rfl)) (.cons (sok_run rfl rfl hc2 (mv (U := Un) (v := .p .bool ((decide (a0 ≥ 65)) : Bool)) rfl rfl)) (.cons (sok_skip rfl rfl hc3) (.cons (sok_skip rfl rfl hc3) (.cons (sok_run rfl rfl hc2 (sok_pickF (U := Un) (rs := [(12, .p .bool ((decide (a0 ≥ 65)) : Bool))]) rfl rfl o0 hc3 (.bool _ _))) (.cons (sok_pickF (U := Un) (rs := [(9, .p .bool ((decide (a0 ≤ 122)) : Bool)), (15, .p .bool false)]) rfl rfl o0 hc2 o1) (.cons (mv (U := Un) (v := .p .bool false) rfl rfl) (.cons (sok_run rfl rfl rfl (mv (U := Un) (v := .p (.int .u8) a0) rfl rfl)) (.cons (sok_run rfl rfl rfl (sok_cmp (U := Un) (rs := [(18, .p (.int .u8) a0)]) rfl rfl o0 (.int _ _ _) rfl)) (.cons (sok_run rfl rfl rfl (mv (U := Un) (v := .p .bool ((decide (a0 ≥ 48)) : Bool)) rfl rfl)) (.cons (sok_run rfl rfl hc7 (mv (U := Un) (v := .p (.int .u8) a0) rfl rfl)) (.cons (sok_run rfl rfl hc7 (sok_cmp (U := Un) (rs := [(21, .p (.int .u8) a0)]) rfl rfl o0 (.int _ _ _) rfl)) (.cons (sok_run rfl rfl rfl (sok_pickT (U := Un) (rs := [(20, .p .bool ((decide (a0 ≥ 48)) : Bool)), (22, .p .bool ((decide (a0 ≤ 57)) : Bool))]) rfl rfl o0 hc7 o1)) (.cons (sok_pickF (U := Un) (rs := [(17, .p .bool false), (23, .p .bool ((decide (a0 ≤ 57)) : Bool))]) rfl rfl o0 rfl o1) (.cons (mv (U := Un) (v := .p .bool ((decide (a0 ≤ 57)) : Bool)) rfl rfl) (.cons (sok_skip rfl rfl hc8) (.cons (sok_skip rfl rfl hc8) (.cons (sok_pickT (U := Un) (rs := [(25, .p .bool ((decide (a0 ≤ 57)) : Bool))]) rfl rfl o0 hc8 (.bool _ _)) (.cons (mva (U := Un) (v := .p .bool true) rfl rfl) .nil))))))))))))))))))))))))))) (by kernel_rfl) (by kernel_rfl) (by kernel_rfl) (Conv.refl (U := Un) _) ?_
            refine thenQ_normal ?_
            refine WpC.ret ?_
            have hq := Option.some.inj h
            subst hq
            exact ends_ret (retV_1 rfl (.head _)) ain_nil
          · replace h := ite_f hc8 h
            refine WpC.reg (U := Un) (st1 := ⟨[(2, .p .bool ((a0 == 95) : Bool))], []⟩) [2] [] hN (.cons (mv (U := Un) (v := .p (.int .u8) a0) rfl rfl) (.cons (sok_cmp (U := Un) (rs := [(3, .p (.int .u8) a0)]) rfl rfl o0 (.int _ _ _) rfl) (.cons (mv (U := Un) (v := .p .bool ((decide (a0 ≥ 97)) : Bool)) rfl rfl) (.cons (sok_run rfl rfl hc1 (mv (U := Un) (v := .p (.int .u8) a0) rfl rfl)) (.cons (sok_run rfl rfl hc1 (sok_cmp (U := Un) (rs := [(6, .p (.int .u8) a0)]) rfl rfl o0 (.int _ _ _) rfl)) (.cons (sok_pickT (U := Un) (rs := [(5, .p .bool ((decide (a0 ≥ 97)) : Bool)), (7, .p .bool ((decide (a0 ≤ 122)) : Bool))]) rfl rfl o0 hc1 o1) (.cons (mv (U := Un) (v := .p .bool ((decide (a0 ≤ 122)) : Bool)) rfl rfl) (.cons (sok_run rfl rfl hc2 (mv (U := Un) (v := .p (.int .u8) a0) rfl rfl)) (.cons (sok_run rfl rfl hc2 (sok_cmp (U := Un) (rs := [(10, .p (.int .u8) a0)]) rfl rfl o0 (.int _ _ _) rfl)) (.cons (sok_run rfl rfl hc2 (mv (U := Un) (v := .p .bool ((decide (a0 ≥ 65)) : Bool)) rfl rfl)) (.cons (sok_skip rfl rfl hc3) (.cons (sok_skip rfl rfl hc3) (.cons (sok_run rfl rfl hc2 (sok_pickF (U := Un) (rs := [(12, .p .bool ((decide (a0 ≥ 65)) : Bool))]) rfl rfl o0 hc3 (.bool _ _))) (.cons (sok_pickF (U := Un) (rs := [(9, .p .bool ((decide (a0 ≤ 122)) : Bool)), (15, .p .bool false)]) rfl rfl o0 hc2 o1) (.cons (mv (U := Un) (v := .p .bool false) rfl rfl) (.cons (sok_run rfl rfl rfl (mv (U := Un) (v := .p (.int .u8) a0) rfl rfl)) (.cons (sok_run rfl rfl rfl (sok_cmp (U := Un) (rs := [(18, .p (.int .u8) a0)]) rfl rfl o0 (.int _ _ _) rfl)) (.cons (sok_run rfl rfl rfl (mv (U := Un) (v := .p .bool ((decide (a0 ≥ 48)) : Bool)) rfl rfl)) (.cons (sok_run rfl rfl hc7 (mv (U := Un) (v := .p (.int .u8) a0) rfl rfl)) (.cons (sok_run rfl rfl hc7 (sok_cmp (U := Un) (rs := [(21, .p (.int .u8) a0)]) rfl rfl o0 (.int _ _ _) rfl)) (.cons (sok_run rfl rfl rfl (sok_pickT (U := Un) (rs := [(20, .p .bool ((decide (a0 ≥ 48)) : Bool)), (22, .p .bool ((decide (a0 ≤ 57)) : Bool))]) rfl rfl o0 hc7 o1)) (.cons (sok_pickF (U := Un) (rs := [(17, .p .bool false), (23, .p .bool ((decide (a0 ≤ 57)) : Bool))]) rfl rfl o0 rfl o1) (.cons (mv (U := Un) (v := .p .bool ((decide (a0 ≤ 57)) : Bool)) rfl rfl) (.cons (sok_run rfl rfl hc8 (mv (U := Un) (v := .p (.int .u8) a0) rfl rfl)) (.cons (sok_run rfl rfl hc8 (sok_cmp (U := Un) (rs := [(26, .p (.int .u8) a0)]) rfl rfl o0 (.int _ _ _) rfl)) (.cons (sok_pickF (U := Un) (rs := [(25, .p .bool ((decide (a0 ≤ 57)) : Bool)), (27, .p .bool ((a0 == 95) : Bool))]) rfl rfl o0 hc8 o1) (.cons (mva (U := Un) (v := .p .bool ((a0 == 95) : Bool)) rfl rfl) .nil))))))))))))))))))))))))))) (by kernel_rfl) (by kernel_rfl) (by kernel_rfl) (Conv.refl (U := Un) _) ?_
            refine thenQ_normal ?_
            refine WpC.ret ?_
            have hq := Option.some.inj h
            subst hq
            exact ends_ret (retV_1 rfl (.head _)) ain_nil
        · replace h := ite_f hc7 h
          refine WpC.reg (U := Un) (st1 := ⟨[(2, .p .bool ((a0 == 95) : Bool))], []⟩) [2] [] hN (.cons (mv (U := Un) (v := .p (.int .u8) a0) rfl rfl) (.cons (sok_cmp (U := Un) (rs := [(3, .p (.int .u8) a0)]) rfl rfl o0 (.int _ _ _) rfl) (.cons (mv (U := Un) (v := .p .bool ((decide (a0 ≥ 97)) : Bool)) rfl rfl) (.cons (sok_run rfl rfl hc1 (mv (U := Un) (v := .p (.int .u8) a0) rfl rfl)) (.cons (sok_run rfl rfl hc1 (sok_cmp (U := Un) (rs := [(6, .p (.int .u8) a0)]) rfl rfl o0 (.int _ _ _) rfl)) (.cons (sok_pickT (U := Un) (rs := [(5, .p .bool ((decide (a0 ≥ 97)) : Bool)), (7, .p .bool ((decide (a0 ≤ 122)) : Bool))]) rfl rfl o0 hc1 o1) (.cons (mv (U := Un) (v := .p .bool ((decide (a0 ≤ 122)) : Bool)) rfl rfl) (.cons (sok_run rfl rfl hc2 (mv (U := Un) (v := .p (.int .u8) a0) rfl rfl)) (.cons (sok_run rfl rfl hc2 (sok_cmp (U := Un) (rs := [(10, .p (.int .u8) a0)]) rfl rfl o0 (.int _ _ _) rfl)) (.cons (sok_run rfl rfl hc2 (mv (U := Un) (v := .p .bool ((decide (a0 ≥ 65)) : Bool)) rfl rfl)) (.cons (sok_skip rfl rfl hc3) (.cons (sok_skip rfl rfl hc3) (.cons (sok_run rfl rfl hc2 (sok_pickF (U := Un) (rs := [(12, .p .bool ((decide (a0 ≥ 65)) : Bool))]) rfl rfl o0 hc3 (.bool _ _))) (.cons (sok_pickF (U := Un) (rs := [(9, .p .bool ((decide (a0 ≤ 122)) : Bool)), (15, .p .bool false)]) rfl rfl o0 hc2 o1) (.cons (mv (U := Un) (v := .p .bool false) rfl rfl) (.cons (sok_run rfl rfl rfl (mv (U := Un) (v := .p (.int .u8) a0) rfl rfl)) (.cons (sok_run rfl rfl rfl (sok_cmp (U := Un) (rs := [(18, .p (.int .u8) a0)]) rfl rfl o0 (.int _ _ _) rfl)) (.cons (sok_run rfl rfl rfl (mv (U := Un) (v := .p .bool ((decide (a0 ≥ 48)) : Bool)) rfl rfl)) (.cons (sok_skip rfl rfl hc7) (.cons (sok_skip rfl rfl hc7) (.cons (sok_run rfl rfl rfl (sok_pickF (U := Un) (rs := [(20, .p .bool ((decide (a0 ≥ 48)) : Bool))]) rfl rfl o0 hc7 (.bool _ _))) (.cons (sok_pickF (U := Un) (rs := [(17, .p .bool false), (23, .p .bool false)]) rfl rfl o0 rfl o1) (.cons (mv (U := Un) (v := .p .bool false) rfl rfl) (.cons (sok_run rfl rfl rfl (mv (U := Un) (v := .p (.int .u8) a0) rfl rfl)) (.cons (sok_run rfl rfl rfl (sok_cmp (U := Un) (rs := [(26, .p (.int .u8) a0)]) rfl rfl o0 (.int _ _ _) rfl)) (.cons (sok_pickF (U := Un) (rs := [(25, .p .bool false), (27, .p .bool ((a0 == 95) : Bool))]) rfl rfl o0 rfl o1) (.cons (mva (U := Un) (v := .p .bool ((a0 == 95) : Bool)) rfl rfl) .nil))))))))))))))))))))))))))) (by kernel_rfl) (by kernel_rfl) (by kernel_rfl) (Conv.refl (U := Un) _) ?_
          refine thenQ_normal ?_
          refine WpC.ret ?_
          have hq := Option.some.inj h
          subst hq
          exact ends_ret (retV_1 rfl (.head _)) ain_nil
  · replace h := ite_f hc1 h
    rcases bool_cases (decide (a0 ≥ 65)) with hc9 | hc9
    · replace h := ite_t hc9 h
      rcases bool_cases (decide (a0 ≤ 90)) with hc10 | hc10
      · replace h := ite_t hc10 h
        refine WpC.reg (U := Un) (st1 := ⟨[(2, .p .bool true)], []⟩) [2] [] hN (.cons (mv (U := Un) (v := .p (.int .u8) a0) rfl rfl) (.cons (sok_cmp (U := Un) (rs := [(3, .p (.int .u8) a0)]) rfl rfl o0 (.int _ _ _) rfl) (.cons (mv (U := Un) (v := .p .bool ((decide (a0 ≥ 97)) : Bool)) rfl rfl) (.cons (sok_skip rfl rfl hc1) (.cons (sok_skip rfl rfl hc1) (.cons (sok_pickF (U := Un) (rs := [(5, .p .bool ((decide (a0 ≥ 97)) : Bool))]) rfl rfl o0 hc1 (.bool _ _)) (.cons (mv (U := Un) (v := .p .bool false) rfl rfl) (.cons (sok_run rfl rfl rfl (mv (U := Un) (v := .p (.int .u8) a0) rfl rfl)) (.cons (sok_run rfl rfl rfl (sok_cmp (U := Un) (rs := [(10, .p (.int .u8) a0)]) rfl rfl o0 (.int _ _ _) rfl)) (.cons (sok_run rfl rfl rfl (mv (U := Un) (v := .p .bool ((decide (a0 ≥ 65)) : Bool)) rfl rfl)) (.cons (sok_run rfl rfl hc9 (mv (U := Un) (v := .p (.int .u8) a0) rfl rfl)) (.cons (sok_run rfl rfl hc9 (sok_cmp (U := Un) (rs := [(13, .p (.int .u8) a0)]) rfl rfl o0 (.int _ _ _) rfl)) (.cons (sok_run rfl rfl rfl (sok_pickT (U := Un) (rs := [(12, .p .bool ((decide (a0 ≥ 65)) : Bool)), (14, .p .bool ((decide (a0 ≤ 90)) : Bool))]) rfl rfl o0 hc9 o1)) (.cons (sok_pickF (U := Un) (rs := [(9, .p .bool false), (15, .p .bool ((decide (a0 ≤ 90)) : Bool))]) rfl rfl o0 rfl o1) (.cons (mv (U := Un) (v := .p .bool ((decide (a0 ≤ 90)) : Bool)) rfl rfl) (.cons (sok_skip rfl rfl hc10) (.cons (sok_skip rfl rfl hc10) (.cons (sok_skip rfl rfl hc10) (.cons (sok_skipU rfl rfl) (.cons (sok_skipU rfl rfl) (.cons (sok_skip rfl rfl hc10) (.cons (sok_pickT (U := Un) (rs := [(17, .p .bool ((decide (a0 ≤ 90)) : Bool))]) rfl rfl o0 hc10 (.bool _ _)) (.cons (mv (U := Un) (v := .p .bool true) rfl rfl) (.cons (sok_skip rfl rfl rfl) (.cons (sok_skip rfl rfl rfl) (.cons (sok_pickT (U := Un) (rs := [(25, .p .bool true)]) rfl rfl o0 rfl (.bool _ _)) (.cons (mva (U := Un) (v := .p .bool true) rfl rfl) .nil))))))))))))))))))))))))))) (by kernel_rfl) (by kernel_rfl) (by kernel_rfl) (Conv.refl (U := Un) _) ?_
        refine thenQ_normal ?_
        refine WpC.ret ?_
        have hq := Option.some.inj h
        subst hq
        exact ends_ret (retV_1 rfl (.head _)) ain_nil
      · replace h := ite_f hc10 h
        rcases bool_cases (decide (a0 ≥ 48)) with hc11 | hc11
        · replace h := ite_t hc11 h
          rcases bool_cases (decide (a0 ≤ 57)) with hc12 | hc12
          · replace h := ite_t hc12 h
            refine WpC.reg (U := Un) (st1 := ⟨[(2, .p .bool true)], []⟩) [2] [] hN (.cons (mv (U := Un) (v := .p (.int .u8) a0) rfl rfl) (.cons (sok_cmp (U := Un) (rs := [(3, .p (.int .u8) a0)]) rfl rfl o0 (.int _ _ _) rfl) (.cons (mv (U := Un) (v := .p .bool ((decide (a0 ≥ 97)) : Bool)) rfl rfl) (.cons (sok_skip rfl rfl hc1) (.cons (sok_skip rfl rfl hc1) (.cons (sok_pickF (U := Un) (rs := [(5, .p .bool ((decide (a0 ≥ 97)) : Bool))]) rfl rfl o0 hc1 (.bool _ _)) (.cons (mv (U := Un) (v := .p .bool false) rfl rfl) (.cons (sok_run rfl rfl rfl (mv (U := Un) (v := .p (.int .u8) a0) rfl rfl)) (.cons (sok_run rfl rfl rfl (sok_cmp (U := Un) (rs := [(10, .p (.int .u8) a0)]) rfl rfl o0 (.int _ _ _) rfl)) (.cons (sok_run rfl rfl rfl (mv (U := Un) (v := .p .bool ((decide (a0 ≥ 65)) : Bool)) rfl rfl)) (.cons (sok_run rfl rfl hc9 (mv (U := Un) (v := .p (.int .u8) a0) rfl rfl)) (.cons (sok_run rfl rfl hc9 (sok_cmp (U := Un) (rs := [(13, .p (.int .u8) a0)]) rfl rfl o0 (.int _ _ _) rfl)) (.cons (sok_run rfl rfl rfl (sok_pickT (U := Un) (rs := [(12, .p .bool ((decide (a0 ≥ 65)) : Bool)), (14, .p .bool ((decide (a0 ≤ 90)) : Bool))]) rfl rfl o0 hc9 o1)) (.cons (sok_pickF (U := Un) (rs := [(9, .p .bool false), (15, .p .bool ((decide (a0 ≤ 90)) : Bool))]) rfl rfl o0 rfl o1) (.cons (mv (U := Un) (v := .p .bool ((decide (a0 ≤ 90)) : Bool)) rfl rfl) (.cons (sok_run rfl rfl hc10 (mv (U := Un) (v := .p (.int .u8) a0) rfl rfl)) (.cons (sok_run rfl rfl hc10 (sok_cmp (U := Un) (rs := [(18, .p (.int .u8) a0)]) rfl rfl o0 (.int _ _ _) rfl)) (.cons (sok_run rfl rfl hc10 (mv (U := Un) (v := .p .bool ((decide (a0 ≥ 48)) : Bool)) rfl rfl)) (.cons (sok_run rfl rfl hc11 (mv (U := Un) (v := .p (.int .u8) a0) rfl rfl)) (.cons (sok_run rfl rfl hc11 (sok_cmp (U := Un) (rs := [(21, .p (.int .u8) a0)]) rfl rfl o0 (.int _ _ _) rfl)) (.cons (sok_run rfl rfl hc10 (sok_pickT (U := Un) (rs := [(20, .p .bool ((decide (a0 ≥ 48)) : Bool)), (22, .p .bool ((decide (a0 ≤ 57)) : Bool))]) rfl rfl o0 hc11 o1)) (.cons (sok_pickF (U := Un) (rs := [(17, .p .bool ((decide (a0 ≤ 90)) : Bool)), (23, .p .bool ((decide (a0 ≤ 57)) : Bool))]) rfl rfl o0 hc10 o1) (.cons (mv (U := Un) (v := .p .bool ((decide (a0 ≤ 57)) : Bool)) rfl rfl) (.cons (sok_skip rfl rfl hc12) (.cons (sok_skip rfl rfl hc12) (.cons (sok_pickT (U := Un) (rs := [(25, .p .bool ((decide (a0 ≤ 57)) : Bool))]) rfl rfl o0 hc12 (.bool _ _)) (.cons (mva (U := Un) (v := .p .bool true) rfl rfl) .nil))))))))))))))))))))))))))) (by kernel_rfl) (by kernel_rfl) (by kernel_rfl) (Conv.refl (U := Un) _) ?_
            refine thenQ_normal ?_
            refine WpC.ret ?_
            have hq := Option.some.inj h
            subst hq
            exact ends_ret (retV_1 rfl (.head _)) ain_nil
          · replace h := ite_f hc12 h
            refine WpC.reg (U := Un) (st1 := ⟨[(2, .p .bool ((a0 == 95) : Bool))], []⟩) [2] [] hN (.cons (mv (U := Un) (v := .p (.int .u8) a0) rfl rfl) (.cons (sok_cmp (U := Un) (rs := [(3, .p (.int .u8) a0)]) rfl rfl o0 (.int _ _ _) rfl) (.cons (mv (U := Un) (v := .p .bool ((decide (a0 ≥ 97)) : Bool)) rfl rfl) (.cons (sok_skip rfl rfl hc1) (.cons (sok_skip rfl rfl hc1) (.cons (sok_pickF (U := Un) (rs := [(5, .p .bool ((decide (a0 ≥ 97)) : Bool))]) rfl rfl o0 hc1 (.bool _ _)) (.cons (mv (U := Un) (v := .p .bool false) rfl rfl) (.cons (sok_run rfl rfl rfl (mv (U := Un) (v := .p (.int .u8) a0) rfl rfl)) (.cons (sok_run rfl rfl rfl (sok_cmp (U := Un) (rs := [(10, .p (.int .u8) a0)]) rfl rfl o0 (.int _ _ _) rfl)) (.cons (sok_run rfl rfl rfl (mv (U := Un) (v := .p .bool ((decide (a0 ≥ 65)) : Bool)) rfl rfl)) (.cons (sok_run rfl rfl hc9 (mv (U := Un) (v := .p (.int .u8) a0) rfl rfl)) (.cons (sok_run rfl rfl hc9 (sok_cmp (U := Un) (rs := [(13, .p (.int .u8) a0)]) rfl rfl o0 (.int _ _ _) rfl)) (.cons (sok_run rfl rfl rfl (sok_pickT (U := Un) (rs := [(12, .p .bool ((decide (a0 ≥ 65)) : Bool)), (14, .p .bool ((decide (a0 ≤ 90)) : Bool))]) rfl rfl o0 hc9 o1)) (.cons (sok_pickF (U := Un) (rs := [(9, .p .bool false), (15, .p .bool ((decide (a0 ≤ 90)) : Bool))]) rfl rfl o0 rfl o1) (.cons (mv (U := Un) (v := .p .bool ((decide (a0 ≤ 90)) : Bool)) rfl rfl) (.cons (sok_run rfl rfl hc10 (mv (U := Un) (v := .p (.int .u8) a0) rfl rfl)) (.cons (sok_run rfl rfl hc10 (sok_cmp (U := Un) (rs := [(18, .p (.int .u8) a0)]) rfl rfl o0 (.int _ _ _) rfl)) (.cons (sok_run rfl rfl hc10 (mv (U := Un) (v := .p .bool ((decide (a0 ≥ 48)) : Bool)) rfl rfl)) (.cons (sok_run rfl rfl hc11 (mv (U := Un) (v := .p (.int .u8) a0) rfl rfl)) (.cons (sok_run rfl rfl hc11 (sok_cmp (U := Un) (rs := [(21, .p (.int .u8) a0)]) rfl rfl o0 (.int _ _ _) rfl)) (.cons (sok_run rfl rfl hc10 (sok_pickT (U := Un) (rs := [(20, .p .bool ((decide (a0 ≥ 48)) : Bool)), (22, .p .bool ((decide (a0 ≤ 57)) : Bool))]) rfl rfl o0 hc11 o1)) (.cons (sok_pickF (U := Un) (rs := [(17, .p .bool ((decide (a0 ≤ 90)) : Bool)), (23, .p .bool ((decide (a0 ≤ 57)) : Bool))]) rfl rfl o0 hc10 o1) (.cons (mv (U := Un) (v := .p .bool ((decide (a0 ≤ 57)) : Bool)) rfl rfl) (.cons (sok_run rfl rfl hc12 (mv (U := Un) (v := .p (.int .u8) a0) rfl rfl)) (.cons (sok_run rfl rfl hc12 (sok_cmp (U := Un) (rs := [(26, .p (.int .u8) a0)]) rfl rfl o0 (.int _ _ _) rfl)) (.cons (sok_pickF (U := Un) (rs := [(25, .p .bool ((decide (a0 ≤ 57)) : Bool)), (27, .p .bool ((a0 == 95) : Bool))]) rfl rfl o0 hc12 o1) (.cons (mva (U := Un) (v := .p .bool ((a0 == 95) : Bool)) rfl rfl) .nil))))))))))))))))))))))))))) (by kernel_rfl) (by kernel_rfl) (by kernel_rfl) (Conv.refl (U := Un) _) ?_
            refine thenQ_normal ?_
            refine WpC.ret ?_
            have hq := Option.some.inj h
            subst hq
            exact ends_ret (retV_1 rfl (.head _)) ain_nil
        · replace h := ite_f hc11 h
          refine WpC.reg (U := Un) (st1 := ⟨[(2, .p .bool ((a0 == 95) : Bool))], []⟩) [2] [] hN (.cons (mv (U := Un) (v := .p (.int .u8) a0) rfl rfl) (.cons (sok_cmp (U := Un) (rs := [(3, .p (.int .u8) a0)]) rfl rfl o0 (.int _ _ _) rfl) (.cons (mv (U := Un) (v := .p .bool ((decide (a0 ≥ 97)) : Bool)) rfl rfl) (.cons (sok_skip rfl rfl hc1) (.cons (sok_skip rfl rfl hc1) (.cons (sok_pickF (U := Un) (rs := [(5, .p .bool ((decide (a0 ≥ 97)) : Bool))]) rfl rfl o0 hc1 (.bool _ _)) (.cons (mv (U := Un) (v := .p .bool false) rfl rfl) (.cons (sok_run rfl rfl rfl (mv (U := Un) (v := .p (.int .u8) a0) rfl rfl)) (.cons (sok_run rfl rfl rfl (sok_cmp (U := Un) (rs := [(10, .p (.int .u8) a0)]) rfl rfl o0 (.int _ _ _) rfl)) (.cons (sok_run rfl rfl rfl (mv (U := Un) (v := .p .bool ((decide (a0 ≥ 65)) : Bool)) rfl rfl)) (.cons (sok_run rfl rfl hc9 (mv (U := Un) (v := .p (.int .u8) a0) rfl rfl)) (.cons (sok_run rfl rfl hc9 (sok_cmp (U := Un) (rs := [(13, .p (.int .u8) a0)]) rfl rfl o0 (.int _ _ _) rfl)) (.cons (sok_run rfl rfl rfl (sok_pickT (U := Un) (rs := [(12, .p .bool ((decide (a0 ≥ 65)) : Bool)), (14, .p .bool ((decide (a0 ≤ 90)) : Bool))]) rfl rfl o0 hc9 o1)) (.cons (sok_pickF (U := Un) (rs := [(9, .p .bool false), (15, .p .bool ((decide (a0 ≤ 90)) : Bool))]) rfl rfl o0 rfl o1) (.cons (mv (U := Un) (v := .p .bool ((decide (a0 ≤ 90)) : Bool)) rfl rfl) (.cons (sok_run rfl rfl hc10 (mv (U := Un) (v := .p (.int .u8) a0) rfl rfl)) (.cons (sok_run rfl rfl hc10 (sok_cmp (U := Un) (rs := [(18, .p (.int .u8) a0)]) rfl rfl o0 (.int _ _ _) rfl)) (.cons (sok_run rfl rfl hc10 (mv (U := Un) (v := .p .bool ((decide (a0 ≥ 48)) : Bool)) rfl rfl)) (.cons (sok_skip rfl rfl hc11) (.cons (sok_skip rfl rfl hc11) (.cons (sok_run rfl rfl hc10 (sok_pickF (U := Un) (rs := [(20, .p .bool ((decide (a0 ≥ 48)) : Bool))]) rfl rfl o0 hc11 (.bool _ _))) (.cons (sok_pickF (U := Un) (rs := [(17, .p .bool ((decide (a0 ≤ 90)) : Bool)), (23, .p .bool false)]) rfl rfl o0 hc10 o1) (.cons (mv (U := Un) (v := .p .bool false) rfl rfl) (.cons (sok_run rfl rfl rfl (mv (U := Un) (v := .p (.int .u8) a0) rfl rfl)) (.cons (sok_run rfl rfl rfl (sok_cmp (U := Un) (rs := [(26, .p (.int .u8) a0)]) rfl rfl o0 (.int _ _ _) rfl)) (.cons (sok_pickF (U := Un) (rs := [(25, .p .bool false), (27, .p .bool ((a0 == 95) : Bool))]) rfl rfl o0 rfl o1) (.cons (mva (U := Un) (v := .p .bool ((a0 == 95) : Bool)) rfl rfl) .nil))))))))))))))))))))))))))) (by kernel_rfl) (by kernel_rfl) (by kernel_rfl) (Conv.refl (U := Un) _) ?_
          refine thenQ_normal ?_
          refine WpC.ret ?_
          have hq := Option.some.inj h
          subst hq
          exact ends_ret (retV_1 rfl (.head _)) ain_nil
    · replace h := ite_f hc9 h
      rcases bool_cases (decide (a0 ≥ 48)) with hc13 | hc13
      · replace h := ite_t hc13 h
        rcases bool_cases (decide (a0 ≤ 57)) with hc14 | hc14
        · replace h := ite_t hc14 h
          refine WpC.reg (U := Un) (st1 := ⟨[(2, .p .bool true)], []⟩) [2] [] hN (.cons (mv (U := Un) (v := .p (.int .u8) a0) rfl rfl) (.cons (sok_cmp (U := Un) (rs := [(3, .p (.int .u8) a0)]) rfl rfl o0 (.int _ _ _) rfl) (.cons (mv (U := Un) (v := .p .bool ((decide (a0 ≥ 97)) : Bool)) rfl rfl) (.cons (sok_skip rfl rfl hc1) (.cons (sok_skip rfl rfl hc1) (.cons (sok_pickF (U := Un) (rs := [(5, .p .bool ((decide (a0 ≥ 97)) : Bool))]) rfl rfl o0 hc1 (.bool _ _)) (.cons (mv (U := Un) (v := .p .bool false) rfl rfl) (.cons (sok_run rfl rfl rfl (mv (U := Un) (v := .p (.int .u8) a0) rfl rfl)) (.cons (sok_run rfl rfl rfl (sok_cmp (U := Un) (rs := [(10, .p (.int .u8) a0)]) rfl rfl o0 (.int _ _ _) rfl)) (.cons (sok_run rfl rfl rfl (mv (U := Un) (v := .p .bool ((decide (a0 ≥ 65)) : Bool)) rfl rfl)) (.cons (sok_skip rfl rfl hc9) (.cons (sok_skip rfl rfl hc9) (.cons (sok_run rfl rfl rfl (sok_pickF (U := Un) (rs := [(12, .p .bool ((decide (a0 ≥ 65)) : Bool))]) rfl rfl o0 hc9 (.bool _ _))) (.cons (sok_pickF (U := Un) (rs := [(9, .p .bool false), (15, .p .bool false)]) rfl rfl o0 rfl o1) (.cons (mv (U := Un) (v := .p .bool false) rfl rfl) (.cons (sok_run rfl rfl rfl (mv (U := Un) (v := .p (.int .u8) a0) rfl rfl)) (.cons (sok_run rfl rfl rfl (sok_cmp (U := Un) (rs := [(18, .p (.int .u8) a0)]) rfl rfl o0 (.int _ _ _) rfl)) (.cons (sok_run rfl rfl rfl (mv (U := Un) (v := .p .bool ((decide (a0 ≥ 48)) : Bool)) rfl rfl)) (.cons (sok_run rfl rfl hc13 (mv (U := Un) (v := .p (.int .u8) a0) rfl rfl)) (.cons (sok_run rfl rfl hc13 (sok_cmp (U := Un) (rs := [(21, .p (.int .u8) a0)]) rfl rfl o0 (.int _ _ _) rfl)) (.cons (sok_run rfl rfl rfl (sok_pickT (U := Un) (rs := [(20, .p .bool ((decide (a0 ≥ 48)) : Bool)), (22, .p .bool ((decide (a0 ≤ 57)) : Bool))]) rfl rfl o0 hc13 o1)) (.cons (sok_pickF (U := Un) (rs := [(17, .p .bool false), (23, .p .bool ((decide (a0 ≤ 57)) : Bool))]) rfl rfl o0 rfl o1) (.cons (mv (U := Un) (v := .p .bool ((decide (a0 ≤ 57)) : Bool)) rfl rfl) (.cons (sok_skip rfl rfl hc14) (.cons (sok_skip rfl rfl hc14) (.cons (sok_pickT (U := Un) (rs := [(25, .p .bool ((decide (a0 ≤ 57)) : Bool))]) rfl rfl o0 hc14 (.bool _ _)) (.cons (mva (U := Un) (v := .p .bool true) rfl rfl) .nil))))))))))))))))))))))))))) (by kernel_rfl) (by kernel_rfl) (by kernel_rfl) (Conv.refl (U := Un) _) ?_
          refine thenQ_normal ?_
          refine WpC.ret ?_
          have hq := Option.some.inj h
          subst hq
          exact ends_ret (retV_1 rfl (.head _)) ain_nil
        · replace h := ite_f hc14 h
          refine WpC.reg (U := Un) (st1 := ⟨[(2, .p .bool ((a0 == 95) : Bool))], []⟩) [2] [] hN (.cons (mv (U := Un) (v := .p (.int .u8) a0) rfl rfl) (.cons (sok_cmp (U := Un) (rs := [(3, .p (.int .u8) a0)]) rfl rfl o0 (.int _ _ _) rfl) (.cons (mv (U := Un) (v := .p .bool ((decide (a0 ≥ 97)) : Bool)) rfl rfl) (.cons (sok_skip rfl rfl hc1) (.cons (sok_skip rfl rfl hc1) (.cons (sok_pickF (U := Un) (rs := [(5, .p .bool ((decide (a0 ≥ 97)) : Bool))]) rfl rfl o0 hc1 (.bool _ _)) (.cons (mv (U := Un) (v := .p .bool false) rfl rfl) (.cons (sok_run rfl rfl rfl (mv (U := Un) (v := .p (.int .u8) a0) rfl rfl)) (.cons (sok_run rfl rfl rfl (sok_cmp (U := Un) (rs := [(10, .p (.int .u8) a0)]) rfl rfl o0 (.int _ _ _) rfl)) (.cons (sok_run rfl rfl rfl (mv (U := Un) (v := .p .bool ((decide (a0 ≥ 65)) : Bool)) rfl rfl)) (.cons (sok_skip rfl rfl hc9) (.cons (sok_skip rfl rfl hc9) (.cons (sok_run rfl rfl rfl (sok_pickF (U := Un) (rs := [(12, .p .bool ((decide (a0 ≥ 65)) : Bool))]) rfl rfl o0 hc9 (.bool _ _))) (.cons (sok_pickF (U := Un) (rs := [(9, .p .bool false), (15, .p .bool false)]) rfl rfl o0 rfl o1) (.cons (mv (U := Un) (v := .p .bool false) rfl rfl) (.cons (sok_run rfl rfl rfl (mv (U := Un) (v := .p (.int .u8) a0) rfl rfl)) (.cons (sok_run rfl rfl rfl (sok_cmp (U := Un) (rs := [(18, .p (.int .u8) a0)]) rfl rfl o0 (.int _ _ _) rfl)) (.cons (sok_run rfl rfl rfl (mv (U := Un) (v := .p .bool ((decide (a0 ≥ 48)) : Bool)) rfl rfl)) (.cons (sok_run rfl rfl hc13 (mv (U := Un) (v := .p (.int .u8) a0) rfl rfl)) (.cons (sok_run rfl rfl hc13 (sok_cmp (U := Un) (rs := [(21, .p (.int .u8) a0)]) rfl rfl o0 (.int _ _ _) rfl)) (.cons (sok_run rfl rfl rfl (sok_pickT (U := Un) (rs := [(20, .p .bool ((decide (a0 ≥ 48)) : Bool)), (22, .p .bool ((decide (a0 ≤ 57)) : Bool))]) rfl rfl o0 hc13 o1)) (.cons (sok_pickF (U := Un) (rs := [(17, .p .bool false), (23, .p .bool ((decide (a0 ≤ 57)) : Bool))]) rfl rfl o0 rfl o1) (.cons (mv (U := Un) (v := .p .bool ((decide (a0 ≤ 57)) : Bool)) rfl rfl) (.cons (sok_run rfl rfl hc14 (mv (U := Un) (v := .p (.int .u8) a0) rfl rfl)) (.cons (sok_run rfl rfl hc14 (sok_cmp (U := Un) (rs := [(26, .p (.int .u8) a0)]) rfl rfl o0 (.int _ _ _) rfl)) (.cons (sok_pickF (U := Un) (rs := [(25, .p .bool ((decide (a0 ≤ 57)) : Bool)), (27, .p .bool ((a0 == 95) : Bool))]) rfl rfl o0 hc14 o1) (.cons (mva (U := Un) (v := .p .bool ((a0 == 95) : Bool)) rfl rfl) .nil))))))))))))))))))))))))))) (by kernel_rfl) (by kernel_rfl) (by kernel_rfl) (Conv.refl (U := Un) _) ?_
          refine thenQ_normal ?_
          refine WpC.ret ?_
          have hq := Option.some.inj h
          subst hq
          exact ends_ret (retV_1 rfl (.head _)) ain_nil
      · replace h := ite_f hc13 h
        refine WpC.reg (U := Un) (st1 := ⟨[(2, .p .bool ((a0 == 95) : Bool))], []⟩) [2] [] hN (.cons (mv (U := Un) (v := .p (.int .u8) a0) rfl rfl) (.cons (sok_cmp (U := Un) (rs := [(3, .p (.int .u8) a0)]) rfl rfl o0 (.int _ _ _) rfl) (.cons (mv (U := Un) (v := .p .bool ((decide (a0 ≥ 97)) : Bool)) rfl rfl) (.cons (sok_skip rfl rfl hc1) (.cons (sok_skip rfl rfl hc1) (.cons (sok_pickF (U := Un) (rs := [(5, .p .bool ((decide (a0 ≥ 97)) : Bool))]) rfl rfl o0 hc1 (.bool _ _)) (.cons (mv (U := Un) (v := .p .bool false) rfl rfl) (.cons (sok_run rfl rfl rfl (mv (U := Un) (v := .p (.int .u8) a0) rfl rfl)) (.cons (sok_run rfl rfl rfl (sok_cmp (U := Un) (rs := [(10, .p (.int .u8) a0)]) rfl rfl o0 (.int _ _ _) rfl)) (.cons (sok_run rfl rfl rfl (mv (U := Un) (v := .p .bool ((decide (a0 ≥ 65)) : Bool)) rfl rfl)) (.cons (sok_skip rfl rfl hc9) (.cons (sok_skip rfl rfl hc9) (.cons (sok_run rfl rfl rfl (sok_pickF (U := Un) (rs := [(12, .p .bool ((decide (a0 ≥ 65)) : Bool))]) rfl rfl o0 hc9 (.bool _ _))) (.cons (sok_pickF (U := Un) (rs := [(9, .p .bool false), (15, .p .bool false)]) rfl rfl o0 rfl o1) (.cons (mv (U := Un) (v := .p .bool false) rfl rfl) (.cons (sok_run rfl rfl rfl (mv (U := Un) (v := .p (.int .u8) a0) rfl rfl)) (.cons (sok_run rfl rfl rfl (sok_cmp (U := Un) (rs := [(18, .p (.int .u8) a0)]) rfl rfl o0 (.int _ _ _) rfl)) (.cons (sok_run rfl rfl rfl (mv (U := Un) (v := .p .bool ((decide (a0 ≥ 48)) : Bool)) rfl rfl)) (.cons (sok_skip rfl rfl hc13) (.cons (sok_skip rfl rfl hc13) (.cons (sok_run rfl rfl rfl (sok_pickF (U := Un) (rs := [(20, .p .bool ((decide (a0 ≥ 48)) : Bool))]) rfl rfl o0 hc13 (.bool _ _))) (.cons (sok_pickF (U := Un) (rs := [(17, .p .bool false), (23, .p .bool false)]) rfl rfl o0 rfl o1) (.cons (mv (U := Un) (v := .p .bool false) rfl rfl) (.cons (sok_run rfl rfl rfl (mv (U := Un) (v := .p (.int .u8) a0) rfl rfl)) (.cons (sok_run rfl rfl rfl (sok_cmp (U := Un) (rs := [(26, .p (.int .u8) a0)]) rfl rfl o0 (.int _ _ _) rfl)) (.cons (sok_pickF (U := Un) (rs := [(25, .p .bool false), (27, .p .bool ((a0 == 95) : Bool))]) rfl rfl o0 rfl o1) (.cons (mva (U := Un) (v := .p .bool ((a0 == 95) : Bool)) rfl rfl) .nil))))))))))))))))))))))))))) (by kernel_rfl) (by kernel_rfl) (by kernel_rfl) (Conv.refl (U := Un) _) ?_
        refine thenQ_normal ?_
        refine WpC.ret ?_
        have hq := Option.some.inj h
        subst hq
        exact ends_ret (retV_1 rfl (.head _)) ain_nil

end Go.Proofs.YtnbnfjgedinlbabDoor
