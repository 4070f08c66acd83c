/- A part of the proof of a given law: LBC2. Own work, printed in part by a program of mine. -/
import Derived.Test.YtnbnfjgedinlbabDoorK3LBC1
namespace Go.Proofs.YtnbnfjgedinlbabDoor
open Go Go.AM
set_option linter.unusedVariables false
set_option linter.unusedSimpArgs false
set_option maxRecDepth 100000
theorem lex_inside.ok (O : Out) (hO : GOkL O) (k : Nat) (a0 : Int) (out : Bool) (h : lex_inside.f k a0 = some out) : COk Un O Tryd.prog 91 { ar := [.p (.int .u8) a0], r := .p .bool out } := by
  refine cok_of_wp Tryd.func91 rfl (k := 9) rfl (Nat.le_of_ble_eq_true rfl) (namesOk_pure rfl rfl rfl rfl) ?_
  intro B hN
  refine WpC.conv (Conv.keep (U := Un) (b := ⟨[(0, .p (.int .u8) a0)], []⟩) [0] [] (by kernel_rfl)) ?_
  unfold lex_inside.f at h
  refine WpC.seq ?_
  refine WpC.reg (U := Un) (st1 := ⟨[(0, .p (.int .u8) a0)], []⟩) [0] [] hN (.cons (sok_move (U := Un) (rs := []) rfl (.inr rfl) (.bool _ _)) .nil) (by kernel_rfl) (by kernel_rfl) (by kernel_rfl) (Conv.refl (U := Un) _) ?_
  refine thenQ_normal ?_
  refine WpC.seq ?_
  rcases bool_cases (a0 != 123) with hc1 | hc1
  · replace h := ite_t hc1 h
    refine WpC.reg (U := Un) (st1 := ⟨[(2, .p .bool ((a0 != 125) : Bool))], []⟩) [2] [] hN (.cons (mv (U := Un) (v := .p (.int .u8) a0) rfl rfl) (.cons (sok_cmp (U := Un) (rs := [(3, .p (.int .u8) a0)]) rfl rfl o0 (.int _ _ _) rfl) (.cons (mv (U := Un) (v := .p .bool ((a0 != 123) : Bool)) rfl rfl) (.cons (sok_run rfl rfl hc1 (mv (U := Un) (v := .p (.int .u8) a0) rfl rfl)) (.cons (sok_run rfl rfl hc1 (sok_cmp (U := Un) (rs := [(6, .p (.int .u8) a0)]) rfl rfl o0 (.int _ _ _) rfl)) (.cons (sok_pickT (U := Un) (rs := [(5, .p .bool ((a0 != 123) : Bool)), (7, .p .bool ((a0 != 125) : Bool))]) rfl rfl o0 hc1 o1) (.cons (mva (U := Un) (v := .p .bool ((a0 != 125) : Bool)) rfl rfl) .nil))))))) (by kernel_rfl) (by kernel_rfl) (by kernel_rfl) (Conv.refl (U := Un) _) ?_
    refine thenQ_normal ?_
    refine WpC.ret ?_
    have hq := Option.some.inj h
    subst hq
    exact ends_ret (retV_1 rfl (.head _)) ain_nil
  · replace h := ite_f hc1 h
    refine WpC.reg (U := Un) (st1 := ⟨[(2, .p .bool false)], []⟩) [2] [] hN (.cons (mv (U := Un) (v := .p (.int .u8) a0) rfl rfl) (.cons (sok_cmp (U := Un) (rs := [(3, .p (.int .u8) a0)]) rfl rfl o0 (.int _ _ _) rfl) (.cons (mv (U := Un) (v := .p .bool ((a0 != 123) : Bool)) rfl rfl) (.cons (sok_skip rfl rfl hc1) (.cons (sok_skip rfl rfl hc1) (.cons (sok_pickF (U := Un) (rs := [(5, .p .bool ((a0 != 123) : Bool))]) rfl rfl o0 hc1 (.bool _ _)) (.cons (mva (U := Un) (v := .p .bool false) rfl rfl) .nil))))))) (by kernel_rfl) (by kernel_rfl) (by kernel_rfl) (Conv.refl (U := Un) _) ?_
    refine thenQ_normal ?_
    refine WpC.ret ?_
    have hq := Option.some.inj h
    subst hq
    exact ends_ret (retV_1 rfl (.head _)) ain_nil

theorem lex_run_m3.ok (O : Out) (hO : GOkL O) (k : Nat) (a0 : List UInt8) (a1 : Int) (out : Int) (h : lex_run_m3.f k a0 a1 = some out) : COk Un O Tryd.prog 66 { ar := [.p .str a0, .p I6 a1, .clo 91 []], r := .p I6 out } := by
  refine cok_of_wp Tryd.func66 rfl (k := 26) rfl (Nat.le_of_ble_eq_true rfl) (namesOk_pure rfl rfl rfl rfl) ?_
  intro B hN
  refine WpC.conv (Conv.keep (U := Un) (b := ⟨[(0, .p .str a0), (1, .p I6 a1), (2, .clo 91 [])], []⟩) [0, 1, 2] [] (by kernel_rfl)) ?_
  unfold lex_run_m3.f at h
  refine WpC.seq ?_
  refine WpC.reg (U := Un) (st1 := ⟨[(0, .p .str a0), (1, .p I6 a1), (2, .clo 91 [])], []⟩) [0, 1, 2] [] hN (.cons (sok_move (U := Un) (rs := []) rfl (.inr rfl) (.int _ _ _)) .nil) (by kernel_rfl) (by kernel_rfl) (by kernel_rfl) (Conv.refl (U := Un) _) ?_
  refine thenQ_normal ?_
  refine WpC.seq ?_
  refine WpC.reg (U := Un) (st1 := ⟨[(0, .p .str a0), (1, .p I6 a1), (2, .clo 91 []), (7, .p I6 (0 : Int))], []⟩) [0, 1, 2, 7] [] hN (.cons (sok_move (U := Un) (rs := []) rfl (.inr rfl) (.int _ _ _)) .nil) (by kernel_rfl) (by kernel_rfl) (by kernel_rfl) (Conv.refl (U := Un) _) ?_
  refine thenQ_normal ?_
  refine WpC.seqJ (U := Un) (fun st' => ∃ v1 : Int, lex_run_m3.j2 k v1 = some out ∧ st' = ⟨[(7, .p I6 v1)], []⟩) ?_ ?_
  · refine WpC.block ?_
    obtain ⟨o6, hlo6, h⟩ := bind_some h
    have hout7 := h
    clear h
    refine WpC.loop (U := Un) (fun n st' => ∃ v3 : Int, lex_run_m3.l4 k a0 a1 n v3 = some o6 ∧ st' = ⟨[(0, .p .str a0), (1, .p I6 a1), (2, .clo 91 []), (7, .p I6 v3)], []⟩) k ⟨0, hlo6, rfl⟩ ?_
    clear hlo6
    rintro (_ | n) _ ⟨v3, h, rfl⟩
    · cases h
    · rw [lex_run_m3.l4] at h
      refine WpC.seqJ (U := Un) (fun st' => lex_run_m3.j8 k (lex_run_m3.l4 k a0 a1 n) a0 a1 v3 = some o6 ∧ st' = ⟨[(0, .p .str a0), (1, .p I6 a1), (2, .clo 91 []), (7, .p I6 v3)], []⟩) ?_ ?_
      · refine WpC.seqJ (U := Un) (fun st' => ∃ v9 : Bool, lex_run_m3.j11 k (lex_run_m3.l4 k a0 a1 n) a0 a1 v3 v9 = some o6 ∧ st' = ⟨[(0, .p .str a0), (1, .p I6 a1), (2, .clo 91 []), (7, .p I6 v3), (22, .p .bool v9)], []⟩) ?_ ?_
        · rcases bool_cases (decide ((IntKind.i64.wrap (a1 + v3)) < (a0.length : Int))) with hc12 | hc12
          · replace h := ite_t hc12 h
            obtain ⟨v13, hv13, h⟩ := bind_some h
            obtain ⟨v14, hv14, h⟩ := bind_some h
            refine WpC.reg (U := Un) (st1 := ⟨[(0, .p .str a0), (1, .p I6 a1), (2, .clo 91 []), (7, .p I6 v3), (22, .p .bool v14)], []⟩) [0, 1, 2, 7, 22] [] hN (.cons (mv (U := Un) (v := .p I6 a1) rfl rfl) (.cons (mv (U := Un) (v := .p I6 v3) rfl rfl) (.cons (sok_arith (U := Un) (rs := [(8, .p I6 a1), (9, .p I6 v3)]) rfl rfl o0 o1 rfl) (.cons (mv (U := Un) (v := .p .str a0) rfl rfl) (.cons (sok_lenS (U := Un) (rs := [(11, .p .str a0)]) rfl rfl Tryd.underlying9 o0) (.cons (sok_cmp (U := Un) (rs := [(10, .p I6 ((IntKind.i64.wrap (a1 + v3)) : Int)), (12, .p I6 ((a0.length : Int) : Int))]) rfl rfl o0 o1 rfl) (.cons (mv (U := Un) (v := .p .bool ((decide ((IntKind.i64.wrap (a1 + v3)) < (a0.length : Int))) : Bool)) rfl rfl) (.cons (sok_run rfl rfl hc12 (mv (U := Un) (v := .clo 91 []) rfl rfl)) (.cons (sok_run rfl rfl hc12 (mv (U := Un) (v := .p .str a0) rfl rfl)) (.cons (sok_run rfl rfl hc12 (mv (U := Un) (v := .p I6 a1) rfl rfl)) (.cons (sok_run rfl rfl hc12 (mv (U := Un) (v := .p I6 v3) rfl rfl)) (.cons (sok_run rfl rfl hc12 (sok_arith (U := Un) (rs := [(17, .p I6 a1), (18, .p I6 v3)]) rfl rfl o0 o1 rfl)) (.cons (sok_run rfl rfl hc12 (sok_indexS (U := Un) (rs := [(16, .p .str a0), (19, .p I6 ((IntKind.i64.wrap (a1 + v3)) : Int))]) rfl rfl Tryd.underlying9 o0 o1 hv13)) (.cons (sok_run rfl rfl hc12 (sok_callV (U := Un) (rs := [(20, .p (.int .u8) ((v13.toNat : Int) : Int)), (15, .clo 91 [])]) (vw := []) rfl rfl (.clo o1) hb_91 (lex_inside.ok O hO k (v13.toNat : Int) v14 hv14) (.cons o0 .nil) (.cons (.same _) .nil) (by simp) (.inl rfl))) (.cons (sok_pickT (U := Un) (rs := [(14, .p .bool ((decide ((IntKind.i64.wrap (a1 + v3)) < (a0.length : Int))) : Bool)), (21, .p .bool v14)]) rfl rfl o0 hc12 o1) .nil))))))))))))))) (by kernel_rfl) (by kernel_rfl) (by kernel_rfl) (Conv.refl (U := Un) _) ?_
            refine thenQ_normal ?_
            exact ⟨v14, h, rfl⟩
          · replace h := ite_f hc12 h
            refine WpC.reg (U := Un) (st1 := ⟨[(0, .p .str a0), (1, .p I6 a1), (2, .clo 91 []), (7, .p I6 v3), (22, .p .bool false)], []⟩) [0, 1, 2, 7, 22] [] hN (.cons (mv (U := Un) (v := .p I6 a1) rfl rfl) (.cons (mv (U := Un) (v := .p I6 v3) rfl rfl) (.cons (sok_arith (U := Un) (rs := [(8, .p I6 a1), (9, .p I6 v3)]) rfl rfl o0 o1 rfl) (.cons (mv (U := Un) (v := .p .str a0) rfl rfl) (.cons (sok_lenS (U := Un) (rs := [(11, .p .str a0)]) rfl rfl Tryd.underlying9 o0) (.cons (sok_cmp (U := Un) (rs := [(10, .p I6 ((IntKind.i64.wrap (a1 + v3)) : Int)), (12, .p I6 ((a0.length : Int) : Int))]) rfl rfl o0 o1 rfl) (.cons (mv (U := Un) (v := .p .bool ((decide ((IntKind.i64.wrap (a1 + v3)) < (a0.length : Int))) : Bool)) rfl rfl) (.cons (sok_skip rfl rfl hc12) (.cons (sok_skip rfl rfl hc12) (.cons (sok_skip rfl rfl hc12) (.cons (sok_skip rfl rfl hc12) (.cons (sok_skip rfl rfl hc12) (.cons (sok_skip rfl rfl hc12) (.cons (sok_skip rfl rfl hc12) (.cons (sok_pickF (U := Un) (rs := [(14, .p .bool ((decide ((IntKind.i64.wrap (a1 + v3)) < (a0.length : Int))) : Bool))]) rfl rfl o0 hc12 (.bool _ _)) .nil))))))))))))))) (by kernel_rfl) (by kernel_rfl) (by kernel_rfl) (Conv.refl (U := Un) _) ?_
            refine thenQ_normal ?_
            exact ⟨false, h, rfl⟩
        · rintro _ ⟨v9, h, rfl⟩
          unfold lex_run_m3.j11 at h
          refine WpC.cond (U := Un) (b := v9) (.tmp (.tail _ (.tail _ (.tail _ (.tail _ (.head _)))))) (fun hc10 => ?_) (fun hc10 => ?_)
          · replace h := ite_t hc10 h
            refine WpC.conv (Conv.keep (U := Un) (b := ⟨[(0, .p .str a0), (1, .p I6 a1), (2, .clo 91 []), (7, .p I6 v3)], []⟩) [0, 1, 2, 7] [] (by kernel_rfl)) (WpC.skip ?_)
            refine thenQ_normal ?_
            exact ⟨h, rfl⟩
          · replace h := ite_f hc10 h
            refine WpC.conv (Conv.keep (U := Un) (b := ⟨[(7, .p I6 v3)], []⟩) [7] [] (by kernel_rfl)) (WpC.exit ?_)
            refine thenQ_exit ?_
            have hq := Option.some.inj h
            subst hq
            refine thenQ_exit ?_
            have h := hout7
            refine blockQ_hit ?_
            refine thenQ_normal ?_
            exact ⟨v3, h, rfl⟩
      · rintro _ ⟨h, rfl⟩
        unfold lex_run_m3.j8 at h
        refine WpC.block ?_
        refine WpC.reg (U := Un) (st1 := ⟨[(0, .p .str a0), (1, .p I6 a1), (2, .clo 91 []), (7, .p I6 ((IntKind.i64.wrap (v3 + 1)) : Int))], []⟩) [0, 1, 2, 7] [] hN (.cons (mv (U := Un) (v := .p I6 v3) rfl rfl) (.cons (sok_arith (U := Un) (rs := [(23, .p I6 v3)]) rfl rfl o0 (.int _ _ _) rfl) (.cons (mva (U := Un) (v := .p I6 ((IntKind.i64.wrap (v3 + 1)) : Int)) rfl rfl) .nil))) (by kernel_rfl) (by kernel_rfl) (by kernel_rfl) (Conv.refl (U := Un) _) ?_
        refine blockQ_normal ?_
        refine thenQ_normal ?_
        exact ⟨n, Nat.lt_succ_self n, (IntKind.i64.wrap (v3 + 1)), h, rfl⟩
  · rintro _ ⟨v1, h, rfl⟩
    unfold lex_run_m3.j2 at h
    refine WpC.seq ?_
    refine WpC.reg (U := Un) (st1 := ⟨[(6, .p I6 v1)], []⟩) [6] [] hN (.cons (mv (U := Un) (v := .p I6 v1) rfl rfl) (.cons (mva (U := Un) (v := .p I6 v1) rfl rfl) .nil)) (by kernel_rfl) (by kernel_rfl) (by kernel_rfl) (Conv.refl (U := Un) _) ?_
    refine thenQ_normal ?_
    refine WpC.ret ?_
    have hq := Option.some.inj h
    subst hq
    exact ends_ret (retV_1 rfl (.head _)) ain_nil

theorem lex_reader_take_m3.ok (O : Out) (hO : GOkL O) (k : Nat) (a0 : List UInt8) (a1 : Int) (a2 : Nat) (out : (List UInt8) × Int) (h : lex_reader_take_m3.f k a0 a1 a2 = some out) : COk Un O Tryd.prog 45 { ar := [.loc 100000 0, .clo 91 []], r := .p .str out.1, bs := [(100000, .box [.p .str a0, .p I6 a1, .p .err a2])], bs' := [(100000, .box [.p .str a0, .p I6 out.2, .p .err a2])] } := by
  refine cok_of_wp Tryd.func45 rfl (k := 39) rfl (Nat.le_of_ble_eq_true rfl) (namesOk_of (by kernel_rfl)) ?_
  intro B hN
  refine WpC.conv (Conv.keep (U := Un) (b := ⟨[(0, .loc 100000 0), (1, .clo 91 [])], [(100000, .box [.p .str a0, .p I6 a1, .p .err a2])]⟩) [0, 1] [100000] (by kernel_rfl)) ?_
  unfold lex_reader_take_m3.f at h
  refine WpC.seq ?_
  refine WpC.reg (U := Un) (st1 := ⟨[(0, .loc 100000 0), (1, .clo 91 [])], [(100000, .box [.p .str a0, .p I6 a1, .p .err a2])]⟩) [0, 1] [100000] hN (.cons (sok_move (U := Un) (rs := []) rfl (.inr rfl) (.str _ _)) .nil) (by kernel_rfl) (by kernel_rfl) (by kernel_rfl) (Conv.refl (U := Un) _) ?_
  refine thenQ_normal ?_
  refine WpC.seq ?_
  obtain ⟨v1, hv1, h⟩ := bind_some h
  refine WpC.regA (U := Un) (st1 := ⟨[(0, .loc 100000 0), (5, .p I6 v1)], [(100000, .box [.p .str a0, .p I6 a1, .p .err a2])]⟩) [0, 5] [100000] [[], [0], [0, 1], [0, 1, 2], [], [4], [4, 5], [4, 5, 6], [], [0, 1, 2, 3, 4, 5, 6, 7, 8], [0, 1, 2, 3, 4, 5, 6, 7, 8, 9]] mixed hN (.cons (mv (U := Un) (v := .loc 100000 0) rfl rfl) (.cons (sok_nilCheck (U := Un) (rs := [(6, .loc 100000 0)]) rfl rfl o0 rfl) (.cons (sok_fieldB (U := Un) (rs := [(7, .loc 100000 0)]) rfl rfl fd_81_0 (by decide) o0) (.cons (sok_loadB (U := Un) (t := .str) (rs := [(8, .loc 100000 0)]) [] [.p .str a0] [.p I6 a1, .p .err a2] (v := .p .str a0) rfl rfl ty_9 o0 rfl rfl rfl rfl (.data (.one _ _))) (.cons (mv (U := Un) (v := .loc 100000 0) rfl rfl) (.cons (sok_nilCheck (U := Un) (rs := [(10, .loc 100000 0)]) rfl rfl o0 rfl) (.cons (sok_fieldB (U := Un) (rs := [(11, .loc 100000 0)]) rfl rfl fd_81_1 (by decide) o0) (.cons (sok_loadB (U := Un) (t := .int .i64) (rs := [(12, .loc 100000 1)]) [.p .str a0] [.p I6 a1] [.p .err a2] (v := .p I6 a1) rfl rfl ty_3 o0 rfl rfl rfl rfl (.data (.one _ _))) (.cons (mv (U := Un) (v := .clo 91 []) rfl rfl) (.cons (sok_callV (U := Un) (rs := [(9, .p .str a0), (13, .p I6 a1), (14, .clo 91 [])]) (vw := []) rfl rfl (.func _) hb_66 (lex_run_m3.ok O hO k a0 a1 v1 hv1) (.cons o0 (.cons o1 (.cons (.tmp (.tail _ (.tail _ (.head _)))) .nil))) (.cons (.same _) (.cons (.same _) (.cons (.same _) .nil))) (by simp) (.inl rfl)) (.cons (mva (U := Un) (v := .p I6 v1) rfl rfl) .nil))))))))))) (by kernel_rfl) (by kernel_rfl) (by kernel_rfl) (by kernel_rfl) (by kernel_rfl) (Conv.refl (U := Un) _) ?_
  refine thenQ_normal ?_
  refine WpC.seq ?_
  refine WpC.reg (U := Un) (st1 := ⟨[(0, .loc 100000 0), (5, .p I6 v1)], [(100000, .box [.p .str a0, .p I6 ((IntKind.i64.wrap (a1 + v1)) : Int), .p .err a2])]⟩) [0, 5] [100000] hN (.cons (mv (U := Un) (v := .loc 100000 0) rfl rfl) (.cons (sok_nilCheck (U := Un) (rs := [(16, .loc 100000 0)]) rfl rfl o0 rfl) (.cons (sok_fieldB (U := Un) (rs := [(17, .loc 100000 0)]) rfl rfl fd_81_1 (by decide) o0) (.cons (sok_loadB (U := Un) (t := .int .i64) (rs := [(18, .loc 100000 1)]) [.p .str a0] [.p I6 a1] [.p .err a2] (v := .p I6 a1) rfl rfl ty_3 o0 rfl rfl rfl rfl (.data (.one _ _))) (.cons (mv (U := Un) (v := .p I6 v1) rfl rfl) (.cons (sok_arith (U := Un) (rs := [(19, .p I6 a1), (20, .p I6 v1)]) rfl rfl o0 o1 rfl) (.cons (sok_nilCheck (U := Un) (rs := [(16, .loc 100000 0)]) rfl rfl o0 rfl) (.cons (sok_fieldB (U := Un) (rs := [(22, .loc 100000 0)]) rfl rfl fd_81_1 (by decide) o0) (.cons (sok_storeB (U := Un) (rs := [(23, .loc 100000 1), (21, .p I6 ((IntKind.i64.wrap (a1 + v1)) : Int))]) (v := .p I6 ((IntKind.i64.wrap (a1 + v1)) : Int)) (mid' := [.p I6 ((IntKind.i64.wrap (a1 + v1)) : Int)]) [.p .str a0] [.p I6 a1] [.p .err a2] rfl rfl rfl ty_3 o0 o1 (.data (.one _ _)) rfl rfl rfl rfl rfl rfl) .nil))))))))) (by kernel_rfl) (by kernel_rfl) (by kernel_rfl) (Conv.refl (U := Un) _) ?_
  refine thenQ_normal ?_
  refine WpC.seq ?_
  obtain ⟨v2, hv2, h⟩ := bind_some h
  refine WpC.regA (U := Un) (st1 := ⟨[(4, .p .str v2)], [(100000, .box [.p .str a0, .p I6 ((IntKind.i64.wrap (a1 + v1)) : Int), .p .err a2])]⟩) [4] [100000] [[], [0], [0, 1], [0, 1, 2], [], [4], [4, 5], [4, 5, 6], [], [4, 5, 6, 7, 8], [], [10], [10, 11], [10, 11, 12], [0, 1, 2, 3, 4, 5, 6, 7, 8, 9, 10, 11, 12, 13], [0, 1, 2, 3, 4, 5, 6, 7, 8, 9, 10, 11, 12, 13, 14]] mixed hN (.cons (mv (U := Un) (v := .loc 100000 0) rfl rfl) (.cons (sok_nilCheck (U := Un) (rs := [(24, .loc 100000 0)]) rfl rfl o0 rfl) (.cons (sok_fieldB (U := Un) (rs := [(25, .loc 100000 0)]) rfl rfl fd_81_0 (by decide) o0) (.cons (sok_loadB (U := Un) (t := .str) (rs := [(26, .loc 100000 0)]) [] [.p .str a0] [.p I6 ((IntKind.i64.wrap (a1 + v1)) : Int), .p .err a2] (v := .p .str a0) rfl rfl ty_9 o0 rfl rfl rfl rfl (.data (.one _ _))) (.cons (mv (U := Un) (v := .loc 100000 0) rfl rfl) (.cons (sok_nilCheck (U := Un) (rs := [(28, .loc 100000 0)]) rfl rfl o0 rfl) (.cons (sok_fieldB (U := Un) (rs := [(29, .loc 100000 0)]) rfl rfl fd_81_1 (by decide) o0) (.cons (sok_loadB (U := Un) (t := .int .i64) (rs := [(30, .loc 100000 1)]) [.p .str a0] [.p I6 ((IntKind.i64.wrap (a1 + v1)) : Int)] [.p .err a2] (v := .p I6 ((IntKind.i64.wrap (a1 + v1)) : Int)) rfl rfl ty_3 o0 rfl rfl rfl rfl (.data (.one _ _))) (.cons (mv (U := Un) (v := .p I6 v1) rfl rfl) (.cons (sok_arith (U := Un) (rs := [(31, .p I6 ((IntKind.i64.wrap (a1 + v1)) : Int)), (32, .p I6 v1)]) rfl rfl o0 o1 rfl) (.cons (mv (U := Un) (v := .loc 100000 0) rfl rfl) (.cons (sok_nilCheck (U := Un) (rs := [(34, .loc 100000 0)]) rfl rfl o0 rfl) (.cons (sok_fieldB (U := Un) (rs := [(35, .loc 100000 0)]) rfl rfl fd_81_1 (by decide) o0) (.cons (sok_loadB (U := Un) (t := .int .i64) (rs := [(36, .loc 100000 1)]) [.p .str a0] [.p I6 ((IntKind.i64.wrap (a1 + v1)) : Int)] [.p .err a2] (v := .p I6 ((IntKind.i64.wrap (a1 + v1)) : Int)) rfl rfl ty_3 o0 rfl rfl rfl rfl (.data (.one _ _))) (.cons (sok_sliceS (U := Un) (rs := [(27, .p .str a0), (33, .p I6 ((IntKind.i64.wrap ((IntKind.i64.wrap (a1 + v1)) - v1)) : Int)), (37, .p I6 ((IntKind.i64.wrap (a1 + v1)) : Int))]) rfl rfl Tryd.underlying9 o0 (.at o1) (.at (.tmp (.tail _ (.tail _ (.head _))))) hv2) (.cons (mva (U := Un) (v := .p .str v2) rfl rfl) .nil)))))))))))))))) (by kernel_rfl) (by kernel_rfl) (by kernel_rfl) (by kernel_rfl) (by kernel_rfl) (Conv.refl (U := Un) _) ?_
  refine thenQ_normal ?_
  refine WpC.ret ?_
  have hq := Option.some.inj h
  subst hq
  exact ends_ret (retV_1 rfl (.head _)) (ain_cons (.head _) ain_nil)

theorem lex_reader_command_m0.ok (O : Out) (hO : GOkL O) (k : Nat) (a0 : List UInt8) (a1 : Int) (a2 : Nat) (out : T_lex_Piece × Int × Nat) (h : lex_reader_command_m0.f k a0 a1 a2 = some out) : COk Un O Tryd.prog 70 { ar := [.loc 100000 0], r := .p (.named 3) out.1, bs := [(100000, .box [.p .str a0, .p I6 a1, .p .err a2])], bs' := [(100000, .box [.p .str a0, .p I6 out.2.1, .p .err out.2.2])] } := by
  refine cok_of_wp Tryd.func70 rfl (k := 12) rfl (Nat.le_of_ble_eq_true rfl) (namesOk_of (by kernel_rfl)) ?_
  intro B hN
  refine WpC.conv (Conv.keep (U := Un) (b := ⟨[(0, .loc 100000 0)], [(100000, .box [.p .str a0, .p I6 a1, .p .err a2])]⟩) [0] [100000] (by kernel_rfl)) ?_
  unfold lex_reader_command_m0.f at h
  refine WpC.seq ?_
  refine WpC.reg (U := Un) (st1 := ⟨[(0, .loc 100000 0), (2, .loc 2 0)], [(2, .box [.p I6 (0 : Int), .p .str ([] : List UInt8), .p .str ([] : List UInt8), .p .str ([] : List UInt8)]), (100000, .box [.p .str a0, .p I6 a1, .p .err a2])]⟩) [0, 2] [2, 100000] hN (.cons (sok_allocZ (U := Un) (rs := []) (d := 2) (us := [.p I6 (0 : Int), .p .str ([] : List UInt8), .p .str ([] : List UInt8), .p .str ([] : List UInt8)]) (v := (.agg #[.int .i64 0, .string ByteArray.empty, .string ByteArray.empty, .string ByteArray.empty])) rfl rfl rfl (by kernel_rfl) rfl (.data (fun _ _ _ => .int _ _) (.data (fun _ _ _ => rd_str0) (.data (fun _ _ _ => rd_str0) (.data (fun _ _ _ => rd_str0) .nil)))) (by kernel_rfl)) .nil) (by kernel_rfl) (by kernel_rfl) (by kernel_rfl) (Conv.refl (U := Un) _) ?_
  refine thenQ_normal ?_
  refine WpC.seq ?_
  obtain ⟨v1, hv1, h⟩ := bind_some h
  refine WpC.reg (U := Un) (st1 := ⟨[(0, .loc 100000 0), (2, .loc 2 0)], [(2, .box [.p I6 (0 : Int), .p .str ([] : List UInt8), .p .str ([] : List UInt8), .p .str ([] : List UInt8)]), (100000, .box [.p .str a0, .p I6 v1.1, .p .err v1.2])]⟩) [0, 2] [2, 100000] hN (.cons (mv (U := Un) (v := .loc 100000 0) rfl rfl) (.cons (sok_callV (U := Un) (rs := [(4, .loc 100000 0)]) (vw := []) rfl rfl (.func _) hb_90 (COk.ren (lex_reader_takes_m0.ok O hO k a0 a1 a2 123 v1 hv1) (fun n => if n = 100000 then 100000 else n) (injOn_of (by kernel_rfl))) (.cons o0 (.cons (.int _ _ _) .nil)) (.cons (.same _) (.cons (.same _) .nil)) (by simp) (.inl rfl)) .nil)) (by kernel_rfl) (by kernel_rfl) (by kernel_rfl) (Conv.refl (U := Un) _) ?_
  refine thenQ_normal ?_
  refine WpC.seq ?_
  obtain ⟨v2, hv2, h⟩ := bind_some h
  refine WpC.reg (U := Un) (st1 := ⟨[(0, .loc 100000 0), (2, .loc 2 0), (3, .loc 3 0)], [(2, .box [.p I6 (0 : Int), .p .str ([] : List UInt8), .p .str ([] : List UInt8), .p .str ([] : List UInt8)]), (3, .box [.p I6 (4 : Int), .p .str v2.1, .p .str ([] : List UInt8), .p .str ([] : List UInt8)]), (100000, .box [.p .str a0, .p I6 v2.2, .p .err v1.2])]⟩) [0, 2, 3] [2, 3, 100000] hN (.cons (mv (U := Un) (v := .loc 100000 0) rfl rfl) (.cons (sok_callV (U := Un) (rs := [(6, .loc 100000 0)]) (vw := []) rfl rfl (.func _) hb_45 (COk.ren (lex_reader_take_m3.ok O hO k a0 v1.1 v1.2 v2 hv2) (fun n => if n = 100000 then 100000 else n) (injOn_of (by kernel_rfl))) (.cons o0 (.cons (.func _ _) .nil)) (.cons (.same _) (.cons (.same _) .nil)) (by simp) (.inl rfl)) (.cons (sok_build (U := Un) (t := .named 3) (rs := [(7, .p .str v2.1)]) (us0 := [.p I6 (0 : Int), .p .str ([] : List UInt8), .p .str ([] : List UInt8), .p .str ([] : List UInt8)]) (us := [.p I6 (4 : Int), .p .str v2.1, .p .str ([] : List UInt8), .p .str ([] : List UInt8)]) (v := .p (.named 3) ((T_lex_Piece.mk 4 v2.1 [] []) : T_lex_Piece)) rfl rfl lays_42 (.data (fun _ _ _ => .int _ _) (.data (fun _ _ _ => rd_str0) (.data (fun _ _ _ => rd_str0) (.data (fun _ _ _ => rd_str0) .nil)))) (Filled.cons (U := Un) (i := 0) (v := .p I6 (4 : Int)) [] [.p I6 (0 : Int)] [.p I6 (4 : Int)] [.p .str ([] : List UInt8), .p .str ([] : List UInt8), .p .str ([] : List UInt8)] (.int _ _ _) (.data (.one _ _)) rfl rfl rfl rfl rfl rfl (Filled.cons (U := Un) (i := 1) (v := .p .str v2.1) [.p I6 (4 : Int)] [.p .str ([] : List UInt8)] [.p .str v2.1] [.p .str ([] : List UInt8), .p .str ([] : List UInt8)] o0 (.data (.one _ _)) rfl rfl rfl rfl rfl rfl (.nil _))) rfl (.data (.named (.pair (.one _ _) (.pair (.one _ _) (.pair (.one _ _) (.pair (.one _ _) .unit))))))) (.cons (sok_allocZ (U := Un) (rs := []) (d := 3) (us := [.p I6 (0 : Int), .p .str ([] : List UInt8), .p .str ([] : List UInt8), .p .str ([] : List UInt8)]) (v := (.agg #[.int .i64 0, .string ByteArray.empty, .string ByteArray.empty, .string ByteArray.empty])) rfl rfl rfl (by kernel_rfl) rfl (.data (fun _ _ _ => .int _ _) (.data (fun _ _ _ => rd_str0) (.data (fun _ _ _ => rd_str0) (.data (fun _ _ _ => rd_str0) .nil)))) (by kernel_rfl)) (.cons (sok_storeB (U := Un) (rs := [(3, .loc 3 0), (8, .p (.named 3) ((T_lex_Piece.mk 4 v2.1 [] []) : T_lex_Piece))]) (v := .p (.named 3) ((T_lex_Piece.mk 4 v2.1 [] []) : T_lex_Piece)) (mid' := [.p I6 (4 : Int), .p .str v2.1, .p .str ([] : List UInt8), .p .str ([] : List UInt8)]) [] [.p I6 (0 : Int), .p .str ([] : List UInt8), .p .str ([] : List UInt8), .p .str ([] : List UInt8)] [] rfl rfl rfl ty_42 o0 o1 (.data (.named (.pair (.one _ _) (.pair (.one _ _) (.pair (.one _ _) (.pair (.one _ _) .unit)))))) rfl rfl rfl rfl rfl rfl) .nil))))) (by kernel_rfl) (by kernel_rfl) (by kernel_rfl) (Conv.refl (U := Un) _) ?_
  refine thenQ_normal ?_
  refine WpC.seq ?_
  obtain ⟨v3, hv3, h⟩ := bind_some h
  refine WpC.reg (U := Un) (st1 := ⟨[(2, .loc 2 0), (3, .loc 3 0)], [(2, .box [.p I6 (0 : Int), .p .str ([] : List UInt8), .p .str ([] : List UInt8), .p .str ([] : List UInt8)]), (3, .box [.p I6 (4 : Int), .p .str v2.1, .p .str ([] : List UInt8), .p .str ([] : List UInt8)]), (100000, .box [.p .str a0, .p I6 v3.1, .p .err v3.2])]⟩) [2, 3] [2, 3, 100000] hN (.cons (mv (U := Un) (v := .loc 100000 0) rfl rfl) (.cons (sok_callV (U := Un) (rs := [(9, .loc 100000 0)]) (vw := []) rfl rfl (.func _) hb_90 (COk.ren (lex_reader_takes_m0.ok O hO k a0 v2.2 v1.2 125 v3 hv3) (fun n => if n = 100000 then 100000 else n) (injOn_of (by kernel_rfl))) (.cons o0 (.cons (.int _ _ _) .nil)) (.cons (.same _) (.cons (.same _) .nil)) (by simp) (.inl rfl)) .nil)) (by kernel_rfl) (by kernel_rfl) (by kernel_rfl) (Conv.refl (U := Un) _) ?_
  refine thenQ_normal ?_
  refine WpC.seq ?_
  refine WpC.reg (U := Un) (st1 := ⟨[(2, .loc 2 0)], [(2, .box [.p I6 (4 : Int), .p .str v2.1, .p .str ([] : List UInt8), .p .str ([] : List UInt8)]), (100000, .box [.p .str a0, .p I6 v3.1, .p .err v3.2])]⟩) [2] [2, 100000] hN (.cons (sok_loadB (U := Un) (t := .named 3) (rs := [(3, .loc 3 0)]) [] [.p I6 (4 : Int), .p .str v2.1, .p .str ([] : List UInt8), .p .str ([] : List UInt8)] [] (v := .p (.named 3) ((T_lex_Piece.mk 4 v2.1 [] []) : T_lex_Piece)) rfl rfl ty_42 o0 rfl rfl rfl rfl (.data (.named (.pair (.one _ _) (.pair (.one _ _) (.pair (.one _ _) (.pair (.one _ _) .unit))))))) (.cons (sok_storeB (U := Un) (rs := [(2, .loc 2 0), (11, .p (.named 3) ((T_lex_Piece.mk 4 v2.1 [] []) : T_lex_Piece))]) (v := .p (.named 3) ((T_lex_Piece.mk 4 v2.1 [] []) : T_lex_Piece)) (mid' := [.p I6 (4 : Int), .p .str v2.1, .p .str ([] : List UInt8), .p .str ([] : List UInt8)]) [] [.p I6 (0 : Int), .p .str ([] : List UInt8), .p .str ([] : List UInt8), .p .str ([] : List UInt8)] [] rfl rfl rfl ty_42 o0 o1 (.data (.named (.pair (.one _ _) (.pair (.one _ _) (.pair (.one _ _) (.pair (.one _ _) .unit)))))) rfl rfl rfl rfl rfl rfl) .nil)) (by kernel_rfl) (by kernel_rfl) (by kernel_rfl) (Conv.refl (U := Un) _) ?_
  refine thenQ_normal ?_
  refine WpC.ret ?_
  have hq := Option.some.inj h
  subst hq
  exact ends_ret (retV_L (U := Un) (vs := [.p (.named 3) ((T_lex_Piece.mk 4 v2.1 [] []) : T_lex_Piece)]) rfl (ResL.cell (U := Un) [] [.p I6 (4 : Int), .p .str v2.1, .p .str ([] : List UInt8), .p .str ([] : List UInt8)] [] (.head _) (.head _) rfl rfl rfl rfl ty_42 (.data (.named (.pair (.one _ _) (.pair (.one _ _) (.pair (.one _ _) (.pair (.one _ _) .unit)))))) .nil)) (ain_cons (.tail _ (.head _)) ain_nil)

theorem lex_run_m4.ok (O : Out) (hO : GOkL O) (k : Nat) (a0 : List UInt8) (a1 : Int) (out : Int) (h : lex_run_m4.f k a0 a1 = some out) : COk Un O Tryd.prog 66 { ar := [.p .str a0, .p I6 a1, .clo 71 []], r := .p I6 out } := by
  refine cok_of_wp Tryd.func66 rfl (k := 26) rfl (Nat.le_of_ble_eq_true rfl) (namesOk_pure rfl rfl rfl rfl) ?_
  intro B hN
  refine WpC.conv (Conv.keep (U := Un) (b := ⟨[(0, .p .str a0), (1, .p I6 a1), (2, .clo 71 [])], []⟩) [0, 1, 2] [] (by kernel_rfl)) ?_
  unfold lex_run_m4.f at h
  refine WpC.seq ?_
  refine WpC.reg (U := Un) (st1 := ⟨[(0, .p .str a0), (1, .p I6 a1), (2, .clo 71 [])], []⟩) [0, 1, 2] [] hN (.cons (sok_move (U := Un) (rs := []) rfl (.inr rfl) (.int _ _ _)) .nil) (by kernel_rfl) (by kernel_rfl) (by kernel_rfl) (Conv.refl (U := Un) _) ?_
  refine thenQ_normal ?_
  refine WpC.seq ?_
  refine WpC.reg (U := Un) (st1 := ⟨[(0, .p .str a0), (1, .p I6 a1), (2, .clo 71 []), (7, .p I6 (0 : Int))], []⟩) [0, 1, 2, 7] [] hN (.cons (sok_move (U := Un) (rs := []) rfl (.inr rfl) (.int _ _ _)) .nil) (by kernel_rfl) (by kernel_rfl) (by kernel_rfl) (Conv.refl (U := Un) _) ?_
  refine thenQ_normal ?_
  refine WpC.seqJ (U := Un) (fun st' => ∃ v1 : Int, lex_run_m4.j2 k v1 = some out ∧ st' = ⟨[(7, .p I6 v1)], []⟩) ?_ ?_
  · refine WpC.block ?_
    obtain ⟨o6, hlo6, h⟩ := bind_some h
    have hout7 := h
    clear h
    refine WpC.loop (U := Un) (fun n st' => ∃ v3 : Int, lex_run_m4.l4 k a0 a1 n v3 = some o6 ∧ st' = ⟨[(0, .p .str a0), (1, .p I6 a1), (2, .clo 71 []), (7, .p I6 v3)], []⟩) k ⟨0, hlo6, rfl⟩ ?_
    clear hlo6
    rintro (_ | n) _ ⟨v3, h, rfl⟩
    · cases h
    · rw [lex_run_m4.l4] at h
      refine WpC.seqJ (U := Un) (fun st' => lex_run_m4.j8 k (lex_run_m4.l4 k a0 a1 n) a0 a1 v3 = some o6 ∧ st' = ⟨[(0, .p .str a0), (1, .p I6 a1), (2, .clo 71 []), (7, .p I6 v3)], []⟩) ?_ ?_
      · refine WpC.seqJ (U := Un) (fun st' => ∃ v9 : Bool, lex_run_m4.j11 k (lex_run_m4.l4 k a0 a1 n) a0 a1 v3 v9 = some o6 ∧ st' = ⟨[(0, .p .str a0), (1, .p I6 a1), (2, .clo 71 []), (7, .p I6 v3), (22, .p .bool v9)], []⟩) ?_ ?_
        · rcases bool_cases (decide ((IntKind.i64.wrap (a1 + v3)) < (a0.length : Int))) with hc12 | hc12
          · replace h := ite_t hc12 h
            obtain ⟨v13, hv13, h⟩ := bind_some h
            obtain ⟨v14, hv14, h⟩ := bind_some h
            refine WpC.reg (U := Un) (st1 := ⟨[(0, .p .str a0), (1, .p I6 a1), (2, .clo 71 []), (7, .p I6 v3), (22, .p .bool v14)], []⟩) [0, 1, 2, 7, 22] [] hN (.cons (mv (U := Un) (v := .p I6 a1) rfl rfl) (.cons (mv (U := Un) (v := .p I6 v3) rfl rfl) (.cons (sok_arith (U := Un) (rs := [(8, .p I6 a1), (9, .p I6 v3)]) rfl rfl o0 o1 rfl) (.cons (mv (U := Un) (v := .p .str a0) rfl rfl) (.cons (sok_lenS (U := Un) (rs := [(11, .p .str a0)]) rfl rfl Tryd.underlying9 o0) (.cons (sok_cmp (U := Un) (rs := [(10, .p I6 ((IntKind.i64.wrap (a1 + v3)) : Int)), (12, .p I6 ((a0.length : Int) : Int))]) rfl rfl o0 o1 rfl) (.cons (mv (U := Un) (v := .p .bool ((decide ((IntKind.i64.wrap (a1 + v3)) < (a0.length : Int))) : Bool)) rfl rfl) (.cons (sok_run rfl rfl hc12 (mv (U := Un) (v := .clo 71 []) rfl rfl)) (.cons (sok_run rfl rfl hc12 (mv (U := Un) (v := .p .str a0) rfl rfl)) (.cons (sok_run rfl rfl hc12 (mv (U := Un) (v := .p I6 a1) rfl rfl)) (.cons (sok_run rfl rfl hc12 (mv (U := Un) (v := .p I6 v3) rfl rfl)) (.cons (sok_run rfl rfl hc12 (sok_arith (U := Un) (rs := [(17, .p I6 a1), (18, .p I6 v3)]) rfl rfl o0 o1 rfl)) (.cons (sok_run rfl rfl hc12 (sok_indexS (U := Un) (rs := [(16, .p .str a0), (19, .p I6 ((IntKind.i64.wrap (a1 + v3)) : Int))]) rfl rfl Tryd.underlying9 o0 o1 hv13)) (.cons (sok_run rfl rfl hc12 (sok_callV (U := Un) (rs := [(20, .p (.int .u8) ((v13.toNat : Int) : Int)), (15, .clo 71 [])]) (vw := []) rfl rfl (.clo o1) hb_71 (lex_plain.ok O hO k (v13.toNat : Int) v14 hv14) (.cons o0 .nil) (.cons (.same _) .nil) (by simp) (.inl rfl))) (.cons (sok_pickT (U := Un) (rs := [(14, .p .bool ((decide ((IntKind.i64.wrap (a1 + v3)) < (a0.length : Int))) : Bool)), (21, .p .bool v14)]) rfl rfl o0 hc12 o1) .nil))))))))))))))) (by kernel_rfl) (by kernel_rfl) (by kernel_rfl) (Conv.refl (U := Un) _) ?_
            refine thenQ_normal ?_
            exact ⟨v14, h, rfl⟩
          · replace h := ite_f hc12 h
            refine WpC.reg (U := Un) (st1 := ⟨[(0, .p .str a0), (1, .p I6 a1), (2, .clo 71 []), (7, .p I6 v3), (22, .p .bool false)], []⟩) [0, 1, 2, 7, 22] [] hN (.cons (mv (U := Un) (v := .p I6 a1) rfl rfl) (.cons (mv (U := Un) (v := .p I6 v3) rfl rfl) (.cons (sok_arith (U := Un) (rs := [(8, .p I6 a1), (9, .p I6 v3)]) rfl rfl o0 o1 rfl) (.cons (mv (U := Un) (v := .p .str a0) rfl rfl) (.cons (sok_lenS (U := Un) (rs := [(11, .p .str a0)]) rfl rfl Tryd.underlying9 o0) (.cons (sok_cmp (U := Un) (rs := [(10, .p I6 ((IntKind.i64.wrap (a1 + v3)) : Int)), (12, .p I6 ((a0.length : Int) : Int))]) rfl rfl o0 o1 rfl) (.cons (mv (U := Un) (v := .p .bool ((decide ((IntKind.i64.wrap (a1 + v3)) < (a0.length : Int))) : Bool)) rfl rfl) (.cons (sok_skip rfl rfl hc12) (.cons (sok_skip rfl rfl hc12) (.cons (sok_skip rfl rfl hc12) (.cons (sok_skip rfl rfl hc12) (.cons (sok_skip rfl rfl hc12) (.cons (sok_skip rfl rfl hc12) (.cons (sok_skip rfl rfl hc12) (.cons (sok_pickF (U := Un) (rs := [(14, .p .bool ((decide ((IntKind.i64.wrap (a1 + v3)) < (a0.length : Int))) : Bool))]) rfl rfl o0 hc12 (.bool _ _)) .nil))))))))))))))) (by kernel_rfl) (by kernel_rfl) (by kernel_rfl) (Conv.refl (U := Un) _) ?_
            refine thenQ_normal ?_
            exact ⟨false, h, rfl⟩
        · rintro _ ⟨v9, h, rfl⟩
          unfold lex_run_m4.j11 at h
          refine WpC.cond (U := Un) (b := v9) (.tmp (.tail _ (.tail _ (.tail _ (.tail _ (.head _)))))) (fun hc10 => ?_) (fun hc10 => ?_)
          · replace h := ite_t hc10 h
            refine WpC.conv (Conv.keep (U := Un) (b := ⟨[(0, .p .str a0), (1, .p I6 a1), (2, .clo 71 []), (7, .p I6 v3)], []⟩) [0, 1, 2, 7] [] (by kernel_rfl)) (WpC.skip ?_)
            refine thenQ_normal ?_
            exact ⟨h, rfl⟩
          · replace h := ite_f hc10 h
            refine WpC.conv (Conv.keep (U := Un) (b := ⟨[(7, .p I6 v3)], []⟩) [7] [] (by kernel_rfl)) (WpC.exit ?_)
            refine thenQ_exit ?_
            have hq := Option.some.inj h
            subst hq
            refine thenQ_exit ?_
            have h := hout7
            refine blockQ_hit ?_
            refine thenQ_normal ?_
            exact ⟨v3, h, rfl⟩
      · rintro _ ⟨h, rfl⟩
        unfold lex_run_m4.j8 at h
        refine WpC.block ?_
        refine WpC.reg (U := Un) (st1 := ⟨[(0, .p .str a0), (1, .p I6 a1), (2, .clo 71 []), (7, .p I6 ((IntKind.i64.wrap (v3 + 1)) : Int))], []⟩) [0, 1, 2, 7] [] hN (.cons (mv (U := Un) (v := .p I6 v3) rfl rfl) (.cons (sok_arith (U := Un) (rs := [(23, .p I6 v3)]) rfl rfl o0 (.int _ _ _) rfl) (.cons (mva (U := Un) (v := .p I6 ((IntKind.i64.wrap (v3 + 1)) : Int)) rfl rfl) .nil))) (by kernel_rfl) (by kernel_rfl) (by kernel_rfl) (Conv.refl (U := Un) _) ?_
        refine blockQ_normal ?_
        refine thenQ_normal ?_
        exact ⟨n, Nat.lt_succ_self n, (IntKind.i64.wrap (v3 + 1)), h, rfl⟩
  · rintro _ ⟨v1, h, rfl⟩
    unfold lex_run_m4.j2 at h
    refine WpC.seq ?_
    refine WpC.reg (U := Un) (st1 := ⟨[(6, .p I6 v1)], []⟩) [6] [] hN (.cons (mv (U := Un) (v := .p I6 v1) rfl rfl) (.cons (mva (U := Un) (v := .p I6 v1) rfl rfl) .nil)) (by kernel_rfl) (by kernel_rfl) (by kernel_rfl) (Conv.refl (U := Un) _) ?_
    refine thenQ_normal ?_
    refine WpC.ret ?_
    have hq := Option.some.inj h
    subst hq
    exact ends_ret (retV_1 rfl (.head _)) ain_nil

theorem lex_reader_take_m4.ok (O : Out) (hO : GOkL O) (k : Nat) (a0 : List UInt8) (a1 : Int) (a2 : Nat) (out : (List UInt8) × Int) (h : lex_reader_take_m4.f k a0 a1 a2 = some out) : COk Un O Tryd.prog 45 { ar := [.loc 100000 0, .clo 71 []], r := .p .str out.1, bs := [(100000, .box [.p .str a0, .p I6 a1, .p .err a2])], bs' := [(100000, .box [.p .str a0, .p I6 out.2, .p .err a2])] } := by
  refine cok_of_wp Tryd.func45 rfl (k := 39) rfl (Nat.le_of_ble_eq_true rfl) (namesOk_of (by kernel_rfl)) ?_
  intro B hN
  refine WpC.conv (Conv.keep (U := Un) (b := ⟨[(0, .loc 100000 0), (1, .clo 71 [])], [(100000, .box [.p .str a0, .p I6 a1, .p .err a2])]⟩) [0, 1] [100000] (by kernel_rfl)) ?_
  unfold lex_reader_take_m4.f at h
  refine WpC.seq ?_
  refine WpC.reg (U := Un) (st1 := ⟨[(0, .loc 100000 0), (1, .clo 71 [])], [(100000, .box [.p .str a0, .p I6 a1, .p .err a2])]⟩) [0, 1] [100000] hN (.cons (sok_move (U := Un) (rs := []) rfl (.inr rfl) (.str _ _)) .nil) (by kernel_rfl) (by kernel_rfl) (by kernel_rfl) (Conv.refl (U := Un) _) ?_
  refine thenQ_normal ?_
  refine WpC.seq ?_
  obtain ⟨v1, hv1, h⟩ := bind_some h
  refine WpC.regA (U := Un) (st1 := ⟨[(0, .loc 100000 0), (5, .p I6 v1)], [(100000, .box [.p .str a0, .p I6 a1, .p .err a2])]⟩) [0, 5] [100000] [[], [0], [0, 1], [0, 1, 2], [], [4], [4, 5], [4, 5, 6], [], [0, 1, 2, 3, 4, 5, 6, 7, 8], [0, 1, 2, 3, 4, 5, 6, 7, 8, 9]] mixed hN (.cons (mv (U := Un) (v := .loc 100000 0) rfl rfl) (.cons (sok_nilCheck (U := Un) (rs := [(6, .loc 100000 0)]) rfl rfl o0 rfl) (.cons (sok_fieldB (U := Un) (rs := [(7, .loc 100000 0)]) rfl rfl fd_81_0 (by decide) o0) (.cons (sok_loadB (U := Un) (t := .str) (rs := [(8, .loc 100000 0)]) [] [.p .str a0] [.p I6 a1, .p .err a2] (v := .p .str a0) rfl rfl ty_9 o0 rfl rfl rfl rfl (.data (.one _ _))) (.cons (mv (U := Un) (v := .loc 100000 0) rfl rfl) (.cons (sok_nilCheck (U := Un) (rs := [(10, .loc 100000 0)]) rfl rfl o0 rfl) (.cons (sok_fieldB (U := Un) (rs := [(11, .loc 100000 0)]) rfl rfl fd_81_1 (by decide) o0) (.cons (sok_loadB (U := Un) (t := .int .i64) (rs := [(12, .loc 100000 1)]) [.p .str a0] [.p I6 a1] [.p .err a2] (v := .p I6 a1) rfl rfl ty_3 o0 rfl rfl rfl rfl (.data (.one _ _))) (.cons (mv (U := Un) (v := .clo 71 []) rfl rfl) (.cons (sok_callV (U := Un) (rs := [(9, .p .str a0), (13, .p I6 a1), (14, .clo 71 [])]) (vw := []) rfl rfl (.func _) hb_66 (lex_run_m4.ok O hO k a0 a1 v1 hv1) (.cons o0 (.cons o1 (.cons (.tmp (.tail _ (.tail _ (.head _)))) .nil))) (.cons (.same _) (.cons (.same _) (.cons (.same _) .nil))) (by simp) (.inl rfl)) (.cons (mva (U := Un) (v := .p I6 v1) rfl rfl) .nil))))))))))) (by kernel_rfl) (by kernel_rfl) (by kernel_rfl) (by kernel_rfl) (by kernel_rfl) (Conv.refl (U := Un) _) ?_
  refine thenQ_normal ?_
  refine WpC.seq ?_
  refine WpC.reg (U := Un) (st1 := ⟨[(0, .loc 100000 0), (5, .p I6 v1)], [(100000, .box [.p .str a0, .p I6 ((IntKind.i64.wrap (a1 + v1)) : Int), .p .err a2])]⟩) [0, 5] [100000] hN (.cons (mv (U := Un) (v := .loc 100000 0) rfl rfl) (.cons (sok_nilCheck (U := Un) (rs := [(16, .loc 100000 0)]) rfl rfl o0 rfl) (.cons (sok_fieldB (U := Un) (rs := [(17, .loc 100000 0)]) rfl rfl fd_81_1 (by decide) o0) (.cons (sok_loadB (U := Un) (t := .int .i64) (rs := [(18, .loc 100000 1)]) [.p .str a0] [.p I6 a1] [.p .err a2] (v := .p I6 a1) rfl rfl ty_3 o0 rfl rfl rfl rfl (.data (.one _ _))) (.cons (mv (U := Un) (v := .p I6 v1) rfl rfl) (.cons (sok_arith (U := Un) (rs := [(19, .p I6 a1), (20, .p I6 v1)]) rfl rfl o0 o1 rfl) (.cons (sok_nilCheck (U := Un) (rs := [(16, .loc 100000 0)]) rfl rfl o0 rfl) (.cons (sok_fieldB (U := Un) (rs := [(22, .loc 100000 0)]) rfl rfl fd_81_1 (by decide) o0) (.cons (sok_storeB (U := Un) (rs := [(23, .loc 100000 1), (21, .p I6 ((IntKind.i64.wrap (a1 + v1)) : Int))]) (v := .p I6 ((IntKind.i64.wrap (a1 + v1)) : Int)) (mid' := [.p I6 ((IntKind.i64.wrap (a1 + v1)) : Int)]) [.p .str a0] [.p I6 a1] [.p .err a2] rfl rfl rfl ty_3 o0 o1 (.data (.one _ _)) rfl rfl rfl rfl rfl rfl) .nil))))))))) (by kernel_rfl) (by kernel_rfl) (by kernel_rfl) (Conv.refl (U := Un) _) ?_
  refine thenQ_normal ?_
  refine WpC.seq ?_
  obtain ⟨v2, hv2, h⟩ := bind_some h
  refine WpC.regA (U := Un) (st1 := ⟨[(4, .p .str v2)], [(100000, .box [.p .str a0, .p I6 ((IntKind.i64.wrap (a1 + v1)) : Int), .p .err a2])]⟩) [4] [100000] [[], [0], [0, 1], [0, 1, 2], [], [4], [4, 5], [4, 5, 6], [], [4, 5, 6, 7, 8], [], [10], [10, 11], [10, 11, 12], [0, 1, 2, 3, 4, 5, 6, 7, 8, 9, 10, 11, 12, 13], [0, 1, 2, 3, 4, 5, 6, 7, 8, 9, 10, 11, 12, 13, 14]] mixed hN (.cons (mv (U := Un) (v := .loc 100000 0) rfl rfl) (.cons (sok_nilCheck (U := Un) (rs := [(24, .loc 100000 0)]) rfl rfl o0 rfl) (.cons (sok_fieldB (U := Un) (rs := [(25, .loc 100000 0)]) rfl rfl fd_81_0 (by decide) o0) (.cons (sok_loadB (U := Un) (t := .str) (rs := [(26, .loc 100000 0)]) [] [.p .str a0] [.p I6 ((IntKind.i64.wrap (a1 + v1)) : Int), .p .err a2] (v := .p .str a0) rfl rfl ty_9 o0 rfl rfl rfl rfl (.data (.one _ _))) (.cons (mv (U := Un) (v := .loc 100000 0) rfl rfl) (.cons (sok_nilCheck (U := Un) (rs := [(28, .loc 100000 0)]) rfl rfl o0 rfl) (.cons (sok_fieldB (U := Un) (rs := [(29, .loc 100000 0)]) rfl rfl fd_81_1 (by decide) o0) (.cons (sok_loadB (U := Un) (t := .int .i64) (rs := [(30, .loc 100000 1)]) [.p .str a0] [.p I6 ((IntKind.i64.wrap (a1 + v1)) : Int)] [.p .err a2] (v := .p I6 ((IntKind.i64.wrap (a1 + v1)) : Int)) rfl rfl ty_3 o0 rfl rfl rfl rfl (.data (.one _ _))) (.cons (mv (U := Un) (v := .p I6 v1) rfl rfl) (.cons (sok_arith (U := Un) (rs := [(31, .p I6 ((IntKind.i64.wrap (a1 + v1)) : Int)), (32, .p I6 v1)]) rfl rfl o0 o1 rfl) (.cons (mv (U := Un) (v := .loc 100000 0) rfl rfl) (.cons (sok_nilCheck (U := Un) (rs := [(34, .loc 100000 0)]) rfl rfl o0 rfl) (.cons (sok_fieldB (U := Un) (rs := [(35, .loc 100000 0)]) rfl rfl fd_81_1 (by decide) o0) (.cons (sok_loadB (U := Un) (t := .int .i64) (rs := [(36, .loc 100000 1)]) [.p .str a0] [.p I6 ((IntKind.i64.wrap (a1 + v1)) : Int)] [.p .err a2] (v := .p I6 ((IntKind.i64.wrap (a1 + v1)) : Int)) rfl rfl ty_3 o0 rfl rfl rfl rfl (.data (.one _ _))) (.cons (sok_sliceS (U := Un) (rs := [(27, .p .str a0), (33, .p I6 ((IntKind.i64.wrap ((IntKind.i64.wrap (a1 + v1)) - v1)) : Int)), (37, .p I6 ((IntKind.i64.wrap (a1 + v1)) : Int))]) rfl rfl Tryd.underlying9 o0 (.at o1) (.at (.tmp (.tail _ (.tail _ (.head _))))) hv2) (.cons (mva (U := Un) (v := .p .str v2) rfl rfl) .nil)))))))))))))))) (by kernel_rfl) (by kernel_rfl) (by kernel_rfl) (by kernel_rfl) (by kernel_rfl) (Conv.refl (U := Un) _) ?_
  refine thenQ_normal ?_
  refine WpC.ret ?_
  have hq := Option.some.inj h
  subst hq
  exact ends_ret (retV_1 rfl (.head _)) (ain_cons (.head _) ain_nil)

theorem lex_reader_piece_m0.ok (O : Out) (hO : GOkL O) (k : Nat) (a0 : List UInt8) (a1 : Int) (a2 : Nat) (out : T_lex_Piece × Int × Nat) (h : lex_reader_piece_m0.f k a0 a1 a2 = some out) : COk Un O Tryd.prog 47 { ar := [.loc 100000 0], r := .p (.named 3) out.1, bs := [(100000, .box [.p .str a0, .p I6 a1, .p .err a2])], bs' := [(100000, .box [.p .str a0, .p I6 out.2.1, .p .err out.2.2])] } := by
  refine cok_of_wp Tryd.func47 rfl (k := 41) rfl (Nat.le_of_ble_eq_true rfl) (namesOk_of (by kernel_rfl)) ?_
  intro B hN
  refine WpC.conv (Conv.keep (U := Un) (b := ⟨[(0, .loc 100000 0)], [(100000, .box [.p .str a0, .p I6 a1, .p .err a2])]⟩) [0] [100000] (by kernel_rfl)) ?_
  unfold lex_reader_piece_m0.f at h
  refine WpC.seq ?_
  refine WpC.reg (U := Un) (st1 := ⟨[(0, .loc 100000 0), (2, .loc 2 0)], [(2, .box [.p I6 (0 : Int), .p .str ([] : List UInt8), .p .str ([] : List UInt8), .p .str ([] : List UInt8)]), (100000, .box [.p .str a0, .p I6 a1, .p .err a2])]⟩) [0, 2] [2, 100000] hN (.cons (sok_allocZ (U := Un) (rs := []) (d := 2) (us := [.p I6 (0 : Int), .p .str ([] : List UInt8), .p .str ([] : List UInt8), .p .str ([] : List UInt8)]) (v := (.agg #[.int .i64 0, .string ByteArray.empty, .string ByteArray.empty, .string ByteArray.empty])) rfl rfl rfl (by kernel_rfl) rfl (.data (fun _ _ _ => .int _ _) (.data (fun _ _ _ => rd_str0) (.data (fun _ _ _ => rd_str0) (.data (fun _ _ _ => rd_str0) .nil)))) (by kernel_rfl)) .nil) (by kernel_rfl) (by kernel_rfl) (by kernel_rfl) (Conv.refl (U := Un) _) ?_
  refine thenQ_normal ?_
  refine WpC.seq ?_
  refine WpC.seq ?_
  obtain ⟨v1, hv1, h⟩ := bind_some h
  refine WpC.regA (U := Un) (st1 := ⟨[(0, .loc 100000 0), (2, .loc 2 0), (11, .p (.int .u8) ((v1.toNat : Int) : Int))], [(2, .box [.p I6 (0 : Int), .p .str ([] : List UInt8), .p .str ([] : List UInt8), .p .str ([] : List UInt8)]), (100000, .box [.p .str a0, .p I6 a1, .p .err a2])]⟩) [0, 2, 11] [2, 100000] [[], [0], [0, 1], [0, 1, 2], [], [4], [4, 5], [4, 5, 6], [0, 1, 2, 3, 4, 5, 6, 7]] mixed hN (.cons (mv (U := Un) (v := .loc 100000 0) rfl rfl) (.cons (sok_nilCheck (U := Un) (rs := [(3, .loc 100000 0)]) rfl rfl o0 rfl) (.cons (sok_fieldB (U := Un) (rs := [(4, .loc 100000 0)]) rfl rfl fd_81_0 (by decide) o0) (.cons (sok_loadB (U := Un) (t := .str) (rs := [(5, .loc 100000 0)]) [] [.p .str a0] [.p I6 a1, .p .err a2] (v := .p .str a0) rfl rfl ty_9 o0 rfl rfl rfl rfl (.data (.one _ _))) (.cons (mv (U := Un) (v := .loc 100000 0) rfl rfl) (.cons (sok_nilCheck (U := Un) (rs := [(7, .loc 100000 0)]) rfl rfl o0 rfl) (.cons (sok_fieldB (U := Un) (rs := [(8, .loc 100000 0)]) rfl rfl fd_81_1 (by decide) o0) (.cons (sok_loadB (U := Un) (t := .int .i64) (rs := [(9, .loc 100000 1)]) [.p .str a0] [.p I6 a1] [.p .err a2] (v := .p I6 a1) rfl rfl ty_3 o0 rfl rfl rfl rfl (.data (.one _ _))) (.cons (sok_indexS (U := Un) (rs := [(6, .p .str a0), (10, .p I6 a1)]) rfl rfl Tryd.underlying9 o0 o1 hv1) .nil))))))))) (by kernel_rfl) (by kernel_rfl) (by kernel_rfl) (by kernel_rfl) (by kernel_rfl) (Conv.refl (U := Un) _) ?_
  refine thenQ_normal ?_
  refine WpC.block ?_
  refine WpC.seq ?_
  refine WpC.reg (U := Un) (st1 := ⟨[(0, .loc 100000 0), (2, .loc 2 0), (11, .p (.int .u8) ((v1.toNat : Int) : Int)), (12, .p .bool (((v1.toNat : Int) == 39) : Bool))], [(2, .box [.p I6 (0 : Int), .p .str ([] : List UInt8), .p .str ([] : List UInt8), .p .str ([] : List UInt8)]), (100000, .box [.p .str a0, .p I6 a1, .p .err a2])]⟩) [0, 2, 11, 12] [2, 100000] hN (.cons (sok_cmp (U := Un) (rs := [(11, .p (.int .u8) ((v1.toNat : Int) : Int))]) rfl rfl o0 (.int _ _ _) rfl) (.cons (mva (U := Un) (v := .p .bool (((v1.toNat : Int) == 39) : Bool)) rfl rfl) .nil)) (by kernel_rfl) (by kernel_rfl) (by kernel_rfl) (Conv.refl (U := Un) _) ?_
  refine thenQ_normal ?_
  refine WpC.cond (U := Un) (b := ((v1.toNat : Int) == 39)) (.tmp (.tail _ (.tail _ (.tail _ (.head _))))) (fun hc2 => ?_) (fun hc2 => ?_)
  · replace h := ite_t hc2 h
    refine WpC.seq ?_
    obtain ⟨v3, hv3, h⟩ := bind_some h
    refine WpC.reg (U := Un) (st1 := ⟨[(2, .loc 2 0)], [(2, .box [.p I6 v3.1.f_Kind, .p .str v3.1.f_Text, .p .str v3.1.f_From, .p .str v3.1.f_To]), (100000, .box [.p .str a0, .p I6 v3.2.1, .p .err v3.2.2])]⟩) [2] [2, 100000] hN (.cons (mv (U := Un) (v := .loc 100000 0) rfl rfl) (.cons (sok_callV (U := Un) (rs := [(14, .loc 100000 0)]) (vw := []) rfl rfl (.func _) hb_68 (COk.ren (lex_reader_quoted_m0.ok O hO k a0 a1 a2 v3 hv3) (fun n => if n = 100000 then 100000 else n) (injOn_of (by kernel_rfl))) (.cons o0 .nil) (.cons (.same _) .nil) (by simp) (.inl rfl)) (.cons (sok_storeB (U := Un) (rs := [(2, .loc 2 0), (15, .p (.named 3) v3.1)]) (v := .p (.named 3) v3.1) (mid' := [.p I6 v3.1.f_Kind, .p .str v3.1.f_Text, .p .str v3.1.f_From, .p .str v3.1.f_To]) [] [.p I6 (0 : Int), .p .str ([] : List UInt8), .p .str ([] : List UInt8), .p .str ([] : List UInt8)] [] rfl rfl rfl ty_42 o0 o1 (.data (.named (.pair (.one _ _) (.pair (.one _ _) (.pair (.one _ _) (.pair (.one _ _) .unit)))))) rfl rfl rfl rfl rfl rfl) .nil))) (by kernel_rfl) (by kernel_rfl) (by kernel_rfl) (Conv.refl (U := Un) _) ?_
    refine thenQ_normal ?_
    refine WpC.ret ?_
    refine blockQ_ret ?_
    refine thenQ_ret ?_
    have hq := Option.some.inj h
    subst hq
    exact ends_ret (retV_L (U := Un) (vs := [.p (.named 3) ((T_lex_Piece.mk v3.1.f_Kind v3.1.f_Text v3.1.f_From v3.1.f_To) : T_lex_Piece)]) rfl (ResL.cell (U := Un) [] [.p I6 v3.1.f_Kind, .p .str v3.1.f_Text, .p .str v3.1.f_From, .p .str v3.1.f_To] [] (.head _) (.head _) rfl rfl rfl rfl ty_42 (.data (.named (.pair (.one _ _) (.pair (.one _ _) (.pair (.one _ _) (.pair (.one _ _) .unit)))))) .nil)) (ain_cons (.tail _ (.head _)) ain_nil)
  · replace h := ite_f hc2 h
    refine WpC.seq ?_
    refine WpC.reg (U := Un) (st1 := ⟨[(0, .loc 100000 0), (2, .loc 2 0), (11, .p (.int .u8) ((v1.toNat : Int) : Int)), (16, .p .bool (((v1.toNat : Int) == 36) : Bool))], [(2, .box [.p I6 (0 : Int), .p .str ([] : List UInt8), .p .str ([] : List UInt8), .p .str ([] : List UInt8)]), (100000, .box [.p .str a0, .p I6 a1, .p .err a2])]⟩) [0, 2, 11, 16] [2, 100000] hN (.cons (sok_cmp (U := Un) (rs := [(11, .p (.int .u8) ((v1.toNat : Int) : Int))]) rfl rfl o0 (.int _ _ _) rfl) (.cons (mva (U := Un) (v := .p .bool (((v1.toNat : Int) == 36) : Bool)) rfl rfl) .nil)) (by kernel_rfl) (by kernel_rfl) (by kernel_rfl) (Conv.refl (U := Un) _) ?_
    refine thenQ_normal ?_
    refine WpC.cond (U := Un) (b := ((v1.toNat : Int) == 36)) (.tmp (.tail _ (.tail _ (.tail _ (.head _))))) (fun hc4 => ?_) (fun hc4 => ?_)
    · replace h := ite_t hc4 h
      refine WpC.seq ?_
      refine WpC.reg (U := Un) (st1 := ⟨[(0, .loc 100000 0), (2, .loc 2 0)], [(2, .box [.p I6 (0 : Int), .p .str ([] : List UInt8), .p .str ([] : List UInt8), .p .str ([] : List UInt8)]), (100000, .box [.p .str a0, .p I6 ((IntKind.i64.wrap (a1 + 1)) : Int), .p .err a2])]⟩) [0, 2] [2, 100000] hN (.cons (mv (U := Un) (v := .loc 100000 0) rfl rfl) (.cons (sok_nilCheck (U := Un) (rs := [(18, .loc 100000 0)]) rfl rfl o0 rfl) (.cons (sok_fieldB (U := Un) (rs := [(19, .loc 100000 0)]) rfl rfl fd_81_1 (by decide) o0) (.cons (sok_loadB (U := Un) (t := .int .i64) (rs := [(20, .loc 100000 1)]) [.p .str a0] [.p I6 a1] [.p .err a2] (v := .p I6 a1) rfl rfl ty_3 o0 rfl rfl rfl rfl (.data (.one _ _))) (.cons (sok_arith (U := Un) (rs := [(21, .p I6 a1)]) rfl rfl o0 (.int _ _ _) rfl) (.cons (sok_nilCheck (U := Un) (rs := [(18, .loc 100000 0)]) rfl rfl o0 rfl) (.cons (sok_fieldB (U := Un) (rs := [(23, .loc 100000 0)]) rfl rfl fd_81_1 (by decide) o0) (.cons (sok_storeB (U := Un) (rs := [(24, .loc 100000 1), (22, .p I6 ((IntKind.i64.wrap (a1 + 1)) : Int))]) (v := .p I6 ((IntKind.i64.wrap (a1 + 1)) : Int)) (mid' := [.p I6 ((IntKind.i64.wrap (a1 + 1)) : Int)]) [.p .str a0] [.p I6 a1] [.p .err a2] rfl rfl rfl ty_3 o0 o1 (.data (.one _ _)) rfl rfl rfl rfl rfl rfl) .nil)))))))) (by kernel_rfl) (by kernel_rfl) (by kernel_rfl) (Conv.refl (U := Un) _) ?_
      refine thenQ_normal ?_
      refine WpC.seq ?_
      obtain ⟨v5, hv5, h⟩ := bind_some h
      refine WpC.reg (U := Un) (st1 := ⟨[(2, .loc 2 0)], [(2, .box [.p I6 v5.1.f_Kind, .p .str v5.1.f_Text, .p .str v5.1.f_From, .p .str v5.1.f_To]), (100000, .box [.p .str a0, .p I6 v5.2.1, .p .err v5.2.2])]⟩) [2] [2, 100000] hN (.cons (mv (U := Un) (v := .loc 100000 0) rfl rfl) (.cons (sok_callV (U := Un) (rs := [(25, .loc 100000 0)]) (vw := []) rfl rfl (.func _) hb_69 (COk.ren (lex_reader_variable_m0.ok O hO k a0 (IntKind.i64.wrap (a1 + 1)) a2 v5 hv5) (fun n => if n = 100000 then 100000 else n) (injOn_of (by kernel_rfl))) (.cons o0 .nil) (.cons (.same _) .nil) (by simp) (.inl rfl)) (.cons (sok_storeB (U := Un) (rs := [(2, .loc 2 0), (26, .p (.named 3) v5.1)]) (v := .p (.named 3) v5.1) (mid' := [.p I6 v5.1.f_Kind, .p .str v5.1.f_Text, .p .str v5.1.f_From, .p .str v5.1.f_To]) [] [.p I6 (0 : Int), .p .str ([] : List UInt8), .p .str ([] : List UInt8), .p .str ([] : List UInt8)] [] rfl rfl rfl ty_42 o0 o1 (.data (.named (.pair (.one _ _) (.pair (.one _ _) (.pair (.one _ _) (.pair (.one _ _) .unit)))))) rfl rfl rfl rfl rfl rfl) .nil))) (by kernel_rfl) (by kernel_rfl) (by kernel_rfl) (Conv.refl (U := Un) _) ?_
      refine thenQ_normal ?_
      refine WpC.ret ?_
      refine blockQ_ret ?_
      refine thenQ_ret ?_
      have hq := Option.some.inj h
      subst hq
      exact ends_ret (retV_L (U := Un) (vs := [.p (.named 3) ((T_lex_Piece.mk v5.1.f_Kind v5.1.f_Text v5.1.f_From v5.1.f_To) : T_lex_Piece)]) rfl (ResL.cell (U := Un) [] [.p I6 v5.1.f_Kind, .p .str v5.1.f_Text, .p .str v5.1.f_From, .p .str v5.1.f_To] [] (.head _) (.head _) rfl rfl rfl rfl ty_42 (.data (.named (.pair (.one _ _) (.pair (.one _ _) (.pair (.one _ _) (.pair (.one _ _) .unit)))))) .nil)) (ain_cons (.tail _ (.head _)) ain_nil)
    · replace h := ite_f hc4 h
      refine WpC.seq ?_
      refine WpC.reg (U := Un) (st1 := ⟨[(0, .loc 100000 0), (2, .loc 2 0), (27, .p .bool (((v1.toNat : Int) == 96) : Bool))], [(2, .box [.p I6 (0 : Int), .p .str ([] : List UInt8), .p .str ([] : List UInt8), .p .str ([] : List UInt8)]), (100000, .box [.p .str a0, .p I6 a1, .p .err a2])]⟩) [0, 2, 27] [2, 100000] hN (.cons (sok_cmp (U := Un) (rs := [(11, .p (.int .u8) ((v1.toNat : Int) : Int))]) rfl rfl o0 (.int _ _ _) rfl) (.cons (mva (U := Un) (v := .p .bool (((v1.toNat : Int) == 96) : Bool)) rfl rfl) .nil)) (by kernel_rfl) (by kernel_rfl) (by kernel_rfl) (Conv.refl (U := Un) _) ?_
      refine thenQ_normal ?_
      refine WpC.cond (U := Un) (b := ((v1.toNat : Int) == 96)) (.tmp (.tail _ (.tail _ (.head _)))) (fun hc6 => ?_) (fun hc6 => ?_)
      · replace h := ite_t hc6 h
        refine WpC.seq ?_
        refine WpC.reg (U := Un) (st1 := ⟨[(0, .loc 100000 0), (2, .loc 2 0)], [(2, .box [.p I6 (0 : Int), .p .str ([] : List UInt8), .p .str ([] : List UInt8), .p .str ([] : List UInt8)]), (100000, .box [.p .str a0, .p I6 ((IntKind.i64.wrap (a1 + 1)) : Int), .p .err a2])]⟩) [0, 2] [2, 100000] hN (.cons (mv (U := Un) (v := .loc 100000 0) rfl rfl) (.cons (sok_nilCheck (U := Un) (rs := [(29, .loc 100000 0)]) rfl rfl o0 rfl) (.cons (sok_fieldB (U := Un) (rs := [(30, .loc 100000 0)]) rfl rfl fd_81_1 (by decide) o0) (.cons (sok_loadB (U := Un) (t := .int .i64) (rs := [(31, .loc 100000 1)]) [.p .str a0] [.p I6 a1] [.p .err a2] (v := .p I6 a1) rfl rfl ty_3 o0 rfl rfl rfl rfl (.data (.one _ _))) (.cons (sok_arith (U := Un) (rs := [(32, .p I6 a1)]) rfl rfl o0 (.int _ _ _) rfl) (.cons (sok_nilCheck (U := Un) (rs := [(29, .loc 100000 0)]) rfl rfl o0 rfl) (.cons (sok_fieldB (U := Un) (rs := [(34, .loc 100000 0)]) rfl rfl fd_81_1 (by decide) o0) (.cons (sok_storeB (U := Un) (rs := [(35, .loc 100000 1), (33, .p I6 ((IntKind.i64.wrap (a1 + 1)) : Int))]) (v := .p I6 ((IntKind.i64.wrap (a1 + 1)) : Int)) (mid' := [.p I6 ((IntKind.i64.wrap (a1 + 1)) : Int)]) [.p .str a0] [.p I6 a1] [.p .err a2] rfl rfl rfl ty_3 o0 o1 (.data (.one _ _)) rfl rfl rfl rfl rfl rfl) .nil)))))))) (by kernel_rfl) (by kernel_rfl) (by kernel_rfl) (Conv.refl (U := Un) _) ?_
        refine thenQ_normal ?_
        refine WpC.seq ?_
        obtain ⟨v7, hv7, h⟩ := bind_some h
        refine WpC.reg (U := Un) (st1 := ⟨[(2, .loc 2 0)], [(2, .box [.p I6 v7.1.f_Kind, .p .str v7.1.f_Text, .p .str v7.1.f_From, .p .str v7.1.f_To]), (100000, .box [.p .str a0, .p I6 v7.2.1, .p .err v7.2.2])]⟩) [2] [2, 100000] hN (.cons (mv (U := Un) (v := .loc 100000 0) rfl rfl) (.cons (sok_callV (U := Un) (rs := [(36, .loc 100000 0)]) (vw := []) rfl rfl (.func _) hb_70 (COk.ren (lex_reader_command_m0.ok O hO k a0 (IntKind.i64.wrap (a1 + 1)) a2 v7 hv7) (fun n => if n = 100000 then 100000 else n) (injOn_of (by kernel_rfl))) (.cons o0 .nil) (.cons (.same _) .nil) (by simp) (.inl rfl)) (.cons (sok_storeB (U := Un) (rs := [(2, .loc 2 0), (37, .p (.named 3) v7.1)]) (v := .p (.named 3) v7.1) (mid' := [.p I6 v7.1.f_Kind, .p .str v7.1.f_Text, .p .str v7.1.f_From, .p .str v7.1.f_To]) [] [.p I6 (0 : Int), .p .str ([] : List UInt8), .p .str ([] : List UInt8), .p .str ([] : List UInt8)] [] rfl rfl rfl ty_42 o0 o1 (.data (.named (.pair (.one _ _) (.pair (.one _ _) (.pair (.one _ _) (.pair (.one _ _) .unit)))))) rfl rfl rfl rfl rfl rfl) .nil))) (by kernel_rfl) (by kernel_rfl) (by kernel_rfl) (Conv.refl (U := Un) _) ?_
        refine thenQ_normal ?_
        refine WpC.ret ?_
        refine blockQ_ret ?_
        refine thenQ_ret ?_
        have hq := Option.some.inj h
        subst hq
        exact ends_ret (retV_L (U := Un) (vs := [.p (.named 3) ((T_lex_Piece.mk v7.1.f_Kind v7.1.f_Text v7.1.f_From v7.1.f_To) : T_lex_Piece)]) rfl (ResL.cell (U := Un) [] [.p I6 v7.1.f_Kind, .p .str v7.1.f_Text, .p .str v7.1.f_From, .p .str v7.1.f_To] [] (.head _) (.head _) rfl rfl rfl rfl ty_42 (.data (.named (.pair (.one _ _) (.pair (.one _ _) (.pair (.one _ _) (.pair (.one _ _) .unit)))))) .nil)) (ain_cons (.tail _ (.head _)) ain_nil)
      · replace h := ite_f hc6 h
        refine WpC.conv (Conv.keep (U := Un) (b := ⟨[(0, .loc 100000 0), (2, .loc 2 0)], [(2, .box [.p I6 (0 : Int), .p .str ([] : List UInt8), .p .str ([] : List UInt8), .p .str ([] : List UInt8)]), (100000, .box [.p .str a0, .p I6 a1, .p .err a2])]⟩) [0, 2] [2, 100000] (by kernel_rfl)) (WpC.skip ?_)
        refine blockQ_normal ?_
        refine thenQ_normal ?_
        refine WpC.seq ?_
        obtain ⟨v8, hv8, h⟩ := bind_some h
        refine WpC.reg (U := Un) (st1 := ⟨[(2, .loc 2 0)], [(2, .box [.p I6 (0 : Int), .p .str v8.1, .p .str ([] : List UInt8), .p .str ([] : List UInt8)]), (100000, .box [.p .str a0, .p I6 v8.2, .p .err a2])]⟩) [2] [2, 100000] hN (.cons (mv (U := Un) (v := .loc 100000 0) rfl rfl) (.cons (sok_callV (U := Un) (rs := [(38, .loc 100000 0)]) (vw := []) rfl rfl (.func _) hb_45 (COk.ren (lex_reader_take_m4.ok O hO k a0 a1 a2 v8 hv8) (fun n => if n = 100000 then 100000 else n) (injOn_of (by kernel_rfl))) (.cons o0 (.cons (.func _ _) .nil)) (.cons (.same _) (.cons (.same _) .nil)) (by simp) (.inl rfl)) (.cons (sok_build (U := Un) (t := .named 3) (rs := [(39, .p .str v8.1)]) (us0 := [.p I6 (0 : Int), .p .str ([] : List UInt8), .p .str ([] : List UInt8), .p .str ([] : List UInt8)]) (us := [.p I6 (0 : Int), .p .str v8.1, .p .str ([] : List UInt8), .p .str ([] : List UInt8)]) (v := .p (.named 3) ((T_lex_Piece.mk 0 v8.1 [] []) : T_lex_Piece)) rfl rfl lays_42 (.data (fun _ _ _ => .int _ _) (.data (fun _ _ _ => rd_str0) (.data (fun _ _ _ => rd_str0) (.data (fun _ _ _ => rd_str0) .nil)))) (Filled.cons (U := Un) (i := 0) (v := .p I6 (0 : Int)) [] [.p I6 (0 : Int)] [.p I6 (0 : Int)] [.p .str ([] : List UInt8), .p .str ([] : List UInt8), .p .str ([] : List UInt8)] (.int _ _ _) (.data (.one _ _)) rfl rfl rfl rfl rfl rfl (Filled.cons (U := Un) (i := 1) (v := .p .str v8.1) [.p I6 (0 : Int)] [.p .str ([] : List UInt8)] [.p .str v8.1] [.p .str ([] : List UInt8), .p .str ([] : List UInt8)] o0 (.data (.one _ _)) rfl rfl rfl rfl rfl rfl (.nil _))) rfl (.data (.named (.pair (.one _ _) (.pair (.one _ _) (.pair (.one _ _) (.pair (.one _ _) .unit))))))) (.cons (sok_storeB (U := Un) (rs := [(2, .loc 2 0), (40, .p (.named 3) ((T_lex_Piece.mk 0 v8.1 [] []) : T_lex_Piece))]) (v := .p (.named 3) ((T_lex_Piece.mk 0 v8.1 [] []) : T_lex_Piece)) (mid' := [.p I6 (0 : Int), .p .str v8.1, .p .str ([] : List UInt8), .p .str ([] : List UInt8)]) [] [.p I6 (0 : Int), .p .str ([] : List UInt8), .p .str ([] : List UInt8), .p .str ([] : List UInt8)] [] rfl rfl rfl ty_42 o0 o1 (.data (.named (.pair (.one _ _) (.pair (.one _ _) (.pair (.one _ _) (.pair (.one _ _) .unit)))))) rfl rfl rfl rfl rfl rfl) .nil)))) (by kernel_rfl) (by kernel_rfl) (by kernel_rfl) (Conv.refl (U := Un) _) ?_
        refine thenQ_normal ?_
        refine WpC.ret ?_
        have hq := Option.some.inj h
        subst hq
        exact ends_ret (retV_L (U := Un) (vs := [.p (.named 3) ((T_lex_Piece.mk 0 v8.1 [] []) : T_lex_Piece)]) rfl (ResL.cell (U := Un) [] [.p I6 (0 : Int), .p .str v8.1, .p .str ([] : List UInt8), .p .str ([] : List UInt8)] [] (.head _) (.head _) rfl rfl rfl rfl ty_42 (.data (.named (.pair (.one _ _) (.pair (.one _ _) (.pair (.one _ _) (.pair (.one _ _) .unit)))))) .nil)) (ain_cons (.tail _ (.head _)) ain_nil)

theorem lex_Words.ok (O : Out) (hO : GOkL O) (k : Nat) (a0 : List UInt8) (out : (List (List T_lex_Piece)) × Nat) (h : lex_Words.f k a0 = some out) : COk Un O Tryd.prog 15 { ar := [.p .str a0], r := .tup [.p (.list (.list (.named 3))) out.1, .p .err out.2] } := by
  refine cok_of_wp Tryd.func15 rfl (k := 55) rfl (Nat.le_of_ble_eq_true rfl) (namesOk_pure rfl rfl rfl rfl) ?_
  intro B hN
  refine WpC.conv (Conv.keep (U := Un) (b := ⟨[(0, .p .str a0)], []⟩) [0] [] (by kernel_rfl)) ?_
  unfold lex_Words.f at h
  refine WpC.seq ?_
  refine WpC.reg (U := Un) (st1 := ⟨[(0, .p .str a0)], []⟩) [0] [] hN (.cons (sok_move (U := Un) (rs := []) rfl (.inr rfl) (.lit _ _ rfl)) (.cons (sok_move (U := Un) (rs := []) rfl (.inr rfl) (.lit _ _ rfl)) .nil)) (by kernel_rfl) (by kernel_rfl) (by kernel_rfl) (Conv.refl (U := Un) _) ?_
  refine thenQ_normal ?_
  refine WpC.seq ?_
  refine WpC.reg (U := Un) (st1 := ⟨[(0, .p .str a0), (4, .loc 9 0)], [(9, .box [.p .str a0, .p I6 (0 : Int), .p .err (0 : Nat)])]⟩) [0, 4] [9] hN (.cons (mv (U := Un) (v := .p .str a0) rfl rfl) (.cons (sok_build (U := Un) (t := .named 7) (rs := [(7, .p .str a0)]) (us0 := [.p .str ([] : List UInt8), .p I6 (0 : Int), .p .err (0 : Nat)]) (us := [.p .str a0, .p I6 (0 : Int), .p .err (0 : Nat)]) (v := .p (.named 7) ((T_lex_reader.mk a0 0 0) : T_lex_reader)) rfl rfl lays_81 (.data (fun _ _ _ => rd_str0) (.data (fun _ _ _ => .int _ _) (.data (fun _ _ _ => .err0) .nil))) (Filled.cons (U := Un) (i := 0) (v := .p .str a0) [] [.p .str ([] : List UInt8)] [.p .str a0] [.p I6 (0 : Int), .p .err (0 : Nat)] o0 (.data (.one _ _)) rfl rfl rfl rfl rfl rfl (.nil _)) rfl (.data (.named (.pair (.one _ _) (.pair (.one _ _) (.pair (.one _ _) .unit)))))) (.cons (sok_box (U := Un) (rs := [(8, .p (.named 7) ((T_lex_reader.mk a0 0 0) : T_lex_reader))]) (d := 9) (us := [.p .str a0, .p I6 (0 : Int), .p .err (0 : Nat)]) rfl rfl rfl o0 (.data (.named (.pair (.one _ _) (.pair (.one _ _) (.pair (.one _ _) .unit))))) rfl (notin_of (by kernel_rfl))) (.cons (mva (U := Un) (v := .loc 9 0) rfl rfl) .nil)))) (by kernel_rfl) (by kernel_rfl) (by kernel_rfl) (Conv.refl (U := Un) _) ?_
  refine thenQ_normal ?_
  refine WpC.seq ?_
  refine WpC.reg (U := Un) (st1 := ⟨[(0, .p .str a0), (4, .loc 9 0), (5, .lit (.slice none 0 0))], [(9, .box [.p .str a0, .p I6 (0 : Int), .p .err (0 : Nat)])]⟩) [0, 4, 5] [9] hN (.cons (sok_move (U := Un) (rs := []) rfl (.inr rfl) (.lit _ _ rfl)) .nil) (by kernel_rfl) (by kernel_rfl) (by kernel_rfl) (Conv.refl (U := Un) _) ?_
  refine thenQ_normal ?_
  refine WpC.block ?_
  obtain ⟨o5, hlo5, h⟩ := bind_some h
  have hout6 := h
  clear h
  refine WpC.conv (Conv.trans (U := Un) (Conv.thaw (U := Un) 5 1005 36 (.list (.named 3)) (.tail _ (.tail _ (.head _))) (by kernel_rfl) (by unfold K0; omega)) (Conv.keep (U := Un) (b := ⟨[(0, .p .str a0), (4, .loc 9 0), (5, .vec 1005 1 0 0)], [(9, .box [.p .str a0, .p I6 (0 : Int), .p .err (0 : Nat)]), (1005, .row 36 (.list (.named 3)) [] false)]⟩) [0, 4, 5] [9, 1005] (by kernel_rfl))) ?_
  refine WpC.loop (U := Un) (fun n st' => ∃ v1 : Int, ∃ v2 : Nat, ∃ v3 : List (List T_lex_Piece), lex_Words.l4 k a0 n v1 v2 v3 = some o5 ∧ st' = ⟨[(0, .p .str a0), (4, .loc 9 0), (5, .vec 1005 1 0 v3.length)], [(9, .box [.p .str a0, .p I6 v1, .p .err v2]), (1005, .row 36 (.list (.named 3)) v3 false)]⟩) k ⟨0, 0, [], hlo5, rfl⟩ ?_
  clear hlo5
  rintro (_ | n) _ ⟨v1, v2, v3, h, rfl⟩
  · cases h
  · rw [lex_Words.l4] at h
    refine WpC.block ?_
    refine WpC.seq ?_
    obtain ⟨v7, hv7, h⟩ := bind_some h
    refine WpC.reg (U := Un) (st1 := ⟨[(0, .p .str a0), (4, .loc 9 0), (5, .vec 1005 1 0 v3.length)], [(9, .box [.p .str a0, .p I6 v7.2, .p .err v2]), (1005, .row 36 (.list (.named 3)) v3 false)]⟩) [0, 4, 5] [9, 1005] hN (.cons (mv (U := Un) (v := .loc 9 0) rfl rfl) (.cons (sok_callV (U := Un) (rs := [(10, .loc 9 0)]) (vw := []) rfl rfl (.func _) hb_45 (COk.ren (lex_reader_take_m0.ok O hO k a0 v1 v2 v7 hv7) (fun n => if n = 100000 then 9 else n) (injOn_of (by kernel_rfl))) (.cons o0 (.cons (.func _ _) .nil)) (.cons (.same _) (.cons (.same _) .nil)) (by simp) (.inl rfl)) .nil)) (by kernel_rfl) (by kernel_rfl) (by kernel_rfl) (Conv.refl (U := Un) _) ?_
    refine thenQ_normal ?_
    refine WpC.seq ?_
    refine WpC.seq ?_
    refine WpC.reg (U := Un) (st1 := ⟨[(0, .p .str a0), (4, .loc 9 0), (5, .vec 1005 1 0 v3.length), (18, .p .bool ((decide (v7.2 ≥ (a0.length : Int))) : Bool))], [(9, .box [.p .str a0, .p I6 v7.2, .p .err v2]), (1005, .row 36 (.list (.named 3)) v3 false)]⟩) [0, 4, 5, 18] [9, 1005] hN (.cons (mv (U := Un) (v := .loc 9 0) rfl rfl) (.cons (sok_nilCheck (U := Un) (rs := [(12, .loc 9 0)]) rfl rfl o0 rfl) (.cons (sok_fieldB (U := Un) (rs := [(13, .loc 9 0)]) rfl rfl fd_81_1 (by decide) o0) (.cons (sok_loadB (U := Un) (t := .int .i64) (rs := [(14, .loc 9 1)]) [.p .str a0] [.p I6 v7.2] [.p .err v2] (v := .p I6 v7.2) rfl rfl ty_3 o0 rfl rfl rfl rfl (.data (.one _ _))) (.cons (mv (U := Un) (v := .p .str a0) rfl rfl) (.cons (sok_lenS (U := Un) (rs := [(16, .p .str a0)]) rfl rfl Tryd.underlying9 o0) (.cons (sok_cmp (U := Un) (rs := [(15, .p I6 v7.2), (17, .p I6 ((a0.length : Int) : Int))]) rfl rfl o0 o1 rfl) .nil))))))) (by kernel_rfl) (by kernel_rfl) (by kernel_rfl) (Conv.refl (U := Un) _) ?_
    refine thenQ_normal ?_
    refine WpC.cond (U := Un) (b := (decide (v7.2 ≥ (a0.length : Int)))) (.tmp (.tail _ (.tail _ (.tail _ (.head _))))) (fun hc8 => ?_) (fun hc8 => ?_)
    · replace h := ite_t hc8 h
      refine WpC.seq ?_
      refine WpC.reg (U := Un) (st1 := ⟨[(2, .vec 1005 1 0 v3.length), (3, .lit .nilIface)], [(1005, .row 36 (.list (.named 3)) v3 false)]⟩) [2, 3] [1005] hN (.cons (mv (U := Un) (v := .vec 1005 1 0 v3.length) rfl rfl) (.cons (mva (U := Un) (v := .vec 1005 1 0 v3.length) rfl rfl) (.cons (sok_move (U := Un) (rs := []) rfl (.inr rfl) (.lit _ _ rfl)) .nil))) (by kernel_rfl) (by kernel_rfl) (by kernel_rfl) (Conv.refl (U := Un) _) ?_
      refine thenQ_normal ?_
      refine WpC.conv (Conv.trans (U := Un) (Conv.freeze (U := Un) 2 1005 36 _ (.list (.named 3)) v3 false (.head _) (by first | rfl | (simp only [upd_length, List.length_replicate, List.length_append]; done) | (simp only [upd_length, List.length_replicate, List.length_append] at *; omega) | omega) (.head _) (by simp [Blk.names])) (Conv.trans (U := Un) (Conv.keep (U := Un) (b := ⟨[(2, .p (.list (.list (.named 3))) v3), (3, .lit .nilIface)], []⟩) [2, 3] [] (by kernel_rfl)) (Conv.trans (U := Un) (Conv.nilE (U := Un) 3 (.tail _ (.head _))) (Conv.keep (U := Un) (b := ⟨[(2, .p (.list (.list (.named 3))) v3), (3, .p .err (0 : Nat))], []⟩) [2, 3] [] (by kernel_rfl))))) (WpC.ret ?_)
      refine thenQ_ret ?_
      refine blockQ_ret ?_
      have hq := Option.some.inj h
      subst hq
      refine thenQ_ret ?_
      have h := hout6
      refine blockQ_ret ?_
      have hq := Option.some.inj h
      subst hq
      exact ends_ret (retV_2 rfl (.head _) (.tail _ (.head _))) ain_nil
    · replace h := ite_f hc8 h
      refine WpC.conv (Conv.keep (U := Un) (b := ⟨[(0, .p .str a0), (4, .loc 9 0), (5, .vec 1005 1 0 v3.length)], [(9, .box [.p .str a0, .p I6 v7.2, .p .err v2]), (1005, .row 36 (.list (.named 3)) v3 false)]⟩) [0, 4, 5] [9, 1005] (by kernel_rfl)) (WpC.skip ?_)
      refine thenQ_normal ?_
      refine WpC.seq ?_
      refine WpC.reg (U := Un) (st1 := ⟨[(0, .p .str a0), (4, .loc 9 0), (5, .vec 1005 1 0 v3.length), (6, .lit (.slice none 0 0))], [(9, .box [.p .str a0, .p I6 v7.2, .p .err v2]), (1005, .row 36 (.list (.named 3)) v3 false)]⟩) [0, 4, 5, 6] [9, 1005] hN (.cons (sok_move (U := Un) (rs := []) rfl (.inr rfl) (.lit _ _ rfl)) .nil) (by kernel_rfl) (by kernel_rfl) (by kernel_rfl) (Conv.refl (U := Un) _) ?_
      refine thenQ_normal ?_
      refine WpC.seqJ (U := Un) (fun st' => ∃ v9 : Int, ∃ v10 : Nat, ∃ v11 : List T_lex_Piece, lex_Words.j13 k (lex_Words.l4 k a0 n) a0 v3 v9 v10 v11 = some o5 ∧ st' = ⟨[(0, .p .str a0), (4, .loc 9 0), (5, .vec 1005 1 0 v3.length), (6, .vec 1006 4 0 v11.length)], [(9, .box [.p .str a0, .p I6 v9, .p .err v10]), (1005, .row 36 (.list (.named 3)) v3 false), (1006, .row 42 (.named 3) v11 false)]⟩) ?_ ?_
      · refine WpC.block ?_
        obtain ⟨o21, hlo21, h⟩ := bind_some h
        have hout22 := h
        clear h
        refine WpC.conv (Conv.trans (U := Un) (Conv.thaw (U := Un) 6 1006 42 (.named 3) (.tail _ (.tail _ (.tail _ (.head _)))) (by kernel_rfl) (by unfold K0; omega)) (Conv.keep (U := Un) (b := ⟨[(0, .p .str a0), (4, .loc 9 0), (5, .vec 1005 1 0 v3.length), (6, .vec 1006 4 0 0)], [(9, .box [.p .str a0, .p I6 v7.2, .p .err v2]), (1005, .row 36 (.list (.named 3)) v3 false), (1006, .row 42 (.named 3) [] false)]⟩) [0, 4, 5, 6] [9, 1005, 1006] (by kernel_rfl))) ?_
        refine WpC.loop (U := Un) (fun n st' => ∃ v14 : Int, ∃ v15 : Nat, ∃ v16 : List T_lex_Piece, lex_Words.l17 k a0 v3 n v14 v15 v16 = some o21 ∧ st' = ⟨[(0, .p .str a0), (4, .loc 9 0), (5, .vec 1005 1 0 v3.length), (6, .vec 1006 4 0 v16.length)], [(9, .box [.p .str a0, .p I6 v14, .p .err v15]), (1005, .row 36 (.list (.named 3)) v3 false), (1006, .row 42 (.named 3) v16 false)]⟩) k ⟨v7.2, v2, [], hlo21, rfl⟩ ?_
        clear hlo21
        rintro (_ | n) _ ⟨v14, v15, v16, h, rfl⟩
        · cases h
        · rw [lex_Words.l17] at h
          refine WpC.seqJ (U := Un) (fun st' => lex_Words.j26 k (lex_Words.l17 k a0 v3 n) a0 v3 v14 v15 v16 = some o21 ∧ st' = ⟨[(0, .p .str a0), (4, .loc 9 0), (5, .vec 1005 1 0 v3.length), (6, .vec 1006 4 0 v16.length)], [(9, .box [.p .str a0, .p I6 v14, .p .err v15]), (1005, .row 36 (.list (.named 3)) v3 false), (1006, .row 42 (.named 3) v16 false)]⟩) ?_ ?_
          · refine WpC.seqJ (U := Un) (fun st' => ∃ v27 : Bool, lex_Words.j29 k (lex_Words.l17 k a0 v3 n) a0 v3 v14 v15 v16 v27 = some o21 ∧ st' = ⟨[(0, .p .str a0), (4, .loc 9 0), (5, .vec 1005 1 0 v3.length), (6, .vec 1006 4 0 v16.length), (36, .p .bool v27)], [(9, .box [.p .str a0, .p I6 v14, .p .err v15]), (1005, .row 36 (.list (.named 3)) v3 false), (1006, .row 42 (.named 3) v16 false)]⟩) ?_ ?_
            · rcases bool_cases (decide (v14 < (a0.length : Int))) with hc30 | hc30
              · replace h := ite_t hc30 h
                obtain ⟨v31, hv31, h⟩ := bind_some h
                obtain ⟨v32, hv32, h⟩ := bind_some h
                refine WpC.reg (U := Un) (st1 := ⟨[(0, .p .str a0), (4, .loc 9 0), (5, .vec 1005 1 0 v3.length), (6, .vec 1006 4 0 v16.length), (36, .p .bool ((!v32) : Bool))], [(9, .box [.p .str a0, .p I6 v14, .p .err v15]), (1005, .row 36 (.list (.named 3)) v3 false), (1006, .row 42 (.named 3) v16 false)]⟩) [0, 4, 5, 6, 36] [9, 1005, 1006] hN (.cons (mv (U := Un) (v := .loc 9 0) rfl rfl) (.cons (sok_nilCheck (U := Un) (rs := [(20, .loc 9 0)]) rfl rfl o0 rfl) (.cons (sok_fieldB (U := Un) (rs := [(21, .loc 9 0)]) rfl rfl fd_81_1 (by decide) o0) (.cons (sok_loadB (U := Un) (t := .int .i64) (rs := [(22, .loc 9 1)]) [.p .str a0] [.p I6 v14] [.p .err v15] (v := .p I6 v14) rfl rfl ty_3 o0 rfl rfl rfl rfl (.data (.one _ _))) (.cons (mv (U := Un) (v := .p .str a0) rfl rfl) (.cons (sok_lenS (U := Un) (rs := [(24, .p .str a0)]) rfl rfl Tryd.underlying9 o0) (.cons (sok_cmp (U := Un) (rs := [(23, .p I6 v14), (25, .p I6 ((a0.length : Int) : Int))]) rfl rfl o0 o1 rfl) (.cons (mv (U := Un) (v := .p .bool ((decide (v14 < (a0.length : Int))) : Bool)) rfl rfl) (.cons (sok_run rfl rfl hc30 (mv (U := Un) (v := .p .str a0) rfl rfl)) (.cons (sok_run rfl rfl hc30 (mv (U := Un) (v := .loc 9 0) rfl rfl)) (.cons (sok_run rfl rfl hc30 (sok_nilCheck (U := Un) (rs := [(29, .loc 9 0)]) rfl rfl o0 rfl)) (.cons (sok_run rfl rfl hc30 (sok_fieldB (U := Un) (rs := [(30, .loc 9 0)]) rfl rfl fd_81_1 (by decide) o0)) (.cons (sok_run rfl rfl hc30 (sok_loadB (U := Un) (t := .int .i64) (rs := [(31, .loc 9 1)]) [.p .str a0] [.p I6 v14] [.p .err v15] (v := .p I6 v14) rfl rfl ty_3 o0 rfl rfl rfl rfl (.data (.one _ _)))) (.cons (sok_run rfl rfl hc30 (sok_indexS (U := Un) (rs := [(28, .p .str a0), (32, .p I6 v14)]) rfl rfl Tryd.underlying9 o0 o1 hv31)) (.cons (sok_run rfl rfl hc30 (sok_callV (U := Un) (rs := [(33, .p (.int .u8) ((v31.toNat : Int) : Int))]) (vw := []) rfl rfl (.func _) hb_46 (quote_Blank.ok O hO k (v31.toNat : Int) v32 hv32) (.cons o0 .nil) (.cons (.same _) .nil) (by simp) (.inl rfl))) (.cons (sok_run rfl rfl hc30 (sok_not (U := Un) (rs := [(34, .p .bool v32)]) rfl rfl o0)) (.cons (sok_pickT (U := Un) (rs := [(27, .p .bool ((decide (v14 < (a0.length : Int))) : Bool)), (35, .p .bool ((!v32) : Bool))]) rfl rfl o0 hc30 o1) .nil))))))))))))))))) (by kernel_rfl) (by kernel_rfl) (by kernel_rfl) (Conv.refl (U := Un) _) ?_
                refine thenQ_normal ?_
                exact ⟨(!v32), h, rfl⟩
              · replace h := ite_f hc30 h
                refine WpC.reg (U := Un) (st1 := ⟨[(0, .p .str a0), (4, .loc 9 0), (5, .vec 1005 1 0 v3.length), (6, .vec 1006 4 0 v16.length), (36, .p .bool false)], [(9, .box [.p .str a0, .p I6 v14, .p .err v15]), (1005, .row 36 (.list (.named 3)) v3 false), (1006, .row 42 (.named 3) v16 false)]⟩) [0, 4, 5, 6, 36] [9, 1005, 1006] hN (.cons (mv (U := Un) (v := .loc 9 0) rfl rfl) (.cons (sok_nilCheck (U := Un) (rs := [(20, .loc 9 0)]) rfl rfl o0 rfl) (.cons (sok_fieldB (U := Un) (rs := [(21, .loc 9 0)]) rfl rfl fd_81_1 (by decide) o0) (.cons (sok_loadB (U := Un) (t := .int .i64) (rs := [(22, .loc 9 1)]) [.p .str a0] [.p I6 v14] [.p .err v15] (v := .p I6 v14) rfl rfl ty_3 o0 rfl rfl rfl rfl (.data (.one _ _))) (.cons (mv (U := Un) (v := .p .str a0) rfl rfl) (.cons (sok_lenS (U := Un) (rs := [(24, .p .str a0)]) rfl rfl Tryd.underlying9 o0) (.cons (sok_cmp (U := Un) (rs := [(23, .p I6 v14), (25, .p I6 ((a0.length : Int) : Int))]) rfl rfl o0 o1 rfl) (.cons (mv (U := Un) (v := .p .bool ((decide (v14 < (a0.length : Int))) : Bool)) rfl rfl) (.cons (sok_skip rfl rfl hc30) (.cons (sok_skip rfl rfl hc30) (.cons (sok_skip rfl rfl hc30) (.cons (sok_skip rfl rfl hc30) (.cons (sok_skip rfl rfl hc30) (.cons (sok_skip rfl rfl hc30) (.cons (sok_skip rfl rfl hc30) (.cons (sok_skip rfl rfl hc30) (.cons (sok_pickF (U := Un) (rs := [(27, .p .bool ((decide (v14 < (a0.length : Int))) : Bool))]) rfl rfl o0 hc30 (.bool _ _)) .nil))))))))))))))))) (by kernel_rfl) (by kernel_rfl) (by kernel_rfl) (Conv.refl (U := Un) _) ?_
                refine thenQ_normal ?_
                exact ⟨false, h, rfl⟩
            · rintro _ ⟨v27, h, rfl⟩
              unfold lex_Words.j29 at h
              refine WpC.cond (U := Un) (b := v27) (.tmp (.tail _ (.tail _ (.tail _ (.tail _ (.head _)))))) (fun hc28 => ?_) (fun hc28 => ?_)
              · replace h := ite_t hc28 h
                refine WpC.conv (Conv.keep (U := Un) (b := ⟨[(0, .p .str a0), (4, .loc 9 0), (5, .vec 1005 1 0 v3.length), (6, .vec 1006 4 0 v16.length)], [(9, .box [.p .str a0, .p I6 v14, .p .err v15]), (1005, .row 36 (.list (.named 3)) v3 false), (1006, .row 42 (.named 3) v16 false)]⟩) [0, 4, 5, 6] [9, 1005, 1006] (by kernel_rfl)) (WpC.skip ?_)
                refine thenQ_normal ?_
                exact ⟨h, rfl⟩
              · replace h := ite_f hc28 h
                refine WpC.conv (Conv.keep (U := Un) (b := ⟨[(0, .p .str a0), (4, .loc 9 0), (5, .vec 1005 1 0 v3.length), (6, .vec 1006 4 0 v16.length)], [(9, .box [.p .str a0, .p I6 v14, .p .err v15]), (1005, .row 36 (.list (.named 3)) v3 false), (1006, .row 42 (.named 3) v16 false)]⟩) [0, 4, 5, 6] [9, 1005, 1006] (by kernel_rfl)) (WpC.exit ?_)
                refine thenQ_exit ?_
                have hq := Option.some.inj h
                subst hq
                refine thenQ_exit ?_
                have h := hout22
                refine blockQ_hit ?_
                refine thenQ_normal ?_
                exact ⟨v14, v15, v16, h, rfl⟩
          · rintro _ ⟨h, rfl⟩
            unfold lex_Words.j26 at h
            refine WpC.block ?_
            refine WpC.seq ?_
            obtain ⟨v23, hv23, h⟩ := bind_some h
            obtain ⟨g24, h⟩ := if_some h
            refine WpC.reg (U := Un) (st1 := ⟨[(0, .p .str a0), (4, .loc 9 0), (5, .vec 1005 1 0 v3.length), (6, .vec 41 4 0 ((v16 ++ [v23.1]).length))], [(9, .box [.p .str a0, .p I6 v23.2.1, .p .err v23.2.2]), (41, .row 42 (.named 3) (v16 ++ [v23.1]) false), (1005, .row 36 (.list (.named 3)) v3 false)]⟩) [0, 4, 5, 6] [9, 41, 1005] hN (.cons (mv (U := Un) (v := .vec 1006 4 0 v16.length) rfl rfl) (.cons (mv (U := Un) (v := .loc 9 0) rfl rfl) (.cons (sok_callV (U := Un) (rs := [(38, .loc 9 0)]) (vw := []) rfl rfl (.func _) hb_47 (COk.ren (lex_reader_piece_m0.ok O hO k a0 v14 v15 v23 hv23) (fun n => if n = 100000 then 9 else n) (injOn_of (by kernel_rfl))) (.cons o0 .nil) (.cons (.same _) .nil) (by simp) (.inl rfl)) (.cons (sok_buildSlice (U := Un) (t := .named 3) (rs := [(39, .p (.named 3) v23.1)]) (ys := [.tmp 39]) (xs := [v23.1]) rfl rfl rfl rfl row_36 (.cons o0 .nil) (by decide)) (.cons (sok_append' (U := Un) (t := .named 3) (rs := [(37, .vec 1006 4 0 v16.length), (40, .vec 40 4 0 ([v23.1].length))]) (vw := [(40, .row 42 (.named 3) [v23.1] true)]) (xs := v16) (ys := [v23.1]) (fx := false) rfl rfl rfl row_36 (by decide) o0 o1 (.whole (.head _)) (by simp) g24) (.cons (mva (U := Un) (v := .vec 41 4 0 ((v16 ++ [v23.1]).length)) rfl rfl) .nil)))))) (by kernel_rfl) (by kernel_rfl) (by kernel_rfl) (Conv.refl (U := Un) _) ?_
            refine thenQ_normal ?_
            refine WpC.seq ?_
            refine WpC.reg (U := Un) (st1 := ⟨[(0, .p .str a0), (4, .loc 9 0), (5, .vec 1005 1 0 v3.length), (6, .vec 41 4 0 ((v16 ++ [v23.1]).length)), (46, .p .bool ((!(v23.2.2 == 0)) : Bool))], [(9, .box [.p .str a0, .p I6 v23.2.1, .p .err v23.2.2]), (41, .row 42 (.named 3) (v16 ++ [v23.1]) false), (1005, .row 36 (.list (.named 3)) v3 false)]⟩) [0, 4, 5, 6, 46] [9, 41, 1005] hN (.cons (mv (U := Un) (v := .loc 9 0) rfl rfl) (.cons (sok_nilCheck (U := Un) (rs := [(42, .loc 9 0)]) rfl rfl o0 rfl) (.cons (sok_fieldB (U := Un) (rs := [(43, .loc 9 0)]) rfl rfl fd_81_2 (by decide) o0) (.cons (sok_loadB (U := Un) (t := .err) (rs := [(44, .loc 9 2)]) [.p .str a0, .p I6 v23.2.1] [.p .err v23.2.2] [] (v := .p .err v23.2.2) rfl rfl ty_27 o0 rfl rfl rfl rfl (.data (.one _ _))) (.cons (sok_errNil (U := Un) (rs := [(45, .p .err v23.2.2)]) rfl rfl Tryd.underlying27 o0 rfl) .nil))))) (by kernel_rfl) (by kernel_rfl) (by kernel_rfl) (Conv.refl (U := Un) _) ?_
            refine thenQ_normal ?_
            refine WpC.cond (U := Un) (b := (!(v23.2.2 == 0))) (.tmp (.tail _ (.tail _ (.tail _ (.tail _ (.head _)))))) (fun hc25 => ?_) (fun hc25 => ?_)
            · replace h := ite_t hc25 h
              refine WpC.seq ?_
              refine WpC.regA (U := Un) (st1 := ⟨[(2, .lit (.slice none 0 0)), (3, .p .err v23.2.2)], []⟩) [2, 3] [] [[], [0], [0, 1], [0, 1, 2], [], [0, 1, 2, 3, 4]] mixed hN (.cons (mv (U := Un) (v := .loc 9 0) rfl rfl) (.cons (sok_nilCheck (U := Un) (rs := [(47, .loc 9 0)]) rfl rfl o0 rfl) (.cons (sok_fieldB (U := Un) (rs := [(48, .loc 9 0)]) rfl rfl fd_81_2 (by decide) o0) (.cons (sok_loadB (U := Un) (t := .err) (rs := [(49, .loc 9 2)]) [.p .str a0, .p I6 v23.2.1] [.p .err v23.2.2] [] (v := .p .err v23.2.2) rfl rfl ty_27 o0 rfl rfl rfl rfl (.data (.one _ _))) (.cons (sok_move (U := Un) (rs := []) rfl (.inr rfl) (.lit _ _ rfl)) (.cons (mva (U := Un) (v := .p .err v23.2.2) rfl rfl) .nil)))))) (by kernel_rfl) (by kernel_rfl) (by kernel_rfl) (by kernel_rfl) (by kernel_rfl) (Conv.refl (U := Un) _) ?_
              refine thenQ_normal ?_
              refine WpC.conv (Conv.trans (U := Un) (Conv.nilL (U := Un) 2 (.list (.named 3)) (.head _)) (Conv.keep (U := Un) (b := ⟨[(2, .p (.list (.list (.named 3))) ([] : List (List T_lex_Piece))), (3, .p .err v23.2.2)], []⟩) [2, 3] [] (by kernel_rfl))) (WpC.ret ?_)
              refine blockQ_ret ?_
              have hq := Option.some.inj h
              subst hq
              refine thenQ_ret ?_
              have h := hout22
              refine blockQ_ret ?_
              refine thenQ_ret ?_
              refine blockQ_ret ?_
              have hq := Option.some.inj h
              subst hq
              refine thenQ_ret ?_
              have h := hout6
              refine blockQ_ret ?_
              have hq := Option.some.inj h
              subst hq
              exact ends_ret (retV_2 rfl (.head _) (.tail _ (.head _))) ain_nil
            · replace h := ite_f hc25 h
              refine WpC.conv (Conv.trans (U := Un) (Conv.keep (U := Un) (b := ⟨[(0, .p .str a0), (4, .loc 9 0), (5, .vec 1005 1 0 v3.length), (6, .vec 41 4 0 ((v16 ++ [v23.1]).length))], [(9, .box [.p .str a0, .p I6 v23.2.1, .p .err v23.2.2]), (41, .row 42 (.named 3) (v16 ++ [v23.1]) false), (1005, .row 36 (.list (.named 3)) v3 false)]⟩) [0, 4, 5, 6] [9, 41, 1005] (by kernel_rfl)) (Conv.trans (U := Un) (Conv.ren (U := Un) (st' := ⟨[(0, .p .str a0), (4, .loc 9 0), (5, .vec 1005 1 0 v3.length), (6, .vec 1006 4 0 ((v16 ++ [v23.1]).length))], [(9, .box [.p .str a0, .p I6 v23.2.1, .p .err v23.2.2]), (1006, .row 42 (.named 3) (v16 ++ [v23.1]) false), (1005, .row 36 (.list (.named 3)) v3 false)]⟩) 41 1006 (by unfold K0; omega) (by kernel_rfl) (by kernel_rfl) (by kernel_rfl)) (Conv.keep (U := Un) (b := ⟨[(0, .p .str a0), (4, .loc 9 0), (5, .vec 1005 1 0 v3.length), (6, .vec 1006 4 0 ((v16 ++ [v23.1]).length))], [(9, .box [.p .str a0, .p I6 v23.2.1, .p .err v23.2.2]), (1005, .row 36 (.list (.named 3)) v3 false), (1006, .row 42 (.named 3) (v16 ++ [v23.1]) false)]⟩) [0, 4, 5, 6] [9, 1005, 1006] (by kernel_rfl)))) (WpC.skip ?_)
              refine blockQ_normal ?_
              refine thenQ_normal ?_
              exact ⟨n, Nat.lt_succ_self n, v23.2.1, v23.2.2, (v16 ++ [v23.1]), h, rfl⟩
      · rintro _ ⟨v9, v10, v11, h, rfl⟩
        unfold lex_Words.j13 at h
        obtain ⟨g12, h⟩ := if_some h
        refine WpC.reg (U := Un) (st1 := ⟨[(0, .p .str a0), (4, .loc 9 0), (5, .vec 54 1 0 ((v3 ++ [v11]).length))], [(9, .box [.p .str a0, .p I6 v9, .p .err v10]), (54, .row 36 (.list (.named 3)) (v3 ++ [v11]) false)]⟩) [0, 4, 5] [9, 54] hN (.cons (mv (U := Un) (v := .vec 1005 1 0 v3.length) rfl rfl) (.cons (mv (U := Un) (v := .vec 1006 4 0 v11.length) rfl rfl) (.cons (sok_give (U := Un) (E := 42) (ty := .named 3) (n := 1006) (xs := v11) (fx := false) [] [] (sok_buildSlice (U := Un) (t := .list (.named 3)) (rs := [(52, .p (.list (.named 3)) v11)]) (ys := [.tmp 52]) (xs := [v11]) rfl rfl rfl rfl row_33 (.cons o0 .nil) (by decide)) rfl (by first | rfl | (simp only [upd_length, List.length_replicate, List.length_append]; done) | (simp only [upd_length, List.length_replicate, List.length_append] at *; omega) | omega) (by kernel_rfl)) (.cons (sok_append' (U := Un) (t := .list (.named 3)) (rs := [(51, .vec 1005 1 0 v3.length), (53, .vec 53 1 0 ([v11].length))]) (vw := [(53, .row 36 (.list (.named 3)) [v11] true)]) (xs := v3) (ys := [v11]) (fx := false) rfl rfl rfl row_33 (by decide) o0 o1 (.whole (.head _)) (by simp) g12) (.cons (mva (U := Un) (v := .vec 54 1 0 ((v3 ++ [v11]).length)) rfl rfl) .nil))))) (by kernel_rfl) (by kernel_rfl) (by kernel_rfl) (Conv.trans (U := Un) (Conv.ren (U := Un) (st' := ⟨[(0, .p .str a0), (4, .loc 9 0), (5, .vec 1005 1 0 ((v3 ++ [v11]).length))], [(9, .box [.p .str a0, .p I6 v9, .p .err v10]), (1005, .row 36 (.list (.named 3)) (v3 ++ [v11]) false)]⟩) 54 1005 (by unfold K0; omega) (by kernel_rfl) (by kernel_rfl) (by kernel_rfl)) (Conv.keep (U := Un) (b := ⟨[(0, .p .str a0), (4, .loc 9 0), (5, .vec 1005 1 0 ((v3 ++ [v11]).length))], [(9, .box [.p .str a0, .p I6 v9, .p .err v10]), (1005, .row 36 (.list (.named 3)) (v3 ++ [v11]) false)]⟩) [0, 4, 5] [9, 1005] (by kernel_rfl))) ?_
        refine blockQ_normal ?_
        refine thenQ_normal ?_
        exact ⟨n, Nat.lt_succ_self n, v9, v10, (v3 ++ [v11]), h, rfl⟩

end Go.Proofs.YtnbnfjgedinlbabDoor
