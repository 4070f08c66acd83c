/- A part of the proof of a given law: LBC1. Own work, printed in part by a program of mine. -/
import Derived.Test.YtnbnfjgedinlbabDoorK3LBC0
namespace Go.Proofs.YtnbnfjgedinlbabDoor
open Go Go.AM
set_option linter.unusedVariables false
set_option linter.unusedSimpArgs false
set_option maxRecDepth 100000
theorem lex_run_m1.ok (O : Out) (hO : GOkL O) (k : Nat) (a0 : List UInt8) (a1 : Int) (out : Int) (h : lex_run_m1.f k a0 a1 = some out) : COk Un O Tryd.prog 66 { ar := [.p .str a0, .p I6 a1, .clo 75 []], r := .p I6 out } := by
  refine cok_of_wp Tryd.func66 rfl (k := 26) rfl (Nat.le_of_ble_eq_true rfl) (namesOk_pure rfl rfl rfl rfl) ?_
  intro B hN
  refine WpC.conv (Conv.keep (U := Un) (b := ⟨[(0, .p .str a0), (1, .p I6 a1), (2, .clo 75 [])], []⟩) [0, 1, 2] [] (by kernel_rfl)) ?_
  unfold lex_run_m1.f at h
  refine WpC.seq ?_
  refine WpC.reg (U := Un) (st1 := ⟨[(0, .p .str a0), (1, .p I6 a1), (2, .clo 75 [])], []⟩) [0, 1, 2] [] hN (.cons (sok_move (U := Un) (rs := []) rfl (.inr rfl) (.int _ _ _)) .nil) (by kernel_rfl) (by kernel_rfl) (by kernel_rfl) (Conv.refl (U := Un) _) ?_
  refine thenQ_normal ?_
  refine WpC.seq ?_
  refine WpC.reg (U := Un) (st1 := ⟨[(0, .p .str a0), (1, .p I6 a1), (2, .clo 75 []), (7, .p I6 (0 : Int))], []⟩) [0, 1, 2, 7] [] hN (.cons (sok_move (U := Un) (rs := []) rfl (.inr rfl) (.int _ _ _)) .nil) (by kernel_rfl) (by kernel_rfl) (by kernel_rfl) (Conv.refl (U := Un) _) ?_
  refine thenQ_normal ?_
  refine WpC.seqJ (U := Un) (fun st' => ∃ v1 : Int, lex_run_m1.j2 k v1 = some out ∧ st' = ⟨[(7, .p I6 v1)], []⟩) ?_ ?_
  · refine WpC.block ?_
    obtain ⟨o6, hlo6, h⟩ := bind_some h
    have hout7 := h
    clear h
    refine WpC.loop (U := Un) (fun n st' => ∃ v3 : Int, lex_run_m1.l4 k a0 a1 n v3 = some o6 ∧ st' = ⟨[(0, .p .str a0), (1, .p I6 a1), (2, .clo 75 []), (7, .p I6 v3)], []⟩) k ⟨0, hlo6, rfl⟩ ?_
    clear hlo6
    rintro (_ | n) _ ⟨v3, h, rfl⟩
    · cases h
    · rw [lex_run_m1.l4] at h
      refine WpC.seqJ (U := Un) (fun st' => lex_run_m1.j8 k (lex_run_m1.l4 k a0 a1 n) a0 a1 v3 = some o6 ∧ st' = ⟨[(0, .p .str a0), (1, .p I6 a1), (2, .clo 75 []), (7, .p I6 v3)], []⟩) ?_ ?_
      · refine WpC.seqJ (U := Un) (fun st' => ∃ v9 : Bool, lex_run_m1.j11 k (lex_run_m1.l4 k a0 a1 n) a0 a1 v3 v9 = some o6 ∧ st' = ⟨[(0, .p .str a0), (1, .p I6 a1), (2, .clo 75 []), (7, .p I6 v3), (22, .p .bool v9)], []⟩) ?_ ?_
        · rcases bool_cases (decide ((IntKind.i64.wrap (a1 + v3)) < (a0.length : Int))) with hc12 | hc12
          · replace h := ite_t hc12 h
            obtain ⟨v13, hv13, h⟩ := bind_some h
            obtain ⟨v14, hv14, h⟩ := bind_some h
            refine WpC.reg (U := Un) (st1 := ⟨[(0, .p .str a0), (1, .p I6 a1), (2, .clo 75 []), (7, .p I6 v3), (22, .p .bool v14)], []⟩) [0, 1, 2, 7, 22] [] hN (.cons (mv (U := Un) (v := .p I6 a1) rfl rfl) (.cons (mv (U := Un) (v := .p I6 v3) rfl rfl) (.cons (sok_arith (U := Un) (rs := [(8, .p I6 a1), (9, .p I6 v3)]) rfl rfl o0 o1 rfl) (.cons (mv (U := Un) (v := .p .str a0) rfl rfl) (.cons (sok_lenS (U := Un) (rs := [(11, .p .str a0)]) rfl rfl Tryd.underlying9 o0) (.cons (sok_cmp (U := Un) (rs := [(10, .p I6 ((IntKind.i64.wrap (a1 + v3)) : Int)), (12, .p I6 ((a0.length : Int) : Int))]) rfl rfl o0 o1 rfl) (.cons (mv (U := Un) (v := .p .bool ((decide ((IntKind.i64.wrap (a1 + v3)) < (a0.length : Int))) : Bool)) rfl rfl) (.cons (sok_run rfl rfl hc12 (mv (U := Un) (v := .clo 75 []) rfl rfl)) (.cons (sok_run rfl rfl hc12 (mv (U := Un) (v := .p .str a0) rfl rfl)) (.cons (sok_run rfl rfl hc12 (mv (U := Un) (v := .p I6 a1) rfl rfl)) (.cons (sok_run rfl rfl hc12 (mv (U := Un) (v := .p I6 v3) rfl rfl)) (.cons (sok_run rfl rfl hc12 (sok_arith (U := Un) (rs := [(17, .p I6 a1), (18, .p I6 v3)]) rfl rfl o0 o1 rfl)) (.cons (sok_run rfl rfl hc12 (sok_indexS (U := Un) (rs := [(16, .p .str a0), (19, .p I6 ((IntKind.i64.wrap (a1 + v3)) : Int))]) rfl rfl Tryd.underlying9 o0 o1 hv13)) (.cons (sok_run rfl rfl hc12 (sok_callV (U := Un) (rs := [(20, .p (.int .u8) ((v13.toNat : Int) : Int)), (15, .clo 75 [])]) (vw := []) rfl rfl (.clo o1) hb_75 (lex_letter.ok O hO k (v13.toNat : Int) v14 hv14) (.cons o0 .nil) (.cons (.same _) .nil) (by simp) (.inl rfl))) (.cons (sok_pickT (U := Un) (rs := [(14, .p .bool ((decide ((IntKind.i64.wrap (a1 + v3)) < (a0.length : Int))) : Bool)), (21, .p .bool v14)]) rfl rfl o0 hc12 o1) .nil))))))))))))))) (by kernel_rfl) (by kernel_rfl) (by kernel_rfl) (Conv.refl (U := Un) _) ?_
            refine thenQ_normal ?_
            exact ⟨v14, h, rfl⟩
          · replace h := ite_f hc12 h
            refine WpC.reg (U := Un) (st1 := ⟨[(0, .p .str a0), (1, .p I6 a1), (2, .clo 75 []), (7, .p I6 v3), (22, .p .bool false)], []⟩) [0, 1, 2, 7, 22] [] hN (.cons (mv (U := Un) (v := .p I6 a1) rfl rfl) (.cons (mv (U := Un) (v := .p I6 v3) rfl rfl) (.cons (sok_arith (U := Un) (rs := [(8, .p I6 a1), (9, .p I6 v3)]) rfl rfl o0 o1 rfl) (.cons (mv (U := Un) (v := .p .str a0) rfl rfl) (.cons (sok_lenS (U := Un) (rs := [(11, .p .str a0)]) rfl rfl Tryd.underlying9 o0) (.cons (sok_cmp (U := Un) (rs := [(10, .p I6 ((IntKind.i64.wrap (a1 + v3)) : Int)), (12, .p I6 ((a0.length : Int) : Int))]) rfl rfl o0 o1 rfl) (.cons (mv (U := Un) (v := .p .bool ((decide ((IntKind.i64.wrap (a1 + v3)) < (a0.length : Int))) : Bool)) rfl rfl) (.cons (sok_skip rfl rfl hc12) (.cons (sok_skip rfl rfl hc12) (.cons (sok_skip rfl rfl hc12) (.cons (sok_skip rfl rfl hc12) (.cons (sok_skip rfl rfl hc12) (.cons (sok_skip rfl rfl hc12) (.cons (sok_skip rfl rfl hc12) (.cons (sok_pickF (U := Un) (rs := [(14, .p .bool ((decide ((IntKind.i64.wrap (a1 + v3)) < (a0.length : Int))) : Bool))]) rfl rfl o0 hc12 (.bool _ _)) .nil))))))))))))))) (by kernel_rfl) (by kernel_rfl) (by kernel_rfl) (Conv.refl (U := Un) _) ?_
            refine thenQ_normal ?_
            exact ⟨false, h, rfl⟩
        · rintro _ ⟨v9, h, rfl⟩
          unfold lex_run_m1.j11 at h
          refine WpC.cond (U := Un) (b := v9) (.tmp (.tail _ (.tail _ (.tail _ (.tail _ (.head _)))))) (fun hc10 => ?_) (fun hc10 => ?_)
          · replace h := ite_t hc10 h
            refine WpC.conv (Conv.keep (U := Un) (b := ⟨[(0, .p .str a0), (1, .p I6 a1), (2, .clo 75 []), (7, .p I6 v3)], []⟩) [0, 1, 2, 7] [] (by kernel_rfl)) (WpC.skip ?_)
            refine thenQ_normal ?_
            exact ⟨h, rfl⟩
          · replace h := ite_f hc10 h
            refine WpC.conv (Conv.keep (U := Un) (b := ⟨[(7, .p I6 v3)], []⟩) [7] [] (by kernel_rfl)) (WpC.exit ?_)
            refine thenQ_exit ?_
            have hq := Option.some.inj h
            subst hq
            refine thenQ_exit ?_
            have h := hout7
            refine blockQ_hit ?_
            refine thenQ_normal ?_
            exact ⟨v3, h, rfl⟩
      · rintro _ ⟨h, rfl⟩
        unfold lex_run_m1.j8 at h
        refine WpC.block ?_
        refine WpC.reg (U := Un) (st1 := ⟨[(0, .p .str a0), (1, .p I6 a1), (2, .clo 75 []), (7, .p I6 ((IntKind.i64.wrap (v3 + 1)) : Int))], []⟩) [0, 1, 2, 7] [] hN (.cons (mv (U := Un) (v := .p I6 v3) rfl rfl) (.cons (sok_arith (U := Un) (rs := [(23, .p I6 v3)]) rfl rfl o0 (.int _ _ _) rfl) (.cons (mva (U := Un) (v := .p I6 ((IntKind.i64.wrap (v3 + 1)) : Int)) rfl rfl) .nil))) (by kernel_rfl) (by kernel_rfl) (by kernel_rfl) (Conv.refl (U := Un) _) ?_
        refine blockQ_normal ?_
        refine thenQ_normal ?_
        exact ⟨n, Nat.lt_succ_self n, (IntKind.i64.wrap (v3 + 1)), h, rfl⟩
  · rintro _ ⟨v1, h, rfl⟩
    unfold lex_run_m1.j2 at h
    refine WpC.seq ?_
    refine WpC.reg (U := Un) (st1 := ⟨[(6, .p I6 v1)], []⟩) [6] [] hN (.cons (mv (U := Un) (v := .p I6 v1) rfl rfl) (.cons (mva (U := Un) (v := .p I6 v1) rfl rfl) .nil)) (by kernel_rfl) (by kernel_rfl) (by kernel_rfl) (Conv.refl (U := Un) _) ?_
    refine thenQ_normal ?_
    refine WpC.ret ?_
    have hq := Option.some.inj h
    subst hq
    exact ends_ret (retV_1 rfl (.head _)) ain_nil

theorem lex_reader_take_m1.ok (O : Out) (hO : GOkL O) (k : Nat) (a0 : List UInt8) (a1 : Int) (a2 : Nat) (out : (List UInt8) × Int) (h : lex_reader_take_m1.f k a0 a1 a2 = some out) : COk Un O Tryd.prog 45 { ar := [.loc 100000 0, .clo 75 []], r := .p .str out.1, bs := [(100000, .box [.p .str a0, .p I6 a1, .p .err a2])], bs' := [(100000, .box [.p .str a0, .p I6 out.2, .p .err a2])] } := by
  refine cok_of_wp Tryd.func45 rfl (k := 39) rfl (Nat.le_of_ble_eq_true rfl) (namesOk_of (by kernel_rfl)) ?_
  intro B hN
  refine WpC.conv (Conv.keep (U := Un) (b := ⟨[(0, .loc 100000 0), (1, .clo 75 [])], [(100000, .box [.p .str a0, .p I6 a1, .p .err a2])]⟩) [0, 1] [100000] (by kernel_rfl)) ?_
  unfold lex_reader_take_m1.f at h
  refine WpC.seq ?_
  refine WpC.reg (U := Un) (st1 := ⟨[(0, .loc 100000 0), (1, .clo 75 [])], [(100000, .box [.p .str a0, .p I6 a1, .p .err a2])]⟩) [0, 1] [100000] hN (.cons (sok_move (U := Un) (rs := []) rfl (.inr rfl) (.str _ _)) .nil) (by kernel_rfl) (by kernel_rfl) (by kernel_rfl) (Conv.refl (U := Un) _) ?_
  refine thenQ_normal ?_
  refine WpC.seq ?_
  obtain ⟨v1, hv1, h⟩ := bind_some h
  refine WpC.regA (U := Un) (st1 := ⟨[(0, .loc 100000 0), (5, .p I6 v1)], [(100000, .box [.p .str a0, .p I6 a1, .p .err a2])]⟩) [0, 5] [100000] [[], [0], [0, 1], [0, 1, 2], [], [4], [4, 5], [4, 5, 6], [], [0, 1, 2, 3, 4, 5, 6, 7, 8], [0, 1, 2, 3, 4, 5, 6, 7, 8, 9]] mixed hN (.cons (mv (U := Un) (v := .loc 100000 0) rfl rfl) (.cons (sok_nilCheck (U := Un) (rs := [(6, .loc 100000 0)]) rfl rfl o0 rfl) (.cons (sok_fieldB (U := Un) (rs := [(7, .loc 100000 0)]) rfl rfl fd_81_0 (by decide) o0) (.cons (sok_loadB (U := Un) (t := .str) (rs := [(8, .loc 100000 0)]) [] [.p .str a0] [.p I6 a1, .p .err a2] (v := .p .str a0) rfl rfl ty_9 o0 rfl rfl rfl rfl (.data (.one _ _))) (.cons (mv (U := Un) (v := .loc 100000 0) rfl rfl) (.cons (sok_nilCheck (U := Un) (rs := [(10, .loc 100000 0)]) rfl rfl o0 rfl) (.cons (sok_fieldB (U := Un) (rs := [(11, .loc 100000 0)]) rfl rfl fd_81_1 (by decide) o0) (.cons (sok_loadB (U := Un) (t := .int .i64) (rs := [(12, .loc 100000 1)]) [.p .str a0] [.p I6 a1] [.p .err a2] (v := .p I6 a1) rfl rfl ty_3 o0 rfl rfl rfl rfl (.data (.one _ _))) (.cons (mv (U := Un) (v := .clo 75 []) rfl rfl) (.cons (sok_callV (U := Un) (rs := [(9, .p .str a0), (13, .p I6 a1), (14, .clo 75 [])]) (vw := []) rfl rfl (.func _) hb_66 (lex_run_m1.ok O hO k a0 a1 v1 hv1) (.cons o0 (.cons o1 (.cons (.tmp (.tail _ (.tail _ (.head _)))) .nil))) (.cons (.same _) (.cons (.same _) (.cons (.same _) .nil))) (by simp) (.inl rfl)) (.cons (mva (U := Un) (v := .p I6 v1) rfl rfl) .nil))))))))))) (by kernel_rfl) (by kernel_rfl) (by kernel_rfl) (by kernel_rfl) (by kernel_rfl) (Conv.refl (U := Un) _) ?_
  refine thenQ_normal ?_
  refine WpC.seq ?_
  refine WpC.reg (U := Un) (st1 := ⟨[(0, .loc 100000 0), (5, .p I6 v1)], [(100000, .box [.p .str a0, .p I6 ((IntKind.i64.wrap (a1 + v1)) : Int), .p .err a2])]⟩) [0, 5] [100000] hN (.cons (mv (U := Un) (v := .loc 100000 0) rfl rfl) (.cons (sok_nilCheck (U := Un) (rs := [(16, .loc 100000 0)]) rfl rfl o0 rfl) (.cons (sok_fieldB (U := Un) (rs := [(17, .loc 100000 0)]) rfl rfl fd_81_1 (by decide) o0) (.cons (sok_loadB (U := Un) (t := .int .i64) (rs := [(18, .loc 100000 1)]) [.p .str a0] [.p I6 a1] [.p .err a2] (v := .p I6 a1) rfl rfl ty_3 o0 rfl rfl rfl rfl (.data (.one _ _))) (.cons (mv (U := Un) (v := .p I6 v1) rfl rfl) (.cons (sok_arith (U := Un) (rs := [(19, .p I6 a1), (20, .p I6 v1)]) rfl rfl o0 o1 rfl) (.cons (sok_nilCheck (U := Un) (rs := [(16, .loc 100000 0)]) rfl rfl o0 rfl) (.cons (sok_fieldB (U := Un) (rs := [(22, .loc 100000 0)]) rfl rfl fd_81_1 (by decide) o0) (.cons (sok_storeB (U := Un) (rs := [(23, .loc 100000 1), (21, .p I6 ((IntKind.i64.wrap (a1 + v1)) : Int))]) (v := .p I6 ((IntKind.i64.wrap (a1 + v1)) : Int)) (mid' := [.p I6 ((IntKind.i64.wrap (a1 + v1)) : Int)]) [.p .str a0] [.p I6 a1] [.p .err a2] rfl rfl rfl ty_3 o0 o1 (.data (.one _ _)) rfl rfl rfl rfl rfl rfl) .nil))))))))) (by kernel_rfl) (by kernel_rfl) (by kernel_rfl) (Conv.refl (U := Un) _) ?_
  refine thenQ_normal ?_
  refine WpC.seq ?_
  obtain ⟨v2, hv2, h⟩ := bind_some h
  refine WpC.regA (U := Un) (st1 := ⟨[(4, .p .str v2)], [(100000, .box [.p .str a0, .p I6 ((IntKind.i64.wrap (a1 + v1)) : Int), .p .err a2])]⟩) [4] [100000] [[], [0], [0, 1], [0, 1, 2], [], [4], [4, 5], [4, 5, 6], [], [4, 5, 6, 7, 8], [], [10], [10, 11], [10, 11, 12], [0, 1, 2, 3, 4, 5, 6, 7, 8, 9, 10, 11, 12, 13], [0, 1, 2, 3, 4, 5, 6, 7, 8, 9, 10, 11, 12, 13, 14]] mixed hN (.cons (mv (U := Un) (v := .loc 100000 0) rfl rfl) (.cons (sok_nilCheck (U := Un) (rs := [(24, .loc 100000 0)]) rfl rfl o0 rfl) (.cons (sok_fieldB (U := Un) (rs := [(25, .loc 100000 0)]) rfl rfl fd_81_0 (by decide) o0) (.cons (sok_loadB (U := Un) (t := .str) (rs := [(26, .loc 100000 0)]) [] [.p .str a0] [.p I6 ((IntKind.i64.wrap (a1 + v1)) : Int), .p .err a2] (v := .p .str a0) rfl rfl ty_9 o0 rfl rfl rfl rfl (.data (.one _ _))) (.cons (mv (U := Un) (v := .loc 100000 0) rfl rfl) (.cons (sok_nilCheck (U := Un) (rs := [(28, .loc 100000 0)]) rfl rfl o0 rfl) (.cons (sok_fieldB (U := Un) (rs := [(29, .loc 100000 0)]) rfl rfl fd_81_1 (by decide) o0) (.cons (sok_loadB (U := Un) (t := .int .i64) (rs := [(30, .loc 100000 1)]) [.p .str a0] [.p I6 ((IntKind.i64.wrap (a1 + v1)) : Int)] [.p .err a2] (v := .p I6 ((IntKind.i64.wrap (a1 + v1)) : Int)) rfl rfl ty_3 o0 rfl rfl rfl rfl (.data (.one _ _))) (.cons (mv (U := Un) (v := .p I6 v1) rfl rfl) (.cons (sok_arith (U := Un) (rs := [(31, .p I6 ((IntKind.i64.wrap (a1 + v1)) : Int)), (32, .p I6 v1)]) rfl rfl o0 o1 rfl) (.cons (mv (U := Un) (v := .loc 100000 0) rfl rfl) (.cons (sok_nilCheck (U := Un) (rs := [(34, .loc 100000 0)]) rfl rfl o0 rfl) (.cons (sok_fieldB (U := Un) (rs := [(35, .loc 100000 0)]) rfl rfl fd_81_1 (by decide) o0) (.cons (sok_loadB (U := Un) (t := .int .i64) (rs := [(36, .loc 100000 1)]) [.p .str a0] [.p I6 ((IntKind.i64.wrap (a1 + v1)) : Int)] [.p .err a2] (v := .p I6 ((IntKind.i64.wrap (a1 + v1)) : Int)) rfl rfl ty_3 o0 rfl rfl rfl rfl (.data (.one _ _))) (.cons (sok_sliceS (U := Un) (rs := [(27, .p .str a0), (33, .p I6 ((IntKind.i64.wrap ((IntKind.i64.wrap (a1 + v1)) - v1)) : Int)), (37, .p I6 ((IntKind.i64.wrap (a1 + v1)) : Int))]) rfl rfl Tryd.underlying9 o0 (.at o1) (.at (.tmp (.tail _ (.tail _ (.head _))))) hv2) (.cons (mva (U := Un) (v := .p .str v2) rfl rfl) .nil)))))))))))))))) (by kernel_rfl) (by kernel_rfl) (by kernel_rfl) (by kernel_rfl) (by kernel_rfl) (Conv.refl (U := Un) _) ?_
  refine thenQ_normal ?_
  refine WpC.ret ?_
  have hq := Option.some.inj h
  subst hq
  exact ends_ret (retV_1 rfl (.head _)) (ain_cons (.head _) ain_nil)

theorem lex_Name.ok (O : Out) (hO : GOkL O) (k : Nat) (a0 : List UInt8) (out : Bool) (h : lex_Name.f k a0 = some out) : COk Un O Tryd.prog 55 { ar := [.p .str a0], r := .p .bool out } := by
  refine cok_of_wp Tryd.func55 rfl (k := 17) rfl (Nat.le_of_ble_eq_true rfl) (namesOk_pure rfl rfl rfl rfl) ?_
  intro B hN
  refine WpC.conv (Conv.keep (U := Un) (b := ⟨[(0, .p .str a0)], []⟩) [0] [] (by kernel_rfl)) ?_
  unfold lex_Name.f at h
  refine WpC.seq ?_
  refine WpC.reg (U := Un) (st1 := ⟨[(0, .p .str a0)], []⟩) [0] [] hN (.cons (sok_move (U := Un) (rs := []) rfl (.inr rfl) (.bool _ _)) .nil) (by kernel_rfl) (by kernel_rfl) (by kernel_rfl) (Conv.refl (U := Un) _) ?_
  refine thenQ_normal ?_
  refine WpC.seq ?_
  rcases bool_cases (!(a0 == ([] : List UInt8))) with hc1 | hc1
  · replace h := ite_t hc1 h
    rcases bool_cases (decide ((a0.length : Int) ≤ 12)) with hc2 | hc2
    · replace h := ite_t hc2 h
      obtain ⟨v3, hv3, h⟩ := bind_some h
      refine WpC.reg (U := Un) (st1 := ⟨[(2, .p .bool ((v3 == (a0.length : Int)) : Bool))], []⟩) [2] [] hN (.cons (mv (U := Un) (v := .p .str a0) rfl rfl) (.cons (sok_cmpS (U := Un) (rs := [(3, .p .str a0)]) rfl rfl o0 (.str _ _) rfl) (.cons (mv (U := Un) (v := .p .bool ((!(a0 == ([] : List UInt8))) : Bool)) rfl rfl) (.cons (sok_run rfl rfl hc1 (mv (U := Un) (v := .p .str a0) rfl rfl)) (.cons (sok_run rfl rfl hc1 (sok_lenS (U := Un) (rs := [(6, .p .str a0)]) rfl rfl Tryd.underlying9 o0)) (.cons (sok_run rfl rfl hc1 (sok_cmp (U := Un) (rs := [(7, .p I6 ((a0.length : Int) : Int))]) rfl rfl o0 (.int _ _ _) rfl)) (.cons (sok_pickT (U := Un) (rs := [(5, .p .bool ((!(a0 == ([] : List UInt8))) : Bool)), (8, .p .bool ((decide ((a0.length : Int) ≤ 12)) : Bool))]) rfl rfl o0 hc1 o1) (.cons (mv (U := Un) (v := .p .bool ((decide ((a0.length : Int) ≤ 12)) : Bool)) rfl rfl) (.cons (sok_run rfl rfl hc2 (mv (U := Un) (v := .p .str a0) rfl rfl)) (.cons (sok_run rfl rfl hc2 (sok_callV (U := Un) (rs := [(11, .p .str a0)]) (vw := []) rfl rfl (.func _) hb_66 (lex_run_m1.ok O hO k a0 0 v3 hv3) (.cons o0 (.cons (.int _ _ _) (.cons (.func _ _) .nil))) (.cons (.same _) (.cons (.same _) (.cons (.same _) .nil))) (by simp) (.inl rfl))) (.cons (sok_run rfl rfl hc2 (mv (U := Un) (v := .p .str a0) rfl rfl)) (.cons (sok_run rfl rfl hc2 (sok_lenS (U := Un) (rs := [(13, .p .str a0)]) rfl rfl Tryd.underlying9 o0)) (.cons (sok_run rfl rfl hc2 (sok_cmp (U := Un) (rs := [(12, .p I6 v3), (14, .p I6 ((a0.length : Int) : Int))]) rfl rfl o0 o1 rfl)) (.cons (sok_pickT (U := Un) (rs := [(10, .p .bool ((decide ((a0.length : Int) ≤ 12)) : Bool)), (15, .p .bool ((v3 == (a0.length : Int)) : Bool))]) rfl rfl o0 hc2 o1) (.cons (mva (U := Un) (v := .p .bool ((v3 == (a0.length : Int)) : Bool)) rfl rfl) .nil))))))))))))))) (by kernel_rfl) (by kernel_rfl) (by kernel_rfl) (Conv.refl (U := Un) _) ?_
      refine thenQ_normal ?_
      refine WpC.ret ?_
      have hq := Option.some.inj h
      subst hq
      exact ends_ret (retV_1 rfl (.head _)) ain_nil
    · replace h := ite_f hc2 h
      refine WpC.reg (U := Un) (st1 := ⟨[(2, .p .bool false)], []⟩) [2] [] hN (.cons (mv (U := Un) (v := .p .str a0) rfl rfl) (.cons (sok_cmpS (U := Un) (rs := [(3, .p .str a0)]) rfl rfl o0 (.str _ _) rfl) (.cons (mv (U := Un) (v := .p .bool ((!(a0 == ([] : List UInt8))) : Bool)) rfl rfl) (.cons (sok_run rfl rfl hc1 (mv (U := Un) (v := .p .str a0) rfl rfl)) (.cons (sok_run rfl rfl hc1 (sok_lenS (U := Un) (rs := [(6, .p .str a0)]) rfl rfl Tryd.underlying9 o0)) (.cons (sok_run rfl rfl hc1 (sok_cmp (U := Un) (rs := [(7, .p I6 ((a0.length : Int) : Int))]) rfl rfl o0 (.int _ _ _) rfl)) (.cons (sok_pickT (U := Un) (rs := [(5, .p .bool ((!(a0 == ([] : List UInt8))) : Bool)), (8, .p .bool ((decide ((a0.length : Int) ≤ 12)) : Bool))]) rfl rfl o0 hc1 o1) (.cons (mv (U := Un) (v := .p .bool ((decide ((a0.length : Int) ≤ 12)) : Bool)) rfl rfl) (.cons (sok_skip rfl rfl hc2) (.cons (sok_skip rfl rfl hc2) (.cons (sok_skip rfl rfl hc2) (.cons (sok_skip rfl rfl hc2) (.cons (sok_skip rfl rfl hc2) (.cons (sok_pickF (U := Un) (rs := [(10, .p .bool ((decide ((a0.length : Int) ≤ 12)) : Bool))]) rfl rfl o0 hc2 (.bool _ _)) (.cons (mva (U := Un) (v := .p .bool false) rfl rfl) .nil))))))))))))))) (by kernel_rfl) (by kernel_rfl) (by kernel_rfl) (Conv.refl (U := Un) _) ?_
      refine thenQ_normal ?_
      refine WpC.ret ?_
      have hq := Option.some.inj h
      subst hq
      exact ends_ret (retV_1 rfl (.head _)) ain_nil
  · replace h := ite_f hc1 h
    refine WpC.reg (U := Un) (st1 := ⟨[(2, .p .bool false)], []⟩) [2] [] hN (.cons (mv (U := Un) (v := .p .str a0) rfl rfl) (.cons (sok_cmpS (U := Un) (rs := [(3, .p .str a0)]) rfl rfl o0 (.str _ _) rfl) (.cons (mv (U := Un) (v := .p .bool ((!(a0 == ([] : List UInt8))) : Bool)) rfl rfl) (.cons (sok_skip rfl rfl hc1) (.cons (sok_skip rfl rfl hc1) (.cons (sok_skip rfl rfl hc1) (.cons (sok_pickF (U := Un) (rs := [(5, .p .bool ((!(a0 == ([] : List UInt8))) : Bool))]) rfl rfl o0 hc1 (.bool _ _)) (.cons (mv (U := Un) (v := .p .bool false) rfl rfl) (.cons (sok_skip rfl rfl rfl) (.cons (sok_skip rfl rfl rfl) (.cons (sok_skip rfl rfl rfl) (.cons (sok_skip rfl rfl rfl) (.cons (sok_skip rfl rfl rfl) (.cons (sok_pickF (U := Un) (rs := [(10, .p .bool false)]) rfl rfl o0 rfl (.bool _ _)) (.cons (mva (U := Un) (v := .p .bool false) rfl rfl) .nil))))))))))))))) (by kernel_rfl) (by kernel_rfl) (by kernel_rfl) (Conv.refl (U := Un) _) ?_
    refine thenQ_normal ?_
    refine WpC.ret ?_
    have hq := Option.some.inj h
    subst hq
    exact ends_ret (retV_1 rfl (.head _)) ain_nil

theorem lex_reader_name_m0.ok (O : Out) (hO : GOkL O) (k : Nat) (a0 : List UInt8) (a1 : Int) (a2 : Nat) (out : (List UInt8) × Int × Nat) (h : lex_reader_name_m0.f k a0 a1 a2 = some out) : COk Un O Tryd.prog 88 { ar := [.loc 100000 0], r := .p .str out.1, bs := [(100000, .box [.p .str a0, .p I6 a1, .p .err a2])], bs' := [(100000, .box [.p .str a0, .p I6 out.2.1, .p .err out.2.2])] } := by
  refine cok_of_wp Tryd.func88 rfl (k := 13) rfl (Nat.le_of_ble_eq_true rfl) (namesOk_of (by kernel_rfl)) ?_
  intro B hN
  refine WpC.conv (Conv.keep (U := Un) (b := ⟨[(0, .loc 100000 0)], [(100000, .box [.p .str a0, .p I6 a1, .p .err a2])]⟩) [0] [100000] (by kernel_rfl)) ?_
  unfold lex_reader_name_m0.f at h
  refine WpC.seq ?_
  refine WpC.reg (U := Un) (st1 := ⟨[(0, .loc 100000 0)], [(100000, .box [.p .str a0, .p I6 a1, .p .err a2])]⟩) [0] [100000] hN (.cons (sok_move (U := Un) (rs := []) rfl (.inr rfl) (.str _ _)) .nil) (by kernel_rfl) (by kernel_rfl) (by kernel_rfl) (Conv.refl (U := Un) _) ?_
  refine thenQ_normal ?_
  refine WpC.seq ?_
  obtain ⟨v1, hv1, h⟩ := bind_some h
  refine WpC.reg (U := Un) (st1 := ⟨[(0, .loc 100000 0), (3, .p .str v1.1)], [(100000, .box [.p .str a0, .p I6 v1.2, .p .err a2])]⟩) [0, 3] [100000] hN (.cons (mv (U := Un) (v := .loc 100000 0) rfl rfl) (.cons (sok_callV (U := Un) (rs := [(4, .loc 100000 0)]) (vw := []) rfl rfl (.func _) hb_45 (COk.ren (lex_reader_take_m1.ok O hO k a0 a1 a2 v1 hv1) (fun n => if n = 100000 then 100000 else n) (injOn_of (by kernel_rfl))) (.cons o0 (.cons (.func _ _) .nil)) (.cons (.same _) (.cons (.same _) .nil)) (by simp) (.inl rfl)) (.cons (mva (U := Un) (v := .p .str v1.1) rfl rfl) .nil))) (by kernel_rfl) (by kernel_rfl) (by kernel_rfl) (Conv.refl (U := Un) _) ?_
  refine thenQ_normal ?_
  refine WpC.seqJ (U := Un) (fun st' => ∃ v2 : Nat, lex_reader_name_m0.j3 k a0 v1 v2 = some out ∧ st' = ⟨[(3, .p .str v1.1)], [(100000, .box [.p .str a0, .p I6 v1.2, .p .err v2])]⟩) ?_ ?_
  · refine WpC.seq ?_
    obtain ⟨v4, hv4, h⟩ := bind_some h
    refine WpC.reg (U := Un) (st1 := ⟨[(0, .loc 100000 0), (3, .p .str v1.1), (8, .p .bool ((!v4) : Bool))], [(100000, .box [.p .str a0, .p I6 v1.2, .p .err a2])]⟩) [0, 3, 8] [100000] hN (.cons (mv (U := Un) (v := .p .str v1.1) rfl rfl) (.cons (sok_callV (U := Un) (rs := [(6, .p .str v1.1)]) (vw := []) rfl rfl (.func _) hb_55 (lex_Name.ok O hO k v1.1 v4 hv4) (.cons o0 .nil) (.cons (.same _) .nil) (by simp) (.inl rfl)) (.cons (sok_not (U := Un) (rs := [(7, .p .bool v4)]) rfl rfl o0) .nil))) (by kernel_rfl) (by kernel_rfl) (by kernel_rfl) (Conv.refl (U := Un) _) ?_
    refine thenQ_normal ?_
    refine WpC.cond (U := Un) (b := (!v4)) (.tmp (.tail _ (.tail _ (.head _)))) (fun hc5 => ?_) (fun hc5 => ?_)
    · replace h := ite_t hc5 h
      obtain ⟨v6, hv6, h⟩ := bind_some h
      refine WpC.reg (U := Un) (st1 := ⟨[(3, .p .str v1.1)], [(100000, .box [.p .str a0, .p I6 v1.2, .p .err v6])]⟩) [3] [100000] hN (.cons (mv (U := Un) (v := .loc 100000 0) rfl rfl) (.cons (sok_loadG (U := Un) (t := .err) (rs := []) rfl rfl ty_27 rfl rfl (hO.var 3 1 rfl) (fun S w => .err 3)) (.cons (sok_callV (U := Un) (rs := [(9, .loc 100000 0), (10, .p .err (4 : Nat))]) (vw := []) rfl rfl (.func _) hb_86 (COk.ren (lex_reader_fail_m0.ok O hO k a0 v1.2 a2 4 v6 hv6) (fun n => if n = 100000 then 100000 else n) (injOn_of (by kernel_rfl))) (.cons o0 (.cons o1 .nil)) (.cons (.same _) (.cons (.same _) .nil)) (by simp) (.inl rfl)) .nil))) (by kernel_rfl) (by kernel_rfl) (by kernel_rfl) (Conv.refl (U := Un) _) ?_
      refine thenQ_normal ?_
      exact ⟨v6, h, rfl⟩
    · replace h := ite_f hc5 h
      refine WpC.conv (Conv.keep (U := Un) (b := ⟨[(3, .p .str v1.1)], [(100000, .box [.p .str a0, .p I6 v1.2, .p .err a2])]⟩) [3] [100000] (by kernel_rfl)) (WpC.skip ?_)
      refine thenQ_normal ?_
      exact ⟨a2, h, rfl⟩
  · rintro _ ⟨v2, h, rfl⟩
    unfold lex_reader_name_m0.j3 at h
    refine WpC.seq ?_
    refine WpC.reg (U := Un) (st1 := ⟨[(2, .p .str v1.1)], [(100000, .box [.p .str a0, .p I6 v1.2, .p .err v2])]⟩) [2] [100000] hN (.cons (mv (U := Un) (v := .p .str v1.1) rfl rfl) (.cons (mva (U := Un) (v := .p .str v1.1) rfl rfl) .nil)) (by kernel_rfl) (by kernel_rfl) (by kernel_rfl) (Conv.refl (U := Un) _) ?_
    refine thenQ_normal ?_
    refine WpC.ret ?_
    have hq := Option.some.inj h
    subst hq
    exact ends_ret (retV_1 rfl (.head _)) (ain_cons (.head _) ain_nil)

theorem lex_plain.ok (O : Out) (hO : GOkL O) (k : Nat) (a0 : Int) (out : Bool) (h : lex_plain.f k a0 = some out) : COk Un O Tryd.prog 71 { ar := [.p (.int .u8) a0], r := .p .bool out } := by
  refine cok_of_wp Tryd.func71 rfl (k := 18) rfl (Nat.le_of_ble_eq_true rfl) (namesOk_pure rfl rfl rfl rfl) ?_
  intro B hN
  refine WpC.conv (Conv.keep (U := Un) (b := ⟨[(0, .p (.int .u8) a0)], []⟩) [0] [] (by kernel_rfl)) ?_
  unfold lex_plain.f at h
  refine WpC.seq ?_
  refine WpC.reg (U := Un) (st1 := ⟨[(0, .p (.int .u8) a0)], []⟩) [0] [] hN (.cons (sok_move (U := Un) (rs := []) rfl (.inr rfl) (.bool _ _)) .nil) (by kernel_rfl) (by kernel_rfl) (by kernel_rfl) (Conv.refl (U := Un) _) ?_
  refine thenQ_normal ?_
  refine WpC.seq ?_
  obtain ⟨v1, hv1, h⟩ := bind_some h
  rcases bool_cases (!v1) with hc2 | hc2
  · replace h := ite_t hc2 h
    rcases bool_cases (a0 != 39) with hc3 | hc3
    · replace h := ite_t hc3 h
      rcases bool_cases (a0 != 36) with hc4 | hc4
      · replace h := ite_t hc4 h
        refine WpC.reg (U := Un) (st1 := ⟨[(2, .p .bool ((a0 != 96) : Bool))], []⟩) [2] [] hN (.cons (mv (U := Un) (v := .p (.int .u8) a0) rfl rfl) (.cons (sok_callV (U := Un) (rs := [(3, .p (.int .u8) a0)]) (vw := []) rfl rfl (.func _) hb_46 (quote_Blank.ok O hO k a0 v1 hv1) (.cons o0 .nil) (.cons (.same _) .nil) (by simp) (.inl rfl)) (.cons (sok_not (U := Un) (rs := [(4, .p .bool v1)]) rfl rfl o0) (.cons (mv (U := Un) (v := .p .bool ((!v1) : Bool)) rfl rfl) (.cons (sok_run rfl rfl hc2 (mv (U := Un) (v := .p (.int .u8) a0) rfl rfl)) (.cons (sok_run rfl rfl hc2 (sok_cmp (U := Un) (rs := [(7, .p (.int .u8) a0)]) rfl rfl o0 (.int _ _ _) rfl)) (.cons (sok_pickT (U := Un) (rs := [(6, .p .bool ((!v1) : Bool)), (8, .p .bool ((a0 != 39) : Bool))]) rfl rfl o0 hc2 o1) (.cons (mv (U := Un) (v := .p .bool ((a0 != 39) : Bool)) rfl rfl) (.cons (sok_run rfl rfl hc3 (mv (U := Un) (v := .p (.int .u8) a0) rfl rfl)) (.cons (sok_run rfl rfl hc3 (sok_cmp (U := Un) (rs := [(11, .p (.int .u8) a0)]) rfl rfl o0 (.int _ _ _) rfl)) (.cons (sok_pickT (U := Un) (rs := [(10, .p .bool ((a0 != 39) : Bool)), (12, .p .bool ((a0 != 36) : Bool))]) rfl rfl o0 hc3 o1) (.cons (mv (U := Un) (v := .p .bool ((a0 != 36) : Bool)) rfl rfl) (.cons (sok_run rfl rfl hc4 (mv (U := Un) (v := .p (.int .u8) a0) rfl rfl)) (.cons (sok_run rfl rfl hc4 (sok_cmp (U := Un) (rs := [(15, .p (.int .u8) a0)]) rfl rfl o0 (.int _ _ _) rfl)) (.cons (sok_pickT (U := Un) (rs := [(14, .p .bool ((a0 != 36) : Bool)), (16, .p .bool ((a0 != 96) : Bool))]) rfl rfl o0 hc4 o1) (.cons (mva (U := Un) (v := .p .bool ((a0 != 96) : Bool)) rfl rfl) .nil)))))))))))))))) (by kernel_rfl) (by kernel_rfl) (by kernel_rfl) (Conv.refl (U := Un) _) ?_
        refine thenQ_normal ?_
        refine WpC.ret ?_
        have hq := Option.some.inj h
        subst hq
        exact ends_ret (retV_1 rfl (.head _)) ain_nil
      · replace h := ite_f hc4 h
        refine WpC.reg (U := Un) (st1 := ⟨[(2, .p .bool false)], []⟩) [2] [] hN (.cons (mv (U := Un) (v := .p (.int .u8) a0) rfl rfl) (.cons (sok_callV (U := Un) (rs := [(3, .p (.int .u8) a0)]) (vw := []) rfl rfl (.func _) hb_46 (quote_Blank.ok O hO k a0 v1 hv1) (.cons o0 .nil) (.cons (.same _) .nil) (by simp) (.inl rfl)) (.cons (sok_not (U := Un) (rs := [(4, .p .bool v1)]) rfl rfl o0) (.cons (mv (U := Un) (v := .p .bool ((!v1) : Bool)) rfl rfl) (.cons (sok_run rfl rfl hc2 (mv (U := Un) (v := .p (.int .u8) a0) rfl rfl)) (.cons (sok_run rfl rfl hc2 (sok_cmp (U := Un) (rs := [(7, .p (.int .u8) a0)]) rfl rfl o0 (.int _ _ _) rfl)) (.cons (sok_pickT (U := Un) (rs := [(6, .p .bool ((!v1) : Bool)), (8, .p .bool ((a0 != 39) : Bool))]) rfl rfl o0 hc2 o1) (.cons (mv (U := Un) (v := .p .bool ((a0 != 39) : Bool)) rfl rfl) (.cons (sok_run rfl rfl hc3 (mv (U := Un) (v := .p (.int .u8) a0) rfl rfl)) (.cons (sok_run rfl rfl hc3 (sok_cmp (U := Un) (rs := [(11, .p (.int .u8) a0)]) rfl rfl o0 (.int _ _ _) rfl)) (.cons (sok_pickT (U := Un) (rs := [(10, .p .bool ((a0 != 39) : Bool)), (12, .p .bool ((a0 != 36) : Bool))]) rfl rfl o0 hc3 o1) (.cons (mv (U := Un) (v := .p .bool ((a0 != 36) : Bool)) rfl rfl) (.cons (sok_skip rfl rfl hc4) (.cons (sok_skip rfl rfl hc4) (.cons (sok_pickF (U := Un) (rs := [(14, .p .bool ((a0 != 36) : Bool))]) rfl rfl o0 hc4 (.bool _ _)) (.cons (mva (U := Un) (v := .p .bool false) rfl rfl) .nil)))))))))))))))) (by kernel_rfl) (by kernel_rfl) (by kernel_rfl) (Conv.refl (U := Un) _) ?_
        refine thenQ_normal ?_
        refine WpC.ret ?_
        have hq := Option.some.inj h
        subst hq
        exact ends_ret (retV_1 rfl (.head _)) ain_nil
    · replace h := ite_f hc3 h
      refine WpC.reg (U := Un) (st1 := ⟨[(2, .p .bool false)], []⟩) [2] [] hN (.cons (mv (U := Un) (v := .p (.int .u8) a0) rfl rfl) (.cons (sok_callV (U := Un) (rs := [(3, .p (.int .u8) a0)]) (vw := []) rfl rfl (.func _) hb_46 (quote_Blank.ok O hO k a0 v1 hv1) (.cons o0 .nil) (.cons (.same _) .nil) (by simp) (.inl rfl)) (.cons (sok_not (U := Un) (rs := [(4, .p .bool v1)]) rfl rfl o0) (.cons (mv (U := Un) (v := .p .bool ((!v1) : Bool)) rfl rfl) (.cons (sok_run rfl rfl hc2 (mv (U := Un) (v := .p (.int .u8) a0) rfl rfl)) (.cons (sok_run rfl rfl hc2 (sok_cmp (U := Un) (rs := [(7, .p (.int .u8) a0)]) rfl rfl o0 (.int _ _ _) rfl)) (.cons (sok_pickT (U := Un) (rs := [(6, .p .bool ((!v1) : Bool)), (8, .p .bool ((a0 != 39) : Bool))]) rfl rfl o0 hc2 o1) (.cons (mv (U := Un) (v := .p .bool ((a0 != 39) : Bool)) rfl rfl) (.cons (sok_skip rfl rfl hc3) (.cons (sok_skip rfl rfl hc3) (.cons (sok_pickF (U := Un) (rs := [(10, .p .bool ((a0 != 39) : Bool))]) rfl rfl o0 hc3 (.bool _ _)) (.cons (mv (U := Un) (v := .p .bool false) rfl rfl) (.cons (sok_skip rfl rfl rfl) (.cons (sok_skip rfl rfl rfl) (.cons (sok_pickF (U := Un) (rs := [(14, .p .bool false)]) rfl rfl o0 rfl (.bool _ _)) (.cons (mva (U := Un) (v := .p .bool false) rfl rfl) .nil)))))))))))))))) (by kernel_rfl) (by kernel_rfl) (by kernel_rfl) (Conv.refl (U := Un) _) ?_
      refine thenQ_normal ?_
      refine WpC.ret ?_
      have hq := Option.some.inj h
      subst hq
      exact ends_ret (retV_1 rfl (.head _)) ain_nil
  · replace h := ite_f hc2 h
    refine WpC.reg (U := Un) (st1 := ⟨[(2, .p .bool false)], []⟩) [2] [] hN (.cons (mv (U := Un) (v := .p (.int .u8) a0) rfl rfl) (.cons (sok_callV (U := Un) (rs := [(3, .p (.int .u8) a0)]) (vw := []) rfl rfl (.func _) hb_46 (quote_Blank.ok O hO k a0 v1 hv1) (.cons o0 .nil) (.cons (.same _) .nil) (by simp) (.inl rfl)) (.cons (sok_not (U := Un) (rs := [(4, .p .bool v1)]) rfl rfl o0) (.cons (mv (U := Un) (v := .p .bool ((!v1) : Bool)) rfl rfl) (.cons (sok_skip rfl rfl hc2) (.cons (sok_skip rfl rfl hc2) (.cons (sok_pickF (U := Un) (rs := [(6, .p .bool ((!v1) : Bool))]) rfl rfl o0 hc2 (.bool _ _)) (.cons (mv (U := Un) (v := .p .bool false) rfl rfl) (.cons (sok_skip rfl rfl rfl) (.cons (sok_skip rfl rfl rfl) (.cons (sok_pickF (U := Un) (rs := [(10, .p .bool false)]) rfl rfl o0 rfl (.bool _ _)) (.cons (mv (U := Un) (v := .p .bool false) rfl rfl) (.cons (sok_skip rfl rfl rfl) (.cons (sok_skip rfl rfl rfl) (.cons (sok_pickF (U := Un) (rs := [(14, .p .bool false)]) rfl rfl o0 rfl (.bool _ _)) (.cons (mva (U := Un) (v := .p .bool false) rfl rfl) .nil)))))))))))))))) (by kernel_rfl) (by kernel_rfl) (by kernel_rfl) (Conv.refl (U := Un) _) ?_
    refine thenQ_normal ?_
    refine WpC.ret ?_
    have hq := Option.some.inj h
    subst hq
    exact ends_ret (retV_1 rfl (.head _)) ain_nil

theorem lex_pattern.ok (O : Out) (hO : GOkL O) (k : Nat) (a0 : Int) (out : Bool) (h : lex_pattern.f k a0 = some out) : COk Un O Tryd.prog 89 { ar := [.p (.int .u8) a0], r := .p .bool out } := by
  refine cok_of_wp Tryd.func89 rfl (k := 17) rfl (Nat.le_of_ble_eq_true rfl) (namesOk_pure rfl rfl rfl rfl) ?_
  intro B hN
  refine WpC.conv (Conv.keep (U := Un) (b := ⟨[(0, .p (.int .u8) a0)], []⟩) [0] [] (by kernel_rfl)) ?_
  unfold lex_pattern.f at h
  refine WpC.seq ?_
  refine WpC.reg (U := Un) (st1 := ⟨[(0, .p (.int .u8) a0)], []⟩) [0] [] hN (.cons (sok_move (U := Un) (rs := []) rfl (.inr rfl) (.bool _ _)) .nil) (by kernel_rfl) (by kernel_rfl) (by kernel_rfl) (Conv.refl (U := Un) _) ?_
  refine thenQ_normal ?_
  refine WpC.seq ?_
  obtain ⟨v1, hv1, h⟩ := bind_some h
  rcases bool_cases v1 with hc2 | hc2
  · replace h := ite_t hc2 h
    rcases bool_cases (a0 != 61) with hc3 | hc3
    · replace h := ite_t hc3 h
      rcases bool_cases (a0 != 123) with hc4 | hc4
      · replace h := ite_t hc4 h
        refine WpC.reg (U := Un) (st1 := ⟨[(2, .p .bool ((a0 != 125) : Bool))], []⟩) [2] [] hN (.cons (mv (U := Un) (v := .p (.int .u8) a0) rfl rfl) (.cons (sok_callV (U := Un) (rs := [(3, .p (.int .u8) a0)]) (vw := []) rfl rfl (.func _) hb_71 (lex_plain.ok O hO k a0 v1 hv1) (.cons o0 .nil) (.cons (.same _) .nil) (by simp) (.inl rfl)) (.cons (mv (U := Un) (v := .p .bool v1) rfl rfl) (.cons (sok_run rfl rfl hc2 (mv (U := Un) (v := .p (.int .u8) a0) rfl rfl)) (.cons (sok_run rfl rfl hc2 (sok_cmp (U := Un) (rs := [(6, .p (.int .u8) a0)]) rfl rfl o0 (.int _ _ _) rfl)) (.cons (sok_pickT (U := Un) (rs := [(5, .p .bool v1), (7, .p .bool ((a0 != 61) : Bool))]) rfl rfl o0 hc2 o1) (.cons (mv (U := Un) (v := .p .bool ((a0 != 61) : Bool)) rfl rfl) (.cons (sok_run rfl rfl hc3 (mv (U := Un) (v := .p (.int .u8) a0) rfl rfl)) (.cons (sok_run rfl rfl hc3 (sok_cmp (U := Un) (rs := [(10, .p (.int .u8) a0)]) rfl rfl o0 (.int _ _ _) rfl)) (.cons (sok_pickT (U := Un) (rs := [(9, .p .bool ((a0 != 61) : Bool)), (11, .p .bool ((a0 != 123) : Bool))]) rfl rfl o0 hc3 o1) (.cons (mv (U := Un) (v := .p .bool ((a0 != 123) : Bool)) rfl rfl) (.cons (sok_run rfl rfl hc4 (mv (U := Un) (v := .p (.int .u8) a0) rfl rfl)) (.cons (sok_run rfl rfl hc4 (sok_cmp (U := Un) (rs := [(14, .p (.int .u8) a0)]) rfl rfl o0 (.int _ _ _) rfl)) (.cons (sok_pickT (U := Un) (rs := [(13, .p .bool ((a0 != 123) : Bool)), (15, .p .bool ((a0 != 125) : Bool))]) rfl rfl o0 hc4 o1) (.cons (mva (U := Un) (v := .p .bool ((a0 != 125) : Bool)) rfl rfl) .nil))))))))))))))) (by kernel_rfl) (by kernel_rfl) (by kernel_rfl) (Conv.refl (U := Un) _) ?_
        refine thenQ_normal ?_
        refine WpC.ret ?_
        have hq := Option.some.inj h
        subst hq
        exact ends_ret (retV_1 rfl (.head _)) ain_nil
      · replace h := ite_f hc4 h
        refine WpC.reg (U := Un) (st1 := ⟨[(2, .p .bool false)], []⟩) [2] [] hN (.cons (mv (U := Un) (v := .p (.int .u8) a0) rfl rfl) (.cons (sok_callV (U := Un) (rs := [(3, .p (.int .u8) a0)]) (vw := []) rfl rfl (.func _) hb_71 (lex_plain.ok O hO k a0 v1 hv1) (.cons o0 .nil) (.cons (.same _) .nil) (by simp) (.inl rfl)) (.cons (mv (U := Un) (v := .p .bool v1) rfl rfl) (.cons (sok_run rfl rfl hc2 (mv (U := Un) (v := .p (.int .u8) a0) rfl rfl)) (.cons (sok_run rfl rfl hc2 (sok_cmp (U := Un) (rs := [(6, .p (.int .u8) a0)]) rfl rfl o0 (.int _ _ _) rfl)) (.cons (sok_pickT (U := Un) (rs := [(5, .p .bool v1), (7, .p .bool ((a0 != 61) : Bool))]) rfl rfl o0 hc2 o1) (.cons (mv (U := Un) (v := .p .bool ((a0 != 61) : Bool)) rfl rfl) (.cons (sok_run rfl rfl hc3 (mv (U := Un) (v := .p (.int .u8) a0) rfl rfl)) (.cons (sok_run rfl rfl hc3 (sok_cmp (U := Un) (rs := [(10, .p (.int .u8) a0)]) rfl rfl o0 (.int _ _ _) rfl)) (.cons (sok_pickT (U := Un) (rs := [(9, .p .bool ((a0 != 61) : Bool)), (11, .p .bool ((a0 != 123) : Bool))]) rfl rfl o0 hc3 o1) (.cons (mv (U := Un) (v := .p .bool ((a0 != 123) : Bool)) rfl rfl) (.cons (sok_skip rfl rfl hc4) (.cons (sok_skip rfl rfl hc4) (.cons (sok_pickF (U := Un) (rs := [(13, .p .bool ((a0 != 123) : Bool))]) rfl rfl o0 hc4 (.bool _ _)) (.cons (mva (U := Un) (v := .p .bool false) rfl rfl) .nil))))))))))))))) (by kernel_rfl) (by kernel_rfl) (by kernel_rfl) (Conv.refl (U := Un) _) ?_
        refine thenQ_normal ?_
        refine WpC.ret ?_
        have hq := Option.some.inj h
        subst hq
        exact ends_ret (retV_1 rfl (.head _)) ain_nil
    · replace h := ite_f hc3 h
      refine WpC.reg (U := Un) (st1 := ⟨[(2, .p .bool false)], []⟩) [2] [] hN (.cons (mv (U := Un) (v := .p (.int .u8) a0) rfl rfl) (.cons (sok_callV (U := Un) (rs := [(3, .p (.int .u8) a0)]) (vw := []) rfl rfl (.func _) hb_71 (lex_plain.ok O hO k a0 v1 hv1) (.cons o0 .nil) (.cons (.same _) .nil) (by simp) (.inl rfl)) (.cons (mv (U := Un) (v := .p .bool v1) rfl rfl) (.cons (sok_run rfl rfl hc2 (mv (U := Un) (v := .p (.int .u8) a0) rfl rfl)) (.cons (sok_run rfl rfl hc2 (sok_cmp (U := Un) (rs := [(6, .p (.int .u8) a0)]) rfl rfl o0 (.int _ _ _) rfl)) (.cons (sok_pickT (U := Un) (rs := [(5, .p .bool v1), (7, .p .bool ((a0 != 61) : Bool))]) rfl rfl o0 hc2 o1) (.cons (mv (U := Un) (v := .p .bool ((a0 != 61) : Bool)) rfl rfl) (.cons (sok_skip rfl rfl hc3) (.cons (sok_skip rfl rfl hc3) (.cons (sok_pickF (U := Un) (rs := [(9, .p .bool ((a0 != 61) : Bool))]) rfl rfl o0 hc3 (.bool _ _)) (.cons (mv (U := Un) (v := .p .bool false) rfl rfl) (.cons (sok_skip rfl rfl rfl) (.cons (sok_skip rfl rfl rfl) (.cons (sok_pickF (U := Un) (rs := [(13, .p .bool false)]) rfl rfl o0 rfl (.bool _ _)) (.cons (mva (U := Un) (v := .p .bool false) rfl rfl) .nil))))))))))))))) (by kernel_rfl) (by kernel_rfl) (by kernel_rfl) (Conv.refl (U := Un) _) ?_
      refine thenQ_normal ?_
      refine WpC.ret ?_
      have hq := Option.some.inj h
      subst hq
      exact ends_ret (retV_1 rfl (.head _)) ain_nil
  · replace h := ite_f hc2 h
    refine WpC.reg (U := Un) (st1 := ⟨[(2, .p .bool false)], []⟩) [2] [] hN (.cons (mv (U := Un) (v := .p (.int .u8) a0) rfl rfl) (.cons (sok_callV (U := Un) (rs := [(3, .p (.int .u8) a0)]) (vw := []) rfl rfl (.func _) hb_71 (lex_plain.ok O hO k a0 v1 hv1) (.cons o0 .nil) (.cons (.same _) .nil) (by simp) (.inl rfl)) (.cons (mv (U := Un) (v := .p .bool v1) rfl rfl) (.cons (sok_skip rfl rfl hc2) (.cons (sok_skip rfl rfl hc2) (.cons (sok_pickF (U := Un) (rs := [(5, .p .bool v1)]) rfl rfl o0 hc2 (.bool _ _)) (.cons (mv (U := Un) (v := .p .bool false) rfl rfl) (.cons (sok_skip rfl rfl rfl) (.cons (sok_skip rfl rfl rfl) (.cons (sok_pickF (U := Un) (rs := [(9, .p .bool false)]) rfl rfl o0 rfl (.bool _ _)) (.cons (mv (U := Un) (v := .p .bool false) rfl rfl) (.cons (sok_skip rfl rfl rfl) (.cons (sok_skip rfl rfl rfl) (.cons (sok_pickF (U := Un) (rs := [(13, .p .bool false)]) rfl rfl o0 rfl (.bool _ _)) (.cons (mva (U := Un) (v := .p .bool false) rfl rfl) .nil))))))))))))))) (by kernel_rfl) (by kernel_rfl) (by kernel_rfl) (Conv.refl (U := Un) _) ?_
    refine thenQ_normal ?_
    refine WpC.ret ?_
    have hq := Option.some.inj h
    subst hq
    exact ends_ret (retV_1 rfl (.head _)) ain_nil

theorem lex_run_m2.ok (O : Out) (hO : GOkL O) (k : Nat) (a0 : List UInt8) (a1 : Int) (out : Int) (h : lex_run_m2.f k a0 a1 = some out) : COk Un O Tryd.prog 66 { ar := [.p .str a0, .p I6 a1, .clo 89 []], r := .p I6 out } := by
  refine cok_of_wp Tryd.func66 rfl (k := 26) rfl (Nat.le_of_ble_eq_true rfl) (namesOk_pure rfl rfl rfl rfl) ?_
  intro B hN
  refine WpC.conv (Conv.keep (U := Un) (b := ⟨[(0, .p .str a0), (1, .p I6 a1), (2, .clo 89 [])], []⟩) [0, 1, 2] [] (by kernel_rfl)) ?_
  unfold lex_run_m2.f at h
  refine WpC.seq ?_
  refine WpC.reg (U := Un) (st1 := ⟨[(0, .p .str a0), (1, .p I6 a1), (2, .clo 89 [])], []⟩) [0, 1, 2] [] hN (.cons (sok_move (U := Un) (rs := []) rfl (.inr rfl) (.int _ _ _)) .nil) (by kernel_rfl) (by kernel_rfl) (by kernel_rfl) (Conv.refl (U := Un) _) ?_
  refine thenQ_normal ?_
  refine WpC.seq ?_
  refine WpC.reg (U := Un) (st1 := ⟨[(0, .p .str a0), (1, .p I6 a1), (2, .clo 89 []), (7, .p I6 (0 : Int))], []⟩) [0, 1, 2, 7] [] hN (.cons (sok_move (U := Un) (rs := []) rfl (.inr rfl) (.int _ _ _)) .nil) (by kernel_rfl) (by kernel_rfl) (by kernel_rfl) (Conv.refl (U := Un) _) ?_
  refine thenQ_normal ?_
  refine WpC.seqJ (U := Un) (fun st' => ∃ v1 : Int, lex_run_m2.j2 k v1 = some out ∧ st' = ⟨[(7, .p I6 v1)], []⟩) ?_ ?_
  · refine WpC.block ?_
    obtain ⟨o6, hlo6, h⟩ := bind_some h
    have hout7 := h
    clear h
    refine WpC.loop (U := Un) (fun n st' => ∃ v3 : Int, lex_run_m2.l4 k a0 a1 n v3 = some o6 ∧ st' = ⟨[(0, .p .str a0), (1, .p I6 a1), (2, .clo 89 []), (7, .p I6 v3)], []⟩) k ⟨0, hlo6, rfl⟩ ?_
    clear hlo6
    rintro (_ | n) _ ⟨v3, h, rfl⟩
    · cases h
    · rw [lex_run_m2.l4] at h
      refine WpC.seqJ (U := Un) (fun st' => lex_run_m2.j8 k (lex_run_m2.l4 k a0 a1 n) a0 a1 v3 = some o6 ∧ st' = ⟨[(0, .p .str a0), (1, .p I6 a1), (2, .clo 89 []), (7, .p I6 v3)], []⟩) ?_ ?_
      · refine WpC.seqJ (U := Un) (fun st' => ∃ v9 : Bool, lex_run_m2.j11 k (lex_run_m2.l4 k a0 a1 n) a0 a1 v3 v9 = some o6 ∧ st' = ⟨[(0, .p .str a0), (1, .p I6 a1), (2, .clo 89 []), (7, .p I6 v3), (22, .p .bool v9)], []⟩) ?_ ?_
        · rcases bool_cases (decide ((IntKind.i64.wrap (a1 + v3)) < (a0.length : Int))) with hc12 | hc12
          · replace h := ite_t hc12 h
            obtain ⟨v13, hv13, h⟩ := bind_some h
            obtain ⟨v14, hv14, h⟩ := bind_some h
            refine WpC.reg (U := Un) (st1 := ⟨[(0, .p .str a0), (1, .p I6 a1), (2, .clo 89 []), (7, .p I6 v3), (22, .p .bool v14)], []⟩) [0, 1, 2, 7, 22] [] hN (.cons (mv (U := Un) (v := .p I6 a1) rfl rfl) (.cons (mv (U := Un) (v := .p I6 v3) rfl rfl) (.cons (sok_arith (U := Un) (rs := [(8, .p I6 a1), (9, .p I6 v3)]) rfl rfl o0 o1 rfl) (.cons (mv (U := Un) (v := .p .str a0) rfl rfl) (.cons (sok_lenS (U := Un) (rs := [(11, .p .str a0)]) rfl rfl Tryd.underlying9 o0) (.cons (sok_cmp (U := Un) (rs := [(10, .p I6 ((IntKind.i64.wrap (a1 + v3)) : Int)), (12, .p I6 ((a0.length : Int) : Int))]) rfl rfl o0 o1 rfl) (.cons (mv (U := Un) (v := .p .bool ((decide ((IntKind.i64.wrap (a1 + v3)) < (a0.length : Int))) : Bool)) rfl rfl) (.cons (sok_run rfl rfl hc12 (mv (U := Un) (v := .clo 89 []) rfl rfl)) (.cons (sok_run rfl rfl hc12 (mv (U := Un) (v := .p .str a0) rfl rfl)) (.cons (sok_run rfl rfl hc12 (mv (U := Un) (v := .p I6 a1) rfl rfl)) (.cons (sok_run rfl rfl hc12 (mv (U := Un) (v := .p I6 v3) rfl rfl)) (.cons (sok_run rfl rfl hc12 (sok_arith (U := Un) (rs := [(17, .p I6 a1), (18, .p I6 v3)]) rfl rfl o0 o1 rfl)) (.cons (sok_run rfl rfl hc12 (sok_indexS (U := Un) (rs := [(16, .p .str a0), (19, .p I6 ((IntKind.i64.wrap (a1 + v3)) : Int))]) rfl rfl Tryd.underlying9 o0 o1 hv13)) (.cons (sok_run rfl rfl hc12 (sok_callV (U := Un) (rs := [(20, .p (.int .u8) ((v13.toNat : Int) : Int)), (15, .clo 89 [])]) (vw := []) rfl rfl (.clo o1) hb_89 (lex_pattern.ok O hO k (v13.toNat : Int) v14 hv14) (.cons o0 .nil) (.cons (.same _) .nil) (by simp) (.inl rfl))) (.cons (sok_pickT (U := Un) (rs := [(14, .p .bool ((decide ((IntKind.i64.wrap (a1 + v3)) < (a0.length : Int))) : Bool)), (21, .p .bool v14)]) rfl rfl o0 hc12 o1) .nil))))))))))))))) (by kernel_rfl) (by kernel_rfl) (by kernel_rfl) (Conv.refl (U := Un) _) ?_
            refine thenQ_normal ?_
            exact ⟨v14, h, rfl⟩
          · replace h := ite_f hc12 h
            refine WpC.reg (U := Un) (st1 := ⟨[(0, .p .str a0), (1, .p I6 a1), (2, .clo 89 []), (7, .p I6 v3), (22, .p .bool false)], []⟩) [0, 1, 2, 7, 22] [] hN (.cons (mv (U := Un) (v := .p I6 a1) rfl rfl) (.cons (mv (U := Un) (v := .p I6 v3) rfl rfl) (.cons (sok_arith (U := Un) (rs := [(8, .p I6 a1), (9, .p I6 v3)]) rfl rfl o0 o1 rfl) (.cons (mv (U := Un) (v := .p .str a0) rfl rfl) (.cons (sok_lenS (U := Un) (rs := [(11, .p .str a0)]) rfl rfl Tryd.underlying9 o0) (.cons (sok_cmp (U := Un) (rs := [(10, .p I6 ((IntKind.i64.wrap (a1 + v3)) : Int)), (12, .p I6 ((a0.length : Int) : Int))]) rfl rfl o0 o1 rfl) (.cons (mv (U := Un) (v := .p .bool ((decide ((IntKind.i64.wrap (a1 + v3)) < (a0.length : Int))) : Bool)) rfl rfl) (.cons (sok_skip rfl rfl hc12) (.cons (sok_skip rfl rfl hc12) (.cons (sok_skip rfl rfl hc12) (.cons (sok_skip rfl rfl hc12) (.cons (sok_skip rfl rfl hc12) (.cons (sok_skip rfl rfl hc12) (.cons (sok_skip rfl rfl hc12) (.cons (sok_pickF (U := Un) (rs := [(14, .p .bool ((decide ((IntKind.i64.wrap (a1 + v3)) < (a0.length : Int))) : Bool))]) rfl rfl o0 hc12 (.bool _ _)) .nil))))))))))))))) (by kernel_rfl) (by kernel_rfl) (by kernel_rfl) (Conv.refl (U := Un) _) ?_
            refine thenQ_normal ?_
            exact ⟨false, h, rfl⟩
        · rintro _ ⟨v9, h, rfl⟩
          unfold lex_run_m2.j11 at h
          refine WpC.cond (U := Un) (b := v9) (.tmp (.tail _ (.tail _ (.tail _ (.tail _ (.head _)))))) (fun hc10 => ?_) (fun hc10 => ?_)
          · replace h := ite_t hc10 h
            refine WpC.conv (Conv.keep (U := Un) (b := ⟨[(0, .p .str a0), (1, .p I6 a1), (2, .clo 89 []), (7, .p I6 v3)], []⟩) [0, 1, 2, 7] [] (by kernel_rfl)) (WpC.skip ?_)
            refine thenQ_normal ?_
            exact ⟨h, rfl⟩
          · replace h := ite_f hc10 h
            refine WpC.conv (Conv.keep (U := Un) (b := ⟨[(7, .p I6 v3)], []⟩) [7] [] (by kernel_rfl)) (WpC.exit ?_)
            refine thenQ_exit ?_
            have hq := Option.some.inj h
            subst hq
            refine thenQ_exit ?_
            have h := hout7
            refine blockQ_hit ?_
            refine thenQ_normal ?_
            exact ⟨v3, h, rfl⟩
      · rintro _ ⟨h, rfl⟩
        unfold lex_run_m2.j8 at h
        refine WpC.block ?_
        refine WpC.reg (U := Un) (st1 := ⟨[(0, .p .str a0), (1, .p I6 a1), (2, .clo 89 []), (7, .p I6 ((IntKind.i64.wrap (v3 + 1)) : Int))], []⟩) [0, 1, 2, 7] [] hN (.cons (mv (U := Un) (v := .p I6 v3) rfl rfl) (.cons (sok_arith (U := Un) (rs := [(23, .p I6 v3)]) rfl rfl o0 (.int _ _ _) rfl) (.cons (mva (U := Un) (v := .p I6 ((IntKind.i64.wrap (v3 + 1)) : Int)) rfl rfl) .nil))) (by kernel_rfl) (by kernel_rfl) (by kernel_rfl) (Conv.refl (U := Un) _) ?_
        refine blockQ_normal ?_
        refine thenQ_normal ?_
        exact ⟨n, Nat.lt_succ_self n, (IntKind.i64.wrap (v3 + 1)), h, rfl⟩
  · rintro _ ⟨v1, h, rfl⟩
    unfold lex_run_m2.j2 at h
    refine WpC.seq ?_
    refine WpC.reg (U := Un) (st1 := ⟨[(6, .p I6 v1)], []⟩) [6] [] hN (.cons (mv (U := Un) (v := .p I6 v1) rfl rfl) (.cons (mva (U := Un) (v := .p I6 v1) rfl rfl) .nil)) (by kernel_rfl) (by kernel_rfl) (by kernel_rfl) (Conv.refl (U := Un) _) ?_
    refine thenQ_normal ?_
    refine WpC.ret ?_
    have hq := Option.some.inj h
    subst hq
    exact ends_ret (retV_1 rfl (.head _)) ain_nil

theorem lex_reader_take_m2.ok (O : Out) (hO : GOkL O) (k : Nat) (a0 : List UInt8) (a1 : Int) (a2 : Nat) (out : (List UInt8) × Int) (h : lex_reader_take_m2.f k a0 a1 a2 = some out) : COk Un O Tryd.prog 45 { ar := [.loc 100000 0, .clo 89 []], r := .p .str out.1, bs := [(100000, .box [.p .str a0, .p I6 a1, .p .err a2])], bs' := [(100000, .box [.p .str a0, .p I6 out.2, .p .err a2])] } := by
  refine cok_of_wp Tryd.func45 rfl (k := 39) rfl (Nat.le_of_ble_eq_true rfl) (namesOk_of (by kernel_rfl)) ?_
  intro B hN
  refine WpC.conv (Conv.keep (U := Un) (b := ⟨[(0, .loc 100000 0), (1, .clo 89 [])], [(100000, .box [.p .str a0, .p I6 a1, .p .err a2])]⟩) [0, 1] [100000] (by kernel_rfl)) ?_
  unfold lex_reader_take_m2.f at h
  refine WpC.seq ?_
  refine WpC.reg (U := Un) (st1 := ⟨[(0, .loc 100000 0), (1, .clo 89 [])], [(100000, .box [.p .str a0, .p I6 a1, .p .err a2])]⟩) [0, 1] [100000] hN (.cons (sok_move (U := Un) (rs := []) rfl (.inr rfl) (.str _ _)) .nil) (by kernel_rfl) (by kernel_rfl) (by kernel_rfl) (Conv.refl (U := Un) _) ?_
  refine thenQ_normal ?_
  refine WpC.seq ?_
  obtain ⟨v1, hv1, h⟩ := bind_some h
  refine WpC.regA (U := Un) (st1 := ⟨[(0, .loc 100000 0), (5, .p I6 v1)], [(100000, .box [.p .str a0, .p I6 a1, .p .err a2])]⟩) [0, 5] [100000] [[], [0], [0, 1], [0, 1, 2], [], [4], [4, 5], [4, 5, 6], [], [0, 1, 2, 3, 4, 5, 6, 7, 8], [0, 1, 2, 3, 4, 5, 6, 7, 8, 9]] mixed hN (.cons (mv (U := Un) (v := .loc 100000 0) rfl rfl) (.cons (sok_nilCheck (U := Un) (rs := [(6, .loc 100000 0)]) rfl rfl o0 rfl) (.cons (sok_fieldB (U := Un) (rs := [(7, .loc 100000 0)]) rfl rfl fd_81_0 (by decide) o0) (.cons (sok_loadB (U := Un) (t := .str) (rs := [(8, .loc 100000 0)]) [] [.p .str a0] [.p I6 a1, .p .err a2] (v := .p .str a0) rfl rfl ty_9 o0 rfl rfl rfl rfl (.data (.one _ _))) (.cons (mv (U := Un) (v := .loc 100000 0) rfl rfl) (.cons (sok_nilCheck (U := Un) (rs := [(10, .loc 100000 0)]) rfl rfl o0 rfl) (.cons (sok_fieldB (U := Un) (rs := [(11, .loc 100000 0)]) rfl rfl fd_81_1 (by decide) o0) (.cons (sok_loadB (U := Un) (t := .int .i64) (rs := [(12, .loc 100000 1)]) [.p .str a0] [.p I6 a1] [.p .err a2] (v := .p I6 a1) rfl rfl ty_3 o0 rfl rfl rfl rfl (.data (.one _ _))) (.cons (mv (U := Un) (v := .clo 89 []) rfl rfl) (.cons (sok_callV (U := Un) (rs := [(9, .p .str a0), (13, .p I6 a1), (14, .clo 89 [])]) (vw := []) rfl rfl (.func _) hb_66 (lex_run_m2.ok O hO k a0 a1 v1 hv1) (.cons o0 (.cons o1 (.cons (.tmp (.tail _ (.tail _ (.head _)))) .nil))) (.cons (.same _) (.cons (.same _) (.cons (.same _) .nil))) (by simp) (.inl rfl)) (.cons (mva (U := Un) (v := .p I6 v1) rfl rfl) .nil))))))))))) (by kernel_rfl) (by kernel_rfl) (by kernel_rfl) (by kernel_rfl) (by kernel_rfl) (Conv.refl (U := Un) _) ?_
  refine thenQ_normal ?_
  refine WpC.seq ?_
  refine WpC.reg (U := Un) (st1 := ⟨[(0, .loc 100000 0), (5, .p I6 v1)], [(100000, .box [.p .str a0, .p I6 ((IntKind.i64.wrap (a1 + v1)) : Int), .p .err a2])]⟩) [0, 5] [100000] hN (.cons (mv (U := Un) (v := .loc 100000 0) rfl rfl) (.cons (sok_nilCheck (U := Un) (rs := [(16, .loc 100000 0)]) rfl rfl o0 rfl) (.cons (sok_fieldB (U := Un) (rs := [(17, .loc 100000 0)]) rfl rfl fd_81_1 (by decide) o0) (.cons (sok_loadB (U := Un) (t := .int .i64) (rs := [(18, .loc 100000 1)]) [.p .str a0] [.p I6 a1] [.p .err a2] (v := .p I6 a1) rfl rfl ty_3 o0 rfl rfl rfl rfl (.data (.one _ _))) (.cons (mv (U := Un) (v := .p I6 v1) rfl rfl) (.cons (sok_arith (U := Un) (rs := [(19, .p I6 a1), (20, .p I6 v1)]) rfl rfl o0 o1 rfl) (.cons (sok_nilCheck (U := Un) (rs := [(16, .loc 100000 0)]) rfl rfl o0 rfl) (.cons (sok_fieldB (U := Un) (rs := [(22, .loc 100000 0)]) rfl rfl fd_81_1 (by decide) o0) (.cons (sok_storeB (U := Un) (rs := [(23, .loc 100000 1), (21, .p I6 ((IntKind.i64.wrap (a1 + v1)) : Int))]) (v := .p I6 ((IntKind.i64.wrap (a1 + v1)) : Int)) (mid' := [.p I6 ((IntKind.i64.wrap (a1 + v1)) : Int)]) [.p .str a0] [.p I6 a1] [.p .err a2] rfl rfl rfl ty_3 o0 o1 (.data (.one _ _)) rfl rfl rfl rfl rfl rfl) .nil))))))))) (by kernel_rfl) (by kernel_rfl) (by kernel_rfl) (Conv.refl (U := Un) _) ?_
  refine thenQ_normal ?_
  refine WpC.seq ?_
  obtain ⟨v2, hv2, h⟩ := bind_some h
  refine WpC.regA (U := Un) (st1 := ⟨[(4, .p .str v2)], [(100000, .box [.p .str a0, .p I6 ((IntKind.i64.wrap (a1 + v1)) : Int), .p .err a2])]⟩) [4] [100000] [[], [0], [0, 1], [0, 1, 2], [], [4], [4, 5], [4, 5, 6], [], [4, 5, 6, 7, 8], [], [10], [10, 11], [10, 11, 12], [0, 1, 2, 3, 4, 5, 6, 7, 8, 9, 10, 11, 12, 13], [0, 1, 2, 3, 4, 5, 6, 7, 8, 9, 10, 11, 12, 13, 14]] mixed hN (.cons (mv (U := Un) (v := .loc 100000 0) rfl rfl) (.cons (sok_nilCheck (U := Un) (rs := [(24, .loc 100000 0)]) rfl rfl o0 rfl) (.cons (sok_fieldB (U := Un) (rs := [(25, .loc 100000 0)]) rfl rfl fd_81_0 (by decide) o0) (.cons (sok_loadB (U := Un) (t := .str) (rs := [(26, .loc 100000 0)]) [] [.p .str a0] [.p I6 ((IntKind.i64.wrap (a1 + v1)) : Int), .p .err a2] (v := .p .str a0) rfl rfl ty_9 o0 rfl rfl rfl rfl (.data (.one _ _))) (.cons (mv (U := Un) (v := .loc 100000 0) rfl rfl) (.cons (sok_nilCheck (U := Un) (rs := [(28, .loc 100000 0)]) rfl rfl o0 rfl) (.cons (sok_fieldB (U := Un) (rs := [(29, .loc 100000 0)]) rfl rfl fd_81_1 (by decide) o0) (.cons (sok_loadB (U := Un) (t := .int .i64) (rs := [(30, .loc 100000 1)]) [.p .str a0] [.p I6 ((IntKind.i64.wrap (a1 + v1)) : Int)] [.p .err a2] (v := .p I6 ((IntKind.i64.wrap (a1 + v1)) : Int)) rfl rfl ty_3 o0 rfl rfl rfl rfl (.data (.one _ _))) (.cons (mv (U := Un) (v := .p I6 v1) rfl rfl) (.cons (sok_arith (U := Un) (rs := [(31, .p I6 ((IntKind.i64.wrap (a1 + v1)) : Int)), (32, .p I6 v1)]) rfl rfl o0 o1 rfl) (.cons (mv (U := Un) (v := .loc 100000 0) rfl rfl) (.cons (sok_nilCheck (U := Un) (rs := [(34, .loc 100000 0)]) rfl rfl o0 rfl) (.cons (sok_fieldB (U := Un) (rs := [(35, .loc 100000 0)]) rfl rfl fd_81_1 (by decide) o0) (.cons (sok_loadB (U := Un) (t := .int .i64) (rs := [(36, .loc 100000 1)]) [.p .str a0] [.p I6 ((IntKind.i64.wrap (a1 + v1)) : Int)] [.p .err a2] (v := .p I6 ((IntKind.i64.wrap (a1 + v1)) : Int)) rfl rfl ty_3 o0 rfl rfl rfl rfl (.data (.one _ _))) (.cons (sok_sliceS (U := Un) (rs := [(27, .p .str a0), (33, .p I6 ((IntKind.i64.wrap ((IntKind.i64.wrap (a1 + v1)) - v1)) : Int)), (37, .p I6 ((IntKind.i64.wrap (a1 + v1)) : Int))]) rfl rfl Tryd.underlying9 o0 (.at o1) (.at (.tmp (.tail _ (.tail _ (.head _))))) hv2) (.cons (mva (U := Un) (v := .p .str v2) rfl rfl) .nil)))))))))))))))) (by kernel_rfl) (by kernel_rfl) (by kernel_rfl) (by kernel_rfl) (by kernel_rfl) (Conv.refl (U := Un) _) ?_
  refine thenQ_normal ?_
  refine WpC.ret ?_
  have hq := Option.some.inj h
  subst hq
  exact ends_ret (retV_1 rfl (.head _)) (ain_cons (.head _) ain_nil)

theorem lex_reader_takes_m0.ok (O : Out) (hO : GOkL O) (k : Nat) (a0 : List UInt8) (a1 : Int) (a2 : Nat) (a3 : Int) (out : Int × Nat) (h : lex_reader_takes_m0.f k a0 a1 a2 a3 = some out) : COk Un O Tryd.prog 90 { ar := [.loc 100000 0, .p (.int .u8) a3], r := .tup [], bs := [(100000, .box [.p .str a0, .p I6 a1, .p .err a2])], bs' := [(100000, .box [.p .str a0, .p I6 out.1, .p .err out.2])] } := by
  refine cok_of_wp Tryd.func90 rfl (k := 18) rfl (Nat.le_of_ble_eq_true rfl) (namesOk_of (by kernel_rfl)) ?_
  intro B hN
  refine WpC.conv (Conv.keep (U := Un) (b := ⟨[(0, .loc 100000 0), (1, .p (.int .u8) a3)], [(100000, .box [.p .str a0, .p I6 a1, .p .err a2])]⟩) [0, 1] [100000] (by kernel_rfl)) ?_
  unfold lex_reader_takes_m0.f at h
  refine WpC.seq ?_
  refine WpC.seq ?_
  obtain ⟨v1, hv1, h⟩ := bind_some h
  refine WpC.reg (U := Un) (st1 := ⟨[(0, .loc 100000 0), (7, .p .bool ((!v1) : Bool))], [(100000, .box [.p .str a0, .p I6 a1, .p .err a2])]⟩) [0, 7] [100000] hN (.cons (mv (U := Un) (v := .loc 100000 0) rfl rfl) (.cons (mv (U := Un) (v := .p (.int .u8) a3) rfl rfl) (.cons (sok_callV (U := Un) (rs := [(4, .loc 100000 0), (5, .p (.int .u8) a3)]) (vw := []) rfl rfl (.func _) hb_87 (COk.ren (lex_reader_is_m0.ok O hO k a0 a1 a2 a3 v1 hv1) (fun n => if n = 100000 then 100000 else n) (injOn_of (by kernel_rfl))) (.cons o0 (.cons o1 .nil)) (.cons (.same _) (.cons (.same _) .nil)) (by simp) (.inl rfl)) (.cons (sok_not (U := Un) (rs := [(6, .p .bool v1)]) rfl rfl o0) .nil)))) (by kernel_rfl) (by kernel_rfl) (by kernel_rfl) (Conv.refl (U := Un) _) ?_
  refine thenQ_normal ?_
  refine WpC.cond (U := Un) (b := (!v1)) o1 (fun hc2 => ?_) (fun hc2 => ?_)
  · replace h := ite_t hc2 h
    refine WpC.seq ?_
    obtain ⟨v3, hv3, h⟩ := bind_some h
    refine WpC.reg (U := Un) (st1 := ⟨[], [(100000, .box [.p .str a0, .p I6 a1, .p .err v3])]⟩) [] [100000] hN (.cons (mv (U := Un) (v := .loc 100000 0) rfl rfl) (.cons (sok_loadG (U := Un) (t := .err) (rs := []) rfl rfl ty_27 rfl rfl (hO.var 2 5 rfl) (fun S w => .err 2)) (.cons (sok_callV (U := Un) (rs := [(8, .loc 100000 0), (9, .p .err (3 : Nat))]) (vw := []) rfl rfl (.func _) hb_86 (COk.ren (lex_reader_fail_m0.ok O hO k a0 a1 a2 3 v3 hv3) (fun n => if n = 100000 then 100000 else n) (injOn_of (by kernel_rfl))) (.cons o0 (.cons o1 .nil)) (.cons (.same _) (.cons (.same _) .nil)) (by simp) (.inl rfl)) .nil))) (by kernel_rfl) (by kernel_rfl) (by kernel_rfl) (Conv.refl (U := Un) _) ?_
    refine thenQ_normal ?_
    refine WpC.ret ?_
    refine thenQ_ret ?_
    have hq := Option.some.inj h
    subst hq
    exact ends_ret (retV_0 rfl ) (ain_cons (.head _) ain_nil)
  · replace h := ite_f hc2 h
    refine WpC.conv (Conv.keep (U := Un) (b := ⟨[(0, .loc 100000 0)], [(100000, .box [.p .str a0, .p I6 a1, .p .err a2])]⟩) [0] [100000] (by kernel_rfl)) (WpC.skip ?_)
    refine thenQ_normal ?_
    refine WpC.reg (U := Un) (st1 := ⟨[], [(100000, .box [.p .str a0, .p I6 ((IntKind.i64.wrap (a1 + 1)) : Int), .p .err a2])]⟩) [] [100000] hN (.cons (mv (U := Un) (v := .loc 100000 0) rfl rfl) (.cons (sok_nilCheck (U := Un) (rs := [(11, .loc 100000 0)]) rfl rfl o0 rfl) (.cons (sok_fieldB (U := Un) (rs := [(12, .loc 100000 0)]) rfl rfl fd_81_1 (by decide) o0) (.cons (sok_loadB (U := Un) (t := .int .i64) (rs := [(13, .loc 100000 1)]) [.p .str a0] [.p I6 a1] [.p .err a2] (v := .p I6 a1) rfl rfl ty_3 o0 rfl rfl rfl rfl (.data (.one _ _))) (.cons (sok_arith (U := Un) (rs := [(14, .p I6 a1)]) rfl rfl o0 (.int _ _ _) rfl) (.cons (sok_nilCheck (U := Un) (rs := [(11, .loc 100000 0)]) rfl rfl o0 rfl) (.cons (sok_fieldB (U := Un) (rs := [(16, .loc 100000 0)]) rfl rfl fd_81_1 (by decide) o0) (.cons (sok_storeB (U := Un) (rs := [(17, .loc 100000 1), (15, .p I6 ((IntKind.i64.wrap (a1 + 1)) : Int))]) (v := .p I6 ((IntKind.i64.wrap (a1 + 1)) : Int)) (mid' := [.p I6 ((IntKind.i64.wrap (a1 + 1)) : Int)]) [.p .str a0] [.p I6 a1] [.p .err a2] rfl rfl rfl ty_3 o0 o1 (.data (.one _ _)) rfl rfl rfl rfl rfl rfl) .nil)))))))) (by kernel_rfl) (by kernel_rfl) (by kernel_rfl) (Conv.refl (U := Un) _) ?_
    have hq := Option.some.inj h
    subst hq
    exact ends_normal (retV_0 rfl ) (ain_cons (.head _) ain_nil)

theorem lex_reader_variable_m0.ok (O : Out) (hO : GOkL O) (k : Nat) (a0 : List UInt8) (a1 : Int) (a2 : Nat) (out : T_lex_Piece × Int × Nat) (h : lex_reader_variable_m0.f k a0 a1 a2 = some out) : COk Un O Tryd.prog 69 { ar := [.loc 100000 0], r := .p (.named 3) out.1, bs := [(100000, .box [.p .str a0, .p I6 a1, .p .err a2])], bs' := [(100000, .box [.p .str a0, .p I6 out.2.1, .p .err out.2.2])] } := by
  refine cok_of_wp Tryd.func69 rfl (k := 48) rfl (Nat.le_of_ble_eq_true rfl) (namesOk_of (by kernel_rfl)) ?_
  intro B hN
  refine WpC.conv (Conv.keep (U := Un) (b := ⟨[(0, .loc 100000 0)], [(100000, .box [.p .str a0, .p I6 a1, .p .err a2])]⟩) [0] [100000] (by kernel_rfl)) ?_
  unfold lex_reader_variable_m0.f at h
  refine WpC.seq ?_
  refine WpC.reg (U := Un) (st1 := ⟨[(0, .loc 100000 0), (2, .loc 2 0)], [(2, .box [.p I6 (0 : Int), .p .str ([] : List UInt8), .p .str ([] : List UInt8), .p .str ([] : List UInt8)]), (100000, .box [.p .str a0, .p I6 a1, .p .err a2])]⟩) [0, 2] [2, 100000] hN (.cons (sok_allocZ (U := Un) (rs := []) (d := 2) (us := [.p I6 (0 : Int), .p .str ([] : List UInt8), .p .str ([] : List UInt8), .p .str ([] : List UInt8)]) (v := (.agg #[.int .i64 0, .string ByteArray.empty, .string ByteArray.empty, .string ByteArray.empty])) rfl rfl rfl (by kernel_rfl) rfl (.data (fun _ _ _ => .int _ _) (.data (fun _ _ _ => rd_str0) (.data (fun _ _ _ => rd_str0) (.data (fun _ _ _ => rd_str0) .nil)))) (by kernel_rfl)) .nil) (by kernel_rfl) (by kernel_rfl) (by kernel_rfl) (Conv.refl (U := Un) _) ?_
  refine thenQ_normal ?_
  refine WpC.seq ?_
  refine WpC.seq ?_
  obtain ⟨v1, hv1, h⟩ := bind_some h
  refine WpC.reg (U := Un) (st1 := ⟨[(0, .loc 100000 0), (2, .loc 2 0), (6, .p .bool ((!v1) : Bool))], [(2, .box [.p I6 (0 : Int), .p .str ([] : List UInt8), .p .str ([] : List UInt8), .p .str ([] : List UInt8)]), (100000, .box [.p .str a0, .p I6 a1, .p .err a2])]⟩) [0, 2, 6] [2, 100000] hN (.cons (mv (U := Un) (v := .loc 100000 0) rfl rfl) (.cons (sok_callV (U := Un) (rs := [(4, .loc 100000 0)]) (vw := []) rfl rfl (.func _) hb_87 (COk.ren (lex_reader_is_m0.ok O hO k a0 a1 a2 123 v1 hv1) (fun n => if n = 100000 then 100000 else n) (injOn_of (by kernel_rfl))) (.cons o0 (.cons (.int _ _ _) .nil)) (.cons (.same _) (.cons (.same _) .nil)) (by simp) (.inl rfl)) (.cons (sok_not (U := Un) (rs := [(5, .p .bool v1)]) rfl rfl o0) .nil))) (by kernel_rfl) (by kernel_rfl) (by kernel_rfl) (Conv.refl (U := Un) _) ?_
  refine thenQ_normal ?_
  refine WpC.cond (U := Un) (b := (!v1)) (.tmp (.tail _ (.tail _ (.head _)))) (fun hc2 => ?_) (fun hc2 => ?_)
  · replace h := ite_t hc2 h
    refine WpC.seq ?_
    obtain ⟨v3, hv3, h⟩ := bind_some h
    refine WpC.reg (U := Un) (st1 := ⟨[(2, .loc 2 0)], [(2, .box [.p I6 (2 : Int), .p .str v3.1, .p .str ([] : List UInt8), .p .str ([] : List UInt8)]), (100000, .box [.p .str a0, .p I6 v3.2.1, .p .err v3.2.2])]⟩) [2] [2, 100000] hN (.cons (mv (U := Un) (v := .loc 100000 0) rfl rfl) (.cons (sok_callV (U := Un) (rs := [(7, .loc 100000 0)]) (vw := []) rfl rfl (.func _) hb_88 (COk.ren (lex_reader_name_m0.ok O hO k a0 a1 a2 v3 hv3) (fun n => if n = 100000 then 100000 else n) (injOn_of (by kernel_rfl))) (.cons o0 .nil) (.cons (.same _) .nil) (by simp) (.inl rfl)) (.cons (sok_build (U := Un) (t := .named 3) (rs := [(8, .p .str v3.1)]) (us0 := [.p I6 (0 : Int), .p .str ([] : List UInt8), .p .str ([] : List UInt8), .p .str ([] : List UInt8)]) (us := [.p I6 (2 : Int), .p .str v3.1, .p .str ([] : List UInt8), .p .str ([] : List UInt8)]) (v := .p (.named 3) ((T_lex_Piece.mk 2 v3.1 [] []) : T_lex_Piece)) rfl rfl lays_42 (.data (fun _ _ _ => .int _ _) (.data (fun _ _ _ => rd_str0) (.data (fun _ _ _ => rd_str0) (.data (fun _ _ _ => rd_str0) .nil)))) (Filled.cons (U := Un) (i := 0) (v := .p I6 (2 : Int)) [] [.p I6 (0 : Int)] [.p I6 (2 : Int)] [.p .str ([] : List UInt8), .p .str ([] : List UInt8), .p .str ([] : List UInt8)] (.int _ _ _) (.data (.one _ _)) rfl rfl rfl rfl rfl rfl (Filled.cons (U := Un) (i := 1) (v := .p .str v3.1) [.p I6 (2 : Int)] [.p .str ([] : List UInt8)] [.p .str v3.1] [.p .str ([] : List UInt8), .p .str ([] : List UInt8)] o0 (.data (.one _ _)) rfl rfl rfl rfl rfl rfl (.nil _))) rfl (.data (.named (.pair (.one _ _) (.pair (.one _ _) (.pair (.one _ _) (.pair (.one _ _) .unit))))))) (.cons (sok_storeB (U := Un) (rs := [(2, .loc 2 0), (9, .p (.named 3) ((T_lex_Piece.mk 2 v3.1 [] []) : T_lex_Piece))]) (v := .p (.named 3) ((T_lex_Piece.mk 2 v3.1 [] []) : T_lex_Piece)) (mid' := [.p I6 (2 : Int), .p .str v3.1, .p .str ([] : List UInt8), .p .str ([] : List UInt8)]) [] [.p I6 (0 : Int), .p .str ([] : List UInt8), .p .str ([] : List UInt8), .p .str ([] : List UInt8)] [] rfl rfl rfl ty_42 o0 o1 (.data (.named (.pair (.one _ _) (.pair (.one _ _) (.pair (.one _ _) (.pair (.one _ _) .unit)))))) rfl rfl rfl rfl rfl rfl) .nil)))) (by kernel_rfl) (by kernel_rfl) (by kernel_rfl) (Conv.refl (U := Un) _) ?_
    refine thenQ_normal ?_
    refine WpC.ret ?_
    refine thenQ_ret ?_
    have hq := Option.some.inj h
    subst hq
    exact ends_ret (retV_L (U := Un) (vs := [.p (.named 3) ((T_lex_Piece.mk 2 v3.1 [] []) : T_lex_Piece)]) rfl (ResL.cell (U := Un) [] [.p I6 (2 : Int), .p .str v3.1, .p .str ([] : List UInt8), .p .str ([] : List UInt8)] [] (.head _) (.head _) rfl rfl rfl rfl ty_42 (.data (.named (.pair (.one _ _) (.pair (.one _ _) (.pair (.one _ _) (.pair (.one _ _) .unit)))))) .nil)) (ain_cons (.tail _ (.head _)) ain_nil)
  · replace h := ite_f hc2 h
    refine WpC.conv (Conv.keep (U := Un) (b := ⟨[(0, .loc 100000 0), (2, .loc 2 0)], [(2, .box [.p I6 (0 : Int), .p .str ([] : List UInt8), .p .str ([] : List UInt8), .p .str ([] : List UInt8)]), (100000, .box [.p .str a0, .p I6 a1, .p .err a2])]⟩) [0, 2] [2, 100000] (by kernel_rfl)) (WpC.skip ?_)
    refine thenQ_normal ?_
    refine WpC.seq ?_
    refine WpC.reg (U := Un) (st1 := ⟨[(0, .loc 100000 0), (2, .loc 2 0)], [(2, .box [.p I6 (0 : Int), .p .str ([] : List UInt8), .p .str ([] : List UInt8), .p .str ([] : List UInt8)]), (100000, .box [.p .str a0, .p I6 ((IntKind.i64.wrap (a1 + 1)) : Int), .p .err a2])]⟩) [0, 2] [2, 100000] hN (.cons (mv (U := Un) (v := .loc 100000 0) rfl rfl) (.cons (sok_nilCheck (U := Un) (rs := [(10, .loc 100000 0)]) rfl rfl o0 rfl) (.cons (sok_fieldB (U := Un) (rs := [(11, .loc 100000 0)]) rfl rfl fd_81_1 (by decide) o0) (.cons (sok_loadB (U := Un) (t := .int .i64) (rs := [(12, .loc 100000 1)]) [.p .str a0] [.p I6 a1] [.p .err a2] (v := .p I6 a1) rfl rfl ty_3 o0 rfl rfl rfl rfl (.data (.one _ _))) (.cons (sok_arith (U := Un) (rs := [(13, .p I6 a1)]) rfl rfl o0 (.int _ _ _) rfl) (.cons (sok_nilCheck (U := Un) (rs := [(10, .loc 100000 0)]) rfl rfl o0 rfl) (.cons (sok_fieldB (U := Un) (rs := [(15, .loc 100000 0)]) rfl rfl fd_81_1 (by decide) o0) (.cons (sok_storeB (U := Un) (rs := [(16, .loc 100000 1), (14, .p I6 ((IntKind.i64.wrap (a1 + 1)) : Int))]) (v := .p I6 ((IntKind.i64.wrap (a1 + 1)) : Int)) (mid' := [.p I6 ((IntKind.i64.wrap (a1 + 1)) : Int)]) [.p .str a0] [.p I6 a1] [.p .err a2] rfl rfl rfl ty_3 o0 o1 (.data (.one _ _)) rfl rfl rfl rfl rfl rfl) .nil)))))))) (by kernel_rfl) (by kernel_rfl) (by kernel_rfl) (Conv.refl (U := Un) _) ?_
    refine thenQ_normal ?_
    refine WpC.seq ?_
    obtain ⟨v4, hv4, h⟩ := bind_some h
    refine WpC.reg (U := Un) (st1 := ⟨[(0, .loc 100000 0), (2, .loc 2 0), (3, .loc 3 0)], [(2, .box [.p I6 (0 : Int), .p .str ([] : List UInt8), .p .str ([] : List UInt8), .p .str ([] : List UInt8)]), (3, .box [.p I6 (2 : Int), .p .str v4.1, .p .str ([] : List UInt8), .p .str ([] : List UInt8)]), (100000, .box [.p .str a0, .p I6 v4.2.1, .p .err v4.2.2])]⟩) [0, 2, 3] [2, 3, 100000] hN (.cons (mv (U := Un) (v := .loc 100000 0) rfl rfl) (.cons (sok_callV (U := Un) (rs := [(17, .loc 100000 0)]) (vw := []) rfl rfl (.func _) hb_88 (COk.ren (lex_reader_name_m0.ok O hO k a0 (IntKind.i64.wrap (a1 + 1)) a2 v4 hv4) (fun n => if n = 100000 then 100000 else n) (injOn_of (by kernel_rfl))) (.cons o0 .nil) (.cons (.same _) .nil) (by simp) (.inl rfl)) (.cons (sok_build (U := Un) (t := .named 3) (rs := [(18, .p .str v4.1)]) (us0 := [.p I6 (0 : Int), .p .str ([] : List UInt8), .p .str ([] : List UInt8), .p .str ([] : List UInt8)]) (us := [.p I6 (2 : Int), .p .str v4.1, .p .str ([] : List UInt8), .p .str ([] : List UInt8)]) (v := .p (.named 3) ((T_lex_Piece.mk 2 v4.1 [] []) : T_lex_Piece)) rfl rfl lays_42 (.data (fun _ _ _ => .int _ _) (.data (fun _ _ _ => rd_str0) (.data (fun _ _ _ => rd_str0) (.data (fun _ _ _ => rd_str0) .nil)))) (Filled.cons (U := Un) (i := 0) (v := .p I6 (2 : Int)) [] [.p I6 (0 : Int)] [.p I6 (2 : Int)] [.p .str ([] : List UInt8), .p .str ([] : List UInt8), .p .str ([] : List UInt8)] (.int _ _ _) (.data (.one _ _)) rfl rfl rfl rfl rfl rfl (Filled.cons (U := Un) (i := 1) (v := .p .str v4.1) [.p I6 (2 : Int)] [.p .str ([] : List UInt8)] [.p .str v4.1] [.p .str ([] : List UInt8), .p .str ([] : List UInt8)] o0 (.data (.one _ _)) rfl rfl rfl rfl rfl rfl (.nil _))) rfl (.data (.named (.pair (.one _ _) (.pair (.one _ _) (.pair (.one _ _) (.pair (.one _ _) .unit))))))) (.cons (sok_allocZ (U := Un) (rs := []) (d := 3) (us := [.p I6 (0 : Int), .p .str ([] : List UInt8), .p .str ([] : List UInt8), .p .str ([] : List UInt8)]) (v := (.agg #[.int .i64 0, .string ByteArray.empty, .string ByteArray.empty, .string ByteArray.empty])) rfl rfl rfl (by kernel_rfl) rfl (.data (fun _ _ _ => .int _ _) (.data (fun _ _ _ => rd_str0) (.data (fun _ _ _ => rd_str0) (.data (fun _ _ _ => rd_str0) .nil)))) (by kernel_rfl)) (.cons (sok_storeB (U := Un) (rs := [(3, .loc 3 0), (19, .p (.named 3) ((T_lex_Piece.mk 2 v4.1 [] []) : T_lex_Piece))]) (v := .p (.named 3) ((T_lex_Piece.mk 2 v4.1 [] []) : T_lex_Piece)) (mid' := [.p I6 (2 : Int), .p .str v4.1, .p .str ([] : List UInt8), .p .str ([] : List UInt8)]) [] [.p I6 (0 : Int), .p .str ([] : List UInt8), .p .str ([] : List UInt8), .p .str ([] : List UInt8)] [] rfl rfl rfl ty_42 o0 o1 (.data (.named (.pair (.one _ _) (.pair (.one _ _) (.pair (.one _ _) (.pair (.one _ _) .unit)))))) rfl rfl rfl rfl rfl rfl) .nil))))) (by kernel_rfl) (by kernel_rfl) (by kernel_rfl) (Conv.refl (U := Un) _) ?_
    refine thenQ_normal ?_
    refine WpC.seqJ (U := Un) (fun st' => ∃ v5 : Int, ∃ v6 : Nat, ∃ v7 : Int, ∃ v8 : List UInt8, ∃ v9 : List UInt8, lex_reader_variable_m0.j11 k a0 v4 v5 v6 v7 v8 v9 = some out ∧ st' = ⟨[(0, .loc 100000 0), (2, .loc 2 0), (3, .loc 3 0)], [(2, .box [.p I6 (0 : Int), .p .str ([] : List UInt8), .p .str ([] : List UInt8), .p .str ([] : List UInt8)]), (3, .box [.p I6 v7, .p .str v4.1, .p .str v8, .p .str v9]), (100000, .box [.p .str a0, .p I6 v5, .p .err v6])]⟩) ?_ ?_
    · refine WpC.seqJ (U := Un) (fun st' => ∃ v12 : Bool, lex_reader_variable_m0.j17 k a0 v4 v12 = some out ∧ st' = ⟨[(0, .loc 100000 0), (2, .loc 2 0), (3, .loc 3 0), (28, .p .bool v12)], [(2, .box [.p I6 (0 : Int), .p .str ([] : List UInt8), .p .str ([] : List UInt8), .p .str ([] : List UInt8)]), (3, .box [.p I6 (2 : Int), .p .str v4.1, .p .str ([] : List UInt8), .p .str ([] : List UInt8)]), (100000, .box [.p .str a0, .p I6 v4.2.1, .p .err v4.2.2])]⟩) ?_ ?_
      · rcases bool_cases (v4.2.2 == 0) with hc18 | hc18
        · replace h := ite_t hc18 h
          obtain ⟨v19, hv19, h⟩ := bind_some h
          refine WpC.reg (U := Un) (st1 := ⟨[(0, .loc 100000 0), (2, .loc 2 0), (3, .loc 3 0), (28, .p .bool v19)], [(2, .box [.p I6 (0 : Int), .p .str ([] : List UInt8), .p .str ([] : List UInt8), .p .str ([] : List UInt8)]), (3, .box [.p I6 (2 : Int), .p .str v4.1, .p .str ([] : List UInt8), .p .str ([] : List UInt8)]), (100000, .box [.p .str a0, .p I6 v4.2.1, .p .err v4.2.2])]⟩) [0, 2, 3, 28] [2, 3, 100000] hN (.cons (mv (U := Un) (v := .loc 100000 0) rfl rfl) (.cons (sok_nilCheck (U := Un) (rs := [(20, .loc 100000 0)]) rfl rfl o0 rfl) (.cons (sok_fieldB (U := Un) (rs := [(21, .loc 100000 0)]) rfl rfl fd_81_2 (by decide) o0) (.cons (sok_loadB (U := Un) (t := .err) (rs := [(22, .loc 100000 2)]) [.p .str a0, .p I6 v4.2.1] [.p .err v4.2.2] [] (v := .p .err v4.2.2) rfl rfl ty_27 o0 rfl rfl rfl rfl (.data (.one _ _))) (.cons (sok_errNil (U := Un) (rs := [(23, .p .err v4.2.2)]) rfl rfl Tryd.underlying27 o0 rfl) (.cons (mv (U := Un) (v := .p .bool ((v4.2.2 == 0) : Bool)) rfl rfl) (.cons (sok_run rfl rfl hc18 (mv (U := Un) (v := .loc 100000 0) rfl rfl)) (.cons (sok_run rfl rfl hc18 (sok_callV (U := Un) (rs := [(26, .loc 100000 0)]) (vw := []) rfl rfl (.func _) hb_87 (COk.ren (lex_reader_is_m0.ok O hO k a0 v4.2.1 v4.2.2 58 v19 hv19) (fun n => if n = 100000 then 100000 else n) (injOn_of (by kernel_rfl))) (.cons o0 (.cons (.int _ _ _) .nil)) (.cons (.same _) (.cons (.same _) .nil)) (by simp) (.inl rfl))) (.cons (sok_pickT (U := Un) (rs := [(25, .p .bool ((v4.2.2 == 0) : Bool)), (27, .p .bool v19)]) rfl rfl o0 hc18 o1) .nil))))))))) (by kernel_rfl) (by kernel_rfl) (by kernel_rfl) (Conv.refl (U := Un) _) ?_
          refine thenQ_normal ?_
          exact ⟨v19, h, rfl⟩
        · replace h := ite_f hc18 h
          refine WpC.reg (U := Un) (st1 := ⟨[(0, .loc 100000 0), (2, .loc 2 0), (3, .loc 3 0), (28, .p .bool false)], [(2, .box [.p I6 (0 : Int), .p .str ([] : List UInt8), .p .str ([] : List UInt8), .p .str ([] : List UInt8)]), (3, .box [.p I6 (2 : Int), .p .str v4.1, .p .str ([] : List UInt8), .p .str ([] : List UInt8)]), (100000, .box [.p .str a0, .p I6 v4.2.1, .p .err v4.2.2])]⟩) [0, 2, 3, 28] [2, 3, 100000] hN (.cons (mv (U := Un) (v := .loc 100000 0) rfl rfl) (.cons (sok_nilCheck (U := Un) (rs := [(20, .loc 100000 0)]) rfl rfl o0 rfl) (.cons (sok_fieldB (U := Un) (rs := [(21, .loc 100000 0)]) rfl rfl fd_81_2 (by decide) o0) (.cons (sok_loadB (U := Un) (t := .err) (rs := [(22, .loc 100000 2)]) [.p .str a0, .p I6 v4.2.1] [.p .err v4.2.2] [] (v := .p .err v4.2.2) rfl rfl ty_27 o0 rfl rfl rfl rfl (.data (.one _ _))) (.cons (sok_errNil (U := Un) (rs := [(23, .p .err v4.2.2)]) rfl rfl Tryd.underlying27 o0 rfl) (.cons (mv (U := Un) (v := .p .bool ((v4.2.2 == 0) : Bool)) rfl rfl) (.cons (sok_skip rfl rfl hc18) (.cons (sok_skip rfl rfl hc18) (.cons (sok_pickF (U := Un) (rs := [(25, .p .bool ((v4.2.2 == 0) : Bool))]) rfl rfl o0 hc18 (.bool _ _)) .nil))))))))) (by kernel_rfl) (by kernel_rfl) (by kernel_rfl) (Conv.refl (U := Un) _) ?_
          refine thenQ_normal ?_
          exact ⟨false, h, rfl⟩
      · rintro _ ⟨v12, h, rfl⟩
        unfold lex_reader_variable_m0.j17 at h
        refine WpC.cond (U := Un) (b := v12) (.tmp (.tail _ (.tail _ (.tail _ (.head _))))) (fun hc13 => ?_) (fun hc13 => ?_)
        · replace h := ite_t hc13 h
          refine WpC.seq ?_
          refine WpC.reg (U := Un) (st1 := ⟨[(0, .loc 100000 0), (2, .loc 2 0), (3, .loc 3 0)], [(2, .box [.p I6 (0 : Int), .p .str ([] : List UInt8), .p .str ([] : List UInt8), .p .str ([] : List UInt8)]), (3, .box [.p I6 (2 : Int), .p .str v4.1, .p .str ([] : List UInt8), .p .str ([] : List UInt8)]), (100000, .box [.p .str a0, .p I6 ((IntKind.i64.wrap (v4.2.1 + 1)) : Int), .p .err v4.2.2])]⟩) [0, 2, 3] [2, 3, 100000] hN (.cons (mv (U := Un) (v := .loc 100000 0) rfl rfl) (.cons (sok_nilCheck (U := Un) (rs := [(29, .loc 100000 0)]) rfl rfl o0 rfl) (.cons (sok_fieldB (U := Un) (rs := [(30, .loc 100000 0)]) rfl rfl fd_81_1 (by decide) o0) (.cons (sok_loadB (U := Un) (t := .int .i64) (rs := [(31, .loc 100000 1)]) [.p .str a0] [.p I6 v4.2.1] [.p .err v4.2.2] (v := .p I6 v4.2.1) rfl rfl ty_3 o0 rfl rfl rfl rfl (.data (.one _ _))) (.cons (sok_arith (U := Un) (rs := [(32, .p I6 v4.2.1)]) rfl rfl o0 (.int _ _ _) rfl) (.cons (sok_nilCheck (U := Un) (rs := [(29, .loc 100000 0)]) rfl rfl o0 rfl) (.cons (sok_fieldB (U := Un) (rs := [(34, .loc 100000 0)]) rfl rfl fd_81_1 (by decide) o0) (.cons (sok_storeB (U := Un) (rs := [(35, .loc 100000 1), (33, .p I6 ((IntKind.i64.wrap (v4.2.1 + 1)) : Int))]) (v := .p I6 ((IntKind.i64.wrap (v4.2.1 + 1)) : Int)) (mid' := [.p I6 ((IntKind.i64.wrap (v4.2.1 + 1)) : Int)]) [.p .str a0] [.p I6 v4.2.1] [.p .err v4.2.2] rfl rfl rfl ty_3 o0 o1 (.data (.one _ _)) rfl rfl rfl rfl rfl rfl) .nil)))))))) (by kernel_rfl) (by kernel_rfl) (by kernel_rfl) (Conv.refl (U := Un) _) ?_
          refine thenQ_normal ?_
          refine WpC.seq ?_
          obtain ⟨v14, hv14, h⟩ := bind_some h
          refine WpC.reg (U := Un) (st1 := ⟨[(0, .loc 100000 0), (2, .loc 2 0), (3, .loc 3 0)], [(2, .box [.p I6 (0 : Int), .p .str ([] : List UInt8), .p .str ([] : List UInt8), .p .str ([] : List UInt8)]), (3, .box [.p I6 (3 : Int), .p .str v4.1, .p .str v14.1, .p .str ([] : List UInt8)]), (100000, .box [.p .str a0, .p I6 v14.2, .p .err v4.2.2])]⟩) [0, 2, 3] [2, 3, 100000] hN (.cons (mv (U := Un) (v := .loc 100000 0) rfl rfl) (.cons (sok_callV (U := Un) (rs := [(36, .loc 100000 0)]) (vw := []) rfl rfl (.func _) hb_45 (COk.ren (lex_reader_take_m2.ok O hO k a0 (IntKind.i64.wrap (v4.2.1 + 1)) v4.2.2 v14 hv14) (fun n => if n = 100000 then 100000 else n) (injOn_of (by kernel_rfl))) (.cons o0 (.cons (.func _ _) .nil)) (.cons (.same _) (.cons (.same _) .nil)) (by simp) (.inl rfl)) (.cons (sok_fieldB (U := Un) (rs := [(3, .loc 3 0)]) rfl rfl fd_42_0 (by decide) o0) (.cons (sok_storeB (U := Un) (rs := [(38, .loc 3 0)]) (v := .p I6 (3 : Int)) (mid' := [.p I6 (3 : Int)]) [] [.p I6 (2 : Int)] [.p .str v4.1, .p .str ([] : List UInt8), .p .str ([] : List UInt8)] rfl rfl rfl ty_3 o0 (.int _ _ _) (.data (.one _ _)) rfl rfl rfl rfl rfl rfl) (.cons (sok_fieldB (U := Un) (rs := [(3, .loc 3 0)]) rfl rfl fd_42_2 (by decide) o0) (.cons (sok_storeB (U := Un) (rs := [(39, .loc 3 2), (37, .p .str v14.1)]) (v := .p .str v14.1) (mid' := [.p .str v14.1]) [.p I6 (3 : Int), .p .str v4.1] [.p .str ([] : List UInt8)] [.p .str ([] : List UInt8)] rfl rfl rfl ty_9 o0 o1 (.data (.one _ _)) rfl rfl rfl rfl rfl rfl) .nil)))))) (by kernel_rfl) (by kernel_rfl) (by kernel_rfl) (Conv.refl (U := Un) _) ?_
          refine thenQ_normal ?_
          refine WpC.seq ?_
          obtain ⟨v15, hv15, h⟩ := bind_some h
          refine WpC.reg (U := Un) (st1 := ⟨[(0, .loc 100000 0), (2, .loc 2 0), (3, .loc 3 0)], [(2, .box [.p I6 (0 : Int), .p .str ([] : List UInt8), .p .str ([] : List UInt8), .p .str ([] : List UInt8)]), (3, .box [.p I6 (3 : Int), .p .str v4.1, .p .str v14.1, .p .str ([] : List UInt8)]), (100000, .box [.p .str a0, .p I6 v15.1, .p .err v15.2])]⟩) [0, 2, 3] [2, 3, 100000] hN (.cons (mv (U := Un) (v := .loc 100000 0) rfl rfl) (.cons (sok_callV (U := Un) (rs := [(40, .loc 100000 0)]) (vw := []) rfl rfl (.func _) hb_90 (COk.ren (lex_reader_takes_m0.ok O hO k a0 v14.2 v4.2.2 61 v15 hv15) (fun n => if n = 100000 then 100000 else n) (injOn_of (by kernel_rfl))) (.cons o0 (.cons (.int _ _ _) .nil)) (.cons (.same _) (.cons (.same _) .nil)) (by simp) (.inl rfl)) .nil)) (by kernel_rfl) (by kernel_rfl) (by kernel_rfl) (Conv.refl (U := Un) _) ?_
          refine thenQ_normal ?_
          obtain ⟨v16, hv16, h⟩ := bind_some h
          refine WpC.reg (U := Un) (st1 := ⟨[(0, .loc 100000 0), (2, .loc 2 0), (3, .loc 3 0)], [(2, .box [.p I6 (0 : Int), .p .str ([] : List UInt8), .p .str ([] : List UInt8), .p .str ([] : List UInt8)]), (3, .box [.p I6 (3 : Int), .p .str v4.1, .p .str v14.1, .p .str v16.1]), (100000, .box [.p .str a0, .p I6 v16.2, .p .err v15.2])]⟩) [0, 2, 3] [2, 3, 100000] hN (.cons (mv (U := Un) (v := .loc 100000 0) rfl rfl) (.cons (sok_callV (U := Un) (rs := [(42, .loc 100000 0)]) (vw := []) rfl rfl (.func _) hb_45 (COk.ren (lex_reader_take_m2.ok O hO k a0 v15.1 v15.2 v16 hv16) (fun n => if n = 100000 then 100000 else n) (injOn_of (by kernel_rfl))) (.cons o0 (.cons (.func _ _) .nil)) (.cons (.same _) (.cons (.same _) .nil)) (by simp) (.inl rfl)) (.cons (sok_fieldB (U := Un) (rs := [(3, .loc 3 0)]) rfl rfl fd_42_3 (by decide) o0) (.cons (sok_storeB (U := Un) (rs := [(44, .loc 3 3), (43, .p .str v16.1)]) (v := .p .str v16.1) (mid' := [.p .str v16.1]) [.p I6 (3 : Int), .p .str v4.1, .p .str v14.1] [.p .str ([] : List UInt8)] [] rfl rfl rfl ty_9 o0 o1 (.data (.one _ _)) rfl rfl rfl rfl rfl rfl) .nil)))) (by kernel_rfl) (by kernel_rfl) (by kernel_rfl) (Conv.refl (U := Un) _) ?_
          refine thenQ_normal ?_
          exact ⟨v16.2, v15.2, 3, v14.1, v16.1, h, rfl⟩
        · replace h := ite_f hc13 h
          refine WpC.conv (Conv.keep (U := Un) (b := ⟨[(0, .loc 100000 0), (2, .loc 2 0), (3, .loc 3 0)], [(2, .box [.p I6 (0 : Int), .p .str ([] : List UInt8), .p .str ([] : List UInt8), .p .str ([] : List UInt8)]), (3, .box [.p I6 (2 : Int), .p .str v4.1, .p .str ([] : List UInt8), .p .str ([] : List UInt8)]), (100000, .box [.p .str a0, .p I6 v4.2.1, .p .err v4.2.2])]⟩) [0, 2, 3] [2, 3, 100000] (by kernel_rfl)) (WpC.skip ?_)
          refine thenQ_normal ?_
          exact ⟨v4.2.1, v4.2.2, 2, [], [], h, rfl⟩
    · rintro _ ⟨v5, v6, v7, v8, v9, h, rfl⟩
      unfold lex_reader_variable_m0.j11 at h
      refine WpC.seq ?_
      obtain ⟨v10, hv10, h⟩ := bind_some h
      refine WpC.reg (U := Un) (st1 := ⟨[(2, .loc 2 0), (3, .loc 3 0)], [(2, .box [.p I6 (0 : Int), .p .str ([] : List UInt8), .p .str ([] : List UInt8), .p .str ([] : List UInt8)]), (3, .box [.p I6 v7, .p .str v4.1, .p .str v8, .p .str v9]), (100000, .box [.p .str a0, .p I6 v10.1, .p .err v10.2])]⟩) [2, 3] [2, 3, 100000] hN (.cons (mv (U := Un) (v := .loc 100000 0) rfl rfl) (.cons (sok_callV (U := Un) (rs := [(45, .loc 100000 0)]) (vw := []) rfl rfl (.func _) hb_90 (COk.ren (lex_reader_takes_m0.ok O hO k a0 v5 v6 125 v10 hv10) (fun n => if n = 100000 then 100000 else n) (injOn_of (by kernel_rfl))) (.cons o0 (.cons (.int _ _ _) .nil)) (.cons (.same _) (.cons (.same _) .nil)) (by simp) (.inl rfl)) .nil)) (by kernel_rfl) (by kernel_rfl) (by kernel_rfl) (Conv.refl (U := Un) _) ?_
      refine thenQ_normal ?_
      refine WpC.seq ?_
      refine WpC.reg (U := Un) (st1 := ⟨[(2, .loc 2 0)], [(2, .box [.p I6 v7, .p .str v4.1, .p .str v8, .p .str v9]), (100000, .box [.p .str a0, .p I6 v10.1, .p .err v10.2])]⟩) [2] [2, 100000] hN (.cons (sok_loadB (U := Un) (t := .named 3) (rs := [(3, .loc 3 0)]) [] [.p I6 v7, .p .str v4.1, .p .str v8, .p .str v9] [] (v := .p (.named 3) ((T_lex_Piece.mk v7 v4.1 v8 v9) : T_lex_Piece)) rfl rfl ty_42 o0 rfl rfl rfl rfl (.data (.named (.pair (.one _ _) (.pair (.one _ _) (.pair (.one _ _) (.pair (.one _ _) .unit))))))) (.cons (sok_storeB (U := Un) (rs := [(2, .loc 2 0), (47, .p (.named 3) ((T_lex_Piece.mk v7 v4.1 v8 v9) : T_lex_Piece))]) (v := .p (.named 3) ((T_lex_Piece.mk v7 v4.1 v8 v9) : T_lex_Piece)) (mid' := [.p I6 v7, .p .str v4.1, .p .str v8, .p .str v9]) [] [.p I6 (0 : Int), .p .str ([] : List UInt8), .p .str ([] : List UInt8), .p .str ([] : List UInt8)] [] rfl rfl rfl ty_42 o0 o1 (.data (.named (.pair (.one _ _) (.pair (.one _ _) (.pair (.one _ _) (.pair (.one _ _) .unit)))))) rfl rfl rfl rfl rfl rfl) .nil)) (by kernel_rfl) (by kernel_rfl) (by kernel_rfl) (Conv.refl (U := Un) _) ?_
      refine thenQ_normal ?_
      refine WpC.ret ?_
      have hq := Option.some.inj h
      subst hq
      exact ends_ret (retV_L (U := Un) (vs := [.p (.named 3) ((T_lex_Piece.mk v7 v4.1 v8 v9) : T_lex_Piece)]) rfl (ResL.cell (U := Un) [] [.p I6 v7, .p .str v4.1, .p .str v8, .p .str v9] [] (.head _) (.head _) rfl rfl rfl rfl ty_42 (.data (.named (.pair (.one _ _) (.pair (.one _ _) (.pair (.one _ _) (.pair (.one _ _) .unit)))))) .nil)) (ain_cons (.tail _ (.head _)) ain_nil)

end Go.Proofs.YtnbnfjgedinlbabDoor
