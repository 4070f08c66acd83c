/- A part of the proof of a given law: PCC6. Own work, printed in part by a program of mine. -/
import Derived.Test.YthmbbdemecljpaaDoorK1PCC5
namespace Go.Proofs.YthmbbdemecljpaaDoor
open Go Go.AM
set_option linter.unusedVariables false
set_option linter.unusedSimpArgs false
set_option maxRecDepth 100000
theorem millwrightlaw08_ProgClosed.ok (O : Out) (hO : GOkA O) (k : Nat) (a0 : List T_prog_Instr) (out : Bool) (h : millwrightlaw08_ProgClosed.f k a0 = some out) : COk Un O Tryd.prog 3 { ar := [.p (.list (.named 3)) a0], r := .p .bool out } := by
  refine cok_of_wp Tryd.func3 rfl (k := 75) rfl (Nat.le_of_ble_eq_true rfl) (namesOk_pure rfl rfl rfl rfl) ?_
  intro B hN
  refine WpC.conv (Conv.keep (U := Un) (b := ⟨[(0, .p (.list (.named 3)) a0)], []⟩) [0] [] (by kernel_rfl)) ?_
  unfold millwrightlaw08_ProgClosed.f at h
  refine WpC.seq ?_
  refine WpC.reg (U := Un) (st1 := ⟨[(0, .p (.list (.named 3)) a0)], []⟩) [0] [] hN (.cons (sok_move (U := Un) (rs := []) rfl (.inr rfl) (.bool _ _)) .nil) (by kernel_rfl) (by kernel_rfl) (by kernel_rfl) (Conv.refl (U := Un) _) ?_
  refine thenQ_normal ?_
  refine WpC.seq ?_
  refine WpC.seq ?_
  obtain ⟨v1, hv1, h⟩ := bind_some h
  refine WpC.reg (U := Un) (st1 := ⟨[(0, .p (.list (.named 3)) a0), (9, .p .bool ((!v1) : Bool))], []⟩) [0, 9] [] hN (.cons (sok_callV (U := Un) (rs := []) (vw := []) rfl rfl (.func _) hb_12 (millwrightlaw08_alive.ok O hO k v1 hv1) .nil .nil (by simp) (.inl rfl)) (.cons (sok_not (U := Un) (rs := [(8, .p .bool v1)]) rfl rfl (.tmp (.head _))) .nil)) (by kernel_rfl) (by kernel_rfl) (by kernel_rfl) (Conv.refl (U := Un) _) ?_
  refine thenQ_normal ?_
  refine WpC.cond (U := Un) (b := (!v1)) (.tmp (.tail _ (.head _))) (fun hc2 => ?_) (fun hc2 => ?_)
  · replace h := ite_t hc2 h
    refine WpC.seq ?_
    refine WpC.reg (U := Un) (st1 := ⟨[(2, .p .bool false)], []⟩) [2] [] hN (.cons (sok_move (U := Un) (rs := []) rfl (.inr rfl) (.bool _ _)) .nil) (by kernel_rfl) (by kernel_rfl) (by kernel_rfl) (Conv.refl (U := Un) _) ?_
    refine thenQ_normal ?_
    refine WpC.ret ?_
    refine thenQ_ret ?_
    have hq := Option.some.inj h
    subst hq
    exact ends_ret (retV_1 rfl (.head _)) ain_nil
  · replace h := ite_f hc2 h
    refine WpC.conv (Conv.keep (U := Un) (b := ⟨[(0, .p (.list (.named 3)) a0)], []⟩) [0] [] (by kernel_rfl)) (WpC.skip ?_)
    refine thenQ_normal ?_
    refine WpC.seq ?_
    refine WpC.seq ?_
    refine WpC.reg (U := Un) (st1 := ⟨[(0, .p (.list (.named 3)) a0), (12, .p .bool ((decide ((a0.length : Int) > 60)) : Bool))], []⟩) [0, 12] [] hN (.cons (sok_move (U := Un) (rs := [(0, .p (.list (.named 3)) a0)]) rfl (.inl rfl) (.tmp (.head _))) (.cons (sok_lenL (U := Un) (rs := [(10, .p (.list (.named 3)) a0)]) rfl rfl Tryd.underlying22 (.tmp (.head _))) (.cons (sok_cmp (U := Un) (rs := [(11, .p (.int .i64) ((a0.length : Int) : Int))]) rfl rfl (.tmp (.head _)) (.int _ _ _) rfl) .nil))) (by kernel_rfl) (by kernel_rfl) (by kernel_rfl) (Conv.refl (U := Un) _) ?_
    refine thenQ_normal ?_
    refine WpC.cond (U := Un) (b := (decide ((a0.length : Int) > 60))) (.tmp (.tail _ (.head _))) (fun hc3 => ?_) (fun hc3 => ?_)
    · replace h := ite_t hc3 h
      refine WpC.seq ?_
      refine WpC.reg (U := Un) (st1 := ⟨[(2, .p .bool true)], []⟩) [2] [] hN (.cons (sok_move (U := Un) (rs := []) rfl (.inr rfl) (.bool _ _)) .nil) (by kernel_rfl) (by kernel_rfl) (by kernel_rfl) (Conv.refl (U := Un) _) ?_
      refine thenQ_normal ?_
      refine WpC.ret ?_
      refine thenQ_ret ?_
      have hq := Option.some.inj h
      subst hq
      exact ends_ret (retV_1 rfl (.head _)) ain_nil
    · replace h := ite_f hc3 h
      refine WpC.conv (Conv.keep (U := Un) (b := ⟨[(0, .p (.list (.named 3)) a0)], []⟩) [0] [] (by kernel_rfl)) (WpC.skip ?_)
      refine thenQ_normal ?_
      refine WpC.seq ?_
      refine WpC.reg (U := Un) (st1 := ⟨[(0, .p (.list (.named 3)) a0), (3, .p .bool ((decide ((a0.length : Int) > 0)) : Bool))], []⟩) [0, 3] [] hN (.cons (sok_move (U := Un) (rs := [(0, .p (.list (.named 3)) a0)]) rfl (.inl rfl) (.tmp (.head _))) (.cons (sok_lenL (U := Un) (rs := [(13, .p (.list (.named 3)) a0)]) rfl rfl Tryd.underlying22 (.tmp (.head _))) (.cons (sok_cmp (U := Un) (rs := [(14, .p (.int .i64) ((a0.length : Int) : Int))]) rfl rfl (.tmp (.head _)) (.int _ _ _) rfl) (.cons (sok_move (U := Un) (rs := [(15, .p .bool ((decide ((a0.length : Int) > 0)) : Bool))]) rfl (.inr rfl) (.tmp (.head _))) .nil)))) (by kernel_rfl) (by kernel_rfl) (by kernel_rfl) (Conv.refl (U := Un) _) ?_
      refine thenQ_normal ?_
      refine WpC.seqJ (U := Un) (fun st' => ∃ v4 : Bool, millwrightlaw08_ProgClosed.j6 k a0 v4 = some out ∧ st' = ⟨[(0, .p (.list (.named 3)) a0), (3, .p .bool v4)], []⟩) ?_ ?_
      · refine WpC.seq ?_
        refine WpC.reg (U := Un) (st1 := ⟨[(0, .p (.list (.named 3)) a0), (3, .p .bool ((decide ((a0.length : Int) > 0)) : Bool)), (16, .p (.list (.named 3)) a0), (17, .p (.int .i64) ((a0.length : Int) : Int)), (18, .p (.int .i64) (0 : Int))], []⟩) [0, 3, 16, 17, 18] [] hN (.cons (sok_move (U := Un) (rs := [(0, .p (.list (.named 3)) a0)]) rfl (.inl rfl) (.tmp (.head _))) (.cons (sok_lenL (U := Un) (rs := [(16, .p (.list (.named 3)) a0)]) rfl rfl Tryd.underlying22 (.tmp (.head _))) (.cons (sok_move (U := Un) (rs := []) rfl (.inl rfl) (.int _ _ _)) .nil))) (by kernel_rfl) (by kernel_rfl) (by kernel_rfl) (Conv.refl (U := Un) _) ?_
        refine thenQ_normal ?_
        refine WpC.block ?_
        obtain ⟨o11, hlo11, h⟩ := bind_some h
        have hout12 := h
        clear h
        refine WpC.loop (U := Un) (fun n st' => ∃ v7 : Bool, ∃ v8 : Int, millwrightlaw08_ProgClosed.l9 k a0 n v7 v8 = some o11 ∧ st' = ⟨[(0, .p (.list (.named 3)) a0), (3, .p .bool v7), (16, .p (.list (.named 3)) a0), (17, .p (.int .i64) ((a0.length : Int) : Int)), (18, .p (.int .i64) v8)], []⟩) k ⟨(decide ((a0.length : Int) > 0)), 0, hlo11, rfl⟩ ?_
        clear hlo11
        rintro (_ | n) _ ⟨v7, v8, h, rfl⟩
        · cases h
        · rw [millwrightlaw08_ProgClosed.l9] at h
          refine WpC.seq ?_
          refine WpC.reg (U := Un) (st1 := ⟨[(0, .p (.list (.named 3)) a0), (3, .p .bool v7), (16, .p (.list (.named 3)) a0), (17, .p (.int .i64) ((a0.length : Int) : Int)), (18, .p (.int .i64) v8), (19, .p .bool ((decide (v8 < (a0.length : Int))) : Bool))], []⟩) [0, 3, 16, 17, 18, 19] [] hN (.cons (sok_cmp (U := Un) (rs := [(18, .p (.int .i64) v8), (17, .p (.int .i64) ((a0.length : Int) : Int))]) rfl rfl (.tmp (.head _)) (.tmp (.tail _ (.head _))) rfl) .nil) (by kernel_rfl) (by kernel_rfl) (by kernel_rfl) (Conv.refl (U := Un) _) ?_
          refine thenQ_normal ?_
          refine WpC.seq ?_
          refine WpC.cond (U := Un) (b := (decide (v8 < (a0.length : Int)))) (.tmp (.tail _ (.tail _ (.tail _ (.tail _ (.tail _ (.head _))))))) (fun hc13 => ?_) (fun hc13 => ?_)
          · replace h := ite_t hc13 h
            refine WpC.conv (Conv.keep (U := Un) (b := ⟨[(0, .p (.list (.named 3)) a0), (3, .p .bool v7), (16, .p (.list (.named 3)) a0), (17, .p (.int .i64) ((a0.length : Int) : Int)), (18, .p (.int .i64) v8)], []⟩) [0, 3, 16, 17, 18] [] (by kernel_rfl)) (WpC.skip ?_)
            refine thenQ_normal ?_
            refine WpC.seqJ (U := Un) (fun st' => ∃ v14 : Bool, millwrightlaw08_ProgClosed.j15 k (millwrightlaw08_ProgClosed.l9 k a0 n) a0 v8 v14 = some o11 ∧ st' = ⟨[(0, .p (.list (.named 3)) a0), (3, .p .bool v14), (16, .p (.list (.named 3)) a0), (17, .p (.int .i64) ((a0.length : Int) : Int)), (18, .p (.int .i64) v8)], []⟩) ?_ ?_
            · refine WpC.block ?_
              refine WpC.seq ?_
              obtain ⟨v16, hv16, h⟩ := bind_some h
              refine WpC.reg (U := Un) (st1 := ⟨[(0, .p (.list (.named 3)) a0), (3, .p .bool v7), (4, .p (.int .i64) v8), (5, .loc 5 0), (16, .p (.list (.named 3)) a0), (17, .p (.int .i64) ((a0.length : Int) : Int)), (18, .p (.int .i64) v8)], [(5, .box [.p (.int .i64) v16.f_Op, .p (.int .i64) v16.f_X, .p (.int .i64) v16.f_Y, .p (.arr 4 (.int .u64)) v16.f_Set])]⟩) [0, 3, 4, 5, 16, 17, 18] [5] hN (.cons (sok_move (U := Un) (rs := [(18, .p (.int .i64) v8)]) rfl (.inl rfl) (.tmp (.head _))) (.cons (sok_indexL (U := Un) (rs := [(16, .p (.list (.named 3)) a0), (18, .p (.int .i64) v8)]) rfl rfl sl_22 (.tmp (.head _)) (.tmp (.tail _ (.head _))) hv16) (.cons (sok_loadP (U := Un) (rs := [(21, .pp (.named 3) v16)]) rfl rfl ty_28 (.tmp (.head _))) (.cons (sok_allocZ (U := Un) (rs := []) (d := 5) (us := [.p (.int .i64) (0 : Int), .p (.int .i64) (0 : Int), .p (.int .i64) (0 : Int), .p (.arr 4 (.int .u64)) ((List.replicate 4 (0 : Int)) : List Int)]) (v := (.agg #[.int .i64 0, .int .i64 0, .int .i64 0, .int .u64 0, .int .u64 0, .int .u64 0, .int .u64 0])) rfl rfl rfl (by kernel_rfl) rfl (.data (fun _ _ _ => .int _ _) (.data (fun _ _ _ => .int _ _) (.data (fun _ _ _ => .int _ _) (.data (rd_zeros _ _) .nil)))) (by kernel_rfl)) (.cons (sok_move (U := Un) (rs := [(20, .p (.int .i64) v8)]) rfl (.inr rfl) (.tmp (.head _))) (.cons (sok_storeB (U := Un) (rs := [(5, .loc 5 0), (22, .p (.named 3) v16)]) (v := .p (.named 3) v16) (mid' := [.p (.int .i64) v16.f_Op, .p (.int .i64) v16.f_X, .p (.int .i64) v16.f_Y, .p (.arr 4 (.int .u64)) v16.f_Set]) [] [.p (.int .i64) (0 : Int), .p (.int .i64) (0 : Int), .p (.int .i64) (0 : Int), .p (.arr 4 (.int .u64)) ((List.replicate 4 (0 : Int)) : List Int)] [] rfl rfl rfl ty_28 (.tmp (.head _)) (.tmp (.tail _ (.head _))) (.data (.named (.pair (.one _ _) (.pair (.one _ _) (.pair (.one _ _) (.pair (.one _ _) .unit)))))) rfl rfl rfl rfl rfl rfl) .nil)))))) (by kernel_rfl) (by kernel_rfl) (by kernel_rfl) (Conv.refl (U := Un) _) ?_
              refine thenQ_normal ?_
              refine WpC.seqJ (U := Un) (fun st' => ∃ v17 : Bool, millwrightlaw08_ProgClosed.j28 k (millwrightlaw08_ProgClosed.l9 k a0 n) a0 v7 v8 v16 v17 = some o11 ∧ st' = ⟨[(0, .p (.list (.named 3)) a0), (3, .p .bool v7), (4, .p (.int .i64) v8), (5, .loc 5 0), (6, .p .bool v17), (16, .p (.list (.named 3)) a0), (17, .p (.int .i64) ((a0.length : Int) : Int)), (18, .p (.int .i64) v8)], [(5, .box [.p (.int .i64) v16.f_Op, .p (.int .i64) v16.f_X, .p (.int .i64) v16.f_Y, .p (.arr 4 (.int .u64)) v16.f_Set])]⟩) ?_ ?_
              · rcases bool_cases (decide (v16.f_X ≥ 0)) with hc29 | hc29
                · replace h := ite_t hc29 h
                  refine WpC.reg (U := Un) (st1 := ⟨[(0, .p (.list (.named 3)) a0), (3, .p .bool v7), (4, .p (.int .i64) v8), (5, .loc 5 0), (6, .p .bool ((decide (v16.f_X < (a0.length : Int))) : Bool)), (16, .p (.list (.named 3)) a0), (17, .p (.int .i64) ((a0.length : Int) : Int)), (18, .p (.int .i64) v8)], [(5, .box [.p (.int .i64) v16.f_Op, .p (.int .i64) v16.f_X, .p (.int .i64) v16.f_Y, .p (.arr 4 (.int .u64)) v16.f_Set])]⟩) [0, 3, 4, 5, 6, 16, 17, 18] [5] hN (.cons (sok_fieldB (U := Un) (rs := [(5, .loc 5 0)]) rfl rfl fd_28_1 (by decide) (.tmp (.head _))) (.cons (sok_loadB (U := Un) (t := .int .i64) (rs := [(23, .loc 5 1)]) [.p (.int .i64) v16.f_Op] [.p (.int .i64) v16.f_X] [.p (.int .i64) v16.f_Y, .p (.arr 4 (.int .u64)) v16.f_Set] (v := .p (.int .i64) v16.f_X) rfl rfl ty_3 (.tmp (.head _)) rfl rfl rfl rfl (.data (.one _ _))) (.cons (sok_cmp (U := Un) (rs := [(24, .p (.int .i64) v16.f_X)]) rfl rfl (.tmp (.head _)) (.int _ _ _) rfl) (.cons (sok_move (U := Un) (rs := [(25, .p .bool ((decide (v16.f_X ≥ 0)) : Bool))]) rfl (.inl rfl) (.tmp (.head _))) (.cons (sok_run rfl rfl hc29 (sok_fieldB (U := Un) (rs := [(5, .loc 5 0)]) rfl rfl fd_28_1 (by decide) (.tmp (.head _)))) (.cons (sok_run rfl rfl hc29 (sok_loadB (U := Un) (t := .int .i64) (rs := [(27, .loc 5 1)]) [.p (.int .i64) v16.f_Op] [.p (.int .i64) v16.f_X] [.p (.int .i64) v16.f_Y, .p (.arr 4 (.int .u64)) v16.f_Set] (v := .p (.int .i64) v16.f_X) rfl rfl ty_3 (.tmp (.head _)) rfl rfl rfl rfl (.data (.one _ _)))) (.cons (sok_run rfl rfl hc29 (sok_move (U := Un) (rs := [(0, .p (.list (.named 3)) a0)]) rfl (.inl rfl) (.tmp (.head _)))) (.cons (sok_run rfl rfl hc29 (sok_lenL (U := Un) (rs := [(29, .p (.list (.named 3)) a0)]) rfl rfl Tryd.underlying22 (.tmp (.head _)))) (.cons (sok_run rfl rfl hc29 (sok_cmp (U := Un) (rs := [(28, .p (.int .i64) v16.f_X), (30, .p (.int .i64) ((a0.length : Int) : Int))]) rfl rfl (.tmp (.head _)) (.tmp (.tail _ (.head _))) rfl)) (.cons (sok_pickT (U := Un) (rs := [(26, .p .bool ((decide (v16.f_X ≥ 0)) : Bool)), (31, .p .bool ((decide (v16.f_X < (a0.length : Int))) : Bool))]) rfl rfl (.tmp (.head _)) hc29 (.tmp (.tail _ (.head _)))) (.cons (sok_move (U := Un) (rs := [(32, .p .bool ((decide (v16.f_X < (a0.length : Int))) : Bool))]) rfl (.inr rfl) (.tmp (.head _))) .nil))))))))))) (by kernel_rfl) (by kernel_rfl) (by kernel_rfl) (Conv.refl (U := Un) _) ?_
                  refine thenQ_normal ?_
                  exact ⟨(decide (v16.f_X < (a0.length : Int))), h, rfl⟩
                · replace h := ite_f hc29 h
                  refine WpC.reg (U := Un) (st1 := ⟨[(0, .p (.list (.named 3)) a0), (3, .p .bool v7), (4, .p (.int .i64) v8), (5, .loc 5 0), (6, .p .bool false), (16, .p (.list (.named 3)) a0), (17, .p (.int .i64) ((a0.length : Int) : Int)), (18, .p (.int .i64) v8)], [(5, .box [.p (.int .i64) v16.f_Op, .p (.int .i64) v16.f_X, .p (.int .i64) v16.f_Y, .p (.arr 4 (.int .u64)) v16.f_Set])]⟩) [0, 3, 4, 5, 6, 16, 17, 18] [5] hN (.cons (sok_fieldB (U := Un) (rs := [(5, .loc 5 0)]) rfl rfl fd_28_1 (by decide) (.tmp (.head _))) (.cons (sok_loadB (U := Un) (t := .int .i64) (rs := [(23, .loc 5 1)]) [.p (.int .i64) v16.f_Op] [.p (.int .i64) v16.f_X] [.p (.int .i64) v16.f_Y, .p (.arr 4 (.int .u64)) v16.f_Set] (v := .p (.int .i64) v16.f_X) rfl rfl ty_3 (.tmp (.head _)) rfl rfl rfl rfl (.data (.one _ _))) (.cons (sok_cmp (U := Un) (rs := [(24, .p (.int .i64) v16.f_X)]) rfl rfl (.tmp (.head _)) (.int _ _ _) rfl) (.cons (sok_move (U := Un) (rs := [(25, .p .bool ((decide (v16.f_X ≥ 0)) : Bool))]) rfl (.inl rfl) (.tmp (.head _))) (.cons (sok_skip rfl rfl hc29) (.cons (sok_skip rfl rfl hc29) (.cons (sok_skip rfl rfl hc29) (.cons (sok_skip rfl rfl hc29) (.cons (sok_skip rfl rfl hc29) (.cons (sok_pickF (U := Un) (rs := [(26, .p .bool ((decide (v16.f_X ≥ 0)) : Bool))]) rfl rfl (.tmp (.head _)) hc29 (.bool _ _)) (.cons (sok_move (U := Un) (rs := [(32, .p .bool false)]) rfl (.inr rfl) (.tmp (.head _))) .nil))))))))))) (by kernel_rfl) (by kernel_rfl) (by kernel_rfl) (Conv.refl (U := Un) _) ?_
                  refine thenQ_normal ?_
                  exact ⟨false, h, rfl⟩
              · rintro _ ⟨v17, h, rfl⟩
                unfold millwrightlaw08_ProgClosed.j28 at h
                refine WpC.seqJ (U := Un) (fun st' => ∃ v18 : Bool, millwrightlaw08_ProgClosed.j26 k (millwrightlaw08_ProgClosed.l9 k a0 n) a0 v7 v8 v16 v17 v18 = some o11 ∧ st' = ⟨[(0, .p (.list (.named 3)) a0), (3, .p .bool v7), (4, .p (.int .i64) v8), (5, .loc 5 0), (6, .p .bool v17), (7, .p .bool v18), (16, .p (.list (.named 3)) a0), (17, .p (.int .i64) ((a0.length : Int) : Int)), (18, .p (.int .i64) v8)], [(5, .box [.p (.int .i64) v16.f_Op, .p (.int .i64) v16.f_X, .p (.int .i64) v16.f_Y, .p (.arr 4 (.int .u64)) v16.f_Set])]⟩) ?_ ?_
                · rcases bool_cases (decide (v16.f_Y ≥ 0)) with hc27 | hc27
                  · replace h := ite_t hc27 h
                    refine WpC.reg (U := Un) (st1 := ⟨[(0, .p (.list (.named 3)) a0), (3, .p .bool v7), (4, .p (.int .i64) v8), (5, .loc 5 0), (6, .p .bool v17), (7, .p .bool ((decide (v16.f_Y < (a0.length : Int))) : Bool)), (16, .p (.list (.named 3)) a0), (17, .p (.int .i64) ((a0.length : Int) : Int)), (18, .p (.int .i64) v8)], [(5, .box [.p (.int .i64) v16.f_Op, .p (.int .i64) v16.f_X, .p (.int .i64) v16.f_Y, .p (.arr 4 (.int .u64)) v16.f_Set])]⟩) [0, 3, 4, 5, 6, 7, 16, 17, 18] [5] hN (.cons (sok_fieldB (U := Un) (rs := [(5, .loc 5 0)]) rfl rfl fd_28_2 (by decide) (.tmp (.head _))) (.cons (sok_loadB (U := Un) (t := .int .i64) (rs := [(33, .loc 5 2)]) [.p (.int .i64) v16.f_Op, .p (.int .i64) v16.f_X] [.p (.int .i64) v16.f_Y] [.p (.arr 4 (.int .u64)) v16.f_Set] (v := .p (.int .i64) v16.f_Y) rfl rfl ty_3 (.tmp (.head _)) rfl rfl rfl rfl (.data (.one _ _))) (.cons (sok_cmp (U := Un) (rs := [(34, .p (.int .i64) v16.f_Y)]) rfl rfl (.tmp (.head _)) (.int _ _ _) rfl) (.cons (sok_move (U := Un) (rs := [(35, .p .bool ((decide (v16.f_Y ≥ 0)) : Bool))]) rfl (.inl rfl) (.tmp (.head _))) (.cons (sok_run rfl rfl hc27 (sok_fieldB (U := Un) (rs := [(5, .loc 5 0)]) rfl rfl fd_28_2 (by decide) (.tmp (.head _)))) (.cons (sok_run rfl rfl hc27 (sok_loadB (U := Un) (t := .int .i64) (rs := [(37, .loc 5 2)]) [.p (.int .i64) v16.f_Op, .p (.int .i64) v16.f_X] [.p (.int .i64) v16.f_Y] [.p (.arr 4 (.int .u64)) v16.f_Set] (v := .p (.int .i64) v16.f_Y) rfl rfl ty_3 (.tmp (.head _)) rfl rfl rfl rfl (.data (.one _ _)))) (.cons (sok_run rfl rfl hc27 (sok_move (U := Un) (rs := [(0, .p (.list (.named 3)) a0)]) rfl (.inl rfl) (.tmp (.head _)))) (.cons (sok_run rfl rfl hc27 (sok_lenL (U := Un) (rs := [(39, .p (.list (.named 3)) a0)]) rfl rfl Tryd.underlying22 (.tmp (.head _)))) (.cons (sok_run rfl rfl hc27 (sok_cmp (U := Un) (rs := [(38, .p (.int .i64) v16.f_Y), (40, .p (.int .i64) ((a0.length : Int) : Int))]) rfl rfl (.tmp (.head _)) (.tmp (.tail _ (.head _))) rfl)) (.cons (sok_pickT (U := Un) (rs := [(36, .p .bool ((decide (v16.f_Y ≥ 0)) : Bool)), (41, .p .bool ((decide (v16.f_Y < (a0.length : Int))) : Bool))]) rfl rfl (.tmp (.head _)) hc27 (.tmp (.tail _ (.head _)))) (.cons (sok_move (U := Un) (rs := [(42, .p .bool ((decide (v16.f_Y < (a0.length : Int))) : Bool))]) rfl (.inr rfl) (.tmp (.head _))) .nil))))))))))) (by kernel_rfl) (by kernel_rfl) (by kernel_rfl) (Conv.refl (U := Un) _) ?_
                    refine thenQ_normal ?_
                    exact ⟨(decide (v16.f_Y < (a0.length : Int))), h, rfl⟩
                  · replace h := ite_f hc27 h
                    refine WpC.reg (U := Un) (st1 := ⟨[(0, .p (.list (.named 3)) a0), (3, .p .bool v7), (4, .p (.int .i64) v8), (5, .loc 5 0), (6, .p .bool v17), (7, .p .bool false), (16, .p (.list (.named 3)) a0), (17, .p (.int .i64) ((a0.length : Int) : Int)), (18, .p (.int .i64) v8)], [(5, .box [.p (.int .i64) v16.f_Op, .p (.int .i64) v16.f_X, .p (.int .i64) v16.f_Y, .p (.arr 4 (.int .u64)) v16.f_Set])]⟩) [0, 3, 4, 5, 6, 7, 16, 17, 18] [5] hN (.cons (sok_fieldB (U := Un) (rs := [(5, .loc 5 0)]) rfl rfl fd_28_2 (by decide) (.tmp (.head _))) (.cons (sok_loadB (U := Un) (t := .int .i64) (rs := [(33, .loc 5 2)]) [.p (.int .i64) v16.f_Op, .p (.int .i64) v16.f_X] [.p (.int .i64) v16.f_Y] [.p (.arr 4 (.int .u64)) v16.f_Set] (v := .p (.int .i64) v16.f_Y) rfl rfl ty_3 (.tmp (.head _)) rfl rfl rfl rfl (.data (.one _ _))) (.cons (sok_cmp (U := Un) (rs := [(34, .p (.int .i64) v16.f_Y)]) rfl rfl (.tmp (.head _)) (.int _ _ _) rfl) (.cons (sok_move (U := Un) (rs := [(35, .p .bool ((decide (v16.f_Y ≥ 0)) : Bool))]) rfl (.inl rfl) (.tmp (.head _))) (.cons (sok_skip rfl rfl hc27) (.cons (sok_skip rfl rfl hc27) (.cons (sok_skip rfl rfl hc27) (.cons (sok_skip rfl rfl hc27) (.cons (sok_skip rfl rfl hc27) (.cons (sok_pickF (U := Un) (rs := [(36, .p .bool ((decide (v16.f_Y ≥ 0)) : Bool))]) rfl rfl (.tmp (.head _)) hc27 (.bool _ _)) (.cons (sok_move (U := Un) (rs := [(42, .p .bool false)]) rfl (.inr rfl) (.tmp (.head _))) .nil))))))))))) (by kernel_rfl) (by kernel_rfl) (by kernel_rfl) (Conv.refl (U := Un) _) ?_
                    refine thenQ_normal ?_
                    exact ⟨false, h, rfl⟩
                · rintro _ ⟨v18, h, rfl⟩
                  unfold millwrightlaw08_ProgClosed.j26 at h
                  refine WpC.seq ?_
                  refine WpC.reg (U := Un) (st1 := ⟨[(0, .p (.list (.named 3)) a0), (3, .p .bool v7), (4, .p (.int .i64) v8), (6, .p .bool v17), (7, .p .bool v18), (16, .p (.list (.named 3)) a0), (17, .p (.int .i64) ((a0.length : Int) : Int)), (18, .p (.int .i64) v8), (44, .p (.int .i64) v16.f_Op)], []⟩) [0, 3, 4, 6, 7, 16, 17, 18, 44] [] hN (.cons (sok_fieldB (U := Un) (rs := [(5, .loc 5 0)]) rfl rfl fd_28_0 (by decide) (.tmp (.head _))) (.cons (sok_loadB (U := Un) (t := .int .i64) (rs := [(43, .loc 5 0)]) [] [.p (.int .i64) v16.f_Op] [.p (.int .i64) v16.f_X, .p (.int .i64) v16.f_Y, .p (.arr 4 (.int .u64)) v16.f_Set] (v := .p (.int .i64) v16.f_Op) rfl rfl ty_3 (.tmp (.head _)) rfl rfl rfl rfl (.data (.one _ _))) .nil)) (by kernel_rfl) (by kernel_rfl) (by kernel_rfl) (Conv.refl (U := Un) _) ?_
                  refine thenQ_normal ?_
                  refine WpC.block ?_
                  refine WpC.seq ?_
                  refine WpC.reg (U := Un) (st1 := ⟨[(0, .p (.list (.named 3)) a0), (3, .p .bool v7), (4, .p (.int .i64) v8), (6, .p .bool v17), (7, .p .bool v18), (16, .p (.list (.named 3)) a0), (17, .p (.int .i64) ((a0.length : Int) : Int)), (18, .p (.int .i64) v8), (44, .p (.int .i64) v16.f_Op), (53, .p .bool ((v16.f_Op == 1) : Bool))], []⟩) [0, 3, 4, 6, 7, 16, 17, 18, 44, 53] [] hN (.cons (sok_cmp (U := Un) (rs := [(44, .p (.int .i64) v16.f_Op)]) rfl rfl (.tmp (.head _)) (.int _ _ _) rfl) (.cons (sok_move (U := Un) (rs := [(54, .p .bool ((v16.f_Op == 1) : Bool))]) rfl (.inr rfl) (.tmp (.head _))) .nil)) (by kernel_rfl) (by kernel_rfl) (by kernel_rfl) (Conv.refl (U := Un) _) ?_
                  refine thenQ_normal ?_
                  refine WpC.cond (U := Un) (b := (v16.f_Op == 1)) (.tmp (.tail _ (.tail _ (.tail _ (.tail _ (.tail _ (.tail _ (.tail _ (.tail _ (.tail _ (.head _))))))))))) (fun hc19 => ?_) (fun hc19 => ?_)
                  · replace h := ite_t hc19 h
                    rcases bool_cases v7 with hc20 | hc20
                    · replace h := ite_t hc20 h
                      rcases bool_cases v17 with hc21 | hc21
                      · replace h := ite_t hc21 h
                        refine WpC.reg (U := Un) (st1 := ⟨[(0, .p (.list (.named 3)) a0), (3, .p .bool v18), (16, .p (.list (.named 3)) a0), (17, .p (.int .i64) ((a0.length : Int) : Int)), (18, .p (.int .i64) v8)], []⟩) [0, 3, 16, 17, 18] [] hN (.cons (sok_move (U := Un) (rs := [(3, .p .bool v7)]) rfl (.inl rfl) (.tmp (.head _))) (.cons (sok_move (U := Un) (rs := [(55, .p .bool v7)]) rfl (.inl rfl) (.tmp (.head _))) (.cons (sok_run rfl rfl hc20 (sok_move (U := Un) (rs := [(6, .p .bool v17)]) rfl (.inl rfl) (.tmp (.head _)))) (.cons (sok_pickT (U := Un) (rs := [(56, .p .bool v7), (57, .p .bool v17)]) rfl rfl (.tmp (.head _)) hc20 (.tmp (.tail _ (.head _)))) (.cons (sok_move (U := Un) (rs := [(58, .p .bool v17)]) rfl (.inl rfl) (.tmp (.head _))) (.cons (sok_run rfl rfl hc21 (sok_move (U := Un) (rs := [(7, .p .bool v18)]) rfl (.inl rfl) (.tmp (.head _)))) (.cons (sok_pickT (U := Un) (rs := [(59, .p .bool v17), (60, .p .bool v18)]) rfl rfl (.tmp (.head _)) hc21 (.tmp (.tail _ (.head _)))) (.cons (sok_move (U := Un) (rs := [(61, .p .bool v18)]) rfl (.inr rfl) (.tmp (.head _))) .nil)))))))) (by kernel_rfl) (by kernel_rfl) (by kernel_rfl) (Conv.refl (U := Un) _) ?_
                        refine blockQ_normal ?_
                        refine blockQ_normal ?_
                        refine thenQ_normal ?_
                        exact ⟨v18, h, rfl⟩
                      · replace h := ite_f hc21 h
                        refine WpC.reg (U := Un) (st1 := ⟨[(0, .p (.list (.named 3)) a0), (3, .p .bool false), (16, .p (.list (.named 3)) a0), (17, .p (.int .i64) ((a0.length : Int) : Int)), (18, .p (.int .i64) v8)], []⟩) [0, 3, 16, 17, 18] [] hN (.cons (sok_move (U := Un) (rs := [(3, .p .bool v7)]) rfl (.inl rfl) (.tmp (.head _))) (.cons (sok_move (U := Un) (rs := [(55, .p .bool v7)]) rfl (.inl rfl) (.tmp (.head _))) (.cons (sok_run rfl rfl hc20 (sok_move (U := Un) (rs := [(6, .p .bool v17)]) rfl (.inl rfl) (.tmp (.head _)))) (.cons (sok_pickT (U := Un) (rs := [(56, .p .bool v7), (57, .p .bool v17)]) rfl rfl (.tmp (.head _)) hc20 (.tmp (.tail _ (.head _)))) (.cons (sok_move (U := Un) (rs := [(58, .p .bool v17)]) rfl (.inl rfl) (.tmp (.head _))) (.cons (sok_skip rfl rfl hc21) (.cons (sok_pickF (U := Un) (rs := [(59, .p .bool v17)]) rfl rfl (.tmp (.head _)) hc21 (.bool _ _)) (.cons (sok_move (U := Un) (rs := [(61, .p .bool false)]) rfl (.inr rfl) (.tmp (.head _))) .nil)))))))) (by kernel_rfl) (by kernel_rfl) (by kernel_rfl) (Conv.refl (U := Un) _) ?_
                        refine blockQ_normal ?_
                        refine blockQ_normal ?_
                        refine thenQ_normal ?_
                        exact ⟨false, h, rfl⟩
                    · replace h := ite_f hc20 h
                      refine WpC.reg (U := Un) (st1 := ⟨[(0, .p (.list (.named 3)) a0), (3, .p .bool false), (16, .p (.list (.named 3)) a0), (17, .p (.int .i64) ((a0.length : Int) : Int)), (18, .p (.int .i64) v8)], []⟩) [0, 3, 16, 17, 18] [] hN (.cons (sok_move (U := Un) (rs := [(3, .p .bool v7)]) rfl (.inl rfl) (.tmp (.head _))) (.cons (sok_move (U := Un) (rs := [(55, .p .bool v7)]) rfl (.inl rfl) (.tmp (.head _))) (.cons (sok_skip rfl rfl hc20) (.cons (sok_pickF (U := Un) (rs := [(56, .p .bool v7)]) rfl rfl (.tmp (.head _)) hc20 (.bool _ _)) (.cons (sok_move (U := Un) (rs := [(58, .p .bool false)]) rfl (.inl rfl) (.tmp (.head _))) (.cons (sok_skip rfl rfl rfl) (.cons (sok_pickF (U := Un) (rs := [(59, .p .bool false)]) rfl rfl (.tmp (.head _)) rfl (.bool _ _)) (.cons (sok_move (U := Un) (rs := [(61, .p .bool false)]) rfl (.inr rfl) (.tmp (.head _))) .nil)))))))) (by kernel_rfl) (by kernel_rfl) (by kernel_rfl) (Conv.refl (U := Un) _) ?_
                      refine blockQ_normal ?_
                      refine blockQ_normal ?_
                      refine thenQ_normal ?_
                      exact ⟨false, h, rfl⟩
                  · replace h := ite_f hc19 h
                    refine WpC.seq ?_
                    refine WpC.reg (U := Un) (st1 := ⟨[(0, .p (.list (.named 3)) a0), (3, .p .bool v7), (4, .p (.int .i64) v8), (6, .p .bool v17), (16, .p (.list (.named 3)) a0), (17, .p (.int .i64) ((a0.length : Int) : Int)), (18, .p (.int .i64) v8), (44, .p (.int .i64) v16.f_Op), (62, .p .bool ((v16.f_Op == 2) : Bool))], []⟩) [0, 3, 4, 6, 16, 17, 18, 44, 62] [] hN (.cons (sok_cmp (U := Un) (rs := [(44, .p (.int .i64) v16.f_Op)]) rfl rfl (.tmp (.head _)) (.int _ _ _) rfl) (.cons (sok_move (U := Un) (rs := [(63, .p .bool ((v16.f_Op == 2) : Bool))]) rfl (.inr rfl) (.tmp (.head _))) .nil)) (by kernel_rfl) (by kernel_rfl) (by kernel_rfl) (Conv.refl (U := Un) _) ?_
                    refine thenQ_normal ?_
                    refine WpC.cond (U := Un) (b := (v16.f_Op == 2)) (.tmp (.tail _ (.tail _ (.tail _ (.tail _ (.tail _ (.tail _ (.tail _ (.tail _ (.head _)))))))))) (fun hc22 => ?_) (fun hc22 => ?_)
                    · replace h := ite_t hc22 h
                      rcases bool_cases v7 with hc23 | hc23
                      · replace h := ite_t hc23 h
                        refine WpC.reg (U := Un) (st1 := ⟨[(0, .p (.list (.named 3)) a0), (3, .p .bool v17), (16, .p (.list (.named 3)) a0), (17, .p (.int .i64) ((a0.length : Int) : Int)), (18, .p (.int .i64) v8)], []⟩) [0, 3, 16, 17, 18] [] hN (.cons (sok_move (U := Un) (rs := [(3, .p .bool v7)]) rfl (.inl rfl) (.tmp (.head _))) (.cons (sok_move (U := Un) (rs := [(64, .p .bool v7)]) rfl (.inl rfl) (.tmp (.head _))) (.cons (sok_run rfl rfl hc23 (sok_move (U := Un) (rs := [(6, .p .bool v17)]) rfl (.inl rfl) (.tmp (.head _)))) (.cons (sok_pickT (U := Un) (rs := [(65, .p .bool v7), (66, .p .bool v17)]) rfl rfl (.tmp (.head _)) hc23 (.tmp (.tail _ (.head _)))) (.cons (sok_move (U := Un) (rs := [(67, .p .bool v17)]) rfl (.inr rfl) (.tmp (.head _))) .nil))))) (by kernel_rfl) (by kernel_rfl) (by kernel_rfl) (Conv.refl (U := Un) _) ?_
                        refine blockQ_normal ?_
                        refine blockQ_normal ?_
                        refine thenQ_normal ?_
                        exact ⟨v17, h, rfl⟩
                      · replace h := ite_f hc23 h
                        refine WpC.reg (U := Un) (st1 := ⟨[(0, .p (.list (.named 3)) a0), (3, .p .bool false), (16, .p (.list (.named 3)) a0), (17, .p (.int .i64) ((a0.length : Int) : Int)), (18, .p (.int .i64) v8)], []⟩) [0, 3, 16, 17, 18] [] hN (.cons (sok_move (U := Un) (rs := [(3, .p .bool v7)]) rfl (.inl rfl) (.tmp (.head _))) (.cons (sok_move (U := Un) (rs := [(64, .p .bool v7)]) rfl (.inl rfl) (.tmp (.head _))) (.cons (sok_skip rfl rfl hc23) (.cons (sok_pickF (U := Un) (rs := [(65, .p .bool v7)]) rfl rfl (.tmp (.head _)) hc23 (.bool _ _)) (.cons (sok_move (U := Un) (rs := [(67, .p .bool false)]) rfl (.inr rfl) (.tmp (.head _))) .nil))))) (by kernel_rfl) (by kernel_rfl) (by kernel_rfl) (Conv.refl (U := Un) _) ?_
                        refine blockQ_normal ?_
                        refine blockQ_normal ?_
                        refine thenQ_normal ?_
                        exact ⟨false, h, rfl⟩
                    · replace h := ite_f hc22 h
                      refine WpC.seq ?_
                      refine WpC.reg (U := Un) (st1 := ⟨[(0, .p (.list (.named 3)) a0), (3, .p .bool v7), (4, .p (.int .i64) v8), (16, .p (.list (.named 3)) a0), (17, .p (.int .i64) ((a0.length : Int) : Int)), (18, .p (.int .i64) v8), (68, .p .bool ((v16.f_Op == 6) : Bool))], []⟩) [0, 3, 4, 16, 17, 18, 68] [] hN (.cons (sok_cmp (U := Un) (rs := [(44, .p (.int .i64) v16.f_Op)]) rfl rfl (.tmp (.head _)) (.int _ _ _) rfl) (.cons (sok_move (U := Un) (rs := [(69, .p .bool ((v16.f_Op == 6) : Bool))]) rfl (.inr rfl) (.tmp (.head _))) .nil)) (by kernel_rfl) (by kernel_rfl) (by kernel_rfl) (Conv.refl (U := Un) _) ?_
                      refine thenQ_normal ?_
                      refine WpC.cond (U := Un) (b := (v16.f_Op == 6)) (.tmp (.tail _ (.tail _ (.tail _ (.tail _ (.tail _ (.tail _ (.head _)))))))) (fun hc24 => ?_) (fun hc24 => ?_)
                      · replace h := ite_t hc24 h
                        refine WpC.conv (Conv.keep (U := Un) (b := ⟨[(0, .p (.list (.named 3)) a0), (3, .p .bool v7), (16, .p (.list (.named 3)) a0), (17, .p (.int .i64) ((a0.length : Int) : Int)), (18, .p (.int .i64) v8)], []⟩) [0, 3, 16, 17, 18] [] (by kernel_rfl)) (WpC.skip ?_)
                        refine blockQ_normal ?_
                        refine blockQ_normal ?_
                        refine thenQ_normal ?_
                        exact ⟨v7, h, rfl⟩
                      · replace h := ite_f hc24 h
                        rcases bool_cases v7 with hc25 | hc25
                        · replace h := ite_t hc25 h
                          refine WpC.reg (U := Un) (st1 := ⟨[(0, .p (.list (.named 3)) a0), (3, .p .bool ((decide (v8 < (IntKind.i64.wrap ((a0.length : Int) - 1)))) : Bool)), (16, .p (.list (.named 3)) a0), (17, .p (.int .i64) ((a0.length : Int) : Int)), (18, .p (.int .i64) v8)], []⟩) [0, 3, 16, 17, 18] [] hN (.cons (sok_move (U := Un) (rs := [(3, .p .bool v7)]) rfl (.inl rfl) (.tmp (.head _))) (.cons (sok_move (U := Un) (rs := [(45, .p .bool v7)]) rfl (.inl rfl) (.tmp (.head _))) (.cons (sok_run rfl rfl hc25 (sok_move (U := Un) (rs := [(4, .p (.int .i64) v8)]) rfl (.inl rfl) (.tmp (.head _)))) (.cons (sok_run rfl rfl hc25 (sok_move (U := Un) (rs := [(0, .p (.list (.named 3)) a0)]) rfl (.inl rfl) (.tmp (.head _)))) (.cons (sok_run rfl rfl hc25 (sok_lenL (U := Un) (rs := [(48, .p (.list (.named 3)) a0)]) rfl rfl Tryd.underlying22 (.tmp (.head _)))) (.cons (sok_run rfl rfl hc25 (sok_arith (U := Un) (rs := [(49, .p (.int .i64) ((a0.length : Int) : Int))]) rfl rfl (.tmp (.head _)) (.int _ _ _) rfl)) (.cons (sok_run rfl rfl hc25 (sok_cmp (U := Un) (rs := [(47, .p (.int .i64) v8), (50, .p (.int .i64) ((IntKind.i64.wrap ((a0.length : Int) - 1)) : Int))]) rfl rfl (.tmp (.head _)) (.tmp (.tail _ (.head _))) rfl)) (.cons (sok_pickT (U := Un) (rs := [(46, .p .bool v7), (51, .p .bool ((decide (v8 < (IntKind.i64.wrap ((a0.length : Int) - 1)))) : Bool))]) rfl rfl (.tmp (.head _)) hc25 (.tmp (.tail _ (.head _)))) (.cons (sok_move (U := Un) (rs := [(52, .p .bool ((decide (v8 < (IntKind.i64.wrap ((a0.length : Int) - 1)))) : Bool))]) rfl (.inr rfl) (.tmp (.head _))) .nil))))))))) (by kernel_rfl) (by kernel_rfl) (by kernel_rfl) (Conv.refl (U := Un) _) ?_
                          refine blockQ_normal ?_
                          refine blockQ_normal ?_
                          refine thenQ_normal ?_
                          exact ⟨(decide (v8 < (IntKind.i64.wrap ((a0.length : Int) - 1)))), h, rfl⟩
                        · replace h := ite_f hc25 h
                          refine WpC.reg (U := Un) (st1 := ⟨[(0, .p (.list (.named 3)) a0), (3, .p .bool false), (16, .p (.list (.named 3)) a0), (17, .p (.int .i64) ((a0.length : Int) : Int)), (18, .p (.int .i64) v8)], []⟩) [0, 3, 16, 17, 18] [] hN (.cons (sok_move (U := Un) (rs := [(3, .p .bool v7)]) rfl (.inl rfl) (.tmp (.head _))) (.cons (sok_move (U := Un) (rs := [(45, .p .bool v7)]) rfl (.inl rfl) (.tmp (.head _))) (.cons (sok_skip rfl rfl hc25) (.cons (sok_skip rfl rfl hc25) (.cons (sok_skip rfl rfl hc25) (.cons (sok_skip rfl rfl hc25) (.cons (sok_skip rfl rfl hc25) (.cons (sok_pickF (U := Un) (rs := [(46, .p .bool v7)]) rfl rfl (.tmp (.head _)) hc25 (.bool _ _)) (.cons (sok_move (U := Un) (rs := [(52, .p .bool false)]) rfl (.inr rfl) (.tmp (.head _))) .nil))))))))) (by kernel_rfl) (by kernel_rfl) (by kernel_rfl) (Conv.refl (U := Un) _) ?_
                          refine blockQ_normal ?_
                          refine blockQ_normal ?_
                          refine thenQ_normal ?_
                          exact ⟨false, h, rfl⟩
            · rintro _ ⟨v14, h, rfl⟩
              unfold millwrightlaw08_ProgClosed.j15 at h
              refine WpC.reg (U := Un) (st1 := ⟨[(0, .p (.list (.named 3)) a0), (3, .p .bool v14), (16, .p (.list (.named 3)) a0), (17, .p (.int .i64) ((a0.length : Int) : Int)), (18, .p (.int .i64) ((IntKind.i64.wrap (v8 + 1)) : Int))], []⟩) [0, 3, 16, 17, 18] [] hN (.cons (sok_arith (U := Un) (rs := [(18, .p (.int .i64) v8)]) rfl rfl (.tmp (.head _)) (.int _ _ _) rfl) (.cons (sok_move (U := Un) (rs := [(70, .p (.int .i64) ((IntKind.i64.wrap (v8 + 1)) : Int))]) rfl (.inl rfl) (.tmp (.head _))) .nil)) (by kernel_rfl) (by kernel_rfl) (by kernel_rfl) (Conv.refl (U := Un) _) ?_
              refine thenQ_normal ?_
              exact ⟨n, Nat.lt_succ_self n, v14, (IntKind.i64.wrap (v8 + 1)), h, rfl⟩
          · replace h := ite_f hc13 h
            refine WpC.conv (Conv.keep (U := Un) (b := ⟨[(0, .p (.list (.named 3)) a0), (3, .p .bool v7)], []⟩) [0, 3] [] (by kernel_rfl)) (WpC.exit ?_)
            refine thenQ_exit ?_
            have hq := Option.some.inj h
            subst hq
            refine thenQ_exit ?_
            have h := hout12
            refine blockQ_hit ?_
            refine thenQ_normal ?_
            exact ⟨v7, h, rfl⟩
      · rintro _ ⟨v4, h, rfl⟩
        unfold millwrightlaw08_ProgClosed.j6 at h
        refine WpC.seq ?_
        obtain ⟨v5, hv5, h⟩ := bind_some h
        refine WpC.reg (U := Un) (st1 := ⟨[(2, .p .bool ((v5 == v4) : Bool))], []⟩) [2] [] hN (.cons (sok_move (U := Un) (rs := [(0, .p (.list (.named 3)) a0)]) rfl (.inl rfl) (.tmp (.head _))) (.cons (sok_callV (U := Un) (rs := [(71, .p (.list (.named 3)) a0)]) (vw := []) rfl rfl (.func _) hb_13 (prog_Closed.ok O hO k a0 v5 hv5) (.cons (.tmp (.head _)) .nil) (.cons (.same _) .nil) (by simp) (.inl rfl)) (.cons (sok_move (U := Un) (rs := [(3, .p .bool v4)]) rfl (.inl rfl) (.tmp (.head _))) (.cons (sok_eqB (U := Un) (rs := [(72, .p .bool v5), (73, .p .bool v4)]) rfl rfl Tryd.underlying4 (.tmp (.head _)) (.tmp (.tail _ (.head _)))) (.cons (sok_move (U := Un) (rs := [(74, .p .bool ((v5 == v4) : Bool))]) rfl (.inr rfl) (.tmp (.head _))) .nil))))) (by kernel_rfl) (by kernel_rfl) (by kernel_rfl) (Conv.refl (U := Un) _) ?_
        refine thenQ_normal ?_
        refine WpC.ret ?_
        have hq := Option.some.inj h
        subst hq
        exact ends_ret (retV_1 rfl (.head _)) ain_nil

end Go.Proofs.YthmbbdemecljpaaDoor
