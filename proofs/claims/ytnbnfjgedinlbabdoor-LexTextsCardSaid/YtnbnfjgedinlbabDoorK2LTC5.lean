/- A part of the proof of a given law: LTC5. Own work, printed in part by a program of mine. -/
import Derived.Test.YtnbnfjgedinlbabDoorK2LTC4
namespace Go.Proofs.YtnbnfjgedinlbabDoor
open Go Go.AM
set_option linter.unusedVariables false
set_option linter.unusedSimpArgs false
set_option maxRecDepth 100000
theorem lex_Same.ok (O : Out) (hO : GOkL O) (k : Nat) (a0 : List (List T_lex_Piece)) (a1 : List (List T_lex_Piece)) (out : Bool) (h : lex_Same.f k a0 a1 = some out) : COk Un O Tryd.prog 17 { ar := [.p (.list (.list (.named 3))) a0, .p (.list (.list (.named 3))) a1], r := .p .bool out } := by
  refine cok_of_wp Tryd.func17 rfl (k := 8) rfl (Nat.le_of_ble_eq_true rfl) (namesOk_pure rfl rfl rfl rfl) ?_
  intro B hN
  refine WpC.conv (Conv.keep (U := Un) (b := ⟨[(0, .p (.list (.list (.named 3))) a0), (1, .p (.list (.list (.named 3))) a1)], []⟩) [0, 1] [] (by kernel_rfl)) ?_
  unfold lex_Same.f at h
  refine WpC.seq ?_
  refine WpC.reg (U := Un) (st1 := ⟨[(0, .p (.list (.list (.named 3))) a0), (1, .p (.list (.list (.named 3))) a1)], []⟩) [0, 1] [] hN (.cons (sok_move (U := Un) (rs := []) rfl (.inr rfl) (.bool _ _)) .nil) (by kernel_rfl) (by kernel_rfl) (by kernel_rfl) (Conv.refl (U := Un) _) ?_
  refine thenQ_normal ?_
  refine WpC.seq ?_
  obtain ⟨v1, hv1, h⟩ := bind_some h
  refine WpC.reg (U := Un) (st1 := ⟨[(4, .p .bool v1)], []⟩) [4] [] hN (.cons (mv (U := Un) (v := .p (.list (.list (.named 3))) a0) rfl rfl) (.cons (mv (U := Un) (v := .p (.list (.list (.named 3))) a1) rfl rfl) (.cons (sok_callV (U := Un) (rs := [(5, .p (.list (.list (.named 3))) a0), (6, .p (.list (.list (.named 3))) a1)]) (vw := []) rfl rfl (.func _) hb_49 (lex_Piece_m0.ok O hO k a0 a1 v1 hv1) (.cons o0 (.cons o1 (.cons (.func _ _) .nil))) (.cons (.same _) (.cons (.same _) (.cons (.same _) .nil))) (by simp) (.inl rfl)) (.cons (mva (U := Un) (v := .p .bool v1) rfl rfl) .nil)))) (by kernel_rfl) (by kernel_rfl) (by kernel_rfl) (Conv.refl (U := Un) _) ?_
  refine thenQ_normal ?_
  refine WpC.ret ?_
  have hq := Option.some.inj h
  subst hq
  exact ends_ret (retV_1 rfl (.head _)) ain_nil

theorem millwrightlaw13_Of.ok (O : Out) (hO : GOkL O) (k : Nat) (a0 : List (List T_lex_Piece)) (out : List (List T_lex_Piece)) (h : millwrightlaw13_Of.f k a0 = some out) : COk Un O Tryd.prog 23 { ar := [.p (.list (.list (.named 3))) a0], r := .p (.list (.list (.named 3))) out } := by
  refine cok_of_wp Tryd.func23 rfl (k := 20) rfl (Nat.le_of_ble_eq_true rfl) (namesOk_pure rfl rfl rfl rfl) ?_
  intro B hN
  refine WpC.conv (Conv.keep (U := Un) (b := ⟨[(0, .p (.list (.list (.named 3))) a0)], []⟩) [0] [] (by kernel_rfl)) ?_
  unfold millwrightlaw13_Of.f at h
  refine WpC.seq ?_
  refine WpC.reg (U := Un) (st1 := ⟨[(0, .p (.list (.list (.named 3))) a0)], []⟩) [0] [] hN (.cons (sok_move (U := Un) (rs := []) rfl (.inr rfl) (.lit _ _ rfl)) .nil) (by kernel_rfl) (by kernel_rfl) (by kernel_rfl) (Conv.refl (U := Un) _) ?_
  refine thenQ_normal ?_
  refine WpC.seq ?_
  refine WpC.reg (U := Un) (st1 := ⟨[(0, .p (.list (.list (.named 3))) a0), (3, .vec 6 1 0 (([] : List (List T_lex_Piece)).length))], [(6, .row 46 (.list (.named 3)) ([] : List (List T_lex_Piece)) true)]⟩) [0, 3] [6] hN (.cons (sok_buildSlice (U := Un) (t := .list (.named 3)) (rs := []) (ys := []) (xs := ([] : List (List T_lex_Piece))) rfl rfl rfl rfl row_49 .nil (by decide)) (.cons (mva (U := Un) (v := .vec 6 1 0 (([] : List (List T_lex_Piece)).length)) rfl rfl) .nil)) (by kernel_rfl) (by kernel_rfl) (by kernel_rfl) (Conv.cast (U := Un) (st' := ⟨[(0, .p (.list (.list (.named 3))) a0), (3, .vec 6 1 0 0)], [(6, .row 46 (.list (.named 3)) ([] : List (List T_lex_Piece)) true)]⟩) (by simp only [upd_length, List.length_nil, List.length_replicate])) ?_
  refine thenQ_normal ?_
  refine WpC.seqJ (U := Un) (fun st' => ∃ v1 : List (List T_lex_Piece), millwrightlaw13_Of.j2 k v1 = some out ∧ st' = ⟨[(3, .vec 1003 1 0 v1.length)], [(1003, .row 46 (.list (.named 3)) v1 false)]⟩) ?_ ?_
  · refine WpC.seq ?_
    refine WpC.reg (U := Un) (st1 := ⟨[(3, .vec 6 1 0 0), (7, .p (.list (.list (.named 3))) a0), (8, .p I6 ((a0.length : Int) : Int)), (9, .p I6 (0 : Int))], [(6, .row 46 (.list (.named 3)) ([] : List (List T_lex_Piece)) true)]⟩) [3, 7, 8, 9] [6] hN (.cons (mv (U := Un) (v := .p (.list (.list (.named 3))) a0) rfl rfl) (.cons (sok_lenL (U := Un) (rs := [(7, .p (.list (.list (.named 3))) a0)]) rfl rfl Tryd.underlying33 o0) (.cons (sok_move (U := Un) (rs := []) rfl (.inl rfl) (.int _ _ _)) .nil))) (by kernel_rfl) (by kernel_rfl) (by kernel_rfl) (Conv.refl (U := Un) _) ?_
    refine thenQ_normal ?_
    refine WpC.block ?_
    obtain ⟨o7, hlo7, h⟩ := bind_some h
    have hout8 := h
    clear h
    refine WpC.conv (Conv.trans (U := Un) (Conv.loose (U := Un) 6 46 (.list (.named 3)) ([] : List (List T_lex_Piece)) (.head _)) (Conv.trans (U := Un) (Conv.keep (U := Un) (b := ⟨[(3, .vec 6 1 0 0), (7, .p (.list (.list (.named 3))) a0), (8, .p I6 ((a0.length : Int) : Int)), (9, .p I6 (0 : Int))], [(6, .row 46 (.list (.named 3)) ([] : List (List T_lex_Piece)) false)]⟩) [3, 7, 8, 9] [6] (by kernel_rfl)) (Conv.trans (U := Un) (Conv.ren (U := Un) (st' := ⟨[(3, .vec 1003 1 0 0), (7, .p (.list (.list (.named 3))) a0), (8, .p I6 ((a0.length : Int) : Int)), (9, .p I6 (0 : Int))], [(1003, .row 46 (.list (.named 3)) ([] : List (List T_lex_Piece)) false)]⟩) 6 1003 (by unfold K0; omega) (by kernel_rfl) (by kernel_rfl) (by kernel_rfl)) (Conv.keep (U := Un) (b := ⟨[(3, .vec 1003 1 0 0), (7, .p (.list (.list (.named 3))) a0), (8, .p I6 ((a0.length : Int) : Int)), (9, .p I6 (0 : Int))], [(1003, .row 46 (.list (.named 3)) ([] : List (List T_lex_Piece)) false)]⟩) [3, 7, 8, 9] [1003] (by kernel_rfl))))) ?_
    refine WpC.loop (U := Un) (fun n st' => ∃ v3 : List (List T_lex_Piece), ∃ v4 : Int, millwrightlaw13_Of.l5 k a0 n v3 v4 = some o7 ∧ st' = ⟨[(3, .vec 1003 1 0 v3.length), (7, .p (.list (.list (.named 3))) a0), (8, .p I6 ((a0.length : Int) : Int)), (9, .p I6 v4)], [(1003, .row 46 (.list (.named 3)) v3 false)]⟩) k ⟨([] : List (List T_lex_Piece)), 0, hlo7, rfl⟩ ?_
    clear hlo7
    rintro (_ | n) _ ⟨v3, v4, h, rfl⟩
    · cases h
    · rw [millwrightlaw13_Of.l5] at h
      refine WpC.seq ?_
      refine WpC.reg (U := Un) (st1 := ⟨[(3, .vec 1003 1 0 v3.length), (7, .p (.list (.list (.named 3))) a0), (8, .p I6 ((a0.length : Int) : Int)), (9, .p I6 v4), (10, .p .bool ((decide (v4 < (a0.length : Int))) : Bool))], [(1003, .row 46 (.list (.named 3)) v3 false)]⟩) [3, 7, 8, 9, 10] [1003] hN (.cons (sok_cmp (U := Un) (rs := [(9, .p I6 v4), (8, .p I6 ((a0.length : Int) : Int))]) rfl rfl o0 o1 rfl) .nil) (by kernel_rfl) (by kernel_rfl) (by kernel_rfl) (Conv.refl (U := Un) _) ?_
      refine thenQ_normal ?_
      refine WpC.seq ?_
      refine WpC.cond (U := Un) (b := (decide (v4 < (a0.length : Int)))) (.tmp (.tail _ (.tail _ (.tail _ (.tail _ (.head _)))))) (fun hc9 => ?_) (fun hc9 => ?_)
      · replace h := ite_t hc9 h
        refine WpC.conv (Conv.keep (U := Un) (b := ⟨[(3, .vec 1003 1 0 v3.length), (7, .p (.list (.list (.named 3))) a0), (8, .p I6 ((a0.length : Int) : Int)), (9, .p I6 v4)], [(1003, .row 46 (.list (.named 3)) v3 false)]⟩) [3, 7, 8, 9] [1003] (by kernel_rfl)) (WpC.skip ?_)
        refine thenQ_normal ?_
        refine WpC.seq ?_
        refine WpC.block ?_
        refine WpC.seq ?_
        obtain ⟨v10, hv10, h⟩ := bind_some h
        refine WpC.reg (U := Un) (st1 := ⟨[(3, .vec 1003 1 0 v3.length), (5, .p (.list (.named 3)) v10), (7, .p (.list (.list (.named 3))) a0), (8, .p I6 ((a0.length : Int) : Int)), (9, .p I6 v4)], [(1003, .row 46 (.list (.named 3)) v3 false)]⟩) [3, 5, 7, 8, 9] [1003] hN (.cons (sok_indexL (U := Un) (rs := [(7, .p (.list (.list (.named 3))) a0), (9, .p I6 v4)]) rfl rfl sl_33 o0 o1 hv10) (.cons (sok_loadP (U := Un) (rs := [(11, .pp (.list (.named 3)) v10)]) rfl rfl ty_36 o0) (.cons (mva (U := Un) (v := .p (.list (.named 3)) v10) rfl rfl) .nil))) (by kernel_rfl) (by kernel_rfl) (by kernel_rfl) (Conv.refl (U := Un) _) ?_
        refine thenQ_normal ?_
        obtain ⟨v11, hv11, h⟩ := bind_some h
        obtain ⟨g12, h⟩ := if_some h
        refine WpC.reg (U := Un) (st1 := ⟨[(3, .vec 17 1 0 ((v3 ++ [v11]).length)), (7, .p (.list (.list (.named 3))) a0), (8, .p I6 ((a0.length : Int) : Int)), (9, .p I6 v4)], [(17, .row 46 (.list (.named 3)) (v3 ++ [v11]) false)]⟩) [3, 7, 8, 9] [17] hN (.cons (mv (U := Un) (v := .vec 1003 1 0 v3.length) rfl rfl) (.cons (mv (U := Un) (v := .p (.list (.named 3)) v10) rfl rfl) (.cons (sok_callV (U := Un) (rs := [(14, .p (.list (.named 3)) v10)]) (vw := []) rfl rfl (.func _) hb_21 (millwrightlaw13_Word.ok O hO k v10 v11 hv11) (.cons o0 .nil) (.cons (.same _) .nil) (by simp) (.inl rfl)) (.cons (sok_buildSlice (U := Un) (t := .list (.named 3)) (rs := [(15, .p (.list (.named 3)) v11)]) (ys := [.tmp 15]) (xs := [v11]) rfl rfl rfl rfl row_49 (.cons o0 .nil) (by decide)) (.cons (sok_append' (U := Un) (t := .list (.named 3)) (rs := [(13, .vec 1003 1 0 v3.length), (16, .vec 16 1 0 ([v11].length))]) (vw := [(16, .row 46 (.list (.named 3)) [v11] true)]) (xs := v3) (ys := [v11]) (fx := false) rfl rfl rfl row_49 (by decide) o0 o1 (.whole (.head _)) (by simp) g12) (.cons (mva (U := Un) (v := .vec 17 1 0 ((v3 ++ [v11]).length)) rfl rfl) .nil)))))) (by kernel_rfl) (by kernel_rfl) (by kernel_rfl) (Conv.refl (U := Un) _) ?_
        refine blockQ_normal ?_
        refine thenQ_normal ?_
        refine WpC.reg (U := Un) (st1 := ⟨[(3, .vec 17 1 0 ((v3 ++ [v11]).length)), (7, .p (.list (.list (.named 3))) a0), (8, .p I6 ((a0.length : Int) : Int)), (9, .p I6 ((IntKind.i64.wrap (v4 + 1)) : Int))], [(17, .row 46 (.list (.named 3)) (v3 ++ [v11]) false)]⟩) [3, 7, 8, 9] [17] hN (.cons (sok_arith (U := Un) (rs := [(9, .p I6 v4)]) rfl rfl o0 (.int _ _ _) rfl) (.cons (mv (U := Un) (v := .p I6 ((IntKind.i64.wrap (v4 + 1)) : Int)) rfl rfl) .nil)) (by kernel_rfl) (by kernel_rfl) (by kernel_rfl) (Conv.trans (U := Un) (Conv.ren (U := Un) (st' := ⟨[(3, .vec 1003 1 0 ((v3 ++ [v11]).length)), (7, .p (.list (.list (.named 3))) a0), (8, .p I6 ((a0.length : Int) : Int)), (9, .p I6 ((IntKind.i64.wrap (v4 + 1)) : Int))], [(1003, .row 46 (.list (.named 3)) (v3 ++ [v11]) false)]⟩) 17 1003 (by unfold K0; omega) (by kernel_rfl) (by kernel_rfl) (by kernel_rfl)) (Conv.keep (U := Un) (b := ⟨[(3, .vec 1003 1 0 ((v3 ++ [v11]).length)), (7, .p (.list (.list (.named 3))) a0), (8, .p I6 ((a0.length : Int) : Int)), (9, .p I6 ((IntKind.i64.wrap (v4 + 1)) : Int))], [(1003, .row 46 (.list (.named 3)) (v3 ++ [v11]) false)]⟩) [3, 7, 8, 9] [1003] (by kernel_rfl))) ?_
        refine thenQ_normal ?_
        exact ⟨n, Nat.lt_succ_self n, (v3 ++ [v11]), (IntKind.i64.wrap (v4 + 1)), h, rfl⟩
      · replace h := ite_f hc9 h
        refine WpC.conv (Conv.keep (U := Un) (b := ⟨[(3, .vec 1003 1 0 v3.length)], [(1003, .row 46 (.list (.named 3)) v3 false)]⟩) [3] [1003] (by kernel_rfl)) (WpC.exit ?_)
        refine thenQ_exit ?_
        have hq := Option.some.inj h
        subst hq
        refine thenQ_exit ?_
        have h := hout8
        refine blockQ_hit ?_
        refine thenQ_normal ?_
        exact ⟨v3, h, rfl⟩
  · rintro _ ⟨v1, h, rfl⟩
    unfold millwrightlaw13_Of.j2 at h
    refine WpC.seq ?_
    refine WpC.reg (U := Un) (st1 := ⟨[(2, .vec 1003 1 0 v1.length)], [(1003, .row 46 (.list (.named 3)) v1 false)]⟩) [2] [1003] hN (.cons (mv (U := Un) (v := .vec 1003 1 0 v1.length) rfl rfl) (.cons (mva (U := Un) (v := .vec 1003 1 0 v1.length) rfl rfl) .nil)) (by kernel_rfl) (by kernel_rfl) (by kernel_rfl) (Conv.refl (U := Un) _) ?_
    refine thenQ_normal ?_
    refine WpC.conv (Conv.trans (U := Un) (Conv.freeze (U := Un) 2 1003 46 _ (.list (.named 3)) v1 false (.head _) (by first | rfl | (simp only [upd_length, List.length_replicate, List.length_append]; done) | (simp only [upd_length, List.length_replicate, List.length_append] at *; omega) | omega) (.head _) (by simp [Blk.names])) (Conv.keep (U := Un) (b := ⟨[(2, .p (.list (.list (.named 3))) v1)], []⟩) [2] [] (by kernel_rfl))) (WpC.ret ?_)
    have hq := Option.some.inj h
    subst hq
    exact ends_ret (retV_1 rfl (.head _)) ain_nil

theorem millwrightref13_Same.ok (O : Out) (hO : GOkL O) (k : Nat) (a0 : List (List T_lex_Piece)) (a1 : List (List T_lex_Piece)) (out : Bool) (h : millwrightref13_Same.f k a0 a1 = some out) : COk Un O Tryd.prog 22 { ar := [.p (.list (.list (.named 3))) a0, .p (.list (.list (.named 3))) a1], r := .p .bool out } := by
  refine cok_of_wp Tryd.func22 rfl (k := 53) rfl (Nat.le_of_ble_eq_true rfl) (namesOk_pure rfl rfl rfl rfl) ?_
  intro B hN
  refine WpC.conv (Conv.keep (U := Un) (b := ⟨[(0, .p (.list (.list (.named 3))) a0), (1, .p (.list (.list (.named 3))) a1)], []⟩) [0, 1] [] (by kernel_rfl)) ?_
  unfold millwrightref13_Same.f at h
  refine WpC.seq ?_
  refine WpC.reg (U := Un) (st1 := ⟨[(0, .p (.list (.list (.named 3))) a0), (1, .p (.list (.list (.named 3))) a1)], []⟩) [0, 1] [] hN (.cons (sok_move (U := Un) (rs := []) rfl (.inr rfl) (.bool _ _)) .nil) (by kernel_rfl) (by kernel_rfl) (by kernel_rfl) (Conv.refl (U := Un) _) ?_
  refine thenQ_normal ?_
  refine WpC.seq ?_
  refine WpC.seq ?_
  refine WpC.reg (U := Un) (st1 := ⟨[(0, .p (.list (.list (.named 3))) a0), (1, .p (.list (.list (.named 3))) a1), (11, .p .bool (((a0.length : Int) != (a1.length : Int)) : Bool))], []⟩) [0, 1, 11] [] hN (.cons (mv (U := Un) (v := .p (.list (.list (.named 3))) a0) rfl rfl) (.cons (sok_lenL (U := Un) (rs := [(7, .p (.list (.list (.named 3))) a0)]) rfl rfl Tryd.underlying49 o0) (.cons (mv (U := Un) (v := .p (.list (.list (.named 3))) a1) rfl rfl) (.cons (sok_lenL (U := Un) (rs := [(9, .p (.list (.list (.named 3))) a1)]) rfl rfl Tryd.underlying49 o0) (.cons (sok_cmp (U := Un) (rs := [(8, .p I6 ((a0.length : Int) : Int)), (10, .p I6 ((a1.length : Int) : Int))]) rfl rfl o0 o1 rfl) .nil))))) (by kernel_rfl) (by kernel_rfl) (by kernel_rfl) (Conv.refl (U := Un) _) ?_
  refine thenQ_normal ?_
  refine WpC.cond (U := Un) (b := ((a0.length : Int) != (a1.length : Int))) (.tmp (.tail _ (.tail _ (.head _)))) (fun hc1 => ?_) (fun hc1 => ?_)
  · replace h := ite_t hc1 h
    refine WpC.seq ?_
    refine WpC.reg (U := Un) (st1 := ⟨[(4, .p .bool false)], []⟩) [4] [] hN (.cons (sok_move (U := Un) (rs := []) rfl (.inr rfl) (.bool _ _)) .nil) (by kernel_rfl) (by kernel_rfl) (by kernel_rfl) (Conv.refl (U := Un) _) ?_
    refine thenQ_normal ?_
    refine WpC.ret ?_
    refine thenQ_ret ?_
    have hq := Option.some.inj h
    subst hq
    exact ends_ret (retV_1 rfl (.head _)) ain_nil
  · replace h := ite_f hc1 h
    refine WpC.conv (Conv.keep (U := Un) (b := ⟨[(0, .p (.list (.list (.named 3))) a0), (1, .p (.list (.list (.named 3))) a1)], []⟩) [0, 1] [] (by kernel_rfl)) (WpC.skip ?_)
    refine thenQ_normal ?_
    refine WpC.seqJ (U := Un) (fun st' => millwrightref13_Same.j2 k = some out ∧ st' = ⟨[], []⟩) ?_ ?_
    · refine WpC.seq ?_
      refine WpC.reg (U := Un) (st1 := ⟨[(0, .p (.list (.list (.named 3))) a0), (1, .p (.list (.list (.named 3))) a1), (13, .p I6 ((a0.length : Int) : Int)), (14, .p I6 (0 : Int))], []⟩) [0, 1, 13, 14] [] hN (.cons (mv (U := Un) (v := .p (.list (.list (.named 3))) a0) rfl rfl) (.cons (sok_lenL (U := Un) (rs := [(12, .p (.list (.list (.named 3))) a0)]) rfl rfl Tryd.underlying49 o0) (.cons (sok_move (U := Un) (rs := []) rfl (.inl rfl) (.int _ _ _)) .nil))) (by kernel_rfl) (by kernel_rfl) (by kernel_rfl) (Conv.refl (U := Un) _) ?_
      refine thenQ_normal ?_
      refine WpC.block ?_
      obtain ⟨o5, hlo5, h⟩ := bind_some h
      have hout6 := h
      clear h
      refine WpC.loop (U := Un) (fun n st' => ∃ v3 : Int, millwrightref13_Same.l4 k a0 a1 n v3 = some o5 ∧ st' = ⟨[(0, .p (.list (.list (.named 3))) a0), (1, .p (.list (.list (.named 3))) a1), (13, .p I6 ((a0.length : Int) : Int)), (14, .p I6 v3)], []⟩) k ⟨0, hlo5, rfl⟩ ?_
      clear hlo5
      rintro (_ | n) _ ⟨v3, h, rfl⟩
      · cases h
      · rw [millwrightref13_Same.l4] at h
        refine WpC.seq ?_
        refine WpC.reg (U := Un) (st1 := ⟨[(0, .p (.list (.list (.named 3))) a0), (1, .p (.list (.list (.named 3))) a1), (13, .p I6 ((a0.length : Int) : Int)), (14, .p I6 v3), (15, .p .bool ((decide (v3 < (a0.length : Int))) : Bool))], []⟩) [0, 1, 13, 14, 15] [] hN (.cons (sok_cmp (U := Un) (rs := [(14, .p I6 v3), (13, .p I6 ((a0.length : Int) : Int))]) rfl rfl o0 o1 rfl) .nil) (by kernel_rfl) (by kernel_rfl) (by kernel_rfl) (Conv.refl (U := Un) _) ?_
        refine thenQ_normal ?_
        refine WpC.seq ?_
        refine WpC.cond (U := Un) (b := (decide (v3 < (a0.length : Int)))) (.tmp (.tail _ (.tail _ (.tail _ (.tail _ (.head _)))))) (fun hc7 => ?_) (fun hc7 => ?_)
        · replace h := ite_t hc7 h
          refine WpC.conv (Conv.keep (U := Un) (b := ⟨[(0, .p (.list (.list (.named 3))) a0), (1, .p (.list (.list (.named 3))) a1), (13, .p I6 ((a0.length : Int) : Int)), (14, .p I6 v3)], []⟩) [0, 1, 13, 14] [] (by kernel_rfl)) (WpC.skip ?_)
          refine thenQ_normal ?_
          refine WpC.seqJ (U := Un) (fun st' => millwrightref13_Same.j8 k (millwrightref13_Same.l4 k a0 a1 n) a0 a1 v3 = some o5 ∧ st' = ⟨[(0, .p (.list (.list (.named 3))) a0), (1, .p (.list (.list (.named 3))) a1), (13, .p I6 ((a0.length : Int) : Int)), (14, .p I6 v3)], []⟩) ?_ ?_
          · refine WpC.block ?_
            refine WpC.seq ?_
            refine WpC.reg (U := Un) (st1 := ⟨[(0, .p (.list (.list (.named 3))) a0), (1, .p (.list (.list (.named 3))) a1), (5, .p I6 v3), (13, .p I6 ((a0.length : Int) : Int)), (14, .p I6 v3)], []⟩) [0, 1, 5, 13, 14] [] hN (.cons (mv (U := Un) (v := .p I6 v3) rfl rfl) (.cons (mva (U := Un) (v := .p I6 v3) rfl rfl) .nil)) (by kernel_rfl) (by kernel_rfl) (by kernel_rfl) (Conv.refl (U := Un) _) ?_
            refine thenQ_normal ?_
            refine WpC.seq ?_
            refine WpC.seq ?_
            obtain ⟨v9, hv9, h⟩ := bind_some h
            obtain ⟨v10, hv10, h⟩ := bind_some h
            refine WpC.regA (U := Un) (st1 := ⟨[(0, .p (.list (.list (.named 3))) a0), (1, .p (.list (.list (.named 3))) a1), (5, .p I6 v3), (13, .p I6 ((a0.length : Int) : Int)), (14, .p I6 v3), (27, .p .bool (((v9.length : Int) != (v10.length : Int)) : Bool))], []⟩) [0, 1, 5, 13, 14, 27] [] [[], [], [0, 1], [0, 1, 2], [0, 1, 2, 3], [], [], [5, 6], [5, 6, 7], [5, 6, 7, 8], [0, 1, 2, 3, 4, 5, 6, 7, 8, 9]] mixed hN (.cons (mv (U := Un) (v := .p (.list (.list (.named 3))) a0) rfl rfl) (.cons (mv (U := Un) (v := .p I6 v3) rfl rfl) (.cons (sok_indexL (U := Un) (rs := [(17, .p (.list (.list (.named 3))) a0), (18, .p I6 v3)]) rfl rfl sl_49 o0 o1 hv9) (.cons (sok_loadP (U := Un) (rs := [(19, .pp (.list (.named 3)) v9)]) rfl rfl ty_46 o0) (.cons (sok_lenL (U := Un) (rs := [(20, .p (.list (.named 3)) v9)]) rfl rfl Tryd.underlying46 o0) (.cons (mv (U := Un) (v := .p (.list (.list (.named 3))) a1) rfl rfl) (.cons (mv (U := Un) (v := .p I6 v3) rfl rfl) (.cons (sok_indexL (U := Un) (rs := [(22, .p (.list (.list (.named 3))) a1), (23, .p I6 v3)]) rfl rfl sl_49 o0 o1 hv10) (.cons (sok_loadP (U := Un) (rs := [(24, .pp (.list (.named 3)) v10)]) rfl rfl ty_46 o0) (.cons (sok_lenL (U := Un) (rs := [(25, .p (.list (.named 3)) v10)]) rfl rfl Tryd.underlying46 o0) (.cons (sok_cmp (U := Un) (rs := [(21, .p I6 ((v9.length : Int) : Int)), (26, .p I6 ((v10.length : Int) : Int))]) rfl rfl o0 o1 rfl) .nil))))))))))) (by kernel_rfl) (by kernel_rfl) (by kernel_rfl) (by kernel_rfl) (by kernel_rfl) (Conv.refl (U := Un) _) ?_
            refine thenQ_normal ?_
            refine WpC.cond (U := Un) (b := ((v9.length : Int) != (v10.length : Int))) (.tmp (.tail _ (.tail _ (.tail _ (.tail _ (.tail _ (.head _))))))) (fun hc11 => ?_) (fun hc11 => ?_)
            · replace h := ite_t hc11 h
              refine WpC.seq ?_
              refine WpC.reg (U := Un) (st1 := ⟨[(4, .p .bool false)], []⟩) [4] [] hN (.cons (sok_move (U := Un) (rs := []) rfl (.inr rfl) (.bool _ _)) .nil) (by kernel_rfl) (by kernel_rfl) (by kernel_rfl) (Conv.refl (U := Un) _) ?_
              refine thenQ_normal ?_
              refine WpC.ret ?_
              refine thenQ_ret ?_
              refine blockQ_ret ?_
              refine thenQ_ret ?_
              have hq := Option.some.inj h
              subst hq
              refine thenQ_ret ?_
              have h := hout6
              refine blockQ_ret ?_
              refine thenQ_ret ?_
              have hq := Option.some.inj h
              subst hq
              exact ends_ret (retV_1 rfl (.head _)) ain_nil
            · replace h := ite_f hc11 h
              refine WpC.conv (Conv.keep (U := Un) (b := ⟨[(0, .p (.list (.list (.named 3))) a0), (1, .p (.list (.list (.named 3))) a1), (5, .p I6 v3), (13, .p I6 ((a0.length : Int) : Int)), (14, .p I6 v3)], []⟩) [0, 1, 5, 13, 14] [] (by kernel_rfl)) (WpC.skip ?_)
              refine thenQ_normal ?_
              refine WpC.seq ?_
              obtain ⟨v12, hv12, h⟩ := bind_some h
              refine WpC.reg (U := Un) (st1 := ⟨[(0, .p (.list (.list (.named 3))) a0), (1, .p (.list (.list (.named 3))) a1), (5, .p I6 v3), (13, .p I6 ((a0.length : Int) : Int)), (14, .p I6 v3), (32, .p I6 ((v12.length : Int) : Int)), (33, .p I6 (0 : Int))], []⟩) [0, 1, 5, 13, 14, 32, 33] [] hN (.cons (mv (U := Un) (v := .p (.list (.list (.named 3))) a0) rfl rfl) (.cons (mv (U := Un) (v := .p I6 v3) rfl rfl) (.cons (sok_indexL (U := Un) (rs := [(28, .p (.list (.list (.named 3))) a0), (29, .p I6 v3)]) rfl rfl sl_49 o0 o1 hv12) (.cons (sok_loadP (U := Un) (rs := [(30, .pp (.list (.named 3)) v12)]) rfl rfl ty_46 o0) (.cons (sok_lenL (U := Un) (rs := [(31, .p (.list (.named 3)) v12)]) rfl rfl Tryd.underlying46 o0) (.cons (sok_move (U := Un) (rs := []) rfl (.inl rfl) (.int _ _ _)) .nil)))))) (by kernel_rfl) (by kernel_rfl) (by kernel_rfl) (Conv.refl (U := Un) _) ?_
              refine thenQ_normal ?_
              refine WpC.block ?_
              obtain ⟨o15, hlo15, h⟩ := bind_some h
              have hout16 := h
              clear h
              refine WpC.loop (U := Un) (fun n st' => ∃ v13 : Int, millwrightref13_Same.l14 k a0 a1 v3 v12 n v13 = some o15 ∧ st' = ⟨[(0, .p (.list (.list (.named 3))) a0), (1, .p (.list (.list (.named 3))) a1), (5, .p I6 v3), (13, .p I6 ((a0.length : Int) : Int)), (14, .p I6 v3), (32, .p I6 ((v12.length : Int) : Int)), (33, .p I6 v13)], []⟩) k ⟨0, hlo15, rfl⟩ ?_
              clear hlo15
              rintro (_ | n) _ ⟨v13, h, rfl⟩
              · cases h
              · rw [millwrightref13_Same.l14] at h
                refine WpC.seq ?_
                refine WpC.reg (U := Un) (st1 := ⟨[(0, .p (.list (.list (.named 3))) a0), (1, .p (.list (.list (.named 3))) a1), (5, .p I6 v3), (13, .p I6 ((a0.length : Int) : Int)), (14, .p I6 v3), (32, .p I6 ((v12.length : Int) : Int)), (33, .p I6 v13), (34, .p .bool ((decide (v13 < (v12.length : Int))) : Bool))], []⟩) [0, 1, 5, 13, 14, 32, 33, 34] [] hN (.cons (sok_cmp (U := Un) (rs := [(33, .p I6 v13), (32, .p I6 ((v12.length : Int) : Int))]) rfl rfl o0 o1 rfl) .nil) (by kernel_rfl) (by kernel_rfl) (by kernel_rfl) (Conv.refl (U := Un) _) ?_
                refine thenQ_normal ?_
                refine WpC.seq ?_
                refine WpC.cond (U := Un) (b := (decide (v13 < (v12.length : Int)))) (.tmp (.tail _ (.tail _ (.tail _ (.tail _ (.tail _ (.tail _ (.tail _ (.head _))))))))) (fun hc17 => ?_) (fun hc17 => ?_)
                · replace h := ite_t hc17 h
                  refine WpC.conv (Conv.keep (U := Un) (b := ⟨[(0, .p (.list (.list (.named 3))) a0), (1, .p (.list (.list (.named 3))) a1), (5, .p I6 v3), (13, .p I6 ((a0.length : Int) : Int)), (14, .p I6 v3), (32, .p I6 ((v12.length : Int) : Int)), (33, .p I6 v13)], []⟩) [0, 1, 5, 13, 14, 32, 33] [] (by kernel_rfl)) (WpC.skip ?_)
                  refine thenQ_normal ?_
                  refine WpC.seq ?_
                  refine WpC.block ?_
                  refine WpC.seq ?_
                  refine WpC.reg (U := Un) (st1 := ⟨[(0, .p (.list (.list (.named 3))) a0), (1, .p (.list (.list (.named 3))) a1), (5, .p I6 v3), (6, .p I6 v13), (13, .p I6 ((a0.length : Int) : Int)), (14, .p I6 v3), (32, .p I6 ((v12.length : Int) : Int)), (33, .p I6 v13)], []⟩) [0, 1, 5, 6, 13, 14, 32, 33] [] hN (.cons (mv (U := Un) (v := .p I6 v13) rfl rfl) (.cons (mva (U := Un) (v := .p I6 v13) rfl rfl) .nil)) (by kernel_rfl) (by kernel_rfl) (by kernel_rfl) (Conv.refl (U := Un) _) ?_
                  refine thenQ_normal ?_
                  refine WpC.seq ?_
                  obtain ⟨v18, hv18, h⟩ := bind_some h
                  obtain ⟨v19, hv19, h⟩ := bind_some h
                  obtain ⟨v20, hv20, h⟩ := bind_some h
                  obtain ⟨v21, hv21, h⟩ := bind_some h
                  refine WpC.regA (U := Un) (st1 := ⟨[(0, .p (.list (.list (.named 3))) a0), (1, .p (.list (.list (.named 3))) a1), (5, .p I6 v3), (13, .p I6 ((a0.length : Int) : Int)), (14, .p I6 v3), (32, .p I6 ((v12.length : Int) : Int)), (33, .p I6 v13), (50, .p .bool ((!(v19.f_Kind == v21.f_Kind && (v19.f_Text == v21.f_Text && (v19.f_From == v21.f_From && (v19.f_To == v21.f_To && true))))) : Bool))], []⟩) [0, 1, 5, 13, 14, 32, 33, 50] [] [[], [], [0, 1], [0, 1, 2], [], [0, 1, 2, 3, 4], [0, 1, 2, 3, 4, 5], [], [], [7, 8], [7, 8, 9], [], [7, 8, 9, 10, 11], [7, 8, 9, 10, 11, 12], [0, 1, 2, 3, 4, 5, 6, 7, 8, 9, 10, 11, 12, 13]] mixed hN (.cons (mv (U := Un) (v := .p (.list (.list (.named 3))) a0) rfl rfl) (.cons (mv (U := Un) (v := .p I6 v3) rfl rfl) (.cons (sok_indexL (U := Un) (rs := [(36, .p (.list (.list (.named 3))) a0), (37, .p I6 v3)]) rfl rfl sl_49 o0 o1 hv18) (.cons (sok_loadP (U := Un) (rs := [(38, .pp (.list (.named 3)) v18)]) rfl rfl ty_46 o0) (.cons (mv (U := Un) (v := .p I6 v13) rfl rfl) (.cons (sok_indexL (U := Un) (rs := [(39, .p (.list (.named 3)) v18), (40, .p I6 v13)]) rfl rfl sl_46 o0 o1 hv19) (.cons (sok_loadP (U := Un) (rs := [(41, .pp (.named 3) v19)]) rfl rfl ty_88 o0) (.cons (mv (U := Un) (v := .p (.list (.list (.named 3))) a1) rfl rfl) (.cons (mv (U := Un) (v := .p I6 v3) rfl rfl) (.cons (sok_indexL (U := Un) (rs := [(43, .p (.list (.list (.named 3))) a1), (44, .p I6 v3)]) rfl rfl sl_49 o0 o1 hv20) (.cons (sok_loadP (U := Un) (rs := [(45, .pp (.list (.named 3)) v20)]) rfl rfl ty_46 o0) (.cons (mv (U := Un) (v := .p I6 v13) rfl rfl) (.cons (sok_indexL (U := Un) (rs := [(46, .p (.list (.named 3)) v20), (47, .p I6 v13)]) rfl rfl sl_46 o0 o1 hv21) (.cons (sok_loadP (U := Un) (rs := [(48, .pp (.named 3) v21)]) rfl rfl ty_88 o0) (.cons (sok_neS (U := Un) (rs := [(42, .p (.named 3) v19), (49, .p (.named 3) v21)]) rfl rfl Tryd.underlying88 (by kernel_rfl) (eqf_88 _ Tryd.underlying88) (by kernel_rfl) o0 o1) .nil))))))))))))))) (by kernel_rfl) (by kernel_rfl) (by kernel_rfl) (by kernel_rfl) (by kernel_rfl) (Conv.refl (U := Un) _) ?_
                  refine thenQ_normal ?_
                  refine WpC.cond (U := Un) (b := (!(v19.f_Kind == v21.f_Kind && (v19.f_Text == v21.f_Text && (v19.f_From == v21.f_From && (v19.f_To == v21.f_To && true)))))) (.tmp (.tail _ (.tail _ (.tail _ (.tail _ (.tail _ (.tail _ (.tail _ (.head _))))))))) (fun hc22 => ?_) (fun hc22 => ?_)
                  · replace h := ite_t hc22 h
                    refine WpC.seq ?_
                    refine WpC.reg (U := Un) (st1 := ⟨[(4, .p .bool false)], []⟩) [4] [] hN (.cons (sok_move (U := Un) (rs := []) rfl (.inr rfl) (.bool _ _)) .nil) (by kernel_rfl) (by kernel_rfl) (by kernel_rfl) (Conv.refl (U := Un) _) ?_
                    refine thenQ_normal ?_
                    refine WpC.ret ?_
                    refine blockQ_ret ?_
                    refine thenQ_ret ?_
                    have hq := Option.some.inj h
                    subst hq
                    refine thenQ_ret ?_
                    have h := hout16
                    refine blockQ_ret ?_
                    refine blockQ_ret ?_
                    refine thenQ_ret ?_
                    have hq := Option.some.inj h
                    subst hq
                    refine thenQ_ret ?_
                    have h := hout6
                    refine blockQ_ret ?_
                    refine thenQ_ret ?_
                    have hq := Option.some.inj h
                    subst hq
                    exact ends_ret (retV_1 rfl (.head _)) ain_nil
                  · replace h := ite_f hc22 h
                    refine WpC.conv (Conv.keep (U := Un) (b := ⟨[(0, .p (.list (.list (.named 3))) a0), (1, .p (.list (.list (.named 3))) a1), (5, .p I6 v3), (13, .p I6 ((a0.length : Int) : Int)), (14, .p I6 v3), (32, .p I6 ((v12.length : Int) : Int)), (33, .p I6 v13)], []⟩) [0, 1, 5, 13, 14, 32, 33] [] (by kernel_rfl)) (WpC.skip ?_)
                    refine blockQ_normal ?_
                    refine thenQ_normal ?_
                    refine WpC.reg (U := Un) (st1 := ⟨[(0, .p (.list (.list (.named 3))) a0), (1, .p (.list (.list (.named 3))) a1), (5, .p I6 v3), (13, .p I6 ((a0.length : Int) : Int)), (14, .p I6 v3), (32, .p I6 ((v12.length : Int) : Int)), (33, .p I6 ((IntKind.i64.wrap (v13 + 1)) : Int))], []⟩) [0, 1, 5, 13, 14, 32, 33] [] hN (.cons (sok_arith (U := Un) (rs := [(33, .p I6 v13)]) rfl rfl o0 (.int _ _ _) rfl) (.cons (mv (U := Un) (v := .p I6 ((IntKind.i64.wrap (v13 + 1)) : Int)) rfl rfl) .nil)) (by kernel_rfl) (by kernel_rfl) (by kernel_rfl) (Conv.refl (U := Un) _) ?_
                    refine thenQ_normal ?_
                    exact ⟨n, Nat.lt_succ_self n, (IntKind.i64.wrap (v13 + 1)), h, rfl⟩
                · replace h := ite_f hc17 h
                  refine WpC.conv (Conv.keep (U := Un) (b := ⟨[(0, .p (.list (.list (.named 3))) a0), (1, .p (.list (.list (.named 3))) a1), (13, .p I6 ((a0.length : Int) : Int)), (14, .p I6 v3)], []⟩) [0, 1, 13, 14] [] (by kernel_rfl)) (WpC.exit ?_)
                  refine thenQ_exit ?_
                  have hq := Option.some.inj h
                  subst hq
                  refine thenQ_exit ?_
                  have h := hout16
                  refine blockQ_hit ?_
                  refine blockQ_normal ?_
                  refine thenQ_normal ?_
                  exact ⟨h, rfl⟩
          · rintro _ ⟨h, rfl⟩
            unfold millwrightref13_Same.j8 at h
            refine WpC.reg (U := Un) (st1 := ⟨[(0, .p (.list (.list (.named 3))) a0), (1, .p (.list (.list (.named 3))) a1), (13, .p I6 ((a0.length : Int) : Int)), (14, .p I6 ((IntKind.i64.wrap (v3 + 1)) : Int))], []⟩) [0, 1, 13, 14] [] hN (.cons (sok_arith (U := Un) (rs := [(14, .p I6 v3)]) rfl rfl o0 (.int _ _ _) rfl) (.cons (mv (U := Un) (v := .p I6 ((IntKind.i64.wrap (v3 + 1)) : Int)) rfl rfl) .nil)) (by kernel_rfl) (by kernel_rfl) (by kernel_rfl) (Conv.refl (U := Un) _) ?_
            refine thenQ_normal ?_
            exact ⟨n, Nat.lt_succ_self n, (IntKind.i64.wrap (v3 + 1)), h, rfl⟩
        · replace h := ite_f hc7 h
          refine WpC.conv (Conv.keep (U := Un) (b := ⟨[], []⟩) [] [] (by kernel_rfl)) (WpC.exit ?_)
          refine thenQ_exit ?_
          have hq := Option.some.inj h
          subst hq
          refine thenQ_exit ?_
          have h := hout6
          refine blockQ_hit ?_
          refine thenQ_normal ?_
          exact ⟨h, rfl⟩
    · rintro _ ⟨h, rfl⟩
      unfold millwrightref13_Same.j2 at h
      refine WpC.seq ?_
      refine WpC.reg (U := Un) (st1 := ⟨[(4, .p .bool true)], []⟩) [4] [] hN (.cons (sok_move (U := Un) (rs := []) rfl (.inr rfl) (.bool _ _)) .nil) (by kernel_rfl) (by kernel_rfl) (by kernel_rfl) (Conv.refl (U := Un) _) ?_
      refine thenQ_normal ?_
      refine WpC.ret ?_
      have hq := Option.some.inj h
      subst hq
      exact ends_ret (retV_1 rfl (.head _)) ain_nil

theorem millwrightlaw13_LexTexts.ok (O : Out) (hO : GOkL O) (k : Nat) (a0 : List (List T_lex_Piece)) (a1 : List (List T_lex_Piece)) (out : Bool) (h : millwrightlaw13_LexTexts.f k a0 a1 = some out) : COk Un O Tryd.prog 5 { ar := [.p (.list (.list (.named 3))) a0, .p (.list (.list (.named 3))) a1], r := .p .bool out } := by
  refine cok_of_wp Tryd.func5 rfl (k := 87) rfl (Nat.le_of_ble_eq_true rfl) (namesOk_pure rfl rfl rfl rfl) ?_
  intro B hN
  refine WpC.conv (Conv.keep (U := Un) (b := ⟨[(0, .p (.list (.list (.named 3))) a0), (1, .p (.list (.list (.named 3))) a1)], []⟩) [0, 1] [] (by kernel_rfl)) ?_
  unfold millwrightlaw13_LexTexts.f at h
  refine WpC.seq ?_
  refine WpC.reg (U := Un) (st1 := ⟨[(0, .p (.list (.list (.named 3))) a0), (1, .p (.list (.list (.named 3))) a1)], []⟩) [0, 1] [] hN (.cons (sok_move (U := Un) (rs := []) rfl (.inr rfl) (.bool _ _)) .nil) (by kernel_rfl) (by kernel_rfl) (by kernel_rfl) (Conv.refl (U := Un) _) ?_
  refine thenQ_normal ?_
  refine WpC.seq ?_
  refine WpC.seq ?_
  obtain ⟨v1, hv1, h⟩ := bind_some h
  refine WpC.reg (U := Un) (st1 := ⟨[(0, .p (.list (.list (.named 3))) a0), (1, .p (.list (.list (.named 3))) a1), (14, .p .bool ((!v1) : Bool))], []⟩) [0, 1, 14] [] hN (.cons (sok_callV (U := Un) (rs := []) (vw := []) rfl rfl (.func _) hb_14 (millwrightlaw13_alive.ok O hO k v1 hv1) .nil .nil (by simp) (.inl rfl)) (.cons (sok_not (U := Un) (rs := [(13, .p .bool v1)]) rfl rfl o0) .nil)) (by kernel_rfl) (by kernel_rfl) (by kernel_rfl) (Conv.refl (U := Un) _) ?_
  refine thenQ_normal ?_
  refine WpC.cond (U := Un) (b := (!v1)) (.tmp (.tail _ (.tail _ (.head _)))) (fun hc2 => ?_) (fun hc2 => ?_)
  · replace h := ite_t hc2 h
    refine WpC.seq ?_
    refine WpC.reg (U := Un) (st1 := ⟨[(4, .p .bool false)], []⟩) [4] [] hN (.cons (sok_move (U := Un) (rs := []) rfl (.inr rfl) (.bool _ _)) .nil) (by kernel_rfl) (by kernel_rfl) (by kernel_rfl) (Conv.refl (U := Un) _) ?_
    refine thenQ_normal ?_
    refine WpC.ret ?_
    refine thenQ_ret ?_
    have hq := Option.some.inj h
    subst hq
    exact ends_ret (retV_1 rfl (.head _)) ain_nil
  · replace h := ite_f hc2 h
    refine WpC.conv (Conv.keep (U := Un) (b := ⟨[(0, .p (.list (.list (.named 3))) a0), (1, .p (.list (.list (.named 3))) a1)], []⟩) [0, 1] [] (by kernel_rfl)) (WpC.skip ?_)
    refine thenQ_normal ?_
    refine WpC.seqJ (U := Un) (fun st' => millwrightlaw13_LexTexts.j53 k a0 a1 = some out ∧ st' = ⟨[(0, .p (.list (.list (.named 3))) a0), (1, .p (.list (.list (.named 3))) a1)], []⟩) ?_ ?_
    · refine WpC.seqJ (U := Un) (fun st' => ∃ v54 : Bool, millwrightlaw13_LexTexts.j56 k a0 a1 v54 = some out ∧ st' = ⟨[(0, .p (.list (.list (.named 3))) a0), (1, .p (.list (.list (.named 3))) a1), (20, .p .bool v54)], []⟩) ?_ ?_
      · obtain ⟨v57, hv57, h⟩ := bind_some h
        rcases bool_cases v57 with hc58 | hc58
        · replace h := ite_t hc58 h
          refine WpC.reg (U := Un) (st1 := ⟨[(0, .p (.list (.list (.named 3))) a0), (1, .p (.list (.list (.named 3))) a1), (20, .p .bool true)], []⟩) [0, 1, 20] [] hN (.cons (mv (U := Un) (v := .p (.list (.list (.named 3))) a0) rfl rfl) (.cons (sok_callV (U := Un) (rs := [(15, .p (.list (.list (.named 3))) a0)]) (vw := []) rfl rfl (.func _) hb_18 (millwrightlaw13_Long.ok O hO k a0 12 v57 hv57) (.cons o0 (.cons (.int _ _ _) .nil)) (.cons (.same _) (.cons (.same _) .nil)) (by simp) (.inl rfl)) (.cons (mv (U := Un) (v := .p .bool v57) rfl rfl) (.cons (sok_skip rfl rfl hc58) (.cons (sok_skip rfl rfl hc58) (.cons (sok_pickT (U := Un) (rs := [(17, .p .bool v57)]) rfl rfl o0 hc58 (.bool _ _)) .nil)))))) (by kernel_rfl) (by kernel_rfl) (by kernel_rfl) (Conv.refl (U := Un) _) ?_
          refine thenQ_normal ?_
          exact ⟨true, h, rfl⟩
        · replace h := ite_f hc58 h
          obtain ⟨v59, hv59, h⟩ := bind_some h
          refine WpC.reg (U := Un) (st1 := ⟨[(0, .p (.list (.list (.named 3))) a0), (1, .p (.list (.list (.named 3))) a1), (20, .p .bool v59)], []⟩) [0, 1, 20] [] hN (.cons (mv (U := Un) (v := .p (.list (.list (.named 3))) a0) rfl rfl) (.cons (sok_callV (U := Un) (rs := [(15, .p (.list (.list (.named 3))) a0)]) (vw := []) rfl rfl (.func _) hb_18 (millwrightlaw13_Long.ok O hO k a0 12 v57 hv57) (.cons o0 (.cons (.int _ _ _) .nil)) (.cons (.same _) (.cons (.same _) .nil)) (by simp) (.inl rfl)) (.cons (mv (U := Un) (v := .p .bool v57) rfl rfl) (.cons (sok_run rfl rfl hc58 (mv (U := Un) (v := .p (.list (.list (.named 3))) a1) rfl rfl)) (.cons (sok_run rfl rfl hc58 (sok_callV (U := Un) (rs := [(18, .p (.list (.list (.named 3))) a1)]) (vw := []) rfl rfl (.func _) hb_18 (millwrightlaw13_Long.ok O hO k a1 12 v59 hv59) (.cons o0 (.cons (.int _ _ _) .nil)) (.cons (.same _) (.cons (.same _) .nil)) (by simp) (.inl rfl))) (.cons (sok_pickF (U := Un) (rs := [(17, .p .bool v57), (19, .p .bool v59)]) rfl rfl o0 hc58 o1) .nil)))))) (by kernel_rfl) (by kernel_rfl) (by kernel_rfl) (Conv.refl (U := Un) _) ?_
          refine thenQ_normal ?_
          exact ⟨v59, h, rfl⟩
      · rintro _ ⟨v54, h, rfl⟩
        unfold millwrightlaw13_LexTexts.j56 at h
        refine WpC.cond (U := Un) (b := v54) (.tmp (.tail _ (.tail _ (.head _)))) (fun hc55 => ?_) (fun hc55 => ?_)
        · replace h := ite_t hc55 h
          refine WpC.seq ?_
          refine WpC.reg (U := Un) (st1 := ⟨[(4, .p .bool true)], []⟩) [4] [] hN (.cons (sok_move (U := Un) (rs := []) rfl (.inr rfl) (.bool _ _)) .nil) (by kernel_rfl) (by kernel_rfl) (by kernel_rfl) (Conv.refl (U := Un) _) ?_
          refine thenQ_normal ?_
          refine WpC.ret ?_
          refine thenQ_ret ?_
          have hq := Option.some.inj h
          subst hq
          exact ends_ret (retV_1 rfl (.head _)) ain_nil
        · replace h := ite_f hc55 h
          refine WpC.conv (Conv.keep (U := Un) (b := ⟨[(0, .p (.list (.list (.named 3))) a0), (1, .p (.list (.list (.named 3))) a1)], []⟩) [0, 1] [] (by kernel_rfl)) (WpC.skip ?_)
          refine thenQ_normal ?_
          exact ⟨h, rfl⟩
    · rintro _ ⟨h, rfl⟩
      unfold millwrightlaw13_LexTexts.j53 at h
      refine WpC.seqJ (U := Un) (fun st' => millwrightlaw13_LexTexts.j9 k a0 a1 = some out ∧ st' = ⟨[(0, .p (.list (.list (.named 3))) a0), (1, .p (.list (.list (.named 3))) a1)], []⟩) ?_ ?_
      · refine WpC.seq ?_
        refine WpC.reg (U := Un) (st1 := ⟨[(0, .p (.list (.list (.named 3))) a0), (1, .p (.list (.list (.named 3))) a1), (21, .p (.list (.list (.named 3))) a0), (22, .p I6 ((a0.length : Int) : Int)), (23, .p I6 (0 : Int))], []⟩) [0, 1, 21, 22, 23] [] hN (.cons (mv (U := Un) (v := .p (.list (.list (.named 3))) a0) rfl rfl) (.cons (sok_lenL (U := Un) (rs := [(21, .p (.list (.list (.named 3))) a0)]) rfl rfl Tryd.underlying33 o0) (.cons (sok_move (U := Un) (rs := []) rfl (.inl rfl) (.int _ _ _)) .nil))) (by kernel_rfl) (by kernel_rfl) (by kernel_rfl) (Conv.refl (U := Un) _) ?_
        refine thenQ_normal ?_
        refine WpC.block ?_
        obtain ⟨o12, hlo12, h⟩ := bind_some h
        have hout13 := h
        clear h
        refine WpC.loop (U := Un) (fun n st' => ∃ v10 : Int, millwrightlaw13_LexTexts.l11 k a0 a1 n v10 = some o12 ∧ st' = ⟨[(0, .p (.list (.list (.named 3))) a0), (1, .p (.list (.list (.named 3))) a1), (21, .p (.list (.list (.named 3))) a0), (22, .p I6 ((a0.length : Int) : Int)), (23, .p I6 v10)], []⟩) k ⟨0, hlo12, rfl⟩ ?_
        clear hlo12
        rintro (_ | n) _ ⟨v10, h, rfl⟩
        · cases h
        · rw [millwrightlaw13_LexTexts.l11] at h
          refine WpC.seq ?_
          refine WpC.reg (U := Un) (st1 := ⟨[(0, .p (.list (.list (.named 3))) a0), (1, .p (.list (.list (.named 3))) a1), (21, .p (.list (.list (.named 3))) a0), (22, .p I6 ((a0.length : Int) : Int)), (23, .p I6 v10), (24, .p .bool ((decide (v10 < (a0.length : Int))) : Bool))], []⟩) [0, 1, 21, 22, 23, 24] [] hN (.cons (sok_cmp (U := Un) (rs := [(23, .p I6 v10), (22, .p I6 ((a0.length : Int) : Int))]) rfl rfl o0 o1 rfl) .nil) (by kernel_rfl) (by kernel_rfl) (by kernel_rfl) (Conv.refl (U := Un) _) ?_
          refine thenQ_normal ?_
          refine WpC.seq ?_
          refine WpC.cond (U := Un) (b := (decide (v10 < (a0.length : Int)))) (.tmp (.tail _ (.tail _ (.tail _ (.tail _ (.tail _ (.head _))))))) (fun hc14 => ?_) (fun hc14 => ?_)
          · replace h := ite_t hc14 h
            refine WpC.conv (Conv.keep (U := Un) (b := ⟨[(0, .p (.list (.list (.named 3))) a0), (1, .p (.list (.list (.named 3))) a1), (21, .p (.list (.list (.named 3))) a0), (22, .p I6 ((a0.length : Int) : Int)), (23, .p I6 v10)], []⟩) [0, 1, 21, 22, 23] [] (by kernel_rfl)) (WpC.skip ?_)
            refine thenQ_normal ?_
            refine WpC.seqJ (U := Un) (fun st' => millwrightlaw13_LexTexts.j15 k (millwrightlaw13_LexTexts.l11 k a0 a1 n) a0 a1 v10 = some o12 ∧ st' = ⟨[(0, .p (.list (.list (.named 3))) a0), (1, .p (.list (.list (.named 3))) a1), (21, .p (.list (.list (.named 3))) a0), (22, .p I6 ((a0.length : Int) : Int)), (23, .p I6 v10)], []⟩) ?_ ?_
            · refine WpC.block ?_
              refine WpC.seq ?_
              obtain ⟨v16, hv16, h⟩ := bind_some h
              refine WpC.reg (U := Un) (st1 := ⟨[(0, .p (.list (.list (.named 3))) a0), (1, .p (.list (.list (.named 3))) a1), (6, .p (.list (.named 3)) v16), (21, .p (.list (.list (.named 3))) a0), (22, .p I6 ((a0.length : Int) : Int)), (23, .p I6 v10)], []⟩) [0, 1, 6, 21, 22, 23] [] hN (.cons (sok_indexL (U := Un) (rs := [(21, .p (.list (.list (.named 3))) a0), (23, .p I6 v10)]) rfl rfl sl_33 o0 o1 hv16) (.cons (sok_loadP (U := Un) (rs := [(25, .pp (.list (.named 3)) v16)]) rfl rfl ty_36 o0) (.cons (mva (U := Un) (v := .p (.list (.named 3)) v16) rfl rfl) .nil))) (by kernel_rfl) (by kernel_rfl) (by kernel_rfl) (Conv.refl (U := Un) _) ?_
              refine thenQ_normal ?_
              refine WpC.seq ?_
              refine WpC.reg (U := Un) (st1 := ⟨[(0, .p (.list (.list (.named 3))) a0), (1, .p (.list (.list (.named 3))) a1), (6, .p (.list (.named 3)) v16), (7, .p .str (([] : List UInt8) : List UInt8)), (8, .p .bool true), (21, .p (.list (.list (.named 3))) a0), (22, .p I6 ((a0.length : Int) : Int)), (23, .p I6 v10)], []⟩) [0, 1, 6, 7, 8, 21, 22, 23] [] hN (.cons (sok_move (U := Un) (rs := []) rfl (.inr rfl) (.str _ _)) (.cons (sok_move (U := Un) (rs := []) rfl (.inr rfl) (.bool _ _)) .nil)) (by kernel_rfl) (by kernel_rfl) (by kernel_rfl) (Conv.refl (U := Un) _) ?_
              refine thenQ_normal ?_
              refine WpC.seqJ (U := Un) (fun st' => ∃ v17 : List UInt8, ∃ v18 : Bool, millwrightlaw13_LexTexts.j31 k (millwrightlaw13_LexTexts.l11 k a0 a1 n) a0 a1 v10 v16 v17 v18 = some o12 ∧ st' = ⟨[(0, .p (.list (.list (.named 3))) a0), (1, .p (.list (.list (.named 3))) a1), (6, .p (.list (.named 3)) v16), (7, .p .str v17), (8, .p .bool v18), (21, .p (.list (.list (.named 3))) a0), (22, .p I6 ((a0.length : Int) : Int)), (23, .p I6 v10)], []⟩) ?_ ?_
              · refine WpC.seq ?_
                refine WpC.reg (U := Un) (st1 := ⟨[(0, .p (.list (.list (.named 3))) a0), (1, .p (.list (.list (.named 3))) a1), (6, .p (.list (.named 3)) v16), (7, .p .str (([] : List UInt8) : List UInt8)), (8, .p .bool true), (21, .p (.list (.list (.named 3))) a0), (22, .p I6 ((a0.length : Int) : Int)), (23, .p I6 v10), (27, .p (.list (.named 3)) v16), (28, .p I6 ((v16.length : Int) : Int)), (29, .p I6 (0 : Int))], []⟩) [0, 1, 6, 7, 8, 21, 22, 23, 27, 28, 29] [] hN (.cons (mv (U := Un) (v := .p (.list (.named 3)) v16) rfl rfl) (.cons (sok_lenL (U := Un) (rs := [(27, .p (.list (.named 3)) v16)]) rfl rfl Tryd.underlying36 o0) (.cons (sok_move (U := Un) (rs := []) rfl (.inl rfl) (.int _ _ _)) .nil))) (by kernel_rfl) (by kernel_rfl) (by kernel_rfl) (Conv.refl (U := Un) _) ?_
                refine thenQ_normal ?_
                refine WpC.block ?_
                obtain ⟨o38, hlo38, h⟩ := bind_some h
                have hout39 := h
                clear h
                refine WpC.loop (U := Un) (fun n st' => ∃ v32 : List UInt8, ∃ v33 : Bool, ∃ v34 : Int, millwrightlaw13_LexTexts.l35 k a0 a1 v10 v16 n v32 v33 v34 = some o38 ∧ st' = ⟨[(0, .p (.list (.list (.named 3))) a0), (1, .p (.list (.list (.named 3))) a1), (6, .p (.list (.named 3)) v16), (7, .p .str v32), (8, .p .bool v33), (21, .p (.list (.list (.named 3))) a0), (22, .p I6 ((a0.length : Int) : Int)), (23, .p I6 v10), (27, .p (.list (.named 3)) v16), (28, .p I6 ((v16.length : Int) : Int)), (29, .p I6 v34)], []⟩) k ⟨([] : List UInt8), true, 0, hlo38, rfl⟩ ?_
                clear hlo38
                rintro (_ | n) _ ⟨v32, v33, v34, h, rfl⟩
                · cases h
                · rw [millwrightlaw13_LexTexts.l35] at h
                  refine WpC.seq ?_
                  refine WpC.reg (U := Un) (st1 := ⟨[(0, .p (.list (.list (.named 3))) a0), (1, .p (.list (.list (.named 3))) a1), (6, .p (.list (.named 3)) v16), (7, .p .str v32), (8, .p .bool v33), (21, .p (.list (.list (.named 3))) a0), (22, .p I6 ((a0.length : Int) : Int)), (23, .p I6 v10), (27, .p (.list (.named 3)) v16), (28, .p I6 ((v16.length : Int) : Int)), (29, .p I6 v34), (30, .p .bool ((decide (v34 < (v16.length : Int))) : Bool))], []⟩) [0, 1, 6, 7, 8, 21, 22, 23, 27, 28, 29, 30] [] hN (.cons (sok_cmp (U := Un) (rs := [(29, .p I6 v34), (28, .p I6 ((v16.length : Int) : Int))]) rfl rfl o0 o1 rfl) .nil) (by kernel_rfl) (by kernel_rfl) (by kernel_rfl) (Conv.refl (U := Un) _) ?_
                  refine thenQ_normal ?_
                  refine WpC.seq ?_
                  refine WpC.cond (U := Un) (b := (decide (v34 < (v16.length : Int)))) (.tmp (.tail _ (.tail _ (.tail _ (.tail _ (.tail _ (.tail _ (.tail _ (.tail _ (.tail _ (.tail _ (.tail _ (.head _))))))))))))) (fun hc40 => ?_) (fun hc40 => ?_)
                  · replace h := ite_t hc40 h
                    refine WpC.conv (Conv.keep (U := Un) (b := ⟨[(0, .p (.list (.list (.named 3))) a0), (1, .p (.list (.list (.named 3))) a1), (6, .p (.list (.named 3)) v16), (7, .p .str v32), (8, .p .bool v33), (21, .p (.list (.list (.named 3))) a0), (22, .p I6 ((a0.length : Int) : Int)), (23, .p I6 v10), (27, .p (.list (.named 3)) v16), (28, .p I6 ((v16.length : Int) : Int)), (29, .p I6 v34)], []⟩) [0, 1, 6, 7, 8, 21, 22, 23, 27, 28, 29] [] (by kernel_rfl)) (WpC.skip ?_)
                    refine thenQ_normal ?_
                    refine WpC.seqJ (U := Un) (fun st' => ∃ v41 : List UInt8, ∃ v42 : Bool, millwrightlaw13_LexTexts.j43 k (millwrightlaw13_LexTexts.l35 k a0 a1 v10 v16 n) a0 a1 v10 v16 v34 v41 v42 = some o38 ∧ st' = ⟨[(0, .p (.list (.list (.named 3))) a0), (1, .p (.list (.list (.named 3))) a1), (6, .p (.list (.named 3)) v16), (7, .p .str v41), (8, .p .bool v42), (21, .p (.list (.list (.named 3))) a0), (22, .p I6 ((a0.length : Int) : Int)), (23, .p I6 v10), (27, .p (.list (.named 3)) v16), (28, .p I6 ((v16.length : Int) : Int)), (29, .p I6 v34)], []⟩) ?_ ?_
                    · refine WpC.block ?_
                      refine WpC.seq ?_
                      obtain ⟨v44, hv44, h⟩ := bind_some h
                      refine WpC.reg (U := Un) (st1 := ⟨[(0, .p (.list (.list (.named 3))) a0), (1, .p (.list (.list (.named 3))) a1), (6, .p (.list (.named 3)) v16), (7, .p .str v32), (8, .p .bool v33), (10, .loc 10 0), (21, .p (.list (.list (.named 3))) a0), (22, .p I6 ((a0.length : Int) : Int)), (23, .p I6 v10), (27, .p (.list (.named 3)) v16), (28, .p I6 ((v16.length : Int) : Int)), (29, .p I6 v34)], [(10, .box [.p I6 v44.f_Kind, .p .str v44.f_Text, .p .str v44.f_From, .p .str v44.f_To])]⟩) [0, 1, 6, 7, 8, 10, 21, 22, 23, 27, 28, 29] [10] hN (.cons (sok_indexL (U := Un) (rs := [(27, .p (.list (.named 3)) v16), (29, .p I6 v34)]) rfl rfl sl_36 o0 o1 hv44) (.cons (sok_loadP (U := Un) (rs := [(31, .pp (.named 3) v44)]) rfl rfl ty_42 o0) (.cons (sok_allocZ (U := Un) (rs := []) (d := 10) (us := [.p I6 (0 : Int), .p .str ([] : List UInt8), .p .str ([] : List UInt8), .p .str ([] : List UInt8)]) (v := (.agg #[.int .i64 0, .string ByteArray.empty, .string ByteArray.empty, .string ByteArray.empty])) rfl rfl rfl (by kernel_rfl) rfl (.data (fun _ _ _ => .int _ _) (.data (fun _ _ _ => rd_str0) (.data (fun _ _ _ => rd_str0) (.data (fun _ _ _ => rd_str0) .nil)))) (by kernel_rfl)) (.cons (sok_storeB (U := Un) (rs := [(10, .loc 10 0), (32, .p (.named 3) v44)]) (v := .p (.named 3) v44) (mid' := [.p I6 v44.f_Kind, .p .str v44.f_Text, .p .str v44.f_From, .p .str v44.f_To]) [] [.p I6 (0 : Int), .p .str ([] : List UInt8), .p .str ([] : List UInt8), .p .str ([] : List UInt8)] [] rfl rfl rfl ty_42 o0 o1 (.data (.named (.pair (.one _ _) (.pair (.one _ _) (.pair (.one _ _) (.pair (.one _ _) .unit)))))) rfl rfl rfl rfl rfl rfl) .nil)))) (by kernel_rfl) (by kernel_rfl) (by kernel_rfl) (Conv.refl (U := Un) _) ?_
                      refine thenQ_normal ?_
                      refine WpC.seqJ (U := Un) (fun st' => ∃ v45 : Bool, millwrightlaw13_LexTexts.j47 k (millwrightlaw13_LexTexts.l35 k a0 a1 v10 v16 n) a0 a1 v10 v16 v32 v34 v44 v45 = some o38 ∧ st' = ⟨[(0, .p (.list (.list (.named 3))) a0), (1, .p (.list (.list (.named 3))) a1), (6, .p (.list (.named 3)) v16), (7, .p .str v32), (8, .p .bool v45), (10, .loc 10 0), (21, .p (.list (.list (.named 3))) a0), (22, .p I6 ((a0.length : Int) : Int)), (23, .p I6 v10), (27, .p (.list (.named 3)) v16), (28, .p I6 ((v16.length : Int) : Int)), (29, .p I6 v34)], [(10, .box [.p I6 v44.f_Kind, .p .str v44.f_Text, .p .str v44.f_From, .p .str v44.f_To])]⟩) ?_ ?_
                      · rcases bool_cases v33 with hc48 | hc48
                        · replace h := ite_t hc48 h
                          rcases bool_cases (v44.f_Kind == 0) with hc49 | hc49
                          · replace h := ite_t hc49 h
                            refine WpC.reg (U := Un) (st1 := ⟨[(0, .p (.list (.list (.named 3))) a0), (1, .p (.list (.list (.named 3))) a1), (6, .p (.list (.named 3)) v16), (7, .p .str v32), (8, .p .bool true), (10, .loc 10 0), (21, .p (.list (.list (.named 3))) a0), (22, .p I6 ((a0.length : Int) : Int)), (23, .p I6 v10), (27, .p (.list (.named 3)) v16), (28, .p I6 ((v16.length : Int) : Int)), (29, .p I6 v34)], [(10, .box [.p I6 v44.f_Kind, .p .str v44.f_Text, .p .str v44.f_From, .p .str v44.f_To])]⟩) [0, 1, 6, 7, 8, 10, 21, 22, 23, 27, 28, 29] [10] hN (.cons (mv (U := Un) (v := .p .bool v33) rfl rfl) (.cons (mv (U := Un) (v := .p .bool v33) rfl rfl) (.cons (sok_run rfl rfl hc48 (sok_fieldB (U := Un) (rs := [(10, .loc 10 0)]) rfl rfl fd_42_0 (by decide) o0)) (.cons (sok_run rfl rfl hc48 (sok_loadB (U := Un) (t := .int .i64) (rs := [(35, .loc 10 0)]) [] [.p I6 v44.f_Kind] [.p .str v44.f_Text, .p .str v44.f_From, .p .str v44.f_To] (v := .p I6 v44.f_Kind) rfl rfl ty_3 o0 rfl rfl rfl rfl (.data (.one _ _)))) (.cons (sok_run rfl rfl hc48 (sok_cmp (U := Un) (rs := [(36, .p I6 v44.f_Kind)]) rfl rfl o0 (.int _ _ _) rfl)) (.cons (sok_run rfl rfl hc48 (mv (U := Un) (v := .p .bool ((v44.f_Kind == 0) : Bool)) rfl rfl)) (.cons (sok_skip rfl rfl hc49) (.cons (sok_skip rfl rfl hc49) (.cons (sok_skip rfl rfl hc49) (.cons (sok_run rfl rfl hc48 (sok_pickT (U := Un) (rs := [(38, .p .bool ((v44.f_Kind == 0) : Bool))]) rfl rfl o0 hc49 (.bool _ _))) (.cons (sok_pickT (U := Un) (rs := [(34, .p .bool v33), (42, .p .bool true)]) rfl rfl o0 hc48 o1) (.cons (mva (U := Un) (v := .p .bool true) rfl rfl) .nil)))))))))))) (by kernel_rfl) (by kernel_rfl) (by kernel_rfl) (Conv.refl (U := Un) _) ?_
                            refine thenQ_normal ?_
                            exact ⟨true, h, rfl⟩
                          · replace h := ite_f hc49 h
                            refine WpC.reg (U := Un) (st1 := ⟨[(0, .p (.list (.list (.named 3))) a0), (1, .p (.list (.list (.named 3))) a1), (6, .p (.list (.named 3)) v16), (7, .p .str v32), (8, .p .bool ((v44.f_Kind == 1) : Bool)), (10, .loc 10 0), (21, .p (.list (.list (.named 3))) a0), (22, .p I6 ((a0.length : Int) : Int)), (23, .p I6 v10), (27, .p (.list (.named 3)) v16), (28, .p I6 ((v16.length : Int) : Int)), (29, .p I6 v34)], [(10, .box [.p I6 v44.f_Kind, .p .str v44.f_Text, .p .str v44.f_From, .p .str v44.f_To])]⟩) [0, 1, 6, 7, 8, 10, 21, 22, 23, 27, 28, 29] [10] hN (.cons (mv (U := Un) (v := .p .bool v33) rfl rfl) (.cons (mv (U := Un) (v := .p .bool v33) rfl rfl) (.cons (sok_run rfl rfl hc48 (sok_fieldB (U := Un) (rs := [(10, .loc 10 0)]) rfl rfl fd_42_0 (by decide) o0)) (.cons (sok_run rfl rfl hc48 (sok_loadB (U := Un) (t := .int .i64) (rs := [(35, .loc 10 0)]) [] [.p I6 v44.f_Kind] [.p .str v44.f_Text, .p .str v44.f_From, .p .str v44.f_To] (v := .p I6 v44.f_Kind) rfl rfl ty_3 o0 rfl rfl rfl rfl (.data (.one _ _)))) (.cons (sok_run rfl rfl hc48 (sok_cmp (U := Un) (rs := [(36, .p I6 v44.f_Kind)]) rfl rfl o0 (.int _ _ _) rfl)) (.cons (sok_run rfl rfl hc48 (mv (U := Un) (v := .p .bool ((v44.f_Kind == 0) : Bool)) rfl rfl)) (.cons (sok_run rfl rfl hc49 (sok_fieldB (U := Un) (rs := [(10, .loc 10 0)]) rfl rfl fd_42_0 (by decide) o0)) (.cons (sok_run rfl rfl hc49 (sok_loadB (U := Un) (t := .int .i64) (rs := [(39, .loc 10 0)]) [] [.p I6 v44.f_Kind] [.p .str v44.f_Text, .p .str v44.f_From, .p .str v44.f_To] (v := .p I6 v44.f_Kind) rfl rfl ty_3 o0 rfl rfl rfl rfl (.data (.one _ _)))) (.cons (sok_run rfl rfl hc49 (sok_cmp (U := Un) (rs := [(40, .p I6 v44.f_Kind)]) rfl rfl o0 (.int _ _ _) rfl)) (.cons (sok_run rfl rfl hc48 (sok_pickF (U := Un) (rs := [(38, .p .bool ((v44.f_Kind == 0) : Bool)), (41, .p .bool ((v44.f_Kind == 1) : Bool))]) rfl rfl o0 hc49 o1)) (.cons (sok_pickT (U := Un) (rs := [(34, .p .bool v33), (42, .p .bool ((v44.f_Kind == 1) : Bool))]) rfl rfl o0 hc48 o1) (.cons (mva (U := Un) (v := .p .bool ((v44.f_Kind == 1) : Bool)) rfl rfl) .nil)))))))))))) (by kernel_rfl) (by kernel_rfl) (by kernel_rfl) (Conv.refl (U := Un) _) ?_
                            refine thenQ_normal ?_
                            exact ⟨(v44.f_Kind == 1), h, rfl⟩
                        · replace h := ite_f hc48 h
                          refine WpC.reg (U := Un) (st1 := ⟨[(0, .p (.list (.list (.named 3))) a0), (1, .p (.list (.list (.named 3))) a1), (6, .p (.list (.named 3)) v16), (7, .p .str v32), (8, .p .bool false), (10, .loc 10 0), (21, .p (.list (.list (.named 3))) a0), (22, .p I6 ((a0.length : Int) : Int)), (23, .p I6 v10), (27, .p (.list (.named 3)) v16), (28, .p I6 ((v16.length : Int) : Int)), (29, .p I6 v34)], [(10, .box [.p I6 v44.f_Kind, .p .str v44.f_Text, .p .str v44.f_From, .p .str v44.f_To])]⟩) [0, 1, 6, 7, 8, 10, 21, 22, 23, 27, 28, 29] [10] hN (.cons (mv (U := Un) (v := .p .bool v33) rfl rfl) (.cons (mv (U := Un) (v := .p .bool v33) rfl rfl) (.cons (sok_skip rfl rfl hc48) (.cons (sok_skip rfl rfl hc48) (.cons (sok_skip rfl rfl hc48) (.cons (sok_skip rfl rfl hc48) (.cons (sok_skipU rfl rfl) (.cons (sok_skipU rfl rfl) (.cons (sok_skipU rfl rfl) (.cons (sok_skip rfl rfl hc48) (.cons (sok_pickF (U := Un) (rs := [(34, .p .bool v33)]) rfl rfl o0 hc48 (.bool _ _)) (.cons (mva (U := Un) (v := .p .bool false) rfl rfl) .nil)))))))))))) (by kernel_rfl) (by kernel_rfl) (by kernel_rfl) (Conv.refl (U := Un) _) ?_
                          refine thenQ_normal ?_
                          exact ⟨false, h, rfl⟩
                      · rintro _ ⟨v45, h, rfl⟩
                        unfold millwrightlaw13_LexTexts.j47 at h
                        obtain ⟨g46, h⟩ := if_some h
                        refine WpC.reg (U := Un) (st1 := ⟨[(0, .p (.list (.list (.named 3))) a0), (1, .p (.list (.list (.named 3))) a1), (6, .p (.list (.named 3)) v16), (7, .p .str ((v32 ++ v44.f_Text) : List UInt8)), (8, .p .bool v45), (21, .p (.list (.list (.named 3))) a0), (22, .p I6 ((a0.length : Int) : Int)), (23, .p I6 v10), (27, .p (.list (.named 3)) v16), (28, .p I6 ((v16.length : Int) : Int)), (29, .p I6 v34)], []⟩) [0, 1, 6, 7, 8, 21, 22, 23, 27, 28, 29] [] hN (.cons (mv (U := Un) (v := .p .str v32) rfl rfl) (.cons (sok_fieldB (U := Un) (rs := [(10, .loc 10 0)]) rfl rfl fd_42_1 (by decide) o0) (.cons (sok_loadB (U := Un) (t := .str) (rs := [(45, .loc 10 1)]) [.p I6 v44.f_Kind] [.p .str v44.f_Text] [.p .str v44.f_From, .p .str v44.f_To] (v := .p .str v44.f_Text) rfl rfl ty_9 o0 rfl rfl rfl rfl (.data (.one _ _))) (.cons (sok_cat (U := Un) (rs := [(44, .p .str v32), (46, .p .str v44.f_Text)]) rfl rfl o0 o1 g46) (.cons (mva (U := Un) (v := .p .str ((v32 ++ v44.f_Text) : List UInt8)) rfl rfl) .nil))))) (by kernel_rfl) (by kernel_rfl) (by kernel_rfl) (Conv.refl (U := Un) _) ?_
                        refine blockQ_normal ?_
                        refine thenQ_normal ?_
                        exact ⟨(v32 ++ v44.f_Text), v45, h, rfl⟩
                    · rintro _ ⟨v41, v42, h, rfl⟩
                      unfold millwrightlaw13_LexTexts.j43 at h
                      refine WpC.reg (U := Un) (st1 := ⟨[(0, .p (.list (.list (.named 3))) a0), (1, .p (.list (.list (.named 3))) a1), (6, .p (.list (.named 3)) v16), (7, .p .str v41), (8, .p .bool v42), (21, .p (.list (.list (.named 3))) a0), (22, .p I6 ((a0.length : Int) : Int)), (23, .p I6 v10), (27, .p (.list (.named 3)) v16), (28, .p I6 ((v16.length : Int) : Int)), (29, .p I6 ((IntKind.i64.wrap (v34 + 1)) : Int))], []⟩) [0, 1, 6, 7, 8, 21, 22, 23, 27, 28, 29] [] hN (.cons (sok_arith (U := Un) (rs := [(29, .p I6 v34)]) rfl rfl o0 (.int _ _ _) rfl) (.cons (mv (U := Un) (v := .p I6 ((IntKind.i64.wrap (v34 + 1)) : Int)) rfl rfl) .nil)) (by kernel_rfl) (by kernel_rfl) (by kernel_rfl) (Conv.refl (U := Un) _) ?_
                      refine thenQ_normal ?_
                      exact ⟨n, Nat.lt_succ_self n, v41, v42, (IntKind.i64.wrap (v34 + 1)), h, rfl⟩
                  · replace h := ite_f hc40 h
                    refine WpC.conv (Conv.keep (U := Un) (b := ⟨[(0, .p (.list (.list (.named 3))) a0), (1, .p (.list (.list (.named 3))) a1), (6, .p (.list (.named 3)) v16), (7, .p .str v32), (8, .p .bool v33), (21, .p (.list (.list (.named 3))) a0), (22, .p I6 ((a0.length : Int) : Int)), (23, .p I6 v10)], []⟩) [0, 1, 6, 7, 8, 21, 22, 23] [] (by kernel_rfl)) (WpC.exit ?_)
                    refine thenQ_exit ?_
                    have hq := Option.some.inj h
                    subst hq
                    refine thenQ_exit ?_
                    have h := hout39
                    refine blockQ_hit ?_
                    refine thenQ_normal ?_
                    exact ⟨v32, v33, h, rfl⟩
              · rintro _ ⟨v17, v18, h, rfl⟩
                unfold millwrightlaw13_LexTexts.j31 at h
                refine WpC.seqJ (U := Un) (fun st' => ∃ v19 : List UInt8, millwrightlaw13_LexTexts.j29 k (millwrightlaw13_LexTexts.l11 k a0 a1 n) a0 a1 v10 v16 v18 v19 = some o12 ∧ st' = ⟨[(0, .p (.list (.list (.named 3))) a0), (1, .p (.list (.list (.named 3))) a1), (6, .p (.list (.named 3)) v16), (7, .p .str v19), (8, .p .bool v18), (21, .p (.list (.list (.named 3))) a0), (22, .p I6 ((a0.length : Int) : Int)), (23, .p I6 v10)], []⟩) ?_ ?_
                · refine WpC.seq ?_
                  refine WpC.reg (U := Un) (st1 := ⟨[(0, .p (.list (.list (.named 3))) a0), (1, .p (.list (.list (.named 3))) a1), (6, .p (.list (.named 3)) v16), (7, .p .str v17), (8, .p .bool v18), (21, .p (.list (.list (.named 3))) a0), (22, .p I6 ((a0.length : Int) : Int)), (23, .p I6 v10), (50, .p .bool ((!v18) : Bool))], []⟩) [0, 1, 6, 7, 8, 21, 22, 23, 50] [] hN (.cons (mv (U := Un) (v := .p .bool v18) rfl rfl) (.cons (sok_not (U := Un) (rs := [(49, .p .bool v18)]) rfl rfl o0) .nil)) (by kernel_rfl) (by kernel_rfl) (by kernel_rfl) (Conv.refl (U := Un) _) ?_
                  refine thenQ_normal ?_
                  refine WpC.cond (U := Un) (b := (!v18)) (.tmp (.tail _ (.tail _ (.tail _ (.tail _ (.tail _ (.tail _ (.tail _ (.tail _ (.head _)))))))))) (fun hc30 => ?_) (fun hc30 => ?_)
                  · replace h := ite_t hc30 h
                    refine WpC.reg (U := Un) (st1 := ⟨[(0, .p (.list (.list (.named 3))) a0), (1, .p (.list (.list (.named 3))) a1), (6, .p (.list (.named 3)) v16), (7, .p .str (([] : List UInt8) : List UInt8)), (8, .p .bool v18), (21, .p (.list (.list (.named 3))) a0), (22, .p I6 ((a0.length : Int) : Int)), (23, .p I6 v10)], []⟩) [0, 1, 6, 7, 8, 21, 22, 23] [] hN (.cons (sok_move (U := Un) (rs := []) rfl (.inr rfl) (.str _ _)) .nil) (by kernel_rfl) (by kernel_rfl) (by kernel_rfl) (Conv.refl (U := Un) _) ?_
                    refine thenQ_normal ?_
                    exact ⟨([] : List UInt8), h, rfl⟩
                  · replace h := ite_f hc30 h
                    refine WpC.conv (Conv.keep (U := Un) (b := ⟨[(0, .p (.list (.list (.named 3))) a0), (1, .p (.list (.list (.named 3))) a1), (6, .p (.list (.named 3)) v16), (7, .p .str v17), (8, .p .bool v18), (21, .p (.list (.list (.named 3))) a0), (22, .p I6 ((a0.length : Int) : Int)), (23, .p I6 v10)], []⟩) [0, 1, 6, 7, 8, 21, 22, 23] [] (by kernel_rfl)) (WpC.skip ?_)
                    refine thenQ_normal ?_
                    exact ⟨v17, h, rfl⟩
                · rintro _ ⟨v19, h, rfl⟩
                  unfold millwrightlaw13_LexTexts.j29 at h
                  refine WpC.seq ?_
                  obtain ⟨v20, hv20, h⟩ := bind_some h
                  refine WpC.reg (U := Un) (st1 := ⟨[(0, .p (.list (.list (.named 3))) a0), (1, .p (.list (.list (.named 3))) a1), (6, .p (.list (.named 3)) v16), (7, .p .str v19), (8, .p .bool v18), (11, .p .str v20.1), (12, .p .bool v20.2), (21, .p (.list (.list (.named 3))) a0), (22, .p I6 ((a0.length : Int) : Int)), (23, .p I6 v10)], []⟩) [0, 1, 6, 7, 8, 11, 12, 21, 22, 23] [] hN (.cons (mv (U := Un) (v := .p (.list (.named 3)) v16) rfl rfl) (.cons (sok_callV (U := Un) (rs := [(52, .p (.list (.named 3)) v16)]) (vw := []) rfl rfl (.func _) hb_19 (lex_Literal.ok O hO k v16 v20 hv20) (.cons o0 .nil) (.cons (.same _) .nil) (by simp) (.inl rfl)) (.cons (mv (U := Un) (v := .tup [.p .str v20.1, .p .bool v20.2]) rfl rfl) (.cons (sok_extract (U := Un) (rs := [(51, .tup [.p .str v20.1, .p .bool v20.2])]) rfl rfl o0 rfl) (.cons (sok_extract (U := Un) (rs := [(51, .tup [.p .str v20.1, .p .bool v20.2])]) rfl rfl o0 rfl) (.cons (mva (U := Un) (v := .p .str v20.1) rfl rfl) (.cons (mva (U := Un) (v := .p .bool v20.2) rfl rfl) .nil))))))) (by kernel_rfl) (by kernel_rfl) (by kernel_rfl) (Conv.refl (U := Un) _) ?_
                  refine thenQ_normal ?_
                  refine WpC.seqJ (U := Un) (fun st' => ∃ v21 : Bool, millwrightlaw13_LexTexts.j23 k (millwrightlaw13_LexTexts.l11 k a0 a1 n) a0 a1 v10 v21 = some o12 ∧ st' = ⟨[(0, .p (.list (.list (.named 3))) a0), (1, .p (.list (.list (.named 3))) a1), (21, .p (.list (.list (.named 3))) a0), (22, .p I6 ((a0.length : Int) : Int)), (23, .p I6 v10), (71, .p .bool v21)], []⟩) ?_ ?_
                  · obtain ⟨v24, hv24, h⟩ := bind_some h
                    obtain ⟨v25, hv25, h⟩ := bind_some h
                    obtain ⟨v26, hv26, h⟩ := bind_some h
                    rcases bool_cases (!(v24 == v26)) with hc27 | hc27
                    · replace h := ite_t hc27 h
                      refine WpC.reg (U := Un) (st1 := ⟨[(0, .p (.list (.list (.named 3))) a0), (1, .p (.list (.list (.named 3))) a1), (21, .p (.list (.list (.named 3))) a0), (22, .p I6 ((a0.length : Int) : Int)), (23, .p I6 v10), (71, .p .bool true)], []⟩) [0, 1, 21, 22, 23, 71] [] hN (.cons (mv (U := Un) (v := .p (.list (.named 3)) v16) rfl rfl) (.cons (sok_callV (U := Un) (rs := [(56, .p (.list (.named 3)) v16)]) (vw := []) rfl rfl (.func _) hb_16 (lex_Text.ok O hO k v16 v24 hv24) (.cons o0 .nil) (.cons (.same _) .nil) (by simp) (.inl rfl)) (.cons (mv (U := Un) (v := .p (.list (.named 3)) v16) rfl rfl) (.cons (sok_callV (U := Un) (rs := [(58, .p (.list (.named 3)) v16)]) (vw := []) rfl rfl (.func _) hb_21 (millwrightlaw13_Word.ok O hO k v16 v25 hv25) (.cons o0 .nil) (.cons (.same _) .nil) (by simp) (.inl rfl)) (.cons (sok_callV (U := Un) (rs := [(59, .p (.list (.named 3)) v25)]) (vw := []) rfl rfl (.func _) hb_20 (millwrightref13_Text.ok O hO k v25 v26 hv26) (.cons o0 .nil) (.cons (.same _) .nil) (by simp) (.inl rfl)) (.cons (sok_cmpS (U := Un) (rs := [(57, .p .str v24), (60, .p .str v26)]) rfl rfl o0 o1 rfl) (.cons (mv (U := Un) (v := .p .bool ((!(v24 == v26)) : Bool)) rfl rfl) (.cons (sok_skip rfl rfl hc27) (.cons (sok_skip rfl rfl hc27) (.cons (sok_skip rfl rfl hc27) (.cons (sok_pickT (U := Un) (rs := [(62, .p .bool ((!(v24 == v26)) : Bool))]) rfl rfl o0 hc27 (.bool _ _)) (.cons (mv (U := Un) (v := .p .bool true) rfl rfl) (.cons (sok_skip rfl rfl rfl) (.cons (sok_skip rfl rfl rfl) (.cons (sok_skip rfl rfl rfl) (.cons (sok_pickT (U := Un) (rs := [(67, .p .bool true)]) rfl rfl o0 rfl (.bool _ _)) .nil)))))))))))))))) (by kernel_rfl) (by kernel_rfl) (by kernel_rfl) (Conv.refl (U := Un) _) ?_
                      refine thenQ_normal ?_
                      exact ⟨true, h, rfl⟩
                    · replace h := ite_f hc27 h
                      rcases bool_cases (!(v20.2 == v18)) with hc28 | hc28
                      · replace h := ite_t hc28 h
                        refine WpC.reg (U := Un) (st1 := ⟨[(0, .p (.list (.list (.named 3))) a0), (1, .p (.list (.list (.named 3))) a1), (21, .p (.list (.list (.named 3))) a0), (22, .p I6 ((a0.length : Int) : Int)), (23, .p I6 v10), (71, .p .bool true)], []⟩) [0, 1, 21, 22, 23, 71] [] hN (.cons (mv (U := Un) (v := .p (.list (.named 3)) v16) rfl rfl) (.cons (sok_callV (U := Un) (rs := [(56, .p (.list (.named 3)) v16)]) (vw := []) rfl rfl (.func _) hb_16 (lex_Text.ok O hO k v16 v24 hv24) (.cons o0 .nil) (.cons (.same _) .nil) (by simp) (.inl rfl)) (.cons (mv (U := Un) (v := .p (.list (.named 3)) v16) rfl rfl) (.cons (sok_callV (U := Un) (rs := [(58, .p (.list (.named 3)) v16)]) (vw := []) rfl rfl (.func _) hb_21 (millwrightlaw13_Word.ok O hO k v16 v25 hv25) (.cons o0 .nil) (.cons (.same _) .nil) (by simp) (.inl rfl)) (.cons (sok_callV (U := Un) (rs := [(59, .p (.list (.named 3)) v25)]) (vw := []) rfl rfl (.func _) hb_20 (millwrightref13_Text.ok O hO k v25 v26 hv26) (.cons o0 .nil) (.cons (.same _) .nil) (by simp) (.inl rfl)) (.cons (sok_cmpS (U := Un) (rs := [(57, .p .str v24), (60, .p .str v26)]) rfl rfl o0 o1 rfl) (.cons (mv (U := Un) (v := .p .bool ((!(v24 == v26)) : Bool)) rfl rfl) (.cons (sok_run rfl rfl hc27 (mv (U := Un) (v := .p .bool v20.2) rfl rfl)) (.cons (sok_run rfl rfl hc27 (mv (U := Un) (v := .p .bool v18) rfl rfl)) (.cons (sok_run rfl rfl hc27 (sok_neB (U := Un) (rs := [(63, .p .bool v20.2), (64, .p .bool v18)]) rfl rfl Tryd.underlying4 o0 o1)) (.cons (sok_pickF (U := Un) (rs := [(62, .p .bool ((!(v24 == v26)) : Bool)), (65, .p .bool ((!(v20.2 == v18)) : Bool))]) rfl rfl o0 hc27 o1) (.cons (mv (U := Un) (v := .p .bool ((!(v20.2 == v18)) : Bool)) rfl rfl) (.cons (sok_skip rfl rfl hc28) (.cons (sok_skip rfl rfl hc28) (.cons (sok_skip rfl rfl hc28) (.cons (sok_pickT (U := Un) (rs := [(67, .p .bool ((!(v20.2 == v18)) : Bool))]) rfl rfl o0 hc28 (.bool _ _)) .nil)))))))))))))))) (by kernel_rfl) (by kernel_rfl) (by kernel_rfl) (Conv.refl (U := Un) _) ?_
                        refine thenQ_normal ?_
                        exact ⟨true, h, rfl⟩
                      · replace h := ite_f hc28 h
                        refine WpC.reg (U := Un) (st1 := ⟨[(0, .p (.list (.list (.named 3))) a0), (1, .p (.list (.list (.named 3))) a1), (21, .p (.list (.list (.named 3))) a0), (22, .p I6 ((a0.length : Int) : Int)), (23, .p I6 v10), (71, .p .bool ((!(v20.1 == v19)) : Bool))], []⟩) [0, 1, 21, 22, 23, 71] [] hN (.cons (mv (U := Un) (v := .p (.list (.named 3)) v16) rfl rfl) (.cons (sok_callV (U := Un) (rs := [(56, .p (.list (.named 3)) v16)]) (vw := []) rfl rfl (.func _) hb_16 (lex_Text.ok O hO k v16 v24 hv24) (.cons o0 .nil) (.cons (.same _) .nil) (by simp) (.inl rfl)) (.cons (mv (U := Un) (v := .p (.list (.named 3)) v16) rfl rfl) (.cons (sok_callV (U := Un) (rs := [(58, .p (.list (.named 3)) v16)]) (vw := []) rfl rfl (.func _) hb_21 (millwrightlaw13_Word.ok O hO k v16 v25 hv25) (.cons o0 .nil) (.cons (.same _) .nil) (by simp) (.inl rfl)) (.cons (sok_callV (U := Un) (rs := [(59, .p (.list (.named 3)) v25)]) (vw := []) rfl rfl (.func _) hb_20 (millwrightref13_Text.ok O hO k v25 v26 hv26) (.cons o0 .nil) (.cons (.same _) .nil) (by simp) (.inl rfl)) (.cons (sok_cmpS (U := Un) (rs := [(57, .p .str v24), (60, .p .str v26)]) rfl rfl o0 o1 rfl) (.cons (mv (U := Un) (v := .p .bool ((!(v24 == v26)) : Bool)) rfl rfl) (.cons (sok_run rfl rfl hc27 (mv (U := Un) (v := .p .bool v20.2) rfl rfl)) (.cons (sok_run rfl rfl hc27 (mv (U := Un) (v := .p .bool v18) rfl rfl)) (.cons (sok_run rfl rfl hc27 (sok_neB (U := Un) (rs := [(63, .p .bool v20.2), (64, .p .bool v18)]) rfl rfl Tryd.underlying4 o0 o1)) (.cons (sok_pickF (U := Un) (rs := [(62, .p .bool ((!(v24 == v26)) : Bool)), (65, .p .bool ((!(v20.2 == v18)) : Bool))]) rfl rfl o0 hc27 o1) (.cons (mv (U := Un) (v := .p .bool ((!(v20.2 == v18)) : Bool)) rfl rfl) (.cons (sok_run rfl rfl hc28 (mv (U := Un) (v := .p .str v20.1) rfl rfl)) (.cons (sok_run rfl rfl hc28 (mv (U := Un) (v := .p .str v19) rfl rfl)) (.cons (sok_run rfl rfl hc28 (sok_cmpS (U := Un) (rs := [(68, .p .str v20.1), (69, .p .str v19)]) rfl rfl o0 o1 rfl)) (.cons (sok_pickF (U := Un) (rs := [(67, .p .bool ((!(v20.2 == v18)) : Bool)), (70, .p .bool ((!(v20.1 == v19)) : Bool))]) rfl rfl o0 hc28 o1) .nil)))))))))))))))) (by kernel_rfl) (by kernel_rfl) (by kernel_rfl) (Conv.refl (U := Un) _) ?_
                        refine thenQ_normal ?_
                        exact ⟨(!(v20.1 == v19)), h, rfl⟩
                  · rintro _ ⟨v21, h, rfl⟩
                    unfold millwrightlaw13_LexTexts.j23 at h
                    refine WpC.cond (U := Un) (b := v21) (.tmp (.tail _ (.tail _ (.tail _ (.tail _ (.tail _ (.head _))))))) (fun hc22 => ?_) (fun hc22 => ?_)
                    · replace h := ite_t hc22 h
                      refine WpC.seq ?_
                      refine WpC.reg (U := Un) (st1 := ⟨[(4, .p .bool false)], []⟩) [4] [] hN (.cons (sok_move (U := Un) (rs := []) rfl (.inr rfl) (.bool _ _)) .nil) (by kernel_rfl) (by kernel_rfl) (by kernel_rfl) (Conv.refl (U := Un) _) ?_
                      refine thenQ_normal ?_
                      refine WpC.ret ?_
                      refine blockQ_ret ?_
                      refine thenQ_ret ?_
                      have hq := Option.some.inj h
                      subst hq
                      refine thenQ_ret ?_
                      have h := hout13
                      refine blockQ_ret ?_
                      refine thenQ_ret ?_
                      have hq := Option.some.inj h
                      subst hq
                      exact ends_ret (retV_1 rfl (.head _)) ain_nil
                    · replace h := ite_f hc22 h
                      refine WpC.conv (Conv.keep (U := Un) (b := ⟨[(0, .p (.list (.list (.named 3))) a0), (1, .p (.list (.list (.named 3))) a1), (21, .p (.list (.list (.named 3))) a0), (22, .p I6 ((a0.length : Int) : Int)), (23, .p I6 v10)], []⟩) [0, 1, 21, 22, 23] [] (by kernel_rfl)) (WpC.skip ?_)
                      refine blockQ_normal ?_
                      refine thenQ_normal ?_
                      exact ⟨h, rfl⟩
            · rintro _ ⟨h, rfl⟩
              unfold millwrightlaw13_LexTexts.j15 at h
              refine WpC.reg (U := Un) (st1 := ⟨[(0, .p (.list (.list (.named 3))) a0), (1, .p (.list (.list (.named 3))) a1), (21, .p (.list (.list (.named 3))) a0), (22, .p I6 ((a0.length : Int) : Int)), (23, .p I6 ((IntKind.i64.wrap (v10 + 1)) : Int))], []⟩) [0, 1, 21, 22, 23] [] hN (.cons (sok_arith (U := Un) (rs := [(23, .p I6 v10)]) rfl rfl o0 (.int _ _ _) rfl) (.cons (mv (U := Un) (v := .p I6 ((IntKind.i64.wrap (v10 + 1)) : Int)) rfl rfl) .nil)) (by kernel_rfl) (by kernel_rfl) (by kernel_rfl) (Conv.refl (U := Un) _) ?_
              refine thenQ_normal ?_
              exact ⟨n, Nat.lt_succ_self n, (IntKind.i64.wrap (v10 + 1)), h, rfl⟩
          · replace h := ite_f hc14 h
            refine WpC.conv (Conv.keep (U := Un) (b := ⟨[(0, .p (.list (.list (.named 3))) a0), (1, .p (.list (.list (.named 3))) a1)], []⟩) [0, 1] [] (by kernel_rfl)) (WpC.exit ?_)
            refine thenQ_exit ?_
            have hq := Option.some.inj h
            subst hq
            refine thenQ_exit ?_
            have h := hout13
            refine blockQ_hit ?_
            refine thenQ_normal ?_
            exact ⟨h, rfl⟩
      · rintro _ ⟨h, rfl⟩
        unfold millwrightlaw13_LexTexts.j9 at h
        refine WpC.seq ?_
        obtain ⟨v3, hv3, h⟩ := bind_some h
        obtain ⟨v4, hv4, h⟩ := bind_some h
        obtain ⟨v5, hv5, h⟩ := bind_some h
        obtain ⟨v6, hv6, h⟩ := bind_some h
        rcases bool_cases (v3 == v6) with hc7 | hc7
        · replace h := ite_t hc7 h
          obtain ⟨v8, hv8, h⟩ := bind_some h
          refine WpC.reg (U := Un) (st1 := ⟨[(4, .p .bool v8)], []⟩) [4] [] hN (.cons (mv (U := Un) (v := .p (.list (.list (.named 3))) a0) rfl rfl) (.cons (mv (U := Un) (v := .p (.list (.list (.named 3))) a1) rfl rfl) (.cons (sok_callV (U := Un) (rs := [(73, .p (.list (.list (.named 3))) a0), (74, .p (.list (.list (.named 3))) a1)]) (vw := []) rfl rfl (.func _) hb_17 (lex_Same.ok O hO k a0 a1 v3 hv3) (.cons o0 (.cons o1 .nil)) (.cons (.same _) (.cons (.same _) .nil)) (by simp) (.inl rfl)) (.cons (mv (U := Un) (v := .p (.list (.list (.named 3))) a0) rfl rfl) (.cons (sok_callV (U := Un) (rs := [(76, .p (.list (.list (.named 3))) a0)]) (vw := []) rfl rfl (.func _) hb_23 (millwrightlaw13_Of.ok O hO k a0 v4 hv4) (.cons o0 .nil) (.cons (.same _) .nil) (by simp) (.inl rfl)) (.cons (mv (U := Un) (v := .p (.list (.list (.named 3))) a1) rfl rfl) (.cons (sok_callV (U := Un) (rs := [(78, .p (.list (.list (.named 3))) a1)]) (vw := []) rfl rfl (.func _) hb_23 (millwrightlaw13_Of.ok O hO k a1 v5 hv5) (.cons o0 .nil) (.cons (.same _) .nil) (by simp) (.inl rfl)) (.cons (sok_callV (U := Un) (rs := [(77, .p (.list (.list (.named 3))) v4), (79, .p (.list (.list (.named 3))) v5)]) (vw := []) rfl rfl (.func _) hb_22 (millwrightref13_Same.ok O hO k v4 v5 v6 hv6) (.cons o0 (.cons o1 .nil)) (.cons (.same _) (.cons (.same _) .nil)) (by simp) (.inl rfl)) (.cons (sok_eqB (U := Un) (rs := [(75, .p .bool v3), (80, .p .bool v6)]) rfl rfl Tryd.underlying4 o0 o1) (.cons (mv (U := Un) (v := .p .bool ((v3 == v6) : Bool)) rfl rfl) (.cons (sok_run rfl rfl hc7 (mv (U := Un) (v := .p (.list (.list (.named 3))) a0) rfl rfl)) (.cons (sok_run rfl rfl hc7 (mv (U := Un) (v := .p (.list (.list (.named 3))) a0) rfl rfl)) (.cons (sok_run rfl rfl hc7 (sok_callV (U := Un) (rs := [(83, .p (.list (.list (.named 3))) a0), (84, .p (.list (.list (.named 3))) a0)]) (vw := []) rfl rfl (.func _) hb_17 (lex_Same.ok O hO k a0 a0 v8 hv8) (.cons o0 (.cons o1 .nil)) (.cons (.same _) (.cons (.same _) .nil)) (by simp) (.inl rfl))) (.cons (sok_pickT (U := Un) (rs := [(82, .p .bool ((v3 == v6) : Bool)), (85, .p .bool v8)]) rfl rfl o0 hc7 o1) (.cons (mva (U := Un) (v := .p .bool v8) rfl rfl) .nil))))))))))))))) (by kernel_rfl) (by kernel_rfl) (by kernel_rfl) (Conv.refl (U := Un) _) ?_
          refine thenQ_normal ?_
          refine WpC.ret ?_
          have hq := Option.some.inj h
          subst hq
          exact ends_ret (retV_1 rfl (.head _)) ain_nil
        · replace h := ite_f hc7 h
          refine WpC.reg (U := Un) (st1 := ⟨[(4, .p .bool false)], []⟩) [4] [] hN (.cons (mv (U := Un) (v := .p (.list (.list (.named 3))) a0) rfl rfl) (.cons (mv (U := Un) (v := .p (.list (.list (.named 3))) a1) rfl rfl) (.cons (sok_callV (U := Un) (rs := [(73, .p (.list (.list (.named 3))) a0), (74, .p (.list (.list (.named 3))) a1)]) (vw := []) rfl rfl (.func _) hb_17 (lex_Same.ok O hO k a0 a1 v3 hv3) (.cons o0 (.cons o1 .nil)) (.cons (.same _) (.cons (.same _) .nil)) (by simp) (.inl rfl)) (.cons (mv (U := Un) (v := .p (.list (.list (.named 3))) a0) rfl rfl) (.cons (sok_callV (U := Un) (rs := [(76, .p (.list (.list (.named 3))) a0)]) (vw := []) rfl rfl (.func _) hb_23 (millwrightlaw13_Of.ok O hO k a0 v4 hv4) (.cons o0 .nil) (.cons (.same _) .nil) (by simp) (.inl rfl)) (.cons (mv (U := Un) (v := .p (.list (.list (.named 3))) a1) rfl rfl) (.cons (sok_callV (U := Un) (rs := [(78, .p (.list (.list (.named 3))) a1)]) (vw := []) rfl rfl (.func _) hb_23 (millwrightlaw13_Of.ok O hO k a1 v5 hv5) (.cons o0 .nil) (.cons (.same _) .nil) (by simp) (.inl rfl)) (.cons (sok_callV (U := Un) (rs := [(77, .p (.list (.list (.named 3))) v4), (79, .p (.list (.list (.named 3))) v5)]) (vw := []) rfl rfl (.func _) hb_22 (millwrightref13_Same.ok O hO k v4 v5 v6 hv6) (.cons o0 (.cons o1 .nil)) (.cons (.same _) (.cons (.same _) .nil)) (by simp) (.inl rfl)) (.cons (sok_eqB (U := Un) (rs := [(75, .p .bool v3), (80, .p .bool v6)]) rfl rfl Tryd.underlying4 o0 o1) (.cons (mv (U := Un) (v := .p .bool ((v3 == v6) : Bool)) rfl rfl) (.cons (sok_skip rfl rfl hc7) (.cons (sok_skip rfl rfl hc7) (.cons (sok_skip rfl rfl hc7) (.cons (sok_pickF (U := Un) (rs := [(82, .p .bool ((v3 == v6) : Bool))]) rfl rfl o0 hc7 (.bool _ _)) (.cons (mva (U := Un) (v := .p .bool false) rfl rfl) .nil))))))))))))))) (by kernel_rfl) (by kernel_rfl) (by kernel_rfl) (Conv.refl (U := Un) _) ?_
          refine thenQ_normal ?_
          refine WpC.ret ?_
          have hq := Option.some.inj h
          subst hq
          exact ends_ret (retV_1 rfl (.head _)) ain_nil

end Go.Proofs.YtnbnfjgedinlbabDoor
