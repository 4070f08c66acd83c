/- A part of the proof of a given law: LTC4. Own work, printed in part by a program of mine. -/
import Derived.Test.YtnbnfjgedinlbabDoorK2LTC3
namespace Go.Proofs.YtnbnfjgedinlbabDoor
open Go Go.AM
set_option linter.unusedVariables false
set_option linter.unusedSimpArgs false
set_option maxRecDepth 100000
theorem lex_Text.ok (O : Out) (hO : GOkL O) (k : Nat) (a0 : List T_lex_Piece) (out : List UInt8) (h : lex_Text.f k a0 = some out) : COk Un O Tryd.prog 16 { ar := [.p (.list (.named 3)) a0], r := .p .str out } := by
  refine cok_of_wp Tryd.func16 rfl (k := 18) rfl (Nat.le_of_ble_eq_true rfl) (namesOk_pure rfl rfl rfl rfl) ?_
  intro B hN
  refine WpC.conv (Conv.keep (U := Un) (b := ⟨[(0, .p (.list (.named 3)) a0)], []⟩) [0] [] (by kernel_rfl)) ?_
  unfold lex_Text.f at h
  refine WpC.seq ?_
  refine WpC.reg (U := Un) (st1 := ⟨[(0, .p (.list (.named 3)) a0)], []⟩) [0] [] hN (.cons (sok_move (U := Un) (rs := []) rfl (.inr rfl) (.str _ _)) .nil) (by kernel_rfl) (by kernel_rfl) (by kernel_rfl) (Conv.refl (U := Un) _) ?_
  refine thenQ_normal ?_
  refine WpC.seq ?_
  refine WpC.reg (U := Un) (st1 := ⟨[(0, .p (.list (.named 3)) a0), (3, .p .str (([] : List UInt8) : List UInt8))], []⟩) [0, 3] [] hN (.cons (sok_move (U := Un) (rs := []) rfl (.inr rfl) (.str _ _)) .nil) (by kernel_rfl) (by kernel_rfl) (by kernel_rfl) (Conv.refl (U := Un) _) ?_
  refine thenQ_normal ?_
  refine WpC.seqJ (U := Un) (fun st' => ∃ v1 : List UInt8, lex_Text.j2 k v1 = some out ∧ st' = ⟨[(3, .p .str v1)], []⟩) ?_ ?_
  · refine WpC.seq ?_
    refine WpC.reg (U := Un) (st1 := ⟨[(3, .p .str (([] : List UInt8) : List UInt8)), (6, .p (.list (.named 3)) a0), (7, .p I6 ((a0.length : Int) : Int)), (8, .p I6 (0 : Int))], []⟩) [3, 6, 7, 8] [] hN (.cons (mv (U := Un) (v := .p (.list (.named 3)) a0) rfl rfl) (.cons (sok_lenL (U := Un) (rs := [(6, .p (.list (.named 3)) a0)]) rfl rfl Tryd.underlying36 o0) (.cons (sok_move (U := Un) (rs := []) rfl (.inl rfl) (.int _ _ _)) .nil))) (by kernel_rfl) (by kernel_rfl) (by kernel_rfl) (Conv.refl (U := Un) _) ?_
    refine thenQ_normal ?_
    refine WpC.block ?_
    obtain ⟨o7, hlo7, h⟩ := bind_some h
    have hout8 := h
    clear h
    refine WpC.loop (U := Un) (fun n st' => ∃ v3 : List UInt8, ∃ v4 : Int, lex_Text.l5 k a0 n v3 v4 = some o7 ∧ st' = ⟨[(3, .p .str v3), (6, .p (.list (.named 3)) a0), (7, .p I6 ((a0.length : Int) : Int)), (8, .p I6 v4)], []⟩) k ⟨([] : List UInt8), 0, hlo7, rfl⟩ ?_
    clear hlo7
    rintro (_ | n) _ ⟨v3, v4, h, rfl⟩
    · cases h
    · rw [lex_Text.l5] at h
      refine WpC.seq ?_
      refine WpC.reg (U := Un) (st1 := ⟨[(3, .p .str v3), (6, .p (.list (.named 3)) a0), (7, .p I6 ((a0.length : Int) : Int)), (8, .p I6 v4), (9, .p .bool ((decide (v4 < (a0.length : Int))) : Bool))], []⟩) [3, 6, 7, 8, 9] [] hN (.cons (sok_cmp (U := Un) (rs := [(8, .p I6 v4), (7, .p I6 ((a0.length : Int) : Int))]) rfl rfl o0 o1 rfl) .nil) (by kernel_rfl) (by kernel_rfl) (by kernel_rfl) (Conv.refl (U := Un) _) ?_
      refine thenQ_normal ?_
      refine WpC.seq ?_
      refine WpC.cond (U := Un) (b := (decide (v4 < (a0.length : Int)))) (.tmp (.tail _ (.tail _ (.tail _ (.tail _ (.head _)))))) (fun hc9 => ?_) (fun hc9 => ?_)
      · replace h := ite_t hc9 h
        refine WpC.conv (Conv.keep (U := Un) (b := ⟨[(3, .p .str v3), (6, .p (.list (.named 3)) a0), (7, .p I6 ((a0.length : Int) : Int)), (8, .p I6 v4)], []⟩) [3, 6, 7, 8] [] (by kernel_rfl)) (WpC.skip ?_)
        refine thenQ_normal ?_
        refine WpC.seq ?_
        refine WpC.block ?_
        refine WpC.seq ?_
        obtain ⟨v10, hv10, h⟩ := bind_some h
        refine WpC.reg (U := Un) (st1 := ⟨[(3, .p .str v3), (5, .loc 5 0), (6, .p (.list (.named 3)) a0), (7, .p I6 ((a0.length : Int) : Int)), (8, .p I6 v4)], [(5, .box [.p I6 v10.f_Kind, .p .str v10.f_Text, .p .str v10.f_From, .p .str v10.f_To])]⟩) [3, 5, 6, 7, 8] [5] hN (.cons (sok_indexL (U := Un) (rs := [(6, .p (.list (.named 3)) a0), (8, .p I6 v4)]) rfl rfl sl_36 o0 o1 hv10) (.cons (sok_loadP (U := Un) (rs := [(10, .pp (.named 3) v10)]) rfl rfl ty_42 o0) (.cons (sok_allocZ (U := Un) (rs := []) (d := 5) (us := [.p I6 (0 : Int), .p .str ([] : List UInt8), .p .str ([] : List UInt8), .p .str ([] : List UInt8)]) (v := (.agg #[.int .i64 0, .string ByteArray.empty, .string ByteArray.empty, .string ByteArray.empty])) rfl rfl rfl (by kernel_rfl) rfl (.data (fun _ _ _ => .int _ _) (.data (fun _ _ _ => rd_str0) (.data (fun _ _ _ => rd_str0) (.data (fun _ _ _ => rd_str0) .nil)))) (by kernel_rfl)) (.cons (sok_storeB (U := Un) (rs := [(5, .loc 5 0), (11, .p (.named 3) v10)]) (v := .p (.named 3) v10) (mid' := [.p I6 v10.f_Kind, .p .str v10.f_Text, .p .str v10.f_From, .p .str v10.f_To]) [] [.p I6 (0 : Int), .p .str ([] : List UInt8), .p .str ([] : List UInt8), .p .str ([] : List UInt8)] [] rfl rfl rfl ty_42 o0 o1 (.data (.named (.pair (.one _ _) (.pair (.one _ _) (.pair (.one _ _) (.pair (.one _ _) .unit)))))) rfl rfl rfl rfl rfl rfl) .nil)))) (by kernel_rfl) (by kernel_rfl) (by kernel_rfl) (Conv.refl (U := Un) _) ?_
        refine thenQ_normal ?_
        obtain ⟨v11, hv11, h⟩ := bind_some h
        obtain ⟨g12, h⟩ := if_some h
        refine WpC.reg (U := Un) (st1 := ⟨[(3, .p .str ((v3 ++ v11) : List UInt8)), (6, .p (.list (.named 3)) a0), (7, .p I6 ((a0.length : Int) : Int)), (8, .p I6 v4)], []⟩) [3, 6, 7, 8] [] hN (.cons (mv (U := Un) (v := .p .str v3) rfl rfl) (.cons (sok_loadB (U := Un) (t := .named 3) (rs := [(5, .loc 5 0)]) [] [.p I6 v10.f_Kind, .p .str v10.f_Text, .p .str v10.f_From, .p .str v10.f_To] [] (v := .p (.named 3) ((T_lex_Piece.mk v10.f_Kind v10.f_Text v10.f_From v10.f_To) : T_lex_Piece)) rfl rfl ty_42 o0 rfl rfl rfl rfl (.data (.named (.pair (.one _ _) (.pair (.one _ _) (.pair (.one _ _) (.pair (.one _ _) .unit))))))) (.cons (sok_callV (U := Un) (rs := [(13, .p (.named 3) ((T_lex_Piece.mk v10.f_Kind v10.f_Text v10.f_From v10.f_To) : T_lex_Piece))]) (vw := []) rfl rfl (.func _) hb_48 (lex_Piece_text.ok O hO k (T_lex_Piece.mk v10.f_Kind v10.f_Text v10.f_From v10.f_To) v11 hv11) (.cons o0 .nil) (.cons (.same _) .nil) (by simp) (.inl rfl)) (.cons (sok_cat (U := Un) (rs := [(12, .p .str v3), (14, .p .str v11)]) rfl rfl o0 o1 g12) (.cons (mva (U := Un) (v := .p .str ((v3 ++ v11) : List UInt8)) rfl rfl) .nil))))) (by kernel_rfl) (by kernel_rfl) (by kernel_rfl) (Conv.refl (U := Un) _) ?_
        refine blockQ_normal ?_
        refine thenQ_normal ?_
        refine WpC.reg (U := Un) (st1 := ⟨[(3, .p .str ((v3 ++ v11) : List UInt8)), (6, .p (.list (.named 3)) a0), (7, .p I6 ((a0.length : Int) : Int)), (8, .p I6 ((IntKind.i64.wrap (v4 + 1)) : Int))], []⟩) [3, 6, 7, 8] [] hN (.cons (sok_arith (U := Un) (rs := [(8, .p I6 v4)]) rfl rfl o0 (.int _ _ _) rfl) (.cons (mv (U := Un) (v := .p I6 ((IntKind.i64.wrap (v4 + 1)) : Int)) rfl rfl) .nil)) (by kernel_rfl) (by kernel_rfl) (by kernel_rfl) (Conv.refl (U := Un) _) ?_
        refine thenQ_normal ?_
        exact ⟨n, Nat.lt_succ_self n, (v3 ++ v11), (IntKind.i64.wrap (v4 + 1)), h, rfl⟩
      · replace h := ite_f hc9 h
        refine WpC.conv (Conv.keep (U := Un) (b := ⟨[(3, .p .str v3)], []⟩) [3] [] (by kernel_rfl)) (WpC.exit ?_)
        refine thenQ_exit ?_
        have hq := Option.some.inj h
        subst hq
        refine thenQ_exit ?_
        have h := hout8
        refine blockQ_hit ?_
        refine thenQ_normal ?_
        exact ⟨v3, h, rfl⟩
  · rintro _ ⟨v1, h, rfl⟩
    unfold lex_Text.j2 at h
    refine WpC.seq ?_
    refine WpC.reg (U := Un) (st1 := ⟨[(2, .p .str v1)], []⟩) [2] [] hN (.cons (mv (U := Un) (v := .p .str v1) rfl rfl) (.cons (mva (U := Un) (v := .p .str v1) rfl rfl) .nil)) (by kernel_rfl) (by kernel_rfl) (by kernel_rfl) (Conv.refl (U := Un) _) ?_
    refine thenQ_normal ?_
    refine WpC.ret ?_
    have hq := Option.some.inj h
    subst hq
    exact ends_ret (retV_1 rfl (.head _)) ain_nil

theorem millwrightlaw13_Word.ok (O : Out) (hO : GOkL O) (k : Nat) (a0 : List T_lex_Piece) (out : List T_lex_Piece) (h : millwrightlaw13_Word.f k a0 = some out) : COk Un O Tryd.prog 21 { ar := [.p (.list (.named 3)) a0], r := .p (.list (.named 3)) out } := by
  refine cok_of_wp Tryd.func21 rfl (k := 19) rfl (Nat.le_of_ble_eq_true rfl) (namesOk_pure rfl rfl rfl rfl) ?_
  intro B hN
  refine WpC.conv (Conv.keep (U := Un) (b := ⟨[(0, .p (.list (.named 3)) a0)], []⟩) [0] [] (by kernel_rfl)) ?_
  unfold millwrightlaw13_Word.f at h
  refine WpC.seq ?_
  refine WpC.reg (U := Un) (st1 := ⟨[(0, .p (.list (.named 3)) a0)], []⟩) [0] [] hN (.cons (sok_move (U := Un) (rs := []) rfl (.inr rfl) (.lit _ _ rfl)) .nil) (by kernel_rfl) (by kernel_rfl) (by kernel_rfl) (Conv.refl (U := Un) _) ?_
  refine thenQ_normal ?_
  refine WpC.seq ?_
  refine WpC.reg (U := Un) (st1 := ⟨[(0, .p (.list (.named 3)) a0), (3, .vec 6 4 0 (([] : List T_lex_Piece).length))], [(6, .row 88 (.named 3) ([] : List T_lex_Piece) true)]⟩) [0, 3] [6] hN (.cons (sok_buildSlice (U := Un) (t := .named 3) (rs := []) (ys := []) (xs := ([] : List T_lex_Piece)) rfl rfl rfl rfl row_46 .nil (by decide)) (.cons (mva (U := Un) (v := .vec 6 4 0 (([] : List T_lex_Piece).length)) rfl rfl) .nil)) (by kernel_rfl) (by kernel_rfl) (by kernel_rfl) (Conv.cast (U := Un) (st' := ⟨[(0, .p (.list (.named 3)) a0), (3, .vec 6 4 0 0)], [(6, .row 88 (.named 3) ([] : List T_lex_Piece) true)]⟩) (by simp only [upd_length, List.length_nil, List.length_replicate])) ?_
  refine thenQ_normal ?_
  refine WpC.seqJ (U := Un) (fun st' => ∃ v1 : List T_lex_Piece, millwrightlaw13_Word.j2 k v1 = some out ∧ st' = ⟨[(3, .vec 1003 4 0 v1.length)], [(1003, .row 88 (.named 3) v1 false)]⟩) ?_ ?_
  · refine WpC.seq ?_
    refine WpC.reg (U := Un) (st1 := ⟨[(3, .vec 6 4 0 0), (7, .p (.list (.named 3)) a0), (8, .p I6 ((a0.length : Int) : Int)), (9, .p I6 (0 : Int))], [(6, .row 88 (.named 3) ([] : List T_lex_Piece) true)]⟩) [3, 7, 8, 9] [6] hN (.cons (mv (U := Un) (v := .p (.list (.named 3)) a0) rfl rfl) (.cons (sok_lenL (U := Un) (rs := [(7, .p (.list (.named 3)) a0)]) rfl rfl Tryd.underlying36 o0) (.cons (sok_move (U := Un) (rs := []) rfl (.inl rfl) (.int _ _ _)) .nil))) (by kernel_rfl) (by kernel_rfl) (by kernel_rfl) (Conv.refl (U := Un) _) ?_
    refine thenQ_normal ?_
    refine WpC.block ?_
    obtain ⟨o7, hlo7, h⟩ := bind_some h
    have hout8 := h
    clear h
    refine WpC.conv (Conv.trans (U := Un) (Conv.loose (U := Un) 6 88 (.named 3) ([] : List T_lex_Piece) (.head _)) (Conv.trans (U := Un) (Conv.keep (U := Un) (b := ⟨[(3, .vec 6 4 0 0), (7, .p (.list (.named 3)) a0), (8, .p I6 ((a0.length : Int) : Int)), (9, .p I6 (0 : Int))], [(6, .row 88 (.named 3) ([] : List T_lex_Piece) false)]⟩) [3, 7, 8, 9] [6] (by kernel_rfl)) (Conv.trans (U := Un) (Conv.ren (U := Un) (st' := ⟨[(3, .vec 1003 4 0 0), (7, .p (.list (.named 3)) a0), (8, .p I6 ((a0.length : Int) : Int)), (9, .p I6 (0 : Int))], [(1003, .row 88 (.named 3) ([] : List T_lex_Piece) false)]⟩) 6 1003 (by unfold K0; omega) (by kernel_rfl) (by kernel_rfl) (by kernel_rfl)) (Conv.keep (U := Un) (b := ⟨[(3, .vec 1003 4 0 0), (7, .p (.list (.named 3)) a0), (8, .p I6 ((a0.length : Int) : Int)), (9, .p I6 (0 : Int))], [(1003, .row 88 (.named 3) ([] : List T_lex_Piece) false)]⟩) [3, 7, 8, 9] [1003] (by kernel_rfl))))) ?_
    refine WpC.loop (U := Un) (fun n st' => ∃ v3 : List T_lex_Piece, ∃ v4 : Int, millwrightlaw13_Word.l5 k a0 n v3 v4 = some o7 ∧ st' = ⟨[(3, .vec 1003 4 0 v3.length), (7, .p (.list (.named 3)) a0), (8, .p I6 ((a0.length : Int) : Int)), (9, .p I6 v4)], [(1003, .row 88 (.named 3) v3 false)]⟩) k ⟨([] : List T_lex_Piece), 0, hlo7, rfl⟩ ?_
    clear hlo7
    rintro (_ | n) _ ⟨v3, v4, h, rfl⟩
    · cases h
    · rw [millwrightlaw13_Word.l5] at h
      refine WpC.seq ?_
      refine WpC.reg (U := Un) (st1 := ⟨[(3, .vec 1003 4 0 v3.length), (7, .p (.list (.named 3)) a0), (8, .p I6 ((a0.length : Int) : Int)), (9, .p I6 v4), (10, .p .bool ((decide (v4 < (a0.length : Int))) : Bool))], [(1003, .row 88 (.named 3) v3 false)]⟩) [3, 7, 8, 9, 10] [1003] hN (.cons (sok_cmp (U := Un) (rs := [(9, .p I6 v4), (8, .p I6 ((a0.length : Int) : Int))]) rfl rfl o0 o1 rfl) .nil) (by kernel_rfl) (by kernel_rfl) (by kernel_rfl) (Conv.refl (U := Un) _) ?_
      refine thenQ_normal ?_
      refine WpC.seq ?_
      refine WpC.cond (U := Un) (b := (decide (v4 < (a0.length : Int)))) (.tmp (.tail _ (.tail _ (.tail _ (.tail _ (.head _)))))) (fun hc9 => ?_) (fun hc9 => ?_)
      · replace h := ite_t hc9 h
        refine WpC.conv (Conv.keep (U := Un) (b := ⟨[(3, .vec 1003 4 0 v3.length), (7, .p (.list (.named 3)) a0), (8, .p I6 ((a0.length : Int) : Int)), (9, .p I6 v4)], [(1003, .row 88 (.named 3) v3 false)]⟩) [3, 7, 8, 9] [1003] (by kernel_rfl)) (WpC.skip ?_)
        refine thenQ_normal ?_
        refine WpC.seq ?_
        refine WpC.block ?_
        refine WpC.seq ?_
        obtain ⟨v10, hv10, h⟩ := bind_some h
        refine WpC.reg (U := Un) (st1 := ⟨[(3, .vec 1003 4 0 v3.length), (5, .loc 5 0), (7, .p (.list (.named 3)) a0), (8, .p I6 ((a0.length : Int) : Int)), (9, .p I6 v4)], [(5, .box [.p I6 v10.f_Kind, .p .str v10.f_Text, .p .str v10.f_From, .p .str v10.f_To]), (1003, .row 88 (.named 3) v3 false)]⟩) [3, 5, 7, 8, 9] [5, 1003] hN (.cons (sok_indexL (U := Un) (rs := [(7, .p (.list (.named 3)) a0), (9, .p I6 v4)]) rfl rfl sl_36 o0 o1 hv10) (.cons (sok_loadP (U := Un) (rs := [(11, .pp (.named 3) v10)]) rfl rfl ty_42 o0) (.cons (sok_allocZ (U := Un) (rs := []) (d := 5) (us := [.p I6 (0 : Int), .p .str ([] : List UInt8), .p .str ([] : List UInt8), .p .str ([] : List UInt8)]) (v := (.agg #[.int .i64 0, .string ByteArray.empty, .string ByteArray.empty, .string ByteArray.empty])) rfl rfl rfl (by kernel_rfl) rfl (.data (fun _ _ _ => .int _ _) (.data (fun _ _ _ => rd_str0) (.data (fun _ _ _ => rd_str0) (.data (fun _ _ _ => rd_str0) .nil)))) (by kernel_rfl)) (.cons (sok_storeB (U := Un) (rs := [(5, .loc 5 0), (12, .p (.named 3) v10)]) (v := .p (.named 3) v10) (mid' := [.p I6 v10.f_Kind, .p .str v10.f_Text, .p .str v10.f_From, .p .str v10.f_To]) [] [.p I6 (0 : Int), .p .str ([] : List UInt8), .p .str ([] : List UInt8), .p .str ([] : List UInt8)] [] rfl rfl rfl ty_42 o0 o1 (.data (.named (.pair (.one _ _) (.pair (.one _ _) (.pair (.one _ _) (.pair (.one _ _) .unit)))))) rfl rfl rfl rfl rfl rfl) .nil)))) (by kernel_rfl) (by kernel_rfl) (by kernel_rfl) (Conv.refl (U := Un) _) ?_
        refine thenQ_normal ?_
        obtain ⟨g11, h⟩ := if_some h
        refine WpC.reg (U := Un) (st1 := ⟨[(3, .vec 16 4 0 ((v3 ++ [(T_lex_Piece.mk v10.f_Kind v10.f_Text v10.f_From v10.f_To)]).length)), (7, .p (.list (.named 3)) a0), (8, .p I6 ((a0.length : Int) : Int)), (9, .p I6 v4)], [(16, .row 88 (.named 3) (v3 ++ [(T_lex_Piece.mk v10.f_Kind v10.f_Text v10.f_From v10.f_To)]) false)]⟩) [3, 7, 8, 9] [16] hN (.cons (mv (U := Un) (v := .vec 1003 4 0 v3.length) rfl rfl) (.cons (sok_loadB (U := Un) (t := .named 3) (rs := [(5, .loc 5 0)]) [] [.p I6 v10.f_Kind, .p .str v10.f_Text, .p .str v10.f_From, .p .str v10.f_To] [] (v := .p (.named 3) ((T_lex_Piece.mk v10.f_Kind v10.f_Text v10.f_From v10.f_To) : T_lex_Piece)) rfl rfl ty_42 o0 rfl rfl rfl rfl (.data (.named (.pair (.one _ _) (.pair (.one _ _) (.pair (.one _ _) (.pair (.one _ _) .unit))))))) (.cons (sok_buildSlice (U := Un) (t := .named 3) (rs := [(14, .p (.named 3) ((T_lex_Piece.mk v10.f_Kind v10.f_Text v10.f_From v10.f_To) : T_lex_Piece))]) (ys := [.tmp 14]) (xs := [(T_lex_Piece.mk v10.f_Kind v10.f_Text v10.f_From v10.f_To)]) rfl rfl rfl rfl row_46 (.cons o0 .nil) (by decide)) (.cons (sok_append' (U := Un) (t := .named 3) (rs := [(13, .vec 1003 4 0 v3.length), (15, .vec 15 4 0 ([(T_lex_Piece.mk v10.f_Kind v10.f_Text v10.f_From v10.f_To)].length))]) (vw := [(15, .row 88 (.named 3) [(T_lex_Piece.mk v10.f_Kind v10.f_Text v10.f_From v10.f_To)] true)]) (xs := v3) (ys := [(T_lex_Piece.mk v10.f_Kind v10.f_Text v10.f_From v10.f_To)]) (fx := false) rfl rfl rfl row_46 (by decide) o0 o1 (.whole (.head _)) (by simp) g11) (.cons (mva (U := Un) (v := .vec 16 4 0 ((v3 ++ [(T_lex_Piece.mk v10.f_Kind v10.f_Text v10.f_From v10.f_To)]).length)) rfl rfl) .nil))))) (by kernel_rfl) (by kernel_rfl) (by kernel_rfl) (Conv.refl (U := Un) _) ?_
        refine blockQ_normal ?_
        refine thenQ_normal ?_
        refine WpC.reg (U := Un) (st1 := ⟨[(3, .vec 16 4 0 ((v3 ++ [(T_lex_Piece.mk v10.f_Kind v10.f_Text v10.f_From v10.f_To)]).length)), (7, .p (.list (.named 3)) a0), (8, .p I6 ((a0.length : Int) : Int)), (9, .p I6 ((IntKind.i64.wrap (v4 + 1)) : Int))], [(16, .row 88 (.named 3) (v3 ++ [(T_lex_Piece.mk v10.f_Kind v10.f_Text v10.f_From v10.f_To)]) false)]⟩) [3, 7, 8, 9] [16] hN (.cons (sok_arith (U := Un) (rs := [(9, .p I6 v4)]) rfl rfl o0 (.int _ _ _) rfl) (.cons (mv (U := Un) (v := .p I6 ((IntKind.i64.wrap (v4 + 1)) : Int)) rfl rfl) .nil)) (by kernel_rfl) (by kernel_rfl) (by kernel_rfl) (Conv.trans (U := Un) (Conv.ren (U := Un) (st' := ⟨[(3, .vec 1003 4 0 ((v3 ++ [(T_lex_Piece.mk v10.f_Kind v10.f_Text v10.f_From v10.f_To)]).length)), (7, .p (.list (.named 3)) a0), (8, .p I6 ((a0.length : Int) : Int)), (9, .p I6 ((IntKind.i64.wrap (v4 + 1)) : Int))], [(1003, .row 88 (.named 3) (v3 ++ [(T_lex_Piece.mk v10.f_Kind v10.f_Text v10.f_From v10.f_To)]) false)]⟩) 16 1003 (by unfold K0; omega) (by kernel_rfl) (by kernel_rfl) (by kernel_rfl)) (Conv.keep (U := Un) (b := ⟨[(3, .vec 1003 4 0 ((v3 ++ [(T_lex_Piece.mk v10.f_Kind v10.f_Text v10.f_From v10.f_To)]).length)), (7, .p (.list (.named 3)) a0), (8, .p I6 ((a0.length : Int) : Int)), (9, .p I6 ((IntKind.i64.wrap (v4 + 1)) : Int))], [(1003, .row 88 (.named 3) (v3 ++ [(T_lex_Piece.mk v10.f_Kind v10.f_Text v10.f_From v10.f_To)]) false)]⟩) [3, 7, 8, 9] [1003] (by kernel_rfl))) ?_
        refine thenQ_normal ?_
        exact ⟨n, Nat.lt_succ_self n, (v3 ++ [(T_lex_Piece.mk v10.f_Kind v10.f_Text v10.f_From v10.f_To)]), (IntKind.i64.wrap (v4 + 1)), h, rfl⟩
      · replace h := ite_f hc9 h
        refine WpC.conv (Conv.keep (U := Un) (b := ⟨[(3, .vec 1003 4 0 v3.length)], [(1003, .row 88 (.named 3) v3 false)]⟩) [3] [1003] (by kernel_rfl)) (WpC.exit ?_)
        refine thenQ_exit ?_
        have hq := Option.some.inj h
        subst hq
        refine thenQ_exit ?_
        have h := hout8
        refine blockQ_hit ?_
        refine thenQ_normal ?_
        exact ⟨v3, h, rfl⟩
  · rintro _ ⟨v1, h, rfl⟩
    unfold millwrightlaw13_Word.j2 at h
    refine WpC.seq ?_
    refine WpC.reg (U := Un) (st1 := ⟨[(2, .vec 1003 4 0 v1.length)], [(1003, .row 88 (.named 3) v1 false)]⟩) [2] [1003] hN (.cons (mv (U := Un) (v := .vec 1003 4 0 v1.length) rfl rfl) (.cons (mva (U := Un) (v := .vec 1003 4 0 v1.length) rfl rfl) .nil)) (by kernel_rfl) (by kernel_rfl) (by kernel_rfl) (Conv.refl (U := Un) _) ?_
    refine thenQ_normal ?_
    refine WpC.conv (Conv.trans (U := Un) (Conv.freeze (U := Un) 2 1003 88 _ (.named 3) v1 false (.head _) (by first | rfl | (simp only [upd_length, List.length_replicate, List.length_append]; done) | (simp only [upd_length, List.length_replicate, List.length_append] at *; omega) | omega) (.head _) (by simp [Blk.names])) (Conv.keep (U := Un) (b := ⟨[(2, .p (.list (.named 3)) v1)], []⟩) [2] [] (by kernel_rfl))) (WpC.ret ?_)
    have hq := Option.some.inj h
    subst hq
    exact ends_ret (retV_1 rfl (.head _)) ain_nil

theorem millwrightref13_Text.ok (O : Out) (hO : GOkL O) (k : Nat) (a0 : List T_lex_Piece) (out : List UInt8) (h : millwrightref13_Text.f k a0 = some out) : COk Un O Tryd.prog 20 { ar := [.p (.list (.named 3)) a0], r := .p .str out } := by
  refine cok_of_wp Tryd.func20 rfl (k := 83) rfl (Nat.le_of_ble_eq_true rfl) (namesOk_pure rfl rfl rfl rfl) ?_
  intro B hN
  refine WpC.conv (Conv.keep (U := Un) (b := ⟨[(0, .p (.list (.named 3)) a0)], []⟩) [0] [] (by kernel_rfl)) ?_
  unfold millwrightref13_Text.f at h
  refine WpC.seq ?_
  refine WpC.reg (U := Un) (st1 := ⟨[(0, .p (.list (.named 3)) a0)], []⟩) [0] [] hN (.cons (sok_move (U := Un) (rs := []) rfl (.inr rfl) (.str _ _)) .nil) (by kernel_rfl) (by kernel_rfl) (by kernel_rfl) (Conv.refl (U := Un) _) ?_
  refine thenQ_normal ?_
  refine WpC.seq ?_
  refine WpC.reg (U := Un) (st1 := ⟨[(0, .p (.list (.named 3)) a0), (3, .p .str (([] : List UInt8) : List UInt8))], []⟩) [0, 3] [] hN (.cons (sok_move (U := Un) (rs := []) rfl (.inr rfl) (.str _ _)) .nil) (by kernel_rfl) (by kernel_rfl) (by kernel_rfl) (Conv.refl (U := Un) _) ?_
  refine thenQ_normal ?_
  refine WpC.seqJ (U := Un) (fun st' => ∃ v1 : List UInt8, millwrightref13_Text.j2 k v1 = some out ∧ st' = ⟨[(3, .p .str v1)], []⟩) ?_ ?_
  · refine WpC.seq ?_
    refine WpC.reg (U := Un) (st1 := ⟨[(3, .p .str (([] : List UInt8) : List UInt8)), (7, .p (.list (.named 3)) a0), (8, .p I6 ((a0.length : Int) : Int)), (9, .p I6 (0 : Int))], []⟩) [3, 7, 8, 9] [] hN (.cons (mv (U := Un) (v := .p (.list (.named 3)) a0) rfl rfl) (.cons (sok_lenL (U := Un) (rs := [(7, .p (.list (.named 3)) a0)]) rfl rfl Tryd.underlying46 o0) (.cons (sok_move (U := Un) (rs := []) rfl (.inl rfl) (.int _ _ _)) .nil))) (by kernel_rfl) (by kernel_rfl) (by kernel_rfl) (Conv.refl (U := Un) _) ?_
    refine thenQ_normal ?_
    refine WpC.block ?_
    obtain ⟨o7, hlo7, h⟩ := bind_some h
    have hout8 := h
    clear h
    refine WpC.loop (U := Un) (fun n st' => ∃ v3 : List UInt8, ∃ v4 : Int, millwrightref13_Text.l5 k a0 n v3 v4 = some o7 ∧ st' = ⟨[(3, .p .str v3), (7, .p (.list (.named 3)) a0), (8, .p I6 ((a0.length : Int) : Int)), (9, .p I6 v4)], []⟩) k ⟨([] : List UInt8), 0, hlo7, rfl⟩ ?_
    clear hlo7
    rintro (_ | n) _ ⟨v3, v4, h, rfl⟩
    · cases h
    · rw [millwrightref13_Text.l5] at h
      refine WpC.seq ?_
      refine WpC.reg (U := Un) (st1 := ⟨[(3, .p .str v3), (7, .p (.list (.named 3)) a0), (8, .p I6 ((a0.length : Int) : Int)), (9, .p I6 v4), (10, .p .bool ((decide (v4 < (a0.length : Int))) : Bool))], []⟩) [3, 7, 8, 9, 10] [] hN (.cons (sok_cmp (U := Un) (rs := [(9, .p I6 v4), (8, .p I6 ((a0.length : Int) : Int))]) rfl rfl o0 o1 rfl) .nil) (by kernel_rfl) (by kernel_rfl) (by kernel_rfl) (Conv.refl (U := Un) _) ?_
      refine thenQ_normal ?_
      refine WpC.seq ?_
      refine WpC.cond (U := Un) (b := (decide (v4 < (a0.length : Int)))) (.tmp (.tail _ (.tail _ (.tail _ (.tail _ (.head _)))))) (fun hc9 => ?_) (fun hc9 => ?_)
      · replace h := ite_t hc9 h
        refine WpC.conv (Conv.keep (U := Un) (b := ⟨[(3, .p .str v3), (7, .p (.list (.named 3)) a0), (8, .p I6 ((a0.length : Int) : Int)), (9, .p I6 v4)], []⟩) [3, 7, 8, 9] [] (by kernel_rfl)) (WpC.skip ?_)
        refine thenQ_normal ?_
        refine WpC.seqJ (U := Un) (fun st' => ∃ v10 : List UInt8, millwrightref13_Text.j11 k (millwrightref13_Text.l5 k a0 n) a0 v4 v10 = some o7 ∧ st' = ⟨[(3, .p .str v10), (7, .p (.list (.named 3)) a0), (8, .p I6 ((a0.length : Int) : Int)), (9, .p I6 v4)], []⟩) ?_ ?_
        · refine WpC.block ?_
          refine WpC.seq ?_
          obtain ⟨v12, hv12, h⟩ := bind_some h
          refine WpC.reg (U := Un) (st1 := ⟨[(3, .p .str v3), (5, .loc 5 0), (7, .p (.list (.named 3)) a0), (8, .p I6 ((a0.length : Int) : Int)), (9, .p I6 v4)], [(5, .box [.p I6 v12.f_Kind, .p .str v12.f_Text, .p .str v12.f_From, .p .str v12.f_To])]⟩) [3, 5, 7, 8, 9] [5] hN (.cons (sok_indexL (U := Un) (rs := [(7, .p (.list (.named 3)) a0), (9, .p I6 v4)]) rfl rfl sl_46 o0 o1 hv12) (.cons (sok_loadP (U := Un) (rs := [(11, .pp (.named 3) v12)]) rfl rfl ty_88 o0) (.cons (sok_allocZ (U := Un) (rs := []) (d := 5) (us := [.p I6 (0 : Int), .p .str ([] : List UInt8), .p .str ([] : List UInt8), .p .str ([] : List UInt8)]) (v := (.agg #[.int .i64 0, .string ByteArray.empty, .string ByteArray.empty, .string ByteArray.empty])) rfl rfl rfl (by kernel_rfl) rfl (.data (fun _ _ _ => .int _ _) (.data (fun _ _ _ => rd_str0) (.data (fun _ _ _ => rd_str0) (.data (fun _ _ _ => rd_str0) .nil)))) (by kernel_rfl)) (.cons (sok_storeB (U := Un) (rs := [(5, .loc 5 0), (12, .p (.named 3) v12)]) (v := .p (.named 3) v12) (mid' := [.p I6 v12.f_Kind, .p .str v12.f_Text, .p .str v12.f_From, .p .str v12.f_To]) [] [.p I6 (0 : Int), .p .str ([] : List UInt8), .p .str ([] : List UInt8), .p .str ([] : List UInt8)] [] rfl rfl rfl ty_88 o0 o1 (.data (.named (.pair (.one _ _) (.pair (.one _ _) (.pair (.one _ _) (.pair (.one _ _) .unit)))))) rfl rfl rfl rfl rfl rfl) .nil)))) (by kernel_rfl) (by kernel_rfl) (by kernel_rfl) (Conv.refl (U := Un) _) ?_
          refine thenQ_normal ?_
          refine WpC.seq ?_
          refine WpC.reg (U := Un) (st1 := ⟨[(3, .p .str v3), (5, .loc 5 0), (7, .p (.list (.named 3)) a0), (8, .p I6 ((a0.length : Int) : Int)), (9, .p I6 v4), (14, .p I6 v12.f_Kind)], [(5, .box [.p I6 v12.f_Kind, .p .str v12.f_Text, .p .str v12.f_From, .p .str v12.f_To])]⟩) [3, 5, 7, 8, 9, 14] [5] hN (.cons (sok_fieldB (U := Un) (rs := [(5, .loc 5 0)]) rfl rfl fd_88_0 (by decide) o0) (.cons (sok_loadB (U := Un) (t := .int .i64) (rs := [(13, .loc 5 0)]) [] [.p I6 v12.f_Kind] [.p .str v12.f_Text, .p .str v12.f_From, .p .str v12.f_To] (v := .p I6 v12.f_Kind) rfl rfl ty_3 o0 rfl rfl rfl rfl (.data (.one _ _))) .nil)) (by kernel_rfl) (by kernel_rfl) (by kernel_rfl) (Conv.refl (U := Un) _) ?_
          refine thenQ_normal ?_
          refine WpC.block ?_
          refine WpC.seq ?_
          refine WpC.reg (U := Un) (st1 := ⟨[(3, .p .str v3), (5, .loc 5 0), (7, .p (.list (.named 3)) a0), (8, .p I6 ((a0.length : Int) : Int)), (9, .p I6 v4), (14, .p I6 v12.f_Kind), (15, .p .bool ((v12.f_Kind == 0) : Bool))], [(5, .box [.p I6 v12.f_Kind, .p .str v12.f_Text, .p .str v12.f_From, .p .str v12.f_To])]⟩) [3, 5, 7, 8, 9, 14, 15] [5] hN (.cons (sok_cmp (U := Un) (rs := [(14, .p I6 v12.f_Kind)]) rfl rfl o0 (.int _ _ _) rfl) (.cons (mva (U := Un) (v := .p .bool ((v12.f_Kind == 0) : Bool)) rfl rfl) .nil)) (by kernel_rfl) (by kernel_rfl) (by kernel_rfl) (Conv.refl (U := Un) _) ?_
          refine thenQ_normal ?_
          refine WpC.cond (U := Un) (b := (v12.f_Kind == 0)) (.tmp (.tail _ (.tail _ (.tail _ (.tail _ (.tail _ (.tail _ (.head _)))))))) (fun hc13 => ?_) (fun hc13 => ?_)
          · replace h := ite_t hc13 h
            obtain ⟨g14, h⟩ := if_some h
            refine WpC.reg (U := Un) (st1 := ⟨[(3, .p .str ((v3 ++ v12.f_Text) : List UInt8)), (7, .p (.list (.named 3)) a0), (8, .p I6 ((a0.length : Int) : Int)), (9, .p I6 v4)], []⟩) [3, 7, 8, 9] [] hN (.cons (mv (U := Un) (v := .p .str v3) rfl rfl) (.cons (sok_fieldB (U := Un) (rs := [(5, .loc 5 0)]) rfl rfl fd_88_1 (by decide) o0) (.cons (sok_loadB (U := Un) (t := .str) (rs := [(18, .loc 5 1)]) [.p I6 v12.f_Kind] [.p .str v12.f_Text] [.p .str v12.f_From, .p .str v12.f_To] (v := .p .str v12.f_Text) rfl rfl ty_9 o0 rfl rfl rfl rfl (.data (.one _ _))) (.cons (sok_cat (U := Un) (rs := [(17, .p .str v3), (19, .p .str v12.f_Text)]) rfl rfl o0 o1 g14) (.cons (mva (U := Un) (v := .p .str ((v3 ++ v12.f_Text) : List UInt8)) rfl rfl) .nil))))) (by kernel_rfl) (by kernel_rfl) (by kernel_rfl) (Conv.refl (U := Un) _) ?_
            refine blockQ_normal ?_
            refine blockQ_normal ?_
            refine thenQ_normal ?_
            exact ⟨(v3 ++ v12.f_Text), h, rfl⟩
          · replace h := ite_f hc13 h
            refine WpC.seq ?_
            refine WpC.reg (U := Un) (st1 := ⟨[(3, .p .str v3), (5, .loc 5 0), (7, .p (.list (.named 3)) a0), (8, .p I6 ((a0.length : Int) : Int)), (9, .p I6 v4), (14, .p I6 v12.f_Kind), (21, .p .bool ((v12.f_Kind == 1) : Bool))], [(5, .box [.p I6 v12.f_Kind, .p .str v12.f_Text, .p .str v12.f_From, .p .str v12.f_To])]⟩) [3, 5, 7, 8, 9, 14, 21] [5] hN (.cons (sok_cmp (U := Un) (rs := [(14, .p I6 v12.f_Kind)]) rfl rfl o0 (.int _ _ _) rfl) (.cons (mva (U := Un) (v := .p .bool ((v12.f_Kind == 1) : Bool)) rfl rfl) .nil)) (by kernel_rfl) (by kernel_rfl) (by kernel_rfl) (Conv.refl (U := Un) _) ?_
            refine thenQ_normal ?_
            refine WpC.cond (U := Un) (b := (v12.f_Kind == 1)) (.tmp (.tail _ (.tail _ (.tail _ (.tail _ (.tail _ (.tail _ (.head _)))))))) (fun hc15 => ?_) (fun hc15 => ?_)
            · replace h := ite_t hc15 h
              refine WpC.seq ?_
              obtain ⟨g16, h⟩ := if_some h
              refine WpC.reg (U := Un) (st1 := ⟨[(3, .p .str ((v3 ++ ([39] : List UInt8)) : List UInt8)), (5, .loc 5 0), (7, .p (.list (.named 3)) a0), (8, .p I6 ((a0.length : Int) : Int)), (9, .p I6 v4)], [(5, .box [.p I6 v12.f_Kind, .p .str v12.f_Text, .p .str v12.f_From, .p .str v12.f_To])]⟩) [3, 5, 7, 8, 9] [5] hN (.cons (mv (U := Un) (v := .p .str v3) rfl rfl) (.cons (sok_cat (U := Un) (rs := [(23, .p .str v3)]) rfl rfl o0 (.str _ _) g16) (.cons (mva (U := Un) (v := .p .str ((v3 ++ ([39] : List UInt8)) : List UInt8)) rfl rfl) .nil))) (by kernel_rfl) (by kernel_rfl) (by kernel_rfl) (Conv.refl (U := Un) _) ?_
              refine thenQ_normal ?_
              refine WpC.seqJ (U := Un) (fun st' => ∃ v17 : List UInt8, millwrightref13_Text.j19 k (millwrightref13_Text.l5 k a0 n) a0 v4 v17 = some o7 ∧ st' = ⟨[(3, .p .str v17), (7, .p (.list (.named 3)) a0), (8, .p I6 ((a0.length : Int) : Int)), (9, .p I6 v4)], []⟩) ?_ ?_
              · refine WpC.seq ?_
                refine WpC.reg (U := Un) (st1 := ⟨[(3, .p .str ((v3 ++ ([39] : List UInt8)) : List UInt8)), (5, .loc 5 0), (6, .p I6 (0 : Int)), (7, .p (.list (.named 3)) a0), (8, .p I6 ((a0.length : Int) : Int)), (9, .p I6 v4)], [(5, .box [.p I6 v12.f_Kind, .p .str v12.f_Text, .p .str v12.f_From, .p .str v12.f_To])]⟩) [3, 5, 6, 7, 8, 9] [5] hN (.cons (sok_move (U := Un) (rs := []) rfl (.inr rfl) (.int _ _ _)) .nil) (by kernel_rfl) (by kernel_rfl) (by kernel_rfl) (Conv.refl (U := Un) _) ?_
                refine thenQ_normal ?_
                refine WpC.block ?_
                obtain ⟨o24, hlo24, h⟩ := bind_some h
                have hout25 := h
                clear h
                refine WpC.loop (U := Un) (fun n st' => ∃ v20 : List UInt8, ∃ v21 : Int, millwrightref13_Text.l22 k a0 v4 v12 n v20 v21 = some o24 ∧ st' = ⟨[(3, .p .str v20), (5, .loc 5 0), (6, .p I6 v21), (7, .p (.list (.named 3)) a0), (8, .p I6 ((a0.length : Int) : Int)), (9, .p I6 v4)], [(5, .box [.p I6 v12.f_Kind, .p .str v12.f_Text, .p .str v12.f_From, .p .str v12.f_To])]⟩) k ⟨(v3 ++ ([39] : List UInt8)), 0, hlo24, rfl⟩ ?_
                clear hlo24
                rintro (_ | n) _ ⟨v20, v21, h, rfl⟩
                · cases h
                · rw [millwrightref13_Text.l22] at h
                  refine WpC.seq ?_
                  refine WpC.seq ?_
                  refine WpC.reg (U := Un) (st1 := ⟨[(3, .p .str v20), (5, .loc 5 0), (6, .p I6 v21), (7, .p (.list (.named 3)) a0), (8, .p I6 ((a0.length : Int) : Int)), (9, .p I6 v4), (29, .p .bool ((decide (v21 < (v12.f_Text.length : Int))) : Bool))], [(5, .box [.p I6 v12.f_Kind, .p .str v12.f_Text, .p .str v12.f_From, .p .str v12.f_To])]⟩) [3, 5, 6, 7, 8, 9, 29] [5] hN (.cons (mv (U := Un) (v := .p I6 v21) rfl rfl) (.cons (sok_fieldB (U := Un) (rs := [(5, .loc 5 0)]) rfl rfl fd_88_1 (by decide) o0) (.cons (sok_loadB (U := Un) (t := .str) (rs := [(26, .loc 5 1)]) [.p I6 v12.f_Kind] [.p .str v12.f_Text] [.p .str v12.f_From, .p .str v12.f_To] (v := .p .str v12.f_Text) rfl rfl ty_9 o0 rfl rfl rfl rfl (.data (.one _ _))) (.cons (sok_lenS (U := Un) (rs := [(27, .p .str v12.f_Text)]) rfl rfl Tryd.underlying9 o0) (.cons (sok_cmp (U := Un) (rs := [(25, .p I6 v21), (28, .p I6 ((v12.f_Text.length : Int) : Int))]) rfl rfl o0 o1 rfl) .nil))))) (by kernel_rfl) (by kernel_rfl) (by kernel_rfl) (Conv.refl (U := Un) _) ?_
                  refine thenQ_normal ?_
                  refine WpC.cond (U := Un) (b := (decide (v21 < (v12.f_Text.length : Int)))) (.tmp (.tail _ (.tail _ (.tail _ (.tail _ (.tail _ (.tail _ (.head _)))))))) (fun hc26 => ?_) (fun hc26 => ?_)
                  · replace h := ite_t hc26 h
                    refine WpC.conv (Conv.keep (U := Un) (b := ⟨[(3, .p .str v20), (5, .loc 5 0), (6, .p I6 v21), (7, .p (.list (.named 3)) a0), (8, .p I6 ((a0.length : Int) : Int)), (9, .p I6 v4)], [(5, .box [.p I6 v12.f_Kind, .p .str v12.f_Text, .p .str v12.f_From, .p .str v12.f_To])]⟩) [3, 5, 6, 7, 8, 9] [5] (by kernel_rfl)) (WpC.skip ?_)
                    refine thenQ_normal ?_
                    refine WpC.seqJ (U := Un) (fun st' => ∃ v27 : List UInt8, millwrightref13_Text.j28 k (millwrightref13_Text.l22 k a0 v4 v12 n) a0 v4 v12 v21 v27 = some o24 ∧ st' = ⟨[(3, .p .str v27), (5, .loc 5 0), (6, .p I6 v21), (7, .p (.list (.named 3)) a0), (8, .p I6 ((a0.length : Int) : Int)), (9, .p I6 v4)], [(5, .box [.p I6 v12.f_Kind, .p .str v12.f_Text, .p .str v12.f_From, .p .str v12.f_To])]⟩) ?_ ?_
                    · refine WpC.block ?_
                      refine WpC.seq ?_
                      obtain ⟨v29, hv29, h⟩ := bind_some h
                      obtain ⟨g30, h⟩ := if_some h
                      refine WpC.reg (U := Un) (st1 := ⟨[(3, .p .str ((v20 ++ v29) : List UInt8)), (5, .loc 5 0), (6, .p I6 v21), (7, .p (.list (.named 3)) a0), (8, .p I6 ((a0.length : Int) : Int)), (9, .p I6 v4)], [(5, .box [.p I6 v12.f_Kind, .p .str v12.f_Text, .p .str v12.f_From, .p .str v12.f_To])]⟩) [3, 5, 6, 7, 8, 9] [5] hN (.cons (mv (U := Un) (v := .p .str v20) rfl rfl) (.cons (sok_fieldB (U := Un) (rs := [(5, .loc 5 0)]) rfl rfl fd_88_1 (by decide) o0) (.cons (sok_loadB (U := Un) (t := .str) (rs := [(33, .loc 5 1)]) [.p I6 v12.f_Kind] [.p .str v12.f_Text] [.p .str v12.f_From, .p .str v12.f_To] (v := .p .str v12.f_Text) rfl rfl ty_9 o0 rfl rfl rfl rfl (.data (.one _ _))) (.cons (mv (U := Un) (v := .p I6 v21) rfl rfl) (.cons (mv (U := Un) (v := .p I6 v21) rfl rfl) (.cons (sok_arith (U := Un) (rs := [(36, .p I6 v21)]) rfl rfl o0 (.int _ _ _) rfl) (.cons (sok_sliceS (U := Un) (rs := [(34, .p .str v12.f_Text), (35, .p I6 v21), (37, .p I6 ((IntKind.i64.wrap (v21 + 1)) : Int))]) rfl rfl Tryd.underlying9 o0 (.at o1) (.at (.tmp (.tail _ (.tail _ (.head _))))) hv29) (.cons (sok_cat (U := Un) (rs := [(32, .p .str v20), (38, .p .str v29)]) rfl rfl o0 o1 g30) (.cons (mva (U := Un) (v := .p .str ((v20 ++ v29) : List UInt8)) rfl rfl) .nil))))))))) (by kernel_rfl) (by kernel_rfl) (by kernel_rfl) (Conv.refl (U := Un) _) ?_
                      refine thenQ_normal ?_
                      refine WpC.seq ?_
                      obtain ⟨v31, hv31, h⟩ := bind_some h
                      refine WpC.reg (U := Un) (st1 := ⟨[(3, .p .str ((v20 ++ v29) : List UInt8)), (5, .loc 5 0), (6, .p I6 v21), (7, .p (.list (.named 3)) a0), (8, .p I6 ((a0.length : Int) : Int)), (9, .p I6 v4), (44, .p .bool (((v31.toNat : Int) == 39) : Bool))], [(5, .box [.p I6 v12.f_Kind, .p .str v12.f_Text, .p .str v12.f_From, .p .str v12.f_To])]⟩) [3, 5, 6, 7, 8, 9, 44] [5] hN (.cons (sok_fieldB (U := Un) (rs := [(5, .loc 5 0)]) rfl rfl fd_88_1 (by decide) o0) (.cons (sok_loadB (U := Un) (t := .str) (rs := [(40, .loc 5 1)]) [.p I6 v12.f_Kind] [.p .str v12.f_Text] [.p .str v12.f_From, .p .str v12.f_To] (v := .p .str v12.f_Text) rfl rfl ty_9 o0 rfl rfl rfl rfl (.data (.one _ _))) (.cons (mv (U := Un) (v := .p I6 v21) rfl rfl) (.cons (sok_indexS (U := Un) (rs := [(41, .p .str v12.f_Text), (42, .p I6 v21)]) rfl rfl Tryd.underlying9 o0 o1 hv31) (.cons (sok_cmp (U := Un) (rs := [(43, .p (.int .u8) ((v31.toNat : Int) : Int))]) rfl rfl o0 (.int _ _ _) rfl) .nil))))) (by kernel_rfl) (by kernel_rfl) (by kernel_rfl) (Conv.refl (U := Un) _) ?_
                      refine thenQ_normal ?_
                      refine WpC.cond (U := Un) (b := ((v31.toNat : Int) == 39)) (.tmp (.tail _ (.tail _ (.tail _ (.tail _ (.tail _ (.tail _ (.head _)))))))) (fun hc32 => ?_) (fun hc32 => ?_)
                      · replace h := ite_t hc32 h
                        obtain ⟨g33, h⟩ := if_some h
                        refine WpC.reg (U := Un) (st1 := ⟨[(3, .p .str (((v20 ++ v29) ++ ([39] : List UInt8)) : List UInt8)), (5, .loc 5 0), (6, .p I6 v21), (7, .p (.list (.named 3)) a0), (8, .p I6 ((a0.length : Int) : Int)), (9, .p I6 v4)], [(5, .box [.p I6 v12.f_Kind, .p .str v12.f_Text, .p .str v12.f_From, .p .str v12.f_To])]⟩) [3, 5, 6, 7, 8, 9] [5] hN (.cons (mv (U := Un) (v := .p .str ((v20 ++ v29) : List UInt8)) rfl rfl) (.cons (sok_cat (U := Un) (rs := [(45, .p .str ((v20 ++ v29) : List UInt8))]) rfl rfl o0 (.str _ _) g33) (.cons (mva (U := Un) (v := .p .str (((v20 ++ v29) ++ ([39] : List UInt8)) : List UInt8)) rfl rfl) .nil))) (by kernel_rfl) (by kernel_rfl) (by kernel_rfl) (Conv.refl (U := Un) _) ?_
                        refine blockQ_normal ?_
                        refine thenQ_normal ?_
                        exact ⟨((v20 ++ v29) ++ ([39] : List UInt8)), h, rfl⟩
                      · replace h := ite_f hc32 h
                        refine WpC.conv (Conv.keep (U := Un) (b := ⟨[(3, .p .str ((v20 ++ v29) : List UInt8)), (5, .loc 5 0), (6, .p I6 v21), (7, .p (.list (.named 3)) a0), (8, .p I6 ((a0.length : Int) : Int)), (9, .p I6 v4)], [(5, .box [.p I6 v12.f_Kind, .p .str v12.f_Text, .p .str v12.f_From, .p .str v12.f_To])]⟩) [3, 5, 6, 7, 8, 9] [5] (by kernel_rfl)) (WpC.skip ?_)
                        refine blockQ_normal ?_
                        refine thenQ_normal ?_
                        exact ⟨(v20 ++ v29), h, rfl⟩
                    · rintro _ ⟨v27, h, rfl⟩
                      unfold millwrightref13_Text.j28 at h
                      refine WpC.reg (U := Un) (st1 := ⟨[(3, .p .str v27), (5, .loc 5 0), (6, .p I6 ((IntKind.i64.wrap (v21 + 1)) : Int)), (7, .p (.list (.named 3)) a0), (8, .p I6 ((a0.length : Int) : Int)), (9, .p I6 v4)], [(5, .box [.p I6 v12.f_Kind, .p .str v12.f_Text, .p .str v12.f_From, .p .str v12.f_To])]⟩) [3, 5, 6, 7, 8, 9] [5] hN (.cons (mv (U := Un) (v := .p I6 v21) rfl rfl) (.cons (sok_arith (U := Un) (rs := [(30, .p I6 v21)]) rfl rfl o0 (.int _ _ _) rfl) (.cons (mva (U := Un) (v := .p I6 ((IntKind.i64.wrap (v21 + 1)) : Int)) rfl rfl) .nil))) (by kernel_rfl) (by kernel_rfl) (by kernel_rfl) (Conv.refl (U := Un) _) ?_
                      refine thenQ_normal ?_
                      exact ⟨n, Nat.lt_succ_self n, v27, (IntKind.i64.wrap (v21 + 1)), h, rfl⟩
                  · replace h := ite_f hc26 h
                    refine WpC.conv (Conv.keep (U := Un) (b := ⟨[(3, .p .str v20), (7, .p (.list (.named 3)) a0), (8, .p I6 ((a0.length : Int) : Int)), (9, .p I6 v4)], []⟩) [3, 7, 8, 9] [] (by kernel_rfl)) (WpC.exit ?_)
                    refine thenQ_exit ?_
                    have hq := Option.some.inj h
                    subst hq
                    refine thenQ_exit ?_
                    have h := hout25
                    refine blockQ_hit ?_
                    refine thenQ_normal ?_
                    exact ⟨v20, h, rfl⟩
              · rintro _ ⟨v17, h, rfl⟩
                unfold millwrightref13_Text.j19 at h
                obtain ⟨g18, h⟩ := if_some h
                refine WpC.reg (U := Un) (st1 := ⟨[(3, .p .str ((v17 ++ ([39] : List UInt8)) : List UInt8)), (7, .p (.list (.named 3)) a0), (8, .p I6 ((a0.length : Int) : Int)), (9, .p I6 v4)], []⟩) [3, 7, 8, 9] [] hN (.cons (mv (U := Un) (v := .p .str v17) rfl rfl) (.cons (sok_cat (U := Un) (rs := [(47, .p .str v17)]) rfl rfl o0 (.str _ _) g18) (.cons (mva (U := Un) (v := .p .str ((v17 ++ ([39] : List UInt8)) : List UInt8)) rfl rfl) .nil))) (by kernel_rfl) (by kernel_rfl) (by kernel_rfl) (Conv.refl (U := Un) _) ?_
                refine blockQ_normal ?_
                refine blockQ_normal ?_
                refine thenQ_normal ?_
                exact ⟨(v17 ++ ([39] : List UInt8)), h, rfl⟩
            · replace h := ite_f hc15 h
              refine WpC.seq ?_
              refine WpC.reg (U := Un) (st1 := ⟨[(3, .p .str v3), (5, .loc 5 0), (7, .p (.list (.named 3)) a0), (8, .p I6 ((a0.length : Int) : Int)), (9, .p I6 v4), (14, .p I6 v12.f_Kind), (49, .p .bool ((v12.f_Kind == 2) : Bool))], [(5, .box [.p I6 v12.f_Kind, .p .str v12.f_Text, .p .str v12.f_From, .p .str v12.f_To])]⟩) [3, 5, 7, 8, 9, 14, 49] [5] hN (.cons (sok_cmp (U := Un) (rs := [(14, .p I6 v12.f_Kind)]) rfl rfl o0 (.int _ _ _) rfl) (.cons (mva (U := Un) (v := .p .bool ((v12.f_Kind == 2) : Bool)) rfl rfl) .nil)) (by kernel_rfl) (by kernel_rfl) (by kernel_rfl) (Conv.refl (U := Un) _) ?_
              refine thenQ_normal ?_
              refine WpC.cond (U := Un) (b := (v12.f_Kind == 2)) (.tmp (.tail _ (.tail _ (.tail _ (.tail _ (.tail _ (.tail _ (.head _)))))))) (fun hc35 => ?_) (fun hc35 => ?_)
              · replace h := ite_t hc35 h
                obtain ⟨g36, h⟩ := if_some h
                obtain ⟨g37, h⟩ := if_some h
                obtain ⟨g38, h⟩ := if_some h
                refine WpC.reg (U := Un) (st1 := ⟨[(3, .p .str ((v3 ++ ((([36, 123] : List UInt8) ++ v12.f_Text) ++ ([125] : List UInt8))) : List UInt8)), (7, .p (.list (.named 3)) a0), (8, .p I6 ((a0.length : Int) : Int)), (9, .p I6 v4)], []⟩) [3, 7, 8, 9] [] hN (.cons (mv (U := Un) (v := .p .str v3) rfl rfl) (.cons (sok_fieldB (U := Un) (rs := [(5, .loc 5 0)]) rfl rfl fd_88_1 (by decide) o0) (.cons (sok_loadB (U := Un) (t := .str) (rs := [(52, .loc 5 1)]) [.p I6 v12.f_Kind] [.p .str v12.f_Text] [.p .str v12.f_From, .p .str v12.f_To] (v := .p .str v12.f_Text) rfl rfl ty_9 o0 rfl rfl rfl rfl (.data (.one _ _))) (.cons (sok_cat (U := Un) (rs := [(53, .p .str v12.f_Text)]) rfl rfl (.str _ _) o0 g36) (.cons (sok_cat (U := Un) (rs := [(54, .p .str ((([36, 123] : List UInt8) ++ v12.f_Text) : List UInt8))]) rfl rfl o0 (.str _ _) g37) (.cons (sok_cat (U := Un) (rs := [(51, .p .str v3), (55, .p .str (((([36, 123] : List UInt8) ++ v12.f_Text) ++ ([125] : List UInt8)) : List UInt8))]) rfl rfl o0 o1 g38) (.cons (mva (U := Un) (v := .p .str ((v3 ++ ((([36, 123] : List UInt8) ++ v12.f_Text) ++ ([125] : List UInt8))) : List UInt8)) rfl rfl) .nil))))))) (by kernel_rfl) (by kernel_rfl) (by kernel_rfl) (Conv.refl (U := Un) _) ?_
                refine blockQ_normal ?_
                refine blockQ_normal ?_
                refine thenQ_normal ?_
                exact ⟨(v3 ++ ((([36, 123] : List UInt8) ++ v12.f_Text) ++ ([125] : List UInt8))), h, rfl⟩
              · replace h := ite_f hc35 h
                refine WpC.seq ?_
                refine WpC.reg (U := Un) (st1 := ⟨[(3, .p .str v3), (5, .loc 5 0), (7, .p (.list (.named 3)) a0), (8, .p I6 ((a0.length : Int) : Int)), (9, .p I6 v4), (14, .p I6 v12.f_Kind), (57, .p .bool ((v12.f_Kind == 3) : Bool))], [(5, .box [.p I6 v12.f_Kind, .p .str v12.f_Text, .p .str v12.f_From, .p .str v12.f_To])]⟩) [3, 5, 7, 8, 9, 14, 57] [5] hN (.cons (sok_cmp (U := Un) (rs := [(14, .p I6 v12.f_Kind)]) rfl rfl o0 (.int _ _ _) rfl) (.cons (mva (U := Un) (v := .p .bool ((v12.f_Kind == 3) : Bool)) rfl rfl) .nil)) (by kernel_rfl) (by kernel_rfl) (by kernel_rfl) (Conv.refl (U := Un) _) ?_
                refine thenQ_normal ?_
                refine WpC.cond (U := Un) (b := (v12.f_Kind == 3)) (.tmp (.tail _ (.tail _ (.tail _ (.tail _ (.tail _ (.tail _ (.head _)))))))) (fun hc39 => ?_) (fun hc39 => ?_)
                · replace h := ite_t hc39 h
                  obtain ⟨g40, h⟩ := if_some h
                  obtain ⟨g41, h⟩ := if_some h
                  obtain ⟨g42, h⟩ := if_some h
                  obtain ⟨g43, h⟩ := if_some h
                  obtain ⟨g44, h⟩ := if_some h
                  obtain ⟨g45, h⟩ := if_some h
                  obtain ⟨g46, h⟩ := if_some h
                  refine WpC.reg (U := Un) (st1 := ⟨[(3, .p .str ((v3 ++ ((((((([36, 123] : List UInt8) ++ v12.f_Text) ++ ([58] : List UInt8)) ++ v12.f_From) ++ ([61] : List UInt8)) ++ v12.f_To) ++ ([125] : List UInt8))) : List UInt8)), (7, .p (.list (.named 3)) a0), (8, .p I6 ((a0.length : Int) : Int)), (9, .p I6 v4)], []⟩) [3, 7, 8, 9] [] hN (.cons (mv (U := Un) (v := .p .str v3) rfl rfl) (.cons (sok_fieldB (U := Un) (rs := [(5, .loc 5 0)]) rfl rfl fd_88_1 (by decide) o0) (.cons (sok_loadB (U := Un) (t := .str) (rs := [(60, .loc 5 1)]) [.p I6 v12.f_Kind] [.p .str v12.f_Text] [.p .str v12.f_From, .p .str v12.f_To] (v := .p .str v12.f_Text) rfl rfl ty_9 o0 rfl rfl rfl rfl (.data (.one _ _))) (.cons (sok_cat (U := Un) (rs := [(61, .p .str v12.f_Text)]) rfl rfl (.str _ _) o0 g40) (.cons (sok_cat (U := Un) (rs := [(62, .p .str ((([36, 123] : List UInt8) ++ v12.f_Text) : List UInt8))]) rfl rfl o0 (.str _ _) g41) (.cons (sok_fieldB (U := Un) (rs := [(5, .loc 5 0)]) rfl rfl fd_88_2 (by decide) o0) (.cons (sok_loadB (U := Un) (t := .str) (rs := [(64, .loc 5 2)]) [.p I6 v12.f_Kind, .p .str v12.f_Text] [.p .str v12.f_From] [.p .str v12.f_To] (v := .p .str v12.f_From) rfl rfl ty_9 o0 rfl rfl rfl rfl (.data (.one _ _))) (.cons (sok_cat (U := Un) (rs := [(63, .p .str (((([36, 123] : List UInt8) ++ v12.f_Text) ++ ([58] : List UInt8)) : List UInt8)), (65, .p .str v12.f_From)]) rfl rfl o0 o1 g42) (.cons (sok_cat (U := Un) (rs := [(66, .p .str ((((([36, 123] : List UInt8) ++ v12.f_Text) ++ ([58] : List UInt8)) ++ v12.f_From) : List UInt8))]) rfl rfl o0 (.str _ _) g43) (.cons (sok_fieldB (U := Un) (rs := [(5, .loc 5 0)]) rfl rfl fd_88_3 (by decide) o0) (.cons (sok_loadB (U := Un) (t := .str) (rs := [(68, .loc 5 3)]) [.p I6 v12.f_Kind, .p .str v12.f_Text, .p .str v12.f_From] [.p .str v12.f_To] [] (v := .p .str v12.f_To) rfl rfl ty_9 o0 rfl rfl rfl rfl (.data (.one _ _))) (.cons (sok_cat (U := Un) (rs := [(67, .p .str (((((([36, 123] : List UInt8) ++ v12.f_Text) ++ ([58] : List UInt8)) ++ v12.f_From) ++ ([61] : List UInt8)) : List UInt8)), (69, .p .str v12.f_To)]) rfl rfl o0 o1 g44) (.cons (sok_cat (U := Un) (rs := [(70, .p .str ((((((([36, 123] : List UInt8) ++ v12.f_Text) ++ ([58] : List UInt8)) ++ v12.f_From) ++ ([61] : List UInt8)) ++ v12.f_To) : List UInt8))]) rfl rfl o0 (.str _ _) g45) (.cons (sok_cat (U := Un) (rs := [(59, .p .str v3), (71, .p .str (((((((([36, 123] : List UInt8) ++ v12.f_Text) ++ ([58] : List UInt8)) ++ v12.f_From) ++ ([61] : List UInt8)) ++ v12.f_To) ++ ([125] : List UInt8)) : List UInt8))]) rfl rfl o0 o1 g46) (.cons (mva (U := Un) (v := .p .str ((v3 ++ ((((((([36, 123] : List UInt8) ++ v12.f_Text) ++ ([58] : List UInt8)) ++ v12.f_From) ++ ([61] : List UInt8)) ++ v12.f_To) ++ ([125] : List UInt8))) : List UInt8)) rfl rfl) .nil))))))))))))))) (by kernel_rfl) (by kernel_rfl) (by kernel_rfl) (Conv.refl (U := Un) _) ?_
                  refine blockQ_normal ?_
                  refine blockQ_normal ?_
                  refine thenQ_normal ?_
                  exact ⟨(v3 ++ ((((((([36, 123] : List UInt8) ++ v12.f_Text) ++ ([58] : List UInt8)) ++ v12.f_From) ++ ([61] : List UInt8)) ++ v12.f_To) ++ ([125] : List UInt8))), h, rfl⟩
                · replace h := ite_f hc39 h
                  refine WpC.seq ?_
                  refine WpC.reg (U := Un) (st1 := ⟨[(3, .p .str v3), (5, .loc 5 0), (7, .p (.list (.named 3)) a0), (8, .p I6 ((a0.length : Int) : Int)), (9, .p I6 v4), (73, .p .bool ((v12.f_Kind == 4) : Bool))], [(5, .box [.p I6 v12.f_Kind, .p .str v12.f_Text, .p .str v12.f_From, .p .str v12.f_To])]⟩) [3, 5, 7, 8, 9, 73] [5] hN (.cons (sok_cmp (U := Un) (rs := [(14, .p I6 v12.f_Kind)]) rfl rfl o0 (.int _ _ _) rfl) (.cons (mva (U := Un) (v := .p .bool ((v12.f_Kind == 4) : Bool)) rfl rfl) .nil)) (by kernel_rfl) (by kernel_rfl) (by kernel_rfl) (Conv.refl (U := Un) _) ?_
                  refine thenQ_normal ?_
                  refine WpC.cond (U := Un) (b := (v12.f_Kind == 4)) (.tmp (.tail _ (.tail _ (.tail _ (.tail _ (.tail _ (.head _))))))) (fun hc47 => ?_) (fun hc47 => ?_)
                  · replace h := ite_t hc47 h
                    obtain ⟨g48, h⟩ := if_some h
                    obtain ⟨g49, h⟩ := if_some h
                    obtain ⟨g50, h⟩ := if_some h
                    refine WpC.reg (U := Un) (st1 := ⟨[(3, .p .str ((v3 ++ ((([96, 123] : List UInt8) ++ v12.f_Text) ++ ([125] : List UInt8))) : List UInt8)), (7, .p (.list (.named 3)) a0), (8, .p I6 ((a0.length : Int) : Int)), (9, .p I6 v4)], []⟩) [3, 7, 8, 9] [] hN (.cons (mv (U := Un) (v := .p .str v3) rfl rfl) (.cons (sok_fieldB (U := Un) (rs := [(5, .loc 5 0)]) rfl rfl fd_88_1 (by decide) o0) (.cons (sok_loadB (U := Un) (t := .str) (rs := [(76, .loc 5 1)]) [.p I6 v12.f_Kind] [.p .str v12.f_Text] [.p .str v12.f_From, .p .str v12.f_To] (v := .p .str v12.f_Text) rfl rfl ty_9 o0 rfl rfl rfl rfl (.data (.one _ _))) (.cons (sok_cat (U := Un) (rs := [(77, .p .str v12.f_Text)]) rfl rfl (.str _ _) o0 g48) (.cons (sok_cat (U := Un) (rs := [(78, .p .str ((([96, 123] : List UInt8) ++ v12.f_Text) : List UInt8))]) rfl rfl o0 (.str _ _) g49) (.cons (sok_cat (U := Un) (rs := [(75, .p .str v3), (79, .p .str (((([96, 123] : List UInt8) ++ v12.f_Text) ++ ([125] : List UInt8)) : List UInt8))]) rfl rfl o0 o1 g50) (.cons (mva (U := Un) (v := .p .str ((v3 ++ ((([96, 123] : List UInt8) ++ v12.f_Text) ++ ([125] : List UInt8))) : List UInt8)) rfl rfl) .nil))))))) (by kernel_rfl) (by kernel_rfl) (by kernel_rfl) (Conv.refl (U := Un) _) ?_
                    refine blockQ_normal ?_
                    refine blockQ_normal ?_
                    refine thenQ_normal ?_
                    exact ⟨(v3 ++ ((([96, 123] : List UInt8) ++ v12.f_Text) ++ ([125] : List UInt8))), h, rfl⟩
                  · replace h := ite_f hc47 h
                    refine WpC.conv (Conv.keep (U := Un) (b := ⟨[(3, .p .str v3), (7, .p (.list (.named 3)) a0), (8, .p I6 ((a0.length : Int) : Int)), (9, .p I6 v4)], []⟩) [3, 7, 8, 9] [] (by kernel_rfl)) (WpC.skip ?_)
                    refine blockQ_normal ?_
                    refine blockQ_normal ?_
                    refine thenQ_normal ?_
                    exact ⟨v3, h, rfl⟩
        · rintro _ ⟨v10, h, rfl⟩
          unfold millwrightref13_Text.j11 at h
          refine WpC.reg (U := Un) (st1 := ⟨[(3, .p .str v10), (7, .p (.list (.named 3)) a0), (8, .p I6 ((a0.length : Int) : Int)), (9, .p I6 ((IntKind.i64.wrap (v4 + 1)) : Int))], []⟩) [3, 7, 8, 9] [] hN (.cons (sok_arith (U := Un) (rs := [(9, .p I6 v4)]) rfl rfl o0 (.int _ _ _) rfl) (.cons (mv (U := Un) (v := .p I6 ((IntKind.i64.wrap (v4 + 1)) : Int)) rfl rfl) .nil)) (by kernel_rfl) (by kernel_rfl) (by kernel_rfl) (Conv.refl (U := Un) _) ?_
          refine thenQ_normal ?_
          exact ⟨n, Nat.lt_succ_self n, v10, (IntKind.i64.wrap (v4 + 1)), h, rfl⟩
      · replace h := ite_f hc9 h
        refine WpC.conv (Conv.keep (U := Un) (b := ⟨[(3, .p .str v3)], []⟩) [3] [] (by kernel_rfl)) (WpC.exit ?_)
        refine thenQ_exit ?_
        have hq := Option.some.inj h
        subst hq
        refine thenQ_exit ?_
        have h := hout8
        refine blockQ_hit ?_
        refine thenQ_normal ?_
        exact ⟨v3, h, rfl⟩
  · rintro _ ⟨v1, h, rfl⟩
    unfold millwrightref13_Text.j2 at h
    refine WpC.seq ?_
    refine WpC.reg (U := Un) (st1 := ⟨[(2, .p .str v1)], []⟩) [2] [] hN (.cons (mv (U := Un) (v := .p .str v1) rfl rfl) (.cons (mva (U := Un) (v := .p .str v1) rfl rfl) .nil)) (by kernel_rfl) (by kernel_rfl) (by kernel_rfl) (Conv.refl (U := Un) _) ?_
    refine thenQ_normal ?_
    refine WpC.ret ?_
    have hq := Option.some.inj h
    subst hq
    exact ends_ret (retV_1 rfl (.head _)) ain_nil

theorem lex_Piece_50.ok (O : Out) (hO : GOkL O) (k : Nat) (a0 : List T_lex_Piece) (a1 : List T_lex_Piece) (out : Bool) (h : lex_Piece_50.f k a0 a1 = some out) : COk Un O Tryd.prog 50 { ar := [.p (.list (.named 3)) a0, .p (.list (.named 3)) a1], r := .p .bool out } := by
  refine cok_of_wp Tryd.func50 rfl (k := 26) rfl (Nat.le_of_ble_eq_true rfl) (namesOk_pure rfl rfl rfl rfl) ?_
  intro B hN
  refine WpC.conv (Conv.keep (U := Un) (b := ⟨[(0, .p (.list (.named 3)) a0), (1, .p (.list (.named 3)) a1)], []⟩) [0, 1] [] (by kernel_rfl)) ?_
  unfold lex_Piece_50.f at h
  refine WpC.seq ?_
  refine WpC.reg (U := Un) (st1 := ⟨[(0, .p (.list (.named 3)) a0), (1, .p (.list (.named 3)) a1)], []⟩) [0, 1] [] hN (.cons (sok_move (U := Un) (rs := []) rfl (.inr rfl) (.bool _ _)) .nil) (by kernel_rfl) (by kernel_rfl) (by kernel_rfl) (Conv.refl (U := Un) _) ?_
  refine thenQ_normal ?_
  refine WpC.seq ?_
  refine WpC.seq ?_
  refine WpC.reg (U := Un) (st1 := ⟨[(0, .p (.list (.named 3)) a0), (1, .p (.list (.named 3)) a1), (10, .p .bool (((a0.length : Int) != (a1.length : Int)) : Bool))], []⟩) [0, 1, 10] [] hN (.cons (mv (U := Un) (v := .p (.list (.named 3)) a0) rfl rfl) (.cons (sok_lenL (U := Un) (rs := [(6, .p (.list (.named 3)) a0)]) rfl rfl Tryd.underlying36 o0) (.cons (mv (U := Un) (v := .p (.list (.named 3)) a1) rfl rfl) (.cons (sok_lenL (U := Un) (rs := [(8, .p (.list (.named 3)) a1)]) rfl rfl Tryd.underlying36 o0) (.cons (sok_cmp (U := Un) (rs := [(7, .p I6 ((a0.length : Int) : Int)), (9, .p I6 ((a1.length : Int) : Int))]) rfl rfl o0 o1 rfl) .nil))))) (by kernel_rfl) (by kernel_rfl) (by kernel_rfl) (Conv.refl (U := Un) _) ?_
  refine thenQ_normal ?_
  refine WpC.cond (U := Un) (b := ((a0.length : Int) != (a1.length : Int))) (.tmp (.tail _ (.tail _ (.head _)))) (fun hc1 => ?_) (fun hc1 => ?_)
  · replace h := ite_t hc1 h
    refine WpC.seq ?_
    refine WpC.reg (U := Un) (st1 := ⟨[(4, .p .bool false)], []⟩) [4] [] hN (.cons (sok_move (U := Un) (rs := []) rfl (.inr rfl) (.bool _ _)) .nil) (by kernel_rfl) (by kernel_rfl) (by kernel_rfl) (Conv.refl (U := Un) _) ?_
    refine thenQ_normal ?_
    refine WpC.ret ?_
    refine thenQ_ret ?_
    have hq := Option.some.inj h
    subst hq
    exact ends_ret (retV_1 rfl (.head _)) ain_nil
  · replace h := ite_f hc1 h
    refine WpC.conv (Conv.keep (U := Un) (b := ⟨[(0, .p (.list (.named 3)) a0), (1, .p (.list (.named 3)) a1)], []⟩) [0, 1] [] (by kernel_rfl)) (WpC.skip ?_)
    refine thenQ_normal ?_
    refine WpC.seqJ (U := Un) (fun st' => lex_Piece_50.j2 k = some out ∧ st' = ⟨[], []⟩) ?_ ?_
    · refine WpC.seq ?_
      refine WpC.reg (U := Un) (st1 := ⟨[(0, .p (.list (.named 3)) a0), (1, .p (.list (.named 3)) a1), (12, .p I6 ((a0.length : Int) : Int)), (13, .p I6 (0 : Int))], []⟩) [0, 1, 12, 13] [] hN (.cons (mv (U := Un) (v := .p (.list (.named 3)) a0) rfl rfl) (.cons (sok_lenL (U := Un) (rs := [(11, .p (.list (.named 3)) a0)]) rfl rfl Tryd.underlying36 o0) (.cons (sok_move (U := Un) (rs := []) rfl (.inl rfl) (.int _ _ _)) .nil))) (by kernel_rfl) (by kernel_rfl) (by kernel_rfl) (Conv.refl (U := Un) _) ?_
      refine thenQ_normal ?_
      refine WpC.block ?_
      obtain ⟨o5, hlo5, h⟩ := bind_some h
      have hout6 := h
      clear h
      refine WpC.loop (U := Un) (fun n st' => ∃ v3 : Int, lex_Piece_50.l4 k a0 a1 n v3 = some o5 ∧ st' = ⟨[(0, .p (.list (.named 3)) a0), (1, .p (.list (.named 3)) a1), (12, .p I6 ((a0.length : Int) : Int)), (13, .p I6 v3)], []⟩) k ⟨0, hlo5, rfl⟩ ?_
      clear hlo5
      rintro (_ | n) _ ⟨v3, h, rfl⟩
      · cases h
      · rw [lex_Piece_50.l4] at h
        refine WpC.seq ?_
        refine WpC.reg (U := Un) (st1 := ⟨[(0, .p (.list (.named 3)) a0), (1, .p (.list (.named 3)) a1), (12, .p I6 ((a0.length : Int) : Int)), (13, .p I6 v3), (14, .p .bool ((decide (v3 < (a0.length : Int))) : Bool))], []⟩) [0, 1, 12, 13, 14] [] hN (.cons (sok_cmp (U := Un) (rs := [(13, .p I6 v3), (12, .p I6 ((a0.length : Int) : Int))]) rfl rfl o0 o1 rfl) .nil) (by kernel_rfl) (by kernel_rfl) (by kernel_rfl) (Conv.refl (U := Un) _) ?_
        refine thenQ_normal ?_
        refine WpC.seq ?_
        refine WpC.cond (U := Un) (b := (decide (v3 < (a0.length : Int)))) (.tmp (.tail _ (.tail _ (.tail _ (.tail _ (.head _)))))) (fun hc7 => ?_) (fun hc7 => ?_)
        · replace h := ite_t hc7 h
          refine WpC.conv (Conv.keep (U := Un) (b := ⟨[(0, .p (.list (.named 3)) a0), (1, .p (.list (.named 3)) a1), (12, .p I6 ((a0.length : Int) : Int)), (13, .p I6 v3)], []⟩) [0, 1, 12, 13] [] (by kernel_rfl)) (WpC.skip ?_)
          refine thenQ_normal ?_
          refine WpC.seq ?_
          refine WpC.block ?_
          refine WpC.seq ?_
          refine WpC.reg (U := Un) (st1 := ⟨[(0, .p (.list (.named 3)) a0), (1, .p (.list (.named 3)) a1), (5, .p I6 v3), (12, .p I6 ((a0.length : Int) : Int)), (13, .p I6 v3)], []⟩) [0, 1, 5, 12, 13] [] hN (.cons (mv (U := Un) (v := .p I6 v3) rfl rfl) (.cons (mva (U := Un) (v := .p I6 v3) rfl rfl) .nil)) (by kernel_rfl) (by kernel_rfl) (by kernel_rfl) (Conv.refl (U := Un) _) ?_
          refine thenQ_normal ?_
          refine WpC.seq ?_
          obtain ⟨v8, hv8, h⟩ := bind_some h
          obtain ⟨v9, hv9, h⟩ := bind_some h
          refine WpC.regA (U := Un) (st1 := ⟨[(0, .p (.list (.named 3)) a0), (1, .p (.list (.named 3)) a1), (12, .p I6 ((a0.length : Int) : Int)), (13, .p I6 v3), (24, .p .bool ((!(v8.f_Kind == v9.f_Kind && (v8.f_Text == v9.f_Text && (v8.f_From == v9.f_From && (v8.f_To == v9.f_To && true))))) : Bool))], []⟩) [0, 1, 12, 13, 24] [] [[], [], [0, 1], [0, 1, 2], [], [], [4, 5], [4, 5, 6], [0, 1, 2, 3, 4, 5, 6, 7]] mixed hN (.cons (mv (U := Un) (v := .p (.list (.named 3)) a0) rfl rfl) (.cons (mv (U := Un) (v := .p I6 v3) rfl rfl) (.cons (sok_indexL (U := Un) (rs := [(16, .p (.list (.named 3)) a0), (17, .p I6 v3)]) rfl rfl sl_36 o0 o1 hv8) (.cons (sok_loadP (U := Un) (rs := [(18, .pp (.named 3) v8)]) rfl rfl ty_42 o0) (.cons (mv (U := Un) (v := .p (.list (.named 3)) a1) rfl rfl) (.cons (mv (U := Un) (v := .p I6 v3) rfl rfl) (.cons (sok_indexL (U := Un) (rs := [(20, .p (.list (.named 3)) a1), (21, .p I6 v3)]) rfl rfl sl_36 o0 o1 hv9) (.cons (sok_loadP (U := Un) (rs := [(22, .pp (.named 3) v9)]) rfl rfl ty_42 o0) (.cons (sok_neS (U := Un) (rs := [(19, .p (.named 3) v8), (23, .p (.named 3) v9)]) rfl rfl Tryd.underlying42 (by kernel_rfl) (eqf_42 _ Tryd.underlying42) (by kernel_rfl) o0 o1) .nil))))))))) (by kernel_rfl) (by kernel_rfl) (by kernel_rfl) (by kernel_rfl) (by kernel_rfl) (Conv.refl (U := Un) _) ?_
          refine thenQ_normal ?_
          refine WpC.cond (U := Un) (b := (!(v8.f_Kind == v9.f_Kind && (v8.f_Text == v9.f_Text && (v8.f_From == v9.f_From && (v8.f_To == v9.f_To && true)))))) (.tmp (.tail _ (.tail _ (.tail _ (.tail _ (.head _)))))) (fun hc10 => ?_) (fun hc10 => ?_)
          · replace h := ite_t hc10 h
            refine WpC.seq ?_
            refine WpC.reg (U := Un) (st1 := ⟨[(4, .p .bool false)], []⟩) [4] [] hN (.cons (sok_move (U := Un) (rs := []) rfl (.inr rfl) (.bool _ _)) .nil) (by kernel_rfl) (by kernel_rfl) (by kernel_rfl) (Conv.refl (U := Un) _) ?_
            refine thenQ_normal ?_
            refine WpC.ret ?_
            refine blockQ_ret ?_
            refine thenQ_ret ?_
            have hq := Option.some.inj h
            subst hq
            refine thenQ_ret ?_
            have h := hout6
            refine blockQ_ret ?_
            refine thenQ_ret ?_
            have hq := Option.some.inj h
            subst hq
            exact ends_ret (retV_1 rfl (.head _)) ain_nil
          · replace h := ite_f hc10 h
            refine WpC.conv (Conv.keep (U := Un) (b := ⟨[(0, .p (.list (.named 3)) a0), (1, .p (.list (.named 3)) a1), (12, .p I6 ((a0.length : Int) : Int)), (13, .p I6 v3)], []⟩) [0, 1, 12, 13] [] (by kernel_rfl)) (WpC.skip ?_)
            refine blockQ_normal ?_
            refine thenQ_normal ?_
            refine WpC.reg (U := Un) (st1 := ⟨[(0, .p (.list (.named 3)) a0), (1, .p (.list (.named 3)) a1), (12, .p I6 ((a0.length : Int) : Int)), (13, .p I6 ((IntKind.i64.wrap (v3 + 1)) : Int))], []⟩) [0, 1, 12, 13] [] hN (.cons (sok_arith (U := Un) (rs := [(13, .p I6 v3)]) rfl rfl o0 (.int _ _ _) rfl) (.cons (mv (U := Un) (v := .p I6 ((IntKind.i64.wrap (v3 + 1)) : Int)) rfl rfl) .nil)) (by kernel_rfl) (by kernel_rfl) (by kernel_rfl) (Conv.refl (U := Un) _) ?_
            refine thenQ_normal ?_
            exact ⟨n, Nat.lt_succ_self n, (IntKind.i64.wrap (v3 + 1)), h, rfl⟩
        · replace h := ite_f hc7 h
          refine WpC.conv (Conv.keep (U := Un) (b := ⟨[], []⟩) [] [] (by kernel_rfl)) (WpC.exit ?_)
          refine thenQ_exit ?_
          have hq := Option.some.inj h
          subst hq
          refine thenQ_exit ?_
          have h := hout6
          refine blockQ_hit ?_
          refine thenQ_normal ?_
          exact ⟨h, rfl⟩
    · rintro _ ⟨h, rfl⟩
      unfold lex_Piece_50.j2 at h
      refine WpC.seq ?_
      refine WpC.reg (U := Un) (st1 := ⟨[(4, .p .bool true)], []⟩) [4] [] hN (.cons (sok_move (U := Un) (rs := []) rfl (.inr rfl) (.bool _ _)) .nil) (by kernel_rfl) (by kernel_rfl) (by kernel_rfl) (Conv.refl (U := Un) _) ?_
      refine thenQ_normal ?_
      refine WpC.ret ?_
      have hq := Option.some.inj h
      subst hq
      exact ends_ret (retV_1 rfl (.head _)) ain_nil

theorem lex_Piece_m0.ok (O : Out) (hO : GOkL O) (k : Nat) (a0 : List (List T_lex_Piece)) (a1 : List (List T_lex_Piece)) (out : Bool) (h : lex_Piece_m0.f k a0 a1 = some out) : COk Un O Tryd.prog 49 { ar := [.p (.list (.list (.named 3))) a0, .p (.list (.list (.named 3))) a1, .clo 50 []], r := .p .bool out } := by
  refine cok_of_wp Tryd.func49 rfl (k := 32) rfl (Nat.le_of_ble_eq_true rfl) (namesOk_pure rfl rfl rfl rfl) ?_
  intro B hN
  refine WpC.conv (Conv.keep (U := Un) (b := ⟨[(0, .p (.list (.list (.named 3))) a0), (1, .p (.list (.list (.named 3))) a1), (2, .clo 50 [])], []⟩) [0, 1, 2] [] (by kernel_rfl)) ?_
  unfold lex_Piece_m0.f at h
  refine WpC.seq ?_
  refine WpC.reg (U := Un) (st1 := ⟨[(0, .p (.list (.list (.named 3))) a0), (1, .p (.list (.list (.named 3))) a1), (2, .clo 50 [])], []⟩) [0, 1, 2] [] hN (.cons (sok_move (U := Un) (rs := []) rfl (.inr rfl) (.bool _ _)) .nil) (by kernel_rfl) (by kernel_rfl) (by kernel_rfl) (Conv.refl (U := Un) _) ?_
  refine thenQ_normal ?_
  refine WpC.seq ?_
  refine WpC.seq ?_
  refine WpC.reg (U := Un) (st1 := ⟨[(0, .p (.list (.list (.named 3))) a0), (1, .p (.list (.list (.named 3))) a1), (2, .clo 50 []), (14, .p .bool (((a0.length : Int) != (a1.length : Int)) : Bool))], []⟩) [0, 1, 2, 14] [] hN (.cons (mv (U := Un) (v := .p (.list (.list (.named 3))) a0) rfl rfl) (.cons (sok_lenL (U := Un) (rs := [(10, .p (.list (.list (.named 3))) a0)]) rfl rfl Tryd.underlying33 o0) (.cons (mv (U := Un) (v := .p (.list (.list (.named 3))) a1) rfl rfl) (.cons (sok_lenL (U := Un) (rs := [(12, .p (.list (.list (.named 3))) a1)]) rfl rfl Tryd.underlying33 o0) (.cons (sok_cmp (U := Un) (rs := [(11, .p I6 ((a0.length : Int) : Int)), (13, .p I6 ((a1.length : Int) : Int))]) rfl rfl o0 o1 rfl) .nil))))) (by kernel_rfl) (by kernel_rfl) (by kernel_rfl) (Conv.refl (U := Un) _) ?_
  refine thenQ_normal ?_
  refine WpC.cond (U := Un) (b := ((a0.length : Int) != (a1.length : Int))) (.tmp (.tail _ (.tail _ (.tail _ (.head _))))) (fun hc1 => ?_) (fun hc1 => ?_)
  · replace h := ite_t hc1 h
    refine WpC.seq ?_
    refine WpC.reg (U := Un) (st1 := ⟨[(6, .p .bool false)], []⟩) [6] [] hN (.cons (sok_move (U := Un) (rs := []) rfl (.inr rfl) (.bool _ _)) .nil) (by kernel_rfl) (by kernel_rfl) (by kernel_rfl) (Conv.refl (U := Un) _) ?_
    refine thenQ_normal ?_
    refine WpC.ret ?_
    refine thenQ_ret ?_
    have hq := Option.some.inj h
    subst hq
    exact ends_ret (retV_1 rfl (.head _)) ain_nil
  · replace h := ite_f hc1 h
    refine WpC.conv (Conv.keep (U := Un) (b := ⟨[(0, .p (.list (.list (.named 3))) a0), (1, .p (.list (.list (.named 3))) a1), (2, .clo 50 [])], []⟩) [0, 1, 2] [] (by kernel_rfl)) (WpC.skip ?_)
    refine thenQ_normal ?_
    refine WpC.seqJ (U := Un) (fun st' => lex_Piece_m0.j2 k = some out ∧ st' = ⟨[], []⟩) ?_ ?_
    · refine WpC.seq ?_
      refine WpC.reg (U := Un) (st1 := ⟨[(1, .p (.list (.list (.named 3))) a1), (2, .clo 50 []), (15, .p (.list (.list (.named 3))) a0), (16, .p I6 ((a0.length : Int) : Int)), (17, .p I6 (0 : Int))], []⟩) [1, 2, 15, 16, 17] [] hN (.cons (mv (U := Un) (v := .p (.list (.list (.named 3))) a0) rfl rfl) (.cons (sok_lenL (U := Un) (rs := [(15, .p (.list (.list (.named 3))) a0)]) rfl rfl Tryd.underlying33 o0) (.cons (sok_move (U := Un) (rs := []) rfl (.inl rfl) (.int _ _ _)) .nil))) (by kernel_rfl) (by kernel_rfl) (by kernel_rfl) (Conv.refl (U := Un) _) ?_
      refine thenQ_normal ?_
      refine WpC.block ?_
      obtain ⟨o5, hlo5, h⟩ := bind_some h
      have hout6 := h
      clear h
      refine WpC.loop (U := Un) (fun n st' => ∃ v3 : Int, lex_Piece_m0.l4 k a0 a1 n v3 = some o5 ∧ st' = ⟨[(1, .p (.list (.list (.named 3))) a1), (2, .clo 50 []), (15, .p (.list (.list (.named 3))) a0), (16, .p I6 ((a0.length : Int) : Int)), (17, .p I6 v3)], []⟩) k ⟨0, hlo5, rfl⟩ ?_
      clear hlo5
      rintro (_ | n) _ ⟨v3, h, rfl⟩
      · cases h
      · rw [lex_Piece_m0.l4] at h
        refine WpC.seq ?_
        refine WpC.reg (U := Un) (st1 := ⟨[(1, .p (.list (.list (.named 3))) a1), (2, .clo 50 []), (15, .p (.list (.list (.named 3))) a0), (16, .p I6 ((a0.length : Int) : Int)), (17, .p I6 v3), (18, .p .bool ((decide (v3 < (a0.length : Int))) : Bool))], []⟩) [1, 2, 15, 16, 17, 18] [] hN (.cons (sok_cmp (U := Un) (rs := [(17, .p I6 v3), (16, .p I6 ((a0.length : Int) : Int))]) rfl rfl o0 o1 rfl) .nil) (by kernel_rfl) (by kernel_rfl) (by kernel_rfl) (Conv.refl (U := Un) _) ?_
        refine thenQ_normal ?_
        refine WpC.seq ?_
        refine WpC.cond (U := Un) (b := (decide (v3 < (a0.length : Int)))) (.tmp (.tail _ (.tail _ (.tail _ (.tail _ (.tail _ (.head _))))))) (fun hc7 => ?_) (fun hc7 => ?_)
        · replace h := ite_t hc7 h
          refine WpC.conv (Conv.keep (U := Un) (b := ⟨[(1, .p (.list (.list (.named 3))) a1), (2, .clo 50 []), (15, .p (.list (.list (.named 3))) a0), (16, .p I6 ((a0.length : Int) : Int)), (17, .p I6 v3)], []⟩) [1, 2, 15, 16, 17] [] (by kernel_rfl)) (WpC.skip ?_)
          refine thenQ_normal ?_
          refine WpC.seq ?_
          refine WpC.block ?_
          refine WpC.seq ?_
          obtain ⟨v8, hv8, h⟩ := bind_some h
          refine WpC.reg (U := Un) (st1 := ⟨[(1, .p (.list (.list (.named 3))) a1), (2, .clo 50 []), (7, .p I6 v3), (8, .p (.list (.named 3)) v8), (15, .p (.list (.list (.named 3))) a0), (16, .p I6 ((a0.length : Int) : Int)), (17, .p I6 v3)], []⟩) [1, 2, 7, 8, 15, 16, 17] [] hN (.cons (mv (U := Un) (v := .p I6 v3) rfl rfl) (.cons (sok_indexL (U := Un) (rs := [(15, .p (.list (.list (.named 3))) a0), (17, .p I6 v3)]) rfl rfl sl_33 o0 o1 hv8) (.cons (sok_loadP (U := Un) (rs := [(20, .pp (.list (.named 3)) v8)]) rfl rfl ty_36 o0) (.cons (mva (U := Un) (v := .p I6 v3) rfl rfl) (.cons (mva (U := Un) (v := .p (.list (.named 3)) v8) rfl rfl) .nil))))) (by kernel_rfl) (by kernel_rfl) (by kernel_rfl) (Conv.refl (U := Un) _) ?_
          refine thenQ_normal ?_
          refine WpC.seq ?_
          obtain ⟨v9, hv9, h⟩ := bind_some h
          refine WpC.reg (U := Un) (st1 := ⟨[(1, .p (.list (.list (.named 3))) a1), (2, .clo 50 []), (8, .p (.list (.named 3)) v8), (9, .p (.list (.named 3)) v9), (15, .p (.list (.list (.named 3))) a0), (16, .p I6 ((a0.length : Int) : Int)), (17, .p I6 v3)], []⟩) [1, 2, 8, 9, 15, 16, 17] [] hN (.cons (mv (U := Un) (v := .p (.list (.list (.named 3))) a1) rfl rfl) (.cons (mv (U := Un) (v := .p I6 v3) rfl rfl) (.cons (sok_indexL (U := Un) (rs := [(22, .p (.list (.list (.named 3))) a1), (23, .p I6 v3)]) rfl rfl sl_33 o0 o1 hv9) (.cons (sok_loadP (U := Un) (rs := [(24, .pp (.list (.named 3)) v9)]) rfl rfl ty_36 o0) (.cons (mva (U := Un) (v := .p (.list (.named 3)) v9) rfl rfl) .nil))))) (by kernel_rfl) (by kernel_rfl) (by kernel_rfl) (Conv.refl (U := Un) _) ?_
          refine thenQ_normal ?_
          refine WpC.seq ?_
          obtain ⟨v10, hv10, h⟩ := bind_some h
          refine WpC.reg (U := Un) (st1 := ⟨[(1, .p (.list (.list (.named 3))) a1), (2, .clo 50 []), (15, .p (.list (.list (.named 3))) a0), (16, .p I6 ((a0.length : Int) : Int)), (17, .p I6 v3), (30, .p .bool ((!v10) : Bool))], []⟩) [1, 2, 15, 16, 17, 30] [] hN (.cons (mv (U := Un) (v := .clo 50 []) rfl rfl) (.cons (mv (U := Un) (v := .p (.list (.named 3)) v8) rfl rfl) (.cons (mv (U := Un) (v := .p (.list (.named 3)) v9) rfl rfl) (.cons (sok_callV (U := Un) (rs := [(27, .p (.list (.named 3)) v8), (28, .p (.list (.named 3)) v9), (26, .clo 50 [])]) (vw := []) rfl rfl (.clo (.tmp (.tail _ (.tail _ (.head _))))) hb_50 (lex_Piece_50.ok O hO k v8 v9 v10 hv10) (.cons o0 (.cons o1 .nil)) (.cons (.same _) (.cons (.same _) .nil)) (by simp) (.inl rfl)) (.cons (sok_not (U := Un) (rs := [(29, .p .bool v10)]) rfl rfl o0) .nil))))) (by kernel_rfl) (by kernel_rfl) (by kernel_rfl) (Conv.refl (U := Un) _) ?_
          refine thenQ_normal ?_
          refine WpC.cond (U := Un) (b := (!v10)) (.tmp (.tail _ (.tail _ (.tail _ (.tail _ (.tail _ (.head _))))))) (fun hc11 => ?_) (fun hc11 => ?_)
          · replace h := ite_t hc11 h
            refine WpC.seq ?_
            refine WpC.reg (U := Un) (st1 := ⟨[(6, .p .bool false)], []⟩) [6] [] hN (.cons (sok_move (U := Un) (rs := []) rfl (.inr rfl) (.bool _ _)) .nil) (by kernel_rfl) (by kernel_rfl) (by kernel_rfl) (Conv.refl (U := Un) _) ?_
            refine thenQ_normal ?_
            refine WpC.ret ?_
            refine blockQ_ret ?_
            refine thenQ_ret ?_
            have hq := Option.some.inj h
            subst hq
            refine thenQ_ret ?_
            have h := hout6
            refine blockQ_ret ?_
            refine thenQ_ret ?_
            have hq := Option.some.inj h
            subst hq
            exact ends_ret (retV_1 rfl (.head _)) ain_nil
          · replace h := ite_f hc11 h
            refine WpC.conv (Conv.keep (U := Un) (b := ⟨[(1, .p (.list (.list (.named 3))) a1), (2, .clo 50 []), (15, .p (.list (.list (.named 3))) a0), (16, .p I6 ((a0.length : Int) : Int)), (17, .p I6 v3)], []⟩) [1, 2, 15, 16, 17] [] (by kernel_rfl)) (WpC.skip ?_)
            refine blockQ_normal ?_
            refine thenQ_normal ?_
            refine WpC.reg (U := Un) (st1 := ⟨[(1, .p (.list (.list (.named 3))) a1), (2, .clo 50 []), (15, .p (.list (.list (.named 3))) a0), (16, .p I6 ((a0.length : Int) : Int)), (17, .p I6 ((IntKind.i64.wrap (v3 + 1)) : Int))], []⟩) [1, 2, 15, 16, 17] [] hN (.cons (sok_arith (U := Un) (rs := [(17, .p I6 v3)]) rfl rfl o0 (.int _ _ _) rfl) (.cons (mv (U := Un) (v := .p I6 ((IntKind.i64.wrap (v3 + 1)) : Int)) rfl rfl) .nil)) (by kernel_rfl) (by kernel_rfl) (by kernel_rfl) (Conv.refl (U := Un) _) ?_
            refine thenQ_normal ?_
            exact ⟨n, Nat.lt_succ_self n, (IntKind.i64.wrap (v3 + 1)), h, rfl⟩
        · replace h := ite_f hc7 h
          refine WpC.conv (Conv.keep (U := Un) (b := ⟨[], []⟩) [] [] (by kernel_rfl)) (WpC.exit ?_)
          refine thenQ_exit ?_
          have hq := Option.some.inj h
          subst hq
          refine thenQ_exit ?_
          have h := hout6
          refine blockQ_hit ?_
          refine thenQ_normal ?_
          exact ⟨h, rfl⟩
    · rintro _ ⟨h, rfl⟩
      unfold lex_Piece_m0.j2 at h
      refine WpC.seq ?_
      refine WpC.reg (U := Un) (st1 := ⟨[(6, .p .bool true)], []⟩) [6] [] hN (.cons (sok_move (U := Un) (rs := []) rfl (.inr rfl) (.bool _ _)) .nil) (by kernel_rfl) (by kernel_rfl) (by kernel_rfl) (Conv.refl (U := Un) _) ?_
      refine thenQ_normal ?_
      refine WpC.ret ?_
      have hq := Option.some.inj h
      subst hq
      exact ends_ret (retV_1 rfl (.head _)) ain_nil

end Go.Proofs.YtnbnfjgedinlbabDoor
