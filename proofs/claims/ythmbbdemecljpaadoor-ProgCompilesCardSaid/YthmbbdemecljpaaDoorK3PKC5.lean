/- A part of the proof of a given law: PKC5. Own work, printed in part by a program of mine. -/
import Derived.Test.YthmbbdemecljpaaDoorK3PKC4
namespace Go.Proofs.YthmbbdemecljpaaDoor
open Go Go.AM
set_option linter.unusedVariables false
set_option linter.unusedSimpArgs false
set_option maxRecDepth 100000
theorem prog_Length.ok (O : Out) (hO : GOkE O) (k : Nat) (a0 : T_rex_Node) (out : Int) (h : prog_Length.f k a0 = some out) : COk Un O Tryd.prog 38 { ar := [.p (.named 4) a0], r := .p I6 out } := by
  refine cok_of_wp Tryd.func38 rfl (k := 12) rfl (Nat.le_of_ble_eq_true rfl) (namesOk_pure rfl rfl rfl rfl) ?_
  intro B hN
  refine WpC.conv (Conv.keep (U := Un) (b := ⟨[(0, .p (.named 4) a0)], []⟩) [0] [] (by kernel_rfl)) ?_
  unfold prog_Length.f at h
  refine WpC.seq ?_
  refine WpC.reg (U := Un) (st1 := ⟨[(1, .loc 1 0)], [(1, .box [.p I6 a0.f_Kind, .p I6 a0.f_Index, .p U6 a0.f_Set, .p (.list (.named 4)) a0.f_Kids])]⟩) [1] [1] hN (.cons (sok_box (U := Un) (rs := [(0, .p (.named 4) a0)]) (d := 1) (us := [.p I6 a0.f_Kind, .p I6 a0.f_Index, .p U6 a0.f_Set, .p (.list (.named 4)) a0.f_Kids]) rfl rfl rfl o0 (.data (.named (.pair (.one _ _) (.pair (.one _ _) (.pair (.one _ _) (.pair (.one _ _) .unit)))))) rfl (notin_of (by kernel_rfl))) (.cons (sok_move (U := Un) (rs := []) rfl (.inr rfl) (.int _ _ _)) .nil)) (by kernel_rfl) (by kernel_rfl) (by kernel_rfl) (Conv.refl (U := Un) _) ?_
  refine thenQ_normal ?_
  refine WpC.seq ?_
  refine WpC.seq ?_
  obtain ⟨v1, hv1, h⟩ := bind_some h
  refine WpC.reg (U := Un) (st1 := ⟨[(1, .loc 1 0), (6, .p .bool ((!v1) : Bool))], [(1, .box [.p I6 a0.f_Kind, .p I6 a0.f_Index, .p U6 a0.f_Set, .p (.list (.named 4)) a0.f_Kids])]⟩) [1, 6] [1] hN (.cons (sok_loadB (U := Un) (t := .named 4) (rs := [(1, .loc 1 0)]) [] [.p I6 a0.f_Kind, .p I6 a0.f_Index, .p U6 a0.f_Set, .p (.list (.named 4)) a0.f_Kids] [] (v := .p (.named 4) ((T_rex_Node.mk a0.f_Kind a0.f_Index a0.f_Set a0.f_Kids) : T_rex_Node)) rfl rfl ty_32 o0 rfl rfl rfl rfl (.data (.named (.pair (.one _ _) (.pair (.one _ _) (.pair (.one _ _) (.pair (.one _ _) .unit))))))) (.cons (sok_callV (U := Un) (rs := [(4, .p (.named 4) ((T_rex_Node.mk a0.f_Kind a0.f_Index a0.f_Set a0.f_Kids) : T_rex_Node))]) (vw := []) rfl rfl (.func _) hb_16 (prog_Right.ok O hO k (T_rex_Node.mk a0.f_Kind a0.f_Index a0.f_Set a0.f_Kids) v1 hv1) (.cons o0 .nil) (.cons (.same _) .nil) (by simp) (.inl rfl)) (.cons (sok_not (U := Un) (rs := [(5, .p .bool v1)]) rfl rfl o0) .nil))) (by kernel_rfl) (by kernel_rfl) (by kernel_rfl) (Conv.refl (U := Un) _) ?_
  refine thenQ_normal ?_
  refine WpC.cond (U := Un) (b := (!v1)) o1 (fun hc2 => ?_) (fun hc2 => ?_)
  · replace h := ite_t hc2 h
    refine WpC.seq ?_
    refine WpC.reg (U := Un) (st1 := ⟨[(2, .p I6 (0 : Int))], []⟩) [2] [] hN (.cons (sok_move (U := Un) (rs := []) rfl (.inr rfl) (.int _ _ _)) .nil) (by kernel_rfl) (by kernel_rfl) (by kernel_rfl) (Conv.refl (U := Un) _) ?_
    refine thenQ_normal ?_
    refine WpC.ret ?_
    refine thenQ_ret ?_
    have hq := Option.some.inj h
    subst hq
    exact ends_ret (retV_1 rfl (.head _)) ain_nil
  · replace h := ite_f hc2 h
    refine WpC.conv (Conv.keep (U := Un) (b := ⟨[(1, .loc 1 0)], [(1, .box [.p I6 a0.f_Kind, .p I6 a0.f_Index, .p U6 a0.f_Set, .p (.list (.named 4)) a0.f_Kids])]⟩) [1] [1] (by kernel_rfl)) (WpC.skip ?_)
    refine thenQ_normal ?_
    refine WpC.seq ?_
    refine WpC.reg (U := Un) (st1 := ⟨[(1, .loc 1 0), (3, .loc 3 0)], [(1, .box [.p I6 a0.f_Kind, .p I6 a0.f_Index, .p U6 a0.f_Set, .p (.list (.named 4)) a0.f_Kids]), (3, .box [.vec 10001 7 0 0]), (10001, .row 28 (.named 3) [] false)]⟩) [1, 3] [1, 3, 10001] hN (.cons (sok_thawU (U := Un) (E := 28) (t := .named 3) (m := 10001) [] [] [] (sok_allocZ (U := Un) (rs := []) (d := 3) (us := [.lit (.slice none 0 0)]) (v := (.agg #[.slice none 0 0])) rfl rfl rfl (by kernel_rfl) rfl (.lit rfl .nil) (by kernel_rfl)) rfl (by kernel_rfl)) .nil) (by kernel_rfl) (by kernel_rfl) (by kernel_rfl) (Conv.refl (U := Un) _) ?_
    refine thenQ_normal ?_
    refine WpC.seq ?_
    obtain ⟨v3, hv3, h⟩ := bind_some h
    refine WpC.reg (U := Un) (st1 := ⟨[(3, .loc 3 0)], [(3, .box [.vec 10002 7 0 v3.length]), (10002, .row 28 (.named 3) v3 false)]⟩) [3] [3, 10002] hN (.cons (sok_loadB (U := Un) (t := .named 4) (rs := [(1, .loc 1 0)]) [] [.p I6 a0.f_Kind, .p I6 a0.f_Index, .p U6 a0.f_Set, .p (.list (.named 4)) a0.f_Kids] [] (v := .p (.named 4) ((T_rex_Node.mk a0.f_Kind a0.f_Index a0.f_Set a0.f_Kids) : T_rex_Node)) rfl rfl ty_32 o0 rfl rfl rfl rfl (.data (.named (.pair (.one _ _) (.pair (.one _ _) (.pair (.one _ _) (.pair (.one _ _) .unit))))))) (.cons (sok_callV (U := Un) (rs := [(3, .loc 3 0), (7, .p (.named 4) ((T_rex_Node.mk a0.f_Kind a0.f_Index a0.f_Set a0.f_Kids) : T_rex_Node))]) (vw := []) rfl rfl (.func _) hb_68 (COk.ren (prog_writer_node_m0.ok O hO k [] (T_rex_Node.mk a0.f_Kind a0.f_Index a0.f_Set a0.f_Kids) v3 hv3) (fun n => if n = 60001 then 10002 else if n = 100000 then 3 else if n = 100001 then 10001 else n) (injOn_of (by kernel_rfl))) (.cons o0 (.cons o1 .nil)) (.cons (.same _) (.cons (.same _) .nil)) (by simp) (.inl rfl)) .nil)) (by kernel_rfl) (by kernel_rfl) (by kernel_rfl) (Conv.refl (U := Un) _) ?_
    refine thenQ_normal ?_
    refine WpC.seq ?_
    refine WpC.reg (U := Un) (st1 := ⟨[(2, .p I6 ((v3.length : Int) : Int))], []⟩) [2] [] hN (.cons (sok_fieldB (U := Un) (rs := [(3, .loc 3 0)]) rfl rfl fd_105_0 (by decide) o0) (.cons (sok_loadB (U := Un) (t := .list (.named 3)) (rs := [(9, .loc 3 0)]) [] [.vec 10002 7 0 v3.length] [] (v := .vec 10002 7 0 v3.length) rfl rfl ty_22 o0 rfl rfl rfl rfl (.hand rfl rfl)) (.cons (sok_lenV (U := Un) (rs := [(10, .vec 10002 7 0 v3.length)]) rfl rfl Tryd.underlying22 o0) (.cons (mva (U := Un) (v := .p I6 ((v3.length : Int) : Int)) rfl rfl) .nil)))) (by kernel_rfl) (by kernel_rfl) (by kernel_rfl) (Conv.refl (U := Un) _) ?_
    refine thenQ_normal ?_
    refine WpC.ret ?_
    have hq := Option.some.inj h
    subst hq
    exact ends_ret (retV_1 rfl (.head _)) ain_nil

theorem prog_Compile.ok (O : Out) (hO : GOkE O) (k : Nat) (a0 : T_rex_Node) (out : (List T_prog_Instr) × Nat) (h : prog_Compile.f k a0 = some out) : COk Un O Tryd.prog 37 { ar := [.p (.named 4) a0], r := .tup [.p (.list (.named 3)) out.1, .p .err out.2] } := by
  refine cok_of_wp Tryd.func37 rfl (k := 26) rfl (Nat.le_of_ble_eq_true rfl) (namesOk_pure rfl rfl rfl rfl) ?_
  intro B hN
  refine WpC.conv (Conv.keep (U := Un) (b := ⟨[(0, .p (.named 4) a0)], []⟩) [0] [] (by kernel_rfl)) ?_
  unfold prog_Compile.f at h
  refine WpC.seq ?_
  refine WpC.reg (U := Un) (st1 := ⟨[(1, .loc 1 0)], [(1, .box [.p I6 a0.f_Kind, .p I6 a0.f_Index, .p U6 a0.f_Set, .p (.list (.named 4)) a0.f_Kids])]⟩) [1] [1] hN (.cons (sok_box (U := Un) (rs := [(0, .p (.named 4) a0)]) (d := 1) (us := [.p I6 a0.f_Kind, .p I6 a0.f_Index, .p U6 a0.f_Set, .p (.list (.named 4)) a0.f_Kids]) rfl rfl rfl o0 (.data (.named (.pair (.one _ _) (.pair (.one _ _) (.pair (.one _ _) (.pair (.one _ _) .unit)))))) rfl (notin_of (by kernel_rfl))) (.cons (sok_move (U := Un) (rs := []) rfl (.inr rfl) (.lit _ _ rfl)) (.cons (sok_move (U := Un) (rs := []) rfl (.inr rfl) (.lit _ _ rfl)) .nil))) (by kernel_rfl) (by kernel_rfl) (by kernel_rfl) (Conv.refl (U := Un) _) ?_
  refine thenQ_normal ?_
  refine WpC.seq ?_
  refine WpC.block ?_
  refine WpC.seq ?_
  obtain ⟨v1, hv1, h⟩ := bind_some h
  refine WpC.reg (U := Un) (st1 := ⟨[(1, .loc 1 0), (5, .p .bool ((!v1) : Bool))], [(1, .box [.p I6 a0.f_Kind, .p I6 a0.f_Index, .p U6 a0.f_Set, .p (.list (.named 4)) a0.f_Kids])]⟩) [1, 5] [1] hN (.cons (sok_loadB (U := Un) (t := .named 4) (rs := [(1, .loc 1 0)]) [] [.p I6 a0.f_Kind, .p I6 a0.f_Index, .p U6 a0.f_Set, .p (.list (.named 4)) a0.f_Kids] [] (v := .p (.named 4) ((T_rex_Node.mk a0.f_Kind a0.f_Index a0.f_Set a0.f_Kids) : T_rex_Node)) rfl rfl ty_32 o0 rfl rfl rfl rfl (.data (.named (.pair (.one _ _) (.pair (.one _ _) (.pair (.one _ _) (.pair (.one _ _) .unit))))))) (.cons (sok_callV (U := Un) (rs := [(6, .p (.named 4) ((T_rex_Node.mk a0.f_Kind a0.f_Index a0.f_Set a0.f_Kids) : T_rex_Node))]) (vw := []) rfl rfl (.func _) hb_16 (prog_Right.ok O hO k (T_rex_Node.mk a0.f_Kind a0.f_Index a0.f_Set a0.f_Kids) v1 hv1) (.cons o0 .nil) (.cons (.same _) .nil) (by simp) (.inl rfl)) (.cons (sok_not (U := Un) (rs := [(7, .p .bool v1)]) rfl rfl o0) (.cons (mva (U := Un) (v := .p .bool ((!v1) : Bool)) rfl rfl) .nil)))) (by kernel_rfl) (by kernel_rfl) (by kernel_rfl) (Conv.refl (U := Un) _) ?_
  refine thenQ_normal ?_
  refine WpC.cond (U := Un) (b := (!v1)) o1 (fun hc2 => ?_) (fun hc2 => ?_)
  · replace h := ite_t hc2 h
    refine WpC.seq ?_
    refine WpC.regA (U := Un) (st1 := ⟨[(2, .lit (.slice none 0 0)), (3, .p .err (17 : Nat))], []⟩) [2, 3] [] [[], [], [0, 1]] mixed hN (.cons (sok_loadG (U := Un) (t := .err) (rs := []) rfl rfl ty_54 rfl rfl (hO.var 16 0 rfl) (fun S w => .err 16)) (.cons (sok_move (U := Un) (rs := []) rfl (.inr rfl) (.lit _ _ rfl)) (.cons (mva (U := Un) (v := .p .err (17 : Nat)) rfl rfl) .nil))) (by kernel_rfl) (by kernel_rfl) (by kernel_rfl) (by kernel_rfl) (by kernel_rfl) (Conv.refl (U := Un) _) ?_
    refine thenQ_normal ?_
    refine WpC.conv (Conv.trans (U := Un) (Conv.nilL (U := Un) 2 (.named 3) (.head _)) (Conv.keep (U := Un) (b := ⟨[(2, .p (.list (.named 3)) ([] : List T_prog_Instr)), (3, .p .err (17 : Nat))], []⟩) [2, 3] [] (by kernel_rfl))) (WpC.ret ?_)
    refine blockQ_ret ?_
    refine thenQ_ret ?_
    have hq := Option.some.inj h
    subst hq
    exact ends_ret (retV_2 rfl (.head _) (.tail _ (.head _))) ain_nil
  · replace h := ite_f hc2 h
    refine WpC.seq ?_
    obtain ⟨v3, hv3, h⟩ := bind_some h
    refine WpC.reg (U := Un) (st1 := ⟨[(1, .loc 1 0), (10, .p .bool ((decide ((IntKind.i64.wrap (v3 + 3)) > 200)) : Bool))], [(1, .box [.p I6 a0.f_Kind, .p I6 a0.f_Index, .p U6 a0.f_Set, .p (.list (.named 4)) a0.f_Kids])]⟩) [1, 10] [1] hN (.cons (sok_loadB (U := Un) (t := .named 4) (rs := [(1, .loc 1 0)]) [] [.p I6 a0.f_Kind, .p I6 a0.f_Index, .p U6 a0.f_Set, .p (.list (.named 4)) a0.f_Kids] [] (v := .p (.named 4) ((T_rex_Node.mk a0.f_Kind a0.f_Index a0.f_Set a0.f_Kids) : T_rex_Node)) rfl rfl ty_32 o0 rfl rfl rfl rfl (.data (.named (.pair (.one _ _) (.pair (.one _ _) (.pair (.one _ _) (.pair (.one _ _) .unit))))))) (.cons (sok_callV (U := Un) (rs := [(11, .p (.named 4) ((T_rex_Node.mk a0.f_Kind a0.f_Index a0.f_Set a0.f_Kids) : T_rex_Node))]) (vw := []) rfl rfl (.func _) hb_38 (prog_Length.ok O hO k (T_rex_Node.mk a0.f_Kind a0.f_Index a0.f_Set a0.f_Kids) v3 hv3) (.cons o0 .nil) (.cons (.same _) .nil) (by simp) (.inl rfl)) (.cons (sok_arith (U := Un) (rs := [(12, .p I6 v3)]) rfl rfl o0 (.int _ _ _) rfl) (.cons (sok_cmp (U := Un) (rs := [(13, .p I6 ((IntKind.i64.wrap (v3 + 3)) : Int))]) rfl rfl o0 (.int _ _ _) rfl) (.cons (mva (U := Un) (v := .p .bool ((decide ((IntKind.i64.wrap (v3 + 3)) > 200)) : Bool)) rfl rfl) .nil))))) (by kernel_rfl) (by kernel_rfl) (by kernel_rfl) (Conv.refl (U := Un) _) ?_
    refine thenQ_normal ?_
    refine WpC.cond (U := Un) (b := (decide ((IntKind.i64.wrap (v3 + 3)) > 200))) o1 (fun hc4 => ?_) (fun hc4 => ?_)
    · replace h := ite_t hc4 h
      refine WpC.seq ?_
      refine WpC.regA (U := Un) (st1 := ⟨[(2, .lit (.slice none 0 0)), (3, .p .err (10 : Nat))], []⟩) [2, 3] [] [[], [], [0, 1]] mixed hN (.cons (sok_loadG (U := Un) (t := .err) (rs := []) rfl rfl ty_54 rfl rfl (hO.var 9 1 rfl) (fun S w => .err 9)) (.cons (sok_move (U := Un) (rs := []) rfl (.inr rfl) (.lit _ _ rfl)) (.cons (mva (U := Un) (v := .p .err (10 : Nat)) rfl rfl) .nil))) (by kernel_rfl) (by kernel_rfl) (by kernel_rfl) (by kernel_rfl) (by kernel_rfl) (Conv.refl (U := Un) _) ?_
      refine thenQ_normal ?_
      refine WpC.conv (Conv.trans (U := Un) (Conv.nilL (U := Un) 2 (.named 3) (.head _)) (Conv.keep (U := Un) (b := ⟨[(2, .p (.list (.named 3)) ([] : List T_prog_Instr)), (3, .p .err (10 : Nat))], []⟩) [2, 3] [] (by kernel_rfl))) (WpC.ret ?_)
      refine blockQ_ret ?_
      refine thenQ_ret ?_
      have hq := Option.some.inj h
      subst hq
      exact ends_ret (retV_2 rfl (.head _) (.tail _ (.head _))) ain_nil
    · replace h := ite_f hc4 h
      refine WpC.conv (Conv.keep (U := Un) (b := ⟨[(1, .loc 1 0)], [(1, .box [.p I6 a0.f_Kind, .p I6 a0.f_Index, .p U6 a0.f_Set, .p (.list (.named 4)) a0.f_Kids])]⟩) [1] [1] (by kernel_rfl)) (WpC.skip ?_)
      refine blockQ_normal ?_
      refine thenQ_normal ?_
      refine WpC.seq ?_
      refine WpC.reg (U := Un) (st1 := ⟨[(1, .loc 1 0), (4, .loc 4 0)], [(1, .box [.p I6 a0.f_Kind, .p I6 a0.f_Index, .p U6 a0.f_Set, .p (.list (.named 4)) a0.f_Kids]), (4, .box [.vec 10001 7 0 0]), (10001, .row 28 (.named 3) [] false)]⟩) [1, 4] [1, 4, 10001] hN (.cons (sok_thawU (U := Un) (E := 28) (t := .named 3) (m := 10001) [] [] [] (sok_allocZ (U := Un) (rs := []) (d := 4) (us := [.lit (.slice none 0 0)]) (v := (.agg #[.slice none 0 0])) rfl rfl rfl (by kernel_rfl) rfl (.lit rfl .nil) (by kernel_rfl)) rfl (by kernel_rfl)) .nil) (by kernel_rfl) (by kernel_rfl) (by kernel_rfl) (Conv.refl (U := Un) _) ?_
      refine thenQ_normal ?_
      refine WpC.seq ?_
      obtain ⟨v5, hv5, h⟩ := bind_some h
      refine WpC.reg (U := Un) (st1 := ⟨[(1, .loc 1 0), (4, .loc 4 0)], [(1, .box [.p I6 a0.f_Kind, .p I6 a0.f_Index, .p U6 a0.f_Set, .p (.list (.named 4)) a0.f_Kids]), (4, .box [.vec 10002 7 0 v5.2.length]), (10002, .row 28 (.named 3) v5.2 false)]⟩) [1, 4] [1, 4, 10002] hN (.cons (sok_build (U := Un) (t := .named 3) (rs := []) (us0 := [.p I6 (0 : Int), .p I6 (0 : Int), .p I6 (0 : Int), .p U6 ((List.replicate 4 (0 : Int)) : List Int)]) (us := [.p I6 (3 : Int), .p I6 (0 : Int), .p I6 (0 : Int), .p U6 ((List.replicate 4 (0 : Int)) : List Int)]) (v := .p (.named 3) ((T_prog_Instr.mk 3 0 0 (List.replicate 4 (0 : Int))) : T_prog_Instr)) rfl rfl lays_28 (.data (fun _ _ _ => .int _ _) (.data (fun _ _ _ => .int _ _) (.data (fun _ _ _ => .int _ _) (.data (rd_zeros _ _) .nil)))) (Filled.cons (U := Un) (i := 0) (v := .p I6 (3 : Int)) [] [.p I6 (0 : Int)] [.p I6 (3 : Int)] [.p I6 (0 : Int), .p I6 (0 : Int), .p U6 ((List.replicate 4 (0 : Int)) : List Int)] (.int _ _ _) (.data (.one _ _)) rfl rfl rfl rfl rfl rfl (Filled.cons (U := Un) (i := 1) (v := .p I6 (0 : Int)) [.p I6 (3 : Int)] [.p I6 (0 : Int)] [.p I6 (0 : Int)] [.p I6 (0 : Int), .p U6 ((List.replicate 4 (0 : Int)) : List Int)] (.int _ _ _) (.data (.one _ _)) rfl rfl rfl rfl rfl rfl (.nil _))) rfl (.data (.named (.pair (.one _ _) (.pair (.one _ _) (.pair (.one _ _) (.pair (.one _ _) .unit))))))) (.cons (sok_callV (U := Un) (rs := [(4, .loc 4 0), (16, .p (.named 3) ((T_prog_Instr.mk 3 0 0 (List.replicate 4 (0 : Int))) : T_prog_Instr))]) (vw := []) rfl rfl (.func _) hb_67 (COk.ren (prog_writer_put_m0.ok O hO k [] (T_prog_Instr.mk 3 0 0 (List.replicate 4 (0 : Int))) v5 hv5) (fun n => if n = 60001 then 10002 else if n = 100000 then 4 else if n = 100001 then 10001 else n) (injOn_of (by kernel_rfl))) (.cons o0 (.cons o1 .nil)) (.cons (.same _) (.cons (.same _) .nil)) (by simp) (.inl rfl)) .nil)) (by kernel_rfl) (by kernel_rfl) (by kernel_rfl) (Conv.refl (U := Un) _) ?_
      refine thenQ_normal ?_
      refine WpC.seq ?_
      obtain ⟨v6, hv6, h⟩ := bind_some h
      refine WpC.reg (U := Un) (st1 := ⟨[(4, .loc 4 0)], [(4, .box [.vec 10003 7 0 v6.length]), (10003, .row 28 (.named 3) v6 false)]⟩) [4] [4, 10003] hN (.cons (sok_loadB (U := Un) (t := .named 4) (rs := [(1, .loc 1 0)]) [] [.p I6 a0.f_Kind, .p I6 a0.f_Index, .p U6 a0.f_Set, .p (.list (.named 4)) a0.f_Kids] [] (v := .p (.named 4) ((T_rex_Node.mk a0.f_Kind a0.f_Index a0.f_Set a0.f_Kids) : T_rex_Node)) rfl rfl ty_32 o0 rfl rfl rfl rfl (.data (.named (.pair (.one _ _) (.pair (.one _ _) (.pair (.one _ _) (.pair (.one _ _) .unit))))))) (.cons (sok_callV (U := Un) (rs := [(4, .loc 4 0), (18, .p (.named 4) ((T_rex_Node.mk a0.f_Kind a0.f_Index a0.f_Set a0.f_Kids) : T_rex_Node))]) (vw := []) rfl rfl (.func _) hb_68 (COk.ren (prog_writer_node_m0.ok O hO k v5.2 (T_rex_Node.mk a0.f_Kind a0.f_Index a0.f_Set a0.f_Kids) v6 hv6) (fun n => if n = 60001 then 10003 else if n = 100000 then 4 else if n = 100001 then 10002 else n) (injOn_of (by kernel_rfl))) (.cons o0 (.cons o1 .nil)) (.cons (.same _) (.cons (.same _) .nil)) (by simp) (.inl rfl)) .nil)) (by kernel_rfl) (by kernel_rfl) (by kernel_rfl) (Conv.refl (U := Un) _) ?_
      refine thenQ_normal ?_
      refine WpC.seq ?_
      obtain ⟨v7, hv7, h⟩ := bind_some h
      refine WpC.reg (U := Un) (st1 := ⟨[(4, .loc 4 0)], [(4, .box [.vec 10004 7 0 v7.2.length]), (10004, .row 28 (.named 3) v7.2 false)]⟩) [4] [4, 10004] hN (.cons (sok_build (U := Un) (t := .named 3) (rs := []) (us0 := [.p I6 (0 : Int), .p I6 (0 : Int), .p I6 (0 : Int), .p U6 ((List.replicate 4 (0 : Int)) : List Int)]) (us := [.p I6 (3 : Int), .p I6 (1 : Int), .p I6 (0 : Int), .p U6 ((List.replicate 4 (0 : Int)) : List Int)]) (v := .p (.named 3) ((T_prog_Instr.mk 3 1 0 (List.replicate 4 (0 : Int))) : T_prog_Instr)) rfl rfl lays_28 (.data (fun _ _ _ => .int _ _) (.data (fun _ _ _ => .int _ _) (.data (fun _ _ _ => .int _ _) (.data (rd_zeros _ _) .nil)))) (Filled.cons (U := Un) (i := 0) (v := .p I6 (3 : Int)) [] [.p I6 (0 : Int)] [.p I6 (3 : Int)] [.p I6 (0 : Int), .p I6 (0 : Int), .p U6 ((List.replicate 4 (0 : Int)) : List Int)] (.int _ _ _) (.data (.one _ _)) rfl rfl rfl rfl rfl rfl (Filled.cons (U := Un) (i := 1) (v := .p I6 (1 : Int)) [.p I6 (3 : Int)] [.p I6 (0 : Int)] [.p I6 (1 : Int)] [.p I6 (0 : Int), .p U6 ((List.replicate 4 (0 : Int)) : List Int)] (.int _ _ _) (.data (.one _ _)) rfl rfl rfl rfl rfl rfl (.nil _))) rfl (.data (.named (.pair (.one _ _) (.pair (.one _ _) (.pair (.one _ _) (.pair (.one _ _) .unit))))))) (.cons (sok_callV (U := Un) (rs := [(4, .loc 4 0), (20, .p (.named 3) ((T_prog_Instr.mk 3 1 0 (List.replicate 4 (0 : Int))) : T_prog_Instr))]) (vw := []) rfl rfl (.func _) hb_67 (COk.ren (prog_writer_put_m0.ok O hO k v6 (T_prog_Instr.mk 3 1 0 (List.replicate 4 (0 : Int))) v7 hv7) (fun n => if n = 60001 then 10004 else if n = 100000 then 4 else if n = 100001 then 10003 else n) (injOn_of (by kernel_rfl))) (.cons o0 (.cons o1 .nil)) (.cons (.same _) (.cons (.same _) .nil)) (by simp) (.inl rfl)) .nil)) (by kernel_rfl) (by kernel_rfl) (by kernel_rfl) (Conv.refl (U := Un) _) ?_
      refine thenQ_normal ?_
      refine WpC.seq ?_
      obtain ⟨v8, hv8, h⟩ := bind_some h
      refine WpC.reg (U := Un) (st1 := ⟨[(4, .loc 4 0)], [(4, .box [.vec 10005 7 0 v8.2.length]), (10005, .row 28 (.named 3) v8.2 false)]⟩) [4] [4, 10005] hN (.cons (sok_build (U := Un) (t := .named 3) (rs := []) (us0 := [.p I6 (0 : Int), .p I6 (0 : Int), .p I6 (0 : Int), .p U6 ((List.replicate 4 (0 : Int)) : List Int)]) (us := [.p I6 (6 : Int), .p I6 (0 : Int), .p I6 (0 : Int), .p U6 ((List.replicate 4 (0 : Int)) : List Int)]) (v := .p (.named 3) ((T_prog_Instr.mk 6 0 0 (List.replicate 4 (0 : Int))) : T_prog_Instr)) rfl rfl lays_28 (.data (fun _ _ _ => .int _ _) (.data (fun _ _ _ => .int _ _) (.data (fun _ _ _ => .int _ _) (.data (rd_zeros _ _) .nil)))) (Filled.cons (U := Un) (i := 0) (v := .p I6 (6 : Int)) [] [.p I6 (0 : Int)] [.p I6 (6 : Int)] [.p I6 (0 : Int), .p I6 (0 : Int), .p U6 ((List.replicate 4 (0 : Int)) : List Int)] (.int _ _ _) (.data (.one _ _)) rfl rfl rfl rfl rfl rfl (.nil _)) rfl (.data (.named (.pair (.one _ _) (.pair (.one _ _) (.pair (.one _ _) (.pair (.one _ _) .unit))))))) (.cons (sok_callV (U := Un) (rs := [(4, .loc 4 0), (22, .p (.named 3) ((T_prog_Instr.mk 6 0 0 (List.replicate 4 (0 : Int))) : T_prog_Instr))]) (vw := []) rfl rfl (.func _) hb_67 (COk.ren (prog_writer_put_m0.ok O hO k v7.2 (T_prog_Instr.mk 6 0 0 (List.replicate 4 (0 : Int))) v8 hv8) (fun n => if n = 60001 then 10005 else if n = 100000 then 4 else if n = 100001 then 10004 else n) (injOn_of (by kernel_rfl))) (.cons o0 (.cons o1 .nil)) (.cons (.same _) (.cons (.same _) .nil)) (by simp) (.inl rfl)) .nil)) (by kernel_rfl) (by kernel_rfl) (by kernel_rfl) (Conv.refl (U := Un) _) ?_
      refine thenQ_normal ?_
      refine WpC.seq ?_
      refine WpC.reg (U := Un) (st1 := ⟨[(2, .vec 10005 7 0 v8.2.length), (3, .lit .nilIface)], [(10005, .row 28 (.named 3) v8.2 false)]⟩) [2, 3] [10005] hN (.cons (sok_fieldB (U := Un) (rs := [(4, .loc 4 0)]) rfl rfl fd_105_0 (by decide) o0) (.cons (sok_loadB (U := Un) (t := .list (.named 3)) (rs := [(24, .loc 4 0)]) [] [.vec 10005 7 0 v8.2.length] [] (v := .vec 10005 7 0 v8.2.length) rfl rfl ty_22 o0 rfl rfl rfl rfl (.hand rfl rfl)) (.cons (mva (U := Un) (v := .vec 10005 7 0 v8.2.length) rfl rfl) (.cons (sok_move (U := Un) (rs := []) rfl (.inr rfl) (.lit _ _ rfl)) .nil)))) (by kernel_rfl) (by kernel_rfl) (by kernel_rfl) (Conv.refl (U := Un) _) ?_
      refine thenQ_normal ?_
      refine WpC.conv (Conv.trans (U := Un) (Conv.freeze (U := Un) 2 10005 28 _ (.named 3) v8.2 false (.head _) (by first | rfl | (simp only [upd_length, List.length_replicate, List.length_append]; done) | (simp only [upd_length, List.length_replicate, List.length_append] at *; omega) | omega) (.head _) (by simp [Blk.names])) (Conv.trans (U := Un) (Conv.keep (U := Un) (b := ⟨[(2, .p (.list (.named 3)) v8.2), (3, .lit .nilIface)], []⟩) [2, 3] [] (by kernel_rfl)) (Conv.trans (U := Un) (Conv.nilE (U := Un) 3 (.tail _ (.head _))) (Conv.keep (U := Un) (b := ⟨[(2, .p (.list (.named 3)) v8.2), (3, .p .err (0 : Nat))], []⟩) [2, 3] [] (by kernel_rfl))))) (WpC.ret ?_)
      have hq := Option.some.inj h
      subst hq
      exact ends_ret (retV_2 rfl (.head _) (.tail _ (.head _))) ain_nil

theorem prog_Of.ok (O : Out) (hO : GOkE O) (k : Nat) (a0 : List UInt8) (out : (List T_prog_Instr) × Nat) (h : prog_Of.f k a0 = some out) : COk Un O Tryd.prog 32 { ar := [.p .str a0], r := .tup [.p (.list (.named 3)) out.1, .p .err out.2] } := by
  refine cok_of_wp Tryd.func32 rfl (k := 18) rfl (Nat.le_of_ble_eq_true rfl) (namesOk_pure rfl rfl rfl rfl) ?_
  intro B hN
  refine WpC.conv (Conv.keep (U := Un) (b := ⟨[(0, .p .str a0)], []⟩) [0] [] (by kernel_rfl)) ?_
  unfold prog_Of.f at h
  refine WpC.seq ?_
  refine WpC.reg (U := Un) (st1 := ⟨[(0, .p .str a0)], []⟩) [0] [] hN (.cons (sok_move (U := Un) (rs := []) rfl (.inr rfl) (.lit _ _ rfl)) (.cons (sok_move (U := Un) (rs := []) rfl (.inr rfl) (.lit _ _ rfl)) .nil)) (by kernel_rfl) (by kernel_rfl) (by kernel_rfl) (Conv.refl (U := Un) _) ?_
  refine thenQ_normal ?_
  refine WpC.seq ?_
  obtain ⟨v1, hv1, h⟩ := bind_some h
  refine WpC.reg (U := Un) (st1 := ⟨[(4, .loc 4 0), (5, .p .err v1.2)], [(4, .box [.p I6 v1.1.f_Kind, .p I6 v1.1.f_Index, .p U6 v1.1.f_Set, .p (.list (.named 4)) v1.1.f_Kids])]⟩) [4, 5] [4] hN (.cons (mv (U := Un) (v := .p .str a0) rfl rfl) (.cons (sok_callV (U := Un) (rs := [(7, .p .str a0)]) (vw := []) rfl rfl (.func _) hb_45 (rex_Parse.ok O hO k a0 v1 hv1) (.cons o0 .nil) (.cons (.same _) .nil) (by simp) (.inl rfl)) (.cons (mv (U := Un) (v := .tup [.p (.named 4) v1.1, .p .err v1.2]) rfl rfl) (.cons (sok_extract (U := Un) (rs := [(6, .tup [.p (.named 4) v1.1, .p .err v1.2])]) rfl rfl o0 rfl) (.cons (sok_extract (U := Un) (rs := [(6, .tup [.p (.named 4) v1.1, .p .err v1.2])]) rfl rfl o0 rfl) (.cons (sok_allocZ (U := Un) (rs := []) (d := 4) (us := [.p I6 (0 : Int), .p I6 (0 : Int), .p U6 ((List.replicate 4 (0 : Int)) : List Int), .p (.list (.named 4)) ([] : List T_rex_Node)]) (v := (.agg #[.int .i64 0, .int .i64 0, .int .u64 0, .int .u64 0, .int .u64 0, .int .u64 0, .slice none 0 0])) rfl rfl rfl (by kernel_rfl) rfl (.data (fun _ _ _ => .int _ _) (.data (fun _ _ _ => .int _ _) (.data (rd_zeros _ _) (.data (fun _ _ _ => .lnil _) .nil)))) (by kernel_rfl)) (.cons (sok_storeB (U := Un) (rs := [(4, .loc 4 0), (9, .p (.named 4) v1.1)]) (v := .p (.named 4) v1.1) (mid' := [.p I6 v1.1.f_Kind, .p I6 v1.1.f_Index, .p U6 v1.1.f_Set, .p (.list (.named 4)) v1.1.f_Kids]) [] [.p I6 (0 : Int), .p I6 (0 : Int), .p U6 ((List.replicate 4 (0 : Int)) : List Int), .p (.list (.named 4)) ([] : List T_rex_Node)] [] rfl rfl rfl ty_32 o0 o1 (.data (.named (.pair (.one _ _) (.pair (.one _ _) (.pair (.one _ _) (.pair (.one _ _) .unit)))))) rfl rfl rfl rfl rfl rfl) (.cons (mva (U := Un) (v := .p .err v1.2) rfl rfl) .nil)))))))) (by kernel_rfl) (by kernel_rfl) (by kernel_rfl) (Conv.refl (U := Un) _) ?_
  refine thenQ_normal ?_
  refine WpC.seq ?_
  refine WpC.seq ?_
  refine WpC.reg (U := Un) (st1 := ⟨[(4, .loc 4 0), (5, .p .err v1.2), (12, .p .bool ((!(v1.2 == 0)) : Bool))], [(4, .box [.p I6 v1.1.f_Kind, .p I6 v1.1.f_Index, .p U6 v1.1.f_Set, .p (.list (.named 4)) v1.1.f_Kids])]⟩) [4, 5, 12] [4] hN (.cons (mv (U := Un) (v := .p .err v1.2) rfl rfl) (.cons (sok_errNil (U := Un) (rs := [(11, .p .err v1.2)]) rfl rfl Tryd.underlying54 o0 rfl) .nil)) (by kernel_rfl) (by kernel_rfl) (by kernel_rfl) (Conv.refl (U := Un) _) ?_
  refine thenQ_normal ?_
  refine WpC.cond (U := Un) (b := (!(v1.2 == 0))) (.tmp (.tail _ (.tail _ (.head _)))) (fun hc2 => ?_) (fun hc2 => ?_)
  · replace h := ite_t hc2 h
    refine WpC.seq ?_
    refine WpC.reg (U := Un) (st1 := ⟨[(2, .lit (.slice none 0 0)), (3, .p .err v1.2)], []⟩) [2, 3] [] hN (.cons (mv (U := Un) (v := .p .err v1.2) rfl rfl) (.cons (sok_move (U := Un) (rs := []) rfl (.inr rfl) (.lit _ _ rfl)) (.cons (mva (U := Un) (v := .p .err v1.2) rfl rfl) .nil))) (by kernel_rfl) (by kernel_rfl) (by kernel_rfl) (Conv.refl (U := Un) _) ?_
    refine thenQ_normal ?_
    refine WpC.conv (Conv.trans (U := Un) (Conv.nilL (U := Un) 2 (.named 3) (.head _)) (Conv.keep (U := Un) (b := ⟨[(2, .p (.list (.named 3)) ([] : List T_prog_Instr)), (3, .p .err v1.2)], []⟩) [2, 3] [] (by kernel_rfl))) (WpC.ret ?_)
    refine thenQ_ret ?_
    have hq := Option.some.inj h
    subst hq
    exact ends_ret (retV_2 rfl (.head _) (.tail _ (.head _))) ain_nil
  · replace h := ite_f hc2 h
    refine WpC.conv (Conv.keep (U := Un) (b := ⟨[(4, .loc 4 0)], [(4, .box [.p I6 v1.1.f_Kind, .p I6 v1.1.f_Index, .p U6 v1.1.f_Set, .p (.list (.named 4)) v1.1.f_Kids])]⟩) [4] [4] (by kernel_rfl)) (WpC.skip ?_)
    refine thenQ_normal ?_
    refine WpC.seq ?_
    obtain ⟨v3, hv3, h⟩ := bind_some h
    refine WpC.reg (U := Un) (st1 := ⟨[(2, .p (.list (.named 3)) v3.1), (3, .p .err v3.2)], []⟩) [2, 3] [] hN (.cons (sok_loadB (U := Un) (t := .named 4) (rs := [(4, .loc 4 0)]) [] [.p I6 v1.1.f_Kind, .p I6 v1.1.f_Index, .p U6 v1.1.f_Set, .p (.list (.named 4)) v1.1.f_Kids] [] (v := .p (.named 4) ((T_rex_Node.mk v1.1.f_Kind v1.1.f_Index v1.1.f_Set v1.1.f_Kids) : T_rex_Node)) rfl rfl ty_32 o0 rfl rfl rfl rfl (.data (.named (.pair (.one _ _) (.pair (.one _ _) (.pair (.one _ _) (.pair (.one _ _) .unit))))))) (.cons (sok_callV (U := Un) (rs := [(14, .p (.named 4) ((T_rex_Node.mk v1.1.f_Kind v1.1.f_Index v1.1.f_Set v1.1.f_Kids) : T_rex_Node))]) (vw := []) rfl rfl (.func _) hb_37 (prog_Compile.ok O hO k (T_rex_Node.mk v1.1.f_Kind v1.1.f_Index v1.1.f_Set v1.1.f_Kids) v3 hv3) (.cons o0 .nil) (.cons (.same _) .nil) (by simp) (.inl rfl)) (.cons (sok_extract (U := Un) (rs := [(15, .tup [.p (.list (.named 3)) v3.1, .p .err v3.2])]) rfl rfl o0 rfl) (.cons (sok_extract (U := Un) (rs := [(15, .tup [.p (.list (.named 3)) v3.1, .p .err v3.2])]) rfl rfl o0 rfl) (.cons (mva (U := Un) (v := .p (.list (.named 3)) v3.1) rfl rfl) (.cons (mva (U := Un) (v := .p .err v3.2) rfl rfl) .nil)))))) (by kernel_rfl) (by kernel_rfl) (by kernel_rfl) (Conv.refl (U := Un) _) ?_
    refine thenQ_normal ?_
    refine WpC.ret ?_
    have hq := Option.some.inj h
    subst hq
    exact ends_ret (retV_2 rfl (.head _) (.tail _ (.head _))) ain_nil

theorem millwrightlaw08_alive.ok (O : Out) (hO : GOkE O) (k : Nat) (out : Bool) (h : millwrightlaw08_alive.f k = some out) : COk Un O Tryd.prog 12 { ar := [], r := .p .bool out } := by
  refine cok_of_wp Tryd.func12 rfl (k := 42) rfl (Nat.le_of_ble_eq_true rfl) (namesOk_pure rfl rfl rfl rfl) ?_
  intro B hN
  refine WpC.conv (Conv.keep (U := Un) (b := ⟨[], []⟩) [] [] (by kernel_rfl)) ?_
  unfold millwrightlaw08_alive.f at h
  refine WpC.seq ?_
  refine WpC.reg (U := Un) (st1 := ⟨[], []⟩) [] [] hN (.cons (sok_move (U := Un) (rs := []) rfl (.inr rfl) (.bool _ _)) .nil) (by kernel_rfl) (by kernel_rfl) (by kernel_rfl) (Conv.refl (U := Un) _) ?_
  refine thenQ_normal ?_
  refine WpC.seq ?_
  obtain ⟨v1, hv1, h⟩ := bind_some h
  refine WpC.reg (U := Un) (st1 := ⟨[(1, .p (.list (.named 3)) v1.1), (2, .p .err v1.2)], []⟩) [1, 2] [] hN (.cons (sok_callV (U := Un) (rs := []) (vw := []) rfl rfl (.func _) hb_32 (prog_Of.ok O hO k ([97, 42] : List UInt8) v1 hv1) (.cons (.str _ _) .nil) (.cons (.same _) .nil) (by simp) (.inl rfl)) (.cons (mv (U := Un) (v := .tup [.p (.list (.named 3)) v1.1, .p .err v1.2]) rfl rfl) (.cons (sok_extract (U := Un) (rs := [(3, .tup [.p (.list (.named 3)) v1.1, .p .err v1.2])]) rfl rfl o0 rfl) (.cons (sok_extract (U := Un) (rs := [(3, .tup [.p (.list (.named 3)) v1.1, .p .err v1.2])]) rfl rfl o0 rfl) (.cons (mva (U := Un) (v := .p (.list (.named 3)) v1.1) rfl rfl) (.cons (mva (U := Un) (v := .p .err v1.2) rfl rfl) .nil)))))) (by kernel_rfl) (by kernel_rfl) (by kernel_rfl) (Conv.refl (U := Un) _) ?_
  refine thenQ_normal ?_
  refine WpC.seq ?_
  rcases bool_cases (v1.2 == 0) with hc2 | hc2
  · replace h := ite_t hc2 h
    rcases bool_cases ((v1.1.length : Int) == 6) with hc3 | hc3
    · replace h := ite_t hc3 h
      obtain ⟨v4, hv4, h⟩ := bind_some h
      rcases bool_cases (v4.f_Op == 1) with hc5 | hc5
      · replace h := ite_t hc5 h
        obtain ⟨v6, hv6, h⟩ := bind_some h
        rcases bool_cases (v6.f_Y == 4) with hc7 | hc7
        · replace h := ite_t hc7 h
          obtain ⟨v8, hv8, h⟩ := bind_some h
          rcases bool_cases (v8.f_Op == 2) with hc9 | hc9
          · replace h := ite_t hc9 h
            obtain ⟨v10, hv10, h⟩ := bind_some h
            refine WpC.reg (U := Un) (st1 := ⟨[(0, .p .bool ((v10.f_Op == 6) : Bool))], []⟩) [0] [] hN (.cons (mv (U := Un) (v := .p .err v1.2) rfl rfl) (.cons (sok_errNil (U := Un) (rs := [(7, .p .err v1.2)]) rfl rfl Tryd.underlying54 o0 rfl) (.cons (mv (U := Un) (v := .p .bool ((v1.2 == 0) : Bool)) rfl rfl) (.cons (sok_run rfl rfl hc2 (mv (U := Un) (v := .p (.list (.named 3)) v1.1) rfl rfl)) (.cons (sok_run rfl rfl hc2 (sok_lenL (U := Un) (rs := [(10, .p (.list (.named 3)) v1.1)]) rfl rfl Tryd.underlying22 o0)) (.cons (sok_run rfl rfl hc2 (sok_cmp (U := Un) (rs := [(11, .p I6 ((v1.1.length : Int) : Int))]) rfl rfl o0 (.int _ _ _) rfl)) (.cons (sok_pickT (U := Un) (rs := [(9, .p .bool ((v1.2 == 0) : Bool)), (12, .p .bool (((v1.1.length : Int) == 6) : Bool))]) rfl rfl o0 hc2 o1) (.cons (mv (U := Un) (v := .p .bool (((v1.1.length : Int) == 6) : Bool)) rfl rfl) (.cons (sok_run rfl rfl hc3 (mv (U := Un) (v := .p (.list (.named 3)) v1.1) rfl rfl)) (.cons (sok_run rfl rfl hc3 (sok_indexL (U := Un) (rs := [(15, .p (.list (.named 3)) v1.1)]) rfl rfl sl_22 o0 (.int _ _ _) hv4)) (.cons (sok_run rfl rfl hc3 (sok_fieldP (U := Un) (rs := [(16, .pp (.named 3) v4)]) rfl rfl fd_28_0 (by decide) o0 (.named (.fst (.here _ _))))) (.cons (sok_run rfl rfl hc3 (sok_loadP (U := Un) (rs := [(17, .pp I6 v4.f_Op)]) rfl rfl ty_3 o0)) (.cons (sok_run rfl rfl hc3 (sok_cmp (U := Un) (rs := [(18, .p I6 v4.f_Op)]) rfl rfl o0 (.int _ _ _) rfl)) (.cons (sok_pickT (U := Un) (rs := [(14, .p .bool (((v1.1.length : Int) == 6) : Bool)), (19, .p .bool ((v4.f_Op == 1) : Bool))]) rfl rfl o0 hc3 o1) (.cons (mv (U := Un) (v := .p .bool ((v4.f_Op == 1) : Bool)) rfl rfl) (.cons (sok_run rfl rfl hc5 (mv (U := Un) (v := .p (.list (.named 3)) v1.1) rfl rfl)) (.cons (sok_run rfl rfl hc5 (sok_indexL (U := Un) (rs := [(22, .p (.list (.named 3)) v1.1)]) rfl rfl sl_22 o0 (.int _ _ _) hv6)) (.cons (sok_run rfl rfl hc5 (sok_fieldP (U := Un) (rs := [(23, .pp (.named 3) v6)]) rfl rfl fd_28_2 (by decide) o0 (.named (.snd (.snd (.fst (.here _ _)) rfl) rfl)))) (.cons (sok_run rfl rfl hc5 (sok_loadP (U := Un) (rs := [(24, .pp I6 v6.f_Y)]) rfl rfl ty_3 o0)) (.cons (sok_run rfl rfl hc5 (sok_cmp (U := Un) (rs := [(25, .p I6 v6.f_Y)]) rfl rfl o0 (.int _ _ _) rfl)) (.cons (sok_pickT (U := Un) (rs := [(21, .p .bool ((v4.f_Op == 1) : Bool)), (26, .p .bool ((v6.f_Y == 4) : Bool))]) rfl rfl o0 hc5 o1) (.cons (mv (U := Un) (v := .p .bool ((v6.f_Y == 4) : Bool)) rfl rfl) (.cons (sok_run rfl rfl hc7 (mv (U := Un) (v := .p (.list (.named 3)) v1.1) rfl rfl)) (.cons (sok_run rfl rfl hc7 (sok_indexL (U := Un) (rs := [(29, .p (.list (.named 3)) v1.1)]) rfl rfl sl_22 o0 (.int _ _ _) hv8)) (.cons (sok_run rfl rfl hc7 (sok_fieldP (U := Un) (rs := [(30, .pp (.named 3) v8)]) rfl rfl fd_28_0 (by decide) o0 (.named (.fst (.here _ _))))) (.cons (sok_run rfl rfl hc7 (sok_loadP (U := Un) (rs := [(31, .pp I6 v8.f_Op)]) rfl rfl ty_3 o0)) (.cons (sok_run rfl rfl hc7 (sok_cmp (U := Un) (rs := [(32, .p I6 v8.f_Op)]) rfl rfl o0 (.int _ _ _) rfl)) (.cons (sok_pickT (U := Un) (rs := [(28, .p .bool ((v6.f_Y == 4) : Bool)), (33, .p .bool ((v8.f_Op == 2) : Bool))]) rfl rfl o0 hc7 o1) (.cons (mv (U := Un) (v := .p .bool ((v8.f_Op == 2) : Bool)) rfl rfl) (.cons (sok_run rfl rfl hc9 (mv (U := Un) (v := .p (.list (.named 3)) v1.1) rfl rfl)) (.cons (sok_run rfl rfl hc9 (sok_indexL (U := Un) (rs := [(36, .p (.list (.named 3)) v1.1)]) rfl rfl sl_22 o0 (.int _ _ _) hv10)) (.cons (sok_run rfl rfl hc9 (sok_fieldP (U := Un) (rs := [(37, .pp (.named 3) v10)]) rfl rfl fd_28_0 (by decide) o0 (.named (.fst (.here _ _))))) (.cons (sok_run rfl rfl hc9 (sok_loadP (U := Un) (rs := [(38, .pp I6 v10.f_Op)]) rfl rfl ty_3 o0)) (.cons (sok_run rfl rfl hc9 (sok_cmp (U := Un) (rs := [(39, .p I6 v10.f_Op)]) rfl rfl o0 (.int _ _ _) rfl)) (.cons (sok_pickT (U := Un) (rs := [(35, .p .bool ((v8.f_Op == 2) : Bool)), (40, .p .bool ((v10.f_Op == 6) : Bool))]) rfl rfl o0 hc9 o1) (.cons (mva (U := Un) (v := .p .bool ((v10.f_Op == 6) : Bool)) rfl rfl) .nil)))))))))))))))))))))))))))))))))))) (by kernel_rfl) (by kernel_rfl) (by kernel_rfl) (Conv.refl (U := Un) _) ?_
            refine thenQ_normal ?_
            refine WpC.ret ?_
            have hq := Option.some.inj h
            subst hq
            exact ends_ret (retV_1 rfl (.head _)) ain_nil
          · replace h := ite_f hc9 h
            refine WpC.reg (U := Un) (st1 := ⟨[(0, .p .bool false)], []⟩) [0] [] hN (.cons (mv (U := Un) (v := .p .err v1.2) rfl rfl) (.cons (sok_errNil (U := Un) (rs := [(7, .p .err v1.2)]) rfl rfl Tryd.underlying54 o0 rfl) (.cons (mv (U := Un) (v := .p .bool ((v1.2 == 0) : Bool)) rfl rfl) (.cons (sok_run rfl rfl hc2 (mv (U := Un) (v := .p (.list (.named 3)) v1.1) rfl rfl)) (.cons (sok_run rfl rfl hc2 (sok_lenL (U := Un) (rs := [(10, .p (.list (.named 3)) v1.1)]) rfl rfl Tryd.underlying22 o0)) (.cons (sok_run rfl rfl hc2 (sok_cmp (U := Un) (rs := [(11, .p I6 ((v1.1.length : Int) : Int))]) rfl rfl o0 (.int _ _ _) rfl)) (.cons (sok_pickT (U := Un) (rs := [(9, .p .bool ((v1.2 == 0) : Bool)), (12, .p .bool (((v1.1.length : Int) == 6) : Bool))]) rfl rfl o0 hc2 o1) (.cons (mv (U := Un) (v := .p .bool (((v1.1.length : Int) == 6) : Bool)) rfl rfl) (.cons (sok_run rfl rfl hc3 (mv (U := Un) (v := .p (.list (.named 3)) v1.1) rfl rfl)) (.cons (sok_run rfl rfl hc3 (sok_indexL (U := Un) (rs := [(15, .p (.list (.named 3)) v1.1)]) rfl rfl sl_22 o0 (.int _ _ _) hv4)) (.cons (sok_run rfl rfl hc3 (sok_fieldP (U := Un) (rs := [(16, .pp (.named 3) v4)]) rfl rfl fd_28_0 (by decide) o0 (.named (.fst (.here _ _))))) (.cons (sok_run rfl rfl hc3 (sok_loadP (U := Un) (rs := [(17, .pp I6 v4.f_Op)]) rfl rfl ty_3 o0)) (.cons (sok_run rfl rfl hc3 (sok_cmp (U := Un) (rs := [(18, .p I6 v4.f_Op)]) rfl rfl o0 (.int _ _ _) rfl)) (.cons (sok_pickT (U := Un) (rs := [(14, .p .bool (((v1.1.length : Int) == 6) : Bool)), (19, .p .bool ((v4.f_Op == 1) : Bool))]) rfl rfl o0 hc3 o1) (.cons (mv (U := Un) (v := .p .bool ((v4.f_Op == 1) : Bool)) rfl rfl) (.cons (sok_run rfl rfl hc5 (mv (U := Un) (v := .p (.list (.named 3)) v1.1) rfl rfl)) (.cons (sok_run rfl rfl hc5 (sok_indexL (U := Un) (rs := [(22, .p (.list (.named 3)) v1.1)]) rfl rfl sl_22 o0 (.int _ _ _) hv6)) (.cons (sok_run rfl rfl hc5 (sok_fieldP (U := Un) (rs := [(23, .pp (.named 3) v6)]) rfl rfl fd_28_2 (by decide) o0 (.named (.snd (.snd (.fst (.here _ _)) rfl) rfl)))) (.cons (sok_run rfl rfl hc5 (sok_loadP (U := Un) (rs := [(24, .pp I6 v6.f_Y)]) rfl rfl ty_3 o0)) (.cons (sok_run rfl rfl hc5 (sok_cmp (U := Un) (rs := [(25, .p I6 v6.f_Y)]) rfl rfl o0 (.int _ _ _) rfl)) (.cons (sok_pickT (U := Un) (rs := [(21, .p .bool ((v4.f_Op == 1) : Bool)), (26, .p .bool ((v6.f_Y == 4) : Bool))]) rfl rfl o0 hc5 o1) (.cons (mv (U := Un) (v := .p .bool ((v6.f_Y == 4) : Bool)) rfl rfl) (.cons (sok_run rfl rfl hc7 (mv (U := Un) (v := .p (.list (.named 3)) v1.1) rfl rfl)) (.cons (sok_run rfl rfl hc7 (sok_indexL (U := Un) (rs := [(29, .p (.list (.named 3)) v1.1)]) rfl rfl sl_22 o0 (.int _ _ _) hv8)) (.cons (sok_run rfl rfl hc7 (sok_fieldP (U := Un) (rs := [(30, .pp (.named 3) v8)]) rfl rfl fd_28_0 (by decide) o0 (.named (.fst (.here _ _))))) (.cons (sok_run rfl rfl hc7 (sok_loadP (U := Un) (rs := [(31, .pp I6 v8.f_Op)]) rfl rfl ty_3 o0)) (.cons (sok_run rfl rfl hc7 (sok_cmp (U := Un) (rs := [(32, .p I6 v8.f_Op)]) rfl rfl o0 (.int _ _ _) rfl)) (.cons (sok_pickT (U := Un) (rs := [(28, .p .bool ((v6.f_Y == 4) : Bool)), (33, .p .bool ((v8.f_Op == 2) : Bool))]) rfl rfl o0 hc7 o1) (.cons (mv (U := Un) (v := .p .bool ((v8.f_Op == 2) : Bool)) rfl rfl) (.cons (sok_skip rfl rfl hc9) (.cons (sok_skip rfl rfl hc9) (.cons (sok_skip rfl rfl hc9) (.cons (sok_skip rfl rfl hc9) (.cons (sok_skip rfl rfl hc9) (.cons (sok_pickF (U := Un) (rs := [(35, .p .bool ((v8.f_Op == 2) : Bool))]) rfl rfl o0 hc9 (.bool _ _)) (.cons (mva (U := Un) (v := .p .bool false) rfl rfl) .nil)))))))))))))))))))))))))))))))))))) (by kernel_rfl) (by kernel_rfl) (by kernel_rfl) (Conv.refl (U := Un) _) ?_
            refine thenQ_normal ?_
            refine WpC.ret ?_
            have hq := Option.some.inj h
            subst hq
            exact ends_ret (retV_1 rfl (.head _)) ain_nil
        · replace h := ite_f hc7 h
          refine WpC.reg (U := Un) (st1 := ⟨[(0, .p .bool false)], []⟩) [0] [] hN (.cons (mv (U := Un) (v := .p .err v1.2) rfl rfl) (.cons (sok_errNil (U := Un) (rs := [(7, .p .err v1.2)]) rfl rfl Tryd.underlying54 o0 rfl) (.cons (mv (U := Un) (v := .p .bool ((v1.2 == 0) : Bool)) rfl rfl) (.cons (sok_run rfl rfl hc2 (mv (U := Un) (v := .p (.list (.named 3)) v1.1) rfl rfl)) (.cons (sok_run rfl rfl hc2 (sok_lenL (U := Un) (rs := [(10, .p (.list (.named 3)) v1.1)]) rfl rfl Tryd.underlying22 o0)) (.cons (sok_run rfl rfl hc2 (sok_cmp (U := Un) (rs := [(11, .p I6 ((v1.1.length : Int) : Int))]) rfl rfl o0 (.int _ _ _) rfl)) (.cons (sok_pickT (U := Un) (rs := [(9, .p .bool ((v1.2 == 0) : Bool)), (12, .p .bool (((v1.1.length : Int) == 6) : Bool))]) rfl rfl o0 hc2 o1) (.cons (mv (U := Un) (v := .p .bool (((v1.1.length : Int) == 6) : Bool)) rfl rfl) (.cons (sok_run rfl rfl hc3 (mv (U := Un) (v := .p (.list (.named 3)) v1.1) rfl rfl)) (.cons (sok_run rfl rfl hc3 (sok_indexL (U := Un) (rs := [(15, .p (.list (.named 3)) v1.1)]) rfl rfl sl_22 o0 (.int _ _ _) hv4)) (.cons (sok_run rfl rfl hc3 (sok_fieldP (U := Un) (rs := [(16, .pp (.named 3) v4)]) rfl rfl fd_28_0 (by decide) o0 (.named (.fst (.here _ _))))) (.cons (sok_run rfl rfl hc3 (sok_loadP (U := Un) (rs := [(17, .pp I6 v4.f_Op)]) rfl rfl ty_3 o0)) (.cons (sok_run rfl rfl hc3 (sok_cmp (U := Un) (rs := [(18, .p I6 v4.f_Op)]) rfl rfl o0 (.int _ _ _) rfl)) (.cons (sok_pickT (U := Un) (rs := [(14, .p .bool (((v1.1.length : Int) == 6) : Bool)), (19, .p .bool ((v4.f_Op == 1) : Bool))]) rfl rfl o0 hc3 o1) (.cons (mv (U := Un) (v := .p .bool ((v4.f_Op == 1) : Bool)) rfl rfl) (.cons (sok_run rfl rfl hc5 (mv (U := Un) (v := .p (.list (.named 3)) v1.1) rfl rfl)) (.cons (sok_run rfl rfl hc5 (sok_indexL (U := Un) (rs := [(22, .p (.list (.named 3)) v1.1)]) rfl rfl sl_22 o0 (.int _ _ _) hv6)) (.cons (sok_run rfl rfl hc5 (sok_fieldP (U := Un) (rs := [(23, .pp (.named 3) v6)]) rfl rfl fd_28_2 (by decide) o0 (.named (.snd (.snd (.fst (.here _ _)) rfl) rfl)))) (.cons (sok_run rfl rfl hc5 (sok_loadP (U := Un) (rs := [(24, .pp I6 v6.f_Y)]) rfl rfl ty_3 o0)) (.cons (sok_run rfl rfl hc5 (sok_cmp (U := Un) (rs := [(25, .p I6 v6.f_Y)]) rfl rfl o0 (.int _ _ _) rfl)) (.cons (sok_pickT (U := Un) (rs := [(21, .p .bool ((v4.f_Op == 1) : Bool)), (26, .p .bool ((v6.f_Y == 4) : Bool))]) rfl rfl o0 hc5 o1) (.cons (mv (U := Un) (v := .p .bool ((v6.f_Y == 4) : Bool)) rfl rfl) (.cons (sok_skip rfl rfl hc7) (.cons (sok_skip rfl rfl hc7) (.cons (sok_skip rfl rfl hc7) (.cons (sok_skip rfl rfl hc7) (.cons (sok_skip rfl rfl hc7) (.cons (sok_pickF (U := Un) (rs := [(28, .p .bool ((v6.f_Y == 4) : Bool))]) rfl rfl o0 hc7 (.bool _ _)) (.cons (mv (U := Un) (v := .p .bool false) rfl rfl) (.cons (sok_skip rfl rfl rfl) (.cons (sok_skip rfl rfl rfl) (.cons (sok_skip rfl rfl rfl) (.cons (sok_skip rfl rfl rfl) (.cons (sok_skip rfl rfl rfl) (.cons (sok_pickF (U := Un) (rs := [(35, .p .bool false)]) rfl rfl o0 rfl (.bool _ _)) (.cons (mva (U := Un) (v := .p .bool false) rfl rfl) .nil)))))))))))))))))))))))))))))))))))) (by kernel_rfl) (by kernel_rfl) (by kernel_rfl) (Conv.refl (U := Un) _) ?_
          refine thenQ_normal ?_
          refine WpC.ret ?_
          have hq := Option.some.inj h
          subst hq
          exact ends_ret (retV_1 rfl (.head _)) ain_nil
      · replace h := ite_f hc5 h
        refine WpC.reg (U := Un) (st1 := ⟨[(0, .p .bool false)], []⟩) [0] [] hN (.cons (mv (U := Un) (v := .p .err v1.2) rfl rfl) (.cons (sok_errNil (U := Un) (rs := [(7, .p .err v1.2)]) rfl rfl Tryd.underlying54 o0 rfl) (.cons (mv (U := Un) (v := .p .bool ((v1.2 == 0) : Bool)) rfl rfl) (.cons (sok_run rfl rfl hc2 (mv (U := Un) (v := .p (.list (.named 3)) v1.1) rfl rfl)) (.cons (sok_run rfl rfl hc2 (sok_lenL (U := Un) (rs := [(10, .p (.list (.named 3)) v1.1)]) rfl rfl Tryd.underlying22 o0)) (.cons (sok_run rfl rfl hc2 (sok_cmp (U := Un) (rs := [(11, .p I6 ((v1.1.length : Int) : Int))]) rfl rfl o0 (.int _ _ _) rfl)) (.cons (sok_pickT (U := Un) (rs := [(9, .p .bool ((v1.2 == 0) : Bool)), (12, .p .bool (((v1.1.length : Int) == 6) : Bool))]) rfl rfl o0 hc2 o1) (.cons (mv (U := Un) (v := .p .bool (((v1.1.length : Int) == 6) : Bool)) rfl rfl) (.cons (sok_run rfl rfl hc3 (mv (U := Un) (v := .p (.list (.named 3)) v1.1) rfl rfl)) (.cons (sok_run rfl rfl hc3 (sok_indexL (U := Un) (rs := [(15, .p (.list (.named 3)) v1.1)]) rfl rfl sl_22 o0 (.int _ _ _) hv4)) (.cons (sok_run rfl rfl hc3 (sok_fieldP (U := Un) (rs := [(16, .pp (.named 3) v4)]) rfl rfl fd_28_0 (by decide) o0 (.named (.fst (.here _ _))))) (.cons (sok_run rfl rfl hc3 (sok_loadP (U := Un) (rs := [(17, .pp I6 v4.f_Op)]) rfl rfl ty_3 o0)) (.cons (sok_run rfl rfl hc3 (sok_cmp (U := Un) (rs := [(18, .p I6 v4.f_Op)]) rfl rfl o0 (.int _ _ _) rfl)) (.cons (sok_pickT (U := Un) (rs := [(14, .p .bool (((v1.1.length : Int) == 6) : Bool)), (19, .p .bool ((v4.f_Op == 1) : Bool))]) rfl rfl o0 hc3 o1) (.cons (mv (U := Un) (v := .p .bool ((v4.f_Op == 1) : Bool)) rfl rfl) (.cons (sok_skip rfl rfl hc5) (.cons (sok_skip rfl rfl hc5) (.cons (sok_skip rfl rfl hc5) (.cons (sok_skip rfl rfl hc5) (.cons (sok_skip rfl rfl hc5) (.cons (sok_pickF (U := Un) (rs := [(21, .p .bool ((v4.f_Op == 1) : Bool))]) rfl rfl o0 hc5 (.bool _ _)) (.cons (mv (U := Un) (v := .p .bool false) rfl rfl) (.cons (sok_skip rfl rfl rfl) (.cons (sok_skip rfl rfl rfl) (.cons (sok_skip rfl rfl rfl) (.cons (sok_skip rfl rfl rfl) (.cons (sok_skip rfl rfl rfl) (.cons (sok_pickF (U := Un) (rs := [(28, .p .bool false)]) rfl rfl o0 rfl (.bool _ _)) (.cons (mv (U := Un) (v := .p .bool false) rfl rfl) (.cons (sok_skip rfl rfl rfl) (.cons (sok_skip rfl rfl rfl) (.cons (sok_skip rfl rfl rfl) (.cons (sok_skip rfl rfl rfl) (.cons (sok_skip rfl rfl rfl) (.cons (sok_pickF (U := Un) (rs := [(35, .p .bool false)]) rfl rfl o0 rfl (.bool _ _)) (.cons (mva (U := Un) (v := .p .bool false) rfl rfl) .nil)))))))))))))))))))))))))))))))))))) (by kernel_rfl) (by kernel_rfl) (by kernel_rfl) (Conv.refl (U := Un) _) ?_
        refine thenQ_normal ?_
        refine WpC.ret ?_
        have hq := Option.some.inj h
        subst hq
        exact ends_ret (retV_1 rfl (.head _)) ain_nil
    · replace h := ite_f hc3 h
      refine WpC.reg (U := Un) (st1 := ⟨[(0, .p .bool false)], []⟩) [0] [] hN (.cons (mv (U := Un) (v := .p .err v1.2) rfl rfl) (.cons (sok_errNil (U := Un) (rs := [(7, .p .err v1.2)]) rfl rfl Tryd.underlying54 o0 rfl) (.cons (mv (U := Un) (v := .p .bool ((v1.2 == 0) : Bool)) rfl rfl) (.cons (sok_run rfl rfl hc2 (mv (U := Un) (v := .p (.list (.named 3)) v1.1) rfl rfl)) (.cons (sok_run rfl rfl hc2 (sok_lenL (U := Un) (rs := [(10, .p (.list (.named 3)) v1.1)]) rfl rfl Tryd.underlying22 o0)) (.cons (sok_run rfl rfl hc2 (sok_cmp (U := Un) (rs := [(11, .p I6 ((v1.1.length : Int) : Int))]) rfl rfl o0 (.int _ _ _) rfl)) (.cons (sok_pickT (U := Un) (rs := [(9, .p .bool ((v1.2 == 0) : Bool)), (12, .p .bool (((v1.1.length : Int) == 6) : Bool))]) rfl rfl o0 hc2 o1) (.cons (mv (U := Un) (v := .p .bool (((v1.1.length : Int) == 6) : Bool)) rfl rfl) (.cons (sok_skip rfl rfl hc3) (.cons (sok_skip rfl rfl hc3) (.cons (sok_skip rfl rfl hc3) (.cons (sok_skip rfl rfl hc3) (.cons (sok_skip rfl rfl hc3) (.cons (sok_pickF (U := Un) (rs := [(14, .p .bool (((v1.1.length : Int) == 6) : Bool))]) rfl rfl o0 hc3 (.bool _ _)) (.cons (mv (U := Un) (v := .p .bool false) rfl rfl) (.cons (sok_skip rfl rfl rfl) (.cons (sok_skip rfl rfl rfl) (.cons (sok_skip rfl rfl rfl) (.cons (sok_skip rfl rfl rfl) (.cons (sok_skip rfl rfl rfl) (.cons (sok_pickF (U := Un) (rs := [(21, .p .bool false)]) rfl rfl o0 rfl (.bool _ _)) (.cons (mv (U := Un) (v := .p .bool false) rfl rfl) (.cons (sok_skip rfl rfl rfl) (.cons (sok_skip rfl rfl rfl) (.cons (sok_skip rfl rfl rfl) (.cons (sok_skip rfl rfl rfl) (.cons (sok_skip rfl rfl rfl) (.cons (sok_pickF (U := Un) (rs := [(28, .p .bool false)]) rfl rfl o0 rfl (.bool _ _)) (.cons (mv (U := Un) (v := .p .bool false) rfl rfl) (.cons (sok_skip rfl rfl rfl) (.cons (sok_skip rfl rfl rfl) (.cons (sok_skip rfl rfl rfl) (.cons (sok_skip rfl rfl rfl) (.cons (sok_skip rfl rfl rfl) (.cons (sok_pickF (U := Un) (rs := [(35, .p .bool false)]) rfl rfl o0 rfl (.bool _ _)) (.cons (mva (U := Un) (v := .p .bool false) rfl rfl) .nil)))))))))))))))))))))))))))))))))))) (by kernel_rfl) (by kernel_rfl) (by kernel_rfl) (Conv.refl (U := Un) _) ?_
      refine thenQ_normal ?_
      refine WpC.ret ?_
      have hq := Option.some.inj h
      subst hq
      exact ends_ret (retV_1 rfl (.head _)) ain_nil
  · replace h := ite_f hc2 h
    refine WpC.reg (U := Un) (st1 := ⟨[(0, .p .bool false)], []⟩) [0] [] hN (.cons (mv (U := Un) (v := .p .err v1.2) rfl rfl) (.cons (sok_errNil (U := Un) (rs := [(7, .p .err v1.2)]) rfl rfl Tryd.underlying54 o0 rfl) (.cons (mv (U := Un) (v := .p .bool ((v1.2 == 0) : Bool)) rfl rfl) (.cons (sok_skip rfl rfl hc2) (.cons (sok_skip rfl rfl hc2) (.cons (sok_skip rfl rfl hc2) (.cons (sok_pickF (U := Un) (rs := [(9, .p .bool ((v1.2 == 0) : Bool))]) rfl rfl o0 hc2 (.bool _ _)) (.cons (mv (U := Un) (v := .p .bool false) rfl rfl) (.cons (sok_skip rfl rfl rfl) (.cons (sok_skip rfl rfl rfl) (.cons (sok_skip rfl rfl rfl) (.cons (sok_skip rfl rfl rfl) (.cons (sok_skip rfl rfl rfl) (.cons (sok_pickF (U := Un) (rs := [(14, .p .bool false)]) rfl rfl o0 rfl (.bool _ _)) (.cons (mv (U := Un) (v := .p .bool false) rfl rfl) (.cons (sok_skip rfl rfl rfl) (.cons (sok_skip rfl rfl rfl) (.cons (sok_skip rfl rfl rfl) (.cons (sok_skip rfl rfl rfl) (.cons (sok_skip rfl rfl rfl) (.cons (sok_pickF (U := Un) (rs := [(21, .p .bool false)]) rfl rfl o0 rfl (.bool _ _)) (.cons (mv (U := Un) (v := .p .bool false) rfl rfl) (.cons (sok_skip rfl rfl rfl) (.cons (sok_skip rfl rfl rfl) (.cons (sok_skip rfl rfl rfl) (.cons (sok_skip rfl rfl rfl) (.cons (sok_skip rfl rfl rfl) (.cons (sok_pickF (U := Un) (rs := [(28, .p .bool false)]) rfl rfl o0 rfl (.bool _ _)) (.cons (mv (U := Un) (v := .p .bool false) rfl rfl) (.cons (sok_skip rfl rfl rfl) (.cons (sok_skip rfl rfl rfl) (.cons (sok_skip rfl rfl rfl) (.cons (sok_skip rfl rfl rfl) (.cons (sok_skip rfl rfl rfl) (.cons (sok_pickF (U := Un) (rs := [(35, .p .bool false)]) rfl rfl o0 rfl (.bool _ _)) (.cons (mva (U := Un) (v := .p .bool false) rfl rfl) .nil)))))))))))))))))))))))))))))))))))) (by kernel_rfl) (by kernel_rfl) (by kernel_rfl) (Conv.refl (U := Un) _) ?_
    refine thenQ_normal ?_
    refine WpC.ret ?_
    have hq := Option.some.inj h
    subst hq
    exact ends_ret (retV_1 rfl (.head _)) ain_nil

theorem millwrightlaw08_left.bok (O : Out) (hO : GOkE O) (k : Nat) (rf_millwrightlaw08_left : T_rex_Node → Int → Option Int) (hrf_millwrightlaw08_left : ∀ (a0 : T_rex_Node) (a1 : Int) (out : Int), rf_millwrightlaw08_left a0 a1 = some out → COk Un O Tryd.prog 48 { ar := [.p (.named 4) a0, .p I6 a1], r := .p I6 out }) (a0 : T_rex_Node) (a1 : Int) (out : Int) (h : millwrightlaw08_left.b k rf_millwrightlaw08_left a0 a1 = some out) : COk Un O Tryd.prog 48 { ar := [.p (.named 4) a0, .p I6 a1], r := .p I6 out } := by
  refine cok_of_wp Tryd.func48 rfl (k := 23) rfl (Nat.le_of_ble_eq_true rfl) (namesOk_pure rfl rfl rfl rfl) ?_
  intro B hN
  refine WpC.conv (Conv.keep (U := Un) (b := ⟨[(0, .p (.named 4) a0), (1, .p I6 a1)], []⟩) [0, 1] [] (by kernel_rfl)) ?_
  unfold millwrightlaw08_left.b at h
  refine WpC.seq ?_
  refine WpC.reg (U := Un) (st1 := ⟨[(1, .p I6 a1), (2, .loc 2 0)], [(2, .box [.p I6 a0.f_Kind, .p I6 a0.f_Index, .p U6 a0.f_Set, .p (.list (.named 4)) a0.f_Kids])]⟩) [1, 2] [2] hN (.cons (sok_box (U := Un) (rs := [(0, .p (.named 4) a0)]) (d := 2) (us := [.p I6 a0.f_Kind, .p I6 a0.f_Index, .p U6 a0.f_Set, .p (.list (.named 4)) a0.f_Kids]) rfl rfl rfl o0 (.data (.named (.pair (.one _ _) (.pair (.one _ _) (.pair (.one _ _) (.pair (.one _ _) .unit)))))) rfl (notin_of (by kernel_rfl))) (.cons (sok_move (U := Un) (rs := []) rfl (.inr rfl) (.int _ _ _)) .nil)) (by kernel_rfl) (by kernel_rfl) (by kernel_rfl) (Conv.refl (U := Un) _) ?_
  refine thenQ_normal ?_
  refine WpC.seq ?_
  refine WpC.reg (U := Un) (st1 := ⟨[(1, .p I6 ((IntKind.i64.wrap (a1 - 1)) : Int)), (2, .loc 2 0)], [(2, .box [.p I6 a0.f_Kind, .p I6 a0.f_Index, .p U6 a0.f_Set, .p (.list (.named 4)) a0.f_Kids])]⟩) [1, 2] [2] hN (.cons (mv (U := Un) (v := .p I6 a1) rfl rfl) (.cons (sok_arith (U := Un) (rs := [(7, .p I6 a1)]) rfl rfl o0 (.int _ _ _) rfl) (.cons (mva (U := Un) (v := .p I6 ((IntKind.i64.wrap (a1 - 1)) : Int)) rfl rfl) .nil))) (by kernel_rfl) (by kernel_rfl) (by kernel_rfl) (Conv.refl (U := Un) _) ?_
  refine thenQ_normal ?_
  refine WpC.seqJ (U := Un) (fun st' => ∃ v1 : Int, millwrightlaw08_left.j2 k v1 = some out ∧ st' = ⟨[(1, .p I6 v1)], []⟩) ?_ ?_
  · refine WpC.seq ?_
    refine WpC.reg (U := Un) (st1 := ⟨[(1, .p I6 ((IntKind.i64.wrap (a1 - 1)) : Int)), (10, .p (.list (.named 4)) a0.f_Kids), (11, .p I6 ((a0.f_Kids.length : Int) : Int)), (12, .p I6 (0 : Int))], []⟩) [1, 10, 11, 12] [] hN (.cons (sok_fieldB (U := Un) (rs := [(2, .loc 2 0)]) rfl rfl fd_32_3 (by decide) o0) (.cons (sok_loadB (U := Un) (t := .list (.named 4)) (rs := [(9, .loc 2 6)]) [.p I6 a0.f_Kind, .p I6 a0.f_Index, .p U6 a0.f_Set] [.p (.list (.named 4)) a0.f_Kids] [] (v := .p (.list (.named 4)) a0.f_Kids) rfl rfl ty_30 o0 rfl rfl rfl rfl (.data (.one _ _))) (.cons (sok_lenL (U := Un) (rs := [(10, .p (.list (.named 4)) a0.f_Kids)]) rfl rfl Tryd.underlying30 o0) (.cons (sok_move (U := Un) (rs := []) rfl (.inl rfl) (.int _ _ _)) .nil)))) (by kernel_rfl) (by kernel_rfl) (by kernel_rfl) (Conv.refl (U := Un) _) ?_
    refine thenQ_normal ?_
    refine WpC.block ?_
    obtain ⟨o7, hlo7, h⟩ := bind_some h
    have hout8 := h
    clear h
    refine WpC.loop (U := Un) (fun n st' => ∃ v3 : Int, ∃ v4 : Int, millwrightlaw08_left.l5 k rf_millwrightlaw08_left a0 n v3 v4 = some o7 ∧ st' = ⟨[(1, .p I6 v3), (10, .p (.list (.named 4)) a0.f_Kids), (11, .p I6 ((a0.f_Kids.length : Int) : Int)), (12, .p I6 v4)], []⟩) k ⟨(IntKind.i64.wrap (a1 - 1)), 0, hlo7, rfl⟩ ?_
    clear hlo7
    rintro (_ | n) _ ⟨v3, v4, h, rfl⟩
    · cases h
    · rw [millwrightlaw08_left.l5] at h
      refine WpC.seq ?_
      refine WpC.reg (U := Un) (st1 := ⟨[(1, .p I6 v3), (10, .p (.list (.named 4)) a0.f_Kids), (11, .p I6 ((a0.f_Kids.length : Int) : Int)), (12, .p I6 v4), (13, .p .bool ((decide (v4 < (a0.f_Kids.length : Int))) : Bool))], []⟩) [1, 10, 11, 12, 13] [] hN (.cons (sok_cmp (U := Un) (rs := [(12, .p I6 v4), (11, .p I6 ((a0.f_Kids.length : Int) : Int))]) rfl rfl o0 o1 rfl) .nil) (by kernel_rfl) (by kernel_rfl) (by kernel_rfl) (Conv.refl (U := Un) _) ?_
      refine thenQ_normal ?_
      refine WpC.seq ?_
      refine WpC.cond (U := Un) (b := (decide (v4 < (a0.f_Kids.length : Int)))) (.tmp (.tail _ (.tail _ (.tail _ (.tail _ (.head _)))))) (fun hc9 => ?_) (fun hc9 => ?_)
      · replace h := ite_t hc9 h
        refine WpC.conv (Conv.keep (U := Un) (b := ⟨[(1, .p I6 v3), (10, .p (.list (.named 4)) a0.f_Kids), (11, .p I6 ((a0.f_Kids.length : Int) : Int)), (12, .p I6 v4)], []⟩) [1, 10, 11, 12] [] (by kernel_rfl)) (WpC.skip ?_)
        refine thenQ_normal ?_
        refine WpC.seq ?_
        refine WpC.block ?_
        refine WpC.seq ?_
        obtain ⟨v10, hv10, h⟩ := bind_some h
        refine WpC.reg (U := Un) (st1 := ⟨[(1, .p I6 v3), (6, .loc 6 0), (10, .p (.list (.named 4)) a0.f_Kids), (11, .p I6 ((a0.f_Kids.length : Int) : Int)), (12, .p I6 v4)], [(6, .box [.p I6 v10.f_Kind, .p I6 v10.f_Index, .p U6 v10.f_Set, .p (.list (.named 4)) v10.f_Kids])]⟩) [1, 6, 10, 11, 12] [6] hN (.cons (sok_indexL (U := Un) (rs := [(10, .p (.list (.named 4)) a0.f_Kids), (12, .p I6 v4)]) rfl rfl sl_30 o0 o1 hv10) (.cons (sok_loadP (U := Un) (rs := [(14, .pp (.named 4) v10)]) rfl rfl ty_32 o0) (.cons (sok_allocZ (U := Un) (rs := []) (d := 6) (us := [.p I6 (0 : Int), .p I6 (0 : Int), .p U6 ((List.replicate 4 (0 : Int)) : List Int), .p (.list (.named 4)) ([] : List T_rex_Node)]) (v := (.agg #[.int .i64 0, .int .i64 0, .int .u64 0, .int .u64 0, .int .u64 0, .int .u64 0, .slice none 0 0])) rfl rfl rfl (by kernel_rfl) rfl (.data (fun _ _ _ => .int _ _) (.data (fun _ _ _ => .int _ _) (.data (rd_zeros _ _) (.data (fun _ _ _ => .lnil _) .nil)))) (by kernel_rfl)) (.cons (sok_storeB (U := Un) (rs := [(6, .loc 6 0), (15, .p (.named 4) v10)]) (v := .p (.named 4) v10) (mid' := [.p I6 v10.f_Kind, .p I6 v10.f_Index, .p U6 v10.f_Set, .p (.list (.named 4)) v10.f_Kids]) [] [.p I6 (0 : Int), .p I6 (0 : Int), .p U6 ((List.replicate 4 (0 : Int)) : List Int), .p (.list (.named 4)) ([] : List T_rex_Node)] [] rfl rfl rfl ty_32 o0 o1 (.data (.named (.pair (.one _ _) (.pair (.one _ _) (.pair (.one _ _) (.pair (.one _ _) .unit)))))) rfl rfl rfl rfl rfl rfl) .nil)))) (by kernel_rfl) (by kernel_rfl) (by kernel_rfl) (Conv.refl (U := Un) _) ?_
        refine thenQ_normal ?_
        refine WpC.seq ?_
        refine WpC.seq ?_
        refine WpC.reg (U := Un) (st1 := ⟨[(1, .p I6 v3), (6, .loc 6 0), (10, .p (.list (.named 4)) a0.f_Kids), (11, .p I6 ((a0.f_Kids.length : Int) : Int)), (12, .p I6 v4), (17, .p .bool ((decide (v3 < 0)) : Bool))], [(6, .box [.p I6 v10.f_Kind, .p I6 v10.f_Index, .p U6 v10.f_Set, .p (.list (.named 4)) v10.f_Kids])]⟩) [1, 6, 10, 11, 12, 17] [6] hN (.cons (mv (U := Un) (v := .p I6 v3) rfl rfl) (.cons (sok_cmp (U := Un) (rs := [(16, .p I6 v3)]) rfl rfl o0 (.int _ _ _) rfl) .nil)) (by kernel_rfl) (by kernel_rfl) (by kernel_rfl) (Conv.refl (U := Un) _) ?_
        refine thenQ_normal ?_
        refine WpC.cond (U := Un) (b := (decide (v3 < 0))) (.tmp (.tail _ (.tail _ (.tail _ (.tail _ (.tail _ (.head _))))))) (fun hc11 => ?_) (fun hc11 => ?_)
        · replace h := ite_t hc11 h
          refine WpC.seq ?_
          refine WpC.reg (U := Un) (st1 := ⟨[(4, .p I6 ((-1) : Int))], []⟩) [4] [] hN (.cons (sok_move (U := Un) (rs := []) rfl (.inr rfl) (.int _ _ _)) .nil) (by kernel_rfl) (by kernel_rfl) (by kernel_rfl) (Conv.refl (U := Un) _) ?_
          refine thenQ_normal ?_
          refine WpC.ret ?_
          refine thenQ_ret ?_
          refine blockQ_ret ?_
          refine thenQ_ret ?_
          have hq := Option.some.inj h
          subst hq
          refine thenQ_ret ?_
          have h := hout8
          refine blockQ_ret ?_
          refine thenQ_ret ?_
          have hq := Option.some.inj h
          subst hq
          exact ends_ret (retV_1 rfl (.head _)) ain_nil
        · replace h := ite_f hc11 h
          refine WpC.conv (Conv.keep (U := Un) (b := ⟨[(1, .p I6 v3), (6, .loc 6 0), (10, .p (.list (.named 4)) a0.f_Kids), (11, .p I6 ((a0.f_Kids.length : Int) : Int)), (12, .p I6 v4)], [(6, .box [.p I6 v10.f_Kind, .p I6 v10.f_Index, .p U6 v10.f_Set, .p (.list (.named 4)) v10.f_Kids])]⟩) [1, 6, 10, 11, 12] [6] (by kernel_rfl)) (WpC.skip ?_)
          refine thenQ_normal ?_
          obtain ⟨v12, hv12, h⟩ := bind_some h
          refine WpC.reg (U := Un) (st1 := ⟨[(1, .p I6 v12), (10, .p (.list (.named 4)) a0.f_Kids), (11, .p I6 ((a0.f_Kids.length : Int) : Int)), (12, .p I6 v4)], []⟩) [1, 10, 11, 12] [] hN (.cons (sok_loadB (U := Un) (t := .named 4) (rs := [(6, .loc 6 0)]) [] [.p I6 v10.f_Kind, .p I6 v10.f_Index, .p U6 v10.f_Set, .p (.list (.named 4)) v10.f_Kids] [] (v := .p (.named 4) ((T_rex_Node.mk v10.f_Kind v10.f_Index v10.f_Set v10.f_Kids) : T_rex_Node)) rfl rfl ty_32 o0 rfl rfl rfl rfl (.data (.named (.pair (.one _ _) (.pair (.one _ _) (.pair (.one _ _) (.pair (.one _ _) .unit))))))) (.cons (mv (U := Un) (v := .p I6 v3) rfl rfl) (.cons (sok_callV (U := Un) (rs := [(18, .p (.named 4) ((T_rex_Node.mk v10.f_Kind v10.f_Index v10.f_Set v10.f_Kids) : T_rex_Node)), (19, .p I6 v3)]) (vw := []) rfl rfl (.func _) hb_48 (hrf_millwrightlaw08_left (T_rex_Node.mk v10.f_Kind v10.f_Index v10.f_Set v10.f_Kids) v3 v12 hv12) (.cons o0 (.cons o1 .nil)) (.cons (.same _) (.cons (.same _) .nil)) (by simp) (.inl rfl)) (.cons (mva (U := Un) (v := .p I6 v12) rfl rfl) .nil)))) (by kernel_rfl) (by kernel_rfl) (by kernel_rfl) (Conv.refl (U := Un) _) ?_
          refine blockQ_normal ?_
          refine thenQ_normal ?_
          refine WpC.reg (U := Un) (st1 := ⟨[(1, .p I6 v12), (10, .p (.list (.named 4)) a0.f_Kids), (11, .p I6 ((a0.f_Kids.length : Int) : Int)), (12, .p I6 ((IntKind.i64.wrap (v4 + 1)) : Int))], []⟩) [1, 10, 11, 12] [] hN (.cons (sok_arith (U := Un) (rs := [(12, .p I6 v4)]) rfl rfl o0 (.int _ _ _) rfl) (.cons (mv (U := Un) (v := .p I6 ((IntKind.i64.wrap (v4 + 1)) : Int)) rfl rfl) .nil)) (by kernel_rfl) (by kernel_rfl) (by kernel_rfl) (Conv.refl (U := Un) _) ?_
          refine thenQ_normal ?_
          exact ⟨n, Nat.lt_succ_self n, v12, (IntKind.i64.wrap (v4 + 1)), h, rfl⟩
      · replace h := ite_f hc9 h
        refine WpC.conv (Conv.keep (U := Un) (b := ⟨[(1, .p I6 v3)], []⟩) [1] [] (by kernel_rfl)) (WpC.exit ?_)
        refine thenQ_exit ?_
        have hq := Option.some.inj h
        subst hq
        refine thenQ_exit ?_
        have h := hout8
        refine blockQ_hit ?_
        refine thenQ_normal ?_
        exact ⟨v3, h, rfl⟩
  · rintro _ ⟨v1, h, rfl⟩
    unfold millwrightlaw08_left.j2 at h
    refine WpC.seq ?_
    refine WpC.reg (U := Un) (st1 := ⟨[(4, .p I6 v1)], []⟩) [4] [] hN (.cons (mv (U := Un) (v := .p I6 v1) rfl rfl) (.cons (mva (U := Un) (v := .p I6 v1) rfl rfl) .nil)) (by kernel_rfl) (by kernel_rfl) (by kernel_rfl) (Conv.refl (U := Un) _) ?_
    refine thenQ_normal ?_
    refine WpC.ret ?_
    have hq := Option.some.inj h
    subst hq
    exact ends_ret (retV_1 rfl (.head _)) ain_nil

theorem scc_millwrightlaw08_left.ok (O : Out) (hO : GOkE O) : ∀ k : Nat, (∀ (a0 : T_rex_Node) (a1 : Int) (out : Int), millwrightlaw08_left.f k a0 a1 = some out → COk Un O Tryd.prog 48 { ar := [.p (.named 4) a0, .p (.int .i64) a1], r := .p (.int .i64) out }) := by
  intro k
  induction k with
  | zero => exact fun a0 a1 out h => (by have h2 : (none : Option Int) = some out := h; cases h2)
  | succ k ih => exact fun a0 a1 out h => millwrightlaw08_left.bok O hO k _ ih a0 a1 out h
theorem millwrightlaw08_left.ok (O : Out) (hO : GOkE O) (k : Nat) (a0 : T_rex_Node) (a1 : Int) (out : Int) (h : millwrightlaw08_left.f k a0 a1 = some out) : COk Un O Tryd.prog 48 { ar := [.p (.named 4) a0, .p (.int .i64) a1], r := .p (.int .i64) out } := (scc_millwrightlaw08_left.ok O hO k) a0 a1 out h

theorem millwrightlaw08_Great.ok (O : Out) (hO : GOkE O) (k : Nat) (a0 : T_rex_Node) (a1 : Int) (out : Bool) (h : millwrightlaw08_Great.f k a0 a1 = some out) : COk Un O Tryd.prog 15 { ar := [.p (.named 4) a0, .p I6 a1], r := .p .bool out } := by
  refine cok_of_wp Tryd.func15 rfl (k := 9) rfl (Nat.le_of_ble_eq_true rfl) (namesOk_pure rfl rfl rfl rfl) ?_
  intro B hN
  refine WpC.conv (Conv.keep (U := Un) (b := ⟨[(0, .p (.named 4) a0), (1, .p I6 a1)], []⟩) [0, 1] [] (by kernel_rfl)) ?_
  unfold millwrightlaw08_Great.f at h
  refine WpC.seq ?_
  refine WpC.reg (U := Un) (st1 := ⟨[(1, .p I6 a1), (2, .loc 2 0)], [(2, .box [.p I6 a0.f_Kind, .p I6 a0.f_Index, .p U6 a0.f_Set, .p (.list (.named 4)) a0.f_Kids])]⟩) [1, 2] [2] hN (.cons (sok_box (U := Un) (rs := [(0, .p (.named 4) a0)]) (d := 2) (us := [.p I6 a0.f_Kind, .p I6 a0.f_Index, .p U6 a0.f_Set, .p (.list (.named 4)) a0.f_Kids]) rfl rfl rfl o0 (.data (.named (.pair (.one _ _) (.pair (.one _ _) (.pair (.one _ _) (.pair (.one _ _) .unit)))))) rfl (notin_of (by kernel_rfl))) (.cons (sok_move (U := Un) (rs := []) rfl (.inr rfl) (.bool _ _)) .nil)) (by kernel_rfl) (by kernel_rfl) (by kernel_rfl) (Conv.refl (U := Un) _) ?_
  refine thenQ_normal ?_
  refine WpC.seq ?_
  obtain ⟨v1, hv1, h⟩ := bind_some h
  refine WpC.reg (U := Un) (st1 := ⟨[(4, .p .bool ((decide (v1 < 0)) : Bool))], []⟩) [4] [] hN (.cons (sok_loadB (U := Un) (t := .named 4) (rs := [(2, .loc 2 0)]) [] [.p I6 a0.f_Kind, .p I6 a0.f_Index, .p U6 a0.f_Set, .p (.list (.named 4)) a0.f_Kids] [] (v := .p (.named 4) ((T_rex_Node.mk a0.f_Kind a0.f_Index a0.f_Set a0.f_Kids) : T_rex_Node)) rfl rfl ty_32 o0 rfl rfl rfl rfl (.data (.named (.pair (.one _ _) (.pair (.one _ _) (.pair (.one _ _) (.pair (.one _ _) .unit))))))) (.cons (mv (U := Un) (v := .p I6 a1) rfl rfl) (.cons (sok_callV (U := Un) (rs := [(5, .p (.named 4) ((T_rex_Node.mk a0.f_Kind a0.f_Index a0.f_Set a0.f_Kids) : T_rex_Node)), (6, .p I6 a1)]) (vw := []) rfl rfl (.func _) hb_48 (millwrightlaw08_left.ok O hO k (T_rex_Node.mk a0.f_Kind a0.f_Index a0.f_Set a0.f_Kids) a1 v1 hv1) (.cons o0 (.cons o1 .nil)) (.cons (.same _) (.cons (.same _) .nil)) (by simp) (.inl rfl)) (.cons (sok_cmp (U := Un) (rs := [(7, .p I6 v1)]) rfl rfl o0 (.int _ _ _) rfl) (.cons (mva (U := Un) (v := .p .bool ((decide (v1 < 0)) : Bool)) rfl rfl) .nil))))) (by kernel_rfl) (by kernel_rfl) (by kernel_rfl) (Conv.refl (U := Un) _) ?_
  refine thenQ_normal ?_
  refine WpC.ret ?_
  have hq := Option.some.inj h
  subst hq
  exact ends_ret (retV_1 rfl (.head _)) ain_nil

end Go.Proofs.YthmbbdemecljpaaDoor
