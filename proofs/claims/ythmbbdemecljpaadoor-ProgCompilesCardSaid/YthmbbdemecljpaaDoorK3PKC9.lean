/- A part of the proof of a given law: PKC9. Own work, printed in part by a program of mine. -/
import Derived.Test.YthmbbdemecljpaaDoorK3PKC8
namespace Go.Proofs.YthmbbdemecljpaaDoor
open Go Go.AM
set_option linter.unusedVariables false
set_option linter.unusedSimpArgs false
set_option maxRecDepth 100000
theorem millwrightlaw08_ProgCompiles.ok (O : Out) (hO : GOkE O) (k : Nat) (a0 : T_rex_Node) (out : Bool) (h : millwrightlaw08_ProgCompiles.f k a0 = some out) : COk Un O Tryd.prog 8 { ar := [.p (.named 4) a0], r := .p .bool out } := by
  refine cok_of_wp Tryd.func8 rfl (k := 67) rfl (Nat.le_of_ble_eq_true rfl) (namesOk_pure rfl rfl rfl rfl) ?_
  intro B hN
  refine WpC.conv (Conv.keep (U := Un) (b := ⟨[(0, .p (.named 4) a0)], []⟩) [0] [] (by kernel_rfl)) ?_
  unfold millwrightlaw08_ProgCompiles.f at h
  refine WpC.seq ?_
  refine WpC.reg (U := Un) (st1 := ⟨[(1, .loc 1 0)], [(1, .box [.p I6 a0.f_Kind, .p I6 a0.f_Index, .p U6 a0.f_Set, .p (.list (.named 4)) a0.f_Kids])]⟩) [1] [1] hN (.cons (sok_box (U := Un) (rs := [(0, .p (.named 4) a0)]) (d := 1) (us := [.p I6 a0.f_Kind, .p I6 a0.f_Index, .p U6 a0.f_Set, .p (.list (.named 4)) a0.f_Kids]) rfl rfl rfl o0 (.data (.named (.pair (.one _ _) (.pair (.one _ _) (.pair (.one _ _) (.pair (.one _ _) .unit)))))) rfl (notin_of (by kernel_rfl))) (.cons (sok_move (U := Un) (rs := []) rfl (.inr rfl) (.bool _ _)) .nil)) (by kernel_rfl) (by kernel_rfl) (by kernel_rfl) (Conv.refl (U := Un) _) ?_
  refine thenQ_normal ?_
  refine WpC.seq ?_
  refine WpC.seq ?_
  obtain ⟨v1, hv1, h⟩ := bind_some h
  refine WpC.reg (U := Un) (st1 := ⟨[(1, .loc 1 0), (8, .p .bool ((!v1) : Bool))], [(1, .box [.p I6 a0.f_Kind, .p I6 a0.f_Index, .p U6 a0.f_Set, .p (.list (.named 4)) a0.f_Kids])]⟩) [1, 8] [1] hN (.cons (sok_callV (U := Un) (rs := []) (vw := []) rfl rfl (.func _) hb_12 (millwrightlaw08_alive.ok O hO k v1 hv1) .nil .nil (by simp) (.inl rfl)) (.cons (sok_not (U := Un) (rs := [(7, .p .bool v1)]) rfl rfl o0) .nil)) (by kernel_rfl) (by kernel_rfl) (by kernel_rfl) (Conv.refl (U := Un) _) ?_
  refine thenQ_normal ?_
  refine WpC.cond (U := Un) (b := (!v1)) o1 (fun hc2 => ?_) (fun hc2 => ?_)
  · replace h := ite_t hc2 h
    refine WpC.seq ?_
    refine WpC.reg (U := Un) (st1 := ⟨[(2, .p .bool false)], []⟩) [2] [] hN (.cons (sok_move (U := Un) (rs := []) rfl (.inr rfl) (.bool _ _)) .nil) (by kernel_rfl) (by kernel_rfl) (by kernel_rfl) (Conv.refl (U := Un) _) ?_
    refine thenQ_normal ?_
    refine WpC.ret ?_
    refine thenQ_ret ?_
    have hq := Option.some.inj h
    subst hq
    exact ends_ret (retV_1 rfl (.head _)) ain_nil
  · replace h := ite_f hc2 h
    refine WpC.conv (Conv.keep (U := Un) (b := ⟨[(1, .loc 1 0)], [(1, .box [.p I6 a0.f_Kind, .p I6 a0.f_Index, .p U6 a0.f_Set, .p (.list (.named 4)) a0.f_Kids])]⟩) [1] [1] (by kernel_rfl)) (WpC.skip ?_)
    refine thenQ_normal ?_
    refine WpC.seq ?_
    refine WpC.seq ?_
    obtain ⟨v3, hv3, h⟩ := bind_some h
    refine WpC.reg (U := Un) (st1 := ⟨[(1, .loc 1 0), (10, .p .bool v3)], [(1, .box [.p I6 a0.f_Kind, .p I6 a0.f_Index, .p U6 a0.f_Set, .p (.list (.named 4)) a0.f_Kids])]⟩) [1, 10] [1] hN (.cons (sok_loadB (U := Un) (t := .named 4) (rs := [(1, .loc 1 0)]) [] [.p I6 a0.f_Kind, .p I6 a0.f_Index, .p U6 a0.f_Set, .p (.list (.named 4)) a0.f_Kids] [] (v := .p (.named 4) ((T_rex_Node.mk a0.f_Kind a0.f_Index a0.f_Set a0.f_Kids) : T_rex_Node)) rfl rfl ty_32 o0 rfl rfl rfl rfl (.data (.named (.pair (.one _ _) (.pair (.one _ _) (.pair (.one _ _) (.pair (.one _ _) .unit))))))) (.cons (sok_callV (U := Un) (rs := [(9, .p (.named 4) ((T_rex_Node.mk a0.f_Kind a0.f_Index a0.f_Set a0.f_Kids) : T_rex_Node))]) (vw := []) rfl rfl (.func _) hb_15 (millwrightlaw08_Great.ok O hO k (T_rex_Node.mk a0.f_Kind a0.f_Index a0.f_Set a0.f_Kids) 120 v3 hv3) (.cons o0 (.cons (.int _ _ _) .nil)) (.cons (.same _) (.cons (.same _) .nil)) (by simp) (.inl rfl)) .nil)) (by kernel_rfl) (by kernel_rfl) (by kernel_rfl) (Conv.refl (U := Un) _) ?_
    refine thenQ_normal ?_
    refine WpC.cond (U := Un) (b := v3) o1 (fun hc4 => ?_) (fun hc4 => ?_)
    · replace h := ite_t hc4 h
      refine WpC.seq ?_
      refine WpC.reg (U := Un) (st1 := ⟨[(2, .p .bool true)], []⟩) [2] [] hN (.cons (sok_move (U := Un) (rs := []) rfl (.inr rfl) (.bool _ _)) .nil) (by kernel_rfl) (by kernel_rfl) (by kernel_rfl) (Conv.refl (U := Un) _) ?_
      refine thenQ_normal ?_
      refine WpC.ret ?_
      refine thenQ_ret ?_
      have hq := Option.some.inj h
      subst hq
      exact ends_ret (retV_1 rfl (.head _)) ain_nil
    · replace h := ite_f hc4 h
      refine WpC.conv (Conv.keep (U := Un) (b := ⟨[(1, .loc 1 0)], [(1, .box [.p I6 a0.f_Kind, .p I6 a0.f_Index, .p U6 a0.f_Set, .p (.list (.named 4)) a0.f_Kids])]⟩) [1] [1] (by kernel_rfl)) (WpC.skip ?_)
      refine thenQ_normal ?_
      refine WpC.seq ?_
      obtain ⟨v5, hv5, h⟩ := bind_some h
      refine WpC.reg (U := Un) (st1 := ⟨[(1, .loc 1 0), (3, .loc 3 0)], [(1, .box [.p I6 a0.f_Kind, .p I6 a0.f_Index, .p U6 a0.f_Set, .p (.list (.named 4)) a0.f_Kids]), (3, .box [.p I6 v5.f_Kind, .p I6 v5.f_Index, .p U6 v5.f_Set, .p (.list (.named 5)) v5.f_Kids])]⟩) [1, 3] [1, 3] hN (.cons (sok_loadB (U := Un) (t := .named 4) (rs := [(1, .loc 1 0)]) [] [.p I6 a0.f_Kind, .p I6 a0.f_Index, .p U6 a0.f_Set, .p (.list (.named 4)) a0.f_Kids] [] (v := .p (.named 4) ((T_rex_Node.mk a0.f_Kind a0.f_Index a0.f_Set a0.f_Kids) : T_rex_Node)) rfl rfl ty_32 o0 rfl rfl rfl rfl (.data (.named (.pair (.one _ _) (.pair (.one _ _) (.pair (.one _ _) (.pair (.one _ _) .unit))))))) (.cons (sok_callV (U := Un) (rs := [(11, .p (.named 4) ((T_rex_Node.mk a0.f_Kind a0.f_Index a0.f_Set a0.f_Kids) : T_rex_Node))]) (vw := []) rfl rfl (.func _) hb_22 (millwrightlaw07_Of.ok O hO k (T_rex_Node.mk a0.f_Kind a0.f_Index a0.f_Set a0.f_Kids) v5 hv5) (.cons o0 .nil) (.cons (.same _) .nil) (by simp) (.inl rfl)) (.cons (sok_thawU (U := Un) (E := 42) (t := .named 5) (m := 10001) [.p I6 (0 : Int), .p I6 (0 : Int), .p U6 ((List.replicate 4 (0 : Int)) : List Int)] [] [] (sok_allocZ (U := Un) (rs := []) (d := 3) (us := [.p I6 (0 : Int), .p I6 (0 : Int), .p U6 ((List.replicate 4 (0 : Int)) : List Int), .lit (.slice none 0 0)]) (v := (.agg #[.int .i64 0, .int .i64 0, .int .u64 0, .int .u64 0, .int .u64 0, .int .u64 0, .slice none 0 0])) rfl rfl rfl (by kernel_rfl) rfl (.data (fun _ _ _ => .int _ _) (.data (fun _ _ _ => .int _ _) (.data (rd_zeros _ _) (.lit rfl .nil)))) (by kernel_rfl)) rfl (by kernel_rfl)) (.cons (sok_storeB (U := Un) (rs := [(3, .loc 3 0), (12, .p (.named 5) v5)]) (v := .p (.named 5) v5) (mid' := [.p I6 v5.f_Kind, .p I6 v5.f_Index, .p U6 v5.f_Set, .p (.list (.named 5)) v5.f_Kids]) [] [.p I6 (0 : Int), .p I6 (0 : Int), .p U6 ((List.replicate 4 (0 : Int)) : List Int), .vec 10001 7 0 0] [] rfl rfl rfl ty_42 o0 o1 (.data (.named (.pair (.one _ _) (.pair (.one _ _) (.pair (.one _ _) (.pair (.one _ _) .unit)))))) rfl rfl rfl rfl rfl rfl) .nil)))) (by kernel_rfl) (by kernel_rfl) (by kernel_rfl) (Conv.refl (U := Un) _) ?_
      refine thenQ_normal ?_
      refine WpC.seq ?_
      obtain ⟨v6, hv6, h⟩ := bind_some h
      refine WpC.reg (U := Un) (st1 := ⟨[(1, .loc 1 0), (3, .loc 3 0), (4, .p .bool v6)], [(1, .box [.p I6 a0.f_Kind, .p I6 a0.f_Index, .p U6 a0.f_Set, .p (.list (.named 4)) a0.f_Kids]), (3, .box [.p I6 v5.f_Kind, .p I6 v5.f_Index, .p U6 v5.f_Set, .p (.list (.named 5)) v5.f_Kids])]⟩) [1, 3, 4] [1, 3] hN (.cons (sok_loadB (U := Un) (t := .named 5) (rs := [(3, .loc 3 0)]) [] [.p I6 v5.f_Kind, .p I6 v5.f_Index, .p U6 v5.f_Set, .p (.list (.named 5)) v5.f_Kids] [] (v := .p (.named 5) ((T_millwrightref07_Node.mk v5.f_Kind v5.f_Index v5.f_Set v5.f_Kids) : T_millwrightref07_Node)) rfl rfl ty_42 o0 rfl rfl rfl rfl (.data (.named (.pair (.one _ _) (.pair (.one _ _) (.pair (.one _ _) (.pair (.one _ _) .unit))))))) (.cons (sok_callV (U := Un) (rs := [(13, .p (.named 5) ((T_millwrightref07_Node.mk v5.f_Kind v5.f_Index v5.f_Set v5.f_Kids) : T_millwrightref07_Node))]) (vw := []) rfl rfl (.func _) hb_23 (millwrightref08_Right.ok O hO k (T_millwrightref07_Node.mk v5.f_Kind v5.f_Index v5.f_Set v5.f_Kids) v6 hv6) (.cons o0 .nil) (.cons (.same _) .nil) (by simp) (.inl rfl)) (.cons (mva (U := Un) (v := .p .bool v6) rfl rfl) .nil))) (by kernel_rfl) (by kernel_rfl) (by kernel_rfl) (Conv.refl (U := Un) _) ?_
      refine thenQ_normal ?_
      refine WpC.seq ?_
      obtain ⟨v7, hv7, h⟩ := bind_some h
      refine WpC.reg (U := Un) (st1 := ⟨[(1, .loc 1 0), (3, .loc 3 0), (4, .p .bool v6), (5, .p (.list (.named 3)) v7.1), (6, .p .err v7.2)], [(1, .box [.p I6 a0.f_Kind, .p I6 a0.f_Index, .p U6 a0.f_Set, .p (.list (.named 4)) a0.f_Kids]), (3, .box [.p I6 v5.f_Kind, .p I6 v5.f_Index, .p U6 v5.f_Set, .p (.list (.named 5)) v5.f_Kids])]⟩) [1, 3, 4, 5, 6] [1, 3] hN (.cons (sok_loadB (U := Un) (t := .named 4) (rs := [(1, .loc 1 0)]) [] [.p I6 a0.f_Kind, .p I6 a0.f_Index, .p U6 a0.f_Set, .p (.list (.named 4)) a0.f_Kids] [] (v := .p (.named 4) ((T_rex_Node.mk a0.f_Kind a0.f_Index a0.f_Set a0.f_Kids) : T_rex_Node)) rfl rfl ty_32 o0 rfl rfl rfl rfl (.data (.named (.pair (.one _ _) (.pair (.one _ _) (.pair (.one _ _) (.pair (.one _ _) .unit))))))) (.cons (sok_callV (U := Un) (rs := [(16, .p (.named 4) ((T_rex_Node.mk a0.f_Kind a0.f_Index a0.f_Set a0.f_Kids) : T_rex_Node))]) (vw := []) rfl rfl (.func _) hb_37 (prog_Compile.ok O hO k (T_rex_Node.mk a0.f_Kind a0.f_Index a0.f_Set a0.f_Kids) v7 hv7) (.cons o0 .nil) (.cons (.same _) .nil) (by simp) (.inl rfl)) (.cons (mv (U := Un) (v := .tup [.p (.list (.named 3)) v7.1, .p .err v7.2]) rfl rfl) (.cons (sok_extract (U := Un) (rs := [(15, .tup [.p (.list (.named 3)) v7.1, .p .err v7.2])]) rfl rfl o0 rfl) (.cons (sok_extract (U := Un) (rs := [(15, .tup [.p (.list (.named 3)) v7.1, .p .err v7.2])]) rfl rfl o0 rfl) (.cons (mva (U := Un) (v := .p (.list (.named 3)) v7.1) rfl rfl) (.cons (mva (U := Un) (v := .p .err v7.2) rfl rfl) .nil))))))) (by kernel_rfl) (by kernel_rfl) (by kernel_rfl) (Conv.refl (U := Un) _) ?_
      refine thenQ_normal ?_
      refine WpC.seq ?_
      refine WpC.seq ?_
      obtain ⟨v8, hv8, h⟩ := bind_some h
      refine WpC.reg (U := Un) (st1 := ⟨[(1, .loc 1 0), (3, .loc 3 0), (4, .p .bool v6), (5, .p (.list (.named 3)) v7.1), (6, .p .err v7.2), (23, .p .bool ((!(v8 == v6)) : Bool))], [(1, .box [.p I6 a0.f_Kind, .p I6 a0.f_Index, .p U6 a0.f_Set, .p (.list (.named 4)) a0.f_Kids]), (3, .box [.p I6 v5.f_Kind, .p I6 v5.f_Index, .p U6 v5.f_Set, .p (.list (.named 5)) v5.f_Kids])]⟩) [1, 3, 4, 5, 6, 23] [1, 3] hN (.cons (sok_loadB (U := Un) (t := .named 4) (rs := [(1, .loc 1 0)]) [] [.p I6 a0.f_Kind, .p I6 a0.f_Index, .p U6 a0.f_Set, .p (.list (.named 4)) a0.f_Kids] [] (v := .p (.named 4) ((T_rex_Node.mk a0.f_Kind a0.f_Index a0.f_Set a0.f_Kids) : T_rex_Node)) rfl rfl ty_32 o0 rfl rfl rfl rfl (.data (.named (.pair (.one _ _) (.pair (.one _ _) (.pair (.one _ _) (.pair (.one _ _) .unit))))))) (.cons (sok_callV (U := Un) (rs := [(20, .p (.named 4) ((T_rex_Node.mk a0.f_Kind a0.f_Index a0.f_Set a0.f_Kids) : T_rex_Node))]) (vw := []) rfl rfl (.func _) hb_16 (prog_Right.ok O hO k (T_rex_Node.mk a0.f_Kind a0.f_Index a0.f_Set a0.f_Kids) v8 hv8) (.cons o0 .nil) (.cons (.same _) .nil) (by simp) (.inl rfl)) (.cons (mv (U := Un) (v := .p .bool v6) rfl rfl) (.cons (sok_neB (U := Un) (rs := [(21, .p .bool v8), (22, .p .bool v6)]) rfl rfl Tryd.underlying4 o0 o1) .nil)))) (by kernel_rfl) (by kernel_rfl) (by kernel_rfl) (Conv.refl (U := Un) _) ?_
      refine thenQ_normal ?_
      refine WpC.cond (U := Un) (b := (!(v8 == v6))) (.tmp (.tail _ (.tail _ (.tail _ (.tail _ (.tail _ (.head _))))))) (fun hc9 => ?_) (fun hc9 => ?_)
      · replace h := ite_t hc9 h
        refine WpC.seq ?_
        refine WpC.reg (U := Un) (st1 := ⟨[(2, .p .bool false)], []⟩) [2] [] hN (.cons (sok_move (U := Un) (rs := []) rfl (.inr rfl) (.bool _ _)) .nil) (by kernel_rfl) (by kernel_rfl) (by kernel_rfl) (Conv.refl (U := Un) _) ?_
        refine thenQ_normal ?_
        refine WpC.ret ?_
        refine thenQ_ret ?_
        have hq := Option.some.inj h
        subst hq
        exact ends_ret (retV_1 rfl (.head _)) ain_nil
      · replace h := ite_f hc9 h
        refine WpC.conv (Conv.keep (U := Un) (b := ⟨[(1, .loc 1 0), (3, .loc 3 0), (4, .p .bool v6), (5, .p (.list (.named 3)) v7.1), (6, .p .err v7.2)], [(1, .box [.p I6 a0.f_Kind, .p I6 a0.f_Index, .p U6 a0.f_Set, .p (.list (.named 4)) a0.f_Kids]), (3, .box [.p I6 v5.f_Kind, .p I6 v5.f_Index, .p U6 v5.f_Set, .p (.list (.named 5)) v5.f_Kids])]⟩) [1, 3, 4, 5, 6] [1, 3] (by kernel_rfl)) (WpC.skip ?_)
        refine thenQ_normal ?_
        refine WpC.seq ?_
        refine WpC.seq ?_
        refine WpC.reg (U := Un) (st1 := ⟨[(1, .loc 1 0), (3, .loc 3 0), (5, .p (.list (.named 3)) v7.1), (6, .p .err v7.2), (25, .p .bool ((!v6) : Bool))], [(1, .box [.p I6 a0.f_Kind, .p I6 a0.f_Index, .p U6 a0.f_Set, .p (.list (.named 4)) a0.f_Kids]), (3, .box [.p I6 v5.f_Kind, .p I6 v5.f_Index, .p U6 v5.f_Set, .p (.list (.named 5)) v5.f_Kids])]⟩) [1, 3, 5, 6, 25] [1, 3] hN (.cons (mv (U := Un) (v := .p .bool v6) rfl rfl) (.cons (sok_not (U := Un) (rs := [(24, .p .bool v6)]) rfl rfl o0) .nil)) (by kernel_rfl) (by kernel_rfl) (by kernel_rfl) (Conv.refl (U := Un) _) ?_
        refine thenQ_normal ?_
        refine WpC.cond (U := Un) (b := (!v6)) (.tmp (.tail _ (.tail _ (.tail _ (.tail _ (.head _)))))) (fun hc10 => ?_) (fun hc10 => ?_)
        · replace h := ite_t hc10 h
          refine WpC.seq ?_
          rcases bool_cases ((v7.1.length : Int) == 0) with hc11 | hc11
          · replace h := ite_t hc11 h
            obtain ⟨v12, hv12, h⟩ := bind_some h
            rcases bool_cases (v12 == 0) with hc13 | hc13
            · replace h := ite_t hc13 h
              obtain ⟨v14, hv14, h⟩ := bind_some h
              refine WpC.reg (U := Un) (st1 := ⟨[(2, .p .bool ((v14 == 17) : Bool))], []⟩) [2] [] hN (.cons (mv (U := Un) (v := .p (.list (.named 3)) v7.1) rfl rfl) (.cons (sok_lenL (U := Un) (rs := [(26, .p (.list (.named 3)) v7.1)]) rfl rfl Tryd.underlying22 o0) (.cons (sok_cmp (U := Un) (rs := [(27, .p I6 ((v7.1.length : Int) : Int))]) rfl rfl o0 (.int _ _ _) rfl) (.cons (mv (U := Un) (v := .p .bool (((v7.1.length : Int) == 0) : Bool)) rfl rfl) (.cons (sok_run rfl rfl hc11 (sok_loadB (U := Un) (t := .named 4) (rs := [(1, .loc 1 0)]) [] [.p I6 a0.f_Kind, .p I6 a0.f_Index, .p U6 a0.f_Set, .p (.list (.named 4)) a0.f_Kids] [] (v := .p (.named 4) ((T_rex_Node.mk a0.f_Kind a0.f_Index a0.f_Set a0.f_Kids) : T_rex_Node)) rfl rfl ty_32 o0 rfl rfl rfl rfl (.data (.named (.pair (.one _ _) (.pair (.one _ _) (.pair (.one _ _) (.pair (.one _ _) .unit)))))))) (.cons (sok_run rfl rfl hc11 (sok_callV (U := Un) (rs := [(30, .p (.named 4) ((T_rex_Node.mk a0.f_Kind a0.f_Index a0.f_Set a0.f_Kids) : T_rex_Node))]) (vw := []) rfl rfl (.func _) hb_38 (prog_Length.ok O hO k (T_rex_Node.mk a0.f_Kind a0.f_Index a0.f_Set a0.f_Kids) v12 hv12) (.cons o0 .nil) (.cons (.same _) .nil) (by simp) (.inl rfl))) (.cons (sok_run rfl rfl hc11 (sok_cmp (U := Un) (rs := [(31, .p I6 v12)]) rfl rfl o0 (.int _ _ _) rfl)) (.cons (sok_pickT (U := Un) (rs := [(29, .p .bool (((v7.1.length : Int) == 0) : Bool)), (32, .p .bool ((v12 == 0) : Bool))]) rfl rfl o0 hc11 o1) (.cons (mv (U := Un) (v := .p .bool ((v12 == 0) : Bool)) rfl rfl) (.cons (sok_run rfl rfl hc13 (mv (U := Un) (v := .p .err v7.2) rfl rfl)) (.cons (sok_run rfl rfl hc13 (sok_callV (U := Un) (rs := [(35, .p .err v7.2)]) (vw := []) rfl rfl (.func _) hb_34 (millwrightnum_Num.ok O hO k v7.2 v14 hv14) (.cons o0 .nil) (.cons (.same _) .nil) (by simp) (.inl rfl))) (.cons (sok_run rfl rfl hc13 (sok_cmp (U := Un) (rs := [(36, .p I6 v14)]) rfl rfl o0 (.int _ _ _) rfl)) (.cons (sok_pickT (U := Un) (rs := [(34, .p .bool ((v12 == 0) : Bool)), (37, .p .bool ((v14 == 17) : Bool))]) rfl rfl o0 hc13 o1) (.cons (mva (U := Un) (v := .p .bool ((v14 == 17) : Bool)) rfl rfl) .nil)))))))))))))) (by kernel_rfl) (by kernel_rfl) (by kernel_rfl) (Conv.refl (U := Un) _) ?_
              refine thenQ_normal ?_
              refine WpC.ret ?_
              refine thenQ_ret ?_
              have hq := Option.some.inj h
              subst hq
              exact ends_ret (retV_1 rfl (.head _)) ain_nil
            · replace h := ite_f hc13 h
              refine WpC.reg (U := Un) (st1 := ⟨[(2, .p .bool false)], []⟩) [2] [] hN (.cons (mv (U := Un) (v := .p (.list (.named 3)) v7.1) rfl rfl) (.cons (sok_lenL (U := Un) (rs := [(26, .p (.list (.named 3)) v7.1)]) rfl rfl Tryd.underlying22 o0) (.cons (sok_cmp (U := Un) (rs := [(27, .p I6 ((v7.1.length : Int) : Int))]) rfl rfl o0 (.int _ _ _) rfl) (.cons (mv (U := Un) (v := .p .bool (((v7.1.length : Int) == 0) : Bool)) rfl rfl) (.cons (sok_run rfl rfl hc11 (sok_loadB (U := Un) (t := .named 4) (rs := [(1, .loc 1 0)]) [] [.p I6 a0.f_Kind, .p I6 a0.f_Index, .p U6 a0.f_Set, .p (.list (.named 4)) a0.f_Kids] [] (v := .p (.named 4) ((T_rex_Node.mk a0.f_Kind a0.f_Index a0.f_Set a0.f_Kids) : T_rex_Node)) rfl rfl ty_32 o0 rfl rfl rfl rfl (.data (.named (.pair (.one _ _) (.pair (.one _ _) (.pair (.one _ _) (.pair (.one _ _) .unit)))))))) (.cons (sok_run rfl rfl hc11 (sok_callV (U := Un) (rs := [(30, .p (.named 4) ((T_rex_Node.mk a0.f_Kind a0.f_Index a0.f_Set a0.f_Kids) : T_rex_Node))]) (vw := []) rfl rfl (.func _) hb_38 (prog_Length.ok O hO k (T_rex_Node.mk a0.f_Kind a0.f_Index a0.f_Set a0.f_Kids) v12 hv12) (.cons o0 .nil) (.cons (.same _) .nil) (by simp) (.inl rfl))) (.cons (sok_run rfl rfl hc11 (sok_cmp (U := Un) (rs := [(31, .p I6 v12)]) rfl rfl o0 (.int _ _ _) rfl)) (.cons (sok_pickT (U := Un) (rs := [(29, .p .bool (((v7.1.length : Int) == 0) : Bool)), (32, .p .bool ((v12 == 0) : Bool))]) rfl rfl o0 hc11 o1) (.cons (mv (U := Un) (v := .p .bool ((v12 == 0) : Bool)) rfl rfl) (.cons (sok_skip rfl rfl hc13) (.cons (sok_skip rfl rfl hc13) (.cons (sok_skip rfl rfl hc13) (.cons (sok_pickF (U := Un) (rs := [(34, .p .bool ((v12 == 0) : Bool))]) rfl rfl o0 hc13 (.bool _ _)) (.cons (mva (U := Un) (v := .p .bool false) rfl rfl) .nil)))))))))))))) (by kernel_rfl) (by kernel_rfl) (by kernel_rfl) (Conv.refl (U := Un) _) ?_
              refine thenQ_normal ?_
              refine WpC.ret ?_
              refine thenQ_ret ?_
              have hq := Option.some.inj h
              subst hq
              exact ends_ret (retV_1 rfl (.head _)) ain_nil
          · replace h := ite_f hc11 h
            refine WpC.reg (U := Un) (st1 := ⟨[(2, .p .bool false)], []⟩) [2] [] hN (.cons (mv (U := Un) (v := .p (.list (.named 3)) v7.1) rfl rfl) (.cons (sok_lenL (U := Un) (rs := [(26, .p (.list (.named 3)) v7.1)]) rfl rfl Tryd.underlying22 o0) (.cons (sok_cmp (U := Un) (rs := [(27, .p I6 ((v7.1.length : Int) : Int))]) rfl rfl o0 (.int _ _ _) rfl) (.cons (mv (U := Un) (v := .p .bool (((v7.1.length : Int) == 0) : Bool)) rfl rfl) (.cons (sok_skip rfl rfl hc11) (.cons (sok_skip rfl rfl hc11) (.cons (sok_skip rfl rfl hc11) (.cons (sok_pickF (U := Un) (rs := [(29, .p .bool (((v7.1.length : Int) == 0) : Bool))]) rfl rfl o0 hc11 (.bool _ _)) (.cons (mv (U := Un) (v := .p .bool false) rfl rfl) (.cons (sok_skip rfl rfl rfl) (.cons (sok_skip rfl rfl rfl) (.cons (sok_skip rfl rfl rfl) (.cons (sok_pickF (U := Un) (rs := [(34, .p .bool false)]) rfl rfl o0 rfl (.bool _ _)) (.cons (mva (U := Un) (v := .p .bool false) rfl rfl) .nil)))))))))))))) (by kernel_rfl) (by kernel_rfl) (by kernel_rfl) (Conv.refl (U := Un) _) ?_
            refine thenQ_normal ?_
            refine WpC.ret ?_
            refine thenQ_ret ?_
            have hq := Option.some.inj h
            subst hq
            exact ends_ret (retV_1 rfl (.head _)) ain_nil
        · replace h := ite_f hc10 h
          refine WpC.conv (Conv.keep (U := Un) (b := ⟨[(1, .loc 1 0), (3, .loc 3 0), (5, .p (.list (.named 3)) v7.1), (6, .p .err v7.2)], [(1, .box [.p I6 a0.f_Kind, .p I6 a0.f_Index, .p U6 a0.f_Set, .p (.list (.named 4)) a0.f_Kids]), (3, .box [.p I6 v5.f_Kind, .p I6 v5.f_Index, .p U6 v5.f_Set, .p (.list (.named 5)) v5.f_Kids])]⟩) [1, 3, 5, 6] [1, 3] (by kernel_rfl)) (WpC.skip ?_)
          refine thenQ_normal ?_
          refine WpC.seq ?_
          refine WpC.seq ?_
          obtain ⟨v15, hv15, h⟩ := bind_some h
          obtain ⟨v16, hv16, h⟩ := bind_some h
          refine WpC.regA (U := Un) (st1 := ⟨[(3, .loc 3 0), (5, .p (.list (.named 3)) v7.1), (6, .p .err v7.2), (43, .p .bool ((v15 != v16) : Bool))], [(3, .box [.p I6 v5.f_Kind, .p I6 v5.f_Index, .p U6 v5.f_Set, .p (.list (.named 5)) v5.f_Kids])]⟩) [3, 5, 6, 43] [3] [[], [0], [], [0, 1, 2], [0, 1, 2, 3]] mixed hN (.cons (sok_loadB (U := Un) (t := .named 4) (rs := [(1, .loc 1 0)]) [] [.p I6 a0.f_Kind, .p I6 a0.f_Index, .p U6 a0.f_Set, .p (.list (.named 4)) a0.f_Kids] [] (v := .p (.named 4) ((T_rex_Node.mk a0.f_Kind a0.f_Index a0.f_Set a0.f_Kids) : T_rex_Node)) rfl rfl ty_32 o0 rfl rfl rfl rfl (.data (.named (.pair (.one _ _) (.pair (.one _ _) (.pair (.one _ _) (.pair (.one _ _) .unit))))))) (.cons (sok_callV (U := Un) (rs := [(39, .p (.named 4) ((T_rex_Node.mk a0.f_Kind a0.f_Index a0.f_Set a0.f_Kids) : T_rex_Node))]) (vw := []) rfl rfl (.func _) hb_38 (prog_Length.ok O hO k (T_rex_Node.mk a0.f_Kind a0.f_Index a0.f_Set a0.f_Kids) v15 hv15) (.cons o0 .nil) (.cons (.same _) .nil) (by simp) (.inl rfl)) (.cons (sok_loadB (U := Un) (t := .named 5) (rs := [(3, .loc 3 0)]) [] [.p I6 v5.f_Kind, .p I6 v5.f_Index, .p U6 v5.f_Set, .p (.list (.named 5)) v5.f_Kids] [] (v := .p (.named 5) ((T_millwrightref07_Node.mk v5.f_Kind v5.f_Index v5.f_Set v5.f_Kids) : T_millwrightref07_Node)) rfl rfl ty_42 o0 rfl rfl rfl rfl (.data (.named (.pair (.one _ _) (.pair (.one _ _) (.pair (.one _ _) (.pair (.one _ _) .unit))))))) (.cons (sok_callV (U := Un) (rs := [(41, .p (.named 5) ((T_millwrightref07_Node.mk v5.f_Kind v5.f_Index v5.f_Set v5.f_Kids) : T_millwrightref07_Node))]) (vw := []) rfl rfl (.func _) hb_39 (millwrightref08_Length.ok O hO k (T_millwrightref07_Node.mk v5.f_Kind v5.f_Index v5.f_Set v5.f_Kids) v16 hv16) (.cons o0 .nil) (.cons (.same _) .nil) (by simp) (.inl rfl)) (.cons (sok_cmp (U := Un) (rs := [(40, .p I6 v15), (42, .p I6 v16)]) rfl rfl o0 o1 rfl) .nil))))) (by kernel_rfl) (by kernel_rfl) (by kernel_rfl) (by kernel_rfl) (by kernel_rfl) (Conv.refl (U := Un) _) ?_
          refine thenQ_normal ?_
          refine WpC.cond (U := Un) (b := (v15 != v16)) (.tmp (.tail _ (.tail _ (.tail _ (.head _))))) (fun hc17 => ?_) (fun hc17 => ?_)
          · replace h := ite_t hc17 h
            refine WpC.seq ?_
            refine WpC.reg (U := Un) (st1 := ⟨[(2, .p .bool false)], []⟩) [2] [] hN (.cons (sok_move (U := Un) (rs := []) rfl (.inr rfl) (.bool _ _)) .nil) (by kernel_rfl) (by kernel_rfl) (by kernel_rfl) (Conv.refl (U := Un) _) ?_
            refine thenQ_normal ?_
            refine WpC.ret ?_
            refine thenQ_ret ?_
            have hq := Option.some.inj h
            subst hq
            exact ends_ret (retV_1 rfl (.head _)) ain_nil
          · replace h := ite_f hc17 h
            refine WpC.conv (Conv.keep (U := Un) (b := ⟨[(3, .loc 3 0), (5, .p (.list (.named 3)) v7.1), (6, .p .err v7.2)], [(3, .box [.p I6 v5.f_Kind, .p I6 v5.f_Index, .p U6 v5.f_Set, .p (.list (.named 5)) v5.f_Kids])]⟩) [3, 5, 6] [3] (by kernel_rfl)) (WpC.skip ?_)
            refine thenQ_normal ?_
            refine WpC.seq ?_
            refine WpC.seq ?_
            obtain ⟨v18, hv18, h⟩ := bind_some h
            refine WpC.reg (U := Un) (st1 := ⟨[(3, .loc 3 0), (5, .p (.list (.named 3)) v7.1), (6, .p .err v7.2), (46, .p .bool ((decide (v18 > 197)) : Bool))], [(3, .box [.p I6 v5.f_Kind, .p I6 v5.f_Index, .p U6 v5.f_Set, .p (.list (.named 5)) v5.f_Kids])]⟩) [3, 5, 6, 46] [3] hN (.cons (sok_loadB (U := Un) (t := .named 5) (rs := [(3, .loc 3 0)]) [] [.p I6 v5.f_Kind, .p I6 v5.f_Index, .p U6 v5.f_Set, .p (.list (.named 5)) v5.f_Kids] [] (v := .p (.named 5) ((T_millwrightref07_Node.mk v5.f_Kind v5.f_Index v5.f_Set v5.f_Kids) : T_millwrightref07_Node)) rfl rfl ty_42 o0 rfl rfl rfl rfl (.data (.named (.pair (.one _ _) (.pair (.one _ _) (.pair (.one _ _) (.pair (.one _ _) .unit))))))) (.cons (sok_callV (U := Un) (rs := [(44, .p (.named 5) ((T_millwrightref07_Node.mk v5.f_Kind v5.f_Index v5.f_Set v5.f_Kids) : T_millwrightref07_Node))]) (vw := []) rfl rfl (.func _) hb_39 (millwrightref08_Length.ok O hO k (T_millwrightref07_Node.mk v5.f_Kind v5.f_Index v5.f_Set v5.f_Kids) v18 hv18) (.cons o0 .nil) (.cons (.same _) .nil) (by simp) (.inl rfl)) (.cons (sok_cmp (U := Un) (rs := [(45, .p I6 v18)]) rfl rfl o0 (.int _ _ _) rfl) .nil))) (by kernel_rfl) (by kernel_rfl) (by kernel_rfl) (Conv.refl (U := Un) _) ?_
            refine thenQ_normal ?_
            refine WpC.cond (U := Un) (b := (decide (v18 > 197))) (.tmp (.tail _ (.tail _ (.tail _ (.head _))))) (fun hc19 => ?_) (fun hc19 => ?_)
            · replace h := ite_t hc19 h
              refine WpC.seq ?_
              rcases bool_cases ((v7.1.length : Int) == 0) with hc20 | hc20
              · replace h := ite_t hc20 h
                obtain ⟨v21, hv21, h⟩ := bind_some h
                refine WpC.reg (U := Un) (st1 := ⟨[(2, .p .bool ((v21 == 10) : Bool))], []⟩) [2] [] hN (.cons (mv (U := Un) (v := .p (.list (.named 3)) v7.1) rfl rfl) (.cons (sok_lenL (U := Un) (rs := [(47, .p (.list (.named 3)) v7.1)]) rfl rfl Tryd.underlying22 o0) (.cons (sok_cmp (U := Un) (rs := [(48, .p I6 ((v7.1.length : Int) : Int))]) rfl rfl o0 (.int _ _ _) rfl) (.cons (mv (U := Un) (v := .p .bool (((v7.1.length : Int) == 0) : Bool)) rfl rfl) (.cons (sok_run rfl rfl hc20 (mv (U := Un) (v := .p .err v7.2) rfl rfl)) (.cons (sok_run rfl rfl hc20 (sok_callV (U := Un) (rs := [(51, .p .err v7.2)]) (vw := []) rfl rfl (.func _) hb_34 (millwrightnum_Num.ok O hO k v7.2 v21 hv21) (.cons o0 .nil) (.cons (.same _) .nil) (by simp) (.inl rfl))) (.cons (sok_run rfl rfl hc20 (sok_cmp (U := Un) (rs := [(52, .p I6 v21)]) rfl rfl o0 (.int _ _ _) rfl)) (.cons (sok_pickT (U := Un) (rs := [(50, .p .bool (((v7.1.length : Int) == 0) : Bool)), (53, .p .bool ((v21 == 10) : Bool))]) rfl rfl o0 hc20 o1) (.cons (mva (U := Un) (v := .p .bool ((v21 == 10) : Bool)) rfl rfl) .nil))))))))) (by kernel_rfl) (by kernel_rfl) (by kernel_rfl) (Conv.refl (U := Un) _) ?_
                refine thenQ_normal ?_
                refine WpC.ret ?_
                refine thenQ_ret ?_
                have hq := Option.some.inj h
                subst hq
                exact ends_ret (retV_1 rfl (.head _)) ain_nil
              · replace h := ite_f hc20 h
                refine WpC.reg (U := Un) (st1 := ⟨[(2, .p .bool false)], []⟩) [2] [] hN (.cons (mv (U := Un) (v := .p (.list (.named 3)) v7.1) rfl rfl) (.cons (sok_lenL (U := Un) (rs := [(47, .p (.list (.named 3)) v7.1)]) rfl rfl Tryd.underlying22 o0) (.cons (sok_cmp (U := Un) (rs := [(48, .p I6 ((v7.1.length : Int) : Int))]) rfl rfl o0 (.int _ _ _) rfl) (.cons (mv (U := Un) (v := .p .bool (((v7.1.length : Int) == 0) : Bool)) rfl rfl) (.cons (sok_skip rfl rfl hc20) (.cons (sok_skip rfl rfl hc20) (.cons (sok_skip rfl rfl hc20) (.cons (sok_pickF (U := Un) (rs := [(50, .p .bool (((v7.1.length : Int) == 0) : Bool))]) rfl rfl o0 hc20 (.bool _ _)) (.cons (mva (U := Un) (v := .p .bool false) rfl rfl) .nil))))))))) (by kernel_rfl) (by kernel_rfl) (by kernel_rfl) (Conv.refl (U := Un) _) ?_
                refine thenQ_normal ?_
                refine WpC.ret ?_
                refine thenQ_ret ?_
                have hq := Option.some.inj h
                subst hq
                exact ends_ret (retV_1 rfl (.head _)) ain_nil
            · replace h := ite_f hc19 h
              refine WpC.conv (Conv.keep (U := Un) (b := ⟨[(3, .loc 3 0), (5, .p (.list (.named 3)) v7.1), (6, .p .err v7.2)], [(3, .box [.p I6 v5.f_Kind, .p I6 v5.f_Index, .p U6 v5.f_Set, .p (.list (.named 5)) v5.f_Kids])]⟩) [3, 5, 6] [3] (by kernel_rfl)) (WpC.skip ?_)
              refine thenQ_normal ?_
              refine WpC.seq ?_
              rcases bool_cases (v7.2 == 0) with hc22 | hc22
              · replace h := ite_t hc22 h
                obtain ⟨v23, hv23, h⟩ := bind_some h
                obtain ⟨v24, hv24, h⟩ := bind_some h
                rcases bool_cases v24 with hc25 | hc25
                · replace h := ite_t hc25 h
                  obtain ⟨v26, hv26, h⟩ := bind_some h
                  refine WpC.reg (U := Un) (st1 := ⟨[(2, .p .bool v26)], []⟩) [2] [] hN (.cons (mv (U := Un) (v := .p .err v7.2) rfl rfl) (.cons (sok_errNil (U := Un) (rs := [(55, .p .err v7.2)]) rfl rfl Tryd.underlying54 o0 rfl) (.cons (mv (U := Un) (v := .p .bool ((v7.2 == 0) : Bool)) rfl rfl) (.cons (sok_run rfl rfl hc22 (mv (U := Un) (v := .p (.list (.named 3)) v7.1) rfl rfl)) (.cons (sok_run rfl rfl hc22 (sok_loadB (U := Un) (t := .named 5) (rs := [(3, .loc 3 0)]) [] [.p I6 v5.f_Kind, .p I6 v5.f_Index, .p U6 v5.f_Set, .p (.list (.named 5)) v5.f_Kids] [] (v := .p (.named 5) ((T_millwrightref07_Node.mk v5.f_Kind v5.f_Index v5.f_Set v5.f_Kids) : T_millwrightref07_Node)) rfl rfl ty_42 o0 rfl rfl rfl rfl (.data (.named (.pair (.one _ _) (.pair (.one _ _) (.pair (.one _ _) (.pair (.one _ _) .unit)))))))) (.cons (sok_run rfl rfl hc22 (sok_callV (U := Un) (rs := [(59, .p (.named 5) ((T_millwrightref07_Node.mk v5.f_Kind v5.f_Index v5.f_Set v5.f_Kids) : T_millwrightref07_Node))]) (vw := []) rfl rfl (.func _) hb_35 (millwrightref08_Program.ok O hO k (T_millwrightref07_Node.mk v5.f_Kind v5.f_Index v5.f_Set v5.f_Kids) v23 hv23) (.cons o0 .nil) (.cons (.same _) .nil) (by simp) (.inl rfl))) (.cons (sok_run rfl rfl hc22 (sok_callV (U := Un) (rs := [(58, .p (.list (.named 3)) v7.1), (60, .p (.list (.named 6)) v23)]) (vw := []) rfl rfl (.func _) hb_36 (millwrightlaw08_same.ok O hO k v7.1 v23 v24 hv24) (.cons o0 (.cons o1 .nil)) (.cons (.same _) (.cons (.same _) .nil)) (by simp) (.inl rfl))) (.cons (sok_pickT (U := Un) (rs := [(57, .p .bool ((v7.2 == 0) : Bool)), (61, .p .bool v24)]) rfl rfl o0 hc22 o1) (.cons (mv (U := Un) (v := .p .bool v24) rfl rfl) (.cons (sok_run rfl rfl hc25 (mv (U := Un) (v := .p (.list (.named 3)) v7.1) rfl rfl)) (.cons (sok_run rfl rfl hc25 (sok_callV (U := Un) (rs := [(64, .p (.list (.named 3)) v7.1)]) (vw := []) rfl rfl (.func _) hb_13 (prog_Closed.ok O hO k v7.1 v26 hv26) (.cons o0 .nil) (.cons (.same _) .nil) (by simp) (.inl rfl))) (.cons (sok_pickT (U := Un) (rs := [(63, .p .bool v24), (65, .p .bool v26)]) rfl rfl o0 hc25 o1) (.cons (mva (U := Un) (v := .p .bool v26) rfl rfl) .nil))))))))))))) (by kernel_rfl) (by kernel_rfl) (by kernel_rfl) (Conv.refl (U := Un) _) ?_
                  refine thenQ_normal ?_
                  refine WpC.ret ?_
                  have hq := Option.some.inj h
                  subst hq
                  exact ends_ret (retV_1 rfl (.head _)) ain_nil
                · replace h := ite_f hc25 h
                  refine WpC.reg (U := Un) (st1 := ⟨[(2, .p .bool false)], []⟩) [2] [] hN (.cons (mv (U := Un) (v := .p .err v7.2) rfl rfl) (.cons (sok_errNil (U := Un) (rs := [(55, .p .err v7.2)]) rfl rfl Tryd.underlying54 o0 rfl) (.cons (mv (U := Un) (v := .p .bool ((v7.2 == 0) : Bool)) rfl rfl) (.cons (sok_run rfl rfl hc22 (mv (U := Un) (v := .p (.list (.named 3)) v7.1) rfl rfl)) (.cons (sok_run rfl rfl hc22 (sok_loadB (U := Un) (t := .named 5) (rs := [(3, .loc 3 0)]) [] [.p I6 v5.f_Kind, .p I6 v5.f_Index, .p U6 v5.f_Set, .p (.list (.named 5)) v5.f_Kids] [] (v := .p (.named 5) ((T_millwrightref07_Node.mk v5.f_Kind v5.f_Index v5.f_Set v5.f_Kids) : T_millwrightref07_Node)) rfl rfl ty_42 o0 rfl rfl rfl rfl (.data (.named (.pair (.one _ _) (.pair (.one _ _) (.pair (.one _ _) (.pair (.one _ _) .unit)))))))) (.cons (sok_run rfl rfl hc22 (sok_callV (U := Un) (rs := [(59, .p (.named 5) ((T_millwrightref07_Node.mk v5.f_Kind v5.f_Index v5.f_Set v5.f_Kids) : T_millwrightref07_Node))]) (vw := []) rfl rfl (.func _) hb_35 (millwrightref08_Program.ok O hO k (T_millwrightref07_Node.mk v5.f_Kind v5.f_Index v5.f_Set v5.f_Kids) v23 hv23) (.cons o0 .nil) (.cons (.same _) .nil) (by simp) (.inl rfl))) (.cons (sok_run rfl rfl hc22 (sok_callV (U := Un) (rs := [(58, .p (.list (.named 3)) v7.1), (60, .p (.list (.named 6)) v23)]) (vw := []) rfl rfl (.func _) hb_36 (millwrightlaw08_same.ok O hO k v7.1 v23 v24 hv24) (.cons o0 (.cons o1 .nil)) (.cons (.same _) (.cons (.same _) .nil)) (by simp) (.inl rfl))) (.cons (sok_pickT (U := Un) (rs := [(57, .p .bool ((v7.2 == 0) : Bool)), (61, .p .bool v24)]) rfl rfl o0 hc22 o1) (.cons (mv (U := Un) (v := .p .bool v24) rfl rfl) (.cons (sok_skip rfl rfl hc25) (.cons (sok_skip rfl rfl hc25) (.cons (sok_pickF (U := Un) (rs := [(63, .p .bool v24)]) rfl rfl o0 hc25 (.bool _ _)) (.cons (mva (U := Un) (v := .p .bool false) rfl rfl) .nil))))))))))))) (by kernel_rfl) (by kernel_rfl) (by kernel_rfl) (Conv.refl (U := Un) _) ?_
                  refine thenQ_normal ?_
                  refine WpC.ret ?_
                  have hq := Option.some.inj h
                  subst hq
                  exact ends_ret (retV_1 rfl (.head _)) ain_nil
              · replace h := ite_f hc22 h
                refine WpC.reg (U := Un) (st1 := ⟨[(2, .p .bool false)], []⟩) [2] [] hN (.cons (mv (U := Un) (v := .p .err v7.2) rfl rfl) (.cons (sok_errNil (U := Un) (rs := [(55, .p .err v7.2)]) rfl rfl Tryd.underlying54 o0 rfl) (.cons (mv (U := Un) (v := .p .bool ((v7.2 == 0) : Bool)) rfl rfl) (.cons (sok_skip rfl rfl hc22) (.cons (sok_skip rfl rfl hc22) (.cons (sok_skip rfl rfl hc22) (.cons (sok_skip rfl rfl hc22) (.cons (sok_pickF (U := Un) (rs := [(57, .p .bool ((v7.2 == 0) : Bool))]) rfl rfl o0 hc22 (.bool _ _)) (.cons (mv (U := Un) (v := .p .bool false) rfl rfl) (.cons (sok_skip rfl rfl rfl) (.cons (sok_skip rfl rfl rfl) (.cons (sok_pickF (U := Un) (rs := [(63, .p .bool false)]) rfl rfl o0 rfl (.bool _ _)) (.cons (mva (U := Un) (v := .p .bool false) rfl rfl) .nil))))))))))))) (by kernel_rfl) (by kernel_rfl) (by kernel_rfl) (Conv.refl (U := Un) _) ?_
                refine thenQ_normal ?_
                refine WpC.ret ?_
                have hq := Option.some.inj h
                subst hq
                exact ends_ret (retV_1 rfl (.head _)) ain_nil

end Go.Proofs.YthmbbdemecljpaaDoor
