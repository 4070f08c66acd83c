/- A part of the proof of a given law: EPC5. Own work, printed in part by a program of mine. -/
import Derived.Test.YtnbnfjgedinlbabDoorK12EPC4
namespace Go.Proofs.YtnbnfjgedinlbabDoor
open Go Go.AM
set_option linter.unusedVariables false
set_option linter.unusedSimpArgs false
set_option maxRecDepth 100000
theorem env_Env_Shown_1.ok (O : Out) (hO : GOk O) (k : Nat) (a0 : T_env_Var) (out : Bool) (h : env_Env_Shown_1.f k a0 = some out) : COk Un O Tryd.prog 81 { ar := [.p (.named 5) a0], r := .p .bool out } := by
  refine cok_of_wp Tryd.func81 rfl (k := 5) rfl (Nat.le_of_ble_eq_true rfl) (namesOk_pure rfl rfl rfl rfl) ?_
  intro B hN
  refine WpC.conv (cvK (b := ⟨[(0, .p (.named 5) a0)], []⟩) [0] [] (by kernel_rfl)) ?_
  unfold env_Env_Shown_1.f at h
  refine WpC.seq ?_
  refine rgU (st1 := ⟨[(1, .loc 1 0)], [(1, .box [.p .str a0.f_Name, .p (.list .str) a0.f_Words, .p I6 a0.f_Level, .p .bool a0.f_Hidden])]⟩) [1] [1] hN (.cons (sok_box (U := Un) (rs := [(0, .p (.named 5) a0)]) (d := 1) (us := [.p .str a0.f_Name, .p (.list .str) a0.f_Words, .p I6 a0.f_Level, .p .bool a0.f_Hidden]) rfl rfl rfl o0 (.data (.named (us := ([.p .str a0.f_Name, .p (.list .str) a0.f_Words, .p I6 a0.f_Level, .p .bool a0.f_Hidden] : List (AVal Un))) (.pair (.one _ _) (.pair (.one _ _) (.pair (.one _ _) (.pair (.one _ _) .unit)))))) rfl (notin_of (by kernel_rfl))) (.cons (moU (rs := []) rfl (.inr rfl) (.bool _ _)) .nil)) (by kernel_rfl) (by kernel_rfl) (by kernel_rfl) (cvR _) ?_
  refine tnU ?_
  refine WpC.seq ?_
  refine rgU (st1 := ⟨[(2, .p .bool a0.f_Hidden)], []⟩) [2] [] hN (.cons (fdB (rs := [(1, .loc 1 0)]) rfl rfl fd_60_3 (by decide) o0) (.cons (ldB (t := .bool) (rs := [(3, .loc 1 3)]) [.p .str a0.f_Name, .p (.list .str) a0.f_Words, .p I6 a0.f_Level] [.p .bool a0.f_Hidden] [] (v := .p .bool a0.f_Hidden) rfl rfl ty_4 o0 rfl rfl rfl rfl (.data (.one _ _))) (.cons (mvA (v := .p .bool a0.f_Hidden) rfl rfl) .nil))) (by kernel_rfl) (by kernel_rfl) (by kernel_rfl) (cvR _) ?_
  refine tnU ?_
  refine WpC.ret ?_
  have hq := Option.some.inj h
  subst hq
  exact ends_ret (retV_1 rfl (.head _)) ain_nil

theorem env_Var_95_m0.ok (O : Out) (hO : GOk O) (k : Nat) (a0 : List T_env_Var) (out : Int) (h : env_Var_95_m0.f k a0 = some out) : COk Un O Tryd.prog 95 { ar := [.p (.list (.named 5)) a0, .clo 81 []], r := .p I6 out } := by
  refine cok_of_wp Tryd.func95 rfl (k := 19) rfl (Nat.le_of_ble_eq_true rfl) (namesOk_pure rfl rfl rfl rfl) ?_
  intro B hN
  refine WpC.conv (cvK (b := ⟨[(0, .p (.list (.named 5)) a0), (1, .clo 81 [])], []⟩) [0, 1] [] (by kernel_rfl)) ?_
  unfold env_Var_95_m0.f at h
  refine WpC.seq ?_
  refine rgU (st1 := ⟨[(0, .p (.list (.named 5)) a0), (1, .clo 81 [])], []⟩) [0, 1] [] hN (.cons (moU (rs := []) rfl (.inr rfl) (.int _ _ _)) .nil) (by kernel_rfl) (by kernel_rfl) (by kernel_rfl) (cvR _) ?_
  refine tnU ?_
  refine sqJ (fun st' => env_Var_95_m0.j1 k = some out ∧ st' = ⟨[], []⟩) ?_ ?_
  · refine WpC.seq ?_
    refine rgU (st1 := ⟨[(0, .p (.list (.named 5)) a0), (1, .clo 81 []), (7, .p I6 ((a0.length : Int) : Int)), (8, .p I6 (0 : Int))], []⟩) [0, 1, 7, 8] [] hN (.cons (mvU (v := .p (.list (.named 5)) a0) rfl rfl) (.cons (sok_lenL (U := Un) (rs := [(6, .p (.list (.named 5)) a0)]) rfl rfl Tryd.underlying97 o0) (.cons (moU (rs := []) rfl (.inl rfl) (.int _ _ _)) .nil))) (by kernel_rfl) (by kernel_rfl) (by kernel_rfl) (cvR _) ?_
    refine tnU ?_
    refine WpC.block ?_
    obtain ⟨o4, hlo4, h⟩ := bind_some h
    have hout5 := h
    clear h
    refine WpC.loop (U := Un) (fun n st' => ∃ v2 : Int, env_Var_95_m0.l3 k a0 n v2 = some o4 ∧ st' = ⟨[(0, .p (.list (.named 5)) a0), (1, .clo 81 []), (7, .p I6 ((a0.length : Int) : Int)), (8, .p I6 v2)], []⟩) k ⟨0, hlo4, rfl⟩ ?_
    clear hlo4
    rintro (_ | n) _ ⟨v2, h, rfl⟩
    · cases h
    · rw [env_Var_95_m0.l3] at h
      refine WpC.seq ?_
      refine rgU (st1 := ⟨[(0, .p (.list (.named 5)) a0), (1, .clo 81 []), (7, .p I6 ((a0.length : Int) : Int)), (8, .p I6 v2), (9, .p .bool ((decide (v2 < (a0.length : Int))) : Bool))], []⟩) [0, 1, 7, 8, 9] [] hN (.cons (cmU (rs := [(8, .p I6 v2), (7, .p I6 ((a0.length : Int) : Int))]) rfl rfl o0 o1 rfl) .nil) (by kernel_rfl) (by kernel_rfl) (by kernel_rfl) (cvR _) ?_
      refine tnU ?_
      refine WpC.seq ?_
      refine cdU (b := (decide (v2 < (a0.length : Int)))) (.tmp (.tail _ (.tail _ (.tail _ (.tail _ (.head _)))))) (fun hc6 => ?_) (fun hc6 => ?_)
      · replace h := ite_t hc6 h
        refine WpC.conv (cvK (b := ⟨[(0, .p (.list (.named 5)) a0), (1, .clo 81 []), (7, .p I6 ((a0.length : Int) : Int)), (8, .p I6 v2)], []⟩) [0, 1, 7, 8] [] (by kernel_rfl)) (WpC.skip ?_)
        refine tnU ?_
        refine WpC.seq ?_
        refine WpC.block ?_
        refine WpC.seq ?_
        refine rgU (st1 := ⟨[(0, .p (.list (.named 5)) a0), (1, .clo 81 []), (5, .p I6 v2), (7, .p I6 ((a0.length : Int) : Int)), (8, .p I6 v2)], []⟩) [0, 1, 5, 7, 8] [] hN (.cons (mvU (v := .p I6 v2) rfl rfl) (.cons (mvA (v := .p I6 v2) rfl rfl) .nil)) (by kernel_rfl) (by kernel_rfl) (by kernel_rfl) (cvR _) ?_
        refine tnU ?_
        refine WpC.seq ?_
        obtain ⟨v7, hv7, h⟩ := bind_some h
        obtain ⟨v8, hv8, h⟩ := bind_some h
        refine rgU (st1 := ⟨[(0, .p (.list (.named 5)) a0), (1, .clo 81 []), (5, .p I6 v2), (7, .p I6 ((a0.length : Int) : Int)), (8, .p I6 v2), (16, .p .bool v8)], []⟩) [0, 1, 5, 7, 8, 16] [] hN (.cons (mvU (v := .clo 81 []) rfl rfl) (.cons (mvU (v := .p (.list (.named 5)) a0) rfl rfl) (.cons (mvU (v := .p I6 v2) rfl rfl) (.cons (sok_indexL (U := Un) (rs := [(12, .p (.list (.named 5)) a0), (13, .p I6 v2)]) rfl rfl sl_97 o0 o1 hv7) (.cons (sok_loadP (U := Un) (rs := [(14, .pp (.named 5) v7)]) rfl rfl ty_60 o0) (.cons (caV (rs := [(15, .p (.named 5) v7), (11, .clo 81 [])]) (vw := []) rfl rfl (.clo o1) hb_81 (env_Env_Shown_1.ok O hO k v7 v8 hv8) (.cons o0 .nil) (.cons (.same _) .nil) (by simp) (.inl rfl)) .nil)))))) (by kernel_rfl) (by kernel_rfl) (by kernel_rfl) (cvR _) ?_
        refine tnU ?_
        refine cdU (b := v8) (.tmp (.tail _ (.tail _ (.tail _ (.tail _ (.tail _ (.head _))))))) (fun hc9 => ?_) (fun hc9 => ?_)
        · replace h := ite_t hc9 h
          refine WpC.seq ?_
          refine rgU (st1 := ⟨[(4, .p I6 v2)], []⟩) [4] [] hN (.cons (mvU (v := .p I6 v2) rfl rfl) (.cons (mvA (v := .p I6 v2) rfl rfl) .nil)) (by kernel_rfl) (by kernel_rfl) (by kernel_rfl) (cvR _) ?_
          refine tnU ?_
          refine WpC.ret ?_
          refine blockQ_ret ?_
          refine thenQ_ret ?_
          have hq := Option.some.inj h
          subst hq
          refine thenQ_ret ?_
          have h := hout5
          refine blockQ_ret ?_
          refine thenQ_ret ?_
          have hq := Option.some.inj h
          subst hq
          exact ends_ret (retV_1 rfl (.head _)) ain_nil
        · replace h := ite_f hc9 h
          refine WpC.conv (cvK (b := ⟨[(0, .p (.list (.named 5)) a0), (1, .clo 81 []), (7, .p I6 ((a0.length : Int) : Int)), (8, .p I6 v2)], []⟩) [0, 1, 7, 8] [] (by kernel_rfl)) (WpC.skip ?_)
          refine blockQ_normal ?_
          refine tnU ?_
          refine rgU (st1 := ⟨[(0, .p (.list (.named 5)) a0), (1, .clo 81 []), (7, .p I6 ((a0.length : Int) : Int)), (8, .p I6 ((IntKind.i64.wrap (v2 + 1)) : Int))], []⟩) [0, 1, 7, 8] [] hN (.cons (sok_arith (U := Un) (rs := [(8, .p I6 v2)]) rfl rfl o0 (.int _ _ _) rfl) (.cons (mvU (v := .p I6 ((IntKind.i64.wrap (v2 + 1)) : Int)) rfl rfl) .nil)) (by kernel_rfl) (by kernel_rfl) (by kernel_rfl) (cvR _) ?_
          refine tnU ?_
          exact ⟨n, Nat.lt_succ_self n, (IntKind.i64.wrap (v2 + 1)), h, rfl⟩
      · replace h := ite_f hc6 h
        refine WpC.conv (cvK (b := ⟨[], []⟩) [] [] (by kernel_rfl)) (WpC.exit ?_)
        refine thenQ_exit ?_
        have hq := Option.some.inj h
        subst hq
        refine thenQ_exit ?_
        have h := hout5
        refine blockQ_hit ?_
        refine tnU ?_
        exact ⟨h, rfl⟩
  · rintro _ ⟨h, rfl⟩
    unfold env_Var_95_m0.j1 at h
    refine WpC.seq ?_
    refine rgU (st1 := ⟨[(4, .p I6 ((-1) : Int))], []⟩) [4] [] hN (.cons (moU (rs := []) rfl (.inr rfl) (.int _ _ _)) .nil) (by kernel_rfl) (by kernel_rfl) (by kernel_rfl) (cvR _) ?_
    refine tnU ?_
    refine WpC.ret ?_
    have hq := Option.some.inj h
    subst hq
    exact ends_ret (retV_1 rfl (.head _)) ain_nil

theorem env_Var_80_m0.ok (O : Out) (hO : GOk O) (k : Nat) (a0 : List T_env_Var) (out : List T_env_Var) (h : env_Var_80_m0.f k a0 = some out) : COk Un O Tryd.prog 80 { ar := [.vec 100000 4 0 a0.length, .clo 81 []], r := .vec 60500 4 0 out.length, bs := [(100000, .row 60 (.named 5) a0 false)], bs' := [(60500, .row 60 (.named 5) out false)], nn := [60500] } := by
  refine cok_of_wp Tryd.func80 rfl (k := 42) rfl (Nat.le_of_ble_eq_true rfl) (namesOk_of (by kernel_rfl)) ?_
  intro B hN
  refine WpC.conv (cvK (b := ⟨[(0, .vec 100000 4 0 a0.length), (1, .clo 81 [])], [(100000, .row 60 (.named 5) a0 false)]⟩) [0, 1] [100000] (by kernel_rfl)) ?_
  unfold env_Var_80_m0.f at h
  refine WpC.seq ?_
  refine rgU (st1 := ⟨[(0, .vec 100000 4 0 a0.length), (1, .clo 81 [])], [(100000, .row 60 (.named 5) a0 false)]⟩) [0, 1] [100000] hN (.cons (moU (rs := []) rfl (.inr rfl) (.lit _ _ rfl)) .nil) (by kernel_rfl) (by kernel_rfl) (by kernel_rfl) (cvR _) ?_
  refine tnU ?_
  refine WpC.seq ?_
  obtain ⟨v1, hv1, h⟩ := bind_some h
  refine rgU (st1 := ⟨[(0, .vec 100000 4 0 a0.length), (1, .clo 81 []), (5, .p I6 v1)], [(100000, .row 60 (.named 5) a0 false)]⟩) [0, 1, 5] [100000] hN (.cons (mvU (v := .vec 100000 4 0 a0.length) rfl rfl) (.cons (mvU (v := .clo 81 []) rfl rfl) (.cons (caV (rs := [(8, .vec 100000 4 0 a0.length), (9, .clo 81 [])]) (vw := [(100000, .row 60 (.named 5) a0 false)]) rfl rfl (.func _) hb_95 (env_Var_95_m0.ok O hO k a0 v1 hv1) (.cons o0 (.cons o1 .nil)) (.cons (.whole' (.head _) (by first | rfl | (simp only [upd_length, List.length_replicate, List.length_append]; done) | (simp only [upd_length, List.length_replicate, List.length_append] at *; omega) | omega)) (.cons (.same _) .nil)) (by simp) (.inr rfl)) (.cons (mvA (v := .p I6 v1) rfl rfl) .nil)))) (by kernel_rfl) (by kernel_rfl) (by kernel_rfl) (cvR _) ?_
  refine tnU ?_
  refine WpC.seq ?_
  refine WpC.seq ?_
  refine rgU (st1 := ⟨[(0, .vec 100000 4 0 a0.length), (1, .clo 81 []), (5, .p I6 v1), (12, .p .bool ((v1 == (-1)) : Bool))], [(100000, .row 60 (.named 5) a0 false)]⟩) [0, 1, 5, 12] [100000] hN (.cons (mvU (v := .p I6 v1) rfl rfl) (.cons (cmU (rs := [(11, .p I6 v1)]) rfl rfl o0 (.int _ _ _) rfl) .nil)) (by kernel_rfl) (by kernel_rfl) (by kernel_rfl) (cvR _) ?_
  refine tnU ?_
  refine cdU (b := (v1 == (-1))) (.tmp (.tail _ (.tail _ (.tail _ (.head _))))) (fun hc2 => ?_) (fun hc2 => ?_)
  · replace h := ite_t hc2 h
    refine WpC.seq ?_
    refine rgU (st1 := ⟨[(4, .vec 100000 4 0 a0.length)], [(100000, .row 60 (.named 5) a0 false)]⟩) [4] [100000] hN (.cons (mvU (v := .vec 100000 4 0 a0.length) rfl rfl) (.cons (mvA (v := .vec 100000 4 0 a0.length) rfl rfl) .nil)) (by kernel_rfl) (by kernel_rfl) (by kernel_rfl) (cvR _) ?_
    refine tnU ?_
    refine WpC.conv (cvT (Conv.ren (U := Un) (st' := ⟨[(4, .vec 60500 4 0 a0.length)], [(60500, .row 60 (.named 5) a0 false)]⟩) 100000 60500 (by unfold K0; omega) (by kernel_rfl) (by kernel_rfl) (by kernel_rfl)) (cvK (b := ⟨[(4, .vec 60500 4 0 a0.length)], [(60500, .row 60 (.named 5) a0 false)]⟩) [4] [60500] (by kernel_rfl))) (WpC.ret ?_)
    refine thenQ_ret ?_
    have hq := Option.some.inj h
    subst hq
    exact ends_ret (retV_1 rfl (.head _)) (ain_cons (.head _) ain_nil)
  · replace h := ite_f hc2 h
    refine WpC.conv (cvK (b := ⟨[(0, .vec 100000 4 0 a0.length), (1, .clo 81 []), (5, .p I6 v1)], [(100000, .row 60 (.named 5) a0 false)]⟩) [0, 1, 5] [100000] (by kernel_rfl)) (WpC.skip ?_)
    refine tnU ?_
    refine sqJ (fun st' => ∃ v3 : List T_env_Var, ∃ v4 : Int, env_Var_80_m0.j8 k a0 v3 v4 = some out ∧ st' = ⟨[(0, .vec 100000 4 0 a0.length), (5, .p I6 v4)], [(100000, .row 60 (.named 5) v3 false)]⟩) ?_ ?_
    · refine WpC.seq ?_
      refine rgU (st1 := ⟨[(0, .vec 100000 4 0 a0.length), (1, .clo 81 []), (5, .p I6 v1), (6, .p I6 ((IntKind.i64.wrap (v1 + 1)) : Int))], [(100000, .row 60 (.named 5) a0 false)]⟩) [0, 1, 5, 6] [100000] hN (.cons (mvU (v := .p I6 v1) rfl rfl) (.cons (sok_arith (U := Un) (rs := [(14, .p I6 v1)]) rfl rfl o0 (.int _ _ _) rfl) (.cons (mvA (v := .p I6 ((IntKind.i64.wrap (v1 + 1)) : Int)) rfl rfl) .nil))) (by kernel_rfl) (by kernel_rfl) (by kernel_rfl) (cvR _) ?_
      refine tnU ?_
      refine WpC.block ?_
      obtain ⟨o15, hlo15, h⟩ := bind_some h
      have hout16 := h
      clear h
      refine WpC.loop (U := Un) (fun n st' => ∃ v9 : List T_env_Var, ∃ v10 : Int, ∃ v11 : Int, env_Var_80_m0.l12 k a0 n v9 v10 v11 = some o15 ∧ st' = ⟨[(0, .vec 100000 4 0 a0.length), (1, .clo 81 []), (5, .p I6 v10), (6, .p I6 v11)], [(100000, .row 60 (.named 5) v9 false)]⟩) k ⟨a0, v1, (IntKind.i64.wrap (v1 + 1)), hlo15, rfl⟩ ?_
      clear hlo15
      rintro (_ | n) _ ⟨v9, v10, v11, h, rfl⟩
      · cases h
      · rw [env_Var_80_m0.l12] at h
        obtain ⟨gl_v9, h⟩ := if_some h
        refine WpC.seq ?_
        refine WpC.seq ?_
        refine rgU (st1 := ⟨[(0, .vec 100000 4 0 a0.length), (1, .clo 81 []), (5, .p I6 v10), (6, .p I6 v11), (19, .p .bool ((decide (v11 < (a0.length : Int))) : Bool))], [(100000, .row 60 (.named 5) v9 false)]⟩) [0, 1, 5, 6, 19] [100000] hN (.cons (mvU (v := .p I6 v11) rfl rfl) (.cons (mvU (v := .vec 100000 4 0 a0.length) rfl rfl) (.cons (sok_lenV (U := Un) (rs := [(17, .vec 100000 4 0 a0.length)]) rfl rfl Tryd.underlying97 o0) (.cons (cmU (rs := [(16, .p I6 v11), (18, .p I6 ((a0.length : Int) : Int))]) rfl rfl o0 o1 rfl) .nil)))) (by kernel_rfl) (by kernel_rfl) (by kernel_rfl) (cvR _) ?_
        refine tnU ?_
        refine cdU (b := (decide (v11 < (a0.length : Int)))) (.tmp (.tail _ (.tail _ (.tail _ (.tail _ (.head _)))))) (fun hc17 => ?_) (fun hc17 => ?_)
        · replace h := ite_t hc17 h
          refine WpC.conv (cvK (b := ⟨[(0, .vec 100000 4 0 a0.length), (1, .clo 81 []), (5, .p I6 v10), (6, .p I6 v11)], [(100000, .row 60 (.named 5) v9 false)]⟩) [0, 1, 5, 6] [100000] (by kernel_rfl)) (WpC.skip ?_)
          refine tnU ?_
          refine sqJ (fun st' => ∃ v18 : List T_env_Var, ∃ v19 : Int, env_Var_80_m0.j20 k (env_Var_80_m0.l12 k a0 n) a0 v11 v18 v19 = some o15 ∧ st' = ⟨[(0, .vec 100000 4 0 a0.length), (1, .clo 81 []), (5, .p I6 v19), (6, .p I6 v11)], [(100000, .row 60 (.named 5) v18 false)]⟩) ?_ ?_
          · refine WpC.block ?_
            refine WpC.seq ?_
            obtain ⟨g21, h⟩ := if_some h
            obtain ⟨v22, hv22, h⟩ := bind_some h
            refine rgU (st1 := ⟨[(0, .vec 100000 4 0 a0.length), (1, .clo 81 []), (5, .p I6 v10), (6, .p I6 v11), (7, .loc 7 0)], [(7, .box [.p .str v22.f_Name, .p (.list .str) v22.f_Words, .p I6 v22.f_Level, .p .bool v22.f_Hidden]), (100000, .row 60 (.named 5) v9 false)]⟩) [0, 1, 5, 6, 7] [7, 100000] hN (.cons (mvU (v := .vec 100000 4 0 a0.length) rfl rfl) (.cons (mvU (v := .p I6 v11) rfl rfl) (.cons (sok_indexV (U := Un) (rs := [(22, .vec 100000 4 0 a0.length), (23, .p I6 v11)]) rfl rfl sl_97 o0 o1 g21) (.cons (sok_loadE (U := Un) (E := 60) (t := .named 5) (rs := [(24, .eloc 100000 4 (0 + v11.toNat) 0)]) (xs := v9) (fx := false) rfl rfl ty_60 o0 hv22 (.here _ _)) (.cons (sok_allocZ (U := Un) (rs := []) (d := 7) (us := [.p .str ([] : List UInt8), .p (.list .str) ([] : List (List UInt8)), .p I6 (0 : Int), .p .bool false]) (v := (.agg #[.string ByteArray.empty, .slice none 0 0, .int .i64 0, .bool false])) rfl rfl rfl (by kernel_rfl) rfl (.data (fun _ _ _ => rd_str0) (.data (fun _ _ _ => .lnil _) (.data (fun _ _ _ => .int _ _) (.data (fun _ _ _ => .bool _) .nil)))) (by kernel_rfl)) (.cons (sok_storeB (U := Un) (rs := [(7, .loc 7 0), (25, .p (.named 5) v22)]) (v := .p (.named 5) v22) (mid' := [.p .str v22.f_Name, .p (.list .str) v22.f_Words, .p I6 v22.f_Level, .p .bool v22.f_Hidden]) [] [.p .str ([] : List UInt8), .p (.list .str) ([] : List (List UInt8)), .p I6 (0 : Int), .p .bool false] [] rfl rfl rfl ty_60 o0 o1 (.data (.named (us := ([.p .str v22.f_Name, .p (.list .str) v22.f_Words, .p I6 v22.f_Level, .p .bool v22.f_Hidden] : List (AVal Un))) (.pair (.one _ _) (.pair (.one _ _) (.pair (.one _ _) (.pair (.one _ _) .unit)))))) rfl rfl rfl rfl rfl rfl) .nil)))))) (by kernel_rfl) (by kernel_rfl) (by kernel_rfl) (cvR _) ?_
            refine tnU ?_
            refine WpC.seq ?_
            obtain ⟨v23, hv23, h⟩ := bind_some h
            refine rgU (st1 := ⟨[(0, .vec 100000 4 0 a0.length), (1, .clo 81 []), (5, .p I6 v10), (6, .p I6 v11), (7, .loc 7 0), (29, .p .bool ((!v23) : Bool))], [(7, .box [.p .str v22.f_Name, .p (.list .str) v22.f_Words, .p I6 v22.f_Level, .p .bool v22.f_Hidden]), (100000, .row 60 (.named 5) v9 false)]⟩) [0, 1, 5, 6, 7, 29] [7, 100000] hN (.cons (mvU (v := .clo 81 []) rfl rfl) (.cons (ldB (t := .named 5) (rs := [(7, .loc 7 0)]) [] [.p .str v22.f_Name, .p (.list .str) v22.f_Words, .p I6 v22.f_Level, .p .bool v22.f_Hidden] [] (v := .p (.named 5) ((T_env_Var.mk v22.f_Name v22.f_Words v22.f_Level v22.f_Hidden) : T_env_Var)) rfl rfl ty_60 o0 rfl rfl rfl rfl (.data (.named (us := ([.p .str v22.f_Name, .p (.list .str) v22.f_Words, .p I6 v22.f_Level, .p .bool v22.f_Hidden] : List (AVal Un))) (.pair (.one _ _) (.pair (.one _ _) (.pair (.one _ _) (.pair (.one _ _) .unit))))))) (.cons (caV (rs := [(27, .p (.named 5) ((T_env_Var.mk v22.f_Name v22.f_Words v22.f_Level v22.f_Hidden) : T_env_Var)), (26, .clo 81 [])]) (vw := []) rfl rfl (.clo o1) hb_81 (env_Env_Shown_1.ok O hO k (T_env_Var.mk v22.f_Name v22.f_Words v22.f_Level v22.f_Hidden) v23 hv23) (.cons o0 .nil) (.cons (.same _) .nil) (by simp) (.inl rfl)) (.cons (sok_not (U := Un) (rs := [(28, .p .bool v23)]) rfl rfl o0) .nil)))) (by kernel_rfl) (by kernel_rfl) (by kernel_rfl) (cvR _) ?_
            refine tnU ?_
            refine cdU (b := (!v23)) (.tmp (.tail _ (.tail _ (.tail _ (.tail _ (.tail _ (.head _))))))) (fun hc24 => ?_) (fun hc24 => ?_)
            · replace h := ite_t hc24 h
              refine WpC.seq ?_
              obtain ⟨g25, h⟩ := if_some h
              obtain ⟨v26, hv26, h⟩ := bind_some h
              refine rgU (st1 := ⟨[(0, .vec 100000 4 0 a0.length), (1, .clo 81 []), (5, .p I6 v10), (6, .p I6 v11)], [(100000, .row 60 (.named 5) (upd v9 (0 + v10.toNat) (T_env_Var.mk v22.f_Name v22.f_Words v22.f_Level v22.f_Hidden)) false)]⟩) [0, 1, 5, 6] [100000] hN (.cons (mvU (v := .vec 100000 4 0 a0.length) rfl rfl) (.cons (mvU (v := .p I6 v10) rfl rfl) (.cons (ldB (t := .named 5) (rs := [(7, .loc 7 0)]) [] [.p .str v22.f_Name, .p (.list .str) v22.f_Words, .p I6 v22.f_Level, .p .bool v22.f_Hidden] [] (v := .p (.named 5) ((T_env_Var.mk v22.f_Name v22.f_Words v22.f_Level v22.f_Hidden) : T_env_Var)) rfl rfl ty_60 o0 rfl rfl rfl rfl (.data (.named (us := ([.p .str v22.f_Name, .p (.list .str) v22.f_Words, .p I6 v22.f_Level, .p .bool v22.f_Hidden] : List (AVal Un))) (.pair (.one _ _) (.pair (.one _ _) (.pair (.one _ _) (.pair (.one _ _) .unit))))))) (.cons (sok_indexV (U := Un) (rs := [(30, .vec 100000 4 0 a0.length), (31, .p I6 v10)]) rfl rfl sl_97 o0 o1 g25) (.cons (sok_storeE (U := Un) (E := 60) (t := .named 5) (rs := [(33, .eloc 100000 4 (0 + v10.toNat) 0), (32, .p (.named 5) ((T_env_Var.mk v22.f_Name v22.f_Words v22.f_Level v22.f_Hidden) : T_env_Var))]) (xs := v9) (e := v26) (e' := (T_env_Var.mk v22.f_Name v22.f_Words v22.f_Level v22.f_Hidden)) (fx := false) rfl rfl rfl ty_60 o0 o1 hv26 .here) .nil))))) (by kernel_rfl) (by kernel_rfl) (by kernel_rfl) (cvR _) ?_
              refine tnU ?_
              refine rgU (st1 := ⟨[(0, .vec 100000 4 0 a0.length), (1, .clo 81 []), (5, .p I6 ((IntKind.i64.wrap (v10 + 1)) : Int)), (6, .p I6 v11)], [(100000, .row 60 (.named 5) (upd v9 (0 + v10.toNat) (T_env_Var.mk v22.f_Name v22.f_Words v22.f_Level v22.f_Hidden)) false)]⟩) [0, 1, 5, 6] [100000] hN (.cons (mvU (v := .p I6 v10) rfl rfl) (.cons (sok_arith (U := Un) (rs := [(34, .p I6 v10)]) rfl rfl o0 (.int _ _ _) rfl) (.cons (mvA (v := .p I6 ((IntKind.i64.wrap (v10 + 1)) : Int)) rfl rfl) .nil))) (by kernel_rfl) (by kernel_rfl) (by kernel_rfl) (cvR _) ?_
              refine blockQ_normal ?_
              refine tnU ?_
              exact ⟨(upd v9 (0 + v10.toNat) (T_env_Var.mk v22.f_Name v22.f_Words v22.f_Level v22.f_Hidden)), (IntKind.i64.wrap (v10 + 1)), h, rfl⟩
            · replace h := ite_f hc24 h
              refine WpC.conv (cvK (b := ⟨[(0, .vec 100000 4 0 a0.length), (1, .clo 81 []), (5, .p I6 v10), (6, .p I6 v11)], [(100000, .row 60 (.named 5) v9 false)]⟩) [0, 1, 5, 6] [100000] (by kernel_rfl)) (WpC.skip ?_)
              refine blockQ_normal ?_
              refine tnU ?_
              exact ⟨v9, v10, h, rfl⟩
          · rintro _ ⟨v18, v19, h, rfl⟩
            unfold env_Var_80_m0.j20 at h
            obtain ⟨gl_v18, h⟩ := if_some h
            refine rgU (st1 := ⟨[(0, .vec 100000 4 0 a0.length), (1, .clo 81 []), (5, .p I6 v19), (6, .p I6 ((IntKind.i64.wrap (v11 + 1)) : Int))], [(100000, .row 60 (.named 5) v18 false)]⟩) [0, 1, 5, 6] [100000] hN (.cons (mvU (v := .p I6 v11) rfl rfl) (.cons (sok_arith (U := Un) (rs := [(20, .p I6 v11)]) rfl rfl o0 (.int _ _ _) rfl) (.cons (mvA (v := .p I6 ((IntKind.i64.wrap (v11 + 1)) : Int)) rfl rfl) .nil))) (by kernel_rfl) (by kernel_rfl) (by kernel_rfl) (cvR _) ?_
            refine tnU ?_
            exact ⟨n, Nat.lt_succ_self n, v18, v19, (IntKind.i64.wrap (v11 + 1)), h, rfl⟩
        · replace h := ite_f hc17 h
          refine WpC.conv (cvK (b := ⟨[(0, .vec 100000 4 0 a0.length), (5, .p I6 v10)], [(100000, .row 60 (.named 5) v9 false)]⟩) [0, 5] [100000] (by kernel_rfl)) (WpC.exit ?_)
          refine thenQ_exit ?_
          have hq := Option.some.inj h
          subst hq
          refine thenQ_exit ?_
          have h := hout16
          obtain ⟨_, h⟩ := if_some h
          have gl_v13 : v9.length = a0.length := (by first | rfl | (simp only [upd_length, List.length_replicate, List.length_append]; done) | (simp only [upd_length, List.length_replicate, List.length_append] at *; omega) | omega)
          refine blockQ_hit ?_
          refine tnU ?_
          exact ⟨v9, v10, h, rfl⟩
    · rintro _ ⟨v3, v4, h, rfl⟩
      unfold env_Var_80_m0.j8 at h
      obtain ⟨gl_v3, h⟩ := if_some h
      refine WpC.seq ?_
      obtain ⟨g5, h⟩ := if_some h
      obtain ⟨g6, h⟩ := if_some h
      refine rgU (st1 := ⟨[(0, .vec 100000 4 0 a0.length), (5, .p I6 v4)], [(100000, .row 60 (.named 5) (v3.take (0 + v4.toNat)) false)]⟩) [0, 5] [100000] hN (.cons (mvU (v := .vec 100000 4 0 a0.length) rfl rfl) (.cons (mvU (v := .p I6 v4) rfl rfl) (.cons (sok_sliceV (U := Un) (t := .named 5) (rs := [(36, .vec 100000 4 0 a0.length), (37, .p I6 v4)]) (xs := v3) (fx := false) rfl rfl sl_97 o0 (.at o1) .no g5.1 g5.2.1 g5.2.2) (.cons (sok_clearTail (U := Un) (t := .named 5) (rs := [(38, .vec 100000 4 (0 + v4.toNat) ((a0.length : Int).toNat - v4.toNat))]) (xs := v3) (fx := false) rfl rfl rfl row_97 z1_60 o0 g6) .nil)))) (by kernel_rfl) (by kernel_rfl) (by kernel_rfl) (cvR _) ?_
      refine tnU ?_
      refine WpC.seq ?_
      obtain ⟨g7, h⟩ := if_some h
      refine rgU (st1 := ⟨[(4, .vec 100000 4 0 v4.toNat)], [(100000, .row 60 (.named 5) (v3.take (0 + v4.toNat)) false)]⟩) [4] [100000] hN (.cons (mvU (v := .vec 100000 4 0 a0.length) rfl rfl) (.cons (mvU (v := .p I6 v4) rfl rfl) (.cons (sok_sliceV (U := Un) (t := .named 5) (rs := [(39, .vec 100000 4 0 a0.length), (40, .p I6 v4)]) (xs := (v3.take (0 + v4.toNat))) (fx := false) rfl rfl sl_97 o0 .no (.at o1) g7.1 g7.2.1 g7.2.2) (.cons (mvA (v := .vec 100000 4 0 v4.toNat) rfl rfl) .nil)))) (by kernel_rfl) (by kernel_rfl) (by kernel_rfl) (cvR _) ?_
      refine tnU ?_
      refine WpC.conv (cvT (Conv.shrinkN (U := Un) 100000 60 v4.toNat (.named 5) (v3.take (0 + v4.toNat)) false (.head _)) (cvT (cvK (b := ⟨[(4, .vec 100000 4 0 v4.toNat)], [(100000, .row 60 (.named 5) ((v3.take (0 + v4.toNat)).take v4.toNat) false)]⟩) [4] [100000] (by kernel_rfl)) (cvT (Conv.cast (U := Un) (st' := ⟨[(4, .vec 100000 4 0 (((v3.take (0 + v4.toNat)).take v4.toNat).length))], [(100000, .row 60 (.named 5) ((v3.take (0 + v4.toNat)).take v4.toNat) false)]⟩) (by have e : ((v3.take (0 + v4.toNat)).take v4.toNat).length = v4.toNat := List.length_take_of_le (by omega); rw [e])) (cvT (Conv.ren (U := Un) (st' := ⟨[(4, .vec 60500 4 0 (((v3.take (0 + v4.toNat)).take v4.toNat).length))], [(60500, .row 60 (.named 5) ((v3.take (0 + v4.toNat)).take v4.toNat) false)]⟩) 100000 60500 (by unfold K0; omega) (by kernel_rfl) (by kernel_rfl) (by kernel_rfl)) (cvK (b := ⟨[(4, .vec 60500 4 0 (((v3.take (0 + v4.toNat)).take v4.toNat).length))], [(60500, .row 60 (.named 5) ((v3.take (0 + v4.toNat)).take v4.toNat) false)]⟩) [4] [60500] (by kernel_rfl)))))) (WpC.ret ?_)
      have hq := Option.some.inj h
      subst hq
      exact ends_ret (retV_1 rfl (.head _)) (ain_cons (.head _) ain_nil)

theorem env_Env_Shown_m0.ok (O : Out) (hO : GOk O) (k : Nat) (a0 : List ((List UInt8) × T_env_Var)) (out : List T_env_Var) (h : env_Env_Shown_m0.f k a0 = some out) : COk Un O Tryd.prog 59 { ar := [.loc 100000 0], r := .p (.list (.named 5)) out, bs := [(100000, .box [.mp 100001]), (100001, .map (.named 5) a0)], bs' := [(100000, .box [.mp 100001]), (100001, .map (.named 5) a0)] } := by
  refine cok_of_wp Tryd.func59 rfl (k := 6) rfl (Nat.le_of_ble_eq_true rfl) (namesOk_of (by kernel_rfl)) ?_
  intro B hN
  refine WpC.conv (cvK (b := ⟨[(0, .loc 100000 0)], [(100000, .box [.mp 100001]), (100001, .map (.named 5) a0)]⟩) [0] [100000, 100001] (by kernel_rfl)) ?_
  unfold env_Env_Shown_m0.f at h
  refine WpC.seq ?_
  refine rgU (st1 := ⟨[(0, .loc 100000 0)], [(100000, .box [.mp 100001]), (100001, .map (.named 5) a0)]⟩) [0] [100000, 100001] hN (.cons (moU (rs := []) rfl (.inr rfl) (.lit _ _ rfl)) .nil) (by kernel_rfl) (by kernel_rfl) (by kernel_rfl) (cvR _) ?_
  refine tnU ?_
  refine WpC.seq ?_
  obtain ⟨v1, hv1, h⟩ := bind_some h
  obtain ⟨v2, hv2, h⟩ := bind_some h
  refine rgU (st1 := ⟨[(2, .vec 10002 4 0 v2.length)], [(10002, .row 60 (.named 5) v2 false), (100000, .box [.mp 100001]), (100001, .map (.named 5) a0)]⟩) [2] [10002, 100000, 100001] hN (.cons (mvU (v := .loc 100000 0) rfl rfl) (.cons (caV (rs := [(3, .loc 100000 0)]) (vw := []) rfl rfl (.func _) hb_58 (COk.ren (env_Env_List_m0.ok O hO k a0 v1 hv1) (fun n => if n = 60500 then 10001 else if n = 100000 then 100000 else if n = 100001 then 100001 else n) (injOn_of (by kernel_rfl))) (.cons o0 .nil) (.cons (.same _) .nil) (by simp) (.inl rfl)) (.cons (caV (rs := [(4, .vec 10001 4 0 v1.length)]) (vw := []) rfl rfl (.func _) hb_80 (COk.ren (env_Var_80_m0.ok O hO k v1 v2 hv2) (fun n => if n = 60500 then 10002 else if n = 100000 then 10001 else n) (injOn_of (by kernel_rfl))) (.cons o0 (.cons (.func _ _) .nil)) (.cons (.cast (by first | rfl | (simp only [upd_length, List.length_replicate, List.length_append]; done) | (simp only [upd_length, List.length_replicate, List.length_append] at *; omega) | omega)) (.cons (.same _) .nil)) (by simp) (.inl rfl)) (.cons (mvA (v := .vec 10002 4 0 v2.length) rfl rfl) .nil)))) (by kernel_rfl) (by kernel_rfl) (by kernel_rfl) (cvR _) ?_
  refine tnU ?_
  refine WpC.conv (cvT (Conv.freeze (U := Un) 2 10002 60 _ (.named 5) v2 false (.head _) (by first | rfl | (simp only [upd_length, List.length_replicate, List.length_append]; done) | (simp only [upd_length, List.length_replicate, List.length_append] at *; omega) | omega) (.head _) (by first | (simp [Blk.names]; done) | (simp [Blk.names, AVal.namesL, AVal.names]; done) | (simp [Blk.names]; decide))) (cvK (b := ⟨[(2, .p (.list (.named 5)) v2)], [(100000, .box [.mp 100001]), (100001, .map (.named 5) a0)]⟩) [2] [100000, 100001] (by kernel_rfl))) (WpC.ret ?_)
  have hq := Option.some.inj h
  subst hq
  exact ends_ret (retV_1 rfl (.head _)) (ain_cons (.head _) (ain_cons (.tail _ (.head _)) ain_nil))

theorem millwrightlaw14_Shows_m0.ok (O : Out) (hO : GOk O) (k : Nat) (a0 : List ((List UInt8) × T_env_Var)) (a1 : List T_env_Var) (out : Bool) (h : millwrightlaw14_Shows_m0.f k a0 a1 = some out) : COk Un O Tryd.prog 40 { ar := [.loc 100000 0, .loc 100002 0], r := .p .bool out, bs := [(100000, .box [.mp 100001]), (100001, .map (.named 5) a0), (100002, .box [.p (.list (.named 5)) a1])], bs' := [(100000, .box [.mp 100001]), (100001, .map (.named 5) a0), (100002, .box [.p (.list (.named 5)) a1])] } := by
  refine cok_of_wp Tryd.func40 rfl (k := 76) rfl (Nat.le_of_ble_eq_true rfl) (namesOk_of (by kernel_rfl)) ?_
  intro B hN
  refine WpC.conv (cvK (b := ⟨[(0, .loc 100000 0), (1, .loc 100002 0)], [(100000, .box [.mp 100001]), (100001, .map (.named 5) a0), (100002, .box [.p (.list (.named 5)) a1])]⟩) [0, 1] [100000, 100001, 100002] (by kernel_rfl)) ?_
  unfold millwrightlaw14_Shows_m0.f at h
  refine WpC.seq ?_
  refine rgU (st1 := ⟨[(0, .loc 100000 0), (1, .loc 100002 0)], [(100000, .box [.mp 100001]), (100001, .map (.named 5) a0), (100002, .box [.p (.list (.named 5)) a1])]⟩) [0, 1] [100000, 100001, 100002] hN (.cons (moU (rs := []) rfl (.inr rfl) (.bool _ _)) .nil) (by kernel_rfl) (by kernel_rfl) (by kernel_rfl) (cvR _) ?_
  refine tnU ?_
  refine WpC.seq ?_
  obtain ⟨v1, hv1, h⟩ := bind_some h
  refine rgU (st1 := ⟨[(0, .loc 100000 0), (1, .loc 100002 0), (5, .vec 10001 4 0 v1.length)], [(10001, .row 60 (.named 5) v1 false), (100000, .box [.mp 100001]), (100001, .map (.named 5) a0), (100002, .box [.p (.list (.named 5)) a1])]⟩) [0, 1, 5] [10001, 100000, 100001, 100002] hN (.cons (mvU (v := .loc 100000 0) rfl rfl) (.cons (caV (rs := [(12, .loc 100000 0)]) (vw := []) rfl rfl (.func _) hb_58 (COk.ren (env_Env_List_m0.ok O hO k a0 v1 hv1) (fun n => if n = 60500 then 10001 else if n = 100000 then 100000 else if n = 100001 then 100001 else n) (injOn_of (by kernel_rfl))) (.cons o0 .nil) (.cons (.same _) .nil) (by simp) (.inl rfl)) (.cons (mvA (v := .vec 10001 4 0 v1.length) rfl rfl) .nil))) (by kernel_rfl) (by kernel_rfl) (by kernel_rfl) (cvR _) ?_
  refine tnU ?_
  refine WpC.seq ?_
  refine WpC.seq ?_
  refine rgU (st1 := ⟨[(0, .loc 100000 0), (1, .loc 100002 0), (5, .vec 10001 4 0 v1.length), (21, .p .bool (((v1.length : Int) != (a1.length : Int)) : Bool))], [(10001, .row 60 (.named 5) v1 false), (100000, .box [.mp 100001]), (100001, .map (.named 5) a0), (100002, .box [.p (.list (.named 5)) a1])]⟩) [0, 1, 5, 21] [10001, 100000, 100001, 100002] hN (.cons (mvU (v := .vec 10001 4 0 v1.length) rfl rfl) (.cons (sok_lenV (U := Un) (rs := [(14, .vec 10001 4 0 v1.length)]) rfl rfl Tryd.underlying97 o0) (.cons (mvU (v := .loc 100002 0) rfl rfl) (.cons (nlU (rs := [(16, .loc 100002 0)]) rfl rfl o0 rfl) (.cons (fdB (rs := [(17, .loc 100002 0)]) rfl rfl fd_58_0 (by decide) o0) (.cons (ldB (t := .list (.named 5)) (rs := [(18, .loc 100002 0)]) [] [.p (.list (.named 5)) a1] [] (v := .p (.list (.named 5)) a1) rfl rfl ty_56 o0 rfl rfl rfl rfl (.data (.one _ _))) (.cons (sok_lenL (U := Un) (rs := [(19, .p (.list (.named 5)) a1)]) rfl rfl Tryd.underlying56 o0) (.cons (cmU (rs := [(15, .p I6 ((v1.length : Int) : Int)), (20, .p I6 ((a1.length : Int) : Int))]) rfl rfl o0 o1 rfl) .nil)))))))) (by kernel_rfl) (by kernel_rfl) (by kernel_rfl) (cvR _) ?_
  refine tnU ?_
  refine cdU (b := ((v1.length : Int) != (a1.length : Int))) (.tmp (.tail _ (.tail _ (.tail _ (.head _))))) (fun hc2 => ?_) (fun hc2 => ?_)
  · replace h := ite_t hc2 h
    refine WpC.seq ?_
    refine rgU (st1 := ⟨[(4, .p .bool false)], [(100000, .box [.mp 100001]), (100001, .map (.named 5) a0), (100002, .box [.p (.list (.named 5)) a1])]⟩) [4] [100000, 100001, 100002] hN (.cons (moU (rs := []) rfl (.inr rfl) (.bool _ _)) .nil) (by kernel_rfl) (by kernel_rfl) (by kernel_rfl) (cvR _) ?_
    refine tnU ?_
    refine WpC.ret ?_
    refine thenQ_ret ?_
    have hq := Option.some.inj h
    subst hq
    exact ends_ret (retV_1 rfl (.head _)) (ain_cons (.head _) (ain_cons (.tail _ (.head _)) (ain_cons (.tail _ (.tail _ (.head _))) ain_nil)))
  · replace h := ite_f hc2 h
    refine WpC.conv (cvK (b := ⟨[(0, .loc 100000 0), (1, .loc 100002 0), (5, .vec 10001 4 0 v1.length)], [(10001, .row 60 (.named 5) v1 false), (100000, .box [.mp 100001]), (100001, .map (.named 5) a0), (100002, .box [.p (.list (.named 5)) a1])]⟩) [0, 1, 5] [10001, 100000, 100001, 100002] (by kernel_rfl)) (WpC.skip ?_)
    refine tnU ?_
    refine WpC.seq ?_
    refine rgU (st1 := ⟨[(0, .loc 100000 0), (1, .loc 100002 0), (5, .vec 10001 4 0 v1.length), (6, .vec 22 4 0 (([] : List T_env_Var).length))], [(22, .row 66 (.named 5) ([] : List T_env_Var) true), (10001, .row 60 (.named 5) v1 false), (100000, .box [.mp 100001]), (100001, .map (.named 5) a0), (100002, .box [.p (.list (.named 5)) a1])]⟩) [0, 1, 5, 6] [22, 10001, 100000, 100001, 100002] hN (.cons (sok_buildSlice (U := Un) (t := .named 5) (rs := []) (ys := []) (xs := ([] : List T_env_Var)) rfl rfl rfl rfl row_56 .nil (by decide)) (.cons (mvA (v := .vec 22 4 0 (([] : List T_env_Var).length)) rfl rfl) .nil)) (by kernel_rfl) (by kernel_rfl) (by kernel_rfl) (Conv.cast (U := Un) (st' := ⟨[(0, .loc 100000 0), (1, .loc 100002 0), (5, .vec 10001 4 0 v1.length), (6, .vec 22 4 0 0)], [(22, .row 66 (.named 5) ([] : List T_env_Var) true), (10001, .row 60 (.named 5) v1 false), (100000, .box [.mp 100001]), (100001, .map (.named 5) a0), (100002, .box [.p (.list (.named 5)) a1])]⟩) (by simp only [upd_length, List.length_nil, List.length_replicate])) ?_
    refine tnU ?_
    refine sqJ (fun st' => ∃ v3 : List T_env_Var, millwrightlaw14_Shows_m0.j19 k a0 a1 v3 = some out ∧ st' = ⟨[(0, .loc 100000 0), (6, .vec 1006 4 0 v3.length)], [(1006, .row 66 (.named 5) v3 false), (100000, .box [.mp 100001]), (100001, .map (.named 5) a0), (100002, .box [.p (.list (.named 5)) a1])]⟩) ?_ ?_
    · refine WpC.seq ?_
      refine rgU (st1 := ⟨[(0, .loc 100000 0), (1, .loc 100002 0), (6, .vec 22 4 0 0), (23, .vec 10001 4 0 v1.length), (24, .p I6 ((v1.length : Int) : Int)), (25, .p I6 (0 : Int))], [(22, .row 66 (.named 5) ([] : List T_env_Var) true), (10001, .row 60 (.named 5) v1 false), (100000, .box [.mp 100001]), (100001, .map (.named 5) a0), (100002, .box [.p (.list (.named 5)) a1])]⟩) [0, 1, 6, 23, 24, 25] [22, 10001, 100000, 100001, 100002] hN (.cons (mvU (v := .vec 10001 4 0 v1.length) rfl rfl) (.cons (sok_lenV (U := Un) (rs := [(23, .vec 10001 4 0 v1.length)]) rfl rfl Tryd.underlying97 o0) (.cons (moU (rs := []) rfl (.inl rfl) (.int _ _ _)) .nil))) (by kernel_rfl) (by kernel_rfl) (by kernel_rfl) (cvR _) ?_
      refine tnU ?_
      refine WpC.block ?_
      obtain ⟨o24, hlo24, h⟩ := bind_some h
      have hout25 := h
      clear h
      refine WpC.conv (cvT (Conv.loose (U := Un) 22 66 (.named 5) ([] : List T_env_Var) (.head _)) (cvT (cvK (b := ⟨[(0, .loc 100000 0), (1, .loc 100002 0), (6, .vec 22 4 0 0), (23, .vec 10001 4 0 v1.length), (24, .p I6 ((v1.length : Int) : Int)), (25, .p I6 (0 : Int))], [(22, .row 66 (.named 5) ([] : List T_env_Var) false), (10001, .row 60 (.named 5) v1 false), (100000, .box [.mp 100001]), (100001, .map (.named 5) a0), (100002, .box [.p (.list (.named 5)) a1])]⟩) [0, 1, 6, 23, 24, 25] [22, 10001, 100000, 100001, 100002] (by kernel_rfl)) (cvT (Conv.ren (U := Un) (st' := ⟨[(0, .loc 100000 0), (1, .loc 100002 0), (6, .vec 1006 4 0 0), (23, .vec 10001 4 0 v1.length), (24, .p I6 ((v1.length : Int) : Int)), (25, .p I6 (0 : Int))], [(1006, .row 66 (.named 5) ([] : List T_env_Var) false), (10001, .row 60 (.named 5) v1 false), (100000, .box [.mp 100001]), (100001, .map (.named 5) a0), (100002, .box [.p (.list (.named 5)) a1])]⟩) 22 1006 (by unfold K0; omega) (by kernel_rfl) (by kernel_rfl) (by kernel_rfl)) (cvK (b := ⟨[(0, .loc 100000 0), (1, .loc 100002 0), (6, .vec 1006 4 0 0), (23, .vec 10001 4 0 v1.length), (24, .p I6 ((v1.length : Int) : Int)), (25, .p I6 (0 : Int))], [(1006, .row 66 (.named 5) ([] : List T_env_Var) false), (10001, .row 60 (.named 5) v1 false), (100000, .box [.mp 100001]), (100001, .map (.named 5) a0), (100002, .box [.p (.list (.named 5)) a1])]⟩) [0, 1, 6, 23, 24, 25] [1006, 10001, 100000, 100001, 100002] (by kernel_rfl))))) ?_
      refine WpC.loop (U := Un) (fun n st' => ∃ v20 : List T_env_Var, ∃ v21 : Int, millwrightlaw14_Shows_m0.l22 k a0 a1 v1 n v20 v21 = some o24 ∧ st' = ⟨[(0, .loc 100000 0), (1, .loc 100002 0), (6, .vec 1006 4 0 v20.length), (23, .vec 10001 4 0 v1.length), (24, .p I6 ((v1.length : Int) : Int)), (25, .p I6 v21)], [(1006, .row 66 (.named 5) v20 false), (10001, .row 60 (.named 5) v1 false), (100000, .box [.mp 100001]), (100001, .map (.named 5) a0), (100002, .box [.p (.list (.named 5)) a1])]⟩) k ⟨([] : List T_env_Var), 0, hlo24, rfl⟩ ?_
      clear hlo24
      rintro (_ | n) _ ⟨v20, v21, h, rfl⟩
      · cases h
      · rw [millwrightlaw14_Shows_m0.l22] at h
        refine WpC.seq ?_
        refine rgU (st1 := ⟨[(0, .loc 100000 0), (1, .loc 100002 0), (6, .vec 1006 4 0 v20.length), (23, .vec 10001 4 0 v1.length), (24, .p I6 ((v1.length : Int) : Int)), (25, .p I6 v21), (26, .p .bool ((decide (v21 < (v1.length : Int))) : Bool))], [(1006, .row 66 (.named 5) v20 false), (10001, .row 60 (.named 5) v1 false), (100000, .box [.mp 100001]), (100001, .map (.named 5) a0), (100002, .box [.p (.list (.named 5)) a1])]⟩) [0, 1, 6, 23, 24, 25, 26] [1006, 10001, 100000, 100001, 100002] hN (.cons (cmU (rs := [(25, .p I6 v21), (24, .p I6 ((v1.length : Int) : Int))]) rfl rfl o0 o1 rfl) .nil) (by kernel_rfl) (by kernel_rfl) (by kernel_rfl) (cvR _) ?_
        refine tnU ?_
        refine WpC.seq ?_
        refine cdU (b := (decide (v21 < (v1.length : Int)))) (.tmp (.tail _ (.tail _ (.tail _ (.tail _ (.tail _ (.tail _ (.head _)))))))) (fun hc26 => ?_) (fun hc26 => ?_)
        · replace h := ite_t hc26 h
          refine WpC.conv (cvK (b := ⟨[(0, .loc 100000 0), (1, .loc 100002 0), (6, .vec 1006 4 0 v20.length), (23, .vec 10001 4 0 v1.length), (24, .p I6 ((v1.length : Int) : Int)), (25, .p I6 v21)], [(1006, .row 66 (.named 5) v20 false), (10001, .row 60 (.named 5) v1 false), (100000, .box [.mp 100001]), (100001, .map (.named 5) a0), (100002, .box [.p (.list (.named 5)) a1])]⟩) [0, 1, 6, 23, 24, 25] [1006, 10001, 100000, 100001, 100002] (by kernel_rfl)) (WpC.skip ?_)
          refine tnU ?_
          refine sqJ (fun st' => ∃ v27 : List T_env_Var, millwrightlaw14_Shows_m0.j28 k (millwrightlaw14_Shows_m0.l22 k a0 a1 v1 n) a0 a1 v1 v21 v27 = some o24 ∧ st' = ⟨[(0, .loc 100000 0), (1, .loc 100002 0), (6, .vec 1006 4 0 v27.length), (23, .vec 10001 4 0 v1.length), (24, .p I6 ((v1.length : Int) : Int)), (25, .p I6 v21)], [(1006, .row 66 (.named 5) v27 false), (10001, .row 60 (.named 5) v1 false), (100000, .box [.mp 100001]), (100001, .map (.named 5) a0), (100002, .box [.p (.list (.named 5)) a1])]⟩) ?_ ?_
          · refine WpC.block ?_
            refine WpC.seq ?_
            obtain ⟨g29, h⟩ := if_some h
            obtain ⟨v30, hv30, h⟩ := bind_some h
            refine rgU (st1 := ⟨[(0, .loc 100000 0), (1, .loc 100002 0), (6, .vec 1006 4 0 v20.length), (7, .p I6 v21), (8, .loc 8 0), (23, .vec 10001 4 0 v1.length), (24, .p I6 ((v1.length : Int) : Int)), (25, .p I6 v21)], [(8, .box [.p .str v30.f_Name, .p (.list .str) v30.f_Words, .p I6 v30.f_Level, .p .bool v30.f_Hidden]), (1006, .row 66 (.named 5) v20 false), (10001, .row 60 (.named 5) v1 false), (100000, .box [.mp 100001]), (100001, .map (.named 5) a0), (100002, .box [.p (.list (.named 5)) a1])]⟩) [0, 1, 6, 7, 8, 23, 24, 25] [8, 1006, 10001, 100000, 100001, 100002] hN (.cons (mvU (v := .p I6 v21) rfl rfl) (.cons (sok_indexV (U := Un) (rs := [(23, .vec 10001 4 0 v1.length), (25, .p I6 v21)]) rfl rfl sl_97 o0 o1 g29) (.cons (sok_loadE (U := Un) (E := 60) (t := .named 5) (rs := [(28, .eloc 10001 4 (0 + v21.toNat) 0)]) (xs := v1) (fx := false) rfl rfl ty_60 o0 hv30 (.here _ _)) (.cons (sok_allocZ (U := Un) (rs := []) (d := 8) (us := [.p .str ([] : List UInt8), .p (.list .str) ([] : List (List UInt8)), .p I6 (0 : Int), .p .bool false]) (v := (.agg #[.string ByteArray.empty, .slice none 0 0, .int .i64 0, .bool false])) rfl rfl rfl (by kernel_rfl) rfl (.data (fun _ _ _ => rd_str0) (.data (fun _ _ _ => .lnil _) (.data (fun _ _ _ => .int _ _) (.data (fun _ _ _ => .bool _) .nil)))) (by kernel_rfl)) (.cons (mvA (v := .p I6 v21) rfl rfl) (.cons (sok_storeB (U := Un) (rs := [(8, .loc 8 0), (29, .p (.named 5) v30)]) (v := .p (.named 5) v30) (mid' := [.p .str v30.f_Name, .p (.list .str) v30.f_Words, .p I6 v30.f_Level, .p .bool v30.f_Hidden]) [] [.p .str ([] : List UInt8), .p (.list .str) ([] : List (List UInt8)), .p I6 (0 : Int), .p .bool false] [] rfl rfl rfl ty_60 o0 o1 (.data (.named (us := ([.p .str v30.f_Name, .p (.list .str) v30.f_Words, .p I6 v30.f_Level, .p .bool v30.f_Hidden] : List (AVal Un))) (.pair (.one _ _) (.pair (.one _ _) (.pair (.one _ _) (.pair (.one _ _) .unit)))))) rfl rfl rfl rfl rfl rfl) .nil)))))) (by kernel_rfl) (by kernel_rfl) (by kernel_rfl) (cvR _) ?_
            refine tnU ?_
            refine WpC.seq ?_
            refine WpC.seq ?_
            obtain ⟨v31, hv31, h⟩ := bind_some h
            obtain ⟨v32, hv32, h⟩ := bind_some h
            refine WpC.regA (U := Un) (st1 := ⟨[(0, .loc 100000 0), (1, .loc 100002 0), (6, .vec 1006 4 0 v20.length), (7, .p I6 v21), (8, .loc 8 0), (23, .vec 10001 4 0 v1.length), (24, .p I6 ((v1.length : Int) : Int)), (25, .p I6 v21), (39, .p .bool ((!v32) : Bool))], [(8, .box [.p .str v30.f_Name, .p (.list .str) v30.f_Words, .p I6 v30.f_Level, .p .bool v30.f_Hidden]), (1006, .row 66 (.named 5) v20 false), (10001, .row 60 (.named 5) v1 false), (100000, .box [.mp 100001]), (100001, .map (.named 5) a0), (100002, .box [.p (.list (.named 5)) a1])]⟩) [0, 1, 6, 7, 8, 23, 24, 25, 39] [8, 1006, 10001, 100000, 100001, 100002] [[], [], [1], [1, 2], [1, 2, 3], [], [1, 2, 3, 4, 5], [1, 2, 3, 4, 5, 6], [0, 1, 2, 3, 4, 5, 6, 7], [0, 1, 2, 3, 4, 5, 6, 7, 8]] mixed hN (.cons (ldB (t := .named 5) (rs := [(8, .loc 8 0)]) [] [.p .str v30.f_Name, .p (.list .str) v30.f_Words, .p I6 v30.f_Level, .p .bool v30.f_Hidden] [] (v := .p (.named 5) ((T_env_Var.mk v30.f_Name v30.f_Words v30.f_Level v30.f_Hidden) : T_env_Var)) rfl rfl ty_60 o0 rfl rfl rfl rfl (.data (.named (us := ([.p .str v30.f_Name, .p (.list .str) v30.f_Words, .p I6 v30.f_Level, .p .bool v30.f_Hidden] : List (AVal Un))) (.pair (.one _ _) (.pair (.one _ _) (.pair (.one _ _) (.pair (.one _ _) .unit))))))) (.cons (mvU (v := .loc 100002 0) rfl rfl) (.cons (nlU (rs := [(31, .loc 100002 0)]) rfl rfl o0 rfl) (.cons (fdB (rs := [(32, .loc 100002 0)]) rfl rfl fd_58_0 (by decide) o0) (.cons (ldB (t := .list (.named 5)) (rs := [(33, .loc 100002 0)]) [] [.p (.list (.named 5)) a1] [] (v := .p (.list (.named 5)) a1) rfl rfl ty_56 o0 rfl rfl rfl rfl (.data (.one _ _))) (.cons (mvU (v := .p I6 v21) rfl rfl) (.cons (sok_indexL (U := Un) (rs := [(34, .p (.list (.named 5)) a1), (35, .p I6 v21)]) rfl rfl sl_56 o0 o1 hv31) (.cons (sok_loadP (U := Un) (rs := [(36, .pp (.named 5) v31)]) rfl rfl ty_66 o0) (.cons (caV (rs := [(30, .p (.named 5) ((T_env_Var.mk v30.f_Name v30.f_Words v30.f_Level v30.f_Hidden) : T_env_Var)), (37, .p (.named 5) v31)]) (vw := []) rfl rfl (.func _) hb_37 (millwrightref14_Same.ok O hO k (T_env_Var.mk v30.f_Name v30.f_Words v30.f_Level v30.f_Hidden) v31 v32 hv32) (.cons o0 (.cons o1 .nil)) (.cons (.same _) (.cons (.same _) .nil)) (by simp) (.inl rfl)) (.cons (sok_not (U := Un) (rs := [(38, .p .bool v32)]) rfl rfl o0) .nil)))))))))) (by kernel_rfl) (by kernel_rfl) (by kernel_rfl) (by kernel_rfl) (by kernel_rfl) (cvR _) ?_
            refine tnU ?_
            refine cdU (b := (!v32)) (.tmp (.tail _ (.tail _ (.tail _ (.tail _ (.tail _ (.tail _ (.tail _ (.tail _ (.head _)))))))))) (fun hc33 => ?_) (fun hc33 => ?_)
            · replace h := ite_t hc33 h
              refine WpC.seq ?_
              refine rgU (st1 := ⟨[(4, .p .bool false)], [(100000, .box [.mp 100001]), (100001, .map (.named 5) a0), (100002, .box [.p (.list (.named 5)) a1])]⟩) [4] [100000, 100001, 100002] hN (.cons (moU (rs := []) rfl (.inr rfl) (.bool _ _)) .nil) (by kernel_rfl) (by kernel_rfl) (by kernel_rfl) (cvR _) ?_
              refine tnU ?_
              refine WpC.ret ?_
              refine thenQ_ret ?_
              refine blockQ_ret ?_
              refine thenQ_ret ?_
              have hq := Option.some.inj h
              subst hq
              refine thenQ_ret ?_
              have h := hout25
              refine blockQ_ret ?_
              refine thenQ_ret ?_
              have hq := Option.some.inj h
              subst hq
              exact ends_ret (retV_1 rfl (.head _)) (ain_cons (.head _) (ain_cons (.tail _ (.head _)) (ain_cons (.tail _ (.tail _ (.head _))) ain_nil)))
            · replace h := ite_f hc33 h
              refine WpC.conv (cvK (b := ⟨[(0, .loc 100000 0), (1, .loc 100002 0), (6, .vec 1006 4 0 v20.length), (7, .p I6 v21), (8, .loc 8 0), (23, .vec 10001 4 0 v1.length), (24, .p I6 ((v1.length : Int) : Int)), (25, .p I6 v21)], [(8, .box [.p .str v30.f_Name, .p (.list .str) v30.f_Words, .p I6 v30.f_Level, .p .bool v30.f_Hidden]), (1006, .row 66 (.named 5) v20 false), (10001, .row 60 (.named 5) v1 false), (100000, .box [.mp 100001]), (100001, .map (.named 5) a0), (100002, .box [.p (.list (.named 5)) a1])]⟩) [0, 1, 6, 7, 8, 23, 24, 25] [8, 1006, 10001, 100000, 100001, 100002] (by kernel_rfl)) (WpC.skip ?_)
              refine tnU ?_
              refine WpC.seq ?_
              refine rgU (st1 := ⟨[(0, .loc 100000 0), (1, .loc 100002 0), (6, .vec 1006 4 0 v20.length), (7, .p I6 v21), (23, .vec 10001 4 0 v1.length), (24, .p I6 ((v1.length : Int) : Int)), (25, .p I6 v21), (42, .p .bool ((!v30.f_Hidden) : Bool))], [(1006, .row 66 (.named 5) v20 false), (10001, .row 60 (.named 5) v1 false), (100000, .box [.mp 100001]), (100001, .map (.named 5) a0), (100002, .box [.p (.list (.named 5)) a1])]⟩) [0, 1, 6, 7, 23, 24, 25, 42] [1006, 10001, 100000, 100001, 100002] hN (.cons (fdB (rs := [(8, .loc 8 0)]) rfl rfl fd_60_3 (by decide) o0) (.cons (ldB (t := .bool) (rs := [(40, .loc 8 3)]) [.p .str v30.f_Name, .p (.list .str) v30.f_Words, .p I6 v30.f_Level] [.p .bool v30.f_Hidden] [] (v := .p .bool v30.f_Hidden) rfl rfl ty_4 o0 rfl rfl rfl rfl (.data (.one _ _))) (.cons (sok_not (U := Un) (rs := [(41, .p .bool v30.f_Hidden)]) rfl rfl o0) .nil))) (by kernel_rfl) (by kernel_rfl) (by kernel_rfl) (cvR _) ?_
              refine tnU ?_
              refine cdU (b := (!v30.f_Hidden)) (.tmp (.tail _ (.tail _ (.tail _ (.tail _ (.tail _ (.tail _ (.tail _ (.head _))))))))) (fun hc34 => ?_) (fun hc34 => ?_)
              · replace h := ite_t hc34 h
                obtain ⟨v35, hv35, h⟩ := bind_some h
                obtain ⟨g36, h⟩ := if_some h
                refine rgU (st1 := ⟨[(0, .loc 100000 0), (1, .loc 100002 0), (6, .vec 52 4 0 ((v20 ++ [v35]).length)), (23, .vec 10001 4 0 v1.length), (24, .p I6 ((v1.length : Int) : Int)), (25, .p I6 v21)], [(52, .row 66 (.named 5) (v20 ++ [v35]) false), (10001, .row 60 (.named 5) v1 false), (100000, .box [.mp 100001]), (100001, .map (.named 5) a0), (100002, .box [.p (.list (.named 5)) a1])]⟩) [0, 1, 6, 23, 24, 25] [52, 10001, 100000, 100001, 100002] hN (.cons (mvU (v := .vec 1006 4 0 v20.length) rfl rfl) (.cons (mvU (v := .loc 100002 0) rfl rfl) (.cons (nlU (rs := [(44, .loc 100002 0)]) rfl rfl o0 rfl) (.cons (fdB (rs := [(45, .loc 100002 0)]) rfl rfl fd_58_0 (by decide) o0) (.cons (ldB (t := .list (.named 5)) (rs := [(46, .loc 100002 0)]) [] [.p (.list (.named 5)) a1] [] (v := .p (.list (.named 5)) a1) rfl rfl ty_56 o0 rfl rfl rfl rfl (.data (.one _ _))) (.cons (mvU (v := .p I6 v21) rfl rfl) (.cons (sok_indexL (U := Un) (rs := [(47, .p (.list (.named 5)) a1), (48, .p I6 v21)]) rfl rfl sl_56 o0 o1 hv35) (.cons (sok_loadP (U := Un) (rs := [(49, .pp (.named 5) v35)]) rfl rfl ty_66 o0) (.cons (sok_buildSlice (U := Un) (t := .named 5) (rs := [(50, .p (.named 5) v35)]) (ys := [.tmp 50]) (xs := [v35]) rfl rfl rfl rfl row_56 (.cons o0 .nil) (by decide)) (.cons (sok_append' (U := Un) (t := .named 5) (rs := [(43, .vec 1006 4 0 v20.length), (51, .vec 51 4 0 ([v35].length))]) (vw := [(51, .row 66 (.named 5) [v35] true)]) (xs := v20) (ys := [v35]) (fx := false) rfl rfl rfl row_56 (by decide) o0 o1 (.whole (.head _)) (by simp) g36) (.cons (mvA (v := .vec 52 4 0 ((v20 ++ [v35]).length)) rfl rfl) .nil))))))))))) (by kernel_rfl) (by kernel_rfl) (by kernel_rfl) (cvT (Conv.ren (U := Un) (st' := ⟨[(0, .loc 100000 0), (1, .loc 100002 0), (6, .vec 1006 4 0 ((v20 ++ [v35]).length)), (23, .vec 10001 4 0 v1.length), (24, .p I6 ((v1.length : Int) : Int)), (25, .p I6 v21)], [(1006, .row 66 (.named 5) (v20 ++ [v35]) false), (10001, .row 60 (.named 5) v1 false), (100000, .box [.mp 100001]), (100001, .map (.named 5) a0), (100002, .box [.p (.list (.named 5)) a1])]⟩) 52 1006 (by unfold K0; omega) (by kernel_rfl) (by kernel_rfl) (by kernel_rfl)) (cvK (b := ⟨[(0, .loc 100000 0), (1, .loc 100002 0), (6, .vec 1006 4 0 ((v20 ++ [v35]).length)), (23, .vec 10001 4 0 v1.length), (24, .p I6 ((v1.length : Int) : Int)), (25, .p I6 v21)], [(1006, .row 66 (.named 5) (v20 ++ [v35]) false), (10001, .row 60 (.named 5) v1 false), (100000, .box [.mp 100001]), (100001, .map (.named 5) a0), (100002, .box [.p (.list (.named 5)) a1])]⟩) [0, 1, 6, 23, 24, 25] [1006, 10001, 100000, 100001, 100002] (by kernel_rfl))) ?_
                refine blockQ_normal ?_
                refine tnU ?_
                exact ⟨(v20 ++ [v35]), h, rfl⟩
              · replace h := ite_f hc34 h
                refine WpC.conv (cvK (b := ⟨[(0, .loc 100000 0), (1, .loc 100002 0), (6, .vec 1006 4 0 v20.length), (23, .vec 10001 4 0 v1.length), (24, .p I6 ((v1.length : Int) : Int)), (25, .p I6 v21)], [(1006, .row 66 (.named 5) v20 false), (10001, .row 60 (.named 5) v1 false), (100000, .box [.mp 100001]), (100001, .map (.named 5) a0), (100002, .box [.p (.list (.named 5)) a1])]⟩) [0, 1, 6, 23, 24, 25] [1006, 10001, 100000, 100001, 100002] (by kernel_rfl)) (WpC.skip ?_)
                refine blockQ_normal ?_
                refine tnU ?_
                exact ⟨v20, h, rfl⟩
          · rintro _ ⟨v27, h, rfl⟩
            unfold millwrightlaw14_Shows_m0.j28 at h
            refine rgU (st1 := ⟨[(0, .loc 100000 0), (1, .loc 100002 0), (6, .vec 1006 4 0 v27.length), (23, .vec 10001 4 0 v1.length), (24, .p I6 ((v1.length : Int) : Int)), (25, .p I6 ((IntKind.i64.wrap (v21 + 1)) : Int))], [(1006, .row 66 (.named 5) v27 false), (10001, .row 60 (.named 5) v1 false), (100000, .box [.mp 100001]), (100001, .map (.named 5) a0), (100002, .box [.p (.list (.named 5)) a1])]⟩) [0, 1, 6, 23, 24, 25] [1006, 10001, 100000, 100001, 100002] hN (.cons (sok_arith (U := Un) (rs := [(25, .p I6 v21)]) rfl rfl o0 (.int _ _ _) rfl) (.cons (mvU (v := .p I6 ((IntKind.i64.wrap (v21 + 1)) : Int)) rfl rfl) .nil)) (by kernel_rfl) (by kernel_rfl) (by kernel_rfl) (cvR _) ?_
            refine tnU ?_
            exact ⟨n, Nat.lt_succ_self n, v27, (IntKind.i64.wrap (v21 + 1)), h, rfl⟩
        · replace h := ite_f hc26 h
          refine WpC.conv (cvK (b := ⟨[(0, .loc 100000 0), (6, .vec 1006 4 0 v20.length)], [(1006, .row 66 (.named 5) v20 false), (100000, .box [.mp 100001]), (100001, .map (.named 5) a0), (100002, .box [.p (.list (.named 5)) a1])]⟩) [0, 6] [1006, 100000, 100001, 100002] (by kernel_rfl)) (WpC.exit ?_)
          refine thenQ_exit ?_
          have hq := Option.some.inj h
          subst hq
          refine thenQ_exit ?_
          have h := hout25
          refine blockQ_hit ?_
          refine tnU ?_
          exact ⟨v20, h, rfl⟩
    · rintro _ ⟨v3, h, rfl⟩
      unfold millwrightlaw14_Shows_m0.j19 at h
      refine WpC.seq ?_
      obtain ⟨v4, hv4, h⟩ := bind_some h
      refine rgU (st1 := ⟨[(6, .vec 1006 4 0 v3.length), (9, .p (.list (.named 5)) v4)], [(1006, .row 66 (.named 5) v3 false), (100000, .box [.mp 100001]), (100001, .map (.named 5) a0), (100002, .box [.p (.list (.named 5)) a1])]⟩) [6, 9] [1006, 100000, 100001, 100002] hN (.cons (mvU (v := .loc 100000 0) rfl rfl) (.cons (caV (rs := [(54, .loc 100000 0)]) (vw := []) rfl rfl (.func _) hb_59 (COk.ren (env_Env_Shown_m0.ok O hO k a0 v4 hv4) (fun n => if n = 100000 then 100000 else if n = 100001 then 100001 else n) (injOn_of (by kernel_rfl))) (.cons o0 .nil) (.cons (.same _) .nil) (by simp) (.inl rfl)) (.cons (mvA (v := .p (.list (.named 5)) v4) rfl rfl) .nil))) (by kernel_rfl) (by kernel_rfl) (by kernel_rfl) (cvR _) ?_
      refine tnU ?_
      refine WpC.seq ?_
      refine WpC.seq ?_
      refine rgU (st1 := ⟨[(6, .vec 1006 4 0 v3.length), (9, .p (.list (.named 5)) v4), (60, .p .bool (((v4.length : Int) != (v3.length : Int)) : Bool))], [(1006, .row 66 (.named 5) v3 false), (100000, .box [.mp 100001]), (100001, .map (.named 5) a0), (100002, .box [.p (.list (.named 5)) a1])]⟩) [6, 9, 60] [1006, 100000, 100001, 100002] hN (.cons (mvU (v := .p (.list (.named 5)) v4) rfl rfl) (.cons (sok_lenL (U := Un) (rs := [(56, .p (.list (.named 5)) v4)]) rfl rfl Tryd.underlying97 o0) (.cons (mvU (v := .vec 1006 4 0 v3.length) rfl rfl) (.cons (sok_lenV (U := Un) (rs := [(58, .vec 1006 4 0 v3.length)]) rfl rfl Tryd.underlying56 o0) (.cons (cmU (rs := [(57, .p I6 ((v4.length : Int) : Int)), (59, .p I6 ((v3.length : Int) : Int))]) rfl rfl o0 o1 rfl) .nil))))) (by kernel_rfl) (by kernel_rfl) (by kernel_rfl) (cvR _) ?_
      refine tnU ?_
      refine cdU (b := ((v4.length : Int) != (v3.length : Int))) (.tmp (.tail _ (.tail _ (.head _)))) (fun hc5 => ?_) (fun hc5 => ?_)
      · replace h := ite_t hc5 h
        refine WpC.seq ?_
        refine rgU (st1 := ⟨[(4, .p .bool false)], [(100000, .box [.mp 100001]), (100001, .map (.named 5) a0), (100002, .box [.p (.list (.named 5)) a1])]⟩) [4] [100000, 100001, 100002] hN (.cons (moU (rs := []) rfl (.inr rfl) (.bool _ _)) .nil) (by kernel_rfl) (by kernel_rfl) (by kernel_rfl) (cvR _) ?_
        refine tnU ?_
        refine WpC.ret ?_
        refine thenQ_ret ?_
        have hq := Option.some.inj h
        subst hq
        exact ends_ret (retV_1 rfl (.head _)) (ain_cons (.head _) (ain_cons (.tail _ (.head _)) (ain_cons (.tail _ (.tail _ (.head _))) ain_nil)))
      · replace h := ite_f hc5 h
        refine WpC.conv (cvK (b := ⟨[(6, .vec 1006 4 0 v3.length), (9, .p (.list (.named 5)) v4)], [(1006, .row 66 (.named 5) v3 false), (100000, .box [.mp 100001]), (100001, .map (.named 5) a0), (100002, .box [.p (.list (.named 5)) a1])]⟩) [6, 9] [1006, 100000, 100001, 100002] (by kernel_rfl)) (WpC.skip ?_)
        refine tnU ?_
        refine sqJ (fun st' => millwrightlaw14_Shows_m0.j6 k a0 a1 = some out ∧ st' = ⟨[], [(100000, .box [.mp 100001]), (100001, .map (.named 5) a0), (100002, .box [.p (.list (.named 5)) a1])]⟩) ?_ ?_
        · refine WpC.seq ?_
          refine rgU (st1 := ⟨[(6, .vec 1006 4 0 v3.length), (61, .p (.list (.named 5)) v4), (62, .p I6 ((v4.length : Int) : Int)), (63, .p I6 (0 : Int))], [(1006, .row 66 (.named 5) v3 false), (100000, .box [.mp 100001]), (100001, .map (.named 5) a0), (100002, .box [.p (.list (.named 5)) a1])]⟩) [6, 61, 62, 63] [1006, 100000, 100001, 100002] hN (.cons (mvU (v := .p (.list (.named 5)) v4) rfl rfl) (.cons (sok_lenL (U := Un) (rs := [(61, .p (.list (.named 5)) v4)]) rfl rfl Tryd.underlying97 o0) (.cons (moU (rs := []) rfl (.inl rfl) (.int _ _ _)) .nil))) (by kernel_rfl) (by kernel_rfl) (by kernel_rfl) (cvR _) ?_
          refine tnU ?_
          refine WpC.block ?_
          obtain ⟨o9, hlo9, h⟩ := bind_some h
          have hout10 := h
          clear h
          refine WpC.loop (U := Un) (fun n st' => ∃ v7 : Int, millwrightlaw14_Shows_m0.l8 k a0 a1 v3 v4 n v7 = some o9 ∧ st' = ⟨[(6, .vec 1006 4 0 v3.length), (61, .p (.list (.named 5)) v4), (62, .p I6 ((v4.length : Int) : Int)), (63, .p I6 v7)], [(1006, .row 66 (.named 5) v3 false), (100000, .box [.mp 100001]), (100001, .map (.named 5) a0), (100002, .box [.p (.list (.named 5)) a1])]⟩) k ⟨0, hlo9, rfl⟩ ?_
          clear hlo9
          rintro (_ | n) _ ⟨v7, h, rfl⟩
          · cases h
          · rw [millwrightlaw14_Shows_m0.l8] at h
            refine WpC.seq ?_
            refine rgU (st1 := ⟨[(6, .vec 1006 4 0 v3.length), (61, .p (.list (.named 5)) v4), (62, .p I6 ((v4.length : Int) : Int)), (63, .p I6 v7), (64, .p .bool ((decide (v7 < (v4.length : Int))) : Bool))], [(1006, .row 66 (.named 5) v3 false), (100000, .box [.mp 100001]), (100001, .map (.named 5) a0), (100002, .box [.p (.list (.named 5)) a1])]⟩) [6, 61, 62, 63, 64] [1006, 100000, 100001, 100002] hN (.cons (cmU (rs := [(63, .p I6 v7), (62, .p I6 ((v4.length : Int) : Int))]) rfl rfl o0 o1 rfl) .nil) (by kernel_rfl) (by kernel_rfl) (by kernel_rfl) (cvR _) ?_
            refine tnU ?_
            refine WpC.seq ?_
            refine cdU (b := (decide (v7 < (v4.length : Int)))) (.tmp (.tail _ (.tail _ (.tail _ (.tail _ (.head _)))))) (fun hc11 => ?_) (fun hc11 => ?_)
            · replace h := ite_t hc11 h
              refine WpC.conv (cvK (b := ⟨[(6, .vec 1006 4 0 v3.length), (61, .p (.list (.named 5)) v4), (62, .p I6 ((v4.length : Int) : Int)), (63, .p I6 v7)], [(1006, .row 66 (.named 5) v3 false), (100000, .box [.mp 100001]), (100001, .map (.named 5) a0), (100002, .box [.p (.list (.named 5)) a1])]⟩) [6, 61, 62, 63] [1006, 100000, 100001, 100002] (by kernel_rfl)) (WpC.skip ?_)
              refine tnU ?_
              refine WpC.seq ?_
              refine WpC.block ?_
              refine WpC.seq ?_
              obtain ⟨v12, hv12, h⟩ := bind_some h
              refine rgU (st1 := ⟨[(6, .vec 1006 4 0 v3.length), (10, .p I6 v7), (11, .loc 11 0), (61, .p (.list (.named 5)) v4), (62, .p I6 ((v4.length : Int) : Int)), (63, .p I6 v7)], [(11, .box [.p .str v12.f_Name, .p (.list .str) v12.f_Words, .p I6 v12.f_Level, .p .bool v12.f_Hidden]), (1006, .row 66 (.named 5) v3 false), (100000, .box [.mp 100001]), (100001, .map (.named 5) a0), (100002, .box [.p (.list (.named 5)) a1])]⟩) [6, 10, 11, 61, 62, 63] [11, 1006, 100000, 100001, 100002] hN (.cons (mvU (v := .p I6 v7) rfl rfl) (.cons (sok_indexL (U := Un) (rs := [(61, .p (.list (.named 5)) v4), (63, .p I6 v7)]) rfl rfl sl_97 o0 o1 hv12) (.cons (sok_loadP (U := Un) (rs := [(66, .pp (.named 5) v12)]) rfl rfl ty_60 o0) (.cons (sok_allocZ (U := Un) (rs := []) (d := 11) (us := [.p .str ([] : List UInt8), .p (.list .str) ([] : List (List UInt8)), .p I6 (0 : Int), .p .bool false]) (v := (.agg #[.string ByteArray.empty, .slice none 0 0, .int .i64 0, .bool false])) rfl rfl rfl (by kernel_rfl) rfl (.data (fun _ _ _ => rd_str0) (.data (fun _ _ _ => .lnil _) (.data (fun _ _ _ => .int _ _) (.data (fun _ _ _ => .bool _) .nil)))) (by kernel_rfl)) (.cons (mvA (v := .p I6 v7) rfl rfl) (.cons (sok_storeB (U := Un) (rs := [(11, .loc 11 0), (67, .p (.named 5) v12)]) (v := .p (.named 5) v12) (mid' := [.p .str v12.f_Name, .p (.list .str) v12.f_Words, .p I6 v12.f_Level, .p .bool v12.f_Hidden]) [] [.p .str ([] : List UInt8), .p (.list .str) ([] : List (List UInt8)), .p I6 (0 : Int), .p .bool false] [] rfl rfl rfl ty_60 o0 o1 (.data (.named (us := ([.p .str v12.f_Name, .p (.list .str) v12.f_Words, .p I6 v12.f_Level, .p .bool v12.f_Hidden] : List (AVal Un))) (.pair (.one _ _) (.pair (.one _ _) (.pair (.one _ _) (.pair (.one _ _) .unit)))))) rfl rfl rfl rfl rfl rfl) .nil)))))) (by kernel_rfl) (by kernel_rfl) (by kernel_rfl) (cvR _) ?_
              refine tnU ?_
              refine WpC.seq ?_
              obtain ⟨g13, h⟩ := if_some h
              obtain ⟨v14, hv14, h⟩ := bind_some h
              obtain ⟨v15, hv15, h⟩ := bind_some h
              refine WpC.regA (U := Un) (st1 := ⟨[(6, .vec 1006 4 0 v3.length), (61, .p (.list (.named 5)) v4), (62, .p I6 ((v4.length : Int) : Int)), (63, .p I6 v7), (74, .p .bool ((!v15) : Bool))], [(1006, .row 66 (.named 5) v3 false), (100000, .box [.mp 100001]), (100001, .map (.named 5) a0), (100002, .box [.p (.list (.named 5)) a1])]⟩) [6, 61, 62, 63, 74] [1006, 100000, 100001, 100002] [[], [], [], [1, 2], [1, 2, 3], [0, 1, 2, 3, 4], [0, 1, 2, 3, 4, 5]] mixed hN (.cons (ldB (t := .named 5) (rs := [(11, .loc 11 0)]) [] [.p .str v12.f_Name, .p (.list .str) v12.f_Words, .p I6 v12.f_Level, .p .bool v12.f_Hidden] [] (v := .p (.named 5) ((T_env_Var.mk v12.f_Name v12.f_Words v12.f_Level v12.f_Hidden) : T_env_Var)) rfl rfl ty_60 o0 rfl rfl rfl rfl (.data (.named (us := ([.p .str v12.f_Name, .p (.list .str) v12.f_Words, .p I6 v12.f_Level, .p .bool v12.f_Hidden] : List (AVal Un))) (.pair (.one _ _) (.pair (.one _ _) (.pair (.one _ _) (.pair (.one _ _) .unit))))))) (.cons (mvU (v := .vec 1006 4 0 v3.length) rfl rfl) (.cons (mvU (v := .p I6 v7) rfl rfl) (.cons (sok_indexV (U := Un) (rs := [(69, .vec 1006 4 0 v3.length), (70, .p I6 v7)]) rfl rfl sl_56 o0 o1 g13) (.cons (sok_loadE (U := Un) (E := 66) (t := .named 5) (rs := [(71, .eloc 1006 4 (0 + v7.toNat) 0)]) (xs := v3) (fx := false) rfl rfl ty_66 o0 hv14 (.here _ _)) (.cons (caV (rs := [(68, .p (.named 5) ((T_env_Var.mk v12.f_Name v12.f_Words v12.f_Level v12.f_Hidden) : T_env_Var)), (72, .p (.named 5) v14)]) (vw := []) rfl rfl (.func _) hb_37 (millwrightref14_Same.ok O hO k (T_env_Var.mk v12.f_Name v12.f_Words v12.f_Level v12.f_Hidden) v14 v15 hv15) (.cons o0 (.cons o1 .nil)) (.cons (.same _) (.cons (.same _) .nil)) (by simp) (.inl rfl)) (.cons (sok_not (U := Un) (rs := [(73, .p .bool v15)]) rfl rfl o0) .nil))))))) (by kernel_rfl) (by kernel_rfl) (by kernel_rfl) (by kernel_rfl) (by kernel_rfl) (cvR _) ?_
              refine tnU ?_
              refine cdU (b := (!v15)) (.tmp (.tail _ (.tail _ (.tail _ (.tail _ (.head _)))))) (fun hc16 => ?_) (fun hc16 => ?_)
              · replace h := ite_t hc16 h
                refine WpC.seq ?_
                refine rgU (st1 := ⟨[(4, .p .bool false)], [(100000, .box [.mp 100001]), (100001, .map (.named 5) a0), (100002, .box [.p (.list (.named 5)) a1])]⟩) [4] [100000, 100001, 100002] hN (.cons (moU (rs := []) rfl (.inr rfl) (.bool _ _)) .nil) (by kernel_rfl) (by kernel_rfl) (by kernel_rfl) (cvR _) ?_
                refine tnU ?_
                refine WpC.ret ?_
                refine blockQ_ret ?_
                refine thenQ_ret ?_
                have hq := Option.some.inj h
                subst hq
                refine thenQ_ret ?_
                have h := hout10
                refine blockQ_ret ?_
                refine thenQ_ret ?_
                have hq := Option.some.inj h
                subst hq
                exact ends_ret (retV_1 rfl (.head _)) (ain_cons (.head _) (ain_cons (.tail _ (.head _)) (ain_cons (.tail _ (.tail _ (.head _))) ain_nil)))
              · replace h := ite_f hc16 h
                refine WpC.conv (cvK (b := ⟨[(6, .vec 1006 4 0 v3.length), (61, .p (.list (.named 5)) v4), (62, .p I6 ((v4.length : Int) : Int)), (63, .p I6 v7)], [(1006, .row 66 (.named 5) v3 false), (100000, .box [.mp 100001]), (100001, .map (.named 5) a0), (100002, .box [.p (.list (.named 5)) a1])]⟩) [6, 61, 62, 63] [1006, 100000, 100001, 100002] (by kernel_rfl)) (WpC.skip ?_)
                refine blockQ_normal ?_
                refine tnU ?_
                refine rgU (st1 := ⟨[(6, .vec 1006 4 0 v3.length), (61, .p (.list (.named 5)) v4), (62, .p I6 ((v4.length : Int) : Int)), (63, .p I6 ((IntKind.i64.wrap (v7 + 1)) : Int))], [(1006, .row 66 (.named 5) v3 false), (100000, .box [.mp 100001]), (100001, .map (.named 5) a0), (100002, .box [.p (.list (.named 5)) a1])]⟩) [6, 61, 62, 63] [1006, 100000, 100001, 100002] hN (.cons (sok_arith (U := Un) (rs := [(63, .p I6 v7)]) rfl rfl o0 (.int _ _ _) rfl) (.cons (mvU (v := .p I6 ((IntKind.i64.wrap (v7 + 1)) : Int)) rfl rfl) .nil)) (by kernel_rfl) (by kernel_rfl) (by kernel_rfl) (cvR _) ?_
                refine tnU ?_
                exact ⟨n, Nat.lt_succ_self n, (IntKind.i64.wrap (v7 + 1)), h, rfl⟩
            · replace h := ite_f hc11 h
              refine WpC.conv (cvK (b := ⟨[], [(100000, .box [.mp 100001]), (100001, .map (.named 5) a0), (100002, .box [.p (.list (.named 5)) a1])]⟩) [] [100000, 100001, 100002] (by kernel_rfl)) (WpC.exit ?_)
              refine thenQ_exit ?_
              have hq := Option.some.inj h
              subst hq
              refine thenQ_exit ?_
              have h := hout10
              refine blockQ_hit ?_
              refine tnU ?_
              exact ⟨h, rfl⟩
        · rintro _ ⟨h, rfl⟩
          unfold millwrightlaw14_Shows_m0.j6 at h
          refine WpC.seq ?_
          refine rgU (st1 := ⟨[(4, .p .bool true)], [(100000, .box [.mp 100001]), (100001, .map (.named 5) a0), (100002, .box [.p (.list (.named 5)) a1])]⟩) [4] [100000, 100001, 100002] hN (.cons (moU (rs := []) rfl (.inr rfl) (.bool _ _)) .nil) (by kernel_rfl) (by kernel_rfl) (by kernel_rfl) (cvR _) ?_
          refine tnU ?_
          refine WpC.ret ?_
          have hq := Option.some.inj h
          subst hq
          exact ends_ret (retV_1 rfl (.head _)) (ain_cons (.head _) (ain_cons (.tail _ (.head _)) (ain_cons (.tail _ (.tail _ (.head _))) ain_nil)))

end Go.Proofs.YtnbnfjgedinlbabDoor
