/- A part of the proof of a given law: EPC1. Own work, printed in part by a program of mine. -/
import Derived.Test.YtnbnfjgedinlbabDoorK12EPC0
namespace Go.Proofs.YtnbnfjgedinlbabDoor
open Go Go.AM
set_option linter.unusedVariables false
set_option linter.unusedSimpArgs false
set_option maxRecDepth 100000
theorem env_Check.ok (O : Out) (hO : GOk O) (k : Nat) (a0 : T_env_Var) (out : Nat) (h : env_Check.f k a0 = some out) : COk Un O Tryd.prog 29 { ar := [.p (.named 5) a0], r := .p .err out } := by
  refine cok_of_wp Tryd.func29 rfl (k := 32) rfl (Nat.le_of_ble_eq_true rfl) (namesOk_pure rfl rfl rfl rfl) ?_
  intro B hN
  refine WpC.conv (cvK (b := ⟨[(0, .p (.named 5) a0)], []⟩) [0] [] (by kernel_rfl)) ?_
  unfold env_Check.f at h
  refine WpC.seq ?_
  refine rgU (st1 := ⟨[(1, .loc 1 0)], [(1, .box [.p .str a0.f_Name, .p (.list .str) a0.f_Words, .p I6 a0.f_Level, .p .bool a0.f_Hidden])]⟩) [1] [1] hN (.cons (sok_box (U := Un) (rs := [(0, .p (.named 5) a0)]) (d := 1) (us := [.p .str a0.f_Name, .p (.list .str) a0.f_Words, .p I6 a0.f_Level, .p .bool a0.f_Hidden]) rfl rfl rfl o0 (.data (.named (us := ([.p .str a0.f_Name, .p (.list .str) a0.f_Words, .p I6 a0.f_Level, .p .bool a0.f_Hidden] : List (AVal Un))) (.pair (.one _ _) (.pair (.one _ _) (.pair (.one _ _) (.pair (.one _ _) .unit)))))) rfl (notin_of (by kernel_rfl))) (.cons (moU (rs := []) rfl (.inr rfl) (.lit _ _ rfl)) .nil)) (by kernel_rfl) (by kernel_rfl) (by kernel_rfl) (cvR _) ?_
  refine tnU ?_
  refine WpC.seq ?_
  refine rgU (st1 := ⟨[(1, .loc 1 0), (3, .clo 54 [])], [(1, .box [.p .str a0.f_Name, .p (.list .str) a0.f_Words, .p I6 a0.f_Level, .p .bool a0.f_Hidden])]⟩) [1, 3] [1] hN (.cons (moU (rs := []) rfl (.inr rfl) (.func _ _)) .nil) (by kernel_rfl) (by kernel_rfl) (by kernel_rfl) (cvR _) ?_
  refine tnU ?_
  refine sqJ (fun st' => env_Check.j1 k = some out ∧ st' = ⟨[], []⟩) ?_ ?_
  · refine WpC.block ?_
    refine WpC.seq ?_
    obtain ⟨v2, hv2, h⟩ := bind_some h
    refine rgU (st1 := ⟨[(1, .loc 1 0), (3, .clo 54 []), (4, .p .bool ((!v2) : Bool))], [(1, .box [.p .str a0.f_Name, .p (.list .str) a0.f_Words, .p I6 a0.f_Level, .p .bool a0.f_Hidden])]⟩) [1, 3, 4] [1] hN (.cons (fdB (rs := [(1, .loc 1 0)]) rfl rfl fd_60_0 (by decide) o0) (.cons (ldB (t := .str) (rs := [(5, .loc 1 0)]) [] [.p .str a0.f_Name] [.p (.list .str) a0.f_Words, .p I6 a0.f_Level, .p .bool a0.f_Hidden] (v := .p .str a0.f_Name) rfl rfl ty_9 o0 rfl rfl rfl rfl (.data (.one _ _))) (.cons (caV (rs := [(6, .p .str a0.f_Name)]) (vw := []) rfl rfl (.func _) hb_55 (lex_Name.ok O hO k a0.f_Name v2 hv2) (.cons o0 .nil) (.cons (.same _) .nil) (by simp) (.inl rfl)) (.cons (sok_not (U := Un) (rs := [(7, .p .bool v2)]) rfl rfl o0) (.cons (mvA (v := .p .bool ((!v2) : Bool)) rfl rfl) .nil))))) (by kernel_rfl) (by kernel_rfl) (by kernel_rfl) (cvR _) ?_
    refine tnU ?_
    refine cdU (b := (!v2)) (.tmp (.tail _ (.tail _ (.head _)))) (fun hc3 => ?_) (fun hc3 => ?_)
    · replace h := ite_t hc3 h
      refine WpC.seq ?_
      refine rgU (st1 := ⟨[(2, .p .err (4 : Nat))], []⟩) [2] [] hN (.cons (sok_loadG (U := Un) (t := .err) (rs := []) rfl rfl ty_27 rfl rfl (hO.var 3 1 rfl) (fun S w => .err 3)) (.cons (mvA (v := .p .err (4 : Nat)) rfl rfl) .nil)) (by kernel_rfl) (by kernel_rfl) (by kernel_rfl) (cvR _) ?_
      refine tnU ?_
      refine WpC.ret ?_
      refine blockQ_ret ?_
      refine thenQ_ret ?_
      have hq := Option.some.inj h
      subst hq
      exact ends_ret (retV_1 rfl (.head _)) ain_nil
    · replace h := ite_f hc3 h
      refine sqJ (fun st' => ∃ v4 : Bool, env_Check.j9 k a0 v4 = some out ∧ st' = ⟨[(1, .loc 1 0), (3, .clo 54 []), (10, .p .bool v4)], [(1, .box [.p .str a0.f_Name, .p (.list .str) a0.f_Words, .p I6 a0.f_Level, .p .bool a0.f_Hidden])]⟩) ?_ ?_
      · rcases bool_cases (decide (a0.f_Level < 0)) with hc10 | hc10
        · replace h := ite_t hc10 h
          refine rgU (st1 := ⟨[(1, .loc 1 0), (3, .clo 54 []), (10, .p .bool true)], [(1, .box [.p .str a0.f_Name, .p (.list .str) a0.f_Words, .p I6 a0.f_Level, .p .bool a0.f_Hidden])]⟩) [1, 3, 10] [1] hN (.cons (fdB (rs := [(1, .loc 1 0)]) rfl rfl fd_60_2 (by decide) o0) (.cons (ldB (t := .int .i64) (rs := [(11, .loc 1 2)]) [.p .str a0.f_Name, .p (.list .str) a0.f_Words] [.p I6 a0.f_Level] [.p .bool a0.f_Hidden] (v := .p I6 a0.f_Level) rfl rfl ty_3 o0 rfl rfl rfl rfl (.data (.one _ _))) (.cons (cmU (rs := [(12, .p I6 a0.f_Level)]) rfl rfl o0 (.int _ _ _) rfl) (.cons (mvU (v := .p .bool ((decide (a0.f_Level < 0)) : Bool)) rfl rfl) (.cons (skU rfl rfl hc10) (.cons (skU rfl rfl hc10) (.cons (skU rfl rfl hc10) (.cons (pkT (rs := [(14, .p .bool ((decide (a0.f_Level < 0)) : Bool))]) rfl rfl o0 hc10 (.bool _ _)) (.cons (mvA (v := .p .bool true) rfl rfl) .nil))))))))) (by kernel_rfl) (by kernel_rfl) (by kernel_rfl) (cvR _) ?_
          refine tnU ?_
          exact ⟨true, h, rfl⟩
        · replace h := ite_f hc10 h
          refine rgU (st1 := ⟨[(1, .loc 1 0), (3, .clo 54 []), (10, .p .bool ((decide (a0.f_Level > 2)) : Bool))], [(1, .box [.p .str a0.f_Name, .p (.list .str) a0.f_Words, .p I6 a0.f_Level, .p .bool a0.f_Hidden])]⟩) [1, 3, 10] [1] hN (.cons (fdB (rs := [(1, .loc 1 0)]) rfl rfl fd_60_2 (by decide) o0) (.cons (ldB (t := .int .i64) (rs := [(11, .loc 1 2)]) [.p .str a0.f_Name, .p (.list .str) a0.f_Words] [.p I6 a0.f_Level] [.p .bool a0.f_Hidden] (v := .p I6 a0.f_Level) rfl rfl ty_3 o0 rfl rfl rfl rfl (.data (.one _ _))) (.cons (cmU (rs := [(12, .p I6 a0.f_Level)]) rfl rfl o0 (.int _ _ _) rfl) (.cons (mvU (v := .p .bool ((decide (a0.f_Level < 0)) : Bool)) rfl rfl) (.cons (sok_run rfl rfl hc10 (fdB (rs := [(1, .loc 1 0)]) rfl rfl fd_60_2 (by decide) o0)) (.cons (sok_run rfl rfl hc10 (ldB (t := .int .i64) (rs := [(15, .loc 1 2)]) [.p .str a0.f_Name, .p (.list .str) a0.f_Words] [.p I6 a0.f_Level] [.p .bool a0.f_Hidden] (v := .p I6 a0.f_Level) rfl rfl ty_3 o0 rfl rfl rfl rfl (.data (.one _ _)))) (.cons (sok_run rfl rfl hc10 (cmU (rs := [(16, .p I6 a0.f_Level)]) rfl rfl o0 (.int _ _ _) rfl)) (.cons (pkF (rs := [(14, .p .bool ((decide (a0.f_Level < 0)) : Bool)), (17, .p .bool ((decide (a0.f_Level > 2)) : Bool))]) rfl rfl o0 hc10 o1) (.cons (mvA (v := .p .bool ((decide (a0.f_Level > 2)) : Bool)) rfl rfl) .nil))))))))) (by kernel_rfl) (by kernel_rfl) (by kernel_rfl) (cvR _) ?_
          refine tnU ?_
          exact ⟨(decide (a0.f_Level > 2)), h, rfl⟩
      · rintro _ ⟨v4, h, rfl⟩
        unfold env_Check.j9 at h
        refine cdU (b := v4) (.tmp (.tail _ (.tail _ (.head _)))) (fun hc5 => ?_) (fun hc5 => ?_)
        · replace h := ite_t hc5 h
          refine WpC.seq ?_
          refine rgU (st1 := ⟨[(2, .p .err (1 : Nat))], []⟩) [2] [] hN (.cons (sok_loadG (U := Un) (t := .err) (rs := []) rfl rfl ty_27 rfl rfl (hO.var 0 2 rfl) (fun S w => .err 0)) (.cons (mvA (v := .p .err (1 : Nat)) rfl rfl) .nil)) (by kernel_rfl) (by kernel_rfl) (by kernel_rfl) (cvR _) ?_
          refine tnU ?_
          refine WpC.ret ?_
          refine blockQ_ret ?_
          refine thenQ_ret ?_
          have hq := Option.some.inj h
          subst hq
          exact ends_ret (retV_1 rfl (.head _)) ain_nil
        · replace h := ite_f hc5 h
          refine WpC.seq ?_
          refine rgU (st1 := ⟨[(1, .loc 1 0), (3, .clo 54 []), (20, .p .bool ((decide ((a0.f_Words.length : Int) > 40)) : Bool))], [(1, .box [.p .str a0.f_Name, .p (.list .str) a0.f_Words, .p I6 a0.f_Level, .p .bool a0.f_Hidden])]⟩) [1, 3, 20] [1] hN (.cons (fdB (rs := [(1, .loc 1 0)]) rfl rfl fd_60_1 (by decide) o0) (.cons (ldB (t := .list .str) (rs := [(21, .loc 1 1)]) [.p .str a0.f_Name] [.p (.list .str) a0.f_Words] [.p I6 a0.f_Level, .p .bool a0.f_Hidden] (v := .p (.list .str) a0.f_Words) rfl rfl ty_22 o0 rfl rfl rfl rfl (.data (.one _ _))) (.cons (sok_lenL (U := Un) (rs := [(22, .p (.list .str) a0.f_Words)]) rfl rfl Tryd.underlying22 o0) (.cons (cmU (rs := [(23, .p I6 ((a0.f_Words.length : Int) : Int))]) rfl rfl o0 (.int _ _ _) rfl) (.cons (mvA (v := .p .bool ((decide ((a0.f_Words.length : Int) > 40)) : Bool)) rfl rfl) .nil))))) (by kernel_rfl) (by kernel_rfl) (by kernel_rfl) (cvR _) ?_
          refine tnU ?_
          refine cdU (b := (decide ((a0.f_Words.length : Int) > 40))) (.tmp (.tail _ (.tail _ (.head _)))) (fun hc6 => ?_) (fun hc6 => ?_)
          · replace h := ite_t hc6 h
            refine WpC.seq ?_
            refine rgU (st1 := ⟨[(2, .p .err (10 : Nat))], []⟩) [2] [] hN (.cons (sok_loadG (U := Un) (t := .err) (rs := []) rfl rfl ty_27 rfl rfl (hO.var 9 3 rfl) (fun S w => .err 9)) (.cons (mvA (v := .p .err (10 : Nat)) rfl rfl) .nil)) (by kernel_rfl) (by kernel_rfl) (by kernel_rfl) (cvR _) ?_
            refine tnU ?_
            refine WpC.ret ?_
            refine blockQ_ret ?_
            refine thenQ_ret ?_
            have hq := Option.some.inj h
            subst hq
            exact ends_ret (retV_1 rfl (.head _)) ain_nil
          · replace h := ite_f hc6 h
            refine WpC.seq ?_
            obtain ⟨v7, hv7, h⟩ := bind_some h
            refine rgU (st1 := ⟨[(26, .p .bool v7)], []⟩) [26] [] hN (.cons (fdB (rs := [(1, .loc 1 0)]) rfl rfl fd_60_1 (by decide) o0) (.cons (ldB (t := .list .str) (rs := [(27, .loc 1 1)]) [.p .str a0.f_Name] [.p (.list .str) a0.f_Words] [.p I6 a0.f_Level, .p .bool a0.f_Hidden] (v := .p (.list .str) a0.f_Words) rfl rfl ty_22 o0 rfl rfl rfl rfl (.data (.one _ _))) (.cons (mvU (v := .clo 54 []) rfl rfl) (.cons (caV (rs := [(28, .p (.list .str) a0.f_Words), (29, .clo 54 [])]) (vw := []) rfl rfl (.func _) hb_56 (slices_ContainsFunc_string_string_m0.ok O hO k a0.f_Words v7 hv7) (.cons o0 (.cons o1 .nil)) (.cons (.same _) (.cons (.same _) .nil)) (by simp) (.inl rfl)) (.cons (mvA (v := .p .bool v7) rfl rfl) .nil))))) (by kernel_rfl) (by kernel_rfl) (by kernel_rfl) (cvR _) ?_
            refine tnU ?_
            refine cdU (b := v7) o0 (fun hc8 => ?_) (fun hc8 => ?_)
            · replace h := ite_t hc8 h
              refine WpC.seq ?_
              refine rgU (st1 := ⟨[(2, .p .err (2 : Nat))], []⟩) [2] [] hN (.cons (sok_loadG (U := Un) (t := .err) (rs := []) rfl rfl ty_27 rfl rfl (hO.var 1 4 rfl) (fun S w => .err 1)) (.cons (mvA (v := .p .err (2 : Nat)) rfl rfl) .nil)) (by kernel_rfl) (by kernel_rfl) (by kernel_rfl) (cvR _) ?_
              refine tnU ?_
              refine WpC.ret ?_
              refine blockQ_ret ?_
              refine thenQ_ret ?_
              have hq := Option.some.inj h
              subst hq
              exact ends_ret (retV_1 rfl (.head _)) ain_nil
            · replace h := ite_f hc8 h
              refine WpC.conv (cvK (b := ⟨[], []⟩) [] [] (by kernel_rfl)) (WpC.skip ?_)
              refine blockQ_normal ?_
              refine tnU ?_
              exact ⟨h, rfl⟩
  · rintro _ ⟨h, rfl⟩
    unfold env_Check.j1 at h
    refine WpC.seq ?_
    refine rgU (st1 := ⟨[(2, .lit .nilIface)], []⟩) [2] [] hN (.cons (moU (rs := []) rfl (.inr rfl) (.lit _ _ rfl)) .nil) (by kernel_rfl) (by kernel_rfl) (by kernel_rfl) (cvR _) ?_
    refine tnU ?_
    refine WpC.conv (cvT (Conv.nilE (U := Un) 2 (.head _)) (cvK (b := ⟨[(2, .p .err (0 : Nat))], []⟩) [2] [] (by kernel_rfl))) (WpC.ret ?_)
    have hq := Option.some.inj h
    subst hq
    exact ends_ret (retV_1 rfl (.head _)) ain_nil

theorem env_Var_apart.ok (O : Out) (hO : GOk O) (k : Nat) (a0 : T_env_Var) (out : T_env_Var) (h : env_Var_apart.f k a0 = some out) : COk Un O Tryd.prog 51 { ar := [.p (.named 5) a0], r := .p (.named 5) out } := by
  refine cok_of_wp Tryd.func51 rfl (k := 8) rfl (Nat.le_of_ble_eq_true rfl) (namesOk_pure rfl rfl rfl rfl) ?_
  intro B hN
  refine WpC.conv (cvK (b := ⟨[(0, .p (.named 5) a0)], []⟩) [0] [] (by kernel_rfl)) ?_
  unfold env_Var_apart.f at h
  refine WpC.seq ?_
  refine rgU (st1 := ⟨[(1, .loc 1 0), (2, .loc 2 0)], [(1, .box [.p .str a0.f_Name, .p (.list .str) a0.f_Words, .p I6 a0.f_Level, .p .bool a0.f_Hidden]), (2, .box [.p .str ([] : List UInt8), .p (.list .str) ([] : List (List UInt8)), .p I6 (0 : Int), .p .bool false])]⟩) [1, 2] [1, 2] hN (.cons (sok_box (U := Un) (rs := [(0, .p (.named 5) a0)]) (d := 1) (us := [.p .str a0.f_Name, .p (.list .str) a0.f_Words, .p I6 a0.f_Level, .p .bool a0.f_Hidden]) rfl rfl rfl o0 (.data (.named (us := ([.p .str a0.f_Name, .p (.list .str) a0.f_Words, .p I6 a0.f_Level, .p .bool a0.f_Hidden] : List (AVal Un))) (.pair (.one _ _) (.pair (.one _ _) (.pair (.one _ _) (.pair (.one _ _) .unit)))))) rfl (notin_of (by kernel_rfl))) (.cons (sok_allocZ (U := Un) (rs := []) (d := 2) (us := [.p .str ([] : List UInt8), .p (.list .str) ([] : List (List UInt8)), .p I6 (0 : Int), .p .bool false]) (v := (.agg #[.string ByteArray.empty, .slice none 0 0, .int .i64 0, .bool false])) rfl rfl rfl (by kernel_rfl) rfl (.data (fun _ _ _ => rd_str0) (.data (fun _ _ _ => .lnil _) (.data (fun _ _ _ => .int _ _) (.data (fun _ _ _ => .bool _) .nil)))) (by kernel_rfl)) .nil)) (by kernel_rfl) (by kernel_rfl) (by kernel_rfl) (cvR _) ?_
  refine tnU ?_
  refine WpC.seq ?_
  obtain ⟨v1, hv1, h⟩ := bind_some h
  refine rgU (st1 := ⟨[(1, .loc 1 0), (2, .loc 2 0)], [(1, .box [.p .str a0.f_Name, .vec 10001 1 0 v1.length, .p I6 a0.f_Level, .p .bool a0.f_Hidden]), (2, .box [.p .str ([] : List UInt8), .p (.list .str) ([] : List (List UInt8)), .p I6 (0 : Int), .p .bool false]), (10001, .row 9 .str v1 false)]⟩) [1, 2] [1, 2, 10001] hN (.cons (fdB (rs := [(1, .loc 1 0)]) rfl rfl fd_60_1 (by decide) o0) (.cons (ldB (t := .list .str) (rs := [(3, .loc 1 1)]) [.p .str a0.f_Name] [.p (.list .str) a0.f_Words] [.p I6 a0.f_Level, .p .bool a0.f_Hidden] (v := .p (.list .str) a0.f_Words) rfl rfl ty_22 o0 rfl rfl rfl rfl (.data (.one _ _))) (.cons (caV (rs := [(4, .p (.list .str) a0.f_Words)]) (vw := []) rfl rfl (.func _) hb_72 (COk.ren (pCloneR.ok O hO k a0.f_Words v1 hv1) (fun n => if n = 60500 then 10001 else n) (injOn_of (by kernel_rfl))) (.cons o0 .nil) (.cons (.same _) .nil) (by simp) (.inl rfl)) (.cons (fdB (rs := [(1, .loc 1 0)]) rfl rfl fd_60_1 (by decide) o0) (.cons (sok_storeB (U := Un) (rs := [(6, .loc 1 1), (5, .vec 10001 1 0 v1.length)]) (v := .vec 10001 1 0 v1.length) (mid' := [.vec 10001 1 0 v1.length]) [.p .str a0.f_Name] [.p (.list .str) a0.f_Words] [.p I6 a0.f_Level, .p .bool a0.f_Hidden] rfl rfl rfl ty_22 o0 o1 (.hand rfl) rfl rfl rfl rfl rfl rfl) .nil))))) (by kernel_rfl) (by kernel_rfl) (by kernel_rfl) (cvR _) ?_
  refine tnU ?_
  refine WpC.seq ?_
  refine rgU (st1 := ⟨[(2, .loc 2 0)], [(2, .box [.p .str a0.f_Name, .vec 10001 1 0 v1.length, .p I6 a0.f_Level, .p .bool a0.f_Hidden]), (10001, .row 9 .str v1 false)]⟩) [2] [2, 10001] hN (.cons (ldB (t := .named 5) (rs := [(1, .loc 1 0)]) [] [.p .str a0.f_Name, .vec 10001 1 0 v1.length, .p I6 a0.f_Level, .p .bool a0.f_Hidden] [] (v := .agg [.p .str a0.f_Name, .vec 10001 1 0 v1.length, .p I6 a0.f_Level, .p .bool a0.f_Hidden]) rfl rfl ty_60 o0 rfl rfl rfl rfl (.agg rfl)) (.cons (sok_storeB (U := Un) (rs := [(2, .loc 2 0), (7, .agg [.p .str a0.f_Name, .vec 10001 1 0 v1.length, .p I6 a0.f_Level, .p .bool a0.f_Hidden])]) (v := .agg [.p .str a0.f_Name, .vec 10001 1 0 v1.length, .p I6 a0.f_Level, .p .bool a0.f_Hidden]) (mid' := [.p .str a0.f_Name, .vec 10001 1 0 v1.length, .p I6 a0.f_Level, .p .bool a0.f_Hidden]) [] [.p .str ([] : List UInt8), .p (.list .str) ([] : List (List UInt8)), .p I6 (0 : Int), .p .bool false] [] rfl rfl rfl ty_60 o0 o1 .agg rfl rfl rfl rfl rfl rfl) .nil)) (by kernel_rfl) (by kernel_rfl) (by kernel_rfl) (cvR _) ?_
  refine tnU ?_
  refine WpC.conv (cvT (Conv.freezeU (U := Un) 2 10001 9 _ .str v1 false [.p .str a0.f_Name] [.p I6 a0.f_Level, .p .bool a0.f_Hidden] (.head _) (by first | rfl | (simp only [upd_length, List.length_replicate, List.length_append]; done) | (simp only [upd_length, List.length_replicate, List.length_append] at *; omega) | omega) (.tail _ (.head _)) (by kernel_rfl)) (cvK (b := ⟨[(2, .loc 2 0)], [(2, .box [.p .str a0.f_Name, .p (.list .str) v1, .p I6 a0.f_Level, .p .bool a0.f_Hidden])]⟩) [2] [2] (by kernel_rfl))) (WpC.ret ?_)
  have hq := Option.some.inj h
  subst hq
  exact ends_ret (retV_L (U := Un) (vs := [.p (.named 5) ((T_env_Var.mk a0.f_Name v1 a0.f_Level a0.f_Hidden) : T_env_Var)]) rfl (ResL.cell (U := Un) [] [.p .str a0.f_Name, .p (.list .str) v1, .p I6 a0.f_Level, .p .bool a0.f_Hidden] [] (.head _) (.head _) rfl rfl rfl rfl ty_60 (.data (.named (us := ([.p .str a0.f_Name, .p (.list .str) v1, .p I6 a0.f_Level, .p .bool a0.f_Hidden] : List (AVal Un))) (.pair (.one _ _) (.pair (.one _ _) (.pair (.one _ _) (.pair (.one _ _) .unit)))))) .nil)) ain_nil

theorem env_Env_Set_m0.ok (O : Out) (hO : GOk O) (k : Nat) (a0 : List ((List UInt8) × T_env_Var)) (a1 : T_env_Var) (out : Nat × (List ((List UInt8) × T_env_Var))) (h : env_Env_Set_m0.f k a0 a1 = some out) : COk Un O Tryd.prog 31 { ar := [.loc 100000 0, .p (.named 5) a1], r := .p .err out.1, bs := [(100000, .box [.mp 100001]), (100001, .map (.named 5) a0)], bs' := [(100000, .box [.mp 100001]), (100001, .map (.named 5) out.2)] } := by
  refine cok_of_wp Tryd.func31 rfl (k := 52) rfl (Nat.le_of_ble_eq_true rfl) (namesOk_of (by kernel_rfl)) ?_
  intro B hN
  refine WpC.conv (cvK (b := ⟨[(0, .loc 100000 0), (1, .p (.named 5) a1)], [(100000, .box [.mp 100001]), (100001, .map (.named 5) a0)]⟩) [0, 1] [100000, 100001] (by kernel_rfl)) ?_
  unfold env_Env_Set_m0.f at h
  refine WpC.seq ?_
  refine rgU (st1 := ⟨[(0, .loc 100000 0), (3, .loc 3 0)], [(3, .box [.p .str a1.f_Name, .p (.list .str) a1.f_Words, .p I6 a1.f_Level, .p .bool a1.f_Hidden]), (100000, .box [.mp 100001]), (100001, .map (.named 5) a0)]⟩) [0, 3] [3, 100000, 100001] hN (.cons (sok_box (U := Un) (rs := [(1, .p (.named 5) a1)]) (d := 3) (us := [.p .str a1.f_Name, .p (.list .str) a1.f_Words, .p I6 a1.f_Level, .p .bool a1.f_Hidden]) rfl rfl rfl o0 (.data (.named (us := ([.p .str a1.f_Name, .p (.list .str) a1.f_Words, .p I6 a1.f_Level, .p .bool a1.f_Hidden] : List (AVal Un))) (.pair (.one _ _) (.pair (.one _ _) (.pair (.one _ _) (.pair (.one _ _) .unit)))))) rfl (notin_of (by kernel_rfl))) (.cons (moU (rs := []) rfl (.inr rfl) (.lit _ _ rfl)) .nil)) (by kernel_rfl) (by kernel_rfl) (by kernel_rfl) (cvR _) ?_
  refine tnU ?_
  refine WpC.seq ?_
  refine WpC.seq ?_
  obtain ⟨v1, hv1, h⟩ := bind_some h
  refine rgU (st1 := ⟨[(0, .loc 100000 0), (3, .loc 3 0), (5, .p .err v1)], [(3, .box [.p .str a1.f_Name, .p (.list .str) a1.f_Words, .p I6 a1.f_Level, .p .bool a1.f_Hidden]), (100000, .box [.mp 100001]), (100001, .map (.named 5) a0)]⟩) [0, 3, 5] [3, 100000, 100001] hN (.cons (ldB (t := .named 5) (rs := [(3, .loc 3 0)]) [] [.p .str a1.f_Name, .p (.list .str) a1.f_Words, .p I6 a1.f_Level, .p .bool a1.f_Hidden] [] (v := .p (.named 5) ((T_env_Var.mk a1.f_Name a1.f_Words a1.f_Level a1.f_Hidden) : T_env_Var)) rfl rfl ty_60 o0 rfl rfl rfl rfl (.data (.named (us := ([.p .str a1.f_Name, .p (.list .str) a1.f_Words, .p I6 a1.f_Level, .p .bool a1.f_Hidden] : List (AVal Un))) (.pair (.one _ _) (.pair (.one _ _) (.pair (.one _ _) (.pair (.one _ _) .unit))))))) (.cons (caV (rs := [(8, .p (.named 5) ((T_env_Var.mk a1.f_Name a1.f_Words a1.f_Level a1.f_Hidden) : T_env_Var))]) (vw := []) rfl rfl (.func _) hb_29 (env_Check.ok O hO k (T_env_Var.mk a1.f_Name a1.f_Words a1.f_Level a1.f_Hidden) v1 hv1) (.cons o0 .nil) (.cons (.same _) .nil) (by simp) (.inl rfl)) (.cons (mvA (v := .p .err v1) rfl rfl) .nil))) (by kernel_rfl) (by kernel_rfl) (by kernel_rfl) (cvR _) ?_
  refine tnU ?_
  refine WpC.seq ?_
  refine rgU (st1 := ⟨[(0, .loc 100000 0), (3, .loc 3 0), (5, .p .err v1), (11, .p .bool ((!(v1 == 0)) : Bool))], [(3, .box [.p .str a1.f_Name, .p (.list .str) a1.f_Words, .p I6 a1.f_Level, .p .bool a1.f_Hidden]), (100000, .box [.mp 100001]), (100001, .map (.named 5) a0)]⟩) [0, 3, 5, 11] [3, 100000, 100001] hN (.cons (mvU (v := .p .err v1) rfl rfl) (.cons (sok_errNil (U := Un) (rs := [(10, .p .err v1)]) rfl rfl Tryd.underlying27 o0 rfl) .nil)) (by kernel_rfl) (by kernel_rfl) (by kernel_rfl) (cvR _) ?_
  refine tnU ?_
  refine cdU (b := (!(v1 == 0))) (.tmp (.tail _ (.tail _ (.tail _ (.head _))))) (fun hc2 => ?_) (fun hc2 => ?_)
  · replace h := ite_t hc2 h
    refine WpC.seq ?_
    refine rgU (st1 := ⟨[(4, .p .err v1)], [(100000, .box [.mp 100001]), (100001, .map (.named 5) a0)]⟩) [4] [100000, 100001] hN (.cons (mvU (v := .p .err v1) rfl rfl) (.cons (mvA (v := .p .err v1) rfl rfl) .nil)) (by kernel_rfl) (by kernel_rfl) (by kernel_rfl) (cvR _) ?_
    refine tnU ?_
    refine WpC.ret ?_
    refine thenQ_ret ?_
    have hq := Option.some.inj h
    subst hq
    exact ends_ret (retV_1 rfl (.head _)) (ain_cons (.head _) (ain_cons (.tail _ (.head _)) ain_nil))
  · replace h := ite_f hc2 h
    refine WpC.conv (cvK (b := ⟨[(0, .loc 100000 0), (3, .loc 3 0)], [(3, .box [.p .str a1.f_Name, .p (.list .str) a1.f_Words, .p I6 a1.f_Level, .p .bool a1.f_Hidden]), (100000, .box [.mp 100001]), (100001, .map (.named 5) a0)]⟩) [0, 3] [3, 100000, 100001] (by kernel_rfl)) (WpC.skip ?_)
    refine tnU ?_
    refine WpC.seq ?_
    refine WpC.regA (U := Un) (st1 := ⟨[(0, .loc 100000 0), (3, .loc 3 0), (6, .loc 6 0), (7, .p .bool ((mget a1.f_Name a0).isSome : Bool))], [(3, .box [.p .str a1.f_Name, .p (.list .str) a1.f_Words, .p I6 a1.f_Level, .p .bool a1.f_Hidden]), (6, .box [.p .str (((mget a1.f_Name a0).getD (T_env_Var.mk [] [] 0 false)).f_Name : List UInt8), .p (.list .str) (((mget a1.f_Name a0).getD (T_env_Var.mk [] [] 0 false)).f_Words : List (List UInt8)), .p I6 (((mget a1.f_Name a0).getD (T_env_Var.mk [] [] 0 false)).f_Level : Int), .p .bool (((mget a1.f_Name a0).getD (T_env_Var.mk [] [] 0 false)).f_Hidden : Bool)]), (100000, .box [.mp 100001]), (100001, .map (.named 5) a0)]⟩) [0, 3, 6, 7] [3, 6, 100000, 100001] [[], [0], [0, 1], [0, 1, 2], [], [4], [0, 1, 2, 3, 4, 5], [0, 1, 2, 3, 4, 5, 6], [0, 1, 2, 3, 4, 5, 6, 7], [0, 1, 2, 3, 4, 5, 6, 7], [], [0, 1, 2, 3, 4, 5, 6, 7, 8, 10], [0, 1, 2, 3, 4, 5, 6, 7, 8, 9, 10, 11]] mixed hN (.cons (mvU (v := .loc 100000 0) rfl rfl) (.cons (nlU (rs := [(14, .loc 100000 0)]) rfl rfl o0 rfl) (.cons (fdB (rs := [(15, .loc 100000 0)]) rfl rfl fd_91_0 (by decide) o0) (.cons (ldB (t := .bool) (rs := [(16, .loc 100000 0)]) [] [.mp 100001] [] (v := .mp 100001) rfl rfl ty1_89 o0 rfl rfl rfl rfl (.hand rfl rfl)) (.cons (fdB (rs := [(3, .loc 3 0)]) rfl rfl fd_60_0 (by decide) o0) (.cons (ldB (t := .str) (rs := [(18, .loc 3 0)]) [] [.p .str a1.f_Name] [.p (.list .str) a1.f_Words, .p I6 a1.f_Level, .p .bool a1.f_Hidden] (v := .p .str a1.f_Name) rfl rfl ty_9 o0 rfl rfl rfl rfl (.data (.one _ _))) (.cons (sok_lookup2 (U := Un) (t := .named 5) (kvs := a0) (rs := [(17, .mp 100001), (19, .p .str a1.f_Name)]) rfl rfl map_89 zv_60 o0 o1) (.cons (mvU (v := .tup [.p (.named 5) (((mget a1.f_Name a0).getD (T_env_Var.mk [] [] 0 false)) : T_env_Var), .p .bool ((mget a1.f_Name a0).isSome : Bool)]) rfl rfl) (.cons (exU (rs := [(13, .tup [.p (.named 5) (((mget a1.f_Name a0).getD (T_env_Var.mk [] [] 0 false)) : T_env_Var), .p .bool ((mget a1.f_Name a0).isSome : Bool)])]) rfl rfl o0 rfl) (.cons (exU (rs := [(13, .tup [.p (.named 5) (((mget a1.f_Name a0).getD (T_env_Var.mk [] [] 0 false)) : T_env_Var), .p .bool ((mget a1.f_Name a0).isSome : Bool)])]) rfl rfl o0 rfl) (.cons (sok_allocZ (U := Un) (rs := []) (d := 6) (us := [.p .str ([] : List UInt8), .p (.list .str) ([] : List (List UInt8)), .p I6 (0 : Int), .p .bool false]) (v := (.agg #[.string ByteArray.empty, .slice none 0 0, .int .i64 0, .bool false])) rfl rfl rfl (by kernel_rfl) rfl (.data (fun _ _ _ => rd_str0) (.data (fun _ _ _ => .lnil _) (.data (fun _ _ _ => .int _ _) (.data (fun _ _ _ => .bool _) .nil)))) (by kernel_rfl)) (.cons (sok_storeB (U := Un) (rs := [(6, .loc 6 0), (21, .p (.named 5) (((mget a1.f_Name a0).getD (T_env_Var.mk [] [] 0 false)) : T_env_Var))]) (v := .p (.named 5) (((mget a1.f_Name a0).getD (T_env_Var.mk [] [] 0 false)) : T_env_Var)) (mid' := [.p .str (((mget a1.f_Name a0).getD (T_env_Var.mk [] [] 0 false)).f_Name : List UInt8), .p (.list .str) (((mget a1.f_Name a0).getD (T_env_Var.mk [] [] 0 false)).f_Words : List (List UInt8)), .p I6 (((mget a1.f_Name a0).getD (T_env_Var.mk [] [] 0 false)).f_Level : Int), .p .bool (((mget a1.f_Name a0).getD (T_env_Var.mk [] [] 0 false)).f_Hidden : Bool)]) [] [.p .str ([] : List UInt8), .p (.list .str) ([] : List (List UInt8)), .p I6 (0 : Int), .p .bool false] [] rfl rfl rfl ty_60 o0 o1 (.data (.named (us := ([.p .str (((mget a1.f_Name a0).getD (T_env_Var.mk [] [] 0 false)).f_Name : List UInt8), .p (.list .str) (((mget a1.f_Name a0).getD (T_env_Var.mk [] [] 0 false)).f_Words : List (List UInt8)), .p I6 (((mget a1.f_Name a0).getD (T_env_Var.mk [] [] 0 false)).f_Level : Int), .p .bool (((mget a1.f_Name a0).getD (T_env_Var.mk [] [] 0 false)).f_Hidden : Bool)] : List (AVal Un))) (.pair (.one _ _) (.pair (.one _ _) (.pair (.one _ _) (.pair (.one _ _) .unit)))))) rfl rfl rfl rfl rfl rfl) (.cons (mvA (v := .p .bool ((mget a1.f_Name a0).isSome : Bool)) rfl rfl) .nil))))))))))))) (by kernel_rfl) (by kernel_rfl) (by kernel_rfl) (by kernel_rfl) (by kernel_rfl) (cvR _) ?_
    refine tnU ?_
    refine sqJ (fun st' => env_Env_Set_m0.j4 k a0 a1 = some out ∧ st' = ⟨[(0, .loc 100000 0), (3, .loc 3 0)], [(3, .box [.p .str a1.f_Name, .p (.list .str) a1.f_Words, .p I6 a1.f_Level, .p .bool a1.f_Hidden]), (100000, .box [.mp 100001]), (100001, .map (.named 5) a0)]⟩) ?_ ?_
    · refine WpC.block ?_
      refine sqJ (fun st' => ∃ v5 : Bool, env_Env_Set_m0.j11 k a0 a1 v5 = some out ∧ st' = ⟨[(0, .loc 100000 0), (3, .loc 3 0), (7, .p .bool ((mget a1.f_Name a0).isSome : Bool)), (23, .p .bool v5)], [(3, .box [.p .str a1.f_Name, .p (.list .str) a1.f_Words, .p I6 a1.f_Level, .p .bool a1.f_Hidden]), (100000, .box [.mp 100001]), (100001, .map (.named 5) a0)]⟩) ?_ ?_
      · rcases bool_cases ((mget a1.f_Name a0).isSome) with hc12 | hc12
        · replace h := ite_t hc12 h
          refine rgU (st1 := ⟨[(0, .loc 100000 0), (3, .loc 3 0), (7, .p .bool ((mget a1.f_Name a0).isSome : Bool)), (23, .p .bool ((decide (((mget a1.f_Name a0).getD (T_env_Var.mk [] [] 0 false)).f_Level > a1.f_Level)) : Bool))], [(3, .box [.p .str a1.f_Name, .p (.list .str) a1.f_Words, .p I6 a1.f_Level, .p .bool a1.f_Hidden]), (100000, .box [.mp 100001]), (100001, .map (.named 5) a0)]⟩) [0, 3, 7, 23] [3, 100000, 100001] hN (.cons (mvU (v := .p .bool ((mget a1.f_Name a0).isSome : Bool)) rfl rfl) (.cons (mvU (v := .p .bool ((mget a1.f_Name a0).isSome : Bool)) rfl rfl) (.cons (sok_run rfl rfl hc12 (fdB (rs := [(6, .loc 6 0)]) rfl rfl fd_60_2 (by decide) o0)) (.cons (sok_run rfl rfl hc12 (ldB (t := .int .i64) (rs := [(26, .loc 6 2)]) [.p .str (((mget a1.f_Name a0).getD (T_env_Var.mk [] [] 0 false)).f_Name : List UInt8), .p (.list .str) (((mget a1.f_Name a0).getD (T_env_Var.mk [] [] 0 false)).f_Words : List (List UInt8))] [.p I6 (((mget a1.f_Name a0).getD (T_env_Var.mk [] [] 0 false)).f_Level : Int)] [.p .bool (((mget a1.f_Name a0).getD (T_env_Var.mk [] [] 0 false)).f_Hidden : Bool)] (v := .p I6 (((mget a1.f_Name a0).getD (T_env_Var.mk [] [] 0 false)).f_Level : Int)) rfl rfl ty_3 o0 rfl rfl rfl rfl (.data (.one _ _)))) (.cons (sok_run rfl rfl hc12 (fdB (rs := [(3, .loc 3 0)]) rfl rfl fd_60_2 (by decide) o0)) (.cons (sok_run rfl rfl hc12 (ldB (t := .int .i64) (rs := [(28, .loc 3 2)]) [.p .str a1.f_Name, .p (.list .str) a1.f_Words] [.p I6 a1.f_Level] [.p .bool a1.f_Hidden] (v := .p I6 a1.f_Level) rfl rfl ty_3 o0 rfl rfl rfl rfl (.data (.one _ _)))) (.cons (sok_run rfl rfl hc12 (cmU (rs := [(27, .p I6 (((mget a1.f_Name a0).getD (T_env_Var.mk [] [] 0 false)).f_Level : Int)), (29, .p I6 a1.f_Level)]) rfl rfl o0 o1 rfl)) (.cons (pkT (rs := [(25, .p .bool ((mget a1.f_Name a0).isSome : Bool)), (30, .p .bool ((decide (((mget a1.f_Name a0).getD (T_env_Var.mk [] [] 0 false)).f_Level > a1.f_Level)) : Bool))]) rfl rfl o0 hc12 o1) (.cons (mvA (v := .p .bool ((decide (((mget a1.f_Name a0).getD (T_env_Var.mk [] [] 0 false)).f_Level > a1.f_Level)) : Bool)) rfl rfl) .nil))))))))) (by kernel_rfl) (by kernel_rfl) (by kernel_rfl) (cvR _) ?_
          refine tnU ?_
          exact ⟨(decide (((mget a1.f_Name a0).getD (T_env_Var.mk [] [] 0 false)).f_Level > a1.f_Level)), h, rfl⟩
        · replace h := ite_f hc12 h
          refine rgU (st1 := ⟨[(0, .loc 100000 0), (3, .loc 3 0), (7, .p .bool ((mget a1.f_Name a0).isSome : Bool)), (23, .p .bool false)], [(3, .box [.p .str a1.f_Name, .p (.list .str) a1.f_Words, .p I6 a1.f_Level, .p .bool a1.f_Hidden]), (100000, .box [.mp 100001]), (100001, .map (.named 5) a0)]⟩) [0, 3, 7, 23] [3, 100000, 100001] hN (.cons (mvU (v := .p .bool ((mget a1.f_Name a0).isSome : Bool)) rfl rfl) (.cons (mvU (v := .p .bool ((mget a1.f_Name a0).isSome : Bool)) rfl rfl) (.cons (skU rfl rfl hc12) (.cons (skU rfl rfl hc12) (.cons (skU rfl rfl hc12) (.cons (skU rfl rfl hc12) (.cons (skU rfl rfl hc12) (.cons (pkF (rs := [(25, .p .bool ((mget a1.f_Name a0).isSome : Bool))]) rfl rfl o0 hc12 (.bool _ _)) (.cons (mvA (v := .p .bool false) rfl rfl) .nil))))))))) (by kernel_rfl) (by kernel_rfl) (by kernel_rfl) (cvR _) ?_
          refine tnU ?_
          exact ⟨false, h, rfl⟩
      · rintro _ ⟨v5, h, rfl⟩
        unfold env_Env_Set_m0.j11 at h
        refine cdU (b := v5) (.tmp (.tail _ (.tail _ (.tail _ (.head _))))) (fun hc6 => ?_) (fun hc6 => ?_)
        · replace h := ite_t hc6 h
          refine WpC.seq ?_
          refine rgU (st1 := ⟨[(4, .lit .nilIface)], [(100000, .box [.mp 100001]), (100001, .map (.named 5) a0)]⟩) [4] [100000, 100001] hN (.cons (moU (rs := []) rfl (.inr rfl) (.lit _ _ rfl)) .nil) (by kernel_rfl) (by kernel_rfl) (by kernel_rfl) (cvR _) ?_
          refine tnU ?_
          refine WpC.conv (cvT (Conv.nilE (U := Un) 4 (.head _)) (cvK (b := ⟨[(4, .p .err (0 : Nat))], [(100000, .box [.mp 100001]), (100001, .map (.named 5) a0)]⟩) [4] [100000, 100001] (by kernel_rfl))) (WpC.ret ?_)
          refine blockQ_ret ?_
          refine thenQ_ret ?_
          have hq := Option.some.inj h
          subst hq
          exact ends_ret (retV_1 rfl (.head _)) (ain_cons (.head _) (ain_cons (.tail _ (.head _)) ain_nil))
        · replace h := ite_f hc6 h
          refine sqJ (fun st' => ∃ v7 : Bool, env_Env_Set_m0.j9 k a0 a1 v7 = some out ∧ st' = ⟨[(0, .loc 100000 0), (3, .loc 3 0), (32, .p .bool v7)], [(3, .box [.p .str a1.f_Name, .p (.list .str) a1.f_Words, .p I6 a1.f_Level, .p .bool a1.f_Hidden]), (100000, .box [.mp 100001]), (100001, .map (.named 5) a0)]⟩) ?_ ?_
          · rcases bool_cases (!((mget a1.f_Name a0).isSome)) with hc10 | hc10
            · replace h := ite_t hc10 h
              refine rgU (st1 := ⟨[(0, .loc 100000 0), (3, .loc 3 0), (32, .p .bool ((decide ((a0.length : Int) ≥ 24)) : Bool))], [(3, .box [.p .str a1.f_Name, .p (.list .str) a1.f_Words, .p I6 a1.f_Level, .p .bool a1.f_Hidden]), (100000, .box [.mp 100001]), (100001, .map (.named 5) a0)]⟩) [0, 3, 32] [3, 100000, 100001] hN (.cons (mvU (v := .p .bool ((mget a1.f_Name a0).isSome : Bool)) rfl rfl) (.cons (sok_not (U := Un) (rs := [(33, .p .bool ((mget a1.f_Name a0).isSome : Bool))]) rfl rfl o0) (.cons (mvU (v := .p .bool ((!((mget a1.f_Name a0).isSome)) : Bool)) rfl rfl) (.cons (sok_run rfl rfl hc10 (mvU (v := .loc 100000 0) rfl rfl)) (.cons (sok_run rfl rfl hc10 (nlU (rs := [(36, .loc 100000 0)]) rfl rfl o0 rfl)) (.cons (sok_run rfl rfl hc10 (fdB (rs := [(37, .loc 100000 0)]) rfl rfl fd_91_0 (by decide) o0)) (.cons (sok_run rfl rfl hc10 (ldB (t := .bool) (rs := [(38, .loc 100000 0)]) [] [.mp 100001] [] (v := .mp 100001) rfl rfl ty1_89 o0 rfl rfl rfl rfl (.hand rfl rfl))) (.cons (sok_run rfl rfl hc10 (sok_lenM (U := Un) (t := .named 5) (kvs := a0) (rs := [(39, .mp 100001)]) rfl rfl map_89 o0)) (.cons (sok_run rfl rfl hc10 (cmU (rs := [(40, .p I6 ((a0.length : Int) : Int))]) rfl rfl o0 (.int _ _ _) rfl)) (.cons (pkT (rs := [(35, .p .bool ((!((mget a1.f_Name a0).isSome)) : Bool)), (41, .p .bool ((decide ((a0.length : Int) ≥ 24)) : Bool))]) rfl rfl o0 hc10 o1) (.cons (mvA (v := .p .bool ((decide ((a0.length : Int) ≥ 24)) : Bool)) rfl rfl) .nil))))))))))) (by kernel_rfl) (by kernel_rfl) (by kernel_rfl) (cvR _) ?_
              refine tnU ?_
              exact ⟨(decide ((a0.length : Int) ≥ 24)), h, rfl⟩
            · replace h := ite_f hc10 h
              refine rgU (st1 := ⟨[(0, .loc 100000 0), (3, .loc 3 0), (32, .p .bool false)], [(3, .box [.p .str a1.f_Name, .p (.list .str) a1.f_Words, .p I6 a1.f_Level, .p .bool a1.f_Hidden]), (100000, .box [.mp 100001]), (100001, .map (.named 5) a0)]⟩) [0, 3, 32] [3, 100000, 100001] hN (.cons (mvU (v := .p .bool ((mget a1.f_Name a0).isSome : Bool)) rfl rfl) (.cons (sok_not (U := Un) (rs := [(33, .p .bool ((mget a1.f_Name a0).isSome : Bool))]) rfl rfl o0) (.cons (mvU (v := .p .bool ((!((mget a1.f_Name a0).isSome)) : Bool)) rfl rfl) (.cons (skU rfl rfl hc10) (.cons (skU rfl rfl hc10) (.cons (skU rfl rfl hc10) (.cons (skU rfl rfl hc10) (.cons (skU rfl rfl hc10) (.cons (skU rfl rfl hc10) (.cons (pkF (rs := [(35, .p .bool ((!((mget a1.f_Name a0).isSome)) : Bool))]) rfl rfl o0 hc10 (.bool _ _)) (.cons (mvA (v := .p .bool false) rfl rfl) .nil))))))))))) (by kernel_rfl) (by kernel_rfl) (by kernel_rfl) (cvR _) ?_
              refine tnU ?_
              exact ⟨false, h, rfl⟩
          · rintro _ ⟨v7, h, rfl⟩
            unfold env_Env_Set_m0.j9 at h
            refine cdU (b := v7) (.tmp (.tail _ (.tail _ (.head _)))) (fun hc8 => ?_) (fun hc8 => ?_)
            · replace h := ite_t hc8 h
              refine WpC.seq ?_
              refine rgU (st1 := ⟨[(4, .p .err (10 : Nat))], [(100000, .box [.mp 100001]), (100001, .map (.named 5) a0)]⟩) [4] [100000, 100001] hN (.cons (sok_loadG (U := Un) (t := .err) (rs := []) rfl rfl ty_27 rfl rfl (hO.var 9 3 rfl) (fun S w => .err 9)) (.cons (mvA (v := .p .err (10 : Nat)) rfl rfl) .nil)) (by kernel_rfl) (by kernel_rfl) (by kernel_rfl) (cvR _) ?_
              refine tnU ?_
              refine WpC.ret ?_
              refine blockQ_ret ?_
              refine thenQ_ret ?_
              have hq := Option.some.inj h
              subst hq
              exact ends_ret (retV_1 rfl (.head _)) (ain_cons (.head _) (ain_cons (.tail _ (.head _)) ain_nil))
            · replace h := ite_f hc8 h
              refine WpC.conv (cvK (b := ⟨[(0, .loc 100000 0), (3, .loc 3 0)], [(3, .box [.p .str a1.f_Name, .p (.list .str) a1.f_Words, .p I6 a1.f_Level, .p .bool a1.f_Hidden]), (100000, .box [.mp 100001]), (100001, .map (.named 5) a0)]⟩) [0, 3] [3, 100000, 100001] (by kernel_rfl)) (WpC.skip ?_)
              refine blockQ_normal ?_
              refine tnU ?_
              exact ⟨h, rfl⟩
    · rintro _ ⟨h, rfl⟩
      unfold env_Env_Set_m0.j4 at h
      refine WpC.seq ?_
      obtain ⟨v3, hv3, h⟩ := bind_some h
      refine WpC.regA (U := Un) (st1 := ⟨[], [(100000, .box [.mp 100001]), (100001, .map (.named 5) ((mput a1.f_Name v3 a0) : List ((List UInt8) × T_env_Var)))]⟩) [] [100000, 100001] [[], [0], [0, 1], [0, 1, 2], [], [4], [], [6], [0, 1, 2, 3, 4, 5, 6, 7]] mixed hN (.cons (mvU (v := .loc 100000 0) rfl rfl) (.cons (nlU (rs := [(44, .loc 100000 0)]) rfl rfl o0 rfl) (.cons (fdB (rs := [(45, .loc 100000 0)]) rfl rfl fd_91_0 (by decide) o0) (.cons (ldB (t := .bool) (rs := [(46, .loc 100000 0)]) [] [.mp 100001] [] (v := .mp 100001) rfl rfl ty1_89 o0 rfl rfl rfl rfl (.hand rfl rfl)) (.cons (fdB (rs := [(3, .loc 3 0)]) rfl rfl fd_60_0 (by decide) o0) (.cons (ldB (t := .str) (rs := [(48, .loc 3 0)]) [] [.p .str a1.f_Name] [.p (.list .str) a1.f_Words, .p I6 a1.f_Level, .p .bool a1.f_Hidden] (v := .p .str a1.f_Name) rfl rfl ty_9 o0 rfl rfl rfl rfl (.data (.one _ _))) (.cons (ldB (t := .named 5) (rs := [(3, .loc 3 0)]) [] [.p .str a1.f_Name, .p (.list .str) a1.f_Words, .p I6 a1.f_Level, .p .bool a1.f_Hidden] [] (v := .p (.named 5) ((T_env_Var.mk a1.f_Name a1.f_Words a1.f_Level a1.f_Hidden) : T_env_Var)) rfl rfl ty_60 o0 rfl rfl rfl rfl (.data (.named (us := ([.p .str a1.f_Name, .p (.list .str) a1.f_Words, .p I6 a1.f_Level, .p .bool a1.f_Hidden] : List (AVal Un))) (.pair (.one _ _) (.pair (.one _ _) (.pair (.one _ _) (.pair (.one _ _) .unit))))))) (.cons (caV (rs := [(50, .p (.named 5) ((T_env_Var.mk a1.f_Name a1.f_Words a1.f_Level a1.f_Hidden) : T_env_Var))]) (vw := []) rfl rfl (.func _) hb_51 (env_Var_apart.ok O hO k (T_env_Var.mk a1.f_Name a1.f_Words a1.f_Level a1.f_Hidden) v3 hv3) (.cons o0 .nil) (.cons (.same _) .nil) (by simp) (.inl rfl)) (.cons (sok_mapUpdate (U := Un) (t := .named 5) (kvs := a0) (rs := [(47, .mp 100001), (49, .p .str a1.f_Name), (51, .p (.named 5) v3)]) rfl rfl rfl map_89 o0 o1 (.tmp (.tail _ (.tail _ (.head _))))) .nil))))))))) (by kernel_rfl) (by kernel_rfl) (by kernel_rfl) (by kernel_rfl) (by kernel_rfl) (cvR _) ?_
      refine tnU ?_
      refine WpC.seq ?_
      refine rgU (st1 := ⟨[(4, .lit .nilIface)], [(100000, .box [.mp 100001]), (100001, .map (.named 5) ((mput a1.f_Name v3 a0) : List ((List UInt8) × T_env_Var)))]⟩) [4] [100000, 100001] hN (.cons (moU (rs := []) rfl (.inr rfl) (.lit _ _ rfl)) .nil) (by kernel_rfl) (by kernel_rfl) (by kernel_rfl) (cvR _) ?_
      refine tnU ?_
      refine WpC.conv (cvT (Conv.nilE (U := Un) 4 (.head _)) (cvK (b := ⟨[(4, .p .err (0 : Nat))], [(100000, .box [.mp 100001]), (100001, .map (.named 5) ((mput a1.f_Name v3 a0) : List ((List UInt8) × T_env_Var)))]⟩) [4] [100000, 100001] (by kernel_rfl))) (WpC.ret ?_)
      have hq := Option.some.inj h
      subst hq
      exact ends_ret (retV_1 rfl (.head _)) (ain_cons (.head _) (ain_cons (.tail _ (.head _)) ain_nil))

theorem env_Env_Find_m0.ok (O : Out) (hO : GOk O) (k : Nat) (a0 : List ((List UInt8) × T_env_Var)) (a1 : List UInt8) (out : T_env_Var × Bool) (h : env_Env_Find_m0.f k a0 a1 = some out) : COk Un O Tryd.prog 35 { ar := [.loc 100000 0, .p .str a1], r := .tup [.p (.named 5) out.1, .p .bool out.2], bs := [(100000, .box [.mp 100001]), (100001, .map (.named 5) a0)], bs' := [(100000, .box [.mp 100001]), (100001, .map (.named 5) a0)] } := by
  refine cok_of_wp Tryd.func35 rfl (k := 20) rfl (Nat.le_of_ble_eq_true rfl) (namesOk_of (by kernel_rfl)) ?_
  intro B hN
  refine WpC.conv (cvK (b := ⟨[(0, .loc 100000 0), (1, .p .str a1)], [(100000, .box [.mp 100001]), (100001, .map (.named 5) a0)]⟩) [0, 1] [100000, 100001] (by kernel_rfl)) ?_
  unfold env_Env_Find_m0.f at h
  refine WpC.seq ?_
  refine rgU (st1 := ⟨[(0, .loc 100000 0), (1, .p .str a1), (4, .loc 4 0)], [(4, .box [.p .str ([] : List UInt8), .p (.list .str) ([] : List (List UInt8)), .p I6 (0 : Int), .p .bool false]), (100000, .box [.mp 100001]), (100001, .map (.named 5) a0)]⟩) [0, 1, 4] [4, 100000, 100001] hN (.cons (sok_allocZ (U := Un) (rs := []) (d := 4) (us := [.p .str ([] : List UInt8), .p (.list .str) ([] : List (List UInt8)), .p I6 (0 : Int), .p .bool false]) (v := (.agg #[.string ByteArray.empty, .slice none 0 0, .int .i64 0, .bool false])) rfl rfl rfl (by kernel_rfl) rfl (.data (fun _ _ _ => rd_str0) (.data (fun _ _ _ => .lnil _) (.data (fun _ _ _ => .int _ _) (.data (fun _ _ _ => .bool _) .nil)))) (by kernel_rfl)) (.cons (moU (rs := []) rfl (.inr rfl) (.bool _ _)) .nil)) (by kernel_rfl) (by kernel_rfl) (by kernel_rfl) (cvR _) ?_
  refine tnU ?_
  refine WpC.seq ?_
  refine rgU (st1 := ⟨[(4, .loc 4 0), (6, .loc 6 0), (7, .p .bool ((mget a1 a0).isSome : Bool))], [(4, .box [.p .str ([] : List UInt8), .p (.list .str) ([] : List (List UInt8)), .p I6 (0 : Int), .p .bool false]), (6, .box [.p .str (((mget a1 a0).getD (T_env_Var.mk [] [] 0 false)).f_Name : List UInt8), .p (.list .str) (((mget a1 a0).getD (T_env_Var.mk [] [] 0 false)).f_Words : List (List UInt8)), .p I6 (((mget a1 a0).getD (T_env_Var.mk [] [] 0 false)).f_Level : Int), .p .bool (((mget a1 a0).getD (T_env_Var.mk [] [] 0 false)).f_Hidden : Bool)]), (100000, .box [.mp 100001]), (100001, .map (.named 5) a0)]⟩) [4, 6, 7] [4, 6, 100000, 100001] hN (.cons (mvU (v := .loc 100000 0) rfl rfl) (.cons (nlU (rs := [(9, .loc 100000 0)]) rfl rfl o0 rfl) (.cons (fdB (rs := [(10, .loc 100000 0)]) rfl rfl fd_91_0 (by decide) o0) (.cons (ldB (t := .bool) (rs := [(11, .loc 100000 0)]) [] [.mp 100001] [] (v := .mp 100001) rfl rfl ty1_89 o0 rfl rfl rfl rfl (.hand rfl rfl)) (.cons (mvU (v := .p .str a1) rfl rfl) (.cons (sok_lookup2 (U := Un) (t := .named 5) (kvs := a0) (rs := [(12, .mp 100001), (13, .p .str a1)]) rfl rfl map_89 zv_60 o0 o1) (.cons (mvU (v := .tup [.p (.named 5) (((mget a1 a0).getD (T_env_Var.mk [] [] 0 false)) : T_env_Var), .p .bool ((mget a1 a0).isSome : Bool)]) rfl rfl) (.cons (exU (rs := [(8, .tup [.p (.named 5) (((mget a1 a0).getD (T_env_Var.mk [] [] 0 false)) : T_env_Var), .p .bool ((mget a1 a0).isSome : Bool)])]) rfl rfl o0 rfl) (.cons (exU (rs := [(8, .tup [.p (.named 5) (((mget a1 a0).getD (T_env_Var.mk [] [] 0 false)) : T_env_Var), .p .bool ((mget a1 a0).isSome : Bool)])]) rfl rfl o0 rfl) (.cons (sok_allocZ (U := Un) (rs := []) (d := 6) (us := [.p .str ([] : List UInt8), .p (.list .str) ([] : List (List UInt8)), .p I6 (0 : Int), .p .bool false]) (v := (.agg #[.string ByteArray.empty, .slice none 0 0, .int .i64 0, .bool false])) rfl rfl rfl (by kernel_rfl) rfl (.data (fun _ _ _ => rd_str0) (.data (fun _ _ _ => .lnil _) (.data (fun _ _ _ => .int _ _) (.data (fun _ _ _ => .bool _) .nil)))) (by kernel_rfl)) (.cons (sok_storeB (U := Un) (rs := [(6, .loc 6 0), (15, .p (.named 5) (((mget a1 a0).getD (T_env_Var.mk [] [] 0 false)) : T_env_Var))]) (v := .p (.named 5) (((mget a1 a0).getD (T_env_Var.mk [] [] 0 false)) : T_env_Var)) (mid' := [.p .str (((mget a1 a0).getD (T_env_Var.mk [] [] 0 false)).f_Name : List UInt8), .p (.list .str) (((mget a1 a0).getD (T_env_Var.mk [] [] 0 false)).f_Words : List (List UInt8)), .p I6 (((mget a1 a0).getD (T_env_Var.mk [] [] 0 false)).f_Level : Int), .p .bool (((mget a1 a0).getD (T_env_Var.mk [] [] 0 false)).f_Hidden : Bool)]) [] [.p .str ([] : List UInt8), .p (.list .str) ([] : List (List UInt8)), .p I6 (0 : Int), .p .bool false] [] rfl rfl rfl ty_60 o0 o1 (.data (.named (us := ([.p .str (((mget a1 a0).getD (T_env_Var.mk [] [] 0 false)).f_Name : List UInt8), .p (.list .str) (((mget a1 a0).getD (T_env_Var.mk [] [] 0 false)).f_Words : List (List UInt8)), .p I6 (((mget a1 a0).getD (T_env_Var.mk [] [] 0 false)).f_Level : Int), .p .bool (((mget a1 a0).getD (T_env_Var.mk [] [] 0 false)).f_Hidden : Bool)] : List (AVal Un))) (.pair (.one _ _) (.pair (.one _ _) (.pair (.one _ _) (.pair (.one _ _) .unit)))))) rfl rfl rfl rfl rfl rfl) (.cons (mvA (v := .p .bool ((mget a1 a0).isSome : Bool)) rfl rfl) .nil)))))))))))) (by kernel_rfl) (by kernel_rfl) (by kernel_rfl) (cvR _) ?_
  refine tnU ?_
  refine WpC.seq ?_
  obtain ⟨v1, hv1, h⟩ := bind_some h
  refine rgU (st1 := ⟨[(4, .loc 4 0), (5, .p .bool ((mget a1 a0).isSome : Bool))], [(4, .box [.p .str v1.f_Name, .p (.list .str) v1.f_Words, .p I6 v1.f_Level, .p .bool v1.f_Hidden]), (100000, .box [.mp 100001]), (100001, .map (.named 5) a0)]⟩) [4, 5] [4, 100000, 100001] hN (.cons (ldB (t := .named 5) (rs := [(6, .loc 6 0)]) [] [.p .str (((mget a1 a0).getD (T_env_Var.mk [] [] 0 false)).f_Name : List UInt8), .p (.list .str) (((mget a1 a0).getD (T_env_Var.mk [] [] 0 false)).f_Words : List (List UInt8)), .p I6 (((mget a1 a0).getD (T_env_Var.mk [] [] 0 false)).f_Level : Int), .p .bool (((mget a1 a0).getD (T_env_Var.mk [] [] 0 false)).f_Hidden : Bool)] [] (v := .p (.named 5) ((T_env_Var.mk (((mget a1 a0).getD (T_env_Var.mk [] [] 0 false)).f_Name) (((mget a1 a0).getD (T_env_Var.mk [] [] 0 false)).f_Words) (((mget a1 a0).getD (T_env_Var.mk [] [] 0 false)).f_Level) (((mget a1 a0).getD (T_env_Var.mk [] [] 0 false)).f_Hidden)) : T_env_Var)) rfl rfl ty_60 o0 rfl rfl rfl rfl (.data (.named (us := ([.p .str (((mget a1 a0).getD (T_env_Var.mk [] [] 0 false)).f_Name : List UInt8), .p (.list .str) (((mget a1 a0).getD (T_env_Var.mk [] [] 0 false)).f_Words : List (List UInt8)), .p I6 (((mget a1 a0).getD (T_env_Var.mk [] [] 0 false)).f_Level : Int), .p .bool (((mget a1 a0).getD (T_env_Var.mk [] [] 0 false)).f_Hidden : Bool)] : List (AVal Un))) (.pair (.one _ _) (.pair (.one _ _) (.pair (.one _ _) (.pair (.one _ _) .unit))))))) (.cons (caV (rs := [(17, .p (.named 5) ((T_env_Var.mk (((mget a1 a0).getD (T_env_Var.mk [] [] 0 false)).f_Name) (((mget a1 a0).getD (T_env_Var.mk [] [] 0 false)).f_Words) (((mget a1 a0).getD (T_env_Var.mk [] [] 0 false)).f_Level) (((mget a1 a0).getD (T_env_Var.mk [] [] 0 false)).f_Hidden)) : T_env_Var))]) (vw := []) rfl rfl (.func _) hb_51 (env_Var_apart.ok O hO k (T_env_Var.mk (((mget a1 a0).getD (T_env_Var.mk [] [] 0 false)).f_Name) (((mget a1 a0).getD (T_env_Var.mk [] [] 0 false)).f_Words) (((mget a1 a0).getD (T_env_Var.mk [] [] 0 false)).f_Level) (((mget a1 a0).getD (T_env_Var.mk [] [] 0 false)).f_Hidden)) v1 hv1) (.cons o0 .nil) (.cons (.same _) .nil) (by simp) (.inl rfl)) (.cons (mvU (v := .p .bool ((mget a1 a0).isSome : Bool)) rfl rfl) (.cons (sok_storeB (U := Un) (rs := [(4, .loc 4 0), (18, .p (.named 5) v1)]) (v := .p (.named 5) v1) (mid' := [.p .str v1.f_Name, .p (.list .str) v1.f_Words, .p I6 v1.f_Level, .p .bool v1.f_Hidden]) [] [.p .str ([] : List UInt8), .p (.list .str) ([] : List (List UInt8)), .p I6 (0 : Int), .p .bool false] [] rfl rfl rfl ty_60 o0 o1 (.data (.named (us := ([.p .str v1.f_Name, .p (.list .str) v1.f_Words, .p I6 v1.f_Level, .p .bool v1.f_Hidden] : List (AVal Un))) (.pair (.one _ _) (.pair (.one _ _) (.pair (.one _ _) (.pair (.one _ _) .unit)))))) rfl rfl rfl rfl rfl rfl) (.cons (mvA (v := .p .bool ((mget a1 a0).isSome : Bool)) rfl rfl) .nil))))) (by kernel_rfl) (by kernel_rfl) (by kernel_rfl) (cvR _) ?_
  refine tnU ?_
  refine WpC.ret ?_
  have hq := Option.some.inj h
  subst hq
  exact ends_ret (retV_L (U := Un) (vs := [.p (.named 5) ((T_env_Var.mk v1.f_Name v1.f_Words v1.f_Level v1.f_Hidden) : T_env_Var), .p .bool ((mget a1 a0).isSome : Bool)]) rfl (ResL.cell (U := Un) [] [.p .str v1.f_Name, .p (.list .str) v1.f_Words, .p I6 v1.f_Level, .p .bool v1.f_Hidden] [] (.head _) (.head _) rfl rfl rfl rfl ty_60 (.data (.named (us := ([.p .str v1.f_Name, .p (.list .str) v1.f_Words, .p I6 v1.f_Level, .p .bool v1.f_Hidden] : List (AVal Un))) (.pair (.one _ _) (.pair (.one _ _) (.pair (.one _ _) (.pair (.one _ _) .unit)))))) (ResL.tmp (U := Un) (.tail _ (.head _)) .nil))) (ain_cons (.tail _ (.head _)) (ain_cons (.tail _ (.tail _ (.head _))) ain_nil))

theorem env_Env_Get_m0.ok (O : Out) (hO : GOk O) (k : Nat) (a0 : List ((List UInt8) × T_env_Var)) (a1 : List UInt8) (out : List (List UInt8)) (h : env_Env_Get_m0.f k a0 a1 = some out) : COk Un O Tryd.prog 38 { ar := [.loc 100000 0, .p .str a1], r := .p (.list .str) out, bs := [(100000, .box [.mp 100001]), (100001, .map (.named 5) a0)], bs' := [(100000, .box [.mp 100001]), (100001, .map (.named 5) a0)] } := by
  refine cok_of_wp Tryd.func38 rfl (k := 15) rfl (Nat.le_of_ble_eq_true rfl) (namesOk_of (by kernel_rfl)) ?_
  intro B hN
  refine WpC.conv (cvK (b := ⟨[(0, .loc 100000 0), (1, .p .str a1)], [(100000, .box [.mp 100001]), (100001, .map (.named 5) a0)]⟩) [0, 1] [100000, 100001] (by kernel_rfl)) ?_
  unfold env_Env_Get_m0.f at h
  refine WpC.seq ?_
  refine rgU (st1 := ⟨[(0, .loc 100000 0), (1, .p .str a1)], [(100000, .box [.mp 100001]), (100001, .map (.named 5) a0)]⟩) [0, 1] [100000, 100001] hN (.cons (moU (rs := []) rfl (.inr rfl) (.lit _ _ rfl)) .nil) (by kernel_rfl) (by kernel_rfl) (by kernel_rfl) (cvR _) ?_
  refine tnU ?_
  refine WpC.seq ?_
  obtain ⟨v1, hv1, h⟩ := bind_some h
  refine rgU (st1 := ⟨[(5, .loc 5 0)], [(5, .box [.p .str v1.1.f_Name, .p (.list .str) v1.1.f_Words, .p I6 v1.1.f_Level, .p .bool v1.1.f_Hidden]), (100000, .box [.mp 100001]), (100001, .map (.named 5) a0)]⟩) [5] [5, 100000, 100001] hN (.cons (mvU (v := .loc 100000 0) rfl rfl) (.cons (mvU (v := .p .str a1) rfl rfl) (.cons (caV (rs := [(8, .loc 100000 0), (9, .p .str a1)]) (vw := []) rfl rfl (.func _) hb_35 (COk.ren (env_Env_Find_m0.ok O hO k a0 a1 v1 hv1) (fun n => if n = 100000 then 100000 else if n = 100001 then 100001 else n) (injOn_of (by kernel_rfl))) (.cons o0 (.cons o1 .nil)) (.cons (.same _) (.cons (.same _) .nil)) (by simp) (.inl rfl)) (.cons (mvU (v := .tup [.p (.named 5) v1.1, .p .bool v1.2]) rfl rfl) (.cons (exU (rs := [(7, .tup [.p (.named 5) v1.1, .p .bool v1.2])]) rfl rfl o0 rfl) (.cons (exU (rs := [(7, .tup [.p (.named 5) v1.1, .p .bool v1.2])]) rfl rfl o0 rfl) (.cons (sok_allocZ (U := Un) (rs := []) (d := 5) (us := [.p .str ([] : List UInt8), .p (.list .str) ([] : List (List UInt8)), .p I6 (0 : Int), .p .bool false]) (v := (.agg #[.string ByteArray.empty, .slice none 0 0, .int .i64 0, .bool false])) rfl rfl rfl (by kernel_rfl) rfl (.data (fun _ _ _ => rd_str0) (.data (fun _ _ _ => .lnil _) (.data (fun _ _ _ => .int _ _) (.data (fun _ _ _ => .bool _) .nil)))) (by kernel_rfl)) (.cons (sok_storeB (U := Un) (rs := [(5, .loc 5 0), (11, .p (.named 5) v1.1)]) (v := .p (.named 5) v1.1) (mid' := [.p .str v1.1.f_Name, .p (.list .str) v1.1.f_Words, .p I6 v1.1.f_Level, .p .bool v1.1.f_Hidden]) [] [.p .str ([] : List UInt8), .p (.list .str) ([] : List (List UInt8)), .p I6 (0 : Int), .p .bool false] [] rfl rfl rfl ty_60 o0 o1 (.data (.named (us := ([.p .str v1.1.f_Name, .p (.list .str) v1.1.f_Words, .p I6 v1.1.f_Level, .p .bool v1.1.f_Hidden] : List (AVal Un))) (.pair (.one _ _) (.pair (.one _ _) (.pair (.one _ _) (.pair (.one _ _) .unit)))))) rfl rfl rfl rfl rfl rfl) (.cons (mvA (v := .p .bool v1.2) rfl rfl) .nil))))))))) (by kernel_rfl) (by kernel_rfl) (by kernel_rfl) (cvR _) ?_
  refine tnU ?_
  refine WpC.seq ?_
  refine rgU (st1 := ⟨[(4, .p (.list .str) v1.1.f_Words)], [(100000, .box [.mp 100001]), (100001, .map (.named 5) a0)]⟩) [4] [100000, 100001] hN (.cons (fdB (rs := [(5, .loc 5 0)]) rfl rfl fd_60_1 (by decide) o0) (.cons (ldB (t := .list .str) (rs := [(13, .loc 5 1)]) [.p .str v1.1.f_Name] [.p (.list .str) v1.1.f_Words] [.p I6 v1.1.f_Level, .p .bool v1.1.f_Hidden] (v := .p (.list .str) v1.1.f_Words) rfl rfl ty_22 o0 rfl rfl rfl rfl (.data (.one _ _))) (.cons (mvA (v := .p (.list .str) v1.1.f_Words) rfl rfl) .nil))) (by kernel_rfl) (by kernel_rfl) (by kernel_rfl) (cvR _) ?_
  refine tnU ?_
  refine WpC.ret ?_
  have hq := Option.some.inj h
  subst hq
  exact ends_ret (retV_1 rfl (.head _)) (ain_cons (.head _) (ain_cons (.tail _ (.head _)) ain_nil))

theorem millwrightlaw14_alive.ok (O : Out) (hO : GOk O) (k : Nat) (out : Bool) (h : millwrightlaw14_alive.f k = some out) : COk Un O Tryd.prog 24 { ar := [], r := .p .bool out } := by
  refine cok_of_wp Tryd.func24 rfl (k := 31) rfl (Nat.le_of_ble_eq_true rfl) (namesOk_pure rfl rfl rfl rfl) ?_
  intro B hN
  refine WpC.conv (cvK (b := ⟨[], []⟩) [] [] (by kernel_rfl)) ?_
  unfold millwrightlaw14_alive.f at h
  refine WpC.seq ?_
  refine rgU (st1 := ⟨[], []⟩) [] [] hN (.cons (moU (rs := []) rfl (.inr rfl) (.bool _ _)) .nil) (by kernel_rfl) (by kernel_rfl) (by kernel_rfl) (cvR _) ?_
  refine tnU ?_
  refine WpC.seq ?_
  obtain ⟨v1, hv1, h⟩ := bind_some h
  refine rgU (st1 := ⟨[(1, .loc 10001 0)], [(10001, .box [.mp 10002]), (10002, .map (.named 5) v1)]⟩) [1] [10001, 10002] hN (.cons (caV (rs := []) (vw := []) rfl rfl (.func _) hb_26 (COk.ren (env_New.ok O hO k v1 hv1) (fun n => if n = 60500 then 10001 else if n = 60501 then 10002 else n) (injOn_of (by kernel_rfl))) .nil .nil (by simp) (.inl rfl)) (.cons (mvA (v := .loc 10001 0) rfl rfl) .nil)) (by kernel_rfl) (by kernel_rfl) (by kernel_rfl) (cvR _) ?_
  refine tnU ?_
  refine sqJ (fun st' => ∃ v2 : List ((List UInt8) × T_env_Var), millwrightlaw14_alive.j6 k v2 = some out ∧ st' = ⟨[(1, .loc 10001 0)], [(10001, .box [.mp 10002]), (10002, .map (.named 5) v2)]⟩) ?_ ?_
  · refine sqJ (fun st' => ∃ v7 : List ((List UInt8) × T_env_Var), ∃ v8 : Bool, millwrightlaw14_alive.j10 k v7 v8 = some out ∧ st' = ⟨[(1, .loc 10001 0), (19, .p .bool v8)], [(10001, .box [.mp 10002]), (10002, .map (.named 5) v7)]⟩) ?_ ?_
    · obtain ⟨v11, hv11, h⟩ := bind_some h
      rcases bool_cases (!(v11.1 == 0)) with hc12 | hc12
      · replace h := ite_t hc12 h
        refine rgU (st1 := ⟨[(1, .loc 10001 0), (19, .p .bool true)], [(10001, .box [.mp 10002]), (10002, .map (.named 5) v11.2)]⟩) [1, 19] [10001, 10002] hN (.cons (mvU (v := .loc 10001 0) rfl rfl) (.cons (eqU (rs := [(4, .loc 10001 0)]) rfl rfl Tryd.underlying53 o0 ptrV_loc) (.cons (mvU (v := .p .bool false) rfl rfl) (.cons (sok_run rfl rfl rfl (mvU (v := .loc 10001 0) rfl rfl)) (.cons (sok_run rfl rfl rfl (sok_freezeW (U := Un) (sok_buildSlice (U := Un) (t := .str) (rs := []) (ys := [.const (.string ⟨#[97]⟩)]) (xs := [([97] : List UInt8)]) rfl rfl rfl rfl row_22 (.cons (.str _ _) .nil) (by decide)) rfl rfl rfl rfl)) (.cons (sok_run rfl rfl rfl (sok_build (U := Un) (t := .named 5) (rs := [(8, .p (.list .str) ([([97] : List UInt8)] : List (List UInt8)))]) (us0 := [.p .str ([] : List UInt8), .p (.list .str) ([] : List (List UInt8)), .p I6 (0 : Int), .p .bool false]) (us := [.p .str (([120] : List UInt8) : List UInt8), .p (.list .str) ([([97] : List UInt8)] : List (List UInt8)), .p I6 (2 : Int), .p .bool false]) (v := .p (.named 5) ((T_env_Var.mk ([120] : List UInt8) [([97] : List UInt8)] 2 false) : T_env_Var)) rfl rfl lays_60 (.data (fun _ _ _ => rd_str0) (.data (fun _ _ _ => .lnil _) (.data (fun _ _ _ => .int _ _) (.data (fun _ _ _ => .bool _) .nil)))) (Filled.cons (U := Un) (i := 0) (v := .p .str (([120] : List UInt8) : List UInt8)) [] [.p .str ([] : List UInt8)] [.p .str (([120] : List UInt8) : List UInt8)] [.p (.list .str) ([] : List (List UInt8)), .p I6 (0 : Int), .p .bool false] (.str _ _) (.data (.one _ _)) rfl rfl rfl rfl rfl rfl (Filled.cons (U := Un) (i := 1) (v := .p (.list .str) ([([97] : List UInt8)] : List (List UInt8))) [.p .str (([120] : List UInt8) : List UInt8)] [.p (.list .str) ([] : List (List UInt8))] [.p (.list .str) ([([97] : List UInt8)] : List (List UInt8))] [.p I6 (0 : Int), .p .bool false] o0 (.data (.one _ _)) rfl rfl rfl rfl rfl rfl (Filled.cons (U := Un) (i := 2) (v := .p I6 (2 : Int)) [.p .str (([120] : List UInt8) : List UInt8), .p (.list .str) ([([97] : List UInt8)] : List (List UInt8))] [.p I6 (0 : Int)] [.p I6 (2 : Int)] [.p .bool false] (.int _ _ _) (.data (.one _ _)) rfl rfl rfl rfl rfl rfl (.nil _)))) rfl (.data (.named (us := ([.p .str (([120] : List UInt8) : List UInt8), .p (.list .str) ([([97] : List UInt8)] : List (List UInt8)), .p I6 (2 : Int), .p .bool false] : List (AVal Un))) (.pair (.one _ _) (.pair (.one _ _) (.pair (.one _ _) (.pair (.one _ _) .unit)))))))) (.cons (sok_run rfl rfl rfl (caV (rs := [(7, .loc 10001 0), (9, .p (.named 5) ((T_env_Var.mk ([120] : List UInt8) [([97] : List UInt8)] 2 false) : T_env_Var))]) (vw := []) rfl rfl (.func _) hb_31 (COk.ren (env_Env_Set_m0.ok O hO k v1 (T_env_Var.mk ([120] : List UInt8) [([97] : List UInt8)] 2 false) v11 hv11) (fun n => if n = 100000 then 10001 else if n = 100001 then 10002 else n) (injOn_of (by kernel_rfl))) (.cons o0 (.cons o1 .nil)) (.cons (.same _) (.cons (.same _) .nil)) (by simp) (.inl rfl))) (.cons (sok_run rfl rfl rfl (sok_errNil (U := Un) (rs := [(10, .p .err v11.1)]) rfl rfl Tryd.underlying27 o0 rfl)) (.cons (pkF (rs := [(6, .p .bool false), (11, .p .bool ((!(v11.1 == 0)) : Bool))]) rfl rfl o0 rfl o1) (.cons (mvU (v := .p .bool ((!(v11.1 == 0)) : Bool)) rfl rfl) (.cons (skU rfl rfl hc12) (.cons (skU rfl rfl hc12) (.cons (skU rfl rfl hc12) (.cons (skU rfl rfl hc12) (.cons (skU rfl rfl hc12) (.cons (pkT (rs := [(13, .p .bool ((!(v11.1 == 0)) : Bool))]) rfl rfl o0 hc12 (.bool _ _)) .nil)))))))))))))))) (by kernel_rfl) (by kernel_rfl) (by kernel_rfl) (cvR _) ?_
        refine tnU ?_
        exact ⟨v11.2, true, h, rfl⟩
      · replace h := ite_f hc12 h
        obtain ⟨v13, hv13, h⟩ := bind_some h
        refine rgU (st1 := ⟨[(1, .loc 10001 0), (19, .p .bool ((!(v13.1 == 0)) : Bool))], [(10001, .box [.mp 10002]), (10002, .map (.named 5) v13.2)]⟩) [1, 19] [10001, 10002] hN (.cons (mvU (v := .loc 10001 0) rfl rfl) (.cons (eqU (rs := [(4, .loc 10001 0)]) rfl rfl Tryd.underlying53 o0 ptrV_loc) (.cons (mvU (v := .p .bool false) rfl rfl) (.cons (sok_run rfl rfl rfl (mvU (v := .loc 10001 0) rfl rfl)) (.cons (sok_run rfl rfl rfl (sok_freezeW (U := Un) (sok_buildSlice (U := Un) (t := .str) (rs := []) (ys := [.const (.string ⟨#[97]⟩)]) (xs := [([97] : List UInt8)]) rfl rfl rfl rfl row_22 (.cons (.str _ _) .nil) (by decide)) rfl rfl rfl rfl)) (.cons (sok_run rfl rfl rfl (sok_build (U := Un) (t := .named 5) (rs := [(8, .p (.list .str) ([([97] : List UInt8)] : List (List UInt8)))]) (us0 := [.p .str ([] : List UInt8), .p (.list .str) ([] : List (List UInt8)), .p I6 (0 : Int), .p .bool false]) (us := [.p .str (([120] : List UInt8) : List UInt8), .p (.list .str) ([([97] : List UInt8)] : List (List UInt8)), .p I6 (2 : Int), .p .bool false]) (v := .p (.named 5) ((T_env_Var.mk ([120] : List UInt8) [([97] : List UInt8)] 2 false) : T_env_Var)) rfl rfl lays_60 (.data (fun _ _ _ => rd_str0) (.data (fun _ _ _ => .lnil _) (.data (fun _ _ _ => .int _ _) (.data (fun _ _ _ => .bool _) .nil)))) (Filled.cons (U := Un) (i := 0) (v := .p .str (([120] : List UInt8) : List UInt8)) [] [.p .str ([] : List UInt8)] [.p .str (([120] : List UInt8) : List UInt8)] [.p (.list .str) ([] : List (List UInt8)), .p I6 (0 : Int), .p .bool false] (.str _ _) (.data (.one _ _)) rfl rfl rfl rfl rfl rfl (Filled.cons (U := Un) (i := 1) (v := .p (.list .str) ([([97] : List UInt8)] : List (List UInt8))) [.p .str (([120] : List UInt8) : List UInt8)] [.p (.list .str) ([] : List (List UInt8))] [.p (.list .str) ([([97] : List UInt8)] : List (List UInt8))] [.p I6 (0 : Int), .p .bool false] o0 (.data (.one _ _)) rfl rfl rfl rfl rfl rfl (Filled.cons (U := Un) (i := 2) (v := .p I6 (2 : Int)) [.p .str (([120] : List UInt8) : List UInt8), .p (.list .str) ([([97] : List UInt8)] : List (List UInt8))] [.p I6 (0 : Int)] [.p I6 (2 : Int)] [.p .bool false] (.int _ _ _) (.data (.one _ _)) rfl rfl rfl rfl rfl rfl (.nil _)))) rfl (.data (.named (us := ([.p .str (([120] : List UInt8) : List UInt8), .p (.list .str) ([([97] : List UInt8)] : List (List UInt8)), .p I6 (2 : Int), .p .bool false] : List (AVal Un))) (.pair (.one _ _) (.pair (.one _ _) (.pair (.one _ _) (.pair (.one _ _) .unit)))))))) (.cons (sok_run rfl rfl rfl (caV (rs := [(7, .loc 10001 0), (9, .p (.named 5) ((T_env_Var.mk ([120] : List UInt8) [([97] : List UInt8)] 2 false) : T_env_Var))]) (vw := []) rfl rfl (.func _) hb_31 (COk.ren (env_Env_Set_m0.ok O hO k v1 (T_env_Var.mk ([120] : List UInt8) [([97] : List UInt8)] 2 false) v11 hv11) (fun n => if n = 100000 then 10001 else if n = 100001 then 10002 else n) (injOn_of (by kernel_rfl))) (.cons o0 (.cons o1 .nil)) (.cons (.same _) (.cons (.same _) .nil)) (by simp) (.inl rfl))) (.cons (sok_run rfl rfl rfl (sok_errNil (U := Un) (rs := [(10, .p .err v11.1)]) rfl rfl Tryd.underlying27 o0 rfl)) (.cons (pkF (rs := [(6, .p .bool false), (11, .p .bool ((!(v11.1 == 0)) : Bool))]) rfl rfl o0 rfl o1) (.cons (mvU (v := .p .bool ((!(v11.1 == 0)) : Bool)) rfl rfl) (.cons (sok_run rfl rfl hc12 (mvU (v := .loc 10001 0) rfl rfl)) (.cons (sok_run rfl rfl hc12 (sok_freezeW (U := Un) (sok_buildSlice (U := Un) (t := .str) (rs := []) (ys := [.const (.string ⟨#[98]⟩)]) (xs := [([98] : List UInt8)]) rfl rfl rfl rfl row_22 (.cons (.str _ _) .nil) (by decide)) rfl rfl rfl rfl)) (.cons (sok_run rfl rfl hc12 (sok_build (U := Un) (t := .named 5) (rs := [(15, .p (.list .str) ([([98] : List UInt8)] : List (List UInt8)))]) (us0 := [.p .str ([] : List UInt8), .p (.list .str) ([] : List (List UInt8)), .p I6 (0 : Int), .p .bool false]) (us := [.p .str (([120] : List UInt8) : List UInt8), .p (.list .str) ([([98] : List UInt8)] : List (List UInt8)), .p I6 (1 : Int), .p .bool false]) (v := .p (.named 5) ((T_env_Var.mk ([120] : List UInt8) [([98] : List UInt8)] 1 false) : T_env_Var)) rfl rfl lays_60 (.data (fun _ _ _ => rd_str0) (.data (fun _ _ _ => .lnil _) (.data (fun _ _ _ => .int _ _) (.data (fun _ _ _ => .bool _) .nil)))) (Filled.cons (U := Un) (i := 0) (v := .p .str (([120] : List UInt8) : List UInt8)) [] [.p .str ([] : List UInt8)] [.p .str (([120] : List UInt8) : List UInt8)] [.p (.list .str) ([] : List (List UInt8)), .p I6 (0 : Int), .p .bool false] (.str _ _) (.data (.one _ _)) rfl rfl rfl rfl rfl rfl (Filled.cons (U := Un) (i := 1) (v := .p (.list .str) ([([98] : List UInt8)] : List (List UInt8))) [.p .str (([120] : List UInt8) : List UInt8)] [.p (.list .str) ([] : List (List UInt8))] [.p (.list .str) ([([98] : List UInt8)] : List (List UInt8))] [.p I6 (0 : Int), .p .bool false] o0 (.data (.one _ _)) rfl rfl rfl rfl rfl rfl (Filled.cons (U := Un) (i := 2) (v := .p I6 (1 : Int)) [.p .str (([120] : List UInt8) : List UInt8), .p (.list .str) ([([98] : List UInt8)] : List (List UInt8))] [.p I6 (0 : Int)] [.p I6 (1 : Int)] [.p .bool false] (.int _ _ _) (.data (.one _ _)) rfl rfl rfl rfl rfl rfl (.nil _)))) rfl (.data (.named (us := ([.p .str (([120] : List UInt8) : List UInt8), .p (.list .str) ([([98] : List UInt8)] : List (List UInt8)), .p I6 (1 : Int), .p .bool false] : List (AVal Un))) (.pair (.one _ _) (.pair (.one _ _) (.pair (.one _ _) (.pair (.one _ _) .unit)))))))) (.cons (sok_run rfl rfl hc12 (caV (rs := [(14, .loc 10001 0), (16, .p (.named 5) ((T_env_Var.mk ([120] : List UInt8) [([98] : List UInt8)] 1 false) : T_env_Var))]) (vw := []) rfl rfl (.func _) hb_31 (COk.ren (env_Env_Set_m0.ok O hO k v11.2 (T_env_Var.mk ([120] : List UInt8) [([98] : List UInt8)] 1 false) v13 hv13) (fun n => if n = 100000 then 10001 else if n = 100001 then 10002 else n) (injOn_of (by kernel_rfl))) (.cons o0 (.cons o1 .nil)) (.cons (.same _) (.cons (.same _) .nil)) (by simp) (.inl rfl))) (.cons (sok_run rfl rfl hc12 (sok_errNil (U := Un) (rs := [(17, .p .err v13.1)]) rfl rfl Tryd.underlying27 o0 rfl)) (.cons (pkF (rs := [(13, .p .bool ((!(v11.1 == 0)) : Bool)), (18, .p .bool ((!(v13.1 == 0)) : Bool))]) rfl rfl o0 hc12 o1) .nil)))))))))))))))) (by kernel_rfl) (by kernel_rfl) (by kernel_rfl) (cvR _) ?_
        refine tnU ?_
        exact ⟨v13.2, (!(v13.1 == 0)), h, rfl⟩
    · rintro _ ⟨v7, v8, h, rfl⟩
      unfold millwrightlaw14_alive.j10 at h
      refine cdU (b := v8) o1 (fun hc9 => ?_) (fun hc9 => ?_)
      · replace h := ite_t hc9 h
        refine WpC.seq ?_
        refine rgU (st1 := ⟨[(0, .p .bool false)], []⟩) [0] [] hN (.cons (moU (rs := []) rfl (.inr rfl) (.bool _ _)) .nil) (by kernel_rfl) (by kernel_rfl) (by kernel_rfl) (cvR _) ?_
        refine tnU ?_
        refine WpC.ret ?_
        refine thenQ_ret ?_
        have hq := Option.some.inj h
        subst hq
        exact ends_ret (retV_1 rfl (.head _)) ain_nil
      · replace h := ite_f hc9 h
        refine WpC.conv (cvK (b := ⟨[(1, .loc 10001 0)], [(10001, .box [.mp 10002]), (10002, .map (.named 5) v7)]⟩) [1] [10001, 10002] (by kernel_rfl)) (WpC.skip ?_)
        refine tnU ?_
        exact ⟨v7, h, rfl⟩
  · rintro _ ⟨v2, h, rfl⟩
    unfold millwrightlaw14_alive.j6 at h
    refine WpC.seq ?_
    obtain ⟨v3, hv3, h⟩ := bind_some h
    refine rgU (st1 := ⟨[(2, .p (.list .str) v3)], []⟩) [2] [] hN (.cons (mvU (v := .loc 10001 0) rfl rfl) (.cons (caV (rs := [(20, .loc 10001 0)]) (vw := []) rfl rfl (.func _) hb_38 (COk.ren (env_Env_Get_m0.ok O hO k v2 ([120] : List UInt8) v3 hv3) (fun n => if n = 100000 then 10001 else if n = 100001 then 10002 else n) (injOn_of (by kernel_rfl))) (.cons o0 (.cons (.str _ _) .nil)) (.cons (.same _) (.cons (.same _) .nil)) (by simp) (.inl rfl)) (.cons (mvA (v := .p (.list .str) v3) rfl rfl) .nil))) (by kernel_rfl) (by kernel_rfl) (by kernel_rfl) (cvR _) ?_
    refine tnU ?_
    refine WpC.seq ?_
    rcases bool_cases ((v3.length : Int) == 1) with hc4 | hc4
    · replace h := ite_t hc4 h
      obtain ⟨v5, hv5, h⟩ := bind_some h
      refine rgU (st1 := ⟨[(0, .p .bool ((v5 == ([97] : List UInt8)) : Bool))], []⟩) [0] [] hN (.cons (mvU (v := .p (.list .str) v3) rfl rfl) (.cons (sok_lenL (U := Un) (rs := [(22, .p (.list .str) v3)]) rfl rfl Tryd.underlying22 o0) (.cons (cmU (rs := [(23, .p I6 ((v3.length : Int) : Int))]) rfl rfl o0 (.int _ _ _) rfl) (.cons (mvU (v := .p .bool (((v3.length : Int) == 1) : Bool)) rfl rfl) (.cons (sok_run rfl rfl hc4 (mvU (v := .p (.list .str) v3) rfl rfl)) (.cons (sok_run rfl rfl hc4 (sok_indexL (U := Un) (rs := [(26, .p (.list .str) v3)]) rfl rfl sl_22 o0 (.int _ _ _) hv5)) (.cons (sok_run rfl rfl hc4 (sok_loadP (U := Un) (rs := [(27, .pp .str v5)]) rfl rfl ty_9 o0)) (.cons (sok_run rfl rfl hc4 (sok_cmpS (U := Un) (rs := [(28, .p .str v5)]) rfl rfl o0 (.str _ _) rfl)) (.cons (pkT (rs := [(25, .p .bool (((v3.length : Int) == 1) : Bool)), (29, .p .bool ((v5 == ([97] : List UInt8)) : Bool))]) rfl rfl o0 hc4 o1) (.cons (mvA (v := .p .bool ((v5 == ([97] : List UInt8)) : Bool)) rfl rfl) .nil)))))))))) (by kernel_rfl) (by kernel_rfl) (by kernel_rfl) (cvR _) ?_
      refine tnU ?_
      refine WpC.ret ?_
      have hq := Option.some.inj h
      subst hq
      exact ends_ret (retV_1 rfl (.head _)) ain_nil
    · replace h := ite_f hc4 h
      refine rgU (st1 := ⟨[(0, .p .bool false)], []⟩) [0] [] hN (.cons (mvU (v := .p (.list .str) v3) rfl rfl) (.cons (sok_lenL (U := Un) (rs := [(22, .p (.list .str) v3)]) rfl rfl Tryd.underlying22 o0) (.cons (cmU (rs := [(23, .p I6 ((v3.length : Int) : Int))]) rfl rfl o0 (.int _ _ _) rfl) (.cons (mvU (v := .p .bool (((v3.length : Int) == 1) : Bool)) rfl rfl) (.cons (skU rfl rfl hc4) (.cons (skU rfl rfl hc4) (.cons (skU rfl rfl hc4) (.cons (skU rfl rfl hc4) (.cons (pkF (rs := [(25, .p .bool (((v3.length : Int) == 1) : Bool))]) rfl rfl o0 hc4 (.bool _ _)) (.cons (mvA (v := .p .bool false) rfl rfl) .nil)))))))))) (by kernel_rfl) (by kernel_rfl) (by kernel_rfl) (cvR _) ?_
      refine tnU ?_
      refine WpC.ret ?_
      have hq := Option.some.inj h
      subst hq
      exact ends_ret (retV_1 rfl (.head _)) ain_nil

end Go.Proofs.YtnbnfjgedinlbabDoor
