/- A part of the proof of a given law: EPC3. Own work, printed in part by a program of mine. -/
import Derived.Test.YtnbnfjgedinlbabDoorK12EPC2
namespace Go.Proofs.YtnbnfjgedinlbabDoor
open Go Go.AM
set_option linter.unusedVariables false
set_option linter.unusedSimpArgs false
set_option maxRecDepth 100000
theorem millwrightref13_Name.ok (O : Out) (hO : GOk O) (k : Nat) (a0 : List UInt8) (out : Bool) (h : millwrightref13_Name.f k a0 = some out) : COk Un O Tryd.prog 57 { ar := [.p .str a0], r := .p .bool out } := by
  refine cok_of_wp Tryd.func57 rfl (k := 23) rfl (Nat.le_of_ble_eq_true rfl) (namesOk_pure rfl rfl rfl rfl) ?_
  intro B hN
  refine WpC.conv (cvK (b := ⟨[(0, .p .str a0)], []⟩) [0] [] (by kernel_rfl)) ?_
  unfold millwrightref13_Name.f at h
  refine WpC.seq ?_
  refine rgU (st1 := ⟨[(0, .p .str a0)], []⟩) [0] [] hN (.cons (moU (rs := []) rfl (.inr rfl) (.bool _ _)) .nil) (by kernel_rfl) (by kernel_rfl) (by kernel_rfl) (cvR _) ?_
  refine tnU ?_
  refine sqJ (fun st' => millwrightref13_Name.j2 k a0 = some out ∧ st' = ⟨[(0, .p .str a0)], []⟩) ?_ ?_
  · refine WpC.seq ?_
    refine rgU (st1 := ⟨[(0, .p .str a0), (3, .p I6 (0 : Int))], []⟩) [0, 3] [] hN (.cons (moU (rs := []) rfl (.inr rfl) (.int _ _ _)) .nil) (by kernel_rfl) (by kernel_rfl) (by kernel_rfl) (cvR _) ?_
    refine tnU ?_
    refine WpC.block ?_
    obtain ⟨o5, hlo5, h⟩ := bind_some h
    have hout6 := h
    clear h
    refine WpC.loop (U := Un) (fun n st' => ∃ v3 : Int, millwrightref13_Name.l4 k a0 n v3 = some o5 ∧ st' = ⟨[(0, .p .str a0), (3, .p I6 v3)], []⟩) k ⟨0, hlo5, rfl⟩ ?_
    clear hlo5
    rintro (_ | n) _ ⟨v3, h, rfl⟩
    · cases h
    · rw [millwrightref13_Name.l4] at h
      refine WpC.seq ?_
      refine WpC.seq ?_
      refine rgU (st1 := ⟨[(0, .p .str a0), (3, .p I6 v3), (7, .p .bool ((decide (v3 < (a0.length : Int))) : Bool))], []⟩) [0, 3, 7] [] hN (.cons (mvU (v := .p I6 v3) rfl rfl) (.cons (mvU (v := .p .str a0) rfl rfl) (.cons (sok_lenS (U := Un) (rs := [(5, .p .str a0)]) rfl rfl Tryd.underlying9 o0) (.cons (cmU (rs := [(4, .p I6 v3), (6, .p I6 ((a0.length : Int) : Int))]) rfl rfl o0 o1 rfl) .nil)))) (by kernel_rfl) (by kernel_rfl) (by kernel_rfl) (cvR _) ?_
      refine tnU ?_
      refine cdU (b := (decide (v3 < (a0.length : Int)))) (.tmp (.tail _ (.tail _ (.head _)))) (fun hc7 => ?_) (fun hc7 => ?_)
      · replace h := ite_t hc7 h
        refine WpC.conv (cvK (b := ⟨[(0, .p .str a0), (3, .p I6 v3)], []⟩) [0, 3] [] (by kernel_rfl)) (WpC.skip ?_)
        refine tnU ?_
        refine WpC.seq ?_
        refine WpC.block ?_
        refine WpC.seq ?_
        obtain ⟨v8, hv8, h⟩ := bind_some h
        obtain ⟨v9, hv9, h⟩ := bind_some h
        refine rgU (st1 := ⟨[(0, .p .str a0), (3, .p I6 v3), (14, .p .bool ((!v9) : Bool))], []⟩) [0, 3, 14] [] hN (.cons (mvU (v := .p .str a0) rfl rfl) (.cons (mvU (v := .p I6 v3) rfl rfl) (.cons (sok_indexS (U := Un) (rs := [(10, .p .str a0), (11, .p I6 v3)]) rfl rfl Tryd.underlying9 o0 o1 hv8) (.cons (caV (rs := [(12, .p (.int .u8) ((v8.toNat : Int) : Int))]) (vw := []) rfl rfl (.func _) hb_77 (millwrightref13_letter.ok O hO k (v8.toNat : Int) v9 hv9) (.cons o0 .nil) (.cons (.same _) .nil) (by simp) (.inl rfl)) (.cons (sok_not (U := Un) (rs := [(13, .p .bool v9)]) rfl rfl o0) .nil))))) (by kernel_rfl) (by kernel_rfl) (by kernel_rfl) (cvR _) ?_
        refine tnU ?_
        refine cdU (b := (!v9)) (.tmp (.tail _ (.tail _ (.head _)))) (fun hc10 => ?_) (fun hc10 => ?_)
        · replace h := ite_t hc10 h
          refine WpC.seq ?_
          refine rgU (st1 := ⟨[(2, .p .bool false)], []⟩) [2] [] hN (.cons (moU (rs := []) rfl (.inr rfl) (.bool _ _)) .nil) (by kernel_rfl) (by kernel_rfl) (by kernel_rfl) (cvR _) ?_
          refine tnU ?_
          refine WpC.ret ?_
          refine blockQ_ret ?_
          refine thenQ_ret ?_
          have hq := Option.some.inj h
          subst hq
          refine thenQ_ret ?_
          have h := hout6
          refine blockQ_ret ?_
          refine thenQ_ret ?_
          have hq := Option.some.inj h
          subst hq
          exact ends_ret (retV_1 rfl (.head _)) ain_nil
        · replace h := ite_f hc10 h
          refine WpC.conv (cvK (b := ⟨[(0, .p .str a0), (3, .p I6 v3)], []⟩) [0, 3] [] (by kernel_rfl)) (WpC.skip ?_)
          refine blockQ_normal ?_
          refine tnU ?_
          refine rgU (st1 := ⟨[(0, .p .str a0), (3, .p I6 ((IntKind.i64.wrap (v3 + 1)) : Int))], []⟩) [0, 3] [] hN (.cons (mvU (v := .p I6 v3) rfl rfl) (.cons (sok_arith (U := Un) (rs := [(8, .p I6 v3)]) rfl rfl o0 (.int _ _ _) rfl) (.cons (mvA (v := .p I6 ((IntKind.i64.wrap (v3 + 1)) : Int)) rfl rfl) .nil))) (by kernel_rfl) (by kernel_rfl) (by kernel_rfl) (cvR _) ?_
          refine tnU ?_
          exact ⟨n, Nat.lt_succ_self n, (IntKind.i64.wrap (v3 + 1)), h, rfl⟩
      · replace h := ite_f hc7 h
        refine WpC.conv (cvK (b := ⟨[(0, .p .str a0)], []⟩) [0] [] (by kernel_rfl)) (WpC.exit ?_)
        refine thenQ_exit ?_
        have hq := Option.some.inj h
        subst hq
        refine thenQ_exit ?_
        have h := hout6
        refine blockQ_hit ?_
        refine tnU ?_
        exact ⟨h, rfl⟩
  · rintro _ ⟨h, rfl⟩
    unfold millwrightref13_Name.j2 at h
    refine WpC.seq ?_
    rcases bool_cases (decide ((a0.length : Int) > 0)) with hc1 | hc1
    · replace h := ite_t hc1 h
      refine rgU (st1 := ⟨[(2, .p .bool ((decide ((a0.length : Int) < 13)) : Bool))], []⟩) [2] [] hN (.cons (mvU (v := .p .str a0) rfl rfl) (.cons (sok_lenS (U := Un) (rs := [(15, .p .str a0)]) rfl rfl Tryd.underlying9 o0) (.cons (cmU (rs := [(16, .p I6 ((a0.length : Int) : Int))]) rfl rfl o0 (.int _ _ _) rfl) (.cons (mvU (v := .p .bool ((decide ((a0.length : Int) > 0)) : Bool)) rfl rfl) (.cons (sok_run rfl rfl hc1 (mvU (v := .p .str a0) rfl rfl)) (.cons (sok_run rfl rfl hc1 (sok_lenS (U := Un) (rs := [(19, .p .str a0)]) rfl rfl Tryd.underlying9 o0)) (.cons (sok_run rfl rfl hc1 (cmU (rs := [(20, .p I6 ((a0.length : Int) : Int))]) rfl rfl o0 (.int _ _ _) rfl)) (.cons (pkT (rs := [(18, .p .bool ((decide ((a0.length : Int) > 0)) : Bool)), (21, .p .bool ((decide ((a0.length : Int) < 13)) : Bool))]) rfl rfl o0 hc1 o1) (.cons (mvA (v := .p .bool ((decide ((a0.length : Int) < 13)) : Bool)) rfl rfl) .nil))))))))) (by kernel_rfl) (by kernel_rfl) (by kernel_rfl) (cvR _) ?_
      refine tnU ?_
      refine WpC.ret ?_
      have hq := Option.some.inj h
      subst hq
      exact ends_ret (retV_1 rfl (.head _)) ain_nil
    · replace h := ite_f hc1 h
      refine rgU (st1 := ⟨[(2, .p .bool false)], []⟩) [2] [] hN (.cons (mvU (v := .p .str a0) rfl rfl) (.cons (sok_lenS (U := Un) (rs := [(15, .p .str a0)]) rfl rfl Tryd.underlying9 o0) (.cons (cmU (rs := [(16, .p I6 ((a0.length : Int) : Int))]) rfl rfl o0 (.int _ _ _) rfl) (.cons (mvU (v := .p .bool ((decide ((a0.length : Int) > 0)) : Bool)) rfl rfl) (.cons (skU rfl rfl hc1) (.cons (skU rfl rfl hc1) (.cons (skU rfl rfl hc1) (.cons (pkF (rs := [(18, .p .bool ((decide ((a0.length : Int) > 0)) : Bool))]) rfl rfl o0 hc1 (.bool _ _)) (.cons (mvA (v := .p .bool false) rfl rfl) .nil))))))))) (by kernel_rfl) (by kernel_rfl) (by kernel_rfl) (cvR _) ?_
      refine tnU ?_
      refine WpC.ret ?_
      have hq := Option.some.inj h
      subst hq
      exact ends_ret (retV_1 rfl (.head _)) ain_nil

theorem millwrightref14_Check.ok (O : Out) (hO : GOk O) (k : Nat) (a0 : T_env_Var) (out : Int) (h : millwrightref14_Check.f k a0 = some out) : COk Un O Tryd.prog 30 { ar := [.p (.named 5) a0], r := .p I6 out } := by
  refine cok_of_wp Tryd.func30 rfl (k := 37) rfl (Nat.le_of_ble_eq_true rfl) (namesOk_pure rfl rfl rfl rfl) ?_
  intro B hN
  refine WpC.conv (cvK (b := ⟨[(0, .p (.named 5) a0)], []⟩) [0] [] (by kernel_rfl)) ?_
  unfold millwrightref14_Check.f at h
  refine WpC.seq ?_
  refine rgU (st1 := ⟨[(1, .loc 1 0)], [(1, .box [.p .str a0.f_Name, .p (.list .str) a0.f_Words, .p I6 a0.f_Level, .p .bool a0.f_Hidden])]⟩) [1] [1] hN (.cons (sok_box (U := Un) (rs := [(0, .p (.named 5) a0)]) (d := 1) (us := [.p .str a0.f_Name, .p (.list .str) a0.f_Words, .p I6 a0.f_Level, .p .bool a0.f_Hidden]) rfl rfl rfl o0 (.data (.named (us := ([.p .str a0.f_Name, .p (.list .str) a0.f_Words, .p I6 a0.f_Level, .p .bool a0.f_Hidden] : List (AVal Un))) (.pair (.one _ _) (.pair (.one _ _) (.pair (.one _ _) (.pair (.one _ _) .unit)))))) rfl (notin_of (by kernel_rfl))) (.cons (moU (rs := []) rfl (.inr rfl) (.int _ _ _)) .nil)) (by kernel_rfl) (by kernel_rfl) (by kernel_rfl) (cvR _) ?_
  refine tnU ?_
  refine WpC.seq ?_
  refine WpC.seq ?_
  obtain ⟨v1, hv1, h⟩ := bind_some h
  refine rgU (st1 := ⟨[(1, .loc 1 0), (8, .p .bool ((!v1) : Bool))], [(1, .box [.p .str a0.f_Name, .p (.list .str) a0.f_Words, .p I6 a0.f_Level, .p .bool a0.f_Hidden])]⟩) [1, 8] [1] hN (.cons (fdB (rs := [(1, .loc 1 0)]) rfl rfl fd_66_0 (by decide) o0) (.cons (ldB (t := .str) (rs := [(5, .loc 1 0)]) [] [.p .str a0.f_Name] [.p (.list .str) a0.f_Words, .p I6 a0.f_Level, .p .bool a0.f_Hidden] (v := .p .str a0.f_Name) rfl rfl ty_9 o0 rfl rfl rfl rfl (.data (.one _ _))) (.cons (caV (rs := [(6, .p .str a0.f_Name)]) (vw := []) rfl rfl (.func _) hb_57 (millwrightref13_Name.ok O hO k a0.f_Name v1 hv1) (.cons o0 .nil) (.cons (.same _) .nil) (by simp) (.inl rfl)) (.cons (sok_not (U := Un) (rs := [(7, .p .bool v1)]) rfl rfl o0) .nil)))) (by kernel_rfl) (by kernel_rfl) (by kernel_rfl) (cvR _) ?_
  refine tnU ?_
  refine cdU (b := (!v1)) o1 (fun hc2 => ?_) (fun hc2 => ?_)
  · replace h := ite_t hc2 h
    refine WpC.seq ?_
    refine rgU (st1 := ⟨[(2, .p I6 (4 : Int))], []⟩) [2] [] hN (.cons (moU (rs := []) rfl (.inr rfl) (.int _ _ _)) .nil) (by kernel_rfl) (by kernel_rfl) (by kernel_rfl) (cvR _) ?_
    refine tnU ?_
    refine WpC.ret ?_
    refine thenQ_ret ?_
    have hq := Option.some.inj h
    subst hq
    exact ends_ret (retV_1 rfl (.head _)) ain_nil
  · replace h := ite_f hc2 h
    refine WpC.conv (cvK (b := ⟨[(1, .loc 1 0)], [(1, .box [.p .str a0.f_Name, .p (.list .str) a0.f_Words, .p I6 a0.f_Level, .p .bool a0.f_Hidden])]⟩) [1] [1] (by kernel_rfl)) (WpC.skip ?_)
    refine tnU ?_
    refine sqJ (fun st' => millwrightref14_Check.j14 k a0 = some out ∧ st' = ⟨[(1, .loc 1 0)], [(1, .box [.p .str a0.f_Name, .p (.list .str) a0.f_Words, .p I6 a0.f_Level, .p .bool a0.f_Hidden])]⟩) ?_ ?_
    · refine sqJ (fun st' => ∃ v15 : Bool, millwrightref14_Check.j17 k a0 v15 = some out ∧ st' = ⟨[(1, .loc 1 0), (21, .p .bool v15)], [(1, .box [.p .str a0.f_Name, .p (.list .str) a0.f_Words, .p I6 a0.f_Level, .p .bool a0.f_Hidden])]⟩) ?_ ?_
      · rcases bool_cases (a0.f_Level != 0) with hc18 | hc18
        · replace h := ite_t hc18 h
          rcases bool_cases (a0.f_Level != 1) with hc19 | hc19
          · replace h := ite_t hc19 h
            refine rgU (st1 := ⟨[(1, .loc 1 0), (21, .p .bool ((a0.f_Level != 2) : Bool))], [(1, .box [.p .str a0.f_Name, .p (.list .str) a0.f_Words, .p I6 a0.f_Level, .p .bool a0.f_Hidden])]⟩) [1, 21] [1] hN (.cons (fdB (rs := [(1, .loc 1 0)]) rfl rfl fd_66_2 (by decide) o0) (.cons (ldB (t := .int .i64) (rs := [(9, .loc 1 2)]) [.p .str a0.f_Name, .p (.list .str) a0.f_Words] [.p I6 a0.f_Level] [.p .bool a0.f_Hidden] (v := .p I6 a0.f_Level) rfl rfl ty_3 o0 rfl rfl rfl rfl (.data (.one _ _))) (.cons (cmU (rs := [(10, .p I6 a0.f_Level)]) rfl rfl o0 (.int _ _ _) rfl) (.cons (mvU (v := .p .bool ((a0.f_Level != 0) : Bool)) rfl rfl) (.cons (sok_run rfl rfl hc18 (fdB (rs := [(1, .loc 1 0)]) rfl rfl fd_66_2 (by decide) o0)) (.cons (sok_run rfl rfl hc18 (ldB (t := .int .i64) (rs := [(13, .loc 1 2)]) [.p .str a0.f_Name, .p (.list .str) a0.f_Words] [.p I6 a0.f_Level] [.p .bool a0.f_Hidden] (v := .p I6 a0.f_Level) rfl rfl ty_3 o0 rfl rfl rfl rfl (.data (.one _ _)))) (.cons (sok_run rfl rfl hc18 (cmU (rs := [(14, .p I6 a0.f_Level)]) rfl rfl o0 (.int _ _ _) rfl)) (.cons (pkT (rs := [(12, .p .bool ((a0.f_Level != 0) : Bool)), (15, .p .bool ((a0.f_Level != 1) : Bool))]) rfl rfl o0 hc18 o1) (.cons (mvU (v := .p .bool ((a0.f_Level != 1) : Bool)) rfl rfl) (.cons (sok_run rfl rfl hc19 (fdB (rs := [(1, .loc 1 0)]) rfl rfl fd_66_2 (by decide) o0)) (.cons (sok_run rfl rfl hc19 (ldB (t := .int .i64) (rs := [(18, .loc 1 2)]) [.p .str a0.f_Name, .p (.list .str) a0.f_Words] [.p I6 a0.f_Level] [.p .bool a0.f_Hidden] (v := .p I6 a0.f_Level) rfl rfl ty_3 o0 rfl rfl rfl rfl (.data (.one _ _)))) (.cons (sok_run rfl rfl hc19 (cmU (rs := [(19, .p I6 a0.f_Level)]) rfl rfl o0 (.int _ _ _) rfl)) (.cons (pkT (rs := [(17, .p .bool ((a0.f_Level != 1) : Bool)), (20, .p .bool ((a0.f_Level != 2) : Bool))]) rfl rfl o0 hc19 o1) .nil))))))))))))) (by kernel_rfl) (by kernel_rfl) (by kernel_rfl) (cvR _) ?_
            refine tnU ?_
            exact ⟨(a0.f_Level != 2), h, rfl⟩
          · replace h := ite_f hc19 h
            refine rgU (st1 := ⟨[(1, .loc 1 0), (21, .p .bool false)], [(1, .box [.p .str a0.f_Name, .p (.list .str) a0.f_Words, .p I6 a0.f_Level, .p .bool a0.f_Hidden])]⟩) [1, 21] [1] hN (.cons (fdB (rs := [(1, .loc 1 0)]) rfl rfl fd_66_2 (by decide) o0) (.cons (ldB (t := .int .i64) (rs := [(9, .loc 1 2)]) [.p .str a0.f_Name, .p (.list .str) a0.f_Words] [.p I6 a0.f_Level] [.p .bool a0.f_Hidden] (v := .p I6 a0.f_Level) rfl rfl ty_3 o0 rfl rfl rfl rfl (.data (.one _ _))) (.cons (cmU (rs := [(10, .p I6 a0.f_Level)]) rfl rfl o0 (.int _ _ _) rfl) (.cons (mvU (v := .p .bool ((a0.f_Level != 0) : Bool)) rfl rfl) (.cons (sok_run rfl rfl hc18 (fdB (rs := [(1, .loc 1 0)]) rfl rfl fd_66_2 (by decide) o0)) (.cons (sok_run rfl rfl hc18 (ldB (t := .int .i64) (rs := [(13, .loc 1 2)]) [.p .str a0.f_Name, .p (.list .str) a0.f_Words] [.p I6 a0.f_Level] [.p .bool a0.f_Hidden] (v := .p I6 a0.f_Level) rfl rfl ty_3 o0 rfl rfl rfl rfl (.data (.one _ _)))) (.cons (sok_run rfl rfl hc18 (cmU (rs := [(14, .p I6 a0.f_Level)]) rfl rfl o0 (.int _ _ _) rfl)) (.cons (pkT (rs := [(12, .p .bool ((a0.f_Level != 0) : Bool)), (15, .p .bool ((a0.f_Level != 1) : Bool))]) rfl rfl o0 hc18 o1) (.cons (mvU (v := .p .bool ((a0.f_Level != 1) : Bool)) rfl rfl) (.cons (skU rfl rfl hc19) (.cons (skU rfl rfl hc19) (.cons (skU rfl rfl hc19) (.cons (pkF (rs := [(17, .p .bool ((a0.f_Level != 1) : Bool))]) rfl rfl o0 hc19 (.bool _ _)) .nil))))))))))))) (by kernel_rfl) (by kernel_rfl) (by kernel_rfl) (cvR _) ?_
            refine tnU ?_
            exact ⟨false, h, rfl⟩
        · replace h := ite_f hc18 h
          refine rgU (st1 := ⟨[(1, .loc 1 0), (21, .p .bool false)], [(1, .box [.p .str a0.f_Name, .p (.list .str) a0.f_Words, .p I6 a0.f_Level, .p .bool a0.f_Hidden])]⟩) [1, 21] [1] hN (.cons (fdB (rs := [(1, .loc 1 0)]) rfl rfl fd_66_2 (by decide) o0) (.cons (ldB (t := .int .i64) (rs := [(9, .loc 1 2)]) [.p .str a0.f_Name, .p (.list .str) a0.f_Words] [.p I6 a0.f_Level] [.p .bool a0.f_Hidden] (v := .p I6 a0.f_Level) rfl rfl ty_3 o0 rfl rfl rfl rfl (.data (.one _ _))) (.cons (cmU (rs := [(10, .p I6 a0.f_Level)]) rfl rfl o0 (.int _ _ _) rfl) (.cons (mvU (v := .p .bool ((a0.f_Level != 0) : Bool)) rfl rfl) (.cons (skU rfl rfl hc18) (.cons (skU rfl rfl hc18) (.cons (skU rfl rfl hc18) (.cons (pkF (rs := [(12, .p .bool ((a0.f_Level != 0) : Bool))]) rfl rfl o0 hc18 (.bool _ _)) (.cons (mvU (v := .p .bool false) rfl rfl) (.cons (skU rfl rfl rfl) (.cons (skU rfl rfl rfl) (.cons (skU rfl rfl rfl) (.cons (pkF (rs := [(17, .p .bool false)]) rfl rfl o0 rfl (.bool _ _)) .nil))))))))))))) (by kernel_rfl) (by kernel_rfl) (by kernel_rfl) (cvR _) ?_
          refine tnU ?_
          exact ⟨false, h, rfl⟩
      · rintro _ ⟨v15, h, rfl⟩
        unfold millwrightref14_Check.j17 at h
        refine cdU (b := v15) o1 (fun hc16 => ?_) (fun hc16 => ?_)
        · replace h := ite_t hc16 h
          refine WpC.seq ?_
          refine rgU (st1 := ⟨[(2, .p I6 (1 : Int))], []⟩) [2] [] hN (.cons (moU (rs := []) rfl (.inr rfl) (.int _ _ _)) .nil) (by kernel_rfl) (by kernel_rfl) (by kernel_rfl) (cvR _) ?_
          refine tnU ?_
          refine WpC.ret ?_
          refine thenQ_ret ?_
          have hq := Option.some.inj h
          subst hq
          exact ends_ret (retV_1 rfl (.head _)) ain_nil
        · replace h := ite_f hc16 h
          refine WpC.conv (cvK (b := ⟨[(1, .loc 1 0)], [(1, .box [.p .str a0.f_Name, .p (.list .str) a0.f_Words, .p I6 a0.f_Level, .p .bool a0.f_Hidden])]⟩) [1] [1] (by kernel_rfl)) (WpC.skip ?_)
          refine tnU ?_
          exact ⟨h, rfl⟩
    · rintro _ ⟨h, rfl⟩
      unfold millwrightref14_Check.j14 at h
      refine WpC.seq ?_
      refine WpC.seq ?_
      refine rgU (st1 := ⟨[(1, .loc 1 0), (25, .p .bool ((decide ((a0.f_Words.length : Int) > 40)) : Bool))], [(1, .box [.p .str a0.f_Name, .p (.list .str) a0.f_Words, .p I6 a0.f_Level, .p .bool a0.f_Hidden])]⟩) [1, 25] [1] hN (.cons (fdB (rs := [(1, .loc 1 0)]) rfl rfl fd_66_1 (by decide) o0) (.cons (ldB (t := .list .str) (rs := [(22, .loc 1 1)]) [.p .str a0.f_Name] [.p (.list .str) a0.f_Words] [.p I6 a0.f_Level, .p .bool a0.f_Hidden] (v := .p (.list .str) a0.f_Words) rfl rfl ty_22 o0 rfl rfl rfl rfl (.data (.one _ _))) (.cons (sok_lenL (U := Un) (rs := [(23, .p (.list .str) a0.f_Words)]) rfl rfl Tryd.underlying22 o0) (.cons (cmU (rs := [(24, .p I6 ((a0.f_Words.length : Int) : Int))]) rfl rfl o0 (.int _ _ _) rfl) .nil)))) (by kernel_rfl) (by kernel_rfl) (by kernel_rfl) (cvR _) ?_
      refine tnU ?_
      refine cdU (b := (decide ((a0.f_Words.length : Int) > 40))) o1 (fun hc3 => ?_) (fun hc3 => ?_)
      · replace h := ite_t hc3 h
        refine WpC.seq ?_
        refine rgU (st1 := ⟨[(2, .p I6 (10 : Int))], []⟩) [2] [] hN (.cons (moU (rs := []) rfl (.inr rfl) (.int _ _ _)) .nil) (by kernel_rfl) (by kernel_rfl) (by kernel_rfl) (cvR _) ?_
        refine tnU ?_
        refine WpC.ret ?_
        refine thenQ_ret ?_
        have hq := Option.some.inj h
        subst hq
        exact ends_ret (retV_1 rfl (.head _)) ain_nil
      · replace h := ite_f hc3 h
        refine WpC.conv (cvK (b := ⟨[(1, .loc 1 0)], [(1, .box [.p .str a0.f_Name, .p (.list .str) a0.f_Words, .p I6 a0.f_Level, .p .bool a0.f_Hidden])]⟩) [1] [1] (by kernel_rfl)) (WpC.skip ?_)
        refine tnU ?_
        refine sqJ (fun st' => millwrightref14_Check.j4 k = some out ∧ st' = ⟨[], []⟩) ?_ ?_
        · refine WpC.seq ?_
          refine rgU (st1 := ⟨[(27, .p (.list .str) a0.f_Words), (28, .p I6 ((a0.f_Words.length : Int) : Int)), (29, .p I6 (0 : Int))], []⟩) [27, 28, 29] [] hN (.cons (fdB (rs := [(1, .loc 1 0)]) rfl rfl fd_66_1 (by decide) o0) (.cons (ldB (t := .list .str) (rs := [(26, .loc 1 1)]) [.p .str a0.f_Name] [.p (.list .str) a0.f_Words] [.p I6 a0.f_Level, .p .bool a0.f_Hidden] (v := .p (.list .str) a0.f_Words) rfl rfl ty_22 o0 rfl rfl rfl rfl (.data (.one _ _))) (.cons (sok_lenL (U := Un) (rs := [(27, .p (.list .str) a0.f_Words)]) rfl rfl Tryd.underlying22 o0) (.cons (moU (rs := []) rfl (.inl rfl) (.int _ _ _)) .nil)))) (by kernel_rfl) (by kernel_rfl) (by kernel_rfl) (cvR _) ?_
          refine tnU ?_
          refine WpC.block ?_
          obtain ⟨o7, hlo7, h⟩ := bind_some h
          have hout8 := h
          clear h
          refine WpC.loop (U := Un) (fun n st' => ∃ v5 : Int, millwrightref14_Check.l6 k a0 n v5 = some o7 ∧ st' = ⟨[(27, .p (.list .str) a0.f_Words), (28, .p I6 ((a0.f_Words.length : Int) : Int)), (29, .p I6 v5)], []⟩) k ⟨0, hlo7, rfl⟩ ?_
          clear hlo7
          rintro (_ | n) _ ⟨v5, h, rfl⟩
          · cases h
          · rw [millwrightref14_Check.l6] at h
            refine WpC.seq ?_
            refine rgU (st1 := ⟨[(27, .p (.list .str) a0.f_Words), (28, .p I6 ((a0.f_Words.length : Int) : Int)), (29, .p I6 v5), (30, .p .bool ((decide (v5 < (a0.f_Words.length : Int))) : Bool))], []⟩) [27, 28, 29, 30] [] hN (.cons (cmU (rs := [(29, .p I6 v5), (28, .p I6 ((a0.f_Words.length : Int) : Int))]) rfl rfl o0 o1 rfl) .nil) (by kernel_rfl) (by kernel_rfl) (by kernel_rfl) (cvR _) ?_
            refine tnU ?_
            refine WpC.seq ?_
            refine cdU (b := (decide (v5 < (a0.f_Words.length : Int)))) (.tmp (.tail _ (.tail _ (.tail _ (.head _))))) (fun hc9 => ?_) (fun hc9 => ?_)
            · replace h := ite_t hc9 h
              refine WpC.conv (cvK (b := ⟨[(27, .p (.list .str) a0.f_Words), (28, .p I6 ((a0.f_Words.length : Int) : Int)), (29, .p I6 v5)], []⟩) [27, 28, 29] [] (by kernel_rfl)) (WpC.skip ?_)
              refine tnU ?_
              refine WpC.seq ?_
              refine WpC.block ?_
              refine WpC.seq ?_
              obtain ⟨v10, hv10, h⟩ := bind_some h
              refine rgU (st1 := ⟨[(4, .p .str v10), (27, .p (.list .str) a0.f_Words), (28, .p I6 ((a0.f_Words.length : Int) : Int)), (29, .p I6 v5)], []⟩) [4, 27, 28, 29] [] hN (.cons (sok_indexL (U := Un) (rs := [(27, .p (.list .str) a0.f_Words), (29, .p I6 v5)]) rfl rfl sl_22 o0 o1 hv10) (.cons (sok_loadP (U := Un) (rs := [(31, .pp .str v10)]) rfl rfl ty_9 o0) (.cons (mvA (v := .p .str v10) rfl rfl) .nil))) (by kernel_rfl) (by kernel_rfl) (by kernel_rfl) (cvR _) ?_
              refine tnU ?_
              refine WpC.seq ?_
              refine rgU (st1 := ⟨[(27, .p (.list .str) a0.f_Words), (28, .p I6 ((a0.f_Words.length : Int) : Int)), (29, .p I6 v5), (35, .p .bool ((decide ((v10.length : Int) > 120)) : Bool))], []⟩) [27, 28, 29, 35] [] hN (.cons (mvU (v := .p .str v10) rfl rfl) (.cons (sok_lenS (U := Un) (rs := [(33, .p .str v10)]) rfl rfl Tryd.underlying9 o0) (.cons (cmU (rs := [(34, .p I6 ((v10.length : Int) : Int))]) rfl rfl o0 (.int _ _ _) rfl) .nil))) (by kernel_rfl) (by kernel_rfl) (by kernel_rfl) (cvR _) ?_
              refine tnU ?_
              refine cdU (b := (decide ((v10.length : Int) > 120))) (.tmp (.tail _ (.tail _ (.tail _ (.head _))))) (fun hc11 => ?_) (fun hc11 => ?_)
              · replace h := ite_t hc11 h
                refine WpC.seq ?_
                refine rgU (st1 := ⟨[(2, .p I6 (2 : Int))], []⟩) [2] [] hN (.cons (moU (rs := []) rfl (.inr rfl) (.int _ _ _)) .nil) (by kernel_rfl) (by kernel_rfl) (by kernel_rfl) (cvR _) ?_
                refine tnU ?_
                refine WpC.ret ?_
                refine blockQ_ret ?_
                refine thenQ_ret ?_
                have hq := Option.some.inj h
                subst hq
                refine thenQ_ret ?_
                have h := hout8
                refine blockQ_ret ?_
                refine thenQ_ret ?_
                have hq := Option.some.inj h
                subst hq
                exact ends_ret (retV_1 rfl (.head _)) ain_nil
              · replace h := ite_f hc11 h
                refine WpC.conv (cvK (b := ⟨[(27, .p (.list .str) a0.f_Words), (28, .p I6 ((a0.f_Words.length : Int) : Int)), (29, .p I6 v5)], []⟩) [27, 28, 29] [] (by kernel_rfl)) (WpC.skip ?_)
                refine blockQ_normal ?_
                refine tnU ?_
                refine rgU (st1 := ⟨[(27, .p (.list .str) a0.f_Words), (28, .p I6 ((a0.f_Words.length : Int) : Int)), (29, .p I6 ((IntKind.i64.wrap (v5 + 1)) : Int))], []⟩) [27, 28, 29] [] hN (.cons (sok_arith (U := Un) (rs := [(29, .p I6 v5)]) rfl rfl o0 (.int _ _ _) rfl) (.cons (mvU (v := .p I6 ((IntKind.i64.wrap (v5 + 1)) : Int)) rfl rfl) .nil)) (by kernel_rfl) (by kernel_rfl) (by kernel_rfl) (cvR _) ?_
                refine tnU ?_
                exact ⟨n, Nat.lt_succ_self n, (IntKind.i64.wrap (v5 + 1)), h, rfl⟩
            · replace h := ite_f hc9 h
              refine WpC.conv (cvK (b := ⟨[], []⟩) [] [] (by kernel_rfl)) (WpC.exit ?_)
              refine thenQ_exit ?_
              have hq := Option.some.inj h
              subst hq
              refine thenQ_exit ?_
              have h := hout8
              refine blockQ_hit ?_
              refine tnU ?_
              exact ⟨h, rfl⟩
        · rintro _ ⟨h, rfl⟩
          unfold millwrightref14_Check.j4 at h
          refine WpC.seq ?_
          refine rgU (st1 := ⟨[(2, .p I6 (0 : Int))], []⟩) [2] [] hN (.cons (moU (rs := []) rfl (.inr rfl) (.int _ _ _)) .nil) (by kernel_rfl) (by kernel_rfl) (by kernel_rfl) (cvR _) ?_
          refine tnU ?_
          refine WpC.ret ?_
          have hq := Option.some.inj h
          subst hq
          exact ends_ret (retV_1 rfl (.head _)) ain_nil

theorem env_Var_apart_m1.ok (O : Out) (hO : GOk O) (k : Nat) (a0 : List UInt8) (a1 : List (List UInt8)) (a2 : Nat) (a3 : Int) (a4 : Bool) (out : T_env_Var) (h : env_Var_apart_m1.f k a0 a1 a2 a3 a4 = some out) : COk Un O Tryd.prog 51 { ar := [.agg [.p .str a0, .vec 100000 1 0 a2, .p I6 a3, .p .bool a4]], r := .p (.named 5) out, bs := [(100000, .row 9 .str a1 true)], bs' := [(100000, .row 9 .str a1 true)] } := by
  refine cok_of_wp Tryd.func51 rfl (k := 8) rfl (Nat.le_of_ble_eq_true rfl) (namesOk_of (by kernel_rfl)) ?_
  intro B hN
  refine WpC.conv (cvK (b := ⟨[(0, .agg [.p .str a0, .vec 100000 1 0 a2, .p I6 a3, .p .bool a4])], [(100000, .row 9 .str a1 true)]⟩) [0] [100000] (by kernel_rfl)) ?_
  unfold env_Var_apart_m1.f at h
  refine WpC.seq ?_
  refine rgU (st1 := ⟨[(1, .loc 1 0), (2, .loc 2 0)], [(1, .box [.p .str a0, .vec 100000 1 0 a2, .p I6 a3, .p .bool a4]), (2, .box [.p .str ([] : List UInt8), .p (.list .str) ([] : List (List UInt8)), .p I6 (0 : Int), .p .bool false]), (100000, .row 9 .str a1 true)]⟩) [1, 2] [1, 2, 100000] hN (.cons (sok_box (U := Un) (rs := [(0, .agg [.p .str a0, .vec 100000 1 0 a2, .p I6 a3, .p .bool a4])]) (d := 1) (us := [.p .str a0, .vec 100000 1 0 a2, .p I6 a3, .p .bool a4]) rfl rfl rfl o0 .agg rfl (notin_of (by kernel_rfl))) (.cons (sok_allocZ (U := Un) (rs := []) (d := 2) (us := [.p .str ([] : List UInt8), .p (.list .str) ([] : List (List UInt8)), .p I6 (0 : Int), .p .bool false]) (v := (.agg #[.string ByteArray.empty, .slice none 0 0, .int .i64 0, .bool false])) rfl rfl rfl (by kernel_rfl) rfl (.data (fun _ _ _ => rd_str0) (.data (fun _ _ _ => .lnil _) (.data (fun _ _ _ => .int _ _) (.data (fun _ _ _ => .bool _) .nil)))) (by kernel_rfl)) .nil)) (by kernel_rfl) (by kernel_rfl) (by kernel_rfl) (cvR _) ?_
  refine tnU ?_
  refine WpC.seq ?_
  obtain ⟨g1, h⟩ := if_some h
  obtain ⟨v2, hv2, h⟩ := bind_some h
  refine rgU (st1 := ⟨[(1, .loc 1 0), (2, .loc 2 0)], [(1, .box [.p .str a0, .vec 10001 1 0 v2.length, .p I6 a3, .p .bool a4]), (2, .box [.p .str ([] : List UInt8), .p (.list .str) ([] : List (List UInt8)), .p I6 (0 : Int), .p .bool false]), (10001, .row 9 .str v2 false), (100000, .row 9 .str a1 true)]⟩) [1, 2] [1, 2, 10001, 100000] hN (.cons (fdB (rs := [(1, .loc 1 0)]) rfl rfl fd_60_1 (by decide) o0) (.cons (ldB (t := .list .str) (rs := [(3, .loc 1 1)]) [.p .str a0] [.vec 100000 1 0 a2] [.p I6 a3, .p .bool a4] (v := .vec 100000 1 0 a2) rfl rfl ty_22 o0 rfl rfl rfl rfl (.hand rfl rfl)) (.cons (caV (rs := [(4, .vec 100000 1 0 a2)]) (vw := [(100000, .row 9 .str a1 true)]) rfl rfl (.func _) hb_72 (COk.ren (pCloneR.ok O hO k ((a1.drop 0).take a2) v2 hv2) (fun n => if n = 60500 then 10001 else n) (injOn_of (by kernel_rfl))) (.cons o0 .nil) (.cons (.row 0 a2 (.head _) g1) .nil) (fun _ _ h => (List.not_mem_nil (show _ ∈ ([] : List Nat) from h)).elim) (.inr rfl)) (.cons (fdB (rs := [(1, .loc 1 0)]) rfl rfl fd_60_1 (by decide) o0) (.cons (sok_storeB (U := Un) (rs := [(6, .loc 1 1), (5, .vec 10001 1 0 v2.length)]) (v := .vec 10001 1 0 v2.length) (mid' := [.vec 10001 1 0 v2.length]) [.p .str a0] [.vec 100000 1 0 a2] [.p I6 a3, .p .bool a4] rfl rfl rfl ty_22 o0 o1 (.hand rfl) rfl rfl rfl rfl rfl rfl) .nil))))) (by kernel_rfl) (by kernel_rfl) (by kernel_rfl) (cvR _) ?_
  refine tnU ?_
  refine WpC.seq ?_
  refine rgU (st1 := ⟨[(2, .loc 2 0)], [(2, .box [.p .str a0, .vec 10001 1 0 v2.length, .p I6 a3, .p .bool a4]), (10001, .row 9 .str v2 false), (100000, .row 9 .str a1 true)]⟩) [2] [2, 10001, 100000] hN (.cons (ldB (t := .named 5) (rs := [(1, .loc 1 0)]) [] [.p .str a0, .vec 10001 1 0 v2.length, .p I6 a3, .p .bool a4] [] (v := .agg [.p .str a0, .vec 10001 1 0 v2.length, .p I6 a3, .p .bool a4]) rfl rfl ty_60 o0 rfl rfl rfl rfl (.agg rfl)) (.cons (sok_storeB (U := Un) (rs := [(2, .loc 2 0), (7, .agg [.p .str a0, .vec 10001 1 0 v2.length, .p I6 a3, .p .bool a4])]) (v := .agg [.p .str a0, .vec 10001 1 0 v2.length, .p I6 a3, .p .bool a4]) (mid' := [.p .str a0, .vec 10001 1 0 v2.length, .p I6 a3, .p .bool a4]) [] [.p .str ([] : List UInt8), .p (.list .str) ([] : List (List UInt8)), .p I6 (0 : Int), .p .bool false] [] rfl rfl rfl ty_60 o0 o1 .agg rfl rfl rfl rfl rfl rfl) .nil)) (by kernel_rfl) (by kernel_rfl) (by kernel_rfl) (cvR _) ?_
  refine tnU ?_
  refine WpC.conv (cvT (Conv.freezeU (U := Un) 2 10001 9 _ .str v2 false [.p .str a0] [.p I6 a3, .p .bool a4] (.head _) (by first | rfl | (simp only [upd_length, List.length_replicate, List.length_append]; done) | (simp only [upd_length, List.length_replicate, List.length_append] at *; omega) | omega) (.tail _ (.head _)) (by kernel_rfl)) (cvK (b := ⟨[(2, .loc 2 0)], [(2, .box [.p .str a0, .p (.list .str) v2, .p I6 a3, .p .bool a4]), (100000, .row 9 .str a1 true)]⟩) [2] [2, 100000] (by kernel_rfl))) (WpC.ret ?_)
  have hq := Option.some.inj h
  subst hq
  exact ends_ret (retV_L (U := Un) (vs := [.p (.named 5) ((T_env_Var.mk a0 v2 a3 a4) : T_env_Var)]) rfl (ResL.cell (U := Un) [] [.p .str a0, .p (.list .str) v2, .p I6 a3, .p .bool a4] [] (.head _) (.head _) rfl rfl rfl rfl ty_60 (.data (.named (us := ([.p .str a0, .p (.list .str) v2, .p I6 a3, .p .bool a4] : List (AVal Un))) (.pair (.one _ _) (.pair (.one _ _) (.pair (.one _ _) (.pair (.one _ _) .unit)))))) .nil)) (ain_cons (.tail _ (.head _)) ain_nil)

theorem env_Env_Set_m1.ok (O : Out) (hO : GOk O) (k : Nat) (a0 : List ((List UInt8) × T_env_Var)) (a1 : List UInt8) (a2 : List (List UInt8)) (a3 : Nat) (a4 : Int) (a5 : Bool) (out : Nat × (List ((List UInt8) × T_env_Var))) (h : env_Env_Set_m1.f k a0 a1 a2 a3 a4 a5 = some out) : COk Un O Tryd.prog 31 { ar := [.loc 100000 0, .agg [.p .str a1, .vec 100002 1 0 a3, .p I6 a4, .p .bool a5]], r := .p .err out.1, bs := [(100000, .box [.mp 100001]), (100001, .map (.named 5) a0), (100002, .row 9 .str a2 true)], bs' := [(100000, .box [.mp 100001]), (100001, .map (.named 5) out.2), (100002, .row 9 .str a2 true)] } := by
  refine cok_of_wp Tryd.func31 rfl (k := 52) rfl (Nat.le_of_ble_eq_true rfl) (namesOk_of (by kernel_rfl)) ?_
  intro B hN
  refine WpC.conv (cvK (b := ⟨[(0, .loc 100000 0), (1, .agg [.p .str a1, .vec 100002 1 0 a3, .p I6 a4, .p .bool a5])], [(100000, .box [.mp 100001]), (100001, .map (.named 5) a0), (100002, .row 9 .str a2 true)]⟩) [0, 1] [100000, 100001, 100002] (by kernel_rfl)) ?_
  unfold env_Env_Set_m1.f at h
  refine WpC.seq ?_
  refine rgU (st1 := ⟨[(0, .loc 100000 0), (3, .loc 3 0)], [(3, .box [.p .str a1, .vec 100002 1 0 a3, .p I6 a4, .p .bool a5]), (100000, .box [.mp 100001]), (100001, .map (.named 5) a0), (100002, .row 9 .str a2 true)]⟩) [0, 3] [3, 100000, 100001, 100002] hN (.cons (sok_box (U := Un) (rs := [(1, .agg [.p .str a1, .vec 100002 1 0 a3, .p I6 a4, .p .bool a5])]) (d := 3) (us := [.p .str a1, .vec 100002 1 0 a3, .p I6 a4, .p .bool a5]) rfl rfl rfl o0 .agg rfl (notin_of (by kernel_rfl))) (.cons (moU (rs := []) rfl (.inr rfl) (.lit _ _ rfl)) .nil)) (by kernel_rfl) (by kernel_rfl) (by kernel_rfl) (cvR _) ?_
  refine tnU ?_
  refine WpC.seq ?_
  refine WpC.seq ?_
  obtain ⟨g1, h⟩ := if_some h
  obtain ⟨v2, hv2, h⟩ := bind_some h
  refine rgU (st1 := ⟨[(0, .loc 100000 0), (3, .loc 3 0), (5, .p .err v2)], [(3, .box [.p .str a1, .vec 100002 1 0 a3, .p I6 a4, .p .bool a5]), (100000, .box [.mp 100001]), (100001, .map (.named 5) a0), (100002, .row 9 .str a2 true)]⟩) [0, 3, 5] [3, 100000, 100001, 100002] hN (.cons (ldB (t := .named 5) (rs := [(3, .loc 3 0)]) [] [.p .str a1, .vec 100002 1 0 a3, .p I6 a4, .p .bool a5] [] (v := .agg [.p .str a1, .vec 100002 1 0 a3, .p I6 a4, .p .bool a5]) rfl rfl ty_60 o0 rfl rfl rfl rfl (.agg rfl)) (.cons (caV (rs := [(8, .agg [.p .str a1, .vec 100002 1 0 a3, .p I6 a4, .p .bool a5])]) (vw := [(100002, .row 9 .str a2 true)]) rfl rfl (.func _) hb_29 (env_Check.ok O hO k (T_env_Var.mk a1 ((a2.drop 0).take a3) a4 a5) v2 hv2) (.cons o0 .nil) (.cons (View.ofAgg (us' := ([.p .str a1, .p (.list .str) (((a2.drop 0).take a3) : List (List UInt8)), .p I6 a4, .p .bool a5] : List (AVal Un))) (.cons (.same _) (.cons (.row 0 a3 (.head _) g1) (.cons (.same _) (.cons (.same _) .nil)))) (.data (.named (us := ([.p .str a1, .p (.list .str) (((a2.drop 0).take a3) : List (List UInt8)), .p I6 a4, .p .bool a5] : List (AVal Un))) (.pair (.one _ _) (.pair (.one _ _) (.pair (.one _ _) (.pair (.one _ _) .unit))))))) .nil) (by simp) (.inr rfl)) (.cons (mvA (v := .p .err v2) rfl rfl) .nil))) (by kernel_rfl) (by kernel_rfl) (by kernel_rfl) (cvR _) ?_
  refine tnU ?_
  refine WpC.seq ?_
  refine rgU (st1 := ⟨[(0, .loc 100000 0), (3, .loc 3 0), (5, .p .err v2), (11, .p .bool ((!(v2 == 0)) : Bool))], [(3, .box [.p .str a1, .vec 100002 1 0 a3, .p I6 a4, .p .bool a5]), (100000, .box [.mp 100001]), (100001, .map (.named 5) a0), (100002, .row 9 .str a2 true)]⟩) [0, 3, 5, 11] [3, 100000, 100001, 100002] hN (.cons (mvU (v := .p .err v2) rfl rfl) (.cons (sok_errNil (U := Un) (rs := [(10, .p .err v2)]) rfl rfl Tryd.underlying27 o0 rfl) .nil)) (by kernel_rfl) (by kernel_rfl) (by kernel_rfl) (cvR _) ?_
  refine tnU ?_
  refine cdU (b := (!(v2 == 0))) (.tmp (.tail _ (.tail _ (.tail _ (.head _))))) (fun hc3 => ?_) (fun hc3 => ?_)
  · replace h := ite_t hc3 h
    refine WpC.seq ?_
    refine rgU (st1 := ⟨[(4, .p .err v2)], [(100000, .box [.mp 100001]), (100001, .map (.named 5) a0), (100002, .row 9 .str a2 true)]⟩) [4] [100000, 100001, 100002] hN (.cons (mvU (v := .p .err v2) rfl rfl) (.cons (mvA (v := .p .err v2) rfl rfl) .nil)) (by kernel_rfl) (by kernel_rfl) (by kernel_rfl) (cvR _) ?_
    refine tnU ?_
    refine WpC.ret ?_
    refine thenQ_ret ?_
    have hq := Option.some.inj h
    subst hq
    exact ends_ret (retV_1 rfl (.head _)) (ain_cons (.head _) (ain_cons (.tail _ (.head _)) (ain_cons (.tail _ (.tail _ (.head _))) ain_nil)))
  · replace h := ite_f hc3 h
    refine WpC.conv (cvK (b := ⟨[(0, .loc 100000 0), (3, .loc 3 0)], [(3, .box [.p .str a1, .vec 100002 1 0 a3, .p I6 a4, .p .bool a5]), (100000, .box [.mp 100001]), (100001, .map (.named 5) a0), (100002, .row 9 .str a2 true)]⟩) [0, 3] [3, 100000, 100001, 100002] (by kernel_rfl)) (WpC.skip ?_)
    refine tnU ?_
    refine WpC.seq ?_
    refine WpC.regA (U := Un) (st1 := ⟨[(0, .loc 100000 0), (3, .loc 3 0), (6, .loc 6 0), (7, .p .bool ((mget a1 a0).isSome : Bool))], [(3, .box [.p .str a1, .vec 100002 1 0 a3, .p I6 a4, .p .bool a5]), (6, .box [.p .str (((mget a1 a0).getD (T_env_Var.mk [] [] 0 false)).f_Name : List UInt8), .p (.list .str) (((mget a1 a0).getD (T_env_Var.mk [] [] 0 false)).f_Words : List (List UInt8)), .p I6 (((mget a1 a0).getD (T_env_Var.mk [] [] 0 false)).f_Level : Int), .p .bool (((mget a1 a0).getD (T_env_Var.mk [] [] 0 false)).f_Hidden : Bool)]), (100000, .box [.mp 100001]), (100001, .map (.named 5) a0), (100002, .row 9 .str a2 true)]⟩) [0, 3, 6, 7] [3, 6, 100000, 100001, 100002] [[], [0], [0, 1], [0, 1, 2], [], [4], [0, 1, 2, 3, 4, 5], [0, 1, 2, 3, 4, 5, 6], [0, 1, 2, 3, 4, 5, 6, 7], [0, 1, 2, 3, 4, 5, 6, 7], [], [0, 1, 2, 3, 4, 5, 6, 7, 8, 10], [0, 1, 2, 3, 4, 5, 6, 7, 8, 9, 10, 11]] mixed hN (.cons (mvU (v := .loc 100000 0) rfl rfl) (.cons (nlU (rs := [(14, .loc 100000 0)]) rfl rfl o0 rfl) (.cons (fdB (rs := [(15, .loc 100000 0)]) rfl rfl fd_91_0 (by decide) o0) (.cons (ldB (t := .bool) (rs := [(16, .loc 100000 0)]) [] [.mp 100001] [] (v := .mp 100001) rfl rfl ty1_89 o0 rfl rfl rfl rfl (.hand rfl rfl)) (.cons (fdB (rs := [(3, .loc 3 0)]) rfl rfl fd_60_0 (by decide) o0) (.cons (ldB (t := .str) (rs := [(18, .loc 3 0)]) [] [.p .str a1] [.vec 100002 1 0 a3, .p I6 a4, .p .bool a5] (v := .p .str a1) rfl rfl ty_9 o0 rfl rfl rfl rfl (.data (.one _ _))) (.cons (sok_lookup2 (U := Un) (t := .named 5) (kvs := a0) (rs := [(17, .mp 100001), (19, .p .str a1)]) rfl rfl map_89 zv_60 o0 o1) (.cons (mvU (v := .tup [.p (.named 5) (((mget a1 a0).getD (T_env_Var.mk [] [] 0 false)) : T_env_Var), .p .bool ((mget a1 a0).isSome : Bool)]) rfl rfl) (.cons (exU (rs := [(13, .tup [.p (.named 5) (((mget a1 a0).getD (T_env_Var.mk [] [] 0 false)) : T_env_Var), .p .bool ((mget a1 a0).isSome : Bool)])]) rfl rfl o0 rfl) (.cons (exU (rs := [(13, .tup [.p (.named 5) (((mget a1 a0).getD (T_env_Var.mk [] [] 0 false)) : T_env_Var), .p .bool ((mget a1 a0).isSome : Bool)])]) rfl rfl o0 rfl) (.cons (sok_allocZ (U := Un) (rs := []) (d := 6) (us := [.p .str ([] : List UInt8), .p (.list .str) ([] : List (List UInt8)), .p I6 (0 : Int), .p .bool false]) (v := (.agg #[.string ByteArray.empty, .slice none 0 0, .int .i64 0, .bool false])) rfl rfl rfl (by kernel_rfl) rfl (.data (fun _ _ _ => rd_str0) (.data (fun _ _ _ => .lnil _) (.data (fun _ _ _ => .int _ _) (.data (fun _ _ _ => .bool _) .nil)))) (by kernel_rfl)) (.cons (sok_storeB (U := Un) (rs := [(6, .loc 6 0), (21, .p (.named 5) (((mget a1 a0).getD (T_env_Var.mk [] [] 0 false)) : T_env_Var))]) (v := .p (.named 5) (((mget a1 a0).getD (T_env_Var.mk [] [] 0 false)) : T_env_Var)) (mid' := [.p .str (((mget a1 a0).getD (T_env_Var.mk [] [] 0 false)).f_Name : List UInt8), .p (.list .str) (((mget a1 a0).getD (T_env_Var.mk [] [] 0 false)).f_Words : List (List UInt8)), .p I6 (((mget a1 a0).getD (T_env_Var.mk [] [] 0 false)).f_Level : Int), .p .bool (((mget a1 a0).getD (T_env_Var.mk [] [] 0 false)).f_Hidden : Bool)]) [] [.p .str ([] : List UInt8), .p (.list .str) ([] : List (List UInt8)), .p I6 (0 : Int), .p .bool false] [] rfl rfl rfl ty_60 o0 o1 (.data (.named (us := ([.p .str (((mget a1 a0).getD (T_env_Var.mk [] [] 0 false)).f_Name : List UInt8), .p (.list .str) (((mget a1 a0).getD (T_env_Var.mk [] [] 0 false)).f_Words : List (List UInt8)), .p I6 (((mget a1 a0).getD (T_env_Var.mk [] [] 0 false)).f_Level : Int), .p .bool (((mget a1 a0).getD (T_env_Var.mk [] [] 0 false)).f_Hidden : Bool)] : List (AVal Un))) (.pair (.one _ _) (.pair (.one _ _) (.pair (.one _ _) (.pair (.one _ _) .unit)))))) rfl rfl rfl rfl rfl rfl) (.cons (mvA (v := .p .bool ((mget a1 a0).isSome : Bool)) rfl rfl) .nil))))))))))))) (by kernel_rfl) (by kernel_rfl) (by kernel_rfl) (by kernel_rfl) (by kernel_rfl) (cvR _) ?_
    refine tnU ?_
    refine sqJ (fun st' => env_Env_Set_m1.j5 k a0 a1 a2 a3 a4 a5 = some out ∧ st' = ⟨[(0, .loc 100000 0), (3, .loc 3 0)], [(3, .box [.p .str a1, .vec 100002 1 0 a3, .p I6 a4, .p .bool a5]), (100000, .box [.mp 100001]), (100001, .map (.named 5) a0), (100002, .row 9 .str a2 true)]⟩) ?_ ?_
    · refine WpC.block ?_
      refine sqJ (fun st' => ∃ v6 : Bool, env_Env_Set_m1.j12 k a0 a1 a2 a3 a4 a5 v6 = some out ∧ st' = ⟨[(0, .loc 100000 0), (3, .loc 3 0), (7, .p .bool ((mget a1 a0).isSome : Bool)), (23, .p .bool v6)], [(3, .box [.p .str a1, .vec 100002 1 0 a3, .p I6 a4, .p .bool a5]), (100000, .box [.mp 100001]), (100001, .map (.named 5) a0), (100002, .row 9 .str a2 true)]⟩) ?_ ?_
      · rcases bool_cases ((mget a1 a0).isSome) with hc13 | hc13
        · replace h := ite_t hc13 h
          refine rgU (st1 := ⟨[(0, .loc 100000 0), (3, .loc 3 0), (7, .p .bool ((mget a1 a0).isSome : Bool)), (23, .p .bool ((decide (((mget a1 a0).getD (T_env_Var.mk [] [] 0 false)).f_Level > a4)) : Bool))], [(3, .box [.p .str a1, .vec 100002 1 0 a3, .p I6 a4, .p .bool a5]), (100000, .box [.mp 100001]), (100001, .map (.named 5) a0), (100002, .row 9 .str a2 true)]⟩) [0, 3, 7, 23] [3, 100000, 100001, 100002] hN (.cons (mvU (v := .p .bool ((mget a1 a0).isSome : Bool)) rfl rfl) (.cons (mvU (v := .p .bool ((mget a1 a0).isSome : Bool)) rfl rfl) (.cons (sok_run rfl rfl hc13 (fdB (rs := [(6, .loc 6 0)]) rfl rfl fd_60_2 (by decide) o0)) (.cons (sok_run rfl rfl hc13 (ldB (t := .int .i64) (rs := [(26, .loc 6 2)]) [.p .str (((mget a1 a0).getD (T_env_Var.mk [] [] 0 false)).f_Name : List UInt8), .p (.list .str) (((mget a1 a0).getD (T_env_Var.mk [] [] 0 false)).f_Words : List (List UInt8))] [.p I6 (((mget a1 a0).getD (T_env_Var.mk [] [] 0 false)).f_Level : Int)] [.p .bool (((mget a1 a0).getD (T_env_Var.mk [] [] 0 false)).f_Hidden : Bool)] (v := .p I6 (((mget a1 a0).getD (T_env_Var.mk [] [] 0 false)).f_Level : Int)) rfl rfl ty_3 o0 rfl rfl rfl rfl (.data (.one _ _)))) (.cons (sok_run rfl rfl hc13 (fdB (rs := [(3, .loc 3 0)]) rfl rfl fd_60_2 (by decide) o0)) (.cons (sok_run rfl rfl hc13 (ldB (t := .int .i64) (rs := [(28, .loc 3 2)]) [.p .str a1, .vec 100002 1 0 a3] [.p I6 a4] [.p .bool a5] (v := .p I6 a4) rfl rfl ty_3 o0 rfl rfl rfl rfl (.data (.one _ _)))) (.cons (sok_run rfl rfl hc13 (cmU (rs := [(27, .p I6 (((mget a1 a0).getD (T_env_Var.mk [] [] 0 false)).f_Level : Int)), (29, .p I6 a4)]) rfl rfl o0 o1 rfl)) (.cons (pkT (rs := [(25, .p .bool ((mget a1 a0).isSome : Bool)), (30, .p .bool ((decide (((mget a1 a0).getD (T_env_Var.mk [] [] 0 false)).f_Level > a4)) : Bool))]) rfl rfl o0 hc13 o1) (.cons (mvA (v := .p .bool ((decide (((mget a1 a0).getD (T_env_Var.mk [] [] 0 false)).f_Level > a4)) : Bool)) rfl rfl) .nil))))))))) (by kernel_rfl) (by kernel_rfl) (by kernel_rfl) (cvR _) ?_
          refine tnU ?_
          exact ⟨(decide (((mget a1 a0).getD (T_env_Var.mk [] [] 0 false)).f_Level > a4)), h, rfl⟩
        · replace h := ite_f hc13 h
          refine rgU (st1 := ⟨[(0, .loc 100000 0), (3, .loc 3 0), (7, .p .bool ((mget a1 a0).isSome : Bool)), (23, .p .bool false)], [(3, .box [.p .str a1, .vec 100002 1 0 a3, .p I6 a4, .p .bool a5]), (100000, .box [.mp 100001]), (100001, .map (.named 5) a0), (100002, .row 9 .str a2 true)]⟩) [0, 3, 7, 23] [3, 100000, 100001, 100002] hN (.cons (mvU (v := .p .bool ((mget a1 a0).isSome : Bool)) rfl rfl) (.cons (mvU (v := .p .bool ((mget a1 a0).isSome : Bool)) rfl rfl) (.cons (skU rfl rfl hc13) (.cons (skU rfl rfl hc13) (.cons (skU rfl rfl hc13) (.cons (skU rfl rfl hc13) (.cons (skU rfl rfl hc13) (.cons (pkF (rs := [(25, .p .bool ((mget a1 a0).isSome : Bool))]) rfl rfl o0 hc13 (.bool _ _)) (.cons (mvA (v := .p .bool false) rfl rfl) .nil))))))))) (by kernel_rfl) (by kernel_rfl) (by kernel_rfl) (cvR _) ?_
          refine tnU ?_
          exact ⟨false, h, rfl⟩
      · rintro _ ⟨v6, h, rfl⟩
        unfold env_Env_Set_m1.j12 at h
        refine cdU (b := v6) (.tmp (.tail _ (.tail _ (.tail _ (.head _))))) (fun hc7 => ?_) (fun hc7 => ?_)
        · replace h := ite_t hc7 h
          refine WpC.seq ?_
          refine rgU (st1 := ⟨[(4, .lit .nilIface)], [(100000, .box [.mp 100001]), (100001, .map (.named 5) a0), (100002, .row 9 .str a2 true)]⟩) [4] [100000, 100001, 100002] hN (.cons (moU (rs := []) rfl (.inr rfl) (.lit _ _ rfl)) .nil) (by kernel_rfl) (by kernel_rfl) (by kernel_rfl) (cvR _) ?_
          refine tnU ?_
          refine WpC.conv (cvT (Conv.nilE (U := Un) 4 (.head _)) (cvK (b := ⟨[(4, .p .err (0 : Nat))], [(100000, .box [.mp 100001]), (100001, .map (.named 5) a0), (100002, .row 9 .str a2 true)]⟩) [4] [100000, 100001, 100002] (by kernel_rfl))) (WpC.ret ?_)
          refine blockQ_ret ?_
          refine thenQ_ret ?_
          have hq := Option.some.inj h
          subst hq
          exact ends_ret (retV_1 rfl (.head _)) (ain_cons (.head _) (ain_cons (.tail _ (.head _)) (ain_cons (.tail _ (.tail _ (.head _))) ain_nil)))
        · replace h := ite_f hc7 h
          refine sqJ (fun st' => ∃ v8 : Bool, env_Env_Set_m1.j10 k a0 a1 a2 a3 a4 a5 v8 = some out ∧ st' = ⟨[(0, .loc 100000 0), (3, .loc 3 0), (32, .p .bool v8)], [(3, .box [.p .str a1, .vec 100002 1 0 a3, .p I6 a4, .p .bool a5]), (100000, .box [.mp 100001]), (100001, .map (.named 5) a0), (100002, .row 9 .str a2 true)]⟩) ?_ ?_
          · rcases bool_cases (!((mget a1 a0).isSome)) with hc11 | hc11
            · replace h := ite_t hc11 h
              refine rgU (st1 := ⟨[(0, .loc 100000 0), (3, .loc 3 0), (32, .p .bool ((decide ((a0.length : Int) ≥ 24)) : Bool))], [(3, .box [.p .str a1, .vec 100002 1 0 a3, .p I6 a4, .p .bool a5]), (100000, .box [.mp 100001]), (100001, .map (.named 5) a0), (100002, .row 9 .str a2 true)]⟩) [0, 3, 32] [3, 100000, 100001, 100002] hN (.cons (mvU (v := .p .bool ((mget a1 a0).isSome : Bool)) rfl rfl) (.cons (sok_not (U := Un) (rs := [(33, .p .bool ((mget a1 a0).isSome : Bool))]) rfl rfl o0) (.cons (mvU (v := .p .bool ((!((mget a1 a0).isSome)) : Bool)) rfl rfl) (.cons (sok_run rfl rfl hc11 (mvU (v := .loc 100000 0) rfl rfl)) (.cons (sok_run rfl rfl hc11 (nlU (rs := [(36, .loc 100000 0)]) rfl rfl o0 rfl)) (.cons (sok_run rfl rfl hc11 (fdB (rs := [(37, .loc 100000 0)]) rfl rfl fd_91_0 (by decide) o0)) (.cons (sok_run rfl rfl hc11 (ldB (t := .bool) (rs := [(38, .loc 100000 0)]) [] [.mp 100001] [] (v := .mp 100001) rfl rfl ty1_89 o0 rfl rfl rfl rfl (.hand rfl rfl))) (.cons (sok_run rfl rfl hc11 (sok_lenM (U := Un) (t := .named 5) (kvs := a0) (rs := [(39, .mp 100001)]) rfl rfl map_89 o0)) (.cons (sok_run rfl rfl hc11 (cmU (rs := [(40, .p I6 ((a0.length : Int) : Int))]) rfl rfl o0 (.int _ _ _) rfl)) (.cons (pkT (rs := [(35, .p .bool ((!((mget a1 a0).isSome)) : Bool)), (41, .p .bool ((decide ((a0.length : Int) ≥ 24)) : Bool))]) rfl rfl o0 hc11 o1) (.cons (mvA (v := .p .bool ((decide ((a0.length : Int) ≥ 24)) : Bool)) rfl rfl) .nil))))))))))) (by kernel_rfl) (by kernel_rfl) (by kernel_rfl) (cvR _) ?_
              refine tnU ?_
              exact ⟨(decide ((a0.length : Int) ≥ 24)), h, rfl⟩
            · replace h := ite_f hc11 h
              refine rgU (st1 := ⟨[(0, .loc 100000 0), (3, .loc 3 0), (32, .p .bool false)], [(3, .box [.p .str a1, .vec 100002 1 0 a3, .p I6 a4, .p .bool a5]), (100000, .box [.mp 100001]), (100001, .map (.named 5) a0), (100002, .row 9 .str a2 true)]⟩) [0, 3, 32] [3, 100000, 100001, 100002] hN (.cons (mvU (v := .p .bool ((mget a1 a0).isSome : Bool)) rfl rfl) (.cons (sok_not (U := Un) (rs := [(33, .p .bool ((mget a1 a0).isSome : Bool))]) rfl rfl o0) (.cons (mvU (v := .p .bool ((!((mget a1 a0).isSome)) : Bool)) rfl rfl) (.cons (skU rfl rfl hc11) (.cons (skU rfl rfl hc11) (.cons (skU rfl rfl hc11) (.cons (skU rfl rfl hc11) (.cons (skU rfl rfl hc11) (.cons (skU rfl rfl hc11) (.cons (pkF (rs := [(35, .p .bool ((!((mget a1 a0).isSome)) : Bool))]) rfl rfl o0 hc11 (.bool _ _)) (.cons (mvA (v := .p .bool false) rfl rfl) .nil))))))))))) (by kernel_rfl) (by kernel_rfl) (by kernel_rfl) (cvR _) ?_
              refine tnU ?_
              exact ⟨false, h, rfl⟩
          · rintro _ ⟨v8, h, rfl⟩
            unfold env_Env_Set_m1.j10 at h
            refine cdU (b := v8) (.tmp (.tail _ (.tail _ (.head _)))) (fun hc9 => ?_) (fun hc9 => ?_)
            · replace h := ite_t hc9 h
              refine WpC.seq ?_
              refine rgU (st1 := ⟨[(4, .p .err (10 : Nat))], [(100000, .box [.mp 100001]), (100001, .map (.named 5) a0), (100002, .row 9 .str a2 true)]⟩) [4] [100000, 100001, 100002] hN (.cons (sok_loadG (U := Un) (t := .err) (rs := []) rfl rfl ty_27 rfl rfl (hO.var 9 3 rfl) (fun S w => .err 9)) (.cons (mvA (v := .p .err (10 : Nat)) rfl rfl) .nil)) (by kernel_rfl) (by kernel_rfl) (by kernel_rfl) (cvR _) ?_
              refine tnU ?_
              refine WpC.ret ?_
              refine blockQ_ret ?_
              refine thenQ_ret ?_
              have hq := Option.some.inj h
              subst hq
              exact ends_ret (retV_1 rfl (.head _)) (ain_cons (.head _) (ain_cons (.tail _ (.head _)) (ain_cons (.tail _ (.tail _ (.head _))) ain_nil)))
            · replace h := ite_f hc9 h
              refine WpC.conv (cvK (b := ⟨[(0, .loc 100000 0), (3, .loc 3 0)], [(3, .box [.p .str a1, .vec 100002 1 0 a3, .p I6 a4, .p .bool a5]), (100000, .box [.mp 100001]), (100001, .map (.named 5) a0), (100002, .row 9 .str a2 true)]⟩) [0, 3] [3, 100000, 100001, 100002] (by kernel_rfl)) (WpC.skip ?_)
              refine blockQ_normal ?_
              refine tnU ?_
              exact ⟨h, rfl⟩
    · rintro _ ⟨h, rfl⟩
      unfold env_Env_Set_m1.j5 at h
      refine WpC.seq ?_
      obtain ⟨v4, hv4, h⟩ := bind_some h
      refine WpC.regA (U := Un) (st1 := ⟨[], [(100000, .box [.mp 100001]), (100001, .map (.named 5) ((mput a1 v4 a0) : List ((List UInt8) × T_env_Var))), (100002, .row 9 .str a2 true)]⟩) [] [100000, 100001, 100002] [[], [0], [0, 1], [0, 1, 2], [], [4], [], [6], [0, 1, 2, 3, 4, 5, 6, 7]] mixed hN (.cons (mvU (v := .loc 100000 0) rfl rfl) (.cons (nlU (rs := [(44, .loc 100000 0)]) rfl rfl o0 rfl) (.cons (fdB (rs := [(45, .loc 100000 0)]) rfl rfl fd_91_0 (by decide) o0) (.cons (ldB (t := .bool) (rs := [(46, .loc 100000 0)]) [] [.mp 100001] [] (v := .mp 100001) rfl rfl ty1_89 o0 rfl rfl rfl rfl (.hand rfl rfl)) (.cons (fdB (rs := [(3, .loc 3 0)]) rfl rfl fd_60_0 (by decide) o0) (.cons (ldB (t := .str) (rs := [(48, .loc 3 0)]) [] [.p .str a1] [.vec 100002 1 0 a3, .p I6 a4, .p .bool a5] (v := .p .str a1) rfl rfl ty_9 o0 rfl rfl rfl rfl (.data (.one _ _))) (.cons (ldB (t := .named 5) (rs := [(3, .loc 3 0)]) [] [.p .str a1, .vec 100002 1 0 a3, .p I6 a4, .p .bool a5] [] (v := .agg [.p .str a1, .vec 100002 1 0 a3, .p I6 a4, .p .bool a5]) rfl rfl ty_60 o0 rfl rfl rfl rfl (.agg rfl)) (.cons (caV (rs := [(50, .agg [.p .str a1, .vec 100002 1 0 a3, .p I6 a4, .p .bool a5])]) (vw := []) rfl rfl (.func _) hb_51 (COk.ren (env_Var_apart_m1.ok O hO k a1 a2 a3 a4 a5 v4 hv4) (fun n => if n = 100000 then 100002 else n) (injOn_of (by kernel_rfl))) (.cons o0 .nil) (.cons (.same _) .nil) (by simp) (.inl rfl)) (.cons (sok_mapUpdate (U := Un) (t := .named 5) (kvs := a0) (rs := [(47, .mp 100001), (49, .p .str a1), (51, .p (.named 5) v4)]) rfl rfl rfl map_89 o0 o1 (.tmp (.tail _ (.tail _ (.head _))))) .nil))))))))) (by kernel_rfl) (by kernel_rfl) (by kernel_rfl) (by kernel_rfl) (by kernel_rfl) (cvR _) ?_
      refine tnU ?_
      refine WpC.seq ?_
      refine rgU (st1 := ⟨[(4, .lit .nilIface)], [(100000, .box [.mp 100001]), (100001, .map (.named 5) ((mput a1 v4 a0) : List ((List UInt8) × T_env_Var))), (100002, .row 9 .str a2 true)]⟩) [4] [100000, 100001, 100002] hN (.cons (moU (rs := []) rfl (.inr rfl) (.lit _ _ rfl)) .nil) (by kernel_rfl) (by kernel_rfl) (by kernel_rfl) (cvR _) ?_
      refine tnU ?_
      refine WpC.conv (cvT (Conv.nilE (U := Un) 4 (.head _)) (cvK (b := ⟨[(4, .p .err (0 : Nat))], [(100000, .box [.mp 100001]), (100001, .map (.named 5) ((mput a1 v4 a0) : List ((List UInt8) × T_env_Var))), (100002, .row 9 .str a2 true)]⟩) [4] [100000, 100001, 100002] (by kernel_rfl))) (WpC.ret ?_)
      have hq := Option.some.inj h
      subst hq
      exact ends_ret (retV_1 rfl (.head _)) (ain_cons (.head _) (ain_cons (.tail _ (.head _)) (ain_cons (.tail _ (.tail _ (.head _))) ain_nil)))

theorem millwrightref14_Env_At_m0.ok (O : Out) (hO : GOk O) (k : Nat) (a0 : List T_env_Var) (a1 : List UInt8) (out : Int) (h : millwrightref14_Env_At_m0.f k a0 a1 = some out) : COk Un O Tryd.prog 36 { ar := [.loc 100000 0, .p .str a1], r := .p I6 out, bs := [(100000, .box [.p (.list (.named 5)) a0])], bs' := [(100000, .box [.p (.list (.named 5)) a0])] } := by
  refine cok_of_wp Tryd.func36 rfl (k := 23) rfl (Nat.le_of_ble_eq_true rfl) (namesOk_of (by kernel_rfl)) ?_
  intro B hN
  refine WpC.conv (cvK (b := ⟨[(0, .loc 100000 0), (1, .p .str a1)], [(100000, .box [.p (.list (.named 5)) a0])]⟩) [0, 1] [100000] (by kernel_rfl)) ?_
  unfold millwrightref14_Env_At_m0.f at h
  refine WpC.seq ?_
  refine rgU (st1 := ⟨[(0, .loc 100000 0), (1, .p .str a1)], [(100000, .box [.p (.list (.named 5)) a0])]⟩) [0, 1] [100000] hN (.cons (moU (rs := []) rfl (.inr rfl) (.int _ _ _)) .nil) (by kernel_rfl) (by kernel_rfl) (by kernel_rfl) (cvR _) ?_
  refine tnU ?_
  refine sqJ (fun st' => millwrightref14_Env_At_m0.j1 k a0 = some out ∧ st' = ⟨[], [(100000, .box [.p (.list (.named 5)) a0])]⟩) ?_ ?_
  · refine WpC.seq ?_
    refine rgU (st1 := ⟨[(1, .p .str a1), (10, .p (.list (.named 5)) a0), (11, .p I6 ((a0.length : Int) : Int)), (12, .p I6 (0 : Int))], [(100000, .box [.p (.list (.named 5)) a0])]⟩) [1, 10, 11, 12] [100000] hN (.cons (mvU (v := .loc 100000 0) rfl rfl) (.cons (nlU (rs := [(7, .loc 100000 0)]) rfl rfl o0 rfl) (.cons (fdB (rs := [(8, .loc 100000 0)]) rfl rfl fd_58_0 (by decide) o0) (.cons (ldB (t := .list (.named 5)) (rs := [(9, .loc 100000 0)]) [] [.p (.list (.named 5)) a0] [] (v := .p (.list (.named 5)) a0) rfl rfl ty_56 o0 rfl rfl rfl rfl (.data (.one _ _))) (.cons (sok_lenL (U := Un) (rs := [(10, .p (.list (.named 5)) a0)]) rfl rfl Tryd.underlying56 o0) (.cons (moU (rs := []) rfl (.inl rfl) (.int _ _ _)) .nil)))))) (by kernel_rfl) (by kernel_rfl) (by kernel_rfl) (cvR _) ?_
    refine tnU ?_
    refine WpC.block ?_
    obtain ⟨o4, hlo4, h⟩ := bind_some h
    have hout5 := h
    clear h
    refine WpC.loop (U := Un) (fun n st' => ∃ v2 : Int, millwrightref14_Env_At_m0.l3 k a0 a1 n v2 = some o4 ∧ st' = ⟨[(1, .p .str a1), (10, .p (.list (.named 5)) a0), (11, .p I6 ((a0.length : Int) : Int)), (12, .p I6 v2)], [(100000, .box [.p (.list (.named 5)) a0])]⟩) k ⟨0, hlo4, rfl⟩ ?_
    clear hlo4
    rintro (_ | n) _ ⟨v2, h, rfl⟩
    · cases h
    · rw [millwrightref14_Env_At_m0.l3] at h
      refine WpC.seq ?_
      refine rgU (st1 := ⟨[(1, .p .str a1), (10, .p (.list (.named 5)) a0), (11, .p I6 ((a0.length : Int) : Int)), (12, .p I6 v2), (13, .p .bool ((decide (v2 < (a0.length : Int))) : Bool))], [(100000, .box [.p (.list (.named 5)) a0])]⟩) [1, 10, 11, 12, 13] [100000] hN (.cons (cmU (rs := [(12, .p I6 v2), (11, .p I6 ((a0.length : Int) : Int))]) rfl rfl o0 o1 rfl) .nil) (by kernel_rfl) (by kernel_rfl) (by kernel_rfl) (cvR _) ?_
      refine tnU ?_
      refine WpC.seq ?_
      refine cdU (b := (decide (v2 < (a0.length : Int)))) (.tmp (.tail _ (.tail _ (.tail _ (.tail _ (.head _)))))) (fun hc6 => ?_) (fun hc6 => ?_)
      · replace h := ite_t hc6 h
        refine WpC.conv (cvK (b := ⟨[(1, .p .str a1), (10, .p (.list (.named 5)) a0), (11, .p I6 ((a0.length : Int) : Int)), (12, .p I6 v2)], [(100000, .box [.p (.list (.named 5)) a0])]⟩) [1, 10, 11, 12] [100000] (by kernel_rfl)) (WpC.skip ?_)
        refine tnU ?_
        refine WpC.seq ?_
        refine WpC.block ?_
        refine WpC.seq ?_
        obtain ⟨v7, hv7, h⟩ := bind_some h
        refine rgU (st1 := ⟨[(1, .p .str a1), (5, .p I6 v2), (6, .loc 6 0), (10, .p (.list (.named 5)) a0), (11, .p I6 ((a0.length : Int) : Int)), (12, .p I6 v2)], [(6, .box [.p .str v7.f_Name, .p (.list .str) v7.f_Words, .p I6 v7.f_Level, .p .bool v7.f_Hidden]), (100000, .box [.p (.list (.named 5)) a0])]⟩) [1, 5, 6, 10, 11, 12] [6, 100000] hN (.cons (mvU (v := .p I6 v2) rfl rfl) (.cons (sok_indexL (U := Un) (rs := [(10, .p (.list (.named 5)) a0), (12, .p I6 v2)]) rfl rfl sl_56 o0 o1 hv7) (.cons (sok_loadP (U := Un) (rs := [(15, .pp (.named 5) v7)]) rfl rfl ty_66 o0) (.cons (sok_allocZ (U := Un) (rs := []) (d := 6) (us := [.p .str ([] : List UInt8), .p (.list .str) ([] : List (List UInt8)), .p I6 (0 : Int), .p .bool false]) (v := (.agg #[.string ByteArray.empty, .slice none 0 0, .int .i64 0, .bool false])) rfl rfl rfl (by kernel_rfl) rfl (.data (fun _ _ _ => rd_str0) (.data (fun _ _ _ => .lnil _) (.data (fun _ _ _ => .int _ _) (.data (fun _ _ _ => .bool _) .nil)))) (by kernel_rfl)) (.cons (mvA (v := .p I6 v2) rfl rfl) (.cons (sok_storeB (U := Un) (rs := [(6, .loc 6 0), (16, .p (.named 5) v7)]) (v := .p (.named 5) v7) (mid' := [.p .str v7.f_Name, .p (.list .str) v7.f_Words, .p I6 v7.f_Level, .p .bool v7.f_Hidden]) [] [.p .str ([] : List UInt8), .p (.list .str) ([] : List (List UInt8)), .p I6 (0 : Int), .p .bool false] [] rfl rfl rfl ty_66 o0 o1 (.data (.named (us := ([.p .str v7.f_Name, .p (.list .str) v7.f_Words, .p I6 v7.f_Level, .p .bool v7.f_Hidden] : List (AVal Un))) (.pair (.one _ _) (.pair (.one _ _) (.pair (.one _ _) (.pair (.one _ _) .unit)))))) rfl rfl rfl rfl rfl rfl) .nil)))))) (by kernel_rfl) (by kernel_rfl) (by kernel_rfl) (cvR _) ?_
        refine tnU ?_
        refine WpC.seq ?_
        refine rgU (st1 := ⟨[(1, .p .str a1), (5, .p I6 v2), (10, .p (.list (.named 5)) a0), (11, .p I6 ((a0.length : Int) : Int)), (12, .p I6 v2), (20, .p .bool ((v7.f_Name == a1) : Bool))], [(100000, .box [.p (.list (.named 5)) a0])]⟩) [1, 5, 10, 11, 12, 20] [100000] hN (.cons (fdB (rs := [(6, .loc 6 0)]) rfl rfl fd_66_0 (by decide) o0) (.cons (ldB (t := .str) (rs := [(17, .loc 6 0)]) [] [.p .str v7.f_Name] [.p (.list .str) v7.f_Words, .p I6 v7.f_Level, .p .bool v7.f_Hidden] (v := .p .str v7.f_Name) rfl rfl ty_9 o0 rfl rfl rfl rfl (.data (.one _ _))) (.cons (mvU (v := .p .str a1) rfl rfl) (.cons (sok_cmpS (U := Un) (rs := [(18, .p .str v7.f_Name), (19, .p .str a1)]) rfl rfl o0 o1 rfl) .nil)))) (by kernel_rfl) (by kernel_rfl) (by kernel_rfl) (cvR _) ?_
        refine tnU ?_
        refine cdU (b := (v7.f_Name == a1)) (.tmp (.tail _ (.tail _ (.tail _ (.tail _ (.tail _ (.head _))))))) (fun hc8 => ?_) (fun hc8 => ?_)
        · replace h := ite_t hc8 h
          refine WpC.seq ?_
          refine rgU (st1 := ⟨[(4, .p I6 v2)], [(100000, .box [.p (.list (.named 5)) a0])]⟩) [4] [100000] hN (.cons (mvU (v := .p I6 v2) rfl rfl) (.cons (mvA (v := .p I6 v2) rfl rfl) .nil)) (by kernel_rfl) (by kernel_rfl) (by kernel_rfl) (cvR _) ?_
          refine tnU ?_
          refine WpC.ret ?_
          refine blockQ_ret ?_
          refine thenQ_ret ?_
          have hq := Option.some.inj h
          subst hq
          refine thenQ_ret ?_
          have h := hout5
          refine blockQ_ret ?_
          refine thenQ_ret ?_
          have hq := Option.some.inj h
          subst hq
          exact ends_ret (retV_1 rfl (.head _)) (ain_cons (.head _) ain_nil)
        · replace h := ite_f hc8 h
          refine WpC.conv (cvK (b := ⟨[(1, .p .str a1), (10, .p (.list (.named 5)) a0), (11, .p I6 ((a0.length : Int) : Int)), (12, .p I6 v2)], [(100000, .box [.p (.list (.named 5)) a0])]⟩) [1, 10, 11, 12] [100000] (by kernel_rfl)) (WpC.skip ?_)
          refine blockQ_normal ?_
          refine tnU ?_
          refine rgU (st1 := ⟨[(1, .p .str a1), (10, .p (.list (.named 5)) a0), (11, .p I6 ((a0.length : Int) : Int)), (12, .p I6 ((IntKind.i64.wrap (v2 + 1)) : Int))], [(100000, .box [.p (.list (.named 5)) a0])]⟩) [1, 10, 11, 12] [100000] hN (.cons (sok_arith (U := Un) (rs := [(12, .p I6 v2)]) rfl rfl o0 (.int _ _ _) rfl) (.cons (mvU (v := .p I6 ((IntKind.i64.wrap (v2 + 1)) : Int)) rfl rfl) .nil)) (by kernel_rfl) (by kernel_rfl) (by kernel_rfl) (cvR _) ?_
          refine tnU ?_
          exact ⟨n, Nat.lt_succ_self n, (IntKind.i64.wrap (v2 + 1)), h, rfl⟩
      · replace h := ite_f hc6 h
        refine WpC.conv (cvK (b := ⟨[], [(100000, .box [.p (.list (.named 5)) a0])]⟩) [] [100000] (by kernel_rfl)) (WpC.exit ?_)
        refine thenQ_exit ?_
        have hq := Option.some.inj h
        subst hq
        refine thenQ_exit ?_
        have h := hout5
        refine blockQ_hit ?_
        refine tnU ?_
        exact ⟨h, rfl⟩
  · rintro _ ⟨h, rfl⟩
    unfold millwrightref14_Env_At_m0.j1 at h
    refine WpC.seq ?_
    refine rgU (st1 := ⟨[(4, .p I6 ((-1) : Int))], [(100000, .box [.p (.list (.named 5)) a0])]⟩) [4] [100000] hN (.cons (moU (rs := []) rfl (.inr rfl) (.int _ _ _)) .nil) (by kernel_rfl) (by kernel_rfl) (by kernel_rfl) (cvR _) ?_
    refine tnU ?_
    refine WpC.ret ?_
    have hq := Option.some.inj h
    subst hq
    exact ends_ret (retV_1 rfl (.head _)) (ain_cons (.head _) ain_nil)

theorem millwrightref14_Env_Set_m0.ok (O : Out) (hO : GOk O) (k : Nat) (a0 : List T_env_Var) (a1 : T_env_Var) (out : Int × (List T_env_Var)) (h : millwrightref14_Env_Set_m0.f k a0 a1 = some out) : COk Un O Tryd.prog 32 { ar := [.loc 100000 0, .p (.named 5) a1], r := .p I6 out.1, bs := [(100000, .box [.p (.list (.named 5)) a0])], bs' := [(100000, .box [.p (.list (.named 5)) out.2])] } := by
  refine cok_of_wp Tryd.func32 rfl (k := 93) rfl (Nat.le_of_ble_eq_true rfl) (namesOk_of (by kernel_rfl)) ?_
  intro B hN
  refine WpC.conv (cvK (b := ⟨[(0, .loc 100000 0), (1, .p (.named 5) a1)], [(100000, .box [.p (.list (.named 5)) a0])]⟩) [0, 1] [100000] (by kernel_rfl)) ?_
  unfold millwrightref14_Env_Set_m0.f at h
  refine WpC.seq ?_
  refine rgU (st1 := ⟨[(0, .loc 100000 0), (3, .loc 3 0)], [(3, .box [.p .str a1.f_Name, .p (.list .str) a1.f_Words, .p I6 a1.f_Level, .p .bool a1.f_Hidden]), (100000, .box [.p (.list (.named 5)) a0])]⟩) [0, 3] [3, 100000] hN (.cons (sok_box (U := Un) (rs := [(1, .p (.named 5) a1)]) (d := 3) (us := [.p .str a1.f_Name, .p (.list .str) a1.f_Words, .p I6 a1.f_Level, .p .bool a1.f_Hidden]) rfl rfl rfl o0 (.data (.named (us := ([.p .str a1.f_Name, .p (.list .str) a1.f_Words, .p I6 a1.f_Level, .p .bool a1.f_Hidden] : List (AVal Un))) (.pair (.one _ _) (.pair (.one _ _) (.pair (.one _ _) (.pair (.one _ _) .unit)))))) rfl (notin_of (by kernel_rfl))) (.cons (moU (rs := []) rfl (.inr rfl) (.int _ _ _)) .nil)) (by kernel_rfl) (by kernel_rfl) (by kernel_rfl) (cvR _) ?_
  refine tnU ?_
  refine WpC.seq ?_
  refine WpC.seq ?_
  obtain ⟨v1, hv1, h⟩ := bind_some h
  refine rgU (st1 := ⟨[(0, .loc 100000 0), (3, .loc 3 0), (5, .p I6 v1)], [(3, .box [.p .str a1.f_Name, .p (.list .str) a1.f_Words, .p I6 a1.f_Level, .p .bool a1.f_Hidden]), (100000, .box [.p (.list (.named 5)) a0])]⟩) [0, 3, 5] [3, 100000] hN (.cons (ldB (t := .named 5) (rs := [(3, .loc 3 0)]) [] [.p .str a1.f_Name, .p (.list .str) a1.f_Words, .p I6 a1.f_Level, .p .bool a1.f_Hidden] [] (v := .p (.named 5) ((T_env_Var.mk a1.f_Name a1.f_Words a1.f_Level a1.f_Hidden) : T_env_Var)) rfl rfl ty_66 o0 rfl rfl rfl rfl (.data (.named (us := ([.p .str a1.f_Name, .p (.list .str) a1.f_Words, .p I6 a1.f_Level, .p .bool a1.f_Hidden] : List (AVal Un))) (.pair (.one _ _) (.pair (.one _ _) (.pair (.one _ _) (.pair (.one _ _) .unit))))))) (.cons (caV (rs := [(12, .p (.named 5) ((T_env_Var.mk a1.f_Name a1.f_Words a1.f_Level a1.f_Hidden) : T_env_Var))]) (vw := []) rfl rfl (.func _) hb_30 (millwrightref14_Check.ok O hO k (T_env_Var.mk a1.f_Name a1.f_Words a1.f_Level a1.f_Hidden) v1 hv1) (.cons o0 .nil) (.cons (.same _) .nil) (by simp) (.inl rfl)) (.cons (mvA (v := .p I6 v1) rfl rfl) .nil))) (by kernel_rfl) (by kernel_rfl) (by kernel_rfl) (cvR _) ?_
  refine tnU ?_
  refine WpC.seq ?_
  refine rgU (st1 := ⟨[(0, .loc 100000 0), (3, .loc 3 0), (5, .p I6 v1), (15, .p .bool ((v1 != 0) : Bool))], [(3, .box [.p .str a1.f_Name, .p (.list .str) a1.f_Words, .p I6 a1.f_Level, .p .bool a1.f_Hidden]), (100000, .box [.p (.list (.named 5)) a0])]⟩) [0, 3, 5, 15] [3, 100000] hN (.cons (mvU (v := .p I6 v1) rfl rfl) (.cons (cmU (rs := [(14, .p I6 v1)]) rfl rfl o0 (.int _ _ _) rfl) .nil)) (by kernel_rfl) (by kernel_rfl) (by kernel_rfl) (cvR _) ?_
  refine tnU ?_
  refine cdU (b := (v1 != 0)) (.tmp (.tail _ (.tail _ (.tail _ (.head _))))) (fun hc2 => ?_) (fun hc2 => ?_)
  · replace h := ite_t hc2 h
    refine WpC.seq ?_
    refine rgU (st1 := ⟨[(4, .p I6 v1)], [(100000, .box [.p (.list (.named 5)) a0])]⟩) [4] [100000] hN (.cons (mvU (v := .p I6 v1) rfl rfl) (.cons (mvA (v := .p I6 v1) rfl rfl) .nil)) (by kernel_rfl) (by kernel_rfl) (by kernel_rfl) (cvR _) ?_
    refine tnU ?_
    refine WpC.ret ?_
    refine thenQ_ret ?_
    have hq := Option.some.inj h
    subst hq
    exact ends_ret (retV_1 rfl (.head _)) (ain_cons (.head _) ain_nil)
  · replace h := ite_f hc2 h
    refine WpC.conv (cvK (b := ⟨[(0, .loc 100000 0), (3, .loc 3 0)], [(3, .box [.p .str a1.f_Name, .p (.list .str) a1.f_Words, .p I6 a1.f_Level, .p .bool a1.f_Hidden]), (100000, .box [.p (.list (.named 5)) a0])]⟩) [0, 3] [3, 100000] (by kernel_rfl)) (WpC.skip ?_)
    refine tnU ?_
    refine WpC.seq ?_
    obtain ⟨v3, hv3, h⟩ := bind_some h
    refine rgU (st1 := ⟨[(0, .loc 100000 0), (3, .loc 3 0), (6, .p I6 v3)], [(3, .box [.p .str a1.f_Name, .p (.list .str) a1.f_Words, .p I6 a1.f_Level, .p .bool a1.f_Hidden]), (100000, .box [.p (.list (.named 5)) a0])]⟩) [0, 3, 6] [3, 100000] hN (.cons (mvU (v := .loc 100000 0) rfl rfl) (.cons (fdB (rs := [(3, .loc 3 0)]) rfl rfl fd_66_0 (by decide) o0) (.cons (ldB (t := .str) (rs := [(18, .loc 3 0)]) [] [.p .str a1.f_Name] [.p (.list .str) a1.f_Words, .p I6 a1.f_Level, .p .bool a1.f_Hidden] (v := .p .str a1.f_Name) rfl rfl ty_9 o0 rfl rfl rfl rfl (.data (.one _ _))) (.cons (caV (rs := [(17, .loc 100000 0), (19, .p .str a1.f_Name)]) (vw := []) rfl rfl (.func _) hb_36 (COk.ren (millwrightref14_Env_At_m0.ok O hO k a0 a1.f_Name v3 hv3) (fun n => if n = 100000 then 100000 else n) (injOn_of (by kernel_rfl))) (.cons o0 (.cons o1 .nil)) (.cons (.same _) (.cons (.same _) .nil)) (by simp) (.inl rfl)) (.cons (mvA (v := .p I6 v3) rfl rfl) .nil))))) (by kernel_rfl) (by kernel_rfl) (by kernel_rfl) (cvR _) ?_
    refine tnU ?_
    refine sqJ (fun st' => millwrightref14_Env_Set_m0.j40 k a0 a1 v3 = some out ∧ st' = ⟨[(0, .loc 100000 0), (3, .loc 3 0), (6, .p I6 v3)], [(3, .box [.p .str a1.f_Name, .p (.list .str) a1.f_Words, .p I6 a1.f_Level, .p .bool a1.f_Hidden]), (100000, .box [.p (.list (.named 5)) a0])]⟩) ?_ ?_
    · refine sqJ (fun st' => ∃ v41 : Bool, millwrightref14_Env_Set_m0.j43 k a0 a1 v3 v41 = some out ∧ st' = ⟨[(0, .loc 100000 0), (3, .loc 3 0), (6, .p I6 v3), (35, .p .bool v41)], [(3, .box [.p .str a1.f_Name, .p (.list .str) a1.f_Words, .p I6 a1.f_Level, .p .bool a1.f_Hidden]), (100000, .box [.p (.list (.named 5)) a0])]⟩) ?_ ?_
      · rcases bool_cases (decide (v3 ≥ 0)) with hc44 | hc44
        · replace h := ite_t hc44 h
          obtain ⟨v45, hv45, h⟩ := bind_some h
          refine WpC.regA (U := Un) (st1 := ⟨[(0, .loc 100000 0), (3, .loc 3 0), (6, .p I6 v3), (35, .p .bool ((decide (v45.f_Level > a1.f_Level)) : Bool))], [(3, .box [.p .str a1.f_Name, .p (.list .str) a1.f_Words, .p I6 a1.f_Level, .p .bool a1.f_Hidden]), (100000, .box [.p (.list (.named 5)) a0])]⟩) [0, 3, 6, 35] [3, 100000] [[], [0], [0, 1], [0, 1, 2], [0, 1, 2, 3], [0, 1, 2, 3, 4], [0, 1, 2, 3, 4, 5], [0, 1, 2], [0, 1, 2, 3, 4, 5, 6, 7], [0, 1, 2, 3, 4, 5, 6, 7, 8], [0, 1, 2, 3, 4, 5, 6, 7, 8, 9], [0, 1, 2], [0, 1, 2, 11], [0, 1, 2, 3, 4, 5, 6, 7, 8, 9, 10, 11, 12], [0, 1, 2, 3, 4, 5, 6, 7, 8, 9, 10, 11, 12, 13]] mixed hN (.cons (mvU (v := .p I6 v3) rfl rfl) (.cons (cmU (rs := [(21, .p I6 v3)]) rfl rfl o0 (.int _ _ _) rfl) (.cons (mvU (v := .p .bool ((decide (v3 ≥ 0)) : Bool)) rfl rfl) (.cons (sok_run rfl rfl hc44 (mvU (v := .loc 100000 0) rfl rfl)) (.cons (sok_run rfl rfl hc44 (nlU (rs := [(24, .loc 100000 0)]) rfl rfl o0 rfl)) (.cons (sok_run rfl rfl hc44 (fdB (rs := [(25, .loc 100000 0)]) rfl rfl fd_58_0 (by decide) o0)) (.cons (sok_run rfl rfl hc44 (ldB (t := .list (.named 5)) (rs := [(26, .loc 100000 0)]) [] [.p (.list (.named 5)) a0] [] (v := .p (.list (.named 5)) a0) rfl rfl ty_56 o0 rfl rfl rfl rfl (.data (.one _ _)))) (.cons (sok_run rfl rfl hc44 (mvU (v := .p I6 v3) rfl rfl)) (.cons (sok_run rfl rfl hc44 (sok_indexL (U := Un) (rs := [(27, .p (.list (.named 5)) a0), (28, .p I6 v3)]) rfl rfl sl_56 o0 o1 hv45)) (.cons (sok_run rfl rfl hc44 (sok_fieldP (U := Un) (rs := [(29, .pp (.named 5) v45)]) rfl rfl fd_66_2 (by decide) o0 (.named (.snd (.snd (.fst (.here _ _)) rfl) rfl)))) (.cons (sok_run rfl rfl hc44 (sok_loadP (U := Un) (rs := [(30, .pp I6 v45.f_Level)]) rfl rfl ty_3 o0)) (.cons (sok_run rfl rfl hc44 (fdB (rs := [(3, .loc 3 0)]) rfl rfl fd_66_2 (by decide) o0)) (.cons (sok_run rfl rfl hc44 (ldB (t := .int .i64) (rs := [(32, .loc 3 2)]) [.p .str a1.f_Name, .p (.list .str) a1.f_Words] [.p I6 a1.f_Level] [.p .bool a1.f_Hidden] (v := .p I6 a1.f_Level) rfl rfl ty_3 o0 rfl rfl rfl rfl (.data (.one _ _)))) (.cons (sok_run rfl rfl hc44 (cmU (rs := [(31, .p I6 v45.f_Level), (33, .p I6 a1.f_Level)]) rfl rfl o0 o1 rfl)) (.cons (pkT (rs := [(23, .p .bool ((decide (v3 ≥ 0)) : Bool)), (34, .p .bool ((decide (v45.f_Level > a1.f_Level)) : Bool))]) rfl rfl o0 hc44 o1) .nil))))))))))))))) (by kernel_rfl) (by kernel_rfl) (by kernel_rfl) (by kernel_rfl) (by kernel_rfl) (cvR _) ?_
          refine tnU ?_
          exact ⟨(decide (v45.f_Level > a1.f_Level)), h, rfl⟩
        · replace h := ite_f hc44 h
          refine WpC.regA (U := Un) (st1 := ⟨[(0, .loc 100000 0), (3, .loc 3 0), (6, .p I6 v3), (35, .p .bool false)], [(3, .box [.p .str a1.f_Name, .p (.list .str) a1.f_Words, .p I6 a1.f_Level, .p .bool a1.f_Hidden]), (100000, .box [.p (.list (.named 5)) a0])]⟩) [0, 3, 6, 35] [3, 100000] [[], [0], [0, 1], [0, 1, 2], [0, 1, 2, 3], [0, 1, 2, 3, 4], [0, 1, 2, 3, 4, 5], [0, 1, 2], [0, 1, 2, 3, 4, 5, 6, 7], [0, 1, 2, 3, 4, 5, 6, 7, 8], [0, 1, 2, 3, 4, 5, 6, 7, 8, 9], [0, 1, 2], [0, 1, 2, 11], [0, 1, 2, 3, 4, 5, 6, 7, 8, 9, 10, 11, 12], [0, 1, 2, 3, 4, 5, 6, 7, 8, 9, 10, 11, 12, 13]] mixed hN (.cons (mvU (v := .p I6 v3) rfl rfl) (.cons (cmU (rs := [(21, .p I6 v3)]) rfl rfl o0 (.int _ _ _) rfl) (.cons (mvU (v := .p .bool ((decide (v3 ≥ 0)) : Bool)) rfl rfl) (.cons (skU rfl rfl hc44) (.cons (skU rfl rfl hc44) (.cons (skU rfl rfl hc44) (.cons (skU rfl rfl hc44) (.cons (skU rfl rfl hc44) (.cons (skU rfl rfl hc44) (.cons (skU rfl rfl hc44) (.cons (skU rfl rfl hc44) (.cons (skU rfl rfl hc44) (.cons (skU rfl rfl hc44) (.cons (skU rfl rfl hc44) (.cons (pkF (rs := [(23, .p .bool ((decide (v3 ≥ 0)) : Bool))]) rfl rfl o0 hc44 (.bool _ _)) .nil))))))))))))))) (by kernel_rfl) (by kernel_rfl) (by kernel_rfl) (by kernel_rfl) (by kernel_rfl) (cvR _) ?_
          refine tnU ?_
          exact ⟨false, h, rfl⟩
      · rintro _ ⟨v41, h, rfl⟩
        unfold millwrightref14_Env_Set_m0.j43 at h
        refine cdU (b := v41) (.tmp (.tail _ (.tail _ (.tail _ (.head _))))) (fun hc42 => ?_) (fun hc42 => ?_)
        · replace h := ite_t hc42 h
          refine WpC.seq ?_
          refine rgU (st1 := ⟨[(4, .p I6 (0 : Int))], [(100000, .box [.p (.list (.named 5)) a0])]⟩) [4] [100000] hN (.cons (moU (rs := []) rfl (.inr rfl) (.int _ _ _)) .nil) (by kernel_rfl) (by kernel_rfl) (by kernel_rfl) (cvR _) ?_
          refine tnU ?_
          refine WpC.ret ?_
          refine thenQ_ret ?_
          have hq := Option.some.inj h
          subst hq
          exact ends_ret (retV_1 rfl (.head _)) (ain_cons (.head _) ain_nil)
        · replace h := ite_f hc42 h
          refine WpC.conv (cvK (b := ⟨[(0, .loc 100000 0), (3, .loc 3 0), (6, .p I6 v3)], [(3, .box [.p .str a1.f_Name, .p (.list .str) a1.f_Words, .p I6 a1.f_Level, .p .bool a1.f_Hidden]), (100000, .box [.p (.list (.named 5)) a0])]⟩) [0, 3, 6] [3, 100000] (by kernel_rfl)) (WpC.skip ?_)
          refine tnU ?_
          exact ⟨h, rfl⟩
    · rintro _ ⟨h, rfl⟩
      unfold millwrightref14_Env_Set_m0.j40 at h
      refine sqJ (fun st' => millwrightref14_Env_Set_m0.j35 k a0 a1 = some out ∧ st' = ⟨[(0, .loc 100000 0), (3, .loc 3 0)], [(3, .box [.p .str a1.f_Name, .p (.list .str) a1.f_Words, .p I6 a1.f_Level, .p .bool a1.f_Hidden]), (100000, .box [.p (.list (.named 5)) a0])]⟩) ?_ ?_
      · refine sqJ (fun st' => ∃ v36 : Bool, millwrightref14_Env_Set_m0.j38 k a0 a1 v36 = some out ∧ st' = ⟨[(0, .loc 100000 0), (3, .loc 3 0), (45, .p .bool v36)], [(3, .box [.p .str a1.f_Name, .p (.list .str) a1.f_Words, .p I6 a1.f_Level, .p .bool a1.f_Hidden]), (100000, .box [.p (.list (.named 5)) a0])]⟩) ?_ ?_
        · rcases bool_cases (decide (v3 < 0)) with hc39 | hc39
          · replace h := ite_t hc39 h
            refine rgU (st1 := ⟨[(0, .loc 100000 0), (3, .loc 3 0), (45, .p .bool ((decide ((a0.length : Int) ≥ 24)) : Bool))], [(3, .box [.p .str a1.f_Name, .p (.list .str) a1.f_Words, .p I6 a1.f_Level, .p .bool a1.f_Hidden]), (100000, .box [.p (.list (.named 5)) a0])]⟩) [0, 3, 45] [3, 100000] hN (.cons (mvU (v := .p I6 v3) rfl rfl) (.cons (cmU (rs := [(36, .p I6 v3)]) rfl rfl o0 (.int _ _ _) rfl) (.cons (mvU (v := .p .bool ((decide (v3 < 0)) : Bool)) rfl rfl) (.cons (sok_run rfl rfl hc39 (mvU (v := .loc 100000 0) rfl rfl)) (.cons (sok_run rfl rfl hc39 (nlU (rs := [(39, .loc 100000 0)]) rfl rfl o0 rfl)) (.cons (sok_run rfl rfl hc39 (fdB (rs := [(40, .loc 100000 0)]) rfl rfl fd_58_0 (by decide) o0)) (.cons (sok_run rfl rfl hc39 (ldB (t := .list (.named 5)) (rs := [(41, .loc 100000 0)]) [] [.p (.list (.named 5)) a0] [] (v := .p (.list (.named 5)) a0) rfl rfl ty_56 o0 rfl rfl rfl rfl (.data (.one _ _)))) (.cons (sok_run rfl rfl hc39 (sok_lenL (U := Un) (rs := [(42, .p (.list (.named 5)) a0)]) rfl rfl Tryd.underlying56 o0)) (.cons (sok_run rfl rfl hc39 (cmU (rs := [(43, .p I6 ((a0.length : Int) : Int))]) rfl rfl o0 (.int _ _ _) rfl)) (.cons (pkT (rs := [(38, .p .bool ((decide (v3 < 0)) : Bool)), (44, .p .bool ((decide ((a0.length : Int) ≥ 24)) : Bool))]) rfl rfl o0 hc39 o1) .nil)))))))))) (by kernel_rfl) (by kernel_rfl) (by kernel_rfl) (cvR _) ?_
            refine tnU ?_
            exact ⟨(decide ((a0.length : Int) ≥ 24)), h, rfl⟩
          · replace h := ite_f hc39 h
            refine rgU (st1 := ⟨[(0, .loc 100000 0), (3, .loc 3 0), (45, .p .bool false)], [(3, .box [.p .str a1.f_Name, .p (.list .str) a1.f_Words, .p I6 a1.f_Level, .p .bool a1.f_Hidden]), (100000, .box [.p (.list (.named 5)) a0])]⟩) [0, 3, 45] [3, 100000] hN (.cons (mvU (v := .p I6 v3) rfl rfl) (.cons (cmU (rs := [(36, .p I6 v3)]) rfl rfl o0 (.int _ _ _) rfl) (.cons (mvU (v := .p .bool ((decide (v3 < 0)) : Bool)) rfl rfl) (.cons (skU rfl rfl hc39) (.cons (skU rfl rfl hc39) (.cons (skU rfl rfl hc39) (.cons (skU rfl rfl hc39) (.cons (skU rfl rfl hc39) (.cons (skU rfl rfl hc39) (.cons (pkF (rs := [(38, .p .bool ((decide (v3 < 0)) : Bool))]) rfl rfl o0 hc39 (.bool _ _)) .nil)))))))))) (by kernel_rfl) (by kernel_rfl) (by kernel_rfl) (cvR _) ?_
            refine tnU ?_
            exact ⟨false, h, rfl⟩
        · rintro _ ⟨v36, h, rfl⟩
          unfold millwrightref14_Env_Set_m0.j38 at h
          refine cdU (b := v36) (.tmp (.tail _ (.tail _ (.head _)))) (fun hc37 => ?_) (fun hc37 => ?_)
          · replace h := ite_t hc37 h
            refine WpC.seq ?_
            refine rgU (st1 := ⟨[(4, .p I6 (10 : Int))], [(100000, .box [.p (.list (.named 5)) a0])]⟩) [4] [100000] hN (.cons (moU (rs := []) rfl (.inr rfl) (.int _ _ _)) .nil) (by kernel_rfl) (by kernel_rfl) (by kernel_rfl) (cvR _) ?_
            refine tnU ?_
            refine WpC.ret ?_
            refine thenQ_ret ?_
            have hq := Option.some.inj h
            subst hq
            exact ends_ret (retV_1 rfl (.head _)) (ain_cons (.head _) ain_nil)
          · replace h := ite_f hc37 h
            refine WpC.conv (cvK (b := ⟨[(0, .loc 100000 0), (3, .loc 3 0)], [(3, .box [.p .str a1.f_Name, .p (.list .str) a1.f_Words, .p I6 a1.f_Level, .p .bool a1.f_Hidden]), (100000, .box [.p (.list (.named 5)) a0])]⟩) [0, 3] [3, 100000] (by kernel_rfl)) (WpC.skip ?_)
            refine tnU ?_
            exact ⟨h, rfl⟩
      · rintro _ ⟨h, rfl⟩
        unfold millwrightref14_Env_Set_m0.j35 at h
        refine WpC.seq ?_
        refine rgU (st1 := ⟨[(0, .loc 100000 0), (3, .loc 3 0), (7, .vec 46 4 0 (([] : List T_env_Var).length))], [(3, .box [.p .str a1.f_Name, .p (.list .str) a1.f_Words, .p I6 a1.f_Level, .p .bool a1.f_Hidden]), (46, .row 66 (.named 5) ([] : List T_env_Var) true), (100000, .box [.p (.list (.named 5)) a0])]⟩) [0, 3, 7] [3, 46, 100000] hN (.cons (sok_buildSlice (U := Un) (t := .named 5) (rs := []) (ys := []) (xs := ([] : List T_env_Var)) rfl rfl rfl rfl row_56 .nil (by decide)) (.cons (mvA (v := .vec 46 4 0 (([] : List T_env_Var).length)) rfl rfl) .nil)) (by kernel_rfl) (by kernel_rfl) (by kernel_rfl) (Conv.cast (U := Un) (st' := ⟨[(0, .loc 100000 0), (3, .loc 3 0), (7, .vec 46 4 0 0)], [(3, .box [.p .str a1.f_Name, .p (.list .str) a1.f_Words, .p I6 a1.f_Level, .p .bool a1.f_Hidden]), (46, .row 66 (.named 5) ([] : List T_env_Var) true), (100000, .box [.p (.list (.named 5)) a0])]⟩) (by simp only [upd_length, List.length_nil, List.length_replicate])) ?_
        refine tnU ?_
        refine sqJ (fun st' => ∃ v4 : List T_env_Var, millwrightref14_Env_Set_m0.j21 k a0 a1 v4 = some out ∧ st' = ⟨[(0, .loc 100000 0), (3, .loc 3 0), (7, .vec 1007 4 0 v4.length)], [(3, .box [.p .str a1.f_Name, .p (.list .str) a1.f_Words, .p I6 a1.f_Level, .p .bool a1.f_Hidden]), (1007, .row 66 (.named 5) v4 false), (100000, .box [.p (.list (.named 5)) a0])]⟩) ?_ ?_
        · refine WpC.seq ?_
          refine rgU (st1 := ⟨[(0, .loc 100000 0), (3, .loc 3 0), (7, .vec 46 4 0 0), (50, .p (.list (.named 5)) a0), (51, .p I6 ((a0.length : Int) : Int)), (52, .p I6 (0 : Int))], [(3, .box [.p .str a1.f_Name, .p (.list .str) a1.f_Words, .p I6 a1.f_Level, .p .bool a1.f_Hidden]), (46, .row 66 (.named 5) ([] : List T_env_Var) true), (100000, .box [.p (.list (.named 5)) a0])]⟩) [0, 3, 7, 50, 51, 52] [3, 46, 100000] hN (.cons (mvU (v := .loc 100000 0) rfl rfl) (.cons (nlU (rs := [(47, .loc 100000 0)]) rfl rfl o0 rfl) (.cons (fdB (rs := [(48, .loc 100000 0)]) rfl rfl fd_58_0 (by decide) o0) (.cons (ldB (t := .list (.named 5)) (rs := [(49, .loc 100000 0)]) [] [.p (.list (.named 5)) a0] [] (v := .p (.list (.named 5)) a0) rfl rfl ty_56 o0 rfl rfl rfl rfl (.data (.one _ _))) (.cons (sok_lenL (U := Un) (rs := [(50, .p (.list (.named 5)) a0)]) rfl rfl Tryd.underlying56 o0) (.cons (moU (rs := []) rfl (.inl rfl) (.int _ _ _)) .nil)))))) (by kernel_rfl) (by kernel_rfl) (by kernel_rfl) (cvR _) ?_
          refine tnU ?_
          refine WpC.block ?_
          obtain ⟨o26, hlo26, h⟩ := bind_some h
          have hout27 := h
          clear h
          refine WpC.conv (cvT (Conv.loose (U := Un) 46 66 (.named 5) ([] : List T_env_Var) (.tail _ (.head _))) (cvT (cvK (b := ⟨[(0, .loc 100000 0), (3, .loc 3 0), (7, .vec 46 4 0 0), (50, .p (.list (.named 5)) a0), (51, .p I6 ((a0.length : Int) : Int)), (52, .p I6 (0 : Int))], [(3, .box [.p .str a1.f_Name, .p (.list .str) a1.f_Words, .p I6 a1.f_Level, .p .bool a1.f_Hidden]), (46, .row 66 (.named 5) ([] : List T_env_Var) false), (100000, .box [.p (.list (.named 5)) a0])]⟩) [0, 3, 7, 50, 51, 52] [3, 46, 100000] (by kernel_rfl)) (cvT (Conv.ren (U := Un) (st' := ⟨[(0, .loc 100000 0), (3, .loc 3 0), (7, .vec 1007 4 0 0), (50, .p (.list (.named 5)) a0), (51, .p I6 ((a0.length : Int) : Int)), (52, .p I6 (0 : Int))], [(3, .box [.p .str a1.f_Name, .p (.list .str) a1.f_Words, .p I6 a1.f_Level, .p .bool a1.f_Hidden]), (1007, .row 66 (.named 5) ([] : List T_env_Var) false), (100000, .box [.p (.list (.named 5)) a0])]⟩) 46 1007 (by unfold K0; omega) (by kernel_rfl) (by kernel_rfl) (by kernel_rfl)) (cvK (b := ⟨[(0, .loc 100000 0), (3, .loc 3 0), (7, .vec 1007 4 0 0), (50, .p (.list (.named 5)) a0), (51, .p I6 ((a0.length : Int) : Int)), (52, .p I6 (0 : Int))], [(3, .box [.p .str a1.f_Name, .p (.list .str) a1.f_Words, .p I6 a1.f_Level, .p .bool a1.f_Hidden]), (1007, .row 66 (.named 5) ([] : List T_env_Var) false), (100000, .box [.p (.list (.named 5)) a0])]⟩) [0, 3, 7, 50, 51, 52] [3, 1007, 100000] (by kernel_rfl))))) ?_
          refine WpC.loop (U := Un) (fun n st' => ∃ v22 : List T_env_Var, ∃ v23 : Int, millwrightref14_Env_Set_m0.l24 k a0 a1 n v22 v23 = some o26 ∧ st' = ⟨[(0, .loc 100000 0), (3, .loc 3 0), (7, .vec 1007 4 0 v22.length), (50, .p (.list (.named 5)) a0), (51, .p I6 ((a0.length : Int) : Int)), (52, .p I6 v23)], [(3, .box [.p .str a1.f_Name, .p (.list .str) a1.f_Words, .p I6 a1.f_Level, .p .bool a1.f_Hidden]), (1007, .row 66 (.named 5) v22 false), (100000, .box [.p (.list (.named 5)) a0])]⟩) k ⟨([] : List T_env_Var), 0, hlo26, rfl⟩ ?_
          clear hlo26
          rintro (_ | n) _ ⟨v22, v23, h, rfl⟩
          · cases h
          · rw [millwrightref14_Env_Set_m0.l24] at h
            refine WpC.seq ?_
            refine rgU (st1 := ⟨[(0, .loc 100000 0), (3, .loc 3 0), (7, .vec 1007 4 0 v22.length), (50, .p (.list (.named 5)) a0), (51, .p I6 ((a0.length : Int) : Int)), (52, .p I6 v23), (53, .p .bool ((decide (v23 < (a0.length : Int))) : Bool))], [(3, .box [.p .str a1.f_Name, .p (.list .str) a1.f_Words, .p I6 a1.f_Level, .p .bool a1.f_Hidden]), (1007, .row 66 (.named 5) v22 false), (100000, .box [.p (.list (.named 5)) a0])]⟩) [0, 3, 7, 50, 51, 52, 53] [3, 1007, 100000] hN (.cons (cmU (rs := [(52, .p I6 v23), (51, .p I6 ((a0.length : Int) : Int))]) rfl rfl o0 o1 rfl) .nil) (by kernel_rfl) (by kernel_rfl) (by kernel_rfl) (cvR _) ?_
            refine tnU ?_
            refine WpC.seq ?_
            refine cdU (b := (decide (v23 < (a0.length : Int)))) (.tmp (.tail _ (.tail _ (.tail _ (.tail _ (.tail _ (.tail _ (.head _)))))))) (fun hc28 => ?_) (fun hc28 => ?_)
            · replace h := ite_t hc28 h
              refine WpC.conv (cvK (b := ⟨[(0, .loc 100000 0), (3, .loc 3 0), (7, .vec 1007 4 0 v22.length), (50, .p (.list (.named 5)) a0), (51, .p I6 ((a0.length : Int) : Int)), (52, .p I6 v23)], [(3, .box [.p .str a1.f_Name, .p (.list .str) a1.f_Words, .p I6 a1.f_Level, .p .bool a1.f_Hidden]), (1007, .row 66 (.named 5) v22 false), (100000, .box [.p (.list (.named 5)) a0])]⟩) [0, 3, 7, 50, 51, 52] [3, 1007, 100000] (by kernel_rfl)) (WpC.skip ?_)
              refine tnU ?_
              refine sqJ (fun st' => ∃ v29 : List T_env_Var, millwrightref14_Env_Set_m0.j30 k (millwrightref14_Env_Set_m0.l24 k a0 a1 n) a0 a1 v23 v29 = some o26 ∧ st' = ⟨[(0, .loc 100000 0), (3, .loc 3 0), (7, .vec 1007 4 0 v29.length), (50, .p (.list (.named 5)) a0), (51, .p I6 ((a0.length : Int) : Int)), (52, .p I6 v23)], [(3, .box [.p .str a1.f_Name, .p (.list .str) a1.f_Words, .p I6 a1.f_Level, .p .bool a1.f_Hidden]), (1007, .row 66 (.named 5) v29 false), (100000, .box [.p (.list (.named 5)) a0])]⟩) ?_ ?_
              · refine WpC.block ?_
                refine WpC.seq ?_
                obtain ⟨v31, hv31, h⟩ := bind_some h
                refine rgU (st1 := ⟨[(0, .loc 100000 0), (3, .loc 3 0), (7, .vec 1007 4 0 v22.length), (9, .loc 9 0), (50, .p (.list (.named 5)) a0), (51, .p I6 ((a0.length : Int) : Int)), (52, .p I6 v23)], [(3, .box [.p .str a1.f_Name, .p (.list .str) a1.f_Words, .p I6 a1.f_Level, .p .bool a1.f_Hidden]), (9, .box [.p .str v31.f_Name, .p (.list .str) v31.f_Words, .p I6 v31.f_Level, .p .bool v31.f_Hidden]), (1007, .row 66 (.named 5) v22 false), (100000, .box [.p (.list (.named 5)) a0])]⟩) [0, 3, 7, 9, 50, 51, 52] [3, 9, 1007, 100000] hN (.cons (sok_indexL (U := Un) (rs := [(50, .p (.list (.named 5)) a0), (52, .p I6 v23)]) rfl rfl sl_56 o0 o1 hv31) (.cons (sok_loadP (U := Un) (rs := [(54, .pp (.named 5) v31)]) rfl rfl ty_66 o0) (.cons (sok_allocZ (U := Un) (rs := []) (d := 9) (us := [.p .str ([] : List UInt8), .p (.list .str) ([] : List (List UInt8)), .p I6 (0 : Int), .p .bool false]) (v := (.agg #[.string ByteArray.empty, .slice none 0 0, .int .i64 0, .bool false])) rfl rfl rfl (by kernel_rfl) rfl (.data (fun _ _ _ => rd_str0) (.data (fun _ _ _ => .lnil _) (.data (fun _ _ _ => .int _ _) (.data (fun _ _ _ => .bool _) .nil)))) (by kernel_rfl)) (.cons (sok_storeB (U := Un) (rs := [(9, .loc 9 0), (55, .p (.named 5) v31)]) (v := .p (.named 5) v31) (mid' := [.p .str v31.f_Name, .p (.list .str) v31.f_Words, .p I6 v31.f_Level, .p .bool v31.f_Hidden]) [] [.p .str ([] : List UInt8), .p (.list .str) ([] : List (List UInt8)), .p I6 (0 : Int), .p .bool false] [] rfl rfl rfl ty_66 o0 o1 (.data (.named (us := ([.p .str v31.f_Name, .p (.list .str) v31.f_Words, .p I6 v31.f_Level, .p .bool v31.f_Hidden] : List (AVal Un))) (.pair (.one _ _) (.pair (.one _ _) (.pair (.one _ _) (.pair (.one _ _) .unit)))))) rfl rfl rfl rfl rfl rfl) .nil)))) (by kernel_rfl) (by kernel_rfl) (by kernel_rfl) (cvR _) ?_
                refine tnU ?_
                refine WpC.seq ?_
                refine rgU (st1 := ⟨[(0, .loc 100000 0), (3, .loc 3 0), (7, .vec 1007 4 0 v22.length), (9, .loc 9 0), (50, .p (.list (.named 5)) a0), (51, .p I6 ((a0.length : Int) : Int)), (52, .p I6 v23), (60, .p .bool ((Op.bytesLess v31.f_Name a1.f_Name) : Bool))], [(3, .box [.p .str a1.f_Name, .p (.list .str) a1.f_Words, .p I6 a1.f_Level, .p .bool a1.f_Hidden]), (9, .box [.p .str v31.f_Name, .p (.list .str) v31.f_Words, .p I6 v31.f_Level, .p .bool v31.f_Hidden]), (1007, .row 66 (.named 5) v22 false), (100000, .box [.p (.list (.named 5)) a0])]⟩) [0, 3, 7, 9, 50, 51, 52, 60] [3, 9, 1007, 100000] hN (.cons (fdB (rs := [(9, .loc 9 0)]) rfl rfl fd_66_0 (by decide) o0) (.cons (ldB (t := .str) (rs := [(56, .loc 9 0)]) [] [.p .str v31.f_Name] [.p (.list .str) v31.f_Words, .p I6 v31.f_Level, .p .bool v31.f_Hidden] (v := .p .str v31.f_Name) rfl rfl ty_9 o0 rfl rfl rfl rfl (.data (.one _ _))) (.cons (fdB (rs := [(3, .loc 3 0)]) rfl rfl fd_66_0 (by decide) o0) (.cons (ldB (t := .str) (rs := [(58, .loc 3 0)]) [] [.p .str a1.f_Name] [.p (.list .str) a1.f_Words, .p I6 a1.f_Level, .p .bool a1.f_Hidden] (v := .p .str a1.f_Name) rfl rfl ty_9 o0 rfl rfl rfl rfl (.data (.one _ _))) (.cons (sok_cmpS (U := Un) (rs := [(57, .p .str v31.f_Name), (59, .p .str a1.f_Name)]) rfl rfl o0 o1 rfl) .nil))))) (by kernel_rfl) (by kernel_rfl) (by kernel_rfl) (cvR _) ?_
                refine tnU ?_
                refine cdU (b := (Op.bytesLess v31.f_Name a1.f_Name)) (.tmp (.tail _ (.tail _ (.tail _ (.tail _ (.tail _ (.tail _ (.tail _ (.head _))))))))) (fun hc32 => ?_) (fun hc32 => ?_)
                · replace h := ite_t hc32 h
                  obtain ⟨g33, h⟩ := if_some h
                  refine rgU (st1 := ⟨[(0, .loc 100000 0), (3, .loc 3 0), (7, .vec 64 4 0 ((v22 ++ [(T_env_Var.mk v31.f_Name v31.f_Words v31.f_Level v31.f_Hidden)]).length)), (50, .p (.list (.named 5)) a0), (51, .p I6 ((a0.length : Int) : Int)), (52, .p I6 v23)], [(3, .box [.p .str a1.f_Name, .p (.list .str) a1.f_Words, .p I6 a1.f_Level, .p .bool a1.f_Hidden]), (64, .row 66 (.named 5) (v22 ++ [(T_env_Var.mk v31.f_Name v31.f_Words v31.f_Level v31.f_Hidden)]) false), (100000, .box [.p (.list (.named 5)) a0])]⟩) [0, 3, 7, 50, 51, 52] [3, 64, 100000] hN (.cons (mvU (v := .vec 1007 4 0 v22.length) rfl rfl) (.cons (ldB (t := .named 5) (rs := [(9, .loc 9 0)]) [] [.p .str v31.f_Name, .p (.list .str) v31.f_Words, .p I6 v31.f_Level, .p .bool v31.f_Hidden] [] (v := .p (.named 5) ((T_env_Var.mk v31.f_Name v31.f_Words v31.f_Level v31.f_Hidden) : T_env_Var)) rfl rfl ty_66 o0 rfl rfl rfl rfl (.data (.named (us := ([.p .str v31.f_Name, .p (.list .str) v31.f_Words, .p I6 v31.f_Level, .p .bool v31.f_Hidden] : List (AVal Un))) (.pair (.one _ _) (.pair (.one _ _) (.pair (.one _ _) (.pair (.one _ _) .unit))))))) (.cons (sok_buildSlice (U := Un) (t := .named 5) (rs := [(62, .p (.named 5) ((T_env_Var.mk v31.f_Name v31.f_Words v31.f_Level v31.f_Hidden) : T_env_Var))]) (ys := [.tmp 62]) (xs := [(T_env_Var.mk v31.f_Name v31.f_Words v31.f_Level v31.f_Hidden)]) rfl rfl rfl rfl row_56 (.cons o0 .nil) (by decide)) (.cons (sok_append' (U := Un) (t := .named 5) (rs := [(61, .vec 1007 4 0 v22.length), (63, .vec 63 4 0 ([(T_env_Var.mk v31.f_Name v31.f_Words v31.f_Level v31.f_Hidden)].length))]) (vw := [(63, .row 66 (.named 5) [(T_env_Var.mk v31.f_Name v31.f_Words v31.f_Level v31.f_Hidden)] true)]) (xs := v22) (ys := [(T_env_Var.mk v31.f_Name v31.f_Words v31.f_Level v31.f_Hidden)]) (fx := false) rfl rfl rfl row_56 (by decide) o0 o1 (.whole (.head _)) (by simp) g33) (.cons (mvA (v := .vec 64 4 0 ((v22 ++ [(T_env_Var.mk v31.f_Name v31.f_Words v31.f_Level v31.f_Hidden)]).length)) rfl rfl) .nil))))) (by kernel_rfl) (by kernel_rfl) (by kernel_rfl) (cvT (Conv.ren (U := Un) (st' := ⟨[(0, .loc 100000 0), (3, .loc 3 0), (7, .vec 1007 4 0 ((v22 ++ [(T_env_Var.mk v31.f_Name v31.f_Words v31.f_Level v31.f_Hidden)]).length)), (50, .p (.list (.named 5)) a0), (51, .p I6 ((a0.length : Int) : Int)), (52, .p I6 v23)], [(3, .box [.p .str a1.f_Name, .p (.list .str) a1.f_Words, .p I6 a1.f_Level, .p .bool a1.f_Hidden]), (1007, .row 66 (.named 5) (v22 ++ [(T_env_Var.mk v31.f_Name v31.f_Words v31.f_Level v31.f_Hidden)]) false), (100000, .box [.p (.list (.named 5)) a0])]⟩) 64 1007 (by unfold K0; omega) (by kernel_rfl) (by kernel_rfl) (by kernel_rfl)) (cvK (b := ⟨[(0, .loc 100000 0), (3, .loc 3 0), (7, .vec 1007 4 0 ((v22 ++ [(T_env_Var.mk v31.f_Name v31.f_Words v31.f_Level v31.f_Hidden)]).length)), (50, .p (.list (.named 5)) a0), (51, .p I6 ((a0.length : Int) : Int)), (52, .p I6 v23)], [(3, .box [.p .str a1.f_Name, .p (.list .str) a1.f_Words, .p I6 a1.f_Level, .p .bool a1.f_Hidden]), (1007, .row 66 (.named 5) (v22 ++ [(T_env_Var.mk v31.f_Name v31.f_Words v31.f_Level v31.f_Hidden)]) false), (100000, .box [.p (.list (.named 5)) a0])]⟩) [0, 3, 7, 50, 51, 52] [3, 1007, 100000] (by kernel_rfl))) ?_
                  refine blockQ_normal ?_
                  refine tnU ?_
                  exact ⟨(v22 ++ [(T_env_Var.mk v31.f_Name v31.f_Words v31.f_Level v31.f_Hidden)]), h, rfl⟩
                · replace h := ite_f hc32 h
                  refine WpC.conv (cvK (b := ⟨[(0, .loc 100000 0), (3, .loc 3 0), (7, .vec 1007 4 0 v22.length), (50, .p (.list (.named 5)) a0), (51, .p I6 ((a0.length : Int) : Int)), (52, .p I6 v23)], [(3, .box [.p .str a1.f_Name, .p (.list .str) a1.f_Words, .p I6 a1.f_Level, .p .bool a1.f_Hidden]), (1007, .row 66 (.named 5) v22 false), (100000, .box [.p (.list (.named 5)) a0])]⟩) [0, 3, 7, 50, 51, 52] [3, 1007, 100000] (by kernel_rfl)) (WpC.skip ?_)
                  refine blockQ_normal ?_
                  refine tnU ?_
                  exact ⟨v22, h, rfl⟩
              · rintro _ ⟨v29, h, rfl⟩
                unfold millwrightref14_Env_Set_m0.j30 at h
                refine rgU (st1 := ⟨[(0, .loc 100000 0), (3, .loc 3 0), (7, .vec 1007 4 0 v29.length), (50, .p (.list (.named 5)) a0), (51, .p I6 ((a0.length : Int) : Int)), (52, .p I6 ((IntKind.i64.wrap (v23 + 1)) : Int))], [(3, .box [.p .str a1.f_Name, .p (.list .str) a1.f_Words, .p I6 a1.f_Level, .p .bool a1.f_Hidden]), (1007, .row 66 (.named 5) v29 false), (100000, .box [.p (.list (.named 5)) a0])]⟩) [0, 3, 7, 50, 51, 52] [3, 1007, 100000] hN (.cons (sok_arith (U := Un) (rs := [(52, .p I6 v23)]) rfl rfl o0 (.int _ _ _) rfl) (.cons (mvU (v := .p I6 ((IntKind.i64.wrap (v23 + 1)) : Int)) rfl rfl) .nil)) (by kernel_rfl) (by kernel_rfl) (by kernel_rfl) (cvR _) ?_
                refine tnU ?_
                exact ⟨n, Nat.lt_succ_self n, v29, (IntKind.i64.wrap (v23 + 1)), h, rfl⟩
            · replace h := ite_f hc28 h
              refine WpC.conv (cvK (b := ⟨[(0, .loc 100000 0), (3, .loc 3 0), (7, .vec 1007 4 0 v22.length)], [(3, .box [.p .str a1.f_Name, .p (.list .str) a1.f_Words, .p I6 a1.f_Level, .p .bool a1.f_Hidden]), (1007, .row 66 (.named 5) v22 false), (100000, .box [.p (.list (.named 5)) a0])]⟩) [0, 3, 7] [3, 1007, 100000] (by kernel_rfl)) (WpC.exit ?_)
              refine thenQ_exit ?_
              have hq := Option.some.inj h
              subst hq
              refine thenQ_exit ?_
              have h := hout27
              refine blockQ_hit ?_
              refine tnU ?_
              exact ⟨v22, h, rfl⟩
        · rintro _ ⟨v4, h, rfl⟩
          unfold millwrightref14_Env_Set_m0.j21 at h
          refine WpC.seq ?_
          obtain ⟨g5, h⟩ := if_some h
          refine rgU (st1 := ⟨[(0, .loc 100000 0), (3, .loc 3 0), (7, .vec 69 4 0 ((v4 ++ [(T_env_Var.mk a1.f_Name a1.f_Words a1.f_Level a1.f_Hidden)]).length))], [(3, .box [.p .str a1.f_Name, .p (.list .str) a1.f_Words, .p I6 a1.f_Level, .p .bool a1.f_Hidden]), (69, .row 66 (.named 5) (v4 ++ [(T_env_Var.mk a1.f_Name a1.f_Words a1.f_Level a1.f_Hidden)]) false), (100000, .box [.p (.list (.named 5)) a0])]⟩) [0, 3, 7] [3, 69, 100000] hN (.cons (mvU (v := .vec 1007 4 0 v4.length) rfl rfl) (.cons (ldB (t := .named 5) (rs := [(3, .loc 3 0)]) [] [.p .str a1.f_Name, .p (.list .str) a1.f_Words, .p I6 a1.f_Level, .p .bool a1.f_Hidden] [] (v := .p (.named 5) ((T_env_Var.mk a1.f_Name a1.f_Words a1.f_Level a1.f_Hidden) : T_env_Var)) rfl rfl ty_66 o0 rfl rfl rfl rfl (.data (.named (us := ([.p .str a1.f_Name, .p (.list .str) a1.f_Words, .p I6 a1.f_Level, .p .bool a1.f_Hidden] : List (AVal Un))) (.pair (.one _ _) (.pair (.one _ _) (.pair (.one _ _) (.pair (.one _ _) .unit))))))) (.cons (sok_buildSlice (U := Un) (t := .named 5) (rs := [(67, .p (.named 5) ((T_env_Var.mk a1.f_Name a1.f_Words a1.f_Level a1.f_Hidden) : T_env_Var))]) (ys := [.tmp 67]) (xs := [(T_env_Var.mk a1.f_Name a1.f_Words a1.f_Level a1.f_Hidden)]) rfl rfl rfl rfl row_56 (.cons o0 .nil) (by decide)) (.cons (sok_append' (U := Un) (t := .named 5) (rs := [(66, .vec 1007 4 0 v4.length), (68, .vec 68 4 0 ([(T_env_Var.mk a1.f_Name a1.f_Words a1.f_Level a1.f_Hidden)].length))]) (vw := [(68, .row 66 (.named 5) [(T_env_Var.mk a1.f_Name a1.f_Words a1.f_Level a1.f_Hidden)] true)]) (xs := v4) (ys := [(T_env_Var.mk a1.f_Name a1.f_Words a1.f_Level a1.f_Hidden)]) (fx := false) rfl rfl rfl row_56 (by decide) o0 o1 (.whole (.head _)) (by simp) g5) (.cons (mvA (v := .vec 69 4 0 ((v4 ++ [(T_env_Var.mk a1.f_Name a1.f_Words a1.f_Level a1.f_Hidden)]).length)) rfl rfl) .nil))))) (by kernel_rfl) (by kernel_rfl) (by kernel_rfl) (cvR _) ?_
          refine tnU ?_
          refine sqJ (fun st' => ∃ v6 : List T_env_Var, millwrightref14_Env_Set_m0.j7 k a0 v6 = some out ∧ st' = ⟨[(0, .loc 100000 0), (7, .vec 1007 4 0 v6.length)], [(1007, .row 66 (.named 5) v6 false), (100000, .box [.p (.list (.named 5)) a0])]⟩) ?_ ?_
          · refine WpC.seq ?_
            refine rgU (st1 := ⟨[(0, .loc 100000 0), (3, .loc 3 0), (7, .vec 69 4 0 ((v4 ++ [(T_env_Var.mk a1.f_Name a1.f_Words a1.f_Level a1.f_Hidden)]).length)), (73, .p (.list (.named 5)) a0), (74, .p I6 ((a0.length : Int) : Int)), (75, .p I6 (0 : Int))], [(3, .box [.p .str a1.f_Name, .p (.list .str) a1.f_Words, .p I6 a1.f_Level, .p .bool a1.f_Hidden]), (69, .row 66 (.named 5) (v4 ++ [(T_env_Var.mk a1.f_Name a1.f_Words a1.f_Level a1.f_Hidden)]) false), (100000, .box [.p (.list (.named 5)) a0])]⟩) [0, 3, 7, 73, 74, 75] [3, 69, 100000] hN (.cons (mvU (v := .loc 100000 0) rfl rfl) (.cons (nlU (rs := [(70, .loc 100000 0)]) rfl rfl o0 rfl) (.cons (fdB (rs := [(71, .loc 100000 0)]) rfl rfl fd_58_0 (by decide) o0) (.cons (ldB (t := .list (.named 5)) (rs := [(72, .loc 100000 0)]) [] [.p (.list (.named 5)) a0] [] (v := .p (.list (.named 5)) a0) rfl rfl ty_56 o0 rfl rfl rfl rfl (.data (.one _ _))) (.cons (sok_lenL (U := Un) (rs := [(73, .p (.list (.named 5)) a0)]) rfl rfl Tryd.underlying56 o0) (.cons (moU (rs := []) rfl (.inl rfl) (.int _ _ _)) .nil)))))) (by kernel_rfl) (by kernel_rfl) (by kernel_rfl) (cvR _) ?_
            refine tnU ?_
            refine WpC.block ?_
            obtain ⟨o12, hlo12, h⟩ := bind_some h
            have hout13 := h
            clear h
            refine WpC.conv (cvT (Conv.ren (U := Un) (st' := ⟨[(0, .loc 100000 0), (3, .loc 3 0), (7, .vec 1007 4 0 ((v4 ++ [(T_env_Var.mk a1.f_Name a1.f_Words a1.f_Level a1.f_Hidden)]).length)), (73, .p (.list (.named 5)) a0), (74, .p I6 ((a0.length : Int) : Int)), (75, .p I6 (0 : Int))], [(3, .box [.p .str a1.f_Name, .p (.list .str) a1.f_Words, .p I6 a1.f_Level, .p .bool a1.f_Hidden]), (1007, .row 66 (.named 5) (v4 ++ [(T_env_Var.mk a1.f_Name a1.f_Words a1.f_Level a1.f_Hidden)]) false), (100000, .box [.p (.list (.named 5)) a0])]⟩) 69 1007 (by unfold K0; omega) (by kernel_rfl) (by kernel_rfl) (by kernel_rfl)) (cvK (b := ⟨[(0, .loc 100000 0), (3, .loc 3 0), (7, .vec 1007 4 0 ((v4 ++ [(T_env_Var.mk a1.f_Name a1.f_Words a1.f_Level a1.f_Hidden)]).length)), (73, .p (.list (.named 5)) a0), (74, .p I6 ((a0.length : Int) : Int)), (75, .p I6 (0 : Int))], [(3, .box [.p .str a1.f_Name, .p (.list .str) a1.f_Words, .p I6 a1.f_Level, .p .bool a1.f_Hidden]), (1007, .row 66 (.named 5) (v4 ++ [(T_env_Var.mk a1.f_Name a1.f_Words a1.f_Level a1.f_Hidden)]) false), (100000, .box [.p (.list (.named 5)) a0])]⟩) [0, 3, 7, 73, 74, 75] [3, 1007, 100000] (by kernel_rfl))) ?_
            refine WpC.loop (U := Un) (fun n st' => ∃ v8 : List T_env_Var, ∃ v9 : Int, millwrightref14_Env_Set_m0.l10 k a0 a1 n v8 v9 = some o12 ∧ st' = ⟨[(0, .loc 100000 0), (3, .loc 3 0), (7, .vec 1007 4 0 v8.length), (73, .p (.list (.named 5)) a0), (74, .p I6 ((a0.length : Int) : Int)), (75, .p I6 v9)], [(3, .box [.p .str a1.f_Name, .p (.list .str) a1.f_Words, .p I6 a1.f_Level, .p .bool a1.f_Hidden]), (1007, .row 66 (.named 5) v8 false), (100000, .box [.p (.list (.named 5)) a0])]⟩) k ⟨(v4 ++ [(T_env_Var.mk a1.f_Name a1.f_Words a1.f_Level a1.f_Hidden)]), 0, hlo12, rfl⟩ ?_
            clear hlo12
            rintro (_ | n) _ ⟨v8, v9, h, rfl⟩
            · cases h
            · rw [millwrightref14_Env_Set_m0.l10] at h
              refine WpC.seq ?_
              refine rgU (st1 := ⟨[(0, .loc 100000 0), (3, .loc 3 0), (7, .vec 1007 4 0 v8.length), (73, .p (.list (.named 5)) a0), (74, .p I6 ((a0.length : Int) : Int)), (75, .p I6 v9), (76, .p .bool ((decide (v9 < (a0.length : Int))) : Bool))], [(3, .box [.p .str a1.f_Name, .p (.list .str) a1.f_Words, .p I6 a1.f_Level, .p .bool a1.f_Hidden]), (1007, .row 66 (.named 5) v8 false), (100000, .box [.p (.list (.named 5)) a0])]⟩) [0, 3, 7, 73, 74, 75, 76] [3, 1007, 100000] hN (.cons (cmU (rs := [(75, .p I6 v9), (74, .p I6 ((a0.length : Int) : Int))]) rfl rfl o0 o1 rfl) .nil) (by kernel_rfl) (by kernel_rfl) (by kernel_rfl) (cvR _) ?_
              refine tnU ?_
              refine WpC.seq ?_
              refine cdU (b := (decide (v9 < (a0.length : Int)))) (.tmp (.tail _ (.tail _ (.tail _ (.tail _ (.tail _ (.tail _ (.head _)))))))) (fun hc14 => ?_) (fun hc14 => ?_)
              · replace h := ite_t hc14 h
                refine WpC.conv (cvK (b := ⟨[(0, .loc 100000 0), (3, .loc 3 0), (7, .vec 1007 4 0 v8.length), (73, .p (.list (.named 5)) a0), (74, .p I6 ((a0.length : Int) : Int)), (75, .p I6 v9)], [(3, .box [.p .str a1.f_Name, .p (.list .str) a1.f_Words, .p I6 a1.f_Level, .p .bool a1.f_Hidden]), (1007, .row 66 (.named 5) v8 false), (100000, .box [.p (.list (.named 5)) a0])]⟩) [0, 3, 7, 73, 74, 75] [3, 1007, 100000] (by kernel_rfl)) (WpC.skip ?_)
                refine tnU ?_
                refine sqJ (fun st' => ∃ v15 : List T_env_Var, millwrightref14_Env_Set_m0.j16 k (millwrightref14_Env_Set_m0.l10 k a0 a1 n) a0 a1 v9 v15 = some o12 ∧ st' = ⟨[(0, .loc 100000 0), (3, .loc 3 0), (7, .vec 1007 4 0 v15.length), (73, .p (.list (.named 5)) a0), (74, .p I6 ((a0.length : Int) : Int)), (75, .p I6 v9)], [(3, .box [.p .str a1.f_Name, .p (.list .str) a1.f_Words, .p I6 a1.f_Level, .p .bool a1.f_Hidden]), (1007, .row 66 (.named 5) v15 false), (100000, .box [.p (.list (.named 5)) a0])]⟩) ?_ ?_
                · refine WpC.block ?_
                  refine WpC.seq ?_
                  obtain ⟨v17, hv17, h⟩ := bind_some h
                  refine rgU (st1 := ⟨[(0, .loc 100000 0), (3, .loc 3 0), (7, .vec 1007 4 0 v8.length), (11, .loc 11 0), (73, .p (.list (.named 5)) a0), (74, .p I6 ((a0.length : Int) : Int)), (75, .p I6 v9)], [(3, .box [.p .str a1.f_Name, .p (.list .str) a1.f_Words, .p I6 a1.f_Level, .p .bool a1.f_Hidden]), (11, .box [.p .str v17.f_Name, .p (.list .str) v17.f_Words, .p I6 v17.f_Level, .p .bool v17.f_Hidden]), (1007, .row 66 (.named 5) v8 false), (100000, .box [.p (.list (.named 5)) a0])]⟩) [0, 3, 7, 11, 73, 74, 75] [3, 11, 1007, 100000] hN (.cons (sok_indexL (U := Un) (rs := [(73, .p (.list (.named 5)) a0), (75, .p I6 v9)]) rfl rfl sl_56 o0 o1 hv17) (.cons (sok_loadP (U := Un) (rs := [(77, .pp (.named 5) v17)]) rfl rfl ty_66 o0) (.cons (sok_allocZ (U := Un) (rs := []) (d := 11) (us := [.p .str ([] : List UInt8), .p (.list .str) ([] : List (List UInt8)), .p I6 (0 : Int), .p .bool false]) (v := (.agg #[.string ByteArray.empty, .slice none 0 0, .int .i64 0, .bool false])) rfl rfl rfl (by kernel_rfl) rfl (.data (fun _ _ _ => rd_str0) (.data (fun _ _ _ => .lnil _) (.data (fun _ _ _ => .int _ _) (.data (fun _ _ _ => .bool _) .nil)))) (by kernel_rfl)) (.cons (sok_storeB (U := Un) (rs := [(11, .loc 11 0), (78, .p (.named 5) v17)]) (v := .p (.named 5) v17) (mid' := [.p .str v17.f_Name, .p (.list .str) v17.f_Words, .p I6 v17.f_Level, .p .bool v17.f_Hidden]) [] [.p .str ([] : List UInt8), .p (.list .str) ([] : List (List UInt8)), .p I6 (0 : Int), .p .bool false] [] rfl rfl rfl ty_66 o0 o1 (.data (.named (us := ([.p .str v17.f_Name, .p (.list .str) v17.f_Words, .p I6 v17.f_Level, .p .bool v17.f_Hidden] : List (AVal Un))) (.pair (.one _ _) (.pair (.one _ _) (.pair (.one _ _) (.pair (.one _ _) .unit)))))) rfl rfl rfl rfl rfl rfl) .nil)))) (by kernel_rfl) (by kernel_rfl) (by kernel_rfl) (cvR _) ?_
                  refine tnU ?_
                  refine WpC.seq ?_
                  refine rgU (st1 := ⟨[(0, .loc 100000 0), (3, .loc 3 0), (7, .vec 1007 4 0 v8.length), (11, .loc 11 0), (73, .p (.list (.named 5)) a0), (74, .p I6 ((a0.length : Int) : Int)), (75, .p I6 v9), (83, .p .bool ((!(Op.bytesLess v17.f_Name a1.f_Name || v17.f_Name == a1.f_Name)) : Bool))], [(3, .box [.p .str a1.f_Name, .p (.list .str) a1.f_Words, .p I6 a1.f_Level, .p .bool a1.f_Hidden]), (11, .box [.p .str v17.f_Name, .p (.list .str) v17.f_Words, .p I6 v17.f_Level, .p .bool v17.f_Hidden]), (1007, .row 66 (.named 5) v8 false), (100000, .box [.p (.list (.named 5)) a0])]⟩) [0, 3, 7, 11, 73, 74, 75, 83] [3, 11, 1007, 100000] hN (.cons (fdB (rs := [(11, .loc 11 0)]) rfl rfl fd_66_0 (by decide) o0) (.cons (ldB (t := .str) (rs := [(79, .loc 11 0)]) [] [.p .str v17.f_Name] [.p (.list .str) v17.f_Words, .p I6 v17.f_Level, .p .bool v17.f_Hidden] (v := .p .str v17.f_Name) rfl rfl ty_9 o0 rfl rfl rfl rfl (.data (.one _ _))) (.cons (fdB (rs := [(3, .loc 3 0)]) rfl rfl fd_66_0 (by decide) o0) (.cons (ldB (t := .str) (rs := [(81, .loc 3 0)]) [] [.p .str a1.f_Name] [.p (.list .str) a1.f_Words, .p I6 a1.f_Level, .p .bool a1.f_Hidden] (v := .p .str a1.f_Name) rfl rfl ty_9 o0 rfl rfl rfl rfl (.data (.one _ _))) (.cons (sok_cmpS (U := Un) (rs := [(80, .p .str v17.f_Name), (82, .p .str a1.f_Name)]) rfl rfl o0 o1 rfl) .nil))))) (by kernel_rfl) (by kernel_rfl) (by kernel_rfl) (cvR _) ?_
                  refine tnU ?_
                  refine cdU (b := (!(Op.bytesLess v17.f_Name a1.f_Name || v17.f_Name == a1.f_Name))) (.tmp (.tail _ (.tail _ (.tail _ (.tail _ (.tail _ (.tail _ (.tail _ (.head _))))))))) (fun hc18 => ?_) (fun hc18 => ?_)
                  · replace h := ite_t hc18 h
                    obtain ⟨g19, h⟩ := if_some h
                    refine rgU (st1 := ⟨[(0, .loc 100000 0), (3, .loc 3 0), (7, .vec 87 4 0 ((v8 ++ [(T_env_Var.mk v17.f_Name v17.f_Words v17.f_Level v17.f_Hidden)]).length)), (73, .p (.list (.named 5)) a0), (74, .p I6 ((a0.length : Int) : Int)), (75, .p I6 v9)], [(3, .box [.p .str a1.f_Name, .p (.list .str) a1.f_Words, .p I6 a1.f_Level, .p .bool a1.f_Hidden]), (87, .row 66 (.named 5) (v8 ++ [(T_env_Var.mk v17.f_Name v17.f_Words v17.f_Level v17.f_Hidden)]) false), (100000, .box [.p (.list (.named 5)) a0])]⟩) [0, 3, 7, 73, 74, 75] [3, 87, 100000] hN (.cons (mvU (v := .vec 1007 4 0 v8.length) rfl rfl) (.cons (ldB (t := .named 5) (rs := [(11, .loc 11 0)]) [] [.p .str v17.f_Name, .p (.list .str) v17.f_Words, .p I6 v17.f_Level, .p .bool v17.f_Hidden] [] (v := .p (.named 5) ((T_env_Var.mk v17.f_Name v17.f_Words v17.f_Level v17.f_Hidden) : T_env_Var)) rfl rfl ty_66 o0 rfl rfl rfl rfl (.data (.named (us := ([.p .str v17.f_Name, .p (.list .str) v17.f_Words, .p I6 v17.f_Level, .p .bool v17.f_Hidden] : List (AVal Un))) (.pair (.one _ _) (.pair (.one _ _) (.pair (.one _ _) (.pair (.one _ _) .unit))))))) (.cons (sok_buildSlice (U := Un) (t := .named 5) (rs := [(85, .p (.named 5) ((T_env_Var.mk v17.f_Name v17.f_Words v17.f_Level v17.f_Hidden) : T_env_Var))]) (ys := [.tmp 85]) (xs := [(T_env_Var.mk v17.f_Name v17.f_Words v17.f_Level v17.f_Hidden)]) rfl rfl rfl rfl row_56 (.cons o0 .nil) (by decide)) (.cons (sok_append' (U := Un) (t := .named 5) (rs := [(84, .vec 1007 4 0 v8.length), (86, .vec 86 4 0 ([(T_env_Var.mk v17.f_Name v17.f_Words v17.f_Level v17.f_Hidden)].length))]) (vw := [(86, .row 66 (.named 5) [(T_env_Var.mk v17.f_Name v17.f_Words v17.f_Level v17.f_Hidden)] true)]) (xs := v8) (ys := [(T_env_Var.mk v17.f_Name v17.f_Words v17.f_Level v17.f_Hidden)]) (fx := false) rfl rfl rfl row_56 (by decide) o0 o1 (.whole (.head _)) (by simp) g19) (.cons (mvA (v := .vec 87 4 0 ((v8 ++ [(T_env_Var.mk v17.f_Name v17.f_Words v17.f_Level v17.f_Hidden)]).length)) rfl rfl) .nil))))) (by kernel_rfl) (by kernel_rfl) (by kernel_rfl) (cvT (Conv.ren (U := Un) (st' := ⟨[(0, .loc 100000 0), (3, .loc 3 0), (7, .vec 1007 4 0 ((v8 ++ [(T_env_Var.mk v17.f_Name v17.f_Words v17.f_Level v17.f_Hidden)]).length)), (73, .p (.list (.named 5)) a0), (74, .p I6 ((a0.length : Int) : Int)), (75, .p I6 v9)], [(3, .box [.p .str a1.f_Name, .p (.list .str) a1.f_Words, .p I6 a1.f_Level, .p .bool a1.f_Hidden]), (1007, .row 66 (.named 5) (v8 ++ [(T_env_Var.mk v17.f_Name v17.f_Words v17.f_Level v17.f_Hidden)]) false), (100000, .box [.p (.list (.named 5)) a0])]⟩) 87 1007 (by unfold K0; omega) (by kernel_rfl) (by kernel_rfl) (by kernel_rfl)) (cvK (b := ⟨[(0, .loc 100000 0), (3, .loc 3 0), (7, .vec 1007 4 0 ((v8 ++ [(T_env_Var.mk v17.f_Name v17.f_Words v17.f_Level v17.f_Hidden)]).length)), (73, .p (.list (.named 5)) a0), (74, .p I6 ((a0.length : Int) : Int)), (75, .p I6 v9)], [(3, .box [.p .str a1.f_Name, .p (.list .str) a1.f_Words, .p I6 a1.f_Level, .p .bool a1.f_Hidden]), (1007, .row 66 (.named 5) (v8 ++ [(T_env_Var.mk v17.f_Name v17.f_Words v17.f_Level v17.f_Hidden)]) false), (100000, .box [.p (.list (.named 5)) a0])]⟩) [0, 3, 7, 73, 74, 75] [3, 1007, 100000] (by kernel_rfl))) ?_
                    refine blockQ_normal ?_
                    refine tnU ?_
                    exact ⟨(v8 ++ [(T_env_Var.mk v17.f_Name v17.f_Words v17.f_Level v17.f_Hidden)]), h, rfl⟩
                  · replace h := ite_f hc18 h
                    refine WpC.conv (cvK (b := ⟨[(0, .loc 100000 0), (3, .loc 3 0), (7, .vec 1007 4 0 v8.length), (73, .p (.list (.named 5)) a0), (74, .p I6 ((a0.length : Int) : Int)), (75, .p I6 v9)], [(3, .box [.p .str a1.f_Name, .p (.list .str) a1.f_Words, .p I6 a1.f_Level, .p .bool a1.f_Hidden]), (1007, .row 66 (.named 5) v8 false), (100000, .box [.p (.list (.named 5)) a0])]⟩) [0, 3, 7, 73, 74, 75] [3, 1007, 100000] (by kernel_rfl)) (WpC.skip ?_)
                    refine blockQ_normal ?_
                    refine tnU ?_
                    exact ⟨v8, h, rfl⟩
                · rintro _ ⟨v15, h, rfl⟩
                  unfold millwrightref14_Env_Set_m0.j16 at h
                  refine rgU (st1 := ⟨[(0, .loc 100000 0), (3, .loc 3 0), (7, .vec 1007 4 0 v15.length), (73, .p (.list (.named 5)) a0), (74, .p I6 ((a0.length : Int) : Int)), (75, .p I6 ((IntKind.i64.wrap (v9 + 1)) : Int))], [(3, .box [.p .str a1.f_Name, .p (.list .str) a1.f_Words, .p I6 a1.f_Level, .p .bool a1.f_Hidden]), (1007, .row 66 (.named 5) v15 false), (100000, .box [.p (.list (.named 5)) a0])]⟩) [0, 3, 7, 73, 74, 75] [3, 1007, 100000] hN (.cons (sok_arith (U := Un) (rs := [(75, .p I6 v9)]) rfl rfl o0 (.int _ _ _) rfl) (.cons (mvU (v := .p I6 ((IntKind.i64.wrap (v9 + 1)) : Int)) rfl rfl) .nil)) (by kernel_rfl) (by kernel_rfl) (by kernel_rfl) (cvR _) ?_
                  refine tnU ?_
                  exact ⟨n, Nat.lt_succ_self n, v15, (IntKind.i64.wrap (v9 + 1)), h, rfl⟩
              · replace h := ite_f hc14 h
                refine WpC.conv (cvK (b := ⟨[(0, .loc 100000 0), (7, .vec 1007 4 0 v8.length)], [(1007, .row 66 (.named 5) v8 false), (100000, .box [.p (.list (.named 5)) a0])]⟩) [0, 7] [1007, 100000] (by kernel_rfl)) (WpC.exit ?_)
                refine thenQ_exit ?_
                have hq := Option.some.inj h
                subst hq
                refine thenQ_exit ?_
                have h := hout13
                refine blockQ_hit ?_
                refine tnU ?_
                exact ⟨v8, h, rfl⟩
          · rintro _ ⟨v6, h, rfl⟩
            unfold millwrightref14_Env_Set_m0.j7 at h
            refine WpC.seq ?_
            refine rgU (st1 := ⟨[], [(1007, .row 66 (.named 5) v6 false), (100000, .box [.vec 1007 4 0 v6.length])]⟩) [] [1007, 100000] hN (.cons (mvU (v := .loc 100000 0) rfl rfl) (.cons (mvU (v := .vec 1007 4 0 v6.length) rfl rfl) (.cons (nlU (rs := [(89, .loc 100000 0)]) rfl rfl o0 rfl) (.cons (fdB (rs := [(91, .loc 100000 0)]) rfl rfl fd_58_0 (by decide) o0) (.cons (sok_storeB (U := Un) (rs := [(92, .loc 100000 0), (90, .vec 1007 4 0 v6.length)]) (v := .vec 1007 4 0 v6.length) (mid' := [.vec 1007 4 0 v6.length]) [] [.p (.list (.named 5)) a0] [] rfl rfl rfl ty_56 o0 o1 (.hand rfl) rfl rfl rfl rfl rfl rfl) .nil))))) (by kernel_rfl) (by kernel_rfl) (by kernel_rfl) (cvR _) ?_
            refine tnU ?_
            refine WpC.seq ?_
            refine rgU (st1 := ⟨[(4, .p I6 (0 : Int))], [(1007, .row 66 (.named 5) v6 false), (100000, .box [.vec 1007 4 0 v6.length])]⟩) [4] [1007, 100000] hN (.cons (moU (rs := []) rfl (.inr rfl) (.int _ _ _)) .nil) (by kernel_rfl) (by kernel_rfl) (by kernel_rfl) (cvR _) ?_
            refine tnU ?_
            refine WpC.conv (cvT (Conv.freezeU (U := Un) 100000 1007 66 _ (.named 5) v6 false [] [] (.tail _ (.head _)) (by first | rfl | (simp only [upd_length, List.length_replicate, List.length_append]; done) | (simp only [upd_length, List.length_replicate, List.length_append] at *; omega) | omega) (.head _) (by kernel_rfl)) (cvK (b := ⟨[(4, .p I6 (0 : Int))], [(100000, .box [.p (.list (.named 5)) v6])]⟩) [4] [100000] (by kernel_rfl))) (WpC.ret ?_)
            have hq := Option.some.inj h
            subst hq
            exact ends_ret (retV_1 rfl (.head _)) (ain_cons (.head _) ain_nil)

end Go.Proofs.YtnbnfjgedinlbabDoor
