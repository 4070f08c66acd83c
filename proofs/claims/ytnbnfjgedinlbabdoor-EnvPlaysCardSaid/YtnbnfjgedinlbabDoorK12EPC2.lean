/- A part of the proof of a given law: EPC2. Own work, printed in part by a program of mine. -/
import Derived.Test.YtnbnfjgedinlbabDoorK12EPC1
namespace Go.Proofs.YtnbnfjgedinlbabDoor
open Go Go.AM
set_option linter.unusedVariables false
set_option linter.unusedSimpArgs false
set_option maxRecDepth 100000
theorem millwrightnum_Long.ok (O : Out) (hO : GOk O) (k : Nat) (a0 : List (List UInt8)) (a1 : Int) (a2 : Int) (out : Bool) (h : millwrightnum_Long.f k a0 a1 a2 = some out) : COk Un O Tryd.prog 8 { ar := [.p (.list .str) a0, .p I6 a1, .p I6 a2], r := .p .bool out } := by
  refine cok_of_wp Tryd.func8 rfl (k := 24) rfl (Nat.le_of_ble_eq_true rfl) (namesOk_pure rfl rfl rfl rfl) ?_
  intro B hN
  refine WpC.conv (cvK (b := ⟨[(0, .p (.list .str) a0), (1, .p I6 a1), (2, .p I6 a2)], []⟩) [0, 1, 2] [] (by kernel_rfl)) ?_
  unfold millwrightnum_Long.f at h
  refine WpC.seq ?_
  refine rgU (st1 := ⟨[(0, .p (.list .str) a0), (1, .p I6 a1), (2, .p I6 a2)], []⟩) [0, 1, 2] [] hN (.cons (moU (rs := []) rfl (.inr rfl) (.bool _ _)) .nil) (by kernel_rfl) (by kernel_rfl) (by kernel_rfl) (cvR _) ?_
  refine tnU ?_
  refine WpC.seq ?_
  refine WpC.seq ?_
  refine rgU (st1 := ⟨[(0, .p (.list .str) a0), (2, .p I6 a2), (12, .p .bool ((decide ((a0.length : Int) > a1)) : Bool))], []⟩) [0, 2, 12] [] hN (.cons (mvU (v := .p (.list .str) a0) rfl rfl) (.cons (sok_lenL (U := Un) (rs := [(9, .p (.list .str) a0)]) rfl rfl Tryd.underlying22 o0) (.cons (mvU (v := .p I6 a1) rfl rfl) (.cons (cmU (rs := [(10, .p I6 ((a0.length : Int) : Int)), (11, .p I6 a1)]) rfl rfl o0 o1 rfl) .nil)))) (by kernel_rfl) (by kernel_rfl) (by kernel_rfl) (cvR _) ?_
  refine tnU ?_
  refine cdU (b := (decide ((a0.length : Int) > a1))) (.tmp (.tail _ (.tail _ (.head _)))) (fun hc1 => ?_) (fun hc1 => ?_)
  · replace h := ite_t hc1 h
    refine WpC.seq ?_
    refine rgU (st1 := ⟨[(6, .p .bool true)], []⟩) [6] [] hN (.cons (moU (rs := []) rfl (.inr rfl) (.bool _ _)) .nil) (by kernel_rfl) (by kernel_rfl) (by kernel_rfl) (cvR _) ?_
    refine tnU ?_
    refine WpC.ret ?_
    refine thenQ_ret ?_
    have hq := Option.some.inj h
    subst hq
    exact ends_ret (retV_1 rfl (.head _)) ain_nil
  · replace h := ite_f hc1 h
    refine WpC.conv (cvK (b := ⟨[(0, .p (.list .str) a0), (2, .p I6 a2)], []⟩) [0, 2] [] (by kernel_rfl)) (WpC.skip ?_)
    refine tnU ?_
    refine sqJ (fun st' => millwrightnum_Long.j2 k = some out ∧ st' = ⟨[], []⟩) ?_ ?_
    · refine WpC.seq ?_
      refine rgU (st1 := ⟨[(2, .p I6 a2), (13, .p (.list .str) a0), (14, .p I6 ((a0.length : Int) : Int)), (15, .p I6 (0 : Int))], []⟩) [2, 13, 14, 15] [] hN (.cons (mvU (v := .p (.list .str) a0) rfl rfl) (.cons (sok_lenL (U := Un) (rs := [(13, .p (.list .str) a0)]) rfl rfl Tryd.underlying22 o0) (.cons (moU (rs := []) rfl (.inl rfl) (.int _ _ _)) .nil))) (by kernel_rfl) (by kernel_rfl) (by kernel_rfl) (cvR _) ?_
      refine tnU ?_
      refine WpC.block ?_
      obtain ⟨o5, hlo5, h⟩ := bind_some h
      have hout6 := h
      clear h
      refine WpC.loop (U := Un) (fun n st' => ∃ v3 : Int, millwrightnum_Long.l4 k a0 a2 n v3 = some o5 ∧ st' = ⟨[(2, .p I6 a2), (13, .p (.list .str) a0), (14, .p I6 ((a0.length : Int) : Int)), (15, .p I6 v3)], []⟩) k ⟨0, hlo5, rfl⟩ ?_
      clear hlo5
      rintro (_ | n) _ ⟨v3, h, rfl⟩
      · cases h
      · rw [millwrightnum_Long.l4] at h
        refine WpC.seq ?_
        refine rgU (st1 := ⟨[(2, .p I6 a2), (13, .p (.list .str) a0), (14, .p I6 ((a0.length : Int) : Int)), (15, .p I6 v3), (16, .p .bool ((decide (v3 < (a0.length : Int))) : Bool))], []⟩) [2, 13, 14, 15, 16] [] hN (.cons (cmU (rs := [(15, .p I6 v3), (14, .p I6 ((a0.length : Int) : Int))]) rfl rfl o0 o1 rfl) .nil) (by kernel_rfl) (by kernel_rfl) (by kernel_rfl) (cvR _) ?_
        refine tnU ?_
        refine WpC.seq ?_
        refine cdU (b := (decide (v3 < (a0.length : Int)))) (.tmp (.tail _ (.tail _ (.tail _ (.tail _ (.head _)))))) (fun hc7 => ?_) (fun hc7 => ?_)
        · replace h := ite_t hc7 h
          refine WpC.conv (cvK (b := ⟨[(2, .p I6 a2), (13, .p (.list .str) a0), (14, .p I6 ((a0.length : Int) : Int)), (15, .p I6 v3)], []⟩) [2, 13, 14, 15] [] (by kernel_rfl)) (WpC.skip ?_)
          refine tnU ?_
          refine WpC.seq ?_
          refine WpC.block ?_
          refine WpC.seq ?_
          obtain ⟨v8, hv8, h⟩ := bind_some h
          refine rgU (st1 := ⟨[(2, .p I6 a2), (8, .p .str v8), (13, .p (.list .str) a0), (14, .p I6 ((a0.length : Int) : Int)), (15, .p I6 v3)], []⟩) [2, 8, 13, 14, 15] [] hN (.cons (sok_indexL (U := Un) (rs := [(13, .p (.list .str) a0), (15, .p I6 v3)]) rfl rfl sl_22 o0 o1 hv8) (.cons (sok_loadP (U := Un) (rs := [(17, .pp .str v8)]) rfl rfl ty_9 o0) (.cons (mvA (v := .p .str v8) rfl rfl) .nil))) (by kernel_rfl) (by kernel_rfl) (by kernel_rfl) (cvR _) ?_
          refine tnU ?_
          refine WpC.seq ?_
          refine rgU (st1 := ⟨[(2, .p I6 a2), (13, .p (.list .str) a0), (14, .p I6 ((a0.length : Int) : Int)), (15, .p I6 v3), (22, .p .bool ((decide ((v8.length : Int) > a2)) : Bool))], []⟩) [2, 13, 14, 15, 22] [] hN (.cons (mvU (v := .p .str v8) rfl rfl) (.cons (sok_lenS (U := Un) (rs := [(19, .p .str v8)]) rfl rfl Tryd.underlying9 o0) (.cons (mvU (v := .p I6 a2) rfl rfl) (.cons (cmU (rs := [(20, .p I6 ((v8.length : Int) : Int)), (21, .p I6 a2)]) rfl rfl o0 o1 rfl) .nil)))) (by kernel_rfl) (by kernel_rfl) (by kernel_rfl) (cvR _) ?_
          refine tnU ?_
          refine cdU (b := (decide ((v8.length : Int) > a2))) (.tmp (.tail _ (.tail _ (.tail _ (.tail _ (.head _)))))) (fun hc9 => ?_) (fun hc9 => ?_)
          · replace h := ite_t hc9 h
            refine WpC.seq ?_
            refine rgU (st1 := ⟨[(6, .p .bool true)], []⟩) [6] [] hN (.cons (moU (rs := []) rfl (.inr rfl) (.bool _ _)) .nil) (by kernel_rfl) (by kernel_rfl) (by kernel_rfl) (cvR _) ?_
            refine tnU ?_
            refine WpC.ret ?_
            refine blockQ_ret ?_
            refine thenQ_ret ?_
            have hq := Option.some.inj h
            subst hq
            refine thenQ_ret ?_
            have h := hout6
            refine blockQ_ret ?_
            refine thenQ_ret ?_
            have hq := Option.some.inj h
            subst hq
            exact ends_ret (retV_1 rfl (.head _)) ain_nil
          · replace h := ite_f hc9 h
            refine WpC.conv (cvK (b := ⟨[(2, .p I6 a2), (13, .p (.list .str) a0), (14, .p I6 ((a0.length : Int) : Int)), (15, .p I6 v3)], []⟩) [2, 13, 14, 15] [] (by kernel_rfl)) (WpC.skip ?_)
            refine blockQ_normal ?_
            refine tnU ?_
            refine rgU (st1 := ⟨[(2, .p I6 a2), (13, .p (.list .str) a0), (14, .p I6 ((a0.length : Int) : Int)), (15, .p I6 ((IntKind.i64.wrap (v3 + 1)) : Int))], []⟩) [2, 13, 14, 15] [] hN (.cons (sok_arith (U := Un) (rs := [(15, .p I6 v3)]) rfl rfl o0 (.int _ _ _) rfl) (.cons (mvU (v := .p I6 ((IntKind.i64.wrap (v3 + 1)) : Int)) rfl rfl) .nil)) (by kernel_rfl) (by kernel_rfl) (by kernel_rfl) (cvR _) ?_
            refine tnU ?_
            exact ⟨n, Nat.lt_succ_self n, (IntKind.i64.wrap (v3 + 1)), h, rfl⟩
        · replace h := ite_f hc7 h
          refine WpC.conv (cvK (b := ⟨[], []⟩) [] [] (by kernel_rfl)) (WpC.exit ?_)
          refine thenQ_exit ?_
          have hq := Option.some.inj h
          subst hq
          refine thenQ_exit ?_
          have h := hout6
          refine blockQ_hit ?_
          refine tnU ?_
          exact ⟨h, rfl⟩
    · rintro _ ⟨h, rfl⟩
      unfold millwrightnum_Long.j2 at h
      refine WpC.seq ?_
      refine rgU (st1 := ⟨[(6, .p .bool false)], []⟩) [6] [] hN (.cons (moU (rs := []) rfl (.inr rfl) (.bool _ _)) .nil) (by kernel_rfl) (by kernel_rfl) (by kernel_rfl) (cvR _) ?_
      refine tnU ?_
      refine WpC.ret ?_
      have hq := Option.some.inj h
      subst hq
      exact ends_ret (retV_1 rfl (.head _)) ain_nil

theorem millwrightlaw14_Long.ok (O : Out) (hO : GOk O) (k : Nat) (a0 : List T_millwrightlaw14_Act) (a1 : Int) (out : Bool) (h : millwrightlaw14_Long.f k a0 a1 = some out) : COk Un O Tryd.prog 25 { ar := [.p (.list (.named 4)) a0, .p I6 a1], r := .p .bool out } := by
  refine cok_of_wp Tryd.func25 rfl (k := 29) rfl (Nat.le_of_ble_eq_true rfl) (namesOk_pure rfl rfl rfl rfl) ?_
  intro B hN
  refine WpC.conv (cvK (b := ⟨[(0, .p (.list (.named 4)) a0), (1, .p I6 a1)], []⟩) [0, 1] [] (by kernel_rfl)) ?_
  unfold millwrightlaw14_Long.f at h
  refine WpC.seq ?_
  refine rgU (st1 := ⟨[(0, .p (.list (.named 4)) a0), (1, .p I6 a1)], []⟩) [0, 1] [] hN (.cons (moU (rs := []) rfl (.inr rfl) (.bool _ _)) .nil) (by kernel_rfl) (by kernel_rfl) (by kernel_rfl) (cvR _) ?_
  refine tnU ?_
  refine WpC.seq ?_
  refine WpC.seq ?_
  refine rgU (st1 := ⟨[(0, .p (.list (.named 4)) a0), (10, .p .bool ((decide ((a0.length : Int) > a1)) : Bool))], []⟩) [0, 10] [] hN (.cons (mvU (v := .p (.list (.named 4)) a0) rfl rfl) (.cons (sok_lenL (U := Un) (rs := [(7, .p (.list (.named 4)) a0)]) rfl rfl Tryd.underlying51 o0) (.cons (mvU (v := .p I6 a1) rfl rfl) (.cons (cmU (rs := [(8, .p I6 ((a0.length : Int) : Int)), (9, .p I6 a1)]) rfl rfl o0 o1 rfl) .nil)))) (by kernel_rfl) (by kernel_rfl) (by kernel_rfl) (cvR _) ?_
  refine tnU ?_
  refine cdU (b := (decide ((a0.length : Int) > a1))) o1 (fun hc1 => ?_) (fun hc1 => ?_)
  · replace h := ite_t hc1 h
    refine WpC.seq ?_
    refine rgU (st1 := ⟨[(4, .p .bool true)], []⟩) [4] [] hN (.cons (moU (rs := []) rfl (.inr rfl) (.bool _ _)) .nil) (by kernel_rfl) (by kernel_rfl) (by kernel_rfl) (cvR _) ?_
    refine tnU ?_
    refine WpC.ret ?_
    refine thenQ_ret ?_
    have hq := Option.some.inj h
    subst hq
    exact ends_ret (retV_1 rfl (.head _)) ain_nil
  · replace h := ite_f hc1 h
    refine WpC.conv (cvK (b := ⟨[(0, .p (.list (.named 4)) a0)], []⟩) [0] [] (by kernel_rfl)) (WpC.skip ?_)
    refine tnU ?_
    refine sqJ (fun st' => millwrightlaw14_Long.j2 k = some out ∧ st' = ⟨[], []⟩) ?_ ?_
    · refine WpC.seq ?_
      refine rgU (st1 := ⟨[(11, .p (.list (.named 4)) a0), (12, .p I6 ((a0.length : Int) : Int)), (13, .p I6 (0 : Int))], []⟩) [11, 12, 13] [] hN (.cons (mvU (v := .p (.list (.named 4)) a0) rfl rfl) (.cons (sok_lenL (U := Un) (rs := [(11, .p (.list (.named 4)) a0)]) rfl rfl Tryd.underlying51 o0) (.cons (moU (rs := []) rfl (.inl rfl) (.int _ _ _)) .nil))) (by kernel_rfl) (by kernel_rfl) (by kernel_rfl) (cvR _) ?_
      refine tnU ?_
      refine WpC.block ?_
      obtain ⟨o5, hlo5, h⟩ := bind_some h
      have hout6 := h
      clear h
      refine WpC.loop (U := Un) (fun n st' => ∃ v3 : Int, millwrightlaw14_Long.l4 k a0 n v3 = some o5 ∧ st' = ⟨[(11, .p (.list (.named 4)) a0), (12, .p I6 ((a0.length : Int) : Int)), (13, .p I6 v3)], []⟩) k ⟨0, hlo5, rfl⟩ ?_
      clear hlo5
      rintro (_ | n) _ ⟨v3, h, rfl⟩
      · cases h
      · rw [millwrightlaw14_Long.l4] at h
        refine WpC.seq ?_
        refine rgU (st1 := ⟨[(11, .p (.list (.named 4)) a0), (12, .p I6 ((a0.length : Int) : Int)), (13, .p I6 v3), (14, .p .bool ((decide (v3 < (a0.length : Int))) : Bool))], []⟩) [11, 12, 13, 14] [] hN (.cons (cmU (rs := [(13, .p I6 v3), (12, .p I6 ((a0.length : Int) : Int))]) rfl rfl o0 o1 rfl) .nil) (by kernel_rfl) (by kernel_rfl) (by kernel_rfl) (cvR _) ?_
        refine tnU ?_
        refine WpC.seq ?_
        refine cdU (b := (decide (v3 < (a0.length : Int)))) (.tmp (.tail _ (.tail _ (.tail _ (.head _))))) (fun hc7 => ?_) (fun hc7 => ?_)
        · replace h := ite_t hc7 h
          refine WpC.conv (cvK (b := ⟨[(11, .p (.list (.named 4)) a0), (12, .p I6 ((a0.length : Int) : Int)), (13, .p I6 v3)], []⟩) [11, 12, 13] [] (by kernel_rfl)) (WpC.skip ?_)
          refine tnU ?_
          refine sqJ (fun st' => millwrightlaw14_Long.j8 k (millwrightlaw14_Long.l4 k a0 n) a0 v3 = some o5 ∧ st' = ⟨[(11, .p (.list (.named 4)) a0), (12, .p I6 ((a0.length : Int) : Int)), (13, .p I6 v3)], []⟩) ?_ ?_
          · refine WpC.block ?_
            refine WpC.seq ?_
            obtain ⟨v9, hv9, h⟩ := bind_some h
            refine rgU (st1 := ⟨[(6, .loc 6 0), (11, .p (.list (.named 4)) a0), (12, .p I6 ((a0.length : Int) : Int)), (13, .p I6 v3)], [(6, .box [.p I6 v9.f_Kind, .p .str v9.f_Var.f_Name, .p (.list .str) v9.f_Var.f_Words, .p I6 v9.f_Var.f_Level, .p .bool v9.f_Var.f_Hidden])]⟩) [6, 11, 12, 13] [6] hN (.cons (sok_indexL (U := Un) (rs := [(11, .p (.list (.named 4)) a0), (13, .p I6 v3)]) rfl rfl sl_51 o0 o1 hv9) (.cons (sok_loadP (U := Un) (rs := [(15, .pp (.named 4) v9)]) rfl rfl ty_62 o0) (.cons (sok_allocZ (U := Un) (rs := []) (d := 6) (us := [.p I6 (0 : Int), .p .str ([] : List UInt8), .p (.list .str) ([] : List (List UInt8)), .p I6 (0 : Int), .p .bool false]) (v := (.agg #[.int .i64 0, .string ByteArray.empty, .slice none 0 0, .int .i64 0, .bool false])) rfl rfl rfl (by kernel_rfl) rfl (.data (fun _ _ _ => .int _ _) (.data (fun _ _ _ => rd_str0) (.data (fun _ _ _ => .lnil _) (.data (fun _ _ _ => .int _ _) (.data (fun _ _ _ => .bool _) .nil))))) (by kernel_rfl)) (.cons (sok_storeB (U := Un) (rs := [(6, .loc 6 0), (16, .p (.named 4) v9)]) (v := .p (.named 4) v9) (mid' := [.p I6 v9.f_Kind, .p .str v9.f_Var.f_Name, .p (.list .str) v9.f_Var.f_Words, .p I6 v9.f_Var.f_Level, .p .bool v9.f_Var.f_Hidden]) [] [.p I6 (0 : Int), .p .str ([] : List UInt8), .p (.list .str) ([] : List (List UInt8)), .p I6 (0 : Int), .p .bool false] [] rfl rfl rfl ty_62 o0 o1 (.data (.named (us := ([.p I6 v9.f_Kind, .p .str v9.f_Var.f_Name, .p (.list .str) v9.f_Var.f_Words, .p I6 v9.f_Var.f_Level, .p .bool v9.f_Var.f_Hidden] : List (AVal Un))) (.pair (.one _ _) (.pair (.named (us := ([.p .str v9.f_Var.f_Name, .p (.list .str) v9.f_Var.f_Words, .p I6 v9.f_Var.f_Level, .p .bool v9.f_Var.f_Hidden] : List (AVal Un))) (.pair (.one _ _) (.pair (.one _ _) (.pair (.one _ _) (.pair (.one _ _) .unit))))) .unit)))) rfl rfl rfl rfl rfl rfl) .nil)))) (by kernel_rfl) (by kernel_rfl) (by kernel_rfl) (cvR _) ?_
            refine tnU ?_
            refine sqJ (fun st' => ∃ v10 : Bool, millwrightlaw14_Long.j12 k (millwrightlaw14_Long.l4 k a0 n) a0 v3 v10 = some o5 ∧ st' = ⟨[(11, .p (.list (.named 4)) a0), (12, .p I6 ((a0.length : Int) : Int)), (13, .p I6 v3), (27, .p .bool v10)], []⟩) ?_ ?_
            · rcases bool_cases (decide ((v9.f_Var.f_Name.length : Int) > 60)) with hc13 | hc13
              · replace h := ite_t hc13 h
                refine rgU (st1 := ⟨[(11, .p (.list (.named 4)) a0), (12, .p I6 ((a0.length : Int) : Int)), (13, .p I6 v3), (27, .p .bool true)], []⟩) [11, 12, 13, 27] [] hN (.cons (fdB (rs := [(6, .loc 6 0)]) rfl rfl fd_62_1 (by decide) o0) (.cons (fdB (rs := [(17, .loc 6 1)]) rfl rfl fd_60_0 (by decide) o0) (.cons (ldB (t := .str) (rs := [(18, .loc 6 1)]) [.p I6 v9.f_Kind] [.p .str v9.f_Var.f_Name] [.p (.list .str) v9.f_Var.f_Words, .p I6 v9.f_Var.f_Level, .p .bool v9.f_Var.f_Hidden] (v := .p .str v9.f_Var.f_Name) rfl rfl ty_9 o0 rfl rfl rfl rfl (.data (.one _ _))) (.cons (sok_lenS (U := Un) (rs := [(19, .p .str v9.f_Var.f_Name)]) rfl rfl Tryd.underlying9 o0) (.cons (cmU (rs := [(20, .p I6 ((v9.f_Var.f_Name.length : Int) : Int))]) rfl rfl o0 (.int _ _ _) rfl) (.cons (mvU (v := .p .bool ((decide ((v9.f_Var.f_Name.length : Int) > 60)) : Bool)) rfl rfl) (.cons (skU rfl rfl hc13) (.cons (skU rfl rfl hc13) (.cons (skU rfl rfl hc13) (.cons (skU rfl rfl hc13) (.cons (pkT (rs := [(22, .p .bool ((decide ((v9.f_Var.f_Name.length : Int) > 60)) : Bool))]) rfl rfl o0 hc13 (.bool _ _)) .nil))))))))))) (by kernel_rfl) (by kernel_rfl) (by kernel_rfl) (cvR _) ?_
                refine tnU ?_
                exact ⟨true, h, rfl⟩
              · replace h := ite_f hc13 h
                obtain ⟨v14, hv14, h⟩ := bind_some h
                refine rgU (st1 := ⟨[(11, .p (.list (.named 4)) a0), (12, .p I6 ((a0.length : Int) : Int)), (13, .p I6 v3), (27, .p .bool v14)], []⟩) [11, 12, 13, 27] [] hN (.cons (fdB (rs := [(6, .loc 6 0)]) rfl rfl fd_62_1 (by decide) o0) (.cons (fdB (rs := [(17, .loc 6 1)]) rfl rfl fd_60_0 (by decide) o0) (.cons (ldB (t := .str) (rs := [(18, .loc 6 1)]) [.p I6 v9.f_Kind] [.p .str v9.f_Var.f_Name] [.p (.list .str) v9.f_Var.f_Words, .p I6 v9.f_Var.f_Level, .p .bool v9.f_Var.f_Hidden] (v := .p .str v9.f_Var.f_Name) rfl rfl ty_9 o0 rfl rfl rfl rfl (.data (.one _ _))) (.cons (sok_lenS (U := Un) (rs := [(19, .p .str v9.f_Var.f_Name)]) rfl rfl Tryd.underlying9 o0) (.cons (cmU (rs := [(20, .p I6 ((v9.f_Var.f_Name.length : Int) : Int))]) rfl rfl o0 (.int _ _ _) rfl) (.cons (mvU (v := .p .bool ((decide ((v9.f_Var.f_Name.length : Int) > 60)) : Bool)) rfl rfl) (.cons (sok_run rfl rfl hc13 (fdB (rs := [(6, .loc 6 0)]) rfl rfl fd_62_1 (by decide) o0)) (.cons (sok_run rfl rfl hc13 (fdB (rs := [(23, .loc 6 1)]) rfl rfl fd_60_1 (by decide) o0)) (.cons (sok_run rfl rfl hc13 (ldB (t := .list .str) (rs := [(24, .loc 6 2)]) [.p I6 v9.f_Kind, .p .str v9.f_Var.f_Name] [.p (.list .str) v9.f_Var.f_Words] [.p I6 v9.f_Var.f_Level, .p .bool v9.f_Var.f_Hidden] (v := .p (.list .str) v9.f_Var.f_Words) rfl rfl ty_22 o0 rfl rfl rfl rfl (.data (.one _ _)))) (.cons (sok_run rfl rfl hc13 (caV (rs := [(25, .p (.list .str) v9.f_Var.f_Words)]) (vw := []) rfl rfl (.func _) hb_8 (millwrightnum_Long.ok O hO k v9.f_Var.f_Words 60 200 v14 hv14) (.cons o0 (.cons (.int _ _ _) (.cons (.int _ _ _) .nil))) (.cons (.same _) (.cons (.same _) (.cons (.same _) .nil))) (by simp) (.inl rfl))) (.cons (pkF (rs := [(22, .p .bool ((decide ((v9.f_Var.f_Name.length : Int) > 60)) : Bool)), (26, .p .bool v14)]) rfl rfl o0 hc13 o1) .nil))))))))))) (by kernel_rfl) (by kernel_rfl) (by kernel_rfl) (cvR _) ?_
                refine tnU ?_
                exact ⟨v14, h, rfl⟩
            · rintro _ ⟨v10, h, rfl⟩
              unfold millwrightlaw14_Long.j12 at h
              refine cdU (b := v10) (.tmp (.tail _ (.tail _ (.tail _ (.head _))))) (fun hc11 => ?_) (fun hc11 => ?_)
              · replace h := ite_t hc11 h
                refine WpC.seq ?_
                refine rgU (st1 := ⟨[(4, .p .bool true)], []⟩) [4] [] hN (.cons (moU (rs := []) rfl (.inr rfl) (.bool _ _)) .nil) (by kernel_rfl) (by kernel_rfl) (by kernel_rfl) (cvR _) ?_
                refine tnU ?_
                refine WpC.ret ?_
                refine blockQ_ret ?_
                refine thenQ_ret ?_
                have hq := Option.some.inj h
                subst hq
                refine thenQ_ret ?_
                have h := hout6
                refine blockQ_ret ?_
                refine thenQ_ret ?_
                have hq := Option.some.inj h
                subst hq
                exact ends_ret (retV_1 rfl (.head _)) ain_nil
              · replace h := ite_f hc11 h
                refine WpC.conv (cvK (b := ⟨[(11, .p (.list (.named 4)) a0), (12, .p I6 ((a0.length : Int) : Int)), (13, .p I6 v3)], []⟩) [11, 12, 13] [] (by kernel_rfl)) (WpC.skip ?_)
                refine blockQ_normal ?_
                refine tnU ?_
                exact ⟨h, rfl⟩
          · rintro _ ⟨h, rfl⟩
            unfold millwrightlaw14_Long.j8 at h
            refine rgU (st1 := ⟨[(11, .p (.list (.named 4)) a0), (12, .p I6 ((a0.length : Int) : Int)), (13, .p I6 ((IntKind.i64.wrap (v3 + 1)) : Int))], []⟩) [11, 12, 13] [] hN (.cons (sok_arith (U := Un) (rs := [(13, .p I6 v3)]) rfl rfl o0 (.int _ _ _) rfl) (.cons (mvU (v := .p I6 ((IntKind.i64.wrap (v3 + 1)) : Int)) rfl rfl) .nil)) (by kernel_rfl) (by kernel_rfl) (by kernel_rfl) (cvR _) ?_
            refine tnU ?_
            exact ⟨n, Nat.lt_succ_self n, (IntKind.i64.wrap (v3 + 1)), h, rfl⟩
        · replace h := ite_f hc7 h
          refine WpC.conv (cvK (b := ⟨[], []⟩) [] [] (by kernel_rfl)) (WpC.exit ?_)
          refine thenQ_exit ?_
          have hq := Option.some.inj h
          subst hq
          refine thenQ_exit ?_
          have h := hout6
          refine blockQ_hit ?_
          refine tnU ?_
          exact ⟨h, rfl⟩
    · rintro _ ⟨h, rfl⟩
      unfold millwrightlaw14_Long.j2 at h
      refine WpC.seq ?_
      refine rgU (st1 := ⟨[(4, .p .bool false)], []⟩) [4] [] hN (.cons (moU (rs := []) rfl (.inr rfl) (.bool _ _)) .nil) (by kernel_rfl) (by kernel_rfl) (by kernel_rfl) (cvR _) ?_
      refine tnU ?_
      refine WpC.ret ?_
      have hq := Option.some.inj h
      subst hq
      exact ends_ret (retV_1 rfl (.head _)) ain_nil

theorem env_Env_Copy_m0.ok (O : Out) (hO : GOk O) (k : Nat) (a0 : List ((List UInt8) × T_env_Var)) (out : List ((List UInt8) × T_env_Var)) (h : env_Env_Copy_m0.f k a0 = some out) : COk Un O Tryd.prog 27 { ar := [.loc 100000 0], r := .loc 60500 0, bs := [(100000, .box [.mp 100001]), (100001, .map (.named 5) a0)], bs' := [(60500, .box [.mp 60501]), (60501, .map (.named 5) out), (100000, .box [.mp 100001]), (100001, .map (.named 5) a0)], nn := [60500, 60501] } := by
  refine cok_of_wp Tryd.func27 rfl (k := 25) rfl (Nat.le_of_ble_eq_true rfl) (namesOk_of (by kernel_rfl)) ?_
  intro B hN
  refine WpC.conv (cvK (b := ⟨[(0, .loc 100000 0)], [(100000, .box [.mp 100001]), (100001, .map (.named 5) a0)]⟩) [0] [100000, 100001] (by kernel_rfl)) ?_
  unfold env_Env_Copy_m0.f at h
  refine WpC.seq ?_
  refine rgU (st1 := ⟨[(0, .loc 100000 0)], [(100000, .box [.mp 100001]), (100001, .map (.named 5) a0)]⟩) [0] [100000, 100001] hN (.cons (moU (rs := []) rfl (.inr rfl) (.lit _ _ rfl)) .nil) (by kernel_rfl) (by kernel_rfl) (by kernel_rfl) (cvR _) ?_
  refine tnU ?_
  refine WpC.seq ?_
  obtain ⟨v1, hv1, h⟩ := bind_some h
  refine rgU (st1 := ⟨[(0, .loc 100000 0), (3, .loc 10001 0)], [(10001, .box [.mp 10002]), (10002, .map (.named 5) v1), (100000, .box [.mp 100001]), (100001, .map (.named 5) a0)]⟩) [0, 3] [10001, 10002, 100000, 100001] hN (.cons (caV (rs := []) (vw := []) rfl rfl (.func _) hb_26 (COk.ren (env_New.ok O hO k v1 hv1) (fun n => if n = 60500 then 10001 else if n = 60501 then 10002 else n) (injOn_of (by kernel_rfl))) .nil .nil (by simp) (.inl rfl)) (.cons (mvA (v := .loc 10001 0) rfl rfl) .nil)) (by kernel_rfl) (by kernel_rfl) (by kernel_rfl) (cvR _) ?_
  refine tnU ?_
  refine sqJ (fun st' => ∃ v2 : List ((List UInt8) × T_env_Var), env_Env_Copy_m0.j3 k a0 v2 = some out ∧ st' = ⟨[(3, .loc 10001 0)], [(10001, .box [.mp 10002]), (10002, .map (.named 5) v2), (100000, .box [.mp 100001]), (100001, .map (.named 5) a0)]⟩) ?_ ?_
  · refine WpC.seq ?_
    refine WpC.openMap (U := Un) (t := .named 5) (n := 100001) (kvs := a0) (.tail _ (.tail _ (.tail _ (.head _)))) ?_
    intro es4 ck4 ys4 hys4 hri4
    refine WpC.conv (cvK (b := ⟨[(0, .loc 100000 0), (3, .loc 10001 0)], [(10001, .box [.mp 10002]), (10002, .map (.named 5) v1), (100000, .box [.mp 100001]), (100001, .mapE (.named 5) es4 ck4 ys4)]⟩) [0, 3] [10001, 10002, 100000, 100001] (by kernel_rfl)) ?_
    refine rgU (st1 := ⟨[(3, .loc 10001 0), (11, .loc 11 0)], [(11, .iter 100001 (.named 5) es4 ck4 ys4 a0 none), (10001, .box [.mp 10002]), (10002, .map (.named 5) v1), (100000, .box [.mp 100001]), (100001, .mapE (.named 5) es4 ck4 ys4)]⟩) [3, 11] [11, 10001, 10002, 100000, 100001] hN (.cons (mvU (v := .loc 100000 0) rfl rfl) (.cons (nlU (rs := [(7, .loc 100000 0)]) rfl rfl o0 rfl) (.cons (fdB (rs := [(8, .loc 100000 0)]) rfl rfl fd_91_0 (by decide) o0) (.cons (ldB (t := .bool) (rs := [(9, .loc 100000 0)]) [] [.mp 100001] [] (v := .mp 100001) rfl rfl ty1_89 o0 rfl rfl rfl rfl (.hand rfl rfl)) (.cons (sok_range (U := Un) (t := .named 5) (es := es4) (clock := ck4) (kvs := a0) (rs := [(10, .mp 100001)]) (d := 11) (m := 100001) rfl rfl rfl map_89 hys4 (by decide) o0) .nil))))) (by kernel_rfl) (by kernel_rfl) (by kernel_rfl) (cvR _) ?_
    refine tnU ?_
    refine WpC.block ?_
    obtain ⟨o9, hlo9, h⟩ := bind_some h
    have hout10 := h
    clear h
    refine WpC.loop (U := Un) (fun n st' => ∃ v5 : List ((List UInt8) × T_env_Var), ∃ v6 : List ((List UInt8) × T_env_Var), env_Env_Copy_m0.l7 k n v5 v6 = some o9 ∧ st' = ⟨[(3, .loc 10001 0), (11, .loc 11 0)], [(11, .iter 100001 (.named 5) es4 ck4 ys4 v6 none), (10001, .box [.mp 10002]), (10002, .map (.named 5) v5), (100000, .box [.mp 100001]), (100001, .mapE (.named 5) es4 ck4 ys4)]⟩) k ⟨v1, a0, hlo9, rfl⟩ ?_
    clear hlo9
    rintro (_ | n) _ ⟨v5, v6, h, rfl⟩
    · cases h
    · refine WpC.seq ?_
      refine WpC.next (U := Un) (t := .named 5) (d := 11) (m := 100001) (it := 11) (left := v6) [3, 11, 13] [11, 10001, 10002, 100000, 100001] hN rfl rfl rfl rfl rfl rfl (by decide) (by decide) (by decide) (.tail _ (.head _)) (.head _) (.tail _ (.tail _ (.tail _ (.tail _ (.head _))))) (fun (v11 : (List UInt8) × T_env_Var) (v12 : List ((List UInt8) × T_env_Var)) hp13 ha13 => ⟨⟨[(3, .loc 10001 0), (11, .loc 11 0), (13, .p .bool true)], [(11, .iter 100001 (.named 5) es4 ck4 ys4 v12 (some v11)), (10001, .box [.mp 10002]), (10002, .map (.named 5) v5), (100000, .box [.mp 100001]), (100001, .mapE (.named 5) es4 ck4 ys4)]⟩, by kernel_rfl, _, (cvR _), ?_⟩) (fun hl13 => ⟨⟨[(3, .loc 10001 0), (11, .loc 11 0), (13, .p .bool false)], [(11, .iter 100001 (.named 5) es4 ck4 ys4 v6 none), (10001, .box [.mp 10002]), (10002, .map (.named 5) v5), (100000, .box [.mp 100001]), (100001, .mapE (.named 5) es4 ck4 ys4)]⟩, by kernel_rfl, _, (cvR _), ?_⟩)
      · have h := env_Env_Copy_m0.l7_perm k hp13 ha13 h
        unfold env_Env_Copy_m0.l7 at h
        obtain ⟨_, h⟩ := if_some h
        refine tnU ?_
        refine WpC.seq ?_
        refine cdU (b := true) (.tmp (.tail _ (.tail _ (.head _)))) (fun hc => ?_) (fun hc => ?_)
        · refine WpC.conv (cvK (b := ⟨[(3, .loc 10001 0), (11, .loc 11 0)], [(11, .iter 100001 (.named 5) es4 ck4 ys4 v12 (some v11)), (10001, .box [.mp 10002]), (10002, .map (.named 5) v5), (100000, .box [.mp 100001]), (100001, .mapE (.named 5) es4 ck4 ys4)]⟩) [3, 11] [11, 10001, 10002, 100000, 100001] (by kernel_rfl)) (WpC.skip ?_)
          refine tnU ?_
          refine WpC.block ?_
          refine WpC.seq ?_
          refine rgU (st1 := ⟨[(3, .loc 10001 0), (4, .p .str v11.1), (5, .loc 5 0), (11, .loc 11 0)], [(5, .box [.p .str v11.2.f_Name, .p (.list .str) v11.2.f_Words, .p I6 v11.2.f_Level, .p .bool v11.2.f_Hidden]), (11, .iter 100001 (.named 5) es4 ck4 ys4 v12 (some v11)), (10001, .box [.mp 10002]), (10002, .map (.named 5) v5), (100000, .box [.mp 100001]), (100001, .mapE (.named 5) es4 ck4 ys4)]⟩) [3, 4, 5, 11] [5, 11, 10001, 10002, 100000, 100001] hN (.cons (sok_entry (U := Un) (t := .named 5) (rs := [(11, .loc 11 0)]) (d := 11) (m := 100001) (es := es4) (clock := ck4) (ys := ys4) (left := v12) (y := v11) rfl rfl o0) (.cons (exU (rs := [(14, .tup [.p .str v11.1, .p (.named 5) v11.2])]) rfl rfl o0 rfl) (.cons (exU (rs := [(14, .tup [.p .str v11.1, .p (.named 5) v11.2])]) rfl rfl o0 rfl) (.cons (sok_allocZ (U := Un) (rs := []) (d := 5) (us := [.p .str ([] : List UInt8), .p (.list .str) ([] : List (List UInt8)), .p I6 (0 : Int), .p .bool false]) (v := (.agg #[.string ByteArray.empty, .slice none 0 0, .int .i64 0, .bool false])) rfl rfl rfl (by kernel_rfl) rfl (.data (fun _ _ _ => rd_str0) (.data (fun _ _ _ => .lnil _) (.data (fun _ _ _ => .int _ _) (.data (fun _ _ _ => .bool _) .nil)))) (by kernel_rfl)) (.cons (mvA (v := .p .str v11.1) rfl rfl) (.cons (sok_storeB (U := Un) (rs := [(5, .loc 5 0), (16, .p (.named 5) v11.2)]) (v := .p (.named 5) v11.2) (mid' := [.p .str v11.2.f_Name, .p (.list .str) v11.2.f_Words, .p I6 v11.2.f_Level, .p .bool v11.2.f_Hidden]) [] [.p .str ([] : List UInt8), .p (.list .str) ([] : List (List UInt8)), .p I6 (0 : Int), .p .bool false] [] rfl rfl rfl ty_60 o0 o1 (.data (.named (us := ([.p .str v11.2.f_Name, .p (.list .str) v11.2.f_Words, .p I6 v11.2.f_Level, .p .bool v11.2.f_Hidden] : List (AVal Un))) (.pair (.one _ _) (.pair (.one _ _) (.pair (.one _ _) (.pair (.one _ _) .unit)))))) rfl rfl rfl rfl rfl rfl) .nil)))))) (by kernel_rfl) (by kernel_rfl) (by kernel_rfl) (cvR _) ?_
          refine tnU ?_
          obtain ⟨v14, hv14, h⟩ := bind_some h
          refine WpC.regA (U := Un) (st1 := ⟨[(3, .loc 10001 0), (11, .loc 11 0)], [(11, .iter 100001 (.named 5) es4 ck4 ys4 v12 (some v11)), (10001, .box [.mp 10002]), (10002, .map (.named 5) ((mput v11.1 v14 v5) : List ((List UInt8) × T_env_Var))), (100000, .box [.mp 100001]), (100001, .mapE (.named 5) es4 ck4 ys4)]⟩) [3, 11] [11, 10001, 10002, 100000, 100001] [[], [0], [0, 1], [0, 1, 2], [], [], [5], [0, 1, 2, 3, 4, 5, 6]] mixed hN (.cons (mvU (v := .loc 10001 0) rfl rfl) (.cons (nlU (rs := [(17, .loc 10001 0)]) rfl rfl o0 rfl) (.cons (fdB (rs := [(18, .loc 10001 0)]) rfl rfl fd_91_0 (by decide) o0) (.cons (ldB (t := .bool) (rs := [(19, .loc 10001 0)]) [] [.mp 10002] [] (v := .mp 10002) rfl rfl ty1_89 o0 rfl rfl rfl rfl (.hand rfl rfl)) (.cons (mvU (v := .p .str v11.1) rfl rfl) (.cons (ldB (t := .named 5) (rs := [(5, .loc 5 0)]) [] [.p .str v11.2.f_Name, .p (.list .str) v11.2.f_Words, .p I6 v11.2.f_Level, .p .bool v11.2.f_Hidden] [] (v := .p (.named 5) ((T_env_Var.mk v11.2.f_Name v11.2.f_Words v11.2.f_Level v11.2.f_Hidden) : T_env_Var)) rfl rfl ty_60 o0 rfl rfl rfl rfl (.data (.named (us := ([.p .str v11.2.f_Name, .p (.list .str) v11.2.f_Words, .p I6 v11.2.f_Level, .p .bool v11.2.f_Hidden] : List (AVal Un))) (.pair (.one _ _) (.pair (.one _ _) (.pair (.one _ _) (.pair (.one _ _) .unit))))))) (.cons (caV (rs := [(22, .p (.named 5) ((T_env_Var.mk v11.2.f_Name v11.2.f_Words v11.2.f_Level v11.2.f_Hidden) : T_env_Var))]) (vw := []) rfl rfl (.func _) hb_51 (env_Var_apart.ok O hO k (T_env_Var.mk v11.2.f_Name v11.2.f_Words v11.2.f_Level v11.2.f_Hidden) v14 hv14) (.cons o0 .nil) (.cons (.same _) .nil) (by simp) (.inl rfl)) (.cons (sok_mapUpdate (U := Un) (t := .named 5) (kvs := v5) (rs := [(20, .mp 10002), (21, .p .str v11.1), (23, .p (.named 5) v14)]) rfl rfl rfl map_89 o0 o1 (.tmp (.tail _ (.tail _ (.head _))))) .nil)))))))) (by kernel_rfl) (by kernel_rfl) (by kernel_rfl) (by kernel_rfl) (by kernel_rfl) (cvT (Conv.iterRest (U := Un) (t := .named 5) (d := 11) (.head _)) (cvK (b := ⟨[(3, .loc 10001 0), (11, .loc 11 0)], [(11, .iter 100001 (.named 5) es4 ck4 ys4 v12 none), (10001, .box [.mp 10002]), (10002, .map (.named 5) ((mput v11.1 v14 v5) : List ((List UInt8) × T_env_Var))), (100000, .box [.mp 100001]), (100001, .mapE (.named 5) es4 ck4 ys4)]⟩) [3, 11] [11, 10001, 10002, 100000, 100001] (by kernel_rfl))) ?_
          refine blockQ_normal ?_
          refine tnU ?_
          exact ⟨n, Nat.lt_succ_self n, (mput v11.1 v14 v5), v12, h, rfl⟩
        · cases hc
      · subst hl13
        unfold env_Env_Copy_m0.l7 at h
        refine tnU ?_
        refine WpC.seq ?_
        refine cdU (b := false) (.tmp (.tail _ (.tail _ (.head _)))) (fun hc => ?_) (fun hc => ?_)
        · cases hc
        · refine WpC.conv (cvT (cvK (b := ⟨[(3, .loc 10001 0)], [(10001, .box [.mp 10002]), (10002, .map (.named 5) v5), (100000, .box [.mp 100001]), (100001, .mapE (.named 5) es4 ck4 ys4)]⟩) [3] [10001, 10002, 100000, 100001] (by kernel_rfl)) (cvT (Conv.closeMap (U := Un) (t := .named 5) (n := 100001) (.tail _ (.tail _ (.tail _ (.head _)))) hys4 hri4) (cvK (b := ⟨[(3, .loc 10001 0)], [(10001, .box [.mp 10002]), (10002, .map (.named 5) v5), (100000, .box [.mp 100001]), (100001, .map (.named 5) a0)]⟩) [3] [10001, 10002, 100000, 100001] (by kernel_rfl)))) (WpC.exit ?_)
          refine thenQ_exit ?_
          have hq := Option.some.inj h
          subst hq
          refine thenQ_exit ?_
          have h := hout10
          refine blockQ_hit ?_
          refine tnU ?_
          exact ⟨v5, h, rfl⟩
  · rintro _ ⟨v2, h, rfl⟩
    unfold env_Env_Copy_m0.j3 at h
    refine WpC.seq ?_
    refine rgU (st1 := ⟨[(2, .loc 10001 0)], [(10001, .box [.mp 10002]), (10002, .map (.named 5) v2), (100000, .box [.mp 100001]), (100001, .map (.named 5) a0)]⟩) [2] [10001, 10002, 100000, 100001] hN (.cons (mvU (v := .loc 10001 0) rfl rfl) (.cons (mvA (v := .loc 10001 0) rfl rfl) .nil)) (by kernel_rfl) (by kernel_rfl) (by kernel_rfl) (cvR _) ?_
    refine tnU ?_
    refine WpC.conv (cvT (Conv.ren (U := Un) (st' := ⟨[(2, .loc 10001 0)], [(10001, .box [.mp 60501]), (60501, .map (.named 5) v2), (100000, .box [.mp 100001]), (100001, .map (.named 5) a0)]⟩) 10002 60501 (by unfold K0; omega) (by kernel_rfl) (by kernel_rfl) (by kernel_rfl)) (cvT (cvK (b := ⟨[(2, .loc 10001 0)], [(10001, .box [.mp 60501]), (60501, .map (.named 5) v2), (100000, .box [.mp 100001]), (100001, .map (.named 5) a0)]⟩) [2] [10001, 60501, 100000, 100001] (by kernel_rfl)) (cvT (Conv.ren (U := Un) (st' := ⟨[(2, .loc 60500 0)], [(60500, .box [.mp 60501]), (60501, .map (.named 5) v2), (100000, .box [.mp 100001]), (100001, .map (.named 5) a0)]⟩) 10001 60500 (by unfold K0; omega) (by kernel_rfl) (by kernel_rfl) (by kernel_rfl)) (cvK (b := ⟨[(2, .loc 60500 0)], [(60500, .box [.mp 60501]), (60501, .map (.named 5) v2), (100000, .box [.mp 100001]), (100001, .map (.named 5) a0)]⟩) [2] [60500, 60501, 100000, 100001] (by kernel_rfl))))) (WpC.ret ?_)
    have hq := Option.some.inj h
    subst hq
    exact ends_ret (retV_1 rfl (.head _)) (ain_cons (.head _) (ain_cons (.tail _ (.head _)) (ain_cons (.tail _ (.tail _ (.head _))) (ain_cons (.tail _ (.tail _ (.tail _ (.head _)))) ain_nil))))

theorem millwrightnum_Texts.ok (O : Out) (hO : GOk O) (k : Nat) (a0 : List (List UInt8)) (out : (List (List UInt8)) × Nat) (h : millwrightnum_Texts.f k a0 = some out) : COk Un O Tryd.prog 9 { ar := [.p (.list .str) a0], r := .vec 60500 1 0 out.2, bs' := [(60500, .row 9 .str out.1 true)], nn := [60500] } := by
  refine cok_of_wp Tryd.func9 rfl (k := 16) rfl (Nat.le_of_ble_eq_true rfl) (namesOk_of (by kernel_rfl)) ?_
  intro B hN
  refine WpC.conv (cvK (b := ⟨[(0, .p (.list .str) a0)], []⟩) [0] [] (by kernel_rfl)) ?_
  unfold millwrightnum_Texts.f at h
  refine WpC.seq ?_
  refine rgU (st1 := ⟨[(0, .p (.list .str) a0)], []⟩) [0] [] hN (.cons (moU (rs := []) rfl (.inr rfl) (.lit _ _ rfl)) .nil) (by kernel_rfl) (by kernel_rfl) (by kernel_rfl) (cvR _) ?_
  refine tnU ?_
  refine WpC.seq ?_
  obtain ⟨g1, h⟩ := if_some h
  obtain ⟨g2, h⟩ := if_some h
  obtain ⟨g3, h⟩ := if_some h
  refine rgU (st1 := ⟨[(0, .p (.list .str) a0), (3, .vec 7 1 0 (((0 : Int).toNat + a0.length) + [([1] : List UInt8), ([2] : List UInt8), ([3] : List UInt8)].length))], [(7, .row 9 .str (((List.replicate (IntKind.i64.wrap ((a0.length : Int) + 3)).toNat ([] : List UInt8)).take ((0 : Int).toNat) ++ a0 ++ (List.replicate (IntKind.i64.wrap ((a0.length : Int) + 3)).toNat ([] : List UInt8)).drop ((0 : Int).toNat + a0.length)).take ((0 : Int).toNat + a0.length) ++ [([1] : List UInt8), ([2] : List UInt8), ([3] : List UInt8)] ++ ((List.replicate (IntKind.i64.wrap ((a0.length : Int) + 3)).toNat ([] : List UInt8)).take ((0 : Int).toNat) ++ a0 ++ (List.replicate (IntKind.i64.wrap ((a0.length : Int) + 3)).toNat ([] : List UInt8)).drop ((0 : Int).toNat + a0.length)).drop (((0 : Int).toNat + a0.length) + [([1] : List UInt8), ([2] : List UInt8), ([3] : List UInt8)].length)) true)]⟩) [0, 3] [7] hN (.cons (mvU (v := .p (.list .str) a0) rfl rfl) (.cons (sok_lenL (U := Un) (rs := [(4, .p (.list .str) a0)]) rfl rfl Tryd.underlying22 o0) (.cons (sok_arith (U := Un) (rs := [(5, .p I6 ((a0.length : Int) : Int))]) rfl rfl o0 (.int _ _ _) rfl) (.cons (sok_makeSlice (U := Un) (t := .str) (rs := [(6, .p I6 ((IntKind.i64.wrap ((a0.length : Int) + 3)) : Int))]) (z := ([] : List UInt8)) rfl rfl rfl row_22 (by decide) z0_9 (.int _ _ _) o0 g1.1 g1.2.1 g1.2.2) (.cons (mvU (v := .p (.list .str) a0) rfl rfl) (.cons (sok_appendPart (U := Un) (t := .str) (rs := [(7, .vec 7 1 0 ((0 : Int).toNat)), (8, .p (.list .str) a0)]) (vw := []) (xs := (List.replicate (IntKind.i64.wrap ((a0.length : Int) + 3)).toNat ([] : List UInt8))) (ys := a0) (fx := true) rfl rfl rfl row_22 o0 o1 (.same _) (by simp) g2.1 g2.2) (.cons (sok_buildSlice (U := Un) (t := .str) (rs := []) (ys := [.const (.string ⟨#[1]⟩), .const (.string ⟨#[2]⟩), .const (.string ⟨#[3]⟩)]) (xs := [([1] : List UInt8), ([2] : List UInt8), ([3] : List UInt8)]) rfl rfl rfl rfl row_22 (.cons (.str _ _) (.cons (.str _ _) (.cons (.str _ _) .nil))) (by decide)) (.cons (sok_appendPart (U := Un) (t := .str) (rs := [(9, .vec 7 1 0 ((0 : Int).toNat + a0.length)), (10, .vec 10 1 0 ([([1] : List UInt8), ([2] : List UInt8), ([3] : List UInt8)].length))]) (vw := [(10, .row 9 .str [([1] : List UInt8), ([2] : List UInt8), ([3] : List UInt8)] true)]) (xs := ((List.replicate (IntKind.i64.wrap ((a0.length : Int) + 3)).toNat ([] : List UInt8)).take ((0 : Int).toNat) ++ a0 ++ (List.replicate (IntKind.i64.wrap ((a0.length : Int) + 3)).toNat ([] : List UInt8)).drop ((0 : Int).toNat + a0.length))) (ys := [([1] : List UInt8), ([2] : List UInt8), ([3] : List UInt8)]) (fx := true) rfl rfl rfl row_22 o0 o1 (.whole (.head _)) (by simp) g3.1 g3.2) (.cons (mvA (v := .vec 7 1 0 (((0 : Int).toNat + a0.length) + [([1] : List UInt8), ([2] : List UInt8), ([3] : List UInt8)].length)) rfl rfl) .nil))))))))) (by kernel_rfl) (by kernel_rfl) (by kernel_rfl) (cvR _) ?_
  refine tnU ?_
  refine WpC.seq ?_
  obtain ⟨g4, h⟩ := if_some h
  refine rgU (st1 := ⟨[(2, .vec 7 1 0 a0.length)], [(7, .row 9 .str (((List.replicate (IntKind.i64.wrap ((a0.length : Int) + 3)).toNat ([] : List UInt8)).take ((0 : Int).toNat) ++ a0 ++ (List.replicate (IntKind.i64.wrap ((a0.length : Int) + 3)).toNat ([] : List UInt8)).drop ((0 : Int).toNat + a0.length)).take ((0 : Int).toNat + a0.length) ++ [([1] : List UInt8), ([2] : List UInt8), ([3] : List UInt8)] ++ ((List.replicate (IntKind.i64.wrap ((a0.length : Int) + 3)).toNat ([] : List UInt8)).take ((0 : Int).toNat) ++ a0 ++ (List.replicate (IntKind.i64.wrap ((a0.length : Int) + 3)).toNat ([] : List UInt8)).drop ((0 : Int).toNat + a0.length)).drop (((0 : Int).toNat + a0.length) + [([1] : List UInt8), ([2] : List UInt8), ([3] : List UInt8)].length)) true)]⟩) [2] [7] hN (.cons (mvU (v := .vec 7 1 0 (((0 : Int).toNat + a0.length) + [([1] : List UInt8), ([2] : List UInt8), ([3] : List UInt8)].length)) rfl rfl) (.cons (mvU (v := .p (.list .str) a0) rfl rfl) (.cons (sok_lenL (U := Un) (rs := [(13, .p (.list .str) a0)]) rfl rfl Tryd.underlying22 o0) (.cons (sok_sliceV (U := Un) (t := .str) (rs := [(12, .vec 7 1 0 (((0 : Int).toNat + a0.length) + [([1] : List UInt8), ([2] : List UInt8), ([3] : List UInt8)].length)), (14, .p I6 ((a0.length : Int) : Int))]) (xs := (((List.replicate (IntKind.i64.wrap ((a0.length : Int) + 3)).toNat ([] : List UInt8)).take ((0 : Int).toNat) ++ a0 ++ (List.replicate (IntKind.i64.wrap ((a0.length : Int) + 3)).toNat ([] : List UInt8)).drop ((0 : Int).toNat + a0.length)).take ((0 : Int).toNat + a0.length) ++ [([1] : List UInt8), ([2] : List UInt8), ([3] : List UInt8)] ++ ((List.replicate (IntKind.i64.wrap ((a0.length : Int) + 3)).toNat ([] : List UInt8)).take ((0 : Int).toNat) ++ a0 ++ (List.replicate (IntKind.i64.wrap ((a0.length : Int) + 3)).toNat ([] : List UInt8)).drop ((0 : Int).toNat + a0.length)).drop (((0 : Int).toNat + a0.length) + [([1] : List UInt8), ([2] : List UInt8), ([3] : List UInt8)].length))) (fx := true) rfl rfl sl_22 o0 .no (.at o1) g4.1 g4.2.1 g4.2.2) (.cons (mvA (v := .vec 7 1 0 a0.length) rfl rfl) .nil))))) (by kernel_rfl) (by kernel_rfl) (by kernel_rfl) (cvR _) ?_
  refine tnU ?_
  refine WpC.conv (cvT (Conv.ren (U := Un) (st' := ⟨[(2, .vec 60500 1 0 a0.length)], [(60500, .row 9 .str (((List.replicate (IntKind.i64.wrap ((a0.length : Int) + 3)).toNat ([] : List UInt8)).take ((0 : Int).toNat) ++ a0 ++ (List.replicate (IntKind.i64.wrap ((a0.length : Int) + 3)).toNat ([] : List UInt8)).drop ((0 : Int).toNat + a0.length)).take ((0 : Int).toNat + a0.length) ++ [([1] : List UInt8), ([2] : List UInt8), ([3] : List UInt8)] ++ ((List.replicate (IntKind.i64.wrap ((a0.length : Int) + 3)).toNat ([] : List UInt8)).take ((0 : Int).toNat) ++ a0 ++ (List.replicate (IntKind.i64.wrap ((a0.length : Int) + 3)).toNat ([] : List UInt8)).drop ((0 : Int).toNat + a0.length)).drop (((0 : Int).toNat + a0.length) + [([1] : List UInt8), ([2] : List UInt8), ([3] : List UInt8)].length)) true)]⟩) 7 60500 (by unfold K0; omega) (by kernel_rfl) (by kernel_rfl) (by kernel_rfl)) (cvK (b := ⟨[(2, .vec 60500 1 0 a0.length)], [(60500, .row 9 .str (((List.replicate (IntKind.i64.wrap ((a0.length : Int) + 3)).toNat ([] : List UInt8)).take ((0 : Int).toNat) ++ a0 ++ (List.replicate (IntKind.i64.wrap ((a0.length : Int) + 3)).toNat ([] : List UInt8)).drop ((0 : Int).toNat + a0.length)).take ((0 : Int).toNat + a0.length) ++ [([1] : List UInt8), ([2] : List UInt8), ([3] : List UInt8)] ++ ((List.replicate (IntKind.i64.wrap ((a0.length : Int) + 3)).toNat ([] : List UInt8)).take ((0 : Int).toNat) ++ a0 ++ (List.replicate (IntKind.i64.wrap ((a0.length : Int) + 3)).toNat ([] : List UInt8)).drop ((0 : Int).toNat + a0.length)).drop (((0 : Int).toNat + a0.length) + [([1] : List UInt8), ([2] : List UInt8), ([3] : List UInt8)].length)) true)]⟩) [2] [60500] (by kernel_rfl))) (WpC.ret ?_)
  have hq := Option.some.inj h
  subst hq
  exact ends_ret (retV_1 rfl (.head _)) (ain_cons (.head _) ain_nil)

theorem millwrightnum_all.ok (O : Out) (hO : GOk O) (k : Nat) (out : List Nat) (h : millwrightnum_all.f k = some out) : COk Un O Tryd.prog 52 { ar := [], r := .p (.list .err) out } := by
  refine cok_of_wp Tryd.func52 rfl (k := 20) rfl (Nat.le_of_ble_eq_true rfl) (namesOk_pure rfl rfl rfl rfl) ?_
  intro B hN
  refine WpC.conv (cvK (b := ⟨[], []⟩) [] [] (by kernel_rfl)) ?_
  unfold millwrightnum_all.f at h
  refine WpC.seq ?_
  refine rgU (st1 := ⟨[], []⟩) [] [] hN (.cons (moU (rs := []) rfl (.inr rfl) (.lit _ _ rfl)) .nil) (by kernel_rfl) (by kernel_rfl) (by kernel_rfl) (cvR _) ?_
  refine tnU ?_
  refine WpC.seq ?_
  refine rgU (st1 := ⟨[(0, .vec 19 1 0 ([(1 : Nat), (2 : Nat), (3 : Nat), (4 : Nat), (5 : Nat), (6 : Nat), (7 : Nat), (8 : Nat), (9 : Nat), (10 : Nat), (11 : Nat), (12 : Nat), (13 : Nat), (14 : Nat), (15 : Nat), (16 : Nat), (17 : Nat), (18 : Nat)].length))], [(19, .row 27 .err [(1 : Nat), (2 : Nat), (3 : Nat), (4 : Nat), (5 : Nat), (6 : Nat), (7 : Nat), (8 : Nat), (9 : Nat), (10 : Nat), (11 : Nat), (12 : Nat), (13 : Nat), (14 : Nat), (15 : Nat), (16 : Nat), (17 : Nat), (18 : Nat)] true)]⟩) [0] [19] hN (.cons (sok_loadG (U := Un) (t := .err) (rs := []) rfl rfl ty_27 rfl rfl (hO.var 0 2 rfl) (fun S w => .err 0)) (.cons (sok_loadG (U := Un) (t := .err) (rs := []) rfl rfl ty_27 rfl rfl (hO.var 1 4 rfl) (fun S w => .err 1)) (.cons (sok_loadG (U := Un) (t := .err) (rs := []) rfl rfl ty_27 rfl rfl (hO.var 2 5 rfl) (fun S w => .err 2)) (.cons (sok_loadG (U := Un) (t := .err) (rs := []) rfl rfl ty_27 rfl rfl (hO.var 3 1 rfl) (fun S w => .err 3)) (.cons (sok_loadG (U := Un) (t := .err) (rs := []) rfl rfl ty_27 rfl rfl (hO.var 4 0 rfl) (fun S w => .err 4)) (.cons (sok_loadG (U := Un) (t := .err) (rs := []) rfl rfl ty_27 rfl rfl (hO.var 5 6 rfl) (fun S w => .err 5)) (.cons (sok_loadG (U := Un) (t := .err) (rs := []) rfl rfl ty_27 rfl rfl (hO.var 6 7 rfl) (fun S w => .err 6)) (.cons (sok_loadG (U := Un) (t := .err) (rs := []) rfl rfl ty_27 rfl rfl (hO.var 7 8 rfl) (fun S w => .err 7)) (.cons (sok_loadG (U := Un) (t := .err) (rs := []) rfl rfl ty_27 rfl rfl (hO.var 8 9 rfl) (fun S w => .err 8)) (.cons (sok_loadG (U := Un) (t := .err) (rs := []) rfl rfl ty_27 rfl rfl (hO.var 9 3 rfl) (fun S w => .err 9)) (.cons (sok_loadG (U := Un) (t := .err) (rs := []) rfl rfl ty_27 rfl rfl (hO.var 10 10 rfl) (fun S w => .err 10)) (.cons (sok_loadG (U := Un) (t := .err) (rs := []) rfl rfl ty_27 rfl rfl (hO.var 11 11 rfl) (fun S w => .err 11)) (.cons (sok_loadG (U := Un) (t := .err) (rs := []) rfl rfl ty_27 rfl rfl (hO.var 12 12 rfl) (fun S w => .err 12)) (.cons (sok_loadG (U := Un) (t := .err) (rs := []) rfl rfl ty_27 rfl rfl (hO.var 13 13 rfl) (fun S w => .err 13)) (.cons (sok_loadG (U := Un) (t := .err) (rs := []) rfl rfl ty_27 rfl rfl (hO.var 14 14 rfl) (fun S w => .err 14)) (.cons (sok_loadG (U := Un) (t := .err) (rs := []) rfl rfl ty_27 rfl rfl (hO.var 15 15 rfl) (fun S w => .err 15)) (.cons (sok_loadG (U := Un) (t := .err) (rs := []) rfl rfl ty_27 rfl rfl (hO.var 16 16 rfl) (fun S w => .err 16)) (.cons (sok_loadG (U := Un) (t := .err) (rs := []) rfl rfl ty_27 rfl rfl (hO.var 17 17 rfl) (fun S w => .err 17)) (.cons (sok_buildSlice (U := Un) (t := .err) (rs := [(1, .p .err (1 : Nat)), (2, .p .err (2 : Nat)), (3, .p .err (3 : Nat)), (4, .p .err (4 : Nat)), (5, .p .err (5 : Nat)), (6, .p .err (6 : Nat)), (7, .p .err (7 : Nat)), (8, .p .err (8 : Nat)), (9, .p .err (9 : Nat)), (10, .p .err (10 : Nat)), (11, .p .err (11 : Nat)), (12, .p .err (12 : Nat)), (13, .p .err (13 : Nat)), (14, .p .err (14 : Nat)), (15, .p .err (15 : Nat)), (16, .p .err (16 : Nat)), (17, .p .err (17 : Nat)), (18, .p .err (18 : Nat))]) (ys := [.tmp 1, .tmp 2, .tmp 3, .tmp 4, .tmp 5, .tmp 6, .tmp 7, .tmp 8, .tmp 9, .tmp 10, .tmp 11, .tmp 12, .tmp 13, .tmp 14, .tmp 15, .tmp 16, .tmp 17, .tmp 18]) (xs := [(1 : Nat), (2 : Nat), (3 : Nat), (4 : Nat), (5 : Nat), (6 : Nat), (7 : Nat), (8 : Nat), (9 : Nat), (10 : Nat), (11 : Nat), (12 : Nat), (13 : Nat), (14 : Nat), (15 : Nat), (16 : Nat), (17 : Nat), (18 : Nat)]) rfl rfl rfl rfl row_93 (.cons o0 (.cons o1 (.cons (.tmp (.tail _ (.tail _ (.head _)))) (.cons (.tmp (.tail _ (.tail _ (.tail _ (.head _))))) (.cons (.tmp (.tail _ (.tail _ (.tail _ (.tail _ (.head _)))))) (.cons (.tmp (.tail _ (.tail _ (.tail _ (.tail _ (.tail _ (.head _))))))) (.cons (.tmp (.tail _ (.tail _ (.tail _ (.tail _ (.tail _ (.tail _ (.head _)))))))) (.cons (.tmp (.tail _ (.tail _ (.tail _ (.tail _ (.tail _ (.tail _ (.tail _ (.head _))))))))) (.cons (.tmp (.tail _ (.tail _ (.tail _ (.tail _ (.tail _ (.tail _ (.tail _ (.tail _ (.head _)))))))))) (.cons (.tmp (.tail _ (.tail _ (.tail _ (.tail _ (.tail _ (.tail _ (.tail _ (.tail _ (.tail _ (.head _))))))))))) (.cons (.tmp (.tail _ (.tail _ (.tail _ (.tail _ (.tail _ (.tail _ (.tail _ (.tail _ (.tail _ (.tail _ (.head _)))))))))))) (.cons (.tmp (.tail _ (.tail _ (.tail _ (.tail _ (.tail _ (.tail _ (.tail _ (.tail _ (.tail _ (.tail _ (.tail _ (.head _))))))))))))) (.cons (.tmp (.tail _ (.tail _ (.tail _ (.tail _ (.tail _ (.tail _ (.tail _ (.tail _ (.tail _ (.tail _ (.tail _ (.tail _ (.head _)))))))))))))) (.cons (.tmp (.tail _ (.tail _ (.tail _ (.tail _ (.tail _ (.tail _ (.tail _ (.tail _ (.tail _ (.tail _ (.tail _ (.tail _ (.tail _ (.head _))))))))))))))) (.cons (.tmp (.tail _ (.tail _ (.tail _ (.tail _ (.tail _ (.tail _ (.tail _ (.tail _ (.tail _ (.tail _ (.tail _ (.tail _ (.tail _ (.tail _ (.head _)))))))))))))))) (.cons (.tmp (.tail _ (.tail _ (.tail _ (.tail _ (.tail _ (.tail _ (.tail _ (.tail _ (.tail _ (.tail _ (.tail _ (.tail _ (.tail _ (.tail _ (.tail _ (.head _))))))))))))))))) (.cons (.tmp (.tail _ (.tail _ (.tail _ (.tail _ (.tail _ (.tail _ (.tail _ (.tail _ (.tail _ (.tail _ (.tail _ (.tail _ (.tail _ (.tail _ (.tail _ (.tail _ (.head _)))))))))))))))))) (.cons (.tmp (.tail _ (.tail _ (.tail _ (.tail _ (.tail _ (.tail _ (.tail _ (.tail _ (.tail _ (.tail _ (.tail _ (.tail _ (.tail _ (.tail _ (.tail _ (.tail _ (.tail _ (.head _))))))))))))))))))) .nil)))))))))))))))))) (by decide)) (.cons (mvA (v := .vec 19 1 0 ([(1 : Nat), (2 : Nat), (3 : Nat), (4 : Nat), (5 : Nat), (6 : Nat), (7 : Nat), (8 : Nat), (9 : Nat), (10 : Nat), (11 : Nat), (12 : Nat), (13 : Nat), (14 : Nat), (15 : Nat), (16 : Nat), (17 : Nat), (18 : Nat)].length)) rfl rfl) .nil)))))))))))))))))))) (by kernel_rfl) (by kernel_rfl) (by kernel_rfl) (cvR _) ?_
  refine tnU ?_
  refine WpC.conv (cvT (Conv.freeze (U := Un) 0 19 27 _ .err [(1 : Nat), (2 : Nat), (3 : Nat), (4 : Nat), (5 : Nat), (6 : Nat), (7 : Nat), (8 : Nat), (9 : Nat), (10 : Nat), (11 : Nat), (12 : Nat), (13 : Nat), (14 : Nat), (15 : Nat), (16 : Nat), (17 : Nat), (18 : Nat)] true (.head _) (by first | rfl | (simp only [upd_length, List.length_replicate, List.length_append]; done) | (simp only [upd_length, List.length_replicate, List.length_append] at *; omega) | omega) (.head _) (by first | (simp [Blk.names]; done) | (simp [Blk.names, AVal.namesL, AVal.names]; done) | (simp [Blk.names]; decide))) (cvK (b := ⟨[(0, .p (.list .err) ([(1 : Nat), (2 : Nat), (3 : Nat), (4 : Nat), (5 : Nat), (6 : Nat), (7 : Nat), (8 : Nat), (9 : Nat), (10 : Nat), (11 : Nat), (12 : Nat), (13 : Nat), (14 : Nat), (15 : Nat), (16 : Nat), (17 : Nat), (18 : Nat)] : List Nat))], []⟩) [0] [] (by kernel_rfl))) (WpC.ret ?_)
  have hq := Option.some.inj h
  subst hq
  exact ends_ret (retV_1 rfl (.head _)) ain_nil

theorem millwrightnum_Num.ok (O : Out) (hO : GOk O) (k : Nat) (a0 : Nat) (out : Int) (h : millwrightnum_Num.f k a0 = some out) : COk Un O Tryd.prog 28 { ar := [.p .err a0], r := .p I6 out } := by
  refine cok_of_wp Tryd.func28 rfl (k := 20) rfl (Nat.le_of_ble_eq_true rfl) (namesOk_pure rfl rfl rfl rfl) ?_
  intro B hN
  refine WpC.conv (cvK (b := ⟨[(0, .p .err a0)], []⟩) [0] [] (by kernel_rfl)) ?_
  unfold millwrightnum_Num.f at h
  refine WpC.seq ?_
  refine rgU (st1 := ⟨[(0, .p .err a0)], []⟩) [0] [] hN (.cons (moU (rs := []) rfl (.inr rfl) (.int _ _ _)) .nil) (by kernel_rfl) (by kernel_rfl) (by kernel_rfl) (cvR _) ?_
  refine tnU ?_
  refine WpC.seq ?_
  refine WpC.seq ?_
  refine rgU (st1 := ⟨[(0, .p .err a0), (6, .p .bool ((a0 == 0) : Bool))], []⟩) [0, 6] [] hN (.cons (mvU (v := .p .err a0) rfl rfl) (.cons (sok_errNil (U := Un) (rs := [(5, .p .err a0)]) rfl rfl Tryd.underlying27 o0 rfl) .nil)) (by kernel_rfl) (by kernel_rfl) (by kernel_rfl) (cvR _) ?_
  refine tnU ?_
  refine cdU (b := (a0 == 0)) o1 (fun hc1 => ?_) (fun hc1 => ?_)
  · replace h := ite_t hc1 h
    refine WpC.seq ?_
    refine rgU (st1 := ⟨[(2, .p I6 (0 : Int))], []⟩) [2] [] hN (.cons (moU (rs := []) rfl (.inr rfl) (.int _ _ _)) .nil) (by kernel_rfl) (by kernel_rfl) (by kernel_rfl) (cvR _) ?_
    refine tnU ?_
    refine WpC.ret ?_
    refine thenQ_ret ?_
    have hq := Option.some.inj h
    subst hq
    exact ends_ret (retV_1 rfl (.head _)) ain_nil
  · replace h := ite_f hc1 h
    refine WpC.conv (cvK (b := ⟨[(0, .p .err a0)], []⟩) [0] [] (by kernel_rfl)) (WpC.skip ?_)
    refine tnU ?_
    refine sqJ (fun st' => millwrightnum_Num.j2 k = some out ∧ st' = ⟨[], []⟩) ?_ ?_
    · refine WpC.seq ?_
      obtain ⟨v3, hv3, h⟩ := bind_some h
      refine rgU (st1 := ⟨[(0, .p .err a0), (7, .p (.list .err) v3), (8, .p I6 ((v3.length : Int) : Int)), (9, .p I6 (0 : Int))], []⟩) [0, 7, 8, 9] [] hN (.cons (caV (rs := []) (vw := []) rfl rfl (.func _) hb_52 (millwrightnum_all.ok O hO k v3 hv3) .nil .nil (by simp) (.inl rfl)) (.cons (sok_lenL (U := Un) (rs := [(7, .p (.list .err) v3)]) rfl rfl Tryd.underlying93 o0) (.cons (moU (rs := []) rfl (.inl rfl) (.int _ _ _)) .nil))) (by kernel_rfl) (by kernel_rfl) (by kernel_rfl) (cvR _) ?_
      refine tnU ?_
      refine WpC.block ?_
      obtain ⟨o6, hlo6, h⟩ := bind_some h
      have hout7 := h
      clear h
      refine WpC.loop (U := Un) (fun n st' => ∃ v4 : Int, millwrightnum_Num.l5 k a0 v3 n v4 = some o6 ∧ st' = ⟨[(0, .p .err a0), (7, .p (.list .err) v3), (8, .p I6 ((v3.length : Int) : Int)), (9, .p I6 v4)], []⟩) k ⟨0, hlo6, rfl⟩ ?_
      clear hlo6
      rintro (_ | n) _ ⟨v4, h, rfl⟩
      · cases h
      · rw [millwrightnum_Num.l5] at h
        refine WpC.seq ?_
        refine rgU (st1 := ⟨[(0, .p .err a0), (7, .p (.list .err) v3), (8, .p I6 ((v3.length : Int) : Int)), (9, .p I6 v4), (10, .p .bool ((decide (v4 < (v3.length : Int))) : Bool))], []⟩) [0, 7, 8, 9, 10] [] hN (.cons (cmU (rs := [(9, .p I6 v4), (8, .p I6 ((v3.length : Int) : Int))]) rfl rfl o0 o1 rfl) .nil) (by kernel_rfl) (by kernel_rfl) (by kernel_rfl) (cvR _) ?_
        refine tnU ?_
        refine WpC.seq ?_
        refine cdU (b := (decide (v4 < (v3.length : Int)))) (.tmp (.tail _ (.tail _ (.tail _ (.tail _ (.head _)))))) (fun hc8 => ?_) (fun hc8 => ?_)
        · replace h := ite_t hc8 h
          refine WpC.conv (cvK (b := ⟨[(0, .p .err a0), (7, .p (.list .err) v3), (8, .p I6 ((v3.length : Int) : Int)), (9, .p I6 v4)], []⟩) [0, 7, 8, 9] [] (by kernel_rfl)) (WpC.skip ?_)
          refine tnU ?_
          refine WpC.seq ?_
          refine WpC.block ?_
          refine WpC.seq ?_
          obtain ⟨v9, hv9, h⟩ := bind_some h
          refine rgU (st1 := ⟨[(0, .p .err a0), (3, .p I6 v4), (4, .p .err v9), (7, .p (.list .err) v3), (8, .p I6 ((v3.length : Int) : Int)), (9, .p I6 v4)], []⟩) [0, 3, 4, 7, 8, 9] [] hN (.cons (mvU (v := .p I6 v4) rfl rfl) (.cons (sok_indexL (U := Un) (rs := [(7, .p (.list .err) v3), (9, .p I6 v4)]) rfl rfl sl_93 o0 o1 hv9) (.cons (sok_loadP (U := Un) (rs := [(12, .pp .err v9)]) rfl rfl ty_27 o0) (.cons (mvA (v := .p I6 v4) rfl rfl) (.cons (mvA (v := .p .err v9) rfl rfl) .nil))))) (by kernel_rfl) (by kernel_rfl) (by kernel_rfl) (cvR _) ?_
          refine tnU ?_
          refine WpC.seq ?_
          obtain ⟨v10, hv10, h⟩ := bind_some h
          refine rgU (st1 := ⟨[(0, .p .err a0), (3, .p I6 v4), (7, .p (.list .err) v3), (8, .p I6 ((v3.length : Int) : Int)), (9, .p I6 v4), (16, .p .bool v10)], []⟩) [0, 3, 7, 8, 9, 16] [] hN (.cons (mvU (v := .p .err a0) rfl rfl) (.cons (mvU (v := .p .err v9) rfl rfl) (.cons (sok_call (U := Un) (rs := [(14, .p .err a0), (15, .p .err v9)]) (vw := []) rfl rfl hb_53 (pIs.ok O hO k a0 v9 v10 hv10) (.cons o0 (.cons o1 .nil)) (.cons (.same _) (.cons (.same _) .nil)) (by simp) (.inl rfl)) .nil))) (by kernel_rfl) (by kernel_rfl) (by kernel_rfl) (cvR _) ?_
          refine tnU ?_
          refine cdU (b := v10) (.tmp (.tail _ (.tail _ (.tail _ (.tail _ (.tail _ (.head _))))))) (fun hc11 => ?_) (fun hc11 => ?_)
          · replace h := ite_t hc11 h
            refine WpC.seq ?_
            refine rgU (st1 := ⟨[(2, .p I6 ((IntKind.i64.wrap (v4 + 1)) : Int))], []⟩) [2] [] hN (.cons (mvU (v := .p I6 v4) rfl rfl) (.cons (sok_arith (U := Un) (rs := [(17, .p I6 v4)]) rfl rfl o0 (.int _ _ _) rfl) (.cons (mvA (v := .p I6 ((IntKind.i64.wrap (v4 + 1)) : Int)) rfl rfl) .nil))) (by kernel_rfl) (by kernel_rfl) (by kernel_rfl) (cvR _) ?_
            refine tnU ?_
            refine WpC.ret ?_
            refine blockQ_ret ?_
            refine thenQ_ret ?_
            have hq := Option.some.inj h
            subst hq
            refine thenQ_ret ?_
            have h := hout7
            refine blockQ_ret ?_
            refine thenQ_ret ?_
            have hq := Option.some.inj h
            subst hq
            exact ends_ret (retV_1 rfl (.head _)) ain_nil
          · replace h := ite_f hc11 h
            refine WpC.conv (cvK (b := ⟨[(0, .p .err a0), (7, .p (.list .err) v3), (8, .p I6 ((v3.length : Int) : Int)), (9, .p I6 v4)], []⟩) [0, 7, 8, 9] [] (by kernel_rfl)) (WpC.skip ?_)
            refine blockQ_normal ?_
            refine tnU ?_
            refine rgU (st1 := ⟨[(0, .p .err a0), (7, .p (.list .err) v3), (8, .p I6 ((v3.length : Int) : Int)), (9, .p I6 ((IntKind.i64.wrap (v4 + 1)) : Int))], []⟩) [0, 7, 8, 9] [] hN (.cons (sok_arith (U := Un) (rs := [(9, .p I6 v4)]) rfl rfl o0 (.int _ _ _) rfl) (.cons (mvU (v := .p I6 ((IntKind.i64.wrap (v4 + 1)) : Int)) rfl rfl) .nil)) (by kernel_rfl) (by kernel_rfl) (by kernel_rfl) (cvR _) ?_
            refine tnU ?_
            exact ⟨n, Nat.lt_succ_self n, (IntKind.i64.wrap (v4 + 1)), h, rfl⟩
        · replace h := ite_f hc8 h
          refine WpC.conv (cvK (b := ⟨[], []⟩) [] [] (by kernel_rfl)) (WpC.exit ?_)
          refine thenQ_exit ?_
          have hq := Option.some.inj h
          subst hq
          refine thenQ_exit ?_
          have h := hout7
          refine blockQ_hit ?_
          refine tnU ?_
          exact ⟨h, rfl⟩
    · rintro _ ⟨h, rfl⟩
      unfold millwrightnum_Num.j2 at h
      refine WpC.seq ?_
      refine rgU (st1 := ⟨[(2, .p I6 ((-1) : Int))], []⟩) [2] [] hN (.cons (moU (rs := []) rfl (.inr rfl) (.int _ _ _)) .nil) (by kernel_rfl) (by kernel_rfl) (by kernel_rfl) (cvR _) ?_
      refine tnU ?_
      refine WpC.ret ?_
      have hq := Option.some.inj h
      subst hq
      exact ends_ret (retV_1 rfl (.head _)) ain_nil

theorem millwrightref13_letter.ok (O : Out) (hO : GOk O) (k : Nat) (a0 : Int) (out : Bool) (h : millwrightref13_letter.f k a0 = some out) : COk Un O Tryd.prog 77 { ar := [.p (.int .u8) a0], r := .p .bool out } := by
  refine cok_of_wp Tryd.func77 rfl (k := 29) rfl (Nat.le_of_ble_eq_true rfl) (namesOk_pure rfl rfl rfl rfl) ?_
  intro B hN
  refine WpC.conv (cvK (b := ⟨[(0, .p (.int .u8) a0)], []⟩) [0] [] (by kernel_rfl)) ?_
  unfold millwrightref13_letter.f at h
  refine WpC.seq ?_
  refine rgU (st1 := ⟨[(0, .p (.int .u8) a0)], []⟩) [0] [] hN (.cons (moU (rs := []) rfl (.inr rfl) (.bool _ _)) .nil) (by kernel_rfl) (by kernel_rfl) (by kernel_rfl) (cvR _) ?_
  refine tnU ?_
  refine WpC.seq ?_
  rcases bool_cases (a0 == 95) with hc1 | hc1
  · replace h := ite_t hc1 h
    refine rgU (st1 := ⟨[(2, .p .bool true)], []⟩) [2] [] hN (.cons (mvU (v := .p (.int .u8) a0) rfl rfl) (.cons (cmU (rs := [(3, .p (.int .u8) a0)]) rfl rfl o0 (.int _ _ _) rfl) (.cons (mvU (v := .p .bool ((a0 == 95) : Bool)) rfl rfl) (.cons (skU rfl rfl hc1) (.cons (skU rfl rfl hc1) (.cons (skU rfl rfl hc1) (.cons (sok_skipU rfl rfl) (.cons (sok_skipU rfl rfl) (.cons (skU rfl rfl hc1) (.cons (pkT (rs := [(5, .p .bool ((a0 == 95) : Bool))]) rfl rfl o0 hc1 (.bool _ _)) (.cons (mvU (v := .p .bool true) rfl rfl) (.cons (skU rfl rfl rfl) (.cons (skU rfl rfl rfl) (.cons (skU rfl rfl rfl) (.cons (sok_skipU rfl rfl) (.cons (sok_skipU rfl rfl) (.cons (skU rfl rfl rfl) (.cons (pkT (rs := [(13, .p .bool true)]) rfl rfl o0 rfl (.bool _ _)) (.cons (mvU (v := .p .bool true) rfl rfl) (.cons (skU rfl rfl rfl) (.cons (skU rfl rfl rfl) (.cons (skU rfl rfl rfl) (.cons (sok_skipU rfl rfl) (.cons (sok_skipU rfl rfl) (.cons (skU rfl rfl rfl) (.cons (pkT (rs := [(21, .p .bool true)]) rfl rfl o0 rfl (.bool _ _)) (.cons (mvA (v := .p .bool true) rfl rfl) .nil))))))))))))))))))))))))))) (by kernel_rfl) (by kernel_rfl) (by kernel_rfl) (cvR _) ?_
    refine tnU ?_
    refine WpC.ret ?_
    have hq := Option.some.inj h
    subst hq
    exact ends_ret (retV_1 rfl (.head _)) ain_nil
  · replace h := ite_f hc1 h
    rcases bool_cases (decide (a0 ≥ 48)) with hc2 | hc2
    · replace h := ite_t hc2 h
      rcases bool_cases (decide (a0 ≤ 57)) with hc3 | hc3
      · replace h := ite_t hc3 h
        refine rgU (st1 := ⟨[(2, .p .bool true)], []⟩) [2] [] hN (.cons (mvU (v := .p (.int .u8) a0) rfl rfl) (.cons (cmU (rs := [(3, .p (.int .u8) a0)]) rfl rfl o0 (.int _ _ _) rfl) (.cons (mvU (v := .p .bool ((a0 == 95) : Bool)) rfl rfl) (.cons (sok_run rfl rfl hc1 (mvU (v := .p (.int .u8) a0) rfl rfl)) (.cons (sok_run rfl rfl hc1 (cmU (rs := [(6, .p (.int .u8) a0)]) rfl rfl o0 (.int _ _ _) rfl)) (.cons (sok_run rfl rfl hc1 (mvU (v := .p .bool ((decide (a0 ≥ 48)) : Bool)) rfl rfl)) (.cons (sok_run rfl rfl hc2 (mvU (v := .p (.int .u8) a0) rfl rfl)) (.cons (sok_run rfl rfl hc2 (cmU (rs := [(9, .p (.int .u8) a0)]) rfl rfl o0 (.int _ _ _) rfl)) (.cons (sok_run rfl rfl hc1 (pkT (rs := [(8, .p .bool ((decide (a0 ≥ 48)) : Bool)), (10, .p .bool ((decide (a0 ≤ 57)) : Bool))]) rfl rfl o0 hc2 o1)) (.cons (pkF (rs := [(5, .p .bool ((a0 == 95) : Bool)), (11, .p .bool ((decide (a0 ≤ 57)) : Bool))]) rfl rfl o0 hc1 o1) (.cons (mvU (v := .p .bool ((decide (a0 ≤ 57)) : Bool)) rfl rfl) (.cons (skU rfl rfl hc3) (.cons (skU rfl rfl hc3) (.cons (skU rfl rfl hc3) (.cons (sok_skipU rfl rfl) (.cons (sok_skipU rfl rfl) (.cons (skU rfl rfl hc3) (.cons (pkT (rs := [(13, .p .bool ((decide (a0 ≤ 57)) : Bool))]) rfl rfl o0 hc3 (.bool _ _)) (.cons (mvU (v := .p .bool true) rfl rfl) (.cons (skU rfl rfl rfl) (.cons (skU rfl rfl rfl) (.cons (skU rfl rfl rfl) (.cons (sok_skipU rfl rfl) (.cons (sok_skipU rfl rfl) (.cons (skU rfl rfl rfl) (.cons (pkT (rs := [(21, .p .bool true)]) rfl rfl o0 rfl (.bool _ _)) (.cons (mvA (v := .p .bool true) rfl rfl) .nil))))))))))))))))))))))))))) (by kernel_rfl) (by kernel_rfl) (by kernel_rfl) (cvR _) ?_
        refine tnU ?_
        refine WpC.ret ?_
        have hq := Option.some.inj h
        subst hq
        exact ends_ret (retV_1 rfl (.head _)) ain_nil
      · replace h := ite_f hc3 h
        rcases bool_cases (decide (a0 ≥ 65)) with hc4 | hc4
        · replace h := ite_t hc4 h
          rcases bool_cases (decide (a0 ≤ 90)) with hc5 | hc5
          · replace h := ite_t hc5 h
            refine rgU (st1 := ⟨[(2, .p .bool true)], []⟩) [2] [] hN (.cons (mvU (v := .p (.int .u8) a0) rfl rfl) (.cons (cmU (rs := [(3, .p (.int .u8) a0)]) rfl rfl o0 (.int _ _ _) rfl) (.cons (mvU (v := .p .bool ((a0 == 95) : Bool)) rfl rfl) (.cons (sok_run rfl rfl hc1 (mvU (v := .p (.int .u8) a0) rfl rfl)) (.cons (sok_run rfl rfl hc1 (cmU (rs := [(6, .p (.int .u8) a0)]) rfl rfl o0 (.int _ _ _) rfl)) (.cons (sok_run rfl rfl hc1 (mvU (v := .p .bool ((decide (a0 ≥ 48)) : Bool)) rfl rfl)) (.cons (sok_run rfl rfl hc2 (mvU (v := .p (.int .u8) a0) rfl rfl)) (.cons (sok_run rfl rfl hc2 (cmU (rs := [(9, .p (.int .u8) a0)]) rfl rfl o0 (.int _ _ _) rfl)) (.cons (sok_run rfl rfl hc1 (pkT (rs := [(8, .p .bool ((decide (a0 ≥ 48)) : Bool)), (10, .p .bool ((decide (a0 ≤ 57)) : Bool))]) rfl rfl o0 hc2 o1)) (.cons (pkF (rs := [(5, .p .bool ((a0 == 95) : Bool)), (11, .p .bool ((decide (a0 ≤ 57)) : Bool))]) rfl rfl o0 hc1 o1) (.cons (mvU (v := .p .bool ((decide (a0 ≤ 57)) : Bool)) rfl rfl) (.cons (sok_run rfl rfl hc3 (mvU (v := .p (.int .u8) a0) rfl rfl)) (.cons (sok_run rfl rfl hc3 (cmU (rs := [(14, .p (.int .u8) a0)]) rfl rfl o0 (.int _ _ _) rfl)) (.cons (sok_run rfl rfl hc3 (mvU (v := .p .bool ((decide (a0 ≥ 65)) : Bool)) rfl rfl)) (.cons (sok_run rfl rfl hc4 (mvU (v := .p (.int .u8) a0) rfl rfl)) (.cons (sok_run rfl rfl hc4 (cmU (rs := [(17, .p (.int .u8) a0)]) rfl rfl o0 (.int _ _ _) rfl)) (.cons (sok_run rfl rfl hc3 (pkT (rs := [(16, .p .bool ((decide (a0 ≥ 65)) : Bool)), (18, .p .bool ((decide (a0 ≤ 90)) : Bool))]) rfl rfl o0 hc4 o1)) (.cons (pkF (rs := [(13, .p .bool ((decide (a0 ≤ 57)) : Bool)), (19, .p .bool ((decide (a0 ≤ 90)) : Bool))]) rfl rfl o0 hc3 o1) (.cons (mvU (v := .p .bool ((decide (a0 ≤ 90)) : Bool)) rfl rfl) (.cons (skU rfl rfl hc5) (.cons (skU rfl rfl hc5) (.cons (skU rfl rfl hc5) (.cons (sok_skipU rfl rfl) (.cons (sok_skipU rfl rfl) (.cons (skU rfl rfl hc5) (.cons (pkT (rs := [(21, .p .bool ((decide (a0 ≤ 90)) : Bool))]) rfl rfl o0 hc5 (.bool _ _)) (.cons (mvA (v := .p .bool true) rfl rfl) .nil))))))))))))))))))))))))))) (by kernel_rfl) (by kernel_rfl) (by kernel_rfl) (cvR _) ?_
            refine tnU ?_
            refine WpC.ret ?_
            have hq := Option.some.inj h
            subst hq
            exact ends_ret (retV_1 rfl (.head _)) ain_nil
          · replace h := ite_f hc5 h
            rcases bool_cases (decide (a0 ≥ 97)) with hc6 | hc6
            · replace h := ite_t hc6 h
              refine rgU (st1 := ⟨[(2, .p .bool ((decide (a0 ≤ 122)) : Bool))], []⟩) [2] [] hN (.cons (mvU (v := .p (.int .u8) a0) rfl rfl) (.cons (cmU (rs := [(3, .p (.int .u8) a0)]) rfl rfl o0 (.int _ _ _) rfl) (.cons (mvU (v := .p .bool ((a0 == 95) : Bool)) rfl rfl) (.cons (sok_run rfl rfl hc1 (mvU (v := .p (.int .u8) a0) rfl rfl)) (.cons (sok_run rfl rfl hc1 (cmU (rs := [(6, .p (.int .u8) a0)]) rfl rfl o0 (.int _ _ _) rfl)) (.cons (sok_run rfl rfl hc1 (mvU (v := .p .bool ((decide (a0 ≥ 48)) : Bool)) rfl rfl)) (.cons (sok_run rfl rfl hc2 (mvU (v := .p (.int .u8) a0) rfl rfl)) (.cons (sok_run rfl rfl hc2 (cmU (rs := [(9, .p (.int .u8) a0)]) rfl rfl o0 (.int _ _ _) rfl)) (.cons (sok_run rfl rfl hc1 (pkT (rs := [(8, .p .bool ((decide (a0 ≥ 48)) : Bool)), (10, .p .bool ((decide (a0 ≤ 57)) : Bool))]) rfl rfl o0 hc2 o1)) (.cons (pkF (rs := [(5, .p .bool ((a0 == 95) : Bool)), (11, .p .bool ((decide (a0 ≤ 57)) : Bool))]) rfl rfl o0 hc1 o1) (.cons (mvU (v := .p .bool ((decide (a0 ≤ 57)) : Bool)) rfl rfl) (.cons (sok_run rfl rfl hc3 (mvU (v := .p (.int .u8) a0) rfl rfl)) (.cons (sok_run rfl rfl hc3 (cmU (rs := [(14, .p (.int .u8) a0)]) rfl rfl o0 (.int _ _ _) rfl)) (.cons (sok_run rfl rfl hc3 (mvU (v := .p .bool ((decide (a0 ≥ 65)) : Bool)) rfl rfl)) (.cons (sok_run rfl rfl hc4 (mvU (v := .p (.int .u8) a0) rfl rfl)) (.cons (sok_run rfl rfl hc4 (cmU (rs := [(17, .p (.int .u8) a0)]) rfl rfl o0 (.int _ _ _) rfl)) (.cons (sok_run rfl rfl hc3 (pkT (rs := [(16, .p .bool ((decide (a0 ≥ 65)) : Bool)), (18, .p .bool ((decide (a0 ≤ 90)) : Bool))]) rfl rfl o0 hc4 o1)) (.cons (pkF (rs := [(13, .p .bool ((decide (a0 ≤ 57)) : Bool)), (19, .p .bool ((decide (a0 ≤ 90)) : Bool))]) rfl rfl o0 hc3 o1) (.cons (mvU (v := .p .bool ((decide (a0 ≤ 90)) : Bool)) rfl rfl) (.cons (sok_run rfl rfl hc5 (mvU (v := .p (.int .u8) a0) rfl rfl)) (.cons (sok_run rfl rfl hc5 (cmU (rs := [(22, .p (.int .u8) a0)]) rfl rfl o0 (.int _ _ _) rfl)) (.cons (sok_run rfl rfl hc5 (mvU (v := .p .bool ((decide (a0 ≥ 97)) : Bool)) rfl rfl)) (.cons (sok_run rfl rfl hc6 (mvU (v := .p (.int .u8) a0) rfl rfl)) (.cons (sok_run rfl rfl hc6 (cmU (rs := [(25, .p (.int .u8) a0)]) rfl rfl o0 (.int _ _ _) rfl)) (.cons (sok_run rfl rfl hc5 (pkT (rs := [(24, .p .bool ((decide (a0 ≥ 97)) : Bool)), (26, .p .bool ((decide (a0 ≤ 122)) : Bool))]) rfl rfl o0 hc6 o1)) (.cons (pkF (rs := [(21, .p .bool ((decide (a0 ≤ 90)) : Bool)), (27, .p .bool ((decide (a0 ≤ 122)) : Bool))]) rfl rfl o0 hc5 o1) (.cons (mvA (v := .p .bool ((decide (a0 ≤ 122)) : Bool)) rfl rfl) .nil))))))))))))))))))))))))))) (by kernel_rfl) (by kernel_rfl) (by kernel_rfl) (cvR _) ?_
              refine tnU ?_
              refine WpC.ret ?_
              have hq := Option.some.inj h
              subst hq
              exact ends_ret (retV_1 rfl (.head _)) ain_nil
            · replace h := ite_f hc6 h
              refine rgU (st1 := ⟨[(2, .p .bool false)], []⟩) [2] [] hN (.cons (mvU (v := .p (.int .u8) a0) rfl rfl) (.cons (cmU (rs := [(3, .p (.int .u8) a0)]) rfl rfl o0 (.int _ _ _) rfl) (.cons (mvU (v := .p .bool ((a0 == 95) : Bool)) rfl rfl) (.cons (sok_run rfl rfl hc1 (mvU (v := .p (.int .u8) a0) rfl rfl)) (.cons (sok_run rfl rfl hc1 (cmU (rs := [(6, .p (.int .u8) a0)]) rfl rfl o0 (.int _ _ _) rfl)) (.cons (sok_run rfl rfl hc1 (mvU (v := .p .bool ((decide (a0 ≥ 48)) : Bool)) rfl rfl)) (.cons (sok_run rfl rfl hc2 (mvU (v := .p (.int .u8) a0) rfl rfl)) (.cons (sok_run rfl rfl hc2 (cmU (rs := [(9, .p (.int .u8) a0)]) rfl rfl o0 (.int _ _ _) rfl)) (.cons (sok_run rfl rfl hc1 (pkT (rs := [(8, .p .bool ((decide (a0 ≥ 48)) : Bool)), (10, .p .bool ((decide (a0 ≤ 57)) : Bool))]) rfl rfl o0 hc2 o1)) (.cons (pkF (rs := [(5, .p .bool ((a0 == 95) : Bool)), (11, .p .bool ((decide (a0 ≤ 57)) : Bool))]) rfl rfl o0 hc1 o1) (.cons (mvU (v := .p .bool ((decide (a0 ≤ 57)) : Bool)) rfl rfl) (.cons (sok_run rfl rfl hc3 (mvU (v := .p (.int .u8) a0) rfl rfl)) (.cons (sok_run rfl rfl hc3 (cmU (rs := [(14, .p (.int .u8) a0)]) rfl rfl o0 (.int _ _ _) rfl)) (.cons (sok_run rfl rfl hc3 (mvU (v := .p .bool ((decide (a0 ≥ 65)) : Bool)) rfl rfl)) (.cons (sok_run rfl rfl hc4 (mvU (v := .p (.int .u8) a0) rfl rfl)) (.cons (sok_run rfl rfl hc4 (cmU (rs := [(17, .p (.int .u8) a0)]) rfl rfl o0 (.int _ _ _) rfl)) (.cons (sok_run rfl rfl hc3 (pkT (rs := [(16, .p .bool ((decide (a0 ≥ 65)) : Bool)), (18, .p .bool ((decide (a0 ≤ 90)) : Bool))]) rfl rfl o0 hc4 o1)) (.cons (pkF (rs := [(13, .p .bool ((decide (a0 ≤ 57)) : Bool)), (19, .p .bool ((decide (a0 ≤ 90)) : Bool))]) rfl rfl o0 hc3 o1) (.cons (mvU (v := .p .bool ((decide (a0 ≤ 90)) : Bool)) rfl rfl) (.cons (sok_run rfl rfl hc5 (mvU (v := .p (.int .u8) a0) rfl rfl)) (.cons (sok_run rfl rfl hc5 (cmU (rs := [(22, .p (.int .u8) a0)]) rfl rfl o0 (.int _ _ _) rfl)) (.cons (sok_run rfl rfl hc5 (mvU (v := .p .bool ((decide (a0 ≥ 97)) : Bool)) rfl rfl)) (.cons (skU rfl rfl hc6) (.cons (skU rfl rfl hc6) (.cons (sok_run rfl rfl hc5 (pkF (rs := [(24, .p .bool ((decide (a0 ≥ 97)) : Bool))]) rfl rfl o0 hc6 (.bool _ _))) (.cons (pkF (rs := [(21, .p .bool ((decide (a0 ≤ 90)) : Bool)), (27, .p .bool false)]) rfl rfl o0 hc5 o1) (.cons (mvA (v := .p .bool false) rfl rfl) .nil))))))))))))))))))))))))))) (by kernel_rfl) (by kernel_rfl) (by kernel_rfl) (cvR _) ?_
              refine tnU ?_
              refine WpC.ret ?_
              have hq := Option.some.inj h
              subst hq
              exact ends_ret (retV_1 rfl (.head _)) ain_nil
        · replace h := ite_f hc4 h
          rcases bool_cases (decide (a0 ≥ 97)) with hc7 | hc7
          · replace h := ite_t hc7 h
            refine rgU (st1 := ⟨[(2, .p .bool ((decide (a0 ≤ 122)) : Bool))], []⟩) [2] [] hN (.cons (mvU (v := .p (.int .u8) a0) rfl rfl) (.cons (cmU (rs := [(3, .p (.int .u8) a0)]) rfl rfl o0 (.int _ _ _) rfl) (.cons (mvU (v := .p .bool ((a0 == 95) : Bool)) rfl rfl) (.cons (sok_run rfl rfl hc1 (mvU (v := .p (.int .u8) a0) rfl rfl)) (.cons (sok_run rfl rfl hc1 (cmU (rs := [(6, .p (.int .u8) a0)]) rfl rfl o0 (.int _ _ _) rfl)) (.cons (sok_run rfl rfl hc1 (mvU (v := .p .bool ((decide (a0 ≥ 48)) : Bool)) rfl rfl)) (.cons (sok_run rfl rfl hc2 (mvU (v := .p (.int .u8) a0) rfl rfl)) (.cons (sok_run rfl rfl hc2 (cmU (rs := [(9, .p (.int .u8) a0)]) rfl rfl o0 (.int _ _ _) rfl)) (.cons (sok_run rfl rfl hc1 (pkT (rs := [(8, .p .bool ((decide (a0 ≥ 48)) : Bool)), (10, .p .bool ((decide (a0 ≤ 57)) : Bool))]) rfl rfl o0 hc2 o1)) (.cons (pkF (rs := [(5, .p .bool ((a0 == 95) : Bool)), (11, .p .bool ((decide (a0 ≤ 57)) : Bool))]) rfl rfl o0 hc1 o1) (.cons (mvU (v := .p .bool ((decide (a0 ≤ 57)) : Bool)) rfl rfl) (.cons (sok_run rfl rfl hc3 (mvU (v := .p (.int .u8) a0) rfl rfl)) (.cons (sok_run rfl rfl hc3 (cmU (rs := [(14, .p (.int .u8) a0)]) rfl rfl o0 (.int _ _ _) rfl)) (.cons (sok_run rfl rfl hc3 (mvU (v := .p .bool ((decide (a0 ≥ 65)) : Bool)) rfl rfl)) (.cons (skU rfl rfl hc4) (.cons (skU rfl rfl hc4) (.cons (sok_run rfl rfl hc3 (pkF (rs := [(16, .p .bool ((decide (a0 ≥ 65)) : Bool))]) rfl rfl o0 hc4 (.bool _ _))) (.cons (pkF (rs := [(13, .p .bool ((decide (a0 ≤ 57)) : Bool)), (19, .p .bool false)]) rfl rfl o0 hc3 o1) (.cons (mvU (v := .p .bool false) rfl rfl) (.cons (sok_run rfl rfl rfl (mvU (v := .p (.int .u8) a0) rfl rfl)) (.cons (sok_run rfl rfl rfl (cmU (rs := [(22, .p (.int .u8) a0)]) rfl rfl o0 (.int _ _ _) rfl)) (.cons (sok_run rfl rfl rfl (mvU (v := .p .bool ((decide (a0 ≥ 97)) : Bool)) rfl rfl)) (.cons (sok_run rfl rfl hc7 (mvU (v := .p (.int .u8) a0) rfl rfl)) (.cons (sok_run rfl rfl hc7 (cmU (rs := [(25, .p (.int .u8) a0)]) rfl rfl o0 (.int _ _ _) rfl)) (.cons (sok_run rfl rfl rfl (pkT (rs := [(24, .p .bool ((decide (a0 ≥ 97)) : Bool)), (26, .p .bool ((decide (a0 ≤ 122)) : Bool))]) rfl rfl o0 hc7 o1)) (.cons (pkF (rs := [(21, .p .bool false), (27, .p .bool ((decide (a0 ≤ 122)) : Bool))]) rfl rfl o0 rfl o1) (.cons (mvA (v := .p .bool ((decide (a0 ≤ 122)) : Bool)) rfl rfl) .nil))))))))))))))))))))))))))) (by kernel_rfl) (by kernel_rfl) (by kernel_rfl) (cvR _) ?_
            refine tnU ?_
            refine WpC.ret ?_
            have hq := Option.some.inj h
            subst hq
            exact ends_ret (retV_1 rfl (.head _)) ain_nil
          · replace h := ite_f hc7 h
            refine rgU (st1 := ⟨[(2, .p .bool false)], []⟩) [2] [] hN (.cons (mvU (v := .p (.int .u8) a0) rfl rfl) (.cons (cmU (rs := [(3, .p (.int .u8) a0)]) rfl rfl o0 (.int _ _ _) rfl) (.cons (mvU (v := .p .bool ((a0 == 95) : Bool)) rfl rfl) (.cons (sok_run rfl rfl hc1 (mvU (v := .p (.int .u8) a0) rfl rfl)) (.cons (sok_run rfl rfl hc1 (cmU (rs := [(6, .p (.int .u8) a0)]) rfl rfl o0 (.int _ _ _) rfl)) (.cons (sok_run rfl rfl hc1 (mvU (v := .p .bool ((decide (a0 ≥ 48)) : Bool)) rfl rfl)) (.cons (sok_run rfl rfl hc2 (mvU (v := .p (.int .u8) a0) rfl rfl)) (.cons (sok_run rfl rfl hc2 (cmU (rs := [(9, .p (.int .u8) a0)]) rfl rfl o0 (.int _ _ _) rfl)) (.cons (sok_run rfl rfl hc1 (pkT (rs := [(8, .p .bool ((decide (a0 ≥ 48)) : Bool)), (10, .p .bool ((decide (a0 ≤ 57)) : Bool))]) rfl rfl o0 hc2 o1)) (.cons (pkF (rs := [(5, .p .bool ((a0 == 95) : Bool)), (11, .p .bool ((decide (a0 ≤ 57)) : Bool))]) rfl rfl o0 hc1 o1) (.cons (mvU (v := .p .bool ((decide (a0 ≤ 57)) : Bool)) rfl rfl) (.cons (sok_run rfl rfl hc3 (mvU (v := .p (.int .u8) a0) rfl rfl)) (.cons (sok_run rfl rfl hc3 (cmU (rs := [(14, .p (.int .u8) a0)]) rfl rfl o0 (.int _ _ _) rfl)) (.cons (sok_run rfl rfl hc3 (mvU (v := .p .bool ((decide (a0 ≥ 65)) : Bool)) rfl rfl)) (.cons (skU rfl rfl hc4) (.cons (skU rfl rfl hc4) (.cons (sok_run rfl rfl hc3 (pkF (rs := [(16, .p .bool ((decide (a0 ≥ 65)) : Bool))]) rfl rfl o0 hc4 (.bool _ _))) (.cons (pkF (rs := [(13, .p .bool ((decide (a0 ≤ 57)) : Bool)), (19, .p .bool false)]) rfl rfl o0 hc3 o1) (.cons (mvU (v := .p .bool false) rfl rfl) (.cons (sok_run rfl rfl rfl (mvU (v := .p (.int .u8) a0) rfl rfl)) (.cons (sok_run rfl rfl rfl (cmU (rs := [(22, .p (.int .u8) a0)]) rfl rfl o0 (.int _ _ _) rfl)) (.cons (sok_run rfl rfl rfl (mvU (v := .p .bool ((decide (a0 ≥ 97)) : Bool)) rfl rfl)) (.cons (skU rfl rfl hc7) (.cons (skU rfl rfl hc7) (.cons (sok_run rfl rfl rfl (pkF (rs := [(24, .p .bool ((decide (a0 ≥ 97)) : Bool))]) rfl rfl o0 hc7 (.bool _ _))) (.cons (pkF (rs := [(21, .p .bool false), (27, .p .bool false)]) rfl rfl o0 rfl o1) (.cons (mvA (v := .p .bool false) rfl rfl) .nil))))))))))))))))))))))))))) (by kernel_rfl) (by kernel_rfl) (by kernel_rfl) (cvR _) ?_
            refine tnU ?_
            refine WpC.ret ?_
            have hq := Option.some.inj h
            subst hq
            exact ends_ret (retV_1 rfl (.head _)) ain_nil
    · replace h := ite_f hc2 h
      rcases bool_cases (decide (a0 ≥ 65)) with hc8 | hc8
      · replace h := ite_t hc8 h
        rcases bool_cases (decide (a0 ≤ 90)) with hc9 | hc9
        · replace h := ite_t hc9 h
          refine rgU (st1 := ⟨[(2, .p .bool true)], []⟩) [2] [] hN (.cons (mvU (v := .p (.int .u8) a0) rfl rfl) (.cons (cmU (rs := [(3, .p (.int .u8) a0)]) rfl rfl o0 (.int _ _ _) rfl) (.cons (mvU (v := .p .bool ((a0 == 95) : Bool)) rfl rfl) (.cons (sok_run rfl rfl hc1 (mvU (v := .p (.int .u8) a0) rfl rfl)) (.cons (sok_run rfl rfl hc1 (cmU (rs := [(6, .p (.int .u8) a0)]) rfl rfl o0 (.int _ _ _) rfl)) (.cons (sok_run rfl rfl hc1 (mvU (v := .p .bool ((decide (a0 ≥ 48)) : Bool)) rfl rfl)) (.cons (skU rfl rfl hc2) (.cons (skU rfl rfl hc2) (.cons (sok_run rfl rfl hc1 (pkF (rs := [(8, .p .bool ((decide (a0 ≥ 48)) : Bool))]) rfl rfl o0 hc2 (.bool _ _))) (.cons (pkF (rs := [(5, .p .bool ((a0 == 95) : Bool)), (11, .p .bool false)]) rfl rfl o0 hc1 o1) (.cons (mvU (v := .p .bool false) rfl rfl) (.cons (sok_run rfl rfl rfl (mvU (v := .p (.int .u8) a0) rfl rfl)) (.cons (sok_run rfl rfl rfl (cmU (rs := [(14, .p (.int .u8) a0)]) rfl rfl o0 (.int _ _ _) rfl)) (.cons (sok_run rfl rfl rfl (mvU (v := .p .bool ((decide (a0 ≥ 65)) : Bool)) rfl rfl)) (.cons (sok_run rfl rfl hc8 (mvU (v := .p (.int .u8) a0) rfl rfl)) (.cons (sok_run rfl rfl hc8 (cmU (rs := [(17, .p (.int .u8) a0)]) rfl rfl o0 (.int _ _ _) rfl)) (.cons (sok_run rfl rfl rfl (pkT (rs := [(16, .p .bool ((decide (a0 ≥ 65)) : Bool)), (18, .p .bool ((decide (a0 ≤ 90)) : Bool))]) rfl rfl o0 hc8 o1)) (.cons (pkF (rs := [(13, .p .bool false), (19, .p .bool ((decide (a0 ≤ 90)) : Bool))]) rfl rfl o0 rfl o1) (.cons (mvU (v := .p .bool ((decide (a0 ≤ 90)) : Bool)) rfl rfl) (.cons (skU rfl rfl hc9) (.cons (skU rfl rfl hc9) (.cons (skU rfl rfl hc9) (.cons (sok_skipU rfl rfl) (.cons (sok_skipU rfl rfl) (.cons (skU rfl rfl hc9) (.cons (pkT (rs := [(21, .p .bool ((decide (a0 ≤ 90)) : Bool))]) rfl rfl o0 hc9 (.bool _ _)) (.cons (mvA (v := .p .bool true) rfl rfl) .nil))))))))))))))))))))))))))) (by kernel_rfl) (by kernel_rfl) (by kernel_rfl) (cvR _) ?_
          refine tnU ?_
          refine WpC.ret ?_
          have hq := Option.some.inj h
          subst hq
          exact ends_ret (retV_1 rfl (.head _)) ain_nil
        · replace h := ite_f hc9 h
          rcases bool_cases (decide (a0 ≥ 97)) with hc10 | hc10
          · replace h := ite_t hc10 h
            refine rgU (st1 := ⟨[(2, .p .bool ((decide (a0 ≤ 122)) : Bool))], []⟩) [2] [] hN (.cons (mvU (v := .p (.int .u8) a0) rfl rfl) (.cons (cmU (rs := [(3, .p (.int .u8) a0)]) rfl rfl o0 (.int _ _ _) rfl) (.cons (mvU (v := .p .bool ((a0 == 95) : Bool)) rfl rfl) (.cons (sok_run rfl rfl hc1 (mvU (v := .p (.int .u8) a0) rfl rfl)) (.cons (sok_run rfl rfl hc1 (cmU (rs := [(6, .p (.int .u8) a0)]) rfl rfl o0 (.int _ _ _) rfl)) (.cons (sok_run rfl rfl hc1 (mvU (v := .p .bool ((decide (a0 ≥ 48)) : Bool)) rfl rfl)) (.cons (skU rfl rfl hc2) (.cons (skU rfl rfl hc2) (.cons (sok_run rfl rfl hc1 (pkF (rs := [(8, .p .bool ((decide (a0 ≥ 48)) : Bool))]) rfl rfl o0 hc2 (.bool _ _))) (.cons (pkF (rs := [(5, .p .bool ((a0 == 95) : Bool)), (11, .p .bool false)]) rfl rfl o0 hc1 o1) (.cons (mvU (v := .p .bool false) rfl rfl) (.cons (sok_run rfl rfl rfl (mvU (v := .p (.int .u8) a0) rfl rfl)) (.cons (sok_run rfl rfl rfl (cmU (rs := [(14, .p (.int .u8) a0)]) rfl rfl o0 (.int _ _ _) rfl)) (.cons (sok_run rfl rfl rfl (mvU (v := .p .bool ((decide (a0 ≥ 65)) : Bool)) rfl rfl)) (.cons (sok_run rfl rfl hc8 (mvU (v := .p (.int .u8) a0) rfl rfl)) (.cons (sok_run rfl rfl hc8 (cmU (rs := [(17, .p (.int .u8) a0)]) rfl rfl o0 (.int _ _ _) rfl)) (.cons (sok_run rfl rfl rfl (pkT (rs := [(16, .p .bool ((decide (a0 ≥ 65)) : Bool)), (18, .p .bool ((decide (a0 ≤ 90)) : Bool))]) rfl rfl o0 hc8 o1)) (.cons (pkF (rs := [(13, .p .bool false), (19, .p .bool ((decide (a0 ≤ 90)) : Bool))]) rfl rfl o0 rfl o1) (.cons (mvU (v := .p .bool ((decide (a0 ≤ 90)) : Bool)) rfl rfl) (.cons (sok_run rfl rfl hc9 (mvU (v := .p (.int .u8) a0) rfl rfl)) (.cons (sok_run rfl rfl hc9 (cmU (rs := [(22, .p (.int .u8) a0)]) rfl rfl o0 (.int _ _ _) rfl)) (.cons (sok_run rfl rfl hc9 (mvU (v := .p .bool ((decide (a0 ≥ 97)) : Bool)) rfl rfl)) (.cons (sok_run rfl rfl hc10 (mvU (v := .p (.int .u8) a0) rfl rfl)) (.cons (sok_run rfl rfl hc10 (cmU (rs := [(25, .p (.int .u8) a0)]) rfl rfl o0 (.int _ _ _) rfl)) (.cons (sok_run rfl rfl hc9 (pkT (rs := [(24, .p .bool ((decide (a0 ≥ 97)) : Bool)), (26, .p .bool ((decide (a0 ≤ 122)) : Bool))]) rfl rfl o0 hc10 o1)) (.cons (pkF (rs := [(21, .p .bool ((decide (a0 ≤ 90)) : Bool)), (27, .p .bool ((decide (a0 ≤ 122)) : Bool))]) rfl rfl o0 hc9 o1) (.cons (mvA (v := .p .bool ((decide (a0 ≤ 122)) : Bool)) rfl rfl) .nil))))))))))))))))))))))))))) (by kernel_rfl) (by kernel_rfl) (by kernel_rfl) (cvR _) ?_
            refine tnU ?_
            refine WpC.ret ?_
            have hq := Option.some.inj h
            subst hq
            exact ends_ret (retV_1 rfl (.head _)) ain_nil
          · replace h := ite_f hc10 h
            refine rgU (st1 := ⟨[(2, .p .bool false)], []⟩) [2] [] hN (.cons (mvU (v := .p (.int .u8) a0) rfl rfl) (.cons (cmU (rs := [(3, .p (.int .u8) a0)]) rfl rfl o0 (.int _ _ _) rfl) (.cons (mvU (v := .p .bool ((a0 == 95) : Bool)) rfl rfl) (.cons (sok_run rfl rfl hc1 (mvU (v := .p (.int .u8) a0) rfl rfl)) (.cons (sok_run rfl rfl hc1 (cmU (rs := [(6, .p (.int .u8) a0)]) rfl rfl o0 (.int _ _ _) rfl)) (.cons (sok_run rfl rfl hc1 (mvU (v := .p .bool ((decide (a0 ≥ 48)) : Bool)) rfl rfl)) (.cons (skU rfl rfl hc2) (.cons (skU rfl rfl hc2) (.cons (sok_run rfl rfl hc1 (pkF (rs := [(8, .p .bool ((decide (a0 ≥ 48)) : Bool))]) rfl rfl o0 hc2 (.bool _ _))) (.cons (pkF (rs := [(5, .p .bool ((a0 == 95) : Bool)), (11, .p .bool false)]) rfl rfl o0 hc1 o1) (.cons (mvU (v := .p .bool false) rfl rfl) (.cons (sok_run rfl rfl rfl (mvU (v := .p (.int .u8) a0) rfl rfl)) (.cons (sok_run rfl rfl rfl (cmU (rs := [(14, .p (.int .u8) a0)]) rfl rfl o0 (.int _ _ _) rfl)) (.cons (sok_run rfl rfl rfl (mvU (v := .p .bool ((decide (a0 ≥ 65)) : Bool)) rfl rfl)) (.cons (sok_run rfl rfl hc8 (mvU (v := .p (.int .u8) a0) rfl rfl)) (.cons (sok_run rfl rfl hc8 (cmU (rs := [(17, .p (.int .u8) a0)]) rfl rfl o0 (.int _ _ _) rfl)) (.cons (sok_run rfl rfl rfl (pkT (rs := [(16, .p .bool ((decide (a0 ≥ 65)) : Bool)), (18, .p .bool ((decide (a0 ≤ 90)) : Bool))]) rfl rfl o0 hc8 o1)) (.cons (pkF (rs := [(13, .p .bool false), (19, .p .bool ((decide (a0 ≤ 90)) : Bool))]) rfl rfl o0 rfl o1) (.cons (mvU (v := .p .bool ((decide (a0 ≤ 90)) : Bool)) rfl rfl) (.cons (sok_run rfl rfl hc9 (mvU (v := .p (.int .u8) a0) rfl rfl)) (.cons (sok_run rfl rfl hc9 (cmU (rs := [(22, .p (.int .u8) a0)]) rfl rfl o0 (.int _ _ _) rfl)) (.cons (sok_run rfl rfl hc9 (mvU (v := .p .bool ((decide (a0 ≥ 97)) : Bool)) rfl rfl)) (.cons (skU rfl rfl hc10) (.cons (skU rfl rfl hc10) (.cons (sok_run rfl rfl hc9 (pkF (rs := [(24, .p .bool ((decide (a0 ≥ 97)) : Bool))]) rfl rfl o0 hc10 (.bool _ _))) (.cons (pkF (rs := [(21, .p .bool ((decide (a0 ≤ 90)) : Bool)), (27, .p .bool false)]) rfl rfl o0 hc9 o1) (.cons (mvA (v := .p .bool false) rfl rfl) .nil))))))))))))))))))))))))))) (by kernel_rfl) (by kernel_rfl) (by kernel_rfl) (cvR _) ?_
            refine tnU ?_
            refine WpC.ret ?_
            have hq := Option.some.inj h
            subst hq
            exact ends_ret (retV_1 rfl (.head _)) ain_nil
      · replace h := ite_f hc8 h
        rcases bool_cases (decide (a0 ≥ 97)) with hc11 | hc11
        · replace h := ite_t hc11 h
          refine rgU (st1 := ⟨[(2, .p .bool ((decide (a0 ≤ 122)) : Bool))], []⟩) [2] [] hN (.cons (mvU (v := .p (.int .u8) a0) rfl rfl) (.cons (cmU (rs := [(3, .p (.int .u8) a0)]) rfl rfl o0 (.int _ _ _) rfl) (.cons (mvU (v := .p .bool ((a0 == 95) : Bool)) rfl rfl) (.cons (sok_run rfl rfl hc1 (mvU (v := .p (.int .u8) a0) rfl rfl)) (.cons (sok_run rfl rfl hc1 (cmU (rs := [(6, .p (.int .u8) a0)]) rfl rfl o0 (.int _ _ _) rfl)) (.cons (sok_run rfl rfl hc1 (mvU (v := .p .bool ((decide (a0 ≥ 48)) : Bool)) rfl rfl)) (.cons (skU rfl rfl hc2) (.cons (skU rfl rfl hc2) (.cons (sok_run rfl rfl hc1 (pkF (rs := [(8, .p .bool ((decide (a0 ≥ 48)) : Bool))]) rfl rfl o0 hc2 (.bool _ _))) (.cons (pkF (rs := [(5, .p .bool ((a0 == 95) : Bool)), (11, .p .bool false)]) rfl rfl o0 hc1 o1) (.cons (mvU (v := .p .bool false) rfl rfl) (.cons (sok_run rfl rfl rfl (mvU (v := .p (.int .u8) a0) rfl rfl)) (.cons (sok_run rfl rfl rfl (cmU (rs := [(14, .p (.int .u8) a0)]) rfl rfl o0 (.int _ _ _) rfl)) (.cons (sok_run rfl rfl rfl (mvU (v := .p .bool ((decide (a0 ≥ 65)) : Bool)) rfl rfl)) (.cons (skU rfl rfl hc8) (.cons (skU rfl rfl hc8) (.cons (sok_run rfl rfl rfl (pkF (rs := [(16, .p .bool ((decide (a0 ≥ 65)) : Bool))]) rfl rfl o0 hc8 (.bool _ _))) (.cons (pkF (rs := [(13, .p .bool false), (19, .p .bool false)]) rfl rfl o0 rfl o1) (.cons (mvU (v := .p .bool false) rfl rfl) (.cons (sok_run rfl rfl rfl (mvU (v := .p (.int .u8) a0) rfl rfl)) (.cons (sok_run rfl rfl rfl (cmU (rs := [(22, .p (.int .u8) a0)]) rfl rfl o0 (.int _ _ _) rfl)) (.cons (sok_run rfl rfl rfl (mvU (v := .p .bool ((decide (a0 ≥ 97)) : Bool)) rfl rfl)) (.cons (sok_run rfl rfl hc11 (mvU (v := .p (.int .u8) a0) rfl rfl)) (.cons (sok_run rfl rfl hc11 (cmU (rs := [(25, .p (.int .u8) a0)]) rfl rfl o0 (.int _ _ _) rfl)) (.cons (sok_run rfl rfl rfl (pkT (rs := [(24, .p .bool ((decide (a0 ≥ 97)) : Bool)), (26, .p .bool ((decide (a0 ≤ 122)) : Bool))]) rfl rfl o0 hc11 o1)) (.cons (pkF (rs := [(21, .p .bool false), (27, .p .bool ((decide (a0 ≤ 122)) : Bool))]) rfl rfl o0 rfl o1) (.cons (mvA (v := .p .bool ((decide (a0 ≤ 122)) : Bool)) rfl rfl) .nil))))))))))))))))))))))))))) (by kernel_rfl) (by kernel_rfl) (by kernel_rfl) (cvR _) ?_
          refine tnU ?_
          refine WpC.ret ?_
          have hq := Option.some.inj h
          subst hq
          exact ends_ret (retV_1 rfl (.head _)) ain_nil
        · replace h := ite_f hc11 h
          refine rgU (st1 := ⟨[(2, .p .bool false)], []⟩) [2] [] hN (.cons (mvU (v := .p (.int .u8) a0) rfl rfl) (.cons (cmU (rs := [(3, .p (.int .u8) a0)]) rfl rfl o0 (.int _ _ _) rfl) (.cons (mvU (v := .p .bool ((a0 == 95) : Bool)) rfl rfl) (.cons (sok_run rfl rfl hc1 (mvU (v := .p (.int .u8) a0) rfl rfl)) (.cons (sok_run rfl rfl hc1 (cmU (rs := [(6, .p (.int .u8) a0)]) rfl rfl o0 (.int _ _ _) rfl)) (.cons (sok_run rfl rfl hc1 (mvU (v := .p .bool ((decide (a0 ≥ 48)) : Bool)) rfl rfl)) (.cons (skU rfl rfl hc2) (.cons (skU rfl rfl hc2) (.cons (sok_run rfl rfl hc1 (pkF (rs := [(8, .p .bool ((decide (a0 ≥ 48)) : Bool))]) rfl rfl o0 hc2 (.bool _ _))) (.cons (pkF (rs := [(5, .p .bool ((a0 == 95) : Bool)), (11, .p .bool false)]) rfl rfl o0 hc1 o1) (.cons (mvU (v := .p .bool false) rfl rfl) (.cons (sok_run rfl rfl rfl (mvU (v := .p (.int .u8) a0) rfl rfl)) (.cons (sok_run rfl rfl rfl (cmU (rs := [(14, .p (.int .u8) a0)]) rfl rfl o0 (.int _ _ _) rfl)) (.cons (sok_run rfl rfl rfl (mvU (v := .p .bool ((decide (a0 ≥ 65)) : Bool)) rfl rfl)) (.cons (skU rfl rfl hc8) (.cons (skU rfl rfl hc8) (.cons (sok_run rfl rfl rfl (pkF (rs := [(16, .p .bool ((decide (a0 ≥ 65)) : Bool))]) rfl rfl o0 hc8 (.bool _ _))) (.cons (pkF (rs := [(13, .p .bool false), (19, .p .bool false)]) rfl rfl o0 rfl o1) (.cons (mvU (v := .p .bool false) rfl rfl) (.cons (sok_run rfl rfl rfl (mvU (v := .p (.int .u8) a0) rfl rfl)) (.cons (sok_run rfl rfl rfl (cmU (rs := [(22, .p (.int .u8) a0)]) rfl rfl o0 (.int _ _ _) rfl)) (.cons (sok_run rfl rfl rfl (mvU (v := .p .bool ((decide (a0 ≥ 97)) : Bool)) rfl rfl)) (.cons (skU rfl rfl hc11) (.cons (skU rfl rfl hc11) (.cons (sok_run rfl rfl rfl (pkF (rs := [(24, .p .bool ((decide (a0 ≥ 97)) : Bool))]) rfl rfl o0 hc11 (.bool _ _))) (.cons (pkF (rs := [(21, .p .bool false), (27, .p .bool false)]) rfl rfl o0 rfl o1) (.cons (mvA (v := .p .bool false) rfl rfl) .nil))))))))))))))))))))))))))) (by kernel_rfl) (by kernel_rfl) (by kernel_rfl) (cvR _) ?_
          refine tnU ?_
          refine WpC.ret ?_
          have hq := Option.some.inj h
          subst hq
          exact ends_ret (retV_1 rfl (.head _)) ain_nil

end Go.Proofs.YtnbnfjgedinlbabDoor
