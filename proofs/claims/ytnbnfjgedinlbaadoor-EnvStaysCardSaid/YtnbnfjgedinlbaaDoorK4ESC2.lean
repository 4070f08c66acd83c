/- A part of the proof of a given law: ESC2. Own work, printed in part by a program of mine. -/
import Derived.Test.YtnbnfjgedinlbaaDoorK4ESC1
namespace Go.Proofs.YtnbnfjgedinlbaaDoor
open Go Go.AM
set_option linter.unusedVariables false
set_option linter.unusedSimpArgs false
set_option maxRecDepth 100000
theorem millwrightnum_Long.ok (O : Out) (hO : GOk O) (k : Nat) (a0 : List (List UInt8)) (a1 : Int) (a2 : Int) (out : Bool) (h : millwrightnum_Long.f k a0 a1 a2 = some out) : COk Un O Tryd.prog 29 { ar := [.p (.list .str) a0, .p I6 a1, .p I6 a2], r := .p .bool out } := by
  refine cok_of_wp Tryd.func29 rfl (k := 24) rfl (Nat.le_of_ble_eq_true rfl) (namesOk_pure rfl rfl rfl rfl) ?_
  intro B hN
  refine WpC.conv (Conv.keep (U := Un) (b := ⟨[(0, .p (.list .str) a0), (1, .p I6 a1), (2, .p I6 a2)], []⟩) [0, 1, 2] [] (by kernel_rfl)) ?_
  unfold millwrightnum_Long.f at h
  refine WpC.seq ?_
  refine WpC.reg (U := Un) (st1 := ⟨[(0, .p (.list .str) a0), (1, .p I6 a1), (2, .p I6 a2)], []⟩) [0, 1, 2] [] hN (.cons (sok_move (U := Un) (rs := []) rfl (.inr rfl) (.bool _ _)) .nil) (by kernel_rfl) (by kernel_rfl) (by kernel_rfl) (Conv.refl (U := Un) _) ?_
  refine thenQ_normal ?_
  refine WpC.seq ?_
  refine WpC.seq ?_
  refine WpC.reg (U := Un) (st1 := ⟨[(0, .p (.list .str) a0), (2, .p I6 a2), (12, .p .bool ((decide ((a0.length : Int) > a1)) : Bool))], []⟩) [0, 2, 12] [] hN (.cons (mv (U := Un) (v := .p (.list .str) a0) rfl rfl) (.cons (sok_lenL (U := Un) (rs := [(9, .p (.list .str) a0)]) rfl rfl Tryd.underlying22 o0) (.cons (mv (U := Un) (v := .p I6 a1) rfl rfl) (.cons (sok_cmp (U := Un) (rs := [(10, .p I6 ((a0.length : Int) : Int)), (11, .p I6 a1)]) rfl rfl o0 o1 rfl) .nil)))) (by kernel_rfl) (by kernel_rfl) (by kernel_rfl) (Conv.refl (U := Un) _) ?_
  refine thenQ_normal ?_
  refine WpC.cond (U := Un) (b := (decide ((a0.length : Int) > a1))) (.tmp (.tail _ (.tail _ (.head _)))) (fun hc1 => ?_) (fun hc1 => ?_)
  · replace h := ite_t hc1 h
    refine WpC.seq ?_
    refine WpC.reg (U := Un) (st1 := ⟨[(6, .p .bool true)], []⟩) [6] [] hN (.cons (sok_move (U := Un) (rs := []) rfl (.inr rfl) (.bool _ _)) .nil) (by kernel_rfl) (by kernel_rfl) (by kernel_rfl) (Conv.refl (U := Un) _) ?_
    refine thenQ_normal ?_
    refine WpC.ret ?_
    refine thenQ_ret ?_
    have hq := Option.some.inj h
    subst hq
    exact ends_ret (retV_1 rfl (.head _)) ain_nil
  · replace h := ite_f hc1 h
    refine WpC.conv (Conv.keep (U := Un) (b := ⟨[(0, .p (.list .str) a0), (2, .p I6 a2)], []⟩) [0, 2] [] (by kernel_rfl)) (WpC.skip ?_)
    refine thenQ_normal ?_
    refine WpC.seqJ (U := Un) (fun st' => millwrightnum_Long.j2 k = some out ∧ st' = ⟨[], []⟩) ?_ ?_
    · refine WpC.seq ?_
      refine WpC.reg (U := Un) (st1 := ⟨[(2, .p I6 a2), (13, .p (.list .str) a0), (14, .p I6 ((a0.length : Int) : Int)), (15, .p I6 (0 : Int))], []⟩) [2, 13, 14, 15] [] hN (.cons (mv (U := Un) (v := .p (.list .str) a0) rfl rfl) (.cons (sok_lenL (U := Un) (rs := [(13, .p (.list .str) a0)]) rfl rfl Tryd.underlying22 o0) (.cons (sok_move (U := Un) (rs := []) rfl (.inl rfl) (.int _ _ _)) .nil))) (by kernel_rfl) (by kernel_rfl) (by kernel_rfl) (Conv.refl (U := Un) _) ?_
      refine thenQ_normal ?_
      refine WpC.block ?_
      obtain ⟨o5, hlo5, h⟩ := bind_some h
      have hout6 := h
      clear h
      refine WpC.loop (U := Un) (fun n st' => ∃ v3 : Int, millwrightnum_Long.l4 k a0 a2 n v3 = some o5 ∧ st' = ⟨[(2, .p I6 a2), (13, .p (.list .str) a0), (14, .p I6 ((a0.length : Int) : Int)), (15, .p I6 v3)], []⟩) k ⟨0, hlo5, rfl⟩ ?_
      clear hlo5
      rintro (_ | n) _ ⟨v3, h, rfl⟩
      · cases h
      · rw [millwrightnum_Long.l4] at h
        refine WpC.seq ?_
        refine WpC.reg (U := Un) (st1 := ⟨[(2, .p I6 a2), (13, .p (.list .str) a0), (14, .p I6 ((a0.length : Int) : Int)), (15, .p I6 v3), (16, .p .bool ((decide (v3 < (a0.length : Int))) : Bool))], []⟩) [2, 13, 14, 15, 16] [] hN (.cons (sok_cmp (U := Un) (rs := [(15, .p I6 v3), (14, .p I6 ((a0.length : Int) : Int))]) rfl rfl o0 o1 rfl) .nil) (by kernel_rfl) (by kernel_rfl) (by kernel_rfl) (Conv.refl (U := Un) _) ?_
        refine thenQ_normal ?_
        refine WpC.seq ?_
        refine WpC.cond (U := Un) (b := (decide (v3 < (a0.length : Int)))) (.tmp (.tail _ (.tail _ (.tail _ (.tail _ (.head _)))))) (fun hc7 => ?_) (fun hc7 => ?_)
        · replace h := ite_t hc7 h
          refine WpC.conv (Conv.keep (U := Un) (b := ⟨[(2, .p I6 a2), (13, .p (.list .str) a0), (14, .p I6 ((a0.length : Int) : Int)), (15, .p I6 v3)], []⟩) [2, 13, 14, 15] [] (by kernel_rfl)) (WpC.skip ?_)
          refine thenQ_normal ?_
          refine WpC.seq ?_
          refine WpC.block ?_
          refine WpC.seq ?_
          obtain ⟨v8, hv8, h⟩ := bind_some h
          refine WpC.reg (U := Un) (st1 := ⟨[(2, .p I6 a2), (8, .p .str v8), (13, .p (.list .str) a0), (14, .p I6 ((a0.length : Int) : Int)), (15, .p I6 v3)], []⟩) [2, 8, 13, 14, 15] [] hN (.cons (sok_indexL (U := Un) (rs := [(13, .p (.list .str) a0), (15, .p I6 v3)]) rfl rfl sl_22 o0 o1 hv8) (.cons (sok_loadP (U := Un) (rs := [(17, .pp .str v8)]) rfl rfl ty_9 o0) (.cons (mva (U := Un) (v := .p .str v8) rfl rfl) .nil))) (by kernel_rfl) (by kernel_rfl) (by kernel_rfl) (Conv.refl (U := Un) _) ?_
          refine thenQ_normal ?_
          refine WpC.seq ?_
          refine WpC.reg (U := Un) (st1 := ⟨[(2, .p I6 a2), (13, .p (.list .str) a0), (14, .p I6 ((a0.length : Int) : Int)), (15, .p I6 v3), (22, .p .bool ((decide ((v8.length : Int) > a2)) : Bool))], []⟩) [2, 13, 14, 15, 22] [] hN (.cons (mv (U := Un) (v := .p .str v8) rfl rfl) (.cons (sok_lenS (U := Un) (rs := [(19, .p .str v8)]) rfl rfl Tryd.underlying9 o0) (.cons (mv (U := Un) (v := .p I6 a2) rfl rfl) (.cons (sok_cmp (U := Un) (rs := [(20, .p I6 ((v8.length : Int) : Int)), (21, .p I6 a2)]) rfl rfl o0 o1 rfl) .nil)))) (by kernel_rfl) (by kernel_rfl) (by kernel_rfl) (Conv.refl (U := Un) _) ?_
          refine thenQ_normal ?_
          refine WpC.cond (U := Un) (b := (decide ((v8.length : Int) > a2))) (.tmp (.tail _ (.tail _ (.tail _ (.tail _ (.head _)))))) (fun hc9 => ?_) (fun hc9 => ?_)
          · replace h := ite_t hc9 h
            refine WpC.seq ?_
            refine WpC.reg (U := Un) (st1 := ⟨[(6, .p .bool true)], []⟩) [6] [] hN (.cons (sok_move (U := Un) (rs := []) rfl (.inr rfl) (.bool _ _)) .nil) (by kernel_rfl) (by kernel_rfl) (by kernel_rfl) (Conv.refl (U := Un) _) ?_
            refine thenQ_normal ?_
            refine WpC.ret ?_
            refine blockQ_ret ?_
            refine thenQ_ret ?_
            have hq := Option.some.inj h
            subst hq
            refine thenQ_ret ?_
            have h := hout6
            refine blockQ_ret ?_
            refine thenQ_ret ?_
            have hq := Option.some.inj h
            subst hq
            exact ends_ret (retV_1 rfl (.head _)) ain_nil
          · replace h := ite_f hc9 h
            refine WpC.conv (Conv.keep (U := Un) (b := ⟨[(2, .p I6 a2), (13, .p (.list .str) a0), (14, .p I6 ((a0.length : Int) : Int)), (15, .p I6 v3)], []⟩) [2, 13, 14, 15] [] (by kernel_rfl)) (WpC.skip ?_)
            refine blockQ_normal ?_
            refine thenQ_normal ?_
            refine WpC.reg (U := Un) (st1 := ⟨[(2, .p I6 a2), (13, .p (.list .str) a0), (14, .p I6 ((a0.length : Int) : Int)), (15, .p I6 ((IntKind.i64.wrap (v3 + 1)) : Int))], []⟩) [2, 13, 14, 15] [] hN (.cons (sok_arith (U := Un) (rs := [(15, .p I6 v3)]) rfl rfl o0 (.int _ _ _) rfl) (.cons (mv (U := Un) (v := .p I6 ((IntKind.i64.wrap (v3 + 1)) : Int)) rfl rfl) .nil)) (by kernel_rfl) (by kernel_rfl) (by kernel_rfl) (Conv.refl (U := Un) _) ?_
            refine thenQ_normal ?_
            exact ⟨n, Nat.lt_succ_self n, (IntKind.i64.wrap (v3 + 1)), h, rfl⟩
        · replace h := ite_f hc7 h
          refine WpC.conv (Conv.keep (U := Un) (b := ⟨[], []⟩) [] [] (by kernel_rfl)) (WpC.exit ?_)
          refine thenQ_exit ?_
          have hq := Option.some.inj h
          subst hq
          refine thenQ_exit ?_
          have h := hout6
          refine blockQ_hit ?_
          refine thenQ_normal ?_
          exact ⟨h, rfl⟩
    · rintro _ ⟨h, rfl⟩
      unfold millwrightnum_Long.j2 at h
      refine WpC.seq ?_
      refine WpC.reg (U := Un) (st1 := ⟨[(6, .p .bool false)], []⟩) [6] [] hN (.cons (sok_move (U := Un) (rs := []) rfl (.inr rfl) (.bool _ _)) .nil) (by kernel_rfl) (by kernel_rfl) (by kernel_rfl) (Conv.refl (U := Un) _) ?_
      refine thenQ_normal ?_
      refine WpC.ret ?_
      have hq := Option.some.inj h
      subst hq
      exact ends_ret (retV_1 rfl (.head _)) ain_nil

theorem millwrightlaw14_Long.ok (O : Out) (hO : GOk O) (k : Nat) (a0 : List T_millwrightlaw14_Act) (a1 : Int) (out : Bool) (h : millwrightlaw14_Long.f k a0 a1 = some out) : COk Un O Tryd.prog 7 { ar := [.p (.list (.named 4)) a0, .p I6 a1], r := .p .bool out } := by
  refine cok_of_wp Tryd.func7 rfl (k := 29) rfl (Nat.le_of_ble_eq_true rfl) (namesOk_pure rfl rfl rfl rfl) ?_
  intro B hN
  refine WpC.conv (Conv.keep (U := Un) (b := ⟨[(0, .p (.list (.named 4)) a0), (1, .p I6 a1)], []⟩) [0, 1] [] (by kernel_rfl)) ?_
  unfold millwrightlaw14_Long.f at h
  refine WpC.seq ?_
  refine WpC.reg (U := Un) (st1 := ⟨[(0, .p (.list (.named 4)) a0), (1, .p I6 a1)], []⟩) [0, 1] [] hN (.cons (sok_move (U := Un) (rs := []) rfl (.inr rfl) (.bool _ _)) .nil) (by kernel_rfl) (by kernel_rfl) (by kernel_rfl) (Conv.refl (U := Un) _) ?_
  refine thenQ_normal ?_
  refine WpC.seq ?_
  refine WpC.seq ?_
  refine WpC.reg (U := Un) (st1 := ⟨[(0, .p (.list (.named 4)) a0), (10, .p .bool ((decide ((a0.length : Int) > a1)) : Bool))], []⟩) [0, 10] [] hN (.cons (mv (U := Un) (v := .p (.list (.named 4)) a0) rfl rfl) (.cons (sok_lenL (U := Un) (rs := [(7, .p (.list (.named 4)) a0)]) rfl rfl Tryd.underlying25 o0) (.cons (mv (U := Un) (v := .p I6 a1) rfl rfl) (.cons (sok_cmp (U := Un) (rs := [(8, .p I6 ((a0.length : Int) : Int)), (9, .p I6 a1)]) rfl rfl o0 o1 rfl) .nil)))) (by kernel_rfl) (by kernel_rfl) (by kernel_rfl) (Conv.refl (U := Un) _) ?_
  refine thenQ_normal ?_
  refine WpC.cond (U := Un) (b := (decide ((a0.length : Int) > a1))) o1 (fun hc1 => ?_) (fun hc1 => ?_)
  · replace h := ite_t hc1 h
    refine WpC.seq ?_
    refine WpC.reg (U := Un) (st1 := ⟨[(4, .p .bool true)], []⟩) [4] [] hN (.cons (sok_move (U := Un) (rs := []) rfl (.inr rfl) (.bool _ _)) .nil) (by kernel_rfl) (by kernel_rfl) (by kernel_rfl) (Conv.refl (U := Un) _) ?_
    refine thenQ_normal ?_
    refine WpC.ret ?_
    refine thenQ_ret ?_
    have hq := Option.some.inj h
    subst hq
    exact ends_ret (retV_1 rfl (.head _)) ain_nil
  · replace h := ite_f hc1 h
    refine WpC.conv (Conv.keep (U := Un) (b := ⟨[(0, .p (.list (.named 4)) a0)], []⟩) [0] [] (by kernel_rfl)) (WpC.skip ?_)
    refine thenQ_normal ?_
    refine WpC.seqJ (U := Un) (fun st' => millwrightlaw14_Long.j2 k = some out ∧ st' = ⟨[], []⟩) ?_ ?_
    · refine WpC.seq ?_
      refine WpC.reg (U := Un) (st1 := ⟨[(11, .p (.list (.named 4)) a0), (12, .p I6 ((a0.length : Int) : Int)), (13, .p I6 (0 : Int))], []⟩) [11, 12, 13] [] hN (.cons (mv (U := Un) (v := .p (.list (.named 4)) a0) rfl rfl) (.cons (sok_lenL (U := Un) (rs := [(11, .p (.list (.named 4)) a0)]) rfl rfl Tryd.underlying25 o0) (.cons (sok_move (U := Un) (rs := []) rfl (.inl rfl) (.int _ _ _)) .nil))) (by kernel_rfl) (by kernel_rfl) (by kernel_rfl) (Conv.refl (U := Un) _) ?_
      refine thenQ_normal ?_
      refine WpC.block ?_
      obtain ⟨o5, hlo5, h⟩ := bind_some h
      have hout6 := h
      clear h
      refine WpC.loop (U := Un) (fun n st' => ∃ v3 : Int, millwrightlaw14_Long.l4 k a0 n v3 = some o5 ∧ st' = ⟨[(11, .p (.list (.named 4)) a0), (12, .p I6 ((a0.length : Int) : Int)), (13, .p I6 v3)], []⟩) k ⟨0, hlo5, rfl⟩ ?_
      clear hlo5
      rintro (_ | n) _ ⟨v3, h, rfl⟩
      · cases h
      · rw [millwrightlaw14_Long.l4] at h
        refine WpC.seq ?_
        refine WpC.reg (U := Un) (st1 := ⟨[(11, .p (.list (.named 4)) a0), (12, .p I6 ((a0.length : Int) : Int)), (13, .p I6 v3), (14, .p .bool ((decide (v3 < (a0.length : Int))) : Bool))], []⟩) [11, 12, 13, 14] [] hN (.cons (sok_cmp (U := Un) (rs := [(13, .p I6 v3), (12, .p I6 ((a0.length : Int) : Int))]) rfl rfl o0 o1 rfl) .nil) (by kernel_rfl) (by kernel_rfl) (by kernel_rfl) (Conv.refl (U := Un) _) ?_
        refine thenQ_normal ?_
        refine WpC.seq ?_
        refine WpC.cond (U := Un) (b := (decide (v3 < (a0.length : Int)))) (.tmp (.tail _ (.tail _ (.tail _ (.head _))))) (fun hc7 => ?_) (fun hc7 => ?_)
        · replace h := ite_t hc7 h
          refine WpC.conv (Conv.keep (U := Un) (b := ⟨[(11, .p (.list (.named 4)) a0), (12, .p I6 ((a0.length : Int) : Int)), (13, .p I6 v3)], []⟩) [11, 12, 13] [] (by kernel_rfl)) (WpC.skip ?_)
          refine thenQ_normal ?_
          refine WpC.seqJ (U := Un) (fun st' => millwrightlaw14_Long.j8 k (millwrightlaw14_Long.l4 k a0 n) a0 v3 = some o5 ∧ st' = ⟨[(11, .p (.list (.named 4)) a0), (12, .p I6 ((a0.length : Int) : Int)), (13, .p I6 v3)], []⟩) ?_ ?_
          · refine WpC.block ?_
            refine WpC.seq ?_
            obtain ⟨v9, hv9, h⟩ := bind_some h
            refine WpC.reg (U := Un) (st1 := ⟨[(6, .loc 6 0), (11, .p (.list (.named 4)) a0), (12, .p I6 ((a0.length : Int) : Int)), (13, .p I6 v3)], [(6, .box [.p I6 v9.f_Kind, .p .str v9.f_Var.f_Name, .p (.list .str) v9.f_Var.f_Words, .p I6 v9.f_Var.f_Level, .p .bool v9.f_Var.f_Hidden])]⟩) [6, 11, 12, 13] [6] hN (.cons (sok_indexL (U := Un) (rs := [(11, .p (.list (.named 4)) a0), (13, .p I6 v3)]) rfl rfl sl_25 o0 o1 hv9) (.cons (sok_loadP (U := Un) (rs := [(15, .pp (.named 4) v9)]) rfl rfl ty_29 o0) (.cons (sok_allocZ (U := Un) (rs := []) (d := 6) (us := [.p I6 (0 : Int), .p .str ([] : List UInt8), .p (.list .str) ([] : List (List UInt8)), .p I6 (0 : Int), .p .bool false]) (v := (.agg #[.int .i64 0, .string ByteArray.empty, .slice none 0 0, .int .i64 0, .bool false])) rfl rfl rfl (by kernel_rfl) rfl (.data (fun _ _ _ => .int _ _) (.data (fun _ _ _ => rd_str0) (.data (fun _ _ _ => .lnil _) (.data (fun _ _ _ => .int _ _) (.data (fun _ _ _ => .bool _) .nil))))) (by kernel_rfl)) (.cons (sok_storeB (U := Un) (rs := [(6, .loc 6 0), (16, .p (.named 4) v9)]) (v := .p (.named 4) v9) (mid' := [.p I6 v9.f_Kind, .p .str v9.f_Var.f_Name, .p (.list .str) v9.f_Var.f_Words, .p I6 v9.f_Var.f_Level, .p .bool v9.f_Var.f_Hidden]) [] [.p I6 (0 : Int), .p .str ([] : List UInt8), .p (.list .str) ([] : List (List UInt8)), .p I6 (0 : Int), .p .bool false] [] rfl rfl rfl ty_29 o0 o1 (.data (.named (us := [.p I6 v9.f_Kind, .p .str v9.f_Var.f_Name, .p (.list .str) v9.f_Var.f_Words, .p I6 v9.f_Var.f_Level, .p .bool v9.f_Var.f_Hidden]) (.pair (.one _ _) (.pair (.named (us := [.p .str v9.f_Var.f_Name, .p (.list .str) v9.f_Var.f_Words, .p I6 v9.f_Var.f_Level, .p .bool v9.f_Var.f_Hidden]) (.pair (.one _ _) (.pair (.one _ _) (.pair (.one _ _) (.pair (.one _ _) .unit))))) .unit)))) rfl rfl rfl rfl rfl rfl) .nil)))) (by kernel_rfl) (by kernel_rfl) (by kernel_rfl) (Conv.refl (U := Un) _) ?_
            refine thenQ_normal ?_
            refine WpC.seqJ (U := Un) (fun st' => ∃ v10 : Bool, millwrightlaw14_Long.j12 k (millwrightlaw14_Long.l4 k a0 n) a0 v3 v10 = some o5 ∧ st' = ⟨[(11, .p (.list (.named 4)) a0), (12, .p I6 ((a0.length : Int) : Int)), (13, .p I6 v3), (27, .p .bool v10)], []⟩) ?_ ?_
            · rcases bool_cases (decide ((v9.f_Var.f_Name.length : Int) > 60)) with hc13 | hc13
              · replace h := ite_t hc13 h
                refine WpC.reg (U := Un) (st1 := ⟨[(11, .p (.list (.named 4)) a0), (12, .p I6 ((a0.length : Int) : Int)), (13, .p I6 v3), (27, .p .bool true)], []⟩) [11, 12, 13, 27] [] hN (.cons (sok_fieldB (U := Un) (rs := [(6, .loc 6 0)]) rfl rfl fd_29_1 (by decide) o0) (.cons (sok_fieldB (U := Un) (rs := [(17, .loc 6 1)]) rfl rfl fd_24_0 (by decide) o0) (.cons (sok_loadB (U := Un) (t := .str) (rs := [(18, .loc 6 1)]) [.p I6 v9.f_Kind] [.p .str v9.f_Var.f_Name] [.p (.list .str) v9.f_Var.f_Words, .p I6 v9.f_Var.f_Level, .p .bool v9.f_Var.f_Hidden] (v := .p .str v9.f_Var.f_Name) rfl rfl ty_9 o0 rfl rfl rfl rfl (.data (.one _ _))) (.cons (sok_lenS (U := Un) (rs := [(19, .p .str v9.f_Var.f_Name)]) rfl rfl Tryd.underlying9 o0) (.cons (sok_cmp (U := Un) (rs := [(20, .p I6 ((v9.f_Var.f_Name.length : Int) : Int))]) rfl rfl o0 (.int _ _ _) rfl) (.cons (mv (U := Un) (v := .p .bool ((decide ((v9.f_Var.f_Name.length : Int) > 60)) : Bool)) rfl rfl) (.cons (sok_skip rfl rfl hc13) (.cons (sok_skip rfl rfl hc13) (.cons (sok_skip rfl rfl hc13) (.cons (sok_skip rfl rfl hc13) (.cons (sok_pickT (U := Un) (rs := [(22, .p .bool ((decide ((v9.f_Var.f_Name.length : Int) > 60)) : Bool))]) rfl rfl o0 hc13 (.bool _ _)) .nil))))))))))) (by kernel_rfl) (by kernel_rfl) (by kernel_rfl) (Conv.refl (U := Un) _) ?_
                refine thenQ_normal ?_
                exact ⟨true, h, rfl⟩
              · replace h := ite_f hc13 h
                obtain ⟨v14, hv14, h⟩ := bind_some h
                refine WpC.reg (U := Un) (st1 := ⟨[(11, .p (.list (.named 4)) a0), (12, .p I6 ((a0.length : Int) : Int)), (13, .p I6 v3), (27, .p .bool v14)], []⟩) [11, 12, 13, 27] [] hN (.cons (sok_fieldB (U := Un) (rs := [(6, .loc 6 0)]) rfl rfl fd_29_1 (by decide) o0) (.cons (sok_fieldB (U := Un) (rs := [(17, .loc 6 1)]) rfl rfl fd_24_0 (by decide) o0) (.cons (sok_loadB (U := Un) (t := .str) (rs := [(18, .loc 6 1)]) [.p I6 v9.f_Kind] [.p .str v9.f_Var.f_Name] [.p (.list .str) v9.f_Var.f_Words, .p I6 v9.f_Var.f_Level, .p .bool v9.f_Var.f_Hidden] (v := .p .str v9.f_Var.f_Name) rfl rfl ty_9 o0 rfl rfl rfl rfl (.data (.one _ _))) (.cons (sok_lenS (U := Un) (rs := [(19, .p .str v9.f_Var.f_Name)]) rfl rfl Tryd.underlying9 o0) (.cons (sok_cmp (U := Un) (rs := [(20, .p I6 ((v9.f_Var.f_Name.length : Int) : Int))]) rfl rfl o0 (.int _ _ _) rfl) (.cons (mv (U := Un) (v := .p .bool ((decide ((v9.f_Var.f_Name.length : Int) > 60)) : Bool)) rfl rfl) (.cons (sok_run rfl rfl hc13 (sok_fieldB (U := Un) (rs := [(6, .loc 6 0)]) rfl rfl fd_29_1 (by decide) o0)) (.cons (sok_run rfl rfl hc13 (sok_fieldB (U := Un) (rs := [(23, .loc 6 1)]) rfl rfl fd_24_1 (by decide) o0)) (.cons (sok_run rfl rfl hc13 (sok_loadB (U := Un) (t := .list .str) (rs := [(24, .loc 6 2)]) [.p I6 v9.f_Kind, .p .str v9.f_Var.f_Name] [.p (.list .str) v9.f_Var.f_Words] [.p I6 v9.f_Var.f_Level, .p .bool v9.f_Var.f_Hidden] (v := .p (.list .str) v9.f_Var.f_Words) rfl rfl ty_22 o0 rfl rfl rfl rfl (.data (.one _ _)))) (.cons (sok_run rfl rfl hc13 (sok_callV (U := Un) (rs := [(25, .p (.list .str) v9.f_Var.f_Words)]) (vw := []) rfl rfl (.func _) hb_29 (millwrightnum_Long.ok O hO k v9.f_Var.f_Words 60 200 v14 hv14) (.cons o0 (.cons (.int _ _ _) (.cons (.int _ _ _) .nil))) (.cons (.same _) (.cons (.same _) (.cons (.same _) .nil))) (by simp) (.inl rfl))) (.cons (sok_pickF (U := Un) (rs := [(22, .p .bool ((decide ((v9.f_Var.f_Name.length : Int) > 60)) : Bool)), (26, .p .bool v14)]) rfl rfl o0 hc13 o1) .nil))))))))))) (by kernel_rfl) (by kernel_rfl) (by kernel_rfl) (Conv.refl (U := Un) _) ?_
                refine thenQ_normal ?_
                exact ⟨v14, h, rfl⟩
            · rintro _ ⟨v10, h, rfl⟩
              unfold millwrightlaw14_Long.j12 at h
              refine WpC.cond (U := Un) (b := v10) (.tmp (.tail _ (.tail _ (.tail _ (.head _))))) (fun hc11 => ?_) (fun hc11 => ?_)
              · replace h := ite_t hc11 h
                refine WpC.seq ?_
                refine WpC.reg (U := Un) (st1 := ⟨[(4, .p .bool true)], []⟩) [4] [] hN (.cons (sok_move (U := Un) (rs := []) rfl (.inr rfl) (.bool _ _)) .nil) (by kernel_rfl) (by kernel_rfl) (by kernel_rfl) (Conv.refl (U := Un) _) ?_
                refine thenQ_normal ?_
                refine WpC.ret ?_
                refine blockQ_ret ?_
                refine thenQ_ret ?_
                have hq := Option.some.inj h
                subst hq
                refine thenQ_ret ?_
                have h := hout6
                refine blockQ_ret ?_
                refine thenQ_ret ?_
                have hq := Option.some.inj h
                subst hq
                exact ends_ret (retV_1 rfl (.head _)) ain_nil
              · replace h := ite_f hc11 h
                refine WpC.conv (Conv.keep (U := Un) (b := ⟨[(11, .p (.list (.named 4)) a0), (12, .p I6 ((a0.length : Int) : Int)), (13, .p I6 v3)], []⟩) [11, 12, 13] [] (by kernel_rfl)) (WpC.skip ?_)
                refine blockQ_normal ?_
                refine thenQ_normal ?_
                exact ⟨h, rfl⟩
          · rintro _ ⟨h, rfl⟩
            unfold millwrightlaw14_Long.j8 at h
            refine WpC.reg (U := Un) (st1 := ⟨[(11, .p (.list (.named 4)) a0), (12, .p I6 ((a0.length : Int) : Int)), (13, .p I6 ((IntKind.i64.wrap (v3 + 1)) : Int))], []⟩) [11, 12, 13] [] hN (.cons (sok_arith (U := Un) (rs := [(13, .p I6 v3)]) rfl rfl o0 (.int _ _ _) rfl) (.cons (mv (U := Un) (v := .p I6 ((IntKind.i64.wrap (v3 + 1)) : Int)) rfl rfl) .nil)) (by kernel_rfl) (by kernel_rfl) (by kernel_rfl) (Conv.refl (U := Un) _) ?_
            refine thenQ_normal ?_
            exact ⟨n, Nat.lt_succ_self n, (IntKind.i64.wrap (v3 + 1)), h, rfl⟩
        · replace h := ite_f hc7 h
          refine WpC.conv (Conv.keep (U := Un) (b := ⟨[], []⟩) [] [] (by kernel_rfl)) (WpC.exit ?_)
          refine thenQ_exit ?_
          have hq := Option.some.inj h
          subst hq
          refine thenQ_exit ?_
          have h := hout6
          refine blockQ_hit ?_
          refine thenQ_normal ?_
          exact ⟨h, rfl⟩
    · rintro _ ⟨h, rfl⟩
      unfold millwrightlaw14_Long.j2 at h
      refine WpC.seq ?_
      refine WpC.reg (U := Un) (st1 := ⟨[(4, .p .bool false)], []⟩) [4] [] hN (.cons (sok_move (U := Un) (rs := []) rfl (.inr rfl) (.bool _ _)) .nil) (by kernel_rfl) (by kernel_rfl) (by kernel_rfl) (Conv.refl (U := Un) _) ?_
      refine thenQ_normal ?_
      refine WpC.ret ?_
      have hq := Option.some.inj h
      subst hq
      exact ends_ret (retV_1 rfl (.head _)) ain_nil

theorem millwrightnum_SameTexts.ok (O : Out) (hO : GOk O) (k : Nat) (a0 : List (List UInt8)) (a1 : List (List UInt8)) (out : Bool) (h : millwrightnum_SameTexts.f k a0 a1 = some out) : COk Un O Tryd.prog 23 { ar := [.p (.list .str) a0, .p (.list .str) a1], r := .p .bool out } := by
  refine cok_of_wp Tryd.func23 rfl (k := 26) rfl (Nat.le_of_ble_eq_true rfl) (namesOk_pure rfl rfl rfl rfl) ?_
  intro B hN
  refine WpC.conv (Conv.keep (U := Un) (b := ⟨[(0, .p (.list .str) a0), (1, .p (.list .str) a1)], []⟩) [0, 1] [] (by kernel_rfl)) ?_
  unfold millwrightnum_SameTexts.f at h
  refine WpC.seq ?_
  refine WpC.reg (U := Un) (st1 := ⟨[(0, .p (.list .str) a0), (1, .p (.list .str) a1)], []⟩) [0, 1] [] hN (.cons (sok_move (U := Un) (rs := []) rfl (.inr rfl) (.bool _ _)) .nil) (by kernel_rfl) (by kernel_rfl) (by kernel_rfl) (Conv.refl (U := Un) _) ?_
  refine thenQ_normal ?_
  refine WpC.seq ?_
  refine WpC.seq ?_
  refine WpC.reg (U := Un) (st1 := ⟨[(0, .p (.list .str) a0), (1, .p (.list .str) a1), (10, .p .bool (((a0.length : Int) != (a1.length : Int)) : Bool))], []⟩) [0, 1, 10] [] hN (.cons (mv (U := Un) (v := .p (.list .str) a0) rfl rfl) (.cons (sok_lenL (U := Un) (rs := [(6, .p (.list .str) a0)]) rfl rfl Tryd.underlying22 o0) (.cons (mv (U := Un) (v := .p (.list .str) a1) rfl rfl) (.cons (sok_lenL (U := Un) (rs := [(8, .p (.list .str) a1)]) rfl rfl Tryd.underlying22 o0) (.cons (sok_cmp (U := Un) (rs := [(7, .p I6 ((a0.length : Int) : Int)), (9, .p I6 ((a1.length : Int) : Int))]) rfl rfl o0 o1 rfl) .nil))))) (by kernel_rfl) (by kernel_rfl) (by kernel_rfl) (Conv.refl (U := Un) _) ?_
  refine thenQ_normal ?_
  refine WpC.cond (U := Un) (b := ((a0.length : Int) != (a1.length : Int))) (.tmp (.tail _ (.tail _ (.head _)))) (fun hc1 => ?_) (fun hc1 => ?_)
  · replace h := ite_t hc1 h
    refine WpC.seq ?_
    refine WpC.reg (U := Un) (st1 := ⟨[(4, .p .bool false)], []⟩) [4] [] hN (.cons (sok_move (U := Un) (rs := []) rfl (.inr rfl) (.bool _ _)) .nil) (by kernel_rfl) (by kernel_rfl) (by kernel_rfl) (Conv.refl (U := Un) _) ?_
    refine thenQ_normal ?_
    refine WpC.ret ?_
    refine thenQ_ret ?_
    have hq := Option.some.inj h
    subst hq
    exact ends_ret (retV_1 rfl (.head _)) ain_nil
  · replace h := ite_f hc1 h
    refine WpC.conv (Conv.keep (U := Un) (b := ⟨[(0, .p (.list .str) a0), (1, .p (.list .str) a1)], []⟩) [0, 1] [] (by kernel_rfl)) (WpC.skip ?_)
    refine thenQ_normal ?_
    refine WpC.seqJ (U := Un) (fun st' => millwrightnum_SameTexts.j2 k = some out ∧ st' = ⟨[], []⟩) ?_ ?_
    · refine WpC.seq ?_
      refine WpC.reg (U := Un) (st1 := ⟨[(0, .p (.list .str) a0), (1, .p (.list .str) a1), (12, .p I6 ((a0.length : Int) : Int)), (13, .p I6 (0 : Int))], []⟩) [0, 1, 12, 13] [] hN (.cons (mv (U := Un) (v := .p (.list .str) a0) rfl rfl) (.cons (sok_lenL (U := Un) (rs := [(11, .p (.list .str) a0)]) rfl rfl Tryd.underlying22 o0) (.cons (sok_move (U := Un) (rs := []) rfl (.inl rfl) (.int _ _ _)) .nil))) (by kernel_rfl) (by kernel_rfl) (by kernel_rfl) (Conv.refl (U := Un) _) ?_
      refine thenQ_normal ?_
      refine WpC.block ?_
      obtain ⟨o5, hlo5, h⟩ := bind_some h
      have hout6 := h
      clear h
      refine WpC.loop (U := Un) (fun n st' => ∃ v3 : Int, millwrightnum_SameTexts.l4 k a0 a1 n v3 = some o5 ∧ st' = ⟨[(0, .p (.list .str) a0), (1, .p (.list .str) a1), (12, .p I6 ((a0.length : Int) : Int)), (13, .p I6 v3)], []⟩) k ⟨0, hlo5, rfl⟩ ?_
      clear hlo5
      rintro (_ | n) _ ⟨v3, h, rfl⟩
      · cases h
      · rw [millwrightnum_SameTexts.l4] at h
        refine WpC.seq ?_
        refine WpC.reg (U := Un) (st1 := ⟨[(0, .p (.list .str) a0), (1, .p (.list .str) a1), (12, .p I6 ((a0.length : Int) : Int)), (13, .p I6 v3), (14, .p .bool ((decide (v3 < (a0.length : Int))) : Bool))], []⟩) [0, 1, 12, 13, 14] [] hN (.cons (sok_cmp (U := Un) (rs := [(13, .p I6 v3), (12, .p I6 ((a0.length : Int) : Int))]) rfl rfl o0 o1 rfl) .nil) (by kernel_rfl) (by kernel_rfl) (by kernel_rfl) (Conv.refl (U := Un) _) ?_
        refine thenQ_normal ?_
        refine WpC.seq ?_
        refine WpC.cond (U := Un) (b := (decide (v3 < (a0.length : Int)))) (.tmp (.tail _ (.tail _ (.tail _ (.tail _ (.head _)))))) (fun hc7 => ?_) (fun hc7 => ?_)
        · replace h := ite_t hc7 h
          refine WpC.conv (Conv.keep (U := Un) (b := ⟨[(0, .p (.list .str) a0), (1, .p (.list .str) a1), (12, .p I6 ((a0.length : Int) : Int)), (13, .p I6 v3)], []⟩) [0, 1, 12, 13] [] (by kernel_rfl)) (WpC.skip ?_)
          refine thenQ_normal ?_
          refine WpC.seq ?_
          refine WpC.block ?_
          refine WpC.seq ?_
          refine WpC.reg (U := Un) (st1 := ⟨[(0, .p (.list .str) a0), (1, .p (.list .str) a1), (5, .p I6 v3), (12, .p I6 ((a0.length : Int) : Int)), (13, .p I6 v3)], []⟩) [0, 1, 5, 12, 13] [] hN (.cons (mv (U := Un) (v := .p I6 v3) rfl rfl) (.cons (mva (U := Un) (v := .p I6 v3) rfl rfl) .nil)) (by kernel_rfl) (by kernel_rfl) (by kernel_rfl) (Conv.refl (U := Un) _) ?_
          refine thenQ_normal ?_
          refine WpC.seq ?_
          obtain ⟨v8, hv8, h⟩ := bind_some h
          obtain ⟨v9, hv9, h⟩ := bind_some h
          refine WpC.regA (U := Un) (st1 := ⟨[(0, .p (.list .str) a0), (1, .p (.list .str) a1), (12, .p I6 ((a0.length : Int) : Int)), (13, .p I6 v3), (24, .p .bool ((!(v8 == v9)) : Bool))], []⟩) [0, 1, 12, 13, 24] [] [[], [], [0, 1], [0, 1, 2], [], [], [4, 5], [4, 5, 6], [0, 1, 2, 3, 4, 5, 6, 7]] mixed hN (.cons (mv (U := Un) (v := .p (.list .str) a0) rfl rfl) (.cons (mv (U := Un) (v := .p I6 v3) rfl rfl) (.cons (sok_indexL (U := Un) (rs := [(16, .p (.list .str) a0), (17, .p I6 v3)]) rfl rfl sl_22 o0 o1 hv8) (.cons (sok_loadP (U := Un) (rs := [(18, .pp .str v8)]) rfl rfl ty_9 o0) (.cons (mv (U := Un) (v := .p (.list .str) a1) rfl rfl) (.cons (mv (U := Un) (v := .p I6 v3) rfl rfl) (.cons (sok_indexL (U := Un) (rs := [(20, .p (.list .str) a1), (21, .p I6 v3)]) rfl rfl sl_22 o0 o1 hv9) (.cons (sok_loadP (U := Un) (rs := [(22, .pp .str v9)]) rfl rfl ty_9 o0) (.cons (sok_cmpS (U := Un) (rs := [(19, .p .str v8), (23, .p .str v9)]) rfl rfl o0 o1 rfl) .nil))))))))) (by kernel_rfl) (by kernel_rfl) (by kernel_rfl) (by kernel_rfl) (by kernel_rfl) (Conv.refl (U := Un) _) ?_
          refine thenQ_normal ?_
          refine WpC.cond (U := Un) (b := (!(v8 == v9))) (.tmp (.tail _ (.tail _ (.tail _ (.tail _ (.head _)))))) (fun hc10 => ?_) (fun hc10 => ?_)
          · replace h := ite_t hc10 h
            refine WpC.seq ?_
            refine WpC.reg (U := Un) (st1 := ⟨[(4, .p .bool false)], []⟩) [4] [] hN (.cons (sok_move (U := Un) (rs := []) rfl (.inr rfl) (.bool _ _)) .nil) (by kernel_rfl) (by kernel_rfl) (by kernel_rfl) (Conv.refl (U := Un) _) ?_
            refine thenQ_normal ?_
            refine WpC.ret ?_
            refine blockQ_ret ?_
            refine thenQ_ret ?_
            have hq := Option.some.inj h
            subst hq
            refine thenQ_ret ?_
            have h := hout6
            refine blockQ_ret ?_
            refine thenQ_ret ?_
            have hq := Option.some.inj h
            subst hq
            exact ends_ret (retV_1 rfl (.head _)) ain_nil
          · replace h := ite_f hc10 h
            refine WpC.conv (Conv.keep (U := Un) (b := ⟨[(0, .p (.list .str) a0), (1, .p (.list .str) a1), (12, .p I6 ((a0.length : Int) : Int)), (13, .p I6 v3)], []⟩) [0, 1, 12, 13] [] (by kernel_rfl)) (WpC.skip ?_)
            refine blockQ_normal ?_
            refine thenQ_normal ?_
            refine WpC.reg (U := Un) (st1 := ⟨[(0, .p (.list .str) a0), (1, .p (.list .str) a1), (12, .p I6 ((a0.length : Int) : Int)), (13, .p I6 ((IntKind.i64.wrap (v3 + 1)) : Int))], []⟩) [0, 1, 12, 13] [] hN (.cons (sok_arith (U := Un) (rs := [(13, .p I6 v3)]) rfl rfl o0 (.int _ _ _) rfl) (.cons (mv (U := Un) (v := .p I6 ((IntKind.i64.wrap (v3 + 1)) : Int)) rfl rfl) .nil)) (by kernel_rfl) (by kernel_rfl) (by kernel_rfl) (Conv.refl (U := Un) _) ?_
            refine thenQ_normal ?_
            exact ⟨n, Nat.lt_succ_self n, (IntKind.i64.wrap (v3 + 1)), h, rfl⟩
        · replace h := ite_f hc7 h
          refine WpC.conv (Conv.keep (U := Un) (b := ⟨[], []⟩) [] [] (by kernel_rfl)) (WpC.exit ?_)
          refine thenQ_exit ?_
          have hq := Option.some.inj h
          subst hq
          refine thenQ_exit ?_
          have h := hout6
          refine blockQ_hit ?_
          refine thenQ_normal ?_
          exact ⟨h, rfl⟩
    · rintro _ ⟨h, rfl⟩
      unfold millwrightnum_SameTexts.j2 at h
      refine WpC.seq ?_
      refine WpC.reg (U := Un) (st1 := ⟨[(4, .p .bool true)], []⟩) [4] [] hN (.cons (sok_move (U := Un) (rs := []) rfl (.inr rfl) (.bool _ _)) .nil) (by kernel_rfl) (by kernel_rfl) (by kernel_rfl) (Conv.refl (U := Un) _) ?_
      refine thenQ_normal ?_
      refine WpC.ret ?_
      have hq := Option.some.inj h
      subst hq
      exact ends_ret (retV_1 rfl (.head _)) ain_nil

theorem millwrightref14_Same.ok (O : Out) (hO : GOk O) (k : Nat) (a0 : T_env_Var) (a1 : T_env_Var) (out : Bool) (h : millwrightref14_Same.f k a0 a1 = some out) : COk Un O Tryd.prog 12 { ar := [.p (.named 3) a0, .p (.named 3) a1], r := .p .bool out } := by
  refine cok_of_wp Tryd.func12 rfl (k := 31) rfl (Nat.le_of_ble_eq_true rfl) (namesOk_pure rfl rfl rfl rfl) ?_
  intro B hN
  refine WpC.conv (Conv.keep (U := Un) (b := ⟨[(0, .p (.named 3) a0), (1, .p (.named 3) a1)], []⟩) [0, 1] [] (by kernel_rfl)) ?_
  unfold millwrightref14_Same.f at h
  refine WpC.seq ?_
  refine WpC.reg (U := Un) (st1 := ⟨[(2, .loc 2 0), (3, .loc 3 0)], [(2, .box [.p .str a0.f_Name, .p (.list .str) a0.f_Words, .p I6 a0.f_Level, .p .bool a0.f_Hidden]), (3, .box [.p .str a1.f_Name, .p (.list .str) a1.f_Words, .p I6 a1.f_Level, .p .bool a1.f_Hidden])]⟩) [2, 3] [2, 3] hN (.cons (sok_box (U := Un) (rs := [(0, .p (.named 3) a0)]) (d := 2) (us := [.p .str a0.f_Name, .p (.list .str) a0.f_Words, .p I6 a0.f_Level, .p .bool a0.f_Hidden]) rfl rfl rfl o0 (.data (.named (us := [.p .str a0.f_Name, .p (.list .str) a0.f_Words, .p I6 a0.f_Level, .p .bool a0.f_Hidden]) (.pair (.one _ _) (.pair (.one _ _) (.pair (.one _ _) (.pair (.one _ _) .unit)))))) rfl (notin_of (by kernel_rfl))) (.cons (sok_box (U := Un) (rs := [(1, .p (.named 3) a1)]) (d := 3) (us := [.p .str a1.f_Name, .p (.list .str) a1.f_Words, .p I6 a1.f_Level, .p .bool a1.f_Hidden]) rfl rfl rfl o0 (.data (.named (us := [.p .str a1.f_Name, .p (.list .str) a1.f_Words, .p I6 a1.f_Level, .p .bool a1.f_Hidden]) (.pair (.one _ _) (.pair (.one _ _) (.pair (.one _ _) (.pair (.one _ _) .unit)))))) rfl (notin_of (by kernel_rfl))) (.cons (sok_move (U := Un) (rs := []) rfl (.inr rfl) (.bool _ _)) .nil))) (by kernel_rfl) (by kernel_rfl) (by kernel_rfl) (Conv.refl (U := Un) _) ?_
  refine thenQ_normal ?_
  refine WpC.seq ?_
  rcases bool_cases (a0.f_Name == a1.f_Name) with hc1 | hc1
  · replace h := ite_t hc1 h
    rcases bool_cases (a0.f_Level == a1.f_Level) with hc2 | hc2
    · replace h := ite_t hc2 h
      rcases bool_cases (a0.f_Hidden == a1.f_Hidden) with hc3 | hc3
      · replace h := ite_t hc3 h
        obtain ⟨v4, hv4, h⟩ := bind_some h
        refine WpC.reg (U := Un) (st1 := ⟨[(4, .p .bool v4)], []⟩) [4] [] hN (.cons (sok_fieldB (U := Un) (rs := [(2, .loc 2 0)]) rfl rfl fd_38_0 (by decide) o0) (.cons (sok_loadB (U := Un) (t := .str) (rs := [(5, .loc 2 0)]) [] [.p .str a0.f_Name] [.p (.list .str) a0.f_Words, .p I6 a0.f_Level, .p .bool a0.f_Hidden] (v := .p .str a0.f_Name) rfl rfl ty_9 o0 rfl rfl rfl rfl (.data (.one _ _))) (.cons (sok_fieldB (U := Un) (rs := [(3, .loc 3 0)]) rfl rfl fd_38_0 (by decide) o0) (.cons (sok_loadB (U := Un) (t := .str) (rs := [(7, .loc 3 0)]) [] [.p .str a1.f_Name] [.p (.list .str) a1.f_Words, .p I6 a1.f_Level, .p .bool a1.f_Hidden] (v := .p .str a1.f_Name) rfl rfl ty_9 o0 rfl rfl rfl rfl (.data (.one _ _))) (.cons (sok_cmpS (U := Un) (rs := [(6, .p .str a0.f_Name), (8, .p .str a1.f_Name)]) rfl rfl o0 o1 rfl) (.cons (mv (U := Un) (v := .p .bool ((a0.f_Name == a1.f_Name) : Bool)) rfl rfl) (.cons (sok_run rfl rfl hc1 (sok_fieldB (U := Un) (rs := [(2, .loc 2 0)]) rfl rfl fd_38_2 (by decide) o0)) (.cons (sok_run rfl rfl hc1 (sok_loadB (U := Un) (t := .int .i64) (rs := [(11, .loc 2 2)]) [.p .str a0.f_Name, .p (.list .str) a0.f_Words] [.p I6 a0.f_Level] [.p .bool a0.f_Hidden] (v := .p I6 a0.f_Level) rfl rfl ty_3 o0 rfl rfl rfl rfl (.data (.one _ _)))) (.cons (sok_run rfl rfl hc1 (sok_fieldB (U := Un) (rs := [(3, .loc 3 0)]) rfl rfl fd_38_2 (by decide) o0)) (.cons (sok_run rfl rfl hc1 (sok_loadB (U := Un) (t := .int .i64) (rs := [(13, .loc 3 2)]) [.p .str a1.f_Name, .p (.list .str) a1.f_Words] [.p I6 a1.f_Level] [.p .bool a1.f_Hidden] (v := .p I6 a1.f_Level) rfl rfl ty_3 o0 rfl rfl rfl rfl (.data (.one _ _)))) (.cons (sok_run rfl rfl hc1 (sok_cmp (U := Un) (rs := [(12, .p I6 a0.f_Level), (14, .p I6 a1.f_Level)]) rfl rfl o0 o1 rfl)) (.cons (sok_pickT (U := Un) (rs := [(10, .p .bool ((a0.f_Name == a1.f_Name) : Bool)), (15, .p .bool ((a0.f_Level == a1.f_Level) : Bool))]) rfl rfl o0 hc1 o1) (.cons (mv (U := Un) (v := .p .bool ((a0.f_Level == a1.f_Level) : Bool)) rfl rfl) (.cons (sok_run rfl rfl hc2 (sok_fieldB (U := Un) (rs := [(2, .loc 2 0)]) rfl rfl fd_38_3 (by decide) o0)) (.cons (sok_run rfl rfl hc2 (sok_loadB (U := Un) (t := .bool) (rs := [(18, .loc 2 3)]) [.p .str a0.f_Name, .p (.list .str) a0.f_Words, .p I6 a0.f_Level] [.p .bool a0.f_Hidden] [] (v := .p .bool a0.f_Hidden) rfl rfl ty_4 o0 rfl rfl rfl rfl (.data (.one _ _)))) (.cons (sok_run rfl rfl hc2 (sok_fieldB (U := Un) (rs := [(3, .loc 3 0)]) rfl rfl fd_38_3 (by decide) o0)) (.cons (sok_run rfl rfl hc2 (sok_loadB (U := Un) (t := .bool) (rs := [(20, .loc 3 3)]) [.p .str a1.f_Name, .p (.list .str) a1.f_Words, .p I6 a1.f_Level] [.p .bool a1.f_Hidden] [] (v := .p .bool a1.f_Hidden) rfl rfl ty_4 o0 rfl rfl rfl rfl (.data (.one _ _)))) (.cons (sok_run rfl rfl hc2 (sok_eqB (U := Un) (rs := [(19, .p .bool a0.f_Hidden), (21, .p .bool a1.f_Hidden)]) rfl rfl Tryd.underlying4 o0 o1)) (.cons (sok_pickT (U := Un) (rs := [(17, .p .bool ((a0.f_Level == a1.f_Level) : Bool)), (22, .p .bool ((a0.f_Hidden == a1.f_Hidden) : Bool))]) rfl rfl o0 hc2 o1) (.cons (mv (U := Un) (v := .p .bool ((a0.f_Hidden == a1.f_Hidden) : Bool)) rfl rfl) (.cons (sok_run rfl rfl hc3 (sok_fieldB (U := Un) (rs := [(2, .loc 2 0)]) rfl rfl fd_38_1 (by decide) o0)) (.cons (sok_run rfl rfl hc3 (sok_loadB (U := Un) (t := .list .str) (rs := [(25, .loc 2 1)]) [.p .str a0.f_Name] [.p (.list .str) a0.f_Words] [.p I6 a0.f_Level, .p .bool a0.f_Hidden] (v := .p (.list .str) a0.f_Words) rfl rfl ty_22 o0 rfl rfl rfl rfl (.data (.one _ _)))) (.cons (sok_run rfl rfl hc3 (sok_fieldB (U := Un) (rs := [(3, .loc 3 0)]) rfl rfl fd_38_1 (by decide) o0)) (.cons (sok_run rfl rfl hc3 (sok_loadB (U := Un) (t := .list .str) (rs := [(27, .loc 3 1)]) [.p .str a1.f_Name] [.p (.list .str) a1.f_Words] [.p I6 a1.f_Level, .p .bool a1.f_Hidden] (v := .p (.list .str) a1.f_Words) rfl rfl ty_22 o0 rfl rfl rfl rfl (.data (.one _ _)))) (.cons (sok_run rfl rfl hc3 (sok_callV (U := Un) (rs := [(26, .p (.list .str) a0.f_Words), (28, .p (.list .str) a1.f_Words)]) (vw := []) rfl rfl (.func _) hb_23 (millwrightnum_SameTexts.ok O hO k a0.f_Words a1.f_Words v4 hv4) (.cons o0 (.cons o1 .nil)) (.cons (.same _) (.cons (.same _) .nil)) (by simp) (.inl rfl))) (.cons (sok_pickT (U := Un) (rs := [(24, .p .bool ((a0.f_Hidden == a1.f_Hidden) : Bool)), (29, .p .bool v4)]) rfl rfl o0 hc3 o1) (.cons (mva (U := Un) (v := .p .bool v4) rfl rfl) .nil))))))))))))))))))))))))))) (by kernel_rfl) (by kernel_rfl) (by kernel_rfl) (Conv.refl (U := Un) _) ?_
        refine thenQ_normal ?_
        refine WpC.ret ?_
        have hq := Option.some.inj h
        subst hq
        exact ends_ret (retV_1 rfl (.head _)) ain_nil
      · replace h := ite_f hc3 h
        refine WpC.reg (U := Un) (st1 := ⟨[(4, .p .bool false)], []⟩) [4] [] hN (.cons (sok_fieldB (U := Un) (rs := [(2, .loc 2 0)]) rfl rfl fd_38_0 (by decide) o0) (.cons (sok_loadB (U := Un) (t := .str) (rs := [(5, .loc 2 0)]) [] [.p .str a0.f_Name] [.p (.list .str) a0.f_Words, .p I6 a0.f_Level, .p .bool a0.f_Hidden] (v := .p .str a0.f_Name) rfl rfl ty_9 o0 rfl rfl rfl rfl (.data (.one _ _))) (.cons (sok_fieldB (U := Un) (rs := [(3, .loc 3 0)]) rfl rfl fd_38_0 (by decide) o0) (.cons (sok_loadB (U := Un) (t := .str) (rs := [(7, .loc 3 0)]) [] [.p .str a1.f_Name] [.p (.list .str) a1.f_Words, .p I6 a1.f_Level, .p .bool a1.f_Hidden] (v := .p .str a1.f_Name) rfl rfl ty_9 o0 rfl rfl rfl rfl (.data (.one _ _))) (.cons (sok_cmpS (U := Un) (rs := [(6, .p .str a0.f_Name), (8, .p .str a1.f_Name)]) rfl rfl o0 o1 rfl) (.cons (mv (U := Un) (v := .p .bool ((a0.f_Name == a1.f_Name) : Bool)) rfl rfl) (.cons (sok_run rfl rfl hc1 (sok_fieldB (U := Un) (rs := [(2, .loc 2 0)]) rfl rfl fd_38_2 (by decide) o0)) (.cons (sok_run rfl rfl hc1 (sok_loadB (U := Un) (t := .int .i64) (rs := [(11, .loc 2 2)]) [.p .str a0.f_Name, .p (.list .str) a0.f_Words] [.p I6 a0.f_Level] [.p .bool a0.f_Hidden] (v := .p I6 a0.f_Level) rfl rfl ty_3 o0 rfl rfl rfl rfl (.data (.one _ _)))) (.cons (sok_run rfl rfl hc1 (sok_fieldB (U := Un) (rs := [(3, .loc 3 0)]) rfl rfl fd_38_2 (by decide) o0)) (.cons (sok_run rfl rfl hc1 (sok_loadB (U := Un) (t := .int .i64) (rs := [(13, .loc 3 2)]) [.p .str a1.f_Name, .p (.list .str) a1.f_Words] [.p I6 a1.f_Level] [.p .bool a1.f_Hidden] (v := .p I6 a1.f_Level) rfl rfl ty_3 o0 rfl rfl rfl rfl (.data (.one _ _)))) (.cons (sok_run rfl rfl hc1 (sok_cmp (U := Un) (rs := [(12, .p I6 a0.f_Level), (14, .p I6 a1.f_Level)]) rfl rfl o0 o1 rfl)) (.cons (sok_pickT (U := Un) (rs := [(10, .p .bool ((a0.f_Name == a1.f_Name) : Bool)), (15, .p .bool ((a0.f_Level == a1.f_Level) : Bool))]) rfl rfl o0 hc1 o1) (.cons (mv (U := Un) (v := .p .bool ((a0.f_Level == a1.f_Level) : Bool)) rfl rfl) (.cons (sok_run rfl rfl hc2 (sok_fieldB (U := Un) (rs := [(2, .loc 2 0)]) rfl rfl fd_38_3 (by decide) o0)) (.cons (sok_run rfl rfl hc2 (sok_loadB (U := Un) (t := .bool) (rs := [(18, .loc 2 3)]) [.p .str a0.f_Name, .p (.list .str) a0.f_Words, .p I6 a0.f_Level] [.p .bool a0.f_Hidden] [] (v := .p .bool a0.f_Hidden) rfl rfl ty_4 o0 rfl rfl rfl rfl (.data (.one _ _)))) (.cons (sok_run rfl rfl hc2 (sok_fieldB (U := Un) (rs := [(3, .loc 3 0)]) rfl rfl fd_38_3 (by decide) o0)) (.cons (sok_run rfl rfl hc2 (sok_loadB (U := Un) (t := .bool) (rs := [(20, .loc 3 3)]) [.p .str a1.f_Name, .p (.list .str) a1.f_Words, .p I6 a1.f_Level] [.p .bool a1.f_Hidden] [] (v := .p .bool a1.f_Hidden) rfl rfl ty_4 o0 rfl rfl rfl rfl (.data (.one _ _)))) (.cons (sok_run rfl rfl hc2 (sok_eqB (U := Un) (rs := [(19, .p .bool a0.f_Hidden), (21, .p .bool a1.f_Hidden)]) rfl rfl Tryd.underlying4 o0 o1)) (.cons (sok_pickT (U := Un) (rs := [(17, .p .bool ((a0.f_Level == a1.f_Level) : Bool)), (22, .p .bool ((a0.f_Hidden == a1.f_Hidden) : Bool))]) rfl rfl o0 hc2 o1) (.cons (mv (U := Un) (v := .p .bool ((a0.f_Hidden == a1.f_Hidden) : Bool)) rfl rfl) (.cons (sok_skip rfl rfl hc3) (.cons (sok_skip rfl rfl hc3) (.cons (sok_skip rfl rfl hc3) (.cons (sok_skip rfl rfl hc3) (.cons (sok_skip rfl rfl hc3) (.cons (sok_pickF (U := Un) (rs := [(24, .p .bool ((a0.f_Hidden == a1.f_Hidden) : Bool))]) rfl rfl o0 hc3 (.bool _ _)) (.cons (mva (U := Un) (v := .p .bool false) rfl rfl) .nil))))))))))))))))))))))))))) (by kernel_rfl) (by kernel_rfl) (by kernel_rfl) (Conv.refl (U := Un) _) ?_
        refine thenQ_normal ?_
        refine WpC.ret ?_
        have hq := Option.some.inj h
        subst hq
        exact ends_ret (retV_1 rfl (.head _)) ain_nil
    · replace h := ite_f hc2 h
      refine WpC.reg (U := Un) (st1 := ⟨[(4, .p .bool false)], []⟩) [4] [] hN (.cons (sok_fieldB (U := Un) (rs := [(2, .loc 2 0)]) rfl rfl fd_38_0 (by decide) o0) (.cons (sok_loadB (U := Un) (t := .str) (rs := [(5, .loc 2 0)]) [] [.p .str a0.f_Name] [.p (.list .str) a0.f_Words, .p I6 a0.f_Level, .p .bool a0.f_Hidden] (v := .p .str a0.f_Name) rfl rfl ty_9 o0 rfl rfl rfl rfl (.data (.one _ _))) (.cons (sok_fieldB (U := Un) (rs := [(3, .loc 3 0)]) rfl rfl fd_38_0 (by decide) o0) (.cons (sok_loadB (U := Un) (t := .str) (rs := [(7, .loc 3 0)]) [] [.p .str a1.f_Name] [.p (.list .str) a1.f_Words, .p I6 a1.f_Level, .p .bool a1.f_Hidden] (v := .p .str a1.f_Name) rfl rfl ty_9 o0 rfl rfl rfl rfl (.data (.one _ _))) (.cons (sok_cmpS (U := Un) (rs := [(6, .p .str a0.f_Name), (8, .p .str a1.f_Name)]) rfl rfl o0 o1 rfl) (.cons (mv (U := Un) (v := .p .bool ((a0.f_Name == a1.f_Name) : Bool)) rfl rfl) (.cons (sok_run rfl rfl hc1 (sok_fieldB (U := Un) (rs := [(2, .loc 2 0)]) rfl rfl fd_38_2 (by decide) o0)) (.cons (sok_run rfl rfl hc1 (sok_loadB (U := Un) (t := .int .i64) (rs := [(11, .loc 2 2)]) [.p .str a0.f_Name, .p (.list .str) a0.f_Words] [.p I6 a0.f_Level] [.p .bool a0.f_Hidden] (v := .p I6 a0.f_Level) rfl rfl ty_3 o0 rfl rfl rfl rfl (.data (.one _ _)))) (.cons (sok_run rfl rfl hc1 (sok_fieldB (U := Un) (rs := [(3, .loc 3 0)]) rfl rfl fd_38_2 (by decide) o0)) (.cons (sok_run rfl rfl hc1 (sok_loadB (U := Un) (t := .int .i64) (rs := [(13, .loc 3 2)]) [.p .str a1.f_Name, .p (.list .str) a1.f_Words] [.p I6 a1.f_Level] [.p .bool a1.f_Hidden] (v := .p I6 a1.f_Level) rfl rfl ty_3 o0 rfl rfl rfl rfl (.data (.one _ _)))) (.cons (sok_run rfl rfl hc1 (sok_cmp (U := Un) (rs := [(12, .p I6 a0.f_Level), (14, .p I6 a1.f_Level)]) rfl rfl o0 o1 rfl)) (.cons (sok_pickT (U := Un) (rs := [(10, .p .bool ((a0.f_Name == a1.f_Name) : Bool)), (15, .p .bool ((a0.f_Level == a1.f_Level) : Bool))]) rfl rfl o0 hc1 o1) (.cons (mv (U := Un) (v := .p .bool ((a0.f_Level == a1.f_Level) : Bool)) rfl rfl) (.cons (sok_skip rfl rfl hc2) (.cons (sok_skip rfl rfl hc2) (.cons (sok_skip rfl rfl hc2) (.cons (sok_skip rfl rfl hc2) (.cons (sok_skip rfl rfl hc2) (.cons (sok_pickF (U := Un) (rs := [(17, .p .bool ((a0.f_Level == a1.f_Level) : Bool))]) rfl rfl o0 hc2 (.bool _ _)) (.cons (mv (U := Un) (v := .p .bool false) rfl rfl) (.cons (sok_skip rfl rfl rfl) (.cons (sok_skip rfl rfl rfl) (.cons (sok_skip rfl rfl rfl) (.cons (sok_skip rfl rfl rfl) (.cons (sok_skip rfl rfl rfl) (.cons (sok_pickF (U := Un) (rs := [(24, .p .bool false)]) rfl rfl o0 rfl (.bool _ _)) (.cons (mva (U := Un) (v := .p .bool false) rfl rfl) .nil))))))))))))))))))))))))))) (by kernel_rfl) (by kernel_rfl) (by kernel_rfl) (Conv.refl (U := Un) _) ?_
      refine thenQ_normal ?_
      refine WpC.ret ?_
      have hq := Option.some.inj h
      subst hq
      exact ends_ret (retV_1 rfl (.head _)) ain_nil
  · replace h := ite_f hc1 h
    refine WpC.reg (U := Un) (st1 := ⟨[(4, .p .bool false)], []⟩) [4] [] hN (.cons (sok_fieldB (U := Un) (rs := [(2, .loc 2 0)]) rfl rfl fd_38_0 (by decide) o0) (.cons (sok_loadB (U := Un) (t := .str) (rs := [(5, .loc 2 0)]) [] [.p .str a0.f_Name] [.p (.list .str) a0.f_Words, .p I6 a0.f_Level, .p .bool a0.f_Hidden] (v := .p .str a0.f_Name) rfl rfl ty_9 o0 rfl rfl rfl rfl (.data (.one _ _))) (.cons (sok_fieldB (U := Un) (rs := [(3, .loc 3 0)]) rfl rfl fd_38_0 (by decide) o0) (.cons (sok_loadB (U := Un) (t := .str) (rs := [(7, .loc 3 0)]) [] [.p .str a1.f_Name] [.p (.list .str) a1.f_Words, .p I6 a1.f_Level, .p .bool a1.f_Hidden] (v := .p .str a1.f_Name) rfl rfl ty_9 o0 rfl rfl rfl rfl (.data (.one _ _))) (.cons (sok_cmpS (U := Un) (rs := [(6, .p .str a0.f_Name), (8, .p .str a1.f_Name)]) rfl rfl o0 o1 rfl) (.cons (mv (U := Un) (v := .p .bool ((a0.f_Name == a1.f_Name) : Bool)) rfl rfl) (.cons (sok_skip rfl rfl hc1) (.cons (sok_skip rfl rfl hc1) (.cons (sok_skip rfl rfl hc1) (.cons (sok_skip rfl rfl hc1) (.cons (sok_skip rfl rfl hc1) (.cons (sok_pickF (U := Un) (rs := [(10, .p .bool ((a0.f_Name == a1.f_Name) : Bool))]) rfl rfl o0 hc1 (.bool _ _)) (.cons (mv (U := Un) (v := .p .bool false) rfl rfl) (.cons (sok_skip rfl rfl rfl) (.cons (sok_skip rfl rfl rfl) (.cons (sok_skip rfl rfl rfl) (.cons (sok_skip rfl rfl rfl) (.cons (sok_skip rfl rfl rfl) (.cons (sok_pickF (U := Un) (rs := [(17, .p .bool false)]) rfl rfl o0 rfl (.bool _ _)) (.cons (mv (U := Un) (v := .p .bool false) rfl rfl) (.cons (sok_skip rfl rfl rfl) (.cons (sok_skip rfl rfl rfl) (.cons (sok_skip rfl rfl rfl) (.cons (sok_skip rfl rfl rfl) (.cons (sok_skip rfl rfl rfl) (.cons (sok_pickF (U := Un) (rs := [(24, .p .bool false)]) rfl rfl o0 rfl (.bool _ _)) (.cons (mva (U := Un) (v := .p .bool false) rfl rfl) .nil))))))))))))))))))))))))))) (by kernel_rfl) (by kernel_rfl) (by kernel_rfl) (Conv.refl (U := Un) _) ?_
    refine thenQ_normal ?_
    refine WpC.ret ?_
    have hq := Option.some.inj h
    subst hq
    exact ends_ret (retV_1 rfl (.head _)) ain_nil

theorem millwrightlaw14_EnvStays.ok (O : Out) (hO : GOk O) (k : Nat) (a0 : T_env_Var) (a1 : List T_millwrightlaw14_Act) (out : Bool) (h : millwrightlaw14_EnvStays.f k a0 a1 = some out) : COk Un O Tryd.prog 3 { ar := [.p (.named 3) a0, .p (.list (.named 4)) a1], r := .p .bool out } := by
  refine cok_of_wp Tryd.func3 rfl (k := 60) rfl (Nat.le_of_ble_eq_true rfl) (namesOk_pure rfl rfl rfl rfl) ?_
  intro B hN
  refine WpC.conv (Conv.keep (U := Un) (b := ⟨[(0, .p (.named 3) a0), (1, .p (.list (.named 4)) a1)], []⟩) [0, 1] [] (by kernel_rfl)) ?_
  unfold millwrightlaw14_EnvStays.f at h
  refine WpC.seq ?_
  refine WpC.reg (U := Un) (st1 := ⟨[(1, .p (.list (.named 4)) a1), (2, .loc 2 0)], [(2, .box [.p .str a0.f_Name, .p (.list .str) a0.f_Words, .p I6 a0.f_Level, .p .bool a0.f_Hidden])]⟩) [1, 2] [2] hN (.cons (sok_box (U := Un) (rs := [(0, .p (.named 3) a0)]) (d := 2) (us := [.p .str a0.f_Name, .p (.list .str) a0.f_Words, .p I6 a0.f_Level, .p .bool a0.f_Hidden]) rfl rfl rfl o0 (.data (.named (us := [.p .str a0.f_Name, .p (.list .str) a0.f_Words, .p I6 a0.f_Level, .p .bool a0.f_Hidden]) (.pair (.one _ _) (.pair (.one _ _) (.pair (.one _ _) (.pair (.one _ _) .unit)))))) rfl (notin_of (by kernel_rfl))) (.cons (sok_move (U := Un) (rs := []) rfl (.inr rfl) (.bool _ _)) .nil)) (by kernel_rfl) (by kernel_rfl) (by kernel_rfl) (Conv.refl (U := Un) _) ?_
  refine thenQ_normal ?_
  refine WpC.seq ?_
  refine WpC.seq ?_
  obtain ⟨v1, hv1, h⟩ := bind_some h
  refine WpC.reg (U := Un) (st1 := ⟨[(1, .p (.list (.named 4)) a1), (2, .loc 2 0), (12, .p .bool ((!v1) : Bool))], [(2, .box [.p .str a0.f_Name, .p (.list .str) a0.f_Words, .p I6 a0.f_Level, .p .bool a0.f_Hidden])]⟩) [1, 2, 12] [2] hN (.cons (sok_callV (U := Un) (rs := []) (vw := []) rfl rfl (.func _) hb_6 (millwrightlaw14_alive.ok O hO k v1 hv1) .nil .nil (by simp) (.inl rfl)) (.cons (sok_not (U := Un) (rs := [(11, .p .bool v1)]) rfl rfl o0) .nil)) (by kernel_rfl) (by kernel_rfl) (by kernel_rfl) (Conv.refl (U := Un) _) ?_
  refine thenQ_normal ?_
  refine WpC.cond (U := Un) (b := (!v1)) (.tmp (.tail _ (.tail _ (.head _)))) (fun hc2 => ?_) (fun hc2 => ?_)
  · replace h := ite_t hc2 h
    refine WpC.seq ?_
    refine WpC.reg (U := Un) (st1 := ⟨[(4, .p .bool false)], []⟩) [4] [] hN (.cons (sok_move (U := Un) (rs := []) rfl (.inr rfl) (.bool _ _)) .nil) (by kernel_rfl) (by kernel_rfl) (by kernel_rfl) (Conv.refl (U := Un) _) ?_
    refine thenQ_normal ?_
    refine WpC.ret ?_
    refine thenQ_ret ?_
    have hq := Option.some.inj h
    subst hq
    exact ends_ret (retV_1 rfl (.head _)) ain_nil
  · replace h := ite_f hc2 h
    refine WpC.conv (Conv.keep (U := Un) (b := ⟨[(1, .p (.list (.named 4)) a1), (2, .loc 2 0)], [(2, .box [.p .str a0.f_Name, .p (.list .str) a0.f_Words, .p I6 a0.f_Level, .p .bool a0.f_Hidden])]⟩) [1, 2] [2] (by kernel_rfl)) (WpC.skip ?_)
    refine thenQ_normal ?_
    refine WpC.seqJ (U := Un) (fun st' => millwrightlaw14_EnvStays.j29 k a0 a1 = some out ∧ st' = ⟨[(1, .p (.list (.named 4)) a1), (2, .loc 2 0)], [(2, .box [.p .str a0.f_Name, .p (.list .str) a0.f_Words, .p I6 a0.f_Level, .p .bool a0.f_Hidden])]⟩) ?_ ?_
    · refine WpC.seqJ (U := Un) (fun st' => ∃ v30 : Bool, millwrightlaw14_EnvStays.j32 k a0 a1 v30 = some out ∧ st' = ⟨[(1, .p (.list (.named 4)) a1), (2, .loc 2 0), (20, .p .bool v30)], [(2, .box [.p .str a0.f_Name, .p (.list .str) a0.f_Words, .p I6 a0.f_Level, .p .bool a0.f_Hidden])]⟩) ?_ ?_
      · obtain ⟨v33, hv33, h⟩ := bind_some h
        rcases bool_cases v33 with hc34 | hc34
        · replace h := ite_t hc34 h
          refine WpC.reg (U := Un) (st1 := ⟨[(1, .p (.list (.named 4)) a1), (2, .loc 2 0), (20, .p .bool true)], [(2, .box [.p .str a0.f_Name, .p (.list .str) a0.f_Words, .p I6 a0.f_Level, .p .bool a0.f_Hidden])]⟩) [1, 2, 20] [2] hN (.cons (mv (U := Un) (v := .p (.list (.named 4)) a1) rfl rfl) (.cons (sok_callV (U := Un) (rs := [(13, .p (.list (.named 4)) a1)]) (vw := []) rfl rfl (.func _) hb_7 (millwrightlaw14_Long.ok O hO k a1 60 v33 hv33) (.cons o0 (.cons (.int _ _ _) .nil)) (.cons (.same _) (.cons (.same _) .nil)) (by simp) (.inl rfl)) (.cons (mv (U := Un) (v := .p .bool v33) rfl rfl) (.cons (sok_skip rfl rfl hc34) (.cons (sok_skip rfl rfl hc34) (.cons (sok_skip rfl rfl hc34) (.cons (sok_skip rfl rfl hc34) (.cons (sok_pickT (U := Un) (rs := [(15, .p .bool v33)]) rfl rfl o0 hc34 (.bool _ _)) .nil)))))))) (by kernel_rfl) (by kernel_rfl) (by kernel_rfl) (Conv.refl (U := Un) _) ?_
          refine thenQ_normal ?_
          exact ⟨true, h, rfl⟩
        · replace h := ite_f hc34 h
          obtain ⟨v35, hv35, h⟩ := bind_some h
          refine WpC.reg (U := Un) (st1 := ⟨[(1, .p (.list (.named 4)) a1), (2, .loc 2 0), (20, .p .bool v35)], [(2, .box [.p .str a0.f_Name, .p (.list .str) a0.f_Words, .p I6 a0.f_Level, .p .bool a0.f_Hidden])]⟩) [1, 2, 20] [2] hN (.cons (mv (U := Un) (v := .p (.list (.named 4)) a1) rfl rfl) (.cons (sok_callV (U := Un) (rs := [(13, .p (.list (.named 4)) a1)]) (vw := []) rfl rfl (.func _) hb_7 (millwrightlaw14_Long.ok O hO k a1 60 v33 hv33) (.cons o0 (.cons (.int _ _ _) .nil)) (.cons (.same _) (.cons (.same _) .nil)) (by simp) (.inl rfl)) (.cons (mv (U := Un) (v := .p .bool v33) rfl rfl) (.cons (sok_run rfl rfl hc34 (sok_loadB (U := Un) (t := .named 3) (rs := [(2, .loc 2 0)]) [] [.p .str a0.f_Name, .p (.list .str) a0.f_Words, .p I6 a0.f_Level, .p .bool a0.f_Hidden] [] (v := .p (.named 3) ((T_env_Var.mk a0.f_Name a0.f_Words a0.f_Level a0.f_Hidden) : T_env_Var)) rfl rfl ty_24 o0 rfl rfl rfl rfl (.data (.named (us := [.p .str a0.f_Name, .p (.list .str) a0.f_Words, .p I6 a0.f_Level, .p .bool a0.f_Hidden]) (.pair (.one _ _) (.pair (.one _ _) (.pair (.one _ _) (.pair (.one _ _) .unit)))))))) (.cons (sok_run rfl rfl hc34 (sok_build (U := Un) (t := .named 4) (rs := [(16, .p (.named 3) ((T_env_Var.mk a0.f_Name a0.f_Words a0.f_Level a0.f_Hidden) : T_env_Var))]) (us0 := [.p I6 (0 : Int), .p .str ([] : List UInt8), .p (.list .str) ([] : List (List UInt8)), .p I6 (0 : Int), .p .bool false]) (us := [.p I6 (0 : Int), .p .str a0.f_Name, .p (.list .str) a0.f_Words, .p I6 a0.f_Level, .p .bool a0.f_Hidden]) (v := .p (.named 4) ((T_millwrightlaw14_Act.mk 0 (T_env_Var.mk a0.f_Name a0.f_Words a0.f_Level a0.f_Hidden)) : T_millwrightlaw14_Act)) rfl rfl lays_29 (.data (fun _ _ _ => .int _ _) (.data (fun _ _ _ => rd_str0) (.data (fun _ _ _ => .lnil _) (.data (fun _ _ _ => .int _ _) (.data (fun _ _ _ => .bool _) .nil))))) (Filled.cons (U := Un) (i := 1) (v := .p (.named 3) ((T_env_Var.mk a0.f_Name a0.f_Words a0.f_Level a0.f_Hidden) : T_env_Var)) [.p I6 (0 : Int)] [.p .str ([] : List UInt8), .p (.list .str) ([] : List (List UInt8)), .p I6 (0 : Int), .p .bool false] [.p .str a0.f_Name, .p (.list .str) a0.f_Words, .p I6 a0.f_Level, .p .bool a0.f_Hidden] [] o0 (.data (.named (us := [.p .str a0.f_Name, .p (.list .str) a0.f_Words, .p I6 a0.f_Level, .p .bool a0.f_Hidden]) (.pair (.one _ _) (.pair (.one _ _) (.pair (.one _ _) (.pair (.one _ _) .unit)))))) rfl rfl rfl rfl rfl rfl (.nil _)) rfl (.data (.named (us := [.p I6 (0 : Int), .p .str a0.f_Name, .p (.list .str) a0.f_Words, .p I6 a0.f_Level, .p .bool a0.f_Hidden]) (.pair (.one _ _) (.pair (.named (us := [.p .str a0.f_Name, .p (.list .str) a0.f_Words, .p I6 a0.f_Level, .p .bool a0.f_Hidden]) (.pair (.one _ _) (.pair (.one _ _) (.pair (.one _ _) (.pair (.one _ _) .unit))))) .unit)))))) (.cons (sok_run rfl rfl hc34 (sok_buildSlice (U := Un) (t := .named 4) (rs := [(17, .p (.named 4) ((T_millwrightlaw14_Act.mk 0 (T_env_Var.mk a0.f_Name a0.f_Words a0.f_Level a0.f_Hidden)) : T_millwrightlaw14_Act))]) (ys := [.tmp 17]) (xs := [(T_millwrightlaw14_Act.mk 0 (T_env_Var.mk a0.f_Name a0.f_Words a0.f_Level a0.f_Hidden))]) rfl rfl rfl rfl row_25 (.cons o0 .nil) (by decide))) (.cons (sok_run rfl rfl hc34 (sok_callV (U := Un) (rs := [(18, .vec 18 5 0 ([(T_millwrightlaw14_Act.mk 0 (T_env_Var.mk a0.f_Name a0.f_Words a0.f_Level a0.f_Hidden))].length))]) (vw := [(18, .row 29 (.named 4) [(T_millwrightlaw14_Act.mk 0 (T_env_Var.mk a0.f_Name a0.f_Words a0.f_Level a0.f_Hidden))] true)]) rfl rfl (.func _) hb_7 (millwrightlaw14_Long.ok O hO k [(T_millwrightlaw14_Act.mk 0 (T_env_Var.mk a0.f_Name a0.f_Words a0.f_Level a0.f_Hidden))] 1 v35 hv35) (.cons o0 (.cons (.int _ _ _) .nil)) (.cons (.whole' (.head _) (by first | rfl | (simp only [upd_length, List.length_replicate, List.length_append]; done) | (simp only [upd_length, List.length_replicate, List.length_append] at *; omega) | omega)) (.cons (.same _) .nil)) (by simp) (.inr rfl))) (.cons (sok_pickF (U := Un) (rs := [(15, .p .bool v33), (19, .p .bool v35)]) rfl rfl o0 hc34 o1) .nil)))))))) (by kernel_rfl) (by kernel_rfl) (by kernel_rfl) (Conv.refl (U := Un) _) ?_
          refine thenQ_normal ?_
          exact ⟨v35, h, rfl⟩
      · rintro _ ⟨v30, h, rfl⟩
        unfold millwrightlaw14_EnvStays.j32 at h
        refine WpC.cond (U := Un) (b := v30) (.tmp (.tail _ (.tail _ (.head _)))) (fun hc31 => ?_) (fun hc31 => ?_)
        · replace h := ite_t hc31 h
          refine WpC.seq ?_
          refine WpC.reg (U := Un) (st1 := ⟨[(4, .p .bool true)], []⟩) [4] [] hN (.cons (sok_move (U := Un) (rs := []) rfl (.inr rfl) (.bool _ _)) .nil) (by kernel_rfl) (by kernel_rfl) (by kernel_rfl) (Conv.refl (U := Un) _) ?_
          refine thenQ_normal ?_
          refine WpC.ret ?_
          refine thenQ_ret ?_
          have hq := Option.some.inj h
          subst hq
          exact ends_ret (retV_1 rfl (.head _)) ain_nil
        · replace h := ite_f hc31 h
          refine WpC.conv (Conv.keep (U := Un) (b := ⟨[(1, .p (.list (.named 4)) a1), (2, .loc 2 0)], [(2, .box [.p .str a0.f_Name, .p (.list .str) a0.f_Words, .p I6 a0.f_Level, .p .bool a0.f_Hidden])]⟩) [1, 2] [2] (by kernel_rfl)) (WpC.skip ?_)
          refine thenQ_normal ?_
          exact ⟨h, rfl⟩
    · rintro _ ⟨h, rfl⟩
      unfold millwrightlaw14_EnvStays.j29 at h
      refine WpC.seq ?_
      obtain ⟨v3, hv3, h⟩ := bind_some h
      refine WpC.reg (U := Un) (st1 := ⟨[(1, .p (.list (.named 4)) a1), (2, .loc 2 0), (5, .loc 10001 0)], [(2, .box [.p .str a0.f_Name, .p (.list .str) a0.f_Words, .p I6 a0.f_Level, .p .bool a0.f_Hidden]), (10001, .box [.mp 10002]), (10002, .map (.named 3) v3)]⟩) [1, 2, 5] [2, 10001, 10002] hN (.cons (sok_callV (U := Un) (rs := []) (vw := []) rfl rfl (.func _) hb_8 (COk.ren (env_New.ok O hO k v3 hv3) (fun n => if n = 60500 then 10001 else if n = 60501 then 10002 else n) (injOn_of (by kernel_rfl))) .nil .nil (by simp) (.inl rfl)) (.cons (mva (U := Un) (v := .loc 10001 0) rfl rfl) .nil)) (by kernel_rfl) (by kernel_rfl) (by kernel_rfl) (Conv.refl (U := Un) _) ?_
      refine thenQ_normal ?_
      refine WpC.seq ?_
      refine WpC.reg (U := Un) (st1 := ⟨[(1, .p (.list (.named 4)) a1), (2, .loc 2 0), (5, .loc 10001 0)], [(2, .box [.p .str a0.f_Name, .p (.list .str) a0.f_Words, .p I6 (2 : Int), .p .bool a0.f_Hidden]), (10001, .box [.mp 10002]), (10002, .map (.named 3) v3)]⟩) [1, 2, 5] [2, 10001, 10002] hN (.cons (sok_fieldB (U := Un) (rs := [(2, .loc 2 0)]) rfl rfl fd_24_2 (by decide) o0) (.cons (sok_storeB (U := Un) (rs := [(22, .loc 2 2)]) (v := .p I6 (2 : Int)) (mid' := [.p I6 (2 : Int)]) [.p .str a0.f_Name, .p (.list .str) a0.f_Words] [.p I6 a0.f_Level] [.p .bool a0.f_Hidden] rfl rfl rfl ty_3 o0 (.int _ _ _) (.data (.one _ _)) rfl rfl rfl rfl rfl rfl) .nil)) (by kernel_rfl) (by kernel_rfl) (by kernel_rfl) (Conv.refl (U := Un) _) ?_
      refine thenQ_normal ?_
      refine WpC.seq ?_
      refine WpC.seq ?_
      obtain ⟨v4, hv4, h⟩ := bind_some h
      refine WpC.reg (U := Un) (st1 := ⟨[(1, .p (.list (.named 4)) a1), (2, .loc 2 0), (5, .loc 10001 0), (26, .p .bool ((!(v4.1 == 0)) : Bool))], [(2, .box [.p .str a0.f_Name, .p (.list .str) a0.f_Words, .p I6 (2 : Int), .p .bool a0.f_Hidden]), (10001, .box [.mp 10002]), (10002, .map (.named 3) v4.2)]⟩) [1, 2, 5, 26] [2, 10001, 10002] hN (.cons (mv (U := Un) (v := .loc 10001 0) rfl rfl) (.cons (sok_loadB (U := Un) (t := .named 3) (rs := [(2, .loc 2 0)]) [] [.p .str a0.f_Name, .p (.list .str) a0.f_Words, .p I6 (2 : Int), .p .bool a0.f_Hidden] [] (v := .p (.named 3) ((T_env_Var.mk a0.f_Name a0.f_Words 2 a0.f_Hidden) : T_env_Var)) rfl rfl ty_24 o0 rfl rfl rfl rfl (.data (.named (us := [.p .str a0.f_Name, .p (.list .str) a0.f_Words, .p I6 (2 : Int), .p .bool a0.f_Hidden]) (.pair (.one _ _) (.pair (.one _ _) (.pair (.one _ _) (.pair (.one _ _) .unit))))))) (.cons (sok_callV (U := Un) (rs := [(23, .loc 10001 0), (24, .p (.named 3) ((T_env_Var.mk a0.f_Name a0.f_Words 2 a0.f_Hidden) : T_env_Var))]) (vw := []) rfl rfl (.func _) hb_9 (COk.ren (env_Env_Set_m0.ok O hO k v3 (T_env_Var.mk a0.f_Name a0.f_Words 2 a0.f_Hidden) v4 hv4) (fun n => if n = 100000 then 10001 else if n = 100001 then 10002 else n) (injOn_of (by kernel_rfl))) (.cons o0 (.cons o1 .nil)) (.cons (.same _) (.cons (.same _) .nil)) (by simp) (.inl rfl)) (.cons (sok_errNil (U := Un) (rs := [(25, .p .err v4.1)]) rfl rfl Tryd.underlying33 o0 rfl) .nil)))) (by kernel_rfl) (by kernel_rfl) (by kernel_rfl) (Conv.refl (U := Un) _) ?_
      refine thenQ_normal ?_
      refine WpC.cond (U := Un) (b := (!(v4.1 == 0))) (.tmp (.tail _ (.tail _ (.tail _ (.head _))))) (fun hc5 => ?_) (fun hc5 => ?_)
      · replace h := ite_t hc5 h
        refine WpC.seq ?_
        obtain ⟨v6, hv6, h⟩ := bind_some h
        refine WpC.reg (U := Un) (st1 := ⟨[(4, .p .bool ((!(v6 == 0)) : Bool))], []⟩) [4] [] hN (.cons (sok_loadB (U := Un) (t := .named 3) (rs := [(2, .loc 2 0)]) [] [.p .str a0.f_Name, .p (.list .str) a0.f_Words, .p I6 (2 : Int), .p .bool a0.f_Hidden] [] (v := .p (.named 3) ((T_env_Var.mk a0.f_Name a0.f_Words 2 a0.f_Hidden) : T_env_Var)) rfl rfl ty_24 o0 rfl rfl rfl rfl (.data (.named (us := [.p .str a0.f_Name, .p (.list .str) a0.f_Words, .p I6 (2 : Int), .p .bool a0.f_Hidden]) (.pair (.one _ _) (.pair (.one _ _) (.pair (.one _ _) (.pair (.one _ _) .unit))))))) (.cons (sok_callV (U := Un) (rs := [(27, .p (.named 3) ((T_env_Var.mk a0.f_Name a0.f_Words 2 a0.f_Hidden) : T_env_Var))]) (vw := []) rfl rfl (.func _) hb_10 (env_Check.ok O hO k (T_env_Var.mk a0.f_Name a0.f_Words 2 a0.f_Hidden) v6 hv6) (.cons o0 .nil) (.cons (.same _) .nil) (by simp) (.inl rfl)) (.cons (sok_errNil (U := Un) (rs := [(28, .p .err v6)]) rfl rfl Tryd.underlying33 o0 rfl) (.cons (mva (U := Un) (v := .p .bool ((!(v6 == 0)) : Bool)) rfl rfl) .nil)))) (by kernel_rfl) (by kernel_rfl) (by kernel_rfl) (Conv.refl (U := Un) _) ?_
        refine thenQ_normal ?_
        refine WpC.ret ?_
        refine thenQ_ret ?_
        have hq := Option.some.inj h
        subst hq
        exact ends_ret (retV_1 rfl (.head _)) ain_nil
      · replace h := ite_f hc5 h
        refine WpC.conv (Conv.keep (U := Un) (b := ⟨[(1, .p (.list (.named 4)) a1), (2, .loc 2 0), (5, .loc 10001 0)], [(2, .box [.p .str a0.f_Name, .p (.list .str) a0.f_Words, .p I6 (2 : Int), .p .bool a0.f_Hidden]), (10001, .box [.mp 10002]), (10002, .map (.named 3) v4.2)]⟩) [1, 2, 5] [2, 10001, 10002] (by kernel_rfl)) (WpC.skip ?_)
        refine thenQ_normal ?_
        refine WpC.seqJ (U := Un) (fun st' => millwrightlaw14_EnvStays.j7 k = some out ∧ st' = ⟨[], []⟩) ?_ ?_
        · refine WpC.seq ?_
          refine WpC.reg (U := Un) (st1 := ⟨[(2, .loc 2 0), (5, .loc 10001 0), (30, .p (.list (.named 4)) a1), (31, .p I6 ((a1.length : Int) : Int)), (32, .p I6 (0 : Int))], [(2, .box [.p .str a0.f_Name, .p (.list .str) a0.f_Words, .p I6 (2 : Int), .p .bool a0.f_Hidden]), (10001, .box [.mp 10002]), (10002, .map (.named 3) v4.2)]⟩) [2, 5, 30, 31, 32] [2, 10001, 10002] hN (.cons (mv (U := Un) (v := .p (.list (.named 4)) a1) rfl rfl) (.cons (sok_lenL (U := Un) (rs := [(30, .p (.list (.named 4)) a1)]) rfl rfl Tryd.underlying25 o0) (.cons (sok_move (U := Un) (rs := []) rfl (.inl rfl) (.int _ _ _)) .nil))) (by kernel_rfl) (by kernel_rfl) (by kernel_rfl) (Conv.refl (U := Un) _) ?_
          refine thenQ_normal ?_
          refine WpC.block ?_
          obtain ⟨o11, hlo11, h⟩ := bind_some h
          have hout12 := h
          clear h
          refine WpC.loop (U := Un) (fun n st' => ∃ v8 : List ((List UInt8) × T_env_Var), ∃ v9 : Int, millwrightlaw14_EnvStays.l10 k a0 a1 n v8 v9 = some o11 ∧ st' = ⟨[(2, .loc 2 0), (5, .loc 10001 0), (30, .p (.list (.named 4)) a1), (31, .p I6 ((a1.length : Int) : Int)), (32, .p I6 v9)], [(2, .box [.p .str a0.f_Name, .p (.list .str) a0.f_Words, .p I6 (2 : Int), .p .bool a0.f_Hidden]), (10001, .box [.mp 10002]), (10002, .map (.named 3) v8)]⟩) k ⟨v4.2, 0, hlo11, rfl⟩ ?_
          clear hlo11
          rintro (_ | n) _ ⟨v8, v9, h, rfl⟩
          · cases h
          · rw [millwrightlaw14_EnvStays.l10] at h
            refine WpC.seq ?_
            refine WpC.reg (U := Un) (st1 := ⟨[(2, .loc 2 0), (5, .loc 10001 0), (30, .p (.list (.named 4)) a1), (31, .p I6 ((a1.length : Int) : Int)), (32, .p I6 v9), (33, .p .bool ((decide (v9 < (a1.length : Int))) : Bool))], [(2, .box [.p .str a0.f_Name, .p (.list .str) a0.f_Words, .p I6 (2 : Int), .p .bool a0.f_Hidden]), (10001, .box [.mp 10002]), (10002, .map (.named 3) v8)]⟩) [2, 5, 30, 31, 32, 33] [2, 10001, 10002] hN (.cons (sok_cmp (U := Un) (rs := [(32, .p I6 v9), (31, .p I6 ((a1.length : Int) : Int))]) rfl rfl o0 o1 rfl) .nil) (by kernel_rfl) (by kernel_rfl) (by kernel_rfl) (Conv.refl (U := Un) _) ?_
            refine thenQ_normal ?_
            refine WpC.seq ?_
            refine WpC.cond (U := Un) (b := (decide (v9 < (a1.length : Int)))) (.tmp (.tail _ (.tail _ (.tail _ (.tail _ (.tail _ (.head _))))))) (fun hc13 => ?_) (fun hc13 => ?_)
            · replace h := ite_t hc13 h
              refine WpC.conv (Conv.keep (U := Un) (b := ⟨[(2, .loc 2 0), (5, .loc 10001 0), (30, .p (.list (.named 4)) a1), (31, .p I6 ((a1.length : Int) : Int)), (32, .p I6 v9)], [(2, .box [.p .str a0.f_Name, .p (.list .str) a0.f_Words, .p I6 (2 : Int), .p .bool a0.f_Hidden]), (10001, .box [.mp 10002]), (10002, .map (.named 3) v8)]⟩) [2, 5, 30, 31, 32] [2, 10001, 10002] (by kernel_rfl)) (WpC.skip ?_)
              refine thenQ_normal ?_
              refine WpC.seqJ (U := Un) (fun st' => ∃ v14 : List ((List UInt8) × T_env_Var), millwrightlaw14_EnvStays.j15 k (millwrightlaw14_EnvStays.l10 k a0 a1 n) a0 a1 v9 v14 = some o11 ∧ st' = ⟨[(2, .loc 2 0), (5, .loc 10001 0), (30, .p (.list (.named 4)) a1), (31, .p I6 ((a1.length : Int) : Int)), (32, .p I6 v9)], [(2, .box [.p .str a0.f_Name, .p (.list .str) a0.f_Words, .p I6 (2 : Int), .p .bool a0.f_Hidden]), (10001, .box [.mp 10002]), (10002, .map (.named 3) v14)]⟩) ?_ ?_
              · refine WpC.block ?_
                refine WpC.seq ?_
                obtain ⟨v16, hv16, h⟩ := bind_some h
                refine WpC.reg (U := Un) (st1 := ⟨[(2, .loc 2 0), (5, .loc 10001 0), (7, .loc 7 0), (30, .p (.list (.named 4)) a1), (31, .p I6 ((a1.length : Int) : Int)), (32, .p I6 v9)], [(2, .box [.p .str a0.f_Name, .p (.list .str) a0.f_Words, .p I6 (2 : Int), .p .bool a0.f_Hidden]), (7, .box [.p I6 v16.f_Kind, .p .str v16.f_Var.f_Name, .p (.list .str) v16.f_Var.f_Words, .p I6 v16.f_Var.f_Level, .p .bool v16.f_Var.f_Hidden]), (10001, .box [.mp 10002]), (10002, .map (.named 3) v8)]⟩) [2, 5, 7, 30, 31, 32] [2, 7, 10001, 10002] hN (.cons (sok_indexL (U := Un) (rs := [(30, .p (.list (.named 4)) a1), (32, .p I6 v9)]) rfl rfl sl_25 o0 o1 hv16) (.cons (sok_loadP (U := Un) (rs := [(34, .pp (.named 4) v16)]) rfl rfl ty_29 o0) (.cons (sok_allocZ (U := Un) (rs := []) (d := 7) (us := [.p I6 (0 : Int), .p .str ([] : List UInt8), .p (.list .str) ([] : List (List UInt8)), .p I6 (0 : Int), .p .bool false]) (v := (.agg #[.int .i64 0, .string ByteArray.empty, .slice none 0 0, .int .i64 0, .bool false])) rfl rfl rfl (by kernel_rfl) rfl (.data (fun _ _ _ => .int _ _) (.data (fun _ _ _ => rd_str0) (.data (fun _ _ _ => .lnil _) (.data (fun _ _ _ => .int _ _) (.data (fun _ _ _ => .bool _) .nil))))) (by kernel_rfl)) (.cons (sok_storeB (U := Un) (rs := [(7, .loc 7 0), (35, .p (.named 4) v16)]) (v := .p (.named 4) v16) (mid' := [.p I6 v16.f_Kind, .p .str v16.f_Var.f_Name, .p (.list .str) v16.f_Var.f_Words, .p I6 v16.f_Var.f_Level, .p .bool v16.f_Var.f_Hidden]) [] [.p I6 (0 : Int), .p .str ([] : List UInt8), .p (.list .str) ([] : List (List UInt8)), .p I6 (0 : Int), .p .bool false] [] rfl rfl rfl ty_29 o0 o1 (.data (.named (us := [.p I6 v16.f_Kind, .p .str v16.f_Var.f_Name, .p (.list .str) v16.f_Var.f_Words, .p I6 v16.f_Var.f_Level, .p .bool v16.f_Var.f_Hidden]) (.pair (.one _ _) (.pair (.named (us := [.p .str v16.f_Var.f_Name, .p (.list .str) v16.f_Var.f_Words, .p I6 v16.f_Var.f_Level, .p .bool v16.f_Var.f_Hidden]) (.pair (.one _ _) (.pair (.one _ _) (.pair (.one _ _) (.pair (.one _ _) .unit))))) .unit)))) rfl rfl rfl rfl rfl rfl) .nil)))) (by kernel_rfl) (by kernel_rfl) (by kernel_rfl) (Conv.refl (U := Un) _) ?_
                refine thenQ_normal ?_
                refine WpC.seq ?_
                refine WpC.reg (U := Un) (st1 := ⟨[(2, .loc 2 0), (5, .loc 10001 0), (8, .loc 8 0), (30, .p (.list (.named 4)) a1), (31, .p I6 ((a1.length : Int) : Int)), (32, .p I6 v9)], [(2, .box [.p .str a0.f_Name, .p (.list .str) a0.f_Words, .p I6 (2 : Int), .p .bool a0.f_Hidden]), (8, .box [.p .str v16.f_Var.f_Name, .p (.list .str) v16.f_Var.f_Words, .p I6 v16.f_Var.f_Level, .p .bool v16.f_Var.f_Hidden]), (10001, .box [.mp 10002]), (10002, .map (.named 3) v8)]⟩) [2, 5, 8, 30, 31, 32] [2, 8, 10001, 10002] hN (.cons (sok_fieldB (U := Un) (rs := [(7, .loc 7 0)]) rfl rfl fd_29_1 (by decide) o0) (.cons (sok_loadB (U := Un) (t := .named 3) (rs := [(36, .loc 7 1)]) [.p I6 v16.f_Kind] [.p .str v16.f_Var.f_Name, .p (.list .str) v16.f_Var.f_Words, .p I6 v16.f_Var.f_Level, .p .bool v16.f_Var.f_Hidden] [] (v := .p (.named 3) ((T_env_Var.mk v16.f_Var.f_Name v16.f_Var.f_Words v16.f_Var.f_Level v16.f_Var.f_Hidden) : T_env_Var)) rfl rfl ty_24 o0 rfl rfl rfl rfl (.data (.named (us := [.p .str v16.f_Var.f_Name, .p (.list .str) v16.f_Var.f_Words, .p I6 v16.f_Var.f_Level, .p .bool v16.f_Var.f_Hidden]) (.pair (.one _ _) (.pair (.one _ _) (.pair (.one _ _) (.pair (.one _ _) .unit))))))) (.cons (sok_allocZ (U := Un) (rs := []) (d := 8) (us := [.p .str ([] : List UInt8), .p (.list .str) ([] : List (List UInt8)), .p I6 (0 : Int), .p .bool false]) (v := (.agg #[.string ByteArray.empty, .slice none 0 0, .int .i64 0, .bool false])) rfl rfl rfl (by kernel_rfl) rfl (.data (fun _ _ _ => rd_str0) (.data (fun _ _ _ => .lnil _) (.data (fun _ _ _ => .int _ _) (.data (fun _ _ _ => .bool _) .nil)))) (by kernel_rfl)) (.cons (sok_storeB (U := Un) (rs := [(8, .loc 8 0), (37, .p (.named 3) ((T_env_Var.mk v16.f_Var.f_Name v16.f_Var.f_Words v16.f_Var.f_Level v16.f_Var.f_Hidden) : T_env_Var))]) (v := .p (.named 3) ((T_env_Var.mk v16.f_Var.f_Name v16.f_Var.f_Words v16.f_Var.f_Level v16.f_Var.f_Hidden) : T_env_Var)) (mid' := [.p .str v16.f_Var.f_Name, .p (.list .str) v16.f_Var.f_Words, .p I6 v16.f_Var.f_Level, .p .bool v16.f_Var.f_Hidden]) [] [.p .str ([] : List UInt8), .p (.list .str) ([] : List (List UInt8)), .p I6 (0 : Int), .p .bool false] [] rfl rfl rfl ty_24 o0 o1 (.data (.named (us := [.p .str v16.f_Var.f_Name, .p (.list .str) v16.f_Var.f_Words, .p I6 v16.f_Var.f_Level, .p .bool v16.f_Var.f_Hidden]) (.pair (.one _ _) (.pair (.one _ _) (.pair (.one _ _) (.pair (.one _ _) .unit)))))) rfl rfl rfl rfl rfl rfl) .nil)))) (by kernel_rfl) (by kernel_rfl) (by kernel_rfl) (Conv.refl (U := Un) _) ?_
                refine thenQ_normal ?_
                refine WpC.seqJ (U := Un) (fun st' => ∃ v17 : List ((List UInt8) × T_env_Var), millwrightlaw14_EnvStays.j24 k (millwrightlaw14_EnvStays.l10 k a0 a1 n) a0 a1 v9 v17 = some o11 ∧ st' = ⟨[(2, .loc 2 0), (5, .loc 10001 0), (30, .p (.list (.named 4)) a1), (31, .p I6 ((a1.length : Int) : Int)), (32, .p I6 v9)], [(2, .box [.p .str a0.f_Name, .p (.list .str) a0.f_Words, .p I6 (2 : Int), .p .bool a0.f_Hidden]), (10001, .box [.mp 10002]), (10002, .map (.named 3) v17)]⟩) ?_ ?_
                · refine WpC.seq ?_
                  refine WpC.reg (U := Un) (st1 := ⟨[(2, .loc 2 0), (5, .loc 10001 0), (8, .loc 8 0), (30, .p (.list (.named 4)) a1), (31, .p I6 ((a1.length : Int) : Int)), (32, .p I6 v9), (40, .p .bool ((decide (v16.f_Var.f_Level < 2)) : Bool))], [(2, .box [.p .str a0.f_Name, .p (.list .str) a0.f_Words, .p I6 (2 : Int), .p .bool a0.f_Hidden]), (8, .box [.p .str v16.f_Var.f_Name, .p (.list .str) v16.f_Var.f_Words, .p I6 v16.f_Var.f_Level, .p .bool v16.f_Var.f_Hidden]), (10001, .box [.mp 10002]), (10002, .map (.named 3) v8)]⟩) [2, 5, 8, 30, 31, 32, 40] [2, 8, 10001, 10002] hN (.cons (sok_fieldB (U := Un) (rs := [(8, .loc 8 0)]) rfl rfl fd_24_2 (by decide) o0) (.cons (sok_loadB (U := Un) (t := .int .i64) (rs := [(38, .loc 8 2)]) [.p .str v16.f_Var.f_Name, .p (.list .str) v16.f_Var.f_Words] [.p I6 v16.f_Var.f_Level] [.p .bool v16.f_Var.f_Hidden] (v := .p I6 v16.f_Var.f_Level) rfl rfl ty_3 o0 rfl rfl rfl rfl (.data (.one _ _))) (.cons (sok_cmp (U := Un) (rs := [(39, .p I6 v16.f_Var.f_Level)]) rfl rfl o0 (.int _ _ _) rfl) .nil))) (by kernel_rfl) (by kernel_rfl) (by kernel_rfl) (Conv.refl (U := Un) _) ?_
                  refine thenQ_normal ?_
                  refine WpC.cond (U := Un) (b := (decide (v16.f_Var.f_Level < 2))) (.tmp (.tail _ (.tail _ (.tail _ (.tail _ (.tail _ (.tail _ (.head _)))))))) (fun hc25 => ?_) (fun hc25 => ?_)
                  · replace h := ite_t hc25 h
                    obtain ⟨v26, hv26, h⟩ := bind_some h
                    refine WpC.reg (U := Un) (st1 := ⟨[(2, .loc 2 0), (5, .loc 10001 0), (30, .p (.list (.named 4)) a1), (31, .p I6 ((a1.length : Int) : Int)), (32, .p I6 v9)], [(2, .box [.p .str a0.f_Name, .p (.list .str) a0.f_Words, .p I6 (2 : Int), .p .bool a0.f_Hidden]), (10001, .box [.mp 10002]), (10002, .map (.named 3) v26.2)]⟩) [2, 5, 30, 31, 32] [2, 10001, 10002] hN (.cons (mv (U := Un) (v := .loc 10001 0) rfl rfl) (.cons (sok_loadB (U := Un) (t := .named 3) (rs := [(8, .loc 8 0)]) [] [.p .str v16.f_Var.f_Name, .p (.list .str) v16.f_Var.f_Words, .p I6 v16.f_Var.f_Level, .p .bool v16.f_Var.f_Hidden] [] (v := .p (.named 3) ((T_env_Var.mk v16.f_Var.f_Name v16.f_Var.f_Words v16.f_Var.f_Level v16.f_Var.f_Hidden) : T_env_Var)) rfl rfl ty_24 o0 rfl rfl rfl rfl (.data (.named (us := [.p .str v16.f_Var.f_Name, .p (.list .str) v16.f_Var.f_Words, .p I6 v16.f_Var.f_Level, .p .bool v16.f_Var.f_Hidden]) (.pair (.one _ _) (.pair (.one _ _) (.pair (.one _ _) (.pair (.one _ _) .unit))))))) (.cons (sok_callV (U := Un) (rs := [(41, .loc 10001 0), (42, .p (.named 3) ((T_env_Var.mk v16.f_Var.f_Name v16.f_Var.f_Words v16.f_Var.f_Level v16.f_Var.f_Hidden) : T_env_Var))]) (vw := []) rfl rfl (.func _) hb_9 (COk.ren (env_Env_Set_m0.ok O hO k v8 (T_env_Var.mk v16.f_Var.f_Name v16.f_Var.f_Words v16.f_Var.f_Level v16.f_Var.f_Hidden) v26 hv26) (fun n => if n = 100000 then 10001 else if n = 100001 then 10002 else n) (injOn_of (by kernel_rfl))) (.cons o0 (.cons o1 .nil)) (.cons (.same _) (.cons (.same _) .nil)) (by simp) (.inl rfl)) .nil))) (by kernel_rfl) (by kernel_rfl) (by kernel_rfl) (Conv.refl (U := Un) _) ?_
                    refine thenQ_normal ?_
                    exact ⟨v26.2, h, rfl⟩
                  · replace h := ite_f hc25 h
                    refine WpC.conv (Conv.keep (U := Un) (b := ⟨[(2, .loc 2 0), (5, .loc 10001 0), (30, .p (.list (.named 4)) a1), (31, .p I6 ((a1.length : Int) : Int)), (32, .p I6 v9)], [(2, .box [.p .str a0.f_Name, .p (.list .str) a0.f_Words, .p I6 (2 : Int), .p .bool a0.f_Hidden]), (10001, .box [.mp 10002]), (10002, .map (.named 3) v8)]⟩) [2, 5, 30, 31, 32] [2, 10001, 10002] (by kernel_rfl)) (WpC.skip ?_)
                    refine thenQ_normal ?_
                    exact ⟨v8, h, rfl⟩
                · rintro _ ⟨v17, h, rfl⟩
                  unfold millwrightlaw14_EnvStays.j24 at h
                  refine WpC.seq ?_
                  obtain ⟨v18, hv18, h⟩ := bind_some h
                  refine WpC.reg (U := Un) (st1 := ⟨[(2, .loc 2 0), (5, .loc 10001 0), (9, .loc 9 0), (10, .p .bool v18.2), (30, .p (.list (.named 4)) a1), (31, .p I6 ((a1.length : Int) : Int)), (32, .p I6 v9)], [(2, .box [.p .str a0.f_Name, .p (.list .str) a0.f_Words, .p I6 (2 : Int), .p .bool a0.f_Hidden]), (9, .box [.p .str v18.1.f_Name, .p (.list .str) v18.1.f_Words, .p I6 v18.1.f_Level, .p .bool v18.1.f_Hidden]), (10001, .box [.mp 10002]), (10002, .map (.named 3) v17)]⟩) [2, 5, 9, 10, 30, 31, 32] [2, 9, 10001, 10002] hN (.cons (mv (U := Un) (v := .loc 10001 0) rfl rfl) (.cons (sok_fieldB (U := Un) (rs := [(2, .loc 2 0)]) rfl rfl fd_24_0 (by decide) o0) (.cons (sok_loadB (U := Un) (t := .str) (rs := [(46, .loc 2 0)]) [] [.p .str a0.f_Name] [.p (.list .str) a0.f_Words, .p I6 (2 : Int), .p .bool a0.f_Hidden] (v := .p .str a0.f_Name) rfl rfl ty_9 o0 rfl rfl rfl rfl (.data (.one _ _))) (.cons (sok_callV (U := Un) (rs := [(45, .loc 10001 0), (47, .p .str a0.f_Name)]) (vw := []) rfl rfl (.func _) hb_11 (COk.ren (env_Env_Find_m0.ok O hO k v17 a0.f_Name v18 hv18) (fun n => if n = 100000 then 10001 else if n = 100001 then 10002 else n) (injOn_of (by kernel_rfl))) (.cons o0 (.cons o1 .nil)) (.cons (.same _) (.cons (.same _) .nil)) (by simp) (.inl rfl)) (.cons (mv (U := Un) (v := .tup [.p (.named 3) v18.1, .p .bool v18.2]) rfl rfl) (.cons (sok_extract (U := Un) (rs := [(44, .tup [.p (.named 3) v18.1, .p .bool v18.2])]) rfl rfl o0 rfl) (.cons (sok_extract (U := Un) (rs := [(44, .tup [.p (.named 3) v18.1, .p .bool v18.2])]) rfl rfl o0 rfl) (.cons (sok_allocZ (U := Un) (rs := []) (d := 9) (us := [.p .str ([] : List UInt8), .p (.list .str) ([] : List (List UInt8)), .p I6 (0 : Int), .p .bool false]) (v := (.agg #[.string ByteArray.empty, .slice none 0 0, .int .i64 0, .bool false])) rfl rfl rfl (by kernel_rfl) rfl (.data (fun _ _ _ => rd_str0) (.data (fun _ _ _ => .lnil _) (.data (fun _ _ _ => .int _ _) (.data (fun _ _ _ => .bool _) .nil)))) (by kernel_rfl)) (.cons (sok_storeB (U := Un) (rs := [(9, .loc 9 0), (49, .p (.named 3) v18.1)]) (v := .p (.named 3) v18.1) (mid' := [.p .str v18.1.f_Name, .p (.list .str) v18.1.f_Words, .p I6 v18.1.f_Level, .p .bool v18.1.f_Hidden]) [] [.p .str ([] : List UInt8), .p (.list .str) ([] : List (List UInt8)), .p I6 (0 : Int), .p .bool false] [] rfl rfl rfl ty_24 o0 o1 (.data (.named (us := [.p .str v18.1.f_Name, .p (.list .str) v18.1.f_Words, .p I6 v18.1.f_Level, .p .bool v18.1.f_Hidden]) (.pair (.one _ _) (.pair (.one _ _) (.pair (.one _ _) (.pair (.one _ _) .unit)))))) rfl rfl rfl rfl rfl rfl) (.cons (mva (U := Un) (v := .p .bool v18.2) rfl rfl) .nil)))))))))) (by kernel_rfl) (by kernel_rfl) (by kernel_rfl) (Conv.refl (U := Un) _) ?_
                  refine thenQ_normal ?_
                  refine WpC.seqJ (U := Un) (fun st' => ∃ v19 : Bool, millwrightlaw14_EnvStays.j21 k (millwrightlaw14_EnvStays.l10 k a0 a1 n) a0 a1 v9 v17 v19 = some o11 ∧ st' = ⟨[(2, .loc 2 0), (5, .loc 10001 0), (30, .p (.list (.named 4)) a1), (31, .p I6 ((a1.length : Int) : Int)), (32, .p I6 v9), (58, .p .bool v19)], [(2, .box [.p .str a0.f_Name, .p (.list .str) a0.f_Words, .p I6 (2 : Int), .p .bool a0.f_Hidden]), (10001, .box [.mp 10002]), (10002, .map (.named 3) v17)]⟩) ?_ ?_
                  · rcases bool_cases (!v18.2) with hc22 | hc22
                    · replace h := ite_t hc22 h
                      refine WpC.reg (U := Un) (st1 := ⟨[(2, .loc 2 0), (5, .loc 10001 0), (30, .p (.list (.named 4)) a1), (31, .p I6 ((a1.length : Int) : Int)), (32, .p I6 v9), (58, .p .bool true)], [(2, .box [.p .str a0.f_Name, .p (.list .str) a0.f_Words, .p I6 (2 : Int), .p .bool a0.f_Hidden]), (10001, .box [.mp 10002]), (10002, .map (.named 3) v17)]⟩) [2, 5, 30, 31, 32, 58] [2, 10001, 10002] hN (.cons (mv (U := Un) (v := .p .bool v18.2) rfl rfl) (.cons (sok_not (U := Un) (rs := [(51, .p .bool v18.2)]) rfl rfl o0) (.cons (mv (U := Un) (v := .p .bool ((!v18.2) : Bool)) rfl rfl) (.cons (sok_skip rfl rfl hc22) (.cons (sok_skip rfl rfl hc22) (.cons (sok_skip rfl rfl hc22) (.cons (sok_skip rfl rfl hc22) (.cons (sok_pickT (U := Un) (rs := [(53, .p .bool ((!v18.2) : Bool))]) rfl rfl o0 hc22 (.bool _ _)) .nil)))))))) (by kernel_rfl) (by kernel_rfl) (by kernel_rfl) (Conv.refl (U := Un) _) ?_
                      refine thenQ_normal ?_
                      exact ⟨true, h, rfl⟩
                    · replace h := ite_f hc22 h
                      obtain ⟨v23, hv23, h⟩ := bind_some h
                      refine WpC.reg (U := Un) (st1 := ⟨[(2, .loc 2 0), (5, .loc 10001 0), (30, .p (.list (.named 4)) a1), (31, .p I6 ((a1.length : Int) : Int)), (32, .p I6 v9), (58, .p .bool ((!v23) : Bool))], [(2, .box [.p .str a0.f_Name, .p (.list .str) a0.f_Words, .p I6 (2 : Int), .p .bool a0.f_Hidden]), (10001, .box [.mp 10002]), (10002, .map (.named 3) v17)]⟩) [2, 5, 30, 31, 32, 58] [2, 10001, 10002] hN (.cons (mv (U := Un) (v := .p .bool v18.2) rfl rfl) (.cons (sok_not (U := Un) (rs := [(51, .p .bool v18.2)]) rfl rfl o0) (.cons (mv (U := Un) (v := .p .bool ((!v18.2) : Bool)) rfl rfl) (.cons (sok_run rfl rfl hc22 (sok_loadB (U := Un) (t := .named 3) (rs := [(9, .loc 9 0)]) [] [.p .str v18.1.f_Name, .p (.list .str) v18.1.f_Words, .p I6 v18.1.f_Level, .p .bool v18.1.f_Hidden] [] (v := .p (.named 3) ((T_env_Var.mk v18.1.f_Name v18.1.f_Words v18.1.f_Level v18.1.f_Hidden) : T_env_Var)) rfl rfl ty_24 o0 rfl rfl rfl rfl (.data (.named (us := [.p .str v18.1.f_Name, .p (.list .str) v18.1.f_Words, .p I6 v18.1.f_Level, .p .bool v18.1.f_Hidden]) (.pair (.one _ _) (.pair (.one _ _) (.pair (.one _ _) (.pair (.one _ _) .unit)))))))) (.cons (sok_run rfl rfl hc22 (sok_loadB (U := Un) (t := .named 3) (rs := [(2, .loc 2 0)]) [] [.p .str a0.f_Name, .p (.list .str) a0.f_Words, .p I6 (2 : Int), .p .bool a0.f_Hidden] [] (v := .p (.named 3) ((T_env_Var.mk a0.f_Name a0.f_Words 2 a0.f_Hidden) : T_env_Var)) rfl rfl ty_24 o0 rfl rfl rfl rfl (.data (.named (us := [.p .str a0.f_Name, .p (.list .str) a0.f_Words, .p I6 (2 : Int), .p .bool a0.f_Hidden]) (.pair (.one _ _) (.pair (.one _ _) (.pair (.one _ _) (.pair (.one _ _) .unit)))))))) (.cons (sok_run rfl rfl hc22 (sok_callV (U := Un) (rs := [(54, .p (.named 3) ((T_env_Var.mk v18.1.f_Name v18.1.f_Words v18.1.f_Level v18.1.f_Hidden) : T_env_Var)), (55, .p (.named 3) ((T_env_Var.mk a0.f_Name a0.f_Words 2 a0.f_Hidden) : T_env_Var))]) (vw := []) rfl rfl (.func _) hb_12 (millwrightref14_Same.ok O hO k (T_env_Var.mk v18.1.f_Name v18.1.f_Words v18.1.f_Level v18.1.f_Hidden) (T_env_Var.mk a0.f_Name a0.f_Words 2 a0.f_Hidden) v23 hv23) (.cons o0 (.cons o1 .nil)) (.cons (.same _) (.cons (.same _) .nil)) (by simp) (.inl rfl))) (.cons (sok_run rfl rfl hc22 (sok_not (U := Un) (rs := [(56, .p .bool v23)]) rfl rfl o0)) (.cons (sok_pickF (U := Un) (rs := [(53, .p .bool ((!v18.2) : Bool)), (57, .p .bool ((!v23) : Bool))]) rfl rfl o0 hc22 o1) .nil)))))))) (by kernel_rfl) (by kernel_rfl) (by kernel_rfl) (Conv.refl (U := Un) _) ?_
                      refine thenQ_normal ?_
                      exact ⟨(!v23), h, rfl⟩
                  · rintro _ ⟨v19, h, rfl⟩
                    unfold millwrightlaw14_EnvStays.j21 at h
                    refine WpC.cond (U := Un) (b := v19) (.tmp (.tail _ (.tail _ (.tail _ (.tail _ (.tail _ (.head _))))))) (fun hc20 => ?_) (fun hc20 => ?_)
                    · replace h := ite_t hc20 h
                      refine WpC.seq ?_
                      refine WpC.reg (U := Un) (st1 := ⟨[(4, .p .bool false)], []⟩) [4] [] hN (.cons (sok_move (U := Un) (rs := []) rfl (.inr rfl) (.bool _ _)) .nil) (by kernel_rfl) (by kernel_rfl) (by kernel_rfl) (Conv.refl (U := Un) _) ?_
                      refine thenQ_normal ?_
                      refine WpC.ret ?_
                      refine blockQ_ret ?_
                      refine thenQ_ret ?_
                      have hq := Option.some.inj h
                      subst hq
                      refine thenQ_ret ?_
                      have h := hout12
                      refine blockQ_ret ?_
                      refine thenQ_ret ?_
                      have hq := Option.some.inj h
                      subst hq
                      exact ends_ret (retV_1 rfl (.head _)) ain_nil
                    · replace h := ite_f hc20 h
                      refine WpC.conv (Conv.keep (U := Un) (b := ⟨[(2, .loc 2 0), (5, .loc 10001 0), (30, .p (.list (.named 4)) a1), (31, .p I6 ((a1.length : Int) : Int)), (32, .p I6 v9)], [(2, .box [.p .str a0.f_Name, .p (.list .str) a0.f_Words, .p I6 (2 : Int), .p .bool a0.f_Hidden]), (10001, .box [.mp 10002]), (10002, .map (.named 3) v17)]⟩) [2, 5, 30, 31, 32] [2, 10001, 10002] (by kernel_rfl)) (WpC.skip ?_)
                      refine blockQ_normal ?_
                      refine thenQ_normal ?_
                      exact ⟨v17, h, rfl⟩
              · rintro _ ⟨v14, h, rfl⟩
                unfold millwrightlaw14_EnvStays.j15 at h
                refine WpC.reg (U := Un) (st1 := ⟨[(2, .loc 2 0), (5, .loc 10001 0), (30, .p (.list (.named 4)) a1), (31, .p I6 ((a1.length : Int) : Int)), (32, .p I6 ((IntKind.i64.wrap (v9 + 1)) : Int))], [(2, .box [.p .str a0.f_Name, .p (.list .str) a0.f_Words, .p I6 (2 : Int), .p .bool a0.f_Hidden]), (10001, .box [.mp 10002]), (10002, .map (.named 3) v14)]⟩) [2, 5, 30, 31, 32] [2, 10001, 10002] hN (.cons (sok_arith (U := Un) (rs := [(32, .p I6 v9)]) rfl rfl o0 (.int _ _ _) rfl) (.cons (mv (U := Un) (v := .p I6 ((IntKind.i64.wrap (v9 + 1)) : Int)) rfl rfl) .nil)) (by kernel_rfl) (by kernel_rfl) (by kernel_rfl) (Conv.refl (U := Un) _) ?_
                refine thenQ_normal ?_
                exact ⟨n, Nat.lt_succ_self n, v14, (IntKind.i64.wrap (v9 + 1)), h, rfl⟩
            · replace h := ite_f hc13 h
              refine WpC.conv (Conv.keep (U := Un) (b := ⟨[], []⟩) [] [] (by kernel_rfl)) (WpC.exit ?_)
              refine thenQ_exit ?_
              have hq := Option.some.inj h
              subst hq
              refine thenQ_exit ?_
              have h := hout12
              refine blockQ_hit ?_
              refine thenQ_normal ?_
              exact ⟨h, rfl⟩
        · rintro _ ⟨h, rfl⟩
          unfold millwrightlaw14_EnvStays.j7 at h
          refine WpC.seq ?_
          refine WpC.reg (U := Un) (st1 := ⟨[(4, .p .bool true)], []⟩) [4] [] hN (.cons (sok_move (U := Un) (rs := []) rfl (.inr rfl) (.bool _ _)) .nil) (by kernel_rfl) (by kernel_rfl) (by kernel_rfl) (Conv.refl (U := Un) _) ?_
          refine thenQ_normal ?_
          refine WpC.ret ?_
          have hq := Option.some.inj h
          subst hq
          exact ends_ret (retV_1 rfl (.head _)) ain_nil

end Go.Proofs.YtnbnfjgedinlbaaDoor
