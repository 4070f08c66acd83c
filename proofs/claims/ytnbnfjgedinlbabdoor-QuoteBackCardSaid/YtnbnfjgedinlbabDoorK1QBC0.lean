/- A part of the proof of a given law: QBC0. Own work, printed in part by a program of mine. -/
import Derived.Test.YtnbnfjgedinlbabDoorK1QBF
namespace Go.Proofs.YtnbnfjgedinlbabDoor
open Go Go.AM
set_option linter.unusedVariables false
set_option linter.unusedSimpArgs false
set_option maxRecDepth 100000
theorem quote_Blank.ok (O : Out) (hO : GOkQ O) (k : Nat) (a0 : Int) (out : Bool) (h : quote_Blank.f k a0 = some out) : COk Un O Tryd.prog 46 { ar := [.p (.int .u8) a0], r := .p .bool out } := by
  refine cok_of_wp Tryd.func46 rfl (k := 6) rfl (Nat.le_of_ble_eq_true rfl) (namesOk_pure rfl rfl rfl rfl) ?_
  intro B hN
  refine WpC.conv (Conv.keep (U := Un) (b := ⟨[(0, .p (.int .u8) a0)], []⟩) [0] [] (by kernel_rfl)) ?_
  unfold quote_Blank.f at h
  refine WpC.seq ?_
  refine WpC.reg (U := Un) (st1 := ⟨[(0, .p (.int .u8) a0)], []⟩) [0] [] hN (.cons (sok_move (U := Un) (rs := []) rfl (.inr rfl) (.bool _ _)) .nil) (by kernel_rfl) (by kernel_rfl) (by kernel_rfl) (Conv.refl (U := Un) _) ?_
  refine thenQ_normal ?_
  refine WpC.seq ?_
  obtain ⟨v1, hv1, h⟩ := bind_some h
  refine WpC.reg (U := Un) (st1 := ⟨[(2, .p .bool ((decide (v1 ≥ 0)) : Bool))], []⟩) [2] [] hN (.cons (mv (U := Un) (v := .p (.int .u8) a0) rfl rfl) (.cons (sok_call (U := Un) (rs := [(3, .p (.int .u8) a0)]) (vw := []) rfl rfl hb_67 (pIndexByte.ok O hO k ([32, 9, 10] : List UInt8) a0 v1 hv1) (.cons (.str _ _) (.cons o0 .nil)) (.cons (.same _) (.cons (.same _) .nil)) (by simp) (.inl rfl)) (.cons (sok_cmp (U := Un) (rs := [(4, .p I6 v1)]) rfl rfl o0 (.int _ _ _) rfl) (.cons (mva (U := Un) (v := .p .bool ((decide (v1 ≥ 0)) : Bool)) rfl rfl) .nil)))) (by kernel_rfl) (by kernel_rfl) (by kernel_rfl) (Conv.refl (U := Un) _) ?_
  refine thenQ_normal ?_
  refine WpC.ret ?_
  have hq := Option.some.inj h
  subst hq
  exact ends_ret (retV_1 rfl (.head _)) ain_nil

theorem quote_skip.ok (O : Out) (hO : GOkQ O) (k : Nat) (a0 : List UInt8) (a1 : Int) (out : Int) (h : quote_skip.f k a0 a1 = some out) : COk Un O Tryd.prog 41 { ar := [.p .str a0, .p I6 a1], r := .p I6 out } := by
  refine cok_of_wp Tryd.func41 rfl (k := 18) rfl (Nat.le_of_ble_eq_true rfl) (namesOk_pure rfl rfl rfl rfl) ?_
  intro B hN
  refine WpC.conv (Conv.keep (U := Un) (b := ⟨[(0, .p .str a0), (1, .p I6 a1)], []⟩) [0, 1] [] (by kernel_rfl)) ?_
  unfold quote_skip.f at h
  refine WpC.seq ?_
  refine WpC.reg (U := Un) (st1 := ⟨[(0, .p .str a0), (1, .p I6 a1)], []⟩) [0, 1] [] hN (.cons (sok_move (U := Un) (rs := []) rfl (.inr rfl) (.int _ _ _)) .nil) (by kernel_rfl) (by kernel_rfl) (by kernel_rfl) (Conv.refl (U := Un) _) ?_
  refine thenQ_normal ?_
  refine WpC.seqJ (U := Un) (fun st' => ∃ v1 : Int, quote_skip.j2 k v1 = some out ∧ st' = ⟨[(1, .p I6 v1)], []⟩) ?_ ?_
  · refine WpC.block ?_
    obtain ⟨o6, hlo6, h⟩ := bind_some h
    have hout7 := h
    clear h
    refine WpC.loop (U := Un) (fun n st' => ∃ v3 : Int, quote_skip.l4 k a0 n v3 = some o6 ∧ st' = ⟨[(0, .p .str a0), (1, .p I6 v3)], []⟩) k ⟨a1, hlo6, rfl⟩ ?_
    clear hlo6
    rintro (_ | n) _ ⟨v3, h, rfl⟩
    · cases h
    · rw [quote_skip.l4] at h
      refine WpC.seqJ (U := Un) (fun st' => quote_skip.j8 k (quote_skip.l4 k a0 n) a0 v3 = some o6 ∧ st' = ⟨[(0, .p .str a0), (1, .p I6 v3)], []⟩) ?_ ?_
      · refine WpC.seqJ (U := Un) (fun st' => ∃ v9 : Bool, quote_skip.j11 k (quote_skip.l4 k a0 n) a0 v3 v9 = some o6 ∧ st' = ⟨[(0, .p .str a0), (1, .p I6 v3), (14, .p .bool v9)], []⟩) ?_ ?_
        · rcases bool_cases (decide (v3 < (a0.length : Int))) with hc12 | hc12
          · replace h := ite_t hc12 h
            obtain ⟨v13, hv13, h⟩ := bind_some h
            obtain ⟨v14, hv14, h⟩ := bind_some h
            refine WpC.reg (U := Un) (st1 := ⟨[(0, .p .str a0), (1, .p I6 v3), (14, .p .bool v14)], []⟩) [0, 1, 14] [] hN (.cons (mv (U := Un) (v := .p I6 v3) rfl rfl) (.cons (mv (U := Un) (v := .p .str a0) rfl rfl) (.cons (sok_lenS (U := Un) (rs := [(6, .p .str a0)]) rfl rfl Tryd.underlying9 o0) (.cons (sok_cmp (U := Un) (rs := [(5, .p I6 v3), (7, .p I6 ((a0.length : Int) : Int))]) rfl rfl o0 o1 rfl) (.cons (mv (U := Un) (v := .p .bool ((decide (v3 < (a0.length : Int))) : Bool)) rfl rfl) (.cons (sok_run rfl rfl hc12 (mv (U := Un) (v := .p .str a0) rfl rfl)) (.cons (sok_run rfl rfl hc12 (mv (U := Un) (v := .p I6 v3) rfl rfl)) (.cons (sok_run rfl rfl hc12 (sok_indexS (U := Un) (rs := [(10, .p .str a0), (11, .p I6 v3)]) rfl rfl Tryd.underlying9 o0 o1 hv13)) (.cons (sok_run rfl rfl hc12 (sok_callV (U := Un) (rs := [(12, .p (.int .u8) ((v13.toNat : Int) : Int))]) (vw := []) rfl rfl (.func _) hb_46 (quote_Blank.ok O hO k (v13.toNat : Int) v14 hv14) (.cons o0 .nil) (.cons (.same _) .nil) (by simp) (.inl rfl))) (.cons (sok_pickT (U := Un) (rs := [(9, .p .bool ((decide (v3 < (a0.length : Int))) : Bool)), (13, .p .bool v14)]) rfl rfl o0 hc12 o1) .nil)))))))))) (by kernel_rfl) (by kernel_rfl) (by kernel_rfl) (Conv.refl (U := Un) _) ?_
            refine thenQ_normal ?_
            exact ⟨v14, h, rfl⟩
          · replace h := ite_f hc12 h
            refine WpC.reg (U := Un) (st1 := ⟨[(0, .p .str a0), (1, .p I6 v3), (14, .p .bool false)], []⟩) [0, 1, 14] [] hN (.cons (mv (U := Un) (v := .p I6 v3) rfl rfl) (.cons (mv (U := Un) (v := .p .str a0) rfl rfl) (.cons (sok_lenS (U := Un) (rs := [(6, .p .str a0)]) rfl rfl Tryd.underlying9 o0) (.cons (sok_cmp (U := Un) (rs := [(5, .p I6 v3), (7, .p I6 ((a0.length : Int) : Int))]) rfl rfl o0 o1 rfl) (.cons (mv (U := Un) (v := .p .bool ((decide (v3 < (a0.length : Int))) : Bool)) rfl rfl) (.cons (sok_skip rfl rfl hc12) (.cons (sok_skip rfl rfl hc12) (.cons (sok_skip rfl rfl hc12) (.cons (sok_skip rfl rfl hc12) (.cons (sok_pickF (U := Un) (rs := [(9, .p .bool ((decide (v3 < (a0.length : Int))) : Bool))]) rfl rfl o0 hc12 (.bool _ _)) .nil)))))))))) (by kernel_rfl) (by kernel_rfl) (by kernel_rfl) (Conv.refl (U := Un) _) ?_
            refine thenQ_normal ?_
            exact ⟨false, h, rfl⟩
        · rintro _ ⟨v9, h, rfl⟩
          unfold quote_skip.j11 at h
          refine WpC.cond (U := Un) (b := v9) (.tmp (.tail _ (.tail _ (.head _)))) (fun hc10 => ?_) (fun hc10 => ?_)
          · replace h := ite_t hc10 h
            refine WpC.conv (Conv.keep (U := Un) (b := ⟨[(0, .p .str a0), (1, .p I6 v3)], []⟩) [0, 1] [] (by kernel_rfl)) (WpC.skip ?_)
            refine thenQ_normal ?_
            exact ⟨h, rfl⟩
          · replace h := ite_f hc10 h
            refine WpC.conv (Conv.keep (U := Un) (b := ⟨[(1, .p I6 v3)], []⟩) [1] [] (by kernel_rfl)) (WpC.exit ?_)
            refine thenQ_exit ?_
            have hq := Option.some.inj h
            subst hq
            refine thenQ_exit ?_
            have h := hout7
            refine blockQ_hit ?_
            refine thenQ_normal ?_
            exact ⟨v3, h, rfl⟩
      · rintro _ ⟨h, rfl⟩
        unfold quote_skip.j8 at h
        refine WpC.block ?_
        refine WpC.reg (U := Un) (st1 := ⟨[(0, .p .str a0), (1, .p I6 ((IntKind.i64.wrap (v3 + 1)) : Int))], []⟩) [0, 1] [] hN (.cons (mv (U := Un) (v := .p I6 v3) rfl rfl) (.cons (sok_arith (U := Un) (rs := [(15, .p I6 v3)]) rfl rfl o0 (.int _ _ _) rfl) (.cons (mva (U := Un) (v := .p I6 ((IntKind.i64.wrap (v3 + 1)) : Int)) rfl rfl) .nil))) (by kernel_rfl) (by kernel_rfl) (by kernel_rfl) (Conv.refl (U := Un) _) ?_
        refine blockQ_normal ?_
        refine thenQ_normal ?_
        exact ⟨n, Nat.lt_succ_self n, (IntKind.i64.wrap (v3 + 1)), h, rfl⟩
  · rintro _ ⟨v1, h, rfl⟩
    unfold quote_skip.j2 at h
    refine WpC.seq ?_
    refine WpC.reg (U := Un) (st1 := ⟨[(4, .p I6 v1)], []⟩) [4] [] hN (.cons (mv (U := Un) (v := .p I6 v1) rfl rfl) (.cons (mva (U := Un) (v := .p I6 v1) rfl rfl) .nil)) (by kernel_rfl) (by kernel_rfl) (by kernel_rfl) (Conv.refl (U := Un) _) ?_
    refine thenQ_normal ?_
    refine WpC.ret ?_
    have hq := Option.some.inj h
    subst hq
    exact ends_ret (retV_1 rfl (.head _)) ain_nil

theorem quote_End.ok (O : Out) (hO : GOkQ O) (k : Nat) (a0 : List UInt8) (a1 : Int) (out : Int) (h : quote_End.f k a0 a1 = some out) : COk Un O Tryd.prog 60 { ar := [.p .str a0, .p I6 a1], r := .p I6 out } := by
  refine cok_of_wp Tryd.func60 rfl (k := 50) rfl (Nat.le_of_ble_eq_true rfl) (namesOk_pure rfl rfl rfl rfl) ?_
  intro B hN
  refine WpC.conv (Conv.keep (U := Un) (b := ⟨[(0, .p .str a0), (1, .p I6 a1)], []⟩) [0, 1] [] (by kernel_rfl)) ?_
  unfold quote_End.f at h
  refine WpC.seq ?_
  refine WpC.reg (U := Un) (st1 := ⟨[(0, .p .str a0), (1, .p I6 a1)], []⟩) [0, 1] [] hN (.cons (sok_move (U := Un) (rs := []) rfl (.inr rfl) (.int _ _ _)) .nil) (by kernel_rfl) (by kernel_rfl) (by kernel_rfl) (Conv.refl (U := Un) _) ?_
  refine thenQ_normal ?_
  refine WpC.seqJ (U := Un) (fun st' => quote_End.j18 k a0 a1 = some out ∧ st' = ⟨[(0, .p .str a0), (1, .p I6 a1)], []⟩) ?_ ?_
  · refine WpC.seqJ (U := Un) (fun st' => ∃ v19 : Bool, quote_End.j21 k a0 a1 v19 = some out ∧ st' = ⟨[(0, .p .str a0), (1, .p I6 a1), (19, .p .bool v19)], []⟩) ?_ ?_
    · rcases bool_cases (decide (a1 < 0)) with hc22 | hc22
      · replace h := ite_t hc22 h
        refine WpC.reg (U := Un) (st1 := ⟨[(0, .p .str a0), (1, .p I6 a1), (19, .p .bool true)], []⟩) [0, 1, 19] [] hN (.cons (mv (U := Un) (v := .p I6 a1) rfl rfl) (.cons (sok_cmp (U := Un) (rs := [(6, .p I6 a1)]) rfl rfl o0 (.int _ _ _) rfl) (.cons (mv (U := Un) (v := .p .bool ((decide (a1 < 0)) : Bool)) rfl rfl) (.cons (sok_skip rfl rfl hc22) (.cons (sok_skip rfl rfl hc22) (.cons (sok_skip rfl rfl hc22) (.cons (sok_skip rfl rfl hc22) (.cons (sok_pickT (U := Un) (rs := [(8, .p .bool ((decide (a1 < 0)) : Bool))]) rfl rfl o0 hc22 (.bool _ _)) (.cons (mv (U := Un) (v := .p .bool true) rfl rfl) (.cons (sok_skip rfl rfl rfl) (.cons (sok_skip rfl rfl rfl) (.cons (sok_skip rfl rfl rfl) (.cons (sok_skip rfl rfl rfl) (.cons (sok_pickT (U := Un) (rs := [(14, .p .bool true)]) rfl rfl o0 rfl (.bool _ _)) .nil)))))))))))))) (by kernel_rfl) (by kernel_rfl) (by kernel_rfl) (Conv.refl (U := Un) _) ?_
        refine thenQ_normal ?_
        exact ⟨true, h, rfl⟩
      · replace h := ite_f hc22 h
        rcases bool_cases (decide (a1 ≥ (a0.length : Int))) with hc23 | hc23
        · replace h := ite_t hc23 h
          refine WpC.reg (U := Un) (st1 := ⟨[(0, .p .str a0), (1, .p I6 a1), (19, .p .bool true)], []⟩) [0, 1, 19] [] hN (.cons (mv (U := Un) (v := .p I6 a1) rfl rfl) (.cons (sok_cmp (U := Un) (rs := [(6, .p I6 a1)]) rfl rfl o0 (.int _ _ _) rfl) (.cons (mv (U := Un) (v := .p .bool ((decide (a1 < 0)) : Bool)) rfl rfl) (.cons (sok_run rfl rfl hc22 (mv (U := Un) (v := .p I6 a1) rfl rfl)) (.cons (sok_run rfl rfl hc22 (mv (U := Un) (v := .p .str a0) rfl rfl)) (.cons (sok_run rfl rfl hc22 (sok_lenS (U := Un) (rs := [(10, .p .str a0)]) rfl rfl Tryd.underlying9 o0)) (.cons (sok_run rfl rfl hc22 (sok_cmp (U := Un) (rs := [(9, .p I6 a1), (11, .p I6 ((a0.length : Int) : Int))]) rfl rfl o0 o1 rfl)) (.cons (sok_pickF (U := Un) (rs := [(8, .p .bool ((decide (a1 < 0)) : Bool)), (12, .p .bool ((decide (a1 ≥ (a0.length : Int))) : Bool))]) rfl rfl o0 hc22 o1) (.cons (mv (U := Un) (v := .p .bool ((decide (a1 ≥ (a0.length : Int))) : Bool)) rfl rfl) (.cons (sok_skip rfl rfl hc23) (.cons (sok_skip rfl rfl hc23) (.cons (sok_skip rfl rfl hc23) (.cons (sok_skip rfl rfl hc23) (.cons (sok_pickT (U := Un) (rs := [(14, .p .bool ((decide (a1 ≥ (a0.length : Int))) : Bool))]) rfl rfl o0 hc23 (.bool _ _)) .nil)))))))))))))) (by kernel_rfl) (by kernel_rfl) (by kernel_rfl) (Conv.refl (U := Un) _) ?_
          refine thenQ_normal ?_
          exact ⟨true, h, rfl⟩
        · replace h := ite_f hc23 h
          obtain ⟨v24, hv24, h⟩ := bind_some h
          refine WpC.reg (U := Un) (st1 := ⟨[(0, .p .str a0), (1, .p I6 a1), (19, .p .bool (((v24.toNat : Int) != 39) : Bool))], []⟩) [0, 1, 19] [] hN (.cons (mv (U := Un) (v := .p I6 a1) rfl rfl) (.cons (sok_cmp (U := Un) (rs := [(6, .p I6 a1)]) rfl rfl o0 (.int _ _ _) rfl) (.cons (mv (U := Un) (v := .p .bool ((decide (a1 < 0)) : Bool)) rfl rfl) (.cons (sok_run rfl rfl hc22 (mv (U := Un) (v := .p I6 a1) rfl rfl)) (.cons (sok_run rfl rfl hc22 (mv (U := Un) (v := .p .str a0) rfl rfl)) (.cons (sok_run rfl rfl hc22 (sok_lenS (U := Un) (rs := [(10, .p .str a0)]) rfl rfl Tryd.underlying9 o0)) (.cons (sok_run rfl rfl hc22 (sok_cmp (U := Un) (rs := [(9, .p I6 a1), (11, .p I6 ((a0.length : Int) : Int))]) rfl rfl o0 o1 rfl)) (.cons (sok_pickF (U := Un) (rs := [(8, .p .bool ((decide (a1 < 0)) : Bool)), (12, .p .bool ((decide (a1 ≥ (a0.length : Int))) : Bool))]) rfl rfl o0 hc22 o1) (.cons (mv (U := Un) (v := .p .bool ((decide (a1 ≥ (a0.length : Int))) : Bool)) rfl rfl) (.cons (sok_run rfl rfl hc23 (mv (U := Un) (v := .p .str a0) rfl rfl)) (.cons (sok_run rfl rfl hc23 (mv (U := Un) (v := .p I6 a1) rfl rfl)) (.cons (sok_run rfl rfl hc23 (sok_indexS (U := Un) (rs := [(15, .p .str a0), (16, .p I6 a1)]) rfl rfl Tryd.underlying9 o0 o1 hv24)) (.cons (sok_run rfl rfl hc23 (sok_cmp (U := Un) (rs := [(17, .p (.int .u8) ((v24.toNat : Int) : Int))]) rfl rfl o0 (.int _ _ _) rfl)) (.cons (sok_pickF (U := Un) (rs := [(14, .p .bool ((decide (a1 ≥ (a0.length : Int))) : Bool)), (18, .p .bool (((v24.toNat : Int) != 39) : Bool))]) rfl rfl o0 hc23 o1) .nil)))))))))))))) (by kernel_rfl) (by kernel_rfl) (by kernel_rfl) (Conv.refl (U := Un) _) ?_
          refine thenQ_normal ?_
          exact ⟨((v24.toNat : Int) != 39), h, rfl⟩
    · rintro _ ⟨v19, h, rfl⟩
      unfold quote_End.j21 at h
      refine WpC.cond (U := Un) (b := v19) (.tmp (.tail _ (.tail _ (.head _)))) (fun hc20 => ?_) (fun hc20 => ?_)
      · replace h := ite_t hc20 h
        refine WpC.seq ?_
        refine WpC.reg (U := Un) (st1 := ⟨[(4, .p I6 ((-1) : Int))], []⟩) [4] [] hN (.cons (sok_move (U := Un) (rs := []) rfl (.inr rfl) (.int _ _ _)) .nil) (by kernel_rfl) (by kernel_rfl) (by kernel_rfl) (Conv.refl (U := Un) _) ?_
        refine thenQ_normal ?_
        refine WpC.ret ?_
        refine thenQ_ret ?_
        have hq := Option.some.inj h
        subst hq
        exact ends_ret (retV_1 rfl (.head _)) ain_nil
      · replace h := ite_f hc20 h
        refine WpC.conv (Conv.keep (U := Un) (b := ⟨[(0, .p .str a0), (1, .p I6 a1)], []⟩) [0, 1] [] (by kernel_rfl)) (WpC.skip ?_)
        refine thenQ_normal ?_
        exact ⟨h, rfl⟩
  · rintro _ ⟨h, rfl⟩
    unfold quote_End.j18 at h
    refine WpC.seqJ (U := Un) (fun st' => quote_End.j1 k = some out ∧ st' = ⟨[], []⟩) ?_ ?_
    · refine WpC.seq ?_
      refine WpC.reg (U := Un) (st1 := ⟨[(0, .p .str a0), (5, .p I6 ((IntKind.i64.wrap (a1 + 1)) : Int))], []⟩) [0, 5] [] hN (.cons (mv (U := Un) (v := .p I6 a1) rfl rfl) (.cons (sok_arith (U := Un) (rs := [(20, .p I6 a1)]) rfl rfl o0 (.int _ _ _) rfl) (.cons (mva (U := Un) (v := .p I6 ((IntKind.i64.wrap (a1 + 1)) : Int)) rfl rfl) .nil))) (by kernel_rfl) (by kernel_rfl) (by kernel_rfl) (Conv.refl (U := Un) _) ?_
      refine thenQ_normal ?_
      refine WpC.block ?_
      obtain ⟨o4, hlo4, h⟩ := bind_some h
      have hout5 := h
      clear h
      refine WpC.loop (U := Un) (fun n st' => ∃ v2 : Int, quote_End.l3 k a0 n v2 = some o4 ∧ st' = ⟨[(0, .p .str a0), (5, .p I6 v2)], []⟩) k ⟨(IntKind.i64.wrap (a1 + 1)), hlo4, rfl⟩ ?_
      clear hlo4
      rintro (_ | n) _ ⟨v2, h, rfl⟩
      · cases h
      · rw [quote_End.l3] at h
        refine WpC.seq ?_
        refine WpC.seq ?_
        refine WpC.reg (U := Un) (st1 := ⟨[(0, .p .str a0), (5, .p I6 v2), (25, .p .bool ((decide (v2 < (a0.length : Int))) : Bool))], []⟩) [0, 5, 25] [] hN (.cons (mv (U := Un) (v := .p I6 v2) rfl rfl) (.cons (mv (U := Un) (v := .p .str a0) rfl rfl) (.cons (sok_lenS (U := Un) (rs := [(23, .p .str a0)]) rfl rfl Tryd.underlying9 o0) (.cons (sok_cmp (U := Un) (rs := [(22, .p I6 v2), (24, .p I6 ((a0.length : Int) : Int))]) rfl rfl o0 o1 rfl) .nil)))) (by kernel_rfl) (by kernel_rfl) (by kernel_rfl) (Conv.refl (U := Un) _) ?_
        refine thenQ_normal ?_
        refine WpC.cond (U := Un) (b := (decide (v2 < (a0.length : Int)))) (.tmp (.tail _ (.tail _ (.head _)))) (fun hc6 => ?_) (fun hc6 => ?_)
        · replace h := ite_t hc6 h
          refine WpC.conv (Conv.keep (U := Un) (b := ⟨[(0, .p .str a0), (5, .p I6 v2)], []⟩) [0, 5] [] (by kernel_rfl)) (WpC.skip ?_)
          refine thenQ_normal ?_
          refine WpC.seqJ (U := Un) (fun st' => ∃ v7 : Int, quote_End.j8 k (quote_End.l3 k a0 n) a0 v7 = some o4 ∧ st' = ⟨[(0, .p .str a0), (5, .p I6 v7)], []⟩) ?_ ?_
          · refine WpC.block ?_
            refine WpC.block ?_
            refine WpC.seq ?_
            obtain ⟨v9, hv9, h⟩ := bind_some h
            refine WpC.reg (U := Un) (st1 := ⟨[(0, .p .str a0), (5, .p I6 v2), (30, .p .bool (((v9.toNat : Int) != 39) : Bool))], []⟩) [0, 5, 30] [] hN (.cons (mv (U := Un) (v := .p .str a0) rfl rfl) (.cons (mv (U := Un) (v := .p I6 v2) rfl rfl) (.cons (sok_indexS (U := Un) (rs := [(31, .p .str a0), (32, .p I6 v2)]) rfl rfl Tryd.underlying9 o0 o1 hv9) (.cons (sok_cmp (U := Un) (rs := [(33, .p (.int .u8) ((v9.toNat : Int) : Int))]) rfl rfl o0 (.int _ _ _) rfl) (.cons (mva (U := Un) (v := .p .bool (((v9.toNat : Int) != 39) : Bool)) rfl rfl) .nil))))) (by kernel_rfl) (by kernel_rfl) (by kernel_rfl) (Conv.refl (U := Un) _) ?_
            refine thenQ_normal ?_
            refine WpC.cond (U := Un) (b := ((v9.toNat : Int) != 39)) (.tmp (.tail _ (.tail _ (.head _)))) (fun hc10 => ?_) (fun hc10 => ?_)
            · replace h := ite_t hc10 h
              refine WpC.conv (Conv.keep (U := Un) (b := ⟨[(0, .p .str a0), (5, .p I6 v2)], []⟩) [0, 5] [] (by kernel_rfl)) (WpC.exit ?_)
              refine blockQ_pass (by decide) ?_
              refine blockQ_hit ?_
              refine thenQ_normal ?_
              exact ⟨v2, h, rfl⟩
            · replace h := ite_f hc10 h
              refine WpC.seqJ (U := Un) (fun st' => ∃ v11 : Bool, quote_End.j13 k (quote_End.l3 k a0 n) a0 v2 v11 = some o4 ∧ st' = ⟨[(0, .p .str a0), (5, .p I6 v2), (35, .p .bool v11)], []⟩) ?_ ?_
              · rcases bool_cases (decide ((IntKind.i64.wrap (v2 + 1)) < (a0.length : Int))) with hc14 | hc14
                · replace h := ite_t hc14 h
                  obtain ⟨v15, hv15, h⟩ := bind_some h
                  refine WpC.reg (U := Un) (st1 := ⟨[(0, .p .str a0), (5, .p I6 v2), (35, .p .bool (((v15.toNat : Int) == 39) : Bool))], []⟩) [0, 5, 35] [] hN (.cons (mv (U := Un) (v := .p I6 v2) rfl rfl) (.cons (sok_arith (U := Un) (rs := [(36, .p I6 v2)]) rfl rfl o0 (.int _ _ _) rfl) (.cons (mv (U := Un) (v := .p .str a0) rfl rfl) (.cons (sok_lenS (U := Un) (rs := [(38, .p .str a0)]) rfl rfl Tryd.underlying9 o0) (.cons (sok_cmp (U := Un) (rs := [(37, .p I6 ((IntKind.i64.wrap (v2 + 1)) : Int)), (39, .p I6 ((a0.length : Int) : Int))]) rfl rfl o0 o1 rfl) (.cons (mv (U := Un) (v := .p .bool ((decide ((IntKind.i64.wrap (v2 + 1)) < (a0.length : Int))) : Bool)) rfl rfl) (.cons (sok_run rfl rfl hc14 (mv (U := Un) (v := .p .str a0) rfl rfl)) (.cons (sok_run rfl rfl hc14 (mv (U := Un) (v := .p I6 v2) rfl rfl)) (.cons (sok_run rfl rfl hc14 (sok_arith (U := Un) (rs := [(43, .p I6 v2)]) rfl rfl o0 (.int _ _ _) rfl)) (.cons (sok_run rfl rfl hc14 (sok_indexS (U := Un) (rs := [(42, .p .str a0), (44, .p I6 ((IntKind.i64.wrap (v2 + 1)) : Int))]) rfl rfl Tryd.underlying9 o0 o1 hv15)) (.cons (sok_run rfl rfl hc14 (sok_cmp (U := Un) (rs := [(45, .p (.int .u8) ((v15.toNat : Int) : Int))]) rfl rfl o0 (.int _ _ _) rfl)) (.cons (sok_pickT (U := Un) (rs := [(41, .p .bool ((decide ((IntKind.i64.wrap (v2 + 1)) < (a0.length : Int))) : Bool)), (46, .p .bool (((v15.toNat : Int) == 39) : Bool))]) rfl rfl o0 hc14 o1) (.cons (mva (U := Un) (v := .p .bool (((v15.toNat : Int) == 39) : Bool)) rfl rfl) .nil))))))))))))) (by kernel_rfl) (by kernel_rfl) (by kernel_rfl) (Conv.refl (U := Un) _) ?_
                  refine thenQ_normal ?_
                  exact ⟨((v15.toNat : Int) == 39), h, rfl⟩
                · replace h := ite_f hc14 h
                  refine WpC.reg (U := Un) (st1 := ⟨[(0, .p .str a0), (5, .p I6 v2), (35, .p .bool false)], []⟩) [0, 5, 35] [] hN (.cons (mv (U := Un) (v := .p I6 v2) rfl rfl) (.cons (sok_arith (U := Un) (rs := [(36, .p I6 v2)]) rfl rfl o0 (.int _ _ _) rfl) (.cons (mv (U := Un) (v := .p .str a0) rfl rfl) (.cons (sok_lenS (U := Un) (rs := [(38, .p .str a0)]) rfl rfl Tryd.underlying9 o0) (.cons (sok_cmp (U := Un) (rs := [(37, .p I6 ((IntKind.i64.wrap (v2 + 1)) : Int)), (39, .p I6 ((a0.length : Int) : Int))]) rfl rfl o0 o1 rfl) (.cons (mv (U := Un) (v := .p .bool ((decide ((IntKind.i64.wrap (v2 + 1)) < (a0.length : Int))) : Bool)) rfl rfl) (.cons (sok_skip rfl rfl hc14) (.cons (sok_skip rfl rfl hc14) (.cons (sok_skip rfl rfl hc14) (.cons (sok_skip rfl rfl hc14) (.cons (sok_skip rfl rfl hc14) (.cons (sok_pickF (U := Un) (rs := [(41, .p .bool ((decide ((IntKind.i64.wrap (v2 + 1)) < (a0.length : Int))) : Bool))]) rfl rfl o0 hc14 (.bool _ _)) (.cons (mva (U := Un) (v := .p .bool false) rfl rfl) .nil))))))))))))) (by kernel_rfl) (by kernel_rfl) (by kernel_rfl) (Conv.refl (U := Un) _) ?_
                  refine thenQ_normal ?_
                  exact ⟨false, h, rfl⟩
              · rintro _ ⟨v11, h, rfl⟩
                unfold quote_End.j13 at h
                refine WpC.cond (U := Un) (b := v11) (.tmp (.tail _ (.tail _ (.head _)))) (fun hc12 => ?_) (fun hc12 => ?_)
                · replace h := ite_t hc12 h
                  refine WpC.reg (U := Un) (st1 := ⟨[(0, .p .str a0), (5, .p I6 ((IntKind.i64.wrap (v2 + 1)) : Int))], []⟩) [0, 5] [] hN (.cons (mv (U := Un) (v := .p I6 v2) rfl rfl) (.cons (sok_arith (U := Un) (rs := [(48, .p I6 v2)]) rfl rfl o0 (.int _ _ _) rfl) (.cons (mva (U := Un) (v := .p I6 ((IntKind.i64.wrap (v2 + 1)) : Int)) rfl rfl) .nil))) (by kernel_rfl) (by kernel_rfl) (by kernel_rfl) (Conv.refl (U := Un) _) ?_
                  refine blockQ_normal ?_
                  refine blockQ_normal ?_
                  refine thenQ_normal ?_
                  exact ⟨(IntKind.i64.wrap (v2 + 1)), h, rfl⟩
                · replace h := ite_f hc12 h
                  refine WpC.seq ?_
                  refine WpC.reg (U := Un) (st1 := ⟨[(4, .p I6 ((IntKind.i64.wrap (v2 + 1)) : Int))], []⟩) [4] [] hN (.cons (mv (U := Un) (v := .p I6 v2) rfl rfl) (.cons (sok_arith (U := Un) (rs := [(28, .p I6 v2)]) rfl rfl o0 (.int _ _ _) rfl) (.cons (mva (U := Un) (v := .p I6 ((IntKind.i64.wrap (v2 + 1)) : Int)) rfl rfl) .nil))) (by kernel_rfl) (by kernel_rfl) (by kernel_rfl) (Conv.refl (U := Un) _) ?_
                  refine thenQ_normal ?_
                  refine WpC.ret ?_
                  refine blockQ_ret ?_
                  refine blockQ_ret ?_
                  refine thenQ_ret ?_
                  have hq := Option.some.inj h
                  subst hq
                  refine thenQ_ret ?_
                  have h := hout5
                  refine blockQ_ret ?_
                  refine thenQ_ret ?_
                  have hq := Option.some.inj h
                  subst hq
                  exact ends_ret (retV_1 rfl (.head _)) ain_nil
          · rintro _ ⟨v7, h, rfl⟩
            unfold quote_End.j8 at h
            refine WpC.reg (U := Un) (st1 := ⟨[(0, .p .str a0), (5, .p I6 ((IntKind.i64.wrap (v7 + 1)) : Int))], []⟩) [0, 5] [] hN (.cons (mv (U := Un) (v := .p I6 v7) rfl rfl) (.cons (sok_arith (U := Un) (rs := [(26, .p I6 v7)]) rfl rfl o0 (.int _ _ _) rfl) (.cons (mva (U := Un) (v := .p I6 ((IntKind.i64.wrap (v7 + 1)) : Int)) rfl rfl) .nil))) (by kernel_rfl) (by kernel_rfl) (by kernel_rfl) (Conv.refl (U := Un) _) ?_
            refine thenQ_normal ?_
            exact ⟨n, Nat.lt_succ_self n, (IntKind.i64.wrap (v7 + 1)), h, rfl⟩
        · replace h := ite_f hc6 h
          refine WpC.conv (Conv.keep (U := Un) (b := ⟨[], []⟩) [] [] (by kernel_rfl)) (WpC.exit ?_)
          refine thenQ_exit ?_
          have hq := Option.some.inj h
          subst hq
          refine thenQ_exit ?_
          have h := hout5
          refine blockQ_hit ?_
          refine thenQ_normal ?_
          exact ⟨h, rfl⟩
    · rintro _ ⟨h, rfl⟩
      unfold quote_End.j1 at h
      refine WpC.seq ?_
      refine WpC.reg (U := Un) (st1 := ⟨[(4, .p I6 ((-1) : Int))], []⟩) [4] [] hN (.cons (sok_move (U := Un) (rs := []) rfl (.inr rfl) (.int _ _ _)) .nil) (by kernel_rfl) (by kernel_rfl) (by kernel_rfl) (Conv.refl (U := Un) _) ?_
      refine thenQ_normal ?_
      refine WpC.ret ?_
      have hq := Option.some.inj h
      subst hq
      exact ends_ret (retV_1 rfl (.head _)) ain_nil

theorem quote_word.ok (O : Out) (hO : GOkQ O) (k : Nat) (a0 : List UInt8) (a1 : Int) (out : (List UInt8) × Int) (h : quote_word.f k a0 a1 = some out) : COk Un O Tryd.prog 42 { ar := [.p .str a0, .p I6 a1], r := .tup [.p .str out.1, .p I6 out.2] } := by
  refine cok_of_wp Tryd.func42 rfl (k := 49) rfl (Nat.le_of_ble_eq_true rfl) (namesOk_pure rfl rfl rfl rfl) ?_
  intro B hN
  refine WpC.conv (Conv.keep (U := Un) (b := ⟨[(0, .p .str a0), (1, .p I6 a1)], []⟩) [0, 1] [] (by kernel_rfl)) ?_
  unfold quote_word.f at h
  refine WpC.seq ?_
  refine WpC.reg (U := Un) (st1 := ⟨[(0, .p .str a0), (1, .p I6 a1)], []⟩) [0, 1] [] hN (.cons (sok_move (U := Un) (rs := []) rfl (.inr rfl) (.str _ _)) (.cons (sok_move (U := Un) (rs := []) rfl (.inr rfl) (.int _ _ _)) .nil)) (by kernel_rfl) (by kernel_rfl) (by kernel_rfl) (Conv.refl (U := Un) _) ?_
  refine thenQ_normal ?_
  refine WpC.seq ?_
  refine WpC.reg (U := Un) (st1 := ⟨[(0, .p .str a0), (1, .p I6 a1), (6, .lit (.slice none 0 0))], []⟩) [0, 1, 6] [] hN (.cons (sok_move (U := Un) (rs := []) rfl (.inr rfl) (.lit _ _ rfl)) .nil) (by kernel_rfl) (by kernel_rfl) (by kernel_rfl) (Conv.refl (U := Un) _) ?_
  refine thenQ_normal ?_
  refine WpC.seqJ (U := Un) (fun st' => ∃ v1 : Int, ∃ v2 : List Int, quote_word.j3 k v1 v2 = some out ∧ st' = ⟨[(1, .p I6 v1), (6, .vec 1006 1 0 v2.length)], [(1006, .row 5 (.int .u8) v2 false)]⟩) ?_ ?_
  · refine WpC.block ?_
    obtain ⟨o9, hlo9, h⟩ := bind_some h
    have hout10 := h
    clear h
    refine WpC.conv (Conv.trans (U := Un) (Conv.thaw (U := Un) 6 1006 5 (.int .u8) (.tail _ (.tail _ (.head _))) (by kernel_rfl) (by unfold K0; omega)) (Conv.keep (U := Un) (b := ⟨[(0, .p .str a0), (1, .p I6 a1), (6, .vec 1006 1 0 0)], [(1006, .row 5 (.int .u8) [] false)]⟩) [0, 1, 6] [1006] (by kernel_rfl))) ?_
    refine WpC.loop (U := Un) (fun n st' => ∃ v4 : Int, ∃ v5 : List Int, quote_word.l6 k a0 n v4 v5 = some o9 ∧ st' = ⟨[(0, .p .str a0), (1, .p I6 v4), (6, .vec 1006 1 0 v5.length)], [(1006, .row 5 (.int .u8) v5 false)]⟩) k ⟨a1, [], hlo9, rfl⟩ ?_
    clear hlo9
    rintro (_ | n) _ ⟨v4, v5, h, rfl⟩
    · cases h
    · rw [quote_word.l6] at h
      refine WpC.seqJ (U := Un) (fun st' => quote_word.j20 k (quote_word.l6 k a0 n) a0 v4 v5 = some o9 ∧ st' = ⟨[(0, .p .str a0), (1, .p I6 v4), (6, .vec 1006 1 0 v5.length)], [(1006, .row 5 (.int .u8) v5 false)]⟩) ?_ ?_
      · refine WpC.seqJ (U := Un) (fun st' => ∃ v21 : Bool, quote_word.j23 k (quote_word.l6 k a0 n) a0 v4 v5 v21 = some o9 ∧ st' = ⟨[(0, .p .str a0), (1, .p I6 v4), (6, .vec 1006 1 0 v5.length), (18, .p .bool v21)], [(1006, .row 5 (.int .u8) v5 false)]⟩) ?_ ?_
        · rcases bool_cases (decide (v4 < (a0.length : Int))) with hc24 | hc24
          · replace h := ite_t hc24 h
            obtain ⟨v25, hv25, h⟩ := bind_some h
            obtain ⟨v26, hv26, h⟩ := bind_some h
            refine WpC.reg (U := Un) (st1 := ⟨[(0, .p .str a0), (1, .p I6 v4), (6, .vec 1006 1 0 v5.length), (18, .p .bool ((!v26) : Bool))], [(1006, .row 5 (.int .u8) v5 false)]⟩) [0, 1, 6, 18] [1006] hN (.cons (mv (U := Un) (v := .p I6 v4) rfl rfl) (.cons (mv (U := Un) (v := .p .str a0) rfl rfl) (.cons (sok_lenS (U := Un) (rs := [(9, .p .str a0)]) rfl rfl Tryd.underlying9 o0) (.cons (sok_cmp (U := Un) (rs := [(8, .p I6 v4), (10, .p I6 ((a0.length : Int) : Int))]) rfl rfl o0 o1 rfl) (.cons (mv (U := Un) (v := .p .bool ((decide (v4 < (a0.length : Int))) : Bool)) rfl rfl) (.cons (sok_run rfl rfl hc24 (mv (U := Un) (v := .p .str a0) rfl rfl)) (.cons (sok_run rfl rfl hc24 (mv (U := Un) (v := .p I6 v4) rfl rfl)) (.cons (sok_run rfl rfl hc24 (sok_indexS (U := Un) (rs := [(13, .p .str a0), (14, .p I6 v4)]) rfl rfl Tryd.underlying9 o0 o1 hv25)) (.cons (sok_run rfl rfl hc24 (sok_callV (U := Un) (rs := [(15, .p (.int .u8) ((v25.toNat : Int) : Int))]) (vw := []) rfl rfl (.func _) hb_46 (quote_Blank.ok O hO k (v25.toNat : Int) v26 hv26) (.cons o0 .nil) (.cons (.same _) .nil) (by simp) (.inl rfl))) (.cons (sok_run rfl rfl hc24 (sok_not (U := Un) (rs := [(16, .p .bool v26)]) rfl rfl o0)) (.cons (sok_pickT (U := Un) (rs := [(12, .p .bool ((decide (v4 < (a0.length : Int))) : Bool)), (17, .p .bool ((!v26) : Bool))]) rfl rfl o0 hc24 o1) .nil))))))))))) (by kernel_rfl) (by kernel_rfl) (by kernel_rfl) (Conv.refl (U := Un) _) ?_
            refine thenQ_normal ?_
            exact ⟨(!v26), h, rfl⟩
          · replace h := ite_f hc24 h
            refine WpC.reg (U := Un) (st1 := ⟨[(0, .p .str a0), (1, .p I6 v4), (6, .vec 1006 1 0 v5.length), (18, .p .bool false)], [(1006, .row 5 (.int .u8) v5 false)]⟩) [0, 1, 6, 18] [1006] hN (.cons (mv (U := Un) (v := .p I6 v4) rfl rfl) (.cons (mv (U := Un) (v := .p .str a0) rfl rfl) (.cons (sok_lenS (U := Un) (rs := [(9, .p .str a0)]) rfl rfl Tryd.underlying9 o0) (.cons (sok_cmp (U := Un) (rs := [(8, .p I6 v4), (10, .p I6 ((a0.length : Int) : Int))]) rfl rfl o0 o1 rfl) (.cons (mv (U := Un) (v := .p .bool ((decide (v4 < (a0.length : Int))) : Bool)) rfl rfl) (.cons (sok_skip rfl rfl hc24) (.cons (sok_skip rfl rfl hc24) (.cons (sok_skip rfl rfl hc24) (.cons (sok_skip rfl rfl hc24) (.cons (sok_skip rfl rfl hc24) (.cons (sok_pickF (U := Un) (rs := [(12, .p .bool ((decide (v4 < (a0.length : Int))) : Bool))]) rfl rfl o0 hc24 (.bool _ _)) .nil))))))))))) (by kernel_rfl) (by kernel_rfl) (by kernel_rfl) (Conv.refl (U := Un) _) ?_
            refine thenQ_normal ?_
            exact ⟨false, h, rfl⟩
        · rintro _ ⟨v21, h, rfl⟩
          unfold quote_word.j23 at h
          refine WpC.cond (U := Un) (b := v21) (.tmp (.tail _ (.tail _ (.tail _ (.head _))))) (fun hc22 => ?_) (fun hc22 => ?_)
          · replace h := ite_t hc22 h
            refine WpC.conv (Conv.keep (U := Un) (b := ⟨[(0, .p .str a0), (1, .p I6 v4), (6, .vec 1006 1 0 v5.length)], [(1006, .row 5 (.int .u8) v5 false)]⟩) [0, 1, 6] [1006] (by kernel_rfl)) (WpC.skip ?_)
            refine thenQ_normal ?_
            exact ⟨h, rfl⟩
          · replace h := ite_f hc22 h
            refine WpC.conv (Conv.keep (U := Un) (b := ⟨[(1, .p I6 v4), (6, .vec 1006 1 0 v5.length)], [(1006, .row 5 (.int .u8) v5 false)]⟩) [1, 6] [1006] (by kernel_rfl)) (WpC.exit ?_)
            refine thenQ_exit ?_
            have hq := Option.some.inj h
            subst hq
            refine thenQ_exit ?_
            have h := hout10
            refine blockQ_hit ?_
            refine thenQ_normal ?_
            exact ⟨v4, v5, h, rfl⟩
      · rintro _ ⟨h, rfl⟩
        unfold quote_word.j20 at h
        refine WpC.block ?_
        refine WpC.seq ?_
        refine WpC.seq ?_
        obtain ⟨v11, hv11, h⟩ := bind_some h
        refine WpC.reg (U := Un) (st1 := ⟨[(0, .p .str a0), (1, .p I6 v4), (6, .vec 1006 1 0 v5.length), (22, .p .bool (((v11.toNat : Int) != 39) : Bool))], [(1006, .row 5 (.int .u8) v5 false)]⟩) [0, 1, 6, 22] [1006] hN (.cons (mv (U := Un) (v := .p .str a0) rfl rfl) (.cons (mv (U := Un) (v := .p I6 v4) rfl rfl) (.cons (sok_indexS (U := Un) (rs := [(19, .p .str a0), (20, .p I6 v4)]) rfl rfl Tryd.underlying9 o0 o1 hv11) (.cons (sok_cmp (U := Un) (rs := [(21, .p (.int .u8) ((v11.toNat : Int) : Int))]) rfl rfl o0 (.int _ _ _) rfl) .nil)))) (by kernel_rfl) (by kernel_rfl) (by kernel_rfl) (Conv.refl (U := Un) _) ?_
        refine thenQ_normal ?_
        refine WpC.cond (U := Un) (b := ((v11.toNat : Int) != 39)) (.tmp (.tail _ (.tail _ (.tail _ (.head _))))) (fun hc12 => ?_) (fun hc12 => ?_)
        · replace h := ite_t hc12 h
          refine WpC.seq ?_
          obtain ⟨v13, hv13, h⟩ := bind_some h
          obtain ⟨g14, h⟩ := if_some h
          refine WpC.reg (U := Un) (st1 := ⟨[(0, .p .str a0), (1, .p I6 v4), (6, .vec 28 1 0 ((v5 ++ [(v13.toNat : Int)]).length))], [(28, .row 5 (.int .u8) (v5 ++ [(v13.toNat : Int)]) false)]⟩) [0, 1, 6] [28] hN (.cons (mv (U := Un) (v := .vec 1006 1 0 v5.length) rfl rfl) (.cons (mv (U := Un) (v := .p .str a0) rfl rfl) (.cons (mv (U := Un) (v := .p I6 v4) rfl rfl) (.cons (sok_indexS (U := Un) (rs := [(24, .p .str a0), (25, .p I6 v4)]) rfl rfl Tryd.underlying9 o0 o1 hv13) (.cons (sok_buildSlice (U := Un) (t := .int .u8) (rs := [(26, .p (.int .u8) ((v13.toNat : Int) : Int))]) (ys := [.tmp 26]) (xs := [(v13.toNat : Int)]) rfl rfl rfl rfl row_99 (.cons o0 .nil) (by decide)) (.cons (sok_append' (U := Un) (t := .int .u8) (rs := [(23, .vec 1006 1 0 v5.length), (27, .vec 27 1 0 ([(v13.toNat : Int)].length))]) (vw := [(27, .row 5 (.int .u8) [(v13.toNat : Int)] true)]) (xs := v5) (ys := [(v13.toNat : Int)]) (fx := false) rfl rfl rfl row_99 (by decide) o0 o1 (.whole (.head _)) (by simp) g14) (.cons (mva (U := Un) (v := .vec 28 1 0 ((v5 ++ [(v13.toNat : Int)]).length)) rfl rfl) .nil))))))) (by kernel_rfl) (by kernel_rfl) (by kernel_rfl) (Conv.refl (U := Un) _) ?_
          refine thenQ_normal ?_
          refine WpC.seq ?_
          refine WpC.reg (U := Un) (st1 := ⟨[(0, .p .str a0), (1, .p I6 ((IntKind.i64.wrap (v4 + 1)) : Int)), (6, .vec 28 1 0 ((v5 ++ [(v13.toNat : Int)]).length))], [(28, .row 5 (.int .u8) (v5 ++ [(v13.toNat : Int)]) false)]⟩) [0, 1, 6] [28] hN (.cons (mv (U := Un) (v := .p I6 v4) rfl rfl) (.cons (sok_arith (U := Un) (rs := [(29, .p I6 v4)]) rfl rfl o0 (.int _ _ _) rfl) (.cons (mva (U := Un) (v := .p I6 ((IntKind.i64.wrap (v4 + 1)) : Int)) rfl rfl) .nil))) (by kernel_rfl) (by kernel_rfl) (by kernel_rfl) (Conv.refl (U := Un) _) ?_
          refine thenQ_normal ?_
          refine WpC.conv (Conv.trans (U := Un) (Conv.ren (U := Un) (st' := ⟨[(0, .p .str a0), (1, .p I6 ((IntKind.i64.wrap (v4 + 1)) : Int)), (6, .vec 1006 1 0 ((v5 ++ [(v13.toNat : Int)]).length))], [(1006, .row 5 (.int .u8) (v5 ++ [(v13.toNat : Int)]) false)]⟩) 28 1006 (by unfold K0; omega) (by kernel_rfl) (by kernel_rfl) (by kernel_rfl)) (Conv.keep (U := Un) (b := ⟨[(0, .p .str a0), (1, .p I6 ((IntKind.i64.wrap (v4 + 1)) : Int)), (6, .vec 1006 1 0 ((v5 ++ [(v13.toNat : Int)]).length))], [(1006, .row 5 (.int .u8) (v5 ++ [(v13.toNat : Int)]) false)]⟩) [0, 1, 6] [1006] (by kernel_rfl))) (WpC.exit ?_)
          refine thenQ_exit ?_
          refine blockQ_hit ?_
          refine thenQ_normal ?_
          exact ⟨n, Nat.lt_succ_self n, (IntKind.i64.wrap (v4 + 1)), (v5 ++ [(v13.toNat : Int)]), h, rfl⟩
        · replace h := ite_f hc12 h
          refine WpC.conv (Conv.keep (U := Un) (b := ⟨[(0, .p .str a0), (1, .p I6 v4), (6, .vec 1006 1 0 v5.length)], [(1006, .row 5 (.int .u8) v5 false)]⟩) [0, 1, 6] [1006] (by kernel_rfl)) (WpC.skip ?_)
          refine thenQ_normal ?_
          refine WpC.seq ?_
          obtain ⟨v15, hv15, h⟩ := bind_some h
          refine WpC.reg (U := Un) (st1 := ⟨[(0, .p .str a0), (1, .p I6 v4), (6, .vec 1006 1 0 v5.length), (7, .p I6 v15)], [(1006, .row 5 (.int .u8) v5 false)]⟩) [0, 1, 6, 7] [1006] hN (.cons (mv (U := Un) (v := .p .str a0) rfl rfl) (.cons (mv (U := Un) (v := .p I6 v4) rfl rfl) (.cons (sok_callV (U := Un) (rs := [(31, .p .str a0), (32, .p I6 v4)]) (vw := []) rfl rfl (.func _) hb_60 (quote_End.ok O hO k a0 v4 v15 hv15) (.cons o0 (.cons o1 .nil)) (.cons (.same _) (.cons (.same _) .nil)) (by simp) (.inl rfl)) (.cons (mva (U := Un) (v := .p I6 v15) rfl rfl) .nil)))) (by kernel_rfl) (by kernel_rfl) (by kernel_rfl) (Conv.refl (U := Un) _) ?_
          refine thenQ_normal ?_
          refine WpC.seq ?_
          refine WpC.seq ?_
          refine WpC.reg (U := Un) (st1 := ⟨[(0, .p .str a0), (1, .p I6 v4), (6, .vec 1006 1 0 v5.length), (7, .p I6 v15), (35, .p .bool ((decide (v15 < 0)) : Bool))], [(1006, .row 5 (.int .u8) v5 false)]⟩) [0, 1, 6, 7, 35] [1006] hN (.cons (mv (U := Un) (v := .p I6 v15) rfl rfl) (.cons (sok_cmp (U := Un) (rs := [(34, .p I6 v15)]) rfl rfl o0 (.int _ _ _) rfl) .nil)) (by kernel_rfl) (by kernel_rfl) (by kernel_rfl) (Conv.refl (U := Un) _) ?_
          refine thenQ_normal ?_
          refine WpC.cond (U := Un) (b := (decide (v15 < 0))) (.tmp (.tail _ (.tail _ (.tail _ (.tail _ (.head _)))))) (fun hc16 => ?_) (fun hc16 => ?_)
          · replace h := ite_t hc16 h
            refine WpC.seq ?_
            refine WpC.reg (U := Un) (st1 := ⟨[(4, .p .str (([] : List UInt8) : List UInt8)), (5, .p I6 ((-1) : Int))], []⟩) [4, 5] [] hN (.cons (sok_move (U := Un) (rs := []) rfl (.inr rfl) (.str _ _)) (.cons (sok_move (U := Un) (rs := []) rfl (.inr rfl) (.int _ _ _)) .nil)) (by kernel_rfl) (by kernel_rfl) (by kernel_rfl) (Conv.refl (U := Un) _) ?_
            refine thenQ_normal ?_
            refine WpC.ret ?_
            refine thenQ_ret ?_
            refine blockQ_ret ?_
            have hq := Option.some.inj h
            subst hq
            refine thenQ_ret ?_
            have h := hout10
            refine blockQ_ret ?_
            refine thenQ_ret ?_
            have hq := Option.some.inj h
            subst hq
            exact ends_ret (retV_2 rfl (.head _) (.tail _ (.head _))) ain_nil
          · replace h := ite_f hc16 h
            refine WpC.conv (Conv.keep (U := Un) (b := ⟨[(0, .p .str a0), (1, .p I6 v4), (6, .vec 1006 1 0 v5.length), (7, .p I6 v15)], [(1006, .row 5 (.int .u8) v5 false)]⟩) [0, 1, 6, 7] [1006] (by kernel_rfl)) (WpC.skip ?_)
            refine thenQ_normal ?_
            refine WpC.seq ?_
            obtain ⟨v17, hv17, h⟩ := bind_some h
            obtain ⟨v18, hv18, h⟩ := bind_some h
            obtain ⟨g19, h⟩ := if_some h
            refine WpC.reg (U := Un) (st1 := ⟨[(0, .p .str a0), (6, .vec 44 1 0 ((v5 ++ numsOf v18).length)), (7, .p I6 v15)], [(44, .row 5 (.int .u8) (v5 ++ numsOf v18) false)]⟩) [0, 6, 7] [44] hN (.cons (mv (U := Un) (v := .vec 1006 1 0 v5.length) rfl rfl) (.cons (mv (U := Un) (v := .p .str a0) rfl rfl) (.cons (mv (U := Un) (v := .p I6 v4) rfl rfl) (.cons (sok_arith (U := Un) (rs := [(38, .p I6 v4)]) rfl rfl o0 (.int _ _ _) rfl) (.cons (mv (U := Un) (v := .p I6 v15) rfl rfl) (.cons (sok_arith (U := Un) (rs := [(40, .p I6 v15)]) rfl rfl o0 (.int _ _ _) rfl) (.cons (sok_sliceS (U := Un) (rs := [(37, .p .str a0), (39, .p I6 ((IntKind.i64.wrap (v4 + 1)) : Int)), (41, .p I6 ((IntKind.i64.wrap (v15 - 1)) : Int))]) rfl rfl Tryd.underlying9 o0 (.at o1) (.at (.tmp (.tail _ (.tail _ (.head _))))) hv17) (.cons (sok_call (U := Un) (rs := [(42, .p .str v17)]) (vw := []) rfl rfl hb_61 (pReplaceAll.ok O hO k v17 ([39, 39] : List UInt8) ([39] : List UInt8) v18 hv18) (.cons o0 (.cons (.str _ _) (.cons (.str _ _) .nil))) (.cons (.same _) (.cons (.same _) (.cons (.same _) .nil))) (by simp) (.inl rfl)) (.cons (sok_appendS (U := Un) (rs := [(36, .vec 1006 1 0 v5.length), (43, .p .str v18)]) (xs := v5) (s := v18) (fx := false) rfl rfl rfl row_99 z8_5 Tryd.underlying9 o0 o1 g19) (.cons (mva (U := Un) (v := .vec 44 1 0 ((v5 ++ numsOf v18).length)) rfl rfl) .nil)))))))))) (by kernel_rfl) (by kernel_rfl) (by kernel_rfl) (Conv.refl (U := Un) _) ?_
            refine thenQ_normal ?_
            refine WpC.reg (U := Un) (st1 := ⟨[(0, .p .str a0), (1, .p I6 v15), (6, .vec 44 1 0 ((v5 ++ numsOf v18).length))], [(44, .row 5 (.int .u8) (v5 ++ numsOf v18) false)]⟩) [0, 1, 6] [44] hN (.cons (mv (U := Un) (v := .p I6 v15) rfl rfl) (.cons (mva (U := Un) (v := .p I6 v15) rfl rfl) .nil)) (by kernel_rfl) (by kernel_rfl) (by kernel_rfl) (Conv.trans (U := Un) (Conv.ren (U := Un) (st' := ⟨[(0, .p .str a0), (1, .p I6 v15), (6, .vec 1006 1 0 ((v5 ++ numsOf v18).length))], [(1006, .row 5 (.int .u8) (v5 ++ numsOf v18) false)]⟩) 44 1006 (by unfold K0; omega) (by kernel_rfl) (by kernel_rfl) (by kernel_rfl)) (Conv.keep (U := Un) (b := ⟨[(0, .p .str a0), (1, .p I6 v15), (6, .vec 1006 1 0 ((v5 ++ numsOf v18).length))], [(1006, .row 5 (.int .u8) (v5 ++ numsOf v18) false)]⟩) [0, 1, 6] [1006] (by kernel_rfl))) ?_
            refine blockQ_normal ?_
            refine thenQ_normal ?_
            exact ⟨n, Nat.lt_succ_self n, v15, (v5 ++ numsOf v18), h, rfl⟩
  · rintro _ ⟨v1, v2, h, rfl⟩
    unfold quote_word.j3 at h
    refine WpC.seq ?_
    refine WpC.reg (U := Un) (st1 := ⟨[(4, .p .str ((txtOf v2) : List UInt8)), (5, .p I6 v1)], []⟩) [4, 5] [] hN (.cons (mv (U := Un) (v := .vec 1006 1 0 v2.length) rfl rfl) (.cons (sok_strOf (U := Un) (rs := [(46, .vec 1006 1 0 v2.length)]) (xs := v2) (fx := false) rfl rfl Tryd.underlying99 Tryd.underlying5 Tryd.underlying9 o0) (.cons (mv (U := Un) (v := .p I6 v1) rfl rfl) (.cons (mva (U := Un) (v := .p .str ((txtOf v2) : List UInt8)) rfl rfl) (.cons (mva (U := Un) (v := .p I6 v1) rfl rfl) .nil))))) (by kernel_rfl) (by kernel_rfl) (by kernel_rfl) (Conv.refl (U := Un) _) ?_
    refine thenQ_normal ?_
    refine WpC.ret ?_
    have hq := Option.some.inj h
    subst hq
    exact ends_ret (retV_2 rfl (.head _) (.tail _ (.head _))) ain_nil

theorem quote_Split.ok (O : Out) (hO : GOkQ O) (k : Nat) (a0 : List UInt8) (out : (List (List UInt8)) × Nat) (h : quote_Split.f k a0 = some out) : COk Un O Tryd.prog 10 { ar := [.p .str a0], r := .tup [.p (.list .str) out.1, .p .err out.2] } := by
  refine cok_of_wp Tryd.func10 rfl (k := 31) rfl (Nat.le_of_ble_eq_true rfl) (namesOk_pure rfl rfl rfl rfl) ?_
  intro B hN
  refine WpC.conv (Conv.keep (U := Un) (b := ⟨[(0, .p .str a0)], []⟩) [0] [] (by kernel_rfl)) ?_
  unfold quote_Split.f at h
  refine WpC.seq ?_
  refine WpC.reg (U := Un) (st1 := ⟨[(0, .p .str a0)], []⟩) [0] [] hN (.cons (sok_move (U := Un) (rs := []) rfl (.inr rfl) (.lit _ _ rfl)) (.cons (sok_move (U := Un) (rs := []) rfl (.inr rfl) (.lit _ _ rfl)) .nil)) (by kernel_rfl) (by kernel_rfl) (by kernel_rfl) (Conv.refl (U := Un) _) ?_
  refine thenQ_normal ?_
  refine WpC.seq ?_
  refine WpC.reg (U := Un) (st1 := ⟨[(0, .p .str a0), (4, .lit (.slice none 0 0))], []⟩) [0, 4] [] hN (.cons (sok_move (U := Un) (rs := []) rfl (.inr rfl) (.lit _ _ rfl)) .nil) (by kernel_rfl) (by kernel_rfl) (by kernel_rfl) (Conv.refl (U := Un) _) ?_
  refine thenQ_normal ?_
  refine WpC.seqJ (U := Un) (fun st' => ∃ v1 : List (List UInt8), quote_Split.j2 k v1 = some out ∧ st' = ⟨[(4, .vec 1004 1 0 v1.length)], [(1004, .row 9 .str v1 false)]⟩) ?_ ?_
  · refine WpC.seq ?_
    obtain ⟨v3, hv3, h⟩ := bind_some h
    refine WpC.reg (U := Un) (st1 := ⟨[(0, .p .str a0), (4, .lit (.slice none 0 0)), (5, .p I6 v3)], []⟩) [0, 4, 5] [] hN (.cons (mv (U := Un) (v := .p .str a0) rfl rfl) (.cons (sok_callV (U := Un) (rs := [(8, .p .str a0)]) (vw := []) rfl rfl (.func _) hb_41 (quote_skip.ok O hO k a0 0 v3 hv3) (.cons o0 (.cons (.int _ _ _) .nil)) (.cons (.same _) (.cons (.same _) .nil)) (by simp) (.inl rfl)) (.cons (mva (U := Un) (v := .p I6 v3) rfl rfl) .nil))) (by kernel_rfl) (by kernel_rfl) (by kernel_rfl) (Conv.refl (U := Un) _) ?_
    refine thenQ_normal ?_
    refine WpC.block ?_
    obtain ⟨o8, hlo8, h⟩ := bind_some h
    have hout9 := h
    clear h
    refine WpC.conv (Conv.trans (U := Un) (Conv.thaw (U := Un) 4 1004 9 .str (.tail _ (.head _)) (by kernel_rfl) (by unfold K0; omega)) (Conv.keep (U := Un) (b := ⟨[(0, .p .str a0), (4, .vec 1004 1 0 0), (5, .p I6 v3)], [(1004, .row 9 .str [] false)]⟩) [0, 4, 5] [1004] (by kernel_rfl))) ?_
    refine WpC.loop (U := Un) (fun n st' => ∃ v4 : List (List UInt8), ∃ v5 : Int, quote_Split.l6 k a0 n v4 v5 = some o8 ∧ st' = ⟨[(0, .p .str a0), (4, .vec 1004 1 0 v4.length), (5, .p I6 v5)], [(1004, .row 9 .str v4 false)]⟩) k ⟨[], v3, hlo8, rfl⟩ ?_
    clear hlo8
    rintro (_ | n) _ ⟨v4, v5, h, rfl⟩
    · cases h
    · rw [quote_Split.l6] at h
      refine WpC.seq ?_
      refine WpC.seq ?_
      refine WpC.reg (U := Un) (st1 := ⟨[(0, .p .str a0), (4, .vec 1004 1 0 v4.length), (5, .p I6 v5), (13, .p .bool ((decide (v5 < (a0.length : Int))) : Bool))], [(1004, .row 9 .str v4 false)]⟩) [0, 4, 5, 13] [1004] hN (.cons (mv (U := Un) (v := .p I6 v5) rfl rfl) (.cons (mv (U := Un) (v := .p .str a0) rfl rfl) (.cons (sok_lenS (U := Un) (rs := [(11, .p .str a0)]) rfl rfl Tryd.underlying9 o0) (.cons (sok_cmp (U := Un) (rs := [(10, .p I6 v5), (12, .p I6 ((a0.length : Int) : Int))]) rfl rfl o0 o1 rfl) .nil)))) (by kernel_rfl) (by kernel_rfl) (by kernel_rfl) (Conv.refl (U := Un) _) ?_
      refine thenQ_normal ?_
      refine WpC.cond (U := Un) (b := (decide (v5 < (a0.length : Int)))) (.tmp (.tail _ (.tail _ (.tail _ (.head _))))) (fun hc10 => ?_) (fun hc10 => ?_)
      · replace h := ite_t hc10 h
        refine WpC.conv (Conv.keep (U := Un) (b := ⟨[(0, .p .str a0), (4, .vec 1004 1 0 v4.length), (5, .p I6 v5)], [(1004, .row 9 .str v4 false)]⟩) [0, 4, 5] [1004] (by kernel_rfl)) (WpC.skip ?_)
        refine thenQ_normal ?_
        refine WpC.block ?_
        refine WpC.seq ?_
        obtain ⟨v11, hv11, h⟩ := bind_some h
        refine WpC.reg (U := Un) (st1 := ⟨[(0, .p .str a0), (4, .vec 1004 1 0 v4.length), (6, .p .str v11.1), (7, .p I6 v11.2)], [(1004, .row 9 .str v4 false)]⟩) [0, 4, 6, 7] [1004] hN (.cons (mv (U := Un) (v := .p .str a0) rfl rfl) (.cons (mv (U := Un) (v := .p I6 v5) rfl rfl) (.cons (sok_callV (U := Un) (rs := [(15, .p .str a0), (16, .p I6 v5)]) (vw := []) rfl rfl (.func _) hb_42 (quote_word.ok O hO k a0 v5 v11 hv11) (.cons o0 (.cons o1 .nil)) (.cons (.same _) (.cons (.same _) .nil)) (by simp) (.inl rfl)) (.cons (mv (U := Un) (v := .tup [.p .str v11.1, .p I6 v11.2]) rfl rfl) (.cons (sok_extract (U := Un) (rs := [(14, .tup [.p .str v11.1, .p I6 v11.2])]) rfl rfl o0 rfl) (.cons (sok_extract (U := Un) (rs := [(14, .tup [.p .str v11.1, .p I6 v11.2])]) rfl rfl o0 rfl) (.cons (mva (U := Un) (v := .p .str v11.1) rfl rfl) (.cons (mva (U := Un) (v := .p I6 v11.2) rfl rfl) .nil)))))))) (by kernel_rfl) (by kernel_rfl) (by kernel_rfl) (Conv.refl (U := Un) _) ?_
        refine thenQ_normal ?_
        refine WpC.seq ?_
        refine WpC.seq ?_
        refine WpC.reg (U := Un) (st1 := ⟨[(0, .p .str a0), (4, .vec 1004 1 0 v4.length), (6, .p .str v11.1), (7, .p I6 v11.2), (21, .p .bool ((decide (v11.2 < 0)) : Bool))], [(1004, .row 9 .str v4 false)]⟩) [0, 4, 6, 7, 21] [1004] hN (.cons (mv (U := Un) (v := .p I6 v11.2) rfl rfl) (.cons (sok_cmp (U := Un) (rs := [(20, .p I6 v11.2)]) rfl rfl o0 (.int _ _ _) rfl) .nil)) (by kernel_rfl) (by kernel_rfl) (by kernel_rfl) (Conv.refl (U := Un) _) ?_
        refine thenQ_normal ?_
        refine WpC.cond (U := Un) (b := (decide (v11.2 < 0))) (.tmp (.tail _ (.tail _ (.tail _ (.tail _ (.head _)))))) (fun hc12 => ?_) (fun hc12 => ?_)
        · replace h := ite_t hc12 h
          refine WpC.seq ?_
          refine WpC.regA (U := Un) (st1 := ⟨[(2, .lit (.slice none 0 0)), (3, .p .err (5 : Nat))], []⟩) [2, 3] [] [[], [], [0, 1]] mixed hN (.cons (sok_loadG (U := Un) (t := .err) (rs := []) rfl rfl ty_27 rfl rfl (hO.var 4 0 rfl) (fun S w => .err 4)) (.cons (sok_move (U := Un) (rs := []) rfl (.inr rfl) (.lit _ _ rfl)) (.cons (mva (U := Un) (v := .p .err (5 : Nat)) rfl rfl) .nil))) (by kernel_rfl) (by kernel_rfl) (by kernel_rfl) (by kernel_rfl) (by kernel_rfl) (Conv.refl (U := Un) _) ?_
          refine thenQ_normal ?_
          refine WpC.conv (Conv.trans (U := Un) (Conv.nilL (U := Un) 2 .str (.head _)) (Conv.keep (U := Un) (b := ⟨[(2, .p (.list .str) ([] : List (List UInt8))), (3, .p .err (5 : Nat))], []⟩) [2, 3] [] (by kernel_rfl))) (WpC.ret ?_)
          refine thenQ_ret ?_
          refine blockQ_ret ?_
          have hq := Option.some.inj h
          subst hq
          refine thenQ_ret ?_
          have h := hout9
          refine blockQ_ret ?_
          refine thenQ_ret ?_
          have hq := Option.some.inj h
          subst hq
          exact ends_ret (retV_2 rfl (.head _) (.tail _ (.head _))) ain_nil
        · replace h := ite_f hc12 h
          refine WpC.conv (Conv.keep (U := Un) (b := ⟨[(0, .p .str a0), (4, .vec 1004 1 0 v4.length), (6, .p .str v11.1), (7, .p I6 v11.2)], [(1004, .row 9 .str v4 false)]⟩) [0, 4, 6, 7] [1004] (by kernel_rfl)) (WpC.skip ?_)
          refine thenQ_normal ?_
          refine WpC.seq ?_
          obtain ⟨g13, h⟩ := if_some h
          refine WpC.reg (U := Un) (st1 := ⟨[(0, .p .str a0), (4, .vec 26 1 0 ((v4 ++ [v11.1]).length)), (7, .p I6 v11.2)], [(26, .row 9 .str (v4 ++ [v11.1]) false)]⟩) [0, 4, 7] [26] hN (.cons (mv (U := Un) (v := .vec 1004 1 0 v4.length) rfl rfl) (.cons (mv (U := Un) (v := .p .str v11.1) rfl rfl) (.cons (sok_buildSlice (U := Un) (t := .str) (rs := [(24, .p .str v11.1)]) (ys := [.tmp 24]) (xs := [v11.1]) rfl rfl rfl rfl row_22 (.cons o0 .nil) (by decide)) (.cons (sok_append' (U := Un) (t := .str) (rs := [(23, .vec 1004 1 0 v4.length), (25, .vec 25 1 0 ([v11.1].length))]) (vw := [(25, .row 9 .str [v11.1] true)]) (xs := v4) (ys := [v11.1]) (fx := false) rfl rfl rfl row_22 (by decide) o0 o1 (.whole (.head _)) (by simp) g13) (.cons (mva (U := Un) (v := .vec 26 1 0 ((v4 ++ [v11.1]).length)) rfl rfl) .nil))))) (by kernel_rfl) (by kernel_rfl) (by kernel_rfl) (Conv.refl (U := Un) _) ?_
          refine thenQ_normal ?_
          obtain ⟨v14, hv14, h⟩ := bind_some h
          refine WpC.reg (U := Un) (st1 := ⟨[(0, .p .str a0), (4, .vec 26 1 0 ((v4 ++ [v11.1]).length)), (5, .p I6 v14)], [(26, .row 9 .str (v4 ++ [v11.1]) false)]⟩) [0, 4, 5] [26] hN (.cons (mv (U := Un) (v := .p .str a0) rfl rfl) (.cons (mv (U := Un) (v := .p I6 v11.2) rfl rfl) (.cons (sok_callV (U := Un) (rs := [(27, .p .str a0), (28, .p I6 v11.2)]) (vw := []) rfl rfl (.func _) hb_41 (quote_skip.ok O hO k a0 v11.2 v14 hv14) (.cons o0 (.cons o1 .nil)) (.cons (.same _) (.cons (.same _) .nil)) (by simp) (.inl rfl)) (.cons (mva (U := Un) (v := .p I6 v14) rfl rfl) .nil)))) (by kernel_rfl) (by kernel_rfl) (by kernel_rfl) (Conv.trans (U := Un) (Conv.ren (U := Un) (st' := ⟨[(0, .p .str a0), (4, .vec 1004 1 0 ((v4 ++ [v11.1]).length)), (5, .p I6 v14)], [(1004, .row 9 .str (v4 ++ [v11.1]) false)]⟩) 26 1004 (by unfold K0; omega) (by kernel_rfl) (by kernel_rfl) (by kernel_rfl)) (Conv.keep (U := Un) (b := ⟨[(0, .p .str a0), (4, .vec 1004 1 0 ((v4 ++ [v11.1]).length)), (5, .p I6 v14)], [(1004, .row 9 .str (v4 ++ [v11.1]) false)]⟩) [0, 4, 5] [1004] (by kernel_rfl))) ?_
          refine blockQ_normal ?_
          refine thenQ_normal ?_
          exact ⟨n, Nat.lt_succ_self n, (v4 ++ [v11.1]), v14, h, rfl⟩
      · replace h := ite_f hc10 h
        refine WpC.conv (Conv.keep (U := Un) (b := ⟨[(4, .vec 1004 1 0 v4.length)], [(1004, .row 9 .str v4 false)]⟩) [4] [1004] (by kernel_rfl)) (WpC.exit ?_)
        refine thenQ_exit ?_
        have hq := Option.some.inj h
        subst hq
        refine thenQ_exit ?_
        have h := hout9
        refine blockQ_hit ?_
        refine thenQ_normal ?_
        exact ⟨v4, h, rfl⟩
  · rintro _ ⟨v1, h, rfl⟩
    unfold quote_Split.j2 at h
    refine WpC.seq ?_
    refine WpC.reg (U := Un) (st1 := ⟨[(2, .vec 1004 1 0 v1.length), (3, .lit .nilIface)], [(1004, .row 9 .str v1 false)]⟩) [2, 3] [1004] hN (.cons (mv (U := Un) (v := .vec 1004 1 0 v1.length) rfl rfl) (.cons (mva (U := Un) (v := .vec 1004 1 0 v1.length) rfl rfl) (.cons (sok_move (U := Un) (rs := []) rfl (.inr rfl) (.lit _ _ rfl)) .nil))) (by kernel_rfl) (by kernel_rfl) (by kernel_rfl) (Conv.refl (U := Un) _) ?_
    refine thenQ_normal ?_
    refine WpC.conv (Conv.trans (U := Un) (Conv.freeze (U := Un) 2 1004 9 _ .str v1 false (.head _) (by first | rfl | (simp only [upd_length, List.length_replicate, List.length_append]; done) | (simp only [upd_length, List.length_replicate, List.length_append] at *; omega) | omega) (.head _) (by simp [Blk.names])) (Conv.trans (U := Un) (Conv.keep (U := Un) (b := ⟨[(2, .p (.list .str) v1), (3, .lit .nilIface)], []⟩) [2, 3] [] (by kernel_rfl)) (Conv.trans (U := Un) (Conv.nilE (U := Un) 3 (.tail _ (.head _))) (Conv.keep (U := Un) (b := ⟨[(2, .p (.list .str) v1), (3, .p .err (0 : Nat))], []⟩) [2, 3] [] (by kernel_rfl))))) (WpC.ret ?_)
    have hq := Option.some.inj h
    subst hq
    exact ends_ret (retV_2 rfl (.head _) (.tail _ (.head _))) ain_nil

theorem millwrightlaw11_alive.ok (O : Out) (hO : GOkQ O) (k : Nat) (out : Bool) (h : millwrightlaw11_alive.f k = some out) : COk Un O Tryd.prog 7 { ar := [], r := .p .bool out } := by
  refine cok_of_wp Tryd.func7 rfl (k := 26) rfl (Nat.le_of_ble_eq_true rfl) (namesOk_pure rfl rfl rfl rfl) ?_
  intro B hN
  refine WpC.conv (Conv.keep (U := Un) (b := ⟨[], []⟩) [] [] (by kernel_rfl)) ?_
  unfold millwrightlaw11_alive.f at h
  refine WpC.seq ?_
  refine WpC.reg (U := Un) (st1 := ⟨[], []⟩) [] [] hN (.cons (sok_move (U := Un) (rs := []) rfl (.inr rfl) (.bool _ _)) .nil) (by kernel_rfl) (by kernel_rfl) (by kernel_rfl) (Conv.refl (U := Un) _) ?_
  refine thenQ_normal ?_
  refine WpC.seq ?_
  obtain ⟨v1, hv1, h⟩ := bind_some h
  refine WpC.reg (U := Un) (st1 := ⟨[(1, .p (.list .str) v1.1), (2, .p .err v1.2)], []⟩) [1, 2] [] hN (.cons (sok_callV (U := Un) (rs := []) (vw := []) rfl rfl (.func _) hb_10 (quote_Split.ok O hO k ([39, 105, 116, 39, 39, 115, 39, 32, 104, 101, 114, 101] : List UInt8) v1 hv1) (.cons (.str _ _) .nil) (.cons (.same _) .nil) (by simp) (.inl rfl)) (.cons (mv (U := Un) (v := .tup [.p (.list .str) v1.1, .p .err v1.2]) rfl rfl) (.cons (sok_extract (U := Un) (rs := [(3, .tup [.p (.list .str) v1.1, .p .err v1.2])]) rfl rfl o0 rfl) (.cons (sok_extract (U := Un) (rs := [(3, .tup [.p (.list .str) v1.1, .p .err v1.2])]) rfl rfl o0 rfl) (.cons (mva (U := Un) (v := .p (.list .str) v1.1) rfl rfl) (.cons (mva (U := Un) (v := .p .err v1.2) rfl rfl) .nil)))))) (by kernel_rfl) (by kernel_rfl) (by kernel_rfl) (Conv.refl (U := Un) _) ?_
  refine thenQ_normal ?_
  refine WpC.seq ?_
  rcases bool_cases (v1.2 == 0) with hc2 | hc2
  · replace h := ite_t hc2 h
    rcases bool_cases ((v1.1.length : Int) == 2) with hc3 | hc3
    · replace h := ite_t hc3 h
      obtain ⟨v4, hv4, h⟩ := bind_some h
      rcases bool_cases (v4 == ([105, 116, 39, 115] : List UInt8)) with hc5 | hc5
      · replace h := ite_t hc5 h
        obtain ⟨v6, hv6, h⟩ := bind_some h
        refine WpC.reg (U := Un) (st1 := ⟨[(0, .p .bool ((v6 == ([104, 101, 114, 101] : List UInt8)) : Bool))], []⟩) [0] [] hN (.cons (mv (U := Un) (v := .p .err v1.2) rfl rfl) (.cons (sok_errNil (U := Un) (rs := [(7, .p .err v1.2)]) rfl rfl Tryd.underlying27 o0 rfl) (.cons (mv (U := Un) (v := .p .bool ((v1.2 == 0) : Bool)) rfl rfl) (.cons (sok_run rfl rfl hc2 (mv (U := Un) (v := .p (.list .str) v1.1) rfl rfl)) (.cons (sok_run rfl rfl hc2 (sok_lenL (U := Un) (rs := [(10, .p (.list .str) v1.1)]) rfl rfl Tryd.underlying22 o0)) (.cons (sok_run rfl rfl hc2 (sok_cmp (U := Un) (rs := [(11, .p I6 ((v1.1.length : Int) : Int))]) rfl rfl o0 (.int _ _ _) rfl)) (.cons (sok_pickT (U := Un) (rs := [(9, .p .bool ((v1.2 == 0) : Bool)), (12, .p .bool (((v1.1.length : Int) == 2) : Bool))]) rfl rfl o0 hc2 o1) (.cons (mv (U := Un) (v := .p .bool (((v1.1.length : Int) == 2) : Bool)) rfl rfl) (.cons (sok_run rfl rfl hc3 (mv (U := Un) (v := .p (.list .str) v1.1) rfl rfl)) (.cons (sok_run rfl rfl hc3 (sok_indexL (U := Un) (rs := [(15, .p (.list .str) v1.1)]) rfl rfl sl_22 o0 (.int _ _ _) hv4)) (.cons (sok_run rfl rfl hc3 (sok_loadP (U := Un) (rs := [(16, .pp .str v4)]) rfl rfl ty_9 o0)) (.cons (sok_run rfl rfl hc3 (sok_cmpS (U := Un) (rs := [(17, .p .str v4)]) rfl rfl o0 (.str _ _) rfl)) (.cons (sok_pickT (U := Un) (rs := [(14, .p .bool (((v1.1.length : Int) == 2) : Bool)), (18, .p .bool ((v4 == ([105, 116, 39, 115] : List UInt8)) : Bool))]) rfl rfl o0 hc3 o1) (.cons (mv (U := Un) (v := .p .bool ((v4 == ([105, 116, 39, 115] : List UInt8)) : Bool)) rfl rfl) (.cons (sok_run rfl rfl hc5 (mv (U := Un) (v := .p (.list .str) v1.1) rfl rfl)) (.cons (sok_run rfl rfl hc5 (sok_indexL (U := Un) (rs := [(21, .p (.list .str) v1.1)]) rfl rfl sl_22 o0 (.int _ _ _) hv6)) (.cons (sok_run rfl rfl hc5 (sok_loadP (U := Un) (rs := [(22, .pp .str v6)]) rfl rfl ty_9 o0)) (.cons (sok_run rfl rfl hc5 (sok_cmpS (U := Un) (rs := [(23, .p .str v6)]) rfl rfl o0 (.str _ _) rfl)) (.cons (sok_pickT (U := Un) (rs := [(20, .p .bool ((v4 == ([105, 116, 39, 115] : List UInt8)) : Bool)), (24, .p .bool ((v6 == ([104, 101, 114, 101] : List UInt8)) : Bool))]) rfl rfl o0 hc5 o1) (.cons (mva (U := Un) (v := .p .bool ((v6 == ([104, 101, 114, 101] : List UInt8)) : Bool)) rfl rfl) .nil)))))))))))))))))))) (by kernel_rfl) (by kernel_rfl) (by kernel_rfl) (Conv.refl (U := Un) _) ?_
        refine thenQ_normal ?_
        refine WpC.ret ?_
        have hq := Option.some.inj h
        subst hq
        exact ends_ret (retV_1 rfl (.head _)) ain_nil
      · replace h := ite_f hc5 h
        refine WpC.reg (U := Un) (st1 := ⟨[(0, .p .bool false)], []⟩) [0] [] hN (.cons (mv (U := Un) (v := .p .err v1.2) rfl rfl) (.cons (sok_errNil (U := Un) (rs := [(7, .p .err v1.2)]) rfl rfl Tryd.underlying27 o0 rfl) (.cons (mv (U := Un) (v := .p .bool ((v1.2 == 0) : Bool)) rfl rfl) (.cons (sok_run rfl rfl hc2 (mv (U := Un) (v := .p (.list .str) v1.1) rfl rfl)) (.cons (sok_run rfl rfl hc2 (sok_lenL (U := Un) (rs := [(10, .p (.list .str) v1.1)]) rfl rfl Tryd.underlying22 o0)) (.cons (sok_run rfl rfl hc2 (sok_cmp (U := Un) (rs := [(11, .p I6 ((v1.1.length : Int) : Int))]) rfl rfl o0 (.int _ _ _) rfl)) (.cons (sok_pickT (U := Un) (rs := [(9, .p .bool ((v1.2 == 0) : Bool)), (12, .p .bool (((v1.1.length : Int) == 2) : Bool))]) rfl rfl o0 hc2 o1) (.cons (mv (U := Un) (v := .p .bool (((v1.1.length : Int) == 2) : Bool)) rfl rfl) (.cons (sok_run rfl rfl hc3 (mv (U := Un) (v := .p (.list .str) v1.1) rfl rfl)) (.cons (sok_run rfl rfl hc3 (sok_indexL (U := Un) (rs := [(15, .p (.list .str) v1.1)]) rfl rfl sl_22 o0 (.int _ _ _) hv4)) (.cons (sok_run rfl rfl hc3 (sok_loadP (U := Un) (rs := [(16, .pp .str v4)]) rfl rfl ty_9 o0)) (.cons (sok_run rfl rfl hc3 (sok_cmpS (U := Un) (rs := [(17, .p .str v4)]) rfl rfl o0 (.str _ _) rfl)) (.cons (sok_pickT (U := Un) (rs := [(14, .p .bool (((v1.1.length : Int) == 2) : Bool)), (18, .p .bool ((v4 == ([105, 116, 39, 115] : List UInt8)) : Bool))]) rfl rfl o0 hc3 o1) (.cons (mv (U := Un) (v := .p .bool ((v4 == ([105, 116, 39, 115] : List UInt8)) : Bool)) rfl rfl) (.cons (sok_skip rfl rfl hc5) (.cons (sok_skip rfl rfl hc5) (.cons (sok_skip rfl rfl hc5) (.cons (sok_skip rfl rfl hc5) (.cons (sok_pickF (U := Un) (rs := [(20, .p .bool ((v4 == ([105, 116, 39, 115] : List UInt8)) : Bool))]) rfl rfl o0 hc5 (.bool _ _)) (.cons (mva (U := Un) (v := .p .bool false) rfl rfl) .nil)))))))))))))))))))) (by kernel_rfl) (by kernel_rfl) (by kernel_rfl) (Conv.refl (U := Un) _) ?_
        refine thenQ_normal ?_
        refine WpC.ret ?_
        have hq := Option.some.inj h
        subst hq
        exact ends_ret (retV_1 rfl (.head _)) ain_nil
    · replace h := ite_f hc3 h
      refine WpC.reg (U := Un) (st1 := ⟨[(0, .p .bool false)], []⟩) [0] [] hN (.cons (mv (U := Un) (v := .p .err v1.2) rfl rfl) (.cons (sok_errNil (U := Un) (rs := [(7, .p .err v1.2)]) rfl rfl Tryd.underlying27 o0 rfl) (.cons (mv (U := Un) (v := .p .bool ((v1.2 == 0) : Bool)) rfl rfl) (.cons (sok_run rfl rfl hc2 (mv (U := Un) (v := .p (.list .str) v1.1) rfl rfl)) (.cons (sok_run rfl rfl hc2 (sok_lenL (U := Un) (rs := [(10, .p (.list .str) v1.1)]) rfl rfl Tryd.underlying22 o0)) (.cons (sok_run rfl rfl hc2 (sok_cmp (U := Un) (rs := [(11, .p I6 ((v1.1.length : Int) : Int))]) rfl rfl o0 (.int _ _ _) rfl)) (.cons (sok_pickT (U := Un) (rs := [(9, .p .bool ((v1.2 == 0) : Bool)), (12, .p .bool (((v1.1.length : Int) == 2) : Bool))]) rfl rfl o0 hc2 o1) (.cons (mv (U := Un) (v := .p .bool (((v1.1.length : Int) == 2) : Bool)) rfl rfl) (.cons (sok_skip rfl rfl hc3) (.cons (sok_skip rfl rfl hc3) (.cons (sok_skip rfl rfl hc3) (.cons (sok_skip rfl rfl hc3) (.cons (sok_pickF (U := Un) (rs := [(14, .p .bool (((v1.1.length : Int) == 2) : Bool))]) rfl rfl o0 hc3 (.bool _ _)) (.cons (mv (U := Un) (v := .p .bool false) rfl rfl) (.cons (sok_skip rfl rfl rfl) (.cons (sok_skip rfl rfl rfl) (.cons (sok_skip rfl rfl rfl) (.cons (sok_skip rfl rfl rfl) (.cons (sok_pickF (U := Un) (rs := [(20, .p .bool false)]) rfl rfl o0 rfl (.bool _ _)) (.cons (mva (U := Un) (v := .p .bool false) rfl rfl) .nil)))))))))))))))))))) (by kernel_rfl) (by kernel_rfl) (by kernel_rfl) (Conv.refl (U := Un) _) ?_
      refine thenQ_normal ?_
      refine WpC.ret ?_
      have hq := Option.some.inj h
      subst hq
      exact ends_ret (retV_1 rfl (.head _)) ain_nil
  · replace h := ite_f hc2 h
    refine WpC.reg (U := Un) (st1 := ⟨[(0, .p .bool false)], []⟩) [0] [] hN (.cons (mv (U := Un) (v := .p .err v1.2) rfl rfl) (.cons (sok_errNil (U := Un) (rs := [(7, .p .err v1.2)]) rfl rfl Tryd.underlying27 o0 rfl) (.cons (mv (U := Un) (v := .p .bool ((v1.2 == 0) : Bool)) rfl rfl) (.cons (sok_skip rfl rfl hc2) (.cons (sok_skip rfl rfl hc2) (.cons (sok_skip rfl rfl hc2) (.cons (sok_pickF (U := Un) (rs := [(9, .p .bool ((v1.2 == 0) : Bool))]) rfl rfl o0 hc2 (.bool _ _)) (.cons (mv (U := Un) (v := .p .bool false) rfl rfl) (.cons (sok_skip rfl rfl rfl) (.cons (sok_skip rfl rfl rfl) (.cons (sok_skip rfl rfl rfl) (.cons (sok_skip rfl rfl rfl) (.cons (sok_pickF (U := Un) (rs := [(14, .p .bool false)]) rfl rfl o0 rfl (.bool _ _)) (.cons (mv (U := Un) (v := .p .bool false) rfl rfl) (.cons (sok_skip rfl rfl rfl) (.cons (sok_skip rfl rfl rfl) (.cons (sok_skip rfl rfl rfl) (.cons (sok_skip rfl rfl rfl) (.cons (sok_pickF (U := Un) (rs := [(20, .p .bool false)]) rfl rfl o0 rfl (.bool _ _)) (.cons (mva (U := Un) (v := .p .bool false) rfl rfl) .nil)))))))))))))))))))) (by kernel_rfl) (by kernel_rfl) (by kernel_rfl) (Conv.refl (U := Un) _) ?_
    refine thenQ_normal ?_
    refine WpC.ret ?_
    have hq := Option.some.inj h
    subst hq
    exact ends_ret (retV_1 rfl (.head _)) ain_nil

end Go.Proofs.YtnbnfjgedinlbabDoor
