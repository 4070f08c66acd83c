/- A part of the proof of a given law: EPC4. Own work, printed in part by a program of mine. -/
import Derived.Test.YtnbnfjgedinlbabDoorK12EPC3
namespace Go.Proofs.YtnbnfjgedinlbabDoor
open Go Go.AM
set_option linter.unusedVariables false
set_option linter.unusedSimpArgs false
set_option maxRecDepth 100000
theorem millwrightnum_SameTexts.ok (O : Out) (hO : GOk O) (k : Nat) (a0 : List (List UInt8)) (a1 : List (List UInt8)) (out : Bool) (h : millwrightnum_SameTexts.f k a0 a1 = some out) : COk Un O Tryd.prog 12 { ar := [.p (.list .str) a0, .p (.list .str) a1], r := .p .bool out } := by
  refine cok_of_wp Tryd.func12 rfl (k := 26) rfl (Nat.le_of_ble_eq_true rfl) (namesOk_pure rfl rfl rfl rfl) ?_
  intro B hN
  refine WpC.conv (cvK (b := ⟨[(0, .p (.list .str) a0), (1, .p (.list .str) a1)], []⟩) [0, 1] [] (by kernel_rfl)) ?_
  unfold millwrightnum_SameTexts.f at h
  refine WpC.seq ?_
  refine rgU (st1 := ⟨[(0, .p (.list .str) a0), (1, .p (.list .str) a1)], []⟩) [0, 1] [] hN (.cons (moU (rs := []) rfl (.inr rfl) (.bool _ _)) .nil) (by kernel_rfl) (by kernel_rfl) (by kernel_rfl) (cvR _) ?_
  refine tnU ?_
  refine WpC.seq ?_
  refine WpC.seq ?_
  refine rgU (st1 := ⟨[(0, .p (.list .str) a0), (1, .p (.list .str) a1), (10, .p .bool (((a0.length : Int) != (a1.length : Int)) : Bool))], []⟩) [0, 1, 10] [] hN (.cons (mvU (v := .p (.list .str) a0) rfl rfl) (.cons (sok_lenL (U := Un) (rs := [(6, .p (.list .str) a0)]) rfl rfl Tryd.underlying22 o0) (.cons (mvU (v := .p (.list .str) a1) rfl rfl) (.cons (sok_lenL (U := Un) (rs := [(8, .p (.list .str) a1)]) rfl rfl Tryd.underlying22 o0) (.cons (cmU (rs := [(7, .p I6 ((a0.length : Int) : Int)), (9, .p I6 ((a1.length : Int) : Int))]) rfl rfl o0 o1 rfl) .nil))))) (by kernel_rfl) (by kernel_rfl) (by kernel_rfl) (cvR _) ?_
  refine tnU ?_
  refine cdU (b := ((a0.length : Int) != (a1.length : Int))) (.tmp (.tail _ (.tail _ (.head _)))) (fun hc1 => ?_) (fun hc1 => ?_)
  · replace h := ite_t hc1 h
    refine WpC.seq ?_
    refine rgU (st1 := ⟨[(4, .p .bool false)], []⟩) [4] [] hN (.cons (moU (rs := []) rfl (.inr rfl) (.bool _ _)) .nil) (by kernel_rfl) (by kernel_rfl) (by kernel_rfl) (cvR _) ?_
    refine tnU ?_
    refine WpC.ret ?_
    refine thenQ_ret ?_
    have hq := Option.some.inj h
    subst hq
    exact ends_ret (retV_1 rfl (.head _)) ain_nil
  · replace h := ite_f hc1 h
    refine WpC.conv (cvK (b := ⟨[(0, .p (.list .str) a0), (1, .p (.list .str) a1)], []⟩) [0, 1] [] (by kernel_rfl)) (WpC.skip ?_)
    refine tnU ?_
    refine sqJ (fun st' => millwrightnum_SameTexts.j2 k = some out ∧ st' = ⟨[], []⟩) ?_ ?_
    · refine WpC.seq ?_
      refine rgU (st1 := ⟨[(0, .p (.list .str) a0), (1, .p (.list .str) a1), (12, .p I6 ((a0.length : Int) : Int)), (13, .p I6 (0 : Int))], []⟩) [0, 1, 12, 13] [] hN (.cons (mvU (v := .p (.list .str) a0) rfl rfl) (.cons (sok_lenL (U := Un) (rs := [(11, .p (.list .str) a0)]) rfl rfl Tryd.underlying22 o0) (.cons (moU (rs := []) rfl (.inl rfl) (.int _ _ _)) .nil))) (by kernel_rfl) (by kernel_rfl) (by kernel_rfl) (cvR _) ?_
      refine tnU ?_
      refine WpC.block ?_
      obtain ⟨o5, hlo5, h⟩ := bind_some h
      have hout6 := h
      clear h
      refine WpC.loop (U := Un) (fun n st' => ∃ v3 : Int, millwrightnum_SameTexts.l4 k a0 a1 n v3 = some o5 ∧ st' = ⟨[(0, .p (.list .str) a0), (1, .p (.list .str) a1), (12, .p I6 ((a0.length : Int) : Int)), (13, .p I6 v3)], []⟩) k ⟨0, hlo5, rfl⟩ ?_
      clear hlo5
      rintro (_ | n) _ ⟨v3, h, rfl⟩
      · cases h
      · rw [millwrightnum_SameTexts.l4] at h
        refine WpC.seq ?_
        refine rgU (st1 := ⟨[(0, .p (.list .str) a0), (1, .p (.list .str) a1), (12, .p I6 ((a0.length : Int) : Int)), (13, .p I6 v3), (14, .p .bool ((decide (v3 < (a0.length : Int))) : Bool))], []⟩) [0, 1, 12, 13, 14] [] hN (.cons (cmU (rs := [(13, .p I6 v3), (12, .p I6 ((a0.length : Int) : Int))]) rfl rfl o0 o1 rfl) .nil) (by kernel_rfl) (by kernel_rfl) (by kernel_rfl) (cvR _) ?_
        refine tnU ?_
        refine WpC.seq ?_
        refine cdU (b := (decide (v3 < (a0.length : Int)))) (.tmp (.tail _ (.tail _ (.tail _ (.tail _ (.head _)))))) (fun hc7 => ?_) (fun hc7 => ?_)
        · replace h := ite_t hc7 h
          refine WpC.conv (cvK (b := ⟨[(0, .p (.list .str) a0), (1, .p (.list .str) a1), (12, .p I6 ((a0.length : Int) : Int)), (13, .p I6 v3)], []⟩) [0, 1, 12, 13] [] (by kernel_rfl)) (WpC.skip ?_)
          refine tnU ?_
          refine WpC.seq ?_
          refine WpC.block ?_
          refine WpC.seq ?_
          refine rgU (st1 := ⟨[(0, .p (.list .str) a0), (1, .p (.list .str) a1), (5, .p I6 v3), (12, .p I6 ((a0.length : Int) : Int)), (13, .p I6 v3)], []⟩) [0, 1, 5, 12, 13] [] hN (.cons (mvU (v := .p I6 v3) rfl rfl) (.cons (mvA (v := .p I6 v3) rfl rfl) .nil)) (by kernel_rfl) (by kernel_rfl) (by kernel_rfl) (cvR _) ?_
          refine tnU ?_
          refine WpC.seq ?_
          obtain ⟨v8, hv8, h⟩ := bind_some h
          obtain ⟨v9, hv9, h⟩ := bind_some h
          refine WpC.regA (U := Un) (st1 := ⟨[(0, .p (.list .str) a0), (1, .p (.list .str) a1), (12, .p I6 ((a0.length : Int) : Int)), (13, .p I6 v3), (24, .p .bool ((!(v8 == v9)) : Bool))], []⟩) [0, 1, 12, 13, 24] [] [[], [], [0, 1], [0, 1, 2], [], [], [4, 5], [4, 5, 6], [0, 1, 2, 3, 4, 5, 6, 7]] mixed hN (.cons (mvU (v := .p (.list .str) a0) rfl rfl) (.cons (mvU (v := .p I6 v3) rfl rfl) (.cons (sok_indexL (U := Un) (rs := [(16, .p (.list .str) a0), (17, .p I6 v3)]) rfl rfl sl_22 o0 o1 hv8) (.cons (sok_loadP (U := Un) (rs := [(18, .pp .str v8)]) rfl rfl ty_9 o0) (.cons (mvU (v := .p (.list .str) a1) rfl rfl) (.cons (mvU (v := .p I6 v3) rfl rfl) (.cons (sok_indexL (U := Un) (rs := [(20, .p (.list .str) a1), (21, .p I6 v3)]) rfl rfl sl_22 o0 o1 hv9) (.cons (sok_loadP (U := Un) (rs := [(22, .pp .str v9)]) rfl rfl ty_9 o0) (.cons (sok_cmpS (U := Un) (rs := [(19, .p .str v8), (23, .p .str v9)]) rfl rfl o0 o1 rfl) .nil))))))))) (by kernel_rfl) (by kernel_rfl) (by kernel_rfl) (by kernel_rfl) (by kernel_rfl) (cvR _) ?_
          refine tnU ?_
          refine cdU (b := (!(v8 == v9))) (.tmp (.tail _ (.tail _ (.tail _ (.tail _ (.head _)))))) (fun hc10 => ?_) (fun hc10 => ?_)
          · replace h := ite_t hc10 h
            refine WpC.seq ?_
            refine rgU (st1 := ⟨[(4, .p .bool false)], []⟩) [4] [] hN (.cons (moU (rs := []) rfl (.inr rfl) (.bool _ _)) .nil) (by kernel_rfl) (by kernel_rfl) (by kernel_rfl) (cvR _) ?_
            refine tnU ?_
            refine WpC.ret ?_
            refine blockQ_ret ?_
            refine thenQ_ret ?_
            have hq := Option.some.inj h
            subst hq
            refine thenQ_ret ?_
            have h := hout6
            refine blockQ_ret ?_
            refine thenQ_ret ?_
            have hq := Option.some.inj h
            subst hq
            exact ends_ret (retV_1 rfl (.head _)) ain_nil
          · replace h := ite_f hc10 h
            refine WpC.conv (cvK (b := ⟨[(0, .p (.list .str) a0), (1, .p (.list .str) a1), (12, .p I6 ((a0.length : Int) : Int)), (13, .p I6 v3)], []⟩) [0, 1, 12, 13] [] (by kernel_rfl)) (WpC.skip ?_)
            refine blockQ_normal ?_
            refine tnU ?_
            refine rgU (st1 := ⟨[(0, .p (.list .str) a0), (1, .p (.list .str) a1), (12, .p I6 ((a0.length : Int) : Int)), (13, .p I6 ((IntKind.i64.wrap (v3 + 1)) : Int))], []⟩) [0, 1, 12, 13] [] hN (.cons (sok_arith (U := Un) (rs := [(13, .p I6 v3)]) rfl rfl o0 (.int _ _ _) rfl) (.cons (mvU (v := .p I6 ((IntKind.i64.wrap (v3 + 1)) : Int)) rfl rfl) .nil)) (by kernel_rfl) (by kernel_rfl) (by kernel_rfl) (cvR _) ?_
            refine tnU ?_
            exact ⟨n, Nat.lt_succ_self n, (IntKind.i64.wrap (v3 + 1)), h, rfl⟩
        · replace h := ite_f hc7 h
          refine WpC.conv (cvK (b := ⟨[], []⟩) [] [] (by kernel_rfl)) (WpC.exit ?_)
          refine thenQ_exit ?_
          have hq := Option.some.inj h
          subst hq
          refine thenQ_exit ?_
          have h := hout6
          refine blockQ_hit ?_
          refine tnU ?_
          exact ⟨h, rfl⟩
    · rintro _ ⟨h, rfl⟩
      unfold millwrightnum_SameTexts.j2 at h
      refine WpC.seq ?_
      refine rgU (st1 := ⟨[(4, .p .bool true)], []⟩) [4] [] hN (.cons (moU (rs := []) rfl (.inr rfl) (.bool _ _)) .nil) (by kernel_rfl) (by kernel_rfl) (by kernel_rfl) (cvR _) ?_
      refine tnU ?_
      refine WpC.ret ?_
      have hq := Option.some.inj h
      subst hq
      exact ends_ret (retV_1 rfl (.head _)) ain_nil

theorem millwrightnum_KeptTexts_m0.ok (O : Out) (hO : GOk O) (k : Nat) (a0 : List (List UInt8)) (a1 : Nat) (a2 : List (List UInt8)) (out : Bool) (h : millwrightnum_KeptTexts_m0.f k a0 a1 a2 = some out) : COk Un O Tryd.prog 13 { ar := [.vec 100000 1 0 a1, .p (.list .str) a2], r := .p .bool out, bs := [(100000, .row 9 .str a0 true)], bs' := [(100000, .row 9 .str a0 true)] } := by
  refine cok_of_wp Tryd.func13 rfl (k := 49) rfl (Nat.le_of_ble_eq_true rfl) (namesOk_of (by kernel_rfl)) ?_
  intro B hN
  refine WpC.conv (cvK (b := ⟨[(0, .vec 100000 1 0 a1), (1, .p (.list .str) a2)], [(100000, .row 9 .str a0 true)]⟩) [0, 1] [100000] (by kernel_rfl)) ?_
  unfold millwrightnum_KeptTexts_m0.f at h
  refine WpC.seq ?_
  refine rgU (st1 := ⟨[(0, .vec 100000 1 0 a1), (1, .p (.list .str) a2)], [(100000, .row 9 .str a0 true)]⟩) [0, 1] [100000] hN (.cons (moU (rs := []) rfl (.inr rfl) (.bool _ _)) .nil) (by kernel_rfl) (by kernel_rfl) (by kernel_rfl) (cvR _) ?_
  refine tnU ?_
  refine WpC.seq ?_
  obtain ⟨g1, h⟩ := if_some h
  refine rgU (st1 := ⟨[(1, .p (.list .str) a2), (5, .vec 100000 1 0 (((a0.length - 0 : Nat) : Int).toNat))], [(100000, .row 9 .str a0 true)]⟩) [1, 5] [100000] hN (.cons (mvU (v := .vec 100000 1 0 a1) rfl rfl) (.cons (mvU (v := .vec 100000 1 0 a1) rfl rfl) (.cons (sok_capV (U := Un) (E' := 9) (t := .str) (rs := [(8, .vec 100000 1 0 a1)]) (xs := a0) rfl rfl Tryd.underlying22 o0) (.cons (sok_sliceV (U := Un) (t := .str) (rs := [(7, .vec 100000 1 0 a1), (9, .p I6 (((a0.length - 0 : Nat) : Int) : Int))]) (xs := a0) (fx := true) rfl rfl sl_22 o0 .no (.at o1) g1.1 g1.2.1 g1.2.2) (.cons (mvA (v := .vec 100000 1 0 (((a0.length - 0 : Nat) : Int).toNat)) rfl rfl) .nil))))) (by kernel_rfl) (by kernel_rfl) (by kernel_rfl) (cvR _) ?_
  refine tnU ?_
  refine sqJ (fun st' => millwrightnum_KeptTexts_m0.j10 k a0 a2 = some out ∧ st' = ⟨[(1, .p (.list .str) a2), (5, .vec 100000 1 0 (((a0.length - 0 : Nat) : Int).toNat))], [(100000, .row 9 .str a0 true)]⟩) ?_ ?_
  · refine sqJ (fun st' => ∃ v11 : Bool, millwrightnum_KeptTexts_m0.j13 k a0 a2 v11 = some out ∧ st' = ⟨[(1, .p (.list .str) a2), (5, .vec 100000 1 0 (((a0.length - 0 : Nat) : Int).toNat)), (25, .p .bool v11)], [(100000, .row 9 .str a0 true)]⟩) ?_ ?_
    · rcases bool_cases (decide ((((a0.length - 0 : Nat) : Int).toNat : Int) < (IntKind.i64.wrap ((a2.length : Int) + 3)))) with hc14 | hc14
      · replace h := ite_t hc14 h
        refine rgU (st1 := ⟨[(1, .p (.list .str) a2), (5, .vec 100000 1 0 (((a0.length - 0 : Nat) : Int).toNat)), (25, .p .bool true)], [(100000, .row 9 .str a0 true)]⟩) [1, 5, 25] [100000] hN (.cons (mvU (v := .vec 100000 1 0 (((a0.length - 0 : Nat) : Int).toNat)) rfl rfl) (.cons (sok_lenV (U := Un) (rs := [(11, .vec 100000 1 0 (((a0.length - 0 : Nat) : Int).toNat))]) rfl rfl Tryd.underlying22 o0) (.cons (mvU (v := .p (.list .str) a2) rfl rfl) (.cons (sok_lenL (U := Un) (rs := [(13, .p (.list .str) a2)]) rfl rfl Tryd.underlying22 o0) (.cons (sok_arith (U := Un) (rs := [(14, .p I6 ((a2.length : Int) : Int))]) rfl rfl o0 (.int _ _ _) rfl) (.cons (cmU (rs := [(12, .p I6 ((((a0.length - 0 : Nat) : Int).toNat : Int) : Int)), (15, .p I6 ((IntKind.i64.wrap ((a2.length : Int) + 3)) : Int))]) rfl rfl o0 o1 rfl) (.cons (mvU (v := .p .bool ((decide ((((a0.length - 0 : Nat) : Int).toNat : Int) < (IntKind.i64.wrap ((a2.length : Int) + 3)))) : Bool)) rfl rfl) (.cons (skU rfl rfl hc14) (.cons (skU rfl rfl hc14) (.cons (skU rfl rfl hc14) (.cons (skU rfl rfl hc14) (.cons (skU rfl rfl hc14) (.cons (skU rfl rfl hc14) (.cons (skU rfl rfl hc14) (.cons (pkT (rs := [(17, .p .bool ((decide ((((a0.length - 0 : Nat) : Int).toNat : Int) < (IntKind.i64.wrap ((a2.length : Int) + 3)))) : Bool))]) rfl rfl o0 hc14 (.bool _ _)) .nil))))))))))))))) (by kernel_rfl) (by kernel_rfl) (by kernel_rfl) (cvR _) ?_
        refine tnU ?_
        exact ⟨true, h, rfl⟩
      · replace h := ite_f hc14 h
        obtain ⟨g15, h⟩ := if_some h
        obtain ⟨g16, h⟩ := if_some h
        obtain ⟨v17, hv17, h⟩ := bind_some h
        refine rgU (st1 := ⟨[(1, .p (.list .str) a2), (5, .vec 100000 1 0 (((a0.length - 0 : Nat) : Int).toNat)), (25, .p .bool ((!v17) : Bool))], [(100000, .row 9 .str a0 true)]⟩) [1, 5, 25] [100000] hN (.cons (mvU (v := .vec 100000 1 0 (((a0.length - 0 : Nat) : Int).toNat)) rfl rfl) (.cons (sok_lenV (U := Un) (rs := [(11, .vec 100000 1 0 (((a0.length - 0 : Nat) : Int).toNat))]) rfl rfl Tryd.underlying22 o0) (.cons (mvU (v := .p (.list .str) a2) rfl rfl) (.cons (sok_lenL (U := Un) (rs := [(13, .p (.list .str) a2)]) rfl rfl Tryd.underlying22 o0) (.cons (sok_arith (U := Un) (rs := [(14, .p I6 ((a2.length : Int) : Int))]) rfl rfl o0 (.int _ _ _) rfl) (.cons (cmU (rs := [(12, .p I6 ((((a0.length - 0 : Nat) : Int).toNat : Int) : Int)), (15, .p I6 ((IntKind.i64.wrap ((a2.length : Int) + 3)) : Int))]) rfl rfl o0 o1 rfl) (.cons (mvU (v := .p .bool ((decide ((((a0.length - 0 : Nat) : Int).toNat : Int) < (IntKind.i64.wrap ((a2.length : Int) + 3)))) : Bool)) rfl rfl) (.cons (sok_run rfl rfl hc14 (mvU (v := .vec 100000 1 0 (((a0.length - 0 : Nat) : Int).toNat)) rfl rfl)) (.cons (sok_run rfl rfl hc14 (mvU (v := .p (.list .str) a2) rfl rfl)) (.cons (sok_run rfl rfl hc14 (sok_lenL (U := Un) (rs := [(19, .p (.list .str) a2)]) rfl rfl Tryd.underlying22 o0)) (.cons (sok_run rfl rfl hc14 (sok_sliceV (U := Un) (t := .str) (rs := [(18, .vec 100000 1 0 (((a0.length - 0 : Nat) : Int).toNat)), (20, .p I6 ((a2.length : Int) : Int))]) (xs := a0) (fx := true) rfl rfl sl_22 o0 .no (.at o1) g15.1 g15.2.1 g15.2.2)) (.cons (sok_run rfl rfl hc14 (mvU (v := .p (.list .str) a2) rfl rfl)) (.cons (sok_run rfl rfl hc14 (caV (rs := [(21, .vec 100000 1 0 a2.length), (22, .p (.list .str) a2)]) (vw := [(100000, .row 9 .str a0 true)]) rfl rfl (.func _) hb_12 (millwrightnum_SameTexts.ok O hO k ((a0.drop 0).take a2.length) a2 v17 hv17) (.cons o0 (.cons o1 .nil)) (.cons (.row 0 a2.length (.head _) g16) (.cons (.same _) .nil)) (by simp) (.inr rfl))) (.cons (sok_run rfl rfl hc14 (sok_not (U := Un) (rs := [(23, .p .bool v17)]) rfl rfl o0)) (.cons (pkF (rs := [(17, .p .bool ((decide ((((a0.length - 0 : Nat) : Int).toNat : Int) < (IntKind.i64.wrap ((a2.length : Int) + 3)))) : Bool)), (24, .p .bool ((!v17) : Bool))]) rfl rfl o0 hc14 o1) .nil))))))))))))))) (by kernel_rfl) (by kernel_rfl) (by kernel_rfl) (cvR _) ?_
        refine tnU ?_
        exact ⟨(!v17), h, rfl⟩
    · rintro _ ⟨v11, h, rfl⟩
      unfold millwrightnum_KeptTexts_m0.j13 at h
      refine cdU (b := v11) (.tmp (.tail _ (.tail _ (.head _)))) (fun hc12 => ?_) (fun hc12 => ?_)
      · replace h := ite_t hc12 h
        refine WpC.seq ?_
        refine rgU (st1 := ⟨[(4, .p .bool false)], [(100000, .row 9 .str a0 true)]⟩) [4] [100000] hN (.cons (moU (rs := []) rfl (.inr rfl) (.bool _ _)) .nil) (by kernel_rfl) (by kernel_rfl) (by kernel_rfl) (cvR _) ?_
        refine tnU ?_
        refine WpC.ret ?_
        refine thenQ_ret ?_
        have hq := Option.some.inj h
        subst hq
        exact ends_ret (retV_1 rfl (.head _)) (ain_cons (.head _) ain_nil)
      · replace h := ite_f hc12 h
        refine WpC.conv (cvK (b := ⟨[(1, .p (.list .str) a2), (5, .vec 100000 1 0 (((a0.length - 0 : Nat) : Int).toNat))], [(100000, .row 9 .str a0 true)]⟩) [1, 5] [100000] (by kernel_rfl)) (WpC.skip ?_)
        refine tnU ?_
        exact ⟨h, rfl⟩
  · rintro _ ⟨h, rfl⟩
    unfold millwrightnum_KeptTexts_m0.j10 at h
    refine WpC.seq ?_
    refine rgU (st1 := ⟨[(5, .vec 100000 1 0 (((a0.length - 0 : Nat) : Int).toNat)), (6, .p I6 ((a2.length : Int) : Int))], [(100000, .row 9 .str a0 true)]⟩) [5, 6] [100000] hN (.cons (mvU (v := .p (.list .str) a2) rfl rfl) (.cons (sok_lenL (U := Un) (rs := [(26, .p (.list .str) a2)]) rfl rfl Tryd.underlying22 o0) (.cons (mvA (v := .p I6 ((a2.length : Int) : Int)) rfl rfl) .nil))) (by kernel_rfl) (by kernel_rfl) (by kernel_rfl) (cvR _) ?_
    refine tnU ?_
    refine WpC.seq ?_
    obtain ⟨g2, h⟩ := if_some h
    obtain ⟨v3, hv3, h⟩ := bind_some h
    rcases bool_cases (v3 == ([1] : List UInt8)) with hc4 | hc4
    · replace h := ite_t hc4 h
      obtain ⟨g5, h⟩ := if_some h
      obtain ⟨v6, hv6, h⟩ := bind_some h
      rcases bool_cases (v6 == ([2] : List UInt8)) with hc7 | hc7
      · replace h := ite_t hc7 h
        obtain ⟨g8, h⟩ := if_some h
        obtain ⟨v9, hv9, h⟩ := bind_some h
        refine rgU (st1 := ⟨[(4, .p .bool ((v9 == ([3] : List UInt8)) : Bool))], [(100000, .row 9 .str a0 true)]⟩) [4] [100000] hN (.cons (mvU (v := .vec 100000 1 0 (((a0.length - 0 : Nat) : Int).toNat)) rfl rfl) (.cons (mvU (v := .p I6 ((a2.length : Int) : Int)) rfl rfl) (.cons (sok_indexV (U := Un) (rs := [(28, .vec 100000 1 0 (((a0.length - 0 : Nat) : Int).toNat)), (29, .p I6 ((a2.length : Int) : Int))]) rfl rfl sl_22 o0 o1 g2) (.cons (sok_loadE (U := Un) (E := 9) (t := .str) (rs := [(30, .eloc 100000 1 (0 + (a2.length : Int).toNat) 0)]) (xs := a0) (fx := true) rfl rfl ty_9 o0 hv3 (.here _ _)) (.cons (sok_cmpS (U := Un) (rs := [(31, .p .str v3)]) rfl rfl o0 (.str _ _) rfl) (.cons (mvU (v := .p .bool ((v3 == ([1] : List UInt8)) : Bool)) rfl rfl) (.cons (sok_run rfl rfl hc4 (mvU (v := .vec 100000 1 0 (((a0.length - 0 : Nat) : Int).toNat)) rfl rfl)) (.cons (sok_run rfl rfl hc4 (mvU (v := .p I6 ((a2.length : Int) : Int)) rfl rfl)) (.cons (sok_run rfl rfl hc4 (sok_arith (U := Un) (rs := [(35, .p I6 ((a2.length : Int) : Int))]) rfl rfl o0 (.int _ _ _) rfl)) (.cons (sok_run rfl rfl hc4 (sok_indexV (U := Un) (rs := [(34, .vec 100000 1 0 (((a0.length - 0 : Nat) : Int).toNat)), (36, .p I6 ((IntKind.i64.wrap ((a2.length : Int) + 1)) : Int))]) rfl rfl sl_22 o0 o1 g5)) (.cons (sok_run rfl rfl hc4 (sok_loadE (U := Un) (E := 9) (t := .str) (rs := [(37, .eloc 100000 1 (0 + (IntKind.i64.wrap ((a2.length : Int) + 1)).toNat) 0)]) (xs := a0) (fx := true) rfl rfl ty_9 o0 hv6 (.here _ _))) (.cons (sok_run rfl rfl hc4 (sok_cmpS (U := Un) (rs := [(38, .p .str v6)]) rfl rfl o0 (.str _ _) rfl)) (.cons (pkT (rs := [(33, .p .bool ((v3 == ([1] : List UInt8)) : Bool)), (39, .p .bool ((v6 == ([2] : List UInt8)) : Bool))]) rfl rfl o0 hc4 o1) (.cons (mvU (v := .p .bool ((v6 == ([2] : List UInt8)) : Bool)) rfl rfl) (.cons (sok_run rfl rfl hc7 (mvU (v := .vec 100000 1 0 (((a0.length - 0 : Nat) : Int).toNat)) rfl rfl)) (.cons (sok_run rfl rfl hc7 (mvU (v := .p I6 ((a2.length : Int) : Int)) rfl rfl)) (.cons (sok_run rfl rfl hc7 (sok_arith (U := Un) (rs := [(43, .p I6 ((a2.length : Int) : Int))]) rfl rfl o0 (.int _ _ _) rfl)) (.cons (sok_run rfl rfl hc7 (sok_indexV (U := Un) (rs := [(42, .vec 100000 1 0 (((a0.length - 0 : Nat) : Int).toNat)), (44, .p I6 ((IntKind.i64.wrap ((a2.length : Int) + 2)) : Int))]) rfl rfl sl_22 o0 o1 g8)) (.cons (sok_run rfl rfl hc7 (sok_loadE (U := Un) (E := 9) (t := .str) (rs := [(45, .eloc 100000 1 (0 + (IntKind.i64.wrap ((a2.length : Int) + 2)).toNat) 0)]) (xs := a0) (fx := true) rfl rfl ty_9 o0 hv9 (.here _ _))) (.cons (sok_run rfl rfl hc7 (sok_cmpS (U := Un) (rs := [(46, .p .str v9)]) rfl rfl o0 (.str _ _) rfl)) (.cons (pkT (rs := [(41, .p .bool ((v6 == ([2] : List UInt8)) : Bool)), (47, .p .bool ((v9 == ([3] : List UInt8)) : Bool))]) rfl rfl o0 hc7 o1) (.cons (mvA (v := .p .bool ((v9 == ([3] : List UInt8)) : Bool)) rfl rfl) .nil)))))))))))))))))))))) (by kernel_rfl) (by kernel_rfl) (by kernel_rfl) (cvR _) ?_
        refine tnU ?_
        refine WpC.ret ?_
        have hq := Option.some.inj h
        subst hq
        exact ends_ret (retV_1 rfl (.head _)) (ain_cons (.head _) ain_nil)
      · replace h := ite_f hc7 h
        refine rgU (st1 := ⟨[(4, .p .bool false)], [(100000, .row 9 .str a0 true)]⟩) [4] [100000] hN (.cons (mvU (v := .vec 100000 1 0 (((a0.length - 0 : Nat) : Int).toNat)) rfl rfl) (.cons (mvU (v := .p I6 ((a2.length : Int) : Int)) rfl rfl) (.cons (sok_indexV (U := Un) (rs := [(28, .vec 100000 1 0 (((a0.length - 0 : Nat) : Int).toNat)), (29, .p I6 ((a2.length : Int) : Int))]) rfl rfl sl_22 o0 o1 g2) (.cons (sok_loadE (U := Un) (E := 9) (t := .str) (rs := [(30, .eloc 100000 1 (0 + (a2.length : Int).toNat) 0)]) (xs := a0) (fx := true) rfl rfl ty_9 o0 hv3 (.here _ _)) (.cons (sok_cmpS (U := Un) (rs := [(31, .p .str v3)]) rfl rfl o0 (.str _ _) rfl) (.cons (mvU (v := .p .bool ((v3 == ([1] : List UInt8)) : Bool)) rfl rfl) (.cons (sok_run rfl rfl hc4 (mvU (v := .vec 100000 1 0 (((a0.length - 0 : Nat) : Int).toNat)) rfl rfl)) (.cons (sok_run rfl rfl hc4 (mvU (v := .p I6 ((a2.length : Int) : Int)) rfl rfl)) (.cons (sok_run rfl rfl hc4 (sok_arith (U := Un) (rs := [(35, .p I6 ((a2.length : Int) : Int))]) rfl rfl o0 (.int _ _ _) rfl)) (.cons (sok_run rfl rfl hc4 (sok_indexV (U := Un) (rs := [(34, .vec 100000 1 0 (((a0.length - 0 : Nat) : Int).toNat)), (36, .p I6 ((IntKind.i64.wrap ((a2.length : Int) + 1)) : Int))]) rfl rfl sl_22 o0 o1 g5)) (.cons (sok_run rfl rfl hc4 (sok_loadE (U := Un) (E := 9) (t := .str) (rs := [(37, .eloc 100000 1 (0 + (IntKind.i64.wrap ((a2.length : Int) + 1)).toNat) 0)]) (xs := a0) (fx := true) rfl rfl ty_9 o0 hv6 (.here _ _))) (.cons (sok_run rfl rfl hc4 (sok_cmpS (U := Un) (rs := [(38, .p .str v6)]) rfl rfl o0 (.str _ _) rfl)) (.cons (pkT (rs := [(33, .p .bool ((v3 == ([1] : List UInt8)) : Bool)), (39, .p .bool ((v6 == ([2] : List UInt8)) : Bool))]) rfl rfl o0 hc4 o1) (.cons (mvU (v := .p .bool ((v6 == ([2] : List UInt8)) : Bool)) rfl rfl) (.cons (skU rfl rfl hc7) (.cons (skU rfl rfl hc7) (.cons (skU rfl rfl hc7) (.cons (skU rfl rfl hc7) (.cons (skU rfl rfl hc7) (.cons (skU rfl rfl hc7) (.cons (pkF (rs := [(41, .p .bool ((v6 == ([2] : List UInt8)) : Bool))]) rfl rfl o0 hc7 (.bool _ _)) (.cons (mvA (v := .p .bool false) rfl rfl) .nil)))))))))))))))))))))) (by kernel_rfl) (by kernel_rfl) (by kernel_rfl) (cvR _) ?_
        refine tnU ?_
        refine WpC.ret ?_
        have hq := Option.some.inj h
        subst hq
        exact ends_ret (retV_1 rfl (.head _)) (ain_cons (.head _) ain_nil)
    · replace h := ite_f hc4 h
      refine rgU (st1 := ⟨[(4, .p .bool false)], [(100000, .row 9 .str a0 true)]⟩) [4] [100000] hN (.cons (mvU (v := .vec 100000 1 0 (((a0.length - 0 : Nat) : Int).toNat)) rfl rfl) (.cons (mvU (v := .p I6 ((a2.length : Int) : Int)) rfl rfl) (.cons (sok_indexV (U := Un) (rs := [(28, .vec 100000 1 0 (((a0.length - 0 : Nat) : Int).toNat)), (29, .p I6 ((a2.length : Int) : Int))]) rfl rfl sl_22 o0 o1 g2) (.cons (sok_loadE (U := Un) (E := 9) (t := .str) (rs := [(30, .eloc 100000 1 (0 + (a2.length : Int).toNat) 0)]) (xs := a0) (fx := true) rfl rfl ty_9 o0 hv3 (.here _ _)) (.cons (sok_cmpS (U := Un) (rs := [(31, .p .str v3)]) rfl rfl o0 (.str _ _) rfl) (.cons (mvU (v := .p .bool ((v3 == ([1] : List UInt8)) : Bool)) rfl rfl) (.cons (skU rfl rfl hc4) (.cons (skU rfl rfl hc4) (.cons (skU rfl rfl hc4) (.cons (skU rfl rfl hc4) (.cons (skU rfl rfl hc4) (.cons (skU rfl rfl hc4) (.cons (pkF (rs := [(33, .p .bool ((v3 == ([1] : List UInt8)) : Bool))]) rfl rfl o0 hc4 (.bool _ _)) (.cons (mvU (v := .p .bool false) rfl rfl) (.cons (skU rfl rfl rfl) (.cons (skU rfl rfl rfl) (.cons (skU rfl rfl rfl) (.cons (skU rfl rfl rfl) (.cons (skU rfl rfl rfl) (.cons (skU rfl rfl rfl) (.cons (pkF (rs := [(41, .p .bool false)]) rfl rfl o0 rfl (.bool _ _)) (.cons (mvA (v := .p .bool false) rfl rfl) .nil)))))))))))))))))))))) (by kernel_rfl) (by kernel_rfl) (by kernel_rfl) (cvR _) ?_
      refine tnU ?_
      refine WpC.ret ?_
      have hq := Option.some.inj h
      subst hq
      exact ends_ret (retV_1 rfl (.head _)) (ain_cons (.head _) ain_nil)

theorem env_Env_Unset_m0.ok (O : Out) (hO : GOk O) (k : Nat) (a0 : List ((List UInt8) × T_env_Var)) (a1 : List UInt8) (out : Bool × (List ((List UInt8) × T_env_Var))) (h : env_Env_Unset_m0.f k a0 a1 = some out) : COk Un O Tryd.prog 33 { ar := [.loc 100000 0, .p .str a1], r := .p .bool out.1, bs := [(100000, .box [.mp 100001]), (100001, .map (.named 5) a0)], bs' := [(100000, .box [.mp 100001]), (100001, .map (.named 5) out.2)] } := by
  refine cok_of_wp Tryd.func33 rfl (k := 22) rfl (Nat.le_of_ble_eq_true rfl) (namesOk_of (by kernel_rfl)) ?_
  intro B hN
  refine WpC.conv (cvK (b := ⟨[(0, .loc 100000 0), (1, .p .str a1)], [(100000, .box [.mp 100001]), (100001, .map (.named 5) a0)]⟩) [0, 1] [100000, 100001] (by kernel_rfl)) ?_
  unfold env_Env_Unset_m0.f at h
  refine WpC.seq ?_
  refine rgU (st1 := ⟨[(0, .loc 100000 0), (1, .p .str a1)], [(100000, .box [.mp 100001]), (100001, .map (.named 5) a0)]⟩) [0, 1] [100000, 100001] hN (.cons (moU (rs := []) rfl (.inr rfl) (.bool _ _)) .nil) (by kernel_rfl) (by kernel_rfl) (by kernel_rfl) (cvR _) ?_
  refine tnU ?_
  refine WpC.seq ?_
  refine rgU (st1 := ⟨[(0, .loc 100000 0), (1, .p .str a1), (6, .p .bool ((mget a1 a0).isSome : Bool))], [(100000, .box [.mp 100001]), (100001, .map (.named 5) a0)]⟩) [0, 1, 6] [100000, 100001] hN (.cons (mvU (v := .loc 100000 0) rfl rfl) (.cons (nlU (rs := [(8, .loc 100000 0)]) rfl rfl o0 rfl) (.cons (fdB (rs := [(9, .loc 100000 0)]) rfl rfl fd_91_0 (by decide) o0) (.cons (ldB (t := .bool) (rs := [(10, .loc 100000 0)]) [] [.mp 100001] [] (v := .mp 100001) rfl rfl ty1_89 o0 rfl rfl rfl rfl (.hand rfl rfl)) (.cons (mvU (v := .p .str a1) rfl rfl) (.cons (sok_lookup2 (U := Un) (t := .named 5) (kvs := a0) (rs := [(11, .mp 100001), (12, .p .str a1)]) rfl rfl map_89 zv_60 o0 o1) (.cons (mvU (v := .tup [.p (.named 5) (((mget a1 a0).getD (T_env_Var.mk [] [] 0 false)) : T_env_Var), .p .bool ((mget a1 a0).isSome : Bool)]) rfl rfl) (.cons (exU (rs := [(7, .tup [.p (.named 5) (((mget a1 a0).getD (T_env_Var.mk [] [] 0 false)) : T_env_Var), .p .bool ((mget a1 a0).isSome : Bool)])]) rfl rfl o0 rfl) (.cons (exU (rs := [(7, .tup [.p (.named 5) (((mget a1 a0).getD (T_env_Var.mk [] [] 0 false)) : T_env_Var), .p .bool ((mget a1 a0).isSome : Bool)])]) rfl rfl o0 rfl) (.cons (sok_allocZ (U := Un) (rs := []) (d := 5) (us := [.p .str ([] : List UInt8), .p (.list .str) ([] : List (List UInt8)), .p I6 (0 : Int), .p .bool false]) (v := (.agg #[.string ByteArray.empty, .slice none 0 0, .int .i64 0, .bool false])) rfl rfl rfl (by kernel_rfl) rfl (.data (fun _ _ _ => rd_str0) (.data (fun _ _ _ => .lnil _) (.data (fun _ _ _ => .int _ _) (.data (fun _ _ _ => .bool _) .nil)))) (by kernel_rfl)) (.cons (sok_storeB (U := Un) (rs := [(5, .loc 5 0), (14, .p (.named 5) (((mget a1 a0).getD (T_env_Var.mk [] [] 0 false)) : T_env_Var))]) (v := .p (.named 5) (((mget a1 a0).getD (T_env_Var.mk [] [] 0 false)) : T_env_Var)) (mid' := [.p .str (((mget a1 a0).getD (T_env_Var.mk [] [] 0 false)).f_Name : List UInt8), .p (.list .str) (((mget a1 a0).getD (T_env_Var.mk [] [] 0 false)).f_Words : List (List UInt8)), .p I6 (((mget a1 a0).getD (T_env_Var.mk [] [] 0 false)).f_Level : Int), .p .bool (((mget a1 a0).getD (T_env_Var.mk [] [] 0 false)).f_Hidden : Bool)]) [] [.p .str ([] : List UInt8), .p (.list .str) ([] : List (List UInt8)), .p I6 (0 : Int), .p .bool false] [] rfl rfl rfl ty_60 o0 o1 (.data (.named (us := ([.p .str (((mget a1 a0).getD (T_env_Var.mk [] [] 0 false)).f_Name : List UInt8), .p (.list .str) (((mget a1 a0).getD (T_env_Var.mk [] [] 0 false)).f_Words : List (List UInt8)), .p I6 (((mget a1 a0).getD (T_env_Var.mk [] [] 0 false)).f_Level : Int), .p .bool (((mget a1 a0).getD (T_env_Var.mk [] [] 0 false)).f_Hidden : Bool)] : List (AVal Un))) (.pair (.one _ _) (.pair (.one _ _) (.pair (.one _ _) (.pair (.one _ _) .unit)))))) rfl rfl rfl rfl rfl rfl) (.cons (mvA (v := .p .bool ((mget a1 a0).isSome : Bool)) rfl rfl) .nil)))))))))))) (by kernel_rfl) (by kernel_rfl) (by kernel_rfl) (cvR _) ?_
  refine tnU ?_
  refine WpC.seq ?_
  refine rgU (st1 := ⟨[(6, .p .bool ((mget a1 a0).isSome : Bool))], [(100000, .box [.mp 100001]), (100001, .map (.named 5) ((mdel a1 a0) : List ((List UInt8) × T_env_Var)))]⟩) [6] [100000, 100001] hN (.cons (mvU (v := .loc 100000 0) rfl rfl) (.cons (nlU (rs := [(16, .loc 100000 0)]) rfl rfl o0 rfl) (.cons (fdB (rs := [(17, .loc 100000 0)]) rfl rfl fd_91_0 (by decide) o0) (.cons (ldB (t := .bool) (rs := [(18, .loc 100000 0)]) [] [.mp 100001] [] (v := .mp 100001) rfl rfl ty1_89 o0 rfl rfl rfl rfl (.hand rfl rfl)) (.cons (mvU (v := .p .str a1) rfl rfl) (.cons (sok_delete (U := Un) (t := .named 5) (kvs := a0) (rs := [(19, .mp 100001), (20, .p .str a1)]) rfl rfl map_89 o0 o1) .nil)))))) (by kernel_rfl) (by kernel_rfl) (by kernel_rfl) (cvR _) ?_
  refine tnU ?_
  refine WpC.seq ?_
  refine rgU (st1 := ⟨[(4, .p .bool ((mget a1 a0).isSome : Bool))], [(100000, .box [.mp 100001]), (100001, .map (.named 5) ((mdel a1 a0) : List ((List UInt8) × T_env_Var)))]⟩) [4] [100000, 100001] hN (.cons (mvU (v := .p .bool ((mget a1 a0).isSome : Bool)) rfl rfl) (.cons (mvA (v := .p .bool ((mget a1 a0).isSome : Bool)) rfl rfl) .nil)) (by kernel_rfl) (by kernel_rfl) (by kernel_rfl) (cvR _) ?_
  refine tnU ?_
  refine WpC.ret ?_
  have hq := Option.some.inj h
  subst hq
  exact ends_ret (retV_1 rfl (.head _)) (ain_cons (.head _) (ain_cons (.tail _ (.head _)) ain_nil))

theorem millwrightref14_Env_Unset_m0.ok (O : Out) (hO : GOk O) (k : Nat) (a0 : List T_env_Var) (a1 : List UInt8) (out : Bool × (List T_env_Var)) (h : millwrightref14_Env_Unset_m0.f k a0 a1 = some out) : COk Un O Tryd.prog 34 { ar := [.loc 100000 0, .p .str a1], r := .p .bool out.1, bs := [(100000, .box [.p (.list (.named 5)) a0])], bs' := [(100000, .box [.p (.list (.named 5)) out.2])] } := by
  refine cok_of_wp Tryd.func34 rfl (k := 30) rfl (Nat.le_of_ble_eq_true rfl) (namesOk_of (by kernel_rfl)) ?_
  intro B hN
  refine WpC.conv (cvK (b := ⟨[(0, .loc 100000 0), (1, .p .str a1)], [(100000, .box [.p (.list (.named 5)) a0])]⟩) [0, 1] [100000] (by kernel_rfl)) ?_
  unfold millwrightref14_Env_Unset_m0.f at h
  refine WpC.seq ?_
  refine rgU (st1 := ⟨[(0, .loc 100000 0), (1, .p .str a1)], [(100000, .box [.p (.list (.named 5)) a0])]⟩) [0, 1] [100000] hN (.cons (moU (rs := []) rfl (.inr rfl) (.bool _ _)) .nil) (by kernel_rfl) (by kernel_rfl) (by kernel_rfl) (cvR _) ?_
  refine tnU ?_
  refine WpC.seq ?_
  obtain ⟨v1, hv1, h⟩ := bind_some h
  refine rgU (st1 := ⟨[(0, .loc 100000 0), (5, .p I6 v1)], [(100000, .box [.p (.list (.named 5)) a0])]⟩) [0, 5] [100000] hN (.cons (mvU (v := .loc 100000 0) rfl rfl) (.cons (mvU (v := .p .str a1) rfl rfl) (.cons (caV (rs := [(6, .loc 100000 0), (7, .p .str a1)]) (vw := []) rfl rfl (.func _) hb_36 (COk.ren (millwrightref14_Env_At_m0.ok O hO k a0 a1 v1 hv1) (fun n => if n = 100000 then 100000 else n) (injOn_of (by kernel_rfl))) (.cons o0 (.cons o1 .nil)) (.cons (.same _) (.cons (.same _) .nil)) (by simp) (.inl rfl)) (.cons (mvA (v := .p I6 v1) rfl rfl) .nil)))) (by kernel_rfl) (by kernel_rfl) (by kernel_rfl) (cvR _) ?_
  refine tnU ?_
  refine WpC.seq ?_
  refine WpC.seq ?_
  refine rgU (st1 := ⟨[(0, .loc 100000 0), (5, .p I6 v1), (10, .p .bool ((decide (v1 < 0)) : Bool))], [(100000, .box [.p (.list (.named 5)) a0])]⟩) [0, 5, 10] [100000] hN (.cons (mvU (v := .p I6 v1) rfl rfl) (.cons (cmU (rs := [(9, .p I6 v1)]) rfl rfl o0 (.int _ _ _) rfl) .nil)) (by kernel_rfl) (by kernel_rfl) (by kernel_rfl) (cvR _) ?_
  refine tnU ?_
  refine cdU (b := (decide (v1 < 0))) (.tmp (.tail _ (.tail _ (.head _)))) (fun hc2 => ?_) (fun hc2 => ?_)
  · replace h := ite_t hc2 h
    refine WpC.seq ?_
    refine rgU (st1 := ⟨[(4, .p .bool false)], [(100000, .box [.p (.list (.named 5)) a0])]⟩) [4] [100000] hN (.cons (moU (rs := []) rfl (.inr rfl) (.bool _ _)) .nil) (by kernel_rfl) (by kernel_rfl) (by kernel_rfl) (cvR _) ?_
    refine tnU ?_
    refine WpC.ret ?_
    refine thenQ_ret ?_
    have hq := Option.some.inj h
    subst hq
    exact ends_ret (retV_1 rfl (.head _)) (ain_cons (.head _) ain_nil)
  · replace h := ite_f hc2 h
    refine WpC.conv (cvK (b := ⟨[(0, .loc 100000 0), (5, .p I6 v1)], [(100000, .box [.p (.list (.named 5)) a0])]⟩) [0, 5] [100000] (by kernel_rfl)) (WpC.skip ?_)
    refine tnU ?_
    refine WpC.seq ?_
    obtain ⟨v3, hv3, h⟩ := bind_some h
    obtain ⟨g4, h⟩ := if_some h
    obtain ⟨v5, hv5, h⟩ := bind_some h
    obtain ⟨g6, h⟩ := if_some h
    refine WpC.regA (U := Un) (st1 := ⟨[], [(27, .row 66 (.named 5) ((([] : List T_env_Var) ++ v3) ++ v5) false), (100000, .box [.vec 27 4 0 (((([] : List T_env_Var) ++ v3) ++ v5).length)])]⟩) [] [27, 100000] [[], [], [], [2], [2, 3], [2, 3, 4], [], [2, 3, 4, 5, 6], [1, 2, 3, 4, 5, 6, 7], [], [9], [9, 10], [9, 10, 11], [], [13], [9, 10, 11, 12, 13, 14], [1, 2, 3, 4, 5, 6, 7, 8, 9, 10, 11, 12, 13, 14, 15], [0, 1, 2, 3, 4, 5, 6, 7, 8, 9, 10, 11, 12, 13, 14, 15, 16], [0, 1, 2, 3, 4, 5, 6, 7, 8, 9, 10, 11, 12, 13, 14, 15, 16, 17], [0, 1, 2, 3, 4, 5, 6, 7, 8, 9, 10, 11, 12, 13, 14, 15, 16, 17, 18]] mixed hN (.cons (mvU (v := .loc 100000 0) rfl rfl) (.cons (sok_buildSlice (U := Un) (t := .named 5) (rs := []) (ys := []) (xs := ([] : List T_env_Var)) rfl rfl rfl rfl row_56 .nil (by decide)) (.cons (mvU (v := .loc 100000 0) rfl rfl) (.cons (nlU (rs := [(13, .loc 100000 0)]) rfl rfl o0 rfl) (.cons (fdB (rs := [(14, .loc 100000 0)]) rfl rfl fd_58_0 (by decide) o0) (.cons (ldB (t := .list (.named 5)) (rs := [(15, .loc 100000 0)]) [] [.p (.list (.named 5)) a0] [] (v := .p (.list (.named 5)) a0) rfl rfl ty_56 o0 rfl rfl rfl rfl (.data (.one _ _))) (.cons (mvU (v := .p I6 v1) rfl rfl) (.cons (sok_sliceL (U := Un) (rs := [(16, .p (.list (.named 5)) a0), (17, .p I6 v1)]) rfl rfl sl_56 o0 .no (.at o1) hv3) (.cons (sok_append' (U := Un) (t := .named 5) (rs := [(12, .vec 12 4 0 (([] : List T_env_Var).length)), (18, .p (.list (.named 5)) v3)]) (vw := []) (xs := ([] : List T_env_Var)) (ys := v3) (fx := true) rfl rfl rfl row_56 (by decide) o0 o1 (.same _) (by simp) g4) (.cons (mvU (v := .loc 100000 0) rfl rfl) (.cons (nlU (rs := [(20, .loc 100000 0)]) rfl rfl o0 rfl) (.cons (fdB (rs := [(21, .loc 100000 0)]) rfl rfl fd_58_0 (by decide) o0) (.cons (ldB (t := .list (.named 5)) (rs := [(22, .loc 100000 0)]) [] [.p (.list (.named 5)) a0] [] (v := .p (.list (.named 5)) a0) rfl rfl ty_56 o0 rfl rfl rfl rfl (.data (.one _ _))) (.cons (mvU (v := .p I6 v1) rfl rfl) (.cons (sok_arith (U := Un) (rs := [(24, .p I6 v1)]) rfl rfl o0 (.int _ _ _) rfl) (.cons (sok_sliceL (U := Un) (rs := [(23, .p (.list (.named 5)) a0), (25, .p I6 ((IntKind.i64.wrap (v1 + 1)) : Int))]) rfl rfl sl_56 o0 (.at o1) .no hv5) (.cons (sok_append' (U := Un) (t := .named 5) (rs := [(19, .vec 19 4 0 ((([] : List T_env_Var) ++ v3).length)), (26, .p (.list (.named 5)) v5)]) (vw := []) (xs := (([] : List T_env_Var) ++ v3)) (ys := v5) (fx := false) rfl rfl rfl row_56 (by decide) o0 o1 (.same _) (by simp) g6) (.cons (nlU (rs := [(11, .loc 100000 0)]) rfl rfl o0 rfl) (.cons (fdB (rs := [(28, .loc 100000 0)]) rfl rfl fd_58_0 (by decide) o0) (.cons (sok_storeB (U := Un) (rs := [(29, .loc 100000 0), (27, .vec 27 4 0 (((([] : List T_env_Var) ++ v3) ++ v5).length))]) (v := .vec 27 4 0 (((([] : List T_env_Var) ++ v3) ++ v5).length)) (mid' := [.vec 27 4 0 (((([] : List T_env_Var) ++ v3) ++ v5).length)]) [] [.p (.list (.named 5)) a0] [] rfl rfl rfl ty_56 o0 o1 (.hand rfl) rfl rfl rfl rfl rfl rfl) .nil)))))))))))))))))))) (by kernel_rfl) (by kernel_rfl) (by kernel_rfl) (by kernel_rfl) (by kernel_rfl) (cvR _) ?_
    refine tnU ?_
    refine WpC.seq ?_
    refine rgU (st1 := ⟨[(4, .p .bool true)], [(27, .row 66 (.named 5) ((([] : List T_env_Var) ++ v3) ++ v5) false), (100000, .box [.vec 27 4 0 (((([] : List T_env_Var) ++ v3) ++ v5).length)])]⟩) [4] [27, 100000] hN (.cons (moU (rs := []) rfl (.inr rfl) (.bool _ _)) .nil) (by kernel_rfl) (by kernel_rfl) (by kernel_rfl) (cvR _) ?_
    refine tnU ?_
    refine WpC.conv (cvT (Conv.freezeU (U := Un) 100000 27 66 _ (.named 5) ((([] : List T_env_Var) ++ v3) ++ v5) false [] [] (.tail _ (.head _)) (by first | rfl | (simp only [upd_length, List.length_replicate, List.length_append]; done) | (simp only [upd_length, List.length_replicate, List.length_append] at *; omega) | omega) (.head _) (by kernel_rfl)) (cvK (b := ⟨[(4, .p .bool true)], [(100000, .box [.p (.list (.named 5)) (((([] : List T_env_Var) ++ v3) ++ v5) : List T_env_Var)])]⟩) [4] [100000] (by kernel_rfl))) (WpC.ret ?_)
    have hq := Option.some.inj h
    subst hq
    exact ends_ret (retV_1 rfl (.head _)) (ain_cons (.head _) ain_nil)

theorem millwrightref14_Same.ok (O : Out) (hO : GOk O) (k : Nat) (a0 : T_env_Var) (a1 : T_env_Var) (out : Bool) (h : millwrightref14_Same.f k a0 a1 = some out) : COk Un O Tryd.prog 37 { ar := [.p (.named 5) a0, .p (.named 5) a1], r := .p .bool out } := by
  refine cok_of_wp Tryd.func37 rfl (k := 31) rfl (Nat.le_of_ble_eq_true rfl) (namesOk_pure rfl rfl rfl rfl) ?_
  intro B hN
  refine WpC.conv (cvK (b := ⟨[(0, .p (.named 5) a0), (1, .p (.named 5) a1)], []⟩) [0, 1] [] (by kernel_rfl)) ?_
  unfold millwrightref14_Same.f at h
  refine WpC.seq ?_
  refine rgU (st1 := ⟨[(2, .loc 2 0), (3, .loc 3 0)], [(2, .box [.p .str a0.f_Name, .p (.list .str) a0.f_Words, .p I6 a0.f_Level, .p .bool a0.f_Hidden]), (3, .box [.p .str a1.f_Name, .p (.list .str) a1.f_Words, .p I6 a1.f_Level, .p .bool a1.f_Hidden])]⟩) [2, 3] [2, 3] hN (.cons (sok_box (U := Un) (rs := [(0, .p (.named 5) a0)]) (d := 2) (us := [.p .str a0.f_Name, .p (.list .str) a0.f_Words, .p I6 a0.f_Level, .p .bool a0.f_Hidden]) rfl rfl rfl o0 (.data (.named (us := ([.p .str a0.f_Name, .p (.list .str) a0.f_Words, .p I6 a0.f_Level, .p .bool a0.f_Hidden] : List (AVal Un))) (.pair (.one _ _) (.pair (.one _ _) (.pair (.one _ _) (.pair (.one _ _) .unit)))))) rfl (notin_of (by kernel_rfl))) (.cons (sok_box (U := Un) (rs := [(1, .p (.named 5) a1)]) (d := 3) (us := [.p .str a1.f_Name, .p (.list .str) a1.f_Words, .p I6 a1.f_Level, .p .bool a1.f_Hidden]) rfl rfl rfl o0 (.data (.named (us := ([.p .str a1.f_Name, .p (.list .str) a1.f_Words, .p I6 a1.f_Level, .p .bool a1.f_Hidden] : List (AVal Un))) (.pair (.one _ _) (.pair (.one _ _) (.pair (.one _ _) (.pair (.one _ _) .unit)))))) rfl (notin_of (by kernel_rfl))) (.cons (moU (rs := []) rfl (.inr rfl) (.bool _ _)) .nil))) (by kernel_rfl) (by kernel_rfl) (by kernel_rfl) (cvR _) ?_
  refine tnU ?_
  refine WpC.seq ?_
  rcases bool_cases (a0.f_Name == a1.f_Name) with hc1 | hc1
  · replace h := ite_t hc1 h
    rcases bool_cases (a0.f_Level == a1.f_Level) with hc2 | hc2
    · replace h := ite_t hc2 h
      rcases bool_cases (a0.f_Hidden == a1.f_Hidden) with hc3 | hc3
      · replace h := ite_t hc3 h
        obtain ⟨v4, hv4, h⟩ := bind_some h
        refine rgU (st1 := ⟨[(4, .p .bool v4)], []⟩) [4] [] hN (.cons (fdB (rs := [(2, .loc 2 0)]) rfl rfl fd_66_0 (by decide) o0) (.cons (ldB (t := .str) (rs := [(5, .loc 2 0)]) [] [.p .str a0.f_Name] [.p (.list .str) a0.f_Words, .p I6 a0.f_Level, .p .bool a0.f_Hidden] (v := .p .str a0.f_Name) rfl rfl ty_9 o0 rfl rfl rfl rfl (.data (.one _ _))) (.cons (fdB (rs := [(3, .loc 3 0)]) rfl rfl fd_66_0 (by decide) o0) (.cons (ldB (t := .str) (rs := [(7, .loc 3 0)]) [] [.p .str a1.f_Name] [.p (.list .str) a1.f_Words, .p I6 a1.f_Level, .p .bool a1.f_Hidden] (v := .p .str a1.f_Name) rfl rfl ty_9 o0 rfl rfl rfl rfl (.data (.one _ _))) (.cons (sok_cmpS (U := Un) (rs := [(6, .p .str a0.f_Name), (8, .p .str a1.f_Name)]) rfl rfl o0 o1 rfl) (.cons (mvU (v := .p .bool ((a0.f_Name == a1.f_Name) : Bool)) rfl rfl) (.cons (sok_run rfl rfl hc1 (fdB (rs := [(2, .loc 2 0)]) rfl rfl fd_66_2 (by decide) o0)) (.cons (sok_run rfl rfl hc1 (ldB (t := .int .i64) (rs := [(11, .loc 2 2)]) [.p .str a0.f_Name, .p (.list .str) a0.f_Words] [.p I6 a0.f_Level] [.p .bool a0.f_Hidden] (v := .p I6 a0.f_Level) rfl rfl ty_3 o0 rfl rfl rfl rfl (.data (.one _ _)))) (.cons (sok_run rfl rfl hc1 (fdB (rs := [(3, .loc 3 0)]) rfl rfl fd_66_2 (by decide) o0)) (.cons (sok_run rfl rfl hc1 (ldB (t := .int .i64) (rs := [(13, .loc 3 2)]) [.p .str a1.f_Name, .p (.list .str) a1.f_Words] [.p I6 a1.f_Level] [.p .bool a1.f_Hidden] (v := .p I6 a1.f_Level) rfl rfl ty_3 o0 rfl rfl rfl rfl (.data (.one _ _)))) (.cons (sok_run rfl rfl hc1 (cmU (rs := [(12, .p I6 a0.f_Level), (14, .p I6 a1.f_Level)]) rfl rfl o0 o1 rfl)) (.cons (pkT (rs := [(10, .p .bool ((a0.f_Name == a1.f_Name) : Bool)), (15, .p .bool ((a0.f_Level == a1.f_Level) : Bool))]) rfl rfl o0 hc1 o1) (.cons (mvU (v := .p .bool ((a0.f_Level == a1.f_Level) : Bool)) rfl rfl) (.cons (sok_run rfl rfl hc2 (fdB (rs := [(2, .loc 2 0)]) rfl rfl fd_66_3 (by decide) o0)) (.cons (sok_run rfl rfl hc2 (ldB (t := .bool) (rs := [(18, .loc 2 3)]) [.p .str a0.f_Name, .p (.list .str) a0.f_Words, .p I6 a0.f_Level] [.p .bool a0.f_Hidden] [] (v := .p .bool a0.f_Hidden) rfl rfl ty_4 o0 rfl rfl rfl rfl (.data (.one _ _)))) (.cons (sok_run rfl rfl hc2 (fdB (rs := [(3, .loc 3 0)]) rfl rfl fd_66_3 (by decide) o0)) (.cons (sok_run rfl rfl hc2 (ldB (t := .bool) (rs := [(20, .loc 3 3)]) [.p .str a1.f_Name, .p (.list .str) a1.f_Words, .p I6 a1.f_Level] [.p .bool a1.f_Hidden] [] (v := .p .bool a1.f_Hidden) rfl rfl ty_4 o0 rfl rfl rfl rfl (.data (.one _ _)))) (.cons (sok_run rfl rfl hc2 (sok_eqB (U := Un) (rs := [(19, .p .bool a0.f_Hidden), (21, .p .bool a1.f_Hidden)]) rfl rfl Tryd.underlying4 o0 o1)) (.cons (pkT (rs := [(17, .p .bool ((a0.f_Level == a1.f_Level) : Bool)), (22, .p .bool ((a0.f_Hidden == a1.f_Hidden) : Bool))]) rfl rfl o0 hc2 o1) (.cons (mvU (v := .p .bool ((a0.f_Hidden == a1.f_Hidden) : Bool)) rfl rfl) (.cons (sok_run rfl rfl hc3 (fdB (rs := [(2, .loc 2 0)]) rfl rfl fd_66_1 (by decide) o0)) (.cons (sok_run rfl rfl hc3 (ldB (t := .list .str) (rs := [(25, .loc 2 1)]) [.p .str a0.f_Name] [.p (.list .str) a0.f_Words] [.p I6 a0.f_Level, .p .bool a0.f_Hidden] (v := .p (.list .str) a0.f_Words) rfl rfl ty_22 o0 rfl rfl rfl rfl (.data (.one _ _)))) (.cons (sok_run rfl rfl hc3 (fdB (rs := [(3, .loc 3 0)]) rfl rfl fd_66_1 (by decide) o0)) (.cons (sok_run rfl rfl hc3 (ldB (t := .list .str) (rs := [(27, .loc 3 1)]) [.p .str a1.f_Name] [.p (.list .str) a1.f_Words] [.p I6 a1.f_Level, .p .bool a1.f_Hidden] (v := .p (.list .str) a1.f_Words) rfl rfl ty_22 o0 rfl rfl rfl rfl (.data (.one _ _)))) (.cons (sok_run rfl rfl hc3 (caV (rs := [(26, .p (.list .str) a0.f_Words), (28, .p (.list .str) a1.f_Words)]) (vw := []) rfl rfl (.func _) hb_12 (millwrightnum_SameTexts.ok O hO k a0.f_Words a1.f_Words v4 hv4) (.cons o0 (.cons o1 .nil)) (.cons (.same _) (.cons (.same _) .nil)) (by simp) (.inl rfl))) (.cons (pkT (rs := [(24, .p .bool ((a0.f_Hidden == a1.f_Hidden) : Bool)), (29, .p .bool v4)]) rfl rfl o0 hc3 o1) (.cons (mvA (v := .p .bool v4) rfl rfl) .nil))))))))))))))))))))))))))) (by kernel_rfl) (by kernel_rfl) (by kernel_rfl) (cvR _) ?_
        refine tnU ?_
        refine WpC.ret ?_
        have hq := Option.some.inj h
        subst hq
        exact ends_ret (retV_1 rfl (.head _)) ain_nil
      · replace h := ite_f hc3 h
        refine rgU (st1 := ⟨[(4, .p .bool false)], []⟩) [4] [] hN (.cons (fdB (rs := [(2, .loc 2 0)]) rfl rfl fd_66_0 (by decide) o0) (.cons (ldB (t := .str) (rs := [(5, .loc 2 0)]) [] [.p .str a0.f_Name] [.p (.list .str) a0.f_Words, .p I6 a0.f_Level, .p .bool a0.f_Hidden] (v := .p .str a0.f_Name) rfl rfl ty_9 o0 rfl rfl rfl rfl (.data (.one _ _))) (.cons (fdB (rs := [(3, .loc 3 0)]) rfl rfl fd_66_0 (by decide) o0) (.cons (ldB (t := .str) (rs := [(7, .loc 3 0)]) [] [.p .str a1.f_Name] [.p (.list .str) a1.f_Words, .p I6 a1.f_Level, .p .bool a1.f_Hidden] (v := .p .str a1.f_Name) rfl rfl ty_9 o0 rfl rfl rfl rfl (.data (.one _ _))) (.cons (sok_cmpS (U := Un) (rs := [(6, .p .str a0.f_Name), (8, .p .str a1.f_Name)]) rfl rfl o0 o1 rfl) (.cons (mvU (v := .p .bool ((a0.f_Name == a1.f_Name) : Bool)) rfl rfl) (.cons (sok_run rfl rfl hc1 (fdB (rs := [(2, .loc 2 0)]) rfl rfl fd_66_2 (by decide) o0)) (.cons (sok_run rfl rfl hc1 (ldB (t := .int .i64) (rs := [(11, .loc 2 2)]) [.p .str a0.f_Name, .p (.list .str) a0.f_Words] [.p I6 a0.f_Level] [.p .bool a0.f_Hidden] (v := .p I6 a0.f_Level) rfl rfl ty_3 o0 rfl rfl rfl rfl (.data (.one _ _)))) (.cons (sok_run rfl rfl hc1 (fdB (rs := [(3, .loc 3 0)]) rfl rfl fd_66_2 (by decide) o0)) (.cons (sok_run rfl rfl hc1 (ldB (t := .int .i64) (rs := [(13, .loc 3 2)]) [.p .str a1.f_Name, .p (.list .str) a1.f_Words] [.p I6 a1.f_Level] [.p .bool a1.f_Hidden] (v := .p I6 a1.f_Level) rfl rfl ty_3 o0 rfl rfl rfl rfl (.data (.one _ _)))) (.cons (sok_run rfl rfl hc1 (cmU (rs := [(12, .p I6 a0.f_Level), (14, .p I6 a1.f_Level)]) rfl rfl o0 o1 rfl)) (.cons (pkT (rs := [(10, .p .bool ((a0.f_Name == a1.f_Name) : Bool)), (15, .p .bool ((a0.f_Level == a1.f_Level) : Bool))]) rfl rfl o0 hc1 o1) (.cons (mvU (v := .p .bool ((a0.f_Level == a1.f_Level) : Bool)) rfl rfl) (.cons (sok_run rfl rfl hc2 (fdB (rs := [(2, .loc 2 0)]) rfl rfl fd_66_3 (by decide) o0)) (.cons (sok_run rfl rfl hc2 (ldB (t := .bool) (rs := [(18, .loc 2 3)]) [.p .str a0.f_Name, .p (.list .str) a0.f_Words, .p I6 a0.f_Level] [.p .bool a0.f_Hidden] [] (v := .p .bool a0.f_Hidden) rfl rfl ty_4 o0 rfl rfl rfl rfl (.data (.one _ _)))) (.cons (sok_run rfl rfl hc2 (fdB (rs := [(3, .loc 3 0)]) rfl rfl fd_66_3 (by decide) o0)) (.cons (sok_run rfl rfl hc2 (ldB (t := .bool) (rs := [(20, .loc 3 3)]) [.p .str a1.f_Name, .p (.list .str) a1.f_Words, .p I6 a1.f_Level] [.p .bool a1.f_Hidden] [] (v := .p .bool a1.f_Hidden) rfl rfl ty_4 o0 rfl rfl rfl rfl (.data (.one _ _)))) (.cons (sok_run rfl rfl hc2 (sok_eqB (U := Un) (rs := [(19, .p .bool a0.f_Hidden), (21, .p .bool a1.f_Hidden)]) rfl rfl Tryd.underlying4 o0 o1)) (.cons (pkT (rs := [(17, .p .bool ((a0.f_Level == a1.f_Level) : Bool)), (22, .p .bool ((a0.f_Hidden == a1.f_Hidden) : Bool))]) rfl rfl o0 hc2 o1) (.cons (mvU (v := .p .bool ((a0.f_Hidden == a1.f_Hidden) : Bool)) rfl rfl) (.cons (skU rfl rfl hc3) (.cons (skU rfl rfl hc3) (.cons (skU rfl rfl hc3) (.cons (skU rfl rfl hc3) (.cons (skU rfl rfl hc3) (.cons (pkF (rs := [(24, .p .bool ((a0.f_Hidden == a1.f_Hidden) : Bool))]) rfl rfl o0 hc3 (.bool _ _)) (.cons (mvA (v := .p .bool false) rfl rfl) .nil))))))))))))))))))))))))))) (by kernel_rfl) (by kernel_rfl) (by kernel_rfl) (cvR _) ?_
        refine tnU ?_
        refine WpC.ret ?_
        have hq := Option.some.inj h
        subst hq
        exact ends_ret (retV_1 rfl (.head _)) ain_nil
    · replace h := ite_f hc2 h
      refine rgU (st1 := ⟨[(4, .p .bool false)], []⟩) [4] [] hN (.cons (fdB (rs := [(2, .loc 2 0)]) rfl rfl fd_66_0 (by decide) o0) (.cons (ldB (t := .str) (rs := [(5, .loc 2 0)]) [] [.p .str a0.f_Name] [.p (.list .str) a0.f_Words, .p I6 a0.f_Level, .p .bool a0.f_Hidden] (v := .p .str a0.f_Name) rfl rfl ty_9 o0 rfl rfl rfl rfl (.data (.one _ _))) (.cons (fdB (rs := [(3, .loc 3 0)]) rfl rfl fd_66_0 (by decide) o0) (.cons (ldB (t := .str) (rs := [(7, .loc 3 0)]) [] [.p .str a1.f_Name] [.p (.list .str) a1.f_Words, .p I6 a1.f_Level, .p .bool a1.f_Hidden] (v := .p .str a1.f_Name) rfl rfl ty_9 o0 rfl rfl rfl rfl (.data (.one _ _))) (.cons (sok_cmpS (U := Un) (rs := [(6, .p .str a0.f_Name), (8, .p .str a1.f_Name)]) rfl rfl o0 o1 rfl) (.cons (mvU (v := .p .bool ((a0.f_Name == a1.f_Name) : Bool)) rfl rfl) (.cons (sok_run rfl rfl hc1 (fdB (rs := [(2, .loc 2 0)]) rfl rfl fd_66_2 (by decide) o0)) (.cons (sok_run rfl rfl hc1 (ldB (t := .int .i64) (rs := [(11, .loc 2 2)]) [.p .str a0.f_Name, .p (.list .str) a0.f_Words] [.p I6 a0.f_Level] [.p .bool a0.f_Hidden] (v := .p I6 a0.f_Level) rfl rfl ty_3 o0 rfl rfl rfl rfl (.data (.one _ _)))) (.cons (sok_run rfl rfl hc1 (fdB (rs := [(3, .loc 3 0)]) rfl rfl fd_66_2 (by decide) o0)) (.cons (sok_run rfl rfl hc1 (ldB (t := .int .i64) (rs := [(13, .loc 3 2)]) [.p .str a1.f_Name, .p (.list .str) a1.f_Words] [.p I6 a1.f_Level] [.p .bool a1.f_Hidden] (v := .p I6 a1.f_Level) rfl rfl ty_3 o0 rfl rfl rfl rfl (.data (.one _ _)))) (.cons (sok_run rfl rfl hc1 (cmU (rs := [(12, .p I6 a0.f_Level), (14, .p I6 a1.f_Level)]) rfl rfl o0 o1 rfl)) (.cons (pkT (rs := [(10, .p .bool ((a0.f_Name == a1.f_Name) : Bool)), (15, .p .bool ((a0.f_Level == a1.f_Level) : Bool))]) rfl rfl o0 hc1 o1) (.cons (mvU (v := .p .bool ((a0.f_Level == a1.f_Level) : Bool)) rfl rfl) (.cons (skU rfl rfl hc2) (.cons (skU rfl rfl hc2) (.cons (skU rfl rfl hc2) (.cons (skU rfl rfl hc2) (.cons (skU rfl rfl hc2) (.cons (pkF (rs := [(17, .p .bool ((a0.f_Level == a1.f_Level) : Bool))]) rfl rfl o0 hc2 (.bool _ _)) (.cons (mvU (v := .p .bool false) rfl rfl) (.cons (skU rfl rfl rfl) (.cons (skU rfl rfl rfl) (.cons (skU rfl rfl rfl) (.cons (skU rfl rfl rfl) (.cons (skU rfl rfl rfl) (.cons (pkF (rs := [(24, .p .bool false)]) rfl rfl o0 rfl (.bool _ _)) (.cons (mvA (v := .p .bool false) rfl rfl) .nil))))))))))))))))))))))))))) (by kernel_rfl) (by kernel_rfl) (by kernel_rfl) (cvR _) ?_
      refine tnU ?_
      refine WpC.ret ?_
      have hq := Option.some.inj h
      subst hq
      exact ends_ret (retV_1 rfl (.head _)) ain_nil
  · replace h := ite_f hc1 h
    refine rgU (st1 := ⟨[(4, .p .bool false)], []⟩) [4] [] hN (.cons (fdB (rs := [(2, .loc 2 0)]) rfl rfl fd_66_0 (by decide) o0) (.cons (ldB (t := .str) (rs := [(5, .loc 2 0)]) [] [.p .str a0.f_Name] [.p (.list .str) a0.f_Words, .p I6 a0.f_Level, .p .bool a0.f_Hidden] (v := .p .str a0.f_Name) rfl rfl ty_9 o0 rfl rfl rfl rfl (.data (.one _ _))) (.cons (fdB (rs := [(3, .loc 3 0)]) rfl rfl fd_66_0 (by decide) o0) (.cons (ldB (t := .str) (rs := [(7, .loc 3 0)]) [] [.p .str a1.f_Name] [.p (.list .str) a1.f_Words, .p I6 a1.f_Level, .p .bool a1.f_Hidden] (v := .p .str a1.f_Name) rfl rfl ty_9 o0 rfl rfl rfl rfl (.data (.one _ _))) (.cons (sok_cmpS (U := Un) (rs := [(6, .p .str a0.f_Name), (8, .p .str a1.f_Name)]) rfl rfl o0 o1 rfl) (.cons (mvU (v := .p .bool ((a0.f_Name == a1.f_Name) : Bool)) rfl rfl) (.cons (skU rfl rfl hc1) (.cons (skU rfl rfl hc1) (.cons (skU rfl rfl hc1) (.cons (skU rfl rfl hc1) (.cons (skU rfl rfl hc1) (.cons (pkF (rs := [(10, .p .bool ((a0.f_Name == a1.f_Name) : Bool))]) rfl rfl o0 hc1 (.bool _ _)) (.cons (mvU (v := .p .bool false) rfl rfl) (.cons (skU rfl rfl rfl) (.cons (skU rfl rfl rfl) (.cons (skU rfl rfl rfl) (.cons (skU rfl rfl rfl) (.cons (skU rfl rfl rfl) (.cons (pkF (rs := [(17, .p .bool false)]) rfl rfl o0 rfl (.bool _ _)) (.cons (mvU (v := .p .bool false) rfl rfl) (.cons (skU rfl rfl rfl) (.cons (skU rfl rfl rfl) (.cons (skU rfl rfl rfl) (.cons (skU rfl rfl rfl) (.cons (skU rfl rfl rfl) (.cons (pkF (rs := [(24, .p .bool false)]) rfl rfl o0 rfl (.bool _ _)) (.cons (mvA (v := .p .bool false) rfl rfl) .nil))))))))))))))))))))))))))) (by kernel_rfl) (by kernel_rfl) (by kernel_rfl) (cvR _) ?_
    refine tnU ?_
    refine WpC.ret ?_
    have hq := Option.some.inj h
    subst hq
    exact ends_ret (retV_1 rfl (.head _)) ain_nil

theorem millwrightref14_Env_Get_m0.ok (O : Out) (hO : GOk O) (k : Nat) (a0 : List T_env_Var) (a1 : List UInt8) (out : List (List UInt8)) (h : millwrightref14_Env_Get_m0.f k a0 a1 = some out) : COk Un O Tryd.prog 39 { ar := [.loc 100000 0, .p .str a1], r := .p (.list .str) out, bs := [(100000, .box [.p (.list (.named 5)) a0])], bs' := [(100000, .box [.p (.list (.named 5)) a0])] } := by
  refine cok_of_wp Tryd.func39 rfl (k := 19) rfl (Nat.le_of_ble_eq_true rfl) (namesOk_of (by kernel_rfl)) ?_
  intro B hN
  refine WpC.conv (cvK (b := ⟨[(0, .loc 100000 0), (1, .p .str a1)], [(100000, .box [.p (.list (.named 5)) a0])]⟩) [0, 1] [100000] (by kernel_rfl)) ?_
  unfold millwrightref14_Env_Get_m0.f at h
  refine WpC.seq ?_
  refine rgU (st1 := ⟨[(0, .loc 100000 0), (1, .p .str a1)], [(100000, .box [.p (.list (.named 5)) a0])]⟩) [0, 1] [100000] hN (.cons (moU (rs := []) rfl (.inr rfl) (.lit _ _ rfl)) .nil) (by kernel_rfl) (by kernel_rfl) (by kernel_rfl) (cvR _) ?_
  refine tnU ?_
  refine WpC.seq ?_
  obtain ⟨v1, hv1, h⟩ := bind_some h
  refine rgU (st1 := ⟨[(0, .loc 100000 0), (5, .p I6 v1)], [(100000, .box [.p (.list (.named 5)) a0])]⟩) [0, 5] [100000] hN (.cons (mvU (v := .loc 100000 0) rfl rfl) (.cons (mvU (v := .p .str a1) rfl rfl) (.cons (caV (rs := [(6, .loc 100000 0), (7, .p .str a1)]) (vw := []) rfl rfl (.func _) hb_36 (COk.ren (millwrightref14_Env_At_m0.ok O hO k a0 a1 v1 hv1) (fun n => if n = 100000 then 100000 else n) (injOn_of (by kernel_rfl))) (.cons o0 (.cons o1 .nil)) (.cons (.same _) (.cons (.same _) .nil)) (by simp) (.inl rfl)) (.cons (mvA (v := .p I6 v1) rfl rfl) .nil)))) (by kernel_rfl) (by kernel_rfl) (by kernel_rfl) (cvR _) ?_
  refine tnU ?_
  refine WpC.seq ?_
  refine WpC.seq ?_
  refine rgU (st1 := ⟨[(0, .loc 100000 0), (5, .p I6 v1), (10, .p .bool ((decide (v1 < 0)) : Bool))], [(100000, .box [.p (.list (.named 5)) a0])]⟩) [0, 5, 10] [100000] hN (.cons (mvU (v := .p I6 v1) rfl rfl) (.cons (cmU (rs := [(9, .p I6 v1)]) rfl rfl o0 (.int _ _ _) rfl) .nil)) (by kernel_rfl) (by kernel_rfl) (by kernel_rfl) (cvR _) ?_
  refine tnU ?_
  refine cdU (b := (decide (v1 < 0))) (.tmp (.tail _ (.tail _ (.head _)))) (fun hc2 => ?_) (fun hc2 => ?_)
  · replace h := ite_t hc2 h
    refine WpC.seq ?_
    refine rgU (st1 := ⟨[(4, .lit (.slice none 0 0))], [(100000, .box [.p (.list (.named 5)) a0])]⟩) [4] [100000] hN (.cons (moU (rs := []) rfl (.inr rfl) (.lit _ _ rfl)) .nil) (by kernel_rfl) (by kernel_rfl) (by kernel_rfl) (cvR _) ?_
    refine tnU ?_
    refine WpC.conv (cvT (Conv.nilL (U := Un) 4 .str (.head _)) (cvK (b := ⟨[(4, .p (.list .str) ([] : List (List UInt8)))], [(100000, .box [.p (.list (.named 5)) a0])]⟩) [4] [100000] (by kernel_rfl))) (WpC.ret ?_)
    refine thenQ_ret ?_
    have hq := Option.some.inj h
    subst hq
    exact ends_ret (retV_1 rfl (.head _)) (ain_cons (.head _) ain_nil)
  · replace h := ite_f hc2 h
    refine WpC.conv (cvK (b := ⟨[(0, .loc 100000 0), (5, .p I6 v1)], [(100000, .box [.p (.list (.named 5)) a0])]⟩) [0, 5] [100000] (by kernel_rfl)) (WpC.skip ?_)
    refine tnU ?_
    refine WpC.seq ?_
    obtain ⟨v3, hv3, h⟩ := bind_some h
    refine rgU (st1 := ⟨[(4, .p (.list .str) v3.f_Words)], [(100000, .box [.p (.list (.named 5)) a0])]⟩) [4] [100000] hN (.cons (mvU (v := .loc 100000 0) rfl rfl) (.cons (nlU (rs := [(11, .loc 100000 0)]) rfl rfl o0 rfl) (.cons (fdB (rs := [(12, .loc 100000 0)]) rfl rfl fd_58_0 (by decide) o0) (.cons (ldB (t := .list (.named 5)) (rs := [(13, .loc 100000 0)]) [] [.p (.list (.named 5)) a0] [] (v := .p (.list (.named 5)) a0) rfl rfl ty_56 o0 rfl rfl rfl rfl (.data (.one _ _))) (.cons (mvU (v := .p I6 v1) rfl rfl) (.cons (sok_indexL (U := Un) (rs := [(14, .p (.list (.named 5)) a0), (15, .p I6 v1)]) rfl rfl sl_56 o0 o1 hv3) (.cons (sok_fieldP (U := Un) (rs := [(16, .pp (.named 5) v3)]) rfl rfl fd_66_1 (by decide) o0 (.named (.snd (.fst (.here _ _)) rfl))) (.cons (sok_loadP (U := Un) (rs := [(17, .pp (.list .str) v3.f_Words)]) rfl rfl ty_22 o0) (.cons (mvA (v := .p (.list .str) v3.f_Words) rfl rfl) .nil))))))))) (by kernel_rfl) (by kernel_rfl) (by kernel_rfl) (cvR _) ?_
    refine tnU ?_
    refine WpC.ret ?_
    have hq := Option.some.inj h
    subst hq
    exact ends_ret (retV_1 rfl (.head _)) (ain_cons (.head _) ain_nil)

theorem env_Env_List_m0.ok (O : Out) (hO : GOk O) (k : Nat) (a0 : List ((List UInt8) × T_env_Var)) (out : List T_env_Var) (h : env_Env_List_m0.f k a0 = some out) : COk Un O Tryd.prog 58 { ar := [.loc 100000 0], r := .vec 60500 4 0 out.length, bs := [(100000, .box [.mp 100001]), (100001, .map (.named 5) a0)], bs' := [(60500, .row 60 (.named 5) out false), (100000, .box [.mp 100001]), (100001, .map (.named 5) a0)], nn := [60500] } := by
  refine cok_of_wp Tryd.func58 rfl (k := 29) rfl (Nat.le_of_ble_eq_true rfl) (namesOk_of (by kernel_rfl)) ?_
  intro B hN
  refine WpC.conv (cvK (b := ⟨[(0, .loc 100000 0)], [(100000, .box [.mp 100001]), (100001, .map (.named 5) a0)]⟩) [0] [100000, 100001] (by kernel_rfl)) ?_
  unfold env_Env_List_m0.f at h
  refine WpC.seq ?_
  refine rgU (st1 := ⟨[(0, .loc 100000 0)], [(100000, .box [.mp 100001]), (100001, .map (.named 5) a0)]⟩) [0] [100000, 100001] hN (.cons (moU (rs := []) rfl (.inr rfl) (.lit _ _ rfl)) .nil) (by kernel_rfl) (by kernel_rfl) (by kernel_rfl) (cvR _) ?_
  refine tnU ?_
  refine WpC.seq ?_
  refine rgU (st1 := ⟨[(0, .loc 100000 0), (3, .lit (.slice none 0 0))], [(100000, .box [.mp 100001]), (100001, .map (.named 5) a0)]⟩) [0, 3] [100000, 100001] hN (.cons (moU (rs := []) rfl (.inr rfl) (.lit _ _ rfl)) .nil) (by kernel_rfl) (by kernel_rfl) (by kernel_rfl) (cvR _) ?_
  refine tnU ?_
  refine sqJ (fun st' => ∃ v1 : List T_env_Var, env_Env_List_m0.j2 k a0 v1 = some out ∧ st' = ⟨[(3, .vec 1003 4 0 v1.length)], [(1003, .row 60 (.named 5) v1 false), (100000, .box [.mp 100001]), (100001, .map (.named 5) a0)]⟩) ?_ ?_
  · refine WpC.seq ?_
    obtain ⟨v3, hv3, h⟩ := bind_some h
    obtain ⟨v4, hv4, h⟩ := bind_some h
    refine rgU (st1 := ⟨[(0, .loc 100000 0), (3, .lit (.slice none 0 0)), (11, .p (.list .str) v4), (12, .p I6 ((v4.length : Int) : Int)), (13, .p I6 (0 : Int))], [(100000, .box [.mp 100001]), (100001, .map (.named 5) a0)]⟩) [0, 3, 11, 12, 13] [100000, 100001] hN (.cons (mvU (v := .loc 100000 0) rfl rfl) (.cons (nlU (rs := [(6, .loc 100000 0)]) rfl rfl o0 rfl) (.cons (fdB (rs := [(7, .loc 100000 0)]) rfl rfl fd_91_0 (by decide) o0) (.cons (ldB (t := .bool) (rs := [(8, .loc 100000 0)]) [] [.mp 100001] [] (v := .mp 100001) rfl rfl ty1_89 o0 rfl rfl rfl rfl (.hand rfl rfl)) (.cons (caV (rs := [(9, .mp 100001)]) (vw := []) rfl rfl (.func _) hb_79 (COk.ren (pKeys.ok (U := Un) (t := .named 5) O hO k a0 v3 hv3) (fun n => if n = 60500 then 10001 else if n = 100000 then 100001 else n) (injOn_of (by kernel_rfl))) (.cons o0 .nil) (.cons (.same _) .nil) (by simp) (.inl rfl)) (.cons (caV (rs := [(10, .clo 94 [.loc 10001 0])]) (vw := []) rfl rfl (.func _) hb_78 (COk.ren (pSorted.ok (U := Un) (t := .named 5) O hO k a0 v4 hv4) (fun n => if n = 100000 then 10001 else if n = 100001 then 100001 else n) (injOn_of (by kernel_rfl))) (.cons o0 .nil) (.cons (.same _) .nil) (by simp) (.inl rfl)) (.cons (sok_lenL (U := Un) (rs := [(11, .p (.list .str) v4)]) rfl rfl Tryd.underlying22 o0) (.cons (moU (rs := []) rfl (.inl rfl) (.int _ _ _)) .nil)))))))) (by kernel_rfl) (by kernel_rfl) (by kernel_rfl) (cvR _) ?_
    refine tnU ?_
    refine WpC.block ?_
    obtain ⟨o9, hlo9, h⟩ := bind_some h
    have hout10 := h
    clear h
    refine WpC.conv (cvT (Conv.thaw (U := Un) 3 1003 60 (.named 5) (.tail _ (.head _)) (by kernel_rfl) (by unfold K0; omega)) (cvK (b := ⟨[(0, .loc 100000 0), (3, .vec 1003 4 0 0), (11, .p (.list .str) v4), (12, .p I6 ((v4.length : Int) : Int)), (13, .p I6 (0 : Int))], [(1003, .row 60 (.named 5) [] false), (100000, .box [.mp 100001]), (100001, .map (.named 5) a0)]⟩) [0, 3, 11, 12, 13] [1003, 100000, 100001] (by kernel_rfl))) ?_
    refine WpC.loop (U := Un) (fun n st' => ∃ v5 : List T_env_Var, ∃ v6 : Int, env_Env_List_m0.l7 k a0 v4 n v5 v6 = some o9 ∧ st' = ⟨[(0, .loc 100000 0), (3, .vec 1003 4 0 v5.length), (11, .p (.list .str) v4), (12, .p I6 ((v4.length : Int) : Int)), (13, .p I6 v6)], [(1003, .row 60 (.named 5) v5 false), (100000, .box [.mp 100001]), (100001, .map (.named 5) a0)]⟩) k ⟨[], 0, hlo9, rfl⟩ ?_
    clear hlo9
    rintro (_ | n) _ ⟨v5, v6, h, rfl⟩
    · cases h
    · rw [env_Env_List_m0.l7] at h
      refine WpC.seq ?_
      refine rgU (st1 := ⟨[(0, .loc 100000 0), (3, .vec 1003 4 0 v5.length), (11, .p (.list .str) v4), (12, .p I6 ((v4.length : Int) : Int)), (13, .p I6 v6), (14, .p .bool ((decide (v6 < (v4.length : Int))) : Bool))], [(1003, .row 60 (.named 5) v5 false), (100000, .box [.mp 100001]), (100001, .map (.named 5) a0)]⟩) [0, 3, 11, 12, 13, 14] [1003, 100000, 100001] hN (.cons (cmU (rs := [(13, .p I6 v6), (12, .p I6 ((v4.length : Int) : Int))]) rfl rfl o0 o1 rfl) .nil) (by kernel_rfl) (by kernel_rfl) (by kernel_rfl) (cvR _) ?_
      refine tnU ?_
      refine WpC.seq ?_
      refine cdU (b := (decide (v6 < (v4.length : Int)))) (.tmp (.tail _ (.tail _ (.tail _ (.tail _ (.tail _ (.head _))))))) (fun hc11 => ?_) (fun hc11 => ?_)
      · replace h := ite_t hc11 h
        refine WpC.conv (cvK (b := ⟨[(0, .loc 100000 0), (3, .vec 1003 4 0 v5.length), (11, .p (.list .str) v4), (12, .p I6 ((v4.length : Int) : Int)), (13, .p I6 v6)], [(1003, .row 60 (.named 5) v5 false), (100000, .box [.mp 100001]), (100001, .map (.named 5) a0)]⟩) [0, 3, 11, 12, 13] [1003, 100000, 100001] (by kernel_rfl)) (WpC.skip ?_)
        refine tnU ?_
        refine WpC.seq ?_
        refine WpC.block ?_
        refine WpC.seq ?_
        obtain ⟨v12, hv12, h⟩ := bind_some h
        refine rgU (st1 := ⟨[(0, .loc 100000 0), (3, .vec 1003 4 0 v5.length), (5, .p .str v12), (11, .p (.list .str) v4), (12, .p I6 ((v4.length : Int) : Int)), (13, .p I6 v6)], [(1003, .row 60 (.named 5) v5 false), (100000, .box [.mp 100001]), (100001, .map (.named 5) a0)]⟩) [0, 3, 5, 11, 12, 13] [1003, 100000, 100001] hN (.cons (sok_indexL (U := Un) (rs := [(11, .p (.list .str) v4), (13, .p I6 v6)]) rfl rfl sl_22 o0 o1 hv12) (.cons (sok_loadP (U := Un) (rs := [(15, .pp .str v12)]) rfl rfl ty_9 o0) (.cons (mvA (v := .p .str v12) rfl rfl) .nil))) (by kernel_rfl) (by kernel_rfl) (by kernel_rfl) (cvR _) ?_
        refine tnU ?_
        obtain ⟨v13, hv13, h⟩ := bind_some h
        obtain ⟨g14, h⟩ := if_some h
        refine rgU (st1 := ⟨[(0, .loc 100000 0), (3, .vec 26 4 0 ((v5 ++ [v13]).length)), (11, .p (.list .str) v4), (12, .p I6 ((v4.length : Int) : Int)), (13, .p I6 v6)], [(26, .row 60 (.named 5) (v5 ++ [v13]) false), (100000, .box [.mp 100001]), (100001, .map (.named 5) a0)]⟩) [0, 3, 11, 12, 13] [26, 100000, 100001] hN (.cons (mvU (v := .vec 1003 4 0 v5.length) rfl rfl) (.cons (mvU (v := .loc 100000 0) rfl rfl) (.cons (nlU (rs := [(18, .loc 100000 0)]) rfl rfl o0 rfl) (.cons (fdB (rs := [(19, .loc 100000 0)]) rfl rfl fd_91_0 (by decide) o0) (.cons (ldB (t := .bool) (rs := [(20, .loc 100000 0)]) [] [.mp 100001] [] (v := .mp 100001) rfl rfl ty1_89 o0 rfl rfl rfl rfl (.hand rfl rfl)) (.cons (mvU (v := .p .str v12) rfl rfl) (.cons (sok_lookup (U := Un) (t := .named 5) (kvs := a0) (rs := [(21, .mp 100001), (22, .p .str v12)]) rfl rfl map_89 zv_60 o0 o1) (.cons (caV (rs := [(23, .p (.named 5) (((mget v12 a0).getD (T_env_Var.mk [] [] 0 false)) : T_env_Var))]) (vw := []) rfl rfl (.func _) hb_51 (env_Var_apart.ok O hO k ((mget v12 a0).getD (T_env_Var.mk [] [] 0 false)) v13 hv13) (.cons o0 .nil) (.cons (.same _) .nil) (by simp) (.inl rfl)) (.cons (sok_buildSlice (U := Un) (t := .named 5) (rs := [(24, .p (.named 5) v13)]) (ys := [.tmp 24]) (xs := [v13]) rfl rfl rfl rfl row_97 (.cons o0 .nil) (by decide)) (.cons (sok_append' (U := Un) (t := .named 5) (rs := [(17, .vec 1003 4 0 v5.length), (25, .vec 25 4 0 ([v13].length))]) (vw := [(25, .row 60 (.named 5) [v13] true)]) (xs := v5) (ys := [v13]) (fx := false) rfl rfl rfl row_97 (by decide) o0 o1 (.whole (.head _)) (by simp) g14) (.cons (mvA (v := .vec 26 4 0 ((v5 ++ [v13]).length)) rfl rfl) .nil))))))))))) (by kernel_rfl) (by kernel_rfl) (by kernel_rfl) (cvR _) ?_
        refine blockQ_normal ?_
        refine tnU ?_
        refine rgU (st1 := ⟨[(0, .loc 100000 0), (3, .vec 26 4 0 ((v5 ++ [v13]).length)), (11, .p (.list .str) v4), (12, .p I6 ((v4.length : Int) : Int)), (13, .p I6 ((IntKind.i64.wrap (v6 + 1)) : Int))], [(26, .row 60 (.named 5) (v5 ++ [v13]) false), (100000, .box [.mp 100001]), (100001, .map (.named 5) a0)]⟩) [0, 3, 11, 12, 13] [26, 100000, 100001] hN (.cons (sok_arith (U := Un) (rs := [(13, .p I6 v6)]) rfl rfl o0 (.int _ _ _) rfl) (.cons (mvU (v := .p I6 ((IntKind.i64.wrap (v6 + 1)) : Int)) rfl rfl) .nil)) (by kernel_rfl) (by kernel_rfl) (by kernel_rfl) (cvT (Conv.ren (U := Un) (st' := ⟨[(0, .loc 100000 0), (3, .vec 1003 4 0 ((v5 ++ [v13]).length)), (11, .p (.list .str) v4), (12, .p I6 ((v4.length : Int) : Int)), (13, .p I6 ((IntKind.i64.wrap (v6 + 1)) : Int))], [(1003, .row 60 (.named 5) (v5 ++ [v13]) false), (100000, .box [.mp 100001]), (100001, .map (.named 5) a0)]⟩) 26 1003 (by unfold K0; omega) (by kernel_rfl) (by kernel_rfl) (by kernel_rfl)) (cvK (b := ⟨[(0, .loc 100000 0), (3, .vec 1003 4 0 ((v5 ++ [v13]).length)), (11, .p (.list .str) v4), (12, .p I6 ((v4.length : Int) : Int)), (13, .p I6 ((IntKind.i64.wrap (v6 + 1)) : Int))], [(1003, .row 60 (.named 5) (v5 ++ [v13]) false), (100000, .box [.mp 100001]), (100001, .map (.named 5) a0)]⟩) [0, 3, 11, 12, 13] [1003, 100000, 100001] (by kernel_rfl))) ?_
        refine tnU ?_
        exact ⟨n, Nat.lt_succ_self n, (v5 ++ [v13]), (IntKind.i64.wrap (v6 + 1)), h, rfl⟩
      · replace h := ite_f hc11 h
        refine WpC.conv (cvK (b := ⟨[(3, .vec 1003 4 0 v5.length)], [(1003, .row 60 (.named 5) v5 false), (100000, .box [.mp 100001]), (100001, .map (.named 5) a0)]⟩) [3] [1003, 100000, 100001] (by kernel_rfl)) (WpC.exit ?_)
        refine thenQ_exit ?_
        have hq := Option.some.inj h
        subst hq
        refine thenQ_exit ?_
        have h := hout10
        refine blockQ_hit ?_
        refine tnU ?_
        exact ⟨v5, h, rfl⟩
  · rintro _ ⟨v1, h, rfl⟩
    unfold env_Env_List_m0.j2 at h
    refine WpC.seq ?_
    refine rgU (st1 := ⟨[(2, .vec 1003 4 0 v1.length)], [(1003, .row 60 (.named 5) v1 false), (100000, .box [.mp 100001]), (100001, .map (.named 5) a0)]⟩) [2] [1003, 100000, 100001] hN (.cons (mvU (v := .vec 1003 4 0 v1.length) rfl rfl) (.cons (mvA (v := .vec 1003 4 0 v1.length) rfl rfl) .nil)) (by kernel_rfl) (by kernel_rfl) (by kernel_rfl) (cvR _) ?_
    refine tnU ?_
    refine WpC.conv (cvT (Conv.ren (U := Un) (st' := ⟨[(2, .vec 60500 4 0 v1.length)], [(60500, .row 60 (.named 5) v1 false), (100000, .box [.mp 100001]), (100001, .map (.named 5) a0)]⟩) 1003 60500 (by unfold K0; omega) (by kernel_rfl) (by kernel_rfl) (by kernel_rfl)) (cvK (b := ⟨[(2, .vec 60500 4 0 v1.length)], [(60500, .row 60 (.named 5) v1 false), (100000, .box [.mp 100001]), (100001, .map (.named 5) a0)]⟩) [2] [60500, 100000, 100001] (by kernel_rfl))) (WpC.ret ?_)
    have hq := Option.some.inj h
    subst hq
    exact ends_ret (retV_1 rfl (.head _)) (ain_cons (.head _) (ain_cons (.tail _ (.head _)) (ain_cons (.tail _ (.tail _ (.head _))) ain_nil)))

end Go.Proofs.YtnbnfjgedinlbabDoor
