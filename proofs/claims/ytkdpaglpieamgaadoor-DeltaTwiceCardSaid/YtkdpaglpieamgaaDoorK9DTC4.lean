/- A part of the proof of a given law: DTC4. Own work, printed in part by a program of mine. -/
import Derived.Test.YtkdpaglpieamgaaDoorK9DTC3
namespace Go.Proofs.YtkdpaglpieamgaaDoor
open Go Go.AM
set_option linter.unusedVariables false
set_option linter.unusedSimpArgs false
set_option maxRecDepth 100000
theorem tree_Same_m0.ok (O : Out) (hO : GOk O) (k : Nat) (a0 : List ((List UInt8) × T_tree_File)) (a1 : List ((List UInt8) × T_tree_File)) (out : Bool) (h : tree_Same_m0.f k a0 a1 = some out) : COk Un O Tryd.prog 29 { ar := [.loc 100000 0, .loc 100002 0], r := .p .bool out, bs := [(100000, .box [.mp 100001]), (100001, .map (.named 3) a0), (100002, .box [.mp 100003]), (100003, .map (.named 3) a1)], bs' := [(100000, .box [.mp 100001]), (100001, .map (.named 3) a0), (100002, .box [.mp 100003]), (100003, .map (.named 3) a1)] } := by
  refine cok_of_wp Tryd.func29 rfl (k := 14) rfl (Nat.le_of_ble_eq_true rfl) (namesOk_of (by kernel_rfl)) ?_
  intro B hN
  refine WpC.conv (cvK (b := ⟨[(0, .loc 100000 0), (1, .loc 100002 0)], [(100000, .box [.mp 100001]), (100001, .map (.named 3) a0), (100002, .box [.mp 100003]), (100003, .map (.named 3) a1)]⟩) [0, 1] [100000, 100001, 100002, 100003] (by kernel_rfl)) ?_
  unfold tree_Same_m0.f at h
  refine WpC.seq ?_
  refine rgU (st1 := ⟨[(0, .loc 100000 0), (1, .loc 100002 0)], [(100000, .box [.mp 100001]), (100001, .map (.named 3) a0), (100002, .box [.mp 100003]), (100003, .map (.named 3) a1)]⟩) [0, 1] [100000, 100001, 100002, 100003] hN (.cons (moU (rs := []) rfl (.inr rfl) (.bool _ _)) .nil) (by kernel_rfl) (by kernel_rfl) (by kernel_rfl) (cvR _) ?_
  refine tnU ?_
  refine WpC.seq ?_
  obtain ⟨v1, hv1, h⟩ := bind_some h
  refine WpC.regA (U := Un) (st1 := ⟨[(4, .p .bool v1)], [(100000, .box [.mp 100001]), (100001, .map (.named 3) a0), (100002, .box [.mp 100003]), (100003, .map (.named 3) a1)]⟩) [4] [100000, 100001, 100002, 100003] [[], [0], [0, 1], [0, 1, 2], [], [4], [4, 5], [4, 5, 6], [0, 1, 2, 3, 4, 5, 6, 7], [0, 1, 2, 3, 4, 5, 6, 7, 8]] mixed hN (.cons (mvU (v := .loc 100000 0) rfl rfl) (.cons (nlU (rs := [(5, .loc 100000 0)]) rfl rfl o0 rfl) (.cons (fdB (rs := [(6, .loc 100000 0)]) rfl rfl fd_89_0 (by decide) o0) (.cons (ldB (t := .bool) (rs := [(7, .loc 100000 0)]) [] [.mp 100001] [] (v := .mp 100001) rfl rfl ty1_86 o0 rfl rfl rfl rfl (.hand rfl rfl)) (.cons (mvU (v := .loc 100002 0) rfl rfl) (.cons (nlU (rs := [(9, .loc 100002 0)]) rfl rfl o0 rfl) (.cons (fdB (rs := [(10, .loc 100002 0)]) rfl rfl fd_89_0 (by decide) o0) (.cons (ldB (t := .bool) (rs := [(11, .loc 100002 0)]) [] [.mp 100003] [] (v := .mp 100003) rfl rfl ty1_86 o0 rfl rfl rfl rfl (.hand rfl rfl)) (.cons (caV (rs := [(8, .mp 100001), (12, .mp 100003)]) (vw := []) rfl rfl (.func _) hb_60 (COk.ren (tree_File_60_m0.ok O hO k a0 a1 v1 hv1) (fun n => if n = 100000 then 100001 else if n = 100001 then 100003 else n) (injOn_of (by kernel_rfl))) (.cons o0 (.cons o1 .nil)) (.cons (.same _) (.cons (.same _) .nil)) (by simp) (.inl rfl)) (.cons (mvA (v := .p .bool v1) rfl rfl) .nil)))))))))) (by kernel_rfl) (by kernel_rfl) (by kernel_rfl) (by kernel_rfl) (by kernel_rfl) (cvR _) ?_
  refine tnU ?_
  refine WpC.ret ?_
  have hq := Option.some.inj h
  subst hq
  exact ends_ret (retV_1 rfl (.head _)) (ain_cons (.head _) (ain_cons (.tail _ (.head _)) (ain_cons (.tail _ (.tail _ (.head _))) (ain_cons (.tail _ (.tail _ (.tail _ (.head _)))) ain_nil))))

theorem millwrightlaw41_DeltaTwice.ok (O : Out) (hO : GOk O) (k : Nat) (a0 : List T_tree_File) (a1 : List T_tree_File) (a2 : List T_delta_Change) (out : Bool) (h : millwrightlaw41_DeltaTwice.f k a0 a1 a2 = some out) : COk Un O Tryd.prog 6 { ar := [.p (.list (.named 3)) a0, .p (.list (.named 3)) a1, .p (.list (.named 6)) a2], r := .p .bool out } := by
  refine cok_of_wp Tryd.func6 rfl (k := 66) rfl (Nat.le_of_ble_eq_true rfl) (namesOk_pure rfl rfl rfl rfl) ?_
  intro B hN
  refine WpC.conv (cvK (b := ⟨[(0, .p (.list (.named 3)) a0), (1, .p (.list (.named 3)) a1), (2, .p (.list (.named 6)) a2)], []⟩) [0, 1, 2] [] (by kernel_rfl)) ?_
  unfold millwrightlaw41_DeltaTwice.f at h
  refine WpC.seq ?_
  refine rgU (st1 := ⟨[(0, .p (.list (.named 3)) a0), (1, .p (.list (.named 3)) a1), (2, .p (.list (.named 6)) a2)], []⟩) [0, 1, 2] [] hN (.cons (moU (rs := []) rfl (.inr rfl) (.bool _ _)) .nil) (by kernel_rfl) (by kernel_rfl) (by kernel_rfl) (cvR _) ?_
  refine tnU ?_
  refine WpC.seq ?_
  refine WpC.seq ?_
  obtain ⟨v1, hv1, h⟩ := bind_some h
  refine rgU (st1 := ⟨[(0, .p (.list (.named 3)) a0), (1, .p (.list (.named 3)) a1), (2, .p (.list (.named 6)) a2), (15, .p .bool ((!v1) : Bool))], []⟩) [0, 1, 2, 15] [] hN (.cons (caV (rs := []) (vw := []) rfl rfl (.func _) hb_30 (millwrightlaw41_alive.ok O hO k v1 hv1) .nil .nil (by simp) (.inl rfl)) (.cons (sok_not (U := Un) (rs := [(14, .p .bool v1)]) rfl rfl o0) .nil)) (by kernel_rfl) (by kernel_rfl) (by kernel_rfl) (cvR _) ?_
  refine tnU ?_
  refine cdU (b := (!v1)) (.tmp (.tail _ (.tail _ (.tail _ (.head _))))) (fun hc2 => ?_) (fun hc2 => ?_)
  · replace h := ite_t hc2 h
    refine WpC.seq ?_
    refine rgU (st1 := ⟨[(6, .p .bool false)], []⟩) [6] [] hN (.cons (moU (rs := []) rfl (.inr rfl) (.bool _ _)) .nil) (by kernel_rfl) (by kernel_rfl) (by kernel_rfl) (cvR _) ?_
    refine tnU ?_
    refine WpC.ret ?_
    refine thenQ_ret ?_
    have hq := Option.some.inj h
    subst hq
    exact ends_ret (retV_1 rfl (.head _)) ain_nil
  · replace h := ite_f hc2 h
    refine WpC.conv (cvK (b := ⟨[(0, .p (.list (.named 3)) a0), (1, .p (.list (.named 3)) a1), (2, .p (.list (.named 6)) a2)], []⟩) [0, 1, 2] [] (by kernel_rfl)) (WpC.skip ?_)
    refine tnU ?_
    refine WpC.seq ?_
    obtain ⟨v3, hv3, h⟩ := bind_some h
    refine rgU (st1 := ⟨[(2, .p (.list (.named 6)) a2), (7, .opt v3.1 10001), (8, .opt v3.2.2.1 10003), (11, .p .bool v3.2.2.2.2.2.2.2.2)], [(10001, .opt v3.1 (.box [.mp 10002])), (10002, .opt v3.1 (.map (.named 3) v3.2.1)), (10003, .opt v3.2.2.1 (.box [.mp 10004])), (10004, .opt v3.2.2.1 (.map (.named 3) v3.2.2.2.1))]⟩) [2, 7, 8, 11] [10001, 10002, 10003, 10004] hN (.cons (mvU (v := .p (.list (.named 3)) a0) rfl rfl) (.cons (mvU (v := .p (.list (.named 3)) a1) rfl rfl) (.cons (caV (rs := [(17, .p (.list (.named 3)) a0), (18, .p (.list (.named 3)) a1)]) (vw := []) rfl rfl (.func _) hb_31 (COk.ren (millwrightlaw41_two.ok O hO k a0 a1 v3 hv3) (fun n => if n = 60500 then 10001 else if n = 60501 then 10002 else if n = 60502 then 10003 else if n = 60503 then 10004 else if n = 60504 then 10005 else if n = 60505 then 10006 else n) (injOn_of (by kernel_rfl))) (.cons o0 (.cons o1 .nil)) (.cons (.same _) (.cons (.same _) .nil)) (by simp) (.inl rfl)) (.cons (mvU (v := .tup [.opt v3.1 10001, .opt v3.2.2.1 10003, .opt v3.2.2.2.2.1 10005, .opt v3.2.2.2.2.2.2.1 10006, .p .bool v3.2.2.2.2.2.2.2.2]) rfl rfl) (.cons (exU (rs := [(16, .tup [.opt v3.1 10001, .opt v3.2.2.1 10003, .opt v3.2.2.2.2.1 10005, .opt v3.2.2.2.2.2.2.1 10006, .p .bool v3.2.2.2.2.2.2.2.2])]) rfl rfl o0 rfl) (.cons (exU (rs := [(16, .tup [.opt v3.1 10001, .opt v3.2.2.1 10003, .opt v3.2.2.2.2.1 10005, .opt v3.2.2.2.2.2.2.1 10006, .p .bool v3.2.2.2.2.2.2.2.2])]) rfl rfl o0 rfl) (.cons (exU (rs := [(16, .tup [.opt v3.1 10001, .opt v3.2.2.1 10003, .opt v3.2.2.2.2.1 10005, .opt v3.2.2.2.2.2.2.1 10006, .p .bool v3.2.2.2.2.2.2.2.2])]) rfl rfl o0 rfl) (.cons (exU (rs := [(16, .tup [.opt v3.1 10001, .opt v3.2.2.1 10003, .opt v3.2.2.2.2.1 10005, .opt v3.2.2.2.2.2.2.1 10006, .p .bool v3.2.2.2.2.2.2.2.2])]) rfl rfl o0 rfl) (.cons (exU (rs := [(16, .tup [.opt v3.1 10001, .opt v3.2.2.1 10003, .opt v3.2.2.2.2.1 10005, .opt v3.2.2.2.2.2.2.1 10006, .p .bool v3.2.2.2.2.2.2.2.2])]) rfl rfl o0 rfl) (.cons (mvA (v := .opt v3.1 10001) rfl rfl) (.cons (mvA (v := .opt v3.2.2.1 10003) rfl rfl) (.cons (mvA (v := .opt v3.2.2.2.2.1 10005) rfl rfl) (.cons (mvA (v := .opt v3.2.2.2.2.2.2.1 10006) rfl rfl) (.cons (mvA (v := .p .bool v3.2.2.2.2.2.2.2.2) rfl rfl) .nil)))))))))))))) (by kernel_rfl) (by kernel_rfl) (by kernel_rfl) (cvR _) ?_
    refine tnU ?_
    refine sqJ (fun st' => millwrightlaw41_DeltaTwice.j19 k a2 v3 = some out ∧ st' = ⟨[(2, .p (.list (.named 6)) a2), (7, .opt v3.1 10001), (8, .opt v3.2.2.1 10003)], [(10001, .opt v3.1 (.box [.mp 10002])), (10002, .opt v3.1 (.map (.named 3) v3.2.1)), (10003, .opt v3.2.2.1 (.box [.mp 10004])), (10004, .opt v3.2.2.1 (.map (.named 3) v3.2.2.2.1))]⟩) ?_ ?_
    · refine sqJ (fun st' => ∃ v20 : Bool, millwrightlaw41_DeltaTwice.j22 k a2 v3 v20 = some out ∧ st' = ⟨[(2, .p (.list (.named 6)) a2), (7, .opt v3.1 10001), (8, .opt v3.2.2.1 10003), (30, .p .bool v20)], [(10001, .opt v3.1 (.box [.mp 10002])), (10002, .opt v3.1 (.map (.named 3) v3.2.1)), (10003, .opt v3.2.2.1 (.box [.mp 10004])), (10004, .opt v3.2.2.1 (.map (.named 3) v3.2.2.2.1))]⟩) ?_ ?_
      · rcases bool_cases (!v3.2.2.2.2.2.2.2.2) with hc23 | hc23
        · replace h := ite_t hc23 h
          refine rgU (st1 := ⟨[(2, .p (.list (.named 6)) a2), (7, .opt v3.1 10001), (8, .opt v3.2.2.1 10003), (30, .p .bool true)], [(10001, .opt v3.1 (.box [.mp 10002])), (10002, .opt v3.1 (.map (.named 3) v3.2.1)), (10003, .opt v3.2.2.1 (.box [.mp 10004])), (10004, .opt v3.2.2.1 (.map (.named 3) v3.2.2.2.1))]⟩) [2, 7, 8, 30] [10001, 10002, 10003, 10004] hN (.cons (mvU (v := .p .bool v3.2.2.2.2.2.2.2.2) rfl rfl) (.cons (sok_not (U := Un) (rs := [(25, .p .bool v3.2.2.2.2.2.2.2.2)]) rfl rfl o0) (.cons (mvU (v := .p .bool ((!v3.2.2.2.2.2.2.2.2) : Bool)) rfl rfl) (.cons (skU rfl rfl hc23) (.cons (skU rfl rfl hc23) (.cons (pkT (rs := [(27, .p .bool ((!v3.2.2.2.2.2.2.2.2) : Bool))]) rfl rfl o0 hc23 (.bool _ _)) .nil)))))) (by kernel_rfl) (by kernel_rfl) (by kernel_rfl) (cvR _) ?_
          refine tnU ?_
          exact ⟨true, h, rfl⟩
        · replace h := ite_f hc23 h
          obtain ⟨v24, hv24, h⟩ := bind_some h
          refine rgU (st1 := ⟨[(2, .p (.list (.named 6)) a2), (7, .opt v3.1 10001), (8, .opt v3.2.2.1 10003), (30, .p .bool v24)], [(10001, .opt v3.1 (.box [.mp 10002])), (10002, .opt v3.1 (.map (.named 3) v3.2.1)), (10003, .opt v3.2.2.1 (.box [.mp 10004])), (10004, .opt v3.2.2.1 (.map (.named 3) v3.2.2.2.1))]⟩) [2, 7, 8, 30] [10001, 10002, 10003, 10004] hN (.cons (mvU (v := .p .bool v3.2.2.2.2.2.2.2.2) rfl rfl) (.cons (sok_not (U := Un) (rs := [(25, .p .bool v3.2.2.2.2.2.2.2.2)]) rfl rfl o0) (.cons (mvU (v := .p .bool ((!v3.2.2.2.2.2.2.2.2) : Bool)) rfl rfl) (.cons (sok_run rfl rfl hc23 (mvU (v := .p (.list (.named 6)) a2) rfl rfl)) (.cons (sok_run rfl rfl hc23 (caV (rs := [(28, .p (.list (.named 6)) a2)]) (vw := []) rfl rfl (.func _) hb_32 (millwrightlaw41_long.ok O hO k a2 v24 hv24) (.cons o0 .nil) (.cons (.same _) .nil) (by simp) (.inl rfl))) (.cons (pkF (rs := [(27, .p .bool ((!v3.2.2.2.2.2.2.2.2) : Bool)), (29, .p .bool v24)]) rfl rfl o0 hc23 o1) .nil)))))) (by kernel_rfl) (by kernel_rfl) (by kernel_rfl) (cvR _) ?_
          refine tnU ?_
          exact ⟨v24, h, rfl⟩
      · rintro _ ⟨v20, h, rfl⟩
        unfold millwrightlaw41_DeltaTwice.j22 at h
        refine cdU (b := v20) (.tmp (.tail _ (.tail _ (.tail _ (.head _))))) (fun hc21 => ?_) (fun hc21 => ?_)
        · replace h := ite_t hc21 h
          refine WpC.seq ?_
          refine rgU (st1 := ⟨[(6, .p .bool true)], []⟩) [6] [] hN (.cons (moU (rs := []) rfl (.inr rfl) (.bool _ _)) .nil) (by kernel_rfl) (by kernel_rfl) (by kernel_rfl) (cvR _) ?_
          refine tnU ?_
          refine WpC.ret ?_
          refine thenQ_ret ?_
          have hq := Option.some.inj h
          subst hq
          exact ends_ret (retV_1 rfl (.head _)) ain_nil
        · replace h := ite_f hc21 h
          refine WpC.conv (cvK (b := ⟨[(2, .p (.list (.named 6)) a2), (7, .opt v3.1 10001), (8, .opt v3.2.2.1 10003)], [(10001, .opt v3.1 (.box [.mp 10002])), (10002, .opt v3.1 (.map (.named 3) v3.2.1)), (10003, .opt v3.2.2.1 (.box [.mp 10004])), (10004, .opt v3.2.2.1 (.map (.named 3) v3.2.2.2.1))]⟩) [2, 7, 8] [10001, 10002, 10003, 10004] (by kernel_rfl)) (WpC.skip ?_)
          refine tnU ?_
          exact ⟨h, rfl⟩
    · rintro _ ⟨h, rfl⟩
      unfold millwrightlaw41_DeltaTwice.j19 at h
      refine WpC.seq ?_
      refine WpC.seq ?_
      obtain ⟨v4, hv4, h⟩ := bind_some h
      obtain ⟨v5, hv5, h⟩ := bind_some h
      obtain ⟨v6, hv6, h⟩ := bind_some h
      obtain ⟨v7, hv7, h⟩ := bind_some h
      refine rgU (st1 := ⟨[(7, .opt v3.1 10001), (8, .opt v3.2.2.1 10003), (37, .p .bool ((!v7) : Bool))], [(10001, .opt v3.1 (.box [.mp 10002])), (10002, .opt v3.1 (.map (.named 3) v3.2.1)), (10003, .opt v3.2.2.1 (.box [.mp 10004])), (10004, .opt v3.2.2.1 (.map (.named 3) v3.2.2.2.1))]⟩) [7, 8, 37] [10001, 10002, 10003, 10004] hN (.cons (mvU (v := .p (.list (.named 6)) a2) rfl rfl) (.cons (caV (rs := [(31, .p (.list (.named 6)) a2)]) (vw := []) rfl rfl (.func _) hb_34 (delta_Back.ok O hO k a2 v4 hv4) (.cons o0 .nil) (.cons (.same _) .nil) (by simp) (.inl rfl)) (.cons (caV (rs := [(32, .p (.list (.named 6)) v4)]) (vw := []) rfl rfl (.func _) hb_34 (delta_Back.ok O hO k v4 v5 hv5) (.cons o0 .nil) (.cons (.same _) .nil) (by simp) (.inl rfl)) (.cons (mvU (v := .p (.list (.named 6)) a2) rfl rfl) (.cons (caV (rs := [(34, .p (.list (.named 6)) a2)]) (vw := []) rfl rfl (.func _) hb_35 (millwrightlaw41_of.ok O hO k a2 v6 hv6) (.cons o0 .nil) (.cons (.same _) .nil) (by simp) (.inl rfl)) (.cons (caV (rs := [(33, .p (.list (.named 6)) v5), (35, .p (.list (.named 7)) v6)]) (vw := []) rfl rfl (.func _) hb_33 (millwrightlaw41_same.ok O hO k v5 v6 v7 hv7) (.cons o0 (.cons o1 .nil)) (.cons (.same _) (.cons (.same _) .nil)) (by simp) (.inl rfl)) (.cons (sok_not (U := Un) (rs := [(36, .p .bool v7)]) rfl rfl o0) .nil))))))) (by kernel_rfl) (by kernel_rfl) (by kernel_rfl) (cvR _) ?_
      refine tnU ?_
      refine cdU (b := (!v7)) (.tmp (.tail _ (.tail _ (.head _)))) (fun hc8 => ?_) (fun hc8 => ?_)
      · replace h := ite_t hc8 h
        refine WpC.seq ?_
        refine rgU (st1 := ⟨[(6, .p .bool false)], []⟩) [6] [] hN (.cons (moU (rs := []) rfl (.inr rfl) (.bool _ _)) .nil) (by kernel_rfl) (by kernel_rfl) (by kernel_rfl) (cvR _) ?_
        refine tnU ?_
        refine WpC.ret ?_
        refine thenQ_ret ?_
        have hq := Option.some.inj h
        subst hq
        exact ends_ret (retV_1 rfl (.head _)) ain_nil
      · replace h := ite_f hc8 h
        refine WpC.conv (cvK (b := ⟨[(7, .opt v3.1 10001), (8, .opt v3.2.2.1 10003)], [(10001, .opt v3.1 (.box [.mp 10002])), (10002, .opt v3.1 (.map (.named 3) v3.2.1)), (10003, .opt v3.2.2.1 (.box [.mp 10004])), (10004, .opt v3.2.2.1 (.map (.named 3) v3.2.2.2.1))]⟩) [7, 8] [10001, 10002, 10003, 10004] (by kernel_rfl)) (WpC.skip ?_)
        refine tnU ?_
        refine WpC.seq ?_
        obtain ⟨hc9, h⟩ := if_some h
        refine WpC.conv (cvT (Conv.openS (U := Un) 7 10001 hc9 (.head _)) (cvT (cvK (b := ⟨[(7, .loc 10001 0), (8, .opt v3.2.2.1 10003)], [(10001, .opt v3.1 (.box [.mp 10002])), (10002, .opt v3.1 (.map (.named 3) v3.2.1)), (10003, .opt v3.2.2.1 (.box [.mp 10004])), (10004, .opt v3.2.2.1 (.map (.named 3) v3.2.2.2.1))]⟩) [7, 8] [10001, 10002, 10003, 10004] (by kernel_rfl)) (cvT (Conv.openB (U := Un) 10001 (.box [.mp 10002]) hc9 (.head _)) (cvT (cvK (b := ⟨[(7, .loc 10001 0), (8, .opt v3.2.2.1 10003)], [(10001, .box [.mp 10002]), (10002, .opt v3.1 (.map (.named 3) v3.2.1)), (10003, .opt v3.2.2.1 (.box [.mp 10004])), (10004, .opt v3.2.2.1 (.map (.named 3) v3.2.2.2.1))]⟩) [7, 8] [10001, 10002, 10003, 10004] (by kernel_rfl)) (cvT (Conv.openB (U := Un) 10002 (.map (.named 3) v3.2.1) hc9 (.tail _ (.head _))) (cvK (b := ⟨[(7, .loc 10001 0), (8, .opt v3.2.2.1 10003)], [(10001, .box [.mp 10002]), (10002, .map (.named 3) v3.2.1), (10003, .opt v3.2.2.1 (.box [.mp 10004])), (10004, .opt v3.2.2.1 (.map (.named 3) v3.2.2.2.1))]⟩) [7, 8] [10001, 10002, 10003, 10004] (by kernel_rfl))))))) ?_
        obtain ⟨hc10, h⟩ := if_some h
        refine WpC.conv (cvT (Conv.openS (U := Un) 8 10003 hc10 (.tail _ (.head _))) (cvT (cvK (b := ⟨[(7, .loc 10001 0), (8, .loc 10003 0)], [(10001, .box [.mp 10002]), (10002, .map (.named 3) v3.2.1), (10003, .opt v3.2.2.1 (.box [.mp 10004])), (10004, .opt v3.2.2.1 (.map (.named 3) v3.2.2.2.1))]⟩) [7, 8] [10001, 10002, 10003, 10004] (by kernel_rfl)) (cvT (Conv.openB (U := Un) 10003 (.box [.mp 10004]) hc10 (.tail _ (.tail _ (.head _)))) (cvT (cvK (b := ⟨[(7, .loc 10001 0), (8, .loc 10003 0)], [(10001, .box [.mp 10002]), (10002, .map (.named 3) v3.2.1), (10003, .box [.mp 10004]), (10004, .opt v3.2.2.1 (.map (.named 3) v3.2.2.2.1))]⟩) [7, 8] [10001, 10002, 10003, 10004] (by kernel_rfl)) (cvT (Conv.openB (U := Un) 10004 (.map (.named 3) v3.2.2.2.1) hc10 (.tail _ (.tail _ (.tail _ (.head _))))) (cvK (b := ⟨[(7, .loc 10001 0), (8, .loc 10003 0)], [(10001, .box [.mp 10002]), (10002, .map (.named 3) v3.2.1), (10003, .box [.mp 10004]), (10004, .map (.named 3) v3.2.2.2.1)]⟩) [7, 8] [10001, 10002, 10003, 10004] (by kernel_rfl))))))) ?_
        obtain ⟨v11, hv11, h⟩ := bind_some h
        refine rgU (st1 := ⟨[(7, .loc 10001 0), (8, .loc 10003 0), (12, .p (.list (.named 6)) v11)], [(10001, .box [.mp 10002]), (10002, .map (.named 3) v3.2.1), (10003, .box [.mp 10004]), (10004, .map (.named 3) v3.2.2.2.1)]⟩) [7, 8, 12] [10001, 10002, 10003, 10004] hN (.cons (mvU (v := .loc 10001 0) rfl rfl) (.cons (mvU (v := .loc 10003 0) rfl rfl) (.cons (caV (rs := [(38, .loc 10001 0), (39, .loc 10003 0)]) (vw := []) rfl rfl (.func _) hb_36 (COk.ren (delta_Of_m0.ok O hO k v3.2.1 v3.2.2.2.1 v11 hv11) (fun n => if n = 100000 then 10001 else if n = 100001 then 10002 else if n = 100002 then 10003 else if n = 100003 then 10004 else n) (injOn_of (by kernel_rfl))) (.cons o0 (.cons o1 .nil)) (.cons (.same _) (.cons (.same _) .nil)) (by simp) (.inl rfl)) (.cons (mvA (v := .p (.list (.named 6)) v11) rfl rfl) .nil)))) (by kernel_rfl) (by kernel_rfl) (by kernel_rfl) (cvR _) ?_
        refine tnU ?_
        refine WpC.seq ?_
        refine WpC.seq ?_
        obtain ⟨v12, hv12, h⟩ := bind_some h
        refine rgU (st1 := ⟨[(7, .loc 10001 0), (8, .loc 10003 0), (12, .p (.list (.named 6)) v11), (44, .p .bool ((!(v12.1 == 0)) : Bool))], [(10001, .box [.mp 10002]), (10002, .map (.named 3) v12.2), (10003, .box [.mp 10004]), (10004, .map (.named 3) v3.2.2.2.1)]⟩) [7, 8, 12, 44] [10001, 10002, 10003, 10004] hN (.cons (mvU (v := .loc 10001 0) rfl rfl) (.cons (mvU (v := .p (.list (.named 6)) v11) rfl rfl) (.cons (caV (rs := [(41, .loc 10001 0), (42, .p (.list (.named 6)) v11)]) (vw := []) rfl rfl (.func _) hb_37 (COk.ren (delta_Apply_m0.ok O hO k v3.2.1 v11 v12 hv12) (fun n => if n = 100000 then 10001 else if n = 100001 then 10002 else n) (injOn_of (by kernel_rfl))) (.cons o0 (.cons o1 .nil)) (.cons (.same _) (.cons (.same _) .nil)) (by simp) (.inl rfl)) (.cons (sok_errNil (U := Un) (rs := [(43, .p .err v12.1)]) rfl rfl Tryd.underlying31 o0 rfl) .nil)))) (by kernel_rfl) (by kernel_rfl) (by kernel_rfl) (cvR _) ?_
        refine tnU ?_
        refine cdU (b := (!(v12.1 == 0))) (.tmp (.tail _ (.tail _ (.tail _ (.head _))))) (fun hc13 => ?_) (fun hc13 => ?_)
        · replace h := ite_t hc13 h
          refine WpC.seq ?_
          refine rgU (st1 := ⟨[(6, .p .bool false)], []⟩) [6] [] hN (.cons (moU (rs := []) rfl (.inr rfl) (.bool _ _)) .nil) (by kernel_rfl) (by kernel_rfl) (by kernel_rfl) (cvR _) ?_
          refine tnU ?_
          refine WpC.ret ?_
          refine thenQ_ret ?_
          have hq := Option.some.inj h
          subst hq
          exact ends_ret (retV_1 rfl (.head _)) ain_nil
        · replace h := ite_f hc13 h
          refine WpC.conv (cvK (b := ⟨[(7, .loc 10001 0), (8, .loc 10003 0), (12, .p (.list (.named 6)) v11)], [(10001, .box [.mp 10002]), (10002, .map (.named 3) v12.2), (10003, .box [.mp 10004]), (10004, .map (.named 3) v3.2.2.2.1)]⟩) [7, 8, 12] [10001, 10002, 10003, 10004] (by kernel_rfl)) (WpC.skip ?_)
          refine tnU ?_
          refine WpC.seq ?_
          obtain ⟨v14, hv14, h⟩ := bind_some h
          refine rgU (st1 := ⟨[(7, .loc 10001 0), (8, .loc 10003 0), (12, .p (.list (.named 6)) v11), (13, .p .err v14.1)], [(10001, .box [.mp 10002]), (10002, .map (.named 3) v14.2), (10003, .box [.mp 10004]), (10004, .map (.named 3) v3.2.2.2.1)]⟩) [7, 8, 12, 13] [10001, 10002, 10003, 10004] hN (.cons (mvU (v := .loc 10001 0) rfl rfl) (.cons (mvU (v := .p (.list (.named 6)) v11) rfl rfl) (.cons (caV (rs := [(45, .loc 10001 0), (46, .p (.list (.named 6)) v11)]) (vw := []) rfl rfl (.func _) hb_37 (COk.ren (delta_Apply_m0.ok O hO k v12.2 v11 v14 hv14) (fun n => if n = 100000 then 10001 else if n = 100001 then 10002 else n) (injOn_of (by kernel_rfl))) (.cons o0 (.cons o1 .nil)) (.cons (.same _) (.cons (.same _) .nil)) (by simp) (.inl rfl)) (.cons (mvA (v := .p .err v14.1) rfl rfl) .nil)))) (by kernel_rfl) (by kernel_rfl) (by kernel_rfl) (cvR _) ?_
          refine tnU ?_
          refine WpC.seq ?_
          rcases bool_cases ((v14.1 == 0) == ((v11.length : Int) == 0)) with hc15 | hc15
          · replace h := ite_t hc15 h
            obtain ⟨v16, hv16, h⟩ := bind_some h
            rcases bool_cases v16 with hc17 | hc17
            · replace h := ite_t hc17 h
              obtain ⟨v18, hv18, h⟩ := bind_some h
              refine rgU (st1 := ⟨[(6, .p .bool (((v18.length : Int) == 0) : Bool))], []⟩) [6] [] hN (.cons (mvU (v := .p .err v14.1) rfl rfl) (.cons (sok_errNil (U := Un) (rs := [(48, .p .err v14.1)]) rfl rfl Tryd.underlying31 o0 rfl) (.cons (mvU (v := .p (.list (.named 6)) v11) rfl rfl) (.cons (sok_lenL (U := Un) (rs := [(50, .p (.list (.named 6)) v11)]) rfl rfl Tryd.underlying60 o0) (.cons (cmU (rs := [(51, .p I6 ((v11.length : Int) : Int))]) rfl rfl o0 (.int _ _ _) rfl) (.cons (sok_eqB (U := Un) (rs := [(49, .p .bool ((v14.1 == 0) : Bool)), (52, .p .bool (((v11.length : Int) == 0) : Bool))]) rfl rfl Tryd.underlying4 o0 o1) (.cons (mvU (v := .p .bool (((v14.1 == 0) == ((v11.length : Int) == 0)) : Bool)) rfl rfl) (.cons (sok_run rfl rfl hc15 (mvU (v := .loc 10001 0) rfl rfl)) (.cons (sok_run rfl rfl hc15 (mvU (v := .loc 10003 0) rfl rfl)) (.cons (sok_run rfl rfl hc15 (caV (rs := [(55, .loc 10001 0), (56, .loc 10003 0)]) (vw := []) rfl rfl (.func _) hb_29 (COk.ren (tree_Same_m0.ok O hO k v14.2 v3.2.2.2.1 v16 hv16) (fun n => if n = 100000 then 10001 else if n = 100001 then 10002 else if n = 100002 then 10003 else if n = 100003 then 10004 else n) (injOn_of (by kernel_rfl))) (.cons o0 (.cons o1 .nil)) (.cons (.same _) (.cons (.same _) .nil)) (by simp) (.inl rfl))) (.cons (pkT (rs := [(54, .p .bool (((v14.1 == 0) == ((v11.length : Int) == 0)) : Bool)), (57, .p .bool v16)]) rfl rfl o0 hc15 o1) (.cons (mvU (v := .p .bool v16) rfl rfl) (.cons (sok_run rfl rfl hc17 (mvU (v := .loc 10001 0) rfl rfl)) (.cons (sok_run rfl rfl hc17 (mvU (v := .loc 10003 0) rfl rfl)) (.cons (sok_run rfl rfl hc17 (caV (rs := [(60, .loc 10001 0), (61, .loc 10003 0)]) (vw := []) rfl rfl (.func _) hb_36 (COk.ren (delta_Of_m0.ok O hO k v14.2 v3.2.2.2.1 v18 hv18) (fun n => if n = 100000 then 10001 else if n = 100001 then 10002 else if n = 100002 then 10003 else if n = 100003 then 10004 else n) (injOn_of (by kernel_rfl))) (.cons o0 (.cons o1 .nil)) (.cons (.same _) (.cons (.same _) .nil)) (by simp) (.inl rfl))) (.cons (sok_run rfl rfl hc17 (sok_lenL (U := Un) (rs := [(62, .p (.list (.named 6)) v18)]) rfl rfl Tryd.underlying60 o0)) (.cons (sok_run rfl rfl hc17 (cmU (rs := [(63, .p I6 ((v18.length : Int) : Int))]) rfl rfl o0 (.int _ _ _) rfl)) (.cons (pkT (rs := [(59, .p .bool v16), (64, .p .bool (((v18.length : Int) == 0) : Bool))]) rfl rfl o0 hc17 o1) (.cons (mvA (v := .p .bool (((v18.length : Int) == 0) : Bool)) rfl rfl) .nil))))))))))))))))))) (by kernel_rfl) (by kernel_rfl) (by kernel_rfl) (cvR _) ?_
              refine tnU ?_
              refine WpC.ret ?_
              have hq := Option.some.inj h
              subst hq
              exact ends_ret (retV_1 rfl (.head _)) ain_nil
            · replace h := ite_f hc17 h
              refine rgU (st1 := ⟨[(6, .p .bool false)], []⟩) [6] [] hN (.cons (mvU (v := .p .err v14.1) rfl rfl) (.cons (sok_errNil (U := Un) (rs := [(48, .p .err v14.1)]) rfl rfl Tryd.underlying31 o0 rfl) (.cons (mvU (v := .p (.list (.named 6)) v11) rfl rfl) (.cons (sok_lenL (U := Un) (rs := [(50, .p (.list (.named 6)) v11)]) rfl rfl Tryd.underlying60 o0) (.cons (cmU (rs := [(51, .p I6 ((v11.length : Int) : Int))]) rfl rfl o0 (.int _ _ _) rfl) (.cons (sok_eqB (U := Un) (rs := [(49, .p .bool ((v14.1 == 0) : Bool)), (52, .p .bool (((v11.length : Int) == 0) : Bool))]) rfl rfl Tryd.underlying4 o0 o1) (.cons (mvU (v := .p .bool (((v14.1 == 0) == ((v11.length : Int) == 0)) : Bool)) rfl rfl) (.cons (sok_run rfl rfl hc15 (mvU (v := .loc 10001 0) rfl rfl)) (.cons (sok_run rfl rfl hc15 (mvU (v := .loc 10003 0) rfl rfl)) (.cons (sok_run rfl rfl hc15 (caV (rs := [(55, .loc 10001 0), (56, .loc 10003 0)]) (vw := []) rfl rfl (.func _) hb_29 (COk.ren (tree_Same_m0.ok O hO k v14.2 v3.2.2.2.1 v16 hv16) (fun n => if n = 100000 then 10001 else if n = 100001 then 10002 else if n = 100002 then 10003 else if n = 100003 then 10004 else n) (injOn_of (by kernel_rfl))) (.cons o0 (.cons o1 .nil)) (.cons (.same _) (.cons (.same _) .nil)) (by simp) (.inl rfl))) (.cons (pkT (rs := [(54, .p .bool (((v14.1 == 0) == ((v11.length : Int) == 0)) : Bool)), (57, .p .bool v16)]) rfl rfl o0 hc15 o1) (.cons (mvU (v := .p .bool v16) rfl rfl) (.cons (skU rfl rfl hc17) (.cons (skU rfl rfl hc17) (.cons (skU rfl rfl hc17) (.cons (skU rfl rfl hc17) (.cons (skU rfl rfl hc17) (.cons (pkF (rs := [(59, .p .bool v16)]) rfl rfl o0 hc17 (.bool _ _)) (.cons (mvA (v := .p .bool false) rfl rfl) .nil))))))))))))))))))) (by kernel_rfl) (by kernel_rfl) (by kernel_rfl) (cvR _) ?_
              refine tnU ?_
              refine WpC.ret ?_
              have hq := Option.some.inj h
              subst hq
              exact ends_ret (retV_1 rfl (.head _)) ain_nil
          · replace h := ite_f hc15 h
            refine rgU (st1 := ⟨[(6, .p .bool false)], []⟩) [6] [] hN (.cons (mvU (v := .p .err v14.1) rfl rfl) (.cons (sok_errNil (U := Un) (rs := [(48, .p .err v14.1)]) rfl rfl Tryd.underlying31 o0 rfl) (.cons (mvU (v := .p (.list (.named 6)) v11) rfl rfl) (.cons (sok_lenL (U := Un) (rs := [(50, .p (.list (.named 6)) v11)]) rfl rfl Tryd.underlying60 o0) (.cons (cmU (rs := [(51, .p I6 ((v11.length : Int) : Int))]) rfl rfl o0 (.int _ _ _) rfl) (.cons (sok_eqB (U := Un) (rs := [(49, .p .bool ((v14.1 == 0) : Bool)), (52, .p .bool (((v11.length : Int) == 0) : Bool))]) rfl rfl Tryd.underlying4 o0 o1) (.cons (mvU (v := .p .bool (((v14.1 == 0) == ((v11.length : Int) == 0)) : Bool)) rfl rfl) (.cons (skU rfl rfl hc15) (.cons (skU rfl rfl hc15) (.cons (skU rfl rfl hc15) (.cons (pkF (rs := [(54, .p .bool (((v14.1 == 0) == ((v11.length : Int) == 0)) : Bool))]) rfl rfl o0 hc15 (.bool _ _)) (.cons (mvU (v := .p .bool false) rfl rfl) (.cons (skU rfl rfl rfl) (.cons (skU rfl rfl rfl) (.cons (skU rfl rfl rfl) (.cons (skU rfl rfl rfl) (.cons (skU rfl rfl rfl) (.cons (pkF (rs := [(59, .p .bool false)]) rfl rfl o0 rfl (.bool _ _)) (.cons (mvA (v := .p .bool false) rfl rfl) .nil))))))))))))))))))) (by kernel_rfl) (by kernel_rfl) (by kernel_rfl) (cvR _) ?_
            refine tnU ?_
            refine WpC.ret ?_
            have hq := Option.some.inj h
            subst hq
            exact ends_ret (retV_1 rfl (.head _)) ain_nil

end Go.Proofs.YtkdpaglpieamgaaDoor
