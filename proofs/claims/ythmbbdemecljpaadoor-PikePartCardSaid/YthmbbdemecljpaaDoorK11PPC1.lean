/- A part of the proof of a given law: PPC1. Own work, printed in part by a program of mine. -/
import Derived.Test.YthmbbdemecljpaaDoorK11PPC0
namespace Go.Proofs.YthmbbdemecljpaaDoor
open Go Go.AM
set_option linter.unusedVariables false
set_option linter.unusedSimpArgs false
set_option maxRecDepth 100000
theorem class_Set_Union_1.ok (O : Out) (hO : GOkA O) (k : Nat) (a0 : Int) (a1 : Int) (out : Int) (h : class_Set_Union_1.f k a0 a1 = some out) : COk Un O Tryd.prog 96 { ar := [.p (.int .u64) a0, .p (.int .u64) a1], r := .p (.int .u64) out } := by
  refine cok_of_wp Tryd.func96 rfl (k := 8) rfl (Nat.le_of_ble_eq_true rfl) (namesOk_pure rfl rfl rfl rfl) ?_
  intro B hN
  refine WpC.conv (cvK (b := ⟨[(0, .p (.int .u64) a0), (1, .p (.int .u64) a1)], []⟩) [0, 1] [] (by kernel_rfl)) ?_
  unfold class_Set_Union_1.f at h
  refine WpC.seq ?_
  refine rgU (st1 := ⟨[(0, .p (.int .u64) a0), (1, .p (.int .u64) a1)], []⟩) [0, 1] [] hN (.cons (moU (rs := []) rfl (.inr rfl) (.int _ _ _)) .nil) (by kernel_rfl) (by kernel_rfl) (by kernel_rfl) (cvR _) ?_
  refine tnU ?_
  refine WpC.seq ?_
  refine rgU (st1 := ⟨[(4, .p (.int .u64) ((bits .or .u64 a0 a1) : Int))], []⟩) [4] [] hN (.cons (mvU (v := .p (.int .u64) a0) rfl rfl) (.cons (mvU (v := .p (.int .u64) a1) rfl rfl) (.cons (sok_arith (U := Un) (rs := [(5, .p (.int .u64) a0), (6, .p (.int .u64) a1)]) rfl rfl o0 o1 rfl) (.cons (mvA (v := .p (.int .u64) ((bits .or .u64 a0 a1) : Int)) rfl rfl) .nil)))) (by kernel_rfl) (by kernel_rfl) (by kernel_rfl) (cvR _) ?_
  refine tnU ?_
  refine WpC.ret ?_
  have hq := Option.some.inj h
  subst hq
  exact ends_ret (retV_1 rfl (.head _)) ain_nil

theorem class_Set_both_m0.ok (O : Out) (hO : GOkA O) (k : Nat) (a0 : List Int) (a1 : List Int) (out : List Int) (h : class_Set_both_m0.f k a0 a1 = some out) : COk Un O Tryd.prog 95 { ar := [.p U6 a0, .p U6 a1, .clo 96 []], r := .p U6 out } := by
  refine cok_of_wp Tryd.func95 rfl (k := 23) rfl (Nat.le_of_ble_eq_true rfl) (namesOk_pure rfl rfl rfl rfl) ?_
  intro B hN
  refine WpC.conv (cvK (b := ⟨[(0, .p U6 a0), (1, .p U6 a1), (2, .clo 96 [])], []⟩) [0, 1, 2] [] (by kernel_rfl)) ?_
  unfold class_Set_both_m0.f at h
  refine WpC.seq ?_
  refine rgU (st1 := ⟨[(2, .clo 96 []), (3, .loc 3 0), (4, .loc 4 0), (6, .loc 6 0)], [(3, .box [.p U6 a0]), (4, .box [.p U6 a1]), (6, .box [.p U6 ((List.replicate 4 (0 : Int)) : List Int)])]⟩) [2, 3, 4, 6] [3, 4, 6] hN (.cons (sok_box (U := Un) (rs := [(0, .p U6 a0)]) (d := 3) (us := [.p U6 a0]) rfl rfl rfl o0 (.data (.one _ _)) rfl (notin_of (by kernel_rfl))) (.cons (sok_box (U := Un) (rs := [(1, .p U6 a1)]) (d := 4) (us := [.p U6 a1]) rfl rfl rfl o0 (.data (.one _ _)) rfl (notin_of (by kernel_rfl))) (.cons (sok_allocZ (U := Un) (rs := []) (d := 6) (us := [.p U6 ((List.replicate 4 (0 : Int)) : List Int)]) (v := (.agg #[.int .u64 0, .int .u64 0, .int .u64 0, .int .u64 0])) rfl rfl rfl (by kernel_rfl) rfl (.data (rd_zeros _ _) .nil) (by kernel_rfl)) .nil))) (by kernel_rfl) (by kernel_rfl) (by kernel_rfl) (cvR _) ?_
  refine tnU ?_
  refine sqJ (fun st' => ∃ v1 : List Int, class_Set_both_m0.j2 k v1 = some out ∧ st' = ⟨[(3, .loc 3 0), (6, .loc 6 0)], [(3, .box [.p U6 v1]), (6, .box [.p U6 ((List.replicate 4 (0 : Int)) : List Int)])]⟩) ?_ ?_
  · refine WpC.seq ?_
    refine rgU (st1 := ⟨[(2, .clo 96 []), (3, .loc 3 0), (4, .loc 4 0), (6, .loc 6 0), (8, .p I6 (0 : Int))], [(3, .box [.p U6 a0]), (4, .box [.p U6 a1]), (6, .box [.p U6 ((List.replicate 4 (0 : Int)) : List Int)])]⟩) [2, 3, 4, 6, 8] [3, 4, 6] hN (.cons (moU (rs := []) rfl (.inl rfl) (.int _ _ _)) .nil) (by kernel_rfl) (by kernel_rfl) (by kernel_rfl) (cvR _) ?_
    refine tnU ?_
    refine WpC.block ?_
    obtain ⟨o7, hlo7, h⟩ := bind_some h
    have hout8 := h
    clear h
    refine WpC.loop (U := Un) (fun n st' => ∃ v3 : List Int, ∃ v4 : Int, class_Set_both_m0.l5 k a1 n v3 v4 = some o7 ∧ st' = ⟨[(2, .clo 96 []), (3, .loc 3 0), (4, .loc 4 0), (6, .loc 6 0), (8, .p I6 v4)], [(3, .box [.p U6 v3]), (4, .box [.p U6 a1]), (6, .box [.p U6 ((List.replicate 4 (0 : Int)) : List Int)])]⟩) k ⟨a0, 0, hlo7, rfl⟩ ?_
    clear hlo7
    rintro (_ | n) _ ⟨v3, v4, h, rfl⟩
    · cases h
    · rw [class_Set_both_m0.l5] at h
      refine WpC.seq ?_
      refine rgU (st1 := ⟨[(2, .clo 96 []), (3, .loc 3 0), (4, .loc 4 0), (6, .loc 6 0), (8, .p I6 v4), (9, .p .bool ((decide (v4 < 4)) : Bool))], [(3, .box [.p U6 v3]), (4, .box [.p U6 a1]), (6, .box [.p U6 ((List.replicate 4 (0 : Int)) : List Int)])]⟩) [2, 3, 4, 6, 8, 9] [3, 4, 6] hN (.cons (cmU (rs := [(8, .p I6 v4)]) rfl rfl o0 (.int _ _ _) rfl) .nil) (by kernel_rfl) (by kernel_rfl) (by kernel_rfl) (cvR _) ?_
      refine tnU ?_
      refine WpC.seq ?_
      refine cdU (b := (decide (v4 < 4))) (.tmp (.tail _ (.tail _ (.tail _ (.tail _ (.tail _ (.head _))))))) (fun hc9 => ?_) (fun hc9 => ?_)
      · replace h := ite_t hc9 h
        refine WpC.conv (cvK (b := ⟨[(2, .clo 96 []), (3, .loc 3 0), (4, .loc 4 0), (6, .loc 6 0), (8, .p I6 v4)], [(3, .box [.p U6 v3]), (4, .box [.p U6 a1]), (6, .box [.p U6 ((List.replicate 4 (0 : Int)) : List Int)])]⟩) [2, 3, 4, 6, 8] [3, 4, 6] (by kernel_rfl)) (WpC.skip ?_)
        refine tnU ?_
        refine WpC.seq ?_
        refine WpC.block ?_
        refine WpC.seq ?_
        refine rgU (st1 := ⟨[(2, .clo 96 []), (3, .loc 3 0), (4, .loc 4 0), (6, .loc 6 0), (7, .p I6 v4), (8, .p I6 v4)], [(3, .box [.p U6 v3]), (4, .box [.p U6 a1]), (6, .box [.p U6 ((List.replicate 4 (0 : Int)) : List Int)])]⟩) [2, 3, 4, 6, 7, 8] [3, 4, 6] hN (.cons (mvU (v := .p I6 v4) rfl rfl) (.cons (mvA (v := .p I6 v4) rfl rfl) .nil)) (by kernel_rfl) (by kernel_rfl) (by kernel_rfl) (cvR _) ?_
        refine tnU ?_
        obtain ⟨g10, h⟩ := if_some h
        obtain ⟨v11, hv11, h⟩ := bind_some h
        obtain ⟨g12, h⟩ := if_some h
        obtain ⟨v13, hv13, h⟩ := bind_some h
        obtain ⟨v14, hv14, h⟩ := bind_some h
        obtain ⟨g15, h⟩ := if_some h
        obtain ⟨v16, hv16, h⟩ := bind_some h
        refine WpC.regA (U := Un) (st1 := ⟨[(2, .clo 96 []), (3, .loc 3 0), (4, .loc 4 0), (6, .loc 6 0), (8, .p I6 v4)], [(3, .box [.p U6 ((upd v3 v4.toNat v14) : List Int)]), (4, .box [.p U6 a1]), (6, .box [.p U6 ((List.replicate 4 (0 : Int)) : List Int)])]⟩) [2, 3, 4, 6, 8] [3, 4, 6] [[], [], [], [2], [2, 3], [], [5], [5, 6], [1, 2, 3, 4, 5, 6, 7], [0, 1, 2, 3, 4, 5, 6, 7, 8], [0, 1, 2, 3, 4, 5, 6, 7, 8, 9]] mixed hN (.cons (mvU (v := .p I6 v4) rfl rfl) (.cons (mvU (v := .clo 96 []) rfl rfl) (.cons (mvU (v := .p I6 v4) rfl rfl) (.cons (sok_indexA (U := Un) (t := .int .u64) (rs := [(3, .loc 3 0), (13, .p I6 v4)]) (q := 0) rfl rfl Tryd.underlying26 ty_24 o0 rfl o1 g10) (.cons (sok_loadU (U := Un) (t := .arr 4 (.int .u64)) (rs := [(14, .eloc 3 1 (0 + v4.toNat) 0)]) (X := v3) (v := .eloc 3 1 (0 + v4.toNat) 0) [] [] rfl rfl ty_24 o0 (.eloc _ _ _ _ rfl) rfl rfl (by show (0 + v4.toNat) * 1 + 0 = 0 + (v4.toNat * 1 + 0); omega) (.arr hv11 (.here _ _) rfl)) (.cons (mvU (v := .p I6 v4) rfl rfl) (.cons (sok_indexA (U := Un) (t := .int .u64) (rs := [(4, .loc 4 0), (16, .p I6 v4)]) (q := 0) rfl rfl Tryd.underlying26 ty_24 o0 rfl o1 g12) (.cons (sok_loadU (U := Un) (t := .arr 4 (.int .u64)) (rs := [(17, .eloc 4 1 (0 + v4.toNat) 0)]) (X := a1) (v := .eloc 4 1 (0 + v4.toNat) 0) [] [] rfl rfl ty_24 o0 (.eloc _ _ _ _ rfl) rfl rfl (by show (0 + v4.toNat) * 1 + 0 = 0 + (v4.toNat * 1 + 0); omega) (.arr hv13 (.here _ _) rfl)) (.cons (caV (rs := [(15, .p (.int .u64) v11), (18, .p (.int .u64) v13), (12, .clo 96 [])]) (vw := []) rfl rfl (.clo (.tmp (.tail _ (.tail _ (.head _))))) hb_96 (class_Set_Union_1.ok O hO k v11 v13 v14 hv14) (.cons o0 (.cons o1 .nil)) (.cons (.same _) (.cons (.same _) .nil)) (by simp) (.inl rfl)) (.cons (sok_indexA (U := Un) (t := .int .u64) (rs := [(3, .loc 3 0), (11, .p I6 v4)]) (q := 0) rfl rfl Tryd.underlying26 ty_24 o0 rfl o1 g15) (.cons (sok_storeU (U := Un) (t := .arr 4 (.int .u64)) (rs := [(20, .eloc 3 1 (0 + v4.toNat) 0), (19, .p (.int .u64) v14)]) (X := v3) (X' := (upd v3 v4.toNat v14)) (v := .eloc 3 1 (0 + v4.toNat) 0) [] [] rfl rfl rfl ty_24 o0 (.eloc _ _ _ _ rfl) o1 rfl rfl (by show (0 + v4.toNat) * 1 + 0 = 0 + (v4.toNat * 1 + 0); omega) (.arr hv16 .here rfl)) .nil))))))))))) (by kernel_rfl) (by kernel_rfl) (by kernel_rfl) (by kernel_rfl) (by kernel_rfl) (cvR _) ?_
        refine blockQ_normal ?_
        refine tnU ?_
        refine rgU (st1 := ⟨[(2, .clo 96 []), (3, .loc 3 0), (4, .loc 4 0), (6, .loc 6 0), (8, .p I6 ((IntKind.i64.wrap (v4 + 1)) : Int))], [(3, .box [.p U6 ((upd v3 v4.toNat v14) : List Int)]), (4, .box [.p U6 a1]), (6, .box [.p U6 ((List.replicate 4 (0 : Int)) : List Int)])]⟩) [2, 3, 4, 6, 8] [3, 4, 6] hN (.cons (sok_arith (U := Un) (rs := [(8, .p I6 v4)]) rfl rfl o0 (.int _ _ _) rfl) (.cons (mvU (v := .p I6 ((IntKind.i64.wrap (v4 + 1)) : Int)) rfl rfl) .nil)) (by kernel_rfl) (by kernel_rfl) (by kernel_rfl) (cvR _) ?_
        refine tnU ?_
        exact ⟨n, Nat.lt_succ_self n, (upd v3 v4.toNat v14), (IntKind.i64.wrap (v4 + 1)), h, rfl⟩
      · replace h := ite_f hc9 h
        refine WpC.conv (cvK (b := ⟨[(3, .loc 3 0), (6, .loc 6 0)], [(3, .box [.p U6 v3]), (6, .box [.p U6 ((List.replicate 4 (0 : Int)) : List Int)])]⟩) [3, 6] [3, 6] (by kernel_rfl)) (WpC.exit ?_)
        refine thenQ_exit ?_
        have hq := Option.some.inj h
        subst hq
        refine thenQ_exit ?_
        have h := hout8
        refine blockQ_hit ?_
        refine tnU ?_
        exact ⟨v3, h, rfl⟩
  · rintro _ ⟨v1, h, rfl⟩
    unfold class_Set_both_m0.j2 at h
    refine WpC.seq ?_
    refine rgU (st1 := ⟨[(6, .loc 6 0)], [(6, .box [.p U6 v1])]⟩) [6] [6] hN (.cons (ldB (t := .arr 4 (.int .u64)) (rs := [(3, .loc 3 0)]) [] [.p U6 v1] [] (v := .p U6 v1) rfl rfl ty_26 o0 rfl rfl rfl rfl (.data (.one _ _))) (.cons (sok_storeB (U := Un) (rs := [(6, .loc 6 0), (22, .p U6 v1)]) (v := .p U6 v1) (mid' := [.p U6 v1]) [] [.p U6 ((List.replicate 4 (0 : Int)) : List Int)] [] rfl rfl rfl ty_26 o0 o1 (.data (.one _ _)) rfl rfl rfl rfl rfl rfl) .nil)) (by kernel_rfl) (by kernel_rfl) (by kernel_rfl) (cvR _) ?_
    refine tnU ?_
    refine WpC.ret ?_
    have hq := Option.some.inj h
    subst hq
    exact ends_ret (retV_L (U := Un) (vs := [.p U6 v1]) rfl (ResL.cell (U := Un) [] [.p U6 v1] [] (.head _) (.head _) rfl rfl rfl rfl ty_26 (.data (.one _ _)) .nil)) ain_nil

theorem class_Set_Union.ok (O : Out) (hO : GOkA O) (k : Nat) (a0 : List Int) (a1 : List Int) (out : List Int) (h : class_Set_Union.f k a0 a1 = some out) : COk Un O Tryd.prog 81 { ar := [.p U6 a0, .p U6 a1], r := .p U6 out } := by
  refine cok_of_wp Tryd.func81 rfl (k := 8) rfl (Nat.le_of_ble_eq_true rfl) (namesOk_pure rfl rfl rfl rfl) ?_
  intro B hN
  refine WpC.conv (cvK (b := ⟨[(0, .p U6 a0), (1, .p U6 a1)], []⟩) [0, 1] [] (by kernel_rfl)) ?_
  unfold class_Set_Union.f at h
  refine WpC.seq ?_
  refine rgU (st1 := ⟨[(2, .loc 2 0), (3, .loc 3 0), (4, .loc 4 0)], [(2, .box [.p U6 a0]), (3, .box [.p U6 a1]), (4, .box [.p U6 ((List.replicate 4 (0 : Int)) : List Int)])]⟩) [2, 3, 4] [2, 3, 4] hN (.cons (sok_box (U := Un) (rs := [(0, .p U6 a0)]) (d := 2) (us := [.p U6 a0]) rfl rfl rfl o0 (.data (.one _ _)) rfl (notin_of (by kernel_rfl))) (.cons (sok_box (U := Un) (rs := [(1, .p U6 a1)]) (d := 3) (us := [.p U6 a1]) rfl rfl rfl o0 (.data (.one _ _)) rfl (notin_of (by kernel_rfl))) (.cons (sok_allocZ (U := Un) (rs := []) (d := 4) (us := [.p U6 ((List.replicate 4 (0 : Int)) : List Int)]) (v := (.agg #[.int .u64 0, .int .u64 0, .int .u64 0, .int .u64 0])) rfl rfl rfl (by kernel_rfl) rfl (.data (rd_zeros _ _) .nil) (by kernel_rfl)) .nil))) (by kernel_rfl) (by kernel_rfl) (by kernel_rfl) (cvR _) ?_
  refine tnU ?_
  refine WpC.seq ?_
  obtain ⟨v1, hv1, h⟩ := bind_some h
  refine rgU (st1 := ⟨[(4, .loc 4 0)], [(4, .box [.p U6 v1])]⟩) [4] [4] hN (.cons (ldB (t := .arr 4 (.int .u64)) (rs := [(2, .loc 2 0)]) [] [.p U6 a0] [] (v := .p U6 a0) rfl rfl ty_26 o0 rfl rfl rfl rfl (.data (.one _ _))) (.cons (ldB (t := .arr 4 (.int .u64)) (rs := [(3, .loc 3 0)]) [] [.p U6 a1] [] (v := .p U6 a1) rfl rfl ty_26 o0 rfl rfl rfl rfl (.data (.one _ _))) (.cons (caV (rs := [(5, .p U6 a0), (6, .p U6 a1)]) (vw := []) rfl rfl (.func _) hb_95 (class_Set_both_m0.ok O hO k a0 a1 v1 hv1) (.cons o0 (.cons o1 (.cons (.func _ _) .nil))) (.cons (.same _) (.cons (.same _) (.cons (.same _) .nil))) (by simp) (.inl rfl)) (.cons (sok_storeB (U := Un) (rs := [(4, .loc 4 0), (7, .p U6 v1)]) (v := .p U6 v1) (mid' := [.p U6 v1]) [] [.p U6 ((List.replicate 4 (0 : Int)) : List Int)] [] rfl rfl rfl ty_26 o0 o1 (.data (.one _ _)) rfl rfl rfl rfl rfl rfl) .nil)))) (by kernel_rfl) (by kernel_rfl) (by kernel_rfl) (cvR _) ?_
  refine tnU ?_
  refine WpC.ret ?_
  have hq := Option.some.inj h
  subst hq
  exact ends_ret (retV_L (U := Un) (vs := [.p U6 v1]) rfl (ResL.cell (U := Un) [] [.p U6 v1] [] (.head _) (.head _) rfl rfl rfl rfl ty_26 (.data (.one _ _)) .nil)) ain_nil

theorem class_Set_Not.ok (O : Out) (hO : GOkA O) (k : Nat) (a0 : List Int) (out : List Int) (h : class_Set_Not.f k a0 = some out) : COk Un O Tryd.prog 109 { ar := [.p U6 a0], r := .p U6 out } := by
  refine cok_of_wp Tryd.func109 rfl (k := 16) rfl (Nat.le_of_ble_eq_true rfl) (namesOk_pure rfl rfl rfl rfl) ?_
  intro B hN
  refine WpC.conv (cvK (b := ⟨[(0, .p U6 a0)], []⟩) [0] [] (by kernel_rfl)) ?_
  unfold class_Set_Not.f at h
  refine WpC.seq ?_
  refine rgU (st1 := ⟨[(1, .loc 1 0), (2, .loc 2 0)], [(1, .box [.p U6 a0]), (2, .box [.p U6 ((List.replicate 4 (0 : Int)) : List Int)])]⟩) [1, 2] [1, 2] hN (.cons (sok_box (U := Un) (rs := [(0, .p U6 a0)]) (d := 1) (us := [.p U6 a0]) rfl rfl rfl o0 (.data (.one _ _)) rfl (notin_of (by kernel_rfl))) (.cons (sok_allocZ (U := Un) (rs := []) (d := 2) (us := [.p U6 ((List.replicate 4 (0 : Int)) : List Int)]) (v := (.agg #[.int .u64 0, .int .u64 0, .int .u64 0, .int .u64 0])) rfl rfl rfl (by kernel_rfl) rfl (.data (rd_zeros _ _) .nil) (by kernel_rfl)) .nil)) (by kernel_rfl) (by kernel_rfl) (by kernel_rfl) (cvR _) ?_
  refine tnU ?_
  refine sqJ (fun st' => ∃ v1 : List Int, class_Set_Not.j2 k v1 = some out ∧ st' = ⟨[(1, .loc 1 0), (2, .loc 2 0)], [(1, .box [.p U6 v1]), (2, .box [.p U6 ((List.replicate 4 (0 : Int)) : List Int)])]⟩) ?_ ?_
  · refine WpC.seq ?_
    refine rgU (st1 := ⟨[(1, .loc 1 0), (2, .loc 2 0), (5, .p U6 a0), (6, .p I6 (0 : Int))], [(1, .box [.p U6 a0]), (2, .box [.p U6 ((List.replicate 4 (0 : Int)) : List Int)])]⟩) [1, 2, 5, 6] [1, 2] hN (.cons (ldB (t := .arr 4 (.int .u64)) (rs := [(1, .loc 1 0)]) [] [.p U6 a0] [] (v := .p U6 a0) rfl rfl ty_26 o0 rfl rfl rfl rfl (.data (.one _ _))) (.cons (moU (rs := []) rfl (.inl rfl) (.int _ _ _)) .nil)) (by kernel_rfl) (by kernel_rfl) (by kernel_rfl) (cvR _) ?_
    refine tnU ?_
    refine WpC.block ?_
    obtain ⟨o7, hlo7, h⟩ := bind_some h
    have hout8 := h
    clear h
    refine WpC.loop (U := Un) (fun n st' => ∃ v3 : List Int, ∃ v4 : Int, class_Set_Not.l5 k a0 n v3 v4 = some o7 ∧ st' = ⟨[(1, .loc 1 0), (2, .loc 2 0), (5, .p U6 a0), (6, .p I6 v4)], [(1, .box [.p U6 v3]), (2, .box [.p U6 ((List.replicate 4 (0 : Int)) : List Int)])]⟩) k ⟨a0, 0, hlo7, rfl⟩ ?_
    clear hlo7
    rintro (_ | n) _ ⟨v3, v4, h, rfl⟩
    · cases h
    · rw [class_Set_Not.l5] at h
      refine WpC.seq ?_
      refine rgU (st1 := ⟨[(1, .loc 1 0), (2, .loc 2 0), (5, .p U6 a0), (6, .p I6 v4), (7, .p .bool ((decide (v4 < 4)) : Bool))], [(1, .box [.p U6 v3]), (2, .box [.p U6 ((List.replicate 4 (0 : Int)) : List Int)])]⟩) [1, 2, 5, 6, 7] [1, 2] hN (.cons (cmU (rs := [(6, .p I6 v4)]) rfl rfl o0 (.int _ _ _) rfl) .nil) (by kernel_rfl) (by kernel_rfl) (by kernel_rfl) (cvR _) ?_
      refine tnU ?_
      refine WpC.seq ?_
      refine cdU (b := (decide (v4 < 4))) (.tmp (.tail _ (.tail _ (.tail _ (.tail _ (.head _)))))) (fun hc9 => ?_) (fun hc9 => ?_)
      · replace h := ite_t hc9 h
        refine WpC.conv (cvK (b := ⟨[(1, .loc 1 0), (2, .loc 2 0), (5, .p U6 a0), (6, .p I6 v4)], [(1, .box [.p U6 v3]), (2, .box [.p U6 ((List.replicate 4 (0 : Int)) : List Int)])]⟩) [1, 2, 5, 6] [1, 2] (by kernel_rfl)) (WpC.skip ?_)
        refine tnU ?_
        refine WpC.seq ?_
        refine WpC.block ?_
        refine WpC.seq ?_
        obtain ⟨v10, hv10, h⟩ := bind_some h
        refine rgU (st1 := ⟨[(1, .loc 1 0), (2, .loc 2 0), (3, .p I6 v4), (4, .p (.int .u64) v10), (5, .p U6 a0), (6, .p I6 v4)], [(1, .box [.p U6 v3]), (2, .box [.p U6 ((List.replicate 4 (0 : Int)) : List Int)])]⟩) [1, 2, 3, 4, 5, 6] [1, 2] hN (.cons (mvU (v := .p I6 v4) rfl rfl) (.cons (sok_indexR (U := Un) (rs := [(5, .p U6 a0), (6, .p I6 v4)]) rfl rfl Tryd.underlying26 ty_24 o0 o1 hv10) (.cons (mvA (v := .p I6 v4) rfl rfl) (.cons (mvA (v := .p (.int .u64) v10) rfl rfl) .nil)))) (by kernel_rfl) (by kernel_rfl) (by kernel_rfl) (cvR _) ?_
        refine tnU ?_
        obtain ⟨g11, h⟩ := if_some h
        obtain ⟨v12, hv12, h⟩ := bind_some h
        refine rgU (st1 := ⟨[(1, .loc 1 0), (2, .loc 2 0), (5, .p U6 a0), (6, .p I6 v4)], [(1, .box [.p U6 ((upd v3 v4.toNat (bits .xor .u64 18446744073709551615 v10)) : List Int)]), (2, .box [.p U6 ((List.replicate 4 (0 : Int)) : List Int)])]⟩) [1, 2, 5, 6] [1, 2] hN (.cons (mvU (v := .p I6 v4) rfl rfl) (.cons (mvU (v := .p (.int .u64) v10) rfl rfl) (.cons (sok_compl (U := Un) (rs := [(11, .p (.int .u64) v10)]) rfl rfl o0) (.cons (sok_indexA (U := Un) (t := .int .u64) (rs := [(1, .loc 1 0), (10, .p I6 v4)]) (q := 0) rfl rfl Tryd.underlying26 ty_24 o0 rfl o1 g11) (.cons (sok_storeU (U := Un) (t := .arr 4 (.int .u64)) (rs := [(13, .eloc 1 1 (0 + v4.toNat) 0), (12, .p (.int .u64) ((bits .xor .u64 18446744073709551615 v10) : Int))]) (X := v3) (X' := (upd v3 v4.toNat (bits .xor .u64 18446744073709551615 v10))) (v := .eloc 1 1 (0 + v4.toNat) 0) [] [] rfl rfl rfl ty_24 o0 (.eloc _ _ _ _ rfl) o1 rfl rfl (by show (0 + v4.toNat) * 1 + 0 = 0 + (v4.toNat * 1 + 0); omega) (.arr hv12 .here rfl)) .nil))))) (by kernel_rfl) (by kernel_rfl) (by kernel_rfl) (cvR _) ?_
        refine blockQ_normal ?_
        refine tnU ?_
        refine rgU (st1 := ⟨[(1, .loc 1 0), (2, .loc 2 0), (5, .p U6 a0), (6, .p I6 ((IntKind.i64.wrap (v4 + 1)) : Int))], [(1, .box [.p U6 ((upd v3 v4.toNat (bits .xor .u64 18446744073709551615 v10)) : List Int)]), (2, .box [.p U6 ((List.replicate 4 (0 : Int)) : List Int)])]⟩) [1, 2, 5, 6] [1, 2] hN (.cons (sok_arith (U := Un) (rs := [(6, .p I6 v4)]) rfl rfl o0 (.int _ _ _) rfl) (.cons (mvU (v := .p I6 ((IntKind.i64.wrap (v4 + 1)) : Int)) rfl rfl) .nil)) (by kernel_rfl) (by kernel_rfl) (by kernel_rfl) (cvR _) ?_
        refine tnU ?_
        exact ⟨n, Nat.lt_succ_self n, (upd v3 v4.toNat (bits .xor .u64 18446744073709551615 v10)), (IntKind.i64.wrap (v4 + 1)), h, rfl⟩
      · replace h := ite_f hc9 h
        refine WpC.conv (cvK (b := ⟨[(1, .loc 1 0), (2, .loc 2 0)], [(1, .box [.p U6 v3]), (2, .box [.p U6 ((List.replicate 4 (0 : Int)) : List Int)])]⟩) [1, 2] [1, 2] (by kernel_rfl)) (WpC.exit ?_)
        refine thenQ_exit ?_
        have hq := Option.some.inj h
        subst hq
        refine thenQ_exit ?_
        have h := hout8
        refine blockQ_hit ?_
        refine tnU ?_
        exact ⟨v3, h, rfl⟩
  · rintro _ ⟨v1, h, rfl⟩
    unfold class_Set_Not.j2 at h
    refine WpC.seq ?_
    refine rgU (st1 := ⟨[(2, .loc 2 0)], [(2, .box [.p U6 v1])]⟩) [2] [2] hN (.cons (ldB (t := .arr 4 (.int .u64)) (rs := [(1, .loc 1 0)]) [] [.p U6 v1] [] (v := .p U6 v1) rfl rfl ty_26 o0 rfl rfl rfl rfl (.data (.one _ _))) (.cons (sok_storeB (U := Un) (rs := [(2, .loc 2 0), (15, .p U6 v1)]) (v := .p U6 v1) (mid' := [.p U6 v1]) [] [.p U6 ((List.replicate 4 (0 : Int)) : List Int)] [] rfl rfl rfl ty_26 o0 o1 (.data (.one _ _)) rfl rfl rfl rfl rfl rfl) .nil)) (by kernel_rfl) (by kernel_rfl) (by kernel_rfl) (cvR _) ?_
    refine tnU ?_
    refine WpC.ret ?_
    have hq := Option.some.inj h
    subst hq
    exact ends_ret (retV_L (U := Un) (vs := [.p U6 v1]) rfl (ResL.cell (U := Un) [] [.p U6 v1] [] (.head _) (.head _) rfl rfl rfl rfl ty_26 (.data (.one _ _)) .nil)) ain_nil

theorem rex_parser_class_m0.ok (O : Out) (hO : GOkA O) (k : Nat) (a0 : List UInt8) (a1 : Int) (a2 : Int) (a3 : Bool) (out : (List Int) × Int × Bool) (h : rex_parser_class_m0.f k a0 a1 a2 a3 = some out) : COk Un O Tryd.prog 107 { ar := [.loc 100000 0], r := .p U6 out.1, bs := [(100000, .box [.p .str a0, .p I6 a1, .p I6 a2, .p .bool a3])], bs' := [(100000, .box [.p .str a0, .p I6 out.2.1, .p I6 a2, .p .bool out.2.2])] } := by
  refine cok_of_wp Tryd.func107 rfl (k := 69) rfl (Nat.le_of_ble_eq_true rfl) (namesOk_of (by kernel_rfl)) ?_
  intro B hN
  refine WpC.conv (cvK (b := ⟨[(0, .loc 100000 0)], [(100000, .box [.p .str a0, .p I6 a1, .p I6 a2, .p .bool a3])]⟩) [0] [100000] (by kernel_rfl)) ?_
  unfold rex_parser_class_m0.f at h
  refine WpC.seq ?_
  refine rgU (st1 := ⟨[(0, .loc 100000 0), (2, .loc 2 0)], [(2, .box [.p U6 ((List.replicate 4 (0 : Int)) : List Int)]), (100000, .box [.p .str a0, .p I6 a1, .p I6 a2, .p .bool a3])]⟩) [0, 2] [2, 100000] hN (.cons (sok_allocZ (U := Un) (rs := []) (d := 2) (us := [.p U6 ((List.replicate 4 (0 : Int)) : List Int)]) (v := (.agg #[.int .u64 0, .int .u64 0, .int .u64 0, .int .u64 0])) rfl rfl rfl (by kernel_rfl) rfl (.data (rd_zeros _ _) .nil) (by kernel_rfl)) .nil) (by kernel_rfl) (by kernel_rfl) (by kernel_rfl) (cvR _) ?_
  refine tnU ?_
  refine WpC.seq ?_
  obtain ⟨v1, hv1, h⟩ := bind_some h
  refine rgU (st1 := ⟨[(0, .loc 100000 0), (2, .loc 2 0), (3, .p .bool v1.1)], [(2, .box [.p U6 ((List.replicate 4 (0 : Int)) : List Int)]), (100000, .box [.p .str a0, .p I6 v1.2, .p I6 a2, .p .bool a3])]⟩) [0, 2, 3] [2, 100000] hN (.cons (mvU (v := .loc 100000 0) rfl rfl) (.cons (caV (rs := [(8, .loc 100000 0)]) (vw := []) rfl rfl (.func _) hb_93 (COk.ren (rex_parser_takes_m0.ok O hO k a0 a1 a2 a3 ([94] : List UInt8) v1 hv1) (fun n => if n = 100000 then 100000 else n) (injOn_of (by kernel_rfl))) (.cons o0 (.cons (.str _ _) .nil)) (.cons (.same _) (.cons (.same _) .nil)) (by simp) (.inl rfl)) (.cons (mvA (v := .p .bool v1.1) rfl rfl) .nil))) (by kernel_rfl) (by kernel_rfl) (by kernel_rfl) (cvR _) ?_
  refine tnU ?_
  refine WpC.seq ?_
  refine rgU (st1 := ⟨[(0, .loc 100000 0), (2, .loc 2 0), (3, .p .bool v1.1), (4, .loc 4 0)], [(2, .box [.p U6 ((List.replicate 4 (0 : Int)) : List Int)]), (4, .box [.p U6 ((List.replicate 4 (0 : Int)) : List Int)]), (100000, .box [.p .str a0, .p I6 v1.2, .p I6 a2, .p .bool a3])]⟩) [0, 2, 3, 4] [2, 4, 100000] hN (.cons (sok_allocZ (U := Un) (rs := []) (d := 4) (us := [.p U6 ((List.replicate 4 (0 : Int)) : List Int)]) (v := (.agg #[.int .u64 0, .int .u64 0, .int .u64 0, .int .u64 0])) rfl rfl rfl (by kernel_rfl) rfl (.data (rd_zeros _ _) .nil) (by kernel_rfl)) .nil) (by kernel_rfl) (by kernel_rfl) (by kernel_rfl) (cvR _) ?_
  refine tnU ?_
  refine sqJ (fun st' => ∃ v2 : Int, ∃ v3 : Bool, ∃ v4 : List Int, rex_parser_class_m0.j12 k a0 a2 v1 v2 v3 v4 = some out ∧ st' = ⟨[(0, .loc 100000 0), (2, .loc 2 0), (3, .p .bool v1.1), (4, .loc 4 0)], [(2, .box [.p U6 ((List.replicate 4 (0 : Int)) : List Int)]), (4, .box [.p U6 v4]), (100000, .box [.p .str a0, .p I6 v2, .p I6 a2, .p .bool v3])]⟩) ?_ ?_
  · refine WpC.seq ?_
    refine rgU (st1 := ⟨[(0, .loc 100000 0), (2, .loc 2 0), (3, .p .bool v1.1), (4, .loc 4 0), (5, .p .bool true)], [(2, .box [.p U6 ((List.replicate 4 (0 : Int)) : List Int)]), (4, .box [.p U6 ((List.replicate 4 (0 : Int)) : List Int)]), (100000, .box [.p .str a0, .p I6 v1.2, .p I6 a2, .p .bool a3])]⟩) [0, 2, 3, 4, 5] [2, 4, 100000] hN (.cons (moU (rs := []) rfl (.inr rfl) (.bool _ _)) .nil) (by kernel_rfl) (by kernel_rfl) (by kernel_rfl) (cvR _) ?_
    refine tnU ?_
    refine WpC.block ?_
    obtain ⟨o21, hlo21, h⟩ := bind_some h
    have hout22 := h
    clear h
    refine WpC.loop (U := Un) (fun n st' => ∃ v13 : Int, ∃ v14 : Bool, ∃ v15 : List Int, ∃ v16 : Bool, rex_parser_class_m0.l17 k a0 a2 v1 n v13 v14 v15 v16 = some o21 ∧ st' = ⟨[(0, .loc 100000 0), (2, .loc 2 0), (3, .p .bool v1.1), (4, .loc 4 0), (5, .p .bool v16)], [(2, .box [.p U6 ((List.replicate 4 (0 : Int)) : List Int)]), (4, .box [.p U6 v15]), (100000, .box [.p .str a0, .p I6 v13, .p I6 a2, .p .bool v14])]⟩) k ⟨v1.2, a3, (List.replicate 4 (0 : Int)), true, hlo21, rfl⟩ ?_
    clear hlo21
    rintro (_ | n) _ ⟨v13, v14, v15, v16, h, rfl⟩
    · cases h
    · rw [rex_parser_class_m0.l17] at h
      refine sqJ (fun st' => rex_parser_class_m0.j42 k (rex_parser_class_m0.l17 k a0 a2 v1 n) a0 a2 v1 v13 v14 v15 = some o21 ∧ st' = ⟨[(0, .loc 100000 0), (2, .loc 2 0), (3, .p .bool v1.1), (4, .loc 4 0)], [(2, .box [.p U6 ((List.replicate 4 (0 : Int)) : List Int)]), (4, .box [.p U6 v15]), (100000, .box [.p .str a0, .p I6 v13, .p I6 a2, .p .bool v14])]⟩) ?_ ?_
      · refine sqJ (fun st' => ∃ v43 : Bool, rex_parser_class_m0.j45 k (rex_parser_class_m0.l17 k a0 a2 v1 n) a0 a2 v1 v13 v14 v15 v43 = some o21 ∧ st' = ⟨[(0, .loc 100000 0), (2, .loc 2 0), (3, .p .bool v1.1), (4, .loc 4 0), (22, .p .bool v43)], [(2, .box [.p U6 ((List.replicate 4 (0 : Int)) : List Int)]), (4, .box [.p U6 v15]), (100000, .box [.p .str a0, .p I6 v13, .p I6 a2, .p .bool v14])]⟩) ?_ ?_
        · rcases bool_cases (!v14) with hc46 | hc46
          · replace h := ite_t hc46 h
            rcases bool_cases v16 with hc47 | hc47
            · replace h := ite_t hc47 h
              refine rgU (st1 := ⟨[(0, .loc 100000 0), (2, .loc 2 0), (3, .p .bool v1.1), (4, .loc 4 0), (22, .p .bool true)], [(2, .box [.p U6 ((List.replicate 4 (0 : Int)) : List Int)]), (4, .box [.p U6 v15]), (100000, .box [.p .str a0, .p I6 v13, .p I6 a2, .p .bool v14])]⟩) [0, 2, 3, 4, 22] [2, 4, 100000] hN (.cons (mvU (v := .loc 100000 0) rfl rfl) (.cons (nlU (rs := [(10, .loc 100000 0)]) rfl rfl o0 rfl) (.cons (fdB (rs := [(11, .loc 100000 0)]) rfl rfl fd_125_3 (by decide) o0) (.cons (ldB (t := .bool) (rs := [(12, .loc 100000 3)]) [.p .str a0, .p I6 v13, .p I6 a2] [.p .bool v14] [] (v := .p .bool v14) rfl rfl ty_4 o0 rfl rfl rfl rfl (.data (.one _ _))) (.cons (sok_not (U := Un) (rs := [(13, .p .bool v14)]) rfl rfl o0) (.cons (mvU (v := .p .bool ((!v14) : Bool)) rfl rfl) (.cons (sok_run rfl rfl hc46 (mvU (v := .p .bool v16) rfl rfl)) (.cons (sok_run rfl rfl hc46 (mvU (v := .p .bool v16) rfl rfl)) (.cons (skU rfl rfl hc47) (.cons (skU rfl rfl hc47) (.cons (skU rfl rfl hc47) (.cons (sok_run rfl rfl hc46 (pkT (rs := [(17, .p .bool v16)]) rfl rfl o0 hc47 (.bool _ _))) (.cons (pkT (rs := [(15, .p .bool ((!v14) : Bool)), (21, .p .bool true)]) rfl rfl o0 hc46 o1) .nil))))))))))))) (by kernel_rfl) (by kernel_rfl) (by kernel_rfl) (cvR _) ?_
              refine tnU ?_
              exact ⟨true, h, rfl⟩
            · replace h := ite_f hc47 h
              obtain ⟨v48, hv48, h⟩ := bind_some h
              refine rgU (st1 := ⟨[(0, .loc 100000 0), (2, .loc 2 0), (3, .p .bool v1.1), (4, .loc 4 0), (22, .p .bool ((!v48) : Bool))], [(2, .box [.p U6 ((List.replicate 4 (0 : Int)) : List Int)]), (4, .box [.p U6 v15]), (100000, .box [.p .str a0, .p I6 v13, .p I6 a2, .p .bool v14])]⟩) [0, 2, 3, 4, 22] [2, 4, 100000] hN (.cons (mvU (v := .loc 100000 0) rfl rfl) (.cons (nlU (rs := [(10, .loc 100000 0)]) rfl rfl o0 rfl) (.cons (fdB (rs := [(11, .loc 100000 0)]) rfl rfl fd_125_3 (by decide) o0) (.cons (ldB (t := .bool) (rs := [(12, .loc 100000 3)]) [.p .str a0, .p I6 v13, .p I6 a2] [.p .bool v14] [] (v := .p .bool v14) rfl rfl ty_4 o0 rfl rfl rfl rfl (.data (.one _ _))) (.cons (sok_not (U := Un) (rs := [(13, .p .bool v14)]) rfl rfl o0) (.cons (mvU (v := .p .bool ((!v14) : Bool)) rfl rfl) (.cons (sok_run rfl rfl hc46 (mvU (v := .p .bool v16) rfl rfl)) (.cons (sok_run rfl rfl hc46 (mvU (v := .p .bool v16) rfl rfl)) (.cons (sok_run rfl rfl hc47 (mvU (v := .loc 100000 0) rfl rfl)) (.cons (sok_run rfl rfl hc47 (caV (rs := [(18, .loc 100000 0)]) (vw := []) rfl rfl (.func _) hb_100 (COk.ren (rex_parser_sees_m0.ok O hO k a0 v13 a2 v14 ([93] : List UInt8) v48 hv48) (fun n => if n = 100000 then 100000 else n) (injOn_of (by kernel_rfl))) (.cons o0 (.cons (.str _ _) .nil)) (.cons (.same _) (.cons (.same _) .nil)) (by simp) (.inl rfl))) (.cons (sok_run rfl rfl hc47 (sok_not (U := Un) (rs := [(19, .p .bool v48)]) rfl rfl o0)) (.cons (sok_run rfl rfl hc46 (pkF (rs := [(17, .p .bool v16), (20, .p .bool ((!v48) : Bool))]) rfl rfl o0 hc47 o1)) (.cons (pkT (rs := [(15, .p .bool ((!v14) : Bool)), (21, .p .bool ((!v48) : Bool))]) rfl rfl o0 hc46 o1) .nil))))))))))))) (by kernel_rfl) (by kernel_rfl) (by kernel_rfl) (cvR _) ?_
              refine tnU ?_
              exact ⟨(!v48), h, rfl⟩
          · replace h := ite_f hc46 h
            refine rgU (st1 := ⟨[(0, .loc 100000 0), (2, .loc 2 0), (3, .p .bool v1.1), (4, .loc 4 0), (22, .p .bool false)], [(2, .box [.p U6 ((List.replicate 4 (0 : Int)) : List Int)]), (4, .box [.p U6 v15]), (100000, .box [.p .str a0, .p I6 v13, .p I6 a2, .p .bool v14])]⟩) [0, 2, 3, 4, 22] [2, 4, 100000] hN (.cons (mvU (v := .loc 100000 0) rfl rfl) (.cons (nlU (rs := [(10, .loc 100000 0)]) rfl rfl o0 rfl) (.cons (fdB (rs := [(11, .loc 100000 0)]) rfl rfl fd_125_3 (by decide) o0) (.cons (ldB (t := .bool) (rs := [(12, .loc 100000 3)]) [.p .str a0, .p I6 v13, .p I6 a2] [.p .bool v14] [] (v := .p .bool v14) rfl rfl ty_4 o0 rfl rfl rfl rfl (.data (.one _ _))) (.cons (sok_not (U := Un) (rs := [(13, .p .bool v14)]) rfl rfl o0) (.cons (mvU (v := .p .bool ((!v14) : Bool)) rfl rfl) (.cons (skU rfl rfl hc46) (.cons (skU rfl rfl hc46) (.cons (sok_skipU rfl rfl) (.cons (sok_skipU rfl rfl) (.cons (sok_skipU rfl rfl) (.cons (skU rfl rfl hc46) (.cons (pkF (rs := [(15, .p .bool ((!v14) : Bool))]) rfl rfl o0 hc46 (.bool _ _)) .nil))))))))))))) (by kernel_rfl) (by kernel_rfl) (by kernel_rfl) (cvR _) ?_
            refine tnU ?_
            exact ⟨false, h, rfl⟩
        · rintro _ ⟨v43, h, rfl⟩
          unfold rex_parser_class_m0.j45 at h
          refine cdU (b := v43) (.tmp (.tail _ (.tail _ (.tail _ (.tail _ (.head _)))))) (fun hc44 => ?_) (fun hc44 => ?_)
          · replace h := ite_t hc44 h
            refine WpC.conv (cvK (b := ⟨[(0, .loc 100000 0), (2, .loc 2 0), (3, .p .bool v1.1), (4, .loc 4 0)], [(2, .box [.p U6 ((List.replicate 4 (0 : Int)) : List Int)]), (4, .box [.p U6 v15]), (100000, .box [.p .str a0, .p I6 v13, .p I6 a2, .p .bool v14])]⟩) [0, 2, 3, 4] [2, 4, 100000] (by kernel_rfl)) (WpC.skip ?_)
            refine tnU ?_
            exact ⟨h, rfl⟩
          · replace h := ite_f hc44 h
            refine WpC.conv (cvK (b := ⟨[(0, .loc 100000 0), (2, .loc 2 0), (3, .p .bool v1.1), (4, .loc 4 0)], [(2, .box [.p U6 ((List.replicate 4 (0 : Int)) : List Int)]), (4, .box [.p U6 v15]), (100000, .box [.p .str a0, .p I6 v13, .p I6 a2, .p .bool v14])]⟩) [0, 2, 3, 4] [2, 4, 100000] (by kernel_rfl)) (WpC.exit ?_)
            refine thenQ_exit ?_
            have hq := Option.some.inj h
            subst hq
            refine thenQ_exit ?_
            have h := hout22
            refine blockQ_hit ?_
            refine tnU ?_
            exact ⟨v13, v14, v15, h, rfl⟩
      · rintro _ ⟨h, rfl⟩
        unfold rex_parser_class_m0.j42 at h
        refine sqJ (fun st' => ∃ v23 : Int, ∃ v24 : Bool, ∃ v25 : List Int, rex_parser_class_m0.j26 k (rex_parser_class_m0.l17 k a0 a2 v1 n) a0 a2 v1 v23 v24 v25 = some o21 ∧ st' = ⟨[(0, .loc 100000 0), (2, .loc 2 0), (3, .p .bool v1.1), (4, .loc 4 0)], [(2, .box [.p U6 ((List.replicate 4 (0 : Int)) : List Int)]), (4, .box [.p U6 v25]), (100000, .box [.p .str a0, .p I6 v23, .p I6 a2, .p .bool v24])]⟩) ?_ ?_
        · refine WpC.block ?_
          refine WpC.seq ?_
          refine WpC.seq ?_
          obtain ⟨v27, hv27, h⟩ := bind_some h
          refine rgU (st1 := ⟨[(0, .loc 100000 0), (2, .loc 2 0), (3, .p .bool v1.1), (4, .loc 4 0), (24, .p .bool v27)], [(2, .box [.p U6 ((List.replicate 4 (0 : Int)) : List Int)]), (4, .box [.p U6 v15]), (100000, .box [.p .str a0, .p I6 v13, .p I6 a2, .p .bool v14])]⟩) [0, 2, 3, 4, 24] [2, 4, 100000] hN (.cons (mvU (v := .loc 100000 0) rfl rfl) (.cons (caV (rs := [(23, .loc 100000 0)]) (vw := []) rfl rfl (.func _) hb_100 (COk.ren (rex_parser_sees_m0.ok O hO k a0 v13 a2 v14 ([93] : List UInt8) v27 hv27) (fun n => if n = 100000 then 100000 else n) (injOn_of (by kernel_rfl))) (.cons o0 (.cons (.str _ _) .nil)) (.cons (.same _) (.cons (.same _) .nil)) (by simp) (.inl rfl)) .nil)) (by kernel_rfl) (by kernel_rfl) (by kernel_rfl) (cvR _) ?_
          refine tnU ?_
          refine cdU (b := v27) (.tmp (.tail _ (.tail _ (.tail _ (.tail _ (.head _)))))) (fun hc28 => ?_) (fun hc28 => ?_)
          · replace h := ite_t hc28 h
            refine WpC.seq ?_
            refine rgU (st1 := ⟨[(0, .loc 100000 0), (2, .loc 2 0), (3, .p .bool v1.1), (4, .loc 4 0)], [(2, .box [.p U6 ((List.replicate 4 (0 : Int)) : List Int)]), (4, .box [.p U6 v15]), (100000, .box [.p .str a0, .p I6 v13, .p I6 a2, .p .bool true])]⟩) [0, 2, 3, 4] [2, 4, 100000] hN (.cons (mvU (v := .loc 100000 0) rfl rfl) (.cons (nlU (rs := [(25, .loc 100000 0)]) rfl rfl o0 rfl) (.cons (fdB (rs := [(26, .loc 100000 0)]) rfl rfl fd_125_3 (by decide) o0) (.cons (sok_storeB (U := Un) (rs := [(27, .loc 100000 3)]) (v := .p .bool true) (mid' := [.p .bool true]) [.p .str a0, .p I6 v13, .p I6 a2] [.p .bool v14] [] rfl rfl rfl ty_4 o0 (.bool _ _) (.data (.one _ _)) rfl rfl rfl rfl rfl rfl) .nil)))) (by kernel_rfl) (by kernel_rfl) (by kernel_rfl) (cvR _) ?_
            refine tnU ?_
            refine WpC.exit ?_
            refine thenQ_exit ?_
            refine blockQ_pass (by decide) ?_
            refine thenQ_exit ?_
            have hq := Option.some.inj h
            subst hq
            refine thenQ_exit ?_
            have h := hout22
            refine blockQ_hit ?_
            refine tnU ?_
            exact ⟨v13, true, v15, h, rfl⟩
          · replace h := ite_f hc28 h
            refine WpC.conv (cvK (b := ⟨[(0, .loc 100000 0), (2, .loc 2 0), (3, .p .bool v1.1), (4, .loc 4 0)], [(2, .box [.p U6 ((List.replicate 4 (0 : Int)) : List Int)]), (4, .box [.p U6 v15]), (100000, .box [.p .str a0, .p I6 v13, .p I6 a2, .p .bool v14])]⟩) [0, 2, 3, 4] [2, 4, 100000] (by kernel_rfl)) (WpC.skip ?_)
            refine tnU ?_
            refine WpC.seq ?_
            obtain ⟨v29, hv29, h⟩ := bind_some h
            refine rgU (st1 := ⟨[(0, .loc 100000 0), (2, .loc 2 0), (3, .p .bool v1.1), (4, .loc 4 0), (6, .p (.int .u8) v29.1)], [(2, .box [.p U6 ((List.replicate 4 (0 : Int)) : List Int)]), (4, .box [.p U6 v15]), (100000, .box [.p .str a0, .p I6 v29.2.1, .p I6 a2, .p .bool v29.2.2])]⟩) [0, 2, 3, 4, 6] [2, 4, 100000] hN (.cons (mvU (v := .loc 100000 0) rfl rfl) (.cons (caV (rs := [(28, .loc 100000 0)]) (vw := []) rfl rfl (.func _) hb_112 (COk.ren (rex_parser_member_m0.ok O hO k a0 v13 a2 v14 v29 hv29) (fun n => if n = 100000 then 100000 else n) (injOn_of (by kernel_rfl))) (.cons o0 .nil) (.cons (.same _) .nil) (by simp) (.inl rfl)) (.cons (mvA (v := .p (.int .u8) v29.1) rfl rfl) .nil))) (by kernel_rfl) (by kernel_rfl) (by kernel_rfl) (cvR _) ?_
            refine tnU ?_
            refine WpC.seq ?_
            refine rgU (st1 := ⟨[(0, .loc 100000 0), (2, .loc 2 0), (3, .p .bool v1.1), (4, .loc 4 0), (6, .p (.int .u8) v29.1), (7, .p (.int .u8) v29.1)], [(2, .box [.p U6 ((List.replicate 4 (0 : Int)) : List Int)]), (4, .box [.p U6 v15]), (100000, .box [.p .str a0, .p I6 v29.2.1, .p I6 a2, .p .bool v29.2.2])]⟩) [0, 2, 3, 4, 6, 7] [2, 4, 100000] hN (.cons (mvU (v := .p (.int .u8) v29.1) rfl rfl) (.cons (mvA (v := .p (.int .u8) v29.1) rfl rfl) .nil)) (by kernel_rfl) (by kernel_rfl) (by kernel_rfl) (cvR _) ?_
            refine tnU ?_
            refine sqJ (fun st' => ∃ v30 : Int, ∃ v31 : Bool, ∃ v32 : Int, rex_parser_class_m0.j38 k (rex_parser_class_m0.l17 k a0 a2 v1 n) a0 a2 v1 v15 v29 v30 v31 v32 = some o21 ∧ st' = ⟨[(0, .loc 100000 0), (2, .loc 2 0), (3, .p .bool v1.1), (4, .loc 4 0), (6, .p (.int .u8) v29.1), (7, .p (.int .u8) v32)], [(2, .box [.p U6 ((List.replicate 4 (0 : Int)) : List Int)]), (4, .box [.p U6 v15]), (100000, .box [.p .str a0, .p I6 v30, .p I6 a2, .p .bool v31])]⟩) ?_ ?_
            · refine WpC.seq ?_
              obtain ⟨v39, hv39, h⟩ := bind_some h
              refine rgU (st1 := ⟨[(0, .loc 100000 0), (2, .loc 2 0), (3, .p .bool v1.1), (4, .loc 4 0), (6, .p (.int .u8) v29.1), (7, .p (.int .u8) v29.1), (32, .p .bool v39)], [(2, .box [.p U6 ((List.replicate 4 (0 : Int)) : List Int)]), (4, .box [.p U6 v15]), (100000, .box [.p .str a0, .p I6 v29.2.1, .p I6 a2, .p .bool v29.2.2])]⟩) [0, 2, 3, 4, 6, 7, 32] [2, 4, 100000] hN (.cons (mvU (v := .loc 100000 0) rfl rfl) (.cons (caV (rs := [(31, .loc 100000 0)]) (vw := []) rfl rfl (.func _) hb_113 (COk.ren (rex_parser_spans_m0.ok O hO k a0 v29.2.1 a2 v29.2.2 v39 hv39) (fun n => if n = 100000 then 100000 else n) (injOn_of (by kernel_rfl))) (.cons o0 .nil) (.cons (.same _) .nil) (by simp) (.inl rfl)) .nil)) (by kernel_rfl) (by kernel_rfl) (by kernel_rfl) (cvR _) ?_
              refine tnU ?_
              refine cdU (b := v39) (.tmp (.tail _ (.tail _ (.tail _ (.tail _ (.tail _ (.tail _ (.head _)))))))) (fun hc40 => ?_) (fun hc40 => ?_)
              · replace h := ite_t hc40 h
                refine WpC.seq ?_
                refine rgU (st1 := ⟨[(0, .loc 100000 0), (2, .loc 2 0), (3, .p .bool v1.1), (4, .loc 4 0), (6, .p (.int .u8) v29.1)], [(2, .box [.p U6 ((List.replicate 4 (0 : Int)) : List Int)]), (4, .box [.p U6 v15]), (100000, .box [.p .str a0, .p I6 ((IntKind.i64.wrap (v29.2.1 + 1)) : Int), .p I6 a2, .p .bool v29.2.2])]⟩) [0, 2, 3, 4, 6] [2, 4, 100000] hN (.cons (mvU (v := .loc 100000 0) rfl rfl) (.cons (nlU (rs := [(33, .loc 100000 0)]) rfl rfl o0 rfl) (.cons (fdB (rs := [(34, .loc 100000 0)]) rfl rfl fd_125_1 (by decide) o0) (.cons (ldB (t := .int .i64) (rs := [(35, .loc 100000 1)]) [.p .str a0] [.p I6 v29.2.1] [.p I6 a2, .p .bool v29.2.2] (v := .p I6 v29.2.1) rfl rfl ty_3 o0 rfl rfl rfl rfl (.data (.one _ _))) (.cons (sok_arith (U := Un) (rs := [(36, .p I6 v29.2.1)]) rfl rfl o0 (.int _ _ _) rfl) (.cons (nlU (rs := [(33, .loc 100000 0)]) rfl rfl o0 rfl) (.cons (fdB (rs := [(38, .loc 100000 0)]) rfl rfl fd_125_1 (by decide) o0) (.cons (sok_storeB (U := Un) (rs := [(39, .loc 100000 1), (37, .p I6 ((IntKind.i64.wrap (v29.2.1 + 1)) : Int))]) (v := .p I6 ((IntKind.i64.wrap (v29.2.1 + 1)) : Int)) (mid' := [.p I6 ((IntKind.i64.wrap (v29.2.1 + 1)) : Int)]) [.p .str a0] [.p I6 v29.2.1] [.p I6 a2, .p .bool v29.2.2] rfl rfl rfl ty_3 o0 o1 (.data (.one _ _)) rfl rfl rfl rfl rfl rfl) .nil)))))))) (by kernel_rfl) (by kernel_rfl) (by kernel_rfl) (cvR _) ?_
                refine tnU ?_
                obtain ⟨v41, hv41, h⟩ := bind_some h
                refine rgU (st1 := ⟨[(0, .loc 100000 0), (2, .loc 2 0), (3, .p .bool v1.1), (4, .loc 4 0), (6, .p (.int .u8) v29.1), (7, .p (.int .u8) v41.1)], [(2, .box [.p U6 ((List.replicate 4 (0 : Int)) : List Int)]), (4, .box [.p U6 v15]), (100000, .box [.p .str a0, .p I6 v41.2.1, .p I6 a2, .p .bool v41.2.2])]⟩) [0, 2, 3, 4, 6, 7] [2, 4, 100000] hN (.cons (mvU (v := .loc 100000 0) rfl rfl) (.cons (caV (rs := [(40, .loc 100000 0)]) (vw := []) rfl rfl (.func _) hb_112 (COk.ren (rex_parser_member_m0.ok O hO k a0 (IntKind.i64.wrap (v29.2.1 + 1)) a2 v29.2.2 v41 hv41) (fun n => if n = 100000 then 100000 else n) (injOn_of (by kernel_rfl))) (.cons o0 .nil) (.cons (.same _) .nil) (by simp) (.inl rfl)) (.cons (mvA (v := .p (.int .u8) v41.1) rfl rfl) .nil))) (by kernel_rfl) (by kernel_rfl) (by kernel_rfl) (cvR _) ?_
                refine tnU ?_
                exact ⟨v41.2.1, v41.2.2, v41.1, h, rfl⟩
              · replace h := ite_f hc40 h
                refine WpC.conv (cvK (b := ⟨[(0, .loc 100000 0), (2, .loc 2 0), (3, .p .bool v1.1), (4, .loc 4 0), (6, .p (.int .u8) v29.1), (7, .p (.int .u8) v29.1)], [(2, .box [.p U6 ((List.replicate 4 (0 : Int)) : List Int)]), (4, .box [.p U6 v15]), (100000, .box [.p .str a0, .p I6 v29.2.1, .p I6 a2, .p .bool v29.2.2])]⟩) [0, 2, 3, 4, 6, 7] [2, 4, 100000] (by kernel_rfl)) (WpC.skip ?_)
                refine tnU ?_
                exact ⟨v29.2.1, v29.2.2, v29.1, h, rfl⟩
            · rintro _ ⟨v30, v31, v32, h, rfl⟩
              unfold rex_parser_class_m0.j38 at h
              refine sqJ (fun st' => ∃ v33 : Bool, rex_parser_class_m0.j36 k (rex_parser_class_m0.l17 k a0 a2 v1 n) a0 a2 v1 v15 v29 v30 v32 v33 = some o21 ∧ st' = ⟨[(0, .loc 100000 0), (2, .loc 2 0), (3, .p .bool v1.1), (4, .loc 4 0), (6, .p (.int .u8) v29.1), (7, .p (.int .u8) v32)], [(2, .box [.p U6 ((List.replicate 4 (0 : Int)) : List Int)]), (4, .box [.p U6 v15]), (100000, .box [.p .str a0, .p I6 v30, .p I6 a2, .p .bool v33])]⟩) ?_ ?_
              · rcases bool_cases v31 with hc37 | hc37
                · replace h := ite_t hc37 h
                  refine rgU (st1 := ⟨[(0, .loc 100000 0), (2, .loc 2 0), (3, .p .bool v1.1), (4, .loc 4 0), (6, .p (.int .u8) v29.1), (7, .p (.int .u8) v32)], [(2, .box [.p U6 ((List.replicate 4 (0 : Int)) : List Int)]), (4, .box [.p U6 v15]), (100000, .box [.p .str a0, .p I6 v30, .p I6 a2, .p .bool true])]⟩) [0, 2, 3, 4, 6, 7] [2, 4, 100000] hN (.cons (mvU (v := .loc 100000 0) rfl rfl) (.cons (mvU (v := .loc 100000 0) rfl rfl) (.cons (nlU (rs := [(43, .loc 100000 0)]) rfl rfl o0 rfl) (.cons (fdB (rs := [(44, .loc 100000 0)]) rfl rfl fd_125_3 (by decide) o0) (.cons (ldB (t := .bool) (rs := [(45, .loc 100000 3)]) [.p .str a0, .p I6 v30, .p I6 a2] [.p .bool v31] [] (v := .p .bool v31) rfl rfl ty_4 o0 rfl rfl rfl rfl (.data (.one _ _))) (.cons (mvU (v := .p .bool v31) rfl rfl) (.cons (skU rfl rfl hc37) (.cons (skU rfl rfl hc37) (.cons (skU rfl rfl hc37) (.cons (pkT (rs := [(47, .p .bool v31)]) rfl rfl o0 hc37 (.bool _ _)) (.cons (nlU (rs := [(42, .loc 100000 0)]) rfl rfl o0 rfl) (.cons (fdB (rs := [(52, .loc 100000 0)]) rfl rfl fd_125_3 (by decide) o0) (.cons (sok_storeB (U := Un) (rs := [(53, .loc 100000 3), (51, .p .bool true)]) (v := .p .bool true) (mid' := [.p .bool true]) [.p .str a0, .p I6 v30, .p I6 a2] [.p .bool v31] [] rfl rfl rfl ty_4 o0 o1 (.data (.one _ _)) rfl rfl rfl rfl rfl rfl) .nil))))))))))))) (by kernel_rfl) (by kernel_rfl) (by kernel_rfl) (cvR _) ?_
                  refine tnU ?_
                  exact ⟨true, h, rfl⟩
                · replace h := ite_f hc37 h
                  refine rgU (st1 := ⟨[(0, .loc 100000 0), (2, .loc 2 0), (3, .p .bool v1.1), (4, .loc 4 0), (6, .p (.int .u8) v29.1), (7, .p (.int .u8) v32)], [(2, .box [.p U6 ((List.replicate 4 (0 : Int)) : List Int)]), (4, .box [.p U6 v15]), (100000, .box [.p .str a0, .p I6 v30, .p I6 a2, .p .bool ((decide (v32 < v29.1)) : Bool)])]⟩) [0, 2, 3, 4, 6, 7] [2, 4, 100000] hN (.cons (mvU (v := .loc 100000 0) rfl rfl) (.cons (mvU (v := .loc 100000 0) rfl rfl) (.cons (nlU (rs := [(43, .loc 100000 0)]) rfl rfl o0 rfl) (.cons (fdB (rs := [(44, .loc 100000 0)]) rfl rfl fd_125_3 (by decide) o0) (.cons (ldB (t := .bool) (rs := [(45, .loc 100000 3)]) [.p .str a0, .p I6 v30, .p I6 a2] [.p .bool v31] [] (v := .p .bool v31) rfl rfl ty_4 o0 rfl rfl rfl rfl (.data (.one _ _))) (.cons (mvU (v := .p .bool v31) rfl rfl) (.cons (sok_run rfl rfl hc37 (mvU (v := .p (.int .u8) v32) rfl rfl)) (.cons (sok_run rfl rfl hc37 (mvU (v := .p (.int .u8) v29.1) rfl rfl)) (.cons (sok_run rfl rfl hc37 (cmU (rs := [(48, .p (.int .u8) v32), (49, .p (.int .u8) v29.1)]) rfl rfl o0 o1 rfl)) (.cons (pkF (rs := [(47, .p .bool v31), (50, .p .bool ((decide (v32 < v29.1)) : Bool))]) rfl rfl o0 hc37 o1) (.cons (nlU (rs := [(42, .loc 100000 0)]) rfl rfl o0 rfl) (.cons (fdB (rs := [(52, .loc 100000 0)]) rfl rfl fd_125_3 (by decide) o0) (.cons (sok_storeB (U := Un) (rs := [(53, .loc 100000 3), (51, .p .bool ((decide (v32 < v29.1)) : Bool))]) (v := .p .bool ((decide (v32 < v29.1)) : Bool)) (mid' := [.p .bool ((decide (v32 < v29.1)) : Bool)]) [.p .str a0, .p I6 v30, .p I6 a2] [.p .bool v31] [] rfl rfl rfl ty_4 o0 o1 (.data (.one _ _)) rfl rfl rfl rfl rfl rfl) .nil))))))))))))) (by kernel_rfl) (by kernel_rfl) (by kernel_rfl) (cvR _) ?_
                  refine tnU ?_
                  exact ⟨(decide (v32 < v29.1)), h, rfl⟩
              · rintro _ ⟨v33, h, rfl⟩
                unfold rex_parser_class_m0.j36 at h
                obtain ⟨v34, hv34, h⟩ := bind_some h
                obtain ⟨v35, hv35, h⟩ := bind_some h
                refine WpC.regA (U := Un) (st1 := ⟨[(0, .loc 100000 0), (2, .loc 2 0), (3, .p .bool v1.1), (4, .loc 4 0)], [(2, .box [.p U6 ((List.replicate 4 (0 : Int)) : List Int)]), (4, .box [.p U6 v35]), (100000, .box [.p .str a0, .p I6 v30, .p I6 a2, .p .bool v33])]⟩) [0, 2, 3, 4] [2, 4, 100000] [[], [], [], [1, 2], [0, 1, 2, 3], [0, 1, 2, 3, 4]] mixed hN (.cons (ldB (t := .arr 4 (.int .u64)) (rs := [(4, .loc 4 0)]) [] [.p U6 v15] [] (v := .p U6 v15) rfl rfl ty_26 o0 rfl rfl rfl rfl (.data (.one _ _))) (.cons (mvU (v := .p (.int .u8) v29.1) rfl rfl) (.cons (mvU (v := .p (.int .u8) v32) rfl rfl) (.cons (caV (rs := [(55, .p (.int .u8) v29.1), (56, .p (.int .u8) v32)]) (vw := []) rfl rfl (.func _) hb_114 (class_Span.ok O hO k v29.1 v32 v34 hv34) (.cons o0 (.cons o1 .nil)) (.cons (.same _) (.cons (.same _) .nil)) (by simp) (.inl rfl)) (.cons (caV (rs := [(54, .p U6 v15), (57, .p U6 v34)]) (vw := []) rfl rfl (.func _) hb_81 (class_Set_Union.ok O hO k v15 v34 v35 hv35) (.cons o0 (.cons o1 .nil)) (.cons (.same _) (.cons (.same _) .nil)) (by simp) (.inl rfl)) (.cons (sok_storeB (U := Un) (rs := [(4, .loc 4 0), (58, .p U6 v35)]) (v := .p U6 v35) (mid' := [.p U6 v35]) [] [.p U6 v15] [] rfl rfl rfl ty_26 o0 o1 (.data (.one _ _)) rfl rfl rfl rfl rfl rfl) .nil)))))) (by kernel_rfl) (by kernel_rfl) (by kernel_rfl) (by kernel_rfl) (by kernel_rfl) (cvR _) ?_
                refine blockQ_normal ?_
                refine tnU ?_
                exact ⟨v30, v33, v35, h, rfl⟩
        · rintro _ ⟨v23, v24, v25, h, rfl⟩
          unfold rex_parser_class_m0.j26 at h
          refine rgU (st1 := ⟨[(0, .loc 100000 0), (2, .loc 2 0), (3, .p .bool v1.1), (4, .loc 4 0), (5, .p .bool false)], [(2, .box [.p U6 ((List.replicate 4 (0 : Int)) : List Int)]), (4, .box [.p U6 v25]), (100000, .box [.p .str a0, .p I6 v23, .p I6 a2, .p .bool v24])]⟩) [0, 2, 3, 4, 5] [2, 4, 100000] hN (.cons (moU (rs := []) rfl (.inr rfl) (.bool _ _)) .nil) (by kernel_rfl) (by kernel_rfl) (by kernel_rfl) (cvR _) ?_
          refine tnU ?_
          exact ⟨n, Nat.lt_succ_self n, v23, v24, v25, false, h, rfl⟩
  · rintro _ ⟨v2, v3, v4, h, rfl⟩
    unfold rex_parser_class_m0.j12 at h
    refine sqJ (fun st' => ∃ v5 : Int, ∃ v6 : Bool, rex_parser_class_m0.j9 k a0 a2 v1 v4 v5 v6 = some out ∧ st' = ⟨[(2, .loc 2 0), (3, .p .bool v1.1), (4, .loc 4 0)], [(2, .box [.p U6 ((List.replicate 4 (0 : Int)) : List Int)]), (4, .box [.p U6 v4]), (100000, .box [.p .str a0, .p I6 v5, .p I6 a2, .p .bool v6])]⟩) ?_ ?_
    · refine WpC.seq ?_
      obtain ⟨v10, hv10, h⟩ := bind_some h
      refine rgU (st1 := ⟨[(0, .loc 100000 0), (2, .loc 2 0), (3, .p .bool v1.1), (4, .loc 4 0), (61, .p .bool ((!v10.1) : Bool))], [(2, .box [.p U6 ((List.replicate 4 (0 : Int)) : List Int)]), (4, .box [.p U6 v4]), (100000, .box [.p .str a0, .p I6 v10.2, .p I6 a2, .p .bool v3])]⟩) [0, 2, 3, 4, 61] [2, 4, 100000] hN (.cons (mvU (v := .loc 100000 0) rfl rfl) (.cons (caV (rs := [(59, .loc 100000 0)]) (vw := []) rfl rfl (.func _) hb_93 (COk.ren (rex_parser_takes_m0.ok O hO k a0 v2 a2 v3 ([93] : List UInt8) v10 hv10) (fun n => if n = 100000 then 100000 else n) (injOn_of (by kernel_rfl))) (.cons o0 (.cons (.str _ _) .nil)) (.cons (.same _) (.cons (.same _) .nil)) (by simp) (.inl rfl)) (.cons (sok_not (U := Un) (rs := [(60, .p .bool v10.1)]) rfl rfl o0) .nil))) (by kernel_rfl) (by kernel_rfl) (by kernel_rfl) (cvR _) ?_
      refine tnU ?_
      refine cdU (b := (!v10.1)) (.tmp (.tail _ (.tail _ (.tail _ (.tail _ (.head _)))))) (fun hc11 => ?_) (fun hc11 => ?_)
      · replace h := ite_t hc11 h
        refine rgU (st1 := ⟨[(2, .loc 2 0), (3, .p .bool v1.1), (4, .loc 4 0)], [(2, .box [.p U6 ((List.replicate 4 (0 : Int)) : List Int)]), (4, .box [.p U6 v4]), (100000, .box [.p .str a0, .p I6 v10.2, .p I6 a2, .p .bool true])]⟩) [2, 3, 4] [2, 4, 100000] hN (.cons (mvU (v := .loc 100000 0) rfl rfl) (.cons (nlU (rs := [(62, .loc 100000 0)]) rfl rfl o0 rfl) (.cons (fdB (rs := [(63, .loc 100000 0)]) rfl rfl fd_125_3 (by decide) o0) (.cons (sok_storeB (U := Un) (rs := [(64, .loc 100000 3)]) (v := .p .bool true) (mid' := [.p .bool true]) [.p .str a0, .p I6 v10.2, .p I6 a2] [.p .bool v3] [] rfl rfl rfl ty_4 o0 (.bool _ _) (.data (.one _ _)) rfl rfl rfl rfl rfl rfl) .nil)))) (by kernel_rfl) (by kernel_rfl) (by kernel_rfl) (cvR _) ?_
        refine tnU ?_
        exact ⟨v10.2, true, h, rfl⟩
      · replace h := ite_f hc11 h
        refine WpC.conv (cvK (b := ⟨[(2, .loc 2 0), (3, .p .bool v1.1), (4, .loc 4 0)], [(2, .box [.p U6 ((List.replicate 4 (0 : Int)) : List Int)]), (4, .box [.p U6 v4]), (100000, .box [.p .str a0, .p I6 v10.2, .p I6 a2, .p .bool v3])]⟩) [2, 3, 4] [2, 4, 100000] (by kernel_rfl)) (WpC.skip ?_)
        refine tnU ?_
        exact ⟨v10.2, v3, h, rfl⟩
    · rintro _ ⟨v5, v6, h, rfl⟩
      unfold rex_parser_class_m0.j9 at h
      refine WpC.seq ?_
      refine WpC.seq ?_
      refine rgU (st1 := ⟨[(2, .loc 2 0), (4, .loc 4 0), (65, .p .bool v1.1)], [(2, .box [.p U6 ((List.replicate 4 (0 : Int)) : List Int)]), (4, .box [.p U6 v4]), (100000, .box [.p .str a0, .p I6 v5, .p I6 a2, .p .bool v6])]⟩) [2, 4, 65] [2, 4, 100000] hN (.cons (mvU (v := .p .bool v1.1) rfl rfl) .nil) (by kernel_rfl) (by kernel_rfl) (by kernel_rfl) (cvR _) ?_
      refine tnU ?_
      refine cdU (b := v1.1) (.tmp (.tail _ (.tail _ (.head _)))) (fun hc7 => ?_) (fun hc7 => ?_)
      · replace h := ite_t hc7 h
        refine WpC.seq ?_
        obtain ⟨v8, hv8, h⟩ := bind_some h
        refine rgU (st1 := ⟨[(2, .loc 2 0)], [(2, .box [.p U6 v8]), (100000, .box [.p .str a0, .p I6 v5, .p I6 a2, .p .bool v6])]⟩) [2] [2, 100000] hN (.cons (ldB (t := .arr 4 (.int .u64)) (rs := [(4, .loc 4 0)]) [] [.p U6 v4] [] (v := .p U6 v4) rfl rfl ty_26 o0 rfl rfl rfl rfl (.data (.one _ _))) (.cons (caV (rs := [(66, .p U6 v4)]) (vw := []) rfl rfl (.func _) hb_109 (class_Set_Not.ok O hO k v4 v8 hv8) (.cons o0 .nil) (.cons (.same _) .nil) (by simp) (.inl rfl)) (.cons (sok_storeB (U := Un) (rs := [(2, .loc 2 0), (67, .p U6 v8)]) (v := .p U6 v8) (mid' := [.p U6 v8]) [] [.p U6 ((List.replicate 4 (0 : Int)) : List Int)] [] rfl rfl rfl ty_26 o0 o1 (.data (.one _ _)) rfl rfl rfl rfl rfl rfl) .nil))) (by kernel_rfl) (by kernel_rfl) (by kernel_rfl) (cvR _) ?_
        refine tnU ?_
        refine WpC.ret ?_
        refine thenQ_ret ?_
        have hq := Option.some.inj h
        subst hq
        exact ends_ret (retV_L (U := Un) (vs := [.p U6 v8]) rfl (ResL.cell (U := Un) [] [.p U6 v8] [] (.head _) (.head _) rfl rfl rfl rfl ty_26 (.data (.one _ _)) .nil)) (ain_cons (.tail _ (.head _)) ain_nil)
      · replace h := ite_f hc7 h
        refine WpC.conv (cvK (b := ⟨[(2, .loc 2 0), (4, .loc 4 0)], [(2, .box [.p U6 ((List.replicate 4 (0 : Int)) : List Int)]), (4, .box [.p U6 v4]), (100000, .box [.p .str a0, .p I6 v5, .p I6 a2, .p .bool v6])]⟩) [2, 4] [2, 4, 100000] (by kernel_rfl)) (WpC.skip ?_)
        refine tnU ?_
        refine WpC.seq ?_
        refine rgU (st1 := ⟨[(2, .loc 2 0)], [(2, .box [.p U6 v4]), (100000, .box [.p .str a0, .p I6 v5, .p I6 a2, .p .bool v6])]⟩) [2] [2, 100000] hN (.cons (ldB (t := .arr 4 (.int .u64)) (rs := [(4, .loc 4 0)]) [] [.p U6 v4] [] (v := .p U6 v4) rfl rfl ty_26 o0 rfl rfl rfl rfl (.data (.one _ _))) (.cons (sok_storeB (U := Un) (rs := [(2, .loc 2 0), (68, .p U6 v4)]) (v := .p U6 v4) (mid' := [.p U6 v4]) [] [.p U6 ((List.replicate 4 (0 : Int)) : List Int)] [] rfl rfl rfl ty_26 o0 o1 (.data (.one _ _)) rfl rfl rfl rfl rfl rfl) .nil)) (by kernel_rfl) (by kernel_rfl) (by kernel_rfl) (cvR _) ?_
        refine tnU ?_
        refine WpC.ret ?_
        have hq := Option.some.inj h
        subst hq
        exact ends_ret (retV_L (U := Un) (vs := [.p U6 v4]) rfl (ResL.cell (U := Un) [] [.p U6 v4] [] (.head _) (.head _) rfl rfl rfl rfl ty_26 (.data (.one _ _)) .nil)) (ain_cons (.tail _ (.head _)) ain_nil)

theorem class_Of.ok (O : Out) (hO : GOkA O) (k : Nat) (a0 : List Int) (out : List Int) (h : class_Of.f k a0 = some out) : COk Un O Tryd.prog 108 { ar := [.p (.list (.int .u8)) a0], r := .p U6 out } := by
  refine cok_of_wp Tryd.func108 rfl (k := 17) rfl (Nat.le_of_ble_eq_true rfl) (namesOk_pure rfl rfl rfl rfl) ?_
  intro B hN
  refine WpC.conv (cvK (b := ⟨[(0, .p (.list (.int .u8)) a0)], []⟩) [0] [] (by kernel_rfl)) ?_
  unfold class_Of.f at h
  refine WpC.seq ?_
  refine rgU (st1 := ⟨[(0, .p (.list (.int .u8)) a0), (2, .loc 2 0)], [(2, .box [.p U6 ((List.replicate 4 (0 : Int)) : List Int)])]⟩) [0, 2] [2] hN (.cons (sok_allocZ (U := Un) (rs := []) (d := 2) (us := [.p U6 ((List.replicate 4 (0 : Int)) : List Int)]) (v := (.agg #[.int .u64 0, .int .u64 0, .int .u64 0, .int .u64 0])) rfl rfl rfl (by kernel_rfl) rfl (.data (rd_zeros _ _) .nil) (by kernel_rfl)) .nil) (by kernel_rfl) (by kernel_rfl) (by kernel_rfl) (cvR _) ?_
  refine tnU ?_
  refine WpC.seq ?_
  refine rgU (st1 := ⟨[(0, .p (.list (.int .u8)) a0), (2, .loc 2 0), (3, .loc 3 0)], [(2, .box [.p U6 ((List.replicate 4 (0 : Int)) : List Int)]), (3, .box [.p U6 ((List.replicate 4 (0 : Int)) : List Int)])]⟩) [0, 2, 3] [2, 3] hN (.cons (sok_allocZ (U := Un) (rs := []) (d := 3) (us := [.p U6 ((List.replicate 4 (0 : Int)) : List Int)]) (v := (.agg #[.int .u64 0, .int .u64 0, .int .u64 0, .int .u64 0])) rfl rfl rfl (by kernel_rfl) rfl (.data (rd_zeros _ _) .nil) (by kernel_rfl)) .nil) (by kernel_rfl) (by kernel_rfl) (by kernel_rfl) (cvR _) ?_
  refine tnU ?_
  refine sqJ (fun st' => ∃ v1 : List Int, class_Of.j2 k v1 = some out ∧ st' = ⟨[(2, .loc 2 0), (3, .loc 3 0)], [(2, .box [.p U6 ((List.replicate 4 (0 : Int)) : List Int)]), (3, .box [.p U6 v1])]⟩) ?_ ?_
  · refine WpC.seq ?_
    refine rgU (st1 := ⟨[(2, .loc 2 0), (3, .loc 3 0), (6, .p (.list (.int .u8)) a0), (7, .p I6 ((a0.length : Int) : Int)), (8, .p I6 (0 : Int))], [(2, .box [.p U6 ((List.replicate 4 (0 : Int)) : List Int)]), (3, .box [.p U6 ((List.replicate 4 (0 : Int)) : List Int)])]⟩) [2, 3, 6, 7, 8] [2, 3] hN (.cons (mvU (v := .p (.list (.int .u8)) a0) rfl rfl) (.cons (sok_lenL (U := Un) (rs := [(6, .p (.list (.int .u8)) a0)]) rfl rfl Tryd.underlying155 o0) (.cons (moU (rs := []) rfl (.inl rfl) (.int _ _ _)) .nil))) (by kernel_rfl) (by kernel_rfl) (by kernel_rfl) (cvR _) ?_
    refine tnU ?_
    refine WpC.block ?_
    obtain ⟨o7, hlo7, h⟩ := bind_some h
    have hout8 := h
    clear h
    refine WpC.loop (U := Un) (fun n st' => ∃ v3 : List Int, ∃ v4 : Int, class_Of.l5 k a0 n v3 v4 = some o7 ∧ st' = ⟨[(2, .loc 2 0), (3, .loc 3 0), (6, .p (.list (.int .u8)) a0), (7, .p I6 ((a0.length : Int) : Int)), (8, .p I6 v4)], [(2, .box [.p U6 ((List.replicate 4 (0 : Int)) : List Int)]), (3, .box [.p U6 v3])]⟩) k ⟨(List.replicate 4 (0 : Int)), 0, hlo7, rfl⟩ ?_
    clear hlo7
    rintro (_ | n) _ ⟨v3, v4, h, rfl⟩
    · cases h
    · rw [class_Of.l5] at h
      refine WpC.seq ?_
      refine rgU (st1 := ⟨[(2, .loc 2 0), (3, .loc 3 0), (6, .p (.list (.int .u8)) a0), (7, .p I6 ((a0.length : Int) : Int)), (8, .p I6 v4), (9, .p .bool ((decide (v4 < (a0.length : Int))) : Bool))], [(2, .box [.p U6 ((List.replicate 4 (0 : Int)) : List Int)]), (3, .box [.p U6 v3])]⟩) [2, 3, 6, 7, 8, 9] [2, 3] hN (.cons (cmU (rs := [(8, .p I6 v4), (7, .p I6 ((a0.length : Int) : Int))]) rfl rfl o0 o1 rfl) .nil) (by kernel_rfl) (by kernel_rfl) (by kernel_rfl) (cvR _) ?_
      refine tnU ?_
      refine WpC.seq ?_
      refine cdU (b := (decide (v4 < (a0.length : Int)))) (.tmp (.tail _ (.tail _ (.tail _ (.tail _ (.tail _ (.head _))))))) (fun hc9 => ?_) (fun hc9 => ?_)
      · replace h := ite_t hc9 h
        refine WpC.conv (cvK (b := ⟨[(2, .loc 2 0), (3, .loc 3 0), (6, .p (.list (.int .u8)) a0), (7, .p I6 ((a0.length : Int) : Int)), (8, .p I6 v4)], [(2, .box [.p U6 ((List.replicate 4 (0 : Int)) : List Int)]), (3, .box [.p U6 v3])]⟩) [2, 3, 6, 7, 8] [2, 3] (by kernel_rfl)) (WpC.skip ?_)
        refine tnU ?_
        refine WpC.seq ?_
        refine WpC.block ?_
        refine WpC.seq ?_
        obtain ⟨v10, hv10, h⟩ := bind_some h
        refine rgU (st1 := ⟨[(2, .loc 2 0), (3, .loc 3 0), (5, .p (.int .u8) v10), (6, .p (.list (.int .u8)) a0), (7, .p I6 ((a0.length : Int) : Int)), (8, .p I6 v4)], [(2, .box [.p U6 ((List.replicate 4 (0 : Int)) : List Int)]), (3, .box [.p U6 v3])]⟩) [2, 3, 5, 6, 7, 8] [2, 3] hN (.cons (sok_indexL (U := Un) (rs := [(6, .p (.list (.int .u8)) a0), (8, .p I6 v4)]) rfl rfl sl_155 o0 o1 hv10) (.cons (sok_loadP (U := Un) (rs := [(10, .pp (.int .u8) v10)]) rfl rfl ty_5 o0) (.cons (mvA (v := .p (.int .u8) v10) rfl rfl) .nil))) (by kernel_rfl) (by kernel_rfl) (by kernel_rfl) (cvR _) ?_
        refine tnU ?_
        obtain ⟨v11, hv11, h⟩ := bind_some h
        refine rgU (st1 := ⟨[(2, .loc 2 0), (3, .loc 3 0), (6, .p (.list (.int .u8)) a0), (7, .p I6 ((a0.length : Int) : Int)), (8, .p I6 v4)], [(2, .box [.p U6 ((List.replicate 4 (0 : Int)) : List Int)]), (3, .box [.p U6 v11])]⟩) [2, 3, 6, 7, 8] [2, 3] hN (.cons (ldB (t := .arr 4 (.int .u64)) (rs := [(3, .loc 3 0)]) [] [.p U6 v3] [] (v := .p U6 v3) rfl rfl ty_26 o0 rfl rfl rfl rfl (.data (.one _ _))) (.cons (mvU (v := .p (.int .u8) v10) rfl rfl) (.cons (caV (rs := [(12, .p U6 v3), (13, .p (.int .u8) v10)]) (vw := []) rfl rfl (.func _) hb_115 (class_Set_with.ok O hO k v3 v10 v11 hv11) (.cons o0 (.cons o1 .nil)) (.cons (.same _) (.cons (.same _) .nil)) (by simp) (.inl rfl)) (.cons (sok_storeB (U := Un) (rs := [(3, .loc 3 0), (14, .p U6 v11)]) (v := .p U6 v11) (mid' := [.p U6 v11]) [] [.p U6 v3] [] rfl rfl rfl ty_26 o0 o1 (.data (.one _ _)) rfl rfl rfl rfl rfl rfl) .nil)))) (by kernel_rfl) (by kernel_rfl) (by kernel_rfl) (cvR _) ?_
        refine blockQ_normal ?_
        refine tnU ?_
        refine rgU (st1 := ⟨[(2, .loc 2 0), (3, .loc 3 0), (6, .p (.list (.int .u8)) a0), (7, .p I6 ((a0.length : Int) : Int)), (8, .p I6 ((IntKind.i64.wrap (v4 + 1)) : Int))], [(2, .box [.p U6 ((List.replicate 4 (0 : Int)) : List Int)]), (3, .box [.p U6 v11])]⟩) [2, 3, 6, 7, 8] [2, 3] hN (.cons (sok_arith (U := Un) (rs := [(8, .p I6 v4)]) rfl rfl o0 (.int _ _ _) rfl) (.cons (mvU (v := .p I6 ((IntKind.i64.wrap (v4 + 1)) : Int)) rfl rfl) .nil)) (by kernel_rfl) (by kernel_rfl) (by kernel_rfl) (cvR _) ?_
        refine tnU ?_
        exact ⟨n, Nat.lt_succ_self n, v11, (IntKind.i64.wrap (v4 + 1)), h, rfl⟩
      · replace h := ite_f hc9 h
        refine WpC.conv (cvK (b := ⟨[(2, .loc 2 0), (3, .loc 3 0)], [(2, .box [.p U6 ((List.replicate 4 (0 : Int)) : List Int)]), (3, .box [.p U6 v3])]⟩) [2, 3] [2, 3] (by kernel_rfl)) (WpC.exit ?_)
        refine thenQ_exit ?_
        have hq := Option.some.inj h
        subst hq
        refine thenQ_exit ?_
        have h := hout8
        refine blockQ_hit ?_
        refine tnU ?_
        exact ⟨v3, h, rfl⟩
  · rintro _ ⟨v1, h, rfl⟩
    unfold class_Of.j2 at h
    refine WpC.seq ?_
    refine rgU (st1 := ⟨[(2, .loc 2 0)], [(2, .box [.p U6 v1])]⟩) [2] [2] hN (.cons (ldB (t := .arr 4 (.int .u64)) (rs := [(3, .loc 3 0)]) [] [.p U6 v1] [] (v := .p U6 v1) rfl rfl ty_26 o0 rfl rfl rfl rfl (.data (.one _ _))) (.cons (sok_storeB (U := Un) (rs := [(2, .loc 2 0), (16, .p U6 v1)]) (v := .p U6 v1) (mid' := [.p U6 v1]) [] [.p U6 ((List.replicate 4 (0 : Int)) : List Int)] [] rfl rfl rfl ty_26 o0 o1 (.data (.one _ _)) rfl rfl rfl rfl rfl rfl) .nil)) (by kernel_rfl) (by kernel_rfl) (by kernel_rfl) (cvR _) ?_
    refine tnU ?_
    refine WpC.ret ?_
    have hq := Option.some.inj h
    subst hq
    exact ends_ret (retV_L (U := Un) (vs := [.p U6 v1]) rfl (ResL.cell (U := Un) [] [.p U6 v1] [] (.head _) (.head _) rfl rfl rfl rfl ty_26 (.data (.one _ _)) .nil)) ain_nil

theorem rex_single.ok (O : Out) (hO : GOkA O) (k : Nat) (a0 : Int) (out : T_rex_Node) (h : rex_single.f k a0 = some out) : COk Un O Tryd.prog 110 { ar := [.p (.int .u8) a0], r := .p (.named 4) out } := by
  refine cok_of_wp Tryd.func110 rfl (k := 7) rfl (Nat.le_of_ble_eq_true rfl) (namesOk_pure rfl rfl rfl rfl) ?_
  intro B hN
  refine WpC.conv (cvK (b := ⟨[(0, .p (.int .u8) a0)], []⟩) [0] [] (by kernel_rfl)) ?_
  unfold rex_single.f at h
  refine WpC.seq ?_
  refine rgU (st1 := ⟨[(0, .p (.int .u8) a0), (2, .loc 2 0)], [(2, .box [.p I6 (0 : Int), .p I6 (0 : Int), .p U6 ((List.replicate 4 (0 : Int)) : List Int), .p (.list (.named 4)) ([] : List T_rex_Node)])]⟩) [0, 2] [2] hN (.cons (sok_allocZ (U := Un) (rs := []) (d := 2) (us := [.p I6 (0 : Int), .p I6 (0 : Int), .p U6 ((List.replicate 4 (0 : Int)) : List Int), .p (.list (.named 4)) ([] : List T_rex_Node)]) (v := (.agg #[.int .i64 0, .int .i64 0, .int .u64 0, .int .u64 0, .int .u64 0, .int .u64 0, .slice none 0 0])) rfl rfl rfl (by kernel_rfl) rfl (.data (fun _ _ _ => .int _ _) (.data (fun _ _ _ => .int _ _) (.data (rd_zeros _ _) (.data (fun _ _ _ => .lnil _) .nil)))) (by kernel_rfl)) .nil) (by kernel_rfl) (by kernel_rfl) (by kernel_rfl) (cvR _) ?_
  refine tnU ?_
  refine WpC.seq ?_
  obtain ⟨v1, hv1, h⟩ := bind_some h
  refine rgU (st1 := ⟨[(2, .loc 2 0)], [(2, .box [.p I6 (1 : Int), .p I6 (0 : Int), .p U6 v1, .p (.list (.named 4)) ([] : List T_rex_Node)])]⟩) [2] [2] hN (.cons (mvU (v := .p (.int .u8) a0) rfl rfl) (.cons (sok_buildSlice (U := Un) (t := .int .u8) (rs := [(3, .p (.int .u8) a0)]) (ys := [.tmp 3]) (xs := [a0]) rfl rfl rfl rfl row_155 (.cons o0 .nil) (by decide)) (.cons (caV (rs := [(4, .vec 4 1 0 ([a0].length))]) (vw := [(4, .row 5 (.int .u8) [a0] true)]) rfl rfl (.func _) hb_108 (class_Of.ok O hO k [a0] v1 hv1) (.cons o0 .nil) (.cons (.whole' (.head _) (by first | rfl | (simp only [upd_length, List.length_replicate, List.length_append]; done) | (simp only [upd_length, List.length_replicate, List.length_append] at *; omega) | omega)) .nil) (by simp) (.inr rfl)) (.cons (sok_build (U := Un) (t := .named 4) (rs := [(5, .p U6 v1)]) (us0 := [.p I6 (0 : Int), .p I6 (0 : Int), .p U6 ((List.replicate 4 (0 : Int)) : List Int), .p (.list (.named 4)) ([] : List T_rex_Node)]) (us := [.p I6 (1 : Int), .p I6 (0 : Int), .p U6 v1, .p (.list (.named 4)) ([] : List T_rex_Node)]) (v := .p (.named 4) ((T_rex_Node.mk 1 0 v1 []) : T_rex_Node)) rfl rfl lays_32 (.data (fun _ _ _ => .int _ _) (.data (fun _ _ _ => .int _ _) (.data (rd_zeros _ _) (.data (fun _ _ _ => .lnil _) .nil)))) (Filled.cons (U := Un) (i := 0) (v := .p I6 (1 : Int)) [] [.p I6 (0 : Int)] [.p I6 (1 : Int)] [.p I6 (0 : Int), .p U6 ((List.replicate 4 (0 : Int)) : List Int), .p (.list (.named 4)) ([] : List T_rex_Node)] (.int _ _ _) (.data (.one _ _)) rfl rfl rfl rfl rfl rfl (Filled.cons (U := Un) (i := 2) (v := .p U6 v1) [.p I6 (1 : Int), .p I6 (0 : Int)] [.p U6 ((List.replicate 4 (0 : Int)) : List Int)] [.p U6 v1] [.p (.list (.named 4)) ([] : List T_rex_Node)] o0 (.data (.one _ _)) rfl rfl rfl rfl rfl rfl (.nil _))) rfl (.data (.named (us := ([.p I6 (1 : Int), .p I6 (0 : Int), .p U6 v1, .p (.list (.named 4)) ([] : List T_rex_Node)] : List (AVal Un))) (.pair (.one _ _) (.pair (.one _ _) (.pair (.one _ _) (.pair (.one _ _) .unit))))))) (.cons (sok_storeB (U := Un) (rs := [(2, .loc 2 0), (6, .p (.named 4) ((T_rex_Node.mk 1 0 v1 []) : T_rex_Node))]) (v := .p (.named 4) ((T_rex_Node.mk 1 0 v1 []) : T_rex_Node)) (mid' := [.p I6 (1 : Int), .p I6 (0 : Int), .p U6 v1, .p (.list (.named 4)) ([] : List T_rex_Node)]) [] [.p I6 (0 : Int), .p I6 (0 : Int), .p U6 ((List.replicate 4 (0 : Int)) : List Int), .p (.list (.named 4)) ([] : List T_rex_Node)] [] rfl rfl rfl ty_32 o0 o1 (.data (.named (us := ([.p I6 (1 : Int), .p I6 (0 : Int), .p U6 v1, .p (.list (.named 4)) ([] : List T_rex_Node)] : List (AVal Un))) (.pair (.one _ _) (.pair (.one _ _) (.pair (.one _ _) (.pair (.one _ _) .unit)))))) rfl rfl rfl rfl rfl rfl) .nil))))) (by kernel_rfl) (by kernel_rfl) (by kernel_rfl) (cvR _) ?_
  refine tnU ?_
  refine WpC.ret ?_
  have hq := Option.some.inj h
  subst hq
  exact ends_ret (retV_L (U := Un) (vs := [.p (.named 4) ((T_rex_Node.mk 1 0 v1 []) : T_rex_Node)]) rfl (ResL.cell (U := Un) [] [.p I6 (1 : Int), .p I6 (0 : Int), .p U6 v1, .p (.list (.named 4)) ([] : List T_rex_Node)] [] (.head _) (.head _) rfl rfl rfl rfl ty_32 (.data (.named (us := ([.p I6 (1 : Int), .p I6 (0 : Int), .p U6 v1, .p (.list (.named 4)) ([] : List T_rex_Node)] : List (AVal Un))) (.pair (.one _ _) (.pair (.one _ _) (.pair (.one _ _) (.pair (.one _ _) .unit)))))) .nil)) ain_nil

end Go.Proofs.YthmbbdemecljpaaDoor
