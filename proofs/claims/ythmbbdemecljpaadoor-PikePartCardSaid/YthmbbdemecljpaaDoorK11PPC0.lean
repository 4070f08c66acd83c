/- A part of the proof of a given law: PPC0. Own work, printed in part by a program of mine. -/
import Derived.Test.YthmbbdemecljpaaDoorK11PPF
namespace Go.Proofs.YthmbbdemecljpaaDoor
open Go Go.AM
set_option linter.unusedVariables false
set_option linter.unusedSimpArgs false
set_option maxRecDepth 100000
theorem rex_parser_next_m0.ok (O : Out) (hO : GOkA O) (k : Nat) (a0 : List UInt8) (a1 : Int) (a2 : Int) (a3 : Bool) (out : Int × Bool) (h : rex_parser_next_m0.f k a0 a1 a2 a3 = some out) : COk Un O Tryd.prog 99 { ar := [.loc 100000 0], r := .tup [.p (.int .u8) out.1, .p .bool out.2], bs := [(100000, .box [.p .str a0, .p I6 a1, .p I6 a2, .p .bool a3])], bs' := [(100000, .box [.p .str a0, .p I6 a1, .p I6 a2, .p .bool a3])] } := by
  refine cok_of_wp Tryd.func99 rfl (k := 29) rfl (Nat.le_of_ble_eq_true rfl) (namesOk_of (by kernel_rfl)) ?_
  intro B hN
  refine WpC.conv (cvK (b := ⟨[(0, .loc 100000 0)], [(100000, .box [.p .str a0, .p I6 a1, .p I6 a2, .p .bool a3])]⟩) [0] [100000] (by kernel_rfl)) ?_
  unfold rex_parser_next_m0.f at h
  refine WpC.seq ?_
  refine rgU (st1 := ⟨[(0, .loc 100000 0)], [(100000, .box [.p .str a0, .p I6 a1, .p I6 a2, .p .bool a3])]⟩) [0] [100000] hN (.cons (moU (rs := []) rfl (.inr rfl) (.int _ _ _)) (.cons (moU (rs := []) rfl (.inr rfl) (.bool _ _)) .nil)) (by kernel_rfl) (by kernel_rfl) (by kernel_rfl) (cvR _) ?_
  refine tnU ?_
  refine sqJ (fun st' => rex_parser_next_m0.j2 k a0 a1 a2 a3 = some out ∧ st' = ⟨[(0, .loc 100000 0)], [(100000, .box [.p .str a0, .p I6 a1, .p I6 a2, .p .bool a3])]⟩) ?_ ?_
  · refine sqJ (fun st' => ∃ v3 : Bool, rex_parser_next_m0.j5 k a0 a1 a2 a3 v3 = some out ∧ st' = ⟨[(0, .loc 100000 0), (19, .p .bool v3)], [(100000, .box [.p .str a0, .p I6 a1, .p I6 a2, .p .bool a3])]⟩) ?_ ?_
    · rcases bool_cases a3 with hc6 | hc6
      · replace h := ite_t hc6 h
        refine WpC.regA (U := Un) (st1 := ⟨[(0, .loc 100000 0), (19, .p .bool true)], [(100000, .box [.p .str a0, .p I6 a1, .p I6 a2, .p .bool a3])]⟩) [0, 19] [100000] [[], [0], [0, 1], [0, 1, 2], [0, 1, 2, 3], [0, 1, 2, 3, 4], [0, 1, 2, 3, 4, 5], [0, 1, 2, 3, 4, 5, 6], [0, 1, 2, 3, 4, 5, 6, 7], [0, 1, 2, 3, 4], [0, 1, 2, 3, 4, 9], [0, 1, 2, 3, 4, 9, 10], [0, 1, 2, 3, 4, 9, 10, 11], [0, 1, 2, 3, 4, 9, 10, 11, 12], [0, 1, 2, 3, 4, 5, 6, 7, 8, 9, 10, 11, 12, 13], [0, 1, 2, 3, 4, 5, 6, 7, 8, 9, 10, 11, 12, 13, 14]] mixed hN (.cons (mvU (v := .loc 100000 0) rfl rfl) (.cons (nlU (rs := [(4, .loc 100000 0)]) rfl rfl o0 rfl) (.cons (fdB (rs := [(5, .loc 100000 0)]) rfl rfl fd_125_3 (by decide) o0) (.cons (ldB (t := .bool) (rs := [(6, .loc 100000 3)]) [.p .str a0, .p I6 a1, .p I6 a2] [.p .bool a3] [] (v := .p .bool a3) rfl rfl ty_4 o0 rfl rfl rfl rfl (.data (.one _ _))) (.cons (mvU (v := .p .bool a3) rfl rfl) (.cons (skU rfl rfl hc6) (.cons (skU rfl rfl hc6) (.cons (skU rfl rfl hc6) (.cons (skU rfl rfl hc6) (.cons (skU rfl rfl hc6) (.cons (skU rfl rfl hc6) (.cons (skU rfl rfl hc6) (.cons (skU rfl rfl hc6) (.cons (skU rfl rfl hc6) (.cons (skU rfl rfl hc6) (.cons (pkT (rs := [(8, .p .bool a3)]) rfl rfl o0 hc6 (.bool _ _)) .nil)))))))))))))))) (by kernel_rfl) (by kernel_rfl) (by kernel_rfl) (by kernel_rfl) (by kernel_rfl) (cvR _) ?_
        refine tnU ?_
        exact ⟨true, h, rfl⟩
      · replace h := ite_f hc6 h
        refine WpC.regA (U := Un) (st1 := ⟨[(0, .loc 100000 0), (19, .p .bool ((decide (a1 ≥ (a0.length : Int))) : Bool))], [(100000, .box [.p .str a0, .p I6 a1, .p I6 a2, .p .bool a3])]⟩) [0, 19] [100000] [[], [0], [0, 1], [0, 1, 2], [0, 1, 2, 3], [0, 1, 2, 3, 4], [0, 1, 2, 3, 4, 5], [0, 1, 2, 3, 4, 5, 6], [0, 1, 2, 3, 4, 5, 6, 7], [0, 1, 2, 3, 4], [0, 1, 2, 3, 4, 9], [0, 1, 2, 3, 4, 9, 10], [0, 1, 2, 3, 4, 9, 10, 11], [0, 1, 2, 3, 4, 9, 10, 11, 12], [0, 1, 2, 3, 4, 5, 6, 7, 8, 9, 10, 11, 12, 13], [0, 1, 2, 3, 4, 5, 6, 7, 8, 9, 10, 11, 12, 13, 14]] mixed hN (.cons (mvU (v := .loc 100000 0) rfl rfl) (.cons (nlU (rs := [(4, .loc 100000 0)]) rfl rfl o0 rfl) (.cons (fdB (rs := [(5, .loc 100000 0)]) rfl rfl fd_125_3 (by decide) o0) (.cons (ldB (t := .bool) (rs := [(6, .loc 100000 3)]) [.p .str a0, .p I6 a1, .p I6 a2] [.p .bool a3] [] (v := .p .bool a3) rfl rfl ty_4 o0 rfl rfl rfl rfl (.data (.one _ _))) (.cons (mvU (v := .p .bool a3) rfl rfl) (.cons (sok_run rfl rfl hc6 (mvU (v := .loc 100000 0) rfl rfl)) (.cons (sok_run rfl rfl hc6 (nlU (rs := [(9, .loc 100000 0)]) rfl rfl o0 rfl)) (.cons (sok_run rfl rfl hc6 (fdB (rs := [(10, .loc 100000 0)]) rfl rfl fd_125_1 (by decide) o0)) (.cons (sok_run rfl rfl hc6 (ldB (t := .int .i64) (rs := [(11, .loc 100000 1)]) [.p .str a0] [.p I6 a1] [.p I6 a2, .p .bool a3] (v := .p I6 a1) rfl rfl ty_3 o0 rfl rfl rfl rfl (.data (.one _ _)))) (.cons (sok_run rfl rfl hc6 (mvU (v := .loc 100000 0) rfl rfl)) (.cons (sok_run rfl rfl hc6 (nlU (rs := [(13, .loc 100000 0)]) rfl rfl o0 rfl)) (.cons (sok_run rfl rfl hc6 (fdB (rs := [(14, .loc 100000 0)]) rfl rfl fd_125_0 (by decide) o0)) (.cons (sok_run rfl rfl hc6 (ldB (t := .str) (rs := [(15, .loc 100000 0)]) [] [.p .str a0] [.p I6 a1, .p I6 a2, .p .bool a3] (v := .p .str a0) rfl rfl ty_9 o0 rfl rfl rfl rfl (.data (.one _ _)))) (.cons (sok_run rfl rfl hc6 (sok_lenS (U := Un) (rs := [(16, .p .str a0)]) rfl rfl Tryd.underlying9 o0)) (.cons (sok_run rfl rfl hc6 (cmU (rs := [(12, .p I6 a1), (17, .p I6 ((a0.length : Int) : Int))]) rfl rfl o0 o1 rfl)) (.cons (pkF (rs := [(8, .p .bool a3), (18, .p .bool ((decide (a1 ≥ (a0.length : Int))) : Bool))]) rfl rfl o0 hc6 o1) .nil)))))))))))))))) (by kernel_rfl) (by kernel_rfl) (by kernel_rfl) (by kernel_rfl) (by kernel_rfl) (cvR _) ?_
        refine tnU ?_
        exact ⟨(decide (a1 ≥ (a0.length : Int))), h, rfl⟩
    · rintro _ ⟨v3, h, rfl⟩
      unfold rex_parser_next_m0.j5 at h
      refine cdU (b := v3) o1 (fun hc4 => ?_) (fun hc4 => ?_)
      · replace h := ite_t hc4 h
        refine WpC.seq ?_
        refine rgU (st1 := ⟨[(2, .p (.int .u8) (0 : Int)), (3, .p .bool false)], [(100000, .box [.p .str a0, .p I6 a1, .p I6 a2, .p .bool a3])]⟩) [2, 3] [100000] hN (.cons (moU (rs := []) rfl (.inr rfl) (.int _ _ _)) (.cons (moU (rs := []) rfl (.inr rfl) (.bool _ _)) .nil)) (by kernel_rfl) (by kernel_rfl) (by kernel_rfl) (cvR _) ?_
        refine tnU ?_
        refine WpC.ret ?_
        refine thenQ_ret ?_
        have hq := Option.some.inj h
        subst hq
        exact ends_ret (retV_2 rfl (.head _) (.tail _ (.head _))) (ain_cons (.head _) ain_nil)
      · replace h := ite_f hc4 h
        refine WpC.conv (cvK (b := ⟨[(0, .loc 100000 0)], [(100000, .box [.p .str a0, .p I6 a1, .p I6 a2, .p .bool a3])]⟩) [0] [100000] (by kernel_rfl)) (WpC.skip ?_)
        refine tnU ?_
        exact ⟨h, rfl⟩
  · rintro _ ⟨h, rfl⟩
    unfold rex_parser_next_m0.j2 at h
    refine WpC.seq ?_
    obtain ⟨v1, hv1, h⟩ := bind_some h
    refine WpC.regA (U := Un) (st1 := ⟨[(2, .p (.int .u8) ((v1.toNat : Int) : Int)), (3, .p .bool true)], [(100000, .box [.p .str a0, .p I6 a1, .p I6 a2, .p .bool a3])]⟩) [2, 3] [100000] [[], [0], [0, 1], [0, 1, 2], [], [4], [4, 5], [4, 5, 6], [0, 1, 2, 3, 4, 5, 6, 7], [0, 1, 2, 3, 4, 5, 6, 7, 8], [0, 1, 2, 3, 4, 5, 6, 7, 8, 9]] mixed hN (.cons (mvU (v := .loc 100000 0) rfl rfl) (.cons (nlU (rs := [(20, .loc 100000 0)]) rfl rfl o0 rfl) (.cons (fdB (rs := [(21, .loc 100000 0)]) rfl rfl fd_125_0 (by decide) o0) (.cons (ldB (t := .str) (rs := [(22, .loc 100000 0)]) [] [.p .str a0] [.p I6 a1, .p I6 a2, .p .bool a3] (v := .p .str a0) rfl rfl ty_9 o0 rfl rfl rfl rfl (.data (.one _ _))) (.cons (mvU (v := .loc 100000 0) rfl rfl) (.cons (nlU (rs := [(24, .loc 100000 0)]) rfl rfl o0 rfl) (.cons (fdB (rs := [(25, .loc 100000 0)]) rfl rfl fd_125_1 (by decide) o0) (.cons (ldB (t := .int .i64) (rs := [(26, .loc 100000 1)]) [.p .str a0] [.p I6 a1] [.p I6 a2, .p .bool a3] (v := .p I6 a1) rfl rfl ty_3 o0 rfl rfl rfl rfl (.data (.one _ _))) (.cons (sok_indexS (U := Un) (rs := [(23, .p .str a0), (27, .p I6 a1)]) rfl rfl Tryd.underlying9 o0 o1 hv1) (.cons (mvA (v := .p (.int .u8) ((v1.toNat : Int) : Int)) rfl rfl) (.cons (moU (rs := []) rfl (.inr rfl) (.bool _ _)) .nil))))))))))) (by kernel_rfl) (by kernel_rfl) (by kernel_rfl) (by kernel_rfl) (by kernel_rfl) (cvR _) ?_
    refine tnU ?_
    refine WpC.ret ?_
    have hq := Option.some.inj h
    subst hq
    exact ends_ret (retV_2 rfl (.head _) (.tail _ (.head _))) (ain_cons (.head _) ain_nil)

theorem rex_parser_sees_m0.ok (O : Out) (hO : GOkA O) (k : Nat) (a0 : List UInt8) (a1 : Int) (a2 : Int) (a3 : Bool) (a4 : List UInt8) (out : Bool) (h : rex_parser_sees_m0.f k a0 a1 a2 a3 a4 = some out) : COk Un O Tryd.prog 100 { ar := [.loc 100000 0, .p .str a4], r := .p .bool out, bs := [(100000, .box [.p .str a0, .p I6 a1, .p I6 a2, .p .bool a3])], bs' := [(100000, .box [.p .str a0, .p I6 a1, .p I6 a2, .p .bool a3])] } := by
  refine cok_of_wp Tryd.func100 rfl (k := 19) rfl (Nat.le_of_ble_eq_true rfl) (namesOk_of (by kernel_rfl)) ?_
  intro B hN
  refine WpC.conv (cvK (b := ⟨[(0, .loc 100000 0), (1, .p .str a4)], [(100000, .box [.p .str a0, .p I6 a1, .p I6 a2, .p .bool a3])]⟩) [0, 1] [100000] (by kernel_rfl)) ?_
  unfold rex_parser_sees_m0.f at h
  refine WpC.seq ?_
  refine rgU (st1 := ⟨[(0, .loc 100000 0), (1, .p .str a4)], [(100000, .box [.p .str a0, .p I6 a1, .p I6 a2, .p .bool a3])]⟩) [0, 1] [100000] hN (.cons (moU (rs := []) rfl (.inr rfl) (.bool _ _)) .nil) (by kernel_rfl) (by kernel_rfl) (by kernel_rfl) (cvR _) ?_
  refine tnU ?_
  refine WpC.seq ?_
  obtain ⟨v1, hv1, h⟩ := bind_some h
  refine rgU (st1 := ⟨[(1, .p .str a4), (5, .p (.int .u8) v1.1), (6, .p .bool v1.2)], [(100000, .box [.p .str a0, .p I6 a1, .p I6 a2, .p .bool a3])]⟩) [1, 5, 6] [100000] hN (.cons (mvU (v := .loc 100000 0) rfl rfl) (.cons (caV (rs := [(8, .loc 100000 0)]) (vw := []) rfl rfl (.func _) hb_99 (COk.ren (rex_parser_next_m0.ok O hO k a0 a1 a2 a3 v1 hv1) (fun n => if n = 100000 then 100000 else n) (injOn_of (by kernel_rfl))) (.cons o0 .nil) (.cons (.same _) .nil) (by simp) (.inl rfl)) (.cons (mvU (v := .tup [.p (.int .u8) v1.1, .p .bool v1.2]) rfl rfl) (.cons (exU (rs := [(7, .tup [.p (.int .u8) v1.1, .p .bool v1.2])]) rfl rfl o0 rfl) (.cons (exU (rs := [(7, .tup [.p (.int .u8) v1.1, .p .bool v1.2])]) rfl rfl o0 rfl) (.cons (mvA (v := .p (.int .u8) v1.1) rfl rfl) (.cons (mvA (v := .p .bool v1.2) rfl rfl) .nil))))))) (by kernel_rfl) (by kernel_rfl) (by kernel_rfl) (cvR _) ?_
  refine tnU ?_
  refine WpC.seq ?_
  rcases bool_cases v1.2 with hc2 | hc2
  · replace h := ite_t hc2 h
    obtain ⟨v3, hv3, h⟩ := bind_some h
    refine rgU (st1 := ⟨[(4, .p .bool ((decide (v3 ≥ 0)) : Bool))], [(100000, .box [.p .str a0, .p I6 a1, .p I6 a2, .p .bool a3])]⟩) [4] [100000] hN (.cons (mvU (v := .p .bool v1.2) rfl rfl) (.cons (mvU (v := .p .bool v1.2) rfl rfl) (.cons (sok_run rfl rfl hc2 (mvU (v := .p .str a4) rfl rfl)) (.cons (sok_run rfl rfl hc2 (mvU (v := .p (.int .u8) v1.1) rfl rfl)) (.cons (sok_run rfl rfl hc2 (sok_call (U := Un) (rs := [(14, .p .str a4), (15, .p (.int .u8) v1.1)]) (vw := []) rfl rfl hb_102 (pIndexByteA.ok O hO k a4 v1.1 v3 hv3) (.cons o0 (.cons o1 .nil)) (.cons (.same _) (.cons (.same _) .nil)) (by simp) (.inl rfl))) (.cons (sok_run rfl rfl hc2 (cmU (rs := [(16, .p I6 v3)]) rfl rfl o0 (.int _ _ _) rfl)) (.cons (pkT (rs := [(13, .p .bool v1.2), (17, .p .bool ((decide (v3 ≥ 0)) : Bool))]) rfl rfl o0 hc2 o1) (.cons (mvA (v := .p .bool ((decide (v3 ≥ 0)) : Bool)) rfl rfl) .nil)))))))) (by kernel_rfl) (by kernel_rfl) (by kernel_rfl) (cvR _) ?_
    refine tnU ?_
    refine WpC.ret ?_
    have hq := Option.some.inj h
    subst hq
    exact ends_ret (retV_1 rfl (.head _)) (ain_cons (.head _) ain_nil)
  · replace h := ite_f hc2 h
    refine rgU (st1 := ⟨[(4, .p .bool false)], [(100000, .box [.p .str a0, .p I6 a1, .p I6 a2, .p .bool a3])]⟩) [4] [100000] hN (.cons (mvU (v := .p .bool v1.2) rfl rfl) (.cons (mvU (v := .p .bool v1.2) rfl rfl) (.cons (skU rfl rfl hc2) (.cons (skU rfl rfl hc2) (.cons (skU rfl rfl hc2) (.cons (skU rfl rfl hc2) (.cons (pkF (rs := [(13, .p .bool v1.2)]) rfl rfl o0 hc2 (.bool _ _)) (.cons (mvA (v := .p .bool false) rfl rfl) .nil)))))))) (by kernel_rfl) (by kernel_rfl) (by kernel_rfl) (cvR _) ?_
    refine tnU ?_
    refine WpC.ret ?_
    have hq := Option.some.inj h
    subst hq
    exact ends_ret (retV_1 rfl (.head _)) (ain_cons (.head _) ain_nil)

theorem rex_joined.ok (O : Out) (hO : GOkA O) (k : Nat) (a0 : Int) (a1 : List T_rex_Node) (out : T_rex_Node) (h : rex_joined.f k a0 a1 = some out) : COk Un O Tryd.prog 94 { ar := [.p I6 a0, .p (.list (.named 4)) a1], r := .p (.named 4) out } := by
  refine cok_of_wp Tryd.func94 rfl (k := 18) rfl (Nat.le_of_ble_eq_true rfl) (namesOk_pure rfl rfl rfl rfl) ?_
  intro B hN
  refine WpC.conv (cvK (b := ⟨[(0, .p I6 a0), (1, .p (.list (.named 4)) a1)], []⟩) [0, 1] [] (by kernel_rfl)) ?_
  unfold rex_joined.f at h
  refine WpC.seq ?_
  refine rgU (st1 := ⟨[(0, .p I6 a0), (1, .p (.list (.named 4)) a1), (4, .loc 4 0)], [(4, .box [.p I6 (0 : Int), .p I6 (0 : Int), .p U6 ((List.replicate 4 (0 : Int)) : List Int), .p (.list (.named 4)) ([] : List T_rex_Node)])]⟩) [0, 1, 4] [4] hN (.cons (sok_allocZ (U := Un) (rs := []) (d := 4) (us := [.p I6 (0 : Int), .p I6 (0 : Int), .p U6 ((List.replicate 4 (0 : Int)) : List Int), .p (.list (.named 4)) ([] : List T_rex_Node)]) (v := (.agg #[.int .i64 0, .int .i64 0, .int .u64 0, .int .u64 0, .int .u64 0, .int .u64 0, .slice none 0 0])) rfl rfl rfl (by kernel_rfl) rfl (.data (fun _ _ _ => .int _ _) (.data (fun _ _ _ => .int _ _) (.data (rd_zeros _ _) (.data (fun _ _ _ => .lnil _) .nil)))) (by kernel_rfl)) .nil) (by kernel_rfl) (by kernel_rfl) (by kernel_rfl) (cvR _) ?_
  refine tnU ?_
  refine WpC.seq ?_
  refine WpC.seq ?_
  refine rgU (st1 := ⟨[(0, .p I6 a0), (1, .p (.list (.named 4)) a1), (4, .loc 4 0), (6, .p I6 ((a1.length : Int) : Int))], [(4, .box [.p I6 (0 : Int), .p I6 (0 : Int), .p U6 ((List.replicate 4 (0 : Int)) : List Int), .p (.list (.named 4)) ([] : List T_rex_Node)])]⟩) [0, 1, 4, 6] [4] hN (.cons (mvU (v := .p (.list (.named 4)) a1) rfl rfl) (.cons (sok_lenL (U := Un) (rs := [(5, .p (.list (.named 4)) a1)]) rfl rfl Tryd.underlying30 o0) .nil)) (by kernel_rfl) (by kernel_rfl) (by kernel_rfl) (cvR _) ?_
  refine tnU ?_
  refine WpC.block ?_
  refine WpC.seq ?_
  refine rgU (st1 := ⟨[(0, .p I6 a0), (1, .p (.list (.named 4)) a1), (4, .loc 4 0), (6, .p I6 ((a1.length : Int) : Int)), (7, .p .bool (((a1.length : Int) == 0) : Bool))], [(4, .box [.p I6 (0 : Int), .p I6 (0 : Int), .p U6 ((List.replicate 4 (0 : Int)) : List Int), .p (.list (.named 4)) ([] : List T_rex_Node)])]⟩) [0, 1, 4, 6, 7] [4] hN (.cons (cmU (rs := [(6, .p I6 ((a1.length : Int) : Int))]) rfl rfl o0 (.int _ _ _) rfl) (.cons (mvA (v := .p .bool (((a1.length : Int) == 0) : Bool)) rfl rfl) .nil)) (by kernel_rfl) (by kernel_rfl) (by kernel_rfl) (cvR _) ?_
  refine tnU ?_
  refine cdU (b := ((a1.length : Int) == 0)) (.tmp (.tail _ (.tail _ (.tail _ (.tail _ (.head _)))))) (fun hc1 => ?_) (fun hc1 => ?_)
  · replace h := ite_t hc1 h
    refine WpC.seq ?_
    refine rgU (st1 := ⟨[(4, .loc 4 0)], [(4, .box [.p I6 (0 : Int), .p I6 (0 : Int), .p U6 ((List.replicate 4 (0 : Int)) : List Int), .p (.list (.named 4)) ([] : List T_rex_Node)])]⟩) [4] [4] hN (.cons (sok_build (U := Un) (t := .named 4) (rs := []) (us0 := [.p I6 (0 : Int), .p I6 (0 : Int), .p U6 ((List.replicate 4 (0 : Int)) : List Int), .p (.list (.named 4)) ([] : List T_rex_Node)]) (us := [.p I6 (0 : Int), .p I6 (0 : Int), .p U6 ((List.replicate 4 (0 : Int)) : List Int), .p (.list (.named 4)) ([] : List T_rex_Node)]) (v := .p (.named 4) ((T_rex_Node.mk 0 0 (List.replicate 4 (0 : Int)) []) : T_rex_Node)) rfl rfl lays_32 (.data (fun _ _ _ => .int _ _) (.data (fun _ _ _ => .int _ _) (.data (rd_zeros _ _) (.data (fun _ _ _ => .lnil _) .nil)))) (.nil _) rfl (.data (.named (us := ([.p I6 (0 : Int), .p I6 (0 : Int), .p U6 ((List.replicate 4 (0 : Int)) : List Int), .p (.list (.named 4)) ([] : List T_rex_Node)] : List (AVal Un))) (.pair (.one _ _) (.pair (.one _ _) (.pair (.one _ _) (.pair (.one _ _) .unit))))))) (.cons (sok_storeB (U := Un) (rs := [(4, .loc 4 0), (9, .p (.named 4) ((T_rex_Node.mk 0 0 (List.replicate 4 (0 : Int)) []) : T_rex_Node))]) (v := .p (.named 4) ((T_rex_Node.mk 0 0 (List.replicate 4 (0 : Int)) []) : T_rex_Node)) (mid' := [.p I6 (0 : Int), .p I6 (0 : Int), .p U6 ((List.replicate 4 (0 : Int)) : List Int), .p (.list (.named 4)) ([] : List T_rex_Node)]) [] [.p I6 (0 : Int), .p I6 (0 : Int), .p U6 ((List.replicate 4 (0 : Int)) : List Int), .p (.list (.named 4)) ([] : List T_rex_Node)] [] rfl rfl rfl ty_32 o0 o1 (.data (.named (us := ([.p I6 (0 : Int), .p I6 (0 : Int), .p U6 ((List.replicate 4 (0 : Int)) : List Int), .p (.list (.named 4)) ([] : List T_rex_Node)] : List (AVal Un))) (.pair (.one _ _) (.pair (.one _ _) (.pair (.one _ _) (.pair (.one _ _) .unit)))))) rfl rfl rfl rfl rfl rfl) .nil)) (by kernel_rfl) (by kernel_rfl) (by kernel_rfl) (cvR _) ?_
    refine tnU ?_
    refine WpC.ret ?_
    refine blockQ_ret ?_
    refine thenQ_ret ?_
    have hq := Option.some.inj h
    subst hq
    exact ends_ret (retV_L (U := Un) (vs := [.p (.named 4) ((T_rex_Node.mk 0 0 (List.replicate 4 (0 : Int)) []) : T_rex_Node)]) rfl (ResL.cell (U := Un) [] [.p I6 (0 : Int), .p I6 (0 : Int), .p U6 ((List.replicate 4 (0 : Int)) : List Int), .p (.list (.named 4)) ([] : List T_rex_Node)] [] (.head _) (.head _) rfl rfl rfl rfl ty_32 (.data (.named (us := ([.p I6 (0 : Int), .p I6 (0 : Int), .p U6 ((List.replicate 4 (0 : Int)) : List Int), .p (.list (.named 4)) ([] : List T_rex_Node)] : List (AVal Un))) (.pair (.one _ _) (.pair (.one _ _) (.pair (.one _ _) (.pair (.one _ _) .unit)))))) .nil)) ain_nil
  · replace h := ite_f hc1 h
    refine WpC.seq ?_
    refine rgU (st1 := ⟨[(0, .p I6 a0), (1, .p (.list (.named 4)) a1), (4, .loc 4 0), (10, .p .bool (((a1.length : Int) == 1) : Bool))], [(4, .box [.p I6 (0 : Int), .p I6 (0 : Int), .p U6 ((List.replicate 4 (0 : Int)) : List Int), .p (.list (.named 4)) ([] : List T_rex_Node)])]⟩) [0, 1, 4, 10] [4] hN (.cons (cmU (rs := [(6, .p I6 ((a1.length : Int) : Int))]) rfl rfl o0 (.int _ _ _) rfl) (.cons (mvA (v := .p .bool (((a1.length : Int) == 1) : Bool)) rfl rfl) .nil)) (by kernel_rfl) (by kernel_rfl) (by kernel_rfl) (cvR _) ?_
    refine tnU ?_
    refine cdU (b := ((a1.length : Int) == 1)) (.tmp (.tail _ (.tail _ (.tail _ (.head _))))) (fun hc2 => ?_) (fun hc2 => ?_)
    · replace h := ite_t hc2 h
      refine WpC.seq ?_
      obtain ⟨v3, hv3, h⟩ := bind_some h
      refine rgU (st1 := ⟨[(4, .loc 4 0)], [(4, .box [.p I6 v3.f_Kind, .p I6 v3.f_Index, .p U6 v3.f_Set, .p (.list (.named 4)) v3.f_Kids])]⟩) [4] [4] hN (.cons (mvU (v := .p (.list (.named 4)) a1) rfl rfl) (.cons (sok_indexL (U := Un) (rs := [(12, .p (.list (.named 4)) a1)]) rfl rfl sl_30 o0 (.int _ _ _) hv3) (.cons (sok_loadP (U := Un) (rs := [(13, .pp (.named 4) v3)]) rfl rfl ty_32 o0) (.cons (sok_storeB (U := Un) (rs := [(4, .loc 4 0), (14, .p (.named 4) v3)]) (v := .p (.named 4) v3) (mid' := [.p I6 v3.f_Kind, .p I6 v3.f_Index, .p U6 v3.f_Set, .p (.list (.named 4)) v3.f_Kids]) [] [.p I6 (0 : Int), .p I6 (0 : Int), .p U6 ((List.replicate 4 (0 : Int)) : List Int), .p (.list (.named 4)) ([] : List T_rex_Node)] [] rfl rfl rfl ty_32 o0 o1 (.data (.named (us := ([.p I6 v3.f_Kind, .p I6 v3.f_Index, .p U6 v3.f_Set, .p (.list (.named 4)) v3.f_Kids] : List (AVal Un))) (.pair (.one _ _) (.pair (.one _ _) (.pair (.one _ _) (.pair (.one _ _) .unit)))))) rfl rfl rfl rfl rfl rfl) .nil)))) (by kernel_rfl) (by kernel_rfl) (by kernel_rfl) (cvR _) ?_
      refine tnU ?_
      refine WpC.ret ?_
      refine blockQ_ret ?_
      refine thenQ_ret ?_
      have hq := Option.some.inj h
      subst hq
      exact ends_ret (retV_L (U := Un) (vs := [.p (.named 4) ((T_rex_Node.mk v3.f_Kind v3.f_Index v3.f_Set v3.f_Kids) : T_rex_Node)]) rfl (ResL.cell (U := Un) [] [.p I6 v3.f_Kind, .p I6 v3.f_Index, .p U6 v3.f_Set, .p (.list (.named 4)) v3.f_Kids] [] (.head _) (.head _) rfl rfl rfl rfl ty_32 (.data (.named (us := ([.p I6 v3.f_Kind, .p I6 v3.f_Index, .p U6 v3.f_Set, .p (.list (.named 4)) v3.f_Kids] : List (AVal Un))) (.pair (.one _ _) (.pair (.one _ _) (.pair (.one _ _) (.pair (.one _ _) .unit)))))) .nil)) ain_nil
    · replace h := ite_f hc2 h
      refine WpC.conv (cvK (b := ⟨[(0, .p I6 a0), (1, .p (.list (.named 4)) a1), (4, .loc 4 0)], [(4, .box [.p I6 (0 : Int), .p I6 (0 : Int), .p U6 ((List.replicate 4 (0 : Int)) : List Int), .p (.list (.named 4)) ([] : List T_rex_Node)])]⟩) [0, 1, 4] [4] (by kernel_rfl)) (WpC.skip ?_)
      refine blockQ_normal ?_
      refine tnU ?_
      refine WpC.seq ?_
      refine rgU (st1 := ⟨[(4, .loc 4 0)], [(4, .box [.p I6 a0, .p I6 (0 : Int), .p U6 ((List.replicate 4 (0 : Int)) : List Int), .p (.list (.named 4)) a1])]⟩) [4] [4] hN (.cons (mvU (v := .p I6 a0) rfl rfl) (.cons (mvU (v := .p (.list (.named 4)) a1) rfl rfl) (.cons (sok_build (U := Un) (t := .named 4) (rs := [(15, .p I6 a0), (16, .p (.list (.named 4)) a1)]) (us0 := [.p I6 (0 : Int), .p I6 (0 : Int), .p U6 ((List.replicate 4 (0 : Int)) : List Int), .p (.list (.named 4)) ([] : List T_rex_Node)]) (us := [.p I6 a0, .p I6 (0 : Int), .p U6 ((List.replicate 4 (0 : Int)) : List Int), .p (.list (.named 4)) a1]) (v := .p (.named 4) ((T_rex_Node.mk a0 0 (List.replicate 4 (0 : Int)) a1) : T_rex_Node)) rfl rfl lays_32 (.data (fun _ _ _ => .int _ _) (.data (fun _ _ _ => .int _ _) (.data (rd_zeros _ _) (.data (fun _ _ _ => .lnil _) .nil)))) (Filled.cons (U := Un) (i := 0) (v := .p I6 a0) [] [.p I6 (0 : Int)] [.p I6 a0] [.p I6 (0 : Int), .p U6 ((List.replicate 4 (0 : Int)) : List Int), .p (.list (.named 4)) ([] : List T_rex_Node)] o0 (.data (.one _ _)) rfl rfl rfl rfl rfl rfl (Filled.cons (U := Un) (i := 3) (v := .p (.list (.named 4)) a1) [.p I6 a0, .p I6 (0 : Int), .p U6 ((List.replicate 4 (0 : Int)) : List Int)] [.p (.list (.named 4)) ([] : List T_rex_Node)] [.p (.list (.named 4)) a1] [] o1 (.data (.one _ _)) rfl rfl rfl rfl rfl rfl (.nil _))) rfl (.data (.named (us := ([.p I6 a0, .p I6 (0 : Int), .p U6 ((List.replicate 4 (0 : Int)) : List Int), .p (.list (.named 4)) a1] : List (AVal Un))) (.pair (.one _ _) (.pair (.one _ _) (.pair (.one _ _) (.pair (.one _ _) .unit))))))) (.cons (sok_storeB (U := Un) (rs := [(4, .loc 4 0), (17, .p (.named 4) ((T_rex_Node.mk a0 0 (List.replicate 4 (0 : Int)) a1) : T_rex_Node))]) (v := .p (.named 4) ((T_rex_Node.mk a0 0 (List.replicate 4 (0 : Int)) a1) : T_rex_Node)) (mid' := [.p I6 a0, .p I6 (0 : Int), .p U6 ((List.replicate 4 (0 : Int)) : List Int), .p (.list (.named 4)) a1]) [] [.p I6 (0 : Int), .p I6 (0 : Int), .p U6 ((List.replicate 4 (0 : Int)) : List Int), .p (.list (.named 4)) ([] : List T_rex_Node)] [] rfl rfl rfl ty_32 o0 o1 (.data (.named (us := ([.p I6 a0, .p I6 (0 : Int), .p U6 ((List.replicate 4 (0 : Int)) : List Int), .p (.list (.named 4)) a1] : List (AVal Un))) (.pair (.one _ _) (.pair (.one _ _) (.pair (.one _ _) (.pair (.one _ _) .unit)))))) rfl rfl rfl rfl rfl rfl) .nil)))) (by kernel_rfl) (by kernel_rfl) (by kernel_rfl) (cvR _) ?_
      refine tnU ?_
      refine WpC.ret ?_
      have hq := Option.some.inj h
      subst hq
      exact ends_ret (retV_L (U := Un) (vs := [.p (.named 4) ((T_rex_Node.mk a0 0 (List.replicate 4 (0 : Int)) a1) : T_rex_Node)]) rfl (ResL.cell (U := Un) [] [.p I6 a0, .p I6 (0 : Int), .p U6 ((List.replicate 4 (0 : Int)) : List Int), .p (.list (.named 4)) a1] [] (.head _) (.head _) rfl rfl rfl rfl ty_32 (.data (.named (us := ([.p I6 a0, .p I6 (0 : Int), .p U6 ((List.replicate 4 (0 : Int)) : List Int), .p (.list (.named 4)) a1] : List (AVal Un))) (.pair (.one _ _) (.pair (.one _ _) (.pair (.one _ _) (.pair (.one _ _) .unit)))))) .nil)) ain_nil

theorem rex_parser_byte_m0.ok (O : Out) (hO : GOkA O) (k : Nat) (a0 : List UInt8) (a1 : Int) (a2 : Int) (a3 : Bool) (out : Int × Int × Bool) (h : rex_parser_byte_m0.f k a0 a1 a2 a3 = some out) : COk Un O Tryd.prog 105 { ar := [.loc 100000 0], r := .p (.int .u8) out.1, bs := [(100000, .box [.p .str a0, .p I6 a1, .p I6 a2, .p .bool a3])], bs' := [(100000, .box [.p .str a0, .p I6 out.2.1, .p I6 a2, .p .bool out.2.2])] } := by
  refine cok_of_wp Tryd.func105 rfl (k := 23) rfl (Nat.le_of_ble_eq_true rfl) (namesOk_of (by kernel_rfl)) ?_
  intro B hN
  refine WpC.conv (cvK (b := ⟨[(0, .loc 100000 0)], [(100000, .box [.p .str a0, .p I6 a1, .p I6 a2, .p .bool a3])]⟩) [0] [100000] (by kernel_rfl)) ?_
  unfold rex_parser_byte_m0.f at h
  refine WpC.seq ?_
  refine rgU (st1 := ⟨[(0, .loc 100000 0)], [(100000, .box [.p .str a0, .p I6 a1, .p I6 a2, .p .bool a3])]⟩) [0] [100000] hN (.cons (moU (rs := []) rfl (.inr rfl) (.int _ _ _)) .nil) (by kernel_rfl) (by kernel_rfl) (by kernel_rfl) (cvR _) ?_
  refine tnU ?_
  refine WpC.seq ?_
  obtain ⟨v1, hv1, h⟩ := bind_some h
  refine rgU (st1 := ⟨[(0, .loc 100000 0), (3, .p (.int .u8) v1.1), (4, .p .bool v1.2)], [(100000, .box [.p .str a0, .p I6 a1, .p I6 a2, .p .bool a3])]⟩) [0, 3, 4] [100000] hN (.cons (mvU (v := .loc 100000 0) rfl rfl) (.cons (caV (rs := [(6, .loc 100000 0)]) (vw := []) rfl rfl (.func _) hb_99 (COk.ren (rex_parser_next_m0.ok O hO k a0 a1 a2 a3 v1 hv1) (fun n => if n = 100000 then 100000 else n) (injOn_of (by kernel_rfl))) (.cons o0 .nil) (.cons (.same _) .nil) (by simp) (.inl rfl)) (.cons (mvU (v := .tup [.p (.int .u8) v1.1, .p .bool v1.2]) rfl rfl) (.cons (exU (rs := [(5, .tup [.p (.int .u8) v1.1, .p .bool v1.2])]) rfl rfl o0 rfl) (.cons (exU (rs := [(5, .tup [.p (.int .u8) v1.1, .p .bool v1.2])]) rfl rfl o0 rfl) (.cons (mvA (v := .p (.int .u8) v1.1) rfl rfl) (.cons (mvA (v := .p .bool v1.2) rfl rfl) .nil))))))) (by kernel_rfl) (by kernel_rfl) (by kernel_rfl) (cvR _) ?_
  refine tnU ?_
  refine WpC.seq ?_
  refine WpC.seq ?_
  refine rgU (st1 := ⟨[(0, .loc 100000 0), (3, .p (.int .u8) v1.1), (11, .p .bool ((!v1.2) : Bool))], [(100000, .box [.p .str a0, .p I6 a1, .p I6 a2, .p .bool a3])]⟩) [0, 3, 11] [100000] hN (.cons (mvU (v := .p .bool v1.2) rfl rfl) (.cons (sok_not (U := Un) (rs := [(10, .p .bool v1.2)]) rfl rfl o0) .nil)) (by kernel_rfl) (by kernel_rfl) (by kernel_rfl) (cvR _) ?_
  refine tnU ?_
  refine cdU (b := (!v1.2)) (.tmp (.tail _ (.tail _ (.head _)))) (fun hc2 => ?_) (fun hc2 => ?_)
  · replace h := ite_t hc2 h
    refine WpC.seq ?_
    refine rgU (st1 := ⟨[], [(100000, .box [.p .str a0, .p I6 a1, .p I6 a2, .p .bool true])]⟩) [] [100000] hN (.cons (mvU (v := .loc 100000 0) rfl rfl) (.cons (nlU (rs := [(12, .loc 100000 0)]) rfl rfl o0 rfl) (.cons (fdB (rs := [(13, .loc 100000 0)]) rfl rfl fd_125_3 (by decide) o0) (.cons (sok_storeB (U := Un) (rs := [(14, .loc 100000 3)]) (v := .p .bool true) (mid' := [.p .bool true]) [.p .str a0, .p I6 a1, .p I6 a2] [.p .bool a3] [] rfl rfl rfl ty_4 o0 (.bool _ _) (.data (.one _ _)) rfl rfl rfl rfl rfl rfl) .nil)))) (by kernel_rfl) (by kernel_rfl) (by kernel_rfl) (cvR _) ?_
    refine tnU ?_
    refine WpC.seq ?_
    refine rgU (st1 := ⟨[(2, .p (.int .u8) (0 : Int))], [(100000, .box [.p .str a0, .p I6 a1, .p I6 a2, .p .bool true])]⟩) [2] [100000] hN (.cons (moU (rs := []) rfl (.inr rfl) (.int _ _ _)) .nil) (by kernel_rfl) (by kernel_rfl) (by kernel_rfl) (cvR _) ?_
    refine tnU ?_
    refine WpC.ret ?_
    refine thenQ_ret ?_
    have hq := Option.some.inj h
    subst hq
    exact ends_ret (retV_1 rfl (.head _)) (ain_cons (.head _) ain_nil)
  · replace h := ite_f hc2 h
    refine WpC.conv (cvK (b := ⟨[(0, .loc 100000 0), (3, .p (.int .u8) v1.1)], [(100000, .box [.p .str a0, .p I6 a1, .p I6 a2, .p .bool a3])]⟩) [0, 3] [100000] (by kernel_rfl)) (WpC.skip ?_)
    refine tnU ?_
    refine WpC.seq ?_
    refine rgU (st1 := ⟨[(3, .p (.int .u8) v1.1)], [(100000, .box [.p .str a0, .p I6 ((IntKind.i64.wrap (a1 + 1)) : Int), .p I6 a2, .p .bool a3])]⟩) [3] [100000] hN (.cons (mvU (v := .loc 100000 0) rfl rfl) (.cons (nlU (rs := [(15, .loc 100000 0)]) rfl rfl o0 rfl) (.cons (fdB (rs := [(16, .loc 100000 0)]) rfl rfl fd_125_1 (by decide) o0) (.cons (ldB (t := .int .i64) (rs := [(17, .loc 100000 1)]) [.p .str a0] [.p I6 a1] [.p I6 a2, .p .bool a3] (v := .p I6 a1) rfl rfl ty_3 o0 rfl rfl rfl rfl (.data (.one _ _))) (.cons (sok_arith (U := Un) (rs := [(18, .p I6 a1)]) rfl rfl o0 (.int _ _ _) rfl) (.cons (nlU (rs := [(15, .loc 100000 0)]) rfl rfl o0 rfl) (.cons (fdB (rs := [(20, .loc 100000 0)]) rfl rfl fd_125_1 (by decide) o0) (.cons (sok_storeB (U := Un) (rs := [(21, .loc 100000 1), (19, .p I6 ((IntKind.i64.wrap (a1 + 1)) : Int))]) (v := .p I6 ((IntKind.i64.wrap (a1 + 1)) : Int)) (mid' := [.p I6 ((IntKind.i64.wrap (a1 + 1)) : Int)]) [.p .str a0] [.p I6 a1] [.p I6 a2, .p .bool a3] rfl rfl rfl ty_3 o0 o1 (.data (.one _ _)) rfl rfl rfl rfl rfl rfl) .nil)))))))) (by kernel_rfl) (by kernel_rfl) (by kernel_rfl) (cvR _) ?_
    refine tnU ?_
    refine WpC.seq ?_
    refine rgU (st1 := ⟨[(2, .p (.int .u8) v1.1)], [(100000, .box [.p .str a0, .p I6 ((IntKind.i64.wrap (a1 + 1)) : Int), .p I6 a2, .p .bool a3])]⟩) [2] [100000] hN (.cons (mvU (v := .p (.int .u8) v1.1) rfl rfl) (.cons (mvA (v := .p (.int .u8) v1.1) rfl rfl) .nil)) (by kernel_rfl) (by kernel_rfl) (by kernel_rfl) (cvR _) ?_
    refine tnU ?_
    refine WpC.ret ?_
    have hq := Option.some.inj h
    subst hq
    exact ends_ret (retV_1 rfl (.head _)) (ain_cons (.head _) ain_nil)

theorem rex_parser_takes_m0.ok (O : Out) (hO : GOkA O) (k : Nat) (a0 : List UInt8) (a1 : Int) (a2 : Int) (a3 : Bool) (a4 : List UInt8) (out : Bool × Int) (h : rex_parser_takes_m0.f k a0 a1 a2 a3 a4 = some out) : COk Un O Tryd.prog 93 { ar := [.loc 100000 0, .p .str a4], r := .p .bool out.1, bs := [(100000, .box [.p .str a0, .p I6 a1, .p I6 a2, .p .bool a3])], bs' := [(100000, .box [.p .str a0, .p I6 out.2, .p I6 a2, .p .bool a3])] } := by
  refine cok_of_wp Tryd.func93 rfl (k := 16) rfl (Nat.le_of_ble_eq_true rfl) (namesOk_of (by kernel_rfl)) ?_
  intro B hN
  refine WpC.conv (cvK (b := ⟨[(0, .loc 100000 0), (1, .p .str a4)], [(100000, .box [.p .str a0, .p I6 a1, .p I6 a2, .p .bool a3])]⟩) [0, 1] [100000] (by kernel_rfl)) ?_
  unfold rex_parser_takes_m0.f at h
  refine WpC.seq ?_
  refine rgU (st1 := ⟨[(0, .loc 100000 0), (1, .p .str a4)], [(100000, .box [.p .str a0, .p I6 a1, .p I6 a2, .p .bool a3])]⟩) [0, 1] [100000] hN (.cons (moU (rs := []) rfl (.inr rfl) (.bool _ _)) .nil) (by kernel_rfl) (by kernel_rfl) (by kernel_rfl) (cvR _) ?_
  refine tnU ?_
  refine WpC.seq ?_
  refine WpC.seq ?_
  obtain ⟨v1, hv1, h⟩ := bind_some h
  refine rgU (st1 := ⟨[(0, .loc 100000 0), (8, .p .bool ((!v1) : Bool))], [(100000, .box [.p .str a0, .p I6 a1, .p I6 a2, .p .bool a3])]⟩) [0, 8] [100000] hN (.cons (mvU (v := .loc 100000 0) rfl rfl) (.cons (mvU (v := .p .str a4) rfl rfl) (.cons (caV (rs := [(5, .loc 100000 0), (6, .p .str a4)]) (vw := []) rfl rfl (.func _) hb_100 (COk.ren (rex_parser_sees_m0.ok O hO k a0 a1 a2 a3 a4 v1 hv1) (fun n => if n = 100000 then 100000 else n) (injOn_of (by kernel_rfl))) (.cons o0 (.cons o1 .nil)) (.cons (.same _) (.cons (.same _) .nil)) (by simp) (.inl rfl)) (.cons (sok_not (U := Un) (rs := [(7, .p .bool v1)]) rfl rfl o0) .nil)))) (by kernel_rfl) (by kernel_rfl) (by kernel_rfl) (cvR _) ?_
  refine tnU ?_
  refine cdU (b := (!v1)) o1 (fun hc2 => ?_) (fun hc2 => ?_)
  · replace h := ite_t hc2 h
    refine WpC.seq ?_
    refine rgU (st1 := ⟨[(4, .p .bool false)], [(100000, .box [.p .str a0, .p I6 a1, .p I6 a2, .p .bool a3])]⟩) [4] [100000] hN (.cons (moU (rs := []) rfl (.inr rfl) (.bool _ _)) .nil) (by kernel_rfl) (by kernel_rfl) (by kernel_rfl) (cvR _) ?_
    refine tnU ?_
    refine WpC.ret ?_
    refine thenQ_ret ?_
    have hq := Option.some.inj h
    subst hq
    exact ends_ret (retV_1 rfl (.head _)) (ain_cons (.head _) ain_nil)
  · replace h := ite_f hc2 h
    refine WpC.conv (cvK (b := ⟨[(0, .loc 100000 0)], [(100000, .box [.p .str a0, .p I6 a1, .p I6 a2, .p .bool a3])]⟩) [0] [100000] (by kernel_rfl)) (WpC.skip ?_)
    refine tnU ?_
    refine WpC.seq ?_
    refine rgU (st1 := ⟨[], [(100000, .box [.p .str a0, .p I6 ((IntKind.i64.wrap (a1 + 1)) : Int), .p I6 a2, .p .bool a3])]⟩) [] [100000] hN (.cons (mvU (v := .loc 100000 0) rfl rfl) (.cons (nlU (rs := [(9, .loc 100000 0)]) rfl rfl o0 rfl) (.cons (fdB (rs := [(10, .loc 100000 0)]) rfl rfl fd_125_1 (by decide) o0) (.cons (ldB (t := .int .i64) (rs := [(11, .loc 100000 1)]) [.p .str a0] [.p I6 a1] [.p I6 a2, .p .bool a3] (v := .p I6 a1) rfl rfl ty_3 o0 rfl rfl rfl rfl (.data (.one _ _))) (.cons (sok_arith (U := Un) (rs := [(12, .p I6 a1)]) rfl rfl o0 (.int _ _ _) rfl) (.cons (nlU (rs := [(9, .loc 100000 0)]) rfl rfl o0 rfl) (.cons (fdB (rs := [(14, .loc 100000 0)]) rfl rfl fd_125_1 (by decide) o0) (.cons (sok_storeB (U := Un) (rs := [(15, .loc 100000 1), (13, .p I6 ((IntKind.i64.wrap (a1 + 1)) : Int))]) (v := .p I6 ((IntKind.i64.wrap (a1 + 1)) : Int)) (mid' := [.p I6 ((IntKind.i64.wrap (a1 + 1)) : Int)]) [.p .str a0] [.p I6 a1] [.p I6 a2, .p .bool a3] rfl rfl rfl ty_3 o0 o1 (.data (.one _ _)) rfl rfl rfl rfl rfl rfl) .nil)))))))) (by kernel_rfl) (by kernel_rfl) (by kernel_rfl) (cvR _) ?_
    refine tnU ?_
    refine WpC.seq ?_
    refine rgU (st1 := ⟨[(4, .p .bool true)], [(100000, .box [.p .str a0, .p I6 ((IntKind.i64.wrap (a1 + 1)) : Int), .p I6 a2, .p .bool a3])]⟩) [4] [100000] hN (.cons (moU (rs := []) rfl (.inr rfl) (.bool _ _)) .nil) (by kernel_rfl) (by kernel_rfl) (by kernel_rfl) (cvR _) ?_
    refine tnU ?_
    refine WpC.ret ?_
    have hq := Option.some.inj h
    subst hq
    exact ends_ret (retV_1 rfl (.head _)) (ain_cons (.head _) ain_nil)

theorem rex_parser_member_m0.ok (O : Out) (hO : GOkA O) (k : Nat) (a0 : List UInt8) (a1 : Int) (a2 : Int) (a3 : Bool) (out : Int × Int × Bool) (h : rex_parser_member_m0.f k a0 a1 a2 a3 = some out) : COk Un O Tryd.prog 112 { ar := [.loc 100000 0], r := .p (.int .u8) out.1, bs := [(100000, .box [.p .str a0, .p I6 a1, .p I6 a2, .p .bool a3])], bs' := [(100000, .box [.p .str a0, .p I6 out.2.1, .p I6 a2, .p .bool out.2.2])] } := by
  refine cok_of_wp Tryd.func112 rfl (k := 11) rfl (Nat.le_of_ble_eq_true rfl) (namesOk_of (by kernel_rfl)) ?_
  intro B hN
  refine WpC.conv (cvK (b := ⟨[(0, .loc 100000 0)], [(100000, .box [.p .str a0, .p I6 a1, .p I6 a2, .p .bool a3])]⟩) [0] [100000] (by kernel_rfl)) ?_
  unfold rex_parser_member_m0.f at h
  refine WpC.seq ?_
  refine rgU (st1 := ⟨[(0, .loc 100000 0)], [(100000, .box [.p .str a0, .p I6 a1, .p I6 a2, .p .bool a3])]⟩) [0] [100000] hN (.cons (moU (rs := []) rfl (.inr rfl) (.int _ _ _)) .nil) (by kernel_rfl) (by kernel_rfl) (by kernel_rfl) (cvR _) ?_
  refine tnU ?_
  refine WpC.seq ?_
  obtain ⟨v1, hv1, h⟩ := bind_some h
  refine rgU (st1 := ⟨[(0, .loc 100000 0), (3, .p (.int .u8) v1.1)], [(100000, .box [.p .str a0, .p I6 v1.2.1, .p I6 a2, .p .bool v1.2.2])]⟩) [0, 3] [100000] hN (.cons (mvU (v := .loc 100000 0) rfl rfl) (.cons (caV (rs := [(4, .loc 100000 0)]) (vw := []) rfl rfl (.func _) hb_105 (COk.ren (rex_parser_byte_m0.ok O hO k a0 a1 a2 a3 v1 hv1) (fun n => if n = 100000 then 100000 else n) (injOn_of (by kernel_rfl))) (.cons o0 .nil) (.cons (.same _) .nil) (by simp) (.inl rfl)) (.cons (mvA (v := .p (.int .u8) v1.1) rfl rfl) .nil))) (by kernel_rfl) (by kernel_rfl) (by kernel_rfl) (cvR _) ?_
  refine tnU ?_
  refine WpC.seq ?_
  refine WpC.seq ?_
  refine rgU (st1 := ⟨[(0, .loc 100000 0), (3, .p (.int .u8) v1.1), (7, .p .bool ((v1.1 == 92) : Bool))], [(100000, .box [.p .str a0, .p I6 v1.2.1, .p I6 a2, .p .bool v1.2.2])]⟩) [0, 3, 7] [100000] hN (.cons (mvU (v := .p (.int .u8) v1.1) rfl rfl) (.cons (cmU (rs := [(6, .p (.int .u8) v1.1)]) rfl rfl o0 (.int _ _ _) rfl) .nil)) (by kernel_rfl) (by kernel_rfl) (by kernel_rfl) (cvR _) ?_
  refine tnU ?_
  refine cdU (b := (v1.1 == 92)) (.tmp (.tail _ (.tail _ (.head _)))) (fun hc2 => ?_) (fun hc2 => ?_)
  · replace h := ite_t hc2 h
    refine WpC.seq ?_
    obtain ⟨v3, hv3, h⟩ := bind_some h
    refine rgU (st1 := ⟨[(2, .p (.int .u8) v3.1)], [(100000, .box [.p .str a0, .p I6 v3.2.1, .p I6 a2, .p .bool v3.2.2])]⟩) [2] [100000] hN (.cons (mvU (v := .loc 100000 0) rfl rfl) (.cons (caV (rs := [(8, .loc 100000 0)]) (vw := []) rfl rfl (.func _) hb_105 (COk.ren (rex_parser_byte_m0.ok O hO k a0 v1.2.1 a2 v1.2.2 v3 hv3) (fun n => if n = 100000 then 100000 else n) (injOn_of (by kernel_rfl))) (.cons o0 .nil) (.cons (.same _) .nil) (by simp) (.inl rfl)) (.cons (mvA (v := .p (.int .u8) v3.1) rfl rfl) .nil))) (by kernel_rfl) (by kernel_rfl) (by kernel_rfl) (cvR _) ?_
    refine tnU ?_
    refine WpC.ret ?_
    refine thenQ_ret ?_
    have hq := Option.some.inj h
    subst hq
    exact ends_ret (retV_1 rfl (.head _)) (ain_cons (.head _) ain_nil)
  · replace h := ite_f hc2 h
    refine WpC.conv (cvK (b := ⟨[(3, .p (.int .u8) v1.1)], [(100000, .box [.p .str a0, .p I6 v1.2.1, .p I6 a2, .p .bool v1.2.2])]⟩) [3] [100000] (by kernel_rfl)) (WpC.skip ?_)
    refine tnU ?_
    refine WpC.seq ?_
    refine rgU (st1 := ⟨[(2, .p (.int .u8) v1.1)], [(100000, .box [.p .str a0, .p I6 v1.2.1, .p I6 a2, .p .bool v1.2.2])]⟩) [2] [100000] hN (.cons (mvU (v := .p (.int .u8) v1.1) rfl rfl) (.cons (mvA (v := .p (.int .u8) v1.1) rfl rfl) .nil)) (by kernel_rfl) (by kernel_rfl) (by kernel_rfl) (cvR _) ?_
    refine tnU ?_
    refine WpC.ret ?_
    have hq := Option.some.inj h
    subst hq
    exact ends_ret (retV_1 rfl (.head _)) (ain_cons (.head _) ain_nil)

theorem rex_parser_spans_m0.ok (O : Out) (hO : GOkA O) (k : Nat) (a0 : List UInt8) (a1 : Int) (a2 : Int) (a3 : Bool) (out : Bool) (h : rex_parser_spans_m0.f k a0 a1 a2 a3 = some out) : COk Un O Tryd.prog 113 { ar := [.loc 100000 0], r := .p .bool out, bs := [(100000, .box [.p .str a0, .p I6 a1, .p I6 a2, .p .bool a3])], bs' := [(100000, .box [.p .str a0, .p I6 a1, .p I6 a2, .p .bool a3])] } := by
  refine cok_of_wp Tryd.func113 rfl (k := 31) rfl (Nat.le_of_ble_eq_true rfl) (namesOk_of (by kernel_rfl)) ?_
  intro B hN
  refine WpC.conv (cvK (b := ⟨[(0, .loc 100000 0)], [(100000, .box [.p .str a0, .p I6 a1, .p I6 a2, .p .bool a3])]⟩) [0] [100000] (by kernel_rfl)) ?_
  unfold rex_parser_spans_m0.f at h
  refine WpC.seq ?_
  refine rgU (st1 := ⟨[(0, .loc 100000 0)], [(100000, .box [.p .str a0, .p I6 a1, .p I6 a2, .p .bool a3])]⟩) [0] [100000] hN (.cons (moU (rs := []) rfl (.inr rfl) (.bool _ _)) .nil) (by kernel_rfl) (by kernel_rfl) (by kernel_rfl) (cvR _) ?_
  refine tnU ?_
  refine WpC.seq ?_
  obtain ⟨v1, hv1, h⟩ := bind_some h
  rcases bool_cases v1 with hc2 | hc2
  · replace h := ite_t hc2 h
    rcases bool_cases (decide ((IntKind.i64.wrap (a1 + 1)) < (a0.length : Int))) with hc3 | hc3
    · replace h := ite_t hc3 h
      obtain ⟨v4, hv4, h⟩ := bind_some h
      refine WpC.regA (U := Un) (st1 := ⟨[(2, .p .bool (((v4.toNat : Int) != 93) : Bool))], [(100000, .box [.p .str a0, .p I6 a1, .p I6 a2, .p .bool a3])]⟩) [2] [100000] [[], [0], [0, 1], [0, 1, 2], [0, 1, 2, 3], [0, 1, 2, 3, 4], [0, 1, 2, 3, 4, 5], [0, 1, 2, 3, 4, 5, 6], [0, 1, 2], [0, 1, 2, 8], [0, 1, 2, 8, 9], [0, 1, 2, 8, 9, 10], [0, 1, 2, 8, 9, 10, 11], [0, 1, 2, 3, 4, 5, 6, 7, 8, 9, 10, 11, 12], [0, 1, 2, 3, 4, 5, 6, 7, 8, 9, 10, 11, 12, 13], [0, 1, 2, 3, 4, 5, 6, 7, 8, 9, 10, 11, 12, 13, 14], [0, 1, 2, 3, 4, 5, 6, 7, 8, 9, 10, 11, 12, 13, 14, 15], [0, 1, 2, 3, 4, 5, 6, 7, 8, 9, 10, 11, 12, 13, 14, 15, 16], [0, 1, 2, 3, 4, 5, 6, 7, 8, 9, 10, 11, 12, 13, 14, 15, 16, 17], [0, 1, 2, 3, 4, 5, 6, 7, 8, 9, 10, 11, 12, 13, 14, 15, 16, 17, 18], [0, 1, 2, 3, 4, 5, 6, 7, 8, 9, 10, 11, 12, 13, 14, 15], [0, 1, 2, 3, 4, 5, 6, 7, 8, 9, 10, 11, 12, 13, 14, 15, 20], [0, 1, 2, 3, 4, 5, 6, 7, 8, 9, 10, 11, 12, 13, 14, 15, 20, 21], [0, 1, 2, 3, 4, 5, 6, 7, 8, 9, 10, 11, 12, 13, 14, 15, 20, 21, 22], [0, 1, 2, 3, 4, 5, 6, 7, 8, 9, 10, 11, 12, 13, 14, 15, 20, 21, 22, 23], [0, 1, 2, 3, 4, 5, 6, 7, 8, 9, 10, 11, 12, 13, 14, 15, 16, 17, 18, 19, 20, 21, 22, 23, 24], [0, 1, 2, 3, 4, 5, 6, 7, 8, 9, 10, 11, 12, 13, 14, 15, 16, 17, 18, 19, 20, 21, 22, 23, 24, 25], [0, 1, 2, 3, 4, 5, 6, 7, 8, 9, 10, 11, 12, 13, 14, 15, 16, 17, 18, 19, 20, 21, 22, 23, 24, 25, 26], [0, 1, 2, 3, 4, 5, 6, 7, 8, 9, 10, 11, 12, 13, 14, 15, 16, 17, 18, 19, 20, 21, 22, 23, 24, 25, 26, 27]] mixed hN (.cons (mvU (v := .loc 100000 0) rfl rfl) (.cons (caV (rs := [(3, .loc 100000 0)]) (vw := []) rfl rfl (.func _) hb_100 (COk.ren (rex_parser_sees_m0.ok O hO k a0 a1 a2 a3 ([45] : List UInt8) v1 hv1) (fun n => if n = 100000 then 100000 else n) (injOn_of (by kernel_rfl))) (.cons o0 (.cons (.str _ _) .nil)) (.cons (.same _) (.cons (.same _) .nil)) (by simp) (.inl rfl)) (.cons (mvU (v := .p .bool v1) rfl rfl) (.cons (sok_run rfl rfl hc2 (mvU (v := .loc 100000 0) rfl rfl)) (.cons (sok_run rfl rfl hc2 (nlU (rs := [(6, .loc 100000 0)]) rfl rfl o0 rfl)) (.cons (sok_run rfl rfl hc2 (fdB (rs := [(7, .loc 100000 0)]) rfl rfl fd_125_1 (by decide) o0)) (.cons (sok_run rfl rfl hc2 (ldB (t := .int .i64) (rs := [(8, .loc 100000 1)]) [.p .str a0] [.p I6 a1] [.p I6 a2, .p .bool a3] (v := .p I6 a1) rfl rfl ty_3 o0 rfl rfl rfl rfl (.data (.one _ _)))) (.cons (sok_run rfl rfl hc2 (sok_arith (U := Un) (rs := [(9, .p I6 a1)]) rfl rfl o0 (.int _ _ _) rfl)) (.cons (sok_run rfl rfl hc2 (mvU (v := .loc 100000 0) rfl rfl)) (.cons (sok_run rfl rfl hc2 (nlU (rs := [(11, .loc 100000 0)]) rfl rfl o0 rfl)) (.cons (sok_run rfl rfl hc2 (fdB (rs := [(12, .loc 100000 0)]) rfl rfl fd_125_0 (by decide) o0)) (.cons (sok_run rfl rfl hc2 (ldB (t := .str) (rs := [(13, .loc 100000 0)]) [] [.p .str a0] [.p I6 a1, .p I6 a2, .p .bool a3] (v := .p .str a0) rfl rfl ty_9 o0 rfl rfl rfl rfl (.data (.one _ _)))) (.cons (sok_run rfl rfl hc2 (sok_lenS (U := Un) (rs := [(14, .p .str a0)]) rfl rfl Tryd.underlying9 o0)) (.cons (sok_run rfl rfl hc2 (cmU (rs := [(10, .p I6 ((IntKind.i64.wrap (a1 + 1)) : Int)), (15, .p I6 ((a0.length : Int) : Int))]) rfl rfl o0 o1 rfl)) (.cons (pkT (rs := [(5, .p .bool v1), (16, .p .bool ((decide ((IntKind.i64.wrap (a1 + 1)) < (a0.length : Int))) : Bool))]) rfl rfl o0 hc2 o1) (.cons (mvU (v := .p .bool ((decide ((IntKind.i64.wrap (a1 + 1)) < (a0.length : Int))) : Bool)) rfl rfl) (.cons (sok_run rfl rfl hc3 (mvU (v := .loc 100000 0) rfl rfl)) (.cons (sok_run rfl rfl hc3 (nlU (rs := [(19, .loc 100000 0)]) rfl rfl o0 rfl)) (.cons (sok_run rfl rfl hc3 (fdB (rs := [(20, .loc 100000 0)]) rfl rfl fd_125_0 (by decide) o0)) (.cons (sok_run rfl rfl hc3 (ldB (t := .str) (rs := [(21, .loc 100000 0)]) [] [.p .str a0] [.p I6 a1, .p I6 a2, .p .bool a3] (v := .p .str a0) rfl rfl ty_9 o0 rfl rfl rfl rfl (.data (.one _ _)))) (.cons (sok_run rfl rfl hc3 (mvU (v := .loc 100000 0) rfl rfl)) (.cons (sok_run rfl rfl hc3 (nlU (rs := [(23, .loc 100000 0)]) rfl rfl o0 rfl)) (.cons (sok_run rfl rfl hc3 (fdB (rs := [(24, .loc 100000 0)]) rfl rfl fd_125_1 (by decide) o0)) (.cons (sok_run rfl rfl hc3 (ldB (t := .int .i64) (rs := [(25, .loc 100000 1)]) [.p .str a0] [.p I6 a1] [.p I6 a2, .p .bool a3] (v := .p I6 a1) rfl rfl ty_3 o0 rfl rfl rfl rfl (.data (.one _ _)))) (.cons (sok_run rfl rfl hc3 (sok_arith (U := Un) (rs := [(26, .p I6 a1)]) rfl rfl o0 (.int _ _ _) rfl)) (.cons (sok_run rfl rfl hc3 (sok_indexS (U := Un) (rs := [(22, .p .str a0), (27, .p I6 ((IntKind.i64.wrap (a1 + 1)) : Int))]) rfl rfl Tryd.underlying9 o0 o1 hv4)) (.cons (sok_run rfl rfl hc3 (cmU (rs := [(28, .p (.int .u8) ((v4.toNat : Int) : Int))]) rfl rfl o0 (.int _ _ _) rfl)) (.cons (pkT (rs := [(18, .p .bool ((decide ((IntKind.i64.wrap (a1 + 1)) < (a0.length : Int))) : Bool)), (29, .p .bool (((v4.toNat : Int) != 93) : Bool))]) rfl rfl o0 hc3 o1) (.cons (mvA (v := .p .bool (((v4.toNat : Int) != 93) : Bool)) rfl rfl) .nil))))))))))))))))))))))))))))) (by kernel_rfl) (by kernel_rfl) (by kernel_rfl) (by kernel_rfl) (by kernel_rfl) (cvR _) ?_
      refine tnU ?_
      refine WpC.ret ?_
      have hq := Option.some.inj h
      subst hq
      exact ends_ret (retV_1 rfl (.head _)) (ain_cons (.head _) ain_nil)
    · replace h := ite_f hc3 h
      refine WpC.regA (U := Un) (st1 := ⟨[(2, .p .bool false)], [(100000, .box [.p .str a0, .p I6 a1, .p I6 a2, .p .bool a3])]⟩) [2] [100000] [[], [0], [0, 1], [0, 1, 2], [0, 1, 2, 3], [0, 1, 2, 3, 4], [0, 1, 2, 3, 4, 5], [0, 1, 2, 3, 4, 5, 6], [0, 1, 2], [0, 1, 2, 8], [0, 1, 2, 8, 9], [0, 1, 2, 8, 9, 10], [0, 1, 2, 8, 9, 10, 11], [0, 1, 2, 3, 4, 5, 6, 7, 8, 9, 10, 11, 12], [0, 1, 2, 3, 4, 5, 6, 7, 8, 9, 10, 11, 12, 13], [0, 1, 2, 3, 4, 5, 6, 7, 8, 9, 10, 11, 12, 13, 14], [0, 1, 2, 3, 4, 5, 6, 7, 8, 9, 10, 11, 12, 13, 14, 15], [0, 1, 2, 3, 4, 5, 6, 7, 8, 9, 10, 11, 12, 13, 14, 15, 16], [0, 1, 2, 3, 4, 5, 6, 7, 8, 9, 10, 11, 12, 13, 14, 15, 16, 17], [0, 1, 2, 3, 4, 5, 6, 7, 8, 9, 10, 11, 12, 13, 14, 15, 16, 17, 18], [0, 1, 2, 3, 4, 5, 6, 7, 8, 9, 10, 11, 12, 13, 14, 15], [0, 1, 2, 3, 4, 5, 6, 7, 8, 9, 10, 11, 12, 13, 14, 15, 20], [0, 1, 2, 3, 4, 5, 6, 7, 8, 9, 10, 11, 12, 13, 14, 15, 20, 21], [0, 1, 2, 3, 4, 5, 6, 7, 8, 9, 10, 11, 12, 13, 14, 15, 20, 21, 22], [0, 1, 2, 3, 4, 5, 6, 7, 8, 9, 10, 11, 12, 13, 14, 15, 20, 21, 22, 23], [0, 1, 2, 3, 4, 5, 6, 7, 8, 9, 10, 11, 12, 13, 14, 15, 16, 17, 18, 19, 20, 21, 22, 23, 24], [0, 1, 2, 3, 4, 5, 6, 7, 8, 9, 10, 11, 12, 13, 14, 15, 16, 17, 18, 19, 20, 21, 22, 23, 24, 25], [0, 1, 2, 3, 4, 5, 6, 7, 8, 9, 10, 11, 12, 13, 14, 15, 16, 17, 18, 19, 20, 21, 22, 23, 24, 25, 26], [0, 1, 2, 3, 4, 5, 6, 7, 8, 9, 10, 11, 12, 13, 14, 15, 16, 17, 18, 19, 20, 21, 22, 23, 24, 25, 26, 27]] mixed hN (.cons (mvU (v := .loc 100000 0) rfl rfl) (.cons (caV (rs := [(3, .loc 100000 0)]) (vw := []) rfl rfl (.func _) hb_100 (COk.ren (rex_parser_sees_m0.ok O hO k a0 a1 a2 a3 ([45] : List UInt8) v1 hv1) (fun n => if n = 100000 then 100000 else n) (injOn_of (by kernel_rfl))) (.cons o0 (.cons (.str _ _) .nil)) (.cons (.same _) (.cons (.same _) .nil)) (by simp) (.inl rfl)) (.cons (mvU (v := .p .bool v1) rfl rfl) (.cons (sok_run rfl rfl hc2 (mvU (v := .loc 100000 0) rfl rfl)) (.cons (sok_run rfl rfl hc2 (nlU (rs := [(6, .loc 100000 0)]) rfl rfl o0 rfl)) (.cons (sok_run rfl rfl hc2 (fdB (rs := [(7, .loc 100000 0)]) rfl rfl fd_125_1 (by decide) o0)) (.cons (sok_run rfl rfl hc2 (ldB (t := .int .i64) (rs := [(8, .loc 100000 1)]) [.p .str a0] [.p I6 a1] [.p I6 a2, .p .bool a3] (v := .p I6 a1) rfl rfl ty_3 o0 rfl rfl rfl rfl (.data (.one _ _)))) (.cons (sok_run rfl rfl hc2 (sok_arith (U := Un) (rs := [(9, .p I6 a1)]) rfl rfl o0 (.int _ _ _) rfl)) (.cons (sok_run rfl rfl hc2 (mvU (v := .loc 100000 0) rfl rfl)) (.cons (sok_run rfl rfl hc2 (nlU (rs := [(11, .loc 100000 0)]) rfl rfl o0 rfl)) (.cons (sok_run rfl rfl hc2 (fdB (rs := [(12, .loc 100000 0)]) rfl rfl fd_125_0 (by decide) o0)) (.cons (sok_run rfl rfl hc2 (ldB (t := .str) (rs := [(13, .loc 100000 0)]) [] [.p .str a0] [.p I6 a1, .p I6 a2, .p .bool a3] (v := .p .str a0) rfl rfl ty_9 o0 rfl rfl rfl rfl (.data (.one _ _)))) (.cons (sok_run rfl rfl hc2 (sok_lenS (U := Un) (rs := [(14, .p .str a0)]) rfl rfl Tryd.underlying9 o0)) (.cons (sok_run rfl rfl hc2 (cmU (rs := [(10, .p I6 ((IntKind.i64.wrap (a1 + 1)) : Int)), (15, .p I6 ((a0.length : Int) : Int))]) rfl rfl o0 o1 rfl)) (.cons (pkT (rs := [(5, .p .bool v1), (16, .p .bool ((decide ((IntKind.i64.wrap (a1 + 1)) < (a0.length : Int))) : Bool))]) rfl rfl o0 hc2 o1) (.cons (mvU (v := .p .bool ((decide ((IntKind.i64.wrap (a1 + 1)) < (a0.length : Int))) : Bool)) rfl rfl) (.cons (skU rfl rfl hc3) (.cons (skU rfl rfl hc3) (.cons (skU rfl rfl hc3) (.cons (skU rfl rfl hc3) (.cons (skU rfl rfl hc3) (.cons (skU rfl rfl hc3) (.cons (skU rfl rfl hc3) (.cons (skU rfl rfl hc3) (.cons (skU rfl rfl hc3) (.cons (skU rfl rfl hc3) (.cons (skU rfl rfl hc3) (.cons (pkF (rs := [(18, .p .bool ((decide ((IntKind.i64.wrap (a1 + 1)) < (a0.length : Int))) : Bool))]) rfl rfl o0 hc3 (.bool _ _)) (.cons (mvA (v := .p .bool false) rfl rfl) .nil))))))))))))))))))))))))))))) (by kernel_rfl) (by kernel_rfl) (by kernel_rfl) (by kernel_rfl) (by kernel_rfl) (cvR _) ?_
      refine tnU ?_
      refine WpC.ret ?_
      have hq := Option.some.inj h
      subst hq
      exact ends_ret (retV_1 rfl (.head _)) (ain_cons (.head _) ain_nil)
  · replace h := ite_f hc2 h
    refine WpC.regA (U := Un) (st1 := ⟨[(2, .p .bool false)], [(100000, .box [.p .str a0, .p I6 a1, .p I6 a2, .p .bool a3])]⟩) [2] [100000] [[], [0], [0, 1], [0, 1, 2], [0, 1, 2, 3], [0, 1, 2, 3, 4], [0, 1, 2, 3, 4, 5], [0, 1, 2, 3, 4, 5, 6], [0, 1, 2], [0, 1, 2, 8], [0, 1, 2, 8, 9], [0, 1, 2, 8, 9, 10], [0, 1, 2, 8, 9, 10, 11], [0, 1, 2, 3, 4, 5, 6, 7, 8, 9, 10, 11, 12], [0, 1, 2, 3, 4, 5, 6, 7, 8, 9, 10, 11, 12, 13], [0, 1, 2, 3, 4, 5, 6, 7, 8, 9, 10, 11, 12, 13, 14], [0, 1, 2, 3, 4, 5, 6, 7, 8, 9, 10, 11, 12, 13, 14, 15], [0, 1, 2, 3, 4, 5, 6, 7, 8, 9, 10, 11, 12, 13, 14, 15, 16], [0, 1, 2, 3, 4, 5, 6, 7, 8, 9, 10, 11, 12, 13, 14, 15, 16, 17], [0, 1, 2, 3, 4, 5, 6, 7, 8, 9, 10, 11, 12, 13, 14, 15, 16, 17, 18], [0, 1, 2, 3, 4, 5, 6, 7, 8, 9, 10, 11, 12, 13, 14, 15], [0, 1, 2, 3, 4, 5, 6, 7, 8, 9, 10, 11, 12, 13, 14, 15, 20], [0, 1, 2, 3, 4, 5, 6, 7, 8, 9, 10, 11, 12, 13, 14, 15, 20, 21], [0, 1, 2, 3, 4, 5, 6, 7, 8, 9, 10, 11, 12, 13, 14, 15, 20, 21, 22], [0, 1, 2, 3, 4, 5, 6, 7, 8, 9, 10, 11, 12, 13, 14, 15, 20, 21, 22, 23], [0, 1, 2, 3, 4, 5, 6, 7, 8, 9, 10, 11, 12, 13, 14, 15, 16, 17, 18, 19, 20, 21, 22, 23, 24], [0, 1, 2, 3, 4, 5, 6, 7, 8, 9, 10, 11, 12, 13, 14, 15, 16, 17, 18, 19, 20, 21, 22, 23, 24, 25], [0, 1, 2, 3, 4, 5, 6, 7, 8, 9, 10, 11, 12, 13, 14, 15, 16, 17, 18, 19, 20, 21, 22, 23, 24, 25, 26], [0, 1, 2, 3, 4, 5, 6, 7, 8, 9, 10, 11, 12, 13, 14, 15, 16, 17, 18, 19, 20, 21, 22, 23, 24, 25, 26, 27]] mixed hN (.cons (mvU (v := .loc 100000 0) rfl rfl) (.cons (caV (rs := [(3, .loc 100000 0)]) (vw := []) rfl rfl (.func _) hb_100 (COk.ren (rex_parser_sees_m0.ok O hO k a0 a1 a2 a3 ([45] : List UInt8) v1 hv1) (fun n => if n = 100000 then 100000 else n) (injOn_of (by kernel_rfl))) (.cons o0 (.cons (.str _ _) .nil)) (.cons (.same _) (.cons (.same _) .nil)) (by simp) (.inl rfl)) (.cons (mvU (v := .p .bool v1) rfl rfl) (.cons (skU rfl rfl hc2) (.cons (skU rfl rfl hc2) (.cons (skU rfl rfl hc2) (.cons (skU rfl rfl hc2) (.cons (skU rfl rfl hc2) (.cons (skU rfl rfl hc2) (.cons (skU rfl rfl hc2) (.cons (skU rfl rfl hc2) (.cons (skU rfl rfl hc2) (.cons (skU rfl rfl hc2) (.cons (skU rfl rfl hc2) (.cons (pkF (rs := [(5, .p .bool v1)]) rfl rfl o0 hc2 (.bool _ _)) (.cons (mvU (v := .p .bool false) rfl rfl) (.cons (skU rfl rfl rfl) (.cons (skU rfl rfl rfl) (.cons (skU rfl rfl rfl) (.cons (skU rfl rfl rfl) (.cons (skU rfl rfl rfl) (.cons (skU rfl rfl rfl) (.cons (skU rfl rfl rfl) (.cons (skU rfl rfl rfl) (.cons (skU rfl rfl rfl) (.cons (skU rfl rfl rfl) (.cons (skU rfl rfl rfl) (.cons (pkF (rs := [(18, .p .bool false)]) rfl rfl o0 rfl (.bool _ _)) (.cons (mvA (v := .p .bool false) rfl rfl) .nil))))))))))))))))))))))))))))) (by kernel_rfl) (by kernel_rfl) (by kernel_rfl) (by kernel_rfl) (by kernel_rfl) (cvR _) ?_
    refine tnU ?_
    refine WpC.ret ?_
    have hq := Option.some.inj h
    subst hq
    exact ends_ret (retV_1 rfl (.head _)) (ain_cons (.head _) ain_nil)

theorem class_Set_with.ok (O : Out) (hO : GOkA O) (k : Nat) (a0 : List Int) (a1 : Int) (out : List Int) (h : class_Set_with.f k a0 a1 = some out) : COk Un O Tryd.prog 115 { ar := [.p U6 a0, .p (.int .u8) a1], r := .p U6 out } := by
  refine cok_of_wp Tryd.func115 rfl (k := 15) rfl (Nat.le_of_ble_eq_true rfl) (namesOk_pure rfl rfl rfl rfl) ?_
  intro B hN
  refine WpC.conv (cvK (b := ⟨[(0, .p U6 a0), (1, .p (.int .u8) a1)], []⟩) [0, 1] [] (by kernel_rfl)) ?_
  unfold class_Set_with.f at h
  refine WpC.seq ?_
  refine rgU (st1 := ⟨[(1, .p (.int .u8) a1), (2, .loc 2 0), (4, .loc 4 0)], [(2, .box [.p U6 a0]), (4, .box [.p U6 ((List.replicate 4 (0 : Int)) : List Int)])]⟩) [1, 2, 4] [2, 4] hN (.cons (sok_box (U := Un) (rs := [(0, .p U6 a0)]) (d := 2) (us := [.p U6 a0]) rfl rfl rfl o0 (.data (.one _ _)) rfl (notin_of (by kernel_rfl))) (.cons (sok_allocZ (U := Un) (rs := []) (d := 4) (us := [.p U6 ((List.replicate 4 (0 : Int)) : List Int)]) (v := (.agg #[.int .u64 0, .int .u64 0, .int .u64 0, .int .u64 0])) rfl rfl rfl (by kernel_rfl) rfl (.data (rd_zeros _ _) .nil) (by kernel_rfl)) .nil)) (by kernel_rfl) (by kernel_rfl) (by kernel_rfl) (cvR _) ?_
  refine tnU ?_
  refine WpC.seq ?_
  obtain ⟨g1, h⟩ := if_some h
  obtain ⟨g2, h⟩ := if_some h
  obtain ⟨v3, hv3, h⟩ := bind_some h
  obtain ⟨g4, h⟩ := if_some h
  obtain ⟨g5, h⟩ := if_some h
  obtain ⟨g6, h⟩ := if_some h
  obtain ⟨v7, hv7, h⟩ := bind_some h
  refine rgU (st1 := ⟨[(2, .loc 2 0), (4, .loc 4 0)], [(2, .box [.p U6 ((upd a0 ((IntKind.u8.wrap (Int.tdiv a1 64)).toNat) (bits .or .u64 v3 (IntKind.u64.wrap ((1 : Int) * 2 ^ (min (Int.tmod a1 64).toNat IntKind.u64.bits))))) : List Int)]), (4, .box [.p U6 ((List.replicate 4 (0 : Int)) : List Int)])]⟩) [2, 4] [2, 4] hN (.cons (mvU (v := .p (.int .u8) a1) rfl rfl) (.cons (sok_quo (U := Un) (rs := [(5, .p (.int .u8) a1)]) rfl rfl o0 (.int _ _ _) g1) (.cons (sok_indexA (U := Un) (t := .int .u64) (rs := [(2, .loc 2 0), (6, .p (.int .u8) ((IntKind.u8.wrap (Int.tdiv a1 64)) : Int))]) (q := 0) rfl rfl Tryd.underlying26 ty_24 o0 rfl o1 g2) (.cons (sok_loadU (U := Un) (t := .arr 4 (.int .u64)) (rs := [(7, .eloc 2 1 (0 + (IntKind.u8.wrap (Int.tdiv a1 64)).toNat) 0)]) (X := a0) (v := .eloc 2 1 (0 + (IntKind.u8.wrap (Int.tdiv a1 64)).toNat) 0) [] [] rfl rfl ty_24 o0 (.eloc _ _ _ _ rfl) rfl rfl (by show (0 + (IntKind.u8.wrap (Int.tdiv a1 64)).toNat) * 1 + 0 = 0 + ((IntKind.u8.wrap (Int.tdiv a1 64)).toNat * 1 + 0); omega) (.arr hv3 (.here _ _) rfl)) (.cons (mvU (v := .p (.int .u8) a1) rfl rfl) (.cons (sok_rem (U := Un) (rs := [(9, .p (.int .u8) a1)]) rfl rfl o0 (.int _ _ _) g4) (.cons (sok_shl (U := Un) (rs := [(10, .p (.int .u8) ((Int.tmod a1 64) : Int))]) rfl rfl (.int _ _ _) o0 g5) (.cons (sok_arith (U := Un) (rs := [(8, .p (.int .u64) v3), (11, .p (.int .u64) ((IntKind.u64.wrap ((1 : Int) * 2 ^ (min (Int.tmod a1 64).toNat IntKind.u64.bits))) : Int))]) rfl rfl o0 o1 rfl) (.cons (sok_indexA (U := Un) (t := .int .u64) (rs := [(2, .loc 2 0), (6, .p (.int .u8) ((IntKind.u8.wrap (Int.tdiv a1 64)) : Int))]) (q := 0) rfl rfl Tryd.underlying26 ty_24 o0 rfl o1 g6) (.cons (sok_storeU (U := Un) (t := .arr 4 (.int .u64)) (rs := [(13, .eloc 2 1 (0 + (IntKind.u8.wrap (Int.tdiv a1 64)).toNat) 0), (12, .p (.int .u64) ((bits .or .u64 v3 (IntKind.u64.wrap ((1 : Int) * 2 ^ (min (Int.tmod a1 64).toNat IntKind.u64.bits)))) : Int))]) (X := a0) (X' := (upd a0 ((IntKind.u8.wrap (Int.tdiv a1 64)).toNat) (bits .or .u64 v3 (IntKind.u64.wrap ((1 : Int) * 2 ^ (min (Int.tmod a1 64).toNat IntKind.u64.bits)))))) (v := .eloc 2 1 (0 + (IntKind.u8.wrap (Int.tdiv a1 64)).toNat) 0) [] [] rfl rfl rfl ty_24 o0 (.eloc _ _ _ _ rfl) o1 rfl rfl (by show (0 + (IntKind.u8.wrap (Int.tdiv a1 64)).toNat) * 1 + 0 = 0 + ((IntKind.u8.wrap (Int.tdiv a1 64)).toNat * 1 + 0); omega) (.arr hv7 .here rfl)) .nil)))))))))) (by kernel_rfl) (by kernel_rfl) (by kernel_rfl) (cvR _) ?_
  refine tnU ?_
  refine WpC.seq ?_
  refine rgU (st1 := ⟨[(4, .loc 4 0)], [(4, .box [.p U6 ((upd a0 ((IntKind.u8.wrap (Int.tdiv a1 64)).toNat) (bits .or .u64 v3 (IntKind.u64.wrap ((1 : Int) * 2 ^ (min (Int.tmod a1 64).toNat IntKind.u64.bits))))) : List Int)])]⟩) [4] [4] hN (.cons (ldB (t := .arr 4 (.int .u64)) (rs := [(2, .loc 2 0)]) [] [.p U6 ((upd a0 ((IntKind.u8.wrap (Int.tdiv a1 64)).toNat) (bits .or .u64 v3 (IntKind.u64.wrap ((1 : Int) * 2 ^ (min (Int.tmod a1 64).toNat IntKind.u64.bits))))) : List Int)] [] (v := .p U6 ((upd a0 ((IntKind.u8.wrap (Int.tdiv a1 64)).toNat) (bits .or .u64 v3 (IntKind.u64.wrap ((1 : Int) * 2 ^ (min (Int.tmod a1 64).toNat IntKind.u64.bits))))) : List Int)) rfl rfl ty_26 o0 rfl rfl rfl rfl (.data (.one _ _))) (.cons (sok_storeB (U := Un) (rs := [(4, .loc 4 0), (14, .p U6 ((upd a0 ((IntKind.u8.wrap (Int.tdiv a1 64)).toNat) (bits .or .u64 v3 (IntKind.u64.wrap ((1 : Int) * 2 ^ (min (Int.tmod a1 64).toNat IntKind.u64.bits))))) : List Int))]) (v := .p U6 ((upd a0 ((IntKind.u8.wrap (Int.tdiv a1 64)).toNat) (bits .or .u64 v3 (IntKind.u64.wrap ((1 : Int) * 2 ^ (min (Int.tmod a1 64).toNat IntKind.u64.bits))))) : List Int)) (mid' := [.p U6 ((upd a0 ((IntKind.u8.wrap (Int.tdiv a1 64)).toNat) (bits .or .u64 v3 (IntKind.u64.wrap ((1 : Int) * 2 ^ (min (Int.tmod a1 64).toNat IntKind.u64.bits))))) : List Int)]) [] [.p U6 ((List.replicate 4 (0 : Int)) : List Int)] [] rfl rfl rfl ty_26 o0 o1 (.data (.one _ _)) rfl rfl rfl rfl rfl rfl) .nil)) (by kernel_rfl) (by kernel_rfl) (by kernel_rfl) (cvR _) ?_
  refine tnU ?_
  refine WpC.ret ?_
  have hq := Option.some.inj h
  subst hq
  exact ends_ret (retV_L (U := Un) (vs := [.p U6 ((upd a0 ((IntKind.u8.wrap (Int.tdiv a1 64)).toNat) (bits .or .u64 v3 (IntKind.u64.wrap ((1 : Int) * 2 ^ (min (Int.tmod a1 64).toNat IntKind.u64.bits))))) : List Int)]) rfl (ResL.cell (U := Un) [] [.p U6 ((upd a0 ((IntKind.u8.wrap (Int.tdiv a1 64)).toNat) (bits .or .u64 v3 (IntKind.u64.wrap ((1 : Int) * 2 ^ (min (Int.tmod a1 64).toNat IntKind.u64.bits))))) : List Int)] [] (.head _) (.head _) rfl rfl rfl rfl ty_26 (.data (.one _ _)) .nil)) ain_nil

theorem class_Span.ok (O : Out) (hO : GOkA O) (k : Nat) (a0 : Int) (a1 : Int) (out : List Int) (h : class_Span.f k a0 a1 = some out) : COk Un O Tryd.prog 114 { ar := [.p (.int .u8) a0, .p (.int .u8) a1], r := .p U6 out } := by
  refine cok_of_wp Tryd.func114 rfl (k := 20) rfl (Nat.le_of_ble_eq_true rfl) (namesOk_pure rfl rfl rfl rfl) ?_
  intro B hN
  refine WpC.conv (cvK (b := ⟨[(0, .p (.int .u8) a0), (1, .p (.int .u8) a1)], []⟩) [0, 1] [] (by kernel_rfl)) ?_
  unfold class_Span.f at h
  refine WpC.seq ?_
  refine rgU (st1 := ⟨[(0, .p (.int .u8) a0), (1, .p (.int .u8) a1), (4, .loc 4 0)], [(4, .box [.p U6 ((List.replicate 4 (0 : Int)) : List Int)])]⟩) [0, 1, 4] [4] hN (.cons (sok_allocZ (U := Un) (rs := []) (d := 4) (us := [.p U6 ((List.replicate 4 (0 : Int)) : List Int)]) (v := (.agg #[.int .u64 0, .int .u64 0, .int .u64 0, .int .u64 0])) rfl rfl rfl (by kernel_rfl) rfl (.data (rd_zeros _ _) .nil) (by kernel_rfl)) .nil) (by kernel_rfl) (by kernel_rfl) (by kernel_rfl) (cvR _) ?_
  refine tnU ?_
  refine WpC.seq ?_
  refine rgU (st1 := ⟨[(0, .p (.int .u8) a0), (1, .p (.int .u8) a1), (4, .loc 4 0), (5, .loc 5 0)], [(4, .box [.p U6 ((List.replicate 4 (0 : Int)) : List Int)]), (5, .box [.p U6 ((List.replicate 4 (0 : Int)) : List Int)])]⟩) [0, 1, 4, 5] [4, 5] hN (.cons (sok_allocZ (U := Un) (rs := []) (d := 5) (us := [.p U6 ((List.replicate 4 (0 : Int)) : List Int)]) (v := (.agg #[.int .u64 0, .int .u64 0, .int .u64 0, .int .u64 0])) rfl rfl rfl (by kernel_rfl) rfl (.data (rd_zeros _ _) .nil) (by kernel_rfl)) .nil) (by kernel_rfl) (by kernel_rfl) (by kernel_rfl) (cvR _) ?_
  refine tnU ?_
  refine sqJ (fun st' => ∃ v1 : List Int, class_Span.j2 k v1 = some out ∧ st' = ⟨[(4, .loc 4 0), (5, .loc 5 0)], [(4, .box [.p U6 ((List.replicate 4 (0 : Int)) : List Int)]), (5, .box [.p U6 v1])]⟩) ?_ ?_
  · refine WpC.seq ?_
    refine rgU (st1 := ⟨[(1, .p (.int .u8) a1), (4, .loc 4 0), (5, .loc 5 0), (6, .p I6 ((IntKind.i64.wrap a0) : Int))], [(4, .box [.p U6 ((List.replicate 4 (0 : Int)) : List Int)]), (5, .box [.p U6 ((List.replicate 4 (0 : Int)) : List Int)])]⟩) [1, 4, 5, 6] [4, 5] hN (.cons (mvU (v := .p (.int .u8) a0) rfl rfl) (.cons (sok_convI (U := Un) (rs := [(7, .p (.int .u8) a0)]) rfl rfl Tryd.underlying5 Tryd.underlying3 o0) (.cons (mvA (v := .p I6 ((IntKind.i64.wrap a0) : Int)) rfl rfl) .nil))) (by kernel_rfl) (by kernel_rfl) (by kernel_rfl) (cvR _) ?_
    refine tnU ?_
    refine WpC.block ?_
    obtain ⟨o7, hlo7, h⟩ := bind_some h
    have hout8 := h
    clear h
    refine WpC.loop (U := Un) (fun n st' => ∃ v3 : List Int, ∃ v4 : Int, class_Span.l5 k a1 n v3 v4 = some o7 ∧ st' = ⟨[(1, .p (.int .u8) a1), (4, .loc 4 0), (5, .loc 5 0), (6, .p I6 v4)], [(4, .box [.p U6 ((List.replicate 4 (0 : Int)) : List Int)]), (5, .box [.p U6 v3])]⟩) k ⟨(List.replicate 4 (0 : Int)), (IntKind.i64.wrap a0), hlo7, rfl⟩ ?_
    clear hlo7
    rintro (_ | n) _ ⟨v3, v4, h, rfl⟩
    · cases h
    · rw [class_Span.l5] at h
      refine WpC.seq ?_
      refine WpC.seq ?_
      refine rgU (st1 := ⟨[(1, .p (.int .u8) a1), (4, .loc 4 0), (5, .loc 5 0), (6, .p I6 v4), (12, .p .bool ((decide (v4 ≤ (IntKind.i64.wrap a1))) : Bool))], [(4, .box [.p U6 ((List.replicate 4 (0 : Int)) : List Int)]), (5, .box [.p U6 v3])]⟩) [1, 4, 5, 6, 12] [4, 5] hN (.cons (mvU (v := .p I6 v4) rfl rfl) (.cons (mvU (v := .p (.int .u8) a1) rfl rfl) (.cons (sok_convI (U := Un) (rs := [(10, .p (.int .u8) a1)]) rfl rfl Tryd.underlying5 Tryd.underlying3 o0) (.cons (cmU (rs := [(9, .p I6 v4), (11, .p I6 ((IntKind.i64.wrap a1) : Int))]) rfl rfl o0 o1 rfl) .nil)))) (by kernel_rfl) (by kernel_rfl) (by kernel_rfl) (cvR _) ?_
      refine tnU ?_
      refine cdU (b := (decide (v4 ≤ (IntKind.i64.wrap a1)))) (.tmp (.tail _ (.tail _ (.tail _ (.tail _ (.head _)))))) (fun hc9 => ?_) (fun hc9 => ?_)
      · replace h := ite_t hc9 h
        refine WpC.conv (cvK (b := ⟨[(1, .p (.int .u8) a1), (4, .loc 4 0), (5, .loc 5 0), (6, .p I6 v4)], [(4, .box [.p U6 ((List.replicate 4 (0 : Int)) : List Int)]), (5, .box [.p U6 v3])]⟩) [1, 4, 5, 6] [4, 5] (by kernel_rfl)) (WpC.skip ?_)
        refine tnU ?_
        refine WpC.seq ?_
        refine WpC.block ?_
        obtain ⟨v10, hv10, h⟩ := bind_some h
        refine rgU (st1 := ⟨[(1, .p (.int .u8) a1), (4, .loc 4 0), (5, .loc 5 0), (6, .p I6 v4)], [(4, .box [.p U6 ((List.replicate 4 (0 : Int)) : List Int)]), (5, .box [.p U6 v10])]⟩) [1, 4, 5, 6] [4, 5] hN (.cons (ldB (t := .arr 4 (.int .u64)) (rs := [(5, .loc 5 0)]) [] [.p U6 v3] [] (v := .p U6 v3) rfl rfl ty_26 o0 rfl rfl rfl rfl (.data (.one _ _))) (.cons (mvU (v := .p I6 v4) rfl rfl) (.cons (sok_convI (U := Un) (rs := [(16, .p I6 v4)]) rfl rfl Tryd.underlying3 Tryd.underlying5 o0) (.cons (caV (rs := [(15, .p U6 v3), (17, .p (.int .u8) ((IntKind.u8.wrap v4) : Int))]) (vw := []) rfl rfl (.func _) hb_115 (class_Set_with.ok O hO k v3 (IntKind.u8.wrap v4) v10 hv10) (.cons o0 (.cons o1 .nil)) (.cons (.same _) (.cons (.same _) .nil)) (by simp) (.inl rfl)) (.cons (sok_storeB (U := Un) (rs := [(5, .loc 5 0), (18, .p U6 v10)]) (v := .p U6 v10) (mid' := [.p U6 v10]) [] [.p U6 v3] [] rfl rfl rfl ty_26 o0 o1 (.data (.one _ _)) rfl rfl rfl rfl rfl rfl) .nil))))) (by kernel_rfl) (by kernel_rfl) (by kernel_rfl) (cvR _) ?_
        refine blockQ_normal ?_
        refine tnU ?_
        refine rgU (st1 := ⟨[(1, .p (.int .u8) a1), (4, .loc 4 0), (5, .loc 5 0), (6, .p I6 ((IntKind.i64.wrap (v4 + 1)) : Int))], [(4, .box [.p U6 ((List.replicate 4 (0 : Int)) : List Int)]), (5, .box [.p U6 v10])]⟩) [1, 4, 5, 6] [4, 5] hN (.cons (mvU (v := .p I6 v4) rfl rfl) (.cons (sok_arith (U := Un) (rs := [(13, .p I6 v4)]) rfl rfl o0 (.int _ _ _) rfl) (.cons (mvA (v := .p I6 ((IntKind.i64.wrap (v4 + 1)) : Int)) rfl rfl) .nil))) (by kernel_rfl) (by kernel_rfl) (by kernel_rfl) (cvR _) ?_
        refine tnU ?_
        exact ⟨n, Nat.lt_succ_self n, v10, (IntKind.i64.wrap (v4 + 1)), h, rfl⟩
      · replace h := ite_f hc9 h
        refine WpC.conv (cvK (b := ⟨[(4, .loc 4 0), (5, .loc 5 0)], [(4, .box [.p U6 ((List.replicate 4 (0 : Int)) : List Int)]), (5, .box [.p U6 v3])]⟩) [4, 5] [4, 5] (by kernel_rfl)) (WpC.exit ?_)
        refine thenQ_exit ?_
        have hq := Option.some.inj h
        subst hq
        refine thenQ_exit ?_
        have h := hout8
        refine blockQ_hit ?_
        refine tnU ?_
        exact ⟨v3, h, rfl⟩
  · rintro _ ⟨v1, h, rfl⟩
    unfold class_Span.j2 at h
    refine WpC.seq ?_
    refine rgU (st1 := ⟨[(4, .loc 4 0)], [(4, .box [.p U6 v1])]⟩) [4] [4] hN (.cons (ldB (t := .arr 4 (.int .u64)) (rs := [(5, .loc 5 0)]) [] [.p U6 v1] [] (v := .p U6 v1) rfl rfl ty_26 o0 rfl rfl rfl rfl (.data (.one _ _))) (.cons (sok_storeB (U := Un) (rs := [(4, .loc 4 0), (19, .p U6 v1)]) (v := .p U6 v1) (mid' := [.p U6 v1]) [] [.p U6 ((List.replicate 4 (0 : Int)) : List Int)] [] rfl rfl rfl ty_26 o0 o1 (.data (.one _ _)) rfl rfl rfl rfl rfl rfl) .nil)) (by kernel_rfl) (by kernel_rfl) (by kernel_rfl) (cvR _) ?_
    refine tnU ?_
    refine WpC.ret ?_
    have hq := Option.some.inj h
    subst hq
    exact ends_ret (retV_L (U := Un) (vs := [.p U6 v1]) rfl (ResL.cell (U := Un) [] [.p U6 v1] [] (.head _) (.head _) rfl rfl rfl rfl ty_26 (.data (.one _ _)) .nil)) ain_nil

end Go.Proofs.YthmbbdemecljpaaDoor
