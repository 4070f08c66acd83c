/- A part of the proof of a given law: PPC3. Own work, printed in part by a program of mine. -/
import Derived.Test.YthmbbdemecljpaaDoorK11PPC2
namespace Go.Proofs.YthmbbdemecljpaaDoor
open Go Go.AM
set_option linter.unusedVariables false
set_option linter.unusedSimpArgs false
set_option maxRecDepth 100000
theorem rex_Parse.ok (O : Out) (hO : GOkA O) (k : Nat) (a0 : List UInt8) (out : T_rex_Node × Nat) (h : rex_Parse.f k a0 = some out) : COk Un O Tryd.prog 45 { ar := [.p .str a0], r := .tup [.p (.named 4) out.1, .p .err out.2] } := by
  refine cok_of_wp Tryd.func45 rfl (k := 41) rfl (Nat.le_of_ble_eq_true rfl) (namesOk_pure rfl rfl rfl rfl) ?_
  intro B hN
  refine WpC.conv (cvK (b := ⟨[(0, .p .str a0)], []⟩) [0] [] (by kernel_rfl)) ?_
  unfold rex_Parse.f at h
  refine WpC.seq ?_
  refine rgU (st1 := ⟨[(0, .p .str a0), (2, .loc 2 0)], [(2, .box [.p I6 (0 : Int), .p I6 (0 : Int), .p U6 ((List.replicate 4 (0 : Int)) : List Int), .p (.list (.named 4)) ([] : List T_rex_Node)])]⟩) [0, 2] [2] hN (.cons (sok_allocZ (U := Un) (rs := []) (d := 2) (us := [.p I6 (0 : Int), .p I6 (0 : Int), .p U6 ((List.replicate 4 (0 : Int)) : List Int), .p (.list (.named 4)) ([] : List T_rex_Node)]) (v := (.agg #[.int .i64 0, .int .i64 0, .int .u64 0, .int .u64 0, .int .u64 0, .int .u64 0, .slice none 0 0])) rfl rfl rfl (by kernel_rfl) rfl (.data (fun _ _ _ => .int _ _) (.data (fun _ _ _ => .int _ _) (.data (rd_zeros _ _) (.data (fun _ _ _ => .lnil _) .nil)))) (by kernel_rfl)) (.cons (moU (rs := []) rfl (.inr rfl) (.lit _ _ rfl)) .nil)) (by kernel_rfl) (by kernel_rfl) (by kernel_rfl) (cvR _) ?_
  refine tnU ?_
  refine WpC.seq ?_
  refine WpC.seq ?_
  refine rgU (st1 := ⟨[(0, .p .str a0), (2, .loc 2 0), (8, .p .bool ((decide ((a0.length : Int) > 60)) : Bool))], [(2, .box [.p I6 (0 : Int), .p I6 (0 : Int), .p U6 ((List.replicate 4 (0 : Int)) : List Int), .p (.list (.named 4)) ([] : List T_rex_Node)])]⟩) [0, 2, 8] [2] hN (.cons (mvU (v := .p .str a0) rfl rfl) (.cons (sok_lenS (U := Un) (rs := [(6, .p .str a0)]) rfl rfl Tryd.underlying9 o0) (.cons (cmU (rs := [(7, .p I6 ((a0.length : Int) : Int))]) rfl rfl o0 (.int _ _ _) rfl) .nil))) (by kernel_rfl) (by kernel_rfl) (by kernel_rfl) (cvR _) ?_
  refine tnU ?_
  refine cdU (b := (decide ((a0.length : Int) > 60))) (.tmp (.tail _ (.tail _ (.head _)))) (fun hc1 => ?_) (fun hc1 => ?_)
  · replace h := ite_t hc1 h
    refine WpC.seq ?_
    refine WpC.regA (U := Un) (st1 := ⟨[(2, .loc 2 0), (3, .p .err (2 : Nat))], [(2, .box [.p I6 (0 : Int), .p I6 (0 : Int), .p U6 ((List.replicate 4 (0 : Int)) : List Int), .p (.list (.named 4)) ([] : List T_rex_Node)])]⟩) [2, 3] [2] [[], [], [0], [0, 1, 2]] mixed hN (.cons (sok_build (U := Un) (t := .named 4) (rs := []) (us0 := [.p I6 (0 : Int), .p I6 (0 : Int), .p U6 ((List.replicate 4 (0 : Int)) : List Int), .p (.list (.named 4)) ([] : List T_rex_Node)]) (us := [.p I6 (0 : Int), .p I6 (0 : Int), .p U6 ((List.replicate 4 (0 : Int)) : List Int), .p (.list (.named 4)) ([] : List T_rex_Node)]) (v := .p (.named 4) ((T_rex_Node.mk 0 0 (List.replicate 4 (0 : Int)) []) : T_rex_Node)) rfl rfl lays_32 (.data (fun _ _ _ => .int _ _) (.data (fun _ _ _ => .int _ _) (.data (rd_zeros _ _) (.data (fun _ _ _ => .lnil _) .nil)))) (.nil _) rfl (.data (.named (us := ([.p I6 (0 : Int), .p I6 (0 : Int), .p U6 ((List.replicate 4 (0 : Int)) : List Int), .p (.list (.named 4)) ([] : List T_rex_Node)] : List (AVal Un))) (.pair (.one _ _) (.pair (.one _ _) (.pair (.one _ _) (.pair (.one _ _) .unit))))))) (.cons (sok_loadG (U := Un) (t := .err) (rs := []) rfl rfl ty_54 rfl rfl (hO.var 1 2 rfl) (fun S w => .err 1)) (.cons (sok_storeB (U := Un) (rs := [(2, .loc 2 0), (9, .p (.named 4) ((T_rex_Node.mk 0 0 (List.replicate 4 (0 : Int)) []) : T_rex_Node))]) (v := .p (.named 4) ((T_rex_Node.mk 0 0 (List.replicate 4 (0 : Int)) []) : T_rex_Node)) (mid' := [.p I6 (0 : Int), .p I6 (0 : Int), .p U6 ((List.replicate 4 (0 : Int)) : List Int), .p (.list (.named 4)) ([] : List T_rex_Node)]) [] [.p I6 (0 : Int), .p I6 (0 : Int), .p U6 ((List.replicate 4 (0 : Int)) : List Int), .p (.list (.named 4)) ([] : List T_rex_Node)] [] rfl rfl rfl ty_32 o0 o1 (.data (.named (us := ([.p I6 (0 : Int), .p I6 (0 : Int), .p U6 ((List.replicate 4 (0 : Int)) : List Int), .p (.list (.named 4)) ([] : List T_rex_Node)] : List (AVal Un))) (.pair (.one _ _) (.pair (.one _ _) (.pair (.one _ _) (.pair (.one _ _) .unit)))))) rfl rfl rfl rfl rfl rfl) (.cons (mvA (v := .p .err (2 : Nat)) rfl rfl) .nil)))) (by kernel_rfl) (by kernel_rfl) (by kernel_rfl) (by kernel_rfl) (by kernel_rfl) (cvR _) ?_
    refine tnU ?_
    refine WpC.ret ?_
    refine thenQ_ret ?_
    have hq := Option.some.inj h
    subst hq
    exact ends_ret (retV_L (U := Un) (vs := [.p (.named 4) ((T_rex_Node.mk 0 0 (List.replicate 4 (0 : Int)) []) : T_rex_Node), .p .err (2 : Nat)]) rfl (ResL.cell (U := Un) [] [.p I6 (0 : Int), .p I6 (0 : Int), .p U6 ((List.replicate 4 (0 : Int)) : List Int), .p (.list (.named 4)) ([] : List T_rex_Node)] [] (.head _) (.head _) rfl rfl rfl rfl ty_32 (.data (.named (us := ([.p I6 (0 : Int), .p I6 (0 : Int), .p U6 ((List.replicate 4 (0 : Int)) : List Int), .p (.list (.named 4)) ([] : List T_rex_Node)] : List (AVal Un))) (.pair (.one _ _) (.pair (.one _ _) (.pair (.one _ _) (.pair (.one _ _) .unit)))))) (ResL.tmp (U := Un) (.tail _ (.head _)) .nil))) ain_nil
  · replace h := ite_f hc1 h
    refine WpC.conv (cvK (b := ⟨[(0, .p .str a0), (2, .loc 2 0)], [(2, .box [.p I6 (0 : Int), .p I6 (0 : Int), .p U6 ((List.replicate 4 (0 : Int)) : List Int), .p (.list (.named 4)) ([] : List T_rex_Node)])]⟩) [0, 2] [2] (by kernel_rfl)) (WpC.skip ?_)
    refine tnU ?_
    refine WpC.seq ?_
    refine rgU (st1 := ⟨[(0, .p .str a0), (2, .loc 2 0), (4, .loc 13 0)], [(2, .box [.p I6 (0 : Int), .p I6 (0 : Int), .p U6 ((List.replicate 4 (0 : Int)) : List Int), .p (.list (.named 4)) ([] : List T_rex_Node)]), (13, .box [.p .str a0, .p I6 (0 : Int), .p I6 (0 : Int), .p .bool false])]⟩) [0, 2, 4] [2, 13] hN (.cons (mvU (v := .p .str a0) rfl rfl) (.cons (sok_build (U := Un) (t := .named 12) (rs := [(11, .p .str a0)]) (us0 := [.p .str ([] : List UInt8), .p I6 (0 : Int), .p I6 (0 : Int), .p .bool false]) (us := [.p .str a0, .p I6 (0 : Int), .p I6 (0 : Int), .p .bool false]) (v := .p (.named 12) ((T_rex_parser.mk a0 0 0 false) : T_rex_parser)) rfl rfl lays_125 (.data (fun _ _ _ => rd_str0) (.data (fun _ _ _ => .int _ _) (.data (fun _ _ _ => .int _ _) (.data (fun _ _ _ => .bool _) .nil)))) (Filled.cons (U := Un) (i := 0) (v := .p .str a0) [] [.p .str ([] : List UInt8)] [.p .str a0] [.p I6 (0 : Int), .p I6 (0 : Int), .p .bool false] o0 (.data (.one _ _)) rfl rfl rfl rfl rfl rfl (.nil _)) rfl (.data (.named (us := ([.p .str a0, .p I6 (0 : Int), .p I6 (0 : Int), .p .bool false] : List (AVal Un))) (.pair (.one _ _) (.pair (.one _ _) (.pair (.one _ _) (.pair (.one _ _) .unit))))))) (.cons (sok_box (U := Un) (rs := [(12, .p (.named 12) ((T_rex_parser.mk a0 0 0 false) : T_rex_parser))]) (d := 13) (us := [.p .str a0, .p I6 (0 : Int), .p I6 (0 : Int), .p .bool false]) rfl rfl rfl o0 (.data (.named (us := ([.p .str a0, .p I6 (0 : Int), .p I6 (0 : Int), .p .bool false] : List (AVal Un))) (.pair (.one _ _) (.pair (.one _ _) (.pair (.one _ _) (.pair (.one _ _) .unit)))))) rfl (notin_of (by kernel_rfl))) (.cons (mvA (v := .loc 13 0) rfl rfl) .nil)))) (by kernel_rfl) (by kernel_rfl) (by kernel_rfl) (cvR _) ?_
    refine tnU ?_
    refine WpC.seq ?_
    obtain ⟨v2, hv2, h⟩ := bind_some h
    refine rgU (st1 := ⟨[(0, .p .str a0), (2, .loc 2 0), (4, .loc 13 0), (5, .loc 5 0)], [(2, .box [.p I6 (0 : Int), .p I6 (0 : Int), .p U6 ((List.replicate 4 (0 : Int)) : List Int), .p (.list (.named 4)) ([] : List T_rex_Node)]), (5, .box [.p I6 v2.1.f_Kind, .p I6 v2.1.f_Index, .p U6 v2.1.f_Set, .p (.list (.named 4)) v2.1.f_Kids]), (13, .box [.p .str a0, .p I6 v2.2.1, .p I6 v2.2.2.1, .p .bool v2.2.2.2])]⟩) [0, 2, 4, 5] [2, 5, 13] hN (.cons (mvU (v := .loc 13 0) rfl rfl) (.cons (caV (rs := [(14, .loc 13 0)]) (vw := []) rfl rfl (.func _) hb_73 (COk.ren (rex_parser_expression_m0.ok O hO k a0 0 0 false v2 hv2) (fun n => if n = 100000 then 13 else n) (injOn_of (by kernel_rfl))) (.cons o0 .nil) (.cons (.same _) .nil) (by simp) (.inl rfl)) (.cons (sok_allocZ (U := Un) (rs := []) (d := 5) (us := [.p I6 (0 : Int), .p I6 (0 : Int), .p U6 ((List.replicate 4 (0 : Int)) : List Int), .p (.list (.named 4)) ([] : List T_rex_Node)]) (v := (.agg #[.int .i64 0, .int .i64 0, .int .u64 0, .int .u64 0, .int .u64 0, .int .u64 0, .slice none 0 0])) rfl rfl rfl (by kernel_rfl) rfl (.data (fun _ _ _ => .int _ _) (.data (fun _ _ _ => .int _ _) (.data (rd_zeros _ _) (.data (fun _ _ _ => .lnil _) .nil)))) (by kernel_rfl)) (.cons (sok_storeB (U := Un) (rs := [(5, .loc 5 0), (15, .p (.named 4) v2.1)]) (v := .p (.named 4) v2.1) (mid' := [.p I6 v2.1.f_Kind, .p I6 v2.1.f_Index, .p U6 v2.1.f_Set, .p (.list (.named 4)) v2.1.f_Kids]) [] [.p I6 (0 : Int), .p I6 (0 : Int), .p U6 ((List.replicate 4 (0 : Int)) : List Int), .p (.list (.named 4)) ([] : List T_rex_Node)] [] rfl rfl rfl ty_32 o0 o1 (.data (.named (us := ([.p I6 v2.1.f_Kind, .p I6 v2.1.f_Index, .p U6 v2.1.f_Set, .p (.list (.named 4)) v2.1.f_Kids] : List (AVal Un))) (.pair (.one _ _) (.pair (.one _ _) (.pair (.one _ _) (.pair (.one _ _) .unit)))))) rfl rfl rfl rfl rfl rfl) .nil)))) (by kernel_rfl) (by kernel_rfl) (by kernel_rfl) (cvR _) ?_
    refine tnU ?_
    refine sqJ (fun st' => rex_Parse.j3 k v2 = some out ∧ st' = ⟨[(2, .loc 2 0), (5, .loc 5 0)], [(2, .box [.p I6 (0 : Int), .p I6 (0 : Int), .p U6 ((List.replicate 4 (0 : Int)) : List Int), .p (.list (.named 4)) ([] : List T_rex_Node)]), (5, .box [.p I6 v2.1.f_Kind, .p I6 v2.1.f_Index, .p U6 v2.1.f_Set, .p (.list (.named 4)) v2.1.f_Kids])]⟩) ?_ ?_
    · refine WpC.block ?_
      refine sqJ (fun st' => ∃ v4 : Bool, rex_Parse.j7 k a0 v2 v4 = some out ∧ st' = ⟨[(2, .loc 2 0), (4, .loc 13 0), (5, .loc 5 0), (16, .p .bool v4)], [(2, .box [.p I6 (0 : Int), .p I6 (0 : Int), .p U6 ((List.replicate 4 (0 : Int)) : List Int), .p (.list (.named 4)) ([] : List T_rex_Node)]), (5, .box [.p I6 v2.1.f_Kind, .p I6 v2.1.f_Index, .p U6 v2.1.f_Set, .p (.list (.named 4)) v2.1.f_Kids]), (13, .box [.p .str a0, .p I6 v2.2.1, .p I6 v2.2.2.1, .p .bool v2.2.2.2])]⟩) ?_ ?_
      · rcases bool_cases v2.2.2.2 with hc8 | hc8
        · replace h := ite_t hc8 h
          refine rgU (st1 := ⟨[(2, .loc 2 0), (4, .loc 13 0), (5, .loc 5 0), (16, .p .bool true)], [(2, .box [.p I6 (0 : Int), .p I6 (0 : Int), .p U6 ((List.replicate 4 (0 : Int)) : List Int), .p (.list (.named 4)) ([] : List T_rex_Node)]), (5, .box [.p I6 v2.1.f_Kind, .p I6 v2.1.f_Index, .p U6 v2.1.f_Set, .p (.list (.named 4)) v2.1.f_Kids]), (13, .box [.p .str a0, .p I6 v2.2.1, .p I6 v2.2.2.1, .p .bool v2.2.2.2])]⟩) [2, 4, 5, 16] [2, 5, 13] hN (.cons (mvU (v := .loc 13 0) rfl rfl) (.cons (nlU (rs := [(17, .loc 13 0)]) rfl rfl o0 rfl) (.cons (fdB (rs := [(18, .loc 13 0)]) rfl rfl fd_125_3 (by decide) o0) (.cons (ldB (t := .bool) (rs := [(19, .loc 13 3)]) [.p .str a0, .p I6 v2.2.1, .p I6 v2.2.2.1] [.p .bool v2.2.2.2] [] (v := .p .bool v2.2.2.2) rfl rfl ty_4 o0 rfl rfl rfl rfl (.data (.one _ _))) (.cons (mvU (v := .p .bool v2.2.2.2) rfl rfl) (.cons (skU rfl rfl hc8) (.cons (skU rfl rfl hc8) (.cons (skU rfl rfl hc8) (.cons (skU rfl rfl hc8) (.cons (skU rfl rfl hc8) (.cons (skU rfl rfl hc8) (.cons (skU rfl rfl hc8) (.cons (pkT (rs := [(21, .p .bool v2.2.2.2)]) rfl rfl o0 hc8 (.bool _ _)) (.cons (mvA (v := .p .bool true) rfl rfl) .nil)))))))))))))) (by kernel_rfl) (by kernel_rfl) (by kernel_rfl) (cvR _) ?_
          refine tnU ?_
          exact ⟨true, h, rfl⟩
        · replace h := ite_f hc8 h
          refine rgU (st1 := ⟨[(2, .loc 2 0), (4, .loc 13 0), (5, .loc 5 0), (16, .p .bool ((decide (v2.2.1 < (a0.length : Int))) : Bool))], [(2, .box [.p I6 (0 : Int), .p I6 (0 : Int), .p U6 ((List.replicate 4 (0 : Int)) : List Int), .p (.list (.named 4)) ([] : List T_rex_Node)]), (5, .box [.p I6 v2.1.f_Kind, .p I6 v2.1.f_Index, .p U6 v2.1.f_Set, .p (.list (.named 4)) v2.1.f_Kids]), (13, .box [.p .str a0, .p I6 v2.2.1, .p I6 v2.2.2.1, .p .bool v2.2.2.2])]⟩) [2, 4, 5, 16] [2, 5, 13] hN (.cons (mvU (v := .loc 13 0) rfl rfl) (.cons (nlU (rs := [(17, .loc 13 0)]) rfl rfl o0 rfl) (.cons (fdB (rs := [(18, .loc 13 0)]) rfl rfl fd_125_3 (by decide) o0) (.cons (ldB (t := .bool) (rs := [(19, .loc 13 3)]) [.p .str a0, .p I6 v2.2.1, .p I6 v2.2.2.1] [.p .bool v2.2.2.2] [] (v := .p .bool v2.2.2.2) rfl rfl ty_4 o0 rfl rfl rfl rfl (.data (.one _ _))) (.cons (mvU (v := .p .bool v2.2.2.2) rfl rfl) (.cons (sok_run rfl rfl hc8 (mvU (v := .loc 13 0) rfl rfl)) (.cons (sok_run rfl rfl hc8 (nlU (rs := [(22, .loc 13 0)]) rfl rfl o0 rfl)) (.cons (sok_run rfl rfl hc8 (fdB (rs := [(23, .loc 13 0)]) rfl rfl fd_125_1 (by decide) o0)) (.cons (sok_run rfl rfl hc8 (ldB (t := .int .i64) (rs := [(24, .loc 13 1)]) [.p .str a0] [.p I6 v2.2.1] [.p I6 v2.2.2.1, .p .bool v2.2.2.2] (v := .p I6 v2.2.1) rfl rfl ty_3 o0 rfl rfl rfl rfl (.data (.one _ _)))) (.cons (sok_run rfl rfl hc8 (mvU (v := .p .str a0) rfl rfl)) (.cons (sok_run rfl rfl hc8 (sok_lenS (U := Un) (rs := [(26, .p .str a0)]) rfl rfl Tryd.underlying9 o0)) (.cons (sok_run rfl rfl hc8 (cmU (rs := [(25, .p I6 v2.2.1), (27, .p I6 ((a0.length : Int) : Int))]) rfl rfl o0 o1 rfl)) (.cons (pkF (rs := [(21, .p .bool v2.2.2.2), (28, .p .bool ((decide (v2.2.1 < (a0.length : Int))) : Bool))]) rfl rfl o0 hc8 o1) (.cons (mvA (v := .p .bool ((decide (v2.2.1 < (a0.length : Int))) : Bool)) rfl rfl) .nil)))))))))))))) (by kernel_rfl) (by kernel_rfl) (by kernel_rfl) (cvR _) ?_
          refine tnU ?_
          exact ⟨(decide (v2.2.1 < (a0.length : Int))), h, rfl⟩
      · rintro _ ⟨v4, h, rfl⟩
        unfold rex_Parse.j7 at h
        refine cdU (b := v4) (.tmp (.tail _ (.tail _ (.tail _ (.head _))))) (fun hc5 => ?_) (fun hc5 => ?_)
        · replace h := ite_t hc5 h
          refine WpC.seq ?_
          refine WpC.regA (U := Un) (st1 := ⟨[(2, .loc 2 0), (3, .p .err (6 : Nat))], [(2, .box [.p I6 (0 : Int), .p I6 (0 : Int), .p U6 ((List.replicate 4 (0 : Int)) : List Int), .p (.list (.named 4)) ([] : List T_rex_Node)])]⟩) [2, 3] [2] [[], [], [0], [0, 1, 2]] mixed hN (.cons (sok_build (U := Un) (t := .named 4) (rs := []) (us0 := [.p I6 (0 : Int), .p I6 (0 : Int), .p U6 ((List.replicate 4 (0 : Int)) : List Int), .p (.list (.named 4)) ([] : List T_rex_Node)]) (us := [.p I6 (0 : Int), .p I6 (0 : Int), .p U6 ((List.replicate 4 (0 : Int)) : List Int), .p (.list (.named 4)) ([] : List T_rex_Node)]) (v := .p (.named 4) ((T_rex_Node.mk 0 0 (List.replicate 4 (0 : Int)) []) : T_rex_Node)) rfl rfl lays_32 (.data (fun _ _ _ => .int _ _) (.data (fun _ _ _ => .int _ _) (.data (rd_zeros _ _) (.data (fun _ _ _ => .lnil _) .nil)))) (.nil _) rfl (.data (.named (us := ([.p I6 (0 : Int), .p I6 (0 : Int), .p U6 ((List.replicate 4 (0 : Int)) : List Int), .p (.list (.named 4)) ([] : List T_rex_Node)] : List (AVal Un))) (.pair (.one _ _) (.pair (.one _ _) (.pair (.one _ _) (.pair (.one _ _) .unit))))))) (.cons (sok_loadG (U := Un) (t := .err) (rs := []) rfl rfl ty_54 rfl rfl (hO.var 5 3 rfl) (fun S w => .err 5)) (.cons (sok_storeB (U := Un) (rs := [(2, .loc 2 0), (30, .p (.named 4) ((T_rex_Node.mk 0 0 (List.replicate 4 (0 : Int)) []) : T_rex_Node))]) (v := .p (.named 4) ((T_rex_Node.mk 0 0 (List.replicate 4 (0 : Int)) []) : T_rex_Node)) (mid' := [.p I6 (0 : Int), .p I6 (0 : Int), .p U6 ((List.replicate 4 (0 : Int)) : List Int), .p (.list (.named 4)) ([] : List T_rex_Node)]) [] [.p I6 (0 : Int), .p I6 (0 : Int), .p U6 ((List.replicate 4 (0 : Int)) : List Int), .p (.list (.named 4)) ([] : List T_rex_Node)] [] rfl rfl rfl ty_32 o0 o1 (.data (.named (us := ([.p I6 (0 : Int), .p I6 (0 : Int), .p U6 ((List.replicate 4 (0 : Int)) : List Int), .p (.list (.named 4)) ([] : List T_rex_Node)] : List (AVal Un))) (.pair (.one _ _) (.pair (.one _ _) (.pair (.one _ _) (.pair (.one _ _) .unit)))))) rfl rfl rfl rfl rfl rfl) (.cons (mvA (v := .p .err (6 : Nat)) rfl rfl) .nil)))) (by kernel_rfl) (by kernel_rfl) (by kernel_rfl) (by kernel_rfl) (by kernel_rfl) (cvR _) ?_
          refine tnU ?_
          refine WpC.ret ?_
          refine blockQ_ret ?_
          refine thenQ_ret ?_
          have hq := Option.some.inj h
          subst hq
          exact ends_ret (retV_L (U := Un) (vs := [.p (.named 4) ((T_rex_Node.mk 0 0 (List.replicate 4 (0 : Int)) []) : T_rex_Node), .p .err (6 : Nat)]) rfl (ResL.cell (U := Un) [] [.p I6 (0 : Int), .p I6 (0 : Int), .p U6 ((List.replicate 4 (0 : Int)) : List Int), .p (.list (.named 4)) ([] : List T_rex_Node)] [] (.head _) (.head _) rfl rfl rfl rfl ty_32 (.data (.named (us := ([.p I6 (0 : Int), .p I6 (0 : Int), .p U6 ((List.replicate 4 (0 : Int)) : List Int), .p (.list (.named 4)) ([] : List T_rex_Node)] : List (AVal Un))) (.pair (.one _ _) (.pair (.one _ _) (.pair (.one _ _) (.pair (.one _ _) .unit)))))) (ResL.tmp (U := Un) (.tail _ (.head _)) .nil))) ain_nil
        · replace h := ite_f hc5 h
          refine WpC.seq ?_
          refine rgU (st1 := ⟨[(2, .loc 2 0), (5, .loc 5 0), (32, .p .bool ((decide (v2.2.2.1 > 9)) : Bool))], [(2, .box [.p I6 (0 : Int), .p I6 (0 : Int), .p U6 ((List.replicate 4 (0 : Int)) : List Int), .p (.list (.named 4)) ([] : List T_rex_Node)]), (5, .box [.p I6 v2.1.f_Kind, .p I6 v2.1.f_Index, .p U6 v2.1.f_Set, .p (.list (.named 4)) v2.1.f_Kids])]⟩) [2, 5, 32] [2, 5] hN (.cons (mvU (v := .loc 13 0) rfl rfl) (.cons (nlU (rs := [(33, .loc 13 0)]) rfl rfl o0 rfl) (.cons (fdB (rs := [(34, .loc 13 0)]) rfl rfl fd_125_2 (by decide) o0) (.cons (ldB (t := .int .i64) (rs := [(35, .loc 13 2)]) [.p .str a0, .p I6 v2.2.1] [.p I6 v2.2.2.1] [.p .bool v2.2.2.2] (v := .p I6 v2.2.2.1) rfl rfl ty_3 o0 rfl rfl rfl rfl (.data (.one _ _))) (.cons (cmU (rs := [(36, .p I6 v2.2.2.1)]) rfl rfl o0 (.int _ _ _) rfl) (.cons (mvA (v := .p .bool ((decide (v2.2.2.1 > 9)) : Bool)) rfl rfl) .nil)))))) (by kernel_rfl) (by kernel_rfl) (by kernel_rfl) (cvR _) ?_
          refine tnU ?_
          refine cdU (b := (decide (v2.2.2.1 > 9))) (.tmp (.tail _ (.tail _ (.head _)))) (fun hc6 => ?_) (fun hc6 => ?_)
          · replace h := ite_t hc6 h
            refine WpC.seq ?_
            refine WpC.regA (U := Un) (st1 := ⟨[(2, .loc 2 0), (3, .p .err (10 : Nat))], [(2, .box [.p I6 (0 : Int), .p I6 (0 : Int), .p U6 ((List.replicate 4 (0 : Int)) : List Int), .p (.list (.named 4)) ([] : List T_rex_Node)])]⟩) [2, 3] [2] [[], [], [0], [0, 1, 2]] mixed hN (.cons (sok_build (U := Un) (t := .named 4) (rs := []) (us0 := [.p I6 (0 : Int), .p I6 (0 : Int), .p U6 ((List.replicate 4 (0 : Int)) : List Int), .p (.list (.named 4)) ([] : List T_rex_Node)]) (us := [.p I6 (0 : Int), .p I6 (0 : Int), .p U6 ((List.replicate 4 (0 : Int)) : List Int), .p (.list (.named 4)) ([] : List T_rex_Node)]) (v := .p (.named 4) ((T_rex_Node.mk 0 0 (List.replicate 4 (0 : Int)) []) : T_rex_Node)) rfl rfl lays_32 (.data (fun _ _ _ => .int _ _) (.data (fun _ _ _ => .int _ _) (.data (rd_zeros _ _) (.data (fun _ _ _ => .lnil _) .nil)))) (.nil _) rfl (.data (.named (us := ([.p I6 (0 : Int), .p I6 (0 : Int), .p U6 ((List.replicate 4 (0 : Int)) : List Int), .p (.list (.named 4)) ([] : List T_rex_Node)] : List (AVal Un))) (.pair (.one _ _) (.pair (.one _ _) (.pair (.one _ _) (.pair (.one _ _) .unit))))))) (.cons (sok_loadG (U := Un) (t := .err) (rs := []) rfl rfl ty_54 rfl rfl (hO.var 9 1 rfl) (fun S w => .err 9)) (.cons (sok_storeB (U := Un) (rs := [(2, .loc 2 0), (38, .p (.named 4) ((T_rex_Node.mk 0 0 (List.replicate 4 (0 : Int)) []) : T_rex_Node))]) (v := .p (.named 4) ((T_rex_Node.mk 0 0 (List.replicate 4 (0 : Int)) []) : T_rex_Node)) (mid' := [.p I6 (0 : Int), .p I6 (0 : Int), .p U6 ((List.replicate 4 (0 : Int)) : List Int), .p (.list (.named 4)) ([] : List T_rex_Node)]) [] [.p I6 (0 : Int), .p I6 (0 : Int), .p U6 ((List.replicate 4 (0 : Int)) : List Int), .p (.list (.named 4)) ([] : List T_rex_Node)] [] rfl rfl rfl ty_32 o0 o1 (.data (.named (us := ([.p I6 (0 : Int), .p I6 (0 : Int), .p U6 ((List.replicate 4 (0 : Int)) : List Int), .p (.list (.named 4)) ([] : List T_rex_Node)] : List (AVal Un))) (.pair (.one _ _) (.pair (.one _ _) (.pair (.one _ _) (.pair (.one _ _) .unit)))))) rfl rfl rfl rfl rfl rfl) (.cons (mvA (v := .p .err (10 : Nat)) rfl rfl) .nil)))) (by kernel_rfl) (by kernel_rfl) (by kernel_rfl) (by kernel_rfl) (by kernel_rfl) (cvR _) ?_
            refine tnU ?_
            refine WpC.ret ?_
            refine blockQ_ret ?_
            refine thenQ_ret ?_
            have hq := Option.some.inj h
            subst hq
            exact ends_ret (retV_L (U := Un) (vs := [.p (.named 4) ((T_rex_Node.mk 0 0 (List.replicate 4 (0 : Int)) []) : T_rex_Node), .p .err (10 : Nat)]) rfl (ResL.cell (U := Un) [] [.p I6 (0 : Int), .p I6 (0 : Int), .p U6 ((List.replicate 4 (0 : Int)) : List Int), .p (.list (.named 4)) ([] : List T_rex_Node)] [] (.head _) (.head _) rfl rfl rfl rfl ty_32 (.data (.named (us := ([.p I6 (0 : Int), .p I6 (0 : Int), .p U6 ((List.replicate 4 (0 : Int)) : List Int), .p (.list (.named 4)) ([] : List T_rex_Node)] : List (AVal Un))) (.pair (.one _ _) (.pair (.one _ _) (.pair (.one _ _) (.pair (.one _ _) .unit)))))) (ResL.tmp (U := Un) (.tail _ (.head _)) .nil))) ain_nil
          · replace h := ite_f hc6 h
            refine WpC.conv (cvK (b := ⟨[(2, .loc 2 0), (5, .loc 5 0)], [(2, .box [.p I6 (0 : Int), .p I6 (0 : Int), .p U6 ((List.replicate 4 (0 : Int)) : List Int), .p (.list (.named 4)) ([] : List T_rex_Node)]), (5, .box [.p I6 v2.1.f_Kind, .p I6 v2.1.f_Index, .p U6 v2.1.f_Set, .p (.list (.named 4)) v2.1.f_Kids])]⟩) [2, 5] [2, 5] (by kernel_rfl)) (WpC.skip ?_)
            refine blockQ_normal ?_
            refine tnU ?_
            exact ⟨h, rfl⟩
    · rintro _ ⟨h, rfl⟩
      unfold rex_Parse.j3 at h
      refine WpC.seq ?_
      refine rgU (st1 := ⟨[(2, .loc 2 0), (3, .lit .nilIface)], [(2, .box [.p I6 v2.1.f_Kind, .p I6 v2.1.f_Index, .p U6 v2.1.f_Set, .p (.list (.named 4)) v2.1.f_Kids])]⟩) [2, 3] [2] hN (.cons (ldB (t := .named 4) (rs := [(5, .loc 5 0)]) [] [.p I6 v2.1.f_Kind, .p I6 v2.1.f_Index, .p U6 v2.1.f_Set, .p (.list (.named 4)) v2.1.f_Kids] [] (v := .p (.named 4) ((T_rex_Node.mk v2.1.f_Kind v2.1.f_Index v2.1.f_Set v2.1.f_Kids) : T_rex_Node)) rfl rfl ty_32 o0 rfl rfl rfl rfl (.data (.named (us := ([.p I6 v2.1.f_Kind, .p I6 v2.1.f_Index, .p U6 v2.1.f_Set, .p (.list (.named 4)) v2.1.f_Kids] : List (AVal Un))) (.pair (.one _ _) (.pair (.one _ _) (.pair (.one _ _) (.pair (.one _ _) .unit))))))) (.cons (sok_storeB (U := Un) (rs := [(2, .loc 2 0), (40, .p (.named 4) ((T_rex_Node.mk v2.1.f_Kind v2.1.f_Index v2.1.f_Set v2.1.f_Kids) : T_rex_Node))]) (v := .p (.named 4) ((T_rex_Node.mk v2.1.f_Kind v2.1.f_Index v2.1.f_Set v2.1.f_Kids) : T_rex_Node)) (mid' := [.p I6 v2.1.f_Kind, .p I6 v2.1.f_Index, .p U6 v2.1.f_Set, .p (.list (.named 4)) v2.1.f_Kids]) [] [.p I6 (0 : Int), .p I6 (0 : Int), .p U6 ((List.replicate 4 (0 : Int)) : List Int), .p (.list (.named 4)) ([] : List T_rex_Node)] [] rfl rfl rfl ty_32 o0 o1 (.data (.named (us := ([.p I6 v2.1.f_Kind, .p I6 v2.1.f_Index, .p U6 v2.1.f_Set, .p (.list (.named 4)) v2.1.f_Kids] : List (AVal Un))) (.pair (.one _ _) (.pair (.one _ _) (.pair (.one _ _) (.pair (.one _ _) .unit)))))) rfl rfl rfl rfl rfl rfl) (.cons (moU (rs := []) rfl (.inr rfl) (.lit _ _ rfl)) .nil))) (by kernel_rfl) (by kernel_rfl) (by kernel_rfl) (cvR _) ?_
      refine tnU ?_
      refine WpC.conv (cvT (Conv.nilE (U := Un) 3 (.tail _ (.head _))) (cvK (b := ⟨[(2, .loc 2 0), (3, .p .err (0 : Nat))], [(2, .box [.p I6 v2.1.f_Kind, .p I6 v2.1.f_Index, .p U6 v2.1.f_Set, .p (.list (.named 4)) v2.1.f_Kids])]⟩) [2, 3] [2] (by kernel_rfl))) (WpC.ret ?_)
      have hq := Option.some.inj h
      subst hq
      exact ends_ret (retV_L (U := Un) (vs := [.p (.named 4) ((T_rex_Node.mk v2.1.f_Kind v2.1.f_Index v2.1.f_Set v2.1.f_Kids) : T_rex_Node), .p .err (0 : Nat)]) rfl (ResL.cell (U := Un) [] [.p I6 v2.1.f_Kind, .p I6 v2.1.f_Index, .p U6 v2.1.f_Set, .p (.list (.named 4)) v2.1.f_Kids] [] (.head _) (.head _) rfl rfl rfl rfl ty_32 (.data (.named (us := ([.p I6 v2.1.f_Kind, .p I6 v2.1.f_Index, .p U6 v2.1.f_Set, .p (.list (.named 4)) v2.1.f_Kids] : List (AVal Un))) (.pair (.one _ _) (.pair (.one _ _) (.pair (.one _ _) (.pair (.one _ _) .unit)))))) (ResL.tmp (U := Un) (.tail _ (.head _)) .nil))) ain_nil

theorem prog_kids.ok (O : Out) (hO : GOkA O) (k : Nat) (a0 : Int) (out : Int × Int) (h : prog_kids.f k a0 = some out) : COk Un O Tryd.prog 49 { ar := [.p I6 a0], r := .tup [.p I6 out.1, .p I6 out.2] } := by
  refine cok_of_wp Tryd.func49 rfl (k := 13) rfl (Nat.le_of_ble_eq_true rfl) (namesOk_pure rfl rfl rfl rfl) ?_
  intro B hN
  refine WpC.conv (cvK (b := ⟨[(0, .p I6 a0)], []⟩) [0] [] (by kernel_rfl)) ?_
  unfold prog_kids.f at h
  refine WpC.seq ?_
  refine rgU (st1 := ⟨[(0, .p I6 a0)], []⟩) [0] [] hN (.cons (moU (rs := []) rfl (.inr rfl) (.int _ _ _)) (.cons (moU (rs := []) rfl (.inr rfl) (.int _ _ _)) .nil)) (by kernel_rfl) (by kernel_rfl) (by kernel_rfl) (cvR _) ?_
  refine tnU ?_
  refine sqJ (fun st' => prog_kids.j1 k = some out ∧ st' = ⟨[], []⟩) ?_ ?_
  · refine WpC.seq ?_
    refine rgU (st1 := ⟨[(4, .p I6 a0)], []⟩) [4] [] hN (.cons (mvU (v := .p I6 a0) rfl rfl) .nil) (by kernel_rfl) (by kernel_rfl) (by kernel_rfl) (cvR _) ?_
    refine tnU ?_
    refine WpC.block ?_
    refine sqJ (fun st' => ∃ v2 : Bool, prog_kids.j10 k a0 v2 = some out ∧ st' = ⟨[(4, .p I6 a0), (5, .p .bool v2)], []⟩) ?_ ?_
    · refine WpC.seq ?_
      refine rgU (st1 := ⟨[(4, .p I6 a0), (5, .p .bool ((a0 == 2) : Bool))], []⟩) [4, 5] [] hN (.cons (cmU (rs := [(4, .p I6 a0)]) rfl rfl o0 (.int _ _ _) rfl) (.cons (mvA (v := .p .bool ((a0 == 2) : Bool)) rfl rfl) .nil)) (by kernel_rfl) (by kernel_rfl) (by kernel_rfl) (cvR _) ?_
      refine tnU ?_
      refine cdU (b := (a0 == 2)) o1 (fun hc11 => ?_) (fun hc11 => ?_)
      · replace h := ite_t hc11 h
        refine WpC.skip ?_
        refine tnU ?_
        exact ⟨(a0 == 2), h, rfl⟩
      · replace h := ite_f hc11 h
        refine rgU (st1 := ⟨[(4, .p I6 a0), (5, .p .bool ((a0 == 3) : Bool))], []⟩) [4, 5] [] hN (.cons (cmU (rs := [(4, .p I6 a0)]) rfl rfl o0 (.int _ _ _) rfl) (.cons (mvA (v := .p .bool ((a0 == 3) : Bool)) rfl rfl) .nil)) (by kernel_rfl) (by kernel_rfl) (by kernel_rfl) (cvR _) ?_
        refine tnU ?_
        exact ⟨(a0 == 3), h, rfl⟩
    · rintro _ ⟨v2, h, rfl⟩
      unfold prog_kids.j10 at h
      refine cdU (b := v2) o1 (fun hc3 => ?_) (fun hc3 => ?_)
      · replace h := ite_t hc3 h
        refine WpC.seq ?_
        refine rgU (st1 := ⟨[(2, .p I6 (2 : Int)), (3, .p I6 (9223372036854775807 : Int))], []⟩) [2, 3] [] hN (.cons (moU (rs := []) rfl (.inr rfl) (.int _ _ _)) (.cons (moU (rs := []) rfl (.inr rfl) (.int _ _ _)) .nil)) (by kernel_rfl) (by kernel_rfl) (by kernel_rfl) (cvR _) ?_
        refine tnU ?_
        refine WpC.ret ?_
        refine blockQ_ret ?_
        refine thenQ_ret ?_
        have hq := Option.some.inj h
        subst hq
        exact ends_ret (retV_2 rfl (.head _) (.tail _ (.head _))) ain_nil
      · replace h := ite_f hc3 h
        refine sqJ (fun st' => ∃ v4 : Bool, prog_kids.j6 k v4 = some out ∧ st' = ⟨[(8, .p .bool v4)], []⟩) ?_ ?_
        · refine WpC.seq ?_
          refine rgU (st1 := ⟨[(4, .p I6 a0), (8, .p .bool ((a0 == 4) : Bool))], []⟩) [4, 8] [] hN (.cons (cmU (rs := [(4, .p I6 a0)]) rfl rfl o0 (.int _ _ _) rfl) (.cons (mvA (v := .p .bool ((a0 == 4) : Bool)) rfl rfl) .nil)) (by kernel_rfl) (by kernel_rfl) (by kernel_rfl) (cvR _) ?_
          refine tnU ?_
          refine cdU (b := (a0 == 4)) o1 (fun hc7 => ?_) (fun hc7 => ?_)
          · replace h := ite_t hc7 h
            refine WpC.conv (cvK (b := ⟨[(8, .p .bool ((a0 == 4) : Bool))], []⟩) [8] [] (by kernel_rfl)) (WpC.skip ?_)
            refine tnU ?_
            exact ⟨(a0 == 4), h, rfl⟩
          · replace h := ite_f hc7 h
            refine WpC.seq ?_
            refine rgU (st1 := ⟨[(4, .p I6 a0), (8, .p .bool ((a0 == 5) : Bool))], []⟩) [4, 8] [] hN (.cons (cmU (rs := [(4, .p I6 a0)]) rfl rfl o0 (.int _ _ _) rfl) (.cons (mvA (v := .p .bool ((a0 == 5) : Bool)) rfl rfl) .nil)) (by kernel_rfl) (by kernel_rfl) (by kernel_rfl) (cvR _) ?_
            refine tnU ?_
            refine cdU (b := (a0 == 5)) o1 (fun hc8 => ?_) (fun hc8 => ?_)
            · replace h := ite_t hc8 h
              refine WpC.conv (cvK (b := ⟨[(8, .p .bool ((a0 == 5) : Bool))], []⟩) [8] [] (by kernel_rfl)) (WpC.skip ?_)
              refine tnU ?_
              exact ⟨(a0 == 5), h, rfl⟩
            · replace h := ite_f hc8 h
              refine WpC.seq ?_
              refine rgU (st1 := ⟨[(4, .p I6 a0), (8, .p .bool ((a0 == 6) : Bool))], []⟩) [4, 8] [] hN (.cons (cmU (rs := [(4, .p I6 a0)]) rfl rfl o0 (.int _ _ _) rfl) (.cons (mvA (v := .p .bool ((a0 == 6) : Bool)) rfl rfl) .nil)) (by kernel_rfl) (by kernel_rfl) (by kernel_rfl) (cvR _) ?_
              refine tnU ?_
              refine cdU (b := (a0 == 6)) o1 (fun hc9 => ?_) (fun hc9 => ?_)
              · replace h := ite_t hc9 h
                refine WpC.conv (cvK (b := ⟨[(8, .p .bool ((a0 == 6) : Bool))], []⟩) [8] [] (by kernel_rfl)) (WpC.skip ?_)
                refine tnU ?_
                exact ⟨(a0 == 6), h, rfl⟩
              · replace h := ite_f hc9 h
                refine rgU (st1 := ⟨[(8, .p .bool ((a0 == 7) : Bool))], []⟩) [8] [] hN (.cons (cmU (rs := [(4, .p I6 a0)]) rfl rfl o0 (.int _ _ _) rfl) (.cons (mvA (v := .p .bool ((a0 == 7) : Bool)) rfl rfl) .nil)) (by kernel_rfl) (by kernel_rfl) (by kernel_rfl) (cvR _) ?_
                refine tnU ?_
                exact ⟨(a0 == 7), h, rfl⟩
        · rintro _ ⟨v4, h, rfl⟩
          unfold prog_kids.j6 at h
          refine cdU (b := v4) o0 (fun hc5 => ?_) (fun hc5 => ?_)
          · replace h := ite_t hc5 h
            refine WpC.seq ?_
            refine rgU (st1 := ⟨[(2, .p I6 (1 : Int)), (3, .p I6 (1 : Int))], []⟩) [2, 3] [] hN (.cons (moU (rs := []) rfl (.inr rfl) (.int _ _ _)) (.cons (moU (rs := []) rfl (.inr rfl) (.int _ _ _)) .nil)) (by kernel_rfl) (by kernel_rfl) (by kernel_rfl) (cvR _) ?_
            refine tnU ?_
            refine WpC.ret ?_
            refine blockQ_ret ?_
            refine thenQ_ret ?_
            have hq := Option.some.inj h
            subst hq
            exact ends_ret (retV_2 rfl (.head _) (.tail _ (.head _))) ain_nil
          · replace h := ite_f hc5 h
            refine WpC.conv (cvK (b := ⟨[], []⟩) [] [] (by kernel_rfl)) (WpC.skip ?_)
            refine blockQ_normal ?_
            refine tnU ?_
            exact ⟨h, rfl⟩
  · rintro _ ⟨h, rfl⟩
    unfold prog_kids.j1 at h
    refine WpC.seq ?_
    refine rgU (st1 := ⟨[(2, .p I6 (0 : Int)), (3, .p I6 (0 : Int))], []⟩) [2, 3] [] hN (.cons (moU (rs := []) rfl (.inr rfl) (.int _ _ _)) (.cons (moU (rs := []) rfl (.inr rfl) (.int _ _ _)) .nil)) (by kernel_rfl) (by kernel_rfl) (by kernel_rfl) (cvR _) ?_
    refine tnU ?_
    refine WpC.ret ?_
    have hq := Option.some.inj h
    subst hq
    exact ends_ret (retV_2 rfl (.head _) (.tail _ (.head _))) ain_nil

theorem rex_Word.ok (O : Out) (hO : GOkA O) (k : Nat) (a0 : Int) (out : List UInt8) (h : rex_Word.f k a0 = some out) : COk Un O Tryd.prog 50 { ar := [.p I6 a0], r := .p .str out } := by
  refine cok_of_wp Tryd.func50 rfl (k := 12) rfl (Nat.le_of_ble_eq_true rfl) (namesOk_pure rfl rfl rfl rfl) ?_
  intro B hN
  refine WpC.conv (cvK (b := ⟨[(0, .p I6 a0)], []⟩) [0] [] (by kernel_rfl)) ?_
  unfold rex_Word.f at h
  refine WpC.seq ?_
  refine rgU (st1 := ⟨[(0, .p I6 a0)], []⟩) [0] [] hN (.cons (moU (rs := []) rfl (.inr rfl) (.str _ _)) .nil) (by kernel_rfl) (by kernel_rfl) (by kernel_rfl) (cvR _) ?_
  refine tnU ?_
  refine sqJ (fun st' => rex_Word.j2 k a0 = some out ∧ st' = ⟨[(0, .p I6 a0)], []⟩) ?_ ?_
  · refine sqJ (fun st' => ∃ v3 : Bool, rex_Word.j5 k a0 v3 = some out ∧ st' = ⟨[(0, .p I6 a0), (8, .p .bool v3)], []⟩) ?_ ?_
    · rcases bool_cases (decide (a0 < 0)) with hc6 | hc6
      · replace h := ite_t hc6 h
        refine rgU (st1 := ⟨[(0, .p I6 a0), (8, .p .bool true)], []⟩) [0, 8] [] hN (.cons (mvU (v := .p I6 a0) rfl rfl) (.cons (cmU (rs := [(3, .p I6 a0)]) rfl rfl o0 (.int _ _ _) rfl) (.cons (mvU (v := .p .bool ((decide (a0 < 0)) : Bool)) rfl rfl) (.cons (skU rfl rfl hc6) (.cons (skU rfl rfl hc6) (.cons (pkT (rs := [(5, .p .bool ((decide (a0 < 0)) : Bool))]) rfl rfl o0 hc6 (.bool _ _)) .nil)))))) (by kernel_rfl) (by kernel_rfl) (by kernel_rfl) (cvR _) ?_
        refine tnU ?_
        exact ⟨true, h, rfl⟩
      · replace h := ite_f hc6 h
        refine rgU (st1 := ⟨[(0, .p I6 a0), (8, .p .bool ((decide (a0 > 9)) : Bool))], []⟩) [0, 8] [] hN (.cons (mvU (v := .p I6 a0) rfl rfl) (.cons (cmU (rs := [(3, .p I6 a0)]) rfl rfl o0 (.int _ _ _) rfl) (.cons (mvU (v := .p .bool ((decide (a0 < 0)) : Bool)) rfl rfl) (.cons (sok_run rfl rfl hc6 (mvU (v := .p I6 a0) rfl rfl)) (.cons (sok_run rfl rfl hc6 (cmU (rs := [(6, .p I6 a0)]) rfl rfl o0 (.int _ _ _) rfl)) (.cons (pkF (rs := [(5, .p .bool ((decide (a0 < 0)) : Bool)), (7, .p .bool ((decide (a0 > 9)) : Bool))]) rfl rfl o0 hc6 o1) .nil)))))) (by kernel_rfl) (by kernel_rfl) (by kernel_rfl) (cvR _) ?_
        refine tnU ?_
        exact ⟨(decide (a0 > 9)), h, rfl⟩
    · rintro _ ⟨v3, h, rfl⟩
      unfold rex_Word.j5 at h
      refine cdU (b := v3) o1 (fun hc4 => ?_) (fun hc4 => ?_)
      · replace h := ite_t hc4 h
        refine WpC.seq ?_
        refine rgU (st1 := ⟨[(2, .p .str (([] : List UInt8) : List UInt8))], []⟩) [2] [] hN (.cons (moU (rs := []) rfl (.inr rfl) (.str _ _)) .nil) (by kernel_rfl) (by kernel_rfl) (by kernel_rfl) (cvR _) ?_
        refine tnU ?_
        refine WpC.ret ?_
        refine thenQ_ret ?_
        have hq := Option.some.inj h
        subst hq
        exact ends_ret (retV_1 rfl (.head _)) ain_nil
      · replace h := ite_f hc4 h
        refine WpC.conv (cvK (b := ⟨[(0, .p I6 a0)], []⟩) [0] [] (by kernel_rfl)) (WpC.skip ?_)
        refine tnU ?_
        exact ⟨h, rfl⟩
  · rintro _ ⟨h, rfl⟩
    unfold rex_Word.j2 at h
    refine WpC.seq ?_
    obtain ⟨v1, hv1, h⟩ := bind_some h
    refine rgU (st1 := ⟨[(2, .p .str v1)], []⟩) [2] [] hN (.cons (mvU (v := .p I6 a0) rfl rfl) (.cons (sok_indexG (U := Un) (rs := [(9, .p I6 a0)]) (bs := rexWords) rfl rfl Tryd.underlying127 ty_9 hO.words o0 hv1) (.cons (sok_loadP (U := Un) (rs := [(10, .pp .str v1)]) rfl rfl ty_9 o0) (.cons (mvA (v := .p .str v1) rfl rfl) .nil)))) (by kernel_rfl) (by kernel_rfl) (by kernel_rfl) (cvR _) ?_
    refine tnU ?_
    refine WpC.ret ?_
    have hq := Option.some.inj h
    subst hq
    exact ends_ret (retV_1 rfl (.head _)) ain_nil

theorem class_Set_Empty.ok (O : Out) (hO : GOkA O) (k : Nat) (a0 : List Int) (out : Bool) (h : class_Set_Empty.f k a0 = some out) : COk Un O Tryd.prog 29 { ar := [.p U6 a0], r := .p .bool out } := by
  refine cok_of_wp Tryd.func29 rfl (k := 6) rfl (Nat.le_of_ble_eq_true rfl) (namesOk_pure rfl rfl rfl rfl) ?_
  intro B hN
  refine WpC.conv (cvK (b := ⟨[(0, .p U6 a0)], []⟩) [0] [] (by kernel_rfl)) ?_
  unfold class_Set_Empty.f at h
  refine WpC.seq ?_
  refine rgU (st1 := ⟨[(1, .loc 1 0)], [(1, .box [.p U6 a0])]⟩) [1] [1] hN (.cons (sok_box (U := Un) (rs := [(0, .p U6 a0)]) (d := 1) (us := [.p U6 a0]) rfl rfl rfl o0 (.data (.one _ _)) rfl (notin_of (by kernel_rfl))) (.cons (moU (rs := []) rfl (.inr rfl) (.bool _ _)) .nil)) (by kernel_rfl) (by kernel_rfl) (by kernel_rfl) (cvR _) ?_
  refine tnU ?_
  refine WpC.seq ?_
  refine rgU (st1 := ⟨[(2, .p .bool ((a0 == (List.replicate 4 (0 : Int))) : Bool))], []⟩) [2] [] hN (.cons (ldB (t := .arr 4 (.int .u64)) (rs := [(1, .loc 1 0)]) [] [.p U6 a0] [] (v := .p U6 a0) rfl rfl ty_26 o0 rfl rfl rfl rfl (.data (.one _ _))) (.cons (sok_build (U := Un) (t := .arr 4 (.int .u64)) (rs := []) (us0 := [.p U6 ((List.replicate 4 (0 : Int)) : List Int)]) (us := [.p U6 ((List.replicate 4 (0 : Int)) : List Int)]) (v := .p U6 ((List.replicate 4 (0 : Int)) : List Int)) rfl rfl lays_26 (.data (rd_zeros _ _) .nil) (.nil _) rfl (.data (.one _ _))) (.cons (sok_eqArr (U := Un) (op := .eql) (rs := [(3, .p U6 a0), (4, .p U6 ((List.replicate 4 (0 : Int)) : List Int))]) rfl rfl Tryd.underlying26 Tryd.underlying24 ty_24 (by kernel_rfl) o0 o1) (.cons (mvA (v := .p .bool ((a0 == (List.replicate 4 (0 : Int))) : Bool)) rfl rfl) .nil)))) (by kernel_rfl) (by kernel_rfl) (by kernel_rfl) (cvR _) ?_
  refine tnU ?_
  refine WpC.ret ?_
  have hq := Option.some.inj h
  subst hq
  exact ends_ret (retV_1 rfl (.head _)) ain_nil

theorem prog_Right_1.bok (O : Out) (hO : GOkA O) (k : Nat) (rf_prog_Right : T_rex_Node → Option Bool) (hrf_prog_Right : ∀ (a0 : T_rex_Node) (out : Bool), rf_prog_Right a0 = some out → COk Un O Tryd.prog 16 { ar := [.p (.named 4) a0], r := .p .bool out }) (a0 : T_rex_Node) (out : Bool) (h : prog_Right_1.b k rf_prog_Right a0 = some out) : COk Un O Tryd.prog 51 { ar := [.p (.named 4) a0], r := .p .bool out } := by
  refine cok_of_wp Tryd.func51 rfl (k := 6) rfl (Nat.le_of_ble_eq_true rfl) (namesOk_pure rfl rfl rfl rfl) ?_
  intro B hN
  refine WpC.conv (cvK (b := ⟨[(0, .p (.named 4) a0)], []⟩) [0] [] (by kernel_rfl)) ?_
  unfold prog_Right_1.b at h
  refine WpC.seq ?_
  refine rgU (st1 := ⟨[(1, .loc 1 0)], [(1, .box [.p I6 a0.f_Kind, .p I6 a0.f_Index, .p U6 a0.f_Set, .p (.list (.named 4)) a0.f_Kids])]⟩) [1] [1] hN (.cons (sok_box (U := Un) (rs := [(0, .p (.named 4) a0)]) (d := 1) (us := [.p I6 a0.f_Kind, .p I6 a0.f_Index, .p U6 a0.f_Set, .p (.list (.named 4)) a0.f_Kids]) rfl rfl rfl o0 (.data (.named (us := ([.p I6 a0.f_Kind, .p I6 a0.f_Index, .p U6 a0.f_Set, .p (.list (.named 4)) a0.f_Kids] : List (AVal Un))) (.pair (.one _ _) (.pair (.one _ _) (.pair (.one _ _) (.pair (.one _ _) .unit)))))) rfl (notin_of (by kernel_rfl))) (.cons (moU (rs := []) rfl (.inr rfl) (.bool _ _)) .nil)) (by kernel_rfl) (by kernel_rfl) (by kernel_rfl) (cvR _) ?_
  refine tnU ?_
  refine WpC.seq ?_
  obtain ⟨v1, hv1, h⟩ := bind_some h
  refine rgU (st1 := ⟨[(2, .p .bool ((!v1) : Bool))], []⟩) [2] [] hN (.cons (ldB (t := .named 4) (rs := [(1, .loc 1 0)]) [] [.p I6 a0.f_Kind, .p I6 a0.f_Index, .p U6 a0.f_Set, .p (.list (.named 4)) a0.f_Kids] [] (v := .p (.named 4) ((T_rex_Node.mk a0.f_Kind a0.f_Index a0.f_Set a0.f_Kids) : T_rex_Node)) rfl rfl ty_32 o0 rfl rfl rfl rfl (.data (.named (us := ([.p I6 a0.f_Kind, .p I6 a0.f_Index, .p U6 a0.f_Set, .p (.list (.named 4)) a0.f_Kids] : List (AVal Un))) (.pair (.one _ _) (.pair (.one _ _) (.pair (.one _ _) (.pair (.one _ _) .unit))))))) (.cons (caV (rs := [(3, .p (.named 4) ((T_rex_Node.mk a0.f_Kind a0.f_Index a0.f_Set a0.f_Kids) : T_rex_Node))]) (vw := []) rfl rfl (.func _) hb_16 (hrf_prog_Right (T_rex_Node.mk a0.f_Kind a0.f_Index a0.f_Set a0.f_Kids) v1 hv1) (.cons o0 .nil) (.cons (.same _) .nil) (by simp) (.inl rfl)) (.cons (sok_not (U := Un) (rs := [(4, .p .bool v1)]) rfl rfl o0) (.cons (mvA (v := .p .bool ((!v1) : Bool)) rfl rfl) .nil)))) (by kernel_rfl) (by kernel_rfl) (by kernel_rfl) (cvR _) ?_
  refine tnU ?_
  refine WpC.ret ?_
  have hq := Option.some.inj h
  subst hq
  exact ends_ret (retV_1 rfl (.head _)) ain_nil

theorem rex_Node_74_m0.bok (O : Out) (hO : GOkA O) (k : Nat) (rf_prog_Right_1 : T_rex_Node → Option Bool) (hrf_prog_Right_1 : ∀ (a0 : T_rex_Node) (out : Bool), rf_prog_Right_1 a0 = some out → COk Un O Tryd.prog 51 { ar := [.p (.named 4) a0], r := .p .bool out }) (a0 : List T_rex_Node) (out : Int) (h : rex_Node_74_m0.b k rf_prog_Right_1 a0 = some out) : COk Un O Tryd.prog 74 { ar := [.p (.list (.named 4)) a0, .clo 51 []], r := .p I6 out } := by
  refine cok_of_wp Tryd.func74 rfl (k := 19) rfl (Nat.le_of_ble_eq_true rfl) (namesOk_pure rfl rfl rfl rfl) ?_
  intro B hN
  refine WpC.conv (cvK (b := ⟨[(0, .p (.list (.named 4)) a0), (1, .clo 51 [])], []⟩) [0, 1] [] (by kernel_rfl)) ?_
  unfold rex_Node_74_m0.b at h
  refine WpC.seq ?_
  refine rgU (st1 := ⟨[(0, .p (.list (.named 4)) a0), (1, .clo 51 [])], []⟩) [0, 1] [] hN (.cons (moU (rs := []) rfl (.inr rfl) (.int _ _ _)) .nil) (by kernel_rfl) (by kernel_rfl) (by kernel_rfl) (cvR _) ?_
  refine tnU ?_
  refine sqJ (fun st' => rex_Node_74_m0.j1 k = some out ∧ st' = ⟨[], []⟩) ?_ ?_
  · refine WpC.seq ?_
    refine rgU (st1 := ⟨[(0, .p (.list (.named 4)) a0), (1, .clo 51 []), (7, .p I6 ((a0.length : Int) : Int)), (8, .p I6 (0 : Int))], []⟩) [0, 1, 7, 8] [] hN (.cons (mvU (v := .p (.list (.named 4)) a0) rfl rfl) (.cons (sok_lenL (U := Un) (rs := [(6, .p (.list (.named 4)) a0)]) rfl rfl Tryd.underlying30 o0) (.cons (moU (rs := []) rfl (.inl rfl) (.int _ _ _)) .nil))) (by kernel_rfl) (by kernel_rfl) (by kernel_rfl) (cvR _) ?_
    refine tnU ?_
    refine WpC.block ?_
    obtain ⟨o4, hlo4, h⟩ := bind_some h
    have hout5 := h
    clear h
    refine WpC.loop (U := Un) (fun n st' => ∃ v2 : Int, rex_Node_74_m0.l3 k rf_prog_Right_1 a0 n v2 = some o4 ∧ st' = ⟨[(0, .p (.list (.named 4)) a0), (1, .clo 51 []), (7, .p I6 ((a0.length : Int) : Int)), (8, .p I6 v2)], []⟩) k ⟨0, hlo4, rfl⟩ ?_
    clear hlo4
    rintro (_ | n) _ ⟨v2, h, rfl⟩
    · cases h
    · rw [rex_Node_74_m0.l3] at h
      refine WpC.seq ?_
      refine rgU (st1 := ⟨[(0, .p (.list (.named 4)) a0), (1, .clo 51 []), (7, .p I6 ((a0.length : Int) : Int)), (8, .p I6 v2), (9, .p .bool ((decide (v2 < (a0.length : Int))) : Bool))], []⟩) [0, 1, 7, 8, 9] [] hN (.cons (cmU (rs := [(8, .p I6 v2), (7, .p I6 ((a0.length : Int) : Int))]) rfl rfl o0 o1 rfl) .nil) (by kernel_rfl) (by kernel_rfl) (by kernel_rfl) (cvR _) ?_
      refine tnU ?_
      refine WpC.seq ?_
      refine cdU (b := (decide (v2 < (a0.length : Int)))) (.tmp (.tail _ (.tail _ (.tail _ (.tail _ (.head _)))))) (fun hc6 => ?_) (fun hc6 => ?_)
      · replace h := ite_t hc6 h
        refine WpC.conv (cvK (b := ⟨[(0, .p (.list (.named 4)) a0), (1, .clo 51 []), (7, .p I6 ((a0.length : Int) : Int)), (8, .p I6 v2)], []⟩) [0, 1, 7, 8] [] (by kernel_rfl)) (WpC.skip ?_)
        refine tnU ?_
        refine WpC.seq ?_
        refine WpC.block ?_
        refine WpC.seq ?_
        refine rgU (st1 := ⟨[(0, .p (.list (.named 4)) a0), (1, .clo 51 []), (5, .p I6 v2), (7, .p I6 ((a0.length : Int) : Int)), (8, .p I6 v2)], []⟩) [0, 1, 5, 7, 8] [] hN (.cons (mvU (v := .p I6 v2) rfl rfl) (.cons (mvA (v := .p I6 v2) rfl rfl) .nil)) (by kernel_rfl) (by kernel_rfl) (by kernel_rfl) (cvR _) ?_
        refine tnU ?_
        refine WpC.seq ?_
        obtain ⟨v7, hv7, h⟩ := bind_some h
        obtain ⟨v8, hv8, h⟩ := bind_some h
        refine rgU (st1 := ⟨[(0, .p (.list (.named 4)) a0), (1, .clo 51 []), (5, .p I6 v2), (7, .p I6 ((a0.length : Int) : Int)), (8, .p I6 v2), (16, .p .bool v8)], []⟩) [0, 1, 5, 7, 8, 16] [] hN (.cons (mvU (v := .clo 51 []) rfl rfl) (.cons (mvU (v := .p (.list (.named 4)) a0) rfl rfl) (.cons (mvU (v := .p I6 v2) rfl rfl) (.cons (sok_indexL (U := Un) (rs := [(12, .p (.list (.named 4)) a0), (13, .p I6 v2)]) rfl rfl sl_30 o0 o1 hv7) (.cons (sok_loadP (U := Un) (rs := [(14, .pp (.named 4) v7)]) rfl rfl ty_32 o0) (.cons (caV (rs := [(15, .p (.named 4) v7), (11, .clo 51 [])]) (vw := []) rfl rfl (.clo o1) hb_51 (hrf_prog_Right_1 v7 v8 hv8) (.cons o0 .nil) (.cons (.same _) .nil) (by simp) (.inl rfl)) .nil)))))) (by kernel_rfl) (by kernel_rfl) (by kernel_rfl) (cvR _) ?_
        refine tnU ?_
        refine cdU (b := v8) (.tmp (.tail _ (.tail _ (.tail _ (.tail _ (.tail _ (.head _))))))) (fun hc9 => ?_) (fun hc9 => ?_)
        · replace h := ite_t hc9 h
          refine WpC.seq ?_
          refine rgU (st1 := ⟨[(4, .p I6 v2)], []⟩) [4] [] hN (.cons (mvU (v := .p I6 v2) rfl rfl) (.cons (mvA (v := .p I6 v2) rfl rfl) .nil)) (by kernel_rfl) (by kernel_rfl) (by kernel_rfl) (cvR _) ?_
          refine tnU ?_
          refine WpC.ret ?_
          refine blockQ_ret ?_
          refine thenQ_ret ?_
          have hq := Option.some.inj h
          subst hq
          refine thenQ_ret ?_
          have h := hout5
          refine blockQ_ret ?_
          refine thenQ_ret ?_
          have hq := Option.some.inj h
          subst hq
          exact ends_ret (retV_1 rfl (.head _)) ain_nil
        · replace h := ite_f hc9 h
          refine WpC.conv (cvK (b := ⟨[(0, .p (.list (.named 4)) a0), (1, .clo 51 []), (7, .p I6 ((a0.length : Int) : Int)), (8, .p I6 v2)], []⟩) [0, 1, 7, 8] [] (by kernel_rfl)) (WpC.skip ?_)
          refine blockQ_normal ?_
          refine tnU ?_
          refine rgU (st1 := ⟨[(0, .p (.list (.named 4)) a0), (1, .clo 51 []), (7, .p I6 ((a0.length : Int) : Int)), (8, .p I6 ((IntKind.i64.wrap (v2 + 1)) : Int))], []⟩) [0, 1, 7, 8] [] hN (.cons (sok_arith (U := Un) (rs := [(8, .p I6 v2)]) rfl rfl o0 (.int _ _ _) rfl) (.cons (mvU (v := .p I6 ((IntKind.i64.wrap (v2 + 1)) : Int)) rfl rfl) .nil)) (by kernel_rfl) (by kernel_rfl) (by kernel_rfl) (cvR _) ?_
          refine tnU ?_
          exact ⟨n, Nat.lt_succ_self n, (IntKind.i64.wrap (v2 + 1)), h, rfl⟩
      · replace h := ite_f hc6 h
        refine WpC.conv (cvK (b := ⟨[], []⟩) [] [] (by kernel_rfl)) (WpC.exit ?_)
        refine thenQ_exit ?_
        have hq := Option.some.inj h
        subst hq
        refine thenQ_exit ?_
        have h := hout5
        refine blockQ_hit ?_
        refine tnU ?_
        exact ⟨h, rfl⟩
  · rintro _ ⟨h, rfl⟩
    unfold rex_Node_74_m0.j1 at h
    refine WpC.seq ?_
    refine rgU (st1 := ⟨[(4, .p I6 ((-1) : Int))], []⟩) [4] [] hN (.cons (moU (rs := []) rfl (.inr rfl) (.int _ _ _)) .nil) (by kernel_rfl) (by kernel_rfl) (by kernel_rfl) (cvR _) ?_
    refine tnU ?_
    refine WpC.ret ?_
    have hq := Option.some.inj h
    subst hq
    exact ends_ret (retV_1 rfl (.head _)) ain_nil

theorem rex_Node_m0.bok (O : Out) (hO : GOkA O) (k : Nat) (rf_rex_Node_74_m0 : (List T_rex_Node) → Option Int) (hrf_rex_Node_74_m0 : ∀ (a0 : List T_rex_Node) (out : Int), rf_rex_Node_74_m0 a0 = some out → COk Un O Tryd.prog 74 { ar := [.p (.list (.named 4)) a0, .clo 51 []], r := .p I6 out }) (a0 : List T_rex_Node) (out : Bool) (h : rex_Node_m0.b k rf_rex_Node_74_m0 a0 = some out) : COk Un O Tryd.prog 52 { ar := [.p (.list (.named 4)) a0, .clo 51 []], r := .p .bool out } := by
  refine cok_of_wp Tryd.func52 rfl (k := 9) rfl (Nat.le_of_ble_eq_true rfl) (namesOk_pure rfl rfl rfl rfl) ?_
  intro B hN
  refine WpC.conv (cvK (b := ⟨[(0, .p (.list (.named 4)) a0), (1, .clo 51 [])], []⟩) [0, 1] [] (by kernel_rfl)) ?_
  unfold rex_Node_m0.b at h
  refine WpC.seq ?_
  refine rgU (st1 := ⟨[(0, .p (.list (.named 4)) a0), (1, .clo 51 [])], []⟩) [0, 1] [] hN (.cons (moU (rs := []) rfl (.inr rfl) (.bool _ _)) .nil) (by kernel_rfl) (by kernel_rfl) (by kernel_rfl) (cvR _) ?_
  refine tnU ?_
  refine WpC.seq ?_
  obtain ⟨v1, hv1, h⟩ := bind_some h
  refine rgU (st1 := ⟨[(4, .p .bool ((decide (v1 ≥ 0)) : Bool))], []⟩) [4] [] hN (.cons (mvU (v := .p (.list (.named 4)) a0) rfl rfl) (.cons (mvU (v := .clo 51 []) rfl rfl) (.cons (caV (rs := [(5, .p (.list (.named 4)) a0), (6, .clo 51 [])]) (vw := []) rfl rfl (.func _) hb_74 (hrf_rex_Node_74_m0 a0 v1 hv1) (.cons o0 (.cons o1 .nil)) (.cons (.same _) (.cons (.same _) .nil)) (by simp) (.inl rfl)) (.cons (cmU (rs := [(7, .p I6 v1)]) rfl rfl o0 (.int _ _ _) rfl) (.cons (mvA (v := .p .bool ((decide (v1 ≥ 0)) : Bool)) rfl rfl) .nil))))) (by kernel_rfl) (by kernel_rfl) (by kernel_rfl) (cvR _) ?_
  refine tnU ?_
  refine WpC.ret ?_
  have hq := Option.some.inj h
  subst hq
  exact ends_ret (retV_1 rfl (.head _)) ain_nil

theorem prog_Right.bok (O : Out) (hO : GOkA O) (k : Nat) (rf_rex_Node_m0 : (List T_rex_Node) → Option Bool) (hrf_rex_Node_m0 : ∀ (a0 : List T_rex_Node) (out : Bool), rf_rex_Node_m0 a0 = some out → COk Un O Tryd.prog 52 { ar := [.p (.list (.named 4)) a0, .clo 51 []], r := .p .bool out }) (a0 : T_rex_Node) (out : Bool) (h : prog_Right.b k rf_rex_Node_m0 a0 = some out) : COk Un O Tryd.prog 16 { ar := [.p (.named 4) a0], r := .p .bool out } := by
  refine cok_of_wp Tryd.func16 rfl (k := 64) rfl (Nat.le_of_ble_eq_true rfl) (namesOk_pure rfl rfl rfl rfl) ?_
  intro B hN
  refine WpC.conv (cvK (b := ⟨[(0, .p (.named 4) a0)], []⟩) [0] [] (by kernel_rfl)) ?_
  unfold prog_Right.b at h
  refine WpC.seq ?_
  refine rgU (st1 := ⟨[(1, .loc 1 0)], [(1, .box [.p I6 a0.f_Kind, .p I6 a0.f_Index, .p U6 a0.f_Set, .p (.list (.named 4)) a0.f_Kids])]⟩) [1] [1] hN (.cons (sok_box (U := Un) (rs := [(0, .p (.named 4) a0)]) (d := 1) (us := [.p I6 a0.f_Kind, .p I6 a0.f_Index, .p U6 a0.f_Set, .p (.list (.named 4)) a0.f_Kids]) rfl rfl rfl o0 (.data (.named (us := ([.p I6 a0.f_Kind, .p I6 a0.f_Index, .p U6 a0.f_Set, .p (.list (.named 4)) a0.f_Kids] : List (AVal Un))) (.pair (.one _ _) (.pair (.one _ _) (.pair (.one _ _) (.pair (.one _ _) .unit)))))) rfl (notin_of (by kernel_rfl))) (.cons (moU (rs := []) rfl (.inr rfl) (.bool _ _)) .nil)) (by kernel_rfl) (by kernel_rfl) (by kernel_rfl) (cvR _) ?_
  refine tnU ?_
  refine WpC.seq ?_
  obtain ⟨v1, hv1, h⟩ := bind_some h
  refine rgU (st1 := ⟨[(1, .loc 1 0), (3, .p I6 v1.1), (4, .p I6 v1.2)], [(1, .box [.p I6 a0.f_Kind, .p I6 a0.f_Index, .p U6 a0.f_Set, .p (.list (.named 4)) a0.f_Kids])]⟩) [1, 3, 4] [1] hN (.cons (fdB (rs := [(1, .loc 1 0)]) rfl rfl fd_32_0 (by decide) o0) (.cons (ldB (t := .int .i64) (rs := [(8, .loc 1 0)]) [] [.p I6 a0.f_Kind] [.p I6 a0.f_Index, .p U6 a0.f_Set, .p (.list (.named 4)) a0.f_Kids] (v := .p I6 a0.f_Kind) rfl rfl ty_3 o0 rfl rfl rfl rfl (.data (.one _ _))) (.cons (caV (rs := [(9, .p I6 a0.f_Kind)]) (vw := []) rfl rfl (.func _) hb_49 (prog_kids.ok O hO k a0.f_Kind v1 hv1) (.cons o0 .nil) (.cons (.same _) .nil) (by simp) (.inl rfl)) (.cons (mvU (v := .tup [.p I6 v1.1, .p I6 v1.2]) rfl rfl) (.cons (exU (rs := [(7, .tup [.p I6 v1.1, .p I6 v1.2])]) rfl rfl o0 rfl) (.cons (exU (rs := [(7, .tup [.p I6 v1.1, .p I6 v1.2])]) rfl rfl o0 rfl) (.cons (mvA (v := .p I6 v1.1) rfl rfl) (.cons (mvA (v := .p I6 v1.2) rfl rfl) .nil)))))))) (by kernel_rfl) (by kernel_rfl) (by kernel_rfl) (cvR _) ?_
  refine tnU ?_
  refine WpC.seq ?_
  refine rgU (st1 := ⟨[(1, .loc 1 0), (3, .p I6 v1.1), (4, .p I6 v1.2), (5, .p .bool ((a0.f_Index == 0) : Bool))], [(1, .box [.p I6 a0.f_Kind, .p I6 a0.f_Index, .p U6 a0.f_Set, .p (.list (.named 4)) a0.f_Kids])]⟩) [1, 3, 4, 5] [1] hN (.cons (fdB (rs := [(1, .loc 1 0)]) rfl rfl fd_32_1 (by decide) o0) (.cons (ldB (t := .int .i64) (rs := [(13, .loc 1 1)]) [.p I6 a0.f_Kind] [.p I6 a0.f_Index] [.p U6 a0.f_Set, .p (.list (.named 4)) a0.f_Kids] (v := .p I6 a0.f_Index) rfl rfl ty_3 o0 rfl rfl rfl rfl (.data (.one _ _))) (.cons (cmU (rs := [(14, .p I6 a0.f_Index)]) rfl rfl o0 (.int _ _ _) rfl) (.cons (mvA (v := .p .bool ((a0.f_Index == 0) : Bool)) rfl rfl) .nil)))) (by kernel_rfl) (by kernel_rfl) (by kernel_rfl) (cvR _) ?_
  refine tnU ?_
  refine sqJ (fun st' => ∃ v2 : Bool, prog_Right.j19 k rf_rex_Node_m0 a0 v1 v2 = some out ∧ st' = ⟨[(1, .loc 1 0), (3, .p I6 v1.1), (4, .p I6 v1.2), (5, .p .bool v2)], [(1, .box [.p I6 a0.f_Kind, .p I6 a0.f_Index, .p U6 a0.f_Set, .p (.list (.named 4)) a0.f_Kids])]⟩) ?_ ?_
  · refine WpC.seq ?_
    refine rgU (st1 := ⟨[(1, .loc 1 0), (3, .p I6 v1.1), (4, .p I6 v1.2), (5, .p .bool ((a0.f_Index == 0) : Bool)), (18, .p .bool ((a0.f_Kind == 7) : Bool))], [(1, .box [.p I6 a0.f_Kind, .p I6 a0.f_Index, .p U6 a0.f_Set, .p (.list (.named 4)) a0.f_Kids])]⟩) [1, 3, 4, 5, 18] [1] hN (.cons (fdB (rs := [(1, .loc 1 0)]) rfl rfl fd_32_0 (by decide) o0) (.cons (ldB (t := .int .i64) (rs := [(16, .loc 1 0)]) [] [.p I6 a0.f_Kind] [.p I6 a0.f_Index, .p U6 a0.f_Set, .p (.list (.named 4)) a0.f_Kids] (v := .p I6 a0.f_Kind) rfl rfl ty_3 o0 rfl rfl rfl rfl (.data (.one _ _))) (.cons (cmU (rs := [(17, .p I6 a0.f_Kind)]) rfl rfl o0 (.int _ _ _) rfl) .nil))) (by kernel_rfl) (by kernel_rfl) (by kernel_rfl) (cvR _) ?_
    refine tnU ?_
    refine cdU (b := (a0.f_Kind == 7)) (.tmp (.tail _ (.tail _ (.tail _ (.tail _ (.head _)))))) (fun hc20 => ?_) (fun hc20 => ?_)
    · replace h := ite_t hc20 h
      rcases bool_cases (decide (a0.f_Index ≥ 1)) with hc21 | hc21
      · replace h := ite_t hc21 h
        refine rgU (st1 := ⟨[(1, .loc 1 0), (3, .p I6 v1.1), (4, .p I6 v1.2), (5, .p .bool ((decide (a0.f_Index ≤ 9)) : Bool))], [(1, .box [.p I6 a0.f_Kind, .p I6 a0.f_Index, .p U6 a0.f_Set, .p (.list (.named 4)) a0.f_Kids])]⟩) [1, 3, 4, 5] [1] hN (.cons (fdB (rs := [(1, .loc 1 0)]) rfl rfl fd_32_1 (by decide) o0) (.cons (ldB (t := .int .i64) (rs := [(19, .loc 1 1)]) [.p I6 a0.f_Kind] [.p I6 a0.f_Index] [.p U6 a0.f_Set, .p (.list (.named 4)) a0.f_Kids] (v := .p I6 a0.f_Index) rfl rfl ty_3 o0 rfl rfl rfl rfl (.data (.one _ _))) (.cons (cmU (rs := [(20, .p I6 a0.f_Index)]) rfl rfl o0 (.int _ _ _) rfl) (.cons (mvU (v := .p .bool ((decide (a0.f_Index ≥ 1)) : Bool)) rfl rfl) (.cons (sok_run rfl rfl hc21 (fdB (rs := [(1, .loc 1 0)]) rfl rfl fd_32_1 (by decide) o0)) (.cons (sok_run rfl rfl hc21 (ldB (t := .int .i64) (rs := [(23, .loc 1 1)]) [.p I6 a0.f_Kind] [.p I6 a0.f_Index] [.p U6 a0.f_Set, .p (.list (.named 4)) a0.f_Kids] (v := .p I6 a0.f_Index) rfl rfl ty_3 o0 rfl rfl rfl rfl (.data (.one _ _)))) (.cons (sok_run rfl rfl hc21 (cmU (rs := [(24, .p I6 a0.f_Index)]) rfl rfl o0 (.int _ _ _) rfl)) (.cons (pkT (rs := [(22, .p .bool ((decide (a0.f_Index ≥ 1)) : Bool)), (25, .p .bool ((decide (a0.f_Index ≤ 9)) : Bool))]) rfl rfl o0 hc21 o1) (.cons (mvA (v := .p .bool ((decide (a0.f_Index ≤ 9)) : Bool)) rfl rfl) .nil))))))))) (by kernel_rfl) (by kernel_rfl) (by kernel_rfl) (cvR _) ?_
        refine tnU ?_
        exact ⟨(decide (a0.f_Index ≤ 9)), h, rfl⟩
      · replace h := ite_f hc21 h
        refine rgU (st1 := ⟨[(1, .loc 1 0), (3, .p I6 v1.1), (4, .p I6 v1.2), (5, .p .bool false)], [(1, .box [.p I6 a0.f_Kind, .p I6 a0.f_Index, .p U6 a0.f_Set, .p (.list (.named 4)) a0.f_Kids])]⟩) [1, 3, 4, 5] [1] hN (.cons (fdB (rs := [(1, .loc 1 0)]) rfl rfl fd_32_1 (by decide) o0) (.cons (ldB (t := .int .i64) (rs := [(19, .loc 1 1)]) [.p I6 a0.f_Kind] [.p I6 a0.f_Index] [.p U6 a0.f_Set, .p (.list (.named 4)) a0.f_Kids] (v := .p I6 a0.f_Index) rfl rfl ty_3 o0 rfl rfl rfl rfl (.data (.one _ _))) (.cons (cmU (rs := [(20, .p I6 a0.f_Index)]) rfl rfl o0 (.int _ _ _) rfl) (.cons (mvU (v := .p .bool ((decide (a0.f_Index ≥ 1)) : Bool)) rfl rfl) (.cons (skU rfl rfl hc21) (.cons (skU rfl rfl hc21) (.cons (skU rfl rfl hc21) (.cons (pkF (rs := [(22, .p .bool ((decide (a0.f_Index ≥ 1)) : Bool))]) rfl rfl o0 hc21 (.bool _ _)) (.cons (mvA (v := .p .bool false) rfl rfl) .nil))))))))) (by kernel_rfl) (by kernel_rfl) (by kernel_rfl) (cvR _) ?_
        refine tnU ?_
        exact ⟨false, h, rfl⟩
    · replace h := ite_f hc20 h
      refine WpC.conv (cvK (b := ⟨[(1, .loc 1 0), (3, .p I6 v1.1), (4, .p I6 v1.2), (5, .p .bool ((a0.f_Index == 0) : Bool))], [(1, .box [.p I6 a0.f_Kind, .p I6 a0.f_Index, .p U6 a0.f_Set, .p (.list (.named 4)) a0.f_Kids])]⟩) [1, 3, 4, 5] [1] (by kernel_rfl)) (WpC.skip ?_)
      refine tnU ?_
      exact ⟨(a0.f_Index == 0), h, rfl⟩
  · rintro _ ⟨v2, h, rfl⟩
    unfold prog_Right.j19 at h
    refine sqJ (fun st' => prog_Right.j4 k rf_rex_Node_m0 a0 = some out ∧ st' = ⟨[(1, .loc 1 0)], [(1, .box [.p I6 a0.f_Kind, .p I6 a0.f_Index, .p U6 a0.f_Set, .p (.list (.named 4)) a0.f_Kids])]⟩) ?_ ?_
    · refine WpC.block ?_
      refine sqJ (fun st' => ∃ v5 : Bool, prog_Right.j16 k rf_rex_Node_m0 a0 v1 v5 = some out ∧ st' = ⟨[(1, .loc 1 0), (3, .p I6 v1.1), (4, .p I6 v1.2), (27, .p .bool v5)], [(1, .box [.p I6 a0.f_Kind, .p I6 a0.f_Index, .p U6 a0.f_Set, .p (.list (.named 4)) a0.f_Kids])]⟩) ?_ ?_
      · obtain ⟨v17, hv17, h⟩ := bind_some h
        rcases bool_cases (v17 == ([] : List UInt8)) with hc18 | hc18
        · replace h := ite_t hc18 h
          refine rgU (st1 := ⟨[(1, .loc 1 0), (3, .p I6 v1.1), (4, .p I6 v1.2), (27, .p .bool true)], [(1, .box [.p I6 a0.f_Kind, .p I6 a0.f_Index, .p U6 a0.f_Set, .p (.list (.named 4)) a0.f_Kids])]⟩) [1, 3, 4, 27] [1] hN (.cons (fdB (rs := [(1, .loc 1 0)]) rfl rfl fd_32_0 (by decide) o0) (.cons (ldB (t := .int .i64) (rs := [(28, .loc 1 0)]) [] [.p I6 a0.f_Kind] [.p I6 a0.f_Index, .p U6 a0.f_Set, .p (.list (.named 4)) a0.f_Kids] (v := .p I6 a0.f_Kind) rfl rfl ty_3 o0 rfl rfl rfl rfl (.data (.one _ _))) (.cons (caV (rs := [(29, .p I6 a0.f_Kind)]) (vw := []) rfl rfl (.func _) hb_50 (rex_Word.ok O hO k a0.f_Kind v17 hv17) (.cons o0 .nil) (.cons (.same _) .nil) (by simp) (.inl rfl)) (.cons (sok_cmpS (U := Un) (rs := [(30, .p .str v17)]) rfl rfl o0 (.str _ _) rfl) (.cons (mvU (v := .p .bool ((v17 == ([] : List UInt8)) : Bool)) rfl rfl) (.cons (skU rfl rfl hc18) (.cons (skU rfl rfl hc18) (.cons (pkT (rs := [(32, .p .bool ((v17 == ([] : List UInt8)) : Bool))]) rfl rfl o0 hc18 (.bool _ _)) (.cons (mvA (v := .p .bool true) rfl rfl) .nil))))))))) (by kernel_rfl) (by kernel_rfl) (by kernel_rfl) (cvR _) ?_
          refine tnU ?_
          exact ⟨true, h, rfl⟩
        · replace h := ite_f hc18 h
          refine rgU (st1 := ⟨[(1, .loc 1 0), (3, .p I6 v1.1), (4, .p I6 v1.2), (27, .p .bool ((!v2) : Bool))], [(1, .box [.p I6 a0.f_Kind, .p I6 a0.f_Index, .p U6 a0.f_Set, .p (.list (.named 4)) a0.f_Kids])]⟩) [1, 3, 4, 27] [1] hN (.cons (fdB (rs := [(1, .loc 1 0)]) rfl rfl fd_32_0 (by decide) o0) (.cons (ldB (t := .int .i64) (rs := [(28, .loc 1 0)]) [] [.p I6 a0.f_Kind] [.p I6 a0.f_Index, .p U6 a0.f_Set, .p (.list (.named 4)) a0.f_Kids] (v := .p I6 a0.f_Kind) rfl rfl ty_3 o0 rfl rfl rfl rfl (.data (.one _ _))) (.cons (caV (rs := [(29, .p I6 a0.f_Kind)]) (vw := []) rfl rfl (.func _) hb_50 (rex_Word.ok O hO k a0.f_Kind v17 hv17) (.cons o0 .nil) (.cons (.same _) .nil) (by simp) (.inl rfl)) (.cons (sok_cmpS (U := Un) (rs := [(30, .p .str v17)]) rfl rfl o0 (.str _ _) rfl) (.cons (mvU (v := .p .bool ((v17 == ([] : List UInt8)) : Bool)) rfl rfl) (.cons (sok_run rfl rfl hc18 (mvU (v := .p .bool v2) rfl rfl)) (.cons (sok_run rfl rfl hc18 (sok_not (U := Un) (rs := [(33, .p .bool v2)]) rfl rfl o0)) (.cons (pkF (rs := [(32, .p .bool ((v17 == ([] : List UInt8)) : Bool)), (34, .p .bool ((!v2) : Bool))]) rfl rfl o0 hc18 o1) (.cons (mvA (v := .p .bool ((!v2) : Bool)) rfl rfl) .nil))))))))) (by kernel_rfl) (by kernel_rfl) (by kernel_rfl) (cvR _) ?_
          refine tnU ?_
          exact ⟨(!v2), h, rfl⟩
      · rintro _ ⟨v5, h, rfl⟩
        unfold prog_Right.j16 at h
        refine cdU (b := v5) (.tmp (.tail _ (.tail _ (.tail _ (.head _))))) (fun hc6 => ?_) (fun hc6 => ?_)
        · replace h := ite_t hc6 h
          refine WpC.seq ?_
          refine rgU (st1 := ⟨[(2, .p .bool false)], []⟩) [2] [] hN (.cons (moU (rs := []) rfl (.inr rfl) (.bool _ _)) .nil) (by kernel_rfl) (by kernel_rfl) (by kernel_rfl) (cvR _) ?_
          refine tnU ?_
          refine WpC.ret ?_
          refine blockQ_ret ?_
          refine thenQ_ret ?_
          have hq := Option.some.inj h
          subst hq
          exact ends_ret (retV_1 rfl (.head _)) ain_nil
        · replace h := ite_f hc6 h
          refine sqJ (fun st' => ∃ v7 : Bool, prog_Right.j14 k rf_rex_Node_m0 a0 v7 = some out ∧ st' = ⟨[(1, .loc 1 0), (36, .p .bool v7)], [(1, .box [.p I6 a0.f_Kind, .p I6 a0.f_Index, .p U6 a0.f_Set, .p (.list (.named 4)) a0.f_Kids])]⟩) ?_ ?_
          · rcases bool_cases (decide ((a0.f_Kids.length : Int) < v1.1)) with hc15 | hc15
            · replace h := ite_t hc15 h
              refine rgU (st1 := ⟨[(1, .loc 1 0), (36, .p .bool true)], [(1, .box [.p I6 a0.f_Kind, .p I6 a0.f_Index, .p U6 a0.f_Set, .p (.list (.named 4)) a0.f_Kids])]⟩) [1, 36] [1] hN (.cons (fdB (rs := [(1, .loc 1 0)]) rfl rfl fd_32_3 (by decide) o0) (.cons (ldB (t := .list (.named 4)) (rs := [(37, .loc 1 6)]) [.p I6 a0.f_Kind, .p I6 a0.f_Index, .p U6 a0.f_Set] [.p (.list (.named 4)) a0.f_Kids] [] (v := .p (.list (.named 4)) a0.f_Kids) rfl rfl ty_30 o0 rfl rfl rfl rfl (.data (.one _ _))) (.cons (sok_lenL (U := Un) (rs := [(38, .p (.list (.named 4)) a0.f_Kids)]) rfl rfl Tryd.underlying30 o0) (.cons (mvU (v := .p I6 v1.1) rfl rfl) (.cons (cmU (rs := [(39, .p I6 ((a0.f_Kids.length : Int) : Int)), (40, .p I6 v1.1)]) rfl rfl o0 o1 rfl) (.cons (mvU (v := .p .bool ((decide ((a0.f_Kids.length : Int) < v1.1)) : Bool)) rfl rfl) (.cons (skU rfl rfl hc15) (.cons (skU rfl rfl hc15) (.cons (skU rfl rfl hc15) (.cons (skU rfl rfl hc15) (.cons (skU rfl rfl hc15) (.cons (pkT (rs := [(42, .p .bool ((decide ((a0.f_Kids.length : Int) < v1.1)) : Bool))]) rfl rfl o0 hc15 (.bool _ _)) (.cons (mvA (v := .p .bool true) rfl rfl) .nil))))))))))))) (by kernel_rfl) (by kernel_rfl) (by kernel_rfl) (cvR _) ?_
              refine tnU ?_
              exact ⟨true, h, rfl⟩
            · replace h := ite_f hc15 h
              refine rgU (st1 := ⟨[(1, .loc 1 0), (36, .p .bool ((decide ((a0.f_Kids.length : Int) > v1.2)) : Bool))], [(1, .box [.p I6 a0.f_Kind, .p I6 a0.f_Index, .p U6 a0.f_Set, .p (.list (.named 4)) a0.f_Kids])]⟩) [1, 36] [1] hN (.cons (fdB (rs := [(1, .loc 1 0)]) rfl rfl fd_32_3 (by decide) o0) (.cons (ldB (t := .list (.named 4)) (rs := [(37, .loc 1 6)]) [.p I6 a0.f_Kind, .p I6 a0.f_Index, .p U6 a0.f_Set] [.p (.list (.named 4)) a0.f_Kids] [] (v := .p (.list (.named 4)) a0.f_Kids) rfl rfl ty_30 o0 rfl rfl rfl rfl (.data (.one _ _))) (.cons (sok_lenL (U := Un) (rs := [(38, .p (.list (.named 4)) a0.f_Kids)]) rfl rfl Tryd.underlying30 o0) (.cons (mvU (v := .p I6 v1.1) rfl rfl) (.cons (cmU (rs := [(39, .p I6 ((a0.f_Kids.length : Int) : Int)), (40, .p I6 v1.1)]) rfl rfl o0 o1 rfl) (.cons (mvU (v := .p .bool ((decide ((a0.f_Kids.length : Int) < v1.1)) : Bool)) rfl rfl) (.cons (sok_run rfl rfl hc15 (fdB (rs := [(1, .loc 1 0)]) rfl rfl fd_32_3 (by decide) o0)) (.cons (sok_run rfl rfl hc15 (ldB (t := .list (.named 4)) (rs := [(43, .loc 1 6)]) [.p I6 a0.f_Kind, .p I6 a0.f_Index, .p U6 a0.f_Set] [.p (.list (.named 4)) a0.f_Kids] [] (v := .p (.list (.named 4)) a0.f_Kids) rfl rfl ty_30 o0 rfl rfl rfl rfl (.data (.one _ _)))) (.cons (sok_run rfl rfl hc15 (sok_lenL (U := Un) (rs := [(44, .p (.list (.named 4)) a0.f_Kids)]) rfl rfl Tryd.underlying30 o0)) (.cons (sok_run rfl rfl hc15 (mvU (v := .p I6 v1.2) rfl rfl)) (.cons (sok_run rfl rfl hc15 (cmU (rs := [(45, .p I6 ((a0.f_Kids.length : Int) : Int)), (46, .p I6 v1.2)]) rfl rfl o0 o1 rfl)) (.cons (pkF (rs := [(42, .p .bool ((decide ((a0.f_Kids.length : Int) < v1.1)) : Bool)), (47, .p .bool ((decide ((a0.f_Kids.length : Int) > v1.2)) : Bool))]) rfl rfl o0 hc15 o1) (.cons (mvA (v := .p .bool ((decide ((a0.f_Kids.length : Int) > v1.2)) : Bool)) rfl rfl) .nil))))))))))))) (by kernel_rfl) (by kernel_rfl) (by kernel_rfl) (cvR _) ?_
              refine tnU ?_
              exact ⟨(decide ((a0.f_Kids.length : Int) > v1.2)), h, rfl⟩
          · rintro _ ⟨v7, h, rfl⟩
            unfold prog_Right.j14 at h
            refine cdU (b := v7) o1 (fun hc8 => ?_) (fun hc8 => ?_)
            · replace h := ite_t hc8 h
              refine WpC.seq ?_
              refine rgU (st1 := ⟨[(2, .p .bool false)], []⟩) [2] [] hN (.cons (moU (rs := []) rfl (.inr rfl) (.bool _ _)) .nil) (by kernel_rfl) (by kernel_rfl) (by kernel_rfl) (cvR _) ?_
              refine tnU ?_
              refine WpC.ret ?_
              refine blockQ_ret ?_
              refine thenQ_ret ?_
              have hq := Option.some.inj h
              subst hq
              exact ends_ret (retV_1 rfl (.head _)) ain_nil
            · replace h := ite_f hc8 h
              refine sqJ (fun st' => ∃ v9 : Bool, prog_Right.j11 k rf_rex_Node_m0 a0 v9 = some out ∧ st' = ⟨[(1, .loc 1 0), (49, .p .bool v9)], [(1, .box [.p I6 a0.f_Kind, .p I6 a0.f_Index, .p U6 a0.f_Set, .p (.list (.named 4)) a0.f_Kids])]⟩) ?_ ?_
              · rcases bool_cases (a0.f_Kind != 1) with hc12 | hc12
                · replace h := ite_t hc12 h
                  obtain ⟨v13, hv13, h⟩ := bind_some h
                  refine rgU (st1 := ⟨[(1, .loc 1 0), (49, .p .bool ((!v13) : Bool))], [(1, .box [.p I6 a0.f_Kind, .p I6 a0.f_Index, .p U6 a0.f_Set, .p (.list (.named 4)) a0.f_Kids])]⟩) [1, 49] [1] hN (.cons (fdB (rs := [(1, .loc 1 0)]) rfl rfl fd_32_0 (by decide) o0) (.cons (ldB (t := .int .i64) (rs := [(50, .loc 1 0)]) [] [.p I6 a0.f_Kind] [.p I6 a0.f_Index, .p U6 a0.f_Set, .p (.list (.named 4)) a0.f_Kids] (v := .p I6 a0.f_Kind) rfl rfl ty_3 o0 rfl rfl rfl rfl (.data (.one _ _))) (.cons (cmU (rs := [(51, .p I6 a0.f_Kind)]) rfl rfl o0 (.int _ _ _) rfl) (.cons (mvU (v := .p .bool ((a0.f_Kind != 1) : Bool)) rfl rfl) (.cons (sok_run rfl rfl hc12 (fdB (rs := [(1, .loc 1 0)]) rfl rfl fd_32_2 (by decide) o0)) (.cons (sok_run rfl rfl hc12 (ldB (t := .arr 4 (.int .u64)) (rs := [(54, .loc 1 2)]) [.p I6 a0.f_Kind, .p I6 a0.f_Index] [.p U6 a0.f_Set] [.p (.list (.named 4)) a0.f_Kids] (v := .p U6 a0.f_Set) rfl rfl ty_26 o0 rfl rfl rfl rfl (.data (.one _ _)))) (.cons (sok_run rfl rfl hc12 (caV (rs := [(55, .p U6 a0.f_Set)]) (vw := []) rfl rfl (.func _) hb_29 (class_Set_Empty.ok O hO k a0.f_Set v13 hv13) (.cons o0 .nil) (.cons (.same _) .nil) (by simp) (.inl rfl))) (.cons (sok_run rfl rfl hc12 (sok_not (U := Un) (rs := [(56, .p .bool v13)]) rfl rfl o0)) (.cons (pkT (rs := [(53, .p .bool ((a0.f_Kind != 1) : Bool)), (57, .p .bool ((!v13) : Bool))]) rfl rfl o0 hc12 o1) (.cons (mvA (v := .p .bool ((!v13) : Bool)) rfl rfl) .nil)))))))))) (by kernel_rfl) (by kernel_rfl) (by kernel_rfl) (cvR _) ?_
                  refine tnU ?_
                  exact ⟨(!v13), h, rfl⟩
                · replace h := ite_f hc12 h
                  refine rgU (st1 := ⟨[(1, .loc 1 0), (49, .p .bool false)], [(1, .box [.p I6 a0.f_Kind, .p I6 a0.f_Index, .p U6 a0.f_Set, .p (.list (.named 4)) a0.f_Kids])]⟩) [1, 49] [1] hN (.cons (fdB (rs := [(1, .loc 1 0)]) rfl rfl fd_32_0 (by decide) o0) (.cons (ldB (t := .int .i64) (rs := [(50, .loc 1 0)]) [] [.p I6 a0.f_Kind] [.p I6 a0.f_Index, .p U6 a0.f_Set, .p (.list (.named 4)) a0.f_Kids] (v := .p I6 a0.f_Kind) rfl rfl ty_3 o0 rfl rfl rfl rfl (.data (.one _ _))) (.cons (cmU (rs := [(51, .p I6 a0.f_Kind)]) rfl rfl o0 (.int _ _ _) rfl) (.cons (mvU (v := .p .bool ((a0.f_Kind != 1) : Bool)) rfl rfl) (.cons (skU rfl rfl hc12) (.cons (skU rfl rfl hc12) (.cons (skU rfl rfl hc12) (.cons (skU rfl rfl hc12) (.cons (pkF (rs := [(53, .p .bool ((a0.f_Kind != 1) : Bool))]) rfl rfl o0 hc12 (.bool _ _)) (.cons (mvA (v := .p .bool false) rfl rfl) .nil)))))))))) (by kernel_rfl) (by kernel_rfl) (by kernel_rfl) (cvR _) ?_
                  refine tnU ?_
                  exact ⟨false, h, rfl⟩
              · rintro _ ⟨v9, h, rfl⟩
                unfold prog_Right.j11 at h
                refine cdU (b := v9) o1 (fun hc10 => ?_) (fun hc10 => ?_)
                · replace h := ite_t hc10 h
                  refine WpC.seq ?_
                  refine rgU (st1 := ⟨[(2, .p .bool false)], []⟩) [2] [] hN (.cons (moU (rs := []) rfl (.inr rfl) (.bool _ _)) .nil) (by kernel_rfl) (by kernel_rfl) (by kernel_rfl) (cvR _) ?_
                  refine tnU ?_
                  refine WpC.ret ?_
                  refine blockQ_ret ?_
                  refine thenQ_ret ?_
                  have hq := Option.some.inj h
                  subst hq
                  exact ends_ret (retV_1 rfl (.head _)) ain_nil
                · replace h := ite_f hc10 h
                  refine WpC.conv (cvK (b := ⟨[(1, .loc 1 0)], [(1, .box [.p I6 a0.f_Kind, .p I6 a0.f_Index, .p U6 a0.f_Set, .p (.list (.named 4)) a0.f_Kids])]⟩) [1] [1] (by kernel_rfl)) (WpC.skip ?_)
                  refine blockQ_normal ?_
                  refine tnU ?_
                  exact ⟨h, rfl⟩
    · rintro _ ⟨h, rfl⟩
      unfold prog_Right.j4 at h
      refine WpC.seq ?_
      refine rgU (st1 := ⟨[(1, .loc 1 0), (6, .clo 51 [])], [(1, .box [.p I6 a0.f_Kind, .p I6 a0.f_Index, .p U6 a0.f_Set, .p (.list (.named 4)) a0.f_Kids])]⟩) [1, 6] [1] hN (.cons (moU (rs := []) rfl (.inr rfl) (.func _ _)) .nil) (by kernel_rfl) (by kernel_rfl) (by kernel_rfl) (cvR _) ?_
      refine tnU ?_
      refine WpC.seq ?_
      obtain ⟨v3, hv3, h⟩ := bind_some h
      refine rgU (st1 := ⟨[(2, .p .bool ((!v3) : Bool))], []⟩) [2] [] hN (.cons (fdB (rs := [(1, .loc 1 0)]) rfl rfl fd_32_3 (by decide) o0) (.cons (ldB (t := .list (.named 4)) (rs := [(59, .loc 1 6)]) [.p I6 a0.f_Kind, .p I6 a0.f_Index, .p U6 a0.f_Set] [.p (.list (.named 4)) a0.f_Kids] [] (v := .p (.list (.named 4)) a0.f_Kids) rfl rfl ty_30 o0 rfl rfl rfl rfl (.data (.one _ _))) (.cons (mvU (v := .clo 51 []) rfl rfl) (.cons (caV (rs := [(60, .p (.list (.named 4)) a0.f_Kids), (61, .clo 51 [])]) (vw := []) rfl rfl (.func _) hb_52 (hrf_rex_Node_m0 a0.f_Kids v3 hv3) (.cons o0 (.cons o1 .nil)) (.cons (.same _) (.cons (.same _) .nil)) (by simp) (.inl rfl)) (.cons (sok_not (U := Un) (rs := [(62, .p .bool v3)]) rfl rfl o0) (.cons (mvA (v := .p .bool ((!v3) : Bool)) rfl rfl) .nil)))))) (by kernel_rfl) (by kernel_rfl) (by kernel_rfl) (cvR _) ?_
      refine tnU ?_
      refine WpC.ret ?_
      have hq := Option.some.inj h
      subst hq
      exact ends_ret (retV_1 rfl (.head _)) ain_nil

theorem scc_prog_Right.ok (O : Out) (hO : GOkA O) : ∀ k : Nat, (∀ (a0 : T_rex_Node) (out : Bool), prog_Right_1.f k a0 = some out → COk Un O Tryd.prog 51 { ar := [.p (.named 4) a0], r := .p .bool out }) ∧ (∀ (a0 : List T_rex_Node) (out : Int), rex_Node_74_m0.f k a0 = some out → COk Un O Tryd.prog 74 { ar := [.p (.list (.named 4)) a0, .clo 51 []], r := .p (.int .i64) out }) ∧ (∀ (a0 : List T_rex_Node) (out : Bool), rex_Node_m0.f k a0 = some out → COk Un O Tryd.prog 52 { ar := [.p (.list (.named 4)) a0, .clo 51 []], r := .p .bool out }) ∧ (∀ (a0 : T_rex_Node) (out : Bool), prog_Right.f k a0 = some out → COk Un O Tryd.prog 16 { ar := [.p (.named 4) a0], r := .p .bool out }) := by
  intro k
  induction k with
  | zero => exact ⟨fun a0 out h => (by have h2 : (none : Option Bool) = some out := h; cases h2), fun a0 out h => (by have h2 : (none : Option Int) = some out := h; cases h2), fun a0 out h => (by have h2 : (none : Option Bool) = some out := h; cases h2), fun a0 out h => (by have h2 : (none : Option Bool) = some out := h; cases h2)⟩
  | succ k ih => exact ⟨fun a0 out h => prog_Right_1.bok O hO k _ ih.2.2.2 a0 out h, fun a0 out h => rex_Node_74_m0.bok O hO k _ ih.1 a0 out h, fun a0 out h => rex_Node_m0.bok O hO k _ ih.2.1 a0 out h, fun a0 out h => prog_Right.bok O hO k _ ih.2.2.1 a0 out h⟩
theorem prog_Right_1.ok (O : Out) (hO : GOkA O) (k : Nat) (a0 : T_rex_Node) (out : Bool) (h : prog_Right_1.f k a0 = some out) : COk Un O Tryd.prog 51 { ar := [.p (.named 4) a0], r := .p .bool out } := (scc_prog_Right.ok O hO k).1 a0 out h
theorem rex_Node_74_m0.ok (O : Out) (hO : GOkA O) (k : Nat) (a0 : List T_rex_Node) (out : Int) (h : rex_Node_74_m0.f k a0 = some out) : COk Un O Tryd.prog 74 { ar := [.p (.list (.named 4)) a0, .clo 51 []], r := .p (.int .i64) out } := (scc_prog_Right.ok O hO k).2.1 a0 out h
theorem rex_Node_m0.ok (O : Out) (hO : GOkA O) (k : Nat) (a0 : List T_rex_Node) (out : Bool) (h : rex_Node_m0.f k a0 = some out) : COk Un O Tryd.prog 52 { ar := [.p (.list (.named 4)) a0, .clo 51 []], r := .p .bool out } := (scc_prog_Right.ok O hO k).2.2.1 a0 out h
theorem prog_Right.ok (O : Out) (hO : GOkA O) (k : Nat) (a0 : T_rex_Node) (out : Bool) (h : prog_Right.f k a0 = some out) : COk Un O Tryd.prog 16 { ar := [.p (.named 4) a0], r := .p .bool out } := (scc_prog_Right.ok O hO k).2.2.2 a0 out h

end Go.Proofs.YthmbbdemecljpaaDoor
