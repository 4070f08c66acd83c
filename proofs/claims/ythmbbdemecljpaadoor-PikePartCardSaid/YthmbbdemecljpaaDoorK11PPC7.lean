/- A part of the proof of a given law: PPC7. Own work, printed in part by a program of mine. -/
import Derived.Test.YthmbbdemecljpaaDoorK11PPC6
namespace Go.Proofs.YthmbbdemecljpaaDoor
open Go Go.AM
set_option linter.unusedVariables false
set_option linter.unusedSimpArgs false
set_option maxRecDepth 100000
theorem pike_Part.ok (O : Out) (hO : GOkA O) (k : Nat) (a0 : List UInt8) (a1 : List Int) (a2 : Int) (out : List UInt8) (h : pike_Part.f k a0 a1 a2 = some out) : COk Un O Tryd.prog 44 { ar := [.p .str a0, .p (.list I6) a1, .p I6 a2], r := .p .str out } := by
  refine cok_of_wp Tryd.func44 rfl (k := 46) rfl (Nat.le_of_ble_eq_true rfl) (namesOk_pure rfl rfl rfl rfl) ?_
  intro B hN
  refine WpC.conv (cvK (b := ⟨[(0, .p .str a0), (1, .p (.list I6) a1), (2, .p I6 a2)], []⟩) [0, 1, 2] [] (by kernel_rfl)) ?_
  unfold pike_Part.f at h
  refine WpC.seq ?_
  refine rgU (st1 := ⟨[(0, .p .str a0), (1, .p (.list I6) a1), (2, .p I6 a2)], []⟩) [0, 1, 2] [] hN (.cons (moU (rs := []) rfl (.inr rfl) (.str _ _)) .nil) (by kernel_rfl) (by kernel_rfl) (by kernel_rfl) (cvR _) ?_
  refine tnU ?_
  refine sqJ (fun st' => pike_Part.j10 k a0 a1 a2 = some out ∧ st' = ⟨[(0, .p .str a0), (1, .p (.list I6) a1), (2, .p I6 a2)], []⟩) ?_ ?_
  · refine sqJ (fun st' => ∃ v11 : Bool, pike_Part.j13 k a0 a1 a2 v11 = some out ∧ st' = ⟨[(0, .p .str a0), (1, .p (.list I6) a1), (2, .p I6 a2), (17, .p .bool v11)], []⟩) ?_ ?_
    · rcases bool_cases (decide (a2 < 0)) with hc14 | hc14
      · replace h := ite_t hc14 h
        refine rgU (st1 := ⟨[(0, .p .str a0), (1, .p (.list I6) a1), (2, .p I6 a2), (17, .p .bool true)], []⟩) [0, 1, 2, 17] [] hN (.cons (mvU (v := .p I6 a2) rfl rfl) (.cons (cmU (rs := [(9, .p I6 a2)]) rfl rfl o0 (.int _ _ _) rfl) (.cons (mvU (v := .p .bool ((decide (a2 < 0)) : Bool)) rfl rfl) (.cons (skU rfl rfl hc14) (.cons (skU rfl rfl hc14) (.cons (skU rfl rfl hc14) (.cons (skU rfl rfl hc14) (.cons (skU rfl rfl hc14) (.cons (pkT (rs := [(11, .p .bool ((decide (a2 < 0)) : Bool))]) rfl rfl o0 hc14 (.bool _ _)) .nil))))))))) (by kernel_rfl) (by kernel_rfl) (by kernel_rfl) (cvR _) ?_
        refine tnU ?_
        exact ⟨true, h, rfl⟩
      · replace h := ite_f hc14 h
        obtain ⟨g15, h⟩ := if_some h
        refine rgU (st1 := ⟨[(0, .p .str a0), (1, .p (.list I6) a1), (2, .p I6 a2), (17, .p .bool ((decide (a2 ≥ (IntKind.i64.wrap (Int.tdiv (a1.length : Int) 2)))) : Bool))], []⟩) [0, 1, 2, 17] [] hN (.cons (mvU (v := .p I6 a2) rfl rfl) (.cons (cmU (rs := [(9, .p I6 a2)]) rfl rfl o0 (.int _ _ _) rfl) (.cons (mvU (v := .p .bool ((decide (a2 < 0)) : Bool)) rfl rfl) (.cons (sok_run rfl rfl hc14 (mvU (v := .p I6 a2) rfl rfl)) (.cons (sok_run rfl rfl hc14 (mvU (v := .p (.list I6) a1) rfl rfl)) (.cons (sok_run rfl rfl hc14 (sok_lenL (U := Un) (rs := [(13, .p (.list I6) a1)]) rfl rfl Tryd.underlying35 o0)) (.cons (sok_run rfl rfl hc14 (sok_quo (U := Un) (rs := [(14, .p I6 ((a1.length : Int) : Int))]) rfl rfl o0 (.int _ _ _) g15)) (.cons (sok_run rfl rfl hc14 (cmU (rs := [(12, .p I6 a2), (15, .p I6 ((IntKind.i64.wrap (Int.tdiv (a1.length : Int) 2)) : Int))]) rfl rfl o0 o1 rfl)) (.cons (pkF (rs := [(11, .p .bool ((decide (a2 < 0)) : Bool)), (16, .p .bool ((decide (a2 ≥ (IntKind.i64.wrap (Int.tdiv (a1.length : Int) 2)))) : Bool))]) rfl rfl o0 hc14 o1) .nil))))))))) (by kernel_rfl) (by kernel_rfl) (by kernel_rfl) (cvR _) ?_
        refine tnU ?_
        exact ⟨(decide (a2 ≥ (IntKind.i64.wrap (Int.tdiv (a1.length : Int) 2)))), h, rfl⟩
    · rintro _ ⟨v11, h, rfl⟩
      unfold pike_Part.j13 at h
      refine cdU (b := v11) (.tmp (.tail _ (.tail _ (.tail _ (.head _))))) (fun hc12 => ?_) (fun hc12 => ?_)
      · replace h := ite_t hc12 h
        refine WpC.seq ?_
        refine rgU (st1 := ⟨[(6, .p .str (([] : List UInt8) : List UInt8))], []⟩) [6] [] hN (.cons (moU (rs := []) rfl (.inr rfl) (.str _ _)) .nil) (by kernel_rfl) (by kernel_rfl) (by kernel_rfl) (cvR _) ?_
        refine tnU ?_
        refine WpC.ret ?_
        refine thenQ_ret ?_
        have hq := Option.some.inj h
        subst hq
        exact ends_ret (retV_1 rfl (.head _)) ain_nil
      · replace h := ite_f hc12 h
        refine WpC.conv (cvK (b := ⟨[(0, .p .str a0), (1, .p (.list I6) a1), (2, .p I6 a2)], []⟩) [0, 1, 2] [] (by kernel_rfl)) (WpC.skip ?_)
        refine tnU ?_
        exact ⟨h, rfl⟩
  · rintro _ ⟨h, rfl⟩
    unfold pike_Part.j10 at h
    refine WpC.seq ?_
    obtain ⟨v1, hv1, h⟩ := bind_some h
    obtain ⟨v2, hv2, h⟩ := bind_some h
    refine WpC.regA (U := Un) (st1 := ⟨[(0, .p .str a0), (7, .p I6 v1), (8, .p I6 v2)], []⟩) [0, 7, 8] [] [[], [], [1], [0, 1, 2], [0, 1, 2, 3], [], [], [6], [6, 7], [5, 6, 7, 8], [5, 6, 7, 8, 9], [0, 1, 2, 3, 4], [0, 1, 2, 3, 4, 5, 6, 7, 8, 9, 10, 11]] mixed hN (.cons (mvU (v := .p (.list I6) a1) rfl rfl) (.cons (mvU (v := .p I6 a2) rfl rfl) (.cons (sok_arith (U := Un) (rs := [(19, .p I6 a2)]) rfl rfl (.int _ _ _) o0 rfl) (.cons (sok_indexL (U := Un) (rs := [(18, .p (.list I6) a1), (20, .p I6 ((IntKind.i64.wrap (2 * a2)) : Int))]) rfl rfl sl_35 o0 o1 hv1) (.cons (sok_loadP (U := Un) (rs := [(21, .pp I6 v1)]) rfl rfl ty_3 o0) (.cons (mvU (v := .p (.list I6) a1) rfl rfl) (.cons (mvU (v := .p I6 a2) rfl rfl) (.cons (sok_arith (U := Un) (rs := [(24, .p I6 a2)]) rfl rfl (.int _ _ _) o0 rfl) (.cons (sok_arith (U := Un) (rs := [(25, .p I6 ((IntKind.i64.wrap (2 * a2)) : Int))]) rfl rfl o0 (.int _ _ _) rfl) (.cons (sok_indexL (U := Un) (rs := [(23, .p (.list I6) a1), (26, .p I6 ((IntKind.i64.wrap ((IntKind.i64.wrap (2 * a2)) + 1)) : Int))]) rfl rfl sl_35 o0 o1 hv2) (.cons (sok_loadP (U := Un) (rs := [(27, .pp I6 v2)]) rfl rfl ty_3 o0) (.cons (mvA (v := .p I6 v1) rfl rfl) (.cons (mvA (v := .p I6 v2) rfl rfl) .nil))))))))))))) (by kernel_rfl) (by kernel_rfl) (by kernel_rfl) (by kernel_rfl) (by kernel_rfl) (cvR _) ?_
    refine tnU ?_
    refine sqJ (fun st' => pike_Part.j4 k a0 v1 v2 = some out ∧ st' = ⟨[(0, .p .str a0), (7, .p I6 v1), (8, .p I6 v2)], []⟩) ?_ ?_
    · refine sqJ (fun st' => ∃ v5 : Bool, pike_Part.j7 k a0 v1 v2 v5 = some out ∧ st' = ⟨[(0, .p .str a0), (7, .p I6 v1), (8, .p I6 v2), (41, .p .bool v5)], []⟩) ?_ ?_
      · rcases bool_cases (decide (v1 < 0)) with hc8 | hc8
        · replace h := ite_t hc8 h
          refine rgU (st1 := ⟨[(0, .p .str a0), (7, .p I6 v1), (8, .p I6 v2), (41, .p .bool true)], []⟩) [0, 7, 8, 41] [] hN (.cons (mvU (v := .p I6 v1) rfl rfl) (.cons (cmU (rs := [(29, .p I6 v1)]) rfl rfl o0 (.int _ _ _) rfl) (.cons (mvU (v := .p .bool ((decide (v1 < 0)) : Bool)) rfl rfl) (.cons (skU rfl rfl hc8) (.cons (skU rfl rfl hc8) (.cons (skU rfl rfl hc8) (.cons (pkT (rs := [(31, .p .bool ((decide (v1 < 0)) : Bool))]) rfl rfl o0 hc8 (.bool _ _)) (.cons (mvU (v := .p .bool true) rfl rfl) (.cons (skU rfl rfl rfl) (.cons (skU rfl rfl rfl) (.cons (skU rfl rfl rfl) (.cons (skU rfl rfl rfl) (.cons (pkT (rs := [(36, .p .bool true)]) rfl rfl o0 rfl (.bool _ _)) .nil))))))))))))) (by kernel_rfl) (by kernel_rfl) (by kernel_rfl) (cvR _) ?_
          refine tnU ?_
          exact ⟨true, h, rfl⟩
        · replace h := ite_f hc8 h
          rcases bool_cases (decide (v1 > v2)) with hc9 | hc9
          · replace h := ite_t hc9 h
            refine rgU (st1 := ⟨[(0, .p .str a0), (7, .p I6 v1), (8, .p I6 v2), (41, .p .bool true)], []⟩) [0, 7, 8, 41] [] hN (.cons (mvU (v := .p I6 v1) rfl rfl) (.cons (cmU (rs := [(29, .p I6 v1)]) rfl rfl o0 (.int _ _ _) rfl) (.cons (mvU (v := .p .bool ((decide (v1 < 0)) : Bool)) rfl rfl) (.cons (sok_run rfl rfl hc8 (mvU (v := .p I6 v1) rfl rfl)) (.cons (sok_run rfl rfl hc8 (mvU (v := .p I6 v2) rfl rfl)) (.cons (sok_run rfl rfl hc8 (cmU (rs := [(32, .p I6 v1), (33, .p I6 v2)]) rfl rfl o0 o1 rfl)) (.cons (pkF (rs := [(31, .p .bool ((decide (v1 < 0)) : Bool)), (34, .p .bool ((decide (v1 > v2)) : Bool))]) rfl rfl o0 hc8 o1) (.cons (mvU (v := .p .bool ((decide (v1 > v2)) : Bool)) rfl rfl) (.cons (skU rfl rfl hc9) (.cons (skU rfl rfl hc9) (.cons (skU rfl rfl hc9) (.cons (skU rfl rfl hc9) (.cons (pkT (rs := [(36, .p .bool ((decide (v1 > v2)) : Bool))]) rfl rfl o0 hc9 (.bool _ _)) .nil))))))))))))) (by kernel_rfl) (by kernel_rfl) (by kernel_rfl) (cvR _) ?_
            refine tnU ?_
            exact ⟨true, h, rfl⟩
          · replace h := ite_f hc9 h
            refine rgU (st1 := ⟨[(0, .p .str a0), (7, .p I6 v1), (8, .p I6 v2), (41, .p .bool ((decide (v2 > (a0.length : Int))) : Bool))], []⟩) [0, 7, 8, 41] [] hN (.cons (mvU (v := .p I6 v1) rfl rfl) (.cons (cmU (rs := [(29, .p I6 v1)]) rfl rfl o0 (.int _ _ _) rfl) (.cons (mvU (v := .p .bool ((decide (v1 < 0)) : Bool)) rfl rfl) (.cons (sok_run rfl rfl hc8 (mvU (v := .p I6 v1) rfl rfl)) (.cons (sok_run rfl rfl hc8 (mvU (v := .p I6 v2) rfl rfl)) (.cons (sok_run rfl rfl hc8 (cmU (rs := [(32, .p I6 v1), (33, .p I6 v2)]) rfl rfl o0 o1 rfl)) (.cons (pkF (rs := [(31, .p .bool ((decide (v1 < 0)) : Bool)), (34, .p .bool ((decide (v1 > v2)) : Bool))]) rfl rfl o0 hc8 o1) (.cons (mvU (v := .p .bool ((decide (v1 > v2)) : Bool)) rfl rfl) (.cons (sok_run rfl rfl hc9 (mvU (v := .p I6 v2) rfl rfl)) (.cons (sok_run rfl rfl hc9 (mvU (v := .p .str a0) rfl rfl)) (.cons (sok_run rfl rfl hc9 (sok_lenS (U := Un) (rs := [(38, .p .str a0)]) rfl rfl Tryd.underlying9 o0)) (.cons (sok_run rfl rfl hc9 (cmU (rs := [(37, .p I6 v2), (39, .p I6 ((a0.length : Int) : Int))]) rfl rfl o0 o1 rfl)) (.cons (pkF (rs := [(36, .p .bool ((decide (v1 > v2)) : Bool)), (40, .p .bool ((decide (v2 > (a0.length : Int))) : Bool))]) rfl rfl o0 hc9 o1) .nil))))))))))))) (by kernel_rfl) (by kernel_rfl) (by kernel_rfl) (cvR _) ?_
            refine tnU ?_
            exact ⟨(decide (v2 > (a0.length : Int))), h, rfl⟩
      · rintro _ ⟨v5, h, rfl⟩
        unfold pike_Part.j7 at h
        refine cdU (b := v5) (.tmp (.tail _ (.tail _ (.tail _ (.head _))))) (fun hc6 => ?_) (fun hc6 => ?_)
        · replace h := ite_t hc6 h
          refine WpC.seq ?_
          refine rgU (st1 := ⟨[(6, .p .str (([] : List UInt8) : List UInt8))], []⟩) [6] [] hN (.cons (moU (rs := []) rfl (.inr rfl) (.str _ _)) .nil) (by kernel_rfl) (by kernel_rfl) (by kernel_rfl) (cvR _) ?_
          refine tnU ?_
          refine WpC.ret ?_
          refine thenQ_ret ?_
          have hq := Option.some.inj h
          subst hq
          exact ends_ret (retV_1 rfl (.head _)) ain_nil
        · replace h := ite_f hc6 h
          refine WpC.conv (cvK (b := ⟨[(0, .p .str a0), (7, .p I6 v1), (8, .p I6 v2)], []⟩) [0, 7, 8] [] (by kernel_rfl)) (WpC.skip ?_)
          refine tnU ?_
          exact ⟨h, rfl⟩
    · rintro _ ⟨h, rfl⟩
      unfold pike_Part.j4 at h
      refine WpC.seq ?_
      obtain ⟨v3, hv3, h⟩ := bind_some h
      refine rgU (st1 := ⟨[(6, .p .str v3)], []⟩) [6] [] hN (.cons (mvU (v := .p .str a0) rfl rfl) (.cons (mvU (v := .p I6 v1) rfl rfl) (.cons (mvU (v := .p I6 v2) rfl rfl) (.cons (sok_sliceS (U := Un) (rs := [(42, .p .str a0), (43, .p I6 v1), (44, .p I6 v2)]) rfl rfl Tryd.underlying9 o0 (.at o1) (.at (.tmp (.tail _ (.tail _ (.head _))))) hv3) (.cons (mvA (v := .p .str v3) rfl rfl) .nil))))) (by kernel_rfl) (by kernel_rfl) (by kernel_rfl) (cvR _) ?_
      refine tnU ?_
      refine WpC.ret ?_
      have hq := Option.some.inj h
      subst hq
      exact ends_ret (retV_1 rfl (.head _)) ain_nil

theorem pike_Parts.ok (O : Out) (hO : GOkA O) (k : Nat) (a0 : List UInt8) (a1 : List UInt8) (out : (List (List UInt8)) × Bool × Nat) (h : pike_Parts.f k a0 a1 = some out) : COk Un O Tryd.prog 69 { ar := [.p .str a0, .p .str a1], r := .tup [.p (.list .str) out.1, .p .bool out.2.1, .p .err out.2.2] } := by
  refine cok_of_wp Tryd.func69 rfl (k := 41) rfl (Nat.le_of_ble_eq_true rfl) (namesOk_pure rfl rfl rfl rfl) ?_
  intro B hN
  refine WpC.conv (cvK (b := ⟨[(0, .p .str a0), (1, .p .str a1)], []⟩) [0, 1] [] (by kernel_rfl)) ?_
  unfold pike_Parts.f at h
  refine WpC.seq ?_
  refine rgU (st1 := ⟨[(0, .p .str a0), (1, .p .str a1)], []⟩) [0, 1] [] hN (.cons (moU (rs := []) rfl (.inr rfl) (.lit _ _ rfl)) (.cons (moU (rs := []) rfl (.inr rfl) (.bool _ _)) (.cons (moU (rs := []) rfl (.inr rfl) (.lit _ _ rfl)) .nil))) (by kernel_rfl) (by kernel_rfl) (by kernel_rfl) (cvR _) ?_
  refine tnU ?_
  refine WpC.seq ?_
  obtain ⟨v1, hv1, h⟩ := bind_some h
  refine rgU (st1 := ⟨[(1, .p .str a1), (7, .p (.list (.named 3)) v1.1), (8, .p .err v1.2)], []⟩) [1, 7, 8] [] hN (.cons (mvU (v := .p .str a0) rfl rfl) (.cons (caV (rs := [(14, .p .str a0)]) (vw := []) rfl rfl (.func _) hb_32 (prog_Of.ok O hO k a0 v1 hv1) (.cons o0 .nil) (.cons (.same _) .nil) (by simp) (.inl rfl)) (.cons (mvU (v := .tup [.p (.list (.named 3)) v1.1, .p .err v1.2]) rfl rfl) (.cons (exU (rs := [(13, .tup [.p (.list (.named 3)) v1.1, .p .err v1.2])]) rfl rfl o0 rfl) (.cons (exU (rs := [(13, .tup [.p (.list (.named 3)) v1.1, .p .err v1.2])]) rfl rfl o0 rfl) (.cons (mvA (v := .p (.list (.named 3)) v1.1) rfl rfl) (.cons (mvA (v := .p .err v1.2) rfl rfl) .nil))))))) (by kernel_rfl) (by kernel_rfl) (by kernel_rfl) (cvR _) ?_
  refine tnU ?_
  refine WpC.seq ?_
  refine WpC.seq ?_
  refine rgU (st1 := ⟨[(1, .p .str a1), (7, .p (.list (.named 3)) v1.1), (8, .p .err v1.2), (19, .p .bool ((!(v1.2 == 0)) : Bool))], []⟩) [1, 7, 8, 19] [] hN (.cons (mvU (v := .p .err v1.2) rfl rfl) (.cons (sok_errNil (U := Un) (rs := [(18, .p .err v1.2)]) rfl rfl Tryd.underlying54 o0 rfl) .nil)) (by kernel_rfl) (by kernel_rfl) (by kernel_rfl) (cvR _) ?_
  refine tnU ?_
  refine cdU (b := (!(v1.2 == 0))) (.tmp (.tail _ (.tail _ (.tail _ (.head _))))) (fun hc2 => ?_) (fun hc2 => ?_)
  · replace h := ite_t hc2 h
    refine WpC.seq ?_
    refine rgU (st1 := ⟨[(4, .lit (.slice none 0 0)), (5, .p .bool false), (6, .p .err v1.2)], []⟩) [4, 5, 6] [] hN (.cons (mvU (v := .p .err v1.2) rfl rfl) (.cons (moU (rs := []) rfl (.inr rfl) (.lit _ _ rfl)) (.cons (moU (rs := []) rfl (.inr rfl) (.bool _ _)) (.cons (mvA (v := .p .err v1.2) rfl rfl) .nil)))) (by kernel_rfl) (by kernel_rfl) (by kernel_rfl) (cvR _) ?_
    refine tnU ?_
    refine WpC.conv (cvT (Conv.nilL (U := Un) 4 .str (.head _)) (cvK (b := ⟨[(4, .p (.list .str) ([] : List (List UInt8))), (5, .p .bool false), (6, .p .err v1.2)], []⟩) [4, 5, 6] [] (by kernel_rfl))) (WpC.ret ?_)
    refine thenQ_ret ?_
    have hq := Option.some.inj h
    subst hq
    exact ends_ret (retV_3 rfl (.head _) (.tail _ (.head _)) (.tail _ (.tail _ (.head _)))) ain_nil
  · replace h := ite_f hc2 h
    refine WpC.conv (cvK (b := ⟨[(1, .p .str a1), (7, .p (.list (.named 3)) v1.1)], []⟩) [1, 7] [] (by kernel_rfl)) (WpC.skip ?_)
    refine tnU ?_
    refine WpC.seq ?_
    obtain ⟨v3, hv3, h⟩ := bind_some h
    refine rgU (st1 := ⟨[(1, .p .str a1), (9, .p (.list I6) v3.1), (10, .p .bool v3.2)], []⟩) [1, 9, 10] [] hN (.cons (mvU (v := .p (.list (.named 3)) v1.1) rfl rfl) (.cons (mvU (v := .p .str a1) rfl rfl) (.cons (caV (rs := [(22, .p (.list (.named 3)) v1.1), (23, .p .str a1)]) (vw := []) rfl rfl (.func _) hb_41 (pike_Match.ok O hO k v1.1 a1 v3 hv3) (.cons o0 (.cons o1 .nil)) (.cons (.same _) (.cons (.same _) .nil)) (by simp) (.inl rfl)) (.cons (mvU (v := .tup [.p (.list I6) v3.1, .p .bool v3.2]) rfl rfl) (.cons (exU (rs := [(21, .tup [.p (.list I6) v3.1, .p .bool v3.2])]) rfl rfl o0 rfl) (.cons (exU (rs := [(21, .tup [.p (.list I6) v3.1, .p .bool v3.2])]) rfl rfl o0 rfl) (.cons (mvA (v := .p (.list I6) v3.1) rfl rfl) (.cons (mvA (v := .p .bool v3.2) rfl rfl) .nil)))))))) (by kernel_rfl) (by kernel_rfl) (by kernel_rfl) (cvR _) ?_
    refine tnU ?_
    refine WpC.seq ?_
    refine WpC.seq ?_
    refine rgU (st1 := ⟨[(1, .p .str a1), (9, .p (.list I6) v3.1), (28, .p .bool ((!v3.2) : Bool))], []⟩) [1, 9, 28] [] hN (.cons (mvU (v := .p .bool v3.2) rfl rfl) (.cons (sok_not (U := Un) (rs := [(27, .p .bool v3.2)]) rfl rfl o0) .nil)) (by kernel_rfl) (by kernel_rfl) (by kernel_rfl) (cvR _) ?_
    refine tnU ?_
    refine cdU (b := (!v3.2)) (.tmp (.tail _ (.tail _ (.head _)))) (fun hc4 => ?_) (fun hc4 => ?_)
    · replace h := ite_t hc4 h
      refine WpC.seq ?_
      refine rgU (st1 := ⟨[(4, .lit (.slice none 0 0)), (5, .p .bool false), (6, .lit .nilIface)], []⟩) [4, 5, 6] [] hN (.cons (moU (rs := []) rfl (.inr rfl) (.lit _ _ rfl)) (.cons (moU (rs := []) rfl (.inr rfl) (.bool _ _)) (.cons (moU (rs := []) rfl (.inr rfl) (.lit _ _ rfl)) .nil))) (by kernel_rfl) (by kernel_rfl) (by kernel_rfl) (cvR _) ?_
      refine tnU ?_
      refine WpC.conv (cvT (Conv.nilL (U := Un) 4 .str (.head _)) (cvT (cvK (b := ⟨[(4, .p (.list .str) ([] : List (List UInt8))), (5, .p .bool false), (6, .lit .nilIface)], []⟩) [4, 5, 6] [] (by kernel_rfl)) (cvT (Conv.nilE (U := Un) 6 (.tail _ (.tail _ (.head _)))) (cvK (b := ⟨[(4, .p (.list .str) ([] : List (List UInt8))), (5, .p .bool false), (6, .p .err (0 : Nat))], []⟩) [4, 5, 6] [] (by kernel_rfl))))) (WpC.ret ?_)
      refine thenQ_ret ?_
      have hq := Option.some.inj h
      subst hq
      exact ends_ret (retV_3 rfl (.head _) (.tail _ (.head _)) (.tail _ (.tail _ (.head _)))) ain_nil
    · replace h := ite_f hc4 h
      refine WpC.conv (cvK (b := ⟨[(1, .p .str a1), (9, .p (.list I6) v3.1)], []⟩) [1, 9] [] (by kernel_rfl)) (WpC.skip ?_)
      refine tnU ?_
      refine WpC.seq ?_
      refine rgU (st1 := ⟨[(1, .p .str a1), (9, .p (.list I6) v3.1), (11, .lit (.slice none 0 0))], []⟩) [1, 9, 11] [] hN (.cons (moU (rs := []) rfl (.inr rfl) (.lit _ _ rfl)) .nil) (by kernel_rfl) (by kernel_rfl) (by kernel_rfl) (cvR _) ?_
      refine tnU ?_
      refine sqJ (fun st' => ∃ v5 : List (List UInt8), pike_Parts.j6 k v5 = some out ∧ st' = ⟨[(11, .vec 1011 1 0 v5.length)], [(1011, .row 9 .str v5 false)]⟩) ?_ ?_
      · refine WpC.seq ?_
        refine rgU (st1 := ⟨[(1, .p .str a1), (9, .p (.list I6) v3.1), (11, .lit (.slice none 0 0)), (29, .p I6 (0 : Int))], []⟩) [1, 9, 11, 29] [] hN (.cons (moU (rs := []) rfl (.inl rfl) (.int _ _ _)) .nil) (by kernel_rfl) (by kernel_rfl) (by kernel_rfl) (cvR _) ?_
        refine tnU ?_
        refine WpC.block ?_
        obtain ⟨o11, hlo11, h⟩ := bind_some h
        have hout12 := h
        clear h
        refine WpC.conv (cvT (Conv.thaw (U := Un) 11 1011 9 .str (.tail _ (.tail _ (.head _))) (by kernel_rfl) (by unfold K0; omega)) (cvK (b := ⟨[(1, .p .str a1), (9, .p (.list I6) v3.1), (11, .vec 1011 1 0 0), (29, .p I6 (0 : Int))], [(1011, .row 9 .str [] false)]⟩) [1, 9, 11, 29] [1011] (by kernel_rfl))) ?_
        refine WpC.loop (U := Un) (fun n st' => ∃ v7 : List (List UInt8), ∃ v8 : Int, pike_Parts.l9 k a1 v3 n v7 v8 = some o11 ∧ st' = ⟨[(1, .p .str a1), (9, .p (.list I6) v3.1), (11, .vec 1011 1 0 v7.length), (29, .p I6 v8)], [(1011, .row 9 .str v7 false)]⟩) k ⟨[], 0, hlo11, rfl⟩ ?_
        clear hlo11
        rintro (_ | n) _ ⟨v7, v8, h, rfl⟩
        · cases h
        · rw [pike_Parts.l9] at h
          refine WpC.seq ?_
          refine rgU (st1 := ⟨[(1, .p .str a1), (9, .p (.list I6) v3.1), (11, .vec 1011 1 0 v7.length), (29, .p I6 v8), (30, .p .bool ((decide (v8 < 10)) : Bool))], [(1011, .row 9 .str v7 false)]⟩) [1, 9, 11, 29, 30] [1011] hN (.cons (cmU (rs := [(29, .p I6 v8)]) rfl rfl o0 (.int _ _ _) rfl) .nil) (by kernel_rfl) (by kernel_rfl) (by kernel_rfl) (cvR _) ?_
          refine tnU ?_
          refine WpC.seq ?_
          refine cdU (b := (decide (v8 < 10))) (.tmp (.tail _ (.tail _ (.tail _ (.tail _ (.head _)))))) (fun hc13 => ?_) (fun hc13 => ?_)
          · replace h := ite_t hc13 h
            refine WpC.conv (cvK (b := ⟨[(1, .p .str a1), (9, .p (.list I6) v3.1), (11, .vec 1011 1 0 v7.length), (29, .p I6 v8)], [(1011, .row 9 .str v7 false)]⟩) [1, 9, 11, 29] [1011] (by kernel_rfl)) (WpC.skip ?_)
            refine tnU ?_
            refine WpC.seq ?_
            refine WpC.block ?_
            refine WpC.seq ?_
            refine rgU (st1 := ⟨[(1, .p .str a1), (9, .p (.list I6) v3.1), (11, .vec 1011 1 0 v7.length), (12, .p I6 v8), (29, .p I6 v8)], [(1011, .row 9 .str v7 false)]⟩) [1, 9, 11, 12, 29] [1011] hN (.cons (mvU (v := .p I6 v8) rfl rfl) (.cons (mvA (v := .p I6 v8) rfl rfl) .nil)) (by kernel_rfl) (by kernel_rfl) (by kernel_rfl) (cvR _) ?_
            refine tnU ?_
            obtain ⟨v14, hv14, h⟩ := bind_some h
            obtain ⟨g15, h⟩ := if_some h
            refine rgU (st1 := ⟨[(1, .p .str a1), (9, .p (.list I6) v3.1), (11, .vec 38 1 0 ((v7 ++ [v14]).length)), (29, .p I6 v8)], [(38, .row 9 .str (v7 ++ [v14]) false)]⟩) [1, 9, 11, 29] [38] hN (.cons (mvU (v := .vec 1011 1 0 v7.length) rfl rfl) (.cons (mvU (v := .p .str a1) rfl rfl) (.cons (mvU (v := .p (.list I6) v3.1) rfl rfl) (.cons (mvU (v := .p I6 v8) rfl rfl) (.cons (caV (rs := [(33, .p .str a1), (34, .p (.list I6) v3.1), (35, .p I6 v8)]) (vw := []) rfl rfl (.func _) hb_44 (pike_Part.ok O hO k a1 v3.1 v8 v14 hv14) (.cons o0 (.cons o1 (.cons (.tmp (.tail _ (.tail _ (.head _)))) .nil))) (.cons (.same _) (.cons (.same _) (.cons (.same _) .nil))) (by simp) (.inl rfl)) (.cons (sok_buildSlice (U := Un) (t := .str) (rs := [(36, .p .str v14)]) (ys := [.tmp 36]) (xs := [v14]) rfl rfl rfl rfl row_108 (.cons o0 .nil) (by decide)) (.cons (sok_append' (U := Un) (t := .str) (rs := [(32, .vec 1011 1 0 v7.length), (37, .vec 37 1 0 ([v14].length))]) (vw := [(37, .row 9 .str [v14] true)]) (xs := v7) (ys := [v14]) (fx := false) rfl rfl rfl row_108 (by decide) o0 o1 (.whole (.head _)) (by simp) g15) (.cons (mvA (v := .vec 38 1 0 ((v7 ++ [v14]).length)) rfl rfl) .nil)))))))) (by kernel_rfl) (by kernel_rfl) (by kernel_rfl) (cvR _) ?_
            refine blockQ_normal ?_
            refine tnU ?_
            refine rgU (st1 := ⟨[(1, .p .str a1), (9, .p (.list I6) v3.1), (11, .vec 38 1 0 ((v7 ++ [v14]).length)), (29, .p I6 ((IntKind.i64.wrap (v8 + 1)) : Int))], [(38, .row 9 .str (v7 ++ [v14]) false)]⟩) [1, 9, 11, 29] [38] hN (.cons (sok_arith (U := Un) (rs := [(29, .p I6 v8)]) rfl rfl o0 (.int _ _ _) rfl) (.cons (mvU (v := .p I6 ((IntKind.i64.wrap (v8 + 1)) : Int)) rfl rfl) .nil)) (by kernel_rfl) (by kernel_rfl) (by kernel_rfl) (cvT (Conv.ren (U := Un) (st' := ⟨[(1, .p .str a1), (9, .p (.list I6) v3.1), (11, .vec 1011 1 0 ((v7 ++ [v14]).length)), (29, .p I6 ((IntKind.i64.wrap (v8 + 1)) : Int))], [(1011, .row 9 .str (v7 ++ [v14]) false)]⟩) 38 1011 (by unfold K0; omega) (by kernel_rfl) (by kernel_rfl) (by kernel_rfl)) (cvK (b := ⟨[(1, .p .str a1), (9, .p (.list I6) v3.1), (11, .vec 1011 1 0 ((v7 ++ [v14]).length)), (29, .p I6 ((IntKind.i64.wrap (v8 + 1)) : Int))], [(1011, .row 9 .str (v7 ++ [v14]) false)]⟩) [1, 9, 11, 29] [1011] (by kernel_rfl))) ?_
            refine tnU ?_
            exact ⟨n, Nat.lt_succ_self n, (v7 ++ [v14]), (IntKind.i64.wrap (v8 + 1)), h, rfl⟩
          · replace h := ite_f hc13 h
            refine WpC.conv (cvK (b := ⟨[(11, .vec 1011 1 0 v7.length)], [(1011, .row 9 .str v7 false)]⟩) [11] [1011] (by kernel_rfl)) (WpC.exit ?_)
            refine thenQ_exit ?_
            have hq := Option.some.inj h
            subst hq
            refine thenQ_exit ?_
            have h := hout12
            refine blockQ_hit ?_
            refine tnU ?_
            exact ⟨v7, h, rfl⟩
      · rintro _ ⟨v5, h, rfl⟩
        unfold pike_Parts.j6 at h
        refine WpC.seq ?_
        refine rgU (st1 := ⟨[(4, .vec 1011 1 0 v5.length), (5, .p .bool true), (6, .lit .nilIface)], [(1011, .row 9 .str v5 false)]⟩) [4, 5, 6] [1011] hN (.cons (mvU (v := .vec 1011 1 0 v5.length) rfl rfl) (.cons (mvA (v := .vec 1011 1 0 v5.length) rfl rfl) (.cons (moU (rs := []) rfl (.inr rfl) (.bool _ _)) (.cons (moU (rs := []) rfl (.inr rfl) (.lit _ _ rfl)) .nil)))) (by kernel_rfl) (by kernel_rfl) (by kernel_rfl) (cvR _) ?_
        refine tnU ?_
        refine WpC.conv (cvT (Conv.freeze (U := Un) 4 1011 9 _ .str v5 false (.head _) (by first | rfl | (simp only [upd_length, List.length_replicate, List.length_append]; done) | (simp only [upd_length, List.length_replicate, List.length_append] at *; omega) | omega) (.head _) (by first | (simp [Blk.names]; done) | (simp [Blk.names, AVal.namesL, AVal.names]; done) | (simp [Blk.names]; decide))) (cvT (cvK (b := ⟨[(4, .p (.list .str) v5), (5, .p .bool true), (6, .lit .nilIface)], []⟩) [4, 5, 6] [] (by kernel_rfl)) (cvT (Conv.nilE (U := Un) 6 (.tail _ (.tail _ (.head _)))) (cvK (b := ⟨[(4, .p (.list .str) v5), (5, .p .bool true), (6, .p .err (0 : Nat))], []⟩) [4, 5, 6] [] (by kernel_rfl))))) (WpC.ret ?_)
        have hq := Option.some.inj h
        subst hq
        exact ends_ret (retV_3 rfl (.head _) (.tail _ (.head _)) (.tail _ (.tail _ (.head _)))) ain_nil

theorem millwrightlaw09_alive.ok (O : Out) (hO : GOkA O) (k : Nat) (out : Bool) (h : millwrightlaw09_alive.f k = some out) : COk Un O Tryd.prog 40 { ar := [], r := .p .bool out } := by
  refine cok_of_wp Tryd.func40 rfl (k := 31) rfl (Nat.le_of_ble_eq_true rfl) (namesOk_pure rfl rfl rfl rfl) ?_
  intro B hN
  refine WpC.conv (cvK (b := ⟨[], []⟩) [] [] (by kernel_rfl)) ?_
  unfold millwrightlaw09_alive.f at h
  refine WpC.seq ?_
  refine rgU (st1 := ⟨[], []⟩) [] [] hN (.cons (moU (rs := []) rfl (.inr rfl) (.bool _ _)) .nil) (by kernel_rfl) (by kernel_rfl) (by kernel_rfl) (cvR _) ?_
  refine tnU ?_
  refine WpC.seq ?_
  obtain ⟨v1, hv1, h⟩ := bind_some h
  refine rgU (st1 := ⟨[(1, .p (.list .str) v1.1), (2, .p .bool v1.2.1), (3, .p .err v1.2.2)], []⟩) [1, 2, 3] [] hN (.cons (caV (rs := []) (vw := []) rfl rfl (.func _) hb_69 (pike_Parts.ok O hO k ([40, 97, 42, 41, 98] : List UInt8) ([97, 97, 98] : List UInt8) v1 hv1) (.cons (.str _ _) (.cons (.str _ _) .nil)) (.cons (.same _) (.cons (.same _) .nil)) (by simp) (.inl rfl)) (.cons (mvU (v := .tup [.p (.list .str) v1.1, .p .bool v1.2.1, .p .err v1.2.2]) rfl rfl) (.cons (exU (rs := [(4, .tup [.p (.list .str) v1.1, .p .bool v1.2.1, .p .err v1.2.2])]) rfl rfl o0 rfl) (.cons (exU (rs := [(4, .tup [.p (.list .str) v1.1, .p .bool v1.2.1, .p .err v1.2.2])]) rfl rfl o0 rfl) (.cons (exU (rs := [(4, .tup [.p (.list .str) v1.1, .p .bool v1.2.1, .p .err v1.2.2])]) rfl rfl o0 rfl) (.cons (mvA (v := .p (.list .str) v1.1) rfl rfl) (.cons (mvA (v := .p .bool v1.2.1) rfl rfl) (.cons (mvA (v := .p .err v1.2.2) rfl rfl) .nil)))))))) (by kernel_rfl) (by kernel_rfl) (by kernel_rfl) (cvR _) ?_
  refine tnU ?_
  refine WpC.seq ?_
  rcases bool_cases (v1.2.2 == 0) with hc2 | hc2
  · replace h := ite_t hc2 h
    rcases bool_cases v1.2.1 with hc3 | hc3
    · replace h := ite_t hc3 h
      rcases bool_cases ((v1.1.length : Int) == 10) with hc4 | hc4
      · replace h := ite_t hc4 h
        obtain ⟨v5, hv5, h⟩ := bind_some h
        rcases bool_cases (v5 == ([97, 97, 98] : List UInt8)) with hc6 | hc6
        · replace h := ite_t hc6 h
          obtain ⟨v7, hv7, h⟩ := bind_some h
          refine rgU (st1 := ⟨[(0, .p .bool ((v7 == ([97, 97] : List UInt8)) : Bool))], []⟩) [0] [] hN (.cons (mvU (v := .p .err v1.2.2) rfl rfl) (.cons (sok_errNil (U := Un) (rs := [(9, .p .err v1.2.2)]) rfl rfl Tryd.underlying54 o0 rfl) (.cons (mvU (v := .p .bool ((v1.2.2 == 0) : Bool)) rfl rfl) (.cons (sok_run rfl rfl hc2 (mvU (v := .p .bool v1.2.1) rfl rfl)) (.cons (pkT (rs := [(11, .p .bool ((v1.2.2 == 0) : Bool)), (12, .p .bool v1.2.1)]) rfl rfl o0 hc2 o1) (.cons (mvU (v := .p .bool v1.2.1) rfl rfl) (.cons (sok_run rfl rfl hc3 (mvU (v := .p (.list .str) v1.1) rfl rfl)) (.cons (sok_run rfl rfl hc3 (sok_lenL (U := Un) (rs := [(15, .p (.list .str) v1.1)]) rfl rfl Tryd.underlying108 o0)) (.cons (sok_run rfl rfl hc3 (cmU (rs := [(16, .p I6 ((v1.1.length : Int) : Int))]) rfl rfl o0 (.int _ _ _) rfl)) (.cons (pkT (rs := [(14, .p .bool v1.2.1), (17, .p .bool (((v1.1.length : Int) == 10) : Bool))]) rfl rfl o0 hc3 o1) (.cons (mvU (v := .p .bool (((v1.1.length : Int) == 10) : Bool)) rfl rfl) (.cons (sok_run rfl rfl hc4 (mvU (v := .p (.list .str) v1.1) rfl rfl)) (.cons (sok_run rfl rfl hc4 (sok_indexL (U := Un) (rs := [(20, .p (.list .str) v1.1)]) rfl rfl sl_108 o0 (.int _ _ _) hv5)) (.cons (sok_run rfl rfl hc4 (sok_loadP (U := Un) (rs := [(21, .pp .str v5)]) rfl rfl ty_9 o0)) (.cons (sok_run rfl rfl hc4 (sok_cmpS (U := Un) (rs := [(22, .p .str v5)]) rfl rfl o0 (.str _ _) rfl)) (.cons (pkT (rs := [(19, .p .bool (((v1.1.length : Int) == 10) : Bool)), (23, .p .bool ((v5 == ([97, 97, 98] : List UInt8)) : Bool))]) rfl rfl o0 hc4 o1) (.cons (mvU (v := .p .bool ((v5 == ([97, 97, 98] : List UInt8)) : Bool)) rfl rfl) (.cons (sok_run rfl rfl hc6 (mvU (v := .p (.list .str) v1.1) rfl rfl)) (.cons (sok_run rfl rfl hc6 (sok_indexL (U := Un) (rs := [(26, .p (.list .str) v1.1)]) rfl rfl sl_108 o0 (.int _ _ _) hv7)) (.cons (sok_run rfl rfl hc6 (sok_loadP (U := Un) (rs := [(27, .pp .str v7)]) rfl rfl ty_9 o0)) (.cons (sok_run rfl rfl hc6 (sok_cmpS (U := Un) (rs := [(28, .p .str v7)]) rfl rfl o0 (.str _ _) rfl)) (.cons (pkT (rs := [(25, .p .bool ((v5 == ([97, 97, 98] : List UInt8)) : Bool)), (29, .p .bool ((v7 == ([97, 97] : List UInt8)) : Bool))]) rfl rfl o0 hc6 o1) (.cons (mvA (v := .p .bool ((v7 == ([97, 97] : List UInt8)) : Bool)) rfl rfl) .nil))))))))))))))))))))))) (by kernel_rfl) (by kernel_rfl) (by kernel_rfl) (cvR _) ?_
          refine tnU ?_
          refine WpC.ret ?_
          have hq := Option.some.inj h
          subst hq
          exact ends_ret (retV_1 rfl (.head _)) ain_nil
        · replace h := ite_f hc6 h
          refine rgU (st1 := ⟨[(0, .p .bool false)], []⟩) [0] [] hN (.cons (mvU (v := .p .err v1.2.2) rfl rfl) (.cons (sok_errNil (U := Un) (rs := [(9, .p .err v1.2.2)]) rfl rfl Tryd.underlying54 o0 rfl) (.cons (mvU (v := .p .bool ((v1.2.2 == 0) : Bool)) rfl rfl) (.cons (sok_run rfl rfl hc2 (mvU (v := .p .bool v1.2.1) rfl rfl)) (.cons (pkT (rs := [(11, .p .bool ((v1.2.2 == 0) : Bool)), (12, .p .bool v1.2.1)]) rfl rfl o0 hc2 o1) (.cons (mvU (v := .p .bool v1.2.1) rfl rfl) (.cons (sok_run rfl rfl hc3 (mvU (v := .p (.list .str) v1.1) rfl rfl)) (.cons (sok_run rfl rfl hc3 (sok_lenL (U := Un) (rs := [(15, .p (.list .str) v1.1)]) rfl rfl Tryd.underlying108 o0)) (.cons (sok_run rfl rfl hc3 (cmU (rs := [(16, .p I6 ((v1.1.length : Int) : Int))]) rfl rfl o0 (.int _ _ _) rfl)) (.cons (pkT (rs := [(14, .p .bool v1.2.1), (17, .p .bool (((v1.1.length : Int) == 10) : Bool))]) rfl rfl o0 hc3 o1) (.cons (mvU (v := .p .bool (((v1.1.length : Int) == 10) : Bool)) rfl rfl) (.cons (sok_run rfl rfl hc4 (mvU (v := .p (.list .str) v1.1) rfl rfl)) (.cons (sok_run rfl rfl hc4 (sok_indexL (U := Un) (rs := [(20, .p (.list .str) v1.1)]) rfl rfl sl_108 o0 (.int _ _ _) hv5)) (.cons (sok_run rfl rfl hc4 (sok_loadP (U := Un) (rs := [(21, .pp .str v5)]) rfl rfl ty_9 o0)) (.cons (sok_run rfl rfl hc4 (sok_cmpS (U := Un) (rs := [(22, .p .str v5)]) rfl rfl o0 (.str _ _) rfl)) (.cons (pkT (rs := [(19, .p .bool (((v1.1.length : Int) == 10) : Bool)), (23, .p .bool ((v5 == ([97, 97, 98] : List UInt8)) : Bool))]) rfl rfl o0 hc4 o1) (.cons (mvU (v := .p .bool ((v5 == ([97, 97, 98] : List UInt8)) : Bool)) rfl rfl) (.cons (skU rfl rfl hc6) (.cons (skU rfl rfl hc6) (.cons (skU rfl rfl hc6) (.cons (skU rfl rfl hc6) (.cons (pkF (rs := [(25, .p .bool ((v5 == ([97, 97, 98] : List UInt8)) : Bool))]) rfl rfl o0 hc6 (.bool _ _)) (.cons (mvA (v := .p .bool false) rfl rfl) .nil))))))))))))))))))))))) (by kernel_rfl) (by kernel_rfl) (by kernel_rfl) (cvR _) ?_
          refine tnU ?_
          refine WpC.ret ?_
          have hq := Option.some.inj h
          subst hq
          exact ends_ret (retV_1 rfl (.head _)) ain_nil
      · replace h := ite_f hc4 h
        refine rgU (st1 := ⟨[(0, .p .bool false)], []⟩) [0] [] hN (.cons (mvU (v := .p .err v1.2.2) rfl rfl) (.cons (sok_errNil (U := Un) (rs := [(9, .p .err v1.2.2)]) rfl rfl Tryd.underlying54 o0 rfl) (.cons (mvU (v := .p .bool ((v1.2.2 == 0) : Bool)) rfl rfl) (.cons (sok_run rfl rfl hc2 (mvU (v := .p .bool v1.2.1) rfl rfl)) (.cons (pkT (rs := [(11, .p .bool ((v1.2.2 == 0) : Bool)), (12, .p .bool v1.2.1)]) rfl rfl o0 hc2 o1) (.cons (mvU (v := .p .bool v1.2.1) rfl rfl) (.cons (sok_run rfl rfl hc3 (mvU (v := .p (.list .str) v1.1) rfl rfl)) (.cons (sok_run rfl rfl hc3 (sok_lenL (U := Un) (rs := [(15, .p (.list .str) v1.1)]) rfl rfl Tryd.underlying108 o0)) (.cons (sok_run rfl rfl hc3 (cmU (rs := [(16, .p I6 ((v1.1.length : Int) : Int))]) rfl rfl o0 (.int _ _ _) rfl)) (.cons (pkT (rs := [(14, .p .bool v1.2.1), (17, .p .bool (((v1.1.length : Int) == 10) : Bool))]) rfl rfl o0 hc3 o1) (.cons (mvU (v := .p .bool (((v1.1.length : Int) == 10) : Bool)) rfl rfl) (.cons (skU rfl rfl hc4) (.cons (skU rfl rfl hc4) (.cons (skU rfl rfl hc4) (.cons (skU rfl rfl hc4) (.cons (pkF (rs := [(19, .p .bool (((v1.1.length : Int) == 10) : Bool))]) rfl rfl o0 hc4 (.bool _ _)) (.cons (mvU (v := .p .bool false) rfl rfl) (.cons (skU rfl rfl rfl) (.cons (skU rfl rfl rfl) (.cons (skU rfl rfl rfl) (.cons (skU rfl rfl rfl) (.cons (pkF (rs := [(25, .p .bool false)]) rfl rfl o0 rfl (.bool _ _)) (.cons (mvA (v := .p .bool false) rfl rfl) .nil))))))))))))))))))))))) (by kernel_rfl) (by kernel_rfl) (by kernel_rfl) (cvR _) ?_
        refine tnU ?_
        refine WpC.ret ?_
        have hq := Option.some.inj h
        subst hq
        exact ends_ret (retV_1 rfl (.head _)) ain_nil
    · replace h := ite_f hc3 h
      refine rgU (st1 := ⟨[(0, .p .bool false)], []⟩) [0] [] hN (.cons (mvU (v := .p .err v1.2.2) rfl rfl) (.cons (sok_errNil (U := Un) (rs := [(9, .p .err v1.2.2)]) rfl rfl Tryd.underlying54 o0 rfl) (.cons (mvU (v := .p .bool ((v1.2.2 == 0) : Bool)) rfl rfl) (.cons (sok_run rfl rfl hc2 (mvU (v := .p .bool v1.2.1) rfl rfl)) (.cons (pkT (rs := [(11, .p .bool ((v1.2.2 == 0) : Bool)), (12, .p .bool v1.2.1)]) rfl rfl o0 hc2 o1) (.cons (mvU (v := .p .bool v1.2.1) rfl rfl) (.cons (skU rfl rfl hc3) (.cons (skU rfl rfl hc3) (.cons (skU rfl rfl hc3) (.cons (pkF (rs := [(14, .p .bool v1.2.1)]) rfl rfl o0 hc3 (.bool _ _)) (.cons (mvU (v := .p .bool false) rfl rfl) (.cons (skU rfl rfl rfl) (.cons (skU rfl rfl rfl) (.cons (skU rfl rfl rfl) (.cons (skU rfl rfl rfl) (.cons (pkF (rs := [(19, .p .bool false)]) rfl rfl o0 rfl (.bool _ _)) (.cons (mvU (v := .p .bool false) rfl rfl) (.cons (skU rfl rfl rfl) (.cons (skU rfl rfl rfl) (.cons (skU rfl rfl rfl) (.cons (skU rfl rfl rfl) (.cons (pkF (rs := [(25, .p .bool false)]) rfl rfl o0 rfl (.bool _ _)) (.cons (mvA (v := .p .bool false) rfl rfl) .nil))))))))))))))))))))))) (by kernel_rfl) (by kernel_rfl) (by kernel_rfl) (cvR _) ?_
      refine tnU ?_
      refine WpC.ret ?_
      have hq := Option.some.inj h
      subst hq
      exact ends_ret (retV_1 rfl (.head _)) ain_nil
  · replace h := ite_f hc2 h
    refine rgU (st1 := ⟨[(0, .p .bool false)], []⟩) [0] [] hN (.cons (mvU (v := .p .err v1.2.2) rfl rfl) (.cons (sok_errNil (U := Un) (rs := [(9, .p .err v1.2.2)]) rfl rfl Tryd.underlying54 o0 rfl) (.cons (mvU (v := .p .bool ((v1.2.2 == 0) : Bool)) rfl rfl) (.cons (skU rfl rfl hc2) (.cons (pkF (rs := [(11, .p .bool ((v1.2.2 == 0) : Bool))]) rfl rfl o0 hc2 (.bool _ _)) (.cons (mvU (v := .p .bool false) rfl rfl) (.cons (skU rfl rfl rfl) (.cons (skU rfl rfl rfl) (.cons (skU rfl rfl rfl) (.cons (pkF (rs := [(14, .p .bool false)]) rfl rfl o0 rfl (.bool _ _)) (.cons (mvU (v := .p .bool false) rfl rfl) (.cons (skU rfl rfl rfl) (.cons (skU rfl rfl rfl) (.cons (skU rfl rfl rfl) (.cons (skU rfl rfl rfl) (.cons (pkF (rs := [(19, .p .bool false)]) rfl rfl o0 rfl (.bool _ _)) (.cons (mvU (v := .p .bool false) rfl rfl) (.cons (skU rfl rfl rfl) (.cons (skU rfl rfl rfl) (.cons (skU rfl rfl rfl) (.cons (skU rfl rfl rfl) (.cons (pkF (rs := [(25, .p .bool false)]) rfl rfl o0 rfl (.bool _ _)) (.cons (mvA (v := .p .bool false) rfl rfl) .nil))))))))))))))))))))))) (by kernel_rfl) (by kernel_rfl) (by kernel_rfl) (cvR _) ?_
    refine tnU ?_
    refine WpC.ret ?_
    have hq := Option.some.inj h
    subst hq
    exact ends_ret (retV_1 rfl (.head _)) ain_nil

theorem millwrightlaw09_PikePart.ok (O : Out) (hO : GOkA O) (k : Nat) (a0 : List UInt8) (a1 : List Int) (a2 : Int) (out : Bool) (h : millwrightlaw09_PikePart.f k a0 a1 a2 = some out) : COk Un O Tryd.prog 10 { ar := [.p .str a0, .p (.list I6) a1, .p I6 a2], r := .p .bool out } := by
  refine cok_of_wp Tryd.func10 rfl (k := 67) rfl (Nat.le_of_ble_eq_true rfl) (namesOk_pure rfl rfl rfl rfl) ?_
  intro B hN
  refine WpC.conv (cvK (b := ⟨[(0, .p .str a0), (1, .p (.list I6) a1), (2, .p I6 a2)], []⟩) [0, 1, 2] [] (by kernel_rfl)) ?_
  unfold millwrightlaw09_PikePart.f at h
  refine WpC.seq ?_
  refine rgU (st1 := ⟨[(0, .p .str a0), (1, .p (.list I6) a1), (2, .p I6 a2)], []⟩) [0, 1, 2] [] hN (.cons (moU (rs := []) rfl (.inr rfl) (.bool _ _)) .nil) (by kernel_rfl) (by kernel_rfl) (by kernel_rfl) (cvR _) ?_
  refine tnU ?_
  refine WpC.seq ?_
  refine WpC.seq ?_
  obtain ⟨v1, hv1, h⟩ := bind_some h
  refine rgU (st1 := ⟨[(0, .p .str a0), (1, .p (.list I6) a1), (2, .p I6 a2), (11, .p .bool ((!v1) : Bool))], []⟩) [0, 1, 2, 11] [] hN (.cons (caV (rs := []) (vw := []) rfl rfl (.func _) hb_40 (millwrightlaw09_alive.ok O hO k v1 hv1) .nil .nil (by simp) (.inl rfl)) (.cons (sok_not (U := Un) (rs := [(10, .p .bool v1)]) rfl rfl o0) .nil)) (by kernel_rfl) (by kernel_rfl) (by kernel_rfl) (cvR _) ?_
  refine tnU ?_
  refine cdU (b := (!v1)) (.tmp (.tail _ (.tail _ (.tail _ (.head _))))) (fun hc2 => ?_) (fun hc2 => ?_)
  · replace h := ite_t hc2 h
    refine WpC.seq ?_
    refine rgU (st1 := ⟨[(6, .p .bool false)], []⟩) [6] [] hN (.cons (moU (rs := []) rfl (.inr rfl) (.bool _ _)) .nil) (by kernel_rfl) (by kernel_rfl) (by kernel_rfl) (cvR _) ?_
    refine tnU ?_
    refine WpC.ret ?_
    refine thenQ_ret ?_
    have hq := Option.some.inj h
    subst hq
    exact ends_ret (retV_1 rfl (.head _)) ain_nil
  · replace h := ite_f hc2 h
    refine WpC.conv (cvK (b := ⟨[(0, .p .str a0), (1, .p (.list I6) a1), (2, .p I6 a2)], []⟩) [0, 1, 2] [] (by kernel_rfl)) (WpC.skip ?_)
    refine tnU ?_
    refine sqJ (fun st' => millwrightlaw09_PikePart.j19 k a0 a1 a2 = some out ∧ st' = ⟨[(0, .p .str a0), (1, .p (.list I6) a1), (2, .p I6 a2)], []⟩) ?_ ?_
    · refine sqJ (fun st' => ∃ v20 : Bool, millwrightlaw09_PikePart.j22 k a0 a1 a2 v20 = some out ∧ st' = ⟨[(0, .p .str a0), (1, .p (.list I6) a1), (2, .p I6 a2), (19, .p .bool v20)], []⟩) ?_ ?_
      · rcases bool_cases (decide ((a0.length : Int) > 60)) with hc23 | hc23
        · replace h := ite_t hc23 h
          refine rgU (st1 := ⟨[(0, .p .str a0), (1, .p (.list I6) a1), (2, .p I6 a2), (19, .p .bool true)], []⟩) [0, 1, 2, 19] [] hN (.cons (mvU (v := .p .str a0) rfl rfl) (.cons (sok_lenS (U := Un) (rs := [(12, .p .str a0)]) rfl rfl Tryd.underlying9 o0) (.cons (cmU (rs := [(13, .p I6 ((a0.length : Int) : Int))]) rfl rfl o0 (.int _ _ _) rfl) (.cons (mvU (v := .p .bool ((decide ((a0.length : Int) > 60)) : Bool)) rfl rfl) (.cons (skU rfl rfl hc23) (.cons (skU rfl rfl hc23) (.cons (skU rfl rfl hc23) (.cons (pkT (rs := [(15, .p .bool ((decide ((a0.length : Int) > 60)) : Bool))]) rfl rfl o0 hc23 (.bool _ _)) .nil)))))))) (by kernel_rfl) (by kernel_rfl) (by kernel_rfl) (cvR _) ?_
          refine tnU ?_
          exact ⟨true, h, rfl⟩
        · replace h := ite_f hc23 h
          refine rgU (st1 := ⟨[(0, .p .str a0), (1, .p (.list I6) a1), (2, .p I6 a2), (19, .p .bool ((decide ((a1.length : Int) > 40)) : Bool))], []⟩) [0, 1, 2, 19] [] hN (.cons (mvU (v := .p .str a0) rfl rfl) (.cons (sok_lenS (U := Un) (rs := [(12, .p .str a0)]) rfl rfl Tryd.underlying9 o0) (.cons (cmU (rs := [(13, .p I6 ((a0.length : Int) : Int))]) rfl rfl o0 (.int _ _ _) rfl) (.cons (mvU (v := .p .bool ((decide ((a0.length : Int) > 60)) : Bool)) rfl rfl) (.cons (sok_run rfl rfl hc23 (mvU (v := .p (.list I6) a1) rfl rfl)) (.cons (sok_run rfl rfl hc23 (sok_lenL (U := Un) (rs := [(16, .p (.list I6) a1)]) rfl rfl Tryd.underlying35 o0)) (.cons (sok_run rfl rfl hc23 (cmU (rs := [(17, .p I6 ((a1.length : Int) : Int))]) rfl rfl o0 (.int _ _ _) rfl)) (.cons (pkF (rs := [(15, .p .bool ((decide ((a0.length : Int) > 60)) : Bool)), (18, .p .bool ((decide ((a1.length : Int) > 40)) : Bool))]) rfl rfl o0 hc23 o1) .nil)))))))) (by kernel_rfl) (by kernel_rfl) (by kernel_rfl) (cvR _) ?_
          refine tnU ?_
          exact ⟨(decide ((a1.length : Int) > 40)), h, rfl⟩
      · rintro _ ⟨v20, h, rfl⟩
        unfold millwrightlaw09_PikePart.j22 at h
        refine cdU (b := v20) (.tmp (.tail _ (.tail _ (.tail _ (.head _))))) (fun hc21 => ?_) (fun hc21 => ?_)
        · replace h := ite_t hc21 h
          refine WpC.seq ?_
          refine rgU (st1 := ⟨[(6, .p .bool true)], []⟩) [6] [] hN (.cons (moU (rs := []) rfl (.inr rfl) (.bool _ _)) .nil) (by kernel_rfl) (by kernel_rfl) (by kernel_rfl) (cvR _) ?_
          refine tnU ?_
          refine WpC.ret ?_
          refine thenQ_ret ?_
          have hq := Option.some.inj h
          subst hq
          exact ends_ret (retV_1 rfl (.head _)) ain_nil
        · replace h := ite_f hc21 h
          refine WpC.conv (cvK (b := ⟨[(0, .p .str a0), (1, .p (.list I6) a1), (2, .p I6 a2)], []⟩) [0, 1, 2] [] (by kernel_rfl)) (WpC.skip ?_)
          refine tnU ?_
          exact ⟨h, rfl⟩
    · rintro _ ⟨h, rfl⟩
      unfold millwrightlaw09_PikePart.j19 at h
      refine WpC.seq ?_
      obtain ⟨v3, hv3, h⟩ := bind_some h
      refine rgU (st1 := ⟨[(0, .p .str a0), (1, .p (.list I6) a1), (2, .p I6 a2), (7, .p .str v3)], []⟩) [0, 1, 2, 7] [] hN (.cons (mvU (v := .p .str a0) rfl rfl) (.cons (mvU (v := .p (.list I6) a1) rfl rfl) (.cons (mvU (v := .p I6 a2) rfl rfl) (.cons (caV (rs := [(20, .p .str a0), (21, .p (.list I6) a1), (22, .p I6 a2)]) (vw := []) rfl rfl (.func _) hb_44 (pike_Part.ok O hO k a0 a1 a2 v3 hv3) (.cons o0 (.cons o1 (.cons (.tmp (.tail _ (.tail _ (.head _)))) .nil))) (.cons (.same _) (.cons (.same _) (.cons (.same _) .nil))) (by simp) (.inl rfl)) (.cons (mvA (v := .p .str v3) rfl rfl) .nil))))) (by kernel_rfl) (by kernel_rfl) (by kernel_rfl) (cvR _) ?_
      refine tnU ?_
      refine sqJ (fun st' => millwrightlaw09_PikePart.j13 k a0 a1 a2 v3 = some out ∧ st' = ⟨[(0, .p .str a0), (1, .p (.list I6) a1), (2, .p I6 a2), (7, .p .str v3)], []⟩) ?_ ?_
      · refine sqJ (fun st' => ∃ v14 : Bool, millwrightlaw09_PikePart.j16 k a0 a1 a2 v3 v14 = some out ∧ st' = ⟨[(0, .p .str a0), (1, .p (.list I6) a1), (2, .p I6 a2), (7, .p .str v3), (32, .p .bool v14)], []⟩) ?_ ?_
        · rcases bool_cases (decide (a2 < 0)) with hc17 | hc17
          · replace h := ite_t hc17 h
            refine rgU (st1 := ⟨[(0, .p .str a0), (1, .p (.list I6) a1), (2, .p I6 a2), (7, .p .str v3), (32, .p .bool true)], []⟩) [0, 1, 2, 7, 32] [] hN (.cons (mvU (v := .p I6 a2) rfl rfl) (.cons (cmU (rs := [(24, .p I6 a2)]) rfl rfl o0 (.int _ _ _) rfl) (.cons (mvU (v := .p .bool ((decide (a2 < 0)) : Bool)) rfl rfl) (.cons (skU rfl rfl hc17) (.cons (skU rfl rfl hc17) (.cons (skU rfl rfl hc17) (.cons (skU rfl rfl hc17) (.cons (skU rfl rfl hc17) (.cons (pkT (rs := [(26, .p .bool ((decide (a2 < 0)) : Bool))]) rfl rfl o0 hc17 (.bool _ _)) .nil))))))))) (by kernel_rfl) (by kernel_rfl) (by kernel_rfl) (cvR _) ?_
            refine tnU ?_
            exact ⟨true, h, rfl⟩
          · replace h := ite_f hc17 h
            obtain ⟨g18, h⟩ := if_some h
            refine rgU (st1 := ⟨[(0, .p .str a0), (1, .p (.list I6) a1), (2, .p I6 a2), (7, .p .str v3), (32, .p .bool ((decide (a2 ≥ (IntKind.i64.wrap (Int.tdiv (a1.length : Int) 2)))) : Bool))], []⟩) [0, 1, 2, 7, 32] [] hN (.cons (mvU (v := .p I6 a2) rfl rfl) (.cons (cmU (rs := [(24, .p I6 a2)]) rfl rfl o0 (.int _ _ _) rfl) (.cons (mvU (v := .p .bool ((decide (a2 < 0)) : Bool)) rfl rfl) (.cons (sok_run rfl rfl hc17 (mvU (v := .p I6 a2) rfl rfl)) (.cons (sok_run rfl rfl hc17 (mvU (v := .p (.list I6) a1) rfl rfl)) (.cons (sok_run rfl rfl hc17 (sok_lenL (U := Un) (rs := [(28, .p (.list I6) a1)]) rfl rfl Tryd.underlying35 o0)) (.cons (sok_run rfl rfl hc17 (sok_quo (U := Un) (rs := [(29, .p I6 ((a1.length : Int) : Int))]) rfl rfl o0 (.int _ _ _) g18)) (.cons (sok_run rfl rfl hc17 (cmU (rs := [(27, .p I6 a2), (30, .p I6 ((IntKind.i64.wrap (Int.tdiv (a1.length : Int) 2)) : Int))]) rfl rfl o0 o1 rfl)) (.cons (pkF (rs := [(26, .p .bool ((decide (a2 < 0)) : Bool)), (31, .p .bool ((decide (a2 ≥ (IntKind.i64.wrap (Int.tdiv (a1.length : Int) 2)))) : Bool))]) rfl rfl o0 hc17 o1) .nil))))))))) (by kernel_rfl) (by kernel_rfl) (by kernel_rfl) (cvR _) ?_
            refine tnU ?_
            exact ⟨(decide (a2 ≥ (IntKind.i64.wrap (Int.tdiv (a1.length : Int) 2)))), h, rfl⟩
        · rintro _ ⟨v14, h, rfl⟩
          unfold millwrightlaw09_PikePart.j16 at h
          refine cdU (b := v14) (.tmp (.tail _ (.tail _ (.tail _ (.tail _ (.head _)))))) (fun hc15 => ?_) (fun hc15 => ?_)
          · replace h := ite_t hc15 h
            refine WpC.seq ?_
            refine rgU (st1 := ⟨[(6, .p .bool ((v3 == ([] : List UInt8)) : Bool))], []⟩) [6] [] hN (.cons (mvU (v := .p .str v3) rfl rfl) (.cons (sok_cmpS (U := Un) (rs := [(33, .p .str v3)]) rfl rfl o0 (.str _ _) rfl) (.cons (mvA (v := .p .bool ((v3 == ([] : List UInt8)) : Bool)) rfl rfl) .nil))) (by kernel_rfl) (by kernel_rfl) (by kernel_rfl) (cvR _) ?_
            refine tnU ?_
            refine WpC.ret ?_
            refine thenQ_ret ?_
            have hq := Option.some.inj h
            subst hq
            exact ends_ret (retV_1 rfl (.head _)) ain_nil
          · replace h := ite_f hc15 h
            refine WpC.conv (cvK (b := ⟨[(0, .p .str a0), (1, .p (.list I6) a1), (2, .p I6 a2), (7, .p .str v3)], []⟩) [0, 1, 2, 7] [] (by kernel_rfl)) (WpC.skip ?_)
            refine tnU ?_
            exact ⟨h, rfl⟩
      · rintro _ ⟨h, rfl⟩
        unfold millwrightlaw09_PikePart.j13 at h
        refine WpC.seq ?_
        obtain ⟨v4, hv4, h⟩ := bind_some h
        obtain ⟨v5, hv5, h⟩ := bind_some h
        refine WpC.regA (U := Un) (st1 := ⟨[(0, .p .str a0), (7, .p .str v3), (8, .p I6 v4), (9, .p I6 v5)], []⟩) [0, 7, 8, 9] [] [[], [], [1], [0, 1, 2], [0, 1, 2, 3], [], [], [6], [6, 7], [5, 6, 7, 8], [5, 6, 7, 8, 9], [0, 1, 2, 3, 4], [0, 1, 2, 3, 4, 5, 6, 7, 8, 9, 10, 11]] mixed hN (.cons (mvU (v := .p (.list I6) a1) rfl rfl) (.cons (mvU (v := .p I6 a2) rfl rfl) (.cons (sok_arith (U := Un) (rs := [(36, .p I6 a2)]) rfl rfl (.int _ _ _) o0 rfl) (.cons (sok_indexL (U := Un) (rs := [(35, .p (.list I6) a1), (37, .p I6 ((IntKind.i64.wrap (2 * a2)) : Int))]) rfl rfl sl_35 o0 o1 hv4) (.cons (sok_loadP (U := Un) (rs := [(38, .pp I6 v4)]) rfl rfl ty_3 o0) (.cons (mvU (v := .p (.list I6) a1) rfl rfl) (.cons (mvU (v := .p I6 a2) rfl rfl) (.cons (sok_arith (U := Un) (rs := [(41, .p I6 a2)]) rfl rfl (.int _ _ _) o0 rfl) (.cons (sok_arith (U := Un) (rs := [(42, .p I6 ((IntKind.i64.wrap (2 * a2)) : Int))]) rfl rfl o0 (.int _ _ _) rfl) (.cons (sok_indexL (U := Un) (rs := [(40, .p (.list I6) a1), (43, .p I6 ((IntKind.i64.wrap ((IntKind.i64.wrap (2 * a2)) + 1)) : Int))]) rfl rfl sl_35 o0 o1 hv5) (.cons (sok_loadP (U := Un) (rs := [(44, .pp I6 v5)]) rfl rfl ty_3 o0) (.cons (mvA (v := .p I6 v4) rfl rfl) (.cons (mvA (v := .p I6 v5) rfl rfl) .nil))))))))))))) (by kernel_rfl) (by kernel_rfl) (by kernel_rfl) (by kernel_rfl) (by kernel_rfl) (cvR _) ?_
        refine tnU ?_
        refine sqJ (fun st' => millwrightlaw09_PikePart.j7 k a0 v3 v4 v5 = some out ∧ st' = ⟨[(0, .p .str a0), (7, .p .str v3), (8, .p I6 v4), (9, .p I6 v5)], []⟩) ?_ ?_
        · refine sqJ (fun st' => ∃ v8 : Bool, millwrightlaw09_PikePart.j10 k a0 v3 v4 v5 v8 = some out ∧ st' = ⟨[(0, .p .str a0), (7, .p .str v3), (8, .p I6 v4), (9, .p I6 v5), (58, .p .bool v8)], []⟩) ?_ ?_
          · rcases bool_cases (decide (v4 < 0)) with hc11 | hc11
            · replace h := ite_t hc11 h
              refine rgU (st1 := ⟨[(0, .p .str a0), (7, .p .str v3), (8, .p I6 v4), (9, .p I6 v5), (58, .p .bool true)], []⟩) [0, 7, 8, 9, 58] [] hN (.cons (mvU (v := .p I6 v4) rfl rfl) (.cons (cmU (rs := [(46, .p I6 v4)]) rfl rfl o0 (.int _ _ _) rfl) (.cons (mvU (v := .p .bool ((decide (v4 < 0)) : Bool)) rfl rfl) (.cons (skU rfl rfl hc11) (.cons (skU rfl rfl hc11) (.cons (skU rfl rfl hc11) (.cons (skU rfl rfl hc11) (.cons (pkT (rs := [(48, .p .bool ((decide (v4 < 0)) : Bool))]) rfl rfl o0 hc11 (.bool _ _)) (.cons (mvU (v := .p .bool true) rfl rfl) (.cons (skU rfl rfl rfl) (.cons (skU rfl rfl rfl) (.cons (skU rfl rfl rfl) (.cons (pkT (rs := [(54, .p .bool true)]) rfl rfl o0 rfl (.bool _ _)) .nil))))))))))))) (by kernel_rfl) (by kernel_rfl) (by kernel_rfl) (cvR _) ?_
              refine tnU ?_
              exact ⟨true, h, rfl⟩
            · replace h := ite_f hc11 h
              rcases bool_cases (decide (v5 > (a0.length : Int))) with hc12 | hc12
              · replace h := ite_t hc12 h
                refine rgU (st1 := ⟨[(0, .p .str a0), (7, .p .str v3), (8, .p I6 v4), (9, .p I6 v5), (58, .p .bool true)], []⟩) [0, 7, 8, 9, 58] [] hN (.cons (mvU (v := .p I6 v4) rfl rfl) (.cons (cmU (rs := [(46, .p I6 v4)]) rfl rfl o0 (.int _ _ _) rfl) (.cons (mvU (v := .p .bool ((decide (v4 < 0)) : Bool)) rfl rfl) (.cons (sok_run rfl rfl hc11 (mvU (v := .p I6 v5) rfl rfl)) (.cons (sok_run rfl rfl hc11 (mvU (v := .p .str a0) rfl rfl)) (.cons (sok_run rfl rfl hc11 (sok_lenS (U := Un) (rs := [(50, .p .str a0)]) rfl rfl Tryd.underlying9 o0)) (.cons (sok_run rfl rfl hc11 (cmU (rs := [(49, .p I6 v5), (51, .p I6 ((a0.length : Int) : Int))]) rfl rfl o0 o1 rfl)) (.cons (pkF (rs := [(48, .p .bool ((decide (v4 < 0)) : Bool)), (52, .p .bool ((decide (v5 > (a0.length : Int))) : Bool))]) rfl rfl o0 hc11 o1) (.cons (mvU (v := .p .bool ((decide (v5 > (a0.length : Int))) : Bool)) rfl rfl) (.cons (skU rfl rfl hc12) (.cons (skU rfl rfl hc12) (.cons (skU rfl rfl hc12) (.cons (pkT (rs := [(54, .p .bool ((decide (v5 > (a0.length : Int))) : Bool))]) rfl rfl o0 hc12 (.bool _ _)) .nil))))))))))))) (by kernel_rfl) (by kernel_rfl) (by kernel_rfl) (cvR _) ?_
                refine tnU ?_
                exact ⟨true, h, rfl⟩
              · replace h := ite_f hc12 h
                refine rgU (st1 := ⟨[(0, .p .str a0), (7, .p .str v3), (8, .p I6 v4), (9, .p I6 v5), (58, .p .bool ((decide (v4 > v5)) : Bool))], []⟩) [0, 7, 8, 9, 58] [] hN (.cons (mvU (v := .p I6 v4) rfl rfl) (.cons (cmU (rs := [(46, .p I6 v4)]) rfl rfl o0 (.int _ _ _) rfl) (.cons (mvU (v := .p .bool ((decide (v4 < 0)) : Bool)) rfl rfl) (.cons (sok_run rfl rfl hc11 (mvU (v := .p I6 v5) rfl rfl)) (.cons (sok_run rfl rfl hc11 (mvU (v := .p .str a0) rfl rfl)) (.cons (sok_run rfl rfl hc11 (sok_lenS (U := Un) (rs := [(50, .p .str a0)]) rfl rfl Tryd.underlying9 o0)) (.cons (sok_run rfl rfl hc11 (cmU (rs := [(49, .p I6 v5), (51, .p I6 ((a0.length : Int) : Int))]) rfl rfl o0 o1 rfl)) (.cons (pkF (rs := [(48, .p .bool ((decide (v4 < 0)) : Bool)), (52, .p .bool ((decide (v5 > (a0.length : Int))) : Bool))]) rfl rfl o0 hc11 o1) (.cons (mvU (v := .p .bool ((decide (v5 > (a0.length : Int))) : Bool)) rfl rfl) (.cons (sok_run rfl rfl hc12 (mvU (v := .p I6 v4) rfl rfl)) (.cons (sok_run rfl rfl hc12 (mvU (v := .p I6 v5) rfl rfl)) (.cons (sok_run rfl rfl hc12 (cmU (rs := [(55, .p I6 v4), (56, .p I6 v5)]) rfl rfl o0 o1 rfl)) (.cons (pkF (rs := [(54, .p .bool ((decide (v5 > (a0.length : Int))) : Bool)), (57, .p .bool ((decide (v4 > v5)) : Bool))]) rfl rfl o0 hc12 o1) .nil))))))))))))) (by kernel_rfl) (by kernel_rfl) (by kernel_rfl) (cvR _) ?_
                refine tnU ?_
                exact ⟨(decide (v4 > v5)), h, rfl⟩
          · rintro _ ⟨v8, h, rfl⟩
            unfold millwrightlaw09_PikePart.j10 at h
            refine cdU (b := v8) (.tmp (.tail _ (.tail _ (.tail _ (.tail _ (.head _)))))) (fun hc9 => ?_) (fun hc9 => ?_)
            · replace h := ite_t hc9 h
              refine WpC.seq ?_
              refine rgU (st1 := ⟨[(6, .p .bool ((v3 == ([] : List UInt8)) : Bool))], []⟩) [6] [] hN (.cons (mvU (v := .p .str v3) rfl rfl) (.cons (sok_cmpS (U := Un) (rs := [(59, .p .str v3)]) rfl rfl o0 (.str _ _) rfl) (.cons (mvA (v := .p .bool ((v3 == ([] : List UInt8)) : Bool)) rfl rfl) .nil))) (by kernel_rfl) (by kernel_rfl) (by kernel_rfl) (cvR _) ?_
              refine tnU ?_
              refine WpC.ret ?_
              refine thenQ_ret ?_
              have hq := Option.some.inj h
              subst hq
              exact ends_ret (retV_1 rfl (.head _)) ain_nil
            · replace h := ite_f hc9 h
              refine WpC.conv (cvK (b := ⟨[(0, .p .str a0), (7, .p .str v3), (8, .p I6 v4), (9, .p I6 v5)], []⟩) [0, 7, 8, 9] [] (by kernel_rfl)) (WpC.skip ?_)
              refine tnU ?_
              exact ⟨h, rfl⟩
        · rintro _ ⟨h, rfl⟩
          unfold millwrightlaw09_PikePart.j7 at h
          refine WpC.seq ?_
          obtain ⟨v6, hv6, h⟩ := bind_some h
          refine rgU (st1 := ⟨[(6, .p .bool ((v3 == v6) : Bool))], []⟩) [6] [] hN (.cons (mvU (v := .p .str v3) rfl rfl) (.cons (mvU (v := .p .str a0) rfl rfl) (.cons (mvU (v := .p I6 v4) rfl rfl) (.cons (mvU (v := .p I6 v5) rfl rfl) (.cons (sok_sliceS (U := Un) (rs := [(62, .p .str a0), (63, .p I6 v4), (64, .p I6 v5)]) rfl rfl Tryd.underlying9 o0 (.at o1) (.at (.tmp (.tail _ (.tail _ (.head _))))) hv6) (.cons (sok_cmpS (U := Un) (rs := [(61, .p .str v3), (65, .p .str v6)]) rfl rfl o0 o1 rfl) (.cons (mvA (v := .p .bool ((v3 == v6) : Bool)) rfl rfl) .nil))))))) (by kernel_rfl) (by kernel_rfl) (by kernel_rfl) (cvR _) ?_
          refine tnU ?_
          refine WpC.ret ?_
          have hq := Option.some.inj h
          subst hq
          exact ends_ret (retV_1 rfl (.head _)) ain_nil

end Go.Proofs.YthmbbdemecljpaaDoor
