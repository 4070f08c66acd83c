/- A part of the proof of a given law: NLC3. Own work, printed in part by a program of mine. -/
import Derived.Test.YtnbnfjgedinlbabK11NLC2
namespace Go.Proofs.Ytnbnfjgedinlbab
open Go Go.AM
set_option linter.unusedVariables false
set_option linter.unusedSimpArgs false
set_option maxRecDepth 100000
theorem names_Without.ok (O : Out) (k : Nat) (a0 : List (List UInt8)) (a1 : List (List UInt8)) (out : List (List UInt8)) (h : names_Without.f k a0 a1 = some out) : COk Un O Try.prog 12 { ar := [.p (.list .str) a0, .p (.list .str) a1], r := .vec 60500 1 0 out.length, bs' := [(60500, .row 9 .str out false)], nn := [60500] } := by
  refine cok_of_wp Try.func12 rfl (k := 24) rfl (Nat.le_of_ble_eq_true rfl) (namesOk_of (by kernel_rfl)) ?_
  intro B hN
  refine WpC.conv (cvK (b := ⟨[(0, .p (.list .str) a0), (1, .p (.list .str) a1)], []⟩) [0, 1] [] (by kernel_rfl)) ?_
  unfold names_Without.f at h
  refine WpC.seq ?_
  refine rgU (st1 := ⟨[(0, .p (.list .str) a0), (1, .p (.list .str) a1)], []⟩) [0, 1] [] hN (.cons (moU (rs := []) rfl (.inr rfl) (.lit _ _ rfl)) .nil) (by kernel_rfl) (by kernel_rfl) (by kernel_rfl) (cvR _) ?_
  refine tnU ?_
  refine WpC.seq ?_
  refine rgU (st1 := ⟨[(0, .p (.list .str) a0), (1, .p (.list .str) a1), (5, .lit (.slice none 0 0))], []⟩) [0, 1, 5] [] hN (.cons (moU (rs := []) rfl (.inr rfl) (.lit _ _ rfl)) .nil) (by kernel_rfl) (by kernel_rfl) (by kernel_rfl) (cvR _) ?_
  refine tnU ?_
  refine sqJ (fun st' => ∃ v1 : List (List UInt8), names_Without.j2 k v1 = some out ∧ st' = ⟨[(5, .vec 1005 1 0 v1.length)], [(1005, .row 9 .str v1 false)]⟩) ?_ ?_
  · refine WpC.seq ?_
    refine rgU (st1 := ⟨[(1, .p (.list .str) a1), (5, .lit (.slice none 0 0)), (8, .p (.list .str) a0), (9, .p I6 ((a0.length : Int) : Int)), (10, .p I6 (0 : Int))], []⟩) [1, 5, 8, 9, 10] [] hN (.cons (mvU (v := .p (.list .str) a0) rfl rfl) (.cons (sok_lenL (U := Un) (rs := [(8, .p (.list .str) a0)]) rfl rfl Try.underlying22 o0) (.cons (moU (rs := []) rfl (.inl rfl) (.int _ _ _)) .nil))) (by kernel_rfl) (by kernel_rfl) (by kernel_rfl) (cvR _) ?_
    refine tnU ?_
    refine WpC.block ?_
    obtain ⟨o7, hlo7, h⟩ := bind_some h
    have hout8 := h
    clear h
    refine WpC.conv (cvT (Conv.thaw (U := Un) 5 1005 9 .str (.tail _ (.head _)) (by kernel_rfl) (by unfold K0; omega)) (cvK (b := ⟨[(1, .p (.list .str) a1), (5, .vec 1005 1 0 0), (8, .p (.list .str) a0), (9, .p I6 ((a0.length : Int) : Int)), (10, .p I6 (0 : Int))], [(1005, .row 9 .str [] false)]⟩) [1, 5, 8, 9, 10] [1005] (by kernel_rfl))) ?_
    refine WpC.loop (U := Un) (fun n st' => ∃ v3 : List (List UInt8), ∃ v4 : Int, names_Without.l5 k a0 a1 n v3 v4 = some o7 ∧ st' = ⟨[(1, .p (.list .str) a1), (5, .vec 1005 1 0 v3.length), (8, .p (.list .str) a0), (9, .p I6 ((a0.length : Int) : Int)), (10, .p I6 v4)], [(1005, .row 9 .str v3 false)]⟩) k ⟨[], 0, hlo7, rfl⟩ ?_
    clear hlo7
    rintro (_ | n) _ ⟨v3, v4, h, rfl⟩
    · cases h
    · rw [names_Without.l5] at h
      refine WpC.seq ?_
      refine rgU (st1 := ⟨[(1, .p (.list .str) a1), (5, .vec 1005 1 0 v3.length), (8, .p (.list .str) a0), (9, .p I6 ((a0.length : Int) : Int)), (10, .p I6 v4), (11, .p .bool ((decide (v4 < (a0.length : Int))) : Bool))], [(1005, .row 9 .str v3 false)]⟩) [1, 5, 8, 9, 10, 11] [1005] hN (.cons (cmU (rs := [(10, .p I6 v4), (9, .p I6 ((a0.length : Int) : Int))]) rfl rfl o0 o1 rfl) .nil) (by kernel_rfl) (by kernel_rfl) (by kernel_rfl) (cvR _) ?_
      refine tnU ?_
      refine WpC.seq ?_
      refine cdU (b := (decide (v4 < (a0.length : Int)))) (.tmp (.tail _ (.tail _ (.tail _ (.tail _ (.tail _ (.head _))))))) (fun hc9 => ?_) (fun hc9 => ?_)
      · replace h := ite_t hc9 h
        refine WpC.conv (cvK (b := ⟨[(1, .p (.list .str) a1), (5, .vec 1005 1 0 v3.length), (8, .p (.list .str) a0), (9, .p I6 ((a0.length : Int) : Int)), (10, .p I6 v4)], [(1005, .row 9 .str v3 false)]⟩) [1, 5, 8, 9, 10] [1005] (by kernel_rfl)) (WpC.skip ?_)
        refine tnU ?_
        refine sqJ (fun st' => ∃ v10 : List (List UInt8), names_Without.j11 k (names_Without.l5 k a0 a1 n) a0 a1 v4 v10 = some o7 ∧ st' = ⟨[(1, .p (.list .str) a1), (5, .vec 1005 1 0 v10.length), (8, .p (.list .str) a0), (9, .p I6 ((a0.length : Int) : Int)), (10, .p I6 v4)], [(1005, .row 9 .str v10 false)]⟩) ?_ ?_
        · refine WpC.block ?_
          refine WpC.seq ?_
          obtain ⟨v12, hv12, h⟩ := bind_some h
          refine rgU (st1 := ⟨[(1, .p (.list .str) a1), (5, .vec 1005 1 0 v3.length), (7, .p .str v12), (8, .p (.list .str) a0), (9, .p I6 ((a0.length : Int) : Int)), (10, .p I6 v4)], [(1005, .row 9 .str v3 false)]⟩) [1, 5, 7, 8, 9, 10] [1005] hN (.cons (sok_indexL (U := Un) (rs := [(8, .p (.list .str) a0), (10, .p I6 v4)]) rfl rfl sl_22 o0 o1 hv12) (.cons (sok_loadP (U := Un) (rs := [(12, .pp .str v12)]) rfl rfl ty_9 o0) (.cons (mvA (v := .p .str v12) rfl rfl) .nil))) (by kernel_rfl) (by kernel_rfl) (by kernel_rfl) (cvR _) ?_
          refine tnU ?_
          refine WpC.seq ?_
          obtain ⟨v13, hv13, h⟩ := bind_some h
          refine rgU (st1 := ⟨[(1, .p (.list .str) a1), (5, .vec 1005 1 0 v3.length), (7, .p .str v12), (8, .p (.list .str) a0), (9, .p I6 ((a0.length : Int) : Int)), (10, .p I6 v4), (17, .p .bool ((!v13) : Bool))], [(1005, .row 9 .str v3 false)]⟩) [1, 5, 7, 8, 9, 10, 17] [1005] hN (.cons (mvU (v := .p (.list .str) a1) rfl rfl) (.cons (mvU (v := .p .str v12) rfl rfl) (.cons (caV (rs := [(14, .p (.list .str) a1), (15, .p .str v12)]) (vw := []) rfl rfl (.func _) hb_14 (names_Has.ok O k a1 v12 v13 hv13) (.cons o0 (.cons o1 .nil)) (.cons (.same _) (.cons (.same _) .nil)) (by simp) (.inl rfl)) (.cons (sok_not (U := Un) (rs := [(16, .p .bool v13)]) rfl rfl o0) .nil)))) (by kernel_rfl) (by kernel_rfl) (by kernel_rfl) (cvR _) ?_
          refine tnU ?_
          refine cdU (b := (!v13)) (.tmp (.tail _ (.tail _ (.tail _ (.tail _ (.tail _ (.tail _ (.head _)))))))) (fun hc14 => ?_) (fun hc14 => ?_)
          · replace h := ite_t hc14 h
            obtain ⟨g15, h⟩ := if_some h
            refine rgU (st1 := ⟨[(1, .p (.list .str) a1), (5, .vec 21 1 0 ((v3 ++ [v12]).length)), (8, .p (.list .str) a0), (9, .p I6 ((a0.length : Int) : Int)), (10, .p I6 v4)], [(21, .row 9 .str (v3 ++ [v12]) false)]⟩) [1, 5, 8, 9, 10] [21] hN (.cons (mvU (v := .vec 1005 1 0 v3.length) rfl rfl) (.cons (mvU (v := .p .str v12) rfl rfl) (.cons (sok_buildSlice (U := Un) (t := .str) (rs := [(19, .p .str v12)]) (ys := [.tmp 19]) (xs := [v12]) rfl rfl rfl rfl row_22 (.cons o0 .nil) (by decide)) (.cons (sok_append' (U := Un) (t := .str) (rs := [(18, .vec 1005 1 0 v3.length), (20, .vec 20 1 0 ([v12].length))]) (vw := [(20, .row 9 .str [v12] true)]) (xs := v3) (ys := [v12]) (fx := false) rfl rfl rfl row_22 (by decide) o0 o1 (.whole (.head _)) (by simp) g15) (.cons (mvA (v := .vec 21 1 0 ((v3 ++ [v12]).length)) rfl rfl) .nil))))) (by kernel_rfl) (by kernel_rfl) (by kernel_rfl) (cvT (Conv.ren (U := Un) (st' := ⟨[(1, .p (.list .str) a1), (5, .vec 1005 1 0 ((v3 ++ [v12]).length)), (8, .p (.list .str) a0), (9, .p I6 ((a0.length : Int) : Int)), (10, .p I6 v4)], [(1005, .row 9 .str (v3 ++ [v12]) false)]⟩) 21 1005 (by unfold K0; omega) (by kernel_rfl) (by kernel_rfl) (by kernel_rfl)) (cvK (b := ⟨[(1, .p (.list .str) a1), (5, .vec 1005 1 0 ((v3 ++ [v12]).length)), (8, .p (.list .str) a0), (9, .p I6 ((a0.length : Int) : Int)), (10, .p I6 v4)], [(1005, .row 9 .str (v3 ++ [v12]) false)]⟩) [1, 5, 8, 9, 10] [1005] (by kernel_rfl))) ?_
            refine blockQ_normal ?_
            refine tnU ?_
            exact ⟨(v3 ++ [v12]), h, rfl⟩
          · replace h := ite_f hc14 h
            refine WpC.conv (cvK (b := ⟨[(1, .p (.list .str) a1), (5, .vec 1005 1 0 v3.length), (8, .p (.list .str) a0), (9, .p I6 ((a0.length : Int) : Int)), (10, .p I6 v4)], [(1005, .row 9 .str v3 false)]⟩) [1, 5, 8, 9, 10] [1005] (by kernel_rfl)) (WpC.skip ?_)
            refine blockQ_normal ?_
            refine tnU ?_
            exact ⟨v3, h, rfl⟩
        · rintro _ ⟨v10, h, rfl⟩
          unfold names_Without.j11 at h
          refine rgU (st1 := ⟨[(1, .p (.list .str) a1), (5, .vec 1005 1 0 v10.length), (8, .p (.list .str) a0), (9, .p I6 ((a0.length : Int) : Int)), (10, .p I6 ((IntKind.i64.wrap (v4 + 1)) : Int))], [(1005, .row 9 .str v10 false)]⟩) [1, 5, 8, 9, 10] [1005] hN (.cons (sok_arith (U := Un) (rs := [(10, .p I6 v4)]) rfl rfl o0 (.int _ _ _) rfl) (.cons (mvU (v := .p I6 ((IntKind.i64.wrap (v4 + 1)) : Int)) rfl rfl) .nil)) (by kernel_rfl) (by kernel_rfl) (by kernel_rfl) (cvR _) ?_
          refine tnU ?_
          exact ⟨n, Nat.lt_succ_self n, v10, (IntKind.i64.wrap (v4 + 1)), h, rfl⟩
      · replace h := ite_f hc9 h
        refine WpC.conv (cvK (b := ⟨[(5, .vec 1005 1 0 v3.length)], [(1005, .row 9 .str v3 false)]⟩) [5] [1005] (by kernel_rfl)) (WpC.exit ?_)
        refine thenQ_exit ?_
        have hq := Option.some.inj h
        subst hq
        refine thenQ_exit ?_
        have h := hout8
        refine blockQ_hit ?_
        refine tnU ?_
        exact ⟨v3, h, rfl⟩
  · rintro _ ⟨v1, h, rfl⟩
    unfold names_Without.j2 at h
    refine WpC.seq ?_
    refine rgU (st1 := ⟨[(4, .vec 1005 1 0 v1.length)], [(1005, .row 9 .str v1 false)]⟩) [4] [1005] hN (.cons (mvU (v := .vec 1005 1 0 v1.length) rfl rfl) (.cons (mvA (v := .vec 1005 1 0 v1.length) rfl rfl) .nil)) (by kernel_rfl) (by kernel_rfl) (by kernel_rfl) (cvR _) ?_
    refine tnU ?_
    refine WpC.conv (cvT (Conv.ren (U := Un) (st' := ⟨[(4, .vec 60500 1 0 v1.length)], [(60500, .row 9 .str v1 false)]⟩) 1005 60500 (by unfold K0; omega) (by kernel_rfl) (by kernel_rfl) (by kernel_rfl)) (cvK (b := ⟨[(4, .vec 60500 1 0 v1.length)], [(60500, .row 9 .str v1 false)]⟩) [4] [60500] (by kernel_rfl))) (WpC.ret ?_)
    have hq := Option.some.inj h
    subst hq
    exact ends_ret (retV_1 rfl (.head _)) (ain_cons (.head _) ain_nil)

theorem millwrightref01_Without.ok (O : Out) (k : Nat) (a0 : List (List UInt8)) (a1 : List (List UInt8)) (out : List (List UInt8)) (h : millwrightref01_Without.f k a0 a1 = some out) : COk Un O Try.prog 13 { ar := [.p (.list .str) a0, .p (.list .str) a1], r := .p (.list .str) out } := by
  refine cok_of_wp Try.func13 rfl (k := 25) rfl (Nat.le_of_ble_eq_true rfl) (namesOk_pure rfl rfl rfl rfl) ?_
  intro B hN
  refine WpC.conv (cvK (b := ⟨[(0, .p (.list .str) a0), (1, .p (.list .str) a1)], []⟩) [0, 1] [] (by kernel_rfl)) ?_
  unfold millwrightref01_Without.f at h
  refine WpC.seq ?_
  refine rgU (st1 := ⟨[(0, .p (.list .str) a0), (1, .p (.list .str) a1)], []⟩) [0, 1] [] hN (.cons (moU (rs := []) rfl (.inr rfl) (.lit _ _ rfl)) .nil) (by kernel_rfl) (by kernel_rfl) (by kernel_rfl) (cvR _) ?_
  refine tnU ?_
  refine WpC.seq ?_
  refine rgU (st1 := ⟨[(0, .p (.list .str) a0), (1, .p (.list .str) a1), (5, .vec 8 1 0 (([] : List (List UInt8)).length))], [(8, .row 9 .str ([] : List (List UInt8)) true)]⟩) [0, 1, 5] [8] hN (.cons (sok_buildSlice (U := Un) (t := .str) (rs := []) (ys := []) (xs := ([] : List (List UInt8))) rfl rfl rfl rfl row_22 .nil (by decide)) (.cons (mvA (v := .vec 8 1 0 (([] : List (List UInt8)).length)) rfl rfl) .nil)) (by kernel_rfl) (by kernel_rfl) (by kernel_rfl) (Conv.cast (U := Un) (st' := ⟨[(0, .p (.list .str) a0), (1, .p (.list .str) a1), (5, .vec 8 1 0 0)], [(8, .row 9 .str ([] : List (List UInt8)) true)]⟩) (by simp only [upd_length, List.length_nil, List.length_replicate])) ?_
  refine tnU ?_
  refine sqJ (fun st' => ∃ v1 : List (List UInt8), millwrightref01_Without.j2 k v1 = some out ∧ st' = ⟨[(5, .vec 1005 1 0 v1.length)], [(1005, .row 9 .str v1 false)]⟩) ?_ ?_
  · refine WpC.seq ?_
    refine rgU (st1 := ⟨[(1, .p (.list .str) a1), (5, .vec 8 1 0 0), (9, .p (.list .str) a0), (10, .p I6 ((a0.length : Int) : Int)), (11, .p I6 (0 : Int))], [(8, .row 9 .str ([] : List (List UInt8)) true)]⟩) [1, 5, 9, 10, 11] [8] hN (.cons (mvU (v := .p (.list .str) a0) rfl rfl) (.cons (sok_lenL (U := Un) (rs := [(9, .p (.list .str) a0)]) rfl rfl Try.underlying22 o0) (.cons (moU (rs := []) rfl (.inl rfl) (.int _ _ _)) .nil))) (by kernel_rfl) (by kernel_rfl) (by kernel_rfl) (cvR _) ?_
    refine tnU ?_
    refine WpC.block ?_
    obtain ⟨o7, hlo7, h⟩ := bind_some h
    have hout8 := h
    clear h
    refine WpC.conv (cvT (Conv.loose (U := Un) 8 9 .str ([] : List (List UInt8)) (.head _)) (cvT (cvK (b := ⟨[(1, .p (.list .str) a1), (5, .vec 8 1 0 0), (9, .p (.list .str) a0), (10, .p I6 ((a0.length : Int) : Int)), (11, .p I6 (0 : Int))], [(8, .row 9 .str ([] : List (List UInt8)) false)]⟩) [1, 5, 9, 10, 11] [8] (by kernel_rfl)) (cvT (Conv.ren (U := Un) (st' := ⟨[(1, .p (.list .str) a1), (5, .vec 1005 1 0 0), (9, .p (.list .str) a0), (10, .p I6 ((a0.length : Int) : Int)), (11, .p I6 (0 : Int))], [(1005, .row 9 .str ([] : List (List UInt8)) false)]⟩) 8 1005 (by unfold K0; omega) (by kernel_rfl) (by kernel_rfl) (by kernel_rfl)) (cvK (b := ⟨[(1, .p (.list .str) a1), (5, .vec 1005 1 0 0), (9, .p (.list .str) a0), (10, .p I6 ((a0.length : Int) : Int)), (11, .p I6 (0 : Int))], [(1005, .row 9 .str ([] : List (List UInt8)) false)]⟩) [1, 5, 9, 10, 11] [1005] (by kernel_rfl))))) ?_
    refine WpC.loop (U := Un) (fun n st' => ∃ v3 : List (List UInt8), ∃ v4 : Int, millwrightref01_Without.l5 k a0 a1 n v3 v4 = some o7 ∧ st' = ⟨[(1, .p (.list .str) a1), (5, .vec 1005 1 0 v3.length), (9, .p (.list .str) a0), (10, .p I6 ((a0.length : Int) : Int)), (11, .p I6 v4)], [(1005, .row 9 .str v3 false)]⟩) k ⟨([] : List (List UInt8)), 0, hlo7, rfl⟩ ?_
    clear hlo7
    rintro (_ | n) _ ⟨v3, v4, h, rfl⟩
    · cases h
    · rw [millwrightref01_Without.l5] at h
      refine WpC.seq ?_
      refine rgU (st1 := ⟨[(1, .p (.list .str) a1), (5, .vec 1005 1 0 v3.length), (9, .p (.list .str) a0), (10, .p I6 ((a0.length : Int) : Int)), (11, .p I6 v4), (12, .p .bool ((decide (v4 < (a0.length : Int))) : Bool))], [(1005, .row 9 .str v3 false)]⟩) [1, 5, 9, 10, 11, 12] [1005] hN (.cons (cmU (rs := [(11, .p I6 v4), (10, .p I6 ((a0.length : Int) : Int))]) rfl rfl o0 o1 rfl) .nil) (by kernel_rfl) (by kernel_rfl) (by kernel_rfl) (cvR _) ?_
      refine tnU ?_
      refine WpC.seq ?_
      refine cdU (b := (decide (v4 < (a0.length : Int)))) (.tmp (.tail _ (.tail _ (.tail _ (.tail _ (.tail _ (.head _))))))) (fun hc9 => ?_) (fun hc9 => ?_)
      · replace h := ite_t hc9 h
        refine WpC.conv (cvK (b := ⟨[(1, .p (.list .str) a1), (5, .vec 1005 1 0 v3.length), (9, .p (.list .str) a0), (10, .p I6 ((a0.length : Int) : Int)), (11, .p I6 v4)], [(1005, .row 9 .str v3 false)]⟩) [1, 5, 9, 10, 11] [1005] (by kernel_rfl)) (WpC.skip ?_)
        refine tnU ?_
        refine sqJ (fun st' => ∃ v10 : List (List UInt8), millwrightref01_Without.j11 k (millwrightref01_Without.l5 k a0 a1 n) a0 a1 v4 v10 = some o7 ∧ st' = ⟨[(1, .p (.list .str) a1), (5, .vec 1005 1 0 v10.length), (9, .p (.list .str) a0), (10, .p I6 ((a0.length : Int) : Int)), (11, .p I6 v4)], [(1005, .row 9 .str v10 false)]⟩) ?_ ?_
        · refine WpC.block ?_
          refine WpC.seq ?_
          obtain ⟨v12, hv12, h⟩ := bind_some h
          refine rgU (st1 := ⟨[(1, .p (.list .str) a1), (5, .vec 1005 1 0 v3.length), (7, .p .str v12), (9, .p (.list .str) a0), (10, .p I6 ((a0.length : Int) : Int)), (11, .p I6 v4)], [(1005, .row 9 .str v3 false)]⟩) [1, 5, 7, 9, 10, 11] [1005] hN (.cons (sok_indexL (U := Un) (rs := [(9, .p (.list .str) a0), (11, .p I6 v4)]) rfl rfl sl_22 o0 o1 hv12) (.cons (sok_loadP (U := Un) (rs := [(13, .pp .str v12)]) rfl rfl ty_9 o0) (.cons (mvA (v := .p .str v12) rfl rfl) .nil))) (by kernel_rfl) (by kernel_rfl) (by kernel_rfl) (cvR _) ?_
          refine tnU ?_
          refine WpC.seq ?_
          obtain ⟨v13, hv13, h⟩ := bind_some h
          refine rgU (st1 := ⟨[(1, .p (.list .str) a1), (5, .vec 1005 1 0 v3.length), (7, .p .str v12), (9, .p (.list .str) a0), (10, .p I6 ((a0.length : Int) : Int)), (11, .p I6 v4), (18, .p .bool ((!v13) : Bool))], [(1005, .row 9 .str v3 false)]⟩) [1, 5, 7, 9, 10, 11, 18] [1005] hN (.cons (mvU (v := .p (.list .str) a1) rfl rfl) (.cons (mvU (v := .p .str v12) rfl rfl) (.cons (caV (rs := [(15, .p (.list .str) a1), (16, .p .str v12)]) (vw := []) rfl rfl (.func _) hb_23 (millwrightref01_in.ok O k a1 v12 v13 hv13) (.cons o0 (.cons o1 .nil)) (.cons (.same _) (.cons (.same _) .nil)) (by simp) (.inl rfl)) (.cons (sok_not (U := Un) (rs := [(17, .p .bool v13)]) rfl rfl o0) .nil)))) (by kernel_rfl) (by kernel_rfl) (by kernel_rfl) (cvR _) ?_
          refine tnU ?_
          refine cdU (b := (!v13)) (.tmp (.tail _ (.tail _ (.tail _ (.tail _ (.tail _ (.tail _ (.head _)))))))) (fun hc14 => ?_) (fun hc14 => ?_)
          · replace h := ite_t hc14 h
            obtain ⟨g15, h⟩ := if_some h
            refine rgU (st1 := ⟨[(1, .p (.list .str) a1), (5, .vec 22 1 0 ((v3 ++ [v12]).length)), (9, .p (.list .str) a0), (10, .p I6 ((a0.length : Int) : Int)), (11, .p I6 v4)], [(22, .row 9 .str (v3 ++ [v12]) false)]⟩) [1, 5, 9, 10, 11] [22] hN (.cons (mvU (v := .vec 1005 1 0 v3.length) rfl rfl) (.cons (mvU (v := .p .str v12) rfl rfl) (.cons (sok_buildSlice (U := Un) (t := .str) (rs := [(20, .p .str v12)]) (ys := [.tmp 20]) (xs := [v12]) rfl rfl rfl rfl row_22 (.cons o0 .nil) (by decide)) (.cons (sok_append' (U := Un) (t := .str) (rs := [(19, .vec 1005 1 0 v3.length), (21, .vec 21 1 0 ([v12].length))]) (vw := [(21, .row 9 .str [v12] true)]) (xs := v3) (ys := [v12]) (fx := false) rfl rfl rfl row_22 (by decide) o0 o1 (.whole (.head _)) (by simp) g15) (.cons (mvA (v := .vec 22 1 0 ((v3 ++ [v12]).length)) rfl rfl) .nil))))) (by kernel_rfl) (by kernel_rfl) (by kernel_rfl) (cvT (Conv.ren (U := Un) (st' := ⟨[(1, .p (.list .str) a1), (5, .vec 1005 1 0 ((v3 ++ [v12]).length)), (9, .p (.list .str) a0), (10, .p I6 ((a0.length : Int) : Int)), (11, .p I6 v4)], [(1005, .row 9 .str (v3 ++ [v12]) false)]⟩) 22 1005 (by unfold K0; omega) (by kernel_rfl) (by kernel_rfl) (by kernel_rfl)) (cvK (b := ⟨[(1, .p (.list .str) a1), (5, .vec 1005 1 0 ((v3 ++ [v12]).length)), (9, .p (.list .str) a0), (10, .p I6 ((a0.length : Int) : Int)), (11, .p I6 v4)], [(1005, .row 9 .str (v3 ++ [v12]) false)]⟩) [1, 5, 9, 10, 11] [1005] (by kernel_rfl))) ?_
            refine blockQ_normal ?_
            refine tnU ?_
            exact ⟨(v3 ++ [v12]), h, rfl⟩
          · replace h := ite_f hc14 h
            refine WpC.conv (cvK (b := ⟨[(1, .p (.list .str) a1), (5, .vec 1005 1 0 v3.length), (9, .p (.list .str) a0), (10, .p I6 ((a0.length : Int) : Int)), (11, .p I6 v4)], [(1005, .row 9 .str v3 false)]⟩) [1, 5, 9, 10, 11] [1005] (by kernel_rfl)) (WpC.skip ?_)
            refine blockQ_normal ?_
            refine tnU ?_
            exact ⟨v3, h, rfl⟩
        · rintro _ ⟨v10, h, rfl⟩
          unfold millwrightref01_Without.j11 at h
          refine rgU (st1 := ⟨[(1, .p (.list .str) a1), (5, .vec 1005 1 0 v10.length), (9, .p (.list .str) a0), (10, .p I6 ((a0.length : Int) : Int)), (11, .p I6 ((IntKind.i64.wrap (v4 + 1)) : Int))], [(1005, .row 9 .str v10 false)]⟩) [1, 5, 9, 10, 11] [1005] hN (.cons (sok_arith (U := Un) (rs := [(11, .p I6 v4)]) rfl rfl o0 (.int _ _ _) rfl) (.cons (mvU (v := .p I6 ((IntKind.i64.wrap (v4 + 1)) : Int)) rfl rfl) .nil)) (by kernel_rfl) (by kernel_rfl) (by kernel_rfl) (cvR _) ?_
          refine tnU ?_
          exact ⟨n, Nat.lt_succ_self n, v10, (IntKind.i64.wrap (v4 + 1)), h, rfl⟩
      · replace h := ite_f hc9 h
        refine WpC.conv (cvK (b := ⟨[(5, .vec 1005 1 0 v3.length)], [(1005, .row 9 .str v3 false)]⟩) [5] [1005] (by kernel_rfl)) (WpC.exit ?_)
        refine thenQ_exit ?_
        have hq := Option.some.inj h
        subst hq
        refine thenQ_exit ?_
        have h := hout8
        refine blockQ_hit ?_
        refine tnU ?_
        exact ⟨v3, h, rfl⟩
  · rintro _ ⟨v1, h, rfl⟩
    unfold millwrightref01_Without.j2 at h
    refine WpC.seq ?_
    refine rgU (st1 := ⟨[(4, .vec 1005 1 0 v1.length)], [(1005, .row 9 .str v1 false)]⟩) [4] [1005] hN (.cons (mvU (v := .vec 1005 1 0 v1.length) rfl rfl) (.cons (mvA (v := .vec 1005 1 0 v1.length) rfl rfl) .nil)) (by kernel_rfl) (by kernel_rfl) (by kernel_rfl) (cvR _) ?_
    refine tnU ?_
    refine WpC.conv (cvT (Conv.freeze (U := Un) 4 1005 9 _ .str v1 false (.head _) (by first | rfl | (simp only [upd_length, List.length_replicate, List.length_append]; done) | (simp only [upd_length, List.length_replicate, List.length_append] at *; omega) | omega) (.head _) (by first | (simp [Blk.names]; done) | (simp [Blk.names, AVal.namesL, AVal.names]; done) | (simp [Blk.names]; decide))) (cvK (b := ⟨[(4, .p (.list .str) v1)], []⟩) [4] [] (by kernel_rfl))) (WpC.ret ?_)
    have hq := Option.some.inj h
    subst hq
    exact ends_ret (retV_1 rfl (.head _)) ain_nil

theorem millwrightnum_Has.ok (O : Out) (k : Nat) (a0 : List (List UInt8)) (a1 : List UInt8) (out : Bool) (h : millwrightnum_Has.f k a0 a1 = some out) : COk Un O Try.prog 15 { ar := [.p (.list .str) a0, .p .str a1], r := .p .bool out } := by
  refine cok_of_wp Try.func15 rfl (k := 17) rfl (Nat.le_of_ble_eq_true rfl) (namesOk_pure rfl rfl rfl rfl) ?_
  intro B hN
  refine WpC.conv (cvK (b := ⟨[(0, .p (.list .str) a0), (1, .p .str a1)], []⟩) [0, 1] [] (by kernel_rfl)) ?_
  unfold millwrightnum_Has.f at h
  refine WpC.seq ?_
  refine rgU (st1 := ⟨[(0, .p (.list .str) a0), (1, .p .str a1)], []⟩) [0, 1] [] hN (.cons (moU (rs := []) rfl (.inr rfl) (.bool _ _)) .nil) (by kernel_rfl) (by kernel_rfl) (by kernel_rfl) (cvR _) ?_
  refine tnU ?_
  refine sqJ (fun st' => millwrightnum_Has.j1 k = some out ∧ st' = ⟨[], []⟩) ?_ ?_
  · refine WpC.seq ?_
    refine rgU (st1 := ⟨[(1, .p .str a1), (7, .p (.list .str) a0), (8, .p I6 ((a0.length : Int) : Int)), (9, .p I6 (0 : Int))], []⟩) [1, 7, 8, 9] [] hN (.cons (mvU (v := .p (.list .str) a0) rfl rfl) (.cons (sok_lenL (U := Un) (rs := [(7, .p (.list .str) a0)]) rfl rfl Try.underlying22 o0) (.cons (moU (rs := []) rfl (.inl rfl) (.int _ _ _)) .nil))) (by kernel_rfl) (by kernel_rfl) (by kernel_rfl) (cvR _) ?_
    refine tnU ?_
    refine WpC.block ?_
    obtain ⟨o4, hlo4, h⟩ := bind_some h
    have hout5 := h
    clear h
    refine WpC.loop (U := Un) (fun n st' => ∃ v2 : Int, millwrightnum_Has.l3 k a0 a1 n v2 = some o4 ∧ st' = ⟨[(1, .p .str a1), (7, .p (.list .str) a0), (8, .p I6 ((a0.length : Int) : Int)), (9, .p I6 v2)], []⟩) k ⟨0, hlo4, rfl⟩ ?_
    clear hlo4
    rintro (_ | n) _ ⟨v2, h, rfl⟩
    · cases h
    · rw [millwrightnum_Has.l3] at h
      refine WpC.seq ?_
      refine rgU (st1 := ⟨[(1, .p .str a1), (7, .p (.list .str) a0), (8, .p I6 ((a0.length : Int) : Int)), (9, .p I6 v2), (10, .p .bool ((decide (v2 < (a0.length : Int))) : Bool))], []⟩) [1, 7, 8, 9, 10] [] hN (.cons (cmU (rs := [(9, .p I6 v2), (8, .p I6 ((a0.length : Int) : Int))]) rfl rfl o0 o1 rfl) .nil) (by kernel_rfl) (by kernel_rfl) (by kernel_rfl) (cvR _) ?_
      refine tnU ?_
      refine WpC.seq ?_
      refine cdU (b := (decide (v2 < (a0.length : Int)))) (.tmp (.tail _ (.tail _ (.tail _ (.tail _ (.head _)))))) (fun hc6 => ?_) (fun hc6 => ?_)
      · replace h := ite_t hc6 h
        refine WpC.conv (cvK (b := ⟨[(1, .p .str a1), (7, .p (.list .str) a0), (8, .p I6 ((a0.length : Int) : Int)), (9, .p I6 v2)], []⟩) [1, 7, 8, 9] [] (by kernel_rfl)) (WpC.skip ?_)
        refine tnU ?_
        refine WpC.seq ?_
        refine WpC.block ?_
        refine WpC.seq ?_
        obtain ⟨v7, hv7, h⟩ := bind_some h
        refine rgU (st1 := ⟨[(1, .p .str a1), (6, .p .str v7), (7, .p (.list .str) a0), (8, .p I6 ((a0.length : Int) : Int)), (9, .p I6 v2)], []⟩) [1, 6, 7, 8, 9] [] hN (.cons (sok_indexL (U := Un) (rs := [(7, .p (.list .str) a0), (9, .p I6 v2)]) rfl rfl sl_22 o0 o1 hv7) (.cons (sok_loadP (U := Un) (rs := [(11, .pp .str v7)]) rfl rfl ty_9 o0) (.cons (mvA (v := .p .str v7) rfl rfl) .nil))) (by kernel_rfl) (by kernel_rfl) (by kernel_rfl) (cvR _) ?_
        refine tnU ?_
        refine WpC.seq ?_
        refine rgU (st1 := ⟨[(1, .p .str a1), (7, .p (.list .str) a0), (8, .p I6 ((a0.length : Int) : Int)), (9, .p I6 v2), (15, .p .bool ((v7 == a1) : Bool))], []⟩) [1, 7, 8, 9, 15] [] hN (.cons (mvU (v := .p .str v7) rfl rfl) (.cons (mvU (v := .p .str a1) rfl rfl) (.cons (sok_cmpS (U := Un) (rs := [(13, .p .str v7), (14, .p .str a1)]) rfl rfl o0 o1 rfl) .nil))) (by kernel_rfl) (by kernel_rfl) (by kernel_rfl) (cvR _) ?_
        refine tnU ?_
        refine cdU (b := (v7 == a1)) (.tmp (.tail _ (.tail _ (.tail _ (.tail _ (.head _)))))) (fun hc8 => ?_) (fun hc8 => ?_)
        · replace h := ite_t hc8 h
          refine WpC.seq ?_
          refine rgU (st1 := ⟨[(4, .p .bool true)], []⟩) [4] [] hN (.cons (moU (rs := []) rfl (.inr rfl) (.bool _ _)) .nil) (by kernel_rfl) (by kernel_rfl) (by kernel_rfl) (cvR _) ?_
          refine tnU ?_
          refine WpC.ret ?_
          refine blockQ_ret ?_
          refine thenQ_ret ?_
          have hq := Option.some.inj h
          subst hq
          refine thenQ_ret ?_
          have h := hout5
          refine blockQ_ret ?_
          refine thenQ_ret ?_
          have hq := Option.some.inj h
          subst hq
          exact ends_ret (retV_1 rfl (.head _)) ain_nil
        · replace h := ite_f hc8 h
          refine WpC.conv (cvK (b := ⟨[(1, .p .str a1), (7, .p (.list .str) a0), (8, .p I6 ((a0.length : Int) : Int)), (9, .p I6 v2)], []⟩) [1, 7, 8, 9] [] (by kernel_rfl)) (WpC.skip ?_)
          refine blockQ_normal ?_
          refine tnU ?_
          refine rgU (st1 := ⟨[(1, .p .str a1), (7, .p (.list .str) a0), (8, .p I6 ((a0.length : Int) : Int)), (9, .p I6 ((IntKind.i64.wrap (v2 + 1)) : Int))], []⟩) [1, 7, 8, 9] [] hN (.cons (sok_arith (U := Un) (rs := [(9, .p I6 v2)]) rfl rfl o0 (.int _ _ _) rfl) (.cons (mvU (v := .p I6 ((IntKind.i64.wrap (v2 + 1)) : Int)) rfl rfl) .nil)) (by kernel_rfl) (by kernel_rfl) (by kernel_rfl) (cvR _) ?_
          refine tnU ?_
          exact ⟨n, Nat.lt_succ_self n, (IntKind.i64.wrap (v2 + 1)), h, rfl⟩
      · replace h := ite_f hc6 h
        refine WpC.conv (cvK (b := ⟨[], []⟩) [] [] (by kernel_rfl)) (WpC.exit ?_)
        refine thenQ_exit ?_
        have hq := Option.some.inj h
        subst hq
        refine thenQ_exit ?_
        have h := hout5
        refine blockQ_hit ?_
        refine tnU ?_
        exact ⟨h, rfl⟩
  · rintro _ ⟨h, rfl⟩
    unfold millwrightnum_Has.j1 at h
    refine WpC.seq ?_
    refine rgU (st1 := ⟨[(4, .p .bool false)], []⟩) [4] [] hN (.cons (moU (rs := []) rfl (.inr rfl) (.bool _ _)) .nil) (by kernel_rfl) (by kernel_rfl) (by kernel_rfl) (cvR _) ?_
    refine tnU ?_
    refine WpC.ret ?_
    have hq := Option.some.inj h
    subst hq
    exact ends_ret (retV_1 rfl (.head _)) ain_nil

theorem millwrightnum_KeptTexts_m0.ok (O : Out) (k : Nat) (a0 : List (List UInt8)) (a1 : Nat) (a2 : List (List UInt8)) (out : Bool) (h : millwrightnum_KeptTexts_m0.f k a0 a1 a2 = some out) : COk Un O Try.prog 16 { ar := [.vec 100000 1 0 a1, .p (.list .str) a2], r := .p .bool out, bs := [(100000, .row 9 .str a0 true)], bs' := [(100000, .row 9 .str a0 true)] } := by
  refine cok_of_wp Try.func16 rfl (k := 49) rfl (Nat.le_of_ble_eq_true rfl) (namesOk_of (by kernel_rfl)) ?_
  intro B hN
  refine WpC.conv (cvK (b := ⟨[(0, .vec 100000 1 0 a1), (1, .p (.list .str) a2)], [(100000, .row 9 .str a0 true)]⟩) [0, 1] [100000] (by kernel_rfl)) ?_
  unfold millwrightnum_KeptTexts_m0.f at h
  refine WpC.seq ?_
  refine rgU (st1 := ⟨[(0, .vec 100000 1 0 a1), (1, .p (.list .str) a2)], [(100000, .row 9 .str a0 true)]⟩) [0, 1] [100000] hN (.cons (moU (rs := []) rfl (.inr rfl) (.bool _ _)) .nil) (by kernel_rfl) (by kernel_rfl) (by kernel_rfl) (cvR _) ?_
  refine tnU ?_
  refine WpC.seq ?_
  obtain ⟨g1, h⟩ := if_some h
  refine rgU (st1 := ⟨[(1, .p (.list .str) a2), (5, .vec 100000 1 0 (((a0.length - 0 : Nat) : Int).toNat))], [(100000, .row 9 .str a0 true)]⟩) [1, 5] [100000] hN (.cons (mvU (v := .vec 100000 1 0 a1) rfl rfl) (.cons (mvU (v := .vec 100000 1 0 a1) rfl rfl) (.cons (sok_capV (U := Un) (E' := 9) (t := .str) (rs := [(8, .vec 100000 1 0 a1)]) (xs := a0) rfl rfl Try.underlying22 o0) (.cons (sok_sliceV (U := Un) (t := .str) (rs := [(7, .vec 100000 1 0 a1), (9, .p I6 (((a0.length - 0 : Nat) : Int) : Int))]) (xs := a0) (fx := true) rfl rfl sl_22 o0 .no (.at o1) g1.1 g1.2.1 g1.2.2) (.cons (mvA (v := .vec 100000 1 0 (((a0.length - 0 : Nat) : Int).toNat)) rfl rfl) .nil))))) (by kernel_rfl) (by kernel_rfl) (by kernel_rfl) (cvR _) ?_
  refine tnU ?_
  refine sqJ (fun st' => millwrightnum_KeptTexts_m0.j10 k a0 a2 = some out ∧ st' = ⟨[(1, .p (.list .str) a2), (5, .vec 100000 1 0 (((a0.length - 0 : Nat) : Int).toNat))], [(100000, .row 9 .str a0 true)]⟩) ?_ ?_
  · refine sqJ (fun st' => ∃ v11 : Bool, millwrightnum_KeptTexts_m0.j13 k a0 a2 v11 = some out ∧ st' = ⟨[(1, .p (.list .str) a2), (5, .vec 100000 1 0 (((a0.length - 0 : Nat) : Int).toNat)), (25, .p .bool v11)], [(100000, .row 9 .str a0 true)]⟩) ?_ ?_
    · rcases bool_cases (decide ((((a0.length - 0 : Nat) : Int).toNat : Int) < (IntKind.i64.wrap ((a2.length : Int) + 3)))) with hc14 | hc14
      · replace h := ite_t hc14 h
        refine rgU (st1 := ⟨[(1, .p (.list .str) a2), (5, .vec 100000 1 0 (((a0.length - 0 : Nat) : Int).toNat)), (25, .p .bool true)], [(100000, .row 9 .str a0 true)]⟩) [1, 5, 25] [100000] hN (.cons (mvU (v := .vec 100000 1 0 (((a0.length - 0 : Nat) : Int).toNat)) rfl rfl) (.cons (sok_lenV (U := Un) (rs := [(11, .vec 100000 1 0 (((a0.length - 0 : Nat) : Int).toNat))]) rfl rfl Try.underlying22 o0) (.cons (mvU (v := .p (.list .str) a2) rfl rfl) (.cons (sok_lenL (U := Un) (rs := [(13, .p (.list .str) a2)]) rfl rfl Try.underlying22 o0) (.cons (sok_arith (U := Un) (rs := [(14, .p I6 ((a2.length : Int) : Int))]) rfl rfl o0 (.int _ _ _) rfl) (.cons (cmU (rs := [(12, .p I6 ((((a0.length - 0 : Nat) : Int).toNat : Int) : Int)), (15, .p I6 ((IntKind.i64.wrap ((a2.length : Int) + 3)) : Int))]) rfl rfl o0 o1 rfl) (.cons (mvU (v := .p .bool ((decide ((((a0.length - 0 : Nat) : Int).toNat : Int) < (IntKind.i64.wrap ((a2.length : Int) + 3)))) : Bool)) rfl rfl) (.cons (skU rfl rfl hc14) (.cons (skU rfl rfl hc14) (.cons (skU rfl rfl hc14) (.cons (skU rfl rfl hc14) (.cons (skU rfl rfl hc14) (.cons (skU rfl rfl hc14) (.cons (skU rfl rfl hc14) (.cons (pkT (rs := [(17, .p .bool ((decide ((((a0.length - 0 : Nat) : Int).toNat : Int) < (IntKind.i64.wrap ((a2.length : Int) + 3)))) : Bool))]) rfl rfl o0 hc14 (.bool _ _)) .nil))))))))))))))) (by kernel_rfl) (by kernel_rfl) (by kernel_rfl) (cvR _) ?_
        refine tnU ?_
        exact ⟨true, h, rfl⟩
      · replace h := ite_f hc14 h
        obtain ⟨g15, h⟩ := if_some h
        obtain ⟨g16, h⟩ := if_some h
        obtain ⟨v17, hv17, h⟩ := bind_some h
        refine rgU (st1 := ⟨[(1, .p (.list .str) a2), (5, .vec 100000 1 0 (((a0.length - 0 : Nat) : Int).toNat)), (25, .p .bool ((!v17) : Bool))], [(100000, .row 9 .str a0 true)]⟩) [1, 5, 25] [100000] hN (.cons (mvU (v := .vec 100000 1 0 (((a0.length - 0 : Nat) : Int).toNat)) rfl rfl) (.cons (sok_lenV (U := Un) (rs := [(11, .vec 100000 1 0 (((a0.length - 0 : Nat) : Int).toNat))]) rfl rfl Try.underlying22 o0) (.cons (mvU (v := .p (.list .str) a2) rfl rfl) (.cons (sok_lenL (U := Un) (rs := [(13, .p (.list .str) a2)]) rfl rfl Try.underlying22 o0) (.cons (sok_arith (U := Un) (rs := [(14, .p I6 ((a2.length : Int) : Int))]) rfl rfl o0 (.int _ _ _) rfl) (.cons (cmU (rs := [(12, .p I6 ((((a0.length - 0 : Nat) : Int).toNat : Int) : Int)), (15, .p I6 ((IntKind.i64.wrap ((a2.length : Int) + 3)) : Int))]) rfl rfl o0 o1 rfl) (.cons (mvU (v := .p .bool ((decide ((((a0.length - 0 : Nat) : Int).toNat : Int) < (IntKind.i64.wrap ((a2.length : Int) + 3)))) : Bool)) rfl rfl) (.cons (sok_run rfl rfl hc14 (mvU (v := .vec 100000 1 0 (((a0.length - 0 : Nat) : Int).toNat)) rfl rfl)) (.cons (sok_run rfl rfl hc14 (mvU (v := .p (.list .str) a2) rfl rfl)) (.cons (sok_run rfl rfl hc14 (sok_lenL (U := Un) (rs := [(19, .p (.list .str) a2)]) rfl rfl Try.underlying22 o0)) (.cons (sok_run rfl rfl hc14 (sok_sliceV (U := Un) (t := .str) (rs := [(18, .vec 100000 1 0 (((a0.length - 0 : Nat) : Int).toNat)), (20, .p I6 ((a2.length : Int) : Int))]) (xs := a0) (fx := true) rfl rfl sl_22 o0 .no (.at o1) g15.1 g15.2.1 g15.2.2)) (.cons (sok_run rfl rfl hc14 (mvU (v := .p (.list .str) a2) rfl rfl)) (.cons (sok_run rfl rfl hc14 (caV (rs := [(21, .vec 100000 1 0 a2.length), (22, .p (.list .str) a2)]) (vw := [(100000, .row 9 .str a0 true)]) rfl rfl (.func _) hb_7 (millwrightnum_SameTexts.ok O k ((a0.drop 0).take a2.length) a2 v17 hv17) (.cons o0 (.cons o1 .nil)) (.cons (.row 0 a2.length (.head _) g16) (.cons (.same _) .nil)) (by simp) (.inr rfl))) (.cons (sok_run rfl rfl hc14 (sok_not (U := Un) (rs := [(23, .p .bool v17)]) rfl rfl o0)) (.cons (pkF (rs := [(17, .p .bool ((decide ((((a0.length - 0 : Nat) : Int).toNat : Int) < (IntKind.i64.wrap ((a2.length : Int) + 3)))) : Bool)), (24, .p .bool ((!v17) : Bool))]) rfl rfl o0 hc14 o1) .nil))))))))))))))) (by kernel_rfl) (by kernel_rfl) (by kernel_rfl) (cvR _) ?_
        refine tnU ?_
        exact ⟨(!v17), h, rfl⟩
    · rintro _ ⟨v11, h, rfl⟩
      unfold millwrightnum_KeptTexts_m0.j13 at h
      refine cdU (b := v11) (.tmp (.tail _ (.tail _ (.head _)))) (fun hc12 => ?_) (fun hc12 => ?_)
      · replace h := ite_t hc12 h
        refine WpC.seq ?_
        refine rgU (st1 := ⟨[(4, .p .bool false)], [(100000, .row 9 .str a0 true)]⟩) [4] [100000] hN (.cons (moU (rs := []) rfl (.inr rfl) (.bool _ _)) .nil) (by kernel_rfl) (by kernel_rfl) (by kernel_rfl) (cvR _) ?_
        refine tnU ?_
        refine WpC.ret ?_
        refine thenQ_ret ?_
        have hq := Option.some.inj h
        subst hq
        exact ends_ret (retV_1 rfl (.head _)) (ain_cons (.head _) ain_nil)
      · replace h := ite_f hc12 h
        refine WpC.conv (cvK (b := ⟨[(1, .p (.list .str) a2), (5, .vec 100000 1 0 (((a0.length - 0 : Nat) : Int).toNat))], [(100000, .row 9 .str a0 true)]⟩) [1, 5] [100000] (by kernel_rfl)) (WpC.skip ?_)
        refine tnU ?_
        exact ⟨h, rfl⟩
  · rintro _ ⟨h, rfl⟩
    unfold millwrightnum_KeptTexts_m0.j10 at h
    refine WpC.seq ?_
    refine rgU (st1 := ⟨[(5, .vec 100000 1 0 (((a0.length - 0 : Nat) : Int).toNat)), (6, .p I6 ((a2.length : Int) : Int))], [(100000, .row 9 .str a0 true)]⟩) [5, 6] [100000] hN (.cons (mvU (v := .p (.list .str) a2) rfl rfl) (.cons (sok_lenL (U := Un) (rs := [(26, .p (.list .str) a2)]) rfl rfl Try.underlying22 o0) (.cons (mvA (v := .p I6 ((a2.length : Int) : Int)) rfl rfl) .nil))) (by kernel_rfl) (by kernel_rfl) (by kernel_rfl) (cvR _) ?_
    refine tnU ?_
    refine WpC.seq ?_
    obtain ⟨g2, h⟩ := if_some h
    obtain ⟨v3, hv3, h⟩ := bind_some h
    rcases bool_cases (v3 == ([1] : List UInt8)) with hc4 | hc4
    · replace h := ite_t hc4 h
      obtain ⟨g5, h⟩ := if_some h
      obtain ⟨v6, hv6, h⟩ := bind_some h
      rcases bool_cases (v6 == ([2] : List UInt8)) with hc7 | hc7
      · replace h := ite_t hc7 h
        obtain ⟨g8, h⟩ := if_some h
        obtain ⟨v9, hv9, h⟩ := bind_some h
        refine rgU (st1 := ⟨[(4, .p .bool ((v9 == ([3] : List UInt8)) : Bool))], [(100000, .row 9 .str a0 true)]⟩) [4] [100000] hN (.cons (mvU (v := .vec 100000 1 0 (((a0.length - 0 : Nat) : Int).toNat)) rfl rfl) (.cons (mvU (v := .p I6 ((a2.length : Int) : Int)) rfl rfl) (.cons (sok_indexV (U := Un) (rs := [(28, .vec 100000 1 0 (((a0.length - 0 : Nat) : Int).toNat)), (29, .p I6 ((a2.length : Int) : Int))]) rfl rfl sl_22 o0 o1 g2) (.cons (sok_loadE (U := Un) (E := 9) (t := .str) (rs := [(30, .eloc 100000 1 (0 + (a2.length : Int).toNat) 0)]) (xs := a0) (fx := true) rfl rfl ty_9 o0 hv3 (.here _ _)) (.cons (sok_cmpS (U := Un) (rs := [(31, .p .str v3)]) rfl rfl o0 (.str _ _) rfl) (.cons (mvU (v := .p .bool ((v3 == ([1] : List UInt8)) : Bool)) rfl rfl) (.cons (sok_run rfl rfl hc4 (mvU (v := .vec 100000 1 0 (((a0.length - 0 : Nat) : Int).toNat)) rfl rfl)) (.cons (sok_run rfl rfl hc4 (mvU (v := .p I6 ((a2.length : Int) : Int)) rfl rfl)) (.cons (sok_run rfl rfl hc4 (sok_arith (U := Un) (rs := [(35, .p I6 ((a2.length : Int) : Int))]) rfl rfl o0 (.int _ _ _) rfl)) (.cons (sok_run rfl rfl hc4 (sok_indexV (U := Un) (rs := [(34, .vec 100000 1 0 (((a0.length - 0 : Nat) : Int).toNat)), (36, .p I6 ((IntKind.i64.wrap ((a2.length : Int) + 1)) : Int))]) rfl rfl sl_22 o0 o1 g5)) (.cons (sok_run rfl rfl hc4 (sok_loadE (U := Un) (E := 9) (t := .str) (rs := [(37, .eloc 100000 1 (0 + (IntKind.i64.wrap ((a2.length : Int) + 1)).toNat) 0)]) (xs := a0) (fx := true) rfl rfl ty_9 o0 hv6 (.here _ _))) (.cons (sok_run rfl rfl hc4 (sok_cmpS (U := Un) (rs := [(38, .p .str v6)]) rfl rfl o0 (.str _ _) rfl)) (.cons (pkT (rs := [(33, .p .bool ((v3 == ([1] : List UInt8)) : Bool)), (39, .p .bool ((v6 == ([2] : List UInt8)) : Bool))]) rfl rfl o0 hc4 o1) (.cons (mvU (v := .p .bool ((v6 == ([2] : List UInt8)) : Bool)) rfl rfl) (.cons (sok_run rfl rfl hc7 (mvU (v := .vec 100000 1 0 (((a0.length - 0 : Nat) : Int).toNat)) rfl rfl)) (.cons (sok_run rfl rfl hc7 (mvU (v := .p I6 ((a2.length : Int) : Int)) rfl rfl)) (.cons (sok_run rfl rfl hc7 (sok_arith (U := Un) (rs := [(43, .p I6 ((a2.length : Int) : Int))]) rfl rfl o0 (.int _ _ _) rfl)) (.cons (sok_run rfl rfl hc7 (sok_indexV (U := Un) (rs := [(42, .vec 100000 1 0 (((a0.length - 0 : Nat) : Int).toNat)), (44, .p I6 ((IntKind.i64.wrap ((a2.length : Int) + 2)) : Int))]) rfl rfl sl_22 o0 o1 g8)) (.cons (sok_run rfl rfl hc7 (sok_loadE (U := Un) (E := 9) (t := .str) (rs := [(45, .eloc 100000 1 (0 + (IntKind.i64.wrap ((a2.length : Int) + 2)).toNat) 0)]) (xs := a0) (fx := true) rfl rfl ty_9 o0 hv9 (.here _ _))) (.cons (sok_run rfl rfl hc7 (sok_cmpS (U := Un) (rs := [(46, .p .str v9)]) rfl rfl o0 (.str _ _) rfl)) (.cons (pkT (rs := [(41, .p .bool ((v6 == ([2] : List UInt8)) : Bool)), (47, .p .bool ((v9 == ([3] : List UInt8)) : Bool))]) rfl rfl o0 hc7 o1) (.cons (mvA (v := .p .bool ((v9 == ([3] : List UInt8)) : Bool)) rfl rfl) .nil)))))))))))))))))))))) (by kernel_rfl) (by kernel_rfl) (by kernel_rfl) (cvR _) ?_
        refine tnU ?_
        refine WpC.ret ?_
        have hq := Option.some.inj h
        subst hq
        exact ends_ret (retV_1 rfl (.head _)) (ain_cons (.head _) ain_nil)
      · replace h := ite_f hc7 h
        refine rgU (st1 := ⟨[(4, .p .bool false)], [(100000, .row 9 .str a0 true)]⟩) [4] [100000] hN (.cons (mvU (v := .vec 100000 1 0 (((a0.length - 0 : Nat) : Int).toNat)) rfl rfl) (.cons (mvU (v := .p I6 ((a2.length : Int) : Int)) rfl rfl) (.cons (sok_indexV (U := Un) (rs := [(28, .vec 100000 1 0 (((a0.length - 0 : Nat) : Int).toNat)), (29, .p I6 ((a2.length : Int) : Int))]) rfl rfl sl_22 o0 o1 g2) (.cons (sok_loadE (U := Un) (E := 9) (t := .str) (rs := [(30, .eloc 100000 1 (0 + (a2.length : Int).toNat) 0)]) (xs := a0) (fx := true) rfl rfl ty_9 o0 hv3 (.here _ _)) (.cons (sok_cmpS (U := Un) (rs := [(31, .p .str v3)]) rfl rfl o0 (.str _ _) rfl) (.cons (mvU (v := .p .bool ((v3 == ([1] : List UInt8)) : Bool)) rfl rfl) (.cons (sok_run rfl rfl hc4 (mvU (v := .vec 100000 1 0 (((a0.length - 0 : Nat) : Int).toNat)) rfl rfl)) (.cons (sok_run rfl rfl hc4 (mvU (v := .p I6 ((a2.length : Int) : Int)) rfl rfl)) (.cons (sok_run rfl rfl hc4 (sok_arith (U := Un) (rs := [(35, .p I6 ((a2.length : Int) : Int))]) rfl rfl o0 (.int _ _ _) rfl)) (.cons (sok_run rfl rfl hc4 (sok_indexV (U := Un) (rs := [(34, .vec 100000 1 0 (((a0.length - 0 : Nat) : Int).toNat)), (36, .p I6 ((IntKind.i64.wrap ((a2.length : Int) + 1)) : Int))]) rfl rfl sl_22 o0 o1 g5)) (.cons (sok_run rfl rfl hc4 (sok_loadE (U := Un) (E := 9) (t := .str) (rs := [(37, .eloc 100000 1 (0 + (IntKind.i64.wrap ((a2.length : Int) + 1)).toNat) 0)]) (xs := a0) (fx := true) rfl rfl ty_9 o0 hv6 (.here _ _))) (.cons (sok_run rfl rfl hc4 (sok_cmpS (U := Un) (rs := [(38, .p .str v6)]) rfl rfl o0 (.str _ _) rfl)) (.cons (pkT (rs := [(33, .p .bool ((v3 == ([1] : List UInt8)) : Bool)), (39, .p .bool ((v6 == ([2] : List UInt8)) : Bool))]) rfl rfl o0 hc4 o1) (.cons (mvU (v := .p .bool ((v6 == ([2] : List UInt8)) : Bool)) rfl rfl) (.cons (skU rfl rfl hc7) (.cons (skU rfl rfl hc7) (.cons (skU rfl rfl hc7) (.cons (skU rfl rfl hc7) (.cons (skU rfl rfl hc7) (.cons (skU rfl rfl hc7) (.cons (pkF (rs := [(41, .p .bool ((v6 == ([2] : List UInt8)) : Bool))]) rfl rfl o0 hc7 (.bool _ _)) (.cons (mvA (v := .p .bool false) rfl rfl) .nil)))))))))))))))))))))) (by kernel_rfl) (by kernel_rfl) (by kernel_rfl) (cvR _) ?_
        refine tnU ?_
        refine WpC.ret ?_
        have hq := Option.some.inj h
        subst hq
        exact ends_ret (retV_1 rfl (.head _)) (ain_cons (.head _) ain_nil)
    · replace h := ite_f hc4 h
      refine rgU (st1 := ⟨[(4, .p .bool false)], [(100000, .row 9 .str a0 true)]⟩) [4] [100000] hN (.cons (mvU (v := .vec 100000 1 0 (((a0.length - 0 : Nat) : Int).toNat)) rfl rfl) (.cons (mvU (v := .p I6 ((a2.length : Int) : Int)) rfl rfl) (.cons (sok_indexV (U := Un) (rs := [(28, .vec 100000 1 0 (((a0.length - 0 : Nat) : Int).toNat)), (29, .p I6 ((a2.length : Int) : Int))]) rfl rfl sl_22 o0 o1 g2) (.cons (sok_loadE (U := Un) (E := 9) (t := .str) (rs := [(30, .eloc 100000 1 (0 + (a2.length : Int).toNat) 0)]) (xs := a0) (fx := true) rfl rfl ty_9 o0 hv3 (.here _ _)) (.cons (sok_cmpS (U := Un) (rs := [(31, .p .str v3)]) rfl rfl o0 (.str _ _) rfl) (.cons (mvU (v := .p .bool ((v3 == ([1] : List UInt8)) : Bool)) rfl rfl) (.cons (skU rfl rfl hc4) (.cons (skU rfl rfl hc4) (.cons (skU rfl rfl hc4) (.cons (skU rfl rfl hc4) (.cons (skU rfl rfl hc4) (.cons (skU rfl rfl hc4) (.cons (pkF (rs := [(33, .p .bool ((v3 == ([1] : List UInt8)) : Bool))]) rfl rfl o0 hc4 (.bool _ _)) (.cons (mvU (v := .p .bool false) rfl rfl) (.cons (skU rfl rfl rfl) (.cons (skU rfl rfl rfl) (.cons (skU rfl rfl rfl) (.cons (skU rfl rfl rfl) (.cons (skU rfl rfl rfl) (.cons (skU rfl rfl rfl) (.cons (pkF (rs := [(41, .p .bool false)]) rfl rfl o0 rfl (.bool _ _)) (.cons (mvA (v := .p .bool false) rfl rfl) .nil)))))))))))))))))))))) (by kernel_rfl) (by kernel_rfl) (by kernel_rfl) (cvR _) ?_
      refine tnU ?_
      refine WpC.ret ?_
      have hq := Option.some.inj h
      subst hq
      exact ends_ret (retV_1 rfl (.head _)) (ain_cons (.head _) ain_nil)

theorem millwrightlaw01_NamesLists.ok (O : Out) (k : Nat) (a0 : List (List UInt8)) (a1 : List (List UInt8)) (a2 : List UInt8) (out : Bool) (h : millwrightlaw01_NamesLists.f k a0 a1 a2 = some out) : COk Un O Try.prog 3 { ar := [.p (.list .str) a0, .p (.list .str) a1, .p .str a2], r := .p .bool out } := by
  refine cok_of_wp Try.func3 rfl (k := 69) rfl (Nat.le_of_ble_eq_true rfl) (namesOk_pure rfl rfl rfl rfl) ?_
  intro B hN
  refine WpC.conv (cvK (b := ⟨[(0, .p (.list .str) a0), (1, .p (.list .str) a1), (2, .p .str a2)], []⟩) [0, 1, 2] [] (by kernel_rfl)) ?_
  unfold millwrightlaw01_NamesLists.f at h
  refine WpC.seq ?_
  refine rgU (st1 := ⟨[(0, .p (.list .str) a0), (1, .p (.list .str) a1), (2, .p .str a2)], []⟩) [0, 1, 2] [] hN (.cons (moU (rs := []) rfl (.inr rfl) (.bool _ _)) .nil) (by kernel_rfl) (by kernel_rfl) (by kernel_rfl) (cvR _) ?_
  refine tnU ?_
  refine WpC.seq ?_
  refine WpC.seq ?_
  obtain ⟨v1, hv1, h⟩ := bind_some h
  refine rgU (st1 := ⟨[(0, .p (.list .str) a0), (1, .p (.list .str) a1), (2, .p .str a2), (10, .p .bool ((!v1) : Bool))], []⟩) [0, 1, 2, 10] [] hN (.cons (caV (rs := []) (vw := []) rfl rfl (.func _) hb_4 (millwrightlaw01_alive.ok O k v1 hv1) .nil .nil (by simp) (.inl rfl)) (.cons (sok_not (U := Un) (rs := [(9, .p .bool v1)]) rfl rfl o0) .nil)) (by kernel_rfl) (by kernel_rfl) (by kernel_rfl) (cvR _) ?_
  refine tnU ?_
  refine cdU (b := (!v1)) (.tmp (.tail _ (.tail _ (.tail _ (.head _))))) (fun hc2 => ?_) (fun hc2 => ?_)
  · replace h := ite_t hc2 h
    refine WpC.seq ?_
    refine rgU (st1 := ⟨[(6, .p .bool false)], []⟩) [6] [] hN (.cons (moU (rs := []) rfl (.inr rfl) (.bool _ _)) .nil) (by kernel_rfl) (by kernel_rfl) (by kernel_rfl) (cvR _) ?_
    refine tnU ?_
    refine WpC.ret ?_
    refine thenQ_ret ?_
    have hq := Option.some.inj h
    subst hq
    exact ends_ret (retV_1 rfl (.head _)) ain_nil
  · replace h := ite_f hc2 h
    refine WpC.conv (cvK (b := ⟨[(0, .p (.list .str) a0), (1, .p (.list .str) a1), (2, .p .str a2)], []⟩) [0, 1, 2] [] (by kernel_rfl)) (WpC.skip ?_)
    refine tnU ?_
    refine sqJ (fun st' => millwrightlaw01_NamesLists.j32 k a0 a1 a2 = some out ∧ st' = ⟨[(0, .p (.list .str) a0), (1, .p (.list .str) a1), (2, .p .str a2)], []⟩) ?_ ?_
    · refine sqJ (fun st' => ∃ v33 : Bool, millwrightlaw01_NamesLists.j35 k a0 a1 a2 v33 = some out ∧ st' = ⟨[(0, .p (.list .str) a0), (1, .p (.list .str) a1), (2, .p .str a2), (21, .p .bool v33)], []⟩) ?_ ?_
      · obtain ⟨v36, hv36, h⟩ := bind_some h
        rcases bool_cases v36 with hc37 | hc37
        · replace h := ite_t hc37 h
          refine rgU (st1 := ⟨[(0, .p (.list .str) a0), (1, .p (.list .str) a1), (2, .p .str a2), (21, .p .bool true)], []⟩) [0, 1, 2, 21] [] hN (.cons (mvU (v := .p (.list .str) a0) rfl rfl) (.cons (caV (rs := [(11, .p (.list .str) a0)]) (vw := []) rfl rfl (.func _) hb_5 (millwrightnum_Long.ok O k a0 40 100 v36 hv36) (.cons o0 (.cons (.int _ _ _) (.cons (.int _ _ _) .nil))) (.cons (.same _) (.cons (.same _) (.cons (.same _) .nil))) (by simp) (.inl rfl)) (.cons (mvU (v := .p .bool v36) rfl rfl) (.cons (skU rfl rfl hc37) (.cons (skU rfl rfl hc37) (.cons (pkT (rs := [(13, .p .bool v36)]) rfl rfl o0 hc37 (.bool _ _)) (.cons (mvU (v := .p .bool true) rfl rfl) (.cons (skU rfl rfl rfl) (.cons (skU rfl rfl rfl) (.cons (skU rfl rfl rfl) (.cons (pkT (rs := [(17, .p .bool true)]) rfl rfl o0 rfl (.bool _ _)) .nil))))))))))) (by kernel_rfl) (by kernel_rfl) (by kernel_rfl) (cvR _) ?_
          refine tnU ?_
          exact ⟨true, h, rfl⟩
        · replace h := ite_f hc37 h
          obtain ⟨v38, hv38, h⟩ := bind_some h
          rcases bool_cases v38 with hc39 | hc39
          · replace h := ite_t hc39 h
            refine rgU (st1 := ⟨[(0, .p (.list .str) a0), (1, .p (.list .str) a1), (2, .p .str a2), (21, .p .bool true)], []⟩) [0, 1, 2, 21] [] hN (.cons (mvU (v := .p (.list .str) a0) rfl rfl) (.cons (caV (rs := [(11, .p (.list .str) a0)]) (vw := []) rfl rfl (.func _) hb_5 (millwrightnum_Long.ok O k a0 40 100 v36 hv36) (.cons o0 (.cons (.int _ _ _) (.cons (.int _ _ _) .nil))) (.cons (.same _) (.cons (.same _) (.cons (.same _) .nil))) (by simp) (.inl rfl)) (.cons (mvU (v := .p .bool v36) rfl rfl) (.cons (sok_run rfl rfl hc37 (mvU (v := .p (.list .str) a1) rfl rfl)) (.cons (sok_run rfl rfl hc37 (caV (rs := [(14, .p (.list .str) a1)]) (vw := []) rfl rfl (.func _) hb_5 (millwrightnum_Long.ok O k a1 40 100 v38 hv38) (.cons o0 (.cons (.int _ _ _) (.cons (.int _ _ _) .nil))) (.cons (.same _) (.cons (.same _) (.cons (.same _) .nil))) (by simp) (.inl rfl))) (.cons (pkF (rs := [(13, .p .bool v36), (15, .p .bool v38)]) rfl rfl o0 hc37 o1) (.cons (mvU (v := .p .bool v38) rfl rfl) (.cons (skU rfl rfl hc39) (.cons (skU rfl rfl hc39) (.cons (skU rfl rfl hc39) (.cons (pkT (rs := [(17, .p .bool v38)]) rfl rfl o0 hc39 (.bool _ _)) .nil))))))))))) (by kernel_rfl) (by kernel_rfl) (by kernel_rfl) (cvR _) ?_
            refine tnU ?_
            exact ⟨true, h, rfl⟩
          · replace h := ite_f hc39 h
            refine rgU (st1 := ⟨[(0, .p (.list .str) a0), (1, .p (.list .str) a1), (2, .p .str a2), (21, .p .bool ((decide ((a2.length : Int) > 100)) : Bool))], []⟩) [0, 1, 2, 21] [] hN (.cons (mvU (v := .p (.list .str) a0) rfl rfl) (.cons (caV (rs := [(11, .p (.list .str) a0)]) (vw := []) rfl rfl (.func _) hb_5 (millwrightnum_Long.ok O k a0 40 100 v36 hv36) (.cons o0 (.cons (.int _ _ _) (.cons (.int _ _ _) .nil))) (.cons (.same _) (.cons (.same _) (.cons (.same _) .nil))) (by simp) (.inl rfl)) (.cons (mvU (v := .p .bool v36) rfl rfl) (.cons (sok_run rfl rfl hc37 (mvU (v := .p (.list .str) a1) rfl rfl)) (.cons (sok_run rfl rfl hc37 (caV (rs := [(14, .p (.list .str) a1)]) (vw := []) rfl rfl (.func _) hb_5 (millwrightnum_Long.ok O k a1 40 100 v38 hv38) (.cons o0 (.cons (.int _ _ _) (.cons (.int _ _ _) .nil))) (.cons (.same _) (.cons (.same _) (.cons (.same _) .nil))) (by simp) (.inl rfl))) (.cons (pkF (rs := [(13, .p .bool v36), (15, .p .bool v38)]) rfl rfl o0 hc37 o1) (.cons (mvU (v := .p .bool v38) rfl rfl) (.cons (sok_run rfl rfl hc39 (mvU (v := .p .str a2) rfl rfl)) (.cons (sok_run rfl rfl hc39 (sok_lenS (U := Un) (rs := [(18, .p .str a2)]) rfl rfl Try.underlying9 o0)) (.cons (sok_run rfl rfl hc39 (cmU (rs := [(19, .p I6 ((a2.length : Int) : Int))]) rfl rfl o0 (.int _ _ _) rfl)) (.cons (pkF (rs := [(17, .p .bool v38), (20, .p .bool ((decide ((a2.length : Int) > 100)) : Bool))]) rfl rfl o0 hc39 o1) .nil))))))))))) (by kernel_rfl) (by kernel_rfl) (by kernel_rfl) (cvR _) ?_
            refine tnU ?_
            exact ⟨(decide ((a2.length : Int) > 100)), h, rfl⟩
      · rintro _ ⟨v33, h, rfl⟩
        unfold millwrightlaw01_NamesLists.j35 at h
        refine cdU (b := v33) (.tmp (.tail _ (.tail _ (.tail _ (.head _))))) (fun hc34 => ?_) (fun hc34 => ?_)
        · replace h := ite_t hc34 h
          refine WpC.seq ?_
          refine rgU (st1 := ⟨[(6, .p .bool true)], []⟩) [6] [] hN (.cons (moU (rs := []) rfl (.inr rfl) (.bool _ _)) .nil) (by kernel_rfl) (by kernel_rfl) (by kernel_rfl) (cvR _) ?_
          refine tnU ?_
          refine WpC.ret ?_
          refine thenQ_ret ?_
          have hq := Option.some.inj h
          subst hq
          exact ends_ret (retV_1 rfl (.head _)) ain_nil
        · replace h := ite_f hc34 h
          refine WpC.conv (cvK (b := ⟨[(0, .p (.list .str) a0), (1, .p (.list .str) a1), (2, .p .str a2)], []⟩) [0, 1, 2] [] (by kernel_rfl)) (WpC.skip ?_)
          refine tnU ?_
          exact ⟨h, rfl⟩
    · rintro _ ⟨h, rfl⟩
      unfold millwrightlaw01_NamesLists.j32 at h
      refine WpC.seq ?_
      obtain ⟨v3, hv3, h⟩ := bind_some h
      obtain ⟨v4, hv4, h⟩ := bind_some h
      refine rgU (st1 := ⟨[(0, .p (.list .str) a0), (1, .p (.list .str) a1), (2, .p .str a2), (7, .vec 10001 1 0 v3.2), (8, .vec 10002 1 0 v4.2)], [(10001, .row 9 .str v3.1 true), (10002, .row 9 .str v4.1 true)]⟩) [0, 1, 2, 7, 8] [10001, 10002] hN (.cons (mvU (v := .p (.list .str) a0) rfl rfl) (.cons (caV (rs := [(22, .p (.list .str) a0)]) (vw := []) rfl rfl (.func _) hb_6 (COk.ren (millwrightnum_Texts.ok O k a0 v3 hv3) (fun n => if n = 60500 then 10001 else n) (injOn_of (by kernel_rfl))) (.cons o0 .nil) (.cons (.same _) .nil) (by simp) (.inl rfl)) (.cons (mvU (v := .p (.list .str) a1) rfl rfl) (.cons (caV (rs := [(24, .p (.list .str) a1)]) (vw := []) rfl rfl (.func _) hb_6 (COk.ren (millwrightnum_Texts.ok O k a1 v4 hv4) (fun n => if n = 60500 then 10002 else n) (injOn_of (by kernel_rfl))) (.cons o0 .nil) (.cons (.same _) .nil) (by simp) (.inl rfl)) (.cons (mvA (v := .vec 10001 1 0 v3.2) rfl rfl) (.cons (mvA (v := .vec 10002 1 0 v4.2) rfl rfl) .nil)))))) (by kernel_rfl) (by kernel_rfl) (by kernel_rfl) (cvR _) ?_
      refine tnU ?_
      refine sqJ (fun st' => millwrightlaw01_NamesLists.j12 k a0 a1 a2 v3 v4 = some out ∧ st' = ⟨[(0, .p (.list .str) a0), (1, .p (.list .str) a1), (2, .p .str a2), (7, .vec 10001 1 0 v3.2), (8, .vec 10002 1 0 v4.2)], [(10001, .row 9 .str v3.1 true), (10002, .row 9 .str v4.1 true)]⟩) ?_ ?_
      · refine sqJ (fun st' => ∃ v13 : Bool, millwrightlaw01_NamesLists.j15 k a0 a1 a2 v3 v4 v13 = some out ∧ st' = ⟨[(0, .p (.list .str) a0), (1, .p (.list .str) a1), (2, .p .str a2), (7, .vec 10001 1 0 v3.2), (8, .vec 10002 1 0 v4.2), (51, .p .bool v13)], [(10001, .row 9 .str v3.1 true), (10002, .row 9 .str v4.1 true)]⟩) ?_ ?_
        · obtain ⟨g16, h⟩ := if_some h
          obtain ⟨v17, hv17, h⟩ := bind_some h
          obtain ⟨v18, hv18, h⟩ := bind_some h
          obtain ⟨v19, hv19, h⟩ := bind_some h
          rcases bool_cases (!v19) with hc20 | hc20
          · replace h := ite_t hc20 h
            refine rgU (st1 := ⟨[(0, .p (.list .str) a0), (1, .p (.list .str) a1), (2, .p .str a2), (7, .vec 10001 1 0 v3.2), (8, .vec 10002 1 0 v4.2), (51, .p .bool true)], [(10001, .row 9 .str v3.1 true), (10002, .row 9 .str v4.1 true)]⟩) [0, 1, 2, 7, 8, 51] [10001, 10002] hN (.cons (mvU (v := .vec 10001 1 0 v3.2) rfl rfl) (.cons (caV (rs := [(26, .vec 10001 1 0 v3.2)]) (vw := [(10001, .row 9 .str v3.1 true)]) rfl rfl (.func _) hb_8 (COk.ren (names_Sorted.ok O k ((v3.1.drop 0).take v3.2) v17 hv17) (fun n => if n = 60500 then 10003 else n) (injOn_of (by kernel_rfl))) (.cons o0 .nil) (.cons (.row 0 v3.2 (.head _) g16) .nil) (fun _ _ h => (List.not_mem_nil (show _ ∈ ([] : List Nat) from h)).elim) (.inr rfl)) (.cons (mvU (v := .p (.list .str) a0) rfl rfl) (.cons (caV (rs := [(28, .p (.list .str) a0)]) (vw := []) rfl rfl (.func _) hb_9 (millwrightref01_Sorted.ok O k a0 v18 hv18) (.cons o0 .nil) (.cons (.same _) .nil) (by simp) (.inl rfl)) (.cons (caV (rs := [(27, .vec 10003 1 0 v17.length), (29, .p (.list .str) v18)]) (vw := [(10003, .row 9 .str v17 false)]) rfl rfl (.func _) hb_7 (millwrightnum_SameTexts.ok O k v17 v18 v19 hv19) (.cons o0 (.cons o1 .nil)) (.cons (.whole' (.head _) (by first | rfl | (simp only [upd_length, List.length_replicate, List.length_append]; done) | (simp only [upd_length, List.length_replicate, List.length_append] at *; omega) | omega)) (.cons (.same _) .nil)) (by simp) (.inr rfl)) (.cons (sok_not (U := Un) (rs := [(30, .p .bool v19)]) rfl rfl o0) (.cons (mvU (v := .p .bool ((!v19) : Bool)) rfl rfl) (.cons (skU rfl rfl hc20) (.cons (skU rfl rfl hc20) (.cons (skU rfl rfl hc20) (.cons (skU rfl rfl hc20) (.cons (skU rfl rfl hc20) (.cons (skU rfl rfl hc20) (.cons (skU rfl rfl hc20) (.cons (skU rfl rfl hc20) (.cons (pkT (rs := [(32, .p .bool ((!v19) : Bool))]) rfl rfl o0 hc20 (.bool _ _)) (.cons (mvU (v := .p .bool true) rfl rfl) (.cons (skU rfl rfl rfl) (.cons (skU rfl rfl rfl) (.cons (skU rfl rfl rfl) (.cons (skU rfl rfl rfl) (.cons (skU rfl rfl rfl) (.cons (skU rfl rfl rfl) (.cons (skU rfl rfl rfl) (.cons (skU rfl rfl rfl) (.cons (pkT (rs := [(42, .p .bool true)]) rfl rfl o0 rfl (.bool _ _)) .nil)))))))))))))))))))))))))) (by kernel_rfl) (by kernel_rfl) (by kernel_rfl) (cvR _) ?_
            refine tnU ?_
            exact ⟨true, h, rfl⟩
          · replace h := ite_f hc20 h
            obtain ⟨g21, h⟩ := if_some h
            obtain ⟨g22, h⟩ := if_some h
            obtain ⟨v23, hv23, h⟩ := bind_some h
            obtain ⟨v24, hv24, h⟩ := bind_some h
            obtain ⟨v25, hv25, h⟩ := bind_some h
            rcases bool_cases (!v25) with hc26 | hc26
            · replace h := ite_t hc26 h
              refine rgU (st1 := ⟨[(0, .p (.list .str) a0), (1, .p (.list .str) a1), (2, .p .str a2), (7, .vec 10001 1 0 v3.2), (8, .vec 10002 1 0 v4.2), (51, .p .bool true)], [(10001, .row 9 .str v3.1 true), (10002, .row 9 .str v4.1 true)]⟩) [0, 1, 2, 7, 8, 51] [10001, 10002] hN (.cons (mvU (v := .vec 10001 1 0 v3.2) rfl rfl) (.cons (caV (rs := [(26, .vec 10001 1 0 v3.2)]) (vw := [(10001, .row 9 .str v3.1 true)]) rfl rfl (.func _) hb_8 (COk.ren (names_Sorted.ok O k ((v3.1.drop 0).take v3.2) v17 hv17) (fun n => if n = 60500 then 10003 else n) (injOn_of (by kernel_rfl))) (.cons o0 .nil) (.cons (.row 0 v3.2 (.head _) g16) .nil) (fun _ _ h => (List.not_mem_nil (show _ ∈ ([] : List Nat) from h)).elim) (.inr rfl)) (.cons (mvU (v := .p (.list .str) a0) rfl rfl) (.cons (caV (rs := [(28, .p (.list .str) a0)]) (vw := []) rfl rfl (.func _) hb_9 (millwrightref01_Sorted.ok O k a0 v18 hv18) (.cons o0 .nil) (.cons (.same _) .nil) (by simp) (.inl rfl)) (.cons (caV (rs := [(27, .vec 10003 1 0 v17.length), (29, .p (.list .str) v18)]) (vw := [(10003, .row 9 .str v17 false)]) rfl rfl (.func _) hb_7 (millwrightnum_SameTexts.ok O k v17 v18 v19 hv19) (.cons o0 (.cons o1 .nil)) (.cons (.whole' (.head _) (by first | rfl | (simp only [upd_length, List.length_replicate, List.length_append]; done) | (simp only [upd_length, List.length_replicate, List.length_append] at *; omega) | omega)) (.cons (.same _) .nil)) (by simp) (.inr rfl)) (.cons (sok_not (U := Un) (rs := [(30, .p .bool v19)]) rfl rfl o0) (.cons (mvU (v := .p .bool ((!v19) : Bool)) rfl rfl) (.cons (sok_run rfl rfl hc20 (mvU (v := .vec 10001 1 0 v3.2) rfl rfl)) (.cons (sok_run rfl rfl hc20 (mvU (v := .vec 10002 1 0 v4.2) rfl rfl)) (.cons (sok_run rfl rfl hc20 (caV (rs := [(33, .vec 10001 1 0 v3.2), (34, .vec 10002 1 0 v4.2)]) (vw := [(10001, .row 9 .str v3.1 true), (10002, .row 9 .str v4.1 true)]) rfl rfl (.func _) hb_10 (COk.ren (names_Union.ok O k ((v3.1.drop 0).take v3.2) ((v4.1.drop 0).take v4.2) v23 hv23) (fun n => if n = 60500 then 10004 else n) (injOn_of (by kernel_rfl))) (.cons o0 (.cons o1 .nil)) (.cons (.row 0 v3.2 (.head _) g21) (.cons (.row 0 v4.2 (.tail _ (.head _)) g22) .nil)) (fun _ _ h => (List.not_mem_nil (show _ ∈ ([] : List Nat) from h)).elim) (.inr rfl))) (.cons (sok_run rfl rfl hc20 (mvU (v := .p (.list .str) a0) rfl rfl)) (.cons (sok_run rfl rfl hc20 (mvU (v := .p (.list .str) a1) rfl rfl)) (.cons (sok_run rfl rfl hc20 (caV (rs := [(36, .p (.list .str) a0), (37, .p (.list .str) a1)]) (vw := []) rfl rfl (.func _) hb_11 (millwrightref01_Union.ok O k a0 a1 v24 hv24) (.cons o0 (.cons o1 .nil)) (.cons (.same _) (.cons (.same _) .nil)) (by simp) (.inl rfl))) (.cons (sok_run rfl rfl hc20 (caV (rs := [(35, .vec 10004 1 0 v23.length), (38, .p (.list .str) v24)]) (vw := [(10004, .row 9 .str v23 false)]) rfl rfl (.func _) hb_7 (millwrightnum_SameTexts.ok O k v23 v24 v25 hv25) (.cons o0 (.cons o1 .nil)) (.cons (.whole' (.head _) (by first | rfl | (simp only [upd_length, List.length_replicate, List.length_append]; done) | (simp only [upd_length, List.length_replicate, List.length_append] at *; omega) | omega)) (.cons (.same _) .nil)) (by simp) (.inr rfl))) (.cons (sok_run rfl rfl hc20 (sok_not (U := Un) (rs := [(39, .p .bool v25)]) rfl rfl o0)) (.cons (pkF (rs := [(32, .p .bool ((!v19) : Bool)), (40, .p .bool ((!v25) : Bool))]) rfl rfl o0 hc20 o1) (.cons (mvU (v := .p .bool ((!v25) : Bool)) rfl rfl) (.cons (skU rfl rfl hc26) (.cons (skU rfl rfl hc26) (.cons (skU rfl rfl hc26) (.cons (skU rfl rfl hc26) (.cons (skU rfl rfl hc26) (.cons (skU rfl rfl hc26) (.cons (skU rfl rfl hc26) (.cons (skU rfl rfl hc26) (.cons (pkT (rs := [(42, .p .bool ((!v25) : Bool))]) rfl rfl o0 hc26 (.bool _ _)) .nil)))))))))))))))))))))))))) (by kernel_rfl) (by kernel_rfl) (by kernel_rfl) (cvR _) ?_
              refine tnU ?_
              exact ⟨true, h, rfl⟩
            · replace h := ite_f hc26 h
              obtain ⟨g27, h⟩ := if_some h
              obtain ⟨g28, h⟩ := if_some h
              obtain ⟨v29, hv29, h⟩ := bind_some h
              obtain ⟨v30, hv30, h⟩ := bind_some h
              obtain ⟨v31, hv31, h⟩ := bind_some h
              refine rgU (st1 := ⟨[(0, .p (.list .str) a0), (1, .p (.list .str) a1), (2, .p .str a2), (7, .vec 10001 1 0 v3.2), (8, .vec 10002 1 0 v4.2), (51, .p .bool ((!v31) : Bool))], [(10001, .row 9 .str v3.1 true), (10002, .row 9 .str v4.1 true)]⟩) [0, 1, 2, 7, 8, 51] [10001, 10002] hN (.cons (mvU (v := .vec 10001 1 0 v3.2) rfl rfl) (.cons (caV (rs := [(26, .vec 10001 1 0 v3.2)]) (vw := [(10001, .row 9 .str v3.1 true)]) rfl rfl (.func _) hb_8 (COk.ren (names_Sorted.ok O k ((v3.1.drop 0).take v3.2) v17 hv17) (fun n => if n = 60500 then 10003 else n) (injOn_of (by kernel_rfl))) (.cons o0 .nil) (.cons (.row 0 v3.2 (.head _) g16) .nil) (fun _ _ h => (List.not_mem_nil (show _ ∈ ([] : List Nat) from h)).elim) (.inr rfl)) (.cons (mvU (v := .p (.list .str) a0) rfl rfl) (.cons (caV (rs := [(28, .p (.list .str) a0)]) (vw := []) rfl rfl (.func _) hb_9 (millwrightref01_Sorted.ok O k a0 v18 hv18) (.cons o0 .nil) (.cons (.same _) .nil) (by simp) (.inl rfl)) (.cons (caV (rs := [(27, .vec 10003 1 0 v17.length), (29, .p (.list .str) v18)]) (vw := [(10003, .row 9 .str v17 false)]) rfl rfl (.func _) hb_7 (millwrightnum_SameTexts.ok O k v17 v18 v19 hv19) (.cons o0 (.cons o1 .nil)) (.cons (.whole' (.head _) (by first | rfl | (simp only [upd_length, List.length_replicate, List.length_append]; done) | (simp only [upd_length, List.length_replicate, List.length_append] at *; omega) | omega)) (.cons (.same _) .nil)) (by simp) (.inr rfl)) (.cons (sok_not (U := Un) (rs := [(30, .p .bool v19)]) rfl rfl o0) (.cons (mvU (v := .p .bool ((!v19) : Bool)) rfl rfl) (.cons (sok_run rfl rfl hc20 (mvU (v := .vec 10001 1 0 v3.2) rfl rfl)) (.cons (sok_run rfl rfl hc20 (mvU (v := .vec 10002 1 0 v4.2) rfl rfl)) (.cons (sok_run rfl rfl hc20 (caV (rs := [(33, .vec 10001 1 0 v3.2), (34, .vec 10002 1 0 v4.2)]) (vw := [(10001, .row 9 .str v3.1 true), (10002, .row 9 .str v4.1 true)]) rfl rfl (.func _) hb_10 (COk.ren (names_Union.ok O k ((v3.1.drop 0).take v3.2) ((v4.1.drop 0).take v4.2) v23 hv23) (fun n => if n = 60500 then 10004 else n) (injOn_of (by kernel_rfl))) (.cons o0 (.cons o1 .nil)) (.cons (.row 0 v3.2 (.head _) g21) (.cons (.row 0 v4.2 (.tail _ (.head _)) g22) .nil)) (fun _ _ h => (List.not_mem_nil (show _ ∈ ([] : List Nat) from h)).elim) (.inr rfl))) (.cons (sok_run rfl rfl hc20 (mvU (v := .p (.list .str) a0) rfl rfl)) (.cons (sok_run rfl rfl hc20 (mvU (v := .p (.list .str) a1) rfl rfl)) (.cons (sok_run rfl rfl hc20 (caV (rs := [(36, .p (.list .str) a0), (37, .p (.list .str) a1)]) (vw := []) rfl rfl (.func _) hb_11 (millwrightref01_Union.ok O k a0 a1 v24 hv24) (.cons o0 (.cons o1 .nil)) (.cons (.same _) (.cons (.same _) .nil)) (by simp) (.inl rfl))) (.cons (sok_run rfl rfl hc20 (caV (rs := [(35, .vec 10004 1 0 v23.length), (38, .p (.list .str) v24)]) (vw := [(10004, .row 9 .str v23 false)]) rfl rfl (.func _) hb_7 (millwrightnum_SameTexts.ok O k v23 v24 v25 hv25) (.cons o0 (.cons o1 .nil)) (.cons (.whole' (.head _) (by first | rfl | (simp only [upd_length, List.length_replicate, List.length_append]; done) | (simp only [upd_length, List.length_replicate, List.length_append] at *; omega) | omega)) (.cons (.same _) .nil)) (by simp) (.inr rfl))) (.cons (sok_run rfl rfl hc20 (sok_not (U := Un) (rs := [(39, .p .bool v25)]) rfl rfl o0)) (.cons (pkF (rs := [(32, .p .bool ((!v19) : Bool)), (40, .p .bool ((!v25) : Bool))]) rfl rfl o0 hc20 o1) (.cons (mvU (v := .p .bool ((!v25) : Bool)) rfl rfl) (.cons (sok_run rfl rfl hc26 (mvU (v := .vec 10001 1 0 v3.2) rfl rfl)) (.cons (sok_run rfl rfl hc26 (mvU (v := .vec 10002 1 0 v4.2) rfl rfl)) (.cons (sok_run rfl rfl hc26 (caV (rs := [(43, .vec 10001 1 0 v3.2), (44, .vec 10002 1 0 v4.2)]) (vw := [(10001, .row 9 .str v3.1 true), (10002, .row 9 .str v4.1 true)]) rfl rfl (.func _) hb_12 (COk.ren (names_Without.ok O k ((v3.1.drop 0).take v3.2) ((v4.1.drop 0).take v4.2) v29 hv29) (fun n => if n = 60500 then 10005 else n) (injOn_of (by kernel_rfl))) (.cons o0 (.cons o1 .nil)) (.cons (.row 0 v3.2 (.head _) g27) (.cons (.row 0 v4.2 (.tail _ (.head _)) g28) .nil)) (fun _ _ h => (List.not_mem_nil (show _ ∈ ([] : List Nat) from h)).elim) (.inr rfl))) (.cons (sok_run rfl rfl hc26 (mvU (v := .p (.list .str) a0) rfl rfl)) (.cons (sok_run rfl rfl hc26 (mvU (v := .p (.list .str) a1) rfl rfl)) (.cons (sok_run rfl rfl hc26 (caV (rs := [(46, .p (.list .str) a0), (47, .p (.list .str) a1)]) (vw := []) rfl rfl (.func _) hb_13 (millwrightref01_Without.ok O k a0 a1 v30 hv30) (.cons o0 (.cons o1 .nil)) (.cons (.same _) (.cons (.same _) .nil)) (by simp) (.inl rfl))) (.cons (sok_run rfl rfl hc26 (caV (rs := [(45, .vec 10005 1 0 v29.length), (48, .p (.list .str) v30)]) (vw := [(10005, .row 9 .str v29 false)]) rfl rfl (.func _) hb_7 (millwrightnum_SameTexts.ok O k v29 v30 v31 hv31) (.cons o0 (.cons o1 .nil)) (.cons (.whole' (.head _) (by first | rfl | (simp only [upd_length, List.length_replicate, List.length_append]; done) | (simp only [upd_length, List.length_replicate, List.length_append] at *; omega) | omega)) (.cons (.same _) .nil)) (by simp) (.inr rfl))) (.cons (sok_run rfl rfl hc26 (sok_not (U := Un) (rs := [(49, .p .bool v31)]) rfl rfl o0)) (.cons (pkF (rs := [(42, .p .bool ((!v25) : Bool)), (50, .p .bool ((!v31) : Bool))]) rfl rfl o0 hc26 o1) .nil)))))))))))))))))))))))))) (by kernel_rfl) (by kernel_rfl) (by kernel_rfl) (cvR _) ?_
              refine tnU ?_
              exact ⟨(!v31), h, rfl⟩
        · rintro _ ⟨v13, h, rfl⟩
          unfold millwrightlaw01_NamesLists.j15 at h
          refine cdU (b := v13) (.tmp (.tail _ (.tail _ (.tail _ (.tail _ (.tail _ (.head _))))))) (fun hc14 => ?_) (fun hc14 => ?_)
          · replace h := ite_t hc14 h
            refine WpC.seq ?_
            refine rgU (st1 := ⟨[(6, .p .bool false)], []⟩) [6] [] hN (.cons (moU (rs := []) rfl (.inr rfl) (.bool _ _)) .nil) (by kernel_rfl) (by kernel_rfl) (by kernel_rfl) (cvR _) ?_
            refine tnU ?_
            refine WpC.ret ?_
            refine thenQ_ret ?_
            have hq := Option.some.inj h
            subst hq
            exact ends_ret (retV_1 rfl (.head _)) ain_nil
          · replace h := ite_f hc14 h
            refine WpC.conv (cvK (b := ⟨[(0, .p (.list .str) a0), (1, .p (.list .str) a1), (2, .p .str a2), (7, .vec 10001 1 0 v3.2), (8, .vec 10002 1 0 v4.2)], [(10001, .row 9 .str v3.1 true), (10002, .row 9 .str v4.1 true)]⟩) [0, 1, 2, 7, 8] [10001, 10002] (by kernel_rfl)) (WpC.skip ?_)
            refine tnU ?_
            exact ⟨h, rfl⟩
      · rintro _ ⟨h, rfl⟩
        unfold millwrightlaw01_NamesLists.j12 at h
        refine WpC.seq ?_
        obtain ⟨g5, h⟩ := if_some h
        obtain ⟨v6, hv6, h⟩ := bind_some h
        obtain ⟨v7, hv7, h⟩ := bind_some h
        rcases bool_cases (v6 == v7) with hc8 | hc8
        · replace h := ite_t hc8 h
          obtain ⟨v9, hv9, h⟩ := bind_some h
          rcases bool_cases v9 with hc10 | hc10
          · replace h := ite_t hc10 h
            obtain ⟨v11, hv11, h⟩ := bind_some h
            refine rgU (st1 := ⟨[(6, .p .bool v11)], []⟩) [6] [] hN (.cons (mvU (v := .vec 10001 1 0 v3.2) rfl rfl) (.cons (mvU (v := .p .str a2) rfl rfl) (.cons (caV (rs := [(52, .vec 10001 1 0 v3.2), (53, .p .str a2)]) (vw := [(10001, .row 9 .str v3.1 true)]) rfl rfl (.func _) hb_14 (names_Has.ok O k ((v3.1.drop 0).take v3.2) a2 v6 hv6) (.cons o0 (.cons o1 .nil)) (.cons (.row 0 v3.2 (.head _) g5) (.cons (.same _) .nil)) (by simp) (.inr rfl)) (.cons (mvU (v := .p (.list .str) a0) rfl rfl) (.cons (mvU (v := .p .str a2) rfl rfl) (.cons (caV (rs := [(55, .p (.list .str) a0), (56, .p .str a2)]) (vw := []) rfl rfl (.func _) hb_15 (millwrightnum_Has.ok O k a0 a2 v7 hv7) (.cons o0 (.cons o1 .nil)) (.cons (.same _) (.cons (.same _) .nil)) (by simp) (.inl rfl)) (.cons (sok_eqB (U := Un) (rs := [(54, .p .bool v6), (57, .p .bool v7)]) rfl rfl Try.underlying4 o0 o1) (.cons (mvU (v := .p .bool ((v6 == v7) : Bool)) rfl rfl) (.cons (sok_run rfl rfl hc8 (mvU (v := .vec 10001 1 0 v3.2) rfl rfl)) (.cons (sok_run rfl rfl hc8 (mvU (v := .p (.list .str) a0) rfl rfl)) (.cons (sok_run rfl rfl hc8 (caV (rs := [(60, .vec 10001 1 0 v3.2), (61, .p (.list .str) a0)]) (vw := []) rfl rfl (.func _) hb_16 (COk.ren (millwrightnum_KeptTexts_m0.ok O k v3.1 v3.2 a0 v9 hv9) (fun n => if n = 100000 then 10001 else n) (injOn_of (by kernel_rfl))) (.cons o0 (.cons o1 .nil)) (.cons (.cast (by first | rfl | (simp only [upd_length, List.length_replicate, List.length_append]; done) | (simp only [upd_length, List.length_replicate, List.length_append] at *; omega) | omega)) (.cons (.same _) .nil)) (by simp) (.inl rfl))) (.cons (pkT (rs := [(59, .p .bool ((v6 == v7) : Bool)), (62, .p .bool v9)]) rfl rfl o0 hc8 o1) (.cons (mvU (v := .p .bool v9) rfl rfl) (.cons (sok_run rfl rfl hc10 (mvU (v := .vec 10002 1 0 v4.2) rfl rfl)) (.cons (sok_run rfl rfl hc10 (mvU (v := .p (.list .str) a1) rfl rfl)) (.cons (sok_run rfl rfl hc10 (caV (rs := [(65, .vec 10002 1 0 v4.2), (66, .p (.list .str) a1)]) (vw := []) rfl rfl (.func _) hb_16 (COk.ren (millwrightnum_KeptTexts_m0.ok O k v4.1 v4.2 a1 v11 hv11) (fun n => if n = 100000 then 10002 else n) (injOn_of (by kernel_rfl))) (.cons o0 (.cons o1 .nil)) (.cons (.cast (by first | rfl | (simp only [upd_length, List.length_replicate, List.length_append]; done) | (simp only [upd_length, List.length_replicate, List.length_append] at *; omega) | omega)) (.cons (.same _) .nil)) (by simp) (.inl rfl))) (.cons (pkT (rs := [(64, .p .bool v9), (67, .p .bool v11)]) rfl rfl o0 hc10 o1) (.cons (mvA (v := .p .bool v11) rfl rfl) .nil)))))))))))))))))) (by kernel_rfl) (by kernel_rfl) (by kernel_rfl) (cvR _) ?_
            refine tnU ?_
            refine WpC.ret ?_
            have hq := Option.some.inj h
            subst hq
            exact ends_ret (retV_1 rfl (.head _)) ain_nil
          · replace h := ite_f hc10 h
            refine rgU (st1 := ⟨[(6, .p .bool false)], []⟩) [6] [] hN (.cons (mvU (v := .vec 10001 1 0 v3.2) rfl rfl) (.cons (mvU (v := .p .str a2) rfl rfl) (.cons (caV (rs := [(52, .vec 10001 1 0 v3.2), (53, .p .str a2)]) (vw := [(10001, .row 9 .str v3.1 true)]) rfl rfl (.func _) hb_14 (names_Has.ok O k ((v3.1.drop 0).take v3.2) a2 v6 hv6) (.cons o0 (.cons o1 .nil)) (.cons (.row 0 v3.2 (.head _) g5) (.cons (.same _) .nil)) (by simp) (.inr rfl)) (.cons (mvU (v := .p (.list .str) a0) rfl rfl) (.cons (mvU (v := .p .str a2) rfl rfl) (.cons (caV (rs := [(55, .p (.list .str) a0), (56, .p .str a2)]) (vw := []) rfl rfl (.func _) hb_15 (millwrightnum_Has.ok O k a0 a2 v7 hv7) (.cons o0 (.cons o1 .nil)) (.cons (.same _) (.cons (.same _) .nil)) (by simp) (.inl rfl)) (.cons (sok_eqB (U := Un) (rs := [(54, .p .bool v6), (57, .p .bool v7)]) rfl rfl Try.underlying4 o0 o1) (.cons (mvU (v := .p .bool ((v6 == v7) : Bool)) rfl rfl) (.cons (sok_run rfl rfl hc8 (mvU (v := .vec 10001 1 0 v3.2) rfl rfl)) (.cons (sok_run rfl rfl hc8 (mvU (v := .p (.list .str) a0) rfl rfl)) (.cons (sok_run rfl rfl hc8 (caV (rs := [(60, .vec 10001 1 0 v3.2), (61, .p (.list .str) a0)]) (vw := []) rfl rfl (.func _) hb_16 (COk.ren (millwrightnum_KeptTexts_m0.ok O k v3.1 v3.2 a0 v9 hv9) (fun n => if n = 100000 then 10001 else n) (injOn_of (by kernel_rfl))) (.cons o0 (.cons o1 .nil)) (.cons (.cast (by first | rfl | (simp only [upd_length, List.length_replicate, List.length_append]; done) | (simp only [upd_length, List.length_replicate, List.length_append] at *; omega) | omega)) (.cons (.same _) .nil)) (by simp) (.inl rfl))) (.cons (pkT (rs := [(59, .p .bool ((v6 == v7) : Bool)), (62, .p .bool v9)]) rfl rfl o0 hc8 o1) (.cons (mvU (v := .p .bool v9) rfl rfl) (.cons (skU rfl rfl hc10) (.cons (skU rfl rfl hc10) (.cons (skU rfl rfl hc10) (.cons (pkF (rs := [(64, .p .bool v9)]) rfl rfl o0 hc10 (.bool _ _)) (.cons (mvA (v := .p .bool false) rfl rfl) .nil)))))))))))))))))) (by kernel_rfl) (by kernel_rfl) (by kernel_rfl) (cvR _) ?_
            refine tnU ?_
            refine WpC.ret ?_
            have hq := Option.some.inj h
            subst hq
            exact ends_ret (retV_1 rfl (.head _)) ain_nil
        · replace h := ite_f hc8 h
          refine rgU (st1 := ⟨[(6, .p .bool false)], []⟩) [6] [] hN (.cons (mvU (v := .vec 10001 1 0 v3.2) rfl rfl) (.cons (mvU (v := .p .str a2) rfl rfl) (.cons (caV (rs := [(52, .vec 10001 1 0 v3.2), (53, .p .str a2)]) (vw := [(10001, .row 9 .str v3.1 true)]) rfl rfl (.func _) hb_14 (names_Has.ok O k ((v3.1.drop 0).take v3.2) a2 v6 hv6) (.cons o0 (.cons o1 .nil)) (.cons (.row 0 v3.2 (.head _) g5) (.cons (.same _) .nil)) (by simp) (.inr rfl)) (.cons (mvU (v := .p (.list .str) a0) rfl rfl) (.cons (mvU (v := .p .str a2) rfl rfl) (.cons (caV (rs := [(55, .p (.list .str) a0), (56, .p .str a2)]) (vw := []) rfl rfl (.func _) hb_15 (millwrightnum_Has.ok O k a0 a2 v7 hv7) (.cons o0 (.cons o1 .nil)) (.cons (.same _) (.cons (.same _) .nil)) (by simp) (.inl rfl)) (.cons (sok_eqB (U := Un) (rs := [(54, .p .bool v6), (57, .p .bool v7)]) rfl rfl Try.underlying4 o0 o1) (.cons (mvU (v := .p .bool ((v6 == v7) : Bool)) rfl rfl) (.cons (skU rfl rfl hc8) (.cons (skU rfl rfl hc8) (.cons (skU rfl rfl hc8) (.cons (pkF (rs := [(59, .p .bool ((v6 == v7) : Bool))]) rfl rfl o0 hc8 (.bool _ _)) (.cons (mvU (v := .p .bool false) rfl rfl) (.cons (skU rfl rfl rfl) (.cons (skU rfl rfl rfl) (.cons (skU rfl rfl rfl) (.cons (pkF (rs := [(64, .p .bool false)]) rfl rfl o0 rfl (.bool _ _)) (.cons (mvA (v := .p .bool false) rfl rfl) .nil)))))))))))))))))) (by kernel_rfl) (by kernel_rfl) (by kernel_rfl) (cvR _) ?_
          refine tnU ?_
          refine WpC.ret ?_
          have hq := Option.some.inj h
          subst hq
          exact ends_ret (retV_1 rfl (.head _)) ain_nil

end Go.Proofs.Ytnbnfjgedinlbab
