/- A part of the proof of a given law: NLC2. Own work, printed in part by a program of mine. -/
import Derived.Test.YtnbnfjgedinlbabK11NLC1
namespace Go.Proofs.Ytnbnfjgedinlbab
open Go Go.AM
set_option linter.unusedVariables false
set_option linter.unusedSimpArgs false
set_option maxRecDepth 100000
theorem slices_Grow_string_string_m0.ok (O : Out) (k : Nat) (a0 : Int) (out : List (List UInt8)) (h : slices_Grow_string_string_m0.f k a0 = some out) : COk Un O Try.prog 33 { ar := [.lit (.slice none 0 0), .p I6 a0], r := .vec 60500 1 0 out.length, bs' := [(60500, .row 9 .str out false)], nn := [60500] } := by
  refine cok_of_wp Try.func33 rfl (k := 27) rfl (Nat.le_of_ble_eq_true rfl) (namesOk_of (by kernel_rfl)) ?_
  intro B hN
  refine WpC.conv (cvK (b := ⟨[(0, .lit (.slice none 0 0)), (1, .p I6 a0)], []⟩) [0, 1] [] (by kernel_rfl)) ?_
  unfold slices_Grow_string_string_m0.f at h
  refine WpC.seq ?_
  refine rgU (st1 := ⟨[(0, .lit (.slice none 0 0)), (1, .p I6 a0)], []⟩) [0, 1] [] hN (.cons (moU (rs := []) rfl (.inr rfl) (.lit _ _ rfl)) .nil) (by kernel_rfl) (by kernel_rfl) (by kernel_rfl) (cvR _) ?_
  refine tnU ?_
  refine sqJ (fun st' => slices_Grow_string_string_m0.j7 k a0 = some out ∧ st' = ⟨[(0, .lit (.slice none 0 0)), (1, .p I6 a0)], []⟩) ?_ ?_
  · refine WpC.seq ?_
    refine rgU (st1 := ⟨[(0, .lit (.slice none 0 0)), (1, .p I6 a0), (6, .p .bool ((decide (a0 < 0)) : Bool))], []⟩) [0, 1, 6] [] hN (.cons (mvU (v := .p I6 a0) rfl rfl) (.cons (cmU (rs := [(5, .p I6 a0)]) rfl rfl o0 (.int _ _ _) rfl) .nil)) (by kernel_rfl) (by kernel_rfl) (by kernel_rfl) (cvR _) ?_
    refine tnU ?_
    refine cdU (b := (decide (a0 < 0))) (.tmp (.tail _ (.tail _ (.head _)))) (fun hc8 => ?_) (fun hc8 => ?_)
    · replace h := ite_t hc8 h
      cases h
    · replace h := ite_f hc8 h
      refine WpC.conv (cvK (b := ⟨[(0, .lit (.slice none 0 0)), (1, .p I6 a0)], []⟩) [0, 1] [] (by kernel_rfl)) (WpC.skip ?_)
      refine tnU ?_
      exact ⟨h, rfl⟩
  · rintro _ ⟨h, rfl⟩
    unfold slices_Grow_string_string_m0.j7 at h
    refine sqJ (fun st' => ∃ v1 : List (List UInt8), slices_Grow_string_string_m0.j2 k v1 = some out ∧ st' = ⟨[(0, .vec 1000 1 0 v1.length)], [(1000, .row 9 .str v1 false)]⟩) ?_ ?_
    · refine WpC.seq ?_
      refine rgU (st1 := ⟨[(0, .lit (.slice none 0 0)), (1, .p I6 ((IntKind.i64.wrap (a0 - (IntKind.i64.wrap (0 - 0)))) : Int))], []⟩) [0, 1] [] hN (.cons (mvU (v := .p I6 a0) rfl rfl) (.cons (mvU (v := .lit (.slice none 0 0)) rfl rfl) (.cons (sok_capNil (U := Un) (rs := [(9, .lit (.slice none 0 0))]) rfl rfl Try.underlying22 o0) (.cons (mvU (v := .lit (.slice none 0 0)) rfl rfl) (.cons (sok_lenNil (U := Un) (rs := [(11, .lit (.slice none 0 0))]) rfl rfl Try.underlying22 o0) (.cons (sok_arith (U := Un) (rs := [(10, .p I6 (0 : Int)), (12, .p I6 (0 : Int))]) rfl rfl o0 o1 rfl) (.cons (sok_arith (U := Un) (rs := [(8, .p I6 a0), (13, .p I6 ((IntKind.i64.wrap (0 - 0)) : Int))]) rfl rfl o0 o1 rfl) (.cons (mvA (v := .p I6 ((IntKind.i64.wrap (a0 - (IntKind.i64.wrap (0 - 0)))) : Int)) rfl rfl) .nil)))))))) (by kernel_rfl) (by kernel_rfl) (by kernel_rfl) (cvR _) ?_
      refine tnU ?_
      refine WpC.seq ?_
      refine rgU (st1 := ⟨[(0, .lit (.slice none 0 0)), (1, .p I6 ((IntKind.i64.wrap (a0 - (IntKind.i64.wrap (0 - 0)))) : Int)), (16, .p .bool ((decide ((IntKind.i64.wrap (a0 - (IntKind.i64.wrap (0 - 0)))) > 0)) : Bool))], []⟩) [0, 1, 16] [] hN (.cons (mvU (v := .p I6 ((IntKind.i64.wrap (a0 - (IntKind.i64.wrap (0 - 0)))) : Int)) rfl rfl) (.cons (cmU (rs := [(15, .p I6 ((IntKind.i64.wrap (a0 - (IntKind.i64.wrap (0 - 0)))) : Int))]) rfl rfl o0 (.int _ _ _) rfl) .nil)) (by kernel_rfl) (by kernel_rfl) (by kernel_rfl) (cvR _) ?_
      refine tnU ?_
      refine cdU (b := (decide ((IntKind.i64.wrap (a0 - (IntKind.i64.wrap (0 - 0)))) > 0))) (.tmp (.tail _ (.tail _ (.head _)))) (fun hc3 => ?_) (fun hc3 => ?_)
      · replace h := ite_t hc3 h
        obtain ⟨g4, h⟩ := if_some h
        obtain ⟨g5, h⟩ := if_some h
        obtain ⟨g6, h⟩ := if_some h
        refine rgU (st1 := ⟨[(0, .vec 22 1 0 0)], [(22, .row 9 .str ([] : List (List UInt8)) false)]⟩) [0] [22] hN (.cons (mvU (v := .lit (.slice none 0 0)) rfl rfl) (.cons (mvU (v := .lit (.slice none 0 0)) rfl rfl) (.cons (sok_capNil (U := Un) (rs := [(18, .lit (.slice none 0 0))]) rfl rfl Try.underlying22 o0) (.cons (sok_sliceNil (U := Un) (t := .str) (rs := [(17, .lit (.slice none 0 0)), (19, .p I6 (0 : Int))]) rfl rfl sl_22 o0 .no (.at o1)) (.cons (mvU (v := .p I6 ((IntKind.i64.wrap (a0 - (IntKind.i64.wrap (0 - 0)))) : Int)) rfl rfl) (.cons (sok_appendNZ (U := Un) (t := .str) (rs := [(20, .lit (.slice none 0 0)), (21, .p I6 ((IntKind.i64.wrap (a0 - (IntKind.i64.wrap (0 - 0)))) : Int))]) (n := (IntKind.i64.wrap (a0 - (IntKind.i64.wrap (0 - 0))))) rfl rfl rfl row_22 Try.underlying3 o0 o1 g4 g5 (by decide)) (.cons (mvU (v := .lit (.slice none 0 0)) rfl rfl) (.cons (sok_lenNil (U := Un) (rs := [(23, .lit (.slice none 0 0))]) rfl rfl Try.underlying22 o0) (.cons (sok_sliceV (U := Un) (t := .str) (rs := [(22, .vec 22 1 0 ((IntKind.i64.wrap (a0 - (IntKind.i64.wrap (0 - 0)))).toNat)), (24, .p I6 (0 : Int))]) (xs := ([] : List (List UInt8))) (fx := false) rfl rfl sl_22 o0 .no (.at o1) g6.1 g6.2.1 g6.2.2) (.cons (mvA (v := .vec 22 1 0 0) rfl rfl) .nil)))))))))) (by kernel_rfl) (by kernel_rfl) (by kernel_rfl) (cvT (Conv.ren (U := Un) (st' := ⟨[(0, .vec 1000 1 0 0)], [(1000, .row 9 .str ([] : List (List UInt8)) false)]⟩) 22 1000 (by unfold K0; omega) (by kernel_rfl) (by kernel_rfl) (by kernel_rfl)) (cvK (b := ⟨[(0, .vec 1000 1 0 0)], [(1000, .row 9 .str ([] : List (List UInt8)) false)]⟩) [0] [1000] (by kernel_rfl))) ?_
        refine tnU ?_
        exact ⟨([] : List (List UInt8)), h, rfl⟩
      · replace h := ite_f hc3 h
        refine WpC.conv (cvT (cvK (b := ⟨[(0, .lit (.slice none 0 0))], []⟩) [0] [] (by kernel_rfl)) (cvT (Conv.thaw (U := Un) 0 1000 9 .str (.head _) (by kernel_rfl) (by unfold K0; omega)) (cvK (b := ⟨[(0, .vec 1000 1 0 0)], [(1000, .row 9 .str [] false)]⟩) [0] [1000] (by kernel_rfl)))) (WpC.skip ?_)
        refine tnU ?_
        exact ⟨[], h, rfl⟩
    · rintro _ ⟨v1, h, rfl⟩
      unfold slices_Grow_string_string_m0.j2 at h
      refine WpC.seq ?_
      refine rgU (st1 := ⟨[(4, .vec 1000 1 0 v1.length)], [(1000, .row 9 .str v1 false)]⟩) [4] [1000] hN (.cons (mvU (v := .vec 1000 1 0 v1.length) rfl rfl) (.cons (mvA (v := .vec 1000 1 0 v1.length) rfl rfl) .nil)) (by kernel_rfl) (by kernel_rfl) (by kernel_rfl) (cvR _) ?_
      refine tnU ?_
      refine WpC.conv (cvT (Conv.ren (U := Un) (st' := ⟨[(4, .vec 60500 1 0 v1.length)], [(60500, .row 9 .str v1 false)]⟩) 1000 60500 (by unfold K0; omega) (by kernel_rfl) (by kernel_rfl) (by kernel_rfl)) (cvK (b := ⟨[(4, .vec 60500 1 0 v1.length)], [(60500, .row 9 .str v1 false)]⟩) [4] [60500] (by kernel_rfl))) (WpC.ret ?_)
      have hq := Option.some.inj h
      subst hq
      exact ends_ret (retV_1 rfl (.head _)) (ain_cons (.head _) ain_nil)

theorem slices_Concat_string_string.ok (O : Out) (k : Nat) (a0 : List (List (List UInt8))) (out : List (List UInt8)) (h : slices_Concat_string_string.f k a0 = some out) : COk Un O Try.prog 22 { ar := [.p (.list (.list .str)) a0], r := .vec 60500 1 0 out.length, bs' := [(60500, .row 9 .str out false)], nn := [60500] } := by
  refine cok_of_wp Try.func22 rfl (k := 36) rfl (Nat.le_of_ble_eq_true rfl) (namesOk_of (by kernel_rfl)) ?_
  intro B hN
  refine WpC.conv (cvK (b := ⟨[(0, .p (.list (.list .str)) a0)], []⟩) [0] [] (by kernel_rfl)) ?_
  unfold slices_Concat_string_string.f at h
  refine WpC.seq ?_
  refine rgU (st1 := ⟨[(0, .p (.list (.list .str)) a0)], []⟩) [0] [] hN (.cons (moU (rs := []) rfl (.inr rfl) (.lit _ _ rfl)) .nil) (by kernel_rfl) (by kernel_rfl) (by kernel_rfl) (cvR _) ?_
  refine tnU ?_
  refine WpC.seq ?_
  refine rgU (st1 := ⟨[(0, .p (.list (.list .str)) a0), (3, .p I6 (0 : Int))], []⟩) [0, 3] [] hN (.cons (moU (rs := []) rfl (.inr rfl) (.int _ _ _)) .nil) (by kernel_rfl) (by kernel_rfl) (by kernel_rfl) (cvR _) ?_
  refine tnU ?_
  refine sqJ (fun st' => ∃ v1 : Int, slices_Concat_string_string.j15 k a0 v1 = some out ∧ st' = ⟨[(0, .p (.list (.list .str)) a0), (3, .p I6 v1)], []⟩) ?_ ?_
  · refine WpC.seq ?_
    refine rgU (st1 := ⟨[(0, .p (.list (.list .str)) a0), (3, .p I6 (0 : Int)), (9, .p (.list (.list .str)) a0), (10, .p I6 ((a0.length : Int) : Int)), (11, .p I6 (0 : Int))], []⟩) [0, 3, 9, 10, 11] [] hN (.cons (mvU (v := .p (.list (.list .str)) a0) rfl rfl) (.cons (sok_lenL (U := Un) (rs := [(9, .p (.list (.list .str)) a0)]) rfl rfl Try.underlying44 o0) (.cons (moU (rs := []) rfl (.inl rfl) (.int _ _ _)) .nil))) (by kernel_rfl) (by kernel_rfl) (by kernel_rfl) (cvR _) ?_
    refine tnU ?_
    refine WpC.block ?_
    obtain ⟨o20, hlo20, h⟩ := bind_some h
    have hout21 := h
    clear h
    refine WpC.loop (U := Un) (fun n st' => ∃ v16 : Int, ∃ v17 : Int, slices_Concat_string_string.l18 k a0 n v16 v17 = some o20 ∧ st' = ⟨[(0, .p (.list (.list .str)) a0), (3, .p I6 v16), (9, .p (.list (.list .str)) a0), (10, .p I6 ((a0.length : Int) : Int)), (11, .p I6 v17)], []⟩) k ⟨0, 0, hlo20, rfl⟩ ?_
    clear hlo20
    rintro (_ | n) _ ⟨v16, v17, h, rfl⟩
    · cases h
    · rw [slices_Concat_string_string.l18] at h
      refine WpC.seq ?_
      refine rgU (st1 := ⟨[(0, .p (.list (.list .str)) a0), (3, .p I6 v16), (9, .p (.list (.list .str)) a0), (10, .p I6 ((a0.length : Int) : Int)), (11, .p I6 v17), (12, .p .bool ((decide (v17 < (a0.length : Int))) : Bool))], []⟩) [0, 3, 9, 10, 11, 12] [] hN (.cons (cmU (rs := [(11, .p I6 v17), (10, .p I6 ((a0.length : Int) : Int))]) rfl rfl o0 o1 rfl) .nil) (by kernel_rfl) (by kernel_rfl) (by kernel_rfl) (cvR _) ?_
      refine tnU ?_
      refine WpC.seq ?_
      refine cdU (b := (decide (v17 < (a0.length : Int)))) (.tmp (.tail _ (.tail _ (.tail _ (.tail _ (.tail _ (.head _))))))) (fun hc22 => ?_) (fun hc22 => ?_)
      · replace h := ite_t hc22 h
        refine WpC.conv (cvK (b := ⟨[(0, .p (.list (.list .str)) a0), (3, .p I6 v16), (9, .p (.list (.list .str)) a0), (10, .p I6 ((a0.length : Int) : Int)), (11, .p I6 v17)], []⟩) [0, 3, 9, 10, 11] [] (by kernel_rfl)) (WpC.skip ?_)
        refine tnU ?_
        refine sqJ (fun st' => ∃ v23 : Int, slices_Concat_string_string.j24 k (slices_Concat_string_string.l18 k a0 n) a0 v17 v23 = some o20 ∧ st' = ⟨[(0, .p (.list (.list .str)) a0), (3, .p I6 v23), (9, .p (.list (.list .str)) a0), (10, .p I6 ((a0.length : Int) : Int)), (11, .p I6 v17)], []⟩) ?_ ?_
        · refine WpC.block ?_
          refine WpC.seq ?_
          obtain ⟨v25, hv25, h⟩ := bind_some h
          refine rgU (st1 := ⟨[(0, .p (.list (.list .str)) a0), (3, .p I6 v16), (5, .p (.list .str) v25), (9, .p (.list (.list .str)) a0), (10, .p I6 ((a0.length : Int) : Int)), (11, .p I6 v17)], []⟩) [0, 3, 5, 9, 10, 11] [] hN (.cons (sok_indexL (U := Un) (rs := [(9, .p (.list (.list .str)) a0), (11, .p I6 v17)]) rfl rfl sl_44 o0 o1 hv25) (.cons (sok_loadP (U := Un) (rs := [(13, .pp (.list .str) v25)]) rfl rfl ty_22 o0) (.cons (mvA (v := .p (.list .str) v25) rfl rfl) .nil))) (by kernel_rfl) (by kernel_rfl) (by kernel_rfl) (cvR _) ?_
          refine tnU ?_
          refine WpC.seq ?_
          refine rgU (st1 := ⟨[(0, .p (.list (.list .str)) a0), (3, .p I6 ((IntKind.i64.wrap (v16 + (v25.length : Int))) : Int)), (9, .p (.list (.list .str)) a0), (10, .p I6 ((a0.length : Int) : Int)), (11, .p I6 v17)], []⟩) [0, 3, 9, 10, 11] [] hN (.cons (mvU (v := .p I6 v16) rfl rfl) (.cons (mvU (v := .p (.list .str) v25) rfl rfl) (.cons (sok_lenL (U := Un) (rs := [(16, .p (.list .str) v25)]) rfl rfl Try.underlying22 o0) (.cons (sok_arith (U := Un) (rs := [(15, .p I6 v16), (17, .p I6 ((v25.length : Int) : Int))]) rfl rfl o0 o1 rfl) (.cons (mvA (v := .p I6 ((IntKind.i64.wrap (v16 + (v25.length : Int))) : Int)) rfl rfl) .nil))))) (by kernel_rfl) (by kernel_rfl) (by kernel_rfl) (cvR _) ?_
          refine tnU ?_
          refine WpC.seq ?_
          refine rgU (st1 := ⟨[(0, .p (.list (.list .str)) a0), (3, .p I6 ((IntKind.i64.wrap (v16 + (v25.length : Int))) : Int)), (9, .p (.list (.list .str)) a0), (10, .p I6 ((a0.length : Int) : Int)), (11, .p I6 v17), (20, .p .bool ((decide ((IntKind.i64.wrap (v16 + (v25.length : Int))) < 0)) : Bool))], []⟩) [0, 3, 9, 10, 11, 20] [] hN (.cons (mvU (v := .p I6 ((IntKind.i64.wrap (v16 + (v25.length : Int))) : Int)) rfl rfl) (.cons (cmU (rs := [(19, .p I6 ((IntKind.i64.wrap (v16 + (v25.length : Int))) : Int))]) rfl rfl o0 (.int _ _ _) rfl) .nil)) (by kernel_rfl) (by kernel_rfl) (by kernel_rfl) (cvR _) ?_
          refine tnU ?_
          refine cdU (b := (decide ((IntKind.i64.wrap (v16 + (v25.length : Int))) < 0))) (.tmp (.tail _ (.tail _ (.tail _ (.tail _ (.tail _ (.head _))))))) (fun hc26 => ?_) (fun hc26 => ?_)
          · replace h := ite_t hc26 h
            cases h
          · replace h := ite_f hc26 h
            refine WpC.conv (cvK (b := ⟨[(0, .p (.list (.list .str)) a0), (3, .p I6 ((IntKind.i64.wrap (v16 + (v25.length : Int))) : Int)), (9, .p (.list (.list .str)) a0), (10, .p I6 ((a0.length : Int) : Int)), (11, .p I6 v17)], []⟩) [0, 3, 9, 10, 11] [] (by kernel_rfl)) (WpC.skip ?_)
            refine blockQ_normal ?_
            refine tnU ?_
            exact ⟨(IntKind.i64.wrap (v16 + (v25.length : Int))), h, rfl⟩
        · rintro _ ⟨v23, h, rfl⟩
          unfold slices_Concat_string_string.j24 at h
          refine rgU (st1 := ⟨[(0, .p (.list (.list .str)) a0), (3, .p I6 v23), (9, .p (.list (.list .str)) a0), (10, .p I6 ((a0.length : Int) : Int)), (11, .p I6 ((IntKind.i64.wrap (v17 + 1)) : Int))], []⟩) [0, 3, 9, 10, 11] [] hN (.cons (sok_arith (U := Un) (rs := [(11, .p I6 v17)]) rfl rfl o0 (.int _ _ _) rfl) (.cons (mvU (v := .p I6 ((IntKind.i64.wrap (v17 + 1)) : Int)) rfl rfl) .nil)) (by kernel_rfl) (by kernel_rfl) (by kernel_rfl) (cvR _) ?_
          refine tnU ?_
          exact ⟨n, Nat.lt_succ_self n, v23, (IntKind.i64.wrap (v17 + 1)), h, rfl⟩
      · replace h := ite_f hc22 h
        refine WpC.conv (cvK (b := ⟨[(0, .p (.list (.list .str)) a0), (3, .p I6 v16)], []⟩) [0, 3] [] (by kernel_rfl)) (WpC.exit ?_)
        refine thenQ_exit ?_
        have hq := Option.some.inj h
        subst hq
        refine thenQ_exit ?_
        have h := hout21
        refine blockQ_hit ?_
        refine tnU ?_
        exact ⟨v16, h, rfl⟩
  · rintro _ ⟨v1, h, rfl⟩
    unfold slices_Concat_string_string.j15 at h
    refine WpC.seq ?_
    obtain ⟨v2, hv2, h⟩ := bind_some h
    refine rgU (st1 := ⟨[(0, .p (.list (.list .str)) a0), (6, .vec 10001 1 0 v2.length)], [(10001, .row 9 .str v2 false)]⟩) [0, 6] [10001] hN (.cons (mvU (v := .p I6 v1) rfl rfl) (.cons (caV (rs := [(23, .p I6 v1)]) (vw := []) rfl rfl (.func _) hb_33 (COk.ren (slices_Grow_string_string_m0.ok O k v1 v2 hv2) (fun n => if n = 60500 then 10001 else n) (injOn_of (by kernel_rfl))) (.cons (.lit _ _ rfl) (.cons o0 .nil)) (.cons (.same _) (.cons (.same _) .nil)) (by simp) (.inl rfl)) (.cons (mvA (v := .vec 10001 1 0 v2.length) rfl rfl) .nil))) (by kernel_rfl) (by kernel_rfl) (by kernel_rfl) (cvR _) ?_
    refine tnU ?_
    refine sqJ (fun st' => ∃ v3 : List (List UInt8), slices_Concat_string_string.j4 k v3 = some out ∧ st' = ⟨[(6, .vec 1006 1 0 v3.length)], [(1006, .row 9 .str v3 false)]⟩) ?_ ?_
    · refine WpC.seq ?_
      refine rgU (st1 := ⟨[(6, .vec 10001 1 0 v2.length), (25, .p (.list (.list .str)) a0), (26, .p I6 ((a0.length : Int) : Int)), (27, .p I6 (0 : Int))], [(10001, .row 9 .str v2 false)]⟩) [6, 25, 26, 27] [10001] hN (.cons (mvU (v := .p (.list (.list .str)) a0) rfl rfl) (.cons (sok_lenL (U := Un) (rs := [(25, .p (.list (.list .str)) a0)]) rfl rfl Try.underlying44 o0) (.cons (moU (rs := []) rfl (.inl rfl) (.int _ _ _)) .nil))) (by kernel_rfl) (by kernel_rfl) (by kernel_rfl) (cvR _) ?_
      refine tnU ?_
      refine WpC.block ?_
      obtain ⟨o9, hlo9, h⟩ := bind_some h
      have hout10 := h
      clear h
      refine WpC.conv (cvT (Conv.ren (U := Un) (st' := ⟨[(6, .vec 1006 1 0 v2.length), (25, .p (.list (.list .str)) a0), (26, .p I6 ((a0.length : Int) : Int)), (27, .p I6 (0 : Int))], [(1006, .row 9 .str v2 false)]⟩) 10001 1006 (by unfold K0; omega) (by kernel_rfl) (by kernel_rfl) (by kernel_rfl)) (cvK (b := ⟨[(6, .vec 1006 1 0 v2.length), (25, .p (.list (.list .str)) a0), (26, .p I6 ((a0.length : Int) : Int)), (27, .p I6 (0 : Int))], [(1006, .row 9 .str v2 false)]⟩) [6, 25, 26, 27] [1006] (by kernel_rfl))) ?_
      refine WpC.loop (U := Un) (fun n st' => ∃ v5 : List (List UInt8), ∃ v6 : Int, slices_Concat_string_string.l7 k a0 n v5 v6 = some o9 ∧ st' = ⟨[(6, .vec 1006 1 0 v5.length), (25, .p (.list (.list .str)) a0), (26, .p I6 ((a0.length : Int) : Int)), (27, .p I6 v6)], [(1006, .row 9 .str v5 false)]⟩) k ⟨v2, 0, hlo9, rfl⟩ ?_
      clear hlo9
      rintro (_ | n) _ ⟨v5, v6, h, rfl⟩
      · cases h
      · rw [slices_Concat_string_string.l7] at h
        refine WpC.seq ?_
        refine rgU (st1 := ⟨[(6, .vec 1006 1 0 v5.length), (25, .p (.list (.list .str)) a0), (26, .p I6 ((a0.length : Int) : Int)), (27, .p I6 v6), (28, .p .bool ((decide (v6 < (a0.length : Int))) : Bool))], [(1006, .row 9 .str v5 false)]⟩) [6, 25, 26, 27, 28] [1006] hN (.cons (cmU (rs := [(27, .p I6 v6), (26, .p I6 ((a0.length : Int) : Int))]) rfl rfl o0 o1 rfl) .nil) (by kernel_rfl) (by kernel_rfl) (by kernel_rfl) (cvR _) ?_
        refine tnU ?_
        refine WpC.seq ?_
        refine cdU (b := (decide (v6 < (a0.length : Int)))) (.tmp (.tail _ (.tail _ (.tail _ (.tail _ (.head _)))))) (fun hc11 => ?_) (fun hc11 => ?_)
        · replace h := ite_t hc11 h
          refine WpC.conv (cvK (b := ⟨[(6, .vec 1006 1 0 v5.length), (25, .p (.list (.list .str)) a0), (26, .p I6 ((a0.length : Int) : Int)), (27, .p I6 v6)], [(1006, .row 9 .str v5 false)]⟩) [6, 25, 26, 27] [1006] (by kernel_rfl)) (WpC.skip ?_)
          refine tnU ?_
          refine WpC.seq ?_
          refine WpC.block ?_
          refine WpC.seq ?_
          obtain ⟨v12, hv12, h⟩ := bind_some h
          refine rgU (st1 := ⟨[(6, .vec 1006 1 0 v5.length), (8, .p (.list .str) v12), (25, .p (.list (.list .str)) a0), (26, .p I6 ((a0.length : Int) : Int)), (27, .p I6 v6)], [(1006, .row 9 .str v5 false)]⟩) [6, 8, 25, 26, 27] [1006] hN (.cons (sok_indexL (U := Un) (rs := [(25, .p (.list (.list .str)) a0), (27, .p I6 v6)]) rfl rfl sl_44 o0 o1 hv12) (.cons (sok_loadP (U := Un) (rs := [(29, .pp (.list .str) v12)]) rfl rfl ty_22 o0) (.cons (mvA (v := .p (.list .str) v12) rfl rfl) .nil))) (by kernel_rfl) (by kernel_rfl) (by kernel_rfl) (cvR _) ?_
          refine tnU ?_
          obtain ⟨g13, h⟩ := if_some h
          refine rgU (st1 := ⟨[(6, .vec 33 1 0 ((v5 ++ v12).length)), (25, .p (.list (.list .str)) a0), (26, .p I6 ((a0.length : Int) : Int)), (27, .p I6 v6)], [(33, .row 9 .str (v5 ++ v12) false)]⟩) [6, 25, 26, 27] [33] hN (.cons (mvU (v := .vec 1006 1 0 v5.length) rfl rfl) (.cons (mvU (v := .p (.list .str) v12) rfl rfl) (.cons (sok_append' (U := Un) (t := .str) (rs := [(31, .vec 1006 1 0 v5.length), (32, .p (.list .str) v12)]) (vw := []) (xs := v5) (ys := v12) (fx := false) rfl rfl rfl row_22 (by decide) o0 o1 (.same _) (by simp) g13) (.cons (mvA (v := .vec 33 1 0 ((v5 ++ v12).length)) rfl rfl) .nil)))) (by kernel_rfl) (by kernel_rfl) (by kernel_rfl) (cvR _) ?_
          refine blockQ_normal ?_
          refine tnU ?_
          refine rgU (st1 := ⟨[(6, .vec 33 1 0 ((v5 ++ v12).length)), (25, .p (.list (.list .str)) a0), (26, .p I6 ((a0.length : Int) : Int)), (27, .p I6 ((IntKind.i64.wrap (v6 + 1)) : Int))], [(33, .row 9 .str (v5 ++ v12) false)]⟩) [6, 25, 26, 27] [33] hN (.cons (sok_arith (U := Un) (rs := [(27, .p I6 v6)]) rfl rfl o0 (.int _ _ _) rfl) (.cons (mvU (v := .p I6 ((IntKind.i64.wrap (v6 + 1)) : Int)) rfl rfl) .nil)) (by kernel_rfl) (by kernel_rfl) (by kernel_rfl) (cvT (Conv.ren (U := Un) (st' := ⟨[(6, .vec 1006 1 0 ((v5 ++ v12).length)), (25, .p (.list (.list .str)) a0), (26, .p I6 ((a0.length : Int) : Int)), (27, .p I6 ((IntKind.i64.wrap (v6 + 1)) : Int))], [(1006, .row 9 .str (v5 ++ v12) false)]⟩) 33 1006 (by unfold K0; omega) (by kernel_rfl) (by kernel_rfl) (by kernel_rfl)) (cvK (b := ⟨[(6, .vec 1006 1 0 ((v5 ++ v12).length)), (25, .p (.list (.list .str)) a0), (26, .p I6 ((a0.length : Int) : Int)), (27, .p I6 ((IntKind.i64.wrap (v6 + 1)) : Int))], [(1006, .row 9 .str (v5 ++ v12) false)]⟩) [6, 25, 26, 27] [1006] (by kernel_rfl))) ?_
          refine tnU ?_
          exact ⟨n, Nat.lt_succ_self n, (v5 ++ v12), (IntKind.i64.wrap (v6 + 1)), h, rfl⟩
        · replace h := ite_f hc11 h
          refine WpC.conv (cvK (b := ⟨[(6, .vec 1006 1 0 v5.length)], [(1006, .row 9 .str v5 false)]⟩) [6] [1006] (by kernel_rfl)) (WpC.exit ?_)
          refine thenQ_exit ?_
          have hq := Option.some.inj h
          subst hq
          refine thenQ_exit ?_
          have h := hout10
          refine blockQ_hit ?_
          refine tnU ?_
          exact ⟨v5, h, rfl⟩
    · rintro _ ⟨v3, h, rfl⟩
      unfold slices_Concat_string_string.j4 at h
      refine WpC.seq ?_
      refine rgU (st1 := ⟨[(2, .vec 1006 1 0 v3.length)], [(1006, .row 9 .str v3 false)]⟩) [2] [1006] hN (.cons (mvU (v := .vec 1006 1 0 v3.length) rfl rfl) (.cons (mvA (v := .vec 1006 1 0 v3.length) rfl rfl) .nil)) (by kernel_rfl) (by kernel_rfl) (by kernel_rfl) (cvR _) ?_
      refine tnU ?_
      refine WpC.conv (cvT (Conv.ren (U := Un) (st' := ⟨[(2, .vec 60500 1 0 v3.length)], [(60500, .row 9 .str v3 false)]⟩) 1006 60500 (by unfold K0; omega) (by kernel_rfl) (by kernel_rfl) (by kernel_rfl)) (cvK (b := ⟨[(2, .vec 60500 1 0 v3.length)], [(60500, .row 9 .str v3 false)]⟩) [2] [60500] (by kernel_rfl))) (WpC.ret ?_)
      have hq := Option.some.inj h
      subst hq
      exact ends_ret (retV_1 rfl (.head _)) (ain_cons (.head _) ain_nil)

theorem slices_Index_string_string.ok (O : Out) (k : Nat) (a0 : List (List UInt8)) (a1 : List UInt8) (out : Int) (h : slices_Index_string_string.f k a0 a1 = some out) : COk Un O Try.prog 34 { ar := [.p (.list .str) a0, .p .str a1], r := .p I6 out } := by
  refine cok_of_wp Try.func34 rfl (k := 19) rfl (Nat.le_of_ble_eq_true rfl) (namesOk_pure rfl rfl rfl rfl) ?_
  intro B hN
  refine WpC.conv (cvK (b := ⟨[(0, .p (.list .str) a0), (1, .p .str a1)], []⟩) [0, 1] [] (by kernel_rfl)) ?_
  unfold slices_Index_string_string.f at h
  refine WpC.seq ?_
  refine rgU (st1 := ⟨[(0, .p (.list .str) a0), (1, .p .str a1)], []⟩) [0, 1] [] hN (.cons (moU (rs := []) rfl (.inr rfl) (.int _ _ _)) .nil) (by kernel_rfl) (by kernel_rfl) (by kernel_rfl) (cvR _) ?_
  refine tnU ?_
  refine sqJ (fun st' => slices_Index_string_string.j1 k = some out ∧ st' = ⟨[], []⟩) ?_ ?_
  · refine WpC.seq ?_
    refine rgU (st1 := ⟨[(0, .p (.list .str) a0), (1, .p .str a1), (7, .p I6 ((a0.length : Int) : Int)), (8, .p I6 (0 : Int))], []⟩) [0, 1, 7, 8] [] hN (.cons (mvU (v := .p (.list .str) a0) rfl rfl) (.cons (sok_lenL (U := Un) (rs := [(6, .p (.list .str) a0)]) rfl rfl Try.underlying22 o0) (.cons (moU (rs := []) rfl (.inl rfl) (.int _ _ _)) .nil))) (by kernel_rfl) (by kernel_rfl) (by kernel_rfl) (cvR _) ?_
    refine tnU ?_
    refine WpC.block ?_
    obtain ⟨o4, hlo4, h⟩ := bind_some h
    have hout5 := h
    clear h
    refine WpC.loop (U := Un) (fun n st' => ∃ v2 : Int, slices_Index_string_string.l3 k a0 a1 n v2 = some o4 ∧ st' = ⟨[(0, .p (.list .str) a0), (1, .p .str a1), (7, .p I6 ((a0.length : Int) : Int)), (8, .p I6 v2)], []⟩) k ⟨0, hlo4, rfl⟩ ?_
    clear hlo4
    rintro (_ | n) _ ⟨v2, h, rfl⟩
    · cases h
    · rw [slices_Index_string_string.l3] at h
      refine WpC.seq ?_
      refine rgU (st1 := ⟨[(0, .p (.list .str) a0), (1, .p .str a1), (7, .p I6 ((a0.length : Int) : Int)), (8, .p I6 v2), (9, .p .bool ((decide (v2 < (a0.length : Int))) : Bool))], []⟩) [0, 1, 7, 8, 9] [] hN (.cons (cmU (rs := [(8, .p I6 v2), (7, .p I6 ((a0.length : Int) : Int))]) rfl rfl o0 o1 rfl) .nil) (by kernel_rfl) (by kernel_rfl) (by kernel_rfl) (cvR _) ?_
      refine tnU ?_
      refine WpC.seq ?_
      refine cdU (b := (decide (v2 < (a0.length : Int)))) (.tmp (.tail _ (.tail _ (.tail _ (.tail _ (.head _)))))) (fun hc6 => ?_) (fun hc6 => ?_)
      · replace h := ite_t hc6 h
        refine WpC.conv (cvK (b := ⟨[(0, .p (.list .str) a0), (1, .p .str a1), (7, .p I6 ((a0.length : Int) : Int)), (8, .p I6 v2)], []⟩) [0, 1, 7, 8] [] (by kernel_rfl)) (WpC.skip ?_)
        refine tnU ?_
        refine WpC.seq ?_
        refine WpC.block ?_
        refine WpC.seq ?_
        refine rgU (st1 := ⟨[(0, .p (.list .str) a0), (1, .p .str a1), (5, .p I6 v2), (7, .p I6 ((a0.length : Int) : Int)), (8, .p I6 v2)], []⟩) [0, 1, 5, 7, 8] [] hN (.cons (mvU (v := .p I6 v2) rfl rfl) (.cons (mvA (v := .p I6 v2) rfl rfl) .nil)) (by kernel_rfl) (by kernel_rfl) (by kernel_rfl) (cvR _) ?_
        refine tnU ?_
        refine WpC.seq ?_
        obtain ⟨v7, hv7, h⟩ := bind_some h
        refine rgU (st1 := ⟨[(0, .p (.list .str) a0), (1, .p .str a1), (5, .p I6 v2), (7, .p I6 ((a0.length : Int) : Int)), (8, .p I6 v2), (16, .p .bool ((a1 == v7) : Bool))], []⟩) [0, 1, 5, 7, 8, 16] [] hN (.cons (mvU (v := .p .str a1) rfl rfl) (.cons (mvU (v := .p (.list .str) a0) rfl rfl) (.cons (mvU (v := .p I6 v2) rfl rfl) (.cons (sok_indexL (U := Un) (rs := [(12, .p (.list .str) a0), (13, .p I6 v2)]) rfl rfl sl_22 o0 o1 hv7) (.cons (sok_loadP (U := Un) (rs := [(14, .pp .str v7)]) rfl rfl ty_9 o0) (.cons (sok_cmpS (U := Un) (rs := [(11, .p .str a1), (15, .p .str v7)]) rfl rfl o0 o1 rfl) .nil)))))) (by kernel_rfl) (by kernel_rfl) (by kernel_rfl) (cvR _) ?_
        refine tnU ?_
        refine cdU (b := (a1 == v7)) (.tmp (.tail _ (.tail _ (.tail _ (.tail _ (.tail _ (.head _))))))) (fun hc8 => ?_) (fun hc8 => ?_)
        · replace h := ite_t hc8 h
          refine WpC.seq ?_
          refine rgU (st1 := ⟨[(4, .p I6 v2)], []⟩) [4] [] hN (.cons (mvU (v := .p I6 v2) rfl rfl) (.cons (mvA (v := .p I6 v2) rfl rfl) .nil)) (by kernel_rfl) (by kernel_rfl) (by kernel_rfl) (cvR _) ?_
          refine tnU ?_
          refine WpC.ret ?_
          refine blockQ_ret ?_
          refine thenQ_ret ?_
          have hq := Option.some.inj h
          subst hq
          refine thenQ_ret ?_
          have h := hout5
          refine blockQ_ret ?_
          refine thenQ_ret ?_
          have hq := Option.some.inj h
          subst hq
          exact ends_ret (retV_1 rfl (.head _)) ain_nil
        · replace h := ite_f hc8 h
          refine WpC.conv (cvK (b := ⟨[(0, .p (.list .str) a0), (1, .p .str a1), (7, .p I6 ((a0.length : Int) : Int)), (8, .p I6 v2)], []⟩) [0, 1, 7, 8] [] (by kernel_rfl)) (WpC.skip ?_)
          refine blockQ_normal ?_
          refine tnU ?_
          refine rgU (st1 := ⟨[(0, .p (.list .str) a0), (1, .p .str a1), (7, .p I6 ((a0.length : Int) : Int)), (8, .p I6 ((IntKind.i64.wrap (v2 + 1)) : Int))], []⟩) [0, 1, 7, 8] [] hN (.cons (sok_arith (U := Un) (rs := [(8, .p I6 v2)]) rfl rfl o0 (.int _ _ _) rfl) (.cons (mvU (v := .p I6 ((IntKind.i64.wrap (v2 + 1)) : Int)) rfl rfl) .nil)) (by kernel_rfl) (by kernel_rfl) (by kernel_rfl) (cvR _) ?_
          refine tnU ?_
          exact ⟨n, Nat.lt_succ_self n, (IntKind.i64.wrap (v2 + 1)), h, rfl⟩
      · replace h := ite_f hc6 h
        refine WpC.conv (cvK (b := ⟨[], []⟩) [] [] (by kernel_rfl)) (WpC.exit ?_)
        refine thenQ_exit ?_
        have hq := Option.some.inj h
        subst hq
        refine thenQ_exit ?_
        have h := hout5
        refine blockQ_hit ?_
        refine tnU ?_
        exact ⟨h, rfl⟩
  · rintro _ ⟨h, rfl⟩
    unfold slices_Index_string_string.j1 at h
    refine WpC.seq ?_
    refine rgU (st1 := ⟨[(4, .p I6 ((-1) : Int))], []⟩) [4] [] hN (.cons (moU (rs := []) rfl (.inr rfl) (.int _ _ _)) .nil) (by kernel_rfl) (by kernel_rfl) (by kernel_rfl) (cvR _) ?_
    refine tnU ?_
    refine WpC.ret ?_
    have hq := Option.some.inj h
    subst hq
    exact ends_ret (retV_1 rfl (.head _)) ain_nil

theorem slices_Contains_string_string.ok (O : Out) (k : Nat) (a0 : List (List UInt8)) (a1 : List UInt8) (out : Bool) (h : slices_Contains_string_string.f k a0 a1 = some out) : COk Un O Try.prog 24 { ar := [.p (.list .str) a0, .p .str a1], r := .p .bool out } := by
  refine cok_of_wp Try.func24 rfl (k := 9) rfl (Nat.le_of_ble_eq_true rfl) (namesOk_pure rfl rfl rfl rfl) ?_
  intro B hN
  refine WpC.conv (cvK (b := ⟨[(0, .p (.list .str) a0), (1, .p .str a1)], []⟩) [0, 1] [] (by kernel_rfl)) ?_
  unfold slices_Contains_string_string.f at h
  refine WpC.seq ?_
  refine rgU (st1 := ⟨[(0, .p (.list .str) a0), (1, .p .str a1)], []⟩) [0, 1] [] hN (.cons (moU (rs := []) rfl (.inr rfl) (.bool _ _)) .nil) (by kernel_rfl) (by kernel_rfl) (by kernel_rfl) (cvR _) ?_
  refine tnU ?_
  refine WpC.seq ?_
  obtain ⟨v1, hv1, h⟩ := bind_some h
  refine rgU (st1 := ⟨[(4, .p .bool ((decide (v1 ≥ 0)) : Bool))], []⟩) [4] [] hN (.cons (mvU (v := .p (.list .str) a0) rfl rfl) (.cons (mvU (v := .p .str a1) rfl rfl) (.cons (caV (rs := [(5, .p (.list .str) a0), (6, .p .str a1)]) (vw := []) rfl rfl (.func _) hb_34 (slices_Index_string_string.ok O k a0 a1 v1 hv1) (.cons o0 (.cons o1 .nil)) (.cons (.same _) (.cons (.same _) .nil)) (by simp) (.inl rfl)) (.cons (cmU (rs := [(7, .p I6 v1)]) rfl rfl o0 (.int _ _ _) rfl) (.cons (mvA (v := .p .bool ((decide (v1 ≥ 0)) : Bool)) rfl rfl) .nil))))) (by kernel_rfl) (by kernel_rfl) (by kernel_rfl) (cvR _) ?_
  refine tnU ?_
  refine WpC.ret ?_
  have hq := Option.some.inj h
  subst hq
  exact ends_ret (retV_1 rfl (.head _)) ain_nil

theorem names_Has.ok (O : Out) (k : Nat) (a0 : List (List UInt8)) (a1 : List UInt8) (out : Bool) (h : names_Has.f k a0 a1 = some out) : COk Un O Try.prog 14 { ar := [.p (.list .str) a0, .p .str a1], r := .p .bool out } := by
  refine cok_of_wp Try.func14 rfl (k := 8) rfl (Nat.le_of_ble_eq_true rfl) (namesOk_pure rfl rfl rfl rfl) ?_
  intro B hN
  refine WpC.conv (cvK (b := ⟨[(0, .p (.list .str) a0), (1, .p .str a1)], []⟩) [0, 1] [] (by kernel_rfl)) ?_
  unfold names_Has.f at h
  refine WpC.seq ?_
  refine rgU (st1 := ⟨[(0, .p (.list .str) a0), (1, .p .str a1)], []⟩) [0, 1] [] hN (.cons (moU (rs := []) rfl (.inr rfl) (.bool _ _)) .nil) (by kernel_rfl) (by kernel_rfl) (by kernel_rfl) (cvR _) ?_
  refine tnU ?_
  refine WpC.seq ?_
  obtain ⟨v1, hv1, h⟩ := bind_some h
  refine rgU (st1 := ⟨[(4, .p .bool v1)], []⟩) [4] [] hN (.cons (mvU (v := .p (.list .str) a0) rfl rfl) (.cons (mvU (v := .p .str a1) rfl rfl) (.cons (caV (rs := [(5, .p (.list .str) a0), (6, .p .str a1)]) (vw := []) rfl rfl (.func _) hb_24 (slices_Contains_string_string.ok O k a0 a1 v1 hv1) (.cons o0 (.cons o1 .nil)) (.cons (.same _) (.cons (.same _) .nil)) (by simp) (.inl rfl)) (.cons (mvA (v := .p .bool v1) rfl rfl) .nil)))) (by kernel_rfl) (by kernel_rfl) (by kernel_rfl) (cvR _) ?_
  refine tnU ?_
  refine WpC.ret ?_
  have hq := Option.some.inj h
  subst hq
  exact ends_ret (retV_1 rfl (.head _)) ain_nil

theorem names_Union.ok (O : Out) (k : Nat) (a0 : List (List UInt8)) (a1 : List (List UInt8)) (out : List (List UInt8)) (h : names_Union.f k a0 a1 = some out) : COk Un O Try.prog 10 { ar := [.p (.list .str) a0, .p (.list .str) a1], r := .vec 60500 1 0 out.length, bs' := [(60500, .row 9 .str out false)], nn := [60500] } := by
  refine cok_of_wp Try.func10 rfl (k := 27) rfl (Nat.le_of_ble_eq_true rfl) (namesOk_of (by kernel_rfl)) ?_
  intro B hN
  refine WpC.conv (cvK (b := ⟨[(0, .p (.list .str) a0), (1, .p (.list .str) a1)], []⟩) [0, 1] [] (by kernel_rfl)) ?_
  unfold names_Union.f at h
  refine WpC.seq ?_
  refine rgU (st1 := ⟨[(0, .p (.list .str) a0), (1, .p (.list .str) a1)], []⟩) [0, 1] [] hN (.cons (moU (rs := []) rfl (.inr rfl) (.lit _ _ rfl)) .nil) (by kernel_rfl) (by kernel_rfl) (by kernel_rfl) (cvR _) ?_
  refine tnU ?_
  refine WpC.seq ?_
  refine rgU (st1 := ⟨[(0, .p (.list .str) a0), (1, .p (.list .str) a1), (5, .lit (.slice none 0 0))], []⟩) [0, 1, 5] [] hN (.cons (moU (rs := []) rfl (.inr rfl) (.lit _ _ rfl)) .nil) (by kernel_rfl) (by kernel_rfl) (by kernel_rfl) (cvR _) ?_
  refine tnU ?_
  refine sqJ (fun st' => ∃ v1 : List (List UInt8), names_Union.j2 k v1 = some out ∧ st' = ⟨[(5, .vec 1005 1 0 v1.length)], [(1005, .row 9 .str v1 false)]⟩) ?_ ?_
  · refine WpC.seq ?_
    obtain ⟨v3, hv3, h⟩ := bind_some h
    refine rgU (st1 := ⟨[(5, .lit (.slice none 0 0)), (11, .vec 10001 1 0 v3.length), (12, .p I6 ((v3.length : Int) : Int)), (13, .p I6 (0 : Int))], [(10001, .row 9 .str v3 false)]⟩) [5, 11, 12, 13] [10001] hN (.cons (mvU (v := .p (.list .str) a0) rfl rfl) (.cons (mvU (v := .p (.list .str) a1) rfl rfl) (.cons (sok_buildSlice (U := Un) (t := .list .str) (rs := [(8, .p (.list .str) a0), (9, .p (.list .str) a1)]) (ys := [.tmp 8, .tmp 9]) (xs := [a0, a1]) rfl rfl rfl rfl row_44 (.cons o0 (.cons o1 .nil)) (by decide)) (.cons (caV (rs := [(10, .vec 10 1 0 ([a0, a1].length))]) (vw := [(10, .row 22 (.list .str) [a0, a1] true)]) rfl rfl (.func _) hb_22 (COk.ren (slices_Concat_string_string.ok O k [a0, a1] v3 hv3) (fun n => if n = 60500 then 10001 else n) (injOn_of (by kernel_rfl))) (.cons o0 .nil) (.cons (.whole' (.head _) (by first | rfl | (simp only [upd_length, List.length_replicate, List.length_append]; done) | (simp only [upd_length, List.length_replicate, List.length_append] at *; omega) | omega)) .nil) (fun _ _ h => (List.not_mem_nil (show _ ∈ ([] : List Nat) from h)).elim) (.inr rfl)) (.cons (sok_lenV (U := Un) (rs := [(11, .vec 10001 1 0 v3.length)]) rfl rfl Try.underlying22 o0) (.cons (moU (rs := []) rfl (.inl rfl) (.int _ _ _)) .nil)))))) (by kernel_rfl) (by kernel_rfl) (by kernel_rfl) (cvR _) ?_
    refine tnU ?_
    refine WpC.block ?_
    obtain ⟨o8, hlo8, h⟩ := bind_some h
    have hout9 := h
    clear h
    refine WpC.conv (cvT (Conv.thaw (U := Un) 5 1005 9 .str (.head _) (by kernel_rfl) (by unfold K0; omega)) (cvK (b := ⟨[(5, .vec 1005 1 0 0), (11, .vec 10001 1 0 v3.length), (12, .p I6 ((v3.length : Int) : Int)), (13, .p I6 (0 : Int))], [(1005, .row 9 .str [] false), (10001, .row 9 .str v3 false)]⟩) [5, 11, 12, 13] [1005, 10001] (by kernel_rfl))) ?_
    refine WpC.loop (U := Un) (fun n st' => ∃ v4 : List (List UInt8), ∃ v5 : Int, names_Union.l6 k v3 n v4 v5 = some o8 ∧ st' = ⟨[(5, .vec 1005 1 0 v4.length), (11, .vec 10001 1 0 v3.length), (12, .p I6 ((v3.length : Int) : Int)), (13, .p I6 v5)], [(1005, .row 9 .str v4 false), (10001, .row 9 .str v3 false)]⟩) k ⟨[], 0, hlo8, rfl⟩ ?_
    clear hlo8
    rintro (_ | n) _ ⟨v4, v5, h, rfl⟩
    · cases h
    · rw [names_Union.l6] at h
      refine WpC.seq ?_
      refine rgU (st1 := ⟨[(5, .vec 1005 1 0 v4.length), (11, .vec 10001 1 0 v3.length), (12, .p I6 ((v3.length : Int) : Int)), (13, .p I6 v5), (14, .p .bool ((decide (v5 < (v3.length : Int))) : Bool))], [(1005, .row 9 .str v4 false), (10001, .row 9 .str v3 false)]⟩) [5, 11, 12, 13, 14] [1005, 10001] hN (.cons (cmU (rs := [(13, .p I6 v5), (12, .p I6 ((v3.length : Int) : Int))]) rfl rfl o0 o1 rfl) .nil) (by kernel_rfl) (by kernel_rfl) (by kernel_rfl) (cvR _) ?_
      refine tnU ?_
      refine WpC.seq ?_
      refine cdU (b := (decide (v5 < (v3.length : Int)))) (.tmp (.tail _ (.tail _ (.tail _ (.tail _ (.head _)))))) (fun hc10 => ?_) (fun hc10 => ?_)
      · replace h := ite_t hc10 h
        refine WpC.conv (cvK (b := ⟨[(5, .vec 1005 1 0 v4.length), (11, .vec 10001 1 0 v3.length), (12, .p I6 ((v3.length : Int) : Int)), (13, .p I6 v5)], [(1005, .row 9 .str v4 false), (10001, .row 9 .str v3 false)]⟩) [5, 11, 12, 13] [1005, 10001] (by kernel_rfl)) (WpC.skip ?_)
        refine tnU ?_
        refine sqJ (fun st' => ∃ v11 : List (List UInt8), names_Union.j12 k (names_Union.l6 k v3 n) v3 v5 v11 = some o8 ∧ st' = ⟨[(5, .vec 1005 1 0 v11.length), (11, .vec 10001 1 0 v3.length), (12, .p I6 ((v3.length : Int) : Int)), (13, .p I6 v5)], [(1005, .row 9 .str v11 false), (10001, .row 9 .str v3 false)]⟩) ?_ ?_
        · refine WpC.block ?_
          refine WpC.seq ?_
          obtain ⟨g13, h⟩ := if_some h
          obtain ⟨v14, hv14, h⟩ := bind_some h
          refine rgU (st1 := ⟨[(5, .vec 1005 1 0 v4.length), (7, .p .str v14), (11, .vec 10001 1 0 v3.length), (12, .p I6 ((v3.length : Int) : Int)), (13, .p I6 v5)], [(1005, .row 9 .str v4 false), (10001, .row 9 .str v3 false)]⟩) [5, 7, 11, 12, 13] [1005, 10001] hN (.cons (sok_indexV (U := Un) (rs := [(11, .vec 10001 1 0 v3.length), (13, .p I6 v5)]) rfl rfl sl_22 o0 o1 g13) (.cons (sok_loadE (U := Un) (E := 9) (t := .str) (rs := [(15, .eloc 10001 1 (0 + v5.toNat) 0)]) (xs := v3) (fx := false) rfl rfl ty_9 o0 hv14 (.here _ _)) (.cons (mvA (v := .p .str v14) rfl rfl) .nil))) (by kernel_rfl) (by kernel_rfl) (by kernel_rfl) (cvR _) ?_
          refine tnU ?_
          refine WpC.seq ?_
          obtain ⟨v15, hv15, h⟩ := bind_some h
          refine rgU (st1 := ⟨[(5, .vec 1005 1 0 v4.length), (7, .p .str v14), (11, .vec 10001 1 0 v3.length), (12, .p I6 ((v3.length : Int) : Int)), (13, .p I6 v5), (20, .p .bool ((!v15) : Bool))], [(1005, .row 9 .str v4 false), (10001, .row 9 .str v3 false)]⟩) [5, 7, 11, 12, 13, 20] [1005, 10001] hN (.cons (mvU (v := .vec 1005 1 0 v4.length) rfl rfl) (.cons (mvU (v := .p .str v14) rfl rfl) (.cons (caV (rs := [(17, .vec 1005 1 0 v4.length), (18, .p .str v14)]) (vw := [(1005, .row 9 .str v4 false)]) rfl rfl (.func _) hb_14 (names_Has.ok O k v4 v14 v15 hv15) (.cons o0 (.cons o1 .nil)) (.cons (.whole' (.head _) (by first | rfl | (simp only [upd_length, List.length_replicate, List.length_append]; done) | (simp only [upd_length, List.length_replicate, List.length_append] at *; omega) | omega)) (.cons (.same _) .nil)) (by simp) (.inr rfl)) (.cons (sok_not (U := Un) (rs := [(19, .p .bool v15)]) rfl rfl o0) .nil)))) (by kernel_rfl) (by kernel_rfl) (by kernel_rfl) (cvR _) ?_
          refine tnU ?_
          refine cdU (b := (!v15)) (.tmp (.tail _ (.tail _ (.tail _ (.tail _ (.tail _ (.head _))))))) (fun hc16 => ?_) (fun hc16 => ?_)
          · replace h := ite_t hc16 h
            obtain ⟨g17, h⟩ := if_some h
            refine rgU (st1 := ⟨[(5, .vec 24 1 0 ((v4 ++ [v14]).length)), (11, .vec 10001 1 0 v3.length), (12, .p I6 ((v3.length : Int) : Int)), (13, .p I6 v5)], [(24, .row 9 .str (v4 ++ [v14]) false), (10001, .row 9 .str v3 false)]⟩) [5, 11, 12, 13] [24, 10001] hN (.cons (mvU (v := .vec 1005 1 0 v4.length) rfl rfl) (.cons (mvU (v := .p .str v14) rfl rfl) (.cons (sok_buildSlice (U := Un) (t := .str) (rs := [(22, .p .str v14)]) (ys := [.tmp 22]) (xs := [v14]) rfl rfl rfl rfl row_22 (.cons o0 .nil) (by decide)) (.cons (sok_append' (U := Un) (t := .str) (rs := [(21, .vec 1005 1 0 v4.length), (23, .vec 23 1 0 ([v14].length))]) (vw := [(23, .row 9 .str [v14] true)]) (xs := v4) (ys := [v14]) (fx := false) rfl rfl rfl row_22 (by decide) o0 o1 (.whole (.head _)) (by simp) g17) (.cons (mvA (v := .vec 24 1 0 ((v4 ++ [v14]).length)) rfl rfl) .nil))))) (by kernel_rfl) (by kernel_rfl) (by kernel_rfl) (cvT (Conv.ren (U := Un) (st' := ⟨[(5, .vec 1005 1 0 ((v4 ++ [v14]).length)), (11, .vec 10001 1 0 v3.length), (12, .p I6 ((v3.length : Int) : Int)), (13, .p I6 v5)], [(1005, .row 9 .str (v4 ++ [v14]) false), (10001, .row 9 .str v3 false)]⟩) 24 1005 (by unfold K0; omega) (by kernel_rfl) (by kernel_rfl) (by kernel_rfl)) (cvK (b := ⟨[(5, .vec 1005 1 0 ((v4 ++ [v14]).length)), (11, .vec 10001 1 0 v3.length), (12, .p I6 ((v3.length : Int) : Int)), (13, .p I6 v5)], [(1005, .row 9 .str (v4 ++ [v14]) false), (10001, .row 9 .str v3 false)]⟩) [5, 11, 12, 13] [1005, 10001] (by kernel_rfl))) ?_
            refine blockQ_normal ?_
            refine tnU ?_
            exact ⟨(v4 ++ [v14]), h, rfl⟩
          · replace h := ite_f hc16 h
            refine WpC.conv (cvK (b := ⟨[(5, .vec 1005 1 0 v4.length), (11, .vec 10001 1 0 v3.length), (12, .p I6 ((v3.length : Int) : Int)), (13, .p I6 v5)], [(1005, .row 9 .str v4 false), (10001, .row 9 .str v3 false)]⟩) [5, 11, 12, 13] [1005, 10001] (by kernel_rfl)) (WpC.skip ?_)
            refine blockQ_normal ?_
            refine tnU ?_
            exact ⟨v4, h, rfl⟩
        · rintro _ ⟨v11, h, rfl⟩
          unfold names_Union.j12 at h
          refine rgU (st1 := ⟨[(5, .vec 1005 1 0 v11.length), (11, .vec 10001 1 0 v3.length), (12, .p I6 ((v3.length : Int) : Int)), (13, .p I6 ((IntKind.i64.wrap (v5 + 1)) : Int))], [(1005, .row 9 .str v11 false), (10001, .row 9 .str v3 false)]⟩) [5, 11, 12, 13] [1005, 10001] hN (.cons (sok_arith (U := Un) (rs := [(13, .p I6 v5)]) rfl rfl o0 (.int _ _ _) rfl) (.cons (mvU (v := .p I6 ((IntKind.i64.wrap (v5 + 1)) : Int)) rfl rfl) .nil)) (by kernel_rfl) (by kernel_rfl) (by kernel_rfl) (cvR _) ?_
          refine tnU ?_
          exact ⟨n, Nat.lt_succ_self n, v11, (IntKind.i64.wrap (v5 + 1)), h, rfl⟩
      · replace h := ite_f hc10 h
        refine WpC.conv (cvK (b := ⟨[(5, .vec 1005 1 0 v4.length)], [(1005, .row 9 .str v4 false)]⟩) [5] [1005] (by kernel_rfl)) (WpC.exit ?_)
        refine thenQ_exit ?_
        have hq := Option.some.inj h
        subst hq
        refine thenQ_exit ?_
        have h := hout9
        refine blockQ_hit ?_
        refine tnU ?_
        exact ⟨v4, h, rfl⟩
  · rintro _ ⟨v1, h, rfl⟩
    unfold names_Union.j2 at h
    refine WpC.seq ?_
    refine rgU (st1 := ⟨[(4, .vec 1005 1 0 v1.length)], [(1005, .row 9 .str v1 false)]⟩) [4] [1005] hN (.cons (mvU (v := .vec 1005 1 0 v1.length) rfl rfl) (.cons (mvA (v := .vec 1005 1 0 v1.length) rfl rfl) .nil)) (by kernel_rfl) (by kernel_rfl) (by kernel_rfl) (cvR _) ?_
    refine tnU ?_
    refine WpC.conv (cvT (Conv.ren (U := Un) (st' := ⟨[(4, .vec 60500 1 0 v1.length)], [(60500, .row 9 .str v1 false)]⟩) 1005 60500 (by unfold K0; omega) (by kernel_rfl) (by kernel_rfl) (by kernel_rfl)) (cvK (b := ⟨[(4, .vec 60500 1 0 v1.length)], [(60500, .row 9 .str v1 false)]⟩) [4] [60500] (by kernel_rfl))) (WpC.ret ?_)
    have hq := Option.some.inj h
    subst hq
    exact ends_ret (retV_1 rfl (.head _)) (ain_cons (.head _) ain_nil)

theorem millwrightref01_in.ok (O : Out) (k : Nat) (a0 : List (List UInt8)) (a1 : List UInt8) (out : Bool) (h : millwrightref01_in.f k a0 a1 = some out) : COk Un O Try.prog 23 { ar := [.p (.list .str) a0, .p .str a1], r := .p .bool out } := by
  refine cok_of_wp Try.func23 rfl (k := 17) rfl (Nat.le_of_ble_eq_true rfl) (namesOk_pure rfl rfl rfl rfl) ?_
  intro B hN
  refine WpC.conv (cvK (b := ⟨[(0, .p (.list .str) a0), (1, .p .str a1)], []⟩) [0, 1] [] (by kernel_rfl)) ?_
  unfold millwrightref01_in.f at h
  refine WpC.seq ?_
  refine rgU (st1 := ⟨[(0, .p (.list .str) a0), (1, .p .str a1)], []⟩) [0, 1] [] hN (.cons (moU (rs := []) rfl (.inr rfl) (.bool _ _)) .nil) (by kernel_rfl) (by kernel_rfl) (by kernel_rfl) (cvR _) ?_
  refine tnU ?_
  refine sqJ (fun st' => millwrightref01_in.j1 k = some out ∧ st' = ⟨[], []⟩) ?_ ?_
  · refine WpC.seq ?_
    refine rgU (st1 := ⟨[(1, .p .str a1), (7, .p (.list .str) a0), (8, .p I6 ((a0.length : Int) : Int)), (9, .p I6 (0 : Int))], []⟩) [1, 7, 8, 9] [] hN (.cons (mvU (v := .p (.list .str) a0) rfl rfl) (.cons (sok_lenL (U := Un) (rs := [(7, .p (.list .str) a0)]) rfl rfl Try.underlying22 o0) (.cons (moU (rs := []) rfl (.inl rfl) (.int _ _ _)) .nil))) (by kernel_rfl) (by kernel_rfl) (by kernel_rfl) (cvR _) ?_
    refine tnU ?_
    refine WpC.block ?_
    obtain ⟨o4, hlo4, h⟩ := bind_some h
    have hout5 := h
    clear h
    refine WpC.loop (U := Un) (fun n st' => ∃ v2 : Int, millwrightref01_in.l3 k a0 a1 n v2 = some o4 ∧ st' = ⟨[(1, .p .str a1), (7, .p (.list .str) a0), (8, .p I6 ((a0.length : Int) : Int)), (9, .p I6 v2)], []⟩) k ⟨0, hlo4, rfl⟩ ?_
    clear hlo4
    rintro (_ | n) _ ⟨v2, h, rfl⟩
    · cases h
    · rw [millwrightref01_in.l3] at h
      refine WpC.seq ?_
      refine rgU (st1 := ⟨[(1, .p .str a1), (7, .p (.list .str) a0), (8, .p I6 ((a0.length : Int) : Int)), (9, .p I6 v2), (10, .p .bool ((decide (v2 < (a0.length : Int))) : Bool))], []⟩) [1, 7, 8, 9, 10] [] hN (.cons (cmU (rs := [(9, .p I6 v2), (8, .p I6 ((a0.length : Int) : Int))]) rfl rfl o0 o1 rfl) .nil) (by kernel_rfl) (by kernel_rfl) (by kernel_rfl) (cvR _) ?_
      refine tnU ?_
      refine WpC.seq ?_
      refine cdU (b := (decide (v2 < (a0.length : Int)))) (.tmp (.tail _ (.tail _ (.tail _ (.tail _ (.head _)))))) (fun hc6 => ?_) (fun hc6 => ?_)
      · replace h := ite_t hc6 h
        refine WpC.conv (cvK (b := ⟨[(1, .p .str a1), (7, .p (.list .str) a0), (8, .p I6 ((a0.length : Int) : Int)), (9, .p I6 v2)], []⟩) [1, 7, 8, 9] [] (by kernel_rfl)) (WpC.skip ?_)
        refine tnU ?_
        refine WpC.seq ?_
        refine WpC.block ?_
        refine WpC.seq ?_
        obtain ⟨v7, hv7, h⟩ := bind_some h
        refine rgU (st1 := ⟨[(1, .p .str a1), (6, .p .str v7), (7, .p (.list .str) a0), (8, .p I6 ((a0.length : Int) : Int)), (9, .p I6 v2)], []⟩) [1, 6, 7, 8, 9] [] hN (.cons (sok_indexL (U := Un) (rs := [(7, .p (.list .str) a0), (9, .p I6 v2)]) rfl rfl sl_22 o0 o1 hv7) (.cons (sok_loadP (U := Un) (rs := [(11, .pp .str v7)]) rfl rfl ty_9 o0) (.cons (mvA (v := .p .str v7) rfl rfl) .nil))) (by kernel_rfl) (by kernel_rfl) (by kernel_rfl) (cvR _) ?_
        refine tnU ?_
        refine WpC.seq ?_
        refine rgU (st1 := ⟨[(1, .p .str a1), (7, .p (.list .str) a0), (8, .p I6 ((a0.length : Int) : Int)), (9, .p I6 v2), (15, .p .bool ((v7 == a1) : Bool))], []⟩) [1, 7, 8, 9, 15] [] hN (.cons (mvU (v := .p .str v7) rfl rfl) (.cons (mvU (v := .p .str a1) rfl rfl) (.cons (sok_cmpS (U := Un) (rs := [(13, .p .str v7), (14, .p .str a1)]) rfl rfl o0 o1 rfl) .nil))) (by kernel_rfl) (by kernel_rfl) (by kernel_rfl) (cvR _) ?_
        refine tnU ?_
        refine cdU (b := (v7 == a1)) (.tmp (.tail _ (.tail _ (.tail _ (.tail _ (.head _)))))) (fun hc8 => ?_) (fun hc8 => ?_)
        · replace h := ite_t hc8 h
          refine WpC.seq ?_
          refine rgU (st1 := ⟨[(4, .p .bool true)], []⟩) [4] [] hN (.cons (moU (rs := []) rfl (.inr rfl) (.bool _ _)) .nil) (by kernel_rfl) (by kernel_rfl) (by kernel_rfl) (cvR _) ?_
          refine tnU ?_
          refine WpC.ret ?_
          refine blockQ_ret ?_
          refine thenQ_ret ?_
          have hq := Option.some.inj h
          subst hq
          refine thenQ_ret ?_
          have h := hout5
          refine blockQ_ret ?_
          refine thenQ_ret ?_
          have hq := Option.some.inj h
          subst hq
          exact ends_ret (retV_1 rfl (.head _)) ain_nil
        · replace h := ite_f hc8 h
          refine WpC.conv (cvK (b := ⟨[(1, .p .str a1), (7, .p (.list .str) a0), (8, .p I6 ((a0.length : Int) : Int)), (9, .p I6 v2)], []⟩) [1, 7, 8, 9] [] (by kernel_rfl)) (WpC.skip ?_)
          refine blockQ_normal ?_
          refine tnU ?_
          refine rgU (st1 := ⟨[(1, .p .str a1), (7, .p (.list .str) a0), (8, .p I6 ((a0.length : Int) : Int)), (9, .p I6 ((IntKind.i64.wrap (v2 + 1)) : Int))], []⟩) [1, 7, 8, 9] [] hN (.cons (sok_arith (U := Un) (rs := [(9, .p I6 v2)]) rfl rfl o0 (.int _ _ _) rfl) (.cons (mvU (v := .p I6 ((IntKind.i64.wrap (v2 + 1)) : Int)) rfl rfl) .nil)) (by kernel_rfl) (by kernel_rfl) (by kernel_rfl) (cvR _) ?_
          refine tnU ?_
          exact ⟨n, Nat.lt_succ_self n, (IntKind.i64.wrap (v2 + 1)), h, rfl⟩
      · replace h := ite_f hc6 h
        refine WpC.conv (cvK (b := ⟨[], []⟩) [] [] (by kernel_rfl)) (WpC.exit ?_)
        refine thenQ_exit ?_
        have hq := Option.some.inj h
        subst hq
        refine thenQ_exit ?_
        have h := hout5
        refine blockQ_hit ?_
        refine tnU ?_
        exact ⟨h, rfl⟩
  · rintro _ ⟨h, rfl⟩
    unfold millwrightref01_in.j1 at h
    refine WpC.seq ?_
    refine rgU (st1 := ⟨[(4, .p .bool false)], []⟩) [4] [] hN (.cons (moU (rs := []) rfl (.inr rfl) (.bool _ _)) .nil) (by kernel_rfl) (by kernel_rfl) (by kernel_rfl) (cvR _) ?_
    refine tnU ?_
    refine WpC.ret ?_
    have hq := Option.some.inj h
    subst hq
    exact ends_ret (retV_1 rfl (.head _)) ain_nil

theorem millwrightref01_Union.ok (O : Out) (k : Nat) (a0 : List (List UInt8)) (a1 : List (List UInt8)) (out : List (List UInt8)) (h : millwrightref01_Union.f k a0 a1 = some out) : COk Un O Try.prog 11 { ar := [.p (.list .str) a0, .p (.list .str) a1], r := .p (.list .str) out } := by
  refine cok_of_wp Try.func11 rfl (k := 42) rfl (Nat.le_of_ble_eq_true rfl) (namesOk_pure rfl rfl rfl rfl) ?_
  intro B hN
  refine WpC.conv (cvK (b := ⟨[(0, .p (.list .str) a0), (1, .p (.list .str) a1)], []⟩) [0, 1] [] (by kernel_rfl)) ?_
  unfold millwrightref01_Union.f at h
  refine WpC.seq ?_
  refine rgU (st1 := ⟨[(0, .p (.list .str) a0), (1, .p (.list .str) a1)], []⟩) [0, 1] [] hN (.cons (moU (rs := []) rfl (.inr rfl) (.lit _ _ rfl)) .nil) (by kernel_rfl) (by kernel_rfl) (by kernel_rfl) (cvR _) ?_
  refine tnU ?_
  refine WpC.seq ?_
  refine rgU (st1 := ⟨[(0, .p (.list .str) a0), (1, .p (.list .str) a1), (5, .vec 8 1 0 (([] : List (List UInt8)).length))], [(8, .row 9 .str ([] : List (List UInt8)) true)]⟩) [0, 1, 5] [8] hN (.cons (sok_buildSlice (U := Un) (t := .str) (rs := []) (ys := []) (xs := ([] : List (List UInt8))) rfl rfl rfl rfl row_22 .nil (by decide)) (.cons (mvA (v := .vec 8 1 0 (([] : List (List UInt8)).length)) rfl rfl) .nil)) (by kernel_rfl) (by kernel_rfl) (by kernel_rfl) (Conv.cast (U := Un) (st' := ⟨[(0, .p (.list .str) a0), (1, .p (.list .str) a1), (5, .vec 8 1 0 0)], [(8, .row 9 .str ([] : List (List UInt8)) true)]⟩) (by simp only [upd_length, List.length_nil, List.length_replicate])) ?_
  refine tnU ?_
  refine sqJ (fun st' => ∃ v1 : List (List UInt8), millwrightref01_Union.j2 k v1 = some out ∧ st' = ⟨[(5, .vec 1005 1 0 v1.length)], [(1005, .row 9 .str v1 false)]⟩) ?_ ?_
  · refine WpC.seq ?_
    refine rgU (st1 := ⟨[(0, .p (.list .str) a0), (1, .p (.list .str) a1), (5, .vec 8 1 0 0), (6, .p I6 (0 : Int))], [(8, .row 9 .str ([] : List (List UInt8)) true)]⟩) [0, 1, 5, 6] [8] hN (.cons (moU (rs := []) rfl (.inr rfl) (.int _ _ _)) .nil) (by kernel_rfl) (by kernel_rfl) (by kernel_rfl) (cvR _) ?_
    refine tnU ?_
    refine WpC.block ?_
    obtain ⟨o7, hlo7, h⟩ := bind_some h
    have hout8 := h
    clear h
    refine WpC.conv (cvT (Conv.loose (U := Un) 8 9 .str ([] : List (List UInt8)) (.head _)) (cvT (cvK (b := ⟨[(0, .p (.list .str) a0), (1, .p (.list .str) a1), (5, .vec 8 1 0 0), (6, .p I6 (0 : Int))], [(8, .row 9 .str ([] : List (List UInt8)) false)]⟩) [0, 1, 5, 6] [8] (by kernel_rfl)) (cvT (Conv.ren (U := Un) (st' := ⟨[(0, .p (.list .str) a0), (1, .p (.list .str) a1), (5, .vec 1005 1 0 0), (6, .p I6 (0 : Int))], [(1005, .row 9 .str ([] : List (List UInt8)) false)]⟩) 8 1005 (by unfold K0; omega) (by kernel_rfl) (by kernel_rfl) (by kernel_rfl)) (cvK (b := ⟨[(0, .p (.list .str) a0), (1, .p (.list .str) a1), (5, .vec 1005 1 0 0), (6, .p I6 (0 : Int))], [(1005, .row 9 .str ([] : List (List UInt8)) false)]⟩) [0, 1, 5, 6] [1005] (by kernel_rfl))))) ?_
    refine WpC.loop (U := Un) (fun n st' => ∃ v3 : List (List UInt8), ∃ v4 : Int, millwrightref01_Union.l5 k a0 a1 n v3 v4 = some o7 ∧ st' = ⟨[(0, .p (.list .str) a0), (1, .p (.list .str) a1), (5, .vec 1005 1 0 v3.length), (6, .p I6 v4)], [(1005, .row 9 .str v3 false)]⟩) k ⟨([] : List (List UInt8)), 0, hlo7, rfl⟩ ?_
    clear hlo7
    rintro (_ | n) _ ⟨v3, v4, h, rfl⟩
    · cases h
    · rw [millwrightref01_Union.l5] at h
      refine WpC.seq ?_
      refine WpC.seq ?_
      refine rgU (st1 := ⟨[(0, .p (.list .str) a0), (1, .p (.list .str) a1), (5, .vec 1005 1 0 v3.length), (6, .p I6 v4), (15, .p .bool ((decide (v4 < (IntKind.i64.wrap ((a0.length : Int) + (a1.length : Int))))) : Bool))], [(1005, .row 9 .str v3 false)]⟩) [0, 1, 5, 6, 15] [1005] hN (.cons (mvU (v := .p I6 v4) rfl rfl) (.cons (mvU (v := .p (.list .str) a0) rfl rfl) (.cons (sok_lenL (U := Un) (rs := [(10, .p (.list .str) a0)]) rfl rfl Try.underlying22 o0) (.cons (mvU (v := .p (.list .str) a1) rfl rfl) (.cons (sok_lenL (U := Un) (rs := [(12, .p (.list .str) a1)]) rfl rfl Try.underlying22 o0) (.cons (sok_arith (U := Un) (rs := [(11, .p I6 ((a0.length : Int) : Int)), (13, .p I6 ((a1.length : Int) : Int))]) rfl rfl o0 o1 rfl) (.cons (cmU (rs := [(9, .p I6 v4), (14, .p I6 ((IntKind.i64.wrap ((a0.length : Int) + (a1.length : Int))) : Int))]) rfl rfl o0 o1 rfl) .nil))))))) (by kernel_rfl) (by kernel_rfl) (by kernel_rfl) (cvR _) ?_
      refine tnU ?_
      refine cdU (b := (decide (v4 < (IntKind.i64.wrap ((a0.length : Int) + (a1.length : Int)))))) (.tmp (.tail _ (.tail _ (.tail _ (.tail _ (.head _)))))) (fun hc9 => ?_) (fun hc9 => ?_)
      · replace h := ite_t hc9 h
        refine WpC.conv (cvK (b := ⟨[(0, .p (.list .str) a0), (1, .p (.list .str) a1), (5, .vec 1005 1 0 v3.length), (6, .p I6 v4)], [(1005, .row 9 .str v3 false)]⟩) [0, 1, 5, 6] [1005] (by kernel_rfl)) (WpC.skip ?_)
        refine tnU ?_
        refine sqJ (fun st' => ∃ v10 : List (List UInt8), millwrightref01_Union.j11 k (millwrightref01_Union.l5 k a0 a1 n) a0 a1 v4 v10 = some o7 ∧ st' = ⟨[(0, .p (.list .str) a0), (1, .p (.list .str) a1), (5, .vec 1005 1 0 v10.length), (6, .p I6 v4)], [(1005, .row 9 .str v10 false)]⟩) ?_ ?_
        · refine WpC.block ?_
          refine WpC.seq ?_
          refine rgU (st1 := ⟨[(0, .p (.list .str) a0), (1, .p (.list .str) a1), (5, .vec 1005 1 0 v3.length), (6, .p I6 v4)], [(1005, .row 9 .str v3 false)]⟩) [0, 1, 5, 6] [1005] hN (.cons (moU (rs := []) rfl (.inr rfl) (.str _ _)) .nil) (by kernel_rfl) (by kernel_rfl) (by kernel_rfl) (cvR _) ?_
          refine tnU ?_
          refine sqJ (fun st' => ∃ v12 : List UInt8, millwrightref01_Union.j16 k (millwrightref01_Union.l5 k a0 a1 n) a0 a1 v3 v4 v12 = some o7 ∧ st' = ⟨[(0, .p (.list .str) a0), (1, .p (.list .str) a1), (5, .vec 1005 1 0 v3.length), (6, .p I6 v4), (7, .p .str v12)], [(1005, .row 9 .str v3 false)]⟩) ?_ ?_
          · refine WpC.seq ?_
            refine rgU (st1 := ⟨[(0, .p (.list .str) a0), (1, .p (.list .str) a1), (5, .vec 1005 1 0 v3.length), (6, .p I6 v4), (21, .p .bool ((decide (v4 < (a0.length : Int))) : Bool))], [(1005, .row 9 .str v3 false)]⟩) [0, 1, 5, 6, 21] [1005] hN (.cons (mvU (v := .p I6 v4) rfl rfl) (.cons (mvU (v := .p (.list .str) a0) rfl rfl) (.cons (sok_lenL (U := Un) (rs := [(19, .p (.list .str) a0)]) rfl rfl Try.underlying22 o0) (.cons (cmU (rs := [(18, .p I6 v4), (20, .p I6 ((a0.length : Int) : Int))]) rfl rfl o0 o1 rfl) .nil)))) (by kernel_rfl) (by kernel_rfl) (by kernel_rfl) (cvR _) ?_
            refine tnU ?_
            refine cdU (b := (decide (v4 < (a0.length : Int)))) (.tmp (.tail _ (.tail _ (.tail _ (.tail _ (.head _)))))) (fun hc17 => ?_) (fun hc17 => ?_)
            · replace h := ite_t hc17 h
              obtain ⟨v18, hv18, h⟩ := bind_some h
              refine rgU (st1 := ⟨[(0, .p (.list .str) a0), (1, .p (.list .str) a1), (5, .vec 1005 1 0 v3.length), (6, .p I6 v4), (7, .p .str v18)], [(1005, .row 9 .str v3 false)]⟩) [0, 1, 5, 6, 7] [1005] hN (.cons (mvU (v := .p (.list .str) a0) rfl rfl) (.cons (mvU (v := .p I6 v4) rfl rfl) (.cons (sok_indexL (U := Un) (rs := [(22, .p (.list .str) a0), (23, .p I6 v4)]) rfl rfl sl_22 o0 o1 hv18) (.cons (sok_loadP (U := Un) (rs := [(24, .pp .str v18)]) rfl rfl ty_9 o0) (.cons (mvA (v := .p .str v18) rfl rfl) .nil))))) (by kernel_rfl) (by kernel_rfl) (by kernel_rfl) (cvR _) ?_
              refine tnU ?_
              exact ⟨v18, h, rfl⟩
            · replace h := ite_f hc17 h
              obtain ⟨v19, hv19, h⟩ := bind_some h
              refine rgU (st1 := ⟨[(0, .p (.list .str) a0), (1, .p (.list .str) a1), (5, .vec 1005 1 0 v3.length), (6, .p I6 v4), (7, .p .str v19)], [(1005, .row 9 .str v3 false)]⟩) [0, 1, 5, 6, 7] [1005] hN (.cons (mvU (v := .p (.list .str) a1) rfl rfl) (.cons (mvU (v := .p I6 v4) rfl rfl) (.cons (mvU (v := .p (.list .str) a0) rfl rfl) (.cons (sok_lenL (U := Un) (rs := [(28, .p (.list .str) a0)]) rfl rfl Try.underlying22 o0) (.cons (sok_arith (U := Un) (rs := [(27, .p I6 v4), (29, .p I6 ((a0.length : Int) : Int))]) rfl rfl o0 o1 rfl) (.cons (sok_indexL (U := Un) (rs := [(26, .p (.list .str) a1), (30, .p I6 ((IntKind.i64.wrap (v4 - (a0.length : Int))) : Int))]) rfl rfl sl_22 o0 o1 hv19) (.cons (sok_loadP (U := Un) (rs := [(31, .pp .str v19)]) rfl rfl ty_9 o0) (.cons (mvA (v := .p .str v19) rfl rfl) .nil)))))))) (by kernel_rfl) (by kernel_rfl) (by kernel_rfl) (cvR _) ?_
              refine tnU ?_
              exact ⟨v19, h, rfl⟩
          · rintro _ ⟨v12, h, rfl⟩
            unfold millwrightref01_Union.j16 at h
            refine WpC.seq ?_
            obtain ⟨v13, hv13, h⟩ := bind_some h
            refine rgU (st1 := ⟨[(0, .p (.list .str) a0), (1, .p (.list .str) a1), (5, .vec 1005 1 0 v3.length), (6, .p I6 v4), (7, .p .str v12), (36, .p .bool ((!v13) : Bool))], [(1005, .row 9 .str v3 false)]⟩) [0, 1, 5, 6, 7, 36] [1005] hN (.cons (mvU (v := .vec 1005 1 0 v3.length) rfl rfl) (.cons (mvU (v := .p .str v12) rfl rfl) (.cons (caV (rs := [(33, .vec 1005 1 0 v3.length), (34, .p .str v12)]) (vw := [(1005, .row 9 .str v3 false)]) rfl rfl (.func _) hb_23 (millwrightref01_in.ok O k v3 v12 v13 hv13) (.cons o0 (.cons o1 .nil)) (.cons (.whole' (.head _) (by first | rfl | (simp only [upd_length, List.length_replicate, List.length_append]; done) | (simp only [upd_length, List.length_replicate, List.length_append] at *; omega) | omega)) (.cons (.same _) .nil)) (by simp) (.inr rfl)) (.cons (sok_not (U := Un) (rs := [(35, .p .bool v13)]) rfl rfl o0) .nil)))) (by kernel_rfl) (by kernel_rfl) (by kernel_rfl) (cvR _) ?_
            refine tnU ?_
            refine cdU (b := (!v13)) (.tmp (.tail _ (.tail _ (.tail _ (.tail _ (.tail _ (.head _))))))) (fun hc14 => ?_) (fun hc14 => ?_)
            · replace h := ite_t hc14 h
              obtain ⟨g15, h⟩ := if_some h
              refine rgU (st1 := ⟨[(0, .p (.list .str) a0), (1, .p (.list .str) a1), (5, .vec 40 1 0 ((v3 ++ [v12]).length)), (6, .p I6 v4)], [(40, .row 9 .str (v3 ++ [v12]) false)]⟩) [0, 1, 5, 6] [40] hN (.cons (mvU (v := .vec 1005 1 0 v3.length) rfl rfl) (.cons (mvU (v := .p .str v12) rfl rfl) (.cons (sok_buildSlice (U := Un) (t := .str) (rs := [(38, .p .str v12)]) (ys := [.tmp 38]) (xs := [v12]) rfl rfl rfl rfl row_22 (.cons o0 .nil) (by decide)) (.cons (sok_append' (U := Un) (t := .str) (rs := [(37, .vec 1005 1 0 v3.length), (39, .vec 39 1 0 ([v12].length))]) (vw := [(39, .row 9 .str [v12] true)]) (xs := v3) (ys := [v12]) (fx := false) rfl rfl rfl row_22 (by decide) o0 o1 (.whole (.head _)) (by simp) g15) (.cons (mvA (v := .vec 40 1 0 ((v3 ++ [v12]).length)) rfl rfl) .nil))))) (by kernel_rfl) (by kernel_rfl) (by kernel_rfl) (cvT (Conv.ren (U := Un) (st' := ⟨[(0, .p (.list .str) a0), (1, .p (.list .str) a1), (5, .vec 1005 1 0 ((v3 ++ [v12]).length)), (6, .p I6 v4)], [(1005, .row 9 .str (v3 ++ [v12]) false)]⟩) 40 1005 (by unfold K0; omega) (by kernel_rfl) (by kernel_rfl) (by kernel_rfl)) (cvK (b := ⟨[(0, .p (.list .str) a0), (1, .p (.list .str) a1), (5, .vec 1005 1 0 ((v3 ++ [v12]).length)), (6, .p I6 v4)], [(1005, .row 9 .str (v3 ++ [v12]) false)]⟩) [0, 1, 5, 6] [1005] (by kernel_rfl))) ?_
              refine blockQ_normal ?_
              refine tnU ?_
              exact ⟨(v3 ++ [v12]), h, rfl⟩
            · replace h := ite_f hc14 h
              refine WpC.conv (cvK (b := ⟨[(0, .p (.list .str) a0), (1, .p (.list .str) a1), (5, .vec 1005 1 0 v3.length), (6, .p I6 v4)], [(1005, .row 9 .str v3 false)]⟩) [0, 1, 5, 6] [1005] (by kernel_rfl)) (WpC.skip ?_)
              refine blockQ_normal ?_
              refine tnU ?_
              exact ⟨v3, h, rfl⟩
        · rintro _ ⟨v10, h, rfl⟩
          unfold millwrightref01_Union.j11 at h
          refine rgU (st1 := ⟨[(0, .p (.list .str) a0), (1, .p (.list .str) a1), (5, .vec 1005 1 0 v10.length), (6, .p I6 ((IntKind.i64.wrap (v4 + 1)) : Int))], [(1005, .row 9 .str v10 false)]⟩) [0, 1, 5, 6] [1005] hN (.cons (mvU (v := .p I6 v4) rfl rfl) (.cons (sok_arith (U := Un) (rs := [(16, .p I6 v4)]) rfl rfl o0 (.int _ _ _) rfl) (.cons (mvA (v := .p I6 ((IntKind.i64.wrap (v4 + 1)) : Int)) rfl rfl) .nil))) (by kernel_rfl) (by kernel_rfl) (by kernel_rfl) (cvR _) ?_
          refine tnU ?_
          exact ⟨n, Nat.lt_succ_self n, v10, (IntKind.i64.wrap (v4 + 1)), h, rfl⟩
      · replace h := ite_f hc9 h
        refine WpC.conv (cvK (b := ⟨[(5, .vec 1005 1 0 v3.length)], [(1005, .row 9 .str v3 false)]⟩) [5] [1005] (by kernel_rfl)) (WpC.exit ?_)
        refine thenQ_exit ?_
        have hq := Option.some.inj h
        subst hq
        refine thenQ_exit ?_
        have h := hout8
        refine blockQ_hit ?_
        refine tnU ?_
        exact ⟨v3, h, rfl⟩
  · rintro _ ⟨v1, h, rfl⟩
    unfold millwrightref01_Union.j2 at h
    refine WpC.seq ?_
    refine rgU (st1 := ⟨[(4, .vec 1005 1 0 v1.length)], [(1005, .row 9 .str v1 false)]⟩) [4] [1005] hN (.cons (mvU (v := .vec 1005 1 0 v1.length) rfl rfl) (.cons (mvA (v := .vec 1005 1 0 v1.length) rfl rfl) .nil)) (by kernel_rfl) (by kernel_rfl) (by kernel_rfl) (cvR _) ?_
    refine tnU ?_
    refine WpC.conv (cvT (Conv.freeze (U := Un) 4 1005 9 _ .str v1 false (.head _) (by first | rfl | (simp only [upd_length, List.length_replicate, List.length_append]; done) | (simp only [upd_length, List.length_replicate, List.length_append] at *; omega) | omega) (.head _) (by first | (simp [Blk.names]; done) | (simp [Blk.names, AVal.namesL, AVal.names]; done) | (simp [Blk.names]; decide))) (cvK (b := ⟨[(4, .p (.list .str) v1)], []⟩) [4] [] (by kernel_rfl))) (WpC.ret ?_)
    have hq := Option.some.inj h
    subst hq
    exact ends_ret (retV_1 rfl (.head _)) ain_nil

end Go.Proofs.Ytnbnfjgedinlbab
