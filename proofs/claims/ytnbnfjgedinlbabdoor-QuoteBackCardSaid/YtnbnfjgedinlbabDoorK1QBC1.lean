/- A part of the proof of a given law: QBC1. Own work, printed in part by a program of mine. -/
import Derived.Test.YtnbnfjgedinlbabDoorK1QBC0
namespace Go.Proofs.YtnbnfjgedinlbabDoor
open Go Go.AM
set_option linter.unusedVariables false
set_option linter.unusedSimpArgs false
set_option maxRecDepth 100000
theorem millwrightnum_Long.ok (O : Out) (hO : GOkQ O) (k : Nat) (a0 : List (List UInt8)) (a1 : Int) (a2 : Int) (out : Bool) (h : millwrightnum_Long.f k a0 a1 a2 = some out) : COk Un O Tryd.prog 8 { ar := [.p (.list .str) a0, .p I6 a1, .p I6 a2], r := .p .bool out } := by
  refine cok_of_wp Tryd.func8 rfl (k := 24) rfl (Nat.le_of_ble_eq_true rfl) (namesOk_pure rfl rfl rfl rfl) ?_
  intro B hN
  refine WpC.conv (Conv.keep (U := Un) (b := ⟨[(0, .p (.list .str) a0), (1, .p I6 a1), (2, .p I6 a2)], []⟩) [0, 1, 2] [] (by kernel_rfl)) ?_
  unfold millwrightnum_Long.f at h
  refine WpC.seq ?_
  refine WpC.reg (U := Un) (st1 := ⟨[(0, .p (.list .str) a0), (1, .p I6 a1), (2, .p I6 a2)], []⟩) [0, 1, 2] [] hN (.cons (sok_move (U := Un) (rs := []) rfl (.inr rfl) (.bool _ _)) .nil) (by kernel_rfl) (by kernel_rfl) (by kernel_rfl) (Conv.refl (U := Un) _) ?_
  refine thenQ_normal ?_
  refine WpC.seq ?_
  refine WpC.seq ?_
  refine WpC.reg (U := Un) (st1 := ⟨[(0, .p (.list .str) a0), (2, .p I6 a2), (12, .p .bool ((decide ((a0.length : Int) > a1)) : Bool))], []⟩) [0, 2, 12] [] hN (.cons (mv (U := Un) (v := .p (.list .str) a0) rfl rfl) (.cons (sok_lenL (U := Un) (rs := [(9, .p (.list .str) a0)]) rfl rfl Tryd.underlying22 o0) (.cons (mv (U := Un) (v := .p I6 a1) rfl rfl) (.cons (sok_cmp (U := Un) (rs := [(10, .p I6 ((a0.length : Int) : Int)), (11, .p I6 a1)]) rfl rfl o0 o1 rfl) .nil)))) (by kernel_rfl) (by kernel_rfl) (by kernel_rfl) (Conv.refl (U := Un) _) ?_
  refine thenQ_normal ?_
  refine WpC.cond (U := Un) (b := (decide ((a0.length : Int) > a1))) (.tmp (.tail _ (.tail _ (.head _)))) (fun hc1 => ?_) (fun hc1 => ?_)
  · replace h := ite_t hc1 h
    refine WpC.seq ?_
    refine WpC.reg (U := Un) (st1 := ⟨[(6, .p .bool true)], []⟩) [6] [] hN (.cons (sok_move (U := Un) (rs := []) rfl (.inr rfl) (.bool _ _)) .nil) (by kernel_rfl) (by kernel_rfl) (by kernel_rfl) (Conv.refl (U := Un) _) ?_
    refine thenQ_normal ?_
    refine WpC.ret ?_
    refine thenQ_ret ?_
    have hq := Option.some.inj h
    subst hq
    exact ends_ret (retV_1 rfl (.head _)) ain_nil
  · replace h := ite_f hc1 h
    refine WpC.conv (Conv.keep (U := Un) (b := ⟨[(0, .p (.list .str) a0), (2, .p I6 a2)], []⟩) [0, 2] [] (by kernel_rfl)) (WpC.skip ?_)
    refine thenQ_normal ?_
    refine WpC.seqJ (U := Un) (fun st' => millwrightnum_Long.j2 k = some out ∧ st' = ⟨[], []⟩) ?_ ?_
    · refine WpC.seq ?_
      refine WpC.reg (U := Un) (st1 := ⟨[(2, .p I6 a2), (13, .p (.list .str) a0), (14, .p I6 ((a0.length : Int) : Int)), (15, .p I6 (0 : Int))], []⟩) [2, 13, 14, 15] [] hN (.cons (mv (U := Un) (v := .p (.list .str) a0) rfl rfl) (.cons (sok_lenL (U := Un) (rs := [(13, .p (.list .str) a0)]) rfl rfl Tryd.underlying22 o0) (.cons (sok_move (U := Un) (rs := []) rfl (.inl rfl) (.int _ _ _)) .nil))) (by kernel_rfl) (by kernel_rfl) (by kernel_rfl) (Conv.refl (U := Un) _) ?_
      refine thenQ_normal ?_
      refine WpC.block ?_
      obtain ⟨o5, hlo5, h⟩ := bind_some h
      have hout6 := h
      clear h
      refine WpC.loop (U := Un) (fun n st' => ∃ v3 : Int, millwrightnum_Long.l4 k a0 a2 n v3 = some o5 ∧ st' = ⟨[(2, .p I6 a2), (13, .p (.list .str) a0), (14, .p I6 ((a0.length : Int) : Int)), (15, .p I6 v3)], []⟩) k ⟨0, hlo5, rfl⟩ ?_
      clear hlo5
      rintro (_ | n) _ ⟨v3, h, rfl⟩
      · cases h
      · rw [millwrightnum_Long.l4] at h
        refine WpC.seq ?_
        refine WpC.reg (U := Un) (st1 := ⟨[(2, .p I6 a2), (13, .p (.list .str) a0), (14, .p I6 ((a0.length : Int) : Int)), (15, .p I6 v3), (16, .p .bool ((decide (v3 < (a0.length : Int))) : Bool))], []⟩) [2, 13, 14, 15, 16] [] hN (.cons (sok_cmp (U := Un) (rs := [(15, .p I6 v3), (14, .p I6 ((a0.length : Int) : Int))]) rfl rfl o0 o1 rfl) .nil) (by kernel_rfl) (by kernel_rfl) (by kernel_rfl) (Conv.refl (U := Un) _) ?_
        refine thenQ_normal ?_
        refine WpC.seq ?_
        refine WpC.cond (U := Un) (b := (decide (v3 < (a0.length : Int)))) (.tmp (.tail _ (.tail _ (.tail _ (.tail _ (.head _)))))) (fun hc7 => ?_) (fun hc7 => ?_)
        · replace h := ite_t hc7 h
          refine WpC.conv (Conv.keep (U := Un) (b := ⟨[(2, .p I6 a2), (13, .p (.list .str) a0), (14, .p I6 ((a0.length : Int) : Int)), (15, .p I6 v3)], []⟩) [2, 13, 14, 15] [] (by kernel_rfl)) (WpC.skip ?_)
          refine thenQ_normal ?_
          refine WpC.seq ?_
          refine WpC.block ?_
          refine WpC.seq ?_
          obtain ⟨v8, hv8, h⟩ := bind_some h
          refine WpC.reg (U := Un) (st1 := ⟨[(2, .p I6 a2), (8, .p .str v8), (13, .p (.list .str) a0), (14, .p I6 ((a0.length : Int) : Int)), (15, .p I6 v3)], []⟩) [2, 8, 13, 14, 15] [] hN (.cons (sok_indexL (U := Un) (rs := [(13, .p (.list .str) a0), (15, .p I6 v3)]) rfl rfl sl_22 o0 o1 hv8) (.cons (sok_loadP (U := Un) (rs := [(17, .pp .str v8)]) rfl rfl ty_9 o0) (.cons (mva (U := Un) (v := .p .str v8) rfl rfl) .nil))) (by kernel_rfl) (by kernel_rfl) (by kernel_rfl) (Conv.refl (U := Un) _) ?_
          refine thenQ_normal ?_
          refine WpC.seq ?_
          refine WpC.reg (U := Un) (st1 := ⟨[(2, .p I6 a2), (13, .p (.list .str) a0), (14, .p I6 ((a0.length : Int) : Int)), (15, .p I6 v3), (22, .p .bool ((decide ((v8.length : Int) > a2)) : Bool))], []⟩) [2, 13, 14, 15, 22] [] hN (.cons (mv (U := Un) (v := .p .str v8) rfl rfl) (.cons (sok_lenS (U := Un) (rs := [(19, .p .str v8)]) rfl rfl Tryd.underlying9 o0) (.cons (mv (U := Un) (v := .p I6 a2) rfl rfl) (.cons (sok_cmp (U := Un) (rs := [(20, .p I6 ((v8.length : Int) : Int)), (21, .p I6 a2)]) rfl rfl o0 o1 rfl) .nil)))) (by kernel_rfl) (by kernel_rfl) (by kernel_rfl) (Conv.refl (U := Un) _) ?_
          refine thenQ_normal ?_
          refine WpC.cond (U := Un) (b := (decide ((v8.length : Int) > a2))) (.tmp (.tail _ (.tail _ (.tail _ (.tail _ (.head _)))))) (fun hc9 => ?_) (fun hc9 => ?_)
          · replace h := ite_t hc9 h
            refine WpC.seq ?_
            refine WpC.reg (U := Un) (st1 := ⟨[(6, .p .bool true)], []⟩) [6] [] hN (.cons (sok_move (U := Un) (rs := []) rfl (.inr rfl) (.bool _ _)) .nil) (by kernel_rfl) (by kernel_rfl) (by kernel_rfl) (Conv.refl (U := Un) _) ?_
            refine thenQ_normal ?_
            refine WpC.ret ?_
            refine blockQ_ret ?_
            refine thenQ_ret ?_
            have hq := Option.some.inj h
            subst hq
            refine thenQ_ret ?_
            have h := hout6
            refine blockQ_ret ?_
            refine thenQ_ret ?_
            have hq := Option.some.inj h
            subst hq
            exact ends_ret (retV_1 rfl (.head _)) ain_nil
          · replace h := ite_f hc9 h
            refine WpC.conv (Conv.keep (U := Un) (b := ⟨[(2, .p I6 a2), (13, .p (.list .str) a0), (14, .p I6 ((a0.length : Int) : Int)), (15, .p I6 v3)], []⟩) [2, 13, 14, 15] [] (by kernel_rfl)) (WpC.skip ?_)
            refine blockQ_normal ?_
            refine thenQ_normal ?_
            refine WpC.reg (U := Un) (st1 := ⟨[(2, .p I6 a2), (13, .p (.list .str) a0), (14, .p I6 ((a0.length : Int) : Int)), (15, .p I6 ((IntKind.i64.wrap (v3 + 1)) : Int))], []⟩) [2, 13, 14, 15] [] hN (.cons (sok_arith (U := Un) (rs := [(15, .p I6 v3)]) rfl rfl o0 (.int _ _ _) rfl) (.cons (mv (U := Un) (v := .p I6 ((IntKind.i64.wrap (v3 + 1)) : Int)) rfl rfl) .nil)) (by kernel_rfl) (by kernel_rfl) (by kernel_rfl) (Conv.refl (U := Un) _) ?_
            refine thenQ_normal ?_
            exact ⟨n, Nat.lt_succ_self n, (IntKind.i64.wrap (v3 + 1)), h, rfl⟩
        · replace h := ite_f hc7 h
          refine WpC.conv (Conv.keep (U := Un) (b := ⟨[], []⟩) [] [] (by kernel_rfl)) (WpC.exit ?_)
          refine thenQ_exit ?_
          have hq := Option.some.inj h
          subst hq
          refine thenQ_exit ?_
          have h := hout6
          refine blockQ_hit ?_
          refine thenQ_normal ?_
          exact ⟨h, rfl⟩
    · rintro _ ⟨h, rfl⟩
      unfold millwrightnum_Long.j2 at h
      refine WpC.seq ?_
      refine WpC.reg (U := Un) (st1 := ⟨[(6, .p .bool false)], []⟩) [6] [] hN (.cons (sok_move (U := Un) (rs := []) rfl (.inr rfl) (.bool _ _)) .nil) (by kernel_rfl) (by kernel_rfl) (by kernel_rfl) (Conv.refl (U := Un) _) ?_
      refine thenQ_normal ?_
      refine WpC.ret ?_
      have hq := Option.some.inj h
      subst hq
      exact ends_ret (retV_1 rfl (.head _)) ain_nil

theorem millwrightnum_Texts.ok (O : Out) (hO : GOkQ O) (k : Nat) (a0 : List (List UInt8)) (out : (List (List UInt8)) × Nat) (h : millwrightnum_Texts.f k a0 = some out) : COk Un O Tryd.prog 9 { ar := [.p (.list .str) a0], r := .vec 60500 1 0 out.2, bs' := [(60500, .row 9 .str out.1 true)], nn := [60500] } := by
  refine cok_of_wp Tryd.func9 rfl (k := 16) rfl (Nat.le_of_ble_eq_true rfl) (namesOk_of (by kernel_rfl)) ?_
  intro B hN
  refine WpC.conv (Conv.keep (U := Un) (b := ⟨[(0, .p (.list .str) a0)], []⟩) [0] [] (by kernel_rfl)) ?_
  unfold millwrightnum_Texts.f at h
  refine WpC.seq ?_
  refine WpC.reg (U := Un) (st1 := ⟨[(0, .p (.list .str) a0)], []⟩) [0] [] hN (.cons (sok_move (U := Un) (rs := []) rfl (.inr rfl) (.lit _ _ rfl)) .nil) (by kernel_rfl) (by kernel_rfl) (by kernel_rfl) (Conv.refl (U := Un) _) ?_
  refine thenQ_normal ?_
  refine WpC.seq ?_
  obtain ⟨g1, h⟩ := if_some h
  obtain ⟨g2, h⟩ := if_some h
  obtain ⟨g3, h⟩ := if_some h
  refine WpC.reg (U := Un) (st1 := ⟨[(0, .p (.list .str) a0), (3, .vec 7 1 0 (((0 : Int).toNat + a0.length) + [([1] : List UInt8), ([2] : List UInt8), ([3] : List UInt8)].length))], [(7, .row 9 .str (((List.replicate (IntKind.i64.wrap ((a0.length : Int) + 3)).toNat ([] : List UInt8)).take ((0 : Int).toNat) ++ a0 ++ (List.replicate (IntKind.i64.wrap ((a0.length : Int) + 3)).toNat ([] : List UInt8)).drop ((0 : Int).toNat + a0.length)).take ((0 : Int).toNat + a0.length) ++ [([1] : List UInt8), ([2] : List UInt8), ([3] : List UInt8)] ++ ((List.replicate (IntKind.i64.wrap ((a0.length : Int) + 3)).toNat ([] : List UInt8)).take ((0 : Int).toNat) ++ a0 ++ (List.replicate (IntKind.i64.wrap ((a0.length : Int) + 3)).toNat ([] : List UInt8)).drop ((0 : Int).toNat + a0.length)).drop (((0 : Int).toNat + a0.length) + [([1] : List UInt8), ([2] : List UInt8), ([3] : List UInt8)].length)) true)]⟩) [0, 3] [7] hN (.cons (mv (U := Un) (v := .p (.list .str) a0) rfl rfl) (.cons (sok_lenL (U := Un) (rs := [(4, .p (.list .str) a0)]) rfl rfl Tryd.underlying22 o0) (.cons (sok_arith (U := Un) (rs := [(5, .p I6 ((a0.length : Int) : Int))]) rfl rfl o0 (.int _ _ _) rfl) (.cons (sok_makeSlice (U := Un) (t := .str) (rs := [(6, .p I6 ((IntKind.i64.wrap ((a0.length : Int) + 3)) : Int))]) (z := ([] : List UInt8)) rfl rfl rfl row_22 (by decide) z0_9 (.int _ _ _) o0 g1.1 g1.2.1 g1.2.2) (.cons (mv (U := Un) (v := .p (.list .str) a0) rfl rfl) (.cons (sok_appendPart (U := Un) (t := .str) (rs := [(7, .vec 7 1 0 ((0 : Int).toNat)), (8, .p (.list .str) a0)]) (vw := []) (xs := (List.replicate (IntKind.i64.wrap ((a0.length : Int) + 3)).toNat ([] : List UInt8))) (ys := a0) (fx := true) rfl rfl rfl row_22 o0 o1 (.same _) (by simp) g2.1 g2.2) (.cons (sok_buildSlice (U := Un) (t := .str) (rs := []) (ys := [.const (.string ⟨#[1]⟩), .const (.string ⟨#[2]⟩), .const (.string ⟨#[3]⟩)]) (xs := [([1] : List UInt8), ([2] : List UInt8), ([3] : List UInt8)]) rfl rfl rfl rfl row_22 (.cons (.str _ _) (.cons (.str _ _) (.cons (.str _ _) .nil))) (by decide)) (.cons (sok_appendPart (U := Un) (t := .str) (rs := [(9, .vec 7 1 0 ((0 : Int).toNat + a0.length)), (10, .vec 10 1 0 ([([1] : List UInt8), ([2] : List UInt8), ([3] : List UInt8)].length))]) (vw := [(10, .row 9 .str [([1] : List UInt8), ([2] : List UInt8), ([3] : List UInt8)] true)]) (xs := ((List.replicate (IntKind.i64.wrap ((a0.length : Int) + 3)).toNat ([] : List UInt8)).take ((0 : Int).toNat) ++ a0 ++ (List.replicate (IntKind.i64.wrap ((a0.length : Int) + 3)).toNat ([] : List UInt8)).drop ((0 : Int).toNat + a0.length))) (ys := [([1] : List UInt8), ([2] : List UInt8), ([3] : List UInt8)]) (fx := true) rfl rfl rfl row_22 o0 o1 (.whole (.head _)) (by simp) g3.1 g3.2) (.cons (mva (U := Un) (v := .vec 7 1 0 (((0 : Int).toNat + a0.length) + [([1] : List UInt8), ([2] : List UInt8), ([3] : List UInt8)].length)) rfl rfl) .nil))))))))) (by kernel_rfl) (by kernel_rfl) (by kernel_rfl) (Conv.refl (U := Un) _) ?_
  refine thenQ_normal ?_
  refine WpC.seq ?_
  obtain ⟨g4, h⟩ := if_some h
  refine WpC.reg (U := Un) (st1 := ⟨[(2, .vec 7 1 0 a0.length)], [(7, .row 9 .str (((List.replicate (IntKind.i64.wrap ((a0.length : Int) + 3)).toNat ([] : List UInt8)).take ((0 : Int).toNat) ++ a0 ++ (List.replicate (IntKind.i64.wrap ((a0.length : Int) + 3)).toNat ([] : List UInt8)).drop ((0 : Int).toNat + a0.length)).take ((0 : Int).toNat + a0.length) ++ [([1] : List UInt8), ([2] : List UInt8), ([3] : List UInt8)] ++ ((List.replicate (IntKind.i64.wrap ((a0.length : Int) + 3)).toNat ([] : List UInt8)).take ((0 : Int).toNat) ++ a0 ++ (List.replicate (IntKind.i64.wrap ((a0.length : Int) + 3)).toNat ([] : List UInt8)).drop ((0 : Int).toNat + a0.length)).drop (((0 : Int).toNat + a0.length) + [([1] : List UInt8), ([2] : List UInt8), ([3] : List UInt8)].length)) true)]⟩) [2] [7] hN (.cons (mv (U := Un) (v := .vec 7 1 0 (((0 : Int).toNat + a0.length) + [([1] : List UInt8), ([2] : List UInt8), ([3] : List UInt8)].length)) rfl rfl) (.cons (mv (U := Un) (v := .p (.list .str) a0) rfl rfl) (.cons (sok_lenL (U := Un) (rs := [(13, .p (.list .str) a0)]) rfl rfl Tryd.underlying22 o0) (.cons (sok_sliceV (U := Un) (t := .str) (rs := [(12, .vec 7 1 0 (((0 : Int).toNat + a0.length) + [([1] : List UInt8), ([2] : List UInt8), ([3] : List UInt8)].length)), (14, .p I6 ((a0.length : Int) : Int))]) (xs := (((List.replicate (IntKind.i64.wrap ((a0.length : Int) + 3)).toNat ([] : List UInt8)).take ((0 : Int).toNat) ++ a0 ++ (List.replicate (IntKind.i64.wrap ((a0.length : Int) + 3)).toNat ([] : List UInt8)).drop ((0 : Int).toNat + a0.length)).take ((0 : Int).toNat + a0.length) ++ [([1] : List UInt8), ([2] : List UInt8), ([3] : List UInt8)] ++ ((List.replicate (IntKind.i64.wrap ((a0.length : Int) + 3)).toNat ([] : List UInt8)).take ((0 : Int).toNat) ++ a0 ++ (List.replicate (IntKind.i64.wrap ((a0.length : Int) + 3)).toNat ([] : List UInt8)).drop ((0 : Int).toNat + a0.length)).drop (((0 : Int).toNat + a0.length) + [([1] : List UInt8), ([2] : List UInt8), ([3] : List UInt8)].length))) (fx := true) rfl rfl sl_22 o0 .no (.at o1) g4.1 g4.2.1 g4.2.2) (.cons (mva (U := Un) (v := .vec 7 1 0 a0.length) rfl rfl) .nil))))) (by kernel_rfl) (by kernel_rfl) (by kernel_rfl) (Conv.refl (U := Un) _) ?_
  refine thenQ_normal ?_
  refine WpC.conv (Conv.trans (U := Un) (Conv.ren (U := Un) (st' := ⟨[(2, .vec 60500 1 0 a0.length)], [(60500, .row 9 .str (((List.replicate (IntKind.i64.wrap ((a0.length : Int) + 3)).toNat ([] : List UInt8)).take ((0 : Int).toNat) ++ a0 ++ (List.replicate (IntKind.i64.wrap ((a0.length : Int) + 3)).toNat ([] : List UInt8)).drop ((0 : Int).toNat + a0.length)).take ((0 : Int).toNat + a0.length) ++ [([1] : List UInt8), ([2] : List UInt8), ([3] : List UInt8)] ++ ((List.replicate (IntKind.i64.wrap ((a0.length : Int) + 3)).toNat ([] : List UInt8)).take ((0 : Int).toNat) ++ a0 ++ (List.replicate (IntKind.i64.wrap ((a0.length : Int) + 3)).toNat ([] : List UInt8)).drop ((0 : Int).toNat + a0.length)).drop (((0 : Int).toNat + a0.length) + [([1] : List UInt8), ([2] : List UInt8), ([3] : List UInt8)].length)) true)]⟩) 7 60500 (by unfold K0; omega) (by kernel_rfl) (by kernel_rfl) (by kernel_rfl)) (Conv.keep (U := Un) (b := ⟨[(2, .vec 60500 1 0 a0.length)], [(60500, .row 9 .str (((List.replicate (IntKind.i64.wrap ((a0.length : Int) + 3)).toNat ([] : List UInt8)).take ((0 : Int).toNat) ++ a0 ++ (List.replicate (IntKind.i64.wrap ((a0.length : Int) + 3)).toNat ([] : List UInt8)).drop ((0 : Int).toNat + a0.length)).take ((0 : Int).toNat + a0.length) ++ [([1] : List UInt8), ([2] : List UInt8), ([3] : List UInt8)] ++ ((List.replicate (IntKind.i64.wrap ((a0.length : Int) + 3)).toNat ([] : List UInt8)).take ((0 : Int).toNat) ++ a0 ++ (List.replicate (IntKind.i64.wrap ((a0.length : Int) + 3)).toNat ([] : List UInt8)).drop ((0 : Int).toNat + a0.length)).drop (((0 : Int).toNat + a0.length) + [([1] : List UInt8), ([2] : List UInt8), ([3] : List UInt8)].length)) true)]⟩) [2] [60500] (by kernel_rfl))) (WpC.ret ?_)
  have hq := Option.some.inj h
  subst hq
  exact ends_ret (retV_1 rfl (.head _)) (ain_cons (.head _) ain_nil)

theorem quote_Plain.ok (O : Out) (hO : GOkQ O) (k : Nat) (a0 : List UInt8) (out : Bool) (h : quote_Plain.f k a0 = some out) : COk Un O Tryd.prog 62 { ar := [.p .str a0], r := .p .bool out } := by
  refine cok_of_wp Tryd.func62 rfl (k := 29) rfl (Nat.le_of_ble_eq_true rfl) (namesOk_pure rfl rfl rfl rfl) ?_
  intro B hN
  refine WpC.conv (Conv.keep (U := Un) (b := ⟨[(0, .p .str a0)], []⟩) [0] [] (by kernel_rfl)) ?_
  unfold quote_Plain.f at h
  refine WpC.seq ?_
  refine WpC.reg (U := Un) (st1 := ⟨[(0, .p .str a0)], []⟩) [0] [] hN (.cons (sok_move (U := Un) (rs := []) rfl (.inr rfl) (.bool _ _)) .nil) (by kernel_rfl) (by kernel_rfl) (by kernel_rfl) (Conv.refl (U := Un) _) ?_
  refine thenQ_normal ?_
  refine WpC.seqJ (U := Un) (fun st' => quote_Plain.j1 k a0 = some out ∧ st' = ⟨[(0, .p .str a0)], []⟩) ?_ ?_
  · refine WpC.seq ?_
    refine WpC.reg (U := Un) (st1 := ⟨[(0, .p .str a0), (5, .p I6 ((a0.length : Int) : Int)), (6, .p I6 (0 : Int))], []⟩) [0, 5, 6] [] hN (.cons (mv (U := Un) (v := .p .str a0) rfl rfl) (.cons (sok_lenS (U := Un) (rs := [(4, .p .str a0)]) rfl rfl Tryd.underlying9 o0) (.cons (sok_move (U := Un) (rs := []) rfl (.inl rfl) (.int _ _ _)) .nil))) (by kernel_rfl) (by kernel_rfl) (by kernel_rfl) (Conv.refl (U := Un) _) ?_
    refine thenQ_normal ?_
    refine WpC.block ?_
    obtain ⟨o4, hlo4, h⟩ := bind_some h
    have hout5 := h
    clear h
    refine WpC.loop (U := Un) (fun n st' => ∃ v2 : Int, quote_Plain.l3 k a0 n v2 = some o4 ∧ st' = ⟨[(0, .p .str a0), (5, .p I6 ((a0.length : Int) : Int)), (6, .p I6 v2)], []⟩) k ⟨0, hlo4, rfl⟩ ?_
    clear hlo4
    rintro (_ | n) _ ⟨v2, h, rfl⟩
    · cases h
    · rw [quote_Plain.l3] at h
      refine WpC.seq ?_
      refine WpC.reg (U := Un) (st1 := ⟨[(0, .p .str a0), (5, .p I6 ((a0.length : Int) : Int)), (6, .p I6 v2), (7, .p .bool ((decide (v2 < (a0.length : Int))) : Bool))], []⟩) [0, 5, 6, 7] [] hN (.cons (sok_cmp (U := Un) (rs := [(6, .p I6 v2), (5, .p I6 ((a0.length : Int) : Int))]) rfl rfl o0 o1 rfl) .nil) (by kernel_rfl) (by kernel_rfl) (by kernel_rfl) (Conv.refl (U := Un) _) ?_
      refine thenQ_normal ?_
      refine WpC.seq ?_
      refine WpC.cond (U := Un) (b := (decide (v2 < (a0.length : Int)))) (.tmp (.tail _ (.tail _ (.tail _ (.head _))))) (fun hc6 => ?_) (fun hc6 => ?_)
      · replace h := ite_t hc6 h
        refine WpC.conv (Conv.keep (U := Un) (b := ⟨[(0, .p .str a0), (5, .p I6 ((a0.length : Int) : Int)), (6, .p I6 v2)], []⟩) [0, 5, 6] [] (by kernel_rfl)) (WpC.skip ?_)
        refine thenQ_normal ?_
        refine WpC.seqJ (U := Un) (fun st' => quote_Plain.j7 k (quote_Plain.l3 k a0 n) a0 v2 = some o4 ∧ st' = ⟨[(0, .p .str a0), (5, .p I6 ((a0.length : Int) : Int)), (6, .p I6 v2)], []⟩) ?_ ?_
        · refine WpC.block ?_
          refine WpC.seq ?_
          refine WpC.reg (U := Un) (st1 := ⟨[(0, .p .str a0), (3, .p I6 v2), (5, .p I6 ((a0.length : Int) : Int)), (6, .p I6 v2)], []⟩) [0, 3, 5, 6] [] hN (.cons (mv (U := Un) (v := .p I6 v2) rfl rfl) (.cons (mva (U := Un) (v := .p I6 v2) rfl rfl) .nil)) (by kernel_rfl) (by kernel_rfl) (by kernel_rfl) (Conv.refl (U := Un) _) ?_
          refine thenQ_normal ?_
          refine WpC.seqJ (U := Un) (fun st' => ∃ v8 : Bool, quote_Plain.j10 k (quote_Plain.l3 k a0 n) a0 v2 v8 = some o4 ∧ st' = ⟨[(0, .p .str a0), (5, .p I6 ((a0.length : Int) : Int)), (6, .p I6 v2), (25, .p .bool v8)], []⟩) ?_ ?_
          · obtain ⟨v11, hv11, h⟩ := bind_some h
            obtain ⟨v12, hv12, h⟩ := bind_some h
            rcases bool_cases v12 with hc13 | hc13
            · replace h := ite_t hc13 h
              refine WpC.reg (U := Un) (st1 := ⟨[(0, .p .str a0), (5, .p I6 ((a0.length : Int) : Int)), (6, .p I6 v2), (25, .p .bool true)], []⟩) [0, 5, 6, 25] [] hN (.cons (mv (U := Un) (v := .p .str a0) rfl rfl) (.cons (mv (U := Un) (v := .p I6 v2) rfl rfl) (.cons (sok_indexS (U := Un) (rs := [(9, .p .str a0), (10, .p I6 v2)]) rfl rfl Tryd.underlying9 o0 o1 hv11) (.cons (sok_callV (U := Un) (rs := [(11, .p (.int .u8) ((v11.toNat : Int) : Int))]) (vw := []) rfl rfl (.func _) hb_46 (quote_Blank.ok O hO k (v11.toNat : Int) v12 hv12) (.cons o0 .nil) (.cons (.same _) .nil) (by simp) (.inl rfl)) (.cons (mv (U := Un) (v := .p .bool v12) rfl rfl) (.cons (sok_skip rfl rfl hc13) (.cons (sok_skip rfl rfl hc13) (.cons (sok_skip rfl rfl hc13) (.cons (sok_skip rfl rfl hc13) (.cons (sok_pickT (U := Un) (rs := [(13, .p .bool v12)]) rfl rfl o0 hc13 (.bool _ _)) (.cons (mv (U := Un) (v := .p .bool true) rfl rfl) (.cons (sok_skip rfl rfl rfl) (.cons (sok_skip rfl rfl rfl) (.cons (sok_skip rfl rfl rfl) (.cons (sok_skip rfl rfl rfl) (.cons (sok_skip rfl rfl rfl) (.cons (sok_pickT (U := Un) (rs := [(19, .p .bool true)]) rfl rfl o0 rfl (.bool _ _)) .nil))))))))))))))))) (by kernel_rfl) (by kernel_rfl) (by kernel_rfl) (Conv.refl (U := Un) _) ?_
              refine thenQ_normal ?_
              exact ⟨true, h, rfl⟩
            · replace h := ite_f hc13 h
              obtain ⟨v14, hv14, h⟩ := bind_some h
              rcases bool_cases ((v14.toNat : Int) == 39) with hc15 | hc15
              · replace h := ite_t hc15 h
                refine WpC.reg (U := Un) (st1 := ⟨[(0, .p .str a0), (5, .p I6 ((a0.length : Int) : Int)), (6, .p I6 v2), (25, .p .bool true)], []⟩) [0, 5, 6, 25] [] hN (.cons (mv (U := Un) (v := .p .str a0) rfl rfl) (.cons (mv (U := Un) (v := .p I6 v2) rfl rfl) (.cons (sok_indexS (U := Un) (rs := [(9, .p .str a0), (10, .p I6 v2)]) rfl rfl Tryd.underlying9 o0 o1 hv11) (.cons (sok_callV (U := Un) (rs := [(11, .p (.int .u8) ((v11.toNat : Int) : Int))]) (vw := []) rfl rfl (.func _) hb_46 (quote_Blank.ok O hO k (v11.toNat : Int) v12 hv12) (.cons o0 .nil) (.cons (.same _) .nil) (by simp) (.inl rfl)) (.cons (mv (U := Un) (v := .p .bool v12) rfl rfl) (.cons (sok_run rfl rfl hc13 (mv (U := Un) (v := .p .str a0) rfl rfl)) (.cons (sok_run rfl rfl hc13 (mv (U := Un) (v := .p I6 v2) rfl rfl)) (.cons (sok_run rfl rfl hc13 (sok_indexS (U := Un) (rs := [(14, .p .str a0), (15, .p I6 v2)]) rfl rfl Tryd.underlying9 o0 o1 hv14)) (.cons (sok_run rfl rfl hc13 (sok_cmp (U := Un) (rs := [(16, .p (.int .u8) ((v14.toNat : Int) : Int))]) rfl rfl o0 (.int _ _ _) rfl)) (.cons (sok_pickF (U := Un) (rs := [(13, .p .bool v12), (17, .p .bool (((v14.toNat : Int) == 39) : Bool))]) rfl rfl o0 hc13 o1) (.cons (mv (U := Un) (v := .p .bool (((v14.toNat : Int) == 39) : Bool)) rfl rfl) (.cons (sok_skip rfl rfl hc15) (.cons (sok_skip rfl rfl hc15) (.cons (sok_skip rfl rfl hc15) (.cons (sok_skip rfl rfl hc15) (.cons (sok_skip rfl rfl hc15) (.cons (sok_pickT (U := Un) (rs := [(19, .p .bool (((v14.toNat : Int) == 39) : Bool))]) rfl rfl o0 hc15 (.bool _ _)) .nil))))))))))))))))) (by kernel_rfl) (by kernel_rfl) (by kernel_rfl) (Conv.refl (U := Un) _) ?_
                refine thenQ_normal ?_
                exact ⟨true, h, rfl⟩
              · replace h := ite_f hc15 h
                obtain ⟨v16, hv16, h⟩ := bind_some h
                obtain ⟨v17, hv17, h⟩ := bind_some h
                refine WpC.reg (U := Un) (st1 := ⟨[(0, .p .str a0), (5, .p I6 ((a0.length : Int) : Int)), (6, .p I6 v2), (25, .p .bool ((decide (v17 ≥ 0)) : Bool))], []⟩) [0, 5, 6, 25] [] hN (.cons (mv (U := Un) (v := .p .str a0) rfl rfl) (.cons (mv (U := Un) (v := .p I6 v2) rfl rfl) (.cons (sok_indexS (U := Un) (rs := [(9, .p .str a0), (10, .p I6 v2)]) rfl rfl Tryd.underlying9 o0 o1 hv11) (.cons (sok_callV (U := Un) (rs := [(11, .p (.int .u8) ((v11.toNat : Int) : Int))]) (vw := []) rfl rfl (.func _) hb_46 (quote_Blank.ok O hO k (v11.toNat : Int) v12 hv12) (.cons o0 .nil) (.cons (.same _) .nil) (by simp) (.inl rfl)) (.cons (mv (U := Un) (v := .p .bool v12) rfl rfl) (.cons (sok_run rfl rfl hc13 (mv (U := Un) (v := .p .str a0) rfl rfl)) (.cons (sok_run rfl rfl hc13 (mv (U := Un) (v := .p I6 v2) rfl rfl)) (.cons (sok_run rfl rfl hc13 (sok_indexS (U := Un) (rs := [(14, .p .str a0), (15, .p I6 v2)]) rfl rfl Tryd.underlying9 o0 o1 hv14)) (.cons (sok_run rfl rfl hc13 (sok_cmp (U := Un) (rs := [(16, .p (.int .u8) ((v14.toNat : Int) : Int))]) rfl rfl o0 (.int _ _ _) rfl)) (.cons (sok_pickF (U := Un) (rs := [(13, .p .bool v12), (17, .p .bool (((v14.toNat : Int) == 39) : Bool))]) rfl rfl o0 hc13 o1) (.cons (mv (U := Un) (v := .p .bool (((v14.toNat : Int) == 39) : Bool)) rfl rfl) (.cons (sok_run rfl rfl hc15 (mv (U := Un) (v := .p .str a0) rfl rfl)) (.cons (sok_run rfl rfl hc15 (mv (U := Un) (v := .p I6 v2) rfl rfl)) (.cons (sok_run rfl rfl hc15 (sok_indexS (U := Un) (rs := [(20, .p .str a0), (21, .p I6 v2)]) rfl rfl Tryd.underlying9 o0 o1 hv16)) (.cons (sok_run rfl rfl hc15 (sok_call (U := Un) (rs := [(22, .p (.int .u8) ((v16.toNat : Int) : Int))]) (vw := []) rfl rfl hb_67 (pIndexByte.ok O hO k ([35, 36, 96, 58, 61, 60, 92, 59, 38, 124, 40, 41, 123, 125, 91, 93, 42, 63, 94, 126] : List UInt8) (v16.toNat : Int) v17 hv17) (.cons (.str _ _) (.cons o0 .nil)) (.cons (.same _) (.cons (.same _) .nil)) (by simp) (.inl rfl))) (.cons (sok_run rfl rfl hc15 (sok_cmp (U := Un) (rs := [(23, .p I6 v17)]) rfl rfl o0 (.int _ _ _) rfl)) (.cons (sok_pickF (U := Un) (rs := [(19, .p .bool (((v14.toNat : Int) == 39) : Bool)), (24, .p .bool ((decide (v17 ≥ 0)) : Bool))]) rfl rfl o0 hc15 o1) .nil))))))))))))))))) (by kernel_rfl) (by kernel_rfl) (by kernel_rfl) (Conv.refl (U := Un) _) ?_
                refine thenQ_normal ?_
                exact ⟨(decide (v17 ≥ 0)), h, rfl⟩
          · rintro _ ⟨v8, h, rfl⟩
            unfold quote_Plain.j10 at h
            refine WpC.cond (U := Un) (b := v8) (.tmp (.tail _ (.tail _ (.tail _ (.head _))))) (fun hc9 => ?_) (fun hc9 => ?_)
            · replace h := ite_t hc9 h
              refine WpC.seq ?_
              refine WpC.reg (U := Un) (st1 := ⟨[(2, .p .bool false)], []⟩) [2] [] hN (.cons (sok_move (U := Un) (rs := []) rfl (.inr rfl) (.bool _ _)) .nil) (by kernel_rfl) (by kernel_rfl) (by kernel_rfl) (Conv.refl (U := Un) _) ?_
              refine thenQ_normal ?_
              refine WpC.ret ?_
              refine blockQ_ret ?_
              refine thenQ_ret ?_
              have hq := Option.some.inj h
              subst hq
              refine thenQ_ret ?_
              have h := hout5
              refine blockQ_ret ?_
              refine thenQ_ret ?_
              have hq := Option.some.inj h
              subst hq
              exact ends_ret (retV_1 rfl (.head _)) ain_nil
            · replace h := ite_f hc9 h
              refine WpC.conv (Conv.keep (U := Un) (b := ⟨[(0, .p .str a0), (5, .p I6 ((a0.length : Int) : Int)), (6, .p I6 v2)], []⟩) [0, 5, 6] [] (by kernel_rfl)) (WpC.skip ?_)
              refine blockQ_normal ?_
              refine thenQ_normal ?_
              exact ⟨h, rfl⟩
        · rintro _ ⟨h, rfl⟩
          unfold quote_Plain.j7 at h
          refine WpC.reg (U := Un) (st1 := ⟨[(0, .p .str a0), (5, .p I6 ((a0.length : Int) : Int)), (6, .p I6 ((IntKind.i64.wrap (v2 + 1)) : Int))], []⟩) [0, 5, 6] [] hN (.cons (sok_arith (U := Un) (rs := [(6, .p I6 v2)]) rfl rfl o0 (.int _ _ _) rfl) (.cons (mv (U := Un) (v := .p I6 ((IntKind.i64.wrap (v2 + 1)) : Int)) rfl rfl) .nil)) (by kernel_rfl) (by kernel_rfl) (by kernel_rfl) (Conv.refl (U := Un) _) ?_
          refine thenQ_normal ?_
          exact ⟨n, Nat.lt_succ_self n, (IntKind.i64.wrap (v2 + 1)), h, rfl⟩
      · replace h := ite_f hc6 h
        refine WpC.conv (Conv.keep (U := Un) (b := ⟨[(0, .p .str a0)], []⟩) [0] [] (by kernel_rfl)) (WpC.exit ?_)
        refine thenQ_exit ?_
        have hq := Option.some.inj h
        subst hq
        refine thenQ_exit ?_
        have h := hout5
        refine blockQ_hit ?_
        refine thenQ_normal ?_
        exact ⟨h, rfl⟩
  · rintro _ ⟨h, rfl⟩
    unfold quote_Plain.j1 at h
    refine WpC.seq ?_
    refine WpC.reg (U := Un) (st1 := ⟨[(2, .p .bool ((!(a0 == ([] : List UInt8))) : Bool))], []⟩) [2] [] hN (.cons (mv (U := Un) (v := .p .str a0) rfl rfl) (.cons (sok_cmpS (U := Un) (rs := [(27, .p .str a0)]) rfl rfl o0 (.str _ _) rfl) (.cons (mva (U := Un) (v := .p .bool ((!(a0 == ([] : List UInt8))) : Bool)) rfl rfl) .nil))) (by kernel_rfl) (by kernel_rfl) (by kernel_rfl) (Conv.refl (U := Un) _) ?_
    refine thenQ_normal ?_
    refine WpC.ret ?_
    have hq := Option.some.inj h
    subst hq
    exact ends_ret (retV_1 rfl (.head _)) ain_nil

theorem quote_Quote.ok (O : Out) (hO : GOkQ O) (k : Nat) (a0 : List UInt8) (out : List UInt8) (h : quote_Quote.f k a0 = some out) : COk Un O Tryd.prog 43 { ar := [.p .str a0], r := .p .str out } := by
  refine cok_of_wp Tryd.func43 rfl (k := 10) rfl (Nat.le_of_ble_eq_true rfl) (namesOk_pure rfl rfl rfl rfl) ?_
  intro B hN
  refine WpC.conv (Conv.keep (U := Un) (b := ⟨[(0, .p .str a0)], []⟩) [0] [] (by kernel_rfl)) ?_
  unfold quote_Quote.f at h
  refine WpC.seq ?_
  refine WpC.reg (U := Un) (st1 := ⟨[(0, .p .str a0)], []⟩) [0] [] hN (.cons (sok_move (U := Un) (rs := []) rfl (.inr rfl) (.str _ _)) .nil) (by kernel_rfl) (by kernel_rfl) (by kernel_rfl) (Conv.refl (U := Un) _) ?_
  refine thenQ_normal ?_
  refine WpC.seq ?_
  refine WpC.seq ?_
  obtain ⟨v1, hv1, h⟩ := bind_some h
  refine WpC.reg (U := Un) (st1 := ⟨[(0, .p .str a0), (4, .p .bool v1)], []⟩) [0, 4] [] hN (.cons (mv (U := Un) (v := .p .str a0) rfl rfl) (.cons (sok_callV (U := Un) (rs := [(3, .p .str a0)]) (vw := []) rfl rfl (.func _) hb_62 (quote_Plain.ok O hO k a0 v1 hv1) (.cons o0 .nil) (.cons (.same _) .nil) (by simp) (.inl rfl)) .nil)) (by kernel_rfl) (by kernel_rfl) (by kernel_rfl) (Conv.refl (U := Un) _) ?_
  refine thenQ_normal ?_
  refine WpC.cond (U := Un) (b := v1) o1 (fun hc2 => ?_) (fun hc2 => ?_)
  · replace h := ite_t hc2 h
    refine WpC.seq ?_
    refine WpC.reg (U := Un) (st1 := ⟨[(2, .p .str a0)], []⟩) [2] [] hN (.cons (mv (U := Un) (v := .p .str a0) rfl rfl) (.cons (mva (U := Un) (v := .p .str a0) rfl rfl) .nil)) (by kernel_rfl) (by kernel_rfl) (by kernel_rfl) (Conv.refl (U := Un) _) ?_
    refine thenQ_normal ?_
    refine WpC.ret ?_
    refine thenQ_ret ?_
    have hq := Option.some.inj h
    subst hq
    exact ends_ret (retV_1 rfl (.head _)) ain_nil
  · replace h := ite_f hc2 h
    refine WpC.conv (Conv.keep (U := Un) (b := ⟨[(0, .p .str a0)], []⟩) [0] [] (by kernel_rfl)) (WpC.skip ?_)
    refine thenQ_normal ?_
    refine WpC.seq ?_
    obtain ⟨v3, hv3, h⟩ := bind_some h
    obtain ⟨g4, h⟩ := if_some h
    obtain ⟨g5, h⟩ := if_some h
    refine WpC.reg (U := Un) (st1 := ⟨[(2, .p .str (((([39] : List UInt8) ++ v3) ++ ([39] : List UInt8)) : List UInt8))], []⟩) [2] [] hN (.cons (mv (U := Un) (v := .p .str a0) rfl rfl) (.cons (sok_call (U := Un) (rs := [(6, .p .str a0)]) (vw := []) rfl rfl hb_61 (pReplaceAll.ok O hO k a0 ([39] : List UInt8) ([39, 39] : List UInt8) v3 hv3) (.cons o0 (.cons (.str _ _) (.cons (.str _ _) .nil))) (.cons (.same _) (.cons (.same _) (.cons (.same _) .nil))) (by simp) (.inl rfl)) (.cons (sok_cat (U := Un) (rs := [(7, .p .str v3)]) rfl rfl (.str _ _) o0 g4) (.cons (sok_cat (U := Un) (rs := [(8, .p .str ((([39] : List UInt8) ++ v3) : List UInt8))]) rfl rfl o0 (.str _ _) g5) (.cons (mva (U := Un) (v := .p .str (((([39] : List UInt8) ++ v3) ++ ([39] : List UInt8)) : List UInt8)) rfl rfl) .nil))))) (by kernel_rfl) (by kernel_rfl) (by kernel_rfl) (Conv.refl (U := Un) _) ?_
    refine thenQ_normal ?_
    refine WpC.ret ?_
    have hq := Option.some.inj h
    subst hq
    exact ends_ret (retV_1 rfl (.head _)) ain_nil

theorem quote_Join.ok (O : Out) (hO : GOkQ O) (k : Nat) (a0 : List (List UInt8)) (out : List UInt8) (h : quote_Join.f k a0 = some out) : COk Un O Tryd.prog 11 { ar := [.p (.list .str) a0], r := .p .str out } := by
  refine cok_of_wp Tryd.func11 rfl (k := 20) rfl (Nat.le_of_ble_eq_true rfl) (namesOk_pure rfl rfl rfl rfl) ?_
  intro B hN
  refine WpC.conv (Conv.keep (U := Un) (b := ⟨[(0, .p (.list .str) a0)], []⟩) [0] [] (by kernel_rfl)) ?_
  unfold quote_Join.f at h
  refine WpC.seq ?_
  refine WpC.reg (U := Un) (st1 := ⟨[(0, .p (.list .str) a0)], []⟩) [0] [] hN (.cons (sok_move (U := Un) (rs := []) rfl (.inr rfl) (.str _ _)) .nil) (by kernel_rfl) (by kernel_rfl) (by kernel_rfl) (Conv.refl (U := Un) _) ?_
  refine thenQ_normal ?_
  refine WpC.seq ?_
  refine WpC.reg (U := Un) (st1 := ⟨[(0, .p (.list .str) a0), (3, .lit (.slice none 0 0))], []⟩) [0, 3] [] hN (.cons (sok_move (U := Un) (rs := []) rfl (.inr rfl) (.lit _ _ rfl)) .nil) (by kernel_rfl) (by kernel_rfl) (by kernel_rfl) (Conv.refl (U := Un) _) ?_
  refine thenQ_normal ?_
  refine WpC.seqJ (U := Un) (fun st' => ∃ v1 : List (List UInt8), quote_Join.j3 k v1 = some out ∧ st' = ⟨[(3, .vec 1003 1 0 v1.length)], [(1003, .row 9 .str v1 false)]⟩) ?_ ?_
  · refine WpC.seq ?_
    refine WpC.reg (U := Un) (st1 := ⟨[(3, .lit (.slice none 0 0)), (6, .p (.list .str) a0), (7, .p I6 ((a0.length : Int) : Int)), (8, .p I6 (0 : Int))], []⟩) [3, 6, 7, 8] [] hN (.cons (mv (U := Un) (v := .p (.list .str) a0) rfl rfl) (.cons (sok_lenL (U := Un) (rs := [(6, .p (.list .str) a0)]) rfl rfl Tryd.underlying22 o0) (.cons (sok_move (U := Un) (rs := []) rfl (.inl rfl) (.int _ _ _)) .nil))) (by kernel_rfl) (by kernel_rfl) (by kernel_rfl) (Conv.refl (U := Un) _) ?_
    refine thenQ_normal ?_
    refine WpC.block ?_
    obtain ⟨o8, hlo8, h⟩ := bind_some h
    have hout9 := h
    clear h
    refine WpC.conv (Conv.trans (U := Un) (Conv.thaw (U := Un) 3 1003 9 .str (.head _) (by kernel_rfl) (by unfold K0; omega)) (Conv.keep (U := Un) (b := ⟨[(3, .vec 1003 1 0 0), (6, .p (.list .str) a0), (7, .p I6 ((a0.length : Int) : Int)), (8, .p I6 (0 : Int))], [(1003, .row 9 .str [] false)]⟩) [3, 6, 7, 8] [1003] (by kernel_rfl))) ?_
    refine WpC.loop (U := Un) (fun n st' => ∃ v4 : List (List UInt8), ∃ v5 : Int, quote_Join.l6 k a0 n v4 v5 = some o8 ∧ st' = ⟨[(3, .vec 1003 1 0 v4.length), (6, .p (.list .str) a0), (7, .p I6 ((a0.length : Int) : Int)), (8, .p I6 v5)], [(1003, .row 9 .str v4 false)]⟩) k ⟨[], 0, hlo8, rfl⟩ ?_
    clear hlo8
    rintro (_ | n) _ ⟨v4, v5, h, rfl⟩
    · cases h
    · rw [quote_Join.l6] at h
      refine WpC.seq ?_
      refine WpC.reg (U := Un) (st1 := ⟨[(3, .vec 1003 1 0 v4.length), (6, .p (.list .str) a0), (7, .p I6 ((a0.length : Int) : Int)), (8, .p I6 v5), (9, .p .bool ((decide (v5 < (a0.length : Int))) : Bool))], [(1003, .row 9 .str v4 false)]⟩) [3, 6, 7, 8, 9] [1003] hN (.cons (sok_cmp (U := Un) (rs := [(8, .p I6 v5), (7, .p I6 ((a0.length : Int) : Int))]) rfl rfl o0 o1 rfl) .nil) (by kernel_rfl) (by kernel_rfl) (by kernel_rfl) (Conv.refl (U := Un) _) ?_
      refine thenQ_normal ?_
      refine WpC.seq ?_
      refine WpC.cond (U := Un) (b := (decide (v5 < (a0.length : Int)))) (.tmp (.tail _ (.tail _ (.tail _ (.tail _ (.head _)))))) (fun hc10 => ?_) (fun hc10 => ?_)
      · replace h := ite_t hc10 h
        refine WpC.conv (Conv.keep (U := Un) (b := ⟨[(3, .vec 1003 1 0 v4.length), (6, .p (.list .str) a0), (7, .p I6 ((a0.length : Int) : Int)), (8, .p I6 v5)], [(1003, .row 9 .str v4 false)]⟩) [3, 6, 7, 8] [1003] (by kernel_rfl)) (WpC.skip ?_)
        refine thenQ_normal ?_
        refine WpC.seq ?_
        refine WpC.block ?_
        refine WpC.seq ?_
        obtain ⟨v11, hv11, h⟩ := bind_some h
        refine WpC.reg (U := Un) (st1 := ⟨[(3, .vec 1003 1 0 v4.length), (5, .p .str v11), (6, .p (.list .str) a0), (7, .p I6 ((a0.length : Int) : Int)), (8, .p I6 v5)], [(1003, .row 9 .str v4 false)]⟩) [3, 5, 6, 7, 8] [1003] hN (.cons (sok_indexL (U := Un) (rs := [(6, .p (.list .str) a0), (8, .p I6 v5)]) rfl rfl sl_22 o0 o1 hv11) (.cons (sok_loadP (U := Un) (rs := [(10, .pp .str v11)]) rfl rfl ty_9 o0) (.cons (mva (U := Un) (v := .p .str v11) rfl rfl) .nil))) (by kernel_rfl) (by kernel_rfl) (by kernel_rfl) (Conv.refl (U := Un) _) ?_
        refine thenQ_normal ?_
        obtain ⟨v12, hv12, h⟩ := bind_some h
        obtain ⟨g13, h⟩ := if_some h
        refine WpC.reg (U := Un) (st1 := ⟨[(3, .vec 16 1 0 ((v4 ++ [v12]).length)), (6, .p (.list .str) a0), (7, .p I6 ((a0.length : Int) : Int)), (8, .p I6 v5)], [(16, .row 9 .str (v4 ++ [v12]) false)]⟩) [3, 6, 7, 8] [16] hN (.cons (mv (U := Un) (v := .vec 1003 1 0 v4.length) rfl rfl) (.cons (mv (U := Un) (v := .p .str v11) rfl rfl) (.cons (sok_callV (U := Un) (rs := [(13, .p .str v11)]) (vw := []) rfl rfl (.func _) hb_43 (quote_Quote.ok O hO k v11 v12 hv12) (.cons o0 .nil) (.cons (.same _) .nil) (by simp) (.inl rfl)) (.cons (sok_buildSlice (U := Un) (t := .str) (rs := [(14, .p .str v12)]) (ys := [.tmp 14]) (xs := [v12]) rfl rfl rfl rfl row_22 (.cons o0 .nil) (by decide)) (.cons (sok_append' (U := Un) (t := .str) (rs := [(12, .vec 1003 1 0 v4.length), (15, .vec 15 1 0 ([v12].length))]) (vw := [(15, .row 9 .str [v12] true)]) (xs := v4) (ys := [v12]) (fx := false) rfl rfl rfl row_22 (by decide) o0 o1 (.whole (.head _)) (by simp) g13) (.cons (mva (U := Un) (v := .vec 16 1 0 ((v4 ++ [v12]).length)) rfl rfl) .nil)))))) (by kernel_rfl) (by kernel_rfl) (by kernel_rfl) (Conv.refl (U := Un) _) ?_
        refine blockQ_normal ?_
        refine thenQ_normal ?_
        refine WpC.reg (U := Un) (st1 := ⟨[(3, .vec 16 1 0 ((v4 ++ [v12]).length)), (6, .p (.list .str) a0), (7, .p I6 ((a0.length : Int) : Int)), (8, .p I6 ((IntKind.i64.wrap (v5 + 1)) : Int))], [(16, .row 9 .str (v4 ++ [v12]) false)]⟩) [3, 6, 7, 8] [16] hN (.cons (sok_arith (U := Un) (rs := [(8, .p I6 v5)]) rfl rfl o0 (.int _ _ _) rfl) (.cons (mv (U := Un) (v := .p I6 ((IntKind.i64.wrap (v5 + 1)) : Int)) rfl rfl) .nil)) (by kernel_rfl) (by kernel_rfl) (by kernel_rfl) (Conv.trans (U := Un) (Conv.ren (U := Un) (st' := ⟨[(3, .vec 1003 1 0 ((v4 ++ [v12]).length)), (6, .p (.list .str) a0), (7, .p I6 ((a0.length : Int) : Int)), (8, .p I6 ((IntKind.i64.wrap (v5 + 1)) : Int))], [(1003, .row 9 .str (v4 ++ [v12]) false)]⟩) 16 1003 (by unfold K0; omega) (by kernel_rfl) (by kernel_rfl) (by kernel_rfl)) (Conv.keep (U := Un) (b := ⟨[(3, .vec 1003 1 0 ((v4 ++ [v12]).length)), (6, .p (.list .str) a0), (7, .p I6 ((a0.length : Int) : Int)), (8, .p I6 ((IntKind.i64.wrap (v5 + 1)) : Int))], [(1003, .row 9 .str (v4 ++ [v12]) false)]⟩) [3, 6, 7, 8] [1003] (by kernel_rfl))) ?_
        refine thenQ_normal ?_
        exact ⟨n, Nat.lt_succ_self n, (v4 ++ [v12]), (IntKind.i64.wrap (v5 + 1)), h, rfl⟩
      · replace h := ite_f hc10 h
        refine WpC.conv (Conv.keep (U := Un) (b := ⟨[(3, .vec 1003 1 0 v4.length)], [(1003, .row 9 .str v4 false)]⟩) [3] [1003] (by kernel_rfl)) (WpC.exit ?_)
        refine thenQ_exit ?_
        have hq := Option.some.inj h
        subst hq
        refine thenQ_exit ?_
        have h := hout9
        refine blockQ_hit ?_
        refine thenQ_normal ?_
        exact ⟨v4, h, rfl⟩
  · rintro _ ⟨v1, h, rfl⟩
    unfold quote_Join.j3 at h
    refine WpC.seq ?_
    obtain ⟨v2, hv2, h⟩ := bind_some h
    refine WpC.reg (U := Un) (st1 := ⟨[(2, .p .str v2)], []⟩) [2] [] hN (.cons (mv (U := Un) (v := .vec 1003 1 0 v1.length) rfl rfl) (.cons (sok_call (U := Un) (rs := [(18, .vec 1003 1 0 v1.length)]) (vw := [(1003, .row 9 .str v1 false)]) rfl rfl hb_44 (pJoin.ok O hO k v1 ([32] : List UInt8) v2 hv2) (.cons o0 (.cons (.str _ _) .nil)) (.cons (.whole (.head _)) (.cons (.same _) .nil)) (by simp) (.inr rfl)) (.cons (mva (U := Un) (v := .p .str v2) rfl rfl) .nil))) (by kernel_rfl) (by kernel_rfl) (by kernel_rfl) (Conv.refl (U := Un) _) ?_
    refine thenQ_normal ?_
    refine WpC.ret ?_
    have hq := Option.some.inj h
    subst hq
    exact ends_ret (retV_1 rfl (.head _)) ain_nil

theorem millwrightnum_SameTexts.ok (O : Out) (hO : GOkQ O) (k : Nat) (a0 : List (List UInt8)) (a1 : List (List UInt8)) (out : Bool) (h : millwrightnum_SameTexts.f k a0 a1 = some out) : COk Un O Tryd.prog 12 { ar := [.p (.list .str) a0, .p (.list .str) a1], r := .p .bool out } := by
  refine cok_of_wp Tryd.func12 rfl (k := 26) rfl (Nat.le_of_ble_eq_true rfl) (namesOk_pure rfl rfl rfl rfl) ?_
  intro B hN
  refine WpC.conv (Conv.keep (U := Un) (b := ⟨[(0, .p (.list .str) a0), (1, .p (.list .str) a1)], []⟩) [0, 1] [] (by kernel_rfl)) ?_
  unfold millwrightnum_SameTexts.f at h
  refine WpC.seq ?_
  refine WpC.reg (U := Un) (st1 := ⟨[(0, .p (.list .str) a0), (1, .p (.list .str) a1)], []⟩) [0, 1] [] hN (.cons (sok_move (U := Un) (rs := []) rfl (.inr rfl) (.bool _ _)) .nil) (by kernel_rfl) (by kernel_rfl) (by kernel_rfl) (Conv.refl (U := Un) _) ?_
  refine thenQ_normal ?_
  refine WpC.seq ?_
  refine WpC.seq ?_
  refine WpC.reg (U := Un) (st1 := ⟨[(0, .p (.list .str) a0), (1, .p (.list .str) a1), (10, .p .bool (((a0.length : Int) != (a1.length : Int)) : Bool))], []⟩) [0, 1, 10] [] hN (.cons (mv (U := Un) (v := .p (.list .str) a0) rfl rfl) (.cons (sok_lenL (U := Un) (rs := [(6, .p (.list .str) a0)]) rfl rfl Tryd.underlying22 o0) (.cons (mv (U := Un) (v := .p (.list .str) a1) rfl rfl) (.cons (sok_lenL (U := Un) (rs := [(8, .p (.list .str) a1)]) rfl rfl Tryd.underlying22 o0) (.cons (sok_cmp (U := Un) (rs := [(7, .p I6 ((a0.length : Int) : Int)), (9, .p I6 ((a1.length : Int) : Int))]) rfl rfl o0 o1 rfl) .nil))))) (by kernel_rfl) (by kernel_rfl) (by kernel_rfl) (Conv.refl (U := Un) _) ?_
  refine thenQ_normal ?_
  refine WpC.cond (U := Un) (b := ((a0.length : Int) != (a1.length : Int))) (.tmp (.tail _ (.tail _ (.head _)))) (fun hc1 => ?_) (fun hc1 => ?_)
  · replace h := ite_t hc1 h
    refine WpC.seq ?_
    refine WpC.reg (U := Un) (st1 := ⟨[(4, .p .bool false)], []⟩) [4] [] hN (.cons (sok_move (U := Un) (rs := []) rfl (.inr rfl) (.bool _ _)) .nil) (by kernel_rfl) (by kernel_rfl) (by kernel_rfl) (Conv.refl (U := Un) _) ?_
    refine thenQ_normal ?_
    refine WpC.ret ?_
    refine thenQ_ret ?_
    have hq := Option.some.inj h
    subst hq
    exact ends_ret (retV_1 rfl (.head _)) ain_nil
  · replace h := ite_f hc1 h
    refine WpC.conv (Conv.keep (U := Un) (b := ⟨[(0, .p (.list .str) a0), (1, .p (.list .str) a1)], []⟩) [0, 1] [] (by kernel_rfl)) (WpC.skip ?_)
    refine thenQ_normal ?_
    refine WpC.seqJ (U := Un) (fun st' => millwrightnum_SameTexts.j2 k = some out ∧ st' = ⟨[], []⟩) ?_ ?_
    · refine WpC.seq ?_
      refine WpC.reg (U := Un) (st1 := ⟨[(0, .p (.list .str) a0), (1, .p (.list .str) a1), (12, .p I6 ((a0.length : Int) : Int)), (13, .p I6 (0 : Int))], []⟩) [0, 1, 12, 13] [] hN (.cons (mv (U := Un) (v := .p (.list .str) a0) rfl rfl) (.cons (sok_lenL (U := Un) (rs := [(11, .p (.list .str) a0)]) rfl rfl Tryd.underlying22 o0) (.cons (sok_move (U := Un) (rs := []) rfl (.inl rfl) (.int _ _ _)) .nil))) (by kernel_rfl) (by kernel_rfl) (by kernel_rfl) (Conv.refl (U := Un) _) ?_
      refine thenQ_normal ?_
      refine WpC.block ?_
      obtain ⟨o5, hlo5, h⟩ := bind_some h
      have hout6 := h
      clear h
      refine WpC.loop (U := Un) (fun n st' => ∃ v3 : Int, millwrightnum_SameTexts.l4 k a0 a1 n v3 = some o5 ∧ st' = ⟨[(0, .p (.list .str) a0), (1, .p (.list .str) a1), (12, .p I6 ((a0.length : Int) : Int)), (13, .p I6 v3)], []⟩) k ⟨0, hlo5, rfl⟩ ?_
      clear hlo5
      rintro (_ | n) _ ⟨v3, h, rfl⟩
      · cases h
      · rw [millwrightnum_SameTexts.l4] at h
        refine WpC.seq ?_
        refine WpC.reg (U := Un) (st1 := ⟨[(0, .p (.list .str) a0), (1, .p (.list .str) a1), (12, .p I6 ((a0.length : Int) : Int)), (13, .p I6 v3), (14, .p .bool ((decide (v3 < (a0.length : Int))) : Bool))], []⟩) [0, 1, 12, 13, 14] [] hN (.cons (sok_cmp (U := Un) (rs := [(13, .p I6 v3), (12, .p I6 ((a0.length : Int) : Int))]) rfl rfl o0 o1 rfl) .nil) (by kernel_rfl) (by kernel_rfl) (by kernel_rfl) (Conv.refl (U := Un) _) ?_
        refine thenQ_normal ?_
        refine WpC.seq ?_
        refine WpC.cond (U := Un) (b := (decide (v3 < (a0.length : Int)))) (.tmp (.tail _ (.tail _ (.tail _ (.tail _ (.head _)))))) (fun hc7 => ?_) (fun hc7 => ?_)
        · replace h := ite_t hc7 h
          refine WpC.conv (Conv.keep (U := Un) (b := ⟨[(0, .p (.list .str) a0), (1, .p (.list .str) a1), (12, .p I6 ((a0.length : Int) : Int)), (13, .p I6 v3)], []⟩) [0, 1, 12, 13] [] (by kernel_rfl)) (WpC.skip ?_)
          refine thenQ_normal ?_
          refine WpC.seq ?_
          refine WpC.block ?_
          refine WpC.seq ?_
          refine WpC.reg (U := Un) (st1 := ⟨[(0, .p (.list .str) a0), (1, .p (.list .str) a1), (5, .p I6 v3), (12, .p I6 ((a0.length : Int) : Int)), (13, .p I6 v3)], []⟩) [0, 1, 5, 12, 13] [] hN (.cons (mv (U := Un) (v := .p I6 v3) rfl rfl) (.cons (mva (U := Un) (v := .p I6 v3) rfl rfl) .nil)) (by kernel_rfl) (by kernel_rfl) (by kernel_rfl) (Conv.refl (U := Un) _) ?_
          refine thenQ_normal ?_
          refine WpC.seq ?_
          obtain ⟨v8, hv8, h⟩ := bind_some h
          obtain ⟨v9, hv9, h⟩ := bind_some h
          refine WpC.regA (U := Un) (st1 := ⟨[(0, .p (.list .str) a0), (1, .p (.list .str) a1), (12, .p I6 ((a0.length : Int) : Int)), (13, .p I6 v3), (24, .p .bool ((!(v8 == v9)) : Bool))], []⟩) [0, 1, 12, 13, 24] [] [[], [], [0, 1], [0, 1, 2], [], [], [4, 5], [4, 5, 6], [0, 1, 2, 3, 4, 5, 6, 7]] mixed hN (.cons (mv (U := Un) (v := .p (.list .str) a0) rfl rfl) (.cons (mv (U := Un) (v := .p I6 v3) rfl rfl) (.cons (sok_indexL (U := Un) (rs := [(16, .p (.list .str) a0), (17, .p I6 v3)]) rfl rfl sl_22 o0 o1 hv8) (.cons (sok_loadP (U := Un) (rs := [(18, .pp .str v8)]) rfl rfl ty_9 o0) (.cons (mv (U := Un) (v := .p (.list .str) a1) rfl rfl) (.cons (mv (U := Un) (v := .p I6 v3) rfl rfl) (.cons (sok_indexL (U := Un) (rs := [(20, .p (.list .str) a1), (21, .p I6 v3)]) rfl rfl sl_22 o0 o1 hv9) (.cons (sok_loadP (U := Un) (rs := [(22, .pp .str v9)]) rfl rfl ty_9 o0) (.cons (sok_cmpS (U := Un) (rs := [(19, .p .str v8), (23, .p .str v9)]) rfl rfl o0 o1 rfl) .nil))))))))) (by kernel_rfl) (by kernel_rfl) (by kernel_rfl) (by kernel_rfl) (by kernel_rfl) (Conv.refl (U := Un) _) ?_
          refine thenQ_normal ?_
          refine WpC.cond (U := Un) (b := (!(v8 == v9))) (.tmp (.tail _ (.tail _ (.tail _ (.tail _ (.head _)))))) (fun hc10 => ?_) (fun hc10 => ?_)
          · replace h := ite_t hc10 h
            refine WpC.seq ?_
            refine WpC.reg (U := Un) (st1 := ⟨[(4, .p .bool false)], []⟩) [4] [] hN (.cons (sok_move (U := Un) (rs := []) rfl (.inr rfl) (.bool _ _)) .nil) (by kernel_rfl) (by kernel_rfl) (by kernel_rfl) (Conv.refl (U := Un) _) ?_
            refine thenQ_normal ?_
            refine WpC.ret ?_
            refine blockQ_ret ?_
            refine thenQ_ret ?_
            have hq := Option.some.inj h
            subst hq
            refine thenQ_ret ?_
            have h := hout6
            refine blockQ_ret ?_
            refine thenQ_ret ?_
            have hq := Option.some.inj h
            subst hq
            exact ends_ret (retV_1 rfl (.head _)) ain_nil
          · replace h := ite_f hc10 h
            refine WpC.conv (Conv.keep (U := Un) (b := ⟨[(0, .p (.list .str) a0), (1, .p (.list .str) a1), (12, .p I6 ((a0.length : Int) : Int)), (13, .p I6 v3)], []⟩) [0, 1, 12, 13] [] (by kernel_rfl)) (WpC.skip ?_)
            refine blockQ_normal ?_
            refine thenQ_normal ?_
            refine WpC.reg (U := Un) (st1 := ⟨[(0, .p (.list .str) a0), (1, .p (.list .str) a1), (12, .p I6 ((a0.length : Int) : Int)), (13, .p I6 ((IntKind.i64.wrap (v3 + 1)) : Int))], []⟩) [0, 1, 12, 13] [] hN (.cons (sok_arith (U := Un) (rs := [(13, .p I6 v3)]) rfl rfl o0 (.int _ _ _) rfl) (.cons (mv (U := Un) (v := .p I6 ((IntKind.i64.wrap (v3 + 1)) : Int)) rfl rfl) .nil)) (by kernel_rfl) (by kernel_rfl) (by kernel_rfl) (Conv.refl (U := Un) _) ?_
            refine thenQ_normal ?_
            exact ⟨n, Nat.lt_succ_self n, (IntKind.i64.wrap (v3 + 1)), h, rfl⟩
        · replace h := ite_f hc7 h
          refine WpC.conv (Conv.keep (U := Un) (b := ⟨[], []⟩) [] [] (by kernel_rfl)) (WpC.exit ?_)
          refine thenQ_exit ?_
          have hq := Option.some.inj h
          subst hq
          refine thenQ_exit ?_
          have h := hout6
          refine blockQ_hit ?_
          refine thenQ_normal ?_
          exact ⟨h, rfl⟩
    · rintro _ ⟨h, rfl⟩
      unfold millwrightnum_SameTexts.j2 at h
      refine WpC.seq ?_
      refine WpC.reg (U := Un) (st1 := ⟨[(4, .p .bool true)], []⟩) [4] [] hN (.cons (sok_move (U := Un) (rs := []) rfl (.inr rfl) (.bool _ _)) .nil) (by kernel_rfl) (by kernel_rfl) (by kernel_rfl) (Conv.refl (U := Un) _) ?_
      refine thenQ_normal ?_
      refine WpC.ret ?_
      have hq := Option.some.inj h
      subst hq
      exact ends_ret (retV_1 rfl (.head _)) ain_nil

theorem millwrightnum_KeptTexts_m0.ok (O : Out) (hO : GOkQ O) (k : Nat) (a0 : List (List UInt8)) (a1 : Nat) (a2 : List (List UInt8)) (out : Bool) (h : millwrightnum_KeptTexts_m0.f k a0 a1 a2 = some out) : COk Un O Tryd.prog 13 { ar := [.vec 100000 1 0 a1, .p (.list .str) a2], r := .p .bool out, bs := [(100000, .row 9 .str a0 true)], bs' := [(100000, .row 9 .str a0 true)] } := by
  refine cok_of_wp Tryd.func13 rfl (k := 49) rfl (Nat.le_of_ble_eq_true rfl) (namesOk_of (by kernel_rfl)) ?_
  intro B hN
  refine WpC.conv (Conv.keep (U := Un) (b := ⟨[(0, .vec 100000 1 0 a1), (1, .p (.list .str) a2)], [(100000, .row 9 .str a0 true)]⟩) [0, 1] [100000] (by kernel_rfl)) ?_
  unfold millwrightnum_KeptTexts_m0.f at h
  refine WpC.seq ?_
  refine WpC.reg (U := Un) (st1 := ⟨[(0, .vec 100000 1 0 a1), (1, .p (.list .str) a2)], [(100000, .row 9 .str a0 true)]⟩) [0, 1] [100000] hN (.cons (sok_move (U := Un) (rs := []) rfl (.inr rfl) (.bool _ _)) .nil) (by kernel_rfl) (by kernel_rfl) (by kernel_rfl) (Conv.refl (U := Un) _) ?_
  refine thenQ_normal ?_
  refine WpC.seq ?_
  obtain ⟨g1, h⟩ := if_some h
  refine WpC.reg (U := Un) (st1 := ⟨[(1, .p (.list .str) a2), (5, .vec 100000 1 0 (((a0.length - 0 : Nat) : Int).toNat))], [(100000, .row 9 .str a0 true)]⟩) [1, 5] [100000] hN (.cons (mv (U := Un) (v := .vec 100000 1 0 a1) rfl rfl) (.cons (mv (U := Un) (v := .vec 100000 1 0 a1) rfl rfl) (.cons (sok_capV (U := Un) (E' := 9) (t := .str) (rs := [(8, .vec 100000 1 0 a1)]) (xs := a0) rfl rfl Tryd.underlying22 o0) (.cons (sok_sliceV (U := Un) (t := .str) (rs := [(7, .vec 100000 1 0 a1), (9, .p I6 (((a0.length - 0 : Nat) : Int) : Int))]) (xs := a0) (fx := true) rfl rfl sl_22 o0 .no (.at o1) g1.1 g1.2.1 g1.2.2) (.cons (mva (U := Un) (v := .vec 100000 1 0 (((a0.length - 0 : Nat) : Int).toNat)) rfl rfl) .nil))))) (by kernel_rfl) (by kernel_rfl) (by kernel_rfl) (Conv.refl (U := Un) _) ?_
  refine thenQ_normal ?_
  refine WpC.seqJ (U := Un) (fun st' => millwrightnum_KeptTexts_m0.j10 k a0 a2 = some out ∧ st' = ⟨[(1, .p (.list .str) a2), (5, .vec 100000 1 0 (((a0.length - 0 : Nat) : Int).toNat))], [(100000, .row 9 .str a0 true)]⟩) ?_ ?_
  · refine WpC.seqJ (U := Un) (fun st' => ∃ v11 : Bool, millwrightnum_KeptTexts_m0.j13 k a0 a2 v11 = some out ∧ st' = ⟨[(1, .p (.list .str) a2), (5, .vec 100000 1 0 (((a0.length - 0 : Nat) : Int).toNat)), (25, .p .bool v11)], [(100000, .row 9 .str a0 true)]⟩) ?_ ?_
    · rcases bool_cases (decide ((((a0.length - 0 : Nat) : Int).toNat : Int) < (IntKind.i64.wrap ((a2.length : Int) + 3)))) with hc14 | hc14
      · replace h := ite_t hc14 h
        refine WpC.reg (U := Un) (st1 := ⟨[(1, .p (.list .str) a2), (5, .vec 100000 1 0 (((a0.length - 0 : Nat) : Int).toNat)), (25, .p .bool true)], [(100000, .row 9 .str a0 true)]⟩) [1, 5, 25] [100000] hN (.cons (mv (U := Un) (v := .vec 100000 1 0 (((a0.length - 0 : Nat) : Int).toNat)) rfl rfl) (.cons (sok_lenV (U := Un) (rs := [(11, .vec 100000 1 0 (((a0.length - 0 : Nat) : Int).toNat))]) rfl rfl Tryd.underlying22 o0) (.cons (mv (U := Un) (v := .p (.list .str) a2) rfl rfl) (.cons (sok_lenL (U := Un) (rs := [(13, .p (.list .str) a2)]) rfl rfl Tryd.underlying22 o0) (.cons (sok_arith (U := Un) (rs := [(14, .p I6 ((a2.length : Int) : Int))]) rfl rfl o0 (.int _ _ _) rfl) (.cons (sok_cmp (U := Un) (rs := [(12, .p I6 ((((a0.length - 0 : Nat) : Int).toNat : Int) : Int)), (15, .p I6 ((IntKind.i64.wrap ((a2.length : Int) + 3)) : Int))]) rfl rfl o0 o1 rfl) (.cons (mv (U := Un) (v := .p .bool ((decide ((((a0.length - 0 : Nat) : Int).toNat : Int) < (IntKind.i64.wrap ((a2.length : Int) + 3)))) : Bool)) rfl rfl) (.cons (sok_skip rfl rfl hc14) (.cons (sok_skip rfl rfl hc14) (.cons (sok_skip rfl rfl hc14) (.cons (sok_skip rfl rfl hc14) (.cons (sok_skip rfl rfl hc14) (.cons (sok_skip rfl rfl hc14) (.cons (sok_skip rfl rfl hc14) (.cons (sok_pickT (U := Un) (rs := [(17, .p .bool ((decide ((((a0.length - 0 : Nat) : Int).toNat : Int) < (IntKind.i64.wrap ((a2.length : Int) + 3)))) : Bool))]) rfl rfl o0 hc14 (.bool _ _)) .nil))))))))))))))) (by kernel_rfl) (by kernel_rfl) (by kernel_rfl) (Conv.refl (U := Un) _) ?_
        refine thenQ_normal ?_
        exact ⟨true, h, rfl⟩
      · replace h := ite_f hc14 h
        obtain ⟨g15, h⟩ := if_some h
        obtain ⟨g16, h⟩ := if_some h
        obtain ⟨v17, hv17, h⟩ := bind_some h
        refine WpC.reg (U := Un) (st1 := ⟨[(1, .p (.list .str) a2), (5, .vec 100000 1 0 (((a0.length - 0 : Nat) : Int).toNat)), (25, .p .bool ((!v17) : Bool))], [(100000, .row 9 .str a0 true)]⟩) [1, 5, 25] [100000] hN (.cons (mv (U := Un) (v := .vec 100000 1 0 (((a0.length - 0 : Nat) : Int).toNat)) rfl rfl) (.cons (sok_lenV (U := Un) (rs := [(11, .vec 100000 1 0 (((a0.length - 0 : Nat) : Int).toNat))]) rfl rfl Tryd.underlying22 o0) (.cons (mv (U := Un) (v := .p (.list .str) a2) rfl rfl) (.cons (sok_lenL (U := Un) (rs := [(13, .p (.list .str) a2)]) rfl rfl Tryd.underlying22 o0) (.cons (sok_arith (U := Un) (rs := [(14, .p I6 ((a2.length : Int) : Int))]) rfl rfl o0 (.int _ _ _) rfl) (.cons (sok_cmp (U := Un) (rs := [(12, .p I6 ((((a0.length - 0 : Nat) : Int).toNat : Int) : Int)), (15, .p I6 ((IntKind.i64.wrap ((a2.length : Int) + 3)) : Int))]) rfl rfl o0 o1 rfl) (.cons (mv (U := Un) (v := .p .bool ((decide ((((a0.length - 0 : Nat) : Int).toNat : Int) < (IntKind.i64.wrap ((a2.length : Int) + 3)))) : Bool)) rfl rfl) (.cons (sok_run rfl rfl hc14 (mv (U := Un) (v := .vec 100000 1 0 (((a0.length - 0 : Nat) : Int).toNat)) rfl rfl)) (.cons (sok_run rfl rfl hc14 (mv (U := Un) (v := .p (.list .str) a2) rfl rfl)) (.cons (sok_run rfl rfl hc14 (sok_lenL (U := Un) (rs := [(19, .p (.list .str) a2)]) rfl rfl Tryd.underlying22 o0)) (.cons (sok_run rfl rfl hc14 (sok_sliceV (U := Un) (t := .str) (rs := [(18, .vec 100000 1 0 (((a0.length - 0 : Nat) : Int).toNat)), (20, .p I6 ((a2.length : Int) : Int))]) (xs := a0) (fx := true) rfl rfl sl_22 o0 .no (.at o1) g15.1 g15.2.1 g15.2.2)) (.cons (sok_run rfl rfl hc14 (mv (U := Un) (v := .p (.list .str) a2) rfl rfl)) (.cons (sok_run rfl rfl hc14 (sok_callV (U := Un) (rs := [(21, .vec 100000 1 0 a2.length), (22, .p (.list .str) a2)]) (vw := [(100000, .row 9 .str a0 true)]) rfl rfl (.func _) hb_12 (millwrightnum_SameTexts.ok O hO k ((a0.drop 0).take a2.length) a2 v17 hv17) (.cons o0 (.cons o1 .nil)) (.cons (.row 0 a2.length (.head _) g16) (.cons (.same _) .nil)) (by simp) (.inr rfl))) (.cons (sok_run rfl rfl hc14 (sok_not (U := Un) (rs := [(23, .p .bool v17)]) rfl rfl o0)) (.cons (sok_pickF (U := Un) (rs := [(17, .p .bool ((decide ((((a0.length - 0 : Nat) : Int).toNat : Int) < (IntKind.i64.wrap ((a2.length : Int) + 3)))) : Bool)), (24, .p .bool ((!v17) : Bool))]) rfl rfl o0 hc14 o1) .nil))))))))))))))) (by kernel_rfl) (by kernel_rfl) (by kernel_rfl) (Conv.refl (U := Un) _) ?_
        refine thenQ_normal ?_
        exact ⟨(!v17), h, rfl⟩
    · rintro _ ⟨v11, h, rfl⟩
      unfold millwrightnum_KeptTexts_m0.j13 at h
      refine WpC.cond (U := Un) (b := v11) (.tmp (.tail _ (.tail _ (.head _)))) (fun hc12 => ?_) (fun hc12 => ?_)
      · replace h := ite_t hc12 h
        refine WpC.seq ?_
        refine WpC.reg (U := Un) (st1 := ⟨[(4, .p .bool false)], [(100000, .row 9 .str a0 true)]⟩) [4] [100000] hN (.cons (sok_move (U := Un) (rs := []) rfl (.inr rfl) (.bool _ _)) .nil) (by kernel_rfl) (by kernel_rfl) (by kernel_rfl) (Conv.refl (U := Un) _) ?_
        refine thenQ_normal ?_
        refine WpC.ret ?_
        refine thenQ_ret ?_
        have hq := Option.some.inj h
        subst hq
        exact ends_ret (retV_1 rfl (.head _)) (ain_cons (.head _) ain_nil)
      · replace h := ite_f hc12 h
        refine WpC.conv (Conv.keep (U := Un) (b := ⟨[(1, .p (.list .str) a2), (5, .vec 100000 1 0 (((a0.length - 0 : Nat) : Int).toNat))], [(100000, .row 9 .str a0 true)]⟩) [1, 5] [100000] (by kernel_rfl)) (WpC.skip ?_)
        refine thenQ_normal ?_
        exact ⟨h, rfl⟩
  · rintro _ ⟨h, rfl⟩
    unfold millwrightnum_KeptTexts_m0.j10 at h
    refine WpC.seq ?_
    refine WpC.reg (U := Un) (st1 := ⟨[(5, .vec 100000 1 0 (((a0.length - 0 : Nat) : Int).toNat)), (6, .p I6 ((a2.length : Int) : Int))], [(100000, .row 9 .str a0 true)]⟩) [5, 6] [100000] hN (.cons (mv (U := Un) (v := .p (.list .str) a2) rfl rfl) (.cons (sok_lenL (U := Un) (rs := [(26, .p (.list .str) a2)]) rfl rfl Tryd.underlying22 o0) (.cons (mva (U := Un) (v := .p I6 ((a2.length : Int) : Int)) rfl rfl) .nil))) (by kernel_rfl) (by kernel_rfl) (by kernel_rfl) (Conv.refl (U := Un) _) ?_
    refine thenQ_normal ?_
    refine WpC.seq ?_
    obtain ⟨g2, h⟩ := if_some h
    obtain ⟨v3, hv3, h⟩ := bind_some h
    rcases bool_cases (v3 == ([1] : List UInt8)) with hc4 | hc4
    · replace h := ite_t hc4 h
      obtain ⟨g5, h⟩ := if_some h
      obtain ⟨v6, hv6, h⟩ := bind_some h
      rcases bool_cases (v6 == ([2] : List UInt8)) with hc7 | hc7
      · replace h := ite_t hc7 h
        obtain ⟨g8, h⟩ := if_some h
        obtain ⟨v9, hv9, h⟩ := bind_some h
        refine WpC.reg (U := Un) (st1 := ⟨[(4, .p .bool ((v9 == ([3] : List UInt8)) : Bool))], [(100000, .row 9 .str a0 true)]⟩) [4] [100000] hN (.cons (mv (U := Un) (v := .vec 100000 1 0 (((a0.length - 0 : Nat) : Int).toNat)) rfl rfl) (.cons (mv (U := Un) (v := .p I6 ((a2.length : Int) : Int)) rfl rfl) (.cons (sok_indexV (U := Un) (rs := [(28, .vec 100000 1 0 (((a0.length - 0 : Nat) : Int).toNat)), (29, .p I6 ((a2.length : Int) : Int))]) rfl rfl sl_22 o0 o1 g2) (.cons (sok_loadE (U := Un) (E := 9) (t := .str) (rs := [(30, .eloc 100000 1 (0 + (a2.length : Int).toNat) 0)]) (xs := a0) (fx := true) rfl rfl ty_9 o0 hv3 (.here _ _)) (.cons (sok_cmpS (U := Un) (rs := [(31, .p .str v3)]) rfl rfl o0 (.str _ _) rfl) (.cons (mv (U := Un) (v := .p .bool ((v3 == ([1] : List UInt8)) : Bool)) rfl rfl) (.cons (sok_run rfl rfl hc4 (mv (U := Un) (v := .vec 100000 1 0 (((a0.length - 0 : Nat) : Int).toNat)) rfl rfl)) (.cons (sok_run rfl rfl hc4 (mv (U := Un) (v := .p I6 ((a2.length : Int) : Int)) rfl rfl)) (.cons (sok_run rfl rfl hc4 (sok_arith (U := Un) (rs := [(35, .p I6 ((a2.length : Int) : Int))]) rfl rfl o0 (.int _ _ _) rfl)) (.cons (sok_run rfl rfl hc4 (sok_indexV (U := Un) (rs := [(34, .vec 100000 1 0 (((a0.length - 0 : Nat) : Int).toNat)), (36, .p I6 ((IntKind.i64.wrap ((a2.length : Int) + 1)) : Int))]) rfl rfl sl_22 o0 o1 g5)) (.cons (sok_run rfl rfl hc4 (sok_loadE (U := Un) (E := 9) (t := .str) (rs := [(37, .eloc 100000 1 (0 + (IntKind.i64.wrap ((a2.length : Int) + 1)).toNat) 0)]) (xs := a0) (fx := true) rfl rfl ty_9 o0 hv6 (.here _ _))) (.cons (sok_run rfl rfl hc4 (sok_cmpS (U := Un) (rs := [(38, .p .str v6)]) rfl rfl o0 (.str _ _) rfl)) (.cons (sok_pickT (U := Un) (rs := [(33, .p .bool ((v3 == ([1] : List UInt8)) : Bool)), (39, .p .bool ((v6 == ([2] : List UInt8)) : Bool))]) rfl rfl o0 hc4 o1) (.cons (mv (U := Un) (v := .p .bool ((v6 == ([2] : List UInt8)) : Bool)) rfl rfl) (.cons (sok_run rfl rfl hc7 (mv (U := Un) (v := .vec 100000 1 0 (((a0.length - 0 : Nat) : Int).toNat)) rfl rfl)) (.cons (sok_run rfl rfl hc7 (mv (U := Un) (v := .p I6 ((a2.length : Int) : Int)) rfl rfl)) (.cons (sok_run rfl rfl hc7 (sok_arith (U := Un) (rs := [(43, .p I6 ((a2.length : Int) : Int))]) rfl rfl o0 (.int _ _ _) rfl)) (.cons (sok_run rfl rfl hc7 (sok_indexV (U := Un) (rs := [(42, .vec 100000 1 0 (((a0.length - 0 : Nat) : Int).toNat)), (44, .p I6 ((IntKind.i64.wrap ((a2.length : Int) + 2)) : Int))]) rfl rfl sl_22 o0 o1 g8)) (.cons (sok_run rfl rfl hc7 (sok_loadE (U := Un) (E := 9) (t := .str) (rs := [(45, .eloc 100000 1 (0 + (IntKind.i64.wrap ((a2.length : Int) + 2)).toNat) 0)]) (xs := a0) (fx := true) rfl rfl ty_9 o0 hv9 (.here _ _))) (.cons (sok_run rfl rfl hc7 (sok_cmpS (U := Un) (rs := [(46, .p .str v9)]) rfl rfl o0 (.str _ _) rfl)) (.cons (sok_pickT (U := Un) (rs := [(41, .p .bool ((v6 == ([2] : List UInt8)) : Bool)), (47, .p .bool ((v9 == ([3] : List UInt8)) : Bool))]) rfl rfl o0 hc7 o1) (.cons (mva (U := Un) (v := .p .bool ((v9 == ([3] : List UInt8)) : Bool)) rfl rfl) .nil)))))))))))))))))))))) (by kernel_rfl) (by kernel_rfl) (by kernel_rfl) (Conv.refl (U := Un) _) ?_
        refine thenQ_normal ?_
        refine WpC.ret ?_
        have hq := Option.some.inj h
        subst hq
        exact ends_ret (retV_1 rfl (.head _)) (ain_cons (.head _) ain_nil)
      · replace h := ite_f hc7 h
        refine WpC.reg (U := Un) (st1 := ⟨[(4, .p .bool false)], [(100000, .row 9 .str a0 true)]⟩) [4] [100000] hN (.cons (mv (U := Un) (v := .vec 100000 1 0 (((a0.length - 0 : Nat) : Int).toNat)) rfl rfl) (.cons (mv (U := Un) (v := .p I6 ((a2.length : Int) : Int)) rfl rfl) (.cons (sok_indexV (U := Un) (rs := [(28, .vec 100000 1 0 (((a0.length - 0 : Nat) : Int).toNat)), (29, .p I6 ((a2.length : Int) : Int))]) rfl rfl sl_22 o0 o1 g2) (.cons (sok_loadE (U := Un) (E := 9) (t := .str) (rs := [(30, .eloc 100000 1 (0 + (a2.length : Int).toNat) 0)]) (xs := a0) (fx := true) rfl rfl ty_9 o0 hv3 (.here _ _)) (.cons (sok_cmpS (U := Un) (rs := [(31, .p .str v3)]) rfl rfl o0 (.str _ _) rfl) (.cons (mv (U := Un) (v := .p .bool ((v3 == ([1] : List UInt8)) : Bool)) rfl rfl) (.cons (sok_run rfl rfl hc4 (mv (U := Un) (v := .vec 100000 1 0 (((a0.length - 0 : Nat) : Int).toNat)) rfl rfl)) (.cons (sok_run rfl rfl hc4 (mv (U := Un) (v := .p I6 ((a2.length : Int) : Int)) rfl rfl)) (.cons (sok_run rfl rfl hc4 (sok_arith (U := Un) (rs := [(35, .p I6 ((a2.length : Int) : Int))]) rfl rfl o0 (.int _ _ _) rfl)) (.cons (sok_run rfl rfl hc4 (sok_indexV (U := Un) (rs := [(34, .vec 100000 1 0 (((a0.length - 0 : Nat) : Int).toNat)), (36, .p I6 ((IntKind.i64.wrap ((a2.length : Int) + 1)) : Int))]) rfl rfl sl_22 o0 o1 g5)) (.cons (sok_run rfl rfl hc4 (sok_loadE (U := Un) (E := 9) (t := .str) (rs := [(37, .eloc 100000 1 (0 + (IntKind.i64.wrap ((a2.length : Int) + 1)).toNat) 0)]) (xs := a0) (fx := true) rfl rfl ty_9 o0 hv6 (.here _ _))) (.cons (sok_run rfl rfl hc4 (sok_cmpS (U := Un) (rs := [(38, .p .str v6)]) rfl rfl o0 (.str _ _) rfl)) (.cons (sok_pickT (U := Un) (rs := [(33, .p .bool ((v3 == ([1] : List UInt8)) : Bool)), (39, .p .bool ((v6 == ([2] : List UInt8)) : Bool))]) rfl rfl o0 hc4 o1) (.cons (mv (U := Un) (v := .p .bool ((v6 == ([2] : List UInt8)) : Bool)) rfl rfl) (.cons (sok_skip rfl rfl hc7) (.cons (sok_skip rfl rfl hc7) (.cons (sok_skip rfl rfl hc7) (.cons (sok_skip rfl rfl hc7) (.cons (sok_skip rfl rfl hc7) (.cons (sok_skip rfl rfl hc7) (.cons (sok_pickF (U := Un) (rs := [(41, .p .bool ((v6 == ([2] : List UInt8)) : Bool))]) rfl rfl o0 hc7 (.bool _ _)) (.cons (mva (U := Un) (v := .p .bool false) rfl rfl) .nil)))))))))))))))))))))) (by kernel_rfl) (by kernel_rfl) (by kernel_rfl) (Conv.refl (U := Un) _) ?_
        refine thenQ_normal ?_
        refine WpC.ret ?_
        have hq := Option.some.inj h
        subst hq
        exact ends_ret (retV_1 rfl (.head _)) (ain_cons (.head _) ain_nil)
    · replace h := ite_f hc4 h
      refine WpC.reg (U := Un) (st1 := ⟨[(4, .p .bool false)], [(100000, .row 9 .str a0 true)]⟩) [4] [100000] hN (.cons (mv (U := Un) (v := .vec 100000 1 0 (((a0.length - 0 : Nat) : Int).toNat)) rfl rfl) (.cons (mv (U := Un) (v := .p I6 ((a2.length : Int) : Int)) rfl rfl) (.cons (sok_indexV (U := Un) (rs := [(28, .vec 100000 1 0 (((a0.length - 0 : Nat) : Int).toNat)), (29, .p I6 ((a2.length : Int) : Int))]) rfl rfl sl_22 o0 o1 g2) (.cons (sok_loadE (U := Un) (E := 9) (t := .str) (rs := [(30, .eloc 100000 1 (0 + (a2.length : Int).toNat) 0)]) (xs := a0) (fx := true) rfl rfl ty_9 o0 hv3 (.here _ _)) (.cons (sok_cmpS (U := Un) (rs := [(31, .p .str v3)]) rfl rfl o0 (.str _ _) rfl) (.cons (mv (U := Un) (v := .p .bool ((v3 == ([1] : List UInt8)) : Bool)) rfl rfl) (.cons (sok_skip rfl rfl hc4) (.cons (sok_skip rfl rfl hc4) (.cons (sok_skip rfl rfl hc4) (.cons (sok_skip rfl rfl hc4) (.cons (sok_skip rfl rfl hc4) (.cons (sok_skip rfl rfl hc4) (.cons (sok_pickF (U := Un) (rs := [(33, .p .bool ((v3 == ([1] : List UInt8)) : Bool))]) rfl rfl o0 hc4 (.bool _ _)) (.cons (mv (U := Un) (v := .p .bool false) rfl rfl) (.cons (sok_skip rfl rfl rfl) (.cons (sok_skip rfl rfl rfl) (.cons (sok_skip rfl rfl rfl) (.cons (sok_skip rfl rfl rfl) (.cons (sok_skip rfl rfl rfl) (.cons (sok_skip rfl rfl rfl) (.cons (sok_pickF (U := Un) (rs := [(41, .p .bool false)]) rfl rfl o0 rfl (.bool _ _)) (.cons (mva (U := Un) (v := .p .bool false) rfl rfl) .nil)))))))))))))))))))))) (by kernel_rfl) (by kernel_rfl) (by kernel_rfl) (Conv.refl (U := Un) _) ?_
      refine thenQ_normal ?_
      refine WpC.ret ?_
      have hq := Option.some.inj h
      subst hq
      exact ends_ret (retV_1 rfl (.head _)) (ain_cons (.head _) ain_nil)

end Go.Proofs.YtnbnfjgedinlbabDoor
