/- A part of the proof of a given law: QSC1. Own work, printed in part by a program of mine. -/
import Derived.Test.YtfeaegjlhpgdmaaDoorQSC0
namespace Go.Proofs.YtfeaegjlhpgdmaaDoor
open Go Go.AM
set_option linter.unusedVariables false
set_option maxRecDepth 100000
theorem millwrightref11_Blank.ok (O : Out) (hO : GOkE O) (k : Nat) (a0 : Int) (out : Bool) (h : millwrightref11_Blank.f k a0 = some out) : COk Un O Tryd.prog 23 { ar := [.p (.int .u8) a0], r := .p .bool out } := by
  refine cok_of_wp Tryd.func23 rfl (k := 13) rfl (Nat.le_of_ble_eq_true rfl) (namesOk_pure rfl rfl rfl rfl) ?_
  intro B hN
  refine WpC.conv (Conv.keep (b := ⟨[(0, .p (.int .u8) a0)], []⟩) [0] [] (by kernel_rfl)) ?_
  unfold millwrightref11_Blank.f at h
  refine WpC.seq ?_
  refine WpC.reg (st1 := ⟨[(0, .p (.int .u8) a0)], []⟩) [0] [] hN (.cons (sok_move (rs := []) rfl (.inr rfl) (.bool _ _)) .nil) (by kernel_rfl) (by kernel_rfl) (by kernel_rfl) (Conv.refl _) ?_
  refine thenQ_normal ?_
  refine WpC.seq ?_
  rcases bool_cases (a0 == 32) with hc1 | hc1
  · replace h := ite_t hc1 h
    refine WpC.reg (st1 := ⟨[(2, .p .bool true)], []⟩) [2] [] hN (.cons (sok_move (rs := [(0, .p (.int .u8) a0)]) rfl (.inl rfl) (.tmp (.head _))) (.cons (sok_cmp (rs := [(3, .p (.int .u8) a0)]) rfl rfl (.tmp (.head _)) (.int _ _ _) rfl) (.cons (sok_move (rs := [(4, .p .bool ((a0 == 32) : Bool))]) rfl (.inl rfl) (.tmp (.head _))) (.cons (sok_skip rfl rfl hc1) (.cons (sok_skip rfl rfl hc1) (.cons (sok_pickT (rs := [(5, .p .bool ((a0 == 32) : Bool))]) rfl rfl (.tmp (.head _)) hc1 (.bool _ _)) (.cons (sok_move (rs := [(8, .p .bool true)]) rfl (.inl rfl) (.tmp (.head _))) (.cons (sok_skip rfl rfl rfl) (.cons (sok_skip rfl rfl rfl) (.cons (sok_pickT (rs := [(9, .p .bool true)]) rfl rfl (.tmp (.head _)) rfl (.bool _ _)) (.cons (sok_move (rs := [(12, .p .bool true)]) rfl (.inr rfl) (.tmp (.head _))) .nil))))))))))) (by kernel_rfl) (by kernel_rfl) (by kernel_rfl) (Conv.refl _) ?_
    refine thenQ_normal ?_
    refine WpC.ret ?_
    have hq := Option.some.inj h
    subst hq
    exact ends_ret (retV_1 rfl (.head _)) (by simp)
  · replace h := ite_f hc1 h
    rcases bool_cases (a0 == 9) with hc2 | hc2
    · replace h := ite_t hc2 h
      refine WpC.reg (st1 := ⟨[(2, .p .bool true)], []⟩) [2] [] hN (.cons (sok_move (rs := [(0, .p (.int .u8) a0)]) rfl (.inl rfl) (.tmp (.head _))) (.cons (sok_cmp (rs := [(3, .p (.int .u8) a0)]) rfl rfl (.tmp (.head _)) (.int _ _ _) rfl) (.cons (sok_move (rs := [(4, .p .bool ((a0 == 32) : Bool))]) rfl (.inl rfl) (.tmp (.head _))) (.cons (sok_run rfl rfl hc1 (sok_move (rs := [(0, .p (.int .u8) a0)]) rfl (.inl rfl) (.tmp (.head _)))) (.cons (sok_run rfl rfl hc1 (sok_cmp (rs := [(6, .p (.int .u8) a0)]) rfl rfl (.tmp (.head _)) (.int _ _ _) rfl)) (.cons (sok_pickF (rs := [(5, .p .bool ((a0 == 32) : Bool)), (7, .p .bool ((a0 == 9) : Bool))]) rfl rfl (.tmp (.head _)) hc1 (.tmp (.tail _ (.head _)))) (.cons (sok_move (rs := [(8, .p .bool ((a0 == 9) : Bool))]) rfl (.inl rfl) (.tmp (.head _))) (.cons (sok_skip rfl rfl hc2) (.cons (sok_skip rfl rfl hc2) (.cons (sok_pickT (rs := [(9, .p .bool ((a0 == 9) : Bool))]) rfl rfl (.tmp (.head _)) hc2 (.bool _ _)) (.cons (sok_move (rs := [(12, .p .bool true)]) rfl (.inr rfl) (.tmp (.head _))) .nil))))))))))) (by kernel_rfl) (by kernel_rfl) (by kernel_rfl) (Conv.refl _) ?_
      refine thenQ_normal ?_
      refine WpC.ret ?_
      have hq := Option.some.inj h
      subst hq
      exact ends_ret (retV_1 rfl (.head _)) (by simp)
    · replace h := ite_f hc2 h
      refine WpC.reg (st1 := ⟨[(2, .p .bool ((a0 == 10) : Bool))], []⟩) [2] [] hN (.cons (sok_move (rs := [(0, .p (.int .u8) a0)]) rfl (.inl rfl) (.tmp (.head _))) (.cons (sok_cmp (rs := [(3, .p (.int .u8) a0)]) rfl rfl (.tmp (.head _)) (.int _ _ _) rfl) (.cons (sok_move (rs := [(4, .p .bool ((a0 == 32) : Bool))]) rfl (.inl rfl) (.tmp (.head _))) (.cons (sok_run rfl rfl hc1 (sok_move (rs := [(0, .p (.int .u8) a0)]) rfl (.inl rfl) (.tmp (.head _)))) (.cons (sok_run rfl rfl hc1 (sok_cmp (rs := [(6, .p (.int .u8) a0)]) rfl rfl (.tmp (.head _)) (.int _ _ _) rfl)) (.cons (sok_pickF (rs := [(5, .p .bool ((a0 == 32) : Bool)), (7, .p .bool ((a0 == 9) : Bool))]) rfl rfl (.tmp (.head _)) hc1 (.tmp (.tail _ (.head _)))) (.cons (sok_move (rs := [(8, .p .bool ((a0 == 9) : Bool))]) rfl (.inl rfl) (.tmp (.head _))) (.cons (sok_run rfl rfl hc2 (sok_move (rs := [(0, .p (.int .u8) a0)]) rfl (.inl rfl) (.tmp (.head _)))) (.cons (sok_run rfl rfl hc2 (sok_cmp (rs := [(10, .p (.int .u8) a0)]) rfl rfl (.tmp (.head _)) (.int _ _ _) rfl)) (.cons (sok_pickF (rs := [(9, .p .bool ((a0 == 9) : Bool)), (11, .p .bool ((a0 == 10) : Bool))]) rfl rfl (.tmp (.head _)) hc2 (.tmp (.tail _ (.head _)))) (.cons (sok_move (rs := [(12, .p .bool ((a0 == 10) : Bool))]) rfl (.inr rfl) (.tmp (.head _))) .nil))))))))))) (by kernel_rfl) (by kernel_rfl) (by kernel_rfl) (Conv.refl _) ?_
      refine thenQ_normal ?_
      refine WpC.ret ?_
      have hq := Option.some.inj h
      subst hq
      exact ends_ret (retV_1 rfl (.head _)) (by simp)

theorem millwrightref11_Split.ok (O : Out) (hO : GOkE O) (k : Nat) (a0 : List UInt8) (out : (List (List UInt8)) × Int) (h : millwrightref11_Split.f k a0 = some out) : COk Un O Tryd.prog 25 { ar := [.p .str a0], r := .tup [.p (.list .str) out.1, .p (.int .i64) out.2] } := by
  refine cok_of_wp Tryd.func25 rfl (k := 61) rfl (Nat.le_of_ble_eq_true rfl) (namesOk_pure rfl rfl rfl rfl) ?_
  intro B hN
  refine WpC.conv (Conv.keep (b := ⟨[(0, .p .str a0)], []⟩) [0] [] (by kernel_rfl)) ?_
  unfold millwrightref11_Split.f at h
  refine WpC.seq ?_
  refine WpC.reg (st1 := ⟨[(0, .p .str a0)], []⟩) [0] [] hN (.cons (sok_move (rs := []) rfl (.inr rfl) (.lit _ _ rfl)) (.cons (sok_move (rs := []) rfl (.inr rfl) (.int _ _ _)) .nil)) (by kernel_rfl) (by kernel_rfl) (by kernel_rfl) (Conv.refl _) ?_
  refine thenQ_normal ?_
  refine WpC.seq ?_
  refine WpC.reg (st1 := ⟨[(0, .p .str a0), (4, .vec 9 1 0 (([] : List (List UInt8)).length))], [(9, .row 9 .str ([] : List (List UInt8)) true)]⟩) [0, 4] [9] hN (.cons (sok_buildSlice (U := Un) (t := .str) (rs := []) (ys := []) (xs := ([] : List (List UInt8))) rfl rfl rfl rfl row_22 .nil (by decide)) (.cons (sok_move (rs := [(9, .vec 9 1 0 (([] : List (List UInt8)).length))]) rfl (.inr rfl) (.tmp (.head _))) .nil)) (by kernel_rfl) (by kernel_rfl) (by kernel_rfl) (Conv.refl _) ?_
  refine thenQ_normal ?_
  refine WpC.seq ?_
  refine WpC.reg (st1 := ⟨[(0, .p .str a0), (4, .vec 9 1 0 (([] : List (List UInt8)).length)), (5, .p (.int .i64) (0 : Int))], [(9, .row 9 .str ([] : List (List UInt8)) true)]⟩) [0, 4, 5] [9] hN (.cons (sok_move (rs := []) rfl (.inr rfl) (.int _ _ _)) .nil) (by kernel_rfl) (by kernel_rfl) (by kernel_rfl) (Conv.refl _) ?_
  refine thenQ_normal ?_
  refine WpC.seq ?_
  refine WpC.reg (st1 := ⟨[(0, .p .str a0), (4, .vec 9 1 0 (([] : List (List UInt8)).length)), (5, .p (.int .i64) (0 : Int)), (6, .vec 10 1 0 (([] : List Int).length))], [(9, .row 9 .str ([] : List (List UInt8)) true), (10, .row 5 (.int .u8) ([] : List Int) true)]⟩) [0, 4, 5, 6] [9, 10] hN (.cons (sok_buildSlice (U := Un) (t := .int .u8) (rs := []) (ys := []) (xs := ([] : List Int)) rfl rfl rfl rfl row_91 .nil (by decide)) (.cons (sok_move (rs := [(10, .vec 10 1 0 (([] : List Int).length))]) rfl (.inr rfl) (.tmp (.head _))) .nil)) (by kernel_rfl) (by kernel_rfl) (by kernel_rfl) (Conv.refl _) ?_
  refine thenQ_normal ?_
  refine WpC.seqJ (fun st' => ∃ v1 : List (List UInt8), ∃ v2 : Int, ∃ v3 : List Int, millwrightref11_Split.j9 k v1 v2 v3 = some out ∧ st' = ⟨[(4, .vec 1004 1 0 v1.length), (5, .p (.int .i64) v2), (6, .vec 1006 1 0 v3.length)], [(1004, .row 9 .str v1 false), (1006, .row 5 (.int .u8) v3 false)]⟩) ?_ ?_
  · refine WpC.seq ?_
    refine WpC.reg (st1 := ⟨[(0, .p .str a0), (4, .vec 9 1 0 (([] : List (List UInt8)).length)), (5, .p (.int .i64) (0 : Int)), (6, .vec 10 1 0 (([] : List Int).length)), (7, .p (.int .i64) (0 : Int))], [(9, .row 9 .str ([] : List (List UInt8)) true), (10, .row 5 (.int .u8) ([] : List Int) true)]⟩) [0, 4, 5, 6, 7] [9, 10] hN (.cons (sok_move (rs := []) rfl (.inr rfl) (.int _ _ _)) .nil) (by kernel_rfl) (by kernel_rfl) (by kernel_rfl) (Conv.refl _) ?_
    refine thenQ_normal ?_
    refine WpC.block ?_
    obtain ⟨o18, hlo18, h⟩ := bind_some h
    have hout19 := h
    clear h
    refine WpC.conv (Conv.trans (Conv.loose 9 9 .str ([] : List (List UInt8)) (.head _)) (Conv.trans (Conv.keep (b := ⟨[(0, .p .str a0), (4, .vec 9 1 0 (([] : List (List UInt8)).length)), (5, .p (.int .i64) (0 : Int)), (6, .vec 10 1 0 (([] : List Int).length)), (7, .p (.int .i64) (0 : Int))], [(9, .row 9 .str ([] : List (List UInt8)) false), (10, .row 5 (.int .u8) ([] : List Int) true)]⟩) [0, 4, 5, 6, 7] [9, 10] (by kernel_rfl)) (Conv.trans (Conv.ren (st' := ⟨[(0, .p .str a0), (4, .vec 1004 1 0 (([] : List (List UInt8)).length)), (5, .p (.int .i64) (0 : Int)), (6, .vec 10 1 0 (([] : List Int).length)), (7, .p (.int .i64) (0 : Int))], [(1004, .row 9 .str ([] : List (List UInt8)) false), (10, .row 5 (.int .u8) ([] : List Int) true)]⟩) 9 1004 (by unfold K0; omega) (by kernel_rfl) (by kernel_rfl) (by kernel_rfl)) (Conv.trans (Conv.keep (b := ⟨[(0, .p .str a0), (4, .vec 1004 1 0 (([] : List (List UInt8)).length)), (5, .p (.int .i64) (0 : Int)), (6, .vec 10 1 0 (([] : List Int).length)), (7, .p (.int .i64) (0 : Int))], [(10, .row 5 (.int .u8) ([] : List Int) true), (1004, .row 9 .str ([] : List (List UInt8)) false)]⟩) [0, 4, 5, 6, 7] [10, 1004] (by kernel_rfl)) (Conv.trans (Conv.loose 10 5 (.int .u8) ([] : List Int) (.head _)) (Conv.trans (Conv.keep (b := ⟨[(0, .p .str a0), (4, .vec 1004 1 0 (([] : List (List UInt8)).length)), (5, .p (.int .i64) (0 : Int)), (6, .vec 10 1 0 (([] : List Int).length)), (7, .p (.int .i64) (0 : Int))], [(10, .row 5 (.int .u8) ([] : List Int) false), (1004, .row 9 .str ([] : List (List UInt8)) false)]⟩) [0, 4, 5, 6, 7] [10, 1004] (by kernel_rfl)) (Conv.trans (Conv.ren (st' := ⟨[(0, .p .str a0), (4, .vec 1004 1 0 (([] : List (List UInt8)).length)), (5, .p (.int .i64) (0 : Int)), (6, .vec 1006 1 0 (([] : List Int).length)), (7, .p (.int .i64) (0 : Int))], [(1006, .row 5 (.int .u8) ([] : List Int) false), (1004, .row 9 .str ([] : List (List UInt8)) false)]⟩) 10 1006 (by unfold K0; omega) (by kernel_rfl) (by kernel_rfl) (by kernel_rfl)) (Conv.keep (b := ⟨[(0, .p .str a0), (4, .vec 1004 1 0 (([] : List (List UInt8)).length)), (5, .p (.int .i64) (0 : Int)), (6, .vec 1006 1 0 (([] : List Int).length)), (7, .p (.int .i64) (0 : Int))], [(1004, .row 9 .str ([] : List (List UInt8)) false), (1006, .row 5 (.int .u8) ([] : List Int) false)]⟩) [0, 4, 5, 6, 7] [1004, 1006] (by kernel_rfl))))))))) ?_
    refine WpC.loop (fun n st' => ∃ v10 : List (List UInt8), ∃ v11 : Int, ∃ v12 : List Int, ∃ v13 : Int, millwrightref11_Split.l14 k a0 n v10 v11 v12 v13 = some o18 ∧ st' = ⟨[(0, .p .str a0), (4, .vec 1004 1 0 v10.length), (5, .p (.int .i64) v11), (6, .vec 1006 1 0 v12.length), (7, .p (.int .i64) v13)], [(1004, .row 9 .str v10 false), (1006, .row 5 (.int .u8) v12 false)]⟩) k ⟨([] : List (List UInt8)), 0, ([] : List Int), 0, hlo18, rfl⟩ ?_
    clear hlo18
    rintro (_ | n) _ ⟨v10, v11, v12, v13, h, rfl⟩
    · cases h
    · rw [millwrightref11_Split.l14] at h
      refine WpC.seq ?_
      refine WpC.seq ?_
      refine WpC.reg (st1 := ⟨[(0, .p .str a0), (4, .vec 1004 1 0 v10.length), (5, .p (.int .i64) v11), (6, .vec 1006 1 0 v12.length), (7, .p (.int .i64) v13), (14, .p .bool ((decide (v13 < (a0.length : Int))) : Bool))], [(1004, .row 9 .str v10 false), (1006, .row 5 (.int .u8) v12 false)]⟩) [0, 4, 5, 6, 7, 14] [1004, 1006] hN (.cons (sok_move (rs := [(7, .p (.int .i64) v13)]) rfl (.inl rfl) (.tmp (.head _))) (.cons (sok_move (rs := [(0, .p .str a0)]) rfl (.inl rfl) (.tmp (.head _))) (.cons (sok_lenS (rs := [(12, .p .str a0)]) rfl rfl Tryd.underlying9 (.tmp (.head _))) (.cons (sok_cmp (rs := [(11, .p (.int .i64) v13), (13, .p (.int .i64) ((a0.length : Int) : Int))]) rfl rfl (.tmp (.head _)) (.tmp (.tail _ (.head _))) rfl) .nil)))) (by kernel_rfl) (by kernel_rfl) (by kernel_rfl) (Conv.refl _) ?_
      refine thenQ_normal ?_
      refine WpC.cond (b := (decide (v13 < (a0.length : Int)))) (.tmp (.tail _ (.tail _ (.tail _ (.tail _ (.tail _ (.head _))))))) (fun hc20 => ?_) (fun hc20 => ?_)
      · replace h := ite_t hc20 h
        refine WpC.conv (Conv.keep (b := ⟨[(0, .p .str a0), (4, .vec 1004 1 0 v10.length), (5, .p (.int .i64) v11), (6, .vec 1006 1 0 v12.length), (7, .p (.int .i64) v13)], [(1004, .row 9 .str v10 false), (1006, .row 5 (.int .u8) v12 false)]⟩) [0, 4, 5, 6, 7] [1004, 1006] (by kernel_rfl)) (WpC.skip ?_)
        refine thenQ_normal ?_
        refine WpC.seqJ (fun st' => ∃ v21 : List (List UInt8), ∃ v22 : Int, ∃ v23 : List Int, millwrightref11_Split.j24 k (millwrightref11_Split.l14 k a0 n) a0 v13 v21 v22 v23 = some o18 ∧ st' = ⟨[(0, .p .str a0), (4, .vec 1004 1 0 v21.length), (5, .p (.int .i64) v22), (6, .vec 1006 1 0 v23.length), (7, .p (.int .i64) v13)], [(1004, .row 9 .str v21 false), (1006, .row 5 (.int .u8) v23 false)]⟩) ?_ ?_
        · refine WpC.block ?_
          refine WpC.seq ?_
          obtain ⟨v25, hv25, h⟩ := bind_some h
          refine WpC.reg (st1 := ⟨[(0, .p .str a0), (4, .vec 1004 1 0 v10.length), (5, .p (.int .i64) v11), (6, .vec 1006 1 0 v12.length), (7, .p (.int .i64) v13), (8, .p (.int .u8) ((v25.toNat : Int) : Int))], [(1004, .row 9 .str v10 false), (1006, .row 5 (.int .u8) v12 false)]⟩) [0, 4, 5, 6, 7, 8] [1004, 1006] hN (.cons (sok_move (rs := [(0, .p .str a0)]) rfl (.inl rfl) (.tmp (.head _))) (.cons (sok_move (rs := [(7, .p (.int .i64) v13)]) rfl (.inl rfl) (.tmp (.head _))) (.cons (sok_indexS (rs := [(17, .p .str a0), (18, .p (.int .i64) v13)]) rfl rfl Tryd.underlying9 (.tmp (.head _)) (.tmp (.tail _ (.head _))) hv25) (.cons (sok_move (rs := [(19, .p (.int .u8) ((v25.toNat : Int) : Int))]) rfl (.inr rfl) (.tmp (.head _))) .nil)))) (by kernel_rfl) (by kernel_rfl) (by kernel_rfl) (Conv.refl _) ?_
          refine thenQ_normal ?_
          refine WpC.seqJ (fun st' => ∃ v26 : Int, millwrightref11_Split.j39 k (millwrightref11_Split.l14 k a0 n) a0 v10 v12 v13 v25 v26 = some o18 ∧ st' = ⟨[(0, .p .str a0), (4, .vec 1004 1 0 v10.length), (5, .p (.int .i64) v26), (6, .vec 1006 1 0 v12.length), (7, .p (.int .i64) v13), (8, .p (.int .u8) ((v25.toNat : Int) : Int))], [(1004, .row 9 .str v10 false), (1006, .row 5 (.int .u8) v12 false)]⟩) ?_ ?_
          · refine WpC.seq ?_
            refine WpC.reg (st1 := ⟨[(0, .p .str a0), (4, .vec 1004 1 0 v10.length), (5, .p (.int .i64) v11), (6, .vec 1006 1 0 v12.length), (7, .p (.int .i64) v13), (8, .p (.int .u8) ((v25.toNat : Int) : Int)), (21, .p .bool ((v11 == 3) : Bool))], [(1004, .row 9 .str v10 false), (1006, .row 5 (.int .u8) v12 false)]⟩) [0, 4, 5, 6, 7, 8, 21] [1004, 1006] hN (.cons (sok_move (rs := [(5, .p (.int .i64) v11)]) rfl (.inl rfl) (.tmp (.head _))) (.cons (sok_cmp (rs := [(20, .p (.int .i64) v11)]) rfl rfl (.tmp (.head _)) (.int _ _ _) rfl) .nil)) (by kernel_rfl) (by kernel_rfl) (by kernel_rfl) (Conv.refl _) ?_
            refine thenQ_normal ?_
            refine WpC.cond (b := (v11 == 3)) (.tmp (.tail _ (.tail _ (.tail _ (.tail _ (.tail _ (.tail _ (.head _)))))))) (fun hc40 => ?_) (fun hc40 => ?_)
            · replace h := ite_t hc40 h
              refine WpC.seq ?_
              refine WpC.seq ?_
              refine WpC.reg (st1 := ⟨[(0, .p .str a0), (4, .vec 1004 1 0 v10.length), (6, .vec 1006 1 0 v12.length), (7, .p (.int .i64) v13), (8, .p (.int .u8) ((v25.toNat : Int) : Int)), (23, .p .bool (((v25.toNat : Int) == 39) : Bool))], [(1004, .row 9 .str v10 false), (1006, .row 5 (.int .u8) v12 false)]⟩) [0, 4, 6, 7, 8, 23] [1004, 1006] hN (.cons (sok_move (rs := [(8, .p (.int .u8) ((v25.toNat : Int) : Int))]) rfl (.inl rfl) (.tmp (.head _))) (.cons (sok_cmp (rs := [(22, .p (.int .u8) ((v25.toNat : Int) : Int))]) rfl rfl (.tmp (.head _)) (.int _ _ _) rfl) .nil)) (by kernel_rfl) (by kernel_rfl) (by kernel_rfl) (Conv.refl _) ?_
              refine thenQ_normal ?_
              refine WpC.cond (b := ((v25.toNat : Int) == 39)) (.tmp (.tail _ (.tail _ (.tail _ (.tail _ (.tail _ (.head _))))))) (fun hc41 => ?_) (fun hc41 => ?_)
              · replace h := ite_t hc41 h
                refine WpC.seq ?_
                obtain ⟨g42, h⟩ := if_some h
                refine WpC.reg (st1 := ⟨[(0, .p .str a0), (4, .vec 1004 1 0 v10.length), (6, .vec 26 1 0 ((v12 ++ [(39 : Int)]).length)), (7, .p (.int .i64) v13)], [(26, .row 5 (.int .u8) (v12 ++ [(39 : Int)]) false), (1004, .row 9 .str v10 false)]⟩) [0, 4, 6, 7] [26, 1004] hN (.cons (sok_move (rs := [(6, .vec 1006 1 0 v12.length)]) rfl (.inl rfl) (.tmp (.head _))) (.cons (sok_buildSlice (U := Un) (t := .int .u8) (rs := []) (ys := [.const (.int .u8 39)]) (xs := [(39 : Int)]) rfl rfl rfl rfl row_91 (.cons (.int _ _ _) .nil) (by decide)) (.cons (sok_append' (U := Un) (t := .int .u8) (rs := [(24, .vec 1006 1 0 v12.length), (25, .vec 25 1 0 ([(39 : Int)].length))]) (vw := [(25, .row 5 (.int .u8) [(39 : Int)] true)]) (xs := v12) (ys := [(39 : Int)]) (fx := false) rfl rfl rfl row_91 (by decide) (.tmp (.head _)) (.tmp (.tail _ (.head _))) (.whole (.head _)) (by simp) g42) (.cons (sok_move (rs := [(26, .vec 26 1 0 ((v12 ++ [(39 : Int)]).length))]) rfl (.inr rfl) (.tmp (.head _))) .nil)))) (by kernel_rfl) (by kernel_rfl) (by kernel_rfl) (Conv.refl _) ?_
                refine thenQ_normal ?_
                refine WpC.seq ?_
                refine WpC.reg (st1 := ⟨[(0, .p .str a0), (4, .vec 1004 1 0 v10.length), (5, .p (.int .i64) (2 : Int)), (6, .vec 26 1 0 ((v12 ++ [(39 : Int)]).length)), (7, .p (.int .i64) v13)], [(26, .row 5 (.int .u8) (v12 ++ [(39 : Int)]) false), (1004, .row 9 .str v10 false)]⟩) [0, 4, 5, 6, 7] [26, 1004] hN (.cons (sok_move (rs := []) rfl (.inr rfl) (.int _ _ _)) .nil) (by kernel_rfl) (by kernel_rfl) (by kernel_rfl) (Conv.refl _) ?_
                refine thenQ_normal ?_
                refine WpC.conv (Conv.trans (Conv.ren (st' := ⟨[(0, .p .str a0), (4, .vec 1004 1 0 v10.length), (5, .p (.int .i64) (2 : Int)), (6, .vec 1006 1 0 ((v12 ++ [(39 : Int)]).length)), (7, .p (.int .i64) v13)], [(1006, .row 5 (.int .u8) (v12 ++ [(39 : Int)]) false), (1004, .row 9 .str v10 false)]⟩) 26 1006 (by unfold K0; omega) (by kernel_rfl) (by kernel_rfl) (by kernel_rfl)) (Conv.keep (b := ⟨[(0, .p .str a0), (4, .vec 1004 1 0 v10.length), (5, .p (.int .i64) (2 : Int)), (6, .vec 1006 1 0 ((v12 ++ [(39 : Int)]).length)), (7, .p (.int .i64) v13)], [(1004, .row 9 .str v10 false), (1006, .row 5 (.int .u8) (v12 ++ [(39 : Int)]) false)]⟩) [0, 4, 5, 6, 7] [1004, 1006] (by kernel_rfl))) (WpC.exit ?_)
                refine thenQ_exit ?_
                refine thenQ_exit ?_
                refine blockQ_hit ?_
                refine thenQ_normal ?_
                exact ⟨v10, 2, (v12 ++ [(39 : Int)]), h, rfl⟩
              · replace h := ite_f hc41 h
                refine WpC.conv (Conv.keep (b := ⟨[(0, .p .str a0), (4, .vec 1004 1 0 v10.length), (6, .vec 1006 1 0 v12.length), (7, .p (.int .i64) v13), (8, .p (.int .u8) ((v25.toNat : Int) : Int))], [(1004, .row 9 .str v10 false), (1006, .row 5 (.int .u8) v12 false)]⟩) [0, 4, 6, 7, 8] [1004, 1006] (by kernel_rfl)) (WpC.skip ?_)
                refine thenQ_normal ?_
                refine WpC.reg (st1 := ⟨[(0, .p .str a0), (4, .vec 1004 1 0 v10.length), (5, .p (.int .i64) (1 : Int)), (6, .vec 1006 1 0 v12.length), (7, .p (.int .i64) v13), (8, .p (.int .u8) ((v25.toNat : Int) : Int))], [(1004, .row 9 .str v10 false), (1006, .row 5 (.int .u8) v12 false)]⟩) [0, 4, 5, 6, 7, 8] [1004, 1006] hN (.cons (sok_move (rs := []) rfl (.inr rfl) (.int _ _ _)) .nil) (by kernel_rfl) (by kernel_rfl) (by kernel_rfl) (Conv.refl _) ?_
                refine thenQ_normal ?_
                exact ⟨1, h, rfl⟩
            · replace h := ite_f hc40 h
              refine WpC.conv (Conv.keep (b := ⟨[(0, .p .str a0), (4, .vec 1004 1 0 v10.length), (5, .p (.int .i64) v11), (6, .vec 1006 1 0 v12.length), (7, .p (.int .i64) v13), (8, .p (.int .u8) ((v25.toNat : Int) : Int))], [(1004, .row 9 .str v10 false), (1006, .row 5 (.int .u8) v12 false)]⟩) [0, 4, 5, 6, 7, 8] [1004, 1006] (by kernel_rfl)) (WpC.skip ?_)
              refine thenQ_normal ?_
              exact ⟨v11, h, rfl⟩
          · rintro _ ⟨v26, h, rfl⟩
            unfold millwrightref11_Split.j39 at h
            refine WpC.seq ?_
            refine WpC.seq ?_
            refine WpC.reg (st1 := ⟨[(0, .p .str a0), (4, .vec 1004 1 0 v10.length), (5, .p (.int .i64) v26), (6, .vec 1006 1 0 v12.length), (7, .p (.int .i64) v13), (8, .p (.int .u8) ((v25.toNat : Int) : Int)), (28, .p .bool ((v26 == 2) : Bool))], [(1004, .row 9 .str v10 false), (1006, .row 5 (.int .u8) v12 false)]⟩) [0, 4, 5, 6, 7, 8, 28] [1004, 1006] hN (.cons (sok_move (rs := [(5, .p (.int .i64) v26)]) rfl (.inl rfl) (.tmp (.head _))) (.cons (sok_cmp (rs := [(27, .p (.int .i64) v26)]) rfl rfl (.tmp (.head _)) (.int _ _ _) rfl) .nil)) (by kernel_rfl) (by kernel_rfl) (by kernel_rfl) (Conv.refl _) ?_
            refine thenQ_normal ?_
            refine WpC.cond (b := (v26 == 2)) (.tmp (.tail _ (.tail _ (.tail _ (.tail _ (.tail _ (.tail _ (.head _)))))))) (fun hc27 => ?_) (fun hc27 => ?_)
            · replace h := ite_t hc27 h
              refine WpC.seq ?_
              refine WpC.seq ?_
              refine WpC.reg (st1 := ⟨[(0, .p .str a0), (4, .vec 1004 1 0 v10.length), (5, .p (.int .i64) v26), (6, .vec 1006 1 0 v12.length), (7, .p (.int .i64) v13), (8, .p (.int .u8) ((v25.toNat : Int) : Int)), (30, .p .bool (((v25.toNat : Int) == 39) : Bool))], [(1004, .row 9 .str v10 false), (1006, .row 5 (.int .u8) v12 false)]⟩) [0, 4, 5, 6, 7, 8, 30] [1004, 1006] hN (.cons (sok_move (rs := [(8, .p (.int .u8) ((v25.toNat : Int) : Int))]) rfl (.inl rfl) (.tmp (.head _))) (.cons (sok_cmp (rs := [(29, .p (.int .u8) ((v25.toNat : Int) : Int))]) rfl rfl (.tmp (.head _)) (.int _ _ _) rfl) .nil)) (by kernel_rfl) (by kernel_rfl) (by kernel_rfl) (Conv.refl _) ?_
              refine thenQ_normal ?_
              refine WpC.cond (b := ((v25.toNat : Int) == 39)) (.tmp (.tail _ (.tail _ (.tail _ (.tail _ (.tail _ (.tail _ (.head _)))))))) (fun hc28 => ?_) (fun hc28 => ?_)
              · replace h := ite_t hc28 h
                refine WpC.reg (st1 := ⟨[(0, .p .str a0), (4, .vec 1004 1 0 v10.length), (5, .p (.int .i64) (3 : Int)), (6, .vec 1006 1 0 v12.length), (7, .p (.int .i64) v13)], [(1004, .row 9 .str v10 false), (1006, .row 5 (.int .u8) v12 false)]⟩) [0, 4, 5, 6, 7] [1004, 1006] hN (.cons (sok_move (rs := []) rfl (.inr rfl) (.int _ _ _)) .nil) (by kernel_rfl) (by kernel_rfl) (by kernel_rfl) (Conv.refl _) ?_
                refine thenQ_normal ?_
                refine WpC.exit ?_
                refine thenQ_exit ?_
                refine blockQ_hit ?_
                refine thenQ_normal ?_
                exact ⟨v10, 3, v12, h, rfl⟩
              · replace h := ite_f hc28 h
                obtain ⟨g29, h⟩ := if_some h
                refine WpC.reg (st1 := ⟨[(0, .p .str a0), (4, .vec 1004 1 0 v10.length), (5, .p (.int .i64) v26), (6, .vec 34 1 0 ((v12 ++ [(v25.toNat : Int)]).length)), (7, .p (.int .i64) v13)], [(34, .row 5 (.int .u8) (v12 ++ [(v25.toNat : Int)]) false), (1004, .row 9 .str v10 false)]⟩) [0, 4, 5, 6, 7] [34, 1004] hN (.cons (sok_move (rs := [(6, .vec 1006 1 0 v12.length)]) rfl (.inl rfl) (.tmp (.head _))) (.cons (sok_move (rs := [(8, .p (.int .u8) ((v25.toNat : Int) : Int))]) rfl (.inl rfl) (.tmp (.head _))) (.cons (sok_buildSlice (U := Un) (t := .int .u8) (rs := [(32, .p (.int .u8) ((v25.toNat : Int) : Int))]) (ys := [.tmp 32]) (xs := [(v25.toNat : Int)]) rfl rfl rfl rfl row_91 (.cons (.tmp (.head _)) .nil) (by decide)) (.cons (sok_append' (U := Un) (t := .int .u8) (rs := [(31, .vec 1006 1 0 v12.length), (33, .vec 33 1 0 ([(v25.toNat : Int)].length))]) (vw := [(33, .row 5 (.int .u8) [(v25.toNat : Int)] true)]) (xs := v12) (ys := [(v25.toNat : Int)]) (fx := false) rfl rfl rfl row_91 (by decide) (.tmp (.head _)) (.tmp (.tail _ (.head _))) (.whole (.head _)) (by simp) g29) (.cons (sok_move (rs := [(34, .vec 34 1 0 ((v12 ++ [(v25.toNat : Int)]).length))]) rfl (.inr rfl) (.tmp (.head _))) .nil))))) (by kernel_rfl) (by kernel_rfl) (by kernel_rfl) (Conv.refl _) ?_
                refine thenQ_normal ?_
                refine WpC.conv (Conv.trans (Conv.ren (st' := ⟨[(0, .p .str a0), (4, .vec 1004 1 0 v10.length), (5, .p (.int .i64) v26), (6, .vec 1006 1 0 ((v12 ++ [(v25.toNat : Int)]).length)), (7, .p (.int .i64) v13)], [(1006, .row 5 (.int .u8) (v12 ++ [(v25.toNat : Int)]) false), (1004, .row 9 .str v10 false)]⟩) 34 1006 (by unfold K0; omega) (by kernel_rfl) (by kernel_rfl) (by kernel_rfl)) (Conv.keep (b := ⟨[(0, .p .str a0), (4, .vec 1004 1 0 v10.length), (5, .p (.int .i64) v26), (6, .vec 1006 1 0 ((v12 ++ [(v25.toNat : Int)]).length)), (7, .p (.int .i64) v13)], [(1004, .row 9 .str v10 false), (1006, .row 5 (.int .u8) (v12 ++ [(v25.toNat : Int)]) false)]⟩) [0, 4, 5, 6, 7] [1004, 1006] (by kernel_rfl))) (WpC.exit ?_)
                refine thenQ_exit ?_
                refine blockQ_hit ?_
                refine thenQ_normal ?_
                exact ⟨v10, v26, (v12 ++ [(v25.toNat : Int)]), h, rfl⟩
            · replace h := ite_f hc27 h
              refine WpC.conv (Conv.keep (b := ⟨[(0, .p .str a0), (4, .vec 1004 1 0 v10.length), (5, .p (.int .i64) v26), (6, .vec 1006 1 0 v12.length), (7, .p (.int .i64) v13), (8, .p (.int .u8) ((v25.toNat : Int) : Int))], [(1004, .row 9 .str v10 false), (1006, .row 5 (.int .u8) v12 false)]⟩) [0, 4, 5, 6, 7, 8] [1004, 1006] (by kernel_rfl)) (WpC.skip ?_)
              refine thenQ_normal ?_
              refine WpC.seq ?_
              refine WpC.seq ?_
              obtain ⟨v30, hv30, h⟩ := bind_some h
              refine WpC.reg (st1 := ⟨[(0, .p .str a0), (4, .vec 1004 1 0 v10.length), (5, .p (.int .i64) v26), (6, .vec 1006 1 0 v12.length), (7, .p (.int .i64) v13), (8, .p (.int .u8) ((v25.toNat : Int) : Int)), (36, .p .bool v30)], [(1004, .row 9 .str v10 false), (1006, .row 5 (.int .u8) v12 false)]⟩) [0, 4, 5, 6, 7, 8, 36] [1004, 1006] hN (.cons (sok_move (rs := [(8, .p (.int .u8) ((v25.toNat : Int) : Int))]) rfl (.inl rfl) (.tmp (.head _))) (.cons (sok_call (rs := [(35, .p (.int .u8) ((v25.toNat : Int) : Int))]) (vw := []) rfl rfl hb_23 (millwrightref11_Blank.ok O hO k (v25.toNat : Int) v30 hv30) (.cons (.tmp (.head _)) .nil) (.cons (.same _) .nil) (by simp) (.inl rfl)) .nil)) (by kernel_rfl) (by kernel_rfl) (by kernel_rfl) (Conv.refl _) ?_
              refine thenQ_normal ?_
              refine WpC.cond (b := v30) (.tmp (.tail _ (.tail _ (.tail _ (.tail _ (.tail _ (.tail _ (.head _)))))))) (fun hc31 => ?_) (fun hc31 => ?_)
              · replace h := ite_t hc31 h
                refine WpC.seqJ (fun st' => ∃ v32 : List (List UInt8), ∃ v33 : List Int, millwrightref11_Split.j34 k (millwrightref11_Split.l14 k a0 n) a0 v13 v32 v33 = some o18 ∧ st' = ⟨[(0, .p .str a0), (4, .vec 1004 1 0 v32.length), (6, .vec 1006 1 0 v33.length), (7, .p (.int .i64) v13)], [(1004, .row 9 .str v32 false), (1006, .row 5 (.int .u8) v33 false)]⟩) ?_ ?_
                · refine WpC.seq ?_
                  refine WpC.reg (st1 := ⟨[(0, .p .str a0), (4, .vec 1004 1 0 v10.length), (6, .vec 1006 1 0 v12.length), (7, .p (.int .i64) v13), (38, .p .bool ((v26 == 1) : Bool))], [(1004, .row 9 .str v10 false), (1006, .row 5 (.int .u8) v12 false)]⟩) [0, 4, 6, 7, 38] [1004, 1006] hN (.cons (sok_move (rs := [(5, .p (.int .i64) v26)]) rfl (.inl rfl) (.tmp (.head _))) (.cons (sok_cmp (rs := [(37, .p (.int .i64) v26)]) rfl rfl (.tmp (.head _)) (.int _ _ _) rfl) .nil)) (by kernel_rfl) (by kernel_rfl) (by kernel_rfl) (Conv.refl _) ?_
                  refine thenQ_normal ?_
                  refine WpC.cond (b := (v26 == 1)) (.tmp (.tail _ (.tail _ (.tail _ (.tail _ (.head _)))))) (fun hc35 => ?_) (fun hc35 => ?_)
                  · replace h := ite_t hc35 h
                    refine WpC.seq ?_
                    obtain ⟨g36, h⟩ := if_some h
                    refine WpC.reg (st1 := ⟨[(0, .p .str a0), (4, .vec 43 1 0 ((v10 ++ [(txtOf v12)]).length)), (7, .p (.int .i64) v13)], [(43, .row 9 .str (v10 ++ [(txtOf v12)]) false)]⟩) [0, 4, 7] [43] hN (.cons (sok_move (rs := [(4, .vec 1004 1 0 v10.length)]) rfl (.inl rfl) (.tmp (.head _))) (.cons (sok_move (rs := [(6, .vec 1006 1 0 v12.length)]) rfl (.inl rfl) (.tmp (.head _))) (.cons (sok_strOf (U := Un) (rs := [(40, .vec 1006 1 0 v12.length)]) (xs := v12) (fx := false) rfl rfl Tryd.underlying91 Tryd.underlying5 Tryd.underlying9 (.tmp (.head _))) (.cons (sok_buildSlice (U := Un) (t := .str) (rs := [(41, .p .str ((txtOf v12) : List UInt8))]) (ys := [.tmp 41]) (xs := [(txtOf v12)]) rfl rfl rfl rfl row_22 (.cons (.tmp (.head _)) .nil) (by decide)) (.cons (sok_append' (U := Un) (t := .str) (rs := [(39, .vec 1004 1 0 v10.length), (42, .vec 42 1 0 ([(txtOf v12)].length))]) (vw := [(42, .row 9 .str [(txtOf v12)] true)]) (xs := v10) (ys := [(txtOf v12)]) (fx := false) rfl rfl rfl row_22 (by decide) (.tmp (.head _)) (.tmp (.tail _ (.head _))) (.whole (.head _)) (by simp) g36) (.cons (sok_move (rs := [(43, .vec 43 1 0 ((v10 ++ [(txtOf v12)]).length))]) rfl (.inr rfl) (.tmp (.head _))) .nil)))))) (by kernel_rfl) (by kernel_rfl) (by kernel_rfl) (Conv.refl _) ?_
                    refine thenQ_normal ?_
                    refine WpC.reg (st1 := ⟨[(0, .p .str a0), (4, .vec 43 1 0 ((v10 ++ [(txtOf v12)]).length)), (6, .vec 44 1 0 (([] : List Int).length)), (7, .p (.int .i64) v13)], [(43, .row 9 .str (v10 ++ [(txtOf v12)]) false), (44, .row 5 (.int .u8) ([] : List Int) true)]⟩) [0, 4, 6, 7] [43, 44] hN (.cons (sok_buildSlice (U := Un) (t := .int .u8) (rs := []) (ys := []) (xs := ([] : List Int)) rfl rfl rfl rfl row_91 .nil (by decide)) (.cons (sok_move (rs := [(44, .vec 44 1 0 (([] : List Int).length))]) rfl (.inr rfl) (.tmp (.head _))) .nil)) (by kernel_rfl) (by kernel_rfl) (by kernel_rfl) (Conv.trans (Conv.ren (st' := ⟨[(0, .p .str a0), (4, .vec 1004 1 0 ((v10 ++ [(txtOf v12)]).length)), (6, .vec 44 1 0 (([] : List Int).length)), (7, .p (.int .i64) v13)], [(1004, .row 9 .str (v10 ++ [(txtOf v12)]) false), (44, .row 5 (.int .u8) ([] : List Int) true)]⟩) 43 1004 (by unfold K0; omega) (by kernel_rfl) (by kernel_rfl) (by kernel_rfl)) (Conv.trans (Conv.keep (b := ⟨[(0, .p .str a0), (4, .vec 1004 1 0 ((v10 ++ [(txtOf v12)]).length)), (6, .vec 44 1 0 (([] : List Int).length)), (7, .p (.int .i64) v13)], [(44, .row 5 (.int .u8) ([] : List Int) true), (1004, .row 9 .str (v10 ++ [(txtOf v12)]) false)]⟩) [0, 4, 6, 7] [44, 1004] (by kernel_rfl)) (Conv.trans (Conv.loose 44 5 (.int .u8) ([] : List Int) (.head _)) (Conv.trans (Conv.keep (b := ⟨[(0, .p .str a0), (4, .vec 1004 1 0 ((v10 ++ [(txtOf v12)]).length)), (6, .vec 44 1 0 (([] : List Int).length)), (7, .p (.int .i64) v13)], [(44, .row 5 (.int .u8) ([] : List Int) false), (1004, .row 9 .str (v10 ++ [(txtOf v12)]) false)]⟩) [0, 4, 6, 7] [44, 1004] (by kernel_rfl)) (Conv.trans (Conv.ren (st' := ⟨[(0, .p .str a0), (4, .vec 1004 1 0 ((v10 ++ [(txtOf v12)]).length)), (6, .vec 1006 1 0 (([] : List Int).length)), (7, .p (.int .i64) v13)], [(1006, .row 5 (.int .u8) ([] : List Int) false), (1004, .row 9 .str (v10 ++ [(txtOf v12)]) false)]⟩) 44 1006 (by unfold K0; omega) (by kernel_rfl) (by kernel_rfl) (by kernel_rfl)) (Conv.keep (b := ⟨[(0, .p .str a0), (4, .vec 1004 1 0 ((v10 ++ [(txtOf v12)]).length)), (6, .vec 1006 1 0 (([] : List Int).length)), (7, .p (.int .i64) v13)], [(1004, .row 9 .str (v10 ++ [(txtOf v12)]) false), (1006, .row 5 (.int .u8) ([] : List Int) false)]⟩) [0, 4, 6, 7] [1004, 1006] (by kernel_rfl))))))) ?_
                    refine thenQ_normal ?_
                    exact ⟨(v10 ++ [(txtOf v12)]), ([] : List Int), h, rfl⟩
                  · replace h := ite_f hc35 h
                    refine WpC.conv (Conv.keep (b := ⟨[(0, .p .str a0), (4, .vec 1004 1 0 v10.length), (6, .vec 1006 1 0 v12.length), (7, .p (.int .i64) v13)], [(1004, .row 9 .str v10 false), (1006, .row 5 (.int .u8) v12 false)]⟩) [0, 4, 6, 7] [1004, 1006] (by kernel_rfl)) (WpC.skip ?_)
                    refine thenQ_normal ?_
                    exact ⟨v10, v12, h, rfl⟩
                · rintro _ ⟨v32, v33, h, rfl⟩
                  unfold millwrightref11_Split.j34 at h
                  refine WpC.seq ?_
                  refine WpC.reg (st1 := ⟨[(0, .p .str a0), (4, .vec 1004 1 0 v32.length), (5, .p (.int .i64) (0 : Int)), (6, .vec 1006 1 0 v33.length), (7, .p (.int .i64) v13)], [(1004, .row 9 .str v32 false), (1006, .row 5 (.int .u8) v33 false)]⟩) [0, 4, 5, 6, 7] [1004, 1006] hN (.cons (sok_move (rs := []) rfl (.inr rfl) (.int _ _ _)) .nil) (by kernel_rfl) (by kernel_rfl) (by kernel_rfl) (Conv.refl _) ?_
                  refine thenQ_normal ?_
                  refine WpC.exit ?_
                  refine thenQ_exit ?_
                  refine blockQ_hit ?_
                  refine thenQ_normal ?_
                  exact ⟨v32, 0, v33, h, rfl⟩
              · replace h := ite_f hc31 h
                refine WpC.conv (Conv.keep (b := ⟨[(0, .p .str a0), (4, .vec 1004 1 0 v10.length), (6, .vec 1006 1 0 v12.length), (7, .p (.int .i64) v13), (8, .p (.int .u8) ((v25.toNat : Int) : Int))], [(1004, .row 9 .str v10 false), (1006, .row 5 (.int .u8) v12 false)]⟩) [0, 4, 6, 7, 8] [1004, 1006] (by kernel_rfl)) (WpC.skip ?_)
                refine thenQ_normal ?_
                refine WpC.seq ?_
                refine WpC.reg (st1 := ⟨[(0, .p .str a0), (4, .vec 1004 1 0 v10.length), (5, .p (.int .i64) (1 : Int)), (6, .vec 1006 1 0 v12.length), (7, .p (.int .i64) v13), (8, .p (.int .u8) ((v25.toNat : Int) : Int))], [(1004, .row 9 .str v10 false), (1006, .row 5 (.int .u8) v12 false)]⟩) [0, 4, 5, 6, 7, 8] [1004, 1006] hN (.cons (sok_move (rs := []) rfl (.inr rfl) (.int _ _ _)) .nil) (by kernel_rfl) (by kernel_rfl) (by kernel_rfl) (Conv.refl _) ?_
                refine thenQ_normal ?_
                refine WpC.seq ?_
                refine WpC.reg (st1 := ⟨[(0, .p .str a0), (4, .vec 1004 1 0 v10.length), (5, .p (.int .i64) (1 : Int)), (6, .vec 1006 1 0 v12.length), (7, .p (.int .i64) v13), (8, .p (.int .u8) ((v25.toNat : Int) : Int)), (46, .p .bool (((v25.toNat : Int) == 39) : Bool))], [(1004, .row 9 .str v10 false), (1006, .row 5 (.int .u8) v12 false)]⟩) [0, 4, 5, 6, 7, 8, 46] [1004, 1006] hN (.cons (sok_move (rs := [(8, .p (.int .u8) ((v25.toNat : Int) : Int))]) rfl (.inl rfl) (.tmp (.head _))) (.cons (sok_cmp (rs := [(45, .p (.int .u8) ((v25.toNat : Int) : Int))]) rfl rfl (.tmp (.head _)) (.int _ _ _) rfl) .nil)) (by kernel_rfl) (by kernel_rfl) (by kernel_rfl) (Conv.refl _) ?_
                refine thenQ_normal ?_
                refine WpC.cond (b := ((v25.toNat : Int) == 39)) (.tmp (.tail _ (.tail _ (.tail _ (.tail _ (.tail _ (.tail _ (.head _)))))))) (fun hc37 => ?_) (fun hc37 => ?_)
                · replace h := ite_t hc37 h
                  refine WpC.reg (st1 := ⟨[(0, .p .str a0), (4, .vec 1004 1 0 v10.length), (5, .p (.int .i64) (2 : Int)), (6, .vec 1006 1 0 v12.length), (7, .p (.int .i64) v13)], [(1004, .row 9 .str v10 false), (1006, .row 5 (.int .u8) v12 false)]⟩) [0, 4, 5, 6, 7] [1004, 1006] hN (.cons (sok_move (rs := []) rfl (.inr rfl) (.int _ _ _)) .nil) (by kernel_rfl) (by kernel_rfl) (by kernel_rfl) (Conv.refl _) ?_
                  refine blockQ_normal ?_
                  refine thenQ_normal ?_
                  exact ⟨v10, 2, v12, h, rfl⟩
                · replace h := ite_f hc37 h
                  obtain ⟨g38, h⟩ := if_some h
                  refine WpC.reg (st1 := ⟨[(0, .p .str a0), (4, .vec 1004 1 0 v10.length), (5, .p (.int .i64) (1 : Int)), (6, .vec 50 1 0 ((v12 ++ [(v25.toNat : Int)]).length)), (7, .p (.int .i64) v13)], [(50, .row 5 (.int .u8) (v12 ++ [(v25.toNat : Int)]) false), (1004, .row 9 .str v10 false)]⟩) [0, 4, 5, 6, 7] [50, 1004] hN (.cons (sok_move (rs := [(6, .vec 1006 1 0 v12.length)]) rfl (.inl rfl) (.tmp (.head _))) (.cons (sok_move (rs := [(8, .p (.int .u8) ((v25.toNat : Int) : Int))]) rfl (.inl rfl) (.tmp (.head _))) (.cons (sok_buildSlice (U := Un) (t := .int .u8) (rs := [(48, .p (.int .u8) ((v25.toNat : Int) : Int))]) (ys := [.tmp 48]) (xs := [(v25.toNat : Int)]) rfl rfl rfl rfl row_91 (.cons (.tmp (.head _)) .nil) (by decide)) (.cons (sok_append' (U := Un) (t := .int .u8) (rs := [(47, .vec 1006 1 0 v12.length), (49, .vec 49 1 0 ([(v25.toNat : Int)].length))]) (vw := [(49, .row 5 (.int .u8) [(v25.toNat : Int)] true)]) (xs := v12) (ys := [(v25.toNat : Int)]) (fx := false) rfl rfl rfl row_91 (by decide) (.tmp (.head _)) (.tmp (.tail _ (.head _))) (.whole (.head _)) (by simp) g38) (.cons (sok_move (rs := [(50, .vec 50 1 0 ((v12 ++ [(v25.toNat : Int)]).length))]) rfl (.inr rfl) (.tmp (.head _))) .nil))))) (by kernel_rfl) (by kernel_rfl) (by kernel_rfl) (Conv.trans (Conv.ren (st' := ⟨[(0, .p .str a0), (4, .vec 1004 1 0 v10.length), (5, .p (.int .i64) (1 : Int)), (6, .vec 1006 1 0 ((v12 ++ [(v25.toNat : Int)]).length)), (7, .p (.int .i64) v13)], [(1006, .row 5 (.int .u8) (v12 ++ [(v25.toNat : Int)]) false), (1004, .row 9 .str v10 false)]⟩) 50 1006 (by unfold K0; omega) (by kernel_rfl) (by kernel_rfl) (by kernel_rfl)) (Conv.keep (b := ⟨[(0, .p .str a0), (4, .vec 1004 1 0 v10.length), (5, .p (.int .i64) (1 : Int)), (6, .vec 1006 1 0 ((v12 ++ [(v25.toNat : Int)]).length)), (7, .p (.int .i64) v13)], [(1004, .row 9 .str v10 false), (1006, .row 5 (.int .u8) (v12 ++ [(v25.toNat : Int)]) false)]⟩) [0, 4, 5, 6, 7] [1004, 1006] (by kernel_rfl))) ?_
                  refine blockQ_normal ?_
                  refine thenQ_normal ?_
                  exact ⟨v10, 1, (v12 ++ [(v25.toNat : Int)]), h, rfl⟩
        · rintro _ ⟨v21, v22, v23, h, rfl⟩
          unfold millwrightref11_Split.j24 at h
          refine WpC.reg (st1 := ⟨[(0, .p .str a0), (4, .vec 1004 1 0 v21.length), (5, .p (.int .i64) v22), (6, .vec 1006 1 0 v23.length), (7, .p (.int .i64) ((IntKind.i64.wrap (v13 + 1)) : Int))], [(1004, .row 9 .str v21 false), (1006, .row 5 (.int .u8) v23 false)]⟩) [0, 4, 5, 6, 7] [1004, 1006] hN (.cons (sok_move (rs := [(7, .p (.int .i64) v13)]) rfl (.inl rfl) (.tmp (.head _))) (.cons (sok_arith (rs := [(15, .p (.int .i64) v13)]) rfl rfl (.tmp (.head _)) (.int _ _ _) rfl) (.cons (sok_move (rs := [(16, .p (.int .i64) ((IntKind.i64.wrap (v13 + 1)) : Int))]) rfl (.inr rfl) (.tmp (.head _))) .nil))) (by kernel_rfl) (by kernel_rfl) (by kernel_rfl) (Conv.refl _) ?_
          refine thenQ_normal ?_
          exact ⟨n, Nat.lt_succ_self n, v21, v22, v23, (IntKind.i64.wrap (v13 + 1)), h, rfl⟩
      · replace h := ite_f hc20 h
        refine WpC.conv (Conv.keep (b := ⟨[(4, .vec 1004 1 0 v10.length), (5, .p (.int .i64) v11), (6, .vec 1006 1 0 v12.length)], [(1004, .row 9 .str v10 false), (1006, .row 5 (.int .u8) v12 false)]⟩) [4, 5, 6] [1004, 1006] (by kernel_rfl)) (WpC.exit ?_)
        refine thenQ_exit ?_
        have hq := Option.some.inj h
        subst hq
        refine thenQ_exit ?_
        have h := hout19
        refine blockQ_hit ?_
        refine thenQ_normal ?_
        exact ⟨v10, v11, v12, h, rfl⟩
  · rintro _ ⟨v1, v2, v3, h, rfl⟩
    unfold millwrightref11_Split.j9 at h
    refine WpC.seq ?_
    refine WpC.seq ?_
    refine WpC.reg (st1 := ⟨[(4, .vec 1004 1 0 v1.length), (5, .p (.int .i64) v2), (6, .vec 1006 1 0 v3.length), (52, .p .bool ((v2 == 2) : Bool))], [(1004, .row 9 .str v1 false), (1006, .row 5 (.int .u8) v3 false)]⟩) [4, 5, 6, 52] [1004, 1006] hN (.cons (sok_move (rs := [(5, .p (.int .i64) v2)]) rfl (.inl rfl) (.tmp (.head _))) (.cons (sok_cmp (rs := [(51, .p (.int .i64) v2)]) rfl rfl (.tmp (.head _)) (.int _ _ _) rfl) .nil)) (by kernel_rfl) (by kernel_rfl) (by kernel_rfl) (Conv.refl _) ?_
    refine thenQ_normal ?_
    refine WpC.cond (b := (v2 == 2)) (.tmp (.tail _ (.tail _ (.tail _ (.head _))))) (fun hc4 => ?_) (fun hc4 => ?_)
    · replace h := ite_t hc4 h
      refine WpC.seq ?_
      refine WpC.reg (st1 := ⟨[(2, .lit (.slice none 0 0)), (3, .p (.int .i64) (5 : Int))], []⟩) [2, 3] [] hN (.cons (sok_move (rs := []) rfl (.inr rfl) (.lit _ _ rfl)) (.cons (sok_move (rs := []) rfl (.inr rfl) (.int _ _ _)) .nil)) (by kernel_rfl) (by kernel_rfl) (by kernel_rfl) (Conv.refl _) ?_
      refine thenQ_normal ?_
      refine WpC.conv (Conv.trans (Conv.nilL 2 .str (.head _)) (Conv.keep (b := ⟨[(2, .p (.list .str) ([] : List (List UInt8))), (3, .p (.int .i64) (5 : Int))], []⟩) [2, 3] [] (by kernel_rfl))) (WpC.ret ?_)
      refine thenQ_ret ?_
      have hq := Option.some.inj h
      subst hq
      exact ends_ret (retV_2 rfl (.head _) (.tail _ (.head _))) (by simp)
    · replace h := ite_f hc4 h
      refine WpC.conv (Conv.keep (b := ⟨[(4, .vec 1004 1 0 v1.length), (5, .p (.int .i64) v2), (6, .vec 1006 1 0 v3.length)], [(1004, .row 9 .str v1 false), (1006, .row 5 (.int .u8) v3 false)]⟩) [4, 5, 6] [1004, 1006] (by kernel_rfl)) (WpC.skip ?_)
      refine thenQ_normal ?_
      refine WpC.seqJ (fun st' => ∃ v5 : List (List UInt8), millwrightref11_Split.j6 k v5 = some out ∧ st' = ⟨[(4, .vec 1004 1 0 v5.length)], [(1004, .row 9 .str v5 false)]⟩) ?_ ?_
      · refine WpC.seq ?_
        refine WpC.reg (st1 := ⟨[(4, .vec 1004 1 0 v1.length), (6, .vec 1006 1 0 v3.length), (54, .p .bool ((v2 != 0) : Bool))], [(1004, .row 9 .str v1 false), (1006, .row 5 (.int .u8) v3 false)]⟩) [4, 6, 54] [1004, 1006] hN (.cons (sok_move (rs := [(5, .p (.int .i64) v2)]) rfl (.inl rfl) (.tmp (.head _))) (.cons (sok_cmp (rs := [(53, .p (.int .i64) v2)]) rfl rfl (.tmp (.head _)) (.int _ _ _) rfl) .nil)) (by kernel_rfl) (by kernel_rfl) (by kernel_rfl) (Conv.refl _) ?_
        refine thenQ_normal ?_
        refine WpC.cond (b := (v2 != 0)) (.tmp (.tail _ (.tail _ (.head _)))) (fun hc7 => ?_) (fun hc7 => ?_)
        · replace h := ite_t hc7 h
          obtain ⟨g8, h⟩ := if_some h
          refine WpC.reg (st1 := ⟨[(4, .vec 59 1 0 ((v1 ++ [(txtOf v3)]).length))], [(59, .row 9 .str (v1 ++ [(txtOf v3)]) false)]⟩) [4] [59] hN (.cons (sok_move (rs := [(4, .vec 1004 1 0 v1.length)]) rfl (.inl rfl) (.tmp (.head _))) (.cons (sok_move (rs := [(6, .vec 1006 1 0 v3.length)]) rfl (.inl rfl) (.tmp (.head _))) (.cons (sok_strOf (U := Un) (rs := [(56, .vec 1006 1 0 v3.length)]) (xs := v3) (fx := false) rfl rfl Tryd.underlying91 Tryd.underlying5 Tryd.underlying9 (.tmp (.head _))) (.cons (sok_buildSlice (U := Un) (t := .str) (rs := [(57, .p .str ((txtOf v3) : List UInt8))]) (ys := [.tmp 57]) (xs := [(txtOf v3)]) rfl rfl rfl rfl row_22 (.cons (.tmp (.head _)) .nil) (by decide)) (.cons (sok_append' (U := Un) (t := .str) (rs := [(55, .vec 1004 1 0 v1.length), (58, .vec 58 1 0 ([(txtOf v3)].length))]) (vw := [(58, .row 9 .str [(txtOf v3)] true)]) (xs := v1) (ys := [(txtOf v3)]) (fx := false) rfl rfl rfl row_22 (by decide) (.tmp (.head _)) (.tmp (.tail _ (.head _))) (.whole (.head _)) (by simp) g8) (.cons (sok_move (rs := [(59, .vec 59 1 0 ((v1 ++ [(txtOf v3)]).length))]) rfl (.inr rfl) (.tmp (.head _))) .nil)))))) (by kernel_rfl) (by kernel_rfl) (by kernel_rfl) (Conv.trans (Conv.ren (st' := ⟨[(4, .vec 1004 1 0 ((v1 ++ [(txtOf v3)]).length))], [(1004, .row 9 .str (v1 ++ [(txtOf v3)]) false)]⟩) 59 1004 (by unfold K0; omega) (by kernel_rfl) (by kernel_rfl) (by kernel_rfl)) (Conv.keep (b := ⟨[(4, .vec 1004 1 0 ((v1 ++ [(txtOf v3)]).length))], [(1004, .row 9 .str (v1 ++ [(txtOf v3)]) false)]⟩) [4] [1004] (by kernel_rfl))) ?_
          refine thenQ_normal ?_
          exact ⟨(v1 ++ [(txtOf v3)]), h, rfl⟩
        · replace h := ite_f hc7 h
          refine WpC.conv (Conv.keep (b := ⟨[(4, .vec 1004 1 0 v1.length)], [(1004, .row 9 .str v1 false)]⟩) [4] [1004] (by kernel_rfl)) (WpC.skip ?_)
          refine thenQ_normal ?_
          exact ⟨v1, h, rfl⟩
      · rintro _ ⟨v5, h, rfl⟩
        unfold millwrightref11_Split.j6 at h
        refine WpC.seq ?_
        refine WpC.reg (st1 := ⟨[(2, .vec 1004 1 0 v5.length), (3, .p (.int .i64) (0 : Int))], [(1004, .row 9 .str v5 false)]⟩) [2, 3] [1004] hN (.cons (sok_move (rs := [(4, .vec 1004 1 0 v5.length)]) rfl (.inl rfl) (.tmp (.head _))) (.cons (sok_move (rs := [(60, .vec 1004 1 0 v5.length)]) rfl (.inr rfl) (.tmp (.head _))) (.cons (sok_move (rs := []) rfl (.inr rfl) (.int _ _ _)) .nil))) (by kernel_rfl) (by kernel_rfl) (by kernel_rfl) (Conv.refl _) ?_
        refine thenQ_normal ?_
        refine WpC.conv (Conv.trans (Conv.freeze 2 1004 9 _ .str v5 false (.head _) rfl (.head _) (by simp [Blk.names])) (Conv.keep (b := ⟨[(2, .p (.list .str) v5), (3, .p (.int .i64) (0 : Int))], []⟩) [2, 3] [] (by kernel_rfl))) (WpC.ret ?_)
        have hq := Option.some.inj h
        subst hq
        exact ends_ret (retV_2 rfl (.head _) (.tail _ (.head _))) (by simp)

theorem millwrightnum_all.ok (O : Out) (hO : GOkE O) (k : Nat) (out : List Nat) (h : millwrightnum_all.f k = some out) : COk Un O Tryd.prog 63 { ar := [], r := .p (.list .err) out } := by
  refine cok_of_wp Tryd.func63 rfl (k := 20) rfl (Nat.le_of_ble_eq_true rfl) (namesOk_pure rfl rfl rfl rfl) ?_
  intro B hN
  refine WpC.conv (Conv.keep (b := ⟨[], []⟩) [] [] (by kernel_rfl)) ?_
  unfold millwrightnum_all.f at h
  refine WpC.seq ?_
  refine WpC.reg (st1 := ⟨[], []⟩) [] [] hN (.cons (sok_move (rs := []) rfl (.inr rfl) (.lit _ _ rfl)) .nil) (by kernel_rfl) (by kernel_rfl) (by kernel_rfl) (Conv.refl _) ?_
  refine thenQ_normal ?_
  refine WpC.seq ?_
  refine WpC.reg (st1 := ⟨[(0, .vec 19 1 0 ([(1 : Nat), (2 : Nat), (3 : Nat), (4 : Nat), (5 : Nat), (6 : Nat), (7 : Nat), (8 : Nat), (9 : Nat), (10 : Nat), (11 : Nat), (12 : Nat), (13 : Nat), (14 : Nat), (15 : Nat), (16 : Nat), (17 : Nat), (18 : Nat)].length))], [(19, .row 33 .err [(1 : Nat), (2 : Nat), (3 : Nat), (4 : Nat), (5 : Nat), (6 : Nat), (7 : Nat), (8 : Nat), (9 : Nat), (10 : Nat), (11 : Nat), (12 : Nat), (13 : Nat), (14 : Nat), (15 : Nat), (16 : Nat), (17 : Nat), (18 : Nat)] true)]⟩) [0] [19] hN (.cons (sok_loadG (U := Un) (t := .err) (rs := []) rfl rfl ty_33 rfl rfl (hO.var 0 2 rfl) (fun S w => .err 0)) (.cons (sok_loadG (U := Un) (t := .err) (rs := []) rfl rfl ty_33 rfl rfl (hO.var 1 3 rfl) (fun S w => .err 1)) (.cons (sok_loadG (U := Un) (t := .err) (rs := []) rfl rfl ty_33 rfl rfl (hO.var 2 5 rfl) (fun S w => .err 2)) (.cons (sok_loadG (U := Un) (t := .err) (rs := []) rfl rfl ty_33 rfl rfl (hO.var 3 1 rfl) (fun S w => .err 3)) (.cons (sok_loadG (U := Un) (t := .err) (rs := []) rfl rfl ty_33 rfl rfl (hO.var 4 4 rfl) (fun S w => .err 4)) (.cons (sok_loadG (U := Un) (t := .err) (rs := []) rfl rfl ty_33 rfl rfl (hO.var 5 6 rfl) (fun S w => .err 5)) (.cons (sok_loadG (U := Un) (t := .err) (rs := []) rfl rfl ty_33 rfl rfl (hO.var 6 7 rfl) (fun S w => .err 6)) (.cons (sok_loadG (U := Un) (t := .err) (rs := []) rfl rfl ty_33 rfl rfl (hO.var 7 8 rfl) (fun S w => .err 7)) (.cons (sok_loadG (U := Un) (t := .err) (rs := []) rfl rfl ty_33 rfl rfl (hO.var 8 9 rfl) (fun S w => .err 8)) (.cons (sok_loadG (U := Un) (t := .err) (rs := []) rfl rfl ty_33 rfl rfl (hO.var 9 0 rfl) (fun S w => .err 9)) (.cons (sok_loadG (U := Un) (t := .err) (rs := []) rfl rfl ty_33 rfl rfl (hO.var 10 10 rfl) (fun S w => .err 10)) (.cons (sok_loadG (U := Un) (t := .err) (rs := []) rfl rfl ty_33 rfl rfl (hO.var 11 11 rfl) (fun S w => .err 11)) (.cons (sok_loadG (U := Un) (t := .err) (rs := []) rfl rfl ty_33 rfl rfl (hO.var 12 12 rfl) (fun S w => .err 12)) (.cons (sok_loadG (U := Un) (t := .err) (rs := []) rfl rfl ty_33 rfl rfl (hO.var 13 13 rfl) (fun S w => .err 13)) (.cons (sok_loadG (U := Un) (t := .err) (rs := []) rfl rfl ty_33 rfl rfl (hO.var 14 14 rfl) (fun S w => .err 14)) (.cons (sok_loadG (U := Un) (t := .err) (rs := []) rfl rfl ty_33 rfl rfl (hO.var 15 15 rfl) (fun S w => .err 15)) (.cons (sok_loadG (U := Un) (t := .err) (rs := []) rfl rfl ty_33 rfl rfl (hO.var 16 16 rfl) (fun S w => .err 16)) (.cons (sok_loadG (U := Un) (t := .err) (rs := []) rfl rfl ty_33 rfl rfl (hO.var 17 17 rfl) (fun S w => .err 17)) (.cons (sok_buildSlice (U := Un) (t := .err) (rs := [(1, .p .err (1 : Nat)), (2, .p .err (2 : Nat)), (3, .p .err (3 : Nat)), (4, .p .err (4 : Nat)), (5, .p .err (5 : Nat)), (6, .p .err (6 : Nat)), (7, .p .err (7 : Nat)), (8, .p .err (8 : Nat)), (9, .p .err (9 : Nat)), (10, .p .err (10 : Nat)), (11, .p .err (11 : Nat)), (12, .p .err (12 : Nat)), (13, .p .err (13 : Nat)), (14, .p .err (14 : Nat)), (15, .p .err (15 : Nat)), (16, .p .err (16 : Nat)), (17, .p .err (17 : Nat)), (18, .p .err (18 : Nat))]) (ys := [.tmp 1, .tmp 2, .tmp 3, .tmp 4, .tmp 5, .tmp 6, .tmp 7, .tmp 8, .tmp 9, .tmp 10, .tmp 11, .tmp 12, .tmp 13, .tmp 14, .tmp 15, .tmp 16, .tmp 17, .tmp 18]) (xs := [(1 : Nat), (2 : Nat), (3 : Nat), (4 : Nat), (5 : Nat), (6 : Nat), (7 : Nat), (8 : Nat), (9 : Nat), (10 : Nat), (11 : Nat), (12 : Nat), (13 : Nat), (14 : Nat), (15 : Nat), (16 : Nat), (17 : Nat), (18 : Nat)]) rfl rfl rfl rfl row_92 (.cons (.tmp (.head _)) (.cons (.tmp (.tail _ (.head _))) (.cons (.tmp (.tail _ (.tail _ (.head _)))) (.cons (.tmp (.tail _ (.tail _ (.tail _ (.head _))))) (.cons (.tmp (.tail _ (.tail _ (.tail _ (.tail _ (.head _)))))) (.cons (.tmp (.tail _ (.tail _ (.tail _ (.tail _ (.tail _ (.head _))))))) (.cons (.tmp (.tail _ (.tail _ (.tail _ (.tail _ (.tail _ (.tail _ (.head _)))))))) (.cons (.tmp (.tail _ (.tail _ (.tail _ (.tail _ (.tail _ (.tail _ (.tail _ (.head _))))))))) (.cons (.tmp (.tail _ (.tail _ (.tail _ (.tail _ (.tail _ (.tail _ (.tail _ (.tail _ (.head _)))))))))) (.cons (.tmp (.tail _ (.tail _ (.tail _ (.tail _ (.tail _ (.tail _ (.tail _ (.tail _ (.tail _ (.head _))))))))))) (.cons (.tmp (.tail _ (.tail _ (.tail _ (.tail _ (.tail _ (.tail _ (.tail _ (.tail _ (.tail _ (.tail _ (.head _)))))))))))) (.cons (.tmp (.tail _ (.tail _ (.tail _ (.tail _ (.tail _ (.tail _ (.tail _ (.tail _ (.tail _ (.tail _ (.tail _ (.head _))))))))))))) (.cons (.tmp (.tail _ (.tail _ (.tail _ (.tail _ (.tail _ (.tail _ (.tail _ (.tail _ (.tail _ (.tail _ (.tail _ (.tail _ (.head _)))))))))))))) (.cons (.tmp (.tail _ (.tail _ (.tail _ (.tail _ (.tail _ (.tail _ (.tail _ (.tail _ (.tail _ (.tail _ (.tail _ (.tail _ (.tail _ (.head _))))))))))))))) (.cons (.tmp (.tail _ (.tail _ (.tail _ (.tail _ (.tail _ (.tail _ (.tail _ (.tail _ (.tail _ (.tail _ (.tail _ (.tail _ (.tail _ (.tail _ (.head _)))))))))))))))) (.cons (.tmp (.tail _ (.tail _ (.tail _ (.tail _ (.tail _ (.tail _ (.tail _ (.tail _ (.tail _ (.tail _ (.tail _ (.tail _ (.tail _ (.tail _ (.tail _ (.head _))))))))))))))))) (.cons (.tmp (.tail _ (.tail _ (.tail _ (.tail _ (.tail _ (.tail _ (.tail _ (.tail _ (.tail _ (.tail _ (.tail _ (.tail _ (.tail _ (.tail _ (.tail _ (.tail _ (.head _)))))))))))))))))) (.cons (.tmp (.tail _ (.tail _ (.tail _ (.tail _ (.tail _ (.tail _ (.tail _ (.tail _ (.tail _ (.tail _ (.tail _ (.tail _ (.tail _ (.tail _ (.tail _ (.tail _ (.tail _ (.head _))))))))))))))))))) .nil)))))))))))))))))) (by decide)) (.cons (sok_move (rs := [(19, .vec 19 1 0 ([(1 : Nat), (2 : Nat), (3 : Nat), (4 : Nat), (5 : Nat), (6 : Nat), (7 : Nat), (8 : Nat), (9 : Nat), (10 : Nat), (11 : Nat), (12 : Nat), (13 : Nat), (14 : Nat), (15 : Nat), (16 : Nat), (17 : Nat), (18 : Nat)].length))]) rfl (.inr rfl) (.tmp (.head _))) .nil)))))))))))))))))))) (by kernel_rfl) (by kernel_rfl) (by kernel_rfl) (Conv.refl _) ?_
  refine thenQ_normal ?_
  refine WpC.conv (Conv.trans (Conv.freeze 0 19 33 _ .err [(1 : Nat), (2 : Nat), (3 : Nat), (4 : Nat), (5 : Nat), (6 : Nat), (7 : Nat), (8 : Nat), (9 : Nat), (10 : Nat), (11 : Nat), (12 : Nat), (13 : Nat), (14 : Nat), (15 : Nat), (16 : Nat), (17 : Nat), (18 : Nat)] true (.head _) rfl (.head _) (by simp [Blk.names])) (Conv.keep (b := ⟨[(0, .p (.list .err) ([(1 : Nat), (2 : Nat), (3 : Nat), (4 : Nat), (5 : Nat), (6 : Nat), (7 : Nat), (8 : Nat), (9 : Nat), (10 : Nat), (11 : Nat), (12 : Nat), (13 : Nat), (14 : Nat), (15 : Nat), (16 : Nat), (17 : Nat), (18 : Nat)] : List Nat))], []⟩) [0] [] (by kernel_rfl))) (WpC.ret ?_)
  have hq := Option.some.inj h
  subst hq
  exact ends_ret (retV_1 rfl (.head _)) (by simp)

theorem millwrightnum_Num.ok (O : Out) (hO : GOkE O) (k : Nat) (a0 : Nat) (out : Int) (h : millwrightnum_Num.f k a0 = some out) : COk Un O Tryd.prog 26 { ar := [.p .err a0], r := .p (.int .i64) out } := by
  refine cok_of_wp Tryd.func26 rfl (k := 20) rfl (Nat.le_of_ble_eq_true rfl) (namesOk_pure rfl rfl rfl rfl) ?_
  intro B hN
  refine WpC.conv (Conv.keep (b := ⟨[(0, .p .err a0)], []⟩) [0] [] (by kernel_rfl)) ?_
  unfold millwrightnum_Num.f at h
  refine WpC.seq ?_
  refine WpC.reg (st1 := ⟨[(0, .p .err a0)], []⟩) [0] [] hN (.cons (sok_move (rs := []) rfl (.inr rfl) (.int _ _ _)) .nil) (by kernel_rfl) (by kernel_rfl) (by kernel_rfl) (Conv.refl _) ?_
  refine thenQ_normal ?_
  refine WpC.seq ?_
  refine WpC.seq ?_
  refine WpC.reg (st1 := ⟨[(0, .p .err a0), (6, .p .bool ((a0 == 0) : Bool))], []⟩) [0, 6] [] hN (.cons (sok_move (rs := [(0, .p .err a0)]) rfl (.inl rfl) (.tmp (.head _))) (.cons (sok_errNil (rs := [(5, .p .err a0)]) rfl rfl Tryd.underlying33 (.tmp (.head _)) rfl) .nil)) (by kernel_rfl) (by kernel_rfl) (by kernel_rfl) (Conv.refl _) ?_
  refine thenQ_normal ?_
  refine WpC.cond (b := (a0 == 0)) (.tmp (.tail _ (.head _))) (fun hc1 => ?_) (fun hc1 => ?_)
  · replace h := ite_t hc1 h
    refine WpC.seq ?_
    refine WpC.reg (st1 := ⟨[(2, .p (.int .i64) (0 : Int))], []⟩) [2] [] hN (.cons (sok_move (rs := []) rfl (.inr rfl) (.int _ _ _)) .nil) (by kernel_rfl) (by kernel_rfl) (by kernel_rfl) (Conv.refl _) ?_
    refine thenQ_normal ?_
    refine WpC.ret ?_
    refine thenQ_ret ?_
    have hq := Option.some.inj h
    subst hq
    exact ends_ret (retV_1 rfl (.head _)) (by simp)
  · replace h := ite_f hc1 h
    refine WpC.conv (Conv.keep (b := ⟨[(0, .p .err a0)], []⟩) [0] [] (by kernel_rfl)) (WpC.skip ?_)
    refine thenQ_normal ?_
    refine WpC.seqJ (fun st' => millwrightnum_Num.j2 k = some out ∧ st' = ⟨[], []⟩) ?_ ?_
    · refine WpC.seq ?_
      obtain ⟨v3, hv3, h⟩ := bind_some h
      refine WpC.reg (st1 := ⟨[(0, .p .err a0), (7, .p (.list .err) v3), (8, .p (.int .i64) ((v3.length : Int) : Int)), (9, .p (.int .i64) (0 : Int))], []⟩) [0, 7, 8, 9] [] hN (.cons (sok_call (rs := []) (vw := []) rfl rfl hb_63 (millwrightnum_all.ok O hO k  v3 hv3) .nil .nil (by simp) (.inl rfl)) (.cons (sok_lenL (rs := [(7, .p (.list .err) v3)]) rfl rfl Tryd.underlying92 (.tmp (.head _))) (.cons (sok_move (rs := []) rfl (.inl rfl) (.int _ _ _)) .nil))) (by kernel_rfl) (by kernel_rfl) (by kernel_rfl) (Conv.refl _) ?_
      refine thenQ_normal ?_
      refine WpC.block ?_
      obtain ⟨o6, hlo6, h⟩ := bind_some h
      have hout7 := h
      clear h
      refine WpC.loop (fun n st' => ∃ v4 : Int, millwrightnum_Num.l5 k a0 v3 n v4 = some o6 ∧ st' = ⟨[(0, .p .err a0), (7, .p (.list .err) v3), (8, .p (.int .i64) ((v3.length : Int) : Int)), (9, .p (.int .i64) v4)], []⟩) k ⟨0, hlo6, rfl⟩ ?_
      clear hlo6
      rintro (_ | n) _ ⟨v4, h, rfl⟩
      · cases h
      · rw [millwrightnum_Num.l5] at h
        refine WpC.seq ?_
        refine WpC.reg (st1 := ⟨[(0, .p .err a0), (7, .p (.list .err) v3), (8, .p (.int .i64) ((v3.length : Int) : Int)), (9, .p (.int .i64) v4), (10, .p .bool ((decide (v4 < (v3.length : Int))) : Bool))], []⟩) [0, 7, 8, 9, 10] [] hN (.cons (sok_cmp (rs := [(9, .p (.int .i64) v4), (8, .p (.int .i64) ((v3.length : Int) : Int))]) rfl rfl (.tmp (.head _)) (.tmp (.tail _ (.head _))) rfl) .nil) (by kernel_rfl) (by kernel_rfl) (by kernel_rfl) (Conv.refl _) ?_
        refine thenQ_normal ?_
        refine WpC.seq ?_
        refine WpC.cond (b := (decide (v4 < (v3.length : Int)))) (.tmp (.tail _ (.tail _ (.tail _ (.tail _ (.head _)))))) (fun hc8 => ?_) (fun hc8 => ?_)
        · replace h := ite_t hc8 h
          refine WpC.conv (Conv.keep (b := ⟨[(0, .p .err a0), (7, .p (.list .err) v3), (8, .p (.int .i64) ((v3.length : Int) : Int)), (9, .p (.int .i64) v4)], []⟩) [0, 7, 8, 9] [] (by kernel_rfl)) (WpC.skip ?_)
          refine thenQ_normal ?_
          refine WpC.seq ?_
          refine WpC.block ?_
          refine WpC.seq ?_
          obtain ⟨v9, hv9, h⟩ := bind_some h
          refine WpC.reg (st1 := ⟨[(0, .p .err a0), (3, .p (.int .i64) v4), (4, .p .err v9), (7, .p (.list .err) v3), (8, .p (.int .i64) ((v3.length : Int) : Int)), (9, .p (.int .i64) v4)], []⟩) [0, 3, 4, 7, 8, 9] [] hN (.cons (sok_move (rs := [(9, .p (.int .i64) v4)]) rfl (.inl rfl) (.tmp (.head _))) (.cons (sok_indexL (rs := [(7, .p (.list .err) v3), (9, .p (.int .i64) v4)]) rfl rfl sl_92 (.tmp (.head _)) (.tmp (.tail _ (.head _))) hv9) (.cons (sok_loadP (rs := [(12, .pp .err v9)]) rfl rfl ty_33 (.tmp (.head _))) (.cons (sok_move (rs := [(11, .p (.int .i64) v4)]) rfl (.inr rfl) (.tmp (.head _))) (.cons (sok_move (rs := [(13, .p .err v9)]) rfl (.inr rfl) (.tmp (.head _))) .nil))))) (by kernel_rfl) (by kernel_rfl) (by kernel_rfl) (Conv.refl _) ?_
          refine thenQ_normal ?_
          refine WpC.seq ?_
          obtain ⟨v10, hv10, h⟩ := bind_some h
          refine WpC.reg (st1 := ⟨[(0, .p .err a0), (3, .p (.int .i64) v4), (7, .p (.list .err) v3), (8, .p (.int .i64) ((v3.length : Int) : Int)), (9, .p (.int .i64) v4), (16, .p .bool v10)], []⟩) [0, 3, 7, 8, 9, 16] [] hN (.cons (sok_move (rs := [(0, .p .err a0)]) rfl (.inl rfl) (.tmp (.head _))) (.cons (sok_move (rs := [(4, .p .err v9)]) rfl (.inl rfl) (.tmp (.head _))) (.cons (sok_call (rs := [(14, .p .err a0), (15, .p .err v9)]) (vw := []) rfl rfl hb_64 (pIs.ok O hO k a0 v9 v10 hv10) (.cons (.tmp (.head _)) (.cons (.tmp (.tail _ (.head _))) .nil)) (.cons (.same _) (.cons (.same _) .nil)) (by simp) (.inl rfl)) .nil))) (by kernel_rfl) (by kernel_rfl) (by kernel_rfl) (Conv.refl _) ?_
          refine thenQ_normal ?_
          refine WpC.cond (b := v10) (.tmp (.tail _ (.tail _ (.tail _ (.tail _ (.tail _ (.head _))))))) (fun hc11 => ?_) (fun hc11 => ?_)
          · replace h := ite_t hc11 h
            refine WpC.seq ?_
            refine WpC.reg (st1 := ⟨[(2, .p (.int .i64) ((IntKind.i64.wrap (v4 + 1)) : Int))], []⟩) [2] [] hN (.cons (sok_move (rs := [(3, .p (.int .i64) v4)]) rfl (.inl rfl) (.tmp (.head _))) (.cons (sok_arith (rs := [(17, .p (.int .i64) v4)]) rfl rfl (.tmp (.head _)) (.int _ _ _) rfl) (.cons (sok_move (rs := [(18, .p (.int .i64) ((IntKind.i64.wrap (v4 + 1)) : Int))]) rfl (.inr rfl) (.tmp (.head _))) .nil))) (by kernel_rfl) (by kernel_rfl) (by kernel_rfl) (Conv.refl _) ?_
            refine thenQ_normal ?_
            refine WpC.ret ?_
            refine blockQ_ret ?_
            refine thenQ_ret ?_
            have hq := Option.some.inj h
            subst hq
            refine thenQ_ret ?_
            have h := hout7
            refine blockQ_ret ?_
            refine thenQ_ret ?_
            have hq := Option.some.inj h
            subst hq
            exact ends_ret (retV_1 rfl (.head _)) (by simp)
          · replace h := ite_f hc11 h
            refine WpC.conv (Conv.keep (b := ⟨[(0, .p .err a0), (7, .p (.list .err) v3), (8, .p (.int .i64) ((v3.length : Int) : Int)), (9, .p (.int .i64) v4)], []⟩) [0, 7, 8, 9] [] (by kernel_rfl)) (WpC.skip ?_)
            refine blockQ_normal ?_
            refine thenQ_normal ?_
            refine WpC.reg (st1 := ⟨[(0, .p .err a0), (7, .p (.list .err) v3), (8, .p (.int .i64) ((v3.length : Int) : Int)), (9, .p (.int .i64) ((IntKind.i64.wrap (v4 + 1)) : Int))], []⟩) [0, 7, 8, 9] [] hN (.cons (sok_arith (rs := [(9, .p (.int .i64) v4)]) rfl rfl (.tmp (.head _)) (.int _ _ _) rfl) (.cons (sok_move (rs := [(19, .p (.int .i64) ((IntKind.i64.wrap (v4 + 1)) : Int))]) rfl (.inl rfl) (.tmp (.head _))) .nil)) (by kernel_rfl) (by kernel_rfl) (by kernel_rfl) (Conv.refl _) ?_
            refine thenQ_normal ?_
            exact ⟨n, Nat.lt_succ_self n, (IntKind.i64.wrap (v4 + 1)), h, rfl⟩
        · replace h := ite_f hc8 h
          refine WpC.conv (Conv.keep (b := ⟨[], []⟩) [] [] (by kernel_rfl)) (WpC.exit ?_)
          refine thenQ_exit ?_
          have hq := Option.some.inj h
          subst hq
          refine thenQ_exit ?_
          have h := hout7
          refine blockQ_hit ?_
          refine thenQ_normal ?_
          exact ⟨h, rfl⟩
    · rintro _ ⟨h, rfl⟩
      unfold millwrightnum_Num.j2 at h
      refine WpC.seq ?_
      refine WpC.reg (st1 := ⟨[(2, .p (.int .i64) ((-1) : Int))], []⟩) [2] [] hN (.cons (sok_move (rs := []) rfl (.inr rfl) (.int _ _ _)) .nil) (by kernel_rfl) (by kernel_rfl) (by kernel_rfl) (Conv.refl _) ?_
      refine thenQ_normal ?_
      refine WpC.ret ?_
      have hq := Option.some.inj h
      subst hq
      exact ends_ret (retV_1 rfl (.head _)) (by simp)

theorem millwrightnum_SameTexts.ok (O : Out) (hO : GOkE O) (k : Nat) (a0 : List (List UInt8)) (a1 : List (List UInt8)) (out : Bool) (h : millwrightnum_SameTexts.f k a0 a1 = some out) : COk Un O Tryd.prog 27 { ar := [.p (.list .str) a0, .p (.list .str) a1], r := .p .bool out } := by
  refine cok_of_wp Tryd.func27 rfl (k := 26) rfl (Nat.le_of_ble_eq_true rfl) (namesOk_pure rfl rfl rfl rfl) ?_
  intro B hN
  refine WpC.conv (Conv.keep (b := ⟨[(0, .p (.list .str) a0), (1, .p (.list .str) a1)], []⟩) [0, 1] [] (by kernel_rfl)) ?_
  unfold millwrightnum_SameTexts.f at h
  refine WpC.seq ?_
  refine WpC.reg (st1 := ⟨[(0, .p (.list .str) a0), (1, .p (.list .str) a1)], []⟩) [0, 1] [] hN (.cons (sok_move (rs := []) rfl (.inr rfl) (.bool _ _)) .nil) (by kernel_rfl) (by kernel_rfl) (by kernel_rfl) (Conv.refl _) ?_
  refine thenQ_normal ?_
  refine WpC.seq ?_
  refine WpC.seq ?_
  refine WpC.reg (st1 := ⟨[(0, .p (.list .str) a0), (1, .p (.list .str) a1), (10, .p .bool (((a0.length : Int) != (a1.length : Int)) : Bool))], []⟩) [0, 1, 10] [] hN (.cons (sok_move (rs := [(0, .p (.list .str) a0)]) rfl (.inl rfl) (.tmp (.head _))) (.cons (sok_lenL (rs := [(6, .p (.list .str) a0)]) rfl rfl Tryd.underlying22 (.tmp (.head _))) (.cons (sok_move (rs := [(1, .p (.list .str) a1)]) rfl (.inl rfl) (.tmp (.head _))) (.cons (sok_lenL (rs := [(8, .p (.list .str) a1)]) rfl rfl Tryd.underlying22 (.tmp (.head _))) (.cons (sok_cmp (rs := [(7, .p (.int .i64) ((a0.length : Int) : Int)), (9, .p (.int .i64) ((a1.length : Int) : Int))]) rfl rfl (.tmp (.head _)) (.tmp (.tail _ (.head _))) rfl) .nil))))) (by kernel_rfl) (by kernel_rfl) (by kernel_rfl) (Conv.refl _) ?_
  refine thenQ_normal ?_
  refine WpC.cond (b := ((a0.length : Int) != (a1.length : Int))) (.tmp (.tail _ (.tail _ (.head _)))) (fun hc1 => ?_) (fun hc1 => ?_)
  · replace h := ite_t hc1 h
    refine WpC.seq ?_
    refine WpC.reg (st1 := ⟨[(4, .p .bool false)], []⟩) [4] [] hN (.cons (sok_move (rs := []) rfl (.inr rfl) (.bool _ _)) .nil) (by kernel_rfl) (by kernel_rfl) (by kernel_rfl) (Conv.refl _) ?_
    refine thenQ_normal ?_
    refine WpC.ret ?_
    refine thenQ_ret ?_
    have hq := Option.some.inj h
    subst hq
    exact ends_ret (retV_1 rfl (.head _)) (by simp)
  · replace h := ite_f hc1 h
    refine WpC.conv (Conv.keep (b := ⟨[(0, .p (.list .str) a0), (1, .p (.list .str) a1)], []⟩) [0, 1] [] (by kernel_rfl)) (WpC.skip ?_)
    refine thenQ_normal ?_
    refine WpC.seqJ (fun st' => millwrightnum_SameTexts.j2 k = some out ∧ st' = ⟨[], []⟩) ?_ ?_
    · refine WpC.seq ?_
      refine WpC.reg (st1 := ⟨[(0, .p (.list .str) a0), (1, .p (.list .str) a1), (12, .p (.int .i64) ((a0.length : Int) : Int)), (13, .p (.int .i64) (0 : Int))], []⟩) [0, 1, 12, 13] [] hN (.cons (sok_move (rs := [(0, .p (.list .str) a0)]) rfl (.inl rfl) (.tmp (.head _))) (.cons (sok_lenL (rs := [(11, .p (.list .str) a0)]) rfl rfl Tryd.underlying22 (.tmp (.head _))) (.cons (sok_move (rs := []) rfl (.inl rfl) (.int _ _ _)) .nil))) (by kernel_rfl) (by kernel_rfl) (by kernel_rfl) (Conv.refl _) ?_
      refine thenQ_normal ?_
      refine WpC.block ?_
      obtain ⟨o5, hlo5, h⟩ := bind_some h
      have hout6 := h
      clear h
      refine WpC.loop (fun n st' => ∃ v3 : Int, millwrightnum_SameTexts.l4 k a0 a1 n v3 = some o5 ∧ st' = ⟨[(0, .p (.list .str) a0), (1, .p (.list .str) a1), (12, .p (.int .i64) ((a0.length : Int) : Int)), (13, .p (.int .i64) v3)], []⟩) k ⟨0, hlo5, rfl⟩ ?_
      clear hlo5
      rintro (_ | n) _ ⟨v3, h, rfl⟩
      · cases h
      · rw [millwrightnum_SameTexts.l4] at h
        refine WpC.seq ?_
        refine WpC.reg (st1 := ⟨[(0, .p (.list .str) a0), (1, .p (.list .str) a1), (12, .p (.int .i64) ((a0.length : Int) : Int)), (13, .p (.int .i64) v3), (14, .p .bool ((decide (v3 < (a0.length : Int))) : Bool))], []⟩) [0, 1, 12, 13, 14] [] hN (.cons (sok_cmp (rs := [(13, .p (.int .i64) v3), (12, .p (.int .i64) ((a0.length : Int) : Int))]) rfl rfl (.tmp (.head _)) (.tmp (.tail _ (.head _))) rfl) .nil) (by kernel_rfl) (by kernel_rfl) (by kernel_rfl) (Conv.refl _) ?_
        refine thenQ_normal ?_
        refine WpC.seq ?_
        refine WpC.cond (b := (decide (v3 < (a0.length : Int)))) (.tmp (.tail _ (.tail _ (.tail _ (.tail _ (.head _)))))) (fun hc7 => ?_) (fun hc7 => ?_)
        · replace h := ite_t hc7 h
          refine WpC.conv (Conv.keep (b := ⟨[(0, .p (.list .str) a0), (1, .p (.list .str) a1), (12, .p (.int .i64) ((a0.length : Int) : Int)), (13, .p (.int .i64) v3)], []⟩) [0, 1, 12, 13] [] (by kernel_rfl)) (WpC.skip ?_)
          refine thenQ_normal ?_
          refine WpC.seq ?_
          refine WpC.block ?_
          refine WpC.seq ?_
          refine WpC.reg (st1 := ⟨[(0, .p (.list .str) a0), (1, .p (.list .str) a1), (5, .p (.int .i64) v3), (12, .p (.int .i64) ((a0.length : Int) : Int)), (13, .p (.int .i64) v3)], []⟩) [0, 1, 5, 12, 13] [] hN (.cons (sok_move (rs := [(13, .p (.int .i64) v3)]) rfl (.inl rfl) (.tmp (.head _))) (.cons (sok_move (rs := [(15, .p (.int .i64) v3)]) rfl (.inr rfl) (.tmp (.head _))) .nil)) (by kernel_rfl) (by kernel_rfl) (by kernel_rfl) (Conv.refl _) ?_
          refine thenQ_normal ?_
          refine WpC.seq ?_
          obtain ⟨v8, hv8, h⟩ := bind_some h
          obtain ⟨v9, hv9, h⟩ := bind_some h
          refine WpC.regA (st1 := ⟨[(0, .p (.list .str) a0), (1, .p (.list .str) a1), (12, .p (.int .i64) ((a0.length : Int) : Int)), (13, .p (.int .i64) v3), (24, .p .bool ((!(v8 == v9)) : Bool))], []⟩) [0, 1, 12, 13, 24] [] [[], [], [0, 1], [0, 1, 2], [], [], [4, 5], [4, 5, 6], [0, 1, 2, 3, 4, 5, 6, 7]] mixed hN (.cons (sok_move (rs := [(0, .p (.list .str) a0)]) rfl (.inl rfl) (.tmp (.head _))) (.cons (sok_move (rs := [(5, .p (.int .i64) v3)]) rfl (.inl rfl) (.tmp (.head _))) (.cons (sok_indexL (rs := [(16, .p (.list .str) a0), (17, .p (.int .i64) v3)]) rfl rfl sl_22 (.tmp (.head _)) (.tmp (.tail _ (.head _))) hv8) (.cons (sok_loadP (rs := [(18, .pp .str v8)]) rfl rfl ty_9 (.tmp (.head _))) (.cons (sok_move (rs := [(1, .p (.list .str) a1)]) rfl (.inl rfl) (.tmp (.head _))) (.cons (sok_move (rs := [(5, .p (.int .i64) v3)]) rfl (.inl rfl) (.tmp (.head _))) (.cons (sok_indexL (rs := [(20, .p (.list .str) a1), (21, .p (.int .i64) v3)]) rfl rfl sl_22 (.tmp (.head _)) (.tmp (.tail _ (.head _))) hv9) (.cons (sok_loadP (rs := [(22, .pp .str v9)]) rfl rfl ty_9 (.tmp (.head _))) (.cons (sok_cmpS (rs := [(19, .p .str v8), (23, .p .str v9)]) rfl rfl (.tmp (.head _)) (.tmp (.tail _ (.head _))) rfl) .nil))))))))) (by kernel_rfl) (by kernel_rfl) (by kernel_rfl) (by kernel_rfl) (by kernel_rfl) (Conv.refl _) ?_
          refine thenQ_normal ?_
          refine WpC.cond (b := (!(v8 == v9))) (.tmp (.tail _ (.tail _ (.tail _ (.tail _ (.head _)))))) (fun hc10 => ?_) (fun hc10 => ?_)
          · replace h := ite_t hc10 h
            refine WpC.seq ?_
            refine WpC.reg (st1 := ⟨[(4, .p .bool false)], []⟩) [4] [] hN (.cons (sok_move (rs := []) rfl (.inr rfl) (.bool _ _)) .nil) (by kernel_rfl) (by kernel_rfl) (by kernel_rfl) (Conv.refl _) ?_
            refine thenQ_normal ?_
            refine WpC.ret ?_
            refine blockQ_ret ?_
            refine thenQ_ret ?_
            have hq := Option.some.inj h
            subst hq
            refine thenQ_ret ?_
            have h := hout6
            refine blockQ_ret ?_
            refine thenQ_ret ?_
            have hq := Option.some.inj h
            subst hq
            exact ends_ret (retV_1 rfl (.head _)) (by simp)
          · replace h := ite_f hc10 h
            refine WpC.conv (Conv.keep (b := ⟨[(0, .p (.list .str) a0), (1, .p (.list .str) a1), (12, .p (.int .i64) ((a0.length : Int) : Int)), (13, .p (.int .i64) v3)], []⟩) [0, 1, 12, 13] [] (by kernel_rfl)) (WpC.skip ?_)
            refine blockQ_normal ?_
            refine thenQ_normal ?_
            refine WpC.reg (st1 := ⟨[(0, .p (.list .str) a0), (1, .p (.list .str) a1), (12, .p (.int .i64) ((a0.length : Int) : Int)), (13, .p (.int .i64) ((IntKind.i64.wrap (v3 + 1)) : Int))], []⟩) [0, 1, 12, 13] [] hN (.cons (sok_arith (rs := [(13, .p (.int .i64) v3)]) rfl rfl (.tmp (.head _)) (.int _ _ _) rfl) (.cons (sok_move (rs := [(25, .p (.int .i64) ((IntKind.i64.wrap (v3 + 1)) : Int))]) rfl (.inl rfl) (.tmp (.head _))) .nil)) (by kernel_rfl) (by kernel_rfl) (by kernel_rfl) (Conv.refl _) ?_
            refine thenQ_normal ?_
            exact ⟨n, Nat.lt_succ_self n, (IntKind.i64.wrap (v3 + 1)), h, rfl⟩
        · replace h := ite_f hc7 h
          refine WpC.conv (Conv.keep (b := ⟨[], []⟩) [] [] (by kernel_rfl)) (WpC.exit ?_)
          refine thenQ_exit ?_
          have hq := Option.some.inj h
          subst hq
          refine thenQ_exit ?_
          have h := hout6
          refine blockQ_hit ?_
          refine thenQ_normal ?_
          exact ⟨h, rfl⟩
    · rintro _ ⟨h, rfl⟩
      unfold millwrightnum_SameTexts.j2 at h
      refine WpC.seq ?_
      refine WpC.reg (st1 := ⟨[(4, .p .bool true)], []⟩) [4] [] hN (.cons (sok_move (rs := []) rfl (.inr rfl) (.bool _ _)) .nil) (by kernel_rfl) (by kernel_rfl) (by kernel_rfl) (Conv.refl _) ?_
      refine thenQ_normal ?_
      refine WpC.ret ?_
      have hq := Option.some.inj h
      subst hq
      exact ends_ret (retV_1 rfl (.head _)) (by simp)

end Go.Proofs.YtfeaegjlhpgdmaaDoor
