/- A part of the proof of a given law: QSC2. Own work, printed in part by a program of mine. -/
import Derived.Test.YtfeaegjlhpgdmaaDoorQSC1
namespace Go.Proofs.YtfeaegjlhpgdmaaDoor
open Go Go.AM
set_option linter.unusedVariables false
set_option maxRecDepth 100000
theorem quote_Fields.ok (O : Out) (hO : GOkE O) (k : Nat) (a0 : List UInt8) (out : List (List UInt8)) (h : quote_Fields.f k a0 = some out) : COk Un O Tryd.prog 28 { ar := [.p .str a0], r := .p (.list .str) out } := by
  refine cok_of_wp Tryd.func28 rfl (k := 39) rfl (Nat.le_of_ble_eq_true rfl) (namesOk_pure rfl rfl rfl rfl) ?_
  intro B hN
  refine WpC.conv (Conv.keep (b := ⟨[(0, .p .str a0)], []⟩) [0] [] (by kernel_rfl)) ?_
  unfold quote_Fields.f at h
  refine WpC.seq ?_
  refine WpC.reg (st1 := ⟨[(0, .p .str a0)], []⟩) [0] [] hN (.cons (sok_move (rs := []) rfl (.inr rfl) (.lit _ _ rfl)) .nil) (by kernel_rfl) (by kernel_rfl) (by kernel_rfl) (Conv.refl _) ?_
  refine thenQ_normal ?_
  refine WpC.seq ?_
  refine WpC.reg (st1 := ⟨[(0, .p .str a0), (3, .lit (.slice none 0 0))], []⟩) [0, 3] [] hN (.cons (sok_move (rs := []) rfl (.inr rfl) (.lit _ _ rfl)) .nil) (by kernel_rfl) (by kernel_rfl) (by kernel_rfl) (Conv.refl _) ?_
  refine thenQ_normal ?_
  refine WpC.seq ?_
  obtain ⟨v1, hv1, h⟩ := bind_some h
  refine WpC.reg (st1 := ⟨[(0, .p .str a0), (3, .lit (.slice none 0 0)), (4, .p (.int .i64) v1)], []⟩) [0, 3, 4] [] hN (.cons (sok_move (rs := [(0, .p .str a0)]) rfl (.inl rfl) (.tmp (.head _))) (.cons (sok_call (rs := [(6, .p .str a0)]) (vw := []) rfl rfl hb_61 (quote_skip.ok O hO k a0 0 v1 hv1) (.cons (.tmp (.head _)) (.cons (.int _ _ _) .nil)) (.cons (.same _) (.cons (.same _) .nil)) (by simp) (.inl rfl)) (.cons (sok_move (rs := [(7, .p (.int .i64) v1)]) rfl (.inr rfl) (.tmp (.head _))) .nil))) (by kernel_rfl) (by kernel_rfl) (by kernel_rfl) (Conv.refl _) ?_
  refine thenQ_normal ?_
  refine WpC.seqJ (fun st' => ∃ v2 : List (List UInt8), quote_Fields.j3 k v2 = some out ∧ st' = ⟨[(3, .vec 1003 1 0 v2.length)], [(1003, .row 9 .str v2 false)]⟩) ?_ ?_
  · refine WpC.seq ?_
    refine WpC.reg (st1 := ⟨[(0, .p .str a0), (3, .lit (.slice none 0 0)), (4, .p (.int .i64) v1), (5, .p (.int .i64) v1)], []⟩) [0, 3, 4, 5] [] hN (.cons (sok_move (rs := [(4, .p (.int .i64) v1)]) rfl (.inl rfl) (.tmp (.head _))) (.cons (sok_move (rs := [(8, .p (.int .i64) v1)]) rfl (.inr rfl) (.tmp (.head _))) .nil)) (by kernel_rfl) (by kernel_rfl) (by kernel_rfl) (Conv.refl _) ?_
    refine thenQ_normal ?_
    refine WpC.block ?_
    obtain ⟨o9, hlo9, h⟩ := bind_some h
    have hout10 := h
    clear h
    refine WpC.conv (Conv.trans (Conv.thaw 3 1003 9 .str (.tail _ (.head _)) (by kernel_rfl) (by unfold K0; omega)) (Conv.keep (b := ⟨[(0, .p .str a0), (3, .vec 1003 1 0 0), (4, .p (.int .i64) v1), (5, .p (.int .i64) v1)], [(1003, .row 9 .str [] false)]⟩) [0, 3, 4, 5] [1003] (by kernel_rfl))) ?_
    refine WpC.loop (fun n st' => ∃ v4 : List (List UInt8), ∃ v5 : Int, ∃ v6 : Int, quote_Fields.l7 k a0 n v4 v5 v6 = some o9 ∧ st' = ⟨[(0, .p .str a0), (3, .vec 1003 1 0 v4.length), (4, .p (.int .i64) v5), (5, .p (.int .i64) v6)], [(1003, .row 9 .str v4 false)]⟩) k ⟨[], v1, v1, hlo9, rfl⟩ ?_
    clear hlo9
    rintro (_ | n) _ ⟨v4, v5, v6, h, rfl⟩
    · cases h
    · rw [quote_Fields.l7] at h
      refine WpC.seq ?_
      refine WpC.seq ?_
      refine WpC.reg (st1 := ⟨[(0, .p .str a0), (3, .vec 1003 1 0 v4.length), (4, .p (.int .i64) v5), (5, .p (.int .i64) v6), (12, .p .bool ((decide (v6 ≤ (a0.length : Int))) : Bool))], [(1003, .row 9 .str v4 false)]⟩) [0, 3, 4, 5, 12] [1003] hN (.cons (sok_move (rs := [(5, .p (.int .i64) v6)]) rfl (.inl rfl) (.tmp (.head _))) (.cons (sok_move (rs := [(0, .p .str a0)]) rfl (.inl rfl) (.tmp (.head _))) (.cons (sok_lenS (rs := [(10, .p .str a0)]) rfl rfl Tryd.underlying9 (.tmp (.head _))) (.cons (sok_cmp (rs := [(9, .p (.int .i64) v6), (11, .p (.int .i64) ((a0.length : Int) : Int))]) rfl rfl (.tmp (.head _)) (.tmp (.tail _ (.head _))) rfl) .nil)))) (by kernel_rfl) (by kernel_rfl) (by kernel_rfl) (Conv.refl _) ?_
      refine thenQ_normal ?_
      refine WpC.cond (b := (decide (v6 ≤ (a0.length : Int)))) (.tmp (.tail _ (.tail _ (.tail _ (.tail _ (.head _)))))) (fun hc11 => ?_) (fun hc11 => ?_)
      · replace h := ite_t hc11 h
        refine WpC.conv (Conv.keep (b := ⟨[(0, .p .str a0), (3, .vec 1003 1 0 v4.length), (4, .p (.int .i64) v5), (5, .p (.int .i64) v6)], [(1003, .row 9 .str v4 false)]⟩) [0, 3, 4, 5] [1003] (by kernel_rfl)) (WpC.skip ?_)
        refine thenQ_normal ?_
        refine WpC.seqJ (fun st' => ∃ v12 : List (List UInt8), ∃ v13 : Int, quote_Fields.j14 k (quote_Fields.l7 k a0 n) a0 v6 v12 v13 = some o9 ∧ st' = ⟨[(0, .p .str a0), (3, .vec 1003 1 0 v12.length), (4, .p (.int .i64) v13), (5, .p (.int .i64) v6)], [(1003, .row 9 .str v12 false)]⟩) ?_ ?_
        · refine WpC.block ?_
          refine WpC.seqJ (fun st' => quote_Fields.j20 k (quote_Fields.l7 k a0 n) a0 v4 v5 v6 = some o9 ∧ st' = ⟨[(0, .p .str a0), (3, .vec 1003 1 0 v4.length), (4, .p (.int .i64) v5), (5, .p (.int .i64) v6)], [(1003, .row 9 .str v4 false)]⟩) ?_ ?_
          · refine WpC.seqJ (fun st' => ∃ v21 : Bool, quote_Fields.j23 k (quote_Fields.l7 k a0 n) a0 v4 v5 v6 v21 = some o9 ∧ st' = ⟨[(0, .p .str a0), (3, .vec 1003 1 0 v4.length), (4, .p (.int .i64) v5), (5, .p (.int .i64) v6), (25, .p .bool v21)], [(1003, .row 9 .str v4 false)]⟩) ?_ ?_
            · rcases bool_cases (decide (v6 < (a0.length : Int))) with hc24 | hc24
              · replace h := ite_t hc24 h
                obtain ⟨v25, hv25, h⟩ := bind_some h
                obtain ⟨v26, hv26, h⟩ := bind_some h
                refine WpC.reg (st1 := ⟨[(0, .p .str a0), (3, .vec 1003 1 0 v4.length), (4, .p (.int .i64) v5), (5, .p (.int .i64) v6), (25, .p .bool ((!v26) : Bool))], [(1003, .row 9 .str v4 false)]⟩) [0, 3, 4, 5, 25] [1003] hN (.cons (sok_move (rs := [(5, .p (.int .i64) v6)]) rfl (.inl rfl) (.tmp (.head _))) (.cons (sok_move (rs := [(0, .p .str a0)]) rfl (.inl rfl) (.tmp (.head _))) (.cons (sok_lenS (rs := [(16, .p .str a0)]) rfl rfl Tryd.underlying9 (.tmp (.head _))) (.cons (sok_cmp (rs := [(15, .p (.int .i64) v6), (17, .p (.int .i64) ((a0.length : Int) : Int))]) rfl rfl (.tmp (.head _)) (.tmp (.tail _ (.head _))) rfl) (.cons (sok_move (rs := [(18, .p .bool ((decide (v6 < (a0.length : Int))) : Bool))]) rfl (.inl rfl) (.tmp (.head _))) (.cons (sok_run rfl rfl hc24 (sok_move (rs := [(0, .p .str a0)]) rfl (.inl rfl) (.tmp (.head _)))) (.cons (sok_run rfl rfl hc24 (sok_move (rs := [(5, .p (.int .i64) v6)]) rfl (.inl rfl) (.tmp (.head _)))) (.cons (sok_run rfl rfl hc24 (sok_indexS (rs := [(20, .p .str a0), (21, .p (.int .i64) v6)]) rfl rfl Tryd.underlying9 (.tmp (.head _)) (.tmp (.tail _ (.head _))) hv25)) (.cons (sok_run rfl rfl hc24 (sok_call (rs := [(22, .p (.int .u8) ((v25.toNat : Int) : Int))]) (vw := []) rfl rfl hb_22 (quote_Blank.ok O hO k (v25.toNat : Int) v26 hv26) (.cons (.tmp (.head _)) .nil) (.cons (.same _) .nil) (by simp) (.inl rfl))) (.cons (sok_run rfl rfl hc24 (sok_not (rs := [(23, .p .bool v26)]) rfl rfl (.tmp (.head _)))) (.cons (sok_pickT (rs := [(19, .p .bool ((decide (v6 < (a0.length : Int))) : Bool)), (24, .p .bool ((!v26) : Bool))]) rfl rfl (.tmp (.head _)) hc24 (.tmp (.tail _ (.head _)))) .nil))))))))))) (by kernel_rfl) (by kernel_rfl) (by kernel_rfl) (Conv.refl _) ?_
                refine thenQ_normal ?_
                exact ⟨(!v26), h, rfl⟩
              · replace h := ite_f hc24 h
                refine WpC.reg (st1 := ⟨[(0, .p .str a0), (3, .vec 1003 1 0 v4.length), (4, .p (.int .i64) v5), (5, .p (.int .i64) v6), (25, .p .bool false)], [(1003, .row 9 .str v4 false)]⟩) [0, 3, 4, 5, 25] [1003] hN (.cons (sok_move (rs := [(5, .p (.int .i64) v6)]) rfl (.inl rfl) (.tmp (.head _))) (.cons (sok_move (rs := [(0, .p .str a0)]) rfl (.inl rfl) (.tmp (.head _))) (.cons (sok_lenS (rs := [(16, .p .str a0)]) rfl rfl Tryd.underlying9 (.tmp (.head _))) (.cons (sok_cmp (rs := [(15, .p (.int .i64) v6), (17, .p (.int .i64) ((a0.length : Int) : Int))]) rfl rfl (.tmp (.head _)) (.tmp (.tail _ (.head _))) rfl) (.cons (sok_move (rs := [(18, .p .bool ((decide (v6 < (a0.length : Int))) : Bool))]) rfl (.inl rfl) (.tmp (.head _))) (.cons (sok_skip rfl rfl hc24) (.cons (sok_skip rfl rfl hc24) (.cons (sok_skip rfl rfl hc24) (.cons (sok_skip rfl rfl hc24) (.cons (sok_skip rfl rfl hc24) (.cons (sok_pickF (rs := [(19, .p .bool ((decide (v6 < (a0.length : Int))) : Bool))]) rfl rfl (.tmp (.head _)) hc24 (.bool _ _)) .nil))))))))))) (by kernel_rfl) (by kernel_rfl) (by kernel_rfl) (Conv.refl _) ?_
                refine thenQ_normal ?_
                exact ⟨false, h, rfl⟩
            · rintro _ ⟨v21, h, rfl⟩
              unfold quote_Fields.j23 at h
              refine WpC.cond (b := v21) (.tmp (.tail _ (.tail _ (.tail _ (.tail _ (.head _)))))) (fun hc22 => ?_) (fun hc22 => ?_)
              · replace h := ite_t hc22 h
                refine WpC.conv (Conv.keep (b := ⟨[(0, .p .str a0), (3, .vec 1003 1 0 v4.length), (4, .p (.int .i64) v5), (5, .p (.int .i64) v6)], [(1003, .row 9 .str v4 false)]⟩) [0, 3, 4, 5] [1003] (by kernel_rfl)) (WpC.exit ?_)
                refine thenQ_exit ?_
                refine blockQ_hit ?_
                refine thenQ_normal ?_
                exact ⟨v4, v5, h, rfl⟩
              · replace h := ite_f hc22 h
                refine WpC.conv (Conv.keep (b := ⟨[(0, .p .str a0), (3, .vec 1003 1 0 v4.length), (4, .p (.int .i64) v5), (5, .p (.int .i64) v6)], [(1003, .row 9 .str v4 false)]⟩) [0, 3, 4, 5] [1003] (by kernel_rfl)) (WpC.skip ?_)
                refine thenQ_normal ?_
                exact ⟨h, rfl⟩
          · rintro _ ⟨h, rfl⟩
            unfold quote_Fields.j20 at h
            refine WpC.seqJ (fun st' => ∃ v15 : List (List UInt8), quote_Fields.j16 k (quote_Fields.l7 k a0 n) a0 v6 v15 = some o9 ∧ st' = ⟨[(0, .p .str a0), (3, .vec 1003 1 0 v15.length), (5, .p (.int .i64) v6)], [(1003, .row 9 .str v15 false)]⟩) ?_ ?_
            · refine WpC.seq ?_
              refine WpC.reg (st1 := ⟨[(0, .p .str a0), (3, .vec 1003 1 0 v4.length), (4, .p (.int .i64) v5), (5, .p (.int .i64) v6), (28, .p .bool ((decide (v6 > v5)) : Bool))], [(1003, .row 9 .str v4 false)]⟩) [0, 3, 4, 5, 28] [1003] hN (.cons (sok_move (rs := [(5, .p (.int .i64) v6)]) rfl (.inl rfl) (.tmp (.head _))) (.cons (sok_move (rs := [(4, .p (.int .i64) v5)]) rfl (.inl rfl) (.tmp (.head _))) (.cons (sok_cmp (rs := [(26, .p (.int .i64) v6), (27, .p (.int .i64) v5)]) rfl rfl (.tmp (.head _)) (.tmp (.tail _ (.head _))) rfl) .nil))) (by kernel_rfl) (by kernel_rfl) (by kernel_rfl) (Conv.refl _) ?_
              refine thenQ_normal ?_
              refine WpC.cond (b := (decide (v6 > v5))) (.tmp (.tail _ (.tail _ (.tail _ (.tail _ (.head _)))))) (fun hc17 => ?_) (fun hc17 => ?_)
              · replace h := ite_t hc17 h
                obtain ⟨v18, hv18, h⟩ := bind_some h
                obtain ⟨g19, h⟩ := if_some h
                refine WpC.reg (st1 := ⟨[(0, .p .str a0), (3, .vec 35 1 0 ((v4 ++ [v18]).length)), (5, .p (.int .i64) v6)], [(35, .row 9 .str (v4 ++ [v18]) false)]⟩) [0, 3, 5] [35] hN (.cons (sok_move (rs := [(3, .vec 1003 1 0 v4.length)]) rfl (.inl rfl) (.tmp (.head _))) (.cons (sok_move (rs := [(0, .p .str a0)]) rfl (.inl rfl) (.tmp (.head _))) (.cons (sok_move (rs := [(4, .p (.int .i64) v5)]) rfl (.inl rfl) (.tmp (.head _))) (.cons (sok_move (rs := [(5, .p (.int .i64) v6)]) rfl (.inl rfl) (.tmp (.head _))) (.cons (sok_sliceS (rs := [(30, .p .str a0), (31, .p (.int .i64) v5), (32, .p (.int .i64) v6)]) rfl rfl Tryd.underlying9 (.tmp (.head _)) (.at (.tmp (.tail _ (.head _)))) (.at (.tmp (.tail _ (.tail _ (.head _))))) hv18) (.cons (sok_buildSlice (U := Un) (t := .str) (rs := [(33, .p .str v18)]) (ys := [.tmp 33]) (xs := [v18]) rfl rfl rfl rfl row_22 (.cons (.tmp (.head _)) .nil) (by decide)) (.cons (sok_append' (U := Un) (t := .str) (rs := [(29, .vec 1003 1 0 v4.length), (34, .vec 34 1 0 ([v18].length))]) (vw := [(34, .row 9 .str [v18] true)]) (xs := v4) (ys := [v18]) (fx := false) rfl rfl rfl row_22 (by decide) (.tmp (.head _)) (.tmp (.tail _ (.head _))) (.whole (.head _)) (by simp) g19) (.cons (sok_move (rs := [(35, .vec 35 1 0 ((v4 ++ [v18]).length))]) rfl (.inr rfl) (.tmp (.head _))) .nil)))))))) (by kernel_rfl) (by kernel_rfl) (by kernel_rfl) (Conv.trans (Conv.ren (st' := ⟨[(0, .p .str a0), (3, .vec 1003 1 0 ((v4 ++ [v18]).length)), (5, .p (.int .i64) v6)], [(1003, .row 9 .str (v4 ++ [v18]) false)]⟩) 35 1003 (by unfold K0; omega) (by kernel_rfl) (by kernel_rfl) (by kernel_rfl)) (Conv.keep (b := ⟨[(0, .p .str a0), (3, .vec 1003 1 0 ((v4 ++ [v18]).length)), (5, .p (.int .i64) v6)], [(1003, .row 9 .str (v4 ++ [v18]) false)]⟩) [0, 3, 5] [1003] (by kernel_rfl))) ?_
                refine thenQ_normal ?_
                exact ⟨(v4 ++ [v18]), h, rfl⟩
              · replace h := ite_f hc17 h
                refine WpC.conv (Conv.keep (b := ⟨[(0, .p .str a0), (3, .vec 1003 1 0 v4.length), (5, .p (.int .i64) v6)], [(1003, .row 9 .str v4 false)]⟩) [0, 3, 5] [1003] (by kernel_rfl)) (WpC.skip ?_)
                refine thenQ_normal ?_
                exact ⟨v4, h, rfl⟩
            · rintro _ ⟨v15, h, rfl⟩
              unfold quote_Fields.j16 at h
              refine WpC.reg (st1 := ⟨[(0, .p .str a0), (3, .vec 1003 1 0 v15.length), (4, .p (.int .i64) ((IntKind.i64.wrap (v6 + 1)) : Int)), (5, .p (.int .i64) v6)], [(1003, .row 9 .str v15 false)]⟩) [0, 3, 4, 5] [1003] hN (.cons (sok_move (rs := [(5, .p (.int .i64) v6)]) rfl (.inl rfl) (.tmp (.head _))) (.cons (sok_arith (rs := [(36, .p (.int .i64) v6)]) rfl rfl (.tmp (.head _)) (.int _ _ _) rfl) (.cons (sok_move (rs := [(37, .p (.int .i64) ((IntKind.i64.wrap (v6 + 1)) : Int))]) rfl (.inr rfl) (.tmp (.head _))) .nil))) (by kernel_rfl) (by kernel_rfl) (by kernel_rfl) (Conv.refl _) ?_
              refine blockQ_normal ?_
              refine thenQ_normal ?_
              exact ⟨v15, (IntKind.i64.wrap (v6 + 1)), h, rfl⟩
        · rintro _ ⟨v12, v13, h, rfl⟩
          unfold quote_Fields.j14 at h
          refine WpC.reg (st1 := ⟨[(0, .p .str a0), (3, .vec 1003 1 0 v12.length), (4, .p (.int .i64) v13), (5, .p (.int .i64) ((IntKind.i64.wrap (v6 + 1)) : Int))], [(1003, .row 9 .str v12 false)]⟩) [0, 3, 4, 5] [1003] hN (.cons (sok_move (rs := [(5, .p (.int .i64) v6)]) rfl (.inl rfl) (.tmp (.head _))) (.cons (sok_arith (rs := [(13, .p (.int .i64) v6)]) rfl rfl (.tmp (.head _)) (.int _ _ _) rfl) (.cons (sok_move (rs := [(14, .p (.int .i64) ((IntKind.i64.wrap (v6 + 1)) : Int))]) rfl (.inr rfl) (.tmp (.head _))) .nil))) (by kernel_rfl) (by kernel_rfl) (by kernel_rfl) (Conv.refl _) ?_
          refine thenQ_normal ?_
          exact ⟨n, Nat.lt_succ_self n, v12, v13, (IntKind.i64.wrap (v6 + 1)), h, rfl⟩
      · replace h := ite_f hc11 h
        refine WpC.conv (Conv.keep (b := ⟨[(3, .vec 1003 1 0 v4.length)], [(1003, .row 9 .str v4 false)]⟩) [3] [1003] (by kernel_rfl)) (WpC.exit ?_)
        refine thenQ_exit ?_
        have hq := Option.some.inj h
        subst hq
        refine thenQ_exit ?_
        have h := hout10
        refine blockQ_hit ?_
        refine thenQ_normal ?_
        exact ⟨v4, h, rfl⟩
  · rintro _ ⟨v2, h, rfl⟩
    unfold quote_Fields.j3 at h
    refine WpC.seq ?_
    refine WpC.reg (st1 := ⟨[(2, .vec 1003 1 0 v2.length)], [(1003, .row 9 .str v2 false)]⟩) [2] [1003] hN (.cons (sok_move (rs := [(3, .vec 1003 1 0 v2.length)]) rfl (.inl rfl) (.tmp (.head _))) (.cons (sok_move (rs := [(38, .vec 1003 1 0 v2.length)]) rfl (.inr rfl) (.tmp (.head _))) .nil)) (by kernel_rfl) (by kernel_rfl) (by kernel_rfl) (Conv.refl _) ?_
    refine thenQ_normal ?_
    refine WpC.conv (Conv.trans (Conv.freeze 2 1003 9 _ .str v2 false (.head _) rfl (.head _) (by simp [Blk.names])) (Conv.keep (b := ⟨[(2, .p (.list .str) v2)], []⟩) [2] [] (by kernel_rfl))) (WpC.ret ?_)
    have hq := Option.some.inj h
    subst hq
    exact ends_ret (retV_1 rfl (.head _)) (by simp)

theorem millwrightref11_Fields.ok (O : Out) (hO : GOkE O) (k : Nat) (a0 : List UInt8) (out : List (List UInt8)) (h : millwrightref11_Fields.f k a0 = some out) : COk Un O Tryd.prog 29 { ar := [.p .str a0], r := .p (.list .str) out } := by
  refine cok_of_wp Tryd.func29 rfl (k := 39) rfl (Nat.le_of_ble_eq_true rfl) (namesOk_pure rfl rfl rfl rfl) ?_
  intro B hN
  refine WpC.conv (Conv.keep (b := ⟨[(0, .p .str a0)], []⟩) [0] [] (by kernel_rfl)) ?_
  unfold millwrightref11_Fields.f at h
  refine WpC.seq ?_
  refine WpC.reg (st1 := ⟨[(0, .p .str a0)], []⟩) [0] [] hN (.cons (sok_move (rs := []) rfl (.inr rfl) (.lit _ _ rfl)) .nil) (by kernel_rfl) (by kernel_rfl) (by kernel_rfl) (Conv.refl _) ?_
  refine thenQ_normal ?_
  refine WpC.seq ?_
  refine WpC.reg (st1 := ⟨[(0, .p .str a0), (3, .vec 6 1 0 (([] : List (List UInt8)).length))], [(6, .row 9 .str ([] : List (List UInt8)) true)]⟩) [0, 3] [6] hN (.cons (sok_buildSlice (U := Un) (t := .str) (rs := []) (ys := []) (xs := ([] : List (List UInt8))) rfl rfl rfl rfl row_22 .nil (by decide)) (.cons (sok_move (rs := [(6, .vec 6 1 0 (([] : List (List UInt8)).length))]) rfl (.inr rfl) (.tmp (.head _))) .nil)) (by kernel_rfl) (by kernel_rfl) (by kernel_rfl) (Conv.refl _) ?_
  refine thenQ_normal ?_
  refine WpC.seq ?_
  refine WpC.reg (st1 := ⟨[(0, .p .str a0), (3, .vec 6 1 0 (([] : List (List UInt8)).length)), (4, .p .str (([] : List UInt8) : List UInt8))], [(6, .row 9 .str ([] : List (List UInt8)) true)]⟩) [0, 3, 4] [6] hN (.cons (sok_move (rs := []) rfl (.inr rfl) (.str _ _)) .nil) (by kernel_rfl) (by kernel_rfl) (by kernel_rfl) (Conv.refl _) ?_
  refine thenQ_normal ?_
  refine WpC.seqJ (fun st' => ∃ v1 : List (List UInt8), millwrightref11_Fields.j2 k v1 = some out ∧ st' = ⟨[(3, .vec 1003 1 0 v1.length)], [(1003, .row 9 .str v1 false)]⟩) ?_ ?_
  · refine WpC.seq ?_
    refine WpC.reg (st1 := ⟨[(0, .p .str a0), (3, .vec 6 1 0 (([] : List (List UInt8)).length)), (4, .p .str (([] : List UInt8) : List UInt8)), (5, .p (.int .i64) (0 : Int))], [(6, .row 9 .str ([] : List (List UInt8)) true)]⟩) [0, 3, 4, 5] [6] hN (.cons (sok_move (rs := []) rfl (.inr rfl) (.int _ _ _)) .nil) (by kernel_rfl) (by kernel_rfl) (by kernel_rfl) (Conv.refl _) ?_
    refine thenQ_normal ?_
    refine WpC.block ?_
    obtain ⟨o8, hlo8, h⟩ := bind_some h
    have hout9 := h
    clear h
    refine WpC.conv (Conv.trans (Conv.loose 6 9 .str ([] : List (List UInt8)) (.head _)) (Conv.trans (Conv.keep (b := ⟨[(0, .p .str a0), (3, .vec 6 1 0 (([] : List (List UInt8)).length)), (4, .p .str (([] : List UInt8) : List UInt8)), (5, .p (.int .i64) (0 : Int))], [(6, .row 9 .str ([] : List (List UInt8)) false)]⟩) [0, 3, 4, 5] [6] (by kernel_rfl)) (Conv.trans (Conv.ren (st' := ⟨[(0, .p .str a0), (3, .vec 1003 1 0 (([] : List (List UInt8)).length)), (4, .p .str (([] : List UInt8) : List UInt8)), (5, .p (.int .i64) (0 : Int))], [(1003, .row 9 .str ([] : List (List UInt8)) false)]⟩) 6 1003 (by unfold K0; omega) (by kernel_rfl) (by kernel_rfl) (by kernel_rfl)) (Conv.keep (b := ⟨[(0, .p .str a0), (3, .vec 1003 1 0 (([] : List (List UInt8)).length)), (4, .p .str (([] : List UInt8) : List UInt8)), (5, .p (.int .i64) (0 : Int))], [(1003, .row 9 .str ([] : List (List UInt8)) false)]⟩) [0, 3, 4, 5] [1003] (by kernel_rfl))))) ?_
    refine WpC.loop (fun n st' => ∃ v3 : List (List UInt8), ∃ v4 : List UInt8, ∃ v5 : Int, millwrightref11_Fields.l6 k a0 n v3 v4 v5 = some o8 ∧ st' = ⟨[(0, .p .str a0), (3, .vec 1003 1 0 v3.length), (4, .p .str v4), (5, .p (.int .i64) v5)], [(1003, .row 9 .str v3 false)]⟩) k ⟨([] : List (List UInt8)), ([] : List UInt8), 0, hlo8, rfl⟩ ?_
    clear hlo8
    rintro (_ | n) _ ⟨v3, v4, v5, h, rfl⟩
    · cases h
    · rw [millwrightref11_Fields.l6] at h
      refine WpC.seq ?_
      refine WpC.seq ?_
      refine WpC.reg (st1 := ⟨[(0, .p .str a0), (3, .vec 1003 1 0 v3.length), (4, .p .str v4), (5, .p (.int .i64) v5), (10, .p .bool ((decide (v5 ≤ (a0.length : Int))) : Bool))], [(1003, .row 9 .str v3 false)]⟩) [0, 3, 4, 5, 10] [1003] hN (.cons (sok_move (rs := [(5, .p (.int .i64) v5)]) rfl (.inl rfl) (.tmp (.head _))) (.cons (sok_move (rs := [(0, .p .str a0)]) rfl (.inl rfl) (.tmp (.head _))) (.cons (sok_lenS (rs := [(8, .p .str a0)]) rfl rfl Tryd.underlying9 (.tmp (.head _))) (.cons (sok_cmp (rs := [(7, .p (.int .i64) v5), (9, .p (.int .i64) ((a0.length : Int) : Int))]) rfl rfl (.tmp (.head _)) (.tmp (.tail _ (.head _))) rfl) .nil)))) (by kernel_rfl) (by kernel_rfl) (by kernel_rfl) (Conv.refl _) ?_
      refine thenQ_normal ?_
      refine WpC.cond (b := (decide (v5 ≤ (a0.length : Int)))) (.tmp (.tail _ (.tail _ (.tail _ (.tail _ (.head _)))))) (fun hc10 => ?_) (fun hc10 => ?_)
      · replace h := ite_t hc10 h
        refine WpC.conv (Conv.keep (b := ⟨[(0, .p .str a0), (3, .vec 1003 1 0 v3.length), (4, .p .str v4), (5, .p (.int .i64) v5)], [(1003, .row 9 .str v3 false)]⟩) [0, 3, 4, 5] [1003] (by kernel_rfl)) (WpC.skip ?_)
        refine thenQ_normal ?_
        refine WpC.seqJ (fun st' => ∃ v11 : List (List UInt8), ∃ v12 : List UInt8, millwrightref11_Fields.j13 k (millwrightref11_Fields.l6 k a0 n) a0 v5 v11 v12 = some o8 ∧ st' = ⟨[(0, .p .str a0), (3, .vec 1003 1 0 v11.length), (4, .p .str v12), (5, .p (.int .i64) v5)], [(1003, .row 9 .str v11 false)]⟩) ?_ ?_
        · refine WpC.block ?_
          refine WpC.seqJ (fun st' => millwrightref11_Fields.j18 k (millwrightref11_Fields.l6 k a0 n) a0 v3 v4 v5 = some o8 ∧ st' = ⟨[(0, .p .str a0), (3, .vec 1003 1 0 v3.length), (4, .p .str v4), (5, .p (.int .i64) v5)], [(1003, .row 9 .str v3 false)]⟩) ?_ ?_
          · refine WpC.seqJ (fun st' => ∃ v19 : Bool, millwrightref11_Fields.j23 k (millwrightref11_Fields.l6 k a0 n) a0 v3 v4 v5 v19 = some o8 ∧ st' = ⟨[(0, .p .str a0), (3, .vec 1003 1 0 v3.length), (4, .p .str v4), (5, .p (.int .i64) v5), (23, .p .bool v19)], [(1003, .row 9 .str v3 false)]⟩) ?_ ?_
            · rcases bool_cases (decide (v5 < (a0.length : Int))) with hc24 | hc24
              · replace h := ite_t hc24 h
                obtain ⟨v25, hv25, h⟩ := bind_some h
                obtain ⟨v26, hv26, h⟩ := bind_some h
                refine WpC.reg (st1 := ⟨[(0, .p .str a0), (3, .vec 1003 1 0 v3.length), (4, .p .str v4), (5, .p (.int .i64) v5), (23, .p .bool ((!v26) : Bool))], [(1003, .row 9 .str v3 false)]⟩) [0, 3, 4, 5, 23] [1003] hN (.cons (sok_move (rs := [(5, .p (.int .i64) v5)]) rfl (.inl rfl) (.tmp (.head _))) (.cons (sok_move (rs := [(0, .p .str a0)]) rfl (.inl rfl) (.tmp (.head _))) (.cons (sok_lenS (rs := [(14, .p .str a0)]) rfl rfl Tryd.underlying9 (.tmp (.head _))) (.cons (sok_cmp (rs := [(13, .p (.int .i64) v5), (15, .p (.int .i64) ((a0.length : Int) : Int))]) rfl rfl (.tmp (.head _)) (.tmp (.tail _ (.head _))) rfl) (.cons (sok_move (rs := [(16, .p .bool ((decide (v5 < (a0.length : Int))) : Bool))]) rfl (.inl rfl) (.tmp (.head _))) (.cons (sok_run rfl rfl hc24 (sok_move (rs := [(0, .p .str a0)]) rfl (.inl rfl) (.tmp (.head _)))) (.cons (sok_run rfl rfl hc24 (sok_move (rs := [(5, .p (.int .i64) v5)]) rfl (.inl rfl) (.tmp (.head _)))) (.cons (sok_run rfl rfl hc24 (sok_indexS (rs := [(18, .p .str a0), (19, .p (.int .i64) v5)]) rfl rfl Tryd.underlying9 (.tmp (.head _)) (.tmp (.tail _ (.head _))) hv25)) (.cons (sok_run rfl rfl hc24 (sok_call (rs := [(20, .p (.int .u8) ((v25.toNat : Int) : Int))]) (vw := []) rfl rfl hb_23 (millwrightref11_Blank.ok O hO k (v25.toNat : Int) v26 hv26) (.cons (.tmp (.head _)) .nil) (.cons (.same _) .nil) (by simp) (.inl rfl))) (.cons (sok_run rfl rfl hc24 (sok_not (rs := [(21, .p .bool v26)]) rfl rfl (.tmp (.head _)))) (.cons (sok_pickT (rs := [(17, .p .bool ((decide (v5 < (a0.length : Int))) : Bool)), (22, .p .bool ((!v26) : Bool))]) rfl rfl (.tmp (.head _)) hc24 (.tmp (.tail _ (.head _)))) .nil))))))))))) (by kernel_rfl) (by kernel_rfl) (by kernel_rfl) (Conv.refl _) ?_
                refine thenQ_normal ?_
                exact ⟨(!v26), h, rfl⟩
              · replace h := ite_f hc24 h
                refine WpC.reg (st1 := ⟨[(0, .p .str a0), (3, .vec 1003 1 0 v3.length), (4, .p .str v4), (5, .p (.int .i64) v5), (23, .p .bool false)], [(1003, .row 9 .str v3 false)]⟩) [0, 3, 4, 5, 23] [1003] hN (.cons (sok_move (rs := [(5, .p (.int .i64) v5)]) rfl (.inl rfl) (.tmp (.head _))) (.cons (sok_move (rs := [(0, .p .str a0)]) rfl (.inl rfl) (.tmp (.head _))) (.cons (sok_lenS (rs := [(14, .p .str a0)]) rfl rfl Tryd.underlying9 (.tmp (.head _))) (.cons (sok_cmp (rs := [(13, .p (.int .i64) v5), (15, .p (.int .i64) ((a0.length : Int) : Int))]) rfl rfl (.tmp (.head _)) (.tmp (.tail _ (.head _))) rfl) (.cons (sok_move (rs := [(16, .p .bool ((decide (v5 < (a0.length : Int))) : Bool))]) rfl (.inl rfl) (.tmp (.head _))) (.cons (sok_skip rfl rfl hc24) (.cons (sok_skip rfl rfl hc24) (.cons (sok_skip rfl rfl hc24) (.cons (sok_skip rfl rfl hc24) (.cons (sok_skip rfl rfl hc24) (.cons (sok_pickF (rs := [(17, .p .bool ((decide (v5 < (a0.length : Int))) : Bool))]) rfl rfl (.tmp (.head _)) hc24 (.bool _ _)) .nil))))))))))) (by kernel_rfl) (by kernel_rfl) (by kernel_rfl) (Conv.refl _) ?_
                refine thenQ_normal ?_
                exact ⟨false, h, rfl⟩
            · rintro _ ⟨v19, h, rfl⟩
              unfold millwrightref11_Fields.j23 at h
              refine WpC.cond (b := v19) (.tmp (.tail _ (.tail _ (.tail _ (.tail _ (.head _)))))) (fun hc20 => ?_) (fun hc20 => ?_)
              · replace h := ite_t hc20 h
                refine WpC.seq ?_
                obtain ⟨v21, hv21, h⟩ := bind_some h
                obtain ⟨g22, h⟩ := if_some h
                refine WpC.reg (st1 := ⟨[(0, .p .str a0), (3, .vec 1003 1 0 v3.length), (4, .p .str ((v4 ++ v21) : List UInt8)), (5, .p (.int .i64) v5)], [(1003, .row 9 .str v3 false)]⟩) [0, 3, 4, 5] [1003] hN (.cons (sok_move (rs := [(4, .p .str v4)]) rfl (.inl rfl) (.tmp (.head _))) (.cons (sok_move (rs := [(0, .p .str a0)]) rfl (.inl rfl) (.tmp (.head _))) (.cons (sok_move (rs := [(5, .p (.int .i64) v5)]) rfl (.inl rfl) (.tmp (.head _))) (.cons (sok_move (rs := [(5, .p (.int .i64) v5)]) rfl (.inl rfl) (.tmp (.head _))) (.cons (sok_arith (rs := [(27, .p (.int .i64) v5)]) rfl rfl (.tmp (.head _)) (.int _ _ _) rfl) (.cons (sok_sliceS (rs := [(25, .p .str a0), (26, .p (.int .i64) v5), (28, .p (.int .i64) ((IntKind.i64.wrap (v5 + 1)) : Int))]) rfl rfl Tryd.underlying9 (.tmp (.head _)) (.at (.tmp (.tail _ (.head _)))) (.at (.tmp (.tail _ (.tail _ (.head _))))) hv21) (.cons (sok_cat (rs := [(24, .p .str v4), (29, .p .str v21)]) rfl rfl (.tmp (.head _)) (.tmp (.tail _ (.head _))) g22) (.cons (sok_move (rs := [(30, .p .str ((v4 ++ v21) : List UInt8))]) rfl (.inr rfl) (.tmp (.head _))) .nil)))))))) (by kernel_rfl) (by kernel_rfl) (by kernel_rfl) (Conv.refl _) ?_
                refine thenQ_normal ?_
                refine WpC.exit ?_
                refine thenQ_exit ?_
                refine blockQ_hit ?_
                refine thenQ_normal ?_
                exact ⟨v3, (v4 ++ v21), h, rfl⟩
              · replace h := ite_f hc20 h
                refine WpC.conv (Conv.keep (b := ⟨[(0, .p .str a0), (3, .vec 1003 1 0 v3.length), (4, .p .str v4), (5, .p (.int .i64) v5)], [(1003, .row 9 .str v3 false)]⟩) [0, 3, 4, 5] [1003] (by kernel_rfl)) (WpC.skip ?_)
                refine thenQ_normal ?_
                exact ⟨h, rfl⟩
          · rintro _ ⟨h, rfl⟩
            unfold millwrightref11_Fields.j18 at h
            refine WpC.seqJ (fun st' => ∃ v14 : List (List UInt8), millwrightref11_Fields.j15 k (millwrightref11_Fields.l6 k a0 n) a0 v5 v14 = some o8 ∧ st' = ⟨[(0, .p .str a0), (3, .vec 1003 1 0 v14.length), (5, .p (.int .i64) v5)], [(1003, .row 9 .str v14 false)]⟩) ?_ ?_
            · refine WpC.seq ?_
              refine WpC.reg (st1 := ⟨[(0, .p .str a0), (3, .vec 1003 1 0 v3.length), (4, .p .str v4), (5, .p (.int .i64) v5), (33, .p .bool ((decide ((v4.length : Int) > 0)) : Bool))], [(1003, .row 9 .str v3 false)]⟩) [0, 3, 4, 5, 33] [1003] hN (.cons (sok_move (rs := [(4, .p .str v4)]) rfl (.inl rfl) (.tmp (.head _))) (.cons (sok_lenS (rs := [(31, .p .str v4)]) rfl rfl Tryd.underlying9 (.tmp (.head _))) (.cons (sok_cmp (rs := [(32, .p (.int .i64) ((v4.length : Int) : Int))]) rfl rfl (.tmp (.head _)) (.int _ _ _) rfl) .nil))) (by kernel_rfl) (by kernel_rfl) (by kernel_rfl) (Conv.refl _) ?_
              refine thenQ_normal ?_
              refine WpC.cond (b := (decide ((v4.length : Int) > 0))) (.tmp (.tail _ (.tail _ (.tail _ (.tail _ (.head _)))))) (fun hc16 => ?_) (fun hc16 => ?_)
              · replace h := ite_t hc16 h
                obtain ⟨g17, h⟩ := if_some h
                refine WpC.reg (st1 := ⟨[(0, .p .str a0), (3, .vec 37 1 0 ((v3 ++ [v4]).length)), (5, .p (.int .i64) v5)], [(37, .row 9 .str (v3 ++ [v4]) false)]⟩) [0, 3, 5] [37] hN (.cons (sok_move (rs := [(3, .vec 1003 1 0 v3.length)]) rfl (.inl rfl) (.tmp (.head _))) (.cons (sok_move (rs := [(4, .p .str v4)]) rfl (.inl rfl) (.tmp (.head _))) (.cons (sok_buildSlice (U := Un) (t := .str) (rs := [(35, .p .str v4)]) (ys := [.tmp 35]) (xs := [v4]) rfl rfl rfl rfl row_22 (.cons (.tmp (.head _)) .nil) (by decide)) (.cons (sok_append' (U := Un) (t := .str) (rs := [(34, .vec 1003 1 0 v3.length), (36, .vec 36 1 0 ([v4].length))]) (vw := [(36, .row 9 .str [v4] true)]) (xs := v3) (ys := [v4]) (fx := false) rfl rfl rfl row_22 (by decide) (.tmp (.head _)) (.tmp (.tail _ (.head _))) (.whole (.head _)) (by simp) g17) (.cons (sok_move (rs := [(37, .vec 37 1 0 ((v3 ++ [v4]).length))]) rfl (.inr rfl) (.tmp (.head _))) .nil))))) (by kernel_rfl) (by kernel_rfl) (by kernel_rfl) (Conv.trans (Conv.ren (st' := ⟨[(0, .p .str a0), (3, .vec 1003 1 0 ((v3 ++ [v4]).length)), (5, .p (.int .i64) v5)], [(1003, .row 9 .str (v3 ++ [v4]) false)]⟩) 37 1003 (by unfold K0; omega) (by kernel_rfl) (by kernel_rfl) (by kernel_rfl)) (Conv.keep (b := ⟨[(0, .p .str a0), (3, .vec 1003 1 0 ((v3 ++ [v4]).length)), (5, .p (.int .i64) v5)], [(1003, .row 9 .str (v3 ++ [v4]) false)]⟩) [0, 3, 5] [1003] (by kernel_rfl))) ?_
                refine thenQ_normal ?_
                exact ⟨(v3 ++ [v4]), h, rfl⟩
              · replace h := ite_f hc16 h
                refine WpC.conv (Conv.keep (b := ⟨[(0, .p .str a0), (3, .vec 1003 1 0 v3.length), (5, .p (.int .i64) v5)], [(1003, .row 9 .str v3 false)]⟩) [0, 3, 5] [1003] (by kernel_rfl)) (WpC.skip ?_)
                refine thenQ_normal ?_
                exact ⟨v3, h, rfl⟩
            · rintro _ ⟨v14, h, rfl⟩
              unfold millwrightref11_Fields.j15 at h
              refine WpC.reg (st1 := ⟨[(0, .p .str a0), (3, .vec 1003 1 0 v14.length), (4, .p .str (([] : List UInt8) : List UInt8)), (5, .p (.int .i64) v5)], [(1003, .row 9 .str v14 false)]⟩) [0, 3, 4, 5] [1003] hN (.cons (sok_move (rs := []) rfl (.inr rfl) (.str _ _)) .nil) (by kernel_rfl) (by kernel_rfl) (by kernel_rfl) (Conv.refl _) ?_
              refine blockQ_normal ?_
              refine thenQ_normal ?_
              exact ⟨v14, ([] : List UInt8), h, rfl⟩
        · rintro _ ⟨v11, v12, h, rfl⟩
          unfold millwrightref11_Fields.j13 at h
          refine WpC.reg (st1 := ⟨[(0, .p .str a0), (3, .vec 1003 1 0 v11.length), (4, .p .str v12), (5, .p (.int .i64) ((IntKind.i64.wrap (v5 + 1)) : Int))], [(1003, .row 9 .str v11 false)]⟩) [0, 3, 4, 5] [1003] hN (.cons (sok_move (rs := [(5, .p (.int .i64) v5)]) rfl (.inl rfl) (.tmp (.head _))) (.cons (sok_arith (rs := [(11, .p (.int .i64) v5)]) rfl rfl (.tmp (.head _)) (.int _ _ _) rfl) (.cons (sok_move (rs := [(12, .p (.int .i64) ((IntKind.i64.wrap (v5 + 1)) : Int))]) rfl (.inr rfl) (.tmp (.head _))) .nil))) (by kernel_rfl) (by kernel_rfl) (by kernel_rfl) (Conv.refl _) ?_
          refine thenQ_normal ?_
          exact ⟨n, Nat.lt_succ_self n, v11, v12, (IntKind.i64.wrap (v5 + 1)), h, rfl⟩
      · replace h := ite_f hc10 h
        refine WpC.conv (Conv.keep (b := ⟨[(3, .vec 1003 1 0 v3.length)], [(1003, .row 9 .str v3 false)]⟩) [3] [1003] (by kernel_rfl)) (WpC.exit ?_)
        refine thenQ_exit ?_
        have hq := Option.some.inj h
        subst hq
        refine thenQ_exit ?_
        have h := hout9
        refine blockQ_hit ?_
        refine thenQ_normal ?_
        exact ⟨v3, h, rfl⟩
  · rintro _ ⟨v1, h, rfl⟩
    unfold millwrightref11_Fields.j2 at h
    refine WpC.seq ?_
    refine WpC.reg (st1 := ⟨[(2, .vec 1003 1 0 v1.length)], [(1003, .row 9 .str v1 false)]⟩) [2] [1003] hN (.cons (sok_move (rs := [(3, .vec 1003 1 0 v1.length)]) rfl (.inl rfl) (.tmp (.head _))) (.cons (sok_move (rs := [(38, .vec 1003 1 0 v1.length)]) rfl (.inr rfl) (.tmp (.head _))) .nil)) (by kernel_rfl) (by kernel_rfl) (by kernel_rfl) (Conv.refl _) ?_
    refine thenQ_normal ?_
    refine WpC.conv (Conv.trans (Conv.freeze 2 1003 9 _ .str v1 false (.head _) rfl (.head _) (by simp [Blk.names])) (Conv.keep (b := ⟨[(2, .p (.list .str) v1)], []⟩) [2] [] (by kernel_rfl))) (WpC.ret ?_)
    have hq := Option.some.inj h
    subst hq
    exact ends_ret (retV_1 rfl (.head _)) (by simp)

theorem millwrightref11_End.ok (O : Out) (hO : GOkE O) (k : Nat) (a0 : List UInt8) (a1 : Int) (out : Int) (h : millwrightref11_End.f k a0 a1 = some out) : COk Un O Tryd.prog 31 { ar := [.p .str a0, .p (.int .i64) a1], r := .p (.int .i64) out } := by
  refine cok_of_wp Tryd.func31 rfl (k := 54) rfl (Nat.le_of_ble_eq_true rfl) (namesOk_pure rfl rfl rfl rfl) ?_
  intro B hN
  refine WpC.conv (Conv.keep (b := ⟨[(0, .p .str a0), (1, .p (.int .i64) a1)], []⟩) [0, 1] [] (by kernel_rfl)) ?_
  unfold millwrightref11_End.f at h
  refine WpC.seq ?_
  refine WpC.reg (st1 := ⟨[(0, .p .str a0), (1, .p (.int .i64) a1)], []⟩) [0, 1] [] hN (.cons (sok_move (rs := []) rfl (.inr rfl) (.int _ _ _)) .nil) (by kernel_rfl) (by kernel_rfl) (by kernel_rfl) (Conv.refl _) ?_
  refine thenQ_normal ?_
  refine WpC.seqJ (fun st' => millwrightref11_End.j21 k a0 a1 = some out ∧ st' = ⟨[(0, .p .str a0), (1, .p (.int .i64) a1)], []⟩) ?_ ?_
  · refine WpC.seqJ (fun st' => ∃ v22 : Bool, millwrightref11_End.j24 k a0 a1 v22 = some out ∧ st' = ⟨[(0, .p .str a0), (1, .p (.int .i64) a1), (19, .p .bool v22)], []⟩) ?_ ?_
    · rcases bool_cases (decide (a1 < 0)) with hc25 | hc25
      · replace h := ite_t hc25 h
        refine WpC.reg (st1 := ⟨[(0, .p .str a0), (1, .p (.int .i64) a1), (19, .p .bool true)], []⟩) [0, 1, 19] [] hN (.cons (sok_move (rs := [(1, .p (.int .i64) a1)]) rfl (.inl rfl) (.tmp (.head _))) (.cons (sok_cmp (rs := [(6, .p (.int .i64) a1)]) rfl rfl (.tmp (.head _)) (.int _ _ _) rfl) (.cons (sok_move (rs := [(7, .p .bool ((decide (a1 < 0)) : Bool))]) rfl (.inl rfl) (.tmp (.head _))) (.cons (sok_skip rfl rfl hc25) (.cons (sok_skip rfl rfl hc25) (.cons (sok_skip rfl rfl hc25) (.cons (sok_skip rfl rfl hc25) (.cons (sok_pickT (rs := [(8, .p .bool ((decide (a1 < 0)) : Bool))]) rfl rfl (.tmp (.head _)) hc25 (.bool _ _)) (.cons (sok_move (rs := [(13, .p .bool true)]) rfl (.inl rfl) (.tmp (.head _))) (.cons (sok_skip rfl rfl rfl) (.cons (sok_skip rfl rfl rfl) (.cons (sok_skip rfl rfl rfl) (.cons (sok_skip rfl rfl rfl) (.cons (sok_pickT (rs := [(14, .p .bool true)]) rfl rfl (.tmp (.head _)) rfl (.bool _ _)) .nil)))))))))))))) (by kernel_rfl) (by kernel_rfl) (by kernel_rfl) (Conv.refl _) ?_
        refine thenQ_normal ?_
        exact ⟨true, h, rfl⟩
      · replace h := ite_f hc25 h
        rcases bool_cases (decide (a1 ≥ (a0.length : Int))) with hc26 | hc26
        · replace h := ite_t hc26 h
          refine WpC.reg (st1 := ⟨[(0, .p .str a0), (1, .p (.int .i64) a1), (19, .p .bool true)], []⟩) [0, 1, 19] [] hN (.cons (sok_move (rs := [(1, .p (.int .i64) a1)]) rfl (.inl rfl) (.tmp (.head _))) (.cons (sok_cmp (rs := [(6, .p (.int .i64) a1)]) rfl rfl (.tmp (.head _)) (.int _ _ _) rfl) (.cons (sok_move (rs := [(7, .p .bool ((decide (a1 < 0)) : Bool))]) rfl (.inl rfl) (.tmp (.head _))) (.cons (sok_run rfl rfl hc25 (sok_move (rs := [(1, .p (.int .i64) a1)]) rfl (.inl rfl) (.tmp (.head _)))) (.cons (sok_run rfl rfl hc25 (sok_move (rs := [(0, .p .str a0)]) rfl (.inl rfl) (.tmp (.head _)))) (.cons (sok_run rfl rfl hc25 (sok_lenS (rs := [(10, .p .str a0)]) rfl rfl Tryd.underlying9 (.tmp (.head _)))) (.cons (sok_run rfl rfl hc25 (sok_cmp (rs := [(9, .p (.int .i64) a1), (11, .p (.int .i64) ((a0.length : Int) : Int))]) rfl rfl (.tmp (.head _)) (.tmp (.tail _ (.head _))) rfl)) (.cons (sok_pickF (rs := [(8, .p .bool ((decide (a1 < 0)) : Bool)), (12, .p .bool ((decide (a1 ≥ (a0.length : Int))) : Bool))]) rfl rfl (.tmp (.head _)) hc25 (.tmp (.tail _ (.head _)))) (.cons (sok_move (rs := [(13, .p .bool ((decide (a1 ≥ (a0.length : Int))) : Bool))]) rfl (.inl rfl) (.tmp (.head _))) (.cons (sok_skip rfl rfl hc26) (.cons (sok_skip rfl rfl hc26) (.cons (sok_skip rfl rfl hc26) (.cons (sok_skip rfl rfl hc26) (.cons (sok_pickT (rs := [(14, .p .bool ((decide (a1 ≥ (a0.length : Int))) : Bool))]) rfl rfl (.tmp (.head _)) hc26 (.bool _ _)) .nil)))))))))))))) (by kernel_rfl) (by kernel_rfl) (by kernel_rfl) (Conv.refl _) ?_
          refine thenQ_normal ?_
          exact ⟨true, h, rfl⟩
        · replace h := ite_f hc26 h
          obtain ⟨v27, hv27, h⟩ := bind_some h
          refine WpC.reg (st1 := ⟨[(0, .p .str a0), (1, .p (.int .i64) a1), (19, .p .bool (((v27.toNat : Int) != 39) : Bool))], []⟩) [0, 1, 19] [] hN (.cons (sok_move (rs := [(1, .p (.int .i64) a1)]) rfl (.inl rfl) (.tmp (.head _))) (.cons (sok_cmp (rs := [(6, .p (.int .i64) a1)]) rfl rfl (.tmp (.head _)) (.int _ _ _) rfl) (.cons (sok_move (rs := [(7, .p .bool ((decide (a1 < 0)) : Bool))]) rfl (.inl rfl) (.tmp (.head _))) (.cons (sok_run rfl rfl hc25 (sok_move (rs := [(1, .p (.int .i64) a1)]) rfl (.inl rfl) (.tmp (.head _)))) (.cons (sok_run rfl rfl hc25 (sok_move (rs := [(0, .p .str a0)]) rfl (.inl rfl) (.tmp (.head _)))) (.cons (sok_run rfl rfl hc25 (sok_lenS (rs := [(10, .p .str a0)]) rfl rfl Tryd.underlying9 (.tmp (.head _)))) (.cons (sok_run rfl rfl hc25 (sok_cmp (rs := [(9, .p (.int .i64) a1), (11, .p (.int .i64) ((a0.length : Int) : Int))]) rfl rfl (.tmp (.head _)) (.tmp (.tail _ (.head _))) rfl)) (.cons (sok_pickF (rs := [(8, .p .bool ((decide (a1 < 0)) : Bool)), (12, .p .bool ((decide (a1 ≥ (a0.length : Int))) : Bool))]) rfl rfl (.tmp (.head _)) hc25 (.tmp (.tail _ (.head _)))) (.cons (sok_move (rs := [(13, .p .bool ((decide (a1 ≥ (a0.length : Int))) : Bool))]) rfl (.inl rfl) (.tmp (.head _))) (.cons (sok_run rfl rfl hc26 (sok_move (rs := [(0, .p .str a0)]) rfl (.inl rfl) (.tmp (.head _)))) (.cons (sok_run rfl rfl hc26 (sok_move (rs := [(1, .p (.int .i64) a1)]) rfl (.inl rfl) (.tmp (.head _)))) (.cons (sok_run rfl rfl hc26 (sok_indexS (rs := [(15, .p .str a0), (16, .p (.int .i64) a1)]) rfl rfl Tryd.underlying9 (.tmp (.head _)) (.tmp (.tail _ (.head _))) hv27)) (.cons (sok_run rfl rfl hc26 (sok_cmp (rs := [(17, .p (.int .u8) ((v27.toNat : Int) : Int))]) rfl rfl (.tmp (.head _)) (.int _ _ _) rfl)) (.cons (sok_pickF (rs := [(14, .p .bool ((decide (a1 ≥ (a0.length : Int))) : Bool)), (18, .p .bool (((v27.toNat : Int) != 39) : Bool))]) rfl rfl (.tmp (.head _)) hc26 (.tmp (.tail _ (.head _)))) .nil)))))))))))))) (by kernel_rfl) (by kernel_rfl) (by kernel_rfl) (Conv.refl _) ?_
          refine thenQ_normal ?_
          exact ⟨((v27.toNat : Int) != 39), h, rfl⟩
    · rintro _ ⟨v22, h, rfl⟩
      unfold millwrightref11_End.j24 at h
      refine WpC.cond (b := v22) (.tmp (.tail _ (.tail _ (.head _)))) (fun hc23 => ?_) (fun hc23 => ?_)
      · replace h := ite_t hc23 h
        refine WpC.seq ?_
        refine WpC.reg (st1 := ⟨[(4, .p (.int .i64) ((-1) : Int))], []⟩) [4] [] hN (.cons (sok_move (rs := []) rfl (.inr rfl) (.int _ _ _)) .nil) (by kernel_rfl) (by kernel_rfl) (by kernel_rfl) (Conv.refl _) ?_
        refine thenQ_normal ?_
        refine WpC.ret ?_
        refine thenQ_ret ?_
        have hq := Option.some.inj h
        subst hq
        exact ends_ret (retV_1 rfl (.head _)) (by simp)
      · replace h := ite_f hc23 h
        refine WpC.conv (Conv.keep (b := ⟨[(0, .p .str a0), (1, .p (.int .i64) a1)], []⟩) [0, 1] [] (by kernel_rfl)) (WpC.skip ?_)
        refine thenQ_normal ?_
        exact ⟨h, rfl⟩
  · rintro _ ⟨h, rfl⟩
    unfold millwrightref11_End.j21 at h
    refine WpC.seq ?_
    refine WpC.reg (st1 := ⟨[(0, .p .str a0), (5, .p (.int .i64) ((IntKind.i64.wrap (a1 + 1)) : Int))], []⟩) [0, 5] [] hN (.cons (sok_move (rs := [(1, .p (.int .i64) a1)]) rfl (.inl rfl) (.tmp (.head _))) (.cons (sok_arith (rs := [(20, .p (.int .i64) a1)]) rfl rfl (.tmp (.head _)) (.int _ _ _) rfl) (.cons (sok_move (rs := [(21, .p (.int .i64) ((IntKind.i64.wrap (a1 + 1)) : Int))]) rfl (.inr rfl) (.tmp (.head _))) .nil))) (by kernel_rfl) (by kernel_rfl) (by kernel_rfl) (Conv.refl _) ?_
    refine thenQ_normal ?_
    refine WpC.seqJ (fun st' => millwrightref11_End.j1 k = some out ∧ st' = ⟨[], []⟩) ?_ ?_
    · refine WpC.block ?_
      obtain ⟨o4, hlo4, h⟩ := bind_some h
      have hout5 := h
      clear h
      refine WpC.loop (fun n st' => ∃ v2 : Int, millwrightref11_End.l3 k a0 n v2 = some o4 ∧ st' = ⟨[(0, .p .str a0), (5, .p (.int .i64) v2)], []⟩) k ⟨(IntKind.i64.wrap (a1 + 1)), hlo4, rfl⟩ ?_
      clear hlo4
      rintro (_ | n) _ ⟨v2, h, rfl⟩
      · cases h
      · rw [millwrightref11_End.l3] at h
        refine WpC.seq ?_
        refine WpC.seq ?_
        refine WpC.reg (st1 := ⟨[(0, .p .str a0), (5, .p (.int .i64) v2), (25, .p .bool ((decide (v2 < (a0.length : Int))) : Bool))], []⟩) [0, 5, 25] [] hN (.cons (sok_move (rs := [(5, .p (.int .i64) v2)]) rfl (.inl rfl) (.tmp (.head _))) (.cons (sok_move (rs := [(0, .p .str a0)]) rfl (.inl rfl) (.tmp (.head _))) (.cons (sok_lenS (rs := [(23, .p .str a0)]) rfl rfl Tryd.underlying9 (.tmp (.head _))) (.cons (sok_cmp (rs := [(22, .p (.int .i64) v2), (24, .p (.int .i64) ((a0.length : Int) : Int))]) rfl rfl (.tmp (.head _)) (.tmp (.tail _ (.head _))) rfl) .nil)))) (by kernel_rfl) (by kernel_rfl) (by kernel_rfl) (Conv.refl _) ?_
        refine thenQ_normal ?_
        refine WpC.cond (b := (decide (v2 < (a0.length : Int)))) (.tmp (.tail _ (.tail _ (.head _)))) (fun hc6 => ?_) (fun hc6 => ?_)
        · replace h := ite_t hc6 h
          refine WpC.conv (Conv.keep (b := ⟨[(0, .p .str a0), (5, .p (.int .i64) v2)], []⟩) [0, 5] [] (by kernel_rfl)) (WpC.skip ?_)
          refine thenQ_normal ?_
          refine WpC.block ?_
          refine WpC.seqJ (fun st' => millwrightref11_End.j11 k (millwrightref11_End.l3 k a0 n) a0 v2 = some o4 ∧ st' = ⟨[(0, .p .str a0), (5, .p (.int .i64) v2)], []⟩) ?_ ?_
          · refine WpC.seqJ (fun st' => ∃ v12 : Bool, millwrightref11_End.j14 k (millwrightref11_End.l3 k a0 n) a0 v2 v12 = some o4 ∧ st' = ⟨[(0, .p .str a0), (5, .p (.int .i64) v2), (43, .p .bool v12)], []⟩) ?_ ?_
            · obtain ⟨v15, hv15, h⟩ := bind_some h
              rcases bool_cases ((v15.toNat : Int) == 39) with hc16 | hc16
              · replace h := ite_t hc16 h
                rcases bool_cases (v2 == (IntKind.i64.wrap ((a0.length : Int) - 1))) with hc17 | hc17
                · replace h := ite_t hc17 h
                  refine WpC.reg (st1 := ⟨[(0, .p .str a0), (5, .p (.int .i64) v2), (43, .p .bool true)], []⟩) [0, 5, 43] [] hN (.cons (sok_move (rs := [(0, .p .str a0)]) rfl (.inl rfl) (.tmp (.head _))) (.cons (sok_move (rs := [(5, .p (.int .i64) v2)]) rfl (.inl rfl) (.tmp (.head _))) (.cons (sok_indexS (rs := [(26, .p .str a0), (27, .p (.int .i64) v2)]) rfl rfl Tryd.underlying9 (.tmp (.head _)) (.tmp (.tail _ (.head _))) hv15) (.cons (sok_cmp (rs := [(28, .p (.int .u8) ((v15.toNat : Int) : Int))]) rfl rfl (.tmp (.head _)) (.int _ _ _) rfl) (.cons (sok_move (rs := [(29, .p .bool (((v15.toNat : Int) == 39) : Bool))]) rfl (.inl rfl) (.tmp (.head _))) (.cons (sok_run rfl rfl hc16 (sok_move (rs := [(5, .p (.int .i64) v2)]) rfl (.inl rfl) (.tmp (.head _)))) (.cons (sok_run rfl rfl hc16 (sok_move (rs := [(0, .p .str a0)]) rfl (.inl rfl) (.tmp (.head _)))) (.cons (sok_run rfl rfl hc16 (sok_lenS (rs := [(32, .p .str a0)]) rfl rfl Tryd.underlying9 (.tmp (.head _)))) (.cons (sok_run rfl rfl hc16 (sok_arith (rs := [(33, .p (.int .i64) ((a0.length : Int) : Int))]) rfl rfl (.tmp (.head _)) (.int _ _ _) rfl)) (.cons (sok_run rfl rfl hc16 (sok_cmp (rs := [(31, .p (.int .i64) v2), (34, .p (.int .i64) ((IntKind.i64.wrap ((a0.length : Int) - 1)) : Int))]) rfl rfl (.tmp (.head _)) (.tmp (.tail _ (.head _))) rfl)) (.cons (sok_run rfl rfl hc16 (sok_move (rs := [(35, .p .bool ((v2 == (IntKind.i64.wrap ((a0.length : Int) - 1))) : Bool))]) rfl (.inl rfl) (.tmp (.head _)))) (.cons (sok_skip rfl rfl hc17) (.cons (sok_skip rfl rfl hc17) (.cons (sok_skip rfl rfl hc17) (.cons (sok_skip rfl rfl hc17) (.cons (sok_skip rfl rfl hc17) (.cons (sok_run rfl rfl hc16 (sok_pickT (rs := [(36, .p .bool ((v2 == (IntKind.i64.wrap ((a0.length : Int) - 1))) : Bool))]) rfl rfl (.tmp (.head _)) hc17 (.bool _ _))) (.cons (sok_pickT (rs := [(30, .p .bool (((v15.toNat : Int) == 39) : Bool)), (42, .p .bool true)]) rfl rfl (.tmp (.head _)) hc16 (.tmp (.tail _ (.head _)))) .nil)))))))))))))))))) (by kernel_rfl) (by kernel_rfl) (by kernel_rfl) (Conv.refl _) ?_
                  refine thenQ_normal ?_
                  exact ⟨true, h, rfl⟩
                · replace h := ite_f hc17 h
                  obtain ⟨v18, hv18, h⟩ := bind_some h
                  refine WpC.reg (st1 := ⟨[(0, .p .str a0), (5, .p (.int .i64) v2), (43, .p .bool (((v18.toNat : Int) != 39) : Bool))], []⟩) [0, 5, 43] [] hN (.cons (sok_move (rs := [(0, .p .str a0)]) rfl (.inl rfl) (.tmp (.head _))) (.cons (sok_move (rs := [(5, .p (.int .i64) v2)]) rfl (.inl rfl) (.tmp (.head _))) (.cons (sok_indexS (rs := [(26, .p .str a0), (27, .p (.int .i64) v2)]) rfl rfl Tryd.underlying9 (.tmp (.head _)) (.tmp (.tail _ (.head _))) hv15) (.cons (sok_cmp (rs := [(28, .p (.int .u8) ((v15.toNat : Int) : Int))]) rfl rfl (.tmp (.head _)) (.int _ _ _) rfl) (.cons (sok_move (rs := [(29, .p .bool (((v15.toNat : Int) == 39) : Bool))]) rfl (.inl rfl) (.tmp (.head _))) (.cons (sok_run rfl rfl hc16 (sok_move (rs := [(5, .p (.int .i64) v2)]) rfl (.inl rfl) (.tmp (.head _)))) (.cons (sok_run rfl rfl hc16 (sok_move (rs := [(0, .p .str a0)]) rfl (.inl rfl) (.tmp (.head _)))) (.cons (sok_run rfl rfl hc16 (sok_lenS (rs := [(32, .p .str a0)]) rfl rfl Tryd.underlying9 (.tmp (.head _)))) (.cons (sok_run rfl rfl hc16 (sok_arith (rs := [(33, .p (.int .i64) ((a0.length : Int) : Int))]) rfl rfl (.tmp (.head _)) (.int _ _ _) rfl)) (.cons (sok_run rfl rfl hc16 (sok_cmp (rs := [(31, .p (.int .i64) v2), (34, .p (.int .i64) ((IntKind.i64.wrap ((a0.length : Int) - 1)) : Int))]) rfl rfl (.tmp (.head _)) (.tmp (.tail _ (.head _))) rfl)) (.cons (sok_run rfl rfl hc16 (sok_move (rs := [(35, .p .bool ((v2 == (IntKind.i64.wrap ((a0.length : Int) - 1))) : Bool))]) rfl (.inl rfl) (.tmp (.head _)))) (.cons (sok_run rfl rfl hc17 (sok_move (rs := [(0, .p .str a0)]) rfl (.inl rfl) (.tmp (.head _)))) (.cons (sok_run rfl rfl hc17 (sok_move (rs := [(5, .p (.int .i64) v2)]) rfl (.inl rfl) (.tmp (.head _)))) (.cons (sok_run rfl rfl hc17 (sok_arith (rs := [(38, .p (.int .i64) v2)]) rfl rfl (.tmp (.head _)) (.int _ _ _) rfl)) (.cons (sok_run rfl rfl hc17 (sok_indexS (rs := [(37, .p .str a0), (39, .p (.int .i64) ((IntKind.i64.wrap (v2 + 1)) : Int))]) rfl rfl Tryd.underlying9 (.tmp (.head _)) (.tmp (.tail _ (.head _))) hv18)) (.cons (sok_run rfl rfl hc17 (sok_cmp (rs := [(40, .p (.int .u8) ((v18.toNat : Int) : Int))]) rfl rfl (.tmp (.head _)) (.int _ _ _) rfl)) (.cons (sok_run rfl rfl hc16 (sok_pickF (rs := [(36, .p .bool ((v2 == (IntKind.i64.wrap ((a0.length : Int) - 1))) : Bool)), (41, .p .bool (((v18.toNat : Int) != 39) : Bool))]) rfl rfl (.tmp (.head _)) hc17 (.tmp (.tail _ (.head _))))) (.cons (sok_pickT (rs := [(30, .p .bool (((v15.toNat : Int) == 39) : Bool)), (42, .p .bool (((v18.toNat : Int) != 39) : Bool))]) rfl rfl (.tmp (.head _)) hc16 (.tmp (.tail _ (.head _)))) .nil)))))))))))))))))) (by kernel_rfl) (by kernel_rfl) (by kernel_rfl) (Conv.refl _) ?_
                  refine thenQ_normal ?_
                  exact ⟨((v18.toNat : Int) != 39), h, rfl⟩
              · replace h := ite_f hc16 h
                refine WpC.reg (st1 := ⟨[(0, .p .str a0), (5, .p (.int .i64) v2), (43, .p .bool false)], []⟩) [0, 5, 43] [] hN (.cons (sok_move (rs := [(0, .p .str a0)]) rfl (.inl rfl) (.tmp (.head _))) (.cons (sok_move (rs := [(5, .p (.int .i64) v2)]) rfl (.inl rfl) (.tmp (.head _))) (.cons (sok_indexS (rs := [(26, .p .str a0), (27, .p (.int .i64) v2)]) rfl rfl Tryd.underlying9 (.tmp (.head _)) (.tmp (.tail _ (.head _))) hv15) (.cons (sok_cmp (rs := [(28, .p (.int .u8) ((v15.toNat : Int) : Int))]) rfl rfl (.tmp (.head _)) (.int _ _ _) rfl) (.cons (sok_move (rs := [(29, .p .bool (((v15.toNat : Int) == 39) : Bool))]) rfl (.inl rfl) (.tmp (.head _))) (.cons (sok_skip rfl rfl hc16) (.cons (sok_skip rfl rfl hc16) (.cons (sok_skip rfl rfl hc16) (.cons (sok_skip rfl rfl hc16) (.cons (sok_skip rfl rfl hc16) (.cons (sok_skip rfl rfl hc16) (.cons (sok_skipU rfl rfl) (.cons (sok_skipU rfl rfl) (.cons (sok_skipU rfl rfl) (.cons (sok_skipU rfl rfl) (.cons (sok_skipU rfl rfl) (.cons (sok_skip rfl rfl hc16) (.cons (sok_pickF (rs := [(30, .p .bool (((v15.toNat : Int) == 39) : Bool))]) rfl rfl (.tmp (.head _)) hc16 (.bool _ _)) .nil)))))))))))))))))) (by kernel_rfl) (by kernel_rfl) (by kernel_rfl) (Conv.refl _) ?_
                refine thenQ_normal ?_
                exact ⟨false, h, rfl⟩
            · rintro _ ⟨v12, h, rfl⟩
              unfold millwrightref11_End.j14 at h
              refine WpC.cond (b := v12) (.tmp (.tail _ (.tail _ (.head _)))) (fun hc13 => ?_) (fun hc13 => ?_)
              · replace h := ite_t hc13 h
                refine WpC.seq ?_
                refine WpC.reg (st1 := ⟨[(4, .p (.int .i64) ((IntKind.i64.wrap (v2 + 1)) : Int))], []⟩) [4] [] hN (.cons (sok_move (rs := [(5, .p (.int .i64) v2)]) rfl (.inl rfl) (.tmp (.head _))) (.cons (sok_arith (rs := [(44, .p (.int .i64) v2)]) rfl rfl (.tmp (.head _)) (.int _ _ _) rfl) (.cons (sok_move (rs := [(45, .p (.int .i64) ((IntKind.i64.wrap (v2 + 1)) : Int))]) rfl (.inr rfl) (.tmp (.head _))) .nil))) (by kernel_rfl) (by kernel_rfl) (by kernel_rfl) (Conv.refl _) ?_
                refine thenQ_normal ?_
                refine WpC.ret ?_
                refine thenQ_ret ?_
                refine blockQ_ret ?_
                have hq := Option.some.inj h
                subst hq
                refine thenQ_ret ?_
                have h := hout5
                refine blockQ_ret ?_
                refine thenQ_ret ?_
                have hq := Option.some.inj h
                subst hq
                exact ends_ret (retV_1 rfl (.head _)) (by simp)
              · replace h := ite_f hc13 h
                refine WpC.conv (Conv.keep (b := ⟨[(0, .p .str a0), (5, .p (.int .i64) v2)], []⟩) [0, 5] [] (by kernel_rfl)) (WpC.skip ?_)
                refine thenQ_normal ?_
                exact ⟨h, rfl⟩
          · rintro _ ⟨h, rfl⟩
            unfold millwrightref11_End.j11 at h
            refine WpC.seqJ (fun st' => ∃ v7 : Int, millwrightref11_End.j8 k (millwrightref11_End.l3 k a0 n) a0 v7 = some o4 ∧ st' = ⟨[(0, .p .str a0), (5, .p (.int .i64) v7)], []⟩) ?_ ?_
            · refine WpC.seq ?_
              obtain ⟨v9, hv9, h⟩ := bind_some h
              refine WpC.reg (st1 := ⟨[(0, .p .str a0), (5, .p (.int .i64) v2), (49, .p .bool (((v9.toNat : Int) == 39) : Bool))], []⟩) [0, 5, 49] [] hN (.cons (sok_move (rs := [(0, .p .str a0)]) rfl (.inl rfl) (.tmp (.head _))) (.cons (sok_move (rs := [(5, .p (.int .i64) v2)]) rfl (.inl rfl) (.tmp (.head _))) (.cons (sok_indexS (rs := [(46, .p .str a0), (47, .p (.int .i64) v2)]) rfl rfl Tryd.underlying9 (.tmp (.head _)) (.tmp (.tail _ (.head _))) hv9) (.cons (sok_cmp (rs := [(48, .p (.int .u8) ((v9.toNat : Int) : Int))]) rfl rfl (.tmp (.head _)) (.int _ _ _) rfl) .nil)))) (by kernel_rfl) (by kernel_rfl) (by kernel_rfl) (Conv.refl _) ?_
              refine thenQ_normal ?_
              refine WpC.cond (b := ((v9.toNat : Int) == 39)) (.tmp (.tail _ (.tail _ (.head _)))) (fun hc10 => ?_) (fun hc10 => ?_)
              · replace h := ite_t hc10 h
                refine WpC.reg (st1 := ⟨[(0, .p .str a0), (5, .p (.int .i64) ((IntKind.i64.wrap (v2 + 1)) : Int))], []⟩) [0, 5] [] hN (.cons (sok_move (rs := [(5, .p (.int .i64) v2)]) rfl (.inl rfl) (.tmp (.head _))) (.cons (sok_arith (rs := [(50, .p (.int .i64) v2)]) rfl rfl (.tmp (.head _)) (.int _ _ _) rfl) (.cons (sok_move (rs := [(51, .p (.int .i64) ((IntKind.i64.wrap (v2 + 1)) : Int))]) rfl (.inr rfl) (.tmp (.head _))) .nil))) (by kernel_rfl) (by kernel_rfl) (by kernel_rfl) (Conv.refl _) ?_
                refine thenQ_normal ?_
                exact ⟨(IntKind.i64.wrap (v2 + 1)), h, rfl⟩
              · replace h := ite_f hc10 h
                refine WpC.conv (Conv.keep (b := ⟨[(0, .p .str a0), (5, .p (.int .i64) v2)], []⟩) [0, 5] [] (by kernel_rfl)) (WpC.skip ?_)
                refine thenQ_normal ?_
                exact ⟨v2, h, rfl⟩
            · rintro _ ⟨v7, h, rfl⟩
              unfold millwrightref11_End.j8 at h
              refine WpC.reg (st1 := ⟨[(0, .p .str a0), (5, .p (.int .i64) ((IntKind.i64.wrap (v7 + 1)) : Int))], []⟩) [0, 5] [] hN (.cons (sok_move (rs := [(5, .p (.int .i64) v7)]) rfl (.inl rfl) (.tmp (.head _))) (.cons (sok_arith (rs := [(52, .p (.int .i64) v7)]) rfl rfl (.tmp (.head _)) (.int _ _ _) rfl) (.cons (sok_move (rs := [(53, .p (.int .i64) ((IntKind.i64.wrap (v7 + 1)) : Int))]) rfl (.inr rfl) (.tmp (.head _))) .nil))) (by kernel_rfl) (by kernel_rfl) (by kernel_rfl) (Conv.refl _) ?_
              refine blockQ_normal ?_
              refine thenQ_normal ?_
              exact ⟨n, Nat.lt_succ_self n, (IntKind.i64.wrap (v7 + 1)), h, rfl⟩
        · replace h := ite_f hc6 h
          refine WpC.conv (Conv.keep (b := ⟨[], []⟩) [] [] (by kernel_rfl)) (WpC.exit ?_)
          refine thenQ_exit ?_
          have hq := Option.some.inj h
          subst hq
          refine thenQ_exit ?_
          have h := hout5
          refine blockQ_hit ?_
          refine thenQ_normal ?_
          exact ⟨h, rfl⟩
    · rintro _ ⟨h, rfl⟩
      unfold millwrightref11_End.j1 at h
      refine WpC.seq ?_
      refine WpC.reg (st1 := ⟨[(4, .p (.int .i64) ((-1) : Int))], []⟩) [4] [] hN (.cons (sok_move (rs := []) rfl (.inr rfl) (.int _ _ _)) .nil) (by kernel_rfl) (by kernel_rfl) (by kernel_rfl) (Conv.refl _) ?_
      refine thenQ_normal ?_
      refine WpC.ret ?_
      have hq := Option.some.inj h
      subst hq
      exact ends_ret (retV_1 rfl (.head _)) (by simp)

theorem millwrightlaw11_QuoteSplits.ok (O : Out) (hO : GOkE O) (k : Nat) (a0 : List UInt8) (a1 : Int) (out : Bool) (h : millwrightlaw11_QuoteSplits.f k a0 a1 = some out) : COk Un O Tryd.prog 5 { ar := [.p .str a0, .p (.int .i64) a1], r := .p .bool out } := by
  refine cok_of_wp Tryd.func5 rfl (k := 49) rfl (Nat.le_of_ble_eq_true rfl) (namesOk_pure rfl rfl rfl rfl) ?_
  intro B hN
  refine WpC.conv (Conv.keep (b := ⟨[(0, .p .str a0), (1, .p (.int .i64) a1)], []⟩) [0, 1] [] (by kernel_rfl)) ?_
  unfold millwrightlaw11_QuoteSplits.f at h
  refine WpC.seq ?_
  refine WpC.reg (st1 := ⟨[(0, .p .str a0), (1, .p (.int .i64) a1)], []⟩) [0, 1] [] hN (.cons (sok_move (rs := []) rfl (.inr rfl) (.bool _ _)) .nil) (by kernel_rfl) (by kernel_rfl) (by kernel_rfl) (Conv.refl _) ?_
  refine thenQ_normal ?_
  refine WpC.seq ?_
  refine WpC.seq ?_
  obtain ⟨v1, hv1, h⟩ := bind_some h
  refine WpC.reg (st1 := ⟨[(0, .p .str a0), (1, .p (.int .i64) a1), (10, .p .bool ((!v1) : Bool))], []⟩) [0, 1, 10] [] hN (.cons (sok_call (rs := []) (vw := []) rfl rfl hb_17 (millwrightlaw11_alive.ok O hO k  v1 hv1) .nil .nil (by simp) (.inl rfl)) (.cons (sok_not (rs := [(9, .p .bool v1)]) rfl rfl (.tmp (.head _))) .nil)) (by kernel_rfl) (by kernel_rfl) (by kernel_rfl) (Conv.refl _) ?_
  refine thenQ_normal ?_
  refine WpC.cond (b := (!v1)) (.tmp (.tail _ (.tail _ (.head _)))) (fun hc2 => ?_) (fun hc2 => ?_)
  · replace h := ite_t hc2 h
    refine WpC.seq ?_
    refine WpC.reg (st1 := ⟨[(4, .p .bool false)], []⟩) [4] [] hN (.cons (sok_move (rs := []) rfl (.inr rfl) (.bool _ _)) .nil) (by kernel_rfl) (by kernel_rfl) (by kernel_rfl) (Conv.refl _) ?_
    refine thenQ_normal ?_
    refine WpC.ret ?_
    refine thenQ_ret ?_
    have hq := Option.some.inj h
    subst hq
    exact ends_ret (retV_1 rfl (.head _)) (by simp)
  · replace h := ite_f hc2 h
    refine WpC.conv (Conv.keep (b := ⟨[(0, .p .str a0), (1, .p (.int .i64) a1)], []⟩) [0, 1] [] (by kernel_rfl)) (WpC.skip ?_)
    refine thenQ_normal ?_
    refine WpC.seq ?_
    refine WpC.seq ?_
    refine WpC.reg (st1 := ⟨[(0, .p .str a0), (1, .p (.int .i64) a1), (13, .p .bool ((decide ((a0.length : Int) > 300)) : Bool))], []⟩) [0, 1, 13] [] hN (.cons (sok_move (rs := [(0, .p .str a0)]) rfl (.inl rfl) (.tmp (.head _))) (.cons (sok_lenS (rs := [(11, .p .str a0)]) rfl rfl Tryd.underlying9 (.tmp (.head _))) (.cons (sok_cmp (rs := [(12, .p (.int .i64) ((a0.length : Int) : Int))]) rfl rfl (.tmp (.head _)) (.int _ _ _) rfl) .nil))) (by kernel_rfl) (by kernel_rfl) (by kernel_rfl) (Conv.refl _) ?_
    refine thenQ_normal ?_
    refine WpC.cond (b := (decide ((a0.length : Int) > 300))) (.tmp (.tail _ (.tail _ (.head _)))) (fun hc3 => ?_) (fun hc3 => ?_)
    · replace h := ite_t hc3 h
      refine WpC.seq ?_
      refine WpC.reg (st1 := ⟨[(4, .p .bool true)], []⟩) [4] [] hN (.cons (sok_move (rs := []) rfl (.inr rfl) (.bool _ _)) .nil) (by kernel_rfl) (by kernel_rfl) (by kernel_rfl) (Conv.refl _) ?_
      refine thenQ_normal ?_
      refine WpC.ret ?_
      refine thenQ_ret ?_
      have hq := Option.some.inj h
      subst hq
      exact ends_ret (retV_1 rfl (.head _)) (by simp)
    · replace h := ite_f hc3 h
      refine WpC.conv (Conv.keep (b := ⟨[(0, .p .str a0), (1, .p (.int .i64) a1)], []⟩) [0, 1] [] (by kernel_rfl)) (WpC.skip ?_)
      refine thenQ_normal ?_
      refine WpC.seq ?_
      obtain ⟨v4, hv4, h⟩ := bind_some h
      refine WpC.reg (st1 := ⟨[(0, .p .str a0), (1, .p (.int .i64) a1), (5, .p (.list .str) v4.1), (6, .p .err v4.2)], []⟩) [0, 1, 5, 6] [] hN (.cons (sok_move (rs := [(0, .p .str a0)]) rfl (.inl rfl) (.tmp (.head _))) (.cons (sok_call (rs := [(15, .p .str a0)]) (vw := []) rfl rfl hb_24 (quote_Split.ok O hO k a0 v4 hv4) (.cons (.tmp (.head _)) .nil) (.cons (.same _) .nil) (by simp) (.inl rfl)) (.cons (sok_move (rs := [(16, .tup [.p (.list .str) v4.1, .p .err v4.2])]) rfl (.inl rfl) (.tmp (.head _))) (.cons (sok_extract (rs := [(14, .tup [.p (.list .str) v4.1, .p .err v4.2])]) rfl rfl (.tmp (.head _)) rfl) (.cons (sok_extract (rs := [(14, .tup [.p (.list .str) v4.1, .p .err v4.2])]) rfl rfl (.tmp (.head _)) rfl) (.cons (sok_move (rs := [(17, .p (.list .str) v4.1)]) rfl (.inr rfl) (.tmp (.head _))) (.cons (sok_move (rs := [(18, .p .err v4.2)]) rfl (.inr rfl) (.tmp (.head _))) .nil))))))) (by kernel_rfl) (by kernel_rfl) (by kernel_rfl) (Conv.refl _) ?_
      refine thenQ_normal ?_
      refine WpC.seq ?_
      obtain ⟨v5, hv5, h⟩ := bind_some h
      refine WpC.reg (st1 := ⟨[(0, .p .str a0), (1, .p (.int .i64) a1), (5, .p (.list .str) v4.1), (6, .p .err v4.2), (7, .p (.list .str) v5.1), (8, .p (.int .i64) v5.2)], []⟩) [0, 1, 5, 6, 7, 8] [] hN (.cons (sok_move (rs := [(0, .p .str a0)]) rfl (.inl rfl) (.tmp (.head _))) (.cons (sok_call (rs := [(20, .p .str a0)]) (vw := []) rfl rfl hb_25 (millwrightref11_Split.ok O hO k a0 v5 hv5) (.cons (.tmp (.head _)) .nil) (.cons (.same _) .nil) (by simp) (.inl rfl)) (.cons (sok_move (rs := [(21, .tup [.p (.list .str) v5.1, .p (.int .i64) v5.2])]) rfl (.inl rfl) (.tmp (.head _))) (.cons (sok_extract (rs := [(19, .tup [.p (.list .str) v5.1, .p (.int .i64) v5.2])]) rfl rfl (.tmp (.head _)) rfl) (.cons (sok_extract (rs := [(19, .tup [.p (.list .str) v5.1, .p (.int .i64) v5.2])]) rfl rfl (.tmp (.head _)) rfl) (.cons (sok_move (rs := [(22, .p (.list .str) v5.1)]) rfl (.inr rfl) (.tmp (.head _))) (.cons (sok_move (rs := [(23, .p (.int .i64) v5.2)]) rfl (.inr rfl) (.tmp (.head _))) .nil))))))) (by kernel_rfl) (by kernel_rfl) (by kernel_rfl) (Conv.refl _) ?_
      refine thenQ_normal ?_
      refine WpC.seq ?_
      obtain ⟨v6, hv6, h⟩ := bind_some h
      rcases bool_cases (v6 == v5.2) with hc7 | hc7
      · replace h := ite_t hc7 h
        obtain ⟨v8, hv8, h⟩ := bind_some h
        rcases bool_cases v8 with hc9 | hc9
        · replace h := ite_t hc9 h
          obtain ⟨v10, hv10, h⟩ := bind_some h
          obtain ⟨v11, hv11, h⟩ := bind_some h
          obtain ⟨v12, hv12, h⟩ := bind_some h
          rcases bool_cases v12 with hc13 | hc13
          · replace h := ite_t hc13 h
            obtain ⟨v14, hv14, h⟩ := bind_some h
            obtain ⟨v15, hv15, h⟩ := bind_some h
            refine WpC.reg (st1 := ⟨[(4, .p .bool ((v14 == v15) : Bool))], []⟩) [4] [] hN (.cons (sok_move (rs := [(6, .p .err v4.2)]) rfl (.inl rfl) (.tmp (.head _))) (.cons (sok_call (rs := [(24, .p .err v4.2)]) (vw := []) rfl rfl hb_26 (millwrightnum_Num.ok O hO k v4.2 v6 hv6) (.cons (.tmp (.head _)) .nil) (.cons (.same _) .nil) (by simp) (.inl rfl)) (.cons (sok_move (rs := [(8, .p (.int .i64) v5.2)]) rfl (.inl rfl) (.tmp (.head _))) (.cons (sok_cmp (rs := [(25, .p (.int .i64) v6), (26, .p (.int .i64) v5.2)]) rfl rfl (.tmp (.head _)) (.tmp (.tail _ (.head _))) rfl) (.cons (sok_move (rs := [(27, .p .bool ((v6 == v5.2) : Bool))]) rfl (.inl rfl) (.tmp (.head _))) (.cons (sok_run rfl rfl hc7 (sok_move (rs := [(5, .p (.list .str) v4.1)]) rfl (.inl rfl) (.tmp (.head _)))) (.cons (sok_run rfl rfl hc7 (sok_move (rs := [(7, .p (.list .str) v5.1)]) rfl (.inl rfl) (.tmp (.head _)))) (.cons (sok_run rfl rfl hc7 (sok_call (rs := [(29, .p (.list .str) v4.1), (30, .p (.list .str) v5.1)]) (vw := []) rfl rfl hb_27 (millwrightnum_SameTexts.ok O hO k v4.1 v5.1 v8 hv8) (.cons (.tmp (.head _)) (.cons (.tmp (.tail _ (.head _))) .nil)) (.cons (.same _) (.cons (.same _) .nil)) (by simp) (.inl rfl))) (.cons (sok_pickT (rs := [(28, .p .bool ((v6 == v5.2) : Bool)), (31, .p .bool v8)]) rfl rfl (.tmp (.head _)) hc7 (.tmp (.tail _ (.head _)))) (.cons (sok_move (rs := [(32, .p .bool v8)]) rfl (.inl rfl) (.tmp (.head _))) (.cons (sok_run rfl rfl hc9 (sok_move (rs := [(0, .p .str a0)]) rfl (.inl rfl) (.tmp (.head _)))) (.cons (sok_run rfl rfl hc9 (sok_call (rs := [(34, .p .str a0)]) (vw := []) rfl rfl hb_28 (quote_Fields.ok O hO k a0 v10 hv10) (.cons (.tmp (.head _)) .nil) (.cons (.same _) .nil) (by simp) (.inl rfl))) (.cons (sok_run rfl rfl hc9 (sok_move (rs := [(0, .p .str a0)]) rfl (.inl rfl) (.tmp (.head _)))) (.cons (sok_run rfl rfl hc9 (sok_call (rs := [(36, .p .str a0)]) (vw := []) rfl rfl hb_29 (millwrightref11_Fields.ok O hO k a0 v11 hv11) (.cons (.tmp (.head _)) .nil) (.cons (.same _) .nil) (by simp) (.inl rfl))) (.cons (sok_run rfl rfl hc9 (sok_call (rs := [(35, .p (.list .str) v10), (37, .p (.list .str) v11)]) (vw := []) rfl rfl hb_27 (millwrightnum_SameTexts.ok O hO k v10 v11 v12 hv12) (.cons (.tmp (.head _)) (.cons (.tmp (.tail _ (.head _))) .nil)) (.cons (.same _) (.cons (.same _) .nil)) (by simp) (.inl rfl))) (.cons (sok_pickT (rs := [(33, .p .bool v8), (38, .p .bool v12)]) rfl rfl (.tmp (.head _)) hc9 (.tmp (.tail _ (.head _)))) (.cons (sok_move (rs := [(39, .p .bool v12)]) rfl (.inl rfl) (.tmp (.head _))) (.cons (sok_run rfl rfl hc13 (sok_move (rs := [(0, .p .str a0)]) rfl (.inl rfl) (.tmp (.head _)))) (.cons (sok_run rfl rfl hc13 (sok_move (rs := [(1, .p (.int .i64) a1)]) rfl (.inl rfl) (.tmp (.head _)))) (.cons (sok_run rfl rfl hc13 (sok_call (rs := [(41, .p .str a0), (42, .p (.int .i64) a1)]) (vw := []) rfl rfl hb_30 (quote_End.ok O hO k a0 a1 v14 hv14) (.cons (.tmp (.head _)) (.cons (.tmp (.tail _ (.head _))) .nil)) (.cons (.same _) (.cons (.same _) .nil)) (by simp) (.inl rfl))) (.cons (sok_run rfl rfl hc13 (sok_move (rs := [(0, .p .str a0)]) rfl (.inl rfl) (.tmp (.head _)))) (.cons (sok_run rfl rfl hc13 (sok_move (rs := [(1, .p (.int .i64) a1)]) rfl (.inl rfl) (.tmp (.head _)))) (.cons (sok_run rfl rfl hc13 (sok_call (rs := [(44, .p .str a0), (45, .p (.int .i64) a1)]) (vw := []) rfl rfl hb_31 (millwrightref11_End.ok O hO k a0 a1 v15 hv15) (.cons (.tmp (.head _)) (.cons (.tmp (.tail _ (.head _))) .nil)) (.cons (.same _) (.cons (.same _) .nil)) (by simp) (.inl rfl))) (.cons (sok_run rfl rfl hc13 (sok_cmp (rs := [(43, .p (.int .i64) v14), (46, .p (.int .i64) v15)]) rfl rfl (.tmp (.head _)) (.tmp (.tail _ (.head _))) rfl)) (.cons (sok_pickT (rs := [(40, .p .bool v12), (47, .p .bool ((v14 == v15) : Bool))]) rfl rfl (.tmp (.head _)) hc13 (.tmp (.tail _ (.head _)))) (.cons (sok_move (rs := [(48, .p .bool ((v14 == v15) : Bool))]) rfl (.inr rfl) (.tmp (.head _))) .nil)))))))))))))))))))))))))) (by kernel_rfl) (by kernel_rfl) (by kernel_rfl) (Conv.refl _) ?_
            refine thenQ_normal ?_
            refine WpC.ret ?_
            have hq := Option.some.inj h
            subst hq
            exact ends_ret (retV_1 rfl (.head _)) (by simp)
          · replace h := ite_f hc13 h
            refine WpC.reg (st1 := ⟨[(4, .p .bool false)], []⟩) [4] [] hN (.cons (sok_move (rs := [(6, .p .err v4.2)]) rfl (.inl rfl) (.tmp (.head _))) (.cons (sok_call (rs := [(24, .p .err v4.2)]) (vw := []) rfl rfl hb_26 (millwrightnum_Num.ok O hO k v4.2 v6 hv6) (.cons (.tmp (.head _)) .nil) (.cons (.same _) .nil) (by simp) (.inl rfl)) (.cons (sok_move (rs := [(8, .p (.int .i64) v5.2)]) rfl (.inl rfl) (.tmp (.head _))) (.cons (sok_cmp (rs := [(25, .p (.int .i64) v6), (26, .p (.int .i64) v5.2)]) rfl rfl (.tmp (.head _)) (.tmp (.tail _ (.head _))) rfl) (.cons (sok_move (rs := [(27, .p .bool ((v6 == v5.2) : Bool))]) rfl (.inl rfl) (.tmp (.head _))) (.cons (sok_run rfl rfl hc7 (sok_move (rs := [(5, .p (.list .str) v4.1)]) rfl (.inl rfl) (.tmp (.head _)))) (.cons (sok_run rfl rfl hc7 (sok_move (rs := [(7, .p (.list .str) v5.1)]) rfl (.inl rfl) (.tmp (.head _)))) (.cons (sok_run rfl rfl hc7 (sok_call (rs := [(29, .p (.list .str) v4.1), (30, .p (.list .str) v5.1)]) (vw := []) rfl rfl hb_27 (millwrightnum_SameTexts.ok O hO k v4.1 v5.1 v8 hv8) (.cons (.tmp (.head _)) (.cons (.tmp (.tail _ (.head _))) .nil)) (.cons (.same _) (.cons (.same _) .nil)) (by simp) (.inl rfl))) (.cons (sok_pickT (rs := [(28, .p .bool ((v6 == v5.2) : Bool)), (31, .p .bool v8)]) rfl rfl (.tmp (.head _)) hc7 (.tmp (.tail _ (.head _)))) (.cons (sok_move (rs := [(32, .p .bool v8)]) rfl (.inl rfl) (.tmp (.head _))) (.cons (sok_run rfl rfl hc9 (sok_move (rs := [(0, .p .str a0)]) rfl (.inl rfl) (.tmp (.head _)))) (.cons (sok_run rfl rfl hc9 (sok_call (rs := [(34, .p .str a0)]) (vw := []) rfl rfl hb_28 (quote_Fields.ok O hO k a0 v10 hv10) (.cons (.tmp (.head _)) .nil) (.cons (.same _) .nil) (by simp) (.inl rfl))) (.cons (sok_run rfl rfl hc9 (sok_move (rs := [(0, .p .str a0)]) rfl (.inl rfl) (.tmp (.head _)))) (.cons (sok_run rfl rfl hc9 (sok_call (rs := [(36, .p .str a0)]) (vw := []) rfl rfl hb_29 (millwrightref11_Fields.ok O hO k a0 v11 hv11) (.cons (.tmp (.head _)) .nil) (.cons (.same _) .nil) (by simp) (.inl rfl))) (.cons (sok_run rfl rfl hc9 (sok_call (rs := [(35, .p (.list .str) v10), (37, .p (.list .str) v11)]) (vw := []) rfl rfl hb_27 (millwrightnum_SameTexts.ok O hO k v10 v11 v12 hv12) (.cons (.tmp (.head _)) (.cons (.tmp (.tail _ (.head _))) .nil)) (.cons (.same _) (.cons (.same _) .nil)) (by simp) (.inl rfl))) (.cons (sok_pickT (rs := [(33, .p .bool v8), (38, .p .bool v12)]) rfl rfl (.tmp (.head _)) hc9 (.tmp (.tail _ (.head _)))) (.cons (sok_move (rs := [(39, .p .bool v12)]) rfl (.inl rfl) (.tmp (.head _))) (.cons (sok_skip rfl rfl hc13) (.cons (sok_skip rfl rfl hc13) (.cons (sok_skip rfl rfl hc13) (.cons (sok_skip rfl rfl hc13) (.cons (sok_skip rfl rfl hc13) (.cons (sok_skip rfl rfl hc13) (.cons (sok_skip rfl rfl hc13) (.cons (sok_pickF (rs := [(40, .p .bool v12)]) rfl rfl (.tmp (.head _)) hc13 (.bool _ _)) (.cons (sok_move (rs := [(48, .p .bool false)]) rfl (.inr rfl) (.tmp (.head _))) .nil)))))))))))))))))))))))))) (by kernel_rfl) (by kernel_rfl) (by kernel_rfl) (Conv.refl _) ?_
            refine thenQ_normal ?_
            refine WpC.ret ?_
            have hq := Option.some.inj h
            subst hq
            exact ends_ret (retV_1 rfl (.head _)) (by simp)
        · replace h := ite_f hc9 h
          refine WpC.reg (st1 := ⟨[(4, .p .bool false)], []⟩) [4] [] hN (.cons (sok_move (rs := [(6, .p .err v4.2)]) rfl (.inl rfl) (.tmp (.head _))) (.cons (sok_call (rs := [(24, .p .err v4.2)]) (vw := []) rfl rfl hb_26 (millwrightnum_Num.ok O hO k v4.2 v6 hv6) (.cons (.tmp (.head _)) .nil) (.cons (.same _) .nil) (by simp) (.inl rfl)) (.cons (sok_move (rs := [(8, .p (.int .i64) v5.2)]) rfl (.inl rfl) (.tmp (.head _))) (.cons (sok_cmp (rs := [(25, .p (.int .i64) v6), (26, .p (.int .i64) v5.2)]) rfl rfl (.tmp (.head _)) (.tmp (.tail _ (.head _))) rfl) (.cons (sok_move (rs := [(27, .p .bool ((v6 == v5.2) : Bool))]) rfl (.inl rfl) (.tmp (.head _))) (.cons (sok_run rfl rfl hc7 (sok_move (rs := [(5, .p (.list .str) v4.1)]) rfl (.inl rfl) (.tmp (.head _)))) (.cons (sok_run rfl rfl hc7 (sok_move (rs := [(7, .p (.list .str) v5.1)]) rfl (.inl rfl) (.tmp (.head _)))) (.cons (sok_run rfl rfl hc7 (sok_call (rs := [(29, .p (.list .str) v4.1), (30, .p (.list .str) v5.1)]) (vw := []) rfl rfl hb_27 (millwrightnum_SameTexts.ok O hO k v4.1 v5.1 v8 hv8) (.cons (.tmp (.head _)) (.cons (.tmp (.tail _ (.head _))) .nil)) (.cons (.same _) (.cons (.same _) .nil)) (by simp) (.inl rfl))) (.cons (sok_pickT (rs := [(28, .p .bool ((v6 == v5.2) : Bool)), (31, .p .bool v8)]) rfl rfl (.tmp (.head _)) hc7 (.tmp (.tail _ (.head _)))) (.cons (sok_move (rs := [(32, .p .bool v8)]) rfl (.inl rfl) (.tmp (.head _))) (.cons (sok_skip rfl rfl hc9) (.cons (sok_skip rfl rfl hc9) (.cons (sok_skip rfl rfl hc9) (.cons (sok_skip rfl rfl hc9) (.cons (sok_skip rfl rfl hc9) (.cons (sok_pickF (rs := [(33, .p .bool v8)]) rfl rfl (.tmp (.head _)) hc9 (.bool _ _)) (.cons (sok_move (rs := [(39, .p .bool false)]) rfl (.inl rfl) (.tmp (.head _))) (.cons (sok_skip rfl rfl rfl) (.cons (sok_skip rfl rfl rfl) (.cons (sok_skip rfl rfl rfl) (.cons (sok_skip rfl rfl rfl) (.cons (sok_skip rfl rfl rfl) (.cons (sok_skip rfl rfl rfl) (.cons (sok_skip rfl rfl rfl) (.cons (sok_pickF (rs := [(40, .p .bool false)]) rfl rfl (.tmp (.head _)) rfl (.bool _ _)) (.cons (sok_move (rs := [(48, .p .bool false)]) rfl (.inr rfl) (.tmp (.head _))) .nil)))))))))))))))))))))))))) (by kernel_rfl) (by kernel_rfl) (by kernel_rfl) (Conv.refl _) ?_
          refine thenQ_normal ?_
          refine WpC.ret ?_
          have hq := Option.some.inj h
          subst hq
          exact ends_ret (retV_1 rfl (.head _)) (by simp)
      · replace h := ite_f hc7 h
        refine WpC.reg (st1 := ⟨[(4, .p .bool false)], []⟩) [4] [] hN (.cons (sok_move (rs := [(6, .p .err v4.2)]) rfl (.inl rfl) (.tmp (.head _))) (.cons (sok_call (rs := [(24, .p .err v4.2)]) (vw := []) rfl rfl hb_26 (millwrightnum_Num.ok O hO k v4.2 v6 hv6) (.cons (.tmp (.head _)) .nil) (.cons (.same _) .nil) (by simp) (.inl rfl)) (.cons (sok_move (rs := [(8, .p (.int .i64) v5.2)]) rfl (.inl rfl) (.tmp (.head _))) (.cons (sok_cmp (rs := [(25, .p (.int .i64) v6), (26, .p (.int .i64) v5.2)]) rfl rfl (.tmp (.head _)) (.tmp (.tail _ (.head _))) rfl) (.cons (sok_move (rs := [(27, .p .bool ((v6 == v5.2) : Bool))]) rfl (.inl rfl) (.tmp (.head _))) (.cons (sok_skip rfl rfl hc7) (.cons (sok_skip rfl rfl hc7) (.cons (sok_skip rfl rfl hc7) (.cons (sok_pickF (rs := [(28, .p .bool ((v6 == v5.2) : Bool))]) rfl rfl (.tmp (.head _)) hc7 (.bool _ _)) (.cons (sok_move (rs := [(32, .p .bool false)]) rfl (.inl rfl) (.tmp (.head _))) (.cons (sok_skip rfl rfl rfl) (.cons (sok_skip rfl rfl rfl) (.cons (sok_skip rfl rfl rfl) (.cons (sok_skip rfl rfl rfl) (.cons (sok_skip rfl rfl rfl) (.cons (sok_pickF (rs := [(33, .p .bool false)]) rfl rfl (.tmp (.head _)) rfl (.bool _ _)) (.cons (sok_move (rs := [(39, .p .bool false)]) rfl (.inl rfl) (.tmp (.head _))) (.cons (sok_skip rfl rfl rfl) (.cons (sok_skip rfl rfl rfl) (.cons (sok_skip rfl rfl rfl) (.cons (sok_skip rfl rfl rfl) (.cons (sok_skip rfl rfl rfl) (.cons (sok_skip rfl rfl rfl) (.cons (sok_skip rfl rfl rfl) (.cons (sok_pickF (rs := [(40, .p .bool false)]) rfl rfl (.tmp (.head _)) rfl (.bool _ _)) (.cons (sok_move (rs := [(48, .p .bool false)]) rfl (.inr rfl) (.tmp (.head _))) .nil)))))))))))))))))))))))))) (by kernel_rfl) (by kernel_rfl) (by kernel_rfl) (Conv.refl _) ?_
        refine thenQ_normal ?_
        refine WpC.ret ?_
        have hq := Option.some.inj h
        subst hq
        exact ends_ret (retV_1 rfl (.head _)) (by simp)

end Go.Proofs.YtfeaegjlhpgdmaaDoor
