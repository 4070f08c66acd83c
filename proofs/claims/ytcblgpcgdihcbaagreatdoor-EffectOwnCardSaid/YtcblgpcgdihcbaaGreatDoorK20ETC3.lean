/- A part of the proof of a given law: ETC3. Own work, printed in part by a program of mine. -/
import Derived.Test.YtcblgpcgdihcbaaGreatDoorK20ETC2
namespace Go.Proofs.YtcblgpcgdihcbaaGreatDoor
open Go Go.AM
set_option linter.unusedVariables false
set_option linter.unusedSimpArgs false
set_option maxRecDepth 100000
theorem effect_Effect_m0.ok (O : Out) (hO : GOk O) (k : Nat) (a0 : List T_effect_Effect) (a1 : List (List UInt8)) (out : Bool) (h : effect_Effect_m0.f k a0 a1 = some out) : COk Un O Tryz.prog 47 { ar := [.p (.list (.named 4)) a0, .clo 45 [.loc 100000 0]], r := .p .bool out, bs := [(100000, .box [.p (.list .str) a1])], bs' := [(100000, .box [.p (.list .str) a1])] } := by
  refine cok_of_wp Tryz.func47 rfl (k := 9) rfl (Nat.le_of_ble_eq_true rfl) (namesOk_of (by kernel_rfl)) ?_
  intro B hN
  refine WpC.conv (cvK (b := ⟨[(0, .p (.list (.named 4)) a0), (1, .clo 45 [.loc 100000 0])], [(100000, .box [.p (.list .str) a1])]⟩) [0, 1] [100000] (by kernel_rfl)) ?_
  unfold effect_Effect_m0.f at h
  refine WpC.seq ?_
  refine rS {} [0, 1] [100000] hN (by kernel_rfl) (by kernel_rfl) ?_
  refine tnU ?_
  refine WpC.seq ?_
  obtain ⟨v1, hv1, h⟩ := bind_some h
  refine rS { its := [(2, .c (COk.ren (effect_Effect_72_m0.ok O hO k a0 a1 v1 hv1) (fun n => if n = 100000 then 100000 else n) (injOn_of (by kernel_rfl))))] } [4] [100000] hN (by kernel_rfl) (by kernel_rfl) ?_
  refine tnU ?_
  refine WpC.ret ?_
  have hq := Option.some.inj h
  subst hq
  exact eR (by kernel_rfl) (by kernel_rfl)

theorem effect_Own.ok (O : Out) (hO : GOk O) (k : Nat) (a0 : List T_effect_Effect) (a1 : List (List UInt8)) (out : Bool) (h : effect_Own.f k a0 a1 = some out) : COk Un O Tryz.prog 23 { ar := [.p (.list (.named 4)) a0, .p (.list .str) a1], r := .p .bool out } := by
  refine cok_of_wp Tryz.func23 rfl (k := 11) rfl (Nat.le_of_ble_eq_true rfl) (namesOk_pure rfl rfl rfl rfl) ?_
  intro B hN
  refine WpC.conv (cvK (b := ⟨[(0, .p (.list (.named 4)) a0), (1, .p (.list .str) a1)], []⟩) [0, 1] [] (by kernel_rfl)) ?_
  unfold effect_Own.f at h
  refine WpC.seq ?_
  refine rS {} [0, 3] [3] hN (by kernel_rfl) (by kernel_rfl) ?_
  refine tnU ?_
  refine WpC.seq ?_
  refine rS {} [0, 5] [3] hN (by kernel_rfl) (by kernel_rfl) ?_
  refine tnU ?_
  refine WpC.seq ?_
  obtain ⟨v1, hv1, h⟩ := bind_some h
  refine rS { its := [(2, .c (COk.ren (effect_Effect_m0.ok O hO k a0 a1 v1 hv1) (fun n => if n = 100000 then 3 else n) (injOn_of (by kernel_rfl))))] } [4] [] hN (by kernel_rfl) (by kernel_rfl) ?_
  refine tnU ?_
  refine WpC.ret ?_
  have hq := Option.some.inj h
  subst hq
  exact eR (by kernel_rfl) (by kernel_rfl)

theorem effect_Names.ok (O : Out) (hO : GOk O) (k : Nat) (a0 : List T_effect_Effect) (out : List (List UInt8)) (h : effect_Names.f k a0 = some out) : COk Un O Tryz.prog 25 { ar := [.p (.list (.named 4)) a0], r := .p (.list .str) out } := by
  refine cok_of_wp Tryz.func25 rfl (k := 20) rfl (Nat.le_of_ble_eq_true rfl) (namesOk_pure rfl rfl rfl rfl) ?_
  intro B hN
  refine WpC.conv (cvK (b := ⟨[(0, .p (.list (.named 4)) a0)], []⟩) [0] [] (by kernel_rfl)) ?_
  unfold effect_Names.f at h
  refine WpC.seq ?_
  refine rS {} [0] [] hN (by kernel_rfl) (by kernel_rfl) ?_
  refine tnU ?_
  refine WpC.seq ?_
  refine rS {} [0, 3] [] hN (by kernel_rfl) (by kernel_rfl) ?_
  refine tnU ?_
  refine sqJ (fun st' => ∃ v1 : List (List UInt8), effect_Names.j3 k v1 = some out ∧ st' = ⟨[(3, .vec 1003 1 0 v1.length)], [(1003, .row 9 .str v1 false)]⟩) ?_ ?_
  · refine WpC.seq ?_
    refine rS {} [3, 6, 7, 8] [] hN (by kernel_rfl) (by kernel_rfl) ?_
    refine tnU ?_
    refine WpC.block ?_
    obtain ⟨o8, hlo8, h⟩ := bind_some h
    have hout9 := h
    clear h
    refine WpC.conv (cS [.th 3 1003 9 .str, .k [3, 6, 7, 8] [1003]] (by kernel_rfl) (by kernel_rfl)) ?_
    refine WpC.loop (U := Un) (fun n st' => ∃ v4 : List (List UInt8), ∃ v5 : Int, effect_Names.l6 k a0 n v4 v5 = some o8 ∧ st' = ⟨[(3, .vec 1003 1 0 v4.length), (6, .p (.list (.named 4)) a0), (7, .p I6 ((a0.length : Int) : Int)), (8, .p I6 v5)], [(1003, .row 9 .str v4 false)]⟩) k ⟨[], 0, hlo8, by kernel_rfl⟩ ?_
    clear hlo8
    rintro (_ | n) _ ⟨v4, v5, h, rfl⟩
    · cases h
    · rw [effect_Names.l6] at h
      refine WpC.seq ?_
      refine rS {} [3, 6, 7, 8, 9] [1003] hN (by kernel_rfl) (by kernel_rfl) ?_
      refine tnU ?_
      refine WpC.seq ?_
      refine tS (b := (decide (v5 < (a0.length : Int)))) (by kernel_rfl) (fun hc10 => ?_) (fun hc10 => ?_)
      · replace h := ite_t hc10 h
        refine WpC.conv (cS [.k [3, 6, 7, 8] [1003]] (by kernel_rfl) (by kernel_rfl)) (WpC.skip ?_)
        refine tnU ?_
        refine WpC.seq ?_
        refine WpC.block ?_
        refine WpC.seq ?_
        obtain ⟨v11, hv11, h⟩ := bind_some h
        refine rS { its := [(0, .v (.named 4) hv11)] } [3, 5, 6, 7, 8] [5, 1003] hN (by kernel_rfl) (by kernel_rfl) ?_
        refine tnU ?_
        obtain ⟨g12, h⟩ := if_some h
        refine rS { its := [(4, .g g12)] } [3, 6, 7, 8] [16] hN (by kernel_rfl) (by kernel_rfl) ?_
        refine blockQ_normal ?_
        refine tnU ?_
        refine rSC {} [3, 6, 7, 8] [16] hN (by kernel_rfl) (by kernel_rfl) (cS [.rn 16 1003, .k [3, 6, 7, 8] [1003]] (by kernel_rfl) (by kernel_rfl)) ?_
        refine tnU ?_
        exact ⟨n, Nat.lt_succ_self n, (v4 ++ [v11.f_Name]), (IntKind.i64.wrap (v5 + 1)), h, by kernel_rfl⟩
      · replace h := ite_f hc10 h
        refine WpC.conv (cS [.k [3] [1003]] (by kernel_rfl) (by kernel_rfl)) (WpC.exit ?_)
        refine thenQ_exit ?_
        have hq := Option.some.inj h
        subst hq
        refine thenQ_exit ?_
        have h := hout9
        refine blockQ_hit ?_
        refine tnU ?_
        exact ⟨v4, h, by kernel_rfl⟩
  · rintro _ ⟨v1, h, rfl⟩
    unfold effect_Names.j3 at h
    refine WpC.seq ?_
    obtain ⟨v2, hv2, h⟩ := bind_some h
    refine rS { its := [(1, .c (names_Sorted.ok O hO k v1 v2 hv2))] } [2] [] hN (by kernel_rfl) (by kernel_rfl) ?_
    refine tnU ?_
    refine WpC.ret ?_
    have hq := Option.some.inj h
    subst hq
    exact eR (by kernel_rfl) (by kernel_rfl)

theorem millwrightref01_Sorted.ok (O : Out) (hO : GOk O) (k : Nat) (a0 : List (List UInt8)) (out : List (List UInt8)) (h : millwrightref01_Sorted.f k a0 = some out) : COk Un O Tryz.prog 26 { ar := [.p (.list .str) a0], r := .p (.list .str) out } := by
  refine cok_of_wp Tryz.func26 rfl (k := 54) rfl (Nat.le_of_ble_eq_true rfl) (namesOk_pure rfl rfl rfl rfl) ?_
  intro B hN
  refine WpC.conv (cvK (b := ⟨[(0, .p (.list .str) a0)], []⟩) [0] [] (by kernel_rfl)) ?_
  unfold millwrightref01_Sorted.f at h
  refine WpC.seq ?_
  refine rS {} [0] [] hN (by kernel_rfl) (by kernel_rfl) ?_
  refine tnU ?_
  refine WpC.seq ?_
  refine rSC {} [0, 3] [7] hN (by kernel_rfl) (by kernel_rfl) (cS [.k [0, 3] [7], .x (Conv.cast (U := Un) (st := ⟨[(0, .p (.list .str) a0), (3, .vec 7 1 0 (([] : List (List UInt8)).length))], [(7, .row 9 .str ([] : List (List UInt8)) true)]⟩) (st' := ⟨[(0, .p (.list .str) a0), (3, .vec 7 1 0 0)], [(7, .row 9 .str ([] : List (List UInt8)) true)]⟩) (by simp only [upd_length, List.length_nil, List.length_replicate]))] (by kernel_rfl) (by kernel_rfl)) ?_
  refine tnU ?_
  refine sqJ (fun st' => ∃ v1 : List (List UInt8), millwrightref01_Sorted.j2 k v1 = some out ∧ st' = ⟨[(3, .vec 1003 1 0 v1.length)], [(1003, .row 9 .str v1 false)]⟩) ?_ ?_
  · refine WpC.seq ?_
    refine rS {} [3, 8, 9, 10] [7] hN (by kernel_rfl) (by kernel_rfl) ?_
    refine tnU ?_
    refine WpC.block ?_
    obtain ⟨o7, hlo7, h⟩ := bind_some h
    have hout8 := h
    clear h
    refine WpC.conv (cS [.lo 7, .k [3, 8, 9, 10] [7], .rn 7 1003, .k [3, 8, 9, 10] [1003]] (by kernel_rfl) (by kernel_rfl)) ?_
    refine WpC.loop (U := Un) (fun n st' => ∃ v3 : List (List UInt8), ∃ v4 : Int, millwrightref01_Sorted.l5 k a0 n v3 v4 = some o7 ∧ st' = ⟨[(3, .vec 1003 1 0 v3.length), (8, .p (.list .str) a0), (9, .p I6 ((a0.length : Int) : Int)), (10, .p I6 v4)], [(1003, .row 9 .str v3 false)]⟩) k ⟨([] : List (List UInt8)), 0, hlo7, by kernel_rfl⟩ ?_
    clear hlo7
    rintro (_ | n) _ ⟨v3, v4, h, rfl⟩
    · cases h
    · rw [millwrightref01_Sorted.l5] at h
      refine WpC.seq ?_
      refine rS {} [3, 8, 9, 10, 11] [1003] hN (by kernel_rfl) (by kernel_rfl) ?_
      refine tnU ?_
      refine WpC.seq ?_
      refine tS (b := (decide (v4 < (a0.length : Int)))) (by kernel_rfl) (fun hc9 => ?_) (fun hc9 => ?_)
      · replace h := ite_t hc9 h
        refine WpC.conv (cS [.k [3, 8, 9, 10] [1003]] (by kernel_rfl) (by kernel_rfl)) (WpC.skip ?_)
        refine tnU ?_
        refine sqJ (fun st' => ∃ v10 : List (List UInt8), millwrightref01_Sorted.j11 k (millwrightref01_Sorted.l5 k a0 n) a0 v4 v10 = some o7 ∧ st' = ⟨[(3, .vec 1003 1 0 v10.length), (8, .p (.list .str) a0), (9, .p I6 ((a0.length : Int) : Int)), (10, .p I6 v4)], [(1003, .row 9 .str v10 false)]⟩) ?_ ?_
        · refine WpC.block ?_
          refine WpC.seq ?_
          obtain ⟨v12, hv12, h⟩ := bind_some h
          refine rS { its := [(0, .v .str hv12)] } [3, 5, 8, 9, 10] [1003] hN (by kernel_rfl) (by kernel_rfl) ?_
          refine tnU ?_
          refine WpC.seq ?_
          refine rS {} [3, 5, 6, 8, 9, 10] [1003] hN (by kernel_rfl) (by kernel_rfl) ?_
          refine tnU ?_
          refine sqJ (fun st' => ∃ v13 : Int, millwrightref01_Sorted.j28 k (millwrightref01_Sorted.l5 k a0 n) a0 v3 v4 v12 v13 = some o7 ∧ st' = ⟨[(3, .vec 1003 1 0 v3.length), (5, .p .str v12), (6, .p I6 v13), (8, .p (.list .str) a0), (9, .p I6 ((a0.length : Int) : Int)), (10, .p I6 v4)], [(1003, .row 9 .str v3 false)]⟩) ?_ ?_
          · refine WpC.block ?_
            obtain ⟨o32, hlo32, h⟩ := bind_some h
            have hout33 := h
            clear h
            refine WpC.loop (U := Un) (fun n st' => ∃ v29 : Int, millwrightref01_Sorted.l30 k a0 v3 v4 v12 n v29 = some o32 ∧ st' = ⟨[(3, .vec 1003 1 0 v3.length), (5, .p .str v12), (6, .p I6 v29), (8, .p (.list .str) a0), (9, .p I6 ((a0.length : Int) : Int)), (10, .p I6 v4)], [(1003, .row 9 .str v3 false)]⟩) k ⟨0, hlo32, by kernel_rfl⟩ ?_
            clear hlo32
            rintro (_ | n) _ ⟨v29, h, rfl⟩
            · cases h
            · rw [millwrightref01_Sorted.l30] at h
              refine sqJ (fun st' => millwrightref01_Sorted.j34 k (millwrightref01_Sorted.l30 k a0 v3 v4 v12 n) a0 v3 v4 v12 v29 = some o32 ∧ st' = ⟨[(3, .vec 1003 1 0 v3.length), (5, .p .str v12), (6, .p I6 v29), (8, .p (.list .str) a0), (9, .p I6 ((a0.length : Int) : Int)), (10, .p I6 v4)], [(1003, .row 9 .str v3 false)]⟩) ?_ ?_
              · refine sqJ (fun st' => ∃ v35 : Bool, millwrightref01_Sorted.j37 k (millwrightref01_Sorted.l30 k a0 v3 v4 v12 n) a0 v3 v4 v12 v29 v35 = some o32 ∧ st' = ⟨[(3, .vec 1003 1 0 v3.length), (5, .p .str v12), (6, .p I6 v29), (8, .p (.list .str) a0), (9, .p I6 ((a0.length : Int) : Int)), (10, .p I6 v4), (25, .p .bool v35)], [(1003, .row 9 .str v3 false)]⟩) ?_ ?_
                · rcases bool_cases (decide (v29 < (v3.length : Int))) with hc38 | hc38
                  · replace h := ite_t hc38 h
                    obtain ⟨g39, h⟩ := if_some h
                    obtain ⟨v40, hv40, h⟩ := bind_some h
                    refine rS { its := [(7, .g g39), (8, .v .str hv40)], kn := [(18, .t hc38)] } [3, 5, 6, 8, 9, 10, 25] [1003] hN (by kernel_rfl) (by kernel_rfl) ?_
                    refine tnU ?_
                    exact ⟨(Op.bytesLess v40 v12), h, by kernel_rfl⟩
                  · replace h := ite_f hc38 h
                    refine rS { kn := [(18, .f hc38)] } [3, 5, 6, 8, 9, 10, 25] [1003] hN (by kernel_rfl) (by kernel_rfl) ?_
                    refine tnU ?_
                    exact ⟨false, h, by kernel_rfl⟩
                · rintro _ ⟨v35, h, rfl⟩
                  unfold millwrightref01_Sorted.j37 at h
                  refine tS (b := v35) (by kernel_rfl) (fun hc36 => ?_) (fun hc36 => ?_)
                  · replace h := ite_t hc36 h
                    refine WpC.conv (cS [.k [3, 5, 6, 8, 9, 10] [1003]] (by kernel_rfl) (by kernel_rfl)) (WpC.skip ?_)
                    refine tnU ?_
                    exact ⟨h, by kernel_rfl⟩
                  · replace h := ite_f hc36 h
                    refine WpC.conv (cS [.k [3, 5, 6, 8, 9, 10] [1003]] (by kernel_rfl) (by kernel_rfl)) (WpC.exit ?_)
                    refine thenQ_exit ?_
                    have hq := Option.some.inj h
                    subst hq
                    refine thenQ_exit ?_
                    have h := hout33
                    refine blockQ_hit ?_
                    refine tnU ?_
                    exact ⟨v29, h, by kernel_rfl⟩
              · rintro _ ⟨h, rfl⟩
                unfold millwrightref01_Sorted.j34 at h
                refine WpC.block ?_
                refine rS {} [3, 5, 6, 8, 9, 10] [1003] hN (by kernel_rfl) (by kernel_rfl) ?_
                refine blockQ_normal ?_
                refine tnU ?_
                exact ⟨n, Nat.lt_succ_self n, (IntKind.i64.wrap (v29 + 1)), h, by kernel_rfl⟩
          · rintro _ ⟨v13, h, rfl⟩
            unfold millwrightref01_Sorted.j28 at h
            refine sqJ (fun st' => millwrightref01_Sorted.j21 k (millwrightref01_Sorted.l5 k a0 n) a0 v3 v4 v12 v13 = some o7 ∧ st' = ⟨[(3, .vec 1003 1 0 v3.length), (5, .p .str v12), (6, .p I6 v13), (8, .p (.list .str) a0), (9, .p I6 ((a0.length : Int) : Int)), (10, .p I6 v4)], [(1003, .row 9 .str v3 false)]⟩) ?_ ?_
            · refine sqJ (fun st' => ∃ v22 : Bool, millwrightref01_Sorted.j24 k (millwrightref01_Sorted.l5 k a0 n) a0 v3 v4 v12 v13 v22 = some o7 ∧ st' = ⟨[(3, .vec 1003 1 0 v3.length), (5, .p .str v12), (6, .p I6 v13), (8, .p (.list .str) a0), (9, .p I6 ((a0.length : Int) : Int)), (10, .p I6 v4), (39, .p .bool v22)], [(1003, .row 9 .str v3 false)]⟩) ?_ ?_
              · rcases bool_cases (decide (v13 < (v3.length : Int))) with hc25 | hc25
                · replace h := ite_t hc25 h
                  obtain ⟨g26, h⟩ := if_some h
                  obtain ⟨v27, hv27, h⟩ := bind_some h
                  refine rS { its := [(7, .g g26), (8, .v .str hv27)], kn := [(32, .t hc25)] } [3, 5, 6, 8, 9, 10, 39] [1003] hN (by kernel_rfl) (by kernel_rfl) ?_
                  refine tnU ?_
                  exact ⟨(v27 == v12), h, by kernel_rfl⟩
                · replace h := ite_f hc25 h
                  refine rS { kn := [(32, .f hc25)] } [3, 5, 6, 8, 9, 10, 39] [1003] hN (by kernel_rfl) (by kernel_rfl) ?_
                  refine tnU ?_
                  exact ⟨false, h, by kernel_rfl⟩
              · rintro _ ⟨v22, h, rfl⟩
                unfold millwrightref01_Sorted.j24 at h
                refine tS (b := v22) (by kernel_rfl) (fun hc23 => ?_) (fun hc23 => ?_)
                · replace h := ite_t hc23 h
                  refine WpC.conv (cS [.k [3, 8, 9, 10] [1003]] (by kernel_rfl) (by kernel_rfl)) (WpC.exit ?_)
                  refine thenQ_exit ?_
                  refine blockQ_hit ?_
                  refine tnU ?_
                  exact ⟨v3, h, by kernel_rfl⟩
                · replace h := ite_f hc23 h
                  refine WpC.conv (cS [.k [3, 5, 6, 8, 9, 10] [1003]] (by kernel_rfl) (by kernel_rfl)) (WpC.skip ?_)
                  refine tnU ?_
                  exact ⟨h, by kernel_rfl⟩
            · rintro _ ⟨h, rfl⟩
              unfold millwrightref01_Sorted.j21 at h
              obtain ⟨g14, h⟩ := if_some h
              obtain ⟨g15, h⟩ := if_some h
              obtain ⟨g16, h⟩ := if_some h
              obtain ⟨g17, h⟩ := if_some h
              obtain ⟨g18, h⟩ := if_some h
              obtain ⟨g19, h⟩ := if_some h
              obtain ⟨g20, h⟩ := if_some h
              refine rAC { its := [(3, .g g14), (4, .e 4 (sok_append' (U := Un) (t := .str) (rs := [(40, .vec 40 1 0 (([] : List (List UInt8)).length)), (43, .vec 1003 1 0 v13.toNat)]) (vw := [(1003, .row 9 .str v3 false)]) (xs := ([] : List (List UInt8))) (ys := ((v3.drop 0).take v13.toNat)) (fx := true) rfl rfl rfl row_34 (by decide) o0 o1 (.row 0 v13.toNat (.head _) g15) (by simp) g16)), (7, .g g17), (10, .g g18), (11, .e 11 (sok_append' (U := Un) (t := .str) (rs := [(47, .vec 47 1 0 (((([] : List (List UInt8)) ++ ((v3.drop 0).take v13.toNat)) ++ [v12]).length)), (50, .vec 1003 1 (0 + v13.toNat) ((v3.length : Int).toNat - v13.toNat))]) (vw := [(1003, .row 9 .str v3 false)]) (xs := ((([] : List (List UInt8)) ++ ((v3.drop 0).take v13.toNat)) ++ [v12])) (ys := ((v3.drop (0 + v13.toNat)).take ((v3.length : Int).toNat - v13.toNat))) (fx := false) rfl rfl rfl row_34 (by decide) o0 o1 (.row (0 + v13.toNat) ((v3.length : Int).toNat - v13.toNat) (.head _) g19) (by simp) g20))] } [3, 8, 9, 10] [51] hN (by kernel_rfl) (by kernel_rfl) (by kernel_rfl) (cS [.rn 51 1003, .k [3, 8, 9, 10] [1003]] (by kernel_rfl) (by kernel_rfl)) ?_
              refine blockQ_normal ?_
              refine tnU ?_
              exact ⟨(((([] : List (List UInt8)) ++ ((v3.drop 0).take v13.toNat)) ++ [v12]) ++ ((v3.drop (0 + v13.toNat)).take ((v3.length : Int).toNat - v13.toNat))), h, by kernel_rfl⟩
        · rintro _ ⟨v10, h, rfl⟩
          unfold millwrightref01_Sorted.j11 at h
          refine rS {} [3, 8, 9, 10] [1003] hN (by kernel_rfl) (by kernel_rfl) ?_
          refine tnU ?_
          exact ⟨n, Nat.lt_succ_self n, v10, (IntKind.i64.wrap (v4 + 1)), h, by kernel_rfl⟩
      · replace h := ite_f hc9 h
        refine WpC.conv (cS [.k [3] [1003]] (by kernel_rfl) (by kernel_rfl)) (WpC.exit ?_)
        refine thenQ_exit ?_
        have hq := Option.some.inj h
        subst hq
        refine thenQ_exit ?_
        have h := hout8
        refine blockQ_hit ?_
        refine tnU ?_
        exact ⟨v3, h, by kernel_rfl⟩
  · rintro _ ⟨v1, h, rfl⟩
    unfold millwrightref01_Sorted.j2 at h
    refine WpC.seq ?_
    refine rS {} [2] [1003] hN (by kernel_rfl) (by kernel_rfl) ?_
    refine tnU ?_
    refine WpC.conv (cS [.fz 2, .k [2] []] (by kernel_rfl) (by kernel_rfl)) (WpC.ret ?_)
    have hq := Option.some.inj h
    subst hq
    exact eR (by kernel_rfl) (by kernel_rfl)

theorem millwrightnum_SameTexts.ok (O : Out) (hO : GOk O) (k : Nat) (a0 : List (List UInt8)) (a1 : List (List UInt8)) (out : Bool) (h : millwrightnum_SameTexts.f k a0 a1 = some out) : COk Un O Tryz.prog 24 { ar := [.p (.list .str) a0, .p (.list .str) a1], r := .p .bool out } := by
  refine cok_of_wp Tryz.func24 rfl (k := 26) rfl (Nat.le_of_ble_eq_true rfl) (namesOk_pure rfl rfl rfl rfl) ?_
  intro B hN
  refine WpC.conv (cvK (b := ⟨[(0, .p (.list .str) a0), (1, .p (.list .str) a1)], []⟩) [0, 1] [] (by kernel_rfl)) ?_
  unfold millwrightnum_SameTexts.f at h
  refine WpC.seq ?_
  refine rS {} [0, 1] [] hN (by kernel_rfl) (by kernel_rfl) ?_
  refine tnU ?_
  refine WpC.seq ?_
  refine WpC.seq ?_
  refine rS {} [0, 1, 10] [] hN (by kernel_rfl) (by kernel_rfl) ?_
  refine tnU ?_
  refine tS (b := ((a0.length : Int) != (a1.length : Int))) (by kernel_rfl) (fun hc1 => ?_) (fun hc1 => ?_)
  · replace h := ite_t hc1 h
    refine WpC.seq ?_
    refine rS {} [4] [] hN (by kernel_rfl) (by kernel_rfl) ?_
    refine tnU ?_
    refine WpC.ret ?_
    refine thenQ_ret ?_
    have hq := Option.some.inj h
    subst hq
    exact eR (by kernel_rfl) (by kernel_rfl)
  · replace h := ite_f hc1 h
    refine WpC.conv (cS [.k [0, 1] []] (by kernel_rfl) (by kernel_rfl)) (WpC.skip ?_)
    refine tnU ?_
    refine sqJ (fun st' => millwrightnum_SameTexts.j2 k = some out ∧ st' = ⟨[], []⟩) ?_ ?_
    · refine WpC.seq ?_
      refine rS {} [0, 1, 12, 13] [] hN (by kernel_rfl) (by kernel_rfl) ?_
      refine tnU ?_
      refine WpC.block ?_
      obtain ⟨o5, hlo5, h⟩ := bind_some h
      have hout6 := h
      clear h
      refine WpC.loop (U := Un) (fun n st' => ∃ v3 : Int, millwrightnum_SameTexts.l4 k a0 a1 n v3 = some o5 ∧ st' = ⟨[(0, .p (.list .str) a0), (1, .p (.list .str) a1), (12, .p I6 ((a0.length : Int) : Int)), (13, .p I6 v3)], []⟩) k ⟨0, hlo5, by kernel_rfl⟩ ?_
      clear hlo5
      rintro (_ | n) _ ⟨v3, h, rfl⟩
      · cases h
      · rw [millwrightnum_SameTexts.l4] at h
        refine WpC.seq ?_
        refine rS {} [0, 1, 12, 13, 14] [] hN (by kernel_rfl) (by kernel_rfl) ?_
        refine tnU ?_
        refine WpC.seq ?_
        refine tS (b := (decide (v3 < (a0.length : Int)))) (by kernel_rfl) (fun hc7 => ?_) (fun hc7 => ?_)
        · replace h := ite_t hc7 h
          refine WpC.conv (cS [.k [0, 1, 12, 13] []] (by kernel_rfl) (by kernel_rfl)) (WpC.skip ?_)
          refine tnU ?_
          refine WpC.seq ?_
          refine WpC.block ?_
          refine WpC.seq ?_
          refine rS {} [0, 1, 5, 12, 13] [] hN (by kernel_rfl) (by kernel_rfl) ?_
          refine tnU ?_
          refine WpC.seq ?_
          obtain ⟨v8, hv8, h⟩ := bind_some h
          obtain ⟨v9, hv9, h⟩ := bind_some h
          refine rA { its := [(2, .v .str hv8), (6, .v .str hv9)] } [0, 1, 12, 13, 24] [] hN (by kernel_rfl) (by kernel_rfl) (by kernel_rfl) ?_
          refine tnU ?_
          refine tS (b := (!(v8 == v9))) (by kernel_rfl) (fun hc10 => ?_) (fun hc10 => ?_)
          · replace h := ite_t hc10 h
            refine WpC.seq ?_
            refine rS {} [4] [] hN (by kernel_rfl) (by kernel_rfl) ?_
            refine tnU ?_
            refine WpC.ret ?_
            refine blockQ_ret ?_
            refine thenQ_ret ?_
            have hq := Option.some.inj h
            subst hq
            refine thenQ_ret ?_
            have h := hout6
            refine blockQ_ret ?_
            refine thenQ_ret ?_
            have hq := Option.some.inj h
            subst hq
            exact eR (by kernel_rfl) (by kernel_rfl)
          · replace h := ite_f hc10 h
            refine WpC.conv (cS [.k [0, 1, 12, 13] []] (by kernel_rfl) (by kernel_rfl)) (WpC.skip ?_)
            refine blockQ_normal ?_
            refine tnU ?_
            refine rS {} [0, 1, 12, 13] [] hN (by kernel_rfl) (by kernel_rfl) ?_
            refine tnU ?_
            exact ⟨n, Nat.lt_succ_self n, (IntKind.i64.wrap (v3 + 1)), h, by kernel_rfl⟩
        · replace h := ite_f hc7 h
          refine WpC.conv (cS [.k [] []] (by kernel_rfl) (by kernel_rfl)) (WpC.exit ?_)
          refine thenQ_exit ?_
          have hq := Option.some.inj h
          subst hq
          refine thenQ_exit ?_
          have h := hout6
          refine blockQ_hit ?_
          refine tnU ?_
          exact ⟨h, by kernel_rfl⟩
    · rintro _ ⟨h, rfl⟩
      unfold millwrightnum_SameTexts.j2 at h
      refine WpC.seq ?_
      refine rS {} [4] [] hN (by kernel_rfl) (by kernel_rfl) ?_
      refine tnU ?_
      refine WpC.ret ?_
      have hq := Option.some.inj h
      subst hq
      exact eR (by kernel_rfl) (by kernel_rfl)

theorem tree_Of.ok (O : Out) (hO : GOk O) (k : Nat) (a0 : List T_tree_File) (out : Bool × (List ((List UInt8) × T_tree_File)) × Nat) (h : tree_Of.f k a0 = some out) : COk Un O Tryz.prog 10 { ar := [.p (.list (.named 3)) a0], r := .tup [.opt out.1 60500, .p .err out.2.2], bs' := [(60500, .opt out.1 (.box [.mp 60501])), (60501, .opt out.1 (.map (.named 3) out.2.1))], nn := [60500, 60501] } := by
  refine cok_of_wp Tryz.func10 rfl (k := 39) rfl (Nat.le_of_ble_eq_true rfl) (namesOk_of (by kernel_rfl)) ?_
  intro B hN
  refine WpC.conv (cvK (b := ⟨[(0, .p (.list (.named 3)) a0)], []⟩) [0] [] (by kernel_rfl)) ?_
  unfold tree_Of.f at h
  refine WpC.seq ?_
  refine rS {} [0] [] hN (by kernel_rfl) (by kernel_rfl) ?_
  refine tnU ?_
  refine WpC.seq ?_
  obtain ⟨v1, hv1, h⟩ := bind_some h
  refine rS { its := [(0, .c (COk.ren (tree_New.ok O hO k v1 hv1) (fun n => if n = 60500 then 10001 else if n = 60501 then 10002 else n) (injOn_of (by kernel_rfl))))] } [0, 4] [10001, 10002] hN (by kernel_rfl) (by kernel_rfl) ?_
  refine tnU ?_
  refine sqJ (fun st' => ∃ v2 : List ((List UInt8) × T_tree_File), tree_Of.j3 k v2 = some out ∧ st' = ⟨[(4, .loc 10001 0)], [(10001, .box [.mp 10002]), (10002, .map (.named 3) v2)]⟩) ?_ ?_
  · refine WpC.seq ?_
    refine rS {} [4, 11, 12, 13] [10001, 10002] hN (by kernel_rfl) (by kernel_rfl) ?_
    refine tnU ?_
    refine WpC.block ?_
    obtain ⟨o8, hlo8, h⟩ := bind_some h
    have hout9 := h
    clear h
    refine WpC.loop (U := Un) (fun n st' => ∃ v4 : List ((List UInt8) × T_tree_File), ∃ v5 : Int, tree_Of.l6 k a0 n v4 v5 = some o8 ∧ st' = ⟨[(4, .loc 10001 0), (11, .p (.list (.named 3)) a0), (12, .p I6 ((a0.length : Int) : Int)), (13, .p I6 v5)], [(10001, .box [.mp 10002]), (10002, .map (.named 3) v4)]⟩) k ⟨v1, 0, hlo8, by kernel_rfl⟩ ?_
    clear hlo8
    rintro (_ | n) _ ⟨v4, v5, h, rfl⟩
    · cases h
    · rw [tree_Of.l6] at h
      refine WpC.seq ?_
      refine rS {} [4, 11, 12, 13, 14] [10001, 10002] hN (by kernel_rfl) (by kernel_rfl) ?_
      refine tnU ?_
      refine WpC.seq ?_
      refine tS (b := (decide (v5 < (a0.length : Int)))) (by kernel_rfl) (fun hc10 => ?_) (fun hc10 => ?_)
      · replace h := ite_t hc10 h
        refine WpC.conv (cS [.k [4, 11, 12, 13] [10001, 10002]] (by kernel_rfl) (by kernel_rfl)) (WpC.skip ?_)
        refine tnU ?_
        refine WpC.seq ?_
        refine WpC.block ?_
        refine WpC.seq ?_
        obtain ⟨v11, hv11, h⟩ := bind_some h
        refine rS { its := [(0, .v (.named 3) hv11)] } [4, 6, 11, 12, 13] [6, 10001, 10002] hN (by kernel_rfl) (by kernel_rfl) ?_
        refine tnU ?_
        refine WpC.seq ?_
        refine WpC.seq ?_
        obtain ⟨v12, hv12, h⟩ := bind_some h
        refine rS { its := [(3, .c (COk.ren (tree_Tree_Get_m0.ok O hO k v4 v11.f_Name v12 hv12) (fun n => if n = 100000 then 10001 else if n = 100001 then 10002 else n) (injOn_of (by kernel_rfl))))] } [4, 6, 8, 11, 12, 13] [6, 10001, 10002] hN (by kernel_rfl) (by kernel_rfl) ?_
        refine tnU ?_
        refine WpC.seq ?_
        refine rS {} [4, 6, 11, 12, 13, 24] [6, 10001, 10002] hN (by kernel_rfl) (by kernel_rfl) ?_
        refine tnU ?_
        refine tS (b := v12.2) (by kernel_rfl) (fun hc13 => ?_) (fun hc13 => ?_)
        · replace h := ite_t hc13 h
          refine WpC.seq ?_
          refine rA { its := [(0, .e 0 (sok_loadG (U := Un) (t := .err) (rs := []) rfl rfl ty_27 rfl rfl (hO.var 8 0 rfl) (fun S w => .err 8)))] } [2, 3] [] hN (by kernel_rfl) (by kernel_rfl) (by kernel_rfl) ?_
          refine tnU ?_
          refine WpC.conv (cS [.oN 60501 (.map (.named 3) ([] : List ((List UInt8) × T_tree_File))), .k [2, 3] [60501], .oN 60500 (.box [.mp 60501]), .k [2, 3] [60500, 60501], .oZ 2 60500, .k [2, 3] [60500, 60501]] (by kernel_rfl) (by kernel_rfl)) (WpC.ret ?_)
          refine thenQ_ret ?_
          refine blockQ_ret ?_
          refine thenQ_ret ?_
          have hq := Option.some.inj h
          subst hq
          refine thenQ_ret ?_
          have h := hout9
          refine blockQ_ret ?_
          refine thenQ_ret ?_
          have hq := Option.some.inj h
          subst hq
          exact eR (by kernel_rfl) (by kernel_rfl)
        · replace h := ite_f hc13 h
          refine WpC.conv (cS [.k [4, 6, 11, 12, 13] [6, 10001, 10002]] (by kernel_rfl) (by kernel_rfl)) (WpC.skip ?_)
          refine tnU ?_
          refine WpC.seq ?_
          obtain ⟨v14, hv14, h⟩ := bind_some h
          refine rS { its := [(7, .c (COk.ren (tree_Tree_Put_m0.ok O hO k v4 v11.f_Name v11.f_Content v11.f_Time v14 hv14) (fun n => if n = 100000 then 10001 else if n = 100001 then 10002 else n) (injOn_of (by kernel_rfl))))] } [4, 9, 11, 12, 13] [10001, 10002] hN (by kernel_rfl) (by kernel_rfl) ?_
          refine tnU ?_
          refine WpC.seq ?_
          refine rS {} [4, 9, 11, 12, 13, 35] [10001, 10002] hN (by kernel_rfl) (by kernel_rfl) ?_
          refine tnU ?_
          refine tS (b := (!(v14.1 == 0))) (by kernel_rfl) (fun hc15 => ?_) (fun hc15 => ?_)
          · replace h := ite_t hc15 h
            refine WpC.seq ?_
            refine rS {} [2, 3] [] hN (by kernel_rfl) (by kernel_rfl) ?_
            refine tnU ?_
            refine WpC.conv (cS [.oN 60501 (.map (.named 3) ([] : List ((List UInt8) × T_tree_File))), .k [2, 3] [60501], .oN 60500 (.box [.mp 60501]), .k [2, 3] [60500, 60501], .oZ 2 60500, .k [2, 3] [60500, 60501]] (by kernel_rfl) (by kernel_rfl)) (WpC.ret ?_)
            refine blockQ_ret ?_
            refine thenQ_ret ?_
            have hq := Option.some.inj h
            subst hq
            refine thenQ_ret ?_
            have h := hout9
            refine blockQ_ret ?_
            refine thenQ_ret ?_
            have hq := Option.some.inj h
            subst hq
            exact eR (by kernel_rfl) (by kernel_rfl)
          · replace h := ite_f hc15 h
            refine WpC.conv (cS [.k [4, 11, 12, 13] [10001, 10002]] (by kernel_rfl) (by kernel_rfl)) (WpC.skip ?_)
            refine blockQ_normal ?_
            refine tnU ?_
            refine rS {} [4, 11, 12, 13] [10001, 10002] hN (by kernel_rfl) (by kernel_rfl) ?_
            refine tnU ?_
            exact ⟨n, Nat.lt_succ_self n, v14.2, (IntKind.i64.wrap (v5 + 1)), h, by kernel_rfl⟩
      · replace h := ite_f hc10 h
        refine WpC.conv (cS [.k [4] [10001, 10002]] (by kernel_rfl) (by kernel_rfl)) (WpC.exit ?_)
        refine thenQ_exit ?_
        have hq := Option.some.inj h
        subst hq
        refine thenQ_exit ?_
        have h := hout9
        refine blockQ_hit ?_
        refine tnU ?_
        exact ⟨v4, h, by kernel_rfl⟩
  · rintro _ ⟨v2, h, rfl⟩
    unfold tree_Of.j3 at h
    refine WpC.seq ?_
    refine rS {} [2, 3] [10001, 10002] hN (by kernel_rfl) (by kernel_rfl) ?_
    refine tnU ?_
    refine WpC.conv (cS [.nE 3, .k [2, 3] [10001, 10002], .rn 10002 60501, .k [2, 3] [10001, 60501], .rn 10001 60500, .k [2, 3] [60500, 60501], .oB 60500, .k [2, 3] [60500, 60501], .oB 60501, .k [2, 3] [60500, 60501], .oL 2, .k [2, 3] [60500, 60501]] (by kernel_rfl) (by kernel_rfl)) (WpC.ret ?_)
    have hq := Option.some.inj h
    subst hq
    exact eR (by kernel_rfl) (by kernel_rfl)

theorem millwrightlaw05_EffectOwn.ok (O : Out) (hO : GOk O) (k : Nat) (a0 : List T_tree_File) (a1 : List T_effect_Effect) (a2 : List (List UInt8)) (out : Bool) (h : millwrightlaw05_EffectOwn.f k a0 a1 a2 = some out) : COk Un O Tryz.prog 5 { ar := [.p (.list (.named 3)) a0, .p (.list (.named 4)) a1, .p (.list .str) a2], r := .p .bool out } := by
  refine cok_of_wp Tryz.func5 rfl (k := 140) rfl (Nat.le_of_ble_eq_true rfl) (namesOk_pure rfl rfl rfl rfl) ?_
  intro B hN
  refine WpC.conv (cvK (b := ⟨[(0, .p (.list (.named 3)) a0), (1, .p (.list (.named 4)) a1), (2, .p (.list .str) a2)], []⟩) [0, 1, 2] [] (by kernel_rfl)) ?_
  unfold millwrightlaw05_EffectOwn.f at h
  refine WpC.seq ?_
  refine rS {} [0, 1, 2] [] hN (by kernel_rfl) (by kernel_rfl) ?_
  refine tnU ?_
  refine WpC.seq ?_
  refine WpC.seq ?_
  obtain ⟨v1, hv1, h⟩ := bind_some h
  refine rS { its := [(0, .c (millwrightlaw05_alive.ok O hO k v1 hv1))] } [0, 1, 2, 24] [] hN (by kernel_rfl) (by kernel_rfl) ?_
  refine tnU ?_
  refine tS (b := (!v1)) (by kernel_rfl) (fun hc2 => ?_) (fun hc2 => ?_)
  · replace h := ite_t hc2 h
    refine WpC.seq ?_
    refine rS {} [6] [] hN (by kernel_rfl) (by kernel_rfl) ?_
    refine tnU ?_
    refine WpC.ret ?_
    refine thenQ_ret ?_
    have hq := Option.some.inj h
    subst hq
    exact eR (by kernel_rfl) (by kernel_rfl)
  · replace h := ite_f hc2 h
    refine WpC.conv (cS [.k [0, 1, 2] []] (by kernel_rfl) (by kernel_rfl)) (WpC.skip ?_)
    refine tnU ?_
    refine sqJ (fun st' => millwrightlaw05_EffectOwn.j77 k a0 a1 a2 = some out ∧ st' = ⟨[(0, .p (.list (.named 3)) a0), (1, .p (.list (.named 4)) a1), (2, .p (.list .str) a2)], []⟩) ?_ ?_
    · refine sqJ (fun st' => ∃ v78 : Bool, millwrightlaw05_EffectOwn.j80 k a0 a1 a2 v78 = some out ∧ st' = ⟨[(0, .p (.list (.named 3)) a0), (1, .p (.list (.named 4)) a1), (2, .p (.list .str) a2), (34, .p .bool v78)], []⟩) ?_ ?_
      · obtain ⟨v81, hv81, h⟩ := bind_some h
        rcases bool_cases v81 with hc82 | hc82
        · replace h := ite_t hc82 h
          refine rS { its := [(1, .c (millwrightlaw02_Long.ok O hO k a0 40 v81 hv81))], kn := [(27, .t hc82)] } [0, 1, 2, 34] [] hN (by kernel_rfl) (by kernel_rfl) ?_
          refine tnU ?_
          exact ⟨true, h, by kernel_rfl⟩
        · replace h := ite_f hc82 h
          obtain ⟨v83, hv83, h⟩ := bind_some h
          rcases bool_cases v83 with hc84 | hc84
          · replace h := ite_t hc84 h
            refine rS { its := [(1, .c (millwrightlaw02_Long.ok O hO k a0 40 v81 hv81)), (4, .c (millwrightlaw05_Long.ok O hO k a1 40 v83 hv83))], kn := [(27, .f hc82), (31, .t hc84)] } [0, 1, 2, 34] [] hN (by kernel_rfl) (by kernel_rfl) ?_
            refine tnU ?_
            exact ⟨true, h, by kernel_rfl⟩
          · replace h := ite_f hc84 h
            obtain ⟨v85, hv85, h⟩ := bind_some h
            refine rS { its := [(1, .c (millwrightlaw02_Long.ok O hO k a0 40 v81 hv81)), (4, .c (millwrightlaw05_Long.ok O hO k a1 40 v83 hv83)), (8, .c (millwrightnum_Long.ok O hO k a2 30 100 v85 hv85))], kn := [(27, .f hc82), (31, .f hc84)] } [0, 1, 2, 34] [] hN (by kernel_rfl) (by kernel_rfl) ?_
            refine tnU ?_
            exact ⟨v85, h, by kernel_rfl⟩
      · rintro _ ⟨v78, h, rfl⟩
        unfold millwrightlaw05_EffectOwn.j80 at h
        refine tS (b := v78) (by kernel_rfl) (fun hc79 => ?_) (fun hc79 => ?_)
        · replace h := ite_t hc79 h
          refine WpC.seq ?_
          refine rS {} [6] [] hN (by kernel_rfl) (by kernel_rfl) ?_
          refine tnU ?_
          refine WpC.ret ?_
          refine thenQ_ret ?_
          have hq := Option.some.inj h
          subst hq
          exact eR (by kernel_rfl) (by kernel_rfl)
        · replace h := ite_f hc79 h
          refine WpC.conv (cS [.k [0, 1, 2] []] (by kernel_rfl) (by kernel_rfl)) (WpC.skip ?_)
          refine tnU ?_
          exact ⟨h, by kernel_rfl⟩
    · rintro _ ⟨h, rfl⟩
      unfold millwrightlaw05_EffectOwn.j77 at h
      refine WpC.seq ?_
      refine rS {} [0, 1, 2, 7] [] hN (by kernel_rfl) (by kernel_rfl) ?_
      refine tnU ?_
      refine WpC.seq ?_
      refine rSC {} [0, 1, 2, 7, 8] [35] hN (by kernel_rfl) (by kernel_rfl) (cS [.k [0, 1, 2, 7, 8] [35], .x (Conv.cast (U := Un) (st := ⟨[(0, .p (.list (.named 3)) a0), (1, .p (.list (.named 4)) a1), (2, .p (.list .str) a2), (7, .p .bool true), (8, .vec 35 1 0 (([] : List (List UInt8)).length))], [(35, .row 9 .str ([] : List (List UInt8)) true)]⟩) (st' := ⟨[(0, .p (.list (.named 3)) a0), (1, .p (.list (.named 4)) a1), (2, .p (.list .str) a2), (7, .p .bool true), (8, .vec 35 1 0 0)], [(35, .row 9 .str ([] : List (List UInt8)) true)]⟩) (by simp only [upd_length, List.length_nil, List.length_replicate]))] (by kernel_rfl) (by kernel_rfl)) ?_
      refine tnU ?_
      refine sqJ (fun st' => ∃ v3 : Bool, ∃ v4 : List (List UInt8), millwrightlaw05_EffectOwn.j57 k a0 a1 a2 v3 v4 = some out ∧ st' = ⟨[(0, .p (.list (.named 3)) a0), (1, .p (.list (.named 4)) a1), (2, .p (.list .str) a2), (7, .p .bool v3), (8, .vec 1008 1 0 v4.length)], [(1008, .row 9 .str v4 false)]⟩) ?_ ?_
      · refine WpC.seq ?_
        refine rS {} [0, 1, 2, 7, 8, 36, 37, 38] [35] hN (by kernel_rfl) (by kernel_rfl) ?_
        refine tnU ?_
        refine WpC.block ?_
        obtain ⟨o64, hlo64, h⟩ := bind_some h
        have hout65 := h
        clear h
        refine WpC.conv (cS [.lo 35, .k [0, 1, 2, 7, 8, 36, 37, 38] [35], .rn 35 1008, .k [0, 1, 2, 7, 8, 36, 37, 38] [1008]] (by kernel_rfl) (by kernel_rfl)) ?_
        refine WpC.loop (U := Un) (fun n st' => ∃ v58 : Bool, ∃ v59 : List (List UInt8), ∃ v60 : Int, millwrightlaw05_EffectOwn.l61 k a0 a1 a2 n v58 v59 v60 = some o64 ∧ st' = ⟨[(0, .p (.list (.named 3)) a0), (1, .p (.list (.named 4)) a1), (2, .p (.list .str) a2), (7, .p .bool v58), (8, .vec 1008 1 0 v59.length), (36, .p (.list (.named 4)) a1), (37, .p I6 ((a1.length : Int) : Int)), (38, .p I6 v60)], [(1008, .row 9 .str v59 false)]⟩) k ⟨true, ([] : List (List UInt8)), 0, hlo64, by kernel_rfl⟩ ?_
        clear hlo64
        rintro (_ | n) _ ⟨v58, v59, v60, h, rfl⟩
        · cases h
        · rw [millwrightlaw05_EffectOwn.l61] at h
          refine WpC.seq ?_
          refine rS {} [0, 1, 2, 7, 8, 36, 37, 38, 39] [1008] hN (by kernel_rfl) (by kernel_rfl) ?_
          refine tnU ?_
          refine WpC.seq ?_
          refine tS (b := (decide (v60 < (a1.length : Int)))) (by kernel_rfl) (fun hc66 => ?_) (fun hc66 => ?_)
          · replace h := ite_t hc66 h
            refine WpC.conv (cS [.k [0, 1, 2, 7, 8, 36, 37, 38] [1008]] (by kernel_rfl) (by kernel_rfl)) (WpC.skip ?_)
            refine tnU ?_
            refine sqJ (fun st' => ∃ v67 : Bool, ∃ v68 : List (List UInt8), millwrightlaw05_EffectOwn.j69 k (millwrightlaw05_EffectOwn.l61 k a0 a1 a2 n) a0 a1 a2 v60 v67 v68 = some o64 ∧ st' = ⟨[(0, .p (.list (.named 3)) a0), (1, .p (.list (.named 4)) a1), (2, .p (.list .str) a2), (7, .p .bool v67), (8, .vec 1008 1 0 v68.length), (36, .p (.list (.named 4)) a1), (37, .p I6 ((a1.length : Int) : Int)), (38, .p I6 v60)], [(1008, .row 9 .str v68 false)]⟩) ?_ ?_
            · refine WpC.block ?_
              refine WpC.seq ?_
              obtain ⟨v70, hv70, h⟩ := bind_some h
              refine rS { its := [(0, .v (.named 4) hv70)] } [0, 1, 2, 7, 8, 10, 36, 37, 38] [10, 1008] hN (by kernel_rfl) (by kernel_rfl) ?_
              refine tnU ?_
              refine sqJ (fun st' => ∃ v71 : Bool, millwrightlaw05_EffectOwn.j73 k (millwrightlaw05_EffectOwn.l61 k a0 a1 a2 n) a0 a1 a2 v59 v60 v70 v71 = some o64 ∧ st' = ⟨[(0, .p (.list (.named 3)) a0), (1, .p (.list (.named 4)) a1), (2, .p (.list .str) a2), (7, .p .bool v71), (8, .vec 1008 1 0 v59.length), (10, .loc 10 0), (36, .p (.list (.named 4)) a1), (37, .p I6 ((a1.length : Int) : Int)), (38, .p I6 v60)], [(10, .box [.p I6 v70.f_Op, .p .str v70.f_Name, .p .str v70.f_Text]), (1008, .row 9 .str v59 false)]⟩) ?_ ?_
              · rcases bool_cases v58 with hc74 | hc74
                · replace h := ite_t hc74 h
                  obtain ⟨v75, hv75, h⟩ := bind_some h
                  refine rS { its := [(5, .c (millwrightnum_Has.ok O hO k a2 v70.f_Name v75 hv75))], kn := [(43, .t hc74)] } [0, 1, 2, 7, 8, 10, 36, 37, 38] [10, 1008] hN (by kernel_rfl) (by kernel_rfl) ?_
                  refine tnU ?_
                  exact ⟨v75, h, by kernel_rfl⟩
                · replace h := ite_f hc74 h
                  refine rS { kn := [(43, .f hc74)] } [0, 1, 2, 7, 8, 10, 36, 37, 38] [10, 1008] hN (by kernel_rfl) (by kernel_rfl) ?_
                  refine tnU ?_
                  exact ⟨false, h, by kernel_rfl⟩
              · rintro _ ⟨v71, h, rfl⟩
                unfold millwrightlaw05_EffectOwn.j73 at h
                obtain ⟨g72, h⟩ := if_some h
                refine rSC { its := [(4, .g g72)] } [0, 1, 2, 7, 8, 36, 37, 38] [53] hN (by kernel_rfl) (by kernel_rfl) (cS [.rn 53 1008, .k [0, 1, 2, 7, 8, 36, 37, 38] [1008]] (by kernel_rfl) (by kernel_rfl)) ?_
                refine blockQ_normal ?_
                refine tnU ?_
                exact ⟨v71, (v59 ++ [v70.f_Name]), h, by kernel_rfl⟩
            · rintro _ ⟨v67, v68, h, rfl⟩
              unfold millwrightlaw05_EffectOwn.j69 at h
              refine rS {} [0, 1, 2, 7, 8, 36, 37, 38] [1008] hN (by kernel_rfl) (by kernel_rfl) ?_
              refine tnU ?_
              exact ⟨n, Nat.lt_succ_self n, v67, v68, (IntKind.i64.wrap (v60 + 1)), h, by kernel_rfl⟩
          · replace h := ite_f hc66 h
            refine WpC.conv (cS [.k [0, 1, 2, 7, 8] [1008]] (by kernel_rfl) (by kernel_rfl)) (WpC.exit ?_)
            refine thenQ_exit ?_
            have hq := Option.some.inj h
            subst hq
            refine thenQ_exit ?_
            have h := hout65
            refine blockQ_hit ?_
            refine tnU ?_
            exact ⟨v58, v59, h, by kernel_rfl⟩
      · rintro _ ⟨v3, v4, h, rfl⟩
        unfold millwrightlaw05_EffectOwn.j57 at h
        refine sqJ (fun st' => millwrightlaw05_EffectOwn.j48 k a0 a1 a2 v3 = some out ∧ st' = ⟨[(0, .p (.list (.named 3)) a0), (1, .p (.list (.named 4)) a1), (2, .p (.list .str) a2), (7, .p .bool v3)], []⟩) ?_ ?_
        · refine sqJ (fun st' => ∃ v49 : Bool, millwrightlaw05_EffectOwn.j51 k a0 a1 a2 v3 v49 = some out ∧ st' = ⟨[(0, .p (.list (.named 3)) a0), (1, .p (.list (.named 4)) a1), (2, .p (.list .str) a2), (7, .p .bool v3), (67, .p .bool v49)], []⟩) ?_ ?_
          · obtain ⟨v52, hv52, h⟩ := bind_some h
            rcases bool_cases (!(v52 == v3)) with hc53 | hc53
            · replace h := ite_t hc53 h
              refine rS { its := [(2, .c (effect_Own.ok O hO k a1 a2 v52 hv52))], kn := [(60, .t hc53)] } [0, 1, 2, 7, 67] [] hN (by kernel_rfl) (by kernel_rfl) ?_
              refine tnU ?_
              exact ⟨true, h, by kernel_rfl⟩
            · replace h := ite_f hc53 h
              obtain ⟨v54, hv54, h⟩ := bind_some h
              obtain ⟨v55, hv55, h⟩ := bind_some h
              obtain ⟨v56, hv56, h⟩ := bind_some h
              refine rS { its := [(2, .c (effect_Own.ok O hO k a1 a2 v52 hv52)), (7, .c (effect_Names.ok O hO k a1 v54 hv54)), (9, .c (millwrightref01_Sorted.ok O hO k v4 v55 hv55)), (10, .c (millwrightnum_SameTexts.ok O hO k v54 v55 v56 hv56))], kn := [(60, .f hc53)] } [0, 1, 2, 7, 67] [] hN (by kernel_rfl) (by kernel_rfl) ?_
              refine tnU ?_
              exact ⟨(!v56), h, by kernel_rfl⟩
          · rintro _ ⟨v49, h, rfl⟩
            unfold millwrightlaw05_EffectOwn.j51 at h
            refine tS (b := v49) (by kernel_rfl) (fun hc50 => ?_) (fun hc50 => ?_)
            · replace h := ite_t hc50 h
              refine WpC.seq ?_
              refine rS {} [6] [] hN (by kernel_rfl) (by kernel_rfl) ?_
              refine tnU ?_
              refine WpC.ret ?_
              refine thenQ_ret ?_
              have hq := Option.some.inj h
              subst hq
              exact eR (by kernel_rfl) (by kernel_rfl)
            · replace h := ite_f hc50 h
              refine WpC.conv (cS [.k [0, 1, 2, 7] []] (by kernel_rfl) (by kernel_rfl)) (WpC.skip ?_)
              refine tnU ?_
              exact ⟨h, by kernel_rfl⟩
        · rintro _ ⟨h, rfl⟩
          unfold millwrightlaw05_EffectOwn.j48 at h
          refine WpC.seq ?_
          obtain ⟨v5, hv5, h⟩ := bind_some h
          refine rS { its := [(1, .c (COk.ren (tree_Of.ok O hO k a0 v5 hv5) (fun n => if n = 60500 then 10001 else if n = 60501 then 10002 else n) (injOn_of (by kernel_rfl))))] } [0, 1, 2, 7, 11, 12] [10001, 10002] hN (by kernel_rfl) (by kernel_rfl) ?_
          refine tnU ?_
          refine sqJ (fun st' => millwrightlaw05_EffectOwn.j42 k a0 a1 a2 v5 = some out ∧ st' = ⟨[(0, .p (.list (.named 3)) a0), (1, .p (.list (.named 4)) a1), (2, .p (.list .str) a2), (11, .opt v5.1 10001)], [(10001, .opt v5.1 (.box [.mp 10002])), (10002, .opt v5.1 (.map (.named 3) v5.2.1))]⟩) ?_ ?_
          · refine sqJ (fun st' => ∃ v43 : Bool, millwrightlaw05_EffectOwn.j46 k a0 a1 a2 v5 v43 = some out ∧ st' = ⟨[(0, .p (.list (.named 3)) a0), (1, .p (.list (.named 4)) a1), (2, .p (.list .str) a2), (11, .opt v5.1 10001), (12, .p .err v5.2.2), (78, .p .bool v43)], [(10001, .opt v5.1 (.box [.mp 10002])), (10002, .opt v5.1 (.map (.named 3) v5.2.1))]⟩) ?_ ?_
            · rcases bool_cases (!(v5.2.2 == 0)) with hc47 | hc47
              · replace h := ite_t hc47 h
                refine rS { kn := [(75, .t hc47)] } [0, 1, 2, 11, 12, 78] [10001, 10002] hN (by kernel_rfl) (by kernel_rfl) ?_
                refine tnU ?_
                exact ⟨true, h, by kernel_rfl⟩
              · replace h := ite_f hc47 h
                refine rS { kn := [(75, .f hc47)] } [0, 1, 2, 11, 12, 78] [10001, 10002] hN (by kernel_rfl) (by kernel_rfl) ?_
                refine tnU ?_
                exact ⟨(!v3), h, by kernel_rfl⟩
            · rintro _ ⟨v43, h, rfl⟩
              unfold millwrightlaw05_EffectOwn.j46 at h
              refine tS (b := v43) (by kernel_rfl) (fun hc44 => ?_) (fun hc44 => ?_)
              · replace h := ite_t hc44 h
                refine WpC.seq ?_
                rcases bool_cases (v5.2.2 == 0) with hc45 | hc45
                · replace h := ite_t hc45 h
                  refine rS { kn := [(81, .t hc45)] } [6] [] hN (by kernel_rfl) (by kernel_rfl) ?_
                  refine tnU ?_
                  refine WpC.ret ?_
                  refine thenQ_ret ?_
                  have hq := Option.some.inj h
                  subst hq
                  exact eR (by kernel_rfl) (by kernel_rfl)
                · replace h := ite_f hc45 h
                  refine rS { kn := [(81, .f hc45)] } [6] [] hN (by kernel_rfl) (by kernel_rfl) ?_
                  refine tnU ?_
                  refine WpC.ret ?_
                  refine thenQ_ret ?_
                  have hq := Option.some.inj h
                  subst hq
                  exact eR (by kernel_rfl) (by kernel_rfl)
              · replace h := ite_f hc44 h
                refine WpC.conv (cS [.k [0, 1, 2, 11] [10001, 10002]] (by kernel_rfl) (by kernel_rfl)) (WpC.skip ?_)
                refine tnU ?_
                exact ⟨h, by kernel_rfl⟩
          · rintro _ ⟨h, rfl⟩
            unfold millwrightlaw05_EffectOwn.j42 at h
            refine WpC.seq ?_
            obtain ⟨hc6, h⟩ := if_some h
            refine WpC.conv (cS [.oS 11 hc6, .k [0, 1, 2, 11] [10001, 10002], .oK 10001 hc6, .k [0, 1, 2, 11] [10001, 10002], .oK 10002 hc6, .k [0, 1, 2, 11] [10001, 10002]] (by kernel_rfl) (by kernel_rfl)) ?_
            obtain ⟨v7, hv7, h⟩ := bind_some h
            refine rS { its := [(2, .c (COk.ren (effect_Apply_m0.ok O hO k v5.2.1 5 a1 v7 hv7) (fun n => if n = 100000 then 10001 else if n = 100001 then 10002 else n) (injOn_of (by kernel_rfl))))] } [0, 2, 11] [10001, 10002] hN (by kernel_rfl) (by kernel_rfl) ?_
            refine tnU ?_
            refine WpC.seq ?_
            obtain ⟨g8, h⟩ := if_some h
            refine rS { its := [(2, .g g8)] } [0, 2, 11, 13] [93, 10001, 10002] hN (by kernel_rfl) (by kernel_rfl) ?_
            refine tnU ?_
            refine sqJ (fun st' => ∃ v9 : List (List UInt8), millwrightlaw05_EffectOwn.j27 k a0 v7 v9 = some out ∧ st' = ⟨[(0, .p (.list (.named 3)) a0), (11, .loc 10001 0), (13, .vec 1013 1 0 v9.length)], [(1013, .row 9 .str v9 false), (10001, .box [.mp 10002]), (10002, .map (.named 3) v7.2.2)]⟩) ?_ ?_
            · refine WpC.seq ?_
              refine rS {} [0, 11, 13, 94, 95, 96] [93, 10001, 10002] hN (by kernel_rfl) (by kernel_rfl) ?_
              refine tnU ?_
              refine WpC.block ?_
              obtain ⟨o32, hlo32, h⟩ := bind_some h
              have hout33 := h
              clear h
              refine WpC.conv (cS [.rn 93 1013, .k [0, 11, 13, 94, 95, 96] [1013, 10001, 10002]] (by kernel_rfl) (by kernel_rfl)) ?_
              refine WpC.loop (U := Un) (fun n st' => ∃ v28 : List (List UInt8), ∃ v29 : Int, millwrightlaw05_EffectOwn.l30 k a0 a2 v7 n v28 v29 = some o32 ∧ st' = ⟨[(0, .p (.list (.named 3)) a0), (11, .loc 10001 0), (13, .vec 1013 1 0 v28.length), (94, .p (.list .str) a2), (95, .p I6 ((a2.length : Int) : Int)), (96, .p I6 v29)], [(1013, .row 9 .str v28 false), (10001, .box [.mp 10002]), (10002, .map (.named 3) v7.2.2)]⟩) k ⟨(([] : List (List UInt8)) ++ a2), 0, hlo32, by kernel_rfl⟩ ?_
              clear hlo32
              rintro (_ | n) _ ⟨v28, v29, h, rfl⟩
              · cases h
              · rw [millwrightlaw05_EffectOwn.l30] at h
                refine WpC.seq ?_
                refine rS {} [0, 11, 13, 94, 95, 96, 97] [1013, 10001, 10002] hN (by kernel_rfl) (by kernel_rfl) ?_
                refine tnU ?_
                refine WpC.seq ?_
                refine tS (b := (decide (v29 < (a2.length : Int)))) (by kernel_rfl) (fun hc34 => ?_) (fun hc34 => ?_)
                · replace h := ite_t hc34 h
                  refine WpC.conv (cS [.k [0, 11, 13, 94, 95, 96] [1013, 10001, 10002]] (by kernel_rfl) (by kernel_rfl)) (WpC.skip ?_)
                  refine tnU ?_
                  refine sqJ (fun st' => ∃ v35 : List (List UInt8), millwrightlaw05_EffectOwn.j36 k (millwrightlaw05_EffectOwn.l30 k a0 a2 v7 n) a0 a2 v7 v29 v35 = some o32 ∧ st' = ⟨[(0, .p (.list (.named 3)) a0), (11, .loc 10001 0), (13, .vec 1013 1 0 v35.length), (94, .p (.list .str) a2), (95, .p I6 ((a2.length : Int) : Int)), (96, .p I6 v29)], [(1013, .row 9 .str v35 false), (10001, .box [.mp 10002]), (10002, .map (.named 3) v7.2.2)]⟩) ?_ ?_
                  · refine WpC.block ?_
                    refine WpC.seq ?_
                    obtain ⟨v37, hv37, h⟩ := bind_some h
                    refine rS { its := [(0, .v .str hv37)] } [0, 11, 13, 15, 94, 95, 96] [1013, 10001, 10002] hN (by kernel_rfl) (by kernel_rfl) ?_
                    refine tnU ?_
                    refine WpC.seq ?_
                    obtain ⟨v38, hv38, h⟩ := bind_some h
                    refine rS { its := [(1, .c (millwrightref01_Member.ok O hO k v37 v38 hv38))] } [0, 11, 13, 16, 18, 94, 95, 96] [1013, 10001, 10002] hN (by kernel_rfl) (by kernel_rfl) ?_
                    refine tnU ?_
                    refine WpC.seq ?_
                    refine rS {} [0, 11, 13, 16, 94, 95, 96, 106] [1013, 10001, 10002] hN (by kernel_rfl) (by kernel_rfl) ?_
                    refine tnU ?_
                    refine tS (b := v38.2.2) (by kernel_rfl) (fun hc39 => ?_) (fun hc39 => ?_)
                    · replace h := ite_t hc39 h
                      obtain ⟨g40, h⟩ := if_some h
                      refine rSC { its := [(3, .g g40)] } [0, 11, 13, 94, 95, 96] [110, 10001, 10002] hN (by kernel_rfl) (by kernel_rfl) (cS [.rn 110 1013, .k [0, 11, 13, 94, 95, 96] [1013, 10001, 10002]] (by kernel_rfl) (by kernel_rfl)) ?_
                      refine blockQ_normal ?_
                      refine tnU ?_
                      exact ⟨(v28 ++ [v38.1]), h, by kernel_rfl⟩
                    · replace h := ite_f hc39 h
                      refine WpC.conv (cS [.k [0, 11, 13, 94, 95, 96] [1013, 10001, 10002]] (by kernel_rfl) (by kernel_rfl)) (WpC.skip ?_)
                      refine blockQ_normal ?_
                      refine tnU ?_
                      exact ⟨v28, h, by kernel_rfl⟩
                  · rintro _ ⟨v35, h, rfl⟩
                    unfold millwrightlaw05_EffectOwn.j36 at h
                    refine rS {} [0, 11, 13, 94, 95, 96] [1013, 10001, 10002] hN (by kernel_rfl) (by kernel_rfl) ?_
                    refine tnU ?_
                    exact ⟨n, Nat.lt_succ_self n, v35, (IntKind.i64.wrap (v29 + 1)), h, by kernel_rfl⟩
                · replace h := ite_f hc34 h
                  refine WpC.conv (cS [.k [0, 11, 13] [1013, 10001, 10002]] (by kernel_rfl) (by kernel_rfl)) (WpC.exit ?_)
                  refine thenQ_exit ?_
                  have hq := Option.some.inj h
                  subst hq
                  refine thenQ_exit ?_
                  have h := hout33
                  refine blockQ_hit ?_
                  refine tnU ?_
                  exact ⟨v28, h, by kernel_rfl⟩
            · rintro _ ⟨v9, h, rfl⟩
              unfold millwrightlaw05_EffectOwn.j27 at h
              refine sqJ (fun st' => millwrightlaw05_EffectOwn.j10 k = some out ∧ st' = ⟨[], []⟩) ?_ ?_
              · refine WpC.seq ?_
                refine rS {} [11, 13, 112, 113, 114] [1013, 10001, 10002] hN (by kernel_rfl) (by kernel_rfl) ?_
                refine tnU ?_
                refine WpC.block ?_
                obtain ⟨o13, hlo13, h⟩ := bind_some h
                have hout14 := h
                clear h
                refine WpC.loop (U := Un) (fun n st' => ∃ v11 : Int, millwrightlaw05_EffectOwn.l12 k a0 v7 v9 n v11 = some o13 ∧ st' = ⟨[(11, .loc 10001 0), (13, .vec 1013 1 0 v9.length), (112, .p (.list (.named 3)) a0), (113, .p I6 ((a0.length : Int) : Int)), (114, .p I6 v11)], [(1013, .row 9 .str v9 false), (10001, .box [.mp 10002]), (10002, .map (.named 3) v7.2.2)]⟩) k ⟨0, hlo13, by kernel_rfl⟩ ?_
                clear hlo13
                rintro (_ | n) _ ⟨v11, h, rfl⟩
                · cases h
                · rw [millwrightlaw05_EffectOwn.l12] at h
                  refine WpC.seq ?_
                  refine rS {} [11, 13, 112, 113, 114, 115] [1013, 10001, 10002] hN (by kernel_rfl) (by kernel_rfl) ?_
                  refine tnU ?_
                  refine WpC.seq ?_
                  refine tS (b := (decide (v11 < (a0.length : Int)))) (by kernel_rfl) (fun hc15 => ?_) (fun hc15 => ?_)
                  · replace h := ite_t hc15 h
                    refine WpC.conv (cS [.k [11, 13, 112, 113, 114] [1013, 10001, 10002]] (by kernel_rfl) (by kernel_rfl)) (WpC.skip ?_)
                    refine tnU ?_
                    refine sqJ (fun st' => millwrightlaw05_EffectOwn.j16 k (millwrightlaw05_EffectOwn.l12 k a0 v7 v9 n) a0 v7 v9 v11 = some o13 ∧ st' = ⟨[(11, .loc 10001 0), (13, .vec 1013 1 0 v9.length), (112, .p (.list (.named 3)) a0), (113, .p I6 ((a0.length : Int) : Int)), (114, .p I6 v11)], [(1013, .row 9 .str v9 false), (10001, .box [.mp 10002]), (10002, .map (.named 3) v7.2.2)]⟩) ?_ ?_
                    · refine WpC.block ?_
                      refine WpC.seq ?_
                      obtain ⟨v17, hv17, h⟩ := bind_some h
                      refine rS { its := [(0, .v (.named 3) hv17)] } [11, 13, 20, 112, 113, 114] [20, 1013, 10001, 10002] hN (by kernel_rfl) (by kernel_rfl) ?_
                      refine tnU ?_
                      refine WpC.seq ?_
                      obtain ⟨v18, hv18, h⟩ := bind_some h
                      refine rS { its := [(3, .c (COk.ren (tree_Tree_Get_m0.ok O hO k v7.2.2 v17.f_Name v18 hv18) (fun n => if n = 100000 then 10001 else if n = 100001 then 10002 else n) (injOn_of (by kernel_rfl))))] } [11, 13, 20, 21, 22, 112, 113, 114] [20, 21, 1013, 10001, 10002] hN (by kernel_rfl) (by kernel_rfl) ?_
                      refine tnU ?_
                      refine sqJ (fun st' => ∃ v19 : Bool, millwrightlaw05_EffectOwn.j21 k (millwrightlaw05_EffectOwn.l12 k a0 v7 v9 n) a0 v7 v9 v11 v19 = some o13 ∧ st' = ⟨[(11, .loc 10001 0), (13, .vec 1013 1 0 v9.length), (112, .p (.list (.named 3)) a0), (113, .p I6 ((a0.length : Int) : Int)), (114, .p I6 v11), (138, .p .bool v19)], [(1013, .row 9 .str v9 false), (10001, .box [.mp 10002]), (10002, .map (.named 3) v7.2.2)]⟩) ?_ ?_
                      · obtain ⟨v22, hv22, h⟩ := bind_some h
                        rcases bool_cases (!v22) with hc23 | hc23
                        · replace h := ite_t hc23 h
                          rcases bool_cases (!v18.2) with hc24 | hc24
                          · replace h := ite_t hc24 h
                            refine rS { its := [(3, .c (millwrightnum_Has.ok O hO k v9 v17.f_Name v22 hv22))], kn := [(130, .t hc23), (133, .t hc24)] } [11, 13, 112, 113, 114, 138] [1013, 10001, 10002] hN (by kernel_rfl) (by kernel_rfl) ?_
                            refine tnU ?_
                            exact ⟨true, h, by kernel_rfl⟩
                          · replace h := ite_f hc24 h
                            refine rS { its := [(3, .c (millwrightnum_Has.ok O hO k v9 v17.f_Name v22 hv22)), (11, .e 11 (sok_neS (U := Un) (rs := [(134, .p (.named 3) ((T_tree_File.mk v18.1.f_Name v18.1.f_Content v18.1.f_Time) : T_tree_File)), (135, .p (.named 3) ((T_tree_File.mk v17.f_Name v17.f_Content v17.f_Time) : T_tree_File))]) rfl rfl Tryz.underlying54 (by kernel_rfl) (eqf_54 _ Tryz.underlying54) (by kernel_rfl) o0 o1))], kn := [(130, .t hc23), (133, .f hc24)] } [11, 13, 112, 113, 114, 138] [1013, 10001, 10002] hN (by kernel_rfl) (by kernel_rfl) ?_
                            refine tnU ?_
                            exact ⟨(!(v18.1.f_Name == v17.f_Name && (v18.1.f_Content == v17.f_Content && (v18.1.f_Time == v17.f_Time && true)))), h, by kernel_rfl⟩
                        · replace h := ite_f hc23 h
                          refine rS { its := [(3, .c (millwrightnum_Has.ok O hO k v9 v17.f_Name v22 hv22))], kn := [(130, .f hc23)] } [11, 13, 112, 113, 114, 138] [1013, 10001, 10002] hN (by kernel_rfl) (by kernel_rfl) ?_
                          refine tnU ?_
                          exact ⟨false, h, by kernel_rfl⟩
                      · rintro _ ⟨v19, h, rfl⟩
                        unfold millwrightlaw05_EffectOwn.j21 at h
                        refine tS (b := v19) (by kernel_rfl) (fun hc20 => ?_) (fun hc20 => ?_)
                        · replace h := ite_t hc20 h
                          refine WpC.seq ?_
                          refine rS {} [6] [] hN (by kernel_rfl) (by kernel_rfl) ?_
                          refine tnU ?_
                          refine WpC.ret ?_
                          refine blockQ_ret ?_
                          refine thenQ_ret ?_
                          have hq := Option.some.inj h
                          subst hq
                          refine thenQ_ret ?_
                          have h := hout14
                          refine blockQ_ret ?_
                          refine thenQ_ret ?_
                          have hq := Option.some.inj h
                          subst hq
                          exact eR (by kernel_rfl) (by kernel_rfl)
                        · replace h := ite_f hc20 h
                          refine WpC.conv (cS [.k [11, 13, 112, 113, 114] [1013, 10001, 10002]] (by kernel_rfl) (by kernel_rfl)) (WpC.skip ?_)
                          refine blockQ_normal ?_
                          refine tnU ?_
                          exact ⟨h, by kernel_rfl⟩
                    · rintro _ ⟨h, rfl⟩
                      unfold millwrightlaw05_EffectOwn.j16 at h
                      refine rS {} [11, 13, 112, 113, 114] [1013, 10001, 10002] hN (by kernel_rfl) (by kernel_rfl) ?_
                      refine tnU ?_
                      exact ⟨n, Nat.lt_succ_self n, (IntKind.i64.wrap (v11 + 1)), h, by kernel_rfl⟩
                  · replace h := ite_f hc15 h
                    refine WpC.conv (cS [.k [] []] (by kernel_rfl) (by kernel_rfl)) (WpC.exit ?_)
                    refine thenQ_exit ?_
                    have hq := Option.some.inj h
                    subst hq
                    refine thenQ_exit ?_
                    have h := hout14
                    refine blockQ_hit ?_
                    refine tnU ?_
                    exact ⟨h, by kernel_rfl⟩
              · rintro _ ⟨h, rfl⟩
                unfold millwrightlaw05_EffectOwn.j10 at h
                refine WpC.seq ?_
                refine rS {} [6] [] hN (by kernel_rfl) (by kernel_rfl) ?_
                refine tnU ?_
                refine WpC.ret ?_
                have hq := Option.some.inj h
                subst hq
                exact eR (by kernel_rfl) (by kernel_rfl)

end Go.Proofs.YtcblgpcgdihcbaaGreatDoor
