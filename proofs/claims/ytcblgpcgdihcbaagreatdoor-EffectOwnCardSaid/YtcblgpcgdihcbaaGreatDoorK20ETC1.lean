/- A part of the proof of a given law: ETC1. Own work, printed in part by a program of mine. -/
import Derived.Test.YtcblgpcgdihcbaaGreatDoorK20ETC0
namespace Go.Proofs.YtcblgpcgdihcbaaGreatDoor
open Go Go.AM
set_option linter.unusedVariables false
set_option linter.unusedSimpArgs false
set_option maxRecDepth 100000
theorem ar_Member_m1.ok (O : Out) (hO : GOk O) (k : Nat) (a0 : List T_ar_Member) (out : Bool) (h : ar_Member_m1.f k a0 = some out) : COk Un O Tryz.prog 105 { ar := [.p (.list (.named 5)) a0, .clo 108 []], r := .p .bool out } := by
  refine cok_of_wp Tryz.func105 rfl (k := 9) rfl (Nat.le_of_ble_eq_true rfl) (namesOk_pure rfl rfl rfl rfl) ?_
  intro B hN
  refine WpC.conv (cvK (b := ⟨[(0, .p (.list (.named 5)) a0), (1, .clo 108 [])], []⟩) [0, 1] [] (by kernel_rfl)) ?_
  unfold ar_Member_m1.f at h
  refine WpC.seq ?_
  refine rS {} [0, 1] [] hN (by kernel_rfl) (by kernel_rfl) ?_
  refine tnU ?_
  refine WpC.seq ?_
  obtain ⟨v1, hv1, h⟩ := bind_some h
  refine rS { its := [(2, .c (ar_Member_90_m1.ok O hO k a0 v1 hv1))] } [4] [] hN (by kernel_rfl) (by kernel_rfl) ?_
  refine tnU ?_
  refine WpC.ret ?_
  have hq := Option.some.inj h
  subst hq
  exact eR (by kernel_rfl) (by kernel_rfl)

theorem names_Sorted.ok (O : Out) (hO : GOk O) (k : Nat) (a0 : List (List UInt8)) (out : List (List UInt8)) (h : names_Sorted.f k a0 = some out) : COk Un O Tryz.prog 48 { ar := [.p (.list .str) a0], r := .p (.list .str) out } := by
  refine cok_of_wp Tryz.func48 rfl (k := 10) rfl (Nat.le_of_ble_eq_true rfl) (namesOk_pure rfl rfl rfl rfl) ?_
  intro B hN
  refine WpC.conv (cvK (b := ⟨[(0, .p (.list .str) a0)], []⟩) [0] [] (by kernel_rfl)) ?_
  unfold names_Sorted.f at h
  refine WpC.seq ?_
  refine rS {} [0] [] hN (by kernel_rfl) (by kernel_rfl) ?_
  refine tnU ?_
  refine WpC.seq ?_
  obtain ⟨v1, hv1, h⟩ := bind_some h
  refine rS { its := [(1, .c (COk.ren (pCloneR.ok O hO k a0 v1 hv1) (fun n => if n = 60500 then 10001 else n) (injOn_of (by kernel_rfl))))] } [3] [10001] hN (by kernel_rfl) (by kernel_rfl) ?_
  refine tnU ?_
  refine WpC.seq ?_
  obtain ⟨v2, hv2, h⟩ := bind_some h
  obtain ⟨g3, h⟩ := if_some h
  refine rSC { its := [(1, .c (COk.ren (pSortR.ok O hO k v1 v2 hv2) (fun n => if n = 100000 then 10001 else n) (injOn_of (by kernel_rfl))))] } [3] [10001] hN (by kernel_rfl) (by kernel_rfl) (cS [.k [3] [10001], .x (Conv.cast (U := Un) (st := ⟨[(3, .vec 10001 1 0 v1.length)], [(10001, .row 9 .str v2 false)]⟩) (st' := ⟨[(3, .vec 10001 1 0 v2.length)], [(10001, .row 9 .str v2 false)]⟩) (by simp only [upd_length, List.length_nil, List.length_replicate, g3]))] (by kernel_rfl) (by kernel_rfl)) ?_
  refine tnU ?_
  refine WpC.seq ?_
  obtain ⟨v4, hv4, h⟩ := bind_some h
  refine rS { its := [(1, .c (COk.ren (pCompactR.ok O hO k v2 v4 hv4) (fun n => if n = 100000 then 10001 else n) (injOn_of (by kernel_rfl))))] } [2] [] hN (by kernel_rfl) (by kernel_rfl) ?_
  refine tnU ?_
  refine WpC.ret ?_
  have hq := Option.some.inj h
  subst hq
  exact eR (by kernel_rfl) (by kernel_rfl)

theorem ar_twice.ok (O : Out) (hO : GOk O) (k : Nat) (a0 : List T_ar_Member) (out : Bool) (h : ar_twice.f k a0 = some out) : COk Un O Tryz.prog 110 { ar := [.p (.list (.named 5)) a0], r := .p .bool out } := by
  refine cok_of_wp Tryz.func110 rfl (k := 24) rfl (Nat.le_of_ble_eq_true rfl) (namesOk_pure rfl rfl rfl rfl) ?_
  intro B hN
  refine WpC.conv (cvK (b := ⟨[(0, .p (.list (.named 5)) a0)], []⟩) [0] [] (by kernel_rfl)) ?_
  unfold ar_twice.f at h
  refine WpC.seq ?_
  refine rS {} [0] [] hN (by kernel_rfl) (by kernel_rfl) ?_
  refine tnU ?_
  refine WpC.seq ?_
  refine rS {} [0, 3] [] hN (by kernel_rfl) (by kernel_rfl) ?_
  refine tnU ?_
  refine sqJ (fun st' => ∃ v1 : List (List UInt8), ar_twice.j3 k a0 v1 = some out ∧ st' = ⟨[(0, .p (.list (.named 5)) a0), (3, .vec 1003 1 0 v1.length)], [(1003, .row 9 .str v1 false)]⟩) ?_ ?_
  · refine WpC.seq ?_
    refine rS {} [0, 3, 6, 7, 8] [] hN (by kernel_rfl) (by kernel_rfl) ?_
    refine tnU ?_
    refine WpC.block ?_
    obtain ⟨o8, hlo8, h⟩ := bind_some h
    have hout9 := h
    clear h
    refine WpC.conv (cS [.th 3 1003 9 .str, .k [0, 3, 6, 7, 8] [1003]] (by kernel_rfl) (by kernel_rfl)) ?_
    refine WpC.loop (U := Un) (fun n st' => ∃ v4 : List (List UInt8), ∃ v5 : Int, ar_twice.l6 k a0 n v4 v5 = some o8 ∧ st' = ⟨[(0, .p (.list (.named 5)) a0), (3, .vec 1003 1 0 v4.length), (6, .p (.list (.named 5)) a0), (7, .p I6 ((a0.length : Int) : Int)), (8, .p I6 v5)], [(1003, .row 9 .str v4 false)]⟩) k ⟨[], 0, hlo8, by kernel_rfl⟩ ?_
    clear hlo8
    rintro (_ | n) _ ⟨v4, v5, h, rfl⟩
    · cases h
    · rw [ar_twice.l6] at h
      refine WpC.seq ?_
      refine rS {} [0, 3, 6, 7, 8, 9] [1003] hN (by kernel_rfl) (by kernel_rfl) ?_
      refine tnU ?_
      refine WpC.seq ?_
      refine tS (b := (decide (v5 < (a0.length : Int)))) (by kernel_rfl) (fun hc10 => ?_) (fun hc10 => ?_)
      · replace h := ite_t hc10 h
        refine WpC.conv (cS [.k [0, 3, 6, 7, 8] [1003]] (by kernel_rfl) (by kernel_rfl)) (WpC.skip ?_)
        refine tnU ?_
        refine WpC.seq ?_
        refine WpC.block ?_
        refine WpC.seq ?_
        obtain ⟨v11, hv11, h⟩ := bind_some h
        refine rS { its := [(0, .v (.named 5) hv11)] } [0, 3, 5, 6, 7, 8] [5, 1003] hN (by kernel_rfl) (by kernel_rfl) ?_
        refine tnU ?_
        obtain ⟨g12, h⟩ := if_some h
        refine rS { its := [(4, .g g12)] } [0, 3, 6, 7, 8] [16] hN (by kernel_rfl) (by kernel_rfl) ?_
        refine blockQ_normal ?_
        refine tnU ?_
        refine rSC {} [0, 3, 6, 7, 8] [16] hN (by kernel_rfl) (by kernel_rfl) (cS [.rn 16 1003, .k [0, 3, 6, 7, 8] [1003]] (by kernel_rfl) (by kernel_rfl)) ?_
        refine tnU ?_
        exact ⟨n, Nat.lt_succ_self n, (v4 ++ [v11.f_Name]), (IntKind.i64.wrap (v5 + 1)), h, by kernel_rfl⟩
      · replace h := ite_f hc10 h
        refine WpC.conv (cS [.k [0, 3] [1003]] (by kernel_rfl) (by kernel_rfl)) (WpC.exit ?_)
        refine thenQ_exit ?_
        have hq := Option.some.inj h
        subst hq
        refine thenQ_exit ?_
        have h := hout9
        refine blockQ_hit ?_
        refine tnU ?_
        exact ⟨v4, h, by kernel_rfl⟩
  · rintro _ ⟨v1, h, rfl⟩
    unfold ar_twice.j3 at h
    refine WpC.seq ?_
    obtain ⟨v2, hv2, h⟩ := bind_some h
    refine rS { its := [(1, .c (names_Sorted.ok O hO k v1 v2 hv2))] } [2] [] hN (by kernel_rfl) (by kernel_rfl) ?_
    refine tnU ?_
    refine WpC.ret ?_
    have hq := Option.some.inj h
    subst hq
    exact eR (by kernel_rfl) (by kernel_rfl)

theorem ar_Size.ok (O : Out) (hO : GOk O) (k : Nat) (a0 : T_ar_Member) (out : Int) (h : ar_Size.f k a0 = some out) : COk Un O Tryz.prog 137 { ar := [.p (.named 5) a0], r := .p I6 out } := by
  refine cok_of_wp Tryz.func137 rfl (k := 12) rfl (Nat.le_of_ble_eq_true rfl) (namesOk_pure rfl rfl rfl rfl) ?_
  intro B hN
  refine WpC.conv (cvK (b := ⟨[(0, .p (.named 5) a0)], []⟩) [0] [] (by kernel_rfl)) ?_
  unfold ar_Size.f at h
  refine WpC.seq ?_
  refine rS {} [1] [1] hN (by kernel_rfl) (by kernel_rfl) ?_
  refine tnU ?_
  refine WpC.seq ?_
  obtain ⟨g1, h⟩ := if_some h
  refine rS { its := [(7, .g g1)] } [2] [] hN (by kernel_rfl) (by kernel_rfl) ?_
  refine tnU ?_
  refine WpC.ret ?_
  have hq := Option.some.inj h
  subst hq
  exact eR (by kernel_rfl) (by kernel_rfl)

theorem ar_total.ok (O : Out) (hO : GOk O) (k : Nat) (a0 : List T_ar_Member) (out : Int) (h : ar_total.f k a0 = some out) : COk Un O Tryz.prog 111 { ar := [.p (.list (.named 5)) a0], r := .p I6 out } := by
  refine cok_of_wp Tryz.func111 rfl (k := 20) rfl (Nat.le_of_ble_eq_true rfl) (namesOk_pure rfl rfl rfl rfl) ?_
  intro B hN
  refine WpC.conv (cvK (b := ⟨[(0, .p (.list (.named 5)) a0)], []⟩) [0] [] (by kernel_rfl)) ?_
  unfold ar_total.f at h
  refine WpC.seq ?_
  refine rS {} [0] [] hN (by kernel_rfl) (by kernel_rfl) ?_
  refine tnU ?_
  refine WpC.seq ?_
  refine rS {} [0, 3] [] hN (by kernel_rfl) (by kernel_rfl) ?_
  refine tnU ?_
  refine sqJ (fun st' => ∃ v1 : Int, ar_total.j2 k v1 = some out ∧ st' = ⟨[(3, .p I6 v1)], []⟩) ?_ ?_
  · refine WpC.seq ?_
    refine rS {} [3, 6, 7, 8] [] hN (by kernel_rfl) (by kernel_rfl) ?_
    refine tnU ?_
    refine WpC.block ?_
    obtain ⟨o7, hlo7, h⟩ := bind_some h
    have hout8 := h
    clear h
    refine WpC.loop (U := Un) (fun n st' => ∃ v3 : Int, ∃ v4 : Int, ar_total.l5 k a0 n v3 v4 = some o7 ∧ st' = ⟨[(3, .p I6 v3), (6, .p (.list (.named 5)) a0), (7, .p I6 ((a0.length : Int) : Int)), (8, .p I6 v4)], []⟩) k ⟨8, 0, hlo7, by kernel_rfl⟩ ?_
    clear hlo7
    rintro (_ | n) _ ⟨v3, v4, h, rfl⟩
    · cases h
    · rw [ar_total.l5] at h
      refine WpC.seq ?_
      refine rS {} [3, 6, 7, 8, 9] [] hN (by kernel_rfl) (by kernel_rfl) ?_
      refine tnU ?_
      refine WpC.seq ?_
      refine tS (b := (decide (v4 < (a0.length : Int)))) (by kernel_rfl) (fun hc9 => ?_) (fun hc9 => ?_)
      · replace h := ite_t hc9 h
        refine WpC.conv (cS [.k [3, 6, 7, 8] []] (by kernel_rfl) (by kernel_rfl)) (WpC.skip ?_)
        refine tnU ?_
        refine WpC.seq ?_
        refine WpC.block ?_
        refine WpC.seq ?_
        obtain ⟨v10, hv10, h⟩ := bind_some h
        refine rS { its := [(0, .v (.named 5) hv10)] } [3, 5, 6, 7, 8] [5] hN (by kernel_rfl) (by kernel_rfl) ?_
        refine tnU ?_
        refine WpC.seq ?_
        obtain ⟨v11, hv11, h⟩ := bind_some h
        refine rS { its := [(2, .c (ar_Size.ok O hO k (T_ar_Member.mk v10.f_Name v10.f_Time v10.f_Content) v11 hv11))] } [3, 6, 7, 8] [] hN (by kernel_rfl) (by kernel_rfl) ?_
        refine tnU ?_
        refine WpC.seq ?_
        refine rS {} [3, 6, 7, 8, 17] [] hN (by kernel_rfl) (by kernel_rfl) ?_
        refine tnU ?_
        refine tS (b := (decide ((IntKind.i64.wrap (v3 + v11)) > 900))) (by kernel_rfl) (fun hc12 => ?_) (fun hc12 => ?_)
        · replace h := ite_t hc12 h
          refine WpC.conv (cS [.k [3] []] (by kernel_rfl) (by kernel_rfl)) (WpC.exit ?_)
          refine blockQ_pass (by decide) ?_
          refine thenQ_exit ?_
          have hq := Option.some.inj h
          subst hq
          refine thenQ_exit ?_
          have h := hout8
          refine blockQ_hit ?_
          refine tnU ?_
          exact ⟨(IntKind.i64.wrap (v3 + v11)), h, by kernel_rfl⟩
        · replace h := ite_f hc12 h
          refine WpC.conv (cS [.k [3, 6, 7, 8] []] (by kernel_rfl) (by kernel_rfl)) (WpC.skip ?_)
          refine blockQ_normal ?_
          refine tnU ?_
          refine rS {} [3, 6, 7, 8] [] hN (by kernel_rfl) (by kernel_rfl) ?_
          refine tnU ?_
          exact ⟨n, Nat.lt_succ_self n, (IntKind.i64.wrap (v3 + v11)), (IntKind.i64.wrap (v4 + 1)), h, by kernel_rfl⟩
      · replace h := ite_f hc9 h
        refine WpC.conv (cS [.k [3] []] (by kernel_rfl) (by kernel_rfl)) (WpC.exit ?_)
        refine thenQ_exit ?_
        have hq := Option.some.inj h
        subst hq
        refine thenQ_exit ?_
        have h := hout8
        refine blockQ_hit ?_
        refine tnU ?_
        exact ⟨v3, h, by kernel_rfl⟩
  · rintro _ ⟨v1, h, rfl⟩
    unfold ar_total.j2 at h
    refine WpC.seq ?_
    refine rS {} [2] [] hN (by kernel_rfl) (by kernel_rfl) ?_
    refine tnU ?_
    refine WpC.ret ?_
    have hq := Option.some.inj h
    subst hq
    exact eR (by kernel_rfl) (by kernel_rfl)

theorem ar_Make.ok (O : Out) (hO : GOk O) (k : Nat) (a0 : List T_ar_Member) (out : (List UInt8) × Nat) (h : ar_Make.f k a0 = some out) : COk Un O Tryz.prog 89 { ar := [.p (.list (.named 5)) a0], r := .tup [.p .str out.1, .p .err out.2] } := by
  refine cok_of_wp Tryz.func89 rfl (k := 36) rfl (Nat.le_of_ble_eq_true rfl) (namesOk_pure rfl rfl rfl rfl) ?_
  intro B hN
  refine WpC.conv (cvK (b := ⟨[(0, .p (.list (.named 5)) a0)], []⟩) [0] [] (by kernel_rfl)) ?_
  unfold ar_Make.f at h
  refine WpC.seq ?_
  refine rS {} [0] [] hN (by kernel_rfl) (by kernel_rfl) ?_
  refine tnU ?_
  refine WpC.seq ?_
  refine WpC.block ?_
  refine WpC.seq ?_
  obtain ⟨v1, hv1, h⟩ := bind_some h
  refine rS { its := [(1, .c (ar_Member_m0.ok O hO k a0 v1 hv1))] } [0, 7] [] hN (by kernel_rfl) (by kernel_rfl) ?_
  refine tnU ?_
  refine tS (b := v1) (by kernel_rfl) (fun hc2 => ?_) (fun hc2 => ?_)
  · replace h := ite_t hc2 h
    refine WpC.seq ?_
    refine rA { its := [(0, .e 0 (sok_loadG (U := Un) (t := .err) (rs := []) rfl rfl ty_27 rfl rfl (hO.var 3 5 rfl) (fun S w => .err 3)))] } [2, 3] [] hN (by kernel_rfl) (by kernel_rfl) (by kernel_rfl) ?_
    refine tnU ?_
    refine WpC.ret ?_
    refine blockQ_ret ?_
    refine thenQ_ret ?_
    have hq := Option.some.inj h
    subst hq
    exact eR (by kernel_rfl) (by kernel_rfl)
  · replace h := ite_f hc2 h
    refine WpC.seq ?_
    obtain ⟨v3, hv3, h⟩ := bind_some h
    refine rS { its := [(1, .c (ar_Member_m1.ok O hO k a0 v3 hv3))] } [0, 11] [] hN (by kernel_rfl) (by kernel_rfl) ?_
    refine tnU ?_
    refine tS (b := v3) (by kernel_rfl) (fun hc4 => ?_) (fun hc4 => ?_)
    · replace h := ite_t hc4 h
      refine WpC.seq ?_
      refine rA { its := [(0, .e 0 (sok_loadG (U := Un) (t := .err) (rs := []) rfl rfl ty_27 rfl rfl (hO.var 0 3 rfl) (fun S w => .err 0)))] } [2, 3] [] hN (by kernel_rfl) (by kernel_rfl) (by kernel_rfl) ?_
      refine tnU ?_
      refine WpC.ret ?_
      refine blockQ_ret ?_
      refine thenQ_ret ?_
      have hq := Option.some.inj h
      subst hq
      exact eR (by kernel_rfl) (by kernel_rfl)
    · replace h := ite_f hc4 h
      refine WpC.seq ?_
      obtain ⟨v5, hv5, h⟩ := bind_some h
      refine rS { its := [(1, .c (ar_twice.ok O hO k a0 v5 hv5))] } [0, 15] [] hN (by kernel_rfl) (by kernel_rfl) ?_
      refine tnU ?_
      refine tS (b := v5) (by kernel_rfl) (fun hc6 => ?_) (fun hc6 => ?_)
      · replace h := ite_t hc6 h
        refine WpC.seq ?_
        refine rA { its := [(0, .e 0 (sok_loadG (U := Un) (t := .err) (rs := []) rfl rfl ty_27 rfl rfl (hO.var 8 0 rfl) (fun S w => .err 8)))] } [2, 3] [] hN (by kernel_rfl) (by kernel_rfl) (by kernel_rfl) ?_
        refine tnU ?_
        refine WpC.ret ?_
        refine blockQ_ret ?_
        refine thenQ_ret ?_
        have hq := Option.some.inj h
        subst hq
        exact eR (by kernel_rfl) (by kernel_rfl)
      · replace h := ite_f hc6 h
        refine WpC.seq ?_
        obtain ⟨v7, hv7, h⟩ := bind_some h
        refine rS { its := [(1, .c (ar_total.ok O hO k a0 v7 hv7))] } [0, 19] [] hN (by kernel_rfl) (by kernel_rfl) ?_
        refine tnU ?_
        refine tS (b := (decide (v7 > 900))) (by kernel_rfl) (fun hc8 => ?_) (fun hc8 => ?_)
        · replace h := ite_t hc8 h
          refine WpC.seq ?_
          refine rA { its := [(0, .e 0 (sok_loadG (U := Un) (t := .err) (rs := []) rfl rfl ty_27 rfl rfl (hO.var 1 4 rfl) (fun S w => .err 1)))] } [2, 3] [] hN (by kernel_rfl) (by kernel_rfl) (by kernel_rfl) ?_
          refine tnU ?_
          refine WpC.ret ?_
          refine blockQ_ret ?_
          refine thenQ_ret ?_
          have hq := Option.some.inj h
          subst hq
          exact eR (by kernel_rfl) (by kernel_rfl)
        · replace h := ite_f hc8 h
          refine WpC.conv (cS [.k [0] []] (by kernel_rfl) (by kernel_rfl)) (WpC.skip ?_)
          refine blockQ_normal ?_
          refine tnU ?_
          refine WpC.seq ?_
          refine rS {} [0, 4] [] hN (by kernel_rfl) (by kernel_rfl) ?_
          refine tnU ?_
          refine sqJ (fun st' => ∃ v9 : List UInt8, ar_Make.j10 k v9 = some out ∧ st' = ⟨[(4, .p .str v9)], []⟩) ?_ ?_
          · refine WpC.seq ?_
            refine rS {} [4, 24, 25, 26] [] hN (by kernel_rfl) (by kernel_rfl) ?_
            refine tnU ?_
            refine WpC.block ?_
            obtain ⟨o15, hlo15, h⟩ := bind_some h
            have hout16 := h
            clear h
            refine WpC.loop (U := Un) (fun n st' => ∃ v11 : List UInt8, ∃ v12 : Int, ar_Make.l13 k a0 n v11 v12 = some o15 ∧ st' = ⟨[(4, .p .str v11), (24, .p (.list (.named 5)) a0), (25, .p I6 ((a0.length : Int) : Int)), (26, .p I6 v12)], []⟩) k ⟨([33, 60, 97, 114, 99, 104, 62, 10] : List UInt8), 0, hlo15, by kernel_rfl⟩ ?_
            clear hlo15
            rintro (_ | n) _ ⟨v11, v12, h, rfl⟩
            · cases h
            · rw [ar_Make.l13] at h
              refine WpC.seq ?_
              refine rS {} [4, 24, 25, 26, 27] [] hN (by kernel_rfl) (by kernel_rfl) ?_
              refine tnU ?_
              refine WpC.seq ?_
              refine tS (b := (decide (v12 < (a0.length : Int)))) (by kernel_rfl) (fun hc17 => ?_) (fun hc17 => ?_)
              · replace h := ite_t hc17 h
                refine WpC.conv (cS [.k [4, 24, 25, 26] []] (by kernel_rfl) (by kernel_rfl)) (WpC.skip ?_)
                refine tnU ?_
                refine WpC.seq ?_
                refine WpC.block ?_
                refine WpC.seq ?_
                obtain ⟨v18, hv18, h⟩ := bind_some h
                refine rS { its := [(0, .v (.named 5) hv18)] } [4, 6, 24, 25, 26] [6] hN (by kernel_rfl) (by kernel_rfl) ?_
                refine tnU ?_
                obtain ⟨v19, hv19, h⟩ := bind_some h
                obtain ⟨g20, h⟩ := if_some h
                refine rS { its := [(2, .c (ar_Member_bytes.ok O hO k (T_ar_Member.mk v18.f_Name v18.f_Time v18.f_Content) v19 hv19)), (3, .g g20)] } [4, 24, 25, 26] [] hN (by kernel_rfl) (by kernel_rfl) ?_
                refine blockQ_normal ?_
                refine tnU ?_
                refine rS {} [4, 24, 25, 26] [] hN (by kernel_rfl) (by kernel_rfl) ?_
                refine tnU ?_
                exact ⟨n, Nat.lt_succ_self n, (v11 ++ v19), (IntKind.i64.wrap (v12 + 1)), h, by kernel_rfl⟩
              · replace h := ite_f hc17 h
                refine WpC.conv (cS [.k [4] []] (by kernel_rfl) (by kernel_rfl)) (WpC.exit ?_)
                refine thenQ_exit ?_
                have hq := Option.some.inj h
                subst hq
                refine thenQ_exit ?_
                have h := hout16
                refine blockQ_hit ?_
                refine tnU ?_
                exact ⟨v11, h, by kernel_rfl⟩
          · rintro _ ⟨v9, h, rfl⟩
            unfold ar_Make.j10 at h
            refine WpC.seq ?_
            refine rS {} [2, 3] [] hN (by kernel_rfl) (by kernel_rfl) ?_
            refine tnU ?_
            refine WpC.conv (cS [.nE 3, .k [2, 3] []] (by kernel_rfl) (by kernel_rfl)) (WpC.ret ?_)
            have hq := Option.some.inj h
            subst hq
            exact eR (by kernel_rfl) (by kernel_rfl)

theorem ar_Parse.ok (O : Out) (hO : GOk O) (k : Nat) (a0 : List UInt8) (out : (List T_ar_Member) × Nat) (h : ar_Parse.f k a0 = some out) : COk Un O Tryz.prog 67 { ar := [.p .str a0], r := .tup [.vec 60500 3 0 out.1.length, .p .err out.2], bs' := [(60500, .row 77 (.named 5) out.1 false)], nn := [60500] } := by
  refine cok_of_wp Tryz.func67 rfl (k := 42) rfl (Nat.le_of_ble_eq_true rfl) (namesOk_of (by kernel_rfl)) ?_
  intro B hN
  refine WpC.conv (cvK (b := ⟨[(0, .p .str a0)], []⟩) [0] [] (by kernel_rfl)) ?_
  unfold ar_Parse.f at h
  refine WpC.seq ?_
  refine rS {} [0] [] hN (by kernel_rfl) (by kernel_rfl) ?_
  refine tnU ?_
  refine WpC.seq ?_
  obtain ⟨v1, hv1, h⟩ := bind_some h
  refine rS { its := [(1, .c (strings_CutPrefix.ok O hO k a0 ([33, 60, 97, 114, 99, 104, 62, 10] : List UInt8) v1 hv1))] } [4, 5] [] hN (by kernel_rfl) (by kernel_rfl) ?_
  refine tnU ?_
  refine WpC.seq ?_
  refine rS {} [4, 5, 6] [] hN (by kernel_rfl) (by kernel_rfl) ?_
  refine tnU ?_
  refine sqJ (fun st' => ∃ v2 : Bool, ∃ v3 : List T_ar_Member, ar_Parse.j7 k v2 v3 = some out ∧ st' = ⟨[(5, .p .bool v2), (6, .vec 1006 3 0 v3.length)], [(1006, .row 77 (.named 5) v3 false)]⟩) ?_ ?_
  · refine WpC.block ?_
    obtain ⟨o14, hlo14, h⟩ := bind_some h
    have hout15 := h
    clear h
    refine WpC.conv (cS [.th 6 1006 77 (.named 5), .k [4, 5, 6] [1006]] (by kernel_rfl) (by kernel_rfl)) ?_
    refine WpC.loop (U := Un) (fun n st' => ∃ v8 : List UInt8, ∃ v9 : Bool, ∃ v10 : List T_ar_Member, ar_Parse.l11 k n v8 v9 v10 = some o14 ∧ st' = ⟨[(4, .p .str v8), (5, .p .bool v9), (6, .vec 1006 3 0 v10.length)], [(1006, .row 77 (.named 5) v10 false)]⟩) k ⟨v1.1, v1.2, [], hlo14, by kernel_rfl⟩ ?_
    clear hlo14
    rintro (_ | n) _ ⟨v8, v9, v10, h, rfl⟩
    · cases h
    · rw [ar_Parse.l11] at h
      refine sqJ (fun st' => ar_Parse.j18 k (ar_Parse.l11 k n) v8 v10 = some o14 ∧ st' = ⟨[(4, .p .str v8), (6, .vec 1006 3 0 v10.length)], [(1006, .row 77 (.named 5) v10 false)]⟩) ?_ ?_
      · refine sqJ (fun st' => ∃ v19 : Bool, ar_Parse.j21 k (ar_Parse.l11 k n) v8 v9 v10 v19 = some o14 ∧ st' = ⟨[(4, .p .str v8), (5, .p .bool v9), (6, .vec 1006 3 0 v10.length), (19, .p .bool v19)], [(1006, .row 77 (.named 5) v10 false)]⟩) ?_ ?_
        · rcases bool_cases v9 with hc22 | hc22
          · replace h := ite_t hc22 h
            refine rS { kn := [(16, .t hc22)] } [4, 5, 6, 19] [1006] hN (by kernel_rfl) (by kernel_rfl) ?_
            refine tnU ?_
            exact ⟨(!(v8 == ([] : List UInt8))), h, by kernel_rfl⟩
          · replace h := ite_f hc22 h
            refine rS { kn := [(16, .f hc22)] } [4, 5, 6, 19] [1006] hN (by kernel_rfl) (by kernel_rfl) ?_
            refine tnU ?_
            exact ⟨false, h, by kernel_rfl⟩
        · rintro _ ⟨v19, h, rfl⟩
          unfold ar_Parse.j21 at h
          refine tS (b := v19) (by kernel_rfl) (fun hc20 => ?_) (fun hc20 => ?_)
          · replace h := ite_t hc20 h
            refine WpC.conv (cS [.k [4, 6] [1006]] (by kernel_rfl) (by kernel_rfl)) (WpC.skip ?_)
            refine tnU ?_
            exact ⟨h, by kernel_rfl⟩
          · replace h := ite_f hc20 h
            refine WpC.conv (cS [.k [5, 6] [1006]] (by kernel_rfl) (by kernel_rfl)) (WpC.exit ?_)
            refine thenQ_exit ?_
            have hq := Option.some.inj h
            subst hq
            refine thenQ_exit ?_
            have h := hout15
            refine blockQ_hit ?_
            refine tnU ?_
            exact ⟨v9, v10, h, by kernel_rfl⟩
      · rintro _ ⟨h, rfl⟩
        unfold ar_Parse.j18 at h
        refine WpC.block ?_
        refine WpC.seq ?_
        refine rS {} [4, 6, 7] [7, 1006] hN (by kernel_rfl) (by kernel_rfl) ?_
        refine tnU ?_
        refine WpC.seq ?_
        obtain ⟨v16, hv16, h⟩ := bind_some h
        refine rS { its := [(1, .c (ar_first.ok O hO k v8 v16 hv16))] } [4, 5, 6, 7] [7, 1006] hN (by kernel_rfl) (by kernel_rfl) ?_
        refine tnU ?_
        obtain ⟨g17, h⟩ := if_some h
        refine rSC { its := [(3, .g g17)] } [4, 5, 6] [29] hN (by kernel_rfl) (by kernel_rfl) (cS [.rn 29 1006, .k [4, 5, 6] [1006]] (by kernel_rfl) (by kernel_rfl)) ?_
        refine blockQ_normal ?_
        refine tnU ?_
        exact ⟨n, Nat.lt_succ_self n, v16.2.1, v16.2.2, (v10 ++ [(T_ar_Member.mk v16.1.f_Name v16.1.f_Time v16.1.f_Content)]), h, by kernel_rfl⟩
  · rintro _ ⟨v2, v3, h, rfl⟩
    unfold ar_Parse.j7 at h
    refine WpC.seq ?_
    refine WpC.seq ?_
    refine rS {} [6, 31] [1006] hN (by kernel_rfl) (by kernel_rfl) ?_
    refine tnU ?_
    refine tS (b := (!v2)) (by kernel_rfl) (fun hc4 => ?_) (fun hc4 => ?_)
    · replace h := ite_t hc4 h
      refine WpC.seq ?_
      refine rA { its := [(0, .e 0 (sok_loadG (U := Un) (t := .err) (rs := []) rfl rfl ty_27 rfl rfl (hO.var 2 2 rfl) (fun S w => .err 2)))] } [2, 3] [] hN (by kernel_rfl) (by kernel_rfl) (by kernel_rfl) ?_
      refine tnU ?_
      refine WpC.conv (cS [.th 2 10001 77 (.named 5), .k [2, 3] [10001], .rn 10001 60500, .k [2, 3] [60500]] (by kernel_rfl) (by kernel_rfl)) (WpC.ret ?_)
      refine thenQ_ret ?_
      have hq := Option.some.inj h
      subst hq
      exact eR (by kernel_rfl) (by kernel_rfl)
    · replace h := ite_f hc4 h
      refine WpC.conv (cS [.k [6] [1006]] (by kernel_rfl) (by kernel_rfl)) (WpC.skip ?_)
      refine tnU ?_
      refine WpC.seq ?_
      refine WpC.seq ?_
      obtain ⟨v5, hv5, h⟩ := bind_some h
      refine rS { its := [(1, .c (ar_Make.ok O hO k v3 v5 hv5))] } [6, 9] [1006] hN (by kernel_rfl) (by kernel_rfl) ?_
      refine tnU ?_
      refine WpC.seq ?_
      refine rS {} [6, 39] [1006] hN (by kernel_rfl) (by kernel_rfl) ?_
      refine tnU ?_
      refine tS (b := (!(v5.2 == 0))) (by kernel_rfl) (fun hc6 => ?_) (fun hc6 => ?_)
      · replace h := ite_t hc6 h
        refine WpC.seq ?_
        refine rA { its := [(0, .e 0 (sok_loadG (U := Un) (t := .err) (rs := []) rfl rfl ty_27 rfl rfl (hO.var 2 2 rfl) (fun S w => .err 2)))] } [2, 3] [] hN (by kernel_rfl) (by kernel_rfl) (by kernel_rfl) ?_
        refine tnU ?_
        refine WpC.conv (cS [.th 2 10002 77 (.named 5), .k [2, 3] [10002], .rn 10002 60500, .k [2, 3] [60500]] (by kernel_rfl) (by kernel_rfl)) (WpC.ret ?_)
        refine thenQ_ret ?_
        have hq := Option.some.inj h
        subst hq
        exact eR (by kernel_rfl) (by kernel_rfl)
      · replace h := ite_f hc6 h
        refine WpC.conv (cS [.k [6] [1006]] (by kernel_rfl) (by kernel_rfl)) (WpC.skip ?_)
        refine tnU ?_
        refine WpC.seq ?_
        refine rS {} [2, 3] [1006] hN (by kernel_rfl) (by kernel_rfl) ?_
        refine tnU ?_
        refine WpC.conv (cS [.nE 3, .k [2, 3] [1006], .rn 1006 60500, .k [2, 3] [60500]] (by kernel_rfl) (by kernel_rfl)) (WpC.ret ?_)
        have hq := Option.some.inj h
        subst hq
        exact eR (by kernel_rfl) (by kernel_rfl)

theorem ar_at_1_m0.ok (O : Out) (hO : GOk O) (k : Nat) (a0 : T_ar_Member) (a1 : List UInt8) (out : Bool) (h : ar_at_1_m0.f k a0 a1 = some out) : COk Un O Tryz.prog 91 { ar := [.p (.named 5) a0, .loc 100000 0], r := .p .bool out, bs := [(100000, .box [.p .str a1])], bs' := [(100000, .box [.p .str a1])] } := by
  refine cok_of_wp Tryz.func91 rfl (k := 8) rfl (Nat.le_of_ble_eq_true rfl) (namesOk_of (by kernel_rfl)) ?_
  intro B hN
  refine WpC.conv (cvK (b := ⟨[(0, .p (.named 5) a0), (1, .loc 100000 0)], [(100000, .box [.p .str a1])]⟩) [0, 1] [100000] (by kernel_rfl)) ?_
  unfold ar_at_1_m0.f at h
  refine WpC.seq ?_
  refine rS {} [1, 2] [2, 100000] hN (by kernel_rfl) (by kernel_rfl) ?_
  refine tnU ?_
  refine WpC.seq ?_
  refine rS {} [3] [100000] hN (by kernel_rfl) (by kernel_rfl) ?_
  refine tnU ?_
  refine WpC.ret ?_
  have hq := Option.some.inj h
  subst hq
  exact eR (by kernel_rfl) (by kernel_rfl)

theorem ar_Member_90_m2.ok (O : Out) (hO : GOk O) (k : Nat) (a0 : List T_ar_Member) (a1 : List UInt8) (out : Int) (h : ar_Member_90_m2.f k a0 a1 = some out) : COk Un O Tryz.prog 90 { ar := [.p (.list (.named 5)) a0, .clo 91 [.loc 100000 0]], r := .p I6 out, bs := [(100000, .box [.p .str a1])], bs' := [(100000, .box [.p .str a1])] } := by
  refine cok_of_wp Tryz.func90 rfl (k := 19) rfl (Nat.le_of_ble_eq_true rfl) (namesOk_of (by kernel_rfl)) ?_
  intro B hN
  refine WpC.conv (cvK (b := ⟨[(0, .p (.list (.named 5)) a0), (1, .clo 91 [.loc 100000 0])], [(100000, .box [.p .str a1])]⟩) [0, 1] [100000] (by kernel_rfl)) ?_
  unfold ar_Member_90_m2.f at h
  refine WpC.seq ?_
  refine rS {} [0, 1] [100000] hN (by kernel_rfl) (by kernel_rfl) ?_
  refine tnU ?_
  refine sqJ (fun st' => ar_Member_90_m2.j1 k a1 = some out ∧ st' = ⟨[], [(100000, .box [.p .str a1])]⟩) ?_ ?_
  · refine WpC.seq ?_
    refine rS {} [0, 1, 7, 8] [100000] hN (by kernel_rfl) (by kernel_rfl) ?_
    refine tnU ?_
    refine WpC.block ?_
    obtain ⟨o4, hlo4, h⟩ := bind_some h
    have hout5 := h
    clear h
    refine WpC.loop (U := Un) (fun n st' => ∃ v2 : Int, ar_Member_90_m2.l3 k a0 a1 n v2 = some o4 ∧ st' = ⟨[(0, .p (.list (.named 5)) a0), (1, .clo 91 [.loc 100000 0]), (7, .p I6 ((a0.length : Int) : Int)), (8, .p I6 v2)], [(100000, .box [.p .str a1])]⟩) k ⟨0, hlo4, by kernel_rfl⟩ ?_
    clear hlo4
    rintro (_ | n) _ ⟨v2, h, rfl⟩
    · cases h
    · rw [ar_Member_90_m2.l3] at h
      refine WpC.seq ?_
      refine rS {} [0, 1, 7, 8, 9] [100000] hN (by kernel_rfl) (by kernel_rfl) ?_
      refine tnU ?_
      refine WpC.seq ?_
      refine tS (b := (decide (v2 < (a0.length : Int)))) (by kernel_rfl) (fun hc6 => ?_) (fun hc6 => ?_)
      · replace h := ite_t hc6 h
        refine WpC.conv (cS [.k [0, 1, 7, 8] [100000]] (by kernel_rfl) (by kernel_rfl)) (WpC.skip ?_)
        refine tnU ?_
        refine WpC.seq ?_
        refine WpC.block ?_
        refine WpC.seq ?_
        refine rS {} [0, 1, 5, 7, 8] [100000] hN (by kernel_rfl) (by kernel_rfl) ?_
        refine tnU ?_
        refine WpC.seq ?_
        obtain ⟨v7, hv7, h⟩ := bind_some h
        obtain ⟨v8, hv8, h⟩ := bind_some h
        refine rS { its := [(3, .v (.named 5) hv7), (5, .c (COk.ren (ar_at_1_m0.ok O hO k v7 a1 v8 hv8) (fun n => if n = 100000 then 100000 else n) (injOn_of (by kernel_rfl))))] } [0, 1, 5, 7, 8, 16] [100000] hN (by kernel_rfl) (by kernel_rfl) ?_
        refine tnU ?_
        refine tS (b := v8) (by kernel_rfl) (fun hc9 => ?_) (fun hc9 => ?_)
        · replace h := ite_t hc9 h
          refine WpC.seq ?_
          refine rS {} [4] [100000] hN (by kernel_rfl) (by kernel_rfl) ?_
          refine tnU ?_
          refine WpC.ret ?_
          refine blockQ_ret ?_
          refine thenQ_ret ?_
          have hq := Option.some.inj h
          subst hq
          refine thenQ_ret ?_
          have h := hout5
          refine blockQ_ret ?_
          refine thenQ_ret ?_
          have hq := Option.some.inj h
          subst hq
          exact eR (by kernel_rfl) (by kernel_rfl)
        · replace h := ite_f hc9 h
          refine WpC.conv (cS [.k [0, 1, 7, 8] [100000]] (by kernel_rfl) (by kernel_rfl)) (WpC.skip ?_)
          refine blockQ_normal ?_
          refine tnU ?_
          refine rS {} [0, 1, 7, 8] [100000] hN (by kernel_rfl) (by kernel_rfl) ?_
          refine tnU ?_
          exact ⟨n, Nat.lt_succ_self n, (IntKind.i64.wrap (v2 + 1)), h, by kernel_rfl⟩
      · replace h := ite_f hc6 h
        refine WpC.conv (cS [.k [] [100000]] (by kernel_rfl) (by kernel_rfl)) (WpC.exit ?_)
        refine thenQ_exit ?_
        have hq := Option.some.inj h
        subst hq
        refine thenQ_exit ?_
        have h := hout5
        refine blockQ_hit ?_
        refine tnU ?_
        exact ⟨h, by kernel_rfl⟩
  · rintro _ ⟨h, rfl⟩
    unfold ar_Member_90_m2.j1 at h
    refine WpC.seq ?_
    refine rS {} [4] [100000] hN (by kernel_rfl) (by kernel_rfl) ?_
    refine tnU ?_
    refine WpC.ret ?_
    have hq := Option.some.inj h
    subst hq
    exact eR (by kernel_rfl) (by kernel_rfl)

theorem ar_at.ok (O : Out) (hO : GOk O) (k : Nat) (a0 : List T_ar_Member) (a1 : List UInt8) (out : Int) (h : ar_at.f k a0 a1 = some out) : COk Un O Tryz.prog 68 { ar := [.p (.list (.named 5)) a0, .p .str a1], r := .p I6 out } := by
  refine cok_of_wp Tryz.func68 rfl (k := 8) rfl (Nat.le_of_ble_eq_true rfl) (namesOk_pure rfl rfl rfl rfl) ?_
  intro B hN
  refine WpC.conv (cvK (b := ⟨[(0, .p (.list (.named 5)) a0), (1, .p .str a1)], []⟩) [0, 1] [] (by kernel_rfl)) ?_
  unfold ar_at.f at h
  refine WpC.seq ?_
  refine rS {} [0, 3] [3] hN (by kernel_rfl) (by kernel_rfl) ?_
  refine tnU ?_
  refine WpC.seq ?_
  obtain ⟨v1, hv1, h⟩ := bind_some h
  refine rS { its := [(2, .c (COk.ren (ar_Member_90_m2.ok O hO k a0 a1 v1 hv1) (fun n => if n = 100000 then 3 else n) (injOn_of (by kernel_rfl))))] } [4] [] hN (by kernel_rfl) (by kernel_rfl) ?_
  refine tnU ?_
  refine WpC.ret ?_
  have hq := Option.some.inj h
  subst hq
  exact eR (by kernel_rfl) (by kernel_rfl)

theorem ar_Find.ok (O : Out) (hO : GOk O) (k : Nat) (a0 : List UInt8) (a1 : List UInt8) (out : T_ar_Member × Bool) (h : ar_Find.f k a0 a1 = some out) : COk Un O Tryz.prog 39 { ar := [.p .str a0, .p .str a1], r := .tup [.p (.named 5) out.1, .p .bool out.2] } := by
  refine cok_of_wp Tryz.func39 rfl (k := 28) rfl (Nat.le_of_ble_eq_true rfl) (namesOk_pure rfl rfl rfl rfl) ?_
  intro B hN
  refine WpC.conv (cvK (b := ⟨[(0, .p .str a0), (1, .p .str a1)], []⟩) [0, 1] [] (by kernel_rfl)) ?_
  unfold ar_Find.f at h
  refine WpC.seq ?_
  refine rS {} [0, 1, 4] [4] hN (by kernel_rfl) (by kernel_rfl) ?_
  refine tnU ?_
  refine WpC.seq ?_
  obtain ⟨v1, hv1, h⟩ := bind_some h
  refine rS { its := [(1, .c (COk.ren (ar_Parse.ok O hO k a0 v1 hv1) (fun n => if n = 60500 then 10001 else n) (injOn_of (by kernel_rfl))))] } [1, 4, 6, 7] [4, 10001] hN (by kernel_rfl) (by kernel_rfl) ?_
  refine tnU ?_
  refine WpC.seq ?_
  obtain ⟨v2, hv2, h⟩ := bind_some h
  refine rS { its := [(2, .c (ar_at.ok O hO k v1.1 a1 v2 hv2))] } [4, 6, 7, 8] [4, 10001] hN (by kernel_rfl) (by kernel_rfl) ?_
  refine tnU ?_
  refine sqJ (fun st' => ar_Find.j5 k v1 v2 = some out ∧ st' = ⟨[(4, .loc 4 0), (6, .vec 10001 3 0 v1.1.length), (8, .p I6 v2)], [(4, .box [.p .str ([] : List UInt8), .p I6 (0 : Int), .p .str ([] : List UInt8)]), (10001, .row 77 (.named 5) v1.1 false)]⟩) ?_ ?_
  · refine sqJ (fun st' => ∃ v6 : Bool, ar_Find.j8 k v1 v2 v6 = some out ∧ st' = ⟨[(4, .loc 4 0), (6, .vec 10001 3 0 v1.1.length), (8, .p I6 v2), (22, .p .bool v6)], [(4, .box [.p .str ([] : List UInt8), .p I6 (0 : Int), .p .str ([] : List UInt8)]), (10001, .row 77 (.named 5) v1.1 false)]⟩) ?_ ?_
    · rcases bool_cases (!(v1.2 == 0)) with hc9 | hc9
      · replace h := ite_t hc9 h
        refine rS { kn := [(19, .t hc9)] } [4, 6, 8, 22] [4, 10001] hN (by kernel_rfl) (by kernel_rfl) ?_
        refine tnU ?_
        exact ⟨true, h, by kernel_rfl⟩
      · replace h := ite_f hc9 h
        refine rS { kn := [(19, .f hc9)] } [4, 6, 8, 22] [4, 10001] hN (by kernel_rfl) (by kernel_rfl) ?_
        refine tnU ?_
        exact ⟨(decide (v2 < 0)), h, by kernel_rfl⟩
    · rintro _ ⟨v6, h, rfl⟩
      unfold ar_Find.j8 at h
      refine tS (b := v6) (by kernel_rfl) (fun hc7 => ?_) (fun hc7 => ?_)
      · replace h := ite_t hc7 h
        refine WpC.seq ?_
        refine rS {} [4, 5] [4] hN (by kernel_rfl) (by kernel_rfl) ?_
        refine tnU ?_
        refine WpC.ret ?_
        refine thenQ_ret ?_
        have hq := Option.some.inj h
        subst hq
        exact eR (by kernel_rfl) (by kernel_rfl)
      · replace h := ite_f hc7 h
        refine WpC.conv (cS [.k [4, 6, 8] [4, 10001]] (by kernel_rfl) (by kernel_rfl)) (WpC.skip ?_)
        refine tnU ?_
        exact ⟨h, by kernel_rfl⟩
  · rintro _ ⟨h, rfl⟩
    unfold ar_Find.j5 at h
    refine WpC.seq ?_
    obtain ⟨g3, h⟩ := if_some h
    obtain ⟨v4, hv4, h⟩ := bind_some h
    refine rS { its := [(2, .g g3), (3, .v (.named 5) hv4)] } [4, 5] [4] hN (by kernel_rfl) (by kernel_rfl) ?_
    refine tnU ?_
    refine WpC.ret ?_
    have hq := Option.some.inj h
    subst hq
    exact eR (by kernel_rfl) (by kernel_rfl)

theorem ar_Set.ok (O : Out) (hO : GOk O) (k : Nat) (a0 : List UInt8) (a1 : T_ar_Member) (out : (List UInt8) × Nat) (h : ar_Set.f k a0 a1 = some out) : COk Un O Tryz.prog 69 { ar := [.p .str a0, .p (.named 5) a1], r := .tup [.p .str out.1, .p .err out.2] } := by
  refine cok_of_wp Tryz.func69 rfl (k := 39) rfl (Nat.le_of_ble_eq_true rfl) (namesOk_pure rfl rfl rfl rfl) ?_
  intro B hN
  refine WpC.conv (cvK (b := ⟨[(0, .p .str a0), (1, .p (.named 5) a1)], []⟩) [0, 1] [] (by kernel_rfl)) ?_
  unfold ar_Set.f at h
  refine WpC.seq ?_
  refine rS {} [0, 3] [3] hN (by kernel_rfl) (by kernel_rfl) ?_
  refine tnU ?_
  refine WpC.seq ?_
  obtain ⟨v1, hv1, h⟩ := bind_some h
  refine rS { its := [(1, .c (COk.ren (ar_Parse.ok O hO k a0 v1 hv1) (fun n => if n = 60500 then 10001 else n) (injOn_of (by kernel_rfl))))] } [0, 3, 6, 7] [3, 10001] hN (by kernel_rfl) (by kernel_rfl) ?_
  refine tnU ?_
  refine sqJ (fun st' => ar_Set.j10 k a1 v1 = some out ∧ st' = ⟨[(3, .loc 3 0), (6, .vec 10001 3 0 v1.1.length)], [(3, .box [.p .str a1.f_Name, .p I6 a1.f_Time, .p .str a1.f_Content]), (10001, .row 77 (.named 5) v1.1 false)]⟩) ?_ ?_
  · refine sqJ (fun st' => ∃ v11 : Bool, ar_Set.j13 k a1 v1 v11 = some out ∧ st' = ⟨[(3, .loc 3 0), (6, .vec 10001 3 0 v1.1.length), (7, .p .err v1.2), (19, .p .bool v11)], [(3, .box [.p .str a1.f_Name, .p I6 a1.f_Time, .p .str a1.f_Content]), (10001, .row 77 (.named 5) v1.1 false)]⟩) ?_ ?_
    · rcases bool_cases (!(v1.2 == 0)) with hc14 | hc14
      · replace h := ite_t hc14 h
        refine rS { kn := [(16, .t hc14)] } [3, 6, 7, 19] [3, 10001] hN (by kernel_rfl) (by kernel_rfl) ?_
        refine tnU ?_
        exact ⟨(!(a0 == ([] : List UInt8))), h, by kernel_rfl⟩
      · replace h := ite_f hc14 h
        refine rS { kn := [(16, .f hc14)] } [3, 6, 7, 19] [3, 10001] hN (by kernel_rfl) (by kernel_rfl) ?_
        refine tnU ?_
        exact ⟨false, h, by kernel_rfl⟩
    · rintro _ ⟨v11, h, rfl⟩
      unfold ar_Set.j13 at h
      refine tS (b := v11) (by kernel_rfl) (fun hc12 => ?_) (fun hc12 => ?_)
      · replace h := ite_t hc12 h
        refine WpC.seq ?_
        refine rS {} [4, 5] [] hN (by kernel_rfl) (by kernel_rfl) ?_
        refine tnU ?_
        refine WpC.ret ?_
        refine thenQ_ret ?_
        have hq := Option.some.inj h
        subst hq
        exact eR (by kernel_rfl) (by kernel_rfl)
      · replace h := ite_f hc12 h
        refine WpC.conv (cS [.k [3, 6] [3, 10001]] (by kernel_rfl) (by kernel_rfl)) (WpC.skip ?_)
        refine tnU ?_
        exact ⟨h, by kernel_rfl⟩
  · rintro _ ⟨h, rfl⟩
    unfold ar_Set.j10 at h
    refine sqJ (fun st' => ∃ v2 : List T_ar_Member, ar_Set.j4 k v2 = some out ∧ st' = ⟨[(6, .vec 1006 3 0 v2.length)], [(1006, .row 77 (.named 5) v2 false)]⟩) ?_ ?_
    · refine WpC.seq ?_
      obtain ⟨v5, hv5, h⟩ := bind_some h
      refine rS { its := [(3, .c (ar_at.ok O hO k v1.1 a1.f_Name v5 hv5))] } [3, 6, 8] [3, 10001] hN (by kernel_rfl) (by kernel_rfl) ?_
      refine tnU ?_
      refine WpC.seq ?_
      refine rS {} [3, 6, 8, 26] [3, 10001] hN (by kernel_rfl) (by kernel_rfl) ?_
      refine tnU ?_
      refine tS (b := (decide (v5 ≥ 0))) (by kernel_rfl) (fun hc6 => ?_) (fun hc6 => ?_)
      · replace h := ite_t hc6 h
        obtain ⟨g7, h⟩ := if_some h
        obtain ⟨v8, hv8, h⟩ := bind_some h
        refine rSC { its := [(3, .g g7), (4, .v (.named 5) hv8)] } [6] [10001] hN (by kernel_rfl) (by kernel_rfl) (cS [.k [6] [10001], .x (Conv.cast (U := Un) (st := ⟨[(6, .vec 10001 3 0 v1.1.length)], [(10001, .row 77 (.named 5) (upd v1.1 (0 + v5.toNat) (T_ar_Member.mk a1.f_Name a1.f_Time a1.f_Content)) false)]⟩) (st' := ⟨[(6, .vec 10001 3 0 ((upd v1.1 (0 + v5.toNat) (T_ar_Member.mk a1.f_Name a1.f_Time a1.f_Content)).length))], [(10001, .row 77 (.named 5) (upd v1.1 (0 + v5.toNat) (T_ar_Member.mk a1.f_Name a1.f_Time a1.f_Content)) false)]⟩) (by simp only [upd_length, List.length_nil, List.length_replicate])), .rn 10001 1006, .k [6] [1006]] (by kernel_rfl) (by kernel_rfl)) ?_
        refine tnU ?_
        exact ⟨(upd v1.1 (0 + v5.toNat) (T_ar_Member.mk a1.f_Name a1.f_Time a1.f_Content)), h, by kernel_rfl⟩
      · replace h := ite_f hc6 h
        obtain ⟨g9, h⟩ := if_some h
        refine rSC { its := [(3, .g g9)] } [6] [34] hN (by kernel_rfl) (by kernel_rfl) (cS [.rn 34 1006, .k [6] [1006]] (by kernel_rfl) (by kernel_rfl)) ?_
        refine tnU ?_
        exact ⟨(v1.1 ++ [(T_ar_Member.mk a1.f_Name a1.f_Time a1.f_Content)]), h, by kernel_rfl⟩
    · rintro _ ⟨v2, h, rfl⟩
      unfold ar_Set.j4 at h
      refine WpC.seq ?_
      obtain ⟨v3, hv3, h⟩ := bind_some h
      refine rS { its := [(1, .c (ar_Make.ok O hO k v2 v3 hv3))] } [4, 5] [] hN (by kernel_rfl) (by kernel_rfl) ?_
      refine tnU ?_
      refine WpC.ret ?_
      have hq := Option.some.inj h
      subst hq
      exact eR (by kernel_rfl) (by kernel_rfl)

theorem stat_setMember_m0.ok (O : Out) (hO : GOk O) (k : Nat) (a0 : List ((List UInt8) × T_tree_File)) (a1 : List UInt8) (a2 : List UInt8) (a3 : Int) (out : Nat × (List ((List UInt8) × T_tree_File))) (h : stat_setMember_m0.f k a0 a1 a2 a3 = some out) : COk Un O Tryz.prog 41 { ar := [.loc 100000 0, .p .str a1, .p .str a2, .p I6 a3], r := .p .err out.1, bs := [(100000, .box [.mp 100001]), (100001, .map (.named 3) a0)], bs' := [(100000, .box [.mp 100001]), (100001, .map (.named 3) out.2)] } := by
  refine cok_of_wp Tryz.func41 rfl (k := 54) rfl (Nat.le_of_ble_eq_true rfl) (namesOk_of (by kernel_rfl)) ?_
  intro B hN
  refine WpC.conv (cvK (b := ⟨[(0, .loc 100000 0), (1, .p .str a1), (2, .p .str a2), (3, .p I6 a3)], [(100000, .box [.mp 100001]), (100001, .map (.named 3) a0)]⟩) [0, 1, 2, 3] [100000, 100001] (by kernel_rfl)) ?_
  unfold stat_setMember_m0.f at h
  refine WpC.seq ?_
  refine rS {} [0, 1, 2, 3] [100000, 100001] hN (by kernel_rfl) (by kernel_rfl) ?_
  refine tnU ?_
  refine sqJ (fun st' => stat_setMember_m0.j6 k a0 a1 a2 a3 = some out ∧ st' = ⟨[(0, .loc 100000 0), (1, .p .str a1), (2, .p .str a2), (3, .p I6 a3)], [(100000, .box [.mp 100001]), (100001, .map (.named 3) a0)]⟩) ?_ ?_
  · refine sqJ (fun st' => ∃ v7 : Bool, stat_setMember_m0.j9 k a0 a1 a2 a3 v7 = some out ∧ st' = ⟨[(0, .loc 100000 0), (1, .p .str a1), (2, .p .str a2), (3, .p I6 a3), (20, .p .bool v7)], [(100000, .box [.mp 100001]), (100001, .map (.named 3) a0)]⟩) ?_ ?_
    · rcases bool_cases (decide (a3 < 1)) with hc10 | hc10
      · replace h := ite_t hc10 h
        refine rS { kn := [(17, .t hc10)] } [0, 1, 2, 3, 20] [100000, 100001] hN (by kernel_rfl) (by kernel_rfl) ?_
        refine tnU ?_
        exact ⟨true, h, by kernel_rfl⟩
      · replace h := ite_f hc10 h
        refine rS { kn := [(17, .f hc10)] } [0, 1, 2, 3, 20] [100000, 100001] hN (by kernel_rfl) (by kernel_rfl) ?_
        refine tnU ?_
        exact ⟨(decide (a3 > 549755813888)), h, by kernel_rfl⟩
    · rintro _ ⟨v7, h, rfl⟩
      unfold stat_setMember_m0.j9 at h
      refine tS (b := v7) (by kernel_rfl) (fun hc8 => ?_) (fun hc8 => ?_)
      · replace h := ite_t hc8 h
        refine WpC.seq ?_
        refine rS { its := [(0, .e 0 (sok_loadG (U := Un) (t := .err) (rs := []) rfl rfl ty_27 rfl rfl (hO.var 0 3 rfl) (fun S w => .err 0)))] } [8] [100000, 100001] hN (by kernel_rfl) (by kernel_rfl) ?_
        refine tnU ?_
        refine WpC.ret ?_
        refine thenQ_ret ?_
        have hq := Option.some.inj h
        subst hq
        exact eR (by kernel_rfl) (by kernel_rfl)
      · replace h := ite_f hc8 h
        refine WpC.conv (cS [.k [0, 1, 2, 3] [100000, 100001]] (by kernel_rfl) (by kernel_rfl)) (WpC.skip ?_)
        refine tnU ?_
        exact ⟨h, by kernel_rfl⟩
  · rintro _ ⟨h, rfl⟩
    unfold stat_setMember_m0.j6 at h
    refine WpC.seq ?_
    obtain ⟨v1, hv1, h⟩ := bind_some h
    refine rS { its := [(2, .c (COk.ren (tree_Tree_Get_m0.ok O hO k a0 a1 v1 hv1) (fun n => if n = 100000 then 100000 else if n = 100001 then 100001 else n) (injOn_of (by kernel_rfl))))] } [0, 1, 2, 3, 9] [9, 100000, 100001] hN (by kernel_rfl) (by kernel_rfl) ?_
    refine tnU ?_
    refine WpC.seq ?_
    obtain ⟨v2, hv2, h⟩ := bind_some h
    refine rS { its := [(3, .c (ar_Find.ok O hO k v1.1.f_Content a2 v2 hv2))] } [0, 1, 2, 3, 9, 11] [9, 11, 100000, 100001] hN (by kernel_rfl) (by kernel_rfl) ?_
    refine tnU ?_
    refine WpC.seq ?_
    refine rS {} [0, 1, 3, 9, 11] [9, 11, 100000, 100001] hN (by kernel_rfl) (by kernel_rfl) ?_
    refine tnU ?_
    refine WpC.seq ?_
    obtain ⟨v3, hv3, h⟩ := bind_some h
    refine rS { its := [(3, .c (ar_Set.ok O hO k v1.1.f_Content (T_ar_Member.mk a2 a3 v2.1.f_Content) v3 hv3))] } [0, 1, 3, 13, 14] [100000, 100001] hN (by kernel_rfl) (by kernel_rfl) ?_
    refine tnU ?_
    refine WpC.seq ?_
    refine WpC.seq ?_
    refine rS {} [0, 1, 3, 13, 14, 47] [100000, 100001] hN (by kernel_rfl) (by kernel_rfl) ?_
    refine tnU ?_
    refine tS (b := (!(v3.2 == 0))) (by kernel_rfl) (fun hc4 => ?_) (fun hc4 => ?_)
    · replace h := ite_t hc4 h
      refine WpC.seq ?_
      refine rS {} [8] [100000, 100001] hN (by kernel_rfl) (by kernel_rfl) ?_
      refine tnU ?_
      refine WpC.ret ?_
      refine thenQ_ret ?_
      have hq := Option.some.inj h
      subst hq
      exact eR (by kernel_rfl) (by kernel_rfl)
    · replace h := ite_f hc4 h
      refine WpC.conv (cS [.k [0, 1, 3, 13] [100000, 100001]] (by kernel_rfl) (by kernel_rfl)) (WpC.skip ?_)
      refine tnU ?_
      refine WpC.seq ?_
      obtain ⟨v5, hv5, h⟩ := bind_some h
      refine rS { its := [(4, .c (COk.ren (tree_Tree_Put_m0.ok O hO k a0 a1 v3.1 a3 v5 hv5) (fun n => if n = 100000 then 100000 else if n = 100001 then 100001 else n) (injOn_of (by kernel_rfl))))] } [8] [100000, 100001] hN (by kernel_rfl) (by kernel_rfl) ?_
      refine tnU ?_
      refine WpC.ret ?_
      have hq := Option.some.inj h
      subst hq
      exact eR (by kernel_rfl) (by kernel_rfl)

theorem stat_Set_m0.ok (O : Out) (hO : GOk O) (k : Nat) (a0 : List ((List UInt8) × T_tree_File)) (a1 : List UInt8) (a2 : Int) (out : Nat × (List ((List UInt8) × T_tree_File))) (h : stat_Set_m0.f k a0 a1 a2 = some out) : COk Un O Tryz.prog 12 { ar := [.loc 100000 0, .p .str a1, .p I6 a2], r := .p .err out.1, bs := [(100000, .box [.mp 100001]), (100001, .map (.named 3) a0)], bs' := [(100000, .box [.mp 100001]), (100001, .map (.named 3) out.2)] } := by
  refine cok_of_wp Tryz.func12 rfl (k := 27) rfl (Nat.le_of_ble_eq_true rfl) (namesOk_of (by kernel_rfl)) ?_
  intro B hN
  refine WpC.conv (cvK (b := ⟨[(0, .loc 100000 0), (1, .p .str a1), (2, .p I6 a2)], [(100000, .box [.mp 100001]), (100001, .map (.named 3) a0)]⟩) [0, 1, 2] [100000, 100001] (by kernel_rfl)) ?_
  unfold stat_Set_m0.f at h
  refine WpC.seq ?_
  refine rS {} [0, 1, 2] [100000, 100001] hN (by kernel_rfl) (by kernel_rfl) ?_
  refine tnU ?_
  refine WpC.seq ?_
  obtain ⟨v1, hv1, h⟩ := bind_some h
  refine rS { its := [(1, .c (names_Member.ok O hO k a1 v1 hv1))] } [0, 1, 2, 7, 8, 9] [100000, 100001] hN (by kernel_rfl) (by kernel_rfl) ?_
  refine tnU ?_
  refine WpC.seq ?_
  refine WpC.seq ?_
  refine rS {} [0, 1, 2, 7, 8, 17] [100000, 100001] hN (by kernel_rfl) (by kernel_rfl) ?_
  refine tnU ?_
  refine tS (b := (!v1.2.2)) (by kernel_rfl) (fun hc2 => ?_) (fun hc2 => ?_)
  · replace h := ite_t hc2 h
    refine WpC.seq ?_
    obtain ⟨v3, hv3, h⟩ := bind_some h
    refine rS { its := [(3, .c (COk.ren (tree_Tree_Touch_m0.ok O hO k a0 a1 a2 v3 hv3) (fun n => if n = 100000 then 100000 else if n = 100001 then 100001 else n) (injOn_of (by kernel_rfl))))] } [6] [100000, 100001] hN (by kernel_rfl) (by kernel_rfl) ?_
    refine tnU ?_
    refine WpC.ret ?_
    refine thenQ_ret ?_
    have hq := Option.some.inj h
    subst hq
    exact eR (by kernel_rfl) (by kernel_rfl)
  · replace h := ite_f hc2 h
    refine WpC.conv (cS [.k [0, 2, 7, 8] [100000, 100001]] (by kernel_rfl) (by kernel_rfl)) (WpC.skip ?_)
    refine tnU ?_
    refine WpC.seq ?_
    obtain ⟨v4, hv4, h⟩ := bind_some h
    refine rS { its := [(4, .c (COk.ren (stat_setMember_m0.ok O hO k a0 v1.1 v1.2.1 a2 v4 hv4) (fun n => if n = 100000 then 100000 else if n = 100001 then 100001 else n) (injOn_of (by kernel_rfl))))] } [6] [100000, 100001] hN (by kernel_rfl) (by kernel_rfl) ?_
    refine tnU ?_
    refine WpC.ret ?_
    have hq := Option.some.inj h
    subst hq
    exact eR (by kernel_rfl) (by kernel_rfl)

theorem tree_Tree_Remove_m0.ok (O : Out) (hO : GOk O) (k : Nat) (a0 : List ((List UInt8) × T_tree_File)) (a1 : List UInt8) (out : Nat × (List ((List UInt8) × T_tree_File))) (h : tree_Tree_Remove_m0.f k a0 a1 = some out) : COk Un O Tryz.prog 70 { ar := [.loc 100000 0, .p .str a1], r := .p .err out.1, bs := [(100000, .box [.mp 100001]), (100001, .map (.named 3) a0)], bs' := [(100000, .box [.mp 100001]), (100001, .map (.named 3) out.2)] } := by
  refine cok_of_wp Tryz.func70 rfl (k := 24) rfl (Nat.le_of_ble_eq_true rfl) (namesOk_of (by kernel_rfl)) ?_
  intro B hN
  refine WpC.conv (cvK (b := ⟨[(0, .loc 100000 0), (1, .p .str a1)], [(100000, .box [.mp 100001]), (100001, .map (.named 3) a0)]⟩) [0, 1] [100000, 100001] (by kernel_rfl)) ?_
  unfold tree_Tree_Remove_m0.f at h
  refine WpC.seq ?_
  refine rS {} [0, 1] [100000, 100001] hN (by kernel_rfl) (by kernel_rfl) ?_
  refine tnU ?_
  refine WpC.seq ?_
  refine WpC.seq ?_
  refine rS {} [0, 1, 6] [100000, 100001] hN (by kernel_rfl) (by kernel_rfl) ?_
  refine tnU ?_
  refine WpC.seq ?_
  refine rS {} [0, 1, 17] [100000, 100001] hN (by kernel_rfl) (by kernel_rfl) ?_
  refine tnU ?_
  refine tS (b := (!((mget a1 a0).isSome))) (by kernel_rfl) (fun hc1 => ?_) (fun hc1 => ?_)
  · replace h := ite_t hc1 h
    refine WpC.seq ?_
    refine rS { its := [(0, .e 0 (sok_loadG (U := Un) (t := .err) (rs := []) rfl rfl ty_27 rfl rfl (hO.var 7 9 rfl) (fun S w => .err 7)))] } [4] [100000, 100001] hN (by kernel_rfl) (by kernel_rfl) ?_
    refine tnU ?_
    refine WpC.ret ?_
    refine thenQ_ret ?_
    have hq := Option.some.inj h
    subst hq
    exact eR (by kernel_rfl) (by kernel_rfl)
  · replace h := ite_f hc1 h
    refine WpC.conv (cS [.k [0, 1] [100000, 100001]] (by kernel_rfl) (by kernel_rfl)) (WpC.skip ?_)
    refine tnU ?_
    refine WpC.seq ?_
    refine rS {} [] [100000, 100001] hN (by kernel_rfl) (by kernel_rfl) ?_
    refine tnU ?_
    refine WpC.seq ?_
    refine rS {} [4] [100000, 100001] hN (by kernel_rfl) (by kernel_rfl) ?_
    refine tnU ?_
    refine WpC.conv (cS [.nE 4, .k [4] [100000, 100001]] (by kernel_rfl) (by kernel_rfl)) (WpC.ret ?_)
    have hq := Option.some.inj h
    subst hq
    exact eR (by kernel_rfl) (by kernel_rfl)

theorem effect_Do_m0.ok (O : Out) (hO : GOk O) (k : Nat) (a0 : List ((List UInt8) × T_tree_File)) (a1 : Int) (a2 : T_effect_Effect) (out : Nat × (List ((List UInt8) × T_tree_File))) (h : effect_Do_m0.f k a0 a1 a2 = some out) : COk Un O Tryz.prog 42 { ar := [.loc 100000 0, .p I6 a1, .p (.named 4) a2], r := .p .err out.1, bs := [(100000, .box [.mp 100001]), (100001, .map (.named 3) a0)], bs' := [(100000, .box [.mp 100001]), (100001, .map (.named 3) out.2)] } := by
  refine cok_of_wp Tryz.func42 rfl (k := 35) rfl (Nat.le_of_ble_eq_true rfl) (namesOk_of (by kernel_rfl)) ?_
  intro B hN
  refine WpC.conv (cvK (b := ⟨[(0, .loc 100000 0), (1, .p I6 a1), (2, .p (.named 4) a2)], [(100000, .box [.mp 100001]), (100001, .map (.named 3) a0)]⟩) [0, 1, 2] [100000, 100001] (by kernel_rfl)) ?_
  unfold effect_Do_m0.f at h
  refine WpC.seq ?_
  refine rS {} [0, 1, 5] [5, 100000, 100001] hN (by kernel_rfl) (by kernel_rfl) ?_
  refine tnU ?_
  refine WpC.seq ?_
  refine WpC.seq ?_
  obtain ⟨v1, hv1, h⟩ := bind_some h
  refine rS { its := [(1, .c (effect_Check.ok O hO k (T_effect_Effect.mk a2.f_Op a2.f_Name a2.f_Text) v1 hv1))] } [0, 1, 5, 7] [5, 100000, 100001] hN (by kernel_rfl) (by kernel_rfl) ?_
  refine tnU ?_
  refine WpC.seq ?_
  refine rS {} [0, 1, 5, 7, 11] [5, 100000, 100001] hN (by kernel_rfl) (by kernel_rfl) ?_
  refine tnU ?_
  refine tS (b := (!(v1 == 0))) (by kernel_rfl) (fun hc2 => ?_) (fun hc2 => ?_)
  · replace h := ite_t hc2 h
    refine WpC.seq ?_
    refine rS {} [6] [100000, 100001] hN (by kernel_rfl) (by kernel_rfl) ?_
    refine tnU ?_
    refine WpC.ret ?_
    refine thenQ_ret ?_
    have hq := Option.some.inj h
    subst hq
    exact eR (by kernel_rfl) (by kernel_rfl)
  · replace h := ite_f hc2 h
    refine WpC.conv (cS [.k [0, 1, 5] [5, 100000, 100001]] (by kernel_rfl) (by kernel_rfl)) (WpC.skip ?_)
    refine tnU ?_
    refine WpC.seq ?_
    refine WpC.seq ?_
    refine rS {} [0, 1, 5, 14] [5, 100000, 100001] hN (by kernel_rfl) (by kernel_rfl) ?_
    refine tnU ?_
    refine WpC.block ?_
    refine WpC.seq ?_
    refine rS {} [0, 1, 5, 14, 15] [5, 100000, 100001] hN (by kernel_rfl) (by kernel_rfl) ?_
    refine tnU ?_
    refine tS (b := (a2.f_Op == 1)) (by kernel_rfl) (fun hc3 => ?_) (fun hc3 => ?_)
    · replace h := ite_t hc3 h
      refine WpC.seq ?_
      obtain ⟨v4, hv4, h⟩ := bind_some h
      refine rS { its := [(6, .c (COk.ren (tree_Tree_Put_m0.ok O hO k a0 a2.f_Name a2.f_Text a1 v4 hv4) (fun n => if n = 100000 then 100000 else if n = 100001 then 100001 else n) (injOn_of (by kernel_rfl))))] } [6] [100000, 100001] hN (by kernel_rfl) (by kernel_rfl) ?_
      refine tnU ?_
      refine WpC.ret ?_
      refine blockQ_ret ?_
      refine thenQ_ret ?_
      have hq := Option.some.inj h
      subst hq
      exact eR (by kernel_rfl) (by kernel_rfl)
    · replace h := ite_f hc3 h
      refine WpC.seq ?_
      refine rS {} [0, 1, 5, 24] [5, 100000, 100001] hN (by kernel_rfl) (by kernel_rfl) ?_
      refine tnU ?_
      refine tS (b := (a2.f_Op == 2)) (by kernel_rfl) (fun hc5 => ?_) (fun hc5 => ?_)
      · replace h := ite_t hc5 h
        refine WpC.seq ?_
        obtain ⟨v6, hv6, h⟩ := bind_some h
        refine rS { its := [(4, .c (COk.ren (stat_Set_m0.ok O hO k a0 a2.f_Name a1 v6 hv6) (fun n => if n = 100000 then 100000 else if n = 100001 then 100001 else n) (injOn_of (by kernel_rfl))))] } [6] [100000, 100001] hN (by kernel_rfl) (by kernel_rfl) ?_
        refine tnU ?_
        refine WpC.ret ?_
        refine blockQ_ret ?_
        refine thenQ_ret ?_
        have hq := Option.some.inj h
        subst hq
        exact eR (by kernel_rfl) (by kernel_rfl)
      · replace h := ite_f hc5 h
        refine WpC.conv (cS [.k [0, 5] [5, 100000, 100001]] (by kernel_rfl) (by kernel_rfl)) (WpC.skip ?_)
        refine blockQ_normal ?_
        refine tnU ?_
        refine WpC.seq ?_
        obtain ⟨v7, hv7, h⟩ := bind_some h
        refine rS { its := [(3, .c (COk.ren (tree_Tree_Remove_m0.ok O hO k a0 a2.f_Name v7 hv7) (fun n => if n = 100000 then 100000 else if n = 100001 then 100001 else n) (injOn_of (by kernel_rfl))))] } [6] [100000, 100001] hN (by kernel_rfl) (by kernel_rfl) ?_
        refine tnU ?_
        refine WpC.ret ?_
        have hq := Option.some.inj h
        subst hq
        exact eR (by kernel_rfl) (by kernel_rfl)

theorem tree_Tree_Time_m0.ok (O : Out) (hO : GOk O) (k : Nat) (a0 : List ((List UInt8) × T_tree_File)) (a1 : List UInt8) (out : Int) (h : tree_Tree_Time_m0.f k a0 a1 = some out) : COk Un O Tryz.prog 20 { ar := [.loc 100000 0, .p .str a1], r := .p I6 out, bs := [(100000, .box [.mp 100001]), (100001, .map (.named 3) a0)], bs' := [(100000, .box [.mp 100001]), (100001, .map (.named 3) a0)] } := by
  refine cok_of_wp Tryz.func20 rfl (k := 12) rfl (Nat.le_of_ble_eq_true rfl) (namesOk_of (by kernel_rfl)) ?_
  intro B hN
  refine WpC.conv (cvK (b := ⟨[(0, .loc 100000 0), (1, .p .str a1)], [(100000, .box [.mp 100001]), (100001, .map (.named 3) a0)]⟩) [0, 1] [100000, 100001] (by kernel_rfl)) ?_
  unfold tree_Tree_Time_m0.f at h
  refine WpC.seq ?_
  refine rS {} [0, 1] [100000, 100001] hN (by kernel_rfl) (by kernel_rfl) ?_
  refine tnU ?_
  refine WpC.seq ?_
  refine rS {} [4] [100000, 100001] hN (by kernel_rfl) (by kernel_rfl) ?_
  refine tnU ?_
  refine WpC.ret ?_
  have hq := Option.some.inj h
  subst hq
  exact eR (by kernel_rfl) (by kernel_rfl)

theorem millwrightlaw05_alive.ok (O : Out) (hO : GOk O) (k : Nat) (out : Bool) (h : millwrightlaw05_alive.f k = some out) : COk Un O Tryz.prog 14 { ar := [], r := .p .bool out } := by
  refine cok_of_wp Tryz.func14 rfl (k := 16) rfl (Nat.le_of_ble_eq_true rfl) (namesOk_pure rfl rfl rfl rfl) ?_
  intro B hN
  refine WpC.conv (cvK (b := ⟨[], []⟩) [] [] (by kernel_rfl)) ?_
  unfold millwrightlaw05_alive.f at h
  refine WpC.seq ?_
  refine rS {} [] [] hN (by kernel_rfl) (by kernel_rfl) ?_
  refine tnU ?_
  refine WpC.seq ?_
  obtain ⟨v1, hv1, h⟩ := bind_some h
  refine rS { its := [(0, .c (COk.ren (tree_New.ok O hO k v1 hv1) (fun n => if n = 60500 then 10001 else if n = 60501 then 10002 else n) (injOn_of (by kernel_rfl))))] } [1] [10001, 10002] hN (by kernel_rfl) (by kernel_rfl) ?_
  refine tnU ?_
  refine WpC.seq ?_
  obtain ⟨v2, hv2, h⟩ := bind_some h
  rcases bool_cases (v2.1 == 0) with hc3 | hc3
  · replace h := ite_t hc3 h
    obtain ⟨v4, hv4, h⟩ := bind_some h
    refine rS { its := [(5, .c (COk.ren (effect_Do_m0.ok O hO k v1 4 (T_effect_Effect.mk 1 ([97] : List UInt8) ([120] : List UInt8)) v2 hv2) (fun n => if n = 100000 then 10001 else if n = 100001 then 10002 else n) (injOn_of (by kernel_rfl)))), (10, .c (COk.ren (tree_Tree_Time_m0.ok O hO k v2.2 ([97] : List UInt8) v4 hv4) (fun n => if n = 100000 then 10001 else if n = 100001 then 10002 else n) (injOn_of (by kernel_rfl))))], kn := [(11, .t hc3)] } [0] [] hN (by kernel_rfl) (by kernel_rfl) ?_
    refine tnU ?_
    refine WpC.ret ?_
    have hq := Option.some.inj h
    subst hq
    exact eR (by kernel_rfl) (by kernel_rfl)
  · replace h := ite_f hc3 h
    refine rS { its := [(5, .c (COk.ren (effect_Do_m0.ok O hO k v1 4 (T_effect_Effect.mk 1 ([97] : List UInt8) ([120] : List UInt8)) v2 hv2) (fun n => if n = 100000 then 10001 else if n = 100001 then 10002 else n) (injOn_of (by kernel_rfl))))], kn := [(11, .f hc3)] } [0] [] hN (by kernel_rfl) (by kernel_rfl) ?_
    refine tnU ?_
    refine WpC.ret ?_
    have hq := Option.some.inj h
    subst hq
    exact eR (by kernel_rfl) (by kernel_rfl)

theorem millwrightnum_Long.ok (O : Out) (hO : GOk O) (k : Nat) (a0 : List (List UInt8)) (a1 : Int) (a2 : Int) (out : Bool) (h : millwrightnum_Long.f k a0 a1 a2 = some out) : COk Un O Tryz.prog 15 { ar := [.p (.list .str) a0, .p I6 a1, .p I6 a2], r := .p .bool out } := by
  refine cok_of_wp Tryz.func15 rfl (k := 24) rfl (Nat.le_of_ble_eq_true rfl) (namesOk_pure rfl rfl rfl rfl) ?_
  intro B hN
  refine WpC.conv (cvK (b := ⟨[(0, .p (.list .str) a0), (1, .p I6 a1), (2, .p I6 a2)], []⟩) [0, 1, 2] [] (by kernel_rfl)) ?_
  unfold millwrightnum_Long.f at h
  refine WpC.seq ?_
  refine rS {} [0, 1, 2] [] hN (by kernel_rfl) (by kernel_rfl) ?_
  refine tnU ?_
  refine WpC.seq ?_
  refine WpC.seq ?_
  refine rS {} [0, 2, 12] [] hN (by kernel_rfl) (by kernel_rfl) ?_
  refine tnU ?_
  refine tS (b := (decide ((a0.length : Int) > a1))) (by kernel_rfl) (fun hc1 => ?_) (fun hc1 => ?_)
  · replace h := ite_t hc1 h
    refine WpC.seq ?_
    refine rS {} [6] [] hN (by kernel_rfl) (by kernel_rfl) ?_
    refine tnU ?_
    refine WpC.ret ?_
    refine thenQ_ret ?_
    have hq := Option.some.inj h
    subst hq
    exact eR (by kernel_rfl) (by kernel_rfl)
  · replace h := ite_f hc1 h
    refine WpC.conv (cS [.k [0, 2] []] (by kernel_rfl) (by kernel_rfl)) (WpC.skip ?_)
    refine tnU ?_
    refine sqJ (fun st' => millwrightnum_Long.j2 k = some out ∧ st' = ⟨[], []⟩) ?_ ?_
    · refine WpC.seq ?_
      refine rS {} [2, 13, 14, 15] [] hN (by kernel_rfl) (by kernel_rfl) ?_
      refine tnU ?_
      refine WpC.block ?_
      obtain ⟨o5, hlo5, h⟩ := bind_some h
      have hout6 := h
      clear h
      refine WpC.loop (U := Un) (fun n st' => ∃ v3 : Int, millwrightnum_Long.l4 k a0 a2 n v3 = some o5 ∧ st' = ⟨[(2, .p I6 a2), (13, .p (.list .str) a0), (14, .p I6 ((a0.length : Int) : Int)), (15, .p I6 v3)], []⟩) k ⟨0, hlo5, by kernel_rfl⟩ ?_
      clear hlo5
      rintro (_ | n) _ ⟨v3, h, rfl⟩
      · cases h
      · rw [millwrightnum_Long.l4] at h
        refine WpC.seq ?_
        refine rS {} [2, 13, 14, 15, 16] [] hN (by kernel_rfl) (by kernel_rfl) ?_
        refine tnU ?_
        refine WpC.seq ?_
        refine tS (b := (decide (v3 < (a0.length : Int)))) (by kernel_rfl) (fun hc7 => ?_) (fun hc7 => ?_)
        · replace h := ite_t hc7 h
          refine WpC.conv (cS [.k [2, 13, 14, 15] []] (by kernel_rfl) (by kernel_rfl)) (WpC.skip ?_)
          refine tnU ?_
          refine WpC.seq ?_
          refine WpC.block ?_
          refine WpC.seq ?_
          obtain ⟨v8, hv8, h⟩ := bind_some h
          refine rS { its := [(0, .v .str hv8)] } [2, 8, 13, 14, 15] [] hN (by kernel_rfl) (by kernel_rfl) ?_
          refine tnU ?_
          refine WpC.seq ?_
          refine rS {} [2, 13, 14, 15, 22] [] hN (by kernel_rfl) (by kernel_rfl) ?_
          refine tnU ?_
          refine tS (b := (decide ((v8.length : Int) > a2))) (by kernel_rfl) (fun hc9 => ?_) (fun hc9 => ?_)
          · replace h := ite_t hc9 h
            refine WpC.seq ?_
            refine rS {} [6] [] hN (by kernel_rfl) (by kernel_rfl) ?_
            refine tnU ?_
            refine WpC.ret ?_
            refine blockQ_ret ?_
            refine thenQ_ret ?_
            have hq := Option.some.inj h
            subst hq
            refine thenQ_ret ?_
            have h := hout6
            refine blockQ_ret ?_
            refine thenQ_ret ?_
            have hq := Option.some.inj h
            subst hq
            exact eR (by kernel_rfl) (by kernel_rfl)
          · replace h := ite_f hc9 h
            refine WpC.conv (cS [.k [2, 13, 14, 15] []] (by kernel_rfl) (by kernel_rfl)) (WpC.skip ?_)
            refine blockQ_normal ?_
            refine tnU ?_
            refine rS {} [2, 13, 14, 15] [] hN (by kernel_rfl) (by kernel_rfl) ?_
            refine tnU ?_
            exact ⟨n, Nat.lt_succ_self n, (IntKind.i64.wrap (v3 + 1)), h, by kernel_rfl⟩
        · replace h := ite_f hc7 h
          refine WpC.conv (cS [.k [] []] (by kernel_rfl) (by kernel_rfl)) (WpC.exit ?_)
          refine thenQ_exit ?_
          have hq := Option.some.inj h
          subst hq
          refine thenQ_exit ?_
          have h := hout6
          refine blockQ_hit ?_
          refine tnU ?_
          exact ⟨h, by kernel_rfl⟩
    · rintro _ ⟨h, rfl⟩
      unfold millwrightnum_Long.j2 at h
      refine WpC.seq ?_
      refine rS {} [6] [] hN (by kernel_rfl) (by kernel_rfl) ?_
      refine tnU ?_
      refine WpC.ret ?_
      have hq := Option.some.inj h
      subst hq
      exact eR (by kernel_rfl) (by kernel_rfl)

end Go.Proofs.YtcblgpcgdihcbaaGreatDoor
