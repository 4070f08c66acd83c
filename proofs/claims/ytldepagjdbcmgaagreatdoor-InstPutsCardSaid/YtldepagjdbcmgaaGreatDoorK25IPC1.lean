/- A part of the proof of a given law: IPC1. Own work, printed in part by a program of mine. -/
import Derived.Test.YtldepagjdbcmgaaGreatDoorK25IPC0
namespace Go.Proofs.YtldepagjdbcmgaaGreatDoor
open Go Go.AM
set_option linter.unusedVariables false
set_option linter.unusedSimpArgs false
set_option maxRecDepth 100000
set_option maxHeartbeats 4000000
theorem table_New.ok (O : Out) (hO : GOk O) (k : Nat) (a0 : List T_load_Rule) (out : (List T_load_Rule) × (List Int) × Nat) (h : table_New.f k a0 = some out) : COk Un O Tryz.prog 41 { ar := [.p (.list (.named 9)) a0], r := .tup [.loc 60500 0, .p .err out.2.2], bs' := [(60500, .box [.vec 60501 7 0 out.1.length, .vec 60502 1 0 out.2.1.length]), (60501, .row 96 (.named 9) out.1 false), (60502, .row 3 I6 out.2.1 false)], nn := [60500, 60501, 60502] } := by
  refine cok_of_wp Tryz.func41 rfl (k := 31) rfl (Nat.le_of_ble_eq_true rfl) (namesOk_of (by kernel_rfl)) ?_
  intro B hN
  refine WpC.conv (cvK (b := ⟨[(0, .p (.list (.named 9)) a0)], []⟩) [0] [] (by kernel_rfl)) ?_
  unfold table_New.f at h
  refine WpC.seq ?_
  refine rS {} [0] [] hN (by kernel_rfl) (by kernel_rfl) ?_
  refine tnU ?_
  refine WpC.seq ?_
  refine rS { th := [(1, [(0, 10001, 96, .named 9), (1, 10002, 3, .int .i64)])] } [0, 4] [9, 10001, 10002] hN (by kernel_rfl) (by kernel_rfl) ?_
  refine tnU ?_
  refine sqJ (fun st' => ∃ v1 : List T_load_Rule, ∃ v2 : List Int, table_New.j3 k v1 v2 = some out ∧ st' = ⟨[(4, .loc 9 0)], [(9, .box [.vec 62576 7 0 v1.length, .vec 62577 1 0 v2.length]), (62576, .row 96 (.named 9) v1 false), (62577, .row 3 I6 v2 false)]⟩) ?_ ?_
  · refine WpC.seq ?_
    refine rS {} [4, 10, 11, 12] [9, 10001, 10002] hN (by kernel_rfl) (by kernel_rfl) ?_
    refine tnU ?_
    refine WpC.block ?_
    obtain ⟨o10, hlo10, h⟩ := bind_some h
    have hout11 := h
    clear h
    refine WpC.conv (cS [.rn 10001 62576, .k [4, 10, 11, 12] [9, 10002, 62576], .rn 10002 62577, .k [4, 10, 11, 12] [9, 62576, 62577]] (by kernel_rfl) (by kernel_rfl)) ?_
    refine WpC.loop (U := Un) (fun n st' => ∃ v4 : List T_load_Rule, ∃ v5 : List Int, ∃ v6 : Int, table_New.l7 k a0 n v4 v5 v6 = some o10 ∧ st' = ⟨[(4, .loc 9 0), (10, .p (.list (.named 9)) a0), (11, .p I6 ((a0.length : Int) : Int)), (12, .p I6 v6)], [(9, .box [.vec 62576 7 0 v4.length, .vec 62577 1 0 v5.length]), (62576, .row 96 (.named 9) v4 false), (62577, .row 3 I6 v5 false)]⟩) k ⟨[], [], 0, hlo10, by kernel_rfl⟩ ?_
    clear hlo10
    rintro (_ | n) _ ⟨v4, v5, v6, h, rfl⟩
    · cases h
    · rw [table_New.l7] at h
      refine WpC.seq ?_
      refine rS {} [4, 10, 11, 12, 13] [9, 62576, 62577] hN (by kernel_rfl) (by kernel_rfl) ?_
      refine tnU ?_
      refine WpC.seq ?_
      refine tS (b := (decide (v6 < (a0.length : Int)))) (by kernel_rfl) (fun hc12 => ?_) (fun hc12 => ?_)
      · replace h := ite_t hc12 h
        refine WpC.conv (cS [.k [4, 10, 11, 12] [9, 62576, 62577]] (by kernel_rfl) (by kernel_rfl)) (WpC.skip ?_)
        refine tnU ?_
        refine WpC.seq ?_
        refine WpC.block ?_
        refine WpC.seq ?_
        obtain ⟨v13, hv13, h⟩ := bind_some h
        refine rS { its := [(0, .v (.named 9) hv13)] } [4, 6, 10, 11, 12] [6, 9, 62576, 62577] hN (by kernel_rfl) (by kernel_rfl) ?_
        refine tnU ?_
        refine WpC.seq ?_
        obtain ⟨v14, hv14, h⟩ := bind_some h
        refine rS { its := [(2, .c (COk.ren (table_Table_add_m0.ok O hO k v4 v5 (T_load_Rule.mk v13.f_Targets v13.f_Prereqs (T_attr_Attr.mk v13.f_Attr.f_Flags v13.f_Attr.f_Prog) v13.f_Recipe v13.f_File v13.f_Line) v14 hv14) (fun n => if n = 60001 then 10003 else if n = 60002 then 10004 else if n = 100000 then 9 else if n = 100001 then 62576 else if n = 100002 then 62577 else n) (injOn_of (by kernel_rfl))))] } [4, 6, 7, 10, 11, 12] [6, 9, 10003, 10004] hN (by kernel_rfl) (by kernel_rfl) ?_
        refine tnU ?_
        refine WpC.seq ?_
        refine rS {} [4, 6, 7, 10, 11, 12, 20] [6, 9, 10003, 10004] hN (by kernel_rfl) (by kernel_rfl) ?_
        refine tnU ?_
        refine tS (b := (!(v14.1 == 0))) (by kernel_rfl) (fun hc15 => ?_) (fun hc15 => ?_)
        · replace h := ite_t hc15 h
          refine WpC.seq ?_
          cases h
        · replace h := ite_f hc15 h
          refine WpC.conv (cS [.k [4, 10, 11, 12] [9, 10003, 10004]] (by kernel_rfl) (by kernel_rfl)) (WpC.skip ?_)
          refine blockQ_normal ?_
          refine tnU ?_
          refine rSC {} [4, 10, 11, 12] [9, 10003, 10004] hN (by kernel_rfl) (by kernel_rfl) (cS [.rn 10003 62576, .k [4, 10, 11, 12] [9, 10004, 62576], .rn 10004 62577, .k [4, 10, 11, 12] [9, 62576, 62577]] (by kernel_rfl) (by kernel_rfl)) ?_
          refine tnU ?_
          exact ⟨n, Nat.lt_succ_self n, v14.2.1, v14.2.2, (IntKind.i64.wrap (v6 + 1)), h, by kernel_rfl⟩
      · replace h := ite_f hc12 h
        refine WpC.conv (cS [.k [4] [9, 62576, 62577]] (by kernel_rfl) (by kernel_rfl)) (WpC.exit ?_)
        refine thenQ_exit ?_
        have hq := Option.some.inj h
        subst hq
        refine thenQ_exit ?_
        have h := hout11
        refine blockQ_hit ?_
        refine tnU ?_
        exact ⟨v4, v5, h, by kernel_rfl⟩
  · rintro _ ⟨v1, v2, h, rfl⟩
    unfold table_New.j3 at h
    refine WpC.seq ?_
    refine rS {} [2, 3] [9, 62576, 62577] hN (by kernel_rfl) (by kernel_rfl) ?_
    refine tnU ?_
    refine WpC.conv (cS [.nE 3, .k [2, 3] [9, 62576, 62577], .rn 62576 60501, .k [2, 3] [9, 60501, 62577], .rn 62577 60502, .k [2, 3] [9, 60501, 60502], .rn 9 60500, .k [2, 3] [60500, 60501, 60502]] (by kernel_rfl) (by kernel_rfl)) (WpC.ret ?_)
    have hq := Option.some.inj h
    subst hq
    exact eR (by kernel_rfl) (by kernel_rfl)

theorem table_Table_there_m0.ok (O : Out) (hO : GOk O) (k : Nat) (a0 : List T_load_Rule) (a1 : List Int) (a2 : Int) (out : Bool) (h : table_Table_there_m0.f k a0 a1 a2 = some out) : COk Un O Tryz.prog 93 { ar := [.loc 100000 0, .p I6 a2], r := .p .bool out, bs := [(100000, .box [.vec 100001 7 0 a0.length, .vec 100002 1 0 a1.length]), (100001, .row 96 (.named 9) a0 false), (100002, .row 3 I6 a1 false)], bs' := [(100000, .box [.vec 100001 7 0 a0.length, .vec 100002 1 0 a1.length]), (100001, .row 96 (.named 9) a0 false), (100002, .row 3 I6 a1 false)] } := by
  refine cok_of_wp Tryz.func93 rfl (k := 16) rfl (Nat.le_of_ble_eq_true rfl) (namesOk_of (by kernel_rfl)) ?_
  intro B hN
  refine WpC.conv (cvK (b := ⟨[(0, .loc 100000 0), (1, .p I6 a2)], [(100000, .box [.vec 100001 7 0 a0.length, .vec 100002 1 0 a1.length]), (100001, .row 96 (.named 9) a0 false), (100002, .row 3 I6 a1 false)]⟩) [0, 1] [100000, 100001, 100002] (by kernel_rfl)) ?_
  unfold table_Table_there_m0.f at h
  refine WpC.seq ?_
  refine rS {} [0, 1] [100000, 100001, 100002] hN (by kernel_rfl) (by kernel_rfl) ?_
  refine tnU ?_
  refine WpC.seq ?_
  rcases bool_cases (decide (a2 ≥ 0)) with hc1 | hc1
  · replace h := ite_t hc1 h
    refine rS { kn := [(7, .t hc1)] } [4] [100000, 100001, 100002] hN (by kernel_rfl) (by kernel_rfl) ?_
    refine tnU ?_
    refine WpC.ret ?_
    have hq := Option.some.inj h
    subst hq
    exact eR (by kernel_rfl) (by kernel_rfl)
  · replace h := ite_f hc1 h
    refine rS { kn := [(7, .f hc1)] } [4] [100000, 100001, 100002] hN (by kernel_rfl) (by kernel_rfl) ?_
    refine tnU ?_
    refine WpC.ret ?_
    have hq := Option.some.inj h
    subst hq
    exact eR (by kernel_rfl) (by kernel_rfl)

theorem table_Table_Rule_m0.ok (O : Out) (hO : GOk O) (k : Nat) (a0 : List T_load_Rule) (a1 : List Int) (a2 : Int) (out : T_load_Rule × Bool) (h : table_Table_Rule_m0.f k a0 a1 a2 = some out) : COk Un O Tryz.prog 59 { ar := [.loc 100000 0, .p I6 a2], r := .tup [.p (.named 9) out.1, .p .bool out.2], bs := [(100000, .box [.vec 100001 7 0 a0.length, .vec 100002 1 0 a1.length]), (100001, .row 96 (.named 9) a0 false), (100002, .row 3 I6 a1 false)], bs' := [(100000, .box [.vec 100001 7 0 a0.length, .vec 100002 1 0 a1.length]), (100001, .row 96 (.named 9) a0 false), (100002, .row 3 I6 a1 false)] } := by
  refine cok_of_wp Tryz.func59 rfl (k := 19) rfl (Nat.le_of_ble_eq_true rfl) (namesOk_of (by kernel_rfl)) ?_
  intro B hN
  refine WpC.conv (cvK (b := ⟨[(0, .loc 100000 0), (1, .p I6 a2)], [(100000, .box [.vec 100001 7 0 a0.length, .vec 100002 1 0 a1.length]), (100001, .row 96 (.named 9) a0 false), (100002, .row 3 I6 a1 false)]⟩) [0, 1] [100000, 100001, 100002] (by kernel_rfl)) ?_
  unfold table_Table_Rule_m0.f at h
  refine WpC.seq ?_
  refine rS {} [0, 1, 4] [4, 100000, 100001, 100002] hN (by kernel_rfl) (by kernel_rfl) ?_
  refine tnU ?_
  refine WpC.seq ?_
  refine WpC.seq ?_
  obtain ⟨v1, hv1, h⟩ := bind_some h
  refine rS { its := [(2, .c (COk.ren (table_Table_there_m0.ok O hO k a0 a1 a2 v1 hv1) (fun n => if n = 100000 then 100000 else if n = 100001 then 100001 else if n = 100002 then 100002 else n) (injOn_of (by kernel_rfl))))] } [0, 1, 4, 9] [4, 100000, 100001, 100002] hN (by kernel_rfl) (by kernel_rfl) ?_
  refine tnU ?_
  refine tS (b := (!v1)) (by kernel_rfl) (fun hc2 => ?_) (fun hc2 => ?_)
  · replace h := ite_t hc2 h
    refine WpC.seq ?_
    refine rS {} [4, 5] [4, 100000, 100001, 100002] hN (by kernel_rfl) (by kernel_rfl) ?_
    refine tnU ?_
    refine WpC.ret ?_
    refine thenQ_ret ?_
    have hq := Option.some.inj h
    subst hq
    exact eR (by kernel_rfl) (by kernel_rfl)
  · replace h := ite_f hc2 h
    refine WpC.conv (cS [.k [0, 1, 4] [4, 100000, 100001, 100002]] (by kernel_rfl) (by kernel_rfl)) (WpC.skip ?_)
    refine tnU ?_
    refine WpC.seq ?_
    obtain ⟨g3, h⟩ := if_some h
    obtain ⟨v4, hv4, h⟩ := bind_some h
    obtain ⟨v5, hv5, h⟩ := bind_some h
    refine rS { its := [(5, .g g3), (6, .v (.named 9) hv4), (7, .c (table_apart.ok O hO k v4 v5 hv5))] } [4, 5] [4, 100000, 100001, 100002] hN (by kernel_rfl) (by kernel_rfl) ?_
    refine tnU ?_
    refine WpC.ret ?_
    have hq := Option.some.inj h
    subst hq
    exact eR (by kernel_rfl) (by kernel_rfl)

theorem table_Table_Kind_m0.ok (O : Out) (hO : GOk O) (k : Nat) (a0 : List T_load_Rule) (a1 : List Int) (a2 : Int) (out : Int) (h : table_Table_Kind_m0.f k a0 a1 a2 = some out) : COk Un O Tryz.prog 61 { ar := [.loc 100000 0, .p I6 a2], r := .p I6 out, bs := [(100000, .box [.vec 100001 7 0 a0.length, .vec 100002 1 0 a1.length]), (100001, .row 96 (.named 9) a0 false), (100002, .row 3 I6 a1 false)], bs' := [(100000, .box [.vec 100001 7 0 a0.length, .vec 100002 1 0 a1.length]), (100001, .row 96 (.named 9) a0 false), (100002, .row 3 I6 a1 false)] } := by
  refine cok_of_wp Tryz.func61 rfl (k := 16) rfl (Nat.le_of_ble_eq_true rfl) (namesOk_of (by kernel_rfl)) ?_
  intro B hN
  refine WpC.conv (cvK (b := ⟨[(0, .loc 100000 0), (1, .p I6 a2)], [(100000, .box [.vec 100001 7 0 a0.length, .vec 100002 1 0 a1.length]), (100001, .row 96 (.named 9) a0 false), (100002, .row 3 I6 a1 false)]⟩) [0, 1] [100000, 100001, 100002] (by kernel_rfl)) ?_
  unfold table_Table_Kind_m0.f at h
  refine WpC.seq ?_
  refine rS {} [0, 1] [100000, 100001, 100002] hN (by kernel_rfl) (by kernel_rfl) ?_
  refine tnU ?_
  refine WpC.seq ?_
  refine WpC.seq ?_
  obtain ⟨v1, hv1, h⟩ := bind_some h
  refine rS { its := [(2, .c (COk.ren (table_Table_there_m0.ok O hO k a0 a1 a2 v1 hv1) (fun n => if n = 100000 then 100000 else if n = 100001 then 100001 else if n = 100002 then 100002 else n) (injOn_of (by kernel_rfl))))] } [0, 1, 8] [100000, 100001, 100002] hN (by kernel_rfl) (by kernel_rfl) ?_
  refine tnU ?_
  refine tS (b := (!v1)) (by kernel_rfl) (fun hc2 => ?_) (fun hc2 => ?_)
  · replace h := ite_t hc2 h
    refine WpC.seq ?_
    refine rS {} [4] [100000, 100001, 100002] hN (by kernel_rfl) (by kernel_rfl) ?_
    refine tnU ?_
    refine WpC.ret ?_
    refine thenQ_ret ?_
    have hq := Option.some.inj h
    subst hq
    exact eR (by kernel_rfl) (by kernel_rfl)
  · replace h := ite_f hc2 h
    refine WpC.conv (cS [.k [0, 1] [100000, 100001, 100002]] (by kernel_rfl) (by kernel_rfl)) (WpC.skip ?_)
    refine tnU ?_
    refine WpC.seq ?_
    obtain ⟨g3, h⟩ := if_some h
    obtain ⟨v4, hv4, h⟩ := bind_some h
    refine rS { its := [(5, .g g3), (6, .v I6 hv4)] } [4] [100000, 100001, 100002] hN (by kernel_rfl) (by kernel_rfl) ?_
    refine tnU ?_
    refine WpC.ret ?_
    have hq := Option.some.inj h
    subst hq
    exact eR (by kernel_rfl) (by kernel_rfl)

theorem stringslite_HasPrefix.ok (O : Out) (hO : GOk O) (k : Nat) (a0 : List UInt8) (a1 : List UInt8) (out : Bool) (h : stringslite_HasPrefix.f k a0 a1 = some out) : COk Un O Tryz.prog 179 { ar := [.p .str a0, .p .str a1], r := .p .bool out } := by
  refine cok_of_wp Tryz.func179 rfl (k := 18) rfl (Nat.le_of_ble_eq_true rfl) (namesOk_pure rfl rfl rfl rfl) ?_
  intro B hN
  refine WpC.conv (cvK (b := ⟨[(0, .p .str a0), (1, .p .str a1)], []⟩) [0, 1] [] (by kernel_rfl)) ?_
  unfold stringslite_HasPrefix.f at h
  refine WpC.seq ?_
  refine rS {} [0, 1] [] hN (by kernel_rfl) (by kernel_rfl) ?_
  refine tnU ?_
  refine WpC.seq ?_
  rcases bool_cases (decide ((a0.length : Int) ≥ (a1.length : Int))) with hc1 | hc1
  · replace h := ite_t hc1 h
    obtain ⟨v2, hv2, h⟩ := bind_some h
    refine rS { its := [(9, .v .str hv2)], kn := [(10, .t hc1)] } [4] [] hN (by kernel_rfl) (by kernel_rfl) ?_
    refine tnU ?_
    refine WpC.ret ?_
    have hq := Option.some.inj h
    subst hq
    exact eR (by kernel_rfl) (by kernel_rfl)
  · replace h := ite_f hc1 h
    refine rS { kn := [(10, .f hc1)] } [4] [] hN (by kernel_rfl) (by kernel_rfl) ?_
    refine tnU ?_
    refine WpC.ret ?_
    have hq := Option.some.inj h
    subst hq
    exact eR (by kernel_rfl) (by kernel_rfl)

theorem stringslite_CutPrefix.ok (O : Out) (hO : GOk O) (k : Nat) (a0 : List UInt8) (a1 : List UInt8) (out : (List UInt8) × Bool) (h : stringslite_CutPrefix.f k a0 a1 = some out) : COk Un O Tryz.prog 159 { ar := [.p .str a0, .p .str a1], r := .tup [.p .str out.1, .p .bool out.2] } := by
  refine cok_of_wp Tryz.func159 rfl (k := 15) rfl (Nat.le_of_ble_eq_true rfl) (namesOk_pure rfl rfl rfl rfl) ?_
  intro B hN
  refine WpC.conv (cvK (b := ⟨[(0, .p .str a0), (1, .p .str a1)], []⟩) [0, 1] [] (by kernel_rfl)) ?_
  unfold stringslite_CutPrefix.f at h
  refine WpC.seq ?_
  refine rS {} [0, 1] [] hN (by kernel_rfl) (by kernel_rfl) ?_
  refine tnU ?_
  refine WpC.seq ?_
  refine WpC.seq ?_
  obtain ⟨v1, hv1, h⟩ := bind_some h
  refine rS { its := [(2, .c (stringslite_HasPrefix.ok O hO k a0 a1 v1 hv1))] } [0, 1, 9] [] hN (by kernel_rfl) (by kernel_rfl) ?_
  refine tnU ?_
  refine tS (b := (!v1)) (by kernel_rfl) (fun hc2 => ?_) (fun hc2 => ?_)
  · replace h := ite_t hc2 h
    refine WpC.seq ?_
    refine rS {} [4, 5] [] hN (by kernel_rfl) (by kernel_rfl) ?_
    refine tnU ?_
    refine WpC.ret ?_
    refine thenQ_ret ?_
    have hq := Option.some.inj h
    subst hq
    exact eR (by kernel_rfl) (by kernel_rfl)
  · replace h := ite_f hc2 h
    refine WpC.conv (cS [.k [0, 1] []] (by kernel_rfl) (by kernel_rfl)) (WpC.skip ?_)
    refine tnU ?_
    refine WpC.seq ?_
    obtain ⟨v3, hv3, h⟩ := bind_some h
    refine rS { its := [(3, .v .str hv3)] } [4, 5] [] hN (by kernel_rfl) (by kernel_rfl) ?_
    refine tnU ?_
    refine WpC.ret ?_
    have hq := Option.some.inj h
    subst hq
    exact eR (by kernel_rfl) (by kernel_rfl)

theorem strings_CutPrefix.ok (O : Out) (hO : GOk O) (k : Nat) (a0 : List UInt8) (a1 : List UInt8) (out : (List UInt8) × Bool) (h : strings_CutPrefix.f k a0 a1 = some out) : COk Un O Tryz.prog 140 { ar := [.p .str a0, .p .str a1], r := .tup [.p .str out.1, .p .bool out.2] } := by
  refine cok_of_wp Tryz.func140 rfl (k := 11) rfl (Nat.le_of_ble_eq_true rfl) (namesOk_pure rfl rfl rfl rfl) ?_
  intro B hN
  refine WpC.conv (cvK (b := ⟨[(0, .p .str a0), (1, .p .str a1)], []⟩) [0, 1] [] (by kernel_rfl)) ?_
  unfold strings_CutPrefix.f at h
  refine WpC.seq ?_
  refine rS {} [0, 1] [] hN (by kernel_rfl) (by kernel_rfl) ?_
  refine tnU ?_
  refine WpC.seq ?_
  obtain ⟨v1, hv1, h⟩ := bind_some h
  refine rS { its := [(2, .c (stringslite_CutPrefix.ok O hO k a0 a1 v1 hv1))] } [4, 5] [] hN (by kernel_rfl) (by kernel_rfl) ?_
  refine tnU ?_
  refine WpC.ret ?_
  have hq := Option.some.inj h
  subst hq
  exact eR (by kernel_rfl) (by kernel_rfl)

theorem stringslite_HasSuffix.ok (O : Out) (hO : GOk O) (k : Nat) (a0 : List UInt8) (a1 : List UInt8) (out : Bool) (h : stringslite_HasSuffix.f k a0 a1 = some out) : COk Un O Tryz.prog 180 { ar := [.p .str a0, .p .str a1], r := .p .bool out } := by
  refine cok_of_wp Tryz.func180 rfl (k := 21) rfl (Nat.le_of_ble_eq_true rfl) (namesOk_pure rfl rfl rfl rfl) ?_
  intro B hN
  refine WpC.conv (cvK (b := ⟨[(0, .p .str a0), (1, .p .str a1)], []⟩) [0, 1] [] (by kernel_rfl)) ?_
  unfold stringslite_HasSuffix.f at h
  refine WpC.seq ?_
  refine rS {} [0, 1] [] hN (by kernel_rfl) (by kernel_rfl) ?_
  refine tnU ?_
  refine WpC.seq ?_
  rcases bool_cases (decide ((a0.length : Int) ≥ (a1.length : Int))) with hc1 | hc1
  · replace h := ite_t hc1 h
    obtain ⟨v2, hv2, h⟩ := bind_some h
    refine rS { its := [(12, .v .str hv2)], kn := [(10, .t hc1)] } [4] [] hN (by kernel_rfl) (by kernel_rfl) ?_
    refine tnU ?_
    refine WpC.ret ?_
    have hq := Option.some.inj h
    subst hq
    exact eR (by kernel_rfl) (by kernel_rfl)
  · replace h := ite_f hc1 h
    refine rS { kn := [(10, .f hc1)] } [4] [] hN (by kernel_rfl) (by kernel_rfl) ?_
    refine tnU ?_
    refine WpC.ret ?_
    have hq := Option.some.inj h
    subst hq
    exact eR (by kernel_rfl) (by kernel_rfl)

theorem stringslite_CutSuffix.ok (O : Out) (hO : GOk O) (k : Nat) (a0 : List UInt8) (a1 : List UInt8) (out : (List UInt8) × Bool) (h : stringslite_CutSuffix.f k a0 a1 = some out) : COk Un O Tryz.prog 160 { ar := [.p .str a0, .p .str a1], r := .tup [.p .str out.1, .p .bool out.2] } := by
  refine cok_of_wp Tryz.func160 rfl (k := 18) rfl (Nat.le_of_ble_eq_true rfl) (namesOk_pure rfl rfl rfl rfl) ?_
  intro B hN
  refine WpC.conv (cvK (b := ⟨[(0, .p .str a0), (1, .p .str a1)], []⟩) [0, 1] [] (by kernel_rfl)) ?_
  unfold stringslite_CutSuffix.f at h
  refine WpC.seq ?_
  refine rS {} [0, 1] [] hN (by kernel_rfl) (by kernel_rfl) ?_
  refine tnU ?_
  refine WpC.seq ?_
  refine WpC.seq ?_
  obtain ⟨v1, hv1, h⟩ := bind_some h
  refine rS { its := [(2, .c (stringslite_HasSuffix.ok O hO k a0 a1 v1 hv1))] } [0, 1, 9] [] hN (by kernel_rfl) (by kernel_rfl) ?_
  refine tnU ?_
  refine tS (b := (!v1)) (by kernel_rfl) (fun hc2 => ?_) (fun hc2 => ?_)
  · replace h := ite_t hc2 h
    refine WpC.seq ?_
    refine rS {} [4, 5] [] hN (by kernel_rfl) (by kernel_rfl) ?_
    refine tnU ?_
    refine WpC.ret ?_
    refine thenQ_ret ?_
    have hq := Option.some.inj h
    subst hq
    exact eR (by kernel_rfl) (by kernel_rfl)
  · replace h := ite_f hc2 h
    refine WpC.conv (cS [.k [0, 1] []] (by kernel_rfl) (by kernel_rfl)) (WpC.skip ?_)
    refine tnU ?_
    refine WpC.seq ?_
    obtain ⟨v3, hv3, h⟩ := bind_some h
    refine rS { its := [(6, .v .str hv3)] } [4, 5] [] hN (by kernel_rfl) (by kernel_rfl) ?_
    refine tnU ?_
    refine WpC.ret ?_
    have hq := Option.some.inj h
    subst hq
    exact eR (by kernel_rfl) (by kernel_rfl)

theorem strings_CutSuffix.ok (O : Out) (hO : GOk O) (k : Nat) (a0 : List UInt8) (a1 : List UInt8) (out : (List UInt8) × Bool) (h : strings_CutSuffix.f k a0 a1 = some out) : COk Un O Tryz.prog 141 { ar := [.p .str a0, .p .str a1], r := .tup [.p .str out.1, .p .bool out.2] } := by
  refine cok_of_wp Tryz.func141 rfl (k := 11) rfl (Nat.le_of_ble_eq_true rfl) (namesOk_pure rfl rfl rfl rfl) ?_
  intro B hN
  refine WpC.conv (cvK (b := ⟨[(0, .p .str a0), (1, .p .str a1)], []⟩) [0, 1] [] (by kernel_rfl)) ?_
  unfold strings_CutSuffix.f at h
  refine WpC.seq ?_
  refine rS {} [0, 1] [] hN (by kernel_rfl) (by kernel_rfl) ?_
  refine tnU ?_
  refine WpC.seq ?_
  obtain ⟨v1, hv1, h⟩ := bind_some h
  refine rS { its := [(2, .c (stringslite_CutSuffix.ok O hO k a0 a1 v1 hv1))] } [4, 5] [] hN (by kernel_rfl) (by kernel_rfl) ?_
  refine tnU ?_
  refine WpC.ret ?_
  have hq := Option.some.inj h
  subst hq
  exact eR (by kernel_rfl) (by kernel_rfl)

theorem stem_Narrow.ok (O : Out) (hO : GOk O) (k : Nat) (a0 : List UInt8) (out : Bool) (h : stem_Narrow.f k a0 = some out) : COk Un O Tryz.prog 142 { ar := [.p .str a0], r := .p .bool out } := by
  refine cok_of_wp Tryz.func142 rfl (k := 11) rfl (Nat.le_of_ble_eq_true rfl) (namesOk_pure rfl rfl rfl rfl) ?_
  intro B hN
  refine WpC.conv (cvK (b := ⟨[(0, .p .str a0)], []⟩) [0] [] (by kernel_rfl)) ?_
  unfold stem_Narrow.f at h
  refine WpC.seq ?_
  refine rS {} [0] [] hN (by kernel_rfl) (by kernel_rfl) ?_
  refine tnU ?_
  refine WpC.seq ?_
  obtain ⟨v1, hv1, h⟩ := bind_some h
  rcases bool_cases (decide (v1 < 0)) with hc2 | hc2
  · replace h := ite_t hc2 h
    obtain ⟨v3, hv3, h⟩ := bind_some h
    refine rS { its := [(1, .c (pIndexByte.ok O hO k a0 46 v1 hv1)), (5, .c (pIndexByte.ok O hO k a0 47 v3 hv3))], kn := [(6, .t hc2)] } [2] [] hN (by kernel_rfl) (by kernel_rfl) ?_
    refine tnU ?_
    refine WpC.ret ?_
    have hq := Option.some.inj h
    subst hq
    exact eR (by kernel_rfl) (by kernel_rfl)
  · replace h := ite_f hc2 h
    refine rS { its := [(1, .c (pIndexByte.ok O hO k a0 46 v1 hv1))], kn := [(6, .f hc2)] } [2] [] hN (by kernel_rfl) (by kernel_rfl) ?_
    refine tnU ?_
    refine WpC.ret ?_
    have hq := Option.some.inj h
    subst hq
    exact eR (by kernel_rfl) (by kernel_rfl)

theorem stem_Match.ok (O : Out) (hO : GOk O) (k : Nat) (a0 : List UInt8) (a1 : List UInt8) (out : (List UInt8) × Bool) (h : stem_Match.f k a0 a1 = some out) : COk Un O Tryz.prog 124 { ar := [.p .str a0, .p .str a1], r := .tup [.p .str out.1, .p .bool out.2] } := by
  refine cok_of_wp Tryz.func124 rfl (k := 53) rfl (Nat.le_of_ble_eq_true rfl) (namesOk_pure rfl rfl rfl rfl) ?_
  intro B hN
  refine WpC.conv (cvK (b := ⟨[(0, .p .str a0), (1, .p .str a1)], []⟩) [0, 1] [] (by kernel_rfl)) ?_
  unfold stem_Match.f at h
  refine WpC.seq ?_
  refine rS {} [0, 1] [] hN (by kernel_rfl) (by kernel_rfl) ?_
  refine tnU ?_
  refine WpC.seq ?_
  obtain ⟨v1, hv1, h⟩ := bind_some h
  refine rS { its := [(1, .c (stem_Wild.ok O hO k a0 v1 hv1))] } [0, 1, 6] [] hN (by kernel_rfl) (by kernel_rfl) ?_
  refine tnU ?_
  refine WpC.seq ?_
  refine WpC.seq ?_
  refine rS {} [0, 1, 6, 14] [] hN (by kernel_rfl) (by kernel_rfl) ?_
  refine tnU ?_
  refine tS (b := (decide (v1 < 0))) (by kernel_rfl) (fun hc2 => ?_) (fun hc2 => ?_)
  · replace h := ite_t hc2 h
    refine WpC.seq ?_
    refine rS {} [4, 5] [] hN (by kernel_rfl) (by kernel_rfl) ?_
    refine tnU ?_
    refine WpC.ret ?_
    refine thenQ_ret ?_
    have hq := Option.some.inj h
    subst hq
    exact eR (by kernel_rfl) (by kernel_rfl)
  · replace h := ite_f hc2 h
    refine WpC.conv (cS [.k [0, 1, 6] []] (by kernel_rfl) (by kernel_rfl)) (WpC.skip ?_)
    refine tnU ?_
    refine WpC.seq ?_
    obtain ⟨v3, hv3, h⟩ := bind_some h
    obtain ⟨v4, hv4, h⟩ := bind_some h
    refine rS { its := [(3, .v .str hv3), (4, .c (strings_CutPrefix.ok O hO k a1 v3 v4 hv4))] } [0, 6, 7, 8] [] hN (by kernel_rfl) (by kernel_rfl) ?_
    refine tnU ?_
    refine WpC.seq ?_
    obtain ⟨v5, hv5, h⟩ := bind_some h
    obtain ⟨v6, hv6, h⟩ := bind_some h
    refine rS { its := [(4, .v .str hv5), (5, .c (strings_CutSuffix.ok O hO k v4.1 v5 v6 hv6))] } [0, 6, 8, 9, 10] [] hN (by kernel_rfl) (by kernel_rfl) ?_
    refine tnU ?_
    refine sqJ (fun st' => stem_Match.j7 k v6 = some out ∧ st' = ⟨[(9, .p .str v6.1)], []⟩) ?_ ?_
    · refine sqJ (fun st' => ∃ v8 : Bool, stem_Match.j10 k v6 v8 = some out ∧ st' = ⟨[(9, .p .str v6.1), (51, .p .bool v8)], []⟩) ?_ ?_
      · rcases bool_cases (!v4.2) with hc11 | hc11
        · replace h := ite_t hc11 h
          refine rS { kn := [(37, .t hc11)] } [9, 51] [] hN (by kernel_rfl) (by kernel_rfl) ?_
          refine tnU ?_
          exact ⟨true, h, by kernel_rfl⟩
        · replace h := ite_f hc11 h
          rcases bool_cases (!v6.2) with hc12 | hc12
          · replace h := ite_t hc12 h
            refine rS { kn := [(37, .f hc11), (41, .t hc12)] } [9, 51] [] hN (by kernel_rfl) (by kernel_rfl) ?_
            refine tnU ?_
            exact ⟨true, h, by kernel_rfl⟩
          · replace h := ite_f hc12 h
            obtain ⟨v13, hv13, h⟩ := bind_some h
            rcases bool_cases ((v13.toNat : Int) == 38) with hc14 | hc14
            · replace h := ite_t hc14 h
              obtain ⟨v15, hv15, h⟩ := bind_some h
              refine rS { its := [(9, .u hv13), (13, .c (stem_Narrow.ok O hO k v6.1 v15 hv15))], kn := [(37, .f hc11), (41, .f hc12), (46, .t hc14)] } [9, 51] [] hN (by kernel_rfl) (by kernel_rfl) ?_
              refine tnU ?_
              exact ⟨(!v15), h, by kernel_rfl⟩
            · replace h := ite_f hc14 h
              refine rS { its := [(9, .u hv13)], kn := [(37, .f hc11), (41, .f hc12), (46, .f hc14)] } [9, 51] [] hN (by kernel_rfl) (by kernel_rfl) ?_
              refine tnU ?_
              exact ⟨false, h, by kernel_rfl⟩
      · rintro _ ⟨v8, h, rfl⟩
        unfold stem_Match.j10 at h
        refine tS (b := v8) (by kernel_rfl) (fun hc9 => ?_) (fun hc9 => ?_)
        · replace h := ite_t hc9 h
          refine WpC.seq ?_
          refine rS {} [4, 5] [] hN (by kernel_rfl) (by kernel_rfl) ?_
          refine tnU ?_
          refine WpC.ret ?_
          refine thenQ_ret ?_
          have hq := Option.some.inj h
          subst hq
          exact eR (by kernel_rfl) (by kernel_rfl)
        · replace h := ite_f hc9 h
          refine WpC.conv (cS [.k [9] []] (by kernel_rfl) (by kernel_rfl)) (WpC.skip ?_)
          refine tnU ?_
          exact ⟨h, by kernel_rfl⟩
    · rintro _ ⟨h, rfl⟩
      unfold stem_Match.j7 at h
      refine WpC.seq ?_
      refine rS {} [4, 5] [] hN (by kernel_rfl) (by kernel_rfl) ?_
      refine tnU ?_
      refine WpC.ret ?_
      have hq := Option.some.inj h
      subst hq
      exact eR (by kernel_rfl) (by kernel_rfl)

theorem stem_Fill.ok (O : Out) (hO : GOk O) (k : Nat) (a0 : List UInt8) (a1 : List UInt8) (out : List UInt8) (h : stem_Fill.f k a0 a1 = some out) : COk Un O Tryz.prog 143 { ar := [.p .str a0, .p .str a1], r := .p .str out } := by
  refine cok_of_wp Tryz.func143 rfl (k := 28) rfl (Nat.le_of_ble_eq_true rfl) (namesOk_pure rfl rfl rfl rfl) ?_
  intro B hN
  refine WpC.conv (cvK (b := ⟨[(0, .p .str a0), (1, .p .str a1)], []⟩) [0, 1] [] (by kernel_rfl)) ?_
  unfold stem_Fill.f at h
  refine WpC.seq ?_
  refine rS {} [0, 1] [] hN (by kernel_rfl) (by kernel_rfl) ?_
  refine tnU ?_
  refine WpC.seq ?_
  refine rS {} [0, 1, 5] [] hN (by kernel_rfl) (by kernel_rfl) ?_
  refine tnU ?_
  refine sqJ (fun st' => ∃ v1 : List Int, stem_Fill.j2 k v1 = some out ∧ st' = ⟨[(5, .vec 1005 1 0 v1.length)], [(1005, .row 5 (.int .u8) v1 false)]⟩) ?_ ?_
  · refine WpC.seq ?_
    refine rS {} [0, 1, 5, 8, 9] [] hN (by kernel_rfl) (by kernel_rfl) ?_
    refine tnU ?_
    refine WpC.block ?_
    obtain ⟨o7, hlo7, h⟩ := bind_some h
    have hout8 := h
    clear h
    refine WpC.conv (cS [.th 5 1005 5 (.int .u8), .k [0, 1, 5, 8, 9] [1005]] (by kernel_rfl) (by kernel_rfl)) ?_
    refine WpC.loop (U := Un) (fun n st' => ∃ v3 : List Int, ∃ v4 : Int, stem_Fill.l5 k a0 a1 n v3 v4 = some o7 ∧ st' = ⟨[(0, .p .str a0), (1, .p .str a1), (5, .vec 1005 1 0 v3.length), (8, .p I6 ((a0.length : Int) : Int)), (9, .p I6 v4)], [(1005, .row 5 (.int .u8) v3 false)]⟩) k ⟨[], 0, hlo7, by kernel_rfl⟩ ?_
    clear hlo7
    rintro (_ | n) _ ⟨v3, v4, h, rfl⟩
    · cases h
    · rw [stem_Fill.l5] at h
      refine WpC.seq ?_
      refine rS {} [0, 1, 5, 8, 9, 10] [1005] hN (by kernel_rfl) (by kernel_rfl) ?_
      refine tnU ?_
      refine WpC.seq ?_
      refine tS (b := (decide (v4 < (a0.length : Int)))) (by kernel_rfl) (fun hc9 => ?_) (fun hc9 => ?_)
      · replace h := ite_t hc9 h
        refine WpC.conv (cS [.k [0, 1, 5, 8, 9] [1005]] (by kernel_rfl) (by kernel_rfl)) (WpC.skip ?_)
        refine tnU ?_
        refine sqJ (fun st' => ∃ v10 : List Int, stem_Fill.j11 k (stem_Fill.l5 k a0 a1 n) a0 a1 v4 v10 = some o7 ∧ st' = ⟨[(0, .p .str a0), (1, .p .str a1), (5, .vec 1005 1 0 v10.length), (8, .p I6 ((a0.length : Int) : Int)), (9, .p I6 v4)], [(1005, .row 5 (.int .u8) v10 false)]⟩) ?_ ?_
        · refine WpC.block ?_
          refine WpC.seq ?_
          refine rS {} [0, 1, 5, 6, 8, 9] [1005] hN (by kernel_rfl) (by kernel_rfl) ?_
          refine tnU ?_
          refine WpC.seq ?_
          refine WpC.seq ?_
          obtain ⟨v12, hv12, h⟩ := bind_some h
          obtain ⟨v13, hv13, h⟩ := bind_some h
          refine rS { its := [(2, .u hv12), (3, .c (stem_wild.ok O hO k (v12.toNat : Int) v13 hv13))] } [0, 1, 5, 6, 8, 9, 15] [1005] hN (by kernel_rfl) (by kernel_rfl) ?_
          refine tnU ?_
          refine tS (b := v13) (by kernel_rfl) (fun hc14 => ?_) (fun hc14 => ?_)
          · replace h := ite_t hc14 h
            refine WpC.seq ?_
            obtain ⟨g15, h⟩ := if_some h
            refine rS { its := [(2, .e 2 (sok_appendS (U := Un) (rs := [(16, .vec 1005 1 0 v3.length), (17, .p .str a1)]) (xs := v3) (s := a1) (fx := false) rfl rfl rfl row_102 z8_5 Tryz.underlying9 o0 o1 g15))] } [0, 1, 5, 8, 9] [18] hN (by kernel_rfl) (by kernel_rfl) ?_
            refine tnU ?_
            refine WpC.conv (cS [.rn 18 1005, .k [0, 1, 5, 8, 9] [1005]] (by kernel_rfl) (by kernel_rfl)) (WpC.exit ?_)
            refine thenQ_exit ?_
            refine blockQ_hit ?_
            refine tnU ?_
            exact ⟨(v3 ++ numsOf a1), h, by kernel_rfl⟩
          · replace h := ite_f hc14 h
            refine WpC.conv (cS [.k [0, 1, 5, 6, 8, 9] [1005]] (by kernel_rfl) (by kernel_rfl)) (WpC.skip ?_)
            refine tnU ?_
            obtain ⟨v16, hv16, h⟩ := bind_some h
            obtain ⟨g17, h⟩ := if_some h
            refine rSC { its := [(3, .u hv16), (5, .g g17)] } [0, 1, 5, 8, 9] [24] hN (by kernel_rfl) (by kernel_rfl) (cS [.rn 24 1005, .k [0, 1, 5, 8, 9] [1005]] (by kernel_rfl) (by kernel_rfl)) ?_
            refine blockQ_normal ?_
            refine tnU ?_
            exact ⟨(v3 ++ [(v16.toNat : Int)]), h, by kernel_rfl⟩
        · rintro _ ⟨v10, h, rfl⟩
          unfold stem_Fill.j11 at h
          refine rS {} [0, 1, 5, 8, 9] [1005] hN (by kernel_rfl) (by kernel_rfl) ?_
          refine tnU ?_
          exact ⟨n, Nat.lt_succ_self n, v10, (IntKind.i64.wrap (v4 + 1)), h, by kernel_rfl⟩
      · replace h := ite_f hc9 h
        refine WpC.conv (cS [.k [5] [1005]] (by kernel_rfl) (by kernel_rfl)) (WpC.exit ?_)
        refine thenQ_exit ?_
        have hq := Option.some.inj h
        subst hq
        refine thenQ_exit ?_
        have h := hout8
        refine blockQ_hit ?_
        refine tnU ?_
        exact ⟨v3, h, by kernel_rfl⟩
  · rintro _ ⟨v1, h, rfl⟩
    unfold stem_Fill.j2 at h
    refine WpC.seq ?_
    refine rS {} [4] [] hN (by kernel_rfl) (by kernel_rfl) ?_
    refine tnU ?_
    refine WpC.ret ?_
    have hq := Option.some.inj h
    subst hq
    exact eR (by kernel_rfl) (by kernel_rfl)

theorem stem_FillAll.ok (O : Out) (hO : GOk O) (k : Nat) (a0 : List (List UInt8)) (a1 : List UInt8) (out : List (List UInt8)) (h : stem_FillAll.f k a0 a1 = some out) : COk Un O Tryz.prog 125 { ar := [.p (.list .str) a0, .p .str a1], r := .vec 60500 1 0 out.length, bs' := [(60500, .row 9 .str out false)], nn := [60500] } := by
  refine cok_of_wp Tryz.func125 rfl (k := 22) rfl (Nat.le_of_ble_eq_true rfl) (namesOk_of (by kernel_rfl)) ?_
  intro B hN
  refine WpC.conv (cvK (b := ⟨[(0, .p (.list .str) a0), (1, .p .str a1)], []⟩) [0, 1] [] (by kernel_rfl)) ?_
  unfold stem_FillAll.f at h
  refine WpC.seq ?_
  refine rS {} [0, 1] [] hN (by kernel_rfl) (by kernel_rfl) ?_
  refine tnU ?_
  refine WpC.seq ?_
  refine rS {} [0, 1, 5] [] hN (by kernel_rfl) (by kernel_rfl) ?_
  refine tnU ?_
  refine sqJ (fun st' => ∃ v1 : List (List UInt8), stem_FillAll.j2 k v1 = some out ∧ st' = ⟨[(5, .vec 1005 1 0 v1.length)], [(1005, .row 9 .str v1 false)]⟩) ?_ ?_
  · refine WpC.seq ?_
    refine rS {} [1, 5, 8, 9, 10] [] hN (by kernel_rfl) (by kernel_rfl) ?_
    refine tnU ?_
    refine WpC.block ?_
    obtain ⟨o7, hlo7, h⟩ := bind_some h
    have hout8 := h
    clear h
    refine WpC.conv (cS [.th 5 1005 9 .str, .k [1, 5, 8, 9, 10] [1005]] (by kernel_rfl) (by kernel_rfl)) ?_
    refine WpC.loop (U := Un) (fun n st' => ∃ v3 : List (List UInt8), ∃ v4 : Int, stem_FillAll.l5 k a0 a1 n v3 v4 = some o7 ∧ st' = ⟨[(1, .p .str a1), (5, .vec 1005 1 0 v3.length), (8, .p (.list .str) a0), (9, .p I6 ((a0.length : Int) : Int)), (10, .p I6 v4)], [(1005, .row 9 .str v3 false)]⟩) k ⟨[], 0, hlo7, by kernel_rfl⟩ ?_
    clear hlo7
    rintro (_ | n) _ ⟨v3, v4, h, rfl⟩
    · cases h
    · rw [stem_FillAll.l5] at h
      refine WpC.seq ?_
      refine rS {} [1, 5, 8, 9, 10, 11] [1005] hN (by kernel_rfl) (by kernel_rfl) ?_
      refine tnU ?_
      refine WpC.seq ?_
      refine tS (b := (decide (v4 < (a0.length : Int)))) (by kernel_rfl) (fun hc9 => ?_) (fun hc9 => ?_)
      · replace h := ite_t hc9 h
        refine WpC.conv (cS [.k [1, 5, 8, 9, 10] [1005]] (by kernel_rfl) (by kernel_rfl)) (WpC.skip ?_)
        refine tnU ?_
        refine WpC.seq ?_
        refine WpC.block ?_
        refine WpC.seq ?_
        obtain ⟨v10, hv10, h⟩ := bind_some h
        refine rS { its := [(0, .v .str hv10)] } [1, 5, 7, 8, 9, 10] [1005] hN (by kernel_rfl) (by kernel_rfl) ?_
        refine tnU ?_
        obtain ⟨v11, hv11, h⟩ := bind_some h
        obtain ⟨g12, h⟩ := if_some h
        refine rS { its := [(3, .c (stem_Fill.ok O hO k v10 a1 v11 hv11)), (5, .g g12)] } [1, 5, 8, 9, 10] [19] hN (by kernel_rfl) (by kernel_rfl) ?_
        refine blockQ_normal ?_
        refine tnU ?_
        refine rSC {} [1, 5, 8, 9, 10] [19] hN (by kernel_rfl) (by kernel_rfl) (cS [.rn 19 1005, .k [1, 5, 8, 9, 10] [1005]] (by kernel_rfl) (by kernel_rfl)) ?_
        refine tnU ?_
        exact ⟨n, Nat.lt_succ_self n, (v3 ++ [v11]), (IntKind.i64.wrap (v4 + 1)), h, by kernel_rfl⟩
      · replace h := ite_f hc9 h
        refine WpC.conv (cS [.k [5] [1005]] (by kernel_rfl) (by kernel_rfl)) (WpC.exit ?_)
        refine thenQ_exit ?_
        have hq := Option.some.inj h
        subst hq
        refine thenQ_exit ?_
        have h := hout8
        refine blockQ_hit ?_
        refine tnU ?_
        exact ⟨v3, h, by kernel_rfl⟩
  · rintro _ ⟨v1, h, rfl⟩
    unfold stem_FillAll.j2 at h
    refine WpC.seq ?_
    refine rS {} [4] [1005] hN (by kernel_rfl) (by kernel_rfl) ?_
    refine tnU ?_
    refine WpC.conv (cS [.rn 1005 60500, .k [4] [60500]] (by kernel_rfl) (by kernel_rfl)) (WpC.ret ?_)
    have hq := Option.some.inj h
    subst hq
    exact eR (by kernel_rfl) (by kernel_rfl)

theorem inst_wild.ok (O : Out) (hO : GOk O) (k : Nat) (a0 : T_load_Rule) (a1 : List UInt8) (out : T_inst_Inst × Bool) (h : inst_wild.f k a0 a1 = some out) : COk Un O Tryz.prog 94 { ar := [.p (.named 9) a0, .p .str a1], r := .tup [.p (.named 10) out.1, .p .bool out.2] } := by
  refine cok_of_wp Tryz.func94 rfl (k := 44) rfl (Nat.le_of_ble_eq_true rfl) (namesOk_pure rfl rfl rfl rfl) ?_
  intro B hN
  refine WpC.conv (cvK (b := ⟨[(0, .p (.named 9) a0), (1, .p .str a1)], []⟩) [0, 1] [] (by kernel_rfl)) ?_
  unfold inst_wild.f at h
  refine WpC.seq ?_
  refine rS { th := [(1, [(3, 10001, 9, .str)])] } [1, 2, 4] [2, 4, 10001] hN (by kernel_rfl) (by kernel_rfl) ?_
  refine tnU ?_
  refine sqJ (fun st' => inst_wild.j1 k = some out ∧ st' = ⟨[(4, .loc 4 0)], [(4, .box [.p I6 (0 : Int), .p .str ([] : List UInt8), .p (.list .str) ([] : List (List UInt8)), .vec 10001 1 0 0, .p (.list .str) ([] : List (List UInt8))]), (10001, .row 9 .str [] false)]⟩) ?_ ?_
  · refine WpC.seq ?_
    refine rS {} [1, 2, 4, 12, 13, 14] [2, 4, 10001] hN (by kernel_rfl) (by kernel_rfl) ?_
    refine tnU ?_
    refine WpC.block ?_
    obtain ⟨o4, hlo4, h⟩ := bind_some h
    have hout5 := h
    clear h
    refine WpC.loop (U := Un) (fun n st' => ∃ v2 : Int, inst_wild.l3 k a0 a1 n v2 = some o4 ∧ st' = ⟨[(1, .p .str a1), (2, .loc 2 0), (4, .loc 4 0), (12, .p (.list .str) a0.f_Targets), (13, .p I6 ((a0.f_Targets.length : Int) : Int)), (14, .p I6 v2)], [(2, .box [.p (.list .str) a0.f_Targets, .p (.list .str) a0.f_Prereqs, .p I6 a0.f_Attr.f_Flags, .p .str a0.f_Attr.f_Prog, .p .str a0.f_Recipe, .p .str a0.f_File, .p I6 a0.f_Line]), (4, .box [.p I6 (0 : Int), .p .str ([] : List UInt8), .p (.list .str) ([] : List (List UInt8)), .vec 10001 1 0 0, .p (.list .str) ([] : List (List UInt8))]), (10001, .row 9 .str [] false)]⟩) k ⟨0, hlo4, by kernel_rfl⟩ ?_
    clear hlo4
    rintro (_ | n) _ ⟨v2, h, rfl⟩
    · cases h
    · rw [inst_wild.l3] at h
      refine WpC.seq ?_
      refine rS {} [1, 2, 4, 12, 13, 14, 15] [2, 4, 10001] hN (by kernel_rfl) (by kernel_rfl) ?_
      refine tnU ?_
      refine WpC.seq ?_
      refine tS (b := (decide (v2 < (a0.f_Targets.length : Int)))) (by kernel_rfl) (fun hc6 => ?_) (fun hc6 => ?_)
      · replace h := ite_t hc6 h
        refine WpC.conv (cS [.k [1, 2, 4, 12, 13, 14] [2, 4, 10001]] (by kernel_rfl) (by kernel_rfl)) (WpC.skip ?_)
        refine tnU ?_
        refine WpC.seq ?_
        refine WpC.block ?_
        refine WpC.seq ?_
        obtain ⟨v7, hv7, h⟩ := bind_some h
        refine rS { its := [(1, .v .str hv7)] } [1, 2, 4, 6, 7, 12, 13, 14] [2, 4, 10001] hN (by kernel_rfl) (by kernel_rfl) ?_
        refine tnU ?_
        refine WpC.seq ?_
        obtain ⟨v8, hv8, h⟩ := bind_some h
        refine rS { its := [(2, .c (stem_Match.ok O hO k v7 a1 v8 hv8))] } [1, 2, 4, 6, 8, 9, 12, 13, 14] [2, 4, 10001] hN (by kernel_rfl) (by kernel_rfl) ?_
        refine tnU ?_
        refine WpC.seq ?_
        refine rS {} [1, 2, 4, 6, 8, 12, 13, 14, 25] [2, 4, 10001] hN (by kernel_rfl) (by kernel_rfl) ?_
        refine tnU ?_
        refine tS (b := v8.2) (by kernel_rfl) (fun hc9 => ?_) (fun hc9 => ?_)
        · replace h := ite_t hc9 h
          refine WpC.seq ?_
          obtain ⟨v10, hv10, h⟩ := bind_some h
          obtain ⟨v11, hv11, h⟩ := bind_some h
          refine rA { its := [(4, .c (COk.ren (stem_FillAll.ok O hO k a0.f_Targets v8.1 v10 hv10) (fun n => if n = 60500 then 10003 else n) (injOn_of (by kernel_rfl)))), (8, .c (COk.ren (stem_FillAll.ok O hO k a0.f_Prereqs v8.1 v11 hv11) (fun n => if n = 60500 then 10004 else n) (injOn_of (by kernel_rfl))))], th := [(10, [(3, 10005, 9, .str)])], gv := [(9, [34])] } [1, 4, 6, 10] [4, 10, 10001, 10003] hN (by kernel_rfl) (by kernel_rfl) (by kernel_rfl) ?_
          refine tnU ?_
          refine WpC.seq ?_
          obtain ⟨g12, h⟩ := if_some h
          obtain ⟨v13, hv13, h⟩ := bind_some h
          refine rSC { its := [(4, .g g12), (5, .v .str hv13)] } [4, 10] [4, 10, 10001, 10003] hN (by kernel_rfl) (by kernel_rfl) (cS [.k [4, 10] [4, 10, 10001, 10003], .x (Conv.cast (U := Un) (st := ⟨[(4, .loc 4 0), (10, .loc 10 0)], [(4, .box [.p I6 (0 : Int), .p .str ([] : List UInt8), .p (.list .str) ([] : List (List UInt8)), .vec 10001 1 0 0, .p (.list .str) ([] : List (List UInt8))]), (10, .box [.p I6 (0 : Int), .p .str v8.1, .p (.list .str) ([] : List (List UInt8)), .vec 10003 1 0 v10.length, .p (.list .str) v11]), (10001, .row 9 .str [] false), (10003, .row 9 .str (upd v10 (0 + v2.toNat) a1) false)]⟩) (st' := ⟨[(4, .loc 4 0), (10, .loc 10 0)], [(4, .box [.p I6 (0 : Int), .p .str ([] : List UInt8), .p (.list .str) ([] : List (List UInt8)), .vec 10001 1 0 0, .p (.list .str) ([] : List (List UInt8))]), (10, .box [.p I6 (0 : Int), .p .str v8.1, .p (.list .str) ([] : List (List UInt8)), .vec 10003 1 0 ((upd v10 (0 + v2.toNat) a1).length), .p (.list .str) v11]), (10001, .row 9 .str [] false), (10003, .row 9 .str (upd v10 (0 + v2.toNat) a1) false)]⟩) (by simp only [upd_length, List.length_nil, List.length_replicate]))] (by kernel_rfl) (by kernel_rfl)) ?_
          refine tnU ?_
          refine WpC.seq ?_
          refine rS {} [4, 5] [4, 10003] hN (by kernel_rfl) (by kernel_rfl) ?_
          refine tnU ?_
          refine WpC.conv (cS [.fu 4 3, .k [4, 5] [4]] (by kernel_rfl) (by kernel_rfl)) (WpC.ret ?_)
          refine blockQ_ret ?_
          refine thenQ_ret ?_
          have hq := Option.some.inj h
          subst hq
          refine thenQ_ret ?_
          have h := hout5
          refine blockQ_ret ?_
          refine thenQ_ret ?_
          have hq := Option.some.inj h
          subst hq
          exact eR (by kernel_rfl) (by kernel_rfl)
        · replace h := ite_f hc9 h
          refine WpC.conv (cS [.k [1, 2, 4, 12, 13, 14] [2, 4, 10001]] (by kernel_rfl) (by kernel_rfl)) (WpC.skip ?_)
          refine blockQ_normal ?_
          refine tnU ?_
          refine rS {} [1, 2, 4, 12, 13, 14] [2, 4, 10001] hN (by kernel_rfl) (by kernel_rfl) ?_
          refine tnU ?_
          exact ⟨n, Nat.lt_succ_self n, (IntKind.i64.wrap (v2 + 1)), h, by kernel_rfl⟩
      · replace h := ite_f hc6 h
        refine WpC.conv (cS [.k [4] [4, 10001]] (by kernel_rfl) (by kernel_rfl)) (WpC.exit ?_)
        refine thenQ_exit ?_
        have hq := Option.some.inj h
        subst hq
        refine thenQ_exit ?_
        have h := hout5
        refine blockQ_hit ?_
        refine tnU ?_
        exact ⟨h, by kernel_rfl⟩
  · rintro _ ⟨h, rfl⟩
    unfold inst_wild.j1 at h
    refine WpC.seq ?_
    refine rS { th := [(1, [(3, 10002, 9, .str)])] } [4, 5] [4, 10002] hN (by kernel_rfl) (by kernel_rfl) ?_
    refine tnU ?_
    refine WpC.conv (cS [.uh 4 3 (show ((0) : Nat) = (0) from (by first | rfl | (simp only [upd_length, List.length_replicate, List.length_append]; done) | (simp only [upd_length, List.length_replicate, List.length_append] at *; omega) | omega)), .k [4, 5] [4]] (by kernel_rfl) (by kernel_rfl)) (WpC.ret ?_)
    have hq := Option.some.inj h
    subst hq
    exact eR (by kernel_rfl) (by kernel_rfl)

theorem inst_regex.ok (O : Out) (hO : GOk O) (k : Nat) (a0 : T_load_Rule) (a1 : List UInt8) (out : T_inst_Inst × Bool) (h : inst_regex.f k a0 a1 = some out) : COk Un O Tryz.prog 95 { ar := [.p (.named 9) a0, .p .str a1], r := .tup [.p (.named 10) out.1, .p .bool out.2] } := by
  refine cok_of_wp Tryz.func95 rfl (k := 40) rfl (Nat.le_of_ble_eq_true rfl) (namesOk_pure rfl rfl rfl rfl) ?_
  intro B hN
  refine WpC.conv (cvK (b := ⟨[(0, .p (.named 9) a0), (1, .p .str a1)], []⟩) [0, 1] [] (by kernel_rfl)) ?_
  unfold inst_regex.f at h
  refine WpC.seq ?_
  refine rS { th := [(1, [(3, 10001, 9, .str)])] } [1, 2, 4] [2, 4, 10001] hN (by kernel_rfl) (by kernel_rfl) ?_
  refine tnU ?_
  refine sqJ (fun st' => inst_regex.j1 k = some out ∧ st' = ⟨[(4, .loc 4 0)], [(4, .box [.p I6 (0 : Int), .p .str ([] : List UInt8), .p (.list .str) ([] : List (List UInt8)), .vec 10001 1 0 0, .p (.list .str) ([] : List (List UInt8))]), (10001, .row 9 .str [] false)]⟩) ?_ ?_
  · refine WpC.seq ?_
    refine rS {} [1, 2, 4, 12, 13, 14] [2, 4, 10001] hN (by kernel_rfl) (by kernel_rfl) ?_
    refine tnU ?_
    refine WpC.block ?_
    obtain ⟨o4, hlo4, h⟩ := bind_some h
    have hout5 := h
    clear h
    refine WpC.loop (U := Un) (fun n st' => ∃ v2 : Int, inst_regex.l3 k a0 a1 n v2 = some o4 ∧ st' = ⟨[(1, .p .str a1), (2, .loc 2 0), (4, .loc 4 0), (12, .p (.list .str) a0.f_Targets), (13, .p I6 ((a0.f_Targets.length : Int) : Int)), (14, .p I6 v2)], [(2, .box [.p (.list .str) a0.f_Targets, .p (.list .str) a0.f_Prereqs, .p I6 a0.f_Attr.f_Flags, .p .str a0.f_Attr.f_Prog, .p .str a0.f_Recipe, .p .str a0.f_File, .p I6 a0.f_Line]), (4, .box [.p I6 (0 : Int), .p .str ([] : List UInt8), .p (.list .str) ([] : List (List UInt8)), .vec 10001 1 0 0, .p (.list .str) ([] : List (List UInt8))]), (10001, .row 9 .str [] false)]⟩) k ⟨0, hlo4, by kernel_rfl⟩ ?_
    clear hlo4
    rintro (_ | n) _ ⟨v2, h, rfl⟩
    · cases h
    · rw [inst_regex.l3] at h
      refine WpC.seq ?_
      refine rS {} [1, 2, 4, 12, 13, 14, 15] [2, 4, 10001] hN (by kernel_rfl) (by kernel_rfl) ?_
      refine tnU ?_
      refine WpC.seq ?_
      refine tS (b := (decide (v2 < (a0.f_Targets.length : Int)))) (by kernel_rfl) (fun hc6 => ?_) (fun hc6 => ?_)
      · replace h := ite_t hc6 h
        refine WpC.conv (cS [.k [1, 2, 4, 12, 13, 14] [2, 4, 10001]] (by kernel_rfl) (by kernel_rfl)) (WpC.skip ?_)
        refine tnU ?_
        refine WpC.seq ?_
        refine WpC.block ?_
        refine WpC.seq ?_
        obtain ⟨v7, hv7, h⟩ := bind_some h
        refine rS { its := [(0, .v .str hv7)] } [1, 2, 4, 7, 12, 13, 14] [2, 4, 10001] hN (by kernel_rfl) (by kernel_rfl) ?_
        refine tnU ?_
        refine WpC.seq ?_
        cases h
      · replace h := ite_f hc6 h
        refine WpC.conv (cS [.k [4] [4, 10001]] (by kernel_rfl) (by kernel_rfl)) (WpC.exit ?_)
        refine thenQ_exit ?_
        have hq := Option.some.inj h
        subst hq
        refine thenQ_exit ?_
        have h := hout5
        refine blockQ_hit ?_
        refine tnU ?_
        exact ⟨h, by kernel_rfl⟩
  · rintro _ ⟨h, rfl⟩
    unfold inst_regex.j1 at h
    refine WpC.seq ?_
    refine rS { th := [(1, [(3, 10002, 9, .str)])] } [4, 5] [4, 10002] hN (by kernel_rfl) (by kernel_rfl) ?_
    refine tnU ?_
    refine WpC.conv (cS [.uh 4 3 (show ((0) : Nat) = (0) from (by first | rfl | (simp only [upd_length, List.length_replicate, List.length_append]; done) | (simp only [upd_length, List.length_replicate, List.length_append] at *; omega) | omega)), .k [4, 5] [4]] (by kernel_rfl) (by kernel_rfl)) (WpC.ret ?_)
    have hq := Option.some.inj h
    subst hq
    exact eR (by kernel_rfl) (by kernel_rfl)

theorem slices_Index_string_string.ok (O : Out) (hO : GOk O) (k : Nat) (a0 : List (List UInt8)) (a1 : List UInt8) (out : Int) (h : slices_Index_string_string.f k a0 a1 = some out) : COk Un O Tryz.prog 134 { ar := [.p (.list .str) a0, .p .str a1], r := .p I6 out } := by
  refine cok_of_wp Tryz.func134 rfl (k := 19) rfl (Nat.le_of_ble_eq_true rfl) (namesOk_pure rfl rfl rfl rfl) ?_
  intro B hN
  refine WpC.conv (cvK (b := ⟨[(0, .p (.list .str) a0), (1, .p .str a1)], []⟩) [0, 1] [] (by kernel_rfl)) ?_
  unfold slices_Index_string_string.f at h
  refine WpC.seq ?_
  refine rS {} [0, 1] [] hN (by kernel_rfl) (by kernel_rfl) ?_
  refine tnU ?_
  refine sqJ (fun st' => slices_Index_string_string.j1 k = some out ∧ st' = ⟨[], []⟩) ?_ ?_
  · refine WpC.seq ?_
    refine rS {} [0, 1, 7, 8] [] hN (by kernel_rfl) (by kernel_rfl) ?_
    refine tnU ?_
    refine WpC.block ?_
    obtain ⟨o4, hlo4, h⟩ := bind_some h
    have hout5 := h
    clear h
    refine WpC.loop (U := Un) (fun n st' => ∃ v2 : Int, slices_Index_string_string.l3 k a0 a1 n v2 = some o4 ∧ st' = ⟨[(0, .p (.list .str) a0), (1, .p .str a1), (7, .p I6 ((a0.length : Int) : Int)), (8, .p I6 v2)], []⟩) k ⟨0, hlo4, by kernel_rfl⟩ ?_
    clear hlo4
    rintro (_ | n) _ ⟨v2, h, rfl⟩
    · cases h
    · rw [slices_Index_string_string.l3] at h
      refine WpC.seq ?_
      refine rS {} [0, 1, 7, 8, 9] [] hN (by kernel_rfl) (by kernel_rfl) ?_
      refine tnU ?_
      refine WpC.seq ?_
      refine tS (b := (decide (v2 < (a0.length : Int)))) (by kernel_rfl) (fun hc6 => ?_) (fun hc6 => ?_)
      · replace h := ite_t hc6 h
        refine WpC.conv (cS [.k [0, 1, 7, 8] []] (by kernel_rfl) (by kernel_rfl)) (WpC.skip ?_)
        refine tnU ?_
        refine WpC.seq ?_
        refine WpC.block ?_
        refine WpC.seq ?_
        refine rS {} [0, 1, 5, 7, 8] [] hN (by kernel_rfl) (by kernel_rfl) ?_
        refine tnU ?_
        refine WpC.seq ?_
        obtain ⟨v7, hv7, h⟩ := bind_some h
        refine rS { its := [(3, .v .str hv7)] } [0, 1, 5, 7, 8, 16] [] hN (by kernel_rfl) (by kernel_rfl) ?_
        refine tnU ?_
        refine tS (b := (a1 == v7)) (by kernel_rfl) (fun hc8 => ?_) (fun hc8 => ?_)
        · replace h := ite_t hc8 h
          refine WpC.seq ?_
          refine rS {} [4] [] hN (by kernel_rfl) (by kernel_rfl) ?_
          refine tnU ?_
          refine WpC.ret ?_
          refine blockQ_ret ?_
          refine thenQ_ret ?_
          have hq := Option.some.inj h
          subst hq
          refine thenQ_ret ?_
          have h := hout5
          refine blockQ_ret ?_
          refine thenQ_ret ?_
          have hq := Option.some.inj h
          subst hq
          exact eR (by kernel_rfl) (by kernel_rfl)
        · replace h := ite_f hc8 h
          refine WpC.conv (cS [.k [0, 1, 7, 8] []] (by kernel_rfl) (by kernel_rfl)) (WpC.skip ?_)
          refine blockQ_normal ?_
          refine tnU ?_
          refine rS {} [0, 1, 7, 8] [] hN (by kernel_rfl) (by kernel_rfl) ?_
          refine tnU ?_
          exact ⟨n, Nat.lt_succ_self n, (IntKind.i64.wrap (v2 + 1)), h, by kernel_rfl⟩
      · replace h := ite_f hc6 h
        refine WpC.conv (cS [.k [] []] (by kernel_rfl) (by kernel_rfl)) (WpC.exit ?_)
        refine thenQ_exit ?_
        have hq := Option.some.inj h
        subst hq
        refine thenQ_exit ?_
        have h := hout5
        refine blockQ_hit ?_
        refine tnU ?_
        exact ⟨h, by kernel_rfl⟩
  · rintro _ ⟨h, rfl⟩
    unfold slices_Index_string_string.j1 at h
    refine WpC.seq ?_
    refine rS {} [4] [] hN (by kernel_rfl) (by kernel_rfl) ?_
    refine tnU ?_
    refine WpC.ret ?_
    have hq := Option.some.inj h
    subst hq
    exact eR (by kernel_rfl) (by kernel_rfl)

theorem slices_Contains_string_string.ok (O : Out) (hO : GOk O) (k : Nat) (a0 : List (List UInt8)) (a1 : List UInt8) (out : Bool) (h : slices_Contains_string_string.f k a0 a1 = some out) : COk Un O Tryz.prog 103 { ar := [.p (.list .str) a0, .p .str a1], r := .p .bool out } := by
  refine cok_of_wp Tryz.func103 rfl (k := 9) rfl (Nat.le_of_ble_eq_true rfl) (namesOk_pure rfl rfl rfl rfl) ?_
  intro B hN
  refine WpC.conv (cvK (b := ⟨[(0, .p (.list .str) a0), (1, .p .str a1)], []⟩) [0, 1] [] (by kernel_rfl)) ?_
  unfold slices_Contains_string_string.f at h
  refine WpC.seq ?_
  refine rS {} [0, 1] [] hN (by kernel_rfl) (by kernel_rfl) ?_
  refine tnU ?_
  refine WpC.seq ?_
  obtain ⟨v1, hv1, h⟩ := bind_some h
  refine rS { its := [(2, .c (slices_Index_string_string.ok O hO k a0 a1 v1 hv1))] } [4] [] hN (by kernel_rfl) (by kernel_rfl) ?_
  refine tnU ?_
  refine WpC.ret ?_
  have hq := Option.some.inj h
  subst hq
  exact eR (by kernel_rfl) (by kernel_rfl)

theorem names_Has.ok (O : Out) (hO : GOk O) (k : Nat) (a0 : List (List UInt8)) (a1 : List UInt8) (out : Bool) (h : names_Has.f k a0 a1 = some out) : COk Un O Tryz.prog 72 { ar := [.p (.list .str) a0, .p .str a1], r := .p .bool out } := by
  refine cok_of_wp Tryz.func72 rfl (k := 8) rfl (Nat.le_of_ble_eq_true rfl) (namesOk_pure rfl rfl rfl rfl) ?_
  intro B hN
  refine WpC.conv (cvK (b := ⟨[(0, .p (.list .str) a0), (1, .p .str a1)], []⟩) [0, 1] [] (by kernel_rfl)) ?_
  unfold names_Has.f at h
  refine WpC.seq ?_
  refine rS {} [0, 1] [] hN (by kernel_rfl) (by kernel_rfl) ?_
  refine tnU ?_
  refine WpC.seq ?_
  obtain ⟨v1, hv1, h⟩ := bind_some h
  refine rS { its := [(2, .c (slices_Contains_string_string.ok O hO k a0 a1 v1 hv1))] } [4] [] hN (by kernel_rfl) (by kernel_rfl) ?_
  refine tnU ?_
  refine WpC.ret ?_
  have hq := Option.some.inj h
  subst hq
  exact eR (by kernel_rfl) (by kernel_rfl)

theorem inst_raw.ok (O : Out) (hO : GOk O) (k : Nat) (a0 : T_load_Rule) (a1 : Int) (a2 : List UInt8) (out : T_inst_Inst × Bool) (h : inst_raw.f k a0 a1 a2 = some out) : COk Un O Tryz.prog 60 { ar := [.p (.named 9) a0, .p I6 a1, .p .str a2], r := .tup [.p (.named 10) out.1, .p .bool out.2] } := by
  refine cok_of_wp Tryz.func60 rfl (k := 32) rfl (Nat.le_of_ble_eq_true rfl) (namesOk_pure rfl rfl rfl rfl) ?_
  intro B hN
  refine WpC.conv (cvK (b := ⟨[(0, .p (.named 9) a0), (1, .p I6 a1), (2, .p .str a2)], []⟩) [0, 1, 2] [] (by kernel_rfl)) ?_
  unfold inst_raw.f at h
  refine WpC.seq ?_
  refine rS { th := [(1, [(3, 10001, 9, .str)])] } [1, 2, 3, 6] [3, 6, 10001] hN (by kernel_rfl) (by kernel_rfl) ?_
  refine tnU ?_
  refine WpC.seq ?_
  refine WpC.seq ?_
  refine rS {} [2, 3, 6, 8] [3, 6, 10001] hN (by kernel_rfl) (by kernel_rfl) ?_
  refine tnU ?_
  refine WpC.block ?_
  refine WpC.seq ?_
  refine rS {} [2, 3, 6, 8, 9] [3, 6, 10001] hN (by kernel_rfl) (by kernel_rfl) ?_
  refine tnU ?_
  refine tS (b := (a1 == 1)) (by kernel_rfl) (fun hc1 => ?_) (fun hc1 => ?_)
  · replace h := ite_t hc1 h
    refine WpC.seq ?_
    obtain ⟨v2, hv2, h⟩ := bind_some h
    refine rS { its := [(2, .c (inst_wild.ok O hO k (T_load_Rule.mk a0.f_Targets a0.f_Prereqs (T_attr_Attr.mk a0.f_Attr.f_Flags a0.f_Attr.f_Prog) a0.f_Recipe a0.f_File a0.f_Line) a2 v2 hv2))] } [6, 7] [6] hN (by kernel_rfl) (by kernel_rfl) ?_
    refine tnU ?_
    refine WpC.ret ?_
    refine blockQ_ret ?_
    refine thenQ_ret ?_
    have hq := Option.some.inj h
    subst hq
    exact eR (by kernel_rfl) (by kernel_rfl)
  · replace h := ite_f hc1 h
    refine WpC.seq ?_
    refine rS {} [2, 3, 6, 16] [3, 6, 10001] hN (by kernel_rfl) (by kernel_rfl) ?_
    refine tnU ?_
    refine tS (b := (a1 == 2)) (by kernel_rfl) (fun hc3 => ?_) (fun hc3 => ?_)
    · replace h := ite_t hc3 h
      refine WpC.seq ?_
      obtain ⟨v4, hv4, h⟩ := bind_some h
      refine rS { its := [(2, .c (inst_regex.ok O hO k (T_load_Rule.mk a0.f_Targets a0.f_Prereqs (T_attr_Attr.mk a0.f_Attr.f_Flags a0.f_Attr.f_Prog) a0.f_Recipe a0.f_File a0.f_Line) a2 v4 hv4))] } [6, 7] [6] hN (by kernel_rfl) (by kernel_rfl) ?_
      refine tnU ?_
      refine WpC.ret ?_
      refine blockQ_ret ?_
      refine thenQ_ret ?_
      have hq := Option.some.inj h
      subst hq
      exact eR (by kernel_rfl) (by kernel_rfl)
    · replace h := ite_f hc3 h
      refine WpC.conv (cS [.k [2, 3, 6] [3, 6, 10001]] (by kernel_rfl) (by kernel_rfl)) (WpC.skip ?_)
      refine blockQ_normal ?_
      refine tnU ?_
      refine WpC.seq ?_
      obtain ⟨v5, hv5, h⟩ := bind_some h
      refine rA { its := [(8, .c (names_Has.ok O hO k a0.f_Targets a2 v5 hv5))] } [6, 7] [6] hN (by kernel_rfl) (by kernel_rfl) (by kernel_rfl) ?_
      refine tnU ?_
      refine WpC.ret ?_
      have hq := Option.some.inj h
      subst hq
      exact eR (by kernel_rfl) (by kernel_rfl)

theorem inst_At_1.ok (O : Out) (hO : GOk O) (k : Nat) (a0 : List UInt8) (out : Bool) (h : inst_At_1.f k a0 = some out) : COk Un O Tryz.prog 62 { ar := [.p .str a0], r := .p .bool out } := by
  refine cok_of_wp Tryz.func62 rfl (k := 6) rfl (Nat.le_of_ble_eq_true rfl) (namesOk_pure rfl rfl rfl rfl) ?_
  intro B hN
  refine WpC.conv (cvK (b := ⟨[(0, .p .str a0)], []⟩) [0] [] (by kernel_rfl)) ?_
  unfold inst_At_1.f at h
  refine WpC.seq ?_
  refine rS {} [0] [] hN (by kernel_rfl) (by kernel_rfl) ?_
  refine tnU ?_
  refine WpC.seq ?_
  obtain ⟨v1, hv1, h⟩ := bind_some h
  refine rS { its := [(1, .c (names_Right.ok O hO k a0 v1 hv1))] } [2] [] hN (by kernel_rfl) (by kernel_rfl) ?_
  refine tnU ?_
  refine WpC.ret ?_
  have hq := Option.some.inj h
  subst hq
  exact eR (by kernel_rfl) (by kernel_rfl)

theorem slices_IndexFunc_string_string_m2.ok (O : Out) (hO : GOk O) (k : Nat) (a0 : List (List UInt8)) (out : Int) (h : slices_IndexFunc_string_string_m2.f k a0 = some out) : COk Un O Tryz.prog 96 { ar := [.p (.list .str) a0, .clo 62 []], r := .p I6 out } := by
  refine cok_of_wp Tryz.func96 rfl (k := 19) rfl (Nat.le_of_ble_eq_true rfl) (namesOk_pure rfl rfl rfl rfl) ?_
  intro B hN
  refine WpC.conv (cvK (b := ⟨[(0, .p (.list .str) a0), (1, .clo 62 [])], []⟩) [0, 1] [] (by kernel_rfl)) ?_
  unfold slices_IndexFunc_string_string_m2.f at h
  refine WpC.seq ?_
  refine rS {} [0, 1] [] hN (by kernel_rfl) (by kernel_rfl) ?_
  refine tnU ?_
  refine sqJ (fun st' => slices_IndexFunc_string_string_m2.j1 k = some out ∧ st' = ⟨[], []⟩) ?_ ?_
  · refine WpC.seq ?_
    refine rS {} [0, 1, 7, 8] [] hN (by kernel_rfl) (by kernel_rfl) ?_
    refine tnU ?_
    refine WpC.block ?_
    obtain ⟨o4, hlo4, h⟩ := bind_some h
    have hout5 := h
    clear h
    refine WpC.loop (U := Un) (fun n st' => ∃ v2 : Int, slices_IndexFunc_string_string_m2.l3 k a0 n v2 = some o4 ∧ st' = ⟨[(0, .p (.list .str) a0), (1, .clo 62 []), (7, .p I6 ((a0.length : Int) : Int)), (8, .p I6 v2)], []⟩) k ⟨0, hlo4, by kernel_rfl⟩ ?_
    clear hlo4
    rintro (_ | n) _ ⟨v2, h, rfl⟩
    · cases h
    · rw [slices_IndexFunc_string_string_m2.l3] at h
      refine WpC.seq ?_
      refine rS {} [0, 1, 7, 8, 9] [] hN (by kernel_rfl) (by kernel_rfl) ?_
      refine tnU ?_
      refine WpC.seq ?_
      refine tS (b := (decide (v2 < (a0.length : Int)))) (by kernel_rfl) (fun hc6 => ?_) (fun hc6 => ?_)
      · replace h := ite_t hc6 h
        refine WpC.conv (cS [.k [0, 1, 7, 8] []] (by kernel_rfl) (by kernel_rfl)) (WpC.skip ?_)
        refine tnU ?_
        refine WpC.seq ?_
        refine WpC.block ?_
        refine WpC.seq ?_
        refine rS {} [0, 1, 5, 7, 8] [] hN (by kernel_rfl) (by kernel_rfl) ?_
        refine tnU ?_
        refine WpC.seq ?_
        obtain ⟨v7, hv7, h⟩ := bind_some h
        obtain ⟨v8, hv8, h⟩ := bind_some h
        refine rS { its := [(3, .v .str hv7), (5, .c (inst_At_1.ok O hO k v7 v8 hv8))] } [0, 1, 5, 7, 8, 16] [] hN (by kernel_rfl) (by kernel_rfl) ?_
        refine tnU ?_
        refine tS (b := v8) (by kernel_rfl) (fun hc9 => ?_) (fun hc9 => ?_)
        · replace h := ite_t hc9 h
          refine WpC.seq ?_
          refine rS {} [4] [] hN (by kernel_rfl) (by kernel_rfl) ?_
          refine tnU ?_
          refine WpC.ret ?_
          refine blockQ_ret ?_
          refine thenQ_ret ?_
          have hq := Option.some.inj h
          subst hq
          refine thenQ_ret ?_
          have h := hout5
          refine blockQ_ret ?_
          refine thenQ_ret ?_
          have hq := Option.some.inj h
          subst hq
          exact eR (by kernel_rfl) (by kernel_rfl)
        · replace h := ite_f hc9 h
          refine WpC.conv (cS [.k [0, 1, 7, 8] []] (by kernel_rfl) (by kernel_rfl)) (WpC.skip ?_)
          refine blockQ_normal ?_
          refine tnU ?_
          refine rS {} [0, 1, 7, 8] [] hN (by kernel_rfl) (by kernel_rfl) ?_
          refine tnU ?_
          exact ⟨n, Nat.lt_succ_self n, (IntKind.i64.wrap (v2 + 1)), h, by kernel_rfl⟩
      · replace h := ite_f hc6 h
        refine WpC.conv (cS [.k [] []] (by kernel_rfl) (by kernel_rfl)) (WpC.exit ?_)
        refine thenQ_exit ?_
        have hq := Option.some.inj h
        subst hq
        refine thenQ_exit ?_
        have h := hout5
        refine blockQ_hit ?_
        refine tnU ?_
        exact ⟨h, by kernel_rfl⟩
  · rintro _ ⟨h, rfl⟩
    unfold slices_IndexFunc_string_string_m2.j1 at h
    refine WpC.seq ?_
    refine rS {} [4] [] hN (by kernel_rfl) (by kernel_rfl) ?_
    refine tnU ?_
    refine WpC.ret ?_
    have hq := Option.some.inj h
    subst hq
    exact eR (by kernel_rfl) (by kernel_rfl)

theorem slices_ContainsFunc_string_string_m2.ok (O : Out) (hO : GOk O) (k : Nat) (a0 : List (List UInt8)) (out : Bool) (h : slices_ContainsFunc_string_string_m2.f k a0 = some out) : COk Un O Tryz.prog 64 { ar := [.p (.list .str) a0, .clo 62 []], r := .p .bool out } := by
  refine cok_of_wp Tryz.func64 rfl (k := 9) rfl (Nat.le_of_ble_eq_true rfl) (namesOk_pure rfl rfl rfl rfl) ?_
  intro B hN
  refine WpC.conv (cvK (b := ⟨[(0, .p (.list .str) a0), (1, .clo 62 [])], []⟩) [0, 1] [] (by kernel_rfl)) ?_
  unfold slices_ContainsFunc_string_string_m2.f at h
  refine WpC.seq ?_
  refine rS {} [0, 1] [] hN (by kernel_rfl) (by kernel_rfl) ?_
  refine tnU ?_
  refine WpC.seq ?_
  obtain ⟨v1, hv1, h⟩ := bind_some h
  refine rS { its := [(2, .c (slices_IndexFunc_string_string_m2.ok O hO k a0 v1 hv1))] } [4] [] hN (by kernel_rfl) (by kernel_rfl) ?_
  refine tnU ?_
  refine WpC.ret ?_
  have hq := Option.some.inj h
  subst hq
  exact eR (by kernel_rfl) (by kernel_rfl)

theorem slices_Grow_string_string_m0.ok (O : Out) (hO : GOk O) (k : Nat) (a0 : Int) (out : List (List UInt8)) (h : slices_Grow_string_string_m0.f k a0 = some out) : COk Un O Tryz.prog 102 { ar := [.lit (.slice none 0 0), .p I6 a0], r := .vec 60500 1 0 out.length, bs' := [(60500, .row 9 .str out false)], nn := [60500] } := by
  refine cok_of_wp Tryz.func102 rfl (k := 27) rfl (Nat.le_of_ble_eq_true rfl) (namesOk_of (by kernel_rfl)) ?_
  intro B hN
  refine WpC.conv (cvK (b := ⟨[(0, .lit (.slice none 0 0)), (1, .p I6 a0)], []⟩) [0, 1] [] (by kernel_rfl)) ?_
  unfold slices_Grow_string_string_m0.f at h
  refine WpC.seq ?_
  refine rS {} [0, 1] [] hN (by kernel_rfl) (by kernel_rfl) ?_
  refine tnU ?_
  refine sqJ (fun st' => slices_Grow_string_string_m0.j7 k a0 = some out ∧ st' = ⟨[(0, .lit (.slice none 0 0)), (1, .p I6 a0)], []⟩) ?_ ?_
  · refine WpC.seq ?_
    refine rS {} [0, 1, 6] [] hN (by kernel_rfl) (by kernel_rfl) ?_
    refine tnU ?_
    refine tS (b := (decide (a0 < 0))) (by kernel_rfl) (fun hc8 => ?_) (fun hc8 => ?_)
    · replace h := ite_t hc8 h
      cases h
    · replace h := ite_f hc8 h
      refine WpC.conv (cS [.k [0, 1] []] (by kernel_rfl) (by kernel_rfl)) (WpC.skip ?_)
      refine tnU ?_
      exact ⟨h, by kernel_rfl⟩
  · rintro _ ⟨h, rfl⟩
    unfold slices_Grow_string_string_m0.j7 at h
    refine sqJ (fun st' => ∃ v1 : List (List UInt8), slices_Grow_string_string_m0.j2 k v1 = some out ∧ st' = ⟨[(0, .vec 1000 1 0 v1.length)], [(1000, .row 9 .str v1 false)]⟩) ?_ ?_
    · refine WpC.seq ?_
      refine rS { its := [(2, .e 2 (sok_capNil (U := Un) (rs := [(9, .lit (.slice none 0 0))]) rfl rfl Tryz.underlying30 o0))] } [0, 1] [] hN (by kernel_rfl) (by kernel_rfl) ?_
      refine tnU ?_
      refine WpC.seq ?_
      refine rS {} [0, 1, 16] [] hN (by kernel_rfl) (by kernel_rfl) ?_
      refine tnU ?_
      refine tS (b := (decide ((IntKind.i64.wrap (a0 - (IntKind.i64.wrap (0 - 0)))) > 0))) (by kernel_rfl) (fun hc3 => ?_) (fun hc3 => ?_)
      · replace h := ite_t hc3 h
        obtain ⟨g4, h⟩ := if_some h
        obtain ⟨g5, h⟩ := if_some h
        obtain ⟨g6, h⟩ := if_some h
        refine rSC { its := [(2, .e 2 (sok_capNil (U := Un) (rs := [(18, .lit (.slice none 0 0))]) rfl rfl Tryz.underlying30 o0)), (5, .e 5 (sok_appendNZ (U := Un) (t := .str) (rs := [(20, .lit (.slice none 0 0)), (21, .p I6 ((IntKind.i64.wrap (a0 - (IntKind.i64.wrap (0 - 0)))) : Int))]) (n := (IntKind.i64.wrap (a0 - (IntKind.i64.wrap (0 - 0))))) rfl rfl rfl row_30 Tryz.underlying3 o0 o1 g4 g5 (by decide))), (8, .g g6)] } [0] [22] hN (by kernel_rfl) (by kernel_rfl) (cS [.rn 22 1000, .k [0] [1000]] (by kernel_rfl) (by kernel_rfl)) ?_
        refine tnU ?_
        exact ⟨([] : List (List UInt8)), h, by kernel_rfl⟩
      · replace h := ite_f hc3 h
        refine WpC.conv (cS [.k [0] [], .th 0 1000 9 .str, .k [0] [1000]] (by kernel_rfl) (by kernel_rfl)) (WpC.skip ?_)
        refine tnU ?_
        exact ⟨[], h, by kernel_rfl⟩
    · rintro _ ⟨v1, h, rfl⟩
      unfold slices_Grow_string_string_m0.j2 at h
      refine WpC.seq ?_
      refine rS {} [4] [1000] hN (by kernel_rfl) (by kernel_rfl) ?_
      refine tnU ?_
      refine WpC.conv (cS [.rn 1000 60500, .k [4] [60500]] (by kernel_rfl) (by kernel_rfl)) (WpC.ret ?_)
      have hq := Option.some.inj h
      subst hq
      exact eR (by kernel_rfl) (by kernel_rfl)

end Go.Proofs.YtldepagjdbcmgaaGreatDoor
