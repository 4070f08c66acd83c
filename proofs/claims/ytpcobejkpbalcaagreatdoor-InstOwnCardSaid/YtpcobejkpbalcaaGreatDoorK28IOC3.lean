/- A part of the proof of a given law: IOC3. Own work, printed in part by a program of mine. -/
import Derived.Test.YtpcobejkpbalcaaGreatDoorK28IOC2
namespace Go.Proofs.YtpcobejkpbalcaaGreatDoor
open Go Go.AM
set_option linter.unusedVariables false
set_option linter.unusedSimpArgs false
set_option maxRecDepth 100000
set_option maxHeartbeats 4000000
theorem table_one.ok (O : Out) (hO : GOkE O) (k : Nat) (a0 : T_load_Rule) (a1 : T_load_Rule) (out : Bool) (h : table_one.f k a0 a1 = some out) : COk Un O Tryz.prog 81 { ar := [.p (.named 3) a0, .p (.named 3) a1], r := .p .bool out } := by
 refine cok_of_wp Tryz.func81 rfl (k := 24) rfl (Nat.le_of_ble_eq_true rfl) (namesOk_pure rfl rfl rfl rfl) ?_
 intro B hN
 refine WpC.conv (cvK (b := ⟨[(0, .p (.named 3) a0), (1, .p (.named 3) a1)], []⟩) [0, 1] [] (by kernel_rfl)) ?_
 unfold table_one.f at h
 refine WpC.seq ?_
 refine rS {} [2, 3] [2, 3] hN (by kernel_rfl) (by kernel_rfl) ?_
 refine tnU ?_
 refine WpC.seq ?_
 rcases bool_cases (a0.f_Attr.f_Flags == a1.f_Attr.f_Flags && (a0.f_Attr.f_Prog == a1.f_Attr.f_Prog && true)) with hc1 | hc1
 ·replace h := ite_t hc1 h
  obtain ⟨v2, hv2, h⟩ := bind_some h
  rcases bool_cases v2 with hc3 | hc3
  ·replace h := ite_t hc3 h
   obtain ⟨v4, hv4, h⟩ := bind_some h
   refine rS { its := [(4, .e 4 (sok_eqS (U := Un) (rs := [(6, .p (.named 4) ((T_attr_Attr.mk a0.f_Attr.f_Flags a0.f_Attr.f_Prog) : T_attr_Attr)), (8, .p (.named 4) ((T_attr_Attr.mk a1.f_Attr.f_Flags a1.f_Attr.f_Prog) : T_attr_Attr))]) rfl rfl Tryz.underlying60 (by kernel_rfl) (eqf_60 _ Tryz.underlying60) (by kernel_rfl) o0 o1)), (10, .c (slices_Equal_string_string.ok O hO k a0.f_Targets a1.f_Targets v2 hv2)), (17, .c (slices_Equal_string_string.ok O hO k a0.f_Prereqs a1.f_Prereqs v4 hv4))], kn := [(10, .t hc1), (17, .t hc3)] } [4] [] hN (by kernel_rfl) (by kernel_rfl) ?_
   refine tnU ?_
   refine WpC.ret ?_
   have hq := Option.some.inj h
   subst hq
   exact eR (by kernel_rfl) (by kernel_rfl)
  ·replace h := ite_f hc3 h
   refine rS { its := [(4, .e 4 (sok_eqS (U := Un) (rs := [(6, .p (.named 4) ((T_attr_Attr.mk a0.f_Attr.f_Flags a0.f_Attr.f_Prog) : T_attr_Attr)), (8, .p (.named 4) ((T_attr_Attr.mk a1.f_Attr.f_Flags a1.f_Attr.f_Prog) : T_attr_Attr))]) rfl rfl Tryz.underlying60 (by kernel_rfl) (eqf_60 _ Tryz.underlying60) (by kernel_rfl) o0 o1)), (10, .c (slices_Equal_string_string.ok O hO k a0.f_Targets a1.f_Targets v2 hv2))], kn := [(10, .t hc1), (17, .f hc3)] } [4] [] hN (by kernel_rfl) (by kernel_rfl) ?_
   refine tnU ?_
   refine WpC.ret ?_
   have hq := Option.some.inj h
   subst hq
   exact eR (by kernel_rfl) (by kernel_rfl)
 ·replace h := ite_f hc1 h
  refine rS { its := [(4, .e 4 (sok_eqS (U := Un) (rs := [(6, .p (.named 4) ((T_attr_Attr.mk a0.f_Attr.f_Flags a0.f_Attr.f_Prog) : T_attr_Attr)), (8, .p (.named 4) ((T_attr_Attr.mk a1.f_Attr.f_Flags a1.f_Attr.f_Prog) : T_attr_Attr))]) rfl rfl Tryz.underlying60 (by kernel_rfl) (eqf_60 _ Tryz.underlying60) (by kernel_rfl) o0 o1))], kn := [(10, .f hc1)] } [4] [] hN (by kernel_rfl) (by kernel_rfl) ?_
  refine tnU ?_
  refine WpC.ret ?_
  have hq := Option.some.inj h
  subst hq
  exact eR (by kernel_rfl) (by kernel_rfl)

theorem table_Table_add_1_m0.ok (O : Out) (hO : GOkE O) (k : Nat) (a0 : T_load_Rule) (a1 : List (List UInt8)) (a2 : List (List UInt8)) (a3 : Int) (a4 : List UInt8) (a5 : List UInt8) (a6 : List UInt8) (a7 : Int) (out : Bool) (h : table_Table_add_1_m0.f k a0 a1 a2 a3 a4 a5 a6 a7 = some out) : COk Un O Tryz.prog 80 { ar := [.p (.named 3) a0, .loc 100000 0], r := .p .bool out, bs := [(100000, .box [.p (.list .str) a1, .p (.list .str) a2, .p I6 a3, .p .str a4, .p .str a5, .p .str a6, .p I6 a7])], bs' := [(100000, .box [.p (.list .str) a1, .p (.list .str) a2, .p I6 a3, .p .str a4, .p .str a5, .p .str a6, .p I6 a7])] } := by
 refine cok_of_wp Tryz.func80 rfl (k := 7) rfl (Nat.le_of_ble_eq_true rfl) (namesOk_of (by kernel_rfl)) ?_
 intro B hN
 refine WpC.conv (cvK (b := ⟨[(0, .p (.named 3) a0), (1, .loc 100000 0)], [(100000, .box [.p (.list .str) a1, .p (.list .str) a2, .p I6 a3, .p .str a4, .p .str a5, .p .str a6, .p I6 a7])]⟩) [0, 1] [100000] (by kernel_rfl)) ?_
 unfold table_Table_add_1_m0.f at h
 refine WpC.seq ?_
 refine rS {} [1, 2] [2, 100000] hN (by kernel_rfl) (by kernel_rfl) ?_
 refine tnU ?_
 refine WpC.seq ?_
 obtain ⟨v1, hv1, h⟩ := bind_some h
 refine rS { its := [(2, .c (table_one.ok O hO k (T_load_Rule.mk a0.f_Targets a0.f_Prereqs (T_attr_Attr.mk a0.f_Attr.f_Flags a0.f_Attr.f_Prog) a0.f_Recipe a0.f_File a0.f_Line) (T_load_Rule.mk a1 a2 (T_attr_Attr.mk a3 a4) a5 a6 a7) v1 hv1))] } [3] [100000] hN (by kernel_rfl) (by kernel_rfl) ?_
 refine tnU ?_
 refine WpC.ret ?_
 have hq := Option.some.inj h
 subst hq
 exact eR (by kernel_rfl) (by kernel_rfl)

theorem load_Rule_m0.ok (O : Out) (hO : GOkE O) (k : Nat) (a0 : List T_load_Rule) (a1 : List (List UInt8)) (a2 : List (List UInt8)) (a3 : Int) (a4 : List UInt8) (a5 : List UInt8) (a6 : List UInt8) (a7 : Int) (out : Int) (h : load_Rule_m0.f k a0 a1 a2 a3 a4 a5 a6 a7 = some out) : COk Un O Tryz.prog 79 { ar := [.vec 100000 7 0 a0.length, .clo 80 [.loc 100001 0]], r := .p I6 out, bs := [(100000, .row 62 (.named 3) a0 false), (100001, .box [.p (.list .str) a1, .p (.list .str) a2, .p I6 a3, .p .str a4, .p .str a5, .p .str a6, .p I6 a7])], bs' := [(100000, .row 62 (.named 3) a0 false), (100001, .box [.p (.list .str) a1, .p (.list .str) a2, .p I6 a3, .p .str a4, .p .str a5, .p .str a6, .p I6 a7])] } := by
 refine cok_of_wp Tryz.func79 rfl (k := 19) rfl (Nat.le_of_ble_eq_true rfl) (namesOk_of (by kernel_rfl)) ?_
 intro B hN
 refine WpC.conv (cvK (b := ⟨[(0, .vec 100000 7 0 a0.length), (1, .clo 80 [.loc 100001 0])], [(100000, .row 62 (.named 3) a0 false), (100001, .box [.p (.list .str) a1, .p (.list .str) a2, .p I6 a3, .p .str a4, .p .str a5, .p .str a6, .p I6 a7])]⟩) [0, 1] [100000, 100001] (by kernel_rfl)) ?_
 unfold load_Rule_m0.f at h
 refine WpC.seq ?_
 refine rS {} [0, 1] [100000, 100001] hN (by kernel_rfl) (by kernel_rfl) ?_
 refine tnU ?_
 refine sqJ (fun st' => load_Rule_m0.j1 k a0 a1 a2 a3 a4 a5 a6 a7 = some out ∧ st' = ⟨[], [(100000, .row 62 (.named 3) a0 false), (100001, .box [.p (.list .str) a1, .p (.list .str) a2, .p I6 a3, .p .str a4, .p .str a5, .p .str a6, .p I6 a7])]⟩) ?_ ?_
 ·refine WpC.seq ?_
  refine rS {} [0, 1, 7, 8] [100000, 100001] hN (by kernel_rfl) (by kernel_rfl) ?_
  refine tnU ?_
  refine WpC.block ?_
  obtain ⟨o4, hlo4, h⟩ := bind_some h
  have hout5 := h
  clear h
  refine WpC.loop (U := Un) (fun n st' => ∃ v2 : Int, load_Rule_m0.l3 k a0 a1 a2 a3 a4 a5 a6 a7 n v2 = some o4 ∧ st' = ⟨[(0, .vec 100000 7 0 a0.length), (1, .clo 80 [.loc 100001 0]), (7, .p I6 ((a0.length : Int) : Int)), (8, .p I6 v2)], [(100000, .row 62 (.named 3) a0 false), (100001, .box [.p (.list .str) a1, .p (.list .str) a2, .p I6 a3, .p .str a4, .p .str a5, .p .str a6, .p I6 a7])]⟩) k ⟨0, hlo4, by kernel_rfl⟩ ?_
  clear hlo4
  rintro (_ | n) _ ⟨v2, h, rfl⟩
  ·cases h
  ·rw [load_Rule_m0.l3] at h
   refine WpC.seq ?_
   refine rS {} [0, 1, 7, 8, 9] [100000, 100001] hN (by kernel_rfl) (by kernel_rfl) ?_
   refine tnU ?_
   refine WpC.seq ?_
   refine tS (b := (decide (v2 < (a0.length : Int)))) (by kernel_rfl) (fun hc6 => ?_) (fun hc6 => ?_)
   ·replace h := ite_t hc6 h
    refine WpC.conv (cS [.k [0, 1, 7, 8] [100000, 100001]] (by kernel_rfl) (by kernel_rfl)) (WpC.skip ?_)
    refine tnU ?_
    refine WpC.seq ?_
    refine WpC.block ?_
    refine WpC.seq ?_
    refine rS {} [0, 1, 5, 7, 8] [100000, 100001] hN (by kernel_rfl) (by kernel_rfl) ?_
    refine tnU ?_
    refine WpC.seq ?_
    obtain ⟨g7, h⟩ := if_some h
    obtain ⟨v8, hv8, h⟩ := bind_some h
    obtain ⟨v9, hv9, h⟩ := bind_some h
    refine rS { its := [(3, .g g7), (4, .v (.named 3) hv8), (5, .c (COk.ren (table_Table_add_1_m0.ok O hO k v8 a1 a2 a3 a4 a5 a6 a7 v9 hv9) (fun n => if n = 100000 then 100001 else n) (injOn_of (by kernel_rfl))))] } [0, 1, 5, 7, 8, 16] [100000, 100001] hN (by kernel_rfl) (by kernel_rfl) ?_
    refine tnU ?_
    refine tS (b := v9) (by kernel_rfl) (fun hc10 => ?_) (fun hc10 => ?_)
    ·replace h := ite_t hc10 h
     refine WpC.seq ?_
     refine rS {} [4] [100000, 100001] hN (by kernel_rfl) (by kernel_rfl) ?_
     refine tnU ?_
     refine WpC.ret ?_
     refine blockQ_ret ?_
     refine thenQ_ret ?_
     have hq := Option.some.inj h
     subst hq
     refine thenQ_ret ?_
     have h := hout5
     refine blockQ_ret ?_
     refine thenQ_ret ?_
     have hq := Option.some.inj h
     subst hq
     exact eR (by kernel_rfl) (by kernel_rfl)
    ·replace h := ite_f hc10 h
     refine WpC.conv (cS [.k [0, 1, 7, 8] [100000, 100001]] (by kernel_rfl) (by kernel_rfl)) (WpC.skip ?_)
     refine blockQ_normal ?_
     refine tnU ?_
     refine rS {} [0, 1, 7, 8] [100000, 100001] hN (by kernel_rfl) (by kernel_rfl) ?_
     refine tnU ?_
     exact ⟨n, Nat.lt_succ_self n, (IntKind.i64.wrap (v2 + 1)), h, by kernel_rfl⟩
   ·replace h := ite_f hc6 h
    refine WpC.conv (cS [.k [] [100000, 100001]] (by kernel_rfl) (by kernel_rfl)) (WpC.exit ?_)
    refine thenQ_exit ?_
    have hq := Option.some.inj h
    subst hq
    refine thenQ_exit ?_
    have h := hout5
    refine blockQ_hit ?_
    refine tnU ?_
    exact ⟨h, by kernel_rfl⟩
 ·rintro _ ⟨h, rfl⟩
  unfold load_Rule_m0.j1 at h
  refine WpC.seq ?_
  refine rS {} [4] [100000, 100001] hN (by kernel_rfl) (by kernel_rfl) ?_
  refine tnU ?_
  refine WpC.ret ?_
  have hq := Option.some.inj h
  subst hq
  exact eR (by kernel_rfl) (by kernel_rfl)

theorem table_apart.ok (O : Out) (hO : GOkE O) (k : Nat) (a0 : T_load_Rule) (out : T_load_Rule) (h : table_apart.f k a0 = some out) : COk Un O Tryz.prog 72 { ar := [.p (.named 3) a0], r := .p (.named 3) out } := by
 refine cok_of_wp Tryz.func72 rfl (k := 12) rfl (Nat.le_of_ble_eq_true rfl) (namesOk_pure rfl rfl rfl rfl) ?_
 intro B hN
 refine WpC.conv (cvK (b := ⟨[(0, .p (.named 3) a0)], []⟩) [0] [] (by kernel_rfl)) ?_
 unfold table_apart.f at h
 refine WpC.seq ?_
 refine rS {} [1, 2] [1, 2] hN (by kernel_rfl) (by kernel_rfl) ?_
 refine tnU ?_
 refine WpC.seq ?_
 obtain ⟨v1, hv1, h⟩ := bind_some h
 obtain ⟨v2, hv2, h⟩ := bind_some h
 refine rA { its := [(2, .c (COk.ren (pCloneR.ok O hO k a0.f_Targets v1 hv1) (fun n => if n = 60500 then 10001 else n) (injOn_of (by kernel_rfl)))), (5, .c (COk.ren (pCloneR.ok O hO k a0.f_Prereqs v2 hv2) (fun n => if n = 60500 then 10002 else n) (injOn_of (by kernel_rfl))))] } [1, 2] [1, 2, 10001, 10002] hN (by kernel_rfl) (by kernel_rfl) (by kernel_rfl) ?_
 refine tnU ?_
 refine WpC.seq ?_
 refine rS {} [2] [2, 10001, 10002] hN (by kernel_rfl) (by kernel_rfl) ?_
 refine tnU ?_
 refine WpC.conv (cS [.fu 2 0, .k [2] [2, 10002], .fu 2 1, .k [2] [2]] (by kernel_rfl) (by kernel_rfl)) (WpC.ret ?_)
 have hq := Option.some.inj h
 subst hq
 exact eR (by kernel_rfl) (by kernel_rfl)

theorem table_Table_Metas_1_m0.ok (O : Out) (hO : GOkE O) (k : Nat) (a0 : Int) (a1 : List T_load_Rule) (a2 : List Int) (out : Bool) (h : table_Table_Metas_1_m0.f k a0 a1 a2 = some out) : COk Un O Tryz.prog 66 { ar := [.p I6 a0, .loc 100000 0], r := .p .bool out, bs := [(100000, .box [.loc 100001 0]), (100001, .box [.vec 100002 7 0 a1.length, .vec 100003 1 0 a2.length]), (100002, .row 62 (.named 3) a1 false), (100003, .row 3 I6 a2 false)], bs' := [(100000, .box [.loc 100001 0]), (100001, .box [.vec 100002 7 0 a1.length, .vec 100003 1 0 a2.length]), (100002, .row 62 (.named 3) a1 false), (100003, .row 3 I6 a2 false)] } := by
 refine cok_of_wp Tryz.func66 rfl (k := 12) rfl (Nat.le_of_ble_eq_true rfl) (namesOk_of (by kernel_rfl)) ?_
 intro B hN
 refine WpC.conv (cvK (b := ⟨[(0, .p I6 a0), (1, .loc 100000 0)], [(100000, .box [.loc 100001 0]), (100001, .box [.vec 100002 7 0 a1.length, .vec 100003 1 0 a2.length]), (100002, .row 62 (.named 3) a1 false), (100003, .row 3 I6 a2 false)]⟩) [0, 1] [100000, 100001, 100002, 100003] (by kernel_rfl)) ?_
 unfold table_Table_Metas_1_m0.f at h
 refine WpC.seq ?_
 refine rS {} [0, 1] [100000, 100001, 100002, 100003] hN (by kernel_rfl) (by kernel_rfl) ?_
 refine tnU ?_
 refine WpC.seq ?_
 obtain ⟨g1, h⟩ := if_some h
 obtain ⟨v2, hv2, h⟩ := bind_some h
 refine rS { its := [(5, .g g1), (6, .v I6 hv2)] } [3] [100000, 100001, 100002, 100003] hN (by kernel_rfl) (by kernel_rfl) ?_
 refine tnU ?_
 refine WpC.ret ?_
 have hq := Option.some.inj h
 subst hq
 exact eR (by kernel_rfl) (by kernel_rfl)

theorem table_Table_chosen_m0.ok (O : Out) (hO : GOkE O) (k : Nat) (a0 : List T_load_Rule) (a1 : List Int) (out : List Int) (h : table_Table_chosen_m0.f k a0 a1 = some out) : COk Un O Tryz.prog 63 { ar := [.loc 100000 0, .clo 66 [.loc 100003 0]], r := .p (.list I6) out, bs := [(100000, .box [.vec 100001 7 0 a0.length, .vec 100002 1 0 a1.length]), (100001, .row 62 (.named 3) a0 false), (100002, .row 3 I6 a1 false), (100003, .box [.loc 100000 0])], bs' := [(100000, .box [.vec 100001 7 0 a0.length, .vec 100002 1 0 a1.length]), (100001, .row 62 (.named 3) a0 false), (100002, .row 3 I6 a1 false), (100003, .box [.loc 100000 0])] } := by
 refine cok_of_wp Tryz.func63 rfl (k := 24) rfl (Nat.le_of_ble_eq_true rfl) (namesOk_of (by kernel_rfl)) ?_
 intro B hN
 refine WpC.conv (cvK (b := ⟨[(0, .loc 100000 0), (1, .clo 66 [.loc 100003 0])], [(100000, .box [.vec 100001 7 0 a0.length, .vec 100002 1 0 a1.length]), (100001, .row 62 (.named 3) a0 false), (100002, .row 3 I6 a1 false), (100003, .box [.loc 100000 0])]⟩) [0, 1] [100000, 100001, 100002, 100003] (by kernel_rfl)) ?_
 unfold table_Table_chosen_m0.f at h
 refine WpC.seq ?_
 refine rS {} [0, 1] [100000, 100001, 100002, 100003] hN (by kernel_rfl) (by kernel_rfl) ?_
 refine tnU ?_
 refine WpC.seq ?_
 refine rS {} [0, 1, 5] [100000, 100001, 100002, 100003] hN (by kernel_rfl) (by kernel_rfl) ?_
 refine tnU ?_
 refine sqJ (fun st' => ∃ v1 : List Int, table_Table_chosen_m0.j2 k a0 a1 v1 = some out ∧ st' = ⟨[(5, .vec 1005 1 0 v1.length)], [(1005, .row 3 I6 v1 false), (100000, .box [.vec 100001 7 0 a0.length, .vec 100002 1 0 a1.length]), (100001, .row 62 (.named 3) a0 false), (100002, .row 3 I6 a1 false), (100003, .box [.loc 100000 0])]⟩) ?_ ?_
 ·refine WpC.seq ?_
  refine rS {} [1, 5, 11, 12] [100000, 100001, 100002, 100003] hN (by kernel_rfl) (by kernel_rfl) ?_
  refine tnU ?_
  refine WpC.block ?_
  obtain ⟨o7, hlo7, h⟩ := bind_some h
  have hout8 := h
  clear h
  refine WpC.conv (cS [.th 5 1005 3 I6, .k [1, 5, 11, 12] [1005, 100000, 100001, 100002, 100003]] (by kernel_rfl) (by kernel_rfl)) ?_
  refine WpC.loop (U := Un) (fun n st' => ∃ v3 : List Int, ∃ v4 : Int, table_Table_chosen_m0.l5 k a0 a1 n v3 v4 = some o7 ∧ st' = ⟨[(1, .clo 66 [.loc 100003 0]), (5, .vec 1005 1 0 v3.length), (11, .p I6 ((a0.length : Int) : Int)), (12, .p I6 v4)], [(1005, .row 3 I6 v3 false), (100000, .box [.vec 100001 7 0 a0.length, .vec 100002 1 0 a1.length]), (100001, .row 62 (.named 3) a0 false), (100002, .row 3 I6 a1 false), (100003, .box [.loc 100000 0])]⟩) k ⟨[], 0, hlo7, by kernel_rfl⟩ ?_
  clear hlo7
  rintro (_ | n) _ ⟨v3, v4, h, rfl⟩
  ·cases h
  ·rw [table_Table_chosen_m0.l5] at h
   refine WpC.seq ?_
   refine rS {} [1, 5, 11, 12, 13] [1005, 100000, 100001, 100002, 100003] hN (by kernel_rfl) (by kernel_rfl) ?_
   refine tnU ?_
   refine WpC.seq ?_
   refine tS (b := (decide (v4 < (a0.length : Int)))) (by kernel_rfl) (fun hc9 => ?_) (fun hc9 => ?_)
   ·replace h := ite_t hc9 h
    refine WpC.conv (cS [.k [1, 5, 11, 12] [1005, 100000, 100001, 100002, 100003]] (by kernel_rfl) (by kernel_rfl)) (WpC.skip ?_)
    refine tnU ?_
    refine sqJ (fun st' => ∃ v10 : List Int, table_Table_chosen_m0.j11 k (table_Table_chosen_m0.l5 k a0 a1 n) a0 a1 v4 v10 = some o7 ∧ st' = ⟨[(1, .clo 66 [.loc 100003 0]), (5, .vec 1005 1 0 v10.length), (11, .p I6 ((a0.length : Int) : Int)), (12, .p I6 v4)], [(1005, .row 3 I6 v10 false), (100000, .box [.vec 100001 7 0 a0.length, .vec 100002 1 0 a1.length]), (100001, .row 62 (.named 3) a0 false), (100002, .row 3 I6 a1 false), (100003, .box [.loc 100000 0])]⟩) ?_ ?_
    ·refine WpC.block ?_
     refine WpC.seq ?_
     refine rS {} [1, 5, 6, 11, 12] [1005, 100000, 100001, 100002, 100003] hN (by kernel_rfl) (by kernel_rfl) ?_
     refine tnU ?_
     refine WpC.seq ?_
     obtain ⟨v12, hv12, h⟩ := bind_some h
     refine rS { its := [(2, .c (COk.ren (table_Table_Metas_1_m0.ok O hO k v4 a0 a1 v12 hv12) (fun n => if n = 100000 then 100003 else if n = 100001 then 100000 else if n = 100002 then 100001 else if n = 100003 then 100002 else n) (injOn_of (by kernel_rfl))))] } [1, 5, 6, 11, 12, 17] [1005, 100000, 100001, 100002, 100003] hN (by kernel_rfl) (by kernel_rfl) ?_
     refine tnU ?_
     refine tS (b := v12) (by kernel_rfl) (fun hc13 => ?_) (fun hc13 => ?_)
     ·replace h := ite_t hc13 h
      obtain ⟨g14, h⟩ := if_some h
      refine rSC { its := [(3, .g g14)] } [1, 5, 11, 12] [21, 100000, 100001, 100002, 100003] hN (by kernel_rfl) (by kernel_rfl) (cS [.rn 21 1005, .k [1, 5, 11, 12] [1005, 100000, 100001, 100002, 100003]] (by kernel_rfl) (by kernel_rfl)) ?_
      refine blockQ_normal ?_
      refine tnU ?_
      exact ⟨(v3 ++ [v4]), h, by kernel_rfl⟩
     ·replace h := ite_f hc13 h
      refine WpC.conv (cS [.k [1, 5, 11, 12] [1005, 100000, 100001, 100002, 100003]] (by kernel_rfl) (by kernel_rfl)) (WpC.skip ?_)
      refine blockQ_normal ?_
      refine tnU ?_
      exact ⟨v3, h, by kernel_rfl⟩
    ·rintro _ ⟨v10, h, rfl⟩
     unfold table_Table_chosen_m0.j11 at h
     refine rS {} [1, 5, 11, 12] [1005, 100000, 100001, 100002, 100003] hN (by kernel_rfl) (by kernel_rfl) ?_
     refine tnU ?_
     exact ⟨n, Nat.lt_succ_self n, v10, (IntKind.i64.wrap (v4 + 1)), h, by kernel_rfl⟩
   ·replace h := ite_f hc9 h
    refine WpC.conv (cS [.k [5] [1005, 100000, 100001, 100002, 100003]] (by kernel_rfl) (by kernel_rfl)) (WpC.exit ?_)
    refine thenQ_exit ?_
    have hq := Option.some.inj h
    subst hq
    refine thenQ_exit ?_
    have h := hout8
    refine blockQ_hit ?_
    refine tnU ?_
    exact ⟨v3, h, by kernel_rfl⟩
 ·rintro _ ⟨v1, h, rfl⟩
  unfold table_Table_chosen_m0.j2 at h
  refine WpC.seq ?_
  refine rS {} [4] [1005, 100000, 100001, 100002, 100003] hN (by kernel_rfl) (by kernel_rfl) ?_
  refine tnU ?_
  refine WpC.conv (cS [.fz 4, .k [4] [100000, 100001, 100002, 100003]] (by kernel_rfl) (by kernel_rfl)) (WpC.ret ?_)
  have hq := Option.some.inj h
  subst hq
  exact eR (by kernel_rfl) (by kernel_rfl)

theorem table_Table_Metas_m0.ok (O : Out) (hO : GOkE O) (k : Nat) (a0 : List T_load_Rule) (a1 : List Int) (out : List Int) (h : table_Table_Metas_m0.f k a0 a1 = some out) : COk Un O Tryz.prog 27 { ar := [.loc 100000 0], r := .p (.list I6) out, bs := [(100000, .box [.vec 100001 7 0 a0.length, .vec 100002 1 0 a1.length]), (100001, .row 62 (.named 3) a0 false), (100002, .row 3 I6 a1 false)], bs' := [(100000, .box [.vec 100001 7 0 a0.length, .vec 100002 1 0 a1.length]), (100001, .row 62 (.named 3) a0 false), (100002, .row 3 I6 a1 false)] } := by
 refine cok_of_wp Tryz.func27 rfl (k := 6) rfl (Nat.le_of_ble_eq_true rfl) (namesOk_of (by kernel_rfl)) ?_
 intro B hN
 refine WpC.conv (cvK (b := ⟨[(0, .loc 100000 0)], [(100000, .box [.vec 100001 7 0 a0.length, .vec 100002 1 0 a1.length]), (100001, .row 62 (.named 3) a0 false), (100002, .row 3 I6 a1 false)]⟩) [0] [100000, 100001, 100002] (by kernel_rfl)) ?_
 unfold table_Table_Metas_m0.f at h
 refine WpC.seq ?_
 refine rS {} [1] [1, 100000, 100001, 100002] hN (by kernel_rfl) (by kernel_rfl) ?_
 refine tnU ?_
 refine WpC.seq ?_
 obtain ⟨v1, hv1, h⟩ := bind_some h
 refine rS { its := [(2, .c (COk.ren (table_Table_chosen_m0.ok O hO k a0 a1 v1 hv1) (fun n => if n = 100000 then 100000 else if n = 100001 then 100001 else if n = 100002 then 100002 else if n = 100003 then 1 else n) (injOn_of (by kernel_rfl))))] } [2] [100000, 100001, 100002] hN (by kernel_rfl) (by kernel_rfl) ?_
 refine tnU ?_
 refine WpC.ret ?_
 have hq := Option.some.inj h
 subst hq
 exact eR (by kernel_rfl) (by kernel_rfl)

theorem table_Table_add_m0.ok (O : Out) (hO : GOkE O) (k : Nat) (a0 : List T_load_Rule) (a1 : List Int) (a2 : T_load_Rule) (out : Nat × (List T_load_Rule) × (List Int)) (h : table_Table_add_m0.f k a0 a1 a2 = some out) : COk Un O Tryz.prog 42 { ar := [.loc 100000 0, .p (.named 3) a2], r := .p .err out.1, bs := [(100000, .box [.vec 100001 7 0 a0.length, .vec 100002 1 0 a1.length]), (100001, .row 62 (.named 3) a0 false), (100002, .row 3 I6 a1 false)], bs' := [(60001, .row 62 (.named 3) out.2.1 false), (60002, .row 3 I6 out.2.2 false), (100000, .box [.vec 60001 7 0 out.2.1.length, .vec 60002 1 0 out.2.2.length])], nn := [60001, 60002] } := by
 refine cok_of_wp Tryz.func42 rfl (k := 71) rfl (Nat.le_of_ble_eq_true rfl) (namesOk_of (by kernel_rfl)) ?_
 intro B hN
 refine WpC.conv (cvK (b := ⟨[(0, .loc 100000 0), (1, .p (.named 3) a2)], [(100000, .box [.vec 100001 7 0 a0.length, .vec 100002 1 0 a1.length]), (100001, .row 62 (.named 3) a0 false), (100002, .row 3 I6 a1 false)]⟩) [0, 1] [100000, 100001, 100002] (by kernel_rfl)) ?_
 unfold table_Table_add_m0.f at h
 refine WpC.seq ?_
 refine rS {} [0, 3] [3, 100000, 100001, 100002] hN (by kernel_rfl) (by kernel_rfl) ?_
 refine tnU ?_
 refine WpC.seq ?_
 refine WpC.seq ?_
 obtain ⟨v1, hv1, h⟩ := bind_some h
 refine rS { its := [(1, .c (table_check.ok O hO k (T_load_Rule.mk a2.f_Targets a2.f_Prereqs (T_attr_Attr.mk a2.f_Attr.f_Flags a2.f_Attr.f_Prog) a2.f_Recipe a2.f_File a2.f_Line) v1 hv1))] } [0, 3, 5] [3, 100000, 100001, 100002] hN (by kernel_rfl) (by kernel_rfl) ?_
 refine tnU ?_
 refine WpC.seq ?_
 refine rS {} [0, 3, 5, 11] [3, 100000, 100001, 100002] hN (by kernel_rfl) (by kernel_rfl) ?_
 refine tnU ?_
 refine tS (b := (!(v1 == 0))) (by kernel_rfl) (fun hc2 => ?_) (fun hc2 => ?_)
 ·replace h := ite_t hc2 h
  refine WpC.seq ?_
  refine rS {} [4] [100000, 100001, 100002] hN (by kernel_rfl) (by kernel_rfl) ?_
  refine tnU ?_
  refine WpC.conv (cS [.rn 100001 60001, .k [4] [60001, 100000, 100002], .rn 100002 60002, .k [4] [60001, 60002, 100000]] (by kernel_rfl) (by kernel_rfl)) (WpC.ret ?_)
  refine thenQ_ret ?_
  have hq := Option.some.inj h
  subst hq
  exact eR (by kernel_rfl) (by kernel_rfl)
 ·replace h := ite_f hc2 h
  refine WpC.conv (cS [.k [0, 3] [3, 100000, 100001, 100002]] (by kernel_rfl) (by kernel_rfl)) (WpC.skip ?_)
  refine tnU ?_
  refine WpC.seq ?_
  refine WpC.seq ?_
  obtain ⟨v3, hv3, h⟩ := bind_some h
  refine rS { its := [(1, .c (table_idle.ok O hO k (T_load_Rule.mk a2.f_Targets a2.f_Prereqs (T_attr_Attr.mk a2.f_Attr.f_Flags a2.f_Attr.f_Prog) a2.f_Recipe a2.f_File a2.f_Line) v3 hv3))] } [0, 3, 14] [3, 100000, 100001, 100002] hN (by kernel_rfl) (by kernel_rfl) ?_
  refine tnU ?_
  refine tS (b := v3) (by kernel_rfl) (fun hc4 => ?_) (fun hc4 => ?_)
  ·replace h := ite_t hc4 h
   refine WpC.seq ?_
   refine rS {} [4] [100000, 100001, 100002] hN (by kernel_rfl) (by kernel_rfl) ?_
   refine tnU ?_
   refine WpC.conv (cS [.nE 4, .k [4] [100000, 100001, 100002], .rn 100001 60001, .k [4] [60001, 100000, 100002], .rn 100002 60002, .k [4] [60001, 60002, 100000]] (by kernel_rfl) (by kernel_rfl)) (WpC.ret ?_)
   refine thenQ_ret ?_
   have hq := Option.some.inj h
   subst hq
   exact eR (by kernel_rfl) (by kernel_rfl)
  ·replace h := ite_f hc4 h
   refine WpC.conv (cS [.k [0, 3] [3, 100000, 100001, 100002]] (by kernel_rfl) (by kernel_rfl)) (WpC.skip ?_)
   refine tnU ?_
   refine WpC.seq ?_
   refine WpC.seq ?_
   obtain ⟨v5, hv5, h⟩ := bind_some h
   refine rS { its := [(5, .c (COk.ren (load_Rule_m0.ok O hO k a0 a2.f_Targets a2.f_Prereqs a2.f_Attr.f_Flags a2.f_Attr.f_Prog a2.f_Recipe a2.f_File a2.f_Line v5 hv5) (fun n => if n = 100000 then 100001 else if n = 100001 then 3 else n) (injOn_of (by kernel_rfl))))] } [0, 3, 6] [3, 100000, 100001, 100002] hN (by kernel_rfl) (by kernel_rfl) ?_
   refine tnU ?_
   refine WpC.seq ?_
   refine rS {} [0, 3, 6, 22] [3, 100000, 100001, 100002] hN (by kernel_rfl) (by kernel_rfl) ?_
   refine tnU ?_
   refine tS (b := (decide (v5 ≥ 0))) (by kernel_rfl) (fun hc6 => ?_) (fun hc6 => ?_)
   ·replace h := ite_t hc6 h
    refine WpC.seq ?_
    obtain ⟨v7, hv7, h⟩ := bind_some h
    obtain ⟨g8, h⟩ := if_some h
    obtain ⟨v9, hv9, h⟩ := bind_some h
    refine rAC { its := [(6, .c (table_apart.ok O hO k (T_load_Rule.mk a2.f_Targets a2.f_Prereqs (T_attr_Attr.mk a2.f_Attr.f_Flags a2.f_Attr.f_Prog) a2.f_Recipe a2.f_File a2.f_Line) v7 hv7)), (7, .g g8), (8, .v (.named 3) hv9)] } [] [100000, 100001, 100002] hN (by kernel_rfl) (by kernel_rfl) (by kernel_rfl) (cS [.k [] [100000, 100001, 100002], .x (Conv.cast (U := Un) (st := ⟨[], [(100000, .box [.vec 100001 7 0 a0.length, .vec 100002 1 0 a1.length]), (100001, .row 62 (.named 3) (upd a0 (0 + v5.toNat) v7) false), (100002, .row 3 I6 a1 false)]⟩) (st' := ⟨[], [(100000, .box [.vec 100001 7 0 ((upd a0 (0 + v5.toNat) v7).length), .vec 100002 1 0 a1.length]), (100001, .row 62 (.named 3) (upd a0 (0 + v5.toNat) v7) false), (100002, .row 3 I6 a1 false)]⟩) (by simp only [upd_length, List.length_nil, List.length_replicate]))] (by kernel_rfl) (by kernel_rfl)) ?_
    refine tnU ?_
    refine WpC.seq ?_
    refine rS {} [4] [100000, 100001, 100002] hN (by kernel_rfl) (by kernel_rfl) ?_
    refine tnU ?_
    refine WpC.conv (cS [.nE 4, .k [4] [100000, 100001, 100002], .rn 100001 60001, .k [4] [60001, 100000, 100002], .rn 100002 60002, .k [4] [60001, 60002, 100000]] (by kernel_rfl) (by kernel_rfl)) (WpC.ret ?_)
    refine thenQ_ret ?_
    have hq := Option.some.inj h
    subst hq
    exact eR (by kernel_rfl) (by kernel_rfl)
   ·replace h := ite_f hc6 h
    refine WpC.conv (cS [.k [0, 3] [3, 100000, 100001, 100002]] (by kernel_rfl) (by kernel_rfl)) (WpC.skip ?_)
    refine tnU ?_
    refine WpC.seq ?_
    obtain ⟨v10, hv10, h⟩ := bind_some h
    refine rS { its := [(1, .c (table_Kind.ok O hO k (T_load_Rule.mk a2.f_Targets a2.f_Prereqs (T_attr_Attr.mk a2.f_Attr.f_Flags a2.f_Attr.f_Prog) a2.f_Recipe a2.f_File a2.f_Line) v10 hv10))] } [0, 3, 7] [3, 100000, 100001, 100002] hN (by kernel_rfl) (by kernel_rfl) ?_
    refine tnU ?_
    refine sqJ (fun st' => table_Table_add_m0.j14 k a0 a1 a2 v10 = some out ∧ st' = ⟨[(0, .loc 100000 0), (3, .loc 3 0), (7, .p I6 v10)], [(3, .box [.p (.list .str) a2.f_Targets, .p (.list .str) a2.f_Prereqs, .p I6 a2.f_Attr.f_Flags, .p .str a2.f_Attr.f_Prog, .p .str a2.f_Recipe, .p .str a2.f_File, .p I6 a2.f_Line]), (100000, .box [.vec 100001 7 0 a0.length, .vec 100002 1 0 a1.length]), (100001, .row 62 (.named 3) a0 false), (100002, .row 3 I6 a1 false)]⟩) ?_ ?_
    ·refine sqJ (fun st' => ∃ v15 : Bool, table_Table_add_m0.j17 k a0 a1 a2 v10 v15 = some out ∧ st' = ⟨[(0, .loc 100000 0), (3, .loc 3 0), (7, .p I6 v10), (48, .p .bool v15)], [(3, .box [.p (.list .str) a2.f_Targets, .p (.list .str) a2.f_Prereqs, .p I6 a2.f_Attr.f_Flags, .p .str a2.f_Attr.f_Prog, .p .str a2.f_Recipe, .p .str a2.f_File, .p I6 a2.f_Line]), (100000, .box [.vec 100001 7 0 a0.length, .vec 100002 1 0 a1.length]), (100001, .row 62 (.named 3) a0 false), (100002, .row 3 I6 a1 false)]⟩) ?_ ?_
     ·rcases bool_cases (v10 != 0) with hc18 | hc18
      ·replace h := ite_t hc18 h
       obtain ⟨v19, hv19, h⟩ := bind_some h
       rcases bool_cases (decide ((v19.length : Int) ≥ 8)) with hc20 | hc20
       ·replace h := ite_t hc20 h
        refine rS { its := [(4, .c (COk.ren (table_Table_Metas_m0.ok O hO k a0 a1 v19 hv19) (fun n => if n = 100000 then 100000 else if n = 100001 then 100001 else if n = 100002 then 100002 else n) (injOn_of (by kernel_rfl))))], kn := [(35, .t hc18), (41, .t hc20)] } [0, 3, 7, 48] [3, 100000, 100001, 100002] hN (by kernel_rfl) (by kernel_rfl) ?_
        refine tnU ?_
        exact ⟨true, h, by kernel_rfl⟩
       ·replace h := ite_f hc20 h
        refine rS { its := [(4, .c (COk.ren (table_Table_Metas_m0.ok O hO k a0 a1 v19 hv19) (fun n => if n = 100000 then 100000 else if n = 100001 then 100001 else if n = 100002 then 100002 else n) (injOn_of (by kernel_rfl))))], kn := [(35, .t hc18), (41, .f hc20)] } [0, 3, 7, 48] [3, 100000, 100001, 100002] hN (by kernel_rfl) (by kernel_rfl) ?_
        refine tnU ?_
        exact ⟨(decide ((a0.length : Int) ≥ 24)), h, by kernel_rfl⟩
      ·replace h := ite_f hc18 h
       refine rS { kn := [(35, .f hc18)] } [0, 3, 7, 48] [3, 100000, 100001, 100002] hN (by kernel_rfl) (by kernel_rfl) ?_
       refine tnU ?_
       exact ⟨(decide ((a0.length : Int) ≥ 24)), h, by kernel_rfl⟩
     ·rintro _ ⟨v15, h, rfl⟩
      unfold table_Table_add_m0.j17 at h
      refine tS (b := v15) (by kernel_rfl) (fun hc16 => ?_) (fun hc16 => ?_)
      ·replace h := ite_t hc16 h
       refine WpC.seq ?_
       refine rS { its := [(0, .e 0 (sok_loadG (U := Un) (t := .err) (rs := []) rfl rfl ty_27 rfl rfl (hO.var 9 1 rfl) (fun S w => .err 9)))] } [4] [100000, 100001, 100002] hN (by kernel_rfl) (by kernel_rfl) ?_
       refine tnU ?_
       refine WpC.conv (cS [.rn 100001 60001, .k [4] [60001, 100000, 100002], .rn 100002 60002, .k [4] [60001, 60002, 100000]] (by kernel_rfl) (by kernel_rfl)) (WpC.ret ?_)
       refine thenQ_ret ?_
       have hq := Option.some.inj h
       subst hq
       exact eR (by kernel_rfl) (by kernel_rfl)
      ·replace h := ite_f hc16 h
       refine WpC.conv (cS [.k [0, 3, 7] [3, 100000, 100001, 100002]] (by kernel_rfl) (by kernel_rfl)) (WpC.skip ?_)
       refine tnU ?_
       exact ⟨h, by kernel_rfl⟩
    ·rintro _ ⟨h, rfl⟩
     unfold table_Table_add_m0.j14 at h
     refine WpC.seq ?_
     obtain ⟨v11, hv11, h⟩ := bind_some h
     obtain ⟨g12, h⟩ := if_some h
     obtain ⟨g13, h⟩ := if_some h
     refine rA { its := [(7, .c (table_apart.ok O hO k (T_load_Rule.mk a2.f_Targets a2.f_Prereqs (T_attr_Attr.mk a2.f_Attr.f_Flags a2.f_Attr.f_Prog) a2.f_Recipe a2.f_File a2.f_Line) v11 hv11)), (9, .g g12), (16, .g g13)] } [] [59, 66, 100000] hN (by kernel_rfl) (by kernel_rfl) (by kernel_rfl) ?_
     refine tnU ?_
     refine WpC.seq ?_
     refine rS {} [4] [59, 66, 100000] hN (by kernel_rfl) (by kernel_rfl) ?_
     refine tnU ?_
     refine WpC.conv (cS [.nE 4, .k [4] [59, 66, 100000], .rn 59 60001, .k [4] [66, 60001, 100000], .rn 66 60002, .k [4] [60001, 60002, 100000]] (by kernel_rfl) (by kernel_rfl)) (WpC.ret ?_)
     have hq := Option.some.inj h
     subst hq
     exact eR (by kernel_rfl) (by kernel_rfl)

theorem table_New.ok (O : Out) (hO : GOkE O) (k : Nat) (a0 : List T_load_Rule) (out : Bool × (List T_load_Rule) × (List Int) × Nat) (h : table_New.f k a0 = some out) : COk Un O Tryz.prog 8 { ar := [.p (.list (.named 3)) a0], r := .tup [.opt out.1 60500, .p .err out.2.2.2], bs' := [(60500, .opt out.1 (.box [.vec 60501 7 0 out.2.1.length, .vec 60502 1 0 out.2.2.1.length])), (60501, .opt out.1 (.row 62 (.named 3) out.2.1 false)), (60502, .opt out.1 (.row 3 I6 out.2.2.1 false))], nn := [60500, 60501, 60502] } := by
 refine cok_of_wp Tryz.func8 rfl (k := 31) rfl (Nat.le_of_ble_eq_true rfl) (namesOk_of (by kernel_rfl)) ?_
 intro B hN
 refine WpC.conv (cvK (b := ⟨[(0, .p (.list (.named 3)) a0)], []⟩) [0] [] (by kernel_rfl)) ?_
 unfold table_New.f at h
 refine WpC.seq ?_
 refine rS {} [0] [] hN (by kernel_rfl) (by kernel_rfl) ?_
 refine tnU ?_
 refine WpC.seq ?_
 refine rS { th := [(1, [(0, 10001, 62, .named 3), (1, 10002, 3, .int .i64)])] } [0, 4] [9, 10001, 10002] hN (by kernel_rfl) (by kernel_rfl) ?_
 refine tnU ?_
 refine sqJ (fun st' => ∃ v1 : List T_load_Rule, ∃ v2 : List Int, table_New.j3 k v1 v2 = some out ∧ st' = ⟨[(4, .loc 9 0)], [(9, .box [.vec 62576 7 0 v1.length, .vec 62577 1 0 v2.length]), (62576, .row 62 (.named 3) v1 false), (62577, .row 3 I6 v2 false)]⟩) ?_ ?_
 ·refine WpC.seq ?_
  refine rS {} [4, 10, 11, 12] [9, 10001, 10002] hN (by kernel_rfl) (by kernel_rfl) ?_
  refine tnU ?_
  refine WpC.block ?_
  obtain ⟨o10, hlo10, h⟩ := bind_some h
  have hout11 := h
  clear h
  refine WpC.conv (cS [.rn 10001 62576, .k [4, 10, 11, 12] [9, 10002, 62576], .rn 10002 62577, .k [4, 10, 11, 12] [9, 62576, 62577]] (by kernel_rfl) (by kernel_rfl)) ?_
  refine WpC.loop (U := Un) (fun n st' => ∃ v4 : List T_load_Rule, ∃ v5 : List Int, ∃ v6 : Int, table_New.l7 k a0 n v4 v5 v6 = some o10 ∧ st' = ⟨[(4, .loc 9 0), (10, .p (.list (.named 3)) a0), (11, .p I6 ((a0.length : Int) : Int)), (12, .p I6 v6)], [(9, .box [.vec 62576 7 0 v4.length, .vec 62577 1 0 v5.length]), (62576, .row 62 (.named 3) v4 false), (62577, .row 3 I6 v5 false)]⟩) k ⟨[], [], 0, hlo10, by kernel_rfl⟩ ?_
  clear hlo10
  rintro (_ | n) _ ⟨v4, v5, v6, h, rfl⟩
  ·cases h
  ·rw [table_New.l7] at h
   refine WpC.seq ?_
   refine rS {} [4, 10, 11, 12, 13] [9, 62576, 62577] hN (by kernel_rfl) (by kernel_rfl) ?_
   refine tnU ?_
   refine WpC.seq ?_
   refine tS (b := (decide (v6 < (a0.length : Int)))) (by kernel_rfl) (fun hc12 => ?_) (fun hc12 => ?_)
   ·replace h := ite_t hc12 h
    refine WpC.conv (cS [.k [4, 10, 11, 12] [9, 62576, 62577]] (by kernel_rfl) (by kernel_rfl)) (WpC.skip ?_)
    refine tnU ?_
    refine WpC.seq ?_
    refine WpC.block ?_
    refine WpC.seq ?_
    obtain ⟨v13, hv13, h⟩ := bind_some h
    refine rS { its := [(0, .v (.named 3) hv13)] } [4, 6, 10, 11, 12] [6, 9, 62576, 62577] hN (by kernel_rfl) (by kernel_rfl) ?_
    refine tnU ?_
    refine WpC.seq ?_
    obtain ⟨v14, hv14, h⟩ := bind_some h
    refine rS { its := [(2, .c (COk.ren (table_Table_add_m0.ok O hO k v4 v5 (T_load_Rule.mk v13.f_Targets v13.f_Prereqs (T_attr_Attr.mk v13.f_Attr.f_Flags v13.f_Attr.f_Prog) v13.f_Recipe v13.f_File v13.f_Line) v14 hv14) (fun n => if n = 60001 then 10003 else if n = 60002 then 10004 else if n = 100000 then 9 else if n = 100001 then 62576 else if n = 100002 then 62577 else n) (injOn_of (by kernel_rfl))))] } [4, 6, 7, 10, 11, 12] [6, 9, 10003, 10004] hN (by kernel_rfl) (by kernel_rfl) ?_
    refine tnU ?_
    refine WpC.seq ?_
    refine rS {} [4, 6, 7, 10, 11, 12, 20] [6, 9, 10003, 10004] hN (by kernel_rfl) (by kernel_rfl) ?_
    refine tnU ?_
    refine tS (b := (!(v14.1 == 0))) (by kernel_rfl) (fun hc15 => ?_) (fun hc15 => ?_)
    ·replace h := ite_t hc15 h
     refine WpC.seq ?_
     refine rA { its := [(7, .e 7 (sok_mkErr (U := Un) (rs := []) rfl rfl Tryz.underlying88 rfl))] } [2, 3] [] hN (by kernel_rfl) (by kernel_rfl) (by kernel_rfl) ?_
     refine tnU ?_
     refine WpC.conv (cS [.oN 60501 (.row 62 (.named 3) [] false), .k [2, 3] [60501], .oN 60502 (.row 3 I6 [] false), .k [2, 3] [60501, 60502], .oN 60500 (.box [.vec 60501 7 0 0, .vec 60502 1 0 0]), .k [2, 3] [60500, 60501, 60502], .oZ 2 60500, .k [2, 3] [60500, 60501, 60502]] (by kernel_rfl) (by kernel_rfl)) (WpC.ret ?_)
     refine blockQ_ret ?_
     refine thenQ_ret ?_
     have hq := Option.some.inj h
     subst hq
     refine thenQ_ret ?_
     have h := hout11
     refine blockQ_ret ?_
     refine thenQ_ret ?_
     have hq := Option.some.inj h
     subst hq
     exact eR (by kernel_rfl) (by kernel_rfl)
    ·replace h := ite_f hc15 h
     refine WpC.conv (cS [.k [4, 10, 11, 12] [9, 10003, 10004]] (by kernel_rfl) (by kernel_rfl)) (WpC.skip ?_)
     refine blockQ_normal ?_
     refine tnU ?_
     refine rSC {} [4, 10, 11, 12] [9, 10003, 10004] hN (by kernel_rfl) (by kernel_rfl) (cS [.rn 10003 62576, .k [4, 10, 11, 12] [9, 10004, 62576], .rn 10004 62577, .k [4, 10, 11, 12] [9, 62576, 62577]] (by kernel_rfl) (by kernel_rfl)) ?_
     refine tnU ?_
     exact ⟨n, Nat.lt_succ_self n, v14.2.1, v14.2.2, (IntKind.i64.wrap (v6 + 1)), h, by kernel_rfl⟩
   ·replace h := ite_f hc12 h
    refine WpC.conv (cS [.k [4] [9, 62576, 62577]] (by kernel_rfl) (by kernel_rfl)) (WpC.exit ?_)
    refine thenQ_exit ?_
    have hq := Option.some.inj h
    subst hq
    refine thenQ_exit ?_
    have h := hout11
    refine blockQ_hit ?_
    refine tnU ?_
    exact ⟨v4, v5, h, by kernel_rfl⟩
 ·rintro _ ⟨v1, v2, h, rfl⟩
  unfold table_New.j3 at h
  refine WpC.seq ?_
  refine rS {} [2, 3] [9, 62576, 62577] hN (by kernel_rfl) (by kernel_rfl) ?_
  refine tnU ?_
  refine WpC.conv (cS [.nE 3, .k [2, 3] [9, 62576, 62577], .rn 62576 60501, .k [2, 3] [9, 60501, 62577], .rn 62577 60502, .k [2, 3] [9, 60501, 60502], .rn 9 60500, .k [2, 3] [60500, 60501, 60502], .oB 60500, .k [2, 3] [60500, 60501, 60502], .oB 60501, .k [2, 3] [60500, 60501, 60502], .oB 60502, .k [2, 3] [60500, 60501, 60502], .oL 2, .k [2, 3] [60500, 60501, 60502]] (by kernel_rfl) (by kernel_rfl)) (WpC.ret ?_)
  have hq := Option.some.inj h
  subst hq
  exact eR (by kernel_rfl) (by kernel_rfl)

theorem table_Table_there_m0.ok (O : Out) (hO : GOkE O) (k : Nat) (a0 : List T_load_Rule) (a1 : List Int) (a2 : Int) (out : Bool) (h : table_Table_there_m0.f k a0 a1 a2 = some out) : COk Un O Tryz.prog 45 { ar := [.loc 100000 0, .p I6 a2], r := .p .bool out, bs := [(100000, .box [.vec 100001 7 0 a0.length, .vec 100002 1 0 a1.length]), (100001, .row 62 (.named 3) a0 false), (100002, .row 3 I6 a1 false)], bs' := [(100000, .box [.vec 100001 7 0 a0.length, .vec 100002 1 0 a1.length]), (100001, .row 62 (.named 3) a0 false), (100002, .row 3 I6 a1 false)] } := by
 refine cok_of_wp Tryz.func45 rfl (k := 16) rfl (Nat.le_of_ble_eq_true rfl) (namesOk_of (by kernel_rfl)) ?_
 intro B hN
 refine WpC.conv (cvK (b := ⟨[(0, .loc 100000 0), (1, .p I6 a2)], [(100000, .box [.vec 100001 7 0 a0.length, .vec 100002 1 0 a1.length]), (100001, .row 62 (.named 3) a0 false), (100002, .row 3 I6 a1 false)]⟩) [0, 1] [100000, 100001, 100002] (by kernel_rfl)) ?_
 unfold table_Table_there_m0.f at h
 refine WpC.seq ?_
 refine rS {} [0, 1] [100000, 100001, 100002] hN (by kernel_rfl) (by kernel_rfl) ?_
 refine tnU ?_
 refine WpC.seq ?_
 rcases bool_cases (decide (a2 ≥ 0)) with hc1 | hc1
 ·replace h := ite_t hc1 h
  refine rS { kn := [(7, .t hc1)] } [4] [100000, 100001, 100002] hN (by kernel_rfl) (by kernel_rfl) ?_
  refine tnU ?_
  refine WpC.ret ?_
  have hq := Option.some.inj h
  subst hq
  exact eR (by kernel_rfl) (by kernel_rfl)
 ·replace h := ite_f hc1 h
  refine rS { kn := [(7, .f hc1)] } [4] [100000, 100001, 100002] hN (by kernel_rfl) (by kernel_rfl) ?_
  refine tnU ?_
  refine WpC.ret ?_
  have hq := Option.some.inj h
  subst hq
  exact eR (by kernel_rfl) (by kernel_rfl)

theorem table_Table_Rule_m0.ok (O : Out) (hO : GOkE O) (k : Nat) (a0 : List T_load_Rule) (a1 : List Int) (a2 : Int) (out : T_load_Rule × Bool) (h : table_Table_Rule_m0.f k a0 a1 a2 = some out) : COk Un O Tryz.prog 34 { ar := [.loc 100000 0, .p I6 a2], r := .tup [.p (.named 3) out.1, .p .bool out.2], bs := [(100000, .box [.vec 100001 7 0 a0.length, .vec 100002 1 0 a1.length]), (100001, .row 62 (.named 3) a0 false), (100002, .row 3 I6 a1 false)], bs' := [(100000, .box [.vec 100001 7 0 a0.length, .vec 100002 1 0 a1.length]), (100001, .row 62 (.named 3) a0 false), (100002, .row 3 I6 a1 false)] } := by
 refine cok_of_wp Tryz.func34 rfl (k := 19) rfl (Nat.le_of_ble_eq_true rfl) (namesOk_of (by kernel_rfl)) ?_
 intro B hN
 refine WpC.conv (cvK (b := ⟨[(0, .loc 100000 0), (1, .p I6 a2)], [(100000, .box [.vec 100001 7 0 a0.length, .vec 100002 1 0 a1.length]), (100001, .row 62 (.named 3) a0 false), (100002, .row 3 I6 a1 false)]⟩) [0, 1] [100000, 100001, 100002] (by kernel_rfl)) ?_
 unfold table_Table_Rule_m0.f at h
 refine WpC.seq ?_
 refine rS {} [0, 1, 4] [4, 100000, 100001, 100002] hN (by kernel_rfl) (by kernel_rfl) ?_
 refine tnU ?_
 refine WpC.seq ?_
 refine WpC.seq ?_
 obtain ⟨v1, hv1, h⟩ := bind_some h
 refine rS { its := [(2, .c (COk.ren (table_Table_there_m0.ok O hO k a0 a1 a2 v1 hv1) (fun n => if n = 100000 then 100000 else if n = 100001 then 100001 else if n = 100002 then 100002 else n) (injOn_of (by kernel_rfl))))] } [0, 1, 4, 9] [4, 100000, 100001, 100002] hN (by kernel_rfl) (by kernel_rfl) ?_
 refine tnU ?_
 refine tS (b := (!v1)) (by kernel_rfl) (fun hc2 => ?_) (fun hc2 => ?_)
 ·replace h := ite_t hc2 h
  refine WpC.seq ?_
  refine rS {} [4, 5] [4, 100000, 100001, 100002] hN (by kernel_rfl) (by kernel_rfl) ?_
  refine tnU ?_
  refine WpC.ret ?_
  refine thenQ_ret ?_
  have hq := Option.some.inj h
  subst hq
  exact eR (by kernel_rfl) (by kernel_rfl)
 ·replace h := ite_f hc2 h
  refine WpC.conv (cS [.k [0, 1, 4] [4, 100000, 100001, 100002]] (by kernel_rfl) (by kernel_rfl)) (WpC.skip ?_)
  refine tnU ?_
  refine WpC.seq ?_
  obtain ⟨g3, h⟩ := if_some h
  obtain ⟨v4, hv4, h⟩ := bind_some h
  obtain ⟨v5, hv5, h⟩ := bind_some h
  refine rS { its := [(5, .g g3), (6, .v (.named 3) hv4), (7, .c (table_apart.ok O hO k v4 v5 hv5))] } [4, 5] [4, 100000, 100001, 100002] hN (by kernel_rfl) (by kernel_rfl) ?_
  refine tnU ?_
  refine WpC.ret ?_
  have hq := Option.some.inj h
  subst hq
  exact eR (by kernel_rfl) (by kernel_rfl)

theorem table_Table_Kind_m0.ok (O : Out) (hO : GOkE O) (k : Nat) (a0 : List T_load_Rule) (a1 : List Int) (a2 : Int) (out : Int) (h : table_Table_Kind_m0.f k a0 a1 a2 = some out) : COk Un O Tryz.prog 14 { ar := [.loc 100000 0, .p I6 a2], r := .p I6 out, bs := [(100000, .box [.vec 100001 7 0 a0.length, .vec 100002 1 0 a1.length]), (100001, .row 62 (.named 3) a0 false), (100002, .row 3 I6 a1 false)], bs' := [(100000, .box [.vec 100001 7 0 a0.length, .vec 100002 1 0 a1.length]), (100001, .row 62 (.named 3) a0 false), (100002, .row 3 I6 a1 false)] } := by
 refine cok_of_wp Tryz.func14 rfl (k := 16) rfl (Nat.le_of_ble_eq_true rfl) (namesOk_of (by kernel_rfl)) ?_
 intro B hN
 refine WpC.conv (cvK (b := ⟨[(0, .loc 100000 0), (1, .p I6 a2)], [(100000, .box [.vec 100001 7 0 a0.length, .vec 100002 1 0 a1.length]), (100001, .row 62 (.named 3) a0 false), (100002, .row 3 I6 a1 false)]⟩) [0, 1] [100000, 100001, 100002] (by kernel_rfl)) ?_
 unfold table_Table_Kind_m0.f at h
 refine WpC.seq ?_
 refine rS {} [0, 1] [100000, 100001, 100002] hN (by kernel_rfl) (by kernel_rfl) ?_
 refine tnU ?_
 refine WpC.seq ?_
 refine WpC.seq ?_
 obtain ⟨v1, hv1, h⟩ := bind_some h
 refine rS { its := [(2, .c (COk.ren (table_Table_there_m0.ok O hO k a0 a1 a2 v1 hv1) (fun n => if n = 100000 then 100000 else if n = 100001 then 100001 else if n = 100002 then 100002 else n) (injOn_of (by kernel_rfl))))] } [0, 1, 8] [100000, 100001, 100002] hN (by kernel_rfl) (by kernel_rfl) ?_
 refine tnU ?_
 refine tS (b := (!v1)) (by kernel_rfl) (fun hc2 => ?_) (fun hc2 => ?_)
 ·replace h := ite_t hc2 h
  refine WpC.seq ?_
  refine rS {} [4] [100000, 100001, 100002] hN (by kernel_rfl) (by kernel_rfl) ?_
  refine tnU ?_
  refine WpC.ret ?_
  refine thenQ_ret ?_
  have hq := Option.some.inj h
  subst hq
  exact eR (by kernel_rfl) (by kernel_rfl)
 ·replace h := ite_f hc2 h
  refine WpC.conv (cS [.k [0, 1] [100000, 100001, 100002]] (by kernel_rfl) (by kernel_rfl)) (WpC.skip ?_)
  refine tnU ?_
  refine WpC.seq ?_
  obtain ⟨g3, h⟩ := if_some h
  obtain ⟨v4, hv4, h⟩ := bind_some h
  refine rS { its := [(5, .g g3), (6, .v I6 hv4)] } [4] [100000, 100001, 100002] hN (by kernel_rfl) (by kernel_rfl) ?_
  refine tnU ?_
  refine WpC.ret ?_
  have hq := Option.some.inj h
  subst hq
  exact eR (by kernel_rfl) (by kernel_rfl)

theorem stringslite_HasPrefix.ok (O : Out) (hO : GOkE O) (k : Nat) (a0 : List UInt8) (a1 : List UInt8) (out : Bool) (h : stringslite_HasPrefix.f k a0 a1 = some out) : COk Un O Tryz.prog 173 { ar := [.p .str a0, .p .str a1], r := .p .bool out } := by
 refine cok_of_wp Tryz.func173 rfl (k := 18) rfl (Nat.le_of_ble_eq_true rfl) (namesOk_pure rfl rfl rfl rfl) ?_
 intro B hN
 refine WpC.conv (cvK (b := ⟨[(0, .p .str a0), (1, .p .str a1)], []⟩) [0, 1] [] (by kernel_rfl)) ?_
 unfold stringslite_HasPrefix.f at h
 refine WpC.seq ?_
 refine rS {} [0, 1] [] hN (by kernel_rfl) (by kernel_rfl) ?_
 refine tnU ?_
 refine WpC.seq ?_
 rcases bool_cases (decide ((a0.length : Int) ≥ (a1.length : Int))) with hc1 | hc1
 ·replace h := ite_t hc1 h
  obtain ⟨v2, hv2, h⟩ := bind_some h
  refine rS { its := [(9, .v .str hv2)], kn := [(10, .t hc1)] } [4] [] hN (by kernel_rfl) (by kernel_rfl) ?_
  refine tnU ?_
  refine WpC.ret ?_
  have hq := Option.some.inj h
  subst hq
  exact eR (by kernel_rfl) (by kernel_rfl)
 ·replace h := ite_f hc1 h
  refine rS { kn := [(10, .f hc1)] } [4] [] hN (by kernel_rfl) (by kernel_rfl) ?_
  refine tnU ?_
  refine WpC.ret ?_
  have hq := Option.some.inj h
  subst hq
  exact eR (by kernel_rfl) (by kernel_rfl)

theorem stringslite_CutPrefix.ok (O : Out) (hO : GOkE O) (k : Nat) (a0 : List UInt8) (a1 : List UInt8) (out : (List UInt8) × Bool) (h : stringslite_CutPrefix.f k a0 a1 = some out) : COk Un O Tryz.prog 151 { ar := [.p .str a0, .p .str a1], r := .tup [.p .str out.1, .p .bool out.2] } := by
 refine cok_of_wp Tryz.func151 rfl (k := 15) rfl (Nat.le_of_ble_eq_true rfl) (namesOk_pure rfl rfl rfl rfl) ?_
 intro B hN
 refine WpC.conv (cvK (b := ⟨[(0, .p .str a0), (1, .p .str a1)], []⟩) [0, 1] [] (by kernel_rfl)) ?_
 unfold stringslite_CutPrefix.f at h
 refine WpC.seq ?_
 refine rS {} [0, 1] [] hN (by kernel_rfl) (by kernel_rfl) ?_
 refine tnU ?_
 refine WpC.seq ?_
 refine WpC.seq ?_
 obtain ⟨v1, hv1, h⟩ := bind_some h
 refine rS { its := [(2, .c (stringslite_HasPrefix.ok O hO k a0 a1 v1 hv1))] } [0, 1, 9] [] hN (by kernel_rfl) (by kernel_rfl) ?_
 refine tnU ?_
 refine tS (b := (!v1)) (by kernel_rfl) (fun hc2 => ?_) (fun hc2 => ?_)
 ·replace h := ite_t hc2 h
  refine WpC.seq ?_
  refine rS {} [4, 5] [] hN (by kernel_rfl) (by kernel_rfl) ?_
  refine tnU ?_
  refine WpC.ret ?_
  refine thenQ_ret ?_
  have hq := Option.some.inj h
  subst hq
  exact eR (by kernel_rfl) (by kernel_rfl)
 ·replace h := ite_f hc2 h
  refine WpC.conv (cS [.k [0, 1] []] (by kernel_rfl) (by kernel_rfl)) (WpC.skip ?_)
  refine tnU ?_
  refine WpC.seq ?_
  obtain ⟨v3, hv3, h⟩ := bind_some h
  refine rS { its := [(3, .v .str hv3)] } [4, 5] [] hN (by kernel_rfl) (by kernel_rfl) ?_
  refine tnU ?_
  refine WpC.ret ?_
  have hq := Option.some.inj h
  subst hq
  exact eR (by kernel_rfl) (by kernel_rfl)

theorem strings_CutPrefix.ok (O : Out) (hO : GOkE O) (k : Nat) (a0 : List UInt8) (a1 : List UInt8) (out : (List UInt8) × Bool) (h : strings_CutPrefix.f k a0 a1 = some out) : COk Un O Tryz.prog 126 { ar := [.p .str a0, .p .str a1], r := .tup [.p .str out.1, .p .bool out.2] } := by
 refine cok_of_wp Tryz.func126 rfl (k := 11) rfl (Nat.le_of_ble_eq_true rfl) (namesOk_pure rfl rfl rfl rfl) ?_
 intro B hN
 refine WpC.conv (cvK (b := ⟨[(0, .p .str a0), (1, .p .str a1)], []⟩) [0, 1] [] (by kernel_rfl)) ?_
 unfold strings_CutPrefix.f at h
 refine WpC.seq ?_
 refine rS {} [0, 1] [] hN (by kernel_rfl) (by kernel_rfl) ?_
 refine tnU ?_
 refine WpC.seq ?_
 obtain ⟨v1, hv1, h⟩ := bind_some h
 refine rS { its := [(2, .c (stringslite_CutPrefix.ok O hO k a0 a1 v1 hv1))] } [4, 5] [] hN (by kernel_rfl) (by kernel_rfl) ?_
 refine tnU ?_
 refine WpC.ret ?_
 have hq := Option.some.inj h
 subst hq
 exact eR (by kernel_rfl) (by kernel_rfl)

theorem stringslite_HasSuffix.ok (O : Out) (hO : GOkE O) (k : Nat) (a0 : List UInt8) (a1 : List UInt8) (out : Bool) (h : stringslite_HasSuffix.f k a0 a1 = some out) : COk Un O Tryz.prog 174 { ar := [.p .str a0, .p .str a1], r := .p .bool out } := by
 refine cok_of_wp Tryz.func174 rfl (k := 21) rfl (Nat.le_of_ble_eq_true rfl) (namesOk_pure rfl rfl rfl rfl) ?_
 intro B hN
 refine WpC.conv (cvK (b := ⟨[(0, .p .str a0), (1, .p .str a1)], []⟩) [0, 1] [] (by kernel_rfl)) ?_
 unfold stringslite_HasSuffix.f at h
 refine WpC.seq ?_
 refine rS {} [0, 1] [] hN (by kernel_rfl) (by kernel_rfl) ?_
 refine tnU ?_
 refine WpC.seq ?_
 rcases bool_cases (decide ((a0.length : Int) ≥ (a1.length : Int))) with hc1 | hc1
 ·replace h := ite_t hc1 h
  obtain ⟨v2, hv2, h⟩ := bind_some h
  refine rS { its := [(12, .v .str hv2)], kn := [(10, .t hc1)] } [4] [] hN (by kernel_rfl) (by kernel_rfl) ?_
  refine tnU ?_
  refine WpC.ret ?_
  have hq := Option.some.inj h
  subst hq
  exact eR (by kernel_rfl) (by kernel_rfl)
 ·replace h := ite_f hc1 h
  refine rS { kn := [(10, .f hc1)] } [4] [] hN (by kernel_rfl) (by kernel_rfl) ?_
  refine tnU ?_
  refine WpC.ret ?_
  have hq := Option.some.inj h
  subst hq
  exact eR (by kernel_rfl) (by kernel_rfl)

theorem stringslite_CutSuffix.ok (O : Out) (hO : GOkE O) (k : Nat) (a0 : List UInt8) (a1 : List UInt8) (out : (List UInt8) × Bool) (h : stringslite_CutSuffix.f k a0 a1 = some out) : COk Un O Tryz.prog 152 { ar := [.p .str a0, .p .str a1], r := .tup [.p .str out.1, .p .bool out.2] } := by
 refine cok_of_wp Tryz.func152 rfl (k := 18) rfl (Nat.le_of_ble_eq_true rfl) (namesOk_pure rfl rfl rfl rfl) ?_
 intro B hN
 refine WpC.conv (cvK (b := ⟨[(0, .p .str a0), (1, .p .str a1)], []⟩) [0, 1] [] (by kernel_rfl)) ?_
 unfold stringslite_CutSuffix.f at h
 refine WpC.seq ?_
 refine rS {} [0, 1] [] hN (by kernel_rfl) (by kernel_rfl) ?_
 refine tnU ?_
 refine WpC.seq ?_
 refine WpC.seq ?_
 obtain ⟨v1, hv1, h⟩ := bind_some h
 refine rS { its := [(2, .c (stringslite_HasSuffix.ok O hO k a0 a1 v1 hv1))] } [0, 1, 9] [] hN (by kernel_rfl) (by kernel_rfl) ?_
 refine tnU ?_
 refine tS (b := (!v1)) (by kernel_rfl) (fun hc2 => ?_) (fun hc2 => ?_)
 ·replace h := ite_t hc2 h
  refine WpC.seq ?_
  refine rS {} [4, 5] [] hN (by kernel_rfl) (by kernel_rfl) ?_
  refine tnU ?_
  refine WpC.ret ?_
  refine thenQ_ret ?_
  have hq := Option.some.inj h
  subst hq
  exact eR (by kernel_rfl) (by kernel_rfl)
 ·replace h := ite_f hc2 h
  refine WpC.conv (cS [.k [0, 1] []] (by kernel_rfl) (by kernel_rfl)) (WpC.skip ?_)
  refine tnU ?_
  refine WpC.seq ?_
  obtain ⟨v3, hv3, h⟩ := bind_some h
  refine rS { its := [(6, .v .str hv3)] } [4, 5] [] hN (by kernel_rfl) (by kernel_rfl) ?_
  refine tnU ?_
  refine WpC.ret ?_
  have hq := Option.some.inj h
  subst hq
  exact eR (by kernel_rfl) (by kernel_rfl)

theorem strings_CutSuffix.ok (O : Out) (hO : GOkE O) (k : Nat) (a0 : List UInt8) (a1 : List UInt8) (out : (List UInt8) × Bool) (h : strings_CutSuffix.f k a0 a1 = some out) : COk Un O Tryz.prog 127 { ar := [.p .str a0, .p .str a1], r := .tup [.p .str out.1, .p .bool out.2] } := by
 refine cok_of_wp Tryz.func127 rfl (k := 11) rfl (Nat.le_of_ble_eq_true rfl) (namesOk_pure rfl rfl rfl rfl) ?_
 intro B hN
 refine WpC.conv (cvK (b := ⟨[(0, .p .str a0), (1, .p .str a1)], []⟩) [0, 1] [] (by kernel_rfl)) ?_
 unfold strings_CutSuffix.f at h
 refine WpC.seq ?_
 refine rS {} [0, 1] [] hN (by kernel_rfl) (by kernel_rfl) ?_
 refine tnU ?_
 refine WpC.seq ?_
 obtain ⟨v1, hv1, h⟩ := bind_some h
 refine rS { its := [(2, .c (stringslite_CutSuffix.ok O hO k a0 a1 v1 hv1))] } [4, 5] [] hN (by kernel_rfl) (by kernel_rfl) ?_
 refine tnU ?_
 refine WpC.ret ?_
 have hq := Option.some.inj h
 subst hq
 exact eR (by kernel_rfl) (by kernel_rfl)

theorem stem_Narrow.ok (O : Out) (hO : GOkE O) (k : Nat) (a0 : List UInt8) (out : Bool) (h : stem_Narrow.f k a0 = some out) : COk Un O Tryz.prog 128 { ar := [.p .str a0], r := .p .bool out } := by
 refine cok_of_wp Tryz.func128 rfl (k := 11) rfl (Nat.le_of_ble_eq_true rfl) (namesOk_pure rfl rfl rfl rfl) ?_
 intro B hN
 refine WpC.conv (cvK (b := ⟨[(0, .p .str a0)], []⟩) [0] [] (by kernel_rfl)) ?_
 unfold stem_Narrow.f at h
 refine WpC.seq ?_
 refine rS {} [0] [] hN (by kernel_rfl) (by kernel_rfl) ?_
 refine tnU ?_
 refine WpC.seq ?_
 obtain ⟨v1, hv1, h⟩ := bind_some h
 rcases bool_cases (decide (v1 < 0)) with hc2 | hc2
 ·replace h := ite_t hc2 h
  obtain ⟨v3, hv3, h⟩ := bind_some h
  refine rS { its := [(1, .c (pIndexByte.ok O hO k a0 46 v1 hv1)), (5, .c (pIndexByte.ok O hO k a0 47 v3 hv3))], kn := [(6, .t hc2)] } [2] [] hN (by kernel_rfl) (by kernel_rfl) ?_
  refine tnU ?_
  refine WpC.ret ?_
  have hq := Option.some.inj h
  subst hq
  exact eR (by kernel_rfl) (by kernel_rfl)
 ·replace h := ite_f hc2 h
  refine rS { its := [(1, .c (pIndexByte.ok O hO k a0 46 v1 hv1))], kn := [(6, .f hc2)] } [2] [] hN (by kernel_rfl) (by kernel_rfl) ?_
  refine tnU ?_
  refine WpC.ret ?_
  have hq := Option.some.inj h
  subst hq
  exact eR (by kernel_rfl) (by kernel_rfl)

theorem stem_Match.ok (O : Out) (hO : GOkE O) (k : Nat) (a0 : List UInt8) (a1 : List UInt8) (out : (List UInt8) × Bool) (h : stem_Match.f k a0 a1 = some out) : COk Un O Tryz.prog 106 { ar := [.p .str a0, .p .str a1], r := .tup [.p .str out.1, .p .bool out.2] } := by
 refine cok_of_wp Tryz.func106 rfl (k := 53) rfl (Nat.le_of_ble_eq_true rfl) (namesOk_pure rfl rfl rfl rfl) ?_
 intro B hN
 refine WpC.conv (cvK (b := ⟨[(0, .p .str a0), (1, .p .str a1)], []⟩) [0, 1] [] (by kernel_rfl)) ?_
 unfold stem_Match.f at h
 refine WpC.seq ?_
 refine rS {} [0, 1] [] hN (by kernel_rfl) (by kernel_rfl) ?_
 refine tnU ?_
 refine WpC.seq ?_
 obtain ⟨v1, hv1, h⟩ := bind_some h
 refine rS { its := [(1, .c (stem_Wild.ok O hO k a0 v1 hv1))] } [0, 1, 6] [] hN (by kernel_rfl) (by kernel_rfl) ?_
 refine tnU ?_
 refine WpC.seq ?_
 refine WpC.seq ?_
 refine rS {} [0, 1, 6, 14] [] hN (by kernel_rfl) (by kernel_rfl) ?_
 refine tnU ?_
 refine tS (b := (decide (v1 < 0))) (by kernel_rfl) (fun hc2 => ?_) (fun hc2 => ?_)
 ·replace h := ite_t hc2 h
  refine WpC.seq ?_
  refine rS {} [4, 5] [] hN (by kernel_rfl) (by kernel_rfl) ?_
  refine tnU ?_
  refine WpC.ret ?_
  refine thenQ_ret ?_
  have hq := Option.some.inj h
  subst hq
  exact eR (by kernel_rfl) (by kernel_rfl)
 ·replace h := ite_f hc2 h
  refine WpC.conv (cS [.k [0, 1, 6] []] (by kernel_rfl) (by kernel_rfl)) (WpC.skip ?_)
  refine tnU ?_
  refine WpC.seq ?_
  obtain ⟨v3, hv3, h⟩ := bind_some h
  obtain ⟨v4, hv4, h⟩ := bind_some h
  refine rS { its := [(3, .v .str hv3), (4, .c (strings_CutPrefix.ok O hO k a1 v3 v4 hv4))] } [0, 6, 7, 8] [] hN (by kernel_rfl) (by kernel_rfl) ?_
  refine tnU ?_
  refine WpC.seq ?_
  obtain ⟨v5, hv5, h⟩ := bind_some h
  obtain ⟨v6, hv6, h⟩ := bind_some h
  refine rS { its := [(4, .v .str hv5), (5, .c (strings_CutSuffix.ok O hO k v4.1 v5 v6 hv6))] } [0, 6, 8, 9, 10] [] hN (by kernel_rfl) (by kernel_rfl) ?_
  refine tnU ?_
  refine sqJ (fun st' => stem_Match.j7 k v6 = some out ∧ st' = ⟨[(9, .p .str v6.1)], []⟩) ?_ ?_
  ·refine sqJ (fun st' => ∃ v8 : Bool, stem_Match.j10 k v6 v8 = some out ∧ st' = ⟨[(9, .p .str v6.1), (51, .p .bool v8)], []⟩) ?_ ?_
   ·rcases bool_cases (!v4.2) with hc11 | hc11
    ·replace h := ite_t hc11 h
     refine rS { kn := [(37, .t hc11)] } [9, 51] [] hN (by kernel_rfl) (by kernel_rfl) ?_
     refine tnU ?_
     exact ⟨true, h, by kernel_rfl⟩
    ·replace h := ite_f hc11 h
     rcases bool_cases (!v6.2) with hc12 | hc12
     ·replace h := ite_t hc12 h
      refine rS { kn := [(37, .f hc11), (41, .t hc12)] } [9, 51] [] hN (by kernel_rfl) (by kernel_rfl) ?_
      refine tnU ?_
      exact ⟨true, h, by kernel_rfl⟩
     ·replace h := ite_f hc12 h
      obtain ⟨v13, hv13, h⟩ := bind_some h
      rcases bool_cases ((v13.toNat : Int) == 38) with hc14 | hc14
      ·replace h := ite_t hc14 h
       obtain ⟨v15, hv15, h⟩ := bind_some h
       refine rS { its := [(9, .u hv13), (13, .c (stem_Narrow.ok O hO k v6.1 v15 hv15))], kn := [(37, .f hc11), (41, .f hc12), (46, .t hc14)] } [9, 51] [] hN (by kernel_rfl) (by kernel_rfl) ?_
       refine tnU ?_
       exact ⟨(!v15), h, by kernel_rfl⟩
      ·replace h := ite_f hc14 h
       refine rS { its := [(9, .u hv13)], kn := [(37, .f hc11), (41, .f hc12), (46, .f hc14)] } [9, 51] [] hN (by kernel_rfl) (by kernel_rfl) ?_
       refine tnU ?_
       exact ⟨false, h, by kernel_rfl⟩
   ·rintro _ ⟨v8, h, rfl⟩
    unfold stem_Match.j10 at h
    refine tS (b := v8) (by kernel_rfl) (fun hc9 => ?_) (fun hc9 => ?_)
    ·replace h := ite_t hc9 h
     refine WpC.seq ?_
     refine rS {} [4, 5] [] hN (by kernel_rfl) (by kernel_rfl) ?_
     refine tnU ?_
     refine WpC.ret ?_
     refine thenQ_ret ?_
     have hq := Option.some.inj h
     subst hq
     exact eR (by kernel_rfl) (by kernel_rfl)
    ·replace h := ite_f hc9 h
     refine WpC.conv (cS [.k [9] []] (by kernel_rfl) (by kernel_rfl)) (WpC.skip ?_)
     refine tnU ?_
     exact ⟨h, by kernel_rfl⟩
  ·rintro _ ⟨h, rfl⟩
   unfold stem_Match.j7 at h
   refine WpC.seq ?_
   refine rS {} [4, 5] [] hN (by kernel_rfl) (by kernel_rfl) ?_
   refine tnU ?_
   refine WpC.ret ?_
   have hq := Option.some.inj h
   subst hq
   exact eR (by kernel_rfl) (by kernel_rfl)

theorem stem_Fill.ok (O : Out) (hO : GOkE O) (k : Nat) (a0 : List UInt8) (a1 : List UInt8) (out : List UInt8) (h : stem_Fill.f k a0 a1 = some out) : COk Un O Tryz.prog 129 { ar := [.p .str a0, .p .str a1], r := .p .str out } := by
 refine cok_of_wp Tryz.func129 rfl (k := 28) rfl (Nat.le_of_ble_eq_true rfl) (namesOk_pure rfl rfl rfl rfl) ?_
 intro B hN
 refine WpC.conv (cvK (b := ⟨[(0, .p .str a0), (1, .p .str a1)], []⟩) [0, 1] [] (by kernel_rfl)) ?_
 unfold stem_Fill.f at h
 refine WpC.seq ?_
 refine rS {} [0, 1] [] hN (by kernel_rfl) (by kernel_rfl) ?_
 refine tnU ?_
 refine WpC.seq ?_
 refine rS {} [0, 1, 5] [] hN (by kernel_rfl) (by kernel_rfl) ?_
 refine tnU ?_
 refine sqJ (fun st' => ∃ v1 : List Int, stem_Fill.j2 k v1 = some out ∧ st' = ⟨[(5, .vec 1005 1 0 v1.length)], [(1005, .row 5 (.int .u8) v1 false)]⟩) ?_ ?_
 ·refine WpC.seq ?_
  refine rS {} [0, 1, 5, 8, 9] [] hN (by kernel_rfl) (by kernel_rfl) ?_
  refine tnU ?_
  refine WpC.block ?_
  obtain ⟨o7, hlo7, h⟩ := bind_some h
  have hout8 := h
  clear h
  refine WpC.conv (cS [.th 5 1005 5 (.int .u8), .k [0, 1, 5, 8, 9] [1005]] (by kernel_rfl) (by kernel_rfl)) ?_
  refine WpC.loop (U := Un) (fun n st' => ∃ v3 : List Int, ∃ v4 : Int, stem_Fill.l5 k a0 a1 n v3 v4 = some o7 ∧ st' = ⟨[(0, .p .str a0), (1, .p .str a1), (5, .vec 1005 1 0 v3.length), (8, .p I6 ((a0.length : Int) : Int)), (9, .p I6 v4)], [(1005, .row 5 (.int .u8) v3 false)]⟩) k ⟨[], 0, hlo7, by kernel_rfl⟩ ?_
  clear hlo7
  rintro (_ | n) _ ⟨v3, v4, h, rfl⟩
  ·cases h
  ·rw [stem_Fill.l5] at h
   refine WpC.seq ?_
   refine rS {} [0, 1, 5, 8, 9, 10] [1005] hN (by kernel_rfl) (by kernel_rfl) ?_
   refine tnU ?_
   refine WpC.seq ?_
   refine tS (b := (decide (v4 < (a0.length : Int)))) (by kernel_rfl) (fun hc9 => ?_) (fun hc9 => ?_)
   ·replace h := ite_t hc9 h
    refine WpC.conv (cS [.k [0, 1, 5, 8, 9] [1005]] (by kernel_rfl) (by kernel_rfl)) (WpC.skip ?_)
    refine tnU ?_
    refine sqJ (fun st' => ∃ v10 : List Int, stem_Fill.j11 k (stem_Fill.l5 k a0 a1 n) a0 a1 v4 v10 = some o7 ∧ st' = ⟨[(0, .p .str a0), (1, .p .str a1), (5, .vec 1005 1 0 v10.length), (8, .p I6 ((a0.length : Int) : Int)), (9, .p I6 v4)], [(1005, .row 5 (.int .u8) v10 false)]⟩) ?_ ?_
    ·refine WpC.block ?_
     refine WpC.seq ?_
     refine rS {} [0, 1, 5, 6, 8, 9] [1005] hN (by kernel_rfl) (by kernel_rfl) ?_
     refine tnU ?_
     refine WpC.seq ?_
     refine WpC.seq ?_
     obtain ⟨v12, hv12, h⟩ := bind_some h
     obtain ⟨v13, hv13, h⟩ := bind_some h
     refine rS { its := [(2, .u hv12), (3, .c (stem_wild.ok O hO k (v12.toNat : Int) v13 hv13))] } [0, 1, 5, 6, 8, 9, 15] [1005] hN (by kernel_rfl) (by kernel_rfl) ?_
     refine tnU ?_
     refine tS (b := v13) (by kernel_rfl) (fun hc14 => ?_) (fun hc14 => ?_)
     ·replace h := ite_t hc14 h
      refine WpC.seq ?_
      obtain ⟨g15, h⟩ := if_some h
      refine rS { its := [(2, .e 2 (sok_appendS (U := Un) (rs := [(16, .vec 1005 1 0 v3.length), (17, .p .str a1)]) (xs := v3) (s := a1) (fx := false) rfl rfl rfl row_208 z8_5 Tryz.underlying9 o0 o1 g15))] } [0, 1, 5, 8, 9] [18] hN (by kernel_rfl) (by kernel_rfl) ?_
      refine tnU ?_
      refine WpC.conv (cS [.rn 18 1005, .k [0, 1, 5, 8, 9] [1005]] (by kernel_rfl) (by kernel_rfl)) (WpC.exit ?_)
      refine thenQ_exit ?_
      refine blockQ_hit ?_
      refine tnU ?_
      exact ⟨(v3 ++ numsOf a1), h, by kernel_rfl⟩
     ·replace h := ite_f hc14 h
      refine WpC.conv (cS [.k [0, 1, 5, 6, 8, 9] [1005]] (by kernel_rfl) (by kernel_rfl)) (WpC.skip ?_)
      refine tnU ?_
      obtain ⟨v16, hv16, h⟩ := bind_some h
      obtain ⟨g17, h⟩ := if_some h
      refine rSC { its := [(3, .u hv16), (5, .g g17)] } [0, 1, 5, 8, 9] [24] hN (by kernel_rfl) (by kernel_rfl) (cS [.rn 24 1005, .k [0, 1, 5, 8, 9] [1005]] (by kernel_rfl) (by kernel_rfl)) ?_
      refine blockQ_normal ?_
      refine tnU ?_
      exact ⟨(v3 ++ [(v16.toNat : Int)]), h, by kernel_rfl⟩
    ·rintro _ ⟨v10, h, rfl⟩
     unfold stem_Fill.j11 at h
     refine rS {} [0, 1, 5, 8, 9] [1005] hN (by kernel_rfl) (by kernel_rfl) ?_
     refine tnU ?_
     exact ⟨n, Nat.lt_succ_self n, v10, (IntKind.i64.wrap (v4 + 1)), h, by kernel_rfl⟩
   ·replace h := ite_f hc9 h
    refine WpC.conv (cS [.k [5] [1005]] (by kernel_rfl) (by kernel_rfl)) (WpC.exit ?_)
    refine thenQ_exit ?_
    have hq := Option.some.inj h
    subst hq
    refine thenQ_exit ?_
    have h := hout8
    refine blockQ_hit ?_
    refine tnU ?_
    exact ⟨v3, h, by kernel_rfl⟩
 ·rintro _ ⟨v1, h, rfl⟩
  unfold stem_Fill.j2 at h
  refine WpC.seq ?_
  refine rS {} [4] [] hN (by kernel_rfl) (by kernel_rfl) ?_
  refine tnU ?_
  refine WpC.ret ?_
  have hq := Option.some.inj h
  subst hq
  exact eR (by kernel_rfl) (by kernel_rfl)

end Go.Proofs.YtpcobejkpbalcaaGreatDoor
