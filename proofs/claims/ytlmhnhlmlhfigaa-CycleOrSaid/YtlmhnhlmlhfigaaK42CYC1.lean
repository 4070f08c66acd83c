/- A part of the proof of a given law: CYC1. Own work, printed in part by a program of mine. -/
import Derived.Test.YtlmhnhlmlhfigaaK42CYC0
namespace Go.Proofs.Ytlmhnhlmlhfigaa
open Go Go.AM
set_option linter.unusedVariables false
set_option linter.unusedSimpArgs false
set_option maxRecDepth 100000
set_option maxHeartbeats 4000000
theorem cycle_arcs_round_1_m0.ok (O : Out) (k : Nat) (a0 : List (List UInt8)) (a1 : List ((List UInt8) × Int)) (out : (List UInt8) × Int) (h : cycle_arcs_round_1_m0.f k a0 a1 = some out) : COk Un O Try.prog 38 { ar := [.p (.list .str) a0, .loc 100000 0], r := .tup [.p .str out.1, .p I6 out.2], bs := [(100000, .box [.mp 100001]), (100001, .map I6 a1)], bs' := [(100000, .box [.mp 100001]), (100001, .map I6 a1)] } := by
 refine cok_of_wp Try.func38 rfl (k := 38) rfl (Nat.le_of_ble_eq_true rfl) (namesOk_of (by kernel_rfl)) ?_
 intro B hN
 refine WpC.conv (cvK (b := ⟨[(0, .p (.list .str) a0), (1, .loc 100000 0)], [(100000, .box [.mp 100001]), (100001, .map I6 a1)]⟩) [0, 1] [100000, 100001] (by kernel_rfl)) ?_
 unfold cycle_arcs_round_1_m0.f at h
 refine WpC.seq ?_
 refine rS {} [0, 1] [100000, 100001] hN (by kernel_rfl) (by kernel_rfl) ?_
 refine tnU ?_
 refine WpC.seq ?_
 refine rS {} [0, 1, 5, 6] [100000, 100001] hN (by kernel_rfl) (by kernel_rfl) ?_
 refine tnU ?_
 refine sqJ (fun st' => ∃ v1 : List UInt8, ∃ v2 : Int, cycle_arcs_round_1_m0.j3 k a1 v1 v2 = some out ∧ st' = ⟨[(5, .p .str v1), (6, .p I6 v2)], [(100000, .box [.mp 100001]), (100001, .map I6 a1)]⟩) ?_ ?_
 ·refine WpC.seq ?_
  refine rS {} [1, 5, 6, 11, 12, 13] [100000, 100001] hN (by kernel_rfl) (by kernel_rfl) ?_
  refine tnU ?_
  refine WpC.block ?_
  obtain ⟨o10, hlo10, h⟩ := bind_some h
  have hout11 := h
  clear h
  refine WpC.loop (U := Un) (fun n st' => ∃ v4 : List UInt8, ∃ v5 : Int, ∃ v6 : Int, cycle_arcs_round_1_m0.l7 k a0 a1 n v4 v5 v6 = some o10 ∧ st' = ⟨[(1, .loc 100000 0), (5, .p .str v4), (6, .p I6 v5), (11, .p (.list .str) a0), (12, .p I6 ((a0.length : Int) : Int)), (13, .p I6 v6)], [(100000, .box [.mp 100001]), (100001, .map I6 a1)]⟩) k ⟨([] : List UInt8), (-1), 0, hlo10, by kernel_rfl⟩ ?_
  clear hlo10
  rintro (_ | n) _ ⟨v4, v5, v6, h, rfl⟩
  ·cases h
  ·rw [cycle_arcs_round_1_m0.l7] at h
   refine WpC.seq ?_
   refine rS {} [1, 5, 6, 11, 12, 13, 14] [100000, 100001] hN (by kernel_rfl) (by kernel_rfl) ?_
   refine tnU ?_
   refine WpC.seq ?_
   refine tS (b := (decide (v6 < (a0.length : Int)))) (by kernel_rfl) (fun hc12 => ?_) (fun hc12 => ?_)
   ·replace h := ite_t hc12 h
    refine WpC.conv (cS [.k [1, 5, 6, 11, 12, 13] [100000, 100001]] (by kernel_rfl) (by kernel_rfl)) (WpC.skip ?_)
    refine tnU ?_
    refine sqJ (fun st' => ∃ v13 : List UInt8, ∃ v14 : Int, cycle_arcs_round_1_m0.j15 k (cycle_arcs_round_1_m0.l7 k a0 a1 n) a0 a1 v6 v13 v14 = some o10 ∧ st' = ⟨[(1, .loc 100000 0), (5, .p .str v13), (6, .p I6 v14), (11, .p (.list .str) a0), (12, .p I6 ((a0.length : Int) : Int)), (13, .p I6 v6)], [(100000, .box [.mp 100001]), (100001, .map I6 a1)]⟩) ?_ ?_
    ·refine WpC.block ?_
     refine WpC.seq ?_
     obtain ⟨v16, hv16, h⟩ := bind_some h
     refine rS { its := [(0, .v .str hv16)] } [1, 5, 6, 8, 11, 12, 13] [100000, 100001] hN (by kernel_rfl) (by kernel_rfl) ?_
     refine tnU ?_
     refine WpC.seq ?_
     refine rS {} [1, 5, 6, 8, 9, 10, 11, 12, 13] [100000, 100001] hN (by kernel_rfl) (by kernel_rfl) ?_
     refine tnU ?_
     refine sqJ (fun st' => ∃ v17 : Bool, cycle_arcs_round_1_m0.j19 k (cycle_arcs_round_1_m0.l7 k a0 a1 n) a0 a1 v4 v5 v6 v16 v17 = some o10 ∧ st' = ⟨[(1, .loc 100000 0), (5, .p .str v4), (6, .p I6 v5), (8, .p .str v16), (9, .p I6 (((mget v16 a1).getD 0) : Int)), (11, .p (.list .str) a0), (12, .p I6 ((a0.length : Int) : Int)), (13, .p I6 v6), (32, .p .bool v17)], [(100000, .box [.mp 100001]), (100001, .map I6 a1)]⟩) ?_ ?_
     ·rcases bool_cases ((mget v16 a1).isSome) with hc20 | hc20
      ·replace h := ite_t hc20 h
       rcases bool_cases (decide (v5 < 0)) with hc21 | hc21
       ·replace h := ite_t hc21 h
        refine rS { kn := [(24, .t hc20), (27, .t hc21)] } [1, 5, 6, 8, 9, 11, 12, 13, 32] [100000, 100001] hN (by kernel_rfl) (by kernel_rfl) ?_
        refine tnU ?_
        exact ⟨true, h, by kernel_rfl⟩
       ·replace h := ite_f hc21 h
        refine rS { kn := [(24, .t hc20), (27, .f hc21)] } [1, 5, 6, 8, 9, 11, 12, 13, 32] [100000, 100001] hN (by kernel_rfl) (by kernel_rfl) ?_
        refine tnU ?_
        exact ⟨(decide (((mget v16 a1).getD 0) < v5)), h, by kernel_rfl⟩
      ·replace h := ite_f hc20 h
       refine rS { kn := [(24, .f hc20)] } [1, 5, 6, 8, 9, 11, 12, 13, 32] [100000, 100001] hN (by kernel_rfl) (by kernel_rfl) ?_
       refine tnU ?_
       exact ⟨false, h, by kernel_rfl⟩
     ·rintro _ ⟨v17, h, rfl⟩
      unfold cycle_arcs_round_1_m0.j19 at h
      refine tS (b := v17) (by kernel_rfl) (fun hc18 => ?_) (fun hc18 => ?_)
      ·replace h := ite_t hc18 h
       refine rS {} [1, 5, 6, 11, 12, 13] [100000, 100001] hN (by kernel_rfl) (by kernel_rfl) ?_
       refine blockQ_normal ?_
       refine tnU ?_
       exact ⟨v16, ((mget v16 a1).getD 0), h, by kernel_rfl⟩
      ·replace h := ite_f hc18 h
       refine WpC.conv (cS [.k [1, 5, 6, 11, 12, 13] [100000, 100001]] (by kernel_rfl) (by kernel_rfl)) (WpC.skip ?_)
       refine blockQ_normal ?_
       refine tnU ?_
       exact ⟨v4, v5, h, by kernel_rfl⟩
    ·rintro _ ⟨v13, v14, h, rfl⟩
     unfold cycle_arcs_round_1_m0.j15 at h
     refine rS {} [1, 5, 6, 11, 12, 13] [100000, 100001] hN (by kernel_rfl) (by kernel_rfl) ?_
     refine tnU ?_
     exact ⟨n, Nat.lt_succ_self n, v13, v14, (IntKind.i64.wrap (v6 + 1)), h, by kernel_rfl⟩
   ·replace h := ite_f hc12 h
    refine WpC.conv (cS [.k [5, 6] [100000, 100001]] (by kernel_rfl) (by kernel_rfl)) (WpC.exit ?_)
    refine thenQ_exit ?_
    have hq := Option.some.inj h
    subst hq
    refine thenQ_exit ?_
    have h := hout11
    refine blockQ_hit ?_
    refine tnU ?_
    exact ⟨v4, v5, h, by kernel_rfl⟩
 ·rintro _ ⟨v1, v2, h, rfl⟩
  unfold cycle_arcs_round_1_m0.j3 at h
  refine WpC.seq ?_
  refine rS {} [3, 4] [100000, 100001] hN (by kernel_rfl) (by kernel_rfl) ?_
  refine tnU ?_
  refine WpC.ret ?_
  have hq := Option.some.inj h
  subst hq
  exact eR (by kernel_rfl) (by kernel_rfl)

theorem cycle_arcs_round_m0.ok (O : Out) (k : Nat) (a0 : List ((List UInt8) × (List (List UInt8)))) (a1 : List UInt8) (out : List (List UInt8)) (h : cycle_arcs_round_m0.f k a0 a1 = some out) : COk Un O Try.prog 29 { ar := [.mp 100000, .p .str a1], r := .p (.list .str) out, bs := [(100000, .map (.list .str) a0)], bs' := [(100000, .map (.list .str) a0)] } := by
 refine cok_of_wp Try.func29 rfl (k := 39) rfl (Nat.le_of_ble_eq_true rfl) (namesOk_of (by kernel_rfl)) ?_
 intro B hN
 refine WpC.conv (cvK (b := ⟨[(0, .mp 100000), (1, .p .str a1)], [(100000, .map (.list .str) a0)]⟩) [0, 1] [100000] (by kernel_rfl)) ?_
 unfold cycle_arcs_round_m0.f at h
 refine WpC.seq ?_
 refine rS {} [0, 1] [100000] hN (by kernel_rfl) (by kernel_rfl) ?_
 refine tnU ?_
 refine WpC.seq ?_
 obtain ⟨v1, hv1, h⟩ := bind_some h
 refine rS { its := [(2, .c (COk.ren (cycle_arcs_far_m0.ok O k a0 a1 v1 hv1) (fun n => if n = 60500 then 10001 else if n = 100000 then 100000 else n) (injOn_of (by kernel_rfl))))] } [0, 1, 5] [5, 10001, 100000] hN (by kernel_rfl) (by kernel_rfl) ?_
 refine tnU ?_
 refine WpC.seq ?_
 refine rS {} [0, 1, 6] [5, 10001, 100000] hN (by kernel_rfl) (by kernel_rfl) ?_
 refine tnU ?_
 refine WpC.seq ?_
 refine rS {} [0, 1, 6, 7] [5, 15, 10001, 100000] hN (by kernel_rfl) (by kernel_rfl) ?_
 refine tnU ?_
 refine sqJ (fun st' => ∃ v2 : List (List UInt8), cycle_arcs_round_m0.j3 k a0 v2 = some out ∧ st' = ⟨[(7, .vec 1007 1 0 v2.length)], [(1007, .row 9 .str v2 false), (100000, .map (.list .str) a0)]⟩) ?_ ?_
 ·refine WpC.seq ?_
  obtain ⟨v4, hv4, h⟩ := bind_some h
  refine rS { its := [(4, .c (COk.ren (cycle_arcs_round_1_m0.ok O k ((mget a1 a0).getD []) v1 v4 hv4) (fun n => if n = 100000 then 5 else if n = 100001 then 10001 else n) (injOn_of (by kernel_rfl))))] } [0, 6, 7, 8, 9] [5, 15, 10001, 100000] hN (by kernel_rfl) (by kernel_rfl) ?_
  refine tnU ?_
  refine WpC.block ?_
  obtain ⟨o10, hlo10, h⟩ := bind_some h
  have hout11 := h
  clear h
  refine WpC.conv (cS [.lo 15, .k [0, 6, 7, 8, 9] [5, 15, 10001, 100000], .rn 15 1007, .k [0, 6, 7, 8, 9] [5, 1007, 10001, 100000]] (by kernel_rfl) (by kernel_rfl)) ?_
  refine WpC.loop (U := Un) (fun n st' => ∃ v5 : List (List UInt8), ∃ v6 : List UInt8, ∃ v7 : Int, cycle_arcs_round_m0.l8 k a0 v1 n v5 v6 v7 = some o10 ∧ st' = ⟨[(0, .mp 100000), (6, .clo 38 [.loc 5 0]), (7, .vec 1007 1 0 v5.length), (8, .p .str v6), (9, .p I6 v7)], [(5, .box [.mp 10001]), (1007, .row 9 .str v5 false), (10001, .map I6 v1), (100000, .map (.list .str) a0)]⟩) k ⟨[a1], v4.1, v4.2, hlo10, by kernel_rfl⟩ ?_
  clear hlo10
  rintro (_ | n) _ ⟨v5, v6, v7, h, rfl⟩
  ·cases h
  ·rw [cycle_arcs_round_m0.l8] at h
   refine WpC.seq ?_
   refine WpC.seq ?_
   refine rS {} [0, 6, 7, 8, 25] [5, 1007, 10001, 100000] hN (by kernel_rfl) (by kernel_rfl) ?_
   refine tnU ?_
   refine tS (b := (decide (v7 > 0))) (by kernel_rfl) (fun hc12 => ?_) (fun hc12 => ?_)
   ·replace h := ite_t hc12 h
    refine WpC.conv (cS [.k [0, 6, 7, 8] [5, 1007, 10001, 100000]] (by kernel_rfl) (by kernel_rfl)) (WpC.skip ?_)
    refine tnU ?_
    refine WpC.seq ?_
    refine WpC.block ?_
    obtain ⟨g13, h⟩ := if_some h
    refine rS { its := [(3, .g g13)] } [0, 6, 7, 8] [5, 37, 10001, 100000] hN (by kernel_rfl) (by kernel_rfl) ?_
    refine blockQ_normal ?_
    refine tnU ?_
    obtain ⟨v14, hv14, h⟩ := bind_some h
    refine rSC { its := [(4, .c (COk.ren (cycle_arcs_round_1_m0.ok O k ((mget v6 a0).getD []) v1 v14 hv14) (fun n => if n = 100000 then 5 else if n = 100001 then 10001 else n) (injOn_of (by kernel_rfl))))] } [0, 6, 7, 8, 9] [5, 37, 10001, 100000] hN (by kernel_rfl) (by kernel_rfl) (cS [.rn 37 1007, .k [0, 6, 7, 8, 9] [5, 1007, 10001, 100000]] (by kernel_rfl) (by kernel_rfl)) ?_
    refine tnU ?_
    exact ⟨n, Nat.lt_succ_self n, (v5 ++ [v6]), v14.1, v14.2, h, by kernel_rfl⟩
   ·replace h := ite_f hc12 h
    refine WpC.conv (cS [.k [7] [1007, 100000]] (by kernel_rfl) (by kernel_rfl)) (WpC.exit ?_)
    refine thenQ_exit ?_
    have hq := Option.some.inj h
    subst hq
    refine thenQ_exit ?_
    have h := hout11
    refine blockQ_hit ?_
    refine tnU ?_
    exact ⟨v5, h, by kernel_rfl⟩
 ·rintro _ ⟨v2, h, rfl⟩
  unfold cycle_arcs_round_m0.j3 at h
  refine WpC.seq ?_
  refine rS {} [4] [1007, 100000] hN (by kernel_rfl) (by kernel_rfl) ?_
  refine tnU ?_
  refine WpC.conv (cS [.fz 4, .k [4] [100000]] (by kernel_rfl) (by kernel_rfl)) (WpC.ret ?_)
  have hq := Option.some.inj h
  subst hq
  exact eR (by kernel_rfl) (by kernel_rfl)

theorem cycle_Find.ok (O : Out) (k : Nat) (a0 : List T_cycle_Node) (out : (List (List UInt8)) × Bool) (h : cycle_Find.f k a0 = some out) : COk Un O Try.prog 19 { ar := [.p (.list (.named 3)) a0], r := .tup [.p (.list .str) out.1, .p .bool out.2] } := by
 refine cok_of_wp Try.func19 rfl (k := 25) rfl (Nat.le_of_ble_eq_true rfl) (namesOk_pure rfl rfl rfl rfl) ?_
 intro B hN
 refine WpC.conv (cvK (b := ⟨[(0, .p (.list (.named 3)) a0)], []⟩) [0] [] (by kernel_rfl)) ?_
 unfold cycle_Find.f at h
 refine WpC.seq ?_
 refine rS {} [0] [] hN (by kernel_rfl) (by kernel_rfl) ?_
 refine tnU ?_
 refine WpC.seq ?_
 obtain ⟨v1, hv1, h⟩ := bind_some h
 refine rS { its := [(1, .c (COk.ren (cycle_arcsOf.ok O k a0 v1 hv1) (fun n => if n = 60500 then 10001 else n) (injOn_of (by kernel_rfl))))] } [0, 4] [10001] hN (by kernel_rfl) (by kernel_rfl) ?_
 refine tnU ?_
 refine sqJ (fun st' => cycle_Find.j2 k = some out ∧ st' = ⟨[], []⟩) ?_ ?_
 ·refine WpC.seq ?_
  obtain ⟨v3, hv3, h⟩ := bind_some h
  refine rS { its := [(1, .c (COk.ren (cycle_Names.ok O k a0 v3 hv3) (fun n => if n = 60500 then 10002 else n) (injOn_of (by kernel_rfl))))] } [4, 10, 11, 12] [10001, 10002] hN (by kernel_rfl) (by kernel_rfl) ?_
  refine tnU ?_
  refine WpC.block ?_
  obtain ⟨o6, hlo6, h⟩ := bind_some h
  have hout7 := h
  clear h
  refine WpC.loop (U := Un) (fun n st' => ∃ v4 : Int, cycle_Find.l5 k v1 v3 n v4 = some o6 ∧ st' = ⟨[(4, .mp 10001), (10, .vec 10002 1 0 v3.length), (11, .p I6 ((v3.length : Int) : Int)), (12, .p I6 v4)], [(10001, .map (.list .str) v1), (10002, .row 9 .str v3 false)]⟩) k ⟨0, hlo6, by kernel_rfl⟩ ?_
  clear hlo6
  rintro (_ | n) _ ⟨v4, h, rfl⟩
  ·cases h
  ·rw [cycle_Find.l5] at h
   refine WpC.seq ?_
   refine rS {} [4, 10, 11, 12, 13] [10001, 10002] hN (by kernel_rfl) (by kernel_rfl) ?_
   refine tnU ?_
   refine WpC.seq ?_
   refine tS (b := (decide (v4 < (v3.length : Int)))) (by kernel_rfl) (fun hc8 => ?_) (fun hc8 => ?_)
   ·replace h := ite_t hc8 h
    refine WpC.conv (cS [.k [4, 10, 11, 12] [10001, 10002]] (by kernel_rfl) (by kernel_rfl)) (WpC.skip ?_)
    refine tnU ?_
    refine WpC.seq ?_
    refine WpC.block ?_
    refine WpC.seq ?_
    obtain ⟨g9, h⟩ := if_some h
    obtain ⟨v10, hv10, h⟩ := bind_some h
    refine rS { its := [(0, .g g9), (1, .v .str hv10)] } [4, 6, 10, 11, 12] [10001, 10002] hN (by kernel_rfl) (by kernel_rfl) ?_
    refine tnU ?_
    refine WpC.seq ?_
    obtain ⟨v11, hv11, h⟩ := bind_some h
    obtain ⟨v12, hv12, h⟩ := bind_some h
    refine rS { its := [(2, .c (COk.ren (cycle_arcs_reach_m0.ok O k v1 v10 v11 hv11) (fun n => if n = 100000 then 10001 else n) (injOn_of (by kernel_rfl)))), (4, .c (names_Has.ok O k v11 v10 v12 hv12))] } [4, 6, 10, 11, 12, 20] [10001, 10002] hN (by kernel_rfl) (by kernel_rfl) ?_
    refine tnU ?_
    refine tS (b := v12) (by kernel_rfl) (fun hc13 => ?_) (fun hc13 => ?_)
    ·replace h := ite_t hc13 h
     refine WpC.seq ?_
     obtain ⟨v14, hv14, h⟩ := bind_some h
     refine rS { its := [(2, .c (COk.ren (cycle_arcs_round_m0.ok O k v1 v10 v14 hv14) (fun n => if n = 100000 then 10001 else n) (injOn_of (by kernel_rfl))))] } [2, 3] [] hN (by kernel_rfl) (by kernel_rfl) ?_
     refine tnU ?_
     refine WpC.ret ?_
     refine blockQ_ret ?_
     refine thenQ_ret ?_
     have hq := Option.some.inj h
     subst hq
     refine thenQ_ret ?_
     have h := hout7
     refine blockQ_ret ?_
     refine thenQ_ret ?_
     have hq := Option.some.inj h
     subst hq
     exact eR (by kernel_rfl) (by kernel_rfl)
    ·replace h := ite_f hc13 h
     refine WpC.conv (cS [.k [4, 10, 11, 12] [10001, 10002]] (by kernel_rfl) (by kernel_rfl)) (WpC.skip ?_)
     refine blockQ_normal ?_
     refine tnU ?_
     refine rS {} [4, 10, 11, 12] [10001, 10002] hN (by kernel_rfl) (by kernel_rfl) ?_
     refine tnU ?_
     exact ⟨n, Nat.lt_succ_self n, (IntKind.i64.wrap (v4 + 1)), h, by kernel_rfl⟩
   ·replace h := ite_f hc8 h
    refine WpC.conv (cS [.k [] []] (by kernel_rfl) (by kernel_rfl)) (WpC.exit ?_)
    refine thenQ_exit ?_
    have hq := Option.some.inj h
    subst hq
    refine thenQ_exit ?_
    have h := hout7
    refine blockQ_hit ?_
    refine tnU ?_
    exact ⟨h, by kernel_rfl⟩
 ·rintro _ ⟨h, rfl⟩
  unfold cycle_Find.j2 at h
  refine WpC.seq ?_
  refine rS {} [2, 3] [] hN (by kernel_rfl) (by kernel_rfl) ?_
  refine tnU ?_
  refine WpC.conv (cS [.nL 2 .str, .k [2, 3] []] (by kernel_rfl) (by kernel_rfl)) (WpC.ret ?_)
  have hq := Option.some.inj h
  subst hq
  exact eR (by kernel_rfl) (by kernel_rfl)

theorem millwrightlaw25_alive.ok (O : Out) (k : Nat) (out : Bool) (h : millwrightlaw25_alive.f k = some out) : COk Un O Try.prog 6 { ar := [], r := .p .bool out } := by
 refine cok_of_wp Try.func6 rfl (k := 30) rfl (Nat.le_of_ble_eq_true rfl) (namesOk_pure rfl rfl rfl rfl) ?_
 intro B hN
 refine WpC.conv (cvK (b := ⟨[], []⟩) [] [] (by kernel_rfl)) ?_
 unfold millwrightlaw25_alive.f at h
 refine WpC.seq ?_
 refine rS {} [] [] hN (by kernel_rfl) (by kernel_rfl) ?_
 refine tnU ?_
 refine WpC.seq ?_
 obtain ⟨v1, hv1, h⟩ := bind_some h
 refine rS { its := [(5, .c (cycle_Find.ok O k [(T_cycle_Node.mk ([97] : List UInt8) [([98] : List UInt8)]), (T_cycle_Node.mk ([98] : List UInt8) [([97] : List UInt8), ([99] : List UInt8)])] v1 hv1))], fz := [0, 2] } [1, 2] [] hN (by kernel_rfl) (by kernel_rfl) ?_
 refine tnU ?_
 refine WpC.seq ?_
 rcases bool_cases v1.2 with hc2 | hc2
 ·replace h := ite_t hc2 h
  rcases bool_cases ((v1.1.length : Int) == 2) with hc3 | hc3
  ·replace h := ite_t hc3 h
   obtain ⟨v4, hv4, h⟩ := bind_some h
   rcases bool_cases (v4 == ([97] : List UInt8)) with hc5 | hc5
   ·replace h := ite_t hc5 h
    obtain ⟨v6, hv6, h⟩ := bind_some h
    refine rS { its := [(8, .v .str hv4), (14, .v .str hv6)], kn := [(13, .t hc2), (18, .t hc3), (24, .t hc5)] } [0] [] hN (by kernel_rfl) (by kernel_rfl) ?_
    refine tnU ?_
    refine WpC.ret ?_
    have hq := Option.some.inj h
    subst hq
    exact eR (by kernel_rfl) (by kernel_rfl)
   ·replace h := ite_f hc5 h
    refine rS { its := [(8, .v .str hv4)], kn := [(13, .t hc2), (18, .t hc3), (24, .f hc5)] } [0] [] hN (by kernel_rfl) (by kernel_rfl) ?_
    refine tnU ?_
    refine WpC.ret ?_
    have hq := Option.some.inj h
    subst hq
    exact eR (by kernel_rfl) (by kernel_rfl)
  ·replace h := ite_f hc3 h
   refine rS { kn := [(13, .t hc2), (18, .f hc3)] } [0] [] hN (by kernel_rfl) (by kernel_rfl) ?_
   refine tnU ?_
   refine WpC.ret ?_
   have hq := Option.some.inj h
   subst hq
   exact eR (by kernel_rfl) (by kernel_rfl)
 ·replace h := ite_f hc2 h
  refine rS { kn := [(13, .f hc2)] } [0] [] hN (by kernel_rfl) (by kernel_rfl) ?_
  refine tnU ?_
  refine WpC.ret ?_
  have hq := Option.some.inj h
  subst hq
  exact eR (by kernel_rfl) (by kernel_rfl)

theorem millwrightnum_Long.ok (O : Out) (k : Nat) (a0 : List (List UInt8)) (a1 : Int) (a2 : Int) (out : Bool) (h : millwrightnum_Long.f k a0 a1 a2 = some out) : COk Un O Try.prog 8 { ar := [.p (.list .str) a0, .p I6 a1, .p I6 a2], r := .p .bool out } := by
 refine cok_of_wp Try.func8 rfl (k := 24) rfl (Nat.le_of_ble_eq_true rfl) (namesOk_pure rfl rfl rfl rfl) ?_
 intro B hN
 refine WpC.conv (cvK (b := ⟨[(0, .p (.list .str) a0), (1, .p I6 a1), (2, .p I6 a2)], []⟩) [0, 1, 2] [] (by kernel_rfl)) ?_
 unfold millwrightnum_Long.f at h
 refine WpC.seq ?_
 refine rS {} [0, 1, 2] [] hN (by kernel_rfl) (by kernel_rfl) ?_
 refine tnU ?_
 refine WpC.seq ?_
 refine WpC.seq ?_
 refine rS {} [0, 2, 12] [] hN (by kernel_rfl) (by kernel_rfl) ?_
 refine tnU ?_
 refine tS (b := (decide ((a0.length : Int) > a1))) (by kernel_rfl) (fun hc1 => ?_) (fun hc1 => ?_)
 ·replace h := ite_t hc1 h
  refine WpC.seq ?_
  refine rS {} [6] [] hN (by kernel_rfl) (by kernel_rfl) ?_
  refine tnU ?_
  refine WpC.ret ?_
  refine thenQ_ret ?_
  have hq := Option.some.inj h
  subst hq
  exact eR (by kernel_rfl) (by kernel_rfl)
 ·replace h := ite_f hc1 h
  refine WpC.conv (cS [.k [0, 2] []] (by kernel_rfl) (by kernel_rfl)) (WpC.skip ?_)
  refine tnU ?_
  refine sqJ (fun st' => millwrightnum_Long.j2 k = some out ∧ st' = ⟨[], []⟩) ?_ ?_
  ·refine WpC.seq ?_
   refine rS {} [2, 13, 14, 15] [] hN (by kernel_rfl) (by kernel_rfl) ?_
   refine tnU ?_
   refine WpC.block ?_
   obtain ⟨o5, hlo5, h⟩ := bind_some h
   have hout6 := h
   clear h
   refine WpC.loop (U := Un) (fun n st' => ∃ v3 : Int, millwrightnum_Long.l4 k a0 a2 n v3 = some o5 ∧ st' = ⟨[(2, .p I6 a2), (13, .p (.list .str) a0), (14, .p I6 ((a0.length : Int) : Int)), (15, .p I6 v3)], []⟩) k ⟨0, hlo5, by kernel_rfl⟩ ?_
   clear hlo5
   rintro (_ | n) _ ⟨v3, h, rfl⟩
   ·cases h
   ·rw [millwrightnum_Long.l4] at h
    refine WpC.seq ?_
    refine rS {} [2, 13, 14, 15, 16] [] hN (by kernel_rfl) (by kernel_rfl) ?_
    refine tnU ?_
    refine WpC.seq ?_
    refine tS (b := (decide (v3 < (a0.length : Int)))) (by kernel_rfl) (fun hc7 => ?_) (fun hc7 => ?_)
    ·replace h := ite_t hc7 h
     refine WpC.conv (cS [.k [2, 13, 14, 15] []] (by kernel_rfl) (by kernel_rfl)) (WpC.skip ?_)
     refine tnU ?_
     refine WpC.seq ?_
     refine WpC.block ?_
     refine WpC.seq ?_
     obtain ⟨v8, hv8, h⟩ := bind_some h
     refine rS { its := [(0, .v .str hv8)] } [2, 8, 13, 14, 15] [] hN (by kernel_rfl) (by kernel_rfl) ?_
     refine tnU ?_
     refine WpC.seq ?_
     refine rS {} [2, 13, 14, 15, 22] [] hN (by kernel_rfl) (by kernel_rfl) ?_
     refine tnU ?_
     refine tS (b := (decide ((v8.length : Int) > a2))) (by kernel_rfl) (fun hc9 => ?_) (fun hc9 => ?_)
     ·replace h := ite_t hc9 h
      refine WpC.seq ?_
      refine rS {} [6] [] hN (by kernel_rfl) (by kernel_rfl) ?_
      refine tnU ?_
      refine WpC.ret ?_
      refine blockQ_ret ?_
      refine thenQ_ret ?_
      have hq := Option.some.inj h
      subst hq
      refine thenQ_ret ?_
      have h := hout6
      refine blockQ_ret ?_
      refine thenQ_ret ?_
      have hq := Option.some.inj h
      subst hq
      exact eR (by kernel_rfl) (by kernel_rfl)
     ·replace h := ite_f hc9 h
      refine WpC.conv (cS [.k [2, 13, 14, 15] []] (by kernel_rfl) (by kernel_rfl)) (WpC.skip ?_)
      refine blockQ_normal ?_
      refine tnU ?_
      refine rS {} [2, 13, 14, 15] [] hN (by kernel_rfl) (by kernel_rfl) ?_
      refine tnU ?_
      exact ⟨n, Nat.lt_succ_self n, (IntKind.i64.wrap (v3 + 1)), h, by kernel_rfl⟩
    ·replace h := ite_f hc7 h
     refine WpC.conv (cS [.k [] []] (by kernel_rfl) (by kernel_rfl)) (WpC.exit ?_)
     refine thenQ_exit ?_
     have hq := Option.some.inj h
     subst hq
     refine thenQ_exit ?_
     have h := hout6
     refine blockQ_hit ?_
     refine tnU ?_
     exact ⟨h, by kernel_rfl⟩
  ·rintro _ ⟨h, rfl⟩
   unfold millwrightnum_Long.j2 at h
   refine WpC.seq ?_
   refine rS {} [6] [] hN (by kernel_rfl) (by kernel_rfl) ?_
   refine tnU ?_
   refine WpC.ret ?_
   have hq := Option.some.inj h
   subst hq
   exact eR (by kernel_rfl) (by kernel_rfl)

theorem millwrightlaw25_long.ok (O : Out) (k : Nat) (a0 : List T_cycle_Node) (out : Bool) (h : millwrightlaw25_long.f k a0 = some out) : COk Un O Try.prog 7 { ar := [.p (.list (.named 3)) a0], r := .p .bool out } := by
 refine cok_of_wp Try.func7 rfl (k := 24) rfl (Nat.le_of_ble_eq_true rfl) (namesOk_pure rfl rfl rfl rfl) ?_
 intro B hN
 refine WpC.conv (cvK (b := ⟨[(0, .p (.list (.named 3)) a0)], []⟩) [0] [] (by kernel_rfl)) ?_
 unfold millwrightlaw25_long.f at h
 refine WpC.seq ?_
 refine rS {} [0] [] hN (by kernel_rfl) (by kernel_rfl) ?_
 refine tnU ?_
 refine WpC.seq ?_
 refine WpC.seq ?_
 refine rS {} [0, 7] [] hN (by kernel_rfl) (by kernel_rfl) ?_
 refine tnU ?_
 refine tS (b := (decide ((a0.length : Int) > 16))) (by kernel_rfl) (fun hc1 => ?_) (fun hc1 => ?_)
 ·replace h := ite_t hc1 h
  refine WpC.seq ?_
  refine rS {} [2] [] hN (by kernel_rfl) (by kernel_rfl) ?_
  refine tnU ?_
  refine WpC.ret ?_
  refine thenQ_ret ?_
  have hq := Option.some.inj h
  subst hq
  exact eR (by kernel_rfl) (by kernel_rfl)
 ·replace h := ite_f hc1 h
  refine WpC.conv (cS [.k [0] []] (by kernel_rfl) (by kernel_rfl)) (WpC.skip ?_)
  refine tnU ?_
  refine sqJ (fun st' => millwrightlaw25_long.j2 k = some out ∧ st' = ⟨[], []⟩) ?_ ?_
  ·refine WpC.seq ?_
   refine rS {} [8, 9, 10] [] hN (by kernel_rfl) (by kernel_rfl) ?_
   refine tnU ?_
   refine WpC.block ?_
   obtain ⟨o5, hlo5, h⟩ := bind_some h
   have hout6 := h
   clear h
   refine WpC.loop (U := Un) (fun n st' => ∃ v3 : Int, millwrightlaw25_long.l4 k a0 n v3 = some o5 ∧ st' = ⟨[(8, .p (.list (.named 3)) a0), (9, .p I6 ((a0.length : Int) : Int)), (10, .p I6 v3)], []⟩) k ⟨0, hlo5, by kernel_rfl⟩ ?_
   clear hlo5
   rintro (_ | n) _ ⟨v3, h, rfl⟩
   ·cases h
   ·rw [millwrightlaw25_long.l4] at h
    refine WpC.seq ?_
    refine rS {} [8, 9, 10, 11] [] hN (by kernel_rfl) (by kernel_rfl) ?_
    refine tnU ?_
    refine WpC.seq ?_
    refine tS (b := (decide (v3 < (a0.length : Int)))) (by kernel_rfl) (fun hc7 => ?_) (fun hc7 => ?_)
    ·replace h := ite_t hc7 h
     refine WpC.conv (cS [.k [8, 9, 10] []] (by kernel_rfl) (by kernel_rfl)) (WpC.skip ?_)
     refine tnU ?_
     refine sqJ (fun st' => millwrightlaw25_long.j8 k (millwrightlaw25_long.l4 k a0 n) a0 v3 = some o5 ∧ st' = ⟨[(8, .p (.list (.named 3)) a0), (9, .p I6 ((a0.length : Int) : Int)), (10, .p I6 v3)], []⟩) ?_ ?_
     ·refine WpC.block ?_
      refine WpC.seq ?_
      obtain ⟨v9, hv9, h⟩ := bind_some h
      refine rS { its := [(0, .v (.named 3) hv9)] } [4, 8, 9, 10] [4] hN (by kernel_rfl) (by kernel_rfl) ?_
      refine tnU ?_
      refine sqJ (fun st' => ∃ v10 : Bool, millwrightlaw25_long.j12 k (millwrightlaw25_long.l4 k a0 n) a0 v3 v10 = some o5 ∧ st' = ⟨[(8, .p (.list (.named 3)) a0), (9, .p I6 ((a0.length : Int) : Int)), (10, .p I6 v3), (22, .p .bool v10)], []⟩) ?_ ?_
      ·rcases bool_cases (decide ((v9.f_Name.length : Int) > 60)) with hc13 | hc13
       ·replace h := ite_t hc13 h
        refine rS { kn := [(18, .t hc13)] } [8, 9, 10, 22] [] hN (by kernel_rfl) (by kernel_rfl) ?_
        refine tnU ?_
        exact ⟨true, h, by kernel_rfl⟩
       ·replace h := ite_f hc13 h
        obtain ⟨v14, hv14, h⟩ := bind_some h
        refine rS { its := [(7, .c (millwrightnum_Long.ok O k v9.f_To 8 60 v14 hv14))], kn := [(18, .f hc13)] } [8, 9, 10, 22] [] hN (by kernel_rfl) (by kernel_rfl) ?_
        refine tnU ?_
        exact ⟨v14, h, by kernel_rfl⟩
      ·rintro _ ⟨v10, h, rfl⟩
       unfold millwrightlaw25_long.j12 at h
       refine tS (b := v10) (by kernel_rfl) (fun hc11 => ?_) (fun hc11 => ?_)
       ·replace h := ite_t hc11 h
        refine WpC.seq ?_
        refine rS {} [2] [] hN (by kernel_rfl) (by kernel_rfl) ?_
        refine tnU ?_
        refine WpC.ret ?_
        refine blockQ_ret ?_
        refine thenQ_ret ?_
        have hq := Option.some.inj h
        subst hq
        refine thenQ_ret ?_
        have h := hout6
        refine blockQ_ret ?_
        refine thenQ_ret ?_
        have hq := Option.some.inj h
        subst hq
        exact eR (by kernel_rfl) (by kernel_rfl)
       ·replace h := ite_f hc11 h
        refine WpC.conv (cS [.k [8, 9, 10] []] (by kernel_rfl) (by kernel_rfl)) (WpC.skip ?_)
        refine blockQ_normal ?_
        refine tnU ?_
        exact ⟨h, by kernel_rfl⟩
     ·rintro _ ⟨h, rfl⟩
      unfold millwrightlaw25_long.j8 at h
      refine rS {} [8, 9, 10] [] hN (by kernel_rfl) (by kernel_rfl) ?_
      refine tnU ?_
      exact ⟨n, Nat.lt_succ_self n, (IntKind.i64.wrap (v3 + 1)), h, by kernel_rfl⟩
    ·replace h := ite_f hc7 h
     refine WpC.conv (cS [.k [] []] (by kernel_rfl) (by kernel_rfl)) (WpC.exit ?_)
     refine thenQ_exit ?_
     have hq := Option.some.inj h
     subst hq
     refine thenQ_exit ?_
     have h := hout6
     refine blockQ_hit ?_
     refine tnU ?_
     exact ⟨h, by kernel_rfl⟩
  ·rintro _ ⟨h, rfl⟩
   unfold millwrightlaw25_long.j2 at h
   refine WpC.seq ?_
   refine rS {} [2] [] hN (by kernel_rfl) (by kernel_rfl) ?_
   refine tnU ?_
   refine WpC.ret ?_
   have hq := Option.some.inj h
   subst hq
   exact eR (by kernel_rfl) (by kernel_rfl)

theorem cycle_To.ok (O : Out) (k : Nat) (a0 : List T_cycle_Node) (a1 : List UInt8) (out : List (List UInt8)) (h : cycle_To.f k a0 a1 = some out) : COk Un O Try.prog 13 { ar := [.p (.list (.named 3)) a0, .p .str a1], r := .p (.list .str) out } := by
 refine cok_of_wp Try.func13 rfl (k := 9) rfl (Nat.le_of_ble_eq_true rfl) (namesOk_pure rfl rfl rfl rfl) ?_
 intro B hN
 refine WpC.conv (cvK (b := ⟨[(0, .p (.list (.named 3)) a0), (1, .p .str a1)], []⟩) [0, 1] [] (by kernel_rfl)) ?_
 unfold cycle_To.f at h
 refine WpC.seq ?_
 refine rS {} [0, 1] [] hN (by kernel_rfl) (by kernel_rfl) ?_
 refine tnU ?_
 refine WpC.seq ?_
 obtain ⟨v1, hv1, h⟩ := bind_some h
 refine rS { its := [(1, .c (COk.ren (cycle_arcsOf.ok O k a0 v1 hv1) (fun n => if n = 60500 then 10001 else n) (injOn_of (by kernel_rfl))))] } [4] [] hN (by kernel_rfl) (by kernel_rfl) ?_
 refine tnU ?_
 refine WpC.ret ?_
 have hq := Option.some.inj h
 subst hq
 exact eR (by kernel_rfl) (by kernel_rfl)

end Go.Proofs.Ytlmhnhlmlhfigaa
