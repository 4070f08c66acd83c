/- A part of the proof of a given law: CYC2. Own work, printed in part by a program of mine. -/
import Derived.Test.YtlmhnhlmlhfigaaK42CYC1
namespace Go.Proofs.Ytlmhnhlmlhfigaa
open Go Go.AM
set_option linter.unusedVariables false
set_option linter.unusedSimpArgs false
set_option maxRecDepth 100000
set_option maxHeartbeats 4000000
theorem cycle_Walk.ok (O : Out) (k : Nat) (a0 : List T_cycle_Node) (a1 : List (List UInt8)) (out : Bool) (h : cycle_Walk.f k a0 a1 = some out) : COk Un O Try.prog 17 { ar := [.p (.list (.named 3)) a0, .p (.list .str) a1], r := .p .bool out } := by
 refine cok_of_wp Try.func17 rfl (k := 34) rfl (Nat.le_of_ble_eq_true rfl) (namesOk_pure rfl rfl rfl rfl) ?_
 intro B hN
 refine WpC.conv (cvK (b := ⟨[(0, .p (.list (.named 3)) a0), (1, .p (.list .str) a1)], []⟩) [0, 1] [] (by kernel_rfl)) ?_
 unfold cycle_Walk.f at h
 refine WpC.seq ?_
 refine rS {} [0, 1] [] hN (by kernel_rfl) (by kernel_rfl) ?_
 refine tnU ?_
 refine WpC.seq ?_
 obtain ⟨v1, hv1, h⟩ := bind_some h
 refine rS { its := [(1, .c (COk.ren (cycle_arcsOf.ok O k a0 v1 hv1) (fun n => if n = 60500 then 10001 else n) (injOn_of (by kernel_rfl))))] } [1, 5] [10001] hN (by kernel_rfl) (by kernel_rfl) ?_
 refine tnU ?_
 refine sqJ (fun st' => cycle_Walk.j2 k a1 = some out ∧ st' = ⟨[(1, .p (.list .str) a1)], []⟩) ?_ ?_
 ·refine WpC.seq ?_
  refine rS {} [1, 5, 10, 11, 12] [10001] hN (by kernel_rfl) (by kernel_rfl) ?_
  refine tnU ?_
  refine WpC.block ?_
  obtain ⟨o5, hlo5, h⟩ := bind_some h
  have hout6 := h
  clear h
  refine WpC.loop (U := Un) (fun n st' => ∃ v3 : Int, cycle_Walk.l4 k a1 v1 n v3 = some o5 ∧ st' = ⟨[(1, .p (.list .str) a1), (5, .mp 10001), (10, .p (.list .str) a1), (11, .p I6 ((a1.length : Int) : Int)), (12, .p I6 v3)], [(10001, .map (.list .str) v1)]⟩) k ⟨0, hlo5, by kernel_rfl⟩ ?_
  clear hlo5
  rintro (_ | n) _ ⟨v3, h, rfl⟩
  ·cases h
  ·rw [cycle_Walk.l4] at h
   refine WpC.seq ?_
   refine rS {} [1, 5, 10, 11, 12, 13] [10001] hN (by kernel_rfl) (by kernel_rfl) ?_
   refine tnU ?_
   refine WpC.seq ?_
   refine tS (b := (decide (v3 < (a1.length : Int)))) (by kernel_rfl) (fun hc7 => ?_) (fun hc7 => ?_)
   ·replace h := ite_t hc7 h
    refine WpC.conv (cS [.k [1, 5, 10, 11, 12] [10001]] (by kernel_rfl) (by kernel_rfl)) (WpC.skip ?_)
    refine tnU ?_
    refine WpC.seq ?_
    refine WpC.block ?_
    refine WpC.seq ?_
    obtain ⟨v8, hv8, h⟩ := bind_some h
    refine rS { its := [(1, .v .str hv8)] } [1, 5, 6, 7, 10, 11, 12] [10001] hN (by kernel_rfl) (by kernel_rfl) ?_
    refine tnU ?_
    refine WpC.seq ?_
    obtain ⟨g9, h⟩ := if_some h
    obtain ⟨v10, hv10, h⟩ := bind_some h
    obtain ⟨v11, hv11, h⟩ := bind_some h
    refine rA { its := [(8, .g g9), (9, .v .str hv10), (11, .c (names_Has.ok O k ((mget v8 v1).getD []) v10 v11 hv11))] } [1, 5, 10, 11, 12, 29] [10001] hN (by kernel_rfl) (by kernel_rfl) (by kernel_rfl) ?_
    refine tnU ?_
    refine tS (b := (!v11)) (by kernel_rfl) (fun hc12 => ?_) (fun hc12 => ?_)
    ·replace h := ite_t hc12 h
     refine WpC.seq ?_
     refine rS {} [4] [] hN (by kernel_rfl) (by kernel_rfl) ?_
     refine tnU ?_
     refine WpC.ret ?_
     refine blockQ_ret ?_
     refine thenQ_ret ?_
     have hq := Option.some.inj h
     subst hq
     refine thenQ_ret ?_
     have h := hout6
     refine blockQ_ret ?_
     refine thenQ_ret ?_
     have hq := Option.some.inj h
     subst hq
     exact eR (by kernel_rfl) (by kernel_rfl)
    ·replace h := ite_f hc12 h
     refine WpC.conv (cS [.k [1, 5, 10, 11, 12] [10001]] (by kernel_rfl) (by kernel_rfl)) (WpC.skip ?_)
     refine blockQ_normal ?_
     refine tnU ?_
     refine rS {} [1, 5, 10, 11, 12] [10001] hN (by kernel_rfl) (by kernel_rfl) ?_
     refine tnU ?_
     exact ⟨n, Nat.lt_succ_self n, (IntKind.i64.wrap (v3 + 1)), h, by kernel_rfl⟩
   ·replace h := ite_f hc7 h
    refine WpC.conv (cS [.k [1] []] (by kernel_rfl) (by kernel_rfl)) (WpC.exit ?_)
    refine thenQ_exit ?_
    have hq := Option.some.inj h
    subst hq
    refine thenQ_exit ?_
    have h := hout6
    refine blockQ_hit ?_
    refine tnU ?_
    exact ⟨h, by kernel_rfl⟩
 ·rintro _ ⟨h, rfl⟩
  unfold cycle_Walk.j2 at h
  refine WpC.seq ?_
  refine rS {} [4] [] hN (by kernel_rfl) (by kernel_rfl) ?_
  refine tnU ?_
  refine WpC.ret ?_
  have hq := Option.some.inj h
  subst hq
  exact eR (by kernel_rfl) (by kernel_rfl)

theorem millwrightnum_Has.ok (O : Out) (k : Nat) (a0 : List (List UInt8)) (a1 : List UInt8) (out : Bool) (h : millwrightnum_Has.f k a0 a1 = some out) : COk Un O Try.prog 23 { ar := [.p (.list .str) a0, .p .str a1], r := .p .bool out } := by
 refine cok_of_wp Try.func23 rfl (k := 17) rfl (Nat.le_of_ble_eq_true rfl) (namesOk_pure rfl rfl rfl rfl) ?_
 intro B hN
 refine WpC.conv (cvK (b := ⟨[(0, .p (.list .str) a0), (1, .p .str a1)], []⟩) [0, 1] [] (by kernel_rfl)) ?_
 unfold millwrightnum_Has.f at h
 refine WpC.seq ?_
 refine rS {} [0, 1] [] hN (by kernel_rfl) (by kernel_rfl) ?_
 refine tnU ?_
 refine sqJ (fun st' => millwrightnum_Has.j1 k = some out ∧ st' = ⟨[], []⟩) ?_ ?_
 ·refine WpC.seq ?_
  refine rS {} [1, 7, 8, 9] [] hN (by kernel_rfl) (by kernel_rfl) ?_
  refine tnU ?_
  refine WpC.block ?_
  obtain ⟨o4, hlo4, h⟩ := bind_some h
  have hout5 := h
  clear h
  refine WpC.loop (U := Un) (fun n st' => ∃ v2 : Int, millwrightnum_Has.l3 k a0 a1 n v2 = some o4 ∧ st' = ⟨[(1, .p .str a1), (7, .p (.list .str) a0), (8, .p I6 ((a0.length : Int) : Int)), (9, .p I6 v2)], []⟩) k ⟨0, hlo4, by kernel_rfl⟩ ?_
  clear hlo4
  rintro (_ | n) _ ⟨v2, h, rfl⟩
  ·cases h
  ·rw [millwrightnum_Has.l3] at h
   refine WpC.seq ?_
   refine rS {} [1, 7, 8, 9, 10] [] hN (by kernel_rfl) (by kernel_rfl) ?_
   refine tnU ?_
   refine WpC.seq ?_
   refine tS (b := (decide (v2 < (a0.length : Int)))) (by kernel_rfl) (fun hc6 => ?_) (fun hc6 => ?_)
   ·replace h := ite_t hc6 h
    refine WpC.conv (cS [.k [1, 7, 8, 9] []] (by kernel_rfl) (by kernel_rfl)) (WpC.skip ?_)
    refine tnU ?_
    refine WpC.seq ?_
    refine WpC.block ?_
    refine WpC.seq ?_
    obtain ⟨v7, hv7, h⟩ := bind_some h
    refine rS { its := [(0, .v .str hv7)] } [1, 6, 7, 8, 9] [] hN (by kernel_rfl) (by kernel_rfl) ?_
    refine tnU ?_
    refine WpC.seq ?_
    refine rS {} [1, 7, 8, 9, 15] [] hN (by kernel_rfl) (by kernel_rfl) ?_
    refine tnU ?_
    refine tS (b := (v7 == a1)) (by kernel_rfl) (fun hc8 => ?_) (fun hc8 => ?_)
    ·replace h := ite_t hc8 h
     refine WpC.seq ?_
     refine rS {} [4] [] hN (by kernel_rfl) (by kernel_rfl) ?_
     refine tnU ?_
     refine WpC.ret ?_
     refine blockQ_ret ?_
     refine thenQ_ret ?_
     have hq := Option.some.inj h
     subst hq
     refine thenQ_ret ?_
     have h := hout5
     refine blockQ_ret ?_
     refine thenQ_ret ?_
     have hq := Option.some.inj h
     subst hq
     exact eR (by kernel_rfl) (by kernel_rfl)
    ·replace h := ite_f hc8 h
     refine WpC.conv (cS [.k [1, 7, 8, 9] []] (by kernel_rfl) (by kernel_rfl)) (WpC.skip ?_)
     refine blockQ_normal ?_
     refine tnU ?_
     refine rS {} [1, 7, 8, 9] [] hN (by kernel_rfl) (by kernel_rfl) ?_
     refine tnU ?_
     exact ⟨n, Nat.lt_succ_self n, (IntKind.i64.wrap (v2 + 1)), h, by kernel_rfl⟩
   ·replace h := ite_f hc6 h
    refine WpC.conv (cS [.k [] []] (by kernel_rfl) (by kernel_rfl)) (WpC.exit ?_)
    refine thenQ_exit ?_
    have hq := Option.some.inj h
    subst hq
    refine thenQ_exit ?_
    have h := hout5
    refine blockQ_hit ?_
    refine tnU ?_
    exact ⟨h, by kernel_rfl⟩
 ·rintro _ ⟨h, rfl⟩
  unfold millwrightnum_Has.j1 at h
  refine WpC.seq ?_
  refine rS {} [4] [] hN (by kernel_rfl) (by kernel_rfl) ?_
  refine tnU ?_
  refine WpC.ret ?_
  have hq := Option.some.inj h
  subst hq
  exact eR (by kernel_rfl) (by kernel_rfl)

theorem names_Without.ok (O : Out) (k : Nat) (a0 : List (List UInt8)) (a1 : List (List UInt8)) (out : List (List UInt8)) (h : names_Without.f k a0 a1 = some out) : COk Un O Try.prog 31 { ar := [.p (.list .str) a0, .p (.list .str) a1], r := .vec 60500 1 0 out.length, bs' := [(60500, .row 9 .str out false)], nn := [60500] } := by
 refine cok_of_wp Try.func31 rfl (k := 24) rfl (Nat.le_of_ble_eq_true rfl) (namesOk_of (by kernel_rfl)) ?_
 intro B hN
 refine WpC.conv (cvK (b := ⟨[(0, .p (.list .str) a0), (1, .p (.list .str) a1)], []⟩) [0, 1] [] (by kernel_rfl)) ?_
 unfold names_Without.f at h
 refine WpC.seq ?_
 refine rS {} [0, 1] [] hN (by kernel_rfl) (by kernel_rfl) ?_
 refine tnU ?_
 refine WpC.seq ?_
 refine rS {} [0, 1, 5] [] hN (by kernel_rfl) (by kernel_rfl) ?_
 refine tnU ?_
 refine sqJ (fun st' => ∃ v1 : List (List UInt8), names_Without.j2 k v1 = some out ∧ st' = ⟨[(5, .vec 1005 1 0 v1.length)], [(1005, .row 9 .str v1 false)]⟩) ?_ ?_
 ·refine WpC.seq ?_
  refine rS {} [1, 5, 8, 9, 10] [] hN (by kernel_rfl) (by kernel_rfl) ?_
  refine tnU ?_
  refine WpC.block ?_
  obtain ⟨o7, hlo7, h⟩ := bind_some h
  have hout8 := h
  clear h
  refine WpC.conv (cS [.th 5 1005 9 .str, .k [1, 5, 8, 9, 10] [1005]] (by kernel_rfl) (by kernel_rfl)) ?_
  refine WpC.loop (U := Un) (fun n st' => ∃ v3 : List (List UInt8), ∃ v4 : Int, names_Without.l5 k a0 a1 n v3 v4 = some o7 ∧ st' = ⟨[(1, .p (.list .str) a1), (5, .vec 1005 1 0 v3.length), (8, .p (.list .str) a0), (9, .p I6 ((a0.length : Int) : Int)), (10, .p I6 v4)], [(1005, .row 9 .str v3 false)]⟩) k ⟨[], 0, hlo7, by kernel_rfl⟩ ?_
  clear hlo7
  rintro (_ | n) _ ⟨v3, v4, h, rfl⟩
  ·cases h
  ·rw [names_Without.l5] at h
   refine WpC.seq ?_
   refine rS {} [1, 5, 8, 9, 10, 11] [1005] hN (by kernel_rfl) (by kernel_rfl) ?_
   refine tnU ?_
   refine WpC.seq ?_
   refine tS (b := (decide (v4 < (a0.length : Int)))) (by kernel_rfl) (fun hc9 => ?_) (fun hc9 => ?_)
   ·replace h := ite_t hc9 h
    refine WpC.conv (cS [.k [1, 5, 8, 9, 10] [1005]] (by kernel_rfl) (by kernel_rfl)) (WpC.skip ?_)
    refine tnU ?_
    refine sqJ (fun st' => ∃ v10 : List (List UInt8), names_Without.j11 k (names_Without.l5 k a0 a1 n) a0 a1 v4 v10 = some o7 ∧ st' = ⟨[(1, .p (.list .str) a1), (5, .vec 1005 1 0 v10.length), (8, .p (.list .str) a0), (9, .p I6 ((a0.length : Int) : Int)), (10, .p I6 v4)], [(1005, .row 9 .str v10 false)]⟩) ?_ ?_
    ·refine WpC.block ?_
     refine WpC.seq ?_
     obtain ⟨v12, hv12, h⟩ := bind_some h
     refine rS { its := [(0, .v .str hv12)] } [1, 5, 7, 8, 9, 10] [1005] hN (by kernel_rfl) (by kernel_rfl) ?_
     refine tnU ?_
     refine WpC.seq ?_
     obtain ⟨v13, hv13, h⟩ := bind_some h
     refine rS { its := [(2, .c (names_Has.ok O k a1 v12 v13 hv13))] } [1, 5, 7, 8, 9, 10, 17] [1005] hN (by kernel_rfl) (by kernel_rfl) ?_
     refine tnU ?_
     refine tS (b := (!v13)) (by kernel_rfl) (fun hc14 => ?_) (fun hc14 => ?_)
     ·replace h := ite_t hc14 h
      obtain ⟨g15, h⟩ := if_some h
      refine rSC { its := [(3, .g g15)] } [1, 5, 8, 9, 10] [21] hN (by kernel_rfl) (by kernel_rfl) (cS [.rn 21 1005, .k [1, 5, 8, 9, 10] [1005]] (by kernel_rfl) (by kernel_rfl)) ?_
      refine blockQ_normal ?_
      refine tnU ?_
      exact ⟨(v3 ++ [v12]), h, by kernel_rfl⟩
     ·replace h := ite_f hc14 h
      refine WpC.conv (cS [.k [1, 5, 8, 9, 10] [1005]] (by kernel_rfl) (by kernel_rfl)) (WpC.skip ?_)
      refine blockQ_normal ?_
      refine tnU ?_
      exact ⟨v3, h, by kernel_rfl⟩
    ·rintro _ ⟨v10, h, rfl⟩
     unfold names_Without.j11 at h
     refine rS {} [1, 5, 8, 9, 10] [1005] hN (by kernel_rfl) (by kernel_rfl) ?_
     refine tnU ?_
     exact ⟨n, Nat.lt_succ_self n, v10, (IntKind.i64.wrap (v4 + 1)), h, by kernel_rfl⟩
   ·replace h := ite_f hc9 h
    refine WpC.conv (cS [.k [5] [1005]] (by kernel_rfl) (by kernel_rfl)) (WpC.exit ?_)
    refine thenQ_exit ?_
    have hq := Option.some.inj h
    subst hq
    refine thenQ_exit ?_
    have h := hout8
    refine blockQ_hit ?_
    refine tnU ?_
    exact ⟨v3, h, by kernel_rfl⟩
 ·rintro _ ⟨v1, h, rfl⟩
  unfold names_Without.j2 at h
  refine WpC.seq ?_
  refine rS {} [4] [1005] hN (by kernel_rfl) (by kernel_rfl) ?_
  refine tnU ?_
  refine WpC.conv (cS [.rn 1005 60500, .k [4] [60500]] (by kernel_rfl) (by kernel_rfl)) (WpC.ret ?_)
  have hq := Option.some.inj h
  subst hq
  exact eR (by kernel_rfl) (by kernel_rfl)

theorem cycle_Order.ok (O : Out) (k : Nat) (a0 : List T_cycle_Node) (out : (List (List UInt8)) × Bool) (h : cycle_Order.f k a0 = some out) : COk Un O Try.prog 21 { ar := [.p (.list (.named 3)) a0], r := .tup [.p (.list .str) out.1, .p .bool out.2] } := by
 refine cok_of_wp Try.func21 rfl (k := 41) rfl (Nat.le_of_ble_eq_true rfl) (namesOk_pure rfl rfl rfl rfl) ?_
 intro B hN
 refine WpC.conv (cvK (b := ⟨[(0, .p (.list (.named 3)) a0)], []⟩) [0] [] (by kernel_rfl)) ?_
 unfold cycle_Order.f at h
 refine WpC.seq ?_
 refine rS {} [0] [] hN (by kernel_rfl) (by kernel_rfl) ?_
 refine tnU ?_
 refine WpC.scope ?_
 refine WpC.seq ?_
 obtain ⟨v1, hv1, h⟩ := bind_some h
 refine rS { its := [(1, .c (COk.ren (cycle_arcsOf.ok O k a0 v1 hv1) (fun n => if n = 60500 then 10001 else n) (injOn_of (by kernel_rfl))))] } [0, 4] [10001] hN (by kernel_rfl) (by kernel_rfl) ?_
 refine tnU ?_
 refine WpC.seq ?_
 obtain ⟨v2, hv2, h⟩ := bind_some h
 refine rS { its := [(1, .c (COk.ren (cycle_Names.ok O k a0 v2 hv2) (fun n => if n = 60500 then 10002 else n) (injOn_of (by kernel_rfl))))] } [4, 5] [10001, 10002] hN (by kernel_rfl) (by kernel_rfl) ?_
 refine tnU ?_
 refine WpC.seq ?_
 refine rS {} [4, 5, 6] [10001, 10002] hN (by kernel_rfl) (by kernel_rfl) ?_
 refine tnU ?_
 refine WpC.seq ?_
 refine WpC.label ?_
 refine tnU ?_
 refine sqJ (fun st' => ∃ v3 : List (List UInt8), cycle_Order.j4 k v3 = some out ∧ st' = ⟨[(6, .vec 1006 1 0 v3.length)], [(1006, .row 9 .str v3 false)]⟩) ?_ ?_
 ·refine WpC.block ?_
  obtain ⟨o9, hlo9, h⟩ := bind_some h
  have hout10 := h
  clear h
  refine WpC.conv (cS [.rn 10002 1005, .k [4, 5, 6] [1005, 10001], .th 6 1006 9 .str, .k [4, 5, 6] [1005, 1006, 10001]] (by kernel_rfl) (by kernel_rfl)) ?_
  refine WpC.loop (U := Un) (fun n st' => ∃ v5 : List (List UInt8), ∃ v6 : List (List UInt8), cycle_Order.l7 k v1 n v5 v6 = some o9 ∧ st' = ⟨[(4, .mp 10001), (5, .vec 1005 1 0 v5.length), (6, .vec 1006 1 0 v6.length)], [(1005, .row 9 .str v5 false), (1006, .row 9 .str v6 false), (10001, .map (.list .str) v1)]⟩) k ⟨v2, [], hlo9, by kernel_rfl⟩ ?_
  clear hlo9
  rintro (_ | n0) _ ⟨v5, v6, h, rfl⟩
  ·cases h
  ·rw [cycle_Order.l7] at h
   refine WpC.seq ?_
   refine WpC.seq ?_
   refine rS {} [4, 5, 6, 15] [1005, 1006, 10001] hN (by kernel_rfl) (by kernel_rfl) ?_
   refine tnU ?_
   refine tS (b := (decide ((v5.length : Int) > 0))) (by kernel_rfl) (fun hc11 => ?_) (fun hc11 => ?_)
   ·replace h := ite_t hc11 h
    refine WpC.conv (cS [.k [4, 5, 6] [1005, 1006, 10001]] (by kernel_rfl) (by kernel_rfl)) (WpC.skip ?_)
    refine tnU ?_
    refine WpC.block ?_
    refine sqJ (fun st' => cycle_Order.j12 k = some o9 ∧ st' = ⟨[], []⟩) ?_ ?_
    ·refine WpC.seq ?_
     refine rS {} [4, 5, 6, 16, 17, 18] [1005, 1006, 10001] hN (by kernel_rfl) (by kernel_rfl) ?_
     refine tnU ?_
     refine WpC.block ?_
     obtain ⟨o19, hlo19, h⟩ := bind_some h
     have hout20 := h
     clear h
     refine WpC.loop (U := Un) (fun n st' => ∃ v13 : List (List UInt8), ∃ v14 : List (List UInt8), ∃ v15 : Int, cycle_Order.l16 k v1 v5 n v13 v14 v15 = some o19 ∧ st' = ⟨[(4, .mp 10001), (5, .vec 1005 1 0 v13.length), (6, .vec 1006 1 0 v14.length), (16, .vec 1005 1 0 v5.length), (17, .p I6 ((v5.length : Int) : Int)), (18, .p I6 v15)], [(1005, .row 9 .str v13 false), (1006, .row 9 .str v14 false), (10001, .map (.list .str) v1)]⟩) k ⟨v5, v6, 0, hlo19, by kernel_rfl⟩ ?_
     clear hlo19
     rintro (_ | n) _ ⟨v13, v14, v15, h, rfl⟩
     ·cases h
     ·rw [cycle_Order.l16] at h
      refine WpC.seq ?_
      refine rS {} [4, 5, 6, 16, 17, 18, 19] [1005, 1006, 10001] hN (by kernel_rfl) (by kernel_rfl) ?_
      refine tnU ?_
      refine WpC.seq ?_
      refine tS (b := (decide (v15 < (v5.length : Int)))) (by kernel_rfl) (fun hc21 => ?_) (fun hc21 => ?_)
      ·replace h := ite_t hc21 h
       refine WpC.conv (cS [.k [4, 5, 6, 16, 17, 18] [1005, 1006, 10001]] (by kernel_rfl) (by kernel_rfl)) (WpC.skip ?_)
       refine tnU ?_
       refine WpC.seq ?_
       refine WpC.block ?_
       refine WpC.seq ?_
       obtain ⟨g22, h⟩ := if_some h
       obtain ⟨v23, hv23, h⟩ := bind_some h
       refine rS { its := [(1, .g g22), (2, .v .str hv23)] } [4, 5, 6, 7, 8, 16, 17, 18] [1005, 1006, 10001] hN (by kernel_rfl) (by kernel_rfl) ?_
       refine tnU ?_
       refine WpC.seq ?_
       obtain ⟨v24, hv24, h⟩ := bind_some h
       refine rS { its := [(4, .c (COk.ren (names_Without.ok O k ((mget v23 v1).getD []) v14 v24 hv24) (fun n => if n = 60500 then 10003 else n) (injOn_of (by kernel_rfl))))] } [4, 5, 6, 7, 8, 16, 17, 18, 29] [1005, 1006, 10001] hN (by kernel_rfl) (by kernel_rfl) ?_
       refine tnU ?_
       refine tS (b := ((v24.length : Int) == 0)) (by kernel_rfl) (fun hc25 => ?_) (fun hc25 => ?_)
       ·replace h := ite_t hc25 h
        refine WpC.seq ?_
        obtain ⟨g26, h⟩ := if_some h
        refine rS { its := [(3, .g g26)] } [4, 5, 6, 7] [33, 1005, 10001] hN (by kernel_rfl) (by kernel_rfl) ?_
        refine tnU ?_
        refine WpC.seq ?_
        obtain ⟨v27, hv27, h⟩ := bind_some h
        refine rS { its := [(4, .c (COk.ren (pDeleteRR.ok O k v13 v15 (IntKind.i64.wrap (v15 + 1)) v27 hv27) (fun n => if n = 60500 then 10004 else if n = 100000 then 1005 else n) (injOn_of (by kernel_rfl))))] } [4, 5, 6] [33, 10001, 10004] hN (by kernel_rfl) (by kernel_rfl) ?_
        refine tnU ?_
        refine WpC.conv (cS [.rn 10004 1005, .k [4, 5, 6] [33, 1005, 10001], .rn 33 1006, .k [4, 5, 6] [1005, 1006, 10001]] (by kernel_rfl) (by kernel_rfl)) (WpC.exit ?_)
        refine blockQ_pass (by decide) ?_
        refine thenQ_exit ?_
        have hq := Option.some.inj h
        subst hq
        refine thenQ_exit ?_
        have h := hout20
        refine blockQ_pass (by decide) ?_
        refine thenQ_exit ?_
        refine blockQ_hit ?_
        refine tnU ?_
        exact ⟨n0, Nat.lt_succ_self n0, v27, (v14 ++ [v23]), h, by kernel_rfl⟩
       ·replace h := ite_f hc25 h
        refine WpC.conv (cS [.k [4, 5, 6, 16, 17, 18] [1005, 1006, 10001]] (by kernel_rfl) (by kernel_rfl)) (WpC.skip ?_)
        refine blockQ_normal ?_
        refine tnU ?_
        refine rS {} [4, 5, 6, 16, 17, 18] [1005, 1006, 10001] hN (by kernel_rfl) (by kernel_rfl) ?_
        refine tnU ?_
        exact ⟨n, Nat.lt_succ_self n, v13, v14, (IntKind.i64.wrap (v15 + 1)), h, by kernel_rfl⟩
      ·replace h := ite_f hc21 h
       refine WpC.conv (cS [.k [] []] (by kernel_rfl) (by kernel_rfl)) (WpC.exit ?_)
       refine thenQ_exit ?_
       have hq := Option.some.inj h
       subst hq
       refine thenQ_exit ?_
       have h := hout20
       refine blockQ_hit ?_
       refine tnU ?_
       exact ⟨h, by kernel_rfl⟩
    ·rintro _ ⟨h, rfl⟩
     unfold cycle_Order.j12 at h
     refine WpC.seq ?_
     refine rS {} [2, 3] [] hN (by kernel_rfl) (by kernel_rfl) ?_
     refine tnU ?_
     refine WpC.conv (cS [.nL 2 .str, .k [2, 3] []] (by kernel_rfl) (by kernel_rfl)) (WpC.ret ?_)
     refine blockQ_ret ?_
     have hq := Option.some.inj h
     subst hq
     refine thenQ_ret ?_
     have h := hout10
     refine blockQ_ret ?_
     refine thenQ_ret ?_
     refine noGotoQ_ret ?_
     have hq := Option.some.inj h
     subst hq
     exact eR (by kernel_rfl) (by kernel_rfl)
   ·replace h := ite_f hc11 h
    refine WpC.conv (cS [.k [6] [1006]] (by kernel_rfl) (by kernel_rfl)) (WpC.exit ?_)
    refine thenQ_exit ?_
    have hq := Option.some.inj h
    subst hq
    refine thenQ_exit ?_
    have h := hout10
    refine blockQ_hit ?_
    refine tnU ?_
    exact ⟨v6, h, by kernel_rfl⟩
 ·rintro _ ⟨v3, h, rfl⟩
  unfold cycle_Order.j4 at h
  refine WpC.seq ?_
  refine rS {} [2, 3] [1006] hN (by kernel_rfl) (by kernel_rfl) ?_
  refine tnU ?_
  refine WpC.conv (cS [.fz 2, .k [2, 3] []] (by kernel_rfl) (by kernel_rfl)) (WpC.ret ?_)
  refine noGotoQ_ret ?_
  have hq := Option.some.inj h
  subst hq
  exact eR (by kernel_rfl) (by kernel_rfl)

end Go.Proofs.Ytlmhnhlmlhfigaa
