/- A part of the proof of a given law: CYC2. Own work, printed in part by a program of mine. -/
import Derived.Test.YtlmhnhlmlhfigaaK40CYC1
namespace Go.Proofs.Ytlmhnhlmlhfigaa
open Go Go.AM
set_option linter.unusedVariables false
set_option linter.unusedSimpArgs false
set_option maxRecDepth 100000
set_option maxHeartbeats 4000000
theorem cycle_Walk.ok (O : Out) (k : Nat) (a0 : List T_cycle_Node) (a1 : List (List UInt8)) (out : Bool) (h : cycle_Walk.f k a0 a1 = some out) : COk Un O Try.prog 17 { ar := [.p (.list (.named 3)) a0, .p (.list .str) a1], r := .p .bool out } := by
 refine cok_of_wp Try.func17 rfl (k := 34) rfl (Nat.le_of_ble_eq_true rfl) (namesOk_pure rfl rfl rfl rfl) ?_
 intro B hN
 refine WpC.conv (cvK (b := ⟨[(0, .p (.list (.named 3)) a0), (1, .p (.list .str) a1)], []⟩) [0, 1] [] (by kernel_rfl)) ?_
 unfold cycle_Walk.f at h
 refine WpC.seq ?_
 refine rS {} [0, 1] [] hN (by kernel_rfl) (by kernel_rfl) ?_
 refine tnU ?_
 refine WpC.seq ?_
 obtain ⟨v1, hv1, h⟩ := bind_some h
 refine rS { its := [(1, .c (COk.ren (cycle_arcsOf.ok O k a0 v1 hv1) (fun n => if n = 60500 then 10001 else n) (injOn_of (by kernel_rfl))))] } [1, 5] [10001] hN (by kernel_rfl) (by kernel_rfl) ?_
 refine tnU ?_
 refine sqJ (fun st' => cycle_Walk.j2 k a1 = some out ∧ st' = ⟨[(1, .p (.list .str) a1)], []⟩) ?_ ?_
 ·refine WpC.seq ?_
  refine rS {} [1, 5, 10, 11, 12] [10001] hN (by kernel_rfl) (by kernel_rfl) ?_
  refine tnU ?_
  refine WpC.block ?_
  obtain ⟨o5, hlo5, h⟩ := bind_some h
  have hout6 := h
  clear h
  refine WpC.loop (U := Un) (fun n st' => ∃ v3 : Int, cycle_Walk.l4 k a1 v1 n v3 = some o5 ∧ st' = ⟨[(1, .p (.list .str) a1), (5, .mp 10001), (10, .p (.list .str) a1), (11, .p I6 ((a1.length : Int) : Int)), (12, .p I6 v3)], [(10001, .map (.list .str) v1)]⟩) k ⟨0, hlo5, by kernel_rfl⟩ ?_
  clear hlo5
  rintro (_ | n) _ ⟨v3, h, rfl⟩
  ·cases h
  ·rw [cycle_Walk.l4] at h
   refine WpC.seq ?_
   refine rS {} [1, 5, 10, 11, 12, 13] [10001] hN (by kernel_rfl) (by kernel_rfl) ?_
   refine tnU ?_
   refine WpC.seq ?_
   refine tS (b := (decide (v3 < (a1.length : Int)))) (by kernel_rfl) (fun hc7 => ?_) (fun hc7 => ?_)
   ·replace h := ite_t hc7 h
    refine WpC.conv (cS [.k [1, 5, 10, 11, 12] [10001]] (by kernel_rfl) (by kernel_rfl)) (WpC.skip ?_)
    refine tnU ?_
    refine WpC.seq ?_
    refine WpC.block ?_
    refine WpC.seq ?_
    obtain ⟨v8, hv8, h⟩ := bind_some h
    refine rS { its := [(1, .v .str hv8)] } [1, 5, 6, 7, 10, 11, 12] [10001] hN (by kernel_rfl) (by kernel_rfl) ?_
    refine tnU ?_
    refine WpC.seq ?_
    obtain ⟨g9, h⟩ := if_some h
    obtain ⟨v10, hv10, h⟩ := bind_some h
    obtain ⟨v11, hv11, h⟩ := bind_some h
    refine rA { its := [(8, .g g9), (9, .v .str hv10), (11, .c (names_Has.ok O k ((mget v8 v1).getD []) v10 v11 hv11))] } [1, 5, 10, 11, 12, 29] [10001] hN (by kernel_rfl) (by kernel_rfl) (by kernel_rfl) ?_
    refine tnU ?_
    refine tS (b := (!v11)) (by kernel_rfl) (fun hc12 => ?_) (fun hc12 => ?_)
    ·replace h := ite_t hc12 h
     refine WpC.seq ?_
     refine rS {} [4] [] hN (by kernel_rfl) (by kernel_rfl) ?_
     refine tnU ?_
     refine WpC.ret ?_
     refine blockQ_ret ?_
     refine thenQ_ret ?_
     have hq := Option.some.inj h
     subst hq
     refine thenQ_ret ?_
     have h := hout6
     refine blockQ_ret ?_
     refine thenQ_ret ?_
     have hq := Option.some.inj h
     subst hq
     exact eR (by kernel_rfl) (by kernel_rfl)
    ·replace h := ite_f hc12 h
     refine WpC.conv (cS [.k [1, 5, 10, 11, 12] [10001]] (by kernel_rfl) (by kernel_rfl)) (WpC.skip ?_)
     refine blockQ_normal ?_
     refine tnU ?_
     refine rS {} [1, 5, 10, 11, 12] [10001] hN (by kernel_rfl) (by kernel_rfl) ?_
     refine tnU ?_
     exact ⟨n, Nat.lt_succ_self n, (IntKind.i64.wrap (v3 + 1)), h, by kernel_rfl⟩
   ·replace h := ite_f hc7 h
    refine WpC.conv (cS [.k [1] []] (by kernel_rfl) (by kernel_rfl)) (WpC.exit ?_)
    refine thenQ_exit ?_
    have hq := Option.some.inj h
    subst hq
    refine thenQ_exit ?_
    have h := hout6
    refine blockQ_hit ?_
    refine tnU ?_
    exact ⟨h, by kernel_rfl⟩
 ·rintro _ ⟨h, rfl⟩
  unfold cycle_Walk.j2 at h
  refine WpC.seq ?_
  refine rS {} [4] [] hN (by kernel_rfl) (by kernel_rfl) ?_
  refine tnU ?_
  refine WpC.ret ?_
  have hq := Option.some.inj h
  subst hq
  exact eR (by kernel_rfl) (by kernel_rfl)

theorem millwrightnum_Has.ok (O : Out) (k : Nat) (a0 : List (List UInt8)) (a1 : List UInt8) (out : Bool) (h : millwrightnum_Has.f k a0 a1 = some out) : COk Un O Try.prog 23 { ar := [.p (.list .str) a0, .p .str a1], r := .p .bool out } := by
 refine cok_of_wp Try.func23 rfl (k := 17) rfl (Nat.le_of_ble_eq_true rfl) (namesOk_pure rfl rfl rfl rfl) ?_
 intro B hN
 refine WpC.conv (cvK (b := ⟨[(0, .p (.list .str) a0), (1, .p .str a1)], []⟩) [0, 1] [] (by kernel_rfl)) ?_
 unfold millwrightnum_Has.f at h
 refine WpC.seq ?_
 refine rS {} [0, 1] [] hN (by kernel_rfl) (by kernel_rfl) ?_
 refine tnU ?_
 refine sqJ (fun st' => millwrightnum_Has.j1 k = some out ∧ st' = ⟨[], []⟩) ?_ ?_
 ·refine WpC.seq ?_
  refine rS {} [1, 7, 8, 9] [] hN (by kernel_rfl) (by kernel_rfl) ?_
  refine tnU ?_
  refine WpC.block ?_
  obtain ⟨o4, hlo4, h⟩ := bind_some h
  have hout5 := h
  clear h
  refine WpC.loop (U := Un) (fun n st' => ∃ v2 : Int, millwrightnum_Has.l3 k a0 a1 n v2 = some o4 ∧ st' = ⟨[(1, .p .str a1), (7, .p (.list .str) a0), (8, .p I6 ((a0.length : Int) : Int)), (9, .p I6 v2)], []⟩) k ⟨0, hlo4, by kernel_rfl⟩ ?_
  clear hlo4
  rintro (_ | n) _ ⟨v2, h, rfl⟩
  ·cases h
  ·rw [millwrightnum_Has.l3] at h
   refine WpC.seq ?_
   refine rS {} [1, 7, 8, 9, 10] [] hN (by kernel_rfl) (by kernel_rfl) ?_
   refine tnU ?_
   refine WpC.seq ?_
   refine tS (b := (decide (v2 < (a0.length : Int)))) (by kernel_rfl) (fun hc6 => ?_) (fun hc6 => ?_)
   ·replace h := ite_t hc6 h
    refine WpC.conv (cS [.k [1, 7, 8, 9] []] (by kernel_rfl) (by kernel_rfl)) (WpC.skip ?_)
    refine tnU ?_
    refine WpC.seq ?_
    refine WpC.block ?_
    refine WpC.seq ?_
    obtain ⟨v7, hv7, h⟩ := bind_some h
    refine rS { its := [(0, .v .str hv7)] } [1, 6, 7, 8, 9] [] hN (by kernel_rfl) (by kernel_rfl) ?_
    refine tnU ?_
    refine WpC.seq ?_
    refine rS {} [1, 7, 8, 9, 15] [] hN (by kernel_rfl) (by kernel_rfl) ?_
    refine tnU ?_
    refine tS (b := (v7 == a1)) (by kernel_rfl) (fun hc8 => ?_) (fun hc8 => ?_)
    ·replace h := ite_t hc8 h
     refine WpC.seq ?_
     refine rS {} [4] [] hN (by kernel_rfl) (by kernel_rfl) ?_
     refine tnU ?_
     refine WpC.ret ?_
     refine blockQ_ret ?_
     refine thenQ_ret ?_
     have hq := Option.some.inj h
     subst hq
     refine thenQ_ret ?_
     have h := hout5
     refine blockQ_ret ?_
     refine thenQ_ret ?_
     have hq := Option.some.inj h
     subst hq
     exact eR (by kernel_rfl) (by kernel_rfl)
    ·replace h := ite_f hc8 h
     refine WpC.conv (cS [.k [1, 7, 8, 9] []] (by kernel_rfl) (by kernel_rfl)) (WpC.skip ?_)
     refine blockQ_normal ?_
     refine tnU ?_
     refine rS {} [1, 7, 8, 9] [] hN (by kernel_rfl) (by kernel_rfl) ?_
     refine tnU ?_
     exact ⟨n, Nat.lt_succ_self n, (IntKind.i64.wrap (v2 + 1)), h, by kernel_rfl⟩
   ·replace h := ite_f hc6 h
    refine WpC.conv (cS [.k [] []] (by kernel_rfl) (by kernel_rfl)) (WpC.exit ?_)
    refine thenQ_exit ?_
    have hq := Option.some.inj h
    subst hq
    refine thenQ_exit ?_
    have h := hout5
    refine blockQ_hit ?_
    refine tnU ?_
    exact ⟨h, by kernel_rfl⟩
 ·rintro _ ⟨h, rfl⟩
  unfold millwrightnum_Has.j1 at h
  refine WpC.seq ?_
  refine rS {} [4] [] hN (by kernel_rfl) (by kernel_rfl) ?_
  refine tnU ?_
  refine WpC.ret ?_
  have hq := Option.some.inj h
  subst hq
  exact eR (by kernel_rfl) (by kernel_rfl)

theorem millwrightref25_Walk.ok (O : Out) (k : Nat) (a0 : List T_cycle_Node) (a1 : List (List UInt8)) (out : Bool) (h : millwrightref25_Walk.f k a0 a1 = some out) : COk Un O Try.prog 18 { ar := [.p (.list (.named 3)) a0, .p (.list .str) a1], r := .p .bool out } := by
 refine cok_of_wp Try.func18 rfl (k := 38) rfl (Nat.le_of_ble_eq_true rfl) (namesOk_pure rfl rfl rfl rfl) ?_
 intro B hN
 refine WpC.conv (cvK (b := ⟨[(0, .p (.list (.named 3)) a0), (1, .p (.list .str) a1)], []⟩) [0, 1] [] (by kernel_rfl)) ?_
 unfold millwrightref25_Walk.f at h
 refine WpC.seq ?_
 refine rS {} [0, 1] [] hN (by kernel_rfl) (by kernel_rfl) ?_
 refine tnU ?_
 refine sqJ (fun st' => millwrightref25_Walk.j1 k a1 = some out ∧ st' = ⟨[(1, .p (.list .str) a1)], []⟩) ?_ ?_
 ·refine WpC.seq ?_
  refine rS {} [0, 1, 8, 9] [] hN (by kernel_rfl) (by kernel_rfl) ?_
  refine tnU ?_
  refine WpC.block ?_
  obtain ⟨o4, hlo4, h⟩ := bind_some h
  have hout5 := h
  clear h
  refine WpC.loop (U := Un) (fun n st' => ∃ v2 : Int, millwrightref25_Walk.l3 k a0 a1 n v2 = some o4 ∧ st' = ⟨[(0, .p (.list (.named 3)) a0), (1, .p (.list .str) a1), (8, .p I6 ((a1.length : Int) : Int)), (9, .p I6 v2)], []⟩) k ⟨0, hlo4, by kernel_rfl⟩ ?_
  clear hlo4
  rintro (_ | n) _ ⟨v2, h, rfl⟩
  ·cases h
  ·rw [millwrightref25_Walk.l3] at h
   refine WpC.seq ?_
   refine rS {} [0, 1, 8, 9, 10] [] hN (by kernel_rfl) (by kernel_rfl) ?_
   refine tnU ?_
   refine WpC.seq ?_
   refine tS (b := (decide (v2 < (a1.length : Int)))) (by kernel_rfl) (fun hc6 => ?_) (fun hc6 => ?_)
   ·replace h := ite_t hc6 h
    refine WpC.conv (cS [.k [0, 1, 8, 9] []] (by kernel_rfl) (by kernel_rfl)) (WpC.skip ?_)
    refine tnU ?_
    refine sqJ (fun st' => millwrightref25_Walk.j7 k (millwrightref25_Walk.l3 k a0 a1 n) a0 a1 v2 = some o4 ∧ st' = ⟨[(0, .p (.list (.named 3)) a0), (1, .p (.list .str) a1), (8, .p I6 ((a1.length : Int) : Int)), (9, .p I6 v2)], []⟩) ?_ ?_
    ·refine WpC.block ?_
     refine WpC.seq ?_
     refine rS {} [0, 1, 5, 8, 9] [] hN (by kernel_rfl) (by kernel_rfl) ?_
     refine tnU ?_
     refine WpC.seq ?_
     obtain ⟨v8, hv8, h⟩ := bind_some h
     refine rS { its := [(1, .v .str hv8)] } [0, 1, 5, 6, 8, 9] [] hN (by kernel_rfl) (by kernel_rfl) ?_
     refine tnU ?_
     refine sqJ (fun st' => ∃ v9 : List UInt8, millwrightref25_Walk.j14 k (millwrightref25_Walk.l3 k a0 a1 n) a0 a1 v2 v9 = some o4 ∧ st' = ⟨[(0, .p (.list (.named 3)) a0), (1, .p (.list .str) a1), (5, .p I6 v2), (6, .p .str v9), (8, .p I6 ((a1.length : Int) : Int)), (9, .p I6 v2)], []⟩) ?_ ?_
     ·refine WpC.seq ?_
      refine rS {} [0, 1, 5, 6, 8, 9, 19] [] hN (by kernel_rfl) (by kernel_rfl) ?_
      refine tnU ?_
      refine tS (b := (decide (v2 < (IntKind.i64.wrap ((a1.length : Int) - 1))))) (by kernel_rfl) (fun hc15 => ?_) (fun hc15 => ?_)
      ·replace h := ite_t hc15 h
       obtain ⟨v16, hv16, h⟩ := bind_some h
       refine rS { its := [(3, .v .str hv16)] } [0, 1, 5, 6, 8, 9] [] hN (by kernel_rfl) (by kernel_rfl) ?_
       refine tnU ?_
       exact ⟨v16, h, by kernel_rfl⟩
      ·replace h := ite_f hc15 h
       refine WpC.conv (cS [.k [0, 1, 5, 6, 8, 9] []] (by kernel_rfl) (by kernel_rfl)) (WpC.skip ?_)
       refine tnU ?_
       exact ⟨v8, h, by kernel_rfl⟩
     ·rintro _ ⟨v9, h, rfl⟩
      unfold millwrightref25_Walk.j14 at h
      refine WpC.seq ?_
      obtain ⟨v10, hv10, h⟩ := bind_some h
      obtain ⟨v11, hv11, h⟩ := bind_some h
      obtain ⟨v12, hv12, h⟩ := bind_some h
      refine rS { its := [(3, .v .str hv10), (5, .c (millwrightref25_To.ok O k a0 v10 v11 hv11)), (7, .c (millwrightnum_Has.ok O k v11 v9 v12 hv12))] } [0, 1, 8, 9, 33] [] hN (by kernel_rfl) (by kernel_rfl) ?_
      refine tnU ?_
      refine tS (b := (!v12)) (by kernel_rfl) (fun hc13 => ?_) (fun hc13 => ?_)
      ·replace h := ite_t hc13 h
       refine WpC.seq ?_
       refine rS {} [4] [] hN (by kernel_rfl) (by kernel_rfl) ?_
       refine tnU ?_
       refine WpC.ret ?_
       refine blockQ_ret ?_
       refine thenQ_ret ?_
       have hq := Option.some.inj h
       subst hq
       refine thenQ_ret ?_
       have h := hout5
       refine blockQ_ret ?_
       refine thenQ_ret ?_
       have hq := Option.some.inj h
       subst hq
       exact eR (by kernel_rfl) (by kernel_rfl)
      ·replace h := ite_f hc13 h
       refine WpC.conv (cS [.k [0, 1, 8, 9] []] (by kernel_rfl) (by kernel_rfl)) (WpC.skip ?_)
       refine blockQ_normal ?_
       refine tnU ?_
       exact ⟨h, by kernel_rfl⟩
    ·rintro _ ⟨h, rfl⟩
     unfold millwrightref25_Walk.j7 at h
     refine rS {} [0, 1, 8, 9] [] hN (by kernel_rfl) (by kernel_rfl) ?_
     refine tnU ?_
     exact ⟨n, Nat.lt_succ_self n, (IntKind.i64.wrap (v2 + 1)), h, by kernel_rfl⟩
   ·replace h := ite_f hc6 h
    refine WpC.conv (cS [.k [1] []] (by kernel_rfl) (by kernel_rfl)) (WpC.exit ?_)
    refine thenQ_exit ?_
    have hq := Option.some.inj h
    subst hq
    refine thenQ_exit ?_
    have h := hout5
    refine blockQ_hit ?_
    refine tnU ?_
    exact ⟨h, by kernel_rfl⟩
 ·rintro _ ⟨h, rfl⟩
  unfold millwrightref25_Walk.j1 at h
  refine WpC.seq ?_
  refine rS {} [4] [] hN (by kernel_rfl) (by kernel_rfl) ?_
  refine tnU ?_
  refine WpC.ret ?_
  have hq := Option.some.inj h
  subst hq
  exact eR (by kernel_rfl) (by kernel_rfl)

theorem millwrightlaw25_CycleTells.ok (O : Out) (k : Nat) (a0 : List T_cycle_Node) (a1 : List UInt8) (a2 : List (List UInt8)) (out : Bool) (h : millwrightlaw25_CycleTells.f k a0 a1 a2 = some out) : COk Un O Try.prog 3 { ar := [.p (.list (.named 3)) a0, .p .str a1, .p (.list .str) a2], r := .p .bool out } := by
 refine cok_of_wp Try.func3 rfl (k := 55) rfl (Nat.le_of_ble_eq_true rfl) (namesOk_pure rfl rfl rfl rfl) ?_
 intro B hN
 refine WpC.conv (cvK (b := ⟨[(0, .p (.list (.named 3)) a0), (1, .p .str a1), (2, .p (.list .str) a2)], []⟩) [0, 1, 2] [] (by kernel_rfl)) ?_
 unfold millwrightlaw25_CycleTells.f at h
 refine WpC.seq ?_
 refine rS {} [0, 1, 2] [] hN (by kernel_rfl) (by kernel_rfl) ?_
 refine tnU ?_
 refine WpC.seq ?_
 refine WpC.seq ?_
 obtain ⟨v1, hv1, h⟩ := bind_some h
 refine rS { its := [(0, .c (millwrightlaw25_alive.ok O k v1 hv1))] } [0, 1, 2, 9] [] hN (by kernel_rfl) (by kernel_rfl) ?_
 refine tnU ?_
 refine tS (b := (!v1)) (by kernel_rfl) (fun hc2 => ?_) (fun hc2 => ?_)
 ·replace h := ite_t hc2 h
  refine WpC.seq ?_
  refine rS {} [6] [] hN (by kernel_rfl) (by kernel_rfl) ?_
  refine tnU ?_
  refine WpC.ret ?_
  refine thenQ_ret ?_
  have hq := Option.some.inj h
  subst hq
  exact eR (by kernel_rfl) (by kernel_rfl)
 ·replace h := ite_f hc2 h
  refine WpC.conv (cS [.k [0, 1, 2] []] (by kernel_rfl) (by kernel_rfl)) (WpC.skip ?_)
  refine tnU ?_
  refine sqJ (fun st' => millwrightlaw25_CycleTells.j18 k a0 a1 a2 = some out ∧ st' = ⟨[(0, .p (.list (.named 3)) a0), (1, .p .str a1), (2, .p (.list .str) a2)], []⟩) ?_ ?_
  ·refine sqJ (fun st' => ∃ v19 : Bool, millwrightlaw25_CycleTells.j21 k a0 a1 a2 v19 = some out ∧ st' = ⟨[(0, .p (.list (.named 3)) a0), (1, .p .str a1), (2, .p (.list .str) a2), (20, .p .bool v19)], []⟩) ?_ ?_
   ·obtain ⟨v22, hv22, h⟩ := bind_some h
    rcases bool_cases v22 with hc23 | hc23
    ·replace h := ite_t hc23 h
     refine rS { its := [(1, .c (millwrightlaw25_long.ok O k a0 v22 hv22))], kn := [(12, .t hc23)] } [0, 1, 2, 20] [] hN (by kernel_rfl) (by kernel_rfl) ?_
     refine tnU ?_
     exact ⟨true, h, by kernel_rfl⟩
    ·replace h := ite_f hc23 h
     rcases bool_cases (decide ((a1.length : Int) > 60)) with hc24 | hc24
     ·replace h := ite_t hc24 h
      refine rS { its := [(1, .c (millwrightlaw25_long.ok O k a0 v22 hv22))], kn := [(12, .f hc23), (17, .t hc24)] } [0, 1, 2, 20] [] hN (by kernel_rfl) (by kernel_rfl) ?_
      refine tnU ?_
      exact ⟨true, h, by kernel_rfl⟩
     ·replace h := ite_f hc24 h
      obtain ⟨v25, hv25, h⟩ := bind_some h
      refine rS { its := [(1, .c (millwrightlaw25_long.ok O k a0 v22 hv22)), (9, .c (millwrightnum_Long.ok O k a2 12 60 v25 hv25))], kn := [(12, .f hc23), (17, .f hc24)] } [0, 1, 2, 20] [] hN (by kernel_rfl) (by kernel_rfl) ?_
      refine tnU ?_
      exact ⟨v25, h, by kernel_rfl⟩
   ·rintro _ ⟨v19, h, rfl⟩
    unfold millwrightlaw25_CycleTells.j21 at h
    refine tS (b := v19) (by kernel_rfl) (fun hc20 => ?_) (fun hc20 => ?_)
    ·replace h := ite_t hc20 h
     refine WpC.seq ?_
     refine rS {} [6] [] hN (by kernel_rfl) (by kernel_rfl) ?_
     refine tnU ?_
     refine WpC.ret ?_
     refine thenQ_ret ?_
     have hq := Option.some.inj h
     subst hq
     exact eR (by kernel_rfl) (by kernel_rfl)
    ·replace h := ite_f hc20 h
     refine WpC.conv (cS [.k [0, 1, 2] []] (by kernel_rfl) (by kernel_rfl)) (WpC.skip ?_)
     refine tnU ?_
     exact ⟨h, by kernel_rfl⟩
  ·rintro _ ⟨h, rfl⟩
   unfold millwrightlaw25_CycleTells.j18 at h
   refine WpC.seq ?_
   obtain ⟨v3, hv3, h⟩ := bind_some h
   refine rS { its := [(1, .c (millwrightlaw25_Of.ok O k a0 v3 hv3))] } [0, 1, 2, 7] [] hN (by kernel_rfl) (by kernel_rfl) ?_
   refine tnU ?_
   refine WpC.seq ?_
   obtain ⟨v4, hv4, h⟩ := bind_some h
   obtain ⟨v5, hv5, h⟩ := bind_some h
   obtain ⟨v6, hv6, h⟩ := bind_some h
   rcases bool_cases v6 with hc7 | hc7
   ·replace h := ite_t hc7 h
    obtain ⟨v8, hv8, h⟩ := bind_some h
    obtain ⟨v9, hv9, h⟩ := bind_some h
    obtain ⟨v10, hv10, h⟩ := bind_some h
    rcases bool_cases v10 with hc11 | hc11
    ·replace h := ite_t hc11 h
     obtain ⟨v12, hv12, h⟩ := bind_some h
     obtain ⟨v13, hv13, h⟩ := bind_some h
     obtain ⟨v14, hv14, h⟩ := bind_some h
     rcases bool_cases v14 with hc15 | hc15
     ·replace h := ite_t hc15 h
      obtain ⟨v16, hv16, h⟩ := bind_some h
      obtain ⟨v17, hv17, h⟩ := bind_some h
      refine rS { its := [(1, .c (COk.ren (cycle_Names.ok O k a0 v4 hv4) (fun n => if n = 60500 then 10001 else n) (injOn_of (by kernel_rfl)))), (3, .c (millwrightref25_Names.ok O k v3 v5 hv5)), (4, .c (millwrightnum_SameTexts.ok O k v4 v5 v6 hv6)), (8, .c (cycle_To.ok O k a0 a1 v8 hv8)), (11, .c (millwrightref25_To.ok O k v3 a1 v9 hv9)), (12, .c (millwrightnum_SameTexts.ok O k v8 v9 v10 hv10)), (17, .c (cycle_Reach.ok O k a0 a1 v12 hv12)), (20, .c (millwrightref25_Reach.ok O k v3 a1 v13 hv13)), (21, .c (millwrightnum_SameTexts.ok O k v12 v13 v14 hv14)), (26, .c (cycle_Walk.ok O k a0 a2 v16 hv16)), (29, .c (millwrightref25_Walk.ok O k v3 a2 v17 hv17))], kn := [(28, .t hc7), (37, .t hc11), (46, .t hc15)] } [6] [] hN (by kernel_rfl) (by kernel_rfl) ?_
      refine tnU ?_
      refine WpC.ret ?_
      have hq := Option.some.inj h
      subst hq
      exact eR (by kernel_rfl) (by kernel_rfl)
     ·replace h := ite_f hc15 h
      refine rS { its := [(1, .c (COk.ren (cycle_Names.ok O k a0 v4 hv4) (fun n => if n = 60500 then 10001 else n) (injOn_of (by kernel_rfl)))), (3, .c (millwrightref25_Names.ok O k v3 v5 hv5)), (4, .c (millwrightnum_SameTexts.ok O k v4 v5 v6 hv6)), (8, .c (cycle_To.ok O k a0 a1 v8 hv8)), (11, .c (millwrightref25_To.ok O k v3 a1 v9 hv9)), (12, .c (millwrightnum_SameTexts.ok O k v8 v9 v10 hv10)), (17, .c (cycle_Reach.ok O k a0 a1 v12 hv12)), (20, .c (millwrightref25_Reach.ok O k v3 a1 v13 hv13)), (21, .c (millwrightnum_SameTexts.ok O k v12 v13 v14 hv14))], kn := [(28, .t hc7), (37, .t hc11), (46, .f hc15)] } [6] [] hN (by kernel_rfl) (by kernel_rfl) ?_
      refine tnU ?_
      refine WpC.ret ?_
      have hq := Option.some.inj h
      subst hq
      exact eR (by kernel_rfl) (by kernel_rfl)
    ·replace h := ite_f hc11 h
     refine rS { its := [(1, .c (COk.ren (cycle_Names.ok O k a0 v4 hv4) (fun n => if n = 60500 then 10001 else n) (injOn_of (by kernel_rfl)))), (3, .c (millwrightref25_Names.ok O k v3 v5 hv5)), (4, .c (millwrightnum_SameTexts.ok O k v4 v5 v6 hv6)), (8, .c (cycle_To.ok O k a0 a1 v8 hv8)), (11, .c (millwrightref25_To.ok O k v3 a1 v9 hv9)), (12, .c (millwrightnum_SameTexts.ok O k v8 v9 v10 hv10))], kn := [(28, .t hc7), (37, .f hc11)] } [6] [] hN (by kernel_rfl) (by kernel_rfl) ?_
     refine tnU ?_
     refine WpC.ret ?_
     have hq := Option.some.inj h
     subst hq
     exact eR (by kernel_rfl) (by kernel_rfl)
   ·replace h := ite_f hc7 h
    refine rS { its := [(1, .c (COk.ren (cycle_Names.ok O k a0 v4 hv4) (fun n => if n = 60500 then 10001 else n) (injOn_of (by kernel_rfl)))), (3, .c (millwrightref25_Names.ok O k v3 v5 hv5)), (4, .c (millwrightnum_SameTexts.ok O k v4 v5 v6 hv6))], kn := [(28, .f hc7)] } [6] [] hN (by kernel_rfl) (by kernel_rfl) ?_
    refine tnU ?_
    refine WpC.ret ?_
    have hq := Option.some.inj h
    subst hq
    exact eR (by kernel_rfl) (by kernel_rfl)

end Go.Proofs.Ytlmhnhlmlhfigaa
