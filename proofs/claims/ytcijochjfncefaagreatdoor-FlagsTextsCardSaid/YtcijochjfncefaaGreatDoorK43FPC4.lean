/- A part of a proof: FPC4. -/
import Derived.Test.YtcijochjfncefaaGreatDoorK43FPC3
namespace Go.Proofs.YtcijochjfncefaaGreatDoor
open Go Go.AM
set_option linter.unusedVariables false
set_option linter.unusedSimpArgs false
set_option maxRecDepth 100000
set_option maxHeartbeats 4000000
theorem R01_Right.ok (O : Out) (hO : GOk O) (k : Nat) (a0 : List UInt8) (out : Bool) (h : R01_Right.f k a0 = some out) : COk Un O Tryz.prog 26 { ar := [.p .str a0], r := .p .bool out } := by
 refine cok_of_wp Tryz.func26 rfl (k := 28) rfl (Nat.le_of_ble_eq_true rfl) (namesOk_pure rfl rfl rfl rfl) ?_
 intro B hN
 refine ckS (b := ⟨[(0, .p .str a0)], []⟩) [0] [] (by kernel_rfl) ?_
 unfold R01_Right.f at h
 refine sq_ ?_
 refine rS {} [0] [] hN (by kernel_rfl) (by kernel_rfl) ?_
 refine tnU ?_
 refine sqJ (fun st' => R01_Right.j2 k a0 = some out ∧ st' = ⟨[(0, .p .str a0)], []⟩) ?_ ?_
 ·refine sq_ ?_
  refine rS {} [0, 3] [] hN (by kernel_rfl) (by kernel_rfl) ?_
  refine tnU ?_
  refine wb_ ?_
  obtain ⟨o5, hlo5, h⟩ := bind_some h
  have hout6 := h
  clear h
  refine u1_ (fun n st' => ∃ v3 : Int, R01_Right.l4 k a0 n v3 = some o5 ∧ st' = ⟨[(0, .p .str a0), (3, .p I6 v3)], []⟩) k ⟨0, hlo5, by kernel_rfl⟩ ?_
  clear hlo5
  rintro (_ | n) _ ⟨v3, h, rfl⟩
  ·cases h
  ·rw [R01_Right.l4] at h
   refine sq_ ?_
   refine sq_ ?_
   refine rS {} [0, 3, 7] [] hN (by kernel_rfl) (by kernel_rfl) ?_
   refine tnU ?_
   refine tS (b := (decide (v3 < (a0.length : Int)))) (by kernel_rfl) (fun hc7 => ?_) (fun hc7 => ?_)
   ·replace h := ite_t hc7 h
    refine wc_ (cS [.k [0, 3] []] (by kernel_rfl) (by kernel_rfl)) (ws_ ?_)
    refine tnU ?_
    refine sqJ (fun st' => R01_Right.j8 k (R01_Right.l4 k a0 n) a0 v3 = some o5 ∧ st' = ⟨[(0, .p .str a0), (3, .p I6 v3)], []⟩) ?_ ?_
    ·refine wb_ ?_
     refine sqJ (fun st' => ∃ v9 : Bool, R01_Right.j11 k (R01_Right.l4 k a0 n) a0 v3 v9 = some o5 ∧ st' = ⟨[(0, .p .str a0), (3, .p I6 v3), (19, .p .bool v9)], []⟩) ?_ ?_
     ·obtain ⟨v12, hv12, h⟩ := bind_some h
      rcases bool_cases (decide ((v12.toNat : Int) ≤ 32)) with hc13 | hc13
      ·replace h := ite_t hc13 h
       refine rS { its := [(2, .u hv12)], kn := [(14, .t hc13)] } [0, 3, 19] [] hN (by kernel_rfl) (by kernel_rfl) ?_
       refine tnU ?_
       exact ⟨true, h, by kernel_rfl⟩
      ·replace h := ite_f hc13 h
       obtain ⟨v14, hv14, h⟩ := bind_some h
       refine rS { its := [(2, .u hv12), (7, .u hv14)], kn := [(14, .f hc13)] } [0, 3, 19] [] hN (by kernel_rfl) (by kernel_rfl) ?_
       refine tnU ?_
       exact ⟨(decide ((v14.toNat : Int) ≥ 127)), h, by kernel_rfl⟩
     ·rintro _ ⟨v9, h, rfl⟩
      unfold R01_Right.j11 at h
      refine tS (b := v9) (by kernel_rfl) (fun hc10 => ?_) (fun hc10 => ?_)
      ·replace h := ite_t hc10 h
       refine sq_ ?_
       refine rS {} [2] [] hN (by kernel_rfl) (by kernel_rfl) ?_
       refine tnU ?_
       refine wr_ ?_
       refine blockQ_ret ?_
       refine tr_ ?_
       have hq := Option.some.inj h
       subst hq
       refine tr_ ?_
       have h := hout6
       refine blockQ_ret ?_
       refine tr_ ?_
       have hq := Option.some.inj h
       subst hq
       exact eR (by kernel_rfl) (by kernel_rfl)
      ·replace h := ite_f hc10 h
       refine wc_ (cS [.k [0, 3] []] (by kernel_rfl) (by kernel_rfl)) (ws_ ?_)
       refine bn_ ?_
       refine tnU ?_
       exact ⟨h, by kernel_rfl⟩
    ·rintro _ ⟨h, rfl⟩
     unfold R01_Right.j8 at h
     refine rS {} [0, 3] [] hN (by kernel_rfl) (by kernel_rfl) ?_
     refine tnU ?_
     exact ⟨n, Nat.lt_succ_self n, (IntKind.i64.wrap (v3 + 1)), h, by kernel_rfl⟩
   ·replace h := ite_f hc7 h
    refine wc_ (cS [.k [0] []] (by kernel_rfl) (by kernel_rfl)) (we_ ?_)
    refine te_ ?_
    have hq := Option.some.inj h
    subst hq
    refine te_ ?_
    have h := hout6
    refine blockQ_hit ?_
    refine tnU ?_
    exact ⟨h, by kernel_rfl⟩
 ·rintro _ ⟨h, rfl⟩
  unfold R01_Right.j2 at h
  refine sq_ ?_
  rcases bool_cases (decide ((a0.length : Int) > 0)) with hc1 | hc1
  ·replace h := ite_t hc1 h
   refine rS { kn := [(23, .t hc1)] } [2] [] hN (by kernel_rfl) (by kernel_rfl) ?_
   refine tnU ?_
   refine wr_ ?_
   have hq := Option.some.inj h
   subst hq
   exact eR (by kernel_rfl) (by kernel_rfl)
  ·replace h := ite_f hc1 h
   refine rS { kn := [(23, .f hc1)] } [2] [] hN (by kernel_rfl) (by kernel_rfl) ?_
   refine tnU ?_
   refine wr_ ?_
   have hq := Option.some.inj h
   subst hq
   exact eR (by kernel_rfl) (by kernel_rfl)

theorem R31_place.ok (O : Out) (hO : GOk O) (k : Nat) (a0 : List UInt8) (a1 : Int) (out : Int) (h : R31_place.f k a0 a1 = some out) : COk Un O Tryz.prog 24 { ar := [.p .str a0, .p (.int .u8) a1], r := .p I6 out } := by
 refine cok_of_wp Tryz.func24 rfl (k := 18) rfl (Nat.le_of_ble_eq_true rfl) (namesOk_pure rfl rfl rfl rfl) ?_
 intro B hN
 refine ckS (b := ⟨[(0, .p .str a0), (1, .p (.int .u8) a1)], []⟩) [0, 1] [] (by kernel_rfl) ?_
 unfold R31_place.f at h
 refine sq_ ?_
 refine rS {} [0, 1] [] hN (by kernel_rfl) (by kernel_rfl) ?_
 refine tnU ?_
 refine sqJ (fun st' => R31_place.j1 k = some out ∧ st' = ⟨[], []⟩) ?_ ?_
 ·refine sq_ ?_
  refine rS {} [0, 1, 5] [] hN (by kernel_rfl) (by kernel_rfl) ?_
  refine tnU ?_
  refine wb_ ?_
  obtain ⟨o4, hlo4, h⟩ := bind_some h
  have hout5 := h
  clear h
  refine u1_ (fun n st' => ∃ v2 : Int, R31_place.l3 k a0 a1 n v2 = some o4 ∧ st' = ⟨[(0, .p .str a0), (1, .p (.int .u8) a1), (5, .p I6 v2)], []⟩) k ⟨0, hlo4, by kernel_rfl⟩ ?_
  clear hlo4
  rintro (_ | n) _ ⟨v2, h, rfl⟩
  ·cases h
  ·rw [R31_place.l3] at h
   refine sq_ ?_
   refine sq_ ?_
   refine rS {} [0, 1, 5, 9] [] hN (by kernel_rfl) (by kernel_rfl) ?_
   refine tnU ?_
   refine tS (b := (decide (v2 < (a0.length : Int)))) (by kernel_rfl) (fun hc6 => ?_) (fun hc6 => ?_)
   ·replace h := ite_t hc6 h
    refine wc_ (cS [.k [0, 1, 5] []] (by kernel_rfl) (by kernel_rfl)) (ws_ ?_)
    refine tnS ?_
    refine wb_ ?_
    refine sq_ ?_
    obtain ⟨v7, hv7, h⟩ := bind_some h
    refine rS { its := [(2, .u hv7)] } [0, 1, 5, 16] [] hN (by kernel_rfl) (by kernel_rfl) ?_
    refine tnU ?_
    refine tS (b := ((v7.toNat : Int) == a1)) (by kernel_rfl) (fun hc8 => ?_) (fun hc8 => ?_)
    ·replace h := ite_t hc8 h
     refine sq_ ?_
     refine rS {} [4] [] hN (by kernel_rfl) (by kernel_rfl) ?_
     refine tnU ?_
     refine wr_ ?_
     refine blockQ_ret ?_
     refine tr_ ?_
     have hq := Option.some.inj h
     subst hq
     refine tr_ ?_
     have h := hout5
     refine blockQ_ret ?_
     refine tr_ ?_
     have hq := Option.some.inj h
     subst hq
     exact eR (by kernel_rfl) (by kernel_rfl)
    ·replace h := ite_f hc8 h
     refine wc_ (cS [.k [0, 1, 5] []] (by kernel_rfl) (by kernel_rfl)) (ws_ ?_)
     refine bn_ ?_
     refine tnU ?_
     refine rS {} [0, 1, 5] [] hN (by kernel_rfl) (by kernel_rfl) ?_
     refine tnU ?_
     exact ⟨n, Nat.lt_succ_self n, (IntKind.i64.wrap (v2 + 1)), h, by kernel_rfl⟩
   ·replace h := ite_f hc6 h
    refine wc_ (cS [.k [] []] (by kernel_rfl) (by kernel_rfl)) (we_ ?_)
    refine te_ ?_
    have hq := Option.some.inj h
    subst hq
    refine te_ ?_
    have h := hout5
    refine blockQ_hit ?_
    refine tnU ?_
    exact ⟨h, by kernel_rfl⟩
 ·rintro _ ⟨h, rfl⟩
  unfold R31_place.j1 at h
  refine sq_ ?_
  refine rS {} [4] [] hN (by kernel_rfl) (by kernel_rfl) ?_
  refine tnU ?_
  refine wr_ ?_
  have hq := Option.some.inj h
  subst hq
  exact eR (by kernel_rfl) (by kernel_rfl)

theorem R13_letter.ok (O : Out) (hO : GOk O) (k : Nat) (a0 : Int) (out : Bool) (h : R13_letter.f k a0 = some out) : COk Un O Tryz.prog 78 { ar := [.p (.int .u8) a0], r := .p .bool out } := by
 refine cok_of_wp Tryz.func78 rfl (k := 29) rfl (Nat.le_of_ble_eq_true rfl) (namesOk_pure rfl rfl rfl rfl) ?_
 intro B hN
 refine ckS (b := ⟨[(0, .p (.int .u8) a0)], []⟩) [0] [] (by kernel_rfl) ?_
 unfold R13_letter.f at h
 refine sq_ ?_
 refine rS {} [0] [] hN (by kernel_rfl) (by kernel_rfl) ?_
 refine tnS ?_
 rcases bool_cases (a0 == 95) with hc1 | hc1
 ·replace h := ite_t hc1 h
  refine rS { kn := [(5, .t hc1)] } [2] [] hN (by kernel_rfl) (by kernel_rfl) ?_
  refine tnU ?_
  refine wr_ ?_
  have hq := Option.some.inj h
  subst hq
  exact eR (by kernel_rfl) (by kernel_rfl)
 ·replace h := ite_f hc1 h
  rcases bool_cases (decide (a0 ≥ 48)) with hc2 | hc2
  ·replace h := ite_t hc2 h
   rcases bool_cases (decide (a0 ≤ 57)) with hc3 | hc3
   ·replace h := ite_t hc3 h
    refine rS { kn := [(5, .f hc1), (8, .t hc2), (13, .t hc3)] } [2] [] hN (by kernel_rfl) (by kernel_rfl) ?_
    refine tnU ?_
    refine wr_ ?_
    have hq := Option.some.inj h
    subst hq
    exact eR (by kernel_rfl) (by kernel_rfl)
   ·replace h := ite_f hc3 h
    rcases bool_cases (decide (a0 ≥ 65)) with hc4 | hc4
    ·replace h := ite_t hc4 h
     rcases bool_cases (decide (a0 ≤ 90)) with hc5 | hc5
     ·replace h := ite_t hc5 h
      refine rS { kn := [(5, .f hc1), (8, .t hc2), (13, .f hc3), (16, .t hc4), (21, .t hc5)] } [2] [] hN (by kernel_rfl) (by kernel_rfl) ?_
      refine tnU ?_
      refine wr_ ?_
      have hq := Option.some.inj h
      subst hq
      exact eR (by kernel_rfl) (by kernel_rfl)
     ·replace h := ite_f hc5 h
      rcases bool_cases (decide (a0 ≥ 97)) with hc6 | hc6
      ·replace h := ite_t hc6 h
       refine rS { kn := [(5, .f hc1), (8, .t hc2), (13, .f hc3), (16, .t hc4), (21, .f hc5), (24, .t hc6)] } [2] [] hN (by kernel_rfl) (by kernel_rfl) ?_
       refine tnU ?_
       refine wr_ ?_
       have hq := Option.some.inj h
       subst hq
       exact eR (by kernel_rfl) (by kernel_rfl)
      ·replace h := ite_f hc6 h
       refine rS { kn := [(5, .f hc1), (8, .t hc2), (13, .f hc3), (16, .t hc4), (21, .f hc5), (24, .f hc6)] } [2] [] hN (by kernel_rfl) (by kernel_rfl) ?_
       refine tnU ?_
       refine wr_ ?_
       have hq := Option.some.inj h
       subst hq
       exact eR (by kernel_rfl) (by kernel_rfl)
    ·replace h := ite_f hc4 h
     rcases bool_cases (decide (a0 ≥ 97)) with hc7 | hc7
     ·replace h := ite_t hc7 h
      refine rS { kn := [(5, .f hc1), (8, .t hc2), (13, .f hc3), (16, .f hc4), (24, .t hc7)] } [2] [] hN (by kernel_rfl) (by kernel_rfl) ?_
      refine tnU ?_
      refine wr_ ?_
      have hq := Option.some.inj h
      subst hq
      exact eR (by kernel_rfl) (by kernel_rfl)
     ·replace h := ite_f hc7 h
      refine rS { kn := [(5, .f hc1), (8, .t hc2), (13, .f hc3), (16, .f hc4), (24, .f hc7)] } [2] [] hN (by kernel_rfl) (by kernel_rfl) ?_
      refine tnU ?_
      refine wr_ ?_
      have hq := Option.some.inj h
      subst hq
      exact eR (by kernel_rfl) (by kernel_rfl)
  ·replace h := ite_f hc2 h
   rcases bool_cases (decide (a0 ≥ 65)) with hc8 | hc8
   ·replace h := ite_t hc8 h
    rcases bool_cases (decide (a0 ≤ 90)) with hc9 | hc9
    ·replace h := ite_t hc9 h
     refine rS { kn := [(5, .f hc1), (8, .f hc2), (16, .t hc8), (21, .t hc9)] } [2] [] hN (by kernel_rfl) (by kernel_rfl) ?_
     refine tnU ?_
     refine wr_ ?_
     have hq := Option.some.inj h
     subst hq
     exact eR (by kernel_rfl) (by kernel_rfl)
    ·replace h := ite_f hc9 h
     rcases bool_cases (decide (a0 ≥ 97)) with hc10 | hc10
     ·replace h := ite_t hc10 h
      refine rS { kn := [(5, .f hc1), (8, .f hc2), (16, .t hc8), (21, .f hc9), (24, .t hc10)] } [2] [] hN (by kernel_rfl) (by kernel_rfl) ?_
      refine tnU ?_
      refine wr_ ?_
      have hq := Option.some.inj h
      subst hq
      exact eR (by kernel_rfl) (by kernel_rfl)
     ·replace h := ite_f hc10 h
      refine rS { kn := [(5, .f hc1), (8, .f hc2), (16, .t hc8), (21, .f hc9), (24, .f hc10)] } [2] [] hN (by kernel_rfl) (by kernel_rfl) ?_
      refine tnU ?_
      refine wr_ ?_
      have hq := Option.some.inj h
      subst hq
      exact eR (by kernel_rfl) (by kernel_rfl)
   ·replace h := ite_f hc8 h
    rcases bool_cases (decide (a0 ≥ 97)) with hc11 | hc11
    ·replace h := ite_t hc11 h
     refine rS { kn := [(5, .f hc1), (8, .f hc2), (16, .f hc8), (24, .t hc11)] } [2] [] hN (by kernel_rfl) (by kernel_rfl) ?_
     refine tnU ?_
     refine wr_ ?_
     have hq := Option.some.inj h
     subst hq
     exact eR (by kernel_rfl) (by kernel_rfl)
    ·replace h := ite_f hc11 h
     refine rS { kn := [(5, .f hc1), (8, .f hc2), (16, .f hc8), (24, .f hc11)] } [2] [] hN (by kernel_rfl) (by kernel_rfl) ?_
     refine tnU ?_
     refine wr_ ?_
     have hq := Option.some.inj h
     subst hq
     exact eR (by kernel_rfl) (by kernel_rfl)

theorem R13_Name.ok (O : Out) (hO : GOk O) (k : Nat) (a0 : List UInt8) (out : Bool) (h : R13_Name.f k a0 = some out) : COk Un O Tryz.prog 56 { ar := [.p .str a0], r := .p .bool out } := by
 refine cok_of_wp Tryz.func56 rfl (k := 23) rfl (Nat.le_of_ble_eq_true rfl) (namesOk_pure rfl rfl rfl rfl) ?_
 intro B hN
 refine ckS (b := ⟨[(0, .p .str a0)], []⟩) [0] [] (by kernel_rfl) ?_
 unfold R13_Name.f at h
 refine sq_ ?_
 refine rS {} [0] [] hN (by kernel_rfl) (by kernel_rfl) ?_
 refine tnU ?_
 refine sqJ (fun st' => R13_Name.j2 k a0 = some out ∧ st' = ⟨[(0, .p .str a0)], []⟩) ?_ ?_
 ·refine sq_ ?_
  refine rS {} [0, 3] [] hN (by kernel_rfl) (by kernel_rfl) ?_
  refine tnU ?_
  refine wb_ ?_
  obtain ⟨o5, hlo5, h⟩ := bind_some h
  have hout6 := h
  clear h
  refine u1_ (fun n st' => ∃ v3 : Int, R13_Name.l4 k a0 n v3 = some o5 ∧ st' = ⟨[(0, .p .str a0), (3, .p I6 v3)], []⟩) k ⟨0, hlo5, by kernel_rfl⟩ ?_
  clear hlo5
  rintro (_ | n) _ ⟨v3, h, rfl⟩
  ·cases h
  ·rw [R13_Name.l4] at h
   refine sq_ ?_
   refine sq_ ?_
   refine rS {} [0, 3, 7] [] hN (by kernel_rfl) (by kernel_rfl) ?_
   refine tnU ?_
   refine tS (b := (decide (v3 < (a0.length : Int)))) (by kernel_rfl) (fun hc7 => ?_) (fun hc7 => ?_)
   ·replace h := ite_t hc7 h
    refine wc_ (cS [.k [0, 3] []] (by kernel_rfl) (by kernel_rfl)) (ws_ ?_)
    refine tnS ?_
    refine wb_ ?_
    refine sq_ ?_
    obtain ⟨v8, hv8, h⟩ := bind_some h
    obtain ⟨v9, hv9, h⟩ := bind_some h
    refine rS { its := [(2, .u hv8), (3, .c (R13_letter.ok O hO k (v8.toNat : Int) v9 hv9))] } [0, 3, 14] [] hN (by kernel_rfl) (by kernel_rfl) ?_
    refine tnU ?_
    refine tS (b := (!v9)) (by kernel_rfl) (fun hc10 => ?_) (fun hc10 => ?_)
    ·replace h := ite_t hc10 h
     refine sq_ ?_
     refine rS {} [2] [] hN (by kernel_rfl) (by kernel_rfl) ?_
     refine tnU ?_
     refine wr_ ?_
     refine blockQ_ret ?_
     refine tr_ ?_
     have hq := Option.some.inj h
     subst hq
     refine tr_ ?_
     have h := hout6
     refine blockQ_ret ?_
     refine tr_ ?_
     have hq := Option.some.inj h
     subst hq
     exact eR (by kernel_rfl) (by kernel_rfl)
    ·replace h := ite_f hc10 h
     refine wc_ (cS [.k [0, 3] []] (by kernel_rfl) (by kernel_rfl)) (ws_ ?_)
     refine bn_ ?_
     refine tnU ?_
     refine rS {} [0, 3] [] hN (by kernel_rfl) (by kernel_rfl) ?_
     refine tnU ?_
     exact ⟨n, Nat.lt_succ_self n, (IntKind.i64.wrap (v3 + 1)), h, by kernel_rfl⟩
   ·replace h := ite_f hc7 h
    refine wc_ (cS [.k [0] []] (by kernel_rfl) (by kernel_rfl)) (we_ ?_)
    refine te_ ?_
    have hq := Option.some.inj h
    subst hq
    refine te_ ?_
    have h := hout6
    refine blockQ_hit ?_
    refine tnU ?_
    exact ⟨h, by kernel_rfl⟩
 ·rintro _ ⟨h, rfl⟩
  unfold R13_Name.j2 at h
  refine sq_ ?_
  rcases bool_cases (decide ((a0.length : Int) > 0)) with hc1 | hc1
  ·replace h := ite_t hc1 h
   refine rS { kn := [(18, .t hc1)] } [2] [] hN (by kernel_rfl) (by kernel_rfl) ?_
   refine tnU ?_
   refine wr_ ?_
   have hq := Option.some.inj h
   subst hq
   exact eR (by kernel_rfl) (by kernel_rfl)
  ·replace h := ite_f hc1 h
   refine rS { kn := [(18, .f hc1)] } [2] [] hN (by kernel_rfl) (by kernel_rfl) ?_
   refine tnU ?_
   refine wr_ ?_
   have hq := Option.some.inj h
   subst hq
   exact eR (by kernel_rfl) (by kernel_rfl)

theorem R31_Assigned.ok (O : Out) (hO : GOk O) (k : Nat) (a0 : List UInt8) (out : Int × Bool) (h : R31_Assigned.f k a0 = some out) : COk Un O Tryz.prog 27 { ar := [.p .str a0], r := .tup [.p I6 out.1, .p .bool out.2] } := by
 refine cok_of_wp Tryz.func27 rfl (k := 16) rfl (Nat.le_of_ble_eq_true rfl) (namesOk_pure rfl rfl rfl rfl) ?_
 intro B hN
 refine ckS (b := ⟨[(0, .p .str a0)], []⟩) [0] [] (by kernel_rfl) ?_
 unfold R31_Assigned.f at h
 refine sq_ ?_
 refine rS {} [0] [] hN (by kernel_rfl) (by kernel_rfl) ?_
 refine tnS ?_
 obtain ⟨v1, hv1, h⟩ := bind_some h
 refine rS { its := [(1, .c (R31_place.ok O hO k a0 61 v1 hv1))] } [0, 4] [] hN (by kernel_rfl) (by kernel_rfl) ?_
 refine tnS ?_
 rcases bool_cases (decide (v1 ≥ 0)) with hc2 | hc2
 ·replace h := ite_t hc2 h
  obtain ⟨v3, hv3, h⟩ := bind_some h
  obtain ⟨v4, hv4, h⟩ := bind_some h
  refine rS { its := [(6, .v .str hv3), (7, .c (R13_Name.ok O hO k v3 v4 hv4))], kn := [(10, .t hc2)] } [2, 3] [] hN (by kernel_rfl) (by kernel_rfl) ?_
  refine tnU ?_
  refine wr_ ?_
  have hq := Option.some.inj h
  subst hq
  exact eR (by kernel_rfl) (by kernel_rfl)
 ·replace h := ite_f hc2 h
  refine rS { kn := [(10, .f hc2)] } [2, 3] [] hN (by kernel_rfl) (by kernel_rfl) ?_
  refine tnU ?_
  refine wr_ ?_
  have hq := Option.some.inj h
  subst hq
  exact eR (by kernel_rfl) (by kernel_rfl)

theorem R14_Check.ok (O : Out) (hO : GOk O) (k : Nat) (a0 : TR14V) (out : Int) (h : R14_Check.f k a0 = some out) : COk Un O Tryz.prog 29 { ar := [.p (.named 3) a0], r := .p I6 out } := by
 refine cok_of_wp Tryz.func29 rfl (k := 37) rfl (Nat.le_of_ble_eq_true rfl) (namesOk_pure rfl rfl rfl rfl) ?_
 intro B hN
 refine ckS (b := ⟨[(0, .p (.named 3) a0)], []⟩) [0] [] (by kernel_rfl) ?_
 unfold R14_Check.f at h
 refine sq_ ?_
 refine rS {} [1] [1] hN (by kernel_rfl) (by kernel_rfl) ?_
 refine tnS ?_
 refine sq_ ?_
 obtain ⟨v1, hv1, h⟩ := bind_some h
 refine rS { its := [(2, .c (R13_Name.ok O hO k a0.fN v1 hv1))] } [1, 8] [1] hN (by kernel_rfl) (by kernel_rfl) ?_
 refine tnU ?_
 refine tS (b := (!v1)) (by kernel_rfl) (fun hc2 => ?_) (fun hc2 => ?_)
 ·replace h := ite_t hc2 h
  refine sq_ ?_
  refine rS {} [2] [] hN (by kernel_rfl) (by kernel_rfl) ?_
  refine tnU ?_
  refine wr_ ?_
  refine tr_ ?_
  have hq := Option.some.inj h
  subst hq
  exact eR (by kernel_rfl) (by kernel_rfl)
 ·replace h := ite_f hc2 h
  refine wc_ (cS [.k [1] [1]] (by kernel_rfl) (by kernel_rfl)) (ws_ ?_)
  refine tnU ?_
  refine sqJ (fun st' => R14_Check.j14 k a0 = some out ∧ st' = ⟨[(1, .loc 1 0)], [(1, .box [.p .str a0.fN, .p (.list .str) a0.f_Words, .p I6 a0.f_Level, .p .bool a0.f_Hidden])]⟩) ?_ ?_
  ·refine sqJ (fun st' => ∃ v15 : Bool, R14_Check.j17 k a0 v15 = some out ∧ st' = ⟨[(1, .loc 1 0), (21, .p .bool v15)], [(1, .box [.p .str a0.fN, .p (.list .str) a0.f_Words, .p I6 a0.f_Level, .p .bool a0.f_Hidden])]⟩) ?_ ?_
   ·rcases bool_cases (a0.f_Level != 0) with hc18 | hc18
    ·replace h := ite_t hc18 h
     rcases bool_cases (a0.f_Level != 1) with hc19 | hc19
     ·replace h := ite_t hc19 h
      refine rS { kn := [(12, .t hc18), (17, .t hc19)] } [1, 21] [1] hN (by kernel_rfl) (by kernel_rfl) ?_
      refine tnU ?_
      exact ⟨(a0.f_Level != 2), h, by kernel_rfl⟩
     ·replace h := ite_f hc19 h
      refine rS { kn := [(12, .t hc18), (17, .f hc19)] } [1, 21] [1] hN (by kernel_rfl) (by kernel_rfl) ?_
      refine tnU ?_
      exact ⟨false, h, by kernel_rfl⟩
    ·replace h := ite_f hc18 h
     refine rS { kn := [(12, .f hc18)] } [1, 21] [1] hN (by kernel_rfl) (by kernel_rfl) ?_
     refine tnU ?_
     exact ⟨false, h, by kernel_rfl⟩
   ·rintro _ ⟨v15, h, rfl⟩
    unfold R14_Check.j17 at h
    refine tS (b := v15) (by kernel_rfl) (fun hc16 => ?_) (fun hc16 => ?_)
    ·replace h := ite_t hc16 h
     refine sq_ ?_
     refine rS {} [2] [] hN (by kernel_rfl) (by kernel_rfl) ?_
     refine tnU ?_
     refine wr_ ?_
     refine tr_ ?_
     have hq := Option.some.inj h
     subst hq
     exact eR (by kernel_rfl) (by kernel_rfl)
    ·replace h := ite_f hc16 h
     refine wc_ (cS [.k [1] [1]] (by kernel_rfl) (by kernel_rfl)) (ws_ ?_)
     refine tnU ?_
     exact ⟨h, by kernel_rfl⟩
  ·rintro _ ⟨h, rfl⟩
   unfold R14_Check.j14 at h
   refine sq_ ?_
   refine sq_ ?_
   refine rS {} [1, 25] [1] hN (by kernel_rfl) (by kernel_rfl) ?_
   refine tnU ?_
   refine tS (b := (decide ((a0.f_Words.length : Int) > 40))) (by kernel_rfl) (fun hc3 => ?_) (fun hc3 => ?_)
   ·replace h := ite_t hc3 h
    refine sq_ ?_
    refine rS {} [2] [] hN (by kernel_rfl) (by kernel_rfl) ?_
    refine tnU ?_
    refine wr_ ?_
    refine tr_ ?_
    have hq := Option.some.inj h
    subst hq
    exact eR (by kernel_rfl) (by kernel_rfl)
   ·replace h := ite_f hc3 h
    refine wc_ (cS [.k [1] [1]] (by kernel_rfl) (by kernel_rfl)) (ws_ ?_)
    refine tnU ?_
    refine sqJ (fun st' => R14_Check.j4 k = some out ∧ st' = ⟨[], []⟩) ?_ ?_
    ·refine sq_ ?_
     refine rS {} [27, 28, 29] [] hN (by kernel_rfl) (by kernel_rfl) ?_
     refine tnU ?_
     refine wb_ ?_
     obtain ⟨o7, hlo7, h⟩ := bind_some h
     have hout8 := h
     clear h
     refine u1_ (fun n st' => ∃ v5 : Int, R14_Check.l6 k a0 n v5 = some o7 ∧ st' = ⟨[(27, .p (.list .str) a0.f_Words), (28, .p I6 ((a0.f_Words.length : Int) : Int)), (29, .p I6 v5)], []⟩) k ⟨0, hlo7, by kernel_rfl⟩ ?_
     clear hlo7
     rintro (_ | n) _ ⟨v5, h, rfl⟩
     ·cases h
     ·rw [R14_Check.l6] at h
      refine sq_ ?_
      refine rS {} [27, 28, 29, 30] [] hN (by kernel_rfl) (by kernel_rfl) ?_
      refine tnS ?_
      refine tS (b := (decide (v5 < (a0.f_Words.length : Int)))) (by kernel_rfl) (fun hc9 => ?_) (fun hc9 => ?_)
      ·replace h := ite_t hc9 h
       refine wc_ (cS [.k [27, 28, 29] []] (by kernel_rfl) (by kernel_rfl)) (ws_ ?_)
       refine tnS ?_
       refine wb_ ?_
       refine sq_ ?_
       obtain ⟨v10, hv10, h⟩ := bind_some h
       refine rS { its := [(0, .v .str hv10)] } [4, 27, 28, 29] [] hN (by kernel_rfl) (by kernel_rfl) ?_
       refine tnS ?_
       refine rS {} [27, 28, 29, 35] [] hN (by kernel_rfl) (by kernel_rfl) ?_
       refine tnU ?_
       refine tS (b := (decide ((v10.length : Int) > 120))) (by kernel_rfl) (fun hc11 => ?_) (fun hc11 => ?_)
       ·replace h := ite_t hc11 h
        refine sq_ ?_
        refine rS {} [2] [] hN (by kernel_rfl) (by kernel_rfl) ?_
        refine tnU ?_
        refine wr_ ?_
        refine blockQ_ret ?_
        refine tr_ ?_
        have hq := Option.some.inj h
        subst hq
        refine tr_ ?_
        have h := hout8
        refine blockQ_ret ?_
        refine tr_ ?_
        have hq := Option.some.inj h
        subst hq
        exact eR (by kernel_rfl) (by kernel_rfl)
       ·replace h := ite_f hc11 h
        refine wc_ (cS [.k [27, 28, 29] []] (by kernel_rfl) (by kernel_rfl)) (ws_ ?_)
        refine bn_ ?_
        refine tnU ?_
        refine rS {} [27, 28, 29] [] hN (by kernel_rfl) (by kernel_rfl) ?_
        refine tnU ?_
        exact ⟨n, Nat.lt_succ_self n, (IntKind.i64.wrap (v5 + 1)), h, by kernel_rfl⟩
      ·replace h := ite_f hc9 h
       refine wc_ (cS [.k [] []] (by kernel_rfl) (by kernel_rfl)) (we_ ?_)
       refine te_ ?_
       have hq := Option.some.inj h
       subst hq
       refine te_ ?_
       have h := hout8
       refine blockQ_hit ?_
       refine tnU ?_
       exact ⟨h, by kernel_rfl⟩
    ·rintro _ ⟨h, rfl⟩
     unfold R14_Check.j4 at h
     refine sq_ ?_
     refine rS {} [2] [] hN (by kernel_rfl) (by kernel_rfl) ?_
     refine tnU ?_
     refine wr_ ?_
     have hq := Option.some.inj h
     subst hq
     exact eR (by kernel_rfl) (by kernel_rfl)

theorem R31_slots.ok (O : Out) (hO : GOk O) (k : Nat) (a0 : List (List UInt8)) (out : Int) (h : R31_slots.f k a0 = some out) : COk Un O Tryz.prog 30 { ar := [.p (.list .str) a0], r := .p I6 out } := by
 refine cok_of_wp Tryz.func30 rfl (k := 33) rfl (Nat.le_of_ble_eq_true rfl) (namesOk_pure rfl rfl rfl rfl) ?_
 intro B hN
 refine ckS (b := ⟨[(0, .p (.list .str) a0)], []⟩) [0] [] (by kernel_rfl) ?_
 unfold R31_slots.f at h
 refine sq_ ?_
 refine rS {} [0] [] hN (by kernel_rfl) (by kernel_rfl) ?_
 refine tnU ?_
 refine sqJ (fun st' => R31_slots.j1 k = some out ∧ st' = ⟨[], []⟩) ?_ ?_
 ·refine sqJ (fun st' => ∃ v2 : Bool, R31_slots.j6 k a0 v2 = some out ∧ st' = ⟨[(0, .p (.list .str) a0), (26, .p .bool v2)], []⟩) ?_ ?_
  ·rcases bool_cases ((a0.length : Int) == 1) with hc7 | hc7
   ·replace h := ite_t hc7 h
    obtain ⟨v8, hv8, h⟩ := bind_some h
    rcases bool_cases ((v8.length : Int) == 1) with hc9 | hc9
    ·replace h := ite_t hc9 h
     obtain ⟨v10, hv10, h⟩ := bind_some h
     obtain ⟨v11, hv11, h⟩ := bind_some h
     rcases bool_cases (decide ((v11.toNat : Int) ≥ 49)) with hc12 | hc12
     ·replace h := ite_t hc12 h
      obtain ⟨v13, hv13, h⟩ := bind_some h
      obtain ⟨v14, hv14, h⟩ := bind_some h
      refine rS { its := [(5, .v .str hv8), (12, .v .str hv10), (14, .u hv11), (19, .v .str hv13), (21, .u hv14)], kn := [(6, .t hc7), (13, .t hc9), (20, .t hc12)] } [0, 26] [] hN (by kernel_rfl) (by kernel_rfl) ?_
      refine tnU ?_
      exact ⟨(decide ((v14.toNat : Int) ≤ 56)), h, by kernel_rfl⟩
     ·replace h := ite_f hc12 h
      refine rS { its := [(5, .v .str hv8), (12, .v .str hv10), (14, .u hv11)], kn := [(6, .t hc7), (13, .t hc9), (20, .f hc12)] } [0, 26] [] hN (by kernel_rfl) (by kernel_rfl) ?_
      refine tnU ?_
      exact ⟨false, h, by kernel_rfl⟩
    ·replace h := ite_f hc9 h
     refine rS { its := [(5, .v .str hv8)], kn := [(6, .t hc7), (13, .f hc9)] } [0, 26] [] hN (by kernel_rfl) (by kernel_rfl) ?_
     refine tnU ?_
     exact ⟨false, h, by kernel_rfl⟩
   ·replace h := ite_f hc7 h
    refine rS { kn := [(6, .f hc7)] } [0, 26] [] hN (by kernel_rfl) (by kernel_rfl) ?_
    refine tnU ?_
    exact ⟨false, h, by kernel_rfl⟩
  ·rintro _ ⟨v2, h, rfl⟩
   unfold R31_slots.j6 at h
   refine tS (b := v2) (by kernel_rfl) (fun hc3 => ?_) (fun hc3 => ?_)
   ·replace h := ite_t hc3 h
    refine sq_ ?_
    obtain ⟨v4, hv4, h⟩ := bind_some h
    obtain ⟨v5, hv5, h⟩ := bind_some h
    refine rS { its := [(1, .v .str hv4), (3, .u hv5)] } [2] [] hN (by kernel_rfl) (by kernel_rfl) ?_
    refine tnU ?_
    refine wr_ ?_
    refine tr_ ?_
    have hq := Option.some.inj h
    subst hq
    exact eR (by kernel_rfl) (by kernel_rfl)
   ·replace h := ite_f hc3 h
    refine wc_ (cS [.k [] []] (by kernel_rfl) (by kernel_rfl)) (ws_ ?_)
    refine tnU ?_
    exact ⟨h, by kernel_rfl⟩
 ·rintro _ ⟨h, rfl⟩
  unfold R31_slots.j1 at h
  refine sq_ ?_
  refine rS {} [2] [] hN (by kernel_rfl) (by kernel_rfl) ?_
  refine tnU ?_
  refine wr_ ?_
  have hq := Option.some.inj h
  subst hq
  exact eR (by kernel_rfl) (by kernel_rfl)

theorem R31_Right.ok (O : Out) (hO : GOk O) (k : Nat) (a0 : TR31O) (out : Bool) (h : R31_Right.f k a0 = some out) : COk Un O Tryz.prog 18 { ar := [.p (.named 5) a0], r := .p .bool out } := by
 refine cok_of_wp Tryz.func18 rfl (k := 88) rfl (Nat.le_of_ble_eq_true rfl) (namesOk_pure rfl rfl rfl rfl) ?_
 intro B hN
 refine ckS (b := ⟨[(0, .p (.named 5) a0)], []⟩) [0] [] (by kernel_rfl) ?_
 unfold R31_Right.f at h
 refine sq_ ?_
 refine rS {} [1] [1] hN (by kernel_rfl) (by kernel_rfl) ?_
 refine tnS ?_
 refine sq_ ?_
 obtain ⟨v1, hv1, h⟩ := bind_some h
 refine rS { its := [(2, .c (R01_Right.ok O hO k a0.f_File v1 hv1))] } [1, 15] [1] hN (by kernel_rfl) (by kernel_rfl) ?_
 refine tnU ?_
 refine tS (b := (!v1)) (by kernel_rfl) (fun hc2 => ?_) (fun hc2 => ?_)
 ·replace h := ite_t hc2 h
  refine sq_ ?_
  refine rS {} [2] [] hN (by kernel_rfl) (by kernel_rfl) ?_
  refine tnU ?_
  refine wr_ ?_
  refine tr_ ?_
  have hq := Option.some.inj h
  subst hq
  exact eR (by kernel_rfl) (by kernel_rfl)
 ·replace h := ite_f hc2 h
  refine wc_ (cS [.k [1] [1]] (by kernel_rfl) (by kernel_rfl)) (ws_ ?_)
  refine tnU ?_
  refine sqJ (fun st' => R31_Right.j45 k a0 = some out ∧ st' = ⟨[(1, .loc 1 0)], [(1, .box [.p (.arr 6 .bool) a0.f_On, .p (.list .str) a0.f_News, .p (.list .str) a0.f_Goals, .p .str a0.f_File, .p I6 a0.f_Nproc, .p (.list (.named 3)) a0.f_Vars])]⟩) ?_ ?_
  ·refine sq_ ?_
   refine rS {} [1, 17, 18, 19] [1] hN (by kernel_rfl) (by kernel_rfl) ?_
   refine tnU ?_
   refine wb_ ?_
   obtain ⟨o48, hlo48, h⟩ := bind_some h
   have hout49 := h
   clear h
   refine u1_ (fun n st' => ∃ v46 : Int, R31_Right.l47 k a0 n v46 = some o48 ∧ st' = ⟨[(1, .loc 1 0), (17, .p (.list .str) a0.f_News), (18, .p I6 ((a0.f_News.length : Int) : Int)), (19, .p I6 v46)], [(1, .box [.p (.arr 6 .bool) a0.f_On, .p (.list .str) a0.f_News, .p (.list .str) a0.f_Goals, .p .str a0.f_File, .p I6 a0.f_Nproc, .p (.list (.named 3)) a0.f_Vars])]⟩) k ⟨0, hlo48, by kernel_rfl⟩ ?_
   clear hlo48
   rintro (_ | n) _ ⟨v46, h, rfl⟩
   ·cases h
   ·rw [R31_Right.l47] at h
    refine sq_ ?_
    refine rS {} [1, 17, 18, 19, 20] [1] hN (by kernel_rfl) (by kernel_rfl) ?_
    refine tnS ?_
    refine tS (b := (decide (v46 < (a0.f_News.length : Int)))) (by kernel_rfl) (fun hc50 => ?_) (fun hc50 => ?_)
    ·replace h := ite_t hc50 h
     refine wc_ (cS [.k [1, 17, 18, 19] [1]] (by kernel_rfl) (by kernel_rfl)) (ws_ ?_)
     refine tnU ?_
     refine sqJ (fun st' => R31_Right.j51 k (R31_Right.l47 k a0 n) a0 v46 = some o48 ∧ st' = ⟨[(1, .loc 1 0), (17, .p (.list .str) a0.f_News), (18, .p I6 ((a0.f_News.length : Int) : Int)), (19, .p I6 v46)], [(1, .box [.p (.arr 6 .bool) a0.f_On, .p (.list .str) a0.f_News, .p (.list .str) a0.f_Goals, .p .str a0.f_File, .p I6 a0.f_Nproc, .p (.list (.named 3)) a0.f_Vars])]⟩) ?_ ?_
     ·refine wb_ ?_
      refine sq_ ?_
      obtain ⟨v52, hv52, h⟩ := bind_some h
      refine rS { its := [(0, .v .str hv52)] } [1, 4, 17, 18, 19] [1] hN (by kernel_rfl) (by kernel_rfl) ?_
      refine tnU ?_
      refine sqJ (fun st' => ∃ v53 : Bool, R31_Right.j55 k (R31_Right.l47 k a0 n) a0 v46 v53 = some o48 ∧ st' = ⟨[(1, .loc 1 0), (17, .p (.list .str) a0.f_News), (18, .p I6 ((a0.f_News.length : Int) : Int)), (19, .p I6 v46), (30, .p .bool v53)], [(1, .box [.p (.arr 6 .bool) a0.f_On, .p (.list .str) a0.f_News, .p (.list .str) a0.f_Goals, .p .str a0.f_File, .p I6 a0.f_Nproc, .p (.list (.named 3)) a0.f_Vars])]⟩) ?_ ?_
      ·obtain ⟨v56, hv56, h⟩ := bind_some h
       rcases bool_cases (!v56) with hc57 | hc57
       ·replace h := ite_t hc57 h
        refine rS { its := [(1, .c (R01_Right.ok O hO k v52 v56 hv56))], kn := [(26, .t hc57)] } [1, 17, 18, 19, 30] [1] hN (by kernel_rfl) (by kernel_rfl) ?_
        refine tnU ?_
        exact ⟨true, h, by kernel_rfl⟩
       ·replace h := ite_f hc57 h
        obtain ⟨v58, hv58, h⟩ := bind_some h
        refine rS { its := [(1, .c (R01_Right.ok O hO k v52 v56 hv56)), (5, .c (R31_place.ok O hO k v52 44 v58 hv58))], kn := [(26, .f hc57)] } [1, 17, 18, 19, 30] [1] hN (by kernel_rfl) (by kernel_rfl) ?_
        refine tnU ?_
        exact ⟨(decide (v58 ≥ 0)), h, by kernel_rfl⟩
      ·rintro _ ⟨v53, h, rfl⟩
       unfold R31_Right.j55 at h
       refine tS (b := v53) (by kernel_rfl) (fun hc54 => ?_) (fun hc54 => ?_)
       ·replace h := ite_t hc54 h
        refine sq_ ?_
        refine rS {} [2] [] hN (by kernel_rfl) (by kernel_rfl) ?_
        refine tnU ?_
        refine wr_ ?_
        refine blockQ_ret ?_
        refine tr_ ?_
        have hq := Option.some.inj h
        subst hq
        refine tr_ ?_
        have h := hout49
        refine blockQ_ret ?_
        refine tr_ ?_
        have hq := Option.some.inj h
        subst hq
        exact eR (by kernel_rfl) (by kernel_rfl)
       ·replace h := ite_f hc54 h
        refine wc_ (cS [.k [1, 17, 18, 19] [1]] (by kernel_rfl) (by kernel_rfl)) (ws_ ?_)
        refine bn_ ?_
        refine tnU ?_
        exact ⟨h, by kernel_rfl⟩
     ·rintro _ ⟨h, rfl⟩
      unfold R31_Right.j51 at h
      refine rS {} [1, 17, 18, 19] [1] hN (by kernel_rfl) (by kernel_rfl) ?_
      refine tnU ?_
      exact ⟨n, Nat.lt_succ_self n, (IntKind.i64.wrap (v46 + 1)), h, by kernel_rfl⟩
    ·replace h := ite_f hc50 h
     refine wc_ (cS [.k [1] [1]] (by kernel_rfl) (by kernel_rfl)) (we_ ?_)
     refine te_ ?_
     have hq := Option.some.inj h
     subst hq
     refine te_ ?_
     have h := hout49
     refine blockQ_hit ?_
     refine tnU ?_
     exact ⟨h, by kernel_rfl⟩
  ·rintro _ ⟨h, rfl⟩
   unfold R31_Right.j45 at h
   refine sqJ (fun st' => R31_Right.j27 k a0 = some out ∧ st' = ⟨[(1, .loc 1 0)], [(1, .box [.p (.arr 6 .bool) a0.f_On, .p (.list .str) a0.f_News, .p (.list .str) a0.f_Goals, .p .str a0.f_File, .p I6 a0.f_Nproc, .p (.list (.named 3)) a0.f_Vars])]⟩) ?_ ?_
   ·refine sq_ ?_
    refine rS {} [1, 33, 34, 35] [1] hN (by kernel_rfl) (by kernel_rfl) ?_
    refine tnU ?_
    refine wb_ ?_
    obtain ⟨o30, hlo30, h⟩ := bind_some h
    have hout31 := h
    clear h
    refine u1_ (fun n st' => ∃ v28 : Int, R31_Right.l29 k a0 n v28 = some o30 ∧ st' = ⟨[(1, .loc 1 0), (33, .p (.list .str) a0.f_Goals), (34, .p I6 ((a0.f_Goals.length : Int) : Int)), (35, .p I6 v28)], [(1, .box [.p (.arr 6 .bool) a0.f_On, .p (.list .str) a0.f_News, .p (.list .str) a0.f_Goals, .p .str a0.f_File, .p I6 a0.f_Nproc, .p (.list (.named 3)) a0.f_Vars])]⟩) k ⟨0, hlo30, by kernel_rfl⟩ ?_
    clear hlo30
    rintro (_ | n) _ ⟨v28, h, rfl⟩
    ·cases h
    ·rw [R31_Right.l29] at h
     refine sq_ ?_
     refine rS {} [1, 33, 34, 35, 36] [1] hN (by kernel_rfl) (by kernel_rfl) ?_
     refine tnS ?_
     refine tS (b := (decide (v28 < (a0.f_Goals.length : Int)))) (by kernel_rfl) (fun hc32 => ?_) (fun hc32 => ?_)
     ·replace h := ite_t hc32 h
      refine wc_ (cS [.k [1, 33, 34, 35] [1]] (by kernel_rfl) (by kernel_rfl)) (ws_ ?_)
      refine tnU ?_
      refine sqJ (fun st' => R31_Right.j33 k (R31_Right.l29 k a0 n) a0 v28 = some o30 ∧ st' = ⟨[(1, .loc 1 0), (33, .p (.list .str) a0.f_Goals), (34, .p I6 ((a0.f_Goals.length : Int) : Int)), (35, .p I6 v28)], [(1, .box [.p (.arr 6 .bool) a0.f_On, .p (.list .str) a0.f_News, .p (.list .str) a0.f_Goals, .p .str a0.f_File, .p I6 a0.f_Nproc, .p (.list (.named 3)) a0.f_Vars])]⟩) ?_ ?_
      ·refine wb_ ?_
       refine sq_ ?_
       obtain ⟨v34, hv34, h⟩ := bind_some h
       refine rS { its := [(0, .v .str hv34)] } [1, 6, 33, 34, 35] [1] hN (by kernel_rfl) (by kernel_rfl) ?_
       refine tnS ?_
       obtain ⟨v35, hv35, h⟩ := bind_some h
       refine rS { its := [(1, .c (R31_Assigned.ok O hO k v34 v35 hv35))] } [1, 6, 8, 33, 34, 35] [1] hN (by kernel_rfl) (by kernel_rfl) ?_
       refine tnU ?_
       refine sqJ (fun st' => ∃ v36 : Bool, R31_Right.j38 k (R31_Right.l29 k a0 n) a0 v28 v36 = some o30 ∧ st' = ⟨[(1, .loc 1 0), (33, .p (.list .str) a0.f_Goals), (34, .p I6 ((a0.f_Goals.length : Int) : Int)), (35, .p I6 v28), (54, .p .bool v36)], [(1, .box [.p (.arr 6 .bool) a0.f_On, .p (.list .str) a0.f_News, .p (.list .str) a0.f_Goals, .p .str a0.f_File, .p I6 a0.f_Nproc, .p (.list (.named 3)) a0.f_Vars])]⟩) ?_ ?_
       ·rcases bool_cases v35.2 with hc39 | hc39
        ·replace h := ite_t hc39 h
         refine rS { kn := [(45, .t hc39)] } [1, 33, 34, 35, 54] [1] hN (by kernel_rfl) (by kernel_rfl) ?_
         refine tnU ?_
         exact ⟨true, h, by kernel_rfl⟩
        ·replace h := ite_f hc39 h
         obtain ⟨v40, hv40, h⟩ := bind_some h
         rcases bool_cases (!v40) with hc41 | hc41
         ·replace h := ite_t hc41 h
          refine rS { its := [(3, .c (R01_Right.ok O hO k v34 v40 hv40))], kn := [(45, .f hc39), (50, .t hc41)] } [1, 33, 34, 35, 54] [1] hN (by kernel_rfl) (by kernel_rfl) ?_
          refine tnU ?_
          exact ⟨true, h, by kernel_rfl⟩
         ·replace h := ite_f hc41 h
          obtain ⟨v42, hv42, h⟩ := bind_some h
          refine rS { its := [(3, .c (R01_Right.ok O hO k v34 v40 hv40)), (8, .u hv42)], kn := [(45, .f hc39), (50, .f hc41)] } [1, 33, 34, 35, 54] [1] hN (by kernel_rfl) (by kernel_rfl) ?_
          refine tnU ?_
          exact ⟨((v42.toNat : Int) == 45), h, by kernel_rfl⟩
       ·rintro _ ⟨v36, h, rfl⟩
        unfold R31_Right.j38 at h
        refine tS (b := v36) (by kernel_rfl) (fun hc37 => ?_) (fun hc37 => ?_)
        ·replace h := ite_t hc37 h
         refine sq_ ?_
         refine rS {} [2] [] hN (by kernel_rfl) (by kernel_rfl) ?_
         refine tnU ?_
         refine wr_ ?_
         refine blockQ_ret ?_
         refine tr_ ?_
         have hq := Option.some.inj h
         subst hq
         refine tr_ ?_
         have h := hout31
         refine blockQ_ret ?_
         refine tr_ ?_
         have hq := Option.some.inj h
         subst hq
         exact eR (by kernel_rfl) (by kernel_rfl)
        ·replace h := ite_f hc37 h
         refine wc_ (cS [.k [1, 33, 34, 35] [1]] (by kernel_rfl) (by kernel_rfl)) (ws_ ?_)
         refine bn_ ?_
         refine tnU ?_
         exact ⟨h, by kernel_rfl⟩
      ·rintro _ ⟨h, rfl⟩
       unfold R31_Right.j33 at h
       refine rS {} [1, 33, 34, 35] [1] hN (by kernel_rfl) (by kernel_rfl) ?_
       refine tnU ?_
       exact ⟨n, Nat.lt_succ_self n, (IntKind.i64.wrap (v28 + 1)), h, by kernel_rfl⟩
     ·replace h := ite_f hc32 h
      refine wc_ (cS [.k [1] [1]] (by kernel_rfl) (by kernel_rfl)) (we_ ?_)
      refine te_ ?_
      have hq := Option.some.inj h
      subst hq
      refine te_ ?_
      have h := hout31
      refine blockQ_hit ?_
      refine tnU ?_
      exact ⟨h, by kernel_rfl⟩
   ·rintro _ ⟨h, rfl⟩
    unfold R31_Right.j27 at h
    refine sq_ ?_
    refine rS {} [1, 9] [1] hN (by kernel_rfl) (by kernel_rfl) ?_
    refine tnU ?_
    refine sqJ (fun st' => ∃ v3 : Int, R31_Right.j4 k a0 v3 = some out ∧ st' = ⟨[(1, .loc 1 0), (9, .p I6 v3)], [(1, .box [.p (.arr 6 .bool) a0.f_On, .p (.list .str) a0.f_News, .p (.list .str) a0.f_Goals, .p .str a0.f_File, .p I6 a0.f_Nproc, .p (.list (.named 3)) a0.f_Vars])]⟩) ?_ ?_
    ·refine sq_ ?_
     refine rS {} [1, 9, 57, 58, 59] [1] hN (by kernel_rfl) (by kernel_rfl) ?_
     refine tnU ?_
     refine wb_ ?_
     obtain ⟨o9, hlo9, h⟩ := bind_some h
     have hout10 := h
     clear h
     refine u1_ (fun n st' => ∃ v5 : Int, ∃ v6 : Int, R31_Right.l7 k a0 n v5 v6 = some o9 ∧ st' = ⟨[(1, .loc 1 0), (9, .p I6 v5), (57, .p (.list (.named 3)) a0.f_Vars), (58, .p I6 ((a0.f_Vars.length : Int) : Int)), (59, .p I6 v6)], [(1, .box [.p (.arr 6 .bool) a0.f_On, .p (.list .str) a0.f_News, .p (.list .str) a0.f_Goals, .p .str a0.f_File, .p I6 a0.f_Nproc, .p (.list (.named 3)) a0.f_Vars])]⟩) k ⟨1, 0, hlo9, by kernel_rfl⟩ ?_
     clear hlo9
     rintro (_ | n) _ ⟨v5, v6, h, rfl⟩
     ·cases h
     ·rw [R31_Right.l7] at h
      refine sq_ ?_
      refine rS {} [1, 9, 57, 58, 59, 60] [1] hN (by kernel_rfl) (by kernel_rfl) ?_
      refine tnS ?_
      refine tS (b := (decide (v6 < (a0.f_Vars.length : Int)))) (by kernel_rfl) (fun hc11 => ?_) (fun hc11 => ?_)
      ·replace h := ite_t hc11 h
       refine wc_ (cS [.k [1, 9, 57, 58, 59] [1]] (by kernel_rfl) (by kernel_rfl)) (ws_ ?_)
       refine tnU ?_
       refine sqJ (fun st' => ∃ v12 : Int, R31_Right.j13 k (R31_Right.l7 k a0 n) a0 v6 v12 = some o9 ∧ st' = ⟨[(1, .loc 1 0), (9, .p I6 v12), (57, .p (.list (.named 3)) a0.f_Vars), (58, .p I6 ((a0.f_Vars.length : Int) : Int)), (59, .p I6 v6)], [(1, .box [.p (.arr 6 .bool) a0.f_On, .p (.list .str) a0.f_News, .p (.list .str) a0.f_Goals, .p .str a0.f_File, .p I6 a0.f_Nproc, .p (.list (.named 3)) a0.f_Vars])]⟩) ?_ ?_
       ·refine wb_ ?_
        refine sq_ ?_
        obtain ⟨v14, hv14, h⟩ := bind_some h
        refine rS { its := [(0, .v (.named 3) hv14)] } [1, 9, 11, 57, 58, 59] [1, 11] hN (by kernel_rfl) (by kernel_rfl) ?_
        refine tnU ?_
        refine sqJ (fun st' => R31_Right.j18 k (R31_Right.l7 k a0 n) a0 v5 v6 v14 = some o9 ∧ st' = ⟨[(1, .loc 1 0), (9, .p I6 v5), (11, .loc 11 0), (57, .p (.list (.named 3)) a0.f_Vars), (58, .p I6 ((a0.f_Vars.length : Int) : Int)), (59, .p I6 v6)], [(1, .box [.p (.arr 6 .bool) a0.f_On, .p (.list .str) a0.f_News, .p (.list .str) a0.f_Goals, .p .str a0.f_File, .p I6 a0.f_Nproc, .p (.list (.named 3)) a0.f_Vars]), (11, .box [.p .str v14.fN, .p (.list .str) v14.f_Words, .p I6 v14.f_Level, .p .bool v14.f_Hidden])]⟩) ?_ ?_
        ·refine sqJ (fun st' => ∃ v19 : Bool, R31_Right.j21 k (R31_Right.l7 k a0 n) a0 v5 v6 v14 v19 = some o9 ∧ st' = ⟨[(1, .loc 1 0), (9, .p I6 v5), (11, .loc 11 0), (57, .p (.list (.named 3)) a0.f_Vars), (58, .p I6 ((a0.f_Vars.length : Int) : Int)), (59, .p I6 v6), (74, .p .bool v19)], [(1, .box [.p (.arr 6 .bool) a0.f_On, .p (.list .str) a0.f_News, .p (.list .str) a0.f_Goals, .p .str a0.f_File, .p I6 a0.f_Nproc, .p (.list (.named 3)) a0.f_Vars]), (11, .box [.p .str v14.fN, .p (.list .str) v14.f_Words, .p I6 v14.f_Level, .p .bool v14.f_Hidden])]⟩) ?_ ?_
         ·obtain ⟨v22, hv22, h⟩ := bind_some h
          rcases bool_cases (v22 != 0) with hc23 | hc23
          ·replace h := ite_t hc23 h
           refine rS { its := [(1, .c (R14_Check.ok O hO k (TR14V.mk v14.fN v14.f_Words v14.f_Level v14.f_Hidden) v22 hv22))], kn := [(66, .t hc23)] } [1, 9, 11, 57, 58, 59, 74] [1, 11] hN (by kernel_rfl) (by kernel_rfl) ?_
           refine tnU ?_
           exact ⟨true, h, by kernel_rfl⟩
          ·replace h := ite_f hc23 h
           rcases bool_cases (v14.f_Level != 2) with hc24 | hc24
           ·replace h := ite_t hc24 h
            refine rS { its := [(1, .c (R14_Check.ok O hO k (TR14V.mk v14.fN v14.f_Words v14.f_Level v14.f_Hidden) v22 hv22))], kn := [(66, .f hc23), (71, .t hc24)] } [1, 9, 11, 57, 58, 59, 74] [1, 11] hN (by kernel_rfl) (by kernel_rfl) ?_
            refine tnU ?_
            exact ⟨true, h, by kernel_rfl⟩
           ·replace h := ite_f hc24 h
            refine rS { its := [(1, .c (R14_Check.ok O hO k (TR14V.mk v14.fN v14.f_Words v14.f_Level v14.f_Hidden) v22 hv22))], kn := [(66, .f hc23), (71, .f hc24)] } [1, 9, 11, 57, 58, 59, 74] [1, 11] hN (by kernel_rfl) (by kernel_rfl) ?_
            refine tnU ?_
            exact ⟨v14.f_Hidden, h, by kernel_rfl⟩
         ·rintro _ ⟨v19, h, rfl⟩
          unfold R31_Right.j21 at h
          refine tS (b := v19) (by kernel_rfl) (fun hc20 => ?_) (fun hc20 => ?_)
          ·replace h := ite_t hc20 h
           refine sq_ ?_
           refine rS {} [2] [] hN (by kernel_rfl) (by kernel_rfl) ?_
           refine tnU ?_
           refine wr_ ?_
           refine tr_ ?_
           refine blockQ_ret ?_
           refine tr_ ?_
           have hq := Option.some.inj h
           subst hq
           refine tr_ ?_
           have h := hout10
           refine blockQ_ret ?_
           refine tr_ ?_
           have hq := Option.some.inj h
           subst hq
           exact eR (by kernel_rfl) (by kernel_rfl)
          ·replace h := ite_f hc20 h
           refine wc_ (cS [.k [1, 9, 11, 57, 58, 59] [1, 11]] (by kernel_rfl) (by kernel_rfl)) (ws_ ?_)
           refine tnU ?_
           exact ⟨h, by kernel_rfl⟩
        ·rintro _ ⟨h, rfl⟩
         unfold R31_Right.j18 at h
         refine sq_ ?_
         refine rS {} [1, 9, 11, 57, 58, 59, 77] [1, 11] hN (by kernel_rfl) (by kernel_rfl) ?_
         refine tnU ?_
         refine tS (b := (v14.fN == ([78, 80, 82, 79, 67] : List UInt8))) (by kernel_rfl) (fun hc15 => ?_) (fun hc15 => ?_)
         ·replace h := ite_t hc15 h
          refine sq_ ?_
          obtain ⟨v16, hv16, h⟩ := bind_some h
          refine rS { its := [(2, .c (R31_slots.ok O hO k v14.f_Words v16 hv16))] } [1, 9, 57, 58, 59] [1] hN (by kernel_rfl) (by kernel_rfl) ?_
          refine tnS ?_
          refine rS {} [1, 9, 57, 58, 59, 82] [1] hN (by kernel_rfl) (by kernel_rfl) ?_
          refine tnU ?_
          refine tS (b := (v16 == 0)) (by kernel_rfl) (fun hc17 => ?_) (fun hc17 => ?_)
          ·replace h := ite_t hc17 h
           refine sq_ ?_
           refine rS {} [2] [] hN (by kernel_rfl) (by kernel_rfl) ?_
           refine tnU ?_
           refine wr_ ?_
           refine blockQ_ret ?_
           refine tr_ ?_
           have hq := Option.some.inj h
           subst hq
           refine tr_ ?_
           have h := hout10
           refine blockQ_ret ?_
           refine tr_ ?_
           have hq := Option.some.inj h
           subst hq
           exact eR (by kernel_rfl) (by kernel_rfl)
          ·replace h := ite_f hc17 h
           refine wc_ (cS [.k [1, 9, 57, 58, 59] [1]] (by kernel_rfl) (by kernel_rfl)) (ws_ ?_)
           refine bn_ ?_
           refine tnU ?_
           exact ⟨v16, h, by kernel_rfl⟩
         ·replace h := ite_f hc15 h
          refine wc_ (cS [.k [1, 9, 57, 58, 59] [1]] (by kernel_rfl) (by kernel_rfl)) (ws_ ?_)
          refine bn_ ?_
          refine tnU ?_
          exact ⟨v5, h, by kernel_rfl⟩
       ·rintro _ ⟨v12, h, rfl⟩
        unfold R31_Right.j13 at h
        refine rS {} [1, 9, 57, 58, 59] [1] hN (by kernel_rfl) (by kernel_rfl) ?_
        refine tnU ?_
        exact ⟨n, Nat.lt_succ_self n, v12, (IntKind.i64.wrap (v6 + 1)), h, by kernel_rfl⟩
      ·replace h := ite_f hc11 h
       refine wc_ (cS [.k [1, 9] [1]] (by kernel_rfl) (by kernel_rfl)) (we_ ?_)
       refine te_ ?_
       have hq := Option.some.inj h
       subst hq
       refine te_ ?_
       have h := hout10
       refine blockQ_hit ?_
       refine tnU ?_
       exact ⟨v5, h, by kernel_rfl⟩
    ·rintro _ ⟨v3, h, rfl⟩
     unfold R31_Right.j4 at h
     refine sq_ ?_
     refine rS {} [2] [] hN (by kernel_rfl) (by kernel_rfl) ?_
     refine tnU ?_
     refine wr_ ?_
     have hq := Option.some.inj h
     subst hq
     exact eR (by kernel_rfl) (by kernel_rfl)

theorem Nm_SameTexts.ok (O : Out) (hO : GOk O) (k : Nat) (a0 : List (List UInt8)) (a1 : List (List UInt8)) (out : Bool) (h : Nm_SameTexts.f k a0 a1 = some out) : COk Un O Tryz.prog 20 { ar := [.p (.list .str) a0, .p (.list .str) a1], r := .p .bool out } := by
 refine cok_of_wp Tryz.func20 rfl (k := 26) rfl (Nat.le_of_ble_eq_true rfl) (namesOk_pure rfl rfl rfl rfl) ?_
 intro B hN
 refine ckS (b := ⟨[(0, .p (.list .str) a0), (1, .p (.list .str) a1)], []⟩) [0, 1] [] (by kernel_rfl) ?_
 unfold Nm_SameTexts.f at h
 refine sq_ ?_
 refine rS {} [0, 1] [] hN (by kernel_rfl) (by kernel_rfl) ?_
 refine tnS ?_
 refine sq_ ?_
 refine rS {} [0, 1, 10] [] hN (by kernel_rfl) (by kernel_rfl) ?_
 refine tnU ?_
 refine tS (b := ((a0.length : Int) != (a1.length : Int))) (by kernel_rfl) (fun hc1 => ?_) (fun hc1 => ?_)
 ·replace h := ite_t hc1 h
  refine sq_ ?_
  refine rS {} [4] [] hN (by kernel_rfl) (by kernel_rfl) ?_
  refine tnU ?_
  refine wr_ ?_
  refine tr_ ?_
  have hq := Option.some.inj h
  subst hq
  exact eR (by kernel_rfl) (by kernel_rfl)
 ·replace h := ite_f hc1 h
  refine wc_ (cS [.k [0, 1] []] (by kernel_rfl) (by kernel_rfl)) (ws_ ?_)
  refine tnU ?_
  refine sqJ (fun st' => Nm_SameTexts.j2 k = some out ∧ st' = ⟨[], []⟩) ?_ ?_
  ·refine sq_ ?_
   refine rS {} [0, 1, 12, 13] [] hN (by kernel_rfl) (by kernel_rfl) ?_
   refine tnU ?_
   refine wb_ ?_
   obtain ⟨o5, hlo5, h⟩ := bind_some h
   have hout6 := h
   clear h
   refine u1_ (fun n st' => ∃ v3 : Int, Nm_SameTexts.l4 k a0 a1 n v3 = some o5 ∧ st' = ⟨[(0, .p (.list .str) a0), (1, .p (.list .str) a1), (12, .p I6 ((a0.length : Int) : Int)), (13, .p I6 v3)], []⟩) k ⟨0, hlo5, by kernel_rfl⟩ ?_
   clear hlo5
   rintro (_ | n) _ ⟨v3, h, rfl⟩
   ·cases h
   ·rw [Nm_SameTexts.l4] at h
    refine sq_ ?_
    refine rS {} [0, 1, 12, 13, 14] [] hN (by kernel_rfl) (by kernel_rfl) ?_
    refine tnS ?_
    refine tS (b := (decide (v3 < (a0.length : Int)))) (by kernel_rfl) (fun hc7 => ?_) (fun hc7 => ?_)
    ·replace h := ite_t hc7 h
     refine wc_ (cS [.k [0, 1, 12, 13] []] (by kernel_rfl) (by kernel_rfl)) (ws_ ?_)
     refine tnS ?_
     refine wb_ ?_
     refine sq_ ?_
     refine rS {} [0, 1, 5, 12, 13] [] hN (by kernel_rfl) (by kernel_rfl) ?_
     refine tnS ?_
     obtain ⟨v8, hv8, h⟩ := bind_some h
     obtain ⟨v9, hv9, h⟩ := bind_some h
     refine rA { its := [(2, .v .str hv8), (6, .v .str hv9)] } [0, 1, 12, 13, 24] [] hN (by kernel_rfl) (by kernel_rfl) (by kernel_rfl) ?_
     refine tnU ?_
     refine tS (b := (!(v8 == v9))) (by kernel_rfl) (fun hc10 => ?_) (fun hc10 => ?_)
     ·replace h := ite_t hc10 h
      refine sq_ ?_
      refine rS {} [4] [] hN (by kernel_rfl) (by kernel_rfl) ?_
      refine tnU ?_
      refine wr_ ?_
      refine blockQ_ret ?_
      refine tr_ ?_
      have hq := Option.some.inj h
      subst hq
      refine tr_ ?_
      have h := hout6
      refine blockQ_ret ?_
      refine tr_ ?_
      have hq := Option.some.inj h
      subst hq
      exact eR (by kernel_rfl) (by kernel_rfl)
     ·replace h := ite_f hc10 h
      refine wc_ (cS [.k [0, 1, 12, 13] []] (by kernel_rfl) (by kernel_rfl)) (ws_ ?_)
      refine bn_ ?_
      refine tnU ?_
      refine rS {} [0, 1, 12, 13] [] hN (by kernel_rfl) (by kernel_rfl) ?_
      refine tnU ?_
      exact ⟨n, Nat.lt_succ_self n, (IntKind.i64.wrap (v3 + 1)), h, by kernel_rfl⟩
    ·replace h := ite_f hc7 h
     refine wc_ (cS [.k [] []] (by kernel_rfl) (by kernel_rfl)) (we_ ?_)
     refine te_ ?_
     have hq := Option.some.inj h
     subst hq
     refine te_ ?_
     have h := hout6
     refine blockQ_hit ?_
     refine tnU ?_
     exact ⟨h, by kernel_rfl⟩
  ·rintro _ ⟨h, rfl⟩
   unfold Nm_SameTexts.j2 at h
   refine sq_ ?_
   refine rS {} [4] [] hN (by kernel_rfl) (by kernel_rfl) ?_
   refine tnU ?_
   refine wr_ ?_
   have hq := Option.some.inj h
   subst hq
   exact eR (by kernel_rfl) (by kernel_rfl)

theorem R14_Same.ok (O : Out) (hO : GOk O) (k : Nat) (a0 : TR14V) (a1 : TR14V) (out : Bool) (h : R14_Same.f k a0 a1 = some out) : COk Un O Tryz.prog 33 { ar := [.p (.named 3) a0, .p (.named 3) a1], r := .p .bool out } := by
 refine cok_of_wp Tryz.func33 rfl (k := 31) rfl (Nat.le_of_ble_eq_true rfl) (namesOk_pure rfl rfl rfl rfl) ?_
 intro B hN
 refine ckS (b := ⟨[(0, .p (.named 3) a0), (1, .p (.named 3) a1)], []⟩) [0, 1] [] (by kernel_rfl) ?_
 unfold R14_Same.f at h
 refine sq_ ?_
 refine rS {} [2, 3] [2, 3] hN (by kernel_rfl) (by kernel_rfl) ?_
 refine tnS ?_
 rcases bool_cases (a0.fN == a1.fN) with hc1 | hc1
 ·replace h := ite_t hc1 h
  rcases bool_cases (a0.f_Level == a1.f_Level) with hc2 | hc2
  ·replace h := ite_t hc2 h
   rcases bool_cases (a0.f_Hidden == a1.f_Hidden) with hc3 | hc3
   ·replace h := ite_t hc3 h
    obtain ⟨v4, hv4, h⟩ := bind_some h
    refine rS { its := [(24, .c (Nm_SameTexts.ok O hO k a0.f_Words a1.f_Words v4 hv4))], kn := [(10, .t hc1), (17, .t hc2), (24, .t hc3)] } [4] [] hN (by kernel_rfl) (by kernel_rfl) ?_
    refine tnU ?_
    refine wr_ ?_
    have hq := Option.some.inj h
    subst hq
    exact eR (by kernel_rfl) (by kernel_rfl)
   ·replace h := ite_f hc3 h
    refine rS { kn := [(10, .t hc1), (17, .t hc2), (24, .f hc3)] } [4] [] hN (by kernel_rfl) (by kernel_rfl) ?_
    refine tnU ?_
    refine wr_ ?_
    have hq := Option.some.inj h
    subst hq
    exact eR (by kernel_rfl) (by kernel_rfl)
  ·replace h := ite_f hc2 h
   refine rS { kn := [(10, .t hc1), (17, .f hc2)] } [4] [] hN (by kernel_rfl) (by kernel_rfl) ?_
   refine tnU ?_
   refine wr_ ?_
   have hq := Option.some.inj h
   subst hq
   exact eR (by kernel_rfl) (by kernel_rfl)
 ·replace h := ite_f hc1 h
  refine rS { kn := [(10, .f hc1)] } [4] [] hN (by kernel_rfl) (by kernel_rfl) ?_
  refine tnU ?_
  refine wr_ ?_
  have hq := Option.some.inj h
  subst hq
  exact eR (by kernel_rfl) (by kernel_rfl)

theorem R31_Same.ok (O : Out) (hO : GOk O) (k : Nat) (a0 : TR31O) (a1 : TR31O) (out : Bool) (h : R31_Same.f k a0 a1 = some out) : COk Un O Tryz.prog 12 { ar := [.p (.named 5) a0, .p (.named 5) a1], r := .p .bool out } := by
 refine cok_of_wp Tryz.func12 rfl (k := 68) rfl (Nat.le_of_ble_eq_true rfl) (namesOk_pure rfl rfl rfl rfl) ?_
 intro B hN
 refine ckS (b := ⟨[(0, .p (.named 5) a0), (1, .p (.named 5) a1)], []⟩) [0, 1] [] (by kernel_rfl) ?_
 unfold R31_Same.f at h
 refine sq_ ?_
 refine rS {} [2, 3] [2, 3] hN (by kernel_rfl) (by kernel_rfl) ?_
 refine tnU ?_
 refine sqJ (fun st' => R31_Same.j13 k a0 a1 = some out ∧ st' = ⟨[(2, .loc 2 0), (3, .loc 3 0)], [(2, .box [.p (.arr 6 .bool) a0.f_On, .p (.list .str) a0.f_News, .p (.list .str) a0.f_Goals, .p .str a0.f_File, .p I6 a0.f_Nproc, .p (.list (.named 3)) a0.f_Vars]), (3, .box [.p (.arr 6 .bool) a1.f_On, .p (.list .str) a1.f_News, .p (.list .str) a1.f_Goals, .p .str a1.f_File, .p I6 a1.f_Nproc, .p (.list (.named 3)) a1.f_Vars])]⟩) ?_ ?_
 ·refine sqJ (fun st' => ∃ v14 : Bool, R31_Same.j16 k a0 a1 v14 = some out ∧ st' = ⟨[(2, .loc 2 0), (3, .loc 3 0), (50, .p .bool v14)], [(2, .box [.p (.arr 6 .bool) a0.f_On, .p (.list .str) a0.f_News, .p (.list .str) a0.f_Goals, .p .str a0.f_File, .p I6 a0.f_Nproc, .p (.list (.named 3)) a0.f_Vars]), (3, .box [.p (.arr 6 .bool) a1.f_On, .p (.list .str) a1.f_News, .p (.list .str) a1.f_Goals, .p .str a1.f_File, .p I6 a1.f_Nproc, .p (.list (.named 3)) a1.f_Vars])]⟩) ?_ ?_
  ·rcases bool_cases (!(a0.f_On == a1.f_On)) with hc17 | hc17
   ·replace h := ite_t hc17 h
    refine rS { its := [(4, .e 4 (u10_ (op := .neq) (rs := [(8, .p (.arr 6 .bool) a0.f_On), (10, .p (.arr 6 .bool) a1.f_On)]) rfl rfl Tryz.underlying33 Tryz.underlying4 ty_4 (by kernel_rfl) o0 o1))], kn := [(12, .t hc17)] } [2, 3, 50] [2, 3] hN (by kernel_rfl) (by kernel_rfl) ?_
    refine tnU ?_
    exact ⟨true, h, by kernel_rfl⟩
   ·replace h := ite_f hc17 h
    rcases bool_cases (!(a0.f_File == a1.f_File)) with hc18 | hc18
    ·replace h := ite_t hc18 h
     refine rS { its := [(4, .e 4 (u10_ (op := .neq) (rs := [(8, .p (.arr 6 .bool) a0.f_On), (10, .p (.arr 6 .bool) a1.f_On)]) rfl rfl Tryz.underlying33 Tryz.underlying4 ty_4 (by kernel_rfl) o0 o1))], kn := [(12, .f hc17), (19, .t hc18)] } [2, 3, 50] [2, 3] hN (by kernel_rfl) (by kernel_rfl) ?_
     refine tnU ?_
     exact ⟨true, h, by kernel_rfl⟩
    ·replace h := ite_f hc18 h
     rcases bool_cases (a0.f_Nproc != a1.f_Nproc) with hc19 | hc19
     ·replace h := ite_t hc19 h
      refine rS { its := [(4, .e 4 (u10_ (op := .neq) (rs := [(8, .p (.arr 6 .bool) a0.f_On), (10, .p (.arr 6 .bool) a1.f_On)]) rfl rfl Tryz.underlying33 Tryz.underlying4 ty_4 (by kernel_rfl) o0 o1))], kn := [(12, .f hc17), (19, .f hc18), (26, .t hc19)] } [2, 3, 50] [2, 3] hN (by kernel_rfl) (by kernel_rfl) ?_
      refine tnU ?_
      exact ⟨true, h, by kernel_rfl⟩
     ·replace h := ite_f hc19 h
      obtain ⟨v20, hv20, h⟩ := bind_some h
      rcases bool_cases (!v20) with hc21 | hc21
      ·replace h := ite_t hc21 h
       refine rS { its := [(4, .e 4 (u10_ (op := .neq) (rs := [(8, .p (.arr 6 .bool) a0.f_On), (10, .p (.arr 6 .bool) a1.f_On)]) rfl rfl Tryz.underlying33 Tryz.underlying4 ty_4 (by kernel_rfl) o0 o1)), (24, .c (Nm_SameTexts.ok O hO k a0.f_News a1.f_News v20 hv20))], kn := [(12, .f hc17), (19, .f hc18), (26, .f hc19), (34, .t hc21)] } [2, 3, 50] [2, 3] hN (by kernel_rfl) (by kernel_rfl) ?_
       refine tnU ?_
       exact ⟨true, h, by kernel_rfl⟩
      ·replace h := ite_f hc21 h
       obtain ⟨v22, hv22, h⟩ := bind_some h
       rcases bool_cases (!v22) with hc23 | hc23
       ·replace h := ite_t hc23 h
        refine rS { its := [(4, .e 4 (u10_ (op := .neq) (rs := [(8, .p (.arr 6 .bool) a0.f_On), (10, .p (.arr 6 .bool) a1.f_On)]) rfl rfl Tryz.underlying33 Tryz.underlying4 ty_4 (by kernel_rfl) o0 o1)), (24, .c (Nm_SameTexts.ok O hO k a0.f_News a1.f_News v20 hv20)), (32, .c (Nm_SameTexts.ok O hO k a0.f_Goals a1.f_Goals v22 hv22))], kn := [(12, .f hc17), (19, .f hc18), (26, .f hc19), (34, .f hc21), (42, .t hc23)] } [2, 3, 50] [2, 3] hN (by kernel_rfl) (by kernel_rfl) ?_
        refine tnU ?_
        exact ⟨true, h, by kernel_rfl⟩
       ·replace h := ite_f hc23 h
        refine rS { its := [(4, .e 4 (u10_ (op := .neq) (rs := [(8, .p (.arr 6 .bool) a0.f_On), (10, .p (.arr 6 .bool) a1.f_On)]) rfl rfl Tryz.underlying33 Tryz.underlying4 ty_4 (by kernel_rfl) o0 o1)), (24, .c (Nm_SameTexts.ok O hO k a0.f_News a1.f_News v20 hv20)), (32, .c (Nm_SameTexts.ok O hO k a0.f_Goals a1.f_Goals v22 hv22))], kn := [(12, .f hc17), (19, .f hc18), (26, .f hc19), (34, .f hc21), (42, .f hc23)] } [2, 3, 50] [2, 3] hN (by kernel_rfl) (by kernel_rfl) ?_
        refine tnU ?_
        exact ⟨((a0.f_Vars.length : Int) != (a1.f_Vars.length : Int)), h, by kernel_rfl⟩
  ·rintro _ ⟨v14, h, rfl⟩
   unfold R31_Same.j16 at h
   refine tS (b := v14) (by kernel_rfl) (fun hc15 => ?_) (fun hc15 => ?_)
   ·replace h := ite_t hc15 h
    refine sq_ ?_
    refine rS {} [4] [] hN (by kernel_rfl) (by kernel_rfl) ?_
    refine tnU ?_
    refine wr_ ?_
    refine tr_ ?_
    have hq := Option.some.inj h
    subst hq
    exact eR (by kernel_rfl) (by kernel_rfl)
   ·replace h := ite_f hc15 h
    refine wc_ (cS [.k [2, 3] [2, 3]] (by kernel_rfl) (by kernel_rfl)) (ws_ ?_)
    refine tnU ?_
    exact ⟨h, by kernel_rfl⟩
 ·rintro _ ⟨h, rfl⟩
  unfold R31_Same.j13 at h
  refine sqJ (fun st' => R31_Same.j1 k = some out ∧ st' = ⟨[], []⟩) ?_ ?_
  ·refine sq_ ?_
   refine rS {} [3, 52, 53, 54] [3] hN (by kernel_rfl) (by kernel_rfl) ?_
   refine tnU ?_
   refine wb_ ?_
   obtain ⟨o4, hlo4, h⟩ := bind_some h
   have hout5 := h
   clear h
   refine u1_ (fun n st' => ∃ v2 : Int, R31_Same.l3 k a0 a1 n v2 = some o4 ∧ st' = ⟨[(3, .loc 3 0), (52, .p (.list (.named 3)) a0.f_Vars), (53, .p I6 ((a0.f_Vars.length : Int) : Int)), (54, .p I6 v2)], [(3, .box [.p (.arr 6 .bool) a1.f_On, .p (.list .str) a1.f_News, .p (.list .str) a1.f_Goals, .p .str a1.f_File, .p I6 a1.f_Nproc, .p (.list (.named 3)) a1.f_Vars])]⟩) k ⟨0, hlo4, by kernel_rfl⟩ ?_
   clear hlo4
   rintro (_ | n) _ ⟨v2, h, rfl⟩
   ·cases h
   ·rw [R31_Same.l3] at h
    refine sq_ ?_
    refine rS {} [3, 52, 53, 54, 55] [3] hN (by kernel_rfl) (by kernel_rfl) ?_
    refine tnS ?_
    refine tS (b := (decide (v2 < (a0.f_Vars.length : Int)))) (by kernel_rfl) (fun hc6 => ?_) (fun hc6 => ?_)
    ·replace h := ite_t hc6 h
     refine wc_ (cS [.k [3, 52, 53, 54] [3]] (by kernel_rfl) (by kernel_rfl)) (ws_ ?_)
     refine tnS ?_
     refine wb_ ?_
     refine sq_ ?_
     obtain ⟨v7, hv7, h⟩ := bind_some h
     refine rS { its := [(1, .v (.named 3) hv7)] } [3, 5, 6, 52, 53, 54] [3, 6] hN (by kernel_rfl) (by kernel_rfl) ?_
     refine tnS ?_
     obtain ⟨v8, hv8, h⟩ := bind_some h
     obtain ⟨v9, hv9, h⟩ := bind_some h
     refine rA { its := [(4, .v (.named 3) hv8), (6, .c (R14_Same.ok O hO k (TR14V.mk v7.fN v7.f_Words v7.f_Level v7.f_Hidden) v8 v9 hv9))] } [3, 52, 53, 54, 66] [3] hN (by kernel_rfl) (by kernel_rfl) (by kernel_rfl) ?_
     refine tnU ?_
     refine tS (b := (!v9)) (by kernel_rfl) (fun hc10 => ?_) (fun hc10 => ?_)
     ·replace h := ite_t hc10 h
      refine sq_ ?_
      refine rS {} [4] [] hN (by kernel_rfl) (by kernel_rfl) ?_
      refine tnU ?_
      refine wr_ ?_
      refine blockQ_ret ?_
      refine tr_ ?_
      have hq := Option.some.inj h
      subst hq
      refine tr_ ?_
      have h := hout5
      refine blockQ_ret ?_
      refine tr_ ?_
      have hq := Option.some.inj h
      subst hq
      exact eR (by kernel_rfl) (by kernel_rfl)
     ·replace h := ite_f hc10 h
      refine wc_ (cS [.k [3, 52, 53, 54] [3]] (by kernel_rfl) (by kernel_rfl)) (ws_ ?_)
      refine bn_ ?_
      refine tnU ?_
      refine rS {} [3, 52, 53, 54] [3] hN (by kernel_rfl) (by kernel_rfl) ?_
      refine tnU ?_
      exact ⟨n, Nat.lt_succ_self n, (IntKind.i64.wrap (v2 + 1)), h, by kernel_rfl⟩
    ·replace h := ite_f hc6 h
     refine wc_ (cS [.k [] []] (by kernel_rfl) (by kernel_rfl)) (we_ ?_)
     refine te_ ?_
     have hq := Option.some.inj h
     subst hq
     refine te_ ?_
     have h := hout5
     refine blockQ_hit ?_
     refine tnU ?_
     exact ⟨h, by kernel_rfl⟩
  ·rintro _ ⟨h, rfl⟩
   unfold R31_Same.j1 at h
   refine sq_ ?_
   refine rS {} [4] [] hN (by kernel_rfl) (by kernel_rfl) ?_
   refine tnU ?_
   refine wr_ ?_
   have hq := Option.some.inj h
   subst hq
   exact eR (by kernel_rfl) (by kernel_rfl)

end Go.Proofs.YtcijochjfncefaaGreatDoor
