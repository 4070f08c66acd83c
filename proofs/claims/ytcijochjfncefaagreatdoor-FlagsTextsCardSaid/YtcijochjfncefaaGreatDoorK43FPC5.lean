/- A part of a proof: FPC5. -/
import Derived.Test.YtcijochjfncefaaGreatDoorK43FPC4
namespace Go.Proofs.YtcijochjfncefaaGreatDoor
open Go Go.AM
set_option linter.unusedVariables false
set_option linter.unusedSimpArgs false
set_option maxRecDepth 100000
set_option maxHeartbeats 4000000
theorem Nm_all.ok (O : Out) (hO : GOk O) (k : Nat) (out : List Nat) (h : Nm_all.f k = some out) : COk Un O Tryz.prog 31 { ar := [], r := .p (.list .err) out } := by
 refine cok_of_wp Tryz.func31 rfl (k := 20) rfl (Nat.le_of_ble_eq_true rfl) (namesOk_pure rfl rfl rfl rfl) ?_
 intro B hN
 refine ckS (b := ⟨[], []⟩) [] [] (by kernel_rfl) ?_
 unfold Nm_all.f at h
 refine sq_ ?_
 refine rS {} [] [] hN (by kernel_rfl) (by kernel_rfl) ?_
 refine tnS ?_
 refine rS { its := [(0, .e 0 (u9_ (t := .err) (rs := []) rfl rfl ty_30 rfl rfl (hO.var 0 1 rfl) (fun S w => .err 0))), (1, .e 1 (u9_ (t := .err) (rs := []) rfl rfl ty_30 rfl rfl (hO.var 1 2 rfl) (fun S w => .err 1))), (2, .e 2 (u9_ (t := .err) (rs := []) rfl rfl ty_30 rfl rfl (hO.var 2 3 rfl) (fun S w => .err 2))), (3, .e 3 (u9_ (t := .err) (rs := []) rfl rfl ty_30 rfl rfl (hO.var 3 4 rfl) (fun S w => .err 3))), (4, .e 4 (u9_ (t := .err) (rs := []) rfl rfl ty_30 rfl rfl (hO.var 4 5 rfl) (fun S w => .err 4))), (5, .e 5 (u9_ (t := .err) (rs := []) rfl rfl ty_30 rfl rfl (hO.var 5 6 rfl) (fun S w => .err 5))), (6, .e 6 (u9_ (t := .err) (rs := []) rfl rfl ty_30 rfl rfl (hO.var 6 7 rfl) (fun S w => .err 6))), (7, .e 7 (u9_ (t := .err) (rs := []) rfl rfl ty_30 rfl rfl (hO.var 7 8 rfl) (fun S w => .err 7))), (8, .e 8 (u9_ (t := .err) (rs := []) rfl rfl ty_30 rfl rfl (hO.var 8 9 rfl) (fun S w => .err 8))), (9, .e 9 (u9_ (t := .err) (rs := []) rfl rfl ty_30 rfl rfl (hO.var 9 10 rfl) (fun S w => .err 9))), (10, .e 10 (u9_ (t := .err) (rs := []) rfl rfl ty_30 rfl rfl (hO.var 10 11 rfl) (fun S w => .err 10))), (11, .e 11 (u9_ (t := .err) (rs := []) rfl rfl ty_30 rfl rfl (hO.var 11 12 rfl) (fun S w => .err 11))), (12, .e 12 (u9_ (t := .err) (rs := []) rfl rfl ty_30 rfl rfl (hO.var 12 13 rfl) (fun S w => .err 12))), (13, .e 13 (u9_ (t := .err) (rs := []) rfl rfl ty_30 rfl rfl (hO.var 13 14 rfl) (fun S w => .err 13))), (14, .e 14 (u9_ (t := .err) (rs := []) rfl rfl ty_30 rfl rfl (hO.var 14 15 rfl) (fun S w => .err 14))), (15, .e 15 (u9_ (t := .err) (rs := []) rfl rfl ty_30 rfl rfl (hO.var 15 0 rfl) (fun S w => .err 15))), (16, .e 16 (u9_ (t := .err) (rs := []) rfl rfl ty_30 rfl rfl (hO.var 16 16 rfl) (fun S w => .err 16))), (17, .e 17 (u9_ (t := .err) (rs := []) rfl rfl ty_30 rfl rfl (hO.var 17 17 rfl) (fun S w => .err 17)))] } [0] [19] hN (by kernel_rfl) (by kernel_rfl) ?_
 refine tnU ?_
 refine wc_ (cS [.fz 0, .k [0] []] (by kernel_rfl) (by kernel_rfl)) (wr_ ?_)
 have hq := Option.some.inj h
 subst hq
 exact eR (by kernel_rfl) (by kernel_rfl)

theorem Nm_Num.ok (O : Out) (hO : GOk O) (k : Nat) (a0 : Nat) (out : Int) (h : Nm_Num.f k a0 = some out) : COk Un O Tryz.prog 11 { ar := [.p .err a0], r := .p I6 out } := by
 refine cok_of_wp Tryz.func11 rfl (k := 20) rfl (Nat.le_of_ble_eq_true rfl) (namesOk_pure rfl rfl rfl rfl) ?_
 intro B hN
 refine ckS (b := ⟨[(0, .p .err a0)], []⟩) [0] [] (by kernel_rfl) ?_
 unfold Nm_Num.f at h
 refine sq_ ?_
 refine rS {} [0] [] hN (by kernel_rfl) (by kernel_rfl) ?_
 refine tnS ?_
 refine sq_ ?_
 refine rS {} [0, 6] [] hN (by kernel_rfl) (by kernel_rfl) ?_
 refine tnU ?_
 refine tS (b := (a0 == 0)) (by kernel_rfl) (fun hc1 => ?_) (fun hc1 => ?_)
 ·replace h := ite_t hc1 h
  refine sq_ ?_
  refine rS {} [2] [] hN (by kernel_rfl) (by kernel_rfl) ?_
  refine tnU ?_
  refine wr_ ?_
  refine tr_ ?_
  have hq := Option.some.inj h
  subst hq
  exact eR (by kernel_rfl) (by kernel_rfl)
 ·replace h := ite_f hc1 h
  refine wc_ (cS [.k [0] []] (by kernel_rfl) (by kernel_rfl)) (ws_ ?_)
  refine tnU ?_
  refine sqJ (fun st' => Nm_Num.j2 k = some out ∧ st' = ⟨[], []⟩) ?_ ?_
  ·refine sq_ ?_
   obtain ⟨v3, hv3, h⟩ := bind_some h
   refine rS { its := [(0, .c (Nm_all.ok O hO k v3 hv3))] } [0, 7, 8, 9] [] hN (by kernel_rfl) (by kernel_rfl) ?_
   refine tnU ?_
   refine wb_ ?_
   obtain ⟨o6, hlo6, h⟩ := bind_some h
   have hout7 := h
   clear h
   refine u1_ (fun n st' => ∃ v4 : Int, Nm_Num.l5 k a0 v3 n v4 = some o6 ∧ st' = ⟨[(0, .p .err a0), (7, .p (.list .err) v3), (8, .p I6 ((v3.length : Int) : Int)), (9, .p I6 v4)], []⟩) k ⟨0, hlo6, by kernel_rfl⟩ ?_
   clear hlo6
   rintro (_ | n) _ ⟨v4, h, rfl⟩
   ·cases h
   ·rw [Nm_Num.l5] at h
    refine sq_ ?_
    refine rS {} [0, 7, 8, 9, 10] [] hN (by kernel_rfl) (by kernel_rfl) ?_
    refine tnS ?_
    refine tS (b := (decide (v4 < (v3.length : Int)))) (by kernel_rfl) (fun hc8 => ?_) (fun hc8 => ?_)
    ·replace h := ite_t hc8 h
     refine wc_ (cS [.k [0, 7, 8, 9] []] (by kernel_rfl) (by kernel_rfl)) (ws_ ?_)
     refine tnS ?_
     refine wb_ ?_
     refine sq_ ?_
     obtain ⟨v9, hv9, h⟩ := bind_some h
     refine rS { its := [(1, .v .err hv9)] } [0, 3, 4, 7, 8, 9] [] hN (by kernel_rfl) (by kernel_rfl) ?_
     refine tnS ?_
     obtain ⟨v10, hv10, h⟩ := bind_some h
     refine rS { its := [(2, .c (pIs.ok O hO k a0 v9 v10 hv10))] } [0, 3, 7, 8, 9, 16] [] hN (by kernel_rfl) (by kernel_rfl) ?_
     refine tnU ?_
     refine tS (b := v10) (by kernel_rfl) (fun hc11 => ?_) (fun hc11 => ?_)
     ·replace h := ite_t hc11 h
      refine sq_ ?_
      refine rS {} [2] [] hN (by kernel_rfl) (by kernel_rfl) ?_
      refine tnU ?_
      refine wr_ ?_
      refine blockQ_ret ?_
      refine tr_ ?_
      have hq := Option.some.inj h
      subst hq
      refine tr_ ?_
      have h := hout7
      refine blockQ_ret ?_
      refine tr_ ?_
      have hq := Option.some.inj h
      subst hq
      exact eR (by kernel_rfl) (by kernel_rfl)
     ·replace h := ite_f hc11 h
      refine wc_ (cS [.k [0, 7, 8, 9] []] (by kernel_rfl) (by kernel_rfl)) (ws_ ?_)
      refine bn_ ?_
      refine tnU ?_
      refine rS {} [0, 7, 8, 9] [] hN (by kernel_rfl) (by kernel_rfl) ?_
      refine tnU ?_
      exact ⟨n, Nat.lt_succ_self n, (IntKind.i64.wrap (v4 + 1)), h, by kernel_rfl⟩
    ·replace h := ite_f hc8 h
     refine wc_ (cS [.k [] []] (by kernel_rfl) (by kernel_rfl)) (we_ ?_)
     refine te_ ?_
     have hq := Option.some.inj h
     subst hq
     refine te_ ?_
     have h := hout7
     refine blockQ_hit ?_
     refine tnU ?_
     exact ⟨h, by kernel_rfl⟩
  ·rintro _ ⟨h, rfl⟩
   unfold Nm_Num.j2 at h
   refine sq_ ?_
   refine rS {} [2] [] hN (by kernel_rfl) (by kernel_rfl) ?_
   refine tnU ?_
   refine wr_ ?_
   have hq := Option.some.inj h
   subst hq
   exact eR (by kernel_rfl) (by kernel_rfl)

theorem R11_Plain.ok (O : Out) (hO : GOk O) (k : Nat) (a0 : List UInt8) (out : Bool) (h : R11_Plain.f k a0 = some out) : COk Un O Tryz.prog 69 { ar := [.p .str a0], r := .p .bool out } := by
 refine cok_of_wp Tryz.func69 rfl (k := 28) rfl (Nat.le_of_ble_eq_true rfl) (namesOk_pure rfl rfl rfl rfl) ?_
 intro B hN
 refine ckS (b := ⟨[(0, .p .str a0)], []⟩) [0] [] (by kernel_rfl) ?_
 unfold R11_Plain.f at h
 refine sq_ ?_
 refine rS {} [0] [] hN (by kernel_rfl) (by kernel_rfl) ?_
 refine tnS ?_
 refine rS {} [0, 3] [] hN (by kernel_rfl) (by kernel_rfl) ?_
 refine tnU ?_
 refine sqJ (fun st' => R11_Plain.j1 k a0 = some out ∧ st' = ⟨[(0, .p .str a0)], []⟩) ?_ ?_
 ·refine sq_ ?_
  refine rS {} [0, 3, 4] [] hN (by kernel_rfl) (by kernel_rfl) ?_
  refine tnU ?_
  refine wb_ ?_
  obtain ⟨o4, hlo4, h⟩ := bind_some h
  have hout5 := h
  clear h
  refine u1_ (fun n st' => ∃ v2 : Int, R11_Plain.l3 k a0 n v2 = some o4 ∧ st' = ⟨[(0, .p .str a0), (3, .p .str (([39, 32, 9, 10, 35, 36, 96, 58, 61, 60, 92, 59, 38, 124, 40, 41, 123, 125, 91, 93, 42, 63, 94, 126] : List UInt8) : List UInt8)), (4, .p I6 v2)], []⟩) k ⟨0, hlo4, by kernel_rfl⟩ ?_
  clear hlo4
  rintro (_ | n) _ ⟨v2, h, rfl⟩
  ·cases h
  ·rw [R11_Plain.l3] at h
   refine sq_ ?_
   refine sq_ ?_
   refine rS {} [0, 3, 4, 9] [] hN (by kernel_rfl) (by kernel_rfl) ?_
   refine tnU ?_
   refine tS (b := (decide (v2 < (a0.length : Int)))) (by kernel_rfl) (fun hc6 => ?_) (fun hc6 => ?_)
   ·replace h := ite_t hc6 h
    refine wc_ (cS [.k [0, 3, 4] []] (by kernel_rfl) (by kernel_rfl)) (ws_ ?_)
    refine tnU ?_
    refine sqJ (fun st' => R11_Plain.j7 k (R11_Plain.l3 k a0 n) a0 v2 = some o4 ∧ st' = ⟨[(0, .p .str a0), (3, .p .str (([39, 32, 9, 10, 35, 36, 96, 58, 61, 60, 92, 59, 38, 124, 40, 41, 123, 125, 91, 93, 42, 63, 94, 126] : List UInt8) : List UInt8)), (4, .p I6 v2)], []⟩) ?_ ?_
    ·refine wb_ ?_
     refine sq_ ?_
     refine rS {} [0, 3, 4, 5] [] hN (by kernel_rfl) (by kernel_rfl) ?_
     refine tnU ?_
     refine wb_ ?_
     obtain ⟨o10, hlo10, h⟩ := bind_some h
     have hout11 := h
     clear h
     refine u1_ (fun n st' => ∃ v8 : Int, R11_Plain.l9 k a0 v2 n v8 = some o10 ∧ st' = ⟨[(0, .p .str a0), (3, .p .str (([39, 32, 9, 10, 35, 36, 96, 58, 61, 60, 92, 59, 38, 124, 40, 41, 123, 125, 91, 93, 42, 63, 94, 126] : List UInt8) : List UInt8)), (4, .p I6 v2), (5, .p I6 v8)], []⟩) k ⟨0, hlo10, by kernel_rfl⟩ ?_
     clear hlo10
     rintro (_ | n) _ ⟨v8, h, rfl⟩
     ·cases h
     ·rw [R11_Plain.l9] at h
      refine sq_ ?_
      refine sq_ ?_
      refine rS {} [0, 3, 4, 5, 15] [] hN (by kernel_rfl) (by kernel_rfl) ?_
      refine tnU ?_
      refine tS (b := (decide (v8 < (([39, 32, 9, 10, 35, 36, 96, 58, 61, 60, 92, 59, 38, 124, 40, 41, 123, 125, 91, 93, 42, 63, 94, 126] : List UInt8).length : Int)))) (by kernel_rfl) (fun hc12 => ?_) (fun hc12 => ?_)
      ·replace h := ite_t hc12 h
       refine wc_ (cS [.k [0, 3, 4, 5] []] (by kernel_rfl) (by kernel_rfl)) (ws_ ?_)
       refine tnS ?_
       refine wb_ ?_
       refine sq_ ?_
       obtain ⟨v13, hv13, h⟩ := bind_some h
       obtain ⟨v14, hv14, h⟩ := bind_some h
       refine rA { its := [(2, .u hv13), (5, .u hv14)] } [0, 3, 4, 5, 24] [] hN (by kernel_rfl) (by kernel_rfl) (by kernel_rfl) ?_
       refine tnU ?_
       refine tS (b := ((v13.toNat : Int) == (v14.toNat : Int))) (by kernel_rfl) (fun hc15 => ?_) (fun hc15 => ?_)
       ·replace h := ite_t hc15 h
        refine sq_ ?_
        refine rS {} [2] [] hN (by kernel_rfl) (by kernel_rfl) ?_
        refine tnU ?_
        refine wr_ ?_
        refine blockQ_ret ?_
        refine tr_ ?_
        have hq := Option.some.inj h
        subst hq
        refine tr_ ?_
        have h := hout11
        refine blockQ_ret ?_
        refine blockQ_ret ?_
        refine tr_ ?_
        have hq := Option.some.inj h
        subst hq
        refine tr_ ?_
        have h := hout5
        refine blockQ_ret ?_
        refine tr_ ?_
        have hq := Option.some.inj h
        subst hq
        exact eR (by kernel_rfl) (by kernel_rfl)
       ·replace h := ite_f hc15 h
        refine wc_ (cS [.k [0, 3, 4, 5] []] (by kernel_rfl) (by kernel_rfl)) (ws_ ?_)
        refine bn_ ?_
        refine tnU ?_
        refine rS {} [0, 3, 4, 5] [] hN (by kernel_rfl) (by kernel_rfl) ?_
        refine tnU ?_
        exact ⟨n, Nat.lt_succ_self n, (IntKind.i64.wrap (v8 + 1)), h, by kernel_rfl⟩
      ·replace h := ite_f hc12 h
       refine wc_ (cS [.k [0, 3, 4] []] (by kernel_rfl) (by kernel_rfl)) (we_ ?_)
       refine te_ ?_
       have hq := Option.some.inj h
       subst hq
       refine te_ ?_
       have h := hout11
       refine blockQ_hit ?_
       refine bn_ ?_
       refine tnU ?_
       exact ⟨h, by kernel_rfl⟩
    ·rintro _ ⟨h, rfl⟩
     unfold R11_Plain.j7 at h
     refine rS {} [0, 3, 4] [] hN (by kernel_rfl) (by kernel_rfl) ?_
     refine tnU ?_
     exact ⟨n, Nat.lt_succ_self n, (IntKind.i64.wrap (v2 + 1)), h, by kernel_rfl⟩
   ·replace h := ite_f hc6 h
    refine wc_ (cS [.k [0] []] (by kernel_rfl) (by kernel_rfl)) (we_ ?_)
    refine te_ ?_
    have hq := Option.some.inj h
    subst hq
    refine te_ ?_
    have h := hout5
    refine blockQ_hit ?_
    refine tnU ?_
    exact ⟨h, by kernel_rfl⟩
 ·rintro _ ⟨h, rfl⟩
  unfold R11_Plain.j1 at h
  refine sq_ ?_
  refine rS {} [2] [] hN (by kernel_rfl) (by kernel_rfl) ?_
  refine tnU ?_
  refine wr_ ?_
  have hq := Option.some.inj h
  subst hq
  exact eR (by kernel_rfl) (by kernel_rfl)

theorem R11_Quote.ok (O : Out) (hO : GOk O) (k : Nat) (a0 : List UInt8) (out : List UInt8) (h : R11_Quote.f k a0 = some out) : COk Un O Tryz.prog 49 { ar := [.p .str a0], r := .p .str out } := by
 refine cok_of_wp Tryz.func49 rfl (k := 29) rfl (Nat.le_of_ble_eq_true rfl) (namesOk_pure rfl rfl rfl rfl) ?_
 intro B hN
 refine ckS (b := ⟨[(0, .p .str a0)], []⟩) [0] [] (by kernel_rfl) ?_
 unfold R11_Quote.f at h
 refine sq_ ?_
 refine rS {} [0] [] hN (by kernel_rfl) (by kernel_rfl) ?_
 refine tnS ?_
 refine sq_ ?_
 obtain ⟨v1, hv1, h⟩ := bind_some h
 refine rS { its := [(1, .c (R11_Plain.ok O hO k a0 v1 hv1))] } [0, 6] [] hN (by kernel_rfl) (by kernel_rfl) ?_
 refine tnU ?_
 refine tS (b := v1) (by kernel_rfl) (fun hc2 => ?_) (fun hc2 => ?_)
 ·replace h := ite_t hc2 h
  refine sq_ ?_
  refine rS {} [2] [] hN (by kernel_rfl) (by kernel_rfl) ?_
  refine tnU ?_
  refine wr_ ?_
  refine tr_ ?_
  have hq := Option.some.inj h
  subst hq
  exact eR (by kernel_rfl) (by kernel_rfl)
 ·replace h := ite_f hc2 h
  refine wc_ (cS [.k [0] []] (by kernel_rfl) (by kernel_rfl)) (ws_ ?_)
  refine tnS ?_
  refine rS {} [0, 3] [] hN (by kernel_rfl) (by kernel_rfl) ?_
  refine tnU ?_
  refine sqJ (fun st' => ∃ v3 : List UInt8, R11_Quote.j5 k v3 = some out ∧ st' = ⟨[(3, .p .str v3)], []⟩) ?_ ?_
  ·refine sq_ ?_
   refine rS {} [0, 3, 4] [] hN (by kernel_rfl) (by kernel_rfl) ?_
   refine tnU ?_
   refine wb_ ?_
   obtain ⟨o10, hlo10, h⟩ := bind_some h
   have hout11 := h
   clear h
   refine u1_ (fun n st' => ∃ v6 : List UInt8, ∃ v7 : Int, R11_Quote.l8 k a0 n v6 v7 = some o10 ∧ st' = ⟨[(0, .p .str a0), (3, .p .str v6), (4, .p I6 v7)], []⟩) k ⟨([39] : List UInt8), 0, hlo10, by kernel_rfl⟩ ?_
   clear hlo10
   rintro (_ | n) _ ⟨v6, v7, h, rfl⟩
   ·cases h
   ·rw [R11_Quote.l8] at h
    refine sq_ ?_
    refine sq_ ?_
    refine rS {} [0, 3, 4, 11] [] hN (by kernel_rfl) (by kernel_rfl) ?_
    refine tnU ?_
    refine tS (b := (decide (v7 < (a0.length : Int)))) (by kernel_rfl) (fun hc12 => ?_) (fun hc12 => ?_)
    ·replace h := ite_t hc12 h
     refine wc_ (cS [.k [0, 3, 4] []] (by kernel_rfl) (by kernel_rfl)) (ws_ ?_)
     refine tnU ?_
     refine sqJ (fun st' => ∃ v13 : List UInt8, R11_Quote.j14 k (R11_Quote.l8 k a0 n) a0 v7 v13 = some o10 ∧ st' = ⟨[(0, .p .str a0), (3, .p .str v13), (4, .p I6 v7)], []⟩) ?_ ?_
     ·refine wb_ ?_
      refine sq_ ?_
      obtain ⟨v15, hv15, h⟩ := bind_some h
      obtain ⟨g16, h⟩ := if_some h
      refine rS { its := [(5, .v .str hv15), (6, .g g16)] } [0, 3, 4] [] hN (by kernel_rfl) (by kernel_rfl) ?_
      refine tnS ?_
      obtain ⟨v17, hv17, h⟩ := bind_some h
      refine rS { its := [(2, .u hv17)] } [0, 3, 4, 24] [] hN (by kernel_rfl) (by kernel_rfl) ?_
      refine tnU ?_
      refine tS (b := ((v17.toNat : Int) == 39)) (by kernel_rfl) (fun hc18 => ?_) (fun hc18 => ?_)
      ·replace h := ite_t hc18 h
       obtain ⟨g19, h⟩ := if_some h
       refine rS { its := [(1, .g g19)] } [0, 3, 4] [] hN (by kernel_rfl) (by kernel_rfl) ?_
       refine bn_ ?_
       refine tnU ?_
       exact ⟨((v6 ++ v15) ++ ([39] : List UInt8)), h, by kernel_rfl⟩
      ·replace h := ite_f hc18 h
       refine wc_ (cS [.k [0, 3, 4] []] (by kernel_rfl) (by kernel_rfl)) (ws_ ?_)
       refine bn_ ?_
       refine tnU ?_
       exact ⟨(v6 ++ v15), h, by kernel_rfl⟩
     ·rintro _ ⟨v13, h, rfl⟩
      unfold R11_Quote.j14 at h
      refine rS {} [0, 3, 4] [] hN (by kernel_rfl) (by kernel_rfl) ?_
      refine tnU ?_
      exact ⟨n, Nat.lt_succ_self n, v13, (IntKind.i64.wrap (v7 + 1)), h, by kernel_rfl⟩
    ·replace h := ite_f hc12 h
     refine wc_ (cS [.k [3] []] (by kernel_rfl) (by kernel_rfl)) (we_ ?_)
     refine te_ ?_
     have hq := Option.some.inj h
     subst hq
     refine te_ ?_
     have h := hout11
     refine blockQ_hit ?_
     refine tnU ?_
     exact ⟨v6, h, by kernel_rfl⟩
  ·rintro _ ⟨v3, h, rfl⟩
   unfold R11_Quote.j5 at h
   refine sq_ ?_
   obtain ⟨g4, h⟩ := if_some h
   refine rS { its := [(1, .g g4)] } [2] [] hN (by kernel_rfl) (by kernel_rfl) ?_
   refine tnU ?_
   refine wr_ ?_
   have hq := Option.some.inj h
   subst hq
   exact eR (by kernel_rfl) (by kernel_rfl)

theorem R31_Text.ok (O : Out) (hO : GOk O) (k : Nat) (a0 : TR31O) (out : List (List UInt8)) (h : R31_Text.f k a0 = some out) : COk Un O Tryz.prog 21 { ar := [.p (.named 5) a0], r := .p (.list .str) out } := by
 refine cok_of_wp Tryz.func21 rfl (k := 103) rfl (Nat.le_of_ble_eq_true rfl) (namesOk_pure rfl rfl rfl rfl) ?_
 intro B hN
 refine ckS (b := ⟨[(0, .p (.named 5) a0)], []⟩) [0] [] (by kernel_rfl) ?_
 unfold R31_Text.f at h
 refine sq_ ?_
 refine rS {} [1] [1] hN (by kernel_rfl) (by kernel_rfl) ?_
 refine tnS ?_
 refine rSC {} [1, 3] [1, 15] hN (by kernel_rfl) (by kernel_rfl) (cS [.k [1, 3] [1, 15], .x (u0_ (st := ⟨[(1, .loc 1 0), (3, .vec 15 1 0 (([] : List (List UInt8)).length))], [(1, .box [.p (.arr 6 .bool) a0.f_On, .p (.list .str) a0.f_News, .p (.list .str) a0.f_Goals, .p .str a0.f_File, .p I6 a0.f_Nproc, .p (.list (.named 3)) a0.f_Vars]), (15, .row 9 .str ([] : List (List UInt8)) true)]⟩) (st' := ⟨[(1, .loc 1 0), (3, .vec 15 1 0 0)], [(1, .box [.p (.arr 6 .bool) a0.f_On, .p (.list .str) a0.f_News, .p (.list .str) a0.f_Goals, .p .str a0.f_File, .p I6 a0.f_Nproc, .p (.list (.named 3)) a0.f_Vars]), (15, .row 9 .str ([] : List (List UInt8)) true)]⟩) (by simp only [upd_length, List.length_nil, List.length_replicate]))] (by kernel_rfl) (by kernel_rfl)) ?_
 refine tnS ?_
 refine rS {} [1, 3, 4] [1, 15] hN (by kernel_rfl) (by kernel_rfl) ?_
 refine tnU ?_
 refine sqJ (fun st' => ∃ v1 : List UInt8, R31_Text.j65 k a0 v1 = some out ∧ st' = ⟨[(1, .loc 1 0), (3, .vec 15 1 0 0), (4, .p .str v1)], [(1, .box [.p (.arr 6 .bool) a0.f_On, .p (.list .str) a0.f_News, .p (.list .str) a0.f_Goals, .p .str a0.f_File, .p I6 a0.f_Nproc, .p (.list (.named 3)) a0.f_Vars]), (15, .row 9 .str ([] : List (List UInt8)) true)]⟩) ?_ ?_
 ·refine sq_ ?_
  refine rS {} [1, 3, 4, 17, 18] [1, 15] hN (by kernel_rfl) (by kernel_rfl) ?_
  refine tnU ?_
  refine wb_ ?_
  obtain ⟨o70, hlo70, h⟩ := bind_some h
  have hout71 := h
  clear h
  refine u1_ (fun n st' => ∃ v66 : List UInt8, ∃ v67 : Int, R31_Text.l68 k a0 n v66 v67 = some o70 ∧ st' = ⟨[(1, .loc 1 0), (3, .vec 15 1 0 0), (4, .p .str v66), (17, .p (.arr 6 .bool) a0.f_On), (18, .p I6 v67)], [(1, .box [.p (.arr 6 .bool) a0.f_On, .p (.list .str) a0.f_News, .p (.list .str) a0.f_Goals, .p .str a0.f_File, .p I6 a0.f_Nproc, .p (.list (.named 3)) a0.f_Vars]), (15, .row 9 .str ([] : List (List UInt8)) true)]⟩) k ⟨([45] : List UInt8), 0, hlo70, by kernel_rfl⟩ ?_
  clear hlo70
  rintro (_ | n) _ ⟨v66, v67, h, rfl⟩
  ·cases h
  ·rw [R31_Text.l68] at h
   refine sq_ ?_
   refine rS {} [1, 3, 4, 17, 18, 19] [1, 15] hN (by kernel_rfl) (by kernel_rfl) ?_
   refine tnS ?_
   refine tS (b := (decide (v67 < 6))) (by kernel_rfl) (fun hc72 => ?_) (fun hc72 => ?_)
   ·replace h := ite_t hc72 h
    refine wc_ (cS [.k [1, 3, 4, 17, 18] [1, 15]] (by kernel_rfl) (by kernel_rfl)) (ws_ ?_)
    refine tnU ?_
    refine sqJ (fun st' => ∃ v73 : List UInt8, R31_Text.j74 k (R31_Text.l68 k a0 n) a0 v67 v73 = some o70 ∧ st' = ⟨[(1, .loc 1 0), (3, .vec 15 1 0 0), (4, .p .str v73), (17, .p (.arr 6 .bool) a0.f_On), (18, .p I6 v67)], [(1, .box [.p (.arr 6 .bool) a0.f_On, .p (.list .str) a0.f_News, .p (.list .str) a0.f_Goals, .p .str a0.f_File, .p I6 a0.f_Nproc, .p (.list (.named 3)) a0.f_Vars]), (15, .row 9 .str ([] : List (List UInt8)) true)]⟩) ?_ ?_
    ·refine wb_ ?_
     refine sq_ ?_
     obtain ⟨v75, hv75, h⟩ := bind_some h
     refine rS { its := [(1, .v .bool hv75)] } [1, 3, 4, 5, 6, 17, 18] [1, 15] hN (by kernel_rfl) (by kernel_rfl) ?_
     refine tnS ?_
     refine rS {} [1, 3, 4, 5, 17, 18, 22] [1, 15] hN (by kernel_rfl) (by kernel_rfl) ?_
     refine tnU ?_
     refine tS (b := v75) (by kernel_rfl) (fun hc76 => ?_) (fun hc76 => ?_)
     ·replace h := ite_t hc76 h
      obtain ⟨v77, hv77, h⟩ := bind_some h
      obtain ⟨g78, h⟩ := if_some h
      refine rS { its := [(4, .v .str hv77), (5, .g g78)] } [1, 3, 4, 17, 18] [1, 15] hN (by kernel_rfl) (by kernel_rfl) ?_
      refine bn_ ?_
      refine tnU ?_
      exact ⟨(v66 ++ v77), h, by kernel_rfl⟩
     ·replace h := ite_f hc76 h
      refine wc_ (cS [.k [1, 3, 4, 17, 18] [1, 15]] (by kernel_rfl) (by kernel_rfl)) (ws_ ?_)
      refine bn_ ?_
      refine tnU ?_
      exact ⟨v66, h, by kernel_rfl⟩
    ·rintro _ ⟨v73, h, rfl⟩
     unfold R31_Text.j74 at h
     refine rS {} [1, 3, 4, 17, 18] [1, 15] hN (by kernel_rfl) (by kernel_rfl) ?_
     refine tnU ?_
     exact ⟨n, Nat.lt_succ_self n, v73, (IntKind.i64.wrap (v67 + 1)), h, by kernel_rfl⟩
   ·replace h := ite_f hc72 h
    refine wc_ (cS [.k [1, 3, 4] [1, 15]] (by kernel_rfl) (by kernel_rfl)) (we_ ?_)
    refine te_ ?_
    have hq := Option.some.inj h
    subst hq
    refine te_ ?_
    have h := hout71
    refine blockQ_hit ?_
    refine tnU ?_
    exact ⟨v66, h, by kernel_rfl⟩
 ·rintro _ ⟨v1, h, rfl⟩
  unfold R31_Text.j65 at h
  refine sqJ (fun st' => ∃ v2 : List (List UInt8), R31_Text.j62 k a0 v2 = some out ∧ st' = ⟨[(1, .loc 1 0), (3, .vec 1003 1 0 v2.length)], [(1, .box [.p (.arr 6 .bool) a0.f_On, .p (.list .str) a0.f_News, .p (.list .str) a0.f_Goals, .p .str a0.f_File, .p I6 a0.f_Nproc, .p (.list (.named 3)) a0.f_Vars]), (1003, .row 9 .str v2 false)]⟩) ?_ ?_
  ·refine sq_ ?_
   refine rS {} [1, 3, 4, 32] [1, 15] hN (by kernel_rfl) (by kernel_rfl) ?_
   refine tnU ?_
   refine tS (b := (decide ((v1.length : Int) > 1))) (by kernel_rfl) (fun hc63 => ?_) (fun hc63 => ?_)
   ·replace h := ite_t hc63 h
    refine wc_ (cS [.k [1, 3, 4, 32] [1, 15], .x (u0_ (st := ⟨[(1, .loc 1 0), (3, .vec 15 1 0 0), (4, .p .str v1), (32, .p .bool ((decide ((v1.length : Int) > 1)) : Bool))], [(1, .box [.p (.arr 6 .bool) a0.f_On, .p (.list .str) a0.f_News, .p (.list .str) a0.f_Goals, .p .str a0.f_File, .p I6 a0.f_Nproc, .p (.list (.named 3)) a0.f_Vars]), (15, .row 9 .str ([] : List (List UInt8)) true)]⟩) (st' := ⟨[(1, .loc 1 0), (3, .vec 15 1 0 (([] : List (List UInt8)).length)), (4, .p .str v1), (32, .p .bool ((decide ((v1.length : Int) > 1)) : Bool))], [(1, .box [.p (.arr 6 .bool) a0.f_On, .p (.list .str) a0.f_News, .p (.list .str) a0.f_Goals, .p .str a0.f_File, .p I6 a0.f_Nproc, .p (.list (.named 3)) a0.f_Vars]), (15, .row 9 .str ([] : List (List UInt8)) true)]⟩) (by simp only [upd_length, List.length_nil, List.length_replicate]))] (by kernel_rfl) (by kernel_rfl)) ?_
    obtain ⟨g64, h⟩ := if_some h
    refine rSC { its := [(3, .g g64)] } [1, 3] [1, 36] hN (by kernel_rfl) (by kernel_rfl) (cS [.rn 36 1003, .k [1, 3] [1, 1003]] (by kernel_rfl) (by kernel_rfl)) ?_
    refine tnU ?_
    exact ⟨(([] : List (List UInt8)) ++ [v1]), h, by kernel_rfl⟩
   ·replace h := ite_f hc63 h
    refine wc_ (cS [.k [1, 3] [1, 15], .lo 15, .k [1, 3] [1, 15], .rn 15 1003, .k [1, 3] [1, 1003]] (by kernel_rfl) (by kernel_rfl)) (ws_ ?_)
    refine tnU ?_
    exact ⟨([] : List (List UInt8)), h, by kernel_rfl⟩
  ·rintro _ ⟨v2, h, rfl⟩
   unfold R31_Text.j62 at h
   refine sqJ (fun st' => ∃ v3 : List (List UInt8), R31_Text.j41 k a0 v3 = some out ∧ st' = ⟨[(1, .loc 1 0), (3, .vec 1003 1 0 v3.length)], [(1, .box [.p (.arr 6 .bool) a0.f_On, .p (.list .str) a0.f_News, .p (.list .str) a0.f_Goals, .p .str a0.f_File, .p I6 a0.f_Nproc, .p (.list (.named 3)) a0.f_Vars]), (1003, .row 9 .str v3 false)]⟩) ?_ ?_
   ·refine sq_ ?_
    refine rS {} [1, 3, 40] [1, 1003] hN (by kernel_rfl) (by kernel_rfl) ?_
    refine tnU ?_
    refine tS (b := (decide ((a0.f_News.length : Int) > 0))) (by kernel_rfl) (fun hc42 => ?_) (fun hc42 => ?_)
    ·replace h := ite_t hc42 h
     refine sq_ ?_
     refine rS {} [1, 3, 7] [1, 1003] hN (by kernel_rfl) (by kernel_rfl) ?_
     refine tnU ?_
     refine sqJ (fun st' => ∃ v43 : List UInt8, R31_Text.j45 k a0 v2 v43 = some out ∧ st' = ⟨[(1, .loc 1 0), (3, .vec 1003 1 0 v2.length), (7, .p .str v43)], [(1, .box [.p (.arr 6 .bool) a0.f_On, .p (.list .str) a0.f_News, .p (.list .str) a0.f_Goals, .p .str a0.f_File, .p I6 a0.f_Nproc, .p (.list (.named 3)) a0.f_Vars]), (1003, .row 9 .str v2 false)]⟩) ?_ ?_
     ·refine sq_ ?_
      refine rS {} [1, 3, 7, 42, 43, 44] [1, 1003] hN (by kernel_rfl) (by kernel_rfl) ?_
      refine tnU ?_
      refine wb_ ?_
      obtain ⟨o50, hlo50, h⟩ := bind_some h
      have hout51 := h
      clear h
      refine u1_ (fun n st' => ∃ v46 : List UInt8, ∃ v47 : Int, R31_Text.l48 k a0 v2 n v46 v47 = some o50 ∧ st' = ⟨[(1, .loc 1 0), (3, .vec 1003 1 0 v2.length), (7, .p .str v46), (42, .p (.list .str) a0.f_News), (43, .p I6 ((a0.f_News.length : Int) : Int)), (44, .p I6 v47)], [(1, .box [.p (.arr 6 .bool) a0.f_On, .p (.list .str) a0.f_News, .p (.list .str) a0.f_Goals, .p .str a0.f_File, .p I6 a0.f_Nproc, .p (.list (.named 3)) a0.f_Vars]), (1003, .row 9 .str v2 false)]⟩) k ⟨([45, 119] : List UInt8), 0, hlo50, by kernel_rfl⟩ ?_
      clear hlo50
      rintro (_ | n) _ ⟨v46, v47, h, rfl⟩
      ·cases h
      ·rw [R31_Text.l48] at h
       refine sq_ ?_
       refine rS {} [1, 3, 7, 42, 43, 44, 45] [1, 1003] hN (by kernel_rfl) (by kernel_rfl) ?_
       refine tnS ?_
       refine tS (b := (decide (v47 < (a0.f_News.length : Int)))) (by kernel_rfl) (fun hc52 => ?_) (fun hc52 => ?_)
       ·replace h := ite_t hc52 h
        refine wc_ (cS [.k [1, 3, 7, 42, 43, 44] [1, 1003]] (by kernel_rfl) (by kernel_rfl)) (ws_ ?_)
        refine tnU ?_
        refine sqJ (fun st' => ∃ v53 : List UInt8, R31_Text.j54 k (R31_Text.l48 k a0 v2 n) a0 v2 v47 v53 = some o50 ∧ st' = ⟨[(1, .loc 1 0), (3, .vec 1003 1 0 v2.length), (7, .p .str v53), (42, .p (.list .str) a0.f_News), (43, .p I6 ((a0.f_News.length : Int) : Int)), (44, .p I6 v47)], [(1, .box [.p (.arr 6 .bool) a0.f_On, .p (.list .str) a0.f_News, .p (.list .str) a0.f_Goals, .p .str a0.f_File, .p I6 a0.f_Nproc, .p (.list (.named 3)) a0.f_Vars]), (1003, .row 9 .str v2 false)]⟩) ?_ ?_
        ·refine wb_ ?_
         refine sq_ ?_
         obtain ⟨v55, hv55, h⟩ := bind_some h
         refine rS { its := [(1, .v .str hv55)] } [1, 3, 7, 8, 9, 42, 43, 44] [1, 1003] hN (by kernel_rfl) (by kernel_rfl) ?_
         refine tnU ?_
         refine sqJ (fun st' => ∃ v56 : List UInt8, R31_Text.j58 k (R31_Text.l48 k a0 v2 n) a0 v2 v47 v55 v56 = some o50 ∧ st' = ⟨[(1, .loc 1 0), (3, .vec 1003 1 0 v2.length), (7, .p .str v56), (9, .p .str v55), (42, .p (.list .str) a0.f_News), (43, .p I6 ((a0.f_News.length : Int) : Int)), (44, .p I6 v47)], [(1, .box [.p (.arr 6 .bool) a0.f_On, .p (.list .str) a0.f_News, .p (.list .str) a0.f_Goals, .p .str a0.f_File, .p I6 a0.f_Nproc, .p (.list (.named 3)) a0.f_Vars]), (1003, .row 9 .str v2 false)]⟩) ?_ ?_
         ·refine sq_ ?_
          refine rS {} [1, 3, 7, 9, 42, 43, 44, 50] [1, 1003] hN (by kernel_rfl) (by kernel_rfl) ?_
          refine tnU ?_
          refine tS (b := (decide (v47 > 0))) (by kernel_rfl) (fun hc59 => ?_) (fun hc59 => ?_)
          ·replace h := ite_t hc59 h
           obtain ⟨g60, h⟩ := if_some h
           refine rS { its := [(1, .g g60)] } [1, 3, 7, 9, 42, 43, 44] [1, 1003] hN (by kernel_rfl) (by kernel_rfl) ?_
           refine tnU ?_
           exact ⟨(v46 ++ ([44] : List UInt8)), h, by kernel_rfl⟩
          ·replace h := ite_f hc59 h
           refine wc_ (cS [.k [1, 3, 7, 9, 42, 43, 44] [1, 1003]] (by kernel_rfl) (by kernel_rfl)) (ws_ ?_)
           refine tnU ?_
           exact ⟨v46, h, by kernel_rfl⟩
         ·rintro _ ⟨v56, h, rfl⟩
          unfold R31_Text.j58 at h
          obtain ⟨g57, h⟩ := if_some h
          refine rS { its := [(2, .g g57)] } [1, 3, 7, 42, 43, 44] [1, 1003] hN (by kernel_rfl) (by kernel_rfl) ?_
          refine bn_ ?_
          refine tnU ?_
          exact ⟨(v56 ++ v55), h, by kernel_rfl⟩
        ·rintro _ ⟨v53, h, rfl⟩
         unfold R31_Text.j54 at h
         refine rS {} [1, 3, 7, 42, 43, 44] [1, 1003] hN (by kernel_rfl) (by kernel_rfl) ?_
         refine tnU ?_
         exact ⟨n, Nat.lt_succ_self n, v53, (IntKind.i64.wrap (v47 + 1)), h, by kernel_rfl⟩
       ·replace h := ite_f hc52 h
        refine wc_ (cS [.k [1, 3, 7] [1, 1003]] (by kernel_rfl) (by kernel_rfl)) (we_ ?_)
        refine te_ ?_
        have hq := Option.some.inj h
        subst hq
        refine te_ ?_
        have h := hout51
        refine blockQ_hit ?_
        refine tnU ?_
        exact ⟨v46, h, by kernel_rfl⟩
     ·rintro _ ⟨v43, h, rfl⟩
      unfold R31_Text.j45 at h
      obtain ⟨g44, h⟩ := if_some h
      refine rSC { its := [(3, .g g44)] } [1, 3] [1, 60] hN (by kernel_rfl) (by kernel_rfl) (cS [.rn 60 1003, .k [1, 3] [1, 1003]] (by kernel_rfl) (by kernel_rfl)) ?_
      refine tnU ?_
      exact ⟨(v2 ++ [v43]), h, by kernel_rfl⟩
    ·replace h := ite_f hc42 h
     refine wc_ (cS [.k [1, 3] [1, 1003]] (by kernel_rfl) (by kernel_rfl)) (ws_ ?_)
     refine tnU ?_
     exact ⟨v2, h, by kernel_rfl⟩
   ·rintro _ ⟨v3, h, rfl⟩
    unfold R31_Text.j41 at h
    refine sq_ ?_
    obtain ⟨g4, h⟩ := if_some h
    obtain ⟨g5, h⟩ := if_some h
    refine rS { its := [(3, .g g4), (5, .g g5)] } [1, 3] [1, 66] hN (by kernel_rfl) (by kernel_rfl) ?_
    refine tnU ?_
    refine sqJ (fun st' => ∃ v6 : List (List UInt8), R31_Text.j8 k a0 v6 = some out ∧ st' = ⟨[(1, .loc 1 0), (3, .vec 1003 1 0 v6.length)], [(1, .box [.p (.arr 6 .bool) a0.f_On, .p (.list .str) a0.f_News, .p (.list .str) a0.f_Goals, .p .str a0.f_File, .p I6 a0.f_Nproc, .p (.list (.named 3)) a0.f_Vars]), (1003, .row 9 .str v6 false)]⟩) ?_ ?_
    ·refine sq_ ?_
     refine rS {} [1, 3, 68, 69, 70] [1, 66] hN (by kernel_rfl) (by kernel_rfl) ?_
     refine tnU ?_
     refine wb_ ?_
     obtain ⟨o13, hlo13, h⟩ := bind_some h
     have hout14 := h
     clear h
     refine wc_ (cS [.rn 66 1003, .k [1, 3, 68, 69, 70] [1, 1003]] (by kernel_rfl) (by kernel_rfl)) ?_
     refine u1_ (fun n st' => ∃ v9 : List (List UInt8), ∃ v10 : Int, R31_Text.l11 k a0 n v9 v10 = some o13 ∧ st' = ⟨[(1, .loc 1 0), (3, .vec 1003 1 0 v9.length), (68, .p (.list (.named 3)) a0.f_Vars), (69, .p I6 ((a0.f_Vars.length : Int) : Int)), (70, .p I6 v10)], [(1, .box [.p (.arr 6 .bool) a0.f_On, .p (.list .str) a0.f_News, .p (.list .str) a0.f_Goals, .p .str a0.f_File, .p I6 a0.f_Nproc, .p (.list (.named 3)) a0.f_Vars]), (1003, .row 9 .str v9 false)]⟩) k ⟨(v3 ++ [(([45, 102] : List UInt8) ++ a0.f_File)]), 0, hlo13, by kernel_rfl⟩ ?_
     clear hlo13
     rintro (_ | n) _ ⟨v9, v10, h, rfl⟩
     ·cases h
     ·rw [R31_Text.l11] at h
      refine sq_ ?_
      refine rS {} [1, 3, 68, 69, 70, 71] [1, 1003] hN (by kernel_rfl) (by kernel_rfl) ?_
      refine tnS ?_
      refine tS (b := (decide (v10 < (a0.f_Vars.length : Int)))) (by kernel_rfl) (fun hc15 => ?_) (fun hc15 => ?_)
      ·replace h := ite_t hc15 h
       refine wc_ (cS [.k [1, 3, 68, 69, 70] [1, 1003]] (by kernel_rfl) (by kernel_rfl)) (ws_ ?_)
       refine tnU ?_
       refine sqJ (fun st' => ∃ v16 : List (List UInt8), R31_Text.j17 k (R31_Text.l11 k a0 n) a0 v10 v16 = some o13 ∧ st' = ⟨[(1, .loc 1 0), (3, .vec 1003 1 0 v16.length), (68, .p (.list (.named 3)) a0.f_Vars), (69, .p I6 ((a0.f_Vars.length : Int) : Int)), (70, .p I6 v10)], [(1, .box [.p (.arr 6 .bool) a0.f_On, .p (.list .str) a0.f_News, .p (.list .str) a0.f_Goals, .p .str a0.f_File, .p I6 a0.f_Nproc, .p (.list (.named 3)) a0.f_Vars]), (1003, .row 9 .str v16 false)]⟩) ?_ ?_
       ·refine wb_ ?_
        refine sq_ ?_
        obtain ⟨v18, hv18, h⟩ := bind_some h
        refine rS { its := [(0, .v (.named 3) hv18)] } [1, 3, 11, 68, 69, 70] [1, 11, 1003] hN (by kernel_rfl) (by kernel_rfl) ?_
        refine tnS ?_
        obtain ⟨g19, h⟩ := if_some h
        refine rS { its := [(2, .g g19)] } [1, 3, 11, 12, 68, 69, 70] [1, 11, 1003] hN (by kernel_rfl) (by kernel_rfl) ?_
        refine tnU ?_
        refine sqJ (fun st' => ∃ v20 : List UInt8, R31_Text.j22 k (R31_Text.l11 k a0 n) a0 v9 v10 v20 = some o13 ∧ st' = ⟨[(1, .loc 1 0), (3, .vec 1003 1 0 v9.length), (12, .p .str v20), (68, .p (.list (.named 3)) a0.f_Vars), (69, .p I6 ((a0.f_Vars.length : Int) : Int)), (70, .p I6 v10)], [(1, .box [.p (.arr 6 .bool) a0.f_On, .p (.list .str) a0.f_News, .p (.list .str) a0.f_Goals, .p .str a0.f_File, .p I6 a0.f_Nproc, .p (.list (.named 3)) a0.f_Vars]), (1003, .row 9 .str v9 false)]⟩) ?_ ?_
        ·refine sq_ ?_
         refine rS {} [1, 3, 12, 68, 69, 70, 78, 79, 80] [1, 1003] hN (by kernel_rfl) (by kernel_rfl) ?_
         refine tnU ?_
         refine wb_ ?_
         obtain ⟨o27, hlo27, h⟩ := bind_some h
         have hout28 := h
         clear h
         refine u1_ (fun n st' => ∃ v23 : List UInt8, ∃ v24 : Int, R31_Text.l25 k a0 v9 v10 v18 n v23 v24 = some o27 ∧ st' = ⟨[(1, .loc 1 0), (3, .vec 1003 1 0 v9.length), (12, .p .str v23), (68, .p (.list (.named 3)) a0.f_Vars), (69, .p I6 ((a0.f_Vars.length : Int) : Int)), (70, .p I6 v10), (78, .p (.list .str) v18.f_Words), (79, .p I6 ((v18.f_Words.length : Int) : Int)), (80, .p I6 v24)], [(1, .box [.p (.arr 6 .bool) a0.f_On, .p (.list .str) a0.f_News, .p (.list .str) a0.f_Goals, .p .str a0.f_File, .p I6 a0.f_Nproc, .p (.list (.named 3)) a0.f_Vars]), (1003, .row 9 .str v9 false)]⟩) k ⟨(v18.fN ++ ([61] : List UInt8)), 0, hlo27, by kernel_rfl⟩ ?_
         clear hlo27
         rintro (_ | n) _ ⟨v23, v24, h, rfl⟩
         ·cases h
         ·rw [R31_Text.l25] at h
          refine sq_ ?_
          refine rS {} [1, 3, 12, 68, 69, 70, 78, 79, 80, 81] [1, 1003] hN (by kernel_rfl) (by kernel_rfl) ?_
          refine tnS ?_
          refine tS (b := (decide (v24 < (v18.f_Words.length : Int)))) (by kernel_rfl) (fun hc29 => ?_) (fun hc29 => ?_)
          ·replace h := ite_t hc29 h
           refine wc_ (cS [.k [1, 3, 12, 68, 69, 70, 78, 79, 80] [1, 1003]] (by kernel_rfl) (by kernel_rfl)) (ws_ ?_)
           refine tnU ?_
           refine sqJ (fun st' => ∃ v30 : List UInt8, R31_Text.j31 k (R31_Text.l25 k a0 v9 v10 v18 n) a0 v9 v10 v18 v24 v30 = some o27 ∧ st' = ⟨[(1, .loc 1 0), (3, .vec 1003 1 0 v9.length), (12, .p .str v30), (68, .p (.list (.named 3)) a0.f_Vars), (69, .p I6 ((a0.f_Vars.length : Int) : Int)), (70, .p I6 v10), (78, .p (.list .str) v18.f_Words), (79, .p I6 ((v18.f_Words.length : Int) : Int)), (80, .p I6 v24)], [(1, .box [.p (.arr 6 .bool) a0.f_On, .p (.list .str) a0.f_News, .p (.list .str) a0.f_Goals, .p .str a0.f_File, .p I6 a0.f_Nproc, .p (.list (.named 3)) a0.f_Vars]), (1003, .row 9 .str v9 false)]⟩) ?_ ?_
           ·refine wb_ ?_
            refine sq_ ?_
            obtain ⟨v32, hv32, h⟩ := bind_some h
            refine rS { its := [(1, .v .str hv32)] } [1, 3, 12, 13, 14, 68, 69, 70, 78, 79, 80] [1, 1003] hN (by kernel_rfl) (by kernel_rfl) ?_
            refine tnU ?_
            refine sqJ (fun st' => ∃ v33 : List UInt8, R31_Text.j36 k (R31_Text.l25 k a0 v9 v10 v18 n) a0 v9 v10 v18 v24 v32 v33 = some o27 ∧ st' = ⟨[(1, .loc 1 0), (3, .vec 1003 1 0 v9.length), (12, .p .str v33), (14, .p .str v32), (68, .p (.list (.named 3)) a0.f_Vars), (69, .p I6 ((a0.f_Vars.length : Int) : Int)), (70, .p I6 v10), (78, .p (.list .str) v18.f_Words), (79, .p I6 ((v18.f_Words.length : Int) : Int)), (80, .p I6 v24)], [(1, .box [.p (.arr 6 .bool) a0.f_On, .p (.list .str) a0.f_News, .p (.list .str) a0.f_Goals, .p .str a0.f_File, .p I6 a0.f_Nproc, .p (.list (.named 3)) a0.f_Vars]), (1003, .row 9 .str v9 false)]⟩) ?_ ?_
            ·refine sq_ ?_
             refine rS {} [1, 3, 12, 14, 68, 69, 70, 78, 79, 80, 86] [1, 1003] hN (by kernel_rfl) (by kernel_rfl) ?_
             refine tnU ?_
             refine tS (b := (decide (v24 > 0))) (by kernel_rfl) (fun hc37 => ?_) (fun hc37 => ?_)
             ·replace h := ite_t hc37 h
              obtain ⟨g38, h⟩ := if_some h
              refine rS { its := [(1, .g g38)] } [1, 3, 12, 14, 68, 69, 70, 78, 79, 80] [1, 1003] hN (by kernel_rfl) (by kernel_rfl) ?_
              refine tnU ?_
              exact ⟨(v23 ++ ([32] : List UInt8)), h, by kernel_rfl⟩
             ·replace h := ite_f hc37 h
              refine wc_ (cS [.k [1, 3, 12, 14, 68, 69, 70, 78, 79, 80] [1, 1003]] (by kernel_rfl) (by kernel_rfl)) (ws_ ?_)
              refine tnU ?_
              exact ⟨v23, h, by kernel_rfl⟩
            ·rintro _ ⟨v33, h, rfl⟩
             unfold R31_Text.j36 at h
             obtain ⟨v34, hv34, h⟩ := bind_some h
             obtain ⟨g35, h⟩ := if_some h
             refine rS { its := [(2, .c (R11_Quote.ok O hO k v32 v34 hv34)), (3, .g g35)] } [1, 3, 12, 68, 69, 70, 78, 79, 80] [1, 1003] hN (by kernel_rfl) (by kernel_rfl) ?_
             refine bn_ ?_
             refine tnU ?_
             exact ⟨(v33 ++ v34), h, by kernel_rfl⟩
           ·rintro _ ⟨v30, h, rfl⟩
            unfold R31_Text.j31 at h
            refine rS {} [1, 3, 12, 68, 69, 70, 78, 79, 80] [1, 1003] hN (by kernel_rfl) (by kernel_rfl) ?_
            refine tnU ?_
            exact ⟨n, Nat.lt_succ_self n, v30, (IntKind.i64.wrap (v24 + 1)), h, by kernel_rfl⟩
          ·replace h := ite_f hc29 h
           refine wc_ (cS [.k [1, 3, 12, 68, 69, 70] [1, 1003]] (by kernel_rfl) (by kernel_rfl)) (we_ ?_)
           refine te_ ?_
           have hq := Option.some.inj h
           subst hq
           refine te_ ?_
           have h := hout28
           refine blockQ_hit ?_
           refine tnU ?_
           exact ⟨v23, h, by kernel_rfl⟩
        ·rintro _ ⟨v20, h, rfl⟩
         unfold R31_Text.j22 at h
         obtain ⟨g21, h⟩ := if_some h
         refine rSC { its := [(3, .g g21)] } [1, 3, 68, 69, 70] [1, 97] hN (by kernel_rfl) (by kernel_rfl) (cS [.rn 97 1003, .k [1, 3, 68, 69, 70] [1, 1003]] (by kernel_rfl) (by kernel_rfl)) ?_
         refine bn_ ?_
         refine tnU ?_
         exact ⟨(v9 ++ [v20]), h, by kernel_rfl⟩
       ·rintro _ ⟨v16, h, rfl⟩
        unfold R31_Text.j17 at h
        refine rS {} [1, 3, 68, 69, 70] [1, 1003] hN (by kernel_rfl) (by kernel_rfl) ?_
        refine tnU ?_
        exact ⟨n, Nat.lt_succ_self n, v16, (IntKind.i64.wrap (v10 + 1)), h, by kernel_rfl⟩
      ·replace h := ite_f hc15 h
       refine wc_ (cS [.k [1, 3] [1, 1003]] (by kernel_rfl) (by kernel_rfl)) (we_ ?_)
       refine te_ ?_
       have hq := Option.some.inj h
       subst hq
       refine te_ ?_
       have h := hout14
       refine blockQ_hit ?_
       refine tnU ?_
       exact ⟨v9, h, by kernel_rfl⟩
    ·rintro _ ⟨v6, h, rfl⟩
     unfold R31_Text.j8 at h
     refine sq_ ?_
     obtain ⟨g7, h⟩ := if_some h
     refine rS { its := [(3, .g g7)] } [2] [102] hN (by kernel_rfl) (by kernel_rfl) ?_
     refine tnU ?_
     refine wc_ (cS [.fz 2, .k [2] []] (by kernel_rfl) (by kernel_rfl)) (wr_ ?_)
     have hq := Option.some.inj h
     subst hq
     exact eR (by kernel_rfl) (by kernel_rfl)

theorem W31_FlagsTexts.ok (O : Out) (hO : GOk O) (k : Nat) (a0 : T_flags_Options) (a1 : T_flags_Options) (out : Bool) (h : W31_FlagsTexts.f k a0 a1 = some out) : COk Un O Tryz.prog 5 { ar := [.p (.named 4) a0, .p (.named 4) a1], r := .p .bool out } := by
 refine cok_of_wp Tryz.func5 rfl (k := 66) rfl (Nat.le_of_ble_eq_true rfl) (namesOk_pure rfl rfl rfl rfl) ?_
 intro B hN
 refine ckS (b := ⟨[(0, .p (.named 4) a0), (1, .p (.named 4) a1)], []⟩) [0, 1] [] (by kernel_rfl) ?_
 unfold W31_FlagsTexts.f at h
 refine sq_ ?_
 refine rS {} [2, 3] [2, 3] hN (by kernel_rfl) (by kernel_rfl) ?_
 refine tnS ?_
 refine sq_ ?_
 obtain ⟨v1, hv1, h⟩ := bind_some h
 refine rS { its := [(0, .c (W31_alive.ok O hO k v1 hv1))] } [2, 3, 11] [2, 3] hN (by kernel_rfl) (by kernel_rfl) ?_
 refine tnU ?_
 refine tS (b := (!v1)) (by kernel_rfl) (fun hc2 => ?_) (fun hc2 => ?_)
 ·replace h := ite_t hc2 h
  refine sq_ ?_
  refine rS {} [4] [] hN (by kernel_rfl) (by kernel_rfl) ?_
  refine tnU ?_
  refine wr_ ?_
  refine tr_ ?_
  have hq := Option.some.inj h
  subst hq
  exact eR (by kernel_rfl) (by kernel_rfl)
 ·replace h := ite_f hc2 h
  refine wc_ (cS [.k [2, 3] [2, 3]] (by kernel_rfl) (by kernel_rfl)) (ws_ ?_)
  refine tnU ?_
  refine sqJ (fun st' => W31_FlagsTexts.j23 k a0 a1 = some out ∧ st' = ⟨[(2, .loc 2 0), (3, .loc 3 0)], [(2, .box [.p .bool a0.f_All, .p .bool a0.f_Explain, .p .bool a0.f_Ignore, .p .bool a0.f_Keep, .p .bool a0.f_Dry, .p .bool a0.f_Touch, .p (.list .str) a0.f_News, .p (.list .str) a0.f_Goals, .p .str a0.f_File, .p I6 a0.f_Nproc, .p (.list (.named 3)) a0.f_Vars]), (3, .box [.p .bool a1.f_All, .p .bool a1.f_Explain, .p .bool a1.f_Ignore, .p .bool a1.f_Keep, .p .bool a1.f_Dry, .p .bool a1.f_Touch, .p (.list .str) a1.f_News, .p (.list .str) a1.f_Goals, .p .str a1.f_File, .p I6 a1.f_Nproc, .p (.list (.named 3)) a1.f_Vars])]⟩) ?_ ?_
  ·refine sqJ (fun st' => ∃ v24 : Bool, W31_FlagsTexts.j26 k a0 a1 v24 = some out ∧ st' = ⟨[(2, .loc 2 0), (3, .loc 3 0), (17, .p .bool v24)], [(2, .box [.p .bool a0.f_All, .p .bool a0.f_Explain, .p .bool a0.f_Ignore, .p .bool a0.f_Keep, .p .bool a0.f_Dry, .p .bool a0.f_Touch, .p (.list .str) a0.f_News, .p (.list .str) a0.f_Goals, .p .str a0.f_File, .p I6 a0.f_Nproc, .p (.list (.named 3)) a0.f_Vars]), (3, .box [.p .bool a1.f_All, .p .bool a1.f_Explain, .p .bool a1.f_Ignore, .p .bool a1.f_Keep, .p .bool a1.f_Dry, .p .bool a1.f_Touch, .p (.list .str) a1.f_News, .p (.list .str) a1.f_Goals, .p .str a1.f_File, .p I6 a1.f_Nproc, .p (.list (.named 3)) a1.f_Vars])]⟩) ?_ ?_
   ·obtain ⟨v27, hv27, h⟩ := bind_some h
    rcases bool_cases v27 with hc28 | hc28
    ·replace h := ite_t hc28 h
     refine rS { its := [(1, .c (W31_Long.ok O hO k (T_flags_Options.mk a0.f_All a0.f_Explain a0.f_Ignore a0.f_Keep a0.f_Dry a0.f_Touch a0.f_News a0.f_Goals a0.f_File a0.f_Nproc a0.f_Vars) v27 hv27))], kn := [(14, .t hc28)] } [2, 3, 17] [2, 3] hN (by kernel_rfl) (by kernel_rfl) ?_
     refine tnU ?_
     exact ⟨true, h, by kernel_rfl⟩
    ·replace h := ite_f hc28 h
     obtain ⟨v29, hv29, h⟩ := bind_some h
     refine rS { its := [(1, .c (W31_Long.ok O hO k (T_flags_Options.mk a0.f_All a0.f_Explain a0.f_Ignore a0.f_Keep a0.f_Dry a0.f_Touch a0.f_News a0.f_Goals a0.f_File a0.f_Nproc a0.f_Vars) v27 hv27)), (4, .c (W31_Long.ok O hO k (T_flags_Options.mk a1.f_All a1.f_Explain a1.f_Ignore a1.f_Keep a1.f_Dry a1.f_Touch a1.f_News a1.f_Goals a1.f_File a1.f_Nproc a1.f_Vars) v29 hv29))], kn := [(14, .f hc28)] } [2, 3, 17] [2, 3] hN (by kernel_rfl) (by kernel_rfl) ?_
     refine tnU ?_
     exact ⟨v29, h, by kernel_rfl⟩
   ·rintro _ ⟨v24, h, rfl⟩
    unfold W31_FlagsTexts.j26 at h
    refine tS (b := v24) (by kernel_rfl) (fun hc25 => ?_) (fun hc25 => ?_)
    ·replace h := ite_t hc25 h
     refine sq_ ?_
     refine rS {} [4] [] hN (by kernel_rfl) (by kernel_rfl) ?_
     refine tnU ?_
     refine wr_ ?_
     refine tr_ ?_
     have hq := Option.some.inj h
     subst hq
     exact eR (by kernel_rfl) (by kernel_rfl)
    ·replace h := ite_f hc25 h
     refine wc_ (cS [.k [2, 3] [2, 3]] (by kernel_rfl) (by kernel_rfl)) (ws_ ?_)
     refine tnU ?_
     exact ⟨h, by kernel_rfl⟩
  ·rintro _ ⟨h, rfl⟩
   unfold W31_FlagsTexts.j23 at h
   refine sq_ ?_
   obtain ⟨v3, hv3, h⟩ := bind_some h
   obtain ⟨v4, hv4, h⟩ := bind_some h
   refine rA { its := [(1, .c (W31_Of.ok O hO k (T_flags_Options.mk a0.f_All a0.f_Explain a0.f_Ignore a0.f_Keep a0.f_Dry a0.f_Touch a0.f_News a0.f_Goals a0.f_File a0.f_Nproc a0.f_Vars) v3 hv3)), (3, .c (W31_Of.ok O hO k (T_flags_Options.mk a1.f_All a1.f_Explain a1.f_Ignore a1.f_Keep a1.f_Dry a1.f_Touch a1.f_News a1.f_Goals a1.f_File a1.f_Nproc a1.f_Vars) v4 hv4))], th := [(4, [(1, 10001, 9, .str), (2, 10002, 9, .str), (5, 10003, 65, .named 3)]), (5, [(1, 10004, 9, .str), (2, 10005, 9, .str), (5, 10006, 65, .named 3)])] } [2, 3, 5, 6] [2, 3, 5, 6] hN (by kernel_rfl) (by kernel_rfl) (by kernel_rfl) ?_
   refine tnS ?_
   obtain ⟨v5, hv5, h⟩ := bind_some h
   refine rS { its := [(1, .c (R31_Right.ok O hO k (TR31O.mk v3.f_On v3.f_News v3.f_Goals v3.f_File v3.f_Nproc v3.f_Vars) v5 hv5))] } [2, 3, 5, 6, 7] [2, 3, 5, 6] hN (by kernel_rfl) (by kernel_rfl) ?_
   refine tnS ?_
   obtain ⟨v6, hv6, h⟩ := bind_some h
   refine rS { its := [(1, .c (flags_Text.ok O hO k (T_flags_Options.mk a0.f_All a0.f_Explain a0.f_Ignore a0.f_Keep a0.f_Dry a0.f_Touch a0.f_News a0.f_Goals a0.f_File a0.f_Nproc a0.f_Vars) v6 hv6))] } [2, 3, 5, 6, 7, 8, 9] [2, 3, 5, 6] hN (by kernel_rfl) (by kernel_rfl) ?_
   refine tnU ?_
   refine sqJ (fun st' => W31_FlagsTexts.j13 k v3 v5 v6 = some out ∧ st' = ⟨[(5, .loc 5 0), (7, .p .bool v5), (8, .p (.list .str) v6.1), (9, .p .err v6.2)], [(5, .box [.p (.arr 6 .bool) v3.f_On, .p (.list .str) v3.f_News, .p (.list .str) v3.f_Goals, .p .str v3.f_File, .p I6 v3.f_Nproc, .p (.list (.named 3)) v3.f_Vars])]⟩) ?_ ?_
   ·refine sqJ (fun st' => ∃ v14 : Bool, W31_FlagsTexts.j16 k v3 v5 v6 v14 = some out ∧ st' = ⟨[(5, .loc 5 0), (7, .p .bool v5), (8, .p (.list .str) v6.1), (9, .p .err v6.2), (47, .p .bool v14)], [(5, .box [.p (.arr 6 .bool) v3.f_On, .p (.list .str) v3.f_News, .p (.list .str) v3.f_Goals, .p .str v3.f_File, .p I6 v3.f_Nproc, .p (.list (.named 3)) v3.f_Vars])]⟩) ?_ ?_
    ·obtain ⟨v17, hv17, h⟩ := bind_some h
     rcases bool_cases (!(v17 == v5)) with hc18 | hc18
     ·replace h := ite_t hc18 h
      refine rA { its := [(1, .c (flags_Right.ok O hO k (T_flags_Options.mk a0.f_All a0.f_Explain a0.f_Ignore a0.f_Keep a0.f_Dry a0.f_Touch a0.f_News a0.f_Goals a0.f_File a0.f_Nproc a0.f_Vars) v17 hv17))], kn := [(33, .t hc18)] } [5, 7, 8, 9, 47] [5] hN (by kernel_rfl) (by kernel_rfl) (by kernel_rfl) ?_
      refine tnU ?_
      exact ⟨true, h, by kernel_rfl⟩
     ·replace h := ite_f hc18 h
      obtain ⟨v19, hv19, h⟩ := bind_some h
      obtain ⟨v20, hv20, h⟩ := bind_some h
      rcases bool_cases (!(v19 == v20)) with hc21 | hc21
      ·replace h := ite_t hc21 h
       refine rA { its := [(1, .c (flags_Right.ok O hO k (T_flags_Options.mk a0.f_All a0.f_Explain a0.f_Ignore a0.f_Keep a0.f_Dry a0.f_Touch a0.f_News a0.f_Goals a0.f_File a0.f_Nproc a0.f_Vars) v17 hv17)), (7, .c (flags_Same.ok O hO k (T_flags_Options.mk a0.f_All a0.f_Explain a0.f_Ignore a0.f_Keep a0.f_Dry a0.f_Touch a0.f_News a0.f_Goals a0.f_File a0.f_Nproc a0.f_Vars) (T_flags_Options.mk a1.f_All a1.f_Explain a1.f_Ignore a1.f_Keep a1.f_Dry a1.f_Touch a1.f_News a1.f_Goals a1.f_File a1.f_Nproc a1.f_Vars) v19 hv19)), (10, .c (R31_Same.ok O hO k (TR31O.mk v3.f_On v3.f_News v3.f_Goals v3.f_File v3.f_Nproc v3.f_Vars) (TR31O.mk v4.f_On v4.f_News v4.f_Goals v4.f_File v4.f_Nproc v4.f_Vars) v20 hv20))], kn := [(33, .f hc18), (42, .t hc21)] } [5, 7, 8, 9, 47] [5] hN (by kernel_rfl) (by kernel_rfl) (by kernel_rfl) ?_
       refine tnU ?_
       exact ⟨true, h, by kernel_rfl⟩
      ·replace h := ite_f hc21 h
       obtain ⟨v22, hv22, h⟩ := bind_some h
       refine rA { its := [(1, .c (flags_Right.ok O hO k (T_flags_Options.mk a0.f_All a0.f_Explain a0.f_Ignore a0.f_Keep a0.f_Dry a0.f_Touch a0.f_News a0.f_Goals a0.f_File a0.f_Nproc a0.f_Vars) v17 hv17)), (7, .c (flags_Same.ok O hO k (T_flags_Options.mk a0.f_All a0.f_Explain a0.f_Ignore a0.f_Keep a0.f_Dry a0.f_Touch a0.f_News a0.f_Goals a0.f_File a0.f_Nproc a0.f_Vars) (T_flags_Options.mk a1.f_All a1.f_Explain a1.f_Ignore a1.f_Keep a1.f_Dry a1.f_Touch a1.f_News a1.f_Goals a1.f_File a1.f_Nproc a1.f_Vars) v19 hv19)), (10, .c (R31_Same.ok O hO k (TR31O.mk v3.f_On v3.f_News v3.f_Goals v3.f_File v3.f_Nproc v3.f_Vars) (TR31O.mk v4.f_On v4.f_News v4.f_Goals v4.f_File v4.f_Nproc v4.f_Vars) v20 hv20)), (16, .c (flags_Same.ok O hO k (T_flags_Options.mk a0.f_All a0.f_Explain a0.f_Ignore a0.f_Keep a0.f_Dry a0.f_Touch a0.f_News a0.f_Goals a0.f_File a0.f_Nproc a0.f_Vars) (T_flags_Options.mk a0.f_All a0.f_Explain a0.f_Ignore a0.f_Keep a0.f_Dry a0.f_Touch a0.f_News a0.f_Goals a0.f_File a0.f_Nproc a0.f_Vars) v22 hv22))], kn := [(33, .f hc18), (42, .f hc21)] } [5, 7, 8, 9, 47] [5] hN (by kernel_rfl) (by kernel_rfl) (by kernel_rfl) ?_
       refine tnU ?_
       exact ⟨(!v22), h, by kernel_rfl⟩
    ·rintro _ ⟨v14, h, rfl⟩
     unfold W31_FlagsTexts.j16 at h
     refine tS (b := v14) (by kernel_rfl) (fun hc15 => ?_) (fun hc15 => ?_)
     ·replace h := ite_t hc15 h
      refine sq_ ?_
      refine rS {} [4] [] hN (by kernel_rfl) (by kernel_rfl) ?_
      refine tnU ?_
      refine wr_ ?_
      refine tr_ ?_
      have hq := Option.some.inj h
      subst hq
      exact eR (by kernel_rfl) (by kernel_rfl)
     ·replace h := ite_f hc15 h
      refine wc_ (cS [.k [5, 7, 8, 9] [5]] (by kernel_rfl) (by kernel_rfl)) (ws_ ?_)
      refine tnU ?_
      exact ⟨h, by kernel_rfl⟩
   ·rintro _ ⟨h, rfl⟩
    unfold W31_FlagsTexts.j13 at h
    refine sq_ ?_
    refine sq_ ?_
    refine rS {} [5, 8, 9, 49] [5] hN (by kernel_rfl) (by kernel_rfl) ?_
    refine tnU ?_
    refine tS (b := (!v5)) (by kernel_rfl) (fun hc7 => ?_) (fun hc7 => ?_)
    ·replace h := ite_t hc7 h
     refine sq_ ?_
     rcases bool_cases ((v6.1.length : Int) == 0) with hc8 | hc8
     ·replace h := ite_t hc8 h
      obtain ⟨v9, hv9, h⟩ := bind_some h
      refine rS { its := [(5, .c (Nm_Num.ok O hO k v6.2 v9 hv9))], kn := [(53, .t hc8)] } [4] [] hN (by kernel_rfl) (by kernel_rfl) ?_
      refine tnU ?_
      refine wr_ ?_
      refine tr_ ?_
      have hq := Option.some.inj h
      subst hq
      exact eR (by kernel_rfl) (by kernel_rfl)
     ·replace h := ite_f hc8 h
      refine rS { kn := [(53, .f hc8)] } [4] [] hN (by kernel_rfl) (by kernel_rfl) ?_
      refine tnU ?_
      refine wr_ ?_
      refine tr_ ?_
      have hq := Option.some.inj h
      subst hq
      exact eR (by kernel_rfl) (by kernel_rfl)
    ·replace h := ite_f hc7 h
     refine wc_ (cS [.k [5, 8, 9] [5]] (by kernel_rfl) (by kernel_rfl)) (ws_ ?_)
     refine tnS ?_
     rcases bool_cases (v6.2 == 0) with hc10 | hc10
     ·replace h := ite_t hc10 h
      obtain ⟨v11, hv11, h⟩ := bind_some h
      obtain ⟨v12, hv12, h⟩ := bind_some h
      refine rS { its := [(5, .c (R31_Text.ok O hO k (TR31O.mk v3.f_On v3.f_News v3.f_Goals v3.f_File v3.f_Nproc v3.f_Vars) v11 hv11)), (6, .c (Nm_SameTexts.ok O hO k v6.1 v11 v12 hv12))], kn := [(60, .t hc10)] } [4] [] hN (by kernel_rfl) (by kernel_rfl) ?_
      refine tnU ?_
      refine wr_ ?_
      have hq := Option.some.inj h
      subst hq
      exact eR (by kernel_rfl) (by kernel_rfl)
     ·replace h := ite_f hc10 h
      refine rS { kn := [(60, .f hc10)] } [4] [] hN (by kernel_rfl) (by kernel_rfl) ?_
      refine tnU ?_
      refine wr_ ?_
      have hq := Option.some.inj h
      subst hq
      exact eR (by kernel_rfl) (by kernel_rfl)

end Go.Proofs.YtcijochjfncefaaGreatDoor
