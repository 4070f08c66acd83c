/- A part of a proof: FBC0. -/
import Derived.Test.YtcijochjfncefaaGreatDoorK44FBF
namespace Go.Proofs.YtcijochjfncefaaGreatDoor
open Go Go.AM
set_option linter.unusedVariables false
set_option linter.unusedSimpArgs false
set_option maxRecDepth 100000
set_option maxHeartbeats 4000000
theorem flags_reader_next_m0.ok (O : Out) (hO : GOk O) (k : Nat) (a0 : List (List UInt8)) (a1 : Bool) (a2 : Bool) (a3 : Bool) (a4 : Bool) (a5 : Bool) (a6 : Bool) (a7 : List (List UInt8)) (a8 : List (List UInt8)) (a9 : List UInt8) (a10 : Int) (a11 : List TR14V) (out : (List UInt8) × Bool × (List (List UInt8))) (h : flags_reader_next_m0.f k a0 a1 a2 a3 a4 a5 a6 a7 a8 a9 a10 a11 = some out) : COk Un O Tryz.prog 22 { ar := [.loc 100000 0], r := .tup [.p .str out.1, .p .bool out.2.1], bs := [(100000, .box [.p (.list .str) a0, .p .bool a1, .p .bool a2, .p .bool a3, .p .bool a4, .p .bool a5, .p .bool a6, .vec 100001 1 0 a7.length, .vec 100002 1 0 a8.length, .p .str a9, .p I6 a10, .vec 100003 4 0 a11.length]), (100001, .row 9 .str a7 false), (100002, .row 9 .str a8 false), (100003, .row 72 (.named 3) a11 false)], bs' := [(100000, .box [.p (.list .str) out.2.2, .p .bool a1, .p .bool a2, .p .bool a3, .p .bool a4, .p .bool a5, .p .bool a6, .vec 100001 1 0 a7.length, .vec 100002 1 0 a8.length, .p .str a9, .p I6 a10, .vec 100003 4 0 a11.length]), (100001, .row 9 .str a7 false), (100002, .row 9 .str a8 false), (100003, .row 72 (.named 3) a11 false)] } := by
 refine cok_of_wp Tryz.func22 rfl (k := 26) rfl (Nat.le_of_ble_eq_true rfl) (namesOk_of (by kernel_rfl)) ?_
 intro B hN
 refine ckS (b := ⟨[(0, .loc 100000 0)], [(100000, .box [.p (.list .str) a0, .p .bool a1, .p .bool a2, .p .bool a3, .p .bool a4, .p .bool a5, .p .bool a6, .vec 100001 1 0 a7.length, .vec 100002 1 0 a8.length, .p .str a9, .p I6 a10, .vec 100003 4 0 a11.length]), (100001, .row 9 .str a7 false), (100002, .row 9 .str a8 false), (100003, .row 72 (.named 3) a11 false)]⟩) [0] [100000, 100001, 100002, 100003] (by kernel_rfl) ?_
 unfold flags_reader_next_m0.f at h
 refine sq_ ?_
 refine rS {} [0] [100000, 100001, 100002, 100003] hN (by kernel_rfl) (by kernel_rfl) ?_
 refine tnS ?_
 refine sq_ ?_
 refine rS {} [0, 10] [100000, 100001, 100002, 100003] hN (by kernel_rfl) (by kernel_rfl) ?_
 refine tnU ?_
 refine tS (b := ((a0.length : Int) == 0)) (by kernel_rfl) (fun hc1 => ?_) (fun hc1 => ?_)
 ·replace h := ite_t hc1 h
  refine sq_ ?_
  refine rS {} [2, 3] [100000, 100001, 100002, 100003] hN (by kernel_rfl) (by kernel_rfl) ?_
  refine tnU ?_
  refine wr_ ?_
  refine tr_ ?_
  have hq := Option.some.inj h
  subst hq
  exact eR (by kernel_rfl) (by kernel_rfl)
 ·replace h := ite_f hc1 h
  refine wc_ (cS [.k [0] [100000, 100001, 100002, 100003]] (by kernel_rfl) (by kernel_rfl)) (ws_ ?_)
  refine tnS ?_
  obtain ⟨v2, hv2, h⟩ := bind_some h
  refine rS { its := [(4, .v .str hv2)] } [0, 4] [100000, 100001, 100002, 100003] hN (by kernel_rfl) (by kernel_rfl) ?_
  refine tnS ?_
  obtain ⟨v3, hv3, h⟩ := bind_some h
  refine rS { its := [(5, .v (.list .str) hv3)] } [4] [100000, 100001, 100002, 100003] hN (by kernel_rfl) (by kernel_rfl) ?_
  refine tnS ?_
  refine rS {} [2, 3] [100000, 100001, 100002, 100003] hN (by kernel_rfl) (by kernel_rfl) ?_
  refine tnU ?_
  refine wr_ ?_
  have hq := Option.some.inj h
  subst hq
  exact eR (by kernel_rfl) (by kernel_rfl)

theorem stringslite_HasPrefix.ok (O : Out) (hO : GOk O) (k : Nat) (a0 : List UInt8) (a1 : List UInt8) (out : Bool) (h : stringslite_HasPrefix.f k a0 a1 = some out) : COk Un O Tryz.prog 87 { ar := [.p .str a0, .p .str a1], r := .p .bool out } := by
 refine cok_of_wp Tryz.func87 rfl (k := 18) rfl (Nat.le_of_ble_eq_true rfl) (namesOk_pure rfl rfl rfl rfl) ?_
 intro B hN
 refine ckS (b := ⟨[(0, .p .str a0), (1, .p .str a1)], []⟩) [0, 1] [] (by kernel_rfl) ?_
 unfold stringslite_HasPrefix.f at h
 refine sq_ ?_
 refine rS {} [0, 1] [] hN (by kernel_rfl) (by kernel_rfl) ?_
 refine tnS ?_
 rcases bool_cases (decide ((a0.length : Int) ≥ (a1.length : Int))) with hc1 | hc1
 ·replace h := ite_t hc1 h
  obtain ⟨v2, hv2, h⟩ := bind_some h
  refine rS { its := [(9, .v .str hv2)], kn := [(10, .t hc1)] } [4] [] hN (by kernel_rfl) (by kernel_rfl) ?_
  refine tnU ?_
  refine wr_ ?_
  have hq := Option.some.inj h
  subst hq
  exact eR (by kernel_rfl) (by kernel_rfl)
 ·replace h := ite_f hc1 h
  refine rS { kn := [(10, .f hc1)] } [4] [] hN (by kernel_rfl) (by kernel_rfl) ?_
  refine tnU ?_
  refine wr_ ?_
  have hq := Option.some.inj h
  subst hq
  exact eR (by kernel_rfl) (by kernel_rfl)

theorem stringslite_CutPrefix.ok (O : Out) (hO : GOk O) (k : Nat) (a0 : List UInt8) (a1 : List UInt8) (out : (List UInt8) × Bool) (h : stringslite_CutPrefix.f k a0 a1 = some out) : COk Un O Tryz.prog 70 { ar := [.p .str a0, .p .str a1], r := .tup [.p .str out.1, .p .bool out.2] } := by
 refine cok_of_wp Tryz.func70 rfl (k := 15) rfl (Nat.le_of_ble_eq_true rfl) (namesOk_pure rfl rfl rfl rfl) ?_
 intro B hN
 refine ckS (b := ⟨[(0, .p .str a0), (1, .p .str a1)], []⟩) [0, 1] [] (by kernel_rfl) ?_
 unfold stringslite_CutPrefix.f at h
 refine sq_ ?_
 refine rS {} [0, 1] [] hN (by kernel_rfl) (by kernel_rfl) ?_
 refine tnS ?_
 refine sq_ ?_
 obtain ⟨v1, hv1, h⟩ := bind_some h
 refine rS { its := [(2, .c (stringslite_HasPrefix.ok O hO k a0 a1 v1 hv1))] } [0, 1, 9] [] hN (by kernel_rfl) (by kernel_rfl) ?_
 refine tnU ?_
 refine tS (b := (!v1)) (by kernel_rfl) (fun hc2 => ?_) (fun hc2 => ?_)
 ·replace h := ite_t hc2 h
  refine sq_ ?_
  refine rS {} [4, 5] [] hN (by kernel_rfl) (by kernel_rfl) ?_
  refine tnU ?_
  refine wr_ ?_
  refine tr_ ?_
  have hq := Option.some.inj h
  subst hq
  exact eR (by kernel_rfl) (by kernel_rfl)
 ·replace h := ite_f hc2 h
  refine wc_ (cS [.k [0, 1] []] (by kernel_rfl) (by kernel_rfl)) (ws_ ?_)
  refine tnS ?_
  obtain ⟨v3, hv3, h⟩ := bind_some h
  refine rS { its := [(3, .v .str hv3)] } [4, 5] [] hN (by kernel_rfl) (by kernel_rfl) ?_
  refine tnU ?_
  refine wr_ ?_
  have hq := Option.some.inj h
  subst hq
  exact eR (by kernel_rfl) (by kernel_rfl)

theorem strings_CutPrefix.ok (O : Out) (hO : GOk O) (k : Nat) (a0 : List UInt8) (a1 : List UInt8) (out : (List UInt8) × Bool) (h : strings_CutPrefix.f k a0 a1 = some out) : COk Un O Tryz.prog 50 { ar := [.p .str a0, .p .str a1], r := .tup [.p .str out.1, .p .bool out.2] } := by
 refine cok_of_wp Tryz.func50 rfl (k := 11) rfl (Nat.le_of_ble_eq_true rfl) (namesOk_pure rfl rfl rfl rfl) ?_
 intro B hN
 refine ckS (b := ⟨[(0, .p .str a0), (1, .p .str a1)], []⟩) [0, 1] [] (by kernel_rfl) ?_
 unfold strings_CutPrefix.f at h
 refine sq_ ?_
 refine rS {} [0, 1] [] hN (by kernel_rfl) (by kernel_rfl) ?_
 refine tnS ?_
 obtain ⟨v1, hv1, h⟩ := bind_some h
 refine rS { its := [(2, .c (stringslite_CutPrefix.ok O hO k a0 a1 v1 hv1))] } [4, 5] [] hN (by kernel_rfl) (by kernel_rfl) ?_
 refine tnU ?_
 refine wr_ ?_
 have hq := Option.some.inj h
 subst hq
 exact eR (by kernel_rfl) (by kernel_rfl)

theorem flags_reader_value_m0.ok (O : Out) (hO : GOk O) (k : Nat) (a0 : List (List UInt8)) (a1 : Bool) (a2 : Bool) (a3 : Bool) (a4 : Bool) (a5 : Bool) (a6 : Bool) (a7 : List (List UInt8)) (a8 : List (List UInt8)) (a9 : List UInt8) (a10 : Int) (a11 : List TR14V) (a12 : List UInt8) (out : (List UInt8) × Nat × (List (List UInt8))) (h : flags_reader_value_m0.f k a0 a1 a2 a3 a4 a5 a6 a7 a8 a9 a10 a11 a12 = some out) : COk Un O Tryz.prog 88 { ar := [.loc 100000 0, .p .str a12], r := .tup [.p .str out.1, .p .err out.2.1], bs := [(100000, .box [.p (.list .str) a0, .p .bool a1, .p .bool a2, .p .bool a3, .p .bool a4, .p .bool a5, .p .bool a6, .vec 100001 1 0 a7.length, .vec 100002 1 0 a8.length, .p .str a9, .p I6 a10, .vec 100003 4 0 a11.length]), (100001, .row 9 .str a7 false), (100002, .row 9 .str a8 false), (100003, .row 72 (.named 3) a11 false)], bs' := [(100000, .box [.p (.list .str) out.2.2, .p .bool a1, .p .bool a2, .p .bool a3, .p .bool a4, .p .bool a5, .p .bool a6, .vec 100001 1 0 a7.length, .vec 100002 1 0 a8.length, .p .str a9, .p I6 a10, .vec 100003 4 0 a11.length]), (100001, .row 9 .str a7 false), (100002, .row 9 .str a8 false), (100003, .row 72 (.named 3) a11 false)] } := by
 refine cok_of_wp Tryz.func88 rfl (k := 20) rfl (Nat.le_of_ble_eq_true rfl) (namesOk_of (by kernel_rfl)) ?_
 intro B hN
 refine ckS (b := ⟨[(0, .loc 100000 0), (1, .p .str a12)], [(100000, .box [.p (.list .str) a0, .p .bool a1, .p .bool a2, .p .bool a3, .p .bool a4, .p .bool a5, .p .bool a6, .vec 100001 1 0 a7.length, .vec 100002 1 0 a8.length, .p .str a9, .p I6 a10, .vec 100003 4 0 a11.length]), (100001, .row 9 .str a7 false), (100002, .row 9 .str a8 false), (100003, .row 72 (.named 3) a11 false)]⟩) [0, 1] [100000, 100001, 100002, 100003] (by kernel_rfl) ?_
 unfold flags_reader_value_m0.f at h
 refine sq_ ?_
 refine rS {} [0, 1] [100000, 100001, 100002, 100003] hN (by kernel_rfl) (by kernel_rfl) ?_
 refine tnS ?_
 refine sq_ ?_
 refine rS {} [0, 1, 9] [100000, 100001, 100002, 100003] hN (by kernel_rfl) (by kernel_rfl) ?_
 refine tnU ?_
 refine tS (b := (!(a12 == ([] : List UInt8)))) (by kernel_rfl) (fun hc1 => ?_) (fun hc1 => ?_)
 ·replace h := ite_t hc1 h
  refine sq_ ?_
  refine rS {} [4, 5] [100000, 100001, 100002, 100003] hN (by kernel_rfl) (by kernel_rfl) ?_
  refine tnU ?_
  refine wc_ (cS [.nE 5, .k [4, 5] [100000, 100001, 100002, 100003]] (by kernel_rfl) (by kernel_rfl)) (wr_ ?_)
  refine tr_ ?_
  have hq := Option.some.inj h
  subst hq
  exact eR (by kernel_rfl) (by kernel_rfl)
 ·replace h := ite_f hc1 h
  refine wc_ (cS [.k [0] [100000, 100001, 100002, 100003]] (by kernel_rfl) (by kernel_rfl)) (ws_ ?_)
  refine tnS ?_
  obtain ⟨v2, hv2, h⟩ := bind_some h
  refine rS { its := [(1, .c (COk.ren (flags_reader_next_m0.ok O hO k a0 a1 a2 a3 a4 a5 a6 a7 a8 a9 a10 a11 v2 hv2) (fun n => if n = 100000 then 100000 else if n = 100001 then 100001 else if n = 100002 then 100002 else if n = 100003 then 100003 else n) (injOn_of (by kernel_rfl))))] } [6, 7] [100000, 100001, 100002, 100003] hN (by kernel_rfl) (by kernel_rfl) ?_
  refine tnS ?_
  refine sq_ ?_
  refine rS {} [6, 17] [100000, 100001, 100002, 100003] hN (by kernel_rfl) (by kernel_rfl) ?_
  refine tnU ?_
  refine tS (b := (!v2.2.1)) (by kernel_rfl) (fun hc3 => ?_) (fun hc3 => ?_)
  ·replace h := ite_t hc3 h
   refine sq_ ?_
   refine rA { its := [(0, .e 0 (u9_ (t := .err) (rs := []) rfl rfl ty_30 rfl rfl (hO.var 15 0 rfl) (fun S w => .err 15)))] } [4, 5] [100000, 100001, 100002, 100003] hN (by kernel_rfl) (by kernel_rfl) (by kernel_rfl) ?_
   refine tnU ?_
   refine wr_ ?_
   refine tr_ ?_
   have hq := Option.some.inj h
   subst hq
   exact eR (by kernel_rfl) (by kernel_rfl)
  ·replace h := ite_f hc3 h
   refine wc_ (cS [.k [6] [100000, 100001, 100002, 100003]] (by kernel_rfl) (by kernel_rfl)) (ws_ ?_)
   refine tnS ?_
   refine rS {} [4, 5] [100000, 100001, 100002, 100003] hN (by kernel_rfl) (by kernel_rfl) ?_
   refine tnU ?_
   refine wc_ (cS [.nE 5, .k [4, 5] [100000, 100001, 100002, 100003]] (by kernel_rfl) (by kernel_rfl)) (wr_ ?_)
   have hq := Option.some.inj h
   subst hq
   exact eR (by kernel_rfl) (by kernel_rfl)

theorem names_Right.ok (O : Out) (hO : GOk O) (k : Nat) (a0 : List UInt8) (out : Bool) (h : names_Right.f k a0 = some out) : COk Un O Tryz.prog 43 { ar := [.p .str a0], r := .p .bool out } := by
 refine cok_of_wp Tryz.func43 rfl (k := 28) rfl (Nat.le_of_ble_eq_true rfl) (namesOk_pure rfl rfl rfl rfl) ?_
 intro B hN
 refine ckS (b := ⟨[(0, .p .str a0)], []⟩) [0] [] (by kernel_rfl) ?_
 unfold names_Right.f at h
 refine sq_ ?_
 refine rS {} [0] [] hN (by kernel_rfl) (by kernel_rfl) ?_
 refine tnU ?_
 refine sqJ (fun st' => names_Right.j16 k a0 = some out ∧ st' = ⟨[(0, .p .str a0)], []⟩) ?_ ?_
 ·refine sqJ (fun st' => ∃ v17 : Bool, names_Right.j19 k a0 v17 = some out ∧ st' = ⟨[(0, .p .str a0), (11, .p .bool v17)], []⟩) ?_ ?_
  ·rcases bool_cases (decide ((a0.length : Int) < 1)) with hc20 | hc20
   ·replace h := ite_t hc20 h
    refine rS { kn := [(7, .t hc20)] } [0, 11] [] hN (by kernel_rfl) (by kernel_rfl) ?_
    refine tnU ?_
    exact ⟨true, h, by kernel_rfl⟩
   ·replace h := ite_f hc20 h
    refine rS { kn := [(7, .f hc20)] } [0, 11] [] hN (by kernel_rfl) (by kernel_rfl) ?_
    refine tnU ?_
    exact ⟨(decide ((a0.length : Int) > 40)), h, by kernel_rfl⟩
  ·rintro _ ⟨v17, h, rfl⟩
   unfold names_Right.j19 at h
   refine tS (b := v17) (by kernel_rfl) (fun hc18 => ?_) (fun hc18 => ?_)
   ·replace h := ite_t hc18 h
    refine sq_ ?_
    refine rS {} [2] [] hN (by kernel_rfl) (by kernel_rfl) ?_
    refine tnU ?_
    refine wr_ ?_
    refine tr_ ?_
    have hq := Option.some.inj h
    subst hq
    exact eR (by kernel_rfl) (by kernel_rfl)
   ·replace h := ite_f hc18 h
    refine wc_ (cS [.k [0] []] (by kernel_rfl) (by kernel_rfl)) (ws_ ?_)
    refine tnU ?_
    exact ⟨h, by kernel_rfl⟩
 ·rintro _ ⟨h, rfl⟩
  unfold names_Right.j16 at h
  refine sqJ (fun st' => names_Right.j1 k = some out ∧ st' = ⟨[], []⟩) ?_ ?_
  ·refine sq_ ?_
   refine rS {} [0, 13, 14] [] hN (by kernel_rfl) (by kernel_rfl) ?_
   refine tnU ?_
   refine wb_ ?_
   obtain ⟨o4, hlo4, h⟩ := bind_some h
   have hout5 := h
   clear h
   refine u1_ (fun n st' => ∃ v2 : Int, names_Right.l3 k a0 n v2 = some o4 ∧ st' = ⟨[(0, .p .str a0), (13, .p I6 ((a0.length : Int) : Int)), (14, .p I6 v2)], []⟩) k ⟨0, hlo4, by kernel_rfl⟩ ?_
   clear hlo4
   rintro (_ | n) _ ⟨v2, h, rfl⟩
   ·cases h
   ·rw [names_Right.l3] at h
    refine sq_ ?_
    refine rS {} [0, 13, 14, 15] [] hN (by kernel_rfl) (by kernel_rfl) ?_
    refine tnS ?_
    refine tS (b := (decide (v2 < (a0.length : Int)))) (by kernel_rfl) (fun hc6 => ?_) (fun hc6 => ?_)
    ·replace h := ite_t hc6 h
     refine wc_ (cS [.k [0, 13, 14] []] (by kernel_rfl) (by kernel_rfl)) (ws_ ?_)
     refine tnU ?_
     refine sqJ (fun st' => names_Right.j7 k (names_Right.l3 k a0 n) a0 v2 = some o4 ∧ st' = ⟨[(0, .p .str a0), (13, .p I6 ((a0.length : Int) : Int)), (14, .p I6 v2)], []⟩) ?_ ?_
     ·refine wb_ ?_
      refine sq_ ?_
      refine rS {} [0, 3, 13, 14] [] hN (by kernel_rfl) (by kernel_rfl) ?_
      refine tnU ?_
      refine sqJ (fun st' => ∃ v8 : Bool, names_Right.j10 k (names_Right.l3 k a0 n) a0 v2 v8 = some o4 ∧ st' = ⟨[(0, .p .str a0), (13, .p I6 ((a0.length : Int) : Int)), (14, .p I6 v2), (26, .p .bool v8)], []⟩) ?_ ?_
      ·obtain ⟨v11, hv11, h⟩ := bind_some h
       rcases bool_cases (decide ((v11.toNat : Int) < 33)) with hc12 | hc12
       ·replace h := ite_t hc12 h
        refine rS { its := [(2, .u hv11)], kn := [(21, .t hc12)] } [0, 13, 14, 26] [] hN (by kernel_rfl) (by kernel_rfl) ?_
        refine tnU ?_
        exact ⟨true, h, by kernel_rfl⟩
       ·replace h := ite_f hc12 h
        obtain ⟨v13, hv13, h⟩ := bind_some h
        refine rS { its := [(2, .u hv11), (7, .u hv13)], kn := [(21, .f hc12)] } [0, 13, 14, 26] [] hN (by kernel_rfl) (by kernel_rfl) ?_
        refine tnU ?_
        exact ⟨(decide ((v13.toNat : Int) > 126)), h, by kernel_rfl⟩
      ·rintro _ ⟨v8, h, rfl⟩
       unfold names_Right.j10 at h
       refine tS (b := v8) (by kernel_rfl) (fun hc9 => ?_) (fun hc9 => ?_)
       ·replace h := ite_t hc9 h
        refine sq_ ?_
        refine rS {} [2] [] hN (by kernel_rfl) (by kernel_rfl) ?_
        refine tnU ?_
        refine wr_ ?_
        refine blockQ_ret ?_
        refine tr_ ?_
        have hq := Option.some.inj h
        subst hq
        refine tr_ ?_
        have h := hout5
        refine blockQ_ret ?_
        refine tr_ ?_
        have hq := Option.some.inj h
        subst hq
        exact eR (by kernel_rfl) (by kernel_rfl)
       ·replace h := ite_f hc9 h
        refine wc_ (cS [.k [0, 13, 14] []] (by kernel_rfl) (by kernel_rfl)) (ws_ ?_)
        refine bn_ ?_
        refine tnU ?_
        exact ⟨h, by kernel_rfl⟩
     ·rintro _ ⟨h, rfl⟩
      unfold names_Right.j7 at h
      refine rS {} [0, 13, 14] [] hN (by kernel_rfl) (by kernel_rfl) ?_
      refine tnU ?_
      exact ⟨n, Nat.lt_succ_self n, (IntKind.i64.wrap (v2 + 1)), h, by kernel_rfl⟩
    ·replace h := ite_f hc6 h
     refine wc_ (cS [.k [] []] (by kernel_rfl) (by kernel_rfl)) (we_ ?_)
     refine te_ ?_
     have hq := Option.some.inj h
     subst hq
     refine te_ ?_
     have h := hout5
     refine blockQ_hit ?_
     refine tnU ?_
     exact ⟨h, by kernel_rfl⟩
  ·rintro _ ⟨h, rfl⟩
   unfold names_Right.j1 at h
   refine sq_ ?_
   refine rS {} [2] [] hN (by kernel_rfl) (by kernel_rfl) ?_
   refine tnU ?_
   refine wr_ ?_
   have hq := Option.some.inj h
   subst hq
   exact eR (by kernel_rfl) (by kernel_rfl)

theorem flags_reader_news_m0.ok (O : Out) (hO : GOk O) (k : Nat) (a0 : List (List UInt8)) (a1 : Bool) (a2 : Bool) (a3 : Bool) (a4 : Bool) (a5 : Bool) (a6 : Bool) (a7 : List (List UInt8)) (a8 : List (List UInt8)) (a9 : List UInt8) (a10 : Int) (a11 : List TR14V) (a12 : List UInt8) (out : Nat × (List (List UInt8)) × (List (List UInt8))) (h : flags_reader_news_m0.f k a0 a1 a2 a3 a4 a5 a6 a7 a8 a9 a10 a11 a12 = some out) : COk Un O Tryz.prog 71 { ar := [.loc 100000 0, .p .str a12], r := .p .err out.1, bs := [(100000, .box [.p (.list .str) a0, .p .bool a1, .p .bool a2, .p .bool a3, .p .bool a4, .p .bool a5, .p .bool a6, .vec 100001 1 0 a7.length, .vec 100002 1 0 a8.length, .p .str a9, .p I6 a10, .vec 100003 4 0 a11.length]), (100001, .row 9 .str a7 false), (100002, .row 9 .str a8 false), (100003, .row 72 (.named 3) a11 false)], bs' := [(60001, .row 9 .str out.2.2 false), (100000, .box [.p (.list .str) out.2.1, .p .bool a1, .p .bool a2, .p .bool a3, .p .bool a4, .p .bool a5, .p .bool a6, .vec 60001 1 0 out.2.2.length, .vec 100002 1 0 a8.length, .p .str a9, .p I6 a10, .vec 100003 4 0 a11.length]), (100002, .row 9 .str a8 false), (100003, .row 72 (.named 3) a11 false)], nn := [60001] } := by
 refine cok_of_wp Tryz.func71 rfl (k := 42) rfl (Nat.le_of_ble_eq_true rfl) (namesOk_of (by kernel_rfl)) ?_
 intro B hN
 refine ckS (b := ⟨[(0, .loc 100000 0), (1, .p .str a12)], [(100000, .box [.p (.list .str) a0, .p .bool a1, .p .bool a2, .p .bool a3, .p .bool a4, .p .bool a5, .p .bool a6, .vec 100001 1 0 a7.length, .vec 100002 1 0 a8.length, .p .str a9, .p I6 a10, .vec 100003 4 0 a11.length]), (100001, .row 9 .str a7 false), (100002, .row 9 .str a8 false), (100003, .row 72 (.named 3) a11 false)]⟩) [0, 1] [100000, 100001, 100002, 100003] (by kernel_rfl) ?_
 unfold flags_reader_news_m0.f at h
 refine sq_ ?_
 refine rS {} [0, 1] [100000, 100001, 100002, 100003] hN (by kernel_rfl) (by kernel_rfl) ?_
 refine tnS ?_
 obtain ⟨v1, hv1, h⟩ := bind_some h
 refine rS { its := [(2, .c (COk.ren (flags_reader_value_m0.ok O hO k a0 a1 a2 a3 a4 a5 a6 a7 a8 a9 a10 a11 a12 v1 hv1) (fun n => if n = 100000 then 100000 else if n = 100001 then 100001 else if n = 100002 then 100002 else if n = 100003 then 100003 else n) (injOn_of (by kernel_rfl))))] } [0, 5, 6] [100000, 100001, 100002, 100003] hN (by kernel_rfl) (by kernel_rfl) ?_
 refine tnS ?_
 refine sq_ ?_
 refine rS {} [0, 5, 6, 16] [100000, 100001, 100002, 100003] hN (by kernel_rfl) (by kernel_rfl) ?_
 refine tnU ?_
 refine tS (b := (!(v1.2.1 == 0))) (by kernel_rfl) (fun hc2 => ?_) (fun hc2 => ?_)
 ·replace h := ite_t hc2 h
  refine sq_ ?_
  refine rS {} [4] [100000, 100001, 100002, 100003] hN (by kernel_rfl) (by kernel_rfl) ?_
  refine tnU ?_
  refine wc_ (cS [.rn 100001 60001, .k [4] [60001, 100000, 100002, 100003]] (by kernel_rfl) (by kernel_rfl)) (wr_ ?_)
  refine tr_ ?_
  have hq := Option.some.inj h
  subst hq
  exact eR (by kernel_rfl) (by kernel_rfl)
 ·replace h := ite_f hc2 h
  refine wc_ (cS [.k [0, 5] [100000, 100001, 100002, 100003]] (by kernel_rfl) (by kernel_rfl)) (ws_ ?_)
  refine tnU ?_
  refine sqJ (fun st' => ∃ v3 : List (List UInt8), flags_reader_news_m0.j4 k a1 a2 a3 a4 a5 a6 a8 a9 a10 a11 v1 v3 = some out ∧ st' = ⟨[], [(62007, .row 9 .str v3 false), (100000, .box [.p (.list .str) v1.2.2, .p .bool a1, .p .bool a2, .p .bool a3, .p .bool a4, .p .bool a5, .p .bool a6, .vec 62007 1 0 v3.length, .vec 100002 1 0 a8.length, .p .str a9, .p I6 a10, .vec 100003 4 0 a11.length]), (100002, .row 9 .str a8 false), (100003, .row 72 (.named 3) a11 false)]⟩) ?_ ?_
  ·refine sq_ ?_
   obtain ⟨v5, hv5, h⟩ := bind_some h
   refine rS { its := [(1, .c (pSplit.ok O hO k v1.1 ([44] : List UInt8) v5 hv5))] } [0, 19, 20, 21] [100000, 100001, 100002, 100003] hN (by kernel_rfl) (by kernel_rfl) ?_
   refine tnU ?_
   refine wb_ ?_
   obtain ⟨o10, hlo10, h⟩ := bind_some h
   have hout11 := h
   clear h
   refine wc_ (cS [.rn 100001 62007, .k [0, 19, 20, 21] [62007, 100000, 100002, 100003]] (by kernel_rfl) (by kernel_rfl)) ?_
   refine u1_ (fun n st' => ∃ v6 : List (List UInt8), ∃ v7 : Int, flags_reader_news_m0.l8 k a1 a2 a3 a4 a5 a6 a8 a9 a10 a11 v1 v5 n v6 v7 = some o10 ∧ st' = ⟨[(0, .loc 100000 0), (19, .p (.list .str) v5), (20, .p I6 ((v5.length : Int) : Int)), (21, .p I6 v7)], [(62007, .row 9 .str v6 false), (100000, .box [.p (.list .str) v1.2.2, .p .bool a1, .p .bool a2, .p .bool a3, .p .bool a4, .p .bool a5, .p .bool a6, .vec 62007 1 0 v6.length, .vec 100002 1 0 a8.length, .p .str a9, .p I6 a10, .vec 100003 4 0 a11.length]), (100002, .row 9 .str a8 false), (100003, .row 72 (.named 3) a11 false)]⟩) k ⟨a7, 0, hlo10, by kernel_rfl⟩ ?_
   clear hlo10
   rintro (_ | n) _ ⟨v6, v7, h, rfl⟩
   ·cases h
   ·rw [flags_reader_news_m0.l8] at h
    refine sq_ ?_
    refine rS {} [0, 19, 20, 21, 22] [62007, 100000, 100002, 100003] hN (by kernel_rfl) (by kernel_rfl) ?_
    refine tnS ?_
    refine tS (b := (decide (v7 < (v5.length : Int)))) (by kernel_rfl) (fun hc12 => ?_) (fun hc12 => ?_)
    ·replace h := ite_t hc12 h
     refine wc_ (cS [.k [0, 19, 20, 21] [62007, 100000, 100002, 100003]] (by kernel_rfl) (by kernel_rfl)) (ws_ ?_)
     refine tnS ?_
     refine wb_ ?_
     refine sq_ ?_
     obtain ⟨v13, hv13, h⟩ := bind_some h
     refine rS { its := [(0, .v .str hv13)] } [0, 8, 19, 20, 21] [62007, 100000, 100002, 100003] hN (by kernel_rfl) (by kernel_rfl) ?_
     refine tnS ?_
     refine sq_ ?_
     obtain ⟨v14, hv14, h⟩ := bind_some h
     refine rS { its := [(1, .c (names_Right.ok O hO k v13 v14 hv14))] } [0, 8, 19, 20, 21, 27] [62007, 100000, 100002, 100003] hN (by kernel_rfl) (by kernel_rfl) ?_
     refine tnU ?_
     refine tS (b := (!v14)) (by kernel_rfl) (fun hc15 => ?_) (fun hc15 => ?_)
     ·replace h := ite_t hc15 h
      refine sq_ ?_
      refine rS { its := [(0, .e 0 (u9_ (t := .err) (rs := []) rfl rfl ty_30 rfl rfl (hO.var 3 4 rfl) (fun S w => .err 3)))] } [4] [62007, 100000, 100002, 100003] hN (by kernel_rfl) (by kernel_rfl) ?_
      refine tnU ?_
      refine wc_ (cS [.rn 62007 60001, .k [4] [60001, 100000, 100002, 100003]] (by kernel_rfl) (by kernel_rfl)) (wr_ ?_)
      refine tr_ ?_
      refine blockQ_ret ?_
      refine tr_ ?_
      have hq := Option.some.inj h
      subst hq
      refine tr_ ?_
      have h := hout11
      refine blockQ_ret ?_
      refine tr_ ?_
      have hq := Option.some.inj h
      subst hq
      exact eR (by kernel_rfl) (by kernel_rfl)
     ·replace h := ite_f hc15 h
      refine wc_ (cS [.k [0, 8, 19, 20, 21] [62007, 100000, 100002, 100003]] (by kernel_rfl) (by kernel_rfl)) (ws_ ?_)
      refine tnU ?_
      obtain ⟨g16, h⟩ := if_some h
      refine rS { its := [(8, .g g16)] } [0, 19, 20, 21] [37, 100000, 100002, 100003] hN (by kernel_rfl) (by kernel_rfl) ?_
      refine bn_ ?_
      refine tnU ?_
      refine rSC {} [0, 19, 20, 21] [37, 100000, 100002, 100003] hN (by kernel_rfl) (by kernel_rfl) (cS [.rn 37 62007, .k [0, 19, 20, 21] [62007, 100000, 100002, 100003]] (by kernel_rfl) (by kernel_rfl)) ?_
      refine tnU ?_
      exact ⟨n, Nat.lt_succ_self n, (v6 ++ [v13]), (IntKind.i64.wrap (v7 + 1)), h, by kernel_rfl⟩
    ·replace h := ite_f hc12 h
     refine wc_ (cS [.k [] [62007, 100000, 100002, 100003]] (by kernel_rfl) (by kernel_rfl)) (we_ ?_)
     refine te_ ?_
     have hq := Option.some.inj h
     subst hq
     refine te_ ?_
     have h := hout11
     refine blockQ_hit ?_
     refine tnU ?_
     exact ⟨v6, h, by kernel_rfl⟩
  ·rintro _ ⟨v3, h, rfl⟩
   unfold flags_reader_news_m0.j4 at h
   refine sq_ ?_
   refine rS {} [4] [62007, 100000, 100002, 100003] hN (by kernel_rfl) (by kernel_rfl) ?_
   refine tnU ?_
   refine wc_ (cS [.nE 4, .k [4] [62007, 100000, 100002, 100003], .rn 62007 60001, .k [4] [60001, 100000, 100002, 100003]] (by kernel_rfl) (by kernel_rfl)) (wr_ ?_)
   have hq := Option.some.inj h
   subst hq
   exact eR (by kernel_rfl) (by kernel_rfl)

theorem flags_reader_file_m0.ok (O : Out) (hO : GOk O) (k : Nat) (a0 : List (List UInt8)) (a1 : Bool) (a2 : Bool) (a3 : Bool) (a4 : Bool) (a5 : Bool) (a6 : Bool) (a7 : List (List UInt8)) (a8 : List (List UInt8)) (a9 : List UInt8) (a10 : Int) (a11 : List TR14V) (a12 : List UInt8) (out : Nat × (List (List UInt8)) × (List UInt8)) (h : flags_reader_file_m0.f k a0 a1 a2 a3 a4 a5 a6 a7 a8 a9 a10 a11 a12 = some out) : COk Un O Tryz.prog 72 { ar := [.loc 100000 0, .p .str a12], r := .p .err out.1, bs := [(100000, .box [.p (.list .str) a0, .p .bool a1, .p .bool a2, .p .bool a3, .p .bool a4, .p .bool a5, .p .bool a6, .vec 100001 1 0 a7.length, .vec 100002 1 0 a8.length, .p .str a9, .p I6 a10, .vec 100003 4 0 a11.length]), (100001, .row 9 .str a7 false), (100002, .row 9 .str a8 false), (100003, .row 72 (.named 3) a11 false)], bs' := [(100000, .box [.p (.list .str) out.2.1, .p .bool a1, .p .bool a2, .p .bool a3, .p .bool a4, .p .bool a5, .p .bool a6, .vec 100001 1 0 a7.length, .vec 100002 1 0 a8.length, .p .str out.2.2, .p I6 a10, .vec 100003 4 0 a11.length]), (100001, .row 9 .str a7 false), (100002, .row 9 .str a8 false), (100003, .row 72 (.named 3) a11 false)] } := by
 refine cok_of_wp Tryz.func72 rfl (k := 25) rfl (Nat.le_of_ble_eq_true rfl) (namesOk_of (by kernel_rfl)) ?_
 intro B hN
 refine ckS (b := ⟨[(0, .loc 100000 0), (1, .p .str a12)], [(100000, .box [.p (.list .str) a0, .p .bool a1, .p .bool a2, .p .bool a3, .p .bool a4, .p .bool a5, .p .bool a6, .vec 100001 1 0 a7.length, .vec 100002 1 0 a8.length, .p .str a9, .p I6 a10, .vec 100003 4 0 a11.length]), (100001, .row 9 .str a7 false), (100002, .row 9 .str a8 false), (100003, .row 72 (.named 3) a11 false)]⟩) [0, 1] [100000, 100001, 100002, 100003] (by kernel_rfl) ?_
 unfold flags_reader_file_m0.f at h
 refine sq_ ?_
 refine rS {} [0, 1] [100000, 100001, 100002, 100003] hN (by kernel_rfl) (by kernel_rfl) ?_
 refine tnS ?_
 obtain ⟨v1, hv1, h⟩ := bind_some h
 refine rS { its := [(2, .c (COk.ren (flags_reader_value_m0.ok O hO k a0 a1 a2 a3 a4 a5 a6 a7 a8 a9 a10 a11 a12 v1 hv1) (fun n => if n = 100000 then 100000 else if n = 100001 then 100001 else if n = 100002 then 100002 else if n = 100003 then 100003 else n) (injOn_of (by kernel_rfl))))] } [0, 5, 6] [100000, 100001, 100002, 100003] hN (by kernel_rfl) (by kernel_rfl) ?_
 refine tnS ?_
 refine sq_ ?_
 refine rS {} [0, 5, 6, 14] [100000, 100001, 100002, 100003] hN (by kernel_rfl) (by kernel_rfl) ?_
 refine tnU ?_
 refine tS (b := (!(v1.2.1 == 0))) (by kernel_rfl) (fun hc2 => ?_) (fun hc2 => ?_)
 ·replace h := ite_t hc2 h
  refine sq_ ?_
  refine rS {} [4] [100000, 100001, 100002, 100003] hN (by kernel_rfl) (by kernel_rfl) ?_
  refine tnU ?_
  refine wr_ ?_
  refine tr_ ?_
  have hq := Option.some.inj h
  subst hq
  exact eR (by kernel_rfl) (by kernel_rfl)
 ·replace h := ite_f hc2 h
  refine wc_ (cS [.k [0, 5] [100000, 100001, 100002, 100003]] (by kernel_rfl) (by kernel_rfl)) (ws_ ?_)
  refine tnS ?_
  refine sq_ ?_
  obtain ⟨v3, hv3, h⟩ := bind_some h
  refine rS { its := [(1, .c (names_Right.ok O hO k v1.1 v3 hv3))] } [0, 5, 18] [100000, 100001, 100002, 100003] hN (by kernel_rfl) (by kernel_rfl) ?_
  refine tnU ?_
  refine tS (b := (!v3)) (by kernel_rfl) (fun hc4 => ?_) (fun hc4 => ?_)
  ·replace h := ite_t hc4 h
   refine sq_ ?_
   refine rS { its := [(0, .e 0 (u9_ (t := .err) (rs := []) rfl rfl ty_30 rfl rfl (hO.var 3 4 rfl) (fun S w => .err 3)))] } [4] [100000, 100001, 100002, 100003] hN (by kernel_rfl) (by kernel_rfl) ?_
   refine tnU ?_
   refine wr_ ?_
   refine tr_ ?_
   have hq := Option.some.inj h
   subst hq
   exact eR (by kernel_rfl) (by kernel_rfl)
  ·replace h := ite_f hc4 h
   refine wc_ (cS [.k [0, 5] [100000, 100001, 100002, 100003]] (by kernel_rfl) (by kernel_rfl)) (ws_ ?_)
   refine tnS ?_
   refine rS {} [] [100000, 100001, 100002, 100003] hN (by kernel_rfl) (by kernel_rfl) ?_
   refine tnS ?_
   refine rS {} [4] [100000, 100001, 100002, 100003] hN (by kernel_rfl) (by kernel_rfl) ?_
   refine tnU ?_
   refine wc_ (cS [.nE 4, .k [4] [100000, 100001, 100002, 100003]] (by kernel_rfl) (by kernel_rfl)) (wr_ ?_)
   have hq := Option.some.inj h
   subst hq
   exact eR (by kernel_rfl) (by kernel_rfl)

theorem ty79P : TyOk Tryz.prog Un 79 (.ptr .bool) := tyOk_mk (c := 1) (by kernel_rfl) rfl Tryz.underlying79 rfl
theorem row77P : RowOk Tryz.prog Un 77 79 (.ptr .bool) 8 := rowOk_mk (c := 1) ⟨Tryz.underlying77, ty79P⟩ (by kernel_rfl) rfl (by decide)
theorem flags_switches.ok (O : Out) (b : Nat) : COk Un O Tryz.prog 35 { ar := [.loc 100000 b], r := .vec 60500 1 0 6, bs' := [(60500, .box (locsOf Un [(100000, b + 0), (100000, b + 1), (100000, b + 2), (100000, b + 3), (100000, b + 4), (100000, b + 5)]))], nn := [60500] } := by
 refine cok_of_wp Tryz.func35 rfl (k := 22) rfl (Nat.le_of_ble_eq_true rfl) (namesOk_of (by kernel_rfl)) ?_
 intro B hN
 refine ckS (b := ⟨[(0, .loc 100000 b)], []⟩) [0] [] (by kernel_rfl) ?_
 refine sq_ ?_
 refine rS {} [0] [] hN (by kernel_rfl) (by kernel_rfl) ?_
 refine tnS ?_
 refine rA { its := [(18, .e 18 (u6_ (T := 77) (E := 79) (t := .ptr .bool) (by_ := 8) (d := 21) (rs := [(5, .loc 100000 (b + 0)), (8, .loc 100000 (b + 1)), (11, .loc 100000 (b + 2)), (14, .loc 100000 (b + 3)), (17, .loc 100000 (b + 4)), (20, .loc 100000 (b + 5))]) (ys := [.tmp 5, .tmp 8, .tmp 11, .tmp 14, .tmp 17, .tmp 20]) (ls := [(100000, b + 0), (100000, b + 1), (100000, b + 2), (100000, b + 3), (100000, b + 4), (100000, b + 5)]) rfl rfl rfl rfl row77P rfl
  (.cons (.tmp (.head _)) (.cons (.tmp m1_) (.cons (.tmp m2_) (.cons (.tmp m3_) (.cons (.tmp m4_) (.cons (.tmp m5_) .nil)))))) (by decide) (by kernel_rfl)))] } [2] [21] hN (by kernel_rfl) (by kernel_rfl) (by kernel_rfl) ?_
 refine tnU ?_
 refine wc_ (cS [.rn 21 60500, .k [2] [60500]] (by kernel_rfl) (by kernel_rfl)) (wr_ ?_)
 exact eR (by kernel_rfl) (by kernel_rfl)
theorem flags_reader_flags_m0.ok (O : Out) (hO : GOk O) (k : Nat) (a0 : List (List UInt8)) (a1 : Bool) (a2 : Bool) (a3 : Bool) (a4 : Bool) (a5 : Bool) (a6 : Bool) (a7 : List (List UInt8)) (a8 : List (List UInt8)) (a9 : List UInt8) (a10 : Int) (a11 : List TR14V) (a12 : List UInt8) (out : Nat × (List (List UInt8)) × Bool × Bool × Bool × Bool × Bool × Bool × (List (List UInt8)) × (List UInt8)) (h : flags_reader_flags_m0.f k a0 a1 a2 a3 a4 a5 a6 a7 a8 a9 a10 a11 a12 = some out) : COk Un O Tryz.prog 51 { ar := [.loc 100000 0, .p .str a12], r := .p .err out.1, bs := [(100000, .box [.p (.list .str) a0, .p .bool a1, .p .bool a2, .p .bool a3, .p .bool a4, .p .bool a5, .p .bool a6, .vec 100001 1 0 a7.length, .vec 100002 1 0 a8.length, .p .str a9, .p I6 a10, .vec 100003 4 0 a11.length]), (100001, .row 9 .str a7 false), (100002, .row 9 .str a8 false), (100003, .row 72 (.named 3) a11 false)], bs' := [(60001, .row 9 .str out.2.2.2.2.2.2.2.2.1 false), (100000, .box [.p (.list .str) out.2.1, .p .bool out.2.2.1, .p .bool out.2.2.2.1, .p .bool out.2.2.2.2.1, .p .bool out.2.2.2.2.2.1, .p .bool out.2.2.2.2.2.2.1, .p .bool out.2.2.2.2.2.2.2.1, .vec 60001 1 0 out.2.2.2.2.2.2.2.2.1.length, .vec 100002 1 0 a8.length, .p .str out.2.2.2.2.2.2.2.2.2, .p I6 a10, .vec 100003 4 0 a11.length]), (100002, .row 9 .str a8 false), (100003, .row 72 (.named 3) a11 false)], nn := [60001] } := by
 refine cok_of_wp Tryz.func51 rfl (k := 50) rfl (Nat.le_of_ble_eq_true rfl) (namesOk_of (by kernel_rfl)) ?_
 intro B hN
 refine ckS (b := ⟨[(0, .loc 100000 0), (1, .p .str a12)], [(100000, .box [.p (.list .str) a0, .p .bool a1, .p .bool a2, .p .bool a3, .p .bool a4, .p .bool a5, .p .bool a6, .vec 100001 1 0 a7.length, .vec 100002 1 0 a8.length, .p .str a9, .p I6 a10, .vec 100003 4 0 a11.length]), (100001, .row 9 .str a7 false), (100002, .row 9 .str a8 false), (100003, .row 72 (.named 3) a11 false)]⟩) [0, 1] [100000, 100001, 100002, 100003] (by kernel_rfl) ?_
 unfold flags_reader_flags_m0.f at h
 refine sq_ ?_
 refine rS {} [0, 1] [100000, 100001, 100002, 100003] hN (by kernel_rfl) (by kernel_rfl) ?_
 refine tnS ?_
 refine sq_ ?_
 refine rS {} [0, 1, 8] [100000, 100001, 100002, 100003] hN (by kernel_rfl) (by kernel_rfl) ?_
 refine tnU ?_
 refine tS (b := (a12 == ([] : List UInt8))) (by kernel_rfl) (fun hc1 => ?_) (fun hc1 => ?_)
 ·replace h := ite_t hc1 h
  refine sq_ ?_
  refine rS { its := [(0, .e 0 (u9_ (t := .err) (rs := []) rfl rfl ty_30 rfl rfl (hO.var 15 0 rfl) (fun S w => .err 15)))] } [4] [100000, 100001, 100002, 100003] hN (by kernel_rfl) (by kernel_rfl) ?_
  refine tnU ?_
  refine wc_ (cS [.rn 100001 60001, .k [4] [60001, 100000, 100002, 100003]] (by kernel_rfl) (by kernel_rfl)) (wr_ ?_)
  refine tr_ ?_
  have hq := Option.some.inj h
  subst hq
  exact eR (by kernel_rfl) (by kernel_rfl)
 ·replace h := ite_f hc1 h
  refine wc_ (cS [.k [0, 1] [100000, 100001, 100002, 100003]] (by kernel_rfl) (by kernel_rfl)) (ws_ ?_)
  refine tnU ?_
  obtain ⟨o, hlo, h⟩ := bind_some h
  refine sqJ (fun st' => ∃ b1 b2 b3 b4 b5 b6 : Bool, o = .inl (b1, b2, b3, b4, b5, b6) ∧ st' = ⟨[], [(100000, .box [.p (.list .str) a0, .p .bool b1, .p .bool b2, .p .bool b3, .p .bool b4, .p .bool b5, .p .bool b6, .vec 100001 1 0 a7.length, .vec 100002 1 0 a8.length, .p .str a9, .p I6 a10, .vec 100003 4 0 a11.length]), (100001, .row 9 .str a7 false), (100002, .row 9 .str a8 false), (100003, .row 72 (.named 3) a11 false)]⟩) ?_ ?_
  ·refine sq_ ?_
   refine rS {} [0, 1, 11, 12] [100000, 100001, 100002, 100003] hN (by kernel_rfl) (by kernel_rfl) ?_
   refine tnU ?_
   refine wb_ ?_
   refine u1_ (fun n st' => ∃ b1 b2 b3 b4 b5 b6 : Bool, ∃ i : Int, flags_reader_flags_m0.l k a0 a7 a8 a9 a10 a11 a12 n b1 b2 b3 b4 b5 b6 i = some o ∧ st' = ⟨[(0, .loc 100000 0), (1, .p .str a12), (11, .p I6 ((a12.length : Int) : Int)), (12, .p I6 i)], [(100000, .box [.p (.list .str) a0, .p .bool b1, .p .bool b2, .p .bool b3, .p .bool b4, .p .bool b5, .p .bool b6, .vec 100001 1 0 a7.length, .vec 100002 1 0 a8.length, .p .str a9, .p I6 a10, .vec 100003 4 0 a11.length]), (100001, .row 9 .str a7 false), (100002, .row 9 .str a8 false), (100003, .row 72 (.named 3) a11 false)]⟩) k ⟨a1, a2, a3, a4, a5, a6, 0, hlo, by kernel_rfl⟩ ?_
   clear hlo
   rintro (_ | n) _ ⟨b1, b2, b3, b4, b5, b6, i, hl, rfl⟩
   ·cases hl
   ·unfold flags_reader_flags_m0.l at hl
    refine sq_ ?_
    refine rS {} [0, 1, 11, 12, 13] [100000, 100001, 100002, 100003] hN (by kernel_rfl) (by kernel_rfl) ?_
    refine tnS ?_
    refine tS (b := (decide (i < (a12.length : Int)))) (by kernel_rfl) (fun hc2 => ?_) (fun hc2 => ?_)
    ·replace hl := ite_t hc2 hl
     refine wc_ (cS [.k [0, 1, 11, 12] [100000, 100001, 100002, 100003]] (by kernel_rfl) (by kernel_rfl)) (ws_ ?_)
     refine tnU ?_
     obtain ⟨c, hc, hl⟩ := bind_some hl
     refine sqJ (fun st' => ∃ b1 b2 b3 b4 b5 b6 : Bool, flags_reader_flags_m0.l k a0 a7 a8 a9 a10 a11 a12 n b1 b2 b3 b4 b5 b6 (IntKind.i64.wrap (i + 1)) = some o ∧ st' = ⟨[(0, .loc 100000 0), (1, .p .str a12), (11, .p I6 ((a12.length : Int) : Int)), (12, .p I6 i)], [(100000, .box [.p (.list .str) a0, .p .bool b1, .p .bool b2, .p .bool b3, .p .bool b4, .p .bool b5, .p .bool b6, .vec 100001 1 0 a7.length, .vec 100002 1 0 a8.length, .p .str a9, .p I6 a10, .vec 100003 4 0 a11.length]), (100001, .row 9 .str a7 false), (100002, .row 9 .str a8 false), (100003, .row 72 (.named 3) a11 false)]⟩) ?_ ?_
     ·refine wb_ ?_
      refine sq_ ?_
      refine rS {} [0, 1, 5, 11, 12] [100000, 100001, 100002, 100003] hN (by kernel_rfl) (by kernel_rfl) ?_
      refine tnS ?_
      refine sq_ ?_
      refine rS { its := [(2, .u hc)] } [0, 1, 5, 11, 12, 17] [100000, 100001, 100002, 100003] hN (by kernel_rfl) (by kernel_rfl) ?_
      refine tnU ?_
      refine wb_ ?_
      refine sq_ ?_
      refine rS {} [0, 1, 5, 11, 12, 17, 18] [100000, 100001, 100002, 100003] hN (by kernel_rfl) (by kernel_rfl) ?_
      refine tnU ?_
      refine tS (b := ((c.toNat : Int) == 119)) (by kernel_rfl) (fun hc3 => ?_) (fun hc3 => ?_)
      ·replace hl := ite_t hc3 hl
       obtain ⟨t, ht, hl⟩ := bind_some hl
       obtain ⟨u, hu, hl⟩ := bind_some hl
       refine sq_ ?_
       refine rS { its := [(4, .v .str ht), (5, .c (COk.ren (flags_reader_news_m0.ok O hO k a0 b1 b2 b3 b4 b5 b6 a7 a8 a9 a10 a11 t u hu) (fun n => if n = 60001 then 10001 else if n = 100000 then 100000 else if n = 100001 then 100001 else if n = 100002 then 100002 else if n = 100003 then 100003 else n) (injOn_of (by kernel_rfl))))] } [4] [10001, 100000, 100002, 100003] hN (by kernel_rfl) (by kernel_rfl) ?_
       refine tnU ?_
       refine wc_ (cS [.rn 10001 60001, .k [4] [60001, 100000, 100002, 100003]] (by kernel_rfl) (by kernel_rfl)) (wr_ ?_)
       repeat (first | refine tr_ ?_ | refine blockQ_ret ?_)
       have hq := Option.some.inj hl
       subst hq
       have hq2 := Option.some.inj h
       subst hq2
       exact eR (by kernel_rfl) (by kernel_rfl)
      ·replace hl := ite_f hc3 hl
       refine sq_ ?_
       refine rS {} [0, 1, 5, 11, 12, 26] [100000, 100001, 100002, 100003] hN (by kernel_rfl) (by kernel_rfl) ?_
       refine tnU ?_
       refine tS (b := ((c.toNat : Int) == 102)) (by kernel_rfl) (fun hc4 => ?_) (fun hc4 => ?_)
       ·replace hl := ite_t hc4 hl
        obtain ⟨t, ht, hl⟩ := bind_some hl
        obtain ⟨u, hu, hl⟩ := bind_some hl
        refine sq_ ?_
        refine rS { its := [(4, .v .str ht), (5, .c (COk.ren (flags_reader_file_m0.ok O hO k a0 b1 b2 b3 b4 b5 b6 a7 a8 a9 a10 a11 t u hu) (fun n => if n = 100000 then 100000 else if n = 100001 then 100001 else if n = 100002 then 100002 else if n = 100003 then 100003 else n) (injOn_of (by kernel_rfl))))] } [4] [100000, 100001, 100002, 100003] hN (by kernel_rfl) (by kernel_rfl) ?_
        refine tnU ?_
        refine wc_ (cS [.rn 100001 60001, .k [4] [60001, 100000, 100002, 100003]] (by kernel_rfl) (by kernel_rfl)) (wr_ ?_)
        repeat (first | refine tr_ ?_ | refine blockQ_ret ?_)
        have hq := Option.some.inj hl
        subst hq
        have hq2 := Option.some.inj h
        subst hq2
        exact eR (by kernel_rfl) (by kernel_rfl)
       ·replace hl := ite_f hc4 hl
        refine wc_ (cS [.k [0, 1, 5, 11, 12] [100000, 100001, 100002, 100003]] (by kernel_rfl) (by kernel_rfl)) (ws_ ?_)
        refine bn_ ?_
        refine tnU ?_
        obtain ⟨j, hj, hl⟩ := bind_some hl
        refine sq_ ?_
        refine rS { its := [(2, .u hc), (3, .c (pIndexByte.ok O hO k ([97, 101, 105, 107, 110, 116] : List UInt8) (c.toNat : Int) j hj))] } [0, 1, 6, 11, 12] [100000, 100001, 100002, 100003] hN (by kernel_rfl) (by kernel_rfl) ?_
        refine tnS ?_
        refine sq_ ?_
        refine rS {} [0, 1, 6, 11, 12, 39] [100000, 100001, 100002, 100003] hN (by kernel_rfl) (by kernel_rfl) ?_
        refine tnU ?_
        refine tS (b := (decide (j < 0))) (by kernel_rfl) (fun hc5 => ?_) (fun hc5 => ?_)
        ·replace hl := ite_t hc5 hl
         refine sq_ ?_
         refine rS { its := [(0, .e 0 (u9_ (t := .err) (rs := []) rfl rfl ty_30 rfl rfl (hO.var 15 0 rfl) (fun S w => .err 15)))] } [4] [100000, 100001, 100002, 100003] hN (by kernel_rfl) (by kernel_rfl) ?_
         refine tnU ?_
         refine wc_ (cS [.rn 100001 60001, .k [4] [60001, 100000, 100002, 100003]] (by kernel_rfl) (by kernel_rfl)) (wr_ ?_)
         repeat (first | refine tr_ ?_ | refine blockQ_ret ?_)
         have hq := Option.some.inj hl
         subst hq
         have hq2 := Option.some.inj h
         subst hq2
         exact eR (by kernel_rfl) (by kernel_rfl)
        ·replace hl := ite_f hc5 hl
         refine wc_ (cS [.k [0, 1, 6, 11, 12] [100000, 100001, 100002, 100003]] (by kernel_rfl) (by kernel_rfl)) (ws_ ?_)
         refine tnU ?_
         by_cases hj0 : j = 0
         ·subst hj0
          rw [if_pos rfl] at hl
          refine rS { its := [(3, .c (COk.ren (flags_switches.ok O 1) (fun n => if n = 60500 then 10001 else n) (injOn_of (by kernel_rfl)))), (5, .e 5 (u8_ (T := 77) (E := 79) (t := .ptr .bool) (n := 10001) (len := 6) (rs := [(44, .vec 10001 1 0 6), (45, .p I6 (0 : Int))]) 0 rfl rfl row77P.sl rfl (.tmp (.head _)) (.tmp m1_) rfl (by decide)))] } [0, 1, 11, 12] [100000, 100001, 100002, 100003] hN (by kernel_rfl) (by kernel_rfl) ?_
          refine bn_ ?_
          refine tnU ?_
          exact ⟨true, b2, b3, b4, b5, b6, hl, by kernel_rfl⟩
         rw [if_neg hj0] at hl
         by_cases hj1 : j = 1
         ·subst hj1
          rw [if_pos rfl] at hl
          refine rS { its := [(3, .c (COk.ren (flags_switches.ok O 1) (fun n => if n = 60500 then 10001 else n) (injOn_of (by kernel_rfl)))), (5, .e 5 (u8_ (T := 77) (E := 79) (t := .ptr .bool) (n := 10001) (len := 6) (rs := [(44, .vec 10001 1 0 6), (45, .p I6 (1 : Int))]) 1 rfl rfl row77P.sl rfl (.tmp (.head _)) (.tmp m1_) rfl (by decide)))] } [0, 1, 11, 12] [100000, 100001, 100002, 100003] hN (by kernel_rfl) (by kernel_rfl) ?_
          refine bn_ ?_
          refine tnU ?_
          exact ⟨b1, true, b3, b4, b5, b6, hl, by kernel_rfl⟩
         rw [if_neg hj1] at hl
         by_cases hj2 : j = 2
         ·subst hj2
          rw [if_pos rfl] at hl
          refine rS { its := [(3, .c (COk.ren (flags_switches.ok O 1) (fun n => if n = 60500 then 10001 else n) (injOn_of (by kernel_rfl)))), (5, .e 5 (u8_ (T := 77) (E := 79) (t := .ptr .bool) (n := 10001) (len := 6) (rs := [(44, .vec 10001 1 0 6), (45, .p I6 (2 : Int))]) 2 rfl rfl row77P.sl rfl (.tmp (.head _)) (.tmp m1_) rfl (by decide)))] } [0, 1, 11, 12] [100000, 100001, 100002, 100003] hN (by kernel_rfl) (by kernel_rfl) ?_
          refine bn_ ?_
          refine tnU ?_
          exact ⟨b1, b2, true, b4, b5, b6, hl, by kernel_rfl⟩
         rw [if_neg hj2] at hl
         by_cases hj3 : j = 3
         ·subst hj3
          rw [if_pos rfl] at hl
          refine rS { its := [(3, .c (COk.ren (flags_switches.ok O 1) (fun n => if n = 60500 then 10001 else n) (injOn_of (by kernel_rfl)))), (5, .e 5 (u8_ (T := 77) (E := 79) (t := .ptr .bool) (n := 10001) (len := 6) (rs := [(44, .vec 10001 1 0 6), (45, .p I6 (3 : Int))]) 3 rfl rfl row77P.sl rfl (.tmp (.head _)) (.tmp m1_) rfl (by decide)))] } [0, 1, 11, 12] [100000, 100001, 100002, 100003] hN (by kernel_rfl) (by kernel_rfl) ?_
          refine bn_ ?_
          refine tnU ?_
          exact ⟨b1, b2, b3, true, b5, b6, hl, by kernel_rfl⟩
         rw [if_neg hj3] at hl
         by_cases hj4 : j = 4
         ·subst hj4
          rw [if_pos rfl] at hl
          refine rS { its := [(3, .c (COk.ren (flags_switches.ok O 1) (fun n => if n = 60500 then 10001 else n) (injOn_of (by kernel_rfl)))), (5, .e 5 (u8_ (T := 77) (E := 79) (t := .ptr .bool) (n := 10001) (len := 6) (rs := [(44, .vec 10001 1 0 6), (45, .p I6 (4 : Int))]) 4 rfl rfl row77P.sl rfl (.tmp (.head _)) (.tmp m1_) rfl (by decide)))] } [0, 1, 11, 12] [100000, 100001, 100002, 100003] hN (by kernel_rfl) (by kernel_rfl) ?_
          refine bn_ ?_
          refine tnU ?_
          exact ⟨b1, b2, b3, b4, true, b6, hl, by kernel_rfl⟩
         rw [if_neg hj4] at hl
         by_cases hj5 : j = 5
         ·subst hj5
          rw [if_pos rfl] at hl
          refine rS { its := [(3, .c (COk.ren (flags_switches.ok O 1) (fun n => if n = 60500 then 10001 else n) (injOn_of (by kernel_rfl)))), (5, .e 5 (u8_ (T := 77) (E := 79) (t := .ptr .bool) (n := 10001) (len := 6) (rs := [(44, .vec 10001 1 0 6), (45, .p I6 (5 : Int))]) 5 rfl rfl row77P.sl rfl (.tmp (.head _)) (.tmp m1_) rfl (by decide)))] } [0, 1, 11, 12] [100000, 100001, 100002, 100003] hN (by kernel_rfl) (by kernel_rfl) ?_
          refine bn_ ?_
          refine tnU ?_
          exact ⟨b1, b2, b3, b4, b5, true, hl, by kernel_rfl⟩
         rw [if_neg hj5] at hl
         cases hl
     ·rintro _ ⟨b1, b2, b3, b4, b5, b6, hl, rfl⟩
      refine rS {} [0, 1, 11, 12] [100000, 100001, 100002, 100003] hN (by kernel_rfl) (by kernel_rfl) ?_
      refine tnU ?_
      exact ⟨n, Nat.lt_succ_self n, b1, b2, b3, b4, b5, b6, _, hl, by kernel_rfl⟩
    ·replace hl := ite_f hc2 hl
     refine wc_ (cS [.k [] [100000, 100001, 100002, 100003]] (by kernel_rfl) (by kernel_rfl)) (we_ ?_)
     refine te_ ?_
     refine te_ ?_
     refine blockQ_hit ?_
     refine tnU ?_
     exact ⟨b1, b2, b3, b4, b5, b6, (Option.some.inj hl).symm, by kernel_rfl⟩
  ·rintro _ ⟨b1, b2, b3, b4, b5, b6, rfl, rfl⟩
   have hq := Option.some.inj h
   subst hq
   refine sq_ ?_
   refine rS {} [4] [100000, 100001, 100002, 100003] hN (by kernel_rfl) (by kernel_rfl) ?_
   refine tnU ?_
   refine wc_ (cS [.nE 4, .rn 100001 60001, .k [4] [60001, 100000, 100002, 100003]] (by kernel_rfl) (by kernel_rfl)) (wr_ ?_)
   exact eR (by kernel_rfl) (by kernel_rfl)

theorem stringslite_Cut.ok (O : Out) (hO : GOk O) (k : Nat) (a0 : List UInt8) (a1 : List UInt8) (out : (List UInt8) × (List UInt8) × Bool) (h : stringslite_Cut.f k a0 a1 = some out) : COk Un O Tryz.prog 74 { ar := [.p .str a0, .p .str a1], r := .tup [.p .str out.1, .p .str out.2.1, .p .bool out.2.2] } := by
 refine cok_of_wp Tryz.func74 rfl (k := 23) rfl (Nat.le_of_ble_eq_true rfl) (namesOk_pure rfl rfl rfl rfl) ?_
 intro B hN
 refine ckS (b := ⟨[(0, .p .str a0), (1, .p .str a1)], []⟩) [0, 1] [] (by kernel_rfl) ?_
 unfold stringslite_Cut.f at h
 refine sq_ ?_
 refine rS {} [0, 1] [] hN (by kernel_rfl) (by kernel_rfl) ?_
 refine tnS ?_
 refine sq_ ?_
 obtain ⟨v1, hv1, h⟩ := bind_some h
 refine rS { its := [(2, .c (pIndexL.ok O hO k a0 a1 v1 hv1))] } [0, 1, 7] [] hN (by kernel_rfl) (by kernel_rfl) ?_
 refine tnS ?_
 refine rS {} [0, 1, 7, 12] [] hN (by kernel_rfl) (by kernel_rfl) ?_
 refine tnU ?_
 refine tS (b := (decide (v1 ≥ 0))) (by kernel_rfl) (fun hc2 => ?_) (fun hc2 => ?_)
 ·replace h := ite_t hc2 h
  refine sq_ ?_
  obtain ⟨v3, hv3, h⟩ := bind_some h
  obtain ⟨v4, hv4, h⟩ := bind_some h
  refine rA { its := [(2, .v .str hv3), (8, .v .str hv4)] } [4, 5, 6] [] hN (by kernel_rfl) (by kernel_rfl) (by kernel_rfl) ?_
  refine tnU ?_
  refine wr_ ?_
  refine tr_ ?_
  have hq := Option.some.inj h
  subst hq
  exact eR (by kernel_rfl) (by kernel_rfl)
 ·replace h := ite_f hc2 h
  refine wc_ (cS [.k [0] []] (by kernel_rfl) (by kernel_rfl)) (ws_ ?_)
  refine tnS ?_
  refine rS {} [4, 5, 6] [] hN (by kernel_rfl) (by kernel_rfl) ?_
  refine tnU ?_
  refine wr_ ?_
  have hq := Option.some.inj h
  subst hq
  exact eR (by kernel_rfl) (by kernel_rfl)

theorem strings_Cut.ok (O : Out) (hO : GOk O) (k : Nat) (a0 : List UInt8) (a1 : List UInt8) (out : (List UInt8) × (List UInt8) × Bool) (h : strings_Cut.f k a0 a1 = some out) : COk Un O Tryz.prog 52 { ar := [.p .str a0, .p .str a1], r := .tup [.p .str out.1, .p .str out.2.1, .p .bool out.2.2] } := by
 refine cok_of_wp Tryz.func52 rfl (k := 13) rfl (Nat.le_of_ble_eq_true rfl) (namesOk_pure rfl rfl rfl rfl) ?_
 intro B hN
 refine ckS (b := ⟨[(0, .p .str a0), (1, .p .str a1)], []⟩) [0, 1] [] (by kernel_rfl) ?_
 unfold strings_Cut.f at h
 refine sq_ ?_
 refine rS {} [0, 1] [] hN (by kernel_rfl) (by kernel_rfl) ?_
 refine tnS ?_
 obtain ⟨v1, hv1, h⟩ := bind_some h
 refine rS { its := [(2, .c (stringslite_Cut.ok O hO k a0 a1 v1 hv1))] } [4, 5, 6] [] hN (by kernel_rfl) (by kernel_rfl) ?_
 refine tnU ?_
 refine wr_ ?_
 have hq := Option.some.inj h
 subst hq
 exact eR (by kernel_rfl) (by kernel_rfl)

theorem lex_letter.ok (O : Out) (hO : GOk O) (k : Nat) (a0 : Int) (out : Bool) (h : lex_letter.f k a0 = some out) : COk Un O Tryz.prog 76 { ar := [.p (.int .u8) a0], r := .p .bool out } := by
 refine cok_of_wp Tryz.func76 rfl (k := 29) rfl (Nat.le_of_ble_eq_true rfl) (namesOk_pure rfl rfl rfl rfl) ?_
 intro B hN
 refine ckS (b := ⟨[(0, .p (.int .u8) a0)], []⟩) [0] [] (by kernel_rfl) ?_
 unfold lex_letter.f at h
 refine sq_ ?_
 refine rS {} [0] [] hN (by kernel_rfl) (by kernel_rfl) ?_
 refine tnS ?_
 rcases bool_cases (decide (a0 ≥ 97)) with hc1 | hc1
 ·replace h := ite_t hc1 h
  rcases bool_cases (decide (a0 ≤ 122)) with hc2 | hc2
  ·replace h := ite_t hc2 h
   refine rS { kn := [(5, .t hc1), (9, .t hc2)] } [2] [] hN (by kernel_rfl) (by kernel_rfl) ?_
   refine tnU ?_
   refine wr_ ?_
   have hq := Option.some.inj h
   subst hq
   exact eR (by kernel_rfl) (by kernel_rfl)
  ·replace h := ite_f hc2 h
   rcases bool_cases (decide (a0 ≥ 65)) with hc3 | hc3
   ·replace h := ite_t hc3 h
    rcases bool_cases (decide (a0 ≤ 90)) with hc4 | hc4
    ·replace h := ite_t hc4 h
     refine rS { kn := [(5, .t hc1), (9, .f hc2), (12, .t hc3), (17, .t hc4)] } [2] [] hN (by kernel_rfl) (by kernel_rfl) ?_
     refine tnU ?_
     refine wr_ ?_
     have hq := Option.some.inj h
     subst hq
     exact eR (by kernel_rfl) (by kernel_rfl)
    ·replace h := ite_f hc4 h
     rcases bool_cases (decide (a0 ≥ 48)) with hc5 | hc5
     ·replace h := ite_t hc5 h
      rcases bool_cases (decide (a0 ≤ 57)) with hc6 | hc6
      ·replace h := ite_t hc6 h
       refine rS { kn := [(5, .t hc1), (9, .f hc2), (12, .t hc3), (17, .f hc4), (20, .t hc5), (25, .t hc6)] } [2] [] hN (by kernel_rfl) (by kernel_rfl) ?_
       refine tnU ?_
       refine wr_ ?_
       have hq := Option.some.inj h
       subst hq
       exact eR (by kernel_rfl) (by kernel_rfl)
      ·replace h := ite_f hc6 h
       refine rS { kn := [(5, .t hc1), (9, .f hc2), (12, .t hc3), (17, .f hc4), (20, .t hc5), (25, .f hc6)] } [2] [] hN (by kernel_rfl) (by kernel_rfl) ?_
       refine tnU ?_
       refine wr_ ?_
       have hq := Option.some.inj h
       subst hq
       exact eR (by kernel_rfl) (by kernel_rfl)
     ·replace h := ite_f hc5 h
      refine rS { kn := [(5, .t hc1), (9, .f hc2), (12, .t hc3), (17, .f hc4), (20, .f hc5)] } [2] [] hN (by kernel_rfl) (by kernel_rfl) ?_
      refine tnU ?_
      refine wr_ ?_
      have hq := Option.some.inj h
      subst hq
      exact eR (by kernel_rfl) (by kernel_rfl)
   ·replace h := ite_f hc3 h
    rcases bool_cases (decide (a0 ≥ 48)) with hc7 | hc7
    ·replace h := ite_t hc7 h
     rcases bool_cases (decide (a0 ≤ 57)) with hc8 | hc8
     ·replace h := ite_t hc8 h
      refine rS { kn := [(5, .t hc1), (9, .f hc2), (12, .f hc3), (20, .t hc7), (25, .t hc8)] } [2] [] hN (by kernel_rfl) (by kernel_rfl) ?_
      refine tnU ?_
      refine wr_ ?_
      have hq := Option.some.inj h
      subst hq
      exact eR (by kernel_rfl) (by kernel_rfl)
     ·replace h := ite_f hc8 h
      refine rS { kn := [(5, .t hc1), (9, .f hc2), (12, .f hc3), (20, .t hc7), (25, .f hc8)] } [2] [] hN (by kernel_rfl) (by kernel_rfl) ?_
      refine tnU ?_
      refine wr_ ?_
      have hq := Option.some.inj h
      subst hq
      exact eR (by kernel_rfl) (by kernel_rfl)
    ·replace h := ite_f hc7 h
     refine rS { kn := [(5, .t hc1), (9, .f hc2), (12, .f hc3), (20, .f hc7)] } [2] [] hN (by kernel_rfl) (by kernel_rfl) ?_
     refine tnU ?_
     refine wr_ ?_
     have hq := Option.some.inj h
     subst hq
     exact eR (by kernel_rfl) (by kernel_rfl)
 ·replace h := ite_f hc1 h
  rcases bool_cases (decide (a0 ≥ 65)) with hc9 | hc9
  ·replace h := ite_t hc9 h
   rcases bool_cases (decide (a0 ≤ 90)) with hc10 | hc10
   ·replace h := ite_t hc10 h
    refine rS { kn := [(5, .f hc1), (12, .t hc9), (17, .t hc10)] } [2] [] hN (by kernel_rfl) (by kernel_rfl) ?_
    refine tnU ?_
    refine wr_ ?_
    have hq := Option.some.inj h
    subst hq
    exact eR (by kernel_rfl) (by kernel_rfl)
   ·replace h := ite_f hc10 h
    rcases bool_cases (decide (a0 ≥ 48)) with hc11 | hc11
    ·replace h := ite_t hc11 h
     rcases bool_cases (decide (a0 ≤ 57)) with hc12 | hc12
     ·replace h := ite_t hc12 h
      refine rS { kn := [(5, .f hc1), (12, .t hc9), (17, .f hc10), (20, .t hc11), (25, .t hc12)] } [2] [] hN (by kernel_rfl) (by kernel_rfl) ?_
      refine tnU ?_
      refine wr_ ?_
      have hq := Option.some.inj h
      subst hq
      exact eR (by kernel_rfl) (by kernel_rfl)
     ·replace h := ite_f hc12 h
      refine rS { kn := [(5, .f hc1), (12, .t hc9), (17, .f hc10), (20, .t hc11), (25, .f hc12)] } [2] [] hN (by kernel_rfl) (by kernel_rfl) ?_
      refine tnU ?_
      refine wr_ ?_
      have hq := Option.some.inj h
      subst hq
      exact eR (by kernel_rfl) (by kernel_rfl)
    ·replace h := ite_f hc11 h
     refine rS { kn := [(5, .f hc1), (12, .t hc9), (17, .f hc10), (20, .f hc11)] } [2] [] hN (by kernel_rfl) (by kernel_rfl) ?_
     refine tnU ?_
     refine wr_ ?_
     have hq := Option.some.inj h
     subst hq
     exact eR (by kernel_rfl) (by kernel_rfl)
  ·replace h := ite_f hc9 h
   rcases bool_cases (decide (a0 ≥ 48)) with hc13 | hc13
   ·replace h := ite_t hc13 h
    rcases bool_cases (decide (a0 ≤ 57)) with hc14 | hc14
    ·replace h := ite_t hc14 h
     refine rS { kn := [(5, .f hc1), (12, .f hc9), (20, .t hc13), (25, .t hc14)] } [2] [] hN (by kernel_rfl) (by kernel_rfl) ?_
     refine tnU ?_
     refine wr_ ?_
     have hq := Option.some.inj h
     subst hq
     exact eR (by kernel_rfl) (by kernel_rfl)
    ·replace h := ite_f hc14 h
     refine rS { kn := [(5, .f hc1), (12, .f hc9), (20, .t hc13), (25, .f hc14)] } [2] [] hN (by kernel_rfl) (by kernel_rfl) ?_
     refine tnU ?_
     refine wr_ ?_
     have hq := Option.some.inj h
     subst hq
     exact eR (by kernel_rfl) (by kernel_rfl)
   ·replace h := ite_f hc13 h
    refine rS { kn := [(5, .f hc1), (12, .f hc9), (20, .f hc13)] } [2] [] hN (by kernel_rfl) (by kernel_rfl) ?_
    refine tnU ?_
    refine wr_ ?_
    have hq := Option.some.inj h
    subst hq
    exact eR (by kernel_rfl) (by kernel_rfl)

theorem lex_run_m0.ok (O : Out) (hO : GOk O) (k : Nat) (a0 : List UInt8) (a1 : Int) (out : Int) (h : lex_run_m0.f k a0 a1 = some out) : COk Un O Tryz.prog 75 { ar := [.p .str a0, .p I6 a1, .clo 76 []], r := .p I6 out } := by
 refine cok_of_wp Tryz.func75 rfl (k := 26) rfl (Nat.le_of_ble_eq_true rfl) (namesOk_pure rfl rfl rfl rfl) ?_
 intro B hN
 refine ckS (b := ⟨[(0, .p .str a0), (1, .p I6 a1), (2, .clo 76 [])], []⟩) [0, 1, 2] [] (by kernel_rfl) ?_
 unfold lex_run_m0.f at h
 refine sq_ ?_
 refine rS {} [0, 1, 2] [] hN (by kernel_rfl) (by kernel_rfl) ?_
 refine tnS ?_
 refine rS {} [0, 1, 2, 7] [] hN (by kernel_rfl) (by kernel_rfl) ?_
 refine tnU ?_
 refine sqJ (fun st' => ∃ v1 : Int, lex_run_m0.j2 k v1 = some out ∧ st' = ⟨[(7, .p I6 v1)], []⟩) ?_ ?_
 ·refine wb_ ?_
  obtain ⟨o6, hlo6, h⟩ := bind_some h
  have hout7 := h
  clear h
  refine u1_ (fun n st' => ∃ v3 : Int, lex_run_m0.l4 k a0 a1 n v3 = some o6 ∧ st' = ⟨[(0, .p .str a0), (1, .p I6 a1), (2, .clo 76 []), (7, .p I6 v3)], []⟩) k ⟨0, hlo6, by kernel_rfl⟩ ?_
  clear hlo6
  rintro (_ | n) _ ⟨v3, h, rfl⟩
  ·cases h
  ·rw [lex_run_m0.l4] at h
   refine sqJ (fun st' => lex_run_m0.j8 k (lex_run_m0.l4 k a0 a1 n) a0 a1 v3 = some o6 ∧ st' = ⟨[(0, .p .str a0), (1, .p I6 a1), (2, .clo 76 []), (7, .p I6 v3)], []⟩) ?_ ?_
   ·refine sqJ (fun st' => ∃ v9 : Bool, lex_run_m0.j11 k (lex_run_m0.l4 k a0 a1 n) a0 a1 v3 v9 = some o6 ∧ st' = ⟨[(0, .p .str a0), (1, .p I6 a1), (2, .clo 76 []), (7, .p I6 v3), (22, .p .bool v9)], []⟩) ?_ ?_
    ·rcases bool_cases (decide ((IntKind.i64.wrap (a1 + v3)) < (a0.length : Int))) with hc12 | hc12
     ·replace h := ite_t hc12 h
      obtain ⟨v13, hv13, h⟩ := bind_some h
      obtain ⟨v14, hv14, h⟩ := bind_some h
      refine rS { its := [(12, .u hv13), (13, .c (lex_letter.ok O hO k (v13.toNat : Int) v14 hv14))], kn := [(14, .t hc12)] } [0, 1, 2, 7, 22] [] hN (by kernel_rfl) (by kernel_rfl) ?_
      refine tnU ?_
      exact ⟨v14, h, by kernel_rfl⟩
     ·replace h := ite_f hc12 h
      refine rS { kn := [(14, .f hc12)] } [0, 1, 2, 7, 22] [] hN (by kernel_rfl) (by kernel_rfl) ?_
      refine tnU ?_
      exact ⟨false, h, by kernel_rfl⟩
    ·rintro _ ⟨v9, h, rfl⟩
     unfold lex_run_m0.j11 at h
     refine tS (b := v9) (by kernel_rfl) (fun hc10 => ?_) (fun hc10 => ?_)
     ·replace h := ite_t hc10 h
      refine wc_ (cS [.k [0, 1, 2, 7] []] (by kernel_rfl) (by kernel_rfl)) (ws_ ?_)
      refine tnU ?_
      exact ⟨h, by kernel_rfl⟩
     ·replace h := ite_f hc10 h
      refine wc_ (cS [.k [7] []] (by kernel_rfl) (by kernel_rfl)) (we_ ?_)
      refine te_ ?_
      have hq := Option.some.inj h
      subst hq
      refine te_ ?_
      have h := hout7
      refine blockQ_hit ?_
      refine tnU ?_
      exact ⟨v3, h, by kernel_rfl⟩
   ·rintro _ ⟨h, rfl⟩
    unfold lex_run_m0.j8 at h
    refine wb_ ?_
    refine rS {} [0, 1, 2, 7] [] hN (by kernel_rfl) (by kernel_rfl) ?_
    refine bn_ ?_
    refine tnU ?_
    exact ⟨n, Nat.lt_succ_self n, (IntKind.i64.wrap (v3 + 1)), h, by kernel_rfl⟩
 ·rintro _ ⟨v1, h, rfl⟩
  unfold lex_run_m0.j2 at h
  refine sq_ ?_
  refine rS {} [6] [] hN (by kernel_rfl) (by kernel_rfl) ?_
  refine tnU ?_
  refine wr_ ?_
  have hq := Option.some.inj h
  subst hq
  exact eR (by kernel_rfl) (by kernel_rfl)

end Go.Proofs.YtcijochjfncefaaGreatDoor
