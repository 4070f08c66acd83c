/- A part of the proof of a given law: IOC6. Own work, printed in part by a program of mine. -/
import Derived.Test.YtpcobejkpbalcaaGreatDoorK28IOC5
namespace Go.Proofs.YtpcobejkpbalcaaGreatDoor
open Go Go.AM
set_option linter.unusedVariables false
set_option linter.unusedSimpArgs false
set_option maxRecDepth 100000
set_option maxHeartbeats 4000000
theorem millwrightlaw22_alive.ok (O : Out) (hO : GOkE O) (k : Nat) (out : Bool) (h : millwrightlaw22_alive.f k = some out) : COk Un O Tryz.prog 6 { ar := [], r := .p .bool out } := by
 refine cok_of_wp Tryz.func6 rfl (k := 48) rfl (Nat.le_of_ble_eq_true rfl) (namesOk_pure rfl rfl rfl rfl) ?_
 intro B hN
 refine WpC.conv (cvK (b := ⟨[], []⟩) [] [] (by kernel_rfl)) ?_
 unfold millwrightlaw22_alive.f at h
 refine WpC.seq ?_
 refine rS {} [] [] hN (by kernel_rfl) (by kernel_rfl) ?_
 refine tnU ?_
 refine WpC.seq ?_
 obtain ⟨v1, hv1, h⟩ := bind_some h
 refine rS { its := [(4, .c (COk.ren (table_New.ok O hO k [(T_load_Rule.mk [([37, 46, 111] : List UInt8)] [([37, 46, 99] : List UInt8)] (T_attr_Attr.mk 0 []) [] [] 0)] v1 hv1) (fun n => if n = 60500 then 10001 else if n = 60501 then 10002 else if n = 60502 then 10003 else n) (injOn_of (by kernel_rfl))))], fz := [0, 1] } [1, 2] [10001, 10002, 10003] hN (by kernel_rfl) (by kernel_rfl) ?_
 refine tnU ?_
 refine sqJ (fun st' => millwrightlaw22_alive.j9 k v1 = some out ∧ st' = ⟨[(1, .opt v1.1 10001)], [(10001, .opt v1.1 (.box [.vec 10002 7 0 v1.2.1.length, .vec 10003 1 0 v1.2.2.1.length])), (10002, .opt v1.1 (.row 62 (.named 3) v1.2.1 false)), (10003, .opt v1.1 (.row 3 I6 v1.2.2.1 false))]⟩) ?_ ?_
 ·refine sqJ (fun st' => ∃ v10 : Bool, millwrightlaw22_alive.j12 k v1 v10 = some out ∧ st' = ⟨[(1, .opt v1.1 10001), (18, .p .bool v10)], [(10001, .opt v1.1 (.box [.vec 10002 7 0 v1.2.1.length, .vec 10003 1 0 v1.2.2.1.length])), (10002, .opt v1.1 (.row 62 (.named 3) v1.2.1 false)), (10003, .opt v1.1 (.row 3 I6 v1.2.2.1 false))]⟩) ?_ ?_
  ·rcases bool_cases (!(v1.2.2.2 == 0)) with hc13 | hc13
   ·replace h := ite_t hc13 h
    refine rS { kn := [(15, .t hc13)] } [1, 18] [10001, 10002, 10003] hN (by kernel_rfl) (by kernel_rfl) ?_
    refine tnU ?_
    exact ⟨true, h, by kernel_rfl⟩
   ·replace h := ite_f hc13 h
    refine rS { kn := [(15, .f hc13)] } [1, 18] [10001, 10002, 10003] hN (by kernel_rfl) (by kernel_rfl) ?_
    refine tnU ?_
    exact ⟨(!v1.1), h, by kernel_rfl⟩
  ·rintro _ ⟨v10, h, rfl⟩
   unfold millwrightlaw22_alive.j12 at h
   refine tS (b := v10) (by kernel_rfl) (fun hc11 => ?_) (fun hc11 => ?_)
   ·replace h := ite_t hc11 h
    refine WpC.seq ?_
    refine rS {} [0] [] hN (by kernel_rfl) (by kernel_rfl) ?_
    refine tnU ?_
    refine WpC.ret ?_
    refine thenQ_ret ?_
    have hq := Option.some.inj h
    subst hq
    exact eR (by kernel_rfl) (by kernel_rfl)
   ·replace h := ite_f hc11 h
    refine WpC.conv (cS [.k [1] [10001, 10002, 10003]] (by kernel_rfl) (by kernel_rfl)) (WpC.skip ?_)
    refine tnU ?_
    exact ⟨h, by kernel_rfl⟩
 ·rintro _ ⟨h, rfl⟩
  unfold millwrightlaw22_alive.j9 at h
  refine WpC.seq ?_
  obtain ⟨hc2, h⟩ := if_some h
  refine WpC.conv (cS [.oS 1 hc2, .k [1] [10001, 10002, 10003], .oK 10001 hc2, .k [1] [10001, 10002, 10003], .oK 10002 hc2, .k [1] [10001, 10002, 10003], .oK 10003 hc2, .k [1] [10001, 10002, 10003]] (by kernel_rfl) (by kernel_rfl)) ?_
  obtain ⟨v3, hv3, h⟩ := bind_some h
  refine rS { its := [(1, .c (COk.ren (inst_At_m0.ok O hO k v1.2.1 v1.2.2.1 0 ([120, 46, 111] : List UInt8) v3 hv3) (fun n => if n = 100000 then 10001 else if n = 100001 then 10002 else if n = 100002 then 10003 else n) (injOn_of (by kernel_rfl))))], th := [(6, [(3, 10004, 9, .str)])] } [2, 3, 4] [3] hN (by kernel_rfl) (by kernel_rfl) ?_
  refine tnU ?_
  refine WpC.seq ?_
  rcases bool_cases (v3.2.2 == 0) with hc4 | hc4
  ·replace h := ite_t hc4 h
   rcases bool_cases v3.2.1 with hc5 | hc5
   ·replace h := ite_t hc5 h
    rcases bool_cases (v3.1.f_Stem == ([120] : List UInt8)) with hc6 | hc6
    ·replace h := ite_t hc6 h
     rcases bool_cases ((v3.1.f_Prereqs.length : Int) == 1) with hc7 | hc7
     ·replace h := ite_t hc7 h
      obtain ⟨v8, hv8, h⟩ := bind_some h
      refine rS { its := [(19, .v .str hv8)], kn := [(27, .t hc4), (30, .t hc5), (35, .t hc6), (41, .t hc7)] } [0] [] hN (by kernel_rfl) (by kernel_rfl) ?_
      refine tnU ?_
      refine WpC.ret ?_
      have hq := Option.some.inj h
      subst hq
      exact eR (by kernel_rfl) (by kernel_rfl)
     ·replace h := ite_f hc7 h
      refine rS { kn := [(27, .t hc4), (30, .t hc5), (35, .t hc6), (41, .f hc7)] } [0] [] hN (by kernel_rfl) (by kernel_rfl) ?_
      refine tnU ?_
      refine WpC.ret ?_
      have hq := Option.some.inj h
      subst hq
      exact eR (by kernel_rfl) (by kernel_rfl)
    ·replace h := ite_f hc6 h
     refine rS { kn := [(27, .t hc4), (30, .t hc5), (35, .f hc6)] } [0] [] hN (by kernel_rfl) (by kernel_rfl) ?_
     refine tnU ?_
     refine WpC.ret ?_
     have hq := Option.some.inj h
     subst hq
     exact eR (by kernel_rfl) (by kernel_rfl)
   ·replace h := ite_f hc5 h
    refine rS { kn := [(27, .t hc4), (30, .f hc5)] } [0] [] hN (by kernel_rfl) (by kernel_rfl) ?_
    refine tnU ?_
    refine WpC.ret ?_
    have hq := Option.some.inj h
    subst hq
    exact eR (by kernel_rfl) (by kernel_rfl)
  ·replace h := ite_f hc4 h
   refine rS { kn := [(27, .f hc4)] } [0] [] hN (by kernel_rfl) (by kernel_rfl) ?_
   refine tnU ?_
   refine WpC.ret ?_
   have hq := Option.some.inj h
   subst hq
   exact eR (by kernel_rfl) (by kernel_rfl)

theorem millwrightnum_Long.ok (O : Out) (hO : GOkE O) (k : Nat) (a0 : List (List UInt8)) (a1 : Int) (a2 : Int) (out : Bool) (h : millwrightnum_Long.f k a0 a1 a2 = some out) : COk Un O Tryz.prog 41 { ar := [.p (.list .str) a0, .p I6 a1, .p I6 a2], r := .p .bool out } := by
 refine cok_of_wp Tryz.func41 rfl (k := 24) rfl (Nat.le_of_ble_eq_true rfl) (namesOk_pure rfl rfl rfl rfl) ?_
 intro B hN
 refine WpC.conv (cvK (b := ⟨[(0, .p (.list .str) a0), (1, .p I6 a1), (2, .p I6 a2)], []⟩) [0, 1, 2] [] (by kernel_rfl)) ?_
 unfold millwrightnum_Long.f at h
 refine WpC.seq ?_
 refine rS {} [0, 1, 2] [] hN (by kernel_rfl) (by kernel_rfl) ?_
 refine tnU ?_
 refine WpC.seq ?_
 refine WpC.seq ?_
 refine rS {} [0, 2, 12] [] hN (by kernel_rfl) (by kernel_rfl) ?_
 refine tnU ?_
 refine tS (b := (decide ((a0.length : Int) > a1))) (by kernel_rfl) (fun hc1 => ?_) (fun hc1 => ?_)
 ·replace h := ite_t hc1 h
  refine WpC.seq ?_
  refine rS {} [6] [] hN (by kernel_rfl) (by kernel_rfl) ?_
  refine tnU ?_
  refine WpC.ret ?_
  refine thenQ_ret ?_
  have hq := Option.some.inj h
  subst hq
  exact eR (by kernel_rfl) (by kernel_rfl)
 ·replace h := ite_f hc1 h
  refine WpC.conv (cS [.k [0, 2] []] (by kernel_rfl) (by kernel_rfl)) (WpC.skip ?_)
  refine tnU ?_
  refine sqJ (fun st' => millwrightnum_Long.j2 k = some out ∧ st' = ⟨[], []⟩) ?_ ?_
  ·refine WpC.seq ?_
   refine rS {} [2, 13, 14, 15] [] hN (by kernel_rfl) (by kernel_rfl) ?_
   refine tnU ?_
   refine WpC.block ?_
   obtain ⟨o5, hlo5, h⟩ := bind_some h
   have hout6 := h
   clear h
   refine WpC.loop (U := Un) (fun n st' => ∃ v3 : Int, millwrightnum_Long.l4 k a0 a2 n v3 = some o5 ∧ st' = ⟨[(2, .p I6 a2), (13, .p (.list .str) a0), (14, .p I6 ((a0.length : Int) : Int)), (15, .p I6 v3)], []⟩) k ⟨0, hlo5, by kernel_rfl⟩ ?_
   clear hlo5
   rintro (_ | n) _ ⟨v3, h, rfl⟩
   ·cases h
   ·rw [millwrightnum_Long.l4] at h
    refine WpC.seq ?_
    refine rS {} [2, 13, 14, 15, 16] [] hN (by kernel_rfl) (by kernel_rfl) ?_
    refine tnU ?_
    refine WpC.seq ?_
    refine tS (b := (decide (v3 < (a0.length : Int)))) (by kernel_rfl) (fun hc7 => ?_) (fun hc7 => ?_)
    ·replace h := ite_t hc7 h
     refine WpC.conv (cS [.k [2, 13, 14, 15] []] (by kernel_rfl) (by kernel_rfl)) (WpC.skip ?_)
     refine tnU ?_
     refine WpC.seq ?_
     refine WpC.block ?_
     refine WpC.seq ?_
     obtain ⟨v8, hv8, h⟩ := bind_some h
     refine rS { its := [(0, .v .str hv8)] } [2, 8, 13, 14, 15] [] hN (by kernel_rfl) (by kernel_rfl) ?_
     refine tnU ?_
     refine WpC.seq ?_
     refine rS {} [2, 13, 14, 15, 22] [] hN (by kernel_rfl) (by kernel_rfl) ?_
     refine tnU ?_
     refine tS (b := (decide ((v8.length : Int) > a2))) (by kernel_rfl) (fun hc9 => ?_) (fun hc9 => ?_)
     ·replace h := ite_t hc9 h
      refine WpC.seq ?_
      refine rS {} [6] [] hN (by kernel_rfl) (by kernel_rfl) ?_
      refine tnU ?_
      refine WpC.ret ?_
      refine blockQ_ret ?_
      refine thenQ_ret ?_
      have hq := Option.some.inj h
      subst hq
      refine thenQ_ret ?_
      have h := hout6
      refine blockQ_ret ?_
      refine thenQ_ret ?_
      have hq := Option.some.inj h
      subst hq
      exact eR (by kernel_rfl) (by kernel_rfl)
     ·replace h := ite_f hc9 h
      refine WpC.conv (cS [.k [2, 13, 14, 15] []] (by kernel_rfl) (by kernel_rfl)) (WpC.skip ?_)
      refine blockQ_normal ?_
      refine tnU ?_
      refine rS {} [2, 13, 14, 15] [] hN (by kernel_rfl) (by kernel_rfl) ?_
      refine tnU ?_
      exact ⟨n, Nat.lt_succ_self n, (IntKind.i64.wrap (v3 + 1)), h, by kernel_rfl⟩
    ·replace h := ite_f hc7 h
     refine WpC.conv (cS [.k [] []] (by kernel_rfl) (by kernel_rfl)) (WpC.exit ?_)
     refine thenQ_exit ?_
     have hq := Option.some.inj h
     subst hq
     refine thenQ_exit ?_
     have h := hout6
     refine blockQ_hit ?_
     refine tnU ?_
     exact ⟨h, by kernel_rfl⟩
  ·rintro _ ⟨h, rfl⟩
   unfold millwrightnum_Long.j2 at h
   refine WpC.seq ?_
   refine rS {} [6] [] hN (by kernel_rfl) (by kernel_rfl) ?_
   refine tnU ?_
   refine WpC.ret ?_
   have hq := Option.some.inj h
   subst hq
   exact eR (by kernel_rfl) (by kernel_rfl)

theorem millwrightlaw21_Long.ok (O : Out) (hO : GOkE O) (k : Nat) (a0 : List T_load_Rule) (a1 : Int) (out : Bool) (h : millwrightlaw21_Long.f k a0 a1 = some out) : COk Un O Tryz.prog 7 { ar := [.p (.list (.named 3)) a0, .p I6 a1], r := .p .bool out } := by
 refine cok_of_wp Tryz.func7 rfl (k := 57) rfl (Nat.le_of_ble_eq_true rfl) (namesOk_pure rfl rfl rfl rfl) ?_
 intro B hN
 refine WpC.conv (cvK (b := ⟨[(0, .p (.list (.named 3)) a0), (1, .p I6 a1)], []⟩) [0, 1] [] (by kernel_rfl)) ?_
 unfold millwrightlaw21_Long.f at h
 refine WpC.seq ?_
 refine rS {} [0, 1] [] hN (by kernel_rfl) (by kernel_rfl) ?_
 refine tnU ?_
 refine WpC.seq ?_
 refine WpC.seq ?_
 refine rS {} [0, 10] [] hN (by kernel_rfl) (by kernel_rfl) ?_
 refine tnU ?_
 refine tS (b := (decide ((a0.length : Int) > a1))) (by kernel_rfl) (fun hc1 => ?_) (fun hc1 => ?_)
 ·replace h := ite_t hc1 h
  refine WpC.seq ?_
  refine rS {} [4] [] hN (by kernel_rfl) (by kernel_rfl) ?_
  refine tnU ?_
  refine WpC.ret ?_
  refine thenQ_ret ?_
  have hq := Option.some.inj h
  subst hq
  exact eR (by kernel_rfl) (by kernel_rfl)
 ·replace h := ite_f hc1 h
  refine WpC.conv (cS [.k [0] []] (by kernel_rfl) (by kernel_rfl)) (WpC.skip ?_)
  refine tnU ?_
  refine sqJ (fun st' => millwrightlaw21_Long.j2 k = some out ∧ st' = ⟨[], []⟩) ?_ ?_
  ·refine WpC.seq ?_
   refine rS {} [11, 12, 13] [] hN (by kernel_rfl) (by kernel_rfl) ?_
   refine tnU ?_
   refine WpC.block ?_
   obtain ⟨o5, hlo5, h⟩ := bind_some h
   have hout6 := h
   clear h
   refine WpC.loop (U := Un) (fun n st' => ∃ v3 : Int, millwrightlaw21_Long.l4 k a0 n v3 = some o5 ∧ st' = ⟨[(11, .p (.list (.named 3)) a0), (12, .p I6 ((a0.length : Int) : Int)), (13, .p I6 v3)], []⟩) k ⟨0, hlo5, by kernel_rfl⟩ ?_
   clear hlo5
   rintro (_ | n) _ ⟨v3, h, rfl⟩
   ·cases h
   ·rw [millwrightlaw21_Long.l4] at h
    refine WpC.seq ?_
    refine rS {} [11, 12, 13, 14] [] hN (by kernel_rfl) (by kernel_rfl) ?_
    refine tnU ?_
    refine WpC.seq ?_
    refine tS (b := (decide (v3 < (a0.length : Int)))) (by kernel_rfl) (fun hc7 => ?_) (fun hc7 => ?_)
    ·replace h := ite_t hc7 h
     refine WpC.conv (cS [.k [11, 12, 13] []] (by kernel_rfl) (by kernel_rfl)) (WpC.skip ?_)
     refine tnU ?_
     refine sqJ (fun st' => millwrightlaw21_Long.j8 k (millwrightlaw21_Long.l4 k a0 n) a0 v3 = some o5 ∧ st' = ⟨[(11, .p (.list (.named 3)) a0), (12, .p I6 ((a0.length : Int) : Int)), (13, .p I6 v3)], []⟩) ?_ ?_
     ·refine WpC.block ?_
      refine WpC.seq ?_
      obtain ⟨v9, hv9, h⟩ := bind_some h
      refine rS { its := [(0, .v (.named 3) hv9)] } [6, 11, 12, 13] [6] hN (by kernel_rfl) (by kernel_rfl) ?_
      refine tnU ?_
      refine sqJ (fun st' => ∃ v10 : Bool, millwrightlaw21_Long.j12 k (millwrightlaw21_Long.l4 k a0 n) a0 v3 v10 = some o5 ∧ st' = ⟨[(11, .p (.list (.named 3)) a0), (12, .p I6 ((a0.length : Int) : Int)), (13, .p I6 v3), (55, .p .bool v10)], []⟩) ?_ ?_
      ·obtain ⟨v13, hv13, h⟩ := bind_some h
       rcases bool_cases v13 with hc14 | hc14
       ·replace h := ite_t hc14 h
        refine rS { its := [(2, .c (millwrightnum_Long.ok O hO k v9.f_Targets 12 130 v13 hv13))], kn := [(20, .t hc14)] } [11, 12, 13, 55] [] hN (by kernel_rfl) (by kernel_rfl) ?_
        refine tnU ?_
        exact ⟨true, h, by kernel_rfl⟩
       ·replace h := ite_f hc14 h
        obtain ⟨v15, hv15, h⟩ := bind_some h
        rcases bool_cases v15 with hc16 | hc16
        ·replace h := ite_t hc16 h
         refine rS { its := [(2, .c (millwrightnum_Long.ok O hO k v9.f_Targets 12 130 v13 hv13)), (6, .c (millwrightnum_Long.ok O hO k v9.f_Prereqs 12 130 v15 hv15))], kn := [(20, .f hc14), (25, .t hc16)] } [11, 12, 13, 55] [] hN (by kernel_rfl) (by kernel_rfl) ?_
         refine tnU ?_
         exact ⟨true, h, by kernel_rfl⟩
        ·replace h := ite_f hc16 h
         rcases bool_cases (decide ((v9.f_Recipe.length : Int) > 300)) with hc17 | hc17
         ·replace h := ite_t hc17 h
          refine rS { its := [(2, .c (millwrightnum_Long.ok O hO k v9.f_Targets 12 130 v13 hv13)), (6, .c (millwrightnum_Long.ok O hO k v9.f_Prereqs 12 130 v15 hv15))], kn := [(20, .f hc14), (25, .f hc16), (31, .t hc17)] } [11, 12, 13, 55] [] hN (by kernel_rfl) (by kernel_rfl) ?_
          refine tnU ?_
          exact ⟨true, h, by kernel_rfl⟩
         ·replace h := ite_f hc17 h
          rcases bool_cases (decide ((v9.f_File.length : Int) > 100)) with hc18 | hc18
          ·replace h := ite_t hc18 h
           refine rS { its := [(2, .c (millwrightnum_Long.ok O hO k v9.f_Targets 12 130 v13 hv13)), (6, .c (millwrightnum_Long.ok O hO k v9.f_Prereqs 12 130 v15 hv15))], kn := [(20, .f hc14), (25, .f hc16), (31, .f hc17), (37, .t hc18)] } [11, 12, 13, 55] [] hN (by kernel_rfl) (by kernel_rfl) ?_
           refine tnU ?_
           exact ⟨true, h, by kernel_rfl⟩
          ·replace h := ite_f hc18 h
           rcases bool_cases (decide (v9.f_Attr.f_Flags < 0)) with hc19 | hc19
           ·replace h := ite_t hc19 h
            refine rS { its := [(2, .c (millwrightnum_Long.ok O hO k v9.f_Targets 12 130 v13 hv13)), (6, .c (millwrightnum_Long.ok O hO k v9.f_Prereqs 12 130 v15 hv15))], kn := [(20, .f hc14), (25, .f hc16), (31, .f hc17), (37, .f hc18), (43, .t hc19)] } [11, 12, 13, 55] [] hN (by kernel_rfl) (by kernel_rfl) ?_
            refine tnU ?_
            exact ⟨true, h, by kernel_rfl⟩
           ·replace h := ite_f hc19 h
            rcases bool_cases (decide (v9.f_Attr.f_Flags > 255)) with hc20 | hc20
            ·replace h := ite_t hc20 h
             refine rS { its := [(2, .c (millwrightnum_Long.ok O hO k v9.f_Targets 12 130 v13 hv13)), (6, .c (millwrightnum_Long.ok O hO k v9.f_Prereqs 12 130 v15 hv15))], kn := [(20, .f hc14), (25, .f hc16), (31, .f hc17), (37, .f hc18), (43, .f hc19), (49, .t hc20)] } [11, 12, 13, 55] [] hN (by kernel_rfl) (by kernel_rfl) ?_
             refine tnU ?_
             exact ⟨true, h, by kernel_rfl⟩
            ·replace h := ite_f hc20 h
             refine rS { its := [(2, .c (millwrightnum_Long.ok O hO k v9.f_Targets 12 130 v13 hv13)), (6, .c (millwrightnum_Long.ok O hO k v9.f_Prereqs 12 130 v15 hv15))], kn := [(20, .f hc14), (25, .f hc16), (31, .f hc17), (37, .f hc18), (43, .f hc19), (49, .f hc20)] } [11, 12, 13, 55] [] hN (by kernel_rfl) (by kernel_rfl) ?_
             refine tnU ?_
             exact ⟨(decide ((v9.f_Attr.f_Prog.length : Int) > 120)), h, by kernel_rfl⟩
      ·rintro _ ⟨v10, h, rfl⟩
       unfold millwrightlaw21_Long.j12 at h
       refine tS (b := v10) (by kernel_rfl) (fun hc11 => ?_) (fun hc11 => ?_)
       ·replace h := ite_t hc11 h
        refine WpC.seq ?_
        refine rS {} [4] [] hN (by kernel_rfl) (by kernel_rfl) ?_
        refine tnU ?_
        refine WpC.ret ?_
        refine blockQ_ret ?_
        refine thenQ_ret ?_
        have hq := Option.some.inj h
        subst hq
        refine thenQ_ret ?_
        have h := hout6
        refine blockQ_ret ?_
        refine thenQ_ret ?_
        have hq := Option.some.inj h
        subst hq
        exact eR (by kernel_rfl) (by kernel_rfl)
       ·replace h := ite_f hc11 h
        refine WpC.conv (cS [.k [11, 12, 13] []] (by kernel_rfl) (by kernel_rfl)) (WpC.skip ?_)
        refine blockQ_normal ?_
        refine tnU ?_
        exact ⟨h, by kernel_rfl⟩
     ·rintro _ ⟨h, rfl⟩
      unfold millwrightlaw21_Long.j8 at h
      refine rS {} [11, 12, 13] [] hN (by kernel_rfl) (by kernel_rfl) ?_
      refine tnU ?_
      exact ⟨n, Nat.lt_succ_self n, (IntKind.i64.wrap (v3 + 1)), h, by kernel_rfl⟩
    ·replace h := ite_f hc7 h
     refine WpC.conv (cS [.k [] []] (by kernel_rfl) (by kernel_rfl)) (WpC.exit ?_)
     refine thenQ_exit ?_
     have hq := Option.some.inj h
     subst hq
     refine thenQ_exit ?_
     have h := hout6
     refine blockQ_hit ?_
     refine tnU ?_
     exact ⟨h, by kernel_rfl⟩
  ·rintro _ ⟨h, rfl⟩
   unfold millwrightlaw21_Long.j2 at h
   refine WpC.seq ?_
   refine rS {} [4] [] hN (by kernel_rfl) (by kernel_rfl) ?_
   refine tnU ?_
   refine WpC.ret ?_
   have hq := Option.some.inj h
   subst hq
   exact eR (by kernel_rfl) (by kernel_rfl)

theorem table_Table_Len_m0.ok (O : Out) (hO : GOkE O) (k : Nat) (a0 : List T_load_Rule) (a1 : List Int) (out : Int) (h : table_Table_Len_m0.f k a0 a1 = some out) : COk Un O Tryz.prog 11 { ar := [.loc 100000 0], r := .p I6 out, bs := [(100000, .box [.vec 100001 7 0 a0.length, .vec 100002 1 0 a1.length]), (100001, .row 62 (.named 3) a0 false), (100002, .row 3 I6 a1 false)], bs' := [(100000, .box [.vec 100001 7 0 a0.length, .vec 100002 1 0 a1.length]), (100001, .row 62 (.named 3) a0 false), (100002, .row 3 I6 a1 false)] } := by
 refine cok_of_wp Tryz.func11 rfl (k := 8) rfl (Nat.le_of_ble_eq_true rfl) (namesOk_of (by kernel_rfl)) ?_
 intro B hN
 refine WpC.conv (cvK (b := ⟨[(0, .loc 100000 0)], [(100000, .box [.vec 100001 7 0 a0.length, .vec 100002 1 0 a1.length]), (100001, .row 62 (.named 3) a0 false), (100002, .row 3 I6 a1 false)]⟩) [0] [100000, 100001, 100002] (by kernel_rfl)) ?_
 unfold table_Table_Len_m0.f at h
 refine WpC.seq ?_
 refine rS {} [0] [100000, 100001, 100002] hN (by kernel_rfl) (by kernel_rfl) ?_
 refine tnU ?_
 refine WpC.seq ?_
 refine rS {} [2] [100000, 100001, 100002] hN (by kernel_rfl) (by kernel_rfl) ?_
 refine tnU ?_
 refine WpC.ret ?_
 have hq := Option.some.inj h
 subst hq
 exact eR (by kernel_rfl) (by kernel_rfl)

theorem inst_All_m0.ok (O : Out) (hO : GOkE O) (k : Nat) (a0 : List T_load_Rule) (a1 : List Int) (a2 : List UInt8) (out : (List T_inst_Inst) × Nat) (h : inst_All_m0.f k a0 a1 a2 = some out) : COk Un O Tryz.prog 9 { ar := [.loc 100000 0, .p .str a2], r := .tup [.p (.list (.named 5)) out.1, .p .err out.2], bs := [(100000, .box [.vec 100001 7 0 a0.length, .vec 100002 1 0 a1.length]), (100001, .row 62 (.named 3) a0 false), (100002, .row 3 I6 a1 false)], bs' := [(100000, .box [.vec 100001 7 0 a0.length, .vec 100002 1 0 a1.length]), (100001, .row 62 (.named 3) a0 false), (100002, .row 3 I6 a1 false)] } := by
 refine cok_of_wp Tryz.func9 rfl (k := 34) rfl (Nat.le_of_ble_eq_true rfl) (namesOk_of (by kernel_rfl)) ?_
 intro B hN
 refine WpC.conv (cvK (b := ⟨[(0, .loc 100000 0), (1, .p .str a2)], [(100000, .box [.vec 100001 7 0 a0.length, .vec 100002 1 0 a1.length]), (100001, .row 62 (.named 3) a0 false), (100002, .row 3 I6 a1 false)]⟩) [0, 1] [100000, 100001, 100002] (by kernel_rfl)) ?_
 unfold inst_All_m0.f at h
 refine WpC.seq ?_
 refine rS {} [0, 1] [100000, 100001, 100002] hN (by kernel_rfl) (by kernel_rfl) ?_
 refine tnU ?_
 refine WpC.seq ?_
 refine rS {} [0, 1, 6] [100000, 100001, 100002] hN (by kernel_rfl) (by kernel_rfl) ?_
 refine tnU ?_
 refine sqJ (fun st' => ∃ v1 : List T_inst_Inst, inst_All_m0.j2 k a0 a1 v1 = some out ∧ st' = ⟨[(6, .vec 1006 5 0 v1.length)], [(1006, .row 36 (.named 5) v1 false), (100000, .box [.vec 100001 7 0 a0.length, .vec 100002 1 0 a1.length]), (100001, .row 62 (.named 3) a0 false), (100002, .row 3 I6 a1 false)]⟩) ?_ ?_
 ·refine WpC.seq ?_
  obtain ⟨v3, hv3, h⟩ := bind_some h
  refine rS { its := [(1, .c (COk.ren (table_Table_Len_m0.ok O hO k a0 a1 v3 hv3) (fun n => if n = 100000 then 100000 else if n = 100001 then 100001 else if n = 100002 then 100002 else n) (injOn_of (by kernel_rfl))))] } [0, 1, 6, 12, 13] [100000, 100001, 100002] hN (by kernel_rfl) (by kernel_rfl) ?_
  refine tnU ?_
  refine WpC.block ?_
  obtain ⟨o8, hlo8, h⟩ := bind_some h
  have hout9 := h
  clear h
  refine WpC.conv (cS [.th 6 1006 36 (.named 5), .k [0, 1, 6, 12, 13] [1006, 100000, 100001, 100002]] (by kernel_rfl) (by kernel_rfl)) ?_
  refine WpC.loop (U := Un) (fun n st' => ∃ v4 : List T_inst_Inst, ∃ v5 : Int, inst_All_m0.l6 k a0 a1 a2 v3 n v4 v5 = some o8 ∧ st' = ⟨[(0, .loc 100000 0), (1, .p .str a2), (6, .vec 1006 5 0 v4.length), (12, .p I6 v3), (13, .p I6 v5)], [(1006, .row 36 (.named 5) v4 false), (100000, .box [.vec 100001 7 0 a0.length, .vec 100002 1 0 a1.length]), (100001, .row 62 (.named 3) a0 false), (100002, .row 3 I6 a1 false)]⟩) k ⟨[], 0, hlo8, by kernel_rfl⟩ ?_
  clear hlo8
  rintro (_ | n) _ ⟨v4, v5, h, rfl⟩
  ·cases h
  ·rw [inst_All_m0.l6] at h
   refine WpC.seq ?_
   refine rS {} [0, 1, 6, 12, 13, 14] [1006, 100000, 100001, 100002] hN (by kernel_rfl) (by kernel_rfl) ?_
   refine tnU ?_
   refine WpC.seq ?_
   refine tS (b := (decide (v5 < v3))) (by kernel_rfl) (fun hc10 => ?_) (fun hc10 => ?_)
   ·replace h := ite_t hc10 h
    refine WpC.conv (cS [.k [0, 1, 6, 12, 13] [1006, 100000, 100001, 100002]] (by kernel_rfl) (by kernel_rfl)) (WpC.skip ?_)
    refine tnU ?_
    refine sqJ (fun st' => ∃ v11 : List T_inst_Inst, inst_All_m0.j12 k (inst_All_m0.l6 k a0 a1 a2 v3 n) a0 a1 a2 v3 v5 v11 = some o8 ∧ st' = ⟨[(0, .loc 100000 0), (1, .p .str a2), (6, .vec 1006 5 0 v11.length), (12, .p I6 v3), (13, .p I6 v5)], [(1006, .row 36 (.named 5) v11 false), (100000, .box [.vec 100001 7 0 a0.length, .vec 100002 1 0 a1.length]), (100001, .row 62 (.named 3) a0 false), (100002, .row 3 I6 a1 false)]⟩) ?_ ?_
    ·refine WpC.block ?_
     refine WpC.seq ?_
     refine rS {} [0, 1, 6, 7, 12, 13] [1006, 100000, 100001, 100002] hN (by kernel_rfl) (by kernel_rfl) ?_
     refine tnU ?_
     refine WpC.seq ?_
     obtain ⟨v13, hv13, h⟩ := bind_some h
     refine rS { its := [(3, .c (COk.ren (inst_At_m0.ok O hO k a0 a1 v5 a2 v13 hv13) (fun n => if n = 100000 then 100000 else if n = 100001 then 100001 else if n = 100002 then 100002 else n) (injOn_of (by kernel_rfl))))], th := [(8, [(3, 10001, 9, .str)])] } [0, 1, 6, 8, 9, 10, 12, 13] [8, 1006, 100000, 100001, 100002] hN (by kernel_rfl) (by kernel_rfl) ?_
     refine tnU ?_
     refine WpC.seq ?_
     refine WpC.seq ?_
     refine rS {} [0, 1, 6, 8, 9, 10, 12, 13, 25] [8, 1006, 100000, 100001, 100002] hN (by kernel_rfl) (by kernel_rfl) ?_
     refine tnU ?_
     refine tS (b := (!(v13.2.2 == 0))) (by kernel_rfl) (fun hc14 => ?_) (fun hc14 => ?_)
     ·replace h := ite_t hc14 h
      refine WpC.seq ?_
      refine rS {} [4, 5] [100000, 100001, 100002] hN (by kernel_rfl) (by kernel_rfl) ?_
      refine tnU ?_
      refine WpC.conv (cS [.nL 4 (.named 5), .k [4, 5] [100000, 100001, 100002]] (by kernel_rfl) (by kernel_rfl)) (WpC.ret ?_)
      refine thenQ_ret ?_
      refine blockQ_ret ?_
      refine thenQ_ret ?_
      have hq := Option.some.inj h
      subst hq
      refine thenQ_ret ?_
      have h := hout9
      refine blockQ_ret ?_
      refine thenQ_ret ?_
      have hq := Option.some.inj h
      subst hq
      exact eR (by kernel_rfl) (by kernel_rfl)
     ·replace h := ite_f hc14 h
      refine WpC.conv (cS [.k [0, 1, 6, 8, 9, 12, 13] [8, 1006, 100000, 100001, 100002]] (by kernel_rfl) (by kernel_rfl)) (WpC.skip ?_)
      refine tnU ?_
      refine WpC.seq ?_
      refine rS {} [0, 1, 6, 8, 12, 13, 27] [8, 1006, 100000, 100001, 100002] hN (by kernel_rfl) (by kernel_rfl) ?_
      refine tnU ?_
      refine tS (b := v13.2.1) (by kernel_rfl) (fun hc15 => ?_) (fun hc15 => ?_)
      ·replace h := ite_t hc15 h
       obtain ⟨g16, h⟩ := if_some h
       refine rSC { its := [(3, .g g16)] } [0, 1, 6, 12, 13] [31, 100000, 100001, 100002] hN (by kernel_rfl) (by kernel_rfl) (cS [.rn 31 1006, .k [0, 1, 6, 12, 13] [1006, 100000, 100001, 100002]] (by kernel_rfl) (by kernel_rfl)) ?_
       refine blockQ_normal ?_
       refine tnU ?_
       exact ⟨(v4 ++ [(T_inst_Inst.mk v13.1.f_Rule v13.1.f_Stem v13.1.f_Subs v13.1.f_Targets v13.1.f_Prereqs)]), h, by kernel_rfl⟩
      ·replace h := ite_f hc15 h
       refine WpC.conv (cS [.k [0, 1, 6, 12, 13] [1006, 100000, 100001, 100002]] (by kernel_rfl) (by kernel_rfl)) (WpC.skip ?_)
       refine blockQ_normal ?_
       refine tnU ?_
       exact ⟨v4, h, by kernel_rfl⟩
    ·rintro _ ⟨v11, h, rfl⟩
     unfold inst_All_m0.j12 at h
     refine rS {} [0, 1, 6, 12, 13] [1006, 100000, 100001, 100002] hN (by kernel_rfl) (by kernel_rfl) ?_
     refine tnU ?_
     exact ⟨n, Nat.lt_succ_self n, v11, (IntKind.i64.wrap (v5 + 1)), h, by kernel_rfl⟩
   ·replace h := ite_f hc10 h
    refine WpC.conv (cS [.k [6] [1006, 100000, 100001, 100002]] (by kernel_rfl) (by kernel_rfl)) (WpC.exit ?_)
    refine thenQ_exit ?_
    have hq := Option.some.inj h
    subst hq
    refine thenQ_exit ?_
    have h := hout9
    refine blockQ_hit ?_
    refine tnU ?_
    exact ⟨v4, h, by kernel_rfl⟩
 ·rintro _ ⟨v1, h, rfl⟩
  unfold inst_All_m0.j2 at h
  refine WpC.seq ?_
  refine rS {} [4, 5] [1006, 100000, 100001, 100002] hN (by kernel_rfl) (by kernel_rfl) ?_
  refine tnU ?_
  refine WpC.conv (cS [.fz 4, .k [4, 5] [100000, 100001, 100002], .nE 5, .k [4, 5] [100000, 100001, 100002]] (by kernel_rfl) (by kernel_rfl)) (WpC.ret ?_)
  have hq := Option.some.inj h
  subst hq
  exact eR (by kernel_rfl) (by kernel_rfl)

theorem millwrightnum_all.ok (O : Out) (hO : GOkE O) (k : Nat) (out : List Nat) (h : millwrightnum_all.f k = some out) : COk Un O Tryz.prog 43 { ar := [], r := .p (.list .err) out } := by
 refine cok_of_wp Tryz.func43 rfl (k := 20) rfl (Nat.le_of_ble_eq_true rfl) (namesOk_pure rfl rfl rfl rfl) ?_
 intro B hN
 refine WpC.conv (cvK (b := ⟨[], []⟩) [] [] (by kernel_rfl)) ?_
 unfold millwrightnum_all.f at h
 refine WpC.seq ?_
 refine rS {} [] [] hN (by kernel_rfl) (by kernel_rfl) ?_
 refine tnU ?_
 refine WpC.seq ?_
 refine rS { its := [(0, .e 0 (sok_loadG (U := Un) (t := .err) (rs := []) rfl rfl ty_27 rfl rfl (hO.var 0 2 rfl) (fun S w => .err 0))), (1, .e 1 (sok_loadG (U := Un) (t := .err) (rs := []) rfl rfl ty_27 rfl rfl (hO.var 1 3 rfl) (fun S w => .err 1))), (2, .e 2 (sok_loadG (U := Un) (t := .err) (rs := []) rfl rfl ty_27 rfl rfl (hO.var 2 4 rfl) (fun S w => .err 2))), (3, .e 3 (sok_loadG (U := Un) (t := .err) (rs := []) rfl rfl ty_27 rfl rfl (hO.var 3 0 rfl) (fun S w => .err 3))), (4, .e 4 (sok_loadG (U := Un) (t := .err) (rs := []) rfl rfl ty_27 rfl rfl (hO.var 4 5 rfl) (fun S w => .err 4))), (5, .e 5 (sok_loadG (U := Un) (t := .err) (rs := []) rfl rfl ty_27 rfl rfl (hO.var 5 6 rfl) (fun S w => .err 5))), (6, .e 6 (sok_loadG (U := Un) (t := .err) (rs := []) rfl rfl ty_27 rfl rfl (hO.var 6 7 rfl) (fun S w => .err 6))), (7, .e 7 (sok_loadG (U := Un) (t := .err) (rs := []) rfl rfl ty_27 rfl rfl (hO.var 7 8 rfl) (fun S w => .err 7))), (8, .e 8 (sok_loadG (U := Un) (t := .err) (rs := []) rfl rfl ty_27 rfl rfl (hO.var 8 9 rfl) (fun S w => .err 8))), (9, .e 9 (sok_loadG (U := Un) (t := .err) (rs := []) rfl rfl ty_27 rfl rfl (hO.var 9 1 rfl) (fun S w => .err 9))), (10, .e 10 (sok_loadG (U := Un) (t := .err) (rs := []) rfl rfl ty_27 rfl rfl (hO.var 10 10 rfl) (fun S w => .err 10))), (11, .e 11 (sok_loadG (U := Un) (t := .err) (rs := []) rfl rfl ty_27 rfl rfl (hO.var 11 11 rfl) (fun S w => .err 11))), (12, .e 12 (sok_loadG (U := Un) (t := .err) (rs := []) rfl rfl ty_27 rfl rfl (hO.var 12 12 rfl) (fun S w => .err 12))), (13, .e 13 (sok_loadG (U := Un) (t := .err) (rs := []) rfl rfl ty_27 rfl rfl (hO.var 13 13 rfl) (fun S w => .err 13))), (14, .e 14 (sok_loadG (U := Un) (t := .err) (rs := []) rfl rfl ty_27 rfl rfl (hO.var 14 14 rfl) (fun S w => .err 14))), (15, .e 15 (sok_loadG (U := Un) (t := .err) (rs := []) rfl rfl ty_27 rfl rfl (hO.var 15 15 rfl) (fun S w => .err 15))), (16, .e 16 (sok_loadG (U := Un) (t := .err) (rs := []) rfl rfl ty_27 rfl rfl (hO.var 16 16 rfl) (fun S w => .err 16))), (17, .e 17 (sok_loadG (U := Un) (t := .err) (rs := []) rfl rfl ty_27 rfl rfl (hO.var 17 17 rfl) (fun S w => .err 17)))] } [0] [19] hN (by kernel_rfl) (by kernel_rfl) ?_
 refine tnU ?_
 refine WpC.conv (cS [.fz 0, .k [0] []] (by kernel_rfl) (by kernel_rfl)) (WpC.ret ?_)
 have hq := Option.some.inj h
 subst hq
 exact eR (by kernel_rfl) (by kernel_rfl)

theorem millwrightnum_Num.ok (O : Out) (hO : GOkE O) (k : Nat) (a0 : Nat) (out : Int) (h : millwrightnum_Num.f k a0 = some out) : COk Un O Tryz.prog 10 { ar := [.p .err a0], r := .p I6 out } := by
 refine cok_of_wp Tryz.func10 rfl (k := 20) rfl (Nat.le_of_ble_eq_true rfl) (namesOk_pure rfl rfl rfl rfl) ?_
 intro B hN
 refine WpC.conv (cvK (b := ⟨[(0, .p .err a0)], []⟩) [0] [] (by kernel_rfl)) ?_
 unfold millwrightnum_Num.f at h
 refine WpC.seq ?_
 refine rS {} [0] [] hN (by kernel_rfl) (by kernel_rfl) ?_
 refine tnU ?_
 refine WpC.seq ?_
 refine WpC.seq ?_
 refine rS {} [0, 6] [] hN (by kernel_rfl) (by kernel_rfl) ?_
 refine tnU ?_
 refine tS (b := (a0 == 0)) (by kernel_rfl) (fun hc1 => ?_) (fun hc1 => ?_)
 ·replace h := ite_t hc1 h
  refine WpC.seq ?_
  refine rS {} [2] [] hN (by kernel_rfl) (by kernel_rfl) ?_
  refine tnU ?_
  refine WpC.ret ?_
  refine thenQ_ret ?_
  have hq := Option.some.inj h
  subst hq
  exact eR (by kernel_rfl) (by kernel_rfl)
 ·replace h := ite_f hc1 h
  refine WpC.conv (cS [.k [0] []] (by kernel_rfl) (by kernel_rfl)) (WpC.skip ?_)
  refine tnU ?_
  refine sqJ (fun st' => millwrightnum_Num.j2 k = some out ∧ st' = ⟨[], []⟩) ?_ ?_
  ·refine WpC.seq ?_
   obtain ⟨v3, hv3, h⟩ := bind_some h
   refine rS { its := [(0, .c (millwrightnum_all.ok O hO k v3 hv3))] } [0, 7, 8, 9] [] hN (by kernel_rfl) (by kernel_rfl) ?_
   refine tnU ?_
   refine WpC.block ?_
   obtain ⟨o6, hlo6, h⟩ := bind_some h
   have hout7 := h
   clear h
   refine WpC.loop (U := Un) (fun n st' => ∃ v4 : Int, millwrightnum_Num.l5 k a0 v3 n v4 = some o6 ∧ st' = ⟨[(0, .p .err a0), (7, .p (.list .err) v3), (8, .p I6 ((v3.length : Int) : Int)), (9, .p I6 v4)], []⟩) k ⟨0, hlo6, by kernel_rfl⟩ ?_
   clear hlo6
   rintro (_ | n) _ ⟨v4, h, rfl⟩
   ·cases h
   ·rw [millwrightnum_Num.l5] at h
    refine WpC.seq ?_
    refine rS {} [0, 7, 8, 9, 10] [] hN (by kernel_rfl) (by kernel_rfl) ?_
    refine tnU ?_
    refine WpC.seq ?_
    refine tS (b := (decide (v4 < (v3.length : Int)))) (by kernel_rfl) (fun hc8 => ?_) (fun hc8 => ?_)
    ·replace h := ite_t hc8 h
     refine WpC.conv (cS [.k [0, 7, 8, 9] []] (by kernel_rfl) (by kernel_rfl)) (WpC.skip ?_)
     refine tnU ?_
     refine WpC.seq ?_
     refine WpC.block ?_
     refine WpC.seq ?_
     obtain ⟨v9, hv9, h⟩ := bind_some h
     refine rS { its := [(1, .v .err hv9)] } [0, 3, 4, 7, 8, 9] [] hN (by kernel_rfl) (by kernel_rfl) ?_
     refine tnU ?_
     refine WpC.seq ?_
     obtain ⟨v10, hv10, h⟩ := bind_some h
     refine rS { its := [(2, .c (pIs.ok O hO k a0 v9 v10 hv10))] } [0, 3, 7, 8, 9, 16] [] hN (by kernel_rfl) (by kernel_rfl) ?_
     refine tnU ?_
     refine tS (b := v10) (by kernel_rfl) (fun hc11 => ?_) (fun hc11 => ?_)
     ·replace h := ite_t hc11 h
      refine WpC.seq ?_
      refine rS {} [2] [] hN (by kernel_rfl) (by kernel_rfl) ?_
      refine tnU ?_
      refine WpC.ret ?_
      refine blockQ_ret ?_
      refine thenQ_ret ?_
      have hq := Option.some.inj h
      subst hq
      refine thenQ_ret ?_
      have h := hout7
      refine blockQ_ret ?_
      refine thenQ_ret ?_
      have hq := Option.some.inj h
      subst hq
      exact eR (by kernel_rfl) (by kernel_rfl)
     ·replace h := ite_f hc11 h
      refine WpC.conv (cS [.k [0, 7, 8, 9] []] (by kernel_rfl) (by kernel_rfl)) (WpC.skip ?_)
      refine blockQ_normal ?_
      refine tnU ?_
      refine rS {} [0, 7, 8, 9] [] hN (by kernel_rfl) (by kernel_rfl) ?_
      refine tnU ?_
      exact ⟨n, Nat.lt_succ_self n, (IntKind.i64.wrap (v4 + 1)), h, by kernel_rfl⟩
    ·replace h := ite_f hc8 h
     refine WpC.conv (cS [.k [] []] (by kernel_rfl) (by kernel_rfl)) (WpC.exit ?_)
     refine thenQ_exit ?_
     have hq := Option.some.inj h
     subst hq
     refine thenQ_exit ?_
     have h := hout7
     refine blockQ_hit ?_
     refine tnU ?_
     exact ⟨h, by kernel_rfl⟩
  ·rintro _ ⟨h, rfl⟩
   unfold millwrightnum_Num.j2 at h
   refine WpC.seq ?_
   refine rS {} [2] [] hN (by kernel_rfl) (by kernel_rfl) ?_
   refine tnU ?_
   refine WpC.ret ?_
   have hq := Option.some.inj h
   subst hq
   exact eR (by kernel_rfl) (by kernel_rfl)

theorem millwrightnum_Has.ok (O : Out) (hO : GOkE O) (k : Nat) (a0 : List (List UInt8)) (a1 : List UInt8) (out : Bool) (h : millwrightnum_Has.f k a0 a1 = some out) : COk Un O Tryz.prog 12 { ar := [.p (.list .str) a0, .p .str a1], r := .p .bool out } := by
 refine cok_of_wp Tryz.func12 rfl (k := 17) rfl (Nat.le_of_ble_eq_true rfl) (namesOk_pure rfl rfl rfl rfl) ?_
 intro B hN
 refine WpC.conv (cvK (b := ⟨[(0, .p (.list .str) a0), (1, .p .str a1)], []⟩) [0, 1] [] (by kernel_rfl)) ?_
 unfold millwrightnum_Has.f at h
 refine WpC.seq ?_
 refine rS {} [0, 1] [] hN (by kernel_rfl) (by kernel_rfl) ?_
 refine tnU ?_
 refine sqJ (fun st' => millwrightnum_Has.j1 k = some out ∧ st' = ⟨[], []⟩) ?_ ?_
 ·refine WpC.seq ?_
  refine rS {} [1, 7, 8, 9] [] hN (by kernel_rfl) (by kernel_rfl) ?_
  refine tnU ?_
  refine WpC.block ?_
  obtain ⟨o4, hlo4, h⟩ := bind_some h
  have hout5 := h
  clear h
  refine WpC.loop (U := Un) (fun n st' => ∃ v2 : Int, millwrightnum_Has.l3 k a0 a1 n v2 = some o4 ∧ st' = ⟨[(1, .p .str a1), (7, .p (.list .str) a0), (8, .p I6 ((a0.length : Int) : Int)), (9, .p I6 v2)], []⟩) k ⟨0, hlo4, by kernel_rfl⟩ ?_
  clear hlo4
  rintro (_ | n) _ ⟨v2, h, rfl⟩
  ·cases h
  ·rw [millwrightnum_Has.l3] at h
   refine WpC.seq ?_
   refine rS {} [1, 7, 8, 9, 10] [] hN (by kernel_rfl) (by kernel_rfl) ?_
   refine tnU ?_
   refine WpC.seq ?_
   refine tS (b := (decide (v2 < (a0.length : Int)))) (by kernel_rfl) (fun hc6 => ?_) (fun hc6 => ?_)
   ·replace h := ite_t hc6 h
    refine WpC.conv (cS [.k [1, 7, 8, 9] []] (by kernel_rfl) (by kernel_rfl)) (WpC.skip ?_)
    refine tnU ?_
    refine WpC.seq ?_
    refine WpC.block ?_
    refine WpC.seq ?_
    obtain ⟨v7, hv7, h⟩ := bind_some h
    refine rS { its := [(0, .v .str hv7)] } [1, 6, 7, 8, 9] [] hN (by kernel_rfl) (by kernel_rfl) ?_
    refine tnU ?_
    refine WpC.seq ?_
    refine rS {} [1, 7, 8, 9, 15] [] hN (by kernel_rfl) (by kernel_rfl) ?_
    refine tnU ?_
    refine tS (b := (v7 == a1)) (by kernel_rfl) (fun hc8 => ?_) (fun hc8 => ?_)
    ·replace h := ite_t hc8 h
     refine WpC.seq ?_
     refine rS {} [4] [] hN (by kernel_rfl) (by kernel_rfl) ?_
     refine tnU ?_
     refine WpC.ret ?_
     refine blockQ_ret ?_
     refine thenQ_ret ?_
     have hq := Option.some.inj h
     subst hq
     refine thenQ_ret ?_
     have h := hout5
     refine blockQ_ret ?_
     refine thenQ_ret ?_
     have hq := Option.some.inj h
     subst hq
     exact eR (by kernel_rfl) (by kernel_rfl)
    ·replace h := ite_f hc8 h
     refine WpC.conv (cS [.k [1, 7, 8, 9] []] (by kernel_rfl) (by kernel_rfl)) (WpC.skip ?_)
     refine blockQ_normal ?_
     refine tnU ?_
     refine rS {} [1, 7, 8, 9] [] hN (by kernel_rfl) (by kernel_rfl) ?_
     refine tnU ?_
     exact ⟨n, Nat.lt_succ_self n, (IntKind.i64.wrap (v2 + 1)), h, by kernel_rfl⟩
   ·replace h := ite_f hc6 h
    refine WpC.conv (cS [.k [] []] (by kernel_rfl) (by kernel_rfl)) (WpC.exit ?_)
    refine thenQ_exit ?_
    have hq := Option.some.inj h
    subst hq
    refine thenQ_exit ?_
    have h := hout5
    refine blockQ_hit ?_
    refine tnU ?_
    exact ⟨h, by kernel_rfl⟩
 ·rintro _ ⟨h, rfl⟩
  unfold millwrightnum_Has.j1 at h
  refine WpC.seq ?_
  refine rS {} [4] [] hN (by kernel_rfl) (by kernel_rfl) ?_
  refine tnU ?_
  refine WpC.ret ?_
  have hq := Option.some.inj h
  subst hq
  exact eR (by kernel_rfl) (by kernel_rfl)

theorem millwrightlaw22_once.ok (O : Out) (hO : GOkE O) (k : Nat) (a0 : List (List UInt8)) (out : Bool) (h : millwrightlaw22_once.f k a0 = some out) : COk Un O Tryz.prog 13 { ar := [.p (.list .str) a0], r := .p .bool out } := by
 refine cok_of_wp Tryz.func13 rfl (k := 27) rfl (Nat.le_of_ble_eq_true rfl) (namesOk_pure rfl rfl rfl rfl) ?_
 intro B hN
 refine WpC.conv (cvK (b := ⟨[(0, .p (.list .str) a0)], []⟩) [0] [] (by kernel_rfl)) ?_
 unfold millwrightlaw22_once.f at h
 refine WpC.seq ?_
 refine rS {} [0] [] hN (by kernel_rfl) (by kernel_rfl) ?_
 refine tnU ?_
 refine sqJ (fun st' => millwrightlaw22_once.j1 k = some out ∧ st' = ⟨[], []⟩) ?_ ?_
 ·refine WpC.seq ?_
  refine rS {} [0, 7, 8, 9] [] hN (by kernel_rfl) (by kernel_rfl) ?_
  refine tnU ?_
  refine WpC.block ?_
  obtain ⟨o4, hlo4, h⟩ := bind_some h
  have hout5 := h
  clear h
  refine WpC.loop (U := Un) (fun n st' => ∃ v2 : Int, millwrightlaw22_once.l3 k a0 n v2 = some o4 ∧ st' = ⟨[(0, .p (.list .str) a0), (7, .p (.list .str) a0), (8, .p I6 ((a0.length : Int) : Int)), (9, .p I6 v2)], []⟩) k ⟨0, hlo4, by kernel_rfl⟩ ?_
  clear hlo4
  rintro (_ | n) _ ⟨v2, h, rfl⟩
  ·cases h
  ·rw [millwrightlaw22_once.l3] at h
   refine WpC.seq ?_
   refine rS {} [0, 7, 8, 9, 10] [] hN (by kernel_rfl) (by kernel_rfl) ?_
   refine tnU ?_
   refine WpC.seq ?_
   refine tS (b := (decide (v2 < (a0.length : Int)))) (by kernel_rfl) (fun hc6 => ?_) (fun hc6 => ?_)
   ·replace h := ite_t hc6 h
    refine WpC.conv (cS [.k [0, 7, 8, 9] []] (by kernel_rfl) (by kernel_rfl)) (WpC.skip ?_)
    refine tnU ?_
    refine sqJ (fun st' => millwrightlaw22_once.j7 k (millwrightlaw22_once.l3 k a0 n) a0 v2 = some o4 ∧ st' = ⟨[(0, .p (.list .str) a0), (7, .p (.list .str) a0), (8, .p I6 ((a0.length : Int) : Int)), (9, .p I6 v2)], []⟩) ?_ ?_
    ·refine WpC.block ?_
     refine WpC.seq ?_
     obtain ⟨v8, hv8, h⟩ := bind_some h
     refine rS { its := [(1, .v .str hv8)] } [0, 3, 4, 7, 8, 9] [] hN (by kernel_rfl) (by kernel_rfl) ?_
     refine tnU ?_
     refine WpC.seq ?_
     obtain ⟨v9, hv9, h⟩ := bind_some h
     refine rS { its := [(2, .v (.list .str) hv9)] } [0, 4, 7, 8, 9, 16, 17, 18] [] hN (by kernel_rfl) (by kernel_rfl) ?_
     refine tnU ?_
     refine WpC.block ?_
     obtain ⟨o12, hlo12, h⟩ := bind_some h
     have hout13 := h
     clear h
     refine WpC.loop (U := Un) (fun n st' => ∃ v10 : Int, millwrightlaw22_once.l11 k a0 v2 v8 v9 n v10 = some o12 ∧ st' = ⟨[(0, .p (.list .str) a0), (4, .p .str v8), (7, .p (.list .str) a0), (8, .p I6 ((a0.length : Int) : Int)), (9, .p I6 v2), (16, .p (.list .str) v9), (17, .p I6 ((v9.length : Int) : Int)), (18, .p I6 v10)], []⟩) k ⟨0, hlo12, by kernel_rfl⟩ ?_
     clear hlo12
     rintro (_ | n) _ ⟨v10, h, rfl⟩
     ·cases h
     ·rw [millwrightlaw22_once.l11] at h
      refine WpC.seq ?_
      refine rS {} [0, 4, 7, 8, 9, 16, 17, 18, 19] [] hN (by kernel_rfl) (by kernel_rfl) ?_
      refine tnU ?_
      refine WpC.seq ?_
      refine tS (b := (decide (v10 < (v9.length : Int)))) (by kernel_rfl) (fun hc14 => ?_) (fun hc14 => ?_)
      ·replace h := ite_t hc14 h
       refine WpC.conv (cS [.k [0, 4, 7, 8, 9, 16, 17, 18] []] (by kernel_rfl) (by kernel_rfl)) (WpC.skip ?_)
       refine tnU ?_
       refine WpC.seq ?_
       refine WpC.block ?_
       refine WpC.seq ?_
       obtain ⟨v15, hv15, h⟩ := bind_some h
       refine rS { its := [(0, .v .str hv15)] } [0, 4, 6, 7, 8, 9, 16, 17, 18] [] hN (by kernel_rfl) (by kernel_rfl) ?_
       refine tnU ?_
       refine WpC.seq ?_
       refine rS {} [0, 4, 7, 8, 9, 16, 17, 18, 24] [] hN (by kernel_rfl) (by kernel_rfl) ?_
       refine tnU ?_
       refine tS (b := (v8 == v15)) (by kernel_rfl) (fun hc16 => ?_) (fun hc16 => ?_)
       ·replace h := ite_t hc16 h
        refine WpC.seq ?_
        refine rS {} [2] [] hN (by kernel_rfl) (by kernel_rfl) ?_
        refine tnU ?_
        refine WpC.ret ?_
        refine blockQ_ret ?_
        refine thenQ_ret ?_
        have hq := Option.some.inj h
        subst hq
        refine thenQ_ret ?_
        have h := hout13
        refine blockQ_ret ?_
        refine blockQ_ret ?_
        refine thenQ_ret ?_
        have hq := Option.some.inj h
        subst hq
        refine thenQ_ret ?_
        have h := hout5
        refine blockQ_ret ?_
        refine thenQ_ret ?_
        have hq := Option.some.inj h
        subst hq
        exact eR (by kernel_rfl) (by kernel_rfl)
       ·replace h := ite_f hc16 h
        refine WpC.conv (cS [.k [0, 4, 7, 8, 9, 16, 17, 18] []] (by kernel_rfl) (by kernel_rfl)) (WpC.skip ?_)
        refine blockQ_normal ?_
        refine tnU ?_
        refine rS {} [0, 4, 7, 8, 9, 16, 17, 18] [] hN (by kernel_rfl) (by kernel_rfl) ?_
        refine tnU ?_
        exact ⟨n, Nat.lt_succ_self n, (IntKind.i64.wrap (v10 + 1)), h, by kernel_rfl⟩
      ·replace h := ite_f hc14 h
       refine WpC.conv (cS [.k [0, 7, 8, 9] []] (by kernel_rfl) (by kernel_rfl)) (WpC.exit ?_)
       refine thenQ_exit ?_
       have hq := Option.some.inj h
       subst hq
       refine thenQ_exit ?_
       have h := hout13
       refine blockQ_hit ?_
       refine blockQ_normal ?_
       refine tnU ?_
       exact ⟨h, by kernel_rfl⟩
    ·rintro _ ⟨h, rfl⟩
     unfold millwrightlaw22_once.j7 at h
     refine rS {} [0, 7, 8, 9] [] hN (by kernel_rfl) (by kernel_rfl) ?_
     refine tnU ?_
     exact ⟨n, Nat.lt_succ_self n, (IntKind.i64.wrap (v2 + 1)), h, by kernel_rfl⟩
   ·replace h := ite_f hc6 h
    refine WpC.conv (cS [.k [] []] (by kernel_rfl) (by kernel_rfl)) (WpC.exit ?_)
    refine thenQ_exit ?_
    have hq := Option.some.inj h
    subst hq
    refine thenQ_exit ?_
    have h := hout5
    refine blockQ_hit ?_
    refine tnU ?_
    exact ⟨h, by kernel_rfl⟩
 ·rintro _ ⟨h, rfl⟩
  unfold millwrightlaw22_once.j1 at h
  refine WpC.seq ?_
  refine rS {} [2] [] hN (by kernel_rfl) (by kernel_rfl) ?_
  refine tnU ?_
  refine WpC.ret ?_
  have hq := Option.some.inj h
  subst hq
  exact eR (by kernel_rfl) (by kernel_rfl)

theorem millwrightlaw22_InstOwn.ok (O : Out) (hO : GOkE O) (k : Nat) (a0 : List T_load_Rule) (a1 : List UInt8) (out : Bool) (h : millwrightlaw22_InstOwn.f k a0 a1 = some out) : COk Un O Tryz.prog 3 { ar := [.p (.list (.named 3)) a0, .p .str a1], r := .p .bool out } := by
 refine cok_of_wp Tryz.func3 rfl (k := 107) rfl (Nat.le_of_ble_eq_true rfl) (namesOk_pure rfl rfl rfl rfl) ?_
 intro B hN
 refine WpC.conv (cvK (b := ⟨[(0, .p (.list (.named 3)) a0), (1, .p .str a1)], []⟩) [0, 1] [] (by kernel_rfl)) ?_
 unfold millwrightlaw22_InstOwn.f at h
 refine WpC.seq ?_
 refine rS {} [0, 1] [] hN (by kernel_rfl) (by kernel_rfl) ?_
 refine tnU ?_
 refine WpC.seq ?_
 refine WpC.seq ?_
 obtain ⟨v1, hv1, h⟩ := bind_some h
 refine rS { its := [(0, .c (millwrightlaw22_alive.ok O hO k v1 hv1))] } [0, 1, 12] [] hN (by kernel_rfl) (by kernel_rfl) ?_
 refine tnU ?_
 refine tS (b := (!v1)) (by kernel_rfl) (fun hc2 => ?_) (fun hc2 => ?_)
 ·replace h := ite_t hc2 h
  refine WpC.seq ?_
  refine rS {} [4] [] hN (by kernel_rfl) (by kernel_rfl) ?_
  refine tnU ?_
  refine WpC.ret ?_
  refine thenQ_ret ?_
  have hq := Option.some.inj h
  subst hq
  exact eR (by kernel_rfl) (by kernel_rfl)
 ·replace h := ite_f hc2 h
  refine WpC.conv (cS [.k [0, 1] []] (by kernel_rfl) (by kernel_rfl)) (WpC.skip ?_)
  refine tnU ?_
  refine sqJ (fun st' => millwrightlaw22_InstOwn.j44 k a0 a1 = some out ∧ st' = ⟨[(0, .p (.list (.named 3)) a0), (1, .p .str a1)], []⟩) ?_ ?_
  ·refine sqJ (fun st' => ∃ v45 : Bool, millwrightlaw22_InstOwn.j47 k a0 a1 v45 = some out ∧ st' = ⟨[(0, .p (.list (.named 3)) a0), (1, .p .str a1), (19, .p .bool v45)], []⟩) ?_ ?_
   ·obtain ⟨v48, hv48, h⟩ := bind_some h
    rcases bool_cases v48 with hc49 | hc49
    ·replace h := ite_t hc49 h
     refine rS { its := [(1, .c (millwrightlaw21_Long.ok O hO k a0 30 v48 hv48))], kn := [(15, .t hc49)] } [0, 1, 19] [] hN (by kernel_rfl) (by kernel_rfl) ?_
     refine tnU ?_
     exact ⟨true, h, by kernel_rfl⟩
    ·replace h := ite_f hc49 h
     refine rS { its := [(1, .c (millwrightlaw21_Long.ok O hO k a0 30 v48 hv48))], kn := [(15, .f hc49)] } [0, 1, 19] [] hN (by kernel_rfl) (by kernel_rfl) ?_
     refine tnU ?_
     exact ⟨(decide ((a1.length : Int) > 60)), h, by kernel_rfl⟩
   ·rintro _ ⟨v45, h, rfl⟩
    unfold millwrightlaw22_InstOwn.j47 at h
    refine tS (b := v45) (by kernel_rfl) (fun hc46 => ?_) (fun hc46 => ?_)
    ·replace h := ite_t hc46 h
     refine WpC.seq ?_
     refine rS {} [4] [] hN (by kernel_rfl) (by kernel_rfl) ?_
     refine tnU ?_
     refine WpC.ret ?_
     refine thenQ_ret ?_
     have hq := Option.some.inj h
     subst hq
     exact eR (by kernel_rfl) (by kernel_rfl)
    ·replace h := ite_f hc46 h
     refine WpC.conv (cS [.k [0, 1] []] (by kernel_rfl) (by kernel_rfl)) (WpC.skip ?_)
     refine tnU ?_
     exact ⟨h, by kernel_rfl⟩
  ·rintro _ ⟨h, rfl⟩
   unfold millwrightlaw22_InstOwn.j44 at h
   refine WpC.seq ?_
   obtain ⟨v3, hv3, h⟩ := bind_some h
   refine rS { its := [(1, .c (COk.ren (table_New.ok O hO k a0 v3 hv3) (fun n => if n = 60500 then 10001 else if n = 60501 then 10002 else if n = 60502 then 10003 else n) (injOn_of (by kernel_rfl))))] } [1, 5, 6] [10001, 10002, 10003] hN (by kernel_rfl) (by kernel_rfl) ?_
   refine tnU ?_
   refine WpC.seq ?_
   refine WpC.seq ?_
   refine rS {} [1, 5, 26] [10001, 10002, 10003] hN (by kernel_rfl) (by kernel_rfl) ?_
   refine tnU ?_
   refine tS (b := (!(v3.2.2.2 == 0))) (by kernel_rfl) (fun hc4 => ?_) (fun hc4 => ?_)
   ·replace h := ite_t hc4 h
    refine WpC.seq ?_
    refine rS {} [4] [] hN (by kernel_rfl) (by kernel_rfl) ?_
    refine tnU ?_
    refine WpC.ret ?_
    refine thenQ_ret ?_
    have hq := Option.some.inj h
    subst hq
    exact eR (by kernel_rfl) (by kernel_rfl)
   ·replace h := ite_f hc4 h
    refine WpC.conv (cS [.k [1, 5] [10001, 10002, 10003]] (by kernel_rfl) (by kernel_rfl)) (WpC.skip ?_)
    refine tnU ?_
    refine WpC.seq ?_
    obtain ⟨hc5, h⟩ := if_some h
    refine WpC.conv (cS [.oS 5 hc5, .k [1, 5] [10001, 10002, 10003], .oK 10001 hc5, .k [1, 5] [10001, 10002, 10003], .oK 10002 hc5, .k [1, 5] [10001, 10002, 10003], .oK 10003 hc5, .k [1, 5] [10001, 10002, 10003]] (by kernel_rfl) (by kernel_rfl)) ?_
    obtain ⟨v6, hv6, h⟩ := bind_some h
    refine rS { its := [(2, .c (COk.ren (inst_All_m0.ok O hO k v3.2.1 v3.2.2.1 a1 v6 hv6) (fun n => if n = 100000 then 10001 else if n = 100001 then 10002 else if n = 100002 then 10003 else n) (injOn_of (by kernel_rfl))))] } [1, 5, 6, 7] [10001, 10002, 10003] hN (by kernel_rfl) (by kernel_rfl) ?_
    refine tnU ?_
    refine WpC.seq ?_
    refine WpC.seq ?_
    refine rS {} [1, 5, 6, 7, 36] [10001, 10002, 10003] hN (by kernel_rfl) (by kernel_rfl) ?_
    refine tnU ?_
    refine tS (b := (!(v6.2 == 0))) (by kernel_rfl) (fun hc7 => ?_) (fun hc7 => ?_)
    ·replace h := ite_t hc7 h
     refine WpC.seq ?_
     rcases bool_cases ((v6.1.length : Int) == 0) with hc8 | hc8
     ·replace h := ite_t hc8 h
      obtain ⟨v9, hv9, h⟩ := bind_some h
      refine rS { its := [(5, .c (millwrightnum_Num.ok O hO k v6.2 v9 hv9))], kn := [(40, .t hc8)] } [4] [] hN (by kernel_rfl) (by kernel_rfl) ?_
      refine tnU ?_
      refine WpC.ret ?_
      refine thenQ_ret ?_
      have hq := Option.some.inj h
      subst hq
      exact eR (by kernel_rfl) (by kernel_rfl)
     ·replace h := ite_f hc8 h
      refine rS { kn := [(40, .f hc8)] } [4] [] hN (by kernel_rfl) (by kernel_rfl) ?_
      refine tnU ?_
      refine WpC.ret ?_
      refine thenQ_ret ?_
      have hq := Option.some.inj h
      subst hq
      exact eR (by kernel_rfl) (by kernel_rfl)
    ·replace h := ite_f hc7 h
     refine WpC.conv (cS [.k [1, 5, 7] [10001, 10002, 10003]] (by kernel_rfl) (by kernel_rfl)) (WpC.skip ?_)
     refine tnU ?_
     refine WpC.seq ?_
     refine rS {} [1, 5, 7, 8] [10001, 10002, 10003] hN (by kernel_rfl) (by kernel_rfl) ?_
     refine tnU ?_
     refine sqJ (fun st' => millwrightlaw22_InstOwn.j10 k = some out ∧ st' = ⟨[], []⟩) ?_ ?_
     ·refine WpC.seq ?_
      refine rS {} [1, 5, 8, 45, 46, 47] [10001, 10002, 10003] hN (by kernel_rfl) (by kernel_rfl) ?_
      refine tnU ?_
      refine WpC.block ?_
      obtain ⟨o14, hlo14, h⟩ := bind_some h
      have hout15 := h
      clear h
      refine WpC.loop (U := Un) (fun n st' => ∃ v11 : Int, ∃ v12 : Int, millwrightlaw22_InstOwn.l13 k a1 v3 v6 n v11 v12 = some o14 ∧ st' = ⟨[(1, .p .str a1), (5, .loc 10001 0), (8, .p I6 v11), (45, .p (.list (.named 5)) v6.1), (46, .p I6 ((v6.1.length : Int) : Int)), (47, .p I6 v12)], [(10001, .box [.vec 10002 7 0 v3.2.1.length, .vec 10003 1 0 v3.2.2.1.length]), (10002, .row 62 (.named 3) v3.2.1 false), (10003, .row 3 I6 v3.2.2.1 false)]⟩) k ⟨(-1), 0, hlo14, by kernel_rfl⟩ ?_
      clear hlo14
      rintro (_ | n) _ ⟨v11, v12, h, rfl⟩
      ·cases h
      ·rw [millwrightlaw22_InstOwn.l13] at h
       refine WpC.seq ?_
       refine rS {} [1, 5, 8, 45, 46, 47, 48] [10001, 10002, 10003] hN (by kernel_rfl) (by kernel_rfl) ?_
       refine tnU ?_
       refine WpC.seq ?_
       refine tS (b := (decide (v12 < (v6.1.length : Int)))) (by kernel_rfl) (fun hc16 => ?_) (fun hc16 => ?_)
       ·replace h := ite_t hc16 h
        refine WpC.conv (cS [.k [1, 5, 8, 45, 46, 47] [10001, 10002, 10003]] (by kernel_rfl) (by kernel_rfl)) (WpC.skip ?_)
        refine tnU ?_
        refine sqJ (fun st' => ∃ v17 : Int, millwrightlaw22_InstOwn.j18 k (millwrightlaw22_InstOwn.l13 k a1 v3 v6 n) a1 v3 v6 v12 v17 = some o14 ∧ st' = ⟨[(1, .p .str a1), (5, .loc 10001 0), (8, .p I6 v17), (45, .p (.list (.named 5)) v6.1), (46, .p I6 ((v6.1.length : Int) : Int)), (47, .p I6 v12)], [(10001, .box [.vec 10002 7 0 v3.2.1.length, .vec 10003 1 0 v3.2.2.1.length]), (10002, .row 62 (.named 3) v3.2.1 false), (10003, .row 3 I6 v3.2.2.1 false)]⟩) ?_ ?_
        ·refine WpC.block ?_
         refine WpC.seq ?_
         obtain ⟨v19, hv19, h⟩ := bind_some h
         refine rS { its := [(0, .v (.named 5) hv19)], th := [(2, [(3, 10004, 9, .str)])] } [1, 5, 8, 10, 45, 46, 47] [10, 10001, 10002, 10003] hN (by kernel_rfl) (by kernel_rfl) ?_
         refine tnU ?_
         refine sqJ (fun st' => millwrightlaw22_InstOwn.j30 k (millwrightlaw22_InstOwn.l13 k a1 v3 v6 n) a1 v3 v6 v12 v19 = some o14 ∧ st' = ⟨[(1, .p .str a1), (5, .loc 10001 0), (10, .loc 10 0), (45, .p (.list (.named 5)) v6.1), (46, .p I6 ((v6.1.length : Int) : Int)), (47, .p I6 v12)], [(10, .box [.p I6 v19.f_Rule, .p .str v19.f_Stem, .p (.list .str) v19.f_Subs, .p (.list .str) v19.f_Targets, .p (.list .str) v19.f_Prereqs]), (10001, .box [.vec 10002 7 0 v3.2.1.length, .vec 10003 1 0 v3.2.2.1.length]), (10002, .row 62 (.named 3) v3.2.1 false), (10003, .row 3 I6 v3.2.2.1 false)]⟩) ?_ ?_
         ·refine sqJ (fun st' => ∃ v31 : Bool, millwrightlaw22_InstOwn.j33 k (millwrightlaw22_InstOwn.l13 k a1 v3 v6 n) a1 v3 v6 v12 v19 v31 = some o14 ∧ st' = ⟨[(1, .p .str a1), (5, .loc 10001 0), (10, .loc 10 0), (45, .p (.list (.named 5)) v6.1), (46, .p I6 ((v6.1.length : Int) : Int)), (47, .p I6 v12), (80, .p .bool v31)], [(10, .box [.p I6 v19.f_Rule, .p .str v19.f_Stem, .p (.list .str) v19.f_Subs, .p (.list .str) v19.f_Targets, .p (.list .str) v19.f_Prereqs]), (10001, .box [.vec 10002 7 0 v3.2.1.length, .vec 10003 1 0 v3.2.2.1.length]), (10002, .row 62 (.named 3) v3.2.1 false), (10003, .row 3 I6 v3.2.2.1 false)]⟩) ?_ ?_
          ·rcases bool_cases (decide (v19.f_Rule ≤ v11)) with hc34 | hc34
           ·replace h := ite_t hc34 h
            refine rA { kn := [(55, .t hc34)] } [1, 5, 10, 45, 46, 47, 80] [10, 10001, 10002, 10003] hN (by kernel_rfl) (by kernel_rfl) (by kernel_rfl) ?_
            refine tnU ?_
            exact ⟨true, h, by kernel_rfl⟩
           ·replace h := ite_f hc34 h
            obtain ⟨v35, hv35, h⟩ := bind_some h
            rcases bool_cases (decide (v19.f_Rule ≥ v35)) with hc36 | hc36
            ·replace h := ite_t hc36 h
             refine rA { its := [(8, .c (COk.ren (table_Table_Len_m0.ok O hO k v3.2.1 v3.2.2.1 v35 hv35) (fun n => if n = 100000 then 10001 else if n = 100001 then 10002 else if n = 100002 then 10003 else n) (injOn_of (by kernel_rfl))))], kn := [(55, .f hc34), (62, .t hc36)] } [1, 5, 10, 45, 46, 47, 80] [10, 10001, 10002, 10003] hN (by kernel_rfl) (by kernel_rfl) (by kernel_rfl) ?_
             refine tnU ?_
             exact ⟨true, h, by kernel_rfl⟩
            ·replace h := ite_f hc36 h
             obtain ⟨v37, hv37, h⟩ := bind_some h
             rcases bool_cases (!v37) with hc38 | hc38
             ·replace h := ite_t hc38 h
              refine rA { its := [(8, .c (COk.ren (table_Table_Len_m0.ok O hO k v3.2.1 v3.2.2.1 v35 hv35) (fun n => if n = 100000 then 10001 else if n = 100001 then 10002 else if n = 100002 then 10003 else n) (injOn_of (by kernel_rfl)))), (15, .c (millwrightnum_Has.ok O hO k v19.f_Targets a1 v37 hv37))], kn := [(55, .f hc34), (62, .f hc36), (69, .t hc38)] } [1, 5, 10, 45, 46, 47, 80] [10, 10001, 10002, 10003] hN (by kernel_rfl) (by kernel_rfl) (by kernel_rfl) ?_
              refine tnU ?_
              exact ⟨true, h, by kernel_rfl⟩
             ·replace h := ite_f hc38 h
              obtain ⟨v39, hv39, h⟩ := bind_some h
              rcases bool_cases (!v39) with hc40 | hc40
              ·replace h := ite_t hc40 h
               refine rA { its := [(8, .c (COk.ren (table_Table_Len_m0.ok O hO k v3.2.1 v3.2.2.1 v35 hv35) (fun n => if n = 100000 then 10001 else if n = 100001 then 10002 else if n = 100002 then 10003 else n) (injOn_of (by kernel_rfl)))), (15, .c (millwrightnum_Has.ok O hO k v19.f_Targets a1 v37 hv37)), (21, .c (millwrightlaw22_once.ok O hO k v19.f_Targets v39 hv39))], kn := [(55, .f hc34), (62, .f hc36), (69, .f hc38), (75, .t hc40)] } [1, 5, 10, 45, 46, 47, 80] [10, 10001, 10002, 10003] hN (by kernel_rfl) (by kernel_rfl) (by kernel_rfl) ?_
               refine tnU ?_
               exact ⟨true, h, by kernel_rfl⟩
              ·replace h := ite_f hc40 h
               obtain ⟨v41, hv41, h⟩ := bind_some h
               refine rA { its := [(8, .c (COk.ren (table_Table_Len_m0.ok O hO k v3.2.1 v3.2.2.1 v35 hv35) (fun n => if n = 100000 then 10001 else if n = 100001 then 10002 else if n = 100002 then 10003 else n) (injOn_of (by kernel_rfl)))), (15, .c (millwrightnum_Has.ok O hO k v19.f_Targets a1 v37 hv37)), (21, .c (millwrightlaw22_once.ok O hO k v19.f_Targets v39 hv39)), (27, .c (millwrightlaw22_once.ok O hO k v19.f_Prereqs v41 hv41))], kn := [(55, .f hc34), (62, .f hc36), (69, .f hc38), (75, .f hc40)] } [1, 5, 10, 45, 46, 47, 80] [10, 10001, 10002, 10003] hN (by kernel_rfl) (by kernel_rfl) (by kernel_rfl) ?_
               refine tnU ?_
               exact ⟨(!v41), h, by kernel_rfl⟩
          ·rintro _ ⟨v31, h, rfl⟩
           unfold millwrightlaw22_InstOwn.j33 at h
           refine tS (b := v31) (by kernel_rfl) (fun hc32 => ?_) (fun hc32 => ?_)
           ·replace h := ite_t hc32 h
            refine WpC.seq ?_
            refine rS {} [4] [] hN (by kernel_rfl) (by kernel_rfl) ?_
            refine tnU ?_
            refine WpC.ret ?_
            refine thenQ_ret ?_
            refine blockQ_ret ?_
            refine thenQ_ret ?_
            have hq := Option.some.inj h
            subst hq
            refine thenQ_ret ?_
            have h := hout15
            refine blockQ_ret ?_
            refine thenQ_ret ?_
            have hq := Option.some.inj h
            subst hq
            exact eR (by kernel_rfl) (by kernel_rfl)
           ·replace h := ite_f hc32 h
            refine WpC.conv (cS [.k [1, 5, 10, 45, 46, 47] [10, 10001, 10002, 10003]] (by kernel_rfl) (by kernel_rfl)) (WpC.skip ?_)
            refine tnU ?_
            exact ⟨h, by kernel_rfl⟩
         ·rintro _ ⟨h, rfl⟩
          unfold millwrightlaw22_InstOwn.j30 at h
          refine WpC.seq ?_
          refine rS {} [1, 5, 8, 10, 45, 46, 47] [10, 10001, 10002, 10003] hN (by kernel_rfl) (by kernel_rfl) ?_
          refine tnU ?_
          refine sqJ (fun st' => ∃ v20 : Bool, millwrightlaw22_InstOwn.j22 k (millwrightlaw22_InstOwn.l13 k a1 v3 v6 n) a1 v3 v6 v12 v19 v20 = some o14 ∧ st' = ⟨[(1, .p .str a1), (5, .loc 10001 0), (8, .p I6 v19.f_Rule), (45, .p (.list (.named 5)) v6.1), (46, .p I6 ((v6.1.length : Int) : Int)), (47, .p I6 v12), (105, .p .bool v20)], [(10001, .box [.vec 10002 7 0 v3.2.1.length, .vec 10003 1 0 v3.2.2.1.length]), (10002, .row 62 (.named 3) v3.2.1 false), (10003, .row 3 I6 v3.2.2.1 false)]⟩) ?_ ?_
          ·obtain ⟨v23, hv23, h⟩ := bind_some h
           rcases bool_cases (v23 != 2) with hc24 | hc24
           ·replace h := ite_t hc24 h
            rcases bool_cases ((v19.f_Subs.length : Int) != 0) with hc25 | hc25
            ·replace h := ite_t hc25 h
             refine rS { its := [(3, .c (COk.ren (table_Table_Kind_m0.ok O hO k v3.2.1 v3.2.2.1 v19.f_Rule v23 hv23) (fun n => if n = 100000 then 10001 else if n = 100001 then 10002 else if n = 100002 then 10003 else n) (injOn_of (by kernel_rfl))))], kn := [(88, .t hc24), (94, .t hc25)] } [1, 5, 8, 45, 46, 47, 105] [10001, 10002, 10003] hN (by kernel_rfl) (by kernel_rfl) ?_
             refine tnU ?_
             exact ⟨true, h, by kernel_rfl⟩
            ·replace h := ite_f hc25 h
             obtain ⟨v26, hv26, h⟩ := bind_some h
             rcases bool_cases (v26 != 1) with hc27 | hc27
             ·replace h := ite_t hc27 h
              refine rS { its := [(3, .c (COk.ren (table_Table_Kind_m0.ok O hO k v3.2.1 v3.2.2.1 v19.f_Rule v23 hv23) (fun n => if n = 100000 then 10001 else if n = 100001 then 10002 else if n = 100002 then 10003 else n) (injOn_of (by kernel_rfl)))), (15, .c (COk.ren (table_Table_Kind_m0.ok O hO k v3.2.1 v3.2.2.1 v19.f_Rule v26 hv26) (fun n => if n = 100000 then 10001 else if n = 100001 then 10002 else if n = 100002 then 10003 else n) (injOn_of (by kernel_rfl))))], kn := [(88, .t hc24), (94, .f hc25), (100, .t hc27)] } [1, 5, 8, 45, 46, 47, 105] [10001, 10002, 10003] hN (by kernel_rfl) (by kernel_rfl) ?_
              refine tnU ?_
              exact ⟨(!(v19.f_Stem == ([] : List UInt8))), h, by kernel_rfl⟩
             ·replace h := ite_f hc27 h
              refine rS { its := [(3, .c (COk.ren (table_Table_Kind_m0.ok O hO k v3.2.1 v3.2.2.1 v19.f_Rule v23 hv23) (fun n => if n = 100000 then 10001 else if n = 100001 then 10002 else if n = 100002 then 10003 else n) (injOn_of (by kernel_rfl)))), (15, .c (COk.ren (table_Table_Kind_m0.ok O hO k v3.2.1 v3.2.2.1 v19.f_Rule v26 hv26) (fun n => if n = 100000 then 10001 else if n = 100001 then 10002 else if n = 100002 then 10003 else n) (injOn_of (by kernel_rfl))))], kn := [(88, .t hc24), (94, .f hc25), (100, .f hc27)] } [1, 5, 8, 45, 46, 47, 105] [10001, 10002, 10003] hN (by kernel_rfl) (by kernel_rfl) ?_
              refine tnU ?_
              exact ⟨false, h, by kernel_rfl⟩
           ·replace h := ite_f hc24 h
            obtain ⟨v28, hv28, h⟩ := bind_some h
            rcases bool_cases (v28 != 1) with hc29 | hc29
            ·replace h := ite_t hc29 h
             refine rS { its := [(3, .c (COk.ren (table_Table_Kind_m0.ok O hO k v3.2.1 v3.2.2.1 v19.f_Rule v23 hv23) (fun n => if n = 100000 then 10001 else if n = 100001 then 10002 else if n = 100002 then 10003 else n) (injOn_of (by kernel_rfl)))), (15, .c (COk.ren (table_Table_Kind_m0.ok O hO k v3.2.1 v3.2.2.1 v19.f_Rule v28 hv28) (fun n => if n = 100000 then 10001 else if n = 100001 then 10002 else if n = 100002 then 10003 else n) (injOn_of (by kernel_rfl))))], kn := [(88, .f hc24), (100, .t hc29)] } [1, 5, 8, 45, 46, 47, 105] [10001, 10002, 10003] hN (by kernel_rfl) (by kernel_rfl) ?_
             refine tnU ?_
             exact ⟨(!(v19.f_Stem == ([] : List UInt8))), h, by kernel_rfl⟩
            ·replace h := ite_f hc29 h
             refine rS { its := [(3, .c (COk.ren (table_Table_Kind_m0.ok O hO k v3.2.1 v3.2.2.1 v19.f_Rule v23 hv23) (fun n => if n = 100000 then 10001 else if n = 100001 then 10002 else if n = 100002 then 10003 else n) (injOn_of (by kernel_rfl)))), (15, .c (COk.ren (table_Table_Kind_m0.ok O hO k v3.2.1 v3.2.2.1 v19.f_Rule v28 hv28) (fun n => if n = 100000 then 10001 else if n = 100001 then 10002 else if n = 100002 then 10003 else n) (injOn_of (by kernel_rfl))))], kn := [(88, .f hc24), (100, .f hc29)] } [1, 5, 8, 45, 46, 47, 105] [10001, 10002, 10003] hN (by kernel_rfl) (by kernel_rfl) ?_
             refine tnU ?_
             exact ⟨false, h, by kernel_rfl⟩
          ·rintro _ ⟨v20, h, rfl⟩
           unfold millwrightlaw22_InstOwn.j22 at h
           refine tS (b := v20) (by kernel_rfl) (fun hc21 => ?_) (fun hc21 => ?_)
           ·replace h := ite_t hc21 h
            refine WpC.seq ?_
            refine rS {} [4] [] hN (by kernel_rfl) (by kernel_rfl) ?_
            refine tnU ?_
            refine WpC.ret ?_
            refine blockQ_ret ?_
            refine thenQ_ret ?_
            have hq := Option.some.inj h
            subst hq
            refine thenQ_ret ?_
            have h := hout15
            refine blockQ_ret ?_
            refine thenQ_ret ?_
            have hq := Option.some.inj h
            subst hq
            exact eR (by kernel_rfl) (by kernel_rfl)
           ·replace h := ite_f hc21 h
            refine WpC.conv (cS [.k [1, 5, 8, 45, 46, 47] [10001, 10002, 10003]] (by kernel_rfl) (by kernel_rfl)) (WpC.skip ?_)
            refine blockQ_normal ?_
            refine tnU ?_
            exact ⟨v19.f_Rule, h, by kernel_rfl⟩
        ·rintro _ ⟨v17, h, rfl⟩
         unfold millwrightlaw22_InstOwn.j18 at h
         refine rS {} [1, 5, 8, 45, 46, 47] [10001, 10002, 10003] hN (by kernel_rfl) (by kernel_rfl) ?_
         refine tnU ?_
         exact ⟨n, Nat.lt_succ_self n, v17, (IntKind.i64.wrap (v12 + 1)), h, by kernel_rfl⟩
       ·replace h := ite_f hc16 h
        refine WpC.conv (cS [.k [] []] (by kernel_rfl) (by kernel_rfl)) (WpC.exit ?_)
        refine thenQ_exit ?_
        have hq := Option.some.inj h
        subst hq
        refine thenQ_exit ?_
        have h := hout15
        refine blockQ_hit ?_
        refine tnU ?_
        exact ⟨h, by kernel_rfl⟩
     ·rintro _ ⟨h, rfl⟩
      unfold millwrightlaw22_InstOwn.j10 at h
      refine WpC.seq ?_
      refine rS {} [4] [] hN (by kernel_rfl) (by kernel_rfl) ?_
      refine tnU ?_
      refine WpC.ret ?_
      have hq := Option.some.inj h
      subst hq
      exact eR (by kernel_rfl) (by kernel_rfl)

end Go.Proofs.YtpcobejkpbalcaaGreatDoor
