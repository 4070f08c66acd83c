/- A part of the proof of a given law: DAC3. Own work, printed in part by a program of mine. -/
import Derived.Test.YteddmdkbeednmaaDoorK33DAC2
namespace Go.Proofs.YteddmdkbeednmaaDoor
open Go Go.AM
set_option linter.unusedVariables false
set_option linter.unusedSimpArgs false
set_option maxRecDepth 100000
set_option maxHeartbeats 4000000
theorem millwrightnum_SameInts.ok (O : Out) (hO : GOkE O) (k : Nat) (a0 : List Int) (a1 : List Int) (out : Bool) (h : millwrightnum_SameInts.f k a0 a1 = some out) : COk Un O Tryd.prog 18 { ar := [.p (.list I6) a0, .p (.list I6) a1], r := .p .bool out } := by
 refine cok_of_wp Tryd.func18 rfl (k := 26) rfl (Nat.le_of_ble_eq_true rfl) (namesOk_pure rfl rfl rfl rfl) ?_
 intro B hN
 refine WpC.conv (cvK (b := ⟨[(0, .p (.list I6) a0), (1, .p (.list I6) a1)], []⟩) [0, 1] [] (by kernel_rfl)) ?_
 unfold millwrightnum_SameInts.f at h
 refine WpC.seq ?_
 refine rS {} [0, 1] [] hN (by kernel_rfl) (by kernel_rfl) ?_
 refine tnU ?_
 refine WpC.seq ?_
 refine WpC.seq ?_
 refine rS {} [0, 1, 10] [] hN (by kernel_rfl) (by kernel_rfl) ?_
 refine tnU ?_
 refine tS (b := ((a0.length : Int) != (a1.length : Int))) (by kernel_rfl) (fun hc1 => ?_) (fun hc1 => ?_)
 ·replace h := ite_t hc1 h
  refine WpC.seq ?_
  refine rS {} [4] [] hN (by kernel_rfl) (by kernel_rfl) ?_
  refine tnU ?_
  refine WpC.ret ?_
  refine thenQ_ret ?_
  have hq := Option.some.inj h
  subst hq
  exact eR (by kernel_rfl) (by kernel_rfl)
 ·replace h := ite_f hc1 h
  refine WpC.conv (cS [.k [0, 1] []] (by kernel_rfl) (by kernel_rfl)) (WpC.skip ?_)
  refine tnU ?_
  refine sqJ (fun st' => millwrightnum_SameInts.j2 k = some out ∧ st' = ⟨[], []⟩) ?_ ?_
  ·refine WpC.seq ?_
   refine rS {} [0, 1, 12, 13] [] hN (by kernel_rfl) (by kernel_rfl) ?_
   refine tnU ?_
   refine WpC.block ?_
   obtain ⟨o5, hlo5, h⟩ := bind_some h
   have hout6 := h
   clear h
   refine WpC.loop (U := Un) (fun n st' => ∃ v3 : Int, millwrightnum_SameInts.l4 k a0 a1 n v3 = some o5 ∧ st' = ⟨[(0, .p (.list I6) a0), (1, .p (.list I6) a1), (12, .p I6 ((a0.length : Int) : Int)), (13, .p I6 v3)], []⟩) k ⟨0, hlo5, by kernel_rfl⟩ ?_
   clear hlo5
   rintro (_ | n) _ ⟨v3, h, rfl⟩
   ·cases h
   ·rw [millwrightnum_SameInts.l4] at h
    refine WpC.seq ?_
    refine rS {} [0, 1, 12, 13, 14] [] hN (by kernel_rfl) (by kernel_rfl) ?_
    refine tnU ?_
    refine WpC.seq ?_
    refine tS (b := (decide (v3 < (a0.length : Int)))) (by kernel_rfl) (fun hc7 => ?_) (fun hc7 => ?_)
    ·replace h := ite_t hc7 h
     refine WpC.conv (cS [.k [0, 1, 12, 13] []] (by kernel_rfl) (by kernel_rfl)) (WpC.skip ?_)
     refine tnU ?_
     refine WpC.seq ?_
     refine WpC.block ?_
     refine WpC.seq ?_
     refine rS {} [0, 1, 5, 12, 13] [] hN (by kernel_rfl) (by kernel_rfl) ?_
     refine tnU ?_
     refine WpC.seq ?_
     obtain ⟨v8, hv8, h⟩ := bind_some h
     obtain ⟨v9, hv9, h⟩ := bind_some h
     refine rA { its := [(2, .v I6 hv8), (6, .v I6 hv9)] } [0, 1, 12, 13, 24] [] hN (by kernel_rfl) (by kernel_rfl) (by kernel_rfl) ?_
     refine tnU ?_
     refine tS (b := (v8 != v9)) (by kernel_rfl) (fun hc10 => ?_) (fun hc10 => ?_)
     ·replace h := ite_t hc10 h
      refine WpC.seq ?_
      refine rS {} [4] [] hN (by kernel_rfl) (by kernel_rfl) ?_
      refine tnU ?_
      refine WpC.ret ?_
      refine blockQ_ret ?_
      refine thenQ_ret ?_
      have hq := Option.some.inj h
      subst hq
      refine thenQ_ret ?_
      have h := hout6
      refine blockQ_ret ?_
      refine thenQ_ret ?_
      have hq := Option.some.inj h
      subst hq
      exact eR (by kernel_rfl) (by kernel_rfl)
     ·replace h := ite_f hc10 h
      refine WpC.conv (cS [.k [0, 1, 12, 13] []] (by kernel_rfl) (by kernel_rfl)) (WpC.skip ?_)
      refine blockQ_normal ?_
      refine tnU ?_
      refine rS {} [0, 1, 12, 13] [] hN (by kernel_rfl) (by kernel_rfl) ?_
      refine tnU ?_
      exact ⟨n, Nat.lt_succ_self n, (IntKind.i64.wrap (v3 + 1)), h, by kernel_rfl⟩
    ·replace h := ite_f hc7 h
     refine WpC.conv (cS [.k [] []] (by kernel_rfl) (by kernel_rfl)) (WpC.exit ?_)
     refine thenQ_exit ?_
     have hq := Option.some.inj h
     subst hq
     refine thenQ_exit ?_
     have h := hout6
     refine blockQ_hit ?_
     refine tnU ?_
     exact ⟨h, by kernel_rfl⟩
  ·rintro _ ⟨h, rfl⟩
   unfold millwrightnum_SameInts.j2 at h
   refine WpC.seq ?_
   refine rS {} [4] [] hN (by kernel_rfl) (by kernel_rfl) ?_
   refine tnU ?_
   refine WpC.ret ?_
   have hq := Option.some.inj h
   subst hq
   exact eR (by kernel_rfl) (by kernel_rfl)

theorem slices_Index_int_int.ok (O : Out) (hO : GOkE O) (k : Nat) (a0 : List Int) (a1 : Int) (out : Int) (h : slices_Index_int_int.f k a0 a1 = some out) : COk Un O Tryd.prog 55 { ar := [.p (.list I6) a0, .p I6 a1], r := .p I6 out } := by
 refine cok_of_wp Tryd.func55 rfl (k := 19) rfl (Nat.le_of_ble_eq_true rfl) (namesOk_pure rfl rfl rfl rfl) ?_
 intro B hN
 refine WpC.conv (cvK (b := ⟨[(0, .p (.list I6) a0), (1, .p I6 a1)], []⟩) [0, 1] [] (by kernel_rfl)) ?_
 unfold slices_Index_int_int.f at h
 refine WpC.seq ?_
 refine rS {} [0, 1] [] hN (by kernel_rfl) (by kernel_rfl) ?_
 refine tnU ?_
 refine sqJ (fun st' => slices_Index_int_int.j1 k = some out ∧ st' = ⟨[], []⟩) ?_ ?_
 ·refine WpC.seq ?_
  refine rS {} [0, 1, 7, 8] [] hN (by kernel_rfl) (by kernel_rfl) ?_
  refine tnU ?_
  refine WpC.block ?_
  obtain ⟨o4, hlo4, h⟩ := bind_some h
  have hout5 := h
  clear h
  refine WpC.loop (U := Un) (fun n st' => ∃ v2 : Int, slices_Index_int_int.l3 k a0 a1 n v2 = some o4 ∧ st' = ⟨[(0, .p (.list I6) a0), (1, .p I6 a1), (7, .p I6 ((a0.length : Int) : Int)), (8, .p I6 v2)], []⟩) k ⟨0, hlo4, by kernel_rfl⟩ ?_
  clear hlo4
  rintro (_ | n) _ ⟨v2, h, rfl⟩
  ·cases h
  ·rw [slices_Index_int_int.l3] at h
   refine WpC.seq ?_
   refine rS {} [0, 1, 7, 8, 9] [] hN (by kernel_rfl) (by kernel_rfl) ?_
   refine tnU ?_
   refine WpC.seq ?_
   refine tS (b := (decide (v2 < (a0.length : Int)))) (by kernel_rfl) (fun hc6 => ?_) (fun hc6 => ?_)
   ·replace h := ite_t hc6 h
    refine WpC.conv (cS [.k [0, 1, 7, 8] []] (by kernel_rfl) (by kernel_rfl)) (WpC.skip ?_)
    refine tnU ?_
    refine WpC.seq ?_
    refine WpC.block ?_
    refine WpC.seq ?_
    refine rS {} [0, 1, 5, 7, 8] [] hN (by kernel_rfl) (by kernel_rfl) ?_
    refine tnU ?_
    refine WpC.seq ?_
    obtain ⟨v7, hv7, h⟩ := bind_some h
    refine rS { its := [(3, .v I6 hv7)] } [0, 1, 5, 7, 8, 16] [] hN (by kernel_rfl) (by kernel_rfl) ?_
    refine tnU ?_
    refine tS (b := (a1 == v7)) (by kernel_rfl) (fun hc8 => ?_) (fun hc8 => ?_)
    ·replace h := ite_t hc8 h
     refine WpC.seq ?_
     refine rS {} [4] [] hN (by kernel_rfl) (by kernel_rfl) ?_
     refine tnU ?_
     refine WpC.ret ?_
     refine blockQ_ret ?_
     refine thenQ_ret ?_
     have hq := Option.some.inj h
     subst hq
     refine thenQ_ret ?_
     have h := hout5
     refine blockQ_ret ?_
     refine thenQ_ret ?_
     have hq := Option.some.inj h
     subst hq
     exact eR (by kernel_rfl) (by kernel_rfl)
    ·replace h := ite_f hc8 h
     refine WpC.conv (cS [.k [0, 1, 7, 8] []] (by kernel_rfl) (by kernel_rfl)) (WpC.skip ?_)
     refine blockQ_normal ?_
     refine tnU ?_
     refine rS {} [0, 1, 7, 8] [] hN (by kernel_rfl) (by kernel_rfl) ?_
     refine tnU ?_
     exact ⟨n, Nat.lt_succ_self n, (IntKind.i64.wrap (v2 + 1)), h, by kernel_rfl⟩
   ·replace h := ite_f hc6 h
    refine WpC.conv (cS [.k [] []] (by kernel_rfl) (by kernel_rfl)) (WpC.exit ?_)
    refine thenQ_exit ?_
    have hq := Option.some.inj h
    subst hq
    refine thenQ_exit ?_
    have h := hout5
    refine blockQ_hit ?_
    refine tnU ?_
    exact ⟨h, by kernel_rfl⟩
 ·rintro _ ⟨h, rfl⟩
  unfold slices_Index_int_int.j1 at h
  refine WpC.seq ?_
  refine rS {} [4] [] hN (by kernel_rfl) (by kernel_rfl) ?_
  refine tnU ?_
  refine WpC.ret ?_
  have hq := Option.some.inj h
  subst hq
  exact eR (by kernel_rfl) (by kernel_rfl)

theorem slices_Contains_int_int.ok (O : Out) (hO : GOkE O) (k : Nat) (a0 : List Int) (a1 : Int) (out : Bool) (h : slices_Contains_int_int.f k a0 a1 = some out) : COk Un O Tryd.prog 40 { ar := [.p (.list I6) a0, .p I6 a1], r := .p .bool out } := by
 refine cok_of_wp Tryd.func40 rfl (k := 9) rfl (Nat.le_of_ble_eq_true rfl) (namesOk_pure rfl rfl rfl rfl) ?_
 intro B hN
 refine WpC.conv (cvK (b := ⟨[(0, .p (.list I6) a0), (1, .p I6 a1)], []⟩) [0, 1] [] (by kernel_rfl)) ?_
 unfold slices_Contains_int_int.f at h
 refine WpC.seq ?_
 refine rS {} [0, 1] [] hN (by kernel_rfl) (by kernel_rfl) ?_
 refine tnU ?_
 refine WpC.seq ?_
 obtain ⟨v1, hv1, h⟩ := bind_some h
 refine rS { its := [(2, .c (slices_Index_int_int.ok O hO k a0 a1 v1 hv1))] } [4] [] hN (by kernel_rfl) (by kernel_rfl) ?_
 refine tnU ?_
 refine WpC.ret ?_
 have hq := Option.some.inj h
 subst hq
 exact eR (by kernel_rfl) (by kernel_rfl)

theorem denote_Spans.ok (O : Out) (hO : GOkE O) (k : Nat) (a0 : T_rex_Node) (a1 : List UInt8) (a2 : Int) (a3 : Int) (out : Bool) (h : denote_Spans.f k a0 a1 a2 a3 = some out) : COk Un O Tryd.prog 19 { ar := [.p (.named 3) a0, .p .str a1, .p I6 a2, .p I6 a3], r := .p .bool out } := by
 refine cok_of_wp Tryd.func19 rfl (k := 15) rfl (Nat.le_of_ble_eq_true rfl) (namesOk_pure rfl rfl rfl rfl) ?_
 intro B hN
 refine WpC.conv (cvK (b := ⟨[(0, .p (.named 3) a0), (1, .p .str a1), (2, .p I6 a2), (3, .p I6 a3)], []⟩) [0, 1, 2, 3] [] (by kernel_rfl)) ?_
 unfold denote_Spans.f at h
 refine WpC.seq ?_
 refine rS {} [1, 2, 3, 4] [4] hN (by kernel_rfl) (by kernel_rfl) ?_
 refine tnU ?_
 refine WpC.seq ?_
 obtain ⟨v1, hv1, h⟩ := bind_some h
 obtain ⟨v2, hv2, h⟩ := bind_some h
 refine rS { its := [(3, .c (denote_Ends.ok O hO k (T_rex_Node.mk a0.f_Kind a0.f_Index a0.f_Set a0.f_Kids) a1 a2 v1 hv1)), (5, .c (slices_Contains_int_int.ok O hO k v1 a3 v2 hv2))] } [8] [] hN (by kernel_rfl) (by kernel_rfl) ?_
 refine tnU ?_
 refine WpC.ret ?_
 have hq := Option.some.inj h
 subst hq
 exact eR (by kernel_rfl) (by kernel_rfl)

theorem denote_In.ok (O : Out) (hO : GOkE O) (k : Nat) (a0 : T_rex_Node) (a1 : List UInt8) (out : Bool) (h : denote_In.f k a0 a1 = some out) : COk Un O Tryd.prog 29 { ar := [.p (.named 3) a0, .p .str a1], r := .p .bool out } := by
 refine cok_of_wp Tryd.func29 rfl (k := 10) rfl (Nat.le_of_ble_eq_true rfl) (namesOk_pure rfl rfl rfl rfl) ?_
 intro B hN
 refine WpC.conv (cvK (b := ⟨[(0, .p (.named 3) a0), (1, .p .str a1)], []⟩) [0, 1] [] (by kernel_rfl)) ?_
 unfold denote_In.f at h
 refine WpC.seq ?_
 refine rS {} [1, 2] [2] hN (by kernel_rfl) (by kernel_rfl) ?_
 refine tnU ?_
 refine WpC.seq ?_
 obtain ⟨v1, hv1, h⟩ := bind_some h
 refine rS { its := [(4, .c (denote_Spans.ok O hO k (T_rex_Node.mk a0.f_Kind a0.f_Index a0.f_Set a0.f_Kids) a1 0 (a1.length : Int) v1 hv1))] } [4] [] hN (by kernel_rfl) (by kernel_rfl) ?_
 refine tnU ?_
 refine WpC.ret ?_
 have hq := Option.some.inj h
 subst hq
 exact eR (by kernel_rfl) (by kernel_rfl)

theorem millwrightlaw10_alive.ok (O : Out) (hO : GOkE O) (k : Nat) (out : Bool) (h : millwrightlaw10_alive.f k = some out) : COk Un O Tryd.prog 7 { ar := [], r := .p .bool out } := by
 refine cok_of_wp Tryd.func7 rfl (k := 24) rfl (Nat.le_of_ble_eq_true rfl) (namesOk_pure rfl rfl rfl rfl) ?_
 intro B hN
 refine WpC.conv (cvK (b := ⟨[], []⟩) [] [] (by kernel_rfl)) ?_
 unfold millwrightlaw10_alive.f at h
 refine WpC.seq ?_
 refine rS {} [] [] hN (by kernel_rfl) (by kernel_rfl) ?_
 refine tnU ?_
 refine WpC.seq ?_
 obtain ⟨v1, hv1, h⟩ := bind_some h
 refine rS { its := [(0, .c (rex_Parse.ok O hO k ([97, 42] : List UInt8) v1 hv1))] } [1, 2] [1] hN (by kernel_rfl) (by kernel_rfl) ?_
 refine tnU ?_
 refine WpC.seq ?_
 rcases bool_cases (v1.2 == 0) with hc2 | hc2
 ·replace h := ite_t hc2 h
  obtain ⟨v3, hv3, h⟩ := bind_some h
  obtain ⟨v4, hv4, h⟩ := bind_some h
  rcases bool_cases v4 with hc5 | hc5
  ·replace h := ite_t hc5 h
   obtain ⟨v6, hv6, h⟩ := bind_some h
   rcases bool_cases v6 with hc7 | hc7
   ·replace h := ite_t hc7 h
    obtain ⟨v8, hv8, h⟩ := bind_some h
    refine rS { its := [(4, .c (denote_Ends.ok O hO k (T_rex_Node.mk v1.1.f_Kind v1.1.f_Index v1.1.f_Set v1.1.f_Kids) ([97, 97, 98] : List UInt8) 0 v3 hv3)), (6, .c (millwrightnum_SameInts.ok O hO k v3 [(0 : Int), (1 : Int), (2 : Int)] v4 hv4)), (10, .c (denote_In.ok O hO k (T_rex_Node.mk v1.1.f_Kind v1.1.f_Index v1.1.f_Set v1.1.f_Kids) ([97, 97] : List UInt8) v6 hv6)), (14, .c (denote_In.ok O hO k (T_rex_Node.mk v1.1.f_Kind v1.1.f_Index v1.1.f_Set v1.1.f_Kids) ([98] : List UInt8) v8 hv8))], kn := [(9, .t hc2), (15, .t hc5), (19, .t hc7)] } [0] [] hN (by kernel_rfl) (by kernel_rfl) ?_
    refine tnU ?_
    refine WpC.ret ?_
    have hq := Option.some.inj h
    subst hq
    exact eR (by kernel_rfl) (by kernel_rfl)
   ·replace h := ite_f hc7 h
    refine rS { its := [(4, .c (denote_Ends.ok O hO k (T_rex_Node.mk v1.1.f_Kind v1.1.f_Index v1.1.f_Set v1.1.f_Kids) ([97, 97, 98] : List UInt8) 0 v3 hv3)), (6, .c (millwrightnum_SameInts.ok O hO k v3 [(0 : Int), (1 : Int), (2 : Int)] v4 hv4)), (10, .c (denote_In.ok O hO k (T_rex_Node.mk v1.1.f_Kind v1.1.f_Index v1.1.f_Set v1.1.f_Kids) ([97, 97] : List UInt8) v6 hv6))], kn := [(9, .t hc2), (15, .t hc5), (19, .f hc7)] } [0] [] hN (by kernel_rfl) (by kernel_rfl) ?_
    refine tnU ?_
    refine WpC.ret ?_
    have hq := Option.some.inj h
    subst hq
    exact eR (by kernel_rfl) (by kernel_rfl)
  ·replace h := ite_f hc5 h
   refine rS { its := [(4, .c (denote_Ends.ok O hO k (T_rex_Node.mk v1.1.f_Kind v1.1.f_Index v1.1.f_Set v1.1.f_Kids) ([97, 97, 98] : List UInt8) 0 v3 hv3)), (6, .c (millwrightnum_SameInts.ok O hO k v3 [(0 : Int), (1 : Int), (2 : Int)] v4 hv4))], kn := [(9, .t hc2), (15, .f hc5)] } [0] [] hN (by kernel_rfl) (by kernel_rfl) ?_
   refine tnU ?_
   refine WpC.ret ?_
   have hq := Option.some.inj h
   subst hq
   exact eR (by kernel_rfl) (by kernel_rfl)
 ·replace h := ite_f hc2 h
  refine rS { kn := [(9, .f hc2)] } [0] [] hN (by kernel_rfl) (by kernel_rfl) ?_
  refine tnU ?_
  refine WpC.ret ?_
  have hq := Option.some.inj h
  subst hq
  exact eR (by kernel_rfl) (by kernel_rfl)

theorem prog_writer_put_m0.ok (O : Out) (hO : GOkE O) (k : Nat) (a0 : List T_prog_Instr) (a1 : T_prog_Instr) (out : Int × (List T_prog_Instr)) (h : prog_writer_put_m0.f k a0 a1 = some out) : COk Un O Tryd.prog 62 { ar := [.loc 100000 0, .p (.named 5) a1], r := .p I6 out.1, bs := [(100000, .box [.vec 100001 7 0 a0.length]), (100001, .row 104 (.named 5) a0 false)], bs' := [(60001, .row 104 (.named 5) out.2 false), (100000, .box [.vec 60001 7 0 out.2.length])], nn := [60001] } := by
 refine cok_of_wp Tryd.func62 rfl (k := 21) rfl (Nat.le_of_ble_eq_true rfl) (namesOk_of (by kernel_rfl)) ?_
 intro B hN
 refine WpC.conv (cvK (b := ⟨[(0, .loc 100000 0), (1, .p (.named 5) a1)], [(100000, .box [.vec 100001 7 0 a0.length]), (100001, .row 104 (.named 5) a0 false)]⟩) [0, 1] [100000, 100001] (by kernel_rfl)) ?_
 unfold prog_writer_put_m0.f at h
 refine WpC.seq ?_
 refine rS {} [0, 3] [3, 100000, 100001] hN (by kernel_rfl) (by kernel_rfl) ?_
 refine tnU ?_
 refine WpC.seq ?_
 obtain ⟨g1, h⟩ := if_some h
 refine rA { its := [(7, .g g1)] } [0] [12, 100000] hN (by kernel_rfl) (by kernel_rfl) (by kernel_rfl) ?_
 refine tnU ?_
 refine WpC.seq ?_
 refine rS {} [4] [12, 100000] hN (by kernel_rfl) (by kernel_rfl) ?_
 refine tnU ?_
 refine WpC.conv (cS [.rn 12 60001, .k [4] [60001, 100000]] (by kernel_rfl) (by kernel_rfl)) (WpC.ret ?_)
 have hq := Option.some.inj h
 subst hq
 exact eR (by kernel_rfl) (by kernel_rfl)

theorem prog_writer_alt_m0.bok (O : Out) (hO : GOkE O) (k : Nat) (rf_prog_writer_node_m0 : (List T_prog_Instr) → T_rex_Node → Option (List T_prog_Instr)) (hrf_prog_writer_node_m0 : ∀ (a0 : List T_prog_Instr) (a1 : T_rex_Node) (out : List T_prog_Instr), rf_prog_writer_node_m0 a0 a1 = some out → COk Un O Tryd.prog 63 { ar := [.loc 100000 0, .p (.named 3) a1], r := .tup [], bs := [(100000, .box [.vec 100001 7 0 a0.length]), (100001, .row 104 (.named 5) a0 false)], bs' := [(60001, .row 104 (.named 5) out false), (100000, .box [.vec 60001 7 0 out.length])], nn := [60001] }) (a0 : List T_prog_Instr) (a1 : List T_rex_Node) (out : List T_prog_Instr) (h : prog_writer_alt_m0.b k rf_prog_writer_node_m0 a0 a1 = some out) : COk Un O Tryd.prog 72 { ar := [.loc 100000 0, .p (.list (.named 3)) a1], r := .tup [], bs := [(100000, .box [.vec 100001 7 0 a0.length]), (100001, .row 104 (.named 5) a0 false)], bs' := [(60001, .row 104 (.named 5) out false), (100000, .box [.vec 60001 7 0 out.length])], nn := [60001] } := by
 refine cok_of_wp Tryd.func72 rfl (k := 78) rfl (Nat.le_of_ble_eq_true rfl) (namesOk_of (by kernel_rfl)) ?_
 intro B hN
 refine WpC.conv (cvK (b := ⟨[(0, .loc 100000 0), (1, .p (.list (.named 3)) a1)], [(100000, .box [.vec 100001 7 0 a0.length]), (100001, .row 104 (.named 5) a0 false)]⟩) [0, 1] [100000, 100001] (by kernel_rfl)) ?_
 unfold prog_writer_alt_m0.b at h
 refine WpC.seq ?_
 refine rS {} [0, 1, 4] [100000, 100001] hN (by kernel_rfl) (by kernel_rfl) ?_
 refine tnU ?_
 refine WpC.seq ?_
 refine rS {} [0, 1, 4, 5] [100000, 100001] hN (by kernel_rfl) (by kernel_rfl) ?_
 refine tnU ?_
 refine sqJ (fun st' => ∃ v1 : List T_prog_Instr, ∃ v2 : List Int, prog_writer_alt_m0.j17 k rf_prog_writer_node_m0 a1 v1 v2 = some out ∧ st' = ⟨[(0, .loc 100000 0), (1, .p (.list (.named 3)) a1), (4, .p I6 ((IntKind.i64.wrap ((a1.length : Int) - 1)) : Int)), (5, .vec 1005 1 0 v2.length)], [(1005, .row 3 I6 v2 false), (62000, .row 104 (.named 5) v1 false), (100000, .box [.vec 62000 7 0 v1.length])]⟩) ?_ ?_
 ·refine WpC.seq ?_
  obtain ⟨v18, hv18, h⟩ := bind_some h
  refine rS { its := [(2, .v (.list (.named 3)) hv18)] } [0, 1, 4, 5, 16, 17, 18] [100000, 100001] hN (by kernel_rfl) (by kernel_rfl) ?_
  refine tnU ?_
  refine WpC.block ?_
  obtain ⟨o25, hlo25, h⟩ := bind_some h
  have hout26 := h
  clear h
  refine WpC.conv (cS [.rn 100001 62000, .k [0, 1, 4, 5, 16, 17, 18] [62000, 100000], .th 5 1005 3 I6, .k [0, 1, 4, 5, 16, 17, 18] [1005, 62000, 100000]] (by kernel_rfl) (by kernel_rfl)) ?_
  refine WpC.loop (U := Un) (fun n st' => ∃ v19 : List T_prog_Instr, ∃ v20 : List Int, ∃ v21 : Int, prog_writer_alt_m0.l22 k rf_prog_writer_node_m0 a1 v18 n v19 v20 v21 = some o25 ∧ st' = ⟨[(0, .loc 100000 0), (1, .p (.list (.named 3)) a1), (4, .p I6 ((IntKind.i64.wrap ((a1.length : Int) - 1)) : Int)), (5, .vec 1005 1 0 v20.length), (16, .p (.list (.named 3)) v18), (17, .p I6 ((v18.length : Int) : Int)), (18, .p I6 v21)], [(1005, .row 3 I6 v20 false), (62000, .row 104 (.named 5) v19 false), (100000, .box [.vec 62000 7 0 v19.length])]⟩) k ⟨a0, [], 0, hlo25, by kernel_rfl⟩ ?_
  clear hlo25
  rintro (_ | n) _ ⟨v19, v20, v21, h, rfl⟩
  ·cases h
  ·rw [prog_writer_alt_m0.l22] at h
   refine WpC.seq ?_
   refine rS {} [0, 1, 4, 5, 16, 17, 18, 19] [1005, 62000, 100000] hN (by kernel_rfl) (by kernel_rfl) ?_
   refine tnU ?_
   refine WpC.seq ?_
   refine tS (b := (decide (v21 < (v18.length : Int)))) (by kernel_rfl) (fun hc27 => ?_) (fun hc27 => ?_)
   ·replace h := ite_t hc27 h
    refine WpC.conv (cS [.k [0, 1, 4, 5, 16, 17, 18] [1005, 62000, 100000]] (by kernel_rfl) (by kernel_rfl)) (WpC.skip ?_)
    refine tnU ?_
    refine WpC.seq ?_
    refine WpC.block ?_
    refine WpC.seq ?_
    obtain ⟨v28, hv28, h⟩ := bind_some h
    refine rS { its := [(0, .v (.named 3) hv28)] } [0, 1, 4, 5, 7, 16, 17, 18] [7, 1005, 62000, 100000] hN (by kernel_rfl) (by kernel_rfl) ?_
    refine tnU ?_
    refine WpC.seq ?_
    obtain ⟨v29, hv29, h⟩ := bind_some h
    refine rS { its := [(8, .c (COk.ren (prog_writer_put_m0.ok O hO k v19 (T_prog_Instr.mk 1 (IntKind.i64.wrap ((v19.length : Int) + 1)) 0 (List.replicate 4 (0 : Int))) v29 hv29) (fun n => if n = 60001 then 10002 else if n = 100000 then 100000 else if n = 100001 then 62000 else n) (injOn_of (by kernel_rfl))))] } [0, 1, 4, 5, 7, 8, 16, 17, 18] [7, 1005, 10002, 100000] hN (by kernel_rfl) (by kernel_rfl) ?_
    refine tnU ?_
    refine WpC.seq ?_
    obtain ⟨v30, hv30, h⟩ := bind_some h
    refine rS { its := [(2, .c (COk.ren (hrf_prog_writer_node_m0 v29.2 (T_rex_Node.mk v28.f_Kind v28.f_Index v28.f_Set v28.f_Kids) v30 hv30) (fun n => if n = 60001 then 10003 else if n = 100000 then 100000 else if n = 100001 then 10002 else n) (injOn_of (by kernel_rfl))))] } [0, 1, 4, 5, 8, 16, 17, 18] [1005, 10003, 100000] hN (by kernel_rfl) (by kernel_rfl) ?_
    refine tnU ?_
    refine WpC.seq ?_
    obtain ⟨v31, hv31, h⟩ := bind_some h
    obtain ⟨g32, h⟩ := if_some h
    refine rS { its := [(3, .c (COk.ren (prog_writer_put_m0.ok O hO k v30 (T_prog_Instr.mk 2 0 0 (List.replicate 4 (0 : Int))) v31 hv31) (fun n => if n = 60001 then 10004 else if n = 100000 then 100000 else if n = 100001 then 10003 else n) (injOn_of (by kernel_rfl)))), (5, .g g32)] } [0, 1, 4, 5, 8, 16, 17, 18] [39, 10004, 100000] hN (by kernel_rfl) (by kernel_rfl) ?_
    refine tnU ?_
    obtain ⟨g33, h⟩ := if_some h
    obtain ⟨v34, hv34, h⟩ := bind_some h
    refine rAC { its := [(10, .g g33), (12, .v (.named 5) hv34)] } [0, 1, 4, 5, 16, 17, 18] [39, 10004, 100000] hN (by kernel_rfl) (by kernel_rfl) (by kernel_rfl) (cS [.k [0, 1, 4, 5, 16, 17, 18] [39, 10004, 100000], .x (Conv.cast (U := Un) (st := ⟨[(0, .loc 100000 0), (1, .p (.list (.named 3)) a1), (4, .p I6 ((IntKind.i64.wrap ((a1.length : Int) - 1)) : Int)), (5, .vec 39 1 0 ((v20 ++ [v31.1]).length)), (16, .p (.list (.named 3)) v18), (17, .p I6 ((v18.length : Int) : Int)), (18, .p I6 v21)], [(39, .row 3 I6 (v20 ++ [v31.1]) false), (10004, .row 104 (.named 5) (upd v31.2 (0 + v29.1.toNat) (T_prog_Instr.mk v34.f_Op v34.f_X (v31.2.length : Int) v34.f_Set)) false), (100000, .box [.vec 10004 7 0 v31.2.length])]⟩) (st' := ⟨[(0, .loc 100000 0), (1, .p (.list (.named 3)) a1), (4, .p I6 ((IntKind.i64.wrap ((a1.length : Int) - 1)) : Int)), (5, .vec 39 1 0 ((v20 ++ [v31.1]).length)), (16, .p (.list (.named 3)) v18), (17, .p I6 ((v18.length : Int) : Int)), (18, .p I6 v21)], [(39, .row 3 I6 (v20 ++ [v31.1]) false), (10004, .row 104 (.named 5) (upd v31.2 (0 + v29.1.toNat) (T_prog_Instr.mk v34.f_Op v34.f_X (v31.2.length : Int) v34.f_Set)) false), (100000, .box [.vec 10004 7 0 ((upd v31.2 (0 + v29.1.toNat) (T_prog_Instr.mk v34.f_Op v34.f_X (v31.2.length : Int) v34.f_Set)).length)])]⟩) (by simp only [upd_length, List.length_nil, List.length_replicate]))] (by kernel_rfl) (by kernel_rfl)) ?_
    refine blockQ_normal ?_
    refine tnU ?_
    refine rSC {} [0, 1, 4, 5, 16, 17, 18] [39, 10004, 100000] hN (by kernel_rfl) (by kernel_rfl) (cS [.rn 10004 62000, .k [0, 1, 4, 5, 16, 17, 18] [39, 62000, 100000], .rn 39 1005, .k [0, 1, 4, 5, 16, 17, 18] [1005, 62000, 100000]] (by kernel_rfl) (by kernel_rfl)) ?_
    refine tnU ?_
    exact ⟨n, Nat.lt_succ_self n, (upd v31.2 (0 + v29.1.toNat) (T_prog_Instr.mk v34.f_Op v34.f_X (v31.2.length : Int) v34.f_Set)), (v20 ++ [v31.1]), (IntKind.i64.wrap (v21 + 1)), h, by kernel_rfl⟩
   ·replace h := ite_f hc27 h
    refine WpC.conv (cS [.k [0, 1, 4, 5] [1005, 62000, 100000]] (by kernel_rfl) (by kernel_rfl)) (WpC.exit ?_)
    refine thenQ_exit ?_
    have hq := Option.some.inj h
    subst hq
    refine thenQ_exit ?_
    have h := hout26
    refine blockQ_hit ?_
    refine tnU ?_
    exact ⟨v19, v20, h, by kernel_rfl⟩
 ·rintro _ ⟨v1, v2, h, rfl⟩
  unfold prog_writer_alt_m0.j17 at h
  refine WpC.seq ?_
  obtain ⟨v3, hv3, h⟩ := bind_some h
  obtain ⟨v4, hv4, h⟩ := bind_some h
  refine rS { its := [(3, .v (.named 3) hv3), (5, .c (COk.ren (hrf_prog_writer_node_m0 v1 v3 v4 hv4) (fun n => if n = 60001 then 10001 else if n = 100000 then 100000 else if n = 100001 then 62000 else n) (injOn_of (by kernel_rfl))))] } [0, 5] [1005, 10001, 100000] hN (by kernel_rfl) (by kernel_rfl) ?_
  refine tnU ?_
  refine WpC.seq ?_
  refine rS {} [0, 59, 60, 61] [1005, 10001, 100000] hN (by kernel_rfl) (by kernel_rfl) ?_
  refine tnU ?_
  refine WpC.block ?_
  obtain ⟨o9, hlo9, h⟩ := bind_some h
  have hout10 := h
  clear h
  refine WpC.conv (cS [.rn 10001 62000, .k [0, 59, 60, 61] [1005, 62000, 100000]] (by kernel_rfl) (by kernel_rfl)) ?_
  refine WpC.loop (U := Un) (fun n st' => ∃ v5 : List T_prog_Instr, ∃ v6 : Int, prog_writer_alt_m0.l7 k v2 n v5 v6 = some o9 ∧ st' = ⟨[(0, .loc 100000 0), (59, .vec 1005 1 0 v2.length), (60, .p I6 ((v2.length : Int) : Int)), (61, .p I6 v6)], [(1005, .row 3 I6 v2 false), (62000, .row 104 (.named 5) v5 false), (100000, .box [.vec 62000 7 0 v5.length])]⟩) k ⟨v4, 0, hlo9, by kernel_rfl⟩ ?_
  clear hlo9
  rintro (_ | n) _ ⟨v5, v6, h, rfl⟩
  ·cases h
  ·rw [prog_writer_alt_m0.l7] at h
   refine WpC.seq ?_
   refine rS {} [0, 59, 60, 61, 62] [1005, 62000, 100000] hN (by kernel_rfl) (by kernel_rfl) ?_
   refine tnU ?_
   refine WpC.seq ?_
   refine tS (b := (decide (v6 < (v2.length : Int)))) (by kernel_rfl) (fun hc11 => ?_) (fun hc11 => ?_)
   ·replace h := ite_t hc11 h
    refine WpC.conv (cS [.k [0, 59, 60, 61] [1005, 62000, 100000]] (by kernel_rfl) (by kernel_rfl)) (WpC.skip ?_)
    refine tnU ?_
    refine WpC.seq ?_
    refine WpC.block ?_
    refine WpC.seq ?_
    obtain ⟨g12, h⟩ := if_some h
    obtain ⟨v13, hv13, h⟩ := bind_some h
    refine rS { its := [(0, .g g12), (1, .v I6 hv13)] } [0, 10, 59, 60, 61] [1005, 62000, 100000] hN (by kernel_rfl) (by kernel_rfl) ?_
    refine tnU ?_
    obtain ⟨g14, h⟩ := if_some h
    obtain ⟨v15, hv15, h⟩ := bind_some h
    refine rAC { its := [(10, .g g14), (12, .v (.named 5) hv15)] } [0, 59, 60, 61] [1005, 62000, 100000] hN (by kernel_rfl) (by kernel_rfl) (by kernel_rfl) (cS [.k [0, 59, 60, 61] [1005, 62000, 100000], .x (Conv.cast (U := Un) (st := ⟨[(0, .loc 100000 0), (59, .vec 1005 1 0 v2.length), (60, .p I6 ((v2.length : Int) : Int)), (61, .p I6 v6)], [(1005, .row 3 I6 v2 false), (62000, .row 104 (.named 5) (upd v5 (0 + v13.toNat) (T_prog_Instr.mk v15.f_Op (v5.length : Int) v15.f_Y v15.f_Set)) false), (100000, .box [.vec 62000 7 0 v5.length])]⟩) (st' := ⟨[(0, .loc 100000 0), (59, .vec 1005 1 0 v2.length), (60, .p I6 ((v2.length : Int) : Int)), (61, .p I6 v6)], [(1005, .row 3 I6 v2 false), (62000, .row 104 (.named 5) (upd v5 (0 + v13.toNat) (T_prog_Instr.mk v15.f_Op (v5.length : Int) v15.f_Y v15.f_Set)) false), (100000, .box [.vec 62000 7 0 ((upd v5 (0 + v13.toNat) (T_prog_Instr.mk v15.f_Op (v5.length : Int) v15.f_Y v15.f_Set)).length)])]⟩) (by simp only [upd_length, List.length_nil, List.length_replicate]))] (by kernel_rfl) (by kernel_rfl)) ?_
    refine blockQ_normal ?_
    refine tnU ?_
    refine rS {} [0, 59, 60, 61] [1005, 62000, 100000] hN (by kernel_rfl) (by kernel_rfl) ?_
    refine tnU ?_
    exact ⟨n, Nat.lt_succ_self n, (upd v5 (0 + v13.toNat) (T_prog_Instr.mk v15.f_Op (v5.length : Int) v15.f_Y v15.f_Set)), (IntKind.i64.wrap (v6 + 1)), h, by kernel_rfl⟩
   ·replace h := ite_f hc11 h
    refine WpC.conv (cS [.k [] [62000, 100000], .rn 62000 60001, .k [] [60001, 100000]] (by kernel_rfl) (by kernel_rfl)) (WpC.exit ?_)
    refine thenQ_exit ?_
    have hq := Option.some.inj h
    subst hq
    refine thenQ_exit ?_
    have h := hout10
    refine blockQ_hit ?_
    have hq := Option.some.inj h
    subst hq
    exact eN (by kernel_rfl) (by kernel_rfl)

theorem prog_writer_maybe_m0.bok (O : Out) (hO : GOkE O) (k : Nat) (rf_prog_writer_node_m0 : (List T_prog_Instr) → T_rex_Node → Option (List T_prog_Instr)) (hrf_prog_writer_node_m0 : ∀ (a0 : List T_prog_Instr) (a1 : T_rex_Node) (out : List T_prog_Instr), rf_prog_writer_node_m0 a0 a1 = some out → COk Un O Tryd.prog 63 { ar := [.loc 100000 0, .p (.named 3) a1], r := .tup [], bs := [(100000, .box [.vec 100001 7 0 a0.length]), (100001, .row 104 (.named 5) a0 false)], bs' := [(60001, .row 104 (.named 5) out false), (100000, .box [.vec 60001 7 0 out.length])], nn := [60001] }) (a0 : List T_prog_Instr) (a1 : T_rex_Node) (a2 : Bool) (out : List T_prog_Instr) (h : prog_writer_maybe_m0.b k rf_prog_writer_node_m0 a0 a1 a2 = some out) : COk Un O Tryd.prog 73 { ar := [.loc 100000 0, .p (.named 3) a1, .p .bool a2], r := .tup [], bs := [(100000, .box [.vec 100001 7 0 a0.length]), (100001, .row 104 (.named 5) a0 false)], bs' := [(60001, .row 104 (.named 5) out false), (100000, .box [.vec 60001 7 0 out.length])], nn := [60001] } := by
 refine cok_of_wp Tryd.func73 rfl (k := 36) rfl (Nat.le_of_ble_eq_true rfl) (namesOk_of (by kernel_rfl)) ?_
 intro B hN
 refine WpC.conv (cvK (b := ⟨[(0, .loc 100000 0), (1, .p (.named 3) a1), (2, .p .bool a2)], [(100000, .box [.vec 100001 7 0 a0.length]), (100001, .row 104 (.named 5) a0 false)]⟩) [0, 1, 2] [100000, 100001] (by kernel_rfl)) ?_
 unfold prog_writer_maybe_m0.b at h
 refine WpC.seq ?_
 refine rS {} [0, 2, 4] [4, 100000, 100001] hN (by kernel_rfl) (by kernel_rfl) ?_
 refine tnU ?_
 refine WpC.seq ?_
 obtain ⟨v1, hv1, h⟩ := bind_some h
 refine rS { its := [(8, .c (COk.ren (prog_writer_put_m0.ok O hO k a0 (T_prog_Instr.mk 1 (IntKind.i64.wrap ((a0.length : Int) + 1)) 0 (List.replicate 4 (0 : Int))) v1 hv1) (fun n => if n = 60001 then 10001 else if n = 100000 then 100000 else if n = 100001 then 100001 else n) (injOn_of (by kernel_rfl))))] } [0, 2, 4, 6] [4, 10001, 100000] hN (by kernel_rfl) (by kernel_rfl) ?_
 refine tnU ?_
 refine WpC.seq ?_
 obtain ⟨v2, hv2, h⟩ := bind_some h
 refine rS { its := [(2, .c (COk.ren (hrf_prog_writer_node_m0 v1.2 (T_rex_Node.mk a1.f_Kind a1.f_Index a1.f_Set a1.f_Kids) v2 hv2) (fun n => if n = 60001 then 10002 else if n = 100000 then 100000 else if n = 100001 then 10001 else n) (injOn_of (by kernel_rfl))))] } [0, 2, 6] [10002, 100000] hN (by kernel_rfl) (by kernel_rfl) ?_
 refine tnU ?_
 refine sqJ (fun st' => ∃ v3 : List T_prog_Instr, prog_writer_maybe_m0.j6 k v1 v3 = some out ∧ st' = ⟨[(0, .loc 100000 0), (6, .p I6 v1.1)], [(62000, .row 104 (.named 5) v3 false), (100000, .box [.vec 62000 7 0 v3.length])]⟩) ?_ ?_
 ·refine WpC.seq ?_
  refine rS {} [0, 6, 19] [10002, 100000] hN (by kernel_rfl) (by kernel_rfl) ?_
  refine tnU ?_
  refine tS (b := a2) (by kernel_rfl) (fun hc7 => ?_) (fun hc7 => ?_)
  ·replace h := ite_t hc7 h
   obtain ⟨v8, hv8, h⟩ := bind_some h
   refine rSC { its := [(3, .c (COk.ren (prog_writer_put_m0.ok O hO k v2 (T_prog_Instr.mk 2 v1.1 0 (List.replicate 4 (0 : Int))) v8 hv8) (fun n => if n = 60001 then 10003 else if n = 100000 then 100000 else if n = 100001 then 10002 else n) (injOn_of (by kernel_rfl))))] } [0, 6] [10003, 100000] hN (by kernel_rfl) (by kernel_rfl) (cS [.rn 10003 62000, .k [0, 6] [62000, 100000]] (by kernel_rfl) (by kernel_rfl)) ?_
   refine tnU ?_
   exact ⟨v8.2, h, by kernel_rfl⟩
  ·replace h := ite_f hc7 h
   refine WpC.conv (cS [.k [0, 6] [10002, 100000], .rn 10002 62000, .k [0, 6] [62000, 100000]] (by kernel_rfl) (by kernel_rfl)) (WpC.skip ?_)
   refine tnU ?_
   exact ⟨v2, h, by kernel_rfl⟩
 ·rintro _ ⟨v3, h, rfl⟩
  unfold prog_writer_maybe_m0.j6 at h
  obtain ⟨g4, h⟩ := if_some h
  obtain ⟨v5, hv5, h⟩ := bind_some h
  refine rAC { its := [(10, .g g4), (12, .v (.named 5) hv5)] } [] [62000, 100000] hN (by kernel_rfl) (by kernel_rfl) (by kernel_rfl) (cS [.k [] [62000, 100000], .x (Conv.cast (U := Un) (st := ⟨[], [(62000, .row 104 (.named 5) (upd v3 (0 + v1.1.toNat) (T_prog_Instr.mk v5.f_Op v5.f_X (v3.length : Int) v5.f_Set)) false), (100000, .box [.vec 62000 7 0 v3.length])]⟩) (st' := ⟨[], [(62000, .row 104 (.named 5) (upd v3 (0 + v1.1.toNat) (T_prog_Instr.mk v5.f_Op v5.f_X (v3.length : Int) v5.f_Set)) false), (100000, .box [.vec 62000 7 0 ((upd v3 (0 + v1.1.toNat) (T_prog_Instr.mk v5.f_Op v5.f_X (v3.length : Int) v5.f_Set)).length)])]⟩) (by simp only [upd_length, List.length_nil, List.length_replicate])), .rn 62000 60001, .k [] [60001, 100000]] (by kernel_rfl) (by kernel_rfl)) ?_
  have hq := Option.some.inj h
  subst hq
  exact eN (by kernel_rfl) (by kernel_rfl)

theorem prog_writer_node_m0.bok (O : Out) (hO : GOkE O) (k : Nat) (rf_prog_writer_node_m0 : (List T_prog_Instr) → T_rex_Node → Option (List T_prog_Instr)) (rf_prog_writer_alt_m0 : (List T_prog_Instr) → (List T_rex_Node) → Option (List T_prog_Instr)) (rf_prog_writer_maybe_m0 : (List T_prog_Instr) → T_rex_Node → Bool → Option (List T_prog_Instr)) (hrf_prog_writer_node_m0 : ∀ (a0 : List T_prog_Instr) (a1 : T_rex_Node) (out : List T_prog_Instr), rf_prog_writer_node_m0 a0 a1 = some out → COk Un O Tryd.prog 63 { ar := [.loc 100000 0, .p (.named 3) a1], r := .tup [], bs := [(100000, .box [.vec 100001 7 0 a0.length]), (100001, .row 104 (.named 5) a0 false)], bs' := [(60001, .row 104 (.named 5) out false), (100000, .box [.vec 60001 7 0 out.length])], nn := [60001] }) (hrf_prog_writer_alt_m0 : ∀ (a0 : List T_prog_Instr) (a1 : List T_rex_Node) (out : List T_prog_Instr), rf_prog_writer_alt_m0 a0 a1 = some out → COk Un O Tryd.prog 72 { ar := [.loc 100000 0, .p (.list (.named 3)) a1], r := .tup [], bs := [(100000, .box [.vec 100001 7 0 a0.length]), (100001, .row 104 (.named 5) a0 false)], bs' := [(60001, .row 104 (.named 5) out false), (100000, .box [.vec 60001 7 0 out.length])], nn := [60001] }) (hrf_prog_writer_maybe_m0 : ∀ (a0 : List T_prog_Instr) (a1 : T_rex_Node) (a2 : Bool) (out : List T_prog_Instr), rf_prog_writer_maybe_m0 a0 a1 a2 = some out → COk Un O Tryd.prog 73 { ar := [.loc 100000 0, .p (.named 3) a1, .p .bool a2], r := .tup [], bs := [(100000, .box [.vec 100001 7 0 a0.length]), (100001, .row 104 (.named 5) a0 false)], bs' := [(60001, .row 104 (.named 5) out false), (100000, .box [.vec 60001 7 0 out.length])], nn := [60001] }) (a0 : List T_prog_Instr) (a1 : T_rex_Node) (out : List T_prog_Instr) (h : prog_writer_node_m0.b k rf_prog_writer_node_m0 rf_prog_writer_alt_m0 rf_prog_writer_maybe_m0 a0 a1 = some out) : COk Un O Tryd.prog 63 { ar := [.loc 100000 0, .p (.named 3) a1], r := .tup [], bs := [(100000, .box [.vec 100001 7 0 a0.length]), (100001, .row 104 (.named 5) a0 false)], bs' := [(60001, .row 104 (.named 5) out false), (100000, .box [.vec 60001 7 0 out.length])], nn := [60001] } := by
 refine cok_of_wp Tryd.func63 rfl (k := 101) rfl (Nat.le_of_ble_eq_true rfl) (namesOk_of (by kernel_rfl)) ?_
 intro B hN
 refine WpC.conv (cvK (b := ⟨[(0, .loc 100000 0), (1, .p (.named 3) a1)], [(100000, .box [.vec 100001 7 0 a0.length]), (100001, .row 104 (.named 5) a0 false)]⟩) [0, 1] [100000, 100001] (by kernel_rfl)) ?_
 unfold prog_writer_node_m0.b at h
 refine WpC.seq ?_
 refine rS {} [0, 3] [3, 100000, 100001] hN (by kernel_rfl) (by kernel_rfl) ?_
 refine tnU ?_
 refine WpC.seq ?_
 refine rS {} [0, 3, 8] [3, 100000, 100001] hN (by kernel_rfl) (by kernel_rfl) ?_
 refine tnU ?_
 refine WpC.block ?_
 refine WpC.seq ?_
 refine rS {} [0, 3, 8, 9] [3, 100000, 100001] hN (by kernel_rfl) (by kernel_rfl) ?_
 refine tnU ?_
 refine tS (b := (a1.f_Kind == 1)) (by kernel_rfl) (fun hc1 => ?_) (fun hc1 => ?_)
 ·replace h := ite_t hc1 h
  obtain ⟨v2, hv2, h⟩ := bind_some h
  refine rSC { its := [(4, .c (COk.ren (prog_writer_put_m0.ok O hO k a0 (T_prog_Instr.mk 0 0 0 a1.f_Set) v2 hv2) (fun n => if n = 60001 then 10001 else if n = 100000 then 100000 else if n = 100001 then 100001 else n) (injOn_of (by kernel_rfl))))] } [] [10001, 100000] hN (by kernel_rfl) (by kernel_rfl) (cS [.rn 10001 60001, .k [] [60001, 100000]] (by kernel_rfl) (by kernel_rfl)) ?_
  refine blockQ_normal ?_
  have hq := Option.some.inj h
  subst hq
  exact eN (by kernel_rfl) (by kernel_rfl)
 ·replace h := ite_f hc1 h
  refine WpC.seq ?_
  refine rS {} [0, 3, 8, 16] [3, 100000, 100001] hN (by kernel_rfl) (by kernel_rfl) ?_
  refine tnU ?_
  refine tS (b := (a1.f_Kind == 2)) (by kernel_rfl) (fun hc3 => ?_) (fun hc3 => ?_)
  ·replace h := ite_t hc3 h
   refine WpC.seq ?_
   refine rS {} [0, 19, 20, 21] [100000, 100001] hN (by kernel_rfl) (by kernel_rfl) ?_
   refine tnU ?_
   refine WpC.block ?_
   obtain ⟨o8, hlo8, h⟩ := bind_some h
   have hout9 := h
   clear h
   refine WpC.conv (cS [.rn 100001 62000, .k [0, 19, 20, 21] [62000, 100000]] (by kernel_rfl) (by kernel_rfl)) ?_
   refine WpC.loop (U := Un) (fun n st' => ∃ v4 : List T_prog_Instr, ∃ v5 : Int, prog_writer_node_m0.l6 k rf_prog_writer_node_m0 a1 n v4 v5 = some o8 ∧ st' = ⟨[(0, .loc 100000 0), (19, .p (.list (.named 3)) a1.f_Kids), (20, .p I6 ((a1.f_Kids.length : Int) : Int)), (21, .p I6 v5)], [(62000, .row 104 (.named 5) v4 false), (100000, .box [.vec 62000 7 0 v4.length])]⟩) k ⟨a0, 0, hlo8, by kernel_rfl⟩ ?_
   clear hlo8
   rintro (_ | n) _ ⟨v4, v5, h, rfl⟩
   ·cases h
   ·rw [prog_writer_node_m0.l6] at h
    refine WpC.seq ?_
    refine rS {} [0, 19, 20, 21, 22] [62000, 100000] hN (by kernel_rfl) (by kernel_rfl) ?_
    refine tnU ?_
    refine WpC.seq ?_
    refine tS (b := (decide (v5 < (a1.f_Kids.length : Int)))) (by kernel_rfl) (fun hc10 => ?_) (fun hc10 => ?_)
    ·replace h := ite_t hc10 h
     refine WpC.conv (cS [.k [0, 19, 20, 21] [62000, 100000]] (by kernel_rfl) (by kernel_rfl)) (WpC.skip ?_)
     refine tnU ?_
     refine WpC.seq ?_
     refine WpC.block ?_
     refine WpC.seq ?_
     obtain ⟨v11, hv11, h⟩ := bind_some h
     refine rS { its := [(0, .v (.named 3) hv11)] } [0, 5, 19, 20, 21] [5, 62000, 100000] hN (by kernel_rfl) (by kernel_rfl) ?_
     refine tnU ?_
     obtain ⟨v12, hv12, h⟩ := bind_some h
     refine rS { its := [(2, .c (COk.ren (hrf_prog_writer_node_m0 v4 (T_rex_Node.mk v11.f_Kind v11.f_Index v11.f_Set v11.f_Kids) v12 hv12) (fun n => if n = 60001 then 10002 else if n = 100000 then 100000 else if n = 100001 then 62000 else n) (injOn_of (by kernel_rfl))))] } [0, 19, 20, 21] [10002, 100000] hN (by kernel_rfl) (by kernel_rfl) ?_
     refine blockQ_normal ?_
     refine tnU ?_
     refine rSC {} [0, 19, 20, 21] [10002, 100000] hN (by kernel_rfl) (by kernel_rfl) (cS [.rn 10002 62000, .k [0, 19, 20, 21] [62000, 100000]] (by kernel_rfl) (by kernel_rfl)) ?_
     refine tnU ?_
     exact ⟨n, Nat.lt_succ_self n, v12, (IntKind.i64.wrap (v5 + 1)), h, by kernel_rfl⟩
    ·replace h := ite_f hc10 h
     refine WpC.conv (cS [.k [] [62000, 100000], .rn 62000 60001, .k [] [60001, 100000]] (by kernel_rfl) (by kernel_rfl)) (WpC.exit ?_)
     refine thenQ_exit ?_
     have hq := Option.some.inj h
     subst hq
     refine thenQ_exit ?_
     have h := hout9
     refine blockQ_hit ?_
     refine blockQ_normal ?_
     have hq := Option.some.inj h
     subst hq
     exact eN (by kernel_rfl) (by kernel_rfl)
  ·replace h := ite_f hc3 h
   refine WpC.seq ?_
   refine rS {} [0, 3, 8, 29] [3, 100000, 100001] hN (by kernel_rfl) (by kernel_rfl) ?_
   refine tnU ?_
   refine tS (b := (a1.f_Kind == 3)) (by kernel_rfl) (fun hc14 => ?_) (fun hc14 => ?_)
   ·replace h := ite_t hc14 h
    obtain ⟨v15, hv15, h⟩ := bind_some h
    refine rSC { its := [(3, .c (COk.ren (hrf_prog_writer_alt_m0 a0 a1.f_Kids v15 hv15) (fun n => if n = 60001 then 10003 else if n = 100000 then 100000 else if n = 100001 then 100001 else n) (injOn_of (by kernel_rfl))))] } [] [10003, 100000] hN (by kernel_rfl) (by kernel_rfl) (cS [.rn 10003 60001, .k [] [60001, 100000]] (by kernel_rfl) (by kernel_rfl)) ?_
    refine blockQ_normal ?_
    have hq := Option.some.inj h
    subst hq
    exact eN (by kernel_rfl) (by kernel_rfl)
   ·replace h := ite_f hc14 h
    refine sqJ (fun st' => ∃ v16 : Bool, prog_writer_node_m0.j33 k rf_prog_writer_node_m0 rf_prog_writer_maybe_m0 a0 a1 v16 = some out ∧ st' = ⟨[(0, .loc 100000 0), (3, .loc 3 0), (8, .p I6 a1.f_Kind), (35, .p .bool v16)], [(3, .box [.p I6 a1.f_Kind, .p I6 a1.f_Index, .p U6 a1.f_Set, .p (.list (.named 3)) a1.f_Kids]), (100000, .box [.vec 100001 7 0 a0.length]), (100001, .row 104 (.named 5) a0 false)]⟩) ?_ ?_
    ·refine WpC.seq ?_
     refine rS {} [0, 3, 8, 35] [3, 100000, 100001] hN (by kernel_rfl) (by kernel_rfl) ?_
     refine tnU ?_
     refine tS (b := (a1.f_Kind == 4)) (by kernel_rfl) (fun hc34 => ?_) (fun hc34 => ?_)
     ·replace h := ite_t hc34 h
      refine WpC.skip ?_
      refine tnU ?_
      exact ⟨(a1.f_Kind == 4), h, by kernel_rfl⟩
     ·replace h := ite_f hc34 h
      refine rS {} [0, 3, 8, 35] [3, 100000, 100001] hN (by kernel_rfl) (by kernel_rfl) ?_
      refine tnU ?_
      exact ⟨(a1.f_Kind == 6), h, by kernel_rfl⟩
    ·rintro _ ⟨v16, h, rfl⟩
     unfold prog_writer_node_m0.j33 at h
     refine tS (b := v16) (by kernel_rfl) (fun hc17 => ?_) (fun hc17 => ?_)
     ·replace h := ite_t hc17 h
      obtain ⟨v18, hv18, h⟩ := bind_some h
      obtain ⟨v19, hv19, h⟩ := bind_some h
      refine rAC { its := [(3, .v (.named 3) hv18), (8, .c (COk.ren (hrf_prog_writer_maybe_m0 a0 v18 (a1.f_Kind == 4) v19 hv19) (fun n => if n = 60001 then 10004 else if n = 100000 then 100000 else if n = 100001 then 100001 else n) (injOn_of (by kernel_rfl))))] } [] [10004, 100000] hN (by kernel_rfl) (by kernel_rfl) (by kernel_rfl) (cS [.rn 10004 60001, .k [] [60001, 100000]] (by kernel_rfl) (by kernel_rfl)) ?_
      refine blockQ_normal ?_
      have hq := Option.some.inj h
      subst hq
      exact eN (by kernel_rfl) (by kernel_rfl)
     ·replace h := ite_f hc17 h
      refine WpC.seq ?_
      refine rS {} [0, 3, 8, 47] [3, 100000, 100001] hN (by kernel_rfl) (by kernel_rfl) ?_
      refine tnU ?_
      refine tS (b := (a1.f_Kind == 5)) (by kernel_rfl) (fun hc20 => ?_) (fun hc20 => ?_)
      ·replace h := ite_t hc20 h
       refine WpC.seq ?_
       refine rS {} [0, 3, 6] [3, 100000, 100001] hN (by kernel_rfl) (by kernel_rfl) ?_
       refine tnU ?_
       refine WpC.seq ?_
       obtain ⟨v21, hv21, h⟩ := bind_some h
       obtain ⟨v22, hv22, h⟩ := bind_some h
       refine rS { its := [(3, .v (.named 3) hv21), (5, .c (COk.ren (hrf_prog_writer_node_m0 a0 v21 v22 hv22) (fun n => if n = 60001 then 10005 else if n = 100000 then 100000 else if n = 100001 then 100001 else n) (injOn_of (by kernel_rfl))))] } [0, 6] [10005, 100000] hN (by kernel_rfl) (by kernel_rfl) ?_
       refine tnU ?_
       obtain ⟨v23, hv23, h⟩ := bind_some h
       refine rSC { its := [(9, .c (COk.ren (prog_writer_put_m0.ok O hO k v22 (T_prog_Instr.mk 1 (a0.length : Int) (IntKind.i64.wrap ((v22.length : Int) + 1)) (List.replicate 4 (0 : Int))) v23 hv23) (fun n => if n = 60001 then 10006 else if n = 100000 then 100000 else if n = 100001 then 10005 else n) (injOn_of (by kernel_rfl))))] } [] [10006, 100000] hN (by kernel_rfl) (by kernel_rfl) (cS [.rn 10006 60001, .k [] [60001, 100000]] (by kernel_rfl) (by kernel_rfl)) ?_
       refine blockQ_normal ?_
       have hq := Option.some.inj h
       subst hq
       exact eN (by kernel_rfl) (by kernel_rfl)
      ·replace h := ite_f hc20 h
       refine WpC.seq ?_
       refine rS {} [0, 3, 8, 70] [3, 100000, 100001] hN (by kernel_rfl) (by kernel_rfl) ?_
       refine tnU ?_
       refine tS (b := (a1.f_Kind == 7)) (by kernel_rfl) (fun hc24 => ?_) (fun hc24 => ?_)
       ·replace h := ite_t hc24 h
        refine WpC.seq ?_
        obtain ⟨v25, hv25, h⟩ := bind_some h
        refine rS { its := [(5, .c (COk.ren (prog_writer_put_m0.ok O hO k a0 (T_prog_Instr.mk 3 (IntKind.i64.wrap (2 * a1.f_Index)) 0 (List.replicate 4 (0 : Int))) v25 hv25) (fun n => if n = 60001 then 10007 else if n = 100000 then 100000 else if n = 100001 then 100001 else n) (injOn_of (by kernel_rfl))))] } [0, 3] [3, 10007, 100000] hN (by kernel_rfl) (by kernel_rfl) ?_
        refine tnU ?_
        refine WpC.seq ?_
        obtain ⟨v26, hv26, h⟩ := bind_some h
        obtain ⟨v27, hv27, h⟩ := bind_some h
        refine rS { its := [(3, .v (.named 3) hv26), (5, .c (COk.ren (hrf_prog_writer_node_m0 v25.2 v26 v27 hv27) (fun n => if n = 60001 then 10008 else if n = 100000 then 100000 else if n = 100001 then 10007 else n) (injOn_of (by kernel_rfl))))] } [0, 3] [3, 10008, 100000] hN (by kernel_rfl) (by kernel_rfl) ?_
        refine tnU ?_
        obtain ⟨v28, hv28, h⟩ := bind_some h
        refine rSC { its := [(6, .c (COk.ren (prog_writer_put_m0.ok O hO k v27 (T_prog_Instr.mk 3 (IntKind.i64.wrap ((IntKind.i64.wrap (2 * a1.f_Index)) + 1)) 0 (List.replicate 4 (0 : Int))) v28 hv28) (fun n => if n = 60001 then 10009 else if n = 100000 then 100000 else if n = 100001 then 10008 else n) (injOn_of (by kernel_rfl))))] } [] [10009, 100000] hN (by kernel_rfl) (by kernel_rfl) (cS [.rn 10009 60001, .k [] [60001, 100000]] (by kernel_rfl) (by kernel_rfl)) ?_
        refine blockQ_normal ?_
        have hq := Option.some.inj h
        subst hq
        exact eN (by kernel_rfl) (by kernel_rfl)
       ·replace h := ite_f hc24 h
        refine WpC.seq ?_
        refine rS {} [0, 8, 91] [100000, 100001] hN (by kernel_rfl) (by kernel_rfl) ?_
        refine tnU ?_
        refine tS (b := (a1.f_Kind == 8)) (by kernel_rfl) (fun hc29 => ?_) (fun hc29 => ?_)
        ·replace h := ite_t hc29 h
         obtain ⟨v30, hv30, h⟩ := bind_some h
         refine rSC { its := [(2, .c (COk.ren (prog_writer_put_m0.ok O hO k a0 (T_prog_Instr.mk 4 0 0 (List.replicate 4 (0 : Int))) v30 hv30) (fun n => if n = 60001 then 10010 else if n = 100000 then 100000 else if n = 100001 then 100001 else n) (injOn_of (by kernel_rfl))))] } [] [10010, 100000] hN (by kernel_rfl) (by kernel_rfl) (cS [.rn 10010 60001, .k [] [60001, 100000]] (by kernel_rfl) (by kernel_rfl)) ?_
         refine blockQ_normal ?_
         have hq := Option.some.inj h
         subst hq
         exact eN (by kernel_rfl) (by kernel_rfl)
        ·replace h := ite_f hc29 h
         refine WpC.seq ?_
         refine rS {} [0, 96] [100000, 100001] hN (by kernel_rfl) (by kernel_rfl) ?_
         refine tnU ?_
         refine tS (b := (a1.f_Kind == 9)) (by kernel_rfl) (fun hc31 => ?_) (fun hc31 => ?_)
         ·replace h := ite_t hc31 h
          obtain ⟨v32, hv32, h⟩ := bind_some h
          refine rSC { its := [(2, .c (COk.ren (prog_writer_put_m0.ok O hO k a0 (T_prog_Instr.mk 5 0 0 (List.replicate 4 (0 : Int))) v32 hv32) (fun n => if n = 60001 then 10011 else if n = 100000 then 100000 else if n = 100001 then 100001 else n) (injOn_of (by kernel_rfl))))] } [] [10011, 100000] hN (by kernel_rfl) (by kernel_rfl) (cS [.rn 10011 60001, .k [] [60001, 100000]] (by kernel_rfl) (by kernel_rfl)) ?_
          refine blockQ_normal ?_
          have hq := Option.some.inj h
          subst hq
          exact eN (by kernel_rfl) (by kernel_rfl)
         ·replace h := ite_f hc31 h
          refine WpC.conv (cS [.k [] [100000, 100001], .rn 100001 60001, .k [] [60001, 100000]] (by kernel_rfl) (by kernel_rfl)) (WpC.skip ?_)
          refine blockQ_normal ?_
          have hq := Option.some.inj h
          subst hq
          exact eN (by kernel_rfl) (by kernel_rfl)

theorem scc_prog_writer_node_m0.ok (O : Out) (hO : GOkE O) : ∀ k : Nat, (∀ (a0 : List T_prog_Instr) (a1 : List T_rex_Node) (out : List T_prog_Instr), prog_writer_alt_m0.f k a0 a1 = some out → COk Un O Tryd.prog 72 { ar := [.loc 100000 0, .p (.list (.named 3)) a1], r := .tup [], bs := [(100000, .box [.vec 100001 7 0 a0.length]), (100001, .row 104 (.named 5) a0 false)], bs' := [(60001, .row 104 (.named 5) out false), (100000, .box [.vec 60001 7 0 out.length])], nn := [60001] }) ∧ (∀ (a0 : List T_prog_Instr) (a1 : T_rex_Node) (a2 : Bool) (out : List T_prog_Instr), prog_writer_maybe_m0.f k a0 a1 a2 = some out → COk Un O Tryd.prog 73 { ar := [.loc 100000 0, .p (.named 3) a1, .p .bool a2], r := .tup [], bs := [(100000, .box [.vec 100001 7 0 a0.length]), (100001, .row 104 (.named 5) a0 false)], bs' := [(60001, .row 104 (.named 5) out false), (100000, .box [.vec 60001 7 0 out.length])], nn := [60001] }) ∧ (∀ (a0 : List T_prog_Instr) (a1 : T_rex_Node) (out : List T_prog_Instr), prog_writer_node_m0.f k a0 a1 = some out → COk Un O Tryd.prog 63 { ar := [.loc 100000 0, .p (.named 3) a1], r := .tup [], bs := [(100000, .box [.vec 100001 7 0 a0.length]), (100001, .row 104 (.named 5) a0 false)], bs' := [(60001, .row 104 (.named 5) out false), (100000, .box [.vec 60001 7 0 out.length])], nn := [60001] }) := by
 intro k
 induction k with
 | zero => exact ⟨fun a0 a1 out h => (by have h2 : (none : Option (List T_prog_Instr)) = some out := h; cases h2), fun a0 a1 a2 out h => (by have h2 : (none : Option (List T_prog_Instr)) = some out := h; cases h2), fun a0 a1 out h => (by have h2 : (none : Option (List T_prog_Instr)) = some out := h; cases h2)⟩
 | succ k ih => exact ⟨fun a0 a1 out h => prog_writer_alt_m0.bok O hO k _ ih.2.2 a0 a1 out h, fun a0 a1 a2 out h => prog_writer_maybe_m0.bok O hO k _ ih.2.2 a0 a1 a2 out h, fun a0 a1 out h => prog_writer_node_m0.bok O hO k _ _ _ ih.2.2 ih.1 ih.2.1 a0 a1 out h⟩
theorem prog_writer_node_m0.ok (O : Out) (hO : GOkE O) (k : Nat) (a0 : List T_prog_Instr) (a1 : T_rex_Node) (out : List T_prog_Instr) (h : prog_writer_node_m0.f k a0 a1 = some out) : COk Un O Tryd.prog 63 { ar := [.loc 100000 0, .p (.named 3) a1], r := .tup [], bs := [(100000, .box [.vec 100001 7 0 a0.length]), (100001, .row 104 (.named 5) a0 false)], bs' := [(60001, .row 104 (.named 5) out false), (100000, .box [.vec 60001 7 0 out.length])], nn := [60001] } := (scc_prog_writer_node_m0.ok O hO k).2.2 a0 a1 out h

theorem prog_Length.ok (O : Out) (hO : GOkE O) (k : Nat) (a0 : T_rex_Node) (out : Int) (h : prog_Length.f k a0 = some out) : COk Un O Tryd.prog 61 { ar := [.p (.named 3) a0], r := .p I6 out } := by
 refine cok_of_wp Tryd.func61 rfl (k := 12) rfl (Nat.le_of_ble_eq_true rfl) (namesOk_pure rfl rfl rfl rfl) ?_
 intro B hN
 refine WpC.conv (cvK (b := ⟨[(0, .p (.named 3) a0)], []⟩) [0] [] (by kernel_rfl)) ?_
 unfold prog_Length.f at h
 refine WpC.seq ?_
 refine rS {} [1] [1] hN (by kernel_rfl) (by kernel_rfl) ?_
 refine tnU ?_
 refine WpC.seq ?_
 refine WpC.seq ?_
 obtain ⟨v1, hv1, h⟩ := bind_some h
 refine rS { its := [(1, .c (prog_Right.ok O hO k (T_rex_Node.mk a0.f_Kind a0.f_Index a0.f_Set a0.f_Kids) v1 hv1))] } [1, 6] [1] hN (by kernel_rfl) (by kernel_rfl) ?_
 refine tnU ?_
 refine tS (b := (!v1)) (by kernel_rfl) (fun hc2 => ?_) (fun hc2 => ?_)
 ·replace h := ite_t hc2 h
  refine WpC.seq ?_
  refine rS {} [2] [] hN (by kernel_rfl) (by kernel_rfl) ?_
  refine tnU ?_
  refine WpC.ret ?_
  refine thenQ_ret ?_
  have hq := Option.some.inj h
  subst hq
  exact eR (by kernel_rfl) (by kernel_rfl)
 ·replace h := ite_f hc2 h
  refine WpC.conv (cS [.k [1] [1]] (by kernel_rfl) (by kernel_rfl)) (WpC.skip ?_)
  refine tnU ?_
  refine WpC.seq ?_
  refine rS { th := [(0, [(0, 10001, 104, .named 5)])] } [1, 3] [1, 3, 10001] hN (by kernel_rfl) (by kernel_rfl) ?_
  refine tnU ?_
  refine WpC.seq ?_
  obtain ⟨v3, hv3, h⟩ := bind_some h
  refine rS { its := [(1, .c (COk.ren (prog_writer_node_m0.ok O hO k [] (T_rex_Node.mk a0.f_Kind a0.f_Index a0.f_Set a0.f_Kids) v3 hv3) (fun n => if n = 60001 then 10002 else if n = 100000 then 3 else if n = 100001 then 10001 else n) (injOn_of (by kernel_rfl))))] } [3] [3, 10002] hN (by kernel_rfl) (by kernel_rfl) ?_
  refine tnU ?_
  refine WpC.seq ?_
  refine rS {} [2] [] hN (by kernel_rfl) (by kernel_rfl) ?_
  refine tnU ?_
  refine WpC.ret ?_
  have hq := Option.some.inj h
  subst hq
  exact eR (by kernel_rfl) (by kernel_rfl)

theorem prog_Compile.ok (O : Out) (hO : GOkE O) (k : Nat) (a0 : T_rex_Node) (out : (List T_prog_Instr) × Nat) (h : prog_Compile.f k a0 = some out) : COk Un O Tryd.prog 44 { ar := [.p (.named 3) a0], r := .tup [.p (.list (.named 5)) out.1, .p .err out.2] } := by
 refine cok_of_wp Tryd.func44 rfl (k := 26) rfl (Nat.le_of_ble_eq_true rfl) (namesOk_pure rfl rfl rfl rfl) ?_
 intro B hN
 refine WpC.conv (cvK (b := ⟨[(0, .p (.named 3) a0)], []⟩) [0] [] (by kernel_rfl)) ?_
 unfold prog_Compile.f at h
 refine WpC.seq ?_
 refine rS {} [1] [1] hN (by kernel_rfl) (by kernel_rfl) ?_
 refine tnU ?_
 refine WpC.seq ?_
 refine WpC.block ?_
 refine WpC.seq ?_
 obtain ⟨v1, hv1, h⟩ := bind_some h
 refine rS { its := [(1, .c (prog_Right.ok O hO k (T_rex_Node.mk a0.f_Kind a0.f_Index a0.f_Set a0.f_Kids) v1 hv1))] } [1, 5] [1] hN (by kernel_rfl) (by kernel_rfl) ?_
 refine tnU ?_
 refine tS (b := (!v1)) (by kernel_rfl) (fun hc2 => ?_) (fun hc2 => ?_)
 ·replace h := ite_t hc2 h
  refine WpC.seq ?_
  refine rA { its := [(0, .e 0 (sok_loadG (U := Un) (t := .err) (rs := []) rfl rfl ty_50 rfl rfl (hO.var 16 4 rfl) (fun S w => .err 16)))] } [2, 3] [] hN (by kernel_rfl) (by kernel_rfl) (by kernel_rfl) ?_
  refine tnU ?_
  refine WpC.conv (cS [.nL 2 (.named 5), .k [2, 3] []] (by kernel_rfl) (by kernel_rfl)) (WpC.ret ?_)
  refine blockQ_ret ?_
  refine thenQ_ret ?_
  have hq := Option.some.inj h
  subst hq
  exact eR (by kernel_rfl) (by kernel_rfl)
 ·replace h := ite_f hc2 h
  refine WpC.seq ?_
  obtain ⟨v3, hv3, h⟩ := bind_some h
  refine rS { its := [(1, .c (prog_Length.ok O hO k (T_rex_Node.mk a0.f_Kind a0.f_Index a0.f_Set a0.f_Kids) v3 hv3))] } [1, 10] [1] hN (by kernel_rfl) (by kernel_rfl) ?_
  refine tnU ?_
  refine tS (b := (decide ((IntKind.i64.wrap (v3 + 3)) > 200))) (by kernel_rfl) (fun hc4 => ?_) (fun hc4 => ?_)
  ·replace h := ite_t hc4 h
   refine WpC.seq ?_
   refine rA { its := [(0, .e 0 (sok_loadG (U := Un) (t := .err) (rs := []) rfl rfl ty_50 rfl rfl (hO.var 9 2 rfl) (fun S w => .err 9)))] } [2, 3] [] hN (by kernel_rfl) (by kernel_rfl) (by kernel_rfl) ?_
   refine tnU ?_
   refine WpC.conv (cS [.nL 2 (.named 5), .k [2, 3] []] (by kernel_rfl) (by kernel_rfl)) (WpC.ret ?_)
   refine blockQ_ret ?_
   refine thenQ_ret ?_
   have hq := Option.some.inj h
   subst hq
   exact eR (by kernel_rfl) (by kernel_rfl)
  ·replace h := ite_f hc4 h
   refine WpC.conv (cS [.k [1] [1]] (by kernel_rfl) (by kernel_rfl)) (WpC.skip ?_)
   refine blockQ_normal ?_
   refine tnU ?_
   refine WpC.seq ?_
   refine rS { th := [(0, [(0, 10001, 104, .named 5)])] } [1, 4] [1, 4, 10001] hN (by kernel_rfl) (by kernel_rfl) ?_
   refine tnU ?_
   refine WpC.seq ?_
   obtain ⟨v5, hv5, h⟩ := bind_some h
   refine rS { its := [(1, .c (COk.ren (prog_writer_put_m0.ok O hO k [] (T_prog_Instr.mk 3 0 0 (List.replicate 4 (0 : Int))) v5 hv5) (fun n => if n = 60001 then 10002 else if n = 100000 then 4 else if n = 100001 then 10001 else n) (injOn_of (by kernel_rfl))))] } [1, 4] [1, 4, 10002] hN (by kernel_rfl) (by kernel_rfl) ?_
   refine tnU ?_
   refine WpC.seq ?_
   obtain ⟨v6, hv6, h⟩ := bind_some h
   refine rS { its := [(1, .c (COk.ren (prog_writer_node_m0.ok O hO k v5.2 (T_rex_Node.mk a0.f_Kind a0.f_Index a0.f_Set a0.f_Kids) v6 hv6) (fun n => if n = 60001 then 10003 else if n = 100000 then 4 else if n = 100001 then 10002 else n) (injOn_of (by kernel_rfl))))] } [4] [4, 10003] hN (by kernel_rfl) (by kernel_rfl) ?_
   refine tnU ?_
   refine WpC.seq ?_
   obtain ⟨v7, hv7, h⟩ := bind_some h
   refine rS { its := [(1, .c (COk.ren (prog_writer_put_m0.ok O hO k v6 (T_prog_Instr.mk 3 1 0 (List.replicate 4 (0 : Int))) v7 hv7) (fun n => if n = 60001 then 10004 else if n = 100000 then 4 else if n = 100001 then 10003 else n) (injOn_of (by kernel_rfl))))] } [4] [4, 10004] hN (by kernel_rfl) (by kernel_rfl) ?_
   refine tnU ?_
   refine WpC.seq ?_
   obtain ⟨v8, hv8, h⟩ := bind_some h
   refine rS { its := [(1, .c (COk.ren (prog_writer_put_m0.ok O hO k v7.2 (T_prog_Instr.mk 6 0 0 (List.replicate 4 (0 : Int))) v8 hv8) (fun n => if n = 60001 then 10005 else if n = 100000 then 4 else if n = 100001 then 10004 else n) (injOn_of (by kernel_rfl))))] } [4] [4, 10005] hN (by kernel_rfl) (by kernel_rfl) ?_
   refine tnU ?_
   refine WpC.seq ?_
   refine rS {} [2, 3] [10005] hN (by kernel_rfl) (by kernel_rfl) ?_
   refine tnU ?_
   refine WpC.conv (cS [.fz 2, .k [2, 3] [], .nE 3, .k [2, 3] []] (by kernel_rfl) (by kernel_rfl)) (WpC.ret ?_)
   have hq := Option.some.inj h
   subst hq
   exact eR (by kernel_rfl) (by kernel_rfl)

theorem prog_Of.ok (O : Out) (hO : GOkE O) (k : Nat) (a0 : List UInt8) (out : (List T_prog_Instr) × Nat) (h : prog_Of.f k a0 = some out) : COk Un O Tryd.prog 26 { ar := [.p .str a0], r := .tup [.p (.list (.named 5)) out.1, .p .err out.2] } := by
 refine cok_of_wp Tryd.func26 rfl (k := 18) rfl (Nat.le_of_ble_eq_true rfl) (namesOk_pure rfl rfl rfl rfl) ?_
 intro B hN
 refine WpC.conv (cvK (b := ⟨[(0, .p .str a0)], []⟩) [0] [] (by kernel_rfl)) ?_
 unfold prog_Of.f at h
 refine WpC.seq ?_
 refine rS {} [0] [] hN (by kernel_rfl) (by kernel_rfl) ?_
 refine tnU ?_
 refine WpC.seq ?_
 obtain ⟨v1, hv1, h⟩ := bind_some h
 refine rS { its := [(1, .c (rex_Parse.ok O hO k a0 v1 hv1))] } [4, 5] [4] hN (by kernel_rfl) (by kernel_rfl) ?_
 refine tnU ?_
 refine WpC.seq ?_
 refine WpC.seq ?_
 refine rS {} [4, 5, 12] [4] hN (by kernel_rfl) (by kernel_rfl) ?_
 refine tnU ?_
 refine tS (b := (!(v1.2 == 0))) (by kernel_rfl) (fun hc2 => ?_) (fun hc2 => ?_)
 ·replace h := ite_t hc2 h
  refine WpC.seq ?_
  refine rS {} [2, 3] [] hN (by kernel_rfl) (by kernel_rfl) ?_
  refine tnU ?_
  refine WpC.conv (cS [.nL 2 (.named 5), .k [2, 3] []] (by kernel_rfl) (by kernel_rfl)) (WpC.ret ?_)
  refine thenQ_ret ?_
  have hq := Option.some.inj h
  subst hq
  exact eR (by kernel_rfl) (by kernel_rfl)
 ·replace h := ite_f hc2 h
  refine WpC.conv (cS [.k [4] [4]] (by kernel_rfl) (by kernel_rfl)) (WpC.skip ?_)
  refine tnU ?_
  refine WpC.seq ?_
  obtain ⟨v3, hv3, h⟩ := bind_some h
  refine rS { its := [(1, .c (prog_Compile.ok O hO k (T_rex_Node.mk v1.1.f_Kind v1.1.f_Index v1.1.f_Set v1.1.f_Kids) v3 hv3))] } [2, 3] [] hN (by kernel_rfl) (by kernel_rfl) ?_
  refine tnU ?_
  refine WpC.ret ?_
  have hq := Option.some.inj h
  subst hq
  exact eR (by kernel_rfl) (by kernel_rfl)

theorem millwrightnum_all.ok (O : Out) (hO : GOkE O) (k : Nat) (out : List Nat) (h : millwrightnum_all.f k = some out) : COk Un O Tryd.prog 45 { ar := [], r := .p (.list .err) out } := by
 refine cok_of_wp Tryd.func45 rfl (k := 20) rfl (Nat.le_of_ble_eq_true rfl) (namesOk_pure rfl rfl rfl rfl) ?_
 intro B hN
 refine WpC.conv (cvK (b := ⟨[], []⟩) [] [] (by kernel_rfl)) ?_
 unfold millwrightnum_all.f at h
 refine WpC.seq ?_
 refine rS {} [] [] hN (by kernel_rfl) (by kernel_rfl) ?_
 refine tnU ?_
 refine WpC.seq ?_
 refine rS { its := [(0, .e 0 (sok_loadG (U := Un) (t := .err) (rs := []) rfl rfl ty_50 rfl rfl (hO.var 0 5 rfl) (fun S w => .err 0))), (1, .e 1 (sok_loadG (U := Un) (t := .err) (rs := []) rfl rfl ty_50 rfl rfl (hO.var 1 0 rfl) (fun S w => .err 1))), (2, .e 2 (sok_loadG (U := Un) (t := .err) (rs := []) rfl rfl ty_50 rfl rfl (hO.var 2 6 rfl) (fun S w => .err 2))), (3, .e 3 (sok_loadG (U := Un) (t := .err) (rs := []) rfl rfl ty_50 rfl rfl (hO.var 3 7 rfl) (fun S w => .err 3))), (4, .e 4 (sok_loadG (U := Un) (t := .err) (rs := []) rfl rfl ty_50 rfl rfl (hO.var 4 8 rfl) (fun S w => .err 4))), (5, .e 5 (sok_loadG (U := Un) (t := .err) (rs := []) rfl rfl ty_50 rfl rfl (hO.var 5 1 rfl) (fun S w => .err 5))), (6, .e 6 (sok_loadG (U := Un) (t := .err) (rs := []) rfl rfl ty_50 rfl rfl (hO.var 6 9 rfl) (fun S w => .err 6))), (7, .e 7 (sok_loadG (U := Un) (t := .err) (rs := []) rfl rfl ty_50 rfl rfl (hO.var 7 10 rfl) (fun S w => .err 7))), (8, .e 8 (sok_loadG (U := Un) (t := .err) (rs := []) rfl rfl ty_50 rfl rfl (hO.var 8 11 rfl) (fun S w => .err 8))), (9, .e 9 (sok_loadG (U := Un) (t := .err) (rs := []) rfl rfl ty_50 rfl rfl (hO.var 9 2 rfl) (fun S w => .err 9))), (10, .e 10 (sok_loadG (U := Un) (t := .err) (rs := []) rfl rfl ty_50 rfl rfl (hO.var 10 12 rfl) (fun S w => .err 10))), (11, .e 11 (sok_loadG (U := Un) (t := .err) (rs := []) rfl rfl ty_50 rfl rfl (hO.var 11 13 rfl) (fun S w => .err 11))), (12, .e 12 (sok_loadG (U := Un) (t := .err) (rs := []) rfl rfl ty_50 rfl rfl (hO.var 12 14 rfl) (fun S w => .err 12))), (13, .e 13 (sok_loadG (U := Un) (t := .err) (rs := []) rfl rfl ty_50 rfl rfl (hO.var 13 15 rfl) (fun S w => .err 13))), (14, .e 14 (sok_loadG (U := Un) (t := .err) (rs := []) rfl rfl ty_50 rfl rfl (hO.var 14 16 rfl) (fun S w => .err 14))), (15, .e 15 (sok_loadG (U := Un) (t := .err) (rs := []) rfl rfl ty_50 rfl rfl (hO.var 15 17 rfl) (fun S w => .err 15))), (16, .e 16 (sok_loadG (U := Un) (t := .err) (rs := []) rfl rfl ty_50 rfl rfl (hO.var 16 4 rfl) (fun S w => .err 16))), (17, .e 17 (sok_loadG (U := Un) (t := .err) (rs := []) rfl rfl ty_50 rfl rfl (hO.var 17 18 rfl) (fun S w => .err 17)))] } [0] [19] hN (by kernel_rfl) (by kernel_rfl) ?_
 refine tnU ?_
 refine WpC.conv (cS [.fz 0, .k [0] []] (by kernel_rfl) (by kernel_rfl)) (WpC.ret ?_)
 have hq := Option.some.inj h
 subst hq
 exact eR (by kernel_rfl) (by kernel_rfl)

end Go.Proofs.YteddmdkbeednmaaDoor
