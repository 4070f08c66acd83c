/- A part of the proof of a given law: DNC3. Own work, printed in part by a program of mine. -/
import Derived.Test.YteddmdkbeednmaaDoorK32DNC2
namespace Go.Proofs.YteddmdkbeednmaaDoor
open Go Go.AM
set_option linter.unusedVariables false
set_option linter.unusedSimpArgs false
set_option maxRecDepth 100000
set_option maxHeartbeats 4000000
theorem millwrightnum_SameInts.ok (O : Out) (hO : GOkA O) (k : Nat) (a0 : List Int) (a1 : List Int) (out : Bool) (h : millwrightnum_SameInts.f k a0 a1 = some out) : COk Un O Tryd.prog 18 { ar := [.p (.list I6) a0, .p (.list I6) a1], r := .p .bool out } := by
 refine cok_of_wp Tryd.func18 rfl (k := 26) rfl (Nat.le_of_ble_eq_true rfl) (namesOk_pure rfl rfl rfl rfl) ?_
 intro B hN
 refine WpC.conv (cvK (b := ⟨[(0, .p (.list I6) a0), (1, .p (.list I6) a1)], []⟩) [0, 1] [] (by kernel_rfl)) ?_
 unfold millwrightnum_SameInts.f at h
 refine WpC.seq ?_
 refine rS {} [0, 1] [] hN (by kernel_rfl) (by kernel_rfl) ?_
 refine tnU ?_
 refine WpC.seq ?_
 refine WpC.seq ?_
 refine rS {} [0, 1, 10] [] hN (by kernel_rfl) (by kernel_rfl) ?_
 refine tnU ?_
 refine tS (b := ((a0.length : Int) != (a1.length : Int))) (by kernel_rfl) (fun hc1 => ?_) (fun hc1 => ?_)
 ·replace h := ite_t hc1 h
  refine WpC.seq ?_
  refine rS {} [4] [] hN (by kernel_rfl) (by kernel_rfl) ?_
  refine tnU ?_
  refine WpC.ret ?_
  refine thenQ_ret ?_
  have hq := Option.some.inj h
  subst hq
  exact eR (by kernel_rfl) (by kernel_rfl)
 ·replace h := ite_f hc1 h
  refine WpC.conv (cS [.k [0, 1] []] (by kernel_rfl) (by kernel_rfl)) (WpC.skip ?_)
  refine tnU ?_
  refine sqJ (fun st' => millwrightnum_SameInts.j2 k = some out ∧ st' = ⟨[], []⟩) ?_ ?_
  ·refine WpC.seq ?_
   refine rS {} [0, 1, 12, 13] [] hN (by kernel_rfl) (by kernel_rfl) ?_
   refine tnU ?_
   refine WpC.block ?_
   obtain ⟨o5, hlo5, h⟩ := bind_some h
   have hout6 := h
   clear h
   refine WpC.loop (U := Un) (fun n st' => ∃ v3 : Int, millwrightnum_SameInts.l4 k a0 a1 n v3 = some o5 ∧ st' = ⟨[(0, .p (.list I6) a0), (1, .p (.list I6) a1), (12, .p I6 ((a0.length : Int) : Int)), (13, .p I6 v3)], []⟩) k ⟨0, hlo5, by kernel_rfl⟩ ?_
   clear hlo5
   rintro (_ | n) _ ⟨v3, h, rfl⟩
   ·cases h
   ·rw [millwrightnum_SameInts.l4] at h
    refine WpC.seq ?_
    refine rS {} [0, 1, 12, 13, 14] [] hN (by kernel_rfl) (by kernel_rfl) ?_
    refine tnU ?_
    refine WpC.seq ?_
    refine tS (b := (decide (v3 < (a0.length : Int)))) (by kernel_rfl) (fun hc7 => ?_) (fun hc7 => ?_)
    ·replace h := ite_t hc7 h
     refine WpC.conv (cS [.k [0, 1, 12, 13] []] (by kernel_rfl) (by kernel_rfl)) (WpC.skip ?_)
     refine tnU ?_
     refine WpC.seq ?_
     refine WpC.block ?_
     refine WpC.seq ?_
     refine rS {} [0, 1, 5, 12, 13] [] hN (by kernel_rfl) (by kernel_rfl) ?_
     refine tnU ?_
     refine WpC.seq ?_
     obtain ⟨v8, hv8, h⟩ := bind_some h
     obtain ⟨v9, hv9, h⟩ := bind_some h
     refine rA { its := [(2, .v I6 hv8), (6, .v I6 hv9)] } [0, 1, 12, 13, 24] [] hN (by kernel_rfl) (by kernel_rfl) (by kernel_rfl) ?_
     refine tnU ?_
     refine tS (b := (v8 != v9)) (by kernel_rfl) (fun hc10 => ?_) (fun hc10 => ?_)
     ·replace h := ite_t hc10 h
      refine WpC.seq ?_
      refine rS {} [4] [] hN (by kernel_rfl) (by kernel_rfl) ?_
      refine tnU ?_
      refine WpC.ret ?_
      refine blockQ_ret ?_
      refine thenQ_ret ?_
      have hq := Option.some.inj h
      subst hq
      refine thenQ_ret ?_
      have h := hout6
      refine blockQ_ret ?_
      refine thenQ_ret ?_
      have hq := Option.some.inj h
      subst hq
      exact eR (by kernel_rfl) (by kernel_rfl)
     ·replace h := ite_f hc10 h
      refine WpC.conv (cS [.k [0, 1, 12, 13] []] (by kernel_rfl) (by kernel_rfl)) (WpC.skip ?_)
      refine blockQ_normal ?_
      refine tnU ?_
      refine rS {} [0, 1, 12, 13] [] hN (by kernel_rfl) (by kernel_rfl) ?_
      refine tnU ?_
      exact ⟨n, Nat.lt_succ_self n, (IntKind.i64.wrap (v3 + 1)), h, by kernel_rfl⟩
    ·replace h := ite_f hc7 h
     refine WpC.conv (cS [.k [] []] (by kernel_rfl) (by kernel_rfl)) (WpC.exit ?_)
     refine thenQ_exit ?_
     have hq := Option.some.inj h
     subst hq
     refine thenQ_exit ?_
     have h := hout6
     refine blockQ_hit ?_
     refine tnU ?_
     exact ⟨h, by kernel_rfl⟩
  ·rintro _ ⟨h, rfl⟩
   unfold millwrightnum_SameInts.j2 at h
   refine WpC.seq ?_
   refine rS {} [4] [] hN (by kernel_rfl) (by kernel_rfl) ?_
   refine tnU ?_
   refine WpC.ret ?_
   have hq := Option.some.inj h
   subst hq
   exact eR (by kernel_rfl) (by kernel_rfl)

theorem slices_Index_int_int.ok (O : Out) (hO : GOkA O) (k : Nat) (a0 : List Int) (a1 : Int) (out : Int) (h : slices_Index_int_int.f k a0 a1 = some out) : COk Un O Tryd.prog 55 { ar := [.p (.list I6) a0, .p I6 a1], r := .p I6 out } := by
 refine cok_of_wp Tryd.func55 rfl (k := 19) rfl (Nat.le_of_ble_eq_true rfl) (namesOk_pure rfl rfl rfl rfl) ?_
 intro B hN
 refine WpC.conv (cvK (b := ⟨[(0, .p (.list I6) a0), (1, .p I6 a1)], []⟩) [0, 1] [] (by kernel_rfl)) ?_
 unfold slices_Index_int_int.f at h
 refine WpC.seq ?_
 refine rS {} [0, 1] [] hN (by kernel_rfl) (by kernel_rfl) ?_
 refine tnU ?_
 refine sqJ (fun st' => slices_Index_int_int.j1 k = some out ∧ st' = ⟨[], []⟩) ?_ ?_
 ·refine WpC.seq ?_
  refine rS {} [0, 1, 7, 8] [] hN (by kernel_rfl) (by kernel_rfl) ?_
  refine tnU ?_
  refine WpC.block ?_
  obtain ⟨o4, hlo4, h⟩ := bind_some h
  have hout5 := h
  clear h
  refine WpC.loop (U := Un) (fun n st' => ∃ v2 : Int, slices_Index_int_int.l3 k a0 a1 n v2 = some o4 ∧ st' = ⟨[(0, .p (.list I6) a0), (1, .p I6 a1), (7, .p I6 ((a0.length : Int) : Int)), (8, .p I6 v2)], []⟩) k ⟨0, hlo4, by kernel_rfl⟩ ?_
  clear hlo4
  rintro (_ | n) _ ⟨v2, h, rfl⟩
  ·cases h
  ·rw [slices_Index_int_int.l3] at h
   refine WpC.seq ?_
   refine rS {} [0, 1, 7, 8, 9] [] hN (by kernel_rfl) (by kernel_rfl) ?_
   refine tnU ?_
   refine WpC.seq ?_
   refine tS (b := (decide (v2 < (a0.length : Int)))) (by kernel_rfl) (fun hc6 => ?_) (fun hc6 => ?_)
   ·replace h := ite_t hc6 h
    refine WpC.conv (cS [.k [0, 1, 7, 8] []] (by kernel_rfl) (by kernel_rfl)) (WpC.skip ?_)
    refine tnU ?_
    refine WpC.seq ?_
    refine WpC.block ?_
    refine WpC.seq ?_
    refine rS {} [0, 1, 5, 7, 8] [] hN (by kernel_rfl) (by kernel_rfl) ?_
    refine tnU ?_
    refine WpC.seq ?_
    obtain ⟨v7, hv7, h⟩ := bind_some h
    refine rS { its := [(3, .v I6 hv7)] } [0, 1, 5, 7, 8, 16] [] hN (by kernel_rfl) (by kernel_rfl) ?_
    refine tnU ?_
    refine tS (b := (a1 == v7)) (by kernel_rfl) (fun hc8 => ?_) (fun hc8 => ?_)
    ·replace h := ite_t hc8 h
     refine WpC.seq ?_
     refine rS {} [4] [] hN (by kernel_rfl) (by kernel_rfl) ?_
     refine tnU ?_
     refine WpC.ret ?_
     refine blockQ_ret ?_
     refine thenQ_ret ?_
     have hq := Option.some.inj h
     subst hq
     refine thenQ_ret ?_
     have h := hout5
     refine blockQ_ret ?_
     refine thenQ_ret ?_
     have hq := Option.some.inj h
     subst hq
     exact eR (by kernel_rfl) (by kernel_rfl)
    ·replace h := ite_f hc8 h
     refine WpC.conv (cS [.k [0, 1, 7, 8] []] (by kernel_rfl) (by kernel_rfl)) (WpC.skip ?_)
     refine blockQ_normal ?_
     refine tnU ?_
     refine rS {} [0, 1, 7, 8] [] hN (by kernel_rfl) (by kernel_rfl) ?_
     refine tnU ?_
     exact ⟨n, Nat.lt_succ_self n, (IntKind.i64.wrap (v2 + 1)), h, by kernel_rfl⟩
   ·replace h := ite_f hc6 h
    refine WpC.conv (cS [.k [] []] (by kernel_rfl) (by kernel_rfl)) (WpC.exit ?_)
    refine thenQ_exit ?_
    have hq := Option.some.inj h
    subst hq
    refine thenQ_exit ?_
    have h := hout5
    refine blockQ_hit ?_
    refine tnU ?_
    exact ⟨h, by kernel_rfl⟩
 ·rintro _ ⟨h, rfl⟩
  unfold slices_Index_int_int.j1 at h
  refine WpC.seq ?_
  refine rS {} [4] [] hN (by kernel_rfl) (by kernel_rfl) ?_
  refine tnU ?_
  refine WpC.ret ?_
  have hq := Option.some.inj h
  subst hq
  exact eR (by kernel_rfl) (by kernel_rfl)

theorem slices_Contains_int_int.ok (O : Out) (hO : GOkA O) (k : Nat) (a0 : List Int) (a1 : Int) (out : Bool) (h : slices_Contains_int_int.f k a0 a1 = some out) : COk Un O Tryd.prog 40 { ar := [.p (.list I6) a0, .p I6 a1], r := .p .bool out } := by
 refine cok_of_wp Tryd.func40 rfl (k := 9) rfl (Nat.le_of_ble_eq_true rfl) (namesOk_pure rfl rfl rfl rfl) ?_
 intro B hN
 refine WpC.conv (cvK (b := ⟨[(0, .p (.list I6) a0), (1, .p I6 a1)], []⟩) [0, 1] [] (by kernel_rfl)) ?_
 unfold slices_Contains_int_int.f at h
 refine WpC.seq ?_
 refine rS {} [0, 1] [] hN (by kernel_rfl) (by kernel_rfl) ?_
 refine tnU ?_
 refine WpC.seq ?_
 obtain ⟨v1, hv1, h⟩ := bind_some h
 refine rS { its := [(2, .c (slices_Index_int_int.ok O hO k a0 a1 v1 hv1))] } [4] [] hN (by kernel_rfl) (by kernel_rfl) ?_
 refine tnU ?_
 refine WpC.ret ?_
 have hq := Option.some.inj h
 subst hq
 exact eR (by kernel_rfl) (by kernel_rfl)

theorem denote_Spans.ok (O : Out) (hO : GOkA O) (k : Nat) (a0 : T_rex_Node) (a1 : List UInt8) (a2 : Int) (a3 : Int) (out : Bool) (h : denote_Spans.f k a0 a1 a2 a3 = some out) : COk Un O Tryd.prog 19 { ar := [.p (.named 3) a0, .p .str a1, .p I6 a2, .p I6 a3], r := .p .bool out } := by
 refine cok_of_wp Tryd.func19 rfl (k := 15) rfl (Nat.le_of_ble_eq_true rfl) (namesOk_pure rfl rfl rfl rfl) ?_
 intro B hN
 refine WpC.conv (cvK (b := ⟨[(0, .p (.named 3) a0), (1, .p .str a1), (2, .p I6 a2), (3, .p I6 a3)], []⟩) [0, 1, 2, 3] [] (by kernel_rfl)) ?_
 unfold denote_Spans.f at h
 refine WpC.seq ?_
 refine rS {} [1, 2, 3, 4] [4] hN (by kernel_rfl) (by kernel_rfl) ?_
 refine tnU ?_
 refine WpC.seq ?_
 obtain ⟨v1, hv1, h⟩ := bind_some h
 obtain ⟨v2, hv2, h⟩ := bind_some h
 refine rS { its := [(3, .c (denote_Ends.ok O hO k (T_rex_Node.mk a0.f_Kind a0.f_Index a0.f_Set a0.f_Kids) a1 a2 v1 hv1)), (5, .c (slices_Contains_int_int.ok O hO k v1 a3 v2 hv2))] } [8] [] hN (by kernel_rfl) (by kernel_rfl) ?_
 refine tnU ?_
 refine WpC.ret ?_
 have hq := Option.some.inj h
 subst hq
 exact eR (by kernel_rfl) (by kernel_rfl)

theorem denote_In.ok (O : Out) (hO : GOkA O) (k : Nat) (a0 : T_rex_Node) (a1 : List UInt8) (out : Bool) (h : denote_In.f k a0 a1 = some out) : COk Un O Tryd.prog 29 { ar := [.p (.named 3) a0, .p .str a1], r := .p .bool out } := by
 refine cok_of_wp Tryd.func29 rfl (k := 10) rfl (Nat.le_of_ble_eq_true rfl) (namesOk_pure rfl rfl rfl rfl) ?_
 intro B hN
 refine WpC.conv (cvK (b := ⟨[(0, .p (.named 3) a0), (1, .p .str a1)], []⟩) [0, 1] [] (by kernel_rfl)) ?_
 unfold denote_In.f at h
 refine WpC.seq ?_
 refine rS {} [1, 2] [2] hN (by kernel_rfl) (by kernel_rfl) ?_
 refine tnU ?_
 refine WpC.seq ?_
 obtain ⟨v1, hv1, h⟩ := bind_some h
 refine rS { its := [(4, .c (denote_Spans.ok O hO k (T_rex_Node.mk a0.f_Kind a0.f_Index a0.f_Set a0.f_Kids) a1 0 (a1.length : Int) v1 hv1))] } [4] [] hN (by kernel_rfl) (by kernel_rfl) ?_
 refine tnU ?_
 refine WpC.ret ?_
 have hq := Option.some.inj h
 subst hq
 exact eR (by kernel_rfl) (by kernel_rfl)

theorem millwrightlaw10_alive.ok (O : Out) (hO : GOkA O) (k : Nat) (out : Bool) (h : millwrightlaw10_alive.f k = some out) : COk Un O Tryd.prog 7 { ar := [], r := .p .bool out } := by
 refine cok_of_wp Tryd.func7 rfl (k := 24) rfl (Nat.le_of_ble_eq_true rfl) (namesOk_pure rfl rfl rfl rfl) ?_
 intro B hN
 refine WpC.conv (cvK (b := ⟨[], []⟩) [] [] (by kernel_rfl)) ?_
 unfold millwrightlaw10_alive.f at h
 refine WpC.seq ?_
 refine rS {} [] [] hN (by kernel_rfl) (by kernel_rfl) ?_
 refine tnU ?_
 refine WpC.seq ?_
 obtain ⟨v1, hv1, h⟩ := bind_some h
 refine rS { its := [(0, .c (rex_Parse.ok O hO k ([97, 42] : List UInt8) v1 hv1))] } [1, 2] [1] hN (by kernel_rfl) (by kernel_rfl) ?_
 refine tnU ?_
 refine WpC.seq ?_
 rcases bool_cases (v1.2 == 0) with hc2 | hc2
 ·replace h := ite_t hc2 h
  obtain ⟨v3, hv3, h⟩ := bind_some h
  obtain ⟨v4, hv4, h⟩ := bind_some h
  rcases bool_cases v4 with hc5 | hc5
  ·replace h := ite_t hc5 h
   obtain ⟨v6, hv6, h⟩ := bind_some h
   rcases bool_cases v6 with hc7 | hc7
   ·replace h := ite_t hc7 h
    obtain ⟨v8, hv8, h⟩ := bind_some h
    refine rS { its := [(4, .c (denote_Ends.ok O hO k (T_rex_Node.mk v1.1.f_Kind v1.1.f_Index v1.1.f_Set v1.1.f_Kids) ([97, 97, 98] : List UInt8) 0 v3 hv3)), (6, .c (millwrightnum_SameInts.ok O hO k v3 [(0 : Int), (1 : Int), (2 : Int)] v4 hv4)), (10, .c (denote_In.ok O hO k (T_rex_Node.mk v1.1.f_Kind v1.1.f_Index v1.1.f_Set v1.1.f_Kids) ([97, 97] : List UInt8) v6 hv6)), (14, .c (denote_In.ok O hO k (T_rex_Node.mk v1.1.f_Kind v1.1.f_Index v1.1.f_Set v1.1.f_Kids) ([98] : List UInt8) v8 hv8))], kn := [(9, .t hc2), (15, .t hc5), (19, .t hc7)] } [0] [] hN (by kernel_rfl) (by kernel_rfl) ?_
    refine tnU ?_
    refine WpC.ret ?_
    have hq := Option.some.inj h
    subst hq
    exact eR (by kernel_rfl) (by kernel_rfl)
   ·replace h := ite_f hc7 h
    refine rS { its := [(4, .c (denote_Ends.ok O hO k (T_rex_Node.mk v1.1.f_Kind v1.1.f_Index v1.1.f_Set v1.1.f_Kids) ([97, 97, 98] : List UInt8) 0 v3 hv3)), (6, .c (millwrightnum_SameInts.ok O hO k v3 [(0 : Int), (1 : Int), (2 : Int)] v4 hv4)), (10, .c (denote_In.ok O hO k (T_rex_Node.mk v1.1.f_Kind v1.1.f_Index v1.1.f_Set v1.1.f_Kids) ([97, 97] : List UInt8) v6 hv6))], kn := [(9, .t hc2), (15, .t hc5), (19, .f hc7)] } [0] [] hN (by kernel_rfl) (by kernel_rfl) ?_
    refine tnU ?_
    refine WpC.ret ?_
    have hq := Option.some.inj h
    subst hq
    exact eR (by kernel_rfl) (by kernel_rfl)
  ·replace h := ite_f hc5 h
   refine rS { its := [(4, .c (denote_Ends.ok O hO k (T_rex_Node.mk v1.1.f_Kind v1.1.f_Index v1.1.f_Set v1.1.f_Kids) ([97, 97, 98] : List UInt8) 0 v3 hv3)), (6, .c (millwrightnum_SameInts.ok O hO k v3 [(0 : Int), (1 : Int), (2 : Int)] v4 hv4))], kn := [(9, .t hc2), (15, .f hc5)] } [0] [] hN (by kernel_rfl) (by kernel_rfl) ?_
   refine tnU ?_
   refine WpC.ret ?_
   have hq := Option.some.inj h
   subst hq
   exact eR (by kernel_rfl) (by kernel_rfl)
 ·replace h := ite_f hc2 h
  refine rS { kn := [(9, .f hc2)] } [0] [] hN (by kernel_rfl) (by kernel_rfl) ?_
  refine tnU ?_
  refine WpC.ret ?_
  have hq := Option.some.inj h
  subst hq
  exact eR (by kernel_rfl) (by kernel_rfl)

theorem millwrightlaw08_left.bok (O : Out) (hO : GOkA O) (k : Nat) (rf_millwrightlaw08_left : T_rex_Node → Int → Option Int) (hrf_millwrightlaw08_left : ∀ (a0 : T_rex_Node) (a1 : Int) (out : Int), rf_millwrightlaw08_left a0 a1 = some out → COk Un O Tryd.prog 30 { ar := [.p (.named 3) a0, .p I6 a1], r := .p I6 out }) (a0 : T_rex_Node) (a1 : Int) (out : Int) (h : millwrightlaw08_left.b k rf_millwrightlaw08_left a0 a1 = some out) : COk Un O Tryd.prog 30 { ar := [.p (.named 3) a0, .p I6 a1], r := .p I6 out } := by
 refine cok_of_wp Tryd.func30 rfl (k := 23) rfl (Nat.le_of_ble_eq_true rfl) (namesOk_pure rfl rfl rfl rfl) ?_
 intro B hN
 refine WpC.conv (cvK (b := ⟨[(0, .p (.named 3) a0), (1, .p I6 a1)], []⟩) [0, 1] [] (by kernel_rfl)) ?_
 unfold millwrightlaw08_left.b at h
 refine WpC.seq ?_
 refine rS {} [1, 2] [2] hN (by kernel_rfl) (by kernel_rfl) ?_
 refine tnU ?_
 refine WpC.seq ?_
 refine rS {} [1, 2] [2] hN (by kernel_rfl) (by kernel_rfl) ?_
 refine tnU ?_
 refine sqJ (fun st' => ∃ v1 : Int, millwrightlaw08_left.j2 k v1 = some out ∧ st' = ⟨[(1, .p I6 v1)], []⟩) ?_ ?_
 ·refine WpC.seq ?_
  refine rS {} [1, 10, 11, 12] [] hN (by kernel_rfl) (by kernel_rfl) ?_
  refine tnU ?_
  refine WpC.block ?_
  obtain ⟨o7, hlo7, h⟩ := bind_some h
  have hout8 := h
  clear h
  refine WpC.loop (U := Un) (fun n st' => ∃ v3 : Int, ∃ v4 : Int, millwrightlaw08_left.l5 k rf_millwrightlaw08_left a0 n v3 v4 = some o7 ∧ st' = ⟨[(1, .p I6 v3), (10, .p (.list (.named 3)) a0.f_Kids), (11, .p I6 ((a0.f_Kids.length : Int) : Int)), (12, .p I6 v4)], []⟩) k ⟨(IntKind.i64.wrap (a1 - 1)), 0, hlo7, by kernel_rfl⟩ ?_
  clear hlo7
  rintro (_ | n) _ ⟨v3, v4, h, rfl⟩
  ·cases h
  ·rw [millwrightlaw08_left.l5] at h
   refine WpC.seq ?_
   refine rS {} [1, 10, 11, 12, 13] [] hN (by kernel_rfl) (by kernel_rfl) ?_
   refine tnU ?_
   refine WpC.seq ?_
   refine tS (b := (decide (v4 < (a0.f_Kids.length : Int)))) (by kernel_rfl) (fun hc9 => ?_) (fun hc9 => ?_)
   ·replace h := ite_t hc9 h
    refine WpC.conv (cS [.k [1, 10, 11, 12] []] (by kernel_rfl) (by kernel_rfl)) (WpC.skip ?_)
    refine tnU ?_
    refine WpC.seq ?_
    refine WpC.block ?_
    refine WpC.seq ?_
    obtain ⟨v10, hv10, h⟩ := bind_some h
    refine rS { its := [(0, .v (.named 3) hv10)] } [1, 6, 10, 11, 12] [6] hN (by kernel_rfl) (by kernel_rfl) ?_
    refine tnU ?_
    refine WpC.seq ?_
    refine WpC.seq ?_
    refine rS {} [1, 6, 10, 11, 12, 17] [6] hN (by kernel_rfl) (by kernel_rfl) ?_
    refine tnU ?_
    refine tS (b := (decide (v3 < 0))) (by kernel_rfl) (fun hc11 => ?_) (fun hc11 => ?_)
    ·replace h := ite_t hc11 h
     refine WpC.seq ?_
     refine rS {} [4] [] hN (by kernel_rfl) (by kernel_rfl) ?_
     refine tnU ?_
     refine WpC.ret ?_
     refine thenQ_ret ?_
     refine blockQ_ret ?_
     refine thenQ_ret ?_
     have hq := Option.some.inj h
     subst hq
     refine thenQ_ret ?_
     have h := hout8
     refine blockQ_ret ?_
     refine thenQ_ret ?_
     have hq := Option.some.inj h
     subst hq
     exact eR (by kernel_rfl) (by kernel_rfl)
    ·replace h := ite_f hc11 h
     refine WpC.conv (cS [.k [1, 6, 10, 11, 12] [6]] (by kernel_rfl) (by kernel_rfl)) (WpC.skip ?_)
     refine tnU ?_
     obtain ⟨v12, hv12, h⟩ := bind_some h
     refine rS { its := [(2, .c (hrf_millwrightlaw08_left (T_rex_Node.mk v10.f_Kind v10.f_Index v10.f_Set v10.f_Kids) v3 v12 hv12))] } [1, 10, 11, 12] [] hN (by kernel_rfl) (by kernel_rfl) ?_
     refine blockQ_normal ?_
     refine tnU ?_
     refine rS {} [1, 10, 11, 12] [] hN (by kernel_rfl) (by kernel_rfl) ?_
     refine tnU ?_
     exact ⟨n, Nat.lt_succ_self n, v12, (IntKind.i64.wrap (v4 + 1)), h, by kernel_rfl⟩
   ·replace h := ite_f hc9 h
    refine WpC.conv (cS [.k [1] []] (by kernel_rfl) (by kernel_rfl)) (WpC.exit ?_)
    refine thenQ_exit ?_
    have hq := Option.some.inj h
    subst hq
    refine thenQ_exit ?_
    have h := hout8
    refine blockQ_hit ?_
    refine tnU ?_
    exact ⟨v3, h, by kernel_rfl⟩
 ·rintro _ ⟨v1, h, rfl⟩
  unfold millwrightlaw08_left.j2 at h
  refine WpC.seq ?_
  refine rS {} [4] [] hN (by kernel_rfl) (by kernel_rfl) ?_
  refine tnU ?_
  refine WpC.ret ?_
  have hq := Option.some.inj h
  subst hq
  exact eR (by kernel_rfl) (by kernel_rfl)

theorem scc_millwrightlaw08_left.ok (O : Out) (hO : GOkA O) : ∀ k : Nat, (∀ (a0 : T_rex_Node) (a1 : Int) (out : Int), millwrightlaw08_left.f k a0 a1 = some out → COk Un O Tryd.prog 30 { ar := [.p (.named 3) a0, .p (.int .i64) a1], r := .p (.int .i64) out }) := by
 intro k
 induction k with
 | zero => exact fun a0 a1 out h => (by have h2 : (none : Option Int) = some out := h; cases h2)
 | succ k ih => exact fun a0 a1 out h => millwrightlaw08_left.bok O hO k _ ih a0 a1 out h
theorem millwrightlaw08_left.ok (O : Out) (hO : GOkA O) (k : Nat) (a0 : T_rex_Node) (a1 : Int) (out : Int) (h : millwrightlaw08_left.f k a0 a1 = some out) : COk Un O Tryd.prog 30 { ar := [.p (.named 3) a0, .p (.int .i64) a1], r := .p (.int .i64) out } := (scc_millwrightlaw08_left.ok O hO k) a0 a1 out h

theorem millwrightlaw08_Great.ok (O : Out) (hO : GOkA O) (k : Nat) (a0 : T_rex_Node) (a1 : Int) (out : Bool) (h : millwrightlaw08_Great.f k a0 a1 = some out) : COk Un O Tryd.prog 8 { ar := [.p (.named 3) a0, .p I6 a1], r := .p .bool out } := by
 refine cok_of_wp Tryd.func8 rfl (k := 9) rfl (Nat.le_of_ble_eq_true rfl) (namesOk_pure rfl rfl rfl rfl) ?_
 intro B hN
 refine WpC.conv (cvK (b := ⟨[(0, .p (.named 3) a0), (1, .p I6 a1)], []⟩) [0, 1] [] (by kernel_rfl)) ?_
 unfold millwrightlaw08_Great.f at h
 refine WpC.seq ?_
 refine rS {} [1, 2] [2] hN (by kernel_rfl) (by kernel_rfl) ?_
 refine tnU ?_
 refine WpC.seq ?_
 obtain ⟨v1, hv1, h⟩ := bind_some h
 refine rS { its := [(2, .c (millwrightlaw08_left.ok O hO k (T_rex_Node.mk a0.f_Kind a0.f_Index a0.f_Set a0.f_Kids) a1 v1 hv1))] } [4] [] hN (by kernel_rfl) (by kernel_rfl) ?_
 refine tnU ?_
 refine WpC.ret ?_
 have hq := Option.some.inj h
 subst hq
 exact eR (by kernel_rfl) (by kernel_rfl)

theorem millwrightlaw07_Of.bok (O : Out) (hO : GOkA O) (k : Nat) (rf_millwrightlaw07_Of : T_rex_Node → Option T_millwrightref07_Node) (hrf_millwrightlaw07_Of : ∀ (a0 : T_rex_Node) (out : T_millwrightref07_Node), rf_millwrightlaw07_Of a0 = some out → COk Un O Tryd.prog 15 { ar := [.p (.named 3) a0], r := .p (.named 4) out }) (a0 : T_rex_Node) (out : T_millwrightref07_Node) (h : millwrightlaw07_Of.b k rf_millwrightlaw07_Of a0 = some out) : COk Un O Tryd.prog 15 { ar := [.p (.named 3) a0], r := .p (.named 4) out } := by
 refine cok_of_wp Tryd.func15 rfl (k := 29) rfl (Nat.le_of_ble_eq_true rfl) (namesOk_pure rfl rfl rfl rfl) ?_
 intro B hN
 refine WpC.conv (cvK (b := ⟨[(0, .p (.named 3) a0)], []⟩) [0] [] (by kernel_rfl)) ?_
 unfold millwrightlaw07_Of.b at h
 refine WpC.seq ?_
 refine rS { th := [(1, [(3, 10001, 38, .named 4)])] } [1, 2] [1, 2, 10001] hN (by kernel_rfl) (by kernel_rfl) ?_
 refine tnU ?_
 refine WpC.seq ?_
 refine rS { th := [(7, [(3, 10002, 38, .named 4)]), (8, [(3, 10003, 38, .named 4)])] } [1, 2, 3] [1, 2, 3, 10001, 10003] hN (by kernel_rfl) (by kernel_rfl) ?_
 refine tnU ?_
 refine sqJ (fun st' => ∃ v1 : List T_millwrightref07_Node, millwrightlaw07_Of.j2 k a0 v1 = some out ∧ st' = ⟨[(2, .loc 2 0), (3, .loc 3 0)], [(2, .box [.p I6 (0 : Int), .p I6 (0 : Int), .p U6 ((List.replicate 4 (0 : Int)) : List Int), .vec 10001 7 0 0]), (3, .box [.p I6 a0.f_Kind, .p I6 a0.f_Index, .p U6 a0.f_Set, .vec 62195 7 0 v1.length]), (10001, .row 38 (.named 4) [] false), (62195, .row 38 (.named 4) v1 false)]⟩) ?_ ?_
 ·refine WpC.seq ?_
  refine rS {} [2, 3, 14, 15, 16] [2, 3, 10001, 10003] hN (by kernel_rfl) (by kernel_rfl) ?_
  refine tnU ?_
  refine WpC.block ?_
  obtain ⟨o7, hlo7, h⟩ := bind_some h
  have hout8 := h
  clear h
  refine WpC.conv (cS [.rn 10003 62195, .k [2, 3, 14, 15, 16] [2, 3, 10001, 62195]] (by kernel_rfl) (by kernel_rfl)) ?_
  refine WpC.loop (U := Un) (fun n st' => ∃ v3 : List T_millwrightref07_Node, ∃ v4 : Int, millwrightlaw07_Of.l5 k rf_millwrightlaw07_Of a0 n v3 v4 = some o7 ∧ st' = ⟨[(2, .loc 2 0), (3, .loc 3 0), (14, .p (.list (.named 3)) a0.f_Kids), (15, .p I6 ((a0.f_Kids.length : Int) : Int)), (16, .p I6 v4)], [(2, .box [.p I6 (0 : Int), .p I6 (0 : Int), .p U6 ((List.replicate 4 (0 : Int)) : List Int), .vec 10001 7 0 0]), (3, .box [.p I6 a0.f_Kind, .p I6 a0.f_Index, .p U6 a0.f_Set, .vec 62195 7 0 v3.length]), (10001, .row 38 (.named 4) [] false), (62195, .row 38 (.named 4) v3 false)]⟩) k ⟨[], 0, hlo7, by kernel_rfl⟩ ?_
  clear hlo7
  rintro (_ | n) _ ⟨v3, v4, h, rfl⟩
  ·cases h
  ·rw [millwrightlaw07_Of.l5] at h
   refine WpC.seq ?_
   refine rS {} [2, 3, 14, 15, 16, 17] [2, 3, 10001, 62195] hN (by kernel_rfl) (by kernel_rfl) ?_
   refine tnU ?_
   refine WpC.seq ?_
   refine tS (b := (decide (v4 < (a0.f_Kids.length : Int)))) (by kernel_rfl) (fun hc9 => ?_) (fun hc9 => ?_)
   ·replace h := ite_t hc9 h
    refine WpC.conv (cS [.k [2, 3, 14, 15, 16] [2, 3, 10001, 62195]] (by kernel_rfl) (by kernel_rfl)) (WpC.skip ?_)
    refine tnU ?_
    refine WpC.seq ?_
    refine WpC.block ?_
    refine WpC.seq ?_
    obtain ⟨v10, hv10, h⟩ := bind_some h
    refine rS { its := [(0, .v (.named 3) hv10)] } [2, 3, 5, 14, 15, 16] [2, 3, 5, 10001, 62195] hN (by kernel_rfl) (by kernel_rfl) ?_
    refine tnU ?_
    obtain ⟨v11, hv11, h⟩ := bind_some h
    obtain ⟨g12, h⟩ := if_some h
    refine rA { its := [(3, .c (hrf_millwrightlaw07_Of (T_rex_Node.mk v10.f_Kind v10.f_Index v10.f_Set v10.f_Kids) v11 hv11)), (5, .g g12)] } [2, 3, 14, 15, 16] [2, 3, 25, 10001] hN (by kernel_rfl) (by kernel_rfl) (by kernel_rfl) ?_
    refine blockQ_normal ?_
    refine tnU ?_
    refine rSC {} [2, 3, 14, 15, 16] [2, 3, 25, 10001] hN (by kernel_rfl) (by kernel_rfl) (cS [.rn 25 62195, .k [2, 3, 14, 15, 16] [2, 3, 10001, 62195]] (by kernel_rfl) (by kernel_rfl)) ?_
    refine tnU ?_
    exact ⟨n, Nat.lt_succ_self n, (v3 ++ [v11]), (IntKind.i64.wrap (v4 + 1)), h, by kernel_rfl⟩
   ·replace h := ite_f hc9 h
    refine WpC.conv (cS [.k [2, 3] [2, 3, 10001, 62195]] (by kernel_rfl) (by kernel_rfl)) (WpC.exit ?_)
    refine thenQ_exit ?_
    have hq := Option.some.inj h
    subst hq
    refine thenQ_exit ?_
    have h := hout8
    refine blockQ_hit ?_
    refine tnU ?_
    exact ⟨v3, h, by kernel_rfl⟩
 ·rintro _ ⟨v1, h, rfl⟩
  unfold millwrightlaw07_Of.j2 at h
  refine WpC.seq ?_
  refine rS {} [2] [2, 62195] hN (by kernel_rfl) (by kernel_rfl) ?_
  refine tnU ?_
  refine WpC.conv (cS [.fu 2 3, .k [2] [2]] (by kernel_rfl) (by kernel_rfl)) (WpC.ret ?_)
  have hq := Option.some.inj h
  subst hq
  exact eR (by kernel_rfl) (by kernel_rfl)

theorem scc_millwrightlaw07_Of.ok (O : Out) (hO : GOkA O) : ∀ k : Nat, (∀ (a0 : T_rex_Node) (out : T_millwrightref07_Node), millwrightlaw07_Of.f k a0 = some out → COk Un O Tryd.prog 15 { ar := [.p (.named 3) a0], r := .p (.named 4) out }) := by
 intro k
 induction k with
 | zero => exact fun a0 out h => (by have h2 : (none : Option T_millwrightref07_Node) = some out := h; cases h2)
 | succ k ih => exact fun a0 out h => millwrightlaw07_Of.bok O hO k _ ih a0 out h
theorem millwrightlaw07_Of.ok (O : Out) (hO : GOkA O) (k : Nat) (a0 : T_rex_Node) (out : T_millwrightref07_Node) (h : millwrightlaw07_Of.f k a0 = some out) : COk Un O Tryd.prog 15 { ar := [.p (.named 3) a0], r := .p (.named 4) out } := (scc_millwrightlaw07_Of.ok O hO k) a0 out h

theorem millwrightref08_Right.bok (O : Out) (hO : GOkA O) (k : Nat) (rf_millwrightref08_Right : T_millwrightref07_Node → Option Bool) (hrf_millwrightref08_Right : ∀ (a0 : T_millwrightref07_Node) (out : Bool), rf_millwrightref08_Right a0 = some out → COk Un O Tryd.prog 16 { ar := [.p (.named 4) a0], r := .p .bool out }) (a0 : T_millwrightref07_Node) (out : Bool) (h : millwrightref08_Right.b k rf_millwrightref08_Right a0 = some out) : COk Un O Tryd.prog 16 { ar := [.p (.named 4) a0], r := .p .bool out } := by
 refine cok_of_wp Tryd.func16 rfl (k := 80) rfl (Nat.le_of_ble_eq_true rfl) (namesOk_pure rfl rfl rfl rfl) ?_
 intro B hN
 refine WpC.conv (cvK (b := ⟨[(0, .p (.named 4) a0)], []⟩) [0] [] (by kernel_rfl)) ?_
 unfold millwrightref08_Right.b at h
 refine WpC.seq ?_
 refine rS {} [1] [1] hN (by kernel_rfl) (by kernel_rfl) ?_
 refine tnU ?_
 refine sqJ (fun st' => millwrightref08_Right.j44 k rf_millwrightref08_Right a0 = some out ∧ st' = ⟨[(1, .loc 1 0)], [(1, .box [.p I6 a0.f_Kind, .p I6 a0.f_Index, .p U6 a0.f_Set, .p (.list (.named 4)) a0.f_Kids])]⟩) ?_ ?_
 ·refine sqJ (fun st' => ∃ v45 : Bool, millwrightref08_Right.j47 k rf_millwrightref08_Right a0 v45 = some out ∧ st' = ⟨[(1, .loc 1 0), (14, .p .bool v45)], [(1, .box [.p I6 a0.f_Kind, .p I6 a0.f_Index, .p U6 a0.f_Set, .p (.list (.named 4)) a0.f_Kids])]⟩) ?_ ?_
  ·rcases bool_cases (decide (a0.f_Kind < 0)) with hc48 | hc48
   ·replace h := ite_t hc48 h
    refine rS { kn := [(10, .t hc48)] } [1, 14] [1] hN (by kernel_rfl) (by kernel_rfl) ?_
    refine tnU ?_
    exact ⟨true, h, by kernel_rfl⟩
   ·replace h := ite_f hc48 h
    refine rS { kn := [(10, .f hc48)] } [1, 14] [1] hN (by kernel_rfl) (by kernel_rfl) ?_
    refine tnU ?_
    exact ⟨(decide (a0.f_Kind > 9)), h, by kernel_rfl⟩
  ·rintro _ ⟨v45, h, rfl⟩
   unfold millwrightref08_Right.j47 at h
   refine tS (b := v45) (by kernel_rfl) (fun hc46 => ?_) (fun hc46 => ?_)
   ·replace h := ite_t hc46 h
    refine WpC.seq ?_
    refine rS {} [2] [] hN (by kernel_rfl) (by kernel_rfl) ?_
    refine tnU ?_
    refine WpC.ret ?_
    refine thenQ_ret ?_
    have hq := Option.some.inj h
    subst hq
    exact eR (by kernel_rfl) (by kernel_rfl)
   ·replace h := ite_f hc46 h
    refine WpC.conv (cS [.k [1] [1]] (by kernel_rfl) (by kernel_rfl)) (WpC.skip ?_)
    refine tnU ?_
    exact ⟨h, by kernel_rfl⟩
 ·rintro _ ⟨h, rfl⟩
  unfold millwrightref08_Right.j44 at h
  refine WpC.seq ?_
  refine rS {} [1, 3] [1] hN (by kernel_rfl) (by kernel_rfl) ?_
  refine tnU ?_
  refine sqJ (fun st' => millwrightref08_Right.j30 k rf_millwrightref08_Right a0 = some out ∧ st' = ⟨[(1, .loc 1 0)], [(1, .box [.p I6 a0.f_Kind, .p I6 a0.f_Index, .p U6 a0.f_Set, .p (.list (.named 4)) a0.f_Kids])]⟩) ?_ ?_
  ·refine WpC.seq ?_
   refine rS {} [1, 3, 19] [1] hN (by kernel_rfl) (by kernel_rfl) ?_
   refine tnU ?_
   refine WpC.block ?_
   refine sqJ (fun st' => ∃ v31 : Bool, millwrightref08_Right.j42 k rf_millwrightref08_Right a0 v31 = some out ∧ st' = ⟨[(1, .loc 1 0), (3, .p I6 ((a0.f_Kids.length : Int) : Int)), (19, .p I6 a0.f_Kind), (22, .p .bool v31)], [(1, .box [.p I6 a0.f_Kind, .p I6 a0.f_Index, .p U6 a0.f_Set, .p (.list (.named 4)) a0.f_Kids])]⟩) ?_ ?_
   ·refine WpC.seq ?_
    refine rS {} [1, 3, 19, 22] [1] hN (by kernel_rfl) (by kernel_rfl) ?_
    refine tnU ?_
    refine tS (b := (a0.f_Kind == 2)) (by kernel_rfl) (fun hc43 => ?_) (fun hc43 => ?_)
    ·replace h := ite_t hc43 h
     refine WpC.skip ?_
     refine tnU ?_
     exact ⟨(a0.f_Kind == 2), h, by kernel_rfl⟩
    ·replace h := ite_f hc43 h
     refine rS {} [1, 3, 19, 22] [1] hN (by kernel_rfl) (by kernel_rfl) ?_
     refine tnU ?_
     exact ⟨(a0.f_Kind == 3), h, by kernel_rfl⟩
   ·rintro _ ⟨v31, h, rfl⟩
    unfold millwrightref08_Right.j42 at h
    refine tS (b := v31) (by kernel_rfl) (fun hc32 => ?_) (fun hc32 => ?_)
    ·replace h := ite_t hc32 h
     refine WpC.seq ?_
     refine rS {} [1, 26] [1] hN (by kernel_rfl) (by kernel_rfl) ?_
     refine tnU ?_
     refine tS (b := (decide ((a0.f_Kids.length : Int) < 2))) (by kernel_rfl) (fun hc33 => ?_) (fun hc33 => ?_)
     ·replace h := ite_t hc33 h
      refine WpC.seq ?_
      refine rS {} [2] [] hN (by kernel_rfl) (by kernel_rfl) ?_
      refine tnU ?_
      refine WpC.ret ?_
      refine blockQ_ret ?_
      refine thenQ_ret ?_
      have hq := Option.some.inj h
      subst hq
      exact eR (by kernel_rfl) (by kernel_rfl)
     ·replace h := ite_f hc33 h
      refine WpC.conv (cS [.k [1] [1]] (by kernel_rfl) (by kernel_rfl)) (WpC.skip ?_)
      refine blockQ_normal ?_
      refine tnU ?_
      exact ⟨h, by kernel_rfl⟩
    ·replace h := ite_f hc32 h
     refine sqJ (fun st' => ∃ v34 : Bool, millwrightref08_Right.j38 k rf_millwrightref08_Right a0 v34 = some out ∧ st' = ⟨[(1, .loc 1 0), (3, .p I6 ((a0.f_Kids.length : Int) : Int)), (27, .p .bool v34)], [(1, .box [.p I6 a0.f_Kind, .p I6 a0.f_Index, .p U6 a0.f_Set, .p (.list (.named 4)) a0.f_Kids])]⟩) ?_ ?_
     ·refine WpC.seq ?_
      refine rS {} [1, 3, 19, 27] [1] hN (by kernel_rfl) (by kernel_rfl) ?_
      refine tnU ?_
      refine tS (b := (a0.f_Kind == 4)) (by kernel_rfl) (fun hc39 => ?_) (fun hc39 => ?_)
      ·replace h := ite_t hc39 h
       refine WpC.conv (cS [.k [1, 3, 27] [1]] (by kernel_rfl) (by kernel_rfl)) (WpC.skip ?_)
       refine tnU ?_
       exact ⟨(a0.f_Kind == 4), h, by kernel_rfl⟩
      ·replace h := ite_f hc39 h
       refine WpC.seq ?_
       refine rS {} [1, 3, 19, 27] [1] hN (by kernel_rfl) (by kernel_rfl) ?_
       refine tnU ?_
       refine tS (b := (a0.f_Kind == 5)) (by kernel_rfl) (fun hc40 => ?_) (fun hc40 => ?_)
       ·replace h := ite_t hc40 h
        refine WpC.conv (cS [.k [1, 3, 27] [1]] (by kernel_rfl) (by kernel_rfl)) (WpC.skip ?_)
        refine tnU ?_
        exact ⟨(a0.f_Kind == 5), h, by kernel_rfl⟩
       ·replace h := ite_f hc40 h
        refine WpC.seq ?_
        refine rS {} [1, 3, 19, 27] [1] hN (by kernel_rfl) (by kernel_rfl) ?_
        refine tnU ?_
        refine tS (b := (a0.f_Kind == 6)) (by kernel_rfl) (fun hc41 => ?_) (fun hc41 => ?_)
        ·replace h := ite_t hc41 h
         refine WpC.conv (cS [.k [1, 3, 27] [1]] (by kernel_rfl) (by kernel_rfl)) (WpC.skip ?_)
         refine tnU ?_
         exact ⟨(a0.f_Kind == 6), h, by kernel_rfl⟩
        ·replace h := ite_f hc41 h
         refine rS {} [1, 3, 27] [1] hN (by kernel_rfl) (by kernel_rfl) ?_
         refine tnU ?_
         exact ⟨(a0.f_Kind == 7), h, by kernel_rfl⟩
     ·rintro _ ⟨v34, h, rfl⟩
      unfold millwrightref08_Right.j38 at h
      refine tS (b := v34) (by kernel_rfl) (fun hc35 => ?_) (fun hc35 => ?_)
      ·replace h := ite_t hc35 h
       refine WpC.seq ?_
       refine rS {} [1, 33] [1] hN (by kernel_rfl) (by kernel_rfl) ?_
       refine tnU ?_
       refine tS (b := ((a0.f_Kids.length : Int) != 1)) (by kernel_rfl) (fun hc36 => ?_) (fun hc36 => ?_)
       ·replace h := ite_t hc36 h
        refine WpC.seq ?_
        refine rS {} [2] [] hN (by kernel_rfl) (by kernel_rfl) ?_
        refine tnU ?_
        refine WpC.ret ?_
        refine blockQ_ret ?_
        refine thenQ_ret ?_
        have hq := Option.some.inj h
        subst hq
        exact eR (by kernel_rfl) (by kernel_rfl)
       ·replace h := ite_f hc36 h
        refine WpC.conv (cS [.k [1] [1]] (by kernel_rfl) (by kernel_rfl)) (WpC.skip ?_)
        refine blockQ_normal ?_
        refine tnU ?_
        exact ⟨h, by kernel_rfl⟩
      ·replace h := ite_f hc35 h
       refine WpC.seq ?_
       refine rS {} [1, 21] [1] hN (by kernel_rfl) (by kernel_rfl) ?_
       refine tnU ?_
       refine tS (b := ((a0.f_Kids.length : Int) != 0)) (by kernel_rfl) (fun hc37 => ?_) (fun hc37 => ?_)
       ·replace h := ite_t hc37 h
        refine WpC.seq ?_
        refine rS {} [2] [] hN (by kernel_rfl) (by kernel_rfl) ?_
        refine tnU ?_
        refine WpC.ret ?_
        refine blockQ_ret ?_
        refine thenQ_ret ?_
        have hq := Option.some.inj h
        subst hq
        exact eR (by kernel_rfl) (by kernel_rfl)
       ·replace h := ite_f hc37 h
        refine WpC.conv (cS [.k [1] [1]] (by kernel_rfl) (by kernel_rfl)) (WpC.skip ?_)
        refine blockQ_normal ?_
        refine tnU ?_
        exact ⟨h, by kernel_rfl⟩
  ·rintro _ ⟨h, rfl⟩
   unfold millwrightref08_Right.j30 at h
   refine WpC.seq ?_
   refine rS {} [1, 4] [1, 4] hN (by kernel_rfl) (by kernel_rfl) ?_
   refine tnU ?_
   refine sqJ (fun st' => millwrightref08_Right.j12 k rf_millwrightref08_Right a0 = some out ∧ st' = ⟨[(1, .loc 1 0)], [(1, .box [.p I6 a0.f_Kind, .p I6 a0.f_Index, .p U6 a0.f_Set, .p (.list (.named 4)) a0.f_Kids])]⟩) ?_ ?_
   ·refine sqJ (fun st' => ∃ v13 : Bool, millwrightref08_Right.j15 k rf_millwrightref08_Right a0 v13 = some out ∧ st' = ⟨[(1, .loc 1 0), (68, .p .bool v13)], [(1, .box [.p I6 a0.f_Kind, .p I6 a0.f_Index, .p U6 a0.f_Set, .p (.list (.named 4)) a0.f_Kids])]⟩) ?_ ?_
    ·rcases bool_cases (a0.f_Kind != 1) with hc16 | hc16
     ·replace h := ite_t hc16 h
      rcases bool_cases (!(a0.f_Set == (List.replicate 4 (0 : Int)))) with hc17 | hc17
      ·replace h := ite_t hc17 h
       refine rS { its := [(7, .e 7 (sok_neArr (U := Un) (op := .neq) (rs := [(40, .p U6 a0.f_Set), (41, .p U6 ((List.replicate 4 (0 : Int)) : List Int))]) rfl rfl Tryd.underlying23 Tryd.underlying22 ty_22 (by kernel_rfl) o0 o1))], kn := [(38, .t hc16), (44, .t hc17)] } [1, 68] [1] hN (by kernel_rfl) (by kernel_rfl) ?_
       refine tnU ?_
       exact ⟨true, h, by kernel_rfl⟩
      ·replace h := ite_f hc17 h
       rcases bool_cases (a0.f_Kind != 7) with hc18 | hc18
       ·replace h := ite_t hc18 h
        rcases bool_cases (a0.f_Index != 0) with hc19 | hc19
        ·replace h := ite_t hc19 h
         refine rS { its := [(7, .e 7 (sok_neArr (U := Un) (op := .neq) (rs := [(40, .p U6 a0.f_Set), (41, .p U6 ((List.replicate 4 (0 : Int)) : List Int))]) rfl rfl Tryd.underlying23 Tryd.underlying22 ty_22 (by kernel_rfl) o0 o1))], kn := [(38, .t hc16), (44, .f hc17), (48, .t hc18), (54, .t hc19)] } [1, 68] [1] hN (by kernel_rfl) (by kernel_rfl) ?_
         refine tnU ?_
         exact ⟨true, h, by kernel_rfl⟩
        ·replace h := ite_f hc19 h
         rcases bool_cases (a0.f_Kind == 7) with hc20 | hc20
         ·replace h := ite_t hc20 h
          rcases bool_cases (decide (a0.f_Index < 1)) with hc21 | hc21
          ·replace h := ite_t hc21 h
           refine rS { its := [(7, .e 7 (sok_neArr (U := Un) (op := .neq) (rs := [(40, .p U6 a0.f_Set), (41, .p U6 ((List.replicate 4 (0 : Int)) : List Int))]) rfl rfl Tryd.underlying23 Tryd.underlying22 ty_22 (by kernel_rfl) o0 o1))], kn := [(38, .t hc16), (44, .f hc17), (48, .t hc18), (54, .f hc19), (58, .t hc20), (62, .t hc21)] } [1, 68] [1] hN (by kernel_rfl) (by kernel_rfl) ?_
           refine tnU ?_
           exact ⟨true, h, by kernel_rfl⟩
          ·replace h := ite_f hc21 h
           refine rS { its := [(7, .e 7 (sok_neArr (U := Un) (op := .neq) (rs := [(40, .p U6 a0.f_Set), (41, .p U6 ((List.replicate 4 (0 : Int)) : List Int))]) rfl rfl Tryd.underlying23 Tryd.underlying22 ty_22 (by kernel_rfl) o0 o1))], kn := [(38, .t hc16), (44, .f hc17), (48, .t hc18), (54, .f hc19), (58, .t hc20), (62, .f hc21)] } [1, 68] [1] hN (by kernel_rfl) (by kernel_rfl) ?_
           refine tnU ?_
           exact ⟨(decide (a0.f_Index > 9)), h, by kernel_rfl⟩
         ·replace h := ite_f hc20 h
          refine rS { its := [(7, .e 7 (sok_neArr (U := Un) (op := .neq) (rs := [(40, .p U6 a0.f_Set), (41, .p U6 ((List.replicate 4 (0 : Int)) : List Int))]) rfl rfl Tryd.underlying23 Tryd.underlying22 ty_22 (by kernel_rfl) o0 o1))], kn := [(38, .t hc16), (44, .f hc17), (48, .t hc18), (54, .f hc19), (58, .f hc20)] } [1, 68] [1] hN (by kernel_rfl) (by kernel_rfl) ?_
          refine tnU ?_
          exact ⟨false, h, by kernel_rfl⟩
       ·replace h := ite_f hc18 h
        rcases bool_cases (a0.f_Kind == 7) with hc22 | hc22
        ·replace h := ite_t hc22 h
         rcases bool_cases (decide (a0.f_Index < 1)) with hc23 | hc23
         ·replace h := ite_t hc23 h
          refine rS { its := [(7, .e 7 (sok_neArr (U := Un) (op := .neq) (rs := [(40, .p U6 a0.f_Set), (41, .p U6 ((List.replicate 4 (0 : Int)) : List Int))]) rfl rfl Tryd.underlying23 Tryd.underlying22 ty_22 (by kernel_rfl) o0 o1))], kn := [(38, .t hc16), (44, .f hc17), (48, .f hc18), (58, .t hc22), (62, .t hc23)] } [1, 68] [1] hN (by kernel_rfl) (by kernel_rfl) ?_
          refine tnU ?_
          exact ⟨true, h, by kernel_rfl⟩
         ·replace h := ite_f hc23 h
          refine rS { its := [(7, .e 7 (sok_neArr (U := Un) (op := .neq) (rs := [(40, .p U6 a0.f_Set), (41, .p U6 ((List.replicate 4 (0 : Int)) : List Int))]) rfl rfl Tryd.underlying23 Tryd.underlying22 ty_22 (by kernel_rfl) o0 o1))], kn := [(38, .t hc16), (44, .f hc17), (48, .f hc18), (58, .t hc22), (62, .f hc23)] } [1, 68] [1] hN (by kernel_rfl) (by kernel_rfl) ?_
          refine tnU ?_
          exact ⟨(decide (a0.f_Index > 9)), h, by kernel_rfl⟩
        ·replace h := ite_f hc22 h
         refine rS { its := [(7, .e 7 (sok_neArr (U := Un) (op := .neq) (rs := [(40, .p U6 a0.f_Set), (41, .p U6 ((List.replicate 4 (0 : Int)) : List Int))]) rfl rfl Tryd.underlying23 Tryd.underlying22 ty_22 (by kernel_rfl) o0 o1))], kn := [(38, .t hc16), (44, .f hc17), (48, .f hc18), (58, .f hc22)] } [1, 68] [1] hN (by kernel_rfl) (by kernel_rfl) ?_
         refine tnU ?_
         exact ⟨false, h, by kernel_rfl⟩
     ·replace h := ite_f hc16 h
      rcases bool_cases (a0.f_Kind != 7) with hc24 | hc24
      ·replace h := ite_t hc24 h
       rcases bool_cases (a0.f_Index != 0) with hc25 | hc25
       ·replace h := ite_t hc25 h
        refine rS { kn := [(38, .f hc16), (48, .t hc24), (54, .t hc25)] } [1, 68] [1] hN (by kernel_rfl) (by kernel_rfl) ?_
        refine tnU ?_
        exact ⟨true, h, by kernel_rfl⟩
       ·replace h := ite_f hc25 h
        rcases bool_cases (a0.f_Kind == 7) with hc26 | hc26
        ·replace h := ite_t hc26 h
         rcases bool_cases (decide (a0.f_Index < 1)) with hc27 | hc27
         ·replace h := ite_t hc27 h
          refine rS { kn := [(38, .f hc16), (48, .t hc24), (54, .f hc25), (58, .t hc26), (62, .t hc27)] } [1, 68] [1] hN (by kernel_rfl) (by kernel_rfl) ?_
          refine tnU ?_
          exact ⟨true, h, by kernel_rfl⟩
         ·replace h := ite_f hc27 h
          refine rS { kn := [(38, .f hc16), (48, .t hc24), (54, .f hc25), (58, .t hc26), (62, .f hc27)] } [1, 68] [1] hN (by kernel_rfl) (by kernel_rfl) ?_
          refine tnU ?_
          exact ⟨(decide (a0.f_Index > 9)), h, by kernel_rfl⟩
        ·replace h := ite_f hc26 h
         refine rS { kn := [(38, .f hc16), (48, .t hc24), (54, .f hc25), (58, .f hc26)] } [1, 68] [1] hN (by kernel_rfl) (by kernel_rfl) ?_
         refine tnU ?_
         exact ⟨false, h, by kernel_rfl⟩
      ·replace h := ite_f hc24 h
       rcases bool_cases (a0.f_Kind == 7) with hc28 | hc28
       ·replace h := ite_t hc28 h
        rcases bool_cases (decide (a0.f_Index < 1)) with hc29 | hc29
        ·replace h := ite_t hc29 h
         refine rS { kn := [(38, .f hc16), (48, .f hc24), (58, .t hc28), (62, .t hc29)] } [1, 68] [1] hN (by kernel_rfl) (by kernel_rfl) ?_
         refine tnU ?_
         exact ⟨true, h, by kernel_rfl⟩
        ·replace h := ite_f hc29 h
         refine rS { kn := [(38, .f hc16), (48, .f hc24), (58, .t hc28), (62, .f hc29)] } [1, 68] [1] hN (by kernel_rfl) (by kernel_rfl) ?_
         refine tnU ?_
         exact ⟨(decide (a0.f_Index > 9)), h, by kernel_rfl⟩
       ·replace h := ite_f hc28 h
        refine rS { kn := [(38, .f hc16), (48, .f hc24), (58, .f hc28)] } [1, 68] [1] hN (by kernel_rfl) (by kernel_rfl) ?_
        refine tnU ?_
        exact ⟨false, h, by kernel_rfl⟩
    ·rintro _ ⟨v13, h, rfl⟩
     unfold millwrightref08_Right.j15 at h
     refine tS (b := v13) (by kernel_rfl) (fun hc14 => ?_) (fun hc14 => ?_)
     ·replace h := ite_t hc14 h
      refine WpC.seq ?_
      refine rS {} [2] [] hN (by kernel_rfl) (by kernel_rfl) ?_
      refine tnU ?_
      refine WpC.ret ?_
      refine thenQ_ret ?_
      have hq := Option.some.inj h
      subst hq
      exact eR (by kernel_rfl) (by kernel_rfl)
     ·replace h := ite_f hc14 h
      refine WpC.conv (cS [.k [1] [1]] (by kernel_rfl) (by kernel_rfl)) (WpC.skip ?_)
      refine tnU ?_
      exact ⟨h, by kernel_rfl⟩
   ·rintro _ ⟨h, rfl⟩
    unfold millwrightref08_Right.j12 at h
    refine sqJ (fun st' => millwrightref08_Right.j1 k = some out ∧ st' = ⟨[], []⟩) ?_ ?_
    ·refine WpC.seq ?_
     refine rS {} [70, 71, 72] [] hN (by kernel_rfl) (by kernel_rfl) ?_
     refine tnU ?_
     refine WpC.block ?_
     obtain ⟨o4, hlo4, h⟩ := bind_some h
     have hout5 := h
     clear h
     refine WpC.loop (U := Un) (fun n st' => ∃ v2 : Int, millwrightref08_Right.l3 k rf_millwrightref08_Right a0 n v2 = some o4 ∧ st' = ⟨[(70, .p (.list (.named 4)) a0.f_Kids), (71, .p I6 ((a0.f_Kids.length : Int) : Int)), (72, .p I6 v2)], []⟩) k ⟨0, hlo4, by kernel_rfl⟩ ?_
     clear hlo4
     rintro (_ | n) _ ⟨v2, h, rfl⟩
     ·cases h
     ·rw [millwrightref08_Right.l3] at h
      refine WpC.seq ?_
      refine rS {} [70, 71, 72, 73] [] hN (by kernel_rfl) (by kernel_rfl) ?_
      refine tnU ?_
      refine WpC.seq ?_
      refine tS (b := (decide (v2 < (a0.f_Kids.length : Int)))) (by kernel_rfl) (fun hc6 => ?_) (fun hc6 => ?_)
      ·replace h := ite_t hc6 h
       refine WpC.conv (cS [.k [70, 71, 72] []] (by kernel_rfl) (by kernel_rfl)) (WpC.skip ?_)
       refine tnU ?_
       refine WpC.seq ?_
       refine WpC.block ?_
       refine WpC.seq ?_
       obtain ⟨v7, hv7, h⟩ := bind_some h
       refine rS { its := [(0, .v (.named 4) hv7)], th := [(2, [(3, 10001, 38, .named 4)])] } [6, 70, 71, 72] [6] hN (by kernel_rfl) (by kernel_rfl) ?_
       refine tnU ?_
       refine WpC.seq ?_
       obtain ⟨v8, hv8, h⟩ := bind_some h
       refine rS { its := [(1, .c (hrf_millwrightref08_Right (T_millwrightref07_Node.mk v7.f_Kind v7.f_Index v7.f_Set v7.f_Kids) v8 hv8))] } [70, 71, 72, 78] [] hN (by kernel_rfl) (by kernel_rfl) ?_
       refine tnU ?_
       refine tS (b := (!v8)) (by kernel_rfl) (fun hc9 => ?_) (fun hc9 => ?_)
       ·replace h := ite_t hc9 h
        refine WpC.seq ?_
        refine rS {} [2] [] hN (by kernel_rfl) (by kernel_rfl) ?_
        refine tnU ?_
        refine WpC.ret ?_
        refine blockQ_ret ?_
        refine thenQ_ret ?_
        have hq := Option.some.inj h
        subst hq
        refine thenQ_ret ?_
        have h := hout5
        refine blockQ_ret ?_
        refine thenQ_ret ?_
        have hq := Option.some.inj h
        subst hq
        exact eR (by kernel_rfl) (by kernel_rfl)
       ·replace h := ite_f hc9 h
        refine WpC.conv (cS [.k [70, 71, 72] []] (by kernel_rfl) (by kernel_rfl)) (WpC.skip ?_)
        refine blockQ_normal ?_
        refine tnU ?_
        refine rS {} [70, 71, 72] [] hN (by kernel_rfl) (by kernel_rfl) ?_
        refine tnU ?_
        exact ⟨n, Nat.lt_succ_self n, (IntKind.i64.wrap (v2 + 1)), h, by kernel_rfl⟩
      ·replace h := ite_f hc6 h
       refine WpC.conv (cS [.k [] []] (by kernel_rfl) (by kernel_rfl)) (WpC.exit ?_)
       refine thenQ_exit ?_
       have hq := Option.some.inj h
       subst hq
       refine thenQ_exit ?_
       have h := hout5
       refine blockQ_hit ?_
       refine tnU ?_
       exact ⟨h, by kernel_rfl⟩
    ·rintro _ ⟨h, rfl⟩
     unfold millwrightref08_Right.j1 at h
     refine WpC.seq ?_
     refine rS {} [2] [] hN (by kernel_rfl) (by kernel_rfl) ?_
     refine tnU ?_
     refine WpC.ret ?_
     have hq := Option.some.inj h
     subst hq
     exact eR (by kernel_rfl) (by kernel_rfl)

theorem scc_millwrightref08_Right.ok (O : Out) (hO : GOkA O) : ∀ k : Nat, (∀ (a0 : T_millwrightref07_Node) (out : Bool), millwrightref08_Right.f k a0 = some out → COk Un O Tryd.prog 16 { ar := [.p (.named 4) a0], r := .p .bool out }) := by
 intro k
 induction k with
 | zero => exact fun a0 out h => (by have h2 : (none : Option Bool) = some out := h; cases h2)
 | succ k ih => exact fun a0 out h => millwrightref08_Right.bok O hO k _ ih a0 out h
theorem millwrightref08_Right.ok (O : Out) (hO : GOkA O) (k : Nat) (a0 : T_millwrightref07_Node) (out : Bool) (h : millwrightref08_Right.f k a0 = some out) : COk Un O Tryd.prog 16 { ar := [.p (.named 4) a0], r := .p .bool out } := (scc_millwrightref08_Right.ok O hO k) a0 out h

end Go.Proofs.YteddmdkbeednmaaDoor
