/- A part of the proof of a given law: DNC3. Own work, printed in part by a program of mine. -/
import Derived.Test.YteddmdkbeednmaaDoorK30DNC2
namespace Go.Proofs.YteddmdkbeednmaaDoor
open Go Go.AM
set_option linter.unusedVariables false
set_option linter.unusedSimpArgs false
set_option maxRecDepth 100000
set_option maxHeartbeats 4000000
theorem millwrightnum_SameInts.ok (O : Out) (hO : GOkA O) (k : Nat) (a0 : List Int) (a1 : List Int) (out : Bool) (h : millwrightnum_SameInts.f k a0 a1 = some out) : COk Un O Tryd.prog 18 { ar := [.p (.list I6) a0, .p (.list I6) a1], r := .p .bool out } := by
 refine cok_of_wp Tryd.func18 rfl (k := 26) rfl (Nat.le_of_ble_eq_true rfl) (namesOk_pure rfl rfl rfl rfl) ?_
 intro B hN
 refine WpC.conv (cvK (b := ⟨[(0, .p (.list I6) a0), (1, .p (.list I6) a1)], []⟩) [0, 1] [] (by kernel_rfl)) ?_
 unfold millwrightnum_SameInts.f at h
 refine WpC.seq ?_
 refine rS {} [0, 1] [] hN (by kernel_rfl) (by kernel_rfl) ?_
 refine tnU ?_
 refine WpC.seq ?_
 refine WpC.seq ?_
 refine rS {} [0, 1, 10] [] hN (by kernel_rfl) (by kernel_rfl) ?_
 refine tnU ?_
 refine tS (b := ((a0.length : Int) != (a1.length : Int))) (by kernel_rfl) (fun hc1 => ?_) (fun hc1 => ?_)
 ·replace h := ite_t hc1 h
  refine WpC.seq ?_
  refine rS {} [4] [] hN (by kernel_rfl) (by kernel_rfl) ?_
  refine tnU ?_
  refine WpC.ret ?_
  refine thenQ_ret ?_
  have hq := Option.some.inj h
  subst hq
  exact eR (by kernel_rfl) (by kernel_rfl)
 ·replace h := ite_f hc1 h
  refine WpC.conv (cS [.k [0, 1] []] (by kernel_rfl) (by kernel_rfl)) (WpC.skip ?_)
  refine tnU ?_
  refine sqJ (fun st' => millwrightnum_SameInts.j2 k = some out ∧ st' = ⟨[], []⟩) ?_ ?_
  ·refine WpC.seq ?_
   refine rS {} [0, 1, 12, 13] [] hN (by kernel_rfl) (by kernel_rfl) ?_
   refine tnU ?_
   refine WpC.block ?_
   obtain ⟨o5, hlo5, h⟩ := bind_some h
   have hout6 := h
   clear h
   refine WpC.loop (U := Un) (fun n st' => ∃ v3 : Int, millwrightnum_SameInts.l4 k a0 a1 n v3 = some o5 ∧ st' = ⟨[(0, .p (.list I6) a0), (1, .p (.list I6) a1), (12, .p I6 ((a0.length : Int) : Int)), (13, .p I6 v3)], []⟩) k ⟨0, hlo5, by kernel_rfl⟩ ?_
   clear hlo5
   rintro (_ | n) _ ⟨v3, h, rfl⟩
   ·cases h
   ·rw [millwrightnum_SameInts.l4] at h
    refine WpC.seq ?_
    refine rS {} [0, 1, 12, 13, 14] [] hN (by kernel_rfl) (by kernel_rfl) ?_
    refine tnU ?_
    refine WpC.seq ?_
    refine tS (b := (decide (v3 < (a0.length : Int)))) (by kernel_rfl) (fun hc7 => ?_) (fun hc7 => ?_)
    ·replace h := ite_t hc7 h
     refine WpC.conv (cS [.k [0, 1, 12, 13] []] (by kernel_rfl) (by kernel_rfl)) (WpC.skip ?_)
     refine tnU ?_
     refine WpC.seq ?_
     refine WpC.block ?_
     refine WpC.seq ?_
     refine rS {} [0, 1, 5, 12, 13] [] hN (by kernel_rfl) (by kernel_rfl) ?_
     refine tnU ?_
     refine WpC.seq ?_
     obtain ⟨v8, hv8, h⟩ := bind_some h
     obtain ⟨v9, hv9, h⟩ := bind_some h
     refine rA { its := [(2, .v I6 hv8), (6, .v I6 hv9)] } [0, 1, 12, 13, 24] [] hN (by kernel_rfl) (by kernel_rfl) (by kernel_rfl) ?_
     refine tnU ?_
     refine tS (b := (v8 != v9)) (by kernel_rfl) (fun hc10 => ?_) (fun hc10 => ?_)
     ·replace h := ite_t hc10 h
      refine WpC.seq ?_
      refine rS {} [4] [] hN (by kernel_rfl) (by kernel_rfl) ?_
      refine tnU ?_
      refine WpC.ret ?_
      refine blockQ_ret ?_
      refine thenQ_ret ?_
      have hq := Option.some.inj h
      subst hq
      refine thenQ_ret ?_
      have h := hout6
      refine blockQ_ret ?_
      refine thenQ_ret ?_
      have hq := Option.some.inj h
      subst hq
      exact eR (by kernel_rfl) (by kernel_rfl)
     ·replace h := ite_f hc10 h
      refine WpC.conv (cS [.k [0, 1, 12, 13] []] (by kernel_rfl) (by kernel_rfl)) (WpC.skip ?_)
      refine blockQ_normal ?_
      refine tnU ?_
      refine rS {} [0, 1, 12, 13] [] hN (by kernel_rfl) (by kernel_rfl) ?_
      refine tnU ?_
      exact ⟨n, Nat.lt_succ_self n, (IntKind.i64.wrap (v3 + 1)), h, by kernel_rfl⟩
    ·replace h := ite_f hc7 h
     refine WpC.conv (cS [.k [] []] (by kernel_rfl) (by kernel_rfl)) (WpC.exit ?_)
     refine thenQ_exit ?_
     have hq := Option.some.inj h
     subst hq
     refine thenQ_exit ?_
     have h := hout6
     refine blockQ_hit ?_
     refine tnU ?_
     exact ⟨h, by kernel_rfl⟩
  ·rintro _ ⟨h, rfl⟩
   unfold millwrightnum_SameInts.j2 at h
   refine WpC.seq ?_
   refine rS {} [4] [] hN (by kernel_rfl) (by kernel_rfl) ?_
   refine tnU ?_
   refine WpC.ret ?_
   have hq := Option.some.inj h
   subst hq
   exact eR (by kernel_rfl) (by kernel_rfl)

theorem slices_Index_int_int.ok (O : Out) (hO : GOkA O) (k : Nat) (a0 : List Int) (a1 : Int) (out : Int) (h : slices_Index_int_int.f k a0 a1 = some out) : COk Un O Tryd.prog 55 { ar := [.p (.list I6) a0, .p I6 a1], r := .p I6 out } := by
 refine cok_of_wp Tryd.func55 rfl (k := 19) rfl (Nat.le_of_ble_eq_true rfl) (namesOk_pure rfl rfl rfl rfl) ?_
 intro B hN
 refine WpC.conv (cvK (b := ⟨[(0, .p (.list I6) a0), (1, .p I6 a1)], []⟩) [0, 1] [] (by kernel_rfl)) ?_
 unfold slices_Index_int_int.f at h
 refine WpC.seq ?_
 refine rS {} [0, 1] [] hN (by kernel_rfl) (by kernel_rfl) ?_
 refine tnU ?_
 refine sqJ (fun st' => slices_Index_int_int.j1 k = some out ∧ st' = ⟨[], []⟩) ?_ ?_
 ·refine WpC.seq ?_
  refine rS {} [0, 1, 7, 8] [] hN (by kernel_rfl) (by kernel_rfl) ?_
  refine tnU ?_
  refine WpC.block ?_
  obtain ⟨o4, hlo4, h⟩ := bind_some h
  have hout5 := h
  clear h
  refine WpC.loop (U := Un) (fun n st' => ∃ v2 : Int, slices_Index_int_int.l3 k a0 a1 n v2 = some o4 ∧ st' = ⟨[(0, .p (.list I6) a0), (1, .p I6 a1), (7, .p I6 ((a0.length : Int) : Int)), (8, .p I6 v2)], []⟩) k ⟨0, hlo4, by kernel_rfl⟩ ?_
  clear hlo4
  rintro (_ | n) _ ⟨v2, h, rfl⟩
  ·cases h
  ·rw [slices_Index_int_int.l3] at h
   refine WpC.seq ?_
   refine rS {} [0, 1, 7, 8, 9] [] hN (by kernel_rfl) (by kernel_rfl) ?_
   refine tnU ?_
   refine WpC.seq ?_
   refine tS (b := (decide (v2 < (a0.length : Int)))) (by kernel_rfl) (fun hc6 => ?_) (fun hc6 => ?_)
   ·replace h := ite_t hc6 h
    refine WpC.conv (cS [.k [0, 1, 7, 8] []] (by kernel_rfl) (by kernel_rfl)) (WpC.skip ?_)
    refine tnU ?_
    refine WpC.seq ?_
    refine WpC.block ?_
    refine WpC.seq ?_
    refine rS {} [0, 1, 5, 7, 8] [] hN (by kernel_rfl) (by kernel_rfl) ?_
    refine tnU ?_
    refine WpC.seq ?_
    obtain ⟨v7, hv7, h⟩ := bind_some h
    refine rS { its := [(3, .v I6 hv7)] } [0, 1, 5, 7, 8, 16] [] hN (by kernel_rfl) (by kernel_rfl) ?_
    refine tnU ?_
    refine tS (b := (a1 == v7)) (by kernel_rfl) (fun hc8 => ?_) (fun hc8 => ?_)
    ·replace h := ite_t hc8 h
     refine WpC.seq ?_
     refine rS {} [4] [] hN (by kernel_rfl) (by kernel_rfl) ?_
     refine tnU ?_
     refine WpC.ret ?_
     refine blockQ_ret ?_
     refine thenQ_ret ?_
     have hq := Option.some.inj h
     subst hq
     refine thenQ_ret ?_
     have h := hout5
     refine blockQ_ret ?_
     refine thenQ_ret ?_
     have hq := Option.some.inj h
     subst hq
     exact eR (by kernel_rfl) (by kernel_rfl)
    ·replace h := ite_f hc8 h
     refine WpC.conv (cS [.k [0, 1, 7, 8] []] (by kernel_rfl) (by kernel_rfl)) (WpC.skip ?_)
     refine blockQ_normal ?_
     refine tnU ?_
     refine rS {} [0, 1, 7, 8] [] hN (by kernel_rfl) (by kernel_rfl) ?_
     refine tnU ?_
     exact ⟨n, Nat.lt_succ_self n, (IntKind.i64.wrap (v2 + 1)), h, by kernel_rfl⟩
   ·replace h := ite_f hc6 h
    refine WpC.conv (cS [.k [] []] (by kernel_rfl) (by kernel_rfl)) (WpC.exit ?_)
    refine thenQ_exit ?_
    have hq := Option.some.inj h
    subst hq
    refine thenQ_exit ?_
    have h := hout5
    refine blockQ_hit ?_
    refine tnU ?_
    exact ⟨h, by kernel_rfl⟩
 ·rintro _ ⟨h, rfl⟩
  unfold slices_Index_int_int.j1 at h
  refine WpC.seq ?_
  refine rS {} [4] [] hN (by kernel_rfl) (by kernel_rfl) ?_
  refine tnU ?_
  refine WpC.ret ?_
  have hq := Option.some.inj h
  subst hq
  exact eR (by kernel_rfl) (by kernel_rfl)

theorem slices_Contains_int_int.ok (O : Out) (hO : GOkA O) (k : Nat) (a0 : List Int) (a1 : Int) (out : Bool) (h : slices_Contains_int_int.f k a0 a1 = some out) : COk Un O Tryd.prog 40 { ar := [.p (.list I6) a0, .p I6 a1], r := .p .bool out } := by
 refine cok_of_wp Tryd.func40 rfl (k := 9) rfl (Nat.le_of_ble_eq_true rfl) (namesOk_pure rfl rfl rfl rfl) ?_
 intro B hN
 refine WpC.conv (cvK (b := ⟨[(0, .p (.list I6) a0), (1, .p I6 a1)], []⟩) [0, 1] [] (by kernel_rfl)) ?_
 unfold slices_Contains_int_int.f at h
 refine WpC.seq ?_
 refine rS {} [0, 1] [] hN (by kernel_rfl) (by kernel_rfl) ?_
 refine tnU ?_
 refine WpC.seq ?_
 obtain ⟨v1, hv1, h⟩ := bind_some h
 refine rS { its := [(2, .c (slices_Index_int_int.ok O hO k a0 a1 v1 hv1))] } [4] [] hN (by kernel_rfl) (by kernel_rfl) ?_
 refine tnU ?_
 refine WpC.ret ?_
 have hq := Option.some.inj h
 subst hq
 exact eR (by kernel_rfl) (by kernel_rfl)

theorem denote_Spans.ok (O : Out) (hO : GOkA O) (k : Nat) (a0 : T_rex_Node) (a1 : List UInt8) (a2 : Int) (a3 : Int) (out : Bool) (h : denote_Spans.f k a0 a1 a2 a3 = some out) : COk Un O Tryd.prog 19 { ar := [.p (.named 3) a0, .p .str a1, .p I6 a2, .p I6 a3], r := .p .bool out } := by
 refine cok_of_wp Tryd.func19 rfl (k := 15) rfl (Nat.le_of_ble_eq_true rfl) (namesOk_pure rfl rfl rfl rfl) ?_
 intro B hN
 refine WpC.conv (cvK (b := ⟨[(0, .p (.named 3) a0), (1, .p .str a1), (2, .p I6 a2), (3, .p I6 a3)], []⟩) [0, 1, 2, 3] [] (by kernel_rfl)) ?_
 unfold denote_Spans.f at h
 refine WpC.seq ?_
 refine rS {} [1, 2, 3, 4] [4] hN (by kernel_rfl) (by kernel_rfl) ?_
 refine tnU ?_
 refine WpC.seq ?_
 obtain ⟨v1, hv1, h⟩ := bind_some h
 obtain ⟨v2, hv2, h⟩ := bind_some h
 refine rS { its := [(3, .c (denote_Ends.ok O hO k (T_rex_Node.mk a0.f_Kind a0.f_Index a0.f_Set a0.f_Kids) a1 a2 v1 hv1)), (5, .c (slices_Contains_int_int.ok O hO k v1 a3 v2 hv2))] } [8] [] hN (by kernel_rfl) (by kernel_rfl) ?_
 refine tnU ?_
 refine WpC.ret ?_
 have hq := Option.some.inj h
 subst hq
 exact eR (by kernel_rfl) (by kernel_rfl)

theorem denote_In.ok (O : Out) (hO : GOkA O) (k : Nat) (a0 : T_rex_Node) (a1 : List UInt8) (out : Bool) (h : denote_In.f k a0 a1 = some out) : COk Un O Tryd.prog 29 { ar := [.p (.named 3) a0, .p .str a1], r := .p .bool out } := by
 refine cok_of_wp Tryd.func29 rfl (k := 10) rfl (Nat.le_of_ble_eq_true rfl) (namesOk_pure rfl rfl rfl rfl) ?_
 intro B hN
 refine WpC.conv (cvK (b := ⟨[(0, .p (.named 3) a0), (1, .p .str a1)], []⟩) [0, 1] [] (by kernel_rfl)) ?_
 unfold denote_In.f at h
 refine WpC.seq ?_
 refine rS {} [1, 2] [2] hN (by kernel_rfl) (by kernel_rfl) ?_
 refine tnU ?_
 refine WpC.seq ?_
 obtain ⟨v1, hv1, h⟩ := bind_some h
 refine rS { its := [(4, .c (denote_Spans.ok O hO k (T_rex_Node.mk a0.f_Kind a0.f_Index a0.f_Set a0.f_Kids) a1 0 (a1.length : Int) v1 hv1))] } [4] [] hN (by kernel_rfl) (by kernel_rfl) ?_
 refine tnU ?_
 refine WpC.ret ?_
 have hq := Option.some.inj h
 subst hq
 exact eR (by kernel_rfl) (by kernel_rfl)

theorem millwrightlaw10_alive.ok (O : Out) (hO : GOkA O) (k : Nat) (out : Bool) (h : millwrightlaw10_alive.f k = some out) : COk Un O Tryd.prog 7 { ar := [], r := .p .bool out } := by
 refine cok_of_wp Tryd.func7 rfl (k := 24) rfl (Nat.le_of_ble_eq_true rfl) (namesOk_pure rfl rfl rfl rfl) ?_
 intro B hN
 refine WpC.conv (cvK (b := ⟨[], []⟩) [] [] (by kernel_rfl)) ?_
 unfold millwrightlaw10_alive.f at h
 refine WpC.seq ?_
 refine rS {} [] [] hN (by kernel_rfl) (by kernel_rfl) ?_
 refine tnU ?_
 refine WpC.seq ?_
 obtain ⟨v1, hv1, h⟩ := bind_some h
 refine rS { its := [(0, .c (rex_Parse.ok O hO k ([97, 42] : List UInt8) v1 hv1))] } [1, 2] [1] hN (by kernel_rfl) (by kernel_rfl) ?_
 refine tnU ?_
 refine WpC.seq ?_
 rcases bool_cases (v1.2 == 0) with hc2 | hc2
 ·replace h := ite_t hc2 h
  obtain ⟨v3, hv3, h⟩ := bind_some h
  obtain ⟨v4, hv4, h⟩ := bind_some h
  rcases bool_cases v4 with hc5 | hc5
  ·replace h := ite_t hc5 h
   obtain ⟨v6, hv6, h⟩ := bind_some h
   rcases bool_cases v6 with hc7 | hc7
   ·replace h := ite_t hc7 h
    obtain ⟨v8, hv8, h⟩ := bind_some h
    refine rS { its := [(4, .c (denote_Ends.ok O hO k (T_rex_Node.mk v1.1.f_Kind v1.1.f_Index v1.1.f_Set v1.1.f_Kids) ([97, 97, 98] : List UInt8) 0 v3 hv3)), (6, .c (millwrightnum_SameInts.ok O hO k v3 [(0 : Int), (1 : Int), (2 : Int)] v4 hv4)), (10, .c (denote_In.ok O hO k (T_rex_Node.mk v1.1.f_Kind v1.1.f_Index v1.1.f_Set v1.1.f_Kids) ([97, 97] : List UInt8) v6 hv6)), (14, .c (denote_In.ok O hO k (T_rex_Node.mk v1.1.f_Kind v1.1.f_Index v1.1.f_Set v1.1.f_Kids) ([98] : List UInt8) v8 hv8))], kn := [(9, .t hc2), (15, .t hc5), (19, .t hc7)] } [0] [] hN (by kernel_rfl) (by kernel_rfl) ?_
    refine tnU ?_
    refine WpC.ret ?_
    have hq := Option.some.inj h
    subst hq
    exact eR (by kernel_rfl) (by kernel_rfl)
   ·replace h := ite_f hc7 h
    refine rS { its := [(4, .c (denote_Ends.ok O hO k (T_rex_Node.mk v1.1.f_Kind v1.1.f_Index v1.1.f_Set v1.1.f_Kids) ([97, 97, 98] : List UInt8) 0 v3 hv3)), (6, .c (millwrightnum_SameInts.ok O hO k v3 [(0 : Int), (1 : Int), (2 : Int)] v4 hv4)), (10, .c (denote_In.ok O hO k (T_rex_Node.mk v1.1.f_Kind v1.1.f_Index v1.1.f_Set v1.1.f_Kids) ([97, 97] : List UInt8) v6 hv6))], kn := [(9, .t hc2), (15, .t hc5), (19, .f hc7)] } [0] [] hN (by kernel_rfl) (by kernel_rfl) ?_
    refine tnU ?_
    refine WpC.ret ?_
    have hq := Option.some.inj h
    subst hq
    exact eR (by kernel_rfl) (by kernel_rfl)
  ·replace h := ite_f hc5 h
   refine rS { its := [(4, .c (denote_Ends.ok O hO k (T_rex_Node.mk v1.1.f_Kind v1.1.f_Index v1.1.f_Set v1.1.f_Kids) ([97, 97, 98] : List UInt8) 0 v3 hv3)), (6, .c (millwrightnum_SameInts.ok O hO k v3 [(0 : Int), (1 : Int), (2 : Int)] v4 hv4))], kn := [(9, .t hc2), (15, .f hc5)] } [0] [] hN (by kernel_rfl) (by kernel_rfl) ?_
   refine tnU ?_
   refine WpC.ret ?_
   have hq := Option.some.inj h
   subst hq
   exact eR (by kernel_rfl) (by kernel_rfl)
 ·replace h := ite_f hc2 h
  refine rS { kn := [(9, .f hc2)] } [0] [] hN (by kernel_rfl) (by kernel_rfl) ?_
  refine tnU ?_
  refine WpC.ret ?_
  have hq := Option.some.inj h
  subst hq
  exact eR (by kernel_rfl) (by kernel_rfl)

theorem millwrightlaw08_left.bok (O : Out) (hO : GOkA O) (k : Nat) (rf_millwrightlaw08_left : T_rex_Node → Int → Option Int) (hrf_millwrightlaw08_left : ∀ (a0 : T_rex_Node) (a1 : Int) (out : Int), rf_millwrightlaw08_left a0 a1 = some out → COk Un O Tryd.prog 30 { ar := [.p (.named 3) a0, .p I6 a1], r := .p I6 out }) (a0 : T_rex_Node) (a1 : Int) (out : Int) (h : millwrightlaw08_left.b k rf_millwrightlaw08_left a0 a1 = some out) : COk Un O Tryd.prog 30 { ar := [.p (.named 3) a0, .p I6 a1], r := .p I6 out } := by
 refine cok_of_wp Tryd.func30 rfl (k := 23) rfl (Nat.le_of_ble_eq_true rfl) (namesOk_pure rfl rfl rfl rfl) ?_
 intro B hN
 refine WpC.conv (cvK (b := ⟨[(0, .p (.named 3) a0), (1, .p I6 a1)], []⟩) [0, 1] [] (by kernel_rfl)) ?_
 unfold millwrightlaw08_left.b at h
 refine WpC.seq ?_
 refine rS {} [1, 2] [2] hN (by kernel_rfl) (by kernel_rfl) ?_
 refine tnU ?_
 refine WpC.seq ?_
 refine rS {} [1, 2] [2] hN (by kernel_rfl) (by kernel_rfl) ?_
 refine tnU ?_
 refine sqJ (fun st' => ∃ v1 : Int, millwrightlaw08_left.j2 k v1 = some out ∧ st' = ⟨[(1, .p I6 v1)], []⟩) ?_ ?_
 ·refine WpC.seq ?_
  refine rS {} [1, 10, 11, 12] [] hN (by kernel_rfl) (by kernel_rfl) ?_
  refine tnU ?_
  refine WpC.block ?_
  obtain ⟨o7, hlo7, h⟩ := bind_some h
  have hout8 := h
  clear h
  refine WpC.loop (U := Un) (fun n st' => ∃ v3 : Int, ∃ v4 : Int, millwrightlaw08_left.l5 k rf_millwrightlaw08_left a0 n v3 v4 = some o7 ∧ st' = ⟨[(1, .p I6 v3), (10, .p (.list (.named 3)) a0.f_Kids), (11, .p I6 ((a0.f_Kids.length : Int) : Int)), (12, .p I6 v4)], []⟩) k ⟨(IntKind.i64.wrap (a1 - 1)), 0, hlo7, by kernel_rfl⟩ ?_
  clear hlo7
  rintro (_ | n) _ ⟨v3, v4, h, rfl⟩
  ·cases h
  ·rw [millwrightlaw08_left.l5] at h
   refine WpC.seq ?_
   refine rS {} [1, 10, 11, 12, 13] [] hN (by kernel_rfl) (by kernel_rfl) ?_
   refine tnU ?_
   refine WpC.seq ?_
   refine tS (b := (decide (v4 < (a0.f_Kids.length : Int)))) (by kernel_rfl) (fun hc9 => ?_) (fun hc9 => ?_)
   ·replace h := ite_t hc9 h
    refine WpC.conv (cS [.k [1, 10, 11, 12] []] (by kernel_rfl) (by kernel_rfl)) (WpC.skip ?_)
    refine tnU ?_
    refine WpC.seq ?_
    refine WpC.block ?_
    refine WpC.seq ?_
    obtain ⟨v10, hv10, h⟩ := bind_some h
    refine rS { its := [(0, .v (.named 3) hv10)] } [1, 6, 10, 11, 12] [6] hN (by kernel_rfl) (by kernel_rfl) ?_
    refine tnU ?_
    refine WpC.seq ?_
    refine WpC.seq ?_
    refine rS {} [1, 6, 10, 11, 12, 17] [6] hN (by kernel_rfl) (by kernel_rfl) ?_
    refine tnU ?_
    refine tS (b := (decide (v3 < 0))) (by kernel_rfl) (fun hc11 => ?_) (fun hc11 => ?_)
    ·replace h := ite_t hc11 h
     refine WpC.seq ?_
     refine rS {} [4] [] hN (by kernel_rfl) (by kernel_rfl) ?_
     refine tnU ?_
     refine WpC.ret ?_
     refine thenQ_ret ?_
     refine blockQ_ret ?_
     refine thenQ_ret ?_
     have hq := Option.some.inj h
     subst hq
     refine thenQ_ret ?_
     have h := hout8
     refine blockQ_ret ?_
     refine thenQ_ret ?_
     have hq := Option.some.inj h
     subst hq
     exact eR (by kernel_rfl) (by kernel_rfl)
    ·replace h := ite_f hc11 h
     refine WpC.conv (cS [.k [1, 6, 10, 11, 12] [6]] (by kernel_rfl) (by kernel_rfl)) (WpC.skip ?_)
     refine tnU ?_
     obtain ⟨v12, hv12, h⟩ := bind_some h
     refine rS { its := [(2, .c (hrf_millwrightlaw08_left (T_rex_Node.mk v10.f_Kind v10.f_Index v10.f_Set v10.f_Kids) v3 v12 hv12))] } [1, 10, 11, 12] [] hN (by kernel_rfl) (by kernel_rfl) ?_
     refine blockQ_normal ?_
     refine tnU ?_
     refine rS {} [1, 10, 11, 12] [] hN (by kernel_rfl) (by kernel_rfl) ?_
     refine tnU ?_
     exact ⟨n, Nat.lt_succ_self n, v12, (IntKind.i64.wrap (v4 + 1)), h, by kernel_rfl⟩
   ·replace h := ite_f hc9 h
    refine WpC.conv (cS [.k [1] []] (by kernel_rfl) (by kernel_rfl)) (WpC.exit ?_)
    refine thenQ_exit ?_
    have hq := Option.some.inj h
    subst hq
    refine thenQ_exit ?_
    have h := hout8
    refine blockQ_hit ?_
    refine tnU ?_
    exact ⟨v3, h, by kernel_rfl⟩
 ·rintro _ ⟨v1, h, rfl⟩
  unfold millwrightlaw08_left.j2 at h
  refine WpC.seq ?_
  refine rS {} [4] [] hN (by kernel_rfl) (by kernel_rfl) ?_
  refine tnU ?_
  refine WpC.ret ?_
  have hq := Option.some.inj h
  subst hq
  exact eR (by kernel_rfl) (by kernel_rfl)

theorem scc_millwrightlaw08_left.ok (O : Out) (hO : GOkA O) : ∀ k : Nat, (∀ (a0 : T_rex_Node) (a1 : Int) (out : Int), millwrightlaw08_left.f k a0 a1 = some out → COk Un O Tryd.prog 30 { ar := [.p (.named 3) a0, .p (.int .i64) a1], r := .p (.int .i64) out }) := by
 intro k
 induction k with
 | zero => exact fun a0 a1 out h => (by have h2 : (none : Option Int) = some out := h; cases h2)
 | succ k ih => exact fun a0 a1 out h => millwrightlaw08_left.bok O hO k _ ih a0 a1 out h
theorem millwrightlaw08_left.ok (O : Out) (hO : GOkA O) (k : Nat) (a0 : T_rex_Node) (a1 : Int) (out : Int) (h : millwrightlaw08_left.f k a0 a1 = some out) : COk Un O Tryd.prog 30 { ar := [.p (.named 3) a0, .p (.int .i64) a1], r := .p (.int .i64) out } := (scc_millwrightlaw08_left.ok O hO k) a0 a1 out h

theorem millwrightlaw08_Great.ok (O : Out) (hO : GOkA O) (k : Nat) (a0 : T_rex_Node) (a1 : Int) (out : Bool) (h : millwrightlaw08_Great.f k a0 a1 = some out) : COk Un O Tryd.prog 8 { ar := [.p (.named 3) a0, .p I6 a1], r := .p .bool out } := by
 refine cok_of_wp Tryd.func8 rfl (k := 9) rfl (Nat.le_of_ble_eq_true rfl) (namesOk_pure rfl rfl rfl rfl) ?_
 intro B hN
 refine WpC.conv (cvK (b := ⟨[(0, .p (.named 3) a0), (1, .p I6 a1)], []⟩) [0, 1] [] (by kernel_rfl)) ?_
 unfold millwrightlaw08_Great.f at h
 refine WpC.seq ?_
 refine rS {} [1, 2] [2] hN (by kernel_rfl) (by kernel_rfl) ?_
 refine tnU ?_
 refine WpC.seq ?_
 obtain ⟨v1, hv1, h⟩ := bind_some h
 refine rS { its := [(2, .c (millwrightlaw08_left.ok O hO k (T_rex_Node.mk a0.f_Kind a0.f_Index a0.f_Set a0.f_Kids) a1 v1 hv1))] } [4] [] hN (by kernel_rfl) (by kernel_rfl) ?_
 refine tnU ?_
 refine WpC.ret ?_
 have hq := Option.some.inj h
 subst hq
 exact eR (by kernel_rfl) (by kernel_rfl)

theorem millwrightlaw10_cat.ok (O : Out) (hO : GOkA O) (k : Nat) (a0 : List T_rex_Node) (out : T_rex_Node) (h : millwrightlaw10_cat.f k a0 = some out) : COk Un O Tryd.prog 11 { ar := [.p (.list (.named 3)) a0], r := .p (.named 3) out } := by
 refine cok_of_wp Tryd.func11 rfl (k := 5) rfl (Nat.le_of_ble_eq_true rfl) (namesOk_pure rfl rfl rfl rfl) ?_
 intro B hN
 refine WpC.conv (cvK (b := ⟨[(0, .p (.list (.named 3)) a0)], []⟩) [0] [] (by kernel_rfl)) ?_
 unfold millwrightlaw10_cat.f at h
 refine WpC.seq ?_
 refine rS {} [0, 2] [2] hN (by kernel_rfl) (by kernel_rfl) ?_
 refine tnU ?_
 refine WpC.seq ?_
 refine rS {} [2] [2] hN (by kernel_rfl) (by kernel_rfl) ?_
 refine tnU ?_
 refine WpC.ret ?_
 have hq := Option.some.inj h
 subst hq
 exact eR (by kernel_rfl) (by kernel_rfl)

theorem millwrightlaw10_alt.ok (O : Out) (hO : GOkA O) (k : Nat) (a0 : List T_rex_Node) (out : T_rex_Node) (h : millwrightlaw10_alt.f k a0 = some out) : COk Un O Tryd.prog 14 { ar := [.p (.list (.named 3)) a0], r := .p (.named 3) out } := by
 refine cok_of_wp Tryd.func14 rfl (k := 5) rfl (Nat.le_of_ble_eq_true rfl) (namesOk_pure rfl rfl rfl rfl) ?_
 intro B hN
 refine WpC.conv (cvK (b := ⟨[(0, .p (.list (.named 3)) a0)], []⟩) [0] [] (by kernel_rfl)) ?_
 unfold millwrightlaw10_alt.f at h
 refine WpC.seq ?_
 refine rS {} [0, 2] [2] hN (by kernel_rfl) (by kernel_rfl) ?_
 refine tnU ?_
 refine WpC.seq ?_
 refine rS {} [2] [2] hN (by kernel_rfl) (by kernel_rfl) ?_
 refine tnU ?_
 refine WpC.ret ?_
 have hq := Option.some.inj h
 subst hq
 exact eR (by kernel_rfl) (by kernel_rfl)

theorem millwrightlaw10_star.ok (O : Out) (hO : GOkA O) (k : Nat) (a0 : T_rex_Node) (out : T_rex_Node) (h : millwrightlaw10_star.f k a0 = some out) : COk Un O Tryd.prog 13 { ar := [.p (.named 3) a0], r := .p (.named 3) out } := by
 refine cok_of_wp Tryd.func13 rfl (k := 6) rfl (Nat.le_of_ble_eq_true rfl) (namesOk_pure rfl rfl rfl rfl) ?_
 intro B hN
 refine WpC.conv (cvK (b := ⟨[(0, .p (.named 3) a0)], []⟩) [0] [] (by kernel_rfl)) ?_
 unfold millwrightlaw10_star.f at h
 refine WpC.seq ?_
 refine rS {} [1, 2] [1, 2] hN (by kernel_rfl) (by kernel_rfl) ?_
 refine tnU ?_
 refine WpC.seq ?_
 refine rS { fz := [1] } [2] [2] hN (by kernel_rfl) (by kernel_rfl) ?_
 refine tnU ?_
 refine WpC.ret ?_
 have hq := Option.some.inj h
 subst hq
 exact eR (by kernel_rfl) (by kernel_rfl)

theorem millwrightlaw10_same.ok (O : Out) (hO : GOkA O) (k : Nat) (a0 : T_rex_Node) (a1 : T_rex_Node) (a2 : List UInt8) (out : Bool) (h : millwrightlaw10_same.f k a0 a1 a2 = some out) : COk Un O Tryd.prog 12 { ar := [.p (.named 3) a0, .p (.named 3) a1, .p .str a2], r := .p .bool out } := by
 refine cok_of_wp Tryd.func12 rfl (k := 24) rfl (Nat.le_of_ble_eq_true rfl) (namesOk_pure rfl rfl rfl rfl) ?_
 intro B hN
 refine WpC.conv (cvK (b := ⟨[(0, .p (.named 3) a0), (1, .p (.named 3) a1), (2, .p .str a2)], []⟩) [0, 1, 2] [] (by kernel_rfl)) ?_
 unfold millwrightlaw10_same.f at h
 refine WpC.seq ?_
 refine rS {} [2, 3, 4] [3, 4] hN (by kernel_rfl) (by kernel_rfl) ?_
 refine tnU ?_
 refine sqJ (fun st' => millwrightlaw10_same.j1 k = some out ∧ st' = ⟨[], []⟩) ?_ ?_
 ·refine WpC.seq ?_
  refine rS {} [2, 3, 4, 7] [3, 4] hN (by kernel_rfl) (by kernel_rfl) ?_
  refine tnU ?_
  refine WpC.block ?_
  obtain ⟨o4, hlo4, h⟩ := bind_some h
  have hout5 := h
  clear h
  refine WpC.loop (U := Un) (fun n st' => ∃ v2 : Int, millwrightlaw10_same.l3 k a0 a1 a2 n v2 = some o4 ∧ st' = ⟨[(2, .p .str a2), (3, .loc 3 0), (4, .loc 4 0), (7, .p I6 v2)], [(3, .box [.p I6 a0.f_Kind, .p I6 a0.f_Index, .p U6 a0.f_Set, .p (.list (.named 3)) a0.f_Kids]), (4, .box [.p I6 a1.f_Kind, .p I6 a1.f_Index, .p U6 a1.f_Set, .p (.list (.named 3)) a1.f_Kids])]⟩) k ⟨0, hlo4, by kernel_rfl⟩ ?_
  clear hlo4
  rintro (_ | n) _ ⟨v2, h, rfl⟩
  ·cases h
  ·rw [millwrightlaw10_same.l3] at h
   refine WpC.seq ?_
   refine WpC.seq ?_
   refine rS {} [2, 3, 4, 7, 11] [3, 4] hN (by kernel_rfl) (by kernel_rfl) ?_
   refine tnU ?_
   refine tS (b := (decide (v2 ≤ (a2.length : Int)))) (by kernel_rfl) (fun hc6 => ?_) (fun hc6 => ?_)
   ·replace h := ite_t hc6 h
    refine WpC.conv (cS [.k [2, 3, 4, 7] [3, 4]] (by kernel_rfl) (by kernel_rfl)) (WpC.skip ?_)
    refine tnU ?_
    refine WpC.seq ?_
    refine WpC.block ?_
    refine WpC.seq ?_
    obtain ⟨v7, hv7, h⟩ := bind_some h
    obtain ⟨v8, hv8, h⟩ := bind_some h
    obtain ⟨v9, hv9, h⟩ := bind_some h
    refine rA { its := [(3, .c (denote_Ends.ok O hO k (T_rex_Node.mk a0.f_Kind a0.f_Index a0.f_Set a0.f_Kids) a2 v2 v7 hv7)), (7, .c (denote_Ends.ok O hO k (T_rex_Node.mk a1.f_Kind a1.f_Index a1.f_Set a1.f_Kids) a2 v2 v8 hv8)), (8, .c (millwrightnum_SameInts.ok O hO k v7 v8 v9 hv9))] } [2, 3, 4, 7, 23] [3, 4] hN (by kernel_rfl) (by kernel_rfl) (by kernel_rfl) ?_
    refine tnU ?_
    refine tS (b := (!v9)) (by kernel_rfl) (fun hc10 => ?_) (fun hc10 => ?_)
    ·replace h := ite_t hc10 h
     refine WpC.seq ?_
     refine rS {} [6] [] hN (by kernel_rfl) (by kernel_rfl) ?_
     refine tnU ?_
     refine WpC.ret ?_
     refine blockQ_ret ?_
     refine thenQ_ret ?_
     have hq := Option.some.inj h
     subst hq
     refine thenQ_ret ?_
     have h := hout5
     refine blockQ_ret ?_
     refine thenQ_ret ?_
     have hq := Option.some.inj h
     subst hq
     exact eR (by kernel_rfl) (by kernel_rfl)
    ·replace h := ite_f hc10 h
     refine WpC.conv (cS [.k [2, 3, 4, 7] [3, 4]] (by kernel_rfl) (by kernel_rfl)) (WpC.skip ?_)
     refine blockQ_normal ?_
     refine tnU ?_
     refine rS {} [2, 3, 4, 7] [3, 4] hN (by kernel_rfl) (by kernel_rfl) ?_
     refine tnU ?_
     exact ⟨n, Nat.lt_succ_self n, (IntKind.i64.wrap (v2 + 1)), h, by kernel_rfl⟩
   ·replace h := ite_f hc6 h
    refine WpC.conv (cS [.k [] []] (by kernel_rfl) (by kernel_rfl)) (WpC.exit ?_)
    refine thenQ_exit ?_
    have hq := Option.some.inj h
    subst hq
    refine thenQ_exit ?_
    have h := hout5
    refine blockQ_hit ?_
    refine tnU ?_
    exact ⟨h, by kernel_rfl⟩
 ·rintro _ ⟨h, rfl⟩
  unfold millwrightlaw10_same.j1 at h
  refine WpC.seq ?_
  refine rS {} [6] [] hN (by kernel_rfl) (by kernel_rfl) ?_
  refine tnU ?_
  refine WpC.ret ?_
  have hq := Option.some.inj h
  subst hq
  exact eR (by kernel_rfl) (by kernel_rfl)

theorem millwrightlaw10_DenoteKleene.ok (O : Out) (hO : GOkA O) (k : Nat) (a0 : T_rex_Node) (a1 : T_rex_Node) (a2 : List UInt8) (out : Bool) (h : millwrightlaw10_DenoteKleene.f k a0 a1 a2 = some out) : COk Un O Tryd.prog 3 { ar := [.p (.named 3) a0, .p (.named 3) a1, .p .str a2], r := .p .bool out } := by
 refine cok_of_wp Tryd.func3 rfl (k := 148) rfl (Nat.le_of_ble_eq_true rfl) (namesOk_pure rfl rfl rfl rfl) ?_
 intro B hN
 refine WpC.conv (cvK (b := ⟨[(0, .p (.named 3) a0), (1, .p (.named 3) a1), (2, .p .str a2)], []⟩) [0, 1, 2] [] (by kernel_rfl)) ?_
 unfold millwrightlaw10_DenoteKleene.f at h
 refine WpC.seq ?_
 refine rS {} [2, 3, 4] [3, 4] hN (by kernel_rfl) (by kernel_rfl) ?_
 refine tnU ?_
 refine WpC.seq ?_
 refine WpC.seq ?_
 obtain ⟨v1, hv1, h⟩ := bind_some h
 refine rS { its := [(0, .c (millwrightlaw10_alive.ok O hO k v1 hv1))] } [2, 3, 4, 11] [3, 4] hN (by kernel_rfl) (by kernel_rfl) ?_
 refine tnU ?_
 refine tS (b := (!v1)) (by kernel_rfl) (fun hc2 => ?_) (fun hc2 => ?_)
 ·replace h := ite_t hc2 h
  refine WpC.seq ?_
  refine rS {} [6] [] hN (by kernel_rfl) (by kernel_rfl) ?_
  refine tnU ?_
  refine WpC.ret ?_
  refine thenQ_ret ?_
  have hq := Option.some.inj h
  subst hq
  exact eR (by kernel_rfl) (by kernel_rfl)
 ·replace h := ite_f hc2 h
  refine WpC.conv (cS [.k [2, 3, 4] [3, 4]] (by kernel_rfl) (by kernel_rfl)) (WpC.skip ?_)
  refine tnU ?_
  refine sqJ (fun st' => millwrightlaw10_DenoteKleene.j58 k a0 a1 a2 = some out ∧ st' = ⟨[(2, .p .str a2), (3, .loc 3 0), (4, .loc 4 0)], [(3, .box [.p I6 a0.f_Kind, .p I6 a0.f_Index, .p U6 a0.f_Set, .p (.list (.named 3)) a0.f_Kids]), (4, .box [.p I6 a1.f_Kind, .p I6 a1.f_Index, .p U6 a1.f_Set, .p (.list (.named 3)) a1.f_Kids])]⟩) ?_ ?_
  ·refine sqJ (fun st' => ∃ v59 : Bool, millwrightlaw10_DenoteKleene.j61 k a0 a1 a2 v59 = some out ∧ st' = ⟨[(2, .p .str a2), (3, .loc 3 0), (4, .loc 4 0), (22, .p .bool v59)], [(3, .box [.p I6 a0.f_Kind, .p I6 a0.f_Index, .p U6 a0.f_Set, .p (.list (.named 3)) a0.f_Kids]), (4, .box [.p I6 a1.f_Kind, .p I6 a1.f_Index, .p U6 a1.f_Set, .p (.list (.named 3)) a1.f_Kids])]⟩) ?_ ?_
   ·rcases bool_cases (decide ((a2.length : Int) > 16)) with hc62 | hc62
    ·replace h := ite_t hc62 h
     refine rS { kn := [(15, .t hc62)] } [2, 3, 4, 22] [3, 4] hN (by kernel_rfl) (by kernel_rfl) ?_
     refine tnU ?_
     exact ⟨true, h, by kernel_rfl⟩
    ·replace h := ite_f hc62 h
     obtain ⟨v63, hv63, h⟩ := bind_some h
     rcases bool_cases v63 with hc64 | hc64
     ·replace h := ite_t hc64 h
      refine rS { its := [(5, .c (millwrightlaw08_Great.ok O hO k (T_rex_Node.mk a0.f_Kind a0.f_Index a0.f_Set a0.f_Kids) 20 v63 hv63))], kn := [(15, .f hc62), (19, .t hc64)] } [2, 3, 4, 22] [3, 4] hN (by kernel_rfl) (by kernel_rfl) ?_
      refine tnU ?_
      exact ⟨true, h, by kernel_rfl⟩
     ·replace h := ite_f hc64 h
      obtain ⟨v65, hv65, h⟩ := bind_some h
      refine rS { its := [(5, .c (millwrightlaw08_Great.ok O hO k (T_rex_Node.mk a0.f_Kind a0.f_Index a0.f_Set a0.f_Kids) 20 v63 hv63)), (9, .c (millwrightlaw08_Great.ok O hO k (T_rex_Node.mk a1.f_Kind a1.f_Index a1.f_Set a1.f_Kids) 20 v65 hv65))], kn := [(15, .f hc62), (19, .f hc64)] } [2, 3, 4, 22] [3, 4] hN (by kernel_rfl) (by kernel_rfl) ?_
      refine tnU ?_
      exact ⟨v65, h, by kernel_rfl⟩
   ·rintro _ ⟨v59, h, rfl⟩
    unfold millwrightlaw10_DenoteKleene.j61 at h
    refine tS (b := v59) (by kernel_rfl) (fun hc60 => ?_) (fun hc60 => ?_)
    ·replace h := ite_t hc60 h
     refine WpC.seq ?_
     refine rS {} [6] [] hN (by kernel_rfl) (by kernel_rfl) ?_
     refine tnU ?_
     refine WpC.ret ?_
     refine thenQ_ret ?_
     have hq := Option.some.inj h
     subst hq
     exact eR (by kernel_rfl) (by kernel_rfl)
    ·replace h := ite_f hc60 h
     refine WpC.conv (cS [.k [2, 3, 4] [3, 4]] (by kernel_rfl) (by kernel_rfl)) (WpC.skip ?_)
     refine tnU ?_
     exact ⟨h, by kernel_rfl⟩
  ·rintro _ ⟨h, rfl⟩
   unfold millwrightlaw10_DenoteKleene.j58 at h
   refine sqJ (fun st' => millwrightlaw10_DenoteKleene.j49 k a0 a1 a2 = some out ∧ st' = ⟨[(2, .p .str a2), (3, .loc 3 0), (4, .loc 4 0)], [(3, .box [.p I6 a0.f_Kind, .p I6 a0.f_Index, .p U6 a0.f_Set, .p (.list (.named 3)) a0.f_Kids]), (4, .box [.p I6 a1.f_Kind, .p I6 a1.f_Index, .p U6 a1.f_Set, .p (.list (.named 3)) a1.f_Kids])]⟩) ?_ ?_
   ·refine sqJ (fun st' => ∃ v50 : Bool, millwrightlaw10_DenoteKleene.j54 k a0 a1 a2 v50 = some out ∧ st' = ⟨[(2, .p .str a2), (3, .loc 3 0), (4, .loc 4 0), (30, .p .bool v50)], [(3, .box [.p I6 a0.f_Kind, .p I6 a0.f_Index, .p U6 a0.f_Set, .p (.list (.named 3)) a0.f_Kids]), (4, .box [.p I6 a1.f_Kind, .p I6 a1.f_Index, .p U6 a1.f_Set, .p (.list (.named 3)) a1.f_Kids])]⟩) ?_ ?_
    ·obtain ⟨v55, hv55, h⟩ := bind_some h
     rcases bool_cases (!v55) with hc56 | hc56
     ·replace h := ite_t hc56 h
      refine rS { its := [(1, .c (prog_Right.ok O hO k (T_rex_Node.mk a0.f_Kind a0.f_Index a0.f_Set a0.f_Kids) v55 hv55))], kn := [(26, .t hc56)] } [2, 3, 4, 30] [3, 4] hN (by kernel_rfl) (by kernel_rfl) ?_
      refine tnU ?_
      exact ⟨true, h, by kernel_rfl⟩
     ·replace h := ite_f hc56 h
      obtain ⟨v57, hv57, h⟩ := bind_some h
      refine rS { its := [(1, .c (prog_Right.ok O hO k (T_rex_Node.mk a0.f_Kind a0.f_Index a0.f_Set a0.f_Kids) v55 hv55)), (5, .c (prog_Right.ok O hO k (T_rex_Node.mk a1.f_Kind a1.f_Index a1.f_Set a1.f_Kids) v57 hv57))], kn := [(26, .f hc56)] } [2, 3, 4, 30] [3, 4] hN (by kernel_rfl) (by kernel_rfl) ?_
      refine tnU ?_
      exact ⟨(!v57), h, by kernel_rfl⟩
    ·rintro _ ⟨v50, h, rfl⟩
     unfold millwrightlaw10_DenoteKleene.j54 at h
     refine tS (b := v50) (by kernel_rfl) (fun hc51 => ?_) (fun hc51 => ?_)
     ·replace h := ite_t hc51 h
      refine WpC.seq ?_
      obtain ⟨v52, hv52, h⟩ := bind_some h
      obtain ⟨v53, hv53, h⟩ := bind_some h
      refine rS { its := [(3, .c (millwrightlaw10_cat.ok O hO k [(T_rex_Node.mk a0.f_Kind a0.f_Index a0.f_Set a0.f_Kids), (T_rex_Node.mk a1.f_Kind a1.f_Index a1.f_Set a1.f_Kids)] v52 hv52)), (5, .c (denote_Ends.ok O hO k v52 a2 0 v53 hv53))] } [6] [] hN (by kernel_rfl) (by kernel_rfl) ?_
      refine tnU ?_
      refine WpC.ret ?_
      refine thenQ_ret ?_
      have hq := Option.some.inj h
      subst hq
      exact eR (by kernel_rfl) (by kernel_rfl)
     ·replace h := ite_f hc51 h
      refine WpC.conv (cS [.k [2, 3, 4] [3, 4]] (by kernel_rfl) (by kernel_rfl)) (WpC.skip ?_)
      refine tnU ?_
      exact ⟨h, by kernel_rfl⟩
   ·rintro _ ⟨h, rfl⟩
    unfold millwrightlaw10_DenoteKleene.j49 at h
    refine WpC.seq ?_
    refine rS {} [2, 3, 4, 7] [3, 4, 7] hN (by kernel_rfl) (by kernel_rfl) ?_
    refine tnU ?_
    refine WpC.seq ?_
    refine rS { fz := [1] } [2, 3, 4, 7, 8] [3, 4, 7, 8] hN (by kernel_rfl) (by kernel_rfl) ?_
    refine tnU ?_
    refine WpC.seq ?_
    refine rS { fz := [1] } [2, 3, 4, 7, 8, 9] [3, 4, 7, 8, 9] hN (by kernel_rfl) (by kernel_rfl) ?_
    refine tnU ?_
    refine sqJ (fun st' => millwrightlaw10_DenoteKleene.j25 k a0 a1 a2 = some out ∧ st' = ⟨[(2, .p .str a2), (3, .loc 3 0), (4, .loc 4 0)], [(3, .box [.p I6 a0.f_Kind, .p I6 a0.f_Index, .p U6 a0.f_Set, .p (.list (.named 3)) a0.f_Kids]), (4, .box [.p I6 a1.f_Kind, .p I6 a1.f_Index, .p U6 a1.f_Set, .p (.list (.named 3)) a1.f_Kids])]⟩) ?_ ?_
    ·refine sqJ (fun st' => ∃ v26 : Bool, millwrightlaw10_DenoteKleene.j28 k a0 a1 a2 v26 = some out ∧ st' = ⟨[(2, .p .str a2), (3, .loc 3 0), (4, .loc 4 0), (96, .p .bool v26)], [(3, .box [.p I6 a0.f_Kind, .p I6 a0.f_Index, .p U6 a0.f_Set, .p (.list (.named 3)) a0.f_Kids]), (4, .box [.p I6 a1.f_Kind, .p I6 a1.f_Index, .p U6 a1.f_Set, .p (.list (.named 3)) a1.f_Kids])]⟩) ?_ ?_
     ·obtain ⟨v29, hv29, h⟩ := bind_some h
      obtain ⟨v30, hv30, h⟩ := bind_some h
      obtain ⟨v31, hv31, h⟩ := bind_some h
      obtain ⟨v32, hv32, h⟩ := bind_some h
      obtain ⟨v33, hv33, h⟩ := bind_some h
      obtain ⟨v34, hv34, h⟩ := bind_some h
      obtain ⟨v35, hv35, h⟩ := bind_some h
      rcases bool_cases (!v35) with hc36 | hc36
      ·replace h := ite_t hc36 h
       refine rA { its := [(3, .c (millwrightlaw10_alt.ok O hO k [(T_rex_Node.mk a0.f_Kind a0.f_Index a0.f_Set a0.f_Kids), (T_rex_Node.mk a1.f_Kind a1.f_Index a1.f_Set a1.f_Kids)] v29 hv29)), (4, .c (millwrightlaw10_star.ok O hO k v29 v30 hv30)), (6, .c (millwrightlaw10_star.ok O hO k (T_rex_Node.mk a0.f_Kind a0.f_Index a0.f_Set a0.f_Kids) v31 hv31)), (8, .c (millwrightlaw10_star.ok O hO k (T_rex_Node.mk a1.f_Kind a1.f_Index a1.f_Set a1.f_Kids) v32 hv32)), (10, .c (millwrightlaw10_cat.ok O hO k [v31, v32] v33 hv33)), (11, .c (millwrightlaw10_star.ok O hO k v33 v34 hv34)), (13, .c (millwrightlaw10_same.ok O hO k v30 v34 a2 v35 hv35))], kn := [(61, .t hc36)] } [2, 3, 4, 96] [3, 4] hN (by kernel_rfl) (by kernel_rfl) (by kernel_rfl) ?_
       refine tnU ?_
       exact ⟨true, h, by kernel_rfl⟩
      ·replace h := ite_f hc36 h
       obtain ⟨v37, hv37, h⟩ := bind_some h
       obtain ⟨v38, hv38, h⟩ := bind_some h
       obtain ⟨v39, hv39, h⟩ := bind_some h
       obtain ⟨v40, hv40, h⟩ := bind_some h
       obtain ⟨v41, hv41, h⟩ := bind_some h
       rcases bool_cases (!v41) with hc42 | hc42
       ·replace h := ite_t hc42 h
        refine rA { its := [(3, .c (millwrightlaw10_alt.ok O hO k [(T_rex_Node.mk a0.f_Kind a0.f_Index a0.f_Set a0.f_Kids), (T_rex_Node.mk a1.f_Kind a1.f_Index a1.f_Set a1.f_Kids)] v29 hv29)), (4, .c (millwrightlaw10_star.ok O hO k v29 v30 hv30)), (6, .c (millwrightlaw10_star.ok O hO k (T_rex_Node.mk a0.f_Kind a0.f_Index a0.f_Set a0.f_Kids) v31 hv31)), (8, .c (millwrightlaw10_star.ok O hO k (T_rex_Node.mk a1.f_Kind a1.f_Index a1.f_Set a1.f_Kids) v32 hv32)), (10, .c (millwrightlaw10_cat.ok O hO k [v31, v32] v33 hv33)), (11, .c (millwrightlaw10_star.ok O hO k v33 v34 hv34)), (13, .c (millwrightlaw10_same.ok O hO k v30 v34 a2 v35 hv35)), (17, .c (millwrightlaw10_star.ok O hO k (T_rex_Node.mk a0.f_Kind a0.f_Index a0.f_Set a0.f_Kids) v37 hv37)), (21, .c (millwrightlaw10_star.ok O hO k (T_rex_Node.mk a0.f_Kind a0.f_Index a0.f_Set a0.f_Kids) v38 hv38)), (23, .c (millwrightlaw10_cat.ok O hO k [(T_rex_Node.mk a0.f_Kind a0.f_Index a0.f_Set a0.f_Kids), v38] v39 hv39)), (25, .c (millwrightlaw10_alt.ok O hO k [(T_rex_Node.mk 0 0 (List.replicate 4 (0 : Int)) []), v39] v40 hv40)), (27, .c (millwrightlaw10_same.ok O hO k v37 v40 a2 v41 hv41))], kn := [(61, .f hc36), (76, .t hc42)] } [2, 3, 4, 96] [3, 4] hN (by kernel_rfl) (by kernel_rfl) (by kernel_rfl) ?_
        refine tnU ?_
        exact ⟨true, h, by kernel_rfl⟩
       ·replace h := ite_f hc42 h
        obtain ⟨v43, hv43, h⟩ := bind_some h
        obtain ⟨v44, hv44, h⟩ := bind_some h
        obtain ⟨v45, hv45, h⟩ := bind_some h
        rcases bool_cases (!v45) with hc46 | hc46
        ·replace h := ite_t hc46 h
         refine rA { its := [(3, .c (millwrightlaw10_alt.ok O hO k [(T_rex_Node.mk a0.f_Kind a0.f_Index a0.f_Set a0.f_Kids), (T_rex_Node.mk a1.f_Kind a1.f_Index a1.f_Set a1.f_Kids)] v29 hv29)), (4, .c (millwrightlaw10_star.ok O hO k v29 v30 hv30)), (6, .c (millwrightlaw10_star.ok O hO k (T_rex_Node.mk a0.f_Kind a0.f_Index a0.f_Set a0.f_Kids) v31 hv31)), (8, .c (millwrightlaw10_star.ok O hO k (T_rex_Node.mk a1.f_Kind a1.f_Index a1.f_Set a1.f_Kids) v32 hv32)), (10, .c (millwrightlaw10_cat.ok O hO k [v31, v32] v33 hv33)), (11, .c (millwrightlaw10_star.ok O hO k v33 v34 hv34)), (13, .c (millwrightlaw10_same.ok O hO k v30 v34 a2 v35 hv35)), (17, .c (millwrightlaw10_star.ok O hO k (T_rex_Node.mk a0.f_Kind a0.f_Index a0.f_Set a0.f_Kids) v37 hv37)), (21, .c (millwrightlaw10_star.ok O hO k (T_rex_Node.mk a0.f_Kind a0.f_Index a0.f_Set a0.f_Kids) v38 hv38)), (23, .c (millwrightlaw10_cat.ok O hO k [(T_rex_Node.mk a0.f_Kind a0.f_Index a0.f_Set a0.f_Kids), v38] v39 hv39)), (25, .c (millwrightlaw10_alt.ok O hO k [(T_rex_Node.mk 0 0 (List.replicate 4 (0 : Int)) []), v39] v40 hv40)), (27, .c (millwrightlaw10_same.ok O hO k v37 v40 a2 v41 hv41)), (34, .c (millwrightlaw10_star.ok O hO k (T_rex_Node.mk a0.f_Kind a0.f_Index a0.f_Set a0.f_Kids) v43 hv43)), (36, .c (millwrightlaw10_cat.ok O hO k [(T_rex_Node.mk a0.f_Kind a0.f_Index a0.f_Set a0.f_Kids), v43] v44 hv44)), (38, .c (millwrightlaw10_same.ok O hO k (T_rex_Node.mk 5 0 (List.replicate 4 (0 : Int)) [(T_rex_Node.mk a0.f_Kind a0.f_Index a0.f_Set a0.f_Kids)]) v44 a2 v45 hv45))], kn := [(61, .f hc36), (76, .f hc42), (87, .t hc46)] } [2, 3, 4, 96] [3, 4] hN (by kernel_rfl) (by kernel_rfl) (by kernel_rfl) ?_
         refine tnU ?_
         exact ⟨true, h, by kernel_rfl⟩
        ·replace h := ite_f hc46 h
         obtain ⟨v47, hv47, h⟩ := bind_some h
         obtain ⟨v48, hv48, h⟩ := bind_some h
         refine rA { its := [(3, .c (millwrightlaw10_alt.ok O hO k [(T_rex_Node.mk a0.f_Kind a0.f_Index a0.f_Set a0.f_Kids), (T_rex_Node.mk a1.f_Kind a1.f_Index a1.f_Set a1.f_Kids)] v29 hv29)), (4, .c (millwrightlaw10_star.ok O hO k v29 v30 hv30)), (6, .c (millwrightlaw10_star.ok O hO k (T_rex_Node.mk a0.f_Kind a0.f_Index a0.f_Set a0.f_Kids) v31 hv31)), (8, .c (millwrightlaw10_star.ok O hO k (T_rex_Node.mk a1.f_Kind a1.f_Index a1.f_Set a1.f_Kids) v32 hv32)), (10, .c (millwrightlaw10_cat.ok O hO k [v31, v32] v33 hv33)), (11, .c (millwrightlaw10_star.ok O hO k v33 v34 hv34)), (13, .c (millwrightlaw10_same.ok O hO k v30 v34 a2 v35 hv35)), (17, .c (millwrightlaw10_star.ok O hO k (T_rex_Node.mk a0.f_Kind a0.f_Index a0.f_Set a0.f_Kids) v37 hv37)), (21, .c (millwrightlaw10_star.ok O hO k (T_rex_Node.mk a0.f_Kind a0.f_Index a0.f_Set a0.f_Kids) v38 hv38)), (23, .c (millwrightlaw10_cat.ok O hO k [(T_rex_Node.mk a0.f_Kind a0.f_Index a0.f_Set a0.f_Kids), v38] v39 hv39)), (25, .c (millwrightlaw10_alt.ok O hO k [(T_rex_Node.mk 0 0 (List.replicate 4 (0 : Int)) []), v39] v40 hv40)), (27, .c (millwrightlaw10_same.ok O hO k v37 v40 a2 v41 hv41)), (34, .c (millwrightlaw10_star.ok O hO k (T_rex_Node.mk a0.f_Kind a0.f_Index a0.f_Set a0.f_Kids) v43 hv43)), (36, .c (millwrightlaw10_cat.ok O hO k [(T_rex_Node.mk a0.f_Kind a0.f_Index a0.f_Set a0.f_Kids), v43] v44 hv44)), (38, .c (millwrightlaw10_same.ok O hO k (T_rex_Node.mk 5 0 (List.replicate 4 (0 : Int)) [(T_rex_Node.mk a0.f_Kind a0.f_Index a0.f_Set a0.f_Kids)]) v44 a2 v45 hv45)), (46, .c (millwrightlaw10_alt.ok O hO k [(T_rex_Node.mk 0 0 (List.replicate 4 (0 : Int)) []), (T_rex_Node.mk a0.f_Kind a0.f_Index a0.f_Set a0.f_Kids)] v47 hv47)), (48, .c (millwrightlaw10_same.ok O hO k (T_rex_Node.mk 6 0 (List.replicate 4 (0 : Int)) [(T_rex_Node.mk a0.f_Kind a0.f_Index a0.f_Set a0.f_Kids)]) v47 a2 v48 hv48))], kn := [(61, .f hc36), (76, .f hc42), (87, .f hc46)] } [2, 3, 4, 96] [3, 4] hN (by kernel_rfl) (by kernel_rfl) (by kernel_rfl) ?_
         refine tnU ?_
         exact ⟨(!v48), h, by kernel_rfl⟩
     ·rintro _ ⟨v26, h, rfl⟩
      unfold millwrightlaw10_DenoteKleene.j28 at h
      refine tS (b := v26) (by kernel_rfl) (fun hc27 => ?_) (fun hc27 => ?_)
      ·replace h := ite_t hc27 h
       refine WpC.seq ?_
       refine rS {} [6] [] hN (by kernel_rfl) (by kernel_rfl) ?_
       refine tnU ?_
       refine WpC.ret ?_
       refine thenQ_ret ?_
       have hq := Option.some.inj h
       subst hq
       exact eR (by kernel_rfl) (by kernel_rfl)
      ·replace h := ite_f hc27 h
       refine WpC.conv (cS [.k [2, 3, 4] [3, 4]] (by kernel_rfl) (by kernel_rfl)) (WpC.skip ?_)
       refine tnU ?_
       exact ⟨h, by kernel_rfl⟩
    ·rintro _ ⟨h, rfl⟩
     unfold millwrightlaw10_DenoteKleene.j25 at h
     refine WpC.seq ?_
     obtain ⟨v3, hv3, h⟩ := bind_some h
     obtain ⟨v4, hv4, h⟩ := bind_some h
     obtain ⟨v5, hv5, h⟩ := bind_some h
     obtain ⟨v6, hv6, h⟩ := bind_some h
     rcases bool_cases v6 with hc7 | hc7
     ·replace h := ite_t hc7 h
      obtain ⟨v8, hv8, h⟩ := bind_some h
      obtain ⟨v9, hv9, h⟩ := bind_some h
      obtain ⟨v10, hv10, h⟩ := bind_some h
      obtain ⟨v11, hv11, h⟩ := bind_some h
      obtain ⟨v12, hv12, h⟩ := bind_some h
      obtain ⟨v13, hv13, h⟩ := bind_some h
      obtain ⟨v14, hv14, h⟩ := bind_some h
      rcases bool_cases v14 with hc15 | hc15
      ·replace h := ite_t hc15 h
       obtain ⟨v16, hv16, h⟩ := bind_some h
       obtain ⟨v17, hv17, h⟩ := bind_some h
       obtain ⟨v18, hv18, h⟩ := bind_some h
       rcases bool_cases v18 with hc19 | hc19
       ·replace h := ite_t hc19 h
        obtain ⟨v20, hv20, h⟩ := bind_some h
        obtain ⟨v21, hv21, h⟩ := bind_some h
        obtain ⟨v22, hv22, h⟩ := bind_some h
        obtain ⟨v23, hv23, h⟩ := bind_some h
        obtain ⟨v24, hv24, h⟩ := bind_some h
        refine rA { its := [(1, .c (millwrightlaw10_star.ok O hO k (T_rex_Node.mk a0.f_Kind a0.f_Index a0.f_Set a0.f_Kids) v3 hv3)), (2, .c (millwrightlaw10_star.ok O hO k v3 v4 hv4)), (4, .c (millwrightlaw10_star.ok O hO k (T_rex_Node.mk a0.f_Kind a0.f_Index a0.f_Set a0.f_Kids) v5 hv5)), (6, .c (millwrightlaw10_same.ok O hO k v4 v5 a2 v6 hv6)), (12, .c (millwrightlaw10_cat.ok O hO k [(T_rex_Node.mk a1.f_Kind a1.f_Index a1.f_Set a1.f_Kids), (T_rex_Node.mk a0.f_Kind a0.f_Index a0.f_Set a0.f_Kids)] v8 hv8)), (13, .c (millwrightlaw10_star.ok O hO k v8 v9 hv9)), (15, .c (millwrightlaw10_cat.ok O hO k [(T_rex_Node.mk a0.f_Kind a0.f_Index a0.f_Set a0.f_Kids), v9] v10 hv10)), (19, .c (millwrightlaw10_cat.ok O hO k [(T_rex_Node.mk a0.f_Kind a0.f_Index a0.f_Set a0.f_Kids), (T_rex_Node.mk a1.f_Kind a1.f_Index a1.f_Set a1.f_Kids)] v11 hv11)), (20, .c (millwrightlaw10_star.ok O hO k v11 v12 hv12)), (23, .c (millwrightlaw10_cat.ok O hO k [v12, (T_rex_Node.mk a0.f_Kind a0.f_Index a0.f_Set a0.f_Kids)] v13 hv13)), (25, .c (millwrightlaw10_same.ok O hO k v10 v13 a2 v14 hv14)), (31, .c (millwrightlaw10_alt.ok O hO k [(T_rex_Node.mk a0.f_Kind a0.f_Index a0.f_Set a0.f_Kids), (T_rex_Node.mk a1.f_Kind a1.f_Index a1.f_Set a1.f_Kids)] v16 hv16)), (35, .c (millwrightlaw10_alt.ok O hO k [(T_rex_Node.mk a1.f_Kind a1.f_Index a1.f_Set a1.f_Kids), (T_rex_Node.mk a0.f_Kind a0.f_Index a0.f_Set a0.f_Kids)] v17 hv17)), (37, .c (millwrightlaw10_same.ok O hO k v16 v17 a2 v18 hv18)), (41, .c (millwrightlaw10_star.ok O hO k (T_rex_Node.mk a0.f_Kind a0.f_Index a0.f_Set a0.f_Kids) v20 hv20)), (43, .c (millwrightlaw10_star.ok O hO k (T_rex_Node.mk a0.f_Kind a0.f_Index a0.f_Set a0.f_Kids) v21 hv21)), (45, .c (millwrightlaw10_cat.ok O hO k [v20, v21] v22 hv22)), (47, .c (millwrightlaw10_star.ok O hO k (T_rex_Node.mk a0.f_Kind a0.f_Index a0.f_Set a0.f_Kids) v23 hv23)), (49, .c (millwrightlaw10_same.ok O hO k v22 v23 a2 v24 hv24))], kn := [(104, .t hc7), (124, .t hc15), (136, .t hc19)] } [6] [] hN (by kernel_rfl) (by kernel_rfl) (by kernel_rfl) ?_
        refine tnU ?_
        refine WpC.ret ?_
        have hq := Option.some.inj h
        subst hq
        exact eR (by kernel_rfl) (by kernel_rfl)
       ·replace h := ite_f hc19 h
        refine rA { its := [(1, .c (millwrightlaw10_star.ok O hO k (T_rex_Node.mk a0.f_Kind a0.f_Index a0.f_Set a0.f_Kids) v3 hv3)), (2, .c (millwrightlaw10_star.ok O hO k v3 v4 hv4)), (4, .c (millwrightlaw10_star.ok O hO k (T_rex_Node.mk a0.f_Kind a0.f_Index a0.f_Set a0.f_Kids) v5 hv5)), (6, .c (millwrightlaw10_same.ok O hO k v4 v5 a2 v6 hv6)), (12, .c (millwrightlaw10_cat.ok O hO k [(T_rex_Node.mk a1.f_Kind a1.f_Index a1.f_Set a1.f_Kids), (T_rex_Node.mk a0.f_Kind a0.f_Index a0.f_Set a0.f_Kids)] v8 hv8)), (13, .c (millwrightlaw10_star.ok O hO k v8 v9 hv9)), (15, .c (millwrightlaw10_cat.ok O hO k [(T_rex_Node.mk a0.f_Kind a0.f_Index a0.f_Set a0.f_Kids), v9] v10 hv10)), (19, .c (millwrightlaw10_cat.ok O hO k [(T_rex_Node.mk a0.f_Kind a0.f_Index a0.f_Set a0.f_Kids), (T_rex_Node.mk a1.f_Kind a1.f_Index a1.f_Set a1.f_Kids)] v11 hv11)), (20, .c (millwrightlaw10_star.ok O hO k v11 v12 hv12)), (23, .c (millwrightlaw10_cat.ok O hO k [v12, (T_rex_Node.mk a0.f_Kind a0.f_Index a0.f_Set a0.f_Kids)] v13 hv13)), (25, .c (millwrightlaw10_same.ok O hO k v10 v13 a2 v14 hv14)), (31, .c (millwrightlaw10_alt.ok O hO k [(T_rex_Node.mk a0.f_Kind a0.f_Index a0.f_Set a0.f_Kids), (T_rex_Node.mk a1.f_Kind a1.f_Index a1.f_Set a1.f_Kids)] v16 hv16)), (35, .c (millwrightlaw10_alt.ok O hO k [(T_rex_Node.mk a1.f_Kind a1.f_Index a1.f_Set a1.f_Kids), (T_rex_Node.mk a0.f_Kind a0.f_Index a0.f_Set a0.f_Kids)] v17 hv17)), (37, .c (millwrightlaw10_same.ok O hO k v16 v17 a2 v18 hv18))], kn := [(104, .t hc7), (124, .t hc15), (136, .f hc19)] } [6] [] hN (by kernel_rfl) (by kernel_rfl) (by kernel_rfl) ?_
        refine tnU ?_
        refine WpC.ret ?_
        have hq := Option.some.inj h
        subst hq
        exact eR (by kernel_rfl) (by kernel_rfl)
      ·replace h := ite_f hc15 h
       refine rA { its := [(1, .c (millwrightlaw10_star.ok O hO k (T_rex_Node.mk a0.f_Kind a0.f_Index a0.f_Set a0.f_Kids) v3 hv3)), (2, .c (millwrightlaw10_star.ok O hO k v3 v4 hv4)), (4, .c (millwrightlaw10_star.ok O hO k (T_rex_Node.mk a0.f_Kind a0.f_Index a0.f_Set a0.f_Kids) v5 hv5)), (6, .c (millwrightlaw10_same.ok O hO k v4 v5 a2 v6 hv6)), (12, .c (millwrightlaw10_cat.ok O hO k [(T_rex_Node.mk a1.f_Kind a1.f_Index a1.f_Set a1.f_Kids), (T_rex_Node.mk a0.f_Kind a0.f_Index a0.f_Set a0.f_Kids)] v8 hv8)), (13, .c (millwrightlaw10_star.ok O hO k v8 v9 hv9)), (15, .c (millwrightlaw10_cat.ok O hO k [(T_rex_Node.mk a0.f_Kind a0.f_Index a0.f_Set a0.f_Kids), v9] v10 hv10)), (19, .c (millwrightlaw10_cat.ok O hO k [(T_rex_Node.mk a0.f_Kind a0.f_Index a0.f_Set a0.f_Kids), (T_rex_Node.mk a1.f_Kind a1.f_Index a1.f_Set a1.f_Kids)] v11 hv11)), (20, .c (millwrightlaw10_star.ok O hO k v11 v12 hv12)), (23, .c (millwrightlaw10_cat.ok O hO k [v12, (T_rex_Node.mk a0.f_Kind a0.f_Index a0.f_Set a0.f_Kids)] v13 hv13)), (25, .c (millwrightlaw10_same.ok O hO k v10 v13 a2 v14 hv14))], kn := [(104, .t hc7), (124, .f hc15)] } [6] [] hN (by kernel_rfl) (by kernel_rfl) (by kernel_rfl) ?_
       refine tnU ?_
       refine WpC.ret ?_
       have hq := Option.some.inj h
       subst hq
       exact eR (by kernel_rfl) (by kernel_rfl)
     ·replace h := ite_f hc7 h
      refine rA { its := [(1, .c (millwrightlaw10_star.ok O hO k (T_rex_Node.mk a0.f_Kind a0.f_Index a0.f_Set a0.f_Kids) v3 hv3)), (2, .c (millwrightlaw10_star.ok O hO k v3 v4 hv4)), (4, .c (millwrightlaw10_star.ok O hO k (T_rex_Node.mk a0.f_Kind a0.f_Index a0.f_Set a0.f_Kids) v5 hv5)), (6, .c (millwrightlaw10_same.ok O hO k v4 v5 a2 v6 hv6))], kn := [(104, .f hc7)] } [6] [] hN (by kernel_rfl) (by kernel_rfl) (by kernel_rfl) ?_
      refine tnU ?_
      refine WpC.ret ?_
      have hq := Option.some.inj h
      subst hq
      exact eR (by kernel_rfl) (by kernel_rfl)

end Go.Proofs.YteddmdkbeednmaaDoor
