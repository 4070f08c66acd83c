/- A part of the proof of a given law: DNC5. Own work, printed in part by a program of mine. -/
import Derived.Test.YteddmdkbeednmaaDoorK32DNC4
namespace Go.Proofs.YteddmdkbeednmaaDoor
open Go Go.AM
set_option linter.unusedVariables false
set_option linter.unusedSimpArgs false
set_option maxRecDepth 100000
set_option maxHeartbeats 4000000
theorem denote_skips_1.bok (O : Out) (hO : GOkA O) (k : Nat) (rf_denote_skips : T_rex_Node → Option Bool) (hrf_denote_skips : ∀ (a0 : T_rex_Node) (out : Bool), rf_denote_skips a0 = some out → COk Un O Tryd.prog 57 { ar := [.p (.named 3) a0], r := .p .bool out }) (a0 : T_rex_Node) (out : Bool) (h : denote_skips_1.b k rf_denote_skips a0 = some out) : COk Un O Tryd.prog 68 { ar := [.p (.named 3) a0], r := .p .bool out } := by
 refine cok_of_wp Tryd.func68 rfl (k := 6) rfl (Nat.le_of_ble_eq_true rfl) (namesOk_pure rfl rfl rfl rfl) ?_
 intro B hN
 refine WpC.conv (cvK (b := ⟨[(0, .p (.named 3) a0)], []⟩) [0] [] (by kernel_rfl)) ?_
 unfold denote_skips_1.b at h
 refine WpC.seq ?_
 refine rS {} [1] [1] hN (by kernel_rfl) (by kernel_rfl) ?_
 refine tnU ?_
 refine WpC.seq ?_
 obtain ⟨v1, hv1, h⟩ := bind_some h
 refine rS { its := [(1, .c (hrf_denote_skips (T_rex_Node.mk a0.f_Kind a0.f_Index a0.f_Set a0.f_Kids) v1 hv1))] } [2] [] hN (by kernel_rfl) (by kernel_rfl) ?_
 refine tnU ?_
 refine WpC.ret ?_
 have hq := Option.some.inj h
 subst hq
 exact eR (by kernel_rfl) (by kernel_rfl)

theorem rex_Node_49_m1.bok (O : Out) (hO : GOkA O) (k : Nat) (rf_denote_skips_1 : T_rex_Node → Option Bool) (hrf_denote_skips_1 : ∀ (a0 : T_rex_Node) (out : Bool), rf_denote_skips_1 a0 = some out → COk Un O Tryd.prog 68 { ar := [.p (.named 3) a0], r := .p .bool out }) (a0 : List T_rex_Node) (out : Int) (h : rex_Node_49_m1.b k rf_denote_skips_1 a0 = some out) : COk Un O Tryd.prog 49 { ar := [.p (.list (.named 3)) a0, .clo 68 []], r := .p I6 out } := by
 refine cok_of_wp Tryd.func49 rfl (k := 19) rfl (Nat.le_of_ble_eq_true rfl) (namesOk_pure rfl rfl rfl rfl) ?_
 intro B hN
 refine WpC.conv (cvK (b := ⟨[(0, .p (.list (.named 3)) a0), (1, .clo 68 [])], []⟩) [0, 1] [] (by kernel_rfl)) ?_
 unfold rex_Node_49_m1.b at h
 refine WpC.seq ?_
 refine rS {} [0, 1] [] hN (by kernel_rfl) (by kernel_rfl) ?_
 refine tnU ?_
 refine sqJ (fun st' => rex_Node_49_m1.j1 k = some out ∧ st' = ⟨[], []⟩) ?_ ?_
 ·refine WpC.seq ?_
  refine rS {} [0, 1, 7, 8] [] hN (by kernel_rfl) (by kernel_rfl) ?_
  refine tnU ?_
  refine WpC.block ?_
  obtain ⟨o4, hlo4, h⟩ := bind_some h
  have hout5 := h
  clear h
  refine WpC.loop (U := Un) (fun n st' => ∃ v2 : Int, rex_Node_49_m1.l3 k rf_denote_skips_1 a0 n v2 = some o4 ∧ st' = ⟨[(0, .p (.list (.named 3)) a0), (1, .clo 68 []), (7, .p I6 ((a0.length : Int) : Int)), (8, .p I6 v2)], []⟩) k ⟨0, hlo4, by kernel_rfl⟩ ?_
  clear hlo4
  rintro (_ | n) _ ⟨v2, h, rfl⟩
  ·cases h
  ·rw [rex_Node_49_m1.l3] at h
   refine WpC.seq ?_
   refine rS {} [0, 1, 7, 8, 9] [] hN (by kernel_rfl) (by kernel_rfl) ?_
   refine tnU ?_
   refine WpC.seq ?_
   refine tS (b := (decide (v2 < (a0.length : Int)))) (by kernel_rfl) (fun hc6 => ?_) (fun hc6 => ?_)
   ·replace h := ite_t hc6 h
    refine WpC.conv (cS [.k [0, 1, 7, 8] []] (by kernel_rfl) (by kernel_rfl)) (WpC.skip ?_)
    refine tnU ?_
    refine WpC.seq ?_
    refine WpC.block ?_
    refine WpC.seq ?_
    refine rS {} [0, 1, 5, 7, 8] [] hN (by kernel_rfl) (by kernel_rfl) ?_
    refine tnU ?_
    refine WpC.seq ?_
    obtain ⟨v7, hv7, h⟩ := bind_some h
    obtain ⟨v8, hv8, h⟩ := bind_some h
    refine rS { its := [(3, .v (.named 3) hv7), (5, .c (hrf_denote_skips_1 v7 v8 hv8))] } [0, 1, 5, 7, 8, 16] [] hN (by kernel_rfl) (by kernel_rfl) ?_
    refine tnU ?_
    refine tS (b := v8) (by kernel_rfl) (fun hc9 => ?_) (fun hc9 => ?_)
    ·replace h := ite_t hc9 h
     refine WpC.seq ?_
     refine rS {} [4] [] hN (by kernel_rfl) (by kernel_rfl) ?_
     refine tnU ?_
     refine WpC.ret ?_
     refine blockQ_ret ?_
     refine thenQ_ret ?_
     have hq := Option.some.inj h
     subst hq
     refine thenQ_ret ?_
     have h := hout5
     refine blockQ_ret ?_
     refine thenQ_ret ?_
     have hq := Option.some.inj h
     subst hq
     exact eR (by kernel_rfl) (by kernel_rfl)
    ·replace h := ite_f hc9 h
     refine WpC.conv (cS [.k [0, 1, 7, 8] []] (by kernel_rfl) (by kernel_rfl)) (WpC.skip ?_)
     refine blockQ_normal ?_
     refine tnU ?_
     refine rS {} [0, 1, 7, 8] [] hN (by kernel_rfl) (by kernel_rfl) ?_
     refine tnU ?_
     exact ⟨n, Nat.lt_succ_self n, (IntKind.i64.wrap (v2 + 1)), h, by kernel_rfl⟩
   ·replace h := ite_f hc6 h
    refine WpC.conv (cS [.k [] []] (by kernel_rfl) (by kernel_rfl)) (WpC.exit ?_)
    refine thenQ_exit ?_
    have hq := Option.some.inj h
    subst hq
    refine thenQ_exit ?_
    have h := hout5
    refine blockQ_hit ?_
    refine tnU ?_
    exact ⟨h, by kernel_rfl⟩
 ·rintro _ ⟨h, rfl⟩
  unfold rex_Node_49_m1.j1 at h
  refine WpC.seq ?_
  refine rS {} [4] [] hN (by kernel_rfl) (by kernel_rfl) ?_
  refine tnU ?_
  refine WpC.ret ?_
  have hq := Option.some.inj h
  subst hq
  exact eR (by kernel_rfl) (by kernel_rfl)

theorem rex_Node_m1.bok (O : Out) (hO : GOkA O) (k : Nat) (rf_rex_Node_49_m1 : (List T_rex_Node) → Option Int) (hrf_rex_Node_49_m1 : ∀ (a0 : List T_rex_Node) (out : Int), rf_rex_Node_49_m1 a0 = some out → COk Un O Tryd.prog 49 { ar := [.p (.list (.named 3)) a0, .clo 68 []], r := .p I6 out }) (a0 : List T_rex_Node) (out : Bool) (h : rex_Node_m1.b k rf_rex_Node_49_m1 a0 = some out) : COk Un O Tryd.prog 34 { ar := [.p (.list (.named 3)) a0, .clo 68 []], r := .p .bool out } := by
 refine cok_of_wp Tryd.func34 rfl (k := 9) rfl (Nat.le_of_ble_eq_true rfl) (namesOk_pure rfl rfl rfl rfl) ?_
 intro B hN
 refine WpC.conv (cvK (b := ⟨[(0, .p (.list (.named 3)) a0), (1, .clo 68 [])], []⟩) [0, 1] [] (by kernel_rfl)) ?_
 unfold rex_Node_m1.b at h
 refine WpC.seq ?_
 refine rS {} [0, 1] [] hN (by kernel_rfl) (by kernel_rfl) ?_
 refine tnU ?_
 refine WpC.seq ?_
 obtain ⟨v1, hv1, h⟩ := bind_some h
 refine rS { its := [(2, .c (hrf_rex_Node_49_m1 a0 v1 hv1))] } [4] [] hN (by kernel_rfl) (by kernel_rfl) ?_
 refine tnU ?_
 refine WpC.ret ?_
 have hq := Option.some.inj h
 subst hq
 exact eR (by kernel_rfl) (by kernel_rfl)

theorem rex_Node_49_m2.bok (O : Out) (hO : GOkA O) (k : Nat) (rf_denote_skips : T_rex_Node → Option Bool) (hrf_denote_skips : ∀ (a0 : T_rex_Node) (out : Bool), rf_denote_skips a0 = some out → COk Un O Tryd.prog 57 { ar := [.p (.named 3) a0], r := .p .bool out }) (a0 : List T_rex_Node) (out : Int) (h : rex_Node_49_m2.b k rf_denote_skips a0 = some out) : COk Un O Tryd.prog 49 { ar := [.p (.list (.named 3)) a0, .clo 57 []], r := .p I6 out } := by
 refine cok_of_wp Tryd.func49 rfl (k := 19) rfl (Nat.le_of_ble_eq_true rfl) (namesOk_pure rfl rfl rfl rfl) ?_
 intro B hN
 refine WpC.conv (cvK (b := ⟨[(0, .p (.list (.named 3)) a0), (1, .clo 57 [])], []⟩) [0, 1] [] (by kernel_rfl)) ?_
 unfold rex_Node_49_m2.b at h
 refine WpC.seq ?_
 refine rS {} [0, 1] [] hN (by kernel_rfl) (by kernel_rfl) ?_
 refine tnU ?_
 refine sqJ (fun st' => rex_Node_49_m2.j1 k = some out ∧ st' = ⟨[], []⟩) ?_ ?_
 ·refine WpC.seq ?_
  refine rS {} [0, 1, 7, 8] [] hN (by kernel_rfl) (by kernel_rfl) ?_
  refine tnU ?_
  refine WpC.block ?_
  obtain ⟨o4, hlo4, h⟩ := bind_some h
  have hout5 := h
  clear h
  refine WpC.loop (U := Un) (fun n st' => ∃ v2 : Int, rex_Node_49_m2.l3 k rf_denote_skips a0 n v2 = some o4 ∧ st' = ⟨[(0, .p (.list (.named 3)) a0), (1, .clo 57 []), (7, .p I6 ((a0.length : Int) : Int)), (8, .p I6 v2)], []⟩) k ⟨0, hlo4, by kernel_rfl⟩ ?_
  clear hlo4
  rintro (_ | n) _ ⟨v2, h, rfl⟩
  ·cases h
  ·rw [rex_Node_49_m2.l3] at h
   refine WpC.seq ?_
   refine rS {} [0, 1, 7, 8, 9] [] hN (by kernel_rfl) (by kernel_rfl) ?_
   refine tnU ?_
   refine WpC.seq ?_
   refine tS (b := (decide (v2 < (a0.length : Int)))) (by kernel_rfl) (fun hc6 => ?_) (fun hc6 => ?_)
   ·replace h := ite_t hc6 h
    refine WpC.conv (cS [.k [0, 1, 7, 8] []] (by kernel_rfl) (by kernel_rfl)) (WpC.skip ?_)
    refine tnU ?_
    refine WpC.seq ?_
    refine WpC.block ?_
    refine WpC.seq ?_
    refine rS {} [0, 1, 5, 7, 8] [] hN (by kernel_rfl) (by kernel_rfl) ?_
    refine tnU ?_
    refine WpC.seq ?_
    obtain ⟨v7, hv7, h⟩ := bind_some h
    obtain ⟨v8, hv8, h⟩ := bind_some h
    refine rS { its := [(3, .v (.named 3) hv7), (5, .c (hrf_denote_skips v7 v8 hv8))] } [0, 1, 5, 7, 8, 16] [] hN (by kernel_rfl) (by kernel_rfl) ?_
    refine tnU ?_
    refine tS (b := v8) (by kernel_rfl) (fun hc9 => ?_) (fun hc9 => ?_)
    ·replace h := ite_t hc9 h
     refine WpC.seq ?_
     refine rS {} [4] [] hN (by kernel_rfl) (by kernel_rfl) ?_
     refine tnU ?_
     refine WpC.ret ?_
     refine blockQ_ret ?_
     refine thenQ_ret ?_
     have hq := Option.some.inj h
     subst hq
     refine thenQ_ret ?_
     have h := hout5
     refine blockQ_ret ?_
     refine thenQ_ret ?_
     have hq := Option.some.inj h
     subst hq
     exact eR (by kernel_rfl) (by kernel_rfl)
    ·replace h := ite_f hc9 h
     refine WpC.conv (cS [.k [0, 1, 7, 8] []] (by kernel_rfl) (by kernel_rfl)) (WpC.skip ?_)
     refine blockQ_normal ?_
     refine tnU ?_
     refine rS {} [0, 1, 7, 8] [] hN (by kernel_rfl) (by kernel_rfl) ?_
     refine tnU ?_
     exact ⟨n, Nat.lt_succ_self n, (IntKind.i64.wrap (v2 + 1)), h, by kernel_rfl⟩
   ·replace h := ite_f hc6 h
    refine WpC.conv (cS [.k [] []] (by kernel_rfl) (by kernel_rfl)) (WpC.exit ?_)
    refine thenQ_exit ?_
    have hq := Option.some.inj h
    subst hq
    refine thenQ_exit ?_
    have h := hout5
    refine blockQ_hit ?_
    refine tnU ?_
    exact ⟨h, by kernel_rfl⟩
 ·rintro _ ⟨h, rfl⟩
  unfold rex_Node_49_m2.j1 at h
  refine WpC.seq ?_
  refine rS {} [4] [] hN (by kernel_rfl) (by kernel_rfl) ?_
  refine tnU ?_
  refine WpC.ret ?_
  have hq := Option.some.inj h
  subst hq
  exact eR (by kernel_rfl) (by kernel_rfl)

theorem rex_Node_m2.bok (O : Out) (hO : GOkA O) (k : Nat) (rf_rex_Node_49_m2 : (List T_rex_Node) → Option Int) (hrf_rex_Node_49_m2 : ∀ (a0 : List T_rex_Node) (out : Int), rf_rex_Node_49_m2 a0 = some out → COk Un O Tryd.prog 49 { ar := [.p (.list (.named 3)) a0, .clo 57 []], r := .p I6 out }) (a0 : List T_rex_Node) (out : Bool) (h : rex_Node_m2.b k rf_rex_Node_49_m2 a0 = some out) : COk Un O Tryd.prog 34 { ar := [.p (.list (.named 3)) a0, .clo 57 []], r := .p .bool out } := by
 refine cok_of_wp Tryd.func34 rfl (k := 9) rfl (Nat.le_of_ble_eq_true rfl) (namesOk_pure rfl rfl rfl rfl) ?_
 intro B hN
 refine WpC.conv (cvK (b := ⟨[(0, .p (.list (.named 3)) a0), (1, .clo 57 [])], []⟩) [0, 1] [] (by kernel_rfl)) ?_
 unfold rex_Node_m2.b at h
 refine WpC.seq ?_
 refine rS {} [0, 1] [] hN (by kernel_rfl) (by kernel_rfl) ?_
 refine tnU ?_
 refine WpC.seq ?_
 obtain ⟨v1, hv1, h⟩ := bind_some h
 refine rS { its := [(2, .c (hrf_rex_Node_49_m2 a0 v1 hv1))] } [4] [] hN (by kernel_rfl) (by kernel_rfl) ?_
 refine tnU ?_
 refine WpC.ret ?_
 have hq := Option.some.inj h
 subst hq
 exact eR (by kernel_rfl) (by kernel_rfl)

theorem denote_skips.bok (O : Out) (hO : GOkA O) (k : Nat) (rf_rex_Node_m1 : (List T_rex_Node) → Option Bool) (rf_rex_Node_m2 : (List T_rex_Node) → Option Bool) (rf_denote_skips : T_rex_Node → Option Bool) (hrf_rex_Node_m1 : ∀ (a0 : List T_rex_Node) (out : Bool), rf_rex_Node_m1 a0 = some out → COk Un O Tryd.prog 34 { ar := [.p (.list (.named 3)) a0, .clo 68 []], r := .p .bool out }) (hrf_rex_Node_m2 : ∀ (a0 : List T_rex_Node) (out : Bool), rf_rex_Node_m2 a0 = some out → COk Un O Tryd.prog 34 { ar := [.p (.list (.named 3)) a0, .clo 57 []], r := .p .bool out }) (hrf_denote_skips : ∀ (a0 : T_rex_Node) (out : Bool), rf_denote_skips a0 = some out → COk Un O Tryd.prog 57 { ar := [.p (.named 3) a0], r := .p .bool out }) (a0 : T_rex_Node) (out : Bool) (h : denote_skips.b k rf_rex_Node_m1 rf_rex_Node_m2 rf_denote_skips a0 = some out) : COk Un O Tryd.prog 57 { ar := [.p (.named 3) a0], r := .p .bool out } := by
 refine cok_of_wp Tryd.func57 rfl (k := 26) rfl (Nat.le_of_ble_eq_true rfl) (namesOk_pure rfl rfl rfl rfl) ?_
 intro B hN
 refine WpC.conv (cvK (b := ⟨[(0, .p (.named 3) a0)], []⟩) [0] [] (by kernel_rfl)) ?_
 unfold denote_skips.b at h
 refine WpC.seq ?_
 refine rS {} [1] [1] hN (by kernel_rfl) (by kernel_rfl) ?_
 refine tnU ?_
 refine sqJ (fun st' => denote_skips.j1 k = some out ∧ st' = ⟨[], []⟩) ?_ ?_
 ·refine WpC.seq ?_
  refine rS {} [1, 4] [1] hN (by kernel_rfl) (by kernel_rfl) ?_
  refine tnU ?_
  refine WpC.block ?_
  refine WpC.seq ?_
  refine rS {} [1, 4, 5] [1] hN (by kernel_rfl) (by kernel_rfl) ?_
  refine tnU ?_
  refine tS (b := (a0.f_Kind == 1)) (by kernel_rfl) (fun hc2 => ?_) (fun hc2 => ?_)
  ·replace h := ite_t hc2 h
   refine WpC.seq ?_
   refine rS {} [2] [] hN (by kernel_rfl) (by kernel_rfl) ?_
   refine tnU ?_
   refine WpC.ret ?_
   refine blockQ_ret ?_
   refine thenQ_ret ?_
   have hq := Option.some.inj h
   subst hq
   exact eR (by kernel_rfl) (by kernel_rfl)
  ·replace h := ite_f hc2 h
   refine WpC.seq ?_
   refine rS {} [1, 4, 7] [1] hN (by kernel_rfl) (by kernel_rfl) ?_
   refine tnU ?_
   refine tS (b := (a0.f_Kind == 2)) (by kernel_rfl) (fun hc3 => ?_) (fun hc3 => ?_)
   ·replace h := ite_t hc3 h
    refine WpC.seq ?_
    obtain ⟨v4, hv4, h⟩ := bind_some h
    refine rS { its := [(2, .c (hrf_rex_Node_m1 a0.f_Kids v4 hv4))] } [2] [] hN (by kernel_rfl) (by kernel_rfl) ?_
    refine tnU ?_
    refine WpC.ret ?_
    refine blockQ_ret ?_
    refine thenQ_ret ?_
    have hq := Option.some.inj h
    subst hq
    exact eR (by kernel_rfl) (by kernel_rfl)
   ·replace h := ite_f hc3 h
    refine WpC.seq ?_
    refine rS {} [1, 4, 13] [1] hN (by kernel_rfl) (by kernel_rfl) ?_
    refine tnU ?_
    refine tS (b := (a0.f_Kind == 3)) (by kernel_rfl) (fun hc5 => ?_) (fun hc5 => ?_)
    ·replace h := ite_t hc5 h
     refine WpC.seq ?_
     obtain ⟨v6, hv6, h⟩ := bind_some h
     refine rS { its := [(2, .c (hrf_rex_Node_m2 a0.f_Kids v6 hv6))] } [2] [] hN (by kernel_rfl) (by kernel_rfl) ?_
     refine tnU ?_
     refine WpC.ret ?_
     refine blockQ_ret ?_
     refine thenQ_ret ?_
     have hq := Option.some.inj h
     subst hq
     exact eR (by kernel_rfl) (by kernel_rfl)
    ·replace h := ite_f hc5 h
     refine sqJ (fun st' => ∃ v7 : Bool, denote_skips.j11 k rf_denote_skips a0 v7 = some out ∧ st' = ⟨[(1, .loc 1 0), (18, .p .bool v7)], [(1, .box [.p I6 a0.f_Kind, .p I6 a0.f_Index, .p U6 a0.f_Set, .p (.list (.named 3)) a0.f_Kids])]⟩) ?_ ?_
     ·refine WpC.seq ?_
      refine rS {} [1, 4, 18] [1] hN (by kernel_rfl) (by kernel_rfl) ?_
      refine tnU ?_
      refine tS (b := (a0.f_Kind == 5)) (by kernel_rfl) (fun hc12 => ?_) (fun hc12 => ?_)
      ·replace h := ite_t hc12 h
       refine WpC.conv (cS [.k [1, 18] [1]] (by kernel_rfl) (by kernel_rfl)) (WpC.skip ?_)
       refine tnU ?_
       exact ⟨(a0.f_Kind == 5), h, by kernel_rfl⟩
      ·replace h := ite_f hc12 h
       refine rS {} [1, 18] [1] hN (by kernel_rfl) (by kernel_rfl) ?_
       refine tnU ?_
       exact ⟨(a0.f_Kind == 7), h, by kernel_rfl⟩
     ·rintro _ ⟨v7, h, rfl⟩
      unfold denote_skips.j11 at h
      refine tS (b := v7) (by kernel_rfl) (fun hc8 => ?_) (fun hc8 => ?_)
      ·replace h := ite_t hc8 h
       refine WpC.seq ?_
       obtain ⟨v9, hv9, h⟩ := bind_some h
       obtain ⟨v10, hv10, h⟩ := bind_some h
       refine rS { its := [(2, .v (.named 3) hv9), (4, .c (hrf_denote_skips v9 v10 hv10))] } [2] [] hN (by kernel_rfl) (by kernel_rfl) ?_
       refine tnU ?_
       refine WpC.ret ?_
       refine blockQ_ret ?_
       refine thenQ_ret ?_
       have hq := Option.some.inj h
       subst hq
       exact eR (by kernel_rfl) (by kernel_rfl)
      ·replace h := ite_f hc8 h
       refine WpC.conv (cS [.k [] []] (by kernel_rfl) (by kernel_rfl)) (WpC.skip ?_)
       refine blockQ_normal ?_
       refine tnU ?_
       exact ⟨h, by kernel_rfl⟩
 ·rintro _ ⟨h, rfl⟩
  unfold denote_skips.j1 at h
  refine WpC.seq ?_
  refine rS {} [2] [] hN (by kernel_rfl) (by kernel_rfl) ?_
  refine tnU ?_
  refine WpC.ret ?_
  have hq := Option.some.inj h
  subst hq
  exact eR (by kernel_rfl) (by kernel_rfl)

theorem scc_denote_skips.ok (O : Out) (hO : GOkA O) : ∀ k : Nat, (∀ (a0 : T_rex_Node) (out : Bool), denote_skips_1.f k a0 = some out → COk Un O Tryd.prog 68 { ar := [.p (.named 3) a0], r := .p .bool out }) ∧ (∀ (a0 : List T_rex_Node) (out : Int), rex_Node_49_m1.f k a0 = some out → COk Un O Tryd.prog 49 { ar := [.p (.list (.named 3)) a0, .clo 68 []], r := .p (.int .i64) out }) ∧ (∀ (a0 : List T_rex_Node) (out : Bool), rex_Node_m1.f k a0 = some out → COk Un O Tryd.prog 34 { ar := [.p (.list (.named 3)) a0, .clo 68 []], r := .p .bool out }) ∧ (∀ (a0 : List T_rex_Node) (out : Int), rex_Node_49_m2.f k a0 = some out → COk Un O Tryd.prog 49 { ar := [.p (.list (.named 3)) a0, .clo 57 []], r := .p (.int .i64) out }) ∧ (∀ (a0 : List T_rex_Node) (out : Bool), rex_Node_m2.f k a0 = some out → COk Un O Tryd.prog 34 { ar := [.p (.list (.named 3)) a0, .clo 57 []], r := .p .bool out }) ∧ (∀ (a0 : T_rex_Node) (out : Bool), denote_skips.f k a0 = some out → COk Un O Tryd.prog 57 { ar := [.p (.named 3) a0], r := .p .bool out }) := by
 intro k
 induction k with
 | zero => exact ⟨fun a0 out h => (by have h2 : (none : Option Bool) = some out := h; cases h2), fun a0 out h => (by have h2 : (none : Option Int) = some out := h; cases h2), fun a0 out h => (by have h2 : (none : Option Bool) = some out := h; cases h2), fun a0 out h => (by have h2 : (none : Option Int) = some out := h; cases h2), fun a0 out h => (by have h2 : (none : Option Bool) = some out := h; cases h2), fun a0 out h => (by have h2 : (none : Option Bool) = some out := h; cases h2)⟩
 | succ k ih => exact ⟨fun a0 out h => denote_skips_1.bok O hO k _ ih.2.2.2.2.2 a0 out h, fun a0 out h => rex_Node_49_m1.bok O hO k _ ih.1 a0 out h, fun a0 out h => rex_Node_m1.bok O hO k _ ih.2.1 a0 out h, fun a0 out h => rex_Node_49_m2.bok O hO k _ ih.2.2.2.2.2 a0 out h, fun a0 out h => rex_Node_m2.bok O hO k _ ih.2.2.2.1 a0 out h, fun a0 out h => denote_skips.bok O hO k _ _ _ ih.2.2.1 ih.2.2.2.2.1 ih.2.2.2.2.2 a0 out h⟩
theorem denote_skips.ok (O : Out) (hO : GOkA O) (k : Nat) (a0 : T_rex_Node) (out : Bool) (h : denote_skips.f k a0 = some out) : COk Un O Tryd.prog 57 { ar := [.p (.named 3) a0], r := .p .bool out } := (scc_denote_skips.ok O hO k).2.2.2.2.2 a0 out h

theorem denote_first.bok (O : Out) (hO : GOkA O) (k : Nat) (rf_denote_first : T_rex_Node → Option (List Int)) (hrf_denote_first : ∀ (a0 : T_rex_Node) (out : List Int), rf_denote_first a0 = some out → COk Un O Tryd.prog 41 { ar := [.p (.named 3) a0], r := .p U6 out }) (a0 : T_rex_Node) (out : List Int) (h : denote_first.b k rf_denote_first a0 = some out) : COk Un O Tryd.prog 41 { ar := [.p (.named 3) a0], r := .p U6 out } := by
 refine cok_of_wp Tryd.func41 rfl (k := 29) rfl (Nat.le_of_ble_eq_true rfl) (namesOk_pure rfl rfl rfl rfl) ?_
 intro B hN
 refine WpC.conv (cvK (b := ⟨[(0, .p (.named 3) a0)], []⟩) [0] [] (by kernel_rfl)) ?_
 unfold denote_first.b at h
 refine WpC.seq ?_
 refine rS {} [1, 2] [1, 2] hN (by kernel_rfl) (by kernel_rfl) ?_
 refine tnU ?_
 refine WpC.seq ?_
 refine rS {} [1, 2, 3] [1, 2, 3] hN (by kernel_rfl) (by kernel_rfl) ?_
 refine tnU ?_
 refine sqJ (fun st' => ∃ v1 : List Int, denote_first.j2 k v1 = some out ∧ st' = ⟨[(2, .loc 2 0), (3, .loc 3 0)], [(2, .box [.p U6 ((List.replicate 4 (0 : Int)) : List Int)]), (3, .box [.p U6 v1])]⟩) ?_ ?_
 ·refine WpC.seq ?_
  refine rS {} [1, 2, 3, 9, 10, 11] [1, 2, 3] hN (by kernel_rfl) (by kernel_rfl) ?_
  refine tnU ?_
  refine WpC.block ?_
  obtain ⟨o7, hlo7, h⟩ := bind_some h
  have hout8 := h
  clear h
  refine WpC.loop (U := Un) (fun n st' => ∃ v3 : List Int, ∃ v4 : Int, denote_first.l5 k rf_denote_first a0 n v3 v4 = some o7 ∧ st' = ⟨[(1, .loc 1 0), (2, .loc 2 0), (3, .loc 3 0), (9, .p (.list (.named 3)) a0.f_Kids), (10, .p I6 ((a0.f_Kids.length : Int) : Int)), (11, .p I6 v4)], [(1, .box [.p I6 a0.f_Kind, .p I6 a0.f_Index, .p U6 a0.f_Set, .p (.list (.named 3)) a0.f_Kids]), (2, .box [.p U6 ((List.replicate 4 (0 : Int)) : List Int)]), (3, .box [.p U6 v3])]⟩) k ⟨a0.f_Set, 0, hlo7, by kernel_rfl⟩ ?_
  clear hlo7
  rintro (_ | n) _ ⟨v3, v4, h, rfl⟩
  ·cases h
  ·rw [denote_first.l5] at h
   refine WpC.seq ?_
   refine rS {} [1, 2, 3, 9, 10, 11, 12] [1, 2, 3] hN (by kernel_rfl) (by kernel_rfl) ?_
   refine tnU ?_
   refine WpC.seq ?_
   refine tS (b := (decide (v4 < (a0.f_Kids.length : Int)))) (by kernel_rfl) (fun hc9 => ?_) (fun hc9 => ?_)
   ·replace h := ite_t hc9 h
    refine WpC.conv (cS [.k [1, 2, 3, 9, 10, 11] [1, 2, 3]] (by kernel_rfl) (by kernel_rfl)) (WpC.skip ?_)
    refine tnU ?_
    refine sqJ (fun st' => ∃ v10 : List Int, denote_first.j11 k (denote_first.l5 k rf_denote_first a0 n) a0 v4 v10 = some o7 ∧ st' = ⟨[(1, .loc 1 0), (2, .loc 2 0), (3, .loc 3 0), (9, .p (.list (.named 3)) a0.f_Kids), (10, .p I6 ((a0.f_Kids.length : Int) : Int)), (11, .p I6 v4)], [(1, .box [.p I6 a0.f_Kind, .p I6 a0.f_Index, .p U6 a0.f_Set, .p (.list (.named 3)) a0.f_Kids]), (2, .box [.p U6 ((List.replicate 4 (0 : Int)) : List Int)]), (3, .box [.p U6 v10])]⟩) ?_ ?_
    ·refine WpC.block ?_
     refine WpC.seq ?_
     obtain ⟨v12, hv12, h⟩ := bind_some h
     refine rS { its := [(0, .v (.named 3) hv12)] } [1, 2, 3, 5, 9, 10, 11] [1, 2, 3, 5] hN (by kernel_rfl) (by kernel_rfl) ?_
     refine tnU ?_
     refine WpC.seq ?_
     obtain ⟨v13, hv13, h⟩ := bind_some h
     obtain ⟨v14, hv14, h⟩ := bind_some h
     refine rA { its := [(2, .c (hrf_denote_first (T_rex_Node.mk v12.f_Kind v12.f_Index v12.f_Set v12.f_Kids) v13 hv13)), (3, .c (class_Set_Union.ok O hO k v3 v13 v14 hv14))] } [1, 2, 3, 5, 9, 10, 11] [1, 2, 3, 5] hN (by kernel_rfl) (by kernel_rfl) (by kernel_rfl) ?_
     refine tnU ?_
     refine sqJ (fun st' => ∃ v15 : Bool, denote_first.j17 k (denote_first.l5 k rf_denote_first a0 n) a0 v4 v14 v15 = some o7 ∧ st' = ⟨[(1, .loc 1 0), (2, .loc 2 0), (3, .loc 3 0), (9, .p (.list (.named 3)) a0.f_Kids), (10, .p I6 ((a0.f_Kids.length : Int) : Int)), (11, .p I6 v4), (26, .p .bool v15)], [(1, .box [.p I6 a0.f_Kind, .p I6 a0.f_Index, .p U6 a0.f_Set, .p (.list (.named 3)) a0.f_Kids]), (2, .box [.p U6 ((List.replicate 4 (0 : Int)) : List Int)]), (3, .box [.p U6 v14])]⟩) ?_ ?_
     ·rcases bool_cases (a0.f_Kind == 2) with hc18 | hc18
      ·replace h := ite_t hc18 h
       obtain ⟨v19, hv19, h⟩ := bind_some h
       refine rS { its := [(5, .c (denote_skips.ok O hO k (T_rex_Node.mk v12.f_Kind v12.f_Index v12.f_Set v12.f_Kids) v19 hv19))], kn := [(22, .t hc18)] } [1, 2, 3, 9, 10, 11, 26] [1, 2, 3] hN (by kernel_rfl) (by kernel_rfl) ?_
       refine tnU ?_
       exact ⟨(!v19), h, by kernel_rfl⟩
      ·replace h := ite_f hc18 h
       refine rS { kn := [(22, .f hc18)] } [1, 2, 3, 9, 10, 11, 26] [1, 2, 3] hN (by kernel_rfl) (by kernel_rfl) ?_
       refine tnU ?_
       exact ⟨false, h, by kernel_rfl⟩
     ·rintro _ ⟨v15, h, rfl⟩
      unfold denote_first.j17 at h
      refine tS (b := v15) (by kernel_rfl) (fun hc16 => ?_) (fun hc16 => ?_)
      ·replace h := ite_t hc16 h
       refine WpC.conv (cS [.k [2, 3] [2, 3]] (by kernel_rfl) (by kernel_rfl)) (WpC.exit ?_)
       refine blockQ_pass (by decide) ?_
       refine thenQ_exit ?_
       have hq := Option.some.inj h
       subst hq
       refine thenQ_exit ?_
       have h := hout8
       refine blockQ_hit ?_
       refine tnU ?_
       exact ⟨v14, h, by kernel_rfl⟩
      ·replace h := ite_f hc16 h
       refine WpC.conv (cS [.k [1, 2, 3, 9, 10, 11] [1, 2, 3]] (by kernel_rfl) (by kernel_rfl)) (WpC.skip ?_)
       refine blockQ_normal ?_
       refine tnU ?_
       exact ⟨v14, h, by kernel_rfl⟩
    ·rintro _ ⟨v10, h, rfl⟩
     unfold denote_first.j11 at h
     refine rS {} [1, 2, 3, 9, 10, 11] [1, 2, 3] hN (by kernel_rfl) (by kernel_rfl) ?_
     refine tnU ?_
     exact ⟨n, Nat.lt_succ_self n, v10, (IntKind.i64.wrap (v4 + 1)), h, by kernel_rfl⟩
   ·replace h := ite_f hc9 h
    refine WpC.conv (cS [.k [2, 3] [2, 3]] (by kernel_rfl) (by kernel_rfl)) (WpC.exit ?_)
    refine thenQ_exit ?_
    have hq := Option.some.inj h
    subst hq
    refine thenQ_exit ?_
    have h := hout8
    refine blockQ_hit ?_
    refine tnU ?_
    exact ⟨v3, h, by kernel_rfl⟩
 ·rintro _ ⟨v1, h, rfl⟩
  unfold denote_first.j2 at h
  refine WpC.seq ?_
  refine rS {} [2] [2] hN (by kernel_rfl) (by kernel_rfl) ?_
  refine tnU ?_
  refine WpC.ret ?_
  have hq := Option.some.inj h
  subst hq
  exact eR (by kernel_rfl) (by kernel_rfl)

theorem scc_denote_first.ok (O : Out) (hO : GOkA O) : ∀ k : Nat, (∀ (a0 : T_rex_Node) (out : List Int), denote_first.f k a0 = some out → COk Un O Tryd.prog 41 { ar := [.p (.named 3) a0], r := .p (.arr 4 (.int .u64)) out }) := by
 intro k
 induction k with
 | zero => exact fun a0 out h => (by have h2 : (none : Option (List Int)) = some out := h; cases h2)
 | succ k ih => exact fun a0 out h => denote_first.bok O hO k _ ih a0 out h
theorem denote_first.ok (O : Out) (hO : GOkA O) (k : Nat) (a0 : T_rex_Node) (out : List Int) (h : denote_first.f k a0 = some out) : COk Un O Tryd.prog 41 { ar := [.p (.named 3) a0], r := .p (.arr 4 (.int .u64)) out } := (scc_denote_first.ok O hO k) a0 out h

theorem denote_First.ok (O : Out) (hO : GOkA O) (k : Nat) (a0 : T_rex_Node) (out : List Int) (h : denote_First.f k a0 = some out) : COk Un O Tryd.prog 21 { ar := [.p (.named 3) a0], r := .p U6 out } := by
 refine cok_of_wp Tryd.func21 rfl (k := 9) rfl (Nat.le_of_ble_eq_true rfl) (namesOk_pure rfl rfl rfl rfl) ?_
 intro B hN
 refine WpC.conv (cvK (b := ⟨[(0, .p (.named 3) a0)], []⟩) [0] [] (by kernel_rfl)) ?_
 unfold denote_First.f at h
 refine WpC.seq ?_
 refine rS {} [1, 2] [1, 2] hN (by kernel_rfl) (by kernel_rfl) ?_
 refine tnU ?_
 refine WpC.seq ?_
 refine WpC.seq ?_
 obtain ⟨v1, hv1, h⟩ := bind_some h
 refine rS { its := [(1, .c (prog_Right.ok O hO k (T_rex_Node.mk a0.f_Kind a0.f_Index a0.f_Set a0.f_Kids) v1 hv1))] } [1, 2, 5] [1, 2] hN (by kernel_rfl) (by kernel_rfl) ?_
 refine tnU ?_
 refine tS (b := (!v1)) (by kernel_rfl) (fun hc2 => ?_) (fun hc2 => ?_)
 ·replace h := ite_t hc2 h
  refine WpC.seq ?_
  refine rS {} [2] [2] hN (by kernel_rfl) (by kernel_rfl) ?_
  refine tnU ?_
  refine WpC.ret ?_
  refine thenQ_ret ?_
  have hq := Option.some.inj h
  subst hq
  exact eR (by kernel_rfl) (by kernel_rfl)
 ·replace h := ite_f hc2 h
  refine WpC.conv (cS [.k [1, 2] [1, 2]] (by kernel_rfl) (by kernel_rfl)) (WpC.skip ?_)
  refine tnU ?_
  refine WpC.seq ?_
  obtain ⟨v3, hv3, h⟩ := bind_some h
  refine rS { its := [(1, .c (denote_first.ok O hO k (T_rex_Node.mk a0.f_Kind a0.f_Index a0.f_Set a0.f_Kids) v3 hv3))] } [2] [2] hN (by kernel_rfl) (by kernel_rfl) ?_
  refine tnU ?_
  refine WpC.ret ?_
  have hq := Option.some.inj h
  subst hq
  exact eR (by kernel_rfl) (by kernel_rfl)

theorem millwrightref10_Skips.bok (O : Out) (hO : GOkA O) (k : Nat) (rf_millwrightref10_Skips : T_millwrightref07_Node → Option Bool) (hrf_millwrightref10_Skips : ∀ (a0 : T_millwrightref07_Node) (out : Bool), rf_millwrightref10_Skips a0 = some out → COk Un O Tryd.prog 42 { ar := [.p (.named 4) a0], r := .p .bool out }) (a0 : T_millwrightref07_Node) (out : Bool) (h : millwrightref10_Skips.b k rf_millwrightref10_Skips a0 = some out) : COk Un O Tryd.prog 42 { ar := [.p (.named 4) a0], r := .p .bool out } := by
 refine cok_of_wp Tryd.func42 rfl (k := 54) rfl (Nat.le_of_ble_eq_true rfl) (namesOk_pure rfl rfl rfl rfl) ?_
 intro B hN
 refine WpC.conv (cvK (b := ⟨[(0, .p (.named 4) a0)], []⟩) [0] [] (by kernel_rfl)) ?_
 unfold millwrightref10_Skips.b at h
 refine WpC.seq ?_
 refine rS {} [1] [1] hN (by kernel_rfl) (by kernel_rfl) ?_
 refine tnU ?_
 refine WpC.seq ?_
 refine rS {} [1, 3, 4] [1] hN (by kernel_rfl) (by kernel_rfl) ?_
 refine tnU ?_
 refine sqJ (fun st' => ∃ v1 : Bool, ∃ v2 : Bool, millwrightref10_Skips.j14 k a0 v1 v2 = some out ∧ st' = ⟨[(1, .loc 1 0), (3, .p .bool v1), (4, .p .bool v2)], [(1, .box [.p I6 a0.f_Kind, .p I6 a0.f_Index, .p U6 a0.f_Set, .p (.list (.named 4)) a0.f_Kids])]⟩) ?_ ?_
 ·refine WpC.seq ?_
  refine rS {} [1, 3, 4, 8, 9, 10] [1] hN (by kernel_rfl) (by kernel_rfl) ?_
  refine tnU ?_
  refine WpC.block ?_
  obtain ⟨o21, hlo21, h⟩ := bind_some h
  have hout22 := h
  clear h
  refine WpC.loop (U := Un) (fun n st' => ∃ v15 : Bool, ∃ v16 : Bool, ∃ v17 : Int, millwrightref10_Skips.l18 k rf_millwrightref10_Skips a0 n v15 v16 v17 = some o21 ∧ st' = ⟨[(1, .loc 1 0), (3, .p .bool v15), (4, .p .bool v16), (8, .p (.list (.named 4)) a0.f_Kids), (9, .p I6 ((a0.f_Kids.length : Int) : Int)), (10, .p I6 v17)], [(1, .box [.p I6 a0.f_Kind, .p I6 a0.f_Index, .p U6 a0.f_Set, .p (.list (.named 4)) a0.f_Kids])]⟩) k ⟨true, false, 0, hlo21, by kernel_rfl⟩ ?_
  clear hlo21
  rintro (_ | n) _ ⟨v15, v16, v17, h, rfl⟩
  ·cases h
  ·rw [millwrightref10_Skips.l18] at h
   refine WpC.seq ?_
   refine rS {} [1, 3, 4, 8, 9, 10, 11] [1] hN (by kernel_rfl) (by kernel_rfl) ?_
   refine tnU ?_
   refine WpC.seq ?_
   refine tS (b := (decide (v17 < (a0.f_Kids.length : Int)))) (by kernel_rfl) (fun hc23 => ?_) (fun hc23 => ?_)
   ·replace h := ite_t hc23 h
    refine WpC.conv (cS [.k [1, 3, 4, 8, 9, 10] [1]] (by kernel_rfl) (by kernel_rfl)) (WpC.skip ?_)
    refine tnU ?_
    refine sqJ (fun st' => ∃ v24 : Bool, ∃ v25 : Bool, millwrightref10_Skips.j26 k (millwrightref10_Skips.l18 k rf_millwrightref10_Skips a0 n) a0 v17 v24 v25 = some o21 ∧ st' = ⟨[(1, .loc 1 0), (3, .p .bool v24), (4, .p .bool v25), (8, .p (.list (.named 4)) a0.f_Kids), (9, .p I6 ((a0.f_Kids.length : Int) : Int)), (10, .p I6 v17)], [(1, .box [.p I6 a0.f_Kind, .p I6 a0.f_Index, .p U6 a0.f_Set, .p (.list (.named 4)) a0.f_Kids])]⟩) ?_ ?_
    ·refine WpC.block ?_
     refine WpC.seq ?_
     obtain ⟨v27, hv27, h⟩ := bind_some h
     refine rS { its := [(0, .v (.named 4) hv27)], th := [(2, [(3, 10001, 38, .named 4)])] } [1, 3, 4, 6, 8, 9, 10] [1, 6] hN (by kernel_rfl) (by kernel_rfl) ?_
     refine tnU ?_
     refine sqJ (fun st' => ∃ v28 : Bool, millwrightref10_Skips.j31 k (millwrightref10_Skips.l18 k rf_millwrightref10_Skips a0 n) rf_millwrightref10_Skips a0 v16 v17 v27 v28 = some o21 ∧ st' = ⟨[(1, .loc 1 0), (3, .p .bool v28), (4, .p .bool v16), (6, .loc 6 0), (8, .p (.list (.named 4)) a0.f_Kids), (9, .p I6 ((a0.f_Kids.length : Int) : Int)), (10, .p I6 v17)], [(1, .box [.p I6 a0.f_Kind, .p I6 a0.f_Index, .p U6 a0.f_Set, .p (.list (.named 4)) a0.f_Kids]), (6, .box [.p I6 v27.f_Kind, .p I6 v27.f_Index, .p U6 v27.f_Set, .p (.list (.named 4)) v27.f_Kids])]⟩) ?_ ?_
     ·rcases bool_cases v15 with hc32 | hc32
      ·replace h := ite_t hc32 h
       obtain ⟨v33, hv33, h⟩ := bind_some h
       refine rS { its := [(3, .c (hrf_millwrightref10_Skips (T_millwrightref07_Node.mk v27.f_Kind v27.f_Index v27.f_Set v27.f_Kids) v33 hv33))], kn := [(15, .t hc32)] } [1, 3, 4, 6, 8, 9, 10] [1, 6] hN (by kernel_rfl) (by kernel_rfl) ?_
       refine tnU ?_
       exact ⟨v33, h, by kernel_rfl⟩
      ·replace h := ite_f hc32 h
       refine rS { kn := [(15, .f hc32)] } [1, 3, 4, 6, 8, 9, 10] [1, 6] hN (by kernel_rfl) (by kernel_rfl) ?_
       refine tnU ?_
       exact ⟨false, h, by kernel_rfl⟩
     ·rintro _ ⟨v28, h, rfl⟩
      unfold millwrightref10_Skips.j31 at h
      rcases bool_cases v16 with hc29 | hc29
      ·replace h := ite_t hc29 h
       refine rS { kn := [(20, .t hc29)] } [1, 3, 4, 8, 9, 10] [1] hN (by kernel_rfl) (by kernel_rfl) ?_
       refine blockQ_normal ?_
       refine tnU ?_
       exact ⟨v28, true, h, by kernel_rfl⟩
      ·replace h := ite_f hc29 h
       obtain ⟨v30, hv30, h⟩ := bind_some h
       refine rS { its := [(3, .c (hrf_millwrightref10_Skips (T_millwrightref07_Node.mk v27.f_Kind v27.f_Index v27.f_Set v27.f_Kids) v30 hv30))], kn := [(20, .f hc29)] } [1, 3, 4, 8, 9, 10] [1] hN (by kernel_rfl) (by kernel_rfl) ?_
       refine blockQ_normal ?_
       refine tnU ?_
       exact ⟨v28, v30, h, by kernel_rfl⟩
    ·rintro _ ⟨v24, v25, h, rfl⟩
     unfold millwrightref10_Skips.j26 at h
     refine rS {} [1, 3, 4, 8, 9, 10] [1] hN (by kernel_rfl) (by kernel_rfl) ?_
     refine tnU ?_
     exact ⟨n, Nat.lt_succ_self n, v24, v25, (IntKind.i64.wrap (v17 + 1)), h, by kernel_rfl⟩
   ·replace h := ite_f hc23 h
    refine WpC.conv (cS [.k [1, 3, 4] [1]] (by kernel_rfl) (by kernel_rfl)) (WpC.exit ?_)
    refine thenQ_exit ?_
    have hq := Option.some.inj h
    subst hq
    refine thenQ_exit ?_
    have h := hout22
    refine blockQ_hit ?_
    refine tnU ?_
    exact ⟨v15, v16, h, by kernel_rfl⟩
 ·rintro _ ⟨v1, v2, h, rfl⟩
  unfold millwrightref10_Skips.j14 at h
  refine WpC.seq ?_
  rcases bool_cases (a0.f_Kind != 1) with hc3 | hc3
  ·replace h := ite_t hc3 h
   rcases bool_cases (a0.f_Kind != 2) with hc4 | hc4
   ·replace h := ite_t hc4 h
    rcases bool_cases (a0.f_Kind != 5) with hc5 | hc5
    ·replace h := ite_t hc5 h
     rcases bool_cases (a0.f_Kind != 7) with hc6 | hc6
     ·replace h := ite_t hc6 h
      rcases bool_cases (a0.f_Kind != 3) with hc7 | hc7
      ·replace h := ite_t hc7 h
       refine rS { kn := [(28, .t hc3), (32, .t hc4), (37, .t hc5), (42, .t hc6), (50, .t hc7)] } [2] [] hN (by kernel_rfl) (by kernel_rfl) ?_
       refine tnU ?_
       refine WpC.ret ?_
       have hq := Option.some.inj h
       subst hq
       exact eR (by kernel_rfl) (by kernel_rfl)
      ·replace h := ite_f hc7 h
       refine rS { kn := [(28, .t hc3), (32, .t hc4), (37, .t hc5), (42, .t hc6), (50, .f hc7)] } [2] [] hN (by kernel_rfl) (by kernel_rfl) ?_
       refine tnU ?_
       refine WpC.ret ?_
       have hq := Option.some.inj h
       subst hq
       exact eR (by kernel_rfl) (by kernel_rfl)
     ·replace h := ite_f hc6 h
      rcases bool_cases v1 with hc8 | hc8
      ·replace h := ite_t hc8 h
       rcases bool_cases (a0.f_Kind != 3) with hc9 | hc9
       ·replace h := ite_t hc9 h
        refine rS { kn := [(28, .t hc3), (32, .t hc4), (37, .t hc5), (42, .f hc6), (46, .t hc8), (50, .t hc9)] } [2] [] hN (by kernel_rfl) (by kernel_rfl) ?_
        refine tnU ?_
        refine WpC.ret ?_
        have hq := Option.some.inj h
        subst hq
        exact eR (by kernel_rfl) (by kernel_rfl)
       ·replace h := ite_f hc9 h
        refine rS { kn := [(28, .t hc3), (32, .t hc4), (37, .t hc5), (42, .f hc6), (46, .t hc8), (50, .f hc9)] } [2] [] hN (by kernel_rfl) (by kernel_rfl) ?_
        refine tnU ?_
        refine WpC.ret ?_
        have hq := Option.some.inj h
        subst hq
        exact eR (by kernel_rfl) (by kernel_rfl)
      ·replace h := ite_f hc8 h
       refine rS { kn := [(28, .t hc3), (32, .t hc4), (37, .t hc5), (42, .f hc6), (46, .f hc8)] } [2] [] hN (by kernel_rfl) (by kernel_rfl) ?_
       refine tnU ?_
       refine WpC.ret ?_
       have hq := Option.some.inj h
       subst hq
       exact eR (by kernel_rfl) (by kernel_rfl)
    ·replace h := ite_f hc5 h
     rcases bool_cases v1 with hc10 | hc10
     ·replace h := ite_t hc10 h
      rcases bool_cases (a0.f_Kind != 3) with hc11 | hc11
      ·replace h := ite_t hc11 h
       refine rS { kn := [(28, .t hc3), (32, .t hc4), (37, .f hc5), (46, .t hc10), (50, .t hc11)] } [2] [] hN (by kernel_rfl) (by kernel_rfl) ?_
       refine tnU ?_
       refine WpC.ret ?_
       have hq := Option.some.inj h
       subst hq
       exact eR (by kernel_rfl) (by kernel_rfl)
      ·replace h := ite_f hc11 h
       refine rS { kn := [(28, .t hc3), (32, .t hc4), (37, .f hc5), (46, .t hc10), (50, .f hc11)] } [2] [] hN (by kernel_rfl) (by kernel_rfl) ?_
       refine tnU ?_
       refine WpC.ret ?_
       have hq := Option.some.inj h
       subst hq
       exact eR (by kernel_rfl) (by kernel_rfl)
     ·replace h := ite_f hc10 h
      refine rS { kn := [(28, .t hc3), (32, .t hc4), (37, .f hc5), (46, .f hc10)] } [2] [] hN (by kernel_rfl) (by kernel_rfl) ?_
      refine tnU ?_
      refine WpC.ret ?_
      have hq := Option.some.inj h
      subst hq
      exact eR (by kernel_rfl) (by kernel_rfl)
   ·replace h := ite_f hc4 h
    rcases bool_cases v1 with hc12 | hc12
    ·replace h := ite_t hc12 h
     rcases bool_cases (a0.f_Kind != 3) with hc13 | hc13
     ·replace h := ite_t hc13 h
      refine rS { kn := [(28, .t hc3), (32, .f hc4), (46, .t hc12), (50, .t hc13)] } [2] [] hN (by kernel_rfl) (by kernel_rfl) ?_
      refine tnU ?_
      refine WpC.ret ?_
      have hq := Option.some.inj h
      subst hq
      exact eR (by kernel_rfl) (by kernel_rfl)
     ·replace h := ite_f hc13 h
      refine rS { kn := [(28, .t hc3), (32, .f hc4), (46, .t hc12), (50, .f hc13)] } [2] [] hN (by kernel_rfl) (by kernel_rfl) ?_
      refine tnU ?_
      refine WpC.ret ?_
      have hq := Option.some.inj h
      subst hq
      exact eR (by kernel_rfl) (by kernel_rfl)
    ·replace h := ite_f hc12 h
     refine rS { kn := [(28, .t hc3), (32, .f hc4), (46, .f hc12)] } [2] [] hN (by kernel_rfl) (by kernel_rfl) ?_
     refine tnU ?_
     refine WpC.ret ?_
     have hq := Option.some.inj h
     subst hq
     exact eR (by kernel_rfl) (by kernel_rfl)
  ·replace h := ite_f hc3 h
   refine rS { kn := [(28, .f hc3)] } [2] [] hN (by kernel_rfl) (by kernel_rfl) ?_
   refine tnU ?_
   refine WpC.ret ?_
   have hq := Option.some.inj h
   subst hq
   exact eR (by kernel_rfl) (by kernel_rfl)

theorem scc_millwrightref10_Skips.ok (O : Out) (hO : GOkA O) : ∀ k : Nat, (∀ (a0 : T_millwrightref07_Node) (out : Bool), millwrightref10_Skips.f k a0 = some out → COk Un O Tryd.prog 42 { ar := [.p (.named 4) a0], r := .p .bool out }) := by
 intro k
 induction k with
 | zero => exact fun a0 out h => (by have h2 : (none : Option Bool) = some out := h; cases h2)
 | succ k ih => exact fun a0 out h => millwrightref10_Skips.bok O hO k _ ih a0 out h
theorem millwrightref10_Skips.ok (O : Out) (hO : GOkA O) (k : Nat) (a0 : T_millwrightref07_Node) (out : Bool) (h : millwrightref10_Skips.f k a0 = some out) : COk Un O Tryd.prog 42 { ar := [.p (.named 4) a0], r := .p .bool out } := (scc_millwrightref10_Skips.ok O hO k) a0 out h

theorem millwrightref10_First.bok (O : Out) (hO : GOkA O) (k : Nat) (rf_millwrightref10_First : T_millwrightref07_Node → Option (List Int)) (hrf_millwrightref10_First : ∀ (a0 : T_millwrightref07_Node) (out : List Int), rf_millwrightref10_First a0 = some out → COk Un O Tryd.prog 23 { ar := [.p (.named 4) a0], r := .p U6 out }) (a0 : T_millwrightref07_Node) (out : List Int) (h : millwrightref10_First.b k rf_millwrightref10_First a0 = some out) : COk Un O Tryd.prog 23 { ar := [.p (.named 4) a0], r := .p U6 out } := by
 refine cok_of_wp Tryd.func23 rfl (k := 47) rfl (Nat.le_of_ble_eq_true rfl) (namesOk_pure rfl rfl rfl rfl) ?_
 intro B hN
 refine WpC.conv (cvK (b := ⟨[(0, .p (.named 4) a0)], []⟩) [0] [] (by kernel_rfl)) ?_
 unfold millwrightref10_First.b at h
 refine WpC.seq ?_
 refine rS {} [1, 2] [1, 2] hN (by kernel_rfl) (by kernel_rfl) ?_
 refine tnU ?_
 refine WpC.seq ?_
 refine rS {} [1, 2, 3] [1, 2, 3] hN (by kernel_rfl) (by kernel_rfl) ?_
 refine tnU ?_
 refine WpC.seq ?_
 refine WpC.seq ?_
 refine rS {} [1, 2, 3, 11] [1, 2, 3] hN (by kernel_rfl) (by kernel_rfl) ?_
 refine tnU ?_
 refine tS (b := (a0.f_Kind == 1)) (by kernel_rfl) (fun hc1 => ?_) (fun hc1 => ?_)
 ·replace h := ite_t hc1 h
  refine WpC.seq ?_
  refine rS {} [2] [2] hN (by kernel_rfl) (by kernel_rfl) ?_
  refine tnU ?_
  refine WpC.ret ?_
  refine thenQ_ret ?_
  have hq := Option.some.inj h
  subst hq
  exact eR (by kernel_rfl) (by kernel_rfl)
 ·replace h := ite_f hc1 h
  refine WpC.conv (cS [.k [1, 2, 3] [1, 2, 3]] (by kernel_rfl) (by kernel_rfl)) (WpC.skip ?_)
  refine tnU ?_
  refine sqJ (fun st' => ∃ v2 : List Int, millwrightref10_First.j3 k v2 = some out ∧ st' = ⟨[(2, .loc 2 0), (3, .loc 3 0)], [(2, .box [.p U6 ((List.replicate 4 (0 : Int)) : List Int)]), (3, .box [.p U6 v2])]⟩) ?_ ?_
  ·refine WpC.seq ?_
   refine rS {} [1, 2, 3, 15, 16, 17] [1, 2, 3] hN (by kernel_rfl) (by kernel_rfl) ?_
   refine tnU ?_
   refine WpC.block ?_
   obtain ⟨o8, hlo8, h⟩ := bind_some h
   have hout9 := h
   clear h
   refine WpC.loop (U := Un) (fun n st' => ∃ v4 : List Int, ∃ v5 : Int, millwrightref10_First.l6 k rf_millwrightref10_First a0 n v4 v5 = some o8 ∧ st' = ⟨[(1, .loc 1 0), (2, .loc 2 0), (3, .loc 3 0), (15, .p (.list (.named 4)) a0.f_Kids), (16, .p I6 ((a0.f_Kids.length : Int) : Int)), (17, .p I6 v5)], [(1, .box [.p I6 a0.f_Kind, .p I6 a0.f_Index, .p U6 a0.f_Set, .p (.list (.named 4)) a0.f_Kids]), (2, .box [.p U6 ((List.replicate 4 (0 : Int)) : List Int)]), (3, .box [.p U6 v4])]⟩) k ⟨(List.replicate 4 (0 : Int)), 0, hlo8, by kernel_rfl⟩ ?_
   clear hlo8
   rintro (_ | n) _ ⟨v4, v5, h, rfl⟩
   ·cases h
   ·rw [millwrightref10_First.l6] at h
    refine WpC.seq ?_
    refine rS {} [1, 2, 3, 15, 16, 17, 18] [1, 2, 3] hN (by kernel_rfl) (by kernel_rfl) ?_
    refine tnU ?_
    refine WpC.seq ?_
    refine tS (b := (decide (v5 < (a0.f_Kids.length : Int)))) (by kernel_rfl) (fun hc10 => ?_) (fun hc10 => ?_)
    ·replace h := ite_t hc10 h
     refine WpC.conv (cS [.k [1, 2, 3, 15, 16, 17] [1, 2, 3]] (by kernel_rfl) (by kernel_rfl)) (WpC.skip ?_)
     refine tnU ?_
     refine sqJ (fun st' => ∃ v11 : List Int, millwrightref10_First.j12 k (millwrightref10_First.l6 k rf_millwrightref10_First a0 n) a0 v5 v11 = some o8 ∧ st' = ⟨[(1, .loc 1 0), (2, .loc 2 0), (3, .loc 3 0), (15, .p (.list (.named 4)) a0.f_Kids), (16, .p I6 ((a0.f_Kids.length : Int) : Int)), (17, .p I6 v5)], [(1, .box [.p I6 a0.f_Kind, .p I6 a0.f_Index, .p U6 a0.f_Set, .p (.list (.named 4)) a0.f_Kids]), (2, .box [.p U6 ((List.replicate 4 (0 : Int)) : List Int)]), (3, .box [.p U6 v11])]⟩) ?_ ?_
     ·refine WpC.block ?_
      refine WpC.seq ?_
      obtain ⟨v13, hv13, h⟩ := bind_some h
      refine rS { its := [(0, .v (.named 4) hv13)], th := [(2, [(3, 10001, 38, .named 4)])] } [1, 2, 3, 5, 15, 16, 17] [1, 2, 3, 5] hN (by kernel_rfl) (by kernel_rfl) ?_
      refine tnU ?_
      refine WpC.seq ?_
      obtain ⟨v14, hv14, h⟩ := bind_some h
      refine rS { its := [(1, .c (hrf_millwrightref10_First (T_millwrightref07_Node.mk v13.f_Kind v13.f_Index v13.f_Set v13.f_Kids) v14 hv14))] } [1, 2, 3, 5, 6, 15, 16, 17] [1, 2, 3, 5, 6] hN (by kernel_rfl) (by kernel_rfl) ?_
      refine tnU ?_
      refine sqJ (fun st' => ∃ v15 : List Int, millwrightref10_First.j21 k (millwrightref10_First.l6 k rf_millwrightref10_First a0 n) a0 v5 v13 v15 = some o8 ∧ st' = ⟨[(1, .loc 1 0), (2, .loc 2 0), (3, .loc 3 0), (5, .loc 5 0), (15, .p (.list (.named 4)) a0.f_Kids), (16, .p I6 ((a0.f_Kids.length : Int) : Int)), (17, .p I6 v5)], [(1, .box [.p I6 a0.f_Kind, .p I6 a0.f_Index, .p U6 a0.f_Set, .p (.list (.named 4)) a0.f_Kids]), (2, .box [.p U6 ((List.replicate 4 (0 : Int)) : List Int)]), (3, .box [.p U6 v15]), (5, .box [.p I6 v13.f_Kind, .p I6 v13.f_Index, .p U6 v13.f_Set, .p (.list (.named 4)) v13.f_Kids])]⟩) ?_ ?_
      ·refine WpC.seq ?_
       refine rS {} [1, 2, 3, 5, 6, 15, 16, 17, 23] [1, 2, 3, 5, 6] hN (by kernel_rfl) (by kernel_rfl) ?_
       refine tnU ?_
       refine WpC.block ?_
       obtain ⟨o26, hlo26, h⟩ := bind_some h
       have hout27 := h
       clear h
       refine WpC.loop (U := Un) (fun n st' => ∃ v22 : List Int, ∃ v23 : Int, millwrightref10_First.l24 k a0 v5 v13 v14 n v22 v23 = some o26 ∧ st' = ⟨[(1, .loc 1 0), (2, .loc 2 0), (3, .loc 3 0), (5, .loc 5 0), (6, .loc 6 0), (15, .p (.list (.named 4)) a0.f_Kids), (16, .p I6 ((a0.f_Kids.length : Int) : Int)), (17, .p I6 v5), (23, .p I6 v23)], [(1, .box [.p I6 a0.f_Kind, .p I6 a0.f_Index, .p U6 a0.f_Set, .p (.list (.named 4)) a0.f_Kids]), (2, .box [.p U6 ((List.replicate 4 (0 : Int)) : List Int)]), (3, .box [.p U6 v22]), (5, .box [.p I6 v13.f_Kind, .p I6 v13.f_Index, .p U6 v13.f_Set, .p (.list (.named 4)) v13.f_Kids]), (6, .box [.p U6 v14])]⟩) k ⟨v4, 0, hlo26, by kernel_rfl⟩ ?_
       clear hlo26
       rintro (_ | n) _ ⟨v22, v23, h, rfl⟩
       ·cases h
       ·rw [millwrightref10_First.l24] at h
        refine WpC.seq ?_
        refine rS {} [1, 2, 3, 5, 6, 15, 16, 17, 23, 24] [1, 2, 3, 5, 6] hN (by kernel_rfl) (by kernel_rfl) ?_
        refine tnU ?_
        refine WpC.seq ?_
        refine tS (b := (decide (v23 < 4))) (by kernel_rfl) (fun hc28 => ?_) (fun hc28 => ?_)
        ·replace h := ite_t hc28 h
         refine WpC.conv (cS [.k [1, 2, 3, 5, 6, 15, 16, 17, 23] [1, 2, 3, 5, 6]] (by kernel_rfl) (by kernel_rfl)) (WpC.skip ?_)
         refine tnU ?_
         refine WpC.seq ?_
         refine WpC.block ?_
         refine WpC.seq ?_
         refine rS {} [1, 2, 3, 5, 6, 7, 15, 16, 17, 23] [1, 2, 3, 5, 6] hN (by kernel_rfl) (by kernel_rfl) ?_
         refine tnU ?_
         obtain ⟨g29, h⟩ := if_some h
         obtain ⟨v30, hv30, h⟩ := bind_some h
         obtain ⟨g31, h⟩ := if_some h
         obtain ⟨v32, hv32, h⟩ := bind_some h
         obtain ⟨g33, h⟩ := if_some h
         obtain ⟨v34, hv34, h⟩ := bind_some h
         refine rA { its := [(2, .g g29), (3, .v (.int .u64) hv30), (5, .g g31), (6, .v (.int .u64) hv32), (8, .g g33), (9, .v (.int .u64) hv34)] } [1, 2, 3, 5, 6, 15, 16, 17, 23] [1, 2, 3, 5, 6] hN (by kernel_rfl) (by kernel_rfl) (by kernel_rfl) ?_
         refine blockQ_normal ?_
         refine tnU ?_
         refine rS {} [1, 2, 3, 5, 6, 15, 16, 17, 23] [1, 2, 3, 5, 6] hN (by kernel_rfl) (by kernel_rfl) ?_
         refine tnU ?_
         exact ⟨n, Nat.lt_succ_self n, (upd v22 v23.toNat (bits .or .u64 v30 v32)), (IntKind.i64.wrap (v23 + 1)), h, by kernel_rfl⟩
        ·replace h := ite_f hc28 h
         refine WpC.conv (cS [.k [1, 2, 3, 5, 15, 16, 17] [1, 2, 3, 5]] (by kernel_rfl) (by kernel_rfl)) (WpC.exit ?_)
         refine thenQ_exit ?_
         have hq := Option.some.inj h
         subst hq
         refine thenQ_exit ?_
         have h := hout27
         refine blockQ_hit ?_
         refine tnU ?_
         exact ⟨v22, h, by kernel_rfl⟩
      ·rintro _ ⟨v15, h, rfl⟩
       unfold millwrightref10_First.j21 at h
       refine sqJ (fun st' => ∃ v16 : Bool, millwrightref10_First.j18 k (millwrightref10_First.l6 k rf_millwrightref10_First a0 n) a0 v5 v15 v16 = some o8 ∧ st' = ⟨[(1, .loc 1 0), (2, .loc 2 0), (3, .loc 3 0), (15, .p (.list (.named 4)) a0.f_Kids), (16, .p I6 ((a0.f_Kids.length : Int) : Int)), (17, .p I6 v5), (43, .p .bool v16)], [(1, .box [.p I6 a0.f_Kind, .p I6 a0.f_Index, .p U6 a0.f_Set, .p (.list (.named 4)) a0.f_Kids]), (2, .box [.p U6 ((List.replicate 4 (0 : Int)) : List Int)]), (3, .box [.p U6 v15])]⟩) ?_ ?_
       ·rcases bool_cases (a0.f_Kind == 2) with hc19 | hc19
        ·replace h := ite_t hc19 h
         obtain ⟨v20, hv20, h⟩ := bind_some h
         refine rS { its := [(5, .c (millwrightref10_Skips.ok O hO k (T_millwrightref07_Node.mk v13.f_Kind v13.f_Index v13.f_Set v13.f_Kids) v20 hv20))], kn := [(39, .t hc19)] } [1, 2, 3, 15, 16, 17, 43] [1, 2, 3] hN (by kernel_rfl) (by kernel_rfl) ?_
         refine tnU ?_
         exact ⟨(!v20), h, by kernel_rfl⟩
        ·replace h := ite_f hc19 h
         refine rS { kn := [(39, .f hc19)] } [1, 2, 3, 15, 16, 17, 43] [1, 2, 3] hN (by kernel_rfl) (by kernel_rfl) ?_
         refine tnU ?_
         exact ⟨false, h, by kernel_rfl⟩
       ·rintro _ ⟨v16, h, rfl⟩
        unfold millwrightref10_First.j18 at h
        refine tS (b := v16) (by kernel_rfl) (fun hc17 => ?_) (fun hc17 => ?_)
        ·replace h := ite_t hc17 h
         refine WpC.seq ?_
         refine rS {} [2] [2] hN (by kernel_rfl) (by kernel_rfl) ?_
         refine tnU ?_
         refine WpC.ret ?_
         refine blockQ_ret ?_
         refine thenQ_ret ?_
         have hq := Option.some.inj h
         subst hq
         refine thenQ_ret ?_
         have h := hout9
         refine blockQ_ret ?_
         refine thenQ_ret ?_
         have hq := Option.some.inj h
         subst hq
         exact eR (by kernel_rfl) (by kernel_rfl)
        ·replace h := ite_f hc17 h
         refine WpC.conv (cS [.k [1, 2, 3, 15, 16, 17] [1, 2, 3]] (by kernel_rfl) (by kernel_rfl)) (WpC.skip ?_)
         refine blockQ_normal ?_
         refine tnU ?_
         exact ⟨v15, h, by kernel_rfl⟩
     ·rintro _ ⟨v11, h, rfl⟩
      unfold millwrightref10_First.j12 at h
      refine rS {} [1, 2, 3, 15, 16, 17] [1, 2, 3] hN (by kernel_rfl) (by kernel_rfl) ?_
      refine tnU ?_
      exact ⟨n, Nat.lt_succ_self n, v11, (IntKind.i64.wrap (v5 + 1)), h, by kernel_rfl⟩
    ·replace h := ite_f hc10 h
     refine WpC.conv (cS [.k [2, 3] [2, 3]] (by kernel_rfl) (by kernel_rfl)) (WpC.exit ?_)
     refine thenQ_exit ?_
     have hq := Option.some.inj h
     subst hq
     refine thenQ_exit ?_
     have h := hout9
     refine blockQ_hit ?_
     refine tnU ?_
     exact ⟨v4, h, by kernel_rfl⟩
  ·rintro _ ⟨v2, h, rfl⟩
   unfold millwrightref10_First.j3 at h
   refine WpC.seq ?_
   refine rS {} [2] [2] hN (by kernel_rfl) (by kernel_rfl) ?_
   refine tnU ?_
   refine WpC.ret ?_
   have hq := Option.some.inj h
   subst hq
   exact eR (by kernel_rfl) (by kernel_rfl)

theorem scc_millwrightref10_First.ok (O : Out) (hO : GOkA O) : ∀ k : Nat, (∀ (a0 : T_millwrightref07_Node) (out : List Int), millwrightref10_First.f k a0 = some out → COk Un O Tryd.prog 23 { ar := [.p (.named 4) a0], r := .p (.arr 4 (.int .u64)) out }) := by
 intro k
 induction k with
 | zero => exact fun a0 out h => (by have h2 : (none : Option (List Int)) = some out := h; cases h2)
 | succ k ih => exact fun a0 out h => millwrightref10_First.bok O hO k _ ih a0 out h
theorem millwrightref10_First.ok (O : Out) (hO : GOkA O) (k : Nat) (a0 : T_millwrightref07_Node) (out : List Int) (h : millwrightref10_First.f k a0 = some out) : COk Un O Tryd.prog 23 { ar := [.p (.named 4) a0], r := .p (.arr 4 (.int .u64)) out } := (scc_millwrightref10_First.ok O hO k) a0 out h

theorem millwrightlaw10_DenoteFirst.ok (O : Out) (hO : GOkA O) (k : Nat) (a0 : T_rex_Node) (a1 : List UInt8) (out : Bool) (h : millwrightlaw10_DenoteFirst.f k a0 a1 = some out) : COk Un O Tryd.prog 5 { ar := [.p (.named 3) a0, .p .str a1], r := .p .bool out } := by
 refine cok_of_wp Tryd.func5 rfl (k := 59) rfl (Nat.le_of_ble_eq_true rfl) (namesOk_pure rfl rfl rfl rfl) ?_
 intro B hN
 refine WpC.conv (cvK (b := ⟨[(0, .p (.named 3) a0), (1, .p .str a1)], []⟩) [0, 1] [] (by kernel_rfl)) ?_
 unfold millwrightlaw10_DenoteFirst.f at h
 refine WpC.seq ?_
 refine rS {} [1, 2] [2] hN (by kernel_rfl) (by kernel_rfl) ?_
 refine tnU ?_
 refine WpC.seq ?_
 refine WpC.seq ?_
 obtain ⟨v1, hv1, h⟩ := bind_some h
 refine rS { its := [(0, .c (millwrightlaw10_alive.ok O hO k v1 hv1))] } [1, 2, 11] [2] hN (by kernel_rfl) (by kernel_rfl) ?_
 refine tnU ?_
 refine tS (b := (!v1)) (by kernel_rfl) (fun hc2 => ?_) (fun hc2 => ?_)
 ·replace h := ite_t hc2 h
  refine WpC.seq ?_
  refine rS {} [4] [] hN (by kernel_rfl) (by kernel_rfl) ?_
  refine tnU ?_
  refine WpC.ret ?_
  refine thenQ_ret ?_
  have hq := Option.some.inj h
  subst hq
  exact eR (by kernel_rfl) (by kernel_rfl)
 ·replace h := ite_f hc2 h
  refine WpC.conv (cS [.k [1, 2] [2]] (by kernel_rfl) (by kernel_rfl)) (WpC.skip ?_)
  refine tnU ?_
  refine sqJ (fun st' => millwrightlaw10_DenoteFirst.j35 k a0 a1 = some out ∧ st' = ⟨[(1, .p .str a1), (2, .loc 2 0)], [(2, .box [.p I6 a0.f_Kind, .p I6 a0.f_Index, .p U6 a0.f_Set, .p (.list (.named 3)) a0.f_Kids])]⟩) ?_ ?_
  ·refine sqJ (fun st' => ∃ v36 : Bool, millwrightlaw10_DenoteFirst.j38 k a0 a1 v36 = some out ∧ st' = ⟨[(1, .p .str a1), (2, .loc 2 0), (18, .p .bool v36)], [(2, .box [.p I6 a0.f_Kind, .p I6 a0.f_Index, .p U6 a0.f_Set, .p (.list (.named 3)) a0.f_Kids])]⟩) ?_ ?_
   ·rcases bool_cases (decide ((a1.length : Int) > 16)) with hc39 | hc39
    ·replace h := ite_t hc39 h
     refine rS { kn := [(15, .t hc39)] } [1, 2, 18] [2] hN (by kernel_rfl) (by kernel_rfl) ?_
     refine tnU ?_
     exact ⟨true, h, by kernel_rfl⟩
    ·replace h := ite_f hc39 h
     obtain ⟨v40, hv40, h⟩ := bind_some h
     refine rS { its := [(5, .c (millwrightlaw08_Great.ok O hO k (T_rex_Node.mk a0.f_Kind a0.f_Index a0.f_Set a0.f_Kids) 40 v40 hv40))], kn := [(15, .f hc39)] } [1, 2, 18] [2] hN (by kernel_rfl) (by kernel_rfl) ?_
     refine tnU ?_
     exact ⟨v40, h, by kernel_rfl⟩
   ·rintro _ ⟨v36, h, rfl⟩
    unfold millwrightlaw10_DenoteFirst.j38 at h
    refine tS (b := v36) (by kernel_rfl) (fun hc37 => ?_) (fun hc37 => ?_)
    ·replace h := ite_t hc37 h
     refine WpC.seq ?_
     refine rS {} [4] [] hN (by kernel_rfl) (by kernel_rfl) ?_
     refine tnU ?_
     refine WpC.ret ?_
     refine thenQ_ret ?_
     have hq := Option.some.inj h
     subst hq
     exact eR (by kernel_rfl) (by kernel_rfl)
    ·replace h := ite_f hc37 h
     refine WpC.conv (cS [.k [1, 2] [2]] (by kernel_rfl) (by kernel_rfl)) (WpC.skip ?_)
     refine tnU ?_
     exact ⟨h, by kernel_rfl⟩
  ·rintro _ ⟨h, rfl⟩
   unfold millwrightlaw10_DenoteFirst.j35 at h
   refine WpC.seq ?_
   obtain ⟨v3, hv3, h⟩ := bind_some h
   refine rS { its := [(1, .c (millwrightlaw07_Of.ok O hO k (T_rex_Node.mk a0.f_Kind a0.f_Index a0.f_Set a0.f_Kids) v3 hv3))], th := [(2, [(3, 10001, 38, .named 4)])] } [1, 2, 5] [2, 5] hN (by kernel_rfl) (by kernel_rfl) ?_
   refine tnU ?_
   refine WpC.seq ?_
   obtain ⟨v4, hv4, h⟩ := bind_some h
   refine rS { its := [(1, .c (denote_First.ok O hO k (T_rex_Node.mk a0.f_Kind a0.f_Index a0.f_Set a0.f_Kids) v4 hv4))] } [1, 2, 5, 6] [2, 5, 6] hN (by kernel_rfl) (by kernel_rfl) ?_
   refine tnU ?_
   refine WpC.seq ?_
   refine WpC.seq ?_
   obtain ⟨v5, hv5, h⟩ := bind_some h
   refine rS { its := [(1, .c (millwrightref08_Right.ok O hO k (T_millwrightref07_Node.mk v3.f_Kind v3.f_Index v3.f_Set v3.f_Kids) v5 hv5))] } [1, 2, 5, 6, 25] [2, 5, 6] hN (by kernel_rfl) (by kernel_rfl) ?_
   refine tnU ?_
   refine tS (b := (!v5)) (by kernel_rfl) (fun hc6 => ?_) (fun hc6 => ?_)
   ·replace h := ite_t hc6 h
    refine WpC.seq ?_
    obtain ⟨v7, hv7, h⟩ := bind_some h
    refine rS { its := [(1, .c (class_Set_Empty.ok O hO k v4 v7 hv7))] } [4] [] hN (by kernel_rfl) (by kernel_rfl) ?_
    refine tnU ?_
    refine WpC.ret ?_
    refine thenQ_ret ?_
    have hq := Option.some.inj h
    subst hq
    exact eR (by kernel_rfl) (by kernel_rfl)
   ·replace h := ite_f hc6 h
    refine WpC.conv (cS [.k [1, 2, 5, 6] [2, 5, 6]] (by kernel_rfl) (by kernel_rfl)) (WpC.skip ?_)
    refine tnU ?_
    refine WpC.seq ?_
    refine WpC.seq ?_
    obtain ⟨v8, hv8, h⟩ := bind_some h
    refine rA { its := [(2, .c (millwrightref10_First.ok O hO k (T_millwrightref07_Node.mk v3.f_Kind v3.f_Index v3.f_Set v3.f_Kids) v8 hv8)), (3, .e 3 (sok_neArr (U := Un) (op := .neq) (rs := [(28, .p U6 v4), (30, .p U6 v8)]) rfl rfl Tryd.underlying23 Tryd.underlying22 ty_22 (by kernel_rfl) o0 o1))] } [1, 2, 6, 31] [2, 6] hN (by kernel_rfl) (by kernel_rfl) (by kernel_rfl) ?_
    refine tnU ?_
    refine tS (b := (!(v4 == v8))) (by kernel_rfl) (fun hc9 => ?_) (fun hc9 => ?_)
    ·replace h := ite_t hc9 h
     refine WpC.seq ?_
     refine rS {} [4] [] hN (by kernel_rfl) (by kernel_rfl) ?_
     refine tnU ?_
     refine WpC.ret ?_
     refine thenQ_ret ?_
     have hq := Option.some.inj h
     subst hq
     exact eR (by kernel_rfl) (by kernel_rfl)
    ·replace h := ite_f hc9 h
     refine WpC.conv (cS [.k [1, 2, 6] [2, 6]] (by kernel_rfl) (by kernel_rfl)) (WpC.skip ?_)
     refine tnU ?_
     refine sqJ (fun st' => millwrightlaw10_DenoteFirst.j10 k = some out ∧ st' = ⟨[], []⟩) ?_ ?_
     ·refine WpC.seq ?_
      refine rS {} [1, 2, 6, 7] [2, 6] hN (by kernel_rfl) (by kernel_rfl) ?_
      refine tnU ?_
      refine WpC.block ?_
      obtain ⟨o13, hlo13, h⟩ := bind_some h
      have hout14 := h
      clear h
      refine WpC.loop (U := Un) (fun n st' => ∃ v11 : Int, millwrightlaw10_DenoteFirst.l12 k a0 a1 v4 n v11 = some o13 ∧ st' = ⟨[(1, .p .str a1), (2, .loc 2 0), (6, .loc 6 0), (7, .p I6 v11)], [(2, .box [.p I6 a0.f_Kind, .p I6 a0.f_Index, .p U6 a0.f_Set, .p (.list (.named 3)) a0.f_Kids]), (6, .box [.p U6 v4])]⟩) k ⟨0, hlo13, by kernel_rfl⟩ ?_
      clear hlo13
      rintro (_ | n) _ ⟨v11, h, rfl⟩
      ·cases h
      ·rw [millwrightlaw10_DenoteFirst.l12] at h
       refine WpC.seq ?_
       refine WpC.seq ?_
       refine rS {} [1, 2, 6, 7, 35] [2, 6] hN (by kernel_rfl) (by kernel_rfl) ?_
       refine tnU ?_
       refine tS (b := (decide (v11 < (a1.length : Int)))) (by kernel_rfl) (fun hc15 => ?_) (fun hc15 => ?_)
       ·replace h := ite_t hc15 h
        refine WpC.conv (cS [.k [1, 2, 6, 7] [2, 6]] (by kernel_rfl) (by kernel_rfl)) (WpC.skip ?_)
        refine tnU ?_
        refine sqJ (fun st' => millwrightlaw10_DenoteFirst.j16 k (millwrightlaw10_DenoteFirst.l12 k a0 a1 v4 n) a0 a1 v4 v11 = some o13 ∧ st' = ⟨[(1, .p .str a1), (2, .loc 2 0), (6, .loc 6 0), (7, .p I6 v11)], [(2, .box [.p I6 a0.f_Kind, .p I6 a0.f_Index, .p U6 a0.f_Set, .p (.list (.named 3)) a0.f_Kids]), (6, .box [.p U6 v4])]⟩) ?_ ?_
        ·refine WpC.block ?_
         refine WpC.seq ?_
         obtain ⟨v17, hv17, h⟩ := bind_some h
         refine rS { its := [(3, .c (denote_Ends.ok O hO k (T_rex_Node.mk a0.f_Kind a0.f_Index a0.f_Set a0.f_Kids) a1 v11 v17 hv17))] } [1, 2, 6, 7, 41, 42, 43] [2, 6] hN (by kernel_rfl) (by kernel_rfl) ?_
         refine tnU ?_
         refine WpC.block ?_
         obtain ⟨o20, hlo20, h⟩ := bind_some h
         have hout21 := h
         clear h
         refine WpC.loop (U := Un) (fun n st' => ∃ v18 : Int, millwrightlaw10_DenoteFirst.l19 k a0 a1 v4 v11 v17 n v18 = some o20 ∧ st' = ⟨[(1, .p .str a1), (2, .loc 2 0), (6, .loc 6 0), (7, .p I6 v11), (41, .p (.list I6) v17), (42, .p I6 ((v17.length : Int) : Int)), (43, .p I6 v18)], [(2, .box [.p I6 a0.f_Kind, .p I6 a0.f_Index, .p U6 a0.f_Set, .p (.list (.named 3)) a0.f_Kids]), (6, .box [.p U6 v4])]⟩) k ⟨0, hlo20, by kernel_rfl⟩ ?_
         clear hlo20
         rintro (_ | n) _ ⟨v18, h, rfl⟩
         ·cases h
         ·rw [millwrightlaw10_DenoteFirst.l19] at h
          refine WpC.seq ?_
          refine rS {} [1, 2, 6, 7, 41, 42, 43, 44] [2, 6] hN (by kernel_rfl) (by kernel_rfl) ?_
          refine tnU ?_
          refine WpC.seq ?_
          refine tS (b := (decide (v18 < (v17.length : Int)))) (by kernel_rfl) (fun hc22 => ?_) (fun hc22 => ?_)
          ·replace h := ite_t hc22 h
           refine WpC.conv (cS [.k [1, 2, 6, 7, 41, 42, 43] [2, 6]] (by kernel_rfl) (by kernel_rfl)) (WpC.skip ?_)
           refine tnU ?_
           refine sqJ (fun st' => millwrightlaw10_DenoteFirst.j23 k (millwrightlaw10_DenoteFirst.l19 k a0 a1 v4 v11 v17 n) a0 a1 v4 v11 v17 v18 = some o20 ∧ st' = ⟨[(1, .p .str a1), (2, .loc 2 0), (6, .loc 6 0), (7, .p I6 v11), (41, .p (.list I6) v17), (42, .p I6 ((v17.length : Int) : Int)), (43, .p I6 v18)], [(2, .box [.p I6 a0.f_Kind, .p I6 a0.f_Index, .p U6 a0.f_Set, .p (.list (.named 3)) a0.f_Kids]), (6, .box [.p U6 v4])]⟩) ?_ ?_
           ·refine WpC.block ?_
            refine WpC.seq ?_
            obtain ⟨v24, hv24, h⟩ := bind_some h
            refine rS { its := [(0, .v I6 hv24)] } [1, 2, 6, 7, 9, 41, 42, 43] [2, 6] hN (by kernel_rfl) (by kernel_rfl) ?_
            refine tnU ?_
            refine sqJ (fun st' => ∃ v25 : Bool, millwrightlaw10_DenoteFirst.j27 k (millwrightlaw10_DenoteFirst.l19 k a0 a1 v4 v11 v17 n) a0 a1 v4 v11 v17 v18 v25 = some o20 ∧ st' = ⟨[(1, .p .str a1), (2, .loc 2 0), (6, .loc 6 0), (7, .p I6 v11), (41, .p (.list I6) v17), (42, .p I6 ((v17.length : Int) : Int)), (43, .p I6 v18), (57, .p .bool v25)], [(2, .box [.p I6 a0.f_Kind, .p I6 a0.f_Index, .p U6 a0.f_Set, .p (.list (.named 3)) a0.f_Kids]), (6, .box [.p U6 v4])]⟩) ?_ ?_
            ·rcases bool_cases (decide (v24 > v11)) with hc28 | hc28
             ·replace h := ite_t hc28 h
              obtain ⟨v29, hv29, h⟩ := bind_some h
              obtain ⟨v30, hv30, h⟩ := bind_some h
              refine rA { its := [(7, .u hv29), (8, .c (class_Set_Has.ok O hO k v4 (v29.toNat : Int) v30 hv30))], kn := [(50, .t hc28)] } [1, 2, 6, 7, 41, 42, 43, 57] [2, 6] hN (by kernel_rfl) (by kernel_rfl) (by kernel_rfl) ?_
              refine tnU ?_
              exact ⟨(!v30), h, by kernel_rfl⟩
             ·replace h := ite_f hc28 h
              refine rA { kn := [(50, .f hc28)] } [1, 2, 6, 7, 41, 42, 43, 57] [2, 6] hN (by kernel_rfl) (by kernel_rfl) (by kernel_rfl) ?_
              refine tnU ?_
              exact ⟨false, h, by kernel_rfl⟩
            ·rintro _ ⟨v25, h, rfl⟩
             unfold millwrightlaw10_DenoteFirst.j27 at h
             refine tS (b := v25) (by kernel_rfl) (fun hc26 => ?_) (fun hc26 => ?_)
             ·replace h := ite_t hc26 h
              refine WpC.seq ?_
              refine rS {} [4] [] hN (by kernel_rfl) (by kernel_rfl) ?_
              refine tnU ?_
              refine WpC.ret ?_
              refine blockQ_ret ?_
              refine thenQ_ret ?_
              have hq := Option.some.inj h
              subst hq
              refine thenQ_ret ?_
              have h := hout21
              refine blockQ_ret ?_
              refine blockQ_ret ?_
              refine thenQ_ret ?_
              have hq := Option.some.inj h
              subst hq
              refine thenQ_ret ?_
              have h := hout14
              refine blockQ_ret ?_
              refine thenQ_ret ?_
              have hq := Option.some.inj h
              subst hq
              exact eR (by kernel_rfl) (by kernel_rfl)
             ·replace h := ite_f hc26 h
              refine WpC.conv (cS [.k [1, 2, 6, 7, 41, 42, 43] [2, 6]] (by kernel_rfl) (by kernel_rfl)) (WpC.skip ?_)
              refine blockQ_normal ?_
              refine tnU ?_
              exact ⟨h, by kernel_rfl⟩
           ·rintro _ ⟨h, rfl⟩
            unfold millwrightlaw10_DenoteFirst.j23 at h
            refine rS {} [1, 2, 6, 7, 41, 42, 43] [2, 6] hN (by kernel_rfl) (by kernel_rfl) ?_
            refine tnU ?_
            exact ⟨n, Nat.lt_succ_self n, (IntKind.i64.wrap (v18 + 1)), h, by kernel_rfl⟩
          ·replace h := ite_f hc22 h
           refine WpC.conv (cS [.k [1, 2, 6, 7] [2, 6]] (by kernel_rfl) (by kernel_rfl)) (WpC.exit ?_)
           refine thenQ_exit ?_
           have hq := Option.some.inj h
           subst hq
           refine thenQ_exit ?_
           have h := hout21
           refine blockQ_hit ?_
           refine blockQ_normal ?_
           refine tnU ?_
           exact ⟨h, by kernel_rfl⟩
        ·rintro _ ⟨h, rfl⟩
         unfold millwrightlaw10_DenoteFirst.j16 at h
         refine rS {} [1, 2, 6, 7] [2, 6] hN (by kernel_rfl) (by kernel_rfl) ?_
         refine tnU ?_
         exact ⟨n, Nat.lt_succ_self n, (IntKind.i64.wrap (v11 + 1)), h, by kernel_rfl⟩
       ·replace h := ite_f hc15 h
        refine WpC.conv (cS [.k [] []] (by kernel_rfl) (by kernel_rfl)) (WpC.exit ?_)
        refine thenQ_exit ?_
        have hq := Option.some.inj h
        subst hq
        refine thenQ_exit ?_
        have h := hout14
        refine blockQ_hit ?_
        refine tnU ?_
        exact ⟨h, by kernel_rfl⟩
     ·rintro _ ⟨h, rfl⟩
      unfold millwrightlaw10_DenoteFirst.j10 at h
      refine WpC.seq ?_
      refine rS {} [4] [] hN (by kernel_rfl) (by kernel_rfl) ?_
      refine tnU ?_
      refine WpC.ret ?_
      have hq := Option.some.inj h
      subst hq
      exact eR (by kernel_rfl) (by kernel_rfl)

end Go.Proofs.YteddmdkbeednmaaDoor
