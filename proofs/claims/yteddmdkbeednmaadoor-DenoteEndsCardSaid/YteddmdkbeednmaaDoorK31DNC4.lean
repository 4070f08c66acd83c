/- A part of the proof of a given law: DNC4. Own work, printed in part by a program of mine. -/
import Derived.Test.YteddmdkbeednmaaDoorK31DNC3
namespace Go.Proofs.YteddmdkbeednmaaDoor
open Go Go.AM
set_option linter.unusedVariables false
set_option linter.unusedSimpArgs false
set_option maxRecDepth 100000
set_option maxHeartbeats 4000000
theorem millwrightref06_Has.ok (O : Out) (hO : GOkA O) (k : Nat) (a0 : List Int) (a1 : Int) (out : Bool) (h : millwrightref06_Has.f k a0 a1 = some out) : COk Un O Tryd.prog 37 { ar := [.p U6 a0, .p I6 a1], r := .p .bool out } := by
 refine cok_of_wp Tryd.func37 rfl (k := 22) rfl (Nat.le_of_ble_eq_true rfl) (namesOk_pure rfl rfl rfl rfl) ?_
 intro B hN
 refine WpC.conv (cvK (b := ⟨[(0, .p U6 a0), (1, .p I6 a1)], []⟩) [0, 1] [] (by kernel_rfl)) ?_
 unfold millwrightref06_Has.f at h
 refine WpC.seq ?_
 refine rS {} [1, 2] [2] hN (by kernel_rfl) (by kernel_rfl) ?_
 refine tnU ?_
 refine WpC.seq ?_
 obtain ⟨g1, h⟩ := if_some h
 obtain ⟨g2, h⟩ := if_some h
 obtain ⟨v3, hv3, h⟩ := bind_some h
 refine rS { its := [(1, .g g1), (2, .g g2), (3, .v (.int .u64) hv3)] } [1, 5] [] hN (by kernel_rfl) (by kernel_rfl) ?_
 refine tnU ?_
 refine sqJ (fun st' => ∃ v4 : Int, millwrightref06_Has.j6 k v4 = some out ∧ st' = ⟨[(5, .p (.int .u64) v4)], []⟩) ?_ ?_
 ·refine WpC.seq ?_
  refine rS {} [1, 5, 6] [] hN (by kernel_rfl) (by kernel_rfl) ?_
  refine tnU ?_
  refine WpC.block ?_
  obtain ⟨o11, hlo11, h⟩ := bind_some h
  have hout12 := h
  clear h
  refine WpC.loop (U := Un) (fun n st' => ∃ v7 : Int, ∃ v8 : Int, millwrightref06_Has.l9 k a1 n v7 v8 = some o11 ∧ st' = ⟨[(1, .p I6 a1), (5, .p (.int .u64) v7), (6, .p I6 v8)], []⟩) k ⟨v3, 0, hlo11, by kernel_rfl⟩ ?_
  clear hlo11
  rintro (_ | n) _ ⟨v7, v8, h, rfl⟩
  ·cases h
  ·rw [millwrightref06_Has.l9] at h
   refine WpC.seq ?_
   refine WpC.seq ?_
   obtain ⟨g13, h⟩ := if_some h
   refine rS { its := [(2, .g g13)] } [1, 5, 6, 14] [] hN (by kernel_rfl) (by kernel_rfl) ?_
   refine tnU ?_
   refine tS (b := (decide (v8 < (Int.tmod a1 64)))) (by kernel_rfl) (fun hc14 => ?_) (fun hc14 => ?_)
   ·replace h := ite_t hc14 h
    refine WpC.conv (cS [.k [1, 5, 6] []] (by kernel_rfl) (by kernel_rfl)) (WpC.skip ?_)
    refine tnU ?_
    refine WpC.seq ?_
    refine WpC.block ?_
    obtain ⟨g15, h⟩ := if_some h
    refine rS { its := [(1, .g g15)] } [1, 5, 6] [] hN (by kernel_rfl) (by kernel_rfl) ?_
    refine blockQ_normal ?_
    refine tnU ?_
    refine rS {} [1, 5, 6] [] hN (by kernel_rfl) (by kernel_rfl) ?_
    refine tnU ?_
    exact ⟨n, Nat.lt_succ_self n, (IntKind.u64.wrap (Int.tdiv v7 2)), (IntKind.i64.wrap (v8 + 1)), h, by kernel_rfl⟩
   ·replace h := ite_f hc14 h
    refine WpC.conv (cS [.k [5] []] (by kernel_rfl) (by kernel_rfl)) (WpC.exit ?_)
    refine thenQ_exit ?_
    have hq := Option.some.inj h
    subst hq
    refine thenQ_exit ?_
    have h := hout12
    refine blockQ_hit ?_
    refine tnU ?_
    exact ⟨v7, h, by kernel_rfl⟩
 ·rintro _ ⟨v4, h, rfl⟩
  unfold millwrightref06_Has.j6 at h
  refine WpC.seq ?_
  obtain ⟨g5, h⟩ := if_some h
  refine rS { its := [(1, .g g5)] } [4] [] hN (by kernel_rfl) (by kernel_rfl) ?_
  refine tnU ?_
  refine WpC.ret ?_
  have hq := Option.some.inj h
  subst hq
  exact eR (by kernel_rfl) (by kernel_rfl)

theorem millwrightref10_row.bok (O : Out) (hO : GOkA O) (k : Nat) (rf_millwrightref10_Spans : T_millwrightref07_Node → (List UInt8) → Int → Int → Option Bool) (rf_millwrightref10_row : (List T_millwrightref07_Node) → (List UInt8) → Int → Int → Option Bool) (hrf_millwrightref10_Spans : ∀ (a0 : T_millwrightref07_Node) (a1 : List UInt8) (a2 : Int) (a3 : Int) (out : Bool), rf_millwrightref10_Spans a0 a1 a2 a3 = some out → COk Un O Tryd.prog 17 { ar := [.p (.named 4) a0, .p .str a1, .p I6 a2, .p I6 a3], r := .p .bool out }) (hrf_millwrightref10_row : ∀ (a0 : List T_millwrightref07_Node) (a1 : List UInt8) (a2 : Int) (a3 : Int) (out : Bool), rf_millwrightref10_row a0 a1 a2 a3 = some out → COk Un O Tryd.prog 38 { ar := [.p (.list (.named 4)) a0, .p .str a1, .p I6 a2, .p I6 a3], r := .p .bool out }) (a0 : List T_millwrightref07_Node) (a1 : List UInt8) (a2 : Int) (a3 : Int) (out : Bool) (h : millwrightref10_row.b k rf_millwrightref10_Spans rf_millwrightref10_row a0 a1 a2 a3 = some out) : COk Un O Tryd.prog 38 { ar := [.p (.list (.named 4)) a0, .p .str a1, .p I6 a2, .p I6 a3], r := .p .bool out } := by
 refine cok_of_wp Tryd.func38 rfl (k := 37) rfl (Nat.le_of_ble_eq_true rfl) (namesOk_pure rfl rfl rfl rfl) ?_
 intro B hN
 refine WpC.conv (cvK (b := ⟨[(0, .p (.list (.named 4)) a0), (1, .p .str a1), (2, .p I6 a2), (3, .p I6 a3)], []⟩) [0, 1, 2, 3] [] (by kernel_rfl)) ?_
 unfold millwrightref10_row.b at h
 refine WpC.seq ?_
 refine rS {} [0, 1, 2, 3] [] hN (by kernel_rfl) (by kernel_rfl) ?_
 refine tnU ?_
 refine WpC.seq ?_
 refine WpC.seq ?_
 refine rS {} [0, 1, 2, 3, 12] [] hN (by kernel_rfl) (by kernel_rfl) ?_
 refine tnU ?_
 refine tS (b := ((a0.length : Int) == 0)) (by kernel_rfl) (fun hc1 => ?_) (fun hc1 => ?_)
 ·replace h := ite_t hc1 h
  refine WpC.seq ?_
  refine rS {} [8] [] hN (by kernel_rfl) (by kernel_rfl) ?_
  refine tnU ?_
  refine WpC.ret ?_
  refine thenQ_ret ?_
  have hq := Option.some.inj h
  subst hq
  exact eR (by kernel_rfl) (by kernel_rfl)
 ·replace h := ite_f hc1 h
  refine WpC.conv (cS [.k [0, 1, 2, 3] []] (by kernel_rfl) (by kernel_rfl)) (WpC.skip ?_)
  refine tnU ?_
  refine sqJ (fun st' => millwrightref10_row.j2 k = some out ∧ st' = ⟨[], []⟩) ?_ ?_
  ·refine WpC.seq ?_
   refine rS {} [0, 1, 2, 3, 9] [] hN (by kernel_rfl) (by kernel_rfl) ?_
   refine tnU ?_
   refine WpC.block ?_
   obtain ⟨o5, hlo5, h⟩ := bind_some h
   have hout6 := h
   clear h
   refine WpC.loop (U := Un) (fun n st' => ∃ v3 : Int, millwrightref10_row.l4 k rf_millwrightref10_Spans rf_millwrightref10_row a0 a1 a2 a3 n v3 = some o5 ∧ st' = ⟨[(0, .p (.list (.named 4)) a0), (1, .p .str a1), (2, .p I6 a2), (3, .p I6 a3), (9, .p I6 v3)], []⟩) k ⟨a2, hlo5, by kernel_rfl⟩ ?_
   clear hlo5
   rintro (_ | n) _ ⟨v3, h, rfl⟩
   ·cases h
   ·rw [millwrightref10_row.l4] at h
    refine WpC.seq ?_
    refine WpC.seq ?_
    refine rS {} [0, 1, 2, 3, 9, 19] [] hN (by kernel_rfl) (by kernel_rfl) ?_
    refine tnU ?_
    refine tS (b := (decide (v3 ≤ a3))) (by kernel_rfl) (fun hc7 => ?_) (fun hc7 => ?_)
    ·replace h := ite_t hc7 h
     refine WpC.conv (cS [.k [0, 1, 2, 3, 9] []] (by kernel_rfl) (by kernel_rfl)) (WpC.skip ?_)
     refine tnU ?_
     refine sqJ (fun st' => millwrightref10_row.j8 k (millwrightref10_row.l4 k rf_millwrightref10_Spans rf_millwrightref10_row a0 a1 a2 a3 n) a0 a1 a2 a3 v3 = some o5 ∧ st' = ⟨[(0, .p (.list (.named 4)) a0), (1, .p .str a1), (2, .p I6 a2), (3, .p I6 a3), (9, .p I6 v3)], []⟩) ?_ ?_
     ·refine WpC.block ?_
      refine sqJ (fun st' => ∃ v9 : Bool, millwrightref10_row.j11 k (millwrightref10_row.l4 k rf_millwrightref10_Spans rf_millwrightref10_row a0 a1 a2 a3 n) a0 a1 a2 a3 v3 v9 = some o5 ∧ st' = ⟨[(0, .p (.list (.named 4)) a0), (1, .p .str a1), (2, .p I6 a2), (3, .p I6 a3), (9, .p I6 v3), (36, .p .bool v9)], []⟩) ?_ ?_
      ·obtain ⟨v12, hv12, h⟩ := bind_some h
       obtain ⟨v13, hv13, h⟩ := bind_some h
       rcases bool_cases v13 with hc14 | hc14
       ·replace h := ite_t hc14 h
        obtain ⟨v15, hv15, h⟩ := bind_some h
        obtain ⟨v16, hv16, h⟩ := bind_some h
        refine rS { its := [(1, .v (.named 4) hv12), (6, .c (hrf_millwrightref10_Spans v12 a1 a2 v3 v13 hv13)), (9, .v (.list (.named 4)) hv15), (13, .c (hrf_millwrightref10_row v15 a1 v3 a3 v16 hv16))], kn := [(29, .t hc14)] } [0, 1, 2, 3, 9, 36] [] hN (by kernel_rfl) (by kernel_rfl) ?_
        refine tnU ?_
        exact ⟨v16, h, by kernel_rfl⟩
       ·replace h := ite_f hc14 h
        refine rS { its := [(1, .v (.named 4) hv12), (6, .c (hrf_millwrightref10_Spans v12 a1 a2 v3 v13 hv13))], kn := [(29, .f hc14)] } [0, 1, 2, 3, 9, 36] [] hN (by kernel_rfl) (by kernel_rfl) ?_
        refine tnU ?_
        exact ⟨false, h, by kernel_rfl⟩
      ·rintro _ ⟨v9, h, rfl⟩
       unfold millwrightref10_row.j11 at h
       refine tS (b := v9) (by kernel_rfl) (fun hc10 => ?_) (fun hc10 => ?_)
       ·replace h := ite_t hc10 h
        refine WpC.seq ?_
        refine rS {} [8] [] hN (by kernel_rfl) (by kernel_rfl) ?_
        refine tnU ?_
        refine WpC.ret ?_
        refine blockQ_ret ?_
        refine thenQ_ret ?_
        have hq := Option.some.inj h
        subst hq
        refine thenQ_ret ?_
        have h := hout6
        refine blockQ_ret ?_
        refine thenQ_ret ?_
        have hq := Option.some.inj h
        subst hq
        exact eR (by kernel_rfl) (by kernel_rfl)
       ·replace h := ite_f hc10 h
        refine WpC.conv (cS [.k [0, 1, 2, 3, 9] []] (by kernel_rfl) (by kernel_rfl)) (WpC.skip ?_)
        refine blockQ_normal ?_
        refine tnU ?_
        exact ⟨h, by kernel_rfl⟩
     ·rintro _ ⟨h, rfl⟩
      unfold millwrightref10_row.j8 at h
      refine rS {} [0, 1, 2, 3, 9] [] hN (by kernel_rfl) (by kernel_rfl) ?_
      refine tnU ?_
      exact ⟨n, Nat.lt_succ_self n, (IntKind.i64.wrap (v3 + 1)), h, by kernel_rfl⟩
    ·replace h := ite_f hc7 h
     refine WpC.conv (cS [.k [] []] (by kernel_rfl) (by kernel_rfl)) (WpC.exit ?_)
     refine thenQ_exit ?_
     have hq := Option.some.inj h
     subst hq
     refine thenQ_exit ?_
     have h := hout6
     refine blockQ_hit ?_
     refine tnU ?_
     exact ⟨h, by kernel_rfl⟩
  ·rintro _ ⟨h, rfl⟩
   unfold millwrightref10_row.j2 at h
   refine WpC.seq ?_
   refine rS {} [8] [] hN (by kernel_rfl) (by kernel_rfl) ?_
   refine tnU ?_
   refine WpC.ret ?_
   have hq := Option.some.inj h
   subst hq
   exact eR (by kernel_rfl) (by kernel_rfl)

theorem millwrightref10_many.bok (O : Out) (hO : GOkA O) (k : Nat) (rf_millwrightref10_Spans : T_millwrightref07_Node → (List UInt8) → Int → Int → Option Bool) (rf_millwrightref10_many : T_millwrightref07_Node → (List UInt8) → Int → Int → Option Bool) (hrf_millwrightref10_Spans : ∀ (a0 : T_millwrightref07_Node) (a1 : List UInt8) (a2 : Int) (a3 : Int) (out : Bool), rf_millwrightref10_Spans a0 a1 a2 a3 = some out → COk Un O Tryd.prog 17 { ar := [.p (.named 4) a0, .p .str a1, .p I6 a2, .p I6 a3], r := .p .bool out }) (hrf_millwrightref10_many : ∀ (a0 : T_millwrightref07_Node) (a1 : List UInt8) (a2 : Int) (a3 : Int) (out : Bool), rf_millwrightref10_many a0 a1 a2 a3 = some out → COk Un O Tryd.prog 39 { ar := [.p (.named 4) a0, .p .str a1, .p I6 a2, .p I6 a3], r := .p .bool out }) (a0 : T_millwrightref07_Node) (a1 : List UInt8) (a2 : Int) (a3 : Int) (out : Bool) (h : millwrightref10_many.b k rf_millwrightref10_Spans rf_millwrightref10_many a0 a1 a2 a3 = some out) : COk Un O Tryd.prog 39 { ar := [.p (.named 4) a0, .p .str a1, .p I6 a2, .p I6 a3], r := .p .bool out } := by
 refine cok_of_wp Tryd.func39 rfl (k := 34) rfl (Nat.le_of_ble_eq_true rfl) (namesOk_pure rfl rfl rfl rfl) ?_
 intro B hN
 refine WpC.conv (cvK (b := ⟨[(0, .p (.named 4) a0), (1, .p .str a1), (2, .p I6 a2), (3, .p I6 a3)], []⟩) [0, 1, 2, 3] [] (by kernel_rfl)) ?_
 unfold millwrightref10_many.b at h
 refine WpC.seq ?_
 refine rS {} [1, 2, 3, 4] [4] hN (by kernel_rfl) (by kernel_rfl) ?_
 refine tnU ?_
 refine sqJ (fun st' => millwrightref10_many.j1 k = some out ∧ st' = ⟨[], []⟩) ?_ ?_
 ·refine WpC.seq ?_
  refine rS {} [1, 2, 3, 4, 9] [4] hN (by kernel_rfl) (by kernel_rfl) ?_
  refine tnU ?_
  refine WpC.block ?_
  obtain ⟨o4, hlo4, h⟩ := bind_some h
  have hout5 := h
  clear h
  refine WpC.loop (U := Un) (fun n st' => ∃ v2 : Int, millwrightref10_many.l3 k rf_millwrightref10_Spans rf_millwrightref10_many a0 a1 a2 a3 n v2 = some o4 ∧ st' = ⟨[(1, .p .str a1), (2, .p I6 a2), (3, .p I6 a3), (4, .loc 4 0), (9, .p I6 v2)], [(4, .box [.p I6 a0.f_Kind, .p I6 a0.f_Index, .p U6 a0.f_Set, .p (.list (.named 4)) a0.f_Kids])]⟩) k ⟨(IntKind.i64.wrap (a2 + 1)), hlo4, by kernel_rfl⟩ ?_
  clear hlo4
  rintro (_ | n) _ ⟨v2, h, rfl⟩
  ·cases h
  ·rw [millwrightref10_many.l3] at h
   refine WpC.seq ?_
   refine WpC.seq ?_
   refine rS {} [1, 2, 3, 4, 9, 14] [4] hN (by kernel_rfl) (by kernel_rfl) ?_
   refine tnU ?_
   refine tS (b := (decide (v2 ≤ a3))) (by kernel_rfl) (fun hc6 => ?_) (fun hc6 => ?_)
   ·replace h := ite_t hc6 h
    refine WpC.conv (cS [.k [1, 2, 3, 4, 9] [4]] (by kernel_rfl) (by kernel_rfl)) (WpC.skip ?_)
    refine tnU ?_
    refine sqJ (fun st' => millwrightref10_many.j7 k (millwrightref10_many.l3 k rf_millwrightref10_Spans rf_millwrightref10_many a0 a1 a2 a3 n) a0 a1 a2 a3 v2 = some o4 ∧ st' = ⟨[(1, .p .str a1), (2, .p I6 a2), (3, .p I6 a3), (4, .loc 4 0), (9, .p I6 v2)], [(4, .box [.p I6 a0.f_Kind, .p I6 a0.f_Index, .p U6 a0.f_Set, .p (.list (.named 4)) a0.f_Kids])]⟩) ?_ ?_
    ·refine WpC.block ?_
     refine sqJ (fun st' => ∃ v8 : Bool, millwrightref10_many.j10 k (millwrightref10_many.l3 k rf_millwrightref10_Spans rf_millwrightref10_many a0 a1 a2 a3 n) a0 a1 a2 a3 v2 v8 = some o4 ∧ st' = ⟨[(1, .p .str a1), (2, .p I6 a2), (3, .p I6 a3), (4, .loc 4 0), (9, .p I6 v2), (33, .p .bool v8)], [(4, .box [.p I6 a0.f_Kind, .p I6 a0.f_Index, .p U6 a0.f_Set, .p (.list (.named 4)) a0.f_Kids])]⟩) ?_ ?_
     ·obtain ⟨v11, hv11, h⟩ := bind_some h
      rcases bool_cases v11 with hc12 | hc12
      ·replace h := ite_t hc12 h
       rcases bool_cases (v2 == a3) with hc13 | hc13
       ·replace h := ite_t hc13 h
        refine rS { its := [(4, .c (hrf_millwrightref10_Spans (T_millwrightref07_Node.mk a0.f_Kind a0.f_Index a0.f_Set a0.f_Kids) a1 a2 v2 v11 hv11))], kn := [(22, .t hc12), (26, .t hc13)] } [1, 2, 3, 4, 9, 33] [4] hN (by kernel_rfl) (by kernel_rfl) ?_
        refine tnU ?_
        exact ⟨true, h, by kernel_rfl⟩
       ·replace h := ite_f hc13 h
        obtain ⟨v14, hv14, h⟩ := bind_some h
        refine rS { its := [(4, .c (hrf_millwrightref10_Spans (T_millwrightref07_Node.mk a0.f_Kind a0.f_Index a0.f_Set a0.f_Kids) a1 a2 v2 v11 hv11)), (14, .c (hrf_millwrightref10_many (T_millwrightref07_Node.mk a0.f_Kind a0.f_Index a0.f_Set a0.f_Kids) a1 v2 a3 v14 hv14))], kn := [(22, .t hc12), (26, .f hc13)] } [1, 2, 3, 4, 9, 33] [4] hN (by kernel_rfl) (by kernel_rfl) ?_
        refine tnU ?_
        exact ⟨v14, h, by kernel_rfl⟩
      ·replace h := ite_f hc12 h
       refine rS { its := [(4, .c (hrf_millwrightref10_Spans (T_millwrightref07_Node.mk a0.f_Kind a0.f_Index a0.f_Set a0.f_Kids) a1 a2 v2 v11 hv11))], kn := [(22, .f hc12)] } [1, 2, 3, 4, 9, 33] [4] hN (by kernel_rfl) (by kernel_rfl) ?_
       refine tnU ?_
       exact ⟨false, h, by kernel_rfl⟩
     ·rintro _ ⟨v8, h, rfl⟩
      unfold millwrightref10_many.j10 at h
      refine tS (b := v8) (by kernel_rfl) (fun hc9 => ?_) (fun hc9 => ?_)
      ·replace h := ite_t hc9 h
       refine WpC.seq ?_
       refine rS {} [8] [] hN (by kernel_rfl) (by kernel_rfl) ?_
       refine tnU ?_
       refine WpC.ret ?_
       refine blockQ_ret ?_
       refine thenQ_ret ?_
       have hq := Option.some.inj h
       subst hq
       refine thenQ_ret ?_
       have h := hout5
       refine blockQ_ret ?_
       refine thenQ_ret ?_
       have hq := Option.some.inj h
       subst hq
       exact eR (by kernel_rfl) (by kernel_rfl)
      ·replace h := ite_f hc9 h
       refine WpC.conv (cS [.k [1, 2, 3, 4, 9] [4]] (by kernel_rfl) (by kernel_rfl)) (WpC.skip ?_)
       refine blockQ_normal ?_
       refine tnU ?_
       exact ⟨h, by kernel_rfl⟩
    ·rintro _ ⟨h, rfl⟩
     unfold millwrightref10_many.j7 at h
     refine rS {} [1, 2, 3, 4, 9] [4] hN (by kernel_rfl) (by kernel_rfl) ?_
     refine tnU ?_
     exact ⟨n, Nat.lt_succ_self n, (IntKind.i64.wrap (v2 + 1)), h, by kernel_rfl⟩
   ·replace h := ite_f hc6 h
    refine WpC.conv (cS [.k [] []] (by kernel_rfl) (by kernel_rfl)) (WpC.exit ?_)
    refine thenQ_exit ?_
    have hq := Option.some.inj h
    subst hq
    refine thenQ_exit ?_
    have h := hout5
    refine blockQ_hit ?_
    refine tnU ?_
    exact ⟨h, by kernel_rfl⟩
 ·rintro _ ⟨h, rfl⟩
  unfold millwrightref10_many.j1 at h
  refine WpC.seq ?_
  refine rS {} [8] [] hN (by kernel_rfl) (by kernel_rfl) ?_
  refine tnU ?_
  refine WpC.ret ?_
  have hq := Option.some.inj h
  subst hq
  exact eR (by kernel_rfl) (by kernel_rfl)

theorem millwrightref10_Spans.bok (O : Out) (hO : GOkA O) (k : Nat) (rf_millwrightref10_row : (List T_millwrightref07_Node) → (List UInt8) → Int → Int → Option Bool) (rf_millwrightref10_Spans : T_millwrightref07_Node → (List UInt8) → Int → Int → Option Bool) (rf_millwrightref10_many : T_millwrightref07_Node → (List UInt8) → Int → Int → Option Bool) (hrf_millwrightref10_row : ∀ (a0 : List T_millwrightref07_Node) (a1 : List UInt8) (a2 : Int) (a3 : Int) (out : Bool), rf_millwrightref10_row a0 a1 a2 a3 = some out → COk Un O Tryd.prog 38 { ar := [.p (.list (.named 4)) a0, .p .str a1, .p I6 a2, .p I6 a3], r := .p .bool out }) (hrf_millwrightref10_Spans : ∀ (a0 : T_millwrightref07_Node) (a1 : List UInt8) (a2 : Int) (a3 : Int) (out : Bool), rf_millwrightref10_Spans a0 a1 a2 a3 = some out → COk Un O Tryd.prog 17 { ar := [.p (.named 4) a0, .p .str a1, .p I6 a2, .p I6 a3], r := .p .bool out }) (hrf_millwrightref10_many : ∀ (a0 : T_millwrightref07_Node) (a1 : List UInt8) (a2 : Int) (a3 : Int) (out : Bool), rf_millwrightref10_many a0 a1 a2 a3 = some out → COk Un O Tryd.prog 39 { ar := [.p (.named 4) a0, .p .str a1, .p I6 a2, .p I6 a3], r := .p .bool out }) (a0 : T_millwrightref07_Node) (a1 : List UInt8) (a2 : Int) (a3 : Int) (out : Bool) (h : millwrightref10_Spans.b k rf_millwrightref10_row rf_millwrightref10_Spans rf_millwrightref10_many a0 a1 a2 a3 = some out) : COk Un O Tryd.prog 17 { ar := [.p (.named 4) a0, .p .str a1, .p I6 a2, .p I6 a3], r := .p .bool out } := by
 refine cok_of_wp Tryd.func17 rfl (k := 134) rfl (Nat.le_of_ble_eq_true rfl) (namesOk_pure rfl rfl rfl rfl) ?_
 intro B hN
 refine WpC.conv (cvK (b := ⟨[(0, .p (.named 4) a0), (1, .p .str a1), (2, .p I6 a2), (3, .p I6 a3)], []⟩) [0, 1, 2, 3] [] (by kernel_rfl)) ?_
 unfold millwrightref10_Spans.b at h
 refine WpC.seq ?_
 refine rS {} [1, 2, 3, 4] [4] hN (by kernel_rfl) (by kernel_rfl) ?_
 refine tnU ?_
 refine WpC.seq ?_
 refine WpC.seq ?_
 refine rS {} [1, 2, 3, 4, 12] [4] hN (by kernel_rfl) (by kernel_rfl) ?_
 refine tnU ?_
 refine WpC.block ?_
 refine WpC.seq ?_
 refine rS {} [1, 2, 3, 4, 12, 13] [4] hN (by kernel_rfl) (by kernel_rfl) ?_
 refine tnU ?_
 refine tS (b := (a0.f_Kind == 0)) (by kernel_rfl) (fun hc1 => ?_) (fun hc1 => ?_)
 ·replace h := ite_t hc1 h
  refine WpC.seq ?_
  refine rS {} [8] [] hN (by kernel_rfl) (by kernel_rfl) ?_
  refine tnU ?_
  refine WpC.ret ?_
  refine blockQ_ret ?_
  refine thenQ_ret ?_
  have hq := Option.some.inj h
  subst hq
  exact eR (by kernel_rfl) (by kernel_rfl)
 ·replace h := ite_f hc1 h
  refine WpC.seq ?_
  refine rS {} [1, 2, 3, 4, 12, 18] [4] hN (by kernel_rfl) (by kernel_rfl) ?_
  refine tnU ?_
  refine tS (b := (a0.f_Kind == 1)) (by kernel_rfl) (fun hc2 => ?_) (fun hc2 => ?_)
  ·replace h := ite_t hc2 h
   refine WpC.seq ?_
   rcases bool_cases (a3 == (IntKind.i64.wrap (a2 + 1))) with hc3 | hc3
   ·replace h := ite_t hc3 h
    obtain ⟨v4, hv4, h⟩ := bind_some h
    obtain ⟨v5, hv5, h⟩ := bind_some h
    refine rA { its := [(9, .u hv4), (11, .c (millwrightref06_Has.ok O hO k a0.f_Set (IntKind.i64.wrap (v4.toNat : Int)) v5 hv5))], kn := [(24, .t hc3)] } [8] [] hN (by kernel_rfl) (by kernel_rfl) (by kernel_rfl) ?_
    refine tnU ?_
    refine WpC.ret ?_
    refine blockQ_ret ?_
    refine thenQ_ret ?_
    have hq := Option.some.inj h
    subst hq
    exact eR (by kernel_rfl) (by kernel_rfl)
   ·replace h := ite_f hc3 h
    refine rA { kn := [(24, .f hc3)] } [8] [] hN (by kernel_rfl) (by kernel_rfl) (by kernel_rfl) ?_
    refine tnU ?_
    refine WpC.ret ?_
    refine blockQ_ret ?_
    refine thenQ_ret ?_
    have hq := Option.some.inj h
    subst hq
    exact eR (by kernel_rfl) (by kernel_rfl)
  ·replace h := ite_f hc2 h
   refine WpC.seq ?_
   refine rS {} [1, 2, 3, 4, 12, 33] [4] hN (by kernel_rfl) (by kernel_rfl) ?_
   refine tnU ?_
   refine tS (b := (a0.f_Kind == 2)) (by kernel_rfl) (fun hc6 => ?_) (fun hc6 => ?_)
   ·replace h := ite_t hc6 h
    refine WpC.seq ?_
    obtain ⟨v7, hv7, h⟩ := bind_some h
    refine rS { its := [(5, .c (hrf_millwrightref10_row a0.f_Kids a1 a2 a3 v7 hv7))] } [8] [] hN (by kernel_rfl) (by kernel_rfl) ?_
    refine tnU ?_
    refine WpC.ret ?_
    refine blockQ_ret ?_
    refine thenQ_ret ?_
    have hq := Option.some.inj h
    subst hq
    exact eR (by kernel_rfl) (by kernel_rfl)
   ·replace h := ite_f hc6 h
    refine WpC.seq ?_
    refine rS {} [1, 2, 3, 4, 12, 41] [4] hN (by kernel_rfl) (by kernel_rfl) ?_
    refine tnU ?_
    refine tS (b := (a0.f_Kind == 3)) (by kernel_rfl) (fun hc8 => ?_) (fun hc8 => ?_)
    ·replace h := ite_t hc8 h
     refine sqJ (fun st' => millwrightref10_Spans.j9 k = some out ∧ st' = ⟨[], []⟩) ?_ ?_
     ·refine WpC.seq ?_
      refine rS {} [1, 2, 3, 44, 45, 46] [] hN (by kernel_rfl) (by kernel_rfl) ?_
      refine tnU ?_
      refine WpC.block ?_
      obtain ⟨o12, hlo12, h⟩ := bind_some h
      have hout13 := h
      clear h
      refine WpC.loop (U := Un) (fun n st' => ∃ v10 : Int, millwrightref10_Spans.l11 k rf_millwrightref10_Spans a0 a1 a2 a3 n v10 = some o12 ∧ st' = ⟨[(1, .p .str a1), (2, .p I6 a2), (3, .p I6 a3), (44, .p (.list (.named 4)) a0.f_Kids), (45, .p I6 ((a0.f_Kids.length : Int) : Int)), (46, .p I6 v10)], []⟩) k ⟨0, hlo12, by kernel_rfl⟩ ?_
      clear hlo12
      rintro (_ | n) _ ⟨v10, h, rfl⟩
      ·cases h
      ·rw [millwrightref10_Spans.l11] at h
       refine WpC.seq ?_
       refine rS {} [1, 2, 3, 44, 45, 46, 47] [] hN (by kernel_rfl) (by kernel_rfl) ?_
       refine tnU ?_
       refine WpC.seq ?_
       refine tS (b := (decide (v10 < (a0.f_Kids.length : Int)))) (by kernel_rfl) (fun hc14 => ?_) (fun hc14 => ?_)
       ·replace h := ite_t hc14 h
        refine WpC.conv (cS [.k [1, 2, 3, 44, 45, 46] []] (by kernel_rfl) (by kernel_rfl)) (WpC.skip ?_)
        refine tnU ?_
        refine WpC.seq ?_
        refine WpC.block ?_
        refine WpC.seq ?_
        obtain ⟨v15, hv15, h⟩ := bind_some h
        refine rS { its := [(0, .v (.named 4) hv15)], th := [(2, [(3, 10001, 38, .named 4)])] } [1, 2, 3, 10, 44, 45, 46] [10] hN (by kernel_rfl) (by kernel_rfl) ?_
        refine tnU ?_
        refine WpC.seq ?_
        obtain ⟨v16, hv16, h⟩ := bind_some h
        refine rS { its := [(4, .c (hrf_millwrightref10_Spans (T_millwrightref07_Node.mk v15.f_Kind v15.f_Index v15.f_Set v15.f_Kids) a1 a2 a3 v16 hv16))] } [1, 2, 3, 44, 45, 46, 54] [] hN (by kernel_rfl) (by kernel_rfl) ?_
        refine tnU ?_
        refine tS (b := v16) (by kernel_rfl) (fun hc17 => ?_) (fun hc17 => ?_)
        ·replace h := ite_t hc17 h
         refine WpC.seq ?_
         refine rS {} [8] [] hN (by kernel_rfl) (by kernel_rfl) ?_
         refine tnU ?_
         refine WpC.ret ?_
         refine blockQ_ret ?_
         refine thenQ_ret ?_
         have hq := Option.some.inj h
         subst hq
         refine thenQ_ret ?_
         have h := hout13
         refine blockQ_ret ?_
         refine thenQ_ret ?_
         refine blockQ_ret ?_
         refine thenQ_ret ?_
         have hq := Option.some.inj h
         subst hq
         exact eR (by kernel_rfl) (by kernel_rfl)
        ·replace h := ite_f hc17 h
         refine WpC.conv (cS [.k [1, 2, 3, 44, 45, 46] []] (by kernel_rfl) (by kernel_rfl)) (WpC.skip ?_)
         refine blockQ_normal ?_
         refine tnU ?_
         refine rS {} [1, 2, 3, 44, 45, 46] [] hN (by kernel_rfl) (by kernel_rfl) ?_
         refine tnU ?_
         exact ⟨n, Nat.lt_succ_self n, (IntKind.i64.wrap (v10 + 1)), h, by kernel_rfl⟩
       ·replace h := ite_f hc14 h
        refine WpC.conv (cS [.k [] []] (by kernel_rfl) (by kernel_rfl)) (WpC.exit ?_)
        refine thenQ_exit ?_
        have hq := Option.some.inj h
        subst hq
        refine thenQ_exit ?_
        have h := hout13
        refine blockQ_hit ?_
        refine tnU ?_
        exact ⟨h, by kernel_rfl⟩
     ·rintro _ ⟨h, rfl⟩
      unfold millwrightref10_Spans.j9 at h
      refine WpC.seq ?_
      refine rS {} [8] [] hN (by kernel_rfl) (by kernel_rfl) ?_
      refine tnU ?_
      refine WpC.ret ?_
      refine blockQ_ret ?_
      refine thenQ_ret ?_
      have hq := Option.some.inj h
      subst hq
      exact eR (by kernel_rfl) (by kernel_rfl)
    ·replace h := ite_f hc8 h
     refine WpC.seq ?_
     refine rS {} [1, 2, 3, 4, 12, 56] [4] hN (by kernel_rfl) (by kernel_rfl) ?_
     refine tnU ?_
     refine tS (b := (a0.f_Kind == 4)) (by kernel_rfl) (fun hc20 => ?_) (fun hc20 => ?_)
     ·replace h := ite_t hc20 h
      refine WpC.seq ?_
      rcases bool_cases (a2 == a3) with hc21 | hc21
      ·replace h := ite_t hc21 h
       refine rS { kn := [(61, .t hc21)] } [8] [] hN (by kernel_rfl) (by kernel_rfl) ?_
       refine tnU ?_
       refine WpC.ret ?_
       refine blockQ_ret ?_
       refine thenQ_ret ?_
       have hq := Option.some.inj h
       subst hq
       exact eR (by kernel_rfl) (by kernel_rfl)
      ·replace h := ite_f hc21 h
       obtain ⟨v22, hv22, h⟩ := bind_some h
       obtain ⟨v23, hv23, h⟩ := bind_some h
       refine rS { its := [(6, .v (.named 4) hv22), (11, .c (hrf_millwrightref10_many v22 a1 a2 a3 v23 hv23))], kn := [(61, .f hc21)] } [8] [] hN (by kernel_rfl) (by kernel_rfl) ?_
       refine tnU ?_
       refine WpC.ret ?_
       refine blockQ_ret ?_
       refine thenQ_ret ?_
       have hq := Option.some.inj h
       subst hq
       exact eR (by kernel_rfl) (by kernel_rfl)
     ·replace h := ite_f hc20 h
      refine WpC.seq ?_
      refine rS {} [1, 2, 3, 4, 12, 71] [4] hN (by kernel_rfl) (by kernel_rfl) ?_
      refine tnU ?_
      refine tS (b := (a0.f_Kind == 5)) (by kernel_rfl) (fun hc24 => ?_) (fun hc24 => ?_)
      ·replace h := ite_t hc24 h
       refine WpC.seq ?_
       obtain ⟨v25, hv25, h⟩ := bind_some h
       obtain ⟨v26, hv26, h⟩ := bind_some h
       rcases bool_cases v26 with hc27 | hc27
       ·replace h := ite_t hc27 h
        refine rS { its := [(2, .v (.named 4) hv25), (7, .c (hrf_millwrightref10_Spans v25 a1 a2 a3 v26 hv26))], kn := [(81, .t hc27)] } [8] [] hN (by kernel_rfl) (by kernel_rfl) ?_
        refine tnU ?_
        refine WpC.ret ?_
        refine blockQ_ret ?_
        refine thenQ_ret ?_
        have hq := Option.some.inj h
        subst hq
        exact eR (by kernel_rfl) (by kernel_rfl)
       ·replace h := ite_f hc27 h
        obtain ⟨v28, hv28, h⟩ := bind_some h
        obtain ⟨v29, hv29, h⟩ := bind_some h
        refine rS { its := [(2, .v (.named 4) hv25), (7, .c (hrf_millwrightref10_Spans v25 a1 a2 a3 v26 hv26)), (11, .v (.named 4) hv28), (16, .c (hrf_millwrightref10_many v28 a1 a2 a3 v29 hv29))], kn := [(81, .f hc27)] } [8] [] hN (by kernel_rfl) (by kernel_rfl) ?_
        refine tnU ?_
        refine WpC.ret ?_
        refine blockQ_ret ?_
        refine thenQ_ret ?_
        have hq := Option.some.inj h
        subst hq
        exact eR (by kernel_rfl) (by kernel_rfl)
      ·replace h := ite_f hc24 h
       refine WpC.seq ?_
       refine rS {} [1, 2, 3, 4, 12, 91] [4] hN (by kernel_rfl) (by kernel_rfl) ?_
       refine tnU ?_
       refine tS (b := (a0.f_Kind == 6)) (by kernel_rfl) (fun hc30 => ?_) (fun hc30 => ?_)
       ·replace h := ite_t hc30 h
        refine WpC.seq ?_
        rcases bool_cases (a2 == a3) with hc31 | hc31
        ·replace h := ite_t hc31 h
         refine rS { kn := [(96, .t hc31)] } [8] [] hN (by kernel_rfl) (by kernel_rfl) ?_
         refine tnU ?_
         refine WpC.ret ?_
         refine blockQ_ret ?_
         refine thenQ_ret ?_
         have hq := Option.some.inj h
         subst hq
         exact eR (by kernel_rfl) (by kernel_rfl)
        ·replace h := ite_f hc31 h
         obtain ⟨v32, hv32, h⟩ := bind_some h
         obtain ⟨v33, hv33, h⟩ := bind_some h
         refine rS { its := [(6, .v (.named 4) hv32), (11, .c (hrf_millwrightref10_Spans v32 a1 a2 a3 v33 hv33))], kn := [(96, .f hc31)] } [8] [] hN (by kernel_rfl) (by kernel_rfl) ?_
         refine tnU ?_
         refine WpC.ret ?_
         refine blockQ_ret ?_
         refine thenQ_ret ?_
         have hq := Option.some.inj h
         subst hq
         exact eR (by kernel_rfl) (by kernel_rfl)
       ·replace h := ite_f hc30 h
        refine WpC.seq ?_
        refine rS {} [1, 2, 3, 4, 12, 106] [4] hN (by kernel_rfl) (by kernel_rfl) ?_
        refine tnU ?_
        refine tS (b := (a0.f_Kind == 7)) (by kernel_rfl) (fun hc34 => ?_) (fun hc34 => ?_)
        ·replace h := ite_t hc34 h
         refine WpC.seq ?_
         obtain ⟨v35, hv35, h⟩ := bind_some h
         obtain ⟨v36, hv36, h⟩ := bind_some h
         refine rS { its := [(2, .v (.named 4) hv35), (7, .c (hrf_millwrightref10_Spans v35 a1 a2 a3 v36 hv36))] } [8] [] hN (by kernel_rfl) (by kernel_rfl) ?_
         refine tnU ?_
         refine WpC.ret ?_
         refine blockQ_ret ?_
         refine thenQ_ret ?_
         have hq := Option.some.inj h
         subst hq
         exact eR (by kernel_rfl) (by kernel_rfl)
        ·replace h := ite_f hc34 h
         refine WpC.seq ?_
         refine rS {} [1, 2, 3, 116] [] hN (by kernel_rfl) (by kernel_rfl) ?_
         refine tnU ?_
         refine tS (b := (a0.f_Kind == 8)) (by kernel_rfl) (fun hc37 => ?_) (fun hc37 => ?_)
         ·replace h := ite_t hc37 h
          refine WpC.seq ?_
          rcases bool_cases (a2 == a3) with hc38 | hc38
          ·replace h := ite_t hc38 h
           refine rS { kn := [(121, .t hc38)] } [8] [] hN (by kernel_rfl) (by kernel_rfl) ?_
           refine tnU ?_
           refine WpC.ret ?_
           refine blockQ_ret ?_
           refine thenQ_ret ?_
           have hq := Option.some.inj h
           subst hq
           exact eR (by kernel_rfl) (by kernel_rfl)
          ·replace h := ite_f hc38 h
           refine rS { kn := [(121, .f hc38)] } [8] [] hN (by kernel_rfl) (by kernel_rfl) ?_
           refine tnU ?_
           refine WpC.ret ?_
           refine blockQ_ret ?_
           refine thenQ_ret ?_
           have hq := Option.some.inj h
           subst hq
           exact eR (by kernel_rfl) (by kernel_rfl)
         ·replace h := ite_f hc37 h
          refine WpC.conv (cS [.k [1, 2, 3] []] (by kernel_rfl) (by kernel_rfl)) (WpC.skip ?_)
          refine blockQ_normal ?_
          refine tnU ?_
          refine WpC.seq ?_
          rcases bool_cases (a2 == a3) with hc39 | hc39
          ·replace h := ite_t hc39 h
           refine rS { kn := [(128, .t hc39)] } [8] [] hN (by kernel_rfl) (by kernel_rfl) ?_
           refine tnU ?_
           refine WpC.ret ?_
           have hq := Option.some.inj h
           subst hq
           exact eR (by kernel_rfl) (by kernel_rfl)
          ·replace h := ite_f hc39 h
           refine rS { kn := [(128, .f hc39)] } [8] [] hN (by kernel_rfl) (by kernel_rfl) ?_
           refine tnU ?_
           refine WpC.ret ?_
           have hq := Option.some.inj h
           subst hq
           exact eR (by kernel_rfl) (by kernel_rfl)

theorem scc_millwrightref10_Spans.ok (O : Out) (hO : GOkA O) : ∀ k : Nat, (∀ (a0 : List T_millwrightref07_Node) (a1 : List UInt8) (a2 : Int) (a3 : Int) (out : Bool), millwrightref10_row.f k a0 a1 a2 a3 = some out → COk Un O Tryd.prog 38 { ar := [.p (.list (.named 4)) a0, .p .str a1, .p (.int .i64) a2, .p (.int .i64) a3], r := .p .bool out }) ∧ (∀ (a0 : T_millwrightref07_Node) (a1 : List UInt8) (a2 : Int) (a3 : Int) (out : Bool), millwrightref10_many.f k a0 a1 a2 a3 = some out → COk Un O Tryd.prog 39 { ar := [.p (.named 4) a0, .p .str a1, .p (.int .i64) a2, .p (.int .i64) a3], r := .p .bool out }) ∧ (∀ (a0 : T_millwrightref07_Node) (a1 : List UInt8) (a2 : Int) (a3 : Int) (out : Bool), millwrightref10_Spans.f k a0 a1 a2 a3 = some out → COk Un O Tryd.prog 17 { ar := [.p (.named 4) a0, .p .str a1, .p (.int .i64) a2, .p (.int .i64) a3], r := .p .bool out }) := by
 intro k
 induction k with
 | zero => exact ⟨fun a0 a1 a2 a3 out h => (by have h2 : (none : Option Bool) = some out := h; cases h2), fun a0 a1 a2 a3 out h => (by have h2 : (none : Option Bool) = some out := h; cases h2), fun a0 a1 a2 a3 out h => (by have h2 : (none : Option Bool) = some out := h; cases h2)⟩
 | succ k ih => exact ⟨fun a0 a1 a2 a3 out h => millwrightref10_row.bok O hO k _ _ ih.2.2 ih.1 a0 a1 a2 a3 out h, fun a0 a1 a2 a3 out h => millwrightref10_many.bok O hO k _ _ ih.2.2 ih.2.1 a0 a1 a2 a3 out h, fun a0 a1 a2 a3 out h => millwrightref10_Spans.bok O hO k _ _ _ ih.1 ih.2.2 ih.2.1 a0 a1 a2 a3 out h⟩
theorem millwrightref10_Spans.ok (O : Out) (hO : GOkA O) (k : Nat) (a0 : T_millwrightref07_Node) (a1 : List UInt8) (a2 : Int) (a3 : Int) (out : Bool) (h : millwrightref10_Spans.f k a0 a1 a2 a3 = some out) : COk Un O Tryd.prog 17 { ar := [.p (.named 4) a0, .p .str a1, .p (.int .i64) a2, .p (.int .i64) a3], r := .p .bool out } := (scc_millwrightref10_Spans.ok O hO k).2.2 a0 a1 a2 a3 out h

theorem denote_Empty.ok (O : Out) (hO : GOkA O) (k : Nat) (a0 : T_rex_Node) (out : Bool) (h : denote_Empty.f k a0 = some out) : COk Un O Tryd.prog 20 { ar := [.p (.named 3) a0], r := .p .bool out } := by
 refine cok_of_wp Tryd.func20 rfl (k := 5) rfl (Nat.le_of_ble_eq_true rfl) (namesOk_pure rfl rfl rfl rfl) ?_
 intro B hN
 refine WpC.conv (cvK (b := ⟨[(0, .p (.named 3) a0)], []⟩) [0] [] (by kernel_rfl)) ?_
 unfold denote_Empty.f at h
 refine WpC.seq ?_
 refine rS {} [1] [1] hN (by kernel_rfl) (by kernel_rfl) ?_
 refine tnU ?_
 refine WpC.seq ?_
 obtain ⟨v1, hv1, h⟩ := bind_some h
 refine rS { its := [(1, .c (denote_In.ok O hO k (T_rex_Node.mk a0.f_Kind a0.f_Index a0.f_Set a0.f_Kids) ([] : List UInt8) v1 hv1))] } [2] [] hN (by kernel_rfl) (by kernel_rfl) ?_
 refine tnU ?_
 refine WpC.ret ?_
 have hq := Option.some.inj h
 subst hq
 exact eR (by kernel_rfl) (by kernel_rfl)

theorem millwrightlaw10_DenoteEnds.ok (O : Out) (hO : GOkA O) (k : Nat) (a0 : T_rex_Node) (a1 : List UInt8) (a2 : Int) (out : Bool) (h : millwrightlaw10_DenoteEnds.f k a0 a1 a2 = some out) : COk Un O Tryd.prog 4 { ar := [.p (.named 3) a0, .p .str a1, .p I6 a2], r := .p .bool out } := by
 refine cok_of_wp Tryd.func4 rfl (k := 100) rfl (Nat.le_of_ble_eq_true rfl) (namesOk_pure rfl rfl rfl rfl) ?_
 intro B hN
 refine WpC.conv (cvK (b := ⟨[(0, .p (.named 3) a0), (1, .p .str a1), (2, .p I6 a2)], []⟩) [0, 1, 2] [] (by kernel_rfl)) ?_
 unfold millwrightlaw10_DenoteEnds.f at h
 refine WpC.seq ?_
 refine rS {} [1, 2, 3] [3] hN (by kernel_rfl) (by kernel_rfl) ?_
 refine tnU ?_
 refine WpC.seq ?_
 refine WpC.seq ?_
 obtain ⟨v1, hv1, h⟩ := bind_some h
 refine rS { its := [(0, .c (millwrightlaw10_alive.ok O hO k v1 hv1))] } [1, 2, 3, 17] [3] hN (by kernel_rfl) (by kernel_rfl) ?_
 refine tnU ?_
 refine tS (b := (!v1)) (by kernel_rfl) (fun hc2 => ?_) (fun hc2 => ?_)
 ·replace h := ite_t hc2 h
  refine WpC.seq ?_
  refine rS {} [6] [] hN (by kernel_rfl) (by kernel_rfl) ?_
  refine tnU ?_
  refine WpC.ret ?_
  refine thenQ_ret ?_
  have hq := Option.some.inj h
  subst hq
  exact eR (by kernel_rfl) (by kernel_rfl)
 ·replace h := ite_f hc2 h
  refine WpC.conv (cS [.k [1, 2, 3] [3]] (by kernel_rfl) (by kernel_rfl)) (WpC.skip ?_)
  refine tnU ?_
  refine sqJ (fun st' => millwrightlaw10_DenoteEnds.j57 k a0 a1 a2 = some out ∧ st' = ⟨[(1, .p .str a1), (2, .p I6 a2), (3, .loc 3 0)], [(3, .box [.p I6 a0.f_Kind, .p I6 a0.f_Index, .p U6 a0.f_Set, .p (.list (.named 3)) a0.f_Kids])]⟩) ?_ ?_
  ·refine sqJ (fun st' => ∃ v58 : Bool, millwrightlaw10_DenoteEnds.j60 k a0 a1 a2 v58 = some out ∧ st' = ⟨[(1, .p .str a1), (2, .p I6 a2), (3, .loc 3 0), (24, .p .bool v58)], [(3, .box [.p I6 a0.f_Kind, .p I6 a0.f_Index, .p U6 a0.f_Set, .p (.list (.named 3)) a0.f_Kids])]⟩) ?_ ?_
   ·rcases bool_cases (decide ((a1.length : Int) > 8)) with hc61 | hc61
    ·replace h := ite_t hc61 h
     refine rS { kn := [(21, .t hc61)] } [1, 2, 3, 24] [3] hN (by kernel_rfl) (by kernel_rfl) ?_
     refine tnU ?_
     exact ⟨true, h, by kernel_rfl⟩
    ·replace h := ite_f hc61 h
     obtain ⟨v62, hv62, h⟩ := bind_some h
     refine rS { its := [(5, .c (millwrightlaw08_Great.ok O hO k (T_rex_Node.mk a0.f_Kind a0.f_Index a0.f_Set a0.f_Kids) 14 v62 hv62))], kn := [(21, .f hc61)] } [1, 2, 3, 24] [3] hN (by kernel_rfl) (by kernel_rfl) ?_
     refine tnU ?_
     exact ⟨v62, h, by kernel_rfl⟩
   ·rintro _ ⟨v58, h, rfl⟩
    unfold millwrightlaw10_DenoteEnds.j60 at h
    refine tS (b := v58) (by kernel_rfl) (fun hc59 => ?_) (fun hc59 => ?_)
    ·replace h := ite_t hc59 h
     refine WpC.seq ?_
     refine rS {} [6] [] hN (by kernel_rfl) (by kernel_rfl) ?_
     refine tnU ?_
     refine WpC.ret ?_
     refine thenQ_ret ?_
     have hq := Option.some.inj h
     subst hq
     exact eR (by kernel_rfl) (by kernel_rfl)
    ·replace h := ite_f hc59 h
     refine WpC.conv (cS [.k [1, 2, 3] [3]] (by kernel_rfl) (by kernel_rfl)) (WpC.skip ?_)
     refine tnU ?_
     exact ⟨h, by kernel_rfl⟩
  ·rintro _ ⟨h, rfl⟩
   unfold millwrightlaw10_DenoteEnds.j57 at h
   refine WpC.seq ?_
   obtain ⟨v3, hv3, h⟩ := bind_some h
   refine rS { its := [(1, .c (millwrightlaw07_Of.ok O hO k (T_rex_Node.mk a0.f_Kind a0.f_Index a0.f_Set a0.f_Kids) v3 hv3))], th := [(2, [(3, 10001, 38, .named 4)])] } [1, 2, 3, 7] [3, 7] hN (by kernel_rfl) (by kernel_rfl) ?_
   refine tnU ?_
   refine WpC.seq ?_
   refine rSC {} [1, 2, 3, 7, 8] [3, 7, 27] hN (by kernel_rfl) (by kernel_rfl) (cS [.k [1, 2, 3, 7, 8] [3, 7, 27], .x (Conv.cast (U := Un) (st := ⟨[(1, .p .str a1), (2, .p I6 a2), (3, .loc 3 0), (7, .loc 7 0), (8, .vec 27 1 0 (([] : List Int).length))], [(3, .box [.p I6 a0.f_Kind, .p I6 a0.f_Index, .p U6 a0.f_Set, .p (.list (.named 3)) a0.f_Kids]), (7, .box [.p I6 v3.f_Kind, .p I6 v3.f_Index, .p U6 v3.f_Set, .p (.list (.named 4)) v3.f_Kids]), (27, .row 3 I6 ([] : List Int) true)]⟩) (st' := ⟨[(1, .p .str a1), (2, .p I6 a2), (3, .loc 3 0), (7, .loc 7 0), (8, .vec 27 1 0 0)], [(3, .box [.p I6 a0.f_Kind, .p I6 a0.f_Index, .p U6 a0.f_Set, .p (.list (.named 3)) a0.f_Kids]), (7, .box [.p I6 v3.f_Kind, .p I6 v3.f_Index, .p U6 v3.f_Set, .p (.list (.named 4)) v3.f_Kids]), (27, .row 3 I6 ([] : List Int) true)]⟩) (by simp only [upd_length, List.length_nil, List.length_replicate]))] (by kernel_rfl) (by kernel_rfl)) ?_
   refine tnU ?_
   refine WpC.seq ?_
   obtain ⟨v4, hv4, h⟩ := bind_some h
   refine rS { its := [(1, .c (millwrightref08_Right.ok O hO k (T_millwrightref07_Node.mk v3.f_Kind v3.f_Index v3.f_Set v3.f_Kids) v4 hv4))] } [1, 2, 3, 7, 8, 9] [3, 7, 27] hN (by kernel_rfl) (by kernel_rfl) ?_
   refine tnU ?_
   refine sqJ (fun st' => ∃ v5 : List Int, millwrightlaw10_DenoteEnds.j38 k a0 a1 a2 v3 v4 v5 = some out ∧ st' = ⟨[(1, .p .str a1), (2, .p I6 a2), (3, .loc 3 0), (7, .loc 7 0), (8, .vec 1008 1 0 v5.length), (9, .p .bool v4)], [(3, .box [.p I6 a0.f_Kind, .p I6 a0.f_Index, .p U6 a0.f_Set, .p (.list (.named 3)) a0.f_Kids]), (7, .box [.p I6 v3.f_Kind, .p I6 v3.f_Index, .p U6 v3.f_Set, .p (.list (.named 4)) v3.f_Kids]), (1008, .row 3 I6 v5 false)]⟩) ?_ ?_
   ·refine sqJ (fun st' => ∃ v39 : Bool, millwrightlaw10_DenoteEnds.j54 k a0 a1 a2 v3 v4 v39 = some out ∧ st' = ⟨[(1, .p .str a1), (2, .p I6 a2), (3, .loc 3 0), (7, .loc 7 0), (8, .vec 27 1 0 0), (9, .p .bool v4), (40, .p .bool v39)], [(3, .box [.p I6 a0.f_Kind, .p I6 a0.f_Index, .p U6 a0.f_Set, .p (.list (.named 3)) a0.f_Kids]), (7, .box [.p I6 v3.f_Kind, .p I6 v3.f_Index, .p U6 v3.f_Set, .p (.list (.named 4)) v3.f_Kids]), (27, .row 3 I6 ([] : List Int) true)]⟩) ?_ ?_
    ·rcases bool_cases v4 with hc55 | hc55
     ·replace h := ite_t hc55 h
      rcases bool_cases (decide (a2 ≥ 0)) with hc56 | hc56
      ·replace h := ite_t hc56 h
       refine rS { kn := [(31, .t hc55), (35, .t hc56)] } [1, 2, 3, 7, 8, 9, 40] [3, 7, 27] hN (by kernel_rfl) (by kernel_rfl) ?_
       refine tnU ?_
       exact ⟨(decide (a2 ≤ (a1.length : Int))), h, by kernel_rfl⟩
      ·replace h := ite_f hc56 h
       refine rS { kn := [(31, .t hc55), (35, .f hc56)] } [1, 2, 3, 7, 8, 9, 40] [3, 7, 27] hN (by kernel_rfl) (by kernel_rfl) ?_
       refine tnU ?_
       exact ⟨false, h, by kernel_rfl⟩
     ·replace h := ite_f hc55 h
      refine rS { kn := [(31, .f hc55)] } [1, 2, 3, 7, 8, 9, 40] [3, 7, 27] hN (by kernel_rfl) (by kernel_rfl) ?_
      refine tnU ?_
      exact ⟨false, h, by kernel_rfl⟩
    ·rintro _ ⟨v39, h, rfl⟩
     unfold millwrightlaw10_DenoteEnds.j54 at h
     refine tS (b := v39) (by kernel_rfl) (fun hc40 => ?_) (fun hc40 => ?_)
     ·replace h := ite_t hc40 h
      refine WpC.seq ?_
      refine rS {} [1, 2, 3, 7, 8, 9, 10] [3, 7, 27] hN (by kernel_rfl) (by kernel_rfl) ?_
      refine tnU ?_
      refine WpC.block ?_
      obtain ⟨o45, hlo45, h⟩ := bind_some h
      have hout46 := h
      clear h
      refine WpC.conv (cS [.lo 27, .k [1, 2, 3, 7, 8, 9, 10] [3, 7, 27], .rn 27 1008, .k [1, 2, 3, 7, 8, 9, 10] [3, 7, 1008]] (by kernel_rfl) (by kernel_rfl)) ?_
      refine WpC.loop (U := Un) (fun n st' => ∃ v41 : List Int, ∃ v42 : Int, millwrightlaw10_DenoteEnds.l43 k a0 a1 a2 v3 v4 n v41 v42 = some o45 ∧ st' = ⟨[(1, .p .str a1), (2, .p I6 a2), (3, .loc 3 0), (7, .loc 7 0), (8, .vec 1008 1 0 v41.length), (9, .p .bool v4), (10, .p I6 v42)], [(3, .box [.p I6 a0.f_Kind, .p I6 a0.f_Index, .p U6 a0.f_Set, .p (.list (.named 3)) a0.f_Kids]), (7, .box [.p I6 v3.f_Kind, .p I6 v3.f_Index, .p U6 v3.f_Set, .p (.list (.named 4)) v3.f_Kids]), (1008, .row 3 I6 v41 false)]⟩) k ⟨([] : List Int), a2, hlo45, by kernel_rfl⟩ ?_
      clear hlo45
      rintro (_ | n) _ ⟨v41, v42, h, rfl⟩
      ·cases h
      ·rw [millwrightlaw10_DenoteEnds.l43] at h
       refine WpC.seq ?_
       refine WpC.seq ?_
       refine rS {} [1, 2, 3, 7, 8, 9, 10, 45] [3, 7, 1008] hN (by kernel_rfl) (by kernel_rfl) ?_
       refine tnU ?_
       refine tS (b := (decide (v42 ≤ (a1.length : Int)))) (by kernel_rfl) (fun hc47 => ?_) (fun hc47 => ?_)
       ·replace h := ite_t hc47 h
        refine WpC.conv (cS [.k [1, 2, 3, 7, 8, 9, 10] [3, 7, 1008]] (by kernel_rfl) (by kernel_rfl)) (WpC.skip ?_)
        refine tnU ?_
        refine sqJ (fun st' => ∃ v48 : List Int, millwrightlaw10_DenoteEnds.j49 k (millwrightlaw10_DenoteEnds.l43 k a0 a1 a2 v3 v4 n) a0 a1 a2 v3 v4 v42 v48 = some o45 ∧ st' = ⟨[(1, .p .str a1), (2, .p I6 a2), (3, .loc 3 0), (7, .loc 7 0), (8, .vec 1008 1 0 v48.length), (9, .p .bool v4), (10, .p I6 v42)], [(3, .box [.p I6 a0.f_Kind, .p I6 a0.f_Index, .p U6 a0.f_Set, .p (.list (.named 3)) a0.f_Kids]), (7, .box [.p I6 v3.f_Kind, .p I6 v3.f_Index, .p U6 v3.f_Set, .p (.list (.named 4)) v3.f_Kids]), (1008, .row 3 I6 v48 false)]⟩) ?_ ?_
        ·refine WpC.block ?_
         refine WpC.seq ?_
         obtain ⟨v50, hv50, h⟩ := bind_some h
         refine rS { its := [(4, .c (millwrightref10_Spans.ok O hO k (T_millwrightref07_Node.mk v3.f_Kind v3.f_Index v3.f_Set v3.f_Kids) a1 a2 v42 v50 hv50))] } [1, 2, 3, 7, 8, 9, 10, 52] [3, 7, 1008] hN (by kernel_rfl) (by kernel_rfl) ?_
         refine tnU ?_
         refine tS (b := v50) (by kernel_rfl) (fun hc51 => ?_) (fun hc51 => ?_)
         ·replace h := ite_t hc51 h
          obtain ⟨g52, h⟩ := if_some h
          refine rSC { its := [(3, .g g52)] } [1, 2, 3, 7, 8, 9, 10] [3, 7, 56] hN (by kernel_rfl) (by kernel_rfl) (cS [.rn 56 1008, .k [1, 2, 3, 7, 8, 9, 10] [3, 7, 1008]] (by kernel_rfl) (by kernel_rfl)) ?_
          refine blockQ_normal ?_
          refine tnU ?_
          exact ⟨(v41 ++ [v42]), h, by kernel_rfl⟩
         ·replace h := ite_f hc51 h
          refine WpC.conv (cS [.k [1, 2, 3, 7, 8, 9, 10] [3, 7, 1008]] (by kernel_rfl) (by kernel_rfl)) (WpC.skip ?_)
          refine blockQ_normal ?_
          refine tnU ?_
          exact ⟨v41, h, by kernel_rfl⟩
        ·rintro _ ⟨v48, h, rfl⟩
         unfold millwrightlaw10_DenoteEnds.j49 at h
         refine rS {} [1, 2, 3, 7, 8, 9, 10] [3, 7, 1008] hN (by kernel_rfl) (by kernel_rfl) ?_
         refine tnU ?_
         exact ⟨n, Nat.lt_succ_self n, v48, (IntKind.i64.wrap (v42 + 1)), h, by kernel_rfl⟩
       ·replace h := ite_f hc47 h
        refine WpC.conv (cS [.k [1, 2, 3, 7, 8, 9] [3, 7, 1008]] (by kernel_rfl) (by kernel_rfl)) (WpC.exit ?_)
        refine thenQ_exit ?_
        have hq := Option.some.inj h
        subst hq
        refine thenQ_exit ?_
        have h := hout46
        refine blockQ_hit ?_
        refine tnU ?_
        exact ⟨v41, h, by kernel_rfl⟩
     ·replace h := ite_f hc40 h
      refine WpC.conv (cS [.k [1, 2, 3, 7, 8, 9] [3, 7, 27], .lo 27, .k [1, 2, 3, 7, 8, 9] [3, 7, 27], .rn 27 1008, .k [1, 2, 3, 7, 8, 9] [3, 7, 1008]] (by kernel_rfl) (by kernel_rfl)) (WpC.skip ?_)
      refine tnU ?_
      exact ⟨([] : List Int), h, by kernel_rfl⟩
   ·rintro _ ⟨v5, h, rfl⟩
    unfold millwrightlaw10_DenoteEnds.j38 at h
    refine WpC.seq ?_
    obtain ⟨v6, hv6, h⟩ := bind_some h
    refine rS { its := [(3, .c (denote_Ends.ok O hO k (T_rex_Node.mk a0.f_Kind a0.f_Index a0.f_Set a0.f_Kids) a1 a2 v6 hv6))] } [1, 2, 3, 7, 8, 9, 11] [3, 7, 1008] hN (by kernel_rfl) (by kernel_rfl) ?_
    refine tnU ?_
    refine WpC.seq ?_
    refine WpC.seq ?_
    obtain ⟨v7, hv7, h⟩ := bind_some h
    refine rS { its := [(2, .c (millwrightnum_SameInts.ok O hO k v6 v5 v7 hv7))] } [1, 2, 3, 7, 8, 9, 64] [3, 7, 1008] hN (by kernel_rfl) (by kernel_rfl) ?_
    refine tnU ?_
    refine tS (b := (!v7)) (by kernel_rfl) (fun hc8 => ?_) (fun hc8 => ?_)
    ·replace h := ite_t hc8 h
     refine WpC.seq ?_
     refine rS {} [6] [] hN (by kernel_rfl) (by kernel_rfl) ?_
     refine tnU ?_
     refine WpC.ret ?_
     refine thenQ_ret ?_
     have hq := Option.some.inj h
     subst hq
     exact eR (by kernel_rfl) (by kernel_rfl)
    ·replace h := ite_f hc8 h
     refine WpC.conv (cS [.k [1, 2, 3, 7, 8, 9] [3, 7, 1008]] (by kernel_rfl) (by kernel_rfl)) (WpC.skip ?_)
     refine tnU ?_
     refine sqJ (fun st' => millwrightlaw10_DenoteEnds.j12 k a0 v3 v4 = some out ∧ st' = ⟨[(3, .loc 3 0), (7, .loc 7 0), (9, .p .bool v4)], [(3, .box [.p I6 a0.f_Kind, .p I6 a0.f_Index, .p U6 a0.f_Set, .p (.list (.named 3)) a0.f_Kids]), (7, .box [.p I6 v3.f_Kind, .p I6 v3.f_Index, .p U6 v3.f_Set, .p (.list (.named 4)) v3.f_Kids])]⟩) ?_ ?_
     ·refine WpC.seq ?_
      refine rS {} [1, 2, 3, 7, 8, 9, 12] [3, 7, 1008] hN (by kernel_rfl) (by kernel_rfl) ?_
      refine tnU ?_
      refine WpC.block ?_
      obtain ⟨o15, hlo15, h⟩ := bind_some h
      have hout16 := h
      clear h
      refine WpC.loop (U := Un) (fun n st' => ∃ v13 : Int, millwrightlaw10_DenoteEnds.l14 k a0 a1 a2 v3 v4 v5 n v13 = some o15 ∧ st' = ⟨[(1, .p .str a1), (2, .p I6 a2), (3, .loc 3 0), (7, .loc 7 0), (8, .vec 1008 1 0 v5.length), (9, .p .bool v4), (12, .p I6 v13)], [(3, .box [.p I6 a0.f_Kind, .p I6 a0.f_Index, .p U6 a0.f_Set, .p (.list (.named 3)) a0.f_Kids]), (7, .box [.p I6 v3.f_Kind, .p I6 v3.f_Index, .p U6 v3.f_Set, .p (.list (.named 4)) v3.f_Kids]), (1008, .row 3 I6 v5 false)]⟩) k ⟨(-1), hlo15, by kernel_rfl⟩ ?_
      clear hlo15
      rintro (_ | n) _ ⟨v13, h, rfl⟩
      ·cases h
      ·rw [millwrightlaw10_DenoteEnds.l14] at h
       refine WpC.seq ?_
       refine WpC.seq ?_
       refine rS {} [1, 2, 3, 7, 8, 9, 12, 69] [3, 7, 1008] hN (by kernel_rfl) (by kernel_rfl) ?_
       refine tnU ?_
       refine tS (b := (decide (v13 < (IntKind.i64.wrap ((a1.length : Int) + 2))))) (by kernel_rfl) (fun hc17 => ?_) (fun hc17 => ?_)
       ·replace h := ite_t hc17 h
        refine WpC.conv (cS [.k [1, 2, 3, 7, 8, 9, 12] [3, 7, 1008]] (by kernel_rfl) (by kernel_rfl)) (WpC.skip ?_)
        refine tnU ?_
        refine sqJ (fun st' => millwrightlaw10_DenoteEnds.j18 k (millwrightlaw10_DenoteEnds.l14 k a0 a1 a2 v3 v4 v5 n) a0 a1 a2 v3 v4 v5 v13 = some o15 ∧ st' = ⟨[(1, .p .str a1), (2, .p I6 a2), (3, .loc 3 0), (7, .loc 7 0), (8, .vec 1008 1 0 v5.length), (9, .p .bool v4), (12, .p I6 v13)], [(3, .box [.p I6 a0.f_Kind, .p I6 a0.f_Index, .p U6 a0.f_Set, .p (.list (.named 3)) a0.f_Kids]), (7, .box [.p I6 v3.f_Kind, .p I6 v3.f_Index, .p U6 v3.f_Set, .p (.list (.named 4)) v3.f_Kids]), (1008, .row 3 I6 v5 false)]⟩) ?_ ?_
        ·refine WpC.block ?_
         refine WpC.seq ?_
         refine rS {} [1, 2, 3, 7, 8, 9, 12, 13] [3, 7, 1008] hN (by kernel_rfl) (by kernel_rfl) ?_
         refine tnU ?_
         refine sqJ (fun st' => ∃ v19 : Bool, millwrightlaw10_DenoteEnds.j22 k (millwrightlaw10_DenoteEnds.l14 k a0 a1 a2 v3 v4 v5 n) a0 a1 a2 v3 v4 v5 v13 v19 = some o15 ∧ st' = ⟨[(1, .p .str a1), (2, .p I6 a2), (3, .loc 3 0), (7, .loc 7 0), (8, .vec 1008 1 0 v5.length), (9, .p .bool v4), (12, .p I6 v13), (13, .p .bool v19)], [(3, .box [.p I6 a0.f_Kind, .p I6 a0.f_Index, .p U6 a0.f_Set, .p (.list (.named 3)) a0.f_Kids]), (7, .box [.p I6 v3.f_Kind, .p I6 v3.f_Index, .p U6 v3.f_Set, .p (.list (.named 4)) v3.f_Kids]), (1008, .row 3 I6 v5 false)]⟩) ?_ ?_
         ·refine WpC.seq ?_
          refine rS {} [1, 2, 3, 7, 8, 9, 12, 13, 72, 73, 74] [3, 7, 1008] hN (by kernel_rfl) (by kernel_rfl) ?_
          refine tnU ?_
          refine WpC.block ?_
          obtain ⟨o27, hlo27, h⟩ := bind_some h
          have hout28 := h
          clear h
          refine WpC.loop (U := Un) (fun n st' => ∃ v23 : Bool, ∃ v24 : Int, millwrightlaw10_DenoteEnds.l25 k a0 a1 a2 v3 v4 v5 v13 n v23 v24 = some o27 ∧ st' = ⟨[(1, .p .str a1), (2, .p I6 a2), (3, .loc 3 0), (7, .loc 7 0), (8, .vec 1008 1 0 v5.length), (9, .p .bool v4), (12, .p I6 v13), (13, .p .bool v23), (72, .vec 1008 1 0 v5.length), (73, .p I6 ((v5.length : Int) : Int)), (74, .p I6 v24)], [(3, .box [.p I6 a0.f_Kind, .p I6 a0.f_Index, .p U6 a0.f_Set, .p (.list (.named 3)) a0.f_Kids]), (7, .box [.p I6 v3.f_Kind, .p I6 v3.f_Index, .p U6 v3.f_Set, .p (.list (.named 4)) v3.f_Kids]), (1008, .row 3 I6 v5 false)]⟩) k ⟨false, 0, hlo27, by kernel_rfl⟩ ?_
          clear hlo27
          rintro (_ | n) _ ⟨v23, v24, h, rfl⟩
          ·cases h
          ·rw [millwrightlaw10_DenoteEnds.l25] at h
           refine WpC.seq ?_
           refine rS {} [1, 2, 3, 7, 8, 9, 12, 13, 72, 73, 74, 75] [3, 7, 1008] hN (by kernel_rfl) (by kernel_rfl) ?_
           refine tnU ?_
           refine WpC.seq ?_
           refine tS (b := (decide (v24 < (v5.length : Int)))) (by kernel_rfl) (fun hc29 => ?_) (fun hc29 => ?_)
           ·replace h := ite_t hc29 h
            refine WpC.conv (cS [.k [1, 2, 3, 7, 8, 9, 12, 13, 72, 73, 74] [3, 7, 1008]] (by kernel_rfl) (by kernel_rfl)) (WpC.skip ?_)
            refine tnU ?_
            refine sqJ (fun st' => ∃ v30 : Bool, millwrightlaw10_DenoteEnds.j31 k (millwrightlaw10_DenoteEnds.l25 k a0 a1 a2 v3 v4 v5 v13 n) a0 a1 a2 v3 v4 v5 v13 v24 v30 = some o27 ∧ st' = ⟨[(1, .p .str a1), (2, .p I6 a2), (3, .loc 3 0), (7, .loc 7 0), (8, .vec 1008 1 0 v5.length), (9, .p .bool v4), (12, .p I6 v13), (13, .p .bool v30), (72, .vec 1008 1 0 v5.length), (73, .p I6 ((v5.length : Int) : Int)), (74, .p I6 v24)], [(3, .box [.p I6 a0.f_Kind, .p I6 a0.f_Index, .p U6 a0.f_Set, .p (.list (.named 3)) a0.f_Kids]), (7, .box [.p I6 v3.f_Kind, .p I6 v3.f_Index, .p U6 v3.f_Set, .p (.list (.named 4)) v3.f_Kids]), (1008, .row 3 I6 v5 false)]⟩) ?_ ?_
            ·refine WpC.block ?_
             refine WpC.seq ?_
             obtain ⟨g32, h⟩ := if_some h
             obtain ⟨v33, hv33, h⟩ := bind_some h
             refine rS { its := [(0, .g g32), (1, .v I6 hv33)] } [1, 2, 3, 7, 8, 9, 12, 13, 15, 72, 73, 74] [3, 7, 1008] hN (by kernel_rfl) (by kernel_rfl) ?_
             refine tnU ?_
             rcases bool_cases v23 with hc34 | hc34
             ·replace h := ite_t hc34 h
              refine rS { kn := [(79, .t hc34)] } [1, 2, 3, 7, 8, 9, 12, 13, 72, 73, 74] [3, 7, 1008] hN (by kernel_rfl) (by kernel_rfl) ?_
              refine blockQ_normal ?_
              refine tnU ?_
              exact ⟨true, h, by kernel_rfl⟩
             ·replace h := ite_f hc34 h
              refine rS { kn := [(79, .f hc34)] } [1, 2, 3, 7, 8, 9, 12, 13, 72, 73, 74] [3, 7, 1008] hN (by kernel_rfl) (by kernel_rfl) ?_
              refine blockQ_normal ?_
              refine tnU ?_
              exact ⟨(v33 == v13), h, by kernel_rfl⟩
            ·rintro _ ⟨v30, h, rfl⟩
             unfold millwrightlaw10_DenoteEnds.j31 at h
             refine rS {} [1, 2, 3, 7, 8, 9, 12, 13, 72, 73, 74] [3, 7, 1008] hN (by kernel_rfl) (by kernel_rfl) ?_
             refine tnU ?_
             exact ⟨n, Nat.lt_succ_self n, v30, (IntKind.i64.wrap (v24 + 1)), h, by kernel_rfl⟩
           ·replace h := ite_f hc29 h
            refine WpC.conv (cS [.k [1, 2, 3, 7, 8, 9, 12, 13] [3, 7, 1008]] (by kernel_rfl) (by kernel_rfl)) (WpC.exit ?_)
            refine thenQ_exit ?_
            have hq := Option.some.inj h
            subst hq
            refine thenQ_exit ?_
            have h := hout28
            refine blockQ_hit ?_
            refine tnU ?_
            exact ⟨v23, h, by kernel_rfl⟩
         ·rintro _ ⟨v19, h, rfl⟩
          unfold millwrightlaw10_DenoteEnds.j22 at h
          refine WpC.seq ?_
          obtain ⟨v20, hv20, h⟩ := bind_some h
          refine rS { its := [(4, .c (denote_Spans.ok O hO k (T_rex_Node.mk a0.f_Kind a0.f_Index a0.f_Set a0.f_Kids) a1 a2 v13 v20 hv20))] } [1, 2, 3, 7, 8, 9, 12, 91] [3, 7, 1008] hN (by kernel_rfl) (by kernel_rfl) ?_
          refine tnU ?_
          refine tS (b := (!(v20 == v19))) (by kernel_rfl) (fun hc21 => ?_) (fun hc21 => ?_)
          ·replace h := ite_t hc21 h
           refine WpC.seq ?_
           refine rS {} [6] [] hN (by kernel_rfl) (by kernel_rfl) ?_
           refine tnU ?_
           refine WpC.ret ?_
           refine blockQ_ret ?_
           refine thenQ_ret ?_
           have hq := Option.some.inj h
           subst hq
           refine thenQ_ret ?_
           have h := hout16
           refine blockQ_ret ?_
           refine thenQ_ret ?_
           have hq := Option.some.inj h
           subst hq
           exact eR (by kernel_rfl) (by kernel_rfl)
          ·replace h := ite_f hc21 h
           refine WpC.conv (cS [.k [1, 2, 3, 7, 8, 9, 12] [3, 7, 1008]] (by kernel_rfl) (by kernel_rfl)) (WpC.skip ?_)
           refine blockQ_normal ?_
           refine tnU ?_
           exact ⟨h, by kernel_rfl⟩
        ·rintro _ ⟨h, rfl⟩
         unfold millwrightlaw10_DenoteEnds.j18 at h
         refine rS {} [1, 2, 3, 7, 8, 9, 12] [3, 7, 1008] hN (by kernel_rfl) (by kernel_rfl) ?_
         refine tnU ?_
         exact ⟨n, Nat.lt_succ_self n, (IntKind.i64.wrap (v13 + 1)), h, by kernel_rfl⟩
       ·replace h := ite_f hc17 h
        refine WpC.conv (cS [.k [3, 7, 9] [3, 7]] (by kernel_rfl) (by kernel_rfl)) (WpC.exit ?_)
        refine thenQ_exit ?_
        have hq := Option.some.inj h
        subst hq
        refine thenQ_exit ?_
        have h := hout16
        refine blockQ_hit ?_
        refine tnU ?_
        exact ⟨h, by kernel_rfl⟩
     ·rintro _ ⟨h, rfl⟩
      unfold millwrightlaw10_DenoteEnds.j12 at h
      refine WpC.seq ?_
      obtain ⟨v9, hv9, h⟩ := bind_some h
      rcases bool_cases v4 with hc10 | hc10
      ·replace h := ite_t hc10 h
       obtain ⟨v11, hv11, h⟩ := bind_some h
       refine rS { its := [(1, .c (denote_Empty.ok O hO k (T_rex_Node.mk a0.f_Kind a0.f_Index a0.f_Set a0.f_Kids) v9 hv9)), (5, .c (millwrightref10_Spans.ok O hO k (T_millwrightref07_Node.mk v3.f_Kind v3.f_Index v3.f_Set v3.f_Kids) ([] : List UInt8) 0 0 v11 hv11))], kn := [(95, .t hc10)] } [6] [] hN (by kernel_rfl) (by kernel_rfl) ?_
       refine tnU ?_
       refine WpC.ret ?_
       have hq := Option.some.inj h
       subst hq
       exact eR (by kernel_rfl) (by kernel_rfl)
      ·replace h := ite_f hc10 h
       refine rS { its := [(1, .c (denote_Empty.ok O hO k (T_rex_Node.mk a0.f_Kind a0.f_Index a0.f_Set a0.f_Kids) v9 hv9))], kn := [(95, .f hc10)] } [6] [] hN (by kernel_rfl) (by kernel_rfl) ?_
       refine tnU ?_
       refine WpC.ret ?_
       have hq := Option.some.inj h
       subst hq
       exact eR (by kernel_rfl) (by kernel_rfl)

end Go.Proofs.YteddmdkbeednmaaDoor
