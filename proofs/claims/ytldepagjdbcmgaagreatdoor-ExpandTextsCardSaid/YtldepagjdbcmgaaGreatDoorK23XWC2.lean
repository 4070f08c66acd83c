/- A part of the proof of a given law: XWC2. Own work, printed in part by a program of mine. -/
import Derived.Test.YtldepagjdbcmgaaGreatDoorK23XWC1
namespace Go.Proofs.YtldepagjdbcmgaaGreatDoor
open Go Go.AM
set_option linter.unusedVariables false
set_option linter.unusedSimpArgs false
set_option maxRecDepth 100000
set_option maxHeartbeats 4000000
theorem subst_Word.ok (O : Out) (hO : GOk O) (k : Nat) (a0 : List UInt8) (a1 : List UInt8) (a2 : List UInt8) (out : List UInt8) (h : subst_Word.f k a0 a1 a2 = some out) : COk Un O Tryz.prog 129 { ar := [.p .str a0, .p .str a1, .p .str a2], r := .p .str out } := by
  refine cok_of_wp Tryz.func129 rfl (k := 21) rfl (Nat.le_of_ble_eq_true rfl) (namesOk_pure rfl rfl rfl rfl) ?_
  intro B hN
  refine WpC.conv (cvK (b := ⟨[(0, .p .str a0), (1, .p .str a1), (2, .p .str a2)], []⟩) [0, 1, 2] [] (by kernel_rfl)) ?_
  unfold subst_Word.f at h
  refine WpC.seq ?_
  refine rS {} [0, 1, 2] [] hN (by kernel_rfl) (by kernel_rfl) ?_
  refine tnU ?_
  refine WpC.seq ?_
  obtain ⟨v1, hv1, h⟩ := bind_some h
  refine rS { its := [(2, .c (stem_Match.ok O hO k a1 a0 v1 hv1))] } [0, 2, 7, 8] [] hN (by kernel_rfl) (by kernel_rfl) ?_
  refine tnU ?_
  refine WpC.seq ?_
  refine WpC.seq ?_
  refine rS {} [0, 2, 7, 16] [] hN (by kernel_rfl) (by kernel_rfl) ?_
  refine tnU ?_
  refine tS (b := (!v1.2)) (by kernel_rfl) (fun hc2 => ?_) (fun hc2 => ?_)
  · replace h := ite_t hc2 h
    refine WpC.seq ?_
    refine rS {} [6] [] hN (by kernel_rfl) (by kernel_rfl) ?_
    refine tnU ?_
    refine WpC.ret ?_
    refine thenQ_ret ?_
    have hq := Option.some.inj h
    subst hq
    exact eR (by kernel_rfl) (by kernel_rfl)
  · replace h := ite_f hc2 h
    refine WpC.conv (cS [.k [2, 7] []] (by kernel_rfl) (by kernel_rfl)) (WpC.skip ?_)
    refine tnU ?_
    refine WpC.seq ?_
    obtain ⟨v3, hv3, h⟩ := bind_some h
    refine rS { its := [(2, .c (stem_Fill.ok O hO k a2 v1.1 v3 hv3))] } [6] [] hN (by kernel_rfl) (by kernel_rfl) ?_
    refine tnU ?_
    refine WpC.ret ?_
    have hq := Option.some.inj h
    subst hq
    exact eR (by kernel_rfl) (by kernel_rfl)

theorem subst_List_1.ok (O : Out) (hO : GOk O) (k : Nat) (a0 : List UInt8) (out : Bool) (h : subst_List_1.f k a0 = some out) : COk Un O Tryz.prog 130 { ar := [.p .str a0], r := .p .bool out } := by
  refine cok_of_wp Tryz.func130 rfl (k := 6) rfl (Nat.le_of_ble_eq_true rfl) (namesOk_pure rfl rfl rfl rfl) ?_
  intro B hN
  refine WpC.conv (cvK (b := ⟨[(0, .p .str a0)], []⟩) [0] [] (by kernel_rfl)) ?_
  unfold subst_List_1.f at h
  refine WpC.seq ?_
  refine rS {} [0] [] hN (by kernel_rfl) (by kernel_rfl) ?_
  refine tnU ?_
  refine WpC.seq ?_
  refine rS {} [2] [] hN (by kernel_rfl) (by kernel_rfl) ?_
  refine tnU ?_
  refine WpC.ret ?_
  have hq := Option.some.inj h
  subst hq
  exact eR (by kernel_rfl) (by kernel_rfl)

theorem slices_IndexFunc_string_string_m1.ok (O : Out) (hO : GOk O) (k : Nat) (a0 : List (List UInt8)) (out : Int) (h : slices_IndexFunc_string_string_m1.f k a0 = some out) : COk Un O Tryz.prog 96 { ar := [.p (.list .str) a0, .clo 130 []], r := .p I6 out } := by
  refine cok_of_wp Tryz.func96 rfl (k := 19) rfl (Nat.le_of_ble_eq_true rfl) (namesOk_pure rfl rfl rfl rfl) ?_
  intro B hN
  refine WpC.conv (cvK (b := ⟨[(0, .p (.list .str) a0), (1, .clo 130 [])], []⟩) [0, 1] [] (by kernel_rfl)) ?_
  unfold slices_IndexFunc_string_string_m1.f at h
  refine WpC.seq ?_
  refine rS {} [0, 1] [] hN (by kernel_rfl) (by kernel_rfl) ?_
  refine tnU ?_
  refine sqJ (fun st' => slices_IndexFunc_string_string_m1.j1 k = some out ∧ st' = ⟨[], []⟩) ?_ ?_
  · refine WpC.seq ?_
    refine rS {} [0, 1, 7, 8] [] hN (by kernel_rfl) (by kernel_rfl) ?_
    refine tnU ?_
    refine WpC.block ?_
    obtain ⟨o4, hlo4, h⟩ := bind_some h
    have hout5 := h
    clear h
    refine WpC.loop (U := Un) (fun n st' => ∃ v2 : Int, slices_IndexFunc_string_string_m1.l3 k a0 n v2 = some o4 ∧ st' = ⟨[(0, .p (.list .str) a0), (1, .clo 130 []), (7, .p I6 ((a0.length : Int) : Int)), (8, .p I6 v2)], []⟩) k ⟨0, hlo4, by kernel_rfl⟩ ?_
    clear hlo4
    rintro (_ | n) _ ⟨v2, h, rfl⟩
    · cases h
    · rw [slices_IndexFunc_string_string_m1.l3] at h
      refine WpC.seq ?_
      refine rS {} [0, 1, 7, 8, 9] [] hN (by kernel_rfl) (by kernel_rfl) ?_
      refine tnU ?_
      refine WpC.seq ?_
      refine tS (b := (decide (v2 < (a0.length : Int)))) (by kernel_rfl) (fun hc6 => ?_) (fun hc6 => ?_)
      · replace h := ite_t hc6 h
        refine WpC.conv (cS [.k [0, 1, 7, 8] []] (by kernel_rfl) (by kernel_rfl)) (WpC.skip ?_)
        refine tnU ?_
        refine WpC.seq ?_
        refine WpC.block ?_
        refine WpC.seq ?_
        refine rS {} [0, 1, 5, 7, 8] [] hN (by kernel_rfl) (by kernel_rfl) ?_
        refine tnU ?_
        refine WpC.seq ?_
        obtain ⟨v7, hv7, h⟩ := bind_some h
        obtain ⟨v8, hv8, h⟩ := bind_some h
        refine rS { its := [(3, .v .str hv7), (5, .c (subst_List_1.ok O hO k v7 v8 hv8))] } [0, 1, 5, 7, 8, 16] [] hN (by kernel_rfl) (by kernel_rfl) ?_
        refine tnU ?_
        refine tS (b := v8) (by kernel_rfl) (fun hc9 => ?_) (fun hc9 => ?_)
        · replace h := ite_t hc9 h
          refine WpC.seq ?_
          refine rS {} [4] [] hN (by kernel_rfl) (by kernel_rfl) ?_
          refine tnU ?_
          refine WpC.ret ?_
          refine blockQ_ret ?_
          refine thenQ_ret ?_
          have hq := Option.some.inj h
          subst hq
          refine thenQ_ret ?_
          have h := hout5
          refine blockQ_ret ?_
          refine thenQ_ret ?_
          have hq := Option.some.inj h
          subst hq
          exact eR (by kernel_rfl) (by kernel_rfl)
        · replace h := ite_f hc9 h
          refine WpC.conv (cS [.k [0, 1, 7, 8] []] (by kernel_rfl) (by kernel_rfl)) (WpC.skip ?_)
          refine blockQ_normal ?_
          refine tnU ?_
          refine rS {} [0, 1, 7, 8] [] hN (by kernel_rfl) (by kernel_rfl) ?_
          refine tnU ?_
          exact ⟨n, Nat.lt_succ_self n, (IntKind.i64.wrap (v2 + 1)), h, by kernel_rfl⟩
      · replace h := ite_f hc6 h
        refine WpC.conv (cS [.k [] []] (by kernel_rfl) (by kernel_rfl)) (WpC.exit ?_)
        refine thenQ_exit ?_
        have hq := Option.some.inj h
        subst hq
        refine thenQ_exit ?_
        have h := hout5
        refine blockQ_hit ?_
        refine tnU ?_
        exact ⟨h, by kernel_rfl⟩
  · rintro _ ⟨h, rfl⟩
    unfold slices_IndexFunc_string_string_m1.j1 at h
    refine WpC.seq ?_
    refine rS {} [4] [] hN (by kernel_rfl) (by kernel_rfl) ?_
    refine tnU ?_
    refine WpC.ret ?_
    have hq := Option.some.inj h
    subst hq
    exact eR (by kernel_rfl) (by kernel_rfl)

theorem slices_ContainsFunc_string_string_m1.ok (O : Out) (hO : GOk O) (k : Nat) (a0 : List (List UInt8)) (out : Bool) (h : slices_ContainsFunc_string_string_m1.f k a0 = some out) : COk Un O Tryz.prog 64 { ar := [.p (.list .str) a0, .clo 130 []], r := .p .bool out } := by
  refine cok_of_wp Tryz.func64 rfl (k := 9) rfl (Nat.le_of_ble_eq_true rfl) (namesOk_pure rfl rfl rfl rfl) ?_
  intro B hN
  refine WpC.conv (cvK (b := ⟨[(0, .p (.list .str) a0), (1, .clo 130 [])], []⟩) [0, 1] [] (by kernel_rfl)) ?_
  unfold slices_ContainsFunc_string_string_m1.f at h
  refine WpC.seq ?_
  refine rS {} [0, 1] [] hN (by kernel_rfl) (by kernel_rfl) ?_
  refine tnU ?_
  refine WpC.seq ?_
  obtain ⟨v1, hv1, h⟩ := bind_some h
  refine rS { its := [(2, .c (slices_IndexFunc_string_string_m1.ok O hO k a0 v1 hv1))] } [4] [] hN (by kernel_rfl) (by kernel_rfl) ?_
  refine tnU ?_
  refine WpC.ret ?_
  have hq := Option.some.inj h
  subst hq
  exact eR (by kernel_rfl) (by kernel_rfl)

theorem subst_List.ok (O : Out) (hO : GOk O) (k : Nat) (a0 : List (List UInt8)) (a1 : List UInt8) (a2 : List UInt8) (out : (List (List UInt8)) × Nat) (h : subst_List.f k a0 a1 a2 = some out) : COk Un O Tryz.prog 98 { ar := [.p (.list .str) a0, .p .str a1, .p .str a2], r := .tup [.p (.list .str) out.1, .p .err out.2] } := by
  refine cok_of_wp Tryz.func98 rfl (k := 31) rfl (Nat.le_of_ble_eq_true rfl) (namesOk_pure rfl rfl rfl rfl) ?_
  intro B hN
  refine WpC.conv (cvK (b := ⟨[(0, .p (.list .str) a0), (1, .p .str a1), (2, .p .str a2)], []⟩) [0, 1, 2] [] (by kernel_rfl)) ?_
  unfold subst_List.f at h
  refine WpC.seq ?_
  refine rS {} [0, 1, 2] [] hN (by kernel_rfl) (by kernel_rfl) ?_
  refine tnU ?_
  refine WpC.seq ?_
  refine rS {} [0, 1, 2, 8] [] hN (by kernel_rfl) (by kernel_rfl) ?_
  refine tnU ?_
  refine sqJ (fun st' => ∃ v1 : List (List UInt8), subst_List.j4 k v1 = some out ∧ st' = ⟨[(8, .vec 1008 1 0 v1.length)], [(1008, .row 9 .str v1 false)]⟩) ?_ ?_
  · refine WpC.seq ?_
    refine rS {} [1, 2, 8, 12, 13, 14] [] hN (by kernel_rfl) (by kernel_rfl) ?_
    refine tnU ?_
    refine WpC.block ?_
    obtain ⟨o9, hlo9, h⟩ := bind_some h
    have hout10 := h
    clear h
    refine WpC.conv (cS [.th 8 1008 9 .str, .k [1, 2, 8, 12, 13, 14] [1008]] (by kernel_rfl) (by kernel_rfl)) ?_
    refine WpC.loop (U := Un) (fun n st' => ∃ v5 : List (List UInt8), ∃ v6 : Int, subst_List.l7 k a0 a1 a2 n v5 v6 = some o9 ∧ st' = ⟨[(1, .p .str a1), (2, .p .str a2), (8, .vec 1008 1 0 v5.length), (12, .p (.list .str) a0), (13, .p I6 ((a0.length : Int) : Int)), (14, .p I6 v6)], [(1008, .row 9 .str v5 false)]⟩) k ⟨[], 0, hlo9, by kernel_rfl⟩ ?_
    clear hlo9
    rintro (_ | n) _ ⟨v5, v6, h, rfl⟩
    · cases h
    · rw [subst_List.l7] at h
      refine WpC.seq ?_
      refine rS {} [1, 2, 8, 12, 13, 14, 15] [1008] hN (by kernel_rfl) (by kernel_rfl) ?_
      refine tnU ?_
      refine WpC.seq ?_
      refine tS (b := (decide (v6 < (a0.length : Int)))) (by kernel_rfl) (fun hc11 => ?_) (fun hc11 => ?_)
      · replace h := ite_t hc11 h
        refine WpC.conv (cS [.k [1, 2, 8, 12, 13, 14] [1008]] (by kernel_rfl) (by kernel_rfl)) (WpC.skip ?_)
        refine tnU ?_
        refine WpC.seq ?_
        refine WpC.block ?_
        refine WpC.seq ?_
        obtain ⟨v12, hv12, h⟩ := bind_some h
        refine rS { its := [(0, .v .str hv12)] } [1, 2, 8, 10, 12, 13, 14] [1008] hN (by kernel_rfl) (by kernel_rfl) ?_
        refine tnU ?_
        obtain ⟨v13, hv13, h⟩ := bind_some h
        obtain ⟨g14, h⟩ := if_some h
        refine rS { its := [(4, .c (subst_Word.ok O hO k v12 a1 a2 v13 hv13)), (6, .g g14)] } [1, 2, 8, 12, 13, 14] [24] hN (by kernel_rfl) (by kernel_rfl) ?_
        refine blockQ_normal ?_
        refine tnU ?_
        refine rSC {} [1, 2, 8, 12, 13, 14] [24] hN (by kernel_rfl) (by kernel_rfl) (cS [.rn 24 1008, .k [1, 2, 8, 12, 13, 14] [1008]] (by kernel_rfl) (by kernel_rfl)) ?_
        refine tnU ?_
        exact ⟨n, Nat.lt_succ_self n, (v5 ++ [v13]), (IntKind.i64.wrap (v6 + 1)), h, by kernel_rfl⟩
      · replace h := ite_f hc11 h
        refine WpC.conv (cS [.k [8] [1008]] (by kernel_rfl) (by kernel_rfl)) (WpC.exit ?_)
        refine thenQ_exit ?_
        have hq := Option.some.inj h
        subst hq
        refine thenQ_exit ?_
        have h := hout10
        refine blockQ_hit ?_
        refine tnU ?_
        exact ⟨v5, h, by kernel_rfl⟩
  · rintro _ ⟨v1, h, rfl⟩
    unfold subst_List.j4 at h
    refine WpC.seq ?_
    refine rS {} [8, 11] [1008] hN (by kernel_rfl) (by kernel_rfl) ?_
    refine tnU ?_
    refine WpC.seq ?_
    refine WpC.seq ?_
    obtain ⟨v2, hv2, h⟩ := bind_some h
    refine rS { its := [(2, .c (slices_ContainsFunc_string_string_m1.ok O hO k v1 v2 hv2))] } [8, 28] [1008] hN (by kernel_rfl) (by kernel_rfl) ?_
    refine tnU ?_
    refine tS (b := v2) (by kernel_rfl) (fun hc3 => ?_) (fun hc3 => ?_)
    · replace h := ite_t hc3 h
      refine WpC.seq ?_
      refine rA { its := [(0, .e 0 (sok_loadG (U := Un) (t := .err) (rs := []) rfl rfl ty_32 rfl rfl (hO.var 1 2 rfl) (fun S w => .err 1)))] } [6, 7] [] hN (by kernel_rfl) (by kernel_rfl) (by kernel_rfl) ?_
      refine tnU ?_
      refine WpC.conv (cS [.nL 6 .str, .k [6, 7] []] (by kernel_rfl) (by kernel_rfl)) (WpC.ret ?_)
      refine thenQ_ret ?_
      have hq := Option.some.inj h
      subst hq
      exact eR (by kernel_rfl) (by kernel_rfl)
    · replace h := ite_f hc3 h
      refine WpC.conv (cS [.k [8] [1008]] (by kernel_rfl) (by kernel_rfl)) (WpC.skip ?_)
      refine tnU ?_
      refine WpC.seq ?_
      refine rS {} [6, 7] [1008] hN (by kernel_rfl) (by kernel_rfl) ?_
      refine tnU ?_
      refine WpC.conv (cS [.fz 6, .k [6, 7] [], .nE 7, .k [6, 7] []] (by kernel_rfl) (by kernel_rfl)) (WpC.ret ?_)
      have hq := Option.some.inj h
      subst hq
      exact eR (by kernel_rfl) (by kernel_rfl)

theorem expand_Find_1_m0.ok (O : Out) (hO : GOk O) (k : Nat) (a0 : T_expand_Output) (a1 : List UInt8) (out : Bool) (h : expand_Find_1_m0.f k a0 a1 = some out) : COk Un O Tryz.prog 38 { ar := [.p (.named 4) a0, .loc 100000 0], r := .p .bool out, bs := [(100000, .box [.p .str a1])], bs' := [(100000, .box [.p .str a1])] } := by
  refine cok_of_wp Tryz.func38 rfl (k := 8) rfl (Nat.le_of_ble_eq_true rfl) (namesOk_of (by kernel_rfl)) ?_
  intro B hN
  refine WpC.conv (cvK (b := ⟨[(0, .p (.named 4) a0), (1, .loc 100000 0)], [(100000, .box [.p .str a1])]⟩) [0, 1] [100000] (by kernel_rfl)) ?_
  unfold expand_Find_1_m0.f at h
  refine WpC.seq ?_
  refine rS {} [1, 2] [2, 100000] hN (by kernel_rfl) (by kernel_rfl) ?_
  refine tnU ?_
  refine WpC.seq ?_
  refine rS {} [3] [100000] hN (by kernel_rfl) (by kernel_rfl) ?_
  refine tnU ?_
  refine WpC.ret ?_
  have hq := Option.some.inj h
  subst hq
  exact eR (by kernel_rfl) (by kernel_rfl)

theorem expand_Output_m0.ok (O : Out) (hO : GOk O) (k : Nat) (a0 : List T_expand_Output) (a1 : List UInt8) (out : Int) (h : expand_Output_m0.f k a0 a1 = some out) : COk Un O Tryz.prog 37 { ar := [.p (.list (.named 4)) a0, .clo 38 [.loc 100000 0]], r := .p I6 out, bs := [(100000, .box [.p .str a1])], bs' := [(100000, .box [.p .str a1])] } := by
  refine cok_of_wp Tryz.func37 rfl (k := 19) rfl (Nat.le_of_ble_eq_true rfl) (namesOk_of (by kernel_rfl)) ?_
  intro B hN
  refine WpC.conv (cvK (b := ⟨[(0, .p (.list (.named 4)) a0), (1, .clo 38 [.loc 100000 0])], [(100000, .box [.p .str a1])]⟩) [0, 1] [100000] (by kernel_rfl)) ?_
  unfold expand_Output_m0.f at h
  refine WpC.seq ?_
  refine rS {} [0, 1] [100000] hN (by kernel_rfl) (by kernel_rfl) ?_
  refine tnU ?_
  refine sqJ (fun st' => expand_Output_m0.j1 k a1 = some out ∧ st' = ⟨[], [(100000, .box [.p .str a1])]⟩) ?_ ?_
  · refine WpC.seq ?_
    refine rS {} [0, 1, 7, 8] [100000] hN (by kernel_rfl) (by kernel_rfl) ?_
    refine tnU ?_
    refine WpC.block ?_
    obtain ⟨o4, hlo4, h⟩ := bind_some h
    have hout5 := h
    clear h
    refine WpC.loop (U := Un) (fun n st' => ∃ v2 : Int, expand_Output_m0.l3 k a0 a1 n v2 = some o4 ∧ st' = ⟨[(0, .p (.list (.named 4)) a0), (1, .clo 38 [.loc 100000 0]), (7, .p I6 ((a0.length : Int) : Int)), (8, .p I6 v2)], [(100000, .box [.p .str a1])]⟩) k ⟨0, hlo4, by kernel_rfl⟩ ?_
    clear hlo4
    rintro (_ | n) _ ⟨v2, h, rfl⟩
    · cases h
    · rw [expand_Output_m0.l3] at h
      refine WpC.seq ?_
      refine rS {} [0, 1, 7, 8, 9] [100000] hN (by kernel_rfl) (by kernel_rfl) ?_
      refine tnU ?_
      refine WpC.seq ?_
      refine tS (b := (decide (v2 < (a0.length : Int)))) (by kernel_rfl) (fun hc6 => ?_) (fun hc6 => ?_)
      · replace h := ite_t hc6 h
        refine WpC.conv (cS [.k [0, 1, 7, 8] [100000]] (by kernel_rfl) (by kernel_rfl)) (WpC.skip ?_)
        refine tnU ?_
        refine WpC.seq ?_
        refine WpC.block ?_
        refine WpC.seq ?_
        refine rS {} [0, 1, 5, 7, 8] [100000] hN (by kernel_rfl) (by kernel_rfl) ?_
        refine tnU ?_
        refine WpC.seq ?_
        obtain ⟨v7, hv7, h⟩ := bind_some h
        obtain ⟨v8, hv8, h⟩ := bind_some h
        refine rS { its := [(3, .v (.named 4) hv7), (5, .c (COk.ren (expand_Find_1_m0.ok O hO k v7 a1 v8 hv8) (fun n => if n = 100000 then 100000 else n) (injOn_of (by kernel_rfl))))] } [0, 1, 5, 7, 8, 16] [100000] hN (by kernel_rfl) (by kernel_rfl) ?_
        refine tnU ?_
        refine tS (b := v8) (by kernel_rfl) (fun hc9 => ?_) (fun hc9 => ?_)
        · replace h := ite_t hc9 h
          refine WpC.seq ?_
          refine rS {} [4] [100000] hN (by kernel_rfl) (by kernel_rfl) ?_
          refine tnU ?_
          refine WpC.ret ?_
          refine blockQ_ret ?_
          refine thenQ_ret ?_
          have hq := Option.some.inj h
          subst hq
          refine thenQ_ret ?_
          have h := hout5
          refine blockQ_ret ?_
          refine thenQ_ret ?_
          have hq := Option.some.inj h
          subst hq
          exact eR (by kernel_rfl) (by kernel_rfl)
        · replace h := ite_f hc9 h
          refine WpC.conv (cS [.k [0, 1, 7, 8] [100000]] (by kernel_rfl) (by kernel_rfl)) (WpC.skip ?_)
          refine blockQ_normal ?_
          refine tnU ?_
          refine rS {} [0, 1, 7, 8] [100000] hN (by kernel_rfl) (by kernel_rfl) ?_
          refine tnU ?_
          exact ⟨n, Nat.lt_succ_self n, (IntKind.i64.wrap (v2 + 1)), h, by kernel_rfl⟩
      · replace h := ite_f hc6 h
        refine WpC.conv (cS [.k [] [100000]] (by kernel_rfl) (by kernel_rfl)) (WpC.exit ?_)
        refine thenQ_exit ?_
        have hq := Option.some.inj h
        subst hq
        refine thenQ_exit ?_
        have h := hout5
        refine blockQ_hit ?_
        refine tnU ?_
        exact ⟨h, by kernel_rfl⟩
  · rintro _ ⟨h, rfl⟩
    unfold expand_Output_m0.j1 at h
    refine WpC.seq ?_
    refine rS {} [4] [100000] hN (by kernel_rfl) (by kernel_rfl) ?_
    refine tnU ?_
    refine WpC.ret ?_
    have hq := Option.some.inj h
    subst hq
    exact eR (by kernel_rfl) (by kernel_rfl)

theorem expand_Find.ok (O : Out) (hO : GOk O) (k : Nat) (a0 : List UInt8) (a1 : List T_expand_Output) (out : (List UInt8) × Bool) (h : expand_Find.f k a0 a1 = some out) : COk Un O Tryz.prog 12 { ar := [.p .str a0, .p (.list (.named 4)) a1], r := .tup [.p .str out.1, .p .bool out.2] } := by
  refine cok_of_wp Tryz.func12 rfl (k := 17) rfl (Nat.le_of_ble_eq_true rfl) (namesOk_pure rfl rfl rfl rfl) ?_
  intro B hN
  refine WpC.conv (cvK (b := ⟨[(0, .p .str a0), (1, .p (.list (.named 4)) a1)], []⟩) [0, 1] [] (by kernel_rfl)) ?_
  unfold expand_Find.f at h
  refine WpC.seq ?_
  refine rS {} [1, 2] [2] hN (by kernel_rfl) (by kernel_rfl) ?_
  refine tnU ?_
  refine WpC.seq ?_
  obtain ⟨v1, hv1, h⟩ := bind_some h
  refine rS { its := [(2, .c (COk.ren (expand_Output_m0.ok O hO k a1 a0 v1 hv1) (fun n => if n = 100000 then 2 else n) (injOn_of (by kernel_rfl))))] } [1, 6] [] hN (by kernel_rfl) (by kernel_rfl) ?_
  refine tnU ?_
  refine WpC.seq ?_
  refine WpC.seq ?_
  refine rS {} [1, 6, 11] [] hN (by kernel_rfl) (by kernel_rfl) ?_
  refine tnU ?_
  refine tS (b := (decide (v1 < 0))) (by kernel_rfl) (fun hc2 => ?_) (fun hc2 => ?_)
  · replace h := ite_t hc2 h
    refine WpC.seq ?_
    refine rS {} [4, 5] [] hN (by kernel_rfl) (by kernel_rfl) ?_
    refine tnU ?_
    refine WpC.ret ?_
    refine thenQ_ret ?_
    have hq := Option.some.inj h
    subst hq
    exact eR (by kernel_rfl) (by kernel_rfl)
  · replace h := ite_f hc2 h
    refine WpC.conv (cS [.k [1, 6] []] (by kernel_rfl) (by kernel_rfl)) (WpC.skip ?_)
    refine tnU ?_
    refine WpC.seq ?_
    obtain ⟨v3, hv3, h⟩ := bind_some h
    refine rS { its := [(2, .v (.named 4) hv3)] } [4, 5] [] hN (by kernel_rfl) (by kernel_rfl) ?_
    refine tnU ?_
    refine WpC.ret ?_
    have hq := Option.some.inj h
    subst hq
    exact eR (by kernel_rfl) (by kernel_rfl)

theorem quote_skip.ok (O : Out) (hO : GOk O) (k : Nat) (a0 : List UInt8) (a1 : Int) (out : Int) (h : quote_skip.f k a0 a1 = some out) : COk Un O Tryz.prog 131 { ar := [.p .str a0, .p I6 a1], r := .p I6 out } := by
  refine cok_of_wp Tryz.func131 rfl (k := 18) rfl (Nat.le_of_ble_eq_true rfl) (namesOk_pure rfl rfl rfl rfl) ?_
  intro B hN
  refine WpC.conv (cvK (b := ⟨[(0, .p .str a0), (1, .p I6 a1)], []⟩) [0, 1] [] (by kernel_rfl)) ?_
  unfold quote_skip.f at h
  refine WpC.seq ?_
  refine rS {} [0, 1] [] hN (by kernel_rfl) (by kernel_rfl) ?_
  refine tnU ?_
  refine sqJ (fun st' => ∃ v1 : Int, quote_skip.j2 k v1 = some out ∧ st' = ⟨[(1, .p I6 v1)], []⟩) ?_ ?_
  · refine WpC.block ?_
    obtain ⟨o6, hlo6, h⟩ := bind_some h
    have hout7 := h
    clear h
    refine WpC.loop (U := Un) (fun n st' => ∃ v3 : Int, quote_skip.l4 k a0 n v3 = some o6 ∧ st' = ⟨[(0, .p .str a0), (1, .p I6 v3)], []⟩) k ⟨a1, hlo6, by kernel_rfl⟩ ?_
    clear hlo6
    rintro (_ | n) _ ⟨v3, h, rfl⟩
    · cases h
    · rw [quote_skip.l4] at h
      refine sqJ (fun st' => quote_skip.j8 k (quote_skip.l4 k a0 n) a0 v3 = some o6 ∧ st' = ⟨[(0, .p .str a0), (1, .p I6 v3)], []⟩) ?_ ?_
      · refine sqJ (fun st' => ∃ v9 : Bool, quote_skip.j11 k (quote_skip.l4 k a0 n) a0 v3 v9 = some o6 ∧ st' = ⟨[(0, .p .str a0), (1, .p I6 v3), (14, .p .bool v9)], []⟩) ?_ ?_
        · rcases bool_cases (decide (v3 < (a0.length : Int))) with hc12 | hc12
          · replace h := ite_t hc12 h
            obtain ⟨v13, hv13, h⟩ := bind_some h
            obtain ⟨v14, hv14, h⟩ := bind_some h
            refine rS { its := [(7, .u hv13), (8, .c (quote_Blank.ok O hO k (v13.toNat : Int) v14 hv14))], kn := [(9, .t hc12)] } [0, 1, 14] [] hN (by kernel_rfl) (by kernel_rfl) ?_
            refine tnU ?_
            exact ⟨v14, h, by kernel_rfl⟩
          · replace h := ite_f hc12 h
            refine rS { kn := [(9, .f hc12)] } [0, 1, 14] [] hN (by kernel_rfl) (by kernel_rfl) ?_
            refine tnU ?_
            exact ⟨false, h, by kernel_rfl⟩
        · rintro _ ⟨v9, h, rfl⟩
          unfold quote_skip.j11 at h
          refine tS (b := v9) (by kernel_rfl) (fun hc10 => ?_) (fun hc10 => ?_)
          · replace h := ite_t hc10 h
            refine WpC.conv (cS [.k [0, 1] []] (by kernel_rfl) (by kernel_rfl)) (WpC.skip ?_)
            refine tnU ?_
            exact ⟨h, by kernel_rfl⟩
          · replace h := ite_f hc10 h
            refine WpC.conv (cS [.k [1] []] (by kernel_rfl) (by kernel_rfl)) (WpC.exit ?_)
            refine thenQ_exit ?_
            have hq := Option.some.inj h
            subst hq
            refine thenQ_exit ?_
            have h := hout7
            refine blockQ_hit ?_
            refine tnU ?_
            exact ⟨v3, h, by kernel_rfl⟩
      · rintro _ ⟨h, rfl⟩
        unfold quote_skip.j8 at h
        refine WpC.block ?_
        refine rS {} [0, 1] [] hN (by kernel_rfl) (by kernel_rfl) ?_
        refine blockQ_normal ?_
        refine tnU ?_
        exact ⟨n, Nat.lt_succ_self n, (IntKind.i64.wrap (v3 + 1)), h, by kernel_rfl⟩
  · rintro _ ⟨v1, h, rfl⟩
    unfold quote_skip.j2 at h
    refine WpC.seq ?_
    refine rS {} [4] [] hN (by kernel_rfl) (by kernel_rfl) ?_
    refine tnU ?_
    refine WpC.ret ?_
    have hq := Option.some.inj h
    subst hq
    exact eR (by kernel_rfl) (by kernel_rfl)

theorem quote_Fields.ok (O : Out) (hO : GOk O) (k : Nat) (a0 : List UInt8) (out : List (List UInt8)) (h : quote_Fields.f k a0 = some out) : COk Un O Tryz.prog 99 { ar := [.p .str a0], r := .p (.list .str) out } := by
  refine cok_of_wp Tryz.func99 rfl (k := 39) rfl (Nat.le_of_ble_eq_true rfl) (namesOk_pure rfl rfl rfl rfl) ?_
  intro B hN
  refine WpC.conv (cvK (b := ⟨[(0, .p .str a0)], []⟩) [0] [] (by kernel_rfl)) ?_
  unfold quote_Fields.f at h
  refine WpC.seq ?_
  refine rS {} [0] [] hN (by kernel_rfl) (by kernel_rfl) ?_
  refine tnU ?_
  refine WpC.seq ?_
  refine rS {} [0, 3] [] hN (by kernel_rfl) (by kernel_rfl) ?_
  refine tnU ?_
  refine WpC.seq ?_
  obtain ⟨v1, hv1, h⟩ := bind_some h
  refine rS { its := [(1, .c (quote_skip.ok O hO k a0 0 v1 hv1))] } [0, 3, 4] [] hN (by kernel_rfl) (by kernel_rfl) ?_
  refine tnU ?_
  refine sqJ (fun st' => ∃ v2 : List (List UInt8), quote_Fields.j3 k v2 = some out ∧ st' = ⟨[(3, .vec 1003 1 0 v2.length)], [(1003, .row 9 .str v2 false)]⟩) ?_ ?_
  · refine WpC.seq ?_
    refine rS {} [0, 3, 4, 5] [] hN (by kernel_rfl) (by kernel_rfl) ?_
    refine tnU ?_
    refine WpC.block ?_
    obtain ⟨o9, hlo9, h⟩ := bind_some h
    have hout10 := h
    clear h
    refine WpC.conv (cS [.th 3 1003 9 .str, .k [0, 3, 4, 5] [1003]] (by kernel_rfl) (by kernel_rfl)) ?_
    refine WpC.loop (U := Un) (fun n st' => ∃ v4 : List (List UInt8), ∃ v5 : Int, ∃ v6 : Int, quote_Fields.l7 k a0 n v4 v5 v6 = some o9 ∧ st' = ⟨[(0, .p .str a0), (3, .vec 1003 1 0 v4.length), (4, .p I6 v5), (5, .p I6 v6)], [(1003, .row 9 .str v4 false)]⟩) k ⟨[], v1, v1, hlo9, by kernel_rfl⟩ ?_
    clear hlo9
    rintro (_ | n) _ ⟨v4, v5, v6, h, rfl⟩
    · cases h
    · rw [quote_Fields.l7] at h
      refine WpC.seq ?_
      refine WpC.seq ?_
      refine rS {} [0, 3, 4, 5, 12] [1003] hN (by kernel_rfl) (by kernel_rfl) ?_
      refine tnU ?_
      refine tS (b := (decide (v6 ≤ (a0.length : Int)))) (by kernel_rfl) (fun hc11 => ?_) (fun hc11 => ?_)
      · replace h := ite_t hc11 h
        refine WpC.conv (cS [.k [0, 3, 4, 5] [1003]] (by kernel_rfl) (by kernel_rfl)) (WpC.skip ?_)
        refine tnU ?_
        refine sqJ (fun st' => ∃ v12 : List (List UInt8), ∃ v13 : Int, quote_Fields.j14 k (quote_Fields.l7 k a0 n) a0 v6 v12 v13 = some o9 ∧ st' = ⟨[(0, .p .str a0), (3, .vec 1003 1 0 v12.length), (4, .p I6 v13), (5, .p I6 v6)], [(1003, .row 9 .str v12 false)]⟩) ?_ ?_
        · refine WpC.block ?_
          refine sqJ (fun st' => quote_Fields.j20 k (quote_Fields.l7 k a0 n) a0 v4 v5 v6 = some o9 ∧ st' = ⟨[(0, .p .str a0), (3, .vec 1003 1 0 v4.length), (4, .p I6 v5), (5, .p I6 v6)], [(1003, .row 9 .str v4 false)]⟩) ?_ ?_
          · refine sqJ (fun st' => ∃ v21 : Bool, quote_Fields.j23 k (quote_Fields.l7 k a0 n) a0 v4 v5 v6 v21 = some o9 ∧ st' = ⟨[(0, .p .str a0), (3, .vec 1003 1 0 v4.length), (4, .p I6 v5), (5, .p I6 v6), (25, .p .bool v21)], [(1003, .row 9 .str v4 false)]⟩) ?_ ?_
            · rcases bool_cases (decide (v6 < (a0.length : Int))) with hc24 | hc24
              · replace h := ite_t hc24 h
                obtain ⟨v25, hv25, h⟩ := bind_some h
                obtain ⟨v26, hv26, h⟩ := bind_some h
                refine rS { its := [(7, .u hv25), (8, .c (quote_Blank.ok O hO k (v25.toNat : Int) v26 hv26))], kn := [(19, .t hc24)] } [0, 3, 4, 5, 25] [1003] hN (by kernel_rfl) (by kernel_rfl) ?_
                refine tnU ?_
                exact ⟨(!v26), h, by kernel_rfl⟩
              · replace h := ite_f hc24 h
                refine rS { kn := [(19, .f hc24)] } [0, 3, 4, 5, 25] [1003] hN (by kernel_rfl) (by kernel_rfl) ?_
                refine tnU ?_
                exact ⟨false, h, by kernel_rfl⟩
            · rintro _ ⟨v21, h, rfl⟩
              unfold quote_Fields.j23 at h
              refine tS (b := v21) (by kernel_rfl) (fun hc22 => ?_) (fun hc22 => ?_)
              · replace h := ite_t hc22 h
                refine WpC.conv (cS [.k [0, 3, 4, 5] [1003]] (by kernel_rfl) (by kernel_rfl)) (WpC.exit ?_)
                refine thenQ_exit ?_
                refine blockQ_hit ?_
                refine tnU ?_
                exact ⟨v4, v5, h, by kernel_rfl⟩
              · replace h := ite_f hc22 h
                refine WpC.conv (cS [.k [0, 3, 4, 5] [1003]] (by kernel_rfl) (by kernel_rfl)) (WpC.skip ?_)
                refine tnU ?_
                exact ⟨h, by kernel_rfl⟩
          · rintro _ ⟨h, rfl⟩
            unfold quote_Fields.j20 at h
            refine sqJ (fun st' => ∃ v15 : List (List UInt8), quote_Fields.j16 k (quote_Fields.l7 k a0 n) a0 v6 v15 = some o9 ∧ st' = ⟨[(0, .p .str a0), (3, .vec 1003 1 0 v15.length), (5, .p I6 v6)], [(1003, .row 9 .str v15 false)]⟩) ?_ ?_
            · refine WpC.seq ?_
              refine rS {} [0, 3, 4, 5, 28] [1003] hN (by kernel_rfl) (by kernel_rfl) ?_
              refine tnU ?_
              refine tS (b := (decide (v6 > v5))) (by kernel_rfl) (fun hc17 => ?_) (fun hc17 => ?_)
              · replace h := ite_t hc17 h
                obtain ⟨v18, hv18, h⟩ := bind_some h
                obtain ⟨g19, h⟩ := if_some h
                refine rSC { its := [(4, .v .str hv18), (6, .g g19)] } [0, 3, 5] [35] hN (by kernel_rfl) (by kernel_rfl) (cS [.rn 35 1003, .k [0, 3, 5] [1003]] (by kernel_rfl) (by kernel_rfl)) ?_
                refine tnU ?_
                exact ⟨(v4 ++ [v18]), h, by kernel_rfl⟩
              · replace h := ite_f hc17 h
                refine WpC.conv (cS [.k [0, 3, 5] [1003]] (by kernel_rfl) (by kernel_rfl)) (WpC.skip ?_)
                refine tnU ?_
                exact ⟨v4, h, by kernel_rfl⟩
            · rintro _ ⟨v15, h, rfl⟩
              unfold quote_Fields.j16 at h
              refine rS {} [0, 3, 4, 5] [1003] hN (by kernel_rfl) (by kernel_rfl) ?_
              refine blockQ_normal ?_
              refine tnU ?_
              exact ⟨v15, (IntKind.i64.wrap (v6 + 1)), h, by kernel_rfl⟩
        · rintro _ ⟨v12, v13, h, rfl⟩
          unfold quote_Fields.j14 at h
          refine rS {} [0, 3, 4, 5] [1003] hN (by kernel_rfl) (by kernel_rfl) ?_
          refine tnU ?_
          exact ⟨n, Nat.lt_succ_self n, v12, v13, (IntKind.i64.wrap (v6 + 1)), h, by kernel_rfl⟩
      · replace h := ite_f hc11 h
        refine WpC.conv (cS [.k [3] [1003]] (by kernel_rfl) (by kernel_rfl)) (WpC.exit ?_)
        refine thenQ_exit ?_
        have hq := Option.some.inj h
        subst hq
        refine thenQ_exit ?_
        have h := hout10
        refine blockQ_hit ?_
        refine tnU ?_
        exact ⟨v4, h, by kernel_rfl⟩
  · rintro _ ⟨v2, h, rfl⟩
    unfold quote_Fields.j3 at h
    refine WpC.seq ?_
    refine rS {} [2] [1003] hN (by kernel_rfl) (by kernel_rfl) ?_
    refine tnU ?_
    refine WpC.conv (cS [.fz 2, .k [2] []] (by kernel_rfl) (by kernel_rfl)) (WpC.ret ?_)
    have hq := Option.some.inj h
    subst hq
    exact eR (by kernel_rfl) (by kernel_rfl)

theorem expand_expander_piece_m0.ok (O : Out) (hO : GOk O) (k : Nat) (a0 : List ((List UInt8) × T_env_Var)) (a1 : List T_expand_Output) (a2 : T_lex_Piece) (out : (List (List UInt8)) × Nat) (h : expand_expander_piece_m0.f k a0 a1 a2 = some out) : COk Un O Tryz.prog 65 { ar := [.agg [.loc 100000 0, .p (.list (.named 4)) a1], .p (.named 5) a2], r := .tup [.p (.list .str) out.1, .p .err out.2], bs := [(100000, .box [.mp 100001]), (100001, .map (.named 3) a0)], bs' := [(100000, .box [.mp 100001]), (100001, .map (.named 3) a0)] } := by
  refine cok_of_wp Tryz.func65 rfl (k := 51) rfl (Nat.le_of_ble_eq_true rfl) (namesOk_of (by kernel_rfl)) ?_
  intro B hN
  refine WpC.conv (cvK (b := ⟨[(0, .agg [.loc 100000 0, .p (.list (.named 4)) a1]), (1, .p (.named 5) a2)], [(100000, .box [.mp 100001]), (100001, .map (.named 3) a0)]⟩) [0, 1] [100000, 100001] (by kernel_rfl)) ?_
  unfold expand_expander_piece_m0.f at h
  refine WpC.seq ?_
  refine rS {} [2, 3] [2, 3, 100000, 100001] hN (by kernel_rfl) (by kernel_rfl) ?_
  refine tnU ?_
  refine sqJ (fun st' => expand_expander_piece_m0.j1 k a0 = some out ∧ st' = ⟨[], [(100000, .box [.mp 100001]), (100001, .map (.named 3) a0)]⟩) ?_ ?_
  · refine WpC.seq ?_
    refine rS {} [2, 3, 9] [2, 3, 100000, 100001] hN (by kernel_rfl) (by kernel_rfl) ?_
    refine tnU ?_
    refine WpC.block ?_
    refine sqJ (fun st' => ∃ v2 : Bool, expand_expander_piece_m0.j13 k a0 a1 a2 v2 = some out ∧ st' = ⟨[(2, .loc 2 0), (3, .loc 3 0), (9, .p I6 a2.f_Kind), (10, .p .bool v2)], [(2, .box [.loc 100000 0, .p (.list (.named 4)) a1]), (3, .box [.p I6 a2.f_Kind, .p .str a2.f_Text, .p .str a2.f_From, .p .str a2.f_To]), (100000, .box [.mp 100001]), (100001, .map (.named 3) a0)]⟩) ?_ ?_
    · refine WpC.seq ?_
      refine rS {} [2, 3, 9, 10] [2, 3, 100000, 100001] hN (by kernel_rfl) (by kernel_rfl) ?_
      refine tnU ?_
      refine tS (b := (a2.f_Kind == 0)) (by kernel_rfl) (fun hc14 => ?_) (fun hc14 => ?_)
      · replace h := ite_t hc14 h
        refine WpC.skip ?_
        refine tnU ?_
        exact ⟨(a2.f_Kind == 0), h, by kernel_rfl⟩
      · replace h := ite_f hc14 h
        refine rS {} [2, 3, 9, 10] [2, 3, 100000, 100001] hN (by kernel_rfl) (by kernel_rfl) ?_
        refine tnU ?_
        exact ⟨(a2.f_Kind == 1), h, by kernel_rfl⟩
    · rintro _ ⟨v2, h, rfl⟩
      unfold expand_expander_piece_m0.j13 at h
      refine tS (b := v2) (by kernel_rfl) (fun hc3 => ?_) (fun hc3 => ?_)
      · replace h := ite_t hc3 h
        refine WpC.seq ?_
        refine rS {} [4, 5] [15, 100000, 100001] hN (by kernel_rfl) (by kernel_rfl) ?_
        refine tnU ?_
        refine WpC.conv (cS [.fz 4, .k [4, 5] [100000, 100001], .nE 5, .k [4, 5] [100000, 100001]] (by kernel_rfl) (by kernel_rfl)) (WpC.ret ?_)
        refine blockQ_ret ?_
        refine thenQ_ret ?_
        have hq := Option.some.inj h
        subst hq
        exact eR (by kernel_rfl) (by kernel_rfl)
      · replace h := ite_f hc3 h
        refine WpC.seq ?_
        refine rS {} [2, 3, 9, 16] [2, 3, 100000, 100001] hN (by kernel_rfl) (by kernel_rfl) ?_
        refine tnU ?_
        refine tS (b := (a2.f_Kind == 2)) (by kernel_rfl) (fun hc4 => ?_) (fun hc4 => ?_)
        · replace h := ite_t hc4 h
          refine WpC.seq ?_
          obtain ⟨v5, hv5, h⟩ := bind_some h
          refine rS { its := [(3, .c (COk.ren (expand_expander_words_m0.ok O hO k a0 a1 a2.f_Text v5 hv5) (fun n => if n = 100000 then 100000 else if n = 100001 then 100001 else n) (injOn_of (by kernel_rfl))))] } [4, 5] [100000, 100001] hN (by kernel_rfl) (by kernel_rfl) ?_
          refine tnU ?_
          refine WpC.conv (cS [.nE 5, .k [4, 5] [100000, 100001]] (by kernel_rfl) (by kernel_rfl)) (WpC.ret ?_)
          refine blockQ_ret ?_
          refine thenQ_ret ?_
          have hq := Option.some.inj h
          subst hq
          exact eR (by kernel_rfl) (by kernel_rfl)
        · replace h := ite_f hc4 h
          refine WpC.seq ?_
          refine rS {} [2, 3, 9, 22] [2, 3, 100000, 100001] hN (by kernel_rfl) (by kernel_rfl) ?_
          refine tnU ?_
          refine tS (b := (a2.f_Kind == 3)) (by kernel_rfl) (fun hc6 => ?_) (fun hc6 => ?_)
          · replace h := ite_t hc6 h
            refine WpC.seq ?_
            obtain ⟨v7, hv7, h⟩ := bind_some h
            obtain ⟨v8, hv8, h⟩ := bind_some h
            refine rA { its := [(3, .c (COk.ren (expand_expander_words_m0.ok O hO k a0 a1 a2.f_Text v7 hv7) (fun n => if n = 100000 then 100000 else if n = 100001 then 100001 else n) (injOn_of (by kernel_rfl)))), (8, .c (subst_List.ok O hO k v7 a2.f_From a2.f_To v8 hv8))] } [4, 5] [100000, 100001] hN (by kernel_rfl) (by kernel_rfl) (by kernel_rfl) ?_
            refine tnU ?_
            refine WpC.ret ?_
            refine blockQ_ret ?_
            refine thenQ_ret ?_
            have hq := Option.some.inj h
            subst hq
            exact eR (by kernel_rfl) (by kernel_rfl)
          · replace h := ite_f hc6 h
            refine WpC.seq ?_
            refine rS {} [2, 3, 35] [2, 3, 100000, 100001] hN (by kernel_rfl) (by kernel_rfl) ?_
            refine tnU ?_
            refine tS (b := (a2.f_Kind == 4)) (by kernel_rfl) (fun hc9 => ?_) (fun hc9 => ?_)
            · replace h := ite_t hc9 h
              refine WpC.seq ?_
              obtain ⟨v10, hv10, h⟩ := bind_some h
              refine rS { its := [(4, .c (expand_Find.ok O hO k a2.f_Text a1 v10 hv10))] } [6, 7] [100000, 100001] hN (by kernel_rfl) (by kernel_rfl) ?_
              refine tnU ?_
              refine WpC.seq ?_
              refine WpC.seq ?_
              refine rS {} [6, 46] [100000, 100001] hN (by kernel_rfl) (by kernel_rfl) ?_
              refine tnU ?_
              refine tS (b := (!v10.2)) (by kernel_rfl) (fun hc11 => ?_) (fun hc11 => ?_)
              · replace h := ite_t hc11 h
                refine WpC.seq ?_
                refine rA { its := [(0, .e 0 (sok_loadG (U := Un) (t := .err) (rs := []) rfl rfl ty_32 rfl rfl (hO.var 7 8 rfl) (fun S w => .err 7)))] } [4, 5] [100000, 100001] hN (by kernel_rfl) (by kernel_rfl) (by kernel_rfl) ?_
                refine tnU ?_
                refine WpC.conv (cS [.nL 4 .str, .k [4, 5] [100000, 100001]] (by kernel_rfl) (by kernel_rfl)) (WpC.ret ?_)
                refine thenQ_ret ?_
                refine blockQ_ret ?_
                refine thenQ_ret ?_
                have hq := Option.some.inj h
                subst hq
                exact eR (by kernel_rfl) (by kernel_rfl)
              · replace h := ite_f hc11 h
                refine WpC.conv (cS [.k [6] [100000, 100001]] (by kernel_rfl) (by kernel_rfl)) (WpC.skip ?_)
                refine tnU ?_
                refine WpC.seq ?_
                obtain ⟨v12, hv12, h⟩ := bind_some h
                refine rS { its := [(1, .c (quote_Fields.ok O hO k v10.1 v12 hv12))] } [4, 5] [100000, 100001] hN (by kernel_rfl) (by kernel_rfl) ?_
                refine tnU ?_
                refine WpC.conv (cS [.nE 5, .k [4, 5] [100000, 100001]] (by kernel_rfl) (by kernel_rfl)) (WpC.ret ?_)
                refine blockQ_ret ?_
                refine thenQ_ret ?_
                have hq := Option.some.inj h
                subst hq
                exact eR (by kernel_rfl) (by kernel_rfl)
            · replace h := ite_f hc9 h
              refine WpC.conv (cS [.k [] [100000, 100001]] (by kernel_rfl) (by kernel_rfl)) (WpC.skip ?_)
              refine blockQ_normal ?_
              refine tnU ?_
              exact ⟨h, by kernel_rfl⟩
  · rintro _ ⟨h, rfl⟩
    unfold expand_expander_piece_m0.j1 at h
    refine WpC.seq ?_
    refine rA { its := [(0, .e 0 (sok_loadG (U := Un) (t := .err) (rs := []) rfl rfl ty_32 rfl rfl (hO.var 16 16 rfl) (fun S w => .err 16)))] } [4, 5] [100000, 100001] hN (by kernel_rfl) (by kernel_rfl) (by kernel_rfl) ?_
    refine tnU ?_
    refine WpC.conv (cS [.nL 4 .str, .k [4, 5] [100000, 100001]] (by kernel_rfl) (by kernel_rfl)) (WpC.ret ?_)
    have hq := Option.some.inj h
    subst hq
    exact eR (by kernel_rfl) (by kernel_rfl)

theorem expand_joined_m0.ok (O : Out) (hO : GOk O) (k : Nat) (a0 : List (List UInt8)) (a1 : List (List UInt8)) (out : List (List UInt8)) (h : expand_joined_m0.f k a0 a1 = some out) : COk Un O Tryz.prog 66 { ar := [.vec 100000 1 0 a0.length, .p (.list .str) a1], r := .vec 60500 1 0 out.length, bs := [(100000, .row 9 .str a0 false)], bs' := [(60500, .row 9 .str out false)], nn := [60500] } := by
  refine cok_of_wp Tryz.func66 rfl (k := 24) rfl (Nat.le_of_ble_eq_true rfl) (namesOk_of (by kernel_rfl)) ?_
  intro B hN
  refine WpC.conv (cvK (b := ⟨[(0, .vec 100000 1 0 a0.length), (1, .p (.list .str) a1)], [(100000, .row 9 .str a0 false)]⟩) [0, 1] [100000] (by kernel_rfl)) ?_
  unfold expand_joined_m0.f at h
  refine WpC.seq ?_
  refine rS {} [0, 1] [100000] hN (by kernel_rfl) (by kernel_rfl) ?_
  refine tnU ?_
  refine WpC.seq ?_
  refine WpC.seq ?_
  refine rS {} [0, 1, 7] [100000] hN (by kernel_rfl) (by kernel_rfl) ?_
  refine tnU ?_
  refine tS (b := ((a1.length : Int) == 0)) (by kernel_rfl) (fun hc1 => ?_) (fun hc1 => ?_)
  · replace h := ite_t hc1 h
    refine WpC.seq ?_
    refine rS {} [4] [100000] hN (by kernel_rfl) (by kernel_rfl) ?_
    refine tnU ?_
    refine WpC.conv (cS [.rn 100000 60500, .k [4] [60500]] (by kernel_rfl) (by kernel_rfl)) (WpC.ret ?_)
    refine thenQ_ret ?_
    have hq := Option.some.inj h
    subst hq
    exact eR (by kernel_rfl) (by kernel_rfl)
  · replace h := ite_f hc1 h
    refine WpC.conv (cS [.k [0, 1] [100000]] (by kernel_rfl) (by kernel_rfl)) (WpC.skip ?_)
    refine tnU ?_
    refine WpC.seq ?_
    obtain ⟨g2, h⟩ := if_some h
    obtain ⟨v3, hv3, h⟩ := bind_some h
    obtain ⟨v4, hv4, h⟩ := bind_some h
    obtain ⟨g5, h⟩ := if_some h
    obtain ⟨g6, h⟩ := if_some h
    obtain ⟨v7, hv7, h⟩ := bind_some h
    refine rA { its := [(4, .g g2), (5, .v .str hv3), (7, .v .str hv4), (9, .g g5), (10, .g g6), (11, .v .str hv7)] } [0, 1] [100000] hN (by kernel_rfl) (by kernel_rfl) (by kernel_rfl) ?_
    refine tnU ?_
    refine WpC.seq ?_
    refine WpC.conv (cS [.k [0, 1] [100000], .x (Conv.cast (U := Un) (st := ⟨[(0, .vec 100000 1 0 a0.length), (1, .p (.list .str) a1)], [(100000, .row 9 .str (upd a0 (0 + (IntKind.i64.wrap ((a0.length : Int) - 1)).toNat) (v3 ++ v4)) false)]⟩) (st' := ⟨[(0, .vec 100000 1 0 ((upd a0 (0 + (IntKind.i64.wrap ((a0.length : Int) - 1)).toNat) (v3 ++ v4)).length)), (1, .p (.list .str) a1)], [(100000, .row 9 .str (upd a0 (0 + (IntKind.i64.wrap ((a0.length : Int) - 1)).toNat) (v3 ++ v4)) false)]⟩) (by simp only [upd_length, List.length_nil, List.length_replicate]))] (by kernel_rfl) (by kernel_rfl)) ?_
    obtain ⟨v8, hv8, h⟩ := bind_some h
    obtain ⟨g9, h⟩ := if_some h
    refine rS { its := [(2, .v (.list .str) hv8), (3, .g g9)] } [4] [23] hN (by kernel_rfl) (by kernel_rfl) ?_
    refine tnU ?_
    refine WpC.conv (cS [.rn 23 60500, .k [4] [60500]] (by kernel_rfl) (by kernel_rfl)) (WpC.ret ?_)
    have hq := Option.some.inj h
    subst hq
    exact eR (by kernel_rfl) (by kernel_rfl)

theorem expand_bounded_1.ok (O : Out) (hO : GOk O) (k : Nat) (a0 : List UInt8) (out : Bool) (h : expand_bounded_1.f k a0 = some out) : COk Un O Tryz.prog 100 { ar := [.p .str a0], r := .p .bool out } := by
  refine cok_of_wp Tryz.func100 rfl (k := 6) rfl (Nat.le_of_ble_eq_true rfl) (namesOk_pure rfl rfl rfl rfl) ?_
  intro B hN
  refine WpC.conv (cvK (b := ⟨[(0, .p .str a0)], []⟩) [0] [] (by kernel_rfl)) ?_
  unfold expand_bounded_1.f at h
  refine WpC.seq ?_
  refine rS {} [0] [] hN (by kernel_rfl) (by kernel_rfl) ?_
  refine tnU ?_
  refine WpC.seq ?_
  refine rS {} [2] [] hN (by kernel_rfl) (by kernel_rfl) ?_
  refine tnU ?_
  refine WpC.ret ?_
  have hq := Option.some.inj h
  subst hq
  exact eR (by kernel_rfl) (by kernel_rfl)

theorem slices_IndexFunc_string_string_m2.ok (O : Out) (hO : GOk O) (k : Nat) (a0 : List (List UInt8)) (out : Int) (h : slices_IndexFunc_string_string_m2.f k a0 = some out) : COk Un O Tryz.prog 96 { ar := [.p (.list .str) a0, .clo 100 []], r := .p I6 out } := by
  refine cok_of_wp Tryz.func96 rfl (k := 19) rfl (Nat.le_of_ble_eq_true rfl) (namesOk_pure rfl rfl rfl rfl) ?_
  intro B hN
  refine WpC.conv (cvK (b := ⟨[(0, .p (.list .str) a0), (1, .clo 100 [])], []⟩) [0, 1] [] (by kernel_rfl)) ?_
  unfold slices_IndexFunc_string_string_m2.f at h
  refine WpC.seq ?_
  refine rS {} [0, 1] [] hN (by kernel_rfl) (by kernel_rfl) ?_
  refine tnU ?_
  refine sqJ (fun st' => slices_IndexFunc_string_string_m2.j1 k = some out ∧ st' = ⟨[], []⟩) ?_ ?_
  · refine WpC.seq ?_
    refine rS {} [0, 1, 7, 8] [] hN (by kernel_rfl) (by kernel_rfl) ?_
    refine tnU ?_
    refine WpC.block ?_
    obtain ⟨o4, hlo4, h⟩ := bind_some h
    have hout5 := h
    clear h
    refine WpC.loop (U := Un) (fun n st' => ∃ v2 : Int, slices_IndexFunc_string_string_m2.l3 k a0 n v2 = some o4 ∧ st' = ⟨[(0, .p (.list .str) a0), (1, .clo 100 []), (7, .p I6 ((a0.length : Int) : Int)), (8, .p I6 v2)], []⟩) k ⟨0, hlo4, by kernel_rfl⟩ ?_
    clear hlo4
    rintro (_ | n) _ ⟨v2, h, rfl⟩
    · cases h
    · rw [slices_IndexFunc_string_string_m2.l3] at h
      refine WpC.seq ?_
      refine rS {} [0, 1, 7, 8, 9] [] hN (by kernel_rfl) (by kernel_rfl) ?_
      refine tnU ?_
      refine WpC.seq ?_
      refine tS (b := (decide (v2 < (a0.length : Int)))) (by kernel_rfl) (fun hc6 => ?_) (fun hc6 => ?_)
      · replace h := ite_t hc6 h
        refine WpC.conv (cS [.k [0, 1, 7, 8] []] (by kernel_rfl) (by kernel_rfl)) (WpC.skip ?_)
        refine tnU ?_
        refine WpC.seq ?_
        refine WpC.block ?_
        refine WpC.seq ?_
        refine rS {} [0, 1, 5, 7, 8] [] hN (by kernel_rfl) (by kernel_rfl) ?_
        refine tnU ?_
        refine WpC.seq ?_
        obtain ⟨v7, hv7, h⟩ := bind_some h
        obtain ⟨v8, hv8, h⟩ := bind_some h
        refine rS { its := [(3, .v .str hv7), (5, .c (expand_bounded_1.ok O hO k v7 v8 hv8))] } [0, 1, 5, 7, 8, 16] [] hN (by kernel_rfl) (by kernel_rfl) ?_
        refine tnU ?_
        refine tS (b := v8) (by kernel_rfl) (fun hc9 => ?_) (fun hc9 => ?_)
        · replace h := ite_t hc9 h
          refine WpC.seq ?_
          refine rS {} [4] [] hN (by kernel_rfl) (by kernel_rfl) ?_
          refine tnU ?_
          refine WpC.ret ?_
          refine blockQ_ret ?_
          refine thenQ_ret ?_
          have hq := Option.some.inj h
          subst hq
          refine thenQ_ret ?_
          have h := hout5
          refine blockQ_ret ?_
          refine thenQ_ret ?_
          have hq := Option.some.inj h
          subst hq
          exact eR (by kernel_rfl) (by kernel_rfl)
        · replace h := ite_f hc9 h
          refine WpC.conv (cS [.k [0, 1, 7, 8] []] (by kernel_rfl) (by kernel_rfl)) (WpC.skip ?_)
          refine blockQ_normal ?_
          refine tnU ?_
          refine rS {} [0, 1, 7, 8] [] hN (by kernel_rfl) (by kernel_rfl) ?_
          refine tnU ?_
          exact ⟨n, Nat.lt_succ_self n, (IntKind.i64.wrap (v2 + 1)), h, by kernel_rfl⟩
      · replace h := ite_f hc6 h
        refine WpC.conv (cS [.k [] []] (by kernel_rfl) (by kernel_rfl)) (WpC.exit ?_)
        refine thenQ_exit ?_
        have hq := Option.some.inj h
        subst hq
        refine thenQ_exit ?_
        have h := hout5
        refine blockQ_hit ?_
        refine tnU ?_
        exact ⟨h, by kernel_rfl⟩
  · rintro _ ⟨h, rfl⟩
    unfold slices_IndexFunc_string_string_m2.j1 at h
    refine WpC.seq ?_
    refine rS {} [4] [] hN (by kernel_rfl) (by kernel_rfl) ?_
    refine tnU ?_
    refine WpC.ret ?_
    have hq := Option.some.inj h
    subst hq
    exact eR (by kernel_rfl) (by kernel_rfl)

theorem slices_ContainsFunc_string_string_m2.ok (O : Out) (hO : GOk O) (k : Nat) (a0 : List (List UInt8)) (out : Bool) (h : slices_ContainsFunc_string_string_m2.f k a0 = some out) : COk Un O Tryz.prog 64 { ar := [.p (.list .str) a0, .clo 100 []], r := .p .bool out } := by
  refine cok_of_wp Tryz.func64 rfl (k := 9) rfl (Nat.le_of_ble_eq_true rfl) (namesOk_pure rfl rfl rfl rfl) ?_
  intro B hN
  refine WpC.conv (cvK (b := ⟨[(0, .p (.list .str) a0), (1, .clo 100 [])], []⟩) [0, 1] [] (by kernel_rfl)) ?_
  unfold slices_ContainsFunc_string_string_m2.f at h
  refine WpC.seq ?_
  refine rS {} [0, 1] [] hN (by kernel_rfl) (by kernel_rfl) ?_
  refine tnU ?_
  refine WpC.seq ?_
  obtain ⟨v1, hv1, h⟩ := bind_some h
  refine rS { its := [(2, .c (slices_IndexFunc_string_string_m2.ok O hO k a0 v1 hv1))] } [4] [] hN (by kernel_rfl) (by kernel_rfl) ?_
  refine tnU ?_
  refine WpC.ret ?_
  have hq := Option.some.inj h
  subst hq
  exact eR (by kernel_rfl) (by kernel_rfl)

theorem expand_bounded.ok (O : Out) (hO : GOk O) (k : Nat) (a0 : List (List UInt8)) (out : Nat) (h : expand_bounded.f k a0 = some out) : COk Un O Tryz.prog 67 { ar := [.p (.list .str) a0], r := .p .err out } := by
  refine cok_of_wp Tryz.func67 rfl (k := 14) rfl (Nat.le_of_ble_eq_true rfl) (namesOk_pure rfl rfl rfl rfl) ?_
  intro B hN
  refine WpC.conv (cvK (b := ⟨[(0, .p (.list .str) a0)], []⟩) [0] [] (by kernel_rfl)) ?_
  unfold expand_bounded.f at h
  refine WpC.seq ?_
  refine rS {} [0] [] hN (by kernel_rfl) (by kernel_rfl) ?_
  refine tnU ?_
  refine WpC.seq ?_
  refine rS {} [0, 3] [] hN (by kernel_rfl) (by kernel_rfl) ?_
  refine tnU ?_
  refine WpC.seq ?_
  refine WpC.block ?_
  refine WpC.seq ?_
  refine rS {} [0, 3, 4] [] hN (by kernel_rfl) (by kernel_rfl) ?_
  refine tnU ?_
  refine tS (b := (decide ((a0.length : Int) > 40))) (by kernel_rfl) (fun hc1 => ?_) (fun hc1 => ?_)
  · replace h := ite_t hc1 h
    refine WpC.seq ?_
    refine rS { its := [(0, .e 0 (sok_loadG (U := Un) (t := .err) (rs := []) rfl rfl ty_32 rfl rfl (hO.var 9 0 rfl) (fun S w => .err 9)))] } [2] [] hN (by kernel_rfl) (by kernel_rfl) ?_
    refine tnU ?_
    refine WpC.ret ?_
    refine blockQ_ret ?_
    refine thenQ_ret ?_
    have hq := Option.some.inj h
    subst hq
    exact eR (by kernel_rfl) (by kernel_rfl)
  · replace h := ite_f hc1 h
    refine WpC.seq ?_
    obtain ⟨v2, hv2, h⟩ := bind_some h
    refine rS { its := [(2, .c (slices_ContainsFunc_string_string_m2.ok O hO k a0 v2 hv2))] } [9] [] hN (by kernel_rfl) (by kernel_rfl) ?_
    refine tnU ?_
    refine tS (b := v2) (by kernel_rfl) (fun hc3 => ?_) (fun hc3 => ?_)
    · replace h := ite_t hc3 h
      refine WpC.seq ?_
      refine rS { its := [(0, .e 0 (sok_loadG (U := Un) (t := .err) (rs := []) rfl rfl ty_32 rfl rfl (hO.var 1 2 rfl) (fun S w => .err 1)))] } [2] [] hN (by kernel_rfl) (by kernel_rfl) ?_
      refine tnU ?_
      refine WpC.ret ?_
      refine blockQ_ret ?_
      refine thenQ_ret ?_
      have hq := Option.some.inj h
      subst hq
      exact eR (by kernel_rfl) (by kernel_rfl)
    · replace h := ite_f hc3 h
      refine WpC.conv (cS [.k [] []] (by kernel_rfl) (by kernel_rfl)) (WpC.skip ?_)
      refine blockQ_normal ?_
      refine tnU ?_
      refine WpC.seq ?_
      refine rS {} [2] [] hN (by kernel_rfl) (by kernel_rfl) ?_
      refine tnU ?_
      refine WpC.conv (cS [.nE 2, .k [2] []] (by kernel_rfl) (by kernel_rfl)) (WpC.ret ?_)
      have hq := Option.some.inj h
      subst hq
      exact eR (by kernel_rfl) (by kernel_rfl)

theorem expand_expander_word_m0.ok (O : Out) (hO : GOk O) (k : Nat) (a0 : List ((List UInt8) × T_env_Var)) (a1 : List T_expand_Output) (a2 : List T_lex_Piece) (out : (List (List UInt8)) × Nat) (h : expand_expander_word_m0.f k a0 a1 a2 = some out) : COk Un O Tryz.prog 44 { ar := [.agg [.loc 100000 0, .p (.list (.named 4)) a1], .p (.list (.named 5)) a2], r := .tup [.p (.list .str) out.1, .p .err out.2], bs := [(100000, .box [.mp 100001]), (100001, .map (.named 3) a0)], bs' := [(100000, .box [.mp 100001]), (100001, .map (.named 3) a0)] } := by
  refine cok_of_wp Tryz.func44 rfl (k := 57) rfl (Nat.le_of_ble_eq_true rfl) (namesOk_of (by kernel_rfl)) ?_
  intro B hN
  refine WpC.conv (cvK (b := ⟨[(0, .agg [.loc 100000 0, .p (.list (.named 4)) a1]), (1, .p (.list (.named 5)) a2)], [(100000, .box [.mp 100001]), (100001, .map (.named 3) a0)]⟩) [0, 1] [100000, 100001] (by kernel_rfl)) ?_
  unfold expand_expander_word_m0.f at h
  refine WpC.seq ?_
  refine rS {} [1, 2] [2, 100000, 100001] hN (by kernel_rfl) (by kernel_rfl) ?_
  refine tnU ?_
  refine WpC.seq ?_
  refine rS {} [1, 2, 6] [2, 13, 100000, 100001] hN (by kernel_rfl) (by kernel_rfl) ?_
  refine tnU ?_
  refine WpC.seq ?_
  refine rS {} [1, 2, 6, 7] [2, 13, 100000, 100001] hN (by kernel_rfl) (by kernel_rfl) ?_
  refine tnU ?_
  refine sqJ (fun st' => ∃ v1 : List (List UInt8), ∃ v2 : Bool, expand_expander_word_m0.j13 k a0 v1 v2 = some out ∧ st' = ⟨[(6, .vec 1006 1 0 v1.length), (7, .p .bool v2)], [(1006, .row 9 .str v1 false), (100000, .box [.mp 100001]), (100001, .map (.named 3) a0)]⟩) ?_ ?_
  · refine WpC.seq ?_
    refine rS {} [2, 6, 7, 14, 15, 16] [2, 13, 100000, 100001] hN (by kernel_rfl) (by kernel_rfl) ?_
    refine tnU ?_
    refine WpC.block ?_
    obtain ⟨o20, hlo20, h⟩ := bind_some h
    have hout21 := h
    clear h
    refine WpC.conv (cS [.lo 13, .k [2, 6, 7, 14, 15, 16] [2, 13, 100000, 100001], .rn 13 1006, .k [2, 6, 7, 14, 15, 16] [2, 1006, 100000, 100001]] (by kernel_rfl) (by kernel_rfl)) ?_
    refine WpC.loop (U := Un) (fun n st' => ∃ v14 : List (List UInt8), ∃ v15 : Bool, ∃ v16 : Int, expand_expander_word_m0.l17 k a0 a1 a2 n v14 v15 v16 = some o20 ∧ st' = ⟨[(2, .loc 2 0), (6, .vec 1006 1 0 v14.length), (7, .p .bool v15), (14, .p (.list (.named 5)) a2), (15, .p I6 ((a2.length : Int) : Int)), (16, .p I6 v16)], [(2, .box [.loc 100000 0, .p (.list (.named 4)) a1]), (1006, .row 9 .str v14 false), (100000, .box [.mp 100001]), (100001, .map (.named 3) a0)]⟩) k ⟨[([] : List UInt8)], true, 0, hlo20, by kernel_rfl⟩ ?_
    clear hlo20
    rintro (_ | n) _ ⟨v14, v15, v16, h, rfl⟩
    · cases h
    · rw [expand_expander_word_m0.l17] at h
      refine WpC.seq ?_
      refine rS {} [2, 6, 7, 14, 15, 16, 17] [2, 1006, 100000, 100001] hN (by kernel_rfl) (by kernel_rfl) ?_
      refine tnU ?_
      refine WpC.seq ?_
      refine tS (b := (decide (v16 < (a2.length : Int)))) (by kernel_rfl) (fun hc22 => ?_) (fun hc22 => ?_)
      · replace h := ite_t hc22 h
        refine WpC.conv (cS [.k [2, 6, 7, 14, 15, 16] [2, 1006, 100000, 100001]] (by kernel_rfl) (by kernel_rfl)) (WpC.skip ?_)
        refine tnU ?_
        refine sqJ (fun st' => ∃ v23 : List (List UInt8), ∃ v24 : Bool, expand_expander_word_m0.j25 k (expand_expander_word_m0.l17 k a0 a1 a2 n) a0 a1 a2 v16 v23 v24 = some o20 ∧ st' = ⟨[(2, .loc 2 0), (6, .vec 1006 1 0 v23.length), (7, .p .bool v24), (14, .p (.list (.named 5)) a2), (15, .p I6 ((a2.length : Int) : Int)), (16, .p I6 v16)], [(2, .box [.loc 100000 0, .p (.list (.named 4)) a1]), (1006, .row 9 .str v23 false), (100000, .box [.mp 100001]), (100001, .map (.named 3) a0)]⟩) ?_ ?_
        · refine WpC.block ?_
          refine WpC.seq ?_
          obtain ⟨v26, hv26, h⟩ := bind_some h
          refine rS { its := [(0, .v (.named 5) hv26)] } [2, 6, 7, 9, 14, 15, 16] [2, 9, 1006, 100000, 100001] hN (by kernel_rfl) (by kernel_rfl) ?_
          refine tnU ?_
          refine WpC.seq ?_
          obtain ⟨v27, hv27, h⟩ := bind_some h
          refine rS { its := [(2, .c (COk.ren (expand_expander_piece_m0.ok O hO k a0 a1 (T_lex_Piece.mk v26.f_Kind v26.f_Text v26.f_From v26.f_To) v27 hv27) (fun n => if n = 100000 then 100000 else if n = 100001 then 100001 else n) (injOn_of (by kernel_rfl))))] } [2, 6, 7, 9, 10, 11, 14, 15, 16] [2, 9, 1006, 100000, 100001] hN (by kernel_rfl) (by kernel_rfl) ?_
          refine tnU ?_
          refine WpC.seq ?_
          refine WpC.seq ?_
          refine rS {} [2, 6, 7, 9, 10, 11, 14, 15, 16, 27] [2, 9, 1006, 100000, 100001] hN (by kernel_rfl) (by kernel_rfl) ?_
          refine tnU ?_
          refine tS (b := (!(v27.2 == 0))) (by kernel_rfl) (fun hc28 => ?_) (fun hc28 => ?_)
          · replace h := ite_t hc28 h
            refine WpC.seq ?_
            refine rS {} [4, 5] [100000, 100001] hN (by kernel_rfl) (by kernel_rfl) ?_
            refine tnU ?_
            refine WpC.conv (cS [.nL 4 .str, .k [4, 5] [100000, 100001]] (by kernel_rfl) (by kernel_rfl)) (WpC.ret ?_)
            refine thenQ_ret ?_
            refine blockQ_ret ?_
            refine thenQ_ret ?_
            have hq := Option.some.inj h
            subst hq
            refine thenQ_ret ?_
            have h := hout21
            refine blockQ_ret ?_
            refine thenQ_ret ?_
            have hq := Option.some.inj h
            subst hq
            exact eR (by kernel_rfl) (by kernel_rfl)
          · replace h := ite_f hc28 h
            refine WpC.conv (cS [.k [2, 6, 7, 9, 10, 14, 15, 16] [2, 9, 1006, 100000, 100001]] (by kernel_rfl) (by kernel_rfl)) (WpC.skip ?_)
            refine tnU ?_
            refine WpC.seq ?_
            obtain ⟨v29, hv29, h⟩ := bind_some h
            refine rS { its := [(2, .c (COk.ren (expand_joined_m0.ok O hO k v14 v27.1 v29 hv29) (fun n => if n = 60500 then 10001 else if n = 100000 then 1006 else n) (injOn_of (by kernel_rfl))))] } [2, 6, 7, 9, 14, 15, 16] [2, 9, 10001, 100000, 100001] hN (by kernel_rfl) (by kernel_rfl) ?_
            refine tnU ?_
            rcases bool_cases v15 with hc30 | hc30
            · replace h := ite_t hc30 h
              refine rSC { kn := [(33, .t hc30)] } [2, 6, 7, 14, 15, 16] [2, 10001, 100000, 100001] hN (by kernel_rfl) (by kernel_rfl) (cS [.rn 10001 1006, .k [2, 6, 7, 14, 15, 16] [2, 1006, 100000, 100001]] (by kernel_rfl) (by kernel_rfl)) ?_
              refine blockQ_normal ?_
              refine tnU ?_
              exact ⟨v29, (v26.f_Kind != 1), h, by kernel_rfl⟩
            · replace h := ite_f hc30 h
              refine rSC { kn := [(33, .f hc30)] } [2, 6, 7, 14, 15, 16] [2, 10001, 100000, 100001] hN (by kernel_rfl) (by kernel_rfl) (cS [.rn 10001 1006, .k [2, 6, 7, 14, 15, 16] [2, 1006, 100000, 100001]] (by kernel_rfl) (by kernel_rfl)) ?_
              refine blockQ_normal ?_
              refine tnU ?_
              exact ⟨v29, false, h, by kernel_rfl⟩
        · rintro _ ⟨v23, v24, h, rfl⟩
          unfold expand_expander_word_m0.j25 at h
          refine rS {} [2, 6, 7, 14, 15, 16] [2, 1006, 100000, 100001] hN (by kernel_rfl) (by kernel_rfl) ?_
          refine tnU ?_
          exact ⟨n, Nat.lt_succ_self n, v23, v24, (IntKind.i64.wrap (v16 + 1)), h, by kernel_rfl⟩
      · replace h := ite_f hc22 h
        refine WpC.conv (cS [.k [6, 7] [1006, 100000, 100001]] (by kernel_rfl) (by kernel_rfl)) (WpC.exit ?_)
        refine thenQ_exit ?_
        have hq := Option.some.inj h
        subst hq
        refine thenQ_exit ?_
        have h := hout21
        refine blockQ_hit ?_
        refine tnU ?_
        exact ⟨v14, v15, h, by kernel_rfl⟩
  · rintro _ ⟨v1, v2, h, rfl⟩
    unfold expand_expander_word_m0.j13 at h
    refine sqJ (fun st' => expand_expander_word_m0.j5 k a0 v1 = some out ∧ st' = ⟨[(6, .vec 1006 1 0 v1.length)], [(1006, .row 9 .str v1 false), (100000, .box [.mp 100001]), (100001, .map (.named 3) a0)]⟩) ?_ ?_
    · refine sqJ (fun st' => ∃ v6 : Bool, expand_expander_word_m0.j8 k a0 v1 v6 = some out ∧ st' = ⟨[(6, .vec 1006 1 0 v1.length), (50, .p .bool v6)], [(1006, .row 9 .str v1 false), (100000, .box [.mp 100001]), (100001, .map (.named 3) a0)]⟩) ?_ ?_
      · rcases bool_cases ((v1.length : Int) == 1) with hc9 | hc9
        · replace h := ite_t hc9 h
          obtain ⟨g10, h⟩ := if_some h
          obtain ⟨v11, hv11, h⟩ := bind_some h
          rcases bool_cases (v11 == ([] : List UInt8)) with hc12 | hc12
          · replace h := ite_t hc12 h
            refine rS { its := [(5, .g g10), (6, .v .str hv11)], kn := [(42, .t hc9), (48, .t hc12)] } [6, 50] [1006, 100000, 100001] hN (by kernel_rfl) (by kernel_rfl) ?_
            refine tnU ?_
            exact ⟨v2, h, by kernel_rfl⟩
          · replace h := ite_f hc12 h
            refine rS { its := [(5, .g g10), (6, .v .str hv11)], kn := [(42, .t hc9), (48, .f hc12)] } [6, 50] [1006, 100000, 100001] hN (by kernel_rfl) (by kernel_rfl) ?_
            refine tnU ?_
            exact ⟨false, h, by kernel_rfl⟩
        · replace h := ite_f hc9 h
          refine rS { kn := [(42, .f hc9)] } [6, 50] [1006, 100000, 100001] hN (by kernel_rfl) (by kernel_rfl) ?_
          refine tnU ?_
          exact ⟨false, h, by kernel_rfl⟩
      · rintro _ ⟨v6, h, rfl⟩
        unfold expand_expander_word_m0.j8 at h
        refine tS (b := v6) (by kernel_rfl) (fun hc7 => ?_) (fun hc7 => ?_)
        · replace h := ite_t hc7 h
          refine WpC.seq ?_
          refine rS {} [4, 5] [100000, 100001] hN (by kernel_rfl) (by kernel_rfl) ?_
          refine tnU ?_
          refine WpC.conv (cS [.nL 4 .str, .k [4, 5] [100000, 100001], .nE 5, .k [4, 5] [100000, 100001]] (by kernel_rfl) (by kernel_rfl)) (WpC.ret ?_)
          refine thenQ_ret ?_
          have hq := Option.some.inj h
          subst hq
          exact eR (by kernel_rfl) (by kernel_rfl)
        · replace h := ite_f hc7 h
          refine WpC.conv (cS [.k [6] [1006, 100000, 100001]] (by kernel_rfl) (by kernel_rfl)) (WpC.skip ?_)
          refine tnU ?_
          exact ⟨h, by kernel_rfl⟩
    · rintro _ ⟨h, rfl⟩
      unfold expand_expander_word_m0.j5 at h
      refine WpC.seq ?_
      refine WpC.seq ?_
      obtain ⟨v3, hv3, h⟩ := bind_some h
      refine rS { its := [(1, .c (expand_bounded.ok O hO k v1 v3 hv3))] } [6, 12] [1006, 100000, 100001] hN (by kernel_rfl) (by kernel_rfl) ?_
      refine tnU ?_
      refine WpC.seq ?_
      refine rS {} [6, 12, 54] [1006, 100000, 100001] hN (by kernel_rfl) (by kernel_rfl) ?_
      refine tnU ?_
      refine tS (b := (!(v3 == 0))) (by kernel_rfl) (fun hc4 => ?_) (fun hc4 => ?_)
      · replace h := ite_t hc4 h
        refine WpC.seq ?_
        refine rS {} [4, 5] [100000, 100001] hN (by kernel_rfl) (by kernel_rfl) ?_
        refine tnU ?_
        refine WpC.conv (cS [.nL 4 .str, .k [4, 5] [100000, 100001]] (by kernel_rfl) (by kernel_rfl)) (WpC.ret ?_)
        refine thenQ_ret ?_
        have hq := Option.some.inj h
        subst hq
        exact eR (by kernel_rfl) (by kernel_rfl)
      · replace h := ite_f hc4 h
        refine WpC.conv (cS [.k [6] [1006, 100000, 100001]] (by kernel_rfl) (by kernel_rfl)) (WpC.skip ?_)
        refine tnU ?_
        refine WpC.seq ?_
        refine rS {} [4, 5] [1006, 100000, 100001] hN (by kernel_rfl) (by kernel_rfl) ?_
        refine tnU ?_
        refine WpC.conv (cS [.fz 4, .k [4, 5] [100000, 100001], .nE 5, .k [4, 5] [100000, 100001]] (by kernel_rfl) (by kernel_rfl)) (WpC.ret ?_)
        have hq := Option.some.inj h
        subst hq
        exact eR (by kernel_rfl) (by kernel_rfl)

theorem expand_Word_m0.ok (O : Out) (hO : GOk O) (k : Nat) (a0 : List T_lex_Piece) (a1 : List ((List UInt8) × T_env_Var)) (a2 : List T_expand_Output) (out : (List (List UInt8)) × Nat) (h : expand_Word_m0.f k a0 a1 a2 = some out) : COk Un O Tryz.prog 26 { ar := [.p (.list (.named 5)) a0, .loc 100000 0, .p (.list (.named 4)) a2], r := .tup [.p (.list .str) out.1, .p .err out.2], bs := [(100000, .box [.mp 100001]), (100001, .map (.named 3) a1)], bs' := [(100000, .box [.mp 100001]), (100001, .map (.named 3) a1)] } := by
  refine cok_of_wp Tryz.func26 rfl (k := 15) rfl (Nat.le_of_ble_eq_true rfl) (namesOk_of (by kernel_rfl)) ?_
  intro B hN
  refine WpC.conv (cvK (b := ⟨[(0, .p (.list (.named 5)) a0), (1, .loc 100000 0), (2, .p (.list (.named 4)) a2)], [(100000, .box [.mp 100001]), (100001, .map (.named 3) a1)]⟩) [0, 1, 2] [100000, 100001] (by kernel_rfl)) ?_
  unfold expand_Word_m0.f at h
  refine WpC.seq ?_
  refine rS {} [0, 1, 2] [100000, 100001] hN (by kernel_rfl) (by kernel_rfl) ?_
  refine tnU ?_
  refine WpC.seq ?_
  obtain ⟨v1, hv1, h⟩ := bind_some h
  refine rS { its := [(4, .c (COk.ren (expand_expander_word_m0.ok O hO k a1 a2 a0 v1 hv1) (fun n => if n = 100000 then 100000 else if n = 100001 then 100001 else n) (injOn_of (by kernel_rfl))))] } [6, 7] [100000, 100001] hN (by kernel_rfl) (by kernel_rfl) ?_
  refine tnU ?_
  refine WpC.ret ?_
  have hq := Option.some.inj h
  subst hq
  exact eR (by kernel_rfl) (by kernel_rfl)

end Go.Proofs.YtldepagjdbcmgaaGreatDoor
