/- A part of the proof of a given law: IPC0. Own work, printed in part by a program of mine. -/
import Derived.Test.YtldepagjdbcmgaaGreatDoorK25IPF
namespace Go.Proofs.YtldepagjdbcmgaaGreatDoor
open Go Go.AM
set_option linter.unusedVariables false
set_option linter.unusedSimpArgs false
set_option maxRecDepth 100000
set_option maxHeartbeats 4000000
theorem attr_Attr_Has.ok (O : Out) (hO : GOk O) (k : Nat) (a0 : T_attr_Attr) (a1 : Int) (out : Bool) (h : attr_Attr_Has.f k a0 a1 = some out) : COk Un O Tryz.prog 121 { ar := [.p (.named 8) a0, .p I6 a1], r := .p .bool out } := by
  refine cok_of_wp Tryz.func121 rfl (k := 11) rfl (Nat.le_of_ble_eq_true rfl) (namesOk_pure rfl rfl rfl rfl) ?_
  intro B hN
  refine WpC.conv (cvK (b := ⟨[(0, .p (.named 8) a0), (1, .p I6 a1)], []⟩) [0, 1] [] (by kernel_rfl)) ?_
  unfold attr_Attr_Has.f at h
  refine WpC.seq ?_
  refine rS {} [1, 2] [2] hN (by kernel_rfl) (by kernel_rfl) ?_
  refine tnU ?_
  refine WpC.seq ?_
  refine rS {} [4] [] hN (by kernel_rfl) (by kernel_rfl) ?_
  refine tnU ?_
  refine WpC.ret ?_
  have hq := Option.some.inj h
  subst hq
  exact eR (by kernel_rfl) (by kernel_rfl)

theorem stem_wild.ok (O : Out) (hO : GOk O) (k : Nat) (a0 : Int) (out : Bool) (h : stem_wild.f k a0 = some out) : COk Un O Tryz.prog 139 { ar := [.p (.int .u8) a0], r := .p .bool out } := by
  refine cok_of_wp Tryz.func139 rfl (k := 6) rfl (Nat.le_of_ble_eq_true rfl) (namesOk_pure rfl rfl rfl rfl) ?_
  intro B hN
  refine WpC.conv (cvK (b := ⟨[(0, .p (.int .u8) a0)], []⟩) [0] [] (by kernel_rfl)) ?_
  unfold stem_wild.f at h
  refine WpC.seq ?_
  refine rS {} [0] [] hN (by kernel_rfl) (by kernel_rfl) ?_
  refine tnU ?_
  refine WpC.seq ?_
  obtain ⟨v1, hv1, h⟩ := bind_some h
  refine rS { its := [(1, .c (pIndexByte.ok O hO k ([37, 38] : List UInt8) a0 v1 hv1))] } [2] [] hN (by kernel_rfl) (by kernel_rfl) ?_
  refine tnU ?_
  refine WpC.ret ?_
  have hq := Option.some.inj h
  subst hq
  exact eR (by kernel_rfl) (by kernel_rfl)

theorem stem_Wild.ok (O : Out) (hO : GOk O) (k : Nat) (a0 : List UInt8) (out : Int) (h : stem_Wild.f k a0 = some out) : COk Un O Tryz.prog 120 { ar := [.p .str a0], r := .p I6 out } := by
  refine cok_of_wp Tryz.func120 rfl (k := 15) rfl (Nat.le_of_ble_eq_true rfl) (namesOk_pure rfl rfl rfl rfl) ?_
  intro B hN
  refine WpC.conv (cvK (b := ⟨[(0, .p .str a0)], []⟩) [0] [] (by kernel_rfl)) ?_
  unfold stem_Wild.f at h
  refine WpC.seq ?_
  refine rS {} [0] [] hN (by kernel_rfl) (by kernel_rfl) ?_
  refine tnU ?_
  refine sqJ (fun st' => stem_Wild.j1 k = some out ∧ st' = ⟨[], []⟩) ?_ ?_
  · refine WpC.seq ?_
    refine rS {} [0, 5, 6] [] hN (by kernel_rfl) (by kernel_rfl) ?_
    refine tnU ?_
    refine WpC.block ?_
    obtain ⟨o4, hlo4, h⟩ := bind_some h
    have hout5 := h
    clear h
    refine WpC.loop (U := Un) (fun n st' => ∃ v2 : Int, stem_Wild.l3 k a0 n v2 = some o4 ∧ st' = ⟨[(0, .p .str a0), (5, .p I6 ((a0.length : Int) : Int)), (6, .p I6 v2)], []⟩) k ⟨0, hlo4, by kernel_rfl⟩ ?_
    clear hlo4
    rintro (_ | n) _ ⟨v2, h, rfl⟩
    · cases h
    · rw [stem_Wild.l3] at h
      refine WpC.seq ?_
      refine rS {} [0, 5, 6, 7] [] hN (by kernel_rfl) (by kernel_rfl) ?_
      refine tnU ?_
      refine WpC.seq ?_
      refine tS (b := (decide (v2 < (a0.length : Int)))) (by kernel_rfl) (fun hc6 => ?_) (fun hc6 => ?_)
      · replace h := ite_t hc6 h
        refine WpC.conv (cS [.k [0, 5, 6] []] (by kernel_rfl) (by kernel_rfl)) (WpC.skip ?_)
        refine tnU ?_
        refine WpC.seq ?_
        refine WpC.block ?_
        refine WpC.seq ?_
        refine rS {} [0, 3, 5, 6] [] hN (by kernel_rfl) (by kernel_rfl) ?_
        refine tnU ?_
        refine WpC.seq ?_
        obtain ⟨v7, hv7, h⟩ := bind_some h
        obtain ⟨v8, hv8, h⟩ := bind_some h
        refine rS { its := [(2, .u hv7), (3, .c (stem_wild.ok O hO k (v7.toNat : Int) v8 hv8))] } [0, 3, 5, 6, 12] [] hN (by kernel_rfl) (by kernel_rfl) ?_
        refine tnU ?_
        refine tS (b := v8) (by kernel_rfl) (fun hc9 => ?_) (fun hc9 => ?_)
        · replace h := ite_t hc9 h
          refine WpC.seq ?_
          refine rS {} [2] [] hN (by kernel_rfl) (by kernel_rfl) ?_
          refine tnU ?_
          refine WpC.ret ?_
          refine blockQ_ret ?_
          refine thenQ_ret ?_
          have hq := Option.some.inj h
          subst hq
          refine thenQ_ret ?_
          have h := hout5
          refine blockQ_ret ?_
          refine thenQ_ret ?_
          have hq := Option.some.inj h
          subst hq
          exact eR (by kernel_rfl) (by kernel_rfl)
        · replace h := ite_f hc9 h
          refine WpC.conv (cS [.k [0, 5, 6] []] (by kernel_rfl) (by kernel_rfl)) (WpC.skip ?_)
          refine blockQ_normal ?_
          refine tnU ?_
          refine rS {} [0, 5, 6] [] hN (by kernel_rfl) (by kernel_rfl) ?_
          refine tnU ?_
          exact ⟨n, Nat.lt_succ_self n, (IntKind.i64.wrap (v2 + 1)), h, by kernel_rfl⟩
      · replace h := ite_f hc6 h
        refine WpC.conv (cS [.k [] []] (by kernel_rfl) (by kernel_rfl)) (WpC.exit ?_)
        refine thenQ_exit ?_
        have hq := Option.some.inj h
        subst hq
        refine thenQ_exit ?_
        have h := hout5
        refine blockQ_hit ?_
        refine tnU ?_
        exact ⟨h, by kernel_rfl⟩
  · rintro _ ⟨h, rfl⟩
    unfold stem_Wild.j1 at h
    refine WpC.seq ?_
    refine rS {} [2] [] hN (by kernel_rfl) (by kernel_rfl) ?_
    refine tnU ?_
    refine WpC.ret ?_
    have hq := Option.some.inj h
    subst hq
    exact eR (by kernel_rfl) (by kernel_rfl)

theorem table_Kind_1.ok (O : Out) (hO : GOk O) (k : Nat) (a0 : List UInt8) (out : Bool) (h : table_Kind_1.f k a0 = some out) : COk Un O Tryz.prog 119 { ar := [.p .str a0], r := .p .bool out } := by
  refine cok_of_wp Tryz.func119 rfl (k := 6) rfl (Nat.le_of_ble_eq_true rfl) (namesOk_pure rfl rfl rfl rfl) ?_
  intro B hN
  refine WpC.conv (cvK (b := ⟨[(0, .p .str a0)], []⟩) [0] [] (by kernel_rfl)) ?_
  unfold table_Kind_1.f at h
  refine WpC.seq ?_
  refine rS {} [0] [] hN (by kernel_rfl) (by kernel_rfl) ?_
  refine tnU ?_
  refine WpC.seq ?_
  obtain ⟨v1, hv1, h⟩ := bind_some h
  refine rS { its := [(1, .c (stem_Wild.ok O hO k a0 v1 hv1))] } [2] [] hN (by kernel_rfl) (by kernel_rfl) ?_
  refine tnU ?_
  refine WpC.ret ?_
  have hq := Option.some.inj h
  subst hq
  exact eR (by kernel_rfl) (by kernel_rfl)

theorem slices_IndexFunc_string_string_m0.ok (O : Out) (hO : GOk O) (k : Nat) (a0 : List (List UInt8)) (out : Int) (h : slices_IndexFunc_string_string_m0.f k a0 = some out) : COk Un O Tryz.prog 96 { ar := [.p (.list .str) a0, .clo 119 []], r := .p I6 out } := by
  refine cok_of_wp Tryz.func96 rfl (k := 19) rfl (Nat.le_of_ble_eq_true rfl) (namesOk_pure rfl rfl rfl rfl) ?_
  intro B hN
  refine WpC.conv (cvK (b := ⟨[(0, .p (.list .str) a0), (1, .clo 119 [])], []⟩) [0, 1] [] (by kernel_rfl)) ?_
  unfold slices_IndexFunc_string_string_m0.f at h
  refine WpC.seq ?_
  refine rS {} [0, 1] [] hN (by kernel_rfl) (by kernel_rfl) ?_
  refine tnU ?_
  refine sqJ (fun st' => slices_IndexFunc_string_string_m0.j1 k = some out ∧ st' = ⟨[], []⟩) ?_ ?_
  · refine WpC.seq ?_
    refine rS {} [0, 1, 7, 8] [] hN (by kernel_rfl) (by kernel_rfl) ?_
    refine tnU ?_
    refine WpC.block ?_
    obtain ⟨o4, hlo4, h⟩ := bind_some h
    have hout5 := h
    clear h
    refine WpC.loop (U := Un) (fun n st' => ∃ v2 : Int, slices_IndexFunc_string_string_m0.l3 k a0 n v2 = some o4 ∧ st' = ⟨[(0, .p (.list .str) a0), (1, .clo 119 []), (7, .p I6 ((a0.length : Int) : Int)), (8, .p I6 v2)], []⟩) k ⟨0, hlo4, by kernel_rfl⟩ ?_
    clear hlo4
    rintro (_ | n) _ ⟨v2, h, rfl⟩
    · cases h
    · rw [slices_IndexFunc_string_string_m0.l3] at h
      refine WpC.seq ?_
      refine rS {} [0, 1, 7, 8, 9] [] hN (by kernel_rfl) (by kernel_rfl) ?_
      refine tnU ?_
      refine WpC.seq ?_
      refine tS (b := (decide (v2 < (a0.length : Int)))) (by kernel_rfl) (fun hc6 => ?_) (fun hc6 => ?_)
      · replace h := ite_t hc6 h
        refine WpC.conv (cS [.k [0, 1, 7, 8] []] (by kernel_rfl) (by kernel_rfl)) (WpC.skip ?_)
        refine tnU ?_
        refine WpC.seq ?_
        refine WpC.block ?_
        refine WpC.seq ?_
        refine rS {} [0, 1, 5, 7, 8] [] hN (by kernel_rfl) (by kernel_rfl) ?_
        refine tnU ?_
        refine WpC.seq ?_
        obtain ⟨v7, hv7, h⟩ := bind_some h
        obtain ⟨v8, hv8, h⟩ := bind_some h
        refine rS { its := [(3, .v .str hv7), (5, .c (table_Kind_1.ok O hO k v7 v8 hv8))] } [0, 1, 5, 7, 8, 16] [] hN (by kernel_rfl) (by kernel_rfl) ?_
        refine tnU ?_
        refine tS (b := v8) (by kernel_rfl) (fun hc9 => ?_) (fun hc9 => ?_)
        · replace h := ite_t hc9 h
          refine WpC.seq ?_
          refine rS {} [4] [] hN (by kernel_rfl) (by kernel_rfl) ?_
          refine tnU ?_
          refine WpC.ret ?_
          refine blockQ_ret ?_
          refine thenQ_ret ?_
          have hq := Option.some.inj h
          subst hq
          refine thenQ_ret ?_
          have h := hout5
          refine blockQ_ret ?_
          refine thenQ_ret ?_
          have hq := Option.some.inj h
          subst hq
          exact eR (by kernel_rfl) (by kernel_rfl)
        · replace h := ite_f hc9 h
          refine WpC.conv (cS [.k [0, 1, 7, 8] []] (by kernel_rfl) (by kernel_rfl)) (WpC.skip ?_)
          refine blockQ_normal ?_
          refine tnU ?_
          refine rS {} [0, 1, 7, 8] [] hN (by kernel_rfl) (by kernel_rfl) ?_
          refine tnU ?_
          exact ⟨n, Nat.lt_succ_self n, (IntKind.i64.wrap (v2 + 1)), h, by kernel_rfl⟩
      · replace h := ite_f hc6 h
        refine WpC.conv (cS [.k [] []] (by kernel_rfl) (by kernel_rfl)) (WpC.exit ?_)
        refine thenQ_exit ?_
        have hq := Option.some.inj h
        subst hq
        refine thenQ_exit ?_
        have h := hout5
        refine blockQ_hit ?_
        refine tnU ?_
        exact ⟨h, by kernel_rfl⟩
  · rintro _ ⟨h, rfl⟩
    unfold slices_IndexFunc_string_string_m0.j1 at h
    refine WpC.seq ?_
    refine rS {} [4] [] hN (by kernel_rfl) (by kernel_rfl) ?_
    refine tnU ?_
    refine WpC.ret ?_
    have hq := Option.some.inj h
    subst hq
    exact eR (by kernel_rfl) (by kernel_rfl)

theorem slices_ContainsFunc_string_string_m0.ok (O : Out) (hO : GOk O) (k : Nat) (a0 : List (List UInt8)) (out : Bool) (h : slices_ContainsFunc_string_string_m0.f k a0 = some out) : COk Un O Tryz.prog 64 { ar := [.p (.list .str) a0, .clo 119 []], r := .p .bool out } := by
  refine cok_of_wp Tryz.func64 rfl (k := 9) rfl (Nat.le_of_ble_eq_true rfl) (namesOk_pure rfl rfl rfl rfl) ?_
  intro B hN
  refine WpC.conv (cvK (b := ⟨[(0, .p (.list .str) a0), (1, .clo 119 [])], []⟩) [0, 1] [] (by kernel_rfl)) ?_
  unfold slices_ContainsFunc_string_string_m0.f at h
  refine WpC.seq ?_
  refine rS {} [0, 1] [] hN (by kernel_rfl) (by kernel_rfl) ?_
  refine tnU ?_
  refine WpC.seq ?_
  obtain ⟨v1, hv1, h⟩ := bind_some h
  refine rS { its := [(2, .c (slices_IndexFunc_string_string_m0.ok O hO k a0 v1 hv1))] } [4] [] hN (by kernel_rfl) (by kernel_rfl) ?_
  refine tnU ?_
  refine WpC.ret ?_
  have hq := Option.some.inj h
  subst hq
  exact eR (by kernel_rfl) (by kernel_rfl)

theorem table_Kind.ok (O : Out) (hO : GOk O) (k : Nat) (a0 : T_load_Rule) (out : Int) (h : table_Kind.f k a0 = some out) : COk Un O Tryz.prog 91 { ar := [.p (.named 9) a0], r := .p I6 out } := by
  refine cok_of_wp Tryz.func91 rfl (k := 13) rfl (Nat.le_of_ble_eq_true rfl) (namesOk_pure rfl rfl rfl rfl) ?_
  intro B hN
  refine WpC.conv (cvK (b := ⟨[(0, .p (.named 9) a0)], []⟩) [0] [] (by kernel_rfl)) ?_
  unfold table_Kind.f at h
  refine WpC.seq ?_
  refine rS {} [1] [1] hN (by kernel_rfl) (by kernel_rfl) ?_
  refine tnU ?_
  refine WpC.seq ?_
  refine rS {} [1, 3] [1] hN (by kernel_rfl) (by kernel_rfl) ?_
  refine tnU ?_
  refine WpC.seq ?_
  refine WpC.block ?_
  refine WpC.seq ?_
  obtain ⟨v1, hv1, h⟩ := bind_some h
  refine rS { its := [(2, .c (attr_Attr_Has.ok O hO k (T_attr_Attr.mk a0.f_Attr.f_Flags a0.f_Attr.f_Prog) 32 v1 hv1))] } [1, 3, 4] [1] hN (by kernel_rfl) (by kernel_rfl) ?_
  refine tnU ?_
  refine tS (b := v1) (by kernel_rfl) (fun hc2 => ?_) (fun hc2 => ?_)
  · replace h := ite_t hc2 h
    refine WpC.seq ?_
    refine rS {} [2] [] hN (by kernel_rfl) (by kernel_rfl) ?_
    refine tnU ?_
    refine WpC.ret ?_
    refine blockQ_ret ?_
    refine thenQ_ret ?_
    have hq := Option.some.inj h
    subst hq
    exact eR (by kernel_rfl) (by kernel_rfl)
  · replace h := ite_f hc2 h
    refine WpC.seq ?_
    obtain ⟨v3, hv3, h⟩ := bind_some h
    refine rS { its := [(3, .c (slices_ContainsFunc_string_string_m0.ok O hO k a0.f_Targets v3 hv3))] } [8] [] hN (by kernel_rfl) (by kernel_rfl) ?_
    refine tnU ?_
    refine tS (b := v3) (by kernel_rfl) (fun hc4 => ?_) (fun hc4 => ?_)
    · replace h := ite_t hc4 h
      refine WpC.seq ?_
      refine rS {} [2] [] hN (by kernel_rfl) (by kernel_rfl) ?_
      refine tnU ?_
      refine WpC.ret ?_
      refine blockQ_ret ?_
      refine thenQ_ret ?_
      have hq := Option.some.inj h
      subst hq
      exact eR (by kernel_rfl) (by kernel_rfl)
    · replace h := ite_f hc4 h
      refine WpC.conv (cS [.k [] []] (by kernel_rfl) (by kernel_rfl)) (WpC.skip ?_)
      refine blockQ_normal ?_
      refine tnU ?_
      refine WpC.seq ?_
      refine rS {} [2] [] hN (by kernel_rfl) (by kernel_rfl) ?_
      refine tnU ?_
      refine WpC.ret ?_
      have hq := Option.some.inj h
      subst hq
      exact eR (by kernel_rfl) (by kernel_rfl)

theorem names_Right.ok (O : Out) (hO : GOk O) (k : Nat) (a0 : List UInt8) (out : Bool) (h : names_Right.f k a0 = some out) : COk Un O Tryz.prog 63 { ar := [.p .str a0], r := .p .bool out } := by
  refine cok_of_wp Tryz.func63 rfl (k := 28) rfl (Nat.le_of_ble_eq_true rfl) (namesOk_pure rfl rfl rfl rfl) ?_
  intro B hN
  refine WpC.conv (cvK (b := ⟨[(0, .p .str a0)], []⟩) [0] [] (by kernel_rfl)) ?_
  unfold names_Right.f at h
  refine WpC.seq ?_
  refine rS {} [0] [] hN (by kernel_rfl) (by kernel_rfl) ?_
  refine tnU ?_
  refine sqJ (fun st' => names_Right.j16 k a0 = some out ∧ st' = ⟨[(0, .p .str a0)], []⟩) ?_ ?_
  · refine sqJ (fun st' => ∃ v17 : Bool, names_Right.j19 k a0 v17 = some out ∧ st' = ⟨[(0, .p .str a0), (11, .p .bool v17)], []⟩) ?_ ?_
    · rcases bool_cases (decide ((a0.length : Int) < 1)) with hc20 | hc20
      · replace h := ite_t hc20 h
        refine rS { kn := [(7, .t hc20)] } [0, 11] [] hN (by kernel_rfl) (by kernel_rfl) ?_
        refine tnU ?_
        exact ⟨true, h, by kernel_rfl⟩
      · replace h := ite_f hc20 h
        refine rS { kn := [(7, .f hc20)] } [0, 11] [] hN (by kernel_rfl) (by kernel_rfl) ?_
        refine tnU ?_
        exact ⟨(decide ((a0.length : Int) > 40)), h, by kernel_rfl⟩
    · rintro _ ⟨v17, h, rfl⟩
      unfold names_Right.j19 at h
      refine tS (b := v17) (by kernel_rfl) (fun hc18 => ?_) (fun hc18 => ?_)
      · replace h := ite_t hc18 h
        refine WpC.seq ?_
        refine rS {} [2] [] hN (by kernel_rfl) (by kernel_rfl) ?_
        refine tnU ?_
        refine WpC.ret ?_
        refine thenQ_ret ?_
        have hq := Option.some.inj h
        subst hq
        exact eR (by kernel_rfl) (by kernel_rfl)
      · replace h := ite_f hc18 h
        refine WpC.conv (cS [.k [0] []] (by kernel_rfl) (by kernel_rfl)) (WpC.skip ?_)
        refine tnU ?_
        exact ⟨h, by kernel_rfl⟩
  · rintro _ ⟨h, rfl⟩
    unfold names_Right.j16 at h
    refine sqJ (fun st' => names_Right.j1 k = some out ∧ st' = ⟨[], []⟩) ?_ ?_
    · refine WpC.seq ?_
      refine rS {} [0, 13, 14] [] hN (by kernel_rfl) (by kernel_rfl) ?_
      refine tnU ?_
      refine WpC.block ?_
      obtain ⟨o4, hlo4, h⟩ := bind_some h
      have hout5 := h
      clear h
      refine WpC.loop (U := Un) (fun n st' => ∃ v2 : Int, names_Right.l3 k a0 n v2 = some o4 ∧ st' = ⟨[(0, .p .str a0), (13, .p I6 ((a0.length : Int) : Int)), (14, .p I6 v2)], []⟩) k ⟨0, hlo4, by kernel_rfl⟩ ?_
      clear hlo4
      rintro (_ | n) _ ⟨v2, h, rfl⟩
      · cases h
      · rw [names_Right.l3] at h
        refine WpC.seq ?_
        refine rS {} [0, 13, 14, 15] [] hN (by kernel_rfl) (by kernel_rfl) ?_
        refine tnU ?_
        refine WpC.seq ?_
        refine tS (b := (decide (v2 < (a0.length : Int)))) (by kernel_rfl) (fun hc6 => ?_) (fun hc6 => ?_)
        · replace h := ite_t hc6 h
          refine WpC.conv (cS [.k [0, 13, 14] []] (by kernel_rfl) (by kernel_rfl)) (WpC.skip ?_)
          refine tnU ?_
          refine sqJ (fun st' => names_Right.j7 k (names_Right.l3 k a0 n) a0 v2 = some o4 ∧ st' = ⟨[(0, .p .str a0), (13, .p I6 ((a0.length : Int) : Int)), (14, .p I6 v2)], []⟩) ?_ ?_
          · refine WpC.block ?_
            refine WpC.seq ?_
            refine rS {} [0, 3, 13, 14] [] hN (by kernel_rfl) (by kernel_rfl) ?_
            refine tnU ?_
            refine sqJ (fun st' => ∃ v8 : Bool, names_Right.j10 k (names_Right.l3 k a0 n) a0 v2 v8 = some o4 ∧ st' = ⟨[(0, .p .str a0), (13, .p I6 ((a0.length : Int) : Int)), (14, .p I6 v2), (26, .p .bool v8)], []⟩) ?_ ?_
            · obtain ⟨v11, hv11, h⟩ := bind_some h
              rcases bool_cases (decide ((v11.toNat : Int) < 33)) with hc12 | hc12
              · replace h := ite_t hc12 h
                refine rS { its := [(2, .u hv11)], kn := [(21, .t hc12)] } [0, 13, 14, 26] [] hN (by kernel_rfl) (by kernel_rfl) ?_
                refine tnU ?_
                exact ⟨true, h, by kernel_rfl⟩
              · replace h := ite_f hc12 h
                obtain ⟨v13, hv13, h⟩ := bind_some h
                refine rS { its := [(2, .u hv11), (7, .u hv13)], kn := [(21, .f hc12)] } [0, 13, 14, 26] [] hN (by kernel_rfl) (by kernel_rfl) ?_
                refine tnU ?_
                exact ⟨(decide ((v13.toNat : Int) > 126)), h, by kernel_rfl⟩
            · rintro _ ⟨v8, h, rfl⟩
              unfold names_Right.j10 at h
              refine tS (b := v8) (by kernel_rfl) (fun hc9 => ?_) (fun hc9 => ?_)
              · replace h := ite_t hc9 h
                refine WpC.seq ?_
                refine rS {} [2] [] hN (by kernel_rfl) (by kernel_rfl) ?_
                refine tnU ?_
                refine WpC.ret ?_
                refine blockQ_ret ?_
                refine thenQ_ret ?_
                have hq := Option.some.inj h
                subst hq
                refine thenQ_ret ?_
                have h := hout5
                refine blockQ_ret ?_
                refine thenQ_ret ?_
                have hq := Option.some.inj h
                subst hq
                exact eR (by kernel_rfl) (by kernel_rfl)
              · replace h := ite_f hc9 h
                refine WpC.conv (cS [.k [0, 13, 14] []] (by kernel_rfl) (by kernel_rfl)) (WpC.skip ?_)
                refine blockQ_normal ?_
                refine tnU ?_
                exact ⟨h, by kernel_rfl⟩
          · rintro _ ⟨h, rfl⟩
            unfold names_Right.j7 at h
            refine rS {} [0, 13, 14] [] hN (by kernel_rfl) (by kernel_rfl) ?_
            refine tnU ?_
            exact ⟨n, Nat.lt_succ_self n, (IntKind.i64.wrap (v2 + 1)), h, by kernel_rfl⟩
        · replace h := ite_f hc6 h
          refine WpC.conv (cS [.k [] []] (by kernel_rfl) (by kernel_rfl)) (WpC.exit ?_)
          refine thenQ_exit ?_
          have hq := Option.some.inj h
          subst hq
          refine thenQ_exit ?_
          have h := hout5
          refine blockQ_hit ?_
          refine tnU ?_
          exact ⟨h, by kernel_rfl⟩
    · rintro _ ⟨h, rfl⟩
      unfold names_Right.j1 at h
      refine WpC.seq ?_
      refine rS {} [2] [] hN (by kernel_rfl) (by kernel_rfl) ?_
      refine tnU ?_
      refine WpC.ret ?_
      have hq := Option.some.inj h
      subst hq
      exact eR (by kernel_rfl) (by kernel_rfl)

theorem table_check_1.ok (O : Out) (hO : GOk O) (k : Nat) (a0 : List UInt8) (out : Bool) (h : table_check_1.f k a0 = some out) : COk Un O Tryz.prog 116 { ar := [.p .str a0], r := .p .bool out } := by
  refine cok_of_wp Tryz.func116 rfl (k := 6) rfl (Nat.le_of_ble_eq_true rfl) (namesOk_pure rfl rfl rfl rfl) ?_
  intro B hN
  refine WpC.conv (cvK (b := ⟨[(0, .p .str a0)], []⟩) [0] [] (by kernel_rfl)) ?_
  unfold table_check_1.f at h
  refine WpC.seq ?_
  refine rS {} [0] [] hN (by kernel_rfl) (by kernel_rfl) ?_
  refine tnU ?_
  refine WpC.seq ?_
  obtain ⟨v1, hv1, h⟩ := bind_some h
  refine rS { its := [(1, .c (names_Right.ok O hO k a0 v1 hv1))] } [2] [] hN (by kernel_rfl) (by kernel_rfl) ?_
  refine tnU ?_
  refine WpC.ret ?_
  have hq := Option.some.inj h
  subst hq
  exact eR (by kernel_rfl) (by kernel_rfl)

theorem slices_IndexFunc_string_string_m1.ok (O : Out) (hO : GOk O) (k : Nat) (a0 : List (List UInt8)) (out : Int) (h : slices_IndexFunc_string_string_m1.f k a0 = some out) : COk Un O Tryz.prog 96 { ar := [.p (.list .str) a0, .clo 116 []], r := .p I6 out } := by
  refine cok_of_wp Tryz.func96 rfl (k := 19) rfl (Nat.le_of_ble_eq_true rfl) (namesOk_pure rfl rfl rfl rfl) ?_
  intro B hN
  refine WpC.conv (cvK (b := ⟨[(0, .p (.list .str) a0), (1, .clo 116 [])], []⟩) [0, 1] [] (by kernel_rfl)) ?_
  unfold slices_IndexFunc_string_string_m1.f at h
  refine WpC.seq ?_
  refine rS {} [0, 1] [] hN (by kernel_rfl) (by kernel_rfl) ?_
  refine tnU ?_
  refine sqJ (fun st' => slices_IndexFunc_string_string_m1.j1 k = some out ∧ st' = ⟨[], []⟩) ?_ ?_
  · refine WpC.seq ?_
    refine rS {} [0, 1, 7, 8] [] hN (by kernel_rfl) (by kernel_rfl) ?_
    refine tnU ?_
    refine WpC.block ?_
    obtain ⟨o4, hlo4, h⟩ := bind_some h
    have hout5 := h
    clear h
    refine WpC.loop (U := Un) (fun n st' => ∃ v2 : Int, slices_IndexFunc_string_string_m1.l3 k a0 n v2 = some o4 ∧ st' = ⟨[(0, .p (.list .str) a0), (1, .clo 116 []), (7, .p I6 ((a0.length : Int) : Int)), (8, .p I6 v2)], []⟩) k ⟨0, hlo4, by kernel_rfl⟩ ?_
    clear hlo4
    rintro (_ | n) _ ⟨v2, h, rfl⟩
    · cases h
    · rw [slices_IndexFunc_string_string_m1.l3] at h
      refine WpC.seq ?_
      refine rS {} [0, 1, 7, 8, 9] [] hN (by kernel_rfl) (by kernel_rfl) ?_
      refine tnU ?_
      refine WpC.seq ?_
      refine tS (b := (decide (v2 < (a0.length : Int)))) (by kernel_rfl) (fun hc6 => ?_) (fun hc6 => ?_)
      · replace h := ite_t hc6 h
        refine WpC.conv (cS [.k [0, 1, 7, 8] []] (by kernel_rfl) (by kernel_rfl)) (WpC.skip ?_)
        refine tnU ?_
        refine WpC.seq ?_
        refine WpC.block ?_
        refine WpC.seq ?_
        refine rS {} [0, 1, 5, 7, 8] [] hN (by kernel_rfl) (by kernel_rfl) ?_
        refine tnU ?_
        refine WpC.seq ?_
        obtain ⟨v7, hv7, h⟩ := bind_some h
        obtain ⟨v8, hv8, h⟩ := bind_some h
        refine rS { its := [(3, .v .str hv7), (5, .c (table_check_1.ok O hO k v7 v8 hv8))] } [0, 1, 5, 7, 8, 16] [] hN (by kernel_rfl) (by kernel_rfl) ?_
        refine tnU ?_
        refine tS (b := v8) (by kernel_rfl) (fun hc9 => ?_) (fun hc9 => ?_)
        · replace h := ite_t hc9 h
          refine WpC.seq ?_
          refine rS {} [4] [] hN (by kernel_rfl) (by kernel_rfl) ?_
          refine tnU ?_
          refine WpC.ret ?_
          refine blockQ_ret ?_
          refine thenQ_ret ?_
          have hq := Option.some.inj h
          subst hq
          refine thenQ_ret ?_
          have h := hout5
          refine blockQ_ret ?_
          refine thenQ_ret ?_
          have hq := Option.some.inj h
          subst hq
          exact eR (by kernel_rfl) (by kernel_rfl)
        · replace h := ite_f hc9 h
          refine WpC.conv (cS [.k [0, 1, 7, 8] []] (by kernel_rfl) (by kernel_rfl)) (WpC.skip ?_)
          refine blockQ_normal ?_
          refine tnU ?_
          refine rS {} [0, 1, 7, 8] [] hN (by kernel_rfl) (by kernel_rfl) ?_
          refine tnU ?_
          exact ⟨n, Nat.lt_succ_self n, (IntKind.i64.wrap (v2 + 1)), h, by kernel_rfl⟩
      · replace h := ite_f hc6 h
        refine WpC.conv (cS [.k [] []] (by kernel_rfl) (by kernel_rfl)) (WpC.exit ?_)
        refine thenQ_exit ?_
        have hq := Option.some.inj h
        subst hq
        refine thenQ_exit ?_
        have h := hout5
        refine blockQ_hit ?_
        refine tnU ?_
        exact ⟨h, by kernel_rfl⟩
  · rintro _ ⟨h, rfl⟩
    unfold slices_IndexFunc_string_string_m1.j1 at h
    refine WpC.seq ?_
    refine rS {} [4] [] hN (by kernel_rfl) (by kernel_rfl) ?_
    refine tnU ?_
    refine WpC.ret ?_
    have hq := Option.some.inj h
    subst hq
    exact eR (by kernel_rfl) (by kernel_rfl)

theorem slices_ContainsFunc_string_string_m1.ok (O : Out) (hO : GOk O) (k : Nat) (a0 : List (List UInt8)) (out : Bool) (h : slices_ContainsFunc_string_string_m1.f k a0 = some out) : COk Un O Tryz.prog 64 { ar := [.p (.list .str) a0, .clo 116 []], r := .p .bool out } := by
  refine cok_of_wp Tryz.func64 rfl (k := 9) rfl (Nat.le_of_ble_eq_true rfl) (namesOk_pure rfl rfl rfl rfl) ?_
  intro B hN
  refine WpC.conv (cvK (b := ⟨[(0, .p (.list .str) a0), (1, .clo 116 [])], []⟩) [0, 1] [] (by kernel_rfl)) ?_
  unfold slices_ContainsFunc_string_string_m1.f at h
  refine WpC.seq ?_
  refine rS {} [0, 1] [] hN (by kernel_rfl) (by kernel_rfl) ?_
  refine tnU ?_
  refine WpC.seq ?_
  obtain ⟨v1, hv1, h⟩ := bind_some h
  refine rS { its := [(2, .c (slices_IndexFunc_string_string_m1.ok O hO k a0 v1 hv1))] } [4] [] hN (by kernel_rfl) (by kernel_rfl) ?_
  refine tnU ?_
  refine WpC.ret ?_
  have hq := Option.some.inj h
  subst hq
  exact eR (by kernel_rfl) (by kernel_rfl)

theorem table_check.ok (O : Out) (hO : GOk O) (k : Nat) (a0 : T_load_Rule) (out : Nat) (h : table_check.f k a0 = some out) : COk Un O Tryz.prog 85 { ar := [.p (.named 9) a0], r := .p .err out } := by
  refine cok_of_wp Tryz.func85 rfl (k := 52) rfl (Nat.le_of_ble_eq_true rfl) (namesOk_pure rfl rfl rfl rfl) ?_
  intro B hN
  refine WpC.conv (cvK (b := ⟨[(0, .p (.named 9) a0)], []⟩) [0] [] (by kernel_rfl)) ?_
  unfold table_check.f at h
  refine WpC.seq ?_
  refine rS {} [1] [1] hN (by kernel_rfl) (by kernel_rfl) ?_
  refine tnU ?_
  refine WpC.seq ?_
  refine rS {} [1, 3] [1] hN (by kernel_rfl) (by kernel_rfl) ?_
  refine tnU ?_
  refine sqJ (fun st' => table_check.j10 k a0 = some out ∧ st' = ⟨[(1, .loc 1 0)], [(1, .box [.p (.list .str) a0.f_Targets, .p (.list .str) a0.f_Prereqs, .p I6 a0.f_Attr.f_Flags, .p .str a0.f_Attr.f_Prog, .p .str a0.f_Recipe, .p .str a0.f_File, .p I6 a0.f_Line])]⟩) ?_ ?_
  · refine WpC.seq ?_
    obtain ⟨v11, hv11, h⟩ := bind_some h
    refine rS { its := [(1, .c (table_Kind.ok O hO k (T_load_Rule.mk a0.f_Targets a0.f_Prereqs (T_attr_Attr.mk a0.f_Attr.f_Flags a0.f_Attr.f_Prog) a0.f_Recipe a0.f_File a0.f_Line) v11 hv11))] } [1, 3, 4] [1] hN (by kernel_rfl) (by kernel_rfl) ?_
    refine tnU ?_
    refine WpC.block ?_
    refine WpC.seq ?_
    refine rS {} [1, 3, 4, 11] [1] hN (by kernel_rfl) (by kernel_rfl) ?_
    refine tnU ?_
    refine tS (b := ((a0.f_Targets.length : Int) == 0)) (by kernel_rfl) (fun hc12 => ?_) (fun hc12 => ?_)
    · replace h := ite_t hc12 h
      refine WpC.seq ?_
      refine rS { its := [(0, .e 0 (sok_loadG (U := Un) (t := .err) (rs := []) rfl rfl ty_32 rfl rfl (hO.var 2 3 rfl) (fun S w => .err 2)))] } [2] [] hN (by kernel_rfl) (by kernel_rfl) ?_
      refine tnU ?_
      refine WpC.ret ?_
      refine blockQ_ret ?_
      refine thenQ_ret ?_
      have hq := Option.some.inj h
      subst hq
      exact eR (by kernel_rfl) (by kernel_rfl)
    · replace h := ite_f hc12 h
      refine sqJ (fun st' => ∃ v13 : Bool, table_check.j16 k a0 v11 v13 = some out ∧ st' = ⟨[(1, .loc 1 0), (4, .p I6 v11), (17, .p .bool v13)], [(1, .box [.p (.list .str) a0.f_Targets, .p (.list .str) a0.f_Prereqs, .p I6 a0.f_Attr.f_Flags, .p .str a0.f_Attr.f_Prog, .p .str a0.f_Recipe, .p .str a0.f_File, .p I6 a0.f_Line])]⟩) ?_ ?_
      · rcases bool_cases (v11 == 0) with hc17 | hc17
        · replace h := ite_t hc17 h
          obtain ⟨v18, hv18, h⟩ := bind_some h
          rcases bool_cases v18 with hc19 | hc19
          · replace h := ite_t hc19 h
            refine rS { its := [(6, .c (slices_ContainsFunc_string_string_m1.ok O hO k a0.f_Targets v18 hv18))], kn := [(20, .t hc17), (25, .t hc19)] } [1, 4, 17] [1] hN (by kernel_rfl) (by kernel_rfl) ?_
            refine tnU ?_
            exact ⟨true, h, by kernel_rfl⟩
          · replace h := ite_f hc19 h
            obtain ⟨v20, hv20, h⟩ := bind_some h
            refine rS { its := [(6, .c (slices_ContainsFunc_string_string_m1.ok O hO k a0.f_Targets v18 hv18)), (11, .c (slices_ContainsFunc_string_string_m1.ok O hO k a0.f_Prereqs v20 hv20))], kn := [(20, .t hc17), (25, .f hc19)] } [1, 4, 17] [1] hN (by kernel_rfl) (by kernel_rfl) ?_
            refine tnU ?_
            exact ⟨v20, h, by kernel_rfl⟩
        · replace h := ite_f hc17 h
          refine rS { kn := [(20, .f hc17)] } [1, 4, 17] [1] hN (by kernel_rfl) (by kernel_rfl) ?_
          refine tnU ?_
          exact ⟨false, h, by kernel_rfl⟩
      · rintro _ ⟨v13, h, rfl⟩
        unfold table_check.j16 at h
        refine tS (b := v13) (by kernel_rfl) (fun hc14 => ?_) (fun hc14 => ?_)
        · replace h := ite_t hc14 h
          refine WpC.seq ?_
          refine rS { its := [(0, .e 0 (sok_loadG (U := Un) (t := .err) (rs := []) rfl rfl ty_32 rfl rfl (hO.var 3 4 rfl) (fun S w => .err 3)))] } [2] [] hN (by kernel_rfl) (by kernel_rfl) ?_
          refine tnU ?_
          refine WpC.ret ?_
          refine blockQ_ret ?_
          refine thenQ_ret ?_
          have hq := Option.some.inj h
          subst hq
          exact eR (by kernel_rfl) (by kernel_rfl)
        · replace h := ite_f hc14 h
          refine WpC.seq ?_
          refine rS {} [1, 33] [1] hN (by kernel_rfl) (by kernel_rfl) ?_
          refine tnU ?_
          refine tS (b := (v11 != 2)) (by kernel_rfl) (fun hc15 => ?_) (fun hc15 => ?_)
          · replace h := ite_t hc15 h
            refine WpC.seq ?_
            refine rS {} [2] [] hN (by kernel_rfl) (by kernel_rfl) ?_
            refine tnU ?_
            refine WpC.conv (cS [.nE 2, .k [2] []] (by kernel_rfl) (by kernel_rfl)) (WpC.ret ?_)
            refine blockQ_ret ?_
            refine thenQ_ret ?_
            have hq := Option.some.inj h
            subst hq
            exact eR (by kernel_rfl) (by kernel_rfl)
          · replace h := ite_f hc15 h
            refine WpC.conv (cS [.k [1] [1]] (by kernel_rfl) (by kernel_rfl)) (WpC.skip ?_)
            refine blockQ_normal ?_
            refine tnU ?_
            exact ⟨h, by kernel_rfl⟩
  · rintro _ ⟨h, rfl⟩
    unfold table_check.j10 at h
    refine sqJ (fun st' => table_check.j1 k = some out ∧ st' = ⟨[], []⟩) ?_ ?_
    · refine WpC.seq ?_
      refine rS {} [37, 38, 39] [] hN (by kernel_rfl) (by kernel_rfl) ?_
      refine tnU ?_
      refine WpC.block ?_
      obtain ⟨o4, hlo4, h⟩ := bind_some h
      have hout5 := h
      clear h
      refine WpC.loop (U := Un) (fun n st' => ∃ v2 : Int, table_check.l3 k a0 n v2 = some o4 ∧ st' = ⟨[(37, .p (.list .str) a0.f_Targets), (38, .p I6 ((a0.f_Targets.length : Int) : Int)), (39, .p I6 v2)], []⟩) k ⟨0, hlo4, by kernel_rfl⟩ ?_
      clear hlo4
      rintro (_ | n) _ ⟨v2, h, rfl⟩
      · cases h
      · rw [table_check.l3] at h
        refine WpC.seq ?_
        refine rS {} [37, 38, 39, 40] [] hN (by kernel_rfl) (by kernel_rfl) ?_
        refine tnU ?_
        refine WpC.seq ?_
        refine tS (b := (decide (v2 < (a0.f_Targets.length : Int)))) (by kernel_rfl) (fun hc6 => ?_) (fun hc6 => ?_)
        · replace h := ite_t hc6 h
          refine WpC.conv (cS [.k [37, 38, 39] []] (by kernel_rfl) (by kernel_rfl)) (WpC.skip ?_)
          refine tnU ?_
          refine WpC.seq ?_
          refine WpC.block ?_
          refine WpC.seq ?_
          obtain ⟨v7, hv7, h⟩ := bind_some h
          refine rS { its := [(0, .v .str hv7)] } [6, 37, 38, 39] [] hN (by kernel_rfl) (by kernel_rfl) ?_
          refine tnU ?_
          refine WpC.seq ?_
          cases h
        · replace h := ite_f hc6 h
          refine WpC.conv (cS [.k [] []] (by kernel_rfl) (by kernel_rfl)) (WpC.exit ?_)
          refine thenQ_exit ?_
          have hq := Option.some.inj h
          subst hq
          refine thenQ_exit ?_
          have h := hout5
          refine blockQ_hit ?_
          refine tnU ?_
          exact ⟨h, by kernel_rfl⟩
    · rintro _ ⟨h, rfl⟩
      unfold table_check.j1 at h
      refine WpC.seq ?_
      refine rS {} [2] [] hN (by kernel_rfl) (by kernel_rfl) ?_
      refine tnU ?_
      refine WpC.conv (cS [.nE 2, .k [2] []] (by kernel_rfl) (by kernel_rfl)) (WpC.ret ?_)
      have hq := Option.some.inj h
      subst hq
      exact eR (by kernel_rfl) (by kernel_rfl)

theorem table_idle.ok (O : Out) (hO : GOk O) (k : Nat) (a0 : T_load_Rule) (out : Bool) (h : table_idle.f k a0 = some out) : COk Un O Tryz.prog 86 { ar := [.p (.named 9) a0], r := .p .bool out } := by
  refine cok_of_wp Tryz.func86 rfl (k := 17) rfl (Nat.le_of_ble_eq_true rfl) (namesOk_pure rfl rfl rfl rfl) ?_
  intro B hN
  refine WpC.conv (cvK (b := ⟨[(0, .p (.named 9) a0)], []⟩) [0] [] (by kernel_rfl)) ?_
  unfold table_idle.f at h
  refine WpC.seq ?_
  refine rS {} [1] [1] hN (by kernel_rfl) (by kernel_rfl) ?_
  refine tnU ?_
  refine WpC.seq ?_
  obtain ⟨v1, hv1, h⟩ := bind_some h
  rcases bool_cases (v1 != 0) with hc2 | hc2
  · replace h := ite_t hc2 h
    rcases bool_cases ((a0.f_Prereqs.length : Int) == 0) with hc3 | hc3
    · replace h := ite_t hc3 h
      refine rS { its := [(1, .c (table_Kind.ok O hO k (T_load_Rule.mk a0.f_Targets a0.f_Prereqs (T_attr_Attr.mk a0.f_Attr.f_Flags a0.f_Attr.f_Prog) a0.f_Recipe a0.f_File a0.f_Line) v1 hv1))], kn := [(6, .t hc2), (12, .t hc3)] } [2] [] hN (by kernel_rfl) (by kernel_rfl) ?_
      refine tnU ?_
      refine WpC.ret ?_
      have hq := Option.some.inj h
      subst hq
      exact eR (by kernel_rfl) (by kernel_rfl)
    · replace h := ite_f hc3 h
      refine rS { its := [(1, .c (table_Kind.ok O hO k (T_load_Rule.mk a0.f_Targets a0.f_Prereqs (T_attr_Attr.mk a0.f_Attr.f_Flags a0.f_Attr.f_Prog) a0.f_Recipe a0.f_File a0.f_Line) v1 hv1))], kn := [(6, .t hc2), (12, .f hc3)] } [2] [] hN (by kernel_rfl) (by kernel_rfl) ?_
      refine tnU ?_
      refine WpC.ret ?_
      have hq := Option.some.inj h
      subst hq
      exact eR (by kernel_rfl) (by kernel_rfl)
  · replace h := ite_f hc2 h
    refine rS { its := [(1, .c (table_Kind.ok O hO k (T_load_Rule.mk a0.f_Targets a0.f_Prereqs (T_attr_Attr.mk a0.f_Attr.f_Flags a0.f_Attr.f_Prog) a0.f_Recipe a0.f_File a0.f_Line) v1 hv1))], kn := [(6, .f hc2)] } [2] [] hN (by kernel_rfl) (by kernel_rfl) ?_
    refine tnU ?_
    refine WpC.ret ?_
    have hq := Option.some.inj h
    subst hq
    exact eR (by kernel_rfl) (by kernel_rfl)

theorem slices_Equal_string_string.ok (O : Out) (hO : GOk O) (k : Nat) (a0 : List (List UInt8)) (a1 : List (List UInt8)) (out : Bool) (h : slices_Equal_string_string.f k a0 a1 = some out) : COk Un O Tryz.prog 118 { ar := [.p (.list .str) a0, .p (.list .str) a1], r := .p .bool out } := by
  refine cok_of_wp Tryz.func118 rfl (k := 26) rfl (Nat.le_of_ble_eq_true rfl) (namesOk_pure rfl rfl rfl rfl) ?_
  intro B hN
  refine WpC.conv (cvK (b := ⟨[(0, .p (.list .str) a0), (1, .p (.list .str) a1)], []⟩) [0, 1] [] (by kernel_rfl)) ?_
  unfold slices_Equal_string_string.f at h
  refine WpC.seq ?_
  refine rS {} [0, 1] [] hN (by kernel_rfl) (by kernel_rfl) ?_
  refine tnU ?_
  refine WpC.seq ?_
  refine WpC.seq ?_
  refine rS {} [0, 1, 10] [] hN (by kernel_rfl) (by kernel_rfl) ?_
  refine tnU ?_
  refine tS (b := ((a0.length : Int) != (a1.length : Int))) (by kernel_rfl) (fun hc1 => ?_) (fun hc1 => ?_)
  · replace h := ite_t hc1 h
    refine WpC.seq ?_
    refine rS {} [4] [] hN (by kernel_rfl) (by kernel_rfl) ?_
    refine tnU ?_
    refine WpC.ret ?_
    refine thenQ_ret ?_
    have hq := Option.some.inj h
    subst hq
    exact eR (by kernel_rfl) (by kernel_rfl)
  · replace h := ite_f hc1 h
    refine WpC.conv (cS [.k [0, 1] []] (by kernel_rfl) (by kernel_rfl)) (WpC.skip ?_)
    refine tnU ?_
    refine sqJ (fun st' => slices_Equal_string_string.j2 k = some out ∧ st' = ⟨[], []⟩) ?_ ?_
    · refine WpC.seq ?_
      refine rS {} [0, 1, 12, 13] [] hN (by kernel_rfl) (by kernel_rfl) ?_
      refine tnU ?_
      refine WpC.block ?_
      obtain ⟨o5, hlo5, h⟩ := bind_some h
      have hout6 := h
      clear h
      refine WpC.loop (U := Un) (fun n st' => ∃ v3 : Int, slices_Equal_string_string.l4 k a0 a1 n v3 = some o5 ∧ st' = ⟨[(0, .p (.list .str) a0), (1, .p (.list .str) a1), (12, .p I6 ((a0.length : Int) : Int)), (13, .p I6 v3)], []⟩) k ⟨0, hlo5, by kernel_rfl⟩ ?_
      clear hlo5
      rintro (_ | n) _ ⟨v3, h, rfl⟩
      · cases h
      · rw [slices_Equal_string_string.l4] at h
        refine WpC.seq ?_
        refine rS {} [0, 1, 12, 13, 14] [] hN (by kernel_rfl) (by kernel_rfl) ?_
        refine tnU ?_
        refine WpC.seq ?_
        refine tS (b := (decide (v3 < (a0.length : Int)))) (by kernel_rfl) (fun hc7 => ?_) (fun hc7 => ?_)
        · replace h := ite_t hc7 h
          refine WpC.conv (cS [.k [0, 1, 12, 13] []] (by kernel_rfl) (by kernel_rfl)) (WpC.skip ?_)
          refine tnU ?_
          refine WpC.seq ?_
          refine WpC.block ?_
          refine WpC.seq ?_
          refine rS {} [0, 1, 5, 12, 13] [] hN (by kernel_rfl) (by kernel_rfl) ?_
          refine tnU ?_
          refine WpC.seq ?_
          obtain ⟨v8, hv8, h⟩ := bind_some h
          obtain ⟨v9, hv9, h⟩ := bind_some h
          refine rA { its := [(2, .v .str hv8), (6, .v .str hv9)] } [0, 1, 12, 13, 24] [] hN (by kernel_rfl) (by kernel_rfl) (by kernel_rfl) ?_
          refine tnU ?_
          refine tS (b := (!(v8 == v9))) (by kernel_rfl) (fun hc10 => ?_) (fun hc10 => ?_)
          · replace h := ite_t hc10 h
            refine WpC.seq ?_
            refine rS {} [4] [] hN (by kernel_rfl) (by kernel_rfl) ?_
            refine tnU ?_
            refine WpC.ret ?_
            refine blockQ_ret ?_
            refine thenQ_ret ?_
            have hq := Option.some.inj h
            subst hq
            refine thenQ_ret ?_
            have h := hout6
            refine blockQ_ret ?_
            refine thenQ_ret ?_
            have hq := Option.some.inj h
            subst hq
            exact eR (by kernel_rfl) (by kernel_rfl)
          · replace h := ite_f hc10 h
            refine WpC.conv (cS [.k [0, 1, 12, 13] []] (by kernel_rfl) (by kernel_rfl)) (WpC.skip ?_)
            refine blockQ_normal ?_
            refine tnU ?_
            refine rS {} [0, 1, 12, 13] [] hN (by kernel_rfl) (by kernel_rfl) ?_
            refine tnU ?_
            exact ⟨n, Nat.lt_succ_self n, (IntKind.i64.wrap (v3 + 1)), h, by kernel_rfl⟩
        · replace h := ite_f hc7 h
          refine WpC.conv (cS [.k [] []] (by kernel_rfl) (by kernel_rfl)) (WpC.exit ?_)
          refine thenQ_exit ?_
          have hq := Option.some.inj h
          subst hq
          refine thenQ_exit ?_
          have h := hout6
          refine blockQ_hit ?_
          refine tnU ?_
          exact ⟨h, by kernel_rfl⟩
    · rintro _ ⟨h, rfl⟩
      unfold slices_Equal_string_string.j2 at h
      refine WpC.seq ?_
      refine rS {} [4] [] hN (by kernel_rfl) (by kernel_rfl) ?_
      refine tnU ?_
      refine WpC.ret ?_
      have hq := Option.some.inj h
      subst hq
      exact eR (by kernel_rfl) (by kernel_rfl)

theorem table_one.ok (O : Out) (hO : GOk O) (k : Nat) (a0 : T_load_Rule) (a1 : T_load_Rule) (out : Bool) (h : table_one.f k a0 a1 = some out) : COk Un O Tryz.prog 89 { ar := [.p (.named 9) a0, .p (.named 9) a1], r := .p .bool out } := by
  refine cok_of_wp Tryz.func89 rfl (k := 24) rfl (Nat.le_of_ble_eq_true rfl) (namesOk_pure rfl rfl rfl rfl) ?_
  intro B hN
  refine WpC.conv (cvK (b := ⟨[(0, .p (.named 9) a0), (1, .p (.named 9) a1)], []⟩) [0, 1] [] (by kernel_rfl)) ?_
  unfold table_one.f at h
  refine WpC.seq ?_
  refine rS {} [2, 3] [2, 3] hN (by kernel_rfl) (by kernel_rfl) ?_
  refine tnU ?_
  refine WpC.seq ?_
  rcases bool_cases (a0.f_Attr.f_Flags == a1.f_Attr.f_Flags && (a0.f_Attr.f_Prog == a1.f_Attr.f_Prog && true)) with hc1 | hc1
  · replace h := ite_t hc1 h
    obtain ⟨v2, hv2, h⟩ := bind_some h
    rcases bool_cases v2 with hc3 | hc3
    · replace h := ite_t hc3 h
      obtain ⟨v4, hv4, h⟩ := bind_some h
      refine rS { its := [(4, .e 4 (sok_eqS (U := Un) (rs := [(6, .p (.named 8) ((T_attr_Attr.mk a0.f_Attr.f_Flags a0.f_Attr.f_Prog) : T_attr_Attr)), (8, .p (.named 8) ((T_attr_Attr.mk a1.f_Attr.f_Flags a1.f_Attr.f_Prog) : T_attr_Attr))]) rfl rfl Tryz.underlying94 (by kernel_rfl) (eqf_94 _ Tryz.underlying94) (by kernel_rfl) o0 o1)), (10, .c (slices_Equal_string_string.ok O hO k a0.f_Targets a1.f_Targets v2 hv2)), (17, .c (slices_Equal_string_string.ok O hO k a0.f_Prereqs a1.f_Prereqs v4 hv4))], kn := [(10, .t hc1), (17, .t hc3)] } [4] [] hN (by kernel_rfl) (by kernel_rfl) ?_
      refine tnU ?_
      refine WpC.ret ?_
      have hq := Option.some.inj h
      subst hq
      exact eR (by kernel_rfl) (by kernel_rfl)
    · replace h := ite_f hc3 h
      refine rS { its := [(4, .e 4 (sok_eqS (U := Un) (rs := [(6, .p (.named 8) ((T_attr_Attr.mk a0.f_Attr.f_Flags a0.f_Attr.f_Prog) : T_attr_Attr)), (8, .p (.named 8) ((T_attr_Attr.mk a1.f_Attr.f_Flags a1.f_Attr.f_Prog) : T_attr_Attr))]) rfl rfl Tryz.underlying94 (by kernel_rfl) (eqf_94 _ Tryz.underlying94) (by kernel_rfl) o0 o1)), (10, .c (slices_Equal_string_string.ok O hO k a0.f_Targets a1.f_Targets v2 hv2))], kn := [(10, .t hc1), (17, .f hc3)] } [4] [] hN (by kernel_rfl) (by kernel_rfl) ?_
      refine tnU ?_
      refine WpC.ret ?_
      have hq := Option.some.inj h
      subst hq
      exact eR (by kernel_rfl) (by kernel_rfl)
  · replace h := ite_f hc1 h
    refine rS { its := [(4, .e 4 (sok_eqS (U := Un) (rs := [(6, .p (.named 8) ((T_attr_Attr.mk a0.f_Attr.f_Flags a0.f_Attr.f_Prog) : T_attr_Attr)), (8, .p (.named 8) ((T_attr_Attr.mk a1.f_Attr.f_Flags a1.f_Attr.f_Prog) : T_attr_Attr))]) rfl rfl Tryz.underlying94 (by kernel_rfl) (eqf_94 _ Tryz.underlying94) (by kernel_rfl) o0 o1))], kn := [(10, .f hc1)] } [4] [] hN (by kernel_rfl) (by kernel_rfl) ?_
    refine tnU ?_
    refine WpC.ret ?_
    have hq := Option.some.inj h
    subst hq
    exact eR (by kernel_rfl) (by kernel_rfl)

theorem table_Table_add_1_m0.ok (O : Out) (hO : GOk O) (k : Nat) (a0 : T_load_Rule) (a1 : List (List UInt8)) (a2 : List (List UInt8)) (a3 : Int) (a4 : List UInt8) (a5 : List UInt8) (a6 : List UInt8) (a7 : Int) (out : Bool) (h : table_Table_add_1_m0.f k a0 a1 a2 a3 a4 a5 a6 a7 = some out) : COk Un O Tryz.prog 88 { ar := [.p (.named 9) a0, .loc 100000 0], r := .p .bool out, bs := [(100000, .box [.p (.list .str) a1, .p (.list .str) a2, .p I6 a3, .p .str a4, .p .str a5, .p .str a6, .p I6 a7])], bs' := [(100000, .box [.p (.list .str) a1, .p (.list .str) a2, .p I6 a3, .p .str a4, .p .str a5, .p .str a6, .p I6 a7])] } := by
  refine cok_of_wp Tryz.func88 rfl (k := 7) rfl (Nat.le_of_ble_eq_true rfl) (namesOk_of (by kernel_rfl)) ?_
  intro B hN
  refine WpC.conv (cvK (b := ⟨[(0, .p (.named 9) a0), (1, .loc 100000 0)], [(100000, .box [.p (.list .str) a1, .p (.list .str) a2, .p I6 a3, .p .str a4, .p .str a5, .p .str a6, .p I6 a7])]⟩) [0, 1] [100000] (by kernel_rfl)) ?_
  unfold table_Table_add_1_m0.f at h
  refine WpC.seq ?_
  refine rS {} [1, 2] [2, 100000] hN (by kernel_rfl) (by kernel_rfl) ?_
  refine tnU ?_
  refine WpC.seq ?_
  obtain ⟨v1, hv1, h⟩ := bind_some h
  refine rS { its := [(2, .c (table_one.ok O hO k (T_load_Rule.mk a0.f_Targets a0.f_Prereqs (T_attr_Attr.mk a0.f_Attr.f_Flags a0.f_Attr.f_Prog) a0.f_Recipe a0.f_File a0.f_Line) (T_load_Rule.mk a1 a2 (T_attr_Attr.mk a3 a4) a5 a6 a7) v1 hv1))] } [3] [100000] hN (by kernel_rfl) (by kernel_rfl) ?_
  refine tnU ?_
  refine WpC.ret ?_
  have hq := Option.some.inj h
  subst hq
  exact eR (by kernel_rfl) (by kernel_rfl)

theorem load_Rule_m0.ok (O : Out) (hO : GOk O) (k : Nat) (a0 : List T_load_Rule) (a1 : List (List UInt8)) (a2 : List (List UInt8)) (a3 : Int) (a4 : List UInt8) (a5 : List UInt8) (a6 : List UInt8) (a7 : Int) (out : Int) (h : load_Rule_m0.f k a0 a1 a2 a3 a4 a5 a6 a7 = some out) : COk Un O Tryz.prog 87 { ar := [.vec 100000 7 0 a0.length, .clo 88 [.loc 100001 0]], r := .p I6 out, bs := [(100000, .row 96 (.named 9) a0 false), (100001, .box [.p (.list .str) a1, .p (.list .str) a2, .p I6 a3, .p .str a4, .p .str a5, .p .str a6, .p I6 a7])], bs' := [(100000, .row 96 (.named 9) a0 false), (100001, .box [.p (.list .str) a1, .p (.list .str) a2, .p I6 a3, .p .str a4, .p .str a5, .p .str a6, .p I6 a7])] } := by
  refine cok_of_wp Tryz.func87 rfl (k := 19) rfl (Nat.le_of_ble_eq_true rfl) (namesOk_of (by kernel_rfl)) ?_
  intro B hN
  refine WpC.conv (cvK (b := ⟨[(0, .vec 100000 7 0 a0.length), (1, .clo 88 [.loc 100001 0])], [(100000, .row 96 (.named 9) a0 false), (100001, .box [.p (.list .str) a1, .p (.list .str) a2, .p I6 a3, .p .str a4, .p .str a5, .p .str a6, .p I6 a7])]⟩) [0, 1] [100000, 100001] (by kernel_rfl)) ?_
  unfold load_Rule_m0.f at h
  refine WpC.seq ?_
  refine rS {} [0, 1] [100000, 100001] hN (by kernel_rfl) (by kernel_rfl) ?_
  refine tnU ?_
  refine sqJ (fun st' => load_Rule_m0.j1 k a0 a1 a2 a3 a4 a5 a6 a7 = some out ∧ st' = ⟨[], [(100000, .row 96 (.named 9) a0 false), (100001, .box [.p (.list .str) a1, .p (.list .str) a2, .p I6 a3, .p .str a4, .p .str a5, .p .str a6, .p I6 a7])]⟩) ?_ ?_
  · refine WpC.seq ?_
    refine rS {} [0, 1, 7, 8] [100000, 100001] hN (by kernel_rfl) (by kernel_rfl) ?_
    refine tnU ?_
    refine WpC.block ?_
    obtain ⟨o4, hlo4, h⟩ := bind_some h
    have hout5 := h
    clear h
    refine WpC.loop (U := Un) (fun n st' => ∃ v2 : Int, load_Rule_m0.l3 k a0 a1 a2 a3 a4 a5 a6 a7 n v2 = some o4 ∧ st' = ⟨[(0, .vec 100000 7 0 a0.length), (1, .clo 88 [.loc 100001 0]), (7, .p I6 ((a0.length : Int) : Int)), (8, .p I6 v2)], [(100000, .row 96 (.named 9) a0 false), (100001, .box [.p (.list .str) a1, .p (.list .str) a2, .p I6 a3, .p .str a4, .p .str a5, .p .str a6, .p I6 a7])]⟩) k ⟨0, hlo4, by kernel_rfl⟩ ?_
    clear hlo4
    rintro (_ | n) _ ⟨v2, h, rfl⟩
    · cases h
    · rw [load_Rule_m0.l3] at h
      refine WpC.seq ?_
      refine rS {} [0, 1, 7, 8, 9] [100000, 100001] hN (by kernel_rfl) (by kernel_rfl) ?_
      refine tnU ?_
      refine WpC.seq ?_
      refine tS (b := (decide (v2 < (a0.length : Int)))) (by kernel_rfl) (fun hc6 => ?_) (fun hc6 => ?_)
      · replace h := ite_t hc6 h
        refine WpC.conv (cS [.k [0, 1, 7, 8] [100000, 100001]] (by kernel_rfl) (by kernel_rfl)) (WpC.skip ?_)
        refine tnU ?_
        refine WpC.seq ?_
        refine WpC.block ?_
        refine WpC.seq ?_
        refine rS {} [0, 1, 5, 7, 8] [100000, 100001] hN (by kernel_rfl) (by kernel_rfl) ?_
        refine tnU ?_
        refine WpC.seq ?_
        obtain ⟨g7, h⟩ := if_some h
        obtain ⟨v8, hv8, h⟩ := bind_some h
        obtain ⟨v9, hv9, h⟩ := bind_some h
        refine rS { its := [(3, .g g7), (4, .v (.named 9) hv8), (5, .c (COk.ren (table_Table_add_1_m0.ok O hO k v8 a1 a2 a3 a4 a5 a6 a7 v9 hv9) (fun n => if n = 100000 then 100001 else n) (injOn_of (by kernel_rfl))))] } [0, 1, 5, 7, 8, 16] [100000, 100001] hN (by kernel_rfl) (by kernel_rfl) ?_
        refine tnU ?_
        refine tS (b := v9) (by kernel_rfl) (fun hc10 => ?_) (fun hc10 => ?_)
        · replace h := ite_t hc10 h
          refine WpC.seq ?_
          refine rS {} [4] [100000, 100001] hN (by kernel_rfl) (by kernel_rfl) ?_
          refine tnU ?_
          refine WpC.ret ?_
          refine blockQ_ret ?_
          refine thenQ_ret ?_
          have hq := Option.some.inj h
          subst hq
          refine thenQ_ret ?_
          have h := hout5
          refine blockQ_ret ?_
          refine thenQ_ret ?_
          have hq := Option.some.inj h
          subst hq
          exact eR (by kernel_rfl) (by kernel_rfl)
        · replace h := ite_f hc10 h
          refine WpC.conv (cS [.k [0, 1, 7, 8] [100000, 100001]] (by kernel_rfl) (by kernel_rfl)) (WpC.skip ?_)
          refine blockQ_normal ?_
          refine tnU ?_
          refine rS {} [0, 1, 7, 8] [100000, 100001] hN (by kernel_rfl) (by kernel_rfl) ?_
          refine tnU ?_
          exact ⟨n, Nat.lt_succ_self n, (IntKind.i64.wrap (v2 + 1)), h, by kernel_rfl⟩
      · replace h := ite_f hc6 h
        refine WpC.conv (cS [.k [] [100000, 100001]] (by kernel_rfl) (by kernel_rfl)) (WpC.exit ?_)
        refine thenQ_exit ?_
        have hq := Option.some.inj h
        subst hq
        refine thenQ_exit ?_
        have h := hout5
        refine blockQ_hit ?_
        refine tnU ?_
        exact ⟨h, by kernel_rfl⟩
  · rintro _ ⟨h, rfl⟩
    unfold load_Rule_m0.j1 at h
    refine WpC.seq ?_
    refine rS {} [4] [100000, 100001] hN (by kernel_rfl) (by kernel_rfl) ?_
    refine tnU ?_
    refine WpC.ret ?_
    have hq := Option.some.inj h
    subst hq
    exact eR (by kernel_rfl) (by kernel_rfl)

theorem table_apart.ok (O : Out) (hO : GOk O) (k : Nat) (a0 : T_load_Rule) (out : T_load_Rule) (h : table_apart.f k a0 = some out) : COk Un O Tryz.prog 90 { ar := [.p (.named 9) a0], r := .p (.named 9) out } := by
  refine cok_of_wp Tryz.func90 rfl (k := 12) rfl (Nat.le_of_ble_eq_true rfl) (namesOk_pure rfl rfl rfl rfl) ?_
  intro B hN
  refine WpC.conv (cvK (b := ⟨[(0, .p (.named 9) a0)], []⟩) [0] [] (by kernel_rfl)) ?_
  unfold table_apart.f at h
  refine WpC.seq ?_
  refine rS {} [1, 2] [1, 2] hN (by kernel_rfl) (by kernel_rfl) ?_
  refine tnU ?_
  refine WpC.seq ?_
  obtain ⟨v1, hv1, h⟩ := bind_some h
  obtain ⟨v2, hv2, h⟩ := bind_some h
  refine rA { its := [(2, .c (COk.ren (pCloneR.ok O hO k a0.f_Targets v1 hv1) (fun n => if n = 60500 then 10001 else n) (injOn_of (by kernel_rfl)))), (5, .c (COk.ren (pCloneR.ok O hO k a0.f_Prereqs v2 hv2) (fun n => if n = 60500 then 10002 else n) (injOn_of (by kernel_rfl))))] } [1, 2] [1, 2, 10001, 10002] hN (by kernel_rfl) (by kernel_rfl) (by kernel_rfl) ?_
  refine tnU ?_
  refine WpC.seq ?_
  refine rS {} [2] [2, 10001, 10002] hN (by kernel_rfl) (by kernel_rfl) ?_
  refine tnU ?_
  refine WpC.conv (cS [.fu 2 0, .k [2] [2, 10002], .fu 2 1, .k [2] [2]] (by kernel_rfl) (by kernel_rfl)) (WpC.ret ?_)
  have hq := Option.some.inj h
  subst hq
  exact eR (by kernel_rfl) (by kernel_rfl)

theorem table_Table_Metas_1_m0.ok (O : Out) (hO : GOk O) (k : Nat) (a0 : Int) (a1 : List T_load_Rule) (a2 : List Int) (out : Bool) (h : table_Table_Metas_1_m0.f k a0 a1 a2 = some out) : COk Un O Tryz.prog 123 { ar := [.p I6 a0, .loc 100000 0], r := .p .bool out, bs := [(100000, .box [.loc 100001 0]), (100001, .box [.vec 100002 7 0 a1.length, .vec 100003 1 0 a2.length]), (100002, .row 96 (.named 9) a1 false), (100003, .row 3 I6 a2 false)], bs' := [(100000, .box [.loc 100001 0]), (100001, .box [.vec 100002 7 0 a1.length, .vec 100003 1 0 a2.length]), (100002, .row 96 (.named 9) a1 false), (100003, .row 3 I6 a2 false)] } := by
  refine cok_of_wp Tryz.func123 rfl (k := 12) rfl (Nat.le_of_ble_eq_true rfl) (namesOk_of (by kernel_rfl)) ?_
  intro B hN
  refine WpC.conv (cvK (b := ⟨[(0, .p I6 a0), (1, .loc 100000 0)], [(100000, .box [.loc 100001 0]), (100001, .box [.vec 100002 7 0 a1.length, .vec 100003 1 0 a2.length]), (100002, .row 96 (.named 9) a1 false), (100003, .row 3 I6 a2 false)]⟩) [0, 1] [100000, 100001, 100002, 100003] (by kernel_rfl)) ?_
  unfold table_Table_Metas_1_m0.f at h
  refine WpC.seq ?_
  refine rS {} [0, 1] [100000, 100001, 100002, 100003] hN (by kernel_rfl) (by kernel_rfl) ?_
  refine tnU ?_
  refine WpC.seq ?_
  obtain ⟨g1, h⟩ := if_some h
  obtain ⟨v2, hv2, h⟩ := bind_some h
  refine rS { its := [(5, .g g1), (6, .v I6 hv2)] } [3] [100000, 100001, 100002, 100003] hN (by kernel_rfl) (by kernel_rfl) ?_
  refine tnU ?_
  refine WpC.ret ?_
  have hq := Option.some.inj h
  subst hq
  exact eR (by kernel_rfl) (by kernel_rfl)

theorem table_Table_chosen_m0.ok (O : Out) (hO : GOk O) (k : Nat) (a0 : List T_load_Rule) (a1 : List Int) (out : List Int) (h : table_Table_chosen_m0.f k a0 a1 = some out) : COk Un O Tryz.prog 122 { ar := [.loc 100000 0, .clo 123 [.loc 100003 0]], r := .p (.list I6) out, bs := [(100000, .box [.vec 100001 7 0 a0.length, .vec 100002 1 0 a1.length]), (100001, .row 96 (.named 9) a0 false), (100002, .row 3 I6 a1 false), (100003, .box [.loc 100000 0])], bs' := [(100000, .box [.vec 100001 7 0 a0.length, .vec 100002 1 0 a1.length]), (100001, .row 96 (.named 9) a0 false), (100002, .row 3 I6 a1 false), (100003, .box [.loc 100000 0])] } := by
  refine cok_of_wp Tryz.func122 rfl (k := 24) rfl (Nat.le_of_ble_eq_true rfl) (namesOk_of (by kernel_rfl)) ?_
  intro B hN
  refine WpC.conv (cvK (b := ⟨[(0, .loc 100000 0), (1, .clo 123 [.loc 100003 0])], [(100000, .box [.vec 100001 7 0 a0.length, .vec 100002 1 0 a1.length]), (100001, .row 96 (.named 9) a0 false), (100002, .row 3 I6 a1 false), (100003, .box [.loc 100000 0])]⟩) [0, 1] [100000, 100001, 100002, 100003] (by kernel_rfl)) ?_
  unfold table_Table_chosen_m0.f at h
  refine WpC.seq ?_
  refine rS {} [0, 1] [100000, 100001, 100002, 100003] hN (by kernel_rfl) (by kernel_rfl) ?_
  refine tnU ?_
  refine WpC.seq ?_
  refine rS {} [0, 1, 5] [100000, 100001, 100002, 100003] hN (by kernel_rfl) (by kernel_rfl) ?_
  refine tnU ?_
  refine sqJ (fun st' => ∃ v1 : List Int, table_Table_chosen_m0.j2 k a0 a1 v1 = some out ∧ st' = ⟨[(5, .vec 1005 1 0 v1.length)], [(1005, .row 3 I6 v1 false), (100000, .box [.vec 100001 7 0 a0.length, .vec 100002 1 0 a1.length]), (100001, .row 96 (.named 9) a0 false), (100002, .row 3 I6 a1 false), (100003, .box [.loc 100000 0])]⟩) ?_ ?_
  · refine WpC.seq ?_
    refine rS {} [1, 5, 11, 12] [100000, 100001, 100002, 100003] hN (by kernel_rfl) (by kernel_rfl) ?_
    refine tnU ?_
    refine WpC.block ?_
    obtain ⟨o7, hlo7, h⟩ := bind_some h
    have hout8 := h
    clear h
    refine WpC.conv (cS [.th 5 1005 3 I6, .k [1, 5, 11, 12] [1005, 100000, 100001, 100002, 100003]] (by kernel_rfl) (by kernel_rfl)) ?_
    refine WpC.loop (U := Un) (fun n st' => ∃ v3 : List Int, ∃ v4 : Int, table_Table_chosen_m0.l5 k a0 a1 n v3 v4 = some o7 ∧ st' = ⟨[(1, .clo 123 [.loc 100003 0]), (5, .vec 1005 1 0 v3.length), (11, .p I6 ((a0.length : Int) : Int)), (12, .p I6 v4)], [(1005, .row 3 I6 v3 false), (100000, .box [.vec 100001 7 0 a0.length, .vec 100002 1 0 a1.length]), (100001, .row 96 (.named 9) a0 false), (100002, .row 3 I6 a1 false), (100003, .box [.loc 100000 0])]⟩) k ⟨[], 0, hlo7, by kernel_rfl⟩ ?_
    clear hlo7
    rintro (_ | n) _ ⟨v3, v4, h, rfl⟩
    · cases h
    · rw [table_Table_chosen_m0.l5] at h
      refine WpC.seq ?_
      refine rS {} [1, 5, 11, 12, 13] [1005, 100000, 100001, 100002, 100003] hN (by kernel_rfl) (by kernel_rfl) ?_
      refine tnU ?_
      refine WpC.seq ?_
      refine tS (b := (decide (v4 < (a0.length : Int)))) (by kernel_rfl) (fun hc9 => ?_) (fun hc9 => ?_)
      · replace h := ite_t hc9 h
        refine WpC.conv (cS [.k [1, 5, 11, 12] [1005, 100000, 100001, 100002, 100003]] (by kernel_rfl) (by kernel_rfl)) (WpC.skip ?_)
        refine tnU ?_
        refine sqJ (fun st' => ∃ v10 : List Int, table_Table_chosen_m0.j11 k (table_Table_chosen_m0.l5 k a0 a1 n) a0 a1 v4 v10 = some o7 ∧ st' = ⟨[(1, .clo 123 [.loc 100003 0]), (5, .vec 1005 1 0 v10.length), (11, .p I6 ((a0.length : Int) : Int)), (12, .p I6 v4)], [(1005, .row 3 I6 v10 false), (100000, .box [.vec 100001 7 0 a0.length, .vec 100002 1 0 a1.length]), (100001, .row 96 (.named 9) a0 false), (100002, .row 3 I6 a1 false), (100003, .box [.loc 100000 0])]⟩) ?_ ?_
        · refine WpC.block ?_
          refine WpC.seq ?_
          refine rS {} [1, 5, 6, 11, 12] [1005, 100000, 100001, 100002, 100003] hN (by kernel_rfl) (by kernel_rfl) ?_
          refine tnU ?_
          refine WpC.seq ?_
          obtain ⟨v12, hv12, h⟩ := bind_some h
          refine rS { its := [(2, .c (COk.ren (table_Table_Metas_1_m0.ok O hO k v4 a0 a1 v12 hv12) (fun n => if n = 100000 then 100003 else if n = 100001 then 100000 else if n = 100002 then 100001 else if n = 100003 then 100002 else n) (injOn_of (by kernel_rfl))))] } [1, 5, 6, 11, 12, 17] [1005, 100000, 100001, 100002, 100003] hN (by kernel_rfl) (by kernel_rfl) ?_
          refine tnU ?_
          refine tS (b := v12) (by kernel_rfl) (fun hc13 => ?_) (fun hc13 => ?_)
          · replace h := ite_t hc13 h
            obtain ⟨g14, h⟩ := if_some h
            refine rSC { its := [(3, .g g14)] } [1, 5, 11, 12] [21, 100000, 100001, 100002, 100003] hN (by kernel_rfl) (by kernel_rfl) (cS [.rn 21 1005, .k [1, 5, 11, 12] [1005, 100000, 100001, 100002, 100003]] (by kernel_rfl) (by kernel_rfl)) ?_
            refine blockQ_normal ?_
            refine tnU ?_
            exact ⟨(v3 ++ [v4]), h, by kernel_rfl⟩
          · replace h := ite_f hc13 h
            refine WpC.conv (cS [.k [1, 5, 11, 12] [1005, 100000, 100001, 100002, 100003]] (by kernel_rfl) (by kernel_rfl)) (WpC.skip ?_)
            refine blockQ_normal ?_
            refine tnU ?_
            exact ⟨v3, h, by kernel_rfl⟩
        · rintro _ ⟨v10, h, rfl⟩
          unfold table_Table_chosen_m0.j11 at h
          refine rS {} [1, 5, 11, 12] [1005, 100000, 100001, 100002, 100003] hN (by kernel_rfl) (by kernel_rfl) ?_
          refine tnU ?_
          exact ⟨n, Nat.lt_succ_self n, v10, (IntKind.i64.wrap (v4 + 1)), h, by kernel_rfl⟩
      · replace h := ite_f hc9 h
        refine WpC.conv (cS [.k [5] [1005, 100000, 100001, 100002, 100003]] (by kernel_rfl) (by kernel_rfl)) (WpC.exit ?_)
        refine thenQ_exit ?_
        have hq := Option.some.inj h
        subst hq
        refine thenQ_exit ?_
        have h := hout8
        refine blockQ_hit ?_
        refine tnU ?_
        exact ⟨v3, h, by kernel_rfl⟩
  · rintro _ ⟨v1, h, rfl⟩
    unfold table_Table_chosen_m0.j2 at h
    refine WpC.seq ?_
    refine rS {} [4] [1005, 100000, 100001, 100002, 100003] hN (by kernel_rfl) (by kernel_rfl) ?_
    refine tnU ?_
    refine WpC.conv (cS [.fz 4, .k [4] [100000, 100001, 100002, 100003]] (by kernel_rfl) (by kernel_rfl)) (WpC.ret ?_)
    have hq := Option.some.inj h
    subst hq
    exact eR (by kernel_rfl) (by kernel_rfl)

theorem table_Table_Metas_m0.ok (O : Out) (hO : GOk O) (k : Nat) (a0 : List T_load_Rule) (a1 : List Int) (out : List Int) (h : table_Table_Metas_m0.f k a0 a1 = some out) : COk Un O Tryz.prog 92 { ar := [.loc 100000 0], r := .p (.list I6) out, bs := [(100000, .box [.vec 100001 7 0 a0.length, .vec 100002 1 0 a1.length]), (100001, .row 96 (.named 9) a0 false), (100002, .row 3 I6 a1 false)], bs' := [(100000, .box [.vec 100001 7 0 a0.length, .vec 100002 1 0 a1.length]), (100001, .row 96 (.named 9) a0 false), (100002, .row 3 I6 a1 false)] } := by
  refine cok_of_wp Tryz.func92 rfl (k := 6) rfl (Nat.le_of_ble_eq_true rfl) (namesOk_of (by kernel_rfl)) ?_
  intro B hN
  refine WpC.conv (cvK (b := ⟨[(0, .loc 100000 0)], [(100000, .box [.vec 100001 7 0 a0.length, .vec 100002 1 0 a1.length]), (100001, .row 96 (.named 9) a0 false), (100002, .row 3 I6 a1 false)]⟩) [0] [100000, 100001, 100002] (by kernel_rfl)) ?_
  unfold table_Table_Metas_m0.f at h
  refine WpC.seq ?_
  refine rS {} [1] [1, 100000, 100001, 100002] hN (by kernel_rfl) (by kernel_rfl) ?_
  refine tnU ?_
  refine WpC.seq ?_
  obtain ⟨v1, hv1, h⟩ := bind_some h
  refine rS { its := [(2, .c (COk.ren (table_Table_chosen_m0.ok O hO k a0 a1 v1 hv1) (fun n => if n = 100000 then 100000 else if n = 100001 then 100001 else if n = 100002 then 100002 else if n = 100003 then 1 else n) (injOn_of (by kernel_rfl))))] } [2] [100000, 100001, 100002] hN (by kernel_rfl) (by kernel_rfl) ?_
  refine tnU ?_
  refine WpC.ret ?_
  have hq := Option.some.inj h
  subst hq
  exact eR (by kernel_rfl) (by kernel_rfl)

theorem table_Table_add_m0.ok (O : Out) (hO : GOk O) (k : Nat) (a0 : List T_load_Rule) (a1 : List Int) (a2 : T_load_Rule) (out : Nat × (List T_load_Rule) × (List Int)) (h : table_Table_add_m0.f k a0 a1 a2 = some out) : COk Un O Tryz.prog 58 { ar := [.loc 100000 0, .p (.named 9) a2], r := .p .err out.1, bs := [(100000, .box [.vec 100001 7 0 a0.length, .vec 100002 1 0 a1.length]), (100001, .row 96 (.named 9) a0 false), (100002, .row 3 I6 a1 false)], bs' := [(60001, .row 96 (.named 9) out.2.1 false), (60002, .row 3 I6 out.2.2 false), (100000, .box [.vec 60001 7 0 out.2.1.length, .vec 60002 1 0 out.2.2.length])], nn := [60001, 60002] } := by
  refine cok_of_wp Tryz.func58 rfl (k := 71) rfl (Nat.le_of_ble_eq_true rfl) (namesOk_of (by kernel_rfl)) ?_
  intro B hN
  refine WpC.conv (cvK (b := ⟨[(0, .loc 100000 0), (1, .p (.named 9) a2)], [(100000, .box [.vec 100001 7 0 a0.length, .vec 100002 1 0 a1.length]), (100001, .row 96 (.named 9) a0 false), (100002, .row 3 I6 a1 false)]⟩) [0, 1] [100000, 100001, 100002] (by kernel_rfl)) ?_
  unfold table_Table_add_m0.f at h
  refine WpC.seq ?_
  refine rS {} [0, 3] [3, 100000, 100001, 100002] hN (by kernel_rfl) (by kernel_rfl) ?_
  refine tnU ?_
  refine WpC.seq ?_
  refine WpC.seq ?_
  obtain ⟨v1, hv1, h⟩ := bind_some h
  refine rS { its := [(1, .c (table_check.ok O hO k (T_load_Rule.mk a2.f_Targets a2.f_Prereqs (T_attr_Attr.mk a2.f_Attr.f_Flags a2.f_Attr.f_Prog) a2.f_Recipe a2.f_File a2.f_Line) v1 hv1))] } [0, 3, 5] [3, 100000, 100001, 100002] hN (by kernel_rfl) (by kernel_rfl) ?_
  refine tnU ?_
  refine WpC.seq ?_
  refine rS {} [0, 3, 5, 11] [3, 100000, 100001, 100002] hN (by kernel_rfl) (by kernel_rfl) ?_
  refine tnU ?_
  refine tS (b := (!(v1 == 0))) (by kernel_rfl) (fun hc2 => ?_) (fun hc2 => ?_)
  · replace h := ite_t hc2 h
    refine WpC.seq ?_
    refine rS {} [4] [100000, 100001, 100002] hN (by kernel_rfl) (by kernel_rfl) ?_
    refine tnU ?_
    refine WpC.conv (cS [.rn 100001 60001, .k [4] [60001, 100000, 100002], .rn 100002 60002, .k [4] [60001, 60002, 100000]] (by kernel_rfl) (by kernel_rfl)) (WpC.ret ?_)
    refine thenQ_ret ?_
    have hq := Option.some.inj h
    subst hq
    exact eR (by kernel_rfl) (by kernel_rfl)
  · replace h := ite_f hc2 h
    refine WpC.conv (cS [.k [0, 3] [3, 100000, 100001, 100002]] (by kernel_rfl) (by kernel_rfl)) (WpC.skip ?_)
    refine tnU ?_
    refine WpC.seq ?_
    refine WpC.seq ?_
    obtain ⟨v3, hv3, h⟩ := bind_some h
    refine rS { its := [(1, .c (table_idle.ok O hO k (T_load_Rule.mk a2.f_Targets a2.f_Prereqs (T_attr_Attr.mk a2.f_Attr.f_Flags a2.f_Attr.f_Prog) a2.f_Recipe a2.f_File a2.f_Line) v3 hv3))] } [0, 3, 14] [3, 100000, 100001, 100002] hN (by kernel_rfl) (by kernel_rfl) ?_
    refine tnU ?_
    refine tS (b := v3) (by kernel_rfl) (fun hc4 => ?_) (fun hc4 => ?_)
    · replace h := ite_t hc4 h
      refine WpC.seq ?_
      refine rS {} [4] [100000, 100001, 100002] hN (by kernel_rfl) (by kernel_rfl) ?_
      refine tnU ?_
      refine WpC.conv (cS [.nE 4, .k [4] [100000, 100001, 100002], .rn 100001 60001, .k [4] [60001, 100000, 100002], .rn 100002 60002, .k [4] [60001, 60002, 100000]] (by kernel_rfl) (by kernel_rfl)) (WpC.ret ?_)
      refine thenQ_ret ?_
      have hq := Option.some.inj h
      subst hq
      exact eR (by kernel_rfl) (by kernel_rfl)
    · replace h := ite_f hc4 h
      refine WpC.conv (cS [.k [0, 3] [3, 100000, 100001, 100002]] (by kernel_rfl) (by kernel_rfl)) (WpC.skip ?_)
      refine tnU ?_
      refine WpC.seq ?_
      refine WpC.seq ?_
      obtain ⟨v5, hv5, h⟩ := bind_some h
      refine rS { its := [(5, .c (COk.ren (load_Rule_m0.ok O hO k a0 a2.f_Targets a2.f_Prereqs a2.f_Attr.f_Flags a2.f_Attr.f_Prog a2.f_Recipe a2.f_File a2.f_Line v5 hv5) (fun n => if n = 100000 then 100001 else if n = 100001 then 3 else n) (injOn_of (by kernel_rfl))))] } [0, 3, 6] [3, 100000, 100001, 100002] hN (by kernel_rfl) (by kernel_rfl) ?_
      refine tnU ?_
      refine WpC.seq ?_
      refine rS {} [0, 3, 6, 22] [3, 100000, 100001, 100002] hN (by kernel_rfl) (by kernel_rfl) ?_
      refine tnU ?_
      refine tS (b := (decide (v5 ≥ 0))) (by kernel_rfl) (fun hc6 => ?_) (fun hc6 => ?_)
      · replace h := ite_t hc6 h
        refine WpC.seq ?_
        obtain ⟨v7, hv7, h⟩ := bind_some h
        obtain ⟨g8, h⟩ := if_some h
        obtain ⟨v9, hv9, h⟩ := bind_some h
        refine rAC { its := [(6, .c (table_apart.ok O hO k (T_load_Rule.mk a2.f_Targets a2.f_Prereqs (T_attr_Attr.mk a2.f_Attr.f_Flags a2.f_Attr.f_Prog) a2.f_Recipe a2.f_File a2.f_Line) v7 hv7)), (7, .g g8), (8, .v (.named 9) hv9)] } [] [100000, 100001, 100002] hN (by kernel_rfl) (by kernel_rfl) (by kernel_rfl) (cS [.k [] [100000, 100001, 100002], .x (Conv.cast (U := Un) (st := ⟨[], [(100000, .box [.vec 100001 7 0 a0.length, .vec 100002 1 0 a1.length]), (100001, .row 96 (.named 9) (upd a0 (0 + v5.toNat) v7) false), (100002, .row 3 I6 a1 false)]⟩) (st' := ⟨[], [(100000, .box [.vec 100001 7 0 ((upd a0 (0 + v5.toNat) v7).length), .vec 100002 1 0 a1.length]), (100001, .row 96 (.named 9) (upd a0 (0 + v5.toNat) v7) false), (100002, .row 3 I6 a1 false)]⟩) (by simp only [upd_length, List.length_nil, List.length_replicate]))] (by kernel_rfl) (by kernel_rfl)) ?_
        refine tnU ?_
        refine WpC.seq ?_
        refine rS {} [4] [100000, 100001, 100002] hN (by kernel_rfl) (by kernel_rfl) ?_
        refine tnU ?_
        refine WpC.conv (cS [.nE 4, .k [4] [100000, 100001, 100002], .rn 100001 60001, .k [4] [60001, 100000, 100002], .rn 100002 60002, .k [4] [60001, 60002, 100000]] (by kernel_rfl) (by kernel_rfl)) (WpC.ret ?_)
        refine thenQ_ret ?_
        have hq := Option.some.inj h
        subst hq
        exact eR (by kernel_rfl) (by kernel_rfl)
      · replace h := ite_f hc6 h
        refine WpC.conv (cS [.k [0, 3] [3, 100000, 100001, 100002]] (by kernel_rfl) (by kernel_rfl)) (WpC.skip ?_)
        refine tnU ?_
        refine WpC.seq ?_
        obtain ⟨v10, hv10, h⟩ := bind_some h
        refine rS { its := [(1, .c (table_Kind.ok O hO k (T_load_Rule.mk a2.f_Targets a2.f_Prereqs (T_attr_Attr.mk a2.f_Attr.f_Flags a2.f_Attr.f_Prog) a2.f_Recipe a2.f_File a2.f_Line) v10 hv10))] } [0, 3, 7] [3, 100000, 100001, 100002] hN (by kernel_rfl) (by kernel_rfl) ?_
        refine tnU ?_
        refine sqJ (fun st' => table_Table_add_m0.j14 k a0 a1 a2 v10 = some out ∧ st' = ⟨[(0, .loc 100000 0), (3, .loc 3 0), (7, .p I6 v10)], [(3, .box [.p (.list .str) a2.f_Targets, .p (.list .str) a2.f_Prereqs, .p I6 a2.f_Attr.f_Flags, .p .str a2.f_Attr.f_Prog, .p .str a2.f_Recipe, .p .str a2.f_File, .p I6 a2.f_Line]), (100000, .box [.vec 100001 7 0 a0.length, .vec 100002 1 0 a1.length]), (100001, .row 96 (.named 9) a0 false), (100002, .row 3 I6 a1 false)]⟩) ?_ ?_
        · refine sqJ (fun st' => ∃ v15 : Bool, table_Table_add_m0.j17 k a0 a1 a2 v10 v15 = some out ∧ st' = ⟨[(0, .loc 100000 0), (3, .loc 3 0), (7, .p I6 v10), (48, .p .bool v15)], [(3, .box [.p (.list .str) a2.f_Targets, .p (.list .str) a2.f_Prereqs, .p I6 a2.f_Attr.f_Flags, .p .str a2.f_Attr.f_Prog, .p .str a2.f_Recipe, .p .str a2.f_File, .p I6 a2.f_Line]), (100000, .box [.vec 100001 7 0 a0.length, .vec 100002 1 0 a1.length]), (100001, .row 96 (.named 9) a0 false), (100002, .row 3 I6 a1 false)]⟩) ?_ ?_
          · rcases bool_cases (v10 != 0) with hc18 | hc18
            · replace h := ite_t hc18 h
              obtain ⟨v19, hv19, h⟩ := bind_some h
              rcases bool_cases (decide ((v19.length : Int) ≥ 8)) with hc20 | hc20
              · replace h := ite_t hc20 h
                refine rS { its := [(4, .c (COk.ren (table_Table_Metas_m0.ok O hO k a0 a1 v19 hv19) (fun n => if n = 100000 then 100000 else if n = 100001 then 100001 else if n = 100002 then 100002 else n) (injOn_of (by kernel_rfl))))], kn := [(35, .t hc18), (41, .t hc20)] } [0, 3, 7, 48] [3, 100000, 100001, 100002] hN (by kernel_rfl) (by kernel_rfl) ?_
                refine tnU ?_
                exact ⟨true, h, by kernel_rfl⟩
              · replace h := ite_f hc20 h
                refine rS { its := [(4, .c (COk.ren (table_Table_Metas_m0.ok O hO k a0 a1 v19 hv19) (fun n => if n = 100000 then 100000 else if n = 100001 then 100001 else if n = 100002 then 100002 else n) (injOn_of (by kernel_rfl))))], kn := [(35, .t hc18), (41, .f hc20)] } [0, 3, 7, 48] [3, 100000, 100001, 100002] hN (by kernel_rfl) (by kernel_rfl) ?_
                refine tnU ?_
                exact ⟨(decide ((a0.length : Int) ≥ 24)), h, by kernel_rfl⟩
            · replace h := ite_f hc18 h
              refine rS { kn := [(35, .f hc18)] } [0, 3, 7, 48] [3, 100000, 100001, 100002] hN (by kernel_rfl) (by kernel_rfl) ?_
              refine tnU ?_
              exact ⟨(decide ((a0.length : Int) ≥ 24)), h, by kernel_rfl⟩
          · rintro _ ⟨v15, h, rfl⟩
            unfold table_Table_add_m0.j17 at h
            refine tS (b := v15) (by kernel_rfl) (fun hc16 => ?_) (fun hc16 => ?_)
            · replace h := ite_t hc16 h
              refine WpC.seq ?_
              refine rS { its := [(0, .e 0 (sok_loadG (U := Un) (t := .err) (rs := []) rfl rfl ty_32 rfl rfl (hO.var 9 0 rfl) (fun S w => .err 9)))] } [4] [100000, 100001, 100002] hN (by kernel_rfl) (by kernel_rfl) ?_
              refine tnU ?_
              refine WpC.conv (cS [.rn 100001 60001, .k [4] [60001, 100000, 100002], .rn 100002 60002, .k [4] [60001, 60002, 100000]] (by kernel_rfl) (by kernel_rfl)) (WpC.ret ?_)
              refine thenQ_ret ?_
              have hq := Option.some.inj h
              subst hq
              exact eR (by kernel_rfl) (by kernel_rfl)
            · replace h := ite_f hc16 h
              refine WpC.conv (cS [.k [0, 3, 7] [3, 100000, 100001, 100002]] (by kernel_rfl) (by kernel_rfl)) (WpC.skip ?_)
              refine tnU ?_
              exact ⟨h, by kernel_rfl⟩
        · rintro _ ⟨h, rfl⟩
          unfold table_Table_add_m0.j14 at h
          refine WpC.seq ?_
          obtain ⟨v11, hv11, h⟩ := bind_some h
          obtain ⟨g12, h⟩ := if_some h
          obtain ⟨g13, h⟩ := if_some h
          refine rA { its := [(7, .c (table_apart.ok O hO k (T_load_Rule.mk a2.f_Targets a2.f_Prereqs (T_attr_Attr.mk a2.f_Attr.f_Flags a2.f_Attr.f_Prog) a2.f_Recipe a2.f_File a2.f_Line) v11 hv11)), (9, .g g12), (16, .g g13)] } [] [59, 66, 100000] hN (by kernel_rfl) (by kernel_rfl) (by kernel_rfl) ?_
          refine tnU ?_
          refine WpC.seq ?_
          refine rS {} [4] [59, 66, 100000] hN (by kernel_rfl) (by kernel_rfl) ?_
          refine tnU ?_
          refine WpC.conv (cS [.nE 4, .k [4] [59, 66, 100000], .rn 59 60001, .k [4] [66, 60001, 100000], .rn 66 60002, .k [4] [60001, 60002, 100000]] (by kernel_rfl) (by kernel_rfl)) (WpC.ret ?_)
          have hq := Option.some.inj h
          subst hq
          exact eR (by kernel_rfl) (by kernel_rfl)

end Go.Proofs.YtldepagjdbcmgaaGreatDoor
