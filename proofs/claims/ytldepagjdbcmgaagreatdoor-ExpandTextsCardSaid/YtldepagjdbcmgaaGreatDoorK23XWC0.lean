/- A part of the proof of a given law: XWC0. Own work, printed in part by a program of mine. -/
import Derived.Test.YtldepagjdbcmgaaGreatDoorK23XWF
namespace Go.Proofs.YtldepagjdbcmgaaGreatDoor
open Go Go.AM
set_option linter.unusedVariables false
set_option linter.unusedSimpArgs false
set_option maxRecDepth 100000
set_option maxHeartbeats 4000000
theorem env_New.ok (O : Out) (hO : GOk O) (k : Nat) (out : List ((List UInt8) × T_env_Var)) (h : env_New.f k = some out) : COk Un O Tryz.prog 31 { ar := [], r := .loc 60500 0, bs' := [(60500, .box [.mp 60501]), (60501, .map (.named 3) out)], nn := [60500, 60501] } := by
  refine cok_of_wp Tryz.func31 rfl (k := 4) rfl (Nat.le_of_ble_eq_true rfl) (namesOk_of (by kernel_rfl)) ?_
  intro B hN
  refine WpC.conv (cvK (b := ⟨[], []⟩) [] [] (by kernel_rfl)) ?_
  unfold env_New.f at h
  refine WpC.seq ?_
  refine rS {} [] [] hN (by kernel_rfl) (by kernel_rfl) ?_
  refine tnU ?_
  refine WpC.seq ?_
  refine rS {} [0] [1, 3] hN (by kernel_rfl) (by kernel_rfl) ?_
  refine tnU ?_
  refine WpC.conv (cS [.rn 1 60501, .k [0] [3, 60501], .rn 3 60500, .k [0] [60500, 60501]] (by kernel_rfl) (by kernel_rfl)) (WpC.ret ?_)
  have hq := Option.some.inj h
  subst hq
  exact eR (by kernel_rfl) (by kernel_rfl)

theorem lex_letter.ok (O : Out) (hO : GOk O) (k : Nat) (a0 : Int) (out : Bool) (h : lex_letter.f k a0 = some out) : COk Un O Tryz.prog 104 { ar := [.p (.int .u8) a0], r := .p .bool out } := by
  refine cok_of_wp Tryz.func104 rfl (k := 29) rfl (Nat.le_of_ble_eq_true rfl) (namesOk_pure rfl rfl rfl rfl) ?_
  intro B hN
  refine WpC.conv (cvK (b := ⟨[(0, .p (.int .u8) a0)], []⟩) [0] [] (by kernel_rfl)) ?_
  unfold lex_letter.f at h
  refine WpC.seq ?_
  refine rS {} [0] [] hN (by kernel_rfl) (by kernel_rfl) ?_
  refine tnU ?_
  refine WpC.seq ?_
  rcases bool_cases (decide (a0 ≥ 97)) with hc1 | hc1
  · replace h := ite_t hc1 h
    rcases bool_cases (decide (a0 ≤ 122)) with hc2 | hc2
    · replace h := ite_t hc2 h
      refine rS { kn := [(5, .t hc1), (9, .t hc2)] } [2] [] hN (by kernel_rfl) (by kernel_rfl) ?_
      refine tnU ?_
      refine WpC.ret ?_
      have hq := Option.some.inj h
      subst hq
      exact eR (by kernel_rfl) (by kernel_rfl)
    · replace h := ite_f hc2 h
      rcases bool_cases (decide (a0 ≥ 65)) with hc3 | hc3
      · replace h := ite_t hc3 h
        rcases bool_cases (decide (a0 ≤ 90)) with hc4 | hc4
        · replace h := ite_t hc4 h
          refine rS { kn := [(5, .t hc1), (9, .f hc2), (12, .t hc3), (17, .t hc4)] } [2] [] hN (by kernel_rfl) (by kernel_rfl) ?_
          refine tnU ?_
          refine WpC.ret ?_
          have hq := Option.some.inj h
          subst hq
          exact eR (by kernel_rfl) (by kernel_rfl)
        · replace h := ite_f hc4 h
          rcases bool_cases (decide (a0 ≥ 48)) with hc5 | hc5
          · replace h := ite_t hc5 h
            rcases bool_cases (decide (a0 ≤ 57)) with hc6 | hc6
            · replace h := ite_t hc6 h
              refine rS { kn := [(5, .t hc1), (9, .f hc2), (12, .t hc3), (17, .f hc4), (20, .t hc5), (25, .t hc6)] } [2] [] hN (by kernel_rfl) (by kernel_rfl) ?_
              refine tnU ?_
              refine WpC.ret ?_
              have hq := Option.some.inj h
              subst hq
              exact eR (by kernel_rfl) (by kernel_rfl)
            · replace h := ite_f hc6 h
              refine rS { kn := [(5, .t hc1), (9, .f hc2), (12, .t hc3), (17, .f hc4), (20, .t hc5), (25, .f hc6)] } [2] [] hN (by kernel_rfl) (by kernel_rfl) ?_
              refine tnU ?_
              refine WpC.ret ?_
              have hq := Option.some.inj h
              subst hq
              exact eR (by kernel_rfl) (by kernel_rfl)
          · replace h := ite_f hc5 h
            refine rS { kn := [(5, .t hc1), (9, .f hc2), (12, .t hc3), (17, .f hc4), (20, .f hc5)] } [2] [] hN (by kernel_rfl) (by kernel_rfl) ?_
            refine tnU ?_
            refine WpC.ret ?_
            have hq := Option.some.inj h
            subst hq
            exact eR (by kernel_rfl) (by kernel_rfl)
      · replace h := ite_f hc3 h
        rcases bool_cases (decide (a0 ≥ 48)) with hc7 | hc7
        · replace h := ite_t hc7 h
          rcases bool_cases (decide (a0 ≤ 57)) with hc8 | hc8
          · replace h := ite_t hc8 h
            refine rS { kn := [(5, .t hc1), (9, .f hc2), (12, .f hc3), (20, .t hc7), (25, .t hc8)] } [2] [] hN (by kernel_rfl) (by kernel_rfl) ?_
            refine tnU ?_
            refine WpC.ret ?_
            have hq := Option.some.inj h
            subst hq
            exact eR (by kernel_rfl) (by kernel_rfl)
          · replace h := ite_f hc8 h
            refine rS { kn := [(5, .t hc1), (9, .f hc2), (12, .f hc3), (20, .t hc7), (25, .f hc8)] } [2] [] hN (by kernel_rfl) (by kernel_rfl) ?_
            refine tnU ?_
            refine WpC.ret ?_
            have hq := Option.some.inj h
            subst hq
            exact eR (by kernel_rfl) (by kernel_rfl)
        · replace h := ite_f hc7 h
          refine rS { kn := [(5, .t hc1), (9, .f hc2), (12, .f hc3), (20, .f hc7)] } [2] [] hN (by kernel_rfl) (by kernel_rfl) ?_
          refine tnU ?_
          refine WpC.ret ?_
          have hq := Option.some.inj h
          subst hq
          exact eR (by kernel_rfl) (by kernel_rfl)
  · replace h := ite_f hc1 h
    rcases bool_cases (decide (a0 ≥ 65)) with hc9 | hc9
    · replace h := ite_t hc9 h
      rcases bool_cases (decide (a0 ≤ 90)) with hc10 | hc10
      · replace h := ite_t hc10 h
        refine rS { kn := [(5, .f hc1), (12, .t hc9), (17, .t hc10)] } [2] [] hN (by kernel_rfl) (by kernel_rfl) ?_
        refine tnU ?_
        refine WpC.ret ?_
        have hq := Option.some.inj h
        subst hq
        exact eR (by kernel_rfl) (by kernel_rfl)
      · replace h := ite_f hc10 h
        rcases bool_cases (decide (a0 ≥ 48)) with hc11 | hc11
        · replace h := ite_t hc11 h
          rcases bool_cases (decide (a0 ≤ 57)) with hc12 | hc12
          · replace h := ite_t hc12 h
            refine rS { kn := [(5, .f hc1), (12, .t hc9), (17, .f hc10), (20, .t hc11), (25, .t hc12)] } [2] [] hN (by kernel_rfl) (by kernel_rfl) ?_
            refine tnU ?_
            refine WpC.ret ?_
            have hq := Option.some.inj h
            subst hq
            exact eR (by kernel_rfl) (by kernel_rfl)
          · replace h := ite_f hc12 h
            refine rS { kn := [(5, .f hc1), (12, .t hc9), (17, .f hc10), (20, .t hc11), (25, .f hc12)] } [2] [] hN (by kernel_rfl) (by kernel_rfl) ?_
            refine tnU ?_
            refine WpC.ret ?_
            have hq := Option.some.inj h
            subst hq
            exact eR (by kernel_rfl) (by kernel_rfl)
        · replace h := ite_f hc11 h
          refine rS { kn := [(5, .f hc1), (12, .t hc9), (17, .f hc10), (20, .f hc11)] } [2] [] hN (by kernel_rfl) (by kernel_rfl) ?_
          refine tnU ?_
          refine WpC.ret ?_
          have hq := Option.some.inj h
          subst hq
          exact eR (by kernel_rfl) (by kernel_rfl)
    · replace h := ite_f hc9 h
      rcases bool_cases (decide (a0 ≥ 48)) with hc13 | hc13
      · replace h := ite_t hc13 h
        rcases bool_cases (decide (a0 ≤ 57)) with hc14 | hc14
        · replace h := ite_t hc14 h
          refine rS { kn := [(5, .f hc1), (12, .f hc9), (20, .t hc13), (25, .t hc14)] } [2] [] hN (by kernel_rfl) (by kernel_rfl) ?_
          refine tnU ?_
          refine WpC.ret ?_
          have hq := Option.some.inj h
          subst hq
          exact eR (by kernel_rfl) (by kernel_rfl)
        · replace h := ite_f hc14 h
          refine rS { kn := [(5, .f hc1), (12, .f hc9), (20, .t hc13), (25, .f hc14)] } [2] [] hN (by kernel_rfl) (by kernel_rfl) ?_
          refine tnU ?_
          refine WpC.ret ?_
          have hq := Option.some.inj h
          subst hq
          exact eR (by kernel_rfl) (by kernel_rfl)
      · replace h := ite_f hc13 h
        refine rS { kn := [(5, .f hc1), (12, .f hc9), (20, .f hc13)] } [2] [] hN (by kernel_rfl) (by kernel_rfl) ?_
        refine tnU ?_
        refine WpC.ret ?_
        have hq := Option.some.inj h
        subst hq
        exact eR (by kernel_rfl) (by kernel_rfl)

theorem lex_run_m0.ok (O : Out) (hO : GOk O) (k : Nat) (a0 : List UInt8) (a1 : Int) (out : Int) (h : lex_run_m0.f k a0 a1 = some out) : COk Un O Tryz.prog 77 { ar := [.p .str a0, .p I6 a1, .clo 104 []], r := .p I6 out } := by
  refine cok_of_wp Tryz.func77 rfl (k := 26) rfl (Nat.le_of_ble_eq_true rfl) (namesOk_pure rfl rfl rfl rfl) ?_
  intro B hN
  refine WpC.conv (cvK (b := ⟨[(0, .p .str a0), (1, .p I6 a1), (2, .clo 104 [])], []⟩) [0, 1, 2] [] (by kernel_rfl)) ?_
  unfold lex_run_m0.f at h
  refine WpC.seq ?_
  refine rS {} [0, 1, 2] [] hN (by kernel_rfl) (by kernel_rfl) ?_
  refine tnU ?_
  refine WpC.seq ?_
  refine rS {} [0, 1, 2, 7] [] hN (by kernel_rfl) (by kernel_rfl) ?_
  refine tnU ?_
  refine sqJ (fun st' => ∃ v1 : Int, lex_run_m0.j2 k v1 = some out ∧ st' = ⟨[(7, .p I6 v1)], []⟩) ?_ ?_
  · refine WpC.block ?_
    obtain ⟨o6, hlo6, h⟩ := bind_some h
    have hout7 := h
    clear h
    refine WpC.loop (U := Un) (fun n st' => ∃ v3 : Int, lex_run_m0.l4 k a0 a1 n v3 = some o6 ∧ st' = ⟨[(0, .p .str a0), (1, .p I6 a1), (2, .clo 104 []), (7, .p I6 v3)], []⟩) k ⟨0, hlo6, by kernel_rfl⟩ ?_
    clear hlo6
    rintro (_ | n) _ ⟨v3, h, rfl⟩
    · cases h
    · rw [lex_run_m0.l4] at h
      refine sqJ (fun st' => lex_run_m0.j8 k (lex_run_m0.l4 k a0 a1 n) a0 a1 v3 = some o6 ∧ st' = ⟨[(0, .p .str a0), (1, .p I6 a1), (2, .clo 104 []), (7, .p I6 v3)], []⟩) ?_ ?_
      · refine sqJ (fun st' => ∃ v9 : Bool, lex_run_m0.j11 k (lex_run_m0.l4 k a0 a1 n) a0 a1 v3 v9 = some o6 ∧ st' = ⟨[(0, .p .str a0), (1, .p I6 a1), (2, .clo 104 []), (7, .p I6 v3), (22, .p .bool v9)], []⟩) ?_ ?_
        · rcases bool_cases (decide ((IntKind.i64.wrap (a1 + v3)) < (a0.length : Int))) with hc12 | hc12
          · replace h := ite_t hc12 h
            obtain ⟨v13, hv13, h⟩ := bind_some h
            obtain ⟨v14, hv14, h⟩ := bind_some h
            refine rS { its := [(12, .u hv13), (13, .c (lex_letter.ok O hO k (v13.toNat : Int) v14 hv14))], kn := [(14, .t hc12)] } [0, 1, 2, 7, 22] [] hN (by kernel_rfl) (by kernel_rfl) ?_
            refine tnU ?_
            exact ⟨v14, h, by kernel_rfl⟩
          · replace h := ite_f hc12 h
            refine rS { kn := [(14, .f hc12)] } [0, 1, 2, 7, 22] [] hN (by kernel_rfl) (by kernel_rfl) ?_
            refine tnU ?_
            exact ⟨false, h, by kernel_rfl⟩
        · rintro _ ⟨v9, h, rfl⟩
          unfold lex_run_m0.j11 at h
          refine tS (b := v9) (by kernel_rfl) (fun hc10 => ?_) (fun hc10 => ?_)
          · replace h := ite_t hc10 h
            refine WpC.conv (cS [.k [0, 1, 2, 7] []] (by kernel_rfl) (by kernel_rfl)) (WpC.skip ?_)
            refine tnU ?_
            exact ⟨h, by kernel_rfl⟩
          · replace h := ite_f hc10 h
            refine WpC.conv (cS [.k [7] []] (by kernel_rfl) (by kernel_rfl)) (WpC.exit ?_)
            refine thenQ_exit ?_
            have hq := Option.some.inj h
            subst hq
            refine thenQ_exit ?_
            have h := hout7
            refine blockQ_hit ?_
            refine tnU ?_
            exact ⟨v3, h, by kernel_rfl⟩
      · rintro _ ⟨h, rfl⟩
        unfold lex_run_m0.j8 at h
        refine WpC.block ?_
        refine rS {} [0, 1, 2, 7] [] hN (by kernel_rfl) (by kernel_rfl) ?_
        refine blockQ_normal ?_
        refine tnU ?_
        exact ⟨n, Nat.lt_succ_self n, (IntKind.i64.wrap (v3 + 1)), h, by kernel_rfl⟩
  · rintro _ ⟨v1, h, rfl⟩
    unfold lex_run_m0.j2 at h
    refine WpC.seq ?_
    refine rS {} [6] [] hN (by kernel_rfl) (by kernel_rfl) ?_
    refine tnU ?_
    refine WpC.ret ?_
    have hq := Option.some.inj h
    subst hq
    exact eR (by kernel_rfl) (by kernel_rfl)

theorem lex_Name.ok (O : Out) (hO : GOk O) (k : Nat) (a0 : List UInt8) (out : Bool) (h : lex_Name.f k a0 = some out) : COk Un O Tryz.prog 74 { ar := [.p .str a0], r := .p .bool out } := by
  refine cok_of_wp Tryz.func74 rfl (k := 17) rfl (Nat.le_of_ble_eq_true rfl) (namesOk_pure rfl rfl rfl rfl) ?_
  intro B hN
  refine WpC.conv (cvK (b := ⟨[(0, .p .str a0)], []⟩) [0] [] (by kernel_rfl)) ?_
  unfold lex_Name.f at h
  refine WpC.seq ?_
  refine rS {} [0] [] hN (by kernel_rfl) (by kernel_rfl) ?_
  refine tnU ?_
  refine WpC.seq ?_
  rcases bool_cases (!(a0 == ([] : List UInt8))) with hc1 | hc1
  · replace h := ite_t hc1 h
    rcases bool_cases (decide ((a0.length : Int) ≤ 12)) with hc2 | hc2
    · replace h := ite_t hc2 h
      obtain ⟨v3, hv3, h⟩ := bind_some h
      refine rS { its := [(9, .c (lex_run_m0.ok O hO k a0 0 v3 hv3))], kn := [(5, .t hc1), (10, .t hc2)] } [2] [] hN (by kernel_rfl) (by kernel_rfl) ?_
      refine tnU ?_
      refine WpC.ret ?_
      have hq := Option.some.inj h
      subst hq
      exact eR (by kernel_rfl) (by kernel_rfl)
    · replace h := ite_f hc2 h
      refine rS { kn := [(5, .t hc1), (10, .f hc2)] } [2] [] hN (by kernel_rfl) (by kernel_rfl) ?_
      refine tnU ?_
      refine WpC.ret ?_
      have hq := Option.some.inj h
      subst hq
      exact eR (by kernel_rfl) (by kernel_rfl)
  · replace h := ite_f hc1 h
    refine rS { kn := [(5, .f hc1)] } [2] [] hN (by kernel_rfl) (by kernel_rfl) ?_
    refine tnU ?_
    refine WpC.ret ?_
    have hq := Option.some.inj h
    subst hq
    exact eR (by kernel_rfl) (by kernel_rfl)

theorem env_Check_1.ok (O : Out) (hO : GOk O) (k : Nat) (a0 : List UInt8) (out : Bool) (h : env_Check_1.f k a0 = some out) : COk Un O Tryz.prog 73 { ar := [.p .str a0], r := .p .bool out } := by
  refine cok_of_wp Tryz.func73 rfl (k := 6) rfl (Nat.le_of_ble_eq_true rfl) (namesOk_pure rfl rfl rfl rfl) ?_
  intro B hN
  refine WpC.conv (cvK (b := ⟨[(0, .p .str a0)], []⟩) [0] [] (by kernel_rfl)) ?_
  unfold env_Check_1.f at h
  refine WpC.seq ?_
  refine rS {} [0] [] hN (by kernel_rfl) (by kernel_rfl) ?_
  refine tnU ?_
  refine WpC.seq ?_
  refine rS {} [2] [] hN (by kernel_rfl) (by kernel_rfl) ?_
  refine tnU ?_
  refine WpC.ret ?_
  have hq := Option.some.inj h
  subst hq
  exact eR (by kernel_rfl) (by kernel_rfl)

theorem slices_IndexFunc_string_string_m0.ok (O : Out) (hO : GOk O) (k : Nat) (a0 : List (List UInt8)) (out : Int) (h : slices_IndexFunc_string_string_m0.f k a0 = some out) : COk Un O Tryz.prog 96 { ar := [.p (.list .str) a0, .clo 73 []], r := .p I6 out } := by
  refine cok_of_wp Tryz.func96 rfl (k := 19) rfl (Nat.le_of_ble_eq_true rfl) (namesOk_pure rfl rfl rfl rfl) ?_
  intro B hN
  refine WpC.conv (cvK (b := ⟨[(0, .p (.list .str) a0), (1, .clo 73 [])], []⟩) [0, 1] [] (by kernel_rfl)) ?_
  unfold slices_IndexFunc_string_string_m0.f at h
  refine WpC.seq ?_
  refine rS {} [0, 1] [] hN (by kernel_rfl) (by kernel_rfl) ?_
  refine tnU ?_
  refine sqJ (fun st' => slices_IndexFunc_string_string_m0.j1 k = some out ∧ st' = ⟨[], []⟩) ?_ ?_
  · refine WpC.seq ?_
    refine rS {} [0, 1, 7, 8] [] hN (by kernel_rfl) (by kernel_rfl) ?_
    refine tnU ?_
    refine WpC.block ?_
    obtain ⟨o4, hlo4, h⟩ := bind_some h
    have hout5 := h
    clear h
    refine WpC.loop (U := Un) (fun n st' => ∃ v2 : Int, slices_IndexFunc_string_string_m0.l3 k a0 n v2 = some o4 ∧ st' = ⟨[(0, .p (.list .str) a0), (1, .clo 73 []), (7, .p I6 ((a0.length : Int) : Int)), (8, .p I6 v2)], []⟩) k ⟨0, hlo4, by kernel_rfl⟩ ?_
    clear hlo4
    rintro (_ | n) _ ⟨v2, h, rfl⟩
    · cases h
    · rw [slices_IndexFunc_string_string_m0.l3] at h
      refine WpC.seq ?_
      refine rS {} [0, 1, 7, 8, 9] [] hN (by kernel_rfl) (by kernel_rfl) ?_
      refine tnU ?_
      refine WpC.seq ?_
      refine tS (b := (decide (v2 < (a0.length : Int)))) (by kernel_rfl) (fun hc6 => ?_) (fun hc6 => ?_)
      · replace h := ite_t hc6 h
        refine WpC.conv (cS [.k [0, 1, 7, 8] []] (by kernel_rfl) (by kernel_rfl)) (WpC.skip ?_)
        refine tnU ?_
        refine WpC.seq ?_
        refine WpC.block ?_
        refine WpC.seq ?_
        refine rS {} [0, 1, 5, 7, 8] [] hN (by kernel_rfl) (by kernel_rfl) ?_
        refine tnU ?_
        refine WpC.seq ?_
        obtain ⟨v7, hv7, h⟩ := bind_some h
        obtain ⟨v8, hv8, h⟩ := bind_some h
        refine rS { its := [(3, .v .str hv7), (5, .c (env_Check_1.ok O hO k v7 v8 hv8))] } [0, 1, 5, 7, 8, 16] [] hN (by kernel_rfl) (by kernel_rfl) ?_
        refine tnU ?_
        refine tS (b := v8) (by kernel_rfl) (fun hc9 => ?_) (fun hc9 => ?_)
        · replace h := ite_t hc9 h
          refine WpC.seq ?_
          refine rS {} [4] [] hN (by kernel_rfl) (by kernel_rfl) ?_
          refine tnU ?_
          refine WpC.ret ?_
          refine blockQ_ret ?_
          refine thenQ_ret ?_
          have hq := Option.some.inj h
          subst hq
          refine thenQ_ret ?_
          have h := hout5
          refine blockQ_ret ?_
          refine thenQ_ret ?_
          have hq := Option.some.inj h
          subst hq
          exact eR (by kernel_rfl) (by kernel_rfl)
        · replace h := ite_f hc9 h
          refine WpC.conv (cS [.k [0, 1, 7, 8] []] (by kernel_rfl) (by kernel_rfl)) (WpC.skip ?_)
          refine blockQ_normal ?_
          refine tnU ?_
          refine rS {} [0, 1, 7, 8] [] hN (by kernel_rfl) (by kernel_rfl) ?_
          refine tnU ?_
          exact ⟨n, Nat.lt_succ_self n, (IntKind.i64.wrap (v2 + 1)), h, by kernel_rfl⟩
      · replace h := ite_f hc6 h
        refine WpC.conv (cS [.k [] []] (by kernel_rfl) (by kernel_rfl)) (WpC.exit ?_)
        refine thenQ_exit ?_
        have hq := Option.some.inj h
        subst hq
        refine thenQ_exit ?_
        have h := hout5
        refine blockQ_hit ?_
        refine tnU ?_
        exact ⟨h, by kernel_rfl⟩
  · rintro _ ⟨h, rfl⟩
    unfold slices_IndexFunc_string_string_m0.j1 at h
    refine WpC.seq ?_
    refine rS {} [4] [] hN (by kernel_rfl) (by kernel_rfl) ?_
    refine tnU ?_
    refine WpC.ret ?_
    have hq := Option.some.inj h
    subst hq
    exact eR (by kernel_rfl) (by kernel_rfl)

theorem slices_ContainsFunc_string_string_m0.ok (O : Out) (hO : GOk O) (k : Nat) (a0 : List (List UInt8)) (out : Bool) (h : slices_ContainsFunc_string_string_m0.f k a0 = some out) : COk Un O Tryz.prog 64 { ar := [.p (.list .str) a0, .clo 73 []], r := .p .bool out } := by
  refine cok_of_wp Tryz.func64 rfl (k := 9) rfl (Nat.le_of_ble_eq_true rfl) (namesOk_pure rfl rfl rfl rfl) ?_
  intro B hN
  refine WpC.conv (cvK (b := ⟨[(0, .p (.list .str) a0), (1, .clo 73 [])], []⟩) [0, 1] [] (by kernel_rfl)) ?_
  unfold slices_ContainsFunc_string_string_m0.f at h
  refine WpC.seq ?_
  refine rS {} [0, 1] [] hN (by kernel_rfl) (by kernel_rfl) ?_
  refine tnU ?_
  refine WpC.seq ?_
  obtain ⟨v1, hv1, h⟩ := bind_some h
  refine rS { its := [(2, .c (slices_IndexFunc_string_string_m0.ok O hO k a0 v1 hv1))] } [4] [] hN (by kernel_rfl) (by kernel_rfl) ?_
  refine tnU ?_
  refine WpC.ret ?_
  have hq := Option.some.inj h
  subst hq
  exact eR (by kernel_rfl) (by kernel_rfl)

theorem env_Check.ok (O : Out) (hO : GOk O) (k : Nat) (a0 : T_env_Var) (out : Nat) (h : env_Check.f k a0 = some out) : COk Un O Tryz.prog 47 { ar := [.p (.named 3) a0], r := .p .err out } := by
  refine cok_of_wp Tryz.func47 rfl (k := 32) rfl (Nat.le_of_ble_eq_true rfl) (namesOk_pure rfl rfl rfl rfl) ?_
  intro B hN
  refine WpC.conv (cvK (b := ⟨[(0, .p (.named 3) a0)], []⟩) [0] [] (by kernel_rfl)) ?_
  unfold env_Check.f at h
  refine WpC.seq ?_
  refine rS {} [1] [1] hN (by kernel_rfl) (by kernel_rfl) ?_
  refine tnU ?_
  refine WpC.seq ?_
  refine rS {} [1, 3] [1] hN (by kernel_rfl) (by kernel_rfl) ?_
  refine tnU ?_
  refine sqJ (fun st' => env_Check.j1 k = some out ∧ st' = ⟨[], []⟩) ?_ ?_
  · refine WpC.block ?_
    refine WpC.seq ?_
    obtain ⟨v2, hv2, h⟩ := bind_some h
    refine rS { its := [(2, .c (lex_Name.ok O hO k a0.f_Name v2 hv2))] } [1, 3, 4] [1] hN (by kernel_rfl) (by kernel_rfl) ?_
    refine tnU ?_
    refine tS (b := (!v2)) (by kernel_rfl) (fun hc3 => ?_) (fun hc3 => ?_)
    · replace h := ite_t hc3 h
      refine WpC.seq ?_
      refine rS { its := [(0, .e 0 (sok_loadG (U := Un) (t := .err) (rs := []) rfl rfl ty_32 rfl rfl (hO.var 3 4 rfl) (fun S w => .err 3)))] } [2] [] hN (by kernel_rfl) (by kernel_rfl) ?_
      refine tnU ?_
      refine WpC.ret ?_
      refine blockQ_ret ?_
      refine thenQ_ret ?_
      have hq := Option.some.inj h
      subst hq
      exact eR (by kernel_rfl) (by kernel_rfl)
    · replace h := ite_f hc3 h
      refine sqJ (fun st' => ∃ v4 : Bool, env_Check.j9 k a0 v4 = some out ∧ st' = ⟨[(1, .loc 1 0), (3, .clo 73 []), (10, .p .bool v4)], [(1, .box [.p .str a0.f_Name, .p (.list .str) a0.f_Words, .p I6 a0.f_Level, .p .bool a0.f_Hidden])]⟩) ?_ ?_
      · rcases bool_cases (decide (a0.f_Level < 0)) with hc10 | hc10
        · replace h := ite_t hc10 h
          refine rS { kn := [(14, .t hc10)] } [1, 3, 10] [1] hN (by kernel_rfl) (by kernel_rfl) ?_
          refine tnU ?_
          exact ⟨true, h, by kernel_rfl⟩
        · replace h := ite_f hc10 h
          refine rS { kn := [(14, .f hc10)] } [1, 3, 10] [1] hN (by kernel_rfl) (by kernel_rfl) ?_
          refine tnU ?_
          exact ⟨(decide (a0.f_Level > 2)), h, by kernel_rfl⟩
      · rintro _ ⟨v4, h, rfl⟩
        unfold env_Check.j9 at h
        refine tS (b := v4) (by kernel_rfl) (fun hc5 => ?_) (fun hc5 => ?_)
        · replace h := ite_t hc5 h
          refine WpC.seq ?_
          refine rS { its := [(0, .e 0 (sok_loadG (U := Un) (t := .err) (rs := []) rfl rfl ty_32 rfl rfl (hO.var 0 1 rfl) (fun S w => .err 0)))] } [2] [] hN (by kernel_rfl) (by kernel_rfl) ?_
          refine tnU ?_
          refine WpC.ret ?_
          refine blockQ_ret ?_
          refine thenQ_ret ?_
          have hq := Option.some.inj h
          subst hq
          exact eR (by kernel_rfl) (by kernel_rfl)
        · replace h := ite_f hc5 h
          refine WpC.seq ?_
          refine rS {} [1, 3, 20] [1] hN (by kernel_rfl) (by kernel_rfl) ?_
          refine tnU ?_
          refine tS (b := (decide ((a0.f_Words.length : Int) > 40))) (by kernel_rfl) (fun hc6 => ?_) (fun hc6 => ?_)
          · replace h := ite_t hc6 h
            refine WpC.seq ?_
            refine rS { its := [(0, .e 0 (sok_loadG (U := Un) (t := .err) (rs := []) rfl rfl ty_32 rfl rfl (hO.var 9 0 rfl) (fun S w => .err 9)))] } [2] [] hN (by kernel_rfl) (by kernel_rfl) ?_
            refine tnU ?_
            refine WpC.ret ?_
            refine blockQ_ret ?_
            refine thenQ_ret ?_
            have hq := Option.some.inj h
            subst hq
            exact eR (by kernel_rfl) (by kernel_rfl)
          · replace h := ite_f hc6 h
            refine WpC.seq ?_
            obtain ⟨v7, hv7, h⟩ := bind_some h
            refine rS { its := [(3, .c (slices_ContainsFunc_string_string_m0.ok O hO k a0.f_Words v7 hv7))] } [26] [] hN (by kernel_rfl) (by kernel_rfl) ?_
            refine tnU ?_
            refine tS (b := v7) (by kernel_rfl) (fun hc8 => ?_) (fun hc8 => ?_)
            · replace h := ite_t hc8 h
              refine WpC.seq ?_
              refine rS { its := [(0, .e 0 (sok_loadG (U := Un) (t := .err) (rs := []) rfl rfl ty_32 rfl rfl (hO.var 1 2 rfl) (fun S w => .err 1)))] } [2] [] hN (by kernel_rfl) (by kernel_rfl) ?_
              refine tnU ?_
              refine WpC.ret ?_
              refine blockQ_ret ?_
              refine thenQ_ret ?_
              have hq := Option.some.inj h
              subst hq
              exact eR (by kernel_rfl) (by kernel_rfl)
            · replace h := ite_f hc8 h
              refine WpC.conv (cS [.k [] []] (by kernel_rfl) (by kernel_rfl)) (WpC.skip ?_)
              refine blockQ_normal ?_
              refine tnU ?_
              exact ⟨h, by kernel_rfl⟩
  · rintro _ ⟨h, rfl⟩
    unfold env_Check.j1 at h
    refine WpC.seq ?_
    refine rS {} [2] [] hN (by kernel_rfl) (by kernel_rfl) ?_
    refine tnU ?_
    refine WpC.conv (cS [.nE 2, .k [2] []] (by kernel_rfl) (by kernel_rfl)) (WpC.ret ?_)
    have hq := Option.some.inj h
    subst hq
    exact eR (by kernel_rfl) (by kernel_rfl)

theorem env_Var_apart.ok (O : Out) (hO : GOk O) (k : Nat) (a0 : T_env_Var) (out : T_env_Var) (h : env_Var_apart.f k a0 = some out) : COk Un O Tryz.prog 48 { ar := [.p (.named 3) a0], r := .p (.named 3) out } := by
  refine cok_of_wp Tryz.func48 rfl (k := 8) rfl (Nat.le_of_ble_eq_true rfl) (namesOk_pure rfl rfl rfl rfl) ?_
  intro B hN
  refine WpC.conv (cvK (b := ⟨[(0, .p (.named 3) a0)], []⟩) [0] [] (by kernel_rfl)) ?_
  unfold env_Var_apart.f at h
  refine WpC.seq ?_
  refine rS {} [1, 2] [1, 2] hN (by kernel_rfl) (by kernel_rfl) ?_
  refine tnU ?_
  refine WpC.seq ?_
  obtain ⟨v1, hv1, h⟩ := bind_some h
  refine rS { its := [(2, .c (COk.ren (pCloneR.ok O hO k a0.f_Words v1 hv1) (fun n => if n = 60500 then 10001 else n) (injOn_of (by kernel_rfl))))] } [1, 2] [1, 2, 10001] hN (by kernel_rfl) (by kernel_rfl) ?_
  refine tnU ?_
  refine WpC.seq ?_
  refine rS {} [2] [2, 10001] hN (by kernel_rfl) (by kernel_rfl) ?_
  refine tnU ?_
  refine WpC.conv (cS [.fu 2 1, .k [2] [2]] (by kernel_rfl) (by kernel_rfl)) (WpC.ret ?_)
  have hq := Option.some.inj h
  subst hq
  exact eR (by kernel_rfl) (by kernel_rfl)

theorem env_Env_Set_m0.ok (O : Out) (hO : GOk O) (k : Nat) (a0 : List ((List UInt8) × T_env_Var)) (a1 : T_env_Var) (out : Nat × (List ((List UInt8) × T_env_Var))) (h : env_Env_Set_m0.f k a0 a1 = some out) : COk Un O Tryz.prog 32 { ar := [.loc 100000 0, .p (.named 3) a1], r := .p .err out.1, bs := [(100000, .box [.mp 100001]), (100001, .map (.named 3) a0)], bs' := [(100000, .box [.mp 100001]), (100001, .map (.named 3) out.2)] } := by
  refine cok_of_wp Tryz.func32 rfl (k := 52) rfl (Nat.le_of_ble_eq_true rfl) (namesOk_of (by kernel_rfl)) ?_
  intro B hN
  refine WpC.conv (cvK (b := ⟨[(0, .loc 100000 0), (1, .p (.named 3) a1)], [(100000, .box [.mp 100001]), (100001, .map (.named 3) a0)]⟩) [0, 1] [100000, 100001] (by kernel_rfl)) ?_
  unfold env_Env_Set_m0.f at h
  refine WpC.seq ?_
  refine rS {} [0, 3] [3, 100000, 100001] hN (by kernel_rfl) (by kernel_rfl) ?_
  refine tnU ?_
  refine WpC.seq ?_
  refine WpC.seq ?_
  obtain ⟨v1, hv1, h⟩ := bind_some h
  refine rS { its := [(1, .c (env_Check.ok O hO k (T_env_Var.mk a1.f_Name a1.f_Words a1.f_Level a1.f_Hidden) v1 hv1))] } [0, 3, 5] [3, 100000, 100001] hN (by kernel_rfl) (by kernel_rfl) ?_
  refine tnU ?_
  refine WpC.seq ?_
  refine rS {} [0, 3, 5, 11] [3, 100000, 100001] hN (by kernel_rfl) (by kernel_rfl) ?_
  refine tnU ?_
  refine tS (b := (!(v1 == 0))) (by kernel_rfl) (fun hc2 => ?_) (fun hc2 => ?_)
  · replace h := ite_t hc2 h
    refine WpC.seq ?_
    refine rS {} [4] [100000, 100001] hN (by kernel_rfl) (by kernel_rfl) ?_
    refine tnU ?_
    refine WpC.ret ?_
    refine thenQ_ret ?_
    have hq := Option.some.inj h
    subst hq
    exact eR (by kernel_rfl) (by kernel_rfl)
  · replace h := ite_f hc2 h
    refine WpC.conv (cS [.k [0, 3] [3, 100000, 100001]] (by kernel_rfl) (by kernel_rfl)) (WpC.skip ?_)
    refine tnU ?_
    refine WpC.seq ?_
    refine rA {} [0, 3, 6, 7] [3, 6, 100000, 100001] hN (by kernel_rfl) (by kernel_rfl) (by kernel_rfl) ?_
    refine tnU ?_
    refine sqJ (fun st' => env_Env_Set_m0.j4 k a0 a1 = some out ∧ st' = ⟨[(0, .loc 100000 0), (3, .loc 3 0)], [(3, .box [.p .str a1.f_Name, .p (.list .str) a1.f_Words, .p I6 a1.f_Level, .p .bool a1.f_Hidden]), (100000, .box [.mp 100001]), (100001, .map (.named 3) a0)]⟩) ?_ ?_
    · refine WpC.block ?_
      refine sqJ (fun st' => ∃ v5 : Bool, env_Env_Set_m0.j11 k a0 a1 v5 = some out ∧ st' = ⟨[(0, .loc 100000 0), (3, .loc 3 0), (7, .p .bool ((mget a1.f_Name a0).isSome : Bool)), (23, .p .bool v5)], [(3, .box [.p .str a1.f_Name, .p (.list .str) a1.f_Words, .p I6 a1.f_Level, .p .bool a1.f_Hidden]), (100000, .box [.mp 100001]), (100001, .map (.named 3) a0)]⟩) ?_ ?_
      · rcases bool_cases ((mget a1.f_Name a0).isSome) with hc12 | hc12
        · replace h := ite_t hc12 h
          refine rS { kn := [(25, .t hc12)] } [0, 3, 7, 23] [3, 100000, 100001] hN (by kernel_rfl) (by kernel_rfl) ?_
          refine tnU ?_
          exact ⟨(decide (((mget a1.f_Name a0).getD (T_env_Var.mk [] [] 0 false)).f_Level > a1.f_Level)), h, by kernel_rfl⟩
        · replace h := ite_f hc12 h
          refine rS { kn := [(25, .f hc12)] } [0, 3, 7, 23] [3, 100000, 100001] hN (by kernel_rfl) (by kernel_rfl) ?_
          refine tnU ?_
          exact ⟨false, h, by kernel_rfl⟩
      · rintro _ ⟨v5, h, rfl⟩
        unfold env_Env_Set_m0.j11 at h
        refine tS (b := v5) (by kernel_rfl) (fun hc6 => ?_) (fun hc6 => ?_)
        · replace h := ite_t hc6 h
          refine WpC.seq ?_
          refine rS {} [4] [100000, 100001] hN (by kernel_rfl) (by kernel_rfl) ?_
          refine tnU ?_
          refine WpC.conv (cS [.nE 4, .k [4] [100000, 100001]] (by kernel_rfl) (by kernel_rfl)) (WpC.ret ?_)
          refine blockQ_ret ?_
          refine thenQ_ret ?_
          have hq := Option.some.inj h
          subst hq
          exact eR (by kernel_rfl) (by kernel_rfl)
        · replace h := ite_f hc6 h
          refine sqJ (fun st' => ∃ v7 : Bool, env_Env_Set_m0.j9 k a0 a1 v7 = some out ∧ st' = ⟨[(0, .loc 100000 0), (3, .loc 3 0), (32, .p .bool v7)], [(3, .box [.p .str a1.f_Name, .p (.list .str) a1.f_Words, .p I6 a1.f_Level, .p .bool a1.f_Hidden]), (100000, .box [.mp 100001]), (100001, .map (.named 3) a0)]⟩) ?_ ?_
          · rcases bool_cases (!((mget a1.f_Name a0).isSome)) with hc10 | hc10
            · replace h := ite_t hc10 h
              refine rS { kn := [(35, .t hc10)] } [0, 3, 32] [3, 100000, 100001] hN (by kernel_rfl) (by kernel_rfl) ?_
              refine tnU ?_
              exact ⟨(decide ((a0.length : Int) ≥ 24)), h, by kernel_rfl⟩
            · replace h := ite_f hc10 h
              refine rS { kn := [(35, .f hc10)] } [0, 3, 32] [3, 100000, 100001] hN (by kernel_rfl) (by kernel_rfl) ?_
              refine tnU ?_
              exact ⟨false, h, by kernel_rfl⟩
          · rintro _ ⟨v7, h, rfl⟩
            unfold env_Env_Set_m0.j9 at h
            refine tS (b := v7) (by kernel_rfl) (fun hc8 => ?_) (fun hc8 => ?_)
            · replace h := ite_t hc8 h
              refine WpC.seq ?_
              refine rS { its := [(0, .e 0 (sok_loadG (U := Un) (t := .err) (rs := []) rfl rfl ty_32 rfl rfl (hO.var 9 0 rfl) (fun S w => .err 9)))] } [4] [100000, 100001] hN (by kernel_rfl) (by kernel_rfl) ?_
              refine tnU ?_
              refine WpC.ret ?_
              refine blockQ_ret ?_
              refine thenQ_ret ?_
              have hq := Option.some.inj h
              subst hq
              exact eR (by kernel_rfl) (by kernel_rfl)
            · replace h := ite_f hc8 h
              refine WpC.conv (cS [.k [0, 3] [3, 100000, 100001]] (by kernel_rfl) (by kernel_rfl)) (WpC.skip ?_)
              refine blockQ_normal ?_
              refine tnU ?_
              exact ⟨h, by kernel_rfl⟩
    · rintro _ ⟨h, rfl⟩
      unfold env_Env_Set_m0.j4 at h
      refine WpC.seq ?_
      obtain ⟨v3, hv3, h⟩ := bind_some h
      refine rA { its := [(7, .c (env_Var_apart.ok O hO k (T_env_Var.mk a1.f_Name a1.f_Words a1.f_Level a1.f_Hidden) v3 hv3))] } [] [100000, 100001] hN (by kernel_rfl) (by kernel_rfl) (by kernel_rfl) ?_
      refine tnU ?_
      refine WpC.seq ?_
      refine rS {} [4] [100000, 100001] hN (by kernel_rfl) (by kernel_rfl) ?_
      refine tnU ?_
      refine WpC.conv (cS [.nE 4, .k [4] [100000, 100001]] (by kernel_rfl) (by kernel_rfl)) (WpC.ret ?_)
      have hq := Option.some.inj h
      subst hq
      exact eR (by kernel_rfl) (by kernel_rfl)

theorem quote_Blank.ok (O : Out) (hO : GOk O) (k : Nat) (a0 : Int) (out : Bool) (h : quote_Blank.f k a0 = some out) : COk Un O Tryz.prog 52 { ar := [.p (.int .u8) a0], r := .p .bool out } := by
  refine cok_of_wp Tryz.func52 rfl (k := 6) rfl (Nat.le_of_ble_eq_true rfl) (namesOk_pure rfl rfl rfl rfl) ?_
  intro B hN
  refine WpC.conv (cvK (b := ⟨[(0, .p (.int .u8) a0)], []⟩) [0] [] (by kernel_rfl)) ?_
  unfold quote_Blank.f at h
  refine WpC.seq ?_
  refine rS {} [0] [] hN (by kernel_rfl) (by kernel_rfl) ?_
  refine tnU ?_
  refine WpC.seq ?_
  obtain ⟨v1, hv1, h⟩ := bind_some h
  refine rS { its := [(1, .c (pIndexByte.ok O hO k ([32, 9, 10] : List UInt8) a0 v1 hv1))] } [2] [] hN (by kernel_rfl) (by kernel_rfl) ?_
  refine tnU ?_
  refine WpC.ret ?_
  have hq := Option.some.inj h
  subst hq
  exact eR (by kernel_rfl) (by kernel_rfl)

theorem lex_run_m1.ok (O : Out) (hO : GOk O) (k : Nat) (a0 : List UInt8) (a1 : Int) (out : Int) (h : lex_run_m1.f k a0 a1 = some out) : COk Un O Tryz.prog 77 { ar := [.p .str a0, .p I6 a1, .clo 52 []], r := .p I6 out } := by
  refine cok_of_wp Tryz.func77 rfl (k := 26) rfl (Nat.le_of_ble_eq_true rfl) (namesOk_pure rfl rfl rfl rfl) ?_
  intro B hN
  refine WpC.conv (cvK (b := ⟨[(0, .p .str a0), (1, .p I6 a1), (2, .clo 52 [])], []⟩) [0, 1, 2] [] (by kernel_rfl)) ?_
  unfold lex_run_m1.f at h
  refine WpC.seq ?_
  refine rS {} [0, 1, 2] [] hN (by kernel_rfl) (by kernel_rfl) ?_
  refine tnU ?_
  refine WpC.seq ?_
  refine rS {} [0, 1, 2, 7] [] hN (by kernel_rfl) (by kernel_rfl) ?_
  refine tnU ?_
  refine sqJ (fun st' => ∃ v1 : Int, lex_run_m1.j2 k v1 = some out ∧ st' = ⟨[(7, .p I6 v1)], []⟩) ?_ ?_
  · refine WpC.block ?_
    obtain ⟨o6, hlo6, h⟩ := bind_some h
    have hout7 := h
    clear h
    refine WpC.loop (U := Un) (fun n st' => ∃ v3 : Int, lex_run_m1.l4 k a0 a1 n v3 = some o6 ∧ st' = ⟨[(0, .p .str a0), (1, .p I6 a1), (2, .clo 52 []), (7, .p I6 v3)], []⟩) k ⟨0, hlo6, by kernel_rfl⟩ ?_
    clear hlo6
    rintro (_ | n) _ ⟨v3, h, rfl⟩
    · cases h
    · rw [lex_run_m1.l4] at h
      refine sqJ (fun st' => lex_run_m1.j8 k (lex_run_m1.l4 k a0 a1 n) a0 a1 v3 = some o6 ∧ st' = ⟨[(0, .p .str a0), (1, .p I6 a1), (2, .clo 52 []), (7, .p I6 v3)], []⟩) ?_ ?_
      · refine sqJ (fun st' => ∃ v9 : Bool, lex_run_m1.j11 k (lex_run_m1.l4 k a0 a1 n) a0 a1 v3 v9 = some o6 ∧ st' = ⟨[(0, .p .str a0), (1, .p I6 a1), (2, .clo 52 []), (7, .p I6 v3), (22, .p .bool v9)], []⟩) ?_ ?_
        · rcases bool_cases (decide ((IntKind.i64.wrap (a1 + v3)) < (a0.length : Int))) with hc12 | hc12
          · replace h := ite_t hc12 h
            obtain ⟨v13, hv13, h⟩ := bind_some h
            obtain ⟨v14, hv14, h⟩ := bind_some h
            refine rS { its := [(12, .u hv13), (13, .c (quote_Blank.ok O hO k (v13.toNat : Int) v14 hv14))], kn := [(14, .t hc12)] } [0, 1, 2, 7, 22] [] hN (by kernel_rfl) (by kernel_rfl) ?_
            refine tnU ?_
            exact ⟨v14, h, by kernel_rfl⟩
          · replace h := ite_f hc12 h
            refine rS { kn := [(14, .f hc12)] } [0, 1, 2, 7, 22] [] hN (by kernel_rfl) (by kernel_rfl) ?_
            refine tnU ?_
            exact ⟨false, h, by kernel_rfl⟩
        · rintro _ ⟨v9, h, rfl⟩
          unfold lex_run_m1.j11 at h
          refine tS (b := v9) (by kernel_rfl) (fun hc10 => ?_) (fun hc10 => ?_)
          · replace h := ite_t hc10 h
            refine WpC.conv (cS [.k [0, 1, 2, 7] []] (by kernel_rfl) (by kernel_rfl)) (WpC.skip ?_)
            refine tnU ?_
            exact ⟨h, by kernel_rfl⟩
          · replace h := ite_f hc10 h
            refine WpC.conv (cS [.k [7] []] (by kernel_rfl) (by kernel_rfl)) (WpC.exit ?_)
            refine thenQ_exit ?_
            have hq := Option.some.inj h
            subst hq
            refine thenQ_exit ?_
            have h := hout7
            refine blockQ_hit ?_
            refine tnU ?_
            exact ⟨v3, h, by kernel_rfl⟩
      · rintro _ ⟨h, rfl⟩
        unfold lex_run_m1.j8 at h
        refine WpC.block ?_
        refine rS {} [0, 1, 2, 7] [] hN (by kernel_rfl) (by kernel_rfl) ?_
        refine blockQ_normal ?_
        refine tnU ?_
        exact ⟨n, Nat.lt_succ_self n, (IntKind.i64.wrap (v3 + 1)), h, by kernel_rfl⟩
  · rintro _ ⟨v1, h, rfl⟩
    unfold lex_run_m1.j2 at h
    refine WpC.seq ?_
    refine rS {} [6] [] hN (by kernel_rfl) (by kernel_rfl) ?_
    refine tnU ?_
    refine WpC.ret ?_
    have hq := Option.some.inj h
    subst hq
    exact eR (by kernel_rfl) (by kernel_rfl)

theorem lex_reader_take_m0.ok (O : Out) (hO : GOk O) (k : Nat) (a0 : List UInt8) (a1 : Int) (a2 : Nat) (out : (List UInt8) × Int) (h : lex_reader_take_m0.f k a0 a1 a2 = some out) : COk Un O Tryz.prog 51 { ar := [.loc 100000 0, .clo 52 []], r := .p .str out.1, bs := [(100000, .box [.p .str a0, .p I6 a1, .p .err a2])], bs' := [(100000, .box [.p .str a0, .p I6 out.2, .p .err a2])] } := by
  refine cok_of_wp Tryz.func51 rfl (k := 39) rfl (Nat.le_of_ble_eq_true rfl) (namesOk_of (by kernel_rfl)) ?_
  intro B hN
  refine WpC.conv (cvK (b := ⟨[(0, .loc 100000 0), (1, .clo 52 [])], [(100000, .box [.p .str a0, .p I6 a1, .p .err a2])]⟩) [0, 1] [100000] (by kernel_rfl)) ?_
  unfold lex_reader_take_m0.f at h
  refine WpC.seq ?_
  refine rS {} [0, 1] [100000] hN (by kernel_rfl) (by kernel_rfl) ?_
  refine tnU ?_
  refine WpC.seq ?_
  obtain ⟨v1, hv1, h⟩ := bind_some h
  refine rA { its := [(9, .c (lex_run_m1.ok O hO k a0 a1 v1 hv1))] } [0, 5] [100000] hN (by kernel_rfl) (by kernel_rfl) (by kernel_rfl) ?_
  refine tnU ?_
  refine WpC.seq ?_
  refine rS {} [0, 5] [100000] hN (by kernel_rfl) (by kernel_rfl) ?_
  refine tnU ?_
  refine WpC.seq ?_
  obtain ⟨v2, hv2, h⟩ := bind_some h
  refine rA { its := [(14, .v .str hv2)] } [4] [100000] hN (by kernel_rfl) (by kernel_rfl) (by kernel_rfl) ?_
  refine tnU ?_
  refine WpC.ret ?_
  have hq := Option.some.inj h
  subst hq
  exact eR (by kernel_rfl) (by kernel_rfl)

theorem quote_End.ok (O : Out) (hO : GOk O) (k : Nat) (a0 : List UInt8) (a1 : Int) (out : Int) (h : quote_End.f k a0 a1 = some out) : COk Un O Tryz.prog 107 { ar := [.p .str a0, .p I6 a1], r := .p I6 out } := by
  refine cok_of_wp Tryz.func107 rfl (k := 50) rfl (Nat.le_of_ble_eq_true rfl) (namesOk_pure rfl rfl rfl rfl) ?_
  intro B hN
  refine WpC.conv (cvK (b := ⟨[(0, .p .str a0), (1, .p I6 a1)], []⟩) [0, 1] [] (by kernel_rfl)) ?_
  unfold quote_End.f at h
  refine WpC.seq ?_
  refine rS {} [0, 1] [] hN (by kernel_rfl) (by kernel_rfl) ?_
  refine tnU ?_
  refine sqJ (fun st' => quote_End.j18 k a0 a1 = some out ∧ st' = ⟨[(0, .p .str a0), (1, .p I6 a1)], []⟩) ?_ ?_
  · refine sqJ (fun st' => ∃ v19 : Bool, quote_End.j21 k a0 a1 v19 = some out ∧ st' = ⟨[(0, .p .str a0), (1, .p I6 a1), (19, .p .bool v19)], []⟩) ?_ ?_
    · rcases bool_cases (decide (a1 < 0)) with hc22 | hc22
      · replace h := ite_t hc22 h
        refine rS { kn := [(8, .t hc22)] } [0, 1, 19] [] hN (by kernel_rfl) (by kernel_rfl) ?_
        refine tnU ?_
        exact ⟨true, h, by kernel_rfl⟩
      · replace h := ite_f hc22 h
        rcases bool_cases (decide (a1 ≥ (a0.length : Int))) with hc23 | hc23
        · replace h := ite_t hc23 h
          refine rS { kn := [(8, .f hc22), (14, .t hc23)] } [0, 1, 19] [] hN (by kernel_rfl) (by kernel_rfl) ?_
          refine tnU ?_
          exact ⟨true, h, by kernel_rfl⟩
        · replace h := ite_f hc23 h
          obtain ⟨v24, hv24, h⟩ := bind_some h
          refine rS { its := [(11, .u hv24)], kn := [(8, .f hc22), (14, .f hc23)] } [0, 1, 19] [] hN (by kernel_rfl) (by kernel_rfl) ?_
          refine tnU ?_
          exact ⟨((v24.toNat : Int) != 39), h, by kernel_rfl⟩
    · rintro _ ⟨v19, h, rfl⟩
      unfold quote_End.j21 at h
      refine tS (b := v19) (by kernel_rfl) (fun hc20 => ?_) (fun hc20 => ?_)
      · replace h := ite_t hc20 h
        refine WpC.seq ?_
        refine rS {} [4] [] hN (by kernel_rfl) (by kernel_rfl) ?_
        refine tnU ?_
        refine WpC.ret ?_
        refine thenQ_ret ?_
        have hq := Option.some.inj h
        subst hq
        exact eR (by kernel_rfl) (by kernel_rfl)
      · replace h := ite_f hc20 h
        refine WpC.conv (cS [.k [0, 1] []] (by kernel_rfl) (by kernel_rfl)) (WpC.skip ?_)
        refine tnU ?_
        exact ⟨h, by kernel_rfl⟩
  · rintro _ ⟨h, rfl⟩
    unfold quote_End.j18 at h
    refine sqJ (fun st' => quote_End.j1 k = some out ∧ st' = ⟨[], []⟩) ?_ ?_
    · refine WpC.seq ?_
      refine rS {} [0, 5] [] hN (by kernel_rfl) (by kernel_rfl) ?_
      refine tnU ?_
      refine WpC.block ?_
      obtain ⟨o4, hlo4, h⟩ := bind_some h
      have hout5 := h
      clear h
      refine WpC.loop (U := Un) (fun n st' => ∃ v2 : Int, quote_End.l3 k a0 n v2 = some o4 ∧ st' = ⟨[(0, .p .str a0), (5, .p I6 v2)], []⟩) k ⟨(IntKind.i64.wrap (a1 + 1)), hlo4, by kernel_rfl⟩ ?_
      clear hlo4
      rintro (_ | n) _ ⟨v2, h, rfl⟩
      · cases h
      · rw [quote_End.l3] at h
        refine WpC.seq ?_
        refine WpC.seq ?_
        refine rS {} [0, 5, 25] [] hN (by kernel_rfl) (by kernel_rfl) ?_
        refine tnU ?_
        refine tS (b := (decide (v2 < (a0.length : Int)))) (by kernel_rfl) (fun hc6 => ?_) (fun hc6 => ?_)
        · replace h := ite_t hc6 h
          refine WpC.conv (cS [.k [0, 5] []] (by kernel_rfl) (by kernel_rfl)) (WpC.skip ?_)
          refine tnU ?_
          refine sqJ (fun st' => ∃ v7 : Int, quote_End.j8 k (quote_End.l3 k a0 n) a0 v7 = some o4 ∧ st' = ⟨[(0, .p .str a0), (5, .p I6 v7)], []⟩) ?_ ?_
          · refine WpC.block ?_
            refine WpC.block ?_
            refine WpC.seq ?_
            obtain ⟨v9, hv9, h⟩ := bind_some h
            refine rS { its := [(2, .u hv9)] } [0, 5, 30] [] hN (by kernel_rfl) (by kernel_rfl) ?_
            refine tnU ?_
            refine tS (b := ((v9.toNat : Int) != 39)) (by kernel_rfl) (fun hc10 => ?_) (fun hc10 => ?_)
            · replace h := ite_t hc10 h
              refine WpC.conv (cS [.k [0, 5] []] (by kernel_rfl) (by kernel_rfl)) (WpC.exit ?_)
              refine blockQ_pass (by decide) ?_
              refine blockQ_hit ?_
              refine tnU ?_
              exact ⟨v2, h, by kernel_rfl⟩
            · replace h := ite_f hc10 h
              refine sqJ (fun st' => ∃ v11 : Bool, quote_End.j13 k (quote_End.l3 k a0 n) a0 v2 v11 = some o4 ∧ st' = ⟨[(0, .p .str a0), (5, .p I6 v2), (35, .p .bool v11)], []⟩) ?_ ?_
              · rcases bool_cases (decide ((IntKind.i64.wrap (v2 + 1)) < (a0.length : Int))) with hc14 | hc14
                · replace h := ite_t hc14 h
                  obtain ⟨v15, hv15, h⟩ := bind_some h
                  refine rS { its := [(9, .u hv15)], kn := [(41, .t hc14)] } [0, 5, 35] [] hN (by kernel_rfl) (by kernel_rfl) ?_
                  refine tnU ?_
                  exact ⟨((v15.toNat : Int) == 39), h, by kernel_rfl⟩
                · replace h := ite_f hc14 h
                  refine rS { kn := [(41, .f hc14)] } [0, 5, 35] [] hN (by kernel_rfl) (by kernel_rfl) ?_
                  refine tnU ?_
                  exact ⟨false, h, by kernel_rfl⟩
              · rintro _ ⟨v11, h, rfl⟩
                unfold quote_End.j13 at h
                refine tS (b := v11) (by kernel_rfl) (fun hc12 => ?_) (fun hc12 => ?_)
                · replace h := ite_t hc12 h
                  refine rS {} [0, 5] [] hN (by kernel_rfl) (by kernel_rfl) ?_
                  refine blockQ_normal ?_
                  refine blockQ_normal ?_
                  refine tnU ?_
                  exact ⟨(IntKind.i64.wrap (v2 + 1)), h, by kernel_rfl⟩
                · replace h := ite_f hc12 h
                  refine WpC.seq ?_
                  refine rS {} [4] [] hN (by kernel_rfl) (by kernel_rfl) ?_
                  refine tnU ?_
                  refine WpC.ret ?_
                  refine blockQ_ret ?_
                  refine blockQ_ret ?_
                  refine thenQ_ret ?_
                  have hq := Option.some.inj h
                  subst hq
                  refine thenQ_ret ?_
                  have h := hout5
                  refine blockQ_ret ?_
                  refine thenQ_ret ?_
                  have hq := Option.some.inj h
                  subst hq
                  exact eR (by kernel_rfl) (by kernel_rfl)
          · rintro _ ⟨v7, h, rfl⟩
            unfold quote_End.j8 at h
            refine rS {} [0, 5] [] hN (by kernel_rfl) (by kernel_rfl) ?_
            refine tnU ?_
            exact ⟨n, Nat.lt_succ_self n, (IntKind.i64.wrap (v7 + 1)), h, by kernel_rfl⟩
        · replace h := ite_f hc6 h
          refine WpC.conv (cS [.k [] []] (by kernel_rfl) (by kernel_rfl)) (WpC.exit ?_)
          refine thenQ_exit ?_
          have hq := Option.some.inj h
          subst hq
          refine thenQ_exit ?_
          have h := hout5
          refine blockQ_hit ?_
          refine tnU ?_
          exact ⟨h, by kernel_rfl⟩
    · rintro _ ⟨h, rfl⟩
      unfold quote_End.j1 at h
      refine WpC.seq ?_
      refine rS {} [4] [] hN (by kernel_rfl) (by kernel_rfl) ?_
      refine tnU ?_
      refine WpC.ret ?_
      have hq := Option.some.inj h
      subst hq
      exact eR (by kernel_rfl) (by kernel_rfl)

theorem lex_reader_fail_m0.ok (O : Out) (hO : GOk O) (k : Nat) (a0 : List UInt8) (a1 : Int) (a2 : Nat) (a3 : Nat) (out : Nat) (h : lex_reader_fail_m0.f k a0 a1 a2 a3 = some out) : COk Un O Tryz.prog 108 { ar := [.loc 100000 0, .p .err a3], r := .tup [], bs := [(100000, .box [.p .str a0, .p I6 a1, .p .err a2])], bs' := [(100000, .box [.p .str a0, .p I6 a1, .p .err out])] } := by
  refine cok_of_wp Tryz.func108 rfl (k := 13) rfl (Nat.le_of_ble_eq_true rfl) (namesOk_of (by kernel_rfl)) ?_
  intro B hN
  refine WpC.conv (cvK (b := ⟨[(0, .loc 100000 0), (1, .p .err a3)], [(100000, .box [.p .str a0, .p I6 a1, .p .err a2])]⟩) [0, 1] [100000] (by kernel_rfl)) ?_
  unfold lex_reader_fail_m0.f at h
  refine WpC.seq ?_
  refine rS {} [0, 1, 8] [100000] hN (by kernel_rfl) (by kernel_rfl) ?_
  refine tnU ?_
  refine tS (b := (a2 == 0)) (by kernel_rfl) (fun hc1 => ?_) (fun hc1 => ?_)
  · replace h := ite_t hc1 h
    refine rS {} [] [100000] hN (by kernel_rfl) (by kernel_rfl) ?_
    have hq := Option.some.inj h
    subst hq
    exact eN (by kernel_rfl) (by kernel_rfl)
  · replace h := ite_f hc1 h
    refine WpC.conv (cS [.k [] [100000]] (by kernel_rfl) (by kernel_rfl)) (WpC.skip ?_)
    have hq := Option.some.inj h
    subst hq
    exact eN (by kernel_rfl) (by kernel_rfl)

theorem lex_reader_quoted_m0.ok (O : Out) (hO : GOk O) (k : Nat) (a0 : List UInt8) (a1 : Int) (a2 : Nat) (out : T_lex_Piece × Int × Nat) (h : lex_reader_quoted_m0.f k a0 a1 a2 = some out) : COk Un O Tryz.prog 79 { ar := [.loc 100000 0], r := .p (.named 5) out.1, bs := [(100000, .box [.p .str a0, .p I6 a1, .p .err a2])], bs' := [(100000, .box [.p .str a0, .p I6 out.2.1, .p .err out.2.2])] } := by
  refine cok_of_wp Tryz.func79 rfl (k := 39) rfl (Nat.le_of_ble_eq_true rfl) (namesOk_of (by kernel_rfl)) ?_
  intro B hN
  refine WpC.conv (cvK (b := ⟨[(0, .loc 100000 0)], [(100000, .box [.p .str a0, .p I6 a1, .p .err a2])]⟩) [0] [100000] (by kernel_rfl)) ?_
  unfold lex_reader_quoted_m0.f at h
  refine WpC.seq ?_
  refine rS {} [0, 2] [2, 100000] hN (by kernel_rfl) (by kernel_rfl) ?_
  refine tnU ?_
  refine WpC.seq ?_
  obtain ⟨v1, hv1, h⟩ := bind_some h
  refine rA { its := [(8, .c (quote_End.ok O hO k a0 a1 v1 hv1))] } [0, 2, 3] [2, 100000] hN (by kernel_rfl) (by kernel_rfl) (by kernel_rfl) ?_
  refine tnU ?_
  refine WpC.seq ?_
  refine WpC.seq ?_
  refine rS {} [0, 2, 3, 15] [2, 100000] hN (by kernel_rfl) (by kernel_rfl) ?_
  refine tnU ?_
  refine tS (b := (decide (v1 < 0))) (by kernel_rfl) (fun hc2 => ?_) (fun hc2 => ?_)
  · replace h := ite_t hc2 h
    refine WpC.seq ?_
    obtain ⟨v3, hv3, h⟩ := bind_some h
    refine rS { its := [(1, .e 1 (sok_loadG (U := Un) (t := .err) (rs := []) rfl rfl ty_32 rfl rfl (hO.var 4 5 rfl) (fun S w => .err 4))), (2, .c (COk.ren (lex_reader_fail_m0.ok O hO k a0 a1 a2 5 v3 hv3) (fun n => if n = 100000 then 100000 else n) (injOn_of (by kernel_rfl))))] } [2] [2, 100000] hN (by kernel_rfl) (by kernel_rfl) ?_
    refine tnU ?_
    refine WpC.seq ?_
    refine rS {} [2] [2, 100000] hN (by kernel_rfl) (by kernel_rfl) ?_
    refine tnU ?_
    refine WpC.ret ?_
    refine thenQ_ret ?_
    have hq := Option.some.inj h
    subst hq
    exact eR (by kernel_rfl) (by kernel_rfl)
  · replace h := ite_f hc2 h
    refine WpC.conv (cS [.k [0, 2, 3] [2, 100000]] (by kernel_rfl) (by kernel_rfl)) (WpC.skip ?_)
    refine tnU ?_
    refine WpC.seq ?_
    obtain ⟨v4, hv4, h⟩ := bind_some h
    refine rA { its := [(11, .v .str hv4)] } [0, 2, 3, 4] [2, 100000] hN (by kernel_rfl) (by kernel_rfl) (by kernel_rfl) ?_
    refine tnU ?_
    refine WpC.seq ?_
    refine rS {} [2, 4] [2, 100000] hN (by kernel_rfl) (by kernel_rfl) ?_
    refine tnU ?_
    refine WpC.seq ?_
    obtain ⟨v5, hv5, h⟩ := bind_some h
    refine rS { its := [(1, .c (pReplaceAll.ok O hO k v4 ([39, 39] : List UInt8) ([39] : List UInt8) v5 hv5))] } [2] [2, 100000] hN (by kernel_rfl) (by kernel_rfl) ?_
    refine tnU ?_
    refine WpC.ret ?_
    have hq := Option.some.inj h
    subst hq
    exact eR (by kernel_rfl) (by kernel_rfl)

theorem lex_reader_is_m0.ok (O : Out) (hO : GOk O) (k : Nat) (a0 : List UInt8) (a1 : Int) (a2 : Nat) (a3 : Int) (out : Bool) (h : lex_reader_is_m0.f k a0 a1 a2 a3 = some out) : COk Un O Tryz.prog 110 { ar := [.loc 100000 0, .p (.int .u8) a3], r := .p .bool out, bs := [(100000, .box [.p .str a0, .p I6 a1, .p .err a2])], bs' := [(100000, .box [.p .str a0, .p I6 a1, .p .err a2])] } := by
  refine cok_of_wp Tryz.func110 rfl (k := 28) rfl (Nat.le_of_ble_eq_true rfl) (namesOk_of (by kernel_rfl)) ?_
  intro B hN
  refine WpC.conv (cvK (b := ⟨[(0, .loc 100000 0), (1, .p (.int .u8) a3)], [(100000, .box [.p .str a0, .p I6 a1, .p .err a2])]⟩) [0, 1] [100000] (by kernel_rfl)) ?_
  unfold lex_reader_is_m0.f at h
  refine WpC.seq ?_
  refine rS {} [0, 1] [100000] hN (by kernel_rfl) (by kernel_rfl) ?_
  refine tnU ?_
  refine WpC.seq ?_
  rcases bool_cases (decide (a1 < (a0.length : Int))) with hc1 | hc1
  · replace h := ite_t hc1 h
    obtain ⟨v2, hv2, h⟩ := bind_some h
    refine rA { its := [(19, .u hv2)], kn := [(15, .t hc1)] } [4] [100000] hN (by kernel_rfl) (by kernel_rfl) (by kernel_rfl) ?_
    refine tnU ?_
    refine WpC.ret ?_
    have hq := Option.some.inj h
    subst hq
    exact eR (by kernel_rfl) (by kernel_rfl)
  · replace h := ite_f hc1 h
    refine rA { kn := [(15, .f hc1)] } [4] [100000] hN (by kernel_rfl) (by kernel_rfl) (by kernel_rfl) ?_
    refine tnU ?_
    refine WpC.ret ?_
    have hq := Option.some.inj h
    subst hq
    exact eR (by kernel_rfl) (by kernel_rfl)

theorem lex_reader_take_m1.ok (O : Out) (hO : GOk O) (k : Nat) (a0 : List UInt8) (a1 : Int) (a2 : Nat) (out : (List UInt8) × Int) (h : lex_reader_take_m1.f k a0 a1 a2 = some out) : COk Un O Tryz.prog 51 { ar := [.loc 100000 0, .clo 104 []], r := .p .str out.1, bs := [(100000, .box [.p .str a0, .p I6 a1, .p .err a2])], bs' := [(100000, .box [.p .str a0, .p I6 out.2, .p .err a2])] } := by
  refine cok_of_wp Tryz.func51 rfl (k := 39) rfl (Nat.le_of_ble_eq_true rfl) (namesOk_of (by kernel_rfl)) ?_
  intro B hN
  refine WpC.conv (cvK (b := ⟨[(0, .loc 100000 0), (1, .clo 104 [])], [(100000, .box [.p .str a0, .p I6 a1, .p .err a2])]⟩) [0, 1] [100000] (by kernel_rfl)) ?_
  unfold lex_reader_take_m1.f at h
  refine WpC.seq ?_
  refine rS {} [0, 1] [100000] hN (by kernel_rfl) (by kernel_rfl) ?_
  refine tnU ?_
  refine WpC.seq ?_
  obtain ⟨v1, hv1, h⟩ := bind_some h
  refine rA { its := [(9, .c (lex_run_m0.ok O hO k a0 a1 v1 hv1))] } [0, 5] [100000] hN (by kernel_rfl) (by kernel_rfl) (by kernel_rfl) ?_
  refine tnU ?_
  refine WpC.seq ?_
  refine rS {} [0, 5] [100000] hN (by kernel_rfl) (by kernel_rfl) ?_
  refine tnU ?_
  refine WpC.seq ?_
  obtain ⟨v2, hv2, h⟩ := bind_some h
  refine rA { its := [(14, .v .str hv2)] } [4] [100000] hN (by kernel_rfl) (by kernel_rfl) (by kernel_rfl) ?_
  refine tnU ?_
  refine WpC.ret ?_
  have hq := Option.some.inj h
  subst hq
  exact eR (by kernel_rfl) (by kernel_rfl)

theorem lex_reader_name_m0.ok (O : Out) (hO : GOk O) (k : Nat) (a0 : List UInt8) (a1 : Int) (a2 : Nat) (out : (List UInt8) × Int × Nat) (h : lex_reader_name_m0.f k a0 a1 a2 = some out) : COk Un O Tryz.prog 111 { ar := [.loc 100000 0], r := .p .str out.1, bs := [(100000, .box [.p .str a0, .p I6 a1, .p .err a2])], bs' := [(100000, .box [.p .str a0, .p I6 out.2.1, .p .err out.2.2])] } := by
  refine cok_of_wp Tryz.func111 rfl (k := 13) rfl (Nat.le_of_ble_eq_true rfl) (namesOk_of (by kernel_rfl)) ?_
  intro B hN
  refine WpC.conv (cvK (b := ⟨[(0, .loc 100000 0)], [(100000, .box [.p .str a0, .p I6 a1, .p .err a2])]⟩) [0] [100000] (by kernel_rfl)) ?_
  unfold lex_reader_name_m0.f at h
  refine WpC.seq ?_
  refine rS {} [0] [100000] hN (by kernel_rfl) (by kernel_rfl) ?_
  refine tnU ?_
  refine WpC.seq ?_
  obtain ⟨v1, hv1, h⟩ := bind_some h
  refine rS { its := [(1, .c (COk.ren (lex_reader_take_m1.ok O hO k a0 a1 a2 v1 hv1) (fun n => if n = 100000 then 100000 else n) (injOn_of (by kernel_rfl))))] } [0, 3] [100000] hN (by kernel_rfl) (by kernel_rfl) ?_
  refine tnU ?_
  refine sqJ (fun st' => ∃ v2 : Nat, lex_reader_name_m0.j3 k a0 v1 v2 = some out ∧ st' = ⟨[(3, .p .str v1.1)], [(100000, .box [.p .str a0, .p I6 v1.2, .p .err v2])]⟩) ?_ ?_
  · refine WpC.seq ?_
    obtain ⟨v4, hv4, h⟩ := bind_some h
    refine rS { its := [(1, .c (lex_Name.ok O hO k v1.1 v4 hv4))] } [0, 3, 8] [100000] hN (by kernel_rfl) (by kernel_rfl) ?_
    refine tnU ?_
    refine tS (b := (!v4)) (by kernel_rfl) (fun hc5 => ?_) (fun hc5 => ?_)
    · replace h := ite_t hc5 h
      obtain ⟨v6, hv6, h⟩ := bind_some h
      refine rS { its := [(1, .e 1 (sok_loadG (U := Un) (t := .err) (rs := []) rfl rfl ty_32 rfl rfl (hO.var 3 4 rfl) (fun S w => .err 3))), (2, .c (COk.ren (lex_reader_fail_m0.ok O hO k a0 v1.2 a2 4 v6 hv6) (fun n => if n = 100000 then 100000 else n) (injOn_of (by kernel_rfl))))] } [3] [100000] hN (by kernel_rfl) (by kernel_rfl) ?_
      refine tnU ?_
      exact ⟨v6, h, by kernel_rfl⟩
    · replace h := ite_f hc5 h
      refine WpC.conv (cS [.k [3] [100000]] (by kernel_rfl) (by kernel_rfl)) (WpC.skip ?_)
      refine tnU ?_
      exact ⟨a2, h, by kernel_rfl⟩
  · rintro _ ⟨v2, h, rfl⟩
    unfold lex_reader_name_m0.j3 at h
    refine WpC.seq ?_
    refine rS {} [2] [100000] hN (by kernel_rfl) (by kernel_rfl) ?_
    refine tnU ?_
    refine WpC.ret ?_
    have hq := Option.some.inj h
    subst hq
    exact eR (by kernel_rfl) (by kernel_rfl)

theorem lex_plain.ok (O : Out) (hO : GOk O) (k : Nat) (a0 : Int) (out : Bool) (h : lex_plain.f k a0 = some out) : COk Un O Tryz.prog 82 { ar := [.p (.int .u8) a0], r := .p .bool out } := by
  refine cok_of_wp Tryz.func82 rfl (k := 18) rfl (Nat.le_of_ble_eq_true rfl) (namesOk_pure rfl rfl rfl rfl) ?_
  intro B hN
  refine WpC.conv (cvK (b := ⟨[(0, .p (.int .u8) a0)], []⟩) [0] [] (by kernel_rfl)) ?_
  unfold lex_plain.f at h
  refine WpC.seq ?_
  refine rS {} [0] [] hN (by kernel_rfl) (by kernel_rfl) ?_
  refine tnU ?_
  refine WpC.seq ?_
  obtain ⟨v1, hv1, h⟩ := bind_some h
  rcases bool_cases (!v1) with hc2 | hc2
  · replace h := ite_t hc2 h
    rcases bool_cases (a0 != 39) with hc3 | hc3
    · replace h := ite_t hc3 h
      rcases bool_cases (a0 != 36) with hc4 | hc4
      · replace h := ite_t hc4 h
        refine rS { its := [(1, .c (quote_Blank.ok O hO k a0 v1 hv1))], kn := [(6, .t hc2), (10, .t hc3), (14, .t hc4)] } [2] [] hN (by kernel_rfl) (by kernel_rfl) ?_
        refine tnU ?_
        refine WpC.ret ?_
        have hq := Option.some.inj h
        subst hq
        exact eR (by kernel_rfl) (by kernel_rfl)
      · replace h := ite_f hc4 h
        refine rS { its := [(1, .c (quote_Blank.ok O hO k a0 v1 hv1))], kn := [(6, .t hc2), (10, .t hc3), (14, .f hc4)] } [2] [] hN (by kernel_rfl) (by kernel_rfl) ?_
        refine tnU ?_
        refine WpC.ret ?_
        have hq := Option.some.inj h
        subst hq
        exact eR (by kernel_rfl) (by kernel_rfl)
    · replace h := ite_f hc3 h
      refine rS { its := [(1, .c (quote_Blank.ok O hO k a0 v1 hv1))], kn := [(6, .t hc2), (10, .f hc3)] } [2] [] hN (by kernel_rfl) (by kernel_rfl) ?_
      refine tnU ?_
      refine WpC.ret ?_
      have hq := Option.some.inj h
      subst hq
      exact eR (by kernel_rfl) (by kernel_rfl)
  · replace h := ite_f hc2 h
    refine rS { its := [(1, .c (quote_Blank.ok O hO k a0 v1 hv1))], kn := [(6, .f hc2)] } [2] [] hN (by kernel_rfl) (by kernel_rfl) ?_
    refine tnU ?_
    refine WpC.ret ?_
    have hq := Option.some.inj h
    subst hq
    exact eR (by kernel_rfl) (by kernel_rfl)

theorem lex_pattern.ok (O : Out) (hO : GOk O) (k : Nat) (a0 : Int) (out : Bool) (h : lex_pattern.f k a0 = some out) : COk Un O Tryz.prog 112 { ar := [.p (.int .u8) a0], r := .p .bool out } := by
  refine cok_of_wp Tryz.func112 rfl (k := 17) rfl (Nat.le_of_ble_eq_true rfl) (namesOk_pure rfl rfl rfl rfl) ?_
  intro B hN
  refine WpC.conv (cvK (b := ⟨[(0, .p (.int .u8) a0)], []⟩) [0] [] (by kernel_rfl)) ?_
  unfold lex_pattern.f at h
  refine WpC.seq ?_
  refine rS {} [0] [] hN (by kernel_rfl) (by kernel_rfl) ?_
  refine tnU ?_
  refine WpC.seq ?_
  obtain ⟨v1, hv1, h⟩ := bind_some h
  rcases bool_cases v1 with hc2 | hc2
  · replace h := ite_t hc2 h
    rcases bool_cases (a0 != 61) with hc3 | hc3
    · replace h := ite_t hc3 h
      rcases bool_cases (a0 != 123) with hc4 | hc4
      · replace h := ite_t hc4 h
        refine rS { its := [(1, .c (lex_plain.ok O hO k a0 v1 hv1))], kn := [(5, .t hc2), (9, .t hc3), (13, .t hc4)] } [2] [] hN (by kernel_rfl) (by kernel_rfl) ?_
        refine tnU ?_
        refine WpC.ret ?_
        have hq := Option.some.inj h
        subst hq
        exact eR (by kernel_rfl) (by kernel_rfl)
      · replace h := ite_f hc4 h
        refine rS { its := [(1, .c (lex_plain.ok O hO k a0 v1 hv1))], kn := [(5, .t hc2), (9, .t hc3), (13, .f hc4)] } [2] [] hN (by kernel_rfl) (by kernel_rfl) ?_
        refine tnU ?_
        refine WpC.ret ?_
        have hq := Option.some.inj h
        subst hq
        exact eR (by kernel_rfl) (by kernel_rfl)
    · replace h := ite_f hc3 h
      refine rS { its := [(1, .c (lex_plain.ok O hO k a0 v1 hv1))], kn := [(5, .t hc2), (9, .f hc3)] } [2] [] hN (by kernel_rfl) (by kernel_rfl) ?_
      refine tnU ?_
      refine WpC.ret ?_
      have hq := Option.some.inj h
      subst hq
      exact eR (by kernel_rfl) (by kernel_rfl)
  · replace h := ite_f hc2 h
    refine rS { its := [(1, .c (lex_plain.ok O hO k a0 v1 hv1))], kn := [(5, .f hc2)] } [2] [] hN (by kernel_rfl) (by kernel_rfl) ?_
    refine tnU ?_
    refine WpC.ret ?_
    have hq := Option.some.inj h
    subst hq
    exact eR (by kernel_rfl) (by kernel_rfl)

theorem lex_run_m2.ok (O : Out) (hO : GOk O) (k : Nat) (a0 : List UInt8) (a1 : Int) (out : Int) (h : lex_run_m2.f k a0 a1 = some out) : COk Un O Tryz.prog 77 { ar := [.p .str a0, .p I6 a1, .clo 112 []], r := .p I6 out } := by
  refine cok_of_wp Tryz.func77 rfl (k := 26) rfl (Nat.le_of_ble_eq_true rfl) (namesOk_pure rfl rfl rfl rfl) ?_
  intro B hN
  refine WpC.conv (cvK (b := ⟨[(0, .p .str a0), (1, .p I6 a1), (2, .clo 112 [])], []⟩) [0, 1, 2] [] (by kernel_rfl)) ?_
  unfold lex_run_m2.f at h
  refine WpC.seq ?_
  refine rS {} [0, 1, 2] [] hN (by kernel_rfl) (by kernel_rfl) ?_
  refine tnU ?_
  refine WpC.seq ?_
  refine rS {} [0, 1, 2, 7] [] hN (by kernel_rfl) (by kernel_rfl) ?_
  refine tnU ?_
  refine sqJ (fun st' => ∃ v1 : Int, lex_run_m2.j2 k v1 = some out ∧ st' = ⟨[(7, .p I6 v1)], []⟩) ?_ ?_
  · refine WpC.block ?_
    obtain ⟨o6, hlo6, h⟩ := bind_some h
    have hout7 := h
    clear h
    refine WpC.loop (U := Un) (fun n st' => ∃ v3 : Int, lex_run_m2.l4 k a0 a1 n v3 = some o6 ∧ st' = ⟨[(0, .p .str a0), (1, .p I6 a1), (2, .clo 112 []), (7, .p I6 v3)], []⟩) k ⟨0, hlo6, by kernel_rfl⟩ ?_
    clear hlo6
    rintro (_ | n) _ ⟨v3, h, rfl⟩
    · cases h
    · rw [lex_run_m2.l4] at h
      refine sqJ (fun st' => lex_run_m2.j8 k (lex_run_m2.l4 k a0 a1 n) a0 a1 v3 = some o6 ∧ st' = ⟨[(0, .p .str a0), (1, .p I6 a1), (2, .clo 112 []), (7, .p I6 v3)], []⟩) ?_ ?_
      · refine sqJ (fun st' => ∃ v9 : Bool, lex_run_m2.j11 k (lex_run_m2.l4 k a0 a1 n) a0 a1 v3 v9 = some o6 ∧ st' = ⟨[(0, .p .str a0), (1, .p I6 a1), (2, .clo 112 []), (7, .p I6 v3), (22, .p .bool v9)], []⟩) ?_ ?_
        · rcases bool_cases (decide ((IntKind.i64.wrap (a1 + v3)) < (a0.length : Int))) with hc12 | hc12
          · replace h := ite_t hc12 h
            obtain ⟨v13, hv13, h⟩ := bind_some h
            obtain ⟨v14, hv14, h⟩ := bind_some h
            refine rS { its := [(12, .u hv13), (13, .c (lex_pattern.ok O hO k (v13.toNat : Int) v14 hv14))], kn := [(14, .t hc12)] } [0, 1, 2, 7, 22] [] hN (by kernel_rfl) (by kernel_rfl) ?_
            refine tnU ?_
            exact ⟨v14, h, by kernel_rfl⟩
          · replace h := ite_f hc12 h
            refine rS { kn := [(14, .f hc12)] } [0, 1, 2, 7, 22] [] hN (by kernel_rfl) (by kernel_rfl) ?_
            refine tnU ?_
            exact ⟨false, h, by kernel_rfl⟩
        · rintro _ ⟨v9, h, rfl⟩
          unfold lex_run_m2.j11 at h
          refine tS (b := v9) (by kernel_rfl) (fun hc10 => ?_) (fun hc10 => ?_)
          · replace h := ite_t hc10 h
            refine WpC.conv (cS [.k [0, 1, 2, 7] []] (by kernel_rfl) (by kernel_rfl)) (WpC.skip ?_)
            refine tnU ?_
            exact ⟨h, by kernel_rfl⟩
          · replace h := ite_f hc10 h
            refine WpC.conv (cS [.k [7] []] (by kernel_rfl) (by kernel_rfl)) (WpC.exit ?_)
            refine thenQ_exit ?_
            have hq := Option.some.inj h
            subst hq
            refine thenQ_exit ?_
            have h := hout7
            refine blockQ_hit ?_
            refine tnU ?_
            exact ⟨v3, h, by kernel_rfl⟩
      · rintro _ ⟨h, rfl⟩
        unfold lex_run_m2.j8 at h
        refine WpC.block ?_
        refine rS {} [0, 1, 2, 7] [] hN (by kernel_rfl) (by kernel_rfl) ?_
        refine blockQ_normal ?_
        refine tnU ?_
        exact ⟨n, Nat.lt_succ_self n, (IntKind.i64.wrap (v3 + 1)), h, by kernel_rfl⟩
  · rintro _ ⟨v1, h, rfl⟩
    unfold lex_run_m2.j2 at h
    refine WpC.seq ?_
    refine rS {} [6] [] hN (by kernel_rfl) (by kernel_rfl) ?_
    refine tnU ?_
    refine WpC.ret ?_
    have hq := Option.some.inj h
    subst hq
    exact eR (by kernel_rfl) (by kernel_rfl)

end Go.Proofs.YtldepagjdbcmgaaGreatDoor
