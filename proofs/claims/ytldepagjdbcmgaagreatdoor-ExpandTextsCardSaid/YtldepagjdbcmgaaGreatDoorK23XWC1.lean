/- A part of the proof of a given law: XWC1. Own work, printed in part by a program of mine. -/
import Derived.Test.YtldepagjdbcmgaaGreatDoorK23XWC0
namespace Go.Proofs.YtldepagjdbcmgaaGreatDoor
open Go Go.AM
set_option linter.unusedVariables false
set_option linter.unusedSimpArgs false
set_option maxRecDepth 100000
set_option maxHeartbeats 4000000
theorem lex_reader_take_m2.ok (O : Out) (hO : GOk O) (k : Nat) (a0 : List UInt8) (a1 : Int) (a2 : Nat) (out : (List UInt8) × Int) (h : lex_reader_take_m2.f k a0 a1 a2 = some out) : COk Un O Tryz.prog 51 { ar := [.loc 100000 0, .clo 112 []], r := .p .str out.1, bs := [(100000, .box [.p .str a0, .p I6 a1, .p .err a2])], bs' := [(100000, .box [.p .str a0, .p I6 out.2, .p .err a2])] } := by
  refine cok_of_wp Tryz.func51 rfl (k := 39) rfl (Nat.le_of_ble_eq_true rfl) (namesOk_of (by kernel_rfl)) ?_
  intro B hN
  refine WpC.conv (cvK (b := ⟨[(0, .loc 100000 0), (1, .clo 112 [])], [(100000, .box [.p .str a0, .p I6 a1, .p .err a2])]⟩) [0, 1] [100000] (by kernel_rfl)) ?_
  unfold lex_reader_take_m2.f at h
  refine WpC.seq ?_
  refine rS {} [0, 1] [100000] hN (by kernel_rfl) (by kernel_rfl) ?_
  refine tnU ?_
  refine WpC.seq ?_
  obtain ⟨v1, hv1, h⟩ := bind_some h
  refine rA { its := [(9, .c (lex_run_m2.ok O hO k a0 a1 v1 hv1))] } [0, 5] [100000] hN (by kernel_rfl) (by kernel_rfl) (by kernel_rfl) ?_
  refine tnU ?_
  refine WpC.seq ?_
  refine rS {} [0, 5] [100000] hN (by kernel_rfl) (by kernel_rfl) ?_
  refine tnU ?_
  refine WpC.seq ?_
  obtain ⟨v2, hv2, h⟩ := bind_some h
  refine rA { its := [(14, .v .str hv2)] } [4] [100000] hN (by kernel_rfl) (by kernel_rfl) (by kernel_rfl) ?_
  refine tnU ?_
  refine WpC.ret ?_
  have hq := Option.some.inj h
  subst hq
  exact eR (by kernel_rfl) (by kernel_rfl)

theorem lex_reader_takes_m0.ok (O : Out) (hO : GOk O) (k : Nat) (a0 : List UInt8) (a1 : Int) (a2 : Nat) (a3 : Int) (out : Int × Nat) (h : lex_reader_takes_m0.f k a0 a1 a2 a3 = some out) : COk Un O Tryz.prog 113 { ar := [.loc 100000 0, .p (.int .u8) a3], r := .tup [], bs := [(100000, .box [.p .str a0, .p I6 a1, .p .err a2])], bs' := [(100000, .box [.p .str a0, .p I6 out.1, .p .err out.2])] } := by
  refine cok_of_wp Tryz.func113 rfl (k := 18) rfl (Nat.le_of_ble_eq_true rfl) (namesOk_of (by kernel_rfl)) ?_
  intro B hN
  refine WpC.conv (cvK (b := ⟨[(0, .loc 100000 0), (1, .p (.int .u8) a3)], [(100000, .box [.p .str a0, .p I6 a1, .p .err a2])]⟩) [0, 1] [100000] (by kernel_rfl)) ?_
  unfold lex_reader_takes_m0.f at h
  refine WpC.seq ?_
  refine WpC.seq ?_
  obtain ⟨v1, hv1, h⟩ := bind_some h
  refine rS { its := [(2, .c (COk.ren (lex_reader_is_m0.ok O hO k a0 a1 a2 a3 v1 hv1) (fun n => if n = 100000 then 100000 else n) (injOn_of (by kernel_rfl))))] } [0, 7] [100000] hN (by kernel_rfl) (by kernel_rfl) ?_
  refine tnU ?_
  refine tS (b := (!v1)) (by kernel_rfl) (fun hc2 => ?_) (fun hc2 => ?_)
  · replace h := ite_t hc2 h
    refine WpC.seq ?_
    obtain ⟨v3, hv3, h⟩ := bind_some h
    refine rS { its := [(1, .e 1 (sok_loadG (U := Un) (t := .err) (rs := []) rfl rfl ty_32 rfl rfl (hO.var 2 3 rfl) (fun S w => .err 2))), (2, .c (COk.ren (lex_reader_fail_m0.ok O hO k a0 a1 a2 3 v3 hv3) (fun n => if n = 100000 then 100000 else n) (injOn_of (by kernel_rfl))))] } [] [100000] hN (by kernel_rfl) (by kernel_rfl) ?_
    refine tnU ?_
    refine WpC.ret ?_
    refine thenQ_ret ?_
    have hq := Option.some.inj h
    subst hq
    exact eR (by kernel_rfl) (by kernel_rfl)
  · replace h := ite_f hc2 h
    refine WpC.conv (cS [.k [0] [100000]] (by kernel_rfl) (by kernel_rfl)) (WpC.skip ?_)
    refine tnU ?_
    refine rS {} [] [100000] hN (by kernel_rfl) (by kernel_rfl) ?_
    have hq := Option.some.inj h
    subst hq
    exact eN (by kernel_rfl) (by kernel_rfl)

theorem lex_reader_variable_m0.ok (O : Out) (hO : GOk O) (k : Nat) (a0 : List UInt8) (a1 : Int) (a2 : Nat) (out : T_lex_Piece × Int × Nat) (h : lex_reader_variable_m0.f k a0 a1 a2 = some out) : COk Un O Tryz.prog 80 { ar := [.loc 100000 0], r := .p (.named 5) out.1, bs := [(100000, .box [.p .str a0, .p I6 a1, .p .err a2])], bs' := [(100000, .box [.p .str a0, .p I6 out.2.1, .p .err out.2.2])] } := by
  refine cok_of_wp Tryz.func80 rfl (k := 48) rfl (Nat.le_of_ble_eq_true rfl) (namesOk_of (by kernel_rfl)) ?_
  intro B hN
  refine WpC.conv (cvK (b := ⟨[(0, .loc 100000 0)], [(100000, .box [.p .str a0, .p I6 a1, .p .err a2])]⟩) [0] [100000] (by kernel_rfl)) ?_
  unfold lex_reader_variable_m0.f at h
  refine WpC.seq ?_
  refine rS {} [0, 2] [2, 100000] hN (by kernel_rfl) (by kernel_rfl) ?_
  refine tnU ?_
  refine WpC.seq ?_
  refine WpC.seq ?_
  obtain ⟨v1, hv1, h⟩ := bind_some h
  refine rS { its := [(1, .c (COk.ren (lex_reader_is_m0.ok O hO k a0 a1 a2 123 v1 hv1) (fun n => if n = 100000 then 100000 else n) (injOn_of (by kernel_rfl))))] } [0, 2, 6] [2, 100000] hN (by kernel_rfl) (by kernel_rfl) ?_
  refine tnU ?_
  refine tS (b := (!v1)) (by kernel_rfl) (fun hc2 => ?_) (fun hc2 => ?_)
  · replace h := ite_t hc2 h
    refine WpC.seq ?_
    obtain ⟨v3, hv3, h⟩ := bind_some h
    refine rS { its := [(1, .c (COk.ren (lex_reader_name_m0.ok O hO k a0 a1 a2 v3 hv3) (fun n => if n = 100000 then 100000 else n) (injOn_of (by kernel_rfl))))] } [2] [2, 100000] hN (by kernel_rfl) (by kernel_rfl) ?_
    refine tnU ?_
    refine WpC.ret ?_
    refine thenQ_ret ?_
    have hq := Option.some.inj h
    subst hq
    exact eR (by kernel_rfl) (by kernel_rfl)
  · replace h := ite_f hc2 h
    refine WpC.conv (cS [.k [0, 2] [2, 100000]] (by kernel_rfl) (by kernel_rfl)) (WpC.skip ?_)
    refine tnU ?_
    refine WpC.seq ?_
    refine rS {} [0, 2] [2, 100000] hN (by kernel_rfl) (by kernel_rfl) ?_
    refine tnU ?_
    refine WpC.seq ?_
    obtain ⟨v4, hv4, h⟩ := bind_some h
    refine rS { its := [(1, .c (COk.ren (lex_reader_name_m0.ok O hO k a0 (IntKind.i64.wrap (a1 + 1)) a2 v4 hv4) (fun n => if n = 100000 then 100000 else n) (injOn_of (by kernel_rfl))))] } [0, 2, 3] [2, 3, 100000] hN (by kernel_rfl) (by kernel_rfl) ?_
    refine tnU ?_
    refine sqJ (fun st' => ∃ v5 : Int, ∃ v6 : Nat, ∃ v7 : Int, ∃ v8 : List UInt8, ∃ v9 : List UInt8, lex_reader_variable_m0.j11 k a0 v4 v5 v6 v7 v8 v9 = some out ∧ st' = ⟨[(0, .loc 100000 0), (2, .loc 2 0), (3, .loc 3 0)], [(2, .box [.p I6 (0 : Int), .p .str ([] : List UInt8), .p .str ([] : List UInt8), .p .str ([] : List UInt8)]), (3, .box [.p I6 v7, .p .str v4.1, .p .str v8, .p .str v9]), (100000, .box [.p .str a0, .p I6 v5, .p .err v6])]⟩) ?_ ?_
    · refine sqJ (fun st' => ∃ v12 : Bool, lex_reader_variable_m0.j17 k a0 v4 v12 = some out ∧ st' = ⟨[(0, .loc 100000 0), (2, .loc 2 0), (3, .loc 3 0), (28, .p .bool v12)], [(2, .box [.p I6 (0 : Int), .p .str ([] : List UInt8), .p .str ([] : List UInt8), .p .str ([] : List UInt8)]), (3, .box [.p I6 (2 : Int), .p .str v4.1, .p .str ([] : List UInt8), .p .str ([] : List UInt8)]), (100000, .box [.p .str a0, .p I6 v4.2.1, .p .err v4.2.2])]⟩) ?_ ?_
      · rcases bool_cases (v4.2.2 == 0) with hc18 | hc18
        · replace h := ite_t hc18 h
          obtain ⟨v19, hv19, h⟩ := bind_some h
          refine rS { its := [(7, .c (COk.ren (lex_reader_is_m0.ok O hO k a0 v4.2.1 v4.2.2 58 v19 hv19) (fun n => if n = 100000 then 100000 else n) (injOn_of (by kernel_rfl))))], kn := [(25, .t hc18)] } [0, 2, 3, 28] [2, 3, 100000] hN (by kernel_rfl) (by kernel_rfl) ?_
          refine tnU ?_
          exact ⟨v19, h, by kernel_rfl⟩
        · replace h := ite_f hc18 h
          refine rS { kn := [(25, .f hc18)] } [0, 2, 3, 28] [2, 3, 100000] hN (by kernel_rfl) (by kernel_rfl) ?_
          refine tnU ?_
          exact ⟨false, h, by kernel_rfl⟩
      · rintro _ ⟨v12, h, rfl⟩
        unfold lex_reader_variable_m0.j17 at h
        refine tS (b := v12) (by kernel_rfl) (fun hc13 => ?_) (fun hc13 => ?_)
        · replace h := ite_t hc13 h
          refine WpC.seq ?_
          refine rS {} [0, 2, 3] [2, 3, 100000] hN (by kernel_rfl) (by kernel_rfl) ?_
          refine tnU ?_
          refine WpC.seq ?_
          obtain ⟨v14, hv14, h⟩ := bind_some h
          refine rS { its := [(1, .c (COk.ren (lex_reader_take_m2.ok O hO k a0 (IntKind.i64.wrap (v4.2.1 + 1)) v4.2.2 v14 hv14) (fun n => if n = 100000 then 100000 else n) (injOn_of (by kernel_rfl))))] } [0, 2, 3] [2, 3, 100000] hN (by kernel_rfl) (by kernel_rfl) ?_
          refine tnU ?_
          refine WpC.seq ?_
          obtain ⟨v15, hv15, h⟩ := bind_some h
          refine rS { its := [(1, .c (COk.ren (lex_reader_takes_m0.ok O hO k a0 v14.2 v4.2.2 61 v15 hv15) (fun n => if n = 100000 then 100000 else n) (injOn_of (by kernel_rfl))))] } [0, 2, 3] [2, 3, 100000] hN (by kernel_rfl) (by kernel_rfl) ?_
          refine tnU ?_
          obtain ⟨v16, hv16, h⟩ := bind_some h
          refine rS { its := [(1, .c (COk.ren (lex_reader_take_m2.ok O hO k a0 v15.1 v15.2 v16 hv16) (fun n => if n = 100000 then 100000 else n) (injOn_of (by kernel_rfl))))] } [0, 2, 3] [2, 3, 100000] hN (by kernel_rfl) (by kernel_rfl) ?_
          refine tnU ?_
          exact ⟨v16.2, v15.2, 3, v14.1, v16.1, h, by kernel_rfl⟩
        · replace h := ite_f hc13 h
          refine WpC.conv (cS [.k [0, 2, 3] [2, 3, 100000]] (by kernel_rfl) (by kernel_rfl)) (WpC.skip ?_)
          refine tnU ?_
          exact ⟨v4.2.1, v4.2.2, 2, [], [], h, by kernel_rfl⟩
    · rintro _ ⟨v5, v6, v7, v8, v9, h, rfl⟩
      unfold lex_reader_variable_m0.j11 at h
      refine WpC.seq ?_
      obtain ⟨v10, hv10, h⟩ := bind_some h
      refine rS { its := [(1, .c (COk.ren (lex_reader_takes_m0.ok O hO k a0 v5 v6 125 v10 hv10) (fun n => if n = 100000 then 100000 else n) (injOn_of (by kernel_rfl))))] } [2, 3] [2, 3, 100000] hN (by kernel_rfl) (by kernel_rfl) ?_
      refine tnU ?_
      refine WpC.seq ?_
      refine rS {} [2] [2, 100000] hN (by kernel_rfl) (by kernel_rfl) ?_
      refine tnU ?_
      refine WpC.ret ?_
      have hq := Option.some.inj h
      subst hq
      exact eR (by kernel_rfl) (by kernel_rfl)

theorem lex_inside.ok (O : Out) (hO : GOk O) (k : Nat) (a0 : Int) (out : Bool) (h : lex_inside.f k a0 = some out) : COk Un O Tryz.prog 114 { ar := [.p (.int .u8) a0], r := .p .bool out } := by
  refine cok_of_wp Tryz.func114 rfl (k := 9) rfl (Nat.le_of_ble_eq_true rfl) (namesOk_pure rfl rfl rfl rfl) ?_
  intro B hN
  refine WpC.conv (cvK (b := ⟨[(0, .p (.int .u8) a0)], []⟩) [0] [] (by kernel_rfl)) ?_
  unfold lex_inside.f at h
  refine WpC.seq ?_
  refine rS {} [0] [] hN (by kernel_rfl) (by kernel_rfl) ?_
  refine tnU ?_
  refine WpC.seq ?_
  rcases bool_cases (a0 != 123) with hc1 | hc1
  · replace h := ite_t hc1 h
    refine rS { kn := [(5, .t hc1)] } [2] [] hN (by kernel_rfl) (by kernel_rfl) ?_
    refine tnU ?_
    refine WpC.ret ?_
    have hq := Option.some.inj h
    subst hq
    exact eR (by kernel_rfl) (by kernel_rfl)
  · replace h := ite_f hc1 h
    refine rS { kn := [(5, .f hc1)] } [2] [] hN (by kernel_rfl) (by kernel_rfl) ?_
    refine tnU ?_
    refine WpC.ret ?_
    have hq := Option.some.inj h
    subst hq
    exact eR (by kernel_rfl) (by kernel_rfl)

theorem lex_run_m3.ok (O : Out) (hO : GOk O) (k : Nat) (a0 : List UInt8) (a1 : Int) (out : Int) (h : lex_run_m3.f k a0 a1 = some out) : COk Un O Tryz.prog 77 { ar := [.p .str a0, .p I6 a1, .clo 114 []], r := .p I6 out } := by
  refine cok_of_wp Tryz.func77 rfl (k := 26) rfl (Nat.le_of_ble_eq_true rfl) (namesOk_pure rfl rfl rfl rfl) ?_
  intro B hN
  refine WpC.conv (cvK (b := ⟨[(0, .p .str a0), (1, .p I6 a1), (2, .clo 114 [])], []⟩) [0, 1, 2] [] (by kernel_rfl)) ?_
  unfold lex_run_m3.f at h
  refine WpC.seq ?_
  refine rS {} [0, 1, 2] [] hN (by kernel_rfl) (by kernel_rfl) ?_
  refine tnU ?_
  refine WpC.seq ?_
  refine rS {} [0, 1, 2, 7] [] hN (by kernel_rfl) (by kernel_rfl) ?_
  refine tnU ?_
  refine sqJ (fun st' => ∃ v1 : Int, lex_run_m3.j2 k v1 = some out ∧ st' = ⟨[(7, .p I6 v1)], []⟩) ?_ ?_
  · refine WpC.block ?_
    obtain ⟨o6, hlo6, h⟩ := bind_some h
    have hout7 := h
    clear h
    refine WpC.loop (U := Un) (fun n st' => ∃ v3 : Int, lex_run_m3.l4 k a0 a1 n v3 = some o6 ∧ st' = ⟨[(0, .p .str a0), (1, .p I6 a1), (2, .clo 114 []), (7, .p I6 v3)], []⟩) k ⟨0, hlo6, by kernel_rfl⟩ ?_
    clear hlo6
    rintro (_ | n) _ ⟨v3, h, rfl⟩
    · cases h
    · rw [lex_run_m3.l4] at h
      refine sqJ (fun st' => lex_run_m3.j8 k (lex_run_m3.l4 k a0 a1 n) a0 a1 v3 = some o6 ∧ st' = ⟨[(0, .p .str a0), (1, .p I6 a1), (2, .clo 114 []), (7, .p I6 v3)], []⟩) ?_ ?_
      · refine sqJ (fun st' => ∃ v9 : Bool, lex_run_m3.j11 k (lex_run_m3.l4 k a0 a1 n) a0 a1 v3 v9 = some o6 ∧ st' = ⟨[(0, .p .str a0), (1, .p I6 a1), (2, .clo 114 []), (7, .p I6 v3), (22, .p .bool v9)], []⟩) ?_ ?_
        · rcases bool_cases (decide ((IntKind.i64.wrap (a1 + v3)) < (a0.length : Int))) with hc12 | hc12
          · replace h := ite_t hc12 h
            obtain ⟨v13, hv13, h⟩ := bind_some h
            obtain ⟨v14, hv14, h⟩ := bind_some h
            refine rS { its := [(12, .u hv13), (13, .c (lex_inside.ok O hO k (v13.toNat : Int) v14 hv14))], kn := [(14, .t hc12)] } [0, 1, 2, 7, 22] [] hN (by kernel_rfl) (by kernel_rfl) ?_
            refine tnU ?_
            exact ⟨v14, h, by kernel_rfl⟩
          · replace h := ite_f hc12 h
            refine rS { kn := [(14, .f hc12)] } [0, 1, 2, 7, 22] [] hN (by kernel_rfl) (by kernel_rfl) ?_
            refine tnU ?_
            exact ⟨false, h, by kernel_rfl⟩
        · rintro _ ⟨v9, h, rfl⟩
          unfold lex_run_m3.j11 at h
          refine tS (b := v9) (by kernel_rfl) (fun hc10 => ?_) (fun hc10 => ?_)
          · replace h := ite_t hc10 h
            refine WpC.conv (cS [.k [0, 1, 2, 7] []] (by kernel_rfl) (by kernel_rfl)) (WpC.skip ?_)
            refine tnU ?_
            exact ⟨h, by kernel_rfl⟩
          · replace h := ite_f hc10 h
            refine WpC.conv (cS [.k [7] []] (by kernel_rfl) (by kernel_rfl)) (WpC.exit ?_)
            refine thenQ_exit ?_
            have hq := Option.some.inj h
            subst hq
            refine thenQ_exit ?_
            have h := hout7
            refine blockQ_hit ?_
            refine tnU ?_
            exact ⟨v3, h, by kernel_rfl⟩
      · rintro _ ⟨h, rfl⟩
        unfold lex_run_m3.j8 at h
        refine WpC.block ?_
        refine rS {} [0, 1, 2, 7] [] hN (by kernel_rfl) (by kernel_rfl) ?_
        refine blockQ_normal ?_
        refine tnU ?_
        exact ⟨n, Nat.lt_succ_self n, (IntKind.i64.wrap (v3 + 1)), h, by kernel_rfl⟩
  · rintro _ ⟨v1, h, rfl⟩
    unfold lex_run_m3.j2 at h
    refine WpC.seq ?_
    refine rS {} [6] [] hN (by kernel_rfl) (by kernel_rfl) ?_
    refine tnU ?_
    refine WpC.ret ?_
    have hq := Option.some.inj h
    subst hq
    exact eR (by kernel_rfl) (by kernel_rfl)

theorem lex_reader_take_m3.ok (O : Out) (hO : GOk O) (k : Nat) (a0 : List UInt8) (a1 : Int) (a2 : Nat) (out : (List UInt8) × Int) (h : lex_reader_take_m3.f k a0 a1 a2 = some out) : COk Un O Tryz.prog 51 { ar := [.loc 100000 0, .clo 114 []], r := .p .str out.1, bs := [(100000, .box [.p .str a0, .p I6 a1, .p .err a2])], bs' := [(100000, .box [.p .str a0, .p I6 out.2, .p .err a2])] } := by
  refine cok_of_wp Tryz.func51 rfl (k := 39) rfl (Nat.le_of_ble_eq_true rfl) (namesOk_of (by kernel_rfl)) ?_
  intro B hN
  refine WpC.conv (cvK (b := ⟨[(0, .loc 100000 0), (1, .clo 114 [])], [(100000, .box [.p .str a0, .p I6 a1, .p .err a2])]⟩) [0, 1] [100000] (by kernel_rfl)) ?_
  unfold lex_reader_take_m3.f at h
  refine WpC.seq ?_
  refine rS {} [0, 1] [100000] hN (by kernel_rfl) (by kernel_rfl) ?_
  refine tnU ?_
  refine WpC.seq ?_
  obtain ⟨v1, hv1, h⟩ := bind_some h
  refine rA { its := [(9, .c (lex_run_m3.ok O hO k a0 a1 v1 hv1))] } [0, 5] [100000] hN (by kernel_rfl) (by kernel_rfl) (by kernel_rfl) ?_
  refine tnU ?_
  refine WpC.seq ?_
  refine rS {} [0, 5] [100000] hN (by kernel_rfl) (by kernel_rfl) ?_
  refine tnU ?_
  refine WpC.seq ?_
  obtain ⟨v2, hv2, h⟩ := bind_some h
  refine rA { its := [(14, .v .str hv2)] } [4] [100000] hN (by kernel_rfl) (by kernel_rfl) (by kernel_rfl) ?_
  refine tnU ?_
  refine WpC.ret ?_
  have hq := Option.some.inj h
  subst hq
  exact eR (by kernel_rfl) (by kernel_rfl)

theorem lex_reader_command_m0.ok (O : Out) (hO : GOk O) (k : Nat) (a0 : List UInt8) (a1 : Int) (a2 : Nat) (out : T_lex_Piece × Int × Nat) (h : lex_reader_command_m0.f k a0 a1 a2 = some out) : COk Un O Tryz.prog 81 { ar := [.loc 100000 0], r := .p (.named 5) out.1, bs := [(100000, .box [.p .str a0, .p I6 a1, .p .err a2])], bs' := [(100000, .box [.p .str a0, .p I6 out.2.1, .p .err out.2.2])] } := by
  refine cok_of_wp Tryz.func81 rfl (k := 12) rfl (Nat.le_of_ble_eq_true rfl) (namesOk_of (by kernel_rfl)) ?_
  intro B hN
  refine WpC.conv (cvK (b := ⟨[(0, .loc 100000 0)], [(100000, .box [.p .str a0, .p I6 a1, .p .err a2])]⟩) [0] [100000] (by kernel_rfl)) ?_
  unfold lex_reader_command_m0.f at h
  refine WpC.seq ?_
  refine rS {} [0, 2] [2, 100000] hN (by kernel_rfl) (by kernel_rfl) ?_
  refine tnU ?_
  refine WpC.seq ?_
  obtain ⟨v1, hv1, h⟩ := bind_some h
  refine rS { its := [(1, .c (COk.ren (lex_reader_takes_m0.ok O hO k a0 a1 a2 123 v1 hv1) (fun n => if n = 100000 then 100000 else n) (injOn_of (by kernel_rfl))))] } [0, 2] [2, 100000] hN (by kernel_rfl) (by kernel_rfl) ?_
  refine tnU ?_
  refine WpC.seq ?_
  obtain ⟨v2, hv2, h⟩ := bind_some h
  refine rS { its := [(1, .c (COk.ren (lex_reader_take_m3.ok O hO k a0 v1.1 v1.2 v2 hv2) (fun n => if n = 100000 then 100000 else n) (injOn_of (by kernel_rfl))))] } [0, 2, 3] [2, 3, 100000] hN (by kernel_rfl) (by kernel_rfl) ?_
  refine tnU ?_
  refine WpC.seq ?_
  obtain ⟨v3, hv3, h⟩ := bind_some h
  refine rS { its := [(1, .c (COk.ren (lex_reader_takes_m0.ok O hO k a0 v2.2 v1.2 125 v3 hv3) (fun n => if n = 100000 then 100000 else n) (injOn_of (by kernel_rfl))))] } [2, 3] [2, 3, 100000] hN (by kernel_rfl) (by kernel_rfl) ?_
  refine tnU ?_
  refine WpC.seq ?_
  refine rS {} [2] [2, 100000] hN (by kernel_rfl) (by kernel_rfl) ?_
  refine tnU ?_
  refine WpC.ret ?_
  have hq := Option.some.inj h
  subst hq
  exact eR (by kernel_rfl) (by kernel_rfl)

theorem lex_run_m4.ok (O : Out) (hO : GOk O) (k : Nat) (a0 : List UInt8) (a1 : Int) (out : Int) (h : lex_run_m4.f k a0 a1 = some out) : COk Un O Tryz.prog 77 { ar := [.p .str a0, .p I6 a1, .clo 82 []], r := .p I6 out } := by
  refine cok_of_wp Tryz.func77 rfl (k := 26) rfl (Nat.le_of_ble_eq_true rfl) (namesOk_pure rfl rfl rfl rfl) ?_
  intro B hN
  refine WpC.conv (cvK (b := ⟨[(0, .p .str a0), (1, .p I6 a1), (2, .clo 82 [])], []⟩) [0, 1, 2] [] (by kernel_rfl)) ?_
  unfold lex_run_m4.f at h
  refine WpC.seq ?_
  refine rS {} [0, 1, 2] [] hN (by kernel_rfl) (by kernel_rfl) ?_
  refine tnU ?_
  refine WpC.seq ?_
  refine rS {} [0, 1, 2, 7] [] hN (by kernel_rfl) (by kernel_rfl) ?_
  refine tnU ?_
  refine sqJ (fun st' => ∃ v1 : Int, lex_run_m4.j2 k v1 = some out ∧ st' = ⟨[(7, .p I6 v1)], []⟩) ?_ ?_
  · refine WpC.block ?_
    obtain ⟨o6, hlo6, h⟩ := bind_some h
    have hout7 := h
    clear h
    refine WpC.loop (U := Un) (fun n st' => ∃ v3 : Int, lex_run_m4.l4 k a0 a1 n v3 = some o6 ∧ st' = ⟨[(0, .p .str a0), (1, .p I6 a1), (2, .clo 82 []), (7, .p I6 v3)], []⟩) k ⟨0, hlo6, by kernel_rfl⟩ ?_
    clear hlo6
    rintro (_ | n) _ ⟨v3, h, rfl⟩
    · cases h
    · rw [lex_run_m4.l4] at h
      refine sqJ (fun st' => lex_run_m4.j8 k (lex_run_m4.l4 k a0 a1 n) a0 a1 v3 = some o6 ∧ st' = ⟨[(0, .p .str a0), (1, .p I6 a1), (2, .clo 82 []), (7, .p I6 v3)], []⟩) ?_ ?_
      · refine sqJ (fun st' => ∃ v9 : Bool, lex_run_m4.j11 k (lex_run_m4.l4 k a0 a1 n) a0 a1 v3 v9 = some o6 ∧ st' = ⟨[(0, .p .str a0), (1, .p I6 a1), (2, .clo 82 []), (7, .p I6 v3), (22, .p .bool v9)], []⟩) ?_ ?_
        · rcases bool_cases (decide ((IntKind.i64.wrap (a1 + v3)) < (a0.length : Int))) with hc12 | hc12
          · replace h := ite_t hc12 h
            obtain ⟨v13, hv13, h⟩ := bind_some h
            obtain ⟨v14, hv14, h⟩ := bind_some h
            refine rS { its := [(12, .u hv13), (13, .c (lex_plain.ok O hO k (v13.toNat : Int) v14 hv14))], kn := [(14, .t hc12)] } [0, 1, 2, 7, 22] [] hN (by kernel_rfl) (by kernel_rfl) ?_
            refine tnU ?_
            exact ⟨v14, h, by kernel_rfl⟩
          · replace h := ite_f hc12 h
            refine rS { kn := [(14, .f hc12)] } [0, 1, 2, 7, 22] [] hN (by kernel_rfl) (by kernel_rfl) ?_
            refine tnU ?_
            exact ⟨false, h, by kernel_rfl⟩
        · rintro _ ⟨v9, h, rfl⟩
          unfold lex_run_m4.j11 at h
          refine tS (b := v9) (by kernel_rfl) (fun hc10 => ?_) (fun hc10 => ?_)
          · replace h := ite_t hc10 h
            refine WpC.conv (cS [.k [0, 1, 2, 7] []] (by kernel_rfl) (by kernel_rfl)) (WpC.skip ?_)
            refine tnU ?_
            exact ⟨h, by kernel_rfl⟩
          · replace h := ite_f hc10 h
            refine WpC.conv (cS [.k [7] []] (by kernel_rfl) (by kernel_rfl)) (WpC.exit ?_)
            refine thenQ_exit ?_
            have hq := Option.some.inj h
            subst hq
            refine thenQ_exit ?_
            have h := hout7
            refine blockQ_hit ?_
            refine tnU ?_
            exact ⟨v3, h, by kernel_rfl⟩
      · rintro _ ⟨h, rfl⟩
        unfold lex_run_m4.j8 at h
        refine WpC.block ?_
        refine rS {} [0, 1, 2, 7] [] hN (by kernel_rfl) (by kernel_rfl) ?_
        refine blockQ_normal ?_
        refine tnU ?_
        exact ⟨n, Nat.lt_succ_self n, (IntKind.i64.wrap (v3 + 1)), h, by kernel_rfl⟩
  · rintro _ ⟨v1, h, rfl⟩
    unfold lex_run_m4.j2 at h
    refine WpC.seq ?_
    refine rS {} [6] [] hN (by kernel_rfl) (by kernel_rfl) ?_
    refine tnU ?_
    refine WpC.ret ?_
    have hq := Option.some.inj h
    subst hq
    exact eR (by kernel_rfl) (by kernel_rfl)

theorem lex_reader_take_m4.ok (O : Out) (hO : GOk O) (k : Nat) (a0 : List UInt8) (a1 : Int) (a2 : Nat) (out : (List UInt8) × Int) (h : lex_reader_take_m4.f k a0 a1 a2 = some out) : COk Un O Tryz.prog 51 { ar := [.loc 100000 0, .clo 82 []], r := .p .str out.1, bs := [(100000, .box [.p .str a0, .p I6 a1, .p .err a2])], bs' := [(100000, .box [.p .str a0, .p I6 out.2, .p .err a2])] } := by
  refine cok_of_wp Tryz.func51 rfl (k := 39) rfl (Nat.le_of_ble_eq_true rfl) (namesOk_of (by kernel_rfl)) ?_
  intro B hN
  refine WpC.conv (cvK (b := ⟨[(0, .loc 100000 0), (1, .clo 82 [])], [(100000, .box [.p .str a0, .p I6 a1, .p .err a2])]⟩) [0, 1] [100000] (by kernel_rfl)) ?_
  unfold lex_reader_take_m4.f at h
  refine WpC.seq ?_
  refine rS {} [0, 1] [100000] hN (by kernel_rfl) (by kernel_rfl) ?_
  refine tnU ?_
  refine WpC.seq ?_
  obtain ⟨v1, hv1, h⟩ := bind_some h
  refine rA { its := [(9, .c (lex_run_m4.ok O hO k a0 a1 v1 hv1))] } [0, 5] [100000] hN (by kernel_rfl) (by kernel_rfl) (by kernel_rfl) ?_
  refine tnU ?_
  refine WpC.seq ?_
  refine rS {} [0, 5] [100000] hN (by kernel_rfl) (by kernel_rfl) ?_
  refine tnU ?_
  refine WpC.seq ?_
  obtain ⟨v2, hv2, h⟩ := bind_some h
  refine rA { its := [(14, .v .str hv2)] } [4] [100000] hN (by kernel_rfl) (by kernel_rfl) (by kernel_rfl) ?_
  refine tnU ?_
  refine WpC.ret ?_
  have hq := Option.some.inj h
  subst hq
  exact eR (by kernel_rfl) (by kernel_rfl)

theorem lex_reader_piece_m0.ok (O : Out) (hO : GOk O) (k : Nat) (a0 : List UInt8) (a1 : Int) (a2 : Nat) (out : T_lex_Piece × Int × Nat) (h : lex_reader_piece_m0.f k a0 a1 a2 = some out) : COk Un O Tryz.prog 53 { ar := [.loc 100000 0], r := .p (.named 5) out.1, bs := [(100000, .box [.p .str a0, .p I6 a1, .p .err a2])], bs' := [(100000, .box [.p .str a0, .p I6 out.2.1, .p .err out.2.2])] } := by
  refine cok_of_wp Tryz.func53 rfl (k := 41) rfl (Nat.le_of_ble_eq_true rfl) (namesOk_of (by kernel_rfl)) ?_
  intro B hN
  refine WpC.conv (cvK (b := ⟨[(0, .loc 100000 0)], [(100000, .box [.p .str a0, .p I6 a1, .p .err a2])]⟩) [0] [100000] (by kernel_rfl)) ?_
  unfold lex_reader_piece_m0.f at h
  refine WpC.seq ?_
  refine rS {} [0, 2] [2, 100000] hN (by kernel_rfl) (by kernel_rfl) ?_
  refine tnU ?_
  refine WpC.seq ?_
  refine WpC.seq ?_
  obtain ⟨v1, hv1, h⟩ := bind_some h
  refine rA { its := [(8, .u hv1)] } [0, 2, 11] [2, 100000] hN (by kernel_rfl) (by kernel_rfl) (by kernel_rfl) ?_
  refine tnU ?_
  refine WpC.block ?_
  refine WpC.seq ?_
  refine rS {} [0, 2, 11, 12] [2, 100000] hN (by kernel_rfl) (by kernel_rfl) ?_
  refine tnU ?_
  refine tS (b := ((v1.toNat : Int) == 39)) (by kernel_rfl) (fun hc2 => ?_) (fun hc2 => ?_)
  · replace h := ite_t hc2 h
    refine WpC.seq ?_
    obtain ⟨v3, hv3, h⟩ := bind_some h
    refine rS { its := [(1, .c (COk.ren (lex_reader_quoted_m0.ok O hO k a0 a1 a2 v3 hv3) (fun n => if n = 100000 then 100000 else n) (injOn_of (by kernel_rfl))))] } [2] [2, 100000] hN (by kernel_rfl) (by kernel_rfl) ?_
    refine tnU ?_
    refine WpC.ret ?_
    refine blockQ_ret ?_
    refine thenQ_ret ?_
    have hq := Option.some.inj h
    subst hq
    exact eR (by kernel_rfl) (by kernel_rfl)
  · replace h := ite_f hc2 h
    refine WpC.seq ?_
    refine rS {} [0, 2, 11, 16] [2, 100000] hN (by kernel_rfl) (by kernel_rfl) ?_
    refine tnU ?_
    refine tS (b := ((v1.toNat : Int) == 36)) (by kernel_rfl) (fun hc4 => ?_) (fun hc4 => ?_)
    · replace h := ite_t hc4 h
      refine WpC.seq ?_
      refine rS {} [0, 2] [2, 100000] hN (by kernel_rfl) (by kernel_rfl) ?_
      refine tnU ?_
      refine WpC.seq ?_
      obtain ⟨v5, hv5, h⟩ := bind_some h
      refine rS { its := [(1, .c (COk.ren (lex_reader_variable_m0.ok O hO k a0 (IntKind.i64.wrap (a1 + 1)) a2 v5 hv5) (fun n => if n = 100000 then 100000 else n) (injOn_of (by kernel_rfl))))] } [2] [2, 100000] hN (by kernel_rfl) (by kernel_rfl) ?_
      refine tnU ?_
      refine WpC.ret ?_
      refine blockQ_ret ?_
      refine thenQ_ret ?_
      have hq := Option.some.inj h
      subst hq
      exact eR (by kernel_rfl) (by kernel_rfl)
    · replace h := ite_f hc4 h
      refine WpC.seq ?_
      refine rS {} [0, 2, 27] [2, 100000] hN (by kernel_rfl) (by kernel_rfl) ?_
      refine tnU ?_
      refine tS (b := ((v1.toNat : Int) == 96)) (by kernel_rfl) (fun hc6 => ?_) (fun hc6 => ?_)
      · replace h := ite_t hc6 h
        refine WpC.seq ?_
        refine rS {} [0, 2] [2, 100000] hN (by kernel_rfl) (by kernel_rfl) ?_
        refine tnU ?_
        refine WpC.seq ?_
        obtain ⟨v7, hv7, h⟩ := bind_some h
        refine rS { its := [(1, .c (COk.ren (lex_reader_command_m0.ok O hO k a0 (IntKind.i64.wrap (a1 + 1)) a2 v7 hv7) (fun n => if n = 100000 then 100000 else n) (injOn_of (by kernel_rfl))))] } [2] [2, 100000] hN (by kernel_rfl) (by kernel_rfl) ?_
        refine tnU ?_
        refine WpC.ret ?_
        refine blockQ_ret ?_
        refine thenQ_ret ?_
        have hq := Option.some.inj h
        subst hq
        exact eR (by kernel_rfl) (by kernel_rfl)
      · replace h := ite_f hc6 h
        refine WpC.conv (cS [.k [0, 2] [2, 100000]] (by kernel_rfl) (by kernel_rfl)) (WpC.skip ?_)
        refine blockQ_normal ?_
        refine tnU ?_
        refine WpC.seq ?_
        obtain ⟨v8, hv8, h⟩ := bind_some h
        refine rS { its := [(1, .c (COk.ren (lex_reader_take_m4.ok O hO k a0 a1 a2 v8 hv8) (fun n => if n = 100000 then 100000 else n) (injOn_of (by kernel_rfl))))] } [2] [2, 100000] hN (by kernel_rfl) (by kernel_rfl) ?_
        refine tnU ?_
        refine WpC.ret ?_
        have hq := Option.some.inj h
        subst hq
        exact eR (by kernel_rfl) (by kernel_rfl)

theorem lex_Words.ok (O : Out) (hO : GOk O) (k : Nat) (a0 : List UInt8) (out : (List (List T_lex_Piece)) × Nat) (h : lex_Words.f k a0 = some out) : COk Un O Tryz.prog 35 { ar := [.p .str a0], r := .tup [.p (.list (.list (.named 5))) out.1, .p .err out.2] } := by
  refine cok_of_wp Tryz.func35 rfl (k := 55) rfl (Nat.le_of_ble_eq_true rfl) (namesOk_pure rfl rfl rfl rfl) ?_
  intro B hN
  refine WpC.conv (cvK (b := ⟨[(0, .p .str a0)], []⟩) [0] [] (by kernel_rfl)) ?_
  unfold lex_Words.f at h
  refine WpC.seq ?_
  refine rS {} [0] [] hN (by kernel_rfl) (by kernel_rfl) ?_
  refine tnU ?_
  refine WpC.seq ?_
  refine rS {} [0, 4] [9] hN (by kernel_rfl) (by kernel_rfl) ?_
  refine tnU ?_
  refine WpC.seq ?_
  refine rS {} [0, 4, 5] [9] hN (by kernel_rfl) (by kernel_rfl) ?_
  refine tnU ?_
  refine WpC.block ?_
  obtain ⟨o5, hlo5, h⟩ := bind_some h
  have hout6 := h
  clear h
  refine WpC.conv (cS [.th 5 1005 55 (.list (.named 5)), .k [0, 4, 5] [9, 1005]] (by kernel_rfl) (by kernel_rfl)) ?_
  refine WpC.loop (U := Un) (fun n st' => ∃ v1 : Int, ∃ v2 : Nat, ∃ v3 : List (List T_lex_Piece), lex_Words.l4 k a0 n v1 v2 v3 = some o5 ∧ st' = ⟨[(0, .p .str a0), (4, .loc 9 0), (5, .vec 1005 1 0 v3.length)], [(9, .box [.p .str a0, .p I6 v1, .p .err v2]), (1005, .row 55 (.list (.named 5)) v3 false)]⟩) k ⟨0, 0, [], hlo5, by kernel_rfl⟩ ?_
  clear hlo5
  rintro (_ | n) _ ⟨v1, v2, v3, h, rfl⟩
  · cases h
  · rw [lex_Words.l4] at h
    refine WpC.block ?_
    refine WpC.seq ?_
    obtain ⟨v7, hv7, h⟩ := bind_some h
    refine rS { its := [(1, .c (COk.ren (lex_reader_take_m0.ok O hO k a0 v1 v2 v7 hv7) (fun n => if n = 100000 then 9 else n) (injOn_of (by kernel_rfl))))] } [0, 4, 5] [9, 1005] hN (by kernel_rfl) (by kernel_rfl) ?_
    refine tnU ?_
    refine WpC.seq ?_
    refine WpC.seq ?_
    refine rS {} [0, 4, 5, 18] [9, 1005] hN (by kernel_rfl) (by kernel_rfl) ?_
    refine tnU ?_
    refine tS (b := (decide (v7.2 ≥ (a0.length : Int)))) (by kernel_rfl) (fun hc8 => ?_) (fun hc8 => ?_)
    · replace h := ite_t hc8 h
      refine WpC.seq ?_
      refine rS {} [2, 3] [1005] hN (by kernel_rfl) (by kernel_rfl) ?_
      refine tnU ?_
      refine WpC.conv (cS [.fz 2, .k [2, 3] [], .nE 3, .k [2, 3] []] (by kernel_rfl) (by kernel_rfl)) (WpC.ret ?_)
      refine thenQ_ret ?_
      refine blockQ_ret ?_
      have hq := Option.some.inj h
      subst hq
      refine thenQ_ret ?_
      have h := hout6
      refine blockQ_ret ?_
      have hq := Option.some.inj h
      subst hq
      exact eR (by kernel_rfl) (by kernel_rfl)
    · replace h := ite_f hc8 h
      refine WpC.conv (cS [.k [0, 4, 5] [9, 1005]] (by kernel_rfl) (by kernel_rfl)) (WpC.skip ?_)
      refine tnU ?_
      refine WpC.seq ?_
      refine rS {} [0, 4, 5, 6] [9, 1005] hN (by kernel_rfl) (by kernel_rfl) ?_
      refine tnU ?_
      refine sqJ (fun st' => ∃ v9 : Int, ∃ v10 : Nat, ∃ v11 : List T_lex_Piece, lex_Words.j13 k (lex_Words.l4 k a0 n) a0 v3 v9 v10 v11 = some o5 ∧ st' = ⟨[(0, .p .str a0), (4, .loc 9 0), (5, .vec 1005 1 0 v3.length), (6, .vec 1006 4 0 v11.length)], [(9, .box [.p .str a0, .p I6 v9, .p .err v10]), (1005, .row 55 (.list (.named 5)) v3 false), (1006, .row 61 (.named 5) v11 false)]⟩) ?_ ?_
      · refine WpC.block ?_
        obtain ⟨o21, hlo21, h⟩ := bind_some h
        have hout22 := h
        clear h
        refine WpC.conv (cS [.th 6 1006 61 (.named 5), .k [0, 4, 5, 6] [9, 1005, 1006]] (by kernel_rfl) (by kernel_rfl)) ?_
        refine WpC.loop (U := Un) (fun n st' => ∃ v14 : Int, ∃ v15 : Nat, ∃ v16 : List T_lex_Piece, lex_Words.l17 k a0 v3 n v14 v15 v16 = some o21 ∧ st' = ⟨[(0, .p .str a0), (4, .loc 9 0), (5, .vec 1005 1 0 v3.length), (6, .vec 1006 4 0 v16.length)], [(9, .box [.p .str a0, .p I6 v14, .p .err v15]), (1005, .row 55 (.list (.named 5)) v3 false), (1006, .row 61 (.named 5) v16 false)]⟩) k ⟨v7.2, v2, [], hlo21, by kernel_rfl⟩ ?_
        clear hlo21
        rintro (_ | n) _ ⟨v14, v15, v16, h, rfl⟩
        · cases h
        · rw [lex_Words.l17] at h
          refine sqJ (fun st' => lex_Words.j26 k (lex_Words.l17 k a0 v3 n) a0 v3 v14 v15 v16 = some o21 ∧ st' = ⟨[(0, .p .str a0), (4, .loc 9 0), (5, .vec 1005 1 0 v3.length), (6, .vec 1006 4 0 v16.length)], [(9, .box [.p .str a0, .p I6 v14, .p .err v15]), (1005, .row 55 (.list (.named 5)) v3 false), (1006, .row 61 (.named 5) v16 false)]⟩) ?_ ?_
          · refine sqJ (fun st' => ∃ v27 : Bool, lex_Words.j29 k (lex_Words.l17 k a0 v3 n) a0 v3 v14 v15 v16 v27 = some o21 ∧ st' = ⟨[(0, .p .str a0), (4, .loc 9 0), (5, .vec 1005 1 0 v3.length), (6, .vec 1006 4 0 v16.length), (36, .p .bool v27)], [(9, .box [.p .str a0, .p I6 v14, .p .err v15]), (1005, .row 55 (.list (.named 5)) v3 false), (1006, .row 61 (.named 5) v16 false)]⟩) ?_ ?_
            · rcases bool_cases (decide (v14 < (a0.length : Int))) with hc30 | hc30
              · replace h := ite_t hc30 h
                obtain ⟨v31, hv31, h⟩ := bind_some h
                obtain ⟨v32, hv32, h⟩ := bind_some h
                refine rS { its := [(13, .u hv31), (14, .c (quote_Blank.ok O hO k (v31.toNat : Int) v32 hv32))], kn := [(27, .t hc30)] } [0, 4, 5, 6, 36] [9, 1005, 1006] hN (by kernel_rfl) (by kernel_rfl) ?_
                refine tnU ?_
                exact ⟨(!v32), h, by kernel_rfl⟩
              · replace h := ite_f hc30 h
                refine rS { kn := [(27, .f hc30)] } [0, 4, 5, 6, 36] [9, 1005, 1006] hN (by kernel_rfl) (by kernel_rfl) ?_
                refine tnU ?_
                exact ⟨false, h, by kernel_rfl⟩
            · rintro _ ⟨v27, h, rfl⟩
              unfold lex_Words.j29 at h
              refine tS (b := v27) (by kernel_rfl) (fun hc28 => ?_) (fun hc28 => ?_)
              · replace h := ite_t hc28 h
                refine WpC.conv (cS [.k [0, 4, 5, 6] [9, 1005, 1006]] (by kernel_rfl) (by kernel_rfl)) (WpC.skip ?_)
                refine tnU ?_
                exact ⟨h, by kernel_rfl⟩
              · replace h := ite_f hc28 h
                refine WpC.conv (cS [.k [0, 4, 5, 6] [9, 1005, 1006]] (by kernel_rfl) (by kernel_rfl)) (WpC.exit ?_)
                refine thenQ_exit ?_
                have hq := Option.some.inj h
                subst hq
                refine thenQ_exit ?_
                have h := hout22
                refine blockQ_hit ?_
                refine tnU ?_
                exact ⟨v14, v15, v16, h, by kernel_rfl⟩
          · rintro _ ⟨h, rfl⟩
            unfold lex_Words.j26 at h
            refine WpC.block ?_
            refine WpC.seq ?_
            obtain ⟨v23, hv23, h⟩ := bind_some h
            obtain ⟨g24, h⟩ := if_some h
            refine rS { its := [(2, .c (COk.ren (lex_reader_piece_m0.ok O hO k a0 v14 v15 v23 hv23) (fun n => if n = 100000 then 9 else n) (injOn_of (by kernel_rfl)))), (4, .g g24)] } [0, 4, 5, 6] [9, 41, 1005] hN (by kernel_rfl) (by kernel_rfl) ?_
            refine tnU ?_
            refine WpC.seq ?_
            refine rS {} [0, 4, 5, 6, 46] [9, 41, 1005] hN (by kernel_rfl) (by kernel_rfl) ?_
            refine tnU ?_
            refine tS (b := (!(v23.2.2 == 0))) (by kernel_rfl) (fun hc25 => ?_) (fun hc25 => ?_)
            · replace h := ite_t hc25 h
              refine WpC.seq ?_
              refine rA {} [2, 3] [] hN (by kernel_rfl) (by kernel_rfl) (by kernel_rfl) ?_
              refine tnU ?_
              refine WpC.conv (cS [.nL 2 (.list (.named 5)), .k [2, 3] []] (by kernel_rfl) (by kernel_rfl)) (WpC.ret ?_)
              refine blockQ_ret ?_
              have hq := Option.some.inj h
              subst hq
              refine thenQ_ret ?_
              have h := hout22
              refine blockQ_ret ?_
              refine thenQ_ret ?_
              refine blockQ_ret ?_
              have hq := Option.some.inj h
              subst hq
              refine thenQ_ret ?_
              have h := hout6
              refine blockQ_ret ?_
              have hq := Option.some.inj h
              subst hq
              exact eR (by kernel_rfl) (by kernel_rfl)
            · replace h := ite_f hc25 h
              refine WpC.conv (cS [.k [0, 4, 5, 6] [9, 41, 1005], .rn 41 1006, .k [0, 4, 5, 6] [9, 1005, 1006]] (by kernel_rfl) (by kernel_rfl)) (WpC.skip ?_)
              refine blockQ_normal ?_
              refine tnU ?_
              exact ⟨n, Nat.lt_succ_self n, v23.2.1, v23.2.2, (v16 ++ [v23.1]), h, by kernel_rfl⟩
      · rintro _ ⟨v9, v10, v11, h, rfl⟩
        unfold lex_Words.j13 at h
        obtain ⟨g12, h⟩ := if_some h
        refine rSC { its := [(3, .g g12)], gv := [(2, [52])] } [0, 4, 5] [9, 54] hN (by kernel_rfl) (by kernel_rfl) (cS [.rn 54 1005, .k [0, 4, 5] [9, 1005]] (by kernel_rfl) (by kernel_rfl)) ?_
        refine blockQ_normal ?_
        refine tnU ?_
        exact ⟨n, Nat.lt_succ_self n, v9, v10, (v3 ++ [v11]), h, by kernel_rfl⟩

theorem env_Env_Find_m0.ok (O : Out) (hO : GOk O) (k : Nat) (a0 : List ((List UInt8) × T_env_Var)) (a1 : List UInt8) (out : T_env_Var × Bool) (h : env_Env_Find_m0.f k a0 a1 = some out) : COk Un O Tryz.prog 146 { ar := [.loc 100000 0, .p .str a1], r := .tup [.p (.named 3) out.1, .p .bool out.2], bs := [(100000, .box [.mp 100001]), (100001, .map (.named 3) a0)], bs' := [(100000, .box [.mp 100001]), (100001, .map (.named 3) a0)] } := by
  refine cok_of_wp Tryz.func146 rfl (k := 20) rfl (Nat.le_of_ble_eq_true rfl) (namesOk_of (by kernel_rfl)) ?_
  intro B hN
  refine WpC.conv (cvK (b := ⟨[(0, .loc 100000 0), (1, .p .str a1)], [(100000, .box [.mp 100001]), (100001, .map (.named 3) a0)]⟩) [0, 1] [100000, 100001] (by kernel_rfl)) ?_
  unfold env_Env_Find_m0.f at h
  refine WpC.seq ?_
  refine rS {} [0, 1, 4] [4, 100000, 100001] hN (by kernel_rfl) (by kernel_rfl) ?_
  refine tnU ?_
  refine WpC.seq ?_
  refine rS {} [4, 6, 7] [4, 6, 100000, 100001] hN (by kernel_rfl) (by kernel_rfl) ?_
  refine tnU ?_
  refine WpC.seq ?_
  obtain ⟨v1, hv1, h⟩ := bind_some h
  refine rS { its := [(1, .c (env_Var_apart.ok O hO k (T_env_Var.mk (((mget a1 a0).getD (T_env_Var.mk [] [] 0 false)).f_Name) (((mget a1 a0).getD (T_env_Var.mk [] [] 0 false)).f_Words) (((mget a1 a0).getD (T_env_Var.mk [] [] 0 false)).f_Level) (((mget a1 a0).getD (T_env_Var.mk [] [] 0 false)).f_Hidden)) v1 hv1))] } [4, 5] [4, 100000, 100001] hN (by kernel_rfl) (by kernel_rfl) ?_
  refine tnU ?_
  refine WpC.ret ?_
  have hq := Option.some.inj h
  subst hq
  exact eR (by kernel_rfl) (by kernel_rfl)

theorem env_Env_Get_m0.ok (O : Out) (hO : GOk O) (k : Nat) (a0 : List ((List UInt8) × T_env_Var)) (a1 : List UInt8) (out : List (List UInt8)) (h : env_Env_Get_m0.f k a0 a1 = some out) : COk Un O Tryz.prog 128 { ar := [.loc 100000 0, .p .str a1], r := .p (.list .str) out, bs := [(100000, .box [.mp 100001]), (100001, .map (.named 3) a0)], bs' := [(100000, .box [.mp 100001]), (100001, .map (.named 3) a0)] } := by
  refine cok_of_wp Tryz.func128 rfl (k := 15) rfl (Nat.le_of_ble_eq_true rfl) (namesOk_of (by kernel_rfl)) ?_
  intro B hN
  refine WpC.conv (cvK (b := ⟨[(0, .loc 100000 0), (1, .p .str a1)], [(100000, .box [.mp 100001]), (100001, .map (.named 3) a0)]⟩) [0, 1] [100000, 100001] (by kernel_rfl)) ?_
  unfold env_Env_Get_m0.f at h
  refine WpC.seq ?_
  refine rS {} [0, 1] [100000, 100001] hN (by kernel_rfl) (by kernel_rfl) ?_
  refine tnU ?_
  refine WpC.seq ?_
  obtain ⟨v1, hv1, h⟩ := bind_some h
  refine rS { its := [(2, .c (COk.ren (env_Env_Find_m0.ok O hO k a0 a1 v1 hv1) (fun n => if n = 100000 then 100000 else if n = 100001 then 100001 else n) (injOn_of (by kernel_rfl))))] } [5] [5, 100000, 100001] hN (by kernel_rfl) (by kernel_rfl) ?_
  refine tnU ?_
  refine WpC.seq ?_
  refine rS {} [4] [100000, 100001] hN (by kernel_rfl) (by kernel_rfl) ?_
  refine tnU ?_
  refine WpC.ret ?_
  have hq := Option.some.inj h
  subst hq
  exact eR (by kernel_rfl) (by kernel_rfl)

theorem expand_expander_words_m0.ok (O : Out) (hO : GOk O) (k : Nat) (a0 : List ((List UInt8) × T_env_Var)) (a1 : List T_expand_Output) (a2 : List UInt8) (out : List (List UInt8)) (h : expand_expander_words_m0.f k a0 a1 a2 = some out) : COk Un O Tryz.prog 97 { ar := [.agg [.loc 100000 0, .p (.list (.named 4)) a1], .p .str a2], r := .p (.list .str) out, bs := [(100000, .box [.mp 100001]), (100001, .map (.named 3) a0)], bs' := [(100000, .box [.mp 100001]), (100001, .map (.named 3) a0)] } := by
  refine cok_of_wp Tryz.func97 rfl (k := 12) rfl (Nat.le_of_ble_eq_true rfl) (namesOk_of (by kernel_rfl)) ?_
  intro B hN
  refine WpC.conv (cvK (b := ⟨[(0, .agg [.loc 100000 0, .p (.list (.named 4)) a1]), (1, .p .str a2)], [(100000, .box [.mp 100001]), (100001, .map (.named 3) a0)]⟩) [0, 1] [100000, 100001] (by kernel_rfl)) ?_
  unfold expand_expander_words_m0.f at h
  refine WpC.seq ?_
  refine rS {} [1, 2] [2, 100000, 100001] hN (by kernel_rfl) (by kernel_rfl) ?_
  refine tnU ?_
  refine WpC.seq ?_
  refine WpC.seq ?_
  refine rS {} [1, 2, 7] [2, 100000, 100001] hN (by kernel_rfl) (by kernel_rfl) ?_
  refine tnU ?_
  refine tS (b := false) (by kernel_rfl) (fun hc => ?_) (fun hc => ?_)
  · cases hc
  · refine WpC.conv (cS [.k [1, 2] [2, 100000, 100001]] (by kernel_rfl) (by kernel_rfl)) (WpC.skip ?_)
    refine tnU ?_
    refine WpC.seq ?_
    obtain ⟨v1, hv1, h⟩ := bind_some h
    refine rS { its := [(3, .c (COk.ren (env_Env_Get_m0.ok O hO k a0 a2 v1 hv1) (fun n => if n = 100000 then 100000 else if n = 100001 then 100001 else n) (injOn_of (by kernel_rfl))))] } [4] [100000, 100001] hN (by kernel_rfl) (by kernel_rfl) ?_
    refine tnU ?_
    refine WpC.ret ?_
    have hq := Option.some.inj h
    subst hq
    exact eR (by kernel_rfl) (by kernel_rfl)

theorem stem_wild.ok (O : Out) (hO : GOk O) (k : Nat) (a0 : Int) (out : Bool) (h : stem_wild.f k a0 = some out) : COk Un O Tryz.prog 139 { ar := [.p (.int .u8) a0], r := .p .bool out } := by
  refine cok_of_wp Tryz.func139 rfl (k := 6) rfl (Nat.le_of_ble_eq_true rfl) (namesOk_pure rfl rfl rfl rfl) ?_
  intro B hN
  refine WpC.conv (cvK (b := ⟨[(0, .p (.int .u8) a0)], []⟩) [0] [] (by kernel_rfl)) ?_
  unfold stem_wild.f at h
  refine WpC.seq ?_
  refine rS {} [0] [] hN (by kernel_rfl) (by kernel_rfl) ?_
  refine tnU ?_
  refine WpC.seq ?_
  obtain ⟨v1, hv1, h⟩ := bind_some h
  refine rS { its := [(1, .c (pIndexByte.ok O hO k ([37, 38] : List UInt8) a0 v1 hv1))] } [2] [] hN (by kernel_rfl) (by kernel_rfl) ?_
  refine tnU ?_
  refine WpC.ret ?_
  have hq := Option.some.inj h
  subst hq
  exact eR (by kernel_rfl) (by kernel_rfl)

theorem stem_Wild.ok (O : Out) (hO : GOk O) (k : Nat) (a0 : List UInt8) (out : Int) (h : stem_Wild.f k a0 = some out) : COk Un O Tryz.prog 120 { ar := [.p .str a0], r := .p I6 out } := by
  refine cok_of_wp Tryz.func120 rfl (k := 15) rfl (Nat.le_of_ble_eq_true rfl) (namesOk_pure rfl rfl rfl rfl) ?_
  intro B hN
  refine WpC.conv (cvK (b := ⟨[(0, .p .str a0)], []⟩) [0] [] (by kernel_rfl)) ?_
  unfold stem_Wild.f at h
  refine WpC.seq ?_
  refine rS {} [0] [] hN (by kernel_rfl) (by kernel_rfl) ?_
  refine tnU ?_
  refine sqJ (fun st' => stem_Wild.j1 k = some out ∧ st' = ⟨[], []⟩) ?_ ?_
  · refine WpC.seq ?_
    refine rS {} [0, 5, 6] [] hN (by kernel_rfl) (by kernel_rfl) ?_
    refine tnU ?_
    refine WpC.block ?_
    obtain ⟨o4, hlo4, h⟩ := bind_some h
    have hout5 := h
    clear h
    refine WpC.loop (U := Un) (fun n st' => ∃ v2 : Int, stem_Wild.l3 k a0 n v2 = some o4 ∧ st' = ⟨[(0, .p .str a0), (5, .p I6 ((a0.length : Int) : Int)), (6, .p I6 v2)], []⟩) k ⟨0, hlo4, by kernel_rfl⟩ ?_
    clear hlo4
    rintro (_ | n) _ ⟨v2, h, rfl⟩
    · cases h
    · rw [stem_Wild.l3] at h
      refine WpC.seq ?_
      refine rS {} [0, 5, 6, 7] [] hN (by kernel_rfl) (by kernel_rfl) ?_
      refine tnU ?_
      refine WpC.seq ?_
      refine tS (b := (decide (v2 < (a0.length : Int)))) (by kernel_rfl) (fun hc6 => ?_) (fun hc6 => ?_)
      · replace h := ite_t hc6 h
        refine WpC.conv (cS [.k [0, 5, 6] []] (by kernel_rfl) (by kernel_rfl)) (WpC.skip ?_)
        refine tnU ?_
        refine WpC.seq ?_
        refine WpC.block ?_
        refine WpC.seq ?_
        refine rS {} [0, 3, 5, 6] [] hN (by kernel_rfl) (by kernel_rfl) ?_
        refine tnU ?_
        refine WpC.seq ?_
        obtain ⟨v7, hv7, h⟩ := bind_some h
        obtain ⟨v8, hv8, h⟩ := bind_some h
        refine rS { its := [(2, .u hv7), (3, .c (stem_wild.ok O hO k (v7.toNat : Int) v8 hv8))] } [0, 3, 5, 6, 12] [] hN (by kernel_rfl) (by kernel_rfl) ?_
        refine tnU ?_
        refine tS (b := v8) (by kernel_rfl) (fun hc9 => ?_) (fun hc9 => ?_)
        · replace h := ite_t hc9 h
          refine WpC.seq ?_
          refine rS {} [2] [] hN (by kernel_rfl) (by kernel_rfl) ?_
          refine tnU ?_
          refine WpC.ret ?_
          refine blockQ_ret ?_
          refine thenQ_ret ?_
          have hq := Option.some.inj h
          subst hq
          refine thenQ_ret ?_
          have h := hout5
          refine blockQ_ret ?_
          refine thenQ_ret ?_
          have hq := Option.some.inj h
          subst hq
          exact eR (by kernel_rfl) (by kernel_rfl)
        · replace h := ite_f hc9 h
          refine WpC.conv (cS [.k [0, 5, 6] []] (by kernel_rfl) (by kernel_rfl)) (WpC.skip ?_)
          refine blockQ_normal ?_
          refine tnU ?_
          refine rS {} [0, 5, 6] [] hN (by kernel_rfl) (by kernel_rfl) ?_
          refine tnU ?_
          exact ⟨n, Nat.lt_succ_self n, (IntKind.i64.wrap (v2 + 1)), h, by kernel_rfl⟩
      · replace h := ite_f hc6 h
        refine WpC.conv (cS [.k [] []] (by kernel_rfl) (by kernel_rfl)) (WpC.exit ?_)
        refine thenQ_exit ?_
        have hq := Option.some.inj h
        subst hq
        refine thenQ_exit ?_
        have h := hout5
        refine blockQ_hit ?_
        refine tnU ?_
        exact ⟨h, by kernel_rfl⟩
  · rintro _ ⟨h, rfl⟩
    unfold stem_Wild.j1 at h
    refine WpC.seq ?_
    refine rS {} [2] [] hN (by kernel_rfl) (by kernel_rfl) ?_
    refine tnU ?_
    refine WpC.ret ?_
    have hq := Option.some.inj h
    subst hq
    exact eR (by kernel_rfl) (by kernel_rfl)

theorem stringslite_HasPrefix.ok (O : Out) (hO : GOk O) (k : Nat) (a0 : List UInt8) (a1 : List UInt8) (out : Bool) (h : stringslite_HasPrefix.f k a0 a1 = some out) : COk Un O Tryz.prog 179 { ar := [.p .str a0, .p .str a1], r := .p .bool out } := by
  refine cok_of_wp Tryz.func179 rfl (k := 18) rfl (Nat.le_of_ble_eq_true rfl) (namesOk_pure rfl rfl rfl rfl) ?_
  intro B hN
  refine WpC.conv (cvK (b := ⟨[(0, .p .str a0), (1, .p .str a1)], []⟩) [0, 1] [] (by kernel_rfl)) ?_
  unfold stringslite_HasPrefix.f at h
  refine WpC.seq ?_
  refine rS {} [0, 1] [] hN (by kernel_rfl) (by kernel_rfl) ?_
  refine tnU ?_
  refine WpC.seq ?_
  rcases bool_cases (decide ((a0.length : Int) ≥ (a1.length : Int))) with hc1 | hc1
  · replace h := ite_t hc1 h
    obtain ⟨v2, hv2, h⟩ := bind_some h
    refine rS { its := [(9, .v .str hv2)], kn := [(10, .t hc1)] } [4] [] hN (by kernel_rfl) (by kernel_rfl) ?_
    refine tnU ?_
    refine WpC.ret ?_
    have hq := Option.some.inj h
    subst hq
    exact eR (by kernel_rfl) (by kernel_rfl)
  · replace h := ite_f hc1 h
    refine rS { kn := [(10, .f hc1)] } [4] [] hN (by kernel_rfl) (by kernel_rfl) ?_
    refine tnU ?_
    refine WpC.ret ?_
    have hq := Option.some.inj h
    subst hq
    exact eR (by kernel_rfl) (by kernel_rfl)

theorem stringslite_CutPrefix.ok (O : Out) (hO : GOk O) (k : Nat) (a0 : List UInt8) (a1 : List UInt8) (out : (List UInt8) × Bool) (h : stringslite_CutPrefix.f k a0 a1 = some out) : COk Un O Tryz.prog 159 { ar := [.p .str a0, .p .str a1], r := .tup [.p .str out.1, .p .bool out.2] } := by
  refine cok_of_wp Tryz.func159 rfl (k := 15) rfl (Nat.le_of_ble_eq_true rfl) (namesOk_pure rfl rfl rfl rfl) ?_
  intro B hN
  refine WpC.conv (cvK (b := ⟨[(0, .p .str a0), (1, .p .str a1)], []⟩) [0, 1] [] (by kernel_rfl)) ?_
  unfold stringslite_CutPrefix.f at h
  refine WpC.seq ?_
  refine rS {} [0, 1] [] hN (by kernel_rfl) (by kernel_rfl) ?_
  refine tnU ?_
  refine WpC.seq ?_
  refine WpC.seq ?_
  obtain ⟨v1, hv1, h⟩ := bind_some h
  refine rS { its := [(2, .c (stringslite_HasPrefix.ok O hO k a0 a1 v1 hv1))] } [0, 1, 9] [] hN (by kernel_rfl) (by kernel_rfl) ?_
  refine tnU ?_
  refine tS (b := (!v1)) (by kernel_rfl) (fun hc2 => ?_) (fun hc2 => ?_)
  · replace h := ite_t hc2 h
    refine WpC.seq ?_
    refine rS {} [4, 5] [] hN (by kernel_rfl) (by kernel_rfl) ?_
    refine tnU ?_
    refine WpC.ret ?_
    refine thenQ_ret ?_
    have hq := Option.some.inj h
    subst hq
    exact eR (by kernel_rfl) (by kernel_rfl)
  · replace h := ite_f hc2 h
    refine WpC.conv (cS [.k [0, 1] []] (by kernel_rfl) (by kernel_rfl)) (WpC.skip ?_)
    refine tnU ?_
    refine WpC.seq ?_
    obtain ⟨v3, hv3, h⟩ := bind_some h
    refine rS { its := [(3, .v .str hv3)] } [4, 5] [] hN (by kernel_rfl) (by kernel_rfl) ?_
    refine tnU ?_
    refine WpC.ret ?_
    have hq := Option.some.inj h
    subst hq
    exact eR (by kernel_rfl) (by kernel_rfl)

theorem strings_CutPrefix.ok (O : Out) (hO : GOk O) (k : Nat) (a0 : List UInt8) (a1 : List UInt8) (out : (List UInt8) × Bool) (h : strings_CutPrefix.f k a0 a1 = some out) : COk Un O Tryz.prog 140 { ar := [.p .str a0, .p .str a1], r := .tup [.p .str out.1, .p .bool out.2] } := by
  refine cok_of_wp Tryz.func140 rfl (k := 11) rfl (Nat.le_of_ble_eq_true rfl) (namesOk_pure rfl rfl rfl rfl) ?_
  intro B hN
  refine WpC.conv (cvK (b := ⟨[(0, .p .str a0), (1, .p .str a1)], []⟩) [0, 1] [] (by kernel_rfl)) ?_
  unfold strings_CutPrefix.f at h
  refine WpC.seq ?_
  refine rS {} [0, 1] [] hN (by kernel_rfl) (by kernel_rfl) ?_
  refine tnU ?_
  refine WpC.seq ?_
  obtain ⟨v1, hv1, h⟩ := bind_some h
  refine rS { its := [(2, .c (stringslite_CutPrefix.ok O hO k a0 a1 v1 hv1))] } [4, 5] [] hN (by kernel_rfl) (by kernel_rfl) ?_
  refine tnU ?_
  refine WpC.ret ?_
  have hq := Option.some.inj h
  subst hq
  exact eR (by kernel_rfl) (by kernel_rfl)

theorem stringslite_HasSuffix.ok (O : Out) (hO : GOk O) (k : Nat) (a0 : List UInt8) (a1 : List UInt8) (out : Bool) (h : stringslite_HasSuffix.f k a0 a1 = some out) : COk Un O Tryz.prog 180 { ar := [.p .str a0, .p .str a1], r := .p .bool out } := by
  refine cok_of_wp Tryz.func180 rfl (k := 21) rfl (Nat.le_of_ble_eq_true rfl) (namesOk_pure rfl rfl rfl rfl) ?_
  intro B hN
  refine WpC.conv (cvK (b := ⟨[(0, .p .str a0), (1, .p .str a1)], []⟩) [0, 1] [] (by kernel_rfl)) ?_
  unfold stringslite_HasSuffix.f at h
  refine WpC.seq ?_
  refine rS {} [0, 1] [] hN (by kernel_rfl) (by kernel_rfl) ?_
  refine tnU ?_
  refine WpC.seq ?_
  rcases bool_cases (decide ((a0.length : Int) ≥ (a1.length : Int))) with hc1 | hc1
  · replace h := ite_t hc1 h
    obtain ⟨v2, hv2, h⟩ := bind_some h
    refine rS { its := [(12, .v .str hv2)], kn := [(10, .t hc1)] } [4] [] hN (by kernel_rfl) (by kernel_rfl) ?_
    refine tnU ?_
    refine WpC.ret ?_
    have hq := Option.some.inj h
    subst hq
    exact eR (by kernel_rfl) (by kernel_rfl)
  · replace h := ite_f hc1 h
    refine rS { kn := [(10, .f hc1)] } [4] [] hN (by kernel_rfl) (by kernel_rfl) ?_
    refine tnU ?_
    refine WpC.ret ?_
    have hq := Option.some.inj h
    subst hq
    exact eR (by kernel_rfl) (by kernel_rfl)

theorem stringslite_CutSuffix.ok (O : Out) (hO : GOk O) (k : Nat) (a0 : List UInt8) (a1 : List UInt8) (out : (List UInt8) × Bool) (h : stringslite_CutSuffix.f k a0 a1 = some out) : COk Un O Tryz.prog 160 { ar := [.p .str a0, .p .str a1], r := .tup [.p .str out.1, .p .bool out.2] } := by
  refine cok_of_wp Tryz.func160 rfl (k := 18) rfl (Nat.le_of_ble_eq_true rfl) (namesOk_pure rfl rfl rfl rfl) ?_
  intro B hN
  refine WpC.conv (cvK (b := ⟨[(0, .p .str a0), (1, .p .str a1)], []⟩) [0, 1] [] (by kernel_rfl)) ?_
  unfold stringslite_CutSuffix.f at h
  refine WpC.seq ?_
  refine rS {} [0, 1] [] hN (by kernel_rfl) (by kernel_rfl) ?_
  refine tnU ?_
  refine WpC.seq ?_
  refine WpC.seq ?_
  obtain ⟨v1, hv1, h⟩ := bind_some h
  refine rS { its := [(2, .c (stringslite_HasSuffix.ok O hO k a0 a1 v1 hv1))] } [0, 1, 9] [] hN (by kernel_rfl) (by kernel_rfl) ?_
  refine tnU ?_
  refine tS (b := (!v1)) (by kernel_rfl) (fun hc2 => ?_) (fun hc2 => ?_)
  · replace h := ite_t hc2 h
    refine WpC.seq ?_
    refine rS {} [4, 5] [] hN (by kernel_rfl) (by kernel_rfl) ?_
    refine tnU ?_
    refine WpC.ret ?_
    refine thenQ_ret ?_
    have hq := Option.some.inj h
    subst hq
    exact eR (by kernel_rfl) (by kernel_rfl)
  · replace h := ite_f hc2 h
    refine WpC.conv (cS [.k [0, 1] []] (by kernel_rfl) (by kernel_rfl)) (WpC.skip ?_)
    refine tnU ?_
    refine WpC.seq ?_
    obtain ⟨v3, hv3, h⟩ := bind_some h
    refine rS { its := [(6, .v .str hv3)] } [4, 5] [] hN (by kernel_rfl) (by kernel_rfl) ?_
    refine tnU ?_
    refine WpC.ret ?_
    have hq := Option.some.inj h
    subst hq
    exact eR (by kernel_rfl) (by kernel_rfl)

theorem strings_CutSuffix.ok (O : Out) (hO : GOk O) (k : Nat) (a0 : List UInt8) (a1 : List UInt8) (out : (List UInt8) × Bool) (h : strings_CutSuffix.f k a0 a1 = some out) : COk Un O Tryz.prog 141 { ar := [.p .str a0, .p .str a1], r := .tup [.p .str out.1, .p .bool out.2] } := by
  refine cok_of_wp Tryz.func141 rfl (k := 11) rfl (Nat.le_of_ble_eq_true rfl) (namesOk_pure rfl rfl rfl rfl) ?_
  intro B hN
  refine WpC.conv (cvK (b := ⟨[(0, .p .str a0), (1, .p .str a1)], []⟩) [0, 1] [] (by kernel_rfl)) ?_
  unfold strings_CutSuffix.f at h
  refine WpC.seq ?_
  refine rS {} [0, 1] [] hN (by kernel_rfl) (by kernel_rfl) ?_
  refine tnU ?_
  refine WpC.seq ?_
  obtain ⟨v1, hv1, h⟩ := bind_some h
  refine rS { its := [(2, .c (stringslite_CutSuffix.ok O hO k a0 a1 v1 hv1))] } [4, 5] [] hN (by kernel_rfl) (by kernel_rfl) ?_
  refine tnU ?_
  refine WpC.ret ?_
  have hq := Option.some.inj h
  subst hq
  exact eR (by kernel_rfl) (by kernel_rfl)

theorem stem_Narrow.ok (O : Out) (hO : GOk O) (k : Nat) (a0 : List UInt8) (out : Bool) (h : stem_Narrow.f k a0 = some out) : COk Un O Tryz.prog 142 { ar := [.p .str a0], r := .p .bool out } := by
  refine cok_of_wp Tryz.func142 rfl (k := 11) rfl (Nat.le_of_ble_eq_true rfl) (namesOk_pure rfl rfl rfl rfl) ?_
  intro B hN
  refine WpC.conv (cvK (b := ⟨[(0, .p .str a0)], []⟩) [0] [] (by kernel_rfl)) ?_
  unfold stem_Narrow.f at h
  refine WpC.seq ?_
  refine rS {} [0] [] hN (by kernel_rfl) (by kernel_rfl) ?_
  refine tnU ?_
  refine WpC.seq ?_
  obtain ⟨v1, hv1, h⟩ := bind_some h
  rcases bool_cases (decide (v1 < 0)) with hc2 | hc2
  · replace h := ite_t hc2 h
    obtain ⟨v3, hv3, h⟩ := bind_some h
    refine rS { its := [(1, .c (pIndexByte.ok O hO k a0 46 v1 hv1)), (5, .c (pIndexByte.ok O hO k a0 47 v3 hv3))], kn := [(6, .t hc2)] } [2] [] hN (by kernel_rfl) (by kernel_rfl) ?_
    refine tnU ?_
    refine WpC.ret ?_
    have hq := Option.some.inj h
    subst hq
    exact eR (by kernel_rfl) (by kernel_rfl)
  · replace h := ite_f hc2 h
    refine rS { its := [(1, .c (pIndexByte.ok O hO k a0 46 v1 hv1))], kn := [(6, .f hc2)] } [2] [] hN (by kernel_rfl) (by kernel_rfl) ?_
    refine tnU ?_
    refine WpC.ret ?_
    have hq := Option.some.inj h
    subst hq
    exact eR (by kernel_rfl) (by kernel_rfl)

theorem stem_Match.ok (O : Out) (hO : GOk O) (k : Nat) (a0 : List UInt8) (a1 : List UInt8) (out : (List UInt8) × Bool) (h : stem_Match.f k a0 a1 = some out) : COk Un O Tryz.prog 124 { ar := [.p .str a0, .p .str a1], r := .tup [.p .str out.1, .p .bool out.2] } := by
  refine cok_of_wp Tryz.func124 rfl (k := 53) rfl (Nat.le_of_ble_eq_true rfl) (namesOk_pure rfl rfl rfl rfl) ?_
  intro B hN
  refine WpC.conv (cvK (b := ⟨[(0, .p .str a0), (1, .p .str a1)], []⟩) [0, 1] [] (by kernel_rfl)) ?_
  unfold stem_Match.f at h
  refine WpC.seq ?_
  refine rS {} [0, 1] [] hN (by kernel_rfl) (by kernel_rfl) ?_
  refine tnU ?_
  refine WpC.seq ?_
  obtain ⟨v1, hv1, h⟩ := bind_some h
  refine rS { its := [(1, .c (stem_Wild.ok O hO k a0 v1 hv1))] } [0, 1, 6] [] hN (by kernel_rfl) (by kernel_rfl) ?_
  refine tnU ?_
  refine WpC.seq ?_
  refine WpC.seq ?_
  refine rS {} [0, 1, 6, 14] [] hN (by kernel_rfl) (by kernel_rfl) ?_
  refine tnU ?_
  refine tS (b := (decide (v1 < 0))) (by kernel_rfl) (fun hc2 => ?_) (fun hc2 => ?_)
  · replace h := ite_t hc2 h
    refine WpC.seq ?_
    refine rS {} [4, 5] [] hN (by kernel_rfl) (by kernel_rfl) ?_
    refine tnU ?_
    refine WpC.ret ?_
    refine thenQ_ret ?_
    have hq := Option.some.inj h
    subst hq
    exact eR (by kernel_rfl) (by kernel_rfl)
  · replace h := ite_f hc2 h
    refine WpC.conv (cS [.k [0, 1, 6] []] (by kernel_rfl) (by kernel_rfl)) (WpC.skip ?_)
    refine tnU ?_
    refine WpC.seq ?_
    obtain ⟨v3, hv3, h⟩ := bind_some h
    obtain ⟨v4, hv4, h⟩ := bind_some h
    refine rS { its := [(3, .v .str hv3), (4, .c (strings_CutPrefix.ok O hO k a1 v3 v4 hv4))] } [0, 6, 7, 8] [] hN (by kernel_rfl) (by kernel_rfl) ?_
    refine tnU ?_
    refine WpC.seq ?_
    obtain ⟨v5, hv5, h⟩ := bind_some h
    obtain ⟨v6, hv6, h⟩ := bind_some h
    refine rS { its := [(4, .v .str hv5), (5, .c (strings_CutSuffix.ok O hO k v4.1 v5 v6 hv6))] } [0, 6, 8, 9, 10] [] hN (by kernel_rfl) (by kernel_rfl) ?_
    refine tnU ?_
    refine sqJ (fun st' => stem_Match.j7 k v6 = some out ∧ st' = ⟨[(9, .p .str v6.1)], []⟩) ?_ ?_
    · refine sqJ (fun st' => ∃ v8 : Bool, stem_Match.j10 k v6 v8 = some out ∧ st' = ⟨[(9, .p .str v6.1), (51, .p .bool v8)], []⟩) ?_ ?_
      · rcases bool_cases (!v4.2) with hc11 | hc11
        · replace h := ite_t hc11 h
          refine rS { kn := [(37, .t hc11)] } [9, 51] [] hN (by kernel_rfl) (by kernel_rfl) ?_
          refine tnU ?_
          exact ⟨true, h, by kernel_rfl⟩
        · replace h := ite_f hc11 h
          rcases bool_cases (!v6.2) with hc12 | hc12
          · replace h := ite_t hc12 h
            refine rS { kn := [(37, .f hc11), (41, .t hc12)] } [9, 51] [] hN (by kernel_rfl) (by kernel_rfl) ?_
            refine tnU ?_
            exact ⟨true, h, by kernel_rfl⟩
          · replace h := ite_f hc12 h
            obtain ⟨v13, hv13, h⟩ := bind_some h
            rcases bool_cases ((v13.toNat : Int) == 38) with hc14 | hc14
            · replace h := ite_t hc14 h
              obtain ⟨v15, hv15, h⟩ := bind_some h
              refine rS { its := [(9, .u hv13), (13, .c (stem_Narrow.ok O hO k v6.1 v15 hv15))], kn := [(37, .f hc11), (41, .f hc12), (46, .t hc14)] } [9, 51] [] hN (by kernel_rfl) (by kernel_rfl) ?_
              refine tnU ?_
              exact ⟨(!v15), h, by kernel_rfl⟩
            · replace h := ite_f hc14 h
              refine rS { its := [(9, .u hv13)], kn := [(37, .f hc11), (41, .f hc12), (46, .f hc14)] } [9, 51] [] hN (by kernel_rfl) (by kernel_rfl) ?_
              refine tnU ?_
              exact ⟨false, h, by kernel_rfl⟩
      · rintro _ ⟨v8, h, rfl⟩
        unfold stem_Match.j10 at h
        refine tS (b := v8) (by kernel_rfl) (fun hc9 => ?_) (fun hc9 => ?_)
        · replace h := ite_t hc9 h
          refine WpC.seq ?_
          refine rS {} [4, 5] [] hN (by kernel_rfl) (by kernel_rfl) ?_
          refine tnU ?_
          refine WpC.ret ?_
          refine thenQ_ret ?_
          have hq := Option.some.inj h
          subst hq
          exact eR (by kernel_rfl) (by kernel_rfl)
        · replace h := ite_f hc9 h
          refine WpC.conv (cS [.k [9] []] (by kernel_rfl) (by kernel_rfl)) (WpC.skip ?_)
          refine tnU ?_
          exact ⟨h, by kernel_rfl⟩
    · rintro _ ⟨h, rfl⟩
      unfold stem_Match.j7 at h
      refine WpC.seq ?_
      refine rS {} [4, 5] [] hN (by kernel_rfl) (by kernel_rfl) ?_
      refine tnU ?_
      refine WpC.ret ?_
      have hq := Option.some.inj h
      subst hq
      exact eR (by kernel_rfl) (by kernel_rfl)

theorem stem_Fill.ok (O : Out) (hO : GOk O) (k : Nat) (a0 : List UInt8) (a1 : List UInt8) (out : List UInt8) (h : stem_Fill.f k a0 a1 = some out) : COk Un O Tryz.prog 143 { ar := [.p .str a0, .p .str a1], r := .p .str out } := by
  refine cok_of_wp Tryz.func143 rfl (k := 28) rfl (Nat.le_of_ble_eq_true rfl) (namesOk_pure rfl rfl rfl rfl) ?_
  intro B hN
  refine WpC.conv (cvK (b := ⟨[(0, .p .str a0), (1, .p .str a1)], []⟩) [0, 1] [] (by kernel_rfl)) ?_
  unfold stem_Fill.f at h
  refine WpC.seq ?_
  refine rS {} [0, 1] [] hN (by kernel_rfl) (by kernel_rfl) ?_
  refine tnU ?_
  refine WpC.seq ?_
  refine rS {} [0, 1, 5] [] hN (by kernel_rfl) (by kernel_rfl) ?_
  refine tnU ?_
  refine sqJ (fun st' => ∃ v1 : List Int, stem_Fill.j2 k v1 = some out ∧ st' = ⟨[(5, .vec 1005 1 0 v1.length)], [(1005, .row 5 (.int .u8) v1 false)]⟩) ?_ ?_
  · refine WpC.seq ?_
    refine rS {} [0, 1, 5, 8, 9] [] hN (by kernel_rfl) (by kernel_rfl) ?_
    refine tnU ?_
    refine WpC.block ?_
    obtain ⟨o7, hlo7, h⟩ := bind_some h
    have hout8 := h
    clear h
    refine WpC.conv (cS [.th 5 1005 5 (.int .u8), .k [0, 1, 5, 8, 9] [1005]] (by kernel_rfl) (by kernel_rfl)) ?_
    refine WpC.loop (U := Un) (fun n st' => ∃ v3 : List Int, ∃ v4 : Int, stem_Fill.l5 k a0 a1 n v3 v4 = some o7 ∧ st' = ⟨[(0, .p .str a0), (1, .p .str a1), (5, .vec 1005 1 0 v3.length), (8, .p I6 ((a0.length : Int) : Int)), (9, .p I6 v4)], [(1005, .row 5 (.int .u8) v3 false)]⟩) k ⟨[], 0, hlo7, by kernel_rfl⟩ ?_
    clear hlo7
    rintro (_ | n) _ ⟨v3, v4, h, rfl⟩
    · cases h
    · rw [stem_Fill.l5] at h
      refine WpC.seq ?_
      refine rS {} [0, 1, 5, 8, 9, 10] [1005] hN (by kernel_rfl) (by kernel_rfl) ?_
      refine tnU ?_
      refine WpC.seq ?_
      refine tS (b := (decide (v4 < (a0.length : Int)))) (by kernel_rfl) (fun hc9 => ?_) (fun hc9 => ?_)
      · replace h := ite_t hc9 h
        refine WpC.conv (cS [.k [0, 1, 5, 8, 9] [1005]] (by kernel_rfl) (by kernel_rfl)) (WpC.skip ?_)
        refine tnU ?_
        refine sqJ (fun st' => ∃ v10 : List Int, stem_Fill.j11 k (stem_Fill.l5 k a0 a1 n) a0 a1 v4 v10 = some o7 ∧ st' = ⟨[(0, .p .str a0), (1, .p .str a1), (5, .vec 1005 1 0 v10.length), (8, .p I6 ((a0.length : Int) : Int)), (9, .p I6 v4)], [(1005, .row 5 (.int .u8) v10 false)]⟩) ?_ ?_
        · refine WpC.block ?_
          refine WpC.seq ?_
          refine rS {} [0, 1, 5, 6, 8, 9] [1005] hN (by kernel_rfl) (by kernel_rfl) ?_
          refine tnU ?_
          refine WpC.seq ?_
          refine WpC.seq ?_
          obtain ⟨v12, hv12, h⟩ := bind_some h
          obtain ⟨v13, hv13, h⟩ := bind_some h
          refine rS { its := [(2, .u hv12), (3, .c (stem_wild.ok O hO k (v12.toNat : Int) v13 hv13))] } [0, 1, 5, 6, 8, 9, 15] [1005] hN (by kernel_rfl) (by kernel_rfl) ?_
          refine tnU ?_
          refine tS (b := v13) (by kernel_rfl) (fun hc14 => ?_) (fun hc14 => ?_)
          · replace h := ite_t hc14 h
            refine WpC.seq ?_
            obtain ⟨g15, h⟩ := if_some h
            refine rS { its := [(2, .e 2 (sok_appendS (U := Un) (rs := [(16, .vec 1005 1 0 v3.length), (17, .p .str a1)]) (xs := v3) (s := a1) (fx := false) rfl rfl rfl row_102 z8_5 Tryz.underlying9 o0 o1 g15))] } [0, 1, 5, 8, 9] [18] hN (by kernel_rfl) (by kernel_rfl) ?_
            refine tnU ?_
            refine WpC.conv (cS [.rn 18 1005, .k [0, 1, 5, 8, 9] [1005]] (by kernel_rfl) (by kernel_rfl)) (WpC.exit ?_)
            refine thenQ_exit ?_
            refine blockQ_hit ?_
            refine tnU ?_
            exact ⟨(v3 ++ numsOf a1), h, by kernel_rfl⟩
          · replace h := ite_f hc14 h
            refine WpC.conv (cS [.k [0, 1, 5, 6, 8, 9] [1005]] (by kernel_rfl) (by kernel_rfl)) (WpC.skip ?_)
            refine tnU ?_
            obtain ⟨v16, hv16, h⟩ := bind_some h
            obtain ⟨g17, h⟩ := if_some h
            refine rSC { its := [(3, .u hv16), (5, .g g17)] } [0, 1, 5, 8, 9] [24] hN (by kernel_rfl) (by kernel_rfl) (cS [.rn 24 1005, .k [0, 1, 5, 8, 9] [1005]] (by kernel_rfl) (by kernel_rfl)) ?_
            refine blockQ_normal ?_
            refine tnU ?_
            exact ⟨(v3 ++ [(v16.toNat : Int)]), h, by kernel_rfl⟩
        · rintro _ ⟨v10, h, rfl⟩
          unfold stem_Fill.j11 at h
          refine rS {} [0, 1, 5, 8, 9] [1005] hN (by kernel_rfl) (by kernel_rfl) ?_
          refine tnU ?_
          exact ⟨n, Nat.lt_succ_self n, v10, (IntKind.i64.wrap (v4 + 1)), h, by kernel_rfl⟩
      · replace h := ite_f hc9 h
        refine WpC.conv (cS [.k [5] [1005]] (by kernel_rfl) (by kernel_rfl)) (WpC.exit ?_)
        refine thenQ_exit ?_
        have hq := Option.some.inj h
        subst hq
        refine thenQ_exit ?_
        have h := hout8
        refine blockQ_hit ?_
        refine tnU ?_
        exact ⟨v3, h, by kernel_rfl⟩
  · rintro _ ⟨v1, h, rfl⟩
    unfold stem_Fill.j2 at h
    refine WpC.seq ?_
    refine rS {} [4] [] hN (by kernel_rfl) (by kernel_rfl) ?_
    refine tnU ?_
    refine WpC.ret ?_
    have hq := Option.some.inj h
    subst hq
    exact eR (by kernel_rfl) (by kernel_rfl)

end Go.Proofs.YtldepagjdbcmgaaGreatDoor
