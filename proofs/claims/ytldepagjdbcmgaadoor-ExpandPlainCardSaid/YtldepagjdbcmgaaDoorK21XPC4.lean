/- A part of the proof of a given law: XPC4. Own work, printed in part by a program of mine. -/
import Derived.Test.YtldepagjdbcmgaaDoorK21XPC3
namespace Go.Proofs.YtldepagjdbcmgaaDoor
open Go Go.AM
set_option linter.unusedVariables false
set_option linter.unusedSimpArgs false
set_option maxRecDepth 100000
theorem millwrightlaw17_Vars.ok (O : Out) (hO : GOk O) (k : Nat) (a0 : List T_env_Var) (out : Bool × (List ((List UInt8) × T_env_Var)) × Bool × (List T_env_Var) × Bool) (h : millwrightlaw17_Vars.f k a0 = some out) : COk Un O Tryd.prog 5 { ar := [.p (.list (.named 3)) a0], r := .tup [.opt out.1 60500, .opt out.2.2.1 60502, .p .bool out.2.2.2.2], bs' := [(60500, .opt out.1 (.box [.mp 60501])), (60501, .opt out.1 (.map (.named 3) out.2.1)), (60502, .opt out.2.2.1 (.box [.p (.list (.named 3)) out.2.2.2.1]))], nn := [60500, 60501, 60502] } := by
  refine cok_of_wp Tryd.func5 rfl (k := 49) rfl (Nat.le_of_ble_eq_true rfl) (namesOk_of (by kernel_rfl)) ?_
  intro B hN
  refine WpC.conv (cvK (b := ⟨[(0, .p (.list (.named 3)) a0)], []⟩) [0] [] (by kernel_rfl)) ?_
  unfold millwrightlaw17_Vars.f at h
  refine WpC.seq ?_
  refine rS {} [0] [] hN (by kernel_rfl) (by kernel_rfl) ?_
  refine tnU ?_
  refine WpC.seq ?_
  obtain ⟨v1, hv1, h⟩ := bind_some h
  refine rS { its := [(0, .c (COk.ren (env_New.ok O hO k v1 hv1) (fun n => if n = 60500 then 10001 else if n = 60501 then 10002 else n) (injOn_of (by kernel_rfl))))] } [0, 5, 6] [14, 10001, 10002] hN (by kernel_rfl) (by kernel_rfl) ?_
  refine tnU ?_
  refine WpC.seq ?_
  refine rSC {} [0, 5, 6, 7] [14, 15, 10001, 10002] hN (by kernel_rfl) (by kernel_rfl) (cS [.k [0, 5, 6, 7] [14, 15, 10001, 10002], .x (Conv.cast (U := Un) (st := ⟨[(0, .p (.list (.named 3)) a0), (5, .loc 10001 0), (6, .loc 14 0), (7, .vec 15 5 0 (([] : List T_millwrightlaw14_Act).length))], [(14, .box [.p (.list (.named 3)) ([] : List T_env_Var)]), (15, .row 46 (.named 5) ([] : List T_millwrightlaw14_Act) true), (10001, .box [.mp 10002]), (10002, .map (.named 3) v1)]⟩) (st' := ⟨[(0, .p (.list (.named 3)) a0), (5, .loc 10001 0), (6, .loc 14 0), (7, .vec 15 5 0 0)], [(14, .box [.p (.list (.named 3)) ([] : List T_env_Var)]), (15, .row 46 (.named 5) ([] : List T_millwrightlaw14_Act) true), (10001, .box [.mp 10002]), (10002, .map (.named 3) v1)]⟩) (by simp only [upd_length, List.length_nil, List.length_replicate]))] (by kernel_rfl) (by kernel_rfl)) ?_
  refine tnU ?_
  refine sqJ (fun st' => ∃ v2 : List T_millwrightlaw14_Act, millwrightlaw17_Vars.j24 k a0 v1 v2 = some out ∧ st' = ⟨[(0, .p (.list (.named 3)) a0), (5, .loc 10001 0), (6, .loc 14 0), (7, .vec 1007 5 0 v2.length)], [(14, .box [.p (.list (.named 3)) ([] : List T_env_Var)]), (1007, .row 46 (.named 5) v2 false), (10001, .box [.mp 10002]), (10002, .map (.named 3) v1)]⟩) ?_ ?_
  · refine WpC.seq ?_
    refine rS {} [0, 5, 6, 7, 16, 17, 18] [14, 15, 10001, 10002] hN (by kernel_rfl) (by kernel_rfl) ?_
    refine tnU ?_
    refine WpC.block ?_
    obtain ⟨o29, hlo29, h⟩ := bind_some h
    have hout30 := h
    clear h
    refine WpC.conv (cS [.lo 15, .k [0, 5, 6, 7, 16, 17, 18] [14, 15, 10001, 10002], .rn 15 1007, .k [0, 5, 6, 7, 16, 17, 18] [14, 1007, 10001, 10002]] (by kernel_rfl) (by kernel_rfl)) ?_
    refine WpC.loop (U := Un) (fun n st' => ∃ v25 : List T_millwrightlaw14_Act, ∃ v26 : Int, millwrightlaw17_Vars.l27 k a0 v1 n v25 v26 = some o29 ∧ st' = ⟨[(0, .p (.list (.named 3)) a0), (5, .loc 10001 0), (6, .loc 14 0), (7, .vec 1007 5 0 v25.length), (16, .p (.list (.named 3)) a0), (17, .p I6 ((a0.length : Int) : Int)), (18, .p I6 v26)], [(14, .box [.p (.list (.named 3)) ([] : List T_env_Var)]), (1007, .row 46 (.named 5) v25 false), (10001, .box [.mp 10002]), (10002, .map (.named 3) v1)]⟩) k ⟨([] : List T_millwrightlaw14_Act), 0, hlo29, by kernel_rfl⟩ ?_
    clear hlo29
    rintro (_ | n) _ ⟨v25, v26, h, rfl⟩
    · cases h
    · rw [millwrightlaw17_Vars.l27] at h
      refine WpC.seq ?_
      refine rS {} [0, 5, 6, 7, 16, 17, 18, 19] [14, 1007, 10001, 10002] hN (by kernel_rfl) (by kernel_rfl) ?_
      refine tnU ?_
      refine WpC.seq ?_
      refine tS (b := (decide (v26 < (a0.length : Int)))) (by kernel_rfl) (fun hc31 => ?_) (fun hc31 => ?_)
      · replace h := ite_t hc31 h
        refine WpC.conv (cS [.k [0, 5, 6, 7, 16, 17, 18] [14, 1007, 10001, 10002]] (by kernel_rfl) (by kernel_rfl)) (WpC.skip ?_)
        refine tnU ?_
        refine WpC.seq ?_
        refine WpC.block ?_
        refine WpC.seq ?_
        obtain ⟨v32, hv32, h⟩ := bind_some h
        refine rS { its := [(0, .v (.named 3) hv32)] } [0, 5, 6, 7, 9, 16, 17, 18] [9, 14, 1007, 10001, 10002] hN (by kernel_rfl) (by kernel_rfl) ?_
        refine tnU ?_
        obtain ⟨g33, h⟩ := if_some h
        refine rS { its := [(4, .e 4 (sok_appendW' (U := Un) (t := .named 5) (rs := [(22, .vec 1007 5 0 v25.length), (25, .vec 25 5 0 ([(T_millwrightlaw14_Act.mk 0 (T_env_Var.mk v32.f_Name v32.f_Words v32.f_Level v32.f_Hidden))].length))]) (vw := [(25, .row 46 (.named 5) [(T_millwrightlaw14_Act.mk 0 (T_env_Var.mk v32.f_Name v32.f_Words v32.f_Level v32.f_Hidden))] true)]) (xs := v25) (ys := [(T_millwrightlaw14_Act.mk 0 (T_env_Var.mk v32.f_Name v32.f_Words v32.f_Level v32.f_Hidden))]) (fx := false) rfl rfl rfl row_44 (by decide) o0 o1 (.whole (.head _)) (by simp) g33))] } [0, 5, 6, 7, 16, 17, 18] [14, 26, 10001, 10002] hN (by kernel_rfl) (by kernel_rfl) ?_
        refine blockQ_normal ?_
        refine tnU ?_
        refine rSC {} [0, 5, 6, 7, 16, 17, 18] [14, 26, 10001, 10002] hN (by kernel_rfl) (by kernel_rfl) (cS [.rn 26 1007, .k [0, 5, 6, 7, 16, 17, 18] [14, 1007, 10001, 10002]] (by kernel_rfl) (by kernel_rfl)) ?_
        refine tnU ?_
        exact ⟨n, Nat.lt_succ_self n, (v25 ++ [(T_millwrightlaw14_Act.mk 0 (T_env_Var.mk v32.f_Name v32.f_Words v32.f_Level v32.f_Hidden))]), (IntKind.i64.wrap (v26 + 1)), h, by kernel_rfl⟩
      · replace h := ite_f hc31 h
        refine WpC.conv (cS [.k [0, 5, 6, 7] [14, 1007, 10001, 10002]] (by kernel_rfl) (by kernel_rfl)) (WpC.exit ?_)
        refine thenQ_exit ?_
        have hq := Option.some.inj h
        subst hq
        refine thenQ_exit ?_
        have h := hout30
        refine blockQ_hit ?_
        refine tnU ?_
        exact ⟨v25, h, by kernel_rfl⟩
  · rintro _ ⟨v2, h, rfl⟩
    unfold millwrightlaw17_Vars.j24 at h
    refine sqJ (fun st' => millwrightlaw17_Vars.j19 k a0 v1 = some out ∧ st' = ⟨[(0, .p (.list (.named 3)) a0), (5, .loc 10001 0), (6, .loc 14 0)], [(14, .box [.p (.list (.named 3)) ([] : List T_env_Var)]), (10001, .box [.mp 10002]), (10002, .map (.named 3) v1)]⟩) ?_ ?_
    · refine sqJ (fun st' => ∃ v20 : Bool, millwrightlaw17_Vars.j22 k a0 v1 v20 = some out ∧ st' = ⟨[(0, .p (.list (.named 3)) a0), (5, .loc 10001 0), (6, .loc 14 0), (33, .p .bool v20)], [(14, .box [.p (.list (.named 3)) ([] : List T_env_Var)]), (10001, .box [.mp 10002]), (10002, .map (.named 3) v1)]⟩) ?_ ?_
      · obtain ⟨v23, hv23, h⟩ := bind_some h
        refine rS { its := [(4, .c (millwrightlaw14_Long.ok O hO k v2 30 v23 hv23))] } [0, 5, 6, 33] [14, 10001, 10002] hN (by kernel_rfl) (by kernel_rfl) ?_
        refine tnU ?_
        exact ⟨v23, h, by kernel_rfl⟩
      · rintro _ ⟨v20, h, rfl⟩
        unfold millwrightlaw17_Vars.j22 at h
        refine tS (b := v20) (by kernel_rfl) (fun hc21 => ?_) (fun hc21 => ?_)
        · replace h := ite_t hc21 h
          refine WpC.seq ?_
          refine rS {} [2, 3, 4] [] hN (by kernel_rfl) (by kernel_rfl) ?_
          refine tnU ?_
          refine WpC.conv (cS [.oN 60501 (.map (.named 3) ([] : List ((List UInt8) × T_env_Var))), .k [2, 3, 4] [60501], .oN 60500 (.box [.mp 60501]), .k [2, 3, 4] [60500, 60501], .oZ 2 60500, .k [2, 3, 4] [60500, 60501], .oN 60502 (.box [.p (.list (.named 3)) ([] : List T_env_Var)]), .k [2, 3, 4] [60500, 60501, 60502], .oZ 3 60502, .k [2, 3, 4] [60500, 60501, 60502]] (by kernel_rfl) (by kernel_rfl)) (WpC.ret ?_)
          refine thenQ_ret ?_
          have hq := Option.some.inj h
          subst hq
          exact eR (by kernel_rfl) (by kernel_rfl)
        · replace h := ite_f hc21 h
          refine WpC.conv (cS [.k [0, 5, 6] [14, 10001, 10002]] (by kernel_rfl) (by kernel_rfl)) (WpC.skip ?_)
          refine tnU ?_
          exact ⟨h, by kernel_rfl⟩
    · rintro _ ⟨h, rfl⟩
      unfold millwrightlaw17_Vars.j19 at h
      refine sqJ (fun st' => ∃ v3 : List ((List UInt8) × T_env_Var), ∃ v4 : List T_env_Var, millwrightlaw17_Vars.j5 k v3 v4 = some out ∧ st' = ⟨[(5, .loc 10001 0), (6, .loc 14 0)], [(14, .box [.p (.list (.named 3)) v4]), (10001, .box [.mp 10002]), (10002, .map (.named 3) v3)]⟩) ?_ ?_
      · refine WpC.seq ?_
        refine rS {} [5, 6, 34, 35, 36] [14, 10001, 10002] hN (by kernel_rfl) (by kernel_rfl) ?_
        refine tnU ?_
        refine WpC.block ?_
        obtain ⟨o12, hlo12, h⟩ := bind_some h
        have hout13 := h
        clear h
        refine WpC.loop (U := Un) (fun n st' => ∃ v6 : List ((List UInt8) × T_env_Var), ∃ v7 : List T_env_Var, ∃ v8 : Int, millwrightlaw17_Vars.l9 k a0 n v6 v7 v8 = some o12 ∧ st' = ⟨[(5, .loc 10001 0), (6, .loc 14 0), (34, .p (.list (.named 3)) a0), (35, .p I6 ((a0.length : Int) : Int)), (36, .p I6 v8)], [(14, .box [.p (.list (.named 3)) v7]), (10001, .box [.mp 10002]), (10002, .map (.named 3) v6)]⟩) k ⟨v1, [], 0, hlo12, by kernel_rfl⟩ ?_
        clear hlo12
        rintro (_ | n) _ ⟨v6, v7, v8, h, rfl⟩
        · cases h
        · rw [millwrightlaw17_Vars.l9] at h
          refine WpC.seq ?_
          refine rS {} [5, 6, 34, 35, 36, 37] [14, 10001, 10002] hN (by kernel_rfl) (by kernel_rfl) ?_
          refine tnU ?_
          refine WpC.seq ?_
          refine tS (b := (decide (v8 < (a0.length : Int)))) (by kernel_rfl) (fun hc14 => ?_) (fun hc14 => ?_)
          · replace h := ite_t hc14 h
            refine WpC.conv (cS [.k [5, 6, 34, 35, 36] [14, 10001, 10002]] (by kernel_rfl) (by kernel_rfl)) (WpC.skip ?_)
            refine tnU ?_
            refine WpC.seq ?_
            refine WpC.block ?_
            refine WpC.seq ?_
            obtain ⟨v15, hv15, h⟩ := bind_some h
            refine rS { its := [(0, .v (.named 3) hv15)] } [5, 6, 11, 34, 35, 36] [11, 14, 10001, 10002] hN (by kernel_rfl) (by kernel_rfl) ?_
            refine tnU ?_
            refine WpC.seq ?_
            obtain ⟨v16, hv16, h⟩ := bind_some h
            refine rS { its := [(2, .c (COk.ren (env_Env_Set_m0.ok O hO k v6 (T_env_Var.mk v15.f_Name v15.f_Words v15.f_Level v15.f_Hidden) v16 hv16) (fun n => if n = 100000 then 10001 else if n = 100001 then 10002 else n) (injOn_of (by kernel_rfl))))] } [5, 6, 11, 34, 35, 36] [11, 14, 10001, 10002] hN (by kernel_rfl) (by kernel_rfl) ?_
            refine tnU ?_
            obtain ⟨v17, hv17, h⟩ := bind_some h
            refine rS { its := [(2, .c (COk.ren (millwrightref14_Env_Set_m0.ok O hO k v7 (T_env_Var.mk v15.f_Name v15.f_Words v15.f_Level v15.f_Hidden) v17 hv17) (fun n => if n = 100000 then 14 else n) (injOn_of (by kernel_rfl))))] } [5, 6, 34, 35, 36] [14, 10001, 10002] hN (by kernel_rfl) (by kernel_rfl) ?_
            refine blockQ_normal ?_
            refine tnU ?_
            refine rS {} [5, 6, 34, 35, 36] [14, 10001, 10002] hN (by kernel_rfl) (by kernel_rfl) ?_
            refine tnU ?_
            exact ⟨n, Nat.lt_succ_self n, v16.2, v17.2, (IntKind.i64.wrap (v8 + 1)), h, by kernel_rfl⟩
          · replace h := ite_f hc14 h
            refine WpC.conv (cS [.k [5, 6] [14, 10001, 10002]] (by kernel_rfl) (by kernel_rfl)) (WpC.exit ?_)
            refine thenQ_exit ?_
            have hq := Option.some.inj h
            subst hq
            refine thenQ_exit ?_
            have h := hout13
            refine blockQ_hit ?_
            refine tnU ?_
            exact ⟨v6, v7, h, by kernel_rfl⟩
      · rintro _ ⟨v3, v4, h, rfl⟩
        unfold millwrightlaw17_Vars.j5 at h
        refine WpC.seq ?_
        refine rS {} [2, 3, 4] [14, 10001, 10002] hN (by kernel_rfl) (by kernel_rfl) ?_
        refine tnU ?_
        refine WpC.conv (cS [.rn 10002 60501, .k [2, 3, 4] [14, 10001, 60501], .rn 10001 60500, .k [2, 3, 4] [14, 60500, 60501], .oB 60500, .k [2, 3, 4] [14, 60500, 60501], .oB 60501, .k [2, 3, 4] [14, 60500, 60501], .oL 2, .k [2, 3, 4] [14, 60500, 60501], .rn 14 60502, .k [2, 3, 4] [60500, 60501, 60502], .oB 60502, .k [2, 3, 4] [60500, 60501, 60502], .oL 3, .k [2, 3, 4] [60500, 60501, 60502]] (by kernel_rfl) (by kernel_rfl)) (WpC.ret ?_)
        have hq := Option.some.inj h
        subst hq
        exact eR (by kernel_rfl) (by kernel_rfl)

theorem millwrightref11_Blank.ok (O : Out) (hO : GOk O) (k : Nat) (a0 : Int) (out : Bool) (h : millwrightref11_Blank.f k a0 = some out) : COk Un O Tryd.prog 14 { ar := [.p (.int .u8) a0], r := .p .bool out } := by
  refine cok_of_wp Tryd.func14 rfl (k := 13) rfl (Nat.le_of_ble_eq_true rfl) (namesOk_pure rfl rfl rfl rfl) ?_
  intro B hN
  refine WpC.conv (cvK (b := ⟨[(0, .p (.int .u8) a0)], []⟩) [0] [] (by kernel_rfl)) ?_
  unfold millwrightref11_Blank.f at h
  refine WpC.seq ?_
  refine rS {} [0] [] hN (by kernel_rfl) (by kernel_rfl) ?_
  refine tnU ?_
  refine WpC.seq ?_
  rcases bool_cases (a0 == 32) with hc1 | hc1
  · replace h := ite_t hc1 h
    refine rS { kn := [(5, .t hc1)] } [2] [] hN (by kernel_rfl) (by kernel_rfl) ?_
    refine tnU ?_
    refine WpC.ret ?_
    have hq := Option.some.inj h
    subst hq
    exact eR (by kernel_rfl) (by kernel_rfl)
  · replace h := ite_f hc1 h
    rcases bool_cases (a0 == 9) with hc2 | hc2
    · replace h := ite_t hc2 h
      refine rS { kn := [(5, .f hc1), (9, .t hc2)] } [2] [] hN (by kernel_rfl) (by kernel_rfl) ?_
      refine tnU ?_
      refine WpC.ret ?_
      have hq := Option.some.inj h
      subst hq
      exact eR (by kernel_rfl) (by kernel_rfl)
    · replace h := ite_f hc2 h
      refine rS { kn := [(5, .f hc1), (9, .f hc2)] } [2] [] hN (by kernel_rfl) (by kernel_rfl) ?_
      refine tnU ?_
      refine WpC.ret ?_
      have hq := Option.some.inj h
      subst hq
      exact eR (by kernel_rfl) (by kernel_rfl)

theorem millwrightref11_Fields.ok (O : Out) (hO : GOk O) (k : Nat) (a0 : List UInt8) (out : List (List UInt8)) (h : millwrightref11_Fields.f k a0 = some out) : COk Un O Tryd.prog 6 { ar := [.p .str a0], r := .p (.list .str) out } := by
  refine cok_of_wp Tryd.func6 rfl (k := 39) rfl (Nat.le_of_ble_eq_true rfl) (namesOk_pure rfl rfl rfl rfl) ?_
  intro B hN
  refine WpC.conv (cvK (b := ⟨[(0, .p .str a0)], []⟩) [0] [] (by kernel_rfl)) ?_
  unfold millwrightref11_Fields.f at h
  refine WpC.seq ?_
  refine rS {} [0] [] hN (by kernel_rfl) (by kernel_rfl) ?_
  refine tnU ?_
  refine WpC.seq ?_
  refine rSC {} [0, 3] [6] hN (by kernel_rfl) (by kernel_rfl) (cS [.k [0, 3] [6], .x (Conv.cast (U := Un) (st := ⟨[(0, .p .str a0), (3, .vec 6 1 0 (([] : List (List UInt8)).length))], [(6, .row 9 .str ([] : List (List UInt8)) true)]⟩) (st' := ⟨[(0, .p .str a0), (3, .vec 6 1 0 0)], [(6, .row 9 .str ([] : List (List UInt8)) true)]⟩) (by simp only [upd_length, List.length_nil, List.length_replicate]))] (by kernel_rfl) (by kernel_rfl)) ?_
  refine tnU ?_
  refine WpC.seq ?_
  refine rS {} [0, 3, 4] [6] hN (by kernel_rfl) (by kernel_rfl) ?_
  refine tnU ?_
  refine sqJ (fun st' => ∃ v1 : List (List UInt8), millwrightref11_Fields.j2 k v1 = some out ∧ st' = ⟨[(3, .vec 1003 1 0 v1.length)], [(1003, .row 9 .str v1 false)]⟩) ?_ ?_
  · refine WpC.seq ?_
    refine rS {} [0, 3, 4, 5] [6] hN (by kernel_rfl) (by kernel_rfl) ?_
    refine tnU ?_
    refine WpC.block ?_
    obtain ⟨o8, hlo8, h⟩ := bind_some h
    have hout9 := h
    clear h
    refine WpC.conv (cS [.lo 6, .k [0, 3, 4, 5] [6], .rn 6 1003, .k [0, 3, 4, 5] [1003]] (by kernel_rfl) (by kernel_rfl)) ?_
    refine WpC.loop (U := Un) (fun n st' => ∃ v3 : List (List UInt8), ∃ v4 : List UInt8, ∃ v5 : Int, millwrightref11_Fields.l6 k a0 n v3 v4 v5 = some o8 ∧ st' = ⟨[(0, .p .str a0), (3, .vec 1003 1 0 v3.length), (4, .p .str v4), (5, .p I6 v5)], [(1003, .row 9 .str v3 false)]⟩) k ⟨([] : List (List UInt8)), ([] : List UInt8), 0, hlo8, by kernel_rfl⟩ ?_
    clear hlo8
    rintro (_ | n) _ ⟨v3, v4, v5, h, rfl⟩
    · cases h
    · rw [millwrightref11_Fields.l6] at h
      refine WpC.seq ?_
      refine WpC.seq ?_
      refine rS {} [0, 3, 4, 5, 10] [1003] hN (by kernel_rfl) (by kernel_rfl) ?_
      refine tnU ?_
      refine tS (b := (decide (v5 ≤ (a0.length : Int)))) (by kernel_rfl) (fun hc10 => ?_) (fun hc10 => ?_)
      · replace h := ite_t hc10 h
        refine WpC.conv (cS [.k [0, 3, 4, 5] [1003]] (by kernel_rfl) (by kernel_rfl)) (WpC.skip ?_)
        refine tnU ?_
        refine sqJ (fun st' => ∃ v11 : List (List UInt8), ∃ v12 : List UInt8, millwrightref11_Fields.j13 k (millwrightref11_Fields.l6 k a0 n) a0 v5 v11 v12 = some o8 ∧ st' = ⟨[(0, .p .str a0), (3, .vec 1003 1 0 v11.length), (4, .p .str v12), (5, .p I6 v5)], [(1003, .row 9 .str v11 false)]⟩) ?_ ?_
        · refine WpC.block ?_
          refine sqJ (fun st' => millwrightref11_Fields.j18 k (millwrightref11_Fields.l6 k a0 n) a0 v3 v4 v5 = some o8 ∧ st' = ⟨[(0, .p .str a0), (3, .vec 1003 1 0 v3.length), (4, .p .str v4), (5, .p I6 v5)], [(1003, .row 9 .str v3 false)]⟩) ?_ ?_
          · refine sqJ (fun st' => ∃ v19 : Bool, millwrightref11_Fields.j23 k (millwrightref11_Fields.l6 k a0 n) a0 v3 v4 v5 v19 = some o8 ∧ st' = ⟨[(0, .p .str a0), (3, .vec 1003 1 0 v3.length), (4, .p .str v4), (5, .p I6 v5), (23, .p .bool v19)], [(1003, .row 9 .str v3 false)]⟩) ?_ ?_
            · rcases bool_cases (decide (v5 < (a0.length : Int))) with hc24 | hc24
              · replace h := ite_t hc24 h
                obtain ⟨v25, hv25, h⟩ := bind_some h
                obtain ⟨v26, hv26, h⟩ := bind_some h
                refine rS { its := [(7, .u hv25), (8, .c (millwrightref11_Blank.ok O hO k (v25.toNat : Int) v26 hv26))], kn := [(17, .t hc24)] } [0, 3, 4, 5, 23] [1003] hN (by kernel_rfl) (by kernel_rfl) ?_
                refine tnU ?_
                exact ⟨(!v26), h, by kernel_rfl⟩
              · replace h := ite_f hc24 h
                refine rS { kn := [(17, .f hc24)] } [0, 3, 4, 5, 23] [1003] hN (by kernel_rfl) (by kernel_rfl) ?_
                refine tnU ?_
                exact ⟨false, h, by kernel_rfl⟩
            · rintro _ ⟨v19, h, rfl⟩
              unfold millwrightref11_Fields.j23 at h
              refine tS (b := v19) (by kernel_rfl) (fun hc20 => ?_) (fun hc20 => ?_)
              · replace h := ite_t hc20 h
                refine WpC.seq ?_
                obtain ⟨v21, hv21, h⟩ := bind_some h
                obtain ⟨g22, h⟩ := if_some h
                refine rS { its := [(5, .v .str hv21), (6, .g g22)] } [0, 3, 4, 5] [1003] hN (by kernel_rfl) (by kernel_rfl) ?_
                refine tnU ?_
                refine WpC.exit ?_
                refine thenQ_exit ?_
                refine blockQ_hit ?_
                refine tnU ?_
                exact ⟨v3, (v4 ++ v21), h, by kernel_rfl⟩
              · replace h := ite_f hc20 h
                refine WpC.conv (cS [.k [0, 3, 4, 5] [1003]] (by kernel_rfl) (by kernel_rfl)) (WpC.skip ?_)
                refine tnU ?_
                exact ⟨h, by kernel_rfl⟩
          · rintro _ ⟨h, rfl⟩
            unfold millwrightref11_Fields.j18 at h
            refine sqJ (fun st' => ∃ v14 : List (List UInt8), millwrightref11_Fields.j15 k (millwrightref11_Fields.l6 k a0 n) a0 v5 v14 = some o8 ∧ st' = ⟨[(0, .p .str a0), (3, .vec 1003 1 0 v14.length), (5, .p I6 v5)], [(1003, .row 9 .str v14 false)]⟩) ?_ ?_
            · refine WpC.seq ?_
              refine rS {} [0, 3, 4, 5, 33] [1003] hN (by kernel_rfl) (by kernel_rfl) ?_
              refine tnU ?_
              refine tS (b := (decide ((v4.length : Int) > 0))) (by kernel_rfl) (fun hc16 => ?_) (fun hc16 => ?_)
              · replace h := ite_t hc16 h
                obtain ⟨g17, h⟩ := if_some h
                refine rSC { its := [(3, .g g17)] } [0, 3, 5] [37] hN (by kernel_rfl) (by kernel_rfl) (cS [.rn 37 1003, .k [0, 3, 5] [1003]] (by kernel_rfl) (by kernel_rfl)) ?_
                refine tnU ?_
                exact ⟨(v3 ++ [v4]), h, by kernel_rfl⟩
              · replace h := ite_f hc16 h
                refine WpC.conv (cS [.k [0, 3, 5] [1003]] (by kernel_rfl) (by kernel_rfl)) (WpC.skip ?_)
                refine tnU ?_
                exact ⟨v3, h, by kernel_rfl⟩
            · rintro _ ⟨v14, h, rfl⟩
              unfold millwrightref11_Fields.j15 at h
              refine rS {} [0, 3, 4, 5] [1003] hN (by kernel_rfl) (by kernel_rfl) ?_
              refine blockQ_normal ?_
              refine tnU ?_
              exact ⟨v14, ([] : List UInt8), h, by kernel_rfl⟩
        · rintro _ ⟨v11, v12, h, rfl⟩
          unfold millwrightref11_Fields.j13 at h
          refine rS {} [0, 3, 4, 5] [1003] hN (by kernel_rfl) (by kernel_rfl) ?_
          refine tnU ?_
          exact ⟨n, Nat.lt_succ_self n, v11, v12, (IntKind.i64.wrap (v5 + 1)), h, by kernel_rfl⟩
      · replace h := ite_f hc10 h
        refine WpC.conv (cS [.k [3] [1003]] (by kernel_rfl) (by kernel_rfl)) (WpC.exit ?_)
        refine thenQ_exit ?_
        have hq := Option.some.inj h
        subst hq
        refine thenQ_exit ?_
        have h := hout9
        refine blockQ_hit ?_
        refine tnU ?_
        exact ⟨v3, h, by kernel_rfl⟩
  · rintro _ ⟨v1, h, rfl⟩
    unfold millwrightref11_Fields.j2 at h
    refine WpC.seq ?_
    refine rS {} [2] [1003] hN (by kernel_rfl) (by kernel_rfl) ?_
    refine tnU ?_
    refine WpC.conv (cS [.fz 2, .k [2] []] (by kernel_rfl) (by kernel_rfl)) (WpC.ret ?_)
    have hq := Option.some.inj h
    subst hq
    exact eR (by kernel_rfl) (by kernel_rfl)

theorem expand_expander_words_m1.ok (O : Out) (hO : GOk O) (k : Nat) (a0 : List T_expand_Output) (a1 : List UInt8) (out : List (List UInt8)) (h : expand_expander_words_m1.f k a0 a1 = some out) : COk Un O Tryd.prog 54 { ar := [.agg [.lit (.pointer none), .p (.list (.named 6)) a0], .p .str a1], r := .p (.list .str) out } := by
  refine cok_of_wp Tryd.func54 rfl (k := 12) rfl (Nat.le_of_ble_eq_true rfl) (namesOk_pure rfl rfl rfl rfl) ?_
  intro B hN
  refine WpC.conv (cvK (b := ⟨[(0, .agg [.lit (.pointer none), .p (.list (.named 6)) a0]), (1, .p .str a1)], []⟩) [0, 1] [] (by kernel_rfl)) ?_
  unfold expand_expander_words_m1.f at h
  refine WpC.seq ?_
  refine rS {} [1, 2] [2] hN (by kernel_rfl) (by kernel_rfl) ?_
  refine tnU ?_
  refine WpC.seq ?_
  refine WpC.seq ?_
  refine rS {} [1, 2, 7] [2] hN (by kernel_rfl) (by kernel_rfl) ?_
  refine tnU ?_
  refine tS (b := true) (by kernel_rfl) (fun hc => ?_) (fun hc => ?_)
  · refine WpC.seq ?_
    refine rS {} [4] [] hN (by kernel_rfl) (by kernel_rfl) ?_
    refine tnU ?_
    refine WpC.conv (cS [.nL 4 .str, .k [4] []] (by kernel_rfl) (by kernel_rfl)) (WpC.ret ?_)
    refine thenQ_ret ?_
    have hq := Option.some.inj h
    subst hq
    exact eR (by kernel_rfl) (by kernel_rfl)
  · cases hc

theorem expand_expander_piece_m1.ok (O : Out) (hO : GOk O) (k : Nat) (a0 : List T_expand_Output) (a1 : T_lex_Piece) (out : (List (List UInt8)) × Nat) (h : expand_expander_piece_m1.f k a0 a1 = some out) : COk Un O Tryd.prog 49 { ar := [.agg [.lit (.pointer none), .p (.list (.named 6)) a0], .p (.named 7) a1], r := .tup [.p (.list .str) out.1, .p .err out.2] } := by
  refine cok_of_wp Tryd.func49 rfl (k := 51) rfl (Nat.le_of_ble_eq_true rfl) (namesOk_pure rfl rfl rfl rfl) ?_
  intro B hN
  refine WpC.conv (cvK (b := ⟨[(0, .agg [.lit (.pointer none), .p (.list (.named 6)) a0]), (1, .p (.named 7) a1)], []⟩) [0, 1] [] (by kernel_rfl)) ?_
  unfold expand_expander_piece_m1.f at h
  refine WpC.seq ?_
  refine rS {} [2, 3] [2, 3] hN (by kernel_rfl) (by kernel_rfl) ?_
  refine tnU ?_
  refine sqJ (fun st' => expand_expander_piece_m1.j1 k = some out ∧ st' = ⟨[], []⟩) ?_ ?_
  · refine WpC.seq ?_
    refine rS {} [2, 3, 9] [2, 3] hN (by kernel_rfl) (by kernel_rfl) ?_
    refine tnU ?_
    refine WpC.block ?_
    refine sqJ (fun st' => ∃ v2 : Bool, expand_expander_piece_m1.j13 k a0 a1 v2 = some out ∧ st' = ⟨[(2, .loc 2 0), (3, .loc 3 0), (9, .p I6 a1.f_Kind), (10, .p .bool v2)], [(2, .box [.lit (.pointer none), .p (.list (.named 6)) a0]), (3, .box [.p I6 a1.f_Kind, .p .str a1.f_Text, .p .str a1.f_From, .p .str a1.f_To])]⟩) ?_ ?_
    · refine WpC.seq ?_
      refine rS {} [2, 3, 9, 10] [2, 3] hN (by kernel_rfl) (by kernel_rfl) ?_
      refine tnU ?_
      refine tS (b := (a1.f_Kind == 0)) (by kernel_rfl) (fun hc14 => ?_) (fun hc14 => ?_)
      · replace h := ite_t hc14 h
        refine WpC.skip ?_
        refine tnU ?_
        exact ⟨(a1.f_Kind == 0), h, by kernel_rfl⟩
      · replace h := ite_f hc14 h
        refine rS {} [2, 3, 9, 10] [2, 3] hN (by kernel_rfl) (by kernel_rfl) ?_
        refine tnU ?_
        exact ⟨(a1.f_Kind == 1), h, by kernel_rfl⟩
    · rintro _ ⟨v2, h, rfl⟩
      unfold expand_expander_piece_m1.j13 at h
      refine tS (b := v2) (by kernel_rfl) (fun hc3 => ?_) (fun hc3 => ?_)
      · replace h := ite_t hc3 h
        refine WpC.seq ?_
        refine rS {} [4, 5] [15] hN (by kernel_rfl) (by kernel_rfl) ?_
        refine tnU ?_
        refine WpC.conv (cS [.fz 4, .k [4, 5] [], .nE 5, .k [4, 5] []] (by kernel_rfl) (by kernel_rfl)) (WpC.ret ?_)
        refine blockQ_ret ?_
        refine thenQ_ret ?_
        have hq := Option.some.inj h
        subst hq
        exact eR (by kernel_rfl) (by kernel_rfl)
      · replace h := ite_f hc3 h
        refine WpC.seq ?_
        refine rS {} [2, 3, 9, 16] [2, 3] hN (by kernel_rfl) (by kernel_rfl) ?_
        refine tnU ?_
        refine tS (b := (a1.f_Kind == 2)) (by kernel_rfl) (fun hc4 => ?_) (fun hc4 => ?_)
        · replace h := ite_t hc4 h
          refine WpC.seq ?_
          obtain ⟨v5, hv5, h⟩ := bind_some h
          refine rS { its := [(3, .c (expand_expander_words_m1.ok O hO k a0 a1.f_Text v5 hv5))] } [4, 5] [] hN (by kernel_rfl) (by kernel_rfl) ?_
          refine tnU ?_
          refine WpC.conv (cS [.nE 5, .k [4, 5] []] (by kernel_rfl) (by kernel_rfl)) (WpC.ret ?_)
          refine blockQ_ret ?_
          refine thenQ_ret ?_
          have hq := Option.some.inj h
          subst hq
          exact eR (by kernel_rfl) (by kernel_rfl)
        · replace h := ite_f hc4 h
          refine WpC.seq ?_
          refine rS {} [2, 3, 9, 22] [2, 3] hN (by kernel_rfl) (by kernel_rfl) ?_
          refine tnU ?_
          refine tS (b := (a1.f_Kind == 3)) (by kernel_rfl) (fun hc6 => ?_) (fun hc6 => ?_)
          · replace h := ite_t hc6 h
            refine WpC.seq ?_
            obtain ⟨v7, hv7, h⟩ := bind_some h
            obtain ⟨v8, hv8, h⟩ := bind_some h
            refine rA { its := [(3, .c (expand_expander_words_m1.ok O hO k a0 a1.f_Text v7 hv7)), (8, .c (subst_List.ok O hO k v7 a1.f_From a1.f_To v8 hv8))] } [4, 5] [] hN (by kernel_rfl) (by kernel_rfl) (by kernel_rfl) ?_
            refine tnU ?_
            refine WpC.ret ?_
            refine blockQ_ret ?_
            refine thenQ_ret ?_
            have hq := Option.some.inj h
            subst hq
            exact eR (by kernel_rfl) (by kernel_rfl)
          · replace h := ite_f hc6 h
            refine WpC.seq ?_
            refine rS {} [2, 3, 35] [2, 3] hN (by kernel_rfl) (by kernel_rfl) ?_
            refine tnU ?_
            refine tS (b := (a1.f_Kind == 4)) (by kernel_rfl) (fun hc9 => ?_) (fun hc9 => ?_)
            · replace h := ite_t hc9 h
              refine WpC.seq ?_
              obtain ⟨v10, hv10, h⟩ := bind_some h
              refine rS { its := [(4, .c (expand_Find.ok O hO k a1.f_Text a0 v10 hv10))] } [6, 7] [] hN (by kernel_rfl) (by kernel_rfl) ?_
              refine tnU ?_
              refine WpC.seq ?_
              refine WpC.seq ?_
              refine rS {} [6, 46] [] hN (by kernel_rfl) (by kernel_rfl) ?_
              refine tnU ?_
              refine tS (b := (!v10.2)) (by kernel_rfl) (fun hc11 => ?_) (fun hc11 => ?_)
              · replace h := ite_t hc11 h
                refine WpC.seq ?_
                refine rA { its := [(0, .e 0 (sok_loadG (U := Un) (t := .err) (rs := []) rfl rfl ty_32 rfl rfl (hO.var 7 6 rfl) (fun S w => .err 7)))] } [4, 5] [] hN (by kernel_rfl) (by kernel_rfl) (by kernel_rfl) ?_
                refine tnU ?_
                refine WpC.conv (cS [.nL 4 .str, .k [4, 5] []] (by kernel_rfl) (by kernel_rfl)) (WpC.ret ?_)
                refine thenQ_ret ?_
                refine blockQ_ret ?_
                refine thenQ_ret ?_
                have hq := Option.some.inj h
                subst hq
                exact eR (by kernel_rfl) (by kernel_rfl)
              · replace h := ite_f hc11 h
                refine WpC.conv (cS [.k [6] []] (by kernel_rfl) (by kernel_rfl)) (WpC.skip ?_)
                refine tnU ?_
                refine WpC.seq ?_
                obtain ⟨v12, hv12, h⟩ := bind_some h
                refine rS { its := [(1, .c (quote_Fields.ok O hO k v10.1 v12 hv12))] } [4, 5] [] hN (by kernel_rfl) (by kernel_rfl) ?_
                refine tnU ?_
                refine WpC.conv (cS [.nE 5, .k [4, 5] []] (by kernel_rfl) (by kernel_rfl)) (WpC.ret ?_)
                refine blockQ_ret ?_
                refine thenQ_ret ?_
                have hq := Option.some.inj h
                subst hq
                exact eR (by kernel_rfl) (by kernel_rfl)
            · replace h := ite_f hc9 h
              refine WpC.conv (cS [.k [] []] (by kernel_rfl) (by kernel_rfl)) (WpC.skip ?_)
              refine blockQ_normal ?_
              refine tnU ?_
              exact ⟨h, by kernel_rfl⟩
  · rintro _ ⟨h, rfl⟩
    unfold expand_expander_piece_m1.j1 at h
    refine WpC.seq ?_
    refine rA { its := [(0, .e 0 (sok_loadG (U := Un) (t := .err) (rs := []) rfl rfl ty_32 rfl rfl (hO.var 16 7 rfl) (fun S w => .err 16)))] } [4, 5] [] hN (by kernel_rfl) (by kernel_rfl) (by kernel_rfl) ?_
    refine tnU ?_
    refine WpC.conv (cS [.nL 4 .str, .k [4, 5] []] (by kernel_rfl) (by kernel_rfl)) (WpC.ret ?_)
    have hq := Option.some.inj h
    subst hq
    exact eR (by kernel_rfl) (by kernel_rfl)

theorem expand_expander_word_m1.ok (O : Out) (hO : GOk O) (k : Nat) (a0 : List T_expand_Output) (a1 : List T_lex_Piece) (out : (List (List UInt8)) × Nat) (h : expand_expander_word_m1.f k a0 a1 = some out) : COk Un O Tryd.prog 36 { ar := [.agg [.lit (.pointer none), .p (.list (.named 6)) a0], .p (.list (.named 7)) a1], r := .tup [.p (.list .str) out.1, .p .err out.2] } := by
  refine cok_of_wp Tryd.func36 rfl (k := 57) rfl (Nat.le_of_ble_eq_true rfl) (namesOk_pure rfl rfl rfl rfl) ?_
  intro B hN
  refine WpC.conv (cvK (b := ⟨[(0, .agg [.lit (.pointer none), .p (.list (.named 6)) a0]), (1, .p (.list (.named 7)) a1)], []⟩) [0, 1] [] (by kernel_rfl)) ?_
  unfold expand_expander_word_m1.f at h
  refine WpC.seq ?_
  refine rS {} [1, 2] [2] hN (by kernel_rfl) (by kernel_rfl) ?_
  refine tnU ?_
  refine WpC.seq ?_
  refine rS {} [1, 2, 6] [2, 13] hN (by kernel_rfl) (by kernel_rfl) ?_
  refine tnU ?_
  refine WpC.seq ?_
  refine rS {} [1, 2, 6, 7] [2, 13] hN (by kernel_rfl) (by kernel_rfl) ?_
  refine tnU ?_
  refine sqJ (fun st' => ∃ v1 : List (List UInt8), ∃ v2 : Bool, expand_expander_word_m1.j13 k v1 v2 = some out ∧ st' = ⟨[(6, .vec 1006 1 0 v1.length), (7, .p .bool v2)], [(1006, .row 9 .str v1 false)]⟩) ?_ ?_
  · refine WpC.seq ?_
    refine rS {} [2, 6, 7, 14, 15, 16] [2, 13] hN (by kernel_rfl) (by kernel_rfl) ?_
    refine tnU ?_
    refine WpC.block ?_
    obtain ⟨o20, hlo20, h⟩ := bind_some h
    have hout21 := h
    clear h
    refine WpC.conv (cS [.lo 13, .k [2, 6, 7, 14, 15, 16] [2, 13], .rn 13 1006, .k [2, 6, 7, 14, 15, 16] [2, 1006]] (by kernel_rfl) (by kernel_rfl)) ?_
    refine WpC.loop (U := Un) (fun n st' => ∃ v14 : List (List UInt8), ∃ v15 : Bool, ∃ v16 : Int, expand_expander_word_m1.l17 k a0 a1 n v14 v15 v16 = some o20 ∧ st' = ⟨[(2, .loc 2 0), (6, .vec 1006 1 0 v14.length), (7, .p .bool v15), (14, .p (.list (.named 7)) a1), (15, .p I6 ((a1.length : Int) : Int)), (16, .p I6 v16)], [(2, .box [.lit (.pointer none), .p (.list (.named 6)) a0]), (1006, .row 9 .str v14 false)]⟩) k ⟨[([] : List UInt8)], true, 0, hlo20, by kernel_rfl⟩ ?_
    clear hlo20
    rintro (_ | n) _ ⟨v14, v15, v16, h, rfl⟩
    · cases h
    · rw [expand_expander_word_m1.l17] at h
      refine WpC.seq ?_
      refine rS {} [2, 6, 7, 14, 15, 16, 17] [2, 1006] hN (by kernel_rfl) (by kernel_rfl) ?_
      refine tnU ?_
      refine WpC.seq ?_
      refine tS (b := (decide (v16 < (a1.length : Int)))) (by kernel_rfl) (fun hc22 => ?_) (fun hc22 => ?_)
      · replace h := ite_t hc22 h
        refine WpC.conv (cS [.k [2, 6, 7, 14, 15, 16] [2, 1006]] (by kernel_rfl) (by kernel_rfl)) (WpC.skip ?_)
        refine tnU ?_
        refine sqJ (fun st' => ∃ v23 : List (List UInt8), ∃ v24 : Bool, expand_expander_word_m1.j25 k (expand_expander_word_m1.l17 k a0 a1 n) a0 a1 v16 v23 v24 = some o20 ∧ st' = ⟨[(2, .loc 2 0), (6, .vec 1006 1 0 v23.length), (7, .p .bool v24), (14, .p (.list (.named 7)) a1), (15, .p I6 ((a1.length : Int) : Int)), (16, .p I6 v16)], [(2, .box [.lit (.pointer none), .p (.list (.named 6)) a0]), (1006, .row 9 .str v23 false)]⟩) ?_ ?_
        · refine WpC.block ?_
          refine WpC.seq ?_
          obtain ⟨v26, hv26, h⟩ := bind_some h
          refine rS { its := [(0, .v (.named 7) hv26)] } [2, 6, 7, 9, 14, 15, 16] [2, 9, 1006] hN (by kernel_rfl) (by kernel_rfl) ?_
          refine tnU ?_
          refine WpC.seq ?_
          obtain ⟨v27, hv27, h⟩ := bind_some h
          refine rS { its := [(2, .c (expand_expander_piece_m1.ok O hO k a0 (T_lex_Piece.mk v26.f_Kind v26.f_Text v26.f_From v26.f_To) v27 hv27))] } [2, 6, 7, 9, 10, 11, 14, 15, 16] [2, 9, 1006] hN (by kernel_rfl) (by kernel_rfl) ?_
          refine tnU ?_
          refine WpC.seq ?_
          refine WpC.seq ?_
          refine rS {} [2, 6, 7, 9, 10, 11, 14, 15, 16, 27] [2, 9, 1006] hN (by kernel_rfl) (by kernel_rfl) ?_
          refine tnU ?_
          refine tS (b := (!(v27.2 == 0))) (by kernel_rfl) (fun hc28 => ?_) (fun hc28 => ?_)
          · replace h := ite_t hc28 h
            refine WpC.seq ?_
            refine rS {} [4, 5] [] hN (by kernel_rfl) (by kernel_rfl) ?_
            refine tnU ?_
            refine WpC.conv (cS [.nL 4 .str, .k [4, 5] []] (by kernel_rfl) (by kernel_rfl)) (WpC.ret ?_)
            refine thenQ_ret ?_
            refine blockQ_ret ?_
            refine thenQ_ret ?_
            have hq := Option.some.inj h
            subst hq
            refine thenQ_ret ?_
            have h := hout21
            refine blockQ_ret ?_
            refine thenQ_ret ?_
            have hq := Option.some.inj h
            subst hq
            exact eR (by kernel_rfl) (by kernel_rfl)
          · replace h := ite_f hc28 h
            refine WpC.conv (cS [.k [2, 6, 7, 9, 10, 14, 15, 16] [2, 9, 1006]] (by kernel_rfl) (by kernel_rfl)) (WpC.skip ?_)
            refine tnU ?_
            refine WpC.seq ?_
            obtain ⟨v29, hv29, h⟩ := bind_some h
            refine rS { its := [(2, .c (COk.ren (expand_joined_m0.ok O hO k v14 v27.1 v29 hv29) (fun n => if n = 60500 then 10001 else if n = 100000 then 1006 else n) (injOn_of (by kernel_rfl))))] } [2, 6, 7, 9, 14, 15, 16] [2, 9, 10001] hN (by kernel_rfl) (by kernel_rfl) ?_
            refine tnU ?_
            rcases bool_cases v15 with hc30 | hc30
            · replace h := ite_t hc30 h
              refine rSC { kn := [(33, .t hc30)] } [2, 6, 7, 14, 15, 16] [2, 10001] hN (by kernel_rfl) (by kernel_rfl) (cS [.rn 10001 1006, .k [2, 6, 7, 14, 15, 16] [2, 1006]] (by kernel_rfl) (by kernel_rfl)) ?_
              refine blockQ_normal ?_
              refine tnU ?_
              exact ⟨v29, (v26.f_Kind != 1), h, by kernel_rfl⟩
            · replace h := ite_f hc30 h
              refine rSC { kn := [(33, .f hc30)] } [2, 6, 7, 14, 15, 16] [2, 10001] hN (by kernel_rfl) (by kernel_rfl) (cS [.rn 10001 1006, .k [2, 6, 7, 14, 15, 16] [2, 1006]] (by kernel_rfl) (by kernel_rfl)) ?_
              refine blockQ_normal ?_
              refine tnU ?_
              exact ⟨v29, false, h, by kernel_rfl⟩
        · rintro _ ⟨v23, v24, h, rfl⟩
          unfold expand_expander_word_m1.j25 at h
          refine rS {} [2, 6, 7, 14, 15, 16] [2, 1006] hN (by kernel_rfl) (by kernel_rfl) ?_
          refine tnU ?_
          exact ⟨n, Nat.lt_succ_self n, v23, v24, (IntKind.i64.wrap (v16 + 1)), h, by kernel_rfl⟩
      · replace h := ite_f hc22 h
        refine WpC.conv (cS [.k [6, 7] [1006]] (by kernel_rfl) (by kernel_rfl)) (WpC.exit ?_)
        refine thenQ_exit ?_
        have hq := Option.some.inj h
        subst hq
        refine thenQ_exit ?_
        have h := hout21
        refine blockQ_hit ?_
        refine tnU ?_
        exact ⟨v14, v15, h, by kernel_rfl⟩
  · rintro _ ⟨v1, v2, h, rfl⟩
    unfold expand_expander_word_m1.j13 at h
    refine sqJ (fun st' => expand_expander_word_m1.j5 k v1 = some out ∧ st' = ⟨[(6, .vec 1006 1 0 v1.length)], [(1006, .row 9 .str v1 false)]⟩) ?_ ?_
    · refine sqJ (fun st' => ∃ v6 : Bool, expand_expander_word_m1.j8 k v1 v6 = some out ∧ st' = ⟨[(6, .vec 1006 1 0 v1.length), (50, .p .bool v6)], [(1006, .row 9 .str v1 false)]⟩) ?_ ?_
      · rcases bool_cases ((v1.length : Int) == 1) with hc9 | hc9
        · replace h := ite_t hc9 h
          obtain ⟨g10, h⟩ := if_some h
          obtain ⟨v11, hv11, h⟩ := bind_some h
          rcases bool_cases (v11 == ([] : List UInt8)) with hc12 | hc12
          · replace h := ite_t hc12 h
            refine rS { its := [(5, .g g10), (6, .v .str hv11)], kn := [(42, .t hc9), (48, .t hc12)] } [6, 50] [1006] hN (by kernel_rfl) (by kernel_rfl) ?_
            refine tnU ?_
            exact ⟨v2, h, by kernel_rfl⟩
          · replace h := ite_f hc12 h
            refine rS { its := [(5, .g g10), (6, .v .str hv11)], kn := [(42, .t hc9), (48, .f hc12)] } [6, 50] [1006] hN (by kernel_rfl) (by kernel_rfl) ?_
            refine tnU ?_
            exact ⟨false, h, by kernel_rfl⟩
        · replace h := ite_f hc9 h
          refine rS { kn := [(42, .f hc9)] } [6, 50] [1006] hN (by kernel_rfl) (by kernel_rfl) ?_
          refine tnU ?_
          exact ⟨false, h, by kernel_rfl⟩
      · rintro _ ⟨v6, h, rfl⟩
        unfold expand_expander_word_m1.j8 at h
        refine tS (b := v6) (by kernel_rfl) (fun hc7 => ?_) (fun hc7 => ?_)
        · replace h := ite_t hc7 h
          refine WpC.seq ?_
          refine rS {} [4, 5] [] hN (by kernel_rfl) (by kernel_rfl) ?_
          refine tnU ?_
          refine WpC.conv (cS [.nL 4 .str, .k [4, 5] [], .nE 5, .k [4, 5] []] (by kernel_rfl) (by kernel_rfl)) (WpC.ret ?_)
          refine thenQ_ret ?_
          have hq := Option.some.inj h
          subst hq
          exact eR (by kernel_rfl) (by kernel_rfl)
        · replace h := ite_f hc7 h
          refine WpC.conv (cS [.k [6] [1006]] (by kernel_rfl) (by kernel_rfl)) (WpC.skip ?_)
          refine tnU ?_
          exact ⟨h, by kernel_rfl⟩
    · rintro _ ⟨h, rfl⟩
      unfold expand_expander_word_m1.j5 at h
      refine WpC.seq ?_
      refine WpC.seq ?_
      obtain ⟨v3, hv3, h⟩ := bind_some h
      refine rS { its := [(1, .c (expand_bounded.ok O hO k v1 v3 hv3))] } [6, 12] [1006] hN (by kernel_rfl) (by kernel_rfl) ?_
      refine tnU ?_
      refine WpC.seq ?_
      refine rS {} [6, 12, 54] [1006] hN (by kernel_rfl) (by kernel_rfl) ?_
      refine tnU ?_
      refine tS (b := (!(v3 == 0))) (by kernel_rfl) (fun hc4 => ?_) (fun hc4 => ?_)
      · replace h := ite_t hc4 h
        refine WpC.seq ?_
        refine rS {} [4, 5] [] hN (by kernel_rfl) (by kernel_rfl) ?_
        refine tnU ?_
        refine WpC.conv (cS [.nL 4 .str, .k [4, 5] []] (by kernel_rfl) (by kernel_rfl)) (WpC.ret ?_)
        refine thenQ_ret ?_
        have hq := Option.some.inj h
        subst hq
        exact eR (by kernel_rfl) (by kernel_rfl)
      · replace h := ite_f hc4 h
        refine WpC.conv (cS [.k [6] [1006]] (by kernel_rfl) (by kernel_rfl)) (WpC.skip ?_)
        refine tnU ?_
        refine WpC.seq ?_
        refine rS {} [4, 5] [1006] hN (by kernel_rfl) (by kernel_rfl) ?_
        refine tnU ?_
        refine WpC.conv (cS [.fz 4, .k [4, 5] [], .nE 5, .k [4, 5] []] (by kernel_rfl) (by kernel_rfl)) (WpC.ret ?_)
        have hq := Option.some.inj h
        subst hq
        exact eR (by kernel_rfl) (by kernel_rfl)

theorem expand_Word_m1.ok (O : Out) (hO : GOk O) (k : Nat) (a0 : List T_lex_Piece) (a1 : List T_expand_Output) (out : (List (List UInt8)) × Nat) (h : expand_Word_m1.f k a0 a1 = some out) : COk Un O Tryd.prog 24 { ar := [.p (.list (.named 7)) a0, .lit (.pointer none), .p (.list (.named 6)) a1], r := .tup [.p (.list .str) out.1, .p .err out.2] } := by
  refine cok_of_wp Tryd.func24 rfl (k := 15) rfl (Nat.le_of_ble_eq_true rfl) (namesOk_pure rfl rfl rfl rfl) ?_
  intro B hN
  refine WpC.conv (cvK (b := ⟨[(0, .p (.list (.named 7)) a0), (1, .lit (.pointer none)), (2, .p (.list (.named 6)) a1)], []⟩) [0, 1, 2] [] (by kernel_rfl)) ?_
  unfold expand_Word_m1.f at h
  refine WpC.seq ?_
  refine rS {} [0, 1, 2] [] hN (by kernel_rfl) (by kernel_rfl) ?_
  refine tnU ?_
  refine WpC.seq ?_
  obtain ⟨v1, hv1, h⟩ := bind_some h
  refine rS { its := [(4, .c (expand_expander_word_m1.ok O hO k a1 a0 v1 hv1))] } [6, 7] [] hN (by kernel_rfl) (by kernel_rfl) ?_
  refine tnU ?_
  refine WpC.ret ?_
  have hq := Option.some.inj h
  subst hq
  exact eR (by kernel_rfl) (by kernel_rfl)

theorem expand_Words_m1.ok (O : Out) (hO : GOk O) (k : Nat) (a0 : List (List T_lex_Piece)) (a1 : List T_expand_Output) (out : (List (List UInt8)) × Nat) (h : expand_Words_m1.f k a0 a1 = some out) : COk Un O Tryd.prog 16 { ar := [.p (.list (.list (.named 7))) a0, .lit (.pointer none), .p (.list (.named 6)) a1], r := .tup [.p (.list .str) out.1, .p .err out.2] } := by
  refine cok_of_wp Tryd.func16 rfl (k := 38) rfl (Nat.le_of_ble_eq_true rfl) (namesOk_pure rfl rfl rfl rfl) ?_
  intro B hN
  refine WpC.conv (cvK (b := ⟨[(0, .p (.list (.list (.named 7))) a0), (1, .lit (.pointer none)), (2, .p (.list (.named 6)) a1)], []⟩) [0, 1, 2] [] (by kernel_rfl)) ?_
  unfold expand_Words_m1.f at h
  refine WpC.seq ?_
  refine rS {} [0, 1, 2] [] hN (by kernel_rfl) (by kernel_rfl) ?_
  refine tnU ?_
  refine WpC.seq ?_
  refine rS {} [0, 1, 2, 8] [] hN (by kernel_rfl) (by kernel_rfl) ?_
  refine tnU ?_
  refine sqJ (fun st' => ∃ v1 : List (List UInt8), expand_Words_m1.j3 k v1 = some out ∧ st' = ⟨[(8, .vec 1008 1 0 v1.length)], [(1008, .row 9 .str v1 false)]⟩) ?_ ?_
  · refine WpC.seq ?_
    refine rS {} [1, 2, 8, 13, 14, 15] [] hN (by kernel_rfl) (by kernel_rfl) ?_
    refine tnU ?_
    refine WpC.block ?_
    obtain ⟨o8, hlo8, h⟩ := bind_some h
    have hout9 := h
    clear h
    refine WpC.conv (cS [.th 8 1008 9 .str, .k [1, 2, 8, 13, 14, 15] [1008]] (by kernel_rfl) (by kernel_rfl)) ?_
    refine WpC.loop (U := Un) (fun n st' => ∃ v4 : List (List UInt8), ∃ v5 : Int, expand_Words_m1.l6 k a0 a1 n v4 v5 = some o8 ∧ st' = ⟨[(1, .lit (.pointer none)), (2, .p (.list (.named 6)) a1), (8, .vec 1008 1 0 v4.length), (13, .p (.list (.list (.named 7))) a0), (14, .p I6 ((a0.length : Int) : Int)), (15, .p I6 v5)], [(1008, .row 9 .str v4 false)]⟩) k ⟨[], 0, hlo8, by kernel_rfl⟩ ?_
    clear hlo8
    rintro (_ | n) _ ⟨v4, v5, h, rfl⟩
    · cases h
    · rw [expand_Words_m1.l6] at h
      refine WpC.seq ?_
      refine rS {} [1, 2, 8, 13, 14, 15, 16] [1008] hN (by kernel_rfl) (by kernel_rfl) ?_
      refine tnU ?_
      refine WpC.seq ?_
      refine tS (b := (decide (v5 < (a0.length : Int)))) (by kernel_rfl) (fun hc10 => ?_) (fun hc10 => ?_)
      · replace h := ite_t hc10 h
        refine WpC.conv (cS [.k [1, 2, 8, 13, 14, 15] [1008]] (by kernel_rfl) (by kernel_rfl)) (WpC.skip ?_)
        refine tnU ?_
        refine WpC.seq ?_
        refine WpC.block ?_
        refine WpC.seq ?_
        obtain ⟨v11, hv11, h⟩ := bind_some h
        refine rS { its := [(0, .v (.list (.named 7)) hv11)] } [1, 2, 8, 10, 13, 14, 15] [1008] hN (by kernel_rfl) (by kernel_rfl) ?_
        refine tnU ?_
        refine WpC.seq ?_
        obtain ⟨v12, hv12, h⟩ := bind_some h
        refine rS { its := [(3, .c (expand_Word_m1.ok O hO k v11 a1 v12 hv12))] } [1, 2, 8, 11, 12, 13, 14, 15] [1008] hN (by kernel_rfl) (by kernel_rfl) ?_
        refine tnU ?_
        refine WpC.seq ?_
        refine WpC.seq ?_
        refine rS {} [1, 2, 8, 11, 12, 13, 14, 15, 27] [1008] hN (by kernel_rfl) (by kernel_rfl) ?_
        refine tnU ?_
        refine tS (b := (!(v12.2 == 0))) (by kernel_rfl) (fun hc13 => ?_) (fun hc13 => ?_)
        · replace h := ite_t hc13 h
          refine WpC.seq ?_
          refine rS {} [6, 7] [] hN (by kernel_rfl) (by kernel_rfl) ?_
          refine tnU ?_
          refine WpC.conv (cS [.nL 6 .str, .k [6, 7] []] (by kernel_rfl) (by kernel_rfl)) (WpC.ret ?_)
          refine thenQ_ret ?_
          refine blockQ_ret ?_
          refine thenQ_ret ?_
          have hq := Option.some.inj h
          subst hq
          refine thenQ_ret ?_
          have h := hout9
          refine blockQ_ret ?_
          refine thenQ_ret ?_
          have hq := Option.some.inj h
          subst hq
          exact eR (by kernel_rfl) (by kernel_rfl)
        · replace h := ite_f hc13 h
          refine WpC.conv (cS [.k [1, 2, 8, 11, 13, 14, 15] [1008]] (by kernel_rfl) (by kernel_rfl)) (WpC.skip ?_)
          refine tnU ?_
          obtain ⟨g14, h⟩ := if_some h
          refine rS { its := [(2, .g g14)] } [1, 2, 8, 13, 14, 15] [31] hN (by kernel_rfl) (by kernel_rfl) ?_
          refine blockQ_normal ?_
          refine tnU ?_
          refine rSC {} [1, 2, 8, 13, 14, 15] [31] hN (by kernel_rfl) (by kernel_rfl) (cS [.rn 31 1008, .k [1, 2, 8, 13, 14, 15] [1008]] (by kernel_rfl) (by kernel_rfl)) ?_
          refine tnU ?_
          exact ⟨n, Nat.lt_succ_self n, (v4 ++ v12.1), (IntKind.i64.wrap (v5 + 1)), h, by kernel_rfl⟩
      · replace h := ite_f hc10 h
        refine WpC.conv (cS [.k [8] [1008]] (by kernel_rfl) (by kernel_rfl)) (WpC.exit ?_)
        refine thenQ_exit ?_
        have hq := Option.some.inj h
        subst hq
        refine thenQ_exit ?_
        have h := hout9
        refine blockQ_hit ?_
        refine tnU ?_
        exact ⟨v4, h, by kernel_rfl⟩
  · rintro _ ⟨v1, h, rfl⟩
    unfold expand_Words_m1.j3 at h
    refine WpC.seq ?_
    refine WpC.seq ?_
    refine rS {} [8, 35] [1008] hN (by kernel_rfl) (by kernel_rfl) ?_
    refine tnU ?_
    refine tS (b := (decide ((v1.length : Int) > 40))) (by kernel_rfl) (fun hc2 => ?_) (fun hc2 => ?_)
    · replace h := ite_t hc2 h
      refine WpC.seq ?_
      refine rA { its := [(0, .e 0 (sok_loadG (U := Un) (t := .err) (rs := []) rfl rfl ty_32 rfl rfl (hO.var 9 0 rfl) (fun S w => .err 9)))] } [6, 7] [] hN (by kernel_rfl) (by kernel_rfl) (by kernel_rfl) ?_
      refine tnU ?_
      refine WpC.conv (cS [.nL 6 .str, .k [6, 7] []] (by kernel_rfl) (by kernel_rfl)) (WpC.ret ?_)
      refine thenQ_ret ?_
      have hq := Option.some.inj h
      subst hq
      exact eR (by kernel_rfl) (by kernel_rfl)
    · replace h := ite_f hc2 h
      refine WpC.conv (cS [.k [8] [1008]] (by kernel_rfl) (by kernel_rfl)) (WpC.skip ?_)
      refine tnU ?_
      refine WpC.seq ?_
      refine rS {} [6, 7] [1008] hN (by kernel_rfl) (by kernel_rfl) ?_
      refine tnU ?_
      refine WpC.conv (cS [.fz 6, .k [6, 7] [], .nE 7, .k [6, 7] []] (by kernel_rfl) (by kernel_rfl)) (WpC.ret ?_)
      have hq := Option.some.inj h
      subst hq
      exact eR (by kernel_rfl) (by kernel_rfl)

theorem expand_Text_m1.ok (O : Out) (hO : GOk O) (k : Nat) (a0 : List UInt8) (a1 : List T_expand_Output) (out : (List (List UInt8)) × Nat) (h : expand_Text_m1.f k a0 a1 = some out) : COk Un O Tryd.prog 8 { ar := [.p .str a0, .lit (.pointer none), .p (.list (.named 6)) a1], r := .tup [.p (.list .str) out.1, .p .err out.2] } := by
  refine cok_of_wp Tryd.func8 rfl (k := 24) rfl (Nat.le_of_ble_eq_true rfl) (namesOk_pure rfl rfl rfl rfl) ?_
  intro B hN
  refine WpC.conv (cvK (b := ⟨[(0, .p .str a0), (1, .lit (.pointer none)), (2, .p (.list (.named 6)) a1)], []⟩) [0, 1, 2] [] (by kernel_rfl)) ?_
  unfold expand_Text_m1.f at h
  refine WpC.seq ?_
  refine rS {} [0, 1, 2] [] hN (by kernel_rfl) (by kernel_rfl) ?_
  refine tnU ?_
  refine WpC.seq ?_
  obtain ⟨v1, hv1, h⟩ := bind_some h
  refine rS { its := [(1, .c (lex_Words.ok O hO k a0 v1 hv1))] } [1, 2, 8, 9] [] hN (by kernel_rfl) (by kernel_rfl) ?_
  refine tnU ?_
  refine WpC.seq ?_
  refine WpC.seq ?_
  refine rS {} [1, 2, 8, 9, 16] [] hN (by kernel_rfl) (by kernel_rfl) ?_
  refine tnU ?_
  refine tS (b := (!(v1.2 == 0))) (by kernel_rfl) (fun hc2 => ?_) (fun hc2 => ?_)
  · replace h := ite_t hc2 h
    refine WpC.seq ?_
    refine rS {} [6, 7] [] hN (by kernel_rfl) (by kernel_rfl) ?_
    refine tnU ?_
    refine WpC.conv (cS [.nL 6 .str, .k [6, 7] []] (by kernel_rfl) (by kernel_rfl)) (WpC.ret ?_)
    refine thenQ_ret ?_
    have hq := Option.some.inj h
    subst hq
    exact eR (by kernel_rfl) (by kernel_rfl)
  · replace h := ite_f hc2 h
    refine WpC.conv (cS [.k [1, 2, 8] []] (by kernel_rfl) (by kernel_rfl)) (WpC.skip ?_)
    refine tnU ?_
    refine WpC.seq ?_
    obtain ⟨v3, hv3, h⟩ := bind_some h
    refine rS { its := [(3, .c (expand_Words_m1.ok O hO k v1.1 a1 v3 hv3))] } [6, 7] [] hN (by kernel_rfl) (by kernel_rfl) ?_
    refine tnU ?_
    refine WpC.ret ?_
    have hq := Option.some.inj h
    subst hq
    exact eR (by kernel_rfl) (by kernel_rfl)

theorem millwrightnum_SameTexts.ok (O : Out) (hO : GOk O) (k : Nat) (a0 : List (List UInt8)) (a1 : List (List UInt8)) (out : Bool) (h : millwrightnum_SameTexts.f k a0 a1 = some out) : COk Un O Tryd.prog 9 { ar := [.p (.list .str) a0, .p (.list .str) a1], r := .p .bool out } := by
  refine cok_of_wp Tryd.func9 rfl (k := 26) rfl (Nat.le_of_ble_eq_true rfl) (namesOk_pure rfl rfl rfl rfl) ?_
  intro B hN
  refine WpC.conv (cvK (b := ⟨[(0, .p (.list .str) a0), (1, .p (.list .str) a1)], []⟩) [0, 1] [] (by kernel_rfl)) ?_
  unfold millwrightnum_SameTexts.f at h
  refine WpC.seq ?_
  refine rS {} [0, 1] [] hN (by kernel_rfl) (by kernel_rfl) ?_
  refine tnU ?_
  refine WpC.seq ?_
  refine WpC.seq ?_
  refine rS {} [0, 1, 10] [] hN (by kernel_rfl) (by kernel_rfl) ?_
  refine tnU ?_
  refine tS (b := ((a0.length : Int) != (a1.length : Int))) (by kernel_rfl) (fun hc1 => ?_) (fun hc1 => ?_)
  · replace h := ite_t hc1 h
    refine WpC.seq ?_
    refine rS {} [4] [] hN (by kernel_rfl) (by kernel_rfl) ?_
    refine tnU ?_
    refine WpC.ret ?_
    refine thenQ_ret ?_
    have hq := Option.some.inj h
    subst hq
    exact eR (by kernel_rfl) (by kernel_rfl)
  · replace h := ite_f hc1 h
    refine WpC.conv (cS [.k [0, 1] []] (by kernel_rfl) (by kernel_rfl)) (WpC.skip ?_)
    refine tnU ?_
    refine sqJ (fun st' => millwrightnum_SameTexts.j2 k = some out ∧ st' = ⟨[], []⟩) ?_ ?_
    · refine WpC.seq ?_
      refine rS {} [0, 1, 12, 13] [] hN (by kernel_rfl) (by kernel_rfl) ?_
      refine tnU ?_
      refine WpC.block ?_
      obtain ⟨o5, hlo5, h⟩ := bind_some h
      have hout6 := h
      clear h
      refine WpC.loop (U := Un) (fun n st' => ∃ v3 : Int, millwrightnum_SameTexts.l4 k a0 a1 n v3 = some o5 ∧ st' = ⟨[(0, .p (.list .str) a0), (1, .p (.list .str) a1), (12, .p I6 ((a0.length : Int) : Int)), (13, .p I6 v3)], []⟩) k ⟨0, hlo5, by kernel_rfl⟩ ?_
      clear hlo5
      rintro (_ | n) _ ⟨v3, h, rfl⟩
      · cases h
      · rw [millwrightnum_SameTexts.l4] at h
        refine WpC.seq ?_
        refine rS {} [0, 1, 12, 13, 14] [] hN (by kernel_rfl) (by kernel_rfl) ?_
        refine tnU ?_
        refine WpC.seq ?_
        refine tS (b := (decide (v3 < (a0.length : Int)))) (by kernel_rfl) (fun hc7 => ?_) (fun hc7 => ?_)
        · replace h := ite_t hc7 h
          refine WpC.conv (cS [.k [0, 1, 12, 13] []] (by kernel_rfl) (by kernel_rfl)) (WpC.skip ?_)
          refine tnU ?_
          refine WpC.seq ?_
          refine WpC.block ?_
          refine WpC.seq ?_
          refine rS {} [0, 1, 5, 12, 13] [] hN (by kernel_rfl) (by kernel_rfl) ?_
          refine tnU ?_
          refine WpC.seq ?_
          obtain ⟨v8, hv8, h⟩ := bind_some h
          obtain ⟨v9, hv9, h⟩ := bind_some h
          refine rA { its := [(2, .v .str hv8), (6, .v .str hv9)] } [0, 1, 12, 13, 24] [] hN (by kernel_rfl) (by kernel_rfl) (by kernel_rfl) ?_
          refine tnU ?_
          refine tS (b := (!(v8 == v9))) (by kernel_rfl) (fun hc10 => ?_) (fun hc10 => ?_)
          · replace h := ite_t hc10 h
            refine WpC.seq ?_
            refine rS {} [4] [] hN (by kernel_rfl) (by kernel_rfl) ?_
            refine tnU ?_
            refine WpC.ret ?_
            refine blockQ_ret ?_
            refine thenQ_ret ?_
            have hq := Option.some.inj h
            subst hq
            refine thenQ_ret ?_
            have h := hout6
            refine blockQ_ret ?_
            refine thenQ_ret ?_
            have hq := Option.some.inj h
            subst hq
            exact eR (by kernel_rfl) (by kernel_rfl)
          · replace h := ite_f hc10 h
            refine WpC.conv (cS [.k [0, 1, 12, 13] []] (by kernel_rfl) (by kernel_rfl)) (WpC.skip ?_)
            refine blockQ_normal ?_
            refine tnU ?_
            refine rS {} [0, 1, 12, 13] [] hN (by kernel_rfl) (by kernel_rfl) ?_
            refine tnU ?_
            exact ⟨n, Nat.lt_succ_self n, (IntKind.i64.wrap (v3 + 1)), h, by kernel_rfl⟩
        · replace h := ite_f hc7 h
          refine WpC.conv (cS [.k [] []] (by kernel_rfl) (by kernel_rfl)) (WpC.exit ?_)
          refine thenQ_exit ?_
          have hq := Option.some.inj h
          subst hq
          refine thenQ_exit ?_
          have h := hout6
          refine blockQ_hit ?_
          refine tnU ?_
          exact ⟨h, by kernel_rfl⟩
    · rintro _ ⟨h, rfl⟩
      unfold millwrightnum_SameTexts.j2 at h
      refine WpC.seq ?_
      refine rS {} [4] [] hN (by kernel_rfl) (by kernel_rfl) ?_
      refine tnU ?_
      refine WpC.ret ?_
      have hq := Option.some.inj h
      subst hq
      exact eR (by kernel_rfl) (by kernel_rfl)

theorem millwrightlaw17_ExpandPlain.ok (O : Out) (hO : GOk O) (k : Nat) (a0 : List UInt8) (a1 : List T_env_Var) (out : Bool) (h : millwrightlaw17_ExpandPlain.f k a0 a1 = some out) : COk Un O Tryd.prog 3 { ar := [.p .str a0, .p (.list (.named 3)) a1], r := .p .bool out } := by
  refine cok_of_wp Tryd.func3 rfl (k := 80) rfl (Nat.le_of_ble_eq_true rfl) (namesOk_pure rfl rfl rfl rfl) ?_
  intro B hN
  refine WpC.conv (cvK (b := ⟨[(0, .p .str a0), (1, .p (.list (.named 3)) a1)], []⟩) [0, 1] [] (by kernel_rfl)) ?_
  unfold millwrightlaw17_ExpandPlain.f at h
  refine WpC.seq ?_
  refine rS {} [0, 1] [] hN (by kernel_rfl) (by kernel_rfl) ?_
  refine tnU ?_
  refine WpC.seq ?_
  refine WpC.seq ?_
  obtain ⟨v1, hv1, h⟩ := bind_some h
  refine rS { its := [(0, .c (millwrightlaw17_alive.ok O hO k v1 hv1))] } [0, 1, 15] [] hN (by kernel_rfl) (by kernel_rfl) ?_
  refine tnU ?_
  refine tS (b := (!v1)) (by kernel_rfl) (fun hc2 => ?_) (fun hc2 => ?_)
  · replace h := ite_t hc2 h
    refine WpC.seq ?_
    refine rS {} [4] [] hN (by kernel_rfl) (by kernel_rfl) ?_
    refine tnU ?_
    refine WpC.ret ?_
    refine thenQ_ret ?_
    have hq := Option.some.inj h
    subst hq
    exact eR (by kernel_rfl) (by kernel_rfl)
  · replace h := ite_f hc2 h
    refine WpC.conv (cS [.k [0, 1] []] (by kernel_rfl) (by kernel_rfl)) (WpC.skip ?_)
    refine tnU ?_
    refine WpC.seq ?_
    refine WpC.seq ?_
    refine rS {} [0, 1, 18] [] hN (by kernel_rfl) (by kernel_rfl) ?_
    refine tnU ?_
    refine tS (b := (decide ((a0.length : Int) > 200))) (by kernel_rfl) (fun hc3 => ?_) (fun hc3 => ?_)
    · replace h := ite_t hc3 h
      refine WpC.seq ?_
      refine rS {} [4] [] hN (by kernel_rfl) (by kernel_rfl) ?_
      refine tnU ?_
      refine WpC.ret ?_
      refine thenQ_ret ?_
      have hq := Option.some.inj h
      subst hq
      exact eR (by kernel_rfl) (by kernel_rfl)
    · replace h := ite_f hc3 h
      refine WpC.conv (cS [.k [0, 1] []] (by kernel_rfl) (by kernel_rfl)) (WpC.skip ?_)
      refine tnU ?_
      refine WpC.seq ?_
      obtain ⟨v4, hv4, h⟩ := bind_some h
      refine rS { its := [(1, .c (COk.ren (millwrightlaw17_Vars.ok O hO k a1 v4 hv4) (fun n => if n = 60500 then 10001 else if n = 60501 then 10002 else if n = 60502 then 10003 else n) (injOn_of (by kernel_rfl))))] } [0, 5, 7] [10001, 10002] hN (by kernel_rfl) (by kernel_rfl) ?_
      refine tnU ?_
      refine WpC.seq ?_
      refine WpC.seq ?_
      refine rS {} [0, 5, 26] [10001, 10002] hN (by kernel_rfl) (by kernel_rfl) ?_
      refine tnU ?_
      refine tS (b := (!v4.2.2.2.2)) (by kernel_rfl) (fun hc5 => ?_) (fun hc5 => ?_)
      · replace h := ite_t hc5 h
        refine WpC.seq ?_
        refine rS {} [4] [] hN (by kernel_rfl) (by kernel_rfl) ?_
        refine tnU ?_
        refine WpC.ret ?_
        refine thenQ_ret ?_
        have hq := Option.some.inj h
        subst hq
        exact eR (by kernel_rfl) (by kernel_rfl)
      · replace h := ite_f hc5 h
        refine WpC.conv (cS [.k [0, 5] [10001, 10002]] (by kernel_rfl) (by kernel_rfl)) (WpC.skip ?_)
        refine tnU ?_
        refine sqJ (fun st' => millwrightlaw17_ExpandPlain.j17 k a0 v4 = some out ∧ st' = ⟨[(0, .p .str a0), (5, .opt v4.1 10001)], [(10001, .opt v4.1 (.box [.mp 10002])), (10002, .opt v4.1 (.map (.named 3) v4.2.1))]⟩) ?_ ?_
        · refine WpC.seq ?_
          refine rS {} [0, 5, 8] [10001, 10002] hN (by kernel_rfl) (by kernel_rfl) ?_
          refine tnU ?_
          refine WpC.block ?_
          obtain ⟨o20, hlo20, h⟩ := bind_some h
          have hout21 := h
          clear h
          refine WpC.loop (U := Un) (fun n st' => ∃ v18 : Int, millwrightlaw17_ExpandPlain.l19 k a0 v4 n v18 = some o20 ∧ st' = ⟨[(0, .p .str a0), (5, .opt v4.1 10001), (8, .p I6 v18)], [(10001, .opt v4.1 (.box [.mp 10002])), (10002, .opt v4.1 (.map (.named 3) v4.2.1))]⟩) k ⟨0, hlo20, by kernel_rfl⟩ ?_
          clear hlo20
          rintro (_ | n) _ ⟨v18, h, rfl⟩
          · cases h
          · rw [millwrightlaw17_ExpandPlain.l19] at h
            refine WpC.seq ?_
            refine WpC.seq ?_
            refine rS {} [0, 5, 8, 30] [10001, 10002] hN (by kernel_rfl) (by kernel_rfl) ?_
            refine tnU ?_
            refine tS (b := (decide (v18 < (a0.length : Int)))) (by kernel_rfl) (fun hc22 => ?_) (fun hc22 => ?_)
            · replace h := ite_t hc22 h
              refine WpC.conv (cS [.k [0, 5, 8] [10001, 10002]] (by kernel_rfl) (by kernel_rfl)) (WpC.skip ?_)
              refine tnU ?_
              refine sqJ (fun st' => millwrightlaw17_ExpandPlain.j23 k (millwrightlaw17_ExpandPlain.l19 k a0 v4 n) a0 v4 v18 = some o20 ∧ st' = ⟨[(0, .p .str a0), (5, .opt v4.1 10001), (8, .p I6 v18)], [(10001, .opt v4.1 (.box [.mp 10002])), (10002, .opt v4.1 (.map (.named 3) v4.2.1))]⟩) ?_ ?_
              · refine WpC.block ?_
                refine sqJ (fun st' => ∃ v24 : Bool, millwrightlaw17_ExpandPlain.j26 k (millwrightlaw17_ExpandPlain.l19 k a0 v4 n) a0 v4 v18 v24 = some o20 ∧ st' = ⟨[(0, .p .str a0), (5, .opt v4.1 10001), (8, .p I6 v18), (48, .p .bool v24)], [(10001, .opt v4.1 (.box [.mp 10002])), (10002, .opt v4.1 (.map (.named 3) v4.2.1))]⟩) ?_ ?_
                · obtain ⟨v27, hv27, h⟩ := bind_some h
                  rcases bool_cases ((v27.toNat : Int) == 39) with hc28 | hc28
                  · replace h := ite_t hc28 h
                    refine rS { its := [(2, .u hv27)], kn := [(37, .t hc28)] } [0, 5, 8, 48] [10001, 10002] hN (by kernel_rfl) (by kernel_rfl) ?_
                    refine tnU ?_
                    exact ⟨true, h, by kernel_rfl⟩
                  · replace h := ite_f hc28 h
                    obtain ⟨v29, hv29, h⟩ := bind_some h
                    rcases bool_cases ((v29.toNat : Int) == 96) with hc30 | hc30
                    · replace h := ite_t hc30 h
                      refine rS { its := [(2, .u hv27), (7, .u hv29)], kn := [(37, .f hc28), (43, .t hc30)] } [0, 5, 8, 48] [10001, 10002] hN (by kernel_rfl) (by kernel_rfl) ?_
                      refine tnU ?_
                      exact ⟨true, h, by kernel_rfl⟩
                    · replace h := ite_f hc30 h
                      obtain ⟨v31, hv31, h⟩ := bind_some h
                      refine rS { its := [(2, .u hv27), (7, .u hv29), (13, .u hv31)], kn := [(37, .f hc28), (43, .f hc30)] } [0, 5, 8, 48] [10001, 10002] hN (by kernel_rfl) (by kernel_rfl) ?_
                      refine tnU ?_
                      exact ⟨((v31.toNat : Int) == 36), h, by kernel_rfl⟩
                · rintro _ ⟨v24, h, rfl⟩
                  unfold millwrightlaw17_ExpandPlain.j26 at h
                  refine tS (b := v24) (by kernel_rfl) (fun hc25 => ?_) (fun hc25 => ?_)
                  · replace h := ite_t hc25 h
                    refine WpC.seq ?_
                    refine rS {} [4] [] hN (by kernel_rfl) (by kernel_rfl) ?_
                    refine tnU ?_
                    refine WpC.ret ?_
                    refine blockQ_ret ?_
                    refine thenQ_ret ?_
                    have hq := Option.some.inj h
                    subst hq
                    refine thenQ_ret ?_
                    have h := hout21
                    refine blockQ_ret ?_
                    refine thenQ_ret ?_
                    have hq := Option.some.inj h
                    subst hq
                    exact eR (by kernel_rfl) (by kernel_rfl)
                  · replace h := ite_f hc25 h
                    refine WpC.conv (cS [.k [0, 5, 8] [10001, 10002]] (by kernel_rfl) (by kernel_rfl)) (WpC.skip ?_)
                    refine blockQ_normal ?_
                    refine tnU ?_
                    exact ⟨h, by kernel_rfl⟩
              · rintro _ ⟨h, rfl⟩
                unfold millwrightlaw17_ExpandPlain.j23 at h
                refine rS {} [0, 5, 8] [10001, 10002] hN (by kernel_rfl) (by kernel_rfl) ?_
                refine tnU ?_
                exact ⟨n, Nat.lt_succ_self n, (IntKind.i64.wrap (v18 + 1)), h, by kernel_rfl⟩
            · replace h := ite_f hc22 h
              refine WpC.conv (cS [.k [0, 5] [10001, 10002]] (by kernel_rfl) (by kernel_rfl)) (WpC.exit ?_)
              refine thenQ_exit ?_
              have hq := Option.some.inj h
              subst hq
              refine thenQ_exit ?_
              have h := hout21
              refine blockQ_hit ?_
              refine tnU ?_
              exact ⟨h, by kernel_rfl⟩
        · rintro _ ⟨h, rfl⟩
          unfold millwrightlaw17_ExpandPlain.j17 at h
          refine WpC.seq ?_
          obtain ⟨v6, hv6, h⟩ := bind_some h
          refine rS { its := [(1, .c (millwrightref11_Fields.ok O hO k a0 v6 hv6))] } [0, 5, 9] [10001, 10002] hN (by kernel_rfl) (by kernel_rfl) ?_
          refine tnU ?_
          refine WpC.seq ?_
          refine WpC.seq ?_
          obtain ⟨v7, hv7, h⟩ := bind_some h
          refine rS { its := [(1, .c (millwrightnum_Long.ok O hO k v6 40 120 v7 hv7))] } [0, 5, 9, 52] [10001, 10002] hN (by kernel_rfl) (by kernel_rfl) ?_
          refine tnU ?_
          refine tS (b := v7) (by kernel_rfl) (fun hc8 => ?_) (fun hc8 => ?_)
          · replace h := ite_t hc8 h
            refine WpC.seq ?_
            refine rS {} [4] [] hN (by kernel_rfl) (by kernel_rfl) ?_
            refine tnU ?_
            refine WpC.ret ?_
            refine thenQ_ret ?_
            have hq := Option.some.inj h
            subst hq
            exact eR (by kernel_rfl) (by kernel_rfl)
          · replace h := ite_f hc8 h
            refine WpC.conv (cS [.k [0, 5, 9] [10001, 10002]] (by kernel_rfl) (by kernel_rfl)) (WpC.skip ?_)
            refine tnU ?_
            refine WpC.seq ?_
            obtain ⟨hc9, h⟩ := if_some h
            refine WpC.conv (cS [.oS 5 hc9, .k [0, 5, 9] [10001, 10002], .oK 10001 hc9, .k [0, 5, 9] [10001, 10002], .oK 10002 hc9, .k [0, 5, 9] [10001, 10002]] (by kernel_rfl) (by kernel_rfl)) ?_
            obtain ⟨v10, hv10, h⟩ := bind_some h
            refine rS { its := [(2, .c (COk.ren (expand_Text_m0.ok O hO k a0 v4.2.1 [] v10 hv10) (fun n => if n = 100000 then 10001 else if n = 100001 then 10002 else n) (injOn_of (by kernel_rfl))))] } [0, 9, 10, 11] [] hN (by kernel_rfl) (by kernel_rfl) ?_
            refine tnU ?_
            refine WpC.seq ?_
            obtain ⟨v11, hv11, h⟩ := bind_some h
            refine rS { its := [(1, .c (expand_Text_m1.ok O hO k a0 [] v11 hv11))] } [9, 10, 11, 12, 13] [] hN (by kernel_rfl) (by kernel_rfl) ?_
            refine tnU ?_
            refine WpC.seq ?_
            rcases bool_cases (v10.2 == 0) with hc12 | hc12
            · replace h := ite_t hc12 h
              rcases bool_cases (v11.2 == 0) with hc13 | hc13
              · replace h := ite_t hc13 h
                obtain ⟨v14, hv14, h⟩ := bind_some h
                rcases bool_cases v14 with hc15 | hc15
                · replace h := ite_t hc15 h
                  obtain ⟨v16, hv16, h⟩ := bind_some h
                  refine rS { its := [(9, .c (millwrightnum_SameTexts.ok O hO k v10.1 v6 v14 hv14)), (14, .c (millwrightnum_SameTexts.ok O hO k v11.1 v6 v16 hv16))], kn := [(66, .t hc12), (70, .t hc13), (75, .t hc15)] } [4] [] hN (by kernel_rfl) (by kernel_rfl) ?_
                  refine tnU ?_
                  refine WpC.ret ?_
                  have hq := Option.some.inj h
                  subst hq
                  exact eR (by kernel_rfl) (by kernel_rfl)
                · replace h := ite_f hc15 h
                  refine rS { its := [(9, .c (millwrightnum_SameTexts.ok O hO k v10.1 v6 v14 hv14))], kn := [(66, .t hc12), (70, .t hc13), (75, .f hc15)] } [4] [] hN (by kernel_rfl) (by kernel_rfl) ?_
                  refine tnU ?_
                  refine WpC.ret ?_
                  have hq := Option.some.inj h
                  subst hq
                  exact eR (by kernel_rfl) (by kernel_rfl)
              · replace h := ite_f hc13 h
                refine rS { kn := [(66, .t hc12), (70, .f hc13)] } [4] [] hN (by kernel_rfl) (by kernel_rfl) ?_
                refine tnU ?_
                refine WpC.ret ?_
                have hq := Option.some.inj h
                subst hq
                exact eR (by kernel_rfl) (by kernel_rfl)
            · replace h := ite_f hc12 h
              refine rS { kn := [(66, .f hc12)] } [4] [] hN (by kernel_rfl) (by kernel_rfl) ?_
              refine tnU ?_
              refine WpC.ret ?_
              have hq := Option.some.inj h
              subst hq
              exact eR (by kernel_rfl) (by kernel_rfl)

end Go.Proofs.YtldepagjdbcmgaaDoor
