/- A part of the proof of a given law: XWC3. Own work, printed in part by a program of mine. -/
import Derived.Test.YtldepagjdbcmgaaGreatDoorK23XWC2
namespace Go.Proofs.YtldepagjdbcmgaaGreatDoor
open Go Go.AM
set_option linter.unusedVariables false
set_option linter.unusedSimpArgs false
set_option maxRecDepth 100000
set_option maxHeartbeats 4000000
theorem expand_Words_m0.ok (O : Out) (hO : GOk O) (k : Nat) (a0 : List (List T_lex_Piece)) (a1 : List ((List UInt8) × T_env_Var)) (a2 : List T_expand_Output) (out : (List (List UInt8)) × Nat) (h : expand_Words_m0.f k a0 a1 a2 = some out) : COk Un O Tryz.prog 24 { ar := [.p (.list (.list (.named 5))) a0, .loc 100000 0, .p (.list (.named 4)) a2], r := .tup [.p (.list .str) out.1, .p .err out.2], bs := [(100000, .box [.mp 100001]), (100001, .map (.named 3) a1)], bs' := [(100000, .box [.mp 100001]), (100001, .map (.named 3) a1)] } := by
  refine cok_of_wp Tryz.func24 rfl (k := 38) rfl (Nat.le_of_ble_eq_true rfl) (namesOk_of (by kernel_rfl)) ?_
  intro B hN
  refine WpC.conv (cvK (b := ⟨[(0, .p (.list (.list (.named 5))) a0), (1, .loc 100000 0), (2, .p (.list (.named 4)) a2)], [(100000, .box [.mp 100001]), (100001, .map (.named 3) a1)]⟩) [0, 1, 2] [100000, 100001] (by kernel_rfl)) ?_
  unfold expand_Words_m0.f at h
  refine WpC.seq ?_
  refine rS {} [0, 1, 2] [100000, 100001] hN (by kernel_rfl) (by kernel_rfl) ?_
  refine tnU ?_
  refine WpC.seq ?_
  refine rS {} [0, 1, 2, 8] [100000, 100001] hN (by kernel_rfl) (by kernel_rfl) ?_
  refine tnU ?_
  refine sqJ (fun st' => ∃ v1 : List (List UInt8), expand_Words_m0.j3 k a1 v1 = some out ∧ st' = ⟨[(8, .vec 1008 1 0 v1.length)], [(1008, .row 9 .str v1 false), (100000, .box [.mp 100001]), (100001, .map (.named 3) a1)]⟩) ?_ ?_
  · refine WpC.seq ?_
    refine rS {} [1, 2, 8, 13, 14, 15] [100000, 100001] hN (by kernel_rfl) (by kernel_rfl) ?_
    refine tnU ?_
    refine WpC.block ?_
    obtain ⟨o8, hlo8, h⟩ := bind_some h
    have hout9 := h
    clear h
    refine WpC.conv (cS [.th 8 1008 9 .str, .k [1, 2, 8, 13, 14, 15] [1008, 100000, 100001]] (by kernel_rfl) (by kernel_rfl)) ?_
    refine WpC.loop (U := Un) (fun n st' => ∃ v4 : List (List UInt8), ∃ v5 : Int, expand_Words_m0.l6 k a0 a1 a2 n v4 v5 = some o8 ∧ st' = ⟨[(1, .loc 100000 0), (2, .p (.list (.named 4)) a2), (8, .vec 1008 1 0 v4.length), (13, .p (.list (.list (.named 5))) a0), (14, .p I6 ((a0.length : Int) : Int)), (15, .p I6 v5)], [(1008, .row 9 .str v4 false), (100000, .box [.mp 100001]), (100001, .map (.named 3) a1)]⟩) k ⟨[], 0, hlo8, by kernel_rfl⟩ ?_
    clear hlo8
    rintro (_ | n) _ ⟨v4, v5, h, rfl⟩
    · cases h
    · rw [expand_Words_m0.l6] at h
      refine WpC.seq ?_
      refine rS {} [1, 2, 8, 13, 14, 15, 16] [1008, 100000, 100001] hN (by kernel_rfl) (by kernel_rfl) ?_
      refine tnU ?_
      refine WpC.seq ?_
      refine tS (b := (decide (v5 < (a0.length : Int)))) (by kernel_rfl) (fun hc10 => ?_) (fun hc10 => ?_)
      · replace h := ite_t hc10 h
        refine WpC.conv (cS [.k [1, 2, 8, 13, 14, 15] [1008, 100000, 100001]] (by kernel_rfl) (by kernel_rfl)) (WpC.skip ?_)
        refine tnU ?_
        refine WpC.seq ?_
        refine WpC.block ?_
        refine WpC.seq ?_
        obtain ⟨v11, hv11, h⟩ := bind_some h
        refine rS { its := [(0, .v (.list (.named 5)) hv11)] } [1, 2, 8, 10, 13, 14, 15] [1008, 100000, 100001] hN (by kernel_rfl) (by kernel_rfl) ?_
        refine tnU ?_
        refine WpC.seq ?_
        obtain ⟨v12, hv12, h⟩ := bind_some h
        refine rS { its := [(3, .c (COk.ren (expand_Word_m0.ok O hO k v11 a1 a2 v12 hv12) (fun n => if n = 100000 then 100000 else if n = 100001 then 100001 else n) (injOn_of (by kernel_rfl))))] } [1, 2, 8, 11, 12, 13, 14, 15] [1008, 100000, 100001] hN (by kernel_rfl) (by kernel_rfl) ?_
        refine tnU ?_
        refine WpC.seq ?_
        refine WpC.seq ?_
        refine rS {} [1, 2, 8, 11, 12, 13, 14, 15, 27] [1008, 100000, 100001] hN (by kernel_rfl) (by kernel_rfl) ?_
        refine tnU ?_
        refine tS (b := (!(v12.2 == 0))) (by kernel_rfl) (fun hc13 => ?_) (fun hc13 => ?_)
        · replace h := ite_t hc13 h
          refine WpC.seq ?_
          refine rS {} [6, 7] [100000, 100001] hN (by kernel_rfl) (by kernel_rfl) ?_
          refine tnU ?_
          refine WpC.conv (cS [.nL 6 .str, .k [6, 7] [100000, 100001]] (by kernel_rfl) (by kernel_rfl)) (WpC.ret ?_)
          refine thenQ_ret ?_
          refine blockQ_ret ?_
          refine thenQ_ret ?_
          have hq := Option.some.inj h
          subst hq
          refine thenQ_ret ?_
          have h := hout9
          refine blockQ_ret ?_
          refine thenQ_ret ?_
          have hq := Option.some.inj h
          subst hq
          exact eR (by kernel_rfl) (by kernel_rfl)
        · replace h := ite_f hc13 h
          refine WpC.conv (cS [.k [1, 2, 8, 11, 13, 14, 15] [1008, 100000, 100001]] (by kernel_rfl) (by kernel_rfl)) (WpC.skip ?_)
          refine tnU ?_
          obtain ⟨g14, h⟩ := if_some h
          refine rS { its := [(2, .g g14)] } [1, 2, 8, 13, 14, 15] [31, 100000, 100001] hN (by kernel_rfl) (by kernel_rfl) ?_
          refine blockQ_normal ?_
          refine tnU ?_
          refine rSC {} [1, 2, 8, 13, 14, 15] [31, 100000, 100001] hN (by kernel_rfl) (by kernel_rfl) (cS [.rn 31 1008, .k [1, 2, 8, 13, 14, 15] [1008, 100000, 100001]] (by kernel_rfl) (by kernel_rfl)) ?_
          refine tnU ?_
          exact ⟨n, Nat.lt_succ_self n, (v4 ++ v12.1), (IntKind.i64.wrap (v5 + 1)), h, by kernel_rfl⟩
      · replace h := ite_f hc10 h
        refine WpC.conv (cS [.k [8] [1008, 100000, 100001]] (by kernel_rfl) (by kernel_rfl)) (WpC.exit ?_)
        refine thenQ_exit ?_
        have hq := Option.some.inj h
        subst hq
        refine thenQ_exit ?_
        have h := hout9
        refine blockQ_hit ?_
        refine tnU ?_
        exact ⟨v4, h, by kernel_rfl⟩
  · rintro _ ⟨v1, h, rfl⟩
    unfold expand_Words_m0.j3 at h
    refine WpC.seq ?_
    refine WpC.seq ?_
    refine rS {} [8, 35] [1008, 100000, 100001] hN (by kernel_rfl) (by kernel_rfl) ?_
    refine tnU ?_
    refine tS (b := (decide ((v1.length : Int) > 40))) (by kernel_rfl) (fun hc2 => ?_) (fun hc2 => ?_)
    · replace h := ite_t hc2 h
      refine WpC.seq ?_
      refine rA { its := [(0, .e 0 (sok_loadG (U := Un) (t := .err) (rs := []) rfl rfl ty_32 rfl rfl (hO.var 9 0 rfl) (fun S w => .err 9)))] } [6, 7] [100000, 100001] hN (by kernel_rfl) (by kernel_rfl) (by kernel_rfl) ?_
      refine tnU ?_
      refine WpC.conv (cS [.nL 6 .str, .k [6, 7] [100000, 100001]] (by kernel_rfl) (by kernel_rfl)) (WpC.ret ?_)
      refine thenQ_ret ?_
      have hq := Option.some.inj h
      subst hq
      exact eR (by kernel_rfl) (by kernel_rfl)
    · replace h := ite_f hc2 h
      refine WpC.conv (cS [.k [8] [1008, 100000, 100001]] (by kernel_rfl) (by kernel_rfl)) (WpC.skip ?_)
      refine tnU ?_
      refine WpC.seq ?_
      refine rS {} [6, 7] [1008, 100000, 100001] hN (by kernel_rfl) (by kernel_rfl) ?_
      refine tnU ?_
      refine WpC.conv (cS [.fz 6, .k [6, 7] [100000, 100001], .nE 7, .k [6, 7] [100000, 100001]] (by kernel_rfl) (by kernel_rfl)) (WpC.ret ?_)
      have hq := Option.some.inj h
      subst hq
      exact eR (by kernel_rfl) (by kernel_rfl)

theorem expand_Text_m0.ok (O : Out) (hO : GOk O) (k : Nat) (a0 : List UInt8) (a1 : List ((List UInt8) × T_env_Var)) (a2 : List T_expand_Output) (out : (List (List UInt8)) × Nat) (h : expand_Text_m0.f k a0 a1 a2 = some out) : COk Un O Tryz.prog 9 { ar := [.p .str a0, .loc 100000 0, .p (.list (.named 4)) a2], r := .tup [.p (.list .str) out.1, .p .err out.2], bs := [(100000, .box [.mp 100001]), (100001, .map (.named 3) a1)], bs' := [(100000, .box [.mp 100001]), (100001, .map (.named 3) a1)] } := by
  refine cok_of_wp Tryz.func9 rfl (k := 24) rfl (Nat.le_of_ble_eq_true rfl) (namesOk_of (by kernel_rfl)) ?_
  intro B hN
  refine WpC.conv (cvK (b := ⟨[(0, .p .str a0), (1, .loc 100000 0), (2, .p (.list (.named 4)) a2)], [(100000, .box [.mp 100001]), (100001, .map (.named 3) a1)]⟩) [0, 1, 2] [100000, 100001] (by kernel_rfl)) ?_
  unfold expand_Text_m0.f at h
  refine WpC.seq ?_
  refine rS {} [0, 1, 2] [100000, 100001] hN (by kernel_rfl) (by kernel_rfl) ?_
  refine tnU ?_
  refine WpC.seq ?_
  obtain ⟨v1, hv1, h⟩ := bind_some h
  refine rS { its := [(1, .c (lex_Words.ok O hO k a0 v1 hv1))] } [1, 2, 8, 9] [100000, 100001] hN (by kernel_rfl) (by kernel_rfl) ?_
  refine tnU ?_
  refine WpC.seq ?_
  refine WpC.seq ?_
  refine rS {} [1, 2, 8, 9, 16] [100000, 100001] hN (by kernel_rfl) (by kernel_rfl) ?_
  refine tnU ?_
  refine tS (b := (!(v1.2 == 0))) (by kernel_rfl) (fun hc2 => ?_) (fun hc2 => ?_)
  · replace h := ite_t hc2 h
    refine WpC.seq ?_
    refine rS {} [6, 7] [100000, 100001] hN (by kernel_rfl) (by kernel_rfl) ?_
    refine tnU ?_
    refine WpC.conv (cS [.nL 6 .str, .k [6, 7] [100000, 100001]] (by kernel_rfl) (by kernel_rfl)) (WpC.ret ?_)
    refine thenQ_ret ?_
    have hq := Option.some.inj h
    subst hq
    exact eR (by kernel_rfl) (by kernel_rfl)
  · replace h := ite_f hc2 h
    refine WpC.conv (cS [.k [1, 2, 8] [100000, 100001]] (by kernel_rfl) (by kernel_rfl)) (WpC.skip ?_)
    refine tnU ?_
    refine WpC.seq ?_
    obtain ⟨v3, hv3, h⟩ := bind_some h
    refine rS { its := [(3, .c (COk.ren (expand_Words_m0.ok O hO k v1.1 a1 a2 v3 hv3) (fun n => if n = 100000 then 100000 else if n = 100001 then 100001 else n) (injOn_of (by kernel_rfl))))] } [6, 7] [100000, 100001] hN (by kernel_rfl) (by kernel_rfl) ?_
    refine tnU ?_
    refine WpC.ret ?_
    have hq := Option.some.inj h
    subst hq
    exact eR (by kernel_rfl) (by kernel_rfl)

theorem millwrightlaw17_alive.ok (O : Out) (hO : GOk O) (k : Nat) (out : Bool) (h : millwrightlaw17_alive.f k = some out) : COk Un O Tryz.prog 6 { ar := [], r := .p .bool out } := by
  refine cok_of_wp Tryz.func6 rfl (k := 38) rfl (Nat.le_of_ble_eq_true rfl) (namesOk_pure rfl rfl rfl rfl) ?_
  intro B hN
  refine WpC.conv (cvK (b := ⟨[], []⟩) [] [] (by kernel_rfl)) ?_
  unfold millwrightlaw17_alive.f at h
  refine WpC.seq ?_
  refine rS {} [] [] hN (by kernel_rfl) (by kernel_rfl) ?_
  refine tnU ?_
  refine WpC.seq ?_
  obtain ⟨v1, hv1, h⟩ := bind_some h
  refine rS { its := [(0, .c (COk.ren (env_New.ok O hO k v1 hv1) (fun n => if n = 60500 then 10001 else if n = 60501 then 10002 else n) (injOn_of (by kernel_rfl))))] } [1] [10001, 10002] hN (by kernel_rfl) (by kernel_rfl) ?_
  refine tnU ?_
  refine sqJ (fun st' => ∃ v2 : List ((List UInt8) × T_env_Var), millwrightlaw17_alive.j9 k v2 = some out ∧ st' = ⟨[(1, .loc 10001 0)], [(10001, .box [.mp 10002]), (10002, .map (.named 3) v2)]⟩) ?_ ?_
  · refine sqJ (fun st' => ∃ v10 : List ((List UInt8) × T_env_Var), ∃ v11 : Bool, millwrightlaw17_alive.j13 k v10 v11 = some out ∧ st' = ⟨[(1, .loc 10001 0), (13, .p .bool v11)], [(10001, .box [.mp 10002]), (10002, .map (.named 3) v10)]⟩) ?_ ?_
    · obtain ⟨v14, hv14, h⟩ := bind_some h
      refine rS { its := [(6, .c (COk.ren (env_Env_Set_m0.ok O hO k v1 (T_env_Var.mk ([120] : List UInt8) [([97] : List UInt8), ([98] : List UInt8)] 0 false) v14 hv14) (fun n => if n = 100000 then 10001 else if n = 100001 then 10002 else n) (injOn_of (by kernel_rfl))))], fz := [4] } [1, 13] [10001, 10002] hN (by kernel_rfl) (by kernel_rfl) ?_
      refine tnU ?_
      exact ⟨v14.2, (!(v14.1 == 0)), h, by kernel_rfl⟩
    · rintro _ ⟨v10, v11, h, rfl⟩
      unfold millwrightlaw17_alive.j13 at h
      refine tS (b := v11) (by kernel_rfl) (fun hc12 => ?_) (fun hc12 => ?_)
      · replace h := ite_t hc12 h
        refine WpC.seq ?_
        refine rS {} [0] [] hN (by kernel_rfl) (by kernel_rfl) ?_
        refine tnU ?_
        refine WpC.ret ?_
        refine thenQ_ret ?_
        have hq := Option.some.inj h
        subst hq
        exact eR (by kernel_rfl) (by kernel_rfl)
      · replace h := ite_f hc12 h
        refine WpC.conv (cS [.k [1] [10001, 10002]] (by kernel_rfl) (by kernel_rfl)) (WpC.skip ?_)
        refine tnU ?_
        exact ⟨v10, h, by kernel_rfl⟩
  · rintro _ ⟨v2, h, rfl⟩
    unfold millwrightlaw17_alive.j9 at h
    refine WpC.seq ?_
    obtain ⟨v3, hv3, h⟩ := bind_some h
    refine rS { its := [(1, .c (COk.ren (expand_Text_m0.ok O hO k ([112, 36, 123, 120, 125, 46, 99] : List UInt8) v2 [] v3 hv3) (fun n => if n = 100000 then 10001 else if n = 100001 then 10002 else n) (injOn_of (by kernel_rfl))))] } [2, 3] [] hN (by kernel_rfl) (by kernel_rfl) ?_
    refine tnU ?_
    refine WpC.seq ?_
    rcases bool_cases (v3.2 == 0) with hc4 | hc4
    · replace h := ite_t hc4 h
      rcases bool_cases ((v3.1.length : Int) == 2) with hc5 | hc5
      · replace h := ite_t hc5 h
        obtain ⟨v6, hv6, h⟩ := bind_some h
        rcases bool_cases (v6 == ([112, 97] : List UInt8)) with hc7 | hc7
        · replace h := ite_t hc7 h
          obtain ⟨v8, hv8, h⟩ := bind_some h
          refine rS { its := [(9, .v .str hv6), (15, .v .str hv8)], kn := [(21, .t hc4), (26, .t hc5), (32, .t hc7)] } [0] [] hN (by kernel_rfl) (by kernel_rfl) ?_
          refine tnU ?_
          refine WpC.ret ?_
          have hq := Option.some.inj h
          subst hq
          exact eR (by kernel_rfl) (by kernel_rfl)
        · replace h := ite_f hc7 h
          refine rS { its := [(9, .v .str hv6)], kn := [(21, .t hc4), (26, .t hc5), (32, .f hc7)] } [0] [] hN (by kernel_rfl) (by kernel_rfl) ?_
          refine tnU ?_
          refine WpC.ret ?_
          have hq := Option.some.inj h
          subst hq
          exact eR (by kernel_rfl) (by kernel_rfl)
      · replace h := ite_f hc5 h
        refine rS { kn := [(21, .t hc4), (26, .f hc5)] } [0] [] hN (by kernel_rfl) (by kernel_rfl) ?_
        refine tnU ?_
        refine WpC.ret ?_
        have hq := Option.some.inj h
        subst hq
        exact eR (by kernel_rfl) (by kernel_rfl)
    · replace h := ite_f hc4 h
      refine rS { kn := [(21, .f hc4)] } [0] [] hN (by kernel_rfl) (by kernel_rfl) ?_
      refine tnU ?_
      refine WpC.ret ?_
      have hq := Option.some.inj h
      subst hq
      exact eR (by kernel_rfl) (by kernel_rfl)

theorem millwrightlaw17_LongOutputs.ok (O : Out) (hO : GOk O) (k : Nat) (a0 : List T_expand_Output) (a1 : Int) (out : Bool) (h : millwrightlaw17_LongOutputs.f k a0 a1 = some out) : COk Un O Tryz.prog 7 { ar := [.p (.list (.named 4)) a0, .p I6 a1], r := .p .bool out } := by
  refine cok_of_wp Tryz.func7 rfl (k := 28) rfl (Nat.le_of_ble_eq_true rfl) (namesOk_pure rfl rfl rfl rfl) ?_
  intro B hN
  refine WpC.conv (cvK (b := ⟨[(0, .p (.list (.named 4)) a0), (1, .p I6 a1)], []⟩) [0, 1] [] (by kernel_rfl)) ?_
  unfold millwrightlaw17_LongOutputs.f at h
  refine WpC.seq ?_
  refine rS {} [0, 1] [] hN (by kernel_rfl) (by kernel_rfl) ?_
  refine tnU ?_
  refine WpC.seq ?_
  refine WpC.seq ?_
  refine rS {} [0, 10] [] hN (by kernel_rfl) (by kernel_rfl) ?_
  refine tnU ?_
  refine tS (b := (decide ((a0.length : Int) > a1))) (by kernel_rfl) (fun hc1 => ?_) (fun hc1 => ?_)
  · replace h := ite_t hc1 h
    refine WpC.seq ?_
    refine rS {} [4] [] hN (by kernel_rfl) (by kernel_rfl) ?_
    refine tnU ?_
    refine WpC.ret ?_
    refine thenQ_ret ?_
    have hq := Option.some.inj h
    subst hq
    exact eR (by kernel_rfl) (by kernel_rfl)
  · replace h := ite_f hc1 h
    refine WpC.conv (cS [.k [0] []] (by kernel_rfl) (by kernel_rfl)) (WpC.skip ?_)
    refine tnU ?_
    refine sqJ (fun st' => millwrightlaw17_LongOutputs.j2 k = some out ∧ st' = ⟨[], []⟩) ?_ ?_
    · refine WpC.seq ?_
      refine rS {} [11, 12, 13] [] hN (by kernel_rfl) (by kernel_rfl) ?_
      refine tnU ?_
      refine WpC.block ?_
      obtain ⟨o5, hlo5, h⟩ := bind_some h
      have hout6 := h
      clear h
      refine WpC.loop (U := Un) (fun n st' => ∃ v3 : Int, millwrightlaw17_LongOutputs.l4 k a0 n v3 = some o5 ∧ st' = ⟨[(11, .p (.list (.named 4)) a0), (12, .p I6 ((a0.length : Int) : Int)), (13, .p I6 v3)], []⟩) k ⟨0, hlo5, by kernel_rfl⟩ ?_
      clear hlo5
      rintro (_ | n) _ ⟨v3, h, rfl⟩
      · cases h
      · rw [millwrightlaw17_LongOutputs.l4] at h
        refine WpC.seq ?_
        refine rS {} [11, 12, 13, 14] [] hN (by kernel_rfl) (by kernel_rfl) ?_
        refine tnU ?_
        refine WpC.seq ?_
        refine tS (b := (decide (v3 < (a0.length : Int)))) (by kernel_rfl) (fun hc7 => ?_) (fun hc7 => ?_)
        · replace h := ite_t hc7 h
          refine WpC.conv (cS [.k [11, 12, 13] []] (by kernel_rfl) (by kernel_rfl)) (WpC.skip ?_)
          refine tnU ?_
          refine sqJ (fun st' => millwrightlaw17_LongOutputs.j8 k (millwrightlaw17_LongOutputs.l4 k a0 n) a0 v3 = some o5 ∧ st' = ⟨[(11, .p (.list (.named 4)) a0), (12, .p I6 ((a0.length : Int) : Int)), (13, .p I6 v3)], []⟩) ?_ ?_
          · refine WpC.block ?_
            refine WpC.seq ?_
            obtain ⟨v9, hv9, h⟩ := bind_some h
            refine rS { its := [(0, .v (.named 4) hv9)] } [6, 11, 12, 13] [6] hN (by kernel_rfl) (by kernel_rfl) ?_
            refine tnU ?_
            refine sqJ (fun st' => ∃ v10 : Bool, millwrightlaw17_LongOutputs.j12 k (millwrightlaw17_LongOutputs.l4 k a0 n) a0 v3 v10 = some o5 ∧ st' = ⟨[(11, .p (.list (.named 4)) a0), (12, .p I6 ((a0.length : Int) : Int)), (13, .p I6 v3), (26, .p .bool v10)], []⟩) ?_ ?_
            · rcases bool_cases (decide ((v9.f_Command.length : Int) > 100)) with hc13 | hc13
              · replace h := ite_t hc13 h
                refine rS { kn := [(21, .t hc13)] } [11, 12, 13, 26] [] hN (by kernel_rfl) (by kernel_rfl) ?_
                refine tnU ?_
                exact ⟨true, h, by kernel_rfl⟩
              · replace h := ite_f hc13 h
                refine rS { kn := [(21, .f hc13)] } [11, 12, 13, 26] [] hN (by kernel_rfl) (by kernel_rfl) ?_
                refine tnU ?_
                exact ⟨(decide ((v9.f_Text.length : Int) > 600)), h, by kernel_rfl⟩
            · rintro _ ⟨v10, h, rfl⟩
              unfold millwrightlaw17_LongOutputs.j12 at h
              refine tS (b := v10) (by kernel_rfl) (fun hc11 => ?_) (fun hc11 => ?_)
              · replace h := ite_t hc11 h
                refine WpC.seq ?_
                refine rS {} [4] [] hN (by kernel_rfl) (by kernel_rfl) ?_
                refine tnU ?_
                refine WpC.ret ?_
                refine blockQ_ret ?_
                refine thenQ_ret ?_
                have hq := Option.some.inj h
                subst hq
                refine thenQ_ret ?_
                have h := hout6
                refine blockQ_ret ?_
                refine thenQ_ret ?_
                have hq := Option.some.inj h
                subst hq
                exact eR (by kernel_rfl) (by kernel_rfl)
              · replace h := ite_f hc11 h
                refine WpC.conv (cS [.k [11, 12, 13] []] (by kernel_rfl) (by kernel_rfl)) (WpC.skip ?_)
                refine blockQ_normal ?_
                refine tnU ?_
                exact ⟨h, by kernel_rfl⟩
          · rintro _ ⟨h, rfl⟩
            unfold millwrightlaw17_LongOutputs.j8 at h
            refine rS {} [11, 12, 13] [] hN (by kernel_rfl) (by kernel_rfl) ?_
            refine tnU ?_
            exact ⟨n, Nat.lt_succ_self n, (IntKind.i64.wrap (v3 + 1)), h, by kernel_rfl⟩
        · replace h := ite_f hc7 h
          refine WpC.conv (cS [.k [] []] (by kernel_rfl) (by kernel_rfl)) (WpC.exit ?_)
          refine thenQ_exit ?_
          have hq := Option.some.inj h
          subst hq
          refine thenQ_exit ?_
          have h := hout6
          refine blockQ_hit ?_
          refine tnU ?_
          exact ⟨h, by kernel_rfl⟩
    · rintro _ ⟨h, rfl⟩
      unfold millwrightlaw17_LongOutputs.j2 at h
      refine WpC.seq ?_
      refine rS {} [4] [] hN (by kernel_rfl) (by kernel_rfl) ?_
      refine tnU ?_
      refine WpC.ret ?_
      have hq := Option.some.inj h
      subst hq
      exact eR (by kernel_rfl) (by kernel_rfl)

theorem millwrightnum_Long.ok (O : Out) (hO : GOk O) (k : Nat) (a0 : List (List UInt8)) (a1 : Int) (a2 : Int) (out : Bool) (h : millwrightnum_Long.f k a0 a1 a2 = some out) : COk Un O Tryz.prog 17 { ar := [.p (.list .str) a0, .p I6 a1, .p I6 a2], r := .p .bool out } := by
  refine cok_of_wp Tryz.func17 rfl (k := 24) rfl (Nat.le_of_ble_eq_true rfl) (namesOk_pure rfl rfl rfl rfl) ?_
  intro B hN
  refine WpC.conv (cvK (b := ⟨[(0, .p (.list .str) a0), (1, .p I6 a1), (2, .p I6 a2)], []⟩) [0, 1, 2] [] (by kernel_rfl)) ?_
  unfold millwrightnum_Long.f at h
  refine WpC.seq ?_
  refine rS {} [0, 1, 2] [] hN (by kernel_rfl) (by kernel_rfl) ?_
  refine tnU ?_
  refine WpC.seq ?_
  refine WpC.seq ?_
  refine rS {} [0, 2, 12] [] hN (by kernel_rfl) (by kernel_rfl) ?_
  refine tnU ?_
  refine tS (b := (decide ((a0.length : Int) > a1))) (by kernel_rfl) (fun hc1 => ?_) (fun hc1 => ?_)
  · replace h := ite_t hc1 h
    refine WpC.seq ?_
    refine rS {} [6] [] hN (by kernel_rfl) (by kernel_rfl) ?_
    refine tnU ?_
    refine WpC.ret ?_
    refine thenQ_ret ?_
    have hq := Option.some.inj h
    subst hq
    exact eR (by kernel_rfl) (by kernel_rfl)
  · replace h := ite_f hc1 h
    refine WpC.conv (cS [.k [0, 2] []] (by kernel_rfl) (by kernel_rfl)) (WpC.skip ?_)
    refine tnU ?_
    refine sqJ (fun st' => millwrightnum_Long.j2 k = some out ∧ st' = ⟨[], []⟩) ?_ ?_
    · refine WpC.seq ?_
      refine rS {} [2, 13, 14, 15] [] hN (by kernel_rfl) (by kernel_rfl) ?_
      refine tnU ?_
      refine WpC.block ?_
      obtain ⟨o5, hlo5, h⟩ := bind_some h
      have hout6 := h
      clear h
      refine WpC.loop (U := Un) (fun n st' => ∃ v3 : Int, millwrightnum_Long.l4 k a0 a2 n v3 = some o5 ∧ st' = ⟨[(2, .p I6 a2), (13, .p (.list .str) a0), (14, .p I6 ((a0.length : Int) : Int)), (15, .p I6 v3)], []⟩) k ⟨0, hlo5, by kernel_rfl⟩ ?_
      clear hlo5
      rintro (_ | n) _ ⟨v3, h, rfl⟩
      · cases h
      · rw [millwrightnum_Long.l4] at h
        refine WpC.seq ?_
        refine rS {} [2, 13, 14, 15, 16] [] hN (by kernel_rfl) (by kernel_rfl) ?_
        refine tnU ?_
        refine WpC.seq ?_
        refine tS (b := (decide (v3 < (a0.length : Int)))) (by kernel_rfl) (fun hc7 => ?_) (fun hc7 => ?_)
        · replace h := ite_t hc7 h
          refine WpC.conv (cS [.k [2, 13, 14, 15] []] (by kernel_rfl) (by kernel_rfl)) (WpC.skip ?_)
          refine tnU ?_
          refine WpC.seq ?_
          refine WpC.block ?_
          refine WpC.seq ?_
          obtain ⟨v8, hv8, h⟩ := bind_some h
          refine rS { its := [(0, .v .str hv8)] } [2, 8, 13, 14, 15] [] hN (by kernel_rfl) (by kernel_rfl) ?_
          refine tnU ?_
          refine WpC.seq ?_
          refine rS {} [2, 13, 14, 15, 22] [] hN (by kernel_rfl) (by kernel_rfl) ?_
          refine tnU ?_
          refine tS (b := (decide ((v8.length : Int) > a2))) (by kernel_rfl) (fun hc9 => ?_) (fun hc9 => ?_)
          · replace h := ite_t hc9 h
            refine WpC.seq ?_
            refine rS {} [6] [] hN (by kernel_rfl) (by kernel_rfl) ?_
            refine tnU ?_
            refine WpC.ret ?_
            refine blockQ_ret ?_
            refine thenQ_ret ?_
            have hq := Option.some.inj h
            subst hq
            refine thenQ_ret ?_
            have h := hout6
            refine blockQ_ret ?_
            refine thenQ_ret ?_
            have hq := Option.some.inj h
            subst hq
            exact eR (by kernel_rfl) (by kernel_rfl)
          · replace h := ite_f hc9 h
            refine WpC.conv (cS [.k [2, 13, 14, 15] []] (by kernel_rfl) (by kernel_rfl)) (WpC.skip ?_)
            refine blockQ_normal ?_
            refine tnU ?_
            refine rS {} [2, 13, 14, 15] [] hN (by kernel_rfl) (by kernel_rfl) ?_
            refine tnU ?_
            exact ⟨n, Nat.lt_succ_self n, (IntKind.i64.wrap (v3 + 1)), h, by kernel_rfl⟩
        · replace h := ite_f hc7 h
          refine WpC.conv (cS [.k [] []] (by kernel_rfl) (by kernel_rfl)) (WpC.exit ?_)
          refine thenQ_exit ?_
          have hq := Option.some.inj h
          subst hq
          refine thenQ_exit ?_
          have h := hout6
          refine blockQ_hit ?_
          refine tnU ?_
          exact ⟨h, by kernel_rfl⟩
    · rintro _ ⟨h, rfl⟩
      unfold millwrightnum_Long.j2 at h
      refine WpC.seq ?_
      refine rS {} [6] [] hN (by kernel_rfl) (by kernel_rfl) ?_
      refine tnU ?_
      refine WpC.ret ?_
      have hq := Option.some.inj h
      subst hq
      exact eR (by kernel_rfl) (by kernel_rfl)

theorem millwrightlaw14_Long.ok (O : Out) (hO : GOk O) (k : Nat) (a0 : List T_millwrightlaw14_Act) (a1 : Int) (out : Bool) (h : millwrightlaw14_Long.f k a0 a1 = some out) : COk Un O Tryz.prog 33 { ar := [.p (.list (.named 7)) a0, .p I6 a1], r := .p .bool out } := by
  refine cok_of_wp Tryz.func33 rfl (k := 29) rfl (Nat.le_of_ble_eq_true rfl) (namesOk_pure rfl rfl rfl rfl) ?_
  intro B hN
  refine WpC.conv (cvK (b := ⟨[(0, .p (.list (.named 7)) a0), (1, .p I6 a1)], []⟩) [0, 1] [] (by kernel_rfl)) ?_
  unfold millwrightlaw14_Long.f at h
  refine WpC.seq ?_
  refine rS {} [0, 1] [] hN (by kernel_rfl) (by kernel_rfl) ?_
  refine tnU ?_
  refine WpC.seq ?_
  refine WpC.seq ?_
  refine rS {} [0, 10] [] hN (by kernel_rfl) (by kernel_rfl) ?_
  refine tnU ?_
  refine tS (b := (decide ((a0.length : Int) > a1))) (by kernel_rfl) (fun hc1 => ?_) (fun hc1 => ?_)
  · replace h := ite_t hc1 h
    refine WpC.seq ?_
    refine rS {} [4] [] hN (by kernel_rfl) (by kernel_rfl) ?_
    refine tnU ?_
    refine WpC.ret ?_
    refine thenQ_ret ?_
    have hq := Option.some.inj h
    subst hq
    exact eR (by kernel_rfl) (by kernel_rfl)
  · replace h := ite_f hc1 h
    refine WpC.conv (cS [.k [0] []] (by kernel_rfl) (by kernel_rfl)) (WpC.skip ?_)
    refine tnU ?_
    refine sqJ (fun st' => millwrightlaw14_Long.j2 k = some out ∧ st' = ⟨[], []⟩) ?_ ?_
    · refine WpC.seq ?_
      refine rS {} [11, 12, 13] [] hN (by kernel_rfl) (by kernel_rfl) ?_
      refine tnU ?_
      refine WpC.block ?_
      obtain ⟨o5, hlo5, h⟩ := bind_some h
      have hout6 := h
      clear h
      refine WpC.loop (U := Un) (fun n st' => ∃ v3 : Int, millwrightlaw14_Long.l4 k a0 n v3 = some o5 ∧ st' = ⟨[(11, .p (.list (.named 7)) a0), (12, .p I6 ((a0.length : Int) : Int)), (13, .p I6 v3)], []⟩) k ⟨0, hlo5, by kernel_rfl⟩ ?_
      clear hlo5
      rintro (_ | n) _ ⟨v3, h, rfl⟩
      · cases h
      · rw [millwrightlaw14_Long.l4] at h
        refine WpC.seq ?_
        refine rS {} [11, 12, 13, 14] [] hN (by kernel_rfl) (by kernel_rfl) ?_
        refine tnU ?_
        refine WpC.seq ?_
        refine tS (b := (decide (v3 < (a0.length : Int)))) (by kernel_rfl) (fun hc7 => ?_) (fun hc7 => ?_)
        · replace h := ite_t hc7 h
          refine WpC.conv (cS [.k [11, 12, 13] []] (by kernel_rfl) (by kernel_rfl)) (WpC.skip ?_)
          refine tnU ?_
          refine sqJ (fun st' => millwrightlaw14_Long.j8 k (millwrightlaw14_Long.l4 k a0 n) a0 v3 = some o5 ∧ st' = ⟨[(11, .p (.list (.named 7)) a0), (12, .p I6 ((a0.length : Int) : Int)), (13, .p I6 v3)], []⟩) ?_ ?_
          · refine WpC.block ?_
            refine WpC.seq ?_
            obtain ⟨v9, hv9, h⟩ := bind_some h
            refine rS { its := [(0, .v (.named 7) hv9)] } [6, 11, 12, 13] [6] hN (by kernel_rfl) (by kernel_rfl) ?_
            refine tnU ?_
            refine sqJ (fun st' => ∃ v10 : Bool, millwrightlaw14_Long.j12 k (millwrightlaw14_Long.l4 k a0 n) a0 v3 v10 = some o5 ∧ st' = ⟨[(11, .p (.list (.named 7)) a0), (12, .p I6 ((a0.length : Int) : Int)), (13, .p I6 v3), (27, .p .bool v10)], []⟩) ?_ ?_
            · rcases bool_cases (decide ((v9.f_Var.f_Name.length : Int) > 60)) with hc13 | hc13
              · replace h := ite_t hc13 h
                refine rS { kn := [(22, .t hc13)] } [11, 12, 13, 27] [] hN (by kernel_rfl) (by kernel_rfl) ?_
                refine tnU ?_
                exact ⟨true, h, by kernel_rfl⟩
              · replace h := ite_f hc13 h
                obtain ⟨v14, hv14, h⟩ := bind_some h
                refine rS { its := [(9, .c (millwrightnum_Long.ok O hO k v9.f_Var.f_Words 60 200 v14 hv14))], kn := [(22, .f hc13)] } [11, 12, 13, 27] [] hN (by kernel_rfl) (by kernel_rfl) ?_
                refine tnU ?_
                exact ⟨v14, h, by kernel_rfl⟩
            · rintro _ ⟨v10, h, rfl⟩
              unfold millwrightlaw14_Long.j12 at h
              refine tS (b := v10) (by kernel_rfl) (fun hc11 => ?_) (fun hc11 => ?_)
              · replace h := ite_t hc11 h
                refine WpC.seq ?_
                refine rS {} [4] [] hN (by kernel_rfl) (by kernel_rfl) ?_
                refine tnU ?_
                refine WpC.ret ?_
                refine blockQ_ret ?_
                refine thenQ_ret ?_
                have hq := Option.some.inj h
                subst hq
                refine thenQ_ret ?_
                have h := hout6
                refine blockQ_ret ?_
                refine thenQ_ret ?_
                have hq := Option.some.inj h
                subst hq
                exact eR (by kernel_rfl) (by kernel_rfl)
              · replace h := ite_f hc11 h
                refine WpC.conv (cS [.k [11, 12, 13] []] (by kernel_rfl) (by kernel_rfl)) (WpC.skip ?_)
                refine blockQ_normal ?_
                refine tnU ?_
                exact ⟨h, by kernel_rfl⟩
          · rintro _ ⟨h, rfl⟩
            unfold millwrightlaw14_Long.j8 at h
            refine rS {} [11, 12, 13] [] hN (by kernel_rfl) (by kernel_rfl) ?_
            refine tnU ?_
            exact ⟨n, Nat.lt_succ_self n, (IntKind.i64.wrap (v3 + 1)), h, by kernel_rfl⟩
        · replace h := ite_f hc7 h
          refine WpC.conv (cS [.k [] []] (by kernel_rfl) (by kernel_rfl)) (WpC.exit ?_)
          refine thenQ_exit ?_
          have hq := Option.some.inj h
          subst hq
          refine thenQ_exit ?_
          have h := hout6
          refine blockQ_hit ?_
          refine tnU ?_
          exact ⟨h, by kernel_rfl⟩
    · rintro _ ⟨h, rfl⟩
      unfold millwrightlaw14_Long.j2 at h
      refine WpC.seq ?_
      refine rS {} [4] [] hN (by kernel_rfl) (by kernel_rfl) ?_
      refine tnU ?_
      refine WpC.ret ?_
      have hq := Option.some.inj h
      subst hq
      exact eR (by kernel_rfl) (by kernel_rfl)

theorem millwrightref13_letter.ok (O : Out) (hO : GOk O) (k : Nat) (a0 : Int) (out : Bool) (h : millwrightref13_letter.f k a0 = some out) : COk Un O Tryz.prog 105 { ar := [.p (.int .u8) a0], r := .p .bool out } := by
  refine cok_of_wp Tryz.func105 rfl (k := 29) rfl (Nat.le_of_ble_eq_true rfl) (namesOk_pure rfl rfl rfl rfl) ?_
  intro B hN
  refine WpC.conv (cvK (b := ⟨[(0, .p (.int .u8) a0)], []⟩) [0] [] (by kernel_rfl)) ?_
  unfold millwrightref13_letter.f at h
  refine WpC.seq ?_
  refine rS {} [0] [] hN (by kernel_rfl) (by kernel_rfl) ?_
  refine tnU ?_
  refine WpC.seq ?_
  rcases bool_cases (a0 == 95) with hc1 | hc1
  · replace h := ite_t hc1 h
    refine rS { kn := [(5, .t hc1)] } [2] [] hN (by kernel_rfl) (by kernel_rfl) ?_
    refine tnU ?_
    refine WpC.ret ?_
    have hq := Option.some.inj h
    subst hq
    exact eR (by kernel_rfl) (by kernel_rfl)
  · replace h := ite_f hc1 h
    rcases bool_cases (decide (a0 ≥ 48)) with hc2 | hc2
    · replace h := ite_t hc2 h
      rcases bool_cases (decide (a0 ≤ 57)) with hc3 | hc3
      · replace h := ite_t hc3 h
        refine rS { kn := [(5, .f hc1), (8, .t hc2), (13, .t hc3)] } [2] [] hN (by kernel_rfl) (by kernel_rfl) ?_
        refine tnU ?_
        refine WpC.ret ?_
        have hq := Option.some.inj h
        subst hq
        exact eR (by kernel_rfl) (by kernel_rfl)
      · replace h := ite_f hc3 h
        rcases bool_cases (decide (a0 ≥ 65)) with hc4 | hc4
        · replace h := ite_t hc4 h
          rcases bool_cases (decide (a0 ≤ 90)) with hc5 | hc5
          · replace h := ite_t hc5 h
            refine rS { kn := [(5, .f hc1), (8, .t hc2), (13, .f hc3), (16, .t hc4), (21, .t hc5)] } [2] [] hN (by kernel_rfl) (by kernel_rfl) ?_
            refine tnU ?_
            refine WpC.ret ?_
            have hq := Option.some.inj h
            subst hq
            exact eR (by kernel_rfl) (by kernel_rfl)
          · replace h := ite_f hc5 h
            rcases bool_cases (decide (a0 ≥ 97)) with hc6 | hc6
            · replace h := ite_t hc6 h
              refine rS { kn := [(5, .f hc1), (8, .t hc2), (13, .f hc3), (16, .t hc4), (21, .f hc5), (24, .t hc6)] } [2] [] hN (by kernel_rfl) (by kernel_rfl) ?_
              refine tnU ?_
              refine WpC.ret ?_
              have hq := Option.some.inj h
              subst hq
              exact eR (by kernel_rfl) (by kernel_rfl)
            · replace h := ite_f hc6 h
              refine rS { kn := [(5, .f hc1), (8, .t hc2), (13, .f hc3), (16, .t hc4), (21, .f hc5), (24, .f hc6)] } [2] [] hN (by kernel_rfl) (by kernel_rfl) ?_
              refine tnU ?_
              refine WpC.ret ?_
              have hq := Option.some.inj h
              subst hq
              exact eR (by kernel_rfl) (by kernel_rfl)
        · replace h := ite_f hc4 h
          rcases bool_cases (decide (a0 ≥ 97)) with hc7 | hc7
          · replace h := ite_t hc7 h
            refine rS { kn := [(5, .f hc1), (8, .t hc2), (13, .f hc3), (16, .f hc4), (24, .t hc7)] } [2] [] hN (by kernel_rfl) (by kernel_rfl) ?_
            refine tnU ?_
            refine WpC.ret ?_
            have hq := Option.some.inj h
            subst hq
            exact eR (by kernel_rfl) (by kernel_rfl)
          · replace h := ite_f hc7 h
            refine rS { kn := [(5, .f hc1), (8, .t hc2), (13, .f hc3), (16, .f hc4), (24, .f hc7)] } [2] [] hN (by kernel_rfl) (by kernel_rfl) ?_
            refine tnU ?_
            refine WpC.ret ?_
            have hq := Option.some.inj h
            subst hq
            exact eR (by kernel_rfl) (by kernel_rfl)
    · replace h := ite_f hc2 h
      rcases bool_cases (decide (a0 ≥ 65)) with hc8 | hc8
      · replace h := ite_t hc8 h
        rcases bool_cases (decide (a0 ≤ 90)) with hc9 | hc9
        · replace h := ite_t hc9 h
          refine rS { kn := [(5, .f hc1), (8, .f hc2), (16, .t hc8), (21, .t hc9)] } [2] [] hN (by kernel_rfl) (by kernel_rfl) ?_
          refine tnU ?_
          refine WpC.ret ?_
          have hq := Option.some.inj h
          subst hq
          exact eR (by kernel_rfl) (by kernel_rfl)
        · replace h := ite_f hc9 h
          rcases bool_cases (decide (a0 ≥ 97)) with hc10 | hc10
          · replace h := ite_t hc10 h
            refine rS { kn := [(5, .f hc1), (8, .f hc2), (16, .t hc8), (21, .f hc9), (24, .t hc10)] } [2] [] hN (by kernel_rfl) (by kernel_rfl) ?_
            refine tnU ?_
            refine WpC.ret ?_
            have hq := Option.some.inj h
            subst hq
            exact eR (by kernel_rfl) (by kernel_rfl)
          · replace h := ite_f hc10 h
            refine rS { kn := [(5, .f hc1), (8, .f hc2), (16, .t hc8), (21, .f hc9), (24, .f hc10)] } [2] [] hN (by kernel_rfl) (by kernel_rfl) ?_
            refine tnU ?_
            refine WpC.ret ?_
            have hq := Option.some.inj h
            subst hq
            exact eR (by kernel_rfl) (by kernel_rfl)
      · replace h := ite_f hc8 h
        rcases bool_cases (decide (a0 ≥ 97)) with hc11 | hc11
        · replace h := ite_t hc11 h
          refine rS { kn := [(5, .f hc1), (8, .f hc2), (16, .f hc8), (24, .t hc11)] } [2] [] hN (by kernel_rfl) (by kernel_rfl) ?_
          refine tnU ?_
          refine WpC.ret ?_
          have hq := Option.some.inj h
          subst hq
          exact eR (by kernel_rfl) (by kernel_rfl)
        · replace h := ite_f hc11 h
          refine rS { kn := [(5, .f hc1), (8, .f hc2), (16, .f hc8), (24, .f hc11)] } [2] [] hN (by kernel_rfl) (by kernel_rfl) ?_
          refine tnU ?_
          refine WpC.ret ?_
          have hq := Option.some.inj h
          subst hq
          exact eR (by kernel_rfl) (by kernel_rfl)

theorem millwrightref13_Name.ok (O : Out) (hO : GOk O) (k : Nat) (a0 : List UInt8) (out : Bool) (h : millwrightref13_Name.f k a0 = some out) : COk Un O Tryz.prog 76 { ar := [.p .str a0], r := .p .bool out } := by
  refine cok_of_wp Tryz.func76 rfl (k := 23) rfl (Nat.le_of_ble_eq_true rfl) (namesOk_pure rfl rfl rfl rfl) ?_
  intro B hN
  refine WpC.conv (cvK (b := ⟨[(0, .p .str a0)], []⟩) [0] [] (by kernel_rfl)) ?_
  unfold millwrightref13_Name.f at h
  refine WpC.seq ?_
  refine rS {} [0] [] hN (by kernel_rfl) (by kernel_rfl) ?_
  refine tnU ?_
  refine sqJ (fun st' => millwrightref13_Name.j2 k a0 = some out ∧ st' = ⟨[(0, .p .str a0)], []⟩) ?_ ?_
  · refine WpC.seq ?_
    refine rS {} [0, 3] [] hN (by kernel_rfl) (by kernel_rfl) ?_
    refine tnU ?_
    refine WpC.block ?_
    obtain ⟨o5, hlo5, h⟩ := bind_some h
    have hout6 := h
    clear h
    refine WpC.loop (U := Un) (fun n st' => ∃ v3 : Int, millwrightref13_Name.l4 k a0 n v3 = some o5 ∧ st' = ⟨[(0, .p .str a0), (3, .p I6 v3)], []⟩) k ⟨0, hlo5, by kernel_rfl⟩ ?_
    clear hlo5
    rintro (_ | n) _ ⟨v3, h, rfl⟩
    · cases h
    · rw [millwrightref13_Name.l4] at h
      refine WpC.seq ?_
      refine WpC.seq ?_
      refine rS {} [0, 3, 7] [] hN (by kernel_rfl) (by kernel_rfl) ?_
      refine tnU ?_
      refine tS (b := (decide (v3 < (a0.length : Int)))) (by kernel_rfl) (fun hc7 => ?_) (fun hc7 => ?_)
      · replace h := ite_t hc7 h
        refine WpC.conv (cS [.k [0, 3] []] (by kernel_rfl) (by kernel_rfl)) (WpC.skip ?_)
        refine tnU ?_
        refine WpC.seq ?_
        refine WpC.block ?_
        refine WpC.seq ?_
        obtain ⟨v8, hv8, h⟩ := bind_some h
        obtain ⟨v9, hv9, h⟩ := bind_some h
        refine rS { its := [(2, .u hv8), (3, .c (millwrightref13_letter.ok O hO k (v8.toNat : Int) v9 hv9))] } [0, 3, 14] [] hN (by kernel_rfl) (by kernel_rfl) ?_
        refine tnU ?_
        refine tS (b := (!v9)) (by kernel_rfl) (fun hc10 => ?_) (fun hc10 => ?_)
        · replace h := ite_t hc10 h
          refine WpC.seq ?_
          refine rS {} [2] [] hN (by kernel_rfl) (by kernel_rfl) ?_
          refine tnU ?_
          refine WpC.ret ?_
          refine blockQ_ret ?_
          refine thenQ_ret ?_
          have hq := Option.some.inj h
          subst hq
          refine thenQ_ret ?_
          have h := hout6
          refine blockQ_ret ?_
          refine thenQ_ret ?_
          have hq := Option.some.inj h
          subst hq
          exact eR (by kernel_rfl) (by kernel_rfl)
        · replace h := ite_f hc10 h
          refine WpC.conv (cS [.k [0, 3] []] (by kernel_rfl) (by kernel_rfl)) (WpC.skip ?_)
          refine blockQ_normal ?_
          refine tnU ?_
          refine rS {} [0, 3] [] hN (by kernel_rfl) (by kernel_rfl) ?_
          refine tnU ?_
          exact ⟨n, Nat.lt_succ_self n, (IntKind.i64.wrap (v3 + 1)), h, by kernel_rfl⟩
      · replace h := ite_f hc7 h
        refine WpC.conv (cS [.k [0] []] (by kernel_rfl) (by kernel_rfl)) (WpC.exit ?_)
        refine thenQ_exit ?_
        have hq := Option.some.inj h
        subst hq
        refine thenQ_exit ?_
        have h := hout6
        refine blockQ_hit ?_
        refine tnU ?_
        exact ⟨h, by kernel_rfl⟩
  · rintro _ ⟨h, rfl⟩
    unfold millwrightref13_Name.j2 at h
    refine WpC.seq ?_
    rcases bool_cases (decide ((a0.length : Int) > 0)) with hc1 | hc1
    · replace h := ite_t hc1 h
      refine rS { kn := [(18, .t hc1)] } [2] [] hN (by kernel_rfl) (by kernel_rfl) ?_
      refine tnU ?_
      refine WpC.ret ?_
      have hq := Option.some.inj h
      subst hq
      exact eR (by kernel_rfl) (by kernel_rfl)
    · replace h := ite_f hc1 h
      refine rS { kn := [(18, .f hc1)] } [2] [] hN (by kernel_rfl) (by kernel_rfl) ?_
      refine tnU ?_
      refine WpC.ret ?_
      have hq := Option.some.inj h
      subst hq
      exact eR (by kernel_rfl) (by kernel_rfl)

theorem millwrightref14_Check.ok (O : Out) (hO : GOk O) (k : Nat) (a0 : T_env_Var) (out : Int) (h : millwrightref14_Check.f k a0 = some out) : COk Un O Tryz.prog 49 { ar := [.p (.named 3) a0], r := .p I6 out } := by
  refine cok_of_wp Tryz.func49 rfl (k := 37) rfl (Nat.le_of_ble_eq_true rfl) (namesOk_pure rfl rfl rfl rfl) ?_
  intro B hN
  refine WpC.conv (cvK (b := ⟨[(0, .p (.named 3) a0)], []⟩) [0] [] (by kernel_rfl)) ?_
  unfold millwrightref14_Check.f at h
  refine WpC.seq ?_
  refine rS {} [1] [1] hN (by kernel_rfl) (by kernel_rfl) ?_
  refine tnU ?_
  refine WpC.seq ?_
  refine WpC.seq ?_
  obtain ⟨v1, hv1, h⟩ := bind_some h
  refine rS { its := [(2, .c (millwrightref13_Name.ok O hO k a0.f_Name v1 hv1))] } [1, 8] [1] hN (by kernel_rfl) (by kernel_rfl) ?_
  refine tnU ?_
  refine tS (b := (!v1)) (by kernel_rfl) (fun hc2 => ?_) (fun hc2 => ?_)
  · replace h := ite_t hc2 h
    refine WpC.seq ?_
    refine rS {} [2] [] hN (by kernel_rfl) (by kernel_rfl) ?_
    refine tnU ?_
    refine WpC.ret ?_
    refine thenQ_ret ?_
    have hq := Option.some.inj h
    subst hq
    exact eR (by kernel_rfl) (by kernel_rfl)
  · replace h := ite_f hc2 h
    refine WpC.conv (cS [.k [1] [1]] (by kernel_rfl) (by kernel_rfl)) (WpC.skip ?_)
    refine tnU ?_
    refine sqJ (fun st' => millwrightref14_Check.j14 k a0 = some out ∧ st' = ⟨[(1, .loc 1 0)], [(1, .box [.p .str a0.f_Name, .p (.list .str) a0.f_Words, .p I6 a0.f_Level, .p .bool a0.f_Hidden])]⟩) ?_ ?_
    · refine sqJ (fun st' => ∃ v15 : Bool, millwrightref14_Check.j17 k a0 v15 = some out ∧ st' = ⟨[(1, .loc 1 0), (21, .p .bool v15)], [(1, .box [.p .str a0.f_Name, .p (.list .str) a0.f_Words, .p I6 a0.f_Level, .p .bool a0.f_Hidden])]⟩) ?_ ?_
      · rcases bool_cases (a0.f_Level != 0) with hc18 | hc18
        · replace h := ite_t hc18 h
          rcases bool_cases (a0.f_Level != 1) with hc19 | hc19
          · replace h := ite_t hc19 h
            refine rS { kn := [(12, .t hc18), (17, .t hc19)] } [1, 21] [1] hN (by kernel_rfl) (by kernel_rfl) ?_
            refine tnU ?_
            exact ⟨(a0.f_Level != 2), h, by kernel_rfl⟩
          · replace h := ite_f hc19 h
            refine rS { kn := [(12, .t hc18), (17, .f hc19)] } [1, 21] [1] hN (by kernel_rfl) (by kernel_rfl) ?_
            refine tnU ?_
            exact ⟨false, h, by kernel_rfl⟩
        · replace h := ite_f hc18 h
          refine rS { kn := [(12, .f hc18)] } [1, 21] [1] hN (by kernel_rfl) (by kernel_rfl) ?_
          refine tnU ?_
          exact ⟨false, h, by kernel_rfl⟩
      · rintro _ ⟨v15, h, rfl⟩
        unfold millwrightref14_Check.j17 at h
        refine tS (b := v15) (by kernel_rfl) (fun hc16 => ?_) (fun hc16 => ?_)
        · replace h := ite_t hc16 h
          refine WpC.seq ?_
          refine rS {} [2] [] hN (by kernel_rfl) (by kernel_rfl) ?_
          refine tnU ?_
          refine WpC.ret ?_
          refine thenQ_ret ?_
          have hq := Option.some.inj h
          subst hq
          exact eR (by kernel_rfl) (by kernel_rfl)
        · replace h := ite_f hc16 h
          refine WpC.conv (cS [.k [1] [1]] (by kernel_rfl) (by kernel_rfl)) (WpC.skip ?_)
          refine tnU ?_
          exact ⟨h, by kernel_rfl⟩
    · rintro _ ⟨h, rfl⟩
      unfold millwrightref14_Check.j14 at h
      refine WpC.seq ?_
      refine WpC.seq ?_
      refine rS {} [1, 25] [1] hN (by kernel_rfl) (by kernel_rfl) ?_
      refine tnU ?_
      refine tS (b := (decide ((a0.f_Words.length : Int) > 40))) (by kernel_rfl) (fun hc3 => ?_) (fun hc3 => ?_)
      · replace h := ite_t hc3 h
        refine WpC.seq ?_
        refine rS {} [2] [] hN (by kernel_rfl) (by kernel_rfl) ?_
        refine tnU ?_
        refine WpC.ret ?_
        refine thenQ_ret ?_
        have hq := Option.some.inj h
        subst hq
        exact eR (by kernel_rfl) (by kernel_rfl)
      · replace h := ite_f hc3 h
        refine WpC.conv (cS [.k [1] [1]] (by kernel_rfl) (by kernel_rfl)) (WpC.skip ?_)
        refine tnU ?_
        refine sqJ (fun st' => millwrightref14_Check.j4 k = some out ∧ st' = ⟨[], []⟩) ?_ ?_
        · refine WpC.seq ?_
          refine rS {} [27, 28, 29] [] hN (by kernel_rfl) (by kernel_rfl) ?_
          refine tnU ?_
          refine WpC.block ?_
          obtain ⟨o7, hlo7, h⟩ := bind_some h
          have hout8 := h
          clear h
          refine WpC.loop (U := Un) (fun n st' => ∃ v5 : Int, millwrightref14_Check.l6 k a0 n v5 = some o7 ∧ st' = ⟨[(27, .p (.list .str) a0.f_Words), (28, .p I6 ((a0.f_Words.length : Int) : Int)), (29, .p I6 v5)], []⟩) k ⟨0, hlo7, by kernel_rfl⟩ ?_
          clear hlo7
          rintro (_ | n) _ ⟨v5, h, rfl⟩
          · cases h
          · rw [millwrightref14_Check.l6] at h
            refine WpC.seq ?_
            refine rS {} [27, 28, 29, 30] [] hN (by kernel_rfl) (by kernel_rfl) ?_
            refine tnU ?_
            refine WpC.seq ?_
            refine tS (b := (decide (v5 < (a0.f_Words.length : Int)))) (by kernel_rfl) (fun hc9 => ?_) (fun hc9 => ?_)
            · replace h := ite_t hc9 h
              refine WpC.conv (cS [.k [27, 28, 29] []] (by kernel_rfl) (by kernel_rfl)) (WpC.skip ?_)
              refine tnU ?_
              refine WpC.seq ?_
              refine WpC.block ?_
              refine WpC.seq ?_
              obtain ⟨v10, hv10, h⟩ := bind_some h
              refine rS { its := [(0, .v .str hv10)] } [4, 27, 28, 29] [] hN (by kernel_rfl) (by kernel_rfl) ?_
              refine tnU ?_
              refine WpC.seq ?_
              refine rS {} [27, 28, 29, 35] [] hN (by kernel_rfl) (by kernel_rfl) ?_
              refine tnU ?_
              refine tS (b := (decide ((v10.length : Int) > 120))) (by kernel_rfl) (fun hc11 => ?_) (fun hc11 => ?_)
              · replace h := ite_t hc11 h
                refine WpC.seq ?_
                refine rS {} [2] [] hN (by kernel_rfl) (by kernel_rfl) ?_
                refine tnU ?_
                refine WpC.ret ?_
                refine blockQ_ret ?_
                refine thenQ_ret ?_
                have hq := Option.some.inj h
                subst hq
                refine thenQ_ret ?_
                have h := hout8
                refine blockQ_ret ?_
                refine thenQ_ret ?_
                have hq := Option.some.inj h
                subst hq
                exact eR (by kernel_rfl) (by kernel_rfl)
              · replace h := ite_f hc11 h
                refine WpC.conv (cS [.k [27, 28, 29] []] (by kernel_rfl) (by kernel_rfl)) (WpC.skip ?_)
                refine blockQ_normal ?_
                refine tnU ?_
                refine rS {} [27, 28, 29] [] hN (by kernel_rfl) (by kernel_rfl) ?_
                refine tnU ?_
                exact ⟨n, Nat.lt_succ_self n, (IntKind.i64.wrap (v5 + 1)), h, by kernel_rfl⟩
            · replace h := ite_f hc9 h
              refine WpC.conv (cS [.k [] []] (by kernel_rfl) (by kernel_rfl)) (WpC.exit ?_)
              refine thenQ_exit ?_
              have hq := Option.some.inj h
              subst hq
              refine thenQ_exit ?_
              have h := hout8
              refine blockQ_hit ?_
              refine tnU ?_
              exact ⟨h, by kernel_rfl⟩
        · rintro _ ⟨h, rfl⟩
          unfold millwrightref14_Check.j4 at h
          refine WpC.seq ?_
          refine rS {} [2] [] hN (by kernel_rfl) (by kernel_rfl) ?_
          refine tnU ?_
          refine WpC.ret ?_
          have hq := Option.some.inj h
          subst hq
          exact eR (by kernel_rfl) (by kernel_rfl)

theorem millwrightref14_Env_At_m0.ok (O : Out) (hO : GOk O) (k : Nat) (a0 : List T_env_Var) (a1 : List UInt8) (out : Int) (h : millwrightref14_Env_At_m0.f k a0 a1 = some out) : COk Un O Tryz.prog 50 { ar := [.loc 100000 0, .p .str a1], r := .p I6 out, bs := [(100000, .box [.p (.list (.named 3)) a0])], bs' := [(100000, .box [.p (.list (.named 3)) a0])] } := by
  refine cok_of_wp Tryz.func50 rfl (k := 23) rfl (Nat.le_of_ble_eq_true rfl) (namesOk_of (by kernel_rfl)) ?_
  intro B hN
  refine WpC.conv (cvK (b := ⟨[(0, .loc 100000 0), (1, .p .str a1)], [(100000, .box [.p (.list (.named 3)) a0])]⟩) [0, 1] [100000] (by kernel_rfl)) ?_
  unfold millwrightref14_Env_At_m0.f at h
  refine WpC.seq ?_
  refine rS {} [0, 1] [100000] hN (by kernel_rfl) (by kernel_rfl) ?_
  refine tnU ?_
  refine sqJ (fun st' => millwrightref14_Env_At_m0.j1 k a0 = some out ∧ st' = ⟨[], [(100000, .box [.p (.list (.named 3)) a0])]⟩) ?_ ?_
  · refine WpC.seq ?_
    refine rS {} [1, 10, 11, 12] [100000] hN (by kernel_rfl) (by kernel_rfl) ?_
    refine tnU ?_
    refine WpC.block ?_
    obtain ⟨o4, hlo4, h⟩ := bind_some h
    have hout5 := h
    clear h
    refine WpC.loop (U := Un) (fun n st' => ∃ v2 : Int, millwrightref14_Env_At_m0.l3 k a0 a1 n v2 = some o4 ∧ st' = ⟨[(1, .p .str a1), (10, .p (.list (.named 3)) a0), (11, .p I6 ((a0.length : Int) : Int)), (12, .p I6 v2)], [(100000, .box [.p (.list (.named 3)) a0])]⟩) k ⟨0, hlo4, by kernel_rfl⟩ ?_
    clear hlo4
    rintro (_ | n) _ ⟨v2, h, rfl⟩
    · cases h
    · rw [millwrightref14_Env_At_m0.l3] at h
      refine WpC.seq ?_
      refine rS {} [1, 10, 11, 12, 13] [100000] hN (by kernel_rfl) (by kernel_rfl) ?_
      refine tnU ?_
      refine WpC.seq ?_
      refine tS (b := (decide (v2 < (a0.length : Int)))) (by kernel_rfl) (fun hc6 => ?_) (fun hc6 => ?_)
      · replace h := ite_t hc6 h
        refine WpC.conv (cS [.k [1, 10, 11, 12] [100000]] (by kernel_rfl) (by kernel_rfl)) (WpC.skip ?_)
        refine tnU ?_
        refine WpC.seq ?_
        refine WpC.block ?_
        refine WpC.seq ?_
        obtain ⟨v7, hv7, h⟩ := bind_some h
        refine rS { its := [(1, .v (.named 3) hv7)] } [1, 5, 6, 10, 11, 12] [6, 100000] hN (by kernel_rfl) (by kernel_rfl) ?_
        refine tnU ?_
        refine WpC.seq ?_
        refine rS {} [1, 5, 10, 11, 12, 20] [100000] hN (by kernel_rfl) (by kernel_rfl) ?_
        refine tnU ?_
        refine tS (b := (v7.f_Name == a1)) (by kernel_rfl) (fun hc8 => ?_) (fun hc8 => ?_)
        · replace h := ite_t hc8 h
          refine WpC.seq ?_
          refine rS {} [4] [100000] hN (by kernel_rfl) (by kernel_rfl) ?_
          refine tnU ?_
          refine WpC.ret ?_
          refine blockQ_ret ?_
          refine thenQ_ret ?_
          have hq := Option.some.inj h
          subst hq
          refine thenQ_ret ?_
          have h := hout5
          refine blockQ_ret ?_
          refine thenQ_ret ?_
          have hq := Option.some.inj h
          subst hq
          exact eR (by kernel_rfl) (by kernel_rfl)
        · replace h := ite_f hc8 h
          refine WpC.conv (cS [.k [1, 10, 11, 12] [100000]] (by kernel_rfl) (by kernel_rfl)) (WpC.skip ?_)
          refine blockQ_normal ?_
          refine tnU ?_
          refine rS {} [1, 10, 11, 12] [100000] hN (by kernel_rfl) (by kernel_rfl) ?_
          refine tnU ?_
          exact ⟨n, Nat.lt_succ_self n, (IntKind.i64.wrap (v2 + 1)), h, by kernel_rfl⟩
      · replace h := ite_f hc6 h
        refine WpC.conv (cS [.k [] [100000]] (by kernel_rfl) (by kernel_rfl)) (WpC.exit ?_)
        refine thenQ_exit ?_
        have hq := Option.some.inj h
        subst hq
        refine thenQ_exit ?_
        have h := hout5
        refine blockQ_hit ?_
        refine tnU ?_
        exact ⟨h, by kernel_rfl⟩
  · rintro _ ⟨h, rfl⟩
    unfold millwrightref14_Env_At_m0.j1 at h
    refine WpC.seq ?_
    refine rS {} [4] [100000] hN (by kernel_rfl) (by kernel_rfl) ?_
    refine tnU ?_
    refine WpC.ret ?_
    have hq := Option.some.inj h
    subst hq
    exact eR (by kernel_rfl) (by kernel_rfl)

end Go.Proofs.YtldepagjdbcmgaaGreatDoor
