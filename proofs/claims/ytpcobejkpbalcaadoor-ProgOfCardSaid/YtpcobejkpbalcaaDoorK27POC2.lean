/- A part of the proof of a given law: POC2. Own work, printed in part by a program of mine. -/
import Derived.Test.YtpcobejkpbalcaaDoorK27POC1
namespace Go.Proofs.YtpcobejkpbalcaaDoor
open Go Go.AM
set_option linter.unusedVariables false
set_option linter.unusedSimpArgs false
set_option maxRecDepth 100000
set_option maxHeartbeats 4000000
theorem prog_Length.ok (O : Out) (hO : GOkE O) (k : Nat) (a0 : T_rex_Node) (out : Int) (h : prog_Length.f k a0 = some out) : COk Un O Tryd.prog 22 { ar := [.p (.named 6) a0], r := .p I6 out } := by
  refine cok_of_wp Tryd.func22 rfl (k := 12) rfl (Nat.le_of_ble_eq_true rfl) (namesOk_pure rfl rfl rfl rfl) ?_
  intro B hN
  refine WpC.conv (cvK (b := ⟨[(0, .p (.named 6) a0)], []⟩) [0] [] (by kernel_rfl)) ?_
  unfold prog_Length.f at h
  refine WpC.seq ?_
  refine rS {} [1] [1] hN (by kernel_rfl) (by kernel_rfl) ?_
  refine tnU ?_
  refine WpC.seq ?_
  refine WpC.seq ?_
  obtain ⟨v1, hv1, h⟩ := bind_some h
  refine rS { its := [(1, .c (prog_Right.ok O hO k (T_rex_Node.mk a0.f_Kind a0.f_Index a0.f_Set a0.f_Kids) v1 hv1))] } [1, 6] [1] hN (by kernel_rfl) (by kernel_rfl) ?_
  refine tnU ?_
  refine tS (b := (!v1)) (by kernel_rfl) (fun hc2 => ?_) (fun hc2 => ?_)
  · replace h := ite_t hc2 h
    refine WpC.seq ?_
    refine rS {} [2] [] hN (by kernel_rfl) (by kernel_rfl) ?_
    refine tnU ?_
    refine WpC.ret ?_
    refine thenQ_ret ?_
    have hq := Option.some.inj h
    subst hq
    exact eR (by kernel_rfl) (by kernel_rfl)
  · replace h := ite_f hc2 h
    refine WpC.conv (cS [.k [1] [1]] (by kernel_rfl) (by kernel_rfl)) (WpC.skip ?_)
    refine tnU ?_
    refine WpC.seq ?_
    refine rS { th := [(0, [(0, 10001, 43, .named 3)])] } [1, 3] [1, 3, 10001] hN (by kernel_rfl) (by kernel_rfl) ?_
    refine tnU ?_
    refine WpC.seq ?_
    obtain ⟨v3, hv3, h⟩ := bind_some h
    refine rS { its := [(1, .c (COk.ren (prog_writer_node_m0.ok O hO k [] (T_rex_Node.mk a0.f_Kind a0.f_Index a0.f_Set a0.f_Kids) v3 hv3) (fun n => if n = 60001 then 10002 else if n = 100000 then 3 else if n = 100001 then 10001 else n) (injOn_of (by kernel_rfl))))] } [3] [3, 10002] hN (by kernel_rfl) (by kernel_rfl) ?_
    refine tnU ?_
    refine WpC.seq ?_
    refine rS {} [2] [] hN (by kernel_rfl) (by kernel_rfl) ?_
    refine tnU ?_
    refine WpC.ret ?_
    have hq := Option.some.inj h
    subst hq
    exact eR (by kernel_rfl) (by kernel_rfl)

theorem prog_Compile.ok (O : Out) (hO : GOkE O) (k : Nat) (a0 : T_rex_Node) (out : (List T_prog_Instr) × Nat) (h : prog_Compile.f k a0 = some out) : COk Un O Tryd.prog 12 { ar := [.p (.named 6) a0], r := .tup [.p (.list (.named 3)) out.1, .p .err out.2] } := by
  refine cok_of_wp Tryd.func12 rfl (k := 26) rfl (Nat.le_of_ble_eq_true rfl) (namesOk_pure rfl rfl rfl rfl) ?_
  intro B hN
  refine WpC.conv (cvK (b := ⟨[(0, .p (.named 6) a0)], []⟩) [0] [] (by kernel_rfl)) ?_
  unfold prog_Compile.f at h
  refine WpC.seq ?_
  refine rS {} [1] [1] hN (by kernel_rfl) (by kernel_rfl) ?_
  refine tnU ?_
  refine WpC.seq ?_
  refine WpC.block ?_
  refine WpC.seq ?_
  obtain ⟨v1, hv1, h⟩ := bind_some h
  refine rS { its := [(1, .c (prog_Right.ok O hO k (T_rex_Node.mk a0.f_Kind a0.f_Index a0.f_Set a0.f_Kids) v1 hv1))] } [1, 5] [1] hN (by kernel_rfl) (by kernel_rfl) ?_
  refine tnU ?_
  refine tS (b := (!v1)) (by kernel_rfl) (fun hc2 => ?_) (fun hc2 => ?_)
  · replace h := ite_t hc2 h
    refine WpC.seq ?_
    refine rA { its := [(0, .e 0 (sok_loadG (U := Un) (t := .err) (rs := []) rfl rfl ty_25 rfl rfl (hO.var 16 3 rfl) (fun S w => .err 16)))] } [2, 3] [] hN (by kernel_rfl) (by kernel_rfl) (by kernel_rfl) ?_
    refine tnU ?_
    refine WpC.conv (cS [.nL 2 (.named 3), .k [2, 3] []] (by kernel_rfl) (by kernel_rfl)) (WpC.ret ?_)
    refine blockQ_ret ?_
    refine thenQ_ret ?_
    have hq := Option.some.inj h
    subst hq
    exact eR (by kernel_rfl) (by kernel_rfl)
  · replace h := ite_f hc2 h
    refine WpC.seq ?_
    obtain ⟨v3, hv3, h⟩ := bind_some h
    refine rS { its := [(1, .c (prog_Length.ok O hO k (T_rex_Node.mk a0.f_Kind a0.f_Index a0.f_Set a0.f_Kids) v3 hv3))] } [1, 10] [1] hN (by kernel_rfl) (by kernel_rfl) ?_
    refine tnU ?_
    refine tS (b := (decide ((IntKind.i64.wrap (v3 + 3)) > 200))) (by kernel_rfl) (fun hc4 => ?_) (fun hc4 => ?_)
    · replace h := ite_t hc4 h
      refine WpC.seq ?_
      refine rA { its := [(0, .e 0 (sok_loadG (U := Un) (t := .err) (rs := []) rfl rfl ty_25 rfl rfl (hO.var 9 2 rfl) (fun S w => .err 9)))] } [2, 3] [] hN (by kernel_rfl) (by kernel_rfl) (by kernel_rfl) ?_
      refine tnU ?_
      refine WpC.conv (cS [.nL 2 (.named 3), .k [2, 3] []] (by kernel_rfl) (by kernel_rfl)) (WpC.ret ?_)
      refine blockQ_ret ?_
      refine thenQ_ret ?_
      have hq := Option.some.inj h
      subst hq
      exact eR (by kernel_rfl) (by kernel_rfl)
    · replace h := ite_f hc4 h
      refine WpC.conv (cS [.k [1] [1]] (by kernel_rfl) (by kernel_rfl)) (WpC.skip ?_)
      refine blockQ_normal ?_
      refine tnU ?_
      refine WpC.seq ?_
      refine rS { th := [(0, [(0, 10001, 43, .named 3)])] } [1, 4] [1, 4, 10001] hN (by kernel_rfl) (by kernel_rfl) ?_
      refine tnU ?_
      refine WpC.seq ?_
      obtain ⟨v5, hv5, h⟩ := bind_some h
      refine rS { its := [(1, .c (COk.ren (prog_writer_put_m0.ok O hO k [] (T_prog_Instr.mk 3 0 0 (List.replicate 4 (0 : Int))) v5 hv5) (fun n => if n = 60001 then 10002 else if n = 100000 then 4 else if n = 100001 then 10001 else n) (injOn_of (by kernel_rfl))))] } [1, 4] [1, 4, 10002] hN (by kernel_rfl) (by kernel_rfl) ?_
      refine tnU ?_
      refine WpC.seq ?_
      obtain ⟨v6, hv6, h⟩ := bind_some h
      refine rS { its := [(1, .c (COk.ren (prog_writer_node_m0.ok O hO k v5.2 (T_rex_Node.mk a0.f_Kind a0.f_Index a0.f_Set a0.f_Kids) v6 hv6) (fun n => if n = 60001 then 10003 else if n = 100000 then 4 else if n = 100001 then 10002 else n) (injOn_of (by kernel_rfl))))] } [4] [4, 10003] hN (by kernel_rfl) (by kernel_rfl) ?_
      refine tnU ?_
      refine WpC.seq ?_
      obtain ⟨v7, hv7, h⟩ := bind_some h
      refine rS { its := [(1, .c (COk.ren (prog_writer_put_m0.ok O hO k v6 (T_prog_Instr.mk 3 1 0 (List.replicate 4 (0 : Int))) v7 hv7) (fun n => if n = 60001 then 10004 else if n = 100000 then 4 else if n = 100001 then 10003 else n) (injOn_of (by kernel_rfl))))] } [4] [4, 10004] hN (by kernel_rfl) (by kernel_rfl) ?_
      refine tnU ?_
      refine WpC.seq ?_
      obtain ⟨v8, hv8, h⟩ := bind_some h
      refine rS { its := [(1, .c (COk.ren (prog_writer_put_m0.ok O hO k v7.2 (T_prog_Instr.mk 6 0 0 (List.replicate 4 (0 : Int))) v8 hv8) (fun n => if n = 60001 then 10005 else if n = 100000 then 4 else if n = 100001 then 10004 else n) (injOn_of (by kernel_rfl))))] } [4] [4, 10005] hN (by kernel_rfl) (by kernel_rfl) ?_
      refine tnU ?_
      refine WpC.seq ?_
      refine rS {} [2, 3] [10005] hN (by kernel_rfl) (by kernel_rfl) ?_
      refine tnU ?_
      refine WpC.conv (cS [.fz 2, .k [2, 3] [], .nE 3, .k [2, 3] []] (by kernel_rfl) (by kernel_rfl)) (WpC.ret ?_)
      have hq := Option.some.inj h
      subst hq
      exact eR (by kernel_rfl) (by kernel_rfl)

theorem prog_Of.ok (O : Out) (hO : GOkE O) (k : Nat) (a0 : List UInt8) (out : (List T_prog_Instr) × Nat) (h : prog_Of.f k a0 = some out) : COk Un O Tryd.prog 5 { ar := [.p .str a0], r := .tup [.p (.list (.named 3)) out.1, .p .err out.2] } := by
  refine cok_of_wp Tryd.func5 rfl (k := 18) rfl (Nat.le_of_ble_eq_true rfl) (namesOk_pure rfl rfl rfl rfl) ?_
  intro B hN
  refine WpC.conv (cvK (b := ⟨[(0, .p .str a0)], []⟩) [0] [] (by kernel_rfl)) ?_
  unfold prog_Of.f at h
  refine WpC.seq ?_
  refine rS {} [0] [] hN (by kernel_rfl) (by kernel_rfl) ?_
  refine tnU ?_
  refine WpC.seq ?_
  obtain ⟨v1, hv1, h⟩ := bind_some h
  refine rS { its := [(1, .c (rex_Parse.ok O hO k a0 v1 hv1))] } [4, 5] [4] hN (by kernel_rfl) (by kernel_rfl) ?_
  refine tnU ?_
  refine WpC.seq ?_
  refine WpC.seq ?_
  refine rS {} [4, 5, 12] [4] hN (by kernel_rfl) (by kernel_rfl) ?_
  refine tnU ?_
  refine tS (b := (!(v1.2 == 0))) (by kernel_rfl) (fun hc2 => ?_) (fun hc2 => ?_)
  · replace h := ite_t hc2 h
    refine WpC.seq ?_
    refine rS {} [2, 3] [] hN (by kernel_rfl) (by kernel_rfl) ?_
    refine tnU ?_
    refine WpC.conv (cS [.nL 2 (.named 3), .k [2, 3] []] (by kernel_rfl) (by kernel_rfl)) (WpC.ret ?_)
    refine thenQ_ret ?_
    have hq := Option.some.inj h
    subst hq
    exact eR (by kernel_rfl) (by kernel_rfl)
  · replace h := ite_f hc2 h
    refine WpC.conv (cS [.k [4] [4]] (by kernel_rfl) (by kernel_rfl)) (WpC.skip ?_)
    refine tnU ?_
    refine WpC.seq ?_
    obtain ⟨v3, hv3, h⟩ := bind_some h
    refine rS { its := [(1, .c (prog_Compile.ok O hO k (T_rex_Node.mk v1.1.f_Kind v1.1.f_Index v1.1.f_Set v1.1.f_Kids) v3 hv3))] } [2, 3] [] hN (by kernel_rfl) (by kernel_rfl) ?_
    refine tnU ?_
    refine WpC.ret ?_
    have hq := Option.some.inj h
    subst hq
    exact eR (by kernel_rfl) (by kernel_rfl)

theorem millwrightlaw08_alive.ok (O : Out) (hO : GOkE O) (k : Nat) (out : Bool) (h : millwrightlaw08_alive.f k = some out) : COk Un O Tryd.prog 4 { ar := [], r := .p .bool out } := by
  refine cok_of_wp Tryd.func4 rfl (k := 42) rfl (Nat.le_of_ble_eq_true rfl) (namesOk_pure rfl rfl rfl rfl) ?_
  intro B hN
  refine WpC.conv (cvK (b := ⟨[], []⟩) [] [] (by kernel_rfl)) ?_
  unfold millwrightlaw08_alive.f at h
  refine WpC.seq ?_
  refine rS {} [] [] hN (by kernel_rfl) (by kernel_rfl) ?_
  refine tnU ?_
  refine WpC.seq ?_
  obtain ⟨v1, hv1, h⟩ := bind_some h
  refine rS { its := [(0, .c (prog_Of.ok O hO k ([97, 42] : List UInt8) v1 hv1))] } [1, 2] [] hN (by kernel_rfl) (by kernel_rfl) ?_
  refine tnU ?_
  refine WpC.seq ?_
  rcases bool_cases (v1.2 == 0) with hc2 | hc2
  · replace h := ite_t hc2 h
    rcases bool_cases ((v1.1.length : Int) == 6) with hc3 | hc3
    · replace h := ite_t hc3 h
      obtain ⟨v4, hv4, h⟩ := bind_some h
      rcases bool_cases (v4.f_Op == 1) with hc5 | hc5
      · replace h := ite_t hc5 h
        obtain ⟨v6, hv6, h⟩ := bind_some h
        rcases bool_cases (v6.f_Y == 4) with hc7 | hc7
        · replace h := ite_t hc7 h
          obtain ⟨v8, hv8, h⟩ := bind_some h
          rcases bool_cases (v8.f_Op == 2) with hc9 | hc9
          · replace h := ite_t hc9 h
            obtain ⟨v10, hv10, h⟩ := bind_some h
            refine rS { its := [(9, .v (.named 3) hv4), (16, .v (.named 3) hv6), (23, .v (.named 3) hv8), (30, .v (.named 3) hv10)], kn := [(9, .t hc2), (14, .t hc3), (21, .t hc5), (28, .t hc7), (35, .t hc9)] } [0] [] hN (by kernel_rfl) (by kernel_rfl) ?_
            refine tnU ?_
            refine WpC.ret ?_
            have hq := Option.some.inj h
            subst hq
            exact eR (by kernel_rfl) (by kernel_rfl)
          · replace h := ite_f hc9 h
            refine rS { its := [(9, .v (.named 3) hv4), (16, .v (.named 3) hv6), (23, .v (.named 3) hv8)], kn := [(9, .t hc2), (14, .t hc3), (21, .t hc5), (28, .t hc7), (35, .f hc9)] } [0] [] hN (by kernel_rfl) (by kernel_rfl) ?_
            refine tnU ?_
            refine WpC.ret ?_
            have hq := Option.some.inj h
            subst hq
            exact eR (by kernel_rfl) (by kernel_rfl)
        · replace h := ite_f hc7 h
          refine rS { its := [(9, .v (.named 3) hv4), (16, .v (.named 3) hv6)], kn := [(9, .t hc2), (14, .t hc3), (21, .t hc5), (28, .f hc7)] } [0] [] hN (by kernel_rfl) (by kernel_rfl) ?_
          refine tnU ?_
          refine WpC.ret ?_
          have hq := Option.some.inj h
          subst hq
          exact eR (by kernel_rfl) (by kernel_rfl)
      · replace h := ite_f hc5 h
        refine rS { its := [(9, .v (.named 3) hv4)], kn := [(9, .t hc2), (14, .t hc3), (21, .f hc5)] } [0] [] hN (by kernel_rfl) (by kernel_rfl) ?_
        refine tnU ?_
        refine WpC.ret ?_
        have hq := Option.some.inj h
        subst hq
        exact eR (by kernel_rfl) (by kernel_rfl)
    · replace h := ite_f hc3 h
      refine rS { kn := [(9, .t hc2), (14, .f hc3)] } [0] [] hN (by kernel_rfl) (by kernel_rfl) ?_
      refine tnU ?_
      refine WpC.ret ?_
      have hq := Option.some.inj h
      subst hq
      exact eR (by kernel_rfl) (by kernel_rfl)
  · replace h := ite_f hc2 h
    refine rS { kn := [(9, .f hc2)] } [0] [] hN (by kernel_rfl) (by kernel_rfl) ?_
    refine tnU ?_
    refine WpC.ret ?_
    have hq := Option.some.inj h
    subst hq
    exact eR (by kernel_rfl) (by kernel_rfl)

theorem millwrightref06_Of.ok (O : Out) (hO : GOkE O) (k : Nat) (a0 : List Bool) (out : List Int) (h : millwrightref06_Of.f k a0 = some out) : COk Un O Tryd.prog 27 { ar := [.p (.arr 256 .bool) a0], r := .p U6 out } := by
  refine cok_of_wp Tryd.func27 rfl (k := 30) rfl (Nat.le_of_ble_eq_true rfl) (namesOk_pure rfl rfl rfl rfl) ?_
  intro B hN
  refine WpC.conv (cvK (b := ⟨[(0, .p (.arr 256 .bool) a0)], []⟩) [0] [] (by kernel_rfl)) ?_
  unfold millwrightref06_Of.f at h
  refine WpC.seq ?_
  refine rS {} [1, 2] [1, 2] hN (by kernel_rfl) (by kernel_rfl) ?_
  refine tnU ?_
  refine WpC.seq ?_
  refine rS {} [1, 2, 3] [1, 2, 3] hN (by kernel_rfl) (by kernel_rfl) ?_
  refine tnU ?_
  refine sqJ (fun st' => ∃ v1 : List Int, millwrightref06_Of.j2 k v1 = some out ∧ st' = ⟨[(2, .loc 2 0), (3, .loc 3 0)], [(2, .box [.p U6 ((List.replicate 4 (0 : Int)) : List Int)]), (3, .box [.p U6 v1])]⟩) ?_ ?_
  · refine WpC.seq ?_
    refine rS {} [1, 2, 3, 4] [1, 2, 3] hN (by kernel_rfl) (by kernel_rfl) ?_
    refine tnU ?_
    refine WpC.block ?_
    obtain ⟨o7, hlo7, h⟩ := bind_some h
    have hout8 := h
    clear h
    refine WpC.loop (U := Un) (fun n st' => ∃ v3 : List Int, ∃ v4 : Int, millwrightref06_Of.l5 k a0 n v3 v4 = some o7 ∧ st' = ⟨[(1, .loc 1 0), (2, .loc 2 0), (3, .loc 3 0), (4, .p I6 v4)], [(1, .box [.p (.arr 256 .bool) a0]), (2, .box [.p U6 ((List.replicate 4 (0 : Int)) : List Int)]), (3, .box [.p U6 v3])]⟩) k ⟨(List.replicate 4 (0 : Int)), 255, hlo7, by kernel_rfl⟩ ?_
    clear hlo7
    rintro (_ | n) _ ⟨v3, v4, h, rfl⟩
    · cases h
    · rw [millwrightref06_Of.l5] at h
      refine WpC.seq ?_
      refine WpC.seq ?_
      refine rS {} [1, 2, 3, 4, 7] [1, 2, 3] hN (by kernel_rfl) (by kernel_rfl) ?_
      refine tnU ?_
      refine tS (b := (decide (v4 ≥ 0))) (by kernel_rfl) (fun hc9 => ?_) (fun hc9 => ?_)
      · replace h := ite_t hc9 h
        refine WpC.conv (cS [.k [1, 2, 3, 4] [1, 2, 3]] (by kernel_rfl) (by kernel_rfl)) (WpC.skip ?_)
        refine tnU ?_
        refine sqJ (fun st' => ∃ v10 : List Int, millwrightref06_Of.j11 k (millwrightref06_Of.l5 k a0 n) a0 v4 v10 = some o7 ∧ st' = ⟨[(1, .loc 1 0), (2, .loc 2 0), (3, .loc 3 0), (4, .p I6 v4)], [(1, .box [.p (.arr 256 .bool) a0]), (2, .box [.p U6 ((List.replicate 4 (0 : Int)) : List Int)]), (3, .box [.p U6 v10])]⟩) ?_ ?_
        · refine WpC.block ?_
          refine WpC.seq ?_
          obtain ⟨g12, h⟩ := if_some h
          obtain ⟨g13, h⟩ := if_some h
          obtain ⟨g14, h⟩ := if_some h
          obtain ⟨v15, hv15, h⟩ := bind_some h
          obtain ⟨g16, h⟩ := if_some h
          obtain ⟨v17, hv17, h⟩ := bind_some h
          refine rS { its := [(1, .g g12), (3, .g g13), (4, .g g14), (5, .v (.int .u64) hv15), (7, .g g16), (8, .v (.int .u64) hv17)] } [1, 2, 3, 4] [1, 2, 3] hN (by kernel_rfl) (by kernel_rfl) ?_
          refine tnU ?_
          refine WpC.seq ?_
          obtain ⟨g18, h⟩ := if_some h
          obtain ⟨v19, hv19, h⟩ := bind_some h
          refine rS { its := [(1, .g g18), (2, .v .bool hv19)] } [1, 2, 3, 4, 20] [1, 2, 3] hN (by kernel_rfl) (by kernel_rfl) ?_
          refine tnU ?_
          refine tS (b := v19) (by kernel_rfl) (fun hc20 => ?_) (fun hc20 => ?_)
          · replace h := ite_t hc20 h
            obtain ⟨g21, h⟩ := if_some h
            obtain ⟨g22, h⟩ := if_some h
            obtain ⟨g23, h⟩ := if_some h
            obtain ⟨v24, hv24, h⟩ := bind_some h
            obtain ⟨g25, h⟩ := if_some h
            obtain ⟨v26, hv26, h⟩ := bind_some h
            refine rS { its := [(1, .g g21), (3, .g g22), (4, .g g23), (5, .v (.int .u64) hv24), (7, .g g25), (8, .v (.int .u64) hv26)] } [1, 2, 3, 4] [1, 2, 3] hN (by kernel_rfl) (by kernel_rfl) ?_
            refine blockQ_normal ?_
            refine tnU ?_
            exact ⟨(upd (upd v3 ((IntKind.i64.wrap (Int.tdiv v4 64)).toNat) (IntKind.u64.wrap (v15 * 2))) ((IntKind.i64.wrap (Int.tdiv v4 64)).toNat) (IntKind.u64.wrap (v24 + 1))), h, by kernel_rfl⟩
          · replace h := ite_f hc20 h
            refine WpC.conv (cS [.k [1, 2, 3, 4] [1, 2, 3]] (by kernel_rfl) (by kernel_rfl)) (WpC.skip ?_)
            refine blockQ_normal ?_
            refine tnU ?_
            exact ⟨(upd v3 ((IntKind.i64.wrap (Int.tdiv v4 64)).toNat) (IntKind.u64.wrap (v15 * 2))), h, by kernel_rfl⟩
        · rintro _ ⟨v10, h, rfl⟩
          unfold millwrightref06_Of.j11 at h
          refine rS {} [1, 2, 3, 4] [1, 2, 3] hN (by kernel_rfl) (by kernel_rfl) ?_
          refine tnU ?_
          exact ⟨n, Nat.lt_succ_self n, v10, (IntKind.i64.wrap (v4 - 1)), h, by kernel_rfl⟩
      · replace h := ite_f hc9 h
        refine WpC.conv (cS [.k [2, 3] [2, 3]] (by kernel_rfl) (by kernel_rfl)) (WpC.exit ?_)
        refine thenQ_exit ?_
        have hq := Option.some.inj h
        subst hq
        refine thenQ_exit ?_
        have h := hout8
        refine blockQ_hit ?_
        refine tnU ?_
        exact ⟨v3, h, by kernel_rfl⟩
  · rintro _ ⟨v1, h, rfl⟩
    unfold millwrightref06_Of.j2 at h
    refine WpC.seq ?_
    refine rS {} [2] [2] hN (by kernel_rfl) (by kernel_rfl) ?_
    refine tnU ?_
    refine WpC.ret ?_
    have hq := Option.some.inj h
    subst hq
    exact eR (by kernel_rfl) (by kernel_rfl)

theorem millwrightref07_single.ok (O : Out) (hO : GOkE O) (k : Nat) (a0 : Int) (out : List Int) (h : millwrightref07_single.f k a0 = some out) : COk Un O Tryd.prog 25 { ar := [.p (.int .u8) a0], r := .p U6 out } := by
  refine cok_of_wp Tryd.func25 rfl (k := 9) rfl (Nat.le_of_ble_eq_true rfl) (namesOk_pure rfl rfl rfl rfl) ?_
  intro B hN
  refine WpC.conv (cvK (b := ⟨[(0, .p (.int .u8) a0)], []⟩) [0] [] (by kernel_rfl)) ?_
  unfold millwrightref07_single.f at h
  refine WpC.seq ?_
  refine rS {} [0, 2] [2] hN (by kernel_rfl) (by kernel_rfl) ?_
  refine tnU ?_
  refine WpC.seq ?_
  refine rS {} [0, 2, 3] [2, 3] hN (by kernel_rfl) (by kernel_rfl) ?_
  refine tnU ?_
  refine WpC.seq ?_
  obtain ⟨g1, h⟩ := if_some h
  obtain ⟨v2, hv2, h⟩ := bind_some h
  refine rS { its := [(1, .g g1), (2, .v .bool hv2)] } [2, 3] [2, 3] hN (by kernel_rfl) (by kernel_rfl) ?_
  refine tnU ?_
  refine WpC.seq ?_
  obtain ⟨v3, hv3, h⟩ := bind_some h
  refine rS { its := [(1, .c (millwrightref06_Of.ok O hO k (upd (List.replicate 256 false) a0.toNat true) v3 hv3))] } [2] [2] hN (by kernel_rfl) (by kernel_rfl) ?_
  refine tnU ?_
  refine WpC.ret ?_
  have hq := Option.some.inj h
  subst hq
  exact eR (by kernel_rfl) (by kernel_rfl)

theorem millwrightref07_set.ok (O : Out) (hO : GOkE O) (k : Nat) (a0 : List UInt8) (a1 : Int) (out : (List Int) × Int) (h : millwrightref07_set.f k a0 a1 = some out) : COk Un O Tryd.prog 26 { ar := [.p .str a0, .p I6 a1], r := .tup [.p U6 out.1, .p I6 out.2] } := by
  refine cok_of_wp Tryd.func26 rfl (k := 151) rfl (Nat.le_of_ble_eq_true rfl) (namesOk_pure rfl rfl rfl rfl) ?_
  intro B hN
  refine WpC.conv (cvK (b := ⟨[(0, .p .str a0), (1, .p I6 a1)], []⟩) [0, 1] [] (by kernel_rfl)) ?_
  unfold millwrightref07_set.f at h
  refine WpC.seq ?_
  refine rS {} [0, 1, 4] [4] hN (by kernel_rfl) (by kernel_rfl) ?_
  refine tnU ?_
  refine sqJ (fun st' => ∃ v1 : Bool, millwrightref07_set.j103 k a0 a1 v1 = some out ∧ st' = ⟨[(0, .p .str a0), (1, .p I6 a1), (4, .loc 4 0), (6, .p .bool v1)], [(4, .box [.p U6 ((List.replicate 4 (0 : Int)) : List Int)])]⟩) ?_ ?_
  · rcases bool_cases (decide (a1 < (a0.length : Int))) with hc104 | hc104
    · replace h := ite_t hc104 h
      obtain ⟨v105, hv105, h⟩ := bind_some h
      refine rS { its := [(7, .u hv105)], kn := [(19, .t hc104)] } [0, 1, 4, 6] [4] hN (by kernel_rfl) (by kernel_rfl) ?_
      refine tnU ?_
      exact ⟨((v105.toNat : Int) == 94), h, by kernel_rfl⟩
    · replace h := ite_f hc104 h
      refine rS { kn := [(19, .f hc104)] } [0, 1, 4, 6] [4] hN (by kernel_rfl) (by kernel_rfl) ?_
      refine tnU ?_
      exact ⟨false, h, by kernel_rfl⟩
  · rintro _ ⟨v1, h, rfl⟩
    unfold millwrightref07_set.j103 at h
    refine sqJ (fun st' => ∃ v2 : Int, millwrightref07_set.j101 k a0 v1 v2 = some out ∧ st' = ⟨[(0, .p .str a0), (1, .p I6 v2), (4, .loc 4 0), (6, .p .bool v1)], [(4, .box [.p U6 ((List.replicate 4 (0 : Int)) : List Int)])]⟩) ?_ ?_
    · refine WpC.seq ?_
      refine rS {} [0, 1, 4, 6, 25] [4] hN (by kernel_rfl) (by kernel_rfl) ?_
      refine tnU ?_
      refine tS (b := v1) (by kernel_rfl) (fun hc102 => ?_) (fun hc102 => ?_)
      · replace h := ite_t hc102 h
        refine rS {} [0, 1, 4, 6] [4] hN (by kernel_rfl) (by kernel_rfl) ?_
        refine tnU ?_
        exact ⟨(IntKind.i64.wrap (a1 + 1)), h, by kernel_rfl⟩
      · replace h := ite_f hc102 h
        refine WpC.conv (cS [.k [0, 1, 4, 6] [4]] (by kernel_rfl) (by kernel_rfl)) (WpC.skip ?_)
        refine tnU ?_
        exact ⟨a1, h, by kernel_rfl⟩
    · rintro _ ⟨v2, h, rfl⟩
      unfold millwrightref07_set.j101 at h
      refine WpC.seq ?_
      refine rSC {} [0, 1, 4, 6, 7] [4, 28] hN (by kernel_rfl) (by kernel_rfl) (cS [.k [0, 1, 4, 6, 7] [4, 28], .x (Conv.cast (U := Un) (st := ⟨[(0, .p .str a0), (1, .p I6 v2), (4, .loc 4 0), (6, .p .bool v1), (7, .vec 28 1 0 (([] : List Int).length))], [(4, .box [.p U6 ((List.replicate 4 (0 : Int)) : List Int)]), (28, .row 5 (.int .u8) ([] : List Int) true)]⟩) (st' := ⟨[(0, .p .str a0), (1, .p I6 v2), (4, .loc 4 0), (6, .p .bool v1), (7, .vec 28 1 0 0)], [(4, .box [.p U6 ((List.replicate 4 (0 : Int)) : List Int)]), (28, .row 5 (.int .u8) ([] : List Int) true)]⟩) (by simp only [upd_length, List.length_nil, List.length_replicate]))] (by kernel_rfl) (by kernel_rfl)) ?_
      refine tnU ?_
      refine WpC.seq ?_
      refine rSC {} [0, 1, 4, 6, 7, 8] [4, 28, 29] hN (by kernel_rfl) (by kernel_rfl) (cS [.k [0, 1, 4, 6, 7, 8] [4, 28, 29], .x (Conv.cast (U := Un) (st := ⟨[(0, .p .str a0), (1, .p I6 v2), (4, .loc 4 0), (6, .p .bool v1), (7, .vec 28 1 0 0), (8, .vec 29 1 0 (([] : List Bool).length))], [(4, .box [.p U6 ((List.replicate 4 (0 : Int)) : List Int)]), (28, .row 5 (.int .u8) ([] : List Int) true), (29, .row 4 .bool ([] : List Bool) true)]⟩) (st' := ⟨[(0, .p .str a0), (1, .p I6 v2), (4, .loc 4 0), (6, .p .bool v1), (7, .vec 28 1 0 0), (8, .vec 29 1 0 0)], [(4, .box [.p U6 ((List.replicate 4 (0 : Int)) : List Int)]), (28, .row 5 (.int .u8) ([] : List Int) true), (29, .row 4 .bool ([] : List Bool) true)]⟩) (by simp only [upd_length, List.length_nil, List.length_replicate]))] (by kernel_rfl) (by kernel_rfl)) ?_
      refine tnU ?_
      refine sqJ (fun st' => ∃ v3 : Int, ∃ v4 : List Int, ∃ v5 : List Bool, millwrightref07_set.j70 k a0 v1 v3 v4 v5 = some out ∧ st' = ⟨[(0, .p .str a0), (1, .p I6 v3), (4, .loc 4 0), (6, .p .bool v1), (7, .vec 1007 1 0 v4.length), (8, .vec 1008 1 0 v5.length)], [(4, .box [.p U6 ((List.replicate 4 (0 : Int)) : List Int)]), (1007, .row 5 (.int .u8) v4 false), (1008, .row 4 .bool v5 false)]⟩) ?_ ?_
      · refine WpC.block ?_
        obtain ⟨o78, hlo78, h⟩ := bind_some h
        have hout79 := h
        clear h
        refine WpC.conv (cS [.lo 28, .k [0, 1, 4, 6, 7, 8] [4, 28, 29], .rn 28 1007, .k [0, 1, 4, 6, 7, 8] [4, 29, 1007], .lo 29, .k [0, 1, 4, 6, 7, 8] [4, 29, 1007], .rn 29 1008, .k [0, 1, 4, 6, 7, 8] [4, 1007, 1008]] (by kernel_rfl) (by kernel_rfl)) ?_
        refine WpC.loop (U := Un) (fun n st' => ∃ v71 : Int, ∃ v72 : List Int, ∃ v73 : List Bool, millwrightref07_set.l74 k a0 v1 n v71 v72 v73 = some o78 ∧ st' = ⟨[(0, .p .str a0), (1, .p I6 v71), (4, .loc 4 0), (6, .p .bool v1), (7, .vec 1007 1 0 v72.length), (8, .vec 1008 1 0 v73.length)], [(4, .box [.p U6 ((List.replicate 4 (0 : Int)) : List Int)]), (1007, .row 5 (.int .u8) v72 false), (1008, .row 4 .bool v73 false)]⟩) k ⟨v2, ([] : List Int), ([] : List Bool), hlo78, by kernel_rfl⟩ ?_
        clear hlo78
        rintro (_ | n) _ ⟨v71, v72, v73, h, rfl⟩
        · cases h
        · rw [millwrightref07_set.l74] at h
          refine sqJ (fun st' => millwrightref07_set.j93 k (millwrightref07_set.l74 k a0 v1 n) a0 v1 v71 v72 v73 = some o78 ∧ st' = ⟨[(0, .p .str a0), (1, .p I6 v71), (4, .loc 4 0), (6, .p .bool v1), (7, .vec 1007 1 0 v72.length), (8, .vec 1008 1 0 v73.length)], [(4, .box [.p U6 ((List.replicate 4 (0 : Int)) : List Int)]), (1007, .row 5 (.int .u8) v72 false), (1008, .row 4 .bool v73 false)]⟩) ?_ ?_
          · refine sqJ (fun st' => ∃ v94 : Bool, millwrightref07_set.j96 k (millwrightref07_set.l74 k a0 v1 n) a0 v1 v71 v72 v73 v94 = some o78 ∧ st' = ⟨[(0, .p .str a0), (1, .p I6 v71), (4, .loc 4 0), (6, .p .bool v1), (7, .vec 1007 1 0 v72.length), (8, .vec 1008 1 0 v73.length), (39, .p .bool v94)], [(4, .box [.p U6 ((List.replicate 4 (0 : Int)) : List Int)]), (1007, .row 5 (.int .u8) v72 false), (1008, .row 4 .bool v73 false)]⟩) ?_ ?_
            · rcases bool_cases (decide (v71 < (a0.length : Int))) with hc97 | hc97
              · replace h := ite_t hc97 h
                obtain ⟨v98, hv98, h⟩ := bind_some h
                refine rS { its := [(7, .u hv98)], kn := [(34, .t hc97)] } [0, 1, 4, 6, 7, 8, 39] [4, 1007, 1008] hN (by kernel_rfl) (by kernel_rfl) ?_
                refine tnU ?_
                exact ⟨((v98.toNat : Int) != 93), h, by kernel_rfl⟩
              · replace h := ite_f hc97 h
                refine rS { kn := [(34, .f hc97)] } [0, 1, 4, 6, 7, 8, 39] [4, 1007, 1008] hN (by kernel_rfl) (by kernel_rfl) ?_
                refine tnU ?_
                exact ⟨false, h, by kernel_rfl⟩
            · rintro _ ⟨v94, h, rfl⟩
              unfold millwrightref07_set.j96 at h
              refine tS (b := v94) (by kernel_rfl) (fun hc95 => ?_) (fun hc95 => ?_)
              · replace h := ite_t hc95 h
                refine WpC.conv (cS [.k [0, 1, 4, 6, 7, 8] [4, 1007, 1008]] (by kernel_rfl) (by kernel_rfl)) (WpC.skip ?_)
                refine tnU ?_
                exact ⟨h, by kernel_rfl⟩
              · replace h := ite_f hc95 h
                refine WpC.conv (cS [.k [0, 1, 4, 6, 7, 8] [4, 1007, 1008]] (by kernel_rfl) (by kernel_rfl)) (WpC.exit ?_)
                refine thenQ_exit ?_
                have hq := Option.some.inj h
                subst hq
                refine thenQ_exit ?_
                have h := hout79
                refine blockQ_hit ?_
                refine tnU ?_
                exact ⟨v71, v72, v73, h, by kernel_rfl⟩
          · rintro _ ⟨h, rfl⟩
            unfold millwrightref07_set.j93 at h
            refine WpC.block ?_
            refine sqJ (fun st' => ∃ v80 : Int, ∃ v81 : List Int, ∃ v82 : List Bool, millwrightref07_set.j83 k (millwrightref07_set.l74 k a0 v1 n) a0 v1 v80 v81 v82 = some o78 ∧ st' = ⟨[(0, .p .str a0), (1, .p I6 v80), (4, .loc 4 0), (6, .p .bool v1), (7, .vec 1007 1 0 v81.length), (8, .vec 1008 1 0 v82.length)], [(4, .box [.p U6 ((List.replicate 4 (0 : Int)) : List Int)]), (1007, .row 5 (.int .u8) v81 false), (1008, .row 4 .bool v82 false)]⟩) ?_ ?_
            · refine WpC.seq ?_
              obtain ⟨v84, hv84, h⟩ := bind_some h
              refine rS { its := [(2, .u hv84)] } [0, 1, 4, 6, 7, 8, 43] [4, 1007, 1008] hN (by kernel_rfl) (by kernel_rfl) ?_
              refine tnU ?_
              refine tS (b := ((v84.toNat : Int) == 92)) (by kernel_rfl) (fun hc85 => ?_) (fun hc85 => ?_)
              · replace h := ite_t hc85 h
                refine WpC.seq ?_
                refine rS {} [0, 1, 4, 6, 7, 8] [4, 1007, 1008] hN (by kernel_rfl) (by kernel_rfl) ?_
                refine tnU ?_
                refine WpC.seq ?_
                refine WpC.seq ?_
                refine rS {} [0, 1, 4, 6, 7, 8, 49] [4, 1007, 1008] hN (by kernel_rfl) (by kernel_rfl) ?_
                refine tnU ?_
                refine tS (b := (decide ((IntKind.i64.wrap (v71 + 1)) ≥ (a0.length : Int)))) (by kernel_rfl) (fun hc86 => ?_) (fun hc86 => ?_)
                · replace h := ite_t hc86 h
                  refine WpC.seq ?_
                  refine rS {} [4, 5] [4] hN (by kernel_rfl) (by kernel_rfl) ?_
                  refine tnU ?_
                  refine WpC.ret ?_
                  refine thenQ_ret ?_
                  refine thenQ_ret ?_
                  refine blockQ_ret ?_
                  have hq := Option.some.inj h
                  subst hq
                  refine thenQ_ret ?_
                  have h := hout79
                  refine blockQ_ret ?_
                  refine thenQ_ret ?_
                  have hq := Option.some.inj h
                  subst hq
                  exact eR (by kernel_rfl) (by kernel_rfl)
                · replace h := ite_f hc86 h
                  refine WpC.conv (cS [.k [0, 1, 4, 6, 7, 8] [4, 1007, 1008]] (by kernel_rfl) (by kernel_rfl)) (WpC.skip ?_)
                  refine tnU ?_
                  obtain ⟨v87, hv87, h⟩ := bind_some h
                  obtain ⟨g88, h⟩ := if_some h
                  obtain ⟨g89, h⟩ := if_some h
                  refine rSC { its := [(3, .u hv87), (5, .g g88), (8, .g g89)] } [0, 1, 4, 6, 7, 8] [4, 56, 59] hN (by kernel_rfl) (by kernel_rfl) (cS [.rn 56 1007, .k [0, 1, 4, 6, 7, 8] [4, 59, 1007], .rn 59 1008, .k [0, 1, 4, 6, 7, 8] [4, 1007, 1008]] (by kernel_rfl) (by kernel_rfl)) ?_
                  refine tnU ?_
                  exact ⟨(IntKind.i64.wrap (v71 + 1)), (v72 ++ [(v87.toNat : Int)]), (v73 ++ [false]), h, by kernel_rfl⟩
              · replace h := ite_f hc85 h
                obtain ⟨v90, hv90, h⟩ := bind_some h
                obtain ⟨g91, h⟩ := if_some h
                obtain ⟨g92, h⟩ := if_some h
                refine rSC { its := [(3, .u hv90), (5, .g g91), (8, .g g92)] } [0, 1, 4, 6, 7, 8] [4, 65, 68] hN (by kernel_rfl) (by kernel_rfl) (cS [.rn 65 1007, .k [0, 1, 4, 6, 7, 8] [4, 68, 1007], .rn 68 1008, .k [0, 1, 4, 6, 7, 8] [4, 1007, 1008]] (by kernel_rfl) (by kernel_rfl)) ?_
                refine tnU ?_
                exact ⟨v71, (v72 ++ [(v90.toNat : Int)]), (v73 ++ [true]), h, by kernel_rfl⟩
            · rintro _ ⟨v80, v81, v82, h, rfl⟩
              unfold millwrightref07_set.j83 at h
              refine rS {} [0, 1, 4, 6, 7, 8] [4, 1007, 1008] hN (by kernel_rfl) (by kernel_rfl) ?_
              refine blockQ_normal ?_
              refine tnU ?_
              exact ⟨n, Nat.lt_succ_self n, (IntKind.i64.wrap (v80 + 1)), v81, v82, h, by kernel_rfl⟩
      · rintro _ ⟨v3, v4, v5, h, rfl⟩
        unfold millwrightref07_set.j70 at h
        refine sqJ (fun st' => millwrightref07_set.j65 k v1 v3 v4 v5 = some out ∧ st' = ⟨[(1, .p I6 v3), (4, .loc 4 0), (6, .p .bool v1), (7, .vec 1007 1 0 v4.length), (8, .vec 1008 1 0 v5.length)], [(4, .box [.p U6 ((List.replicate 4 (0 : Int)) : List Int)]), (1007, .row 5 (.int .u8) v4 false), (1008, .row 4 .bool v5 false)]⟩) ?_ ?_
        · refine sqJ (fun st' => ∃ v66 : Bool, millwrightref07_set.j68 k v1 v3 v4 v5 v66 = some out ∧ st' = ⟨[(1, .p I6 v3), (4, .loc 4 0), (6, .p .bool v1), (7, .vec 1007 1 0 v4.length), (8, .vec 1008 1 0 v5.length), (79, .p .bool v66)], [(4, .box [.p U6 ((List.replicate 4 (0 : Int)) : List Int)]), (1007, .row 5 (.int .u8) v4 false), (1008, .row 4 .bool v5 false)]⟩) ?_ ?_
          · rcases bool_cases (decide (v3 ≥ (a0.length : Int))) with hc69 | hc69
            · replace h := ite_t hc69 h
              refine rS { kn := [(75, .t hc69)] } [1, 4, 6, 7, 8, 79] [4, 1007, 1008] hN (by kernel_rfl) (by kernel_rfl) ?_
              refine tnU ?_
              exact ⟨true, h, by kernel_rfl⟩
            · replace h := ite_f hc69 h
              refine rS { kn := [(75, .f hc69)] } [1, 4, 6, 7, 8, 79] [4, 1007, 1008] hN (by kernel_rfl) (by kernel_rfl) ?_
              refine tnU ?_
              exact ⟨((v4.length : Int) == 0), h, by kernel_rfl⟩
          · rintro _ ⟨v66, h, rfl⟩
            unfold millwrightref07_set.j68 at h
            refine tS (b := v66) (by kernel_rfl) (fun hc67 => ?_) (fun hc67 => ?_)
            · replace h := ite_t hc67 h
              refine WpC.seq ?_
              refine rS {} [4, 5] [4] hN (by kernel_rfl) (by kernel_rfl) ?_
              refine tnU ?_
              refine WpC.ret ?_
              refine thenQ_ret ?_
              have hq := Option.some.inj h
              subst hq
              exact eR (by kernel_rfl) (by kernel_rfl)
            · replace h := ite_f hc67 h
              refine WpC.conv (cS [.k [1, 4, 6, 7, 8] [4, 1007, 1008]] (by kernel_rfl) (by kernel_rfl)) (WpC.skip ?_)
              refine tnU ?_
              exact ⟨h, by kernel_rfl⟩
        · rintro _ ⟨h, rfl⟩
          unfold millwrightref07_set.j65 at h
          refine WpC.seq ?_
          refine rS {} [1, 4, 6, 7, 8, 9] [4, 9, 1007, 1008] hN (by kernel_rfl) (by kernel_rfl) ?_
          refine tnU ?_
          refine sqJ (fun st' => ∃ v6 : List Bool, millwrightref07_set.j23 k v1 v3 v6 = some out ∧ st' = ⟨[(1, .p I6 v3), (4, .loc 4 0), (6, .p .bool v1), (9, .loc 9 0)], [(4, .box [.p U6 ((List.replicate 4 (0 : Int)) : List Int)]), (9, .box [.p (.arr 256 .bool) v6])]⟩) ?_ ?_
          · refine WpC.seq ?_
            refine rS {} [1, 4, 6, 7, 8, 9, 10] [4, 9, 1007, 1008] hN (by kernel_rfl) (by kernel_rfl) ?_
            refine tnU ?_
            refine WpC.block ?_
            obtain ⟨o28, hlo28, h⟩ := bind_some h
            have hout29 := h
            clear h
            refine WpC.loop (U := Un) (fun n st' => ∃ v24 : List Bool, ∃ v25 : Int, millwrightref07_set.l26 k v1 v3 v4 v5 n v24 v25 = some o28 ∧ st' = ⟨[(1, .p I6 v3), (4, .loc 4 0), (6, .p .bool v1), (7, .vec 1007 1 0 v4.length), (8, .vec 1008 1 0 v5.length), (9, .loc 9 0), (10, .p I6 v25)], [(4, .box [.p U6 ((List.replicate 4 (0 : Int)) : List Int)]), (9, .box [.p (.arr 256 .bool) v24]), (1007, .row 5 (.int .u8) v4 false), (1008, .row 4 .bool v5 false)]⟩) k ⟨(List.replicate 256 false), 0, hlo28, by kernel_rfl⟩ ?_
            clear hlo28
            rintro (_ | n) _ ⟨v24, v25, h, rfl⟩
            · cases h
            · rw [millwrightref07_set.l26] at h
              refine WpC.seq ?_
              refine WpC.seq ?_
              refine rS {} [1, 4, 6, 7, 8, 9, 10, 85] [4, 9, 1007, 1008] hN (by kernel_rfl) (by kernel_rfl) ?_
              refine tnU ?_
              refine tS (b := (decide (v25 < (v4.length : Int)))) (by kernel_rfl) (fun hc30 => ?_) (fun hc30 => ?_)
              · replace h := ite_t hc30 h
                refine WpC.conv (cS [.k [1, 4, 6, 7, 8, 9, 10] [4, 9, 1007, 1008]] (by kernel_rfl) (by kernel_rfl)) (WpC.skip ?_)
                refine tnU ?_
                refine sqJ (fun st' => ∃ v31 : List Bool, ∃ v32 : Int, millwrightref07_set.j33 k (millwrightref07_set.l26 k v1 v3 v4 v5 n) v1 v3 v4 v5 v31 v32 = some o28 ∧ st' = ⟨[(1, .p I6 v3), (4, .loc 4 0), (6, .p .bool v1), (7, .vec 1007 1 0 v4.length), (8, .vec 1008 1 0 v5.length), (9, .loc 9 0), (10, .p I6 v32)], [(4, .box [.p U6 ((List.replicate 4 (0 : Int)) : List Int)]), (9, .box [.p (.arr 256 .bool) v31]), (1007, .row 5 (.int .u8) v4 false), (1008, .row 4 .bool v5 false)]⟩) ?_ ?_
                · refine WpC.block ?_
                  refine WpC.seq ?_
                  obtain ⟨g34, h⟩ := if_some h
                  obtain ⟨v35, hv35, h⟩ := bind_some h
                  obtain ⟨g36, h⟩ := if_some h
                  obtain ⟨v37, hv37, h⟩ := bind_some h
                  refine rA { its := [(2, .g g34), (3, .v (.int .u8) hv35), (6, .g g36), (7, .v (.int .u8) hv37)] } [1, 4, 6, 7, 8, 9, 10, 11, 12] [4, 9, 1007, 1008] hN (by kernel_rfl) (by kernel_rfl) (by kernel_rfl) ?_
                  refine tnU ?_
                  refine sqJ (fun st' => ∃ v38 : Int, ∃ v39 : Int, millwrightref07_set.j51 k (millwrightref07_set.l26 k v1 v3 v4 v5 n) v1 v3 v4 v5 v24 v35 v38 v39 = some o28 ∧ st' = ⟨[(1, .p I6 v3), (4, .loc 4 0), (6, .p .bool v1), (7, .vec 1007 1 0 v4.length), (8, .vec 1008 1 0 v5.length), (9, .loc 9 0), (10, .p I6 v38), (11, .p (.int .u8) v35), (12, .p (.int .u8) v39)], [(4, .box [.p U6 ((List.replicate 4 (0 : Int)) : List Int)]), (9, .box [.p (.arr 256 .bool) v24]), (1007, .row 5 (.int .u8) v4 false), (1008, .row 4 .bool v5 false)]⟩) ?_ ?_
                  · refine sqJ (fun st' => ∃ v52 : Bool, millwrightref07_set.j56 k (millwrightref07_set.l26 k v1 v3 v4 v5 n) v1 v3 v4 v5 v24 v25 v35 v37 v52 = some o28 ∧ st' = ⟨[(1, .p I6 v3), (4, .loc 4 0), (6, .p .bool v1), (7, .vec 1007 1 0 v4.length), (8, .vec 1008 1 0 v5.length), (9, .loc 9 0), (10, .p I6 v25), (11, .p (.int .u8) v35), (12, .p (.int .u8) v37), (115, .p .bool v52)], [(4, .box [.p U6 ((List.replicate 4 (0 : Int)) : List Int)]), (9, .box [.p (.arr 256 .bool) v24]), (1007, .row 5 (.int .u8) v4 false), (1008, .row 4 .bool v5 false)]⟩) ?_ ?_
                    · rcases bool_cases (decide ((IntKind.i64.wrap (v25 + 2)) < (v4.length : Int))) with hc57 | hc57
                      · replace h := ite_t hc57 h
                        obtain ⟨g58, h⟩ := if_some h
                        obtain ⟨v59, hv59, h⟩ := bind_some h
                        rcases bool_cases (v59 == 45) with hc60 | hc60
                        · replace h := ite_t hc60 h
                          obtain ⟨g61, h⟩ := if_some h
                          obtain ⟨v62, hv62, h⟩ := bind_some h
                          refine rS { its := [(9, .g g58), (10, .v (.int .u8) hv59), (17, .g g61), (18, .v .bool hv62)], kn := [(101, .t hc57), (109, .t hc60)] } [1, 4, 6, 7, 8, 9, 10, 11, 12, 115] [4, 9, 1007, 1008] hN (by kernel_rfl) (by kernel_rfl) ?_
                          refine tnU ?_
                          exact ⟨v62, h, by kernel_rfl⟩
                        · replace h := ite_f hc60 h
                          refine rS { its := [(9, .g g58), (10, .v (.int .u8) hv59)], kn := [(101, .t hc57), (109, .f hc60)] } [1, 4, 6, 7, 8, 9, 10, 11, 12, 115] [4, 9, 1007, 1008] hN (by kernel_rfl) (by kernel_rfl) ?_
                          refine tnU ?_
                          exact ⟨false, h, by kernel_rfl⟩
                      · replace h := ite_f hc57 h
                        refine rS { kn := [(101, .f hc57)] } [1, 4, 6, 7, 8, 9, 10, 11, 12, 115] [4, 9, 1007, 1008] hN (by kernel_rfl) (by kernel_rfl) ?_
                        refine tnU ?_
                        exact ⟨false, h, by kernel_rfl⟩
                    · rintro _ ⟨v52, h, rfl⟩
                      unfold millwrightref07_set.j56 at h
                      refine tS (b := v52) (by kernel_rfl) (fun hc53 => ?_) (fun hc53 => ?_)
                      · replace h := ite_t hc53 h
                        refine WpC.seq ?_
                        obtain ⟨g54, h⟩ := if_some h
                        obtain ⟨v55, hv55, h⟩ := bind_some h
                        refine rS { its := [(3, .g g54), (4, .v (.int .u8) hv55)] } [1, 4, 6, 7, 8, 9, 10, 11, 12] [4, 9, 1007, 1008] hN (by kernel_rfl) (by kernel_rfl) ?_
                        refine tnU ?_
                        refine rS {} [1, 4, 6, 7, 8, 9, 10, 11, 12] [4, 9, 1007, 1008] hN (by kernel_rfl) (by kernel_rfl) ?_
                        refine tnU ?_
                        exact ⟨(IntKind.i64.wrap (v25 + 2)), v55, h, by kernel_rfl⟩
                      · replace h := ite_f hc53 h
                        refine WpC.conv (cS [.k [1, 4, 6, 7, 8, 9, 10, 11, 12] [4, 9, 1007, 1008]] (by kernel_rfl) (by kernel_rfl)) (WpC.skip ?_)
                        refine tnU ?_
                        exact ⟨v25, v37, h, by kernel_rfl⟩
                  · rintro _ ⟨v38, v39, h, rfl⟩
                    unfold millwrightref07_set.j51 at h
                    refine WpC.seq ?_
                    refine WpC.seq ?_
                    refine rS {} [1, 4, 6, 7, 8, 9, 10, 11, 12, 125] [4, 9, 1007, 1008] hN (by kernel_rfl) (by kernel_rfl) ?_
                    refine tnU ?_
                    refine tS (b := (decide (v39 < v35))) (by kernel_rfl) (fun hc40 => ?_) (fun hc40 => ?_)
                    · replace h := ite_t hc40 h
                      refine WpC.seq ?_
                      refine rS {} [4, 5] [4] hN (by kernel_rfl) (by kernel_rfl) ?_
                      refine tnU ?_
                      refine WpC.ret ?_
                      refine thenQ_ret ?_
                      refine blockQ_ret ?_
                      refine thenQ_ret ?_
                      have hq := Option.some.inj h
                      subst hq
                      refine thenQ_ret ?_
                      have h := hout29
                      refine blockQ_ret ?_
                      refine thenQ_ret ?_
                      have hq := Option.some.inj h
                      subst hq
                      exact eR (by kernel_rfl) (by kernel_rfl)
                    · replace h := ite_f hc40 h
                      refine WpC.conv (cS [.k [1, 4, 6, 7, 8, 9, 10, 11, 12] [4, 9, 1007, 1008]] (by kernel_rfl) (by kernel_rfl)) (WpC.skip ?_)
                      refine tnU ?_
                      refine WpC.seq ?_
                      refine rS {} [1, 4, 6, 7, 8, 9, 10, 12, 13] [4, 9, 1007, 1008] hN (by kernel_rfl) (by kernel_rfl) ?_
                      refine tnU ?_
                      refine WpC.block ?_
                      obtain ⟨o45, hlo45, h⟩ := bind_some h
                      have hout46 := h
                      clear h
                      refine WpC.loop (U := Un) (fun n st' => ∃ v41 : List Bool, ∃ v42 : Int, millwrightref07_set.l43 k v1 v3 v4 v5 v38 v39 n v41 v42 = some o45 ∧ st' = ⟨[(1, .p I6 v3), (4, .loc 4 0), (6, .p .bool v1), (7, .vec 1007 1 0 v4.length), (8, .vec 1008 1 0 v5.length), (9, .loc 9 0), (10, .p I6 v38), (12, .p (.int .u8) v39), (13, .p I6 v42)], [(4, .box [.p U6 ((List.replicate 4 (0 : Int)) : List Int)]), (9, .box [.p (.arr 256 .bool) v41]), (1007, .row 5 (.int .u8) v4 false), (1008, .row 4 .bool v5 false)]⟩) k ⟨v24, (IntKind.i64.wrap v35), hlo45, by kernel_rfl⟩ ?_
                      clear hlo45
                      rintro (_ | n) _ ⟨v41, v42, h, rfl⟩
                      · cases h
                      · rw [millwrightref07_set.l43] at h
                        refine WpC.seq ?_
                        refine WpC.seq ?_
                        refine rS {} [1, 4, 6, 7, 8, 9, 10, 12, 13, 132] [4, 9, 1007, 1008] hN (by kernel_rfl) (by kernel_rfl) ?_
                        refine tnU ?_
                        refine tS (b := (decide (v42 ≤ (IntKind.i64.wrap v39)))) (by kernel_rfl) (fun hc47 => ?_) (fun hc47 => ?_)
                        · replace h := ite_t hc47 h
                          refine WpC.conv (cS [.k [1, 4, 6, 7, 8, 9, 10, 12, 13] [4, 9, 1007, 1008]] (by kernel_rfl) (by kernel_rfl)) (WpC.skip ?_)
                          refine tnU ?_
                          refine WpC.seq ?_
                          refine WpC.block ?_
                          obtain ⟨g48, h⟩ := if_some h
                          obtain ⟨v49, hv49, h⟩ := bind_some h
                          refine rS { its := [(1, .g g48), (2, .v .bool hv49)] } [1, 4, 6, 7, 8, 9, 10, 12, 13] [4, 9, 1007, 1008] hN (by kernel_rfl) (by kernel_rfl) ?_
                          refine blockQ_normal ?_
                          refine tnU ?_
                          refine rS {} [1, 4, 6, 7, 8, 9, 10, 12, 13] [4, 9, 1007, 1008] hN (by kernel_rfl) (by kernel_rfl) ?_
                          refine tnU ?_
                          exact ⟨n, Nat.lt_succ_self n, (upd v41 v42.toNat true), (IntKind.i64.wrap (v42 + 1)), h, by kernel_rfl⟩
                        · replace h := ite_f hc47 h
                          refine WpC.conv (cS [.k [1, 4, 6, 7, 8, 9, 10] [4, 9, 1007, 1008]] (by kernel_rfl) (by kernel_rfl)) (WpC.exit ?_)
                          refine thenQ_exit ?_
                          have hq := Option.some.inj h
                          subst hq
                          refine thenQ_exit ?_
                          have h := hout46
                          refine blockQ_hit ?_
                          refine blockQ_normal ?_
                          refine tnU ?_
                          exact ⟨v41, v38, h, by kernel_rfl⟩
                · rintro _ ⟨v31, v32, h, rfl⟩
                  unfold millwrightref07_set.j33 at h
                  refine rS {} [1, 4, 6, 7, 8, 9, 10] [4, 9, 1007, 1008] hN (by kernel_rfl) (by kernel_rfl) ?_
                  refine tnU ?_
                  exact ⟨n, Nat.lt_succ_self n, v31, (IntKind.i64.wrap (v32 + 1)), h, by kernel_rfl⟩
              · replace h := ite_f hc30 h
                refine WpC.conv (cS [.k [1, 4, 6, 9] [4, 9]] (by kernel_rfl) (by kernel_rfl)) (WpC.exit ?_)
                refine thenQ_exit ?_
                have hq := Option.some.inj h
                subst hq
                refine thenQ_exit ?_
                have h := hout29
                refine blockQ_hit ?_
                refine tnU ?_
                exact ⟨v24, h, by kernel_rfl⟩
          · rintro _ ⟨v6, h, rfl⟩
            unfold millwrightref07_set.j23 at h
            refine sqJ (fun st' => ∃ v7 : List Bool, millwrightref07_set.j9 k v3 v7 = some out ∧ st' = ⟨[(1, .p I6 v3), (4, .loc 4 0), (9, .loc 9 0)], [(4, .box [.p U6 ((List.replicate 4 (0 : Int)) : List Int)]), (9, .box [.p (.arr 256 .bool) v7])]⟩) ?_ ?_
            · refine WpC.seq ?_
              refine rS {} [1, 4, 9, 137] [4, 9] hN (by kernel_rfl) (by kernel_rfl) ?_
              refine tnU ?_
              refine tS (b := v1) (by kernel_rfl) (fun hc10 => ?_) (fun hc10 => ?_)
              · replace h := ite_t hc10 h
                refine WpC.seq ?_
                refine rS {} [1, 4, 9, 138] [4, 9] hN (by kernel_rfl) (by kernel_rfl) ?_
                refine tnU ?_
                refine WpC.block ?_
                obtain ⟨o15, hlo15, h⟩ := bind_some h
                have hout16 := h
                clear h
                refine WpC.loop (U := Un) (fun n st' => ∃ v11 : List Bool, ∃ v12 : Int, millwrightref07_set.l13 k v3 n v11 v12 = some o15 ∧ st' = ⟨[(1, .p I6 v3), (4, .loc 4 0), (9, .loc 9 0), (138, .p I6 v12)], [(4, .box [.p U6 ((List.replicate 4 (0 : Int)) : List Int)]), (9, .box [.p (.arr 256 .bool) v11])]⟩) k ⟨v6, 0, hlo15, by kernel_rfl⟩ ?_
                clear hlo15
                rintro (_ | n) _ ⟨v11, v12, h, rfl⟩
                · cases h
                · rw [millwrightref07_set.l13] at h
                  refine WpC.seq ?_
                  refine rS {} [1, 4, 9, 138, 139] [4, 9] hN (by kernel_rfl) (by kernel_rfl) ?_
                  refine tnU ?_
                  refine WpC.seq ?_
                  refine tS (b := (decide (v12 < 256))) (by kernel_rfl) (fun hc17 => ?_) (fun hc17 => ?_)
                  · replace h := ite_t hc17 h
                    refine WpC.conv (cS [.k [1, 4, 9, 138] [4, 9]] (by kernel_rfl) (by kernel_rfl)) (WpC.skip ?_)
                    refine tnU ?_
                    refine WpC.seq ?_
                    refine WpC.block ?_
                    refine WpC.seq ?_
                    refine rS {} [1, 4, 9, 14, 138] [4, 9] hN (by kernel_rfl) (by kernel_rfl) ?_
                    refine tnU ?_
                    obtain ⟨g18, h⟩ := if_some h
                    obtain ⟨v19, hv19, h⟩ := bind_some h
                    obtain ⟨g20, h⟩ := if_some h
                    obtain ⟨v21, hv21, h⟩ := bind_some h
                    refine rS { its := [(2, .g g18), (3, .v .bool hv19), (5, .g g20), (6, .v .bool hv21)] } [1, 4, 9, 138] [4, 9] hN (by kernel_rfl) (by kernel_rfl) ?_
                    refine blockQ_normal ?_
                    refine tnU ?_
                    refine rS {} [1, 4, 9, 138] [4, 9] hN (by kernel_rfl) (by kernel_rfl) ?_
                    refine tnU ?_
                    exact ⟨n, Nat.lt_succ_self n, (upd v11 v12.toNat (!v19)), (IntKind.i64.wrap (v12 + 1)), h, by kernel_rfl⟩
                  · replace h := ite_f hc17 h
                    refine WpC.conv (cS [.k [1, 4, 9] [4, 9]] (by kernel_rfl) (by kernel_rfl)) (WpC.exit ?_)
                    refine thenQ_exit ?_
                    have hq := Option.some.inj h
                    subst hq
                    refine thenQ_exit ?_
                    have h := hout16
                    refine blockQ_hit ?_
                    refine tnU ?_
                    exact ⟨v11, h, by kernel_rfl⟩
              · replace h := ite_f hc10 h
                refine WpC.conv (cS [.k [1, 4, 9] [4, 9]] (by kernel_rfl) (by kernel_rfl)) (WpC.skip ?_)
                refine tnU ?_
                exact ⟨v6, h, by kernel_rfl⟩
            · rintro _ ⟨v7, h, rfl⟩
              unfold millwrightref07_set.j9 at h
              refine WpC.seq ?_
              obtain ⟨v8, hv8, h⟩ := bind_some h
              refine rS { its := [(1, .c (millwrightref06_Of.ok O hO k v7 v8 hv8))] } [4, 5] [4] hN (by kernel_rfl) (by kernel_rfl) ?_
              refine tnU ?_
              refine WpC.ret ?_
              have hq := Option.some.inj h
              subst hq
              exact eR (by kernel_rfl) (by kernel_rfl)

theorem millwrightref07_signs.ok (O : Out) (hO : GOkE O) (k : Nat) (a0 : List UInt8) (out : (List T_millwrightref07_sign) × Bool) (h : millwrightref07_signs.f k a0 = some out) : COk Un O Tryd.prog 13 { ar := [.p .str a0], r := .tup [.p (.list (.named 7)) out.1, .p .bool out.2] } := by
  refine cok_of_wp Tryd.func13 rfl (k := 93) rfl (Nat.le_of_ble_eq_true rfl) (namesOk_pure rfl rfl rfl rfl) ?_
  intro B hN
  refine WpC.conv (cvK (b := ⟨[(0, .p .str a0)], []⟩) [0] [] (by kernel_rfl)) ?_
  unfold millwrightref07_signs.f at h
  refine WpC.seq ?_
  refine rS {} [0] [] hN (by kernel_rfl) (by kernel_rfl) ?_
  refine tnU ?_
  refine WpC.seq ?_
  refine rSC {} [0, 4] [11] hN (by kernel_rfl) (by kernel_rfl) (cS [.k [0, 4] [11], .x (Conv.cast (U := Un) (st := ⟨[(0, .p .str a0), (4, .vec 11 5 0 (([] : List T_millwrightref07_sign).length))], [(11, .row 75 (.named 7) ([] : List T_millwrightref07_sign) true)]⟩) (st' := ⟨[(0, .p .str a0), (4, .vec 11 5 0 0)], [(11, .row 75 (.named 7) ([] : List T_millwrightref07_sign) true)]⟩) (by simp only [upd_length, List.length_nil, List.length_replicate]))] (by kernel_rfl) (by kernel_rfl)) ?_
  refine tnU ?_
  refine sqJ (fun st' => ∃ v1 : List T_millwrightref07_sign, millwrightref07_signs.j2 k v1 = some out ∧ st' = ⟨[(4, .vec 1004 5 0 v1.length)], [(1004, .row 75 (.named 7) v1 false)]⟩) ?_ ?_
  · refine WpC.seq ?_
    refine rS {} [0, 4, 5] [11] hN (by kernel_rfl) (by kernel_rfl) ?_
    refine tnU ?_
    refine WpC.block ?_
    obtain ⟨o7, hlo7, h⟩ := bind_some h
    have hout8 := h
    clear h
    refine WpC.conv (cS [.lo 11, .k [0, 4, 5] [11], .rn 11 1004, .k [0, 4, 5] [1004]] (by kernel_rfl) (by kernel_rfl)) ?_
    refine WpC.loop (U := Un) (fun n st' => ∃ v3 : List T_millwrightref07_sign, ∃ v4 : Int, millwrightref07_signs.l5 k a0 n v3 v4 = some o7 ∧ st' = ⟨[(0, .p .str a0), (4, .vec 1004 5 0 v3.length), (5, .p I6 v4)], [(1004, .row 75 (.named 7) v3 false)]⟩) k ⟨([] : List T_millwrightref07_sign), 0, hlo7, by kernel_rfl⟩ ?_
    clear hlo7
    rintro (_ | n) _ ⟨v3, v4, h, rfl⟩
    · cases h
    · rw [millwrightref07_signs.l5] at h
      refine WpC.seq ?_
      refine WpC.seq ?_
      refine rS {} [0, 4, 5, 15] [1004] hN (by kernel_rfl) (by kernel_rfl) ?_
      refine tnU ?_
      refine tS (b := (decide (v4 < (a0.length : Int)))) (by kernel_rfl) (fun hc9 => ?_) (fun hc9 => ?_)
      · replace h := ite_t hc9 h
        refine WpC.conv (cS [.k [0, 4, 5] [1004]] (by kernel_rfl) (by kernel_rfl)) (WpC.skip ?_)
        refine tnU ?_
        refine sqJ (fun st' => ∃ v10 : List T_millwrightref07_sign, ∃ v11 : Int, millwrightref07_signs.j12 k (millwrightref07_signs.l5 k a0 n) a0 v10 v11 = some o7 ∧ st' = ⟨[(0, .p .str a0), (4, .vec 1004 5 0 v10.length), (5, .p I6 v11)], [(1004, .row 75 (.named 7) v10 false)]⟩) ?_ ?_
        · refine WpC.block ?_
          refine WpC.seq ?_
          obtain ⟨v13, hv13, h⟩ := bind_some h
          refine rS { its := [(2, .u hv13)] } [0, 4, 5, 6] [1004] hN (by kernel_rfl) (by kernel_rfl) ?_
          refine tnU ?_
          refine WpC.seq ?_
          refine rS {} [0, 4, 5, 6, 21] [1004] hN (by kernel_rfl) (by kernel_rfl) ?_
          refine tnU ?_
          refine WpC.block ?_
          refine WpC.seq ?_
          refine rS {} [0, 4, 5, 6, 21, 28] [1004] hN (by kernel_rfl) (by kernel_rfl) ?_
          refine tnU ?_
          refine tS (b := ((v13.toNat : Int) == 92)) (by kernel_rfl) (fun hc14 => ?_) (fun hc14 => ?_)
          · replace h := ite_t hc14 h
            refine WpC.seq ?_
            refine rS {} [0, 4, 5] [1004] hN (by kernel_rfl) (by kernel_rfl) ?_
            refine tnU ?_
            refine WpC.seq ?_
            refine WpC.seq ?_
            refine rS {} [0, 4, 5, 35] [1004] hN (by kernel_rfl) (by kernel_rfl) ?_
            refine tnU ?_
            refine tS (b := (decide ((IntKind.i64.wrap (v4 + 1)) ≥ (a0.length : Int)))) (by kernel_rfl) (fun hc15 => ?_) (fun hc15 => ?_)
            · replace h := ite_t hc15 h
              refine WpC.seq ?_
              refine rS {} [2, 3] [] hN (by kernel_rfl) (by kernel_rfl) ?_
              refine tnU ?_
              refine WpC.conv (cS [.nL 2 (.named 7), .k [2, 3] []] (by kernel_rfl) (by kernel_rfl)) (WpC.ret ?_)
              refine thenQ_ret ?_
              refine blockQ_ret ?_
              refine blockQ_ret ?_
              refine thenQ_ret ?_
              have hq := Option.some.inj h
              subst hq
              refine thenQ_ret ?_
              have h := hout8
              refine blockQ_ret ?_
              refine thenQ_ret ?_
              have hq := Option.some.inj h
              subst hq
              exact eR (by kernel_rfl) (by kernel_rfl)
            · replace h := ite_f hc15 h
              refine WpC.conv (cS [.k [0, 4, 5] [1004]] (by kernel_rfl) (by kernel_rfl)) (WpC.skip ?_)
              refine tnU ?_
              obtain ⟨v16, hv16, h⟩ := bind_some h
              obtain ⟨v17, hv17, h⟩ := bind_some h
              obtain ⟨g18, h⟩ := if_some h
              refine rSC { its := [(3, .u hv16), (4, .c (millwrightref07_single.ok O hO k (v16.toNat : Int) v17 hv17)), (7, .g g18)] } [0, 4, 5] [43] hN (by kernel_rfl) (by kernel_rfl) (cS [.rn 43 1004, .k [0, 4, 5] [1004]] (by kernel_rfl) (by kernel_rfl)) ?_
              refine blockQ_normal ?_
              refine blockQ_normal ?_
              refine tnU ?_
              exact ⟨(v3 ++ [(T_millwrightref07_sign.mk 0 v17)]), (IntKind.i64.wrap (v4 + 1)), h, by kernel_rfl⟩
          · replace h := ite_f hc14 h
            refine WpC.seq ?_
            refine rS {} [0, 4, 5, 6, 21, 44] [1004] hN (by kernel_rfl) (by kernel_rfl) ?_
            refine tnU ?_
            refine tS (b := ((v13.toNat : Int) == 91)) (by kernel_rfl) (fun hc19 => ?_) (fun hc19 => ?_)
            · replace h := ite_t hc19 h
              refine WpC.seq ?_
              obtain ⟨v20, hv20, h⟩ := bind_some h
              refine rS { its := [(3, .c (millwrightref07_set.ok O hO k a0 (IntKind.i64.wrap (v4 + 1)) v20 hv20))] } [0, 4, 7, 8] [7, 1004] hN (by kernel_rfl) (by kernel_rfl) ?_
              refine tnU ?_
              refine WpC.seq ?_
              refine WpC.seq ?_
              refine rS {} [0, 4, 7, 8, 54] [7, 1004] hN (by kernel_rfl) (by kernel_rfl) ?_
              refine tnU ?_
              refine tS (b := (decide (v20.2 < 0))) (by kernel_rfl) (fun hc21 => ?_) (fun hc21 => ?_)
              · replace h := ite_t hc21 h
                refine WpC.seq ?_
                refine rS {} [2, 3] [] hN (by kernel_rfl) (by kernel_rfl) ?_
                refine tnU ?_
                refine WpC.conv (cS [.nL 2 (.named 7), .k [2, 3] []] (by kernel_rfl) (by kernel_rfl)) (WpC.ret ?_)
                refine thenQ_ret ?_
                refine blockQ_ret ?_
                refine blockQ_ret ?_
                refine thenQ_ret ?_
                have hq := Option.some.inj h
                subst hq
                refine thenQ_ret ?_
                have h := hout8
                refine blockQ_ret ?_
                refine thenQ_ret ?_
                have hq := Option.some.inj h
                subst hq
                exact eR (by kernel_rfl) (by kernel_rfl)
              · replace h := ite_f hc21 h
                refine WpC.conv (cS [.k [0, 4, 7, 8] [7, 1004]] (by kernel_rfl) (by kernel_rfl)) (WpC.skip ?_)
                refine tnU ?_
                refine WpC.seq ?_
                obtain ⟨g22, h⟩ := if_some h
                refine rS { its := [(4, .g g22)] } [0, 4, 8] [59] hN (by kernel_rfl) (by kernel_rfl) ?_
                refine tnU ?_
                refine rSC {} [0, 4, 5] [59] hN (by kernel_rfl) (by kernel_rfl) (cS [.rn 59 1004, .k [0, 4, 5] [1004]] (by kernel_rfl) (by kernel_rfl)) ?_
                refine blockQ_normal ?_
                refine blockQ_normal ?_
                refine tnU ?_
                exact ⟨(v3 ++ [(T_millwrightref07_sign.mk 0 v20.1)]), v20.2, h, by kernel_rfl⟩
            · replace h := ite_f hc19 h
              refine WpC.seq ?_
              refine rS {} [0, 4, 5, 6, 21, 61] [1004] hN (by kernel_rfl) (by kernel_rfl) ?_
              refine tnU ?_
              refine tS (b := ((v13.toNat : Int) == 46)) (by kernel_rfl) (fun hc23 => ?_) (fun hc23 => ?_)
              · replace h := ite_t hc23 h
                refine WpC.seq ?_
                refine rS {} [0, 4, 5, 9] [9, 1004] hN (by kernel_rfl) (by kernel_rfl) ?_
                refine tnU ?_
                refine sqJ (fun st' => ∃ v24 : List Bool, millwrightref07_signs.j27 k (millwrightref07_signs.l5 k a0 n) a0 v3 v4 v24 = some o7 ∧ st' = ⟨[(0, .p .str a0), (4, .vec 1004 5 0 v3.length), (5, .p I6 v4), (9, .loc 9 0)], [(9, .box [.p (.arr 256 .bool) v24]), (1004, .row 75 (.named 7) v3 false)]⟩) ?_ ?_
                · refine WpC.seq ?_
                  refine rS {} [0, 4, 5, 9, 64] [9, 1004] hN (by kernel_rfl) (by kernel_rfl) ?_
                  refine tnU ?_
                  refine WpC.block ?_
                  obtain ⟨o32, hlo32, h⟩ := bind_some h
                  have hout33 := h
                  clear h
                  refine WpC.loop (U := Un) (fun n st' => ∃ v28 : List Bool, ∃ v29 : Int, millwrightref07_signs.l30 k a0 v3 v4 n v28 v29 = some o32 ∧ st' = ⟨[(0, .p .str a0), (4, .vec 1004 5 0 v3.length), (5, .p I6 v4), (9, .loc 9 0), (64, .p I6 v29)], [(9, .box [.p (.arr 256 .bool) v28]), (1004, .row 75 (.named 7) v3 false)]⟩) k ⟨(List.replicate 256 false), 0, hlo32, by kernel_rfl⟩ ?_
                  clear hlo32
                  rintro (_ | n) _ ⟨v28, v29, h, rfl⟩
                  · cases h
                  · rw [millwrightref07_signs.l30] at h
                    refine WpC.seq ?_
                    refine rS {} [0, 4, 5, 9, 64, 65] [9, 1004] hN (by kernel_rfl) (by kernel_rfl) ?_
                    refine tnU ?_
                    refine WpC.seq ?_
                    refine tS (b := (decide (v29 < 256))) (by kernel_rfl) (fun hc34 => ?_) (fun hc34 => ?_)
                    · replace h := ite_t hc34 h
                      refine WpC.conv (cS [.k [0, 4, 5, 9, 64] [9, 1004]] (by kernel_rfl) (by kernel_rfl)) (WpC.skip ?_)
                      refine tnU ?_
                      refine WpC.seq ?_
                      refine WpC.block ?_
                      refine WpC.seq ?_
                      refine rS {} [0, 4, 5, 9, 10, 64] [9, 1004] hN (by kernel_rfl) (by kernel_rfl) ?_
                      refine tnU ?_
                      obtain ⟨g35, h⟩ := if_some h
                      obtain ⟨v36, hv36, h⟩ := bind_some h
                      refine rS { its := [(3, .g g35), (4, .v .bool hv36)] } [0, 4, 5, 9, 64] [9, 1004] hN (by kernel_rfl) (by kernel_rfl) ?_
                      refine blockQ_normal ?_
                      refine tnU ?_
                      refine rS {} [0, 4, 5, 9, 64] [9, 1004] hN (by kernel_rfl) (by kernel_rfl) ?_
                      refine tnU ?_
                      exact ⟨n, Nat.lt_succ_self n, (upd v28 v29.toNat (v29 != 10)), (IntKind.i64.wrap (v29 + 1)), h, by kernel_rfl⟩
                    · replace h := ite_f hc34 h
                      refine WpC.conv (cS [.k [0, 4, 5, 9] [9, 1004]] (by kernel_rfl) (by kernel_rfl)) (WpC.exit ?_)
                      refine thenQ_exit ?_
                      have hq := Option.some.inj h
                      subst hq
                      refine thenQ_exit ?_
                      have h := hout33
                      refine blockQ_hit ?_
                      refine tnU ?_
                      exact ⟨v28, h, by kernel_rfl⟩
                · rintro _ ⟨v24, h, rfl⟩
                  unfold millwrightref07_signs.j27 at h
                  obtain ⟨v25, hv25, h⟩ := bind_some h
                  obtain ⟨g26, h⟩ := if_some h
                  refine rSC { its := [(2, .c (millwrightref06_Of.ok O hO k v24 v25 hv25)), (5, .g g26)] } [0, 4, 5] [77] hN (by kernel_rfl) (by kernel_rfl) (cS [.rn 77 1004, .k [0, 4, 5] [1004]] (by kernel_rfl) (by kernel_rfl)) ?_
                  refine blockQ_normal ?_
                  refine blockQ_normal ?_
                  refine tnU ?_
                  exact ⟨(v3 ++ [(T_millwrightref07_sign.mk 0 v25)]), v4, h, by kernel_rfl⟩
              · replace h := ite_f hc23 h
                refine sqJ (fun st' => ∃ v38 : Bool, millwrightref07_signs.j43 k (millwrightref07_signs.l5 k a0 n) a0 v3 v4 v13 v38 = some o7 ∧ st' = ⟨[(0, .p .str a0), (4, .vec 1004 5 0 v3.length), (5, .p I6 v4), (6, .p (.int .u8) ((v13.toNat : Int) : Int)), (78, .p .bool v38)], [(1004, .row 75 (.named 7) v3 false)]⟩) ?_ ?_
                · refine WpC.seq ?_
                  refine rS {} [0, 4, 5, 6, 21, 78] [1004] hN (by kernel_rfl) (by kernel_rfl) ?_
                  refine tnU ?_
                  refine tS (b := ((v13.toNat : Int) == 40)) (by kernel_rfl) (fun hc44 => ?_) (fun hc44 => ?_)
                  · replace h := ite_t hc44 h
                    refine WpC.conv (cS [.k [0, 4, 5, 6, 78] [1004]] (by kernel_rfl) (by kernel_rfl)) (WpC.skip ?_)
                    refine tnU ?_
                    exact ⟨((v13.toNat : Int) == 40), h, by kernel_rfl⟩
                  · replace h := ite_f hc44 h
                    refine WpC.seq ?_
                    refine rS {} [0, 4, 5, 6, 21, 78] [1004] hN (by kernel_rfl) (by kernel_rfl) ?_
                    refine tnU ?_
                    refine tS (b := ((v13.toNat : Int) == 41)) (by kernel_rfl) (fun hc45 => ?_) (fun hc45 => ?_)
                    · replace h := ite_t hc45 h
                      refine WpC.conv (cS [.k [0, 4, 5, 6, 78] [1004]] (by kernel_rfl) (by kernel_rfl)) (WpC.skip ?_)
                      refine tnU ?_
                      exact ⟨((v13.toNat : Int) == 41), h, by kernel_rfl⟩
                    · replace h := ite_f hc45 h
                      refine WpC.seq ?_
                      refine rS {} [0, 4, 5, 6, 21, 78] [1004] hN (by kernel_rfl) (by kernel_rfl) ?_
                      refine tnU ?_
                      refine tS (b := ((v13.toNat : Int) == 124)) (by kernel_rfl) (fun hc46 => ?_) (fun hc46 => ?_)
                      · replace h := ite_t hc46 h
                        refine WpC.conv (cS [.k [0, 4, 5, 6, 78] [1004]] (by kernel_rfl) (by kernel_rfl)) (WpC.skip ?_)
                        refine tnU ?_
                        exact ⟨((v13.toNat : Int) == 124), h, by kernel_rfl⟩
                      · replace h := ite_f hc46 h
                        refine WpC.seq ?_
                        refine rS {} [0, 4, 5, 6, 21, 78] [1004] hN (by kernel_rfl) (by kernel_rfl) ?_
                        refine tnU ?_
                        refine tS (b := ((v13.toNat : Int) == 42)) (by kernel_rfl) (fun hc47 => ?_) (fun hc47 => ?_)
                        · replace h := ite_t hc47 h
                          refine WpC.conv (cS [.k [0, 4, 5, 6, 78] [1004]] (by kernel_rfl) (by kernel_rfl)) (WpC.skip ?_)
                          refine tnU ?_
                          exact ⟨((v13.toNat : Int) == 42), h, by kernel_rfl⟩
                        · replace h := ite_f hc47 h
                          refine WpC.seq ?_
                          refine rS {} [0, 4, 5, 6, 21, 78] [1004] hN (by kernel_rfl) (by kernel_rfl) ?_
                          refine tnU ?_
                          refine tS (b := ((v13.toNat : Int) == 43)) (by kernel_rfl) (fun hc48 => ?_) (fun hc48 => ?_)
                          · replace h := ite_t hc48 h
                            refine WpC.conv (cS [.k [0, 4, 5, 6, 78] [1004]] (by kernel_rfl) (by kernel_rfl)) (WpC.skip ?_)
                            refine tnU ?_
                            exact ⟨((v13.toNat : Int) == 43), h, by kernel_rfl⟩
                          · replace h := ite_f hc48 h
                            refine WpC.seq ?_
                            refine rS {} [0, 4, 5, 6, 21, 78] [1004] hN (by kernel_rfl) (by kernel_rfl) ?_
                            refine tnU ?_
                            refine tS (b := ((v13.toNat : Int) == 63)) (by kernel_rfl) (fun hc49 => ?_) (fun hc49 => ?_)
                            · replace h := ite_t hc49 h
                              refine WpC.conv (cS [.k [0, 4, 5, 6, 78] [1004]] (by kernel_rfl) (by kernel_rfl)) (WpC.skip ?_)
                              refine tnU ?_
                              exact ⟨((v13.toNat : Int) == 63), h, by kernel_rfl⟩
                            · replace h := ite_f hc49 h
                              refine WpC.seq ?_
                              refine rS {} [0, 4, 5, 6, 21, 78] [1004] hN (by kernel_rfl) (by kernel_rfl) ?_
                              refine tnU ?_
                              refine tS (b := ((v13.toNat : Int) == 94)) (by kernel_rfl) (fun hc50 => ?_) (fun hc50 => ?_)
                              · replace h := ite_t hc50 h
                                refine WpC.conv (cS [.k [0, 4, 5, 6, 78] [1004]] (by kernel_rfl) (by kernel_rfl)) (WpC.skip ?_)
                                refine tnU ?_
                                exact ⟨((v13.toNat : Int) == 94), h, by kernel_rfl⟩
                              · replace h := ite_f hc50 h
                                refine rS {} [0, 4, 5, 6, 78] [1004] hN (by kernel_rfl) (by kernel_rfl) ?_
                                refine tnU ?_
                                exact ⟨((v13.toNat : Int) == 36), h, by kernel_rfl⟩
                · rintro _ ⟨v38, h, rfl⟩
                  unfold millwrightref07_signs.j43 at h
                  refine tS (b := v38) (by kernel_rfl) (fun hc39 => ?_) (fun hc39 => ?_)
                  · replace h := ite_t hc39 h
                    obtain ⟨g40, h⟩ := if_some h
                    refine rSC { its := [(4, .g g40)] } [0, 4, 5] [91] hN (by kernel_rfl) (by kernel_rfl) (cS [.rn 91 1004, .k [0, 4, 5] [1004]] (by kernel_rfl) (by kernel_rfl)) ?_
                    refine blockQ_normal ?_
                    refine blockQ_normal ?_
                    refine tnU ?_
                    exact ⟨(v3 ++ [(T_millwrightref07_sign.mk (v13.toNat : Int) (List.replicate 4 (0 : Int)))]), v4, h, by kernel_rfl⟩
                  · replace h := ite_f hc39 h
                    obtain ⟨v41, hv41, h⟩ := bind_some h
                    obtain ⟨g42, h⟩ := if_some h
                    refine rSC { its := [(2, .c (millwrightref07_single.ok O hO k (v13.toNat : Int) v41 hv41)), (5, .g g42)] } [0, 4, 5] [27] hN (by kernel_rfl) (by kernel_rfl) (cS [.rn 27 1004, .k [0, 4, 5] [1004]] (by kernel_rfl) (by kernel_rfl)) ?_
                    refine blockQ_normal ?_
                    refine blockQ_normal ?_
                    refine tnU ?_
                    exact ⟨(v3 ++ [(T_millwrightref07_sign.mk 0 v41)]), v4, h, by kernel_rfl⟩
        · rintro _ ⟨v10, v11, h, rfl⟩
          unfold millwrightref07_signs.j12 at h
          refine rS {} [0, 4, 5] [1004] hN (by kernel_rfl) (by kernel_rfl) ?_
          refine tnU ?_
          exact ⟨n, Nat.lt_succ_self n, v10, (IntKind.i64.wrap (v11 + 1)), h, by kernel_rfl⟩
      · replace h := ite_f hc9 h
        refine WpC.conv (cS [.k [4] [1004]] (by kernel_rfl) (by kernel_rfl)) (WpC.exit ?_)
        refine thenQ_exit ?_
        have hq := Option.some.inj h
        subst hq
        refine thenQ_exit ?_
        have h := hout8
        refine blockQ_hit ?_
        refine tnU ?_
        exact ⟨v3, h, by kernel_rfl⟩
  · rintro _ ⟨v1, h, rfl⟩
    unfold millwrightref07_signs.j2 at h
    refine WpC.seq ?_
    refine rS {} [2, 3] [1004] hN (by kernel_rfl) (by kernel_rfl) ?_
    refine tnU ?_
    refine WpC.conv (cS [.fz 2, .k [2, 3] []] (by kernel_rfl) (by kernel_rfl)) (WpC.ret ?_)
    have hq := Option.some.inj h
    subst hq
    exact eR (by kernel_rfl) (by kernel_rfl)

end Go.Proofs.YtpcobejkpbalcaaDoor
