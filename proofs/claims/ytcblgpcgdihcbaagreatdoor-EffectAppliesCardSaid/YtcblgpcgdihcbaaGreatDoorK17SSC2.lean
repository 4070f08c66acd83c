/- A part of the proof of a given law: SSC2. Own work, printed in part by a program of mine. -/
import Derived.Test.YtcblgpcgdihcbaaGreatDoorK17SSC1
namespace Go.Proofs.YtcblgpcgdihcbaaGreatDoor
open Go Go.AM
set_option linter.unusedVariables false
set_option linter.unusedSimpArgs false
set_option maxRecDepth 100000
theorem millwrightref02_Tree_At_m0.ok (O : Out) (hO : GOk O) (k : Nat) (a0 : List T_tree_File) (a1 : List UInt8) (out : Int) (h : millwrightref02_Tree_At_m0.f k a0 a1 = some out) : COk Un O Tryz.prog 49 { ar := [.loc 100000 0, .p .str a1], r := .p I6 out, bs := [(100000, .box [.p (.list (.named 3)) a0])], bs' := [(100000, .box [.p (.list (.named 3)) a0])] } := by
  refine cok_of_wp Tryz.func49 rfl (k := 23) rfl (Nat.le_of_ble_eq_true rfl) (namesOk_of (by kernel_rfl)) ?_
  intro B hN
  refine WpC.conv (cvK (b := ⟨[(0, .loc 100000 0), (1, .p .str a1)], [(100000, .box [.p (.list (.named 3)) a0])]⟩) [0, 1] [100000] (by kernel_rfl)) ?_
  unfold millwrightref02_Tree_At_m0.f at h
  refine WpC.seq ?_
  refine rS {} [0, 1] [100000] hN (by kernel_rfl) (by kernel_rfl) ?_
  refine tnU ?_
  refine sqJ (fun st' => millwrightref02_Tree_At_m0.j1 k a0 = some out ∧ st' = ⟨[], [(100000, .box [.p (.list (.named 3)) a0])]⟩) ?_ ?_
  · refine WpC.seq ?_
    refine rS {} [1, 10, 11, 12] [100000] hN (by kernel_rfl) (by kernel_rfl) ?_
    refine tnU ?_
    refine WpC.block ?_
    obtain ⟨o4, hlo4, h⟩ := bind_some h
    have hout5 := h
    clear h
    refine WpC.loop (U := Un) (fun n st' => ∃ v2 : Int, millwrightref02_Tree_At_m0.l3 k a0 a1 n v2 = some o4 ∧ st' = ⟨[(1, .p .str a1), (10, .p (.list (.named 3)) a0), (11, .p I6 ((a0.length : Int) : Int)), (12, .p I6 v2)], [(100000, .box [.p (.list (.named 3)) a0])]⟩) k ⟨0, hlo4, by kernel_rfl⟩ ?_
    clear hlo4
    rintro (_ | n) _ ⟨v2, h, rfl⟩
    · cases h
    · rw [millwrightref02_Tree_At_m0.l3] at h
      refine WpC.seq ?_
      refine rS {} [1, 10, 11, 12, 13] [100000] hN (by kernel_rfl) (by kernel_rfl) ?_
      refine tnU ?_
      refine WpC.seq ?_
      refine tS (b := (decide (v2 < (a0.length : Int)))) (by kernel_rfl) (fun hc6 => ?_) (fun hc6 => ?_)
      · replace h := ite_t hc6 h
        refine WpC.conv (cS [.k [1, 10, 11, 12] [100000]] (by kernel_rfl) (by kernel_rfl)) (WpC.skip ?_)
        refine tnU ?_
        refine WpC.seq ?_
        refine WpC.block ?_
        refine WpC.seq ?_
        obtain ⟨v7, hv7, h⟩ := bind_some h
        refine rS { its := [(1, .v (.named 3) hv7)] } [1, 5, 6, 10, 11, 12] [6, 100000] hN (by kernel_rfl) (by kernel_rfl) ?_
        refine tnU ?_
        refine WpC.seq ?_
        refine rS {} [1, 5, 10, 11, 12, 20] [100000] hN (by kernel_rfl) (by kernel_rfl) ?_
        refine tnU ?_
        refine tS (b := (v7.f_Name == a1)) (by kernel_rfl) (fun hc8 => ?_) (fun hc8 => ?_)
        · replace h := ite_t hc8 h
          refine WpC.seq ?_
          refine rS {} [4] [100000] hN (by kernel_rfl) (by kernel_rfl) ?_
          refine tnU ?_
          refine WpC.ret ?_
          refine blockQ_ret ?_
          refine thenQ_ret ?_
          have hq := Option.some.inj h
          subst hq
          refine thenQ_ret ?_
          have h := hout5
          refine blockQ_ret ?_
          refine thenQ_ret ?_
          have hq := Option.some.inj h
          subst hq
          exact eR (by kernel_rfl) (by kernel_rfl)
        · replace h := ite_f hc8 h
          refine WpC.conv (cS [.k [1, 10, 11, 12] [100000]] (by kernel_rfl) (by kernel_rfl)) (WpC.skip ?_)
          refine blockQ_normal ?_
          refine tnU ?_
          refine rS {} [1, 10, 11, 12] [100000] hN (by kernel_rfl) (by kernel_rfl) ?_
          refine tnU ?_
          exact ⟨n, Nat.lt_succ_self n, (IntKind.i64.wrap (v2 + 1)), h, by kernel_rfl⟩
      · replace h := ite_f hc6 h
        refine WpC.conv (cS [.k [] [100000]] (by kernel_rfl) (by kernel_rfl)) (WpC.exit ?_)
        refine thenQ_exit ?_
        have hq := Option.some.inj h
        subst hq
        refine thenQ_exit ?_
        have h := hout5
        refine blockQ_hit ?_
        refine tnU ?_
        exact ⟨h, by kernel_rfl⟩
  · rintro _ ⟨h, rfl⟩
    unfold millwrightref02_Tree_At_m0.j1 at h
    refine WpC.seq ?_
    refine rS {} [4] [100000] hN (by kernel_rfl) (by kernel_rfl) ?_
    refine tnU ?_
    refine WpC.ret ?_
    have hq := Option.some.inj h
    subst hq
    exact eR (by kernel_rfl) (by kernel_rfl)

theorem millwrightref01_Right.ok (O : Out) (hO : GOk O) (k : Nat) (a0 : List UInt8) (out : Bool) (h : millwrightref01_Right.f k a0 = some out) : COk Un O Tryz.prog 43 { ar := [.p .str a0], r := .p .bool out } := by
  refine cok_of_wp Tryz.func43 rfl (k := 28) rfl (Nat.le_of_ble_eq_true rfl) (namesOk_pure rfl rfl rfl rfl) ?_
  intro B hN
  refine WpC.conv (cvK (b := ⟨[(0, .p .str a0)], []⟩) [0] [] (by kernel_rfl)) ?_
  unfold millwrightref01_Right.f at h
  refine WpC.seq ?_
  refine rS {} [0] [] hN (by kernel_rfl) (by kernel_rfl) ?_
  refine tnU ?_
  refine sqJ (fun st' => millwrightref01_Right.j2 k a0 = some out ∧ st' = ⟨[(0, .p .str a0)], []⟩) ?_ ?_
  · refine WpC.seq ?_
    refine rS {} [0, 3] [] hN (by kernel_rfl) (by kernel_rfl) ?_
    refine tnU ?_
    refine WpC.block ?_
    obtain ⟨o5, hlo5, h⟩ := bind_some h
    have hout6 := h
    clear h
    refine WpC.loop (U := Un) (fun n st' => ∃ v3 : Int, millwrightref01_Right.l4 k a0 n v3 = some o5 ∧ st' = ⟨[(0, .p .str a0), (3, .p I6 v3)], []⟩) k ⟨0, hlo5, by kernel_rfl⟩ ?_
    clear hlo5
    rintro (_ | n) _ ⟨v3, h, rfl⟩
    · cases h
    · rw [millwrightref01_Right.l4] at h
      refine WpC.seq ?_
      refine WpC.seq ?_
      refine rS {} [0, 3, 7] [] hN (by kernel_rfl) (by kernel_rfl) ?_
      refine tnU ?_
      refine tS (b := (decide (v3 < (a0.length : Int)))) (by kernel_rfl) (fun hc7 => ?_) (fun hc7 => ?_)
      · replace h := ite_t hc7 h
        refine WpC.conv (cS [.k [0, 3] []] (by kernel_rfl) (by kernel_rfl)) (WpC.skip ?_)
        refine tnU ?_
        refine sqJ (fun st' => millwrightref01_Right.j8 k (millwrightref01_Right.l4 k a0 n) a0 v3 = some o5 ∧ st' = ⟨[(0, .p .str a0), (3, .p I6 v3)], []⟩) ?_ ?_
        · refine WpC.block ?_
          refine sqJ (fun st' => ∃ v9 : Bool, millwrightref01_Right.j11 k (millwrightref01_Right.l4 k a0 n) a0 v3 v9 = some o5 ∧ st' = ⟨[(0, .p .str a0), (3, .p I6 v3), (19, .p .bool v9)], []⟩) ?_ ?_
          · obtain ⟨v12, hv12, h⟩ := bind_some h
            rcases bool_cases (decide ((v12.toNat : Int) ≤ 32)) with hc13 | hc13
            · replace h := ite_t hc13 h
              refine rS { its := [(2, .u hv12)], kn := [(14, .t hc13)] } [0, 3, 19] [] hN (by kernel_rfl) (by kernel_rfl) ?_
              refine tnU ?_
              exact ⟨true, h, by kernel_rfl⟩
            · replace h := ite_f hc13 h
              obtain ⟨v14, hv14, h⟩ := bind_some h
              refine rS { its := [(2, .u hv12), (7, .u hv14)], kn := [(14, .f hc13)] } [0, 3, 19] [] hN (by kernel_rfl) (by kernel_rfl) ?_
              refine tnU ?_
              exact ⟨(decide ((v14.toNat : Int) ≥ 127)), h, by kernel_rfl⟩
          · rintro _ ⟨v9, h, rfl⟩
            unfold millwrightref01_Right.j11 at h
            refine tS (b := v9) (by kernel_rfl) (fun hc10 => ?_) (fun hc10 => ?_)
            · replace h := ite_t hc10 h
              refine WpC.seq ?_
              refine rS {} [2] [] hN (by kernel_rfl) (by kernel_rfl) ?_
              refine tnU ?_
              refine WpC.ret ?_
              refine blockQ_ret ?_
              refine thenQ_ret ?_
              have hq := Option.some.inj h
              subst hq
              refine thenQ_ret ?_
              have h := hout6
              refine blockQ_ret ?_
              refine thenQ_ret ?_
              have hq := Option.some.inj h
              subst hq
              exact eR (by kernel_rfl) (by kernel_rfl)
            · replace h := ite_f hc10 h
              refine WpC.conv (cS [.k [0, 3] []] (by kernel_rfl) (by kernel_rfl)) (WpC.skip ?_)
              refine blockQ_normal ?_
              refine tnU ?_
              exact ⟨h, by kernel_rfl⟩
        · rintro _ ⟨h, rfl⟩
          unfold millwrightref01_Right.j8 at h
          refine rS {} [0, 3] [] hN (by kernel_rfl) (by kernel_rfl) ?_
          refine tnU ?_
          exact ⟨n, Nat.lt_succ_self n, (IntKind.i64.wrap (v3 + 1)), h, by kernel_rfl⟩
      · replace h := ite_f hc7 h
        refine WpC.conv (cS [.k [0] []] (by kernel_rfl) (by kernel_rfl)) (WpC.exit ?_)
        refine thenQ_exit ?_
        have hq := Option.some.inj h
        subst hq
        refine thenQ_exit ?_
        have h := hout6
        refine blockQ_hit ?_
        refine tnU ?_
        exact ⟨h, by kernel_rfl⟩
  · rintro _ ⟨h, rfl⟩
    unfold millwrightref01_Right.j2 at h
    refine WpC.seq ?_
    rcases bool_cases (decide ((a0.length : Int) > 0)) with hc1 | hc1
    · replace h := ite_t hc1 h
      refine rS { kn := [(23, .t hc1)] } [2] [] hN (by kernel_rfl) (by kernel_rfl) ?_
      refine tnU ?_
      refine WpC.ret ?_
      have hq := Option.some.inj h
      subst hq
      exact eR (by kernel_rfl) (by kernel_rfl)
    · replace h := ite_f hc1 h
      refine rS { kn := [(23, .f hc1)] } [2] [] hN (by kernel_rfl) (by kernel_rfl) ?_
      refine tnU ?_
      refine WpC.ret ?_
      have hq := Option.some.inj h
      subst hq
      exact eR (by kernel_rfl) (by kernel_rfl)

theorem millwrightref02_Tree_Put_m0.ok (O : Out) (hO : GOk O) (k : Nat) (a0 : List T_tree_File) (a1 : T_tree_File) (out : Int × (List T_tree_File)) (h : millwrightref02_Tree_Put_m0.f k a0 a1 = some out) : COk Un O Tryz.prog 50 { ar := [.loc 100000 0, .p (.named 3) a1], r := .p I6 out.1, bs := [(100000, .box [.p (.list (.named 3)) a0])], bs' := [(100000, .box [.p (.list (.named 3)) out.2])] } := by
  refine cok_of_wp Tryz.func50 rfl (k := 81) rfl (Nat.le_of_ble_eq_true rfl) (namesOk_of (by kernel_rfl)) ?_
  intro B hN
  refine WpC.conv (cvK (b := ⟨[(0, .loc 100000 0), (1, .p (.named 3) a1)], [(100000, .box [.p (.list (.named 3)) a0])]⟩) [0, 1] [100000] (by kernel_rfl)) ?_
  unfold millwrightref02_Tree_Put_m0.f at h
  refine WpC.seq ?_
  refine rS {} [0, 3] [3, 100000] hN (by kernel_rfl) (by kernel_rfl) ?_
  refine tnU ?_
  refine WpC.seq ?_
  refine WpC.seq ?_
  obtain ⟨v1, hv1, h⟩ := bind_some h
  refine rS { its := [(2, .c (millwrightref01_Right.ok O hO k a1.f_Name v1 hv1))] } [0, 3, 12] [3, 100000] hN (by kernel_rfl) (by kernel_rfl) ?_
  refine tnU ?_
  refine tS (b := (!v1)) (by kernel_rfl) (fun hc2 => ?_) (fun hc2 => ?_)
  · replace h := ite_t hc2 h
    refine WpC.seq ?_
    refine rS {} [4] [100000] hN (by kernel_rfl) (by kernel_rfl) ?_
    refine tnU ?_
    refine WpC.ret ?_
    refine thenQ_ret ?_
    have hq := Option.some.inj h
    subst hq
    exact eR (by kernel_rfl) (by kernel_rfl)
  · replace h := ite_f hc2 h
    refine WpC.conv (cS [.k [0, 3] [3, 100000]] (by kernel_rfl) (by kernel_rfl)) (WpC.skip ?_)
    refine tnU ?_
    refine WpC.seq ?_
    refine WpC.seq ?_
    refine rS {} [0, 3, 16] [3, 100000] hN (by kernel_rfl) (by kernel_rfl) ?_
    refine tnU ?_
    refine tS (b := (decide ((a1.f_Content.length : Int) > 900))) (by kernel_rfl) (fun hc3 => ?_) (fun hc3 => ?_)
    · replace h := ite_t hc3 h
      refine WpC.seq ?_
      refine rS {} [4] [100000] hN (by kernel_rfl) (by kernel_rfl) ?_
      refine tnU ?_
      refine WpC.ret ?_
      refine thenQ_ret ?_
      have hq := Option.some.inj h
      subst hq
      exact eR (by kernel_rfl) (by kernel_rfl)
    · replace h := ite_f hc3 h
      refine WpC.conv (cS [.k [0, 3] [3, 100000]] (by kernel_rfl) (by kernel_rfl)) (WpC.skip ?_)
      refine tnU ?_
      refine sqJ (fun st' => millwrightref02_Tree_Put_m0.j41 k a0 a1 = some out ∧ st' = ⟨[(0, .loc 100000 0), (3, .loc 3 0)], [(3, .box [.p .str a1.f_Name, .p .str a1.f_Content, .p I6 a1.f_Time]), (100000, .box [.p (.list (.named 3)) a0])]⟩) ?_ ?_
      · refine sqJ (fun st' => ∃ v42 : Bool, millwrightref02_Tree_Put_m0.j44 k a0 a1 v42 = some out ∧ st' = ⟨[(0, .loc 100000 0), (3, .loc 3 0), (24, .p .bool v42)], [(3, .box [.p .str a1.f_Name, .p .str a1.f_Content, .p I6 a1.f_Time]), (100000, .box [.p (.list (.named 3)) a0])]⟩) ?_ ?_
        · rcases bool_cases (decide (a1.f_Time < 1)) with hc45 | hc45
          · replace h := ite_t hc45 h
            refine rS { kn := [(20, .t hc45)] } [0, 3, 24] [3, 100000] hN (by kernel_rfl) (by kernel_rfl) ?_
            refine tnU ?_
            exact ⟨true, h, by kernel_rfl⟩
          · replace h := ite_f hc45 h
            refine rS { kn := [(20, .f hc45)] } [0, 3, 24] [3, 100000] hN (by kernel_rfl) (by kernel_rfl) ?_
            refine tnU ?_
            exact ⟨(decide (a1.f_Time > 549755813888)), h, by kernel_rfl⟩
        · rintro _ ⟨v42, h, rfl⟩
          unfold millwrightref02_Tree_Put_m0.j44 at h
          refine tS (b := v42) (by kernel_rfl) (fun hc43 => ?_) (fun hc43 => ?_)
          · replace h := ite_t hc43 h
            refine WpC.seq ?_
            refine rS {} [4] [100000] hN (by kernel_rfl) (by kernel_rfl) ?_
            refine tnU ?_
            refine WpC.ret ?_
            refine thenQ_ret ?_
            have hq := Option.some.inj h
            subst hq
            exact eR (by kernel_rfl) (by kernel_rfl)
          · replace h := ite_f hc43 h
            refine WpC.conv (cS [.k [0, 3] [3, 100000]] (by kernel_rfl) (by kernel_rfl)) (WpC.skip ?_)
            refine tnU ?_
            exact ⟨h, by kernel_rfl⟩
      · rintro _ ⟨h, rfl⟩
        unfold millwrightref02_Tree_Put_m0.j41 at h
        refine sqJ (fun st' => millwrightref02_Tree_Put_m0.j35 k a0 a1 = some out ∧ st' = ⟨[(0, .loc 100000 0), (3, .loc 3 0)], [(3, .box [.p .str a1.f_Name, .p .str a1.f_Content, .p I6 a1.f_Time]), (100000, .box [.p (.list (.named 3)) a0])]⟩) ?_ ?_
        · refine sqJ (fun st' => ∃ v36 : Bool, millwrightref02_Tree_Put_m0.j38 k a0 a1 v36 = some out ∧ st' = ⟨[(0, .loc 100000 0), (3, .loc 3 0), (37, .p .bool v36)], [(3, .box [.p .str a1.f_Name, .p .str a1.f_Content, .p I6 a1.f_Time]), (100000, .box [.p (.list (.named 3)) a0])]⟩) ?_ ?_
          · obtain ⟨v39, hv39, h⟩ := bind_some h
            rcases bool_cases (decide (v39 < 0)) with hc40 | hc40
            · replace h := ite_t hc40 h
              refine rS { its := [(3, .c (COk.ren (millwrightref02_Tree_At_m0.ok O hO k a0 a1.f_Name v39 hv39) (fun n => if n = 100000 then 100000 else n) (injOn_of (by kernel_rfl))))], kn := [(30, .t hc40)] } [0, 3, 37] [3, 100000] hN (by kernel_rfl) (by kernel_rfl) ?_
              refine tnU ?_
              exact ⟨(decide ((a0.length : Int) ≥ 40)), h, by kernel_rfl⟩
            · replace h := ite_f hc40 h
              refine rS { its := [(3, .c (COk.ren (millwrightref02_Tree_At_m0.ok O hO k a0 a1.f_Name v39 hv39) (fun n => if n = 100000 then 100000 else n) (injOn_of (by kernel_rfl))))], kn := [(30, .f hc40)] } [0, 3, 37] [3, 100000] hN (by kernel_rfl) (by kernel_rfl) ?_
              refine tnU ?_
              exact ⟨false, h, by kernel_rfl⟩
          · rintro _ ⟨v36, h, rfl⟩
            unfold millwrightref02_Tree_Put_m0.j38 at h
            refine tS (b := v36) (by kernel_rfl) (fun hc37 => ?_) (fun hc37 => ?_)
            · replace h := ite_t hc37 h
              refine WpC.seq ?_
              refine rS {} [4] [100000] hN (by kernel_rfl) (by kernel_rfl) ?_
              refine tnU ?_
              refine WpC.ret ?_
              refine thenQ_ret ?_
              have hq := Option.some.inj h
              subst hq
              exact eR (by kernel_rfl) (by kernel_rfl)
            · replace h := ite_f hc37 h
              refine WpC.conv (cS [.k [0, 3] [3, 100000]] (by kernel_rfl) (by kernel_rfl)) (WpC.skip ?_)
              refine tnU ?_
              exact ⟨h, by kernel_rfl⟩
        · rintro _ ⟨h, rfl⟩
          unfold millwrightref02_Tree_Put_m0.j35 at h
          refine WpC.seq ?_
          refine rSC {} [0, 3, 5] [3, 38, 100000] hN (by kernel_rfl) (by kernel_rfl) (cS [.k [0, 3, 5] [3, 38, 100000], .x (Conv.cast (U := Un) (st := ⟨[(0, .loc 100000 0), (3, .loc 3 0), (5, .vec 38 3 0 (([] : List T_tree_File).length))], [(3, .box [.p .str a1.f_Name, .p .str a1.f_Content, .p I6 a1.f_Time]), (38, .row 92 (.named 3) ([] : List T_tree_File) true), (100000, .box [.p (.list (.named 3)) a0])]⟩) (st' := ⟨[(0, .loc 100000 0), (3, .loc 3 0), (5, .vec 38 3 0 0)], [(3, .box [.p .str a1.f_Name, .p .str a1.f_Content, .p I6 a1.f_Time]), (38, .row 92 (.named 3) ([] : List T_tree_File) true), (100000, .box [.p (.list (.named 3)) a0])]⟩) (by simp only [upd_length, List.length_nil, List.length_replicate]))] (by kernel_rfl) (by kernel_rfl)) ?_
          refine tnU ?_
          refine WpC.seq ?_
          refine rS {} [0, 3, 5, 6] [3, 38, 100000] hN (by kernel_rfl) (by kernel_rfl) ?_
          refine tnU ?_
          refine sqJ (fun st' => ∃ v4 : List T_tree_File, ∃ v5 : Bool, millwrightref02_Tree_Put_m0.j10 k a0 a1 v4 v5 = some out ∧ st' = ⟨[(0, .loc 100000 0), (3, .loc 3 0), (5, .vec 1005 3 0 v4.length), (6, .p .bool v5)], [(3, .box [.p .str a1.f_Name, .p .str a1.f_Content, .p I6 a1.f_Time]), (1005, .row 92 (.named 3) v4 false), (100000, .box [.p (.list (.named 3)) a0])]⟩) ?_ ?_
          · refine WpC.seq ?_
            refine rS {} [0, 3, 5, 6, 42, 43, 44] [3, 38, 100000] hN (by kernel_rfl) (by kernel_rfl) ?_
            refine tnU ?_
            refine WpC.block ?_
            obtain ⟨o17, hlo17, h⟩ := bind_some h
            have hout18 := h
            clear h
            refine WpC.conv (cS [.lo 38, .k [0, 3, 5, 6, 42, 43, 44] [3, 38, 100000], .rn 38 1005, .k [0, 3, 5, 6, 42, 43, 44] [3, 1005, 100000]] (by kernel_rfl) (by kernel_rfl)) ?_
            refine WpC.loop (U := Un) (fun n st' => ∃ v11 : List T_tree_File, ∃ v12 : Bool, ∃ v13 : Int, millwrightref02_Tree_Put_m0.l14 k a0 a1 n v11 v12 v13 = some o17 ∧ st' = ⟨[(0, .loc 100000 0), (3, .loc 3 0), (5, .vec 1005 3 0 v11.length), (6, .p .bool v12), (42, .p (.list (.named 3)) a0), (43, .p I6 ((a0.length : Int) : Int)), (44, .p I6 v13)], [(3, .box [.p .str a1.f_Name, .p .str a1.f_Content, .p I6 a1.f_Time]), (1005, .row 92 (.named 3) v11 false), (100000, .box [.p (.list (.named 3)) a0])]⟩) k ⟨([] : List T_tree_File), false, 0, hlo17, by kernel_rfl⟩ ?_
            clear hlo17
            rintro (_ | n) _ ⟨v11, v12, v13, h, rfl⟩
            · cases h
            · rw [millwrightref02_Tree_Put_m0.l14] at h
              refine WpC.seq ?_
              refine rS {} [0, 3, 5, 6, 42, 43, 44, 45] [3, 1005, 100000] hN (by kernel_rfl) (by kernel_rfl) ?_
              refine tnU ?_
              refine WpC.seq ?_
              refine tS (b := (decide (v13 < (a0.length : Int)))) (by kernel_rfl) (fun hc19 => ?_) (fun hc19 => ?_)
              · replace h := ite_t hc19 h
                refine WpC.conv (cS [.k [0, 3, 5, 6, 42, 43, 44] [3, 1005, 100000]] (by kernel_rfl) (by kernel_rfl)) (WpC.skip ?_)
                refine tnU ?_
                refine sqJ (fun st' => ∃ v20 : List T_tree_File, ∃ v21 : Bool, millwrightref02_Tree_Put_m0.j22 k (millwrightref02_Tree_Put_m0.l14 k a0 a1 n) a0 a1 v13 v20 v21 = some o17 ∧ st' = ⟨[(0, .loc 100000 0), (3, .loc 3 0), (5, .vec 1005 3 0 v20.length), (6, .p .bool v21), (42, .p (.list (.named 3)) a0), (43, .p I6 ((a0.length : Int) : Int)), (44, .p I6 v13)], [(3, .box [.p .str a1.f_Name, .p .str a1.f_Content, .p I6 a1.f_Time]), (1005, .row 92 (.named 3) v20 false), (100000, .box [.p (.list (.named 3)) a0])]⟩) ?_ ?_
                · refine WpC.block ?_
                  refine WpC.seq ?_
                  obtain ⟨v23, hv23, h⟩ := bind_some h
                  refine rS { its := [(0, .v (.named 3) hv23)] } [0, 3, 5, 6, 8, 42, 43, 44] [3, 8, 1005, 100000] hN (by kernel_rfl) (by kernel_rfl) ?_
                  refine tnU ?_
                  refine sqJ (fun st' => ∃ v24 : List T_tree_File, ∃ v25 : Bool, millwrightref02_Tree_Put_m0.j28 k (millwrightref02_Tree_Put_m0.l14 k a0 a1 n) a0 a1 v13 v23 v24 v25 = some o17 ∧ st' = ⟨[(0, .loc 100000 0), (3, .loc 3 0), (5, .vec 1005 3 0 v24.length), (6, .p .bool v25), (8, .loc 8 0), (42, .p (.list (.named 3)) a0), (43, .p I6 ((a0.length : Int) : Int)), (44, .p I6 v13)], [(3, .box [.p .str a1.f_Name, .p .str a1.f_Content, .p I6 a1.f_Time]), (8, .box [.p .str v23.f_Name, .p .str v23.f_Content, .p I6 v23.f_Time]), (1005, .row 92 (.named 3) v24 false), (100000, .box [.p (.list (.named 3)) a0])]⟩) ?_ ?_
                  · refine sqJ (fun st' => ∃ v29 : Bool, millwrightref02_Tree_Put_m0.j32 k (millwrightref02_Tree_Put_m0.l14 k a0 a1 n) a0 a1 v11 v12 v13 v23 v29 = some o17 ∧ st' = ⟨[(0, .loc 100000 0), (3, .loc 3 0), (5, .vec 1005 3 0 v11.length), (6, .p .bool v12), (8, .loc 8 0), (42, .p (.list (.named 3)) a0), (43, .p I6 ((a0.length : Int) : Int)), (44, .p I6 v13), (56, .p .bool v29)], [(3, .box [.p .str a1.f_Name, .p .str a1.f_Content, .p I6 a1.f_Time]), (8, .box [.p .str v23.f_Name, .p .str v23.f_Content, .p I6 v23.f_Time]), (1005, .row 92 (.named 3) v11 false), (100000, .box [.p (.list (.named 3)) a0])]⟩) ?_ ?_
                    · rcases bool_cases (!v12) with hc33 | hc33
                      · replace h := ite_t hc33 h
                        refine rS { kn := [(50, .t hc33)] } [0, 3, 5, 6, 8, 42, 43, 44, 56] [3, 8, 1005, 100000] hN (by kernel_rfl) (by kernel_rfl) ?_
                        refine tnU ?_
                        exact ⟨(Op.bytesLess a1.f_Name v23.f_Name || a1.f_Name == v23.f_Name), h, by kernel_rfl⟩
                      · replace h := ite_f hc33 h
                        refine rS { kn := [(50, .f hc33)] } [0, 3, 5, 6, 8, 42, 43, 44, 56] [3, 8, 1005, 100000] hN (by kernel_rfl) (by kernel_rfl) ?_
                        refine tnU ?_
                        exact ⟨false, h, by kernel_rfl⟩
                    · rintro _ ⟨v29, h, rfl⟩
                      unfold millwrightref02_Tree_Put_m0.j32 at h
                      refine tS (b := v29) (by kernel_rfl) (fun hc30 => ?_) (fun hc30 => ?_)
                      · replace h := ite_t hc30 h
                        refine WpC.seq ?_
                        obtain ⟨g31, h⟩ := if_some h
                        refine rS { its := [(3, .g g31)] } [0, 3, 5, 8, 42, 43, 44] [3, 8, 60, 100000] hN (by kernel_rfl) (by kernel_rfl) ?_
                        refine tnU ?_
                        refine rSC {} [0, 3, 5, 6, 8, 42, 43, 44] [3, 8, 60, 100000] hN (by kernel_rfl) (by kernel_rfl) (cS [.rn 60 1005, .k [0, 3, 5, 6, 8, 42, 43, 44] [3, 8, 1005, 100000]] (by kernel_rfl) (by kernel_rfl)) ?_
                        refine tnU ?_
                        exact ⟨(v11 ++ [(T_tree_File.mk a1.f_Name a1.f_Content a1.f_Time)]), true, h, by kernel_rfl⟩
                      · replace h := ite_f hc30 h
                        refine WpC.conv (cS [.k [0, 3, 5, 6, 8, 42, 43, 44] [3, 8, 1005, 100000]] (by kernel_rfl) (by kernel_rfl)) (WpC.skip ?_)
                        refine tnU ?_
                        exact ⟨v11, v12, h, by kernel_rfl⟩
                  · rintro _ ⟨v24, v25, h, rfl⟩
                    unfold millwrightref02_Tree_Put_m0.j28 at h
                    refine WpC.seq ?_
                    refine rS {} [0, 3, 5, 6, 8, 42, 43, 44, 65] [3, 8, 1005, 100000] hN (by kernel_rfl) (by kernel_rfl) ?_
                    refine tnU ?_
                    refine tS (b := (!(v23.f_Name == a1.f_Name))) (by kernel_rfl) (fun hc26 => ?_) (fun hc26 => ?_)
                    · replace h := ite_t hc26 h
                      obtain ⟨g27, h⟩ := if_some h
                      refine rSC { its := [(3, .g g27)] } [0, 3, 5, 6, 42, 43, 44] [3, 69, 100000] hN (by kernel_rfl) (by kernel_rfl) (cS [.rn 69 1005, .k [0, 3, 5, 6, 42, 43, 44] [3, 1005, 100000]] (by kernel_rfl) (by kernel_rfl)) ?_
                      refine blockQ_normal ?_
                      refine tnU ?_
                      exact ⟨(v24 ++ [(T_tree_File.mk v23.f_Name v23.f_Content v23.f_Time)]), v25, h, by kernel_rfl⟩
                    · replace h := ite_f hc26 h
                      refine WpC.conv (cS [.k [0, 3, 5, 6, 42, 43, 44] [3, 1005, 100000]] (by kernel_rfl) (by kernel_rfl)) (WpC.skip ?_)
                      refine blockQ_normal ?_
                      refine tnU ?_
                      exact ⟨v24, v25, h, by kernel_rfl⟩
                · rintro _ ⟨v20, v21, h, rfl⟩
                  unfold millwrightref02_Tree_Put_m0.j22 at h
                  refine rS {} [0, 3, 5, 6, 42, 43, 44] [3, 1005, 100000] hN (by kernel_rfl) (by kernel_rfl) ?_
                  refine tnU ?_
                  exact ⟨n, Nat.lt_succ_self n, v20, v21, (IntKind.i64.wrap (v13 + 1)), h, by kernel_rfl⟩
              · replace h := ite_f hc19 h
                refine WpC.conv (cS [.k [0, 3, 5, 6] [3, 1005, 100000]] (by kernel_rfl) (by kernel_rfl)) (WpC.exit ?_)
                refine thenQ_exit ?_
                have hq := Option.some.inj h
                subst hq
                refine thenQ_exit ?_
                have h := hout18
                refine blockQ_hit ?_
                refine tnU ?_
                exact ⟨v11, v12, h, by kernel_rfl⟩
          · rintro _ ⟨v4, v5, h, rfl⟩
            unfold millwrightref02_Tree_Put_m0.j10 at h
            refine sqJ (fun st' => ∃ v6 : List T_tree_File, millwrightref02_Tree_Put_m0.j7 k a0 v6 = some out ∧ st' = ⟨[(0, .loc 100000 0), (5, .vec 1005 3 0 v6.length)], [(1005, .row 92 (.named 3) v6 false), (100000, .box [.p (.list (.named 3)) a0])]⟩) ?_ ?_
            · refine WpC.seq ?_
              refine rS {} [0, 3, 5, 72] [3, 1005, 100000] hN (by kernel_rfl) (by kernel_rfl) ?_
              refine tnU ?_
              refine tS (b := (!v5)) (by kernel_rfl) (fun hc8 => ?_) (fun hc8 => ?_)
              · replace h := ite_t hc8 h
                obtain ⟨g9, h⟩ := if_some h
                refine rSC { its := [(3, .g g9)] } [0, 5] [76, 100000] hN (by kernel_rfl) (by kernel_rfl) (cS [.rn 76 1005, .k [0, 5] [1005, 100000]] (by kernel_rfl) (by kernel_rfl)) ?_
                refine tnU ?_
                exact ⟨(v4 ++ [(T_tree_File.mk a1.f_Name a1.f_Content a1.f_Time)]), h, by kernel_rfl⟩
              · replace h := ite_f hc8 h
                refine WpC.conv (cS [.k [0, 5] [1005, 100000]] (by kernel_rfl) (by kernel_rfl)) (WpC.skip ?_)
                refine tnU ?_
                exact ⟨v4, h, by kernel_rfl⟩
            · rintro _ ⟨v6, h, rfl⟩
              unfold millwrightref02_Tree_Put_m0.j7 at h
              refine WpC.seq ?_
              refine rS {} [] [1005, 100000] hN (by kernel_rfl) (by kernel_rfl) ?_
              refine tnU ?_
              refine WpC.seq ?_
              refine rS {} [4] [1005, 100000] hN (by kernel_rfl) (by kernel_rfl) ?_
              refine tnU ?_
              refine WpC.conv (cS [.fu 100000 0, .k [4] [100000]] (by kernel_rfl) (by kernel_rfl)) (WpC.ret ?_)
              have hq := Option.some.inj h
              subst hq
              exact eR (by kernel_rfl) (by kernel_rfl)

theorem millwrightref02_Of.ok (O : Out) (hO : GOk O) (k : Nat) (a0 : List T_tree_File) (out : Bool × (List T_tree_File) × Int) (h : millwrightref02_Of.f k a0 = some out) : COk Un O Tryz.prog 28 { ar := [.p (.list (.named 3)) a0], r := .tup [.opt out.1 60500, .p I6 out.2.2], bs' := [(60500, .opt out.1 (.box [.p (.list (.named 3)) out.2.1]))], nn := [60500] } := by
  refine cok_of_wp Tryz.func28 rfl (k := 29) rfl (Nat.le_of_ble_eq_true rfl) (namesOk_of (by kernel_rfl)) ?_
  intro B hN
  refine WpC.conv (cvK (b := ⟨[(0, .p (.list (.named 3)) a0)], []⟩) [0] [] (by kernel_rfl)) ?_
  unfold millwrightref02_Of.f at h
  refine WpC.seq ?_
  refine rS {} [0] [] hN (by kernel_rfl) (by kernel_rfl) ?_
  refine tnU ?_
  refine WpC.seq ?_
  refine rS {} [0, 4] [9] hN (by kernel_rfl) (by kernel_rfl) ?_
  refine tnU ?_
  refine sqJ (fun st' => ∃ v1 : List T_tree_File, millwrightref02_Of.j2 k v1 = some out ∧ st' = ⟨[(4, .loc 9 0)], [(9, .box [.p (.list (.named 3)) v1])]⟩) ?_ ?_
  · refine WpC.seq ?_
    refine rS {} [4, 10, 11, 12] [9] hN (by kernel_rfl) (by kernel_rfl) ?_
    refine tnU ?_
    refine WpC.block ?_
    obtain ⟨o7, hlo7, h⟩ := bind_some h
    have hout8 := h
    clear h
    refine WpC.loop (U := Un) (fun n st' => ∃ v3 : List T_tree_File, ∃ v4 : Int, millwrightref02_Of.l5 k a0 n v3 v4 = some o7 ∧ st' = ⟨[(4, .loc 9 0), (10, .p (.list (.named 3)) a0), (11, .p I6 ((a0.length : Int) : Int)), (12, .p I6 v4)], [(9, .box [.p (.list (.named 3)) v3])]⟩) k ⟨[], 0, hlo7, by kernel_rfl⟩ ?_
    clear hlo7
    rintro (_ | n) _ ⟨v3, v4, h, rfl⟩
    · cases h
    · rw [millwrightref02_Of.l5] at h
      refine WpC.seq ?_
      refine rS {} [4, 10, 11, 12, 13] [9] hN (by kernel_rfl) (by kernel_rfl) ?_
      refine tnU ?_
      refine WpC.seq ?_
      refine tS (b := (decide (v4 < (a0.length : Int)))) (by kernel_rfl) (fun hc9 => ?_) (fun hc9 => ?_)
      · replace h := ite_t hc9 h
        refine WpC.conv (cS [.k [4, 10, 11, 12] [9]] (by kernel_rfl) (by kernel_rfl)) (WpC.skip ?_)
        refine tnU ?_
        refine WpC.seq ?_
        refine WpC.block ?_
        refine WpC.seq ?_
        obtain ⟨v10, hv10, h⟩ := bind_some h
        refine rS { its := [(0, .v (.named 3) hv10)] } [4, 6, 10, 11, 12] [6, 9] hN (by kernel_rfl) (by kernel_rfl) ?_
        refine tnU ?_
        refine WpC.seq ?_
        refine WpC.seq ?_
        obtain ⟨v11, hv11, h⟩ := bind_some h
        refine rS { its := [(3, .c (COk.ren (millwrightref02_Tree_At_m0.ok O hO k v3 v10.f_Name v11 hv11) (fun n => if n = 100000 then 9 else n) (injOn_of (by kernel_rfl))))] } [4, 6, 10, 11, 12, 20] [6, 9] hN (by kernel_rfl) (by kernel_rfl) ?_
        refine tnU ?_
        refine tS (b := (decide (v11 ≥ 0))) (by kernel_rfl) (fun hc12 => ?_) (fun hc12 => ?_)
        · replace h := ite_t hc12 h
          refine WpC.seq ?_
          refine rS {} [2, 3] [] hN (by kernel_rfl) (by kernel_rfl) ?_
          refine tnU ?_
          refine WpC.conv (cS [.oN 60500 (.box [.p (.list (.named 3)) ([] : List T_tree_File)]), .k [2, 3] [60500], .oZ 2 60500, .k [2, 3] [60500]] (by kernel_rfl) (by kernel_rfl)) (WpC.ret ?_)
          refine thenQ_ret ?_
          refine blockQ_ret ?_
          refine thenQ_ret ?_
          have hq := Option.some.inj h
          subst hq
          refine thenQ_ret ?_
          have h := hout8
          refine blockQ_ret ?_
          refine thenQ_ret ?_
          have hq := Option.some.inj h
          subst hq
          exact eR (by kernel_rfl) (by kernel_rfl)
        · replace h := ite_f hc12 h
          refine WpC.conv (cS [.k [4, 6, 10, 11, 12] [6, 9]] (by kernel_rfl) (by kernel_rfl)) (WpC.skip ?_)
          refine tnU ?_
          refine WpC.seq ?_
          obtain ⟨v13, hv13, h⟩ := bind_some h
          refine rS { its := [(2, .c (COk.ren (millwrightref02_Tree_Put_m0.ok O hO k v3 (T_tree_File.mk v10.f_Name v10.f_Content v10.f_Time) v13 hv13) (fun n => if n = 100000 then 9 else n) (injOn_of (by kernel_rfl))))] } [4, 7, 10, 11, 12] [9] hN (by kernel_rfl) (by kernel_rfl) ?_
          refine tnU ?_
          refine WpC.seq ?_
          refine rS {} [4, 7, 10, 11, 12, 25] [9] hN (by kernel_rfl) (by kernel_rfl) ?_
          refine tnU ?_
          refine tS (b := (v13.1 != 0)) (by kernel_rfl) (fun hc14 => ?_) (fun hc14 => ?_)
          · replace h := ite_t hc14 h
            refine WpC.seq ?_
            refine rS {} [2, 3] [] hN (by kernel_rfl) (by kernel_rfl) ?_
            refine tnU ?_
            refine WpC.conv (cS [.oN 60500 (.box [.p (.list (.named 3)) ([] : List T_tree_File)]), .k [2, 3] [60500], .oZ 2 60500, .k [2, 3] [60500]] (by kernel_rfl) (by kernel_rfl)) (WpC.ret ?_)
            refine blockQ_ret ?_
            refine thenQ_ret ?_
            have hq := Option.some.inj h
            subst hq
            refine thenQ_ret ?_
            have h := hout8
            refine blockQ_ret ?_
            refine thenQ_ret ?_
            have hq := Option.some.inj h
            subst hq
            exact eR (by kernel_rfl) (by kernel_rfl)
          · replace h := ite_f hc14 h
            refine WpC.conv (cS [.k [4, 10, 11, 12] [9]] (by kernel_rfl) (by kernel_rfl)) (WpC.skip ?_)
            refine blockQ_normal ?_
            refine tnU ?_
            refine rS {} [4, 10, 11, 12] [9] hN (by kernel_rfl) (by kernel_rfl) ?_
            refine tnU ?_
            exact ⟨n, Nat.lt_succ_self n, v13.2, (IntKind.i64.wrap (v4 + 1)), h, by kernel_rfl⟩
      · replace h := ite_f hc9 h
        refine WpC.conv (cS [.k [4] [9]] (by kernel_rfl) (by kernel_rfl)) (WpC.exit ?_)
        refine thenQ_exit ?_
        have hq := Option.some.inj h
        subst hq
        refine thenQ_exit ?_
        have h := hout8
        refine blockQ_hit ?_
        refine tnU ?_
        exact ⟨v3, h, by kernel_rfl⟩
  · rintro _ ⟨v1, h, rfl⟩
    unfold millwrightref02_Of.j2 at h
    refine WpC.seq ?_
    refine rS {} [2, 3] [9] hN (by kernel_rfl) (by kernel_rfl) ?_
    refine tnU ?_
    refine WpC.conv (cS [.rn 9 60500, .k [2, 3] [60500], .oB 60500, .k [2, 3] [60500], .oL 2, .k [2, 3] [60500]] (by kernel_rfl) (by kernel_rfl)) (WpC.ret ?_)
    have hq := Option.some.inj h
    subst hq
    exact eR (by kernel_rfl) (by kernel_rfl)

theorem millwrightnum_all.ok (O : Out) (hO : GOk O) (k : Nat) (out : List Nat) (h : millwrightnum_all.f k = some out) : COk Un O Tryz.prog 51 { ar := [], r := .p (.list .err) out } := by
  refine cok_of_wp Tryz.func51 rfl (k := 20) rfl (Nat.le_of_ble_eq_true rfl) (namesOk_pure rfl rfl rfl rfl) ?_
  intro B hN
  refine WpC.conv (cvK (b := ⟨[], []⟩) [] [] (by kernel_rfl)) ?_
  unfold millwrightnum_all.f at h
  refine WpC.seq ?_
  refine rS {} [] [] hN (by kernel_rfl) (by kernel_rfl) ?_
  refine tnU ?_
  refine WpC.seq ?_
  refine rS { its := [(0, .e 0 (sok_loadG (U := Un) (t := .err) (rs := []) rfl rfl ty_27 rfl rfl (hO.var 0 3 rfl) (fun S w => .err 0))), (1, .e 1 (sok_loadG (U := Un) (t := .err) (rs := []) rfl rfl ty_27 rfl rfl (hO.var 1 4 rfl) (fun S w => .err 1))), (2, .e 2 (sok_loadG (U := Un) (t := .err) (rs := []) rfl rfl ty_27 rfl rfl (hO.var 2 2 rfl) (fun S w => .err 2))), (3, .e 3 (sok_loadG (U := Un) (t := .err) (rs := []) rfl rfl ty_27 rfl rfl (hO.var 3 5 rfl) (fun S w => .err 3))), (4, .e 4 (sok_loadG (U := Un) (t := .err) (rs := []) rfl rfl ty_27 rfl rfl (hO.var 4 6 rfl) (fun S w => .err 4))), (5, .e 5 (sok_loadG (U := Un) (t := .err) (rs := []) rfl rfl ty_27 rfl rfl (hO.var 5 7 rfl) (fun S w => .err 5))), (6, .e 6 (sok_loadG (U := Un) (t := .err) (rs := []) rfl rfl ty_27 rfl rfl (hO.var 6 8 rfl) (fun S w => .err 6))), (7, .e 7 (sok_loadG (U := Un) (t := .err) (rs := []) rfl rfl ty_27 rfl rfl (hO.var 7 9 rfl) (fun S w => .err 7))), (8, .e 8 (sok_loadG (U := Un) (t := .err) (rs := []) rfl rfl ty_27 rfl rfl (hO.var 8 0 rfl) (fun S w => .err 8))), (9, .e 9 (sok_loadG (U := Un) (t := .err) (rs := []) rfl rfl ty_27 rfl rfl (hO.var 9 10 rfl) (fun S w => .err 9))), (10, .e 10 (sok_loadG (U := Un) (t := .err) (rs := []) rfl rfl ty_27 rfl rfl (hO.var 10 11 rfl) (fun S w => .err 10))), (11, .e 11 (sok_loadG (U := Un) (t := .err) (rs := []) rfl rfl ty_27 rfl rfl (hO.var 11 12 rfl) (fun S w => .err 11))), (12, .e 12 (sok_loadG (U := Un) (t := .err) (rs := []) rfl rfl ty_27 rfl rfl (hO.var 12 13 rfl) (fun S w => .err 12))), (13, .e 13 (sok_loadG (U := Un) (t := .err) (rs := []) rfl rfl ty_27 rfl rfl (hO.var 13 14 rfl) (fun S w => .err 13))), (14, .e 14 (sok_loadG (U := Un) (t := .err) (rs := []) rfl rfl ty_27 rfl rfl (hO.var 14 15 rfl) (fun S w => .err 14))), (15, .e 15 (sok_loadG (U := Un) (t := .err) (rs := []) rfl rfl ty_27 rfl rfl (hO.var 15 16 rfl) (fun S w => .err 15))), (16, .e 16 (sok_loadG (U := Un) (t := .err) (rs := []) rfl rfl ty_27 rfl rfl (hO.var 16 1 rfl) (fun S w => .err 16))), (17, .e 17 (sok_loadG (U := Un) (t := .err) (rs := []) rfl rfl ty_27 rfl rfl (hO.var 17 17 rfl) (fun S w => .err 17)))] } [0] [19] hN (by kernel_rfl) (by kernel_rfl) ?_
  refine tnU ?_
  refine WpC.conv (cS [.fz 0, .k [0] []] (by kernel_rfl) (by kernel_rfl)) (WpC.ret ?_)
  have hq := Option.some.inj h
  subst hq
  exact eR (by kernel_rfl) (by kernel_rfl)

theorem millwrightnum_Num.ok (O : Out) (hO : GOk O) (k : Nat) (a0 : Nat) (out : Int) (h : millwrightnum_Num.f k a0 = some out) : COk Un O Tryz.prog 30 { ar := [.p .err a0], r := .p I6 out } := by
  refine cok_of_wp Tryz.func30 rfl (k := 20) rfl (Nat.le_of_ble_eq_true rfl) (namesOk_pure rfl rfl rfl rfl) ?_
  intro B hN
  refine WpC.conv (cvK (b := ⟨[(0, .p .err a0)], []⟩) [0] [] (by kernel_rfl)) ?_
  unfold millwrightnum_Num.f at h
  refine WpC.seq ?_
  refine rS {} [0] [] hN (by kernel_rfl) (by kernel_rfl) ?_
  refine tnU ?_
  refine WpC.seq ?_
  refine WpC.seq ?_
  refine rS {} [0, 6] [] hN (by kernel_rfl) (by kernel_rfl) ?_
  refine tnU ?_
  refine tS (b := (a0 == 0)) (by kernel_rfl) (fun hc1 => ?_) (fun hc1 => ?_)
  · replace h := ite_t hc1 h
    refine WpC.seq ?_
    refine rS {} [2] [] hN (by kernel_rfl) (by kernel_rfl) ?_
    refine tnU ?_
    refine WpC.ret ?_
    refine thenQ_ret ?_
    have hq := Option.some.inj h
    subst hq
    exact eR (by kernel_rfl) (by kernel_rfl)
  · replace h := ite_f hc1 h
    refine WpC.conv (cS [.k [0] []] (by kernel_rfl) (by kernel_rfl)) (WpC.skip ?_)
    refine tnU ?_
    refine sqJ (fun st' => millwrightnum_Num.j2 k = some out ∧ st' = ⟨[], []⟩) ?_ ?_
    · refine WpC.seq ?_
      obtain ⟨v3, hv3, h⟩ := bind_some h
      refine rS { its := [(0, .c (millwrightnum_all.ok O hO k v3 hv3))] } [0, 7, 8, 9] [] hN (by kernel_rfl) (by kernel_rfl) ?_
      refine tnU ?_
      refine WpC.block ?_
      obtain ⟨o6, hlo6, h⟩ := bind_some h
      have hout7 := h
      clear h
      refine WpC.loop (U := Un) (fun n st' => ∃ v4 : Int, millwrightnum_Num.l5 k a0 v3 n v4 = some o6 ∧ st' = ⟨[(0, .p .err a0), (7, .p (.list .err) v3), (8, .p I6 ((v3.length : Int) : Int)), (9, .p I6 v4)], []⟩) k ⟨0, hlo6, by kernel_rfl⟩ ?_
      clear hlo6
      rintro (_ | n) _ ⟨v4, h, rfl⟩
      · cases h
      · rw [millwrightnum_Num.l5] at h
        refine WpC.seq ?_
        refine rS {} [0, 7, 8, 9, 10] [] hN (by kernel_rfl) (by kernel_rfl) ?_
        refine tnU ?_
        refine WpC.seq ?_
        refine tS (b := (decide (v4 < (v3.length : Int)))) (by kernel_rfl) (fun hc8 => ?_) (fun hc8 => ?_)
        · replace h := ite_t hc8 h
          refine WpC.conv (cS [.k [0, 7, 8, 9] []] (by kernel_rfl) (by kernel_rfl)) (WpC.skip ?_)
          refine tnU ?_
          refine WpC.seq ?_
          refine WpC.block ?_
          refine WpC.seq ?_
          obtain ⟨v9, hv9, h⟩ := bind_some h
          refine rS { its := [(1, .v .err hv9)] } [0, 3, 4, 7, 8, 9] [] hN (by kernel_rfl) (by kernel_rfl) ?_
          refine tnU ?_
          refine WpC.seq ?_
          obtain ⟨v10, hv10, h⟩ := bind_some h
          refine rS { its := [(2, .c (pIs.ok O hO k a0 v9 v10 hv10))] } [0, 3, 7, 8, 9, 16] [] hN (by kernel_rfl) (by kernel_rfl) ?_
          refine tnU ?_
          refine tS (b := v10) (by kernel_rfl) (fun hc11 => ?_) (fun hc11 => ?_)
          · replace h := ite_t hc11 h
            refine WpC.seq ?_
            refine rS {} [2] [] hN (by kernel_rfl) (by kernel_rfl) ?_
            refine tnU ?_
            refine WpC.ret ?_
            refine blockQ_ret ?_
            refine thenQ_ret ?_
            have hq := Option.some.inj h
            subst hq
            refine thenQ_ret ?_
            have h := hout7
            refine blockQ_ret ?_
            refine thenQ_ret ?_
            have hq := Option.some.inj h
            subst hq
            exact eR (by kernel_rfl) (by kernel_rfl)
          · replace h := ite_f hc11 h
            refine WpC.conv (cS [.k [0, 7, 8, 9] []] (by kernel_rfl) (by kernel_rfl)) (WpC.skip ?_)
            refine blockQ_normal ?_
            refine tnU ?_
            refine rS {} [0, 7, 8, 9] [] hN (by kernel_rfl) (by kernel_rfl) ?_
            refine tnU ?_
            exact ⟨n, Nat.lt_succ_self n, (IntKind.i64.wrap (v4 + 1)), h, by kernel_rfl⟩
        · replace h := ite_f hc8 h
          refine WpC.conv (cS [.k [] []] (by kernel_rfl) (by kernel_rfl)) (WpC.exit ?_)
          refine thenQ_exit ?_
          have hq := Option.some.inj h
          subst hq
          refine thenQ_exit ?_
          have h := hout7
          refine blockQ_hit ?_
          refine tnU ?_
          exact ⟨h, by kernel_rfl⟩
    · rintro _ ⟨h, rfl⟩
      unfold millwrightnum_Num.j2 at h
      refine WpC.seq ?_
      refine rS {} [2] [] hN (by kernel_rfl) (by kernel_rfl) ?_
      refine tnU ?_
      refine WpC.ret ?_
      have hq := Option.some.inj h
      subst hq
      exact eR (by kernel_rfl) (by kernel_rfl)

theorem millwrightref01_count.ok (O : Out) (hO : GOk O) (k : Nat) (a0 : List UInt8) (a1 : Int) (out : Int) (h : millwrightref01_count.f k a0 a1 = some out) : COk Un O Tryz.prog 44 { ar := [.p .str a0, .p (.int .u8) a1], r := .p I6 out } := by
  refine cok_of_wp Tryz.func44 rfl (k := 21) rfl (Nat.le_of_ble_eq_true rfl) (namesOk_pure rfl rfl rfl rfl) ?_
  intro B hN
  refine WpC.conv (cvK (b := ⟨[(0, .p .str a0), (1, .p (.int .u8) a1)], []⟩) [0, 1] [] (by kernel_rfl)) ?_
  unfold millwrightref01_count.f at h
  refine WpC.seq ?_
  refine rS {} [0, 1] [] hN (by kernel_rfl) (by kernel_rfl) ?_
  refine tnU ?_
  refine WpC.seq ?_
  refine rS {} [0, 1, 5] [] hN (by kernel_rfl) (by kernel_rfl) ?_
  refine tnU ?_
  refine sqJ (fun st' => ∃ v1 : Int, millwrightref01_count.j2 k v1 = some out ∧ st' = ⟨[(5, .p I6 v1)], []⟩) ?_ ?_
  · refine WpC.seq ?_
    refine rS {} [0, 1, 5, 6] [] hN (by kernel_rfl) (by kernel_rfl) ?_
    refine tnU ?_
    refine WpC.block ?_
    obtain ⟨o7, hlo7, h⟩ := bind_some h
    have hout8 := h
    clear h
    refine WpC.loop (U := Un) (fun n st' => ∃ v3 : Int, ∃ v4 : Int, millwrightref01_count.l5 k a0 a1 n v3 v4 = some o7 ∧ st' = ⟨[(0, .p .str a0), (1, .p (.int .u8) a1), (5, .p I6 v3), (6, .p I6 v4)], []⟩) k ⟨0, 0, hlo7, by kernel_rfl⟩ ?_
    clear hlo7
    rintro (_ | n) _ ⟨v3, v4, h, rfl⟩
    · cases h
    · rw [millwrightref01_count.l5] at h
      refine WpC.seq ?_
      refine WpC.seq ?_
      refine rS {} [0, 1, 5, 6, 10] [] hN (by kernel_rfl) (by kernel_rfl) ?_
      refine tnU ?_
      refine tS (b := (decide (v4 < (a0.length : Int)))) (by kernel_rfl) (fun hc9 => ?_) (fun hc9 => ?_)
      · replace h := ite_t hc9 h
        refine WpC.conv (cS [.k [0, 1, 5, 6] []] (by kernel_rfl) (by kernel_rfl)) (WpC.skip ?_)
        refine tnU ?_
        refine sqJ (fun st' => ∃ v10 : Int, millwrightref01_count.j11 k (millwrightref01_count.l5 k a0 a1 n) a0 a1 v4 v10 = some o7 ∧ st' = ⟨[(0, .p .str a0), (1, .p (.int .u8) a1), (5, .p I6 v10), (6, .p I6 v4)], []⟩) ?_ ?_
        · refine WpC.block ?_
          refine WpC.seq ?_
          obtain ⟨v12, hv12, h⟩ := bind_some h
          refine rS { its := [(2, .u hv12)] } [0, 1, 5, 6, 17] [] hN (by kernel_rfl) (by kernel_rfl) ?_
          refine tnU ?_
          refine tS (b := ((v12.toNat : Int) == a1)) (by kernel_rfl) (fun hc13 => ?_) (fun hc13 => ?_)
          · replace h := ite_t hc13 h
            refine rS {} [0, 1, 5, 6] [] hN (by kernel_rfl) (by kernel_rfl) ?_
            refine blockQ_normal ?_
            refine tnU ?_
            exact ⟨(IntKind.i64.wrap (v3 + 1)), h, by kernel_rfl⟩
          · replace h := ite_f hc13 h
            refine WpC.conv (cS [.k [0, 1, 5, 6] []] (by kernel_rfl) (by kernel_rfl)) (WpC.skip ?_)
            refine blockQ_normal ?_
            refine tnU ?_
            exact ⟨v3, h, by kernel_rfl⟩
        · rintro _ ⟨v10, h, rfl⟩
          unfold millwrightref01_count.j11 at h
          refine rS {} [0, 1, 5, 6] [] hN (by kernel_rfl) (by kernel_rfl) ?_
          refine tnU ?_
          exact ⟨n, Nat.lt_succ_self n, v10, (IntKind.i64.wrap (v4 + 1)), h, by kernel_rfl⟩
      · replace h := ite_f hc9 h
        refine WpC.conv (cS [.k [5] []] (by kernel_rfl) (by kernel_rfl)) (WpC.exit ?_)
        refine thenQ_exit ?_
        have hq := Option.some.inj h
        subst hq
        refine thenQ_exit ?_
        have h := hout8
        refine blockQ_hit ?_
        refine tnU ?_
        exact ⟨v3, h, by kernel_rfl⟩
  · rintro _ ⟨v1, h, rfl⟩
    unfold millwrightref01_count.j2 at h
    refine WpC.seq ?_
    refine rS {} [4] [] hN (by kernel_rfl) (by kernel_rfl) ?_
    refine tnU ?_
    refine WpC.ret ?_
    have hq := Option.some.inj h
    subst hq
    exact eR (by kernel_rfl) (by kernel_rfl)

theorem millwrightref01_Member.ok (O : Out) (hO : GOk O) (k : Nat) (a0 : List UInt8) (out : (List UInt8) × (List UInt8) × Bool) (h : millwrightref01_Member.f k a0 = some out) : COk Un O Tryz.prog 19 { ar := [.p .str a0], r := .tup [.p .str out.1, .p .str out.2.1, .p .bool out.2.2] } := by
  refine cok_of_wp Tryz.func19 rfl (k := 53) rfl (Nat.le_of_ble_eq_true rfl) (namesOk_pure rfl rfl rfl rfl) ?_
  intro B hN
  refine WpC.conv (cvK (b := ⟨[(0, .p .str a0)], []⟩) [0] [] (by kernel_rfl)) ?_
  unfold millwrightref01_Member.f at h
  refine WpC.seq ?_
  refine rS {} [0] [] hN (by kernel_rfl) (by kernel_rfl) ?_
  refine tnU ?_
  refine sqJ (fun st' => millwrightref01_Member.j14 k a0 = some out ∧ st' = ⟨[(0, .p .str a0)], []⟩) ?_ ?_
  · refine sqJ (fun st' => ∃ v15 : Bool, millwrightref01_Member.j17 k a0 v15 = some out ∧ st' = ⟨[(0, .p .str a0), (31, .p .bool v15)], []⟩) ?_ ?_
    · obtain ⟨v18, hv18, h⟩ := bind_some h
      rcases bool_cases (!v18) with hc19 | hc19
      · replace h := ite_t hc19 h
        refine rS { its := [(1, .c (millwrightref01_Right.ok O hO k a0 v18 hv18))], kn := [(9, .t hc19)] } [0, 31] [] hN (by kernel_rfl) (by kernel_rfl) ?_
        refine tnU ?_
        exact ⟨true, h, by kernel_rfl⟩
      · replace h := ite_f hc19 h
        obtain ⟨v20, hv20, h⟩ := bind_some h
        rcases bool_cases ((v20.toNat : Int) != 41) with hc21 | hc21
        · replace h := ite_t hc21 h
          refine rS { its := [(1, .c (millwrightref01_Right.ok O hO k a0 v18 hv18)), (8, .u hv20)], kn := [(9, .f hc19), (17, .t hc21)] } [0, 31] [] hN (by kernel_rfl) (by kernel_rfl) ?_
          refine tnU ?_
          exact ⟨true, h, by kernel_rfl⟩
        · replace h := ite_f hc21 h
          obtain ⟨v22, hv22, h⟩ := bind_some h
          rcases bool_cases (v22 != 1) with hc23 | hc23
          · replace h := ite_t hc23 h
            refine rS { its := [(1, .c (millwrightref01_Right.ok O hO k a0 v18 hv18)), (8, .u hv20), (13, .c (millwrightref01_count.ok O hO k a0 40 v22 hv22))], kn := [(9, .f hc19), (17, .f hc21), (22, .t hc23)] } [0, 31] [] hN (by kernel_rfl) (by kernel_rfl) ?_
            refine tnU ?_
            exact ⟨true, h, by kernel_rfl⟩
          · replace h := ite_f hc23 h
            obtain ⟨v24, hv24, h⟩ := bind_some h
            rcases bool_cases (v24 != 1) with hc25 | hc25
            · replace h := ite_t hc25 h
              refine rS { its := [(1, .c (millwrightref01_Right.ok O hO k a0 v18 hv18)), (8, .u hv20), (13, .c (millwrightref01_count.ok O hO k a0 40 v22 hv22)), (18, .c (millwrightref01_count.ok O hO k a0 41 v24 hv24))], kn := [(9, .f hc19), (17, .f hc21), (22, .f hc23), (27, .t hc25)] } [0, 31] [] hN (by kernel_rfl) (by kernel_rfl) ?_
              refine tnU ?_
              exact ⟨true, h, by kernel_rfl⟩
            · replace h := ite_f hc25 h
              obtain ⟨v26, hv26, h⟩ := bind_some h
              refine rS { its := [(1, .c (millwrightref01_Right.ok O hO k a0 v18 hv18)), (8, .u hv20), (13, .c (millwrightref01_count.ok O hO k a0 40 v22 hv22)), (18, .c (millwrightref01_count.ok O hO k a0 41 v24 hv24)), (23, .u hv26)], kn := [(9, .f hc19), (17, .f hc21), (22, .f hc23), (27, .f hc25)] } [0, 31] [] hN (by kernel_rfl) (by kernel_rfl) ?_
              refine tnU ?_
              exact ⟨((v26.toNat : Int) == 40), h, by kernel_rfl⟩
    · rintro _ ⟨v15, h, rfl⟩
      unfold millwrightref01_Member.j17 at h
      refine tS (b := v15) (by kernel_rfl) (fun hc16 => ?_) (fun hc16 => ?_)
      · replace h := ite_t hc16 h
        refine WpC.seq ?_
        refine rS {} [2, 3, 4] [] hN (by kernel_rfl) (by kernel_rfl) ?_
        refine tnU ?_
        refine WpC.ret ?_
        refine thenQ_ret ?_
        have hq := Option.some.inj h
        subst hq
        exact eR (by kernel_rfl) (by kernel_rfl)
      · replace h := ite_f hc16 h
        refine WpC.conv (cS [.k [0] []] (by kernel_rfl) (by kernel_rfl)) (WpC.skip ?_)
        refine tnU ?_
        exact ⟨h, by kernel_rfl⟩
  · rintro _ ⟨h, rfl⟩
    unfold millwrightref01_Member.j14 at h
    refine WpC.seq ?_
    refine rS {} [0, 5] [] hN (by kernel_rfl) (by kernel_rfl) ?_
    refine tnU ?_
    refine sqJ (fun st' => ∃ v1 : Int, millwrightref01_Member.j5 k a0 v1 = some out ∧ st' = ⟨[(0, .p .str a0), (5, .p I6 v1)], []⟩) ?_ ?_
    · refine WpC.block ?_
      obtain ⟨o9, hlo9, h⟩ := bind_some h
      have hout10 := h
      clear h
      refine WpC.loop (U := Un) (fun n st' => ∃ v6 : Int, millwrightref01_Member.l7 k a0 n v6 = some o9 ∧ st' = ⟨[(0, .p .str a0), (5, .p I6 v6)], []⟩) k ⟨0, hlo9, by kernel_rfl⟩ ?_
      clear hlo9
      rintro (_ | n) _ ⟨v6, h, rfl⟩
      · cases h
      · rw [millwrightref01_Member.l7] at h
        refine WpC.seq ?_
        refine WpC.seq ?_
        obtain ⟨v11, hv11, h⟩ := bind_some h
        refine rS { its := [(2, .u hv11)] } [0, 5, 35] [] hN (by kernel_rfl) (by kernel_rfl) ?_
        refine tnU ?_
        refine tS (b := ((v11.toNat : Int) != 40)) (by kernel_rfl) (fun hc12 => ?_) (fun hc12 => ?_)
        · replace h := ite_t hc12 h
          refine WpC.conv (cS [.k [0, 5] []] (by kernel_rfl) (by kernel_rfl)) (WpC.skip ?_)
          refine tnU ?_
          refine WpC.block ?_
          refine rS {} [0, 5] [] hN (by kernel_rfl) (by kernel_rfl) ?_
          refine blockQ_normal ?_
          refine tnU ?_
          exact ⟨n, Nat.lt_succ_self n, (IntKind.i64.wrap (v6 + 1)), h, by kernel_rfl⟩
        · replace h := ite_f hc12 h
          refine WpC.conv (cS [.k [0, 5] []] (by kernel_rfl) (by kernel_rfl)) (WpC.exit ?_)
          refine thenQ_exit ?_
          have hq := Option.some.inj h
          subst hq
          refine thenQ_exit ?_
          have h := hout10
          refine blockQ_hit ?_
          refine tnU ?_
          exact ⟨v6, h, by kernel_rfl⟩
    · rintro _ ⟨v1, h, rfl⟩
      unfold millwrightref01_Member.j5 at h
      refine WpC.seq ?_
      refine WpC.seq ?_
      refine rS {} [0, 5, 42] [] hN (by kernel_rfl) (by kernel_rfl) ?_
      refine tnU ?_
      refine tS (b := (v1 == (IntKind.i64.wrap ((a0.length : Int) - 2)))) (by kernel_rfl) (fun hc2 => ?_) (fun hc2 => ?_)
      · replace h := ite_t hc2 h
        refine WpC.seq ?_
        refine rS {} [2, 3, 4] [] hN (by kernel_rfl) (by kernel_rfl) ?_
        refine tnU ?_
        refine WpC.ret ?_
        refine thenQ_ret ?_
        have hq := Option.some.inj h
        subst hq
        exact eR (by kernel_rfl) (by kernel_rfl)
      · replace h := ite_f hc2 h
        refine WpC.conv (cS [.k [0, 5] []] (by kernel_rfl) (by kernel_rfl)) (WpC.skip ?_)
        refine tnU ?_
        refine WpC.seq ?_
        obtain ⟨v3, hv3, h⟩ := bind_some h
        obtain ⟨v4, hv4, h⟩ := bind_some h
        refine rA { its := [(2, .v .str hv3), (9, .v .str hv4)] } [2, 3, 4] [] hN (by kernel_rfl) (by kernel_rfl) (by kernel_rfl) ?_
        refine tnU ?_
        refine WpC.ret ?_
        have hq := Option.some.inj h
        subst hq
        exact eR (by kernel_rfl) (by kernel_rfl)

theorem millwrightref02_Tree_Touch_m0.ok (O : Out) (hO : GOk O) (k : Nat) (a0 : List T_tree_File) (a1 : List UInt8) (a2 : Int) (out : Int × (List T_tree_File)) (h : millwrightref02_Tree_Touch_m0.f k a0 a1 a2 = some out) : COk Un O Tryz.prog 53 { ar := [.loc 100000 0, .p .str a1, .p I6 a2], r := .p I6 out.1, bs := [(100000, .box [.p (.list (.named 3)) a0])], bs' := [(100000, .box [.p (.list (.named 3)) out.2])] } := by
  refine cok_of_wp Tryz.func53 rfl (k := 29) rfl (Nat.le_of_ble_eq_true rfl) (namesOk_of (by kernel_rfl)) ?_
  intro B hN
  refine WpC.conv (cvK (b := ⟨[(0, .loc 100000 0), (1, .p .str a1), (2, .p I6 a2)], [(100000, .box [.p (.list (.named 3)) a0])]⟩) [0, 1, 2] [100000] (by kernel_rfl)) ?_
  unfold millwrightref02_Tree_Touch_m0.f at h
  refine WpC.seq ?_
  refine rS {} [0, 1, 2] [100000] hN (by kernel_rfl) (by kernel_rfl) ?_
  refine tnU ?_
  refine WpC.seq ?_
  refine rS {} [0, 1, 7] [7, 100000] hN (by kernel_rfl) (by kernel_rfl) ?_
  refine tnU ?_
  refine sqJ (fun st' => ∃ v1 : List UInt8, millwrightref02_Tree_Touch_m0.j3 k a0 a1 a2 v1 = some out ∧ st' = ⟨[(0, .loc 100000 0), (7, .loc 7 0)], [(7, .box [.p .str a1, .p .str v1, .p I6 a2]), (100000, .box [.p (.list (.named 3)) a0])]⟩) ?_ ?_
  · refine WpC.seq ?_
    obtain ⟨v4, hv4, h⟩ := bind_some h
    refine rS { its := [(2, .c (COk.ren (millwrightref02_Tree_At_m0.ok O hO k a0 a1 v4 hv4) (fun n => if n = 100000 then 100000 else n) (injOn_of (by kernel_rfl))))] } [0, 7, 8] [7, 100000] hN (by kernel_rfl) (by kernel_rfl) ?_
    refine tnU ?_
    refine WpC.seq ?_
    refine rS {} [0, 7, 8, 16] [7, 100000] hN (by kernel_rfl) (by kernel_rfl) ?_
    refine tnU ?_
    refine tS (b := (decide (v4 ≥ 0))) (by kernel_rfl) (fun hc5 => ?_) (fun hc5 => ?_)
    · replace h := ite_t hc5 h
      obtain ⟨v6, hv6, h⟩ := bind_some h
      refine rS { its := [(5, .v (.named 3) hv6)] } [0, 7] [7, 100000] hN (by kernel_rfl) (by kernel_rfl) ?_
      refine tnU ?_
      exact ⟨v6.f_Content, h, by kernel_rfl⟩
    · replace h := ite_f hc5 h
      refine WpC.conv (cS [.k [0, 7] [7, 100000]] (by kernel_rfl) (by kernel_rfl)) (WpC.skip ?_)
      refine tnU ?_
      exact ⟨[], h, by kernel_rfl⟩
  · rintro _ ⟨v1, h, rfl⟩
    unfold millwrightref02_Tree_Touch_m0.j3 at h
    refine WpC.seq ?_
    obtain ⟨v2, hv2, h⟩ := bind_some h
    refine rS { its := [(2, .c (COk.ren (millwrightref02_Tree_Put_m0.ok O hO k a0 (T_tree_File.mk a1 v1 a2) v2 hv2) (fun n => if n = 100000 then 100000 else n) (injOn_of (by kernel_rfl))))] } [6] [100000] hN (by kernel_rfl) (by kernel_rfl) ?_
    refine tnU ?_
    refine WpC.ret ?_
    have hq := Option.some.inj h
    subst hq
    exact eR (by kernel_rfl) (by kernel_rfl)

theorem millwrightref04_content_m0.ok (O : Out) (hO : GOk O) (k : Nat) (a0 : List T_tree_File) (a1 : List UInt8) (out : List UInt8) (h : millwrightref04_content_m0.f k a0 a1 = some out) : COk Un O Tryz.prog 54 { ar := [.loc 100000 0, .p .str a1], r := .p .str out, bs := [(100000, .box [.p (.list (.named 3)) a0])], bs' := [(100000, .box [.p (.list (.named 3)) a0])] } := by
  refine cok_of_wp Tryz.func54 rfl (k := 19) rfl (Nat.le_of_ble_eq_true rfl) (namesOk_of (by kernel_rfl)) ?_
  intro B hN
  refine WpC.conv (cvK (b := ⟨[(0, .loc 100000 0), (1, .p .str a1)], [(100000, .box [.p (.list (.named 3)) a0])]⟩) [0, 1] [100000] (by kernel_rfl)) ?_
  unfold millwrightref04_content_m0.f at h
  refine WpC.seq ?_
  refine rS {} [0, 1] [100000] hN (by kernel_rfl) (by kernel_rfl) ?_
  refine tnU ?_
  refine WpC.seq ?_
  obtain ⟨v1, hv1, h⟩ := bind_some h
  refine rS { its := [(2, .c (COk.ren (millwrightref02_Tree_At_m0.ok O hO k a0 a1 v1 hv1) (fun n => if n = 100000 then 100000 else n) (injOn_of (by kernel_rfl))))] } [0, 5] [100000] hN (by kernel_rfl) (by kernel_rfl) ?_
  refine tnU ?_
  refine WpC.seq ?_
  refine WpC.seq ?_
  refine rS {} [0, 5, 10] [100000] hN (by kernel_rfl) (by kernel_rfl) ?_
  refine tnU ?_
  refine tS (b := (decide (v1 < 0))) (by kernel_rfl) (fun hc2 => ?_) (fun hc2 => ?_)
  · replace h := ite_t hc2 h
    refine WpC.seq ?_
    refine rS {} [4] [100000] hN (by kernel_rfl) (by kernel_rfl) ?_
    refine tnU ?_
    refine WpC.ret ?_
    refine thenQ_ret ?_
    have hq := Option.some.inj h
    subst hq
    exact eR (by kernel_rfl) (by kernel_rfl)
  · replace h := ite_f hc2 h
    refine WpC.conv (cS [.k [0, 5] [100000]] (by kernel_rfl) (by kernel_rfl)) (WpC.skip ?_)
    refine tnU ?_
    refine WpC.seq ?_
    obtain ⟨v3, hv3, h⟩ := bind_some h
    refine rS { its := [(5, .v (.named 3) hv3)] } [4] [100000] hN (by kernel_rfl) (by kernel_rfl) ?_
    refine tnU ?_
    refine WpC.ret ?_
    have hq := Option.some.inj h
    subst hq
    exact eR (by kernel_rfl) (by kernel_rfl)

theorem millwrightref03_figures.ok (O : Out) (hO : GOk O) (k : Nat) (a0 : List UInt8) (out : Int × Bool) (h : millwrightref03_figures.f k a0 = some out) : COk Un O Tryz.prog 78 { ar := [.p .str a0], r := .tup [.p I6 out.1, .p .bool out.2] } := by
  refine cok_of_wp Tryz.func78 rfl (k := 60) rfl (Nat.le_of_ble_eq_true rfl) (namesOk_pure rfl rfl rfl rfl) ?_
  intro B hN
  refine WpC.conv (cvK (b := ⟨[(0, .p .str a0)], []⟩) [0] [] (by kernel_rfl)) ?_
  unfold millwrightref03_figures.f at h
  refine WpC.seq ?_
  refine rS {} [0] [] hN (by kernel_rfl) (by kernel_rfl) ?_
  refine tnU ?_
  refine WpC.seq ?_
  refine rS {} [0, 4, 5] [] hN (by kernel_rfl) (by kernel_rfl) ?_
  refine tnU ?_
  refine sqJ (fun st' => ∃ v1 : Int, ∃ v2 : Int, millwrightref03_figures.j24 k a0 v1 v2 = some out ∧ st' = ⟨[(0, .p .str a0), (4, .p I6 v1), (5, .p I6 v2)], []⟩) ?_ ?_
  · refine WpC.block ?_
    obtain ⟨o30, hlo30, h⟩ := bind_some h
    have hout31 := h
    clear h
    refine WpC.loop (U := Un) (fun n st' => ∃ v25 : Int, ∃ v26 : Int, millwrightref03_figures.l27 k a0 n v25 v26 = some o30 ∧ st' = ⟨[(0, .p .str a0), (4, .p I6 v25), (5, .p I6 v26)], []⟩) k ⟨0, 0, hlo30, by kernel_rfl⟩ ?_
    clear hlo30
    rintro (_ | n) _ ⟨v25, v26, h, rfl⟩
    · cases h
    · rw [millwrightref03_figures.l27] at h
      refine sqJ (fun st' => millwrightref03_figures.j33 k (millwrightref03_figures.l27 k a0 n) a0 v25 v26 = some o30 ∧ st' = ⟨[(0, .p .str a0), (4, .p I6 v25), (5, .p I6 v26)], []⟩) ?_ ?_
      · refine sqJ (fun st' => ∃ v34 : Bool, millwrightref03_figures.j36 k (millwrightref03_figures.l27 k a0 n) a0 v25 v26 v34 = some o30 ∧ st' = ⟨[(0, .p .str a0), (4, .p I6 v25), (5, .p I6 v26), (21, .p .bool v34)], []⟩) ?_ ?_
        · rcases bool_cases (decide (v26 < (a0.length : Int))) with hc37 | hc37
          · replace h := ite_t hc37 h
            obtain ⟨v38, hv38, h⟩ := bind_some h
            rcases bool_cases (decide ((v38.toNat : Int) ≥ 48)) with hc39 | hc39
            · replace h := ite_t hc39 h
              obtain ⟨v40, hv40, h⟩ := bind_some h
              refine rS { its := [(7, .u hv38), (13, .u hv40)], kn := [(10, .t hc37), (16, .t hc39)] } [0, 4, 5, 21] [] hN (by kernel_rfl) (by kernel_rfl) ?_
              refine tnU ?_
              exact ⟨(decide ((v40.toNat : Int) ≤ 57)), h, by kernel_rfl⟩
            · replace h := ite_f hc39 h
              refine rS { its := [(7, .u hv38)], kn := [(10, .t hc37), (16, .f hc39)] } [0, 4, 5, 21] [] hN (by kernel_rfl) (by kernel_rfl) ?_
              refine tnU ?_
              exact ⟨false, h, by kernel_rfl⟩
          · replace h := ite_f hc37 h
            refine rS { kn := [(10, .f hc37)] } [0, 4, 5, 21] [] hN (by kernel_rfl) (by kernel_rfl) ?_
            refine tnU ?_
            exact ⟨false, h, by kernel_rfl⟩
        · rintro _ ⟨v34, h, rfl⟩
          unfold millwrightref03_figures.j36 at h
          refine tS (b := v34) (by kernel_rfl) (fun hc35 => ?_) (fun hc35 => ?_)
          · replace h := ite_t hc35 h
            refine WpC.conv (cS [.k [0, 4, 5] []] (by kernel_rfl) (by kernel_rfl)) (WpC.skip ?_)
            refine tnU ?_
            exact ⟨h, by kernel_rfl⟩
          · replace h := ite_f hc35 h
            refine WpC.conv (cS [.k [0, 4, 5] []] (by kernel_rfl) (by kernel_rfl)) (WpC.exit ?_)
            refine thenQ_exit ?_
            have hq := Option.some.inj h
            subst hq
            refine thenQ_exit ?_
            have h := hout31
            refine blockQ_hit ?_
            refine tnU ?_
            exact ⟨v25, v26, h, by kernel_rfl⟩
      · rintro _ ⟨h, rfl⟩
        unfold millwrightref03_figures.j33 at h
        refine WpC.block ?_
        refine WpC.seq ?_
        obtain ⟨v32, hv32, h⟩ := bind_some h
        refine rS { its := [(4, .u hv32)] } [0, 4, 5] [] hN (by kernel_rfl) (by kernel_rfl) ?_
        refine tnU ?_
        refine rS {} [0, 4, 5] [] hN (by kernel_rfl) (by kernel_rfl) ?_
        refine blockQ_normal ?_
        refine tnU ?_
        exact ⟨n, Nat.lt_succ_self n, (IntKind.i64.wrap ((IntKind.i64.wrap (v25 * 10)) + (IntKind.i64.wrap (IntKind.u8.wrap ((v32.toNat : Int) - 48))))), (IntKind.i64.wrap (v26 + 1)), h, by kernel_rfl⟩
  · rintro _ ⟨v1, v2, h, rfl⟩
    unfold millwrightref03_figures.j24 at h
    refine sqJ (fun st' => millwrightref03_figures.j17 k a0 v1 v2 = some out ∧ st' = ⟨[(0, .p .str a0), (4, .p I6 v1), (5, .p I6 v2)], []⟩) ?_ ?_
    · refine sqJ (fun st' => ∃ v18 : Bool, millwrightref03_figures.j20 k a0 v1 v2 v18 = some out ∧ st' = ⟨[(0, .p .str a0), (4, .p I6 v1), (5, .p I6 v2), (42, .p .bool v18)], []⟩) ?_ ?_
      · rcases bool_cases (v2 == 0) with hc21 | hc21
        · replace h := ite_t hc21 h
          refine rS { kn := [(34, .t hc21)] } [0, 4, 5, 42] [] hN (by kernel_rfl) (by kernel_rfl) ?_
          refine tnU ?_
          exact ⟨true, h, by kernel_rfl⟩
        · replace h := ite_f hc21 h
          rcases bool_cases (decide (v2 > 1)) with hc22 | hc22
          · replace h := ite_t hc22 h
            obtain ⟨v23, hv23, h⟩ := bind_some h
            refine rS { its := [(7, .u hv23)], kn := [(34, .f hc21), (37, .t hc22)] } [0, 4, 5, 42] [] hN (by kernel_rfl) (by kernel_rfl) ?_
            refine tnU ?_
            exact ⟨((v23.toNat : Int) == 48), h, by kernel_rfl⟩
          · replace h := ite_f hc22 h
            refine rS { kn := [(34, .f hc21), (37, .f hc22)] } [0, 4, 5, 42] [] hN (by kernel_rfl) (by kernel_rfl) ?_
            refine tnU ?_
            exact ⟨false, h, by kernel_rfl⟩
      · rintro _ ⟨v18, h, rfl⟩
        unfold millwrightref03_figures.j20 at h
        refine tS (b := v18) (by kernel_rfl) (fun hc19 => ?_) (fun hc19 => ?_)
        · replace h := ite_t hc19 h
          refine WpC.seq ?_
          refine rS {} [2, 3] [] hN (by kernel_rfl) (by kernel_rfl) ?_
          refine tnU ?_
          refine WpC.ret ?_
          refine thenQ_ret ?_
          have hq := Option.some.inj h
          subst hq
          exact eR (by kernel_rfl) (by kernel_rfl)
        · replace h := ite_f hc19 h
          refine WpC.conv (cS [.k [0, 4, 5] []] (by kernel_rfl) (by kernel_rfl)) (WpC.skip ?_)
          refine tnU ?_
          exact ⟨h, by kernel_rfl⟩
    · rintro _ ⟨h, rfl⟩
      unfold millwrightref03_figures.j17 at h
      refine sqJ (fun st' => ∃ v3 : Int, millwrightref03_figures.j4 k a0 v1 v3 = some out ∧ st' = ⟨[(0, .p .str a0), (4, .p I6 v1), (5, .p I6 v3)], []⟩) ?_ ?_
      · refine WpC.block ?_
        obtain ⟨o8, hlo8, h⟩ := bind_some h
        have hout9 := h
        clear h
        refine WpC.loop (U := Un) (fun n st' => ∃ v5 : Int, millwrightref03_figures.l6 k a0 v1 n v5 = some o8 ∧ st' = ⟨[(0, .p .str a0), (4, .p I6 v1), (5, .p I6 v5)], []⟩) k ⟨v2, hlo8, by kernel_rfl⟩ ?_
        clear hlo8
        rintro (_ | n) _ ⟨v5, h, rfl⟩
        · cases h
        · rw [millwrightref03_figures.l6] at h
          refine sqJ (fun st' => millwrightref03_figures.j10 k (millwrightref03_figures.l6 k a0 v1 n) a0 v1 v5 = some o8 ∧ st' = ⟨[(0, .p .str a0), (4, .p I6 v1), (5, .p I6 v5)], []⟩) ?_ ?_
          · refine sqJ (fun st' => ∃ v11 : Bool, millwrightref03_figures.j13 k (millwrightref03_figures.l6 k a0 v1 n) a0 v1 v5 v11 = some o8 ∧ st' = ⟨[(0, .p .str a0), (4, .p I6 v1), (5, .p I6 v5), (52, .p .bool v11)], []⟩) ?_ ?_
            · rcases bool_cases (decide (v5 < (a0.length : Int))) with hc14 | hc14
              · replace h := ite_t hc14 h
                obtain ⟨v15, hv15, h⟩ := bind_some h
                refine rS { its := [(7, .u hv15)], kn := [(47, .t hc14)] } [0, 4, 5, 52] [] hN (by kernel_rfl) (by kernel_rfl) ?_
                refine tnU ?_
                exact ⟨((v15.toNat : Int) == 32), h, by kernel_rfl⟩
              · replace h := ite_f hc14 h
                refine rS { kn := [(47, .f hc14)] } [0, 4, 5, 52] [] hN (by kernel_rfl) (by kernel_rfl) ?_
                refine tnU ?_
                exact ⟨false, h, by kernel_rfl⟩
            · rintro _ ⟨v11, h, rfl⟩
              unfold millwrightref03_figures.j13 at h
              refine tS (b := v11) (by kernel_rfl) (fun hc12 => ?_) (fun hc12 => ?_)
              · replace h := ite_t hc12 h
                refine WpC.conv (cS [.k [0, 4, 5] []] (by kernel_rfl) (by kernel_rfl)) (WpC.skip ?_)
                refine tnU ?_
                exact ⟨h, by kernel_rfl⟩
              · replace h := ite_f hc12 h
                refine WpC.conv (cS [.k [0, 4, 5] []] (by kernel_rfl) (by kernel_rfl)) (WpC.exit ?_)
                refine thenQ_exit ?_
                have hq := Option.some.inj h
                subst hq
                refine thenQ_exit ?_
                have h := hout9
                refine blockQ_hit ?_
                refine tnU ?_
                exact ⟨v5, h, by kernel_rfl⟩
          · rintro _ ⟨h, rfl⟩
            unfold millwrightref03_figures.j10 at h
            refine WpC.block ?_
            refine rS {} [0, 4, 5] [] hN (by kernel_rfl) (by kernel_rfl) ?_
            refine blockQ_normal ?_
            refine tnU ?_
            exact ⟨n, Nat.lt_succ_self n, (IntKind.i64.wrap (v5 + 1)), h, by kernel_rfl⟩
      · rintro _ ⟨v3, h, rfl⟩
        unfold millwrightref03_figures.j4 at h
        refine WpC.seq ?_
        refine rS {} [2, 3] [] hN (by kernel_rfl) (by kernel_rfl) ?_
        refine tnU ?_
        refine WpC.ret ?_
        have hq := Option.some.inj h
        subst hq
        exact eR (by kernel_rfl) (by kernel_rfl)

end Go.Proofs.YtcblgpcgdihcbaaGreatDoor
