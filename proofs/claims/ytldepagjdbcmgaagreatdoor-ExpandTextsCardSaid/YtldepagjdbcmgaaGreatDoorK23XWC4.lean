/- A part of the proof of a given law: XWC4. Own work, printed in part by a program of mine. -/
import Derived.Test.YtldepagjdbcmgaaGreatDoorK23XWC3
namespace Go.Proofs.YtldepagjdbcmgaaGreatDoor
open Go Go.AM
set_option linter.unusedVariables false
set_option linter.unusedSimpArgs false
set_option maxRecDepth 100000
set_option maxHeartbeats 4000000
theorem millwrightref14_Env_Set_m0.ok (O : Out) (hO : GOk O) (k : Nat) (a0 : List T_env_Var) (a1 : T_env_Var) (out : Int × (List T_env_Var)) (h : millwrightref14_Env_Set_m0.f k a0 a1 = some out) : COk Un O Tryz.prog 34 { ar := [.loc 100000 0, .p (.named 3) a1], r := .p I6 out.1, bs := [(100000, .box [.p (.list (.named 3)) a0])], bs' := [(100000, .box [.p (.list (.named 3)) out.2])] } := by
  refine cok_of_wp Tryz.func34 rfl (k := 93) rfl (Nat.le_of_ble_eq_true rfl) (namesOk_of (by kernel_rfl)) ?_
  intro B hN
  refine WpC.conv (cvK (b := ⟨[(0, .loc 100000 0), (1, .p (.named 3) a1)], [(100000, .box [.p (.list (.named 3)) a0])]⟩) [0, 1] [100000] (by kernel_rfl)) ?_
  unfold millwrightref14_Env_Set_m0.f at h
  refine WpC.seq ?_
  refine rS {} [0, 3] [3, 100000] hN (by kernel_rfl) (by kernel_rfl) ?_
  refine tnU ?_
  refine WpC.seq ?_
  refine WpC.seq ?_
  obtain ⟨v1, hv1, h⟩ := bind_some h
  refine rS { its := [(1, .c (millwrightref14_Check.ok O hO k (T_env_Var.mk a1.f_Name a1.f_Words a1.f_Level a1.f_Hidden) v1 hv1))] } [0, 3, 5] [3, 100000] hN (by kernel_rfl) (by kernel_rfl) ?_
  refine tnU ?_
  refine WpC.seq ?_
  refine rS {} [0, 3, 5, 15] [3, 100000] hN (by kernel_rfl) (by kernel_rfl) ?_
  refine tnU ?_
  refine tS (b := (v1 != 0)) (by kernel_rfl) (fun hc2 => ?_) (fun hc2 => ?_)
  · replace h := ite_t hc2 h
    refine WpC.seq ?_
    refine rS {} [4] [100000] hN (by kernel_rfl) (by kernel_rfl) ?_
    refine tnU ?_
    refine WpC.ret ?_
    refine thenQ_ret ?_
    have hq := Option.some.inj h
    subst hq
    exact eR (by kernel_rfl) (by kernel_rfl)
  · replace h := ite_f hc2 h
    refine WpC.conv (cS [.k [0, 3] [3, 100000]] (by kernel_rfl) (by kernel_rfl)) (WpC.skip ?_)
    refine tnU ?_
    refine WpC.seq ?_
    obtain ⟨v3, hv3, h⟩ := bind_some h
    refine rS { its := [(3, .c (COk.ren (millwrightref14_Env_At_m0.ok O hO k a0 a1.f_Name v3 hv3) (fun n => if n = 100000 then 100000 else n) (injOn_of (by kernel_rfl))))] } [0, 3, 6] [3, 100000] hN (by kernel_rfl) (by kernel_rfl) ?_
    refine tnU ?_
    refine sqJ (fun st' => millwrightref14_Env_Set_m0.j40 k a0 a1 v3 = some out ∧ st' = ⟨[(0, .loc 100000 0), (3, .loc 3 0), (6, .p I6 v3)], [(3, .box [.p .str a1.f_Name, .p (.list .str) a1.f_Words, .p I6 a1.f_Level, .p .bool a1.f_Hidden]), (100000, .box [.p (.list (.named 3)) a0])]⟩) ?_ ?_
    · refine sqJ (fun st' => ∃ v41 : Bool, millwrightref14_Env_Set_m0.j43 k a0 a1 v3 v41 = some out ∧ st' = ⟨[(0, .loc 100000 0), (3, .loc 3 0), (6, .p I6 v3), (35, .p .bool v41)], [(3, .box [.p .str a1.f_Name, .p (.list .str) a1.f_Words, .p I6 a1.f_Level, .p .bool a1.f_Hidden]), (100000, .box [.p (.list (.named 3)) a0])]⟩) ?_ ?_
      · rcases bool_cases (decide (v3 ≥ 0)) with hc44 | hc44
        · replace h := ite_t hc44 h
          obtain ⟨v45, hv45, h⟩ := bind_some h
          refine rA { its := [(8, .v (.named 3) hv45)], kn := [(23, .t hc44)] } [0, 3, 6, 35] [3, 100000] hN (by kernel_rfl) (by kernel_rfl) (by kernel_rfl) ?_
          refine tnU ?_
          exact ⟨(decide (v45.f_Level > a1.f_Level)), h, by kernel_rfl⟩
        · replace h := ite_f hc44 h
          refine rA { kn := [(23, .f hc44)] } [0, 3, 6, 35] [3, 100000] hN (by kernel_rfl) (by kernel_rfl) (by kernel_rfl) ?_
          refine tnU ?_
          exact ⟨false, h, by kernel_rfl⟩
      · rintro _ ⟨v41, h, rfl⟩
        unfold millwrightref14_Env_Set_m0.j43 at h
        refine tS (b := v41) (by kernel_rfl) (fun hc42 => ?_) (fun hc42 => ?_)
        · replace h := ite_t hc42 h
          refine WpC.seq ?_
          refine rS {} [4] [100000] hN (by kernel_rfl) (by kernel_rfl) ?_
          refine tnU ?_
          refine WpC.ret ?_
          refine thenQ_ret ?_
          have hq := Option.some.inj h
          subst hq
          exact eR (by kernel_rfl) (by kernel_rfl)
        · replace h := ite_f hc42 h
          refine WpC.conv (cS [.k [0, 3, 6] [3, 100000]] (by kernel_rfl) (by kernel_rfl)) (WpC.skip ?_)
          refine tnU ?_
          exact ⟨h, by kernel_rfl⟩
    · rintro _ ⟨h, rfl⟩
      unfold millwrightref14_Env_Set_m0.j40 at h
      refine sqJ (fun st' => millwrightref14_Env_Set_m0.j35 k a0 a1 = some out ∧ st' = ⟨[(0, .loc 100000 0), (3, .loc 3 0)], [(3, .box [.p .str a1.f_Name, .p (.list .str) a1.f_Words, .p I6 a1.f_Level, .p .bool a1.f_Hidden]), (100000, .box [.p (.list (.named 3)) a0])]⟩) ?_ ?_
      · refine sqJ (fun st' => ∃ v36 : Bool, millwrightref14_Env_Set_m0.j38 k a0 a1 v36 = some out ∧ st' = ⟨[(0, .loc 100000 0), (3, .loc 3 0), (45, .p .bool v36)], [(3, .box [.p .str a1.f_Name, .p (.list .str) a1.f_Words, .p I6 a1.f_Level, .p .bool a1.f_Hidden]), (100000, .box [.p (.list (.named 3)) a0])]⟩) ?_ ?_
        · rcases bool_cases (decide (v3 < 0)) with hc39 | hc39
          · replace h := ite_t hc39 h
            refine rS { kn := [(38, .t hc39)] } [0, 3, 45] [3, 100000] hN (by kernel_rfl) (by kernel_rfl) ?_
            refine tnU ?_
            exact ⟨(decide ((a0.length : Int) ≥ 24)), h, by kernel_rfl⟩
          · replace h := ite_f hc39 h
            refine rS { kn := [(38, .f hc39)] } [0, 3, 45] [3, 100000] hN (by kernel_rfl) (by kernel_rfl) ?_
            refine tnU ?_
            exact ⟨false, h, by kernel_rfl⟩
        · rintro _ ⟨v36, h, rfl⟩
          unfold millwrightref14_Env_Set_m0.j38 at h
          refine tS (b := v36) (by kernel_rfl) (fun hc37 => ?_) (fun hc37 => ?_)
          · replace h := ite_t hc37 h
            refine WpC.seq ?_
            refine rS {} [4] [100000] hN (by kernel_rfl) (by kernel_rfl) ?_
            refine tnU ?_
            refine WpC.ret ?_
            refine thenQ_ret ?_
            have hq := Option.some.inj h
            subst hq
            exact eR (by kernel_rfl) (by kernel_rfl)
          · replace h := ite_f hc37 h
            refine WpC.conv (cS [.k [0, 3] [3, 100000]] (by kernel_rfl) (by kernel_rfl)) (WpC.skip ?_)
            refine tnU ?_
            exact ⟨h, by kernel_rfl⟩
      · rintro _ ⟨h, rfl⟩
        unfold millwrightref14_Env_Set_m0.j35 at h
        refine WpC.seq ?_
        refine rSC {} [0, 3, 7] [3, 46, 100000] hN (by kernel_rfl) (by kernel_rfl) (cS [.k [0, 3, 7] [3, 46, 100000], .x (Conv.cast (U := Un) (st := ⟨[(0, .loc 100000 0), (3, .loc 3 0), (7, .vec 46 4 0 (([] : List T_env_Var).length))], [(3, .box [.p .str a1.f_Name, .p (.list .str) a1.f_Words, .p I6 a1.f_Level, .p .bool a1.f_Hidden]), (46, .row 79 (.named 3) ([] : List T_env_Var) true), (100000, .box [.p (.list (.named 3)) a0])]⟩) (st' := ⟨[(0, .loc 100000 0), (3, .loc 3 0), (7, .vec 46 4 0 0)], [(3, .box [.p .str a1.f_Name, .p (.list .str) a1.f_Words, .p I6 a1.f_Level, .p .bool a1.f_Hidden]), (46, .row 79 (.named 3) ([] : List T_env_Var) true), (100000, .box [.p (.list (.named 3)) a0])]⟩) (by simp only [upd_length, List.length_nil, List.length_replicate]))] (by kernel_rfl) (by kernel_rfl)) ?_
        refine tnU ?_
        refine sqJ (fun st' => ∃ v4 : List T_env_Var, millwrightref14_Env_Set_m0.j21 k a0 a1 v4 = some out ∧ st' = ⟨[(0, .loc 100000 0), (3, .loc 3 0), (7, .vec 1007 4 0 v4.length)], [(3, .box [.p .str a1.f_Name, .p (.list .str) a1.f_Words, .p I6 a1.f_Level, .p .bool a1.f_Hidden]), (1007, .row 79 (.named 3) v4 false), (100000, .box [.p (.list (.named 3)) a0])]⟩) ?_ ?_
        · refine WpC.seq ?_
          refine rS {} [0, 3, 7, 50, 51, 52] [3, 46, 100000] hN (by kernel_rfl) (by kernel_rfl) ?_
          refine tnU ?_
          refine WpC.block ?_
          obtain ⟨o26, hlo26, h⟩ := bind_some h
          have hout27 := h
          clear h
          refine WpC.conv (cS [.lo 46, .k [0, 3, 7, 50, 51, 52] [3, 46, 100000], .rn 46 1007, .k [0, 3, 7, 50, 51, 52] [3, 1007, 100000]] (by kernel_rfl) (by kernel_rfl)) ?_
          refine WpC.loop (U := Un) (fun n st' => ∃ v22 : List T_env_Var, ∃ v23 : Int, millwrightref14_Env_Set_m0.l24 k a0 a1 n v22 v23 = some o26 ∧ st' = ⟨[(0, .loc 100000 0), (3, .loc 3 0), (7, .vec 1007 4 0 v22.length), (50, .p (.list (.named 3)) a0), (51, .p I6 ((a0.length : Int) : Int)), (52, .p I6 v23)], [(3, .box [.p .str a1.f_Name, .p (.list .str) a1.f_Words, .p I6 a1.f_Level, .p .bool a1.f_Hidden]), (1007, .row 79 (.named 3) v22 false), (100000, .box [.p (.list (.named 3)) a0])]⟩) k ⟨([] : List T_env_Var), 0, hlo26, by kernel_rfl⟩ ?_
          clear hlo26
          rintro (_ | n) _ ⟨v22, v23, h, rfl⟩
          · cases h
          · rw [millwrightref14_Env_Set_m0.l24] at h
            refine WpC.seq ?_
            refine rS {} [0, 3, 7, 50, 51, 52, 53] [3, 1007, 100000] hN (by kernel_rfl) (by kernel_rfl) ?_
            refine tnU ?_
            refine WpC.seq ?_
            refine tS (b := (decide (v23 < (a0.length : Int)))) (by kernel_rfl) (fun hc28 => ?_) (fun hc28 => ?_)
            · replace h := ite_t hc28 h
              refine WpC.conv (cS [.k [0, 3, 7, 50, 51, 52] [3, 1007, 100000]] (by kernel_rfl) (by kernel_rfl)) (WpC.skip ?_)
              refine tnU ?_
              refine sqJ (fun st' => ∃ v29 : List T_env_Var, millwrightref14_Env_Set_m0.j30 k (millwrightref14_Env_Set_m0.l24 k a0 a1 n) a0 a1 v23 v29 = some o26 ∧ st' = ⟨[(0, .loc 100000 0), (3, .loc 3 0), (7, .vec 1007 4 0 v29.length), (50, .p (.list (.named 3)) a0), (51, .p I6 ((a0.length : Int) : Int)), (52, .p I6 v23)], [(3, .box [.p .str a1.f_Name, .p (.list .str) a1.f_Words, .p I6 a1.f_Level, .p .bool a1.f_Hidden]), (1007, .row 79 (.named 3) v29 false), (100000, .box [.p (.list (.named 3)) a0])]⟩) ?_ ?_
              · refine WpC.block ?_
                refine WpC.seq ?_
                obtain ⟨v31, hv31, h⟩ := bind_some h
                refine rS { its := [(0, .v (.named 3) hv31)] } [0, 3, 7, 9, 50, 51, 52] [3, 9, 1007, 100000] hN (by kernel_rfl) (by kernel_rfl) ?_
                refine tnU ?_
                refine WpC.seq ?_
                refine rS {} [0, 3, 7, 9, 50, 51, 52, 60] [3, 9, 1007, 100000] hN (by kernel_rfl) (by kernel_rfl) ?_
                refine tnU ?_
                refine tS (b := (Op.bytesLess v31.f_Name a1.f_Name)) (by kernel_rfl) (fun hc32 => ?_) (fun hc32 => ?_)
                · replace h := ite_t hc32 h
                  obtain ⟨g33, h⟩ := if_some h
                  refine rSC { its := [(3, .g g33)] } [0, 3, 7, 50, 51, 52] [3, 64, 100000] hN (by kernel_rfl) (by kernel_rfl) (cS [.rn 64 1007, .k [0, 3, 7, 50, 51, 52] [3, 1007, 100000]] (by kernel_rfl) (by kernel_rfl)) ?_
                  refine blockQ_normal ?_
                  refine tnU ?_
                  exact ⟨(v22 ++ [(T_env_Var.mk v31.f_Name v31.f_Words v31.f_Level v31.f_Hidden)]), h, by kernel_rfl⟩
                · replace h := ite_f hc32 h
                  refine WpC.conv (cS [.k [0, 3, 7, 50, 51, 52] [3, 1007, 100000]] (by kernel_rfl) (by kernel_rfl)) (WpC.skip ?_)
                  refine blockQ_normal ?_
                  refine tnU ?_
                  exact ⟨v22, h, by kernel_rfl⟩
              · rintro _ ⟨v29, h, rfl⟩
                unfold millwrightref14_Env_Set_m0.j30 at h
                refine rS {} [0, 3, 7, 50, 51, 52] [3, 1007, 100000] hN (by kernel_rfl) (by kernel_rfl) ?_
                refine tnU ?_
                exact ⟨n, Nat.lt_succ_self n, v29, (IntKind.i64.wrap (v23 + 1)), h, by kernel_rfl⟩
            · replace h := ite_f hc28 h
              refine WpC.conv (cS [.k [0, 3, 7] [3, 1007, 100000]] (by kernel_rfl) (by kernel_rfl)) (WpC.exit ?_)
              refine thenQ_exit ?_
              have hq := Option.some.inj h
              subst hq
              refine thenQ_exit ?_
              have h := hout27
              refine blockQ_hit ?_
              refine tnU ?_
              exact ⟨v22, h, by kernel_rfl⟩
        · rintro _ ⟨v4, h, rfl⟩
          unfold millwrightref14_Env_Set_m0.j21 at h
          refine WpC.seq ?_
          obtain ⟨g5, h⟩ := if_some h
          refine rS { its := [(3, .g g5)] } [0, 3, 7] [3, 69, 100000] hN (by kernel_rfl) (by kernel_rfl) ?_
          refine tnU ?_
          refine sqJ (fun st' => ∃ v6 : List T_env_Var, millwrightref14_Env_Set_m0.j7 k a0 v6 = some out ∧ st' = ⟨[(0, .loc 100000 0), (7, .vec 1007 4 0 v6.length)], [(1007, .row 79 (.named 3) v6 false), (100000, .box [.p (.list (.named 3)) a0])]⟩) ?_ ?_
          · refine WpC.seq ?_
            refine rS {} [0, 3, 7, 73, 74, 75] [3, 69, 100000] hN (by kernel_rfl) (by kernel_rfl) ?_
            refine tnU ?_
            refine WpC.block ?_
            obtain ⟨o12, hlo12, h⟩ := bind_some h
            have hout13 := h
            clear h
            refine WpC.conv (cS [.rn 69 1007, .k [0, 3, 7, 73, 74, 75] [3, 1007, 100000]] (by kernel_rfl) (by kernel_rfl)) ?_
            refine WpC.loop (U := Un) (fun n st' => ∃ v8 : List T_env_Var, ∃ v9 : Int, millwrightref14_Env_Set_m0.l10 k a0 a1 n v8 v9 = some o12 ∧ st' = ⟨[(0, .loc 100000 0), (3, .loc 3 0), (7, .vec 1007 4 0 v8.length), (73, .p (.list (.named 3)) a0), (74, .p I6 ((a0.length : Int) : Int)), (75, .p I6 v9)], [(3, .box [.p .str a1.f_Name, .p (.list .str) a1.f_Words, .p I6 a1.f_Level, .p .bool a1.f_Hidden]), (1007, .row 79 (.named 3) v8 false), (100000, .box [.p (.list (.named 3)) a0])]⟩) k ⟨(v4 ++ [(T_env_Var.mk a1.f_Name a1.f_Words a1.f_Level a1.f_Hidden)]), 0, hlo12, by kernel_rfl⟩ ?_
            clear hlo12
            rintro (_ | n) _ ⟨v8, v9, h, rfl⟩
            · cases h
            · rw [millwrightref14_Env_Set_m0.l10] at h
              refine WpC.seq ?_
              refine rS {} [0, 3, 7, 73, 74, 75, 76] [3, 1007, 100000] hN (by kernel_rfl) (by kernel_rfl) ?_
              refine tnU ?_
              refine WpC.seq ?_
              refine tS (b := (decide (v9 < (a0.length : Int)))) (by kernel_rfl) (fun hc14 => ?_) (fun hc14 => ?_)
              · replace h := ite_t hc14 h
                refine WpC.conv (cS [.k [0, 3, 7, 73, 74, 75] [3, 1007, 100000]] (by kernel_rfl) (by kernel_rfl)) (WpC.skip ?_)
                refine tnU ?_
                refine sqJ (fun st' => ∃ v15 : List T_env_Var, millwrightref14_Env_Set_m0.j16 k (millwrightref14_Env_Set_m0.l10 k a0 a1 n) a0 a1 v9 v15 = some o12 ∧ st' = ⟨[(0, .loc 100000 0), (3, .loc 3 0), (7, .vec 1007 4 0 v15.length), (73, .p (.list (.named 3)) a0), (74, .p I6 ((a0.length : Int) : Int)), (75, .p I6 v9)], [(3, .box [.p .str a1.f_Name, .p (.list .str) a1.f_Words, .p I6 a1.f_Level, .p .bool a1.f_Hidden]), (1007, .row 79 (.named 3) v15 false), (100000, .box [.p (.list (.named 3)) a0])]⟩) ?_ ?_
                · refine WpC.block ?_
                  refine WpC.seq ?_
                  obtain ⟨v17, hv17, h⟩ := bind_some h
                  refine rS { its := [(0, .v (.named 3) hv17)] } [0, 3, 7, 11, 73, 74, 75] [3, 11, 1007, 100000] hN (by kernel_rfl) (by kernel_rfl) ?_
                  refine tnU ?_
                  refine WpC.seq ?_
                  refine rS {} [0, 3, 7, 11, 73, 74, 75, 83] [3, 11, 1007, 100000] hN (by kernel_rfl) (by kernel_rfl) ?_
                  refine tnU ?_
                  refine tS (b := (!(Op.bytesLess v17.f_Name a1.f_Name || v17.f_Name == a1.f_Name))) (by kernel_rfl) (fun hc18 => ?_) (fun hc18 => ?_)
                  · replace h := ite_t hc18 h
                    obtain ⟨g19, h⟩ := if_some h
                    refine rSC { its := [(3, .g g19)] } [0, 3, 7, 73, 74, 75] [3, 87, 100000] hN (by kernel_rfl) (by kernel_rfl) (cS [.rn 87 1007, .k [0, 3, 7, 73, 74, 75] [3, 1007, 100000]] (by kernel_rfl) (by kernel_rfl)) ?_
                    refine blockQ_normal ?_
                    refine tnU ?_
                    exact ⟨(v8 ++ [(T_env_Var.mk v17.f_Name v17.f_Words v17.f_Level v17.f_Hidden)]), h, by kernel_rfl⟩
                  · replace h := ite_f hc18 h
                    refine WpC.conv (cS [.k [0, 3, 7, 73, 74, 75] [3, 1007, 100000]] (by kernel_rfl) (by kernel_rfl)) (WpC.skip ?_)
                    refine blockQ_normal ?_
                    refine tnU ?_
                    exact ⟨v8, h, by kernel_rfl⟩
                · rintro _ ⟨v15, h, rfl⟩
                  unfold millwrightref14_Env_Set_m0.j16 at h
                  refine rS {} [0, 3, 7, 73, 74, 75] [3, 1007, 100000] hN (by kernel_rfl) (by kernel_rfl) ?_
                  refine tnU ?_
                  exact ⟨n, Nat.lt_succ_self n, v15, (IntKind.i64.wrap (v9 + 1)), h, by kernel_rfl⟩
              · replace h := ite_f hc14 h
                refine WpC.conv (cS [.k [0, 7] [1007, 100000]] (by kernel_rfl) (by kernel_rfl)) (WpC.exit ?_)
                refine thenQ_exit ?_
                have hq := Option.some.inj h
                subst hq
                refine thenQ_exit ?_
                have h := hout13
                refine blockQ_hit ?_
                refine tnU ?_
                exact ⟨v8, h, by kernel_rfl⟩
          · rintro _ ⟨v6, h, rfl⟩
            unfold millwrightref14_Env_Set_m0.j7 at h
            refine WpC.seq ?_
            refine rS {} [] [1007, 100000] hN (by kernel_rfl) (by kernel_rfl) ?_
            refine tnU ?_
            refine WpC.seq ?_
            refine rS {} [4] [1007, 100000] hN (by kernel_rfl) (by kernel_rfl) ?_
            refine tnU ?_
            refine WpC.conv (cS [.fu 100000 0, .k [4] [100000]] (by kernel_rfl) (by kernel_rfl)) (WpC.ret ?_)
            have hq := Option.some.inj h
            subst hq
            exact eR (by kernel_rfl) (by kernel_rfl)

theorem millwrightlaw17_Vars.ok (O : Out) (hO : GOk O) (k : Nat) (a0 : List T_env_Var) (out : Bool × (List ((List UInt8) × T_env_Var)) × Bool × (List T_env_Var) × Bool) (h : millwrightlaw17_Vars.f k a0 = some out) : COk Un O Tryz.prog 8 { ar := [.p (.list (.named 3)) a0], r := .tup [.opt out.1 60500, .opt out.2.2.1 60502, .p .bool out.2.2.2.2], bs' := [(60500, .opt out.1 (.box [.mp 60501])), (60501, .opt out.1 (.map (.named 3) out.2.1)), (60502, .opt out.2.2.1 (.box [.p (.list (.named 3)) out.2.2.2.1]))], nn := [60500, 60501, 60502] } := by
  refine cok_of_wp Tryz.func8 rfl (k := 49) rfl (Nat.le_of_ble_eq_true rfl) (namesOk_of (by kernel_rfl)) ?_
  intro B hN
  refine WpC.conv (cvK (b := ⟨[(0, .p (.list (.named 3)) a0)], []⟩) [0] [] (by kernel_rfl)) ?_
  unfold millwrightlaw17_Vars.f at h
  refine WpC.seq ?_
  refine rS {} [0] [] hN (by kernel_rfl) (by kernel_rfl) ?_
  refine tnU ?_
  refine WpC.seq ?_
  obtain ⟨v1, hv1, h⟩ := bind_some h
  refine rS { its := [(0, .c (COk.ren (env_New.ok O hO k v1 hv1) (fun n => if n = 60500 then 10001 else if n = 60501 then 10002 else n) (injOn_of (by kernel_rfl))))] } [0, 5, 6] [14, 10001, 10002] hN (by kernel_rfl) (by kernel_rfl) ?_
  refine tnU ?_
  refine WpC.seq ?_
  refine rSC {} [0, 5, 6, 7] [14, 15, 10001, 10002] hN (by kernel_rfl) (by kernel_rfl) (cS [.k [0, 5, 6, 7] [14, 15, 10001, 10002], .x (Conv.cast (U := Un) (st := ⟨[(0, .p (.list (.named 3)) a0), (5, .loc 10001 0), (6, .loc 14 0), (7, .vec 15 5 0 (([] : List T_millwrightlaw14_Act).length))], [(14, .box [.p (.list (.named 3)) ([] : List T_env_Var)]), (15, .row 76 (.named 7) ([] : List T_millwrightlaw14_Act) true), (10001, .box [.mp 10002]), (10002, .map (.named 3) v1)]⟩) (st' := ⟨[(0, .p (.list (.named 3)) a0), (5, .loc 10001 0), (6, .loc 14 0), (7, .vec 15 5 0 0)], [(14, .box [.p (.list (.named 3)) ([] : List T_env_Var)]), (15, .row 76 (.named 7) ([] : List T_millwrightlaw14_Act) true), (10001, .box [.mp 10002]), (10002, .map (.named 3) v1)]⟩) (by simp only [upd_length, List.length_nil, List.length_replicate]))] (by kernel_rfl) (by kernel_rfl)) ?_
  refine tnU ?_
  refine sqJ (fun st' => ∃ v2 : List T_millwrightlaw14_Act, millwrightlaw17_Vars.j24 k a0 v1 v2 = some out ∧ st' = ⟨[(0, .p (.list (.named 3)) a0), (5, .loc 10001 0), (6, .loc 14 0), (7, .vec 1007 5 0 v2.length)], [(14, .box [.p (.list (.named 3)) ([] : List T_env_Var)]), (1007, .row 76 (.named 7) v2 false), (10001, .box [.mp 10002]), (10002, .map (.named 3) v1)]⟩) ?_ ?_
  · refine WpC.seq ?_
    refine rS {} [0, 5, 6, 7, 16, 17, 18] [14, 15, 10001, 10002] hN (by kernel_rfl) (by kernel_rfl) ?_
    refine tnU ?_
    refine WpC.block ?_
    obtain ⟨o29, hlo29, h⟩ := bind_some h
    have hout30 := h
    clear h
    refine WpC.conv (cS [.lo 15, .k [0, 5, 6, 7, 16, 17, 18] [14, 15, 10001, 10002], .rn 15 1007, .k [0, 5, 6, 7, 16, 17, 18] [14, 1007, 10001, 10002]] (by kernel_rfl) (by kernel_rfl)) ?_
    refine WpC.loop (U := Un) (fun n st' => ∃ v25 : List T_millwrightlaw14_Act, ∃ v26 : Int, millwrightlaw17_Vars.l27 k a0 v1 n v25 v26 = some o29 ∧ st' = ⟨[(0, .p (.list (.named 3)) a0), (5, .loc 10001 0), (6, .loc 14 0), (7, .vec 1007 5 0 v25.length), (16, .p (.list (.named 3)) a0), (17, .p I6 ((a0.length : Int) : Int)), (18, .p I6 v26)], [(14, .box [.p (.list (.named 3)) ([] : List T_env_Var)]), (1007, .row 76 (.named 7) v25 false), (10001, .box [.mp 10002]), (10002, .map (.named 3) v1)]⟩) k ⟨([] : List T_millwrightlaw14_Act), 0, hlo29, by kernel_rfl⟩ ?_
    clear hlo29
    rintro (_ | n) _ ⟨v25, v26, h, rfl⟩
    · cases h
    · rw [millwrightlaw17_Vars.l27] at h
      refine WpC.seq ?_
      refine rS {} [0, 5, 6, 7, 16, 17, 18, 19] [14, 1007, 10001, 10002] hN (by kernel_rfl) (by kernel_rfl) ?_
      refine tnU ?_
      refine WpC.seq ?_
      refine tS (b := (decide (v26 < (a0.length : Int)))) (by kernel_rfl) (fun hc31 => ?_) (fun hc31 => ?_)
      · replace h := ite_t hc31 h
        refine WpC.conv (cS [.k [0, 5, 6, 7, 16, 17, 18] [14, 1007, 10001, 10002]] (by kernel_rfl) (by kernel_rfl)) (WpC.skip ?_)
        refine tnU ?_
        refine WpC.seq ?_
        refine WpC.block ?_
        refine WpC.seq ?_
        obtain ⟨v32, hv32, h⟩ := bind_some h
        refine rS { its := [(0, .v (.named 3) hv32)] } [0, 5, 6, 7, 9, 16, 17, 18] [9, 14, 1007, 10001, 10002] hN (by kernel_rfl) (by kernel_rfl) ?_
        refine tnU ?_
        obtain ⟨g33, h⟩ := if_some h
        refine rS { its := [(4, .e 4 (sok_appendW' (U := Un) (t := .named 7) (rs := [(22, .vec 1007 5 0 v25.length), (25, .vec 25 5 0 ([(T_millwrightlaw14_Act.mk 0 (T_env_Var.mk v32.f_Name v32.f_Words v32.f_Level v32.f_Hidden))].length))]) (vw := [(25, .row 76 (.named 7) [(T_millwrightlaw14_Act.mk 0 (T_env_Var.mk v32.f_Name v32.f_Words v32.f_Level v32.f_Hidden))] true)]) (xs := v25) (ys := [(T_millwrightlaw14_Act.mk 0 (T_env_Var.mk v32.f_Name v32.f_Words v32.f_Level v32.f_Hidden))]) (fx := false) rfl rfl rfl row_74 (by decide) o0 o1 (.whole (.head _)) (by simp) g33))] } [0, 5, 6, 7, 16, 17, 18] [14, 26, 10001, 10002] hN (by kernel_rfl) (by kernel_rfl) ?_
        refine blockQ_normal ?_
        refine tnU ?_
        refine rSC {} [0, 5, 6, 7, 16, 17, 18] [14, 26, 10001, 10002] hN (by kernel_rfl) (by kernel_rfl) (cS [.rn 26 1007, .k [0, 5, 6, 7, 16, 17, 18] [14, 1007, 10001, 10002]] (by kernel_rfl) (by kernel_rfl)) ?_
        refine tnU ?_
        exact ⟨n, Nat.lt_succ_self n, (v25 ++ [(T_millwrightlaw14_Act.mk 0 (T_env_Var.mk v32.f_Name v32.f_Words v32.f_Level v32.f_Hidden))]), (IntKind.i64.wrap (v26 + 1)), h, by kernel_rfl⟩
      · replace h := ite_f hc31 h
        refine WpC.conv (cS [.k [0, 5, 6, 7] [14, 1007, 10001, 10002]] (by kernel_rfl) (by kernel_rfl)) (WpC.exit ?_)
        refine thenQ_exit ?_
        have hq := Option.some.inj h
        subst hq
        refine thenQ_exit ?_
        have h := hout30
        refine blockQ_hit ?_
        refine tnU ?_
        exact ⟨v25, h, by kernel_rfl⟩
  · rintro _ ⟨v2, h, rfl⟩
    unfold millwrightlaw17_Vars.j24 at h
    refine sqJ (fun st' => millwrightlaw17_Vars.j19 k a0 v1 = some out ∧ st' = ⟨[(0, .p (.list (.named 3)) a0), (5, .loc 10001 0), (6, .loc 14 0)], [(14, .box [.p (.list (.named 3)) ([] : List T_env_Var)]), (10001, .box [.mp 10002]), (10002, .map (.named 3) v1)]⟩) ?_ ?_
    · refine sqJ (fun st' => ∃ v20 : Bool, millwrightlaw17_Vars.j22 k a0 v1 v20 = some out ∧ st' = ⟨[(0, .p (.list (.named 3)) a0), (5, .loc 10001 0), (6, .loc 14 0), (33, .p .bool v20)], [(14, .box [.p (.list (.named 3)) ([] : List T_env_Var)]), (10001, .box [.mp 10002]), (10002, .map (.named 3) v1)]⟩) ?_ ?_
      · obtain ⟨v23, hv23, h⟩ := bind_some h
        refine rS { its := [(4, .c (millwrightlaw14_Long.ok O hO k v2 30 v23 hv23))] } [0, 5, 6, 33] [14, 10001, 10002] hN (by kernel_rfl) (by kernel_rfl) ?_
        refine tnU ?_
        exact ⟨v23, h, by kernel_rfl⟩
      · rintro _ ⟨v20, h, rfl⟩
        unfold millwrightlaw17_Vars.j22 at h
        refine tS (b := v20) (by kernel_rfl) (fun hc21 => ?_) (fun hc21 => ?_)
        · replace h := ite_t hc21 h
          refine WpC.seq ?_
          refine rS {} [2, 3, 4] [] hN (by kernel_rfl) (by kernel_rfl) ?_
          refine tnU ?_
          refine WpC.conv (cS [.oN 60501 (.map (.named 3) ([] : List ((List UInt8) × T_env_Var))), .k [2, 3, 4] [60501], .oN 60500 (.box [.mp 60501]), .k [2, 3, 4] [60500, 60501], .oZ 2 60500, .k [2, 3, 4] [60500, 60501], .oN 60502 (.box [.p (.list (.named 3)) ([] : List T_env_Var)]), .k [2, 3, 4] [60500, 60501, 60502], .oZ 3 60502, .k [2, 3, 4] [60500, 60501, 60502]] (by kernel_rfl) (by kernel_rfl)) (WpC.ret ?_)
          refine thenQ_ret ?_
          have hq := Option.some.inj h
          subst hq
          exact eR (by kernel_rfl) (by kernel_rfl)
        · replace h := ite_f hc21 h
          refine WpC.conv (cS [.k [0, 5, 6] [14, 10001, 10002]] (by kernel_rfl) (by kernel_rfl)) (WpC.skip ?_)
          refine tnU ?_
          exact ⟨h, by kernel_rfl⟩
    · rintro _ ⟨h, rfl⟩
      unfold millwrightlaw17_Vars.j19 at h
      refine sqJ (fun st' => ∃ v3 : List ((List UInt8) × T_env_Var), ∃ v4 : List T_env_Var, millwrightlaw17_Vars.j5 k v3 v4 = some out ∧ st' = ⟨[(5, .loc 10001 0), (6, .loc 14 0)], [(14, .box [.p (.list (.named 3)) v4]), (10001, .box [.mp 10002]), (10002, .map (.named 3) v3)]⟩) ?_ ?_
      · refine WpC.seq ?_
        refine rS {} [5, 6, 34, 35, 36] [14, 10001, 10002] hN (by kernel_rfl) (by kernel_rfl) ?_
        refine tnU ?_
        refine WpC.block ?_
        obtain ⟨o12, hlo12, h⟩ := bind_some h
        have hout13 := h
        clear h
        refine WpC.loop (U := Un) (fun n st' => ∃ v6 : List ((List UInt8) × T_env_Var), ∃ v7 : List T_env_Var, ∃ v8 : Int, millwrightlaw17_Vars.l9 k a0 n v6 v7 v8 = some o12 ∧ st' = ⟨[(5, .loc 10001 0), (6, .loc 14 0), (34, .p (.list (.named 3)) a0), (35, .p I6 ((a0.length : Int) : Int)), (36, .p I6 v8)], [(14, .box [.p (.list (.named 3)) v7]), (10001, .box [.mp 10002]), (10002, .map (.named 3) v6)]⟩) k ⟨v1, [], 0, hlo12, by kernel_rfl⟩ ?_
        clear hlo12
        rintro (_ | n) _ ⟨v6, v7, v8, h, rfl⟩
        · cases h
        · rw [millwrightlaw17_Vars.l9] at h
          refine WpC.seq ?_
          refine rS {} [5, 6, 34, 35, 36, 37] [14, 10001, 10002] hN (by kernel_rfl) (by kernel_rfl) ?_
          refine tnU ?_
          refine WpC.seq ?_
          refine tS (b := (decide (v8 < (a0.length : Int)))) (by kernel_rfl) (fun hc14 => ?_) (fun hc14 => ?_)
          · replace h := ite_t hc14 h
            refine WpC.conv (cS [.k [5, 6, 34, 35, 36] [14, 10001, 10002]] (by kernel_rfl) (by kernel_rfl)) (WpC.skip ?_)
            refine tnU ?_
            refine WpC.seq ?_
            refine WpC.block ?_
            refine WpC.seq ?_
            obtain ⟨v15, hv15, h⟩ := bind_some h
            refine rS { its := [(0, .v (.named 3) hv15)] } [5, 6, 11, 34, 35, 36] [11, 14, 10001, 10002] hN (by kernel_rfl) (by kernel_rfl) ?_
            refine tnU ?_
            refine WpC.seq ?_
            obtain ⟨v16, hv16, h⟩ := bind_some h
            refine rS { its := [(2, .c (COk.ren (env_Env_Set_m0.ok O hO k v6 (T_env_Var.mk v15.f_Name v15.f_Words v15.f_Level v15.f_Hidden) v16 hv16) (fun n => if n = 100000 then 10001 else if n = 100001 then 10002 else n) (injOn_of (by kernel_rfl))))] } [5, 6, 11, 34, 35, 36] [11, 14, 10001, 10002] hN (by kernel_rfl) (by kernel_rfl) ?_
            refine tnU ?_
            obtain ⟨v17, hv17, h⟩ := bind_some h
            refine rS { its := [(2, .c (COk.ren (millwrightref14_Env_Set_m0.ok O hO k v7 (T_env_Var.mk v15.f_Name v15.f_Words v15.f_Level v15.f_Hidden) v17 hv17) (fun n => if n = 100000 then 14 else n) (injOn_of (by kernel_rfl))))] } [5, 6, 34, 35, 36] [14, 10001, 10002] hN (by kernel_rfl) (by kernel_rfl) ?_
            refine blockQ_normal ?_
            refine tnU ?_
            refine rS {} [5, 6, 34, 35, 36] [14, 10001, 10002] hN (by kernel_rfl) (by kernel_rfl) ?_
            refine tnU ?_
            exact ⟨n, Nat.lt_succ_self n, v16.2, v17.2, (IntKind.i64.wrap (v8 + 1)), h, by kernel_rfl⟩
          · replace h := ite_f hc14 h
            refine WpC.conv (cS [.k [5, 6] [14, 10001, 10002]] (by kernel_rfl) (by kernel_rfl)) (WpC.exit ?_)
            refine thenQ_exit ?_
            have hq := Option.some.inj h
            subst hq
            refine thenQ_exit ?_
            have h := hout13
            refine blockQ_hit ?_
            refine tnU ?_
            exact ⟨v6, v7, h, by kernel_rfl⟩
      · rintro _ ⟨v3, v4, h, rfl⟩
        unfold millwrightlaw17_Vars.j5 at h
        refine WpC.seq ?_
        refine rS {} [2, 3, 4] [14, 10001, 10002] hN (by kernel_rfl) (by kernel_rfl) ?_
        refine tnU ?_
        refine WpC.conv (cS [.rn 10002 60501, .k [2, 3, 4] [14, 10001, 60501], .rn 10001 60500, .k [2, 3, 4] [14, 60500, 60501], .oB 60500, .k [2, 3, 4] [14, 60500, 60501], .oB 60501, .k [2, 3, 4] [14, 60500, 60501], .oL 2, .k [2, 3, 4] [14, 60500, 60501], .rn 14 60502, .k [2, 3, 4] [60500, 60501, 60502], .oB 60502, .k [2, 3, 4] [60500, 60501, 60502], .oL 3, .k [2, 3, 4] [60500, 60501, 60502]] (by kernel_rfl) (by kernel_rfl)) (WpC.ret ?_)
        have hq := Option.some.inj h
        subst hq
        exact eR (by kernel_rfl) (by kernel_rfl)

theorem millwrightlaw17_Outputs.ok (O : Out) (hO : GOk O) (k : Nat) (a0 : List T_expand_Output) (out : List T_expand_Output) (h : millwrightlaw17_Outputs.f k a0 = some out) : COk Un O Tryz.prog 11 { ar := [.p (.list (.named 4)) a0], r := .p (.list (.named 4)) out } := by
  refine cok_of_wp Tryz.func11 rfl (k := 19) rfl (Nat.le_of_ble_eq_true rfl) (namesOk_pure rfl rfl rfl rfl) ?_
  intro B hN
  refine WpC.conv (cvK (b := ⟨[(0, .p (.list (.named 4)) a0)], []⟩) [0] [] (by kernel_rfl)) ?_
  unfold millwrightlaw17_Outputs.f at h
  refine WpC.seq ?_
  refine rS {} [0] [] hN (by kernel_rfl) (by kernel_rfl) ?_
  refine tnU ?_
  refine WpC.seq ?_
  refine rSC {} [0, 3] [6] hN (by kernel_rfl) (by kernel_rfl) (cS [.k [0, 3] [6], .x (Conv.cast (U := Un) (st := ⟨[(0, .p (.list (.named 4)) a0), (3, .vec 6 2 0 (([] : List T_expand_Output).length))], [(6, .row 84 (.named 4) ([] : List T_expand_Output) true)]⟩) (st' := ⟨[(0, .p (.list (.named 4)) a0), (3, .vec 6 2 0 0)], [(6, .row 84 (.named 4) ([] : List T_expand_Output) true)]⟩) (by simp only [upd_length, List.length_nil, List.length_replicate]))] (by kernel_rfl) (by kernel_rfl)) ?_
  refine tnU ?_
  refine sqJ (fun st' => ∃ v1 : List T_expand_Output, millwrightlaw17_Outputs.j2 k v1 = some out ∧ st' = ⟨[(3, .vec 1003 2 0 v1.length)], [(1003, .row 84 (.named 4) v1 false)]⟩) ?_ ?_
  · refine WpC.seq ?_
    refine rS {} [3, 7, 8, 9] [6] hN (by kernel_rfl) (by kernel_rfl) ?_
    refine tnU ?_
    refine WpC.block ?_
    obtain ⟨o7, hlo7, h⟩ := bind_some h
    have hout8 := h
    clear h
    refine WpC.conv (cS [.lo 6, .k [3, 7, 8, 9] [6], .rn 6 1003, .k [3, 7, 8, 9] [1003]] (by kernel_rfl) (by kernel_rfl)) ?_
    refine WpC.loop (U := Un) (fun n st' => ∃ v3 : List T_expand_Output, ∃ v4 : Int, millwrightlaw17_Outputs.l5 k a0 n v3 v4 = some o7 ∧ st' = ⟨[(3, .vec 1003 2 0 v3.length), (7, .p (.list (.named 4)) a0), (8, .p I6 ((a0.length : Int) : Int)), (9, .p I6 v4)], [(1003, .row 84 (.named 4) v3 false)]⟩) k ⟨([] : List T_expand_Output), 0, hlo7, by kernel_rfl⟩ ?_
    clear hlo7
    rintro (_ | n) _ ⟨v3, v4, h, rfl⟩
    · cases h
    · rw [millwrightlaw17_Outputs.l5] at h
      refine WpC.seq ?_
      refine rS {} [3, 7, 8, 9, 10] [1003] hN (by kernel_rfl) (by kernel_rfl) ?_
      refine tnU ?_
      refine WpC.seq ?_
      refine tS (b := (decide (v4 < (a0.length : Int)))) (by kernel_rfl) (fun hc9 => ?_) (fun hc9 => ?_)
      · replace h := ite_t hc9 h
        refine WpC.conv (cS [.k [3, 7, 8, 9] [1003]] (by kernel_rfl) (by kernel_rfl)) (WpC.skip ?_)
        refine tnU ?_
        refine WpC.seq ?_
        refine WpC.block ?_
        refine WpC.seq ?_
        obtain ⟨v10, hv10, h⟩ := bind_some h
        refine rS { its := [(0, .v (.named 4) hv10)] } [3, 5, 7, 8, 9] [5, 1003] hN (by kernel_rfl) (by kernel_rfl) ?_
        refine tnU ?_
        obtain ⟨g11, h⟩ := if_some h
        refine rS { its := [(3, .g g11)] } [3, 7, 8, 9] [16] hN (by kernel_rfl) (by kernel_rfl) ?_
        refine blockQ_normal ?_
        refine tnU ?_
        refine rSC {} [3, 7, 8, 9] [16] hN (by kernel_rfl) (by kernel_rfl) (cS [.rn 16 1003, .k [3, 7, 8, 9] [1003]] (by kernel_rfl) (by kernel_rfl)) ?_
        refine tnU ?_
        exact ⟨n, Nat.lt_succ_self n, (v3 ++ [(T_expand_Output.mk v10.f_Command v10.f_Text)]), (IntKind.i64.wrap (v4 + 1)), h, by kernel_rfl⟩
      · replace h := ite_f hc9 h
        refine WpC.conv (cS [.k [3] [1003]] (by kernel_rfl) (by kernel_rfl)) (WpC.exit ?_)
        refine thenQ_exit ?_
        have hq := Option.some.inj h
        subst hq
        refine thenQ_exit ?_
        have h := hout8
        refine blockQ_hit ?_
        refine tnU ?_
        exact ⟨v3, h, by kernel_rfl⟩
  · rintro _ ⟨v1, h, rfl⟩
    unfold millwrightlaw17_Outputs.j2 at h
    refine WpC.seq ?_
    refine rS {} [2] [1003] hN (by kernel_rfl) (by kernel_rfl) ?_
    refine tnU ?_
    refine WpC.conv (cS [.fz 2, .k [2] []] (by kernel_rfl) (by kernel_rfl)) (WpC.ret ?_)
    have hq := Option.some.inj h
    subst hq
    exact eR (by kernel_rfl) (by kernel_rfl)

theorem millwrightref14_Env_Get_m0.ok (O : Out) (hO : GOk O) (k : Nat) (a0 : List T_env_Var) (a1 : List UInt8) (out : List (List UInt8)) (h : millwrightref14_Env_Get_m0.f k a0 a1 = some out) : COk Un O Tryz.prog 68 { ar := [.loc 100000 0, .p .str a1], r := .p (.list .str) out, bs := [(100000, .box [.p (.list (.named 3)) a0])], bs' := [(100000, .box [.p (.list (.named 3)) a0])] } := by
  refine cok_of_wp Tryz.func68 rfl (k := 19) rfl (Nat.le_of_ble_eq_true rfl) (namesOk_of (by kernel_rfl)) ?_
  intro B hN
  refine WpC.conv (cvK (b := ⟨[(0, .loc 100000 0), (1, .p .str a1)], [(100000, .box [.p (.list (.named 3)) a0])]⟩) [0, 1] [100000] (by kernel_rfl)) ?_
  unfold millwrightref14_Env_Get_m0.f at h
  refine WpC.seq ?_
  refine rS {} [0, 1] [100000] hN (by kernel_rfl) (by kernel_rfl) ?_
  refine tnU ?_
  refine WpC.seq ?_
  obtain ⟨v1, hv1, h⟩ := bind_some h
  refine rS { its := [(2, .c (COk.ren (millwrightref14_Env_At_m0.ok O hO k a0 a1 v1 hv1) (fun n => if n = 100000 then 100000 else n) (injOn_of (by kernel_rfl))))] } [0, 5] [100000] hN (by kernel_rfl) (by kernel_rfl) ?_
  refine tnU ?_
  refine WpC.seq ?_
  refine WpC.seq ?_
  refine rS {} [0, 5, 10] [100000] hN (by kernel_rfl) (by kernel_rfl) ?_
  refine tnU ?_
  refine tS (b := (decide (v1 < 0))) (by kernel_rfl) (fun hc2 => ?_) (fun hc2 => ?_)
  · replace h := ite_t hc2 h
    refine WpC.seq ?_
    refine rS {} [4] [100000] hN (by kernel_rfl) (by kernel_rfl) ?_
    refine tnU ?_
    refine WpC.conv (cS [.nL 4 .str, .k [4] [100000]] (by kernel_rfl) (by kernel_rfl)) (WpC.ret ?_)
    refine thenQ_ret ?_
    have hq := Option.some.inj h
    subst hq
    exact eR (by kernel_rfl) (by kernel_rfl)
  · replace h := ite_f hc2 h
    refine WpC.conv (cS [.k [0, 5] [100000]] (by kernel_rfl) (by kernel_rfl)) (WpC.skip ?_)
    refine tnU ?_
    refine WpC.seq ?_
    obtain ⟨v3, hv3, h⟩ := bind_some h
    refine rS { its := [(5, .v (.named 3) hv3)] } [4] [100000] hN (by kernel_rfl) (by kernel_rfl) ?_
    refine tnU ?_
    refine WpC.ret ?_
    have hq := Option.some.inj h
    subst hq
    exact eR (by kernel_rfl) (by kernel_rfl)

theorem millwrightref15_Wild.ok (O : Out) (hO : GOk O) (k : Nat) (a0 : List UInt8) (out : Int) (h : millwrightref15_Wild.f k a0 = some out) : COk Un O Tryz.prog 147 { ar := [.p .str a0], r := .p I6 out } := by
  refine cok_of_wp Tryz.func147 rfl (k := 24) rfl (Nat.le_of_ble_eq_true rfl) (namesOk_pure rfl rfl rfl rfl) ?_
  intro B hN
  refine WpC.conv (cvK (b := ⟨[(0, .p .str a0)], []⟩) [0] [] (by kernel_rfl)) ?_
  unfold millwrightref15_Wild.f at h
  refine WpC.seq ?_
  refine rS {} [0] [] hN (by kernel_rfl) (by kernel_rfl) ?_
  refine tnU ?_
  refine WpC.seq ?_
  refine rS {} [0, 3] [] hN (by kernel_rfl) (by kernel_rfl) ?_
  refine tnU ?_
  refine sqJ (fun st' => ∃ v1 : Int, millwrightref15_Wild.j2 k v1 = some out ∧ st' = ⟨[(3, .p I6 v1)], []⟩) ?_ ?_
  · refine WpC.seq ?_
    refine rS {} [0, 3, 4] [] hN (by kernel_rfl) (by kernel_rfl) ?_
    refine tnU ?_
    refine WpC.block ?_
    obtain ⟨o7, hlo7, h⟩ := bind_some h
    have hout8 := h
    clear h
    refine WpC.loop (U := Un) (fun n st' => ∃ v3 : Int, ∃ v4 : Int, millwrightref15_Wild.l5 k a0 n v3 v4 = some o7 ∧ st' = ⟨[(0, .p .str a0), (3, .p I6 v3), (4, .p I6 v4)], []⟩) k ⟨(-1), (IntKind.i64.wrap ((a0.length : Int) - 1)), hlo7, by kernel_rfl⟩ ?_
    clear hlo7
    rintro (_ | n) _ ⟨v3, v4, h, rfl⟩
    · cases h
    · rw [millwrightref15_Wild.l5] at h
      refine WpC.seq ?_
      refine WpC.seq ?_
      refine rS {} [0, 3, 4, 9] [] hN (by kernel_rfl) (by kernel_rfl) ?_
      refine tnU ?_
      refine tS (b := (decide (v4 ≥ 0))) (by kernel_rfl) (fun hc9 => ?_) (fun hc9 => ?_)
      · replace h := ite_t hc9 h
        refine WpC.conv (cS [.k [0, 3, 4] []] (by kernel_rfl) (by kernel_rfl)) (WpC.skip ?_)
        refine tnU ?_
        refine sqJ (fun st' => ∃ v10 : Int, millwrightref15_Wild.j11 k (millwrightref15_Wild.l5 k a0 n) a0 v4 v10 = some o7 ∧ st' = ⟨[(0, .p .str a0), (3, .p I6 v10), (4, .p I6 v4)], []⟩) ?_ ?_
        · refine WpC.block ?_
          refine sqJ (fun st' => ∃ v12 : Bool, millwrightref15_Wild.j14 k (millwrightref15_Wild.l5 k a0 n) a0 v3 v4 v12 = some o7 ∧ st' = ⟨[(0, .p .str a0), (3, .p I6 v3), (4, .p I6 v4), (21, .p .bool v12)], []⟩) ?_ ?_
          · obtain ⟨v15, hv15, h⟩ := bind_some h
            rcases bool_cases ((v15.toNat : Int) == 37) with hc16 | hc16
            · replace h := ite_t hc16 h
              refine rS { its := [(2, .u hv15)], kn := [(16, .t hc16)] } [0, 3, 4, 21] [] hN (by kernel_rfl) (by kernel_rfl) ?_
              refine tnU ?_
              exact ⟨true, h, by kernel_rfl⟩
            · replace h := ite_f hc16 h
              obtain ⟨v17, hv17, h⟩ := bind_some h
              refine rS { its := [(2, .u hv15), (7, .u hv17)], kn := [(16, .f hc16)] } [0, 3, 4, 21] [] hN (by kernel_rfl) (by kernel_rfl) ?_
              refine tnU ?_
              exact ⟨((v17.toNat : Int) == 38), h, by kernel_rfl⟩
          · rintro _ ⟨v12, h, rfl⟩
            unfold millwrightref15_Wild.j14 at h
            refine tS (b := v12) (by kernel_rfl) (fun hc13 => ?_) (fun hc13 => ?_)
            · replace h := ite_t hc13 h
              refine rS {} [0, 3, 4] [] hN (by kernel_rfl) (by kernel_rfl) ?_
              refine blockQ_normal ?_
              refine tnU ?_
              exact ⟨v4, h, by kernel_rfl⟩
            · replace h := ite_f hc13 h
              refine WpC.conv (cS [.k [0, 3, 4] []] (by kernel_rfl) (by kernel_rfl)) (WpC.skip ?_)
              refine blockQ_normal ?_
              refine tnU ?_
              exact ⟨v3, h, by kernel_rfl⟩
        · rintro _ ⟨v10, h, rfl⟩
          unfold millwrightref15_Wild.j11 at h
          refine rS {} [0, 3, 4] [] hN (by kernel_rfl) (by kernel_rfl) ?_
          refine tnU ?_
          exact ⟨n, Nat.lt_succ_self n, v10, (IntKind.i64.wrap (v4 - 1)), h, by kernel_rfl⟩
      · replace h := ite_f hc9 h
        refine WpC.conv (cS [.k [3] []] (by kernel_rfl) (by kernel_rfl)) (WpC.exit ?_)
        refine thenQ_exit ?_
        have hq := Option.some.inj h
        subst hq
        refine thenQ_exit ?_
        have h := hout8
        refine blockQ_hit ?_
        refine tnU ?_
        exact ⟨v3, h, by kernel_rfl⟩
  · rintro _ ⟨v1, h, rfl⟩
    unfold millwrightref15_Wild.j2 at h
    refine WpC.seq ?_
    refine rS {} [2] [] hN (by kernel_rfl) (by kernel_rfl) ?_
    refine tnU ?_
    refine WpC.ret ?_
    have hq := Option.some.inj h
    subst hq
    exact eR (by kernel_rfl) (by kernel_rfl)

theorem millwrightref15_Match.ok (O : Out) (hO : GOk O) (k : Nat) (a0 : List UInt8) (a1 : List UInt8) (out : (List UInt8) × Bool) (h : millwrightref15_Match.f k a0 a1 = some out) : COk Un O Tryz.prog 132 { ar := [.p .str a0, .p .str a1], r := .tup [.p .str out.1, .p .bool out.2] } := by
  refine cok_of_wp Tryz.func132 rfl (k := 80) rfl (Nat.le_of_ble_eq_true rfl) (namesOk_pure rfl rfl rfl rfl) ?_
  intro B hN
  refine WpC.conv (cvK (b := ⟨[(0, .p .str a0), (1, .p .str a1)], []⟩) [0, 1] [] (by kernel_rfl)) ?_
  unfold millwrightref15_Match.f at h
  refine WpC.seq ?_
  refine rS {} [0, 1] [] hN (by kernel_rfl) (by kernel_rfl) ?_
  refine tnU ?_
  refine WpC.seq ?_
  obtain ⟨v1, hv1, h⟩ := bind_some h
  refine rS { its := [(1, .c (millwrightref15_Wild.ok O hO k a0 v1 hv1))] } [0, 1, 6] [] hN (by kernel_rfl) (by kernel_rfl) ?_
  refine tnU ?_
  refine WpC.seq ?_
  refine WpC.seq ?_
  refine rS {} [0, 1, 6, 13] [] hN (by kernel_rfl) (by kernel_rfl) ?_
  refine tnU ?_
  refine tS (b := (decide (v1 < 0))) (by kernel_rfl) (fun hc2 => ?_) (fun hc2 => ?_)
  · replace h := ite_t hc2 h
    refine WpC.seq ?_
    refine rS {} [4, 5] [] hN (by kernel_rfl) (by kernel_rfl) ?_
    refine tnU ?_
    refine WpC.ret ?_
    refine thenQ_ret ?_
    have hq := Option.some.inj h
    subst hq
    exact eR (by kernel_rfl) (by kernel_rfl)
  · replace h := ite_f hc2 h
    refine WpC.conv (cS [.k [0, 1, 6] []] (by kernel_rfl) (by kernel_rfl)) (WpC.skip ?_)
    refine tnU ?_
    refine WpC.seq ?_
    refine rS {} [0, 1, 6, 7] [] hN (by kernel_rfl) (by kernel_rfl) ?_
    refine tnU ?_
    refine sqJ (fun st' => millwrightref15_Match.j21 k a0 a1 v1 = some out ∧ st' = ⟨[(0, .p .str a0), (1, .p .str a1), (6, .p I6 v1), (7, .p I6 ((IntKind.i64.wrap ((IntKind.i64.wrap ((a0.length : Int) - v1)) - 1)) : Int))], []⟩) ?_ ?_
    · refine sqJ (fun st' => ∃ v22 : Bool, millwrightref15_Match.j24 k a0 a1 v1 v22 = some out ∧ st' = ⟨[(0, .p .str a0), (1, .p .str a1), (6, .p I6 v1), (7, .p I6 ((IntKind.i64.wrap ((IntKind.i64.wrap ((a0.length : Int) - v1)) - 1)) : Int)), (49, .p .bool v22)], []⟩) ?_ ?_
      · rcases bool_cases (decide ((a1.length : Int) < (IntKind.i64.wrap (v1 + (IntKind.i64.wrap ((IntKind.i64.wrap ((a0.length : Int) - v1)) - 1)))))) with hc25 | hc25
        · replace h := ite_t hc25 h
          refine rA { kn := [(28, .t hc25)] } [0, 1, 6, 7, 49] [] hN (by kernel_rfl) (by kernel_rfl) (by kernel_rfl) ?_
          refine tnU ?_
          exact ⟨true, h, by kernel_rfl⟩
        · replace h := ite_f hc25 h
          obtain ⟨v26, hv26, h⟩ := bind_some h
          obtain ⟨v27, hv27, h⟩ := bind_some h
          rcases bool_cases (!(v26 == v27)) with hc28 | hc28
          · replace h := ite_t hc28 h
            refine rA { its := [(9, .v .str hv26), (12, .v .str hv27)], kn := [(28, .f hc25), (37, .t hc28)] } [0, 1, 6, 7, 49] [] hN (by kernel_rfl) (by kernel_rfl) (by kernel_rfl) ?_
            refine tnU ?_
            exact ⟨true, h, by kernel_rfl⟩
          · replace h := ite_f hc28 h
            obtain ⟨v29, hv29, h⟩ := bind_some h
            obtain ⟨v30, hv30, h⟩ := bind_some h
            refine rA { its := [(9, .v .str hv26), (12, .v .str hv27), (21, .v .str hv29), (25, .v .str hv30)], kn := [(28, .f hc25), (37, .f hc28)] } [0, 1, 6, 7, 49] [] hN (by kernel_rfl) (by kernel_rfl) (by kernel_rfl) ?_
            refine tnU ?_
            exact ⟨(!(v29 == v30)), h, by kernel_rfl⟩
      · rintro _ ⟨v22, h, rfl⟩
        unfold millwrightref15_Match.j24 at h
        refine tS (b := v22) (by kernel_rfl) (fun hc23 => ?_) (fun hc23 => ?_)
        · replace h := ite_t hc23 h
          refine WpC.seq ?_
          refine rS {} [4, 5] [] hN (by kernel_rfl) (by kernel_rfl) ?_
          refine tnU ?_
          refine WpC.ret ?_
          refine thenQ_ret ?_
          have hq := Option.some.inj h
          subst hq
          exact eR (by kernel_rfl) (by kernel_rfl)
        · replace h := ite_f hc23 h
          refine WpC.conv (cS [.k [0, 1, 6, 7] []] (by kernel_rfl) (by kernel_rfl)) (WpC.skip ?_)
          refine tnU ?_
          exact ⟨h, by kernel_rfl⟩
    · rintro _ ⟨h, rfl⟩
      unfold millwrightref15_Match.j21 at h
      refine WpC.seq ?_
      obtain ⟨v3, hv3, h⟩ := bind_some h
      refine rS { its := [(6, .v .str hv3)] } [0, 6, 8] [] hN (by kernel_rfl) (by kernel_rfl) ?_
      refine tnU ?_
      refine sqJ (fun st' => millwrightref15_Match.j4 k v3 = some out ∧ st' = ⟨[(8, .p .str v3)], []⟩) ?_ ?_
      · refine WpC.seq ?_
        refine rS {} [0, 6, 8, 9] [] hN (by kernel_rfl) (by kernel_rfl) ?_
        refine tnU ?_
        refine WpC.block ?_
        obtain ⟨o7, hlo7, h⟩ := bind_some h
        have hout8 := h
        clear h
        refine WpC.loop (U := Un) (fun n st' => ∃ v5 : Int, millwrightref15_Match.l6 k a0 v1 v3 n v5 = some o7 ∧ st' = ⟨[(0, .p .str a0), (6, .p I6 v1), (8, .p .str v3), (9, .p I6 v5)], []⟩) k ⟨0, hlo7, by kernel_rfl⟩ ?_
        clear hlo7
        rintro (_ | n) _ ⟨v5, h, rfl⟩
        · cases h
        · rw [millwrightref15_Match.l6] at h
          refine WpC.seq ?_
          refine WpC.seq ?_
          refine rS {} [0, 6, 8, 9, 60] [] hN (by kernel_rfl) (by kernel_rfl) ?_
          refine tnU ?_
          refine tS (b := (decide (v5 < (v3.length : Int)))) (by kernel_rfl) (fun hc9 => ?_) (fun hc9 => ?_)
          · replace h := ite_t hc9 h
            refine WpC.conv (cS [.k [0, 6, 8, 9] []] (by kernel_rfl) (by kernel_rfl)) (WpC.skip ?_)
            refine tnU ?_
            refine sqJ (fun st' => millwrightref15_Match.j10 k (millwrightref15_Match.l6 k a0 v1 v3 n) a0 v1 v3 v5 = some o7 ∧ st' = ⟨[(0, .p .str a0), (6, .p I6 v1), (8, .p .str v3), (9, .p I6 v5)], []⟩) ?_ ?_
            · refine WpC.block ?_
              refine sqJ (fun st' => ∃ v11 : Bool, millwrightref15_Match.j13 k (millwrightref15_Match.l6 k a0 v1 v3 n) a0 v1 v3 v5 v11 = some o7 ∧ st' = ⟨[(0, .p .str a0), (6, .p I6 v1), (8, .p .str v3), (9, .p I6 v5), (78, .p .bool v11)], []⟩) ?_ ?_
              · obtain ⟨v14, hv14, h⟩ := bind_some h
                rcases bool_cases ((v14.toNat : Int) == 38) with hc15 | hc15
                · replace h := ite_t hc15 h
                  obtain ⟨v16, hv16, h⟩ := bind_some h
                  rcases bool_cases ((v16.toNat : Int) == 46) with hc17 | hc17
                  · replace h := ite_t hc17 h
                    refine rS { its := [(2, .u hv14), (7, .u hv16)], kn := [(67, .t hc15), (72, .t hc17)] } [0, 6, 8, 9, 78] [] hN (by kernel_rfl) (by kernel_rfl) ?_
                    refine tnU ?_
                    exact ⟨true, h, by kernel_rfl⟩
                  · replace h := ite_f hc17 h
                    obtain ⟨v18, hv18, h⟩ := bind_some h
                    refine rS { its := [(2, .u hv14), (7, .u hv16), (12, .u hv18)], kn := [(67, .t hc15), (72, .f hc17)] } [0, 6, 8, 9, 78] [] hN (by kernel_rfl) (by kernel_rfl) ?_
                    refine tnU ?_
                    exact ⟨((v18.toNat : Int) == 47), h, by kernel_rfl⟩
                · replace h := ite_f hc15 h
                  refine rS { its := [(2, .u hv14)], kn := [(67, .f hc15)] } [0, 6, 8, 9, 78] [] hN (by kernel_rfl) (by kernel_rfl) ?_
                  refine tnU ?_
                  exact ⟨false, h, by kernel_rfl⟩
              · rintro _ ⟨v11, h, rfl⟩
                unfold millwrightref15_Match.j13 at h
                refine tS (b := v11) (by kernel_rfl) (fun hc12 => ?_) (fun hc12 => ?_)
                · replace h := ite_t hc12 h
                  refine WpC.seq ?_
                  refine rS {} [4, 5] [] hN (by kernel_rfl) (by kernel_rfl) ?_
                  refine tnU ?_
                  refine WpC.ret ?_
                  refine blockQ_ret ?_
                  refine thenQ_ret ?_
                  have hq := Option.some.inj h
                  subst hq
                  refine thenQ_ret ?_
                  have h := hout8
                  refine blockQ_ret ?_
                  refine thenQ_ret ?_
                  have hq := Option.some.inj h
                  subst hq
                  exact eR (by kernel_rfl) (by kernel_rfl)
                · replace h := ite_f hc12 h
                  refine WpC.conv (cS [.k [0, 6, 8, 9] []] (by kernel_rfl) (by kernel_rfl)) (WpC.skip ?_)
                  refine blockQ_normal ?_
                  refine tnU ?_
                  exact ⟨h, by kernel_rfl⟩
            · rintro _ ⟨h, rfl⟩
              unfold millwrightref15_Match.j10 at h
              refine rS {} [0, 6, 8, 9] [] hN (by kernel_rfl) (by kernel_rfl) ?_
              refine tnU ?_
              exact ⟨n, Nat.lt_succ_self n, (IntKind.i64.wrap (v5 + 1)), h, by kernel_rfl⟩
          · replace h := ite_f hc9 h
            refine WpC.conv (cS [.k [8] []] (by kernel_rfl) (by kernel_rfl)) (WpC.exit ?_)
            refine thenQ_exit ?_
            have hq := Option.some.inj h
            subst hq
            refine thenQ_exit ?_
            have h := hout8
            refine blockQ_hit ?_
            refine tnU ?_
            exact ⟨h, by kernel_rfl⟩
      · rintro _ ⟨h, rfl⟩
        unfold millwrightref15_Match.j4 at h
        refine WpC.seq ?_
        refine rS {} [4, 5] [] hN (by kernel_rfl) (by kernel_rfl) ?_
        refine tnU ?_
        refine WpC.ret ?_
        have hq := Option.some.inj h
        subst hq
        exact eR (by kernel_rfl) (by kernel_rfl)

theorem millwrightref15_Fill.bok (O : Out) (hO : GOk O) (k : Nat) (rf_millwrightref15_Fill : (List UInt8) → (List UInt8) → Option (List UInt8)) (hrf_millwrightref15_Fill : ∀ (a0 : List UInt8) (a1 : List UInt8) (out : List UInt8), rf_millwrightref15_Fill a0 a1 = some out → COk Un O Tryz.prog 133 { ar := [.p .str a0, .p .str a1], r := .p .str out }) (a0 : List UInt8) (a1 : List UInt8) (out : List UInt8) (h : millwrightref15_Fill.b k rf_millwrightref15_Fill a0 a1 = some out) : COk Un O Tryz.prog 133 { ar := [.p .str a0, .p .str a1], r := .p .str out } := by
  refine cok_of_wp Tryz.func133 rfl (k := 23) rfl (Nat.le_of_ble_eq_true rfl) (namesOk_pure rfl rfl rfl rfl) ?_
  intro B hN
  refine WpC.conv (cvK (b := ⟨[(0, .p .str a0), (1, .p .str a1)], []⟩) [0, 1] [] (by kernel_rfl)) ?_
  unfold millwrightref15_Fill.b at h
  refine WpC.seq ?_
  refine rS {} [0, 1] [] hN (by kernel_rfl) (by kernel_rfl) ?_
  refine tnU ?_
  refine WpC.seq ?_
  obtain ⟨v1, hv1, h⟩ := bind_some h
  refine rS { its := [(1, .c (millwrightref15_Wild.ok O hO k a0 v1 hv1))] } [0, 1, 5] [] hN (by kernel_rfl) (by kernel_rfl) ?_
  refine tnU ?_
  refine WpC.seq ?_
  refine WpC.seq ?_
  refine rS {} [0, 1, 5, 9] [] hN (by kernel_rfl) (by kernel_rfl) ?_
  refine tnU ?_
  refine tS (b := (decide (v1 < 0))) (by kernel_rfl) (fun hc2 => ?_) (fun hc2 => ?_)
  · replace h := ite_t hc2 h
    refine WpC.seq ?_
    refine rS {} [4] [] hN (by kernel_rfl) (by kernel_rfl) ?_
    refine tnU ?_
    refine WpC.ret ?_
    refine thenQ_ret ?_
    have hq := Option.some.inj h
    subst hq
    exact eR (by kernel_rfl) (by kernel_rfl)
  · replace h := ite_f hc2 h
    refine WpC.conv (cS [.k [0, 1, 5] []] (by kernel_rfl) (by kernel_rfl)) (WpC.skip ?_)
    refine tnU ?_
    refine WpC.seq ?_
    obtain ⟨v3, hv3, h⟩ := bind_some h
    obtain ⟨g4, h⟩ := if_some h
    obtain ⟨v5, hv5, h⟩ := bind_some h
    obtain ⟨v6, hv6, h⟩ := bind_some h
    obtain ⟨g7, h⟩ := if_some h
    refine rA { its := [(2, .v .str hv3), (4, .g g4), (8, .v .str hv5), (10, .c (hrf_millwrightref15_Fill v5 a1 v6 hv6)), (11, .g g7)] } [4] [] hN (by kernel_rfl) (by kernel_rfl) (by kernel_rfl) ?_
    refine tnU ?_
    refine WpC.ret ?_
    have hq := Option.some.inj h
    subst hq
    exact eR (by kernel_rfl) (by kernel_rfl)

theorem scc_millwrightref15_Fill.ok (O : Out) (hO : GOk O) : ∀ k : Nat, (∀ (a0 : List UInt8) (a1 : List UInt8) (out : List UInt8), millwrightref15_Fill.f k a0 a1 = some out → COk Un O Tryz.prog 133 { ar := [.p .str a0, .p .str a1], r := .p .str out }) := by
  intro k
  induction k with
  | zero => exact fun a0 a1 out h => (by have h2 : (none : Option (List UInt8)) = some out := h; cases h2)
  | succ k ih => exact fun a0 a1 out h => millwrightref15_Fill.bok O hO k _ ih a0 a1 out h
theorem millwrightref15_Fill.ok (O : Out) (hO : GOk O) (k : Nat) (a0 : List UInt8) (a1 : List UInt8) (out : List UInt8) (h : millwrightref15_Fill.f k a0 a1 = some out) : COk Un O Tryz.prog 133 { ar := [.p .str a0, .p .str a1], r := .p .str out } := (scc_millwrightref15_Fill.ok O hO k) a0 a1 out h

end Go.Proofs.YtldepagjdbcmgaaGreatDoor
