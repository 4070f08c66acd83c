/- A part of the proof of a given law: POC3. Own work, printed in part by a program of mine. -/
import Derived.Test.YtpcobejkpbalcaaDoorK27POC2
namespace Go.Proofs.YtpcobejkpbalcaaDoor
open Go Go.AM
set_option linter.unusedVariables false
set_option linter.unusedSimpArgs false
set_option maxRecDepth 100000
set_option maxHeartbeats 4000000
theorem millwrightref07_opened.ok (O : Out) (hO : GOkE O) (k : Nat) (a0 : List T_millwrightref07_sign) (out : Int) (h : millwrightref07_opened.f k a0 = some out) : COk Un O Tryd.prog 15 { ar := [.p (.list (.named 7)) a0], r := .p I6 out } := by
  refine cok_of_wp Tryd.func15 rfl (k := 19) rfl (Nat.le_of_ble_eq_true rfl) (namesOk_pure rfl rfl rfl rfl) ?_
  intro B hN
  refine WpC.conv (cvK (b := ⟨[(0, .p (.list (.named 7)) a0)], []⟩) [0] [] (by kernel_rfl)) ?_
  unfold millwrightref07_opened.f at h
  refine WpC.seq ?_
  refine rS {} [0] [] hN (by kernel_rfl) (by kernel_rfl) ?_
  refine tnU ?_
  refine WpC.seq ?_
  refine rS {} [0, 3] [] hN (by kernel_rfl) (by kernel_rfl) ?_
  refine tnU ?_
  refine sqJ (fun st' => ∃ v1 : Int, millwrightref07_opened.j2 k v1 = some out ∧ st' = ⟨[(3, .p I6 v1)], []⟩) ?_ ?_
  · refine WpC.seq ?_
    refine rS {} [3, 6, 7, 8] [] hN (by kernel_rfl) (by kernel_rfl) ?_
    refine tnU ?_
    refine WpC.block ?_
    obtain ⟨o7, hlo7, h⟩ := bind_some h
    have hout8 := h
    clear h
    refine WpC.loop (U := Un) (fun n st' => ∃ v3 : Int, ∃ v4 : Int, millwrightref07_opened.l5 k a0 n v3 v4 = some o7 ∧ st' = ⟨[(3, .p I6 v3), (6, .p (.list (.named 7)) a0), (7, .p I6 ((a0.length : Int) : Int)), (8, .p I6 v4)], []⟩) k ⟨0, 0, hlo7, by kernel_rfl⟩ ?_
    clear hlo7
    rintro (_ | n) _ ⟨v3, v4, h, rfl⟩
    · cases h
    · rw [millwrightref07_opened.l5] at h
      refine WpC.seq ?_
      refine rS {} [3, 6, 7, 8, 9] [] hN (by kernel_rfl) (by kernel_rfl) ?_
      refine tnU ?_
      refine WpC.seq ?_
      refine tS (b := (decide (v4 < (a0.length : Int)))) (by kernel_rfl) (fun hc9 => ?_) (fun hc9 => ?_)
      · replace h := ite_t hc9 h
        refine WpC.conv (cS [.k [3, 6, 7, 8] []] (by kernel_rfl) (by kernel_rfl)) (WpC.skip ?_)
        refine tnU ?_
        refine sqJ (fun st' => ∃ v10 : Int, millwrightref07_opened.j11 k (millwrightref07_opened.l5 k a0 n) a0 v4 v10 = some o7 ∧ st' = ⟨[(3, .p I6 v10), (6, .p (.list (.named 7)) a0), (7, .p I6 ((a0.length : Int) : Int)), (8, .p I6 v4)], []⟩) ?_ ?_
        · refine WpC.block ?_
          refine WpC.seq ?_
          obtain ⟨v12, hv12, h⟩ := bind_some h
          refine rS { its := [(0, .v (.named 7) hv12)] } [3, 5, 6, 7, 8] [5] hN (by kernel_rfl) (by kernel_rfl) ?_
          refine tnU ?_
          refine WpC.seq ?_
          refine rS {} [3, 6, 7, 8, 14] [] hN (by kernel_rfl) (by kernel_rfl) ?_
          refine tnU ?_
          refine tS (b := (v12.f_Mark == 40)) (by kernel_rfl) (fun hc13 => ?_) (fun hc13 => ?_)
          · replace h := ite_t hc13 h
            refine rS {} [3, 6, 7, 8] [] hN (by kernel_rfl) (by kernel_rfl) ?_
            refine blockQ_normal ?_
            refine tnU ?_
            exact ⟨(IntKind.i64.wrap (v3 + 1)), h, by kernel_rfl⟩
          · replace h := ite_f hc13 h
            refine WpC.conv (cS [.k [3, 6, 7, 8] []] (by kernel_rfl) (by kernel_rfl)) (WpC.skip ?_)
            refine blockQ_normal ?_
            refine tnU ?_
            exact ⟨v3, h, by kernel_rfl⟩
        · rintro _ ⟨v10, h, rfl⟩
          unfold millwrightref07_opened.j11 at h
          refine rS {} [3, 6, 7, 8] [] hN (by kernel_rfl) (by kernel_rfl) ?_
          refine tnU ?_
          exact ⟨n, Nat.lt_succ_self n, v10, (IntKind.i64.wrap (v4 + 1)), h, by kernel_rfl⟩
      · replace h := ite_f hc9 h
        refine WpC.conv (cS [.k [3] []] (by kernel_rfl) (by kernel_rfl)) (WpC.exit ?_)
        refine thenQ_exit ?_
        have hq := Option.some.inj h
        subst hq
        refine thenQ_exit ?_
        have h := hout8
        refine blockQ_hit ?_
        refine tnU ?_
        exact ⟨v3, h, by kernel_rfl⟩
  · rintro _ ⟨v1, h, rfl⟩
    unfold millwrightref07_opened.j2 at h
    refine WpC.seq ?_
    refine rS {} [2] [] hN (by kernel_rfl) (by kernel_rfl) ?_
    refine tnU ?_
    refine WpC.ret ?_
    have hq := Option.some.inj h
    subst hq
    exact eR (by kernel_rfl) (by kernel_rfl)

theorem millwrightref07_closing.ok (O : Out) (hO : GOkE O) (k : Nat) (a0 : List T_millwrightref07_sign) (a1 : Int) (out : Int) (h : millwrightref07_closing.f k a0 a1 = some out) : COk Un O Tryd.prog 43 { ar := [.p (.list (.named 7)) a0, .p I6 a1], r := .p I6 out } := by
  refine cok_of_wp Tryd.func43 rfl (k := 33) rfl (Nat.le_of_ble_eq_true rfl) (namesOk_pure rfl rfl rfl rfl) ?_
  intro B hN
  refine WpC.conv (cvK (b := ⟨[(0, .p (.list (.named 7)) a0), (1, .p I6 a1)], []⟩) [0, 1] [] (by kernel_rfl)) ?_
  unfold millwrightref07_closing.f at h
  refine WpC.seq ?_
  refine rS {} [0, 1] [] hN (by kernel_rfl) (by kernel_rfl) ?_
  refine tnU ?_
  refine WpC.seq ?_
  refine rS {} [0, 1, 5] [] hN (by kernel_rfl) (by kernel_rfl) ?_
  refine tnU ?_
  refine sqJ (fun st' => millwrightref07_closing.j1 k = some out ∧ st' = ⟨[], []⟩) ?_ ?_
  · refine WpC.seq ?_
    refine rS {} [0, 5, 6] [] hN (by kernel_rfl) (by kernel_rfl) ?_
    refine tnU ?_
    refine WpC.block ?_
    obtain ⟨o5, hlo5, h⟩ := bind_some h
    have hout6 := h
    clear h
    refine WpC.loop (U := Un) (fun n st' => ∃ v2 : Int, ∃ v3 : Int, millwrightref07_closing.l4 k a0 n v2 v3 = some o5 ∧ st' = ⟨[(0, .p (.list (.named 7)) a0), (5, .p I6 v2), (6, .p I6 v3)], []⟩) k ⟨0, a1, hlo5, by kernel_rfl⟩ ?_
    clear hlo5
    rintro (_ | n) _ ⟨v2, v3, h, rfl⟩
    · cases h
    · rw [millwrightref07_closing.l4] at h
      refine WpC.seq ?_
      refine WpC.seq ?_
      refine rS {} [0, 5, 6, 11] [] hN (by kernel_rfl) (by kernel_rfl) ?_
      refine tnU ?_
      refine tS (b := (decide (v3 < (a0.length : Int)))) (by kernel_rfl) (fun hc7 => ?_) (fun hc7 => ?_)
      · replace h := ite_t hc7 h
        refine WpC.conv (cS [.k [0, 5, 6] []] (by kernel_rfl) (by kernel_rfl)) (WpC.skip ?_)
        refine tnU ?_
        refine sqJ (fun st' => ∃ v8 : Int, millwrightref07_closing.j9 k (millwrightref07_closing.l4 k a0 n) a0 v3 v8 = some o5 ∧ st' = ⟨[(0, .p (.list (.named 7)) a0), (5, .p I6 v8), (6, .p I6 v3)], []⟩) ?_ ?_
        · refine WpC.block ?_
          refine sqJ (fun st' => ∃ v10 : Int, millwrightref07_closing.j16 k (millwrightref07_closing.l4 k a0 n) a0 v3 v10 = some o5 ∧ st' = ⟨[(0, .p (.list (.named 7)) a0), (5, .p I6 v10), (6, .p I6 v3)], []⟩) ?_ ?_
          · refine WpC.seq ?_
            obtain ⟨v17, hv17, h⟩ := bind_some h
            refine rS { its := [(2, .v (.named 7) hv17)] } [0, 5, 6, 19] [] hN (by kernel_rfl) (by kernel_rfl) ?_
            refine tnU ?_
            refine tS (b := (v17.f_Mark == 40)) (by kernel_rfl) (fun hc18 => ?_) (fun hc18 => ?_)
            · replace h := ite_t hc18 h
              refine rS {} [0, 5, 6] [] hN (by kernel_rfl) (by kernel_rfl) ?_
              refine tnU ?_
              exact ⟨(IntKind.i64.wrap (v2 + 1)), h, by kernel_rfl⟩
            · replace h := ite_f hc18 h
              refine WpC.conv (cS [.k [0, 5, 6] []] (by kernel_rfl) (by kernel_rfl)) (WpC.skip ?_)
              refine tnU ?_
              exact ⟨v2, h, by kernel_rfl⟩
          · rintro _ ⟨v10, h, rfl⟩
            unfold millwrightref07_closing.j16 at h
            refine sqJ (fun st' => ∃ v11 : Int, millwrightref07_closing.j13 k (millwrightref07_closing.l4 k a0 n) a0 v3 v11 = some o5 ∧ st' = ⟨[(0, .p (.list (.named 7)) a0), (5, .p I6 v11), (6, .p I6 v3)], []⟩) ?_ ?_
            · refine WpC.seq ?_
              obtain ⟨v14, hv14, h⟩ := bind_some h
              refine rS { its := [(2, .v (.named 7) hv14)] } [0, 5, 6, 27] [] hN (by kernel_rfl) (by kernel_rfl) ?_
              refine tnU ?_
              refine tS (b := (v14.f_Mark == 41)) (by kernel_rfl) (fun hc15 => ?_) (fun hc15 => ?_)
              · replace h := ite_t hc15 h
                refine rS {} [0, 5, 6] [] hN (by kernel_rfl) (by kernel_rfl) ?_
                refine tnU ?_
                exact ⟨(IntKind.i64.wrap (v10 - 1)), h, by kernel_rfl⟩
              · replace h := ite_f hc15 h
                refine WpC.conv (cS [.k [0, 5, 6] []] (by kernel_rfl) (by kernel_rfl)) (WpC.skip ?_)
                refine tnU ?_
                exact ⟨v10, h, by kernel_rfl⟩
            · rintro _ ⟨v11, h, rfl⟩
              unfold millwrightref07_closing.j13 at h
              refine WpC.seq ?_
              refine rS {} [0, 5, 6, 31] [] hN (by kernel_rfl) (by kernel_rfl) ?_
              refine tnU ?_
              refine tS (b := (v11 == 0)) (by kernel_rfl) (fun hc12 => ?_) (fun hc12 => ?_)
              · replace h := ite_t hc12 h
                refine WpC.seq ?_
                refine rS {} [4] [] hN (by kernel_rfl) (by kernel_rfl) ?_
                refine tnU ?_
                refine WpC.ret ?_
                refine blockQ_ret ?_
                refine thenQ_ret ?_
                have hq := Option.some.inj h
                subst hq
                refine thenQ_ret ?_
                have h := hout6
                refine blockQ_ret ?_
                refine thenQ_ret ?_
                have hq := Option.some.inj h
                subst hq
                exact eR (by kernel_rfl) (by kernel_rfl)
              · replace h := ite_f hc12 h
                refine WpC.conv (cS [.k [0, 5, 6] []] (by kernel_rfl) (by kernel_rfl)) (WpC.skip ?_)
                refine blockQ_normal ?_
                refine tnU ?_
                exact ⟨v11, h, by kernel_rfl⟩
        · rintro _ ⟨v8, h, rfl⟩
          unfold millwrightref07_closing.j9 at h
          refine rS {} [0, 5, 6] [] hN (by kernel_rfl) (by kernel_rfl) ?_
          refine tnU ?_
          exact ⟨n, Nat.lt_succ_self n, v8, (IntKind.i64.wrap (v3 + 1)), h, by kernel_rfl⟩
      · replace h := ite_f hc7 h
        refine WpC.conv (cS [.k [] []] (by kernel_rfl) (by kernel_rfl)) (WpC.exit ?_)
        refine thenQ_exit ?_
        have hq := Option.some.inj h
        subst hq
        refine thenQ_exit ?_
        have h := hout6
        refine blockQ_hit ?_
        refine tnU ?_
        exact ⟨h, by kernel_rfl⟩
  · rintro _ ⟨h, rfl⟩
    unfold millwrightref07_closing.j1 at h
    refine WpC.seq ?_
    refine rS {} [4] [] hN (by kernel_rfl) (by kernel_rfl) ?_
    refine tnU ?_
    refine WpC.ret ?_
    have hq := Option.some.inj h
    subst hq
    exact eR (by kernel_rfl) (by kernel_rfl)

theorem millwrightref07_one.ok (O : Out) (hO : GOkE O) (k : Nat) (a0 : Int) (a1 : List T_millwrightref07_Node) (out : T_millwrightref07_Node) (h : millwrightref07_one.f k a0 a1 = some out) : COk Un O Tryd.prog 29 { ar := [.p I6 a0, .p (.list (.named 4)) a1], r := .p (.named 4) out } := by
  refine cok_of_wp Tryd.func29 rfl (k := 18) rfl (Nat.le_of_ble_eq_true rfl) (namesOk_pure rfl rfl rfl rfl) ?_
  intro B hN
  refine WpC.conv (cvK (b := ⟨[(0, .p I6 a0), (1, .p (.list (.named 4)) a1)], []⟩) [0, 1] [] (by kernel_rfl)) ?_
  unfold millwrightref07_one.f at h
  refine WpC.seq ?_
  refine rS {} [0, 1, 4] [4] hN (by kernel_rfl) (by kernel_rfl) ?_
  refine tnU ?_
  refine WpC.seq ?_
  refine WpC.seq ?_
  refine rS {} [0, 1, 4, 7] [4] hN (by kernel_rfl) (by kernel_rfl) ?_
  refine tnU ?_
  refine tS (b := ((a1.length : Int) == 0)) (by kernel_rfl) (fun hc1 => ?_) (fun hc1 => ?_)
  · replace h := ite_t hc1 h
    refine WpC.seq ?_
    refine rS {} [4] [4] hN (by kernel_rfl) (by kernel_rfl) ?_
    refine tnU ?_
    refine WpC.ret ?_
    refine thenQ_ret ?_
    have hq := Option.some.inj h
    subst hq
    exact eR (by kernel_rfl) (by kernel_rfl)
  · replace h := ite_f hc1 h
    refine WpC.conv (cS [.k [0, 1, 4] [4]] (by kernel_rfl) (by kernel_rfl)) (WpC.skip ?_)
    refine tnU ?_
    refine WpC.seq ?_
    refine WpC.seq ?_
    refine rS {} [0, 1, 4, 11] [4] hN (by kernel_rfl) (by kernel_rfl) ?_
    refine tnU ?_
    refine tS (b := ((a1.length : Int) == 1)) (by kernel_rfl) (fun hc2 => ?_) (fun hc2 => ?_)
    · replace h := ite_t hc2 h
      refine WpC.seq ?_
      obtain ⟨v3, hv3, h⟩ := bind_some h
      refine rS { its := [(1, .v (.named 4) hv3)] } [4] [4] hN (by kernel_rfl) (by kernel_rfl) ?_
      refine tnU ?_
      refine WpC.ret ?_
      refine thenQ_ret ?_
      have hq := Option.some.inj h
      subst hq
      exact eR (by kernel_rfl) (by kernel_rfl)
    · replace h := ite_f hc2 h
      refine WpC.conv (cS [.k [0, 1, 4] [4]] (by kernel_rfl) (by kernel_rfl)) (WpC.skip ?_)
      refine tnU ?_
      refine WpC.seq ?_
      refine rS {} [4] [4] hN (by kernel_rfl) (by kernel_rfl) ?_
      refine tnU ?_
      refine WpC.ret ?_
      have hq := Option.some.inj h
      subst hq
      exact eR (by kernel_rfl) (by kernel_rfl)

theorem millwrightref07_branch.bok (O : Out) (hO : GOkE O) (k : Nat) (rf_millwrightref07_expression : (List T_millwrightref07_sign) → Int → Option (T_millwrightref07_Node × Bool)) (hrf_millwrightref07_expression : ∀ (a0 : List T_millwrightref07_sign) (a1 : Int) (out : T_millwrightref07_Node × Bool), rf_millwrightref07_expression a0 a1 = some out → COk Un O Tryd.prog 14 { ar := [.p (.list (.named 7)) a0, .p I6 a1], r := .tup [.p (.named 4) out.1, .p .bool out.2] }) (a0 : List T_millwrightref07_sign) (a1 : Int) (out : T_millwrightref07_Node × Bool) (h : millwrightref07_branch.b k rf_millwrightref07_expression a0 a1 = some out) : COk Un O Tryd.prog 28 { ar := [.p (.list (.named 7)) a0, .p I6 a1], r := .tup [.p (.named 4) out.1, .p .bool out.2] } := by
  refine cok_of_wp Tryd.func28 rfl (k := 113) rfl (Nat.le_of_ble_eq_true rfl) (namesOk_pure rfl rfl rfl rfl) ?_
  intro B hN
  refine WpC.conv (cvK (b := ⟨[(0, .p (.list (.named 7)) a0), (1, .p I6 a1)], []⟩) [0, 1] [] (by kernel_rfl)) ?_
  unfold millwrightref07_branch.b at h
  refine WpC.seq ?_
  refine rS {} [0, 1, 4] [4] hN (by kernel_rfl) (by kernel_rfl) ?_
  refine tnU ?_
  refine WpC.seq ?_
  refine rSC {} [0, 1, 4, 6] [4, 15] hN (by kernel_rfl) (by kernel_rfl) (cS [.k [0, 1, 4, 6] [4, 15], .x (Conv.cast (U := Un) (st := ⟨[(0, .p (.list (.named 7)) a0), (1, .p I6 a1), (4, .loc 4 0), (6, .vec 15 7 0 (([] : List T_millwrightref07_Node).length))], [(4, .box [.p I6 (0 : Int), .p I6 (0 : Int), .p U6 ((List.replicate 4 (0 : Int)) : List Int), .p (.list (.named 4)) ([] : List T_millwrightref07_Node)]), (15, .row 32 (.named 4) ([] : List T_millwrightref07_Node) true)]⟩) (st' := ⟨[(0, .p (.list (.named 7)) a0), (1, .p I6 a1), (4, .loc 4 0), (6, .vec 15 7 0 0)], [(4, .box [.p I6 (0 : Int), .p I6 (0 : Int), .p U6 ((List.replicate 4 (0 : Int)) : List Int), .p (.list (.named 4)) ([] : List T_millwrightref07_Node)]), (15, .row 32 (.named 4) ([] : List T_millwrightref07_Node) true)]⟩) (by simp only [upd_length, List.length_nil, List.length_replicate]))] (by kernel_rfl) (by kernel_rfl)) ?_
  refine tnU ?_
  refine sqJ (fun st' => ∃ v1 : List T_millwrightref07_Node, millwrightref07_branch.j3 k v1 = some out ∧ st' = ⟨[(4, .loc 4 0), (6, .vec 1006 7 0 v1.length)], [(4, .box [.p I6 (0 : Int), .p I6 (0 : Int), .p U6 ((List.replicate 4 (0 : Int)) : List Int), .p (.list (.named 4)) ([] : List T_millwrightref07_Node)]), (1006, .row 32 (.named 4) v1 false)]⟩) ?_ ?_
  · refine WpC.seq ?_
    refine rS {} [0, 1, 4, 6, 7] [4, 15] hN (by kernel_rfl) (by kernel_rfl) ?_
    refine tnU ?_
    refine WpC.block ?_
    obtain ⟨o8, hlo8, h⟩ := bind_some h
    have hout9 := h
    clear h
    refine WpC.conv (cS [.lo 15, .k [0, 1, 4, 6, 7] [4, 15], .rn 15 1006, .k [0, 1, 4, 6, 7] [4, 1006]] (by kernel_rfl) (by kernel_rfl)) ?_
    refine WpC.loop (U := Un) (fun n st' => ∃ v4 : List T_millwrightref07_Node, ∃ v5 : Int, millwrightref07_branch.l6 k rf_millwrightref07_expression a0 a1 n v4 v5 = some o8 ∧ st' = ⟨[(0, .p (.list (.named 7)) a0), (1, .p I6 a1), (4, .loc 4 0), (6, .vec 1006 7 0 v4.length), (7, .p I6 v5)], [(4, .box [.p I6 (0 : Int), .p I6 (0 : Int), .p U6 ((List.replicate 4 (0 : Int)) : List Int), .p (.list (.named 4)) ([] : List T_millwrightref07_Node)]), (1006, .row 32 (.named 4) v4 false)]⟩) k ⟨([] : List T_millwrightref07_Node), 0, hlo8, by kernel_rfl⟩ ?_
    clear hlo8
    rintro (_ | n) _ ⟨v4, v5, h, rfl⟩
    · cases h
    · rw [millwrightref07_branch.l6] at h
      refine WpC.seq ?_
      refine WpC.seq ?_
      refine rS {} [0, 1, 4, 6, 7, 19] [4, 1006] hN (by kernel_rfl) (by kernel_rfl) ?_
      refine tnU ?_
      refine tS (b := (decide (v5 < (a0.length : Int)))) (by kernel_rfl) (fun hc10 => ?_) (fun hc10 => ?_)
      · replace h := ite_t hc10 h
        refine WpC.conv (cS [.k [0, 1, 4, 6, 7] [4, 1006]] (by kernel_rfl) (by kernel_rfl)) (WpC.skip ?_)
        refine tnU ?_
        refine sqJ (fun st' => ∃ v11 : List T_millwrightref07_Node, ∃ v12 : Int, millwrightref07_branch.j13 k (millwrightref07_branch.l6 k rf_millwrightref07_expression a0 a1 n) a0 a1 v11 v12 = some o8 ∧ st' = ⟨[(0, .p (.list (.named 7)) a0), (1, .p I6 a1), (4, .loc 4 0), (6, .vec 1006 7 0 v11.length), (7, .p I6 v12)], [(4, .box [.p I6 (0 : Int), .p I6 (0 : Int), .p U6 ((List.replicate 4 (0 : Int)) : List Int), .p (.list (.named 4)) ([] : List T_millwrightref07_Node)]), (1006, .row 32 (.named 4) v11 false)]⟩) ?_ ?_
        · refine WpC.block ?_
          refine WpC.seq ?_
          obtain ⟨v14, hv14, h⟩ := bind_some h
          refine rS { its := [(2, .v (.named 7) hv14)] } [0, 1, 4, 6, 7, 8] [4, 8, 1006] hN (by kernel_rfl) (by kernel_rfl) ?_
          refine tnU ?_
          refine WpC.seq ?_
          refine rS {} [0, 1, 4, 6, 7, 8, 9] [4, 8, 1006] hN (by kernel_rfl) (by kernel_rfl) ?_
          refine tnU ?_
          refine WpC.seq ?_
          refine rS {} [0, 1, 4, 6, 7, 8, 9, 30] [4, 8, 1006] hN (by kernel_rfl) (by kernel_rfl) ?_
          refine tnU ?_
          refine WpC.block ?_
          refine WpC.seq ?_
          refine rS {} [0, 1, 4, 6, 7, 8, 9, 30, 32] [4, 8, 1006] hN (by kernel_rfl) (by kernel_rfl) ?_
          refine tnU ?_
          refine tS (b := (v14.f_Mark == 0)) (by kernel_rfl) (fun hc15 => ?_) (fun hc15 => ?_)
          · replace h := ite_t hc15 h
            obtain ⟨g16, h⟩ := if_some h
            refine rSC { its := [(5, .g g16)] } [0, 1, 4, 6, 7] [4, 39] hN (by kernel_rfl) (by kernel_rfl) (cS [.rn 39 1006, .k [0, 1, 4, 6, 7] [4, 1006]] (by kernel_rfl) (by kernel_rfl)) ?_
            refine blockQ_normal ?_
            refine blockQ_normal ?_
            refine tnU ?_
            exact ⟨(v4 ++ [(T_millwrightref07_Node.mk 1 0 v14.f_Set [])]), v5, h, by kernel_rfl⟩
          · replace h := ite_f hc15 h
            refine WpC.seq ?_
            refine rS {} [0, 1, 4, 6, 7, 8, 9, 30, 40] [4, 8, 1006] hN (by kernel_rfl) (by kernel_rfl) ?_
            refine tnU ?_
            refine tS (b := (v14.f_Mark == 94)) (by kernel_rfl) (fun hc17 => ?_) (fun hc17 => ?_)
            · replace h := ite_t hc17 h
              obtain ⟨g18, h⟩ := if_some h
              refine rSC { its := [(3, .g g18)] } [0, 1, 4, 6, 7] [4, 45] hN (by kernel_rfl) (by kernel_rfl) (cS [.rn 45 1006, .k [0, 1, 4, 6, 7] [4, 1006]] (by kernel_rfl) (by kernel_rfl)) ?_
              refine blockQ_normal ?_
              refine blockQ_normal ?_
              refine tnU ?_
              exact ⟨(v4 ++ [(T_millwrightref07_Node.mk 8 0 (List.replicate 4 (0 : Int)) [])]), v5, h, by kernel_rfl⟩
            · replace h := ite_f hc17 h
              refine WpC.seq ?_
              refine rS {} [0, 1, 4, 6, 7, 8, 9, 30, 46] [4, 8, 1006] hN (by kernel_rfl) (by kernel_rfl) ?_
              refine tnU ?_
              refine tS (b := (v14.f_Mark == 36)) (by kernel_rfl) (fun hc19 => ?_) (fun hc19 => ?_)
              · replace h := ite_t hc19 h
                obtain ⟨g20, h⟩ := if_some h
                refine rSC { its := [(3, .g g20)] } [0, 1, 4, 6, 7] [4, 51] hN (by kernel_rfl) (by kernel_rfl) (cS [.rn 51 1006, .k [0, 1, 4, 6, 7] [4, 1006]] (by kernel_rfl) (by kernel_rfl)) ?_
                refine blockQ_normal ?_
                refine blockQ_normal ?_
                refine tnU ?_
                exact ⟨(v4 ++ [(T_millwrightref07_Node.mk 9 0 (List.replicate 4 (0 : Int)) [])]), v5, h, by kernel_rfl⟩
              · replace h := ite_f hc19 h
                refine sqJ (fun st' => ∃ v21 : Bool, millwrightref07_branch.j43 k (millwrightref07_branch.l6 k rf_millwrightref07_expression a0 a1 n) rf_millwrightref07_expression a0 a1 v4 v5 v14 v21 = some o8 ∧ st' = ⟨[(0, .p (.list (.named 7)) a0), (1, .p I6 a1), (4, .loc 4 0), (6, .vec 1006 7 0 v4.length), (7, .p I6 v5), (8, .loc 8 0), (9, .p I6 ((IntKind.i64.wrap ((v4.length : Int) - 1)) : Int)), (30, .p (.int .u8) v14.f_Mark), (52, .p .bool v21)], [(4, .box [.p I6 (0 : Int), .p I6 (0 : Int), .p U6 ((List.replicate 4 (0 : Int)) : List Int), .p (.list (.named 4)) ([] : List T_millwrightref07_Node)]), (8, .box [.p (.int .u8) v14.f_Mark, .p U6 v14.f_Set]), (1006, .row 32 (.named 4) v4 false)]⟩) ?_ ?_
                · refine WpC.seq ?_
                  refine rS {} [0, 1, 4, 6, 7, 8, 9, 30, 52] [4, 8, 1006] hN (by kernel_rfl) (by kernel_rfl) ?_
                  refine tnU ?_
                  refine tS (b := (v14.f_Mark == 42)) (by kernel_rfl) (fun hc44 => ?_) (fun hc44 => ?_)
                  · replace h := ite_t hc44 h
                    refine WpC.skip ?_
                    refine tnU ?_
                    exact ⟨(v14.f_Mark == 42), h, by kernel_rfl⟩
                  · replace h := ite_f hc44 h
                    refine WpC.seq ?_
                    refine rS {} [0, 1, 4, 6, 7, 8, 9, 30, 52] [4, 8, 1006] hN (by kernel_rfl) (by kernel_rfl) ?_
                    refine tnU ?_
                    refine tS (b := (v14.f_Mark == 43)) (by kernel_rfl) (fun hc45 => ?_) (fun hc45 => ?_)
                    · replace h := ite_t hc45 h
                      refine WpC.skip ?_
                      refine tnU ?_
                      exact ⟨(v14.f_Mark == 43), h, by kernel_rfl⟩
                    · replace h := ite_f hc45 h
                      refine rS {} [0, 1, 4, 6, 7, 8, 9, 30, 52] [4, 8, 1006] hN (by kernel_rfl) (by kernel_rfl) ?_
                      refine tnU ?_
                      exact ⟨(v14.f_Mark == 63), h, by kernel_rfl⟩
                · rintro _ ⟨v21, h, rfl⟩
                  unfold millwrightref07_branch.j43 at h
                  refine tS (b := v21) (by kernel_rfl) (fun hc22 => ?_) (fun hc22 => ?_)
                  · replace h := ite_t hc22 h
                    refine WpC.seq ?_
                    refine WpC.seq ?_
                    refine rS {} [0, 1, 4, 6, 7, 8, 9, 57] [4, 8, 1006] hN (by kernel_rfl) (by kernel_rfl) ?_
                    refine tnU ?_
                    refine tS (b := (decide ((IntKind.i64.wrap ((v4.length : Int) - 1)) < 0))) (by kernel_rfl) (fun hc23 => ?_) (fun hc23 => ?_)
                    · replace h := ite_t hc23 h
                      refine WpC.seq ?_
                      refine rS {} [4, 5] [4] hN (by kernel_rfl) (by kernel_rfl) ?_
                      refine tnU ?_
                      refine WpC.ret ?_
                      refine thenQ_ret ?_
                      refine blockQ_ret ?_
                      refine blockQ_ret ?_
                      refine thenQ_ret ?_
                      have hq := Option.some.inj h
                      subst hq
                      refine thenQ_ret ?_
                      have h := hout9
                      refine blockQ_ret ?_
                      refine thenQ_ret ?_
                      have hq := Option.some.inj h
                      subst hq
                      exact eR (by kernel_rfl) (by kernel_rfl)
                    · replace h := ite_f hc23 h
                      refine WpC.conv (cS [.k [0, 1, 4, 6, 7, 8, 9] [4, 8, 1006]] (by kernel_rfl) (by kernel_rfl)) (WpC.skip ?_)
                      refine tnU ?_
                      refine WpC.seq ?_
                      refine rS {} [0, 1, 4, 6, 7, 8, 9, 10] [4, 8, 1006] hN (by kernel_rfl) (by kernel_rfl) ?_
                      refine tnU ?_
                      refine sqJ (fun st' => ∃ v24 : Int, millwrightref07_branch.j32 k (millwrightref07_branch.l6 k rf_millwrightref07_expression a0 a1 n) a0 a1 v4 v5 v14 v24 = some o8 ∧ st' = ⟨[(0, .p (.list (.named 7)) a0), (1, .p I6 a1), (4, .loc 4 0), (6, .vec 1006 7 0 v4.length), (7, .p I6 v5), (8, .loc 8 0), (9, .p I6 ((IntKind.i64.wrap ((v4.length : Int) - 1)) : Int)), (10, .p I6 v24)], [(4, .box [.p I6 (0 : Int), .p I6 (0 : Int), .p U6 ((List.replicate 4 (0 : Int)) : List Int), .p (.list (.named 4)) ([] : List T_millwrightref07_Node)]), (8, .box [.p (.int .u8) v14.f_Mark, .p U6 v14.f_Set]), (1006, .row 32 (.named 4) v4 false)]⟩) ?_ ?_
                      · refine WpC.seq ?_
                        refine rS {} [0, 1, 4, 6, 7, 8, 9, 10, 61] [4, 8, 1006] hN (by kernel_rfl) (by kernel_rfl) ?_
                        refine tnU ?_
                        refine tS (b := (v14.f_Mark == 43)) (by kernel_rfl) (fun hc33 => ?_) (fun hc33 => ?_)
                        · replace h := ite_t hc33 h
                          refine rS {} [0, 1, 4, 6, 7, 8, 9, 10] [4, 8, 1006] hN (by kernel_rfl) (by kernel_rfl) ?_
                          refine tnU ?_
                          exact ⟨5, h, by kernel_rfl⟩
                        · replace h := ite_f hc33 h
                          refine WpC.conv (cS [.k [0, 1, 4, 6, 7, 8, 9, 10] [4, 8, 1006]] (by kernel_rfl) (by kernel_rfl)) (WpC.skip ?_)
                          refine tnU ?_
                          exact ⟨4, h, by kernel_rfl⟩
                      · rintro _ ⟨v24, h, rfl⟩
                        unfold millwrightref07_branch.j32 at h
                        refine sqJ (fun st' => ∃ v25 : Int, millwrightref07_branch.j30 k (millwrightref07_branch.l6 k rf_millwrightref07_expression a0 a1 n) a0 a1 v4 v5 v25 = some o8 ∧ st' = ⟨[(0, .p (.list (.named 7)) a0), (1, .p I6 a1), (4, .loc 4 0), (6, .vec 1006 7 0 v4.length), (7, .p I6 v5), (9, .p I6 ((IntKind.i64.wrap ((v4.length : Int) - 1)) : Int)), (10, .p I6 v25)], [(4, .box [.p I6 (0 : Int), .p I6 (0 : Int), .p U6 ((List.replicate 4 (0 : Int)) : List Int), .p (.list (.named 4)) ([] : List T_millwrightref07_Node)]), (1006, .row 32 (.named 4) v4 false)]⟩) ?_ ?_
                        · refine WpC.seq ?_
                          refine rS {} [0, 1, 4, 6, 7, 9, 10, 64] [4, 1006] hN (by kernel_rfl) (by kernel_rfl) ?_
                          refine tnU ?_
                          refine tS (b := (v14.f_Mark == 63)) (by kernel_rfl) (fun hc31 => ?_) (fun hc31 => ?_)
                          · replace h := ite_t hc31 h
                            refine rS {} [0, 1, 4, 6, 7, 9, 10] [4, 1006] hN (by kernel_rfl) (by kernel_rfl) ?_
                            refine tnU ?_
                            exact ⟨6, h, by kernel_rfl⟩
                          · replace h := ite_f hc31 h
                            refine WpC.conv (cS [.k [0, 1, 4, 6, 7, 9, 10] [4, 1006]] (by kernel_rfl) (by kernel_rfl)) (WpC.skip ?_)
                            refine tnU ?_
                            exact ⟨v24, h, by kernel_rfl⟩
                        · rintro _ ⟨v25, h, rfl⟩
                          unfold millwrightref07_branch.j30 at h
                          obtain ⟨g26, h⟩ := if_some h
                          obtain ⟨v27, hv27, h⟩ := bind_some h
                          obtain ⟨g28, h⟩ := if_some h
                          obtain ⟨v29, hv29, h⟩ := bind_some h
                          refine rSC { its := [(5, .g g26), (6, .v (.named 4) hv27), (9, .g g28), (10, .v (.named 4) hv29)], fz := [7] } [0, 1, 4, 6, 7] [4, 1006] hN (by kernel_rfl) (by kernel_rfl) (cS [.k [0, 1, 4, 6, 7] [4, 1006], .x (Conv.cast (U := Un) (st := ⟨[(0, .p (.list (.named 7)) a0), (1, .p I6 a1), (4, .loc 4 0), (6, .vec 1006 7 0 v4.length), (7, .p I6 v5)], [(4, .box [.p I6 (0 : Int), .p I6 (0 : Int), .p U6 ((List.replicate 4 (0 : Int)) : List Int), .p (.list (.named 4)) ([] : List T_millwrightref07_Node)]), (1006, .row 32 (.named 4) (upd v4 (0 + (IntKind.i64.wrap ((v4.length : Int) - 1)).toNat) (T_millwrightref07_Node.mk v25 0 (List.replicate 4 (0 : Int)) [v27])) false)]⟩) (st' := ⟨[(0, .p (.list (.named 7)) a0), (1, .p I6 a1), (4, .loc 4 0), (6, .vec 1006 7 0 ((upd v4 (0 + (IntKind.i64.wrap ((v4.length : Int) - 1)).toNat) (T_millwrightref07_Node.mk v25 0 (List.replicate 4 (0 : Int)) [v27])).length)), (7, .p I6 v5)], [(4, .box [.p I6 (0 : Int), .p I6 (0 : Int), .p U6 ((List.replicate 4 (0 : Int)) : List Int), .p (.list (.named 4)) ([] : List T_millwrightref07_Node)]), (1006, .row 32 (.named 4) (upd v4 (0 + (IntKind.i64.wrap ((v4.length : Int) - 1)).toNat) (T_millwrightref07_Node.mk v25 0 (List.replicate 4 (0 : Int)) [v27])) false)]⟩) (by simp only [upd_length, List.length_nil, List.length_replicate]))] (by kernel_rfl) (by kernel_rfl)) ?_
                          refine blockQ_normal ?_
                          refine blockQ_normal ?_
                          refine tnU ?_
                          exact ⟨(upd v4 (0 + (IntKind.i64.wrap ((v4.length : Int) - 1)).toNat) (T_millwrightref07_Node.mk v25 0 (List.replicate 4 (0 : Int)) [v27])), v5, h, by kernel_rfl⟩
                  · replace h := ite_f hc22 h
                    refine WpC.seq ?_
                    refine rS {} [0, 1, 4, 6, 7, 75] [4, 1006] hN (by kernel_rfl) (by kernel_rfl) ?_
                    refine tnU ?_
                    refine tS (b := (v14.f_Mark == 40)) (by kernel_rfl) (fun hc34 => ?_) (fun hc34 => ?_)
                    · replace h := ite_t hc34 h
                      refine WpC.seq ?_
                      obtain ⟨v35, hv35, h⟩ := bind_some h
                      refine rS { its := [(2, .c (millwrightref07_closing.ok O hO k a0 v5 v35 hv35))] } [0, 1, 4, 6, 7, 11] [4, 1006] hN (by kernel_rfl) (by kernel_rfl) ?_
                      refine tnU ?_
                      refine WpC.seq ?_
                      refine WpC.seq ?_
                      refine rS {} [0, 1, 4, 6, 7, 11, 81] [4, 1006] hN (by kernel_rfl) (by kernel_rfl) ?_
                      refine tnU ?_
                      refine tS (b := (decide (v35 < 0))) (by kernel_rfl) (fun hc36 => ?_) (fun hc36 => ?_)
                      · replace h := ite_t hc36 h
                        refine WpC.seq ?_
                        refine rS {} [4, 5] [4] hN (by kernel_rfl) (by kernel_rfl) ?_
                        refine tnU ?_
                        refine WpC.ret ?_
                        refine thenQ_ret ?_
                        refine blockQ_ret ?_
                        refine blockQ_ret ?_
                        refine thenQ_ret ?_
                        have hq := Option.some.inj h
                        subst hq
                        refine thenQ_ret ?_
                        have h := hout9
                        refine blockQ_ret ?_
                        refine thenQ_ret ?_
                        have hq := Option.some.inj h
                        subst hq
                        exact eR (by kernel_rfl) (by kernel_rfl)
                      · replace h := ite_f hc36 h
                        refine WpC.conv (cS [.k [0, 1, 4, 6, 7, 11] [4, 1006]] (by kernel_rfl) (by kernel_rfl)) (WpC.skip ?_)
                        refine tnU ?_
                        refine WpC.seq ?_
                        obtain ⟨v37, hv37, h⟩ := bind_some h
                        obtain ⟨v38, hv38, h⟩ := bind_some h
                        refine rS { its := [(3, .v (.list (.named 7)) hv37), (4, .c (millwrightref07_opened.ok O hO k v37 v38 hv38))] } [0, 1, 4, 6, 7, 11, 12] [4, 1006] hN (by kernel_rfl) (by kernel_rfl) ?_
                        refine tnU ?_
                        refine WpC.seq ?_
                        obtain ⟨v39, hv39, h⟩ := bind_some h
                        obtain ⟨v40, hv40, h⟩ := bind_some h
                        refine rS { its := [(4, .v (.list (.named 7)) hv39), (6, .c (hrf_millwrightref07_expression v39 (IntKind.i64.wrap ((IntKind.i64.wrap (a1 + v38)) + 1)) v40 hv40))] } [0, 1, 4, 6, 11, 12, 13, 14] [4, 13, 1006] hN (by kernel_rfl) (by kernel_rfl) ?_
                        refine tnU ?_
                        refine WpC.seq ?_
                        refine WpC.seq ?_
                        refine rS {} [0, 1, 4, 6, 11, 12, 13, 101] [4, 13, 1006] hN (by kernel_rfl) (by kernel_rfl) ?_
                        refine tnU ?_
                        refine tS (b := (!v40.2)) (by kernel_rfl) (fun hc41 => ?_) (fun hc41 => ?_)
                        · replace h := ite_t hc41 h
                          refine WpC.seq ?_
                          refine rS {} [4, 5] [4] hN (by kernel_rfl) (by kernel_rfl) ?_
                          refine tnU ?_
                          refine WpC.ret ?_
                          refine thenQ_ret ?_
                          refine blockQ_ret ?_
                          refine blockQ_ret ?_
                          refine thenQ_ret ?_
                          have hq := Option.some.inj h
                          subst hq
                          refine thenQ_ret ?_
                          have h := hout9
                          refine blockQ_ret ?_
                          refine thenQ_ret ?_
                          have hq := Option.some.inj h
                          subst hq
                          exact eR (by kernel_rfl) (by kernel_rfl)
                        · replace h := ite_f hc41 h
                          refine WpC.conv (cS [.k [0, 1, 4, 6, 11, 12, 13] [4, 13, 1006]] (by kernel_rfl) (by kernel_rfl)) (WpC.skip ?_)
                          refine tnU ?_
                          refine WpC.seq ?_
                          obtain ⟨g42, h⟩ := if_some h
                          refine rS { its := [(6, .g g42)], fz := [3] } [0, 1, 4, 6, 11] [4, 109] hN (by kernel_rfl) (by kernel_rfl) ?_
                          refine tnU ?_
                          refine rSC {} [0, 1, 4, 6, 7] [4, 109] hN (by kernel_rfl) (by kernel_rfl) (cS [.rn 109 1006, .k [0, 1, 4, 6, 7] [4, 1006]] (by kernel_rfl) (by kernel_rfl)) ?_
                          refine blockQ_normal ?_
                          refine blockQ_normal ?_
                          refine tnU ?_
                          exact ⟨(v4 ++ [(T_millwrightref07_Node.mk 7 (IntKind.i64.wrap ((IntKind.i64.wrap (a1 + v38)) + 1)) (List.replicate 4 (0 : Int)) [(T_millwrightref07_Node.mk v40.1.f_Kind v40.1.f_Index v40.1.f_Set v40.1.f_Kids)])]), v35, h, by kernel_rfl⟩
                    · replace h := ite_f hc34 h
                      refine WpC.seq ?_
                      refine rS {} [4, 5] [4] hN (by kernel_rfl) (by kernel_rfl) ?_
                      refine tnU ?_
                      refine WpC.ret ?_
                      refine blockQ_ret ?_
                      refine blockQ_ret ?_
                      refine thenQ_ret ?_
                      have hq := Option.some.inj h
                      subst hq
                      refine thenQ_ret ?_
                      have h := hout9
                      refine blockQ_ret ?_
                      refine thenQ_ret ?_
                      have hq := Option.some.inj h
                      subst hq
                      exact eR (by kernel_rfl) (by kernel_rfl)
        · rintro _ ⟨v11, v12, h, rfl⟩
          unfold millwrightref07_branch.j13 at h
          refine rS {} [0, 1, 4, 6, 7] [4, 1006] hN (by kernel_rfl) (by kernel_rfl) ?_
          refine tnU ?_
          exact ⟨n, Nat.lt_succ_self n, v11, (IntKind.i64.wrap (v12 + 1)), h, by kernel_rfl⟩
      · replace h := ite_f hc10 h
        refine WpC.conv (cS [.k [4, 6] [4, 1006]] (by kernel_rfl) (by kernel_rfl)) (WpC.exit ?_)
        refine thenQ_exit ?_
        have hq := Option.some.inj h
        subst hq
        refine thenQ_exit ?_
        have h := hout9
        refine blockQ_hit ?_
        refine tnU ?_
        exact ⟨v4, h, by kernel_rfl⟩
  · rintro _ ⟨v1, h, rfl⟩
    unfold millwrightref07_branch.j3 at h
    refine WpC.seq ?_
    obtain ⟨v2, hv2, h⟩ := bind_some h
    refine rS { its := [(1, .c (millwrightref07_one.ok O hO k 2 v1 v2 hv2))] } [4, 5] [4] hN (by kernel_rfl) (by kernel_rfl) ?_
    refine tnU ?_
    refine WpC.ret ?_
    have hq := Option.some.inj h
    subst hq
    exact eR (by kernel_rfl) (by kernel_rfl)

theorem millwrightref07_expression.bok (O : Out) (hO : GOkE O) (k : Nat) (rf_millwrightref07_branch : (List T_millwrightref07_sign) → Int → Option (T_millwrightref07_Node × Bool)) (hrf_millwrightref07_branch : ∀ (a0 : List T_millwrightref07_sign) (a1 : Int) (out : T_millwrightref07_Node × Bool), rf_millwrightref07_branch a0 a1 = some out → COk Un O Tryd.prog 28 { ar := [.p (.list (.named 7)) a0, .p I6 a1], r := .tup [.p (.named 4) out.1, .p .bool out.2] }) (a0 : List T_millwrightref07_sign) (a1 : Int) (out : T_millwrightref07_Node × Bool) (h : millwrightref07_expression.b k rf_millwrightref07_branch a0 a1 = some out) : COk Un O Tryd.prog 14 { ar := [.p (.list (.named 7)) a0, .p I6 a1], r := .tup [.p (.named 4) out.1, .p .bool out.2] } := by
  refine cok_of_wp Tryd.func14 rfl (k := 91) rfl (Nat.le_of_ble_eq_true rfl) (namesOk_pure rfl rfl rfl rfl) ?_
  intro B hN
  refine WpC.conv (cvK (b := ⟨[(0, .p (.list (.named 7)) a0), (1, .p I6 a1)], []⟩) [0, 1] [] (by kernel_rfl)) ?_
  unfold millwrightref07_expression.b at h
  refine WpC.seq ?_
  refine rS {} [0, 1, 4] [4] hN (by kernel_rfl) (by kernel_rfl) ?_
  refine tnU ?_
  refine WpC.seq ?_
  refine rSC {} [0, 1, 4, 6] [4, 12] hN (by kernel_rfl) (by kernel_rfl) (cS [.k [0, 1, 4, 6] [4, 12], .x (Conv.cast (U := Un) (st := ⟨[(0, .p (.list (.named 7)) a0), (1, .p I6 a1), (4, .loc 4 0), (6, .vec 12 7 0 (([] : List T_millwrightref07_Node).length))], [(4, .box [.p I6 (0 : Int), .p I6 (0 : Int), .p U6 ((List.replicate 4 (0 : Int)) : List Int), .p (.list (.named 4)) ([] : List T_millwrightref07_Node)]), (12, .row 32 (.named 4) ([] : List T_millwrightref07_Node) true)]⟩) (st' := ⟨[(0, .p (.list (.named 7)) a0), (1, .p I6 a1), (4, .loc 4 0), (6, .vec 12 7 0 0)], [(4, .box [.p I6 (0 : Int), .p I6 (0 : Int), .p U6 ((List.replicate 4 (0 : Int)) : List Int), .p (.list (.named 4)) ([] : List T_millwrightref07_Node)]), (12, .row 32 (.named 4) ([] : List T_millwrightref07_Node) true)]⟩) (by simp only [upd_length, List.length_nil, List.length_replicate]))] (by kernel_rfl) (by kernel_rfl)) ?_
  refine tnU ?_
  refine WpC.seq ?_
  refine rS {} [0, 1, 4, 6, 7, 8] [4, 12] hN (by kernel_rfl) (by kernel_rfl) ?_
  refine tnU ?_
  refine sqJ (fun st' => ∃ v1 : List T_millwrightref07_Node, millwrightref07_expression.j3 k v1 = some out ∧ st' = ⟨[(4, .loc 4 0), (6, .vec 1006 7 0 v1.length)], [(4, .box [.p I6 (0 : Int), .p I6 (0 : Int), .p U6 ((List.replicate 4 (0 : Int)) : List Int), .p (.list (.named 4)) ([] : List T_millwrightref07_Node)]), (1006, .row 32 (.named 4) v1 false)]⟩) ?_ ?_
  · refine WpC.seq ?_
    refine rS {} [0, 1, 4, 6, 7, 8, 9] [4, 12] hN (by kernel_rfl) (by kernel_rfl) ?_
    refine tnU ?_
    refine WpC.block ?_
    obtain ⟨o10, hlo10, h⟩ := bind_some h
    have hout11 := h
    clear h
    refine WpC.conv (cS [.lo 12, .k [0, 1, 4, 6, 7, 8, 9] [4, 12], .rn 12 1006, .k [0, 1, 4, 6, 7, 8, 9] [4, 1006]] (by kernel_rfl) (by kernel_rfl)) ?_
    refine WpC.loop (U := Un) (fun n st' => ∃ v4 : List T_millwrightref07_Node, ∃ v5 : Int, ∃ v6 : Int, ∃ v7 : Int, millwrightref07_expression.l8 k rf_millwrightref07_branch a0 a1 n v4 v5 v6 v7 = some o10 ∧ st' = ⟨[(0, .p (.list (.named 7)) a0), (1, .p I6 a1), (4, .loc 4 0), (6, .vec 1006 7 0 v4.length), (7, .p I6 v5), (8, .p I6 v6), (9, .p I6 v7)], [(4, .box [.p I6 (0 : Int), .p I6 (0 : Int), .p U6 ((List.replicate 4 (0 : Int)) : List Int), .p (.list (.named 4)) ([] : List T_millwrightref07_Node)]), (1006, .row 32 (.named 4) v4 false)]⟩) k ⟨([] : List T_millwrightref07_Node), 0, 0, 0, hlo10, by kernel_rfl⟩ ?_
    clear hlo10
    rintro (_ | n) _ ⟨v4, v5, v6, v7, h, rfl⟩
    · cases h
    · rw [millwrightref07_expression.l8] at h
      refine WpC.seq ?_
      refine WpC.seq ?_
      refine rS {} [0, 1, 4, 6, 7, 8, 9, 16] [4, 1006] hN (by kernel_rfl) (by kernel_rfl) ?_
      refine tnU ?_
      refine tS (b := (decide (v7 ≤ (a0.length : Int)))) (by kernel_rfl) (fun hc12 => ?_) (fun hc12 => ?_)
      · replace h := ite_t hc12 h
        refine WpC.conv (cS [.k [0, 1, 4, 6, 7, 8, 9] [4, 1006]] (by kernel_rfl) (by kernel_rfl)) (WpC.skip ?_)
        refine tnU ?_
        refine sqJ (fun st' => ∃ v13 : List T_millwrightref07_Node, ∃ v14 : Int, ∃ v15 : Int, millwrightref07_expression.j16 k (millwrightref07_expression.l8 k rf_millwrightref07_branch a0 a1 n) a0 a1 v7 v13 v14 v15 = some o10 ∧ st' = ⟨[(0, .p (.list (.named 7)) a0), (1, .p I6 a1), (4, .loc 4 0), (6, .vec 1006 7 0 v13.length), (7, .p I6 v14), (8, .p I6 v15), (9, .p I6 v7)], [(4, .box [.p I6 (0 : Int), .p I6 (0 : Int), .p U6 ((List.replicate 4 (0 : Int)) : List Int), .p (.list (.named 4)) ([] : List T_millwrightref07_Node)]), (1006, .row 32 (.named 4) v13 false)]⟩) ?_ ?_
        · refine WpC.block ?_
          refine sqJ (fun st' => ∃ v17 : Int, millwrightref07_expression.j38 k (millwrightref07_expression.l8 k rf_millwrightref07_branch a0 a1 n) rf_millwrightref07_branch a0 a1 v4 v5 v7 v17 = some o10 ∧ st' = ⟨[(0, .p (.list (.named 7)) a0), (1, .p I6 a1), (4, .loc 4 0), (6, .vec 1006 7 0 v4.length), (7, .p I6 v5), (8, .p I6 v17), (9, .p I6 v7)], [(4, .box [.p I6 (0 : Int), .p I6 (0 : Int), .p U6 ((List.replicate 4 (0 : Int)) : List Int), .p (.list (.named 4)) ([] : List T_millwrightref07_Node)]), (1006, .row 32 (.named 4) v4 false)]⟩) ?_ ?_
          · refine sqJ (fun st' => ∃ v39 : Bool, millwrightref07_expression.j41 k (millwrightref07_expression.l8 k rf_millwrightref07_branch a0 a1 n) rf_millwrightref07_branch a0 a1 v4 v5 v6 v7 v39 = some o10 ∧ st' = ⟨[(0, .p (.list (.named 7)) a0), (1, .p I6 a1), (4, .loc 4 0), (6, .vec 1006 7 0 v4.length), (7, .p I6 v5), (8, .p I6 v6), (9, .p I6 v7), (30, .p .bool v39)], [(4, .box [.p I6 (0 : Int), .p I6 (0 : Int), .p U6 ((List.replicate 4 (0 : Int)) : List Int), .p (.list (.named 4)) ([] : List T_millwrightref07_Node)]), (1006, .row 32 (.named 4) v4 false)]⟩) ?_ ?_
            · rcases bool_cases (decide (v7 < (a0.length : Int))) with hc42 | hc42
              · replace h := ite_t hc42 h
                obtain ⟨v43, hv43, h⟩ := bind_some h
                refine rS { its := [(7, .v (.named 7) hv43)], kn := [(23, .t hc42)] } [0, 1, 4, 6, 7, 8, 9, 30] [4, 1006] hN (by kernel_rfl) (by kernel_rfl) ?_
                refine tnU ?_
                exact ⟨(v43.f_Mark == 40), h, by kernel_rfl⟩
              · replace h := ite_f hc42 h
                refine rS { kn := [(23, .f hc42)] } [0, 1, 4, 6, 7, 8, 9, 30] [4, 1006] hN (by kernel_rfl) (by kernel_rfl) ?_
                refine tnU ?_
                exact ⟨false, h, by kernel_rfl⟩
            · rintro _ ⟨v39, h, rfl⟩
              unfold millwrightref07_expression.j41 at h
              refine tS (b := v39) (by kernel_rfl) (fun hc40 => ?_) (fun hc40 => ?_)
              · replace h := ite_t hc40 h
                refine rS {} [0, 1, 4, 6, 7, 8, 9] [4, 1006] hN (by kernel_rfl) (by kernel_rfl) ?_
                refine tnU ?_
                exact ⟨(IntKind.i64.wrap (v6 + 1)), h, by kernel_rfl⟩
              · replace h := ite_f hc40 h
                refine WpC.conv (cS [.k [0, 1, 4, 6, 7, 8, 9] [4, 1006]] (by kernel_rfl) (by kernel_rfl)) (WpC.skip ?_)
                refine tnU ?_
                exact ⟨v6, h, by kernel_rfl⟩
          · rintro _ ⟨v17, h, rfl⟩
            unfold millwrightref07_expression.j38 at h
            refine sqJ (fun st' => ∃ v18 : Int, millwrightref07_expression.j32 k (millwrightref07_expression.l8 k rf_millwrightref07_branch a0 a1 n) rf_millwrightref07_branch a0 a1 v4 v5 v7 v18 = some o10 ∧ st' = ⟨[(0, .p (.list (.named 7)) a0), (1, .p I6 a1), (4, .loc 4 0), (6, .vec 1006 7 0 v4.length), (7, .p I6 v5), (8, .p I6 v18), (9, .p I6 v7)], [(4, .box [.p I6 (0 : Int), .p I6 (0 : Int), .p U6 ((List.replicate 4 (0 : Int)) : List Int), .p (.list (.named 4)) ([] : List T_millwrightref07_Node)]), (1006, .row 32 (.named 4) v4 false)]⟩) ?_ ?_
            · refine sqJ (fun st' => ∃ v33 : Bool, millwrightref07_expression.j35 k (millwrightref07_expression.l8 k rf_millwrightref07_branch a0 a1 n) rf_millwrightref07_branch a0 a1 v4 v5 v7 v17 v33 = some o10 ∧ st' = ⟨[(0, .p (.list (.named 7)) a0), (1, .p I6 a1), (4, .loc 4 0), (6, .vec 1006 7 0 v4.length), (7, .p I6 v5), (8, .p I6 v17), (9, .p I6 v7), (44, .p .bool v33)], [(4, .box [.p I6 (0 : Int), .p I6 (0 : Int), .p U6 ((List.replicate 4 (0 : Int)) : List Int), .p (.list (.named 4)) ([] : List T_millwrightref07_Node)]), (1006, .row 32 (.named 4) v4 false)]⟩) ?_ ?_
              · rcases bool_cases (decide (v7 < (a0.length : Int))) with hc36 | hc36
                · replace h := ite_t hc36 h
                  obtain ⟨v37, hv37, h⟩ := bind_some h
                  refine rS { its := [(7, .v (.named 7) hv37)], kn := [(37, .t hc36)] } [0, 1, 4, 6, 7, 8, 9, 44] [4, 1006] hN (by kernel_rfl) (by kernel_rfl) ?_
                  refine tnU ?_
                  exact ⟨(v37.f_Mark == 41), h, by kernel_rfl⟩
                · replace h := ite_f hc36 h
                  refine rS { kn := [(37, .f hc36)] } [0, 1, 4, 6, 7, 8, 9, 44] [4, 1006] hN (by kernel_rfl) (by kernel_rfl) ?_
                  refine tnU ?_
                  exact ⟨false, h, by kernel_rfl⟩
              · rintro _ ⟨v33, h, rfl⟩
                unfold millwrightref07_expression.j35 at h
                refine tS (b := v33) (by kernel_rfl) (fun hc34 => ?_) (fun hc34 => ?_)
                · replace h := ite_t hc34 h
                  refine rS {} [0, 1, 4, 6, 7, 8, 9] [4, 1006] hN (by kernel_rfl) (by kernel_rfl) ?_
                  refine tnU ?_
                  exact ⟨(IntKind.i64.wrap (v17 - 1)), h, by kernel_rfl⟩
                · replace h := ite_f hc34 h
                  refine WpC.conv (cS [.k [0, 1, 4, 6, 7, 8, 9] [4, 1006]] (by kernel_rfl) (by kernel_rfl)) (WpC.skip ?_)
                  refine tnU ?_
                  exact ⟨v17, h, by kernel_rfl⟩
            · rintro _ ⟨v18, h, rfl⟩
              unfold millwrightref07_expression.j32 at h
              refine WpC.seq ?_
              refine WpC.seq ?_
              refine rS {} [0, 1, 4, 6, 7, 8, 9, 48] [4, 1006] hN (by kernel_rfl) (by kernel_rfl) ?_
              refine tnU ?_
              refine tS (b := (decide (v18 < 0))) (by kernel_rfl) (fun hc19 => ?_) (fun hc19 => ?_)
              · replace h := ite_t hc19 h
                refine WpC.seq ?_
                refine rS {} [4, 5] [4] hN (by kernel_rfl) (by kernel_rfl) ?_
                refine tnU ?_
                refine WpC.ret ?_
                refine thenQ_ret ?_
                refine blockQ_ret ?_
                refine thenQ_ret ?_
                have hq := Option.some.inj h
                subst hq
                refine thenQ_ret ?_
                have h := hout11
                refine blockQ_ret ?_
                refine thenQ_ret ?_
                have hq := Option.some.inj h
                subst hq
                exact eR (by kernel_rfl) (by kernel_rfl)
              · replace h := ite_f hc19 h
                refine WpC.conv (cS [.k [0, 1, 4, 6, 7, 8, 9] [4, 1006]] (by kernel_rfl) (by kernel_rfl)) (WpC.skip ?_)
                refine tnU ?_
                refine sqJ (fun st' => ∃ v20 : Bool, millwrightref07_expression.j28 k (millwrightref07_expression.l8 k rf_millwrightref07_branch a0 a1 n) rf_millwrightref07_branch a0 a1 v4 v5 v7 v18 v20 = some o10 ∧ st' = ⟨[(0, .p (.list (.named 7)) a0), (1, .p I6 a1), (4, .loc 4 0), (6, .vec 1006 7 0 v4.length), (7, .p I6 v5), (8, .p I6 v18), (9, .p I6 v7), (65, .p .bool v20)], [(4, .box [.p I6 (0 : Int), .p I6 (0 : Int), .p U6 ((List.replicate 4 (0 : Int)) : List Int), .p (.list (.named 4)) ([] : List T_millwrightref07_Node)]), (1006, .row 32 (.named 4) v4 false)]⟩) ?_ ?_
                · rcases bool_cases (v7 == (a0.length : Int)) with hc29 | hc29
                  · replace h := ite_t hc29 h
                    refine rS { kn := [(54, .t hc29)] } [0, 1, 4, 6, 7, 8, 9, 65] [4, 1006] hN (by kernel_rfl) (by kernel_rfl) ?_
                    refine tnU ?_
                    exact ⟨true, h, by kernel_rfl⟩
                  · replace h := ite_f hc29 h
                    rcases bool_cases (v18 == 0) with hc30 | hc30
                    · replace h := ite_t hc30 h
                      obtain ⟨v31, hv31, h⟩ := bind_some h
                      refine rS { its := [(10, .v (.named 7) hv31)], kn := [(54, .f hc29), (57, .t hc30)] } [0, 1, 4, 6, 7, 8, 9, 65] [4, 1006] hN (by kernel_rfl) (by kernel_rfl) ?_
                      refine tnU ?_
                      exact ⟨(v31.f_Mark == 124), h, by kernel_rfl⟩
                    · replace h := ite_f hc30 h
                      refine rS { kn := [(54, .f hc29), (57, .f hc30)] } [0, 1, 4, 6, 7, 8, 9, 65] [4, 1006] hN (by kernel_rfl) (by kernel_rfl) ?_
                      refine tnU ?_
                      exact ⟨false, h, by kernel_rfl⟩
                · rintro _ ⟨v20, h, rfl⟩
                  unfold millwrightref07_expression.j28 at h
                  refine tS (b := v20) (by kernel_rfl) (fun hc21 => ?_) (fun hc21 => ?_)
                  · replace h := ite_t hc21 h
                    refine WpC.seq ?_
                    obtain ⟨v22, hv22, h⟩ := bind_some h
                    obtain ⟨v23, hv23, h⟩ := bind_some h
                    obtain ⟨v24, hv24, h⟩ := bind_some h
                    obtain ⟨v25, hv25, h⟩ := bind_some h
                    refine rA { its := [(3, .v (.list (.named 7)) hv22), (7, .v (.list (.named 7)) hv23), (8, .c (millwrightref07_opened.ok O hO k v23 v24 hv24)), (10, .c (hrf_millwrightref07_branch v22 (IntKind.i64.wrap (a1 + v24)) v25 hv25))] } [0, 1, 4, 6, 8, 9, 10, 11] [4, 10, 1006] hN (by kernel_rfl) (by kernel_rfl) (by kernel_rfl) ?_
                    refine tnU ?_
                    refine WpC.seq ?_
                    refine WpC.seq ?_
                    refine rS {} [0, 1, 4, 6, 8, 9, 10, 81] [4, 10, 1006] hN (by kernel_rfl) (by kernel_rfl) ?_
                    refine tnU ?_
                    refine tS (b := (!v25.2)) (by kernel_rfl) (fun hc26 => ?_) (fun hc26 => ?_)
                    · replace h := ite_t hc26 h
                      refine WpC.seq ?_
                      refine rS {} [4, 5] [4] hN (by kernel_rfl) (by kernel_rfl) ?_
                      refine tnU ?_
                      refine WpC.ret ?_
                      refine thenQ_ret ?_
                      refine blockQ_ret ?_
                      refine thenQ_ret ?_
                      have hq := Option.some.inj h
                      subst hq
                      refine thenQ_ret ?_
                      have h := hout11
                      refine blockQ_ret ?_
                      refine thenQ_ret ?_
                      have hq := Option.some.inj h
                      subst hq
                      exact eR (by kernel_rfl) (by kernel_rfl)
                    · replace h := ite_f hc26 h
                      refine WpC.conv (cS [.k [0, 1, 4, 6, 8, 9, 10] [4, 10, 1006]] (by kernel_rfl) (by kernel_rfl)) (WpC.skip ?_)
                      refine tnU ?_
                      refine WpC.seq ?_
                      obtain ⟨g27, h⟩ := if_some h
                      refine rS { its := [(3, .g g27)] } [0, 1, 4, 6, 8, 9] [4, 86] hN (by kernel_rfl) (by kernel_rfl) ?_
                      refine tnU ?_
                      refine rSC {} [0, 1, 4, 6, 7, 8, 9] [4, 86] hN (by kernel_rfl) (by kernel_rfl) (cS [.rn 86 1006, .k [0, 1, 4, 6, 7, 8, 9] [4, 1006]] (by kernel_rfl) (by kernel_rfl)) ?_
                      refine blockQ_normal ?_
                      refine tnU ?_
                      exact ⟨(v4 ++ [(T_millwrightref07_Node.mk v25.1.f_Kind v25.1.f_Index v25.1.f_Set v25.1.f_Kids)]), (IntKind.i64.wrap (v7 + 1)), v18, h, by kernel_rfl⟩
                  · replace h := ite_f hc21 h
                    refine WpC.conv (cS [.k [0, 1, 4, 6, 7, 8, 9] [4, 1006]] (by kernel_rfl) (by kernel_rfl)) (WpC.skip ?_)
                    refine blockQ_normal ?_
                    refine tnU ?_
                    exact ⟨v4, v5, v18, h, by kernel_rfl⟩
        · rintro _ ⟨v13, v14, v15, h, rfl⟩
          unfold millwrightref07_expression.j16 at h
          refine rS {} [0, 1, 4, 6, 7, 8, 9] [4, 1006] hN (by kernel_rfl) (by kernel_rfl) ?_
          refine tnU ?_
          exact ⟨n, Nat.lt_succ_self n, v13, v14, v15, (IntKind.i64.wrap (v7 + 1)), h, by kernel_rfl⟩
      · replace h := ite_f hc12 h
        refine WpC.conv (cS [.k [4, 6] [4, 1006]] (by kernel_rfl) (by kernel_rfl)) (WpC.exit ?_)
        refine thenQ_exit ?_
        have hq := Option.some.inj h
        subst hq
        refine thenQ_exit ?_
        have h := hout11
        refine blockQ_hit ?_
        refine tnU ?_
        exact ⟨v4, h, by kernel_rfl⟩
  · rintro _ ⟨v1, h, rfl⟩
    unfold millwrightref07_expression.j3 at h
    refine WpC.seq ?_
    obtain ⟨v2, hv2, h⟩ := bind_some h
    refine rS { its := [(1, .c (millwrightref07_one.ok O hO k 3 v1 v2 hv2))] } [4, 5] [4] hN (by kernel_rfl) (by kernel_rfl) ?_
    refine tnU ?_
    refine WpC.ret ?_
    have hq := Option.some.inj h
    subst hq
    exact eR (by kernel_rfl) (by kernel_rfl)

theorem scc_millwrightref07_expression.ok (O : Out) (hO : GOkE O) : ∀ k : Nat, (∀ (a0 : List T_millwrightref07_sign) (a1 : Int) (out : T_millwrightref07_Node × Bool), millwrightref07_branch.f k a0 a1 = some out → COk Un O Tryd.prog 28 { ar := [.p (.list (.named 7)) a0, .p (.int .i64) a1], r := .tup [.p (.named 4) out.1, .p .bool out.2] }) ∧ (∀ (a0 : List T_millwrightref07_sign) (a1 : Int) (out : T_millwrightref07_Node × Bool), millwrightref07_expression.f k a0 a1 = some out → COk Un O Tryd.prog 14 { ar := [.p (.list (.named 7)) a0, .p (.int .i64) a1], r := .tup [.p (.named 4) out.1, .p .bool out.2] }) := by
  intro k
  induction k with
  | zero => exact ⟨fun a0 a1 out h => (by have h2 : (none : Option (T_millwrightref07_Node × Bool)) = some out := h; cases h2), fun a0 a1 out h => (by have h2 : (none : Option (T_millwrightref07_Node × Bool)) = some out := h; cases h2)⟩
  | succ k ih => exact ⟨fun a0 a1 out h => millwrightref07_branch.bok O hO k _ ih.2 a0 a1 out h, fun a0 a1 out h => millwrightref07_expression.bok O hO k _ ih.1 a0 a1 out h⟩
theorem millwrightref07_expression.ok (O : Out) (hO : GOkE O) (k : Nat) (a0 : List T_millwrightref07_sign) (a1 : Int) (out : T_millwrightref07_Node × Bool) (h : millwrightref07_expression.f k a0 a1 = some out) : COk Un O Tryd.prog 14 { ar := [.p (.list (.named 7)) a0, .p (.int .i64) a1], r := .tup [.p (.named 4) out.1, .p .bool out.2] } := (scc_millwrightref07_expression.ok O hO k).2 a0 a1 out h

theorem millwrightref07_Parse.ok (O : Out) (hO : GOkE O) (k : Nat) (a0 : List UInt8) (out : T_millwrightref07_Node × Int) (h : millwrightref07_Parse.f k a0 = some out) : COk Un O Tryd.prog 6 { ar := [.p .str a0], r := .tup [.p (.named 4) out.1, .p I6 out.2] } := by
  refine cok_of_wp Tryd.func6 rfl (k := 32) rfl (Nat.le_of_ble_eq_true rfl) (namesOk_pure rfl rfl rfl rfl) ?_
  intro B hN
  refine WpC.conv (cvK (b := ⟨[(0, .p .str a0)], []⟩) [0] [] (by kernel_rfl)) ?_
  unfold millwrightref07_Parse.f at h
  refine WpC.seq ?_
  refine rS {} [0, 2] [2] hN (by kernel_rfl) (by kernel_rfl) ?_
  refine tnU ?_
  refine WpC.seq ?_
  refine WpC.seq ?_
  refine rS {} [0, 2, 9] [2] hN (by kernel_rfl) (by kernel_rfl) ?_
  refine tnU ?_
  refine tS (b := (decide ((a0.length : Int) > 60))) (by kernel_rfl) (fun hc1 => ?_) (fun hc1 => ?_)
  · replace h := ite_t hc1 h
    refine WpC.seq ?_
    refine rS {} [2, 3] [2] hN (by kernel_rfl) (by kernel_rfl) ?_
    refine tnU ?_
    refine WpC.ret ?_
    refine thenQ_ret ?_
    have hq := Option.some.inj h
    subst hq
    exact eR (by kernel_rfl) (by kernel_rfl)
  · replace h := ite_f hc1 h
    refine WpC.conv (cS [.k [0, 2] [2]] (by kernel_rfl) (by kernel_rfl)) (WpC.skip ?_)
    refine tnU ?_
    refine WpC.seq ?_
    obtain ⟨v2, hv2, h⟩ := bind_some h
    refine rS { its := [(1, .c (millwrightref07_signs.ok O hO k a0 v2 hv2))] } [2, 4, 5] [2] hN (by kernel_rfl) (by kernel_rfl) ?_
    refine tnU ?_
    refine WpC.seq ?_
    refine WpC.seq ?_
    refine rS {} [2, 4, 17] [2] hN (by kernel_rfl) (by kernel_rfl) ?_
    refine tnU ?_
    refine tS (b := (!v2.2)) (by kernel_rfl) (fun hc3 => ?_) (fun hc3 => ?_)
    · replace h := ite_t hc3 h
      refine WpC.seq ?_
      refine rS {} [2, 3] [2] hN (by kernel_rfl) (by kernel_rfl) ?_
      refine tnU ?_
      refine WpC.ret ?_
      refine thenQ_ret ?_
      have hq := Option.some.inj h
      subst hq
      exact eR (by kernel_rfl) (by kernel_rfl)
    · replace h := ite_f hc3 h
      refine WpC.conv (cS [.k [2, 4] [2]] (by kernel_rfl) (by kernel_rfl)) (WpC.skip ?_)
      refine tnU ?_
      refine WpC.seq ?_
      obtain ⟨v4, hv4, h⟩ := bind_some h
      refine rS { its := [(1, .c (millwrightref07_expression.ok O hO k v2.1 0 v4 hv4))] } [2, 4, 5, 6] [2, 6] hN (by kernel_rfl) (by kernel_rfl) ?_
      refine tnU ?_
      refine WpC.seq ?_
      refine WpC.seq ?_
      refine rS {} [2, 4, 6, 25] [2, 6] hN (by kernel_rfl) (by kernel_rfl) ?_
      refine tnU ?_
      refine tS (b := (!v4.2)) (by kernel_rfl) (fun hc5 => ?_) (fun hc5 => ?_)
      · replace h := ite_t hc5 h
        refine WpC.seq ?_
        refine rS {} [2, 3] [2] hN (by kernel_rfl) (by kernel_rfl) ?_
        refine tnU ?_
        refine WpC.ret ?_
        refine thenQ_ret ?_
        have hq := Option.some.inj h
        subst hq
        exact eR (by kernel_rfl) (by kernel_rfl)
      · replace h := ite_f hc5 h
        refine WpC.conv (cS [.k [2, 4, 6] [2, 6]] (by kernel_rfl) (by kernel_rfl)) (WpC.skip ?_)
        refine tnU ?_
        refine WpC.seq ?_
        refine WpC.seq ?_
        obtain ⟨v6, hv6, h⟩ := bind_some h
        refine rS { its := [(1, .c (millwrightref07_opened.ok O hO k v2.1 v6 hv6))] } [2, 6, 29] [2, 6] hN (by kernel_rfl) (by kernel_rfl) ?_
        refine tnU ?_
        refine tS (b := (decide (v6 > 9))) (by kernel_rfl) (fun hc7 => ?_) (fun hc7 => ?_)
        · replace h := ite_t hc7 h
          refine WpC.seq ?_
          refine rS {} [2, 3] [2] hN (by kernel_rfl) (by kernel_rfl) ?_
          refine tnU ?_
          refine WpC.ret ?_
          refine thenQ_ret ?_
          have hq := Option.some.inj h
          subst hq
          exact eR (by kernel_rfl) (by kernel_rfl)
        · replace h := ite_f hc7 h
          refine WpC.conv (cS [.k [2, 6] [2, 6]] (by kernel_rfl) (by kernel_rfl)) (WpC.skip ?_)
          refine tnU ?_
          refine WpC.seq ?_
          refine rS {} [2, 3] [2] hN (by kernel_rfl) (by kernel_rfl) ?_
          refine tnU ?_
          refine WpC.ret ?_
          have hq := Option.some.inj h
          subst hq
          exact eR (by kernel_rfl) (by kernel_rfl)

theorem millwrightnum_all.ok (O : Out) (hO : GOkE O) (k : Nat) (out : List Nat) (h : millwrightnum_all.f k = some out) : COk Un O Tryd.prog 16 { ar := [], r := .p (.list .err) out } := by
  refine cok_of_wp Tryd.func16 rfl (k := 20) rfl (Nat.le_of_ble_eq_true rfl) (namesOk_pure rfl rfl rfl rfl) ?_
  intro B hN
  refine WpC.conv (cvK (b := ⟨[], []⟩) [] [] (by kernel_rfl)) ?_
  unfold millwrightnum_all.f at h
  refine WpC.seq ?_
  refine rS {} [] [] hN (by kernel_rfl) (by kernel_rfl) ?_
  refine tnU ?_
  refine WpC.seq ?_
  refine rS { its := [(0, .e 0 (sok_loadG (U := Un) (t := .err) (rs := []) rfl rfl ty_25 rfl rfl (hO.var 0 4 rfl) (fun S w => .err 0))), (1, .e 1 (sok_loadG (U := Un) (t := .err) (rs := []) rfl rfl ty_25 rfl rfl (hO.var 1 0 rfl) (fun S w => .err 1))), (2, .e 2 (sok_loadG (U := Un) (t := .err) (rs := []) rfl rfl ty_25 rfl rfl (hO.var 2 5 rfl) (fun S w => .err 2))), (3, .e 3 (sok_loadG (U := Un) (t := .err) (rs := []) rfl rfl ty_25 rfl rfl (hO.var 3 6 rfl) (fun S w => .err 3))), (4, .e 4 (sok_loadG (U := Un) (t := .err) (rs := []) rfl rfl ty_25 rfl rfl (hO.var 4 7 rfl) (fun S w => .err 4))), (5, .e 5 (sok_loadG (U := Un) (t := .err) (rs := []) rfl rfl ty_25 rfl rfl (hO.var 5 1 rfl) (fun S w => .err 5))), (6, .e 6 (sok_loadG (U := Un) (t := .err) (rs := []) rfl rfl ty_25 rfl rfl (hO.var 6 8 rfl) (fun S w => .err 6))), (7, .e 7 (sok_loadG (U := Un) (t := .err) (rs := []) rfl rfl ty_25 rfl rfl (hO.var 7 9 rfl) (fun S w => .err 7))), (8, .e 8 (sok_loadG (U := Un) (t := .err) (rs := []) rfl rfl ty_25 rfl rfl (hO.var 8 10 rfl) (fun S w => .err 8))), (9, .e 9 (sok_loadG (U := Un) (t := .err) (rs := []) rfl rfl ty_25 rfl rfl (hO.var 9 2 rfl) (fun S w => .err 9))), (10, .e 10 (sok_loadG (U := Un) (t := .err) (rs := []) rfl rfl ty_25 rfl rfl (hO.var 10 11 rfl) (fun S w => .err 10))), (11, .e 11 (sok_loadG (U := Un) (t := .err) (rs := []) rfl rfl ty_25 rfl rfl (hO.var 11 12 rfl) (fun S w => .err 11))), (12, .e 12 (sok_loadG (U := Un) (t := .err) (rs := []) rfl rfl ty_25 rfl rfl (hO.var 12 13 rfl) (fun S w => .err 12))), (13, .e 13 (sok_loadG (U := Un) (t := .err) (rs := []) rfl rfl ty_25 rfl rfl (hO.var 13 14 rfl) (fun S w => .err 13))), (14, .e 14 (sok_loadG (U := Un) (t := .err) (rs := []) rfl rfl ty_25 rfl rfl (hO.var 14 15 rfl) (fun S w => .err 14))), (15, .e 15 (sok_loadG (U := Un) (t := .err) (rs := []) rfl rfl ty_25 rfl rfl (hO.var 15 16 rfl) (fun S w => .err 15))), (16, .e 16 (sok_loadG (U := Un) (t := .err) (rs := []) rfl rfl ty_25 rfl rfl (hO.var 16 3 rfl) (fun S w => .err 16))), (17, .e 17 (sok_loadG (U := Un) (t := .err) (rs := []) rfl rfl ty_25 rfl rfl (hO.var 17 17 rfl) (fun S w => .err 17)))] } [0] [19] hN (by kernel_rfl) (by kernel_rfl) ?_
  refine tnU ?_
  refine WpC.conv (cS [.fz 0, .k [0] []] (by kernel_rfl) (by kernel_rfl)) (WpC.ret ?_)
  have hq := Option.some.inj h
  subst hq
  exact eR (by kernel_rfl) (by kernel_rfl)

end Go.Proofs.YtpcobejkpbalcaaDoor
