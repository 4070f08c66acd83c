/- A part of the proof of a given law: SSC3. Own work, printed in part by a program of mine. -/
import Derived.Test.YtcblgpcgdihcbaaGreatDoorK17SSC2
namespace Go.Proofs.YtcblgpcgdihcbaaGreatDoor
open Go Go.AM
set_option linter.unusedVariables false
set_option linter.unusedSimpArgs false
set_option maxRecDepth 100000
theorem millwrightref03_Named.ok (O : Out) (hO : GOk O) (k : Nat) (a0 : List UInt8) (out : Bool) (h : millwrightref03_Named.f k a0 = some out) : COk Un O Tryz.prog 79 { ar := [.p .str a0], r := .p .bool out } := by
  refine cok_of_wp Tryz.func79 rfl (k := 40) rfl (Nat.le_of_ble_eq_true rfl) (namesOk_pure rfl rfl rfl rfl) ?_
  intro B hN
  refine WpC.conv (cvK (b := ⟨[(0, .p .str a0)], []⟩) [0] [] (by kernel_rfl)) ?_
  unfold millwrightref03_Named.f at h
  refine WpC.seq ?_
  refine rS {} [0] [] hN (by kernel_rfl) (by kernel_rfl) ?_
  refine tnU ?_
  refine sqJ (fun st' => millwrightref03_Named.j2 k a0 = some out ∧ st' = ⟨[(0, .p .str a0)], []⟩) ?_ ?_
  · refine WpC.seq ?_
    refine rS {} [0, 3] [] hN (by kernel_rfl) (by kernel_rfl) ?_
    refine tnU ?_
    refine WpC.block ?_
    obtain ⟨o5, hlo5, h⟩ := bind_some h
    have hout6 := h
    clear h
    refine WpC.loop (U := Un) (fun n st' => ∃ v3 : Int, millwrightref03_Named.l4 k a0 n v3 = some o5 ∧ st' = ⟨[(0, .p .str a0), (3, .p I6 v3)], []⟩) k ⟨0, hlo5, by kernel_rfl⟩ ?_
    clear hlo5
    rintro (_ | n) _ ⟨v3, h, rfl⟩
    · cases h
    · rw [millwrightref03_Named.l4] at h
      refine WpC.seq ?_
      refine WpC.seq ?_
      refine rS {} [0, 3, 8] [] hN (by kernel_rfl) (by kernel_rfl) ?_
      refine tnU ?_
      refine tS (b := (decide (v3 < (a0.length : Int)))) (by kernel_rfl) (fun hc7 => ?_) (fun hc7 => ?_)
      · replace h := ite_t hc7 h
        refine WpC.conv (cS [.k [0, 3] []] (by kernel_rfl) (by kernel_rfl)) (WpC.skip ?_)
        refine tnU ?_
        refine sqJ (fun st' => millwrightref03_Named.j8 k (millwrightref03_Named.l4 k a0 n) a0 v3 = some o5 ∧ st' = ⟨[(0, .p .str a0), (3, .p I6 v3)], []⟩) ?_ ?_
        · refine WpC.block ?_
          refine WpC.seq ?_
          obtain ⟨v9, hv9, h⟩ := bind_some h
          refine rS { its := [(2, .u hv9)] } [0, 3, 4] [] hN (by kernel_rfl) (by kernel_rfl) ?_
          refine tnU ?_
          refine sqJ (fun st' => ∃ v10 : Bool, millwrightref03_Named.j12 k (millwrightref03_Named.l4 k a0 n) a0 v3 v10 = some o5 ∧ st' = ⟨[(0, .p .str a0), (3, .p I6 v3), (31, .p .bool v10)], []⟩) ?_ ?_
          · rcases bool_cases (decide ((v9.toNat : Int) < 33)) with hc13 | hc13
            · replace h := ite_t hc13 h
              refine rS { kn := [(16, .t hc13)] } [0, 3, 31] [] hN (by kernel_rfl) (by kernel_rfl) ?_
              refine tnU ?_
              exact ⟨true, h, by kernel_rfl⟩
            · replace h := ite_f hc13 h
              rcases bool_cases (decide ((v9.toNat : Int) > 126)) with hc14 | hc14
              · replace h := ite_t hc14 h
                refine rS { kn := [(16, .f hc13), (20, .t hc14)] } [0, 3, 31] [] hN (by kernel_rfl) (by kernel_rfl) ?_
                refine tnU ?_
                exact ⟨true, h, by kernel_rfl⟩
              · replace h := ite_f hc14 h
                rcases bool_cases ((v9.toNat : Int) == 47) with hc15 | hc15
                · replace h := ite_t hc15 h
                  refine rS { kn := [(16, .f hc13), (20, .f hc14), (24, .t hc15)] } [0, 3, 31] [] hN (by kernel_rfl) (by kernel_rfl) ?_
                  refine tnU ?_
                  exact ⟨true, h, by kernel_rfl⟩
                · replace h := ite_f hc15 h
                  rcases bool_cases ((v9.toNat : Int) == 40) with hc16 | hc16
                  · replace h := ite_t hc16 h
                    refine rS { kn := [(16, .f hc13), (20, .f hc14), (24, .f hc15), (28, .t hc16)] } [0, 3, 31] [] hN (by kernel_rfl) (by kernel_rfl) ?_
                    refine tnU ?_
                    exact ⟨true, h, by kernel_rfl⟩
                  · replace h := ite_f hc16 h
                    refine rS { kn := [(16, .f hc13), (20, .f hc14), (24, .f hc15), (28, .f hc16)] } [0, 3, 31] [] hN (by kernel_rfl) (by kernel_rfl) ?_
                    refine tnU ?_
                    exact ⟨((v9.toNat : Int) == 41), h, by kernel_rfl⟩
          · rintro _ ⟨v10, h, rfl⟩
            unfold millwrightref03_Named.j12 at h
            refine tS (b := v10) (by kernel_rfl) (fun hc11 => ?_) (fun hc11 => ?_)
            · replace h := ite_t hc11 h
              refine WpC.seq ?_
              refine rS {} [2] [] hN (by kernel_rfl) (by kernel_rfl) ?_
              refine tnU ?_
              refine WpC.ret ?_
              refine blockQ_ret ?_
              refine thenQ_ret ?_
              have hq := Option.some.inj h
              subst hq
              refine thenQ_ret ?_
              have h := hout6
              refine blockQ_ret ?_
              refine thenQ_ret ?_
              have hq := Option.some.inj h
              subst hq
              exact eR (by kernel_rfl) (by kernel_rfl)
            · replace h := ite_f hc11 h
              refine WpC.conv (cS [.k [0, 3] []] (by kernel_rfl) (by kernel_rfl)) (WpC.skip ?_)
              refine blockQ_normal ?_
              refine tnU ?_
              exact ⟨h, by kernel_rfl⟩
        · rintro _ ⟨h, rfl⟩
          unfold millwrightref03_Named.j8 at h
          refine rS {} [0, 3] [] hN (by kernel_rfl) (by kernel_rfl) ?_
          refine tnU ?_
          exact ⟨n, Nat.lt_succ_self n, (IntKind.i64.wrap (v3 + 1)), h, by kernel_rfl⟩
      · replace h := ite_f hc7 h
        refine WpC.conv (cS [.k [0] []] (by kernel_rfl) (by kernel_rfl)) (WpC.exit ?_)
        refine thenQ_exit ?_
        have hq := Option.some.inj h
        subst hq
        refine thenQ_exit ?_
        have h := hout6
        refine blockQ_hit ?_
        refine tnU ?_
        exact ⟨h, by kernel_rfl⟩
  · rintro _ ⟨h, rfl⟩
    unfold millwrightref03_Named.j2 at h
    refine WpC.seq ?_
    rcases bool_cases (decide ((a0.length : Int) ≥ 1)) with hc1 | hc1
    · replace h := ite_t hc1 h
      refine rS { kn := [(35, .t hc1)] } [2] [] hN (by kernel_rfl) (by kernel_rfl) ?_
      refine tnU ?_
      refine WpC.ret ?_
      have hq := Option.some.inj h
      subst hq
      exact eR (by kernel_rfl) (by kernel_rfl)
    · replace h := ite_f hc1 h
      refine rS { kn := [(35, .f hc1)] } [2] [] hN (by kernel_rfl) (by kernel_rfl) ?_
      refine tnU ?_
      refine WpC.ret ?_
      have hq := Option.some.inj h
      subst hq
      exact eR (by kernel_rfl) (by kernel_rfl)

theorem millwrightref03_wide.ok (O : Out) (hO : GOk O) (k : Nat) (a0 : List UInt8) (a1 : Int) (out : List UInt8) (h : millwrightref03_wide.f k a0 a1 = some out) : COk Un O Tryz.prog 95 { ar := [.p .str a0, .p I6 a1], r := .p .str out } := by
  refine cok_of_wp Tryz.func95 rfl (k := 12) rfl (Nat.le_of_ble_eq_true rfl) (namesOk_pure rfl rfl rfl rfl) ?_
  intro B hN
  refine WpC.conv (cvK (b := ⟨[(0, .p .str a0), (1, .p I6 a1)], []⟩) [0, 1] [] (by kernel_rfl)) ?_
  unfold millwrightref03_wide.f at h
  refine WpC.seq ?_
  refine rS {} [0, 1] [] hN (by kernel_rfl) (by kernel_rfl) ?_
  refine tnU ?_
  refine sqJ (fun st' => ∃ v1 : List UInt8, millwrightref03_wide.j2 k v1 = some out ∧ st' = ⟨[(0, .p .str v1)], []⟩) ?_ ?_
  · refine WpC.block ?_
    obtain ⟨o6, hlo6, h⟩ := bind_some h
    have hout7 := h
    clear h
    refine WpC.loop (U := Un) (fun n st' => ∃ v3 : List UInt8, millwrightref03_wide.l4 k a1 n v3 = some o6 ∧ st' = ⟨[(0, .p .str v3), (1, .p I6 a1)], []⟩) k ⟨a0, hlo6, by kernel_rfl⟩ ?_
    clear hlo6
    rintro (_ | n) _ ⟨v3, h, rfl⟩
    · cases h
    · rw [millwrightref03_wide.l4] at h
      refine WpC.seq ?_
      refine WpC.seq ?_
      refine rS {} [0, 1, 8] [] hN (by kernel_rfl) (by kernel_rfl) ?_
      refine tnU ?_
      refine tS (b := (decide ((v3.length : Int) < a1))) (by kernel_rfl) (fun hc8 => ?_) (fun hc8 => ?_)
      · replace h := ite_t hc8 h
        refine WpC.conv (cS [.k [0, 1] []] (by kernel_rfl) (by kernel_rfl)) (WpC.skip ?_)
        refine tnU ?_
        refine WpC.block ?_
        obtain ⟨g9, h⟩ := if_some h
        refine rS { its := [(1, .g g9)] } [0, 1] [] hN (by kernel_rfl) (by kernel_rfl) ?_
        refine blockQ_normal ?_
        refine tnU ?_
        exact ⟨n, Nat.lt_succ_self n, (v3 ++ ([32] : List UInt8)), h, by kernel_rfl⟩
      · replace h := ite_f hc8 h
        refine WpC.conv (cS [.k [0] []] (by kernel_rfl) (by kernel_rfl)) (WpC.exit ?_)
        refine thenQ_exit ?_
        have hq := Option.some.inj h
        subst hq
        refine thenQ_exit ?_
        have h := hout7
        refine blockQ_hit ?_
        refine tnU ?_
        exact ⟨v3, h, by kernel_rfl⟩
  · rintro _ ⟨v1, h, rfl⟩
    unfold millwrightref03_wide.j2 at h
    refine WpC.seq ?_
    refine rS {} [4] [] hN (by kernel_rfl) (by kernel_rfl) ?_
    refine tnU ?_
    refine WpC.ret ?_
    have hq := Option.some.inj h
    subst hq
    exact eR (by kernel_rfl) (by kernel_rfl)

theorem millwrightnum_Figures.bok (O : Out) (hO : GOk O) (k : Nat) (rf_millwrightnum_Figures : Int → Option (List UInt8)) (hrf_millwrightnum_Figures : ∀ (a0 : Int) (out : List UInt8), rf_millwrightnum_Figures a0 = some out → COk Un O Tryz.prog 96 { ar := [.p I6 a0], r := .p .str out }) (a0 : Int) (out : List UInt8) (h : millwrightnum_Figures.b k rf_millwrightnum_Figures a0 = some out) : COk Un O Tryz.prog 96 { ar := [.p I6 a0], r := .p .str out } := by
  refine cok_of_wp Tryz.func96 rfl (k := 30) rfl (Nat.le_of_ble_eq_true rfl) (namesOk_pure rfl rfl rfl rfl) ?_
  intro B hN
  refine WpC.conv (cvK (b := ⟨[(0, .p I6 a0)], []⟩) [0] [] (by kernel_rfl)) ?_
  unfold millwrightnum_Figures.b at h
  refine WpC.seq ?_
  refine rS {} [0] [] hN (by kernel_rfl) (by kernel_rfl) ?_
  refine tnU ?_
  refine WpC.seq ?_
  obtain ⟨g1, h⟩ := if_some h
  refine rS { its := [(1, .g g1)] } [0, 3] [] hN (by kernel_rfl) (by kernel_rfl) ?_
  refine tnU ?_
  refine WpC.seq ?_
  refine rS {} [0, 3, 4] [] hN (by kernel_rfl) (by kernel_rfl) ?_
  refine tnU ?_
  refine sqJ (fun st' => ∃ v2 : Int, ∃ v3 : List UInt8, millwrightnum_Figures.j14 k rf_millwrightnum_Figures a0 v2 v3 = some out ∧ st' = ⟨[(0, .p I6 a0), (3, .p I6 v2), (4, .p .str v3)], []⟩) ?_ ?_
  · refine WpC.seq ?_
    refine rS {} [0, 3, 4, 9] [] hN (by kernel_rfl) (by kernel_rfl) ?_
    refine tnU ?_
    refine tS (b := (decide (a0 ≥ 0))) (by kernel_rfl) (fun hc15 => ?_) (fun hc15 => ?_)
    · replace h := ite_t hc15 h
      refine rS {} [0, 3, 4] [] hN (by kernel_rfl) (by kernel_rfl) ?_
      refine tnU ?_
      exact ⟨(Int.tmod a0 10), ([] : List UInt8), h, by kernel_rfl⟩
    · replace h := ite_f hc15 h
      refine rS {} [0, 3, 4] [] hN (by kernel_rfl) (by kernel_rfl) ?_
      refine tnU ?_
      exact ⟨(IntKind.i64.wrap (0 - (Int.tmod a0 10))), ([45] : List UInt8), h, by kernel_rfl⟩
  · rintro _ ⟨v2, v3, h, rfl⟩
    unfold millwrightnum_Figures.j14 at h
    refine WpC.seq ?_
    obtain ⟨v4, hv4, h⟩ := bind_some h
    refine rS { its := [(3, .v .str hv4)] } [0, 4, 5] [] hN (by kernel_rfl) (by kernel_rfl) ?_
    refine tnU ?_
    refine sqJ (fun st' => millwrightnum_Figures.j8 k rf_millwrightnum_Figures a0 v4 = some out ∧ st' = ⟨[(0, .p I6 a0), (5, .p .str v4)], []⟩) ?_ ?_
    · refine sqJ (fun st' => ∃ v9 : Bool, millwrightnum_Figures.j12 k rf_millwrightnum_Figures a0 v3 v4 v9 = some out ∧ st' = ⟨[(0, .p I6 a0), (4, .p .str v3), (5, .p .str v4), (21, .p .bool v9)], []⟩) ?_ ?_
      · rcases bool_cases (decide (a0 > (-10))) with hc13 | hc13
        · replace h := ite_t hc13 h
          refine rS { kn := [(18, .t hc13)] } [0, 4, 5, 21] [] hN (by kernel_rfl) (by kernel_rfl) ?_
          refine tnU ?_
          exact ⟨(decide (a0 < 10)), h, by kernel_rfl⟩
        · replace h := ite_f hc13 h
          refine rS { kn := [(18, .f hc13)] } [0, 4, 5, 21] [] hN (by kernel_rfl) (by kernel_rfl) ?_
          refine tnU ?_
          exact ⟨false, h, by kernel_rfl⟩
      · rintro _ ⟨v9, h, rfl⟩
        unfold millwrightnum_Figures.j12 at h
        refine tS (b := v9) (by kernel_rfl) (fun hc10 => ?_) (fun hc10 => ?_)
        · replace h := ite_t hc10 h
          refine WpC.seq ?_
          obtain ⟨g11, h⟩ := if_some h
          refine rS { its := [(2, .g g11)] } [2] [] hN (by kernel_rfl) (by kernel_rfl) ?_
          refine tnU ?_
          refine WpC.ret ?_
          refine thenQ_ret ?_
          have hq := Option.some.inj h
          subst hq
          exact eR (by kernel_rfl) (by kernel_rfl)
        · replace h := ite_f hc10 h
          refine WpC.conv (cS [.k [0, 5] []] (by kernel_rfl) (by kernel_rfl)) (WpC.skip ?_)
          refine tnU ?_
          exact ⟨h, by kernel_rfl⟩
    · rintro _ ⟨h, rfl⟩
      unfold millwrightnum_Figures.j8 at h
      refine WpC.seq ?_
      obtain ⟨g5, h⟩ := if_some h
      obtain ⟨v6, hv6, h⟩ := bind_some h
      obtain ⟨g7, h⟩ := if_some h
      refine rS { its := [(1, .g g5), (2, .c (hrf_millwrightnum_Figures (IntKind.i64.wrap (Int.tdiv a0 10)) v6 hv6)), (4, .g g7)] } [2] [] hN (by kernel_rfl) (by kernel_rfl) ?_
      refine tnU ?_
      refine WpC.ret ?_
      have hq := Option.some.inj h
      subst hq
      exact eR (by kernel_rfl) (by kernel_rfl)

theorem scc_millwrightnum_Figures.ok (O : Out) (hO : GOk O) : ∀ k : Nat, (∀ (a0 : Int) (out : List UInt8), millwrightnum_Figures.f k a0 = some out → COk Un O Tryz.prog 96 { ar := [.p (.int .i64) a0], r := .p .str out }) := by
  intro k
  induction k with
  | zero => exact fun a0 out h => (by have h2 : (none : Option (List UInt8)) = some out := h; cases h2)
  | succ k ih => exact fun a0 out h => millwrightnum_Figures.bok O hO k _ ih a0 out h
theorem millwrightnum_Figures.ok (O : Out) (hO : GOk O) (k : Nat) (a0 : Int) (out : List UInt8) (h : millwrightnum_Figures.f k a0 = some out) : COk Un O Tryz.prog 96 { ar := [.p (.int .i64) a0], r := .p .str out } := (scc_millwrightnum_Figures.ok O hO k) a0 out h

theorem millwrightref03_One.ok (O : Out) (hO : GOk O) (k : Nat) (a0 : T_ar_Member) (out : List UInt8) (h : millwrightref03_One.f k a0 = some out) : COk Un O Tryz.prog 80 { ar := [.p (.named 5) a0], r := .p .str out } := by
  refine cok_of_wp Tryz.func80 rfl (k := 36) rfl (Nat.le_of_ble_eq_true rfl) (namesOk_pure rfl rfl rfl rfl) ?_
  intro B hN
  refine WpC.conv (cvK (b := ⟨[(0, .p (.named 5) a0)], []⟩) [0] [] (by kernel_rfl)) ?_
  unfold millwrightref03_One.f at h
  refine WpC.seq ?_
  refine rS {} [1] [1] hN (by kernel_rfl) (by kernel_rfl) ?_
  refine tnU ?_
  refine WpC.seq ?_
  obtain ⟨v1, hv1, h⟩ := bind_some h
  obtain ⟨v2, hv2, h⟩ := bind_some h
  obtain ⟨v3, hv3, h⟩ := bind_some h
  obtain ⟨g4, h⟩ := if_some h
  obtain ⟨v5, hv5, h⟩ := bind_some h
  obtain ⟨g6, h⟩ := if_some h
  obtain ⟨v7, hv7, h⟩ := bind_some h
  obtain ⟨g8, h⟩ := if_some h
  obtain ⟨v9, hv9, h⟩ := bind_some h
  obtain ⟨g10, h⟩ := if_some h
  obtain ⟨v11, hv11, h⟩ := bind_some h
  obtain ⟨v12, hv12, h⟩ := bind_some h
  obtain ⟨g13, h⟩ := if_some h
  obtain ⟨g14, h⟩ := if_some h
  obtain ⟨g15, h⟩ := if_some h
  refine rA { its := [(2, .c (millwrightref03_wide.ok O hO k a0.f_Name 16 v1 hv1)), (5, .c (millwrightnum_Figures.ok O hO k a0.f_Time v2 hv2)), (6, .c (millwrightref03_wide.ok O hO k v2 12 v3 hv3)), (7, .g g4), (8, .c (millwrightref03_wide.ok O hO k ([48] : List UInt8) 6 v5 hv5)), (9, .g g6), (10, .c (millwrightref03_wide.ok O hO k ([48] : List UInt8) 6 v7 hv7)), (11, .g g8), (12, .c (millwrightref03_wide.ok O hO k ([54, 52, 52] : List UInt8) 8 v9 hv9)), (13, .g g10), (17, .c (millwrightnum_Figures.ok O hO k (a0.f_Content.length : Int) v11 hv11)), (18, .c (millwrightref03_wide.ok O hO k v11 10 v12 hv12)), (19, .g g13), (20, .g g14), (23, .g g15)] } [1, 3] [1] hN (by kernel_rfl) (by kernel_rfl) (by kernel_rfl) ?_
  refine tnU ?_
  refine sqJ (fun st' => ∃ v16 : List UInt8, millwrightref03_One.j17 k v16 = some out ∧ st' = ⟨[(3, .p .str v16)], []⟩) ?_ ?_
  · refine WpC.seq ?_
    obtain ⟨g18, h⟩ := if_some h
    refine rS { its := [(3, .g g18)] } [3, 32] [] hN (by kernel_rfl) (by kernel_rfl) ?_
    refine tnU ?_
    refine tS (b := ((Int.tmod (a0.f_Content.length : Int) 2) == 1)) (by kernel_rfl) (fun hc19 => ?_) (fun hc19 => ?_)
    · replace h := ite_t hc19 h
      obtain ⟨g20, h⟩ := if_some h
      refine rS { its := [(1, .g g20)] } [3] [] hN (by kernel_rfl) (by kernel_rfl) ?_
      refine tnU ?_
      exact ⟨((((((((v1 ++ v3) ++ v5) ++ v7) ++ v9) ++ v12) ++ ([96, 10] : List UInt8)) ++ a0.f_Content) ++ ([10] : List UInt8)), h, by kernel_rfl⟩
    · replace h := ite_f hc19 h
      refine WpC.conv (cS [.k [3] []] (by kernel_rfl) (by kernel_rfl)) (WpC.skip ?_)
      refine tnU ?_
      exact ⟨(((((((v1 ++ v3) ++ v5) ++ v7) ++ v9) ++ v12) ++ ([96, 10] : List UInt8)) ++ a0.f_Content), h, by kernel_rfl⟩
  · rintro _ ⟨v16, h, rfl⟩
    unfold millwrightref03_One.j17 at h
    refine WpC.seq ?_
    refine rS {} [2] [] hN (by kernel_rfl) (by kernel_rfl) ?_
    refine tnU ?_
    refine WpC.ret ?_
    have hq := Option.some.inj h
    subst hq
    exact eR (by kernel_rfl) (by kernel_rfl)

theorem millwrightref03_Make.ok (O : Out) (hO : GOk O) (k : Nat) (a0 : List T_ar_Member) (out : (List UInt8) × Int) (h : millwrightref03_Make.f k a0 = some out) : COk Un O Tryz.prog 56 { ar := [.p (.list (.named 5)) a0], r := .tup [.p .str out.1, .p I6 out.2] } := by
  refine cok_of_wp Tryz.func56 rfl (k := 78) rfl (Nat.le_of_ble_eq_true rfl) (namesOk_pure rfl rfl rfl rfl) ?_
  intro B hN
  refine WpC.conv (cvK (b := ⟨[(0, .p (.list (.named 5)) a0)], []⟩) [0] [] (by kernel_rfl)) ?_
  unfold millwrightref03_Make.f at h
  refine WpC.seq ?_
  refine rS {} [0] [] hN (by kernel_rfl) (by kernel_rfl) ?_
  refine tnU ?_
  refine sqJ (fun st' => millwrightref03_Make.j50 k a0 = some out ∧ st' = ⟨[(0, .p (.list (.named 5)) a0)], []⟩) ?_ ?_
  · refine WpC.seq ?_
    refine rS {} [0, 15, 16, 17] [] hN (by kernel_rfl) (by kernel_rfl) ?_
    refine tnU ?_
    refine WpC.block ?_
    obtain ⟨o53, hlo53, h⟩ := bind_some h
    have hout54 := h
    clear h
    refine WpC.loop (U := Un) (fun n st' => ∃ v51 : Int, millwrightref03_Make.l52 k a0 n v51 = some o53 ∧ st' = ⟨[(0, .p (.list (.named 5)) a0), (15, .p (.list (.named 5)) a0), (16, .p I6 ((a0.length : Int) : Int)), (17, .p I6 v51)], []⟩) k ⟨0, hlo53, by kernel_rfl⟩ ?_
    clear hlo53
    rintro (_ | n) _ ⟨v51, h, rfl⟩
    · cases h
    · rw [millwrightref03_Make.l52] at h
      refine WpC.seq ?_
      refine rS {} [0, 15, 16, 17, 18] [] hN (by kernel_rfl) (by kernel_rfl) ?_
      refine tnU ?_
      refine WpC.seq ?_
      refine tS (b := (decide (v51 < (a0.length : Int)))) (by kernel_rfl) (fun hc55 => ?_) (fun hc55 => ?_)
      · replace h := ite_t hc55 h
        refine WpC.conv (cS [.k [0, 15, 16, 17] []] (by kernel_rfl) (by kernel_rfl)) (WpC.skip ?_)
        refine tnU ?_
        refine WpC.seq ?_
        refine WpC.block ?_
        refine WpC.seq ?_
        obtain ⟨v56, hv56, h⟩ := bind_some h
        refine rS { its := [(0, .v (.named 5) hv56)] } [0, 5, 15, 16, 17] [5] hN (by kernel_rfl) (by kernel_rfl) ?_
        refine tnU ?_
        refine WpC.seq ?_
        obtain ⟨v57, hv57, h⟩ := bind_some h
        refine rS { its := [(2, .c (millwrightref03_Named.ok O hO k v56.f_Name v57 hv57))] } [0, 15, 16, 17, 24] [] hN (by kernel_rfl) (by kernel_rfl) ?_
        refine tnU ?_
        refine tS (b := (!v57)) (by kernel_rfl) (fun hc58 => ?_) (fun hc58 => ?_)
        · replace h := ite_t hc58 h
          refine WpC.seq ?_
          refine rS {} [2, 3] [] hN (by kernel_rfl) (by kernel_rfl) ?_
          refine tnU ?_
          refine WpC.ret ?_
          refine blockQ_ret ?_
          refine thenQ_ret ?_
          have hq := Option.some.inj h
          subst hq
          refine thenQ_ret ?_
          have h := hout54
          refine blockQ_ret ?_
          refine thenQ_ret ?_
          have hq := Option.some.inj h
          subst hq
          exact eR (by kernel_rfl) (by kernel_rfl)
        · replace h := ite_f hc58 h
          refine WpC.conv (cS [.k [0, 15, 16, 17] []] (by kernel_rfl) (by kernel_rfl)) (WpC.skip ?_)
          refine blockQ_normal ?_
          refine tnU ?_
          refine rS {} [0, 15, 16, 17] [] hN (by kernel_rfl) (by kernel_rfl) ?_
          refine tnU ?_
          exact ⟨n, Nat.lt_succ_self n, (IntKind.i64.wrap (v51 + 1)), h, by kernel_rfl⟩
      · replace h := ite_f hc55 h
        refine WpC.conv (cS [.k [0] []] (by kernel_rfl) (by kernel_rfl)) (WpC.exit ?_)
        refine thenQ_exit ?_
        have hq := Option.some.inj h
        subst hq
        refine thenQ_exit ?_
        have h := hout54
        refine blockQ_hit ?_
        refine tnU ?_
        exact ⟨h, by kernel_rfl⟩
  · rintro _ ⟨h, rfl⟩
    unfold millwrightref03_Make.j50 at h
    refine sqJ (fun st' => millwrightref03_Make.j36 k a0 = some out ∧ st' = ⟨[(0, .p (.list (.named 5)) a0)], []⟩) ?_ ?_
    · refine WpC.seq ?_
      refine rS {} [0, 26, 27, 28] [] hN (by kernel_rfl) (by kernel_rfl) ?_
      refine tnU ?_
      refine WpC.block ?_
      obtain ⟨o39, hlo39, h⟩ := bind_some h
      have hout40 := h
      clear h
      refine WpC.loop (U := Un) (fun n st' => ∃ v37 : Int, millwrightref03_Make.l38 k a0 n v37 = some o39 ∧ st' = ⟨[(0, .p (.list (.named 5)) a0), (26, .p (.list (.named 5)) a0), (27, .p I6 ((a0.length : Int) : Int)), (28, .p I6 v37)], []⟩) k ⟨0, hlo39, by kernel_rfl⟩ ?_
      clear hlo39
      rintro (_ | n) _ ⟨v37, h, rfl⟩
      · cases h
      · rw [millwrightref03_Make.l38] at h
        refine WpC.seq ?_
        refine rS {} [0, 26, 27, 28, 29] [] hN (by kernel_rfl) (by kernel_rfl) ?_
        refine tnU ?_
        refine WpC.seq ?_
        refine tS (b := (decide (v37 < (a0.length : Int)))) (by kernel_rfl) (fun hc41 => ?_) (fun hc41 => ?_)
        · replace h := ite_t hc41 h
          refine WpC.conv (cS [.k [0, 26, 27, 28] []] (by kernel_rfl) (by kernel_rfl)) (WpC.skip ?_)
          refine tnU ?_
          refine sqJ (fun st' => millwrightref03_Make.j42 k (millwrightref03_Make.l38 k a0 n) a0 v37 = some o39 ∧ st' = ⟨[(0, .p (.list (.named 5)) a0), (26, .p (.list (.named 5)) a0), (27, .p I6 ((a0.length : Int) : Int)), (28, .p I6 v37)], []⟩) ?_ ?_
          · refine WpC.block ?_
            refine WpC.seq ?_
            obtain ⟨v43, hv43, h⟩ := bind_some h
            refine rS { its := [(0, .v (.named 5) hv43)] } [0, 7, 26, 27, 28] [7] hN (by kernel_rfl) (by kernel_rfl) ?_
            refine tnU ?_
            refine sqJ (fun st' => ∃ v44 : Bool, millwrightref03_Make.j46 k (millwrightref03_Make.l38 k a0 n) a0 v37 v44 = some o39 ∧ st' = ⟨[(0, .p (.list (.named 5)) a0), (26, .p (.list (.named 5)) a0), (27, .p I6 ((a0.length : Int) : Int)), (28, .p I6 v37), (39, .p .bool v44)], []⟩) ?_ ?_
            · rcases bool_cases (decide (v43.f_Time < 1)) with hc47 | hc47
              · replace h := ite_t hc47 h
                refine rS { kn := [(35, .t hc47)] } [0, 26, 27, 28, 39] [] hN (by kernel_rfl) (by kernel_rfl) ?_
                refine tnU ?_
                exact ⟨true, h, by kernel_rfl⟩
              · replace h := ite_f hc47 h
                refine rS { kn := [(35, .f hc47)] } [0, 26, 27, 28, 39] [] hN (by kernel_rfl) (by kernel_rfl) ?_
                refine tnU ?_
                exact ⟨(decide (v43.f_Time > 549755813888)), h, by kernel_rfl⟩
            · rintro _ ⟨v44, h, rfl⟩
              unfold millwrightref03_Make.j46 at h
              refine tS (b := v44) (by kernel_rfl) (fun hc45 => ?_) (fun hc45 => ?_)
              · replace h := ite_t hc45 h
                refine WpC.seq ?_
                refine rS {} [2, 3] [] hN (by kernel_rfl) (by kernel_rfl) ?_
                refine tnU ?_
                refine WpC.ret ?_
                refine blockQ_ret ?_
                refine thenQ_ret ?_
                have hq := Option.some.inj h
                subst hq
                refine thenQ_ret ?_
                have h := hout40
                refine blockQ_ret ?_
                refine thenQ_ret ?_
                have hq := Option.some.inj h
                subst hq
                exact eR (by kernel_rfl) (by kernel_rfl)
              · replace h := ite_f hc45 h
                refine WpC.conv (cS [.k [0, 26, 27, 28] []] (by kernel_rfl) (by kernel_rfl)) (WpC.skip ?_)
                refine blockQ_normal ?_
                refine tnU ?_
                exact ⟨h, by kernel_rfl⟩
          · rintro _ ⟨h, rfl⟩
            unfold millwrightref03_Make.j42 at h
            refine rS {} [0, 26, 27, 28] [] hN (by kernel_rfl) (by kernel_rfl) ?_
            refine tnU ?_
            exact ⟨n, Nat.lt_succ_self n, (IntKind.i64.wrap (v37 + 1)), h, by kernel_rfl⟩
        · replace h := ite_f hc41 h
          refine WpC.conv (cS [.k [0] []] (by kernel_rfl) (by kernel_rfl)) (WpC.exit ?_)
          refine thenQ_exit ?_
          have hq := Option.some.inj h
          subst hq
          refine thenQ_exit ?_
          have h := hout40
          refine blockQ_hit ?_
          refine tnU ?_
          exact ⟨h, by kernel_rfl⟩
    · rintro _ ⟨h, rfl⟩
      unfold millwrightref03_Make.j36 at h
      refine sqJ (fun st' => millwrightref03_Make.j16 k a0 = some out ∧ st' = ⟨[(0, .p (.list (.named 5)) a0)], []⟩) ?_ ?_
      · refine WpC.seq ?_
        refine rS {} [0, 41, 42, 43] [] hN (by kernel_rfl) (by kernel_rfl) ?_
        refine tnU ?_
        refine WpC.block ?_
        obtain ⟨o19, hlo19, h⟩ := bind_some h
        have hout20 := h
        clear h
        refine WpC.loop (U := Un) (fun n st' => ∃ v17 : Int, millwrightref03_Make.l18 k a0 n v17 = some o19 ∧ st' = ⟨[(0, .p (.list (.named 5)) a0), (41, .p (.list (.named 5)) a0), (42, .p I6 ((a0.length : Int) : Int)), (43, .p I6 v17)], []⟩) k ⟨0, hlo19, by kernel_rfl⟩ ?_
        clear hlo19
        rintro (_ | n) _ ⟨v17, h, rfl⟩
        · cases h
        · rw [millwrightref03_Make.l18] at h
          refine WpC.seq ?_
          refine rS {} [0, 41, 42, 43, 44] [] hN (by kernel_rfl) (by kernel_rfl) ?_
          refine tnU ?_
          refine WpC.seq ?_
          refine tS (b := (decide (v17 < (a0.length : Int)))) (by kernel_rfl) (fun hc21 => ?_) (fun hc21 => ?_)
          · replace h := ite_t hc21 h
            refine WpC.conv (cS [.k [0, 41, 42, 43] []] (by kernel_rfl) (by kernel_rfl)) (WpC.skip ?_)
            refine tnU ?_
            refine sqJ (fun st' => millwrightref03_Make.j22 k (millwrightref03_Make.l18 k a0 n) a0 v17 = some o19 ∧ st' = ⟨[(0, .p (.list (.named 5)) a0), (41, .p (.list (.named 5)) a0), (42, .p I6 ((a0.length : Int) : Int)), (43, .p I6 v17)], []⟩) ?_ ?_
            · refine WpC.block ?_
              refine WpC.seq ?_
              obtain ⟨v23, hv23, h⟩ := bind_some h
              refine rS { its := [(1, .v (.named 5) hv23)] } [0, 8, 9, 41, 42, 43] [9] hN (by kernel_rfl) (by kernel_rfl) ?_
              refine tnU ?_
              refine WpC.seq ?_
              obtain ⟨v24, hv24, h⟩ := bind_some h
              refine rS { its := [(2, .v (.list (.named 5)) hv24)] } [0, 9, 41, 42, 43, 50, 51, 52] [9] hN (by kernel_rfl) (by kernel_rfl) ?_
              refine tnU ?_
              refine WpC.block ?_
              obtain ⟨o27, hlo27, h⟩ := bind_some h
              have hout28 := h
              clear h
              refine WpC.loop (U := Un) (fun n st' => ∃ v25 : Int, millwrightref03_Make.l26 k a0 v17 v23 v24 n v25 = some o27 ∧ st' = ⟨[(0, .p (.list (.named 5)) a0), (9, .loc 9 0), (41, .p (.list (.named 5)) a0), (42, .p I6 ((a0.length : Int) : Int)), (43, .p I6 v17), (50, .p (.list (.named 5)) v24), (51, .p I6 ((v24.length : Int) : Int)), (52, .p I6 v25)], [(9, .box [.p .str v23.f_Name, .p I6 v23.f_Time, .p .str v23.f_Content])]⟩) k ⟨0, hlo27, by kernel_rfl⟩ ?_
              clear hlo27
              rintro (_ | n) _ ⟨v25, h, rfl⟩
              · cases h
              · rw [millwrightref03_Make.l26] at h
                refine WpC.seq ?_
                refine rS {} [0, 9, 41, 42, 43, 50, 51, 52, 53] [9] hN (by kernel_rfl) (by kernel_rfl) ?_
                refine tnU ?_
                refine WpC.seq ?_
                refine tS (b := (decide (v25 < (v24.length : Int)))) (by kernel_rfl) (fun hc29 => ?_) (fun hc29 => ?_)
                · replace h := ite_t hc29 h
                  refine WpC.conv (cS [.k [0, 9, 41, 42, 43, 50, 51, 52] [9]] (by kernel_rfl) (by kernel_rfl)) (WpC.skip ?_)
                  refine tnU ?_
                  refine WpC.seq ?_
                  refine WpC.block ?_
                  refine WpC.seq ?_
                  obtain ⟨v30, hv30, h⟩ := bind_some h
                  refine rS { its := [(0, .v (.named 5) hv30)] } [0, 9, 11, 41, 42, 43, 50, 51, 52] [9, 11] hN (by kernel_rfl) (by kernel_rfl) ?_
                  refine tnU ?_
                  refine WpC.seq ?_
                  refine rS {} [0, 9, 41, 42, 43, 50, 51, 52, 60] [9] hN (by kernel_rfl) (by kernel_rfl) ?_
                  refine tnU ?_
                  refine tS (b := (v23.f_Name == v30.f_Name)) (by kernel_rfl) (fun hc31 => ?_) (fun hc31 => ?_)
                  · replace h := ite_t hc31 h
                    refine WpC.seq ?_
                    refine rS {} [2, 3] [] hN (by kernel_rfl) (by kernel_rfl) ?_
                    refine tnU ?_
                    refine WpC.ret ?_
                    refine blockQ_ret ?_
                    refine thenQ_ret ?_
                    have hq := Option.some.inj h
                    subst hq
                    refine thenQ_ret ?_
                    have h := hout28
                    refine blockQ_ret ?_
                    refine blockQ_ret ?_
                    refine thenQ_ret ?_
                    have hq := Option.some.inj h
                    subst hq
                    refine thenQ_ret ?_
                    have h := hout20
                    refine blockQ_ret ?_
                    refine thenQ_ret ?_
                    have hq := Option.some.inj h
                    subst hq
                    exact eR (by kernel_rfl) (by kernel_rfl)
                  · replace h := ite_f hc31 h
                    refine WpC.conv (cS [.k [0, 9, 41, 42, 43, 50, 51, 52] [9]] (by kernel_rfl) (by kernel_rfl)) (WpC.skip ?_)
                    refine blockQ_normal ?_
                    refine tnU ?_
                    refine rS {} [0, 9, 41, 42, 43, 50, 51, 52] [9] hN (by kernel_rfl) (by kernel_rfl) ?_
                    refine tnU ?_
                    exact ⟨n, Nat.lt_succ_self n, (IntKind.i64.wrap (v25 + 1)), h, by kernel_rfl⟩
                · replace h := ite_f hc29 h
                  refine WpC.conv (cS [.k [0, 41, 42, 43] []] (by kernel_rfl) (by kernel_rfl)) (WpC.exit ?_)
                  refine thenQ_exit ?_
                  have hq := Option.some.inj h
                  subst hq
                  refine thenQ_exit ?_
                  have h := hout28
                  refine blockQ_hit ?_
                  refine blockQ_normal ?_
                  refine tnU ?_
                  exact ⟨h, by kernel_rfl⟩
            · rintro _ ⟨h, rfl⟩
              unfold millwrightref03_Make.j22 at h
              refine rS {} [0, 41, 42, 43] [] hN (by kernel_rfl) (by kernel_rfl) ?_
              refine tnU ?_
              exact ⟨n, Nat.lt_succ_self n, (IntKind.i64.wrap (v17 + 1)), h, by kernel_rfl⟩
          · replace h := ite_f hc21 h
            refine WpC.conv (cS [.k [0] []] (by kernel_rfl) (by kernel_rfl)) (WpC.exit ?_)
            refine thenQ_exit ?_
            have hq := Option.some.inj h
            subst hq
            refine thenQ_exit ?_
            have h := hout20
            refine blockQ_hit ?_
            refine tnU ?_
            exact ⟨h, by kernel_rfl⟩
      · rintro _ ⟨h, rfl⟩
        unfold millwrightref03_Make.j16 at h
        refine WpC.seq ?_
        refine rS {} [0, 12] [] hN (by kernel_rfl) (by kernel_rfl) ?_
        refine tnU ?_
        refine sqJ (fun st' => ∃ v1 : List UInt8, millwrightref03_Make.j2 k v1 = some out ∧ st' = ⟨[(12, .p .str v1)], []⟩) ?_ ?_
        · refine WpC.seq ?_
          refine rS {} [12, 63, 64, 65] [] hN (by kernel_rfl) (by kernel_rfl) ?_
          refine tnU ?_
          refine WpC.block ?_
          obtain ⟨o7, hlo7, h⟩ := bind_some h
          have hout8 := h
          clear h
          refine WpC.loop (U := Un) (fun n st' => ∃ v3 : List UInt8, ∃ v4 : Int, millwrightref03_Make.l5 k a0 n v3 v4 = some o7 ∧ st' = ⟨[(12, .p .str v3), (63, .p (.list (.named 5)) a0), (64, .p I6 ((a0.length : Int) : Int)), (65, .p I6 v4)], []⟩) k ⟨([33, 60, 97, 114, 99, 104, 62, 10] : List UInt8), 0, hlo7, by kernel_rfl⟩ ?_
          clear hlo7
          rintro (_ | n) _ ⟨v3, v4, h, rfl⟩
          · cases h
          · rw [millwrightref03_Make.l5] at h
            refine WpC.seq ?_
            refine rS {} [12, 63, 64, 65, 66] [] hN (by kernel_rfl) (by kernel_rfl) ?_
            refine tnU ?_
            refine WpC.seq ?_
            refine tS (b := (decide (v4 < (a0.length : Int)))) (by kernel_rfl) (fun hc9 => ?_) (fun hc9 => ?_)
            · replace h := ite_t hc9 h
              refine WpC.conv (cS [.k [12, 63, 64, 65] []] (by kernel_rfl) (by kernel_rfl)) (WpC.skip ?_)
              refine tnU ?_
              refine WpC.seq ?_
              refine WpC.block ?_
              refine WpC.seq ?_
              obtain ⟨v10, hv10, h⟩ := bind_some h
              refine rS { its := [(0, .v (.named 5) hv10)] } [12, 14, 63, 64, 65] [14] hN (by kernel_rfl) (by kernel_rfl) ?_
              refine tnU ?_
              refine WpC.seq ?_
              obtain ⟨v11, hv11, h⟩ := bind_some h
              obtain ⟨g12, h⟩ := if_some h
              refine rS { its := [(2, .c (millwrightref03_One.ok O hO k (T_ar_Member.mk v10.f_Name v10.f_Time v10.f_Content) v11 hv11)), (3, .g g12)] } [12, 63, 64, 65] [] hN (by kernel_rfl) (by kernel_rfl) ?_
              refine tnU ?_
              refine WpC.seq ?_
              refine rS {} [12, 63, 64, 65, 75] [] hN (by kernel_rfl) (by kernel_rfl) ?_
              refine tnU ?_
              refine tS (b := (decide (((v3 ++ v11).length : Int) > 900))) (by kernel_rfl) (fun hc13 => ?_) (fun hc13 => ?_)
              · replace h := ite_t hc13 h
                refine WpC.seq ?_
                refine rS {} [2, 3] [] hN (by kernel_rfl) (by kernel_rfl) ?_
                refine tnU ?_
                refine WpC.ret ?_
                refine blockQ_ret ?_
                refine thenQ_ret ?_
                have hq := Option.some.inj h
                subst hq
                refine thenQ_ret ?_
                have h := hout8
                refine blockQ_ret ?_
                refine thenQ_ret ?_
                have hq := Option.some.inj h
                subst hq
                exact eR (by kernel_rfl) (by kernel_rfl)
              · replace h := ite_f hc13 h
                refine WpC.conv (cS [.k [12, 63, 64, 65] []] (by kernel_rfl) (by kernel_rfl)) (WpC.skip ?_)
                refine blockQ_normal ?_
                refine tnU ?_
                refine rS {} [12, 63, 64, 65] [] hN (by kernel_rfl) (by kernel_rfl) ?_
                refine tnU ?_
                exact ⟨n, Nat.lt_succ_self n, (v3 ++ v11), (IntKind.i64.wrap (v4 + 1)), h, by kernel_rfl⟩
            · replace h := ite_f hc9 h
              refine WpC.conv (cS [.k [12] []] (by kernel_rfl) (by kernel_rfl)) (WpC.exit ?_)
              refine thenQ_exit ?_
              have hq := Option.some.inj h
              subst hq
              refine thenQ_exit ?_
              have h := hout8
              refine blockQ_hit ?_
              refine tnU ?_
              exact ⟨v3, h, by kernel_rfl⟩
        · rintro _ ⟨v1, h, rfl⟩
          unfold millwrightref03_Make.j2 at h
          refine WpC.seq ?_
          refine rS {} [2, 3] [] hN (by kernel_rfl) (by kernel_rfl) ?_
          refine tnU ?_
          refine WpC.ret ?_
          have hq := Option.some.inj h
          subst hq
          exact eR (by kernel_rfl) (by kernel_rfl)

theorem millwrightref03_Parse.ok (O : Out) (hO : GOk O) (k : Nat) (a0 : List UInt8) (out : (List T_ar_Member) × Bool) (h : millwrightref03_Parse.f k a0 = some out) : COk Un O Tryz.prog 55 { ar := [.p .str a0], r := .tup [.p (.list (.named 5)) out.1, .p .bool out.2] } := by
  refine cok_of_wp Tryz.func55 rfl (k := 153) rfl (Nat.le_of_ble_eq_true rfl) (namesOk_pure rfl rfl rfl rfl) ?_
  intro B hN
  refine WpC.conv (cvK (b := ⟨[(0, .p .str a0)], []⟩) [0] [] (by kernel_rfl)) ?_
  unfold millwrightref03_Parse.f at h
  refine WpC.seq ?_
  refine rS {} [0] [] hN (by kernel_rfl) (by kernel_rfl) ?_
  refine tnU ?_
  refine sqJ (fun st' => millwrightref03_Parse.j59 k a0 = some out ∧ st' = ⟨[(0, .p .str a0)], []⟩) ?_ ?_
  · refine sqJ (fun st' => ∃ v60 : Bool, millwrightref03_Parse.j62 k a0 v60 = some out ∧ st' = ⟨[(0, .p .str a0), (26, .p .bool v60)], []⟩) ?_ ?_
    · rcases bool_cases (decide ((a0.length : Int) > 900)) with hc63 | hc63
      · replace h := ite_t hc63 h
        refine rS { kn := [(17, .t hc63)] } [0, 26] [] hN (by kernel_rfl) (by kernel_rfl) ?_
        refine tnU ?_
        exact ⟨true, h, by kernel_rfl⟩
      · replace h := ite_f hc63 h
        rcases bool_cases (decide ((a0.length : Int) < 8)) with hc64 | hc64
        · replace h := ite_t hc64 h
          refine rS { kn := [(17, .f hc63), (22, .t hc64)] } [0, 26] [] hN (by kernel_rfl) (by kernel_rfl) ?_
          refine tnU ?_
          exact ⟨true, h, by kernel_rfl⟩
        · replace h := ite_f hc64 h
          obtain ⟨v65, hv65, h⟩ := bind_some h
          refine rS { its := [(10, .v .str hv65)], kn := [(17, .f hc63), (22, .f hc64)] } [0, 26] [] hN (by kernel_rfl) (by kernel_rfl) ?_
          refine tnU ?_
          exact ⟨(!(v65 == ([33, 60, 97, 114, 99, 104, 62, 10] : List UInt8))), h, by kernel_rfl⟩
    · rintro _ ⟨v60, h, rfl⟩
      unfold millwrightref03_Parse.j62 at h
      refine tS (b := v60) (by kernel_rfl) (fun hc61 => ?_) (fun hc61 => ?_)
      · replace h := ite_t hc61 h
        refine WpC.seq ?_
        refine rS {} [2, 3] [] hN (by kernel_rfl) (by kernel_rfl) ?_
        refine tnU ?_
        refine WpC.conv (cS [.nL 2 (.named 5), .k [2, 3] []] (by kernel_rfl) (by kernel_rfl)) (WpC.ret ?_)
        refine thenQ_ret ?_
        have hq := Option.some.inj h
        subst hq
        exact eR (by kernel_rfl) (by kernel_rfl)
      · replace h := ite_f hc61 h
        refine WpC.conv (cS [.k [0] []] (by kernel_rfl) (by kernel_rfl)) (WpC.skip ?_)
        refine tnU ?_
        exact ⟨h, by kernel_rfl⟩
  · rintro _ ⟨h, rfl⟩
    unfold millwrightref03_Parse.j59 at h
    refine WpC.seq ?_
    refine rSC {} [0, 4] [27] hN (by kernel_rfl) (by kernel_rfl) (cS [.k [0, 4] [27], .x (Conv.cast (U := Un) (st := ⟨[(0, .p .str a0), (4, .vec 27 3 0 (([] : List T_ar_Member).length))], [(27, .row 102 (.named 5) ([] : List T_ar_Member) true)]⟩) (st' := ⟨[(0, .p .str a0), (4, .vec 27 3 0 0)], [(27, .row 102 (.named 5) ([] : List T_ar_Member) true)]⟩) (by simp only [upd_length, List.length_nil, List.length_replicate]))] (by kernel_rfl) (by kernel_rfl)) ?_
    refine tnU ?_
    refine sqJ (fun st' => ∃ v1 : List T_ar_Member, millwrightref03_Parse.j3 k v1 = some out ∧ st' = ⟨[(4, .vec 1004 3 0 v1.length)], [(1004, .row 102 (.named 5) v1 false)]⟩) ?_ ?_
    · refine WpC.seq ?_
      refine rS {} [0, 4, 5] [27] hN (by kernel_rfl) (by kernel_rfl) ?_
      refine tnU ?_
      refine WpC.block ?_
      obtain ⟨o8, hlo8, h⟩ := bind_some h
      have hout9 := h
      clear h
      refine WpC.conv (cS [.lo 27, .k [0, 4, 5] [27], .rn 27 1004, .k [0, 4, 5] [1004]] (by kernel_rfl) (by kernel_rfl)) ?_
      refine WpC.loop (U := Un) (fun n st' => ∃ v4 : List T_ar_Member, ∃ v5 : Int, millwrightref03_Parse.l6 k a0 n v4 v5 = some o8 ∧ st' = ⟨[(0, .p .str a0), (4, .vec 1004 3 0 v4.length), (5, .p I6 v5)], [(1004, .row 102 (.named 5) v4 false)]⟩) k ⟨([] : List T_ar_Member), 8, hlo8, by kernel_rfl⟩ ?_
      clear hlo8
      rintro (_ | n) _ ⟨v4, v5, h, rfl⟩
      · cases h
      · rw [millwrightref03_Parse.l6] at h
        refine WpC.seq ?_
        refine WpC.seq ?_
        refine rS {} [0, 4, 5, 31] [1004] hN (by kernel_rfl) (by kernel_rfl) ?_
        refine tnU ?_
        refine tS (b := (decide (v5 < (a0.length : Int)))) (by kernel_rfl) (fun hc10 => ?_) (fun hc10 => ?_)
        · replace h := ite_t hc10 h
          refine WpC.conv (cS [.k [0, 4, 5] [1004]] (by kernel_rfl) (by kernel_rfl)) (WpC.skip ?_)
          refine tnU ?_
          refine WpC.block ?_
          refine sqJ (fun st' => millwrightref03_Parse.j49 k (millwrightref03_Parse.l6 k a0 n) a0 v4 v5 = some o8 ∧ st' = ⟨[(0, .p .str a0), (4, .vec 1004 3 0 v4.length), (5, .p I6 v5)], [(1004, .row 102 (.named 5) v4 false)]⟩) ?_ ?_
          · refine sqJ (fun st' => ∃ v50 : Bool, millwrightref03_Parse.j52 k (millwrightref03_Parse.l6 k a0 n) a0 v4 v5 v50 = some o8 ∧ st' = ⟨[(0, .p .str a0), (4, .vec 1004 3 0 v4.length), (5, .p I6 v5), (54, .p .bool v50)], [(1004, .row 102 (.named 5) v4 false)]⟩) ?_ ?_
            · rcases bool_cases (decide ((IntKind.i64.wrap ((a0.length : Int) - v5)) < 60)) with hc53 | hc53
              · replace h := ite_t hc53 h
                refine rS { kn := [(37, .t hc53)] } [0, 4, 5, 54] [1004] hN (by kernel_rfl) (by kernel_rfl) ?_
                refine tnU ?_
                exact ⟨true, h, by kernel_rfl⟩
              · replace h := ite_f hc53 h
                obtain ⟨v54, hv54, h⟩ := bind_some h
                rcases bool_cases (!(v54 == ([48, 32, 32, 32, 32, 32, 48, 32, 32, 32, 32, 32, 54, 52, 52, 32, 32, 32, 32, 32] : List UInt8))) with hc55 | hc55
                · replace h := ite_t hc55 h
                  refine rS { its := [(11, .v .str hv54)], kn := [(37, .f hc53), (46, .t hc55)] } [0, 4, 5, 54] [1004] hN (by kernel_rfl) (by kernel_rfl) ?_
                  refine tnU ?_
                  exact ⟨true, h, by kernel_rfl⟩
                · replace h := ite_f hc55 h
                  obtain ⟨v56, hv56, h⟩ := bind_some h
                  refine rS { its := [(11, .v .str hv54), (20, .v .str hv56)], kn := [(37, .f hc53), (46, .f hc55)] } [0, 4, 5, 54] [1004] hN (by kernel_rfl) (by kernel_rfl) ?_
                  refine tnU ?_
                  exact ⟨(!(v56 == ([96, 10] : List UInt8))), h, by kernel_rfl⟩
            · rintro _ ⟨v50, h, rfl⟩
              unfold millwrightref03_Parse.j52 at h
              refine tS (b := v50) (by kernel_rfl) (fun hc51 => ?_) (fun hc51 => ?_)
              · replace h := ite_t hc51 h
                refine WpC.seq ?_
                refine rS {} [2, 3] [] hN (by kernel_rfl) (by kernel_rfl) ?_
                refine tnU ?_
                refine WpC.conv (cS [.nL 2 (.named 5), .k [2, 3] []] (by kernel_rfl) (by kernel_rfl)) (WpC.ret ?_)
                refine thenQ_ret ?_
                refine blockQ_ret ?_
                have hq := Option.some.inj h
                subst hq
                refine thenQ_ret ?_
                have h := hout9
                refine blockQ_ret ?_
                refine thenQ_ret ?_
                have hq := Option.some.inj h
                subst hq
                exact eR (by kernel_rfl) (by kernel_rfl)
              · replace h := ite_f hc51 h
                refine WpC.conv (cS [.k [0, 4, 5] [1004]] (by kernel_rfl) (by kernel_rfl)) (WpC.skip ?_)
                refine tnU ?_
                exact ⟨h, by kernel_rfl⟩
          · rintro _ ⟨h, rfl⟩
            unfold millwrightref03_Parse.j49 at h
            refine WpC.seq ?_
            obtain ⟨v11, hv11, h⟩ := bind_some h
            refine rS { its := [(4, .v .str hv11)] } [0, 4, 5, 6] [1004] hN (by kernel_rfl) (by kernel_rfl) ?_
            refine tnU ?_
            refine sqJ (fun st' => ∃ v12 : List UInt8, millwrightref03_Parse.j35 k (millwrightref03_Parse.l6 k a0 n) a0 v4 v5 v12 = some o8 ∧ st' = ⟨[(0, .p .str a0), (4, .vec 1004 3 0 v4.length), (5, .p I6 v5), (6, .p .str v12)], [(1004, .row 102 (.named 5) v4 false)]⟩) ?_ ?_
            · refine WpC.block ?_
              obtain ⟨o39, hlo39, h⟩ := bind_some h
              have hout40 := h
              clear h
              refine WpC.loop (U := Un) (fun n st' => ∃ v36 : List UInt8, millwrightref03_Parse.l37 k a0 v4 v5 n v36 = some o39 ∧ st' = ⟨[(0, .p .str a0), (4, .vec 1004 3 0 v4.length), (5, .p I6 v5), (6, .p .str v36)], [(1004, .row 102 (.named 5) v4 false)]⟩) k ⟨v11, hlo39, by kernel_rfl⟩ ?_
              clear hlo39
              rintro (_ | n) _ ⟨v36, h, rfl⟩
              · cases h
              · rw [millwrightref03_Parse.l37] at h
                refine sqJ (fun st' => millwrightref03_Parse.j42 k (millwrightref03_Parse.l37 k a0 v4 v5 n) a0 v4 v5 v36 = some o39 ∧ st' = ⟨[(0, .p .str a0), (4, .vec 1004 3 0 v4.length), (5, .p I6 v5), (6, .p .str v36)], [(1004, .row 102 (.named 5) v4 false)]⟩) ?_ ?_
                · refine sqJ (fun st' => ∃ v43 : Bool, millwrightref03_Parse.j45 k (millwrightref03_Parse.l37 k a0 v4 v5 n) a0 v4 v5 v36 v43 = some o39 ∧ st' = ⟨[(0, .p .str a0), (4, .vec 1004 3 0 v4.length), (5, .p I6 v5), (6, .p .str v36), (70, .p .bool v43)], [(1004, .row 102 (.named 5) v4 false)]⟩) ?_ ?_
                  · rcases bool_cases (decide ((v36.length : Int) > 0)) with hc46 | hc46
                    · replace h := ite_t hc46 h
                      obtain ⟨v47, hv47, h⟩ := bind_some h
                      refine rS { its := [(8, .u hv47)], kn := [(63, .t hc46)] } [0, 4, 5, 6, 70] [1004] hN (by kernel_rfl) (by kernel_rfl) ?_
                      refine tnU ?_
                      exact ⟨((v47.toNat : Int) == 32), h, by kernel_rfl⟩
                    · replace h := ite_f hc46 h
                      refine rS { kn := [(63, .f hc46)] } [0, 4, 5, 6, 70] [1004] hN (by kernel_rfl) (by kernel_rfl) ?_
                      refine tnU ?_
                      exact ⟨false, h, by kernel_rfl⟩
                  · rintro _ ⟨v43, h, rfl⟩
                    unfold millwrightref03_Parse.j45 at h
                    refine tS (b := v43) (by kernel_rfl) (fun hc44 => ?_) (fun hc44 => ?_)
                    · replace h := ite_t hc44 h
                      refine WpC.conv (cS [.k [0, 4, 5, 6] [1004]] (by kernel_rfl) (by kernel_rfl)) (WpC.skip ?_)
                      refine tnU ?_
                      exact ⟨h, by kernel_rfl⟩
                    · replace h := ite_f hc44 h
                      refine WpC.conv (cS [.k [0, 4, 5, 6] [1004]] (by kernel_rfl) (by kernel_rfl)) (WpC.exit ?_)
                      refine thenQ_exit ?_
                      have hq := Option.some.inj h
                      subst hq
                      refine thenQ_exit ?_
                      have h := hout40
                      refine blockQ_hit ?_
                      refine tnU ?_
                      exact ⟨v36, h, by kernel_rfl⟩
                · rintro _ ⟨h, rfl⟩
                  unfold millwrightref03_Parse.j42 at h
                  refine WpC.block ?_
                  obtain ⟨v41, hv41, h⟩ := bind_some h
                  refine rS { its := [(4, .v .str hv41)] } [0, 4, 5, 6] [1004] hN (by kernel_rfl) (by kernel_rfl) ?_
                  refine blockQ_normal ?_
                  refine tnU ?_
                  exact ⟨n, Nat.lt_succ_self n, v41, h, by kernel_rfl⟩
            · rintro _ ⟨v12, h, rfl⟩
              unfold millwrightref03_Parse.j35 at h
              refine WpC.seq ?_
              obtain ⟨v13, hv13, h⟩ := bind_some h
              obtain ⟨v14, hv14, h⟩ := bind_some h
              refine rS { its := [(5, .v .str hv13), (6, .c (millwrightref03_figures.ok O hO k v13 v14 hv14))] } [0, 4, 5, 6, 7, 8] [1004] hN (by kernel_rfl) (by kernel_rfl) ?_
              refine tnU ?_
              refine WpC.seq ?_
              obtain ⟨v15, hv15, h⟩ := bind_some h
              obtain ⟨v16, hv16, h⟩ := bind_some h
              refine rS { its := [(5, .v .str hv15), (6, .c (millwrightref03_figures.ok O hO k v15 v16 hv16))] } [0, 4, 5, 6, 7, 8, 9, 10] [1004] hN (by kernel_rfl) (by kernel_rfl) ?_
              refine tnU ?_
              refine sqJ (fun st' => millwrightref03_Parse.j29 k (millwrightref03_Parse.l6 k a0 n) a0 v4 v5 v12 v14 v16 = some o8 ∧ st' = ⟨[(0, .p .str a0), (4, .vec 1004 3 0 v4.length), (5, .p I6 v5), (6, .p .str v12), (7, .p I6 v14.1), (9, .p I6 v16.1)], [(1004, .row 102 (.named 5) v4 false)]⟩) ?_ ?_
              · refine sqJ (fun st' => ∃ v30 : Bool, millwrightref03_Parse.j32 k (millwrightref03_Parse.l6 k a0 n) a0 v4 v5 v12 v14 v16 v30 = some o8 ∧ st' = ⟨[(0, .p .str a0), (4, .vec 1004 3 0 v4.length), (5, .p I6 v5), (6, .p .str v12), (7, .p I6 v14.1), (9, .p I6 v16.1), (110, .p .bool v30)], [(1004, .row 102 (.named 5) v4 false)]⟩) ?_ ?_
                · rcases bool_cases (!v14.2) with hc33 | hc33
                  · replace h := ite_t hc33 h
                    refine rS { kn := [(98, .t hc33)] } [0, 4, 5, 6, 7, 9, 110] [1004] hN (by kernel_rfl) (by kernel_rfl) ?_
                    refine tnU ?_
                    exact ⟨true, h, by kernel_rfl⟩
                  · replace h := ite_f hc33 h
                    rcases bool_cases (!v16.2) with hc34 | hc34
                    · replace h := ite_t hc34 h
                      refine rS { kn := [(98, .f hc33), (102, .t hc34)] } [0, 4, 5, 6, 7, 9, 110] [1004] hN (by kernel_rfl) (by kernel_rfl) ?_
                      refine tnU ?_
                      exact ⟨true, h, by kernel_rfl⟩
                    · replace h := ite_f hc34 h
                      refine rS { kn := [(98, .f hc33), (102, .f hc34)] } [0, 4, 5, 6, 7, 9, 110] [1004] hN (by kernel_rfl) (by kernel_rfl) ?_
                      refine tnU ?_
                      exact ⟨(decide (v16.1 > (IntKind.i64.wrap ((IntKind.i64.wrap ((a0.length : Int) - v5)) - 60)))), h, by kernel_rfl⟩
                · rintro _ ⟨v30, h, rfl⟩
                  unfold millwrightref03_Parse.j32 at h
                  refine tS (b := v30) (by kernel_rfl) (fun hc31 => ?_) (fun hc31 => ?_)
                  · replace h := ite_t hc31 h
                    refine WpC.seq ?_
                    refine rS {} [2, 3] [] hN (by kernel_rfl) (by kernel_rfl) ?_
                    refine tnU ?_
                    refine WpC.conv (cS [.nL 2 (.named 5), .k [2, 3] []] (by kernel_rfl) (by kernel_rfl)) (WpC.ret ?_)
                    refine thenQ_ret ?_
                    refine blockQ_ret ?_
                    have hq := Option.some.inj h
                    subst hq
                    refine thenQ_ret ?_
                    have h := hout9
                    refine blockQ_ret ?_
                    refine thenQ_ret ?_
                    have hq := Option.some.inj h
                    subst hq
                    exact eR (by kernel_rfl) (by kernel_rfl)
                  · replace h := ite_f hc31 h
                    refine WpC.conv (cS [.k [0, 4, 5, 6, 7, 9] [1004]] (by kernel_rfl) (by kernel_rfl)) (WpC.skip ?_)
                    refine tnU ?_
                    exact ⟨h, by kernel_rfl⟩
              · rintro _ ⟨h, rfl⟩
                unfold millwrightref03_Parse.j29 at h
                refine WpC.seq ?_
                obtain ⟨v17, hv17, h⟩ := bind_some h
                refine rS { its := [(9, .v .str hv17)] } [0, 4, 5, 9, 11] [11, 1004] hN (by kernel_rfl) (by kernel_rfl) ?_
                refine tnU ?_
                refine WpC.seq ?_
                refine rS {} [0, 4, 5, 9, 11] [11, 1004] hN (by kernel_rfl) (by kernel_rfl) ?_
                refine tnU ?_
                refine sqJ (fun st' => ∃ v18 : Int, millwrightref03_Parse.j20 k (millwrightref03_Parse.l6 k a0 n) a0 v4 v12 v14 v17 v18 = some o8 ∧ st' = ⟨[(0, .p .str a0), (4, .vec 1004 3 0 v4.length), (5, .p I6 v18), (11, .loc 11 0)], [(11, .box [.p .str v12, .p I6 v14.1, .p .str v17]), (1004, .row 102 (.named 5) v4 false)]⟩) ?_ ?_
                · refine WpC.seq ?_
                  obtain ⟨g21, h⟩ := if_some h
                  refine rS { its := [(1, .g g21)] } [0, 4, 5, 11, 128] [11, 1004] hN (by kernel_rfl) (by kernel_rfl) ?_
                  refine tnU ?_
                  refine tS (b := ((Int.tmod v16.1 2) == 1)) (by kernel_rfl) (fun hc22 => ?_) (fun hc22 => ?_)
                  · replace h := ite_t hc22 h
                    refine sqJ (fun st' => millwrightref03_Parse.j23 k (millwrightref03_Parse.l6 k a0 n) a0 v4 v5 v12 v14 v16 v17 = some o8 ∧ st' = ⟨[(0, .p .str a0), (4, .vec 1004 3 0 v4.length), (5, .p I6 ((IntKind.i64.wrap (v5 + (IntKind.i64.wrap (60 + v16.1)))) : Int)), (11, .loc 11 0)], [(11, .box [.p .str v12, .p I6 v14.1, .p .str v17]), (1004, .row 102 (.named 5) v4 false)]⟩) ?_ ?_
                    · refine sqJ (fun st' => ∃ v24 : Bool, millwrightref03_Parse.j26 k (millwrightref03_Parse.l6 k a0 n) a0 v4 v5 v12 v14 v16 v17 v24 = some o8 ∧ st' = ⟨[(0, .p .str a0), (4, .vec 1004 3 0 v4.length), (5, .p I6 ((IntKind.i64.wrap (v5 + (IntKind.i64.wrap (60 + v16.1)))) : Int)), (11, .loc 11 0), (138, .p .bool v24)], [(11, .box [.p .str v12, .p I6 v14.1, .p .str v17]), (1004, .row 102 (.named 5) v4 false)]⟩) ?_ ?_
                      · rcases bool_cases (decide ((IntKind.i64.wrap (v5 + (IntKind.i64.wrap (60 + v16.1)))) ≥ (a0.length : Int))) with hc27 | hc27
                        · replace h := ite_t hc27 h
                          refine rS { kn := [(133, .t hc27)] } [0, 4, 5, 11, 138] [11, 1004] hN (by kernel_rfl) (by kernel_rfl) ?_
                          refine tnU ?_
                          exact ⟨true, h, by kernel_rfl⟩
                        · replace h := ite_f hc27 h
                          obtain ⟨v28, hv28, h⟩ := bind_some h
                          refine rS { its := [(7, .u hv28)], kn := [(133, .f hc27)] } [0, 4, 5, 11, 138] [11, 1004] hN (by kernel_rfl) (by kernel_rfl) ?_
                          refine tnU ?_
                          exact ⟨((v28.toNat : Int) != 10), h, by kernel_rfl⟩
                      · rintro _ ⟨v24, h, rfl⟩
                        unfold millwrightref03_Parse.j26 at h
                        refine tS (b := v24) (by kernel_rfl) (fun hc25 => ?_) (fun hc25 => ?_)
                        · replace h := ite_t hc25 h
                          refine WpC.seq ?_
                          refine rS {} [2, 3] [] hN (by kernel_rfl) (by kernel_rfl) ?_
                          refine tnU ?_
                          refine WpC.conv (cS [.nL 2 (.named 5), .k [2, 3] []] (by kernel_rfl) (by kernel_rfl)) (WpC.ret ?_)
                          refine thenQ_ret ?_
                          refine thenQ_ret ?_
                          refine blockQ_ret ?_
                          have hq := Option.some.inj h
                          subst hq
                          refine thenQ_ret ?_
                          have h := hout9
                          refine blockQ_ret ?_
                          refine thenQ_ret ?_
                          have hq := Option.some.inj h
                          subst hq
                          exact eR (by kernel_rfl) (by kernel_rfl)
                        · replace h := ite_f hc25 h
                          refine WpC.conv (cS [.k [0, 4, 5, 11] [11, 1004]] (by kernel_rfl) (by kernel_rfl)) (WpC.skip ?_)
                          refine tnU ?_
                          exact ⟨h, by kernel_rfl⟩
                    · rintro _ ⟨h, rfl⟩
                      unfold millwrightref03_Parse.j23 at h
                      refine rS {} [0, 4, 5, 11] [11, 1004] hN (by kernel_rfl) (by kernel_rfl) ?_
                      refine tnU ?_
                      exact ⟨(IntKind.i64.wrap ((IntKind.i64.wrap (v5 + (IntKind.i64.wrap (60 + v16.1)))) + 1)), h, by kernel_rfl⟩
                  · replace h := ite_f hc22 h
                    refine WpC.conv (cS [.k [0, 4, 5, 11] [11, 1004]] (by kernel_rfl) (by kernel_rfl)) (WpC.skip ?_)
                    refine tnU ?_
                    exact ⟨(IntKind.i64.wrap (v5 + (IntKind.i64.wrap (60 + v16.1)))), h, by kernel_rfl⟩
                · rintro _ ⟨v18, h, rfl⟩
                  unfold millwrightref03_Parse.j20 at h
                  obtain ⟨g19, h⟩ := if_some h
                  refine rSC { its := [(3, .g g19)] } [0, 4, 5] [144] hN (by kernel_rfl) (by kernel_rfl) (cS [.rn 144 1004, .k [0, 4, 5] [1004]] (by kernel_rfl) (by kernel_rfl)) ?_
                  refine blockQ_normal ?_
                  refine tnU ?_
                  exact ⟨n, Nat.lt_succ_self n, (v4 ++ [(T_ar_Member.mk v12 v14.1 v17)]), v18, h, by kernel_rfl⟩
        · replace h := ite_f hc10 h
          refine WpC.conv (cS [.k [4] [1004]] (by kernel_rfl) (by kernel_rfl)) (WpC.exit ?_)
          refine thenQ_exit ?_
          have hq := Option.some.inj h
          subst hq
          refine thenQ_exit ?_
          have h := hout9
          refine blockQ_hit ?_
          refine tnU ?_
          exact ⟨v4, h, by kernel_rfl⟩
    · rintro _ ⟨v1, h, rfl⟩
      unfold millwrightref03_Parse.j3 at h
      refine WpC.seq ?_
      obtain ⟨v2, hv2, h⟩ := bind_some h
      refine rS { its := [(1, .c (millwrightref03_Make.ok O hO k v1 v2 hv2))] } [4, 13] [1004] hN (by kernel_rfl) (by kernel_rfl) ?_
      refine tnU ?_
      refine WpC.seq ?_
      refine rS {} [2, 3] [1004] hN (by kernel_rfl) (by kernel_rfl) ?_
      refine tnU ?_
      refine WpC.conv (cS [.fz 2, .k [2, 3] []] (by kernel_rfl) (by kernel_rfl)) (WpC.ret ?_)
      have hq := Option.some.inj h
      subst hq
      exact eR (by kernel_rfl) (by kernel_rfl)

theorem millwrightref04_Set_m0.ok (O : Out) (hO : GOk O) (k : Nat) (a0 : List T_tree_File) (a1 : List UInt8) (a2 : Int) (out : Int × (List T_tree_File)) (h : millwrightref04_Set_m0.f k a0 a1 a2 = some out) : COk Un O Tryz.prog 31 { ar := [.loc 100000 0, .p .str a1, .p I6 a2], r := .p I6 out.1, bs := [(100000, .box [.p (.list (.named 3)) a0])], bs' := [(100000, .box [.p (.list (.named 3)) out.2])] } := by
  refine cok_of_wp Tryz.func31 rfl (k := 91) rfl (Nat.le_of_ble_eq_true rfl) (namesOk_of (by kernel_rfl)) ?_
  intro B hN
  refine WpC.conv (cvK (b := ⟨[(0, .loc 100000 0), (1, .p .str a1), (2, .p I6 a2)], [(100000, .box [.p (.list (.named 3)) a0])]⟩) [0, 1, 2] [100000] (by kernel_rfl)) ?_
  unfold millwrightref04_Set_m0.f at h
  refine WpC.seq ?_
  refine rS {} [0, 1, 2] [100000] hN (by kernel_rfl) (by kernel_rfl) ?_
  refine tnU ?_
  refine WpC.seq ?_
  obtain ⟨v1, hv1, h⟩ := bind_some h
  refine rS { its := [(1, .c (millwrightref01_Member.ok O hO k a1 v1 hv1))] } [0, 1, 2, 7, 8, 9] [100000] hN (by kernel_rfl) (by kernel_rfl) ?_
  refine tnU ?_
  refine WpC.seq ?_
  refine WpC.seq ?_
  refine rS {} [0, 1, 2, 7, 8, 25] [100000] hN (by kernel_rfl) (by kernel_rfl) ?_
  refine tnU ?_
  refine tS (b := (!v1.2.2)) (by kernel_rfl) (fun hc2 => ?_) (fun hc2 => ?_)
  · replace h := ite_t hc2 h
    refine WpC.seq ?_
    obtain ⟨v3, hv3, h⟩ := bind_some h
    refine rS { its := [(3, .c (COk.ren (millwrightref02_Tree_Touch_m0.ok O hO k a0 a1 a2 v3 hv3) (fun n => if n = 100000 then 100000 else n) (injOn_of (by kernel_rfl))))] } [6] [100000] hN (by kernel_rfl) (by kernel_rfl) ?_
    refine tnU ?_
    refine WpC.ret ?_
    refine thenQ_ret ?_
    have hq := Option.some.inj h
    subst hq
    exact eR (by kernel_rfl) (by kernel_rfl)
  · replace h := ite_f hc2 h
    refine WpC.conv (cS [.k [0, 2, 7, 8] [100000]] (by kernel_rfl) (by kernel_rfl)) (WpC.skip ?_)
    refine tnU ?_
    refine sqJ (fun st' => millwrightref04_Set_m0.j40 k a0 a2 v1 = some out ∧ st' = ⟨[(0, .loc 100000 0), (2, .p I6 a2), (7, .p .str v1.1), (8, .p .str v1.2.1)], [(100000, .box [.p (.list (.named 3)) a0])]⟩) ?_ ?_
    · refine sqJ (fun st' => ∃ v41 : Bool, millwrightref04_Set_m0.j43 k a0 a2 v1 v41 = some out ∧ st' = ⟨[(0, .loc 100000 0), (2, .p I6 a2), (7, .p .str v1.1), (8, .p .str v1.2.1), (35, .p .bool v41)], [(100000, .box [.p (.list (.named 3)) a0])]⟩) ?_ ?_
      · rcases bool_cases (decide (a2 < 1)) with hc44 | hc44
        · replace h := ite_t hc44 h
          refine rS { kn := [(32, .t hc44)] } [0, 2, 7, 8, 35] [100000] hN (by kernel_rfl) (by kernel_rfl) ?_
          refine tnU ?_
          exact ⟨true, h, by kernel_rfl⟩
        · replace h := ite_f hc44 h
          refine rS { kn := [(32, .f hc44)] } [0, 2, 7, 8, 35] [100000] hN (by kernel_rfl) (by kernel_rfl) ?_
          refine tnU ?_
          exact ⟨(decide (a2 > 549755813888)), h, by kernel_rfl⟩
      · rintro _ ⟨v41, h, rfl⟩
        unfold millwrightref04_Set_m0.j43 at h
        refine tS (b := v41) (by kernel_rfl) (fun hc42 => ?_) (fun hc42 => ?_)
        · replace h := ite_t hc42 h
          refine WpC.seq ?_
          refine rS {} [6] [100000] hN (by kernel_rfl) (by kernel_rfl) ?_
          refine tnU ?_
          refine WpC.ret ?_
          refine thenQ_ret ?_
          have hq := Option.some.inj h
          subst hq
          exact eR (by kernel_rfl) (by kernel_rfl)
        · replace h := ite_f hc42 h
          refine WpC.conv (cS [.k [0, 2, 7, 8] [100000]] (by kernel_rfl) (by kernel_rfl)) (WpC.skip ?_)
          refine tnU ?_
          exact ⟨h, by kernel_rfl⟩
    · rintro _ ⟨h, rfl⟩
      unfold millwrightref04_Set_m0.j40 at h
      refine WpC.seq ?_
      obtain ⟨v4, hv4, h⟩ := bind_some h
      refine rS { its := [(2, .c (COk.ren (millwrightref04_content_m0.ok O hO k a0 v1.1 v4 hv4) (fun n => if n = 100000 then 100000 else n) (injOn_of (by kernel_rfl))))] } [0, 2, 7, 8, 10] [100000] hN (by kernel_rfl) (by kernel_rfl) ?_
      refine tnU ?_
      refine WpC.seq ?_
      obtain ⟨v5, hv5, h⟩ := bind_some h
      refine rS { its := [(1, .c (millwrightref03_Parse.ok O hO k v4 v5 hv5))] } [0, 2, 7, 8, 10, 11, 12] [100000] hN (by kernel_rfl) (by kernel_rfl) ?_
      refine tnU ?_
      refine sqJ (fun st' => millwrightref04_Set_m0.j35 k a0 a2 v1 v5 = some out ∧ st' = ⟨[(0, .loc 100000 0), (2, .p I6 a2), (7, .p .str v1.1), (8, .p .str v1.2.1), (11, .p (.list (.named 5)) v5.1)], [(100000, .box [.p (.list (.named 3)) a0])]⟩) ?_ ?_
      · refine sqJ (fun st' => ∃ v36 : Bool, millwrightref04_Set_m0.j38 k a0 a2 v1 v5 v36 = some out ∧ st' = ⟨[(0, .loc 100000 0), (2, .p I6 a2), (7, .p .str v1.1), (8, .p .str v1.2.1), (11, .p (.list (.named 5)) v5.1), (50, .p .bool v36)], [(100000, .box [.p (.list (.named 3)) a0])]⟩) ?_ ?_
        · rcases bool_cases (!v5.2) with hc39 | hc39
          · replace h := ite_t hc39 h
            refine rS { kn := [(46, .t hc39)] } [0, 2, 7, 8, 11, 50] [100000] hN (by kernel_rfl) (by kernel_rfl) ?_
            refine tnU ?_
            exact ⟨(decide ((v4.length : Int) > 0)), h, by kernel_rfl⟩
          · replace h := ite_f hc39 h
            refine rS { kn := [(46, .f hc39)] } [0, 2, 7, 8, 11, 50] [100000] hN (by kernel_rfl) (by kernel_rfl) ?_
            refine tnU ?_
            exact ⟨false, h, by kernel_rfl⟩
        · rintro _ ⟨v36, h, rfl⟩
          unfold millwrightref04_Set_m0.j38 at h
          refine tS (b := v36) (by kernel_rfl) (fun hc37 => ?_) (fun hc37 => ?_)
          · replace h := ite_t hc37 h
            refine WpC.seq ?_
            refine rS {} [6] [100000] hN (by kernel_rfl) (by kernel_rfl) ?_
            refine tnU ?_
            refine WpC.ret ?_
            refine thenQ_ret ?_
            have hq := Option.some.inj h
            subst hq
            exact eR (by kernel_rfl) (by kernel_rfl)
          · replace h := ite_f hc37 h
            refine WpC.conv (cS [.k [0, 2, 7, 8, 11] [100000]] (by kernel_rfl) (by kernel_rfl)) (WpC.skip ?_)
            refine tnU ?_
            exact ⟨h, by kernel_rfl⟩
      · rintro _ ⟨h, rfl⟩
        unfold millwrightref04_Set_m0.j35 at h
        refine WpC.seq ?_
        refine rSC {} [0, 2, 7, 8, 11, 13] [51, 100000] hN (by kernel_rfl) (by kernel_rfl) (cS [.k [0, 2, 7, 8, 11, 13] [51, 100000], .x (Conv.cast (U := Un) (st := ⟨[(0, .loc 100000 0), (2, .p I6 a2), (7, .p .str v1.1), (8, .p .str v1.2.1), (11, .p (.list (.named 5)) v5.1), (13, .vec 51 3 0 (([] : List T_ar_Member).length))], [(51, .row 102 (.named 5) ([] : List T_ar_Member) true), (100000, .box [.p (.list (.named 3)) a0])]⟩) (st' := ⟨[(0, .loc 100000 0), (2, .p I6 a2), (7, .p .str v1.1), (8, .p .str v1.2.1), (11, .p (.list (.named 5)) v5.1), (13, .vec 51 3 0 0)], [(51, .row 102 (.named 5) ([] : List T_ar_Member) true), (100000, .box [.p (.list (.named 3)) a0])]⟩) (by simp only [upd_length, List.length_nil, List.length_replicate]))] (by kernel_rfl) (by kernel_rfl)) ?_
        refine tnU ?_
        refine WpC.seq ?_
        refine rS {} [0, 2, 7, 8, 11, 13, 14] [51, 100000] hN (by kernel_rfl) (by kernel_rfl) ?_
        refine tnU ?_
        refine sqJ (fun st' => ∃ v6 : List T_ar_Member, ∃ v7 : Bool, millwrightref04_Set_m0.j15 k a0 a2 v1 v6 v7 = some out ∧ st' = ⟨[(0, .loc 100000 0), (2, .p I6 a2), (7, .p .str v1.1), (8, .p .str v1.2.1), (13, .vec 1013 3 0 v6.length), (14, .p .bool v7)], [(1013, .row 102 (.named 5) v6 false), (100000, .box [.p (.list (.named 3)) a0])]⟩) ?_ ?_
        · refine WpC.seq ?_
          refine rS {} [0, 2, 7, 8, 13, 14, 52, 53, 54] [51, 100000] hN (by kernel_rfl) (by kernel_rfl) ?_
          refine tnU ?_
          refine WpC.block ?_
          obtain ⟨o22, hlo22, h⟩ := bind_some h
          have hout23 := h
          clear h
          refine WpC.conv (cS [.lo 51, .k [0, 2, 7, 8, 13, 14, 52, 53, 54] [51, 100000], .rn 51 1013, .k [0, 2, 7, 8, 13, 14, 52, 53, 54] [1013, 100000]] (by kernel_rfl) (by kernel_rfl)) ?_
          refine WpC.loop (U := Un) (fun n st' => ∃ v16 : List T_ar_Member, ∃ v17 : Bool, ∃ v18 : Int, millwrightref04_Set_m0.l19 k a0 a2 v1 v5 n v16 v17 v18 = some o22 ∧ st' = ⟨[(0, .loc 100000 0), (2, .p I6 a2), (7, .p .str v1.1), (8, .p .str v1.2.1), (13, .vec 1013 3 0 v16.length), (14, .p .bool v17), (52, .p (.list (.named 5)) v5.1), (53, .p I6 ((v5.1.length : Int) : Int)), (54, .p I6 v18)], [(1013, .row 102 (.named 5) v16 false), (100000, .box [.p (.list (.named 3)) a0])]⟩) k ⟨([] : List T_ar_Member), false, 0, hlo22, by kernel_rfl⟩ ?_
          clear hlo22
          rintro (_ | n) _ ⟨v16, v17, v18, h, rfl⟩
          · cases h
          · rw [millwrightref04_Set_m0.l19] at h
            refine WpC.seq ?_
            refine rS {} [0, 2, 7, 8, 13, 14, 52, 53, 54, 55] [1013, 100000] hN (by kernel_rfl) (by kernel_rfl) ?_
            refine tnU ?_
            refine WpC.seq ?_
            refine tS (b := (decide (v18 < (v5.1.length : Int)))) (by kernel_rfl) (fun hc24 => ?_) (fun hc24 => ?_)
            · replace h := ite_t hc24 h
              refine WpC.conv (cS [.k [0, 2, 7, 8, 13, 14, 52, 53, 54] [1013, 100000]] (by kernel_rfl) (by kernel_rfl)) (WpC.skip ?_)
              refine tnU ?_
              refine sqJ (fun st' => ∃ v25 : List T_ar_Member, ∃ v26 : Bool, millwrightref04_Set_m0.j27 k (millwrightref04_Set_m0.l19 k a0 a2 v1 v5 n) a0 a2 v1 v5 v18 v25 v26 = some o22 ∧ st' = ⟨[(0, .loc 100000 0), (2, .p I6 a2), (7, .p .str v1.1), (8, .p .str v1.2.1), (13, .vec 1013 3 0 v25.length), (14, .p .bool v26), (52, .p (.list (.named 5)) v5.1), (53, .p I6 ((v5.1.length : Int) : Int)), (54, .p I6 v18)], [(1013, .row 102 (.named 5) v25 false), (100000, .box [.p (.list (.named 3)) a0])]⟩) ?_ ?_
              · refine WpC.block ?_
                refine WpC.seq ?_
                obtain ⟨v28, hv28, h⟩ := bind_some h
                refine rS { its := [(0, .v (.named 5) hv28)] } [0, 2, 7, 8, 13, 14, 16, 52, 53, 54] [16, 1013, 100000] hN (by kernel_rfl) (by kernel_rfl) ?_
                refine tnU ?_
                refine sqJ (fun st' => ∃ v29 : Bool, ∃ v30 : Int, millwrightref04_Set_m0.j32 k (millwrightref04_Set_m0.l19 k a0 a2 v1 v5 n) a0 a2 v1 v5 v16 v18 v28 v29 v30 = some o22 ∧ st' = ⟨[(0, .loc 100000 0), (2, .p I6 a2), (7, .p .str v1.1), (8, .p .str v1.2.1), (13, .vec 1013 3 0 v16.length), (14, .p .bool v29), (16, .loc 16 0), (52, .p (.list (.named 5)) v5.1), (53, .p I6 ((v5.1.length : Int) : Int)), (54, .p I6 v18)], [(16, .box [.p .str v28.f_Name, .p I6 v30, .p .str v28.f_Content]), (1013, .row 102 (.named 5) v16 false), (100000, .box [.p (.list (.named 3)) a0])]⟩) ?_ ?_
                · refine WpC.seq ?_
                  refine rS {} [0, 2, 7, 8, 13, 14, 16, 52, 53, 54, 61] [16, 1013, 100000] hN (by kernel_rfl) (by kernel_rfl) ?_
                  refine tnU ?_
                  refine tS (b := (v28.f_Name == v1.2.1)) (by kernel_rfl) (fun hc33 => ?_) (fun hc33 => ?_)
                  · replace h := ite_t hc33 h
                    refine WpC.seq ?_
                    refine rS {} [0, 2, 7, 8, 13, 16, 52, 53, 54] [16, 1013, 100000] hN (by kernel_rfl) (by kernel_rfl) ?_
                    refine tnU ?_
                    refine rS {} [0, 2, 7, 8, 13, 14, 16, 52, 53, 54] [16, 1013, 100000] hN (by kernel_rfl) (by kernel_rfl) ?_
                    refine tnU ?_
                    exact ⟨true, a2, h, by kernel_rfl⟩
                  · replace h := ite_f hc33 h
                    refine WpC.conv (cS [.k [0, 2, 7, 8, 13, 14, 16, 52, 53, 54] [16, 1013, 100000]] (by kernel_rfl) (by kernel_rfl)) (WpC.skip ?_)
                    refine tnU ?_
                    exact ⟨v17, v28.f_Time, h, by kernel_rfl⟩
                · rintro _ ⟨v29, v30, h, rfl⟩
                  unfold millwrightref04_Set_m0.j32 at h
                  obtain ⟨g31, h⟩ := if_some h
                  refine rSC { its := [(3, .g g31)] } [0, 2, 7, 8, 13, 14, 52, 53, 54] [67, 100000] hN (by kernel_rfl) (by kernel_rfl) (cS [.rn 67 1013, .k [0, 2, 7, 8, 13, 14, 52, 53, 54] [1013, 100000]] (by kernel_rfl) (by kernel_rfl)) ?_
                  refine blockQ_normal ?_
                  refine tnU ?_
                  exact ⟨(v16 ++ [(T_ar_Member.mk v28.f_Name v30 v28.f_Content)]), v29, h, by kernel_rfl⟩
              · rintro _ ⟨v25, v26, h, rfl⟩
                unfold millwrightref04_Set_m0.j27 at h
                refine rS {} [0, 2, 7, 8, 13, 14, 52, 53, 54] [1013, 100000] hN (by kernel_rfl) (by kernel_rfl) ?_
                refine tnU ?_
                exact ⟨n, Nat.lt_succ_self n, v25, v26, (IntKind.i64.wrap (v18 + 1)), h, by kernel_rfl⟩
            · replace h := ite_f hc24 h
              refine WpC.conv (cS [.k [0, 2, 7, 8, 13, 14] [1013, 100000]] (by kernel_rfl) (by kernel_rfl)) (WpC.exit ?_)
              refine thenQ_exit ?_
              have hq := Option.some.inj h
              subst hq
              refine thenQ_exit ?_
              have h := hout23
              refine blockQ_hit ?_
              refine tnU ?_
              exact ⟨v16, v17, h, by kernel_rfl⟩
        · rintro _ ⟨v6, v7, h, rfl⟩
          unfold millwrightref04_Set_m0.j15 at h
          refine sqJ (fun st' => ∃ v8 : List T_ar_Member, millwrightref04_Set_m0.j12 k a0 a2 v1 v8 = some out ∧ st' = ⟨[(0, .loc 100000 0), (2, .p I6 a2), (7, .p .str v1.1), (13, .vec 1013 3 0 v8.length)], [(1013, .row 102 (.named 5) v8 false), (100000, .box [.p (.list (.named 3)) a0])]⟩) ?_ ?_
          · refine WpC.seq ?_
            refine rS {} [0, 2, 7, 8, 13, 70] [1013, 100000] hN (by kernel_rfl) (by kernel_rfl) ?_
            refine tnU ?_
            refine tS (b := (!v7)) (by kernel_rfl) (fun hc13 => ?_) (fun hc13 => ?_)
            · replace h := ite_t hc13 h
              obtain ⟨g14, h⟩ := if_some h
              refine rSC { its := [(5, .g g14)] } [0, 2, 7, 13] [76, 100000] hN (by kernel_rfl) (by kernel_rfl) (cS [.rn 76 1013, .k [0, 2, 7, 13] [1013, 100000]] (by kernel_rfl) (by kernel_rfl)) ?_
              refine tnU ?_
              exact ⟨(v6 ++ [(T_ar_Member.mk v1.2.1 a2 [])]), h, by kernel_rfl⟩
            · replace h := ite_f hc13 h
              refine WpC.conv (cS [.k [0, 2, 7, 13] [1013, 100000]] (by kernel_rfl) (by kernel_rfl)) (WpC.skip ?_)
              refine tnU ?_
              exact ⟨v6, h, by kernel_rfl⟩
          · rintro _ ⟨v8, h, rfl⟩
            unfold millwrightref04_Set_m0.j12 at h
            refine WpC.seq ?_
            obtain ⟨v9, hv9, h⟩ := bind_some h
            refine rS { its := [(1, .c (millwrightref03_Make.ok O hO k v8 v9 hv9))] } [0, 2, 7, 10, 17] [100000] hN (by kernel_rfl) (by kernel_rfl) ?_
            refine tnU ?_
            refine WpC.seq ?_
            refine WpC.seq ?_
            refine rS {} [0, 2, 7, 10, 17, 83] [100000] hN (by kernel_rfl) (by kernel_rfl) ?_
            refine tnU ?_
            refine tS (b := (v9.2 != 0)) (by kernel_rfl) (fun hc10 => ?_) (fun hc10 => ?_)
            · replace h := ite_t hc10 h
              refine WpC.seq ?_
              refine rS {} [6] [100000] hN (by kernel_rfl) (by kernel_rfl) ?_
              refine tnU ?_
              refine WpC.ret ?_
              refine thenQ_ret ?_
              have hq := Option.some.inj h
              subst hq
              exact eR (by kernel_rfl) (by kernel_rfl)
            · replace h := ite_f hc10 h
              refine WpC.conv (cS [.k [0, 2, 7, 10] [100000]] (by kernel_rfl) (by kernel_rfl)) (WpC.skip ?_)
              refine tnU ?_
              refine WpC.seq ?_
              obtain ⟨v11, hv11, h⟩ := bind_some h
              refine rS { its := [(5, .c (COk.ren (millwrightref02_Tree_Put_m0.ok O hO k a0 (T_tree_File.mk v1.1 v9.1 a2) v11 hv11) (fun n => if n = 100000 then 100000 else n) (injOn_of (by kernel_rfl))))] } [6] [100000] hN (by kernel_rfl) (by kernel_rfl) ?_
              refine tnU ?_
              refine WpC.ret ?_
              have hq := Option.some.inj h
              subst hq
              exact eR (by kernel_rfl) (by kernel_rfl)

end Go.Proofs.YtcblgpcgdihcbaaGreatDoor
