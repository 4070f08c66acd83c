/- A part of the proof of a given law: ARC1. Own work, printed in part by a program of mine. -/
import Derived.Test.YtgphmfcbhmmpiaaGreatDoorK14ARC0
namespace Go.Proofs.YtgphmfcbhmmpiaaGreatDoor
open Go Go.AM
set_option linter.unusedVariables false
set_option linter.unusedSimpArgs false
set_option maxRecDepth 100000
theorem millwrightlaw03_long.ok (O : Out) (hO : GOk O) (k : Nat) (a0 : List T_ar_Member) (a1 : Int) (out : Bool) (h : millwrightlaw03_long.f k a0 a1 = some out) : COk Un O Tryz.prog 7 { ar := [.p (.list (.named 3)) a0, .p I6 a1], r := .p .bool out } := by
  refine cok_of_wp Tryz.func7 rfl (k := 28) rfl (Nat.le_of_ble_eq_true rfl) (namesOk_pure rfl rfl rfl rfl) ?_
  intro B hN
  refine WpC.conv (cvK (b := ⟨[(0, .p (.list (.named 3)) a0), (1, .p I6 a1)], []⟩) [0, 1] [] (by kernel_rfl)) ?_
  unfold millwrightlaw03_long.f at h
  refine WpC.seq ?_
  refine rS {} [0, 1] [] hN (by kernel_rfl) (by kernel_rfl) ?_
  refine tnU ?_
  refine WpC.seq ?_
  refine WpC.seq ?_
  refine rS {} [0, 10] [] hN (by kernel_rfl) (by kernel_rfl) ?_
  refine tnU ?_
  refine tS (b := (decide ((a0.length : Int) > a1))) (by kernel_rfl) (fun hc1 => ?_) (fun hc1 => ?_)
  · replace h := ite_t hc1 h
    refine WpC.seq ?_
    refine rS {} [4] [] hN (by kernel_rfl) (by kernel_rfl) ?_
    refine tnU ?_
    refine WpC.ret ?_
    refine thenQ_ret ?_
    have hq := Option.some.inj h
    subst hq
    exact eR (by kernel_rfl) (by kernel_rfl)
  · replace h := ite_f hc1 h
    refine WpC.conv (cS [.k [0] []] (by kernel_rfl) (by kernel_rfl)) (WpC.skip ?_)
    refine tnU ?_
    refine sqJ (fun st' => millwrightlaw03_long.j2 k = some out ∧ st' = ⟨[], []⟩) ?_ ?_
    · refine WpC.seq ?_
      refine rS {} [11, 12, 13] [] hN (by kernel_rfl) (by kernel_rfl) ?_
      refine tnU ?_
      refine WpC.block ?_
      obtain ⟨o5, hlo5, h⟩ := bind_some h
      have hout6 := h
      clear h
      refine WpC.loop (U := Un) (fun n st' => ∃ v3 : Int, millwrightlaw03_long.l4 k a0 n v3 = some o5 ∧ st' = ⟨[(11, .p (.list (.named 3)) a0), (12, .p I6 ((a0.length : Int) : Int)), (13, .p I6 v3)], []⟩) k ⟨0, hlo5, by kernel_rfl⟩ ?_
      clear hlo5
      rintro (_ | n) _ ⟨v3, h, rfl⟩
      · cases h
      · rw [millwrightlaw03_long.l4] at h
        refine WpC.seq ?_
        refine rS {} [11, 12, 13, 14] [] hN (by kernel_rfl) (by kernel_rfl) ?_
        refine tnU ?_
        refine WpC.seq ?_
        refine tS (b := (decide (v3 < (a0.length : Int)))) (by kernel_rfl) (fun hc7 => ?_) (fun hc7 => ?_)
        · replace h := ite_t hc7 h
          refine WpC.conv (cS [.k [11, 12, 13] []] (by kernel_rfl) (by kernel_rfl)) (WpC.skip ?_)
          refine tnU ?_
          refine sqJ (fun st' => millwrightlaw03_long.j8 k (millwrightlaw03_long.l4 k a0 n) a0 v3 = some o5 ∧ st' = ⟨[(11, .p (.list (.named 3)) a0), (12, .p I6 ((a0.length : Int) : Int)), (13, .p I6 v3)], []⟩) ?_ ?_
          · refine WpC.block ?_
            refine WpC.seq ?_
            obtain ⟨v9, hv9, h⟩ := bind_some h
            refine rS { its := [(0, .v (.named 3) hv9)] } [6, 11, 12, 13] [6] hN (by kernel_rfl) (by kernel_rfl) ?_
            refine tnU ?_
            refine sqJ (fun st' => ∃ v10 : Bool, millwrightlaw03_long.j12 k (millwrightlaw03_long.l4 k a0 n) a0 v3 v10 = some o5 ∧ st' = ⟨[(11, .p (.list (.named 3)) a0), (12, .p I6 ((a0.length : Int) : Int)), (13, .p I6 v3), (26, .p .bool v10)], []⟩) ?_ ?_
            · rcases bool_cases (decide ((v9.f_Name.length : Int) > 100)) with hc13 | hc13
              · replace h := ite_t hc13 h
                refine rS { kn := [(21, .t hc13)] } [11, 12, 13, 26] [] hN (by kernel_rfl) (by kernel_rfl) ?_
                refine tnU ?_
                exact ⟨true, h, by kernel_rfl⟩
              · replace h := ite_f hc13 h
                refine rS { kn := [(21, .f hc13)] } [11, 12, 13, 26] [] hN (by kernel_rfl) (by kernel_rfl) ?_
                refine tnU ?_
                exact ⟨(decide ((v9.f_Content.length : Int) > 1000)), h, by kernel_rfl⟩
            · rintro _ ⟨v10, h, rfl⟩
              unfold millwrightlaw03_long.j12 at h
              refine tS (b := v10) (by kernel_rfl) (fun hc11 => ?_) (fun hc11 => ?_)
              · replace h := ite_t hc11 h
                refine WpC.seq ?_
                refine rS {} [4] [] hN (by kernel_rfl) (by kernel_rfl) ?_
                refine tnU ?_
                refine WpC.ret ?_
                refine blockQ_ret ?_
                refine thenQ_ret ?_
                have hq := Option.some.inj h
                subst hq
                refine thenQ_ret ?_
                have h := hout6
                refine blockQ_ret ?_
                refine thenQ_ret ?_
                have hq := Option.some.inj h
                subst hq
                exact eR (by kernel_rfl) (by kernel_rfl)
              · replace h := ite_f hc11 h
                refine WpC.conv (cS [.k [11, 12, 13] []] (by kernel_rfl) (by kernel_rfl)) (WpC.skip ?_)
                refine blockQ_normal ?_
                refine tnU ?_
                exact ⟨h, by kernel_rfl⟩
          · rintro _ ⟨h, rfl⟩
            unfold millwrightlaw03_long.j8 at h
            refine rS {} [11, 12, 13] [] hN (by kernel_rfl) (by kernel_rfl) ?_
            refine tnU ?_
            exact ⟨n, Nat.lt_succ_self n, (IntKind.i64.wrap (v3 + 1)), h, by kernel_rfl⟩
        · replace h := ite_f hc7 h
          refine WpC.conv (cS [.k [] []] (by kernel_rfl) (by kernel_rfl)) (WpC.exit ?_)
          refine thenQ_exit ?_
          have hq := Option.some.inj h
          subst hq
          refine thenQ_exit ?_
          have h := hout6
          refine blockQ_hit ?_
          refine tnU ?_
          exact ⟨h, by kernel_rfl⟩
    · rintro _ ⟨h, rfl⟩
      unfold millwrightlaw03_long.j2 at h
      refine WpC.seq ?_
      refine rS {} [4] [] hN (by kernel_rfl) (by kernel_rfl) ?_
      refine tnU ?_
      refine WpC.ret ?_
      have hq := Option.some.inj h
      subst hq
      exact eR (by kernel_rfl) (by kernel_rfl)

theorem millwrightlaw03_Of.ok (O : Out) (hO : GOk O) (k : Nat) (a0 : List T_ar_Member) (out : List T_ar_Member) (h : millwrightlaw03_Of.f k a0 = some out) : COk Un O Tryz.prog 10 { ar := [.p (.list (.named 3)) a0], r := .p (.list (.named 3)) out } := by
  refine cok_of_wp Tryz.func10 rfl (k := 19) rfl (Nat.le_of_ble_eq_true rfl) (namesOk_pure rfl rfl rfl rfl) ?_
  intro B hN
  refine WpC.conv (cvK (b := ⟨[(0, .p (.list (.named 3)) a0)], []⟩) [0] [] (by kernel_rfl)) ?_
  unfold millwrightlaw03_Of.f at h
  refine WpC.seq ?_
  refine rS {} [0] [] hN (by kernel_rfl) (by kernel_rfl) ?_
  refine tnU ?_
  refine WpC.seq ?_
  refine rSC {} [0, 3] [6] hN (by kernel_rfl) (by kernel_rfl) (cS [.k [0, 3] [6], .x (Conv.cast (U := Un) (st := ⟨[(0, .p (.list (.named 3)) a0), (3, .vec 6 3 0 (([] : List T_ar_Member).length))], [(6, .row 45 (.named 3) ([] : List T_ar_Member) true)]⟩) (st' := ⟨[(0, .p (.list (.named 3)) a0), (3, .vec 6 3 0 0)], [(6, .row 45 (.named 3) ([] : List T_ar_Member) true)]⟩) (by simp only [upd_length, List.length_nil, List.length_replicate]))] (by kernel_rfl) (by kernel_rfl)) ?_
  refine tnU ?_
  refine sqJ (fun st' => ∃ v1 : List T_ar_Member, millwrightlaw03_Of.j2 k v1 = some out ∧ st' = ⟨[(3, .vec 1003 3 0 v1.length)], [(1003, .row 45 (.named 3) v1 false)]⟩) ?_ ?_
  · refine WpC.seq ?_
    refine rS {} [3, 7, 8, 9] [6] hN (by kernel_rfl) (by kernel_rfl) ?_
    refine tnU ?_
    refine WpC.block ?_
    obtain ⟨o7, hlo7, h⟩ := bind_some h
    have hout8 := h
    clear h
    refine WpC.conv (cS [.lo 6, .k [3, 7, 8, 9] [6], .rn 6 1003, .k [3, 7, 8, 9] [1003]] (by kernel_rfl) (by kernel_rfl)) ?_
    refine WpC.loop (U := Un) (fun n st' => ∃ v3 : List T_ar_Member, ∃ v4 : Int, millwrightlaw03_Of.l5 k a0 n v3 v4 = some o7 ∧ st' = ⟨[(3, .vec 1003 3 0 v3.length), (7, .p (.list (.named 3)) a0), (8, .p I6 ((a0.length : Int) : Int)), (9, .p I6 v4)], [(1003, .row 45 (.named 3) v3 false)]⟩) k ⟨([] : List T_ar_Member), 0, hlo7, by kernel_rfl⟩ ?_
    clear hlo7
    rintro (_ | n) _ ⟨v3, v4, h, rfl⟩
    · cases h
    · rw [millwrightlaw03_Of.l5] at h
      refine WpC.seq ?_
      refine rS {} [3, 7, 8, 9, 10] [1003] hN (by kernel_rfl) (by kernel_rfl) ?_
      refine tnU ?_
      refine WpC.seq ?_
      refine tS (b := (decide (v4 < (a0.length : Int)))) (by kernel_rfl) (fun hc9 => ?_) (fun hc9 => ?_)
      · replace h := ite_t hc9 h
        refine WpC.conv (cS [.k [3, 7, 8, 9] [1003]] (by kernel_rfl) (by kernel_rfl)) (WpC.skip ?_)
        refine tnU ?_
        refine WpC.seq ?_
        refine WpC.block ?_
        refine WpC.seq ?_
        obtain ⟨v10, hv10, h⟩ := bind_some h
        refine rS { its := [(0, .v (.named 3) hv10)] } [3, 5, 7, 8, 9] [5, 1003] hN (by kernel_rfl) (by kernel_rfl) ?_
        refine tnU ?_
        obtain ⟨g11, h⟩ := if_some h
        refine rS { its := [(3, .g g11)] } [3, 7, 8, 9] [16] hN (by kernel_rfl) (by kernel_rfl) ?_
        refine blockQ_normal ?_
        refine tnU ?_
        refine rSC {} [3, 7, 8, 9] [16] hN (by kernel_rfl) (by kernel_rfl) (cS [.rn 16 1003, .k [3, 7, 8, 9] [1003]] (by kernel_rfl) (by kernel_rfl)) ?_
        refine tnU ?_
        exact ⟨n, Nat.lt_succ_self n, (v3 ++ [(T_ar_Member.mk v10.f_Name v10.f_Time v10.f_Content)]), (IntKind.i64.wrap (v4 + 1)), h, by kernel_rfl⟩
      · replace h := ite_f hc9 h
        refine WpC.conv (cS [.k [3] [1003]] (by kernel_rfl) (by kernel_rfl)) (WpC.exit ?_)
        refine thenQ_exit ?_
        have hq := Option.some.inj h
        subst hq
        refine thenQ_exit ?_
        have h := hout8
        refine blockQ_hit ?_
        refine tnU ?_
        exact ⟨v3, h, by kernel_rfl⟩
  · rintro _ ⟨v1, h, rfl⟩
    unfold millwrightlaw03_Of.j2 at h
    refine WpC.seq ?_
    refine rS {} [2] [1003] hN (by kernel_rfl) (by kernel_rfl) ?_
    refine tnU ?_
    refine WpC.conv (cS [.fz 2, .k [2] []] (by kernel_rfl) (by kernel_rfl)) (WpC.ret ?_)
    have hq := Option.some.inj h
    subst hq
    exact eR (by kernel_rfl) (by kernel_rfl)

theorem millwrightref03_Named.ok (O : Out) (hO : GOk O) (k : Nat) (a0 : List UInt8) (out : Bool) (h : millwrightref03_Named.f k a0 = some out) : COk Un O Tryz.prog 18 { ar := [.p .str a0], r := .p .bool out } := by
  refine cok_of_wp Tryz.func18 rfl (k := 40) rfl (Nat.le_of_ble_eq_true rfl) (namesOk_pure rfl rfl rfl rfl) ?_
  intro B hN
  refine WpC.conv (cvK (b := ⟨[(0, .p .str a0)], []⟩) [0] [] (by kernel_rfl)) ?_
  unfold millwrightref03_Named.f at h
  refine WpC.seq ?_
  refine rS {} [0] [] hN (by kernel_rfl) (by kernel_rfl) ?_
  refine tnU ?_
  refine sqJ (fun st' => millwrightref03_Named.j2 k a0 = some out ∧ st' = ⟨[(0, .p .str a0)], []⟩) ?_ ?_
  · refine WpC.seq ?_
    refine rS {} [0, 3] [] hN (by kernel_rfl) (by kernel_rfl) ?_
    refine tnU ?_
    refine WpC.block ?_
    obtain ⟨o5, hlo5, h⟩ := bind_some h
    have hout6 := h
    clear h
    refine WpC.loop (U := Un) (fun n st' => ∃ v3 : Int, millwrightref03_Named.l4 k a0 n v3 = some o5 ∧ st' = ⟨[(0, .p .str a0), (3, .p I6 v3)], []⟩) k ⟨0, hlo5, by kernel_rfl⟩ ?_
    clear hlo5
    rintro (_ | n) _ ⟨v3, h, rfl⟩
    · cases h
    · rw [millwrightref03_Named.l4] at h
      refine WpC.seq ?_
      refine WpC.seq ?_
      refine rS {} [0, 3, 8] [] hN (by kernel_rfl) (by kernel_rfl) ?_
      refine tnU ?_
      refine tS (b := (decide (v3 < (a0.length : Int)))) (by kernel_rfl) (fun hc7 => ?_) (fun hc7 => ?_)
      · replace h := ite_t hc7 h
        refine WpC.conv (cS [.k [0, 3] []] (by kernel_rfl) (by kernel_rfl)) (WpC.skip ?_)
        refine tnU ?_
        refine sqJ (fun st' => millwrightref03_Named.j8 k (millwrightref03_Named.l4 k a0 n) a0 v3 = some o5 ∧ st' = ⟨[(0, .p .str a0), (3, .p I6 v3)], []⟩) ?_ ?_
        · refine WpC.block ?_
          refine WpC.seq ?_
          obtain ⟨v9, hv9, h⟩ := bind_some h
          refine rS { its := [(2, .u hv9)] } [0, 3, 4] [] hN (by kernel_rfl) (by kernel_rfl) ?_
          refine tnU ?_
          refine sqJ (fun st' => ∃ v10 : Bool, millwrightref03_Named.j12 k (millwrightref03_Named.l4 k a0 n) a0 v3 v10 = some o5 ∧ st' = ⟨[(0, .p .str a0), (3, .p I6 v3), (31, .p .bool v10)], []⟩) ?_ ?_
          · rcases bool_cases (decide ((v9.toNat : Int) < 33)) with hc13 | hc13
            · replace h := ite_t hc13 h
              refine rS { kn := [(16, .t hc13)] } [0, 3, 31] [] hN (by kernel_rfl) (by kernel_rfl) ?_
              refine tnU ?_
              exact ⟨true, h, by kernel_rfl⟩
            · replace h := ite_f hc13 h
              rcases bool_cases (decide ((v9.toNat : Int) > 126)) with hc14 | hc14
              · replace h := ite_t hc14 h
                refine rS { kn := [(16, .f hc13), (20, .t hc14)] } [0, 3, 31] [] hN (by kernel_rfl) (by kernel_rfl) ?_
                refine tnU ?_
                exact ⟨true, h, by kernel_rfl⟩
              · replace h := ite_f hc14 h
                rcases bool_cases ((v9.toNat : Int) == 47) with hc15 | hc15
                · replace h := ite_t hc15 h
                  refine rS { kn := [(16, .f hc13), (20, .f hc14), (24, .t hc15)] } [0, 3, 31] [] hN (by kernel_rfl) (by kernel_rfl) ?_
                  refine tnU ?_
                  exact ⟨true, h, by kernel_rfl⟩
                · replace h := ite_f hc15 h
                  rcases bool_cases ((v9.toNat : Int) == 40) with hc16 | hc16
                  · replace h := ite_t hc16 h
                    refine rS { kn := [(16, .f hc13), (20, .f hc14), (24, .f hc15), (28, .t hc16)] } [0, 3, 31] [] hN (by kernel_rfl) (by kernel_rfl) ?_
                    refine tnU ?_
                    exact ⟨true, h, by kernel_rfl⟩
                  · replace h := ite_f hc16 h
                    refine rS { kn := [(16, .f hc13), (20, .f hc14), (24, .f hc15), (28, .f hc16)] } [0, 3, 31] [] hN (by kernel_rfl) (by kernel_rfl) ?_
                    refine tnU ?_
                    exact ⟨((v9.toNat : Int) == 41), h, by kernel_rfl⟩
          · rintro _ ⟨v10, h, rfl⟩
            unfold millwrightref03_Named.j12 at h
            refine tS (b := v10) (by kernel_rfl) (fun hc11 => ?_) (fun hc11 => ?_)
            · replace h := ite_t hc11 h
              refine WpC.seq ?_
              refine rS {} [2] [] hN (by kernel_rfl) (by kernel_rfl) ?_
              refine tnU ?_
              refine WpC.ret ?_
              refine blockQ_ret ?_
              refine thenQ_ret ?_
              have hq := Option.some.inj h
              subst hq
              refine thenQ_ret ?_
              have h := hout6
              refine blockQ_ret ?_
              refine thenQ_ret ?_
              have hq := Option.some.inj h
              subst hq
              exact eR (by kernel_rfl) (by kernel_rfl)
            · replace h := ite_f hc11 h
              refine WpC.conv (cS [.k [0, 3] []] (by kernel_rfl) (by kernel_rfl)) (WpC.skip ?_)
              refine blockQ_normal ?_
              refine tnU ?_
              exact ⟨h, by kernel_rfl⟩
        · rintro _ ⟨h, rfl⟩
          unfold millwrightref03_Named.j8 at h
          refine rS {} [0, 3] [] hN (by kernel_rfl) (by kernel_rfl) ?_
          refine tnU ?_
          exact ⟨n, Nat.lt_succ_self n, (IntKind.i64.wrap (v3 + 1)), h, by kernel_rfl⟩
      · replace h := ite_f hc7 h
        refine WpC.conv (cS [.k [0] []] (by kernel_rfl) (by kernel_rfl)) (WpC.exit ?_)
        refine thenQ_exit ?_
        have hq := Option.some.inj h
        subst hq
        refine thenQ_exit ?_
        have h := hout6
        refine blockQ_hit ?_
        refine tnU ?_
        exact ⟨h, by kernel_rfl⟩
  · rintro _ ⟨h, rfl⟩
    unfold millwrightref03_Named.j2 at h
    refine WpC.seq ?_
    rcases bool_cases (decide ((a0.length : Int) ≥ 1)) with hc1 | hc1
    · replace h := ite_t hc1 h
      refine rS { kn := [(35, .t hc1)] } [2] [] hN (by kernel_rfl) (by kernel_rfl) ?_
      refine tnU ?_
      refine WpC.ret ?_
      have hq := Option.some.inj h
      subst hq
      exact eR (by kernel_rfl) (by kernel_rfl)
    · replace h := ite_f hc1 h
      refine rS { kn := [(35, .f hc1)] } [2] [] hN (by kernel_rfl) (by kernel_rfl) ?_
      refine tnU ?_
      refine WpC.ret ?_
      have hq := Option.some.inj h
      subst hq
      exact eR (by kernel_rfl) (by kernel_rfl)

theorem millwrightref03_wide.ok (O : Out) (hO : GOk O) (k : Nat) (a0 : List UInt8) (a1 : Int) (out : List UInt8) (h : millwrightref03_wide.f k a0 a1 = some out) : COk Un O Tryz.prog 40 { ar := [.p .str a0, .p I6 a1], r := .p .str out } := by
  refine cok_of_wp Tryz.func40 rfl (k := 12) rfl (Nat.le_of_ble_eq_true rfl) (namesOk_pure rfl rfl rfl rfl) ?_
  intro B hN
  refine WpC.conv (cvK (b := ⟨[(0, .p .str a0), (1, .p I6 a1)], []⟩) [0, 1] [] (by kernel_rfl)) ?_
  unfold millwrightref03_wide.f at h
  refine WpC.seq ?_
  refine rS {} [0, 1] [] hN (by kernel_rfl) (by kernel_rfl) ?_
  refine tnU ?_
  refine sqJ (fun st' => ∃ v1 : List UInt8, millwrightref03_wide.j2 k v1 = some out ∧ st' = ⟨[(0, .p .str v1)], []⟩) ?_ ?_
  · refine WpC.block ?_
    obtain ⟨o6, hlo6, h⟩ := bind_some h
    have hout7 := h
    clear h
    refine WpC.loop (U := Un) (fun n st' => ∃ v3 : List UInt8, millwrightref03_wide.l4 k a1 n v3 = some o6 ∧ st' = ⟨[(0, .p .str v3), (1, .p I6 a1)], []⟩) k ⟨a0, hlo6, by kernel_rfl⟩ ?_
    clear hlo6
    rintro (_ | n) _ ⟨v3, h, rfl⟩
    · cases h
    · rw [millwrightref03_wide.l4] at h
      refine WpC.seq ?_
      refine WpC.seq ?_
      refine rS {} [0, 1, 8] [] hN (by kernel_rfl) (by kernel_rfl) ?_
      refine tnU ?_
      refine tS (b := (decide ((v3.length : Int) < a1))) (by kernel_rfl) (fun hc8 => ?_) (fun hc8 => ?_)
      · replace h := ite_t hc8 h
        refine WpC.conv (cS [.k [0, 1] []] (by kernel_rfl) (by kernel_rfl)) (WpC.skip ?_)
        refine tnU ?_
        refine WpC.block ?_
        obtain ⟨g9, h⟩ := if_some h
        refine rS { its := [(1, .g g9)] } [0, 1] [] hN (by kernel_rfl) (by kernel_rfl) ?_
        refine blockQ_normal ?_
        refine tnU ?_
        exact ⟨n, Nat.lt_succ_self n, (v3 ++ ([32] : List UInt8)), h, by kernel_rfl⟩
      · replace h := ite_f hc8 h
        refine WpC.conv (cS [.k [0] []] (by kernel_rfl) (by kernel_rfl)) (WpC.exit ?_)
        refine thenQ_exit ?_
        have hq := Option.some.inj h
        subst hq
        refine thenQ_exit ?_
        have h := hout7
        refine blockQ_hit ?_
        refine tnU ?_
        exact ⟨v3, h, by kernel_rfl⟩
  · rintro _ ⟨v1, h, rfl⟩
    unfold millwrightref03_wide.j2 at h
    refine WpC.seq ?_
    refine rS {} [4] [] hN (by kernel_rfl) (by kernel_rfl) ?_
    refine tnU ?_
    refine WpC.ret ?_
    have hq := Option.some.inj h
    subst hq
    exact eR (by kernel_rfl) (by kernel_rfl)

theorem millwrightnum_Figures.bok (O : Out) (hO : GOk O) (k : Nat) (rf_millwrightnum_Figures : Int → Option (List UInt8)) (hrf_millwrightnum_Figures : ∀ (a0 : Int) (out : List UInt8), rf_millwrightnum_Figures a0 = some out → COk Un O Tryz.prog 41 { ar := [.p I6 a0], r := .p .str out }) (a0 : Int) (out : List UInt8) (h : millwrightnum_Figures.b k rf_millwrightnum_Figures a0 = some out) : COk Un O Tryz.prog 41 { ar := [.p I6 a0], r := .p .str out } := by
  refine cok_of_wp Tryz.func41 rfl (k := 30) rfl (Nat.le_of_ble_eq_true rfl) (namesOk_pure rfl rfl rfl rfl) ?_
  intro B hN
  refine WpC.conv (cvK (b := ⟨[(0, .p I6 a0)], []⟩) [0] [] (by kernel_rfl)) ?_
  unfold millwrightnum_Figures.b at h
  refine WpC.seq ?_
  refine rS {} [0] [] hN (by kernel_rfl) (by kernel_rfl) ?_
  refine tnU ?_
  refine WpC.seq ?_
  obtain ⟨g1, h⟩ := if_some h
  refine rS { its := [(1, .g g1)] } [0, 3] [] hN (by kernel_rfl) (by kernel_rfl) ?_
  refine tnU ?_
  refine WpC.seq ?_
  refine rS {} [0, 3, 4] [] hN (by kernel_rfl) (by kernel_rfl) ?_
  refine tnU ?_
  refine sqJ (fun st' => ∃ v2 : Int, ∃ v3 : List UInt8, millwrightnum_Figures.j14 k rf_millwrightnum_Figures a0 v2 v3 = some out ∧ st' = ⟨[(0, .p I6 a0), (3, .p I6 v2), (4, .p .str v3)], []⟩) ?_ ?_
  · refine WpC.seq ?_
    refine rS {} [0, 3, 4, 9] [] hN (by kernel_rfl) (by kernel_rfl) ?_
    refine tnU ?_
    refine tS (b := (decide (a0 ≥ 0))) (by kernel_rfl) (fun hc15 => ?_) (fun hc15 => ?_)
    · replace h := ite_t hc15 h
      refine rS {} [0, 3, 4] [] hN (by kernel_rfl) (by kernel_rfl) ?_
      refine tnU ?_
      exact ⟨(Int.tmod a0 10), ([] : List UInt8), h, by kernel_rfl⟩
    · replace h := ite_f hc15 h
      refine rS {} [0, 3, 4] [] hN (by kernel_rfl) (by kernel_rfl) ?_
      refine tnU ?_
      exact ⟨(IntKind.i64.wrap (0 - (Int.tmod a0 10))), ([45] : List UInt8), h, by kernel_rfl⟩
  · rintro _ ⟨v2, v3, h, rfl⟩
    unfold millwrightnum_Figures.j14 at h
    refine WpC.seq ?_
    obtain ⟨v4, hv4, h⟩ := bind_some h
    refine rS { its := [(3, .v .str hv4)] } [0, 4, 5] [] hN (by kernel_rfl) (by kernel_rfl) ?_
    refine tnU ?_
    refine sqJ (fun st' => millwrightnum_Figures.j8 k rf_millwrightnum_Figures a0 v4 = some out ∧ st' = ⟨[(0, .p I6 a0), (5, .p .str v4)], []⟩) ?_ ?_
    · refine sqJ (fun st' => ∃ v9 : Bool, millwrightnum_Figures.j12 k rf_millwrightnum_Figures a0 v3 v4 v9 = some out ∧ st' = ⟨[(0, .p I6 a0), (4, .p .str v3), (5, .p .str v4), (21, .p .bool v9)], []⟩) ?_ ?_
      · rcases bool_cases (decide (a0 > (-10))) with hc13 | hc13
        · replace h := ite_t hc13 h
          refine rS { kn := [(18, .t hc13)] } [0, 4, 5, 21] [] hN (by kernel_rfl) (by kernel_rfl) ?_
          refine tnU ?_
          exact ⟨(decide (a0 < 10)), h, by kernel_rfl⟩
        · replace h := ite_f hc13 h
          refine rS { kn := [(18, .f hc13)] } [0, 4, 5, 21] [] hN (by kernel_rfl) (by kernel_rfl) ?_
          refine tnU ?_
          exact ⟨false, h, by kernel_rfl⟩
      · rintro _ ⟨v9, h, rfl⟩
        unfold millwrightnum_Figures.j12 at h
        refine tS (b := v9) (by kernel_rfl) (fun hc10 => ?_) (fun hc10 => ?_)
        · replace h := ite_t hc10 h
          refine WpC.seq ?_
          obtain ⟨g11, h⟩ := if_some h
          refine rS { its := [(2, .g g11)] } [2] [] hN (by kernel_rfl) (by kernel_rfl) ?_
          refine tnU ?_
          refine WpC.ret ?_
          refine thenQ_ret ?_
          have hq := Option.some.inj h
          subst hq
          exact eR (by kernel_rfl) (by kernel_rfl)
        · replace h := ite_f hc10 h
          refine WpC.conv (cS [.k [0, 5] []] (by kernel_rfl) (by kernel_rfl)) (WpC.skip ?_)
          refine tnU ?_
          exact ⟨h, by kernel_rfl⟩
    · rintro _ ⟨h, rfl⟩
      unfold millwrightnum_Figures.j8 at h
      refine WpC.seq ?_
      obtain ⟨g5, h⟩ := if_some h
      obtain ⟨v6, hv6, h⟩ := bind_some h
      obtain ⟨g7, h⟩ := if_some h
      refine rS { its := [(1, .g g5), (2, .c (hrf_millwrightnum_Figures (IntKind.i64.wrap (Int.tdiv a0 10)) v6 hv6)), (4, .g g7)] } [2] [] hN (by kernel_rfl) (by kernel_rfl) ?_
      refine tnU ?_
      refine WpC.ret ?_
      have hq := Option.some.inj h
      subst hq
      exact eR (by kernel_rfl) (by kernel_rfl)

theorem scc_millwrightnum_Figures.ok (O : Out) (hO : GOk O) : ∀ k : Nat, (∀ (a0 : Int) (out : List UInt8), millwrightnum_Figures.f k a0 = some out → COk Un O Tryz.prog 41 { ar := [.p (.int .i64) a0], r := .p .str out }) := by
  intro k
  induction k with
  | zero => exact fun a0 out h => (by have h2 : (none : Option (List UInt8)) = some out := h; cases h2)
  | succ k ih => exact fun a0 out h => millwrightnum_Figures.bok O hO k _ ih a0 out h
theorem millwrightnum_Figures.ok (O : Out) (hO : GOk O) (k : Nat) (a0 : Int) (out : List UInt8) (h : millwrightnum_Figures.f k a0 = some out) : COk Un O Tryz.prog 41 { ar := [.p (.int .i64) a0], r := .p .str out } := (scc_millwrightnum_Figures.ok O hO k) a0 out h

theorem millwrightref03_One.ok (O : Out) (hO : GOk O) (k : Nat) (a0 : T_ar_Member) (out : List UInt8) (h : millwrightref03_One.f k a0 = some out) : COk Un O Tryz.prog 27 { ar := [.p (.named 3) a0], r := .p .str out } := by
  refine cok_of_wp Tryz.func27 rfl (k := 36) rfl (Nat.le_of_ble_eq_true rfl) (namesOk_pure rfl rfl rfl rfl) ?_
  intro B hN
  refine WpC.conv (cvK (b := ⟨[(0, .p (.named 3) a0)], []⟩) [0] [] (by kernel_rfl)) ?_
  unfold millwrightref03_One.f at h
  refine WpC.seq ?_
  refine rS {} [1] [1] hN (by kernel_rfl) (by kernel_rfl) ?_
  refine tnU ?_
  refine WpC.seq ?_
  obtain ⟨v1, hv1, h⟩ := bind_some h
  obtain ⟨v2, hv2, h⟩ := bind_some h
  obtain ⟨v3, hv3, h⟩ := bind_some h
  obtain ⟨g4, h⟩ := if_some h
  obtain ⟨v5, hv5, h⟩ := bind_some h
  obtain ⟨g6, h⟩ := if_some h
  obtain ⟨v7, hv7, h⟩ := bind_some h
  obtain ⟨g8, h⟩ := if_some h
  obtain ⟨v9, hv9, h⟩ := bind_some h
  obtain ⟨g10, h⟩ := if_some h
  obtain ⟨v11, hv11, h⟩ := bind_some h
  obtain ⟨v12, hv12, h⟩ := bind_some h
  obtain ⟨g13, h⟩ := if_some h
  obtain ⟨g14, h⟩ := if_some h
  obtain ⟨g15, h⟩ := if_some h
  refine rA { its := [(2, .c (millwrightref03_wide.ok O hO k a0.f_Name 16 v1 hv1)), (5, .c (millwrightnum_Figures.ok O hO k a0.f_Time v2 hv2)), (6, .c (millwrightref03_wide.ok O hO k v2 12 v3 hv3)), (7, .g g4), (8, .c (millwrightref03_wide.ok O hO k ([48] : List UInt8) 6 v5 hv5)), (9, .g g6), (10, .c (millwrightref03_wide.ok O hO k ([48] : List UInt8) 6 v7 hv7)), (11, .g g8), (12, .c (millwrightref03_wide.ok O hO k ([54, 52, 52] : List UInt8) 8 v9 hv9)), (13, .g g10), (17, .c (millwrightnum_Figures.ok O hO k (a0.f_Content.length : Int) v11 hv11)), (18, .c (millwrightref03_wide.ok O hO k v11 10 v12 hv12)), (19, .g g13), (20, .g g14), (23, .g g15)] } [1, 3] [1] hN (by kernel_rfl) (by kernel_rfl) (by kernel_rfl) ?_
  refine tnU ?_
  refine sqJ (fun st' => ∃ v16 : List UInt8, millwrightref03_One.j17 k v16 = some out ∧ st' = ⟨[(3, .p .str v16)], []⟩) ?_ ?_
  · refine WpC.seq ?_
    obtain ⟨g18, h⟩ := if_some h
    refine rS { its := [(3, .g g18)] } [3, 32] [] hN (by kernel_rfl) (by kernel_rfl) ?_
    refine tnU ?_
    refine tS (b := ((Int.tmod (a0.f_Content.length : Int) 2) == 1)) (by kernel_rfl) (fun hc19 => ?_) (fun hc19 => ?_)
    · replace h := ite_t hc19 h
      obtain ⟨g20, h⟩ := if_some h
      refine rS { its := [(1, .g g20)] } [3] [] hN (by kernel_rfl) (by kernel_rfl) ?_
      refine tnU ?_
      exact ⟨((((((((v1 ++ v3) ++ v5) ++ v7) ++ v9) ++ v12) ++ ([96, 10] : List UInt8)) ++ a0.f_Content) ++ ([10] : List UInt8)), h, by kernel_rfl⟩
    · replace h := ite_f hc19 h
      refine WpC.conv (cS [.k [3] []] (by kernel_rfl) (by kernel_rfl)) (WpC.skip ?_)
      refine tnU ?_
      exact ⟨(((((((v1 ++ v3) ++ v5) ++ v7) ++ v9) ++ v12) ++ ([96, 10] : List UInt8)) ++ a0.f_Content), h, by kernel_rfl⟩
  · rintro _ ⟨v16, h, rfl⟩
    unfold millwrightref03_One.j17 at h
    refine WpC.seq ?_
    refine rS {} [2] [] hN (by kernel_rfl) (by kernel_rfl) ?_
    refine tnU ?_
    refine WpC.ret ?_
    have hq := Option.some.inj h
    subst hq
    exact eR (by kernel_rfl) (by kernel_rfl)

theorem millwrightref03_Make.ok (O : Out) (hO : GOk O) (k : Nat) (a0 : List T_ar_Member) (out : (List UInt8) × Int) (h : millwrightref03_Make.f k a0 = some out) : COk Un O Tryz.prog 9 { ar := [.p (.list (.named 3)) a0], r := .tup [.p .str out.1, .p I6 out.2] } := by
  refine cok_of_wp Tryz.func9 rfl (k := 78) rfl (Nat.le_of_ble_eq_true rfl) (namesOk_pure rfl rfl rfl rfl) ?_
  intro B hN
  refine WpC.conv (cvK (b := ⟨[(0, .p (.list (.named 3)) a0)], []⟩) [0] [] (by kernel_rfl)) ?_
  unfold millwrightref03_Make.f at h
  refine WpC.seq ?_
  refine rS {} [0] [] hN (by kernel_rfl) (by kernel_rfl) ?_
  refine tnU ?_
  refine sqJ (fun st' => millwrightref03_Make.j50 k a0 = some out ∧ st' = ⟨[(0, .p (.list (.named 3)) a0)], []⟩) ?_ ?_
  · refine WpC.seq ?_
    refine rS {} [0, 15, 16, 17] [] hN (by kernel_rfl) (by kernel_rfl) ?_
    refine tnU ?_
    refine WpC.block ?_
    obtain ⟨o53, hlo53, h⟩ := bind_some h
    have hout54 := h
    clear h
    refine WpC.loop (U := Un) (fun n st' => ∃ v51 : Int, millwrightref03_Make.l52 k a0 n v51 = some o53 ∧ st' = ⟨[(0, .p (.list (.named 3)) a0), (15, .p (.list (.named 3)) a0), (16, .p I6 ((a0.length : Int) : Int)), (17, .p I6 v51)], []⟩) k ⟨0, hlo53, by kernel_rfl⟩ ?_
    clear hlo53
    rintro (_ | n) _ ⟨v51, h, rfl⟩
    · cases h
    · rw [millwrightref03_Make.l52] at h
      refine WpC.seq ?_
      refine rS {} [0, 15, 16, 17, 18] [] hN (by kernel_rfl) (by kernel_rfl) ?_
      refine tnU ?_
      refine WpC.seq ?_
      refine tS (b := (decide (v51 < (a0.length : Int)))) (by kernel_rfl) (fun hc55 => ?_) (fun hc55 => ?_)
      · replace h := ite_t hc55 h
        refine WpC.conv (cS [.k [0, 15, 16, 17] []] (by kernel_rfl) (by kernel_rfl)) (WpC.skip ?_)
        refine tnU ?_
        refine WpC.seq ?_
        refine WpC.block ?_
        refine WpC.seq ?_
        obtain ⟨v56, hv56, h⟩ := bind_some h
        refine rS { its := [(0, .v (.named 3) hv56)] } [0, 5, 15, 16, 17] [5] hN (by kernel_rfl) (by kernel_rfl) ?_
        refine tnU ?_
        refine WpC.seq ?_
        obtain ⟨v57, hv57, h⟩ := bind_some h
        refine rS { its := [(2, .c (millwrightref03_Named.ok O hO k v56.f_Name v57 hv57))] } [0, 15, 16, 17, 24] [] hN (by kernel_rfl) (by kernel_rfl) ?_
        refine tnU ?_
        refine tS (b := (!v57)) (by kernel_rfl) (fun hc58 => ?_) (fun hc58 => ?_)
        · replace h := ite_t hc58 h
          refine WpC.seq ?_
          refine rS {} [2, 3] [] hN (by kernel_rfl) (by kernel_rfl) ?_
          refine tnU ?_
          refine WpC.ret ?_
          refine blockQ_ret ?_
          refine thenQ_ret ?_
          have hq := Option.some.inj h
          subst hq
          refine thenQ_ret ?_
          have h := hout54
          refine blockQ_ret ?_
          refine thenQ_ret ?_
          have hq := Option.some.inj h
          subst hq
          exact eR (by kernel_rfl) (by kernel_rfl)
        · replace h := ite_f hc58 h
          refine WpC.conv (cS [.k [0, 15, 16, 17] []] (by kernel_rfl) (by kernel_rfl)) (WpC.skip ?_)
          refine blockQ_normal ?_
          refine tnU ?_
          refine rS {} [0, 15, 16, 17] [] hN (by kernel_rfl) (by kernel_rfl) ?_
          refine tnU ?_
          exact ⟨n, Nat.lt_succ_self n, (IntKind.i64.wrap (v51 + 1)), h, by kernel_rfl⟩
      · replace h := ite_f hc55 h
        refine WpC.conv (cS [.k [0] []] (by kernel_rfl) (by kernel_rfl)) (WpC.exit ?_)
        refine thenQ_exit ?_
        have hq := Option.some.inj h
        subst hq
        refine thenQ_exit ?_
        have h := hout54
        refine blockQ_hit ?_
        refine tnU ?_
        exact ⟨h, by kernel_rfl⟩
  · rintro _ ⟨h, rfl⟩
    unfold millwrightref03_Make.j50 at h
    refine sqJ (fun st' => millwrightref03_Make.j36 k a0 = some out ∧ st' = ⟨[(0, .p (.list (.named 3)) a0)], []⟩) ?_ ?_
    · refine WpC.seq ?_
      refine rS {} [0, 26, 27, 28] [] hN (by kernel_rfl) (by kernel_rfl) ?_
      refine tnU ?_
      refine WpC.block ?_
      obtain ⟨o39, hlo39, h⟩ := bind_some h
      have hout40 := h
      clear h
      refine WpC.loop (U := Un) (fun n st' => ∃ v37 : Int, millwrightref03_Make.l38 k a0 n v37 = some o39 ∧ st' = ⟨[(0, .p (.list (.named 3)) a0), (26, .p (.list (.named 3)) a0), (27, .p I6 ((a0.length : Int) : Int)), (28, .p I6 v37)], []⟩) k ⟨0, hlo39, by kernel_rfl⟩ ?_
      clear hlo39
      rintro (_ | n) _ ⟨v37, h, rfl⟩
      · cases h
      · rw [millwrightref03_Make.l38] at h
        refine WpC.seq ?_
        refine rS {} [0, 26, 27, 28, 29] [] hN (by kernel_rfl) (by kernel_rfl) ?_
        refine tnU ?_
        refine WpC.seq ?_
        refine tS (b := (decide (v37 < (a0.length : Int)))) (by kernel_rfl) (fun hc41 => ?_) (fun hc41 => ?_)
        · replace h := ite_t hc41 h
          refine WpC.conv (cS [.k [0, 26, 27, 28] []] (by kernel_rfl) (by kernel_rfl)) (WpC.skip ?_)
          refine tnU ?_
          refine sqJ (fun st' => millwrightref03_Make.j42 k (millwrightref03_Make.l38 k a0 n) a0 v37 = some o39 ∧ st' = ⟨[(0, .p (.list (.named 3)) a0), (26, .p (.list (.named 3)) a0), (27, .p I6 ((a0.length : Int) : Int)), (28, .p I6 v37)], []⟩) ?_ ?_
          · refine WpC.block ?_
            refine WpC.seq ?_
            obtain ⟨v43, hv43, h⟩ := bind_some h
            refine rS { its := [(0, .v (.named 3) hv43)] } [0, 7, 26, 27, 28] [7] hN (by kernel_rfl) (by kernel_rfl) ?_
            refine tnU ?_
            refine sqJ (fun st' => ∃ v44 : Bool, millwrightref03_Make.j46 k (millwrightref03_Make.l38 k a0 n) a0 v37 v44 = some o39 ∧ st' = ⟨[(0, .p (.list (.named 3)) a0), (26, .p (.list (.named 3)) a0), (27, .p I6 ((a0.length : Int) : Int)), (28, .p I6 v37), (39, .p .bool v44)], []⟩) ?_ ?_
            · rcases bool_cases (decide (v43.f_Time < 1)) with hc47 | hc47
              · replace h := ite_t hc47 h
                refine rS { kn := [(35, .t hc47)] } [0, 26, 27, 28, 39] [] hN (by kernel_rfl) (by kernel_rfl) ?_
                refine tnU ?_
                exact ⟨true, h, by kernel_rfl⟩
              · replace h := ite_f hc47 h
                refine rS { kn := [(35, .f hc47)] } [0, 26, 27, 28, 39] [] hN (by kernel_rfl) (by kernel_rfl) ?_
                refine tnU ?_
                exact ⟨(decide (v43.f_Time > 549755813888)), h, by kernel_rfl⟩
            · rintro _ ⟨v44, h, rfl⟩
              unfold millwrightref03_Make.j46 at h
              refine tS (b := v44) (by kernel_rfl) (fun hc45 => ?_) (fun hc45 => ?_)
              · replace h := ite_t hc45 h
                refine WpC.seq ?_
                refine rS {} [2, 3] [] hN (by kernel_rfl) (by kernel_rfl) ?_
                refine tnU ?_
                refine WpC.ret ?_
                refine blockQ_ret ?_
                refine thenQ_ret ?_
                have hq := Option.some.inj h
                subst hq
                refine thenQ_ret ?_
                have h := hout40
                refine blockQ_ret ?_
                refine thenQ_ret ?_
                have hq := Option.some.inj h
                subst hq
                exact eR (by kernel_rfl) (by kernel_rfl)
              · replace h := ite_f hc45 h
                refine WpC.conv (cS [.k [0, 26, 27, 28] []] (by kernel_rfl) (by kernel_rfl)) (WpC.skip ?_)
                refine blockQ_normal ?_
                refine tnU ?_
                exact ⟨h, by kernel_rfl⟩
          · rintro _ ⟨h, rfl⟩
            unfold millwrightref03_Make.j42 at h
            refine rS {} [0, 26, 27, 28] [] hN (by kernel_rfl) (by kernel_rfl) ?_
            refine tnU ?_
            exact ⟨n, Nat.lt_succ_self n, (IntKind.i64.wrap (v37 + 1)), h, by kernel_rfl⟩
        · replace h := ite_f hc41 h
          refine WpC.conv (cS [.k [0] []] (by kernel_rfl) (by kernel_rfl)) (WpC.exit ?_)
          refine thenQ_exit ?_
          have hq := Option.some.inj h
          subst hq
          refine thenQ_exit ?_
          have h := hout40
          refine blockQ_hit ?_
          refine tnU ?_
          exact ⟨h, by kernel_rfl⟩
    · rintro _ ⟨h, rfl⟩
      unfold millwrightref03_Make.j36 at h
      refine sqJ (fun st' => millwrightref03_Make.j16 k a0 = some out ∧ st' = ⟨[(0, .p (.list (.named 3)) a0)], []⟩) ?_ ?_
      · refine WpC.seq ?_
        refine rS {} [0, 41, 42, 43] [] hN (by kernel_rfl) (by kernel_rfl) ?_
        refine tnU ?_
        refine WpC.block ?_
        obtain ⟨o19, hlo19, h⟩ := bind_some h
        have hout20 := h
        clear h
        refine WpC.loop (U := Un) (fun n st' => ∃ v17 : Int, millwrightref03_Make.l18 k a0 n v17 = some o19 ∧ st' = ⟨[(0, .p (.list (.named 3)) a0), (41, .p (.list (.named 3)) a0), (42, .p I6 ((a0.length : Int) : Int)), (43, .p I6 v17)], []⟩) k ⟨0, hlo19, by kernel_rfl⟩ ?_
        clear hlo19
        rintro (_ | n) _ ⟨v17, h, rfl⟩
        · cases h
        · rw [millwrightref03_Make.l18] at h
          refine WpC.seq ?_
          refine rS {} [0, 41, 42, 43, 44] [] hN (by kernel_rfl) (by kernel_rfl) ?_
          refine tnU ?_
          refine WpC.seq ?_
          refine tS (b := (decide (v17 < (a0.length : Int)))) (by kernel_rfl) (fun hc21 => ?_) (fun hc21 => ?_)
          · replace h := ite_t hc21 h
            refine WpC.conv (cS [.k [0, 41, 42, 43] []] (by kernel_rfl) (by kernel_rfl)) (WpC.skip ?_)
            refine tnU ?_
            refine sqJ (fun st' => millwrightref03_Make.j22 k (millwrightref03_Make.l18 k a0 n) a0 v17 = some o19 ∧ st' = ⟨[(0, .p (.list (.named 3)) a0), (41, .p (.list (.named 3)) a0), (42, .p I6 ((a0.length : Int) : Int)), (43, .p I6 v17)], []⟩) ?_ ?_
            · refine WpC.block ?_
              refine WpC.seq ?_
              obtain ⟨v23, hv23, h⟩ := bind_some h
              refine rS { its := [(1, .v (.named 3) hv23)] } [0, 8, 9, 41, 42, 43] [9] hN (by kernel_rfl) (by kernel_rfl) ?_
              refine tnU ?_
              refine WpC.seq ?_
              obtain ⟨v24, hv24, h⟩ := bind_some h
              refine rS { its := [(2, .v (.list (.named 3)) hv24)] } [0, 9, 41, 42, 43, 50, 51, 52] [9] hN (by kernel_rfl) (by kernel_rfl) ?_
              refine tnU ?_
              refine WpC.block ?_
              obtain ⟨o27, hlo27, h⟩ := bind_some h
              have hout28 := h
              clear h
              refine WpC.loop (U := Un) (fun n st' => ∃ v25 : Int, millwrightref03_Make.l26 k a0 v17 v23 v24 n v25 = some o27 ∧ st' = ⟨[(0, .p (.list (.named 3)) a0), (9, .loc 9 0), (41, .p (.list (.named 3)) a0), (42, .p I6 ((a0.length : Int) : Int)), (43, .p I6 v17), (50, .p (.list (.named 3)) v24), (51, .p I6 ((v24.length : Int) : Int)), (52, .p I6 v25)], [(9, .box [.p .str v23.f_Name, .p I6 v23.f_Time, .p .str v23.f_Content])]⟩) k ⟨0, hlo27, by kernel_rfl⟩ ?_
              clear hlo27
              rintro (_ | n) _ ⟨v25, h, rfl⟩
              · cases h
              · rw [millwrightref03_Make.l26] at h
                refine WpC.seq ?_
                refine rS {} [0, 9, 41, 42, 43, 50, 51, 52, 53] [9] hN (by kernel_rfl) (by kernel_rfl) ?_
                refine tnU ?_
                refine WpC.seq ?_
                refine tS (b := (decide (v25 < (v24.length : Int)))) (by kernel_rfl) (fun hc29 => ?_) (fun hc29 => ?_)
                · replace h := ite_t hc29 h
                  refine WpC.conv (cS [.k [0, 9, 41, 42, 43, 50, 51, 52] [9]] (by kernel_rfl) (by kernel_rfl)) (WpC.skip ?_)
                  refine tnU ?_
                  refine WpC.seq ?_
                  refine WpC.block ?_
                  refine WpC.seq ?_
                  obtain ⟨v30, hv30, h⟩ := bind_some h
                  refine rS { its := [(0, .v (.named 3) hv30)] } [0, 9, 11, 41, 42, 43, 50, 51, 52] [9, 11] hN (by kernel_rfl) (by kernel_rfl) ?_
                  refine tnU ?_
                  refine WpC.seq ?_
                  refine rS {} [0, 9, 41, 42, 43, 50, 51, 52, 60] [9] hN (by kernel_rfl) (by kernel_rfl) ?_
                  refine tnU ?_
                  refine tS (b := (v23.f_Name == v30.f_Name)) (by kernel_rfl) (fun hc31 => ?_) (fun hc31 => ?_)
                  · replace h := ite_t hc31 h
                    refine WpC.seq ?_
                    refine rS {} [2, 3] [] hN (by kernel_rfl) (by kernel_rfl) ?_
                    refine tnU ?_
                    refine WpC.ret ?_
                    refine blockQ_ret ?_
                    refine thenQ_ret ?_
                    have hq := Option.some.inj h
                    subst hq
                    refine thenQ_ret ?_
                    have h := hout28
                    refine blockQ_ret ?_
                    refine blockQ_ret ?_
                    refine thenQ_ret ?_
                    have hq := Option.some.inj h
                    subst hq
                    refine thenQ_ret ?_
                    have h := hout20
                    refine blockQ_ret ?_
                    refine thenQ_ret ?_
                    have hq := Option.some.inj h
                    subst hq
                    exact eR (by kernel_rfl) (by kernel_rfl)
                  · replace h := ite_f hc31 h
                    refine WpC.conv (cS [.k [0, 9, 41, 42, 43, 50, 51, 52] [9]] (by kernel_rfl) (by kernel_rfl)) (WpC.skip ?_)
                    refine blockQ_normal ?_
                    refine tnU ?_
                    refine rS {} [0, 9, 41, 42, 43, 50, 51, 52] [9] hN (by kernel_rfl) (by kernel_rfl) ?_
                    refine tnU ?_
                    exact ⟨n, Nat.lt_succ_self n, (IntKind.i64.wrap (v25 + 1)), h, by kernel_rfl⟩
                · replace h := ite_f hc29 h
                  refine WpC.conv (cS [.k [0, 41, 42, 43] []] (by kernel_rfl) (by kernel_rfl)) (WpC.exit ?_)
                  refine thenQ_exit ?_
                  have hq := Option.some.inj h
                  subst hq
                  refine thenQ_exit ?_
                  have h := hout28
                  refine blockQ_hit ?_
                  refine blockQ_normal ?_
                  refine tnU ?_
                  exact ⟨h, by kernel_rfl⟩
            · rintro _ ⟨h, rfl⟩
              unfold millwrightref03_Make.j22 at h
              refine rS {} [0, 41, 42, 43] [] hN (by kernel_rfl) (by kernel_rfl) ?_
              refine tnU ?_
              exact ⟨n, Nat.lt_succ_self n, (IntKind.i64.wrap (v17 + 1)), h, by kernel_rfl⟩
          · replace h := ite_f hc21 h
            refine WpC.conv (cS [.k [0] []] (by kernel_rfl) (by kernel_rfl)) (WpC.exit ?_)
            refine thenQ_exit ?_
            have hq := Option.some.inj h
            subst hq
            refine thenQ_exit ?_
            have h := hout20
            refine blockQ_hit ?_
            refine tnU ?_
            exact ⟨h, by kernel_rfl⟩
      · rintro _ ⟨h, rfl⟩
        unfold millwrightref03_Make.j16 at h
        refine WpC.seq ?_
        refine rS {} [0, 12] [] hN (by kernel_rfl) (by kernel_rfl) ?_
        refine tnU ?_
        refine sqJ (fun st' => ∃ v1 : List UInt8, millwrightref03_Make.j2 k v1 = some out ∧ st' = ⟨[(12, .p .str v1)], []⟩) ?_ ?_
        · refine WpC.seq ?_
          refine rS {} [12, 63, 64, 65] [] hN (by kernel_rfl) (by kernel_rfl) ?_
          refine tnU ?_
          refine WpC.block ?_
          obtain ⟨o7, hlo7, h⟩ := bind_some h
          have hout8 := h
          clear h
          refine WpC.loop (U := Un) (fun n st' => ∃ v3 : List UInt8, ∃ v4 : Int, millwrightref03_Make.l5 k a0 n v3 v4 = some o7 ∧ st' = ⟨[(12, .p .str v3), (63, .p (.list (.named 3)) a0), (64, .p I6 ((a0.length : Int) : Int)), (65, .p I6 v4)], []⟩) k ⟨([33, 60, 97, 114, 99, 104, 62, 10] : List UInt8), 0, hlo7, by kernel_rfl⟩ ?_
          clear hlo7
          rintro (_ | n) _ ⟨v3, v4, h, rfl⟩
          · cases h
          · rw [millwrightref03_Make.l5] at h
            refine WpC.seq ?_
            refine rS {} [12, 63, 64, 65, 66] [] hN (by kernel_rfl) (by kernel_rfl) ?_
            refine tnU ?_
            refine WpC.seq ?_
            refine tS (b := (decide (v4 < (a0.length : Int)))) (by kernel_rfl) (fun hc9 => ?_) (fun hc9 => ?_)
            · replace h := ite_t hc9 h
              refine WpC.conv (cS [.k [12, 63, 64, 65] []] (by kernel_rfl) (by kernel_rfl)) (WpC.skip ?_)
              refine tnU ?_
              refine WpC.seq ?_
              refine WpC.block ?_
              refine WpC.seq ?_
              obtain ⟨v10, hv10, h⟩ := bind_some h
              refine rS { its := [(0, .v (.named 3) hv10)] } [12, 14, 63, 64, 65] [14] hN (by kernel_rfl) (by kernel_rfl) ?_
              refine tnU ?_
              refine WpC.seq ?_
              obtain ⟨v11, hv11, h⟩ := bind_some h
              obtain ⟨g12, h⟩ := if_some h
              refine rS { its := [(2, .c (millwrightref03_One.ok O hO k (T_ar_Member.mk v10.f_Name v10.f_Time v10.f_Content) v11 hv11)), (3, .g g12)] } [12, 63, 64, 65] [] hN (by kernel_rfl) (by kernel_rfl) ?_
              refine tnU ?_
              refine WpC.seq ?_
              refine rS {} [12, 63, 64, 65, 75] [] hN (by kernel_rfl) (by kernel_rfl) ?_
              refine tnU ?_
              refine tS (b := (decide (((v3 ++ v11).length : Int) > 900))) (by kernel_rfl) (fun hc13 => ?_) (fun hc13 => ?_)
              · replace h := ite_t hc13 h
                refine WpC.seq ?_
                refine rS {} [2, 3] [] hN (by kernel_rfl) (by kernel_rfl) ?_
                refine tnU ?_
                refine WpC.ret ?_
                refine blockQ_ret ?_
                refine thenQ_ret ?_
                have hq := Option.some.inj h
                subst hq
                refine thenQ_ret ?_
                have h := hout8
                refine blockQ_ret ?_
                refine thenQ_ret ?_
                have hq := Option.some.inj h
                subst hq
                exact eR (by kernel_rfl) (by kernel_rfl)
              · replace h := ite_f hc13 h
                refine WpC.conv (cS [.k [12, 63, 64, 65] []] (by kernel_rfl) (by kernel_rfl)) (WpC.skip ?_)
                refine blockQ_normal ?_
                refine tnU ?_
                refine rS {} [12, 63, 64, 65] [] hN (by kernel_rfl) (by kernel_rfl) ?_
                refine tnU ?_
                exact ⟨n, Nat.lt_succ_self n, (v3 ++ v11), (IntKind.i64.wrap (v4 + 1)), h, by kernel_rfl⟩
            · replace h := ite_f hc9 h
              refine WpC.conv (cS [.k [12] []] (by kernel_rfl) (by kernel_rfl)) (WpC.exit ?_)
              refine thenQ_exit ?_
              have hq := Option.some.inj h
              subst hq
              refine thenQ_exit ?_
              have h := hout8
              refine blockQ_hit ?_
              refine tnU ?_
              exact ⟨v3, h, by kernel_rfl⟩
        · rintro _ ⟨v1, h, rfl⟩
          unfold millwrightref03_Make.j2 at h
          refine WpC.seq ?_
          refine rS {} [2, 3] [] hN (by kernel_rfl) (by kernel_rfl) ?_
          refine tnU ?_
          refine WpC.ret ?_
          have hq := Option.some.inj h
          subst hq
          exact eR (by kernel_rfl) (by kernel_rfl)

theorem millwrightnum_all.ok (O : Out) (hO : GOk O) (k : Nat) (out : List Nat) (h : millwrightnum_all.f k = some out) : COk Un O Tryz.prog 28 { ar := [], r := .p (.list .err) out } := by
  refine cok_of_wp Tryz.func28 rfl (k := 20) rfl (Nat.le_of_ble_eq_true rfl) (namesOk_pure rfl rfl rfl rfl) ?_
  intro B hN
  refine WpC.conv (cvK (b := ⟨[], []⟩) [] [] (by kernel_rfl)) ?_
  unfold millwrightnum_all.f at h
  refine WpC.seq ?_
  refine rS {} [] [] hN (by kernel_rfl) (by kernel_rfl) ?_
  refine tnU ?_
  refine WpC.seq ?_
  refine rS { its := [(0, .e 0 (sok_loadG (U := Un) (t := .err) (rs := []) rfl rfl ty_26 rfl rfl (hO.var 0 1 rfl) (fun S w => .err 0))), (1, .e 1 (sok_loadG (U := Un) (t := .err) (rs := []) rfl rfl ty_26 rfl rfl (hO.var 1 3 rfl) (fun S w => .err 1))), (2, .e 2 (sok_loadG (U := Un) (t := .err) (rs := []) rfl rfl ty_26 rfl rfl (hO.var 2 4 rfl) (fun S w => .err 2))), (3, .e 3 (sok_loadG (U := Un) (t := .err) (rs := []) rfl rfl ty_26 rfl rfl (hO.var 3 0 rfl) (fun S w => .err 3))), (4, .e 4 (sok_loadG (U := Un) (t := .err) (rs := []) rfl rfl ty_26 rfl rfl (hO.var 4 5 rfl) (fun S w => .err 4))), (5, .e 5 (sok_loadG (U := Un) (t := .err) (rs := []) rfl rfl ty_26 rfl rfl (hO.var 5 6 rfl) (fun S w => .err 5))), (6, .e 6 (sok_loadG (U := Un) (t := .err) (rs := []) rfl rfl ty_26 rfl rfl (hO.var 6 7 rfl) (fun S w => .err 6))), (7, .e 7 (sok_loadG (U := Un) (t := .err) (rs := []) rfl rfl ty_26 rfl rfl (hO.var 7 8 rfl) (fun S w => .err 7))), (8, .e 8 (sok_loadG (U := Un) (t := .err) (rs := []) rfl rfl ty_26 rfl rfl (hO.var 8 2 rfl) (fun S w => .err 8))), (9, .e 9 (sok_loadG (U := Un) (t := .err) (rs := []) rfl rfl ty_26 rfl rfl (hO.var 9 9 rfl) (fun S w => .err 9))), (10, .e 10 (sok_loadG (U := Un) (t := .err) (rs := []) rfl rfl ty_26 rfl rfl (hO.var 10 10 rfl) (fun S w => .err 10))), (11, .e 11 (sok_loadG (U := Un) (t := .err) (rs := []) rfl rfl ty_26 rfl rfl (hO.var 11 11 rfl) (fun S w => .err 11))), (12, .e 12 (sok_loadG (U := Un) (t := .err) (rs := []) rfl rfl ty_26 rfl rfl (hO.var 12 12 rfl) (fun S w => .err 12))), (13, .e 13 (sok_loadG (U := Un) (t := .err) (rs := []) rfl rfl ty_26 rfl rfl (hO.var 13 13 rfl) (fun S w => .err 13))), (14, .e 14 (sok_loadG (U := Un) (t := .err) (rs := []) rfl rfl ty_26 rfl rfl (hO.var 14 14 rfl) (fun S w => .err 14))), (15, .e 15 (sok_loadG (U := Un) (t := .err) (rs := []) rfl rfl ty_26 rfl rfl (hO.var 15 15 rfl) (fun S w => .err 15))), (16, .e 16 (sok_loadG (U := Un) (t := .err) (rs := []) rfl rfl ty_26 rfl rfl (hO.var 16 16 rfl) (fun S w => .err 16))), (17, .e 17 (sok_loadG (U := Un) (t := .err) (rs := []) rfl rfl ty_26 rfl rfl (hO.var 17 17 rfl) (fun S w => .err 17)))] } [0] [19] hN (by kernel_rfl) (by kernel_rfl) ?_
  refine tnU ?_
  refine WpC.conv (cS [.fz 0, .k [0] []] (by kernel_rfl) (by kernel_rfl)) (WpC.ret ?_)
  have hq := Option.some.inj h
  subst hq
  exact eR (by kernel_rfl) (by kernel_rfl)

theorem millwrightnum_Num.ok (O : Out) (hO : GOk O) (k : Nat) (a0 : Nat) (out : Int) (h : millwrightnum_Num.f k a0 = some out) : COk Un O Tryz.prog 11 { ar := [.p .err a0], r := .p I6 out } := by
  refine cok_of_wp Tryz.func11 rfl (k := 20) rfl (Nat.le_of_ble_eq_true rfl) (namesOk_pure rfl rfl rfl rfl) ?_
  intro B hN
  refine WpC.conv (cvK (b := ⟨[(0, .p .err a0)], []⟩) [0] [] (by kernel_rfl)) ?_
  unfold millwrightnum_Num.f at h
  refine WpC.seq ?_
  refine rS {} [0] [] hN (by kernel_rfl) (by kernel_rfl) ?_
  refine tnU ?_
  refine WpC.seq ?_
  refine WpC.seq ?_
  refine rS {} [0, 6] [] hN (by kernel_rfl) (by kernel_rfl) ?_
  refine tnU ?_
  refine tS (b := (a0 == 0)) (by kernel_rfl) (fun hc1 => ?_) (fun hc1 => ?_)
  · replace h := ite_t hc1 h
    refine WpC.seq ?_
    refine rS {} [2] [] hN (by kernel_rfl) (by kernel_rfl) ?_
    refine tnU ?_
    refine WpC.ret ?_
    refine thenQ_ret ?_
    have hq := Option.some.inj h
    subst hq
    exact eR (by kernel_rfl) (by kernel_rfl)
  · replace h := ite_f hc1 h
    refine WpC.conv (cS [.k [0] []] (by kernel_rfl) (by kernel_rfl)) (WpC.skip ?_)
    refine tnU ?_
    refine sqJ (fun st' => millwrightnum_Num.j2 k = some out ∧ st' = ⟨[], []⟩) ?_ ?_
    · refine WpC.seq ?_
      obtain ⟨v3, hv3, h⟩ := bind_some h
      refine rS { its := [(0, .c (millwrightnum_all.ok O hO k v3 hv3))] } [0, 7, 8, 9] [] hN (by kernel_rfl) (by kernel_rfl) ?_
      refine tnU ?_
      refine WpC.block ?_
      obtain ⟨o6, hlo6, h⟩ := bind_some h
      have hout7 := h
      clear h
      refine WpC.loop (U := Un) (fun n st' => ∃ v4 : Int, millwrightnum_Num.l5 k a0 v3 n v4 = some o6 ∧ st' = ⟨[(0, .p .err a0), (7, .p (.list .err) v3), (8, .p I6 ((v3.length : Int) : Int)), (9, .p I6 v4)], []⟩) k ⟨0, hlo6, by kernel_rfl⟩ ?_
      clear hlo6
      rintro (_ | n) _ ⟨v4, h, rfl⟩
      · cases h
      · rw [millwrightnum_Num.l5] at h
        refine WpC.seq ?_
        refine rS {} [0, 7, 8, 9, 10] [] hN (by kernel_rfl) (by kernel_rfl) ?_
        refine tnU ?_
        refine WpC.seq ?_
        refine tS (b := (decide (v4 < (v3.length : Int)))) (by kernel_rfl) (fun hc8 => ?_) (fun hc8 => ?_)
        · replace h := ite_t hc8 h
          refine WpC.conv (cS [.k [0, 7, 8, 9] []] (by kernel_rfl) (by kernel_rfl)) (WpC.skip ?_)
          refine tnU ?_
          refine WpC.seq ?_
          refine WpC.block ?_
          refine WpC.seq ?_
          obtain ⟨v9, hv9, h⟩ := bind_some h
          refine rS { its := [(1, .v .err hv9)] } [0, 3, 4, 7, 8, 9] [] hN (by kernel_rfl) (by kernel_rfl) ?_
          refine tnU ?_
          refine WpC.seq ?_
          obtain ⟨v10, hv10, h⟩ := bind_some h
          refine rS { its := [(2, .c (pIs.ok O hO k a0 v9 v10 hv10))] } [0, 3, 7, 8, 9, 16] [] hN (by kernel_rfl) (by kernel_rfl) ?_
          refine tnU ?_
          refine tS (b := v10) (by kernel_rfl) (fun hc11 => ?_) (fun hc11 => ?_)
          · replace h := ite_t hc11 h
            refine WpC.seq ?_
            refine rS {} [2] [] hN (by kernel_rfl) (by kernel_rfl) ?_
            refine tnU ?_
            refine WpC.ret ?_
            refine blockQ_ret ?_
            refine thenQ_ret ?_
            have hq := Option.some.inj h
            subst hq
            refine thenQ_ret ?_
            have h := hout7
            refine blockQ_ret ?_
            refine thenQ_ret ?_
            have hq := Option.some.inj h
            subst hq
            exact eR (by kernel_rfl) (by kernel_rfl)
          · replace h := ite_f hc11 h
            refine WpC.conv (cS [.k [0, 7, 8, 9] []] (by kernel_rfl) (by kernel_rfl)) (WpC.skip ?_)
            refine blockQ_normal ?_
            refine tnU ?_
            refine rS {} [0, 7, 8, 9] [] hN (by kernel_rfl) (by kernel_rfl) ?_
            refine tnU ?_
            exact ⟨n, Nat.lt_succ_self n, (IntKind.i64.wrap (v4 + 1)), h, by kernel_rfl⟩
        · replace h := ite_f hc8 h
          refine WpC.conv (cS [.k [] []] (by kernel_rfl) (by kernel_rfl)) (WpC.exit ?_)
          refine thenQ_exit ?_
          have hq := Option.some.inj h
          subst hq
          refine thenQ_exit ?_
          have h := hout7
          refine blockQ_hit ?_
          refine tnU ?_
          exact ⟨h, by kernel_rfl⟩
    · rintro _ ⟨h, rfl⟩
      unfold millwrightnum_Num.j2 at h
      refine WpC.seq ?_
      refine rS {} [2] [] hN (by kernel_rfl) (by kernel_rfl) ?_
      refine tnU ?_
      refine WpC.ret ?_
      have hq := Option.some.inj h
      subst hq
      exact eR (by kernel_rfl) (by kernel_rfl)

theorem millwrightlaw03_ArMakes.ok (O : Out) (hO : GOk O) (k : Nat) (a0 : List T_ar_Member) (out : Bool) (h : millwrightlaw03_ArMakes.f k a0 = some out) : COk Un O Tryz.prog 3 { ar := [.p (.list (.named 3)) a0], r := .p .bool out } := by
  refine cok_of_wp Tryz.func3 rfl (k := 85) rfl (Nat.le_of_ble_eq_true rfl) (namesOk_pure rfl rfl rfl rfl) ?_
  intro B hN
  refine WpC.conv (cvK (b := ⟨[(0, .p (.list (.named 3)) a0)], []⟩) [0] [] (by kernel_rfl)) ?_
  unfold millwrightlaw03_ArMakes.f at h
  refine WpC.seq ?_
  refine rS {} [0] [] hN (by kernel_rfl) (by kernel_rfl) ?_
  refine tnU ?_
  refine WpC.seq ?_
  refine WpC.seq ?_
  obtain ⟨v1, hv1, h⟩ := bind_some h
  refine rS { its := [(0, .c (millwrightlaw03_alive.ok O hO k v1 hv1))] } [0, 13] [] hN (by kernel_rfl) (by kernel_rfl) ?_
  refine tnU ?_
  refine tS (b := (!v1)) (by kernel_rfl) (fun hc2 => ?_) (fun hc2 => ?_)
  · replace h := ite_t hc2 h
    refine WpC.seq ?_
    refine rS {} [2] [] hN (by kernel_rfl) (by kernel_rfl) ?_
    refine tnU ?_
    refine WpC.ret ?_
    refine thenQ_ret ?_
    have hq := Option.some.inj h
    subst hq
    exact eR (by kernel_rfl) (by kernel_rfl)
  · replace h := ite_f hc2 h
    refine WpC.conv (cS [.k [0] []] (by kernel_rfl) (by kernel_rfl)) (WpC.skip ?_)
    refine tnU ?_
    refine WpC.seq ?_
    refine WpC.seq ?_
    obtain ⟨v3, hv3, h⟩ := bind_some h
    refine rS { its := [(1, .c (millwrightlaw03_long.ok O hO k a0 30 v3 hv3))] } [0, 15] [] hN (by kernel_rfl) (by kernel_rfl) ?_
    refine tnU ?_
    refine tS (b := v3) (by kernel_rfl) (fun hc4 => ?_) (fun hc4 => ?_)
    · replace h := ite_t hc4 h
      refine WpC.seq ?_
      refine rS {} [2] [] hN (by kernel_rfl) (by kernel_rfl) ?_
      refine tnU ?_
      refine WpC.ret ?_
      refine thenQ_ret ?_
      have hq := Option.some.inj h
      subst hq
      exact eR (by kernel_rfl) (by kernel_rfl)
    · replace h := ite_f hc4 h
      refine WpC.conv (cS [.k [0] []] (by kernel_rfl) (by kernel_rfl)) (WpC.skip ?_)
      refine tnU ?_
      refine WpC.seq ?_
      obtain ⟨v5, hv5, h⟩ := bind_some h
      refine rS { its := [(1, .c (ar_Make.ok O hO k a0 v5 hv5))] } [0, 3, 4] [] hN (by kernel_rfl) (by kernel_rfl) ?_
      refine tnU ?_
      refine WpC.seq ?_
      obtain ⟨v6, hv6, h⟩ := bind_some h
      obtain ⟨v7, hv7, h⟩ := bind_some h
      refine rS { its := [(1, .c (millwrightlaw03_Of.ok O hO k a0 v6 hv6)), (2, .c (millwrightref03_Make.ok O hO k v6 v7 hv7))] } [0, 3, 4, 5, 6] [] hN (by kernel_rfl) (by kernel_rfl) ?_
      refine tnU ?_
      refine sqJ (fun st' => millwrightlaw03_ArMakes.j39 k a0 v5 v7 = some out ∧ st' = ⟨[(0, .p (.list (.named 3)) a0), (3, .p .str v5.1), (6, .p I6 v7.2)], []⟩) ?_ ?_
      · refine sqJ (fun st' => ∃ v40 : Bool, millwrightlaw03_ArMakes.j42 k a0 v5 v7 v40 = some out ∧ st' = ⟨[(0, .p (.list (.named 3)) a0), (3, .p .str v5.1), (6, .p I6 v7.2), (35, .p .bool v40)], []⟩) ?_ ?_
        · obtain ⟨v43, hv43, h⟩ := bind_some h
          rcases bool_cases (v43 != v7.2) with hc44 | hc44
          · replace h := ite_t hc44 h
            refine rS { its := [(1, .c (millwrightnum_Num.ok O hO k v5.2 v43 hv43))], kn := [(31, .t hc44)] } [0, 3, 6, 35] [] hN (by kernel_rfl) (by kernel_rfl) ?_
            refine tnU ?_
            exact ⟨true, h, by kernel_rfl⟩
          · replace h := ite_f hc44 h
            refine rS { its := [(1, .c (millwrightnum_Num.ok O hO k v5.2 v43 hv43))], kn := [(31, .f hc44)] } [0, 3, 6, 35] [] hN (by kernel_rfl) (by kernel_rfl) ?_
            refine tnU ?_
            exact ⟨(!(v5.1 == v7.1)), h, by kernel_rfl⟩
        · rintro _ ⟨v40, h, rfl⟩
          unfold millwrightlaw03_ArMakes.j42 at h
          refine tS (b := v40) (by kernel_rfl) (fun hc41 => ?_) (fun hc41 => ?_)
          · replace h := ite_t hc41 h
            refine WpC.seq ?_
            refine rS {} [2] [] hN (by kernel_rfl) (by kernel_rfl) ?_
            refine tnU ?_
            refine WpC.ret ?_
            refine thenQ_ret ?_
            have hq := Option.some.inj h
            subst hq
            exact eR (by kernel_rfl) (by kernel_rfl)
          · replace h := ite_f hc41 h
            refine WpC.conv (cS [.k [0, 3, 6] []] (by kernel_rfl) (by kernel_rfl)) (WpC.skip ?_)
            refine tnU ?_
            exact ⟨h, by kernel_rfl⟩
      · rintro _ ⟨h, rfl⟩
        unfold millwrightlaw03_ArMakes.j39 at h
        refine sqJ (fun st' => millwrightlaw03_ArMakes.j27 k a0 v5 v7 = some out ∧ st' = ⟨[(0, .p (.list (.named 3)) a0), (3, .p .str v5.1), (6, .p I6 v7.2)], []⟩) ?_ ?_
        · refine WpC.seq ?_
          refine rS {} [0, 3, 6, 36, 37, 38] [] hN (by kernel_rfl) (by kernel_rfl) ?_
          refine tnU ?_
          refine WpC.block ?_
          obtain ⟨o30, hlo30, h⟩ := bind_some h
          have hout31 := h
          clear h
          refine WpC.loop (U := Un) (fun n st' => ∃ v28 : Int, millwrightlaw03_ArMakes.l29 k a0 v5 v7 n v28 = some o30 ∧ st' = ⟨[(0, .p (.list (.named 3)) a0), (3, .p .str v5.1), (6, .p I6 v7.2), (36, .p (.list (.named 3)) a0), (37, .p I6 ((a0.length : Int) : Int)), (38, .p I6 v28)], []⟩) k ⟨0, hlo30, by kernel_rfl⟩ ?_
          clear hlo30
          rintro (_ | n) _ ⟨v28, h, rfl⟩
          · cases h
          · rw [millwrightlaw03_ArMakes.l29] at h
            refine WpC.seq ?_
            refine rS {} [0, 3, 6, 36, 37, 38, 39] [] hN (by kernel_rfl) (by kernel_rfl) ?_
            refine tnU ?_
            refine WpC.seq ?_
            refine tS (b := (decide (v28 < (a0.length : Int)))) (by kernel_rfl) (fun hc32 => ?_) (fun hc32 => ?_)
            · replace h := ite_t hc32 h
              refine WpC.conv (cS [.k [0, 3, 6, 36, 37, 38] []] (by kernel_rfl) (by kernel_rfl)) (WpC.skip ?_)
              refine tnU ?_
              refine WpC.seq ?_
              refine WpC.block ?_
              refine WpC.seq ?_
              obtain ⟨v33, hv33, h⟩ := bind_some h
              refine rS { its := [(0, .v (.named 3) hv33)] } [0, 3, 6, 8, 36, 37, 38] [8] hN (by kernel_rfl) (by kernel_rfl) ?_
              refine tnU ?_
              refine WpC.seq ?_
              obtain ⟨v34, hv34, h⟩ := bind_some h
              obtain ⟨g35, h⟩ := if_some h
              refine rA { its := [(1, .c (ar_Size.ok O hO k (T_ar_Member.mk v33.f_Name v33.f_Time v33.f_Content) v34 hv34)), (9, .g g35)] } [0, 3, 6, 36, 37, 38, 53] [] hN (by kernel_rfl) (by kernel_rfl) (by kernel_rfl) ?_
              refine tnU ?_
              refine tS (b := (v34 != (IntKind.i64.wrap ((IntKind.i64.wrap (60 + (v33.f_Content.length : Int))) + (Int.tmod (v33.f_Content.length : Int) 2))))) (by kernel_rfl) (fun hc36 => ?_) (fun hc36 => ?_)
              · replace h := ite_t hc36 h
                refine WpC.seq ?_
                refine rS {} [2] [] hN (by kernel_rfl) (by kernel_rfl) ?_
                refine tnU ?_
                refine WpC.ret ?_
                refine blockQ_ret ?_
                refine thenQ_ret ?_
                have hq := Option.some.inj h
                subst hq
                refine thenQ_ret ?_
                have h := hout31
                refine blockQ_ret ?_
                refine thenQ_ret ?_
                have hq := Option.some.inj h
                subst hq
                exact eR (by kernel_rfl) (by kernel_rfl)
              · replace h := ite_f hc36 h
                refine WpC.conv (cS [.k [0, 3, 6, 36, 37, 38] []] (by kernel_rfl) (by kernel_rfl)) (WpC.skip ?_)
                refine blockQ_normal ?_
                refine tnU ?_
                refine rS {} [0, 3, 6, 36, 37, 38] [] hN (by kernel_rfl) (by kernel_rfl) ?_
                refine tnU ?_
                exact ⟨n, Nat.lt_succ_self n, (IntKind.i64.wrap (v28 + 1)), h, by kernel_rfl⟩
            · replace h := ite_f hc32 h
              refine WpC.conv (cS [.k [0, 3, 6] []] (by kernel_rfl) (by kernel_rfl)) (WpC.exit ?_)
              refine thenQ_exit ?_
              have hq := Option.some.inj h
              subst hq
              refine thenQ_exit ?_
              have h := hout31
              refine blockQ_hit ?_
              refine tnU ?_
              exact ⟨h, by kernel_rfl⟩
        · rintro _ ⟨h, rfl⟩
          unfold millwrightlaw03_ArMakes.j27 at h
          refine WpC.seq ?_
          refine WpC.seq ?_
          refine rS {} [0, 3, 56] [] hN (by kernel_rfl) (by kernel_rfl) ?_
          refine tnU ?_
          refine tS (b := (v7.2 != 0)) (by kernel_rfl) (fun hc8 => ?_) (fun hc8 => ?_)
          · replace h := ite_t hc8 h
            refine WpC.seq ?_
            refine rS {} [2] [] hN (by kernel_rfl) (by kernel_rfl) ?_
            refine tnU ?_
            refine WpC.ret ?_
            refine thenQ_ret ?_
            have hq := Option.some.inj h
            subst hq
            exact eR (by kernel_rfl) (by kernel_rfl)
          · replace h := ite_f hc8 h
            refine WpC.conv (cS [.k [0, 3] []] (by kernel_rfl) (by kernel_rfl)) (WpC.skip ?_)
            refine tnU ?_
            refine WpC.seq ?_
            obtain ⟨v9, hv9, h⟩ := bind_some h
            refine rS { its := [(1, .c (COk.ren (ar_Parse.ok O hO k v5.1 v9 hv9) (fun n => if n = 60500 then 10001 else n) (injOn_of (by kernel_rfl))))] } [0, 4, 9] [10001] hN (by kernel_rfl) (by kernel_rfl) ?_
            refine tnU ?_
            refine sqJ (fun st' => millwrightlaw03_ArMakes.j22 k a0 v9 = some out ∧ st' = ⟨[(0, .p (.list (.named 3)) a0), (9, .vec 10001 3 0 v9.1.length)], [(10001, .row 35 (.named 3) v9.1 false)]⟩) ?_ ?_
            · refine sqJ (fun st' => ∃ v23 : Bool, millwrightlaw03_ArMakes.j25 k a0 v9 v23 = some out ∧ st' = ⟨[(0, .p (.list (.named 3)) a0), (9, .vec 10001 3 0 v9.1.length), (70, .p .bool v23)], [(10001, .row 35 (.named 3) v9.1 false)]⟩) ?_ ?_
              · rcases bool_cases (!(v9.2 == 0)) with hc26 | hc26
                · replace h := ite_t hc26 h
                  refine rS { kn := [(64, .t hc26)] } [0, 9, 70] [10001] hN (by kernel_rfl) (by kernel_rfl) ?_
                  refine tnU ?_
                  exact ⟨true, h, by kernel_rfl⟩
                · replace h := ite_f hc26 h
                  refine rS { kn := [(64, .f hc26)] } [0, 9, 70] [10001] hN (by kernel_rfl) (by kernel_rfl) ?_
                  refine tnU ?_
                  exact ⟨((v9.1.length : Int) != (a0.length : Int)), h, by kernel_rfl⟩
              · rintro _ ⟨v23, h, rfl⟩
                unfold millwrightlaw03_ArMakes.j25 at h
                refine tS (b := v23) (by kernel_rfl) (fun hc24 => ?_) (fun hc24 => ?_)
                · replace h := ite_t hc24 h
                  refine WpC.seq ?_
                  refine rS {} [2] [] hN (by kernel_rfl) (by kernel_rfl) ?_
                  refine tnU ?_
                  refine WpC.ret ?_
                  refine thenQ_ret ?_
                  have hq := Option.some.inj h
                  subst hq
                  exact eR (by kernel_rfl) (by kernel_rfl)
                · replace h := ite_f hc24 h
                  refine WpC.conv (cS [.k [0, 9] [10001]] (by kernel_rfl) (by kernel_rfl)) (WpC.skip ?_)
                  refine tnU ?_
                  exact ⟨h, by kernel_rfl⟩
            · rintro _ ⟨h, rfl⟩
              unfold millwrightlaw03_ArMakes.j22 at h
              refine sqJ (fun st' => millwrightlaw03_ArMakes.j10 k = some out ∧ st' = ⟨[], []⟩) ?_ ?_
              · refine WpC.seq ?_
                refine rS {} [9, 71, 72, 73] [10001] hN (by kernel_rfl) (by kernel_rfl) ?_
                refine tnU ?_
                refine WpC.block ?_
                obtain ⟨o13, hlo13, h⟩ := bind_some h
                have hout14 := h
                clear h
                refine WpC.loop (U := Un) (fun n st' => ∃ v11 : Int, millwrightlaw03_ArMakes.l12 k a0 v9 n v11 = some o13 ∧ st' = ⟨[(9, .vec 10001 3 0 v9.1.length), (71, .p (.list (.named 3)) a0), (72, .p I6 ((a0.length : Int) : Int)), (73, .p I6 v11)], [(10001, .row 35 (.named 3) v9.1 false)]⟩) k ⟨0, hlo13, by kernel_rfl⟩ ?_
                clear hlo13
                rintro (_ | n) _ ⟨v11, h, rfl⟩
                · cases h
                · rw [millwrightlaw03_ArMakes.l12] at h
                  refine WpC.seq ?_
                  refine rS {} [9, 71, 72, 73, 74] [10001] hN (by kernel_rfl) (by kernel_rfl) ?_
                  refine tnU ?_
                  refine WpC.seq ?_
                  refine tS (b := (decide (v11 < (a0.length : Int)))) (by kernel_rfl) (fun hc15 => ?_) (fun hc15 => ?_)
                  · replace h := ite_t hc15 h
                    refine WpC.conv (cS [.k [9, 71, 72, 73] [10001]] (by kernel_rfl) (by kernel_rfl)) (WpC.skip ?_)
                    refine tnU ?_
                    refine WpC.seq ?_
                    refine WpC.block ?_
                    refine WpC.seq ?_
                    obtain ⟨v16, hv16, h⟩ := bind_some h
                    refine rS { its := [(1, .v (.named 3) hv16)] } [9, 10, 11, 71, 72, 73] [11, 10001] hN (by kernel_rfl) (by kernel_rfl) ?_
                    refine tnU ?_
                    refine WpC.seq ?_
                    obtain ⟨g17, h⟩ := if_some h
                    obtain ⟨v18, hv18, h⟩ := bind_some h
                    refine rA { its := [(2, .g g17), (3, .v (.named 3) hv18), (5, .e 5 (sok_neS (U := Un) (rs := [(81, .p (.named 3) v18), (82, .p (.named 3) ((T_ar_Member.mk v16.f_Name v16.f_Time v16.f_Content) : T_ar_Member))]) rfl rfl Tryz.underlying35 (by kernel_rfl) (eqf_35 _ Tryz.underlying35) (by kernel_rfl) o0 o1))] } [9, 71, 72, 73, 83] [10001] hN (by kernel_rfl) (by kernel_rfl) (by kernel_rfl) ?_
                    refine tnU ?_
                    refine tS (b := (!(v18.f_Name == v16.f_Name && (v18.f_Time == v16.f_Time && (v18.f_Content == v16.f_Content && true))))) (by kernel_rfl) (fun hc19 => ?_) (fun hc19 => ?_)
                    · replace h := ite_t hc19 h
                      refine WpC.seq ?_
                      refine rS {} [2] [] hN (by kernel_rfl) (by kernel_rfl) ?_
                      refine tnU ?_
                      refine WpC.ret ?_
                      refine blockQ_ret ?_
                      refine thenQ_ret ?_
                      have hq := Option.some.inj h
                      subst hq
                      refine thenQ_ret ?_
                      have h := hout14
                      refine blockQ_ret ?_
                      refine thenQ_ret ?_
                      have hq := Option.some.inj h
                      subst hq
                      exact eR (by kernel_rfl) (by kernel_rfl)
                    · replace h := ite_f hc19 h
                      refine WpC.conv (cS [.k [9, 71, 72, 73] [10001]] (by kernel_rfl) (by kernel_rfl)) (WpC.skip ?_)
                      refine blockQ_normal ?_
                      refine tnU ?_
                      refine rS {} [9, 71, 72, 73] [10001] hN (by kernel_rfl) (by kernel_rfl) ?_
                      refine tnU ?_
                      exact ⟨n, Nat.lt_succ_self n, (IntKind.i64.wrap (v11 + 1)), h, by kernel_rfl⟩
                  · replace h := ite_f hc15 h
                    refine WpC.conv (cS [.k [] []] (by kernel_rfl) (by kernel_rfl)) (WpC.exit ?_)
                    refine thenQ_exit ?_
                    have hq := Option.some.inj h
                    subst hq
                    refine thenQ_exit ?_
                    have h := hout14
                    refine blockQ_hit ?_
                    refine tnU ?_
                    exact ⟨h, by kernel_rfl⟩
              · rintro _ ⟨h, rfl⟩
                unfold millwrightlaw03_ArMakes.j10 at h
                refine WpC.seq ?_
                refine rS {} [2] [] hN (by kernel_rfl) (by kernel_rfl) ?_
                refine tnU ?_
                refine WpC.ret ?_
                have hq := Option.some.inj h
                subst hq
                exact eR (by kernel_rfl) (by kernel_rfl)

end Go.Proofs.YtgphmfcbhmmpiaaGreatDoor
