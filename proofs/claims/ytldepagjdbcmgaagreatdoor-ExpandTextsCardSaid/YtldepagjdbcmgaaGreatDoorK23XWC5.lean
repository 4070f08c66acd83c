/- A part of the proof of a given law: XWC5. Own work, printed in part by a program of mine. -/
import Derived.Test.YtldepagjdbcmgaaGreatDoorK23XWC4
namespace Go.Proofs.YtldepagjdbcmgaaGreatDoor
open Go Go.AM
set_option linter.unusedVariables false
set_option linter.unusedSimpArgs false
set_option maxRecDepth 100000
set_option maxHeartbeats 4000000
theorem millwrightref16_Word.ok (O : Out) (hO : GOk O) (k : Nat) (a0 : List UInt8) (a1 : List UInt8) (a2 : List UInt8) (out : List UInt8) (h : millwrightref16_Word.f k a0 a1 a2 = some out) : COk Un O Tryz.prog 101 { ar := [.p .str a0, .p .str a1, .p .str a2], r := .p .str out } := by
  refine cok_of_wp Tryz.func101 rfl (k := 20) rfl (Nat.le_of_ble_eq_true rfl) (namesOk_pure rfl rfl rfl rfl) ?_
  intro B hN
  refine WpC.conv (cvK (b := ⟨[(0, .p .str a0), (1, .p .str a1), (2, .p .str a2)], []⟩) [0, 1, 2] [] (by kernel_rfl)) ?_
  unfold millwrightref16_Word.f at h
  refine WpC.seq ?_
  refine rS {} [0, 1, 2] [] hN (by kernel_rfl) (by kernel_rfl) ?_
  refine tnU ?_
  refine WpC.seq ?_
  refine WpC.seq ?_
  obtain ⟨v1, hv1, h⟩ := bind_some h
  refine rS { its := [(2, .c (millwrightref15_Match.ok O hO k a1 a0 v1 hv1))] } [0, 2, 7, 8] [] hN (by kernel_rfl) (by kernel_rfl) ?_
  refine tnU ?_
  refine WpC.seq ?_
  refine rS {} [0, 2, 7, 15] [] hN (by kernel_rfl) (by kernel_rfl) ?_
  refine tnU ?_
  refine tS (b := v1.2) (by kernel_rfl) (fun hc2 => ?_) (fun hc2 => ?_)
  · replace h := ite_t hc2 h
    refine WpC.seq ?_
    obtain ⟨v3, hv3, h⟩ := bind_some h
    refine rS { its := [(2, .c (millwrightref15_Fill.ok O hO k a2 v1.1 v3 hv3))] } [6] [] hN (by kernel_rfl) (by kernel_rfl) ?_
    refine tnU ?_
    refine WpC.ret ?_
    refine thenQ_ret ?_
    have hq := Option.some.inj h
    subst hq
    exact eR (by kernel_rfl) (by kernel_rfl)
  · replace h := ite_f hc2 h
    refine WpC.conv (cS [.k [0] []] (by kernel_rfl) (by kernel_rfl)) (WpC.skip ?_)
    refine tnU ?_
    refine WpC.seq ?_
    refine rS {} [6] [] hN (by kernel_rfl) (by kernel_rfl) ?_
    refine tnU ?_
    refine WpC.ret ?_
    have hq := Option.some.inj h
    subst hq
    exact eR (by kernel_rfl) (by kernel_rfl)

theorem millwrightref16_List.ok (O : Out) (hO : GOk O) (k : Nat) (a0 : List (List UInt8)) (a1 : List UInt8) (a2 : List UInt8) (out : (List (List UInt8)) × Int) (h : millwrightref16_List.f k a0 a1 a2 = some out) : COk Un O Tryz.prog 69 { ar := [.p (.list .str) a0, .p .str a1, .p .str a2], r := .tup [.p (.list .str) out.1, .p I6 out.2] } := by
  refine cok_of_wp Tryz.func69 rfl (k := 32) rfl (Nat.le_of_ble_eq_true rfl) (namesOk_pure rfl rfl rfl rfl) ?_
  intro B hN
  refine WpC.conv (cvK (b := ⟨[(0, .p (.list .str) a0), (1, .p .str a1), (2, .p .str a2)], []⟩) [0, 1, 2] [] (by kernel_rfl)) ?_
  unfold millwrightref16_List.f at h
  refine WpC.seq ?_
  refine rS {} [0, 1, 2] [] hN (by kernel_rfl) (by kernel_rfl) ?_
  refine tnU ?_
  refine WpC.seq ?_
  refine rSC {} [0, 1, 2, 8] [12] hN (by kernel_rfl) (by kernel_rfl) (cS [.k [0, 1, 2, 8] [12], .x (Conv.cast (U := Un) (st := ⟨[(0, .p (.list .str) a0), (1, .p .str a1), (2, .p .str a2), (8, .vec 12 1 0 (([] : List (List UInt8)).length))], [(12, .row 9 .str ([] : List (List UInt8)) true)]⟩) (st' := ⟨[(0, .p (.list .str) a0), (1, .p .str a1), (2, .p .str a2), (8, .vec 12 1 0 0)], [(12, .row 9 .str ([] : List (List UInt8)) true)]⟩) (by simp only [upd_length, List.length_nil, List.length_replicate]))] (by kernel_rfl) (by kernel_rfl)) ?_
  refine tnU ?_
  refine sqJ (fun st' => ∃ v1 : List (List UInt8), millwrightref16_List.j2 k v1 = some out ∧ st' = ⟨[(8, .vec 1008 1 0 v1.length)], [(1008, .row 9 .str v1 false)]⟩) ?_ ?_
  · refine WpC.seq ?_
    refine rS {} [1, 2, 8, 13, 14, 15] [12] hN (by kernel_rfl) (by kernel_rfl) ?_
    refine tnU ?_
    refine WpC.block ?_
    obtain ⟨o7, hlo7, h⟩ := bind_some h
    have hout8 := h
    clear h
    refine WpC.conv (cS [.lo 12, .k [1, 2, 8, 13, 14, 15] [12], .rn 12 1008, .k [1, 2, 8, 13, 14, 15] [1008]] (by kernel_rfl) (by kernel_rfl)) ?_
    refine WpC.loop (U := Un) (fun n st' => ∃ v3 : List (List UInt8), ∃ v4 : Int, millwrightref16_List.l5 k a0 a1 a2 n v3 v4 = some o7 ∧ st' = ⟨[(1, .p .str a1), (2, .p .str a2), (8, .vec 1008 1 0 v3.length), (13, .p (.list .str) a0), (14, .p I6 ((a0.length : Int) : Int)), (15, .p I6 v4)], [(1008, .row 9 .str v3 false)]⟩) k ⟨([] : List (List UInt8)), 0, hlo7, by kernel_rfl⟩ ?_
    clear hlo7
    rintro (_ | n) _ ⟨v3, v4, h, rfl⟩
    · cases h
    · rw [millwrightref16_List.l5] at h
      refine WpC.seq ?_
      refine rS {} [1, 2, 8, 13, 14, 15, 16] [1008] hN (by kernel_rfl) (by kernel_rfl) ?_
      refine tnU ?_
      refine WpC.seq ?_
      refine tS (b := (decide (v4 < (a0.length : Int)))) (by kernel_rfl) (fun hc9 => ?_) (fun hc9 => ?_)
      · replace h := ite_t hc9 h
        refine WpC.conv (cS [.k [1, 2, 8, 13, 14, 15] [1008]] (by kernel_rfl) (by kernel_rfl)) (WpC.skip ?_)
        refine tnU ?_
        refine WpC.seq ?_
        refine WpC.block ?_
        refine WpC.seq ?_
        obtain ⟨v10, hv10, h⟩ := bind_some h
        refine rS { its := [(0, .v .str hv10)] } [1, 2, 8, 10, 13, 14, 15] [1008] hN (by kernel_rfl) (by kernel_rfl) ?_
        refine tnU ?_
        refine WpC.seq ?_
        obtain ⟨v11, hv11, h⟩ := bind_some h
        refine rS { its := [(3, .c (millwrightref16_Word.ok O hO k v10 a1 a2 v11 hv11))] } [1, 2, 8, 11, 13, 14, 15] [1008] hN (by kernel_rfl) (by kernel_rfl) ?_
        refine tnU ?_
        refine WpC.seq ?_
        refine WpC.seq ?_
        refine rS {} [1, 2, 8, 11, 13, 14, 15, 25] [1008] hN (by kernel_rfl) (by kernel_rfl) ?_
        refine tnU ?_
        refine tS (b := (decide ((v11.length : Int) > 120))) (by kernel_rfl) (fun hc12 => ?_) (fun hc12 => ?_)
        · replace h := ite_t hc12 h
          refine WpC.seq ?_
          refine rS {} [6, 7] [] hN (by kernel_rfl) (by kernel_rfl) ?_
          refine tnU ?_
          refine WpC.conv (cS [.nL 6 .str, .k [6, 7] []] (by kernel_rfl) (by kernel_rfl)) (WpC.ret ?_)
          refine thenQ_ret ?_
          refine blockQ_ret ?_
          refine thenQ_ret ?_
          have hq := Option.some.inj h
          subst hq
          refine thenQ_ret ?_
          have h := hout8
          refine blockQ_ret ?_
          refine thenQ_ret ?_
          have hq := Option.some.inj h
          subst hq
          exact eR (by kernel_rfl) (by kernel_rfl)
        · replace h := ite_f hc12 h
          refine WpC.conv (cS [.k [1, 2, 8, 11, 13, 14, 15] [1008]] (by kernel_rfl) (by kernel_rfl)) (WpC.skip ?_)
          refine tnU ?_
          obtain ⟨g13, h⟩ := if_some h
          refine rS { its := [(3, .g g13)] } [1, 2, 8, 13, 14, 15] [29] hN (by kernel_rfl) (by kernel_rfl) ?_
          refine blockQ_normal ?_
          refine tnU ?_
          refine rSC {} [1, 2, 8, 13, 14, 15] [29] hN (by kernel_rfl) (by kernel_rfl) (cS [.rn 29 1008, .k [1, 2, 8, 13, 14, 15] [1008]] (by kernel_rfl) (by kernel_rfl)) ?_
          refine tnU ?_
          exact ⟨n, Nat.lt_succ_self n, (v3 ++ [v11]), (IntKind.i64.wrap (v4 + 1)), h, by kernel_rfl⟩
      · replace h := ite_f hc9 h
        refine WpC.conv (cS [.k [8] [1008]] (by kernel_rfl) (by kernel_rfl)) (WpC.exit ?_)
        refine thenQ_exit ?_
        have hq := Option.some.inj h
        subst hq
        refine thenQ_exit ?_
        have h := hout8
        refine blockQ_hit ?_
        refine tnU ?_
        exact ⟨v3, h, by kernel_rfl⟩
  · rintro _ ⟨v1, h, rfl⟩
    unfold millwrightref16_List.j2 at h
    refine WpC.seq ?_
    refine rS {} [6, 7] [1008] hN (by kernel_rfl) (by kernel_rfl) ?_
    refine tnU ?_
    refine WpC.conv (cS [.fz 6, .k [6, 7] []] (by kernel_rfl) (by kernel_rfl)) (WpC.ret ?_)
    have hq := Option.some.inj h
    subst hq
    exact eR (by kernel_rfl) (by kernel_rfl)

theorem millwrightref17_Find.ok (O : Out) (hO : GOk O) (k : Nat) (a0 : List UInt8) (a1 : List T_expand_Output) (out : (List UInt8) × Bool) (h : millwrightref17_Find.f k a0 a1 = some out) : COk Un O Tryz.prog 13 { ar := [.p .str a0, .p (.list (.named 4)) a1], r := .tup [.p .str out.1, .p .bool out.2] } := by
  refine cok_of_wp Tryz.func13 rfl (k := 21) rfl (Nat.le_of_ble_eq_true rfl) (namesOk_pure rfl rfl rfl rfl) ?_
  intro B hN
  refine WpC.conv (cvK (b := ⟨[(0, .p .str a0), (1, .p (.list (.named 4)) a1)], []⟩) [0, 1] [] (by kernel_rfl)) ?_
  unfold millwrightref17_Find.f at h
  refine WpC.seq ?_
  refine rS {} [0, 1] [] hN (by kernel_rfl) (by kernel_rfl) ?_
  refine tnU ?_
  refine sqJ (fun st' => millwrightref17_Find.j1 k = some out ∧ st' = ⟨[], []⟩) ?_ ?_
  · refine WpC.seq ?_
    refine rS {} [0, 8, 9, 10] [] hN (by kernel_rfl) (by kernel_rfl) ?_
    refine tnU ?_
    refine WpC.block ?_
    obtain ⟨o4, hlo4, h⟩ := bind_some h
    have hout5 := h
    clear h
    refine WpC.loop (U := Un) (fun n st' => ∃ v2 : Int, millwrightref17_Find.l3 k a0 a1 n v2 = some o4 ∧ st' = ⟨[(0, .p .str a0), (8, .p (.list (.named 4)) a1), (9, .p I6 ((a1.length : Int) : Int)), (10, .p I6 v2)], []⟩) k ⟨0, hlo4, by kernel_rfl⟩ ?_
    clear hlo4
    rintro (_ | n) _ ⟨v2, h, rfl⟩
    · cases h
    · rw [millwrightref17_Find.l3] at h
      refine WpC.seq ?_
      refine rS {} [0, 8, 9, 10, 11] [] hN (by kernel_rfl) (by kernel_rfl) ?_
      refine tnU ?_
      refine WpC.seq ?_
      refine tS (b := (decide (v2 < (a1.length : Int)))) (by kernel_rfl) (fun hc6 => ?_) (fun hc6 => ?_)
      · replace h := ite_t hc6 h
        refine WpC.conv (cS [.k [0, 8, 9, 10] []] (by kernel_rfl) (by kernel_rfl)) (WpC.skip ?_)
        refine tnU ?_
        refine WpC.seq ?_
        refine WpC.block ?_
        refine WpC.seq ?_
        obtain ⟨v7, hv7, h⟩ := bind_some h
        refine rS { its := [(0, .v (.named 4) hv7)] } [0, 7, 8, 9, 10] [7] hN (by kernel_rfl) (by kernel_rfl) ?_
        refine tnU ?_
        refine WpC.seq ?_
        refine rS {} [0, 7, 8, 9, 10, 17] [7] hN (by kernel_rfl) (by kernel_rfl) ?_
        refine tnU ?_
        refine tS (b := (v7.f_Command == a0)) (by kernel_rfl) (fun hc8 => ?_) (fun hc8 => ?_)
        · replace h := ite_t hc8 h
          refine WpC.seq ?_
          refine rS {} [4, 5] [] hN (by kernel_rfl) (by kernel_rfl) ?_
          refine tnU ?_
          refine WpC.ret ?_
          refine blockQ_ret ?_
          refine thenQ_ret ?_
          have hq := Option.some.inj h
          subst hq
          refine thenQ_ret ?_
          have h := hout5
          refine blockQ_ret ?_
          refine thenQ_ret ?_
          have hq := Option.some.inj h
          subst hq
          exact eR (by kernel_rfl) (by kernel_rfl)
        · replace h := ite_f hc8 h
          refine WpC.conv (cS [.k [0, 8, 9, 10] []] (by kernel_rfl) (by kernel_rfl)) (WpC.skip ?_)
          refine blockQ_normal ?_
          refine tnU ?_
          refine rS {} [0, 8, 9, 10] [] hN (by kernel_rfl) (by kernel_rfl) ?_
          refine tnU ?_
          exact ⟨n, Nat.lt_succ_self n, (IntKind.i64.wrap (v2 + 1)), h, by kernel_rfl⟩
      · replace h := ite_f hc6 h
        refine WpC.conv (cS [.k [] []] (by kernel_rfl) (by kernel_rfl)) (WpC.exit ?_)
        refine thenQ_exit ?_
        have hq := Option.some.inj h
        subst hq
        refine thenQ_exit ?_
        have h := hout5
        refine blockQ_hit ?_
        refine tnU ?_
        exact ⟨h, by kernel_rfl⟩
  · rintro _ ⟨h, rfl⟩
    unfold millwrightref17_Find.j1 at h
    refine WpC.seq ?_
    refine rS {} [4, 5] [] hN (by kernel_rfl) (by kernel_rfl) ?_
    refine tnU ?_
    refine WpC.ret ?_
    have hq := Option.some.inj h
    subst hq
    exact eR (by kernel_rfl) (by kernel_rfl)

theorem millwrightref11_Blank.ok (O : Out) (hO : GOk O) (k : Nat) (a0 : Int) (out : Bool) (h : millwrightref11_Blank.f k a0 = some out) : COk Un O Tryz.prog 54 { ar := [.p (.int .u8) a0], r := .p .bool out } := by
  refine cok_of_wp Tryz.func54 rfl (k := 13) rfl (Nat.le_of_ble_eq_true rfl) (namesOk_pure rfl rfl rfl rfl) ?_
  intro B hN
  refine WpC.conv (cvK (b := ⟨[(0, .p (.int .u8) a0)], []⟩) [0] [] (by kernel_rfl)) ?_
  unfold millwrightref11_Blank.f at h
  refine WpC.seq ?_
  refine rS {} [0] [] hN (by kernel_rfl) (by kernel_rfl) ?_
  refine tnU ?_
  refine WpC.seq ?_
  rcases bool_cases (a0 == 32) with hc1 | hc1
  · replace h := ite_t hc1 h
    refine rS { kn := [(5, .t hc1)] } [2] [] hN (by kernel_rfl) (by kernel_rfl) ?_
    refine tnU ?_
    refine WpC.ret ?_
    have hq := Option.some.inj h
    subst hq
    exact eR (by kernel_rfl) (by kernel_rfl)
  · replace h := ite_f hc1 h
    rcases bool_cases (a0 == 9) with hc2 | hc2
    · replace h := ite_t hc2 h
      refine rS { kn := [(5, .f hc1), (9, .t hc2)] } [2] [] hN (by kernel_rfl) (by kernel_rfl) ?_
      refine tnU ?_
      refine WpC.ret ?_
      have hq := Option.some.inj h
      subst hq
      exact eR (by kernel_rfl) (by kernel_rfl)
    · replace h := ite_f hc2 h
      refine rS { kn := [(5, .f hc1), (9, .f hc2)] } [2] [] hN (by kernel_rfl) (by kernel_rfl) ?_
      refine tnU ?_
      refine WpC.ret ?_
      have hq := Option.some.inj h
      subst hq
      exact eR (by kernel_rfl) (by kernel_rfl)

theorem millwrightref11_Fields.ok (O : Out) (hO : GOk O) (k : Nat) (a0 : List UInt8) (out : List (List UInt8)) (h : millwrightref11_Fields.f k a0 = some out) : COk Un O Tryz.prog 70 { ar := [.p .str a0], r := .p (.list .str) out } := by
  refine cok_of_wp Tryz.func70 rfl (k := 39) rfl (Nat.le_of_ble_eq_true rfl) (namesOk_pure rfl rfl rfl rfl) ?_
  intro B hN
  refine WpC.conv (cvK (b := ⟨[(0, .p .str a0)], []⟩) [0] [] (by kernel_rfl)) ?_
  unfold millwrightref11_Fields.f at h
  refine WpC.seq ?_
  refine rS {} [0] [] hN (by kernel_rfl) (by kernel_rfl) ?_
  refine tnU ?_
  refine WpC.seq ?_
  refine rSC {} [0, 3] [6] hN (by kernel_rfl) (by kernel_rfl) (cS [.k [0, 3] [6], .x (Conv.cast (U := Un) (st := ⟨[(0, .p .str a0), (3, .vec 6 1 0 (([] : List (List UInt8)).length))], [(6, .row 9 .str ([] : List (List UInt8)) true)]⟩) (st' := ⟨[(0, .p .str a0), (3, .vec 6 1 0 0)], [(6, .row 9 .str ([] : List (List UInt8)) true)]⟩) (by simp only [upd_length, List.length_nil, List.length_replicate]))] (by kernel_rfl) (by kernel_rfl)) ?_
  refine tnU ?_
  refine WpC.seq ?_
  refine rS {} [0, 3, 4] [6] hN (by kernel_rfl) (by kernel_rfl) ?_
  refine tnU ?_
  refine sqJ (fun st' => ∃ v1 : List (List UInt8), millwrightref11_Fields.j2 k v1 = some out ∧ st' = ⟨[(3, .vec 1003 1 0 v1.length)], [(1003, .row 9 .str v1 false)]⟩) ?_ ?_
  · refine WpC.seq ?_
    refine rS {} [0, 3, 4, 5] [6] hN (by kernel_rfl) (by kernel_rfl) ?_
    refine tnU ?_
    refine WpC.block ?_
    obtain ⟨o8, hlo8, h⟩ := bind_some h
    have hout9 := h
    clear h
    refine WpC.conv (cS [.lo 6, .k [0, 3, 4, 5] [6], .rn 6 1003, .k [0, 3, 4, 5] [1003]] (by kernel_rfl) (by kernel_rfl)) ?_
    refine WpC.loop (U := Un) (fun n st' => ∃ v3 : List (List UInt8), ∃ v4 : List UInt8, ∃ v5 : Int, millwrightref11_Fields.l6 k a0 n v3 v4 v5 = some o8 ∧ st' = ⟨[(0, .p .str a0), (3, .vec 1003 1 0 v3.length), (4, .p .str v4), (5, .p I6 v5)], [(1003, .row 9 .str v3 false)]⟩) k ⟨([] : List (List UInt8)), ([] : List UInt8), 0, hlo8, by kernel_rfl⟩ ?_
    clear hlo8
    rintro (_ | n) _ ⟨v3, v4, v5, h, rfl⟩
    · cases h
    · rw [millwrightref11_Fields.l6] at h
      refine WpC.seq ?_
      refine WpC.seq ?_
      refine rS {} [0, 3, 4, 5, 10] [1003] hN (by kernel_rfl) (by kernel_rfl) ?_
      refine tnU ?_
      refine tS (b := (decide (v5 ≤ (a0.length : Int)))) (by kernel_rfl) (fun hc10 => ?_) (fun hc10 => ?_)
      · replace h := ite_t hc10 h
        refine WpC.conv (cS [.k [0, 3, 4, 5] [1003]] (by kernel_rfl) (by kernel_rfl)) (WpC.skip ?_)
        refine tnU ?_
        refine sqJ (fun st' => ∃ v11 : List (List UInt8), ∃ v12 : List UInt8, millwrightref11_Fields.j13 k (millwrightref11_Fields.l6 k a0 n) a0 v5 v11 v12 = some o8 ∧ st' = ⟨[(0, .p .str a0), (3, .vec 1003 1 0 v11.length), (4, .p .str v12), (5, .p I6 v5)], [(1003, .row 9 .str v11 false)]⟩) ?_ ?_
        · refine WpC.block ?_
          refine sqJ (fun st' => millwrightref11_Fields.j18 k (millwrightref11_Fields.l6 k a0 n) a0 v3 v4 v5 = some o8 ∧ st' = ⟨[(0, .p .str a0), (3, .vec 1003 1 0 v3.length), (4, .p .str v4), (5, .p I6 v5)], [(1003, .row 9 .str v3 false)]⟩) ?_ ?_
          · refine sqJ (fun st' => ∃ v19 : Bool, millwrightref11_Fields.j23 k (millwrightref11_Fields.l6 k a0 n) a0 v3 v4 v5 v19 = some o8 ∧ st' = ⟨[(0, .p .str a0), (3, .vec 1003 1 0 v3.length), (4, .p .str v4), (5, .p I6 v5), (23, .p .bool v19)], [(1003, .row 9 .str v3 false)]⟩) ?_ ?_
            · rcases bool_cases (decide (v5 < (a0.length : Int))) with hc24 | hc24
              · replace h := ite_t hc24 h
                obtain ⟨v25, hv25, h⟩ := bind_some h
                obtain ⟨v26, hv26, h⟩ := bind_some h
                refine rS { its := [(7, .u hv25), (8, .c (millwrightref11_Blank.ok O hO k (v25.toNat : Int) v26 hv26))], kn := [(17, .t hc24)] } [0, 3, 4, 5, 23] [1003] hN (by kernel_rfl) (by kernel_rfl) ?_
                refine tnU ?_
                exact ⟨(!v26), h, by kernel_rfl⟩
              · replace h := ite_f hc24 h
                refine rS { kn := [(17, .f hc24)] } [0, 3, 4, 5, 23] [1003] hN (by kernel_rfl) (by kernel_rfl) ?_
                refine tnU ?_
                exact ⟨false, h, by kernel_rfl⟩
            · rintro _ ⟨v19, h, rfl⟩
              unfold millwrightref11_Fields.j23 at h
              refine tS (b := v19) (by kernel_rfl) (fun hc20 => ?_) (fun hc20 => ?_)
              · replace h := ite_t hc20 h
                refine WpC.seq ?_
                obtain ⟨v21, hv21, h⟩ := bind_some h
                obtain ⟨g22, h⟩ := if_some h
                refine rS { its := [(5, .v .str hv21), (6, .g g22)] } [0, 3, 4, 5] [1003] hN (by kernel_rfl) (by kernel_rfl) ?_
                refine tnU ?_
                refine WpC.exit ?_
                refine thenQ_exit ?_
                refine blockQ_hit ?_
                refine tnU ?_
                exact ⟨v3, (v4 ++ v21), h, by kernel_rfl⟩
              · replace h := ite_f hc20 h
                refine WpC.conv (cS [.k [0, 3, 4, 5] [1003]] (by kernel_rfl) (by kernel_rfl)) (WpC.skip ?_)
                refine tnU ?_
                exact ⟨h, by kernel_rfl⟩
          · rintro _ ⟨h, rfl⟩
            unfold millwrightref11_Fields.j18 at h
            refine sqJ (fun st' => ∃ v14 : List (List UInt8), millwrightref11_Fields.j15 k (millwrightref11_Fields.l6 k a0 n) a0 v5 v14 = some o8 ∧ st' = ⟨[(0, .p .str a0), (3, .vec 1003 1 0 v14.length), (5, .p I6 v5)], [(1003, .row 9 .str v14 false)]⟩) ?_ ?_
            · refine WpC.seq ?_
              refine rS {} [0, 3, 4, 5, 33] [1003] hN (by kernel_rfl) (by kernel_rfl) ?_
              refine tnU ?_
              refine tS (b := (decide ((v4.length : Int) > 0))) (by kernel_rfl) (fun hc16 => ?_) (fun hc16 => ?_)
              · replace h := ite_t hc16 h
                obtain ⟨g17, h⟩ := if_some h
                refine rSC { its := [(3, .g g17)] } [0, 3, 5] [37] hN (by kernel_rfl) (by kernel_rfl) (cS [.rn 37 1003, .k [0, 3, 5] [1003]] (by kernel_rfl) (by kernel_rfl)) ?_
                refine tnU ?_
                exact ⟨(v3 ++ [v4]), h, by kernel_rfl⟩
              · replace h := ite_f hc16 h
                refine WpC.conv (cS [.k [0, 3, 5] [1003]] (by kernel_rfl) (by kernel_rfl)) (WpC.skip ?_)
                refine tnU ?_
                exact ⟨v3, h, by kernel_rfl⟩
            · rintro _ ⟨v14, h, rfl⟩
              unfold millwrightref11_Fields.j15 at h
              refine rS {} [0, 3, 4, 5] [1003] hN (by kernel_rfl) (by kernel_rfl) ?_
              refine blockQ_normal ?_
              refine tnU ?_
              exact ⟨v14, ([] : List UInt8), h, by kernel_rfl⟩
        · rintro _ ⟨v11, v12, h, rfl⟩
          unfold millwrightref11_Fields.j13 at h
          refine rS {} [0, 3, 4, 5] [1003] hN (by kernel_rfl) (by kernel_rfl) ?_
          refine tnU ?_
          exact ⟨n, Nat.lt_succ_self n, v11, v12, (IntKind.i64.wrap (v5 + 1)), h, by kernel_rfl⟩
      · replace h := ite_f hc10 h
        refine WpC.conv (cS [.k [3] [1003]] (by kernel_rfl) (by kernel_rfl)) (WpC.exit ?_)
        refine thenQ_exit ?_
        have hq := Option.some.inj h
        subst hq
        refine thenQ_exit ?_
        have h := hout9
        refine blockQ_hit ?_
        refine tnU ?_
        exact ⟨v3, h, by kernel_rfl⟩
  · rintro _ ⟨v1, h, rfl⟩
    unfold millwrightref11_Fields.j2 at h
    refine WpC.seq ?_
    refine rS {} [2] [1003] hN (by kernel_rfl) (by kernel_rfl) ?_
    refine tnU ?_
    refine WpC.conv (cS [.fz 2, .k [2] []] (by kernel_rfl) (by kernel_rfl)) (WpC.ret ?_)
    have hq := Option.some.inj h
    subst hq
    exact eR (by kernel_rfl) (by kernel_rfl)

theorem millwrightref17_piece_m0.ok (O : Out) (hO : GOk O) (k : Nat) (a0 : T_lex_Piece) (a1 : List T_env_Var) (a2 : List T_expand_Output) (out : (List (List UInt8)) × Int) (h : millwrightref17_piece_m0.f k a0 a1 a2 = some out) : COk Un O Tryz.prog 45 { ar := [.p (.named 5) a0, .loc 100000 0, .p (.list (.named 4)) a2], r := .tup [.p (.list .str) out.1, .p I6 out.2], bs := [(100000, .box [.p (.list (.named 3)) a1])], bs' := [(100000, .box [.p (.list (.named 3)) a1])] } := by
  refine cok_of_wp Tryz.func45 rfl (k := 56) rfl (Nat.le_of_ble_eq_true rfl) (namesOk_of (by kernel_rfl)) ?_
  intro B hN
  refine WpC.conv (cvK (b := ⟨[(0, .p (.named 5) a0), (1, .loc 100000 0), (2, .p (.list (.named 4)) a2)], [(100000, .box [.p (.list (.named 3)) a1])]⟩) [0, 1, 2] [100000] (by kernel_rfl)) ?_
  unfold millwrightref17_piece_m0.f at h
  refine WpC.seq ?_
  refine rS {} [1, 2, 3] [3, 100000] hN (by kernel_rfl) (by kernel_rfl) ?_
  refine tnU ?_
  refine sqJ (fun st' => millwrightref17_piece_m0.j10 k a0 a1 a2 = some out ∧ st' = ⟨[(1, .loc 100000 0), (2, .p (.list (.named 4)) a2), (3, .loc 3 0)], [(3, .box [.p I6 a0.f_Kind, .p .str a0.f_Text, .p .str a0.f_From, .p .str a0.f_To]), (100000, .box [.p (.list (.named 3)) a1])]⟩) ?_ ?_
  · refine sqJ (fun st' => ∃ v11 : Bool, millwrightref17_piece_m0.j13 k a0 a1 a2 v11 = some out ∧ st' = ⟨[(1, .loc 100000 0), (2, .p (.list (.named 4)) a2), (3, .loc 3 0), (17, .p .bool v11)], [(3, .box [.p I6 a0.f_Kind, .p .str a0.f_Text, .p .str a0.f_From, .p .str a0.f_To]), (100000, .box [.p (.list (.named 3)) a1])]⟩) ?_ ?_
    · rcases bool_cases (a0.f_Kind == 0) with hc14 | hc14
      · replace h := ite_t hc14 h
        refine rS { kn := [(13, .t hc14)] } [1, 2, 3, 17] [3, 100000] hN (by kernel_rfl) (by kernel_rfl) ?_
        refine tnU ?_
        exact ⟨true, h, by kernel_rfl⟩
      · replace h := ite_f hc14 h
        refine rS { kn := [(13, .f hc14)] } [1, 2, 3, 17] [3, 100000] hN (by kernel_rfl) (by kernel_rfl) ?_
        refine tnU ?_
        exact ⟨(a0.f_Kind == 1), h, by kernel_rfl⟩
    · rintro _ ⟨v11, h, rfl⟩
      unfold millwrightref17_piece_m0.j13 at h
      refine tS (b := v11) (by kernel_rfl) (fun hc12 => ?_) (fun hc12 => ?_)
      · replace h := ite_t hc12 h
        refine WpC.seq ?_
        refine rS {} [6, 7] [20, 100000] hN (by kernel_rfl) (by kernel_rfl) ?_
        refine tnU ?_
        refine WpC.conv (cS [.fz 6, .k [6, 7] [100000]] (by kernel_rfl) (by kernel_rfl)) (WpC.ret ?_)
        refine thenQ_ret ?_
        have hq := Option.some.inj h
        subst hq
        exact eR (by kernel_rfl) (by kernel_rfl)
      · replace h := ite_f hc12 h
        refine WpC.conv (cS [.k [1, 2, 3] [3, 100000]] (by kernel_rfl) (by kernel_rfl)) (WpC.skip ?_)
        refine tnU ?_
        exact ⟨h, by kernel_rfl⟩
  · rintro _ ⟨h, rfl⟩
    unfold millwrightref17_piece_m0.j10 at h
    refine WpC.seq ?_
    refine WpC.seq ?_
    refine rS {} [1, 2, 3, 23] [3, 100000] hN (by kernel_rfl) (by kernel_rfl) ?_
    refine tnU ?_
    refine tS (b := (a0.f_Kind == 2)) (by kernel_rfl) (fun hc1 => ?_) (fun hc1 => ?_)
    · replace h := ite_t hc1 h
      refine WpC.seq ?_
      obtain ⟨v2, hv2, h⟩ := bind_some h
      refine rS { its := [(3, .c (COk.ren (millwrightref14_Env_Get_m0.ok O hO k a1 a0.f_Text v2 hv2) (fun n => if n = 100000 then 100000 else n) (injOn_of (by kernel_rfl))))] } [6, 7] [100000] hN (by kernel_rfl) (by kernel_rfl) ?_
      refine tnU ?_
      refine WpC.ret ?_
      refine thenQ_ret ?_
      have hq := Option.some.inj h
      subst hq
      exact eR (by kernel_rfl) (by kernel_rfl)
    · replace h := ite_f hc1 h
      refine WpC.conv (cS [.k [1, 2, 3] [3, 100000]] (by kernel_rfl) (by kernel_rfl)) (WpC.skip ?_)
      refine tnU ?_
      refine WpC.seq ?_
      refine WpC.seq ?_
      refine rS {} [1, 2, 3, 30] [3, 100000] hN (by kernel_rfl) (by kernel_rfl) ?_
      refine tnU ?_
      refine tS (b := (a0.f_Kind == 3)) (by kernel_rfl) (fun hc3 => ?_) (fun hc3 => ?_)
      · replace h := ite_t hc3 h
        refine WpC.seq ?_
        obtain ⟨v4, hv4, h⟩ := bind_some h
        obtain ⟨v5, hv5, h⟩ := bind_some h
        refine rA { its := [(3, .c (COk.ren (millwrightref14_Env_Get_m0.ok O hO k a1 a0.f_Text v4 hv4) (fun n => if n = 100000 then 100000 else n) (injOn_of (by kernel_rfl)))), (8, .c (millwrightref16_List.ok O hO k v4 a0.f_From a0.f_To v5 hv5))] } [6, 7] [100000] hN (by kernel_rfl) (by kernel_rfl) (by kernel_rfl) ?_
        refine tnU ?_
        refine WpC.ret ?_
        refine thenQ_ret ?_
        have hq := Option.some.inj h
        subst hq
        exact eR (by kernel_rfl) (by kernel_rfl)
      · replace h := ite_f hc3 h
        refine WpC.conv (cS [.k [2, 3] [3, 100000]] (by kernel_rfl) (by kernel_rfl)) (WpC.skip ?_)
        refine tnU ?_
        refine WpC.seq ?_
        refine WpC.seq ?_
        refine rS {} [2, 3, 44] [3, 100000] hN (by kernel_rfl) (by kernel_rfl) ?_
        refine tnU ?_
        refine tS (b := (a0.f_Kind != 4)) (by kernel_rfl) (fun hc6 => ?_) (fun hc6 => ?_)
        · replace h := ite_t hc6 h
          refine WpC.seq ?_
          refine rS {} [6, 7] [100000] hN (by kernel_rfl) (by kernel_rfl) ?_
          refine tnU ?_
          refine WpC.conv (cS [.nL 6 .str, .k [6, 7] [100000]] (by kernel_rfl) (by kernel_rfl)) (WpC.ret ?_)
          refine thenQ_ret ?_
          have hq := Option.some.inj h
          subst hq
          exact eR (by kernel_rfl) (by kernel_rfl)
        · replace h := ite_f hc6 h
          refine WpC.conv (cS [.k [2, 3] [3, 100000]] (by kernel_rfl) (by kernel_rfl)) (WpC.skip ?_)
          refine tnU ?_
          refine WpC.seq ?_
          obtain ⟨v7, hv7, h⟩ := bind_some h
          refine rS { its := [(3, .c (millwrightref17_Find.ok O hO k a0.f_Text a2 v7 hv7))] } [8, 9] [100000] hN (by kernel_rfl) (by kernel_rfl) ?_
          refine tnU ?_
          refine WpC.seq ?_
          refine WpC.seq ?_
          refine rS {} [8, 53] [100000] hN (by kernel_rfl) (by kernel_rfl) ?_
          refine tnU ?_
          refine tS (b := (!v7.2)) (by kernel_rfl) (fun hc8 => ?_) (fun hc8 => ?_)
          · replace h := ite_t hc8 h
            refine WpC.seq ?_
            refine rS {} [6, 7] [100000] hN (by kernel_rfl) (by kernel_rfl) ?_
            refine tnU ?_
            refine WpC.conv (cS [.nL 6 .str, .k [6, 7] [100000]] (by kernel_rfl) (by kernel_rfl)) (WpC.ret ?_)
            refine thenQ_ret ?_
            have hq := Option.some.inj h
            subst hq
            exact eR (by kernel_rfl) (by kernel_rfl)
          · replace h := ite_f hc8 h
            refine WpC.conv (cS [.k [8] [100000]] (by kernel_rfl) (by kernel_rfl)) (WpC.skip ?_)
            refine tnU ?_
            refine WpC.seq ?_
            obtain ⟨v9, hv9, h⟩ := bind_some h
            refine rS { its := [(1, .c (millwrightref11_Fields.ok O hO k v7.1 v9 hv9))] } [6, 7] [100000] hN (by kernel_rfl) (by kernel_rfl) ?_
            refine tnU ?_
            refine WpC.ret ?_
            have hq := Option.some.inj h
            subst hq
            exact eR (by kernel_rfl) (by kernel_rfl)

theorem millwrightref17_Word_m0.ok (O : Out) (hO : GOk O) (k : Nat) (a0 : List T_lex_Piece) (a1 : List T_env_Var) (a2 : List T_expand_Output) (out : (List (List UInt8)) × Int) (h : millwrightref17_Word_m0.f k a0 a1 a2 = some out) : COk Un O Tryz.prog 27 { ar := [.p (.list (.named 5)) a0, .loc 100000 0, .p (.list (.named 4)) a2], r := .tup [.p (.list .str) out.1, .p I6 out.2], bs := [(100000, .box [.p (.list (.named 3)) a1])], bs' := [(100000, .box [.p (.list (.named 3)) a1])] } := by
  refine cok_of_wp Tryz.func27 rfl (k := 90) rfl (Nat.le_of_ble_eq_true rfl) (namesOk_of (by kernel_rfl)) ?_
  intro B hN
  refine WpC.conv (cvK (b := ⟨[(0, .p (.list (.named 5)) a0), (1, .loc 100000 0), (2, .p (.list (.named 4)) a2)], [(100000, .box [.p (.list (.named 3)) a1])]⟩) [0, 1, 2] [100000] (by kernel_rfl)) ?_
  unfold millwrightref17_Word_m0.f at h
  refine WpC.seq ?_
  refine rS {} [0, 1, 2] [100000] hN (by kernel_rfl) (by kernel_rfl) ?_
  refine tnU ?_
  refine WpC.seq ?_
  refine rSC {} [0, 1, 2, 8] [19, 100000] hN (by kernel_rfl) (by kernel_rfl) (cS [.k [0, 1, 2, 8] [19, 100000], .x (Conv.cast (U := Un) (st := ⟨[(0, .p (.list (.named 5)) a0), (1, .loc 100000 0), (2, .p (.list (.named 4)) a2), (8, .vec 19 1 0 (([] : List (List UInt8)).length))], [(19, .row 9 .str ([] : List (List UInt8)) true), (100000, .box [.p (.list (.named 3)) a1])]⟩) (st' := ⟨[(0, .p (.list (.named 5)) a0), (1, .loc 100000 0), (2, .p (.list (.named 4)) a2), (8, .vec 19 1 0 0)], [(19, .row 9 .str ([] : List (List UInt8)) true), (100000, .box [.p (.list (.named 3)) a1])]⟩) (by simp only [upd_length, List.length_nil, List.length_replicate]))] (by kernel_rfl) (by kernel_rfl)) ?_
  refine tnU ?_
  refine WpC.seq ?_
  refine rS {} [0, 1, 2, 8, 9] [19, 100000] hN (by kernel_rfl) (by kernel_rfl) ?_
  refine tnU ?_
  refine WpC.seq ?_
  refine rS {} [0, 1, 2, 8, 9, 10] [19, 100000] hN (by kernel_rfl) (by kernel_rfl) ?_
  refine tnU ?_
  refine sqJ (fun st' => ∃ v1 : List (List UInt8), ∃ v2 : List UInt8, ∃ v3 : Bool, millwrightref17_Word_m0.j23 k a1 v1 v2 v3 = some out ∧ st' = ⟨[(8, .vec 1008 1 0 v1.length), (9, .p .str v2), (10, .p .bool v3)], [(1008, .row 9 .str v1 false), (100000, .box [.p (.list (.named 3)) a1])]⟩) ?_ ?_
  · refine WpC.seq ?_
    refine rS {} [1, 2, 8, 9, 10, 20, 21, 22] [19, 100000] hN (by kernel_rfl) (by kernel_rfl) ?_
    refine tnU ?_
    refine WpC.block ?_
    obtain ⟨o32, hlo32, h⟩ := bind_some h
    have hout33 := h
    clear h
    refine WpC.conv (cS [.lo 19, .k [1, 2, 8, 9, 10, 20, 21, 22] [19, 100000], .rn 19 1008, .k [1, 2, 8, 9, 10, 20, 21, 22] [1008, 100000]] (by kernel_rfl) (by kernel_rfl)) ?_
    refine WpC.loop (U := Un) (fun n st' => ∃ v24 : List (List UInt8), ∃ v25 : List UInt8, ∃ v26 : Bool, ∃ v27 : Int, millwrightref17_Word_m0.l28 k a0 a1 a2 n v24 v25 v26 v27 = some o32 ∧ st' = ⟨[(1, .loc 100000 0), (2, .p (.list (.named 4)) a2), (8, .vec 1008 1 0 v24.length), (9, .p .str v25), (10, .p .bool v26), (20, .p (.list (.named 5)) a0), (21, .p I6 ((a0.length : Int) : Int)), (22, .p I6 v27)], [(1008, .row 9 .str v24 false), (100000, .box [.p (.list (.named 3)) a1])]⟩) k ⟨([] : List (List UInt8)), ([] : List UInt8), false, 0, hlo32, by kernel_rfl⟩ ?_
    clear hlo32
    rintro (_ | n) _ ⟨v24, v25, v26, v27, h, rfl⟩
    · cases h
    · rw [millwrightref17_Word_m0.l28] at h
      refine WpC.seq ?_
      refine rS {} [1, 2, 8, 9, 10, 20, 21, 22, 23] [1008, 100000] hN (by kernel_rfl) (by kernel_rfl) ?_
      refine tnU ?_
      refine WpC.seq ?_
      refine tS (b := (decide (v27 < (a0.length : Int)))) (by kernel_rfl) (fun hc34 => ?_) (fun hc34 => ?_)
      · replace h := ite_t hc34 h
        refine WpC.conv (cS [.k [1, 2, 8, 9, 10, 20, 21, 22] [1008, 100000]] (by kernel_rfl) (by kernel_rfl)) (WpC.skip ?_)
        refine tnU ?_
        refine sqJ (fun st' => ∃ v35 : List (List UInt8), ∃ v36 : List UInt8, ∃ v37 : Bool, millwrightref17_Word_m0.j38 k (millwrightref17_Word_m0.l28 k a0 a1 a2 n) a0 a1 a2 v27 v35 v36 v37 = some o32 ∧ st' = ⟨[(1, .loc 100000 0), (2, .p (.list (.named 4)) a2), (8, .vec 1008 1 0 v35.length), (9, .p .str v36), (10, .p .bool v37), (20, .p (.list (.named 5)) a0), (21, .p I6 ((a0.length : Int) : Int)), (22, .p I6 v27)], [(1008, .row 9 .str v35 false), (100000, .box [.p (.list (.named 3)) a1])]⟩) ?_ ?_
        · refine WpC.block ?_
          refine WpC.seq ?_
          obtain ⟨v39, hv39, h⟩ := bind_some h
          refine rS { its := [(0, .v (.named 5) hv39)] } [1, 2, 8, 9, 10, 12, 20, 21, 22] [12, 1008, 100000] hN (by kernel_rfl) (by kernel_rfl) ?_
          refine tnU ?_
          refine WpC.seq ?_
          obtain ⟨v40, hv40, h⟩ := bind_some h
          refine rS { its := [(3, .c (COk.ren (millwrightref17_piece_m0.ok O hO k (T_lex_Piece.mk v39.f_Kind v39.f_Text v39.f_From v39.f_To) a1 a2 v40 hv40) (fun n => if n = 100000 then 100000 else n) (injOn_of (by kernel_rfl))))] } [1, 2, 8, 9, 10, 12, 13, 14, 20, 21, 22] [12, 1008, 100000] hN (by kernel_rfl) (by kernel_rfl) ?_
          refine tnU ?_
          refine WpC.seq ?_
          refine WpC.seq ?_
          refine rS {} [1, 2, 8, 9, 10, 12, 13, 14, 20, 21, 22, 34] [12, 1008, 100000] hN (by kernel_rfl) (by kernel_rfl) ?_
          refine tnU ?_
          refine tS (b := (v40.2 != 0)) (by kernel_rfl) (fun hc41 => ?_) (fun hc41 => ?_)
          · replace h := ite_t hc41 h
            refine WpC.seq ?_
            refine rS {} [6, 7] [100000] hN (by kernel_rfl) (by kernel_rfl) ?_
            refine tnU ?_
            refine WpC.conv (cS [.nL 6 .str, .k [6, 7] [100000]] (by kernel_rfl) (by kernel_rfl)) (WpC.ret ?_)
            refine thenQ_ret ?_
            refine blockQ_ret ?_
            refine thenQ_ret ?_
            have hq := Option.some.inj h
            subst hq
            refine thenQ_ret ?_
            have h := hout33
            refine blockQ_ret ?_
            refine thenQ_ret ?_
            have hq := Option.some.inj h
            subst hq
            exact eR (by kernel_rfl) (by kernel_rfl)
          · replace h := ite_f hc41 h
            refine WpC.conv (cS [.k [1, 2, 8, 9, 10, 12, 13, 20, 21, 22] [12, 1008, 100000]] (by kernel_rfl) (by kernel_rfl)) (WpC.skip ?_)
            refine tnU ?_
            refine sqJ (fun st' => ∃ v42 : List (List UInt8), ∃ v43 : List UInt8, millwrightref17_Word_m0.j45 k (millwrightref17_Word_m0.l28 k a0 a1 a2 n) a0 a1 a2 v26 v27 v39 v42 v43 = some o32 ∧ st' = ⟨[(1, .loc 100000 0), (2, .p (.list (.named 4)) a2), (8, .vec 1008 1 0 v42.length), (9, .p .str v43), (10, .p .bool v26), (12, .loc 12 0), (20, .p (.list (.named 5)) a0), (21, .p I6 ((a0.length : Int) : Int)), (22, .p I6 v27)], [(12, .box [.p I6 v39.f_Kind, .p .str v39.f_Text, .p .str v39.f_From, .p .str v39.f_To]), (1008, .row 9 .str v42 false), (100000, .box [.p (.list (.named 3)) a1])]⟩) ?_ ?_
            · refine WpC.seq ?_
              refine rS {} [1, 2, 8, 9, 10, 12, 20, 21, 22, 36, 37, 38] [12, 1008, 100000] hN (by kernel_rfl) (by kernel_rfl) ?_
              refine tnU ?_
              refine WpC.block ?_
              obtain ⟨o52, hlo52, h⟩ := bind_some h
              have hout53 := h
              clear h
              refine WpC.loop (U := Un) (fun n st' => ∃ v46 : List (List UInt8), ∃ v47 : List UInt8, ∃ v48 : Int, millwrightref17_Word_m0.l49 k a0 a1 a2 v26 v27 v39 v40 n v46 v47 v48 = some o52 ∧ st' = ⟨[(1, .loc 100000 0), (2, .p (.list (.named 4)) a2), (8, .vec 1008 1 0 v46.length), (9, .p .str v47), (10, .p .bool v26), (12, .loc 12 0), (20, .p (.list (.named 5)) a0), (21, .p I6 ((a0.length : Int) : Int)), (22, .p I6 v27), (36, .p (.list .str) v40.1), (37, .p I6 ((v40.1.length : Int) : Int)), (38, .p I6 v48)], [(12, .box [.p I6 v39.f_Kind, .p .str v39.f_Text, .p .str v39.f_From, .p .str v39.f_To]), (1008, .row 9 .str v46 false), (100000, .box [.p (.list (.named 3)) a1])]⟩) k ⟨v24, v25, 0, hlo52, by kernel_rfl⟩ ?_
              clear hlo52
              rintro (_ | n) _ ⟨v46, v47, v48, h, rfl⟩
              · cases h
              · rw [millwrightref17_Word_m0.l49] at h
                refine WpC.seq ?_
                refine rS {} [1, 2, 8, 9, 10, 12, 20, 21, 22, 36, 37, 38, 39] [12, 1008, 100000] hN (by kernel_rfl) (by kernel_rfl) ?_
                refine tnU ?_
                refine WpC.seq ?_
                refine tS (b := (decide (v48 < (v40.1.length : Int)))) (by kernel_rfl) (fun hc54 => ?_) (fun hc54 => ?_)
                · replace h := ite_t hc54 h
                  refine WpC.conv (cS [.k [1, 2, 8, 9, 10, 12, 20, 21, 22, 36, 37, 38] [12, 1008, 100000]] (by kernel_rfl) (by kernel_rfl)) (WpC.skip ?_)
                  refine tnU ?_
                  refine sqJ (fun st' => ∃ v55 : List (List UInt8), ∃ v56 : List UInt8, millwrightref17_Word_m0.j57 k (millwrightref17_Word_m0.l49 k a0 a1 a2 v26 v27 v39 v40 n) a0 a1 a2 v26 v27 v39 v40 v48 v55 v56 = some o52 ∧ st' = ⟨[(1, .loc 100000 0), (2, .p (.list (.named 4)) a2), (8, .vec 1008 1 0 v55.length), (9, .p .str v56), (10, .p .bool v26), (12, .loc 12 0), (20, .p (.list (.named 5)) a0), (21, .p I6 ((a0.length : Int) : Int)), (22, .p I6 v27), (36, .p (.list .str) v40.1), (37, .p I6 ((v40.1.length : Int) : Int)), (38, .p I6 v48)], [(12, .box [.p I6 v39.f_Kind, .p .str v39.f_Text, .p .str v39.f_From, .p .str v39.f_To]), (1008, .row 9 .str v55 false), (100000, .box [.p (.list (.named 3)) a1])]⟩) ?_ ?_
                  · refine WpC.block ?_
                    refine WpC.seq ?_
                    obtain ⟨v58, hv58, h⟩ := bind_some h
                    refine rS { its := [(1, .v .str hv58)] } [1, 2, 8, 9, 10, 12, 15, 16, 20, 21, 22, 36, 37, 38] [12, 1008, 100000] hN (by kernel_rfl) (by kernel_rfl) ?_
                    refine tnU ?_
                    refine sqJ (fun st' => ∃ v59 : List (List UInt8), ∃ v60 : List UInt8, millwrightref17_Word_m0.j62 k (millwrightref17_Word_m0.l49 k a0 a1 a2 v26 v27 v39 v40 n) a0 a1 a2 v26 v27 v39 v40 v48 v58 v59 v60 = some o52 ∧ st' = ⟨[(1, .loc 100000 0), (2, .p (.list (.named 4)) a2), (8, .vec 1008 1 0 v59.length), (9, .p .str v60), (10, .p .bool v26), (12, .loc 12 0), (16, .p .str v58), (20, .p (.list (.named 5)) a0), (21, .p I6 ((a0.length : Int) : Int)), (22, .p I6 v27), (36, .p (.list .str) v40.1), (37, .p I6 ((v40.1.length : Int) : Int)), (38, .p I6 v48)], [(12, .box [.p I6 v39.f_Kind, .p .str v39.f_Text, .p .str v39.f_From, .p .str v39.f_To]), (1008, .row 9 .str v59 false), (100000, .box [.p (.list (.named 3)) a1])]⟩) ?_ ?_
                    · refine WpC.seq ?_
                      refine rS {} [1, 2, 8, 9, 10, 12, 16, 20, 21, 22, 36, 37, 38, 44] [12, 1008, 100000] hN (by kernel_rfl) (by kernel_rfl) ?_
                      refine tnU ?_
                      refine tS (b := (decide (v48 > 0))) (by kernel_rfl) (fun hc63 => ?_) (fun hc63 => ?_)
                      · replace h := ite_t hc63 h
                        refine WpC.seq ?_
                        obtain ⟨g64, h⟩ := if_some h
                        refine rS { its := [(3, .g g64)] } [1, 2, 8, 10, 12, 16, 20, 21, 22, 36, 37, 38] [12, 48, 100000] hN (by kernel_rfl) (by kernel_rfl) ?_
                        refine tnU ?_
                        refine rSC {} [1, 2, 8, 9, 10, 12, 16, 20, 21, 22, 36, 37, 38] [12, 48, 100000] hN (by kernel_rfl) (by kernel_rfl) (cS [.rn 48 1008, .k [1, 2, 8, 9, 10, 12, 16, 20, 21, 22, 36, 37, 38] [12, 1008, 100000]] (by kernel_rfl) (by kernel_rfl)) ?_
                        refine tnU ?_
                        exact ⟨(v46 ++ [v47]), ([] : List UInt8), h, by kernel_rfl⟩
                      · replace h := ite_f hc63 h
                        refine WpC.conv (cS [.k [1, 2, 8, 9, 10, 12, 16, 20, 21, 22, 36, 37, 38] [12, 1008, 100000]] (by kernel_rfl) (by kernel_rfl)) (WpC.skip ?_)
                        refine tnU ?_
                        exact ⟨v46, v47, h, by kernel_rfl⟩
                    · rintro _ ⟨v59, v60, h, rfl⟩
                      unfold millwrightref17_Word_m0.j62 at h
                      obtain ⟨g61, h⟩ := if_some h
                      refine rS { its := [(2, .g g61)] } [1, 2, 8, 9, 10, 12, 20, 21, 22, 36, 37, 38] [12, 1008, 100000] hN (by kernel_rfl) (by kernel_rfl) ?_
                      refine blockQ_normal ?_
                      refine tnU ?_
                      exact ⟨v59, (v60 ++ v58), h, by kernel_rfl⟩
                  · rintro _ ⟨v55, v56, h, rfl⟩
                    unfold millwrightref17_Word_m0.j57 at h
                    refine rS {} [1, 2, 8, 9, 10, 12, 20, 21, 22, 36, 37, 38] [12, 1008, 100000] hN (by kernel_rfl) (by kernel_rfl) ?_
                    refine tnU ?_
                    exact ⟨n, Nat.lt_succ_self n, v55, v56, (IntKind.i64.wrap (v48 + 1)), h, by kernel_rfl⟩
                · replace h := ite_f hc54 h
                  refine WpC.conv (cS [.k [1, 2, 8, 9, 10, 12, 20, 21, 22] [12, 1008, 100000]] (by kernel_rfl) (by kernel_rfl)) (WpC.exit ?_)
                  refine thenQ_exit ?_
                  have hq := Option.some.inj h
                  subst hq
                  refine thenQ_exit ?_
                  have h := hout53
                  refine blockQ_hit ?_
                  refine tnU ?_
                  exact ⟨v46, v47, h, by kernel_rfl⟩
            · rintro _ ⟨v42, v43, h, rfl⟩
              unfold millwrightref17_Word_m0.j45 at h
              rcases bool_cases v26 with hc44 | hc44
              · replace h := ite_t hc44 h
                refine rS { kn := [(54, .t hc44)] } [1, 2, 8, 9, 10, 20, 21, 22] [1008, 100000] hN (by kernel_rfl) (by kernel_rfl) ?_
                refine blockQ_normal ?_
                refine tnU ?_
                exact ⟨v42, v43, true, h, by kernel_rfl⟩
              · replace h := ite_f hc44 h
                refine rS { kn := [(54, .f hc44)] } [1, 2, 8, 9, 10, 20, 21, 22] [1008, 100000] hN (by kernel_rfl) (by kernel_rfl) ?_
                refine blockQ_normal ?_
                refine tnU ?_
                exact ⟨v42, v43, (v39.f_Kind == 1), h, by kernel_rfl⟩
        · rintro _ ⟨v35, v36, v37, h, rfl⟩
          unfold millwrightref17_Word_m0.j38 at h
          refine rS {} [1, 2, 8, 9, 10, 20, 21, 22] [1008, 100000] hN (by kernel_rfl) (by kernel_rfl) ?_
          refine tnU ?_
          exact ⟨n, Nat.lt_succ_self n, v35, v36, v37, (IntKind.i64.wrap (v27 + 1)), h, by kernel_rfl⟩
      · replace h := ite_f hc34 h
        refine WpC.conv (cS [.k [8, 9, 10] [1008, 100000]] (by kernel_rfl) (by kernel_rfl)) (WpC.exit ?_)
        refine thenQ_exit ?_
        have hq := Option.some.inj h
        subst hq
        refine thenQ_exit ?_
        have h := hout33
        refine blockQ_hit ?_
        refine tnU ?_
        exact ⟨v24, v25, v26, h, by kernel_rfl⟩
  · rintro _ ⟨v1, v2, v3, h, rfl⟩
    unfold millwrightref17_Word_m0.j23 at h
    refine sqJ (fun st' => millwrightref17_Word_m0.j17 k a1 v1 v2 = some out ∧ st' = ⟨[(8, .vec 1008 1 0 v1.length), (9, .p .str v2)], [(1008, .row 9 .str v1 false), (100000, .box [.p (.list (.named 3)) a1])]⟩) ?_ ?_
    · refine sqJ (fun st' => ∃ v18 : Bool, millwrightref17_Word_m0.j20 k a1 v1 v2 v18 = some out ∧ st' = ⟨[(8, .vec 1008 1 0 v1.length), (9, .p .str v2), (71, .p .bool v18)], [(1008, .row 9 .str v1 false), (100000, .box [.p (.list (.named 3)) a1])]⟩) ?_ ?_
      · rcases bool_cases ((v1.length : Int) == 0) with hc21 | hc21
        · replace h := ite_t hc21 h
          rcases bool_cases ((v2.length : Int) == 0) with hc22 | hc22
          · replace h := ite_t hc22 h
            refine rS { kn := [(63, .t hc21), (68, .t hc22)] } [8, 9, 71] [1008, 100000] hN (by kernel_rfl) (by kernel_rfl) ?_
            refine tnU ?_
            exact ⟨(!v3), h, by kernel_rfl⟩
          · replace h := ite_f hc22 h
            refine rS { kn := [(63, .t hc21), (68, .f hc22)] } [8, 9, 71] [1008, 100000] hN (by kernel_rfl) (by kernel_rfl) ?_
            refine tnU ?_
            exact ⟨false, h, by kernel_rfl⟩
        · replace h := ite_f hc21 h
          refine rS { kn := [(63, .f hc21)] } [8, 9, 71] [1008, 100000] hN (by kernel_rfl) (by kernel_rfl) ?_
          refine tnU ?_
          exact ⟨false, h, by kernel_rfl⟩
      · rintro _ ⟨v18, h, rfl⟩
        unfold millwrightref17_Word_m0.j20 at h
        refine tS (b := v18) (by kernel_rfl) (fun hc19 => ?_) (fun hc19 => ?_)
        · replace h := ite_t hc19 h
          refine WpC.seq ?_
          refine rS {} [6, 7] [100000] hN (by kernel_rfl) (by kernel_rfl) ?_
          refine tnU ?_
          refine WpC.conv (cS [.nL 6 .str, .k [6, 7] [100000]] (by kernel_rfl) (by kernel_rfl)) (WpC.ret ?_)
          refine thenQ_ret ?_
          have hq := Option.some.inj h
          subst hq
          exact eR (by kernel_rfl) (by kernel_rfl)
        · replace h := ite_f hc19 h
          refine WpC.conv (cS [.k [8, 9] [1008, 100000]] (by kernel_rfl) (by kernel_rfl)) (WpC.skip ?_)
          refine tnU ?_
          exact ⟨h, by kernel_rfl⟩
    · rintro _ ⟨h, rfl⟩
      unfold millwrightref17_Word_m0.j17 at h
      refine WpC.seq ?_
      obtain ⟨g4, h⟩ := if_some h
      refine rS { its := [(3, .g g4)] } [8] [75, 100000] hN (by kernel_rfl) (by kernel_rfl) ?_
      refine tnU ?_
      refine WpC.seq ?_
      refine WpC.seq ?_
      refine rS {} [8, 78] [75, 100000] hN (by kernel_rfl) (by kernel_rfl) ?_
      refine tnU ?_
      refine tS (b := (decide (((v1 ++ [v2]).length : Int) > 40))) (by kernel_rfl) (fun hc5 => ?_) (fun hc5 => ?_)
      · replace h := ite_t hc5 h
        refine WpC.seq ?_
        refine rS {} [6, 7] [100000] hN (by kernel_rfl) (by kernel_rfl) ?_
        refine tnU ?_
        refine WpC.conv (cS [.nL 6 .str, .k [6, 7] [100000]] (by kernel_rfl) (by kernel_rfl)) (WpC.ret ?_)
        refine thenQ_ret ?_
        have hq := Option.some.inj h
        subst hq
        exact eR (by kernel_rfl) (by kernel_rfl)
      · replace h := ite_f hc5 h
        refine WpC.conv (cS [.k [8] [75, 100000]] (by kernel_rfl) (by kernel_rfl)) (WpC.skip ?_)
        refine tnU ?_
        refine sqJ (fun st' => millwrightref17_Word_m0.j6 k a1 v1 v2 = some out ∧ st' = ⟨[(8, .vec 75 1 0 ((v1 ++ [v2]).length))], [(75, .row 9 .str (v1 ++ [v2]) false), (100000, .box [.p (.list (.named 3)) a1])]⟩) ?_ ?_
        · refine WpC.seq ?_
          refine rS {} [8, 79, 80, 81] [75, 100000] hN (by kernel_rfl) (by kernel_rfl) ?_
          refine tnU ?_
          refine WpC.block ?_
          obtain ⟨o9, hlo9, h⟩ := bind_some h
          have hout10 := h
          clear h
          refine WpC.loop (U := Un) (fun n st' => ∃ v7 : Int, millwrightref17_Word_m0.l8 k a1 v1 v2 n v7 = some o9 ∧ st' = ⟨[(8, .vec 75 1 0 ((v1 ++ [v2]).length)), (79, .vec 75 1 0 ((v1 ++ [v2]).length)), (80, .p I6 (((v1 ++ [v2]).length : Int) : Int)), (81, .p I6 v7)], [(75, .row 9 .str (v1 ++ [v2]) false), (100000, .box [.p (.list (.named 3)) a1])]⟩) k ⟨0, hlo9, by kernel_rfl⟩ ?_
          clear hlo9
          rintro (_ | n) _ ⟨v7, h, rfl⟩
          · cases h
          · rw [millwrightref17_Word_m0.l8] at h
            refine WpC.seq ?_
            refine rS {} [8, 79, 80, 81, 82] [75, 100000] hN (by kernel_rfl) (by kernel_rfl) ?_
            refine tnU ?_
            refine WpC.seq ?_
            refine tS (b := (decide (v7 < ((v1 ++ [v2]).length : Int)))) (by kernel_rfl) (fun hc11 => ?_) (fun hc11 => ?_)
            · replace h := ite_t hc11 h
              refine WpC.conv (cS [.k [8, 79, 80, 81] [75, 100000]] (by kernel_rfl) (by kernel_rfl)) (WpC.skip ?_)
              refine tnU ?_
              refine WpC.seq ?_
              refine WpC.block ?_
              refine WpC.seq ?_
              obtain ⟨g12, h⟩ := if_some h
              obtain ⟨v13, hv13, h⟩ := bind_some h
              refine rS { its := [(0, .g g12), (1, .v .str hv13)] } [8, 18, 79, 80, 81] [75, 100000] hN (by kernel_rfl) (by kernel_rfl) ?_
              refine tnU ?_
              refine WpC.seq ?_
              refine rS {} [8, 79, 80, 81, 87] [75, 100000] hN (by kernel_rfl) (by kernel_rfl) ?_
              refine tnU ?_
              refine tS (b := (decide ((v13.length : Int) > 120))) (by kernel_rfl) (fun hc14 => ?_) (fun hc14 => ?_)
              · replace h := ite_t hc14 h
                refine WpC.seq ?_
                refine rS {} [6, 7] [100000] hN (by kernel_rfl) (by kernel_rfl) ?_
                refine tnU ?_
                refine WpC.conv (cS [.nL 6 .str, .k [6, 7] [100000]] (by kernel_rfl) (by kernel_rfl)) (WpC.ret ?_)
                refine blockQ_ret ?_
                refine thenQ_ret ?_
                have hq := Option.some.inj h
                subst hq
                refine thenQ_ret ?_
                have h := hout10
                refine blockQ_ret ?_
                refine thenQ_ret ?_
                have hq := Option.some.inj h
                subst hq
                exact eR (by kernel_rfl) (by kernel_rfl)
              · replace h := ite_f hc14 h
                refine WpC.conv (cS [.k [8, 79, 80, 81] [75, 100000]] (by kernel_rfl) (by kernel_rfl)) (WpC.skip ?_)
                refine blockQ_normal ?_
                refine tnU ?_
                refine rS {} [8, 79, 80, 81] [75, 100000] hN (by kernel_rfl) (by kernel_rfl) ?_
                refine tnU ?_
                exact ⟨n, Nat.lt_succ_self n, (IntKind.i64.wrap (v7 + 1)), h, by kernel_rfl⟩
            · replace h := ite_f hc11 h
              refine WpC.conv (cS [.k [8] [75, 100000]] (by kernel_rfl) (by kernel_rfl)) (WpC.exit ?_)
              refine thenQ_exit ?_
              have hq := Option.some.inj h
              subst hq
              refine thenQ_exit ?_
              have h := hout10
              refine blockQ_hit ?_
              refine tnU ?_
              exact ⟨h, by kernel_rfl⟩
        · rintro _ ⟨h, rfl⟩
          unfold millwrightref17_Word_m0.j6 at h
          refine WpC.seq ?_
          refine rS {} [6, 7] [75, 100000] hN (by kernel_rfl) (by kernel_rfl) ?_
          refine tnU ?_
          refine WpC.conv (cS [.fz 6, .k [6, 7] [100000]] (by kernel_rfl) (by kernel_rfl)) (WpC.ret ?_)
          have hq := Option.some.inj h
          subst hq
          exact eR (by kernel_rfl) (by kernel_rfl)

theorem millwrightref17_Words_m0.ok (O : Out) (hO : GOk O) (k : Nat) (a0 : List (List T_lex_Piece)) (a1 : List T_env_Var) (a2 : List T_expand_Output) (out : (List (List UInt8)) × Int) (h : millwrightref17_Words_m0.f k a0 a1 a2 = some out) : COk Un O Tryz.prog 25 { ar := [.p (.list (.list (.named 5))) a0, .loc 100000 0, .p (.list (.named 4)) a2], r := .tup [.p (.list .str) out.1, .p I6 out.2], bs := [(100000, .box [.p (.list (.named 3)) a1])], bs' := [(100000, .box [.p (.list (.named 3)) a1])] } := by
  refine cok_of_wp Tryz.func25 rfl (k := 38) rfl (Nat.le_of_ble_eq_true rfl) (namesOk_of (by kernel_rfl)) ?_
  intro B hN
  refine WpC.conv (cvK (b := ⟨[(0, .p (.list (.list (.named 5))) a0), (1, .loc 100000 0), (2, .p (.list (.named 4)) a2)], [(100000, .box [.p (.list (.named 3)) a1])]⟩) [0, 1, 2] [100000] (by kernel_rfl)) ?_
  unfold millwrightref17_Words_m0.f at h
  refine WpC.seq ?_
  refine rS {} [0, 1, 2] [100000] hN (by kernel_rfl) (by kernel_rfl) ?_
  refine tnU ?_
  refine WpC.seq ?_
  refine rSC {} [0, 1, 2, 8] [13, 100000] hN (by kernel_rfl) (by kernel_rfl) (cS [.k [0, 1, 2, 8] [13, 100000], .x (Conv.cast (U := Un) (st := ⟨[(0, .p (.list (.list (.named 5))) a0), (1, .loc 100000 0), (2, .p (.list (.named 4)) a2), (8, .vec 13 1 0 (([] : List (List UInt8)).length))], [(13, .row 9 .str ([] : List (List UInt8)) true), (100000, .box [.p (.list (.named 3)) a1])]⟩) (st' := ⟨[(0, .p (.list (.list (.named 5))) a0), (1, .loc 100000 0), (2, .p (.list (.named 4)) a2), (8, .vec 13 1 0 0)], [(13, .row 9 .str ([] : List (List UInt8)) true), (100000, .box [.p (.list (.named 3)) a1])]⟩) (by simp only [upd_length, List.length_nil, List.length_replicate]))] (by kernel_rfl) (by kernel_rfl)) ?_
  refine tnU ?_
  refine sqJ (fun st' => ∃ v1 : List (List UInt8), millwrightref17_Words_m0.j3 k a1 v1 = some out ∧ st' = ⟨[(8, .vec 1008 1 0 v1.length)], [(1008, .row 9 .str v1 false), (100000, .box [.p (.list (.named 3)) a1])]⟩) ?_ ?_
  · refine WpC.seq ?_
    refine rS {} [1, 2, 8, 14, 15, 16] [13, 100000] hN (by kernel_rfl) (by kernel_rfl) ?_
    refine tnU ?_
    refine WpC.block ?_
    obtain ⟨o8, hlo8, h⟩ := bind_some h
    have hout9 := h
    clear h
    refine WpC.conv (cS [.lo 13, .k [1, 2, 8, 14, 15, 16] [13, 100000], .rn 13 1008, .k [1, 2, 8, 14, 15, 16] [1008, 100000]] (by kernel_rfl) (by kernel_rfl)) ?_
    refine WpC.loop (U := Un) (fun n st' => ∃ v4 : List (List UInt8), ∃ v5 : Int, millwrightref17_Words_m0.l6 k a0 a1 a2 n v4 v5 = some o8 ∧ st' = ⟨[(1, .loc 100000 0), (2, .p (.list (.named 4)) a2), (8, .vec 1008 1 0 v4.length), (14, .p (.list (.list (.named 5))) a0), (15, .p I6 ((a0.length : Int) : Int)), (16, .p I6 v5)], [(1008, .row 9 .str v4 false), (100000, .box [.p (.list (.named 3)) a1])]⟩) k ⟨([] : List (List UInt8)), 0, hlo8, by kernel_rfl⟩ ?_
    clear hlo8
    rintro (_ | n) _ ⟨v4, v5, h, rfl⟩
    · cases h
    · rw [millwrightref17_Words_m0.l6] at h
      refine WpC.seq ?_
      refine rS {} [1, 2, 8, 14, 15, 16, 17] [1008, 100000] hN (by kernel_rfl) (by kernel_rfl) ?_
      refine tnU ?_
      refine WpC.seq ?_
      refine tS (b := (decide (v5 < (a0.length : Int)))) (by kernel_rfl) (fun hc10 => ?_) (fun hc10 => ?_)
      · replace h := ite_t hc10 h
        refine WpC.conv (cS [.k [1, 2, 8, 14, 15, 16] [1008, 100000]] (by kernel_rfl) (by kernel_rfl)) (WpC.skip ?_)
        refine tnU ?_
        refine WpC.seq ?_
        refine WpC.block ?_
        refine WpC.seq ?_
        obtain ⟨v11, hv11, h⟩ := bind_some h
        refine rS { its := [(0, .v (.list (.named 5)) hv11)] } [1, 2, 8, 10, 14, 15, 16] [1008, 100000] hN (by kernel_rfl) (by kernel_rfl) ?_
        refine tnU ?_
        refine WpC.seq ?_
        obtain ⟨v12, hv12, h⟩ := bind_some h
        refine rS { its := [(3, .c (COk.ren (millwrightref17_Word_m0.ok O hO k v11 a1 a2 v12 hv12) (fun n => if n = 100000 then 100000 else n) (injOn_of (by kernel_rfl))))] } [1, 2, 8, 11, 12, 14, 15, 16] [1008, 100000] hN (by kernel_rfl) (by kernel_rfl) ?_
        refine tnU ?_
        refine WpC.seq ?_
        refine WpC.seq ?_
        refine rS {} [1, 2, 8, 11, 12, 14, 15, 16, 28] [1008, 100000] hN (by kernel_rfl) (by kernel_rfl) ?_
        refine tnU ?_
        refine tS (b := (v12.2 != 0)) (by kernel_rfl) (fun hc13 => ?_) (fun hc13 => ?_)
        · replace h := ite_t hc13 h
          refine WpC.seq ?_
          refine rS {} [6, 7] [100000] hN (by kernel_rfl) (by kernel_rfl) ?_
          refine tnU ?_
          refine WpC.conv (cS [.nL 6 .str, .k [6, 7] [100000]] (by kernel_rfl) (by kernel_rfl)) (WpC.ret ?_)
          refine thenQ_ret ?_
          refine blockQ_ret ?_
          refine thenQ_ret ?_
          have hq := Option.some.inj h
          subst hq
          refine thenQ_ret ?_
          have h := hout9
          refine blockQ_ret ?_
          refine thenQ_ret ?_
          have hq := Option.some.inj h
          subst hq
          exact eR (by kernel_rfl) (by kernel_rfl)
        · replace h := ite_f hc13 h
          refine WpC.conv (cS [.k [1, 2, 8, 11, 14, 15, 16] [1008, 100000]] (by kernel_rfl) (by kernel_rfl)) (WpC.skip ?_)
          refine tnU ?_
          obtain ⟨g14, h⟩ := if_some h
          refine rS { its := [(2, .g g14)] } [1, 2, 8, 14, 15, 16] [32, 100000] hN (by kernel_rfl) (by kernel_rfl) ?_
          refine blockQ_normal ?_
          refine tnU ?_
          refine rSC {} [1, 2, 8, 14, 15, 16] [32, 100000] hN (by kernel_rfl) (by kernel_rfl) (cS [.rn 32 1008, .k [1, 2, 8, 14, 15, 16] [1008, 100000]] (by kernel_rfl) (by kernel_rfl)) ?_
          refine tnU ?_
          exact ⟨n, Nat.lt_succ_self n, (v4 ++ v12.1), (IntKind.i64.wrap (v5 + 1)), h, by kernel_rfl⟩
      · replace h := ite_f hc10 h
        refine WpC.conv (cS [.k [8] [1008, 100000]] (by kernel_rfl) (by kernel_rfl)) (WpC.exit ?_)
        refine thenQ_exit ?_
        have hq := Option.some.inj h
        subst hq
        refine thenQ_exit ?_
        have h := hout9
        refine blockQ_hit ?_
        refine tnU ?_
        exact ⟨v4, h, by kernel_rfl⟩
  · rintro _ ⟨v1, h, rfl⟩
    unfold millwrightref17_Words_m0.j3 at h
    refine WpC.seq ?_
    refine WpC.seq ?_
    refine rS {} [8, 36] [1008, 100000] hN (by kernel_rfl) (by kernel_rfl) ?_
    refine tnU ?_
    refine tS (b := (decide ((v1.length : Int) > 40))) (by kernel_rfl) (fun hc2 => ?_) (fun hc2 => ?_)
    · replace h := ite_t hc2 h
      refine WpC.seq ?_
      refine rS {} [6, 7] [100000] hN (by kernel_rfl) (by kernel_rfl) ?_
      refine tnU ?_
      refine WpC.conv (cS [.nL 6 .str, .k [6, 7] [100000]] (by kernel_rfl) (by kernel_rfl)) (WpC.ret ?_)
      refine thenQ_ret ?_
      have hq := Option.some.inj h
      subst hq
      exact eR (by kernel_rfl) (by kernel_rfl)
    · replace h := ite_f hc2 h
      refine WpC.conv (cS [.k [8] [1008, 100000]] (by kernel_rfl) (by kernel_rfl)) (WpC.skip ?_)
      refine tnU ?_
      refine WpC.seq ?_
      refine rS {} [6, 7] [1008, 100000] hN (by kernel_rfl) (by kernel_rfl) ?_
      refine tnU ?_
      refine WpC.conv (cS [.fz 6, .k [6, 7] [100000]] (by kernel_rfl) (by kernel_rfl)) (WpC.ret ?_)
      have hq := Option.some.inj h
      subst hq
      exact eR (by kernel_rfl) (by kernel_rfl)

theorem millwrightnum_all.ok (O : Out) (hO : GOk O) (k : Nat) (out : List Nat) (h : millwrightnum_all.f k = some out) : COk Un O Tryz.prog 39 { ar := [], r := .p (.list .err) out } := by
  refine cok_of_wp Tryz.func39 rfl (k := 20) rfl (Nat.le_of_ble_eq_true rfl) (namesOk_pure rfl rfl rfl rfl) ?_
  intro B hN
  refine WpC.conv (cvK (b := ⟨[], []⟩) [] [] (by kernel_rfl)) ?_
  unfold millwrightnum_all.f at h
  refine WpC.seq ?_
  refine rS {} [] [] hN (by kernel_rfl) (by kernel_rfl) ?_
  refine tnU ?_
  refine WpC.seq ?_
  refine rS { its := [(0, .e 0 (sok_loadG (U := Un) (t := .err) (rs := []) rfl rfl ty_32 rfl rfl (hO.var 0 1 rfl) (fun S w => .err 0))), (1, .e 1 (sok_loadG (U := Un) (t := .err) (rs := []) rfl rfl ty_32 rfl rfl (hO.var 1 2 rfl) (fun S w => .err 1))), (2, .e 2 (sok_loadG (U := Un) (t := .err) (rs := []) rfl rfl ty_32 rfl rfl (hO.var 2 3 rfl) (fun S w => .err 2))), (3, .e 3 (sok_loadG (U := Un) (t := .err) (rs := []) rfl rfl ty_32 rfl rfl (hO.var 3 4 rfl) (fun S w => .err 3))), (4, .e 4 (sok_loadG (U := Un) (t := .err) (rs := []) rfl rfl ty_32 rfl rfl (hO.var 4 5 rfl) (fun S w => .err 4))), (5, .e 5 (sok_loadG (U := Un) (t := .err) (rs := []) rfl rfl ty_32 rfl rfl (hO.var 5 6 rfl) (fun S w => .err 5))), (6, .e 6 (sok_loadG (U := Un) (t := .err) (rs := []) rfl rfl ty_32 rfl rfl (hO.var 6 7 rfl) (fun S w => .err 6))), (7, .e 7 (sok_loadG (U := Un) (t := .err) (rs := []) rfl rfl ty_32 rfl rfl (hO.var 7 8 rfl) (fun S w => .err 7))), (8, .e 8 (sok_loadG (U := Un) (t := .err) (rs := []) rfl rfl ty_32 rfl rfl (hO.var 8 9 rfl) (fun S w => .err 8))), (9, .e 9 (sok_loadG (U := Un) (t := .err) (rs := []) rfl rfl ty_32 rfl rfl (hO.var 9 0 rfl) (fun S w => .err 9))), (10, .e 10 (sok_loadG (U := Un) (t := .err) (rs := []) rfl rfl ty_32 rfl rfl (hO.var 10 10 rfl) (fun S w => .err 10))), (11, .e 11 (sok_loadG (U := Un) (t := .err) (rs := []) rfl rfl ty_32 rfl rfl (hO.var 11 11 rfl) (fun S w => .err 11))), (12, .e 12 (sok_loadG (U := Un) (t := .err) (rs := []) rfl rfl ty_32 rfl rfl (hO.var 12 12 rfl) (fun S w => .err 12))), (13, .e 13 (sok_loadG (U := Un) (t := .err) (rs := []) rfl rfl ty_32 rfl rfl (hO.var 13 13 rfl) (fun S w => .err 13))), (14, .e 14 (sok_loadG (U := Un) (t := .err) (rs := []) rfl rfl ty_32 rfl rfl (hO.var 14 14 rfl) (fun S w => .err 14))), (15, .e 15 (sok_loadG (U := Un) (t := .err) (rs := []) rfl rfl ty_32 rfl rfl (hO.var 15 15 rfl) (fun S w => .err 15))), (16, .e 16 (sok_loadG (U := Un) (t := .err) (rs := []) rfl rfl ty_32 rfl rfl (hO.var 16 16 rfl) (fun S w => .err 16))), (17, .e 17 (sok_loadG (U := Un) (t := .err) (rs := []) rfl rfl ty_32 rfl rfl (hO.var 17 17 rfl) (fun S w => .err 17)))] } [0] [19] hN (by kernel_rfl) (by kernel_rfl) ?_
  refine tnU ?_
  refine WpC.conv (cS [.fz 0, .k [0] []] (by kernel_rfl) (by kernel_rfl)) (WpC.ret ?_)
  have hq := Option.some.inj h
  subst hq
  exact eR (by kernel_rfl) (by kernel_rfl)

theorem millwrightnum_Num.ok (O : Out) (hO : GOk O) (k : Nat) (a0 : Nat) (out : Int) (h : millwrightnum_Num.f k a0 = some out) : COk Un O Tryz.prog 14 { ar := [.p .err a0], r := .p I6 out } := by
  refine cok_of_wp Tryz.func14 rfl (k := 20) rfl (Nat.le_of_ble_eq_true rfl) (namesOk_pure rfl rfl rfl rfl) ?_
  intro B hN
  refine WpC.conv (cvK (b := ⟨[(0, .p .err a0)], []⟩) [0] [] (by kernel_rfl)) ?_
  unfold millwrightnum_Num.f at h
  refine WpC.seq ?_
  refine rS {} [0] [] hN (by kernel_rfl) (by kernel_rfl) ?_
  refine tnU ?_
  refine WpC.seq ?_
  refine WpC.seq ?_
  refine rS {} [0, 6] [] hN (by kernel_rfl) (by kernel_rfl) ?_
  refine tnU ?_
  refine tS (b := (a0 == 0)) (by kernel_rfl) (fun hc1 => ?_) (fun hc1 => ?_)
  · replace h := ite_t hc1 h
    refine WpC.seq ?_
    refine rS {} [2] [] hN (by kernel_rfl) (by kernel_rfl) ?_
    refine tnU ?_
    refine WpC.ret ?_
    refine thenQ_ret ?_
    have hq := Option.some.inj h
    subst hq
    exact eR (by kernel_rfl) (by kernel_rfl)
  · replace h := ite_f hc1 h
    refine WpC.conv (cS [.k [0] []] (by kernel_rfl) (by kernel_rfl)) (WpC.skip ?_)
    refine tnU ?_
    refine sqJ (fun st' => millwrightnum_Num.j2 k = some out ∧ st' = ⟨[], []⟩) ?_ ?_
    · refine WpC.seq ?_
      obtain ⟨v3, hv3, h⟩ := bind_some h
      refine rS { its := [(0, .c (millwrightnum_all.ok O hO k v3 hv3))] } [0, 7, 8, 9] [] hN (by kernel_rfl) (by kernel_rfl) ?_
      refine tnU ?_
      refine WpC.block ?_
      obtain ⟨o6, hlo6, h⟩ := bind_some h
      have hout7 := h
      clear h
      refine WpC.loop (U := Un) (fun n st' => ∃ v4 : Int, millwrightnum_Num.l5 k a0 v3 n v4 = some o6 ∧ st' = ⟨[(0, .p .err a0), (7, .p (.list .err) v3), (8, .p I6 ((v3.length : Int) : Int)), (9, .p I6 v4)], []⟩) k ⟨0, hlo6, by kernel_rfl⟩ ?_
      clear hlo6
      rintro (_ | n) _ ⟨v4, h, rfl⟩
      · cases h
      · rw [millwrightnum_Num.l5] at h
        refine WpC.seq ?_
        refine rS {} [0, 7, 8, 9, 10] [] hN (by kernel_rfl) (by kernel_rfl) ?_
        refine tnU ?_
        refine WpC.seq ?_
        refine tS (b := (decide (v4 < (v3.length : Int)))) (by kernel_rfl) (fun hc8 => ?_) (fun hc8 => ?_)
        · replace h := ite_t hc8 h
          refine WpC.conv (cS [.k [0, 7, 8, 9] []] (by kernel_rfl) (by kernel_rfl)) (WpC.skip ?_)
          refine tnU ?_
          refine WpC.seq ?_
          refine WpC.block ?_
          refine WpC.seq ?_
          obtain ⟨v9, hv9, h⟩ := bind_some h
          refine rS { its := [(1, .v .err hv9)] } [0, 3, 4, 7, 8, 9] [] hN (by kernel_rfl) (by kernel_rfl) ?_
          refine tnU ?_
          refine WpC.seq ?_
          obtain ⟨v10, hv10, h⟩ := bind_some h
          refine rS { its := [(2, .c (pIs.ok O hO k a0 v9 v10 hv10))] } [0, 3, 7, 8, 9, 16] [] hN (by kernel_rfl) (by kernel_rfl) ?_
          refine tnU ?_
          refine tS (b := v10) (by kernel_rfl) (fun hc11 => ?_) (fun hc11 => ?_)
          · replace h := ite_t hc11 h
            refine WpC.seq ?_
            refine rS {} [2] [] hN (by kernel_rfl) (by kernel_rfl) ?_
            refine tnU ?_
            refine WpC.ret ?_
            refine blockQ_ret ?_
            refine thenQ_ret ?_
            have hq := Option.some.inj h
            subst hq
            refine thenQ_ret ?_
            have h := hout7
            refine blockQ_ret ?_
            refine thenQ_ret ?_
            have hq := Option.some.inj h
            subst hq
            exact eR (by kernel_rfl) (by kernel_rfl)
          · replace h := ite_f hc11 h
            refine WpC.conv (cS [.k [0, 7, 8, 9] []] (by kernel_rfl) (by kernel_rfl)) (WpC.skip ?_)
            refine blockQ_normal ?_
            refine tnU ?_
            refine rS {} [0, 7, 8, 9] [] hN (by kernel_rfl) (by kernel_rfl) ?_
            refine tnU ?_
            exact ⟨n, Nat.lt_succ_self n, (IntKind.i64.wrap (v4 + 1)), h, by kernel_rfl⟩
        · replace h := ite_f hc8 h
          refine WpC.conv (cS [.k [] []] (by kernel_rfl) (by kernel_rfl)) (WpC.exit ?_)
          refine thenQ_exit ?_
          have hq := Option.some.inj h
          subst hq
          refine thenQ_exit ?_
          have h := hout7
          refine blockQ_hit ?_
          refine tnU ?_
          exact ⟨h, by kernel_rfl⟩
    · rintro _ ⟨h, rfl⟩
      unfold millwrightnum_Num.j2 at h
      refine WpC.seq ?_
      refine rS {} [2] [] hN (by kernel_rfl) (by kernel_rfl) ?_
      refine tnU ?_
      refine WpC.ret ?_
      have hq := Option.some.inj h
      subst hq
      exact eR (by kernel_rfl) (by kernel_rfl)

end Go.Proofs.YtldepagjdbcmgaaGreatDoor
