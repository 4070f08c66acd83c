/- A part of the proof of a given law: SAC2. Own work, printed in part by a program of mine. -/
import Derived.Test.YtcblgpcgdihcbaaGreatDoorK18SAC1
namespace Go.Proofs.YtcblgpcgdihcbaaGreatDoor
open Go Go.AM
set_option linter.unusedVariables false
set_option linter.unusedSimpArgs false
set_option maxRecDepth 100000
theorem millwrightref01_count.ok (O : Out) (hO : GOk O) (k : Nat) (a0 : List UInt8) (a1 : Int) (out : Int) (h : millwrightref01_count.f k a0 a1 = some out) : COk Un O Tryz.prog 44 { ar := [.p .str a0, .p (.int .u8) a1], r := .p I6 out } := by
  refine cok_of_wp Tryz.func44 rfl (k := 21) rfl (Nat.le_of_ble_eq_true rfl) (namesOk_pure rfl rfl rfl rfl) ?_
  intro B hN
  refine WpC.conv (cvK (b := ⟨[(0, .p .str a0), (1, .p (.int .u8) a1)], []⟩) [0, 1] [] (by kernel_rfl)) ?_
  unfold millwrightref01_count.f at h
  refine WpC.seq ?_
  refine rS {} [0, 1] [] hN (by kernel_rfl) (by kernel_rfl) ?_
  refine tnU ?_
  refine WpC.seq ?_
  refine rS {} [0, 1, 5] [] hN (by kernel_rfl) (by kernel_rfl) ?_
  refine tnU ?_
  refine sqJ (fun st' => ∃ v1 : Int, millwrightref01_count.j2 k v1 = some out ∧ st' = ⟨[(5, .p I6 v1)], []⟩) ?_ ?_
  · refine WpC.seq ?_
    refine rS {} [0, 1, 5, 6] [] hN (by kernel_rfl) (by kernel_rfl) ?_
    refine tnU ?_
    refine WpC.block ?_
    obtain ⟨o7, hlo7, h⟩ := bind_some h
    have hout8 := h
    clear h
    refine WpC.loop (U := Un) (fun n st' => ∃ v3 : Int, ∃ v4 : Int, millwrightref01_count.l5 k a0 a1 n v3 v4 = some o7 ∧ st' = ⟨[(0, .p .str a0), (1, .p (.int .u8) a1), (5, .p I6 v3), (6, .p I6 v4)], []⟩) k ⟨0, 0, hlo7, by kernel_rfl⟩ ?_
    clear hlo7
    rintro (_ | n) _ ⟨v3, v4, h, rfl⟩
    · cases h
    · rw [millwrightref01_count.l5] at h
      refine WpC.seq ?_
      refine WpC.seq ?_
      refine rS {} [0, 1, 5, 6, 10] [] hN (by kernel_rfl) (by kernel_rfl) ?_
      refine tnU ?_
      refine tS (b := (decide (v4 < (a0.length : Int)))) (by kernel_rfl) (fun hc9 => ?_) (fun hc9 => ?_)
      · replace h := ite_t hc9 h
        refine WpC.conv (cS [.k [0, 1, 5, 6] []] (by kernel_rfl) (by kernel_rfl)) (WpC.skip ?_)
        refine tnU ?_
        refine sqJ (fun st' => ∃ v10 : Int, millwrightref01_count.j11 k (millwrightref01_count.l5 k a0 a1 n) a0 a1 v4 v10 = some o7 ∧ st' = ⟨[(0, .p .str a0), (1, .p (.int .u8) a1), (5, .p I6 v10), (6, .p I6 v4)], []⟩) ?_ ?_
        · refine WpC.block ?_
          refine WpC.seq ?_
          obtain ⟨v12, hv12, h⟩ := bind_some h
          refine rS { its := [(2, .u hv12)] } [0, 1, 5, 6, 17] [] hN (by kernel_rfl) (by kernel_rfl) ?_
          refine tnU ?_
          refine tS (b := ((v12.toNat : Int) == a1)) (by kernel_rfl) (fun hc13 => ?_) (fun hc13 => ?_)
          · replace h := ite_t hc13 h
            refine rS {} [0, 1, 5, 6] [] hN (by kernel_rfl) (by kernel_rfl) ?_
            refine blockQ_normal ?_
            refine tnU ?_
            exact ⟨(IntKind.i64.wrap (v3 + 1)), h, by kernel_rfl⟩
          · replace h := ite_f hc13 h
            refine WpC.conv (cS [.k [0, 1, 5, 6] []] (by kernel_rfl) (by kernel_rfl)) (WpC.skip ?_)
            refine blockQ_normal ?_
            refine tnU ?_
            exact ⟨v3, h, by kernel_rfl⟩
        · rintro _ ⟨v10, h, rfl⟩
          unfold millwrightref01_count.j11 at h
          refine rS {} [0, 1, 5, 6] [] hN (by kernel_rfl) (by kernel_rfl) ?_
          refine tnU ?_
          exact ⟨n, Nat.lt_succ_self n, v10, (IntKind.i64.wrap (v4 + 1)), h, by kernel_rfl⟩
      · replace h := ite_f hc9 h
        refine WpC.conv (cS [.k [5] []] (by kernel_rfl) (by kernel_rfl)) (WpC.exit ?_)
        refine thenQ_exit ?_
        have hq := Option.some.inj h
        subst hq
        refine thenQ_exit ?_
        have h := hout8
        refine blockQ_hit ?_
        refine tnU ?_
        exact ⟨v3, h, by kernel_rfl⟩
  · rintro _ ⟨v1, h, rfl⟩
    unfold millwrightref01_count.j2 at h
    refine WpC.seq ?_
    refine rS {} [4] [] hN (by kernel_rfl) (by kernel_rfl) ?_
    refine tnU ?_
    refine WpC.ret ?_
    have hq := Option.some.inj h
    subst hq
    exact eR (by kernel_rfl) (by kernel_rfl)

theorem millwrightref01_Member.ok (O : Out) (hO : GOk O) (k : Nat) (a0 : List UInt8) (out : (List UInt8) × (List UInt8) × Bool) (h : millwrightref01_Member.f k a0 = some out) : COk Un O Tryz.prog 19 { ar := [.p .str a0], r := .tup [.p .str out.1, .p .str out.2.1, .p .bool out.2.2] } := by
  refine cok_of_wp Tryz.func19 rfl (k := 53) rfl (Nat.le_of_ble_eq_true rfl) (namesOk_pure rfl rfl rfl rfl) ?_
  intro B hN
  refine WpC.conv (cvK (b := ⟨[(0, .p .str a0)], []⟩) [0] [] (by kernel_rfl)) ?_
  unfold millwrightref01_Member.f at h
  refine WpC.seq ?_
  refine rS {} [0] [] hN (by kernel_rfl) (by kernel_rfl) ?_
  refine tnU ?_
  refine sqJ (fun st' => millwrightref01_Member.j14 k a0 = some out ∧ st' = ⟨[(0, .p .str a0)], []⟩) ?_ ?_
  · refine sqJ (fun st' => ∃ v15 : Bool, millwrightref01_Member.j17 k a0 v15 = some out ∧ st' = ⟨[(0, .p .str a0), (31, .p .bool v15)], []⟩) ?_ ?_
    · obtain ⟨v18, hv18, h⟩ := bind_some h
      rcases bool_cases (!v18) with hc19 | hc19
      · replace h := ite_t hc19 h
        refine rS { its := [(1, .c (millwrightref01_Right.ok O hO k a0 v18 hv18))], kn := [(9, .t hc19)] } [0, 31] [] hN (by kernel_rfl) (by kernel_rfl) ?_
        refine tnU ?_
        exact ⟨true, h, by kernel_rfl⟩
      · replace h := ite_f hc19 h
        obtain ⟨v20, hv20, h⟩ := bind_some h
        rcases bool_cases ((v20.toNat : Int) != 41) with hc21 | hc21
        · replace h := ite_t hc21 h
          refine rS { its := [(1, .c (millwrightref01_Right.ok O hO k a0 v18 hv18)), (8, .u hv20)], kn := [(9, .f hc19), (17, .t hc21)] } [0, 31] [] hN (by kernel_rfl) (by kernel_rfl) ?_
          refine tnU ?_
          exact ⟨true, h, by kernel_rfl⟩
        · replace h := ite_f hc21 h
          obtain ⟨v22, hv22, h⟩ := bind_some h
          rcases bool_cases (v22 != 1) with hc23 | hc23
          · replace h := ite_t hc23 h
            refine rS { its := [(1, .c (millwrightref01_Right.ok O hO k a0 v18 hv18)), (8, .u hv20), (13, .c (millwrightref01_count.ok O hO k a0 40 v22 hv22))], kn := [(9, .f hc19), (17, .f hc21), (22, .t hc23)] } [0, 31] [] hN (by kernel_rfl) (by kernel_rfl) ?_
            refine tnU ?_
            exact ⟨true, h, by kernel_rfl⟩
          · replace h := ite_f hc23 h
            obtain ⟨v24, hv24, h⟩ := bind_some h
            rcases bool_cases (v24 != 1) with hc25 | hc25
            · replace h := ite_t hc25 h
              refine rS { its := [(1, .c (millwrightref01_Right.ok O hO k a0 v18 hv18)), (8, .u hv20), (13, .c (millwrightref01_count.ok O hO k a0 40 v22 hv22)), (18, .c (millwrightref01_count.ok O hO k a0 41 v24 hv24))], kn := [(9, .f hc19), (17, .f hc21), (22, .f hc23), (27, .t hc25)] } [0, 31] [] hN (by kernel_rfl) (by kernel_rfl) ?_
              refine tnU ?_
              exact ⟨true, h, by kernel_rfl⟩
            · replace h := ite_f hc25 h
              obtain ⟨v26, hv26, h⟩ := bind_some h
              refine rS { its := [(1, .c (millwrightref01_Right.ok O hO k a0 v18 hv18)), (8, .u hv20), (13, .c (millwrightref01_count.ok O hO k a0 40 v22 hv22)), (18, .c (millwrightref01_count.ok O hO k a0 41 v24 hv24)), (23, .u hv26)], kn := [(9, .f hc19), (17, .f hc21), (22, .f hc23), (27, .f hc25)] } [0, 31] [] hN (by kernel_rfl) (by kernel_rfl) ?_
              refine tnU ?_
              exact ⟨((v26.toNat : Int) == 40), h, by kernel_rfl⟩
    · rintro _ ⟨v15, h, rfl⟩
      unfold millwrightref01_Member.j17 at h
      refine tS (b := v15) (by kernel_rfl) (fun hc16 => ?_) (fun hc16 => ?_)
      · replace h := ite_t hc16 h
        refine WpC.seq ?_
        refine rS {} [2, 3, 4] [] hN (by kernel_rfl) (by kernel_rfl) ?_
        refine tnU ?_
        refine WpC.ret ?_
        refine thenQ_ret ?_
        have hq := Option.some.inj h
        subst hq
        exact eR (by kernel_rfl) (by kernel_rfl)
      · replace h := ite_f hc16 h
        refine WpC.conv (cS [.k [0] []] (by kernel_rfl) (by kernel_rfl)) (WpC.skip ?_)
        refine tnU ?_
        exact ⟨h, by kernel_rfl⟩
  · rintro _ ⟨h, rfl⟩
    unfold millwrightref01_Member.j14 at h
    refine WpC.seq ?_
    refine rS {} [0, 5] [] hN (by kernel_rfl) (by kernel_rfl) ?_
    refine tnU ?_
    refine sqJ (fun st' => ∃ v1 : Int, millwrightref01_Member.j5 k a0 v1 = some out ∧ st' = ⟨[(0, .p .str a0), (5, .p I6 v1)], []⟩) ?_ ?_
    · refine WpC.block ?_
      obtain ⟨o9, hlo9, h⟩ := bind_some h
      have hout10 := h
      clear h
      refine WpC.loop (U := Un) (fun n st' => ∃ v6 : Int, millwrightref01_Member.l7 k a0 n v6 = some o9 ∧ st' = ⟨[(0, .p .str a0), (5, .p I6 v6)], []⟩) k ⟨0, hlo9, by kernel_rfl⟩ ?_
      clear hlo9
      rintro (_ | n) _ ⟨v6, h, rfl⟩
      · cases h
      · rw [millwrightref01_Member.l7] at h
        refine WpC.seq ?_
        refine WpC.seq ?_
        obtain ⟨v11, hv11, h⟩ := bind_some h
        refine rS { its := [(2, .u hv11)] } [0, 5, 35] [] hN (by kernel_rfl) (by kernel_rfl) ?_
        refine tnU ?_
        refine tS (b := ((v11.toNat : Int) != 40)) (by kernel_rfl) (fun hc12 => ?_) (fun hc12 => ?_)
        · replace h := ite_t hc12 h
          refine WpC.conv (cS [.k [0, 5] []] (by kernel_rfl) (by kernel_rfl)) (WpC.skip ?_)
          refine tnU ?_
          refine WpC.block ?_
          refine rS {} [0, 5] [] hN (by kernel_rfl) (by kernel_rfl) ?_
          refine blockQ_normal ?_
          refine tnU ?_
          exact ⟨n, Nat.lt_succ_self n, (IntKind.i64.wrap (v6 + 1)), h, by kernel_rfl⟩
        · replace h := ite_f hc12 h
          refine WpC.conv (cS [.k [0, 5] []] (by kernel_rfl) (by kernel_rfl)) (WpC.exit ?_)
          refine thenQ_exit ?_
          have hq := Option.some.inj h
          subst hq
          refine thenQ_exit ?_
          have h := hout10
          refine blockQ_hit ?_
          refine tnU ?_
          exact ⟨v6, h, by kernel_rfl⟩
    · rintro _ ⟨v1, h, rfl⟩
      unfold millwrightref01_Member.j5 at h
      refine WpC.seq ?_
      refine WpC.seq ?_
      refine rS {} [0, 5, 42] [] hN (by kernel_rfl) (by kernel_rfl) ?_
      refine tnU ?_
      refine tS (b := (v1 == (IntKind.i64.wrap ((a0.length : Int) - 2)))) (by kernel_rfl) (fun hc2 => ?_) (fun hc2 => ?_)
      · replace h := ite_t hc2 h
        refine WpC.seq ?_
        refine rS {} [2, 3, 4] [] hN (by kernel_rfl) (by kernel_rfl) ?_
        refine tnU ?_
        refine WpC.ret ?_
        refine thenQ_ret ?_
        have hq := Option.some.inj h
        subst hq
        exact eR (by kernel_rfl) (by kernel_rfl)
      · replace h := ite_f hc2 h
        refine WpC.conv (cS [.k [0, 5] []] (by kernel_rfl) (by kernel_rfl)) (WpC.skip ?_)
        refine tnU ?_
        refine WpC.seq ?_
        obtain ⟨v3, hv3, h⟩ := bind_some h
        obtain ⟨v4, hv4, h⟩ := bind_some h
        refine rA { its := [(2, .v .str hv3), (9, .v .str hv4)] } [2, 3, 4] [] hN (by kernel_rfl) (by kernel_rfl) (by kernel_rfl) ?_
        refine tnU ?_
        refine WpC.ret ?_
        have hq := Option.some.inj h
        subst hq
        exact eR (by kernel_rfl) (by kernel_rfl)

theorem millwrightlaw04_related.ok (O : Out) (hO : GOk O) (k : Nat) (a0 : List UInt8) (a1 : List UInt8) (out : Bool) (h : millwrightlaw04_related.f k a0 a1 = some out) : COk Un O Tryz.prog 13 { ar := [.p .str a0, .p .str a1], r := .p .bool out } := by
  refine cok_of_wp Tryz.func13 rfl (k := 30) rfl (Nat.le_of_ble_eq_true rfl) (namesOk_pure rfl rfl rfl rfl) ?_
  intro B hN
  refine WpC.conv (cvK (b := ⟨[(0, .p .str a0), (1, .p .str a1)], []⟩) [0, 1] [] (by kernel_rfl)) ?_
  unfold millwrightlaw04_related.f at h
  refine WpC.seq ?_
  refine rS {} [0, 1] [] hN (by kernel_rfl) (by kernel_rfl) ?_
  refine tnU ?_
  refine sqJ (fun st' => ∃ v1 : List UInt8, millwrightlaw04_related.j6 k a1 v1 = some out ∧ st' = ⟨[(0, .p .str v1), (1, .p .str a1)], []⟩) ?_ ?_
  · refine WpC.seq ?_
    obtain ⟨v7, hv7, h⟩ := bind_some h
    refine rS { its := [(1, .c (millwrightref01_Member.ok O hO k a0 v7 hv7))] } [0, 1, 5, 7] [] hN (by kernel_rfl) (by kernel_rfl) ?_
    refine tnU ?_
    refine WpC.seq ?_
    refine rS {} [0, 1, 5, 17] [] hN (by kernel_rfl) (by kernel_rfl) ?_
    refine tnU ?_
    refine tS (b := v7.2.2) (by kernel_rfl) (fun hc8 => ?_) (fun hc8 => ?_)
    · replace h := ite_t hc8 h
      refine rS {} [0, 1] [] hN (by kernel_rfl) (by kernel_rfl) ?_
      refine tnU ?_
      exact ⟨v7.1, h, by kernel_rfl⟩
    · replace h := ite_f hc8 h
      refine WpC.conv (cS [.k [0, 1] []] (by kernel_rfl) (by kernel_rfl)) (WpC.skip ?_)
      refine tnU ?_
      exact ⟨a0, h, by kernel_rfl⟩
  · rintro _ ⟨v1, h, rfl⟩
    unfold millwrightlaw04_related.j6 at h
    refine sqJ (fun st' => ∃ v2 : List UInt8, millwrightlaw04_related.j3 k v1 v2 = some out ∧ st' = ⟨[(0, .p .str v1), (1, .p .str v2)], []⟩) ?_ ?_
    · refine WpC.seq ?_
      obtain ⟨v4, hv4, h⟩ := bind_some h
      refine rS { its := [(1, .c (millwrightref01_Member.ok O hO k a1 v4 hv4))] } [0, 1, 8, 10] [] hN (by kernel_rfl) (by kernel_rfl) ?_
      refine tnU ?_
      refine WpC.seq ?_
      refine rS {} [0, 1, 8, 25] [] hN (by kernel_rfl) (by kernel_rfl) ?_
      refine tnU ?_
      refine tS (b := v4.2.2) (by kernel_rfl) (fun hc5 => ?_) (fun hc5 => ?_)
      · replace h := ite_t hc5 h
        refine rS {} [0, 1] [] hN (by kernel_rfl) (by kernel_rfl) ?_
        refine tnU ?_
        exact ⟨v4.1, h, by kernel_rfl⟩
      · replace h := ite_f hc5 h
        refine WpC.conv (cS [.k [0, 1] []] (by kernel_rfl) (by kernel_rfl)) (WpC.skip ?_)
        refine tnU ?_
        exact ⟨a1, h, by kernel_rfl⟩
    · rintro _ ⟨v2, h, rfl⟩
      unfold millwrightlaw04_related.j3 at h
      refine WpC.seq ?_
      refine rS {} [4] [] hN (by kernel_rfl) (by kernel_rfl) ?_
      refine tnU ?_
      refine WpC.ret ?_
      have hq := Option.some.inj h
      subst hq
      exact eR (by kernel_rfl) (by kernel_rfl)

theorem millwrightlaw04_StatApart.ok (O : Out) (hO : GOk O) (k : Nat) (a0 : List T_tree_File) (a1 : List UInt8) (a2 : List UInt8) (out : Bool) (h : millwrightlaw04_StatApart.f k a0 a1 a2 = some out) : COk Un O Tryz.prog 3 { ar := [.p (.list (.named 3)) a0, .p .str a1, .p .str a2], r := .p .bool out } := by
  refine cok_of_wp Tryz.func3 rfl (k := 59) rfl (Nat.le_of_ble_eq_true rfl) (namesOk_pure rfl rfl rfl rfl) ?_
  intro B hN
  refine WpC.conv (cvK (b := ⟨[(0, .p (.list (.named 3)) a0), (1, .p .str a1), (2, .p .str a2)], []⟩) [0, 1, 2] [] (by kernel_rfl)) ?_
  unfold millwrightlaw04_StatApart.f at h
  refine WpC.seq ?_
  refine rS {} [0, 1, 2] [] hN (by kernel_rfl) (by kernel_rfl) ?_
  refine tnU ?_
  refine WpC.seq ?_
  refine WpC.seq ?_
  obtain ⟨v1, hv1, h⟩ := bind_some h
  refine rS { its := [(0, .c (millwrightlaw04_alive.ok O hO k v1 hv1))] } [0, 1, 2, 11] [] hN (by kernel_rfl) (by kernel_rfl) ?_
  refine tnU ?_
  refine tS (b := (!v1)) (by kernel_rfl) (fun hc2 => ?_) (fun hc2 => ?_)
  · replace h := ite_t hc2 h
    refine WpC.seq ?_
    refine rS {} [6] [] hN (by kernel_rfl) (by kernel_rfl) ?_
    refine tnU ?_
    refine WpC.ret ?_
    refine thenQ_ret ?_
    have hq := Option.some.inj h
    subst hq
    exact eR (by kernel_rfl) (by kernel_rfl)
  · replace h := ite_f hc2 h
    refine WpC.conv (cS [.k [0, 1, 2] []] (by kernel_rfl) (by kernel_rfl)) (WpC.skip ?_)
    refine tnU ?_
    refine sqJ (fun st' => millwrightlaw04_StatApart.j15 k a0 a1 a2 = some out ∧ st' = ⟨[(0, .p (.list (.named 3)) a0), (1, .p .str a1), (2, .p .str a2)], []⟩) ?_ ?_
    · refine sqJ (fun st' => ∃ v16 : Bool, millwrightlaw04_StatApart.j18 k a0 a1 a2 v16 = some out ∧ st' = ⟨[(0, .p (.list (.named 3)) a0), (1, .p .str a1), (2, .p .str a2), (23, .p .bool v16)], []⟩) ?_ ?_
      · obtain ⟨v19, hv19, h⟩ := bind_some h
        rcases bool_cases v19 with hc20 | hc20
        · replace h := ite_t hc20 h
          refine rS { its := [(1, .c (millwrightlaw02_Long.ok O hO k a0 40 v19 hv19))], kn := [(14, .t hc20)] } [0, 1, 2, 23] [] hN (by kernel_rfl) (by kernel_rfl) ?_
          refine tnU ?_
          exact ⟨true, h, by kernel_rfl⟩
        · replace h := ite_f hc20 h
          rcases bool_cases (decide ((a1.length : Int) > 100)) with hc21 | hc21
          · replace h := ite_t hc21 h
            refine rS { its := [(1, .c (millwrightlaw02_Long.ok O hO k a0 40 v19 hv19))], kn := [(14, .f hc20), (19, .t hc21)] } [0, 1, 2, 23] [] hN (by kernel_rfl) (by kernel_rfl) ?_
            refine tnU ?_
            exact ⟨true, h, by kernel_rfl⟩
          · replace h := ite_f hc21 h
            refine rS { its := [(1, .c (millwrightlaw02_Long.ok O hO k a0 40 v19 hv19))], kn := [(14, .f hc20), (19, .f hc21)] } [0, 1, 2, 23] [] hN (by kernel_rfl) (by kernel_rfl) ?_
            refine tnU ?_
            exact ⟨(decide ((a2.length : Int) > 100)), h, by kernel_rfl⟩
      · rintro _ ⟨v16, h, rfl⟩
        unfold millwrightlaw04_StatApart.j18 at h
        refine tS (b := v16) (by kernel_rfl) (fun hc17 => ?_) (fun hc17 => ?_)
        · replace h := ite_t hc17 h
          refine WpC.seq ?_
          refine rS {} [6] [] hN (by kernel_rfl) (by kernel_rfl) ?_
          refine tnU ?_
          refine WpC.ret ?_
          refine thenQ_ret ?_
          have hq := Option.some.inj h
          subst hq
          exact eR (by kernel_rfl) (by kernel_rfl)
        · replace h := ite_f hc17 h
          refine WpC.conv (cS [.k [0, 1, 2] []] (by kernel_rfl) (by kernel_rfl)) (WpC.skip ?_)
          refine tnU ?_
          exact ⟨h, by kernel_rfl⟩
    · rintro _ ⟨h, rfl⟩
      unfold millwrightlaw04_StatApart.j15 at h
      refine WpC.seq ?_
      obtain ⟨v3, hv3, h⟩ := bind_some h
      refine rS { its := [(1, .c (COk.ren (tree_Of.ok O hO k a0 v3 hv3) (fun n => if n = 60500 then 10001 else if n = 60501 then 10002 else n) (injOn_of (by kernel_rfl))))] } [1, 2, 7, 8] [10001, 10002] hN (by kernel_rfl) (by kernel_rfl) ?_
      refine tnU ?_
      refine WpC.seq ?_
      refine WpC.seq ?_
      refine rS {} [1, 2, 7, 30] [10001, 10002] hN (by kernel_rfl) (by kernel_rfl) ?_
      refine tnU ?_
      refine tS (b := (!(v3.2.2 == 0))) (by kernel_rfl) (fun hc4 => ?_) (fun hc4 => ?_)
      · replace h := ite_t hc4 h
        refine WpC.seq ?_
        refine rS {} [6] [] hN (by kernel_rfl) (by kernel_rfl) ?_
        refine tnU ?_
        refine WpC.ret ?_
        refine thenQ_ret ?_
        have hq := Option.some.inj h
        subst hq
        exact eR (by kernel_rfl) (by kernel_rfl)
      · replace h := ite_f hc4 h
        refine WpC.conv (cS [.k [1, 2, 7] [10001, 10002]] (by kernel_rfl) (by kernel_rfl)) (WpC.skip ?_)
        refine tnU ?_
        refine WpC.seq ?_
        obtain ⟨hc5, h⟩ := if_some h
        refine WpC.conv (cS [.oS 7 hc5, .k [1, 2, 7] [10001, 10002], .oK 10001 hc5, .k [1, 2, 7] [10001, 10002], .oK 10002 hc5, .k [1, 2, 7] [10001, 10002]] (by kernel_rfl) (by kernel_rfl)) ?_
        obtain ⟨v6, hv6, h⟩ := bind_some h
        refine rS { its := [(2, .c (COk.ren (stat_Of_m0.ok O hO k v3.2.1 a2 v6 hv6) (fun n => if n = 100000 then 10001 else if n = 100001 then 10002 else n) (injOn_of (by kernel_rfl))))] } [1, 2, 7, 9] [10001, 10002] hN (by kernel_rfl) (by kernel_rfl) ?_
        refine tnU ?_
        refine WpC.seq ?_
        refine WpC.seq ?_
        obtain ⟨v7, hv7, h⟩ := bind_some h
        refine rS { its := [(2, .c (COk.ren (stat_Set_m0.ok O hO k v3.2.1 a1 7 v7 hv7) (fun n => if n = 100000 then 10001 else if n = 100001 then 10002 else n) (injOn_of (by kernel_rfl))))] } [1, 2, 7, 9, 39] [10001, 10002] hN (by kernel_rfl) (by kernel_rfl) ?_
        refine tnU ?_
        refine tS (b := (!(v7.1 == 0))) (by kernel_rfl) (fun hc8 => ?_) (fun hc8 => ?_)
        · replace h := ite_t hc8 h
          refine WpC.seq ?_
          obtain ⟨v9, hv9, h⟩ := bind_some h
          refine rS { its := [(2, .c (COk.ren (stat_Of_m0.ok O hO k v7.2 a2 v9 hv9) (fun n => if n = 100000 then 10001 else if n = 100001 then 10002 else n) (injOn_of (by kernel_rfl))))] } [6] [] hN (by kernel_rfl) (by kernel_rfl) ?_
          refine tnU ?_
          refine WpC.ret ?_
          refine thenQ_ret ?_
          have hq := Option.some.inj h
          subst hq
          exact eR (by kernel_rfl) (by kernel_rfl)
        · replace h := ite_f hc8 h
          refine WpC.conv (cS [.k [1, 2, 7, 9] [10001, 10002]] (by kernel_rfl) (by kernel_rfl)) (WpC.skip ?_)
          refine tnU ?_
          refine WpC.seq ?_
          refine WpC.seq ?_
          obtain ⟨v10, hv10, h⟩ := bind_some h
          refine rS { its := [(2, .c (COk.ren (stat_Of_m0.ok O hO k v7.2 a1 v10 hv10) (fun n => if n = 100000 then 10001 else if n = 100001 then 10002 else n) (injOn_of (by kernel_rfl))))] } [1, 2, 7, 9, 48] [10001, 10002] hN (by kernel_rfl) (by kernel_rfl) ?_
          refine tnU ?_
          refine tS (b := (v10 != 7)) (by kernel_rfl) (fun hc11 => ?_) (fun hc11 => ?_)
          · replace h := ite_t hc11 h
            refine WpC.seq ?_
            refine rS {} [6] [] hN (by kernel_rfl) (by kernel_rfl) ?_
            refine tnU ?_
            refine WpC.ret ?_
            refine thenQ_ret ?_
            have hq := Option.some.inj h
            subst hq
            exact eR (by kernel_rfl) (by kernel_rfl)
          · replace h := ite_f hc11 h
            refine WpC.conv (cS [.k [1, 2, 7, 9] [10001, 10002]] (by kernel_rfl) (by kernel_rfl)) (WpC.skip ?_)
            refine tnU ?_
            refine WpC.seq ?_
            obtain ⟨v12, hv12, h⟩ := bind_some h
            rcases bool_cases v12 with hc13 | hc13
            · replace h := ite_t hc13 h
              refine rS { its := [(2, .c (millwrightlaw04_related.ok O hO k a1 a2 v12 hv12))], kn := [(52, .t hc13)] } [6] [] hN (by kernel_rfl) (by kernel_rfl) ?_
              refine tnU ?_
              refine WpC.ret ?_
              have hq := Option.some.inj h
              subst hq
              exact eR (by kernel_rfl) (by kernel_rfl)
            · replace h := ite_f hc13 h
              obtain ⟨v14, hv14, h⟩ := bind_some h
              refine rS { its := [(2, .c (millwrightlaw04_related.ok O hO k a1 a2 v12 hv12)), (6, .c (COk.ren (stat_Of_m0.ok O hO k v7.2 a2 v14 hv14) (fun n => if n = 100000 then 10001 else if n = 100001 then 10002 else n) (injOn_of (by kernel_rfl))))], kn := [(52, .f hc13)] } [6] [] hN (by kernel_rfl) (by kernel_rfl) ?_
              refine tnU ?_
              refine WpC.ret ?_
              have hq := Option.some.inj h
              subst hq
              exact eR (by kernel_rfl) (by kernel_rfl)

end Go.Proofs.YtcblgpcgdihcbaaGreatDoor
