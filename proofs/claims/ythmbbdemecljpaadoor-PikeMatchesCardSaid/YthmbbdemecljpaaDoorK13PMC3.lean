/- A part of the proof of a given law: PMC3. Own work, printed in part by a program of mine. -/
import Derived.Test.YthmbbdemecljpaaDoorK13PMC2
namespace Go.Proofs.YthmbbdemecljpaaDoor
open Go Go.AM
set_option linter.unusedVariables false
set_option linter.unusedSimpArgs false
set_option maxRecDepth 100000
theorem pike_Parts.ok (O : Out) (hO : GOkA O) (k : Nat) (a0 : List UInt8) (a1 : List UInt8) (out : (List (List UInt8)) × Bool × Nat) (h : pike_Parts.f k a0 a1 = some out) : COk Un O Tryd.prog 69 { ar := [.p .str a0, .p .str a1], r := .tup [.p (.list .str) out.1, .p .bool out.2.1, .p .err out.2.2] } := by
  refine cok_of_wp Tryd.func69 rfl (k := 41) rfl (Nat.le_of_ble_eq_true rfl) (namesOk_pure rfl rfl rfl rfl) ?_
  intro B hN
  refine WpC.conv (cvK (b := ⟨[(0, .p .str a0), (1, .p .str a1)], []⟩) [0, 1] [] (by kernel_rfl)) ?_
  unfold pike_Parts.f at h
  refine WpC.seq ?_
  refine rS {} [0, 1] [] hN (by kernel_rfl) (by kernel_rfl) ?_
  refine tnU ?_
  refine WpC.seq ?_
  obtain ⟨v1, hv1, h⟩ := bind_some h
  refine rS { its := [(1, .c (prog_Of.ok O hO k a0 v1 hv1))] } [1, 7, 8] [] hN (by kernel_rfl) (by kernel_rfl) ?_
  refine tnU ?_
  refine WpC.seq ?_
  refine WpC.seq ?_
  refine rS {} [1, 7, 8, 19] [] hN (by kernel_rfl) (by kernel_rfl) ?_
  refine tnU ?_
  refine tS (b := (!(v1.2 == 0))) (by kernel_rfl) (fun hc2 => ?_) (fun hc2 => ?_)
  · replace h := ite_t hc2 h
    refine WpC.seq ?_
    refine rS {} [4, 5, 6] [] hN (by kernel_rfl) (by kernel_rfl) ?_
    refine tnU ?_
    refine WpC.conv (cS [.nL 4 .str, .k [4, 5, 6] []] (by kernel_rfl) (by kernel_rfl)) (WpC.ret ?_)
    refine thenQ_ret ?_
    have hq := Option.some.inj h
    subst hq
    exact eR (by kernel_rfl) (by kernel_rfl)
  · replace h := ite_f hc2 h
    refine WpC.conv (cS [.k [1, 7] []] (by kernel_rfl) (by kernel_rfl)) (WpC.skip ?_)
    refine tnU ?_
    refine WpC.seq ?_
    obtain ⟨v3, hv3, h⟩ := bind_some h
    refine rS { its := [(2, .c (pike_Match.ok O hO k v1.1 a1 v3 hv3))] } [1, 9, 10] [] hN (by kernel_rfl) (by kernel_rfl) ?_
    refine tnU ?_
    refine WpC.seq ?_
    refine WpC.seq ?_
    refine rS {} [1, 9, 28] [] hN (by kernel_rfl) (by kernel_rfl) ?_
    refine tnU ?_
    refine tS (b := (!v3.2)) (by kernel_rfl) (fun hc4 => ?_) (fun hc4 => ?_)
    · replace h := ite_t hc4 h
      refine WpC.seq ?_
      refine rS {} [4, 5, 6] [] hN (by kernel_rfl) (by kernel_rfl) ?_
      refine tnU ?_
      refine WpC.conv (cS [.nL 4 .str, .k [4, 5, 6] [], .nE 6, .k [4, 5, 6] []] (by kernel_rfl) (by kernel_rfl)) (WpC.ret ?_)
      refine thenQ_ret ?_
      have hq := Option.some.inj h
      subst hq
      exact eR (by kernel_rfl) (by kernel_rfl)
    · replace h := ite_f hc4 h
      refine WpC.conv (cS [.k [1, 9] []] (by kernel_rfl) (by kernel_rfl)) (WpC.skip ?_)
      refine tnU ?_
      refine WpC.seq ?_
      refine rS {} [1, 9, 11] [] hN (by kernel_rfl) (by kernel_rfl) ?_
      refine tnU ?_
      refine sqJ (fun st' => ∃ v5 : List (List UInt8), pike_Parts.j6 k v5 = some out ∧ st' = ⟨[(11, .vec 1011 1 0 v5.length)], [(1011, .row 9 .str v5 false)]⟩) ?_ ?_
      · refine WpC.seq ?_
        refine rS {} [1, 9, 11, 29] [] hN (by kernel_rfl) (by kernel_rfl) ?_
        refine tnU ?_
        refine WpC.block ?_
        obtain ⟨o11, hlo11, h⟩ := bind_some h
        have hout12 := h
        clear h
        refine WpC.conv (cS [.th 11 1011 9 .str, .k [1, 9, 11, 29] [1011]] (by kernel_rfl) (by kernel_rfl)) ?_
        refine WpC.loop (U := Un) (fun n st' => ∃ v7 : List (List UInt8), ∃ v8 : Int, pike_Parts.l9 k a1 v3 n v7 v8 = some o11 ∧ st' = ⟨[(1, .p .str a1), (9, .p (.list I6) v3.1), (11, .vec 1011 1 0 v7.length), (29, .p I6 v8)], [(1011, .row 9 .str v7 false)]⟩) k ⟨[], 0, hlo11, by kernel_rfl⟩ ?_
        clear hlo11
        rintro (_ | n) _ ⟨v7, v8, h, rfl⟩
        · cases h
        · rw [pike_Parts.l9] at h
          refine WpC.seq ?_
          refine rS {} [1, 9, 11, 29, 30] [1011] hN (by kernel_rfl) (by kernel_rfl) ?_
          refine tnU ?_
          refine WpC.seq ?_
          refine tS (b := (decide (v8 < 10))) (by kernel_rfl) (fun hc13 => ?_) (fun hc13 => ?_)
          · replace h := ite_t hc13 h
            refine WpC.conv (cS [.k [1, 9, 11, 29] [1011]] (by kernel_rfl) (by kernel_rfl)) (WpC.skip ?_)
            refine tnU ?_
            refine WpC.seq ?_
            refine WpC.block ?_
            refine WpC.seq ?_
            refine rS {} [1, 9, 11, 12, 29] [1011] hN (by kernel_rfl) (by kernel_rfl) ?_
            refine tnU ?_
            obtain ⟨v14, hv14, h⟩ := bind_some h
            obtain ⟨g15, h⟩ := if_some h
            refine rS { its := [(4, .c (pike_Part.ok O hO k a1 v3.1 v8 v14 hv14)), (6, .g g15)] } [1, 9, 11, 29] [38] hN (by kernel_rfl) (by kernel_rfl) ?_
            refine blockQ_normal ?_
            refine tnU ?_
            refine rSC {} [1, 9, 11, 29] [38] hN (by kernel_rfl) (by kernel_rfl) (cS [.rn 38 1011, .k [1, 9, 11, 29] [1011]] (by kernel_rfl) (by kernel_rfl)) ?_
            refine tnU ?_
            exact ⟨n, Nat.lt_succ_self n, (v7 ++ [v14]), (IntKind.i64.wrap (v8 + 1)), h, by kernel_rfl⟩
          · replace h := ite_f hc13 h
            refine WpC.conv (cS [.k [11] [1011]] (by kernel_rfl) (by kernel_rfl)) (WpC.exit ?_)
            refine thenQ_exit ?_
            have hq := Option.some.inj h
            subst hq
            refine thenQ_exit ?_
            have h := hout12
            refine blockQ_hit ?_
            refine tnU ?_
            exact ⟨v7, h, by kernel_rfl⟩
      · rintro _ ⟨v5, h, rfl⟩
        unfold pike_Parts.j6 at h
        refine WpC.seq ?_
        refine rS {} [4, 5, 6] [1011] hN (by kernel_rfl) (by kernel_rfl) ?_
        refine tnU ?_
        refine WpC.conv (cS [.fz 4, .k [4, 5, 6] [], .nE 6, .k [4, 5, 6] []] (by kernel_rfl) (by kernel_rfl)) (WpC.ret ?_)
        have hq := Option.some.inj h
        subst hq
        exact eR (by kernel_rfl) (by kernel_rfl)

theorem millwrightlaw09_alive.ok (O : Out) (hO : GOkA O) (k : Nat) (out : Bool) (h : millwrightlaw09_alive.f k = some out) : COk Un O Tryd.prog 40 { ar := [], r := .p .bool out } := by
  refine cok_of_wp Tryd.func40 rfl (k := 31) rfl (Nat.le_of_ble_eq_true rfl) (namesOk_pure rfl rfl rfl rfl) ?_
  intro B hN
  refine WpC.conv (cvK (b := ⟨[], []⟩) [] [] (by kernel_rfl)) ?_
  unfold millwrightlaw09_alive.f at h
  refine WpC.seq ?_
  refine rS {} [] [] hN (by kernel_rfl) (by kernel_rfl) ?_
  refine tnU ?_
  refine WpC.seq ?_
  obtain ⟨v1, hv1, h⟩ := bind_some h
  refine rS { its := [(0, .c (pike_Parts.ok O hO k ([40, 97, 42, 41, 98] : List UInt8) ([97, 97, 98] : List UInt8) v1 hv1))] } [1, 2, 3] [] hN (by kernel_rfl) (by kernel_rfl) ?_
  refine tnU ?_
  refine WpC.seq ?_
  rcases bool_cases (v1.2.2 == 0) with hc2 | hc2
  · replace h := ite_t hc2 h
    rcases bool_cases v1.2.1 with hc3 | hc3
    · replace h := ite_t hc3 h
      rcases bool_cases ((v1.1.length : Int) == 10) with hc4 | hc4
      · replace h := ite_t hc4 h
        obtain ⟨v5, hv5, h⟩ := bind_some h
        rcases bool_cases (v5 == ([97, 97, 98] : List UInt8)) with hc6 | hc6
        · replace h := ite_t hc6 h
          obtain ⟨v7, hv7, h⟩ := bind_some h
          refine rS { its := [(12, .v .str hv5), (18, .v .str hv7)], kn := [(11, .t hc2), (14, .t hc3), (19, .t hc4), (25, .t hc6)] } [0] [] hN (by kernel_rfl) (by kernel_rfl) ?_
          refine tnU ?_
          refine WpC.ret ?_
          have hq := Option.some.inj h
          subst hq
          exact eR (by kernel_rfl) (by kernel_rfl)
        · replace h := ite_f hc6 h
          refine rS { its := [(12, .v .str hv5)], kn := [(11, .t hc2), (14, .t hc3), (19, .t hc4), (25, .f hc6)] } [0] [] hN (by kernel_rfl) (by kernel_rfl) ?_
          refine tnU ?_
          refine WpC.ret ?_
          have hq := Option.some.inj h
          subst hq
          exact eR (by kernel_rfl) (by kernel_rfl)
      · replace h := ite_f hc4 h
        refine rS { kn := [(11, .t hc2), (14, .t hc3), (19, .f hc4)] } [0] [] hN (by kernel_rfl) (by kernel_rfl) ?_
        refine tnU ?_
        refine WpC.ret ?_
        have hq := Option.some.inj h
        subst hq
        exact eR (by kernel_rfl) (by kernel_rfl)
    · replace h := ite_f hc3 h
      refine rS { kn := [(11, .t hc2), (14, .f hc3)] } [0] [] hN (by kernel_rfl) (by kernel_rfl) ?_
      refine tnU ?_
      refine WpC.ret ?_
      have hq := Option.some.inj h
      subst hq
      exact eR (by kernel_rfl) (by kernel_rfl)
  · replace h := ite_f hc2 h
    refine rS { kn := [(11, .f hc2)] } [0] [] hN (by kernel_rfl) (by kernel_rfl) ?_
    refine tnU ?_
    refine WpC.ret ?_
    have hq := Option.some.inj h
    subst hq
    exact eR (by kernel_rfl) (by kernel_rfl)

theorem millwrightlaw09_Of.ok (O : Out) (hO : GOkA O) (k : Nat) (a0 : List T_prog_Instr) (out : List T_millwrightref08_Instr) (h : millwrightlaw09_Of.f k a0 = some out) : COk Un O Tryd.prog 43 { ar := [.p (.list (.named 3)) a0], r := .p (.list (.named 6)) out } := by
  refine cok_of_wp Tryd.func43 rfl (k := 27) rfl (Nat.le_of_ble_eq_true rfl) (namesOk_pure rfl rfl rfl rfl) ?_
  intro B hN
  refine WpC.conv (cvK (b := ⟨[(0, .p (.list (.named 3)) a0)], []⟩) [0] [] (by kernel_rfl)) ?_
  unfold millwrightlaw09_Of.f at h
  refine WpC.seq ?_
  refine rS {} [0] [] hN (by kernel_rfl) (by kernel_rfl) ?_
  refine tnU ?_
  refine WpC.seq ?_
  refine rSC {} [0, 3] [6] hN (by kernel_rfl) (by kernel_rfl) (cS [.k [0, 3] [6], .x (Conv.cast (U := Un) (st := ⟨[(0, .p (.list (.named 3)) a0), (3, .vec 6 7 0 (([] : List T_millwrightref08_Instr).length))], [(6, .row 102 (.named 6) ([] : List T_millwrightref08_Instr) true)]⟩) (st' := ⟨[(0, .p (.list (.named 3)) a0), (3, .vec 6 7 0 0)], [(6, .row 102 (.named 6) ([] : List T_millwrightref08_Instr) true)]⟩) (by simp only [upd_length, List.length_nil, List.length_replicate]))] (by kernel_rfl) (by kernel_rfl)) ?_
  refine tnU ?_
  refine sqJ (fun st' => ∃ v1 : List T_millwrightref08_Instr, millwrightlaw09_Of.j2 k v1 = some out ∧ st' = ⟨[(3, .vec 1003 7 0 v1.length)], [(1003, .row 102 (.named 6) v1 false)]⟩) ?_ ?_
  · refine WpC.seq ?_
    refine rS {} [3, 7, 8, 9] [6] hN (by kernel_rfl) (by kernel_rfl) ?_
    refine tnU ?_
    refine WpC.block ?_
    obtain ⟨o7, hlo7, h⟩ := bind_some h
    have hout8 := h
    clear h
    refine WpC.conv (cS [.lo 6, .k [3, 7, 8, 9] [6], .rn 6 1003, .k [3, 7, 8, 9] [1003]] (by kernel_rfl) (by kernel_rfl)) ?_
    refine WpC.loop (U := Un) (fun n st' => ∃ v3 : List T_millwrightref08_Instr, ∃ v4 : Int, millwrightlaw09_Of.l5 k a0 n v3 v4 = some o7 ∧ st' = ⟨[(3, .vec 1003 7 0 v3.length), (7, .p (.list (.named 3)) a0), (8, .p I6 ((a0.length : Int) : Int)), (9, .p I6 v4)], [(1003, .row 102 (.named 6) v3 false)]⟩) k ⟨([] : List T_millwrightref08_Instr), 0, hlo7, by kernel_rfl⟩ ?_
    clear hlo7
    rintro (_ | n) _ ⟨v3, v4, h, rfl⟩
    · cases h
    · rw [millwrightlaw09_Of.l5] at h
      refine WpC.seq ?_
      refine rS {} [3, 7, 8, 9, 10] [1003] hN (by kernel_rfl) (by kernel_rfl) ?_
      refine tnU ?_
      refine WpC.seq ?_
      refine tS (b := (decide (v4 < (a0.length : Int)))) (by kernel_rfl) (fun hc9 => ?_) (fun hc9 => ?_)
      · replace h := ite_t hc9 h
        refine WpC.conv (cS [.k [3, 7, 8, 9] [1003]] (by kernel_rfl) (by kernel_rfl)) (WpC.skip ?_)
        refine tnU ?_
        refine WpC.seq ?_
        refine WpC.block ?_
        refine WpC.seq ?_
        obtain ⟨v10, hv10, h⟩ := bind_some h
        refine rS { its := [(0, .v (.named 3) hv10)] } [3, 5, 7, 8, 9] [5, 1003] hN (by kernel_rfl) (by kernel_rfl) ?_
        refine tnU ?_
        obtain ⟨g11, h⟩ := if_some h
        refine rS { its := [(11, .g g11)] } [3, 7, 8, 9] [24] hN (by kernel_rfl) (by kernel_rfl) ?_
        refine blockQ_normal ?_
        refine tnU ?_
        refine rSC {} [3, 7, 8, 9] [24] hN (by kernel_rfl) (by kernel_rfl) (cS [.rn 24 1003, .k [3, 7, 8, 9] [1003]] (by kernel_rfl) (by kernel_rfl)) ?_
        refine tnU ?_
        exact ⟨n, Nat.lt_succ_self n, (v3 ++ [(T_millwrightref08_Instr.mk v10.f_Op v10.f_X v10.f_Y v10.f_Set)]), (IntKind.i64.wrap (v4 + 1)), h, by kernel_rfl⟩
      · replace h := ite_f hc9 h
        refine WpC.conv (cS [.k [3] [1003]] (by kernel_rfl) (by kernel_rfl)) (WpC.exit ?_)
        refine thenQ_exit ?_
        have hq := Option.some.inj h
        subst hq
        refine thenQ_exit ?_
        have h := hout8
        refine blockQ_hit ?_
        refine tnU ?_
        exact ⟨v3, h, by kernel_rfl⟩
  · rintro _ ⟨v1, h, rfl⟩
    unfold millwrightlaw09_Of.j2 at h
    refine WpC.seq ?_
    refine rS {} [2] [1003] hN (by kernel_rfl) (by kernel_rfl) ?_
    refine tnU ?_
    refine WpC.conv (cS [.fz 2, .k [2] []] (by kernel_rfl) (by kernel_rfl)) (WpC.ret ?_)
    have hq := Option.some.inj h
    subst hq
    exact eR (by kernel_rfl) (by kernel_rfl)

theorem millwrightref06_Has.ok (O : Out) (hO : GOkA O) (k : Nat) (a0 : List Int) (a1 : Int) (out : Bool) (h : millwrightref06_Has.f k a0 a1 = some out) : COk Un O Tryd.prog 55 { ar := [.p U6 a0, .p I6 a1], r := .p .bool out } := by
  refine cok_of_wp Tryd.func55 rfl (k := 22) rfl (Nat.le_of_ble_eq_true rfl) (namesOk_pure rfl rfl rfl rfl) ?_
  intro B hN
  refine WpC.conv (cvK (b := ⟨[(0, .p U6 a0), (1, .p I6 a1)], []⟩) [0, 1] [] (by kernel_rfl)) ?_
  unfold millwrightref06_Has.f at h
  refine WpC.seq ?_
  refine rS {} [1, 2] [2] hN (by kernel_rfl) (by kernel_rfl) ?_
  refine tnU ?_
  refine WpC.seq ?_
  obtain ⟨g1, h⟩ := if_some h
  obtain ⟨g2, h⟩ := if_some h
  obtain ⟨v3, hv3, h⟩ := bind_some h
  refine rS { its := [(1, .g g1), (2, .g g2), (3, .v (.int .u64) hv3)] } [1, 5] [] hN (by kernel_rfl) (by kernel_rfl) ?_
  refine tnU ?_
  refine sqJ (fun st' => ∃ v4 : Int, millwrightref06_Has.j6 k v4 = some out ∧ st' = ⟨[(5, .p (.int .u64) v4)], []⟩) ?_ ?_
  · refine WpC.seq ?_
    refine rS {} [1, 5, 6] [] hN (by kernel_rfl) (by kernel_rfl) ?_
    refine tnU ?_
    refine WpC.block ?_
    obtain ⟨o11, hlo11, h⟩ := bind_some h
    have hout12 := h
    clear h
    refine WpC.loop (U := Un) (fun n st' => ∃ v7 : Int, ∃ v8 : Int, millwrightref06_Has.l9 k a1 n v7 v8 = some o11 ∧ st' = ⟨[(1, .p I6 a1), (5, .p (.int .u64) v7), (6, .p I6 v8)], []⟩) k ⟨v3, 0, hlo11, by kernel_rfl⟩ ?_
    clear hlo11
    rintro (_ | n) _ ⟨v7, v8, h, rfl⟩
    · cases h
    · rw [millwrightref06_Has.l9] at h
      refine WpC.seq ?_
      refine WpC.seq ?_
      obtain ⟨g13, h⟩ := if_some h
      refine rS { its := [(2, .g g13)] } [1, 5, 6, 14] [] hN (by kernel_rfl) (by kernel_rfl) ?_
      refine tnU ?_
      refine tS (b := (decide (v8 < (Int.tmod a1 64)))) (by kernel_rfl) (fun hc14 => ?_) (fun hc14 => ?_)
      · replace h := ite_t hc14 h
        refine WpC.conv (cS [.k [1, 5, 6] []] (by kernel_rfl) (by kernel_rfl)) (WpC.skip ?_)
        refine tnU ?_
        refine WpC.seq ?_
        refine WpC.block ?_
        obtain ⟨g15, h⟩ := if_some h
        refine rS { its := [(1, .g g15)] } [1, 5, 6] [] hN (by kernel_rfl) (by kernel_rfl) ?_
        refine blockQ_normal ?_
        refine tnU ?_
        refine rS {} [1, 5, 6] [] hN (by kernel_rfl) (by kernel_rfl) ?_
        refine tnU ?_
        exact ⟨n, Nat.lt_succ_self n, (IntKind.u64.wrap (Int.tdiv v7 2)), (IntKind.i64.wrap (v8 + 1)), h, by kernel_rfl⟩
      · replace h := ite_f hc14 h
        refine WpC.conv (cS [.k [5] []] (by kernel_rfl) (by kernel_rfl)) (WpC.exit ?_)
        refine thenQ_exit ?_
        have hq := Option.some.inj h
        subst hq
        refine thenQ_exit ?_
        have h := hout12
        refine blockQ_hit ?_
        refine tnU ?_
        exact ⟨v7, h, by kernel_rfl⟩
  · rintro _ ⟨v4, h, rfl⟩
    unfold millwrightref06_Has.j6 at h
    refine WpC.seq ?_
    obtain ⟨g5, h⟩ := if_some h
    refine rS { its := [(1, .g g5)] } [4] [] hN (by kernel_rfl) (by kernel_rfl) ?_
    refine tnU ?_
    refine WpC.ret ?_
    have hq := Option.some.inj h
    subst hq
    exact eR (by kernel_rfl) (by kernel_rfl)

theorem millwrightref09_search_from_m1.bok (O : Out) (hO : GOkA O) (k : Nat) (rf_millwrightref09_search_from_m1 : (List T_millwrightref08_Instr) → (List UInt8) → (List Bool) → Int → Int → (List Int) → Option ((List Int) × Bool × (List Bool))) (hrf_millwrightref09_search_from_m1 : ∀ (a0 : List T_millwrightref08_Instr) (a1 : List UInt8) (a2 : List Bool) (a3 : Int) (a4 : Int) (a5 : List Int) (out : (List Int) × Bool × (List Bool)), rf_millwrightref09_search_from_m1 a0 a1 a2 a3 a4 a5 = some out → COk Un O Tryd.prog 72 { ar := [.loc 100000 0, .p I6 a3, .p I6 a4, .p (.arr 20 I6) a5], r := .tup [.p (.arr 20 I6) out.1, .p .bool out.2.1], bs := [(100000, .box [.p (.list (.named 6)) a0, .p .str a1, .vec 100001 1 0 a2.length]), (100001, .row 4 .bool a2 false)], bs' := [(60001, .row 4 .bool out.2.2 false), (100000, .box [.p (.list (.named 6)) a0, .p .str a1, .vec 60001 1 0 out.2.2.length])], nn := [60001] }) (a0 : List T_millwrightref08_Instr) (a1 : List UInt8) (a2 : List Bool) (a3 : Int) (a4 : Int) (a5 : List Int) (out : (List Int) × Bool × (List Bool)) (h : millwrightref09_search_from_m1.b k rf_millwrightref09_search_from_m1 a0 a1 a2 a3 a4 a5 = some out) : COk Un O Tryd.prog 72 { ar := [.loc 100000 0, .p I6 a3, .p I6 a4, .p (.arr 20 I6) a5], r := .tup [.p (.arr 20 I6) out.1, .p .bool out.2.1], bs := [(100000, .box [.p (.list (.named 6)) a0, .p .str a1, .vec 100001 1 0 a2.length]), (100001, .row 4 .bool a2 false)], bs' := [(60001, .row 4 .bool out.2.2 false), (100000, .box [.p (.list (.named 6)) a0, .p .str a1, .vec 60001 1 0 out.2.2.length])], nn := [60001] } := by
  refine cok_of_wp Tryd.func72 rfl (k := 190) rfl (Nat.le_of_ble_eq_true rfl) (namesOk_of (by kernel_rfl)) ?_
  intro B hN
  refine WpC.conv (cvK (b := ⟨[(0, .loc 100000 0), (1, .p I6 a3), (2, .p I6 a4), (3, .p (.arr 20 I6) a5)], [(100000, .box [.p (.list (.named 6)) a0, .p .str a1, .vec 100001 1 0 a2.length]), (100001, .row 4 .bool a2 false)]⟩) [0, 1, 2, 3] [100000, 100001] (by kernel_rfl)) ?_
  unfold millwrightref09_search_from_m1.b at h
  refine WpC.seq ?_
  refine rS {} [0, 1, 2, 7, 8] [7, 8, 100000, 100001] hN (by kernel_rfl) (by kernel_rfl) ?_
  refine tnU ?_
  refine sqJ (fun st' => millwrightref09_search_from_m1.j36 k rf_millwrightref09_search_from_m1 a0 a1 a2 a3 a4 a5 = some out ∧ st' = ⟨[(0, .loc 100000 0), (1, .p I6 a3), (2, .p I6 a4), (7, .loc 7 0), (8, .loc 8 0)], [(7, .box [.p (.arr 20 I6) a5]), (8, .box [.p (.arr 20 I6) ((List.replicate 20 (0 : Int)) : List Int)]), (100000, .box [.p (.list (.named 6)) a0, .p .str a1, .vec 100001 1 0 a2.length]), (100001, .row 4 .bool a2 false)]⟩) ?_ ?_
  · refine sqJ (fun st' => ∃ v37 : Bool, millwrightref09_search_from_m1.j39 k rf_millwrightref09_search_from_m1 a0 a1 a2 a3 a4 a5 v37 = some out ∧ st' = ⟨[(0, .loc 100000 0), (1, .p I6 a3), (2, .p I6 a4), (7, .loc 7 0), (8, .loc 8 0), (41, .p .bool v37)], [(7, .box [.p (.arr 20 I6) a5]), (8, .box [.p (.arr 20 I6) ((List.replicate 20 (0 : Int)) : List Int)]), (100000, .box [.p (.list (.named 6)) a0, .p .str a1, .vec 100001 1 0 a2.length]), (100001, .row 4 .bool a2 false)]⟩) ?_ ?_
    · rcases bool_cases (decide (a3 < 0)) with hc40 | hc40
      · replace h := ite_t hc40 h
        refine rA { kn := [(15, .t hc40)] } [0, 1, 2, 7, 8, 41] [7, 8, 100000, 100001] hN (by kernel_rfl) (by kernel_rfl) (by kernel_rfl) ?_
        refine tnU ?_
        exact ⟨true, h, by kernel_rfl⟩
      · replace h := ite_f hc40 h
        rcases bool_cases (decide (a3 ≥ (a0.length : Int))) with hc41 | hc41
        · replace h := ite_t hc41 h
          refine rA { kn := [(15, .f hc40), (24, .t hc41)] } [0, 1, 2, 7, 8, 41] [7, 8, 100000, 100001] hN (by kernel_rfl) (by kernel_rfl) (by kernel_rfl) ?_
          refine tnU ?_
          exact ⟨true, h, by kernel_rfl⟩
        · replace h := ite_f hc41 h
          obtain ⟨g42, h⟩ := if_some h
          obtain ⟨v43, hv43, h⟩ := bind_some h
          refine rA { its := [(26, .g g42), (27, .v .bool hv43)], kn := [(15, .f hc40), (24, .f hc41)] } [0, 1, 2, 7, 8, 41] [7, 8, 100000, 100001] hN (by kernel_rfl) (by kernel_rfl) (by kernel_rfl) ?_
          refine tnU ?_
          exact ⟨v43, h, by kernel_rfl⟩
    · rintro _ ⟨v37, h, rfl⟩
      unfold millwrightref09_search_from_m1.j39 at h
      refine tS (b := v37) (by kernel_rfl) (fun hc38 => ?_) (fun hc38 => ?_)
      · replace h := ite_t hc38 h
        refine WpC.seq ?_
        refine rS {} [8, 9] [8, 100000, 100001] hN (by kernel_rfl) (by kernel_rfl) ?_
        refine tnU ?_
        refine WpC.conv (cS [.rn 100001 60001, .k [8, 9] [8, 60001, 100000]] (by kernel_rfl) (by kernel_rfl)) (WpC.ret ?_)
        refine thenQ_ret ?_
        have hq := Option.some.inj h
        subst hq
        exact eR (by kernel_rfl) (by kernel_rfl)
      · replace h := ite_f hc38 h
        refine WpC.conv (cS [.k [0, 1, 2, 7, 8] [7, 8, 100000, 100001]] (by kernel_rfl) (by kernel_rfl)) (WpC.skip ?_)
        refine tnU ?_
        exact ⟨h, by kernel_rfl⟩
  · rintro _ ⟨h, rfl⟩
    unfold millwrightref09_search_from_m1.j36 at h
    refine WpC.seq ?_
    obtain ⟨g1, h⟩ := if_some h
    obtain ⟨v2, hv2, h⟩ := bind_some h
    refine rAC { its := [(14, .g g1), (15, .v .bool hv2)] } [0, 1, 2, 7, 8] [7, 8, 100000, 100001] hN (by kernel_rfl) (by kernel_rfl) (by kernel_rfl) (cS [.k [0, 1, 2, 7, 8] [7, 8, 100000, 100001], .x (Conv.cast (U := Un) (st := ⟨[(0, .loc 100000 0), (1, .p I6 a3), (2, .p I6 a4), (7, .loc 7 0), (8, .loc 8 0)], [(7, .box [.p (.arr 20 I6) a5]), (8, .box [.p (.arr 20 I6) ((List.replicate 20 (0 : Int)) : List Int)]), (100000, .box [.p (.list (.named 6)) a0, .p .str a1, .vec 100001 1 0 a2.length]), (100001, .row 4 .bool (upd a2 (0 + (IntKind.i64.wrap ((IntKind.i64.wrap (a3 * (IntKind.i64.wrap ((a1.length : Int) + 1)))) + a4)).toNat) true) false)]⟩) (st' := ⟨[(0, .loc 100000 0), (1, .p I6 a3), (2, .p I6 a4), (7, .loc 7 0), (8, .loc 8 0)], [(7, .box [.p (.arr 20 I6) a5]), (8, .box [.p (.arr 20 I6) ((List.replicate 20 (0 : Int)) : List Int)]), (100000, .box [.p (.list (.named 6)) a0, .p .str a1, .vec 100001 1 0 ((upd a2 (0 + (IntKind.i64.wrap ((IntKind.i64.wrap (a3 * (IntKind.i64.wrap ((a1.length : Int) + 1)))) + a4)).toNat) true).length)]), (100001, .row 4 .bool (upd a2 (0 + (IntKind.i64.wrap ((IntKind.i64.wrap (a3 * (IntKind.i64.wrap ((a1.length : Int) + 1)))) + a4)).toNat) true) false)]⟩) (by simp only [upd_length, List.length_nil, List.length_replicate]))] (by kernel_rfl) (by kernel_rfl)) ?_
    refine tnU ?_
    refine WpC.seq ?_
    obtain ⟨v3, hv3, h⟩ := bind_some h
    refine rS { its := [(5, .v (.named 6) hv3)] } [0, 1, 2, 7, 8, 10] [7, 8, 10, 100000, 100001] hN (by kernel_rfl) (by kernel_rfl) ?_
    refine tnU ?_
    refine sqJ (fun st' => millwrightref09_search_from_m1.j4 k a0 a1 a2 a3 a4 = some out ∧ st' = ⟨[(8, .loc 8 0)], [(8, .box [.p (.arr 20 I6) ((List.replicate 20 (0 : Int)) : List Int)]), (100000, .box [.p (.list (.named 6)) a0, .p .str a1, .vec 100001 1 0 ((upd a2 (0 + (IntKind.i64.wrap ((IntKind.i64.wrap (a3 * (IntKind.i64.wrap ((a1.length : Int) + 1)))) + a4)).toNat) true).length)]), (100001, .row 4 .bool (upd a2 (0 + (IntKind.i64.wrap ((IntKind.i64.wrap (a3 * (IntKind.i64.wrap ((a1.length : Int) + 1)))) + a4)).toNat) true) false)]⟩) ?_ ?_
    · refine WpC.seq ?_
      refine rS {} [0, 1, 2, 7, 8, 10, 66] [7, 8, 10, 100000, 100001] hN (by kernel_rfl) (by kernel_rfl) ?_
      refine tnU ?_
      refine WpC.block ?_
      refine WpC.seq ?_
      refine rS {} [0, 1, 2, 7, 8, 10, 66, 67] [7, 8, 10, 100000, 100001] hN (by kernel_rfl) (by kernel_rfl) ?_
      refine tnU ?_
      refine tS (b := (v3.f_Op == 0)) (by kernel_rfl) (fun hc5 => ?_) (fun hc5 => ?_)
      · replace h := ite_t hc5 h
        refine sqJ (fun st' => ∃ v6 : Bool, millwrightref09_search_from_m1.j9 k rf_millwrightref09_search_from_m1 a0 a1 a2 a3 a4 a5 v6 = some out ∧ st' = ⟨[(0, .loc 100000 0), (1, .p I6 a3), (2, .p I6 a4), (7, .loc 7 0), (8, .loc 8 0), (87, .p .bool v6)], [(7, .box [.p (.arr 20 I6) a5]), (8, .box [.p (.arr 20 I6) ((List.replicate 20 (0 : Int)) : List Int)]), (100000, .box [.p (.list (.named 6)) a0, .p .str a1, .vec 100001 1 0 ((upd a2 (0 + (IntKind.i64.wrap ((IntKind.i64.wrap (a3 * (IntKind.i64.wrap ((a1.length : Int) + 1)))) + a4)).toNat) true).length)]), (100001, .row 4 .bool (upd a2 (0 + (IntKind.i64.wrap ((IntKind.i64.wrap (a3 * (IntKind.i64.wrap ((a1.length : Int) + 1)))) + a4)).toNat) true) false)]⟩) ?_ ?_
        · rcases bool_cases (decide (a4 < (a1.length : Int))) with hc10 | hc10
          · replace h := ite_t hc10 h
            obtain ⟨v11, hv11, h⟩ := bind_some h
            obtain ⟨v12, hv12, h⟩ := bind_some h
            refine rA { its := [(15, .u hv11), (17, .c (millwrightref06_Has.ok O hO k v3.f_Set (IntKind.i64.wrap (v11.toNat : Int)) v12 hv12))], kn := [(76, .t hc10)] } [0, 1, 2, 7, 8, 87] [7, 8, 100000, 100001] hN (by kernel_rfl) (by kernel_rfl) (by kernel_rfl) ?_
            refine tnU ?_
            exact ⟨v12, h, by kernel_rfl⟩
          · replace h := ite_f hc10 h
            refine rA { kn := [(76, .f hc10)] } [0, 1, 2, 7, 8, 87] [7, 8, 100000, 100001] hN (by kernel_rfl) (by kernel_rfl) (by kernel_rfl) ?_
            refine tnU ?_
            exact ⟨false, h, by kernel_rfl⟩
        · rintro _ ⟨v6, h, rfl⟩
          unfold millwrightref09_search_from_m1.j9 at h
          refine tS (b := v6) (by kernel_rfl) (fun hc7 => ?_) (fun hc7 => ?_)
          · replace h := ite_t hc7 h
            refine WpC.seq ?_
            obtain ⟨v8, hv8, h⟩ := bind_some h
            refine rS { its := [(6, .c (COk.ren (hrf_millwrightref09_search_from_m1 a0 a1 (upd a2 (0 + (IntKind.i64.wrap ((IntKind.i64.wrap (a3 * (IntKind.i64.wrap ((a1.length : Int) + 1)))) + a4)).toNat) true) (IntKind.i64.wrap (a3 + 1)) (IntKind.i64.wrap (a4 + 1)) a5 v8 hv8) (fun n => if n = 60001 then 10001 else if n = 100000 then 100000 else if n = 100001 then 100001 else n) (injOn_of (by kernel_rfl))))] } [8, 9] [8, 10001, 100000] hN (by kernel_rfl) (by kernel_rfl) ?_
            refine tnU ?_
            refine WpC.conv (cS [.rn 10001 60001, .k [8, 9] [8, 60001, 100000]] (by kernel_rfl) (by kernel_rfl)) (WpC.ret ?_)
            refine blockQ_ret ?_
            refine thenQ_ret ?_
            have hq := Option.some.inj h
            subst hq
            exact eR (by kernel_rfl) (by kernel_rfl)
          · replace h := ite_f hc7 h
            refine WpC.conv (cS [.k [8] [8, 100000, 100001]] (by kernel_rfl) (by kernel_rfl)) (WpC.skip ?_)
            refine blockQ_normal ?_
            refine tnU ?_
            exact ⟨h, by kernel_rfl⟩
      · replace h := ite_f hc5 h
        refine WpC.seq ?_
        refine rS {} [0, 1, 2, 7, 8, 10, 66, 97] [7, 8, 10, 100000, 100001] hN (by kernel_rfl) (by kernel_rfl) ?_
        refine tnU ?_
        refine tS (b := (v3.f_Op == 1)) (by kernel_rfl) (fun hc13 => ?_) (fun hc13 => ?_)
        · replace h := ite_t hc13 h
          refine WpC.seq ?_
          refine WpC.seq ?_
          obtain ⟨v14, hv14, h⟩ := bind_some h
          refine rS { its := [(5, .c (COk.ren (hrf_millwrightref09_search_from_m1 a0 a1 (upd a2 (0 + (IntKind.i64.wrap ((IntKind.i64.wrap (a3 * (IntKind.i64.wrap ((a1.length : Int) + 1)))) + a4)).toNat) true) v3.f_X a4 a5 v14 hv14) (fun n => if n = 60001 then 10002 else if n = 100000 then 100000 else if n = 100001 then 100001 else n) (injOn_of (by kernel_rfl))))] } [0, 2, 7, 8, 10, 11, 12] [7, 8, 10, 11, 10002, 100000] hN (by kernel_rfl) (by kernel_rfl) ?_
          refine tnU ?_
          refine WpC.seq ?_
          refine rS {} [0, 2, 7, 8, 10, 11, 108] [7, 8, 10, 11, 10002, 100000] hN (by kernel_rfl) (by kernel_rfl) ?_
          refine tnU ?_
          refine tS (b := v14.2.1) (by kernel_rfl) (fun hc15 => ?_) (fun hc15 => ?_)
          · replace h := ite_t hc15 h
            refine WpC.seq ?_
            refine rS {} [8, 9] [8, 10002, 100000] hN (by kernel_rfl) (by kernel_rfl) ?_
            refine tnU ?_
            refine WpC.conv (cS [.rn 10002 60001, .k [8, 9] [8, 60001, 100000]] (by kernel_rfl) (by kernel_rfl)) (WpC.ret ?_)
            refine thenQ_ret ?_
            refine blockQ_ret ?_
            refine thenQ_ret ?_
            have hq := Option.some.inj h
            subst hq
            exact eR (by kernel_rfl) (by kernel_rfl)
          · replace h := ite_f hc15 h
            refine WpC.conv (cS [.k [0, 2, 7, 8, 10] [7, 8, 10, 10002, 100000]] (by kernel_rfl) (by kernel_rfl)) (WpC.skip ?_)
            refine tnU ?_
            refine WpC.seq ?_
            obtain ⟨v16, hv16, h⟩ := bind_some h
            refine rS { its := [(5, .c (COk.ren (hrf_millwrightref09_search_from_m1 a0 a1 v14.2.2 v3.f_Y a4 a5 v16 hv16) (fun n => if n = 60001 then 10003 else if n = 100000 then 100000 else if n = 100001 then 10002 else n) (injOn_of (by kernel_rfl))))] } [8, 9] [8, 10003, 100000] hN (by kernel_rfl) (by kernel_rfl) ?_
            refine tnU ?_
            refine WpC.conv (cS [.rn 10003 60001, .k [8, 9] [8, 60001, 100000]] (by kernel_rfl) (by kernel_rfl)) (WpC.ret ?_)
            refine blockQ_ret ?_
            refine thenQ_ret ?_
            have hq := Option.some.inj h
            subst hq
            exact eR (by kernel_rfl) (by kernel_rfl)
        · replace h := ite_f hc13 h
          refine WpC.seq ?_
          refine rS {} [0, 1, 2, 7, 8, 10, 66, 118] [7, 8, 10, 100000, 100001] hN (by kernel_rfl) (by kernel_rfl) ?_
          refine tnU ?_
          refine tS (b := (v3.f_Op == 2)) (by kernel_rfl) (fun hc17 => ?_) (fun hc17 => ?_)
          · replace h := ite_t hc17 h
            refine WpC.seq ?_
            obtain ⟨v18, hv18, h⟩ := bind_some h
            refine rS { its := [(5, .c (COk.ren (hrf_millwrightref09_search_from_m1 a0 a1 (upd a2 (0 + (IntKind.i64.wrap ((IntKind.i64.wrap (a3 * (IntKind.i64.wrap ((a1.length : Int) + 1)))) + a4)).toNat) true) v3.f_X a4 a5 v18 hv18) (fun n => if n = 60001 then 10004 else if n = 100000 then 100000 else if n = 100001 then 100001 else n) (injOn_of (by kernel_rfl))))] } [8, 9] [8, 10004, 100000] hN (by kernel_rfl) (by kernel_rfl) ?_
            refine tnU ?_
            refine WpC.conv (cS [.rn 10004 60001, .k [8, 9] [8, 60001, 100000]] (by kernel_rfl) (by kernel_rfl)) (WpC.ret ?_)
            refine blockQ_ret ?_
            refine thenQ_ret ?_
            have hq := Option.some.inj h
            subst hq
            exact eR (by kernel_rfl) (by kernel_rfl)
          · replace h := ite_f hc17 h
            refine WpC.seq ?_
            refine rS {} [0, 1, 2, 7, 8, 10, 66, 128] [7, 8, 10, 100000, 100001] hN (by kernel_rfl) (by kernel_rfl) ?_
            refine tnU ?_
            refine tS (b := (v3.f_Op == 3)) (by kernel_rfl) (fun hc19 => ?_) (fun hc19 => ?_)
            · replace h := ite_t hc19 h
              refine sqJ (fun st' => ∃ v20 : List Int, millwrightref09_search_from_m1.j22 k rf_millwrightref09_search_from_m1 a0 a1 a2 a3 a4 v20 = some out ∧ st' = ⟨[(0, .loc 100000 0), (1, .p I6 a3), (2, .p I6 a4), (7, .loc 7 0), (8, .loc 8 0)], [(7, .box [.p (.arr 20 I6) v20]), (8, .box [.p (.arr 20 I6) ((List.replicate 20 (0 : Int)) : List Int)]), (100000, .box [.p (.list (.named 6)) a0, .p .str a1, .vec 100001 1 0 ((upd a2 (0 + (IntKind.i64.wrap ((IntKind.i64.wrap (a3 * (IntKind.i64.wrap ((a1.length : Int) + 1)))) + a4)).toNat) true).length)]), (100001, .row 4 .bool (upd a2 (0 + (IntKind.i64.wrap ((IntKind.i64.wrap (a3 * (IntKind.i64.wrap ((a1.length : Int) + 1)))) + a4)).toNat) true) false)]⟩) ?_ ?_
              · refine sqJ (fun st' => ∃ v23 : Bool, millwrightref09_search_from_m1.j27 k rf_millwrightref09_search_from_m1 a0 a1 a2 a3 a4 a5 v3 v23 = some out ∧ st' = ⟨[(0, .loc 100000 0), (1, .p I6 a3), (2, .p I6 a4), (7, .loc 7 0), (8, .loc 8 0), (10, .loc 10 0), (137, .p .bool v23)], [(7, .box [.p (.arr 20 I6) a5]), (8, .box [.p (.arr 20 I6) ((List.replicate 20 (0 : Int)) : List Int)]), (10, .box [.p I6 v3.f_Op, .p I6 v3.f_X, .p I6 v3.f_Y, .p U6 v3.f_Set]), (100000, .box [.p (.list (.named 6)) a0, .p .str a1, .vec 100001 1 0 ((upd a2 (0 + (IntKind.i64.wrap ((IntKind.i64.wrap (a3 * (IntKind.i64.wrap ((a1.length : Int) + 1)))) + a4)).toNat) true).length)]), (100001, .row 4 .bool (upd a2 (0 + (IntKind.i64.wrap ((IntKind.i64.wrap (a3 * (IntKind.i64.wrap ((a1.length : Int) + 1)))) + a4)).toNat) true) false)]⟩) ?_ ?_
                · rcases bool_cases (decide (v3.f_X ≥ 0)) with hc28 | hc28
                  · replace h := ite_t hc28 h
                    refine rS { kn := [(133, .t hc28)] } [0, 1, 2, 7, 8, 10, 137] [7, 8, 10, 100000, 100001] hN (by kernel_rfl) (by kernel_rfl) ?_
                    refine tnU ?_
                    exact ⟨(decide (v3.f_X < 20)), h, by kernel_rfl⟩
                  · replace h := ite_f hc28 h
                    refine rS { kn := [(133, .f hc28)] } [0, 1, 2, 7, 8, 10, 137] [7, 8, 10, 100000, 100001] hN (by kernel_rfl) (by kernel_rfl) ?_
                    refine tnU ?_
                    exact ⟨false, h, by kernel_rfl⟩
                · rintro _ ⟨v23, h, rfl⟩
                  unfold millwrightref09_search_from_m1.j27 at h
                  refine tS (b := v23) (by kernel_rfl) (fun hc24 => ?_) (fun hc24 => ?_)
                  · replace h := ite_t hc24 h
                    obtain ⟨g25, h⟩ := if_some h
                    obtain ⟨v26, hv26, h⟩ := bind_some h
                    refine rS { its := [(3, .g g25), (4, .v I6 hv26)] } [0, 1, 2, 7, 8] [7, 8, 100000, 100001] hN (by kernel_rfl) (by kernel_rfl) ?_
                    refine tnU ?_
                    exact ⟨(upd a5 v3.f_X.toNat a4), h, by kernel_rfl⟩
                  · replace h := ite_f hc24 h
                    refine WpC.conv (cS [.k [0, 1, 2, 7, 8] [7, 8, 100000, 100001]] (by kernel_rfl) (by kernel_rfl)) (WpC.skip ?_)
                    refine tnU ?_
                    exact ⟨a5, h, by kernel_rfl⟩
              · rintro _ ⟨v20, h, rfl⟩
                unfold millwrightref09_search_from_m1.j22 at h
                refine WpC.seq ?_
                obtain ⟨v21, hv21, h⟩ := bind_some h
                refine rS { its := [(5, .c (COk.ren (hrf_millwrightref09_search_from_m1 a0 a1 (upd a2 (0 + (IntKind.i64.wrap ((IntKind.i64.wrap (a3 * (IntKind.i64.wrap ((a1.length : Int) + 1)))) + a4)).toNat) true) (IntKind.i64.wrap (a3 + 1)) a4 v20 v21 hv21) (fun n => if n = 60001 then 10005 else if n = 100000 then 100000 else if n = 100001 then 100001 else n) (injOn_of (by kernel_rfl))))] } [8, 9] [8, 10005, 100000] hN (by kernel_rfl) (by kernel_rfl) ?_
                refine tnU ?_
                refine WpC.conv (cS [.rn 10005 60001, .k [8, 9] [8, 60001, 100000]] (by kernel_rfl) (by kernel_rfl)) (WpC.ret ?_)
                refine blockQ_ret ?_
                refine thenQ_ret ?_
                have hq := Option.some.inj h
                subst hq
                exact eR (by kernel_rfl) (by kernel_rfl)
            · replace h := ite_f hc19 h
              refine WpC.seq ?_
              refine rS {} [0, 1, 2, 7, 8, 66, 150] [7, 8, 100000, 100001] hN (by kernel_rfl) (by kernel_rfl) ?_
              refine tnU ?_
              refine tS (b := (v3.f_Op == 4)) (by kernel_rfl) (fun hc29 => ?_) (fun hc29 => ?_)
              · replace h := ite_t hc29 h
                refine WpC.seq ?_
                refine rS {} [0, 1, 2, 7, 8, 153] [7, 8, 100000, 100001] hN (by kernel_rfl) (by kernel_rfl) ?_
                refine tnU ?_
                refine tS (b := (a4 == 0)) (by kernel_rfl) (fun hc30 => ?_) (fun hc30 => ?_)
                · replace h := ite_t hc30 h
                  refine WpC.seq ?_
                  obtain ⟨v31, hv31, h⟩ := bind_some h
                  refine rS { its := [(5, .c (COk.ren (hrf_millwrightref09_search_from_m1 a0 a1 (upd a2 (0 + (IntKind.i64.wrap ((IntKind.i64.wrap (a3 * (IntKind.i64.wrap ((a1.length : Int) + 1)))) + a4)).toNat) true) (IntKind.i64.wrap (a3 + 1)) a4 a5 v31 hv31) (fun n => if n = 60001 then 10006 else if n = 100000 then 100000 else if n = 100001 then 100001 else n) (injOn_of (by kernel_rfl))))] } [8, 9] [8, 10006, 100000] hN (by kernel_rfl) (by kernel_rfl) ?_
                  refine tnU ?_
                  refine WpC.conv (cS [.rn 10006 60001, .k [8, 9] [8, 60001, 100000]] (by kernel_rfl) (by kernel_rfl)) (WpC.ret ?_)
                  refine blockQ_ret ?_
                  refine thenQ_ret ?_
                  have hq := Option.some.inj h
                  subst hq
                  exact eR (by kernel_rfl) (by kernel_rfl)
                · replace h := ite_f hc30 h
                  refine WpC.conv (cS [.k [8] [8, 100000, 100001]] (by kernel_rfl) (by kernel_rfl)) (WpC.skip ?_)
                  refine blockQ_normal ?_
                  refine tnU ?_
                  exact ⟨h, by kernel_rfl⟩
              · replace h := ite_f hc29 h
                refine WpC.seq ?_
                refine rS {} [0, 1, 2, 7, 8, 66, 162] [7, 8, 100000, 100001] hN (by kernel_rfl) (by kernel_rfl) ?_
                refine tnU ?_
                refine tS (b := (v3.f_Op == 5)) (by kernel_rfl) (fun hc32 => ?_) (fun hc32 => ?_)
                · replace h := ite_t hc32 h
                  refine WpC.seq ?_
                  refine rS {} [0, 1, 2, 7, 8, 170] [7, 8, 100000, 100001] hN (by kernel_rfl) (by kernel_rfl) ?_
                  refine tnU ?_
                  refine tS (b := (a4 == (a1.length : Int))) (by kernel_rfl) (fun hc33 => ?_) (fun hc33 => ?_)
                  · replace h := ite_t hc33 h
                    refine WpC.seq ?_
                    obtain ⟨v34, hv34, h⟩ := bind_some h
                    refine rS { its := [(5, .c (COk.ren (hrf_millwrightref09_search_from_m1 a0 a1 (upd a2 (0 + (IntKind.i64.wrap ((IntKind.i64.wrap (a3 * (IntKind.i64.wrap ((a1.length : Int) + 1)))) + a4)).toNat) true) (IntKind.i64.wrap (a3 + 1)) a4 a5 v34 hv34) (fun n => if n = 60001 then 10007 else if n = 100000 then 100000 else if n = 100001 then 100001 else n) (injOn_of (by kernel_rfl))))] } [8, 9] [8, 10007, 100000] hN (by kernel_rfl) (by kernel_rfl) ?_
                    refine tnU ?_
                    refine WpC.conv (cS [.rn 10007 60001, .k [8, 9] [8, 60001, 100000]] (by kernel_rfl) (by kernel_rfl)) (WpC.ret ?_)
                    refine blockQ_ret ?_
                    refine thenQ_ret ?_
                    have hq := Option.some.inj h
                    subst hq
                    exact eR (by kernel_rfl) (by kernel_rfl)
                  · replace h := ite_f hc33 h
                    refine WpC.conv (cS [.k [8] [8, 100000, 100001]] (by kernel_rfl) (by kernel_rfl)) (WpC.skip ?_)
                    refine blockQ_normal ?_
                    refine tnU ?_
                    exact ⟨h, by kernel_rfl⟩
                · replace h := ite_f hc32 h
                  refine WpC.seq ?_
                  refine rS {} [0, 2, 7, 8, 179] [7, 8, 100000, 100001] hN (by kernel_rfl) (by kernel_rfl) ?_
                  refine tnU ?_
                  refine tS (b := (v3.f_Op == 6)) (by kernel_rfl) (fun hc35 => ?_) (fun hc35 => ?_)
                  · replace h := ite_t hc35 h
                    refine WpC.seq ?_
                    refine rA {} [8, 9] [8, 100000, 100001] hN (by kernel_rfl) (by kernel_rfl) (by kernel_rfl) ?_
                    refine tnU ?_
                    refine WpC.conv (cS [.rn 100001 60001, .k [8, 9] [8, 60001, 100000]] (by kernel_rfl) (by kernel_rfl)) (WpC.ret ?_)
                    refine blockQ_ret ?_
                    refine thenQ_ret ?_
                    have hq := Option.some.inj h
                    subst hq
                    exact eR (by kernel_rfl) (by kernel_rfl)
                  · replace h := ite_f hc35 h
                    refine WpC.conv (cS [.k [8] [8, 100000, 100001]] (by kernel_rfl) (by kernel_rfl)) (WpC.skip ?_)
                    refine blockQ_normal ?_
                    refine tnU ?_
                    exact ⟨h, by kernel_rfl⟩
    · rintro _ ⟨h, rfl⟩
      unfold millwrightref09_search_from_m1.j4 at h
      refine WpC.seq ?_
      refine rS {} [8, 9] [8, 100000, 100001] hN (by kernel_rfl) (by kernel_rfl) ?_
      refine tnU ?_
      refine WpC.conv (cS [.rn 100001 60001, .k [8, 9] [8, 60001, 100000]] (by kernel_rfl) (by kernel_rfl)) (WpC.ret ?_)
      have hq := Option.some.inj h
      subst hq
      exact eR (by kernel_rfl) (by kernel_rfl)

theorem scc_millwrightref09_search_from_m1.ok (O : Out) (hO : GOkA O) : ∀ k : Nat, (∀ (a0 : List T_millwrightref08_Instr) (a1 : List UInt8) (a2 : List Bool) (a3 : Int) (a4 : Int) (a5 : List Int) (out : (List Int) × Bool × (List Bool)), millwrightref09_search_from_m1.f k a0 a1 a2 a3 a4 a5 = some out → COk Un O Tryd.prog 72 { ar := [.loc 100000 0, .p (.int .i64) a3, .p (.int .i64) a4, .p (.arr 20 (.int .i64)) a5], r := .tup [.p (.arr 20 (.int .i64)) out.1, .p .bool out.2.1], bs := [(100000, .box [.p (.list (.named 6)) a0, .p .str a1, .vec 100001 1 0 a2.length]), (100001, .row 4 .bool a2 false)], bs' := [(60001, .row 4 .bool out.2.2 false), (100000, .box [.p (.list (.named 6)) a0, .p .str a1, .vec 60001 1 0 out.2.2.length])], nn := [60001] }) := by
  intro k
  induction k with
  | zero => exact fun a0 a1 a2 a3 a4 a5 out h => (by have h2 : (none : Option ((List Int) × Bool × (List Bool))) = some out := h; cases h2)
  | succ k ih => exact fun a0 a1 a2 a3 a4 a5 out h => millwrightref09_search_from_m1.bok O hO k _ ih a0 a1 a2 a3 a4 a5 out h
theorem millwrightref09_search_from_m1.ok (O : Out) (hO : GOkA O) (k : Nat) (a0 : List T_millwrightref08_Instr) (a1 : List UInt8) (a2 : List Bool) (a3 : Int) (a4 : Int) (a5 : List Int) (out : (List Int) × Bool × (List Bool)) (h : millwrightref09_search_from_m1.f k a0 a1 a2 a3 a4 a5 = some out) : COk Un O Tryd.prog 72 { ar := [.loc 100000 0, .p (.int .i64) a3, .p (.int .i64) a4, .p (.arr 20 (.int .i64)) a5], r := .tup [.p (.arr 20 (.int .i64)) out.1, .p .bool out.2.1], bs := [(100000, .box [.p (.list (.named 6)) a0, .p .str a1, .vec 100001 1 0 a2.length]), (100001, .row 4 .bool a2 false)], bs' := [(60001, .row 4 .bool out.2.2 false), (100000, .box [.p (.list (.named 6)) a0, .p .str a1, .vec 60001 1 0 out.2.2.length])], nn := [60001] } := (scc_millwrightref09_search_from_m1.ok O hO k) a0 a1 a2 a3 a4 a5 out h

theorem millwrightref09_search_from_m0.bok (O : Out) (hO : GOkA O) (k : Nat) (rf_millwrightref09_search_from_m0 : (List T_millwrightref08_Instr) → (List UInt8) → (List Bool) → Int → Int → (List Int) → Option ((List Int) × Bool × (List Bool))) (hrf_millwrightref09_search_from_m0 : ∀ (a0 : List T_millwrightref08_Instr) (a1 : List UInt8) (a2 : List Bool) (a3 : Int) (a4 : Int) (a5 : List Int) (out : (List Int) × Bool × (List Bool)), rf_millwrightref09_search_from_m0 a0 a1 a2 a3 a4 a5 = some out → COk Un O Tryd.prog 72 { ar := [.loc 100000 0, .p I6 a3, .p I6 a4, .p (.arr 20 I6) a5], r := .tup [.p (.arr 20 I6) out.1, .p .bool out.2.1], bs := [(100000, .box [.p (.list (.named 6)) a0, .p .str a1, .vec 100001 1 0 a2.length]), (100001, .row 4 .bool a2 true)], bs' := [(60001, .row 4 .bool out.2.2 false), (100000, .box [.p (.list (.named 6)) a0, .p .str a1, .vec 60001 1 0 out.2.2.length])], nn := [60001] }) (a0 : List T_millwrightref08_Instr) (a1 : List UInt8) (a2 : List Bool) (a3 : Int) (a4 : Int) (a5 : List Int) (out : (List Int) × Bool × (List Bool)) (h : millwrightref09_search_from_m0.b k rf_millwrightref09_search_from_m0 a0 a1 a2 a3 a4 a5 = some out) : COk Un O Tryd.prog 72 { ar := [.loc 100000 0, .p I6 a3, .p I6 a4, .p (.arr 20 I6) a5], r := .tup [.p (.arr 20 I6) out.1, .p .bool out.2.1], bs := [(100000, .box [.p (.list (.named 6)) a0, .p .str a1, .vec 100001 1 0 a2.length]), (100001, .row 4 .bool a2 true)], bs' := [(60001, .row 4 .bool out.2.2 false), (100000, .box [.p (.list (.named 6)) a0, .p .str a1, .vec 60001 1 0 out.2.2.length])], nn := [60001] } := by
  refine cok_of_wp Tryd.func72 rfl (k := 190) rfl (Nat.le_of_ble_eq_true rfl) (namesOk_of (by kernel_rfl)) ?_
  intro B hN
  refine WpC.conv (cvK (b := ⟨[(0, .loc 100000 0), (1, .p I6 a3), (2, .p I6 a4), (3, .p (.arr 20 I6) a5)], [(100000, .box [.p (.list (.named 6)) a0, .p .str a1, .vec 100001 1 0 a2.length]), (100001, .row 4 .bool a2 true)]⟩) [0, 1, 2, 3] [100000, 100001] (by kernel_rfl)) ?_
  unfold millwrightref09_search_from_m0.b at h
  refine WpC.seq ?_
  refine rS {} [0, 1, 2, 7, 8] [7, 8, 100000, 100001] hN (by kernel_rfl) (by kernel_rfl) ?_
  refine tnU ?_
  refine sqJ (fun st' => millwrightref09_search_from_m0.j36 k rf_millwrightref09_search_from_m0 a0 a1 a2 a3 a4 a5 = some out ∧ st' = ⟨[(0, .loc 100000 0), (1, .p I6 a3), (2, .p I6 a4), (7, .loc 7 0), (8, .loc 8 0)], [(7, .box [.p (.arr 20 I6) a5]), (8, .box [.p (.arr 20 I6) ((List.replicate 20 (0 : Int)) : List Int)]), (100000, .box [.p (.list (.named 6)) a0, .p .str a1, .vec 100001 1 0 a2.length]), (100001, .row 4 .bool a2 true)]⟩) ?_ ?_
  · refine sqJ (fun st' => ∃ v37 : Bool, millwrightref09_search_from_m0.j39 k rf_millwrightref09_search_from_m0 a0 a1 a2 a3 a4 a5 v37 = some out ∧ st' = ⟨[(0, .loc 100000 0), (1, .p I6 a3), (2, .p I6 a4), (7, .loc 7 0), (8, .loc 8 0), (41, .p .bool v37)], [(7, .box [.p (.arr 20 I6) a5]), (8, .box [.p (.arr 20 I6) ((List.replicate 20 (0 : Int)) : List Int)]), (100000, .box [.p (.list (.named 6)) a0, .p .str a1, .vec 100001 1 0 a2.length]), (100001, .row 4 .bool a2 true)]⟩) ?_ ?_
    · rcases bool_cases (decide (a3 < 0)) with hc40 | hc40
      · replace h := ite_t hc40 h
        refine rA { kn := [(15, .t hc40)] } [0, 1, 2, 7, 8, 41] [7, 8, 100000, 100001] hN (by kernel_rfl) (by kernel_rfl) (by kernel_rfl) ?_
        refine tnU ?_
        exact ⟨true, h, by kernel_rfl⟩
      · replace h := ite_f hc40 h
        rcases bool_cases (decide (a3 ≥ (a0.length : Int))) with hc41 | hc41
        · replace h := ite_t hc41 h
          refine rA { kn := [(15, .f hc40), (24, .t hc41)] } [0, 1, 2, 7, 8, 41] [7, 8, 100000, 100001] hN (by kernel_rfl) (by kernel_rfl) (by kernel_rfl) ?_
          refine tnU ?_
          exact ⟨true, h, by kernel_rfl⟩
        · replace h := ite_f hc41 h
          obtain ⟨g42, h⟩ := if_some h
          obtain ⟨v43, hv43, h⟩ := bind_some h
          refine rA { its := [(26, .g g42), (27, .v .bool hv43)], kn := [(15, .f hc40), (24, .f hc41)] } [0, 1, 2, 7, 8, 41] [7, 8, 100000, 100001] hN (by kernel_rfl) (by kernel_rfl) (by kernel_rfl) ?_
          refine tnU ?_
          exact ⟨v43, h, by kernel_rfl⟩
    · rintro _ ⟨v37, h, rfl⟩
      unfold millwrightref09_search_from_m0.j39 at h
      refine tS (b := v37) (by kernel_rfl) (fun hc38 => ?_) (fun hc38 => ?_)
      · replace h := ite_t hc38 h
        refine WpC.seq ?_
        refine rS {} [8, 9] [8, 100000, 100001] hN (by kernel_rfl) (by kernel_rfl) ?_
        refine tnU ?_
        refine WpC.conv (cS [.lo 100001, .k [8, 9] [8, 100000, 100001], .rn 100001 60001, .k [8, 9] [8, 60001, 100000]] (by kernel_rfl) (by kernel_rfl)) (WpC.ret ?_)
        refine thenQ_ret ?_
        have hq := Option.some.inj h
        subst hq
        exact eR (by kernel_rfl) (by kernel_rfl)
      · replace h := ite_f hc38 h
        refine WpC.conv (cS [.k [0, 1, 2, 7, 8] [7, 8, 100000, 100001]] (by kernel_rfl) (by kernel_rfl)) (WpC.skip ?_)
        refine tnU ?_
        exact ⟨h, by kernel_rfl⟩
  · rintro _ ⟨h, rfl⟩
    unfold millwrightref09_search_from_m0.j36 at h
    refine WpC.seq ?_
    obtain ⟨g1, h⟩ := if_some h
    obtain ⟨v2, hv2, h⟩ := bind_some h
    refine rAC { its := [(14, .g g1), (15, .v .bool hv2)] } [0, 1, 2, 7, 8] [7, 8, 100000, 100001] hN (by kernel_rfl) (by kernel_rfl) (by kernel_rfl) (cS [.k [0, 1, 2, 7, 8] [7, 8, 100000, 100001], .x (Conv.cast (U := Un) (st := ⟨[(0, .loc 100000 0), (1, .p I6 a3), (2, .p I6 a4), (7, .loc 7 0), (8, .loc 8 0)], [(7, .box [.p (.arr 20 I6) a5]), (8, .box [.p (.arr 20 I6) ((List.replicate 20 (0 : Int)) : List Int)]), (100000, .box [.p (.list (.named 6)) a0, .p .str a1, .vec 100001 1 0 a2.length]), (100001, .row 4 .bool (upd a2 (0 + (IntKind.i64.wrap ((IntKind.i64.wrap (a3 * (IntKind.i64.wrap ((a1.length : Int) + 1)))) + a4)).toNat) true) true)]⟩) (st' := ⟨[(0, .loc 100000 0), (1, .p I6 a3), (2, .p I6 a4), (7, .loc 7 0), (8, .loc 8 0)], [(7, .box [.p (.arr 20 I6) a5]), (8, .box [.p (.arr 20 I6) ((List.replicate 20 (0 : Int)) : List Int)]), (100000, .box [.p (.list (.named 6)) a0, .p .str a1, .vec 100001 1 0 ((upd a2 (0 + (IntKind.i64.wrap ((IntKind.i64.wrap (a3 * (IntKind.i64.wrap ((a1.length : Int) + 1)))) + a4)).toNat) true).length)]), (100001, .row 4 .bool (upd a2 (0 + (IntKind.i64.wrap ((IntKind.i64.wrap (a3 * (IntKind.i64.wrap ((a1.length : Int) + 1)))) + a4)).toNat) true) true)]⟩) (by simp only [upd_length, List.length_nil, List.length_replicate]))] (by kernel_rfl) (by kernel_rfl)) ?_
    refine tnU ?_
    refine WpC.seq ?_
    obtain ⟨v3, hv3, h⟩ := bind_some h
    refine rS { its := [(5, .v (.named 6) hv3)] } [0, 1, 2, 7, 8, 10] [7, 8, 10, 100000, 100001] hN (by kernel_rfl) (by kernel_rfl) ?_
    refine tnU ?_
    refine sqJ (fun st' => millwrightref09_search_from_m0.j4 k a0 a1 a2 a3 a4 = some out ∧ st' = ⟨[(8, .loc 8 0)], [(8, .box [.p (.arr 20 I6) ((List.replicate 20 (0 : Int)) : List Int)]), (100000, .box [.p (.list (.named 6)) a0, .p .str a1, .vec 100001 1 0 ((upd a2 (0 + (IntKind.i64.wrap ((IntKind.i64.wrap (a3 * (IntKind.i64.wrap ((a1.length : Int) + 1)))) + a4)).toNat) true).length)]), (100001, .row 4 .bool (upd a2 (0 + (IntKind.i64.wrap ((IntKind.i64.wrap (a3 * (IntKind.i64.wrap ((a1.length : Int) + 1)))) + a4)).toNat) true) true)]⟩) ?_ ?_
    · refine WpC.seq ?_
      refine rS {} [0, 1, 2, 7, 8, 10, 66] [7, 8, 10, 100000, 100001] hN (by kernel_rfl) (by kernel_rfl) ?_
      refine tnU ?_
      refine WpC.block ?_
      refine WpC.seq ?_
      refine rS {} [0, 1, 2, 7, 8, 10, 66, 67] [7, 8, 10, 100000, 100001] hN (by kernel_rfl) (by kernel_rfl) ?_
      refine tnU ?_
      refine tS (b := (v3.f_Op == 0)) (by kernel_rfl) (fun hc5 => ?_) (fun hc5 => ?_)
      · replace h := ite_t hc5 h
        refine sqJ (fun st' => ∃ v6 : Bool, millwrightref09_search_from_m0.j9 k rf_millwrightref09_search_from_m0 a0 a1 a2 a3 a4 a5 v6 = some out ∧ st' = ⟨[(0, .loc 100000 0), (1, .p I6 a3), (2, .p I6 a4), (7, .loc 7 0), (8, .loc 8 0), (87, .p .bool v6)], [(7, .box [.p (.arr 20 I6) a5]), (8, .box [.p (.arr 20 I6) ((List.replicate 20 (0 : Int)) : List Int)]), (100000, .box [.p (.list (.named 6)) a0, .p .str a1, .vec 100001 1 0 ((upd a2 (0 + (IntKind.i64.wrap ((IntKind.i64.wrap (a3 * (IntKind.i64.wrap ((a1.length : Int) + 1)))) + a4)).toNat) true).length)]), (100001, .row 4 .bool (upd a2 (0 + (IntKind.i64.wrap ((IntKind.i64.wrap (a3 * (IntKind.i64.wrap ((a1.length : Int) + 1)))) + a4)).toNat) true) true)]⟩) ?_ ?_
        · rcases bool_cases (decide (a4 < (a1.length : Int))) with hc10 | hc10
          · replace h := ite_t hc10 h
            obtain ⟨v11, hv11, h⟩ := bind_some h
            obtain ⟨v12, hv12, h⟩ := bind_some h
            refine rA { its := [(15, .u hv11), (17, .c (millwrightref06_Has.ok O hO k v3.f_Set (IntKind.i64.wrap (v11.toNat : Int)) v12 hv12))], kn := [(76, .t hc10)] } [0, 1, 2, 7, 8, 87] [7, 8, 100000, 100001] hN (by kernel_rfl) (by kernel_rfl) (by kernel_rfl) ?_
            refine tnU ?_
            exact ⟨v12, h, by kernel_rfl⟩
          · replace h := ite_f hc10 h
            refine rA { kn := [(76, .f hc10)] } [0, 1, 2, 7, 8, 87] [7, 8, 100000, 100001] hN (by kernel_rfl) (by kernel_rfl) (by kernel_rfl) ?_
            refine tnU ?_
            exact ⟨false, h, by kernel_rfl⟩
        · rintro _ ⟨v6, h, rfl⟩
          unfold millwrightref09_search_from_m0.j9 at h
          refine tS (b := v6) (by kernel_rfl) (fun hc7 => ?_) (fun hc7 => ?_)
          · replace h := ite_t hc7 h
            refine WpC.seq ?_
            obtain ⟨v8, hv8, h⟩ := bind_some h
            refine rS { its := [(6, .c (COk.ren (hrf_millwrightref09_search_from_m0 a0 a1 (upd a2 (0 + (IntKind.i64.wrap ((IntKind.i64.wrap (a3 * (IntKind.i64.wrap ((a1.length : Int) + 1)))) + a4)).toNat) true) (IntKind.i64.wrap (a3 + 1)) (IntKind.i64.wrap (a4 + 1)) a5 v8 hv8) (fun n => if n = 60001 then 10001 else if n = 100000 then 100000 else if n = 100001 then 100001 else n) (injOn_of (by kernel_rfl))))] } [8, 9] [8, 10001, 100000] hN (by kernel_rfl) (by kernel_rfl) ?_
            refine tnU ?_
            refine WpC.conv (cS [.rn 10001 60001, .k [8, 9] [8, 60001, 100000]] (by kernel_rfl) (by kernel_rfl)) (WpC.ret ?_)
            refine blockQ_ret ?_
            refine thenQ_ret ?_
            have hq := Option.some.inj h
            subst hq
            exact eR (by kernel_rfl) (by kernel_rfl)
          · replace h := ite_f hc7 h
            refine WpC.conv (cS [.k [8] [8, 100000, 100001]] (by kernel_rfl) (by kernel_rfl)) (WpC.skip ?_)
            refine blockQ_normal ?_
            refine tnU ?_
            exact ⟨h, by kernel_rfl⟩
      · replace h := ite_f hc5 h
        refine WpC.seq ?_
        refine rS {} [0, 1, 2, 7, 8, 10, 66, 97] [7, 8, 10, 100000, 100001] hN (by kernel_rfl) (by kernel_rfl) ?_
        refine tnU ?_
        refine tS (b := (v3.f_Op == 1)) (by kernel_rfl) (fun hc13 => ?_) (fun hc13 => ?_)
        · replace h := ite_t hc13 h
          refine WpC.seq ?_
          refine WpC.seq ?_
          obtain ⟨v14, hv14, h⟩ := bind_some h
          refine rS { its := [(5, .c (COk.ren (hrf_millwrightref09_search_from_m0 a0 a1 (upd a2 (0 + (IntKind.i64.wrap ((IntKind.i64.wrap (a3 * (IntKind.i64.wrap ((a1.length : Int) + 1)))) + a4)).toNat) true) v3.f_X a4 a5 v14 hv14) (fun n => if n = 60001 then 10002 else if n = 100000 then 100000 else if n = 100001 then 100001 else n) (injOn_of (by kernel_rfl))))] } [0, 2, 7, 8, 10, 11, 12] [7, 8, 10, 11, 10002, 100000] hN (by kernel_rfl) (by kernel_rfl) ?_
          refine tnU ?_
          refine WpC.seq ?_
          refine rS {} [0, 2, 7, 8, 10, 11, 108] [7, 8, 10, 11, 10002, 100000] hN (by kernel_rfl) (by kernel_rfl) ?_
          refine tnU ?_
          refine tS (b := v14.2.1) (by kernel_rfl) (fun hc15 => ?_) (fun hc15 => ?_)
          · replace h := ite_t hc15 h
            refine WpC.seq ?_
            refine rS {} [8, 9] [8, 10002, 100000] hN (by kernel_rfl) (by kernel_rfl) ?_
            refine tnU ?_
            refine WpC.conv (cS [.rn 10002 60001, .k [8, 9] [8, 60001, 100000]] (by kernel_rfl) (by kernel_rfl)) (WpC.ret ?_)
            refine thenQ_ret ?_
            refine blockQ_ret ?_
            refine thenQ_ret ?_
            have hq := Option.some.inj h
            subst hq
            exact eR (by kernel_rfl) (by kernel_rfl)
          · replace h := ite_f hc15 h
            refine WpC.conv (cS [.k [0, 2, 7, 8, 10] [7, 8, 10, 10002, 100000]] (by kernel_rfl) (by kernel_rfl)) (WpC.skip ?_)
            refine tnU ?_
            refine WpC.seq ?_
            obtain ⟨v16, hv16, h⟩ := bind_some h
            refine rS { its := [(5, .c (COk.ren (millwrightref09_search_from_m1.ok O hO k a0 a1 v14.2.2 v3.f_Y a4 a5 v16 hv16) (fun n => if n = 60001 then 10003 else if n = 100000 then 100000 else if n = 100001 then 10002 else n) (injOn_of (by kernel_rfl))))] } [8, 9] [8, 10003, 100000] hN (by kernel_rfl) (by kernel_rfl) ?_
            refine tnU ?_
            refine WpC.conv (cS [.rn 10003 60001, .k [8, 9] [8, 60001, 100000]] (by kernel_rfl) (by kernel_rfl)) (WpC.ret ?_)
            refine blockQ_ret ?_
            refine thenQ_ret ?_
            have hq := Option.some.inj h
            subst hq
            exact eR (by kernel_rfl) (by kernel_rfl)
        · replace h := ite_f hc13 h
          refine WpC.seq ?_
          refine rS {} [0, 1, 2, 7, 8, 10, 66, 118] [7, 8, 10, 100000, 100001] hN (by kernel_rfl) (by kernel_rfl) ?_
          refine tnU ?_
          refine tS (b := (v3.f_Op == 2)) (by kernel_rfl) (fun hc17 => ?_) (fun hc17 => ?_)
          · replace h := ite_t hc17 h
            refine WpC.seq ?_
            obtain ⟨v18, hv18, h⟩ := bind_some h
            refine rS { its := [(5, .c (COk.ren (hrf_millwrightref09_search_from_m0 a0 a1 (upd a2 (0 + (IntKind.i64.wrap ((IntKind.i64.wrap (a3 * (IntKind.i64.wrap ((a1.length : Int) + 1)))) + a4)).toNat) true) v3.f_X a4 a5 v18 hv18) (fun n => if n = 60001 then 10004 else if n = 100000 then 100000 else if n = 100001 then 100001 else n) (injOn_of (by kernel_rfl))))] } [8, 9] [8, 10004, 100000] hN (by kernel_rfl) (by kernel_rfl) ?_
            refine tnU ?_
            refine WpC.conv (cS [.rn 10004 60001, .k [8, 9] [8, 60001, 100000]] (by kernel_rfl) (by kernel_rfl)) (WpC.ret ?_)
            refine blockQ_ret ?_
            refine thenQ_ret ?_
            have hq := Option.some.inj h
            subst hq
            exact eR (by kernel_rfl) (by kernel_rfl)
          · replace h := ite_f hc17 h
            refine WpC.seq ?_
            refine rS {} [0, 1, 2, 7, 8, 10, 66, 128] [7, 8, 10, 100000, 100001] hN (by kernel_rfl) (by kernel_rfl) ?_
            refine tnU ?_
            refine tS (b := (v3.f_Op == 3)) (by kernel_rfl) (fun hc19 => ?_) (fun hc19 => ?_)
            · replace h := ite_t hc19 h
              refine sqJ (fun st' => ∃ v20 : List Int, millwrightref09_search_from_m0.j22 k rf_millwrightref09_search_from_m0 a0 a1 a2 a3 a4 v20 = some out ∧ st' = ⟨[(0, .loc 100000 0), (1, .p I6 a3), (2, .p I6 a4), (7, .loc 7 0), (8, .loc 8 0)], [(7, .box [.p (.arr 20 I6) v20]), (8, .box [.p (.arr 20 I6) ((List.replicate 20 (0 : Int)) : List Int)]), (100000, .box [.p (.list (.named 6)) a0, .p .str a1, .vec 100001 1 0 ((upd a2 (0 + (IntKind.i64.wrap ((IntKind.i64.wrap (a3 * (IntKind.i64.wrap ((a1.length : Int) + 1)))) + a4)).toNat) true).length)]), (100001, .row 4 .bool (upd a2 (0 + (IntKind.i64.wrap ((IntKind.i64.wrap (a3 * (IntKind.i64.wrap ((a1.length : Int) + 1)))) + a4)).toNat) true) true)]⟩) ?_ ?_
              · refine sqJ (fun st' => ∃ v23 : Bool, millwrightref09_search_from_m0.j27 k rf_millwrightref09_search_from_m0 a0 a1 a2 a3 a4 a5 v3 v23 = some out ∧ st' = ⟨[(0, .loc 100000 0), (1, .p I6 a3), (2, .p I6 a4), (7, .loc 7 0), (8, .loc 8 0), (10, .loc 10 0), (137, .p .bool v23)], [(7, .box [.p (.arr 20 I6) a5]), (8, .box [.p (.arr 20 I6) ((List.replicate 20 (0 : Int)) : List Int)]), (10, .box [.p I6 v3.f_Op, .p I6 v3.f_X, .p I6 v3.f_Y, .p U6 v3.f_Set]), (100000, .box [.p (.list (.named 6)) a0, .p .str a1, .vec 100001 1 0 ((upd a2 (0 + (IntKind.i64.wrap ((IntKind.i64.wrap (a3 * (IntKind.i64.wrap ((a1.length : Int) + 1)))) + a4)).toNat) true).length)]), (100001, .row 4 .bool (upd a2 (0 + (IntKind.i64.wrap ((IntKind.i64.wrap (a3 * (IntKind.i64.wrap ((a1.length : Int) + 1)))) + a4)).toNat) true) true)]⟩) ?_ ?_
                · rcases bool_cases (decide (v3.f_X ≥ 0)) with hc28 | hc28
                  · replace h := ite_t hc28 h
                    refine rS { kn := [(133, .t hc28)] } [0, 1, 2, 7, 8, 10, 137] [7, 8, 10, 100000, 100001] hN (by kernel_rfl) (by kernel_rfl) ?_
                    refine tnU ?_
                    exact ⟨(decide (v3.f_X < 20)), h, by kernel_rfl⟩
                  · replace h := ite_f hc28 h
                    refine rS { kn := [(133, .f hc28)] } [0, 1, 2, 7, 8, 10, 137] [7, 8, 10, 100000, 100001] hN (by kernel_rfl) (by kernel_rfl) ?_
                    refine tnU ?_
                    exact ⟨false, h, by kernel_rfl⟩
                · rintro _ ⟨v23, h, rfl⟩
                  unfold millwrightref09_search_from_m0.j27 at h
                  refine tS (b := v23) (by kernel_rfl) (fun hc24 => ?_) (fun hc24 => ?_)
                  · replace h := ite_t hc24 h
                    obtain ⟨g25, h⟩ := if_some h
                    obtain ⟨v26, hv26, h⟩ := bind_some h
                    refine rS { its := [(3, .g g25), (4, .v I6 hv26)] } [0, 1, 2, 7, 8] [7, 8, 100000, 100001] hN (by kernel_rfl) (by kernel_rfl) ?_
                    refine tnU ?_
                    exact ⟨(upd a5 v3.f_X.toNat a4), h, by kernel_rfl⟩
                  · replace h := ite_f hc24 h
                    refine WpC.conv (cS [.k [0, 1, 2, 7, 8] [7, 8, 100000, 100001]] (by kernel_rfl) (by kernel_rfl)) (WpC.skip ?_)
                    refine tnU ?_
                    exact ⟨a5, h, by kernel_rfl⟩
              · rintro _ ⟨v20, h, rfl⟩
                unfold millwrightref09_search_from_m0.j22 at h
                refine WpC.seq ?_
                obtain ⟨v21, hv21, h⟩ := bind_some h
                refine rS { its := [(5, .c (COk.ren (hrf_millwrightref09_search_from_m0 a0 a1 (upd a2 (0 + (IntKind.i64.wrap ((IntKind.i64.wrap (a3 * (IntKind.i64.wrap ((a1.length : Int) + 1)))) + a4)).toNat) true) (IntKind.i64.wrap (a3 + 1)) a4 v20 v21 hv21) (fun n => if n = 60001 then 10005 else if n = 100000 then 100000 else if n = 100001 then 100001 else n) (injOn_of (by kernel_rfl))))] } [8, 9] [8, 10005, 100000] hN (by kernel_rfl) (by kernel_rfl) ?_
                refine tnU ?_
                refine WpC.conv (cS [.rn 10005 60001, .k [8, 9] [8, 60001, 100000]] (by kernel_rfl) (by kernel_rfl)) (WpC.ret ?_)
                refine blockQ_ret ?_
                refine thenQ_ret ?_
                have hq := Option.some.inj h
                subst hq
                exact eR (by kernel_rfl) (by kernel_rfl)
            · replace h := ite_f hc19 h
              refine WpC.seq ?_
              refine rS {} [0, 1, 2, 7, 8, 66, 150] [7, 8, 100000, 100001] hN (by kernel_rfl) (by kernel_rfl) ?_
              refine tnU ?_
              refine tS (b := (v3.f_Op == 4)) (by kernel_rfl) (fun hc29 => ?_) (fun hc29 => ?_)
              · replace h := ite_t hc29 h
                refine WpC.seq ?_
                refine rS {} [0, 1, 2, 7, 8, 153] [7, 8, 100000, 100001] hN (by kernel_rfl) (by kernel_rfl) ?_
                refine tnU ?_
                refine tS (b := (a4 == 0)) (by kernel_rfl) (fun hc30 => ?_) (fun hc30 => ?_)
                · replace h := ite_t hc30 h
                  refine WpC.seq ?_
                  obtain ⟨v31, hv31, h⟩ := bind_some h
                  refine rS { its := [(5, .c (COk.ren (hrf_millwrightref09_search_from_m0 a0 a1 (upd a2 (0 + (IntKind.i64.wrap ((IntKind.i64.wrap (a3 * (IntKind.i64.wrap ((a1.length : Int) + 1)))) + a4)).toNat) true) (IntKind.i64.wrap (a3 + 1)) a4 a5 v31 hv31) (fun n => if n = 60001 then 10006 else if n = 100000 then 100000 else if n = 100001 then 100001 else n) (injOn_of (by kernel_rfl))))] } [8, 9] [8, 10006, 100000] hN (by kernel_rfl) (by kernel_rfl) ?_
                  refine tnU ?_
                  refine WpC.conv (cS [.rn 10006 60001, .k [8, 9] [8, 60001, 100000]] (by kernel_rfl) (by kernel_rfl)) (WpC.ret ?_)
                  refine blockQ_ret ?_
                  refine thenQ_ret ?_
                  have hq := Option.some.inj h
                  subst hq
                  exact eR (by kernel_rfl) (by kernel_rfl)
                · replace h := ite_f hc30 h
                  refine WpC.conv (cS [.k [8] [8, 100000, 100001]] (by kernel_rfl) (by kernel_rfl)) (WpC.skip ?_)
                  refine blockQ_normal ?_
                  refine tnU ?_
                  exact ⟨h, by kernel_rfl⟩
              · replace h := ite_f hc29 h
                refine WpC.seq ?_
                refine rS {} [0, 1, 2, 7, 8, 66, 162] [7, 8, 100000, 100001] hN (by kernel_rfl) (by kernel_rfl) ?_
                refine tnU ?_
                refine tS (b := (v3.f_Op == 5)) (by kernel_rfl) (fun hc32 => ?_) (fun hc32 => ?_)
                · replace h := ite_t hc32 h
                  refine WpC.seq ?_
                  refine rS {} [0, 1, 2, 7, 8, 170] [7, 8, 100000, 100001] hN (by kernel_rfl) (by kernel_rfl) ?_
                  refine tnU ?_
                  refine tS (b := (a4 == (a1.length : Int))) (by kernel_rfl) (fun hc33 => ?_) (fun hc33 => ?_)
                  · replace h := ite_t hc33 h
                    refine WpC.seq ?_
                    obtain ⟨v34, hv34, h⟩ := bind_some h
                    refine rS { its := [(5, .c (COk.ren (hrf_millwrightref09_search_from_m0 a0 a1 (upd a2 (0 + (IntKind.i64.wrap ((IntKind.i64.wrap (a3 * (IntKind.i64.wrap ((a1.length : Int) + 1)))) + a4)).toNat) true) (IntKind.i64.wrap (a3 + 1)) a4 a5 v34 hv34) (fun n => if n = 60001 then 10007 else if n = 100000 then 100000 else if n = 100001 then 100001 else n) (injOn_of (by kernel_rfl))))] } [8, 9] [8, 10007, 100000] hN (by kernel_rfl) (by kernel_rfl) ?_
                    refine tnU ?_
                    refine WpC.conv (cS [.rn 10007 60001, .k [8, 9] [8, 60001, 100000]] (by kernel_rfl) (by kernel_rfl)) (WpC.ret ?_)
                    refine blockQ_ret ?_
                    refine thenQ_ret ?_
                    have hq := Option.some.inj h
                    subst hq
                    exact eR (by kernel_rfl) (by kernel_rfl)
                  · replace h := ite_f hc33 h
                    refine WpC.conv (cS [.k [8] [8, 100000, 100001]] (by kernel_rfl) (by kernel_rfl)) (WpC.skip ?_)
                    refine blockQ_normal ?_
                    refine tnU ?_
                    exact ⟨h, by kernel_rfl⟩
                · replace h := ite_f hc32 h
                  refine WpC.seq ?_
                  refine rS {} [0, 2, 7, 8, 179] [7, 8, 100000, 100001] hN (by kernel_rfl) (by kernel_rfl) ?_
                  refine tnU ?_
                  refine tS (b := (v3.f_Op == 6)) (by kernel_rfl) (fun hc35 => ?_) (fun hc35 => ?_)
                  · replace h := ite_t hc35 h
                    refine WpC.seq ?_
                    refine rA {} [8, 9] [8, 100000, 100001] hN (by kernel_rfl) (by kernel_rfl) (by kernel_rfl) ?_
                    refine tnU ?_
                    refine WpC.conv (cS [.lo 100001, .k [8, 9] [8, 100000, 100001], .rn 100001 60001, .k [8, 9] [8, 60001, 100000]] (by kernel_rfl) (by kernel_rfl)) (WpC.ret ?_)
                    refine blockQ_ret ?_
                    refine thenQ_ret ?_
                    have hq := Option.some.inj h
                    subst hq
                    exact eR (by kernel_rfl) (by kernel_rfl)
                  · replace h := ite_f hc35 h
                    refine WpC.conv (cS [.k [8] [8, 100000, 100001]] (by kernel_rfl) (by kernel_rfl)) (WpC.skip ?_)
                    refine blockQ_normal ?_
                    refine tnU ?_
                    exact ⟨h, by kernel_rfl⟩
    · rintro _ ⟨h, rfl⟩
      unfold millwrightref09_search_from_m0.j4 at h
      refine WpC.seq ?_
      refine rS {} [8, 9] [8, 100000, 100001] hN (by kernel_rfl) (by kernel_rfl) ?_
      refine tnU ?_
      refine WpC.conv (cS [.lo 100001, .k [8, 9] [8, 100000, 100001], .rn 100001 60001, .k [8, 9] [8, 60001, 100000]] (by kernel_rfl) (by kernel_rfl)) (WpC.ret ?_)
      have hq := Option.some.inj h
      subst hq
      exact eR (by kernel_rfl) (by kernel_rfl)

theorem scc_millwrightref09_search_from_m0.ok (O : Out) (hO : GOkA O) : ∀ k : Nat, (∀ (a0 : List T_millwrightref08_Instr) (a1 : List UInt8) (a2 : List Bool) (a3 : Int) (a4 : Int) (a5 : List Int) (out : (List Int) × Bool × (List Bool)), millwrightref09_search_from_m0.f k a0 a1 a2 a3 a4 a5 = some out → COk Un O Tryd.prog 72 { ar := [.loc 100000 0, .p (.int .i64) a3, .p (.int .i64) a4, .p (.arr 20 (.int .i64)) a5], r := .tup [.p (.arr 20 (.int .i64)) out.1, .p .bool out.2.1], bs := [(100000, .box [.p (.list (.named 6)) a0, .p .str a1, .vec 100001 1 0 a2.length]), (100001, .row 4 .bool a2 true)], bs' := [(60001, .row 4 .bool out.2.2 false), (100000, .box [.p (.list (.named 6)) a0, .p .str a1, .vec 60001 1 0 out.2.2.length])], nn := [60001] }) := by
  intro k
  induction k with
  | zero => exact fun a0 a1 a2 a3 a4 a5 out h => (by have h2 : (none : Option ((List Int) × Bool × (List Bool))) = some out := h; cases h2)
  | succ k ih => exact fun a0 a1 a2 a3 a4 a5 out h => millwrightref09_search_from_m0.bok O hO k _ ih a0 a1 a2 a3 a4 a5 out h
theorem millwrightref09_search_from_m0.ok (O : Out) (hO : GOkA O) (k : Nat) (a0 : List T_millwrightref08_Instr) (a1 : List UInt8) (a2 : List Bool) (a3 : Int) (a4 : Int) (a5 : List Int) (out : (List Int) × Bool × (List Bool)) (h : millwrightref09_search_from_m0.f k a0 a1 a2 a3 a4 a5 = some out) : COk Un O Tryd.prog 72 { ar := [.loc 100000 0, .p (.int .i64) a3, .p (.int .i64) a4, .p (.arr 20 (.int .i64)) a5], r := .tup [.p (.arr 20 (.int .i64)) out.1, .p .bool out.2.1], bs := [(100000, .box [.p (.list (.named 6)) a0, .p .str a1, .vec 100001 1 0 a2.length]), (100001, .row 4 .bool a2 true)], bs' := [(60001, .row 4 .bool out.2.2 false), (100000, .box [.p (.list (.named 6)) a0, .p .str a1, .vec 60001 1 0 out.2.2.length])], nn := [60001] } := (scc_millwrightref09_search_from_m0.ok O hO k) a0 a1 a2 a3 a4 a5 out h

end Go.Proofs.YthmbbdemecljpaaDoor
