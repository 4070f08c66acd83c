/- A part of the proof of a given law: PMC4. Own work, printed in part by a program of mine. -/
import Derived.Test.YthmbbdemecljpaaDoorK13PMC3
namespace Go.Proofs.YthmbbdemecljpaaDoor
open Go Go.AM
set_option linter.unusedVariables false
set_option linter.unusedSimpArgs false
set_option maxRecDepth 100000
theorem millwrightref09_Match.ok (O : Out) (hO : GOkA O) (k : Nat) (a0 : List T_millwrightref08_Instr) (a1 : List UInt8) (out : (List Int) × Bool) (h : millwrightref09_Match.f k a0 a1 = some out) : COk Un O Tryd.prog 42 { ar := [.p (.list (.named 6)) a0, .p .str a1], r := .tup [.p (.arr 20 I6) out.1, .p .bool out.2] } := by
  refine cok_of_wp Tryd.func42 rfl (k := 39) rfl (Nat.le_of_ble_eq_true rfl) (namesOk_pure rfl rfl rfl rfl) ?_
  intro B hN
  refine WpC.conv (cvK (b := ⟨[(0, .p (.list (.named 6)) a0), (1, .p .str a1)], []⟩) [0, 1] [] (by kernel_rfl)) ?_
  unfold millwrightref09_Match.f at h
  refine WpC.seq ?_
  refine rS {} [0, 1, 4] [4] hN (by kernel_rfl) (by kernel_rfl) ?_
  refine tnU ?_
  refine WpC.seq ?_
  obtain ⟨g1, h⟩ := if_some h
  refine rSC { its := [(8, .g g1)] } [4, 6] [4, 19, 21] hN (by kernel_rfl) (by kernel_rfl) (cS [.k [4, 6] [4, 19, 21], .x (Conv.cast (U := Un) (st := ⟨[(4, .loc 4 0), (6, .loc 21 0)], [(4, .box [.p (.arr 20 I6) ((List.replicate 20 (0 : Int)) : List Int)]), (19, .row 4 .bool (List.replicate (IntKind.i64.wrap ((a0.length : Int) * (IntKind.i64.wrap ((a1.length : Int) + 1)))).toNat false) true), (21, .box [.p (.list (.named 6)) a0, .p .str a1, .vec 19 1 0 ((IntKind.i64.wrap ((a0.length : Int) * (IntKind.i64.wrap ((a1.length : Int) + 1)))).toNat)])]⟩) (st' := ⟨[(4, .loc 4 0), (6, .loc 21 0)], [(4, .box [.p (.arr 20 I6) ((List.replicate 20 (0 : Int)) : List Int)]), (19, .row 4 .bool (List.replicate (IntKind.i64.wrap ((a0.length : Int) * (IntKind.i64.wrap ((a1.length : Int) + 1)))).toNat false) true), (21, .box [.p (.list (.named 6)) a0, .p .str a1, .vec 19 1 0 ((List.replicate (IntKind.i64.wrap ((a0.length : Int) * (IntKind.i64.wrap ((a1.length : Int) + 1)))).toNat false).length)])]⟩) (by simp only [upd_length, List.length_nil, List.length_replicate]))] (by kernel_rfl) (by kernel_rfl)) ?_
  refine tnU ?_
  refine WpC.seq ?_
  refine rS {} [4, 6, 7] [4, 7, 19, 21] hN (by kernel_rfl) (by kernel_rfl) ?_
  refine tnU ?_
  refine sqJ (fun st' => ∃ v2 : List Int, millwrightref09_Match.j5 k a0 a1 v2 = some out ∧ st' = ⟨[(4, .loc 4 0), (6, .loc 21 0), (7, .loc 7 0)], [(4, .box [.p (.arr 20 I6) ((List.replicate 20 (0 : Int)) : List Int)]), (7, .box [.p (.arr 20 I6) v2]), (19, .row 4 .bool (List.replicate (IntKind.i64.wrap ((a0.length : Int) * (IntKind.i64.wrap ((a1.length : Int) + 1)))).toNat false) true), (21, .box [.p (.list (.named 6)) a0, .p .str a1, .vec 19 1 0 ((List.replicate (IntKind.i64.wrap ((a0.length : Int) * (IntKind.i64.wrap ((a1.length : Int) + 1)))).toNat false).length)])]⟩) ?_ ?_
  · refine WpC.seq ?_
    refine rS {} [4, 6, 7, 23] [4, 7, 19, 21] hN (by kernel_rfl) (by kernel_rfl) ?_
    refine tnU ?_
    refine WpC.block ?_
    obtain ⟨o10, hlo10, h⟩ := bind_some h
    have hout11 := h
    clear h
    refine WpC.loop (U := Un) (fun n st' => ∃ v6 : List Int, ∃ v7 : Int, millwrightref09_Match.l8 k a0 a1 n v6 v7 = some o10 ∧ st' = ⟨[(4, .loc 4 0), (6, .loc 21 0), (7, .loc 7 0), (23, .p I6 v7)], [(4, .box [.p (.arr 20 I6) ((List.replicate 20 (0 : Int)) : List Int)]), (7, .box [.p (.arr 20 I6) v6]), (19, .row 4 .bool (List.replicate (IntKind.i64.wrap ((a0.length : Int) * (IntKind.i64.wrap ((a1.length : Int) + 1)))).toNat false) true), (21, .box [.p (.list (.named 6)) a0, .p .str a1, .vec 19 1 0 ((List.replicate (IntKind.i64.wrap ((a0.length : Int) * (IntKind.i64.wrap ((a1.length : Int) + 1)))).toNat false).length)])]⟩) k ⟨(List.replicate 20 (0 : Int)), 0, hlo10, by kernel_rfl⟩ ?_
    clear hlo10
    rintro (_ | n) _ ⟨v6, v7, h, rfl⟩
    · cases h
    · rw [millwrightref09_Match.l8] at h
      refine WpC.seq ?_
      refine rS {} [4, 6, 7, 23, 24] [4, 7, 19, 21] hN (by kernel_rfl) (by kernel_rfl) ?_
      refine tnU ?_
      refine WpC.seq ?_
      refine tS (b := (decide (v7 < 20))) (by kernel_rfl) (fun hc12 => ?_) (fun hc12 => ?_)
      · replace h := ite_t hc12 h
        refine WpC.conv (cS [.k [4, 6, 7, 23] [4, 7, 19, 21]] (by kernel_rfl) (by kernel_rfl)) (WpC.skip ?_)
        refine tnU ?_
        refine WpC.seq ?_
        refine WpC.block ?_
        refine WpC.seq ?_
        refine rS {} [4, 6, 7, 8, 23] [4, 7, 19, 21] hN (by kernel_rfl) (by kernel_rfl) ?_
        refine tnU ?_
        obtain ⟨g13, h⟩ := if_some h
        obtain ⟨v14, hv14, h⟩ := bind_some h
        refine rS { its := [(1, .g g13), (2, .v I6 hv14)] } [4, 6, 7, 23] [4, 7, 19, 21] hN (by kernel_rfl) (by kernel_rfl) ?_
        refine blockQ_normal ?_
        refine tnU ?_
        refine rS {} [4, 6, 7, 23] [4, 7, 19, 21] hN (by kernel_rfl) (by kernel_rfl) ?_
        refine tnU ?_
        exact ⟨n, Nat.lt_succ_self n, (upd v6 v7.toNat (-1 : Int)), (IntKind.i64.wrap (v7 + 1)), h, by kernel_rfl⟩
      · replace h := ite_f hc12 h
        refine WpC.conv (cS [.k [4, 6, 7] [4, 7, 19, 21]] (by kernel_rfl) (by kernel_rfl)) (WpC.exit ?_)
        refine thenQ_exit ?_
        have hq := Option.some.inj h
        subst hq
        refine thenQ_exit ?_
        have h := hout11
        refine blockQ_hit ?_
        refine tnU ?_
        exact ⟨v6, h, by kernel_rfl⟩
  · rintro _ ⟨v2, h, rfl⟩
    unfold millwrightref09_Match.j5 at h
    refine WpC.seq ?_
    obtain ⟨v3, hv3, h⟩ := bind_some h
    refine rS { its := [(2, .c (COk.ren (millwrightref09_search_from_m0.ok O hO k a0 a1 (List.replicate (IntKind.i64.wrap ((a0.length : Int) * (IntKind.i64.wrap ((a1.length : Int) + 1)))).toNat false) 0 0 v2 v3 hv3) (fun n => if n = 60001 then 10001 else if n = 100000 then 21 else if n = 100001 then 19 else n) (injOn_of (by kernel_rfl))))] } [4, 9, 10] [4, 9] hN (by kernel_rfl) (by kernel_rfl) ?_
    refine tnU ?_
    refine WpC.seq ?_
    refine WpC.seq ?_
    refine rS {} [4, 9, 36] [4, 9] hN (by kernel_rfl) (by kernel_rfl) ?_
    refine tnU ?_
    refine tS (b := (!v3.2.1)) (by kernel_rfl) (fun hc4 => ?_) (fun hc4 => ?_)
    · replace h := ite_t hc4 h
      refine WpC.seq ?_
      refine rS {} [4, 5] [4] hN (by kernel_rfl) (by kernel_rfl) ?_
      refine tnU ?_
      refine WpC.ret ?_
      refine thenQ_ret ?_
      have hq := Option.some.inj h
      subst hq
      exact eR (by kernel_rfl) (by kernel_rfl)
    · replace h := ite_f hc4 h
      refine WpC.conv (cS [.k [4, 9] [4, 9]] (by kernel_rfl) (by kernel_rfl)) (WpC.skip ?_)
      refine tnU ?_
      refine WpC.seq ?_
      refine rS {} [4, 5] [4] hN (by kernel_rfl) (by kernel_rfl) ?_
      refine tnU ?_
      refine WpC.ret ?_
      have hq := Option.some.inj h
      subst hq
      exact eR (by kernel_rfl) (by kernel_rfl)

theorem millwrightnum_SameInts.ok (O : Out) (hO : GOkA O) (k : Nat) (a0 : List Int) (a1 : List Int) (out : Bool) (h : millwrightnum_SameInts.f k a0 a1 = some out) : COk Un O Tryd.prog 25 { ar := [.p (.list I6) a0, .p (.list I6) a1], r := .p .bool out } := by
  refine cok_of_wp Tryd.func25 rfl (k := 26) rfl (Nat.le_of_ble_eq_true rfl) (namesOk_pure rfl rfl rfl rfl) ?_
  intro B hN
  refine WpC.conv (cvK (b := ⟨[(0, .p (.list I6) a0), (1, .p (.list I6) a1)], []⟩) [0, 1] [] (by kernel_rfl)) ?_
  unfold millwrightnum_SameInts.f at h
  refine WpC.seq ?_
  refine rS {} [0, 1] [] hN (by kernel_rfl) (by kernel_rfl) ?_
  refine tnU ?_
  refine WpC.seq ?_
  refine WpC.seq ?_
  refine rS {} [0, 1, 10] [] hN (by kernel_rfl) (by kernel_rfl) ?_
  refine tnU ?_
  refine tS (b := ((a0.length : Int) != (a1.length : Int))) (by kernel_rfl) (fun hc1 => ?_) (fun hc1 => ?_)
  · replace h := ite_t hc1 h
    refine WpC.seq ?_
    refine rS {} [4] [] hN (by kernel_rfl) (by kernel_rfl) ?_
    refine tnU ?_
    refine WpC.ret ?_
    refine thenQ_ret ?_
    have hq := Option.some.inj h
    subst hq
    exact eR (by kernel_rfl) (by kernel_rfl)
  · replace h := ite_f hc1 h
    refine WpC.conv (cS [.k [0, 1] []] (by kernel_rfl) (by kernel_rfl)) (WpC.skip ?_)
    refine tnU ?_
    refine sqJ (fun st' => millwrightnum_SameInts.j2 k = some out ∧ st' = ⟨[], []⟩) ?_ ?_
    · refine WpC.seq ?_
      refine rS {} [0, 1, 12, 13] [] hN (by kernel_rfl) (by kernel_rfl) ?_
      refine tnU ?_
      refine WpC.block ?_
      obtain ⟨o5, hlo5, h⟩ := bind_some h
      have hout6 := h
      clear h
      refine WpC.loop (U := Un) (fun n st' => ∃ v3 : Int, millwrightnum_SameInts.l4 k a0 a1 n v3 = some o5 ∧ st' = ⟨[(0, .p (.list I6) a0), (1, .p (.list I6) a1), (12, .p I6 ((a0.length : Int) : Int)), (13, .p I6 v3)], []⟩) k ⟨0, hlo5, by kernel_rfl⟩ ?_
      clear hlo5
      rintro (_ | n) _ ⟨v3, h, rfl⟩
      · cases h
      · rw [millwrightnum_SameInts.l4] at h
        refine WpC.seq ?_
        refine rS {} [0, 1, 12, 13, 14] [] hN (by kernel_rfl) (by kernel_rfl) ?_
        refine tnU ?_
        refine WpC.seq ?_
        refine tS (b := (decide (v3 < (a0.length : Int)))) (by kernel_rfl) (fun hc7 => ?_) (fun hc7 => ?_)
        · replace h := ite_t hc7 h
          refine WpC.conv (cS [.k [0, 1, 12, 13] []] (by kernel_rfl) (by kernel_rfl)) (WpC.skip ?_)
          refine tnU ?_
          refine WpC.seq ?_
          refine WpC.block ?_
          refine WpC.seq ?_
          refine rS {} [0, 1, 5, 12, 13] [] hN (by kernel_rfl) (by kernel_rfl) ?_
          refine tnU ?_
          refine WpC.seq ?_
          obtain ⟨v8, hv8, h⟩ := bind_some h
          obtain ⟨v9, hv9, h⟩ := bind_some h
          refine rA { its := [(2, .v I6 hv8), (6, .v I6 hv9)] } [0, 1, 12, 13, 24] [] hN (by kernel_rfl) (by kernel_rfl) (by kernel_rfl) ?_
          refine tnU ?_
          refine tS (b := (v8 != v9)) (by kernel_rfl) (fun hc10 => ?_) (fun hc10 => ?_)
          · replace h := ite_t hc10 h
            refine WpC.seq ?_
            refine rS {} [4] [] hN (by kernel_rfl) (by kernel_rfl) ?_
            refine tnU ?_
            refine WpC.ret ?_
            refine blockQ_ret ?_
            refine thenQ_ret ?_
            have hq := Option.some.inj h
            subst hq
            refine thenQ_ret ?_
            have h := hout6
            refine blockQ_ret ?_
            refine thenQ_ret ?_
            have hq := Option.some.inj h
            subst hq
            exact eR (by kernel_rfl) (by kernel_rfl)
          · replace h := ite_f hc10 h
            refine WpC.conv (cS [.k [0, 1, 12, 13] []] (by kernel_rfl) (by kernel_rfl)) (WpC.skip ?_)
            refine blockQ_normal ?_
            refine tnU ?_
            refine rS {} [0, 1, 12, 13] [] hN (by kernel_rfl) (by kernel_rfl) ?_
            refine tnU ?_
            exact ⟨n, Nat.lt_succ_self n, (IntKind.i64.wrap (v3 + 1)), h, by kernel_rfl⟩
        · replace h := ite_f hc7 h
          refine WpC.conv (cS [.k [] []] (by kernel_rfl) (by kernel_rfl)) (WpC.exit ?_)
          refine thenQ_exit ?_
          have hq := Option.some.inj h
          subst hq
          refine thenQ_exit ?_
          have h := hout6
          refine blockQ_hit ?_
          refine tnU ?_
          exact ⟨h, by kernel_rfl⟩
    · rintro _ ⟨h, rfl⟩
      unfold millwrightnum_SameInts.j2 at h
      refine WpC.seq ?_
      refine rS {} [4] [] hN (by kernel_rfl) (by kernel_rfl) ?_
      refine tnU ?_
      refine WpC.ret ?_
      have hq := Option.some.inj h
      subst hq
      exact eR (by kernel_rfl) (by kernel_rfl)

theorem millwrightlaw09_PikeMatches.ok (O : Out) (hO : GOkA O) (k : Nat) (a0 : List T_prog_Instr) (a1 : List UInt8) (out : Bool) (h : millwrightlaw09_PikeMatches.f k a0 a1 = some out) : COk Un O Tryd.prog 9 { ar := [.p (.list (.named 3)) a0, .p .str a1], r := .p .bool out } := by
  refine cok_of_wp Tryd.func9 rfl (k := 43) rfl (Nat.le_of_ble_eq_true rfl) (namesOk_pure rfl rfl rfl rfl) ?_
  intro B hN
  refine WpC.conv (cvK (b := ⟨[(0, .p (.list (.named 3)) a0), (1, .p .str a1)], []⟩) [0, 1] [] (by kernel_rfl)) ?_
  unfold millwrightlaw09_PikeMatches.f at h
  refine WpC.seq ?_
  refine rS {} [0, 1] [] hN (by kernel_rfl) (by kernel_rfl) ?_
  refine tnU ?_
  refine WpC.seq ?_
  refine WpC.seq ?_
  obtain ⟨v1, hv1, h⟩ := bind_some h
  refine rS { its := [(0, .c (millwrightlaw09_alive.ok O hO k v1 hv1))] } [0, 1, 10] [] hN (by kernel_rfl) (by kernel_rfl) ?_
  refine tnU ?_
  refine tS (b := (!v1)) (by kernel_rfl) (fun hc2 => ?_) (fun hc2 => ?_)
  · replace h := ite_t hc2 h
    refine WpC.seq ?_
    refine rS {} [4] [] hN (by kernel_rfl) (by kernel_rfl) ?_
    refine tnU ?_
    refine WpC.ret ?_
    refine thenQ_ret ?_
    have hq := Option.some.inj h
    subst hq
    exact eR (by kernel_rfl) (by kernel_rfl)
  · replace h := ite_f hc2 h
    refine WpC.conv (cS [.k [0, 1] []] (by kernel_rfl) (by kernel_rfl)) (WpC.skip ?_)
    refine tnU ?_
    refine sqJ (fun st' => millwrightlaw09_PikeMatches.j9 k a0 a1 = some out ∧ st' = ⟨[(0, .p (.list (.named 3)) a0), (1, .p .str a1)], []⟩) ?_ ?_
    · refine sqJ (fun st' => ∃ v10 : Bool, millwrightlaw09_PikeMatches.j12 k a0 a1 v10 = some out ∧ st' = ⟨[(0, .p (.list (.named 3)) a0), (1, .p .str a1), (18, .p .bool v10)], []⟩) ?_ ?_
      · rcases bool_cases (decide ((a0.length : Int) > 60)) with hc13 | hc13
        · replace h := ite_t hc13 h
          refine rS { kn := [(14, .t hc13)] } [0, 1, 18] [] hN (by kernel_rfl) (by kernel_rfl) ?_
          refine tnU ?_
          exact ⟨true, h, by kernel_rfl⟩
        · replace h := ite_f hc13 h
          refine rS { kn := [(14, .f hc13)] } [0, 1, 18] [] hN (by kernel_rfl) (by kernel_rfl) ?_
          refine tnU ?_
          exact ⟨(decide ((a1.length : Int) > 60)), h, by kernel_rfl⟩
      · rintro _ ⟨v10, h, rfl⟩
        unfold millwrightlaw09_PikeMatches.j12 at h
        refine tS (b := v10) (by kernel_rfl) (fun hc11 => ?_) (fun hc11 => ?_)
        · replace h := ite_t hc11 h
          refine WpC.seq ?_
          refine rS {} [4] [] hN (by kernel_rfl) (by kernel_rfl) ?_
          refine tnU ?_
          refine WpC.ret ?_
          refine thenQ_ret ?_
          have hq := Option.some.inj h
          subst hq
          exact eR (by kernel_rfl) (by kernel_rfl)
        · replace h := ite_f hc11 h
          refine WpC.conv (cS [.k [0, 1] []] (by kernel_rfl) (by kernel_rfl)) (WpC.skip ?_)
          refine tnU ?_
          exact ⟨h, by kernel_rfl⟩
    · rintro _ ⟨h, rfl⟩
      unfold millwrightlaw09_PikeMatches.j9 at h
      refine WpC.seq ?_
      obtain ⟨v3, hv3, h⟩ := bind_some h
      refine rS { its := [(2, .c (pike_Match.ok O hO k a0 a1 v3 hv3))] } [0, 1, 5, 6] [] hN (by kernel_rfl) (by kernel_rfl) ?_
      refine tnU ?_
      refine WpC.seq ?_
      obtain ⟨v4, hv4, h⟩ := bind_some h
      obtain ⟨v5, hv5, h⟩ := bind_some h
      refine rS { its := [(1, .c (millwrightlaw09_Of.ok O hO k a0 v4 hv4)), (3, .c (millwrightref09_Match.ok O hO k v4 a1 v5 hv5))] } [5, 6, 7, 8] [7] hN (by kernel_rfl) (by kernel_rfl) ?_
      refine tnU ?_
      refine WpC.seq ?_
      refine WpC.seq ?_
      refine rS {} [5, 6, 7, 34] [7] hN (by kernel_rfl) (by kernel_rfl) ?_
      refine tnU ?_
      refine tS (b := (!(v3.2 == v5.2))) (by kernel_rfl) (fun hc6 => ?_) (fun hc6 => ?_)
      · replace h := ite_t hc6 h
        refine WpC.seq ?_
        refine rS {} [4] [] hN (by kernel_rfl) (by kernel_rfl) ?_
        refine tnU ?_
        refine WpC.ret ?_
        refine thenQ_ret ?_
        have hq := Option.some.inj h
        subst hq
        exact eR (by kernel_rfl) (by kernel_rfl)
      · replace h := ite_f hc6 h
        refine WpC.conv (cS [.k [5, 6, 7] [7]] (by kernel_rfl) (by kernel_rfl)) (WpC.skip ?_)
        refine tnU ?_
        refine WpC.seq ?_
        refine WpC.seq ?_
        refine rS {} [5, 7, 36] [7] hN (by kernel_rfl) (by kernel_rfl) ?_
        refine tnU ?_
        refine tS (b := (!v3.2)) (by kernel_rfl) (fun hc7 => ?_) (fun hc7 => ?_)
        · replace h := ite_t hc7 h
          refine WpC.seq ?_
          refine rS {} [4] [] hN (by kernel_rfl) (by kernel_rfl) ?_
          refine tnU ?_
          refine WpC.ret ?_
          refine thenQ_ret ?_
          have hq := Option.some.inj h
          subst hq
          exact eR (by kernel_rfl) (by kernel_rfl)
        · replace h := ite_f hc7 h
          refine WpC.conv (cS [.k [5, 7] [7]] (by kernel_rfl) (by kernel_rfl)) (WpC.skip ?_)
          refine tnU ?_
          refine WpC.seq ?_
          refine WpC.conv (cS [.fq 7 (.arr 20 I6), .k [5, 7] []] (by kernel_rfl) (by kernel_rfl)) ?_
          obtain ⟨v8, hv8, h⟩ := bind_some h
          refine rS { its := [(1, .e 1 (sok_sliceA (U := Un) (rs := [(7, .pp (.arr 20 I6) v5.1)]) rfl rfl Tryd.underlying69 ty_3 o0)), (2, .c (millwrightnum_SameInts.ok O hO k v3.1 v5.1 v8 hv8))] } [4] [] hN (by kernel_rfl) (by kernel_rfl) ?_
          refine tnU ?_
          refine WpC.ret ?_
          have hq := Option.some.inj h
          subst hq
          exact eR (by kernel_rfl) (by kernel_rfl)

end Go.Proofs.YthmbbdemecljpaaDoor
