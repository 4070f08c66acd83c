/- A part of the proof of a given law: XWC7. Own work, printed in part by a program of mine. -/
import Derived.Test.YtldepagjdbcmgaaGreatDoorK23XWC6
namespace Go.Proofs.YtldepagjdbcmgaaGreatDoor
open Go Go.AM
set_option linter.unusedVariables false
set_option linter.unusedSimpArgs false
set_option maxRecDepth 100000
set_option maxHeartbeats 4000000
theorem millwrightref11_End.ok (O : Out) (hO : GOk O) (k : Nat) (a0 : List UInt8) (a1 : Int) (out : Int) (h : millwrightref11_End.f k a0 a1 = some out) : COk Un O Tryz.prog 83 { ar := [.p .str a0, .p I6 a1], r := .p I6 out } := by
  refine cok_of_wp Tryz.func83 rfl (k := 54) rfl (Nat.le_of_ble_eq_true rfl) (namesOk_pure rfl rfl rfl rfl) ?_
  intro B hN
  refine WpC.conv (cvK (b := ⟨[(0, .p .str a0), (1, .p I6 a1)], []⟩) [0, 1] [] (by kernel_rfl)) ?_
  unfold millwrightref11_End.f at h
  refine WpC.seq ?_
  refine rS {} [0, 1] [] hN (by kernel_rfl) (by kernel_rfl) ?_
  refine tnU ?_
  refine sqJ (fun st' => millwrightref11_End.j21 k a0 a1 = some out ∧ st' = ⟨[(0, .p .str a0), (1, .p I6 a1)], []⟩) ?_ ?_
  · refine sqJ (fun st' => ∃ v22 : Bool, millwrightref11_End.j24 k a0 a1 v22 = some out ∧ st' = ⟨[(0, .p .str a0), (1, .p I6 a1), (19, .p .bool v22)], []⟩) ?_ ?_
    · rcases bool_cases (decide (a1 < 0)) with hc25 | hc25
      · replace h := ite_t hc25 h
        refine rS { kn := [(8, .t hc25)] } [0, 1, 19] [] hN (by kernel_rfl) (by kernel_rfl) ?_
        refine tnU ?_
        exact ⟨true, h, by kernel_rfl⟩
      · replace h := ite_f hc25 h
        rcases bool_cases (decide (a1 ≥ (a0.length : Int))) with hc26 | hc26
        · replace h := ite_t hc26 h
          refine rS { kn := [(8, .f hc25), (14, .t hc26)] } [0, 1, 19] [] hN (by kernel_rfl) (by kernel_rfl) ?_
          refine tnU ?_
          exact ⟨true, h, by kernel_rfl⟩
        · replace h := ite_f hc26 h
          obtain ⟨v27, hv27, h⟩ := bind_some h
          refine rS { its := [(11, .u hv27)], kn := [(8, .f hc25), (14, .f hc26)] } [0, 1, 19] [] hN (by kernel_rfl) (by kernel_rfl) ?_
          refine tnU ?_
          exact ⟨((v27.toNat : Int) != 39), h, by kernel_rfl⟩
    · rintro _ ⟨v22, h, rfl⟩
      unfold millwrightref11_End.j24 at h
      refine tS (b := v22) (by kernel_rfl) (fun hc23 => ?_) (fun hc23 => ?_)
      · replace h := ite_t hc23 h
        refine WpC.seq ?_
        refine rS {} [4] [] hN (by kernel_rfl) (by kernel_rfl) ?_
        refine tnU ?_
        refine WpC.ret ?_
        refine thenQ_ret ?_
        have hq := Option.some.inj h
        subst hq
        exact eR (by kernel_rfl) (by kernel_rfl)
      · replace h := ite_f hc23 h
        refine WpC.conv (cS [.k [0, 1] []] (by kernel_rfl) (by kernel_rfl)) (WpC.skip ?_)
        refine tnU ?_
        exact ⟨h, by kernel_rfl⟩
  · rintro _ ⟨h, rfl⟩
    unfold millwrightref11_End.j21 at h
    refine WpC.seq ?_
    refine rS {} [0, 5] [] hN (by kernel_rfl) (by kernel_rfl) ?_
    refine tnU ?_
    refine sqJ (fun st' => millwrightref11_End.j1 k = some out ∧ st' = ⟨[], []⟩) ?_ ?_
    · refine WpC.block ?_
      obtain ⟨o4, hlo4, h⟩ := bind_some h
      have hout5 := h
      clear h
      refine WpC.loop (U := Un) (fun n st' => ∃ v2 : Int, millwrightref11_End.l3 k a0 n v2 = some o4 ∧ st' = ⟨[(0, .p .str a0), (5, .p I6 v2)], []⟩) k ⟨(IntKind.i64.wrap (a1 + 1)), hlo4, by kernel_rfl⟩ ?_
      clear hlo4
      rintro (_ | n) _ ⟨v2, h, rfl⟩
      · cases h
      · rw [millwrightref11_End.l3] at h
        refine WpC.seq ?_
        refine WpC.seq ?_
        refine rS {} [0, 5, 25] [] hN (by kernel_rfl) (by kernel_rfl) ?_
        refine tnU ?_
        refine tS (b := (decide (v2 < (a0.length : Int)))) (by kernel_rfl) (fun hc6 => ?_) (fun hc6 => ?_)
        · replace h := ite_t hc6 h
          refine WpC.conv (cS [.k [0, 5] []] (by kernel_rfl) (by kernel_rfl)) (WpC.skip ?_)
          refine tnU ?_
          refine WpC.block ?_
          refine sqJ (fun st' => millwrightref11_End.j11 k (millwrightref11_End.l3 k a0 n) a0 v2 = some o4 ∧ st' = ⟨[(0, .p .str a0), (5, .p I6 v2)], []⟩) ?_ ?_
          · refine sqJ (fun st' => ∃ v12 : Bool, millwrightref11_End.j14 k (millwrightref11_End.l3 k a0 n) a0 v2 v12 = some o4 ∧ st' = ⟨[(0, .p .str a0), (5, .p I6 v2), (43, .p .bool v12)], []⟩) ?_ ?_
            · obtain ⟨v15, hv15, h⟩ := bind_some h
              rcases bool_cases ((v15.toNat : Int) == 39) with hc16 | hc16
              · replace h := ite_t hc16 h
                rcases bool_cases (v2 == (IntKind.i64.wrap ((a0.length : Int) - 1))) with hc17 | hc17
                · replace h := ite_t hc17 h
                  refine rS { its := [(2, .u hv15)], kn := [(30, .t hc16), (36, .t hc17)] } [0, 5, 43] [] hN (by kernel_rfl) (by kernel_rfl) ?_
                  refine tnU ?_
                  exact ⟨true, h, by kernel_rfl⟩
                · replace h := ite_f hc17 h
                  obtain ⟨v18, hv18, h⟩ := bind_some h
                  refine rS { its := [(2, .u hv15), (14, .u hv18)], kn := [(30, .t hc16), (36, .f hc17)] } [0, 5, 43] [] hN (by kernel_rfl) (by kernel_rfl) ?_
                  refine tnU ?_
                  exact ⟨((v18.toNat : Int) != 39), h, by kernel_rfl⟩
              · replace h := ite_f hc16 h
                refine rS { its := [(2, .u hv15)], kn := [(30, .f hc16)] } [0, 5, 43] [] hN (by kernel_rfl) (by kernel_rfl) ?_
                refine tnU ?_
                exact ⟨false, h, by kernel_rfl⟩
            · rintro _ ⟨v12, h, rfl⟩
              unfold millwrightref11_End.j14 at h
              refine tS (b := v12) (by kernel_rfl) (fun hc13 => ?_) (fun hc13 => ?_)
              · replace h := ite_t hc13 h
                refine WpC.seq ?_
                refine rS {} [4] [] hN (by kernel_rfl) (by kernel_rfl) ?_
                refine tnU ?_
                refine WpC.ret ?_
                refine thenQ_ret ?_
                refine blockQ_ret ?_
                have hq := Option.some.inj h
                subst hq
                refine thenQ_ret ?_
                have h := hout5
                refine blockQ_ret ?_
                refine thenQ_ret ?_
                have hq := Option.some.inj h
                subst hq
                exact eR (by kernel_rfl) (by kernel_rfl)
              · replace h := ite_f hc13 h
                refine WpC.conv (cS [.k [0, 5] []] (by kernel_rfl) (by kernel_rfl)) (WpC.skip ?_)
                refine tnU ?_
                exact ⟨h, by kernel_rfl⟩
          · rintro _ ⟨h, rfl⟩
            unfold millwrightref11_End.j11 at h
            refine sqJ (fun st' => ∃ v7 : Int, millwrightref11_End.j8 k (millwrightref11_End.l3 k a0 n) a0 v7 = some o4 ∧ st' = ⟨[(0, .p .str a0), (5, .p I6 v7)], []⟩) ?_ ?_
            · refine WpC.seq ?_
              obtain ⟨v9, hv9, h⟩ := bind_some h
              refine rS { its := [(2, .u hv9)] } [0, 5, 49] [] hN (by kernel_rfl) (by kernel_rfl) ?_
              refine tnU ?_
              refine tS (b := ((v9.toNat : Int) == 39)) (by kernel_rfl) (fun hc10 => ?_) (fun hc10 => ?_)
              · replace h := ite_t hc10 h
                refine rS {} [0, 5] [] hN (by kernel_rfl) (by kernel_rfl) ?_
                refine tnU ?_
                exact ⟨(IntKind.i64.wrap (v2 + 1)), h, by kernel_rfl⟩
              · replace h := ite_f hc10 h
                refine WpC.conv (cS [.k [0, 5] []] (by kernel_rfl) (by kernel_rfl)) (WpC.skip ?_)
                refine tnU ?_
                exact ⟨v2, h, by kernel_rfl⟩
            · rintro _ ⟨v7, h, rfl⟩
              unfold millwrightref11_End.j8 at h
              refine rS {} [0, 5] [] hN (by kernel_rfl) (by kernel_rfl) ?_
              refine blockQ_normal ?_
              refine tnU ?_
              exact ⟨n, Nat.lt_succ_self n, (IntKind.i64.wrap (v7 + 1)), h, by kernel_rfl⟩
        · replace h := ite_f hc6 h
          refine WpC.conv (cS [.k [] []] (by kernel_rfl) (by kernel_rfl)) (WpC.exit ?_)
          refine thenQ_exit ?_
          have hq := Option.some.inj h
          subst hq
          refine thenQ_exit ?_
          have h := hout5
          refine blockQ_hit ?_
          refine tnU ?_
          exact ⟨h, by kernel_rfl⟩
    · rintro _ ⟨h, rfl⟩
      unfold millwrightref11_End.j1 at h
      refine WpC.seq ?_
      refine rS {} [4] [] hN (by kernel_rfl) (by kernel_rfl) ?_
      refine tnU ?_
      refine WpC.ret ?_
      have hq := Option.some.inj h
      subst hq
      exact eR (by kernel_rfl) (by kernel_rfl)

theorem millwrightref13_pattern.ok (O : Out) (hO : GOk O) (k : Nat) (a0 : List UInt8) (a1 : Int) (out : Int) (h : millwrightref13_pattern.f k a0 a1 = some out) : COk Un O Tryz.prog 115 { ar := [.p .str a0, .p I6 a1], r := .p I6 out } := by
  refine cok_of_wp Tryz.func115 rfl (k := 43) rfl (Nat.le_of_ble_eq_true rfl) (namesOk_pure rfl rfl rfl rfl) ?_
  intro B hN
  refine WpC.conv (cvK (b := ⟨[(0, .p .str a0), (1, .p I6 a1)], []⟩) [0, 1] [] (by kernel_rfl)) ?_
  unfold millwrightref13_pattern.f at h
  refine WpC.seq ?_
  refine rS {} [0, 1] [] hN (by kernel_rfl) (by kernel_rfl) ?_
  refine tnU ?_
  refine sqJ (fun st' => ∃ v1 : Int, millwrightref13_pattern.j2 k v1 = some out ∧ st' = ⟨[(1, .p I6 v1)], []⟩) ?_ ?_
  · refine WpC.block ?_
    obtain ⟨o6, hlo6, h⟩ := bind_some h
    have hout7 := h
    clear h
    refine WpC.loop (U := Un) (fun n st' => ∃ v3 : Int, millwrightref13_pattern.l4 k a0 n v3 = some o6 ∧ st' = ⟨[(0, .p .str a0), (1, .p I6 v3)], []⟩) k ⟨a1, hlo6, by kernel_rfl⟩ ?_
    clear hlo6
    rintro (_ | n) _ ⟨v3, h, rfl⟩
    · cases h
    · rw [millwrightref13_pattern.l4] at h
      refine WpC.seq ?_
      refine WpC.seq ?_
      refine rS {} [0, 1, 9] [] hN (by kernel_rfl) (by kernel_rfl) ?_
      refine tnU ?_
      refine tS (b := (decide (v3 < (a0.length : Int)))) (by kernel_rfl) (fun hc8 => ?_) (fun hc8 => ?_)
      · replace h := ite_t hc8 h
        refine WpC.conv (cS [.k [0, 1] []] (by kernel_rfl) (by kernel_rfl)) (WpC.skip ?_)
        refine tnU ?_
        refine WpC.block ?_
        refine WpC.seq ?_
        obtain ⟨v9, hv9, h⟩ := bind_some h
        refine rS { its := [(2, .u hv9)] } [0, 1, 5] [] hN (by kernel_rfl) (by kernel_rfl) ?_
        refine tnU ?_
        refine sqJ (fun st' => millwrightref13_pattern.j10 k (millwrightref13_pattern.l4 k a0 n) a0 v3 = some o6 ∧ st' = ⟨[(0, .p .str a0), (1, .p I6 v3)], []⟩) ?_ ?_
        · refine sqJ (fun st' => ∃ v11 : Bool, millwrightref13_pattern.j13 k (millwrightref13_pattern.l4 k a0 n) a0 v3 v11 = some o6 ∧ st' = ⟨[(0, .p .str a0), (1, .p I6 v3), (38, .p .bool v11)], []⟩) ?_ ?_
          · obtain ⟨v14, hv14, h⟩ := bind_some h
            rcases bool_cases v14 with hc15 | hc15
            · replace h := ite_t hc15 h
              refine rS { its := [(1, .c (millwrightref11_Blank.ok O hO k (v9.toNat : Int) v14 hv14))], kn := [(15, .t hc15)] } [0, 1, 38] [] hN (by kernel_rfl) (by kernel_rfl) ?_
              refine tnU ?_
              exact ⟨true, h, by kernel_rfl⟩
            · replace h := ite_f hc15 h
              rcases bool_cases ((v9.toNat : Int) == 39) with hc16 | hc16
              · replace h := ite_t hc16 h
                refine rS { its := [(1, .c (millwrightref11_Blank.ok O hO k (v9.toNat : Int) v14 hv14))], kn := [(15, .f hc15), (19, .t hc16)] } [0, 1, 38] [] hN (by kernel_rfl) (by kernel_rfl) ?_
                refine tnU ?_
                exact ⟨true, h, by kernel_rfl⟩
              · replace h := ite_f hc16 h
                rcases bool_cases ((v9.toNat : Int) == 36) with hc17 | hc17
                · replace h := ite_t hc17 h
                  refine rS { its := [(1, .c (millwrightref11_Blank.ok O hO k (v9.toNat : Int) v14 hv14))], kn := [(15, .f hc15), (19, .f hc16), (23, .t hc17)] } [0, 1, 38] [] hN (by kernel_rfl) (by kernel_rfl) ?_
                  refine tnU ?_
                  exact ⟨true, h, by kernel_rfl⟩
                · replace h := ite_f hc17 h
                  rcases bool_cases ((v9.toNat : Int) == 96) with hc18 | hc18
                  · replace h := ite_t hc18 h
                    refine rS { its := [(1, .c (millwrightref11_Blank.ok O hO k (v9.toNat : Int) v14 hv14))], kn := [(15, .f hc15), (19, .f hc16), (23, .f hc17), (27, .t hc18)] } [0, 1, 38] [] hN (by kernel_rfl) (by kernel_rfl) ?_
                    refine tnU ?_
                    exact ⟨true, h, by kernel_rfl⟩
                  · replace h := ite_f hc18 h
                    rcases bool_cases ((v9.toNat : Int) == 61) with hc19 | hc19
                    · replace h := ite_t hc19 h
                      refine rS { its := [(1, .c (millwrightref11_Blank.ok O hO k (v9.toNat : Int) v14 hv14))], kn := [(15, .f hc15), (19, .f hc16), (23, .f hc17), (27, .f hc18), (31, .t hc19)] } [0, 1, 38] [] hN (by kernel_rfl) (by kernel_rfl) ?_
                      refine tnU ?_
                      exact ⟨true, h, by kernel_rfl⟩
                    · replace h := ite_f hc19 h
                      rcases bool_cases ((v9.toNat : Int) == 123) with hc20 | hc20
                      · replace h := ite_t hc20 h
                        refine rS { its := [(1, .c (millwrightref11_Blank.ok O hO k (v9.toNat : Int) v14 hv14))], kn := [(15, .f hc15), (19, .f hc16), (23, .f hc17), (27, .f hc18), (31, .f hc19), (35, .t hc20)] } [0, 1, 38] [] hN (by kernel_rfl) (by kernel_rfl) ?_
                        refine tnU ?_
                        exact ⟨true, h, by kernel_rfl⟩
                      · replace h := ite_f hc20 h
                        refine rS { its := [(1, .c (millwrightref11_Blank.ok O hO k (v9.toNat : Int) v14 hv14))], kn := [(15, .f hc15), (19, .f hc16), (23, .f hc17), (27, .f hc18), (31, .f hc19), (35, .f hc20)] } [0, 1, 38] [] hN (by kernel_rfl) (by kernel_rfl) ?_
                        refine tnU ?_
                        exact ⟨((v9.toNat : Int) == 125), h, by kernel_rfl⟩
          · rintro _ ⟨v11, h, rfl⟩
            unfold millwrightref13_pattern.j13 at h
            refine tS (b := v11) (by kernel_rfl) (fun hc12 => ?_) (fun hc12 => ?_)
            · replace h := ite_t hc12 h
              refine WpC.seq ?_
              refine rS {} [4] [] hN (by kernel_rfl) (by kernel_rfl) ?_
              refine tnU ?_
              refine WpC.ret ?_
              refine thenQ_ret ?_
              refine blockQ_ret ?_
              have hq := Option.some.inj h
              subst hq
              refine thenQ_ret ?_
              have h := hout7
              refine blockQ_ret ?_
              refine thenQ_ret ?_
              have hq := Option.some.inj h
              subst hq
              exact eR (by kernel_rfl) (by kernel_rfl)
            · replace h := ite_f hc12 h
              refine WpC.conv (cS [.k [0, 1] []] (by kernel_rfl) (by kernel_rfl)) (WpC.skip ?_)
              refine tnU ?_
              exact ⟨h, by kernel_rfl⟩
        · rintro _ ⟨h, rfl⟩
          unfold millwrightref13_pattern.j10 at h
          refine rS {} [0, 1] [] hN (by kernel_rfl) (by kernel_rfl) ?_
          refine blockQ_normal ?_
          refine tnU ?_
          exact ⟨n, Nat.lt_succ_self n, (IntKind.i64.wrap (v3 + 1)), h, by kernel_rfl⟩
      · replace h := ite_f hc8 h
        refine WpC.conv (cS [.k [1] []] (by kernel_rfl) (by kernel_rfl)) (WpC.exit ?_)
        refine thenQ_exit ?_
        have hq := Option.some.inj h
        subst hq
        refine thenQ_exit ?_
        have h := hout7
        refine blockQ_hit ?_
        refine tnU ?_
        exact ⟨v3, h, by kernel_rfl⟩
  · rintro _ ⟨v1, h, rfl⟩
    unfold millwrightref13_pattern.j2 at h
    refine WpC.seq ?_
    refine rS {} [4] [] hN (by kernel_rfl) (by kernel_rfl) ?_
    refine tnU ?_
    refine WpC.ret ?_
    have hq := Option.some.inj h
    subst hq
    exact eR (by kernel_rfl) (by kernel_rfl)

theorem millwrightref13_dollar.ok (O : Out) (hO : GOk O) (k : Nat) (a0 : List UInt8) (a1 : Int) (out : T_lex_Piece × Int × Int) (h : millwrightref13_dollar.f k a0 a1 = some out) : COk Un O Tryz.prog 84 { ar := [.p .str a0, .p I6 a1], r := .tup [.p (.named 5) out.1, .p I6 out.2.1, .p I6 out.2.2] } := by
  refine cok_of_wp Tryz.func84 rfl (k := 112) rfl (Nat.le_of_ble_eq_true rfl) (namesOk_pure rfl rfl rfl rfl) ?_
  intro B hN
  refine WpC.conv (cvK (b := ⟨[(0, .p .str a0), (1, .p I6 a1)], []⟩) [0, 1] [] (by kernel_rfl)) ?_
  unfold millwrightref13_dollar.f at h
  refine WpC.seq ?_
  refine rS {} [0, 1, 4] [4] hN (by kernel_rfl) (by kernel_rfl) ?_
  refine tnU ?_
  refine WpC.seq ?_
  refine rS {} [0, 4, 7] [4] hN (by kernel_rfl) (by kernel_rfl) ?_
  refine tnU ?_
  refine sqJ (fun st' => ∃ v1 : Bool, millwrightref13_dollar.j51 k a0 a1 v1 = some out ∧ st' = ⟨[(0, .p .str a0), (4, .loc 4 0), (7, .p I6 ((IntKind.i64.wrap (a1 + 1)) : Int)), (8, .p .bool v1)], [(4, .box [.p I6 (0 : Int), .p .str ([] : List UInt8), .p .str ([] : List UInt8), .p .str ([] : List UInt8)])]⟩) ?_ ?_
  · rcases bool_cases (decide ((IntKind.i64.wrap (a1 + 1)) < (a0.length : Int))) with hc52 | hc52
    · replace h := ite_t hc52 h
      obtain ⟨v53, hv53, h⟩ := bind_some h
      refine rS { its := [(7, .u hv53)], kn := [(18, .t hc52)] } [0, 4, 7, 8] [4] hN (by kernel_rfl) (by kernel_rfl) ?_
      refine tnU ?_
      exact ⟨((v53.toNat : Int) == 123), h, by kernel_rfl⟩
    · replace h := ite_f hc52 h
      refine rS { kn := [(18, .f hc52)] } [0, 4, 7, 8] [4] hN (by kernel_rfl) (by kernel_rfl) ?_
      refine tnU ?_
      exact ⟨false, h, by kernel_rfl⟩
  · rintro _ ⟨v1, h, rfl⟩
    unfold millwrightref13_dollar.j51 at h
    refine sqJ (fun st' => ∃ v2 : Int, millwrightref13_dollar.j49 k a0 v1 v2 = some out ∧ st' = ⟨[(0, .p .str a0), (4, .loc 4 0), (7, .p I6 v2), (8, .p .bool v1)], [(4, .box [.p I6 (0 : Int), .p .str ([] : List UInt8), .p .str ([] : List UInt8), .p .str ([] : List UInt8)])]⟩) ?_ ?_
    · refine WpC.seq ?_
      refine rS {} [0, 4, 7, 8, 24] [4] hN (by kernel_rfl) (by kernel_rfl) ?_
      refine tnU ?_
      refine tS (b := v1) (by kernel_rfl) (fun hc50 => ?_) (fun hc50 => ?_)
      · replace h := ite_t hc50 h
        refine rS {} [0, 4, 7, 8] [4] hN (by kernel_rfl) (by kernel_rfl) ?_
        refine tnU ?_
        exact ⟨(IntKind.i64.wrap ((IntKind.i64.wrap (a1 + 1)) + 1)), h, by kernel_rfl⟩
      · replace h := ite_f hc50 h
        refine WpC.conv (cS [.k [0, 4, 7, 8] [4]] (by kernel_rfl) (by kernel_rfl)) (WpC.skip ?_)
        refine tnU ?_
        exact ⟨(IntKind.i64.wrap (a1 + 1)), h, by kernel_rfl⟩
    · rintro _ ⟨v2, h, rfl⟩
      unfold millwrightref13_dollar.j49 at h
      refine WpC.seq ?_
      refine rS {} [0, 4, 7, 8, 9] [4] hN (by kernel_rfl) (by kernel_rfl) ?_
      refine tnU ?_
      refine sqJ (fun st' => ∃ v3 : Int, millwrightref13_dollar.j35 k a0 v1 v2 v3 = some out ∧ st' = ⟨[(0, .p .str a0), (4, .loc 4 0), (7, .p I6 v2), (8, .p .bool v1), (9, .p I6 v3)], [(4, .box [.p I6 (0 : Int), .p .str ([] : List UInt8), .p .str ([] : List UInt8), .p .str ([] : List UInt8)])]⟩) ?_ ?_
      · refine WpC.block ?_
        obtain ⟨o39, hlo39, h⟩ := bind_some h
        have hout40 := h
        clear h
        refine WpC.loop (U := Un) (fun n st' => ∃ v36 : Int, millwrightref13_dollar.l37 k a0 v1 v2 n v36 = some o39 ∧ st' = ⟨[(0, .p .str a0), (4, .loc 4 0), (7, .p I6 v2), (8, .p .bool v1), (9, .p I6 v36)], [(4, .box [.p I6 (0 : Int), .p .str ([] : List UInt8), .p .str ([] : List UInt8), .p .str ([] : List UInt8)])]⟩) k ⟨v2, hlo39, by kernel_rfl⟩ ?_
        clear hlo39
        rintro (_ | n) _ ⟨v36, h, rfl⟩
        · cases h
        · rw [millwrightref13_dollar.l37] at h
          refine sqJ (fun st' => millwrightref13_dollar.j41 k (millwrightref13_dollar.l37 k a0 v1 v2 n) a0 v1 v2 v36 = some o39 ∧ st' = ⟨[(0, .p .str a0), (4, .loc 4 0), (7, .p I6 v2), (8, .p .bool v1), (9, .p I6 v36)], [(4, .box [.p I6 (0 : Int), .p .str ([] : List UInt8), .p .str ([] : List UInt8), .p .str ([] : List UInt8)])]⟩) ?_ ?_
          · refine sqJ (fun st' => ∃ v42 : Bool, millwrightref13_dollar.j44 k (millwrightref13_dollar.l37 k a0 v1 v2 n) a0 v1 v2 v36 v42 = some o39 ∧ st' = ⟨[(0, .p .str a0), (4, .loc 4 0), (7, .p I6 v2), (8, .p .bool v1), (9, .p I6 v36), (37, .p .bool v42)], [(4, .box [.p I6 (0 : Int), .p .str ([] : List UInt8), .p .str ([] : List UInt8), .p .str ([] : List UInt8)])]⟩) ?_ ?_
            · rcases bool_cases (decide (v36 < (a0.length : Int))) with hc45 | hc45
              · replace h := ite_t hc45 h
                obtain ⟨v46, hv46, h⟩ := bind_some h
                obtain ⟨v47, hv47, h⟩ := bind_some h
                refine rS { its := [(7, .u hv46), (8, .c (millwrightref13_letter.ok O hO k (v46.toNat : Int) v47 hv47))], kn := [(32, .t hc45)] } [0, 4, 7, 8, 9, 37] [4] hN (by kernel_rfl) (by kernel_rfl) ?_
                refine tnU ?_
                exact ⟨v47, h, by kernel_rfl⟩
              · replace h := ite_f hc45 h
                refine rS { kn := [(32, .f hc45)] } [0, 4, 7, 8, 9, 37] [4] hN (by kernel_rfl) (by kernel_rfl) ?_
                refine tnU ?_
                exact ⟨false, h, by kernel_rfl⟩
            · rintro _ ⟨v42, h, rfl⟩
              unfold millwrightref13_dollar.j44 at h
              refine tS (b := v42) (by kernel_rfl) (fun hc43 => ?_) (fun hc43 => ?_)
              · replace h := ite_t hc43 h
                refine WpC.conv (cS [.k [0, 4, 7, 8, 9] [4]] (by kernel_rfl) (by kernel_rfl)) (WpC.skip ?_)
                refine tnU ?_
                exact ⟨h, by kernel_rfl⟩
              · replace h := ite_f hc43 h
                refine WpC.conv (cS [.k [0, 4, 7, 8, 9] [4]] (by kernel_rfl) (by kernel_rfl)) (WpC.exit ?_)
                refine thenQ_exit ?_
                have hq := Option.some.inj h
                subst hq
                refine thenQ_exit ?_
                have h := hout40
                refine blockQ_hit ?_
                refine tnU ?_
                exact ⟨v36, h, by kernel_rfl⟩
          · rintro _ ⟨h, rfl⟩
            unfold millwrightref13_dollar.j41 at h
            refine WpC.block ?_
            refine rS {} [0, 4, 7, 8, 9] [4] hN (by kernel_rfl) (by kernel_rfl) ?_
            refine blockQ_normal ?_
            refine tnU ?_
            exact ⟨n, Nat.lt_succ_self n, (IntKind.i64.wrap (v36 + 1)), h, by kernel_rfl⟩
      · rintro _ ⟨v3, h, rfl⟩
        unfold millwrightref13_dollar.j35 at h
        refine WpC.seq ?_
        refine WpC.seq ?_
        obtain ⟨v4, hv4, h⟩ := bind_some h
        obtain ⟨v5, hv5, h⟩ := bind_some h
        refine rS { its := [(3, .v .str hv4), (4, .c (millwrightref13_Name.ok O hO k v4 v5 hv5))] } [0, 4, 7, 8, 9, 45] [4] hN (by kernel_rfl) (by kernel_rfl) ?_
        refine tnU ?_
        refine tS (b := (!v5)) (by kernel_rfl) (fun hc6 => ?_) (fun hc6 => ?_)
        · replace h := ite_t hc6 h
          refine WpC.seq ?_
          refine rS {} [4, 5, 6] [4] hN (by kernel_rfl) (by kernel_rfl) ?_
          refine tnU ?_
          refine WpC.ret ?_
          refine thenQ_ret ?_
          have hq := Option.some.inj h
          subst hq
          exact eR (by kernel_rfl) (by kernel_rfl)
        · replace h := ite_f hc6 h
          refine WpC.conv (cS [.k [0, 4, 7, 8, 9] [4]] (by kernel_rfl) (by kernel_rfl)) (WpC.skip ?_)
          refine tnU ?_
          refine WpC.seq ?_
          obtain ⟨v7, hv7, h⟩ := bind_some h
          refine rS { its := [(3, .v .str hv7)] } [0, 4, 8, 9, 10] [4, 10] hN (by kernel_rfl) (by kernel_rfl) ?_
          refine tnU ?_
          refine WpC.seq ?_
          refine WpC.seq ?_
          refine rS {} [0, 4, 9, 10, 53] [4, 10] hN (by kernel_rfl) (by kernel_rfl) ?_
          refine tnU ?_
          refine tS (b := (!v1)) (by kernel_rfl) (fun hc8 => ?_) (fun hc8 => ?_)
          · replace h := ite_t hc8 h
            refine WpC.seq ?_
            refine rS {} [4, 5, 6] [4] hN (by kernel_rfl) (by kernel_rfl) ?_
            refine tnU ?_
            refine WpC.ret ?_
            refine thenQ_ret ?_
            have hq := Option.some.inj h
            subst hq
            exact eR (by kernel_rfl) (by kernel_rfl)
          · replace h := ite_f hc8 h
            refine WpC.conv (cS [.k [0, 4, 9, 10] [4, 10]] (by kernel_rfl) (by kernel_rfl)) (WpC.skip ?_)
            refine tnU ?_
            refine sqJ (fun st' => ∃ v9 : Int, ∃ v10 : Int, ∃ v11 : List UInt8, ∃ v12 : List UInt8, millwrightref13_dollar.j19 k a0 v7 v9 v10 v11 v12 = some out ∧ st' = ⟨[(0, .p .str a0), (4, .loc 4 0), (9, .p I6 v9), (10, .loc 10 0)], [(4, .box [.p I6 (0 : Int), .p .str ([] : List UInt8), .p .str ([] : List UInt8), .p .str ([] : List UInt8)]), (10, .box [.p I6 v10, .p .str v7, .p .str v11, .p .str v12])]⟩) ?_ ?_
            · refine sqJ (fun st' => ∃ v20 : Bool, millwrightref13_dollar.j32 k a0 v3 v7 v20 = some out ∧ st' = ⟨[(0, .p .str a0), (4, .loc 4 0), (9, .p I6 v3), (10, .loc 10 0), (65, .p .bool v20)], [(4, .box [.p I6 (0 : Int), .p .str ([] : List UInt8), .p .str ([] : List UInt8), .p .str ([] : List UInt8)]), (10, .box [.p I6 (2 : Int), .p .str v7, .p .str ([] : List UInt8), .p .str ([] : List UInt8)])]⟩) ?_ ?_
              · rcases bool_cases (decide (v3 < (a0.length : Int))) with hc33 | hc33
                · replace h := ite_t hc33 h
                  obtain ⟨v34, hv34, h⟩ := bind_some h
                  refine rS { its := [(7, .u hv34)], kn := [(60, .t hc33)] } [0, 4, 9, 10, 65] [4, 10] hN (by kernel_rfl) (by kernel_rfl) ?_
                  refine tnU ?_
                  exact ⟨((v34.toNat : Int) == 58), h, by kernel_rfl⟩
                · replace h := ite_f hc33 h
                  refine rS { kn := [(60, .f hc33)] } [0, 4, 9, 10, 65] [4, 10] hN (by kernel_rfl) (by kernel_rfl) ?_
                  refine tnU ?_
                  exact ⟨false, h, by kernel_rfl⟩
              · rintro _ ⟨v20, h, rfl⟩
                unfold millwrightref13_dollar.j32 at h
                refine tS (b := v20) (by kernel_rfl) (fun hc21 => ?_) (fun hc21 => ?_)
                · replace h := ite_t hc21 h
                  refine WpC.seq ?_
                  refine rS {} [0, 4, 9, 10] [4, 10] hN (by kernel_rfl) (by kernel_rfl) ?_
                  refine tnU ?_
                  refine WpC.seq ?_
                  obtain ⟨v22, hv22, h⟩ := bind_some h
                  refine rS { its := [(3, .c (millwrightref13_pattern.ok O hO k a0 (IntKind.i64.wrap (v3 + 1)) v22 hv22))] } [0, 4, 9, 10, 11] [4, 10] hN (by kernel_rfl) (by kernel_rfl) ?_
                  refine tnU ?_
                  refine sqJ (fun st' => millwrightref13_dollar.j26 k a0 v3 v7 v22 = some out ∧ st' = ⟨[(0, .p .str a0), (4, .loc 4 0), (9, .p I6 v3), (10, .loc 10 0), (11, .p I6 v22)], [(4, .box [.p I6 (0 : Int), .p .str ([] : List UInt8), .p .str ([] : List UInt8), .p .str ([] : List UInt8)]), (10, .box [.p I6 (3 : Int), .p .str v7, .p .str ([] : List UInt8), .p .str ([] : List UInt8)])]⟩) ?_ ?_
                  · refine sqJ (fun st' => ∃ v27 : Bool, millwrightref13_dollar.j29 k a0 v3 v7 v22 v27 = some out ∧ st' = ⟨[(0, .p .str a0), (4, .loc 4 0), (9, .p I6 v3), (10, .loc 10 0), (11, .p I6 v22), (80, .p .bool v27)], [(4, .box [.p I6 (0 : Int), .p .str ([] : List UInt8), .p .str ([] : List UInt8), .p .str ([] : List UInt8)]), (10, .box [.p I6 (3 : Int), .p .str v7, .p .str ([] : List UInt8), .p .str ([] : List UInt8)])]⟩) ?_ ?_
                    · rcases bool_cases (decide (v22 ≥ (a0.length : Int))) with hc30 | hc30
                      · replace h := ite_t hc30 h
                        refine rS { kn := [(75, .t hc30)] } [0, 4, 9, 10, 11, 80] [4, 10] hN (by kernel_rfl) (by kernel_rfl) ?_
                        refine tnU ?_
                        exact ⟨true, h, by kernel_rfl⟩
                      · replace h := ite_f hc30 h
                        obtain ⟨v31, hv31, h⟩ := bind_some h
                        refine rS { its := [(7, .u hv31)], kn := [(75, .f hc30)] } [0, 4, 9, 10, 11, 80] [4, 10] hN (by kernel_rfl) (by kernel_rfl) ?_
                        refine tnU ?_
                        exact ⟨((v31.toNat : Int) != 61), h, by kernel_rfl⟩
                    · rintro _ ⟨v27, h, rfl⟩
                      unfold millwrightref13_dollar.j29 at h
                      refine tS (b := v27) (by kernel_rfl) (fun hc28 => ?_) (fun hc28 => ?_)
                      · replace h := ite_t hc28 h
                        refine WpC.seq ?_
                        refine rS {} [4, 5, 6] [4] hN (by kernel_rfl) (by kernel_rfl) ?_
                        refine tnU ?_
                        refine WpC.ret ?_
                        refine thenQ_ret ?_
                        refine thenQ_ret ?_
                        have hq := Option.some.inj h
                        subst hq
                        exact eR (by kernel_rfl) (by kernel_rfl)
                      · replace h := ite_f hc28 h
                        refine WpC.conv (cS [.k [0, 4, 9, 10, 11] [4, 10]] (by kernel_rfl) (by kernel_rfl)) (WpC.skip ?_)
                        refine tnU ?_
                        exact ⟨h, by kernel_rfl⟩
                  · rintro _ ⟨h, rfl⟩
                    unfold millwrightref13_dollar.j26 at h
                    refine WpC.seq ?_
                    obtain ⟨v23, hv23, h⟩ := bind_some h
                    refine rS { its := [(4, .v .str hv23)] } [0, 4, 10, 11] [4, 10] hN (by kernel_rfl) (by kernel_rfl) ?_
                    refine tnU ?_
                    refine WpC.seq ?_
                    obtain ⟨v24, hv24, h⟩ := bind_some h
                    refine rS { its := [(3, .c (millwrightref13_pattern.ok O hO k a0 (IntKind.i64.wrap (v22 + 1)) v24 hv24))] } [0, 4, 9, 10, 11] [4, 10] hN (by kernel_rfl) (by kernel_rfl) ?_
                    refine tnU ?_
                    obtain ⟨v25, hv25, h⟩ := bind_some h
                    refine rS { its := [(4, .v .str hv25)] } [0, 4, 9, 10] [4, 10] hN (by kernel_rfl) (by kernel_rfl) ?_
                    refine tnU ?_
                    exact ⟨v24, 3, v23, v25, h, by kernel_rfl⟩
                · replace h := ite_f hc21 h
                  refine WpC.conv (cS [.k [0, 4, 9, 10] [4, 10]] (by kernel_rfl) (by kernel_rfl)) (WpC.skip ?_)
                  refine tnU ?_
                  exact ⟨v3, 2, [], [], h, by kernel_rfl⟩
            · rintro _ ⟨v9, v10, v11, v12, h, rfl⟩
              unfold millwrightref13_dollar.j19 at h
              refine sqJ (fun st' => millwrightref13_dollar.j13 k v7 v9 v10 v11 v12 = some out ∧ st' = ⟨[(4, .loc 4 0), (9, .p I6 v9), (10, .loc 10 0)], [(4, .box [.p I6 (0 : Int), .p .str ([] : List UInt8), .p .str ([] : List UInt8), .p .str ([] : List UInt8)]), (10, .box [.p I6 v10, .p .str v7, .p .str v11, .p .str v12])]⟩) ?_ ?_
              · refine sqJ (fun st' => ∃ v14 : Bool, millwrightref13_dollar.j16 k v7 v9 v10 v11 v12 v14 = some out ∧ st' = ⟨[(4, .loc 4 0), (9, .p I6 v9), (10, .loc 10 0), (107, .p .bool v14)], [(4, .box [.p I6 (0 : Int), .p .str ([] : List UInt8), .p .str ([] : List UInt8), .p .str ([] : List UInt8)]), (10, .box [.p I6 v10, .p .str v7, .p .str v11, .p .str v12])]⟩) ?_ ?_
                · rcases bool_cases (decide (v9 ≥ (a0.length : Int))) with hc17 | hc17
                  · replace h := ite_t hc17 h
                    refine rS { kn := [(102, .t hc17)] } [4, 9, 10, 107] [4, 10] hN (by kernel_rfl) (by kernel_rfl) ?_
                    refine tnU ?_
                    exact ⟨true, h, by kernel_rfl⟩
                  · replace h := ite_f hc17 h
                    obtain ⟨v18, hv18, h⟩ := bind_some h
                    refine rS { its := [(7, .u hv18)], kn := [(102, .f hc17)] } [4, 9, 10, 107] [4, 10] hN (by kernel_rfl) (by kernel_rfl) ?_
                    refine tnU ?_
                    exact ⟨((v18.toNat : Int) != 125), h, by kernel_rfl⟩
                · rintro _ ⟨v14, h, rfl⟩
                  unfold millwrightref13_dollar.j16 at h
                  refine tS (b := v14) (by kernel_rfl) (fun hc15 => ?_) (fun hc15 => ?_)
                  · replace h := ite_t hc15 h
                    refine WpC.seq ?_
                    refine rS {} [4, 5, 6] [4] hN (by kernel_rfl) (by kernel_rfl) ?_
                    refine tnU ?_
                    refine WpC.ret ?_
                    refine thenQ_ret ?_
                    have hq := Option.some.inj h
                    subst hq
                    exact eR (by kernel_rfl) (by kernel_rfl)
                  · replace h := ite_f hc15 h
                    refine WpC.conv (cS [.k [4, 9, 10] [4, 10]] (by kernel_rfl) (by kernel_rfl)) (WpC.skip ?_)
                    refine tnU ?_
                    exact ⟨h, by kernel_rfl⟩
              · rintro _ ⟨h, rfl⟩
                unfold millwrightref13_dollar.j13 at h
                refine WpC.seq ?_
                refine rS {} [4, 5, 6] [4] hN (by kernel_rfl) (by kernel_rfl) ?_
                refine tnU ?_
                refine WpC.ret ?_
                have hq := Option.some.inj h
                subst hq
                exact eR (by kernel_rfl) (by kernel_rfl)

theorem millwrightref13_One.ok (O : Out) (hO : GOk O) (k : Nat) (a0 : List UInt8) (a1 : Int) (out : T_lex_Piece × Int × Int) (h : millwrightref13_One.f k a0 a1 = some out) : COk Un O Tryz.prog 55 { ar := [.p .str a0, .p I6 a1], r := .tup [.p (.named 5) out.1, .p I6 out.2.1, .p I6 out.2.2] } := by
  refine cok_of_wp Tryz.func55 rfl (k := 149) rfl (Nat.le_of_ble_eq_true rfl) (namesOk_pure rfl rfl rfl rfl) ?_
  intro B hN
  refine WpC.conv (cvK (b := ⟨[(0, .p .str a0), (1, .p I6 a1)], []⟩) [0, 1] [] (by kernel_rfl)) ?_
  unfold millwrightref13_One.f at h
  refine WpC.seq ?_
  refine rS {} [0, 1, 4] [4] hN (by kernel_rfl) (by kernel_rfl) ?_
  refine tnU ?_
  refine WpC.seq ?_
  obtain ⟨v1, hv1, h⟩ := bind_some h
  refine rS { its := [(2, .u hv1)] } [0, 1, 4, 7] [4] hN (by kernel_rfl) (by kernel_rfl) ?_
  refine tnU ?_
  refine WpC.seq ?_
  refine WpC.seq ?_
  refine rS {} [0, 1, 4, 7, 17] [4] hN (by kernel_rfl) (by kernel_rfl) ?_
  refine tnU ?_
  refine tS (b := ((v1.toNat : Int) == 39)) (by kernel_rfl) (fun hc2 => ?_) (fun hc2 => ?_)
  · replace h := ite_t hc2 h
    refine WpC.seq ?_
    obtain ⟨v3, hv3, h⟩ := bind_some h
    refine rS { its := [(2, .c (millwrightref11_End.ok O hO k a0 a1 v3 hv3))] } [0, 1, 4, 8] [4] hN (by kernel_rfl) (by kernel_rfl) ?_
    refine tnU ?_
    refine WpC.seq ?_
    refine WpC.seq ?_
    refine rS {} [0, 1, 4, 8, 22] [4] hN (by kernel_rfl) (by kernel_rfl) ?_
    refine tnU ?_
    refine tS (b := (decide (v3 < 0))) (by kernel_rfl) (fun hc4 => ?_) (fun hc4 => ?_)
    · replace h := ite_t hc4 h
      refine WpC.seq ?_
      refine rS {} [4, 5, 6] [4] hN (by kernel_rfl) (by kernel_rfl) ?_
      refine tnU ?_
      refine WpC.ret ?_
      refine thenQ_ret ?_
      refine thenQ_ret ?_
      have hq := Option.some.inj h
      subst hq
      exact eR (by kernel_rfl) (by kernel_rfl)
    · replace h := ite_f hc4 h
      refine WpC.conv (cS [.k [0, 1, 4, 8] [4]] (by kernel_rfl) (by kernel_rfl)) (WpC.skip ?_)
      refine tnU ?_
      refine WpC.seq ?_
      refine rS {} [0, 1, 4, 8, 9] [4] hN (by kernel_rfl) (by kernel_rfl) ?_
      refine tnU ?_
      refine sqJ (fun st' => ∃ v5 : List UInt8, millwrightref13_One.j6 k v3 v5 = some out ∧ st' = ⟨[(4, .loc 4 0), (8, .p I6 v3), (9, .p .str v5)], [(4, .box [.p I6 (0 : Int), .p .str ([] : List UInt8), .p .str ([] : List UInt8), .p .str ([] : List UInt8)])]⟩) ?_ ?_
      · refine WpC.seq ?_
        refine rS {} [0, 4, 8, 9, 10] [4] hN (by kernel_rfl) (by kernel_rfl) ?_
        refine tnU ?_
        refine WpC.block ?_
        obtain ⟨o11, hlo11, h⟩ := bind_some h
        have hout12 := h
        clear h
        refine WpC.loop (U := Un) (fun n st' => ∃ v7 : List UInt8, ∃ v8 : Int, millwrightref13_One.l9 k a0 v3 n v7 v8 = some o11 ∧ st' = ⟨[(0, .p .str a0), (4, .loc 4 0), (8, .p I6 v3), (9, .p .str v7), (10, .p I6 v8)], [(4, .box [.p I6 (0 : Int), .p .str ([] : List UInt8), .p .str ([] : List UInt8), .p .str ([] : List UInt8)])]⟩) k ⟨([] : List UInt8), (IntKind.i64.wrap (a1 + 1)), hlo11, by kernel_rfl⟩ ?_
        clear hlo11
        rintro (_ | n) _ ⟨v7, v8, h, rfl⟩
        · cases h
        · rw [millwrightref13_One.l9] at h
          refine WpC.seq ?_
          refine WpC.seq ?_
          refine rS {} [0, 4, 8, 9, 10, 29] [4] hN (by kernel_rfl) (by kernel_rfl) ?_
          refine tnU ?_
          refine tS (b := (decide (v8 < (IntKind.i64.wrap (v3 - 1))))) (by kernel_rfl) (fun hc13 => ?_) (fun hc13 => ?_)
          · replace h := ite_t hc13 h
            refine WpC.conv (cS [.k [0, 4, 8, 9, 10] [4]] (by kernel_rfl) (by kernel_rfl)) (WpC.skip ?_)
            refine tnU ?_
            refine sqJ (fun st' => ∃ v14 : List UInt8, ∃ v15 : Int, millwrightref13_One.j16 k (millwrightref13_One.l9 k a0 v3 n) a0 v3 v14 v15 = some o11 ∧ st' = ⟨[(0, .p .str a0), (4, .loc 4 0), (8, .p I6 v3), (9, .p .str v14), (10, .p I6 v15)], [(4, .box [.p I6 (0 : Int), .p .str ([] : List UInt8), .p .str ([] : List UInt8), .p .str ([] : List UInt8)])]⟩) ?_ ?_
            · refine WpC.block ?_
              refine WpC.seq ?_
              obtain ⟨v17, hv17, h⟩ := bind_some h
              obtain ⟨g18, h⟩ := if_some h
              refine rS { its := [(5, .v .str hv17), (6, .g g18)] } [0, 4, 8, 9, 10] [4] hN (by kernel_rfl) (by kernel_rfl) ?_
              refine tnU ?_
              refine WpC.seq ?_
              obtain ⟨v19, hv19, h⟩ := bind_some h
              refine rS { its := [(2, .u hv19)] } [0, 4, 8, 9, 10, 42] [4] hN (by kernel_rfl) (by kernel_rfl) ?_
              refine tnU ?_
              refine tS (b := ((v19.toNat : Int) == 39)) (by kernel_rfl) (fun hc20 => ?_) (fun hc20 => ?_)
              · replace h := ite_t hc20 h
                refine rS {} [0, 4, 8, 9, 10] [4] hN (by kernel_rfl) (by kernel_rfl) ?_
                refine blockQ_normal ?_
                refine tnU ?_
                exact ⟨(v7 ++ v17), (IntKind.i64.wrap (v8 + 1)), h, by kernel_rfl⟩
              · replace h := ite_f hc20 h
                refine WpC.conv (cS [.k [0, 4, 8, 9, 10] [4]] (by kernel_rfl) (by kernel_rfl)) (WpC.skip ?_)
                refine blockQ_normal ?_
                refine tnU ?_
                exact ⟨(v7 ++ v17), v8, h, by kernel_rfl⟩
            · rintro _ ⟨v14, v15, h, rfl⟩
              unfold millwrightref13_One.j16 at h
              refine rS {} [0, 4, 8, 9, 10] [4] hN (by kernel_rfl) (by kernel_rfl) ?_
              refine tnU ?_
              exact ⟨n, Nat.lt_succ_self n, v14, (IntKind.i64.wrap (v15 + 1)), h, by kernel_rfl⟩
          · replace h := ite_f hc13 h
            refine WpC.conv (cS [.k [4, 8, 9] [4]] (by kernel_rfl) (by kernel_rfl)) (WpC.exit ?_)
            refine thenQ_exit ?_
            have hq := Option.some.inj h
            subst hq
            refine thenQ_exit ?_
            have h := hout12
            refine blockQ_hit ?_
            refine tnU ?_
            exact ⟨v7, h, by kernel_rfl⟩
      · rintro _ ⟨v5, h, rfl⟩
        unfold millwrightref13_One.j6 at h
        refine WpC.seq ?_
        refine rS {} [4, 5, 6] [4] hN (by kernel_rfl) (by kernel_rfl) ?_
        refine tnU ?_
        refine WpC.ret ?_
        refine thenQ_ret ?_
        have hq := Option.some.inj h
        subst hq
        exact eR (by kernel_rfl) (by kernel_rfl)
  · replace h := ite_f hc2 h
    refine WpC.conv (cS [.k [0, 1, 4, 7] [4]] (by kernel_rfl) (by kernel_rfl)) (WpC.skip ?_)
    refine tnU ?_
    refine WpC.seq ?_
    refine WpC.seq ?_
    refine rS {} [0, 1, 4, 7, 49] [4] hN (by kernel_rfl) (by kernel_rfl) ?_
    refine tnU ?_
    refine tS (b := ((v1.toNat : Int) == 96)) (by kernel_rfl) (fun hc22 => ?_) (fun hc22 => ?_)
    · replace h := ite_t hc22 h
      refine WpC.seq ?_
      refine rS {} [0, 1, 4, 11] [4] hN (by kernel_rfl) (by kernel_rfl) ?_
      refine tnU ?_
      refine sqJ (fun st' => ∃ v23 : Int, millwrightref13_One.j34 k a0 a1 v23 = some out ∧ st' = ⟨[(0, .p .str a0), (1, .p I6 a1), (4, .loc 4 0), (11, .p I6 v23)], [(4, .box [.p I6 (0 : Int), .p .str ([] : List UInt8), .p .str ([] : List UInt8), .p .str ([] : List UInt8)])]⟩) ?_ ?_
      · refine WpC.block ?_
        obtain ⟨o38, hlo38, h⟩ := bind_some h
        have hout39 := h
        clear h
        refine WpC.loop (U := Un) (fun n st' => ∃ v35 : Int, millwrightref13_One.l36 k a0 a1 n v35 = some o38 ∧ st' = ⟨[(0, .p .str a0), (1, .p I6 a1), (4, .loc 4 0), (11, .p I6 v35)], [(4, .box [.p I6 (0 : Int), .p .str ([] : List UInt8), .p .str ([] : List UInt8), .p .str ([] : List UInt8)])]⟩) k ⟨(IntKind.i64.wrap (a1 + 2)), hlo38, by kernel_rfl⟩ ?_
        clear hlo38
        rintro (_ | n) _ ⟨v35, h, rfl⟩
        · cases h
        · rw [millwrightref13_One.l36] at h
          refine sqJ (fun st' => millwrightref13_One.j40 k (millwrightref13_One.l36 k a0 a1 n) a0 a1 v35 = some o38 ∧ st' = ⟨[(0, .p .str a0), (1, .p I6 a1), (4, .loc 4 0), (11, .p I6 v35)], [(4, .box [.p I6 (0 : Int), .p .str ([] : List UInt8), .p .str ([] : List UInt8), .p .str ([] : List UInt8)])]⟩) ?_ ?_
          · refine sqJ (fun st' => ∃ v41 : Bool, millwrightref13_One.j43 k (millwrightref13_One.l36 k a0 a1 n) a0 a1 v35 v41 = some o38 ∧ st' = ⟨[(0, .p .str a0), (1, .p I6 a1), (4, .loc 4 0), (11, .p I6 v35), (67, .p .bool v41)], [(4, .box [.p I6 (0 : Int), .p .str ([] : List UInt8), .p .str ([] : List UInt8), .p .str ([] : List UInt8)])]⟩) ?_ ?_
            · rcases bool_cases (decide (v35 < (a0.length : Int))) with hc44 | hc44
              · replace h := ite_t hc44 h
                obtain ⟨v45, hv45, h⟩ := bind_some h
                rcases bool_cases ((v45.toNat : Int) != 123) with hc46 | hc46
                · replace h := ite_t hc46 h
                  obtain ⟨v47, hv47, h⟩ := bind_some h
                  refine rS { its := [(7, .u hv45), (13, .u hv47)], kn := [(56, .t hc44), (62, .t hc46)] } [0, 1, 4, 11, 67] [4] hN (by kernel_rfl) (by kernel_rfl) ?_
                  refine tnU ?_
                  exact ⟨((v47.toNat : Int) != 125), h, by kernel_rfl⟩
                · replace h := ite_f hc46 h
                  refine rS { its := [(7, .u hv45)], kn := [(56, .t hc44), (62, .f hc46)] } [0, 1, 4, 11, 67] [4] hN (by kernel_rfl) (by kernel_rfl) ?_
                  refine tnU ?_
                  exact ⟨false, h, by kernel_rfl⟩
              · replace h := ite_f hc44 h
                refine rS { kn := [(56, .f hc44)] } [0, 1, 4, 11, 67] [4] hN (by kernel_rfl) (by kernel_rfl) ?_
                refine tnU ?_
                exact ⟨false, h, by kernel_rfl⟩
            · rintro _ ⟨v41, h, rfl⟩
              unfold millwrightref13_One.j43 at h
              refine tS (b := v41) (by kernel_rfl) (fun hc42 => ?_) (fun hc42 => ?_)
              · replace h := ite_t hc42 h
                refine WpC.conv (cS [.k [0, 1, 4, 11] [4]] (by kernel_rfl) (by kernel_rfl)) (WpC.skip ?_)
                refine tnU ?_
                exact ⟨h, by kernel_rfl⟩
              · replace h := ite_f hc42 h
                refine WpC.conv (cS [.k [0, 1, 4, 11] [4]] (by kernel_rfl) (by kernel_rfl)) (WpC.exit ?_)
                refine thenQ_exit ?_
                have hq := Option.some.inj h
                subst hq
                refine thenQ_exit ?_
                have h := hout39
                refine blockQ_hit ?_
                refine tnU ?_
                exact ⟨v35, h, by kernel_rfl⟩
          · rintro _ ⟨h, rfl⟩
            unfold millwrightref13_One.j40 at h
            refine WpC.block ?_
            refine rS {} [0, 1, 4, 11] [4] hN (by kernel_rfl) (by kernel_rfl) ?_
            refine blockQ_normal ?_
            refine tnU ?_
            exact ⟨n, Nat.lt_succ_self n, (IntKind.i64.wrap (v35 + 1)), h, by kernel_rfl⟩
      · rintro _ ⟨v23, h, rfl⟩
        unfold millwrightref13_One.j34 at h
        refine sqJ (fun st' => millwrightref13_One.j25 k a0 a1 v23 = some out ∧ st' = ⟨[(0, .p .str a0), (1, .p I6 a1), (4, .loc 4 0), (11, .p I6 v23)], [(4, .box [.p I6 (0 : Int), .p .str ([] : List UInt8), .p .str ([] : List UInt8), .p .str ([] : List UInt8)])]⟩) ?_ ?_
        · refine sqJ (fun st' => ∃ v26 : Bool, millwrightref13_One.j28 k a0 a1 v23 v26 = some out ∧ st' = ⟨[(0, .p .str a0), (1, .p I6 a1), (4, .loc 4 0), (11, .p I6 v23), (93, .p .bool v26)], [(4, .box [.p I6 (0 : Int), .p .str ([] : List UInt8), .p .str ([] : List UInt8), .p .str ([] : List UInt8)])]⟩) ?_ ?_
          · rcases bool_cases (decide ((IntKind.i64.wrap (a1 + 1)) ≥ (a0.length : Int))) with hc29 | hc29
            · replace h := ite_t hc29 h
              refine rS { kn := [(75, .t hc29)] } [0, 1, 4, 11, 93] [4] hN (by kernel_rfl) (by kernel_rfl) ?_
              refine tnU ?_
              exact ⟨true, h, by kernel_rfl⟩
            · replace h := ite_f hc29 h
              obtain ⟨v30, hv30, h⟩ := bind_some h
              rcases bool_cases ((v30.toNat : Int) != 123) with hc31 | hc31
              · replace h := ite_t hc31 h
                refine rS { its := [(9, .u hv30)], kn := [(75, .f hc29), (82, .t hc31)] } [0, 1, 4, 11, 93] [4] hN (by kernel_rfl) (by kernel_rfl) ?_
                refine tnU ?_
                exact ⟨true, h, by kernel_rfl⟩
              · replace h := ite_f hc31 h
                rcases bool_cases (decide (v23 ≥ (a0.length : Int))) with hc32 | hc32
                · replace h := ite_t hc32 h
                  refine rS { its := [(9, .u hv30)], kn := [(75, .f hc29), (82, .f hc31), (88, .t hc32)] } [0, 1, 4, 11, 93] [4] hN (by kernel_rfl) (by kernel_rfl) ?_
                  refine tnU ?_
                  exact ⟨true, h, by kernel_rfl⟩
                · replace h := ite_f hc32 h
                  obtain ⟨v33, hv33, h⟩ := bind_some h
                  refine rS { its := [(9, .u hv30), (21, .u hv33)], kn := [(75, .f hc29), (82, .f hc31), (88, .f hc32)] } [0, 1, 4, 11, 93] [4] hN (by kernel_rfl) (by kernel_rfl) ?_
                  refine tnU ?_
                  exact ⟨((v33.toNat : Int) != 125), h, by kernel_rfl⟩
          · rintro _ ⟨v26, h, rfl⟩
            unfold millwrightref13_One.j28 at h
            refine tS (b := v26) (by kernel_rfl) (fun hc27 => ?_) (fun hc27 => ?_)
            · replace h := ite_t hc27 h
              refine WpC.seq ?_
              refine rS {} [4, 5, 6] [4] hN (by kernel_rfl) (by kernel_rfl) ?_
              refine tnU ?_
              refine WpC.ret ?_
              refine thenQ_ret ?_
              refine thenQ_ret ?_
              have hq := Option.some.inj h
              subst hq
              exact eR (by kernel_rfl) (by kernel_rfl)
            · replace h := ite_f hc27 h
              refine WpC.conv (cS [.k [0, 1, 4, 11] [4]] (by kernel_rfl) (by kernel_rfl)) (WpC.skip ?_)
              refine tnU ?_
              exact ⟨h, by kernel_rfl⟩
        · rintro _ ⟨h, rfl⟩
          unfold millwrightref13_One.j25 at h
          refine WpC.seq ?_
          obtain ⟨v24, hv24, h⟩ := bind_some h
          refine rS { its := [(4, .v .str hv24)] } [4, 5, 6] [4] hN (by kernel_rfl) (by kernel_rfl) ?_
          refine tnU ?_
          refine WpC.ret ?_
          refine thenQ_ret ?_
          have hq := Option.some.inj h
          subst hq
          exact eR (by kernel_rfl) (by kernel_rfl)
    · replace h := ite_f hc22 h
      refine WpC.conv (cS [.k [0, 1, 4, 7] [4]] (by kernel_rfl) (by kernel_rfl)) (WpC.skip ?_)
      refine tnU ?_
      refine WpC.seq ?_
      refine WpC.seq ?_
      refine rS {} [0, 1, 4, 104] [4] hN (by kernel_rfl) (by kernel_rfl) ?_
      refine tnU ?_
      refine tS (b := ((v1.toNat : Int) == 36)) (by kernel_rfl) (fun hc49 => ?_) (fun hc49 => ?_)
      · replace h := ite_t hc49 h
        refine WpC.seq ?_
        obtain ⟨v50, hv50, h⟩ := bind_some h
        refine rS { its := [(2, .c (millwrightref13_dollar.ok O hO k a0 a1 v50 hv50))] } [4, 5, 6] [4] hN (by kernel_rfl) (by kernel_rfl) ?_
        refine tnU ?_
        refine WpC.ret ?_
        refine thenQ_ret ?_
        have hq := Option.some.inj h
        subst hq
        exact eR (by kernel_rfl) (by kernel_rfl)
      · replace h := ite_f hc49 h
        refine WpC.conv (cS [.k [0, 1, 4] [4]] (by kernel_rfl) (by kernel_rfl)) (WpC.skip ?_)
        refine tnU ?_
        refine WpC.seq ?_
        refine rS {} [0, 1, 4, 12] [4] hN (by kernel_rfl) (by kernel_rfl) ?_
        refine tnU ?_
        refine sqJ (fun st' => ∃ v51 : Int, millwrightref13_One.j53 k a0 a1 v51 = some out ∧ st' = ⟨[(0, .p .str a0), (1, .p I6 a1), (4, .loc 4 0), (12, .p I6 v51)], [(4, .box [.p I6 (0 : Int), .p .str ([] : List UInt8), .p .str ([] : List UInt8), .p .str ([] : List UInt8)])]⟩) ?_ ?_
        · refine WpC.block ?_
          obtain ⟨o57, hlo57, h⟩ := bind_some h
          have hout58 := h
          clear h
          refine WpC.loop (U := Un) (fun n st' => ∃ v54 : Int, millwrightref13_One.l55 k a0 a1 n v54 = some o57 ∧ st' = ⟨[(0, .p .str a0), (1, .p I6 a1), (4, .loc 4 0), (12, .p I6 v54)], [(4, .box [.p I6 (0 : Int), .p .str ([] : List UInt8), .p .str ([] : List UInt8), .p .str ([] : List UInt8)])]⟩) k ⟨a1, hlo57, by kernel_rfl⟩ ?_
          clear hlo57
          rintro (_ | n) _ ⟨v54, h, rfl⟩
          · cases h
          · rw [millwrightref13_One.l55] at h
            refine sqJ (fun st' => millwrightref13_One.j59 k (millwrightref13_One.l55 k a0 a1 n) a0 a1 v54 = some o57 ∧ st' = ⟨[(0, .p .str a0), (1, .p I6 a1), (4, .loc 4 0), (12, .p I6 v54)], [(4, .box [.p I6 (0 : Int), .p .str ([] : List UInt8), .p .str ([] : List UInt8), .p .str ([] : List UInt8)])]⟩) ?_ ?_
            · refine sqJ (fun st' => ∃ v60 : Bool, millwrightref13_One.j62 k (millwrightref13_One.l55 k a0 a1 n) a0 a1 v54 v60 = some o57 ∧ st' = ⟨[(0, .p .str a0), (1, .p I6 a1), (4, .loc 4 0), (12, .p I6 v54), (140, .p .bool v60)], [(4, .box [.p I6 (0 : Int), .p .str ([] : List UInt8), .p .str ([] : List UInt8), .p .str ([] : List UInt8)])]⟩) ?_ ?_
              · rcases bool_cases (decide (v54 < (a0.length : Int))) with hc63 | hc63
                · replace h := ite_t hc63 h
                  obtain ⟨v64, hv64, h⟩ := bind_some h
                  obtain ⟨v65, hv65, h⟩ := bind_some h
                  rcases bool_cases (!v65) with hc66 | hc66
                  · replace h := ite_t hc66 h
                    obtain ⟨v67, hv67, h⟩ := bind_some h
                    rcases bool_cases ((v67.toNat : Int) != 39) with hc68 | hc68
                    · replace h := ite_t hc68 h
                      obtain ⟨v69, hv69, h⟩ := bind_some h
                      rcases bool_cases ((v69.toNat : Int) != 96) with hc70 | hc70
                      · replace h := ite_t hc70 h
                        obtain ⟨v71, hv71, h⟩ := bind_some h
                        refine rS { its := [(7, .u hv64), (8, .c (millwrightref11_Blank.ok O hO k (v64.toNat : Int) v65 hv65)), (14, .u hv67), (20, .u hv69), (26, .u hv71)], kn := [(116, .t hc63), (123, .t hc66), (129, .t hc68), (135, .t hc70)] } [0, 1, 4, 12, 140] [4] hN (by kernel_rfl) (by kernel_rfl) ?_
                        refine tnU ?_
                        exact ⟨((v71.toNat : Int) != 36), h, by kernel_rfl⟩
                      · replace h := ite_f hc70 h
                        refine rS { its := [(7, .u hv64), (8, .c (millwrightref11_Blank.ok O hO k (v64.toNat : Int) v65 hv65)), (14, .u hv67), (20, .u hv69)], kn := [(116, .t hc63), (123, .t hc66), (129, .t hc68), (135, .f hc70)] } [0, 1, 4, 12, 140] [4] hN (by kernel_rfl) (by kernel_rfl) ?_
                        refine tnU ?_
                        exact ⟨false, h, by kernel_rfl⟩
                    · replace h := ite_f hc68 h
                      refine rS { its := [(7, .u hv64), (8, .c (millwrightref11_Blank.ok O hO k (v64.toNat : Int) v65 hv65)), (14, .u hv67)], kn := [(116, .t hc63), (123, .t hc66), (129, .f hc68)] } [0, 1, 4, 12, 140] [4] hN (by kernel_rfl) (by kernel_rfl) ?_
                      refine tnU ?_
                      exact ⟨false, h, by kernel_rfl⟩
                  · replace h := ite_f hc66 h
                    refine rS { its := [(7, .u hv64), (8, .c (millwrightref11_Blank.ok O hO k (v64.toNat : Int) v65 hv65))], kn := [(116, .t hc63), (123, .f hc66)] } [0, 1, 4, 12, 140] [4] hN (by kernel_rfl) (by kernel_rfl) ?_
                    refine tnU ?_
                    exact ⟨false, h, by kernel_rfl⟩
                · replace h := ite_f hc63 h
                  refine rS { kn := [(116, .f hc63)] } [0, 1, 4, 12, 140] [4] hN (by kernel_rfl) (by kernel_rfl) ?_
                  refine tnU ?_
                  exact ⟨false, h, by kernel_rfl⟩
              · rintro _ ⟨v60, h, rfl⟩
                unfold millwrightref13_One.j62 at h
                refine tS (b := v60) (by kernel_rfl) (fun hc61 => ?_) (fun hc61 => ?_)
                · replace h := ite_t hc61 h
                  refine WpC.conv (cS [.k [0, 1, 4, 12] [4]] (by kernel_rfl) (by kernel_rfl)) (WpC.skip ?_)
                  refine tnU ?_
                  exact ⟨h, by kernel_rfl⟩
                · replace h := ite_f hc61 h
                  refine WpC.conv (cS [.k [0, 1, 4, 12] [4]] (by kernel_rfl) (by kernel_rfl)) (WpC.exit ?_)
                  refine thenQ_exit ?_
                  have hq := Option.some.inj h
                  subst hq
                  refine thenQ_exit ?_
                  have h := hout58
                  refine blockQ_hit ?_
                  refine tnU ?_
                  exact ⟨v54, h, by kernel_rfl⟩
            · rintro _ ⟨h, rfl⟩
              unfold millwrightref13_One.j59 at h
              refine WpC.block ?_
              refine rS {} [0, 1, 4, 12] [4] hN (by kernel_rfl) (by kernel_rfl) ?_
              refine blockQ_normal ?_
              refine tnU ?_
              exact ⟨n, Nat.lt_succ_self n, (IntKind.i64.wrap (v54 + 1)), h, by kernel_rfl⟩
        · rintro _ ⟨v51, h, rfl⟩
          unfold millwrightref13_One.j53 at h
          refine WpC.seq ?_
          obtain ⟨v52, hv52, h⟩ := bind_some h
          refine rS { its := [(3, .v .str hv52)] } [4, 5, 6] [4] hN (by kernel_rfl) (by kernel_rfl) ?_
          refine tnU ?_
          refine WpC.ret ?_
          have hq := Option.some.inj h
          subst hq
          exact eR (by kernel_rfl) (by kernel_rfl)

theorem millwrightref13_Words.ok (O : Out) (hO : GOk O) (k : Nat) (a0 : List UInt8) (out : (List (List T_lex_Piece)) × Int) (h : millwrightref13_Words.f k a0 = some out) : COk Un O Tryz.prog 36 { ar := [.p .str a0], r := .tup [.p (.list (.list (.named 5))) out.1, .p I6 out.2] } := by
  refine cok_of_wp Tryz.func36 rfl (k := 53) rfl (Nat.le_of_ble_eq_true rfl) (namesOk_pure rfl rfl rfl rfl) ?_
  intro B hN
  refine WpC.conv (cvK (b := ⟨[(0, .p .str a0)], []⟩) [0] [] (by kernel_rfl)) ?_
  unfold millwrightref13_Words.f at h
  refine WpC.seq ?_
  refine rS {} [0] [] hN (by kernel_rfl) (by kernel_rfl) ?_
  refine tnU ?_
  refine WpC.seq ?_
  refine rSC {} [0, 4] [10] hN (by kernel_rfl) (by kernel_rfl) (cS [.k [0, 4] [10], .x (Conv.cast (U := Un) (st := ⟨[(0, .p .str a0), (4, .vec 10 1 0 (([] : List (List T_lex_Piece)).length))], [(10, .row 58 (.list (.named 5)) ([] : List (List T_lex_Piece)) true)]⟩) (st' := ⟨[(0, .p .str a0), (4, .vec 10 1 0 0)], [(10, .row 58 (.list (.named 5)) ([] : List (List T_lex_Piece)) true)]⟩) (by simp only [upd_length, List.length_nil, List.length_replicate]))] (by kernel_rfl) (by kernel_rfl)) ?_
  refine tnU ?_
  refine WpC.seq ?_
  refine rSC {} [0, 4, 5] [10, 11] hN (by kernel_rfl) (by kernel_rfl) (cS [.k [0, 4, 5] [10, 11], .x (Conv.cast (U := Un) (st := ⟨[(0, .p .str a0), (4, .vec 10 1 0 0), (5, .vec 11 4 0 (([] : List T_lex_Piece).length))], [(10, .row 58 (.list (.named 5)) ([] : List (List T_lex_Piece)) true), (11, .row 107 (.named 5) ([] : List T_lex_Piece) true)]⟩) (st' := ⟨[(0, .p .str a0), (4, .vec 10 1 0 0), (5, .vec 11 4 0 0)], [(10, .row 58 (.list (.named 5)) ([] : List (List T_lex_Piece)) true), (11, .row 107 (.named 5) ([] : List T_lex_Piece) true)]⟩) (by simp only [upd_length, List.length_nil, List.length_replicate]))] (by kernel_rfl) (by kernel_rfl)) ?_
  refine tnU ?_
  refine sqJ (fun st' => ∃ v1 : List (List T_lex_Piece), ∃ v2 : List T_lex_Piece, millwrightref13_Words.j7 k v1 v2 = some out ∧ st' = ⟨[(4, .vec 1004 1 0 v1.length), (5, .vec 1005 4 0 v2.length)], [(1004, .row 58 (.list (.named 5)) v1 false), (1005, .row 107 (.named 5) v2 false)]⟩) ?_ ?_
  · refine WpC.seq ?_
    refine rS {} [0, 4, 5, 6] [10, 11] hN (by kernel_rfl) (by kernel_rfl) ?_
    refine tnU ?_
    refine WpC.block ?_
    obtain ⟨o14, hlo14, h⟩ := bind_some h
    have hout15 := h
    clear h
    refine WpC.conv (cS [.lo 10, .k [0, 4, 5, 6] [10, 11], .rn 10 1004, .k [0, 4, 5, 6] [11, 1004], .lo 11, .k [0, 4, 5, 6] [11, 1004], .rn 11 1005, .k [0, 4, 5, 6] [1004, 1005]] (by kernel_rfl) (by kernel_rfl)) ?_
    refine WpC.loop (U := Un) (fun n st' => ∃ v8 : List (List T_lex_Piece), ∃ v9 : List T_lex_Piece, ∃ v10 : Int, millwrightref13_Words.l11 k a0 n v8 v9 v10 = some o14 ∧ st' = ⟨[(0, .p .str a0), (4, .vec 1004 1 0 v8.length), (5, .vec 1005 4 0 v9.length), (6, .p I6 v10)], [(1004, .row 58 (.list (.named 5)) v8 false), (1005, .row 107 (.named 5) v9 false)]⟩) k ⟨([] : List (List T_lex_Piece)), ([] : List T_lex_Piece), 0, hlo14, by kernel_rfl⟩ ?_
    clear hlo14
    rintro (_ | n) _ ⟨v8, v9, v10, h, rfl⟩
    · cases h
    · rw [millwrightref13_Words.l11] at h
      refine WpC.seq ?_
      refine WpC.seq ?_
      refine rS {} [0, 4, 5, 6, 15] [1004, 1005] hN (by kernel_rfl) (by kernel_rfl) ?_
      refine tnU ?_
      refine tS (b := (decide (v10 < (a0.length : Int)))) (by kernel_rfl) (fun hc16 => ?_) (fun hc16 => ?_)
      · replace h := ite_t hc16 h
        refine WpC.conv (cS [.k [0, 4, 5, 6] [1004, 1005]] (by kernel_rfl) (by kernel_rfl)) (WpC.skip ?_)
        refine tnU ?_
        refine WpC.block ?_
        refine WpC.seq ?_
        refine WpC.seq ?_
        obtain ⟨v17, hv17, h⟩ := bind_some h
        obtain ⟨v18, hv18, h⟩ := bind_some h
        refine rS { its := [(2, .u hv17), (3, .c (millwrightref11_Blank.ok O hO k (v17.toNat : Int) v18 hv18))] } [0, 4, 5, 6, 19] [1004, 1005] hN (by kernel_rfl) (by kernel_rfl) ?_
        refine tnU ?_
        refine tS (b := v18) (by kernel_rfl) (fun hc19 => ?_) (fun hc19 => ?_)
        · replace h := ite_t hc19 h
          refine sqJ (fun st' => ∃ v20 : List (List T_lex_Piece), ∃ v21 : List T_lex_Piece, millwrightref13_Words.j22 k (millwrightref13_Words.l11 k a0 n) a0 v10 v20 v21 = some o14 ∧ st' = ⟨[(0, .p .str a0), (4, .vec 1004 1 0 v20.length), (5, .vec 1005 4 0 v21.length), (6, .p I6 v10)], [(1004, .row 58 (.list (.named 5)) v20 false), (1005, .row 107 (.named 5) v21 false)]⟩) ?_ ?_
          · refine WpC.seq ?_
            refine rS {} [0, 4, 5, 6, 22] [1004, 1005] hN (by kernel_rfl) (by kernel_rfl) ?_
            refine tnU ?_
            refine tS (b := (decide ((v9.length : Int) > 0))) (by kernel_rfl) (fun hc23 => ?_) (fun hc23 => ?_)
            · replace h := ite_t hc23 h
              refine WpC.seq ?_
              obtain ⟨g24, h⟩ := if_some h
              refine rS { its := [(3, .g g24)], gv := [(2, [24])] } [0, 4, 6] [26] hN (by kernel_rfl) (by kernel_rfl) ?_
              refine tnU ?_
              refine rSC {} [0, 4, 5, 6] [26, 27] hN (by kernel_rfl) (by kernel_rfl) (cS [.k [0, 4, 5, 6] [26, 27], .x (Conv.cast (U := Un) (st := ⟨[(0, .p .str a0), (4, .vec 26 1 0 ((v8 ++ [v9]).length)), (5, .vec 27 4 0 (([] : List T_lex_Piece).length)), (6, .p I6 v10)], [(26, .row 58 (.list (.named 5)) (v8 ++ [v9]) false), (27, .row 107 (.named 5) ([] : List T_lex_Piece) true)]⟩) (st' := ⟨[(0, .p .str a0), (4, .vec 26 1 0 ((v8 ++ [v9]).length)), (5, .vec 27 4 0 0), (6, .p I6 v10)], [(26, .row 58 (.list (.named 5)) (v8 ++ [v9]) false), (27, .row 107 (.named 5) ([] : List T_lex_Piece) true)]⟩) (by simp only [upd_length, List.length_nil, List.length_replicate])), .rn 26 1004, .k [0, 4, 5, 6] [27, 1004], .lo 27, .k [0, 4, 5, 6] [27, 1004], .rn 27 1005, .k [0, 4, 5, 6] [1004, 1005]] (by kernel_rfl) (by kernel_rfl)) ?_
              refine tnU ?_
              exact ⟨(v8 ++ [v9]), ([] : List T_lex_Piece), h, by kernel_rfl⟩
            · replace h := ite_f hc23 h
              refine WpC.conv (cS [.k [0, 4, 5, 6] [1004, 1005]] (by kernel_rfl) (by kernel_rfl)) (WpC.skip ?_)
              refine tnU ?_
              exact ⟨v8, v9, h, by kernel_rfl⟩
          · rintro _ ⟨v20, v21, h, rfl⟩
            unfold millwrightref13_Words.j22 at h
            refine WpC.seq ?_
            refine rS {} [0, 4, 5, 6] [1004, 1005] hN (by kernel_rfl) (by kernel_rfl) ?_
            refine tnU ?_
            refine WpC.exit ?_
            refine thenQ_exit ?_
            refine blockQ_hit ?_
            refine tnU ?_
            exact ⟨n, Nat.lt_succ_self n, v20, v21, (IntKind.i64.wrap (v10 + 1)), h, by kernel_rfl⟩
        · replace h := ite_f hc19 h
          refine WpC.conv (cS [.k [0, 4, 5, 6] [1004, 1005]] (by kernel_rfl) (by kernel_rfl)) (WpC.skip ?_)
          refine tnU ?_
          refine WpC.seq ?_
          obtain ⟨v25, hv25, h⟩ := bind_some h
          refine rS { its := [(2, .c (millwrightref13_One.ok O hO k a0 v10 v25 hv25))] } [0, 4, 5, 7, 8, 9] [7, 1004, 1005] hN (by kernel_rfl) (by kernel_rfl) ?_
          refine tnU ?_
          refine WpC.seq ?_
          refine WpC.seq ?_
          refine rS {} [0, 4, 5, 7, 8, 9, 38] [7, 1004, 1005] hN (by kernel_rfl) (by kernel_rfl) ?_
          refine tnU ?_
          refine tS (b := (v25.2.2 != 0)) (by kernel_rfl) (fun hc26 => ?_) (fun hc26 => ?_)
          · replace h := ite_t hc26 h
            refine WpC.seq ?_
            refine rS {} [2, 3] [] hN (by kernel_rfl) (by kernel_rfl) ?_
            refine tnU ?_
            refine WpC.conv (cS [.nL 2 (.list (.named 5)), .k [2, 3] []] (by kernel_rfl) (by kernel_rfl)) (WpC.ret ?_)
            refine thenQ_ret ?_
            refine blockQ_ret ?_
            have hq := Option.some.inj h
            subst hq
            refine thenQ_ret ?_
            have h := hout15
            refine blockQ_ret ?_
            refine thenQ_ret ?_
            have hq := Option.some.inj h
            subst hq
            exact eR (by kernel_rfl) (by kernel_rfl)
          · replace h := ite_f hc26 h
            refine WpC.conv (cS [.k [0, 4, 5, 7, 8] [7, 1004, 1005]] (by kernel_rfl) (by kernel_rfl)) (WpC.skip ?_)
            refine tnU ?_
            refine WpC.seq ?_
            obtain ⟨g27, h⟩ := if_some h
            refine rS { its := [(3, .g g27)] } [0, 4, 5, 8] [43, 1004] hN (by kernel_rfl) (by kernel_rfl) ?_
            refine tnU ?_
            refine rSC {} [0, 4, 5, 6] [43, 1004] hN (by kernel_rfl) (by kernel_rfl) (cS [.rn 43 1005, .k [0, 4, 5, 6] [1004, 1005]] (by kernel_rfl) (by kernel_rfl)) ?_
            refine blockQ_normal ?_
            refine tnU ?_
            exact ⟨n, Nat.lt_succ_self n, v8, (v9 ++ [(T_lex_Piece.mk v25.1.f_Kind v25.1.f_Text v25.1.f_From v25.1.f_To)]), v25.2.1, h, by kernel_rfl⟩
      · replace h := ite_f hc16 h
        refine WpC.conv (cS [.k [4, 5] [1004, 1005]] (by kernel_rfl) (by kernel_rfl)) (WpC.exit ?_)
        refine thenQ_exit ?_
        have hq := Option.some.inj h
        subst hq
        refine thenQ_exit ?_
        have h := hout15
        refine blockQ_hit ?_
        refine tnU ?_
        exact ⟨v8, v9, h, by kernel_rfl⟩
  · rintro _ ⟨v1, v2, h, rfl⟩
    unfold millwrightref13_Words.j7 at h
    refine sqJ (fun st' => ∃ v3 : List (List T_lex_Piece), millwrightref13_Words.j4 k v3 = some out ∧ st' = ⟨[(4, .vec 1004 1 0 v3.length)], [(1004, .row 58 (.list (.named 5)) v3 false)]⟩) ?_ ?_
    · refine WpC.seq ?_
      refine rS {} [4, 5, 47] [1004, 1005] hN (by kernel_rfl) (by kernel_rfl) ?_
      refine tnU ?_
      refine tS (b := (decide ((v2.length : Int) > 0))) (by kernel_rfl) (fun hc5 => ?_) (fun hc5 => ?_)
      · replace h := ite_t hc5 h
        obtain ⟨g6, h⟩ := if_some h
        refine rSC { its := [(3, .g g6)], gv := [(2, [49])] } [4] [51] hN (by kernel_rfl) (by kernel_rfl) (cS [.rn 51 1004, .k [4] [1004]] (by kernel_rfl) (by kernel_rfl)) ?_
        refine tnU ?_
        exact ⟨(v1 ++ [v2]), h, by kernel_rfl⟩
      · replace h := ite_f hc5 h
        refine WpC.conv (cS [.k [4] [1004]] (by kernel_rfl) (by kernel_rfl)) (WpC.skip ?_)
        refine tnU ?_
        exact ⟨v1, h, by kernel_rfl⟩
    · rintro _ ⟨v3, h, rfl⟩
      unfold millwrightref13_Words.j4 at h
      refine WpC.seq ?_
      refine rS {} [2, 3] [1004] hN (by kernel_rfl) (by kernel_rfl) ?_
      refine tnU ?_
      refine WpC.conv (cS [.fz 2, .k [2, 3] []] (by kernel_rfl) (by kernel_rfl)) (WpC.ret ?_)
      have hq := Option.some.inj h
      subst hq
      exact eR (by kernel_rfl) (by kernel_rfl)

end Go.Proofs.YtldepagjdbcmgaaGreatDoor
