/- A part of the proof of a given law: ARC3. Own work, printed in part by a program of mine. -/
import Derived.Test.YtgphmfcbhmmpiaaGreatDoorK14ARC2
namespace Go.Proofs.YtgphmfcbhmmpiaaGreatDoor
open Go Go.AM
set_option linter.unusedVariables false
set_option linter.unusedSimpArgs false
set_option maxRecDepth 100000
theorem millwrightlaw03_ArSets.ok (O : Out) (hO : GOk O) (k : Nat) (a0 : List T_ar_Member) (a1 : T_ar_Member) (out : Bool) (h : millwrightlaw03_ArSets.f k a0 a1 = some out) : COk Un O Tryz.prog 5 { ar := [.p (.list (.named 3)) a0, .p (.named 3) a1], r := .p .bool out } := by
  refine cok_of_wp Tryz.func5 rfl (k := 145) rfl (Nat.le_of_ble_eq_true rfl) (namesOk_pure rfl rfl rfl rfl) ?_
  intro B hN
  refine WpC.conv (cvK (b := ⟨[(0, .p (.list (.named 3)) a0), (1, .p (.named 3) a1)], []⟩) [0, 1] [] (by kernel_rfl)) ?_
  unfold millwrightlaw03_ArSets.f at h
  refine WpC.seq ?_
  refine rS {} [0, 3] [3] hN (by kernel_rfl) (by kernel_rfl) ?_
  refine tnU ?_
  refine WpC.seq ?_
  refine WpC.seq ?_
  obtain ⟨v1, hv1, h⟩ := bind_some h
  refine rS { its := [(0, .c (millwrightlaw03_alive.ok O hO k v1 hv1))] } [0, 3, 20] [3] hN (by kernel_rfl) (by kernel_rfl) ?_
  refine tnU ?_
  refine tS (b := (!v1)) (by kernel_rfl) (fun hc2 => ?_) (fun hc2 => ?_)
  · replace h := ite_t hc2 h
    refine WpC.seq ?_
    refine rS {} [4] [] hN (by kernel_rfl) (by kernel_rfl) ?_
    refine tnU ?_
    refine WpC.ret ?_
    refine thenQ_ret ?_
    have hq := Option.some.inj h
    subst hq
    exact eR (by kernel_rfl) (by kernel_rfl)
  · replace h := ite_f hc2 h
    refine WpC.conv (cS [.k [0, 3] [3]] (by kernel_rfl) (by kernel_rfl)) (WpC.skip ?_)
    refine tnU ?_
    refine sqJ (fun st' => millwrightlaw03_ArSets.j42 k a0 a1 = some out ∧ st' = ⟨[(0, .p (.list (.named 3)) a0), (3, .loc 3 0)], [(3, .box [.p .str a1.f_Name, .p I6 a1.f_Time, .p .str a1.f_Content])]⟩) ?_ ?_
    · refine sqJ (fun st' => ∃ v43 : Bool, millwrightlaw03_ArSets.j45 k a0 a1 v43 = some out ∧ st' = ⟨[(0, .p (.list (.named 3)) a0), (3, .loc 3 0), (27, .p .bool v43)], [(3, .box [.p .str a1.f_Name, .p I6 a1.f_Time, .p .str a1.f_Content])]⟩) ?_ ?_
      · obtain ⟨v46, hv46, h⟩ := bind_some h
        rcases bool_cases v46 with hc47 | hc47
        · replace h := ite_t hc47 h
          refine rS { its := [(1, .c (millwrightlaw03_long.ok O hO k a0 20 v46 hv46))], kn := [(23, .t hc47)] } [0, 3, 27] [3] hN (by kernel_rfl) (by kernel_rfl) ?_
          refine tnU ?_
          exact ⟨true, h, by kernel_rfl⟩
        · replace h := ite_f hc47 h
          obtain ⟨v48, hv48, h⟩ := bind_some h
          refine rS { its := [(1, .c (millwrightlaw03_long.ok O hO k a0 20 v46 hv46)), (5, .c (millwrightlaw03_long.ok O hO k [(T_ar_Member.mk a1.f_Name a1.f_Time a1.f_Content)] 1 v48 hv48))], kn := [(23, .f hc47)] } [0, 3, 27] [3] hN (by kernel_rfl) (by kernel_rfl) ?_
          refine tnU ?_
          exact ⟨v48, h, by kernel_rfl⟩
      · rintro _ ⟨v43, h, rfl⟩
        unfold millwrightlaw03_ArSets.j45 at h
        refine tS (b := v43) (by kernel_rfl) (fun hc44 => ?_) (fun hc44 => ?_)
        · replace h := ite_t hc44 h
          refine WpC.seq ?_
          refine rS {} [4] [] hN (by kernel_rfl) (by kernel_rfl) ?_
          refine tnU ?_
          refine WpC.ret ?_
          refine thenQ_ret ?_
          have hq := Option.some.inj h
          subst hq
          exact eR (by kernel_rfl) (by kernel_rfl)
        · replace h := ite_f hc44 h
          refine WpC.conv (cS [.k [0, 3] [3]] (by kernel_rfl) (by kernel_rfl)) (WpC.skip ?_)
          refine tnU ?_
          exact ⟨h, by kernel_rfl⟩
    · rintro _ ⟨h, rfl⟩
      unfold millwrightlaw03_ArSets.j42 at h
      refine WpC.seq ?_
      obtain ⟨v3, hv3, h⟩ := bind_some h
      refine rS { its := [(1, .c (ar_Make.ok O hO k a0 v3 hv3))] } [0, 3, 5, 6] [3] hN (by kernel_rfl) (by kernel_rfl) ?_
      refine tnU ?_
      refine WpC.seq ?_
      refine WpC.seq ?_
      refine rS {} [0, 3, 5, 34] [3] hN (by kernel_rfl) (by kernel_rfl) ?_
      refine tnU ?_
      refine tS (b := (!(v3.2 == 0))) (by kernel_rfl) (fun hc4 => ?_) (fun hc4 => ?_)
      · replace h := ite_t hc4 h
        refine WpC.seq ?_
        refine rS {} [4] [] hN (by kernel_rfl) (by kernel_rfl) ?_
        refine tnU ?_
        refine WpC.ret ?_
        refine thenQ_ret ?_
        have hq := Option.some.inj h
        subst hq
        exact eR (by kernel_rfl) (by kernel_rfl)
      · replace h := ite_f hc4 h
        refine WpC.conv (cS [.k [0, 3, 5] [3]] (by kernel_rfl) (by kernel_rfl)) (WpC.skip ?_)
        refine tnU ?_
        refine WpC.seq ?_
        obtain ⟨v5, hv5, h⟩ := bind_some h
        refine rS { its := [(2, .c (ar_Set.ok O hO k v3.1 (T_ar_Member.mk a1.f_Name a1.f_Time a1.f_Content) v5 hv5))] } [0, 3, 5, 6, 7] [3] hN (by kernel_rfl) (by kernel_rfl) ?_
        refine tnU ?_
        refine WpC.seq ?_
        refine WpC.seq ?_
        refine rS {} [0, 3, 5, 7, 44] [3] hN (by kernel_rfl) (by kernel_rfl) ?_
        refine tnU ?_
        refine tS (b := (!(v5.2 == 0))) (by kernel_rfl) (fun hc6 => ?_) (fun hc6 => ?_)
        · replace h := ite_t hc6 h
          refine WpC.seq ?_
          rcases bool_cases (v5.1 == ([] : List UInt8)) with hc7 | hc7
          · replace h := ite_t hc7 h
            obtain ⟨v8, hv8, h⟩ := bind_some h
            rcases bool_cases (!v8) with hc9 | hc9
            · replace h := ite_t hc9 h
              refine rS { its := [(5, .c (millwrightref03_Named.ok O hO k a1.f_Name v8 hv8))], kn := [(47, .t hc7), (52, .t hc9)] } [4] [] hN (by kernel_rfl) (by kernel_rfl) ?_
              refine tnU ?_
              refine WpC.ret ?_
              refine thenQ_ret ?_
              have hq := Option.some.inj h
              subst hq
              exact eR (by kernel_rfl) (by kernel_rfl)
            · replace h := ite_f hc9 h
              rcases bool_cases (decide (a1.f_Time < 1)) with hc10 | hc10
              · replace h := ite_t hc10 h
                refine rS { its := [(5, .c (millwrightref03_Named.ok O hO k a1.f_Name v8 hv8))], kn := [(47, .t hc7), (52, .f hc9), (57, .t hc10)] } [4] [] hN (by kernel_rfl) (by kernel_rfl) ?_
                refine tnU ?_
                refine WpC.ret ?_
                refine thenQ_ret ?_
                have hq := Option.some.inj h
                subst hq
                exact eR (by kernel_rfl) (by kernel_rfl)
              · replace h := ite_f hc10 h
                rcases bool_cases (decide (a1.f_Time > 549755813888)) with hc11 | hc11
                · replace h := ite_t hc11 h
                  refine rS { its := [(5, .c (millwrightref03_Named.ok O hO k a1.f_Name v8 hv8))], kn := [(47, .t hc7), (52, .f hc9), (57, .f hc10), (62, .t hc11)] } [4] [] hN (by kernel_rfl) (by kernel_rfl) ?_
                  refine tnU ?_
                  refine WpC.ret ?_
                  refine thenQ_ret ?_
                  have hq := Option.some.inj h
                  subst hq
                  exact eR (by kernel_rfl) (by kernel_rfl)
                · replace h := ite_f hc11 h
                  obtain ⟨v12, hv12, h⟩ := bind_some h
                  refine rS { its := [(5, .c (millwrightref03_Named.ok O hO k a1.f_Name v8 hv8)), (21, .c (ar_Size.ok O hO k (T_ar_Member.mk a1.f_Name a1.f_Time a1.f_Content) v12 hv12))], kn := [(47, .t hc7), (52, .f hc9), (57, .f hc10), (62, .f hc11)] } [4] [] hN (by kernel_rfl) (by kernel_rfl) ?_
                  refine tnU ?_
                  refine WpC.ret ?_
                  refine thenQ_ret ?_
                  have hq := Option.some.inj h
                  subst hq
                  exact eR (by kernel_rfl) (by kernel_rfl)
          · replace h := ite_f hc7 h
            refine rS { kn := [(47, .f hc7)] } [4] [] hN (by kernel_rfl) (by kernel_rfl) ?_
            refine tnU ?_
            refine WpC.ret ?_
            refine thenQ_ret ?_
            have hq := Option.some.inj h
            subst hq
            exact eR (by kernel_rfl) (by kernel_rfl)
        · replace h := ite_f hc6 h
          refine WpC.conv (cS [.k [0, 3, 7] [3]] (by kernel_rfl) (by kernel_rfl)) (WpC.skip ?_)
          refine tnU ?_
          refine WpC.seq ?_
          obtain ⟨v13, hv13, h⟩ := bind_some h
          refine rS { its := [(3, .c (ar_Find.ok O hO k v5.1 a1.f_Name v13 hv13))] } [0, 3, 7, 8, 9] [3, 8] hN (by kernel_rfl) (by kernel_rfl) ?_
          refine tnU ?_
          refine sqJ (fun st' => millwrightlaw03_ArSets.j37 k a0 a1 v5 = some out ∧ st' = ⟨[(0, .p (.list (.named 3)) a0), (3, .loc 3 0), (7, .p .str v5.1)], [(3, .box [.p .str a1.f_Name, .p I6 a1.f_Time, .p .str a1.f_Content])]⟩) ?_ ?_
          · refine sqJ (fun st' => ∃ v38 : Bool, millwrightlaw03_ArSets.j40 k a0 a1 v5 v38 = some out ∧ st' = ⟨[(0, .p (.list (.named 3)) a0), (3, .loc 3 0), (7, .p .str v5.1), (84, .p .bool v38)], [(3, .box [.p .str a1.f_Name, .p I6 a1.f_Time, .p .str a1.f_Content])]⟩) ?_ ?_
            · rcases bool_cases (!v13.2) with hc41 | hc41
              · replace h := ite_t hc41 h
                refine rS { kn := [(80, .t hc41)] } [0, 3, 7, 84] [3] hN (by kernel_rfl) (by kernel_rfl) ?_
                refine tnU ?_
                exact ⟨true, h, by kernel_rfl⟩
              · replace h := ite_f hc41 h
                refine rS { its := [(5, .e 5 (sok_neS (U := Un) (rs := [(81, .p (.named 3) ((T_ar_Member.mk v13.1.f_Name v13.1.f_Time v13.1.f_Content) : T_ar_Member)), (82, .p (.named 3) ((T_ar_Member.mk a1.f_Name a1.f_Time a1.f_Content) : T_ar_Member))]) rfl rfl Tryz.underlying35 (by kernel_rfl) (eqf_35 _ Tryz.underlying35) (by kernel_rfl) o0 o1))], kn := [(80, .f hc41)] } [0, 3, 7, 84] [3] hN (by kernel_rfl) (by kernel_rfl) ?_
                refine tnU ?_
                exact ⟨(!(v13.1.f_Name == a1.f_Name && (v13.1.f_Time == a1.f_Time && (v13.1.f_Content == a1.f_Content && true)))), h, by kernel_rfl⟩
            · rintro _ ⟨v38, h, rfl⟩
              unfold millwrightlaw03_ArSets.j40 at h
              refine tS (b := v38) (by kernel_rfl) (fun hc39 => ?_) (fun hc39 => ?_)
              · replace h := ite_t hc39 h
                refine WpC.seq ?_
                refine rS {} [4] [] hN (by kernel_rfl) (by kernel_rfl) ?_
                refine tnU ?_
                refine WpC.ret ?_
                refine thenQ_ret ?_
                have hq := Option.some.inj h
                subst hq
                exact eR (by kernel_rfl) (by kernel_rfl)
              · replace h := ite_f hc39 h
                refine WpC.conv (cS [.k [0, 3, 7] [3]] (by kernel_rfl) (by kernel_rfl)) (WpC.skip ?_)
                refine tnU ?_
                exact ⟨h, by kernel_rfl⟩
          · rintro _ ⟨h, rfl⟩
            unfold millwrightlaw03_ArSets.j37 at h
            refine sqJ (fun st' => millwrightlaw03_ArSets.j21 k a1 = some out ∧ st' = ⟨[(3, .loc 3 0)], [(3, .box [.p .str a1.f_Name, .p I6 a1.f_Time, .p .str a1.f_Content])]⟩) ?_ ?_
            · refine WpC.seq ?_
              refine rS {} [3, 7, 85, 86, 87] [3] hN (by kernel_rfl) (by kernel_rfl) ?_
              refine tnU ?_
              refine WpC.block ?_
              obtain ⟨o24, hlo24, h⟩ := bind_some h
              have hout25 := h
              clear h
              refine WpC.loop (U := Un) (fun n st' => ∃ v22 : Int, millwrightlaw03_ArSets.l23 k a0 a1 v5 n v22 = some o24 ∧ st' = ⟨[(3, .loc 3 0), (7, .p .str v5.1), (85, .p (.list (.named 3)) a0), (86, .p I6 ((a0.length : Int) : Int)), (87, .p I6 v22)], [(3, .box [.p .str a1.f_Name, .p I6 a1.f_Time, .p .str a1.f_Content])]⟩) k ⟨0, hlo24, by kernel_rfl⟩ ?_
              clear hlo24
              rintro (_ | n) _ ⟨v22, h, rfl⟩
              · cases h
              · rw [millwrightlaw03_ArSets.l23] at h
                refine WpC.seq ?_
                refine rS {} [3, 7, 85, 86, 87, 88] [3] hN (by kernel_rfl) (by kernel_rfl) ?_
                refine tnU ?_
                refine WpC.seq ?_
                refine tS (b := (decide (v22 < (a0.length : Int)))) (by kernel_rfl) (fun hc26 => ?_) (fun hc26 => ?_)
                · replace h := ite_t hc26 h
                  refine WpC.conv (cS [.k [3, 7, 85, 86, 87] [3]] (by kernel_rfl) (by kernel_rfl)) (WpC.skip ?_)
                  refine tnU ?_
                  refine sqJ (fun st' => millwrightlaw03_ArSets.j27 k (millwrightlaw03_ArSets.l23 k a0 a1 v5 n) a0 a1 v5 v22 = some o24 ∧ st' = ⟨[(3, .loc 3 0), (7, .p .str v5.1), (85, .p (.list (.named 3)) a0), (86, .p I6 ((a0.length : Int) : Int)), (87, .p I6 v22)], [(3, .box [.p .str a1.f_Name, .p I6 a1.f_Time, .p .str a1.f_Content])]⟩) ?_ ?_
                  · refine WpC.block ?_
                    refine WpC.seq ?_
                    obtain ⟨v28, hv28, h⟩ := bind_some h
                    refine rS { its := [(0, .v (.named 3) hv28)] } [3, 7, 11, 85, 86, 87] [3, 11] hN (by kernel_rfl) (by kernel_rfl) ?_
                    refine tnU ?_
                    refine WpC.seq ?_
                    obtain ⟨v29, hv29, h⟩ := bind_some h
                    refine rS { its := [(3, .c (ar_Find.ok O hO k v5.1 v28.f_Name v29 hv29))] } [3, 7, 11, 12, 13, 85, 86, 87] [3, 11, 12] hN (by kernel_rfl) (by kernel_rfl) ?_
                    refine tnU ?_
                    refine sqJ (fun st' => ∃ v30 : Bool, millwrightlaw03_ArSets.j32 k (millwrightlaw03_ArSets.l23 k a0 a1 v5 n) a0 a1 v5 v22 v30 = some o24 ∧ st' = ⟨[(3, .loc 3 0), (7, .p .str v5.1), (85, .p (.list (.named 3)) a0), (86, .p I6 ((a0.length : Int) : Int)), (87, .p I6 v22), (111, .p .bool v30)], [(3, .box [.p .str a1.f_Name, .p I6 a1.f_Time, .p .str a1.f_Content])]⟩) ?_ ?_
                    · rcases bool_cases (!(v28.f_Name == a1.f_Name)) with hc33 | hc33
                      · replace h := ite_t hc33 h
                        rcases bool_cases (!v29.2) with hc34 | hc34
                        · replace h := ite_t hc34 h
                          refine rS { kn := [(103, .t hc33), (106, .t hc34)] } [3, 7, 85, 86, 87, 111] [3] hN (by kernel_rfl) (by kernel_rfl) ?_
                          refine tnU ?_
                          exact ⟨true, h, by kernel_rfl⟩
                        · replace h := ite_f hc34 h
                          refine rS { its := [(11, .e 11 (sok_neS (U := Un) (rs := [(107, .p (.named 3) ((T_ar_Member.mk v29.1.f_Name v29.1.f_Time v29.1.f_Content) : T_ar_Member)), (108, .p (.named 3) ((T_ar_Member.mk v28.f_Name v28.f_Time v28.f_Content) : T_ar_Member))]) rfl rfl Tryz.underlying35 (by kernel_rfl) (eqf_35 _ Tryz.underlying35) (by kernel_rfl) o0 o1))], kn := [(103, .t hc33), (106, .f hc34)] } [3, 7, 85, 86, 87, 111] [3] hN (by kernel_rfl) (by kernel_rfl) ?_
                          refine tnU ?_
                          exact ⟨(!(v29.1.f_Name == v28.f_Name && (v29.1.f_Time == v28.f_Time && (v29.1.f_Content == v28.f_Content && true)))), h, by kernel_rfl⟩
                      · replace h := ite_f hc33 h
                        refine rS { kn := [(103, .f hc33)] } [3, 7, 85, 86, 87, 111] [3] hN (by kernel_rfl) (by kernel_rfl) ?_
                        refine tnU ?_
                        exact ⟨false, h, by kernel_rfl⟩
                    · rintro _ ⟨v30, h, rfl⟩
                      unfold millwrightlaw03_ArSets.j32 at h
                      refine tS (b := v30) (by kernel_rfl) (fun hc31 => ?_) (fun hc31 => ?_)
                      · replace h := ite_t hc31 h
                        refine WpC.seq ?_
                        refine rS {} [4] [] hN (by kernel_rfl) (by kernel_rfl) ?_
                        refine tnU ?_
                        refine WpC.ret ?_
                        refine blockQ_ret ?_
                        refine thenQ_ret ?_
                        have hq := Option.some.inj h
                        subst hq
                        refine thenQ_ret ?_
                        have h := hout25
                        refine blockQ_ret ?_
                        refine thenQ_ret ?_
                        have hq := Option.some.inj h
                        subst hq
                        exact eR (by kernel_rfl) (by kernel_rfl)
                      · replace h := ite_f hc31 h
                        refine WpC.conv (cS [.k [3, 7, 85, 86, 87] [3]] (by kernel_rfl) (by kernel_rfl)) (WpC.skip ?_)
                        refine blockQ_normal ?_
                        refine tnU ?_
                        exact ⟨h, by kernel_rfl⟩
                  · rintro _ ⟨h, rfl⟩
                    unfold millwrightlaw03_ArSets.j27 at h
                    refine rS {} [3, 7, 85, 86, 87] [3] hN (by kernel_rfl) (by kernel_rfl) ?_
                    refine tnU ?_
                    exact ⟨n, Nat.lt_succ_self n, (IntKind.i64.wrap (v22 + 1)), h, by kernel_rfl⟩
                · replace h := ite_f hc26 h
                  refine WpC.conv (cS [.k [3] [3]] (by kernel_rfl) (by kernel_rfl)) (WpC.exit ?_)
                  refine thenQ_exit ?_
                  have hq := Option.some.inj h
                  subst hq
                  refine thenQ_exit ?_
                  have h := hout25
                  refine blockQ_hit ?_
                  refine tnU ?_
                  exact ⟨h, by kernel_rfl⟩
            · rintro _ ⟨h, rfl⟩
              unfold millwrightlaw03_ArSets.j21 at h
              refine WpC.seq ?_
              obtain ⟨v14, hv14, h⟩ := bind_some h
              refine rS { its := [(1, .c (ar_Set.ok O hO k ([] : List UInt8) (T_ar_Member.mk a1.f_Name a1.f_Time a1.f_Content) v14 hv14))] } [3, 6, 14] [3] hN (by kernel_rfl) (by kernel_rfl) ?_
              refine tnU ?_
              refine WpC.seq ?_
              obtain ⟨v15, hv15, h⟩ := bind_some h
              refine rS { its := [(1, .c (ar_Set.ok O hO k ([120] : List UInt8) (T_ar_Member.mk a1.f_Name a1.f_Time a1.f_Content) v15 hv15))] } [3, 6, 14, 16] [3] hN (by kernel_rfl) (by kernel_rfl) ?_
              refine tnU ?_
              refine WpC.seq ?_
              obtain ⟨v16, hv16, h⟩ := bind_some h
              refine rS { its := [(2, .c (ar_Make.ok O hO k [(T_ar_Member.mk a1.f_Name a1.f_Time a1.f_Content)] v16 hv16))] } [6, 14, 16, 17, 18] [] hN (by kernel_rfl) (by kernel_rfl) ?_
              refine tnU ?_
              refine WpC.seq ?_
              rcases bool_cases (v14.2 == 0) with hc17 | hc17
              · replace h := ite_t hc17 h
                rcases bool_cases (v16.2 == 0) with hc18 | hc18
                · replace h := ite_t hc18 h
                  rcases bool_cases (v14.1 == v16.1) with hc19 | hc19
                  · replace h := ite_t hc19 h
                    obtain ⟨v20, hv20, h⟩ := bind_some h
                    refine rS { its := [(13, .c (millwrightnum_Num.ok O hO k v15.2 v20 hv20))], kn := [(131, .t hc17), (135, .t hc18), (140, .t hc19)] } [4] [] hN (by kernel_rfl) (by kernel_rfl) ?_
                    refine tnU ?_
                    refine WpC.ret ?_
                    have hq := Option.some.inj h
                    subst hq
                    exact eR (by kernel_rfl) (by kernel_rfl)
                  · replace h := ite_f hc19 h
                    refine rS { kn := [(131, .t hc17), (135, .t hc18), (140, .f hc19)] } [4] [] hN (by kernel_rfl) (by kernel_rfl) ?_
                    refine tnU ?_
                    refine WpC.ret ?_
                    have hq := Option.some.inj h
                    subst hq
                    exact eR (by kernel_rfl) (by kernel_rfl)
                · replace h := ite_f hc18 h
                  refine rS { kn := [(131, .t hc17), (135, .f hc18)] } [4] [] hN (by kernel_rfl) (by kernel_rfl) ?_
                  refine tnU ?_
                  refine WpC.ret ?_
                  have hq := Option.some.inj h
                  subst hq
                  exact eR (by kernel_rfl) (by kernel_rfl)
              · replace h := ite_f hc17 h
                refine rS { kn := [(131, .f hc17)] } [4] [] hN (by kernel_rfl) (by kernel_rfl) ?_
                refine tnU ?_
                refine WpC.ret ?_
                have hq := Option.some.inj h
                subst hq
                exact eR (by kernel_rfl) (by kernel_rfl)

end Go.Proofs.YtgphmfcbhmmpiaaGreatDoor
