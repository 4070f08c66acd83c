/- A part of the proof of a given law: ARC2. Own work, printed in part by a program of mine. -/
import Derived.Test.YtgphmfcbhmmpiaaGreatDoorK14ARC1
namespace Go.Proofs.YtgphmfcbhmmpiaaGreatDoor
open Go Go.AM
set_option linter.unusedVariables false
set_option linter.unusedSimpArgs false
set_option maxRecDepth 100000
theorem millwrightref03_figures.ok (O : Out) (hO : GOk O) (k : Nat) (a0 : List UInt8) (out : Int × Bool) (h : millwrightref03_figures.f k a0 = some out) : COk Un O Tryz.prog 32 { ar := [.p .str a0], r := .tup [.p I6 out.1, .p .bool out.2] } := by
  refine cok_of_wp Tryz.func32 rfl (k := 60) rfl (Nat.le_of_ble_eq_true rfl) (namesOk_pure rfl rfl rfl rfl) ?_
  intro B hN
  refine WpC.conv (cvK (b := ⟨[(0, .p .str a0)], []⟩) [0] [] (by kernel_rfl)) ?_
  unfold millwrightref03_figures.f at h
  refine WpC.seq ?_
  refine rS {} [0] [] hN (by kernel_rfl) (by kernel_rfl) ?_
  refine tnU ?_
  refine WpC.seq ?_
  refine rS {} [0, 4, 5] [] hN (by kernel_rfl) (by kernel_rfl) ?_
  refine tnU ?_
  refine sqJ (fun st' => ∃ v1 : Int, ∃ v2 : Int, millwrightref03_figures.j24 k a0 v1 v2 = some out ∧ st' = ⟨[(0, .p .str a0), (4, .p I6 v1), (5, .p I6 v2)], []⟩) ?_ ?_
  · refine WpC.block ?_
    obtain ⟨o30, hlo30, h⟩ := bind_some h
    have hout31 := h
    clear h
    refine WpC.loop (U := Un) (fun n st' => ∃ v25 : Int, ∃ v26 : Int, millwrightref03_figures.l27 k a0 n v25 v26 = some o30 ∧ st' = ⟨[(0, .p .str a0), (4, .p I6 v25), (5, .p I6 v26)], []⟩) k ⟨0, 0, hlo30, by kernel_rfl⟩ ?_
    clear hlo30
    rintro (_ | n) _ ⟨v25, v26, h, rfl⟩
    · cases h
    · rw [millwrightref03_figures.l27] at h
      refine sqJ (fun st' => millwrightref03_figures.j33 k (millwrightref03_figures.l27 k a0 n) a0 v25 v26 = some o30 ∧ st' = ⟨[(0, .p .str a0), (4, .p I6 v25), (5, .p I6 v26)], []⟩) ?_ ?_
      · refine sqJ (fun st' => ∃ v34 : Bool, millwrightref03_figures.j36 k (millwrightref03_figures.l27 k a0 n) a0 v25 v26 v34 = some o30 ∧ st' = ⟨[(0, .p .str a0), (4, .p I6 v25), (5, .p I6 v26), (21, .p .bool v34)], []⟩) ?_ ?_
        · rcases bool_cases (decide (v26 < (a0.length : Int))) with hc37 | hc37
          · replace h := ite_t hc37 h
            obtain ⟨v38, hv38, h⟩ := bind_some h
            rcases bool_cases (decide ((v38.toNat : Int) ≥ 48)) with hc39 | hc39
            · replace h := ite_t hc39 h
              obtain ⟨v40, hv40, h⟩ := bind_some h
              refine rS { its := [(7, .u hv38), (13, .u hv40)], kn := [(10, .t hc37), (16, .t hc39)] } [0, 4, 5, 21] [] hN (by kernel_rfl) (by kernel_rfl) ?_
              refine tnU ?_
              exact ⟨(decide ((v40.toNat : Int) ≤ 57)), h, by kernel_rfl⟩
            · replace h := ite_f hc39 h
              refine rS { its := [(7, .u hv38)], kn := [(10, .t hc37), (16, .f hc39)] } [0, 4, 5, 21] [] hN (by kernel_rfl) (by kernel_rfl) ?_
              refine tnU ?_
              exact ⟨false, h, by kernel_rfl⟩
          · replace h := ite_f hc37 h
            refine rS { kn := [(10, .f hc37)] } [0, 4, 5, 21] [] hN (by kernel_rfl) (by kernel_rfl) ?_
            refine tnU ?_
            exact ⟨false, h, by kernel_rfl⟩
        · rintro _ ⟨v34, h, rfl⟩
          unfold millwrightref03_figures.j36 at h
          refine tS (b := v34) (by kernel_rfl) (fun hc35 => ?_) (fun hc35 => ?_)
          · replace h := ite_t hc35 h
            refine WpC.conv (cS [.k [0, 4, 5] []] (by kernel_rfl) (by kernel_rfl)) (WpC.skip ?_)
            refine tnU ?_
            exact ⟨h, by kernel_rfl⟩
          · replace h := ite_f hc35 h
            refine WpC.conv (cS [.k [0, 4, 5] []] (by kernel_rfl) (by kernel_rfl)) (WpC.exit ?_)
            refine thenQ_exit ?_
            have hq := Option.some.inj h
            subst hq
            refine thenQ_exit ?_
            have h := hout31
            refine blockQ_hit ?_
            refine tnU ?_
            exact ⟨v25, v26, h, by kernel_rfl⟩
      · rintro _ ⟨h, rfl⟩
        unfold millwrightref03_figures.j33 at h
        refine WpC.block ?_
        refine WpC.seq ?_
        obtain ⟨v32, hv32, h⟩ := bind_some h
        refine rS { its := [(4, .u hv32)] } [0, 4, 5] [] hN (by kernel_rfl) (by kernel_rfl) ?_
        refine tnU ?_
        refine rS {} [0, 4, 5] [] hN (by kernel_rfl) (by kernel_rfl) ?_
        refine blockQ_normal ?_
        refine tnU ?_
        exact ⟨n, Nat.lt_succ_self n, (IntKind.i64.wrap ((IntKind.i64.wrap (v25 * 10)) + (IntKind.i64.wrap (IntKind.u8.wrap ((v32.toNat : Int) - 48))))), (IntKind.i64.wrap (v26 + 1)), h, by kernel_rfl⟩
  · rintro _ ⟨v1, v2, h, rfl⟩
    unfold millwrightref03_figures.j24 at h
    refine sqJ (fun st' => millwrightref03_figures.j17 k a0 v1 v2 = some out ∧ st' = ⟨[(0, .p .str a0), (4, .p I6 v1), (5, .p I6 v2)], []⟩) ?_ ?_
    · refine sqJ (fun st' => ∃ v18 : Bool, millwrightref03_figures.j20 k a0 v1 v2 v18 = some out ∧ st' = ⟨[(0, .p .str a0), (4, .p I6 v1), (5, .p I6 v2), (42, .p .bool v18)], []⟩) ?_ ?_
      · rcases bool_cases (v2 == 0) with hc21 | hc21
        · replace h := ite_t hc21 h
          refine rS { kn := [(34, .t hc21)] } [0, 4, 5, 42] [] hN (by kernel_rfl) (by kernel_rfl) ?_
          refine tnU ?_
          exact ⟨true, h, by kernel_rfl⟩
        · replace h := ite_f hc21 h
          rcases bool_cases (decide (v2 > 1)) with hc22 | hc22
          · replace h := ite_t hc22 h
            obtain ⟨v23, hv23, h⟩ := bind_some h
            refine rS { its := [(7, .u hv23)], kn := [(34, .f hc21), (37, .t hc22)] } [0, 4, 5, 42] [] hN (by kernel_rfl) (by kernel_rfl) ?_
            refine tnU ?_
            exact ⟨((v23.toNat : Int) == 48), h, by kernel_rfl⟩
          · replace h := ite_f hc22 h
            refine rS { kn := [(34, .f hc21), (37, .f hc22)] } [0, 4, 5, 42] [] hN (by kernel_rfl) (by kernel_rfl) ?_
            refine tnU ?_
            exact ⟨false, h, by kernel_rfl⟩
      · rintro _ ⟨v18, h, rfl⟩
        unfold millwrightref03_figures.j20 at h
        refine tS (b := v18) (by kernel_rfl) (fun hc19 => ?_) (fun hc19 => ?_)
        · replace h := ite_t hc19 h
          refine WpC.seq ?_
          refine rS {} [2, 3] [] hN (by kernel_rfl) (by kernel_rfl) ?_
          refine tnU ?_
          refine WpC.ret ?_
          refine thenQ_ret ?_
          have hq := Option.some.inj h
          subst hq
          exact eR (by kernel_rfl) (by kernel_rfl)
        · replace h := ite_f hc19 h
          refine WpC.conv (cS [.k [0, 4, 5] []] (by kernel_rfl) (by kernel_rfl)) (WpC.skip ?_)
          refine tnU ?_
          exact ⟨h, by kernel_rfl⟩
    · rintro _ ⟨h, rfl⟩
      unfold millwrightref03_figures.j17 at h
      refine sqJ (fun st' => ∃ v3 : Int, millwrightref03_figures.j4 k a0 v1 v3 = some out ∧ st' = ⟨[(0, .p .str a0), (4, .p I6 v1), (5, .p I6 v3)], []⟩) ?_ ?_
      · refine WpC.block ?_
        obtain ⟨o8, hlo8, h⟩ := bind_some h
        have hout9 := h
        clear h
        refine WpC.loop (U := Un) (fun n st' => ∃ v5 : Int, millwrightref03_figures.l6 k a0 v1 n v5 = some o8 ∧ st' = ⟨[(0, .p .str a0), (4, .p I6 v1), (5, .p I6 v5)], []⟩) k ⟨v2, hlo8, by kernel_rfl⟩ ?_
        clear hlo8
        rintro (_ | n) _ ⟨v5, h, rfl⟩
        · cases h
        · rw [millwrightref03_figures.l6] at h
          refine sqJ (fun st' => millwrightref03_figures.j10 k (millwrightref03_figures.l6 k a0 v1 n) a0 v1 v5 = some o8 ∧ st' = ⟨[(0, .p .str a0), (4, .p I6 v1), (5, .p I6 v5)], []⟩) ?_ ?_
          · refine sqJ (fun st' => ∃ v11 : Bool, millwrightref03_figures.j13 k (millwrightref03_figures.l6 k a0 v1 n) a0 v1 v5 v11 = some o8 ∧ st' = ⟨[(0, .p .str a0), (4, .p I6 v1), (5, .p I6 v5), (52, .p .bool v11)], []⟩) ?_ ?_
            · rcases bool_cases (decide (v5 < (a0.length : Int))) with hc14 | hc14
              · replace h := ite_t hc14 h
                obtain ⟨v15, hv15, h⟩ := bind_some h
                refine rS { its := [(7, .u hv15)], kn := [(47, .t hc14)] } [0, 4, 5, 52] [] hN (by kernel_rfl) (by kernel_rfl) ?_
                refine tnU ?_
                exact ⟨((v15.toNat : Int) == 32), h, by kernel_rfl⟩
              · replace h := ite_f hc14 h
                refine rS { kn := [(47, .f hc14)] } [0, 4, 5, 52] [] hN (by kernel_rfl) (by kernel_rfl) ?_
                refine tnU ?_
                exact ⟨false, h, by kernel_rfl⟩
            · rintro _ ⟨v11, h, rfl⟩
              unfold millwrightref03_figures.j13 at h
              refine tS (b := v11) (by kernel_rfl) (fun hc12 => ?_) (fun hc12 => ?_)
              · replace h := ite_t hc12 h
                refine WpC.conv (cS [.k [0, 4, 5] []] (by kernel_rfl) (by kernel_rfl)) (WpC.skip ?_)
                refine tnU ?_
                exact ⟨h, by kernel_rfl⟩
              · replace h := ite_f hc12 h
                refine WpC.conv (cS [.k [0, 4, 5] []] (by kernel_rfl) (by kernel_rfl)) (WpC.exit ?_)
                refine thenQ_exit ?_
                have hq := Option.some.inj h
                subst hq
                refine thenQ_exit ?_
                have h := hout9
                refine blockQ_hit ?_
                refine tnU ?_
                exact ⟨v5, h, by kernel_rfl⟩
          · rintro _ ⟨h, rfl⟩
            unfold millwrightref03_figures.j10 at h
            refine WpC.block ?_
            refine rS {} [0, 4, 5] [] hN (by kernel_rfl) (by kernel_rfl) ?_
            refine blockQ_normal ?_
            refine tnU ?_
            exact ⟨n, Nat.lt_succ_self n, (IntKind.i64.wrap (v5 + 1)), h, by kernel_rfl⟩
      · rintro _ ⟨v3, h, rfl⟩
        unfold millwrightref03_figures.j4 at h
        refine WpC.seq ?_
        refine rS {} [2, 3] [] hN (by kernel_rfl) (by kernel_rfl) ?_
        refine tnU ?_
        refine WpC.ret ?_
        have hq := Option.some.inj h
        subst hq
        exact eR (by kernel_rfl) (by kernel_rfl)

theorem millwrightref03_Parse.ok (O : Out) (hO : GOk O) (k : Nat) (a0 : List UInt8) (out : (List T_ar_Member) × Bool) (h : millwrightref03_Parse.f k a0 = some out) : COk Un O Tryz.prog 14 { ar := [.p .str a0], r := .tup [.p (.list (.named 3)) out.1, .p .bool out.2] } := by
  refine cok_of_wp Tryz.func14 rfl (k := 153) rfl (Nat.le_of_ble_eq_true rfl) (namesOk_pure rfl rfl rfl rfl) ?_
  intro B hN
  refine WpC.conv (cvK (b := ⟨[(0, .p .str a0)], []⟩) [0] [] (by kernel_rfl)) ?_
  unfold millwrightref03_Parse.f at h
  refine WpC.seq ?_
  refine rS {} [0] [] hN (by kernel_rfl) (by kernel_rfl) ?_
  refine tnU ?_
  refine sqJ (fun st' => millwrightref03_Parse.j59 k a0 = some out ∧ st' = ⟨[(0, .p .str a0)], []⟩) ?_ ?_
  · refine sqJ (fun st' => ∃ v60 : Bool, millwrightref03_Parse.j62 k a0 v60 = some out ∧ st' = ⟨[(0, .p .str a0), (26, .p .bool v60)], []⟩) ?_ ?_
    · rcases bool_cases (decide ((a0.length : Int) > 900)) with hc63 | hc63
      · replace h := ite_t hc63 h
        refine rS { kn := [(17, .t hc63)] } [0, 26] [] hN (by kernel_rfl) (by kernel_rfl) ?_
        refine tnU ?_
        exact ⟨true, h, by kernel_rfl⟩
      · replace h := ite_f hc63 h
        rcases bool_cases (decide ((a0.length : Int) < 8)) with hc64 | hc64
        · replace h := ite_t hc64 h
          refine rS { kn := [(17, .f hc63), (22, .t hc64)] } [0, 26] [] hN (by kernel_rfl) (by kernel_rfl) ?_
          refine tnU ?_
          exact ⟨true, h, by kernel_rfl⟩
        · replace h := ite_f hc64 h
          obtain ⟨v65, hv65, h⟩ := bind_some h
          refine rS { its := [(10, .v .str hv65)], kn := [(17, .f hc63), (22, .f hc64)] } [0, 26] [] hN (by kernel_rfl) (by kernel_rfl) ?_
          refine tnU ?_
          exact ⟨(!(v65 == ([33, 60, 97, 114, 99, 104, 62, 10] : List UInt8))), h, by kernel_rfl⟩
    · rintro _ ⟨v60, h, rfl⟩
      unfold millwrightref03_Parse.j62 at h
      refine tS (b := v60) (by kernel_rfl) (fun hc61 => ?_) (fun hc61 => ?_)
      · replace h := ite_t hc61 h
        refine WpC.seq ?_
        refine rS {} [2, 3] [] hN (by kernel_rfl) (by kernel_rfl) ?_
        refine tnU ?_
        refine WpC.conv (cS [.nL 2 (.named 3), .k [2, 3] []] (by kernel_rfl) (by kernel_rfl)) (WpC.ret ?_)
        refine thenQ_ret ?_
        have hq := Option.some.inj h
        subst hq
        exact eR (by kernel_rfl) (by kernel_rfl)
      · replace h := ite_f hc61 h
        refine WpC.conv (cS [.k [0] []] (by kernel_rfl) (by kernel_rfl)) (WpC.skip ?_)
        refine tnU ?_
        exact ⟨h, by kernel_rfl⟩
  · rintro _ ⟨h, rfl⟩
    unfold millwrightref03_Parse.j59 at h
    refine WpC.seq ?_
    refine rSC {} [0, 4] [27] hN (by kernel_rfl) (by kernel_rfl) (cS [.k [0, 4] [27], .x (Conv.cast (U := Un) (st := ⟨[(0, .p .str a0), (4, .vec 27 3 0 (([] : List T_ar_Member).length))], [(27, .row 45 (.named 3) ([] : List T_ar_Member) true)]⟩) (st' := ⟨[(0, .p .str a0), (4, .vec 27 3 0 0)], [(27, .row 45 (.named 3) ([] : List T_ar_Member) true)]⟩) (by simp only [upd_length, List.length_nil, List.length_replicate]))] (by kernel_rfl) (by kernel_rfl)) ?_
    refine tnU ?_
    refine sqJ (fun st' => ∃ v1 : List T_ar_Member, millwrightref03_Parse.j3 k v1 = some out ∧ st' = ⟨[(4, .vec 1004 3 0 v1.length)], [(1004, .row 45 (.named 3) v1 false)]⟩) ?_ ?_
    · refine WpC.seq ?_
      refine rS {} [0, 4, 5] [27] hN (by kernel_rfl) (by kernel_rfl) ?_
      refine tnU ?_
      refine WpC.block ?_
      obtain ⟨o8, hlo8, h⟩ := bind_some h
      have hout9 := h
      clear h
      refine WpC.conv (cS [.lo 27, .k [0, 4, 5] [27], .rn 27 1004, .k [0, 4, 5] [1004]] (by kernel_rfl) (by kernel_rfl)) ?_
      refine WpC.loop (U := Un) (fun n st' => ∃ v4 : List T_ar_Member, ∃ v5 : Int, millwrightref03_Parse.l6 k a0 n v4 v5 = some o8 ∧ st' = ⟨[(0, .p .str a0), (4, .vec 1004 3 0 v4.length), (5, .p I6 v5)], [(1004, .row 45 (.named 3) v4 false)]⟩) k ⟨([] : List T_ar_Member), 8, hlo8, by kernel_rfl⟩ ?_
      clear hlo8
      rintro (_ | n) _ ⟨v4, v5, h, rfl⟩
      · cases h
      · rw [millwrightref03_Parse.l6] at h
        refine WpC.seq ?_
        refine WpC.seq ?_
        refine rS {} [0, 4, 5, 31] [1004] hN (by kernel_rfl) (by kernel_rfl) ?_
        refine tnU ?_
        refine tS (b := (decide (v5 < (a0.length : Int)))) (by kernel_rfl) (fun hc10 => ?_) (fun hc10 => ?_)
        · replace h := ite_t hc10 h
          refine WpC.conv (cS [.k [0, 4, 5] [1004]] (by kernel_rfl) (by kernel_rfl)) (WpC.skip ?_)
          refine tnU ?_
          refine WpC.block ?_
          refine sqJ (fun st' => millwrightref03_Parse.j49 k (millwrightref03_Parse.l6 k a0 n) a0 v4 v5 = some o8 ∧ st' = ⟨[(0, .p .str a0), (4, .vec 1004 3 0 v4.length), (5, .p I6 v5)], [(1004, .row 45 (.named 3) v4 false)]⟩) ?_ ?_
          · refine sqJ (fun st' => ∃ v50 : Bool, millwrightref03_Parse.j52 k (millwrightref03_Parse.l6 k a0 n) a0 v4 v5 v50 = some o8 ∧ st' = ⟨[(0, .p .str a0), (4, .vec 1004 3 0 v4.length), (5, .p I6 v5), (54, .p .bool v50)], [(1004, .row 45 (.named 3) v4 false)]⟩) ?_ ?_
            · rcases bool_cases (decide ((IntKind.i64.wrap ((a0.length : Int) - v5)) < 60)) with hc53 | hc53
              · replace h := ite_t hc53 h
                refine rS { kn := [(37, .t hc53)] } [0, 4, 5, 54] [1004] hN (by kernel_rfl) (by kernel_rfl) ?_
                refine tnU ?_
                exact ⟨true, h, by kernel_rfl⟩
              · replace h := ite_f hc53 h
                obtain ⟨v54, hv54, h⟩ := bind_some h
                rcases bool_cases (!(v54 == ([48, 32, 32, 32, 32, 32, 48, 32, 32, 32, 32, 32, 54, 52, 52, 32, 32, 32, 32, 32] : List UInt8))) with hc55 | hc55
                · replace h := ite_t hc55 h
                  refine rS { its := [(11, .v .str hv54)], kn := [(37, .f hc53), (46, .t hc55)] } [0, 4, 5, 54] [1004] hN (by kernel_rfl) (by kernel_rfl) ?_
                  refine tnU ?_
                  exact ⟨true, h, by kernel_rfl⟩
                · replace h := ite_f hc55 h
                  obtain ⟨v56, hv56, h⟩ := bind_some h
                  refine rS { its := [(11, .v .str hv54), (20, .v .str hv56)], kn := [(37, .f hc53), (46, .f hc55)] } [0, 4, 5, 54] [1004] hN (by kernel_rfl) (by kernel_rfl) ?_
                  refine tnU ?_
                  exact ⟨(!(v56 == ([96, 10] : List UInt8))), h, by kernel_rfl⟩
            · rintro _ ⟨v50, h, rfl⟩
              unfold millwrightref03_Parse.j52 at h
              refine tS (b := v50) (by kernel_rfl) (fun hc51 => ?_) (fun hc51 => ?_)
              · replace h := ite_t hc51 h
                refine WpC.seq ?_
                refine rS {} [2, 3] [] hN (by kernel_rfl) (by kernel_rfl) ?_
                refine tnU ?_
                refine WpC.conv (cS [.nL 2 (.named 3), .k [2, 3] []] (by kernel_rfl) (by kernel_rfl)) (WpC.ret ?_)
                refine thenQ_ret ?_
                refine blockQ_ret ?_
                have hq := Option.some.inj h
                subst hq
                refine thenQ_ret ?_
                have h := hout9
                refine blockQ_ret ?_
                refine thenQ_ret ?_
                have hq := Option.some.inj h
                subst hq
                exact eR (by kernel_rfl) (by kernel_rfl)
              · replace h := ite_f hc51 h
                refine WpC.conv (cS [.k [0, 4, 5] [1004]] (by kernel_rfl) (by kernel_rfl)) (WpC.skip ?_)
                refine tnU ?_
                exact ⟨h, by kernel_rfl⟩
          · rintro _ ⟨h, rfl⟩
            unfold millwrightref03_Parse.j49 at h
            refine WpC.seq ?_
            obtain ⟨v11, hv11, h⟩ := bind_some h
            refine rS { its := [(4, .v .str hv11)] } [0, 4, 5, 6] [1004] hN (by kernel_rfl) (by kernel_rfl) ?_
            refine tnU ?_
            refine sqJ (fun st' => ∃ v12 : List UInt8, millwrightref03_Parse.j35 k (millwrightref03_Parse.l6 k a0 n) a0 v4 v5 v12 = some o8 ∧ st' = ⟨[(0, .p .str a0), (4, .vec 1004 3 0 v4.length), (5, .p I6 v5), (6, .p .str v12)], [(1004, .row 45 (.named 3) v4 false)]⟩) ?_ ?_
            · refine WpC.block ?_
              obtain ⟨o39, hlo39, h⟩ := bind_some h
              have hout40 := h
              clear h
              refine WpC.loop (U := Un) (fun n st' => ∃ v36 : List UInt8, millwrightref03_Parse.l37 k a0 v4 v5 n v36 = some o39 ∧ st' = ⟨[(0, .p .str a0), (4, .vec 1004 3 0 v4.length), (5, .p I6 v5), (6, .p .str v36)], [(1004, .row 45 (.named 3) v4 false)]⟩) k ⟨v11, hlo39, by kernel_rfl⟩ ?_
              clear hlo39
              rintro (_ | n) _ ⟨v36, h, rfl⟩
              · cases h
              · rw [millwrightref03_Parse.l37] at h
                refine sqJ (fun st' => millwrightref03_Parse.j42 k (millwrightref03_Parse.l37 k a0 v4 v5 n) a0 v4 v5 v36 = some o39 ∧ st' = ⟨[(0, .p .str a0), (4, .vec 1004 3 0 v4.length), (5, .p I6 v5), (6, .p .str v36)], [(1004, .row 45 (.named 3) v4 false)]⟩) ?_ ?_
                · refine sqJ (fun st' => ∃ v43 : Bool, millwrightref03_Parse.j45 k (millwrightref03_Parse.l37 k a0 v4 v5 n) a0 v4 v5 v36 v43 = some o39 ∧ st' = ⟨[(0, .p .str a0), (4, .vec 1004 3 0 v4.length), (5, .p I6 v5), (6, .p .str v36), (70, .p .bool v43)], [(1004, .row 45 (.named 3) v4 false)]⟩) ?_ ?_
                  · rcases bool_cases (decide ((v36.length : Int) > 0)) with hc46 | hc46
                    · replace h := ite_t hc46 h
                      obtain ⟨v47, hv47, h⟩ := bind_some h
                      refine rS { its := [(8, .u hv47)], kn := [(63, .t hc46)] } [0, 4, 5, 6, 70] [1004] hN (by kernel_rfl) (by kernel_rfl) ?_
                      refine tnU ?_
                      exact ⟨((v47.toNat : Int) == 32), h, by kernel_rfl⟩
                    · replace h := ite_f hc46 h
                      refine rS { kn := [(63, .f hc46)] } [0, 4, 5, 6, 70] [1004] hN (by kernel_rfl) (by kernel_rfl) ?_
                      refine tnU ?_
                      exact ⟨false, h, by kernel_rfl⟩
                  · rintro _ ⟨v43, h, rfl⟩
                    unfold millwrightref03_Parse.j45 at h
                    refine tS (b := v43) (by kernel_rfl) (fun hc44 => ?_) (fun hc44 => ?_)
                    · replace h := ite_t hc44 h
                      refine WpC.conv (cS [.k [0, 4, 5, 6] [1004]] (by kernel_rfl) (by kernel_rfl)) (WpC.skip ?_)
                      refine tnU ?_
                      exact ⟨h, by kernel_rfl⟩
                    · replace h := ite_f hc44 h
                      refine WpC.conv (cS [.k [0, 4, 5, 6] [1004]] (by kernel_rfl) (by kernel_rfl)) (WpC.exit ?_)
                      refine thenQ_exit ?_
                      have hq := Option.some.inj h
                      subst hq
                      refine thenQ_exit ?_
                      have h := hout40
                      refine blockQ_hit ?_
                      refine tnU ?_
                      exact ⟨v36, h, by kernel_rfl⟩
                · rintro _ ⟨h, rfl⟩
                  unfold millwrightref03_Parse.j42 at h
                  refine WpC.block ?_
                  obtain ⟨v41, hv41, h⟩ := bind_some h
                  refine rS { its := [(4, .v .str hv41)] } [0, 4, 5, 6] [1004] hN (by kernel_rfl) (by kernel_rfl) ?_
                  refine blockQ_normal ?_
                  refine tnU ?_
                  exact ⟨n, Nat.lt_succ_self n, v41, h, by kernel_rfl⟩
            · rintro _ ⟨v12, h, rfl⟩
              unfold millwrightref03_Parse.j35 at h
              refine WpC.seq ?_
              obtain ⟨v13, hv13, h⟩ := bind_some h
              obtain ⟨v14, hv14, h⟩ := bind_some h
              refine rS { its := [(5, .v .str hv13), (6, .c (millwrightref03_figures.ok O hO k v13 v14 hv14))] } [0, 4, 5, 6, 7, 8] [1004] hN (by kernel_rfl) (by kernel_rfl) ?_
              refine tnU ?_
              refine WpC.seq ?_
              obtain ⟨v15, hv15, h⟩ := bind_some h
              obtain ⟨v16, hv16, h⟩ := bind_some h
              refine rS { its := [(5, .v .str hv15), (6, .c (millwrightref03_figures.ok O hO k v15 v16 hv16))] } [0, 4, 5, 6, 7, 8, 9, 10] [1004] hN (by kernel_rfl) (by kernel_rfl) ?_
              refine tnU ?_
              refine sqJ (fun st' => millwrightref03_Parse.j29 k (millwrightref03_Parse.l6 k a0 n) a0 v4 v5 v12 v14 v16 = some o8 ∧ st' = ⟨[(0, .p .str a0), (4, .vec 1004 3 0 v4.length), (5, .p I6 v5), (6, .p .str v12), (7, .p I6 v14.1), (9, .p I6 v16.1)], [(1004, .row 45 (.named 3) v4 false)]⟩) ?_ ?_
              · refine sqJ (fun st' => ∃ v30 : Bool, millwrightref03_Parse.j32 k (millwrightref03_Parse.l6 k a0 n) a0 v4 v5 v12 v14 v16 v30 = some o8 ∧ st' = ⟨[(0, .p .str a0), (4, .vec 1004 3 0 v4.length), (5, .p I6 v5), (6, .p .str v12), (7, .p I6 v14.1), (9, .p I6 v16.1), (110, .p .bool v30)], [(1004, .row 45 (.named 3) v4 false)]⟩) ?_ ?_
                · rcases bool_cases (!v14.2) with hc33 | hc33
                  · replace h := ite_t hc33 h
                    refine rS { kn := [(98, .t hc33)] } [0, 4, 5, 6, 7, 9, 110] [1004] hN (by kernel_rfl) (by kernel_rfl) ?_
                    refine tnU ?_
                    exact ⟨true, h, by kernel_rfl⟩
                  · replace h := ite_f hc33 h
                    rcases bool_cases (!v16.2) with hc34 | hc34
                    · replace h := ite_t hc34 h
                      refine rS { kn := [(98, .f hc33), (102, .t hc34)] } [0, 4, 5, 6, 7, 9, 110] [1004] hN (by kernel_rfl) (by kernel_rfl) ?_
                      refine tnU ?_
                      exact ⟨true, h, by kernel_rfl⟩
                    · replace h := ite_f hc34 h
                      refine rS { kn := [(98, .f hc33), (102, .f hc34)] } [0, 4, 5, 6, 7, 9, 110] [1004] hN (by kernel_rfl) (by kernel_rfl) ?_
                      refine tnU ?_
                      exact ⟨(decide (v16.1 > (IntKind.i64.wrap ((IntKind.i64.wrap ((a0.length : Int) - v5)) - 60)))), h, by kernel_rfl⟩
                · rintro _ ⟨v30, h, rfl⟩
                  unfold millwrightref03_Parse.j32 at h
                  refine tS (b := v30) (by kernel_rfl) (fun hc31 => ?_) (fun hc31 => ?_)
                  · replace h := ite_t hc31 h
                    refine WpC.seq ?_
                    refine rS {} [2, 3] [] hN (by kernel_rfl) (by kernel_rfl) ?_
                    refine tnU ?_
                    refine WpC.conv (cS [.nL 2 (.named 3), .k [2, 3] []] (by kernel_rfl) (by kernel_rfl)) (WpC.ret ?_)
                    refine thenQ_ret ?_
                    refine blockQ_ret ?_
                    have hq := Option.some.inj h
                    subst hq
                    refine thenQ_ret ?_
                    have h := hout9
                    refine blockQ_ret ?_
                    refine thenQ_ret ?_
                    have hq := Option.some.inj h
                    subst hq
                    exact eR (by kernel_rfl) (by kernel_rfl)
                  · replace h := ite_f hc31 h
                    refine WpC.conv (cS [.k [0, 4, 5, 6, 7, 9] [1004]] (by kernel_rfl) (by kernel_rfl)) (WpC.skip ?_)
                    refine tnU ?_
                    exact ⟨h, by kernel_rfl⟩
              · rintro _ ⟨h, rfl⟩
                unfold millwrightref03_Parse.j29 at h
                refine WpC.seq ?_
                obtain ⟨v17, hv17, h⟩ := bind_some h
                refine rS { its := [(9, .v .str hv17)] } [0, 4, 5, 9, 11] [11, 1004] hN (by kernel_rfl) (by kernel_rfl) ?_
                refine tnU ?_
                refine WpC.seq ?_
                refine rS {} [0, 4, 5, 9, 11] [11, 1004] hN (by kernel_rfl) (by kernel_rfl) ?_
                refine tnU ?_
                refine sqJ (fun st' => ∃ v18 : Int, millwrightref03_Parse.j20 k (millwrightref03_Parse.l6 k a0 n) a0 v4 v12 v14 v17 v18 = some o8 ∧ st' = ⟨[(0, .p .str a0), (4, .vec 1004 3 0 v4.length), (5, .p I6 v18), (11, .loc 11 0)], [(11, .box [.p .str v12, .p I6 v14.1, .p .str v17]), (1004, .row 45 (.named 3) v4 false)]⟩) ?_ ?_
                · refine WpC.seq ?_
                  obtain ⟨g21, h⟩ := if_some h
                  refine rS { its := [(1, .g g21)] } [0, 4, 5, 11, 128] [11, 1004] hN (by kernel_rfl) (by kernel_rfl) ?_
                  refine tnU ?_
                  refine tS (b := ((Int.tmod v16.1 2) == 1)) (by kernel_rfl) (fun hc22 => ?_) (fun hc22 => ?_)
                  · replace h := ite_t hc22 h
                    refine sqJ (fun st' => millwrightref03_Parse.j23 k (millwrightref03_Parse.l6 k a0 n) a0 v4 v5 v12 v14 v16 v17 = some o8 ∧ st' = ⟨[(0, .p .str a0), (4, .vec 1004 3 0 v4.length), (5, .p I6 ((IntKind.i64.wrap (v5 + (IntKind.i64.wrap (60 + v16.1)))) : Int)), (11, .loc 11 0)], [(11, .box [.p .str v12, .p I6 v14.1, .p .str v17]), (1004, .row 45 (.named 3) v4 false)]⟩) ?_ ?_
                    · refine sqJ (fun st' => ∃ v24 : Bool, millwrightref03_Parse.j26 k (millwrightref03_Parse.l6 k a0 n) a0 v4 v5 v12 v14 v16 v17 v24 = some o8 ∧ st' = ⟨[(0, .p .str a0), (4, .vec 1004 3 0 v4.length), (5, .p I6 ((IntKind.i64.wrap (v5 + (IntKind.i64.wrap (60 + v16.1)))) : Int)), (11, .loc 11 0), (138, .p .bool v24)], [(11, .box [.p .str v12, .p I6 v14.1, .p .str v17]), (1004, .row 45 (.named 3) v4 false)]⟩) ?_ ?_
                      · rcases bool_cases (decide ((IntKind.i64.wrap (v5 + (IntKind.i64.wrap (60 + v16.1)))) ≥ (a0.length : Int))) with hc27 | hc27
                        · replace h := ite_t hc27 h
                          refine rS { kn := [(133, .t hc27)] } [0, 4, 5, 11, 138] [11, 1004] hN (by kernel_rfl) (by kernel_rfl) ?_
                          refine tnU ?_
                          exact ⟨true, h, by kernel_rfl⟩
                        · replace h := ite_f hc27 h
                          obtain ⟨v28, hv28, h⟩ := bind_some h
                          refine rS { its := [(7, .u hv28)], kn := [(133, .f hc27)] } [0, 4, 5, 11, 138] [11, 1004] hN (by kernel_rfl) (by kernel_rfl) ?_
                          refine tnU ?_
                          exact ⟨((v28.toNat : Int) != 10), h, by kernel_rfl⟩
                      · rintro _ ⟨v24, h, rfl⟩
                        unfold millwrightref03_Parse.j26 at h
                        refine tS (b := v24) (by kernel_rfl) (fun hc25 => ?_) (fun hc25 => ?_)
                        · replace h := ite_t hc25 h
                          refine WpC.seq ?_
                          refine rS {} [2, 3] [] hN (by kernel_rfl) (by kernel_rfl) ?_
                          refine tnU ?_
                          refine WpC.conv (cS [.nL 2 (.named 3), .k [2, 3] []] (by kernel_rfl) (by kernel_rfl)) (WpC.ret ?_)
                          refine thenQ_ret ?_
                          refine thenQ_ret ?_
                          refine blockQ_ret ?_
                          have hq := Option.some.inj h
                          subst hq
                          refine thenQ_ret ?_
                          have h := hout9
                          refine blockQ_ret ?_
                          refine thenQ_ret ?_
                          have hq := Option.some.inj h
                          subst hq
                          exact eR (by kernel_rfl) (by kernel_rfl)
                        · replace h := ite_f hc25 h
                          refine WpC.conv (cS [.k [0, 4, 5, 11] [11, 1004]] (by kernel_rfl) (by kernel_rfl)) (WpC.skip ?_)
                          refine tnU ?_
                          exact ⟨h, by kernel_rfl⟩
                    · rintro _ ⟨h, rfl⟩
                      unfold millwrightref03_Parse.j23 at h
                      refine rS {} [0, 4, 5, 11] [11, 1004] hN (by kernel_rfl) (by kernel_rfl) ?_
                      refine tnU ?_
                      exact ⟨(IntKind.i64.wrap ((IntKind.i64.wrap (v5 + (IntKind.i64.wrap (60 + v16.1)))) + 1)), h, by kernel_rfl⟩
                  · replace h := ite_f hc22 h
                    refine WpC.conv (cS [.k [0, 4, 5, 11] [11, 1004]] (by kernel_rfl) (by kernel_rfl)) (WpC.skip ?_)
                    refine tnU ?_
                    exact ⟨(IntKind.i64.wrap (v5 + (IntKind.i64.wrap (60 + v16.1)))), h, by kernel_rfl⟩
                · rintro _ ⟨v18, h, rfl⟩
                  unfold millwrightref03_Parse.j20 at h
                  obtain ⟨g19, h⟩ := if_some h
                  refine rSC { its := [(3, .g g19)] } [0, 4, 5] [144] hN (by kernel_rfl) (by kernel_rfl) (cS [.rn 144 1004, .k [0, 4, 5] [1004]] (by kernel_rfl) (by kernel_rfl)) ?_
                  refine blockQ_normal ?_
                  refine tnU ?_
                  exact ⟨n, Nat.lt_succ_self n, (v4 ++ [(T_ar_Member.mk v12 v14.1 v17)]), v18, h, by kernel_rfl⟩
        · replace h := ite_f hc10 h
          refine WpC.conv (cS [.k [4] [1004]] (by kernel_rfl) (by kernel_rfl)) (WpC.exit ?_)
          refine thenQ_exit ?_
          have hq := Option.some.inj h
          subst hq
          refine thenQ_exit ?_
          have h := hout9
          refine blockQ_hit ?_
          refine tnU ?_
          exact ⟨v4, h, by kernel_rfl⟩
    · rintro _ ⟨v1, h, rfl⟩
      unfold millwrightref03_Parse.j3 at h
      refine WpC.seq ?_
      obtain ⟨v2, hv2, h⟩ := bind_some h
      refine rS { its := [(1, .c (millwrightref03_Make.ok O hO k v1 v2 hv2))] } [4, 13] [1004] hN (by kernel_rfl) (by kernel_rfl) ?_
      refine tnU ?_
      refine WpC.seq ?_
      refine rS {} [2, 3] [1004] hN (by kernel_rfl) (by kernel_rfl) ?_
      refine tnU ?_
      refine WpC.conv (cS [.fz 2, .k [2, 3] []] (by kernel_rfl) (by kernel_rfl)) (WpC.ret ?_)
      have hq := Option.some.inj h
      subst hq
      exact eR (by kernel_rfl) (by kernel_rfl)

theorem ar_at_1_m0.ok (O : Out) (hO : GOk O) (k : Nat) (a0 : T_ar_Member) (a1 : List UInt8) (out : Bool) (h : ar_at_1_m0.f k a0 a1 = some out) : COk Un O Tryz.prog 47 { ar := [.p (.named 3) a0, .loc 100000 0], r := .p .bool out, bs := [(100000, .box [.p .str a1])], bs' := [(100000, .box [.p .str a1])] } := by
  refine cok_of_wp Tryz.func47 rfl (k := 8) rfl (Nat.le_of_ble_eq_true rfl) (namesOk_of (by kernel_rfl)) ?_
  intro B hN
  refine WpC.conv (cvK (b := ⟨[(0, .p (.named 3) a0), (1, .loc 100000 0)], [(100000, .box [.p .str a1])]⟩) [0, 1] [100000] (by kernel_rfl)) ?_
  unfold ar_at_1_m0.f at h
  refine WpC.seq ?_
  refine rS {} [1, 2] [2, 100000] hN (by kernel_rfl) (by kernel_rfl) ?_
  refine tnU ?_
  refine WpC.seq ?_
  refine rS {} [3] [100000] hN (by kernel_rfl) (by kernel_rfl) ?_
  refine tnU ?_
  refine WpC.ret ?_
  have hq := Option.some.inj h
  subst hq
  exact eR (by kernel_rfl) (by kernel_rfl)

theorem ar_Member_34_m2.ok (O : Out) (hO : GOk O) (k : Nat) (a0 : List T_ar_Member) (a1 : List UInt8) (out : Int) (h : ar_Member_34_m2.f k a0 a1 = some out) : COk Un O Tryz.prog 34 { ar := [.p (.list (.named 3)) a0, .clo 47 [.loc 100000 0]], r := .p I6 out, bs := [(100000, .box [.p .str a1])], bs' := [(100000, .box [.p .str a1])] } := by
  refine cok_of_wp Tryz.func34 rfl (k := 19) rfl (Nat.le_of_ble_eq_true rfl) (namesOk_of (by kernel_rfl)) ?_
  intro B hN
  refine WpC.conv (cvK (b := ⟨[(0, .p (.list (.named 3)) a0), (1, .clo 47 [.loc 100000 0])], [(100000, .box [.p .str a1])]⟩) [0, 1] [100000] (by kernel_rfl)) ?_
  unfold ar_Member_34_m2.f at h
  refine WpC.seq ?_
  refine rS {} [0, 1] [100000] hN (by kernel_rfl) (by kernel_rfl) ?_
  refine tnU ?_
  refine sqJ (fun st' => ar_Member_34_m2.j1 k a1 = some out ∧ st' = ⟨[], [(100000, .box [.p .str a1])]⟩) ?_ ?_
  · refine WpC.seq ?_
    refine rS {} [0, 1, 7, 8] [100000] hN (by kernel_rfl) (by kernel_rfl) ?_
    refine tnU ?_
    refine WpC.block ?_
    obtain ⟨o4, hlo4, h⟩ := bind_some h
    have hout5 := h
    clear h
    refine WpC.loop (U := Un) (fun n st' => ∃ v2 : Int, ar_Member_34_m2.l3 k a0 a1 n v2 = some o4 ∧ st' = ⟨[(0, .p (.list (.named 3)) a0), (1, .clo 47 [.loc 100000 0]), (7, .p I6 ((a0.length : Int) : Int)), (8, .p I6 v2)], [(100000, .box [.p .str a1])]⟩) k ⟨0, hlo4, by kernel_rfl⟩ ?_
    clear hlo4
    rintro (_ | n) _ ⟨v2, h, rfl⟩
    · cases h
    · rw [ar_Member_34_m2.l3] at h
      refine WpC.seq ?_
      refine rS {} [0, 1, 7, 8, 9] [100000] hN (by kernel_rfl) (by kernel_rfl) ?_
      refine tnU ?_
      refine WpC.seq ?_
      refine tS (b := (decide (v2 < (a0.length : Int)))) (by kernel_rfl) (fun hc6 => ?_) (fun hc6 => ?_)
      · replace h := ite_t hc6 h
        refine WpC.conv (cS [.k [0, 1, 7, 8] [100000]] (by kernel_rfl) (by kernel_rfl)) (WpC.skip ?_)
        refine tnU ?_
        refine WpC.seq ?_
        refine WpC.block ?_
        refine WpC.seq ?_
        refine rS {} [0, 1, 5, 7, 8] [100000] hN (by kernel_rfl) (by kernel_rfl) ?_
        refine tnU ?_
        refine WpC.seq ?_
        obtain ⟨v7, hv7, h⟩ := bind_some h
        obtain ⟨v8, hv8, h⟩ := bind_some h
        refine rS { its := [(3, .v (.named 3) hv7), (5, .c (COk.ren (ar_at_1_m0.ok O hO k v7 a1 v8 hv8) (fun n => if n = 100000 then 100000 else n) (injOn_of (by kernel_rfl))))] } [0, 1, 5, 7, 8, 16] [100000] hN (by kernel_rfl) (by kernel_rfl) ?_
        refine tnU ?_
        refine tS (b := v8) (by kernel_rfl) (fun hc9 => ?_) (fun hc9 => ?_)
        · replace h := ite_t hc9 h
          refine WpC.seq ?_
          refine rS {} [4] [100000] hN (by kernel_rfl) (by kernel_rfl) ?_
          refine tnU ?_
          refine WpC.ret ?_
          refine blockQ_ret ?_
          refine thenQ_ret ?_
          have hq := Option.some.inj h
          subst hq
          refine thenQ_ret ?_
          have h := hout5
          refine blockQ_ret ?_
          refine thenQ_ret ?_
          have hq := Option.some.inj h
          subst hq
          exact eR (by kernel_rfl) (by kernel_rfl)
        · replace h := ite_f hc9 h
          refine WpC.conv (cS [.k [0, 1, 7, 8] [100000]] (by kernel_rfl) (by kernel_rfl)) (WpC.skip ?_)
          refine blockQ_normal ?_
          refine tnU ?_
          refine rS {} [0, 1, 7, 8] [100000] hN (by kernel_rfl) (by kernel_rfl) ?_
          refine tnU ?_
          exact ⟨n, Nat.lt_succ_self n, (IntKind.i64.wrap (v2 + 1)), h, by kernel_rfl⟩
      · replace h := ite_f hc6 h
        refine WpC.conv (cS [.k [] [100000]] (by kernel_rfl) (by kernel_rfl)) (WpC.exit ?_)
        refine thenQ_exit ?_
        have hq := Option.some.inj h
        subst hq
        refine thenQ_exit ?_
        have h := hout5
        refine blockQ_hit ?_
        refine tnU ?_
        exact ⟨h, by kernel_rfl⟩
  · rintro _ ⟨h, rfl⟩
    unfold ar_Member_34_m2.j1 at h
    refine WpC.seq ?_
    refine rS {} [4] [100000] hN (by kernel_rfl) (by kernel_rfl) ?_
    refine tnU ?_
    refine WpC.ret ?_
    have hq := Option.some.inj h
    subst hq
    exact eR (by kernel_rfl) (by kernel_rfl)

theorem ar_at.ok (O : Out) (hO : GOk O) (k : Nat) (a0 : List T_ar_Member) (a1 : List UInt8) (out : Int) (h : ar_at.f k a0 a1 = some out) : COk Un O Tryz.prog 33 { ar := [.p (.list (.named 3)) a0, .p .str a1], r := .p I6 out } := by
  refine cok_of_wp Tryz.func33 rfl (k := 8) rfl (Nat.le_of_ble_eq_true rfl) (namesOk_pure rfl rfl rfl rfl) ?_
  intro B hN
  refine WpC.conv (cvK (b := ⟨[(0, .p (.list (.named 3)) a0), (1, .p .str a1)], []⟩) [0, 1] [] (by kernel_rfl)) ?_
  unfold ar_at.f at h
  refine WpC.seq ?_
  refine rS {} [0, 3] [3] hN (by kernel_rfl) (by kernel_rfl) ?_
  refine tnU ?_
  refine WpC.seq ?_
  obtain ⟨v1, hv1, h⟩ := bind_some h
  refine rS { its := [(2, .c (COk.ren (ar_Member_34_m2.ok O hO k a0 a1 v1 hv1) (fun n => if n = 100000 then 3 else n) (injOn_of (by kernel_rfl))))] } [4] [] hN (by kernel_rfl) (by kernel_rfl) ?_
  refine tnU ?_
  refine WpC.ret ?_
  have hq := Option.some.inj h
  subst hq
  exact eR (by kernel_rfl) (by kernel_rfl)

theorem ar_Find.ok (O : Out) (hO : GOk O) (k : Nat) (a0 : List UInt8) (a1 : List UInt8) (out : T_ar_Member × Bool) (h : ar_Find.f k a0 a1 = some out) : COk Un O Tryz.prog 15 { ar := [.p .str a0, .p .str a1], r := .tup [.p (.named 3) out.1, .p .bool out.2] } := by
  refine cok_of_wp Tryz.func15 rfl (k := 28) rfl (Nat.le_of_ble_eq_true rfl) (namesOk_pure rfl rfl rfl rfl) ?_
  intro B hN
  refine WpC.conv (cvK (b := ⟨[(0, .p .str a0), (1, .p .str a1)], []⟩) [0, 1] [] (by kernel_rfl)) ?_
  unfold ar_Find.f at h
  refine WpC.seq ?_
  refine rS {} [0, 1, 4] [4] hN (by kernel_rfl) (by kernel_rfl) ?_
  refine tnU ?_
  refine WpC.seq ?_
  obtain ⟨v1, hv1, h⟩ := bind_some h
  refine rS { its := [(1, .c (COk.ren (ar_Parse.ok O hO k a0 v1 hv1) (fun n => if n = 60500 then 10001 else n) (injOn_of (by kernel_rfl))))] } [1, 4, 6, 7] [4, 10001] hN (by kernel_rfl) (by kernel_rfl) ?_
  refine tnU ?_
  refine WpC.seq ?_
  obtain ⟨v2, hv2, h⟩ := bind_some h
  refine rS { its := [(2, .c (ar_at.ok O hO k v1.1 a1 v2 hv2))] } [4, 6, 7, 8] [4, 10001] hN (by kernel_rfl) (by kernel_rfl) ?_
  refine tnU ?_
  refine sqJ (fun st' => ar_Find.j5 k v1 v2 = some out ∧ st' = ⟨[(4, .loc 4 0), (6, .vec 10001 3 0 v1.1.length), (8, .p I6 v2)], [(4, .box [.p .str ([] : List UInt8), .p I6 (0 : Int), .p .str ([] : List UInt8)]), (10001, .row 35 (.named 3) v1.1 false)]⟩) ?_ ?_
  · refine sqJ (fun st' => ∃ v6 : Bool, ar_Find.j8 k v1 v2 v6 = some out ∧ st' = ⟨[(4, .loc 4 0), (6, .vec 10001 3 0 v1.1.length), (8, .p I6 v2), (22, .p .bool v6)], [(4, .box [.p .str ([] : List UInt8), .p I6 (0 : Int), .p .str ([] : List UInt8)]), (10001, .row 35 (.named 3) v1.1 false)]⟩) ?_ ?_
    · rcases bool_cases (!(v1.2 == 0)) with hc9 | hc9
      · replace h := ite_t hc9 h
        refine rS { kn := [(19, .t hc9)] } [4, 6, 8, 22] [4, 10001] hN (by kernel_rfl) (by kernel_rfl) ?_
        refine tnU ?_
        exact ⟨true, h, by kernel_rfl⟩
      · replace h := ite_f hc9 h
        refine rS { kn := [(19, .f hc9)] } [4, 6, 8, 22] [4, 10001] hN (by kernel_rfl) (by kernel_rfl) ?_
        refine tnU ?_
        exact ⟨(decide (v2 < 0)), h, by kernel_rfl⟩
    · rintro _ ⟨v6, h, rfl⟩
      unfold ar_Find.j8 at h
      refine tS (b := v6) (by kernel_rfl) (fun hc7 => ?_) (fun hc7 => ?_)
      · replace h := ite_t hc7 h
        refine WpC.seq ?_
        refine rS {} [4, 5] [4] hN (by kernel_rfl) (by kernel_rfl) ?_
        refine tnU ?_
        refine WpC.ret ?_
        refine thenQ_ret ?_
        have hq := Option.some.inj h
        subst hq
        exact eR (by kernel_rfl) (by kernel_rfl)
      · replace h := ite_f hc7 h
        refine WpC.conv (cS [.k [4, 6, 8] [4, 10001]] (by kernel_rfl) (by kernel_rfl)) (WpC.skip ?_)
        refine tnU ?_
        exact ⟨h, by kernel_rfl⟩
  · rintro _ ⟨h, rfl⟩
    unfold ar_Find.j5 at h
    refine WpC.seq ?_
    obtain ⟨g3, h⟩ := if_some h
    obtain ⟨v4, hv4, h⟩ := bind_some h
    refine rS { its := [(2, .g g3), (3, .v (.named 3) hv4)] } [4, 5] [4] hN (by kernel_rfl) (by kernel_rfl) ?_
    refine tnU ?_
    refine WpC.ret ?_
    have hq := Option.some.inj h
    subst hq
    exact eR (by kernel_rfl) (by kernel_rfl)

theorem millwrightlaw03_ArParses.ok (O : Out) (hO : GOk O) (k : Nat) (a0 : List UInt8) (a1 : List UInt8) (out : Bool) (h : millwrightlaw03_ArParses.f k a0 a1 = some out) : COk Un O Tryz.prog 4 { ar := [.p .str a0, .p .str a1], r := .p .bool out } := by
  refine cok_of_wp Tryz.func4 rfl (k := 111) rfl (Nat.le_of_ble_eq_true rfl) (namesOk_pure rfl rfl rfl rfl) ?_
  intro B hN
  refine WpC.conv (cvK (b := ⟨[(0, .p .str a0), (1, .p .str a1)], []⟩) [0, 1] [] (by kernel_rfl)) ?_
  unfold millwrightlaw03_ArParses.f at h
  refine WpC.seq ?_
  refine rS {} [0, 1] [] hN (by kernel_rfl) (by kernel_rfl) ?_
  refine tnU ?_
  refine WpC.seq ?_
  refine WpC.seq ?_
  obtain ⟨v1, hv1, h⟩ := bind_some h
  refine rS { its := [(0, .c (millwrightlaw03_alive.ok O hO k v1 hv1))] } [0, 1, 16] [] hN (by kernel_rfl) (by kernel_rfl) ?_
  refine tnU ?_
  refine tS (b := (!v1)) (by kernel_rfl) (fun hc2 => ?_) (fun hc2 => ?_)
  · replace h := ite_t hc2 h
    refine WpC.seq ?_
    refine rS {} [4] [] hN (by kernel_rfl) (by kernel_rfl) ?_
    refine tnU ?_
    refine WpC.ret ?_
    refine thenQ_ret ?_
    have hq := Option.some.inj h
    subst hq
    exact eR (by kernel_rfl) (by kernel_rfl)
  · replace h := ite_f hc2 h
    refine WpC.conv (cS [.k [0, 1] []] (by kernel_rfl) (by kernel_rfl)) (WpC.skip ?_)
    refine tnU ?_
    refine sqJ (fun st' => millwrightlaw03_ArParses.j40 k a0 a1 = some out ∧ st' = ⟨[(0, .p .str a0), (1, .p .str a1)], []⟩) ?_ ?_
    · refine sqJ (fun st' => ∃ v41 : Bool, millwrightlaw03_ArParses.j43 k a0 a1 v41 = some out ∧ st' = ⟨[(0, .p .str a0), (1, .p .str a1), (24, .p .bool v41)], []⟩) ?_ ?_
      · rcases bool_cases (decide ((a0.length : Int) > 1200)) with hc44 | hc44
        · replace h := ite_t hc44 h
          refine rS { kn := [(20, .t hc44)] } [0, 1, 24] [] hN (by kernel_rfl) (by kernel_rfl) ?_
          refine tnU ?_
          exact ⟨true, h, by kernel_rfl⟩
        · replace h := ite_f hc44 h
          refine rS { kn := [(20, .f hc44)] } [0, 1, 24] [] hN (by kernel_rfl) (by kernel_rfl) ?_
          refine tnU ?_
          exact ⟨(decide ((a1.length : Int) > 100)), h, by kernel_rfl⟩
      · rintro _ ⟨v41, h, rfl⟩
        unfold millwrightlaw03_ArParses.j43 at h
        refine tS (b := v41) (by kernel_rfl) (fun hc42 => ?_) (fun hc42 => ?_)
        · replace h := ite_t hc42 h
          refine WpC.seq ?_
          refine rS {} [4] [] hN (by kernel_rfl) (by kernel_rfl) ?_
          refine tnU ?_
          refine WpC.ret ?_
          refine thenQ_ret ?_
          have hq := Option.some.inj h
          subst hq
          exact eR (by kernel_rfl) (by kernel_rfl)
        · replace h := ite_f hc42 h
          refine WpC.conv (cS [.k [0, 1] []] (by kernel_rfl) (by kernel_rfl)) (WpC.skip ?_)
          refine tnU ?_
          exact ⟨h, by kernel_rfl⟩
    · rintro _ ⟨h, rfl⟩
      unfold millwrightlaw03_ArParses.j40 at h
      refine WpC.seq ?_
      obtain ⟨v3, hv3, h⟩ := bind_some h
      refine rS { its := [(1, .c (COk.ren (ar_Parse.ok O hO k a0 v3 hv3) (fun n => if n = 60500 then 10001 else n) (injOn_of (by kernel_rfl))))] } [0, 1, 5, 6] [10001] hN (by kernel_rfl) (by kernel_rfl) ?_
      refine tnU ?_
      refine WpC.seq ?_
      obtain ⟨v4, hv4, h⟩ := bind_some h
      refine rS { its := [(1, .c (millwrightref03_Parse.ok O hO k a0 v4 hv4))] } [0, 1, 5, 6, 7, 8] [10001] hN (by kernel_rfl) (by kernel_rfl) ?_
      refine tnU ?_
      refine WpC.seq ?_
      obtain ⟨v5, hv5, h⟩ := bind_some h
      refine rS { its := [(2, .c (ar_Find.ok O hO k a0 a1 v5 hv5))] } [0, 1, 5, 6, 7, 8, 9, 10] [9, 10001] hN (by kernel_rfl) (by kernel_rfl) ?_
      refine tnU ?_
      refine WpC.seq ?_
      refine WpC.seq ?_
      obtain ⟨v6, hv6, h⟩ := bind_some h
      refine rS { its := [(1, .c (ar_Is.ok O hO k a0 v6 hv6))] } [0, 1, 5, 6, 7, 8, 9, 10, 44] [9, 10001] hN (by kernel_rfl) (by kernel_rfl) ?_
      refine tnU ?_
      refine tS (b := (!(v6 == v4.2))) (by kernel_rfl) (fun hc7 => ?_) (fun hc7 => ?_)
      · replace h := ite_t hc7 h
        refine WpC.seq ?_
        refine rS {} [4] [] hN (by kernel_rfl) (by kernel_rfl) ?_
        refine tnU ?_
        refine WpC.ret ?_
        refine thenQ_ret ?_
        have hq := Option.some.inj h
        subst hq
        exact eR (by kernel_rfl) (by kernel_rfl)
      · replace h := ite_f hc7 h
        refine WpC.conv (cS [.k [0, 1, 5, 6, 7, 8, 9, 10] [9, 10001]] (by kernel_rfl) (by kernel_rfl)) (WpC.skip ?_)
        refine tnU ?_
        refine WpC.seq ?_
        refine WpC.seq ?_
        refine rS {} [0, 1, 5, 6, 7, 9, 10, 46] [9, 10001] hN (by kernel_rfl) (by kernel_rfl) ?_
        refine tnU ?_
        refine tS (b := (!v4.2)) (by kernel_rfl) (fun hc8 => ?_) (fun hc8 => ?_)
        · replace h := ite_t hc8 h
          refine WpC.seq ?_
          rcases bool_cases ((v3.1.length : Int) == 0) with hc9 | hc9
          · replace h := ite_t hc9 h
            rcases bool_cases (!v5.2) with hc10 | hc10
            · replace h := ite_t hc10 h
              rcases bool_cases (v5.1.f_Name == [] && (v5.1.f_Time == 0 && (v5.1.f_Content == [] && true))) with hc11 | hc11
              · replace h := ite_t hc11 h
                obtain ⟨v12, hv12, h⟩ := bind_some h
                refine rS { its := [(10, .e 10 (sok_eqS (U := Un) (rs := [(55, .p (.named 3) ((T_ar_Member.mk v5.1.f_Name v5.1.f_Time v5.1.f_Content) : T_ar_Member)), (56, .p (.named 3) ((T_ar_Member.mk [] 0 []) : T_ar_Member))]) rfl rfl Tryz.underlying35 (by kernel_rfl) (eqf_35 _ Tryz.underlying35) (by kernel_rfl) o0 o1)), (14, .c (millwrightnum_Num.ok O hO k v3.2 v12 hv12))], kn := [(50, .t hc9), (54, .t hc10), (59, .t hc11)] } [4] [] hN (by kernel_rfl) (by kernel_rfl) ?_
                refine tnU ?_
                refine WpC.ret ?_
                refine thenQ_ret ?_
                have hq := Option.some.inj h
                subst hq
                exact eR (by kernel_rfl) (by kernel_rfl)
              · replace h := ite_f hc11 h
                refine rS { its := [(10, .e 10 (sok_eqS (U := Un) (rs := [(55, .p (.named 3) ((T_ar_Member.mk v5.1.f_Name v5.1.f_Time v5.1.f_Content) : T_ar_Member)), (56, .p (.named 3) ((T_ar_Member.mk [] 0 []) : T_ar_Member))]) rfl rfl Tryz.underlying35 (by kernel_rfl) (eqf_35 _ Tryz.underlying35) (by kernel_rfl) o0 o1))], kn := [(50, .t hc9), (54, .t hc10), (59, .f hc11)] } [4] [] hN (by kernel_rfl) (by kernel_rfl) ?_
                refine tnU ?_
                refine WpC.ret ?_
                refine thenQ_ret ?_
                have hq := Option.some.inj h
                subst hq
                exact eR (by kernel_rfl) (by kernel_rfl)
            · replace h := ite_f hc10 h
              refine rS { kn := [(50, .t hc9), (54, .f hc10)] } [4] [] hN (by kernel_rfl) (by kernel_rfl) ?_
              refine tnU ?_
              refine WpC.ret ?_
              refine thenQ_ret ?_
              have hq := Option.some.inj h
              subst hq
              exact eR (by kernel_rfl) (by kernel_rfl)
          · replace h := ite_f hc9 h
            refine rS { kn := [(50, .f hc9)] } [4] [] hN (by kernel_rfl) (by kernel_rfl) ?_
            refine tnU ?_
            refine WpC.ret ?_
            refine thenQ_ret ?_
            have hq := Option.some.inj h
            subst hq
            exact eR (by kernel_rfl) (by kernel_rfl)
        · replace h := ite_f hc8 h
          refine WpC.conv (cS [.k [0, 1, 5, 6, 7, 9, 10] [9, 10001]] (by kernel_rfl) (by kernel_rfl)) (WpC.skip ?_)
          refine tnU ?_
          refine sqJ (fun st' => millwrightlaw03_ArParses.j35 k a0 a1 v3 v4 v5 = some out ∧ st' = ⟨[(0, .p .str a0), (1, .p .str a1), (5, .vec 10001 3 0 v3.1.length), (7, .p (.list (.named 3)) v4.1), (9, .loc 9 0), (10, .p .bool v5.2)], [(9, .box [.p .str v5.1.f_Name, .p I6 v5.1.f_Time, .p .str v5.1.f_Content]), (10001, .row 35 (.named 3) v3.1 false)]⟩) ?_ ?_
          · refine sqJ (fun st' => ∃ v36 : Bool, millwrightlaw03_ArParses.j38 k a0 a1 v3 v4 v5 v36 = some out ∧ st' = ⟨[(0, .p .str a0), (1, .p .str a1), (5, .vec 10001 3 0 v3.1.length), (7, .p (.list (.named 3)) v4.1), (9, .loc 9 0), (10, .p .bool v5.2), (72, .p .bool v36)], [(9, .box [.p .str v5.1.f_Name, .p I6 v5.1.f_Time, .p .str v5.1.f_Content]), (10001, .row 35 (.named 3) v3.1 false)]⟩) ?_ ?_
            · rcases bool_cases (!(v3.2 == 0)) with hc39 | hc39
              · replace h := ite_t hc39 h
                refine rS { kn := [(66, .t hc39)] } [0, 1, 5, 7, 9, 10, 72] [9, 10001] hN (by kernel_rfl) (by kernel_rfl) ?_
                refine tnU ?_
                exact ⟨true, h, by kernel_rfl⟩
              · replace h := ite_f hc39 h
                refine rS { kn := [(66, .f hc39)] } [0, 1, 5, 7, 9, 10, 72] [9, 10001] hN (by kernel_rfl) (by kernel_rfl) ?_
                refine tnU ?_
                exact ⟨((v3.1.length : Int) != (v4.1.length : Int)), h, by kernel_rfl⟩
            · rintro _ ⟨v36, h, rfl⟩
              unfold millwrightlaw03_ArParses.j38 at h
              refine tS (b := v36) (by kernel_rfl) (fun hc37 => ?_) (fun hc37 => ?_)
              · replace h := ite_t hc37 h
                refine WpC.seq ?_
                refine rS {} [4] [] hN (by kernel_rfl) (by kernel_rfl) ?_
                refine tnU ?_
                refine WpC.ret ?_
                refine thenQ_ret ?_
                have hq := Option.some.inj h
                subst hq
                exact eR (by kernel_rfl) (by kernel_rfl)
              · replace h := ite_f hc37 h
                refine WpC.conv (cS [.k [0, 1, 5, 7, 9, 10] [9, 10001]] (by kernel_rfl) (by kernel_rfl)) (WpC.skip ?_)
                refine tnU ?_
                exact ⟨h, by kernel_rfl⟩
          · rintro _ ⟨h, rfl⟩
            unfold millwrightlaw03_ArParses.j35 at h
            refine WpC.seq ?_
            refine rS {} [0, 1, 5, 7, 9, 10, 11] [9, 10001] hN (by kernel_rfl) (by kernel_rfl) ?_
            refine tnU ?_
            refine sqJ (fun st' => ∃ v13 : Bool, millwrightlaw03_ArParses.j17 k a0 v3 v5 v13 = some out ∧ st' = ⟨[(0, .p .str a0), (5, .vec 10001 3 0 v3.1.length), (10, .p .bool v5.2), (11, .p .bool v13)], [(10001, .row 35 (.named 3) v3.1 false)]⟩) ?_ ?_
            · refine WpC.seq ?_
              refine rS {} [0, 1, 5, 7, 9, 10, 11, 73, 74, 75] [9, 10001] hN (by kernel_rfl) (by kernel_rfl) ?_
              refine tnU ?_
              refine WpC.block ?_
              obtain ⟨o22, hlo22, h⟩ := bind_some h
              have hout23 := h
              clear h
              refine WpC.loop (U := Un) (fun n st' => ∃ v18 : Bool, ∃ v19 : Int, millwrightlaw03_ArParses.l20 k a0 a1 v3 v4 v5 n v18 v19 = some o22 ∧ st' = ⟨[(0, .p .str a0), (1, .p .str a1), (5, .vec 10001 3 0 v3.1.length), (7, .p (.list (.named 3)) v4.1), (9, .loc 9 0), (10, .p .bool v5.2), (11, .p .bool v18), (73, .vec 10001 3 0 v3.1.length), (74, .p I6 ((v3.1.length : Int) : Int)), (75, .p I6 v19)], [(9, .box [.p .str v5.1.f_Name, .p I6 v5.1.f_Time, .p .str v5.1.f_Content]), (10001, .row 35 (.named 3) v3.1 false)]⟩) k ⟨false, 0, hlo22, by kernel_rfl⟩ ?_
              clear hlo22
              rintro (_ | n) _ ⟨v18, v19, h, rfl⟩
              · cases h
              · rw [millwrightlaw03_ArParses.l20] at h
                refine WpC.seq ?_
                refine rS {} [0, 1, 5, 7, 9, 10, 11, 73, 74, 75, 76] [9, 10001] hN (by kernel_rfl) (by kernel_rfl) ?_
                refine tnU ?_
                refine WpC.seq ?_
                refine tS (b := (decide (v19 < (v3.1.length : Int)))) (by kernel_rfl) (fun hc24 => ?_) (fun hc24 => ?_)
                · replace h := ite_t hc24 h
                  refine WpC.conv (cS [.k [0, 1, 5, 7, 9, 10, 11, 73, 74, 75] [9, 10001]] (by kernel_rfl) (by kernel_rfl)) (WpC.skip ?_)
                  refine tnU ?_
                  refine sqJ (fun st' => ∃ v25 : Bool, millwrightlaw03_ArParses.j26 k (millwrightlaw03_ArParses.l20 k a0 a1 v3 v4 v5 n) a0 a1 v3 v4 v5 v19 v25 = some o22 ∧ st' = ⟨[(0, .p .str a0), (1, .p .str a1), (5, .vec 10001 3 0 v3.1.length), (7, .p (.list (.named 3)) v4.1), (9, .loc 9 0), (10, .p .bool v5.2), (11, .p .bool v25), (73, .vec 10001 3 0 v3.1.length), (74, .p I6 ((v3.1.length : Int) : Int)), (75, .p I6 v19)], [(9, .box [.p .str v5.1.f_Name, .p I6 v5.1.f_Time, .p .str v5.1.f_Content]), (10001, .row 35 (.named 3) v3.1 false)]⟩) ?_ ?_
                  · refine WpC.block ?_
                    refine WpC.seq ?_
                    obtain ⟨g27, h⟩ := if_some h
                    obtain ⟨v28, hv28, h⟩ := bind_some h
                    refine rS { its := [(1, .g g27), (2, .v (.named 3) hv28)] } [0, 1, 5, 7, 9, 10, 11, 12, 13, 73, 74, 75] [9, 13, 10001] hN (by kernel_rfl) (by kernel_rfl) ?_
                    refine tnU ?_
                    refine WpC.seq ?_
                    refine WpC.seq ?_
                    obtain ⟨v29, hv29, h⟩ := bind_some h
                    refine rA { its := [(3, .v (.named 3) hv29), (5, .e 5 (sok_neS (U := Un) (rs := [(80, .p (.named 3) ((T_ar_Member.mk v28.f_Name v28.f_Time v28.f_Content) : T_ar_Member)), (84, .p (.named 3) v29)]) rfl rfl Tryz.underlying45 (by kernel_rfl) (eqf_45 _ Tryz.underlying45) (by kernel_rfl) o0 o1))] } [0, 1, 5, 7, 9, 10, 11, 13, 73, 74, 75, 85] [9, 13, 10001] hN (by kernel_rfl) (by kernel_rfl) (by kernel_rfl) ?_
                    refine tnU ?_
                    refine tS (b := (!(v28.f_Name == v29.f_Name && (v28.f_Time == v29.f_Time && (v28.f_Content == v29.f_Content && true))))) (by kernel_rfl) (fun hc30 => ?_) (fun hc30 => ?_)
                    · replace h := ite_t hc30 h
                      refine WpC.seq ?_
                      refine rS {} [4] [] hN (by kernel_rfl) (by kernel_rfl) ?_
                      refine tnU ?_
                      refine WpC.ret ?_
                      refine thenQ_ret ?_
                      refine blockQ_ret ?_
                      refine thenQ_ret ?_
                      have hq := Option.some.inj h
                      subst hq
                      refine thenQ_ret ?_
                      have h := hout23
                      refine blockQ_ret ?_
                      refine thenQ_ret ?_
                      have hq := Option.some.inj h
                      subst hq
                      exact eR (by kernel_rfl) (by kernel_rfl)
                    · replace h := ite_f hc30 h
                      refine WpC.conv (cS [.k [0, 1, 5, 7, 9, 10, 11, 13, 73, 74, 75] [9, 13, 10001]] (by kernel_rfl) (by kernel_rfl)) (WpC.skip ?_)
                      refine tnU ?_
                      refine WpC.seq ?_
                      refine rS {} [0, 1, 5, 7, 9, 10, 11, 13, 73, 74, 75, 89] [9, 13, 10001] hN (by kernel_rfl) (by kernel_rfl) ?_
                      refine tnU ?_
                      refine tS (b := (v28.f_Name == a1)) (by kernel_rfl) (fun hc31 => ?_) (fun hc31 => ?_)
                      · replace h := ite_t hc31 h
                        refine WpC.seq ?_
                        refine rS {} [0, 1, 5, 7, 9, 10, 11, 13, 73, 74, 75] [9, 13, 10001] hN (by kernel_rfl) (by kernel_rfl) ?_
                        refine tnU ?_
                        refine WpC.seq ?_
                        refine rS { its := [(2, .e 2 (sok_neS (U := Un) (rs := [(90, .p (.named 3) ((T_ar_Member.mk v5.1.f_Name v5.1.f_Time v5.1.f_Content) : T_ar_Member)), (91, .p (.named 3) ((T_ar_Member.mk v28.f_Name v28.f_Time v28.f_Content) : T_ar_Member))]) rfl rfl Tryz.underlying35 (by kernel_rfl) (eqf_35 _ Tryz.underlying35) (by kernel_rfl) o0 o1))] } [0, 1, 5, 7, 9, 10, 11, 73, 74, 75, 92] [9, 10001] hN (by kernel_rfl) (by kernel_rfl) ?_
                        refine tnU ?_
                        refine tS (b := (!(v5.1.f_Name == v28.f_Name && (v5.1.f_Time == v28.f_Time && (v5.1.f_Content == v28.f_Content && true))))) (by kernel_rfl) (fun hc32 => ?_) (fun hc32 => ?_)
                        · replace h := ite_t hc32 h
                          refine WpC.seq ?_
                          refine rS {} [4] [] hN (by kernel_rfl) (by kernel_rfl) ?_
                          refine tnU ?_
                          refine WpC.ret ?_
                          refine blockQ_ret ?_
                          refine thenQ_ret ?_
                          have hq := Option.some.inj h
                          subst hq
                          refine thenQ_ret ?_
                          have h := hout23
                          refine blockQ_ret ?_
                          refine thenQ_ret ?_
                          have hq := Option.some.inj h
                          subst hq
                          exact eR (by kernel_rfl) (by kernel_rfl)
                        · replace h := ite_f hc32 h
                          refine WpC.conv (cS [.k [0, 1, 5, 7, 9, 10, 11, 73, 74, 75] [9, 10001]] (by kernel_rfl) (by kernel_rfl)) (WpC.skip ?_)
                          refine blockQ_normal ?_
                          refine tnU ?_
                          exact ⟨true, h, by kernel_rfl⟩
                      · replace h := ite_f hc31 h
                        refine WpC.conv (cS [.k [0, 1, 5, 7, 9, 10, 11, 73, 74, 75] [9, 10001]] (by kernel_rfl) (by kernel_rfl)) (WpC.skip ?_)
                        refine blockQ_normal ?_
                        refine tnU ?_
                        exact ⟨v18, h, by kernel_rfl⟩
                  · rintro _ ⟨v25, h, rfl⟩
                    unfold millwrightlaw03_ArParses.j26 at h
                    refine rS {} [0, 1, 5, 7, 9, 10, 11, 73, 74, 75] [9, 10001] hN (by kernel_rfl) (by kernel_rfl) ?_
                    refine tnU ?_
                    exact ⟨n, Nat.lt_succ_self n, v25, (IntKind.i64.wrap (v19 + 1)), h, by kernel_rfl⟩
                · replace h := ite_f hc24 h
                  refine WpC.conv (cS [.k [0, 5, 10, 11] [10001]] (by kernel_rfl) (by kernel_rfl)) (WpC.exit ?_)
                  refine thenQ_exit ?_
                  have hq := Option.some.inj h
                  subst hq
                  refine thenQ_exit ?_
                  have h := hout23
                  refine blockQ_hit ?_
                  refine tnU ?_
                  exact ⟨v18, h, by kernel_rfl⟩
            · rintro _ ⟨v13, h, rfl⟩
              unfold millwrightlaw03_ArParses.j17 at h
              refine WpC.seq ?_
              obtain ⟨v14, hv14, h⟩ := bind_some h
              refine rS { its := [(1, .c (ar_Make.ok O hO k v3.1 v14 hv14))] } [0, 6, 10, 11, 14] [] hN (by kernel_rfl) (by kernel_rfl) ?_
              refine tnU ?_
              refine WpC.seq ?_
              rcases bool_cases (v14.2 == 0) with hc15 | hc15
              · replace h := ite_t hc15 h
                rcases bool_cases (v14.1 == a0) with hc16 | hc16
                · replace h := ite_t hc16 h
                  refine rS { kn := [(101, .t hc15), (106, .t hc16)] } [4] [] hN (by kernel_rfl) (by kernel_rfl) ?_
                  refine tnU ?_
                  refine WpC.ret ?_
                  have hq := Option.some.inj h
                  subst hq
                  exact eR (by kernel_rfl) (by kernel_rfl)
                · replace h := ite_f hc16 h
                  refine rS { kn := [(101, .t hc15), (106, .f hc16)] } [4] [] hN (by kernel_rfl) (by kernel_rfl) ?_
                  refine tnU ?_
                  refine WpC.ret ?_
                  have hq := Option.some.inj h
                  subst hq
                  exact eR (by kernel_rfl) (by kernel_rfl)
              · replace h := ite_f hc15 h
                refine rS { kn := [(101, .f hc15)] } [4] [] hN (by kernel_rfl) (by kernel_rfl) ?_
                refine tnU ?_
                refine WpC.ret ?_
                have hq := Option.some.inj h
                subst hq
                exact eR (by kernel_rfl) (by kernel_rfl)

theorem ar_Set.ok (O : Out) (hO : GOk O) (k : Nat) (a0 : List UInt8) (a1 : T_ar_Member) (out : (List UInt8) × Nat) (h : ar_Set.f k a0 a1 = some out) : COk Un O Tryz.prog 17 { ar := [.p .str a0, .p (.named 3) a1], r := .tup [.p .str out.1, .p .err out.2] } := by
  refine cok_of_wp Tryz.func17 rfl (k := 39) rfl (Nat.le_of_ble_eq_true rfl) (namesOk_pure rfl rfl rfl rfl) ?_
  intro B hN
  refine WpC.conv (cvK (b := ⟨[(0, .p .str a0), (1, .p (.named 3) a1)], []⟩) [0, 1] [] (by kernel_rfl)) ?_
  unfold ar_Set.f at h
  refine WpC.seq ?_
  refine rS {} [0, 3] [3] hN (by kernel_rfl) (by kernel_rfl) ?_
  refine tnU ?_
  refine WpC.seq ?_
  obtain ⟨v1, hv1, h⟩ := bind_some h
  refine rS { its := [(1, .c (COk.ren (ar_Parse.ok O hO k a0 v1 hv1) (fun n => if n = 60500 then 10001 else n) (injOn_of (by kernel_rfl))))] } [0, 3, 6, 7] [3, 10001] hN (by kernel_rfl) (by kernel_rfl) ?_
  refine tnU ?_
  refine sqJ (fun st' => ar_Set.j10 k a1 v1 = some out ∧ st' = ⟨[(3, .loc 3 0), (6, .vec 10001 3 0 v1.1.length)], [(3, .box [.p .str a1.f_Name, .p I6 a1.f_Time, .p .str a1.f_Content]), (10001, .row 35 (.named 3) v1.1 false)]⟩) ?_ ?_
  · refine sqJ (fun st' => ∃ v11 : Bool, ar_Set.j13 k a1 v1 v11 = some out ∧ st' = ⟨[(3, .loc 3 0), (6, .vec 10001 3 0 v1.1.length), (7, .p .err v1.2), (19, .p .bool v11)], [(3, .box [.p .str a1.f_Name, .p I6 a1.f_Time, .p .str a1.f_Content]), (10001, .row 35 (.named 3) v1.1 false)]⟩) ?_ ?_
    · rcases bool_cases (!(v1.2 == 0)) with hc14 | hc14
      · replace h := ite_t hc14 h
        refine rS { kn := [(16, .t hc14)] } [3, 6, 7, 19] [3, 10001] hN (by kernel_rfl) (by kernel_rfl) ?_
        refine tnU ?_
        exact ⟨(!(a0 == ([] : List UInt8))), h, by kernel_rfl⟩
      · replace h := ite_f hc14 h
        refine rS { kn := [(16, .f hc14)] } [3, 6, 7, 19] [3, 10001] hN (by kernel_rfl) (by kernel_rfl) ?_
        refine tnU ?_
        exact ⟨false, h, by kernel_rfl⟩
    · rintro _ ⟨v11, h, rfl⟩
      unfold ar_Set.j13 at h
      refine tS (b := v11) (by kernel_rfl) (fun hc12 => ?_) (fun hc12 => ?_)
      · replace h := ite_t hc12 h
        refine WpC.seq ?_
        refine rS {} [4, 5] [] hN (by kernel_rfl) (by kernel_rfl) ?_
        refine tnU ?_
        refine WpC.ret ?_
        refine thenQ_ret ?_
        have hq := Option.some.inj h
        subst hq
        exact eR (by kernel_rfl) (by kernel_rfl)
      · replace h := ite_f hc12 h
        refine WpC.conv (cS [.k [3, 6] [3, 10001]] (by kernel_rfl) (by kernel_rfl)) (WpC.skip ?_)
        refine tnU ?_
        exact ⟨h, by kernel_rfl⟩
  · rintro _ ⟨h, rfl⟩
    unfold ar_Set.j10 at h
    refine sqJ (fun st' => ∃ v2 : List T_ar_Member, ar_Set.j4 k v2 = some out ∧ st' = ⟨[(6, .vec 1006 3 0 v2.length)], [(1006, .row 35 (.named 3) v2 false)]⟩) ?_ ?_
    · refine WpC.seq ?_
      obtain ⟨v5, hv5, h⟩ := bind_some h
      refine rS { its := [(3, .c (ar_at.ok O hO k v1.1 a1.f_Name v5 hv5))] } [3, 6, 8] [3, 10001] hN (by kernel_rfl) (by kernel_rfl) ?_
      refine tnU ?_
      refine WpC.seq ?_
      refine rS {} [3, 6, 8, 26] [3, 10001] hN (by kernel_rfl) (by kernel_rfl) ?_
      refine tnU ?_
      refine tS (b := (decide (v5 ≥ 0))) (by kernel_rfl) (fun hc6 => ?_) (fun hc6 => ?_)
      · replace h := ite_t hc6 h
        obtain ⟨g7, h⟩ := if_some h
        obtain ⟨v8, hv8, h⟩ := bind_some h
        refine rSC { its := [(3, .g g7), (4, .v (.named 3) hv8)] } [6] [10001] hN (by kernel_rfl) (by kernel_rfl) (cS [.k [6] [10001], .x (Conv.cast (U := Un) (st := ⟨[(6, .vec 10001 3 0 v1.1.length)], [(10001, .row 35 (.named 3) (upd v1.1 (0 + v5.toNat) (T_ar_Member.mk a1.f_Name a1.f_Time a1.f_Content)) false)]⟩) (st' := ⟨[(6, .vec 10001 3 0 ((upd v1.1 (0 + v5.toNat) (T_ar_Member.mk a1.f_Name a1.f_Time a1.f_Content)).length))], [(10001, .row 35 (.named 3) (upd v1.1 (0 + v5.toNat) (T_ar_Member.mk a1.f_Name a1.f_Time a1.f_Content)) false)]⟩) (by simp only [upd_length, List.length_nil, List.length_replicate])), .rn 10001 1006, .k [6] [1006]] (by kernel_rfl) (by kernel_rfl)) ?_
        refine tnU ?_
        exact ⟨(upd v1.1 (0 + v5.toNat) (T_ar_Member.mk a1.f_Name a1.f_Time a1.f_Content)), h, by kernel_rfl⟩
      · replace h := ite_f hc6 h
        obtain ⟨g9, h⟩ := if_some h
        refine rSC { its := [(3, .g g9)] } [6] [34] hN (by kernel_rfl) (by kernel_rfl) (cS [.rn 34 1006, .k [6] [1006]] (by kernel_rfl) (by kernel_rfl)) ?_
        refine tnU ?_
        exact ⟨(v1.1 ++ [(T_ar_Member.mk a1.f_Name a1.f_Time a1.f_Content)]), h, by kernel_rfl⟩
    · rintro _ ⟨v2, h, rfl⟩
      unfold ar_Set.j4 at h
      refine WpC.seq ?_
      obtain ⟨v3, hv3, h⟩ := bind_some h
      refine rS { its := [(1, .c (ar_Make.ok O hO k v2 v3 hv3))] } [4, 5] [] hN (by kernel_rfl) (by kernel_rfl) ?_
      refine tnU ?_
      refine WpC.ret ?_
      have hq := Option.some.inj h
      subst hq
      exact eR (by kernel_rfl) (by kernel_rfl)

end Go.Proofs.YtgphmfcbhmmpiaaGreatDoor
