/- A part of the proof of a given law: DAC4. Own work, printed in part by a program of mine. -/
import Derived.Test.YteddmdkbeednmaaDoorK33DAC3
namespace Go.Proofs.YteddmdkbeednmaaDoor
open Go Go.AM
set_option linter.unusedVariables false
set_option linter.unusedSimpArgs false
set_option maxRecDepth 100000
set_option maxHeartbeats 4000000
theorem millwrightnum_Num.ok (O : Out) (hO : GOkE O) (k : Nat) (a0 : Nat) (out : Int) (h : millwrightnum_Num.f k a0 = some out) : COk Un O Tryd.prog 27 { ar := [.p .err a0], r := .p I6 out } := by
 refine cok_of_wp Tryd.func27 rfl (k := 20) rfl (Nat.le_of_ble_eq_true rfl) (namesOk_pure rfl rfl rfl rfl) ?_
 intro B hN
 refine WpC.conv (cvK (b := ⟨[(0, .p .err a0)], []⟩) [0] [] (by kernel_rfl)) ?_
 unfold millwrightnum_Num.f at h
 refine WpC.seq ?_
 refine rS {} [0] [] hN (by kernel_rfl) (by kernel_rfl) ?_
 refine tnU ?_
 refine WpC.seq ?_
 refine WpC.seq ?_
 refine rS {} [0, 6] [] hN (by kernel_rfl) (by kernel_rfl) ?_
 refine tnU ?_
 refine tS (b := (a0 == 0)) (by kernel_rfl) (fun hc1 => ?_) (fun hc1 => ?_)
 ·replace h := ite_t hc1 h
  refine WpC.seq ?_
  refine rS {} [2] [] hN (by kernel_rfl) (by kernel_rfl) ?_
  refine tnU ?_
  refine WpC.ret ?_
  refine thenQ_ret ?_
  have hq := Option.some.inj h
  subst hq
  exact eR (by kernel_rfl) (by kernel_rfl)
 ·replace h := ite_f hc1 h
  refine WpC.conv (cS [.k [0] []] (by kernel_rfl) (by kernel_rfl)) (WpC.skip ?_)
  refine tnU ?_
  refine sqJ (fun st' => millwrightnum_Num.j2 k = some out ∧ st' = ⟨[], []⟩) ?_ ?_
  ·refine WpC.seq ?_
   obtain ⟨v3, hv3, h⟩ := bind_some h
   refine rS { its := [(0, .c (millwrightnum_all.ok O hO k v3 hv3))] } [0, 7, 8, 9] [] hN (by kernel_rfl) (by kernel_rfl) ?_
   refine tnU ?_
   refine WpC.block ?_
   obtain ⟨o6, hlo6, h⟩ := bind_some h
   have hout7 := h
   clear h
   refine WpC.loop (U := Un) (fun n st' => ∃ v4 : Int, millwrightnum_Num.l5 k a0 v3 n v4 = some o6 ∧ st' = ⟨[(0, .p .err a0), (7, .p (.list .err) v3), (8, .p I6 ((v3.length : Int) : Int)), (9, .p I6 v4)], []⟩) k ⟨0, hlo6, by kernel_rfl⟩ ?_
   clear hlo6
   rintro (_ | n) _ ⟨v4, h, rfl⟩
   ·cases h
   ·rw [millwrightnum_Num.l5] at h
    refine WpC.seq ?_
    refine rS {} [0, 7, 8, 9, 10] [] hN (by kernel_rfl) (by kernel_rfl) ?_
    refine tnU ?_
    refine WpC.seq ?_
    refine tS (b := (decide (v4 < (v3.length : Int)))) (by kernel_rfl) (fun hc8 => ?_) (fun hc8 => ?_)
    ·replace h := ite_t hc8 h
     refine WpC.conv (cS [.k [0, 7, 8, 9] []] (by kernel_rfl) (by kernel_rfl)) (WpC.skip ?_)
     refine tnU ?_
     refine WpC.seq ?_
     refine WpC.block ?_
     refine WpC.seq ?_
     obtain ⟨v9, hv9, h⟩ := bind_some h
     refine rS { its := [(1, .v .err hv9)] } [0, 3, 4, 7, 8, 9] [] hN (by kernel_rfl) (by kernel_rfl) ?_
     refine tnU ?_
     refine WpC.seq ?_
     obtain ⟨v10, hv10, h⟩ := bind_some h
     refine rS { its := [(2, .c (pIs.ok O hO k a0 v9 v10 hv10))] } [0, 3, 7, 8, 9, 16] [] hN (by kernel_rfl) (by kernel_rfl) ?_
     refine tnU ?_
     refine tS (b := v10) (by kernel_rfl) (fun hc11 => ?_) (fun hc11 => ?_)
     ·replace h := ite_t hc11 h
      refine WpC.seq ?_
      refine rS {} [2] [] hN (by kernel_rfl) (by kernel_rfl) ?_
      refine tnU ?_
      refine WpC.ret ?_
      refine blockQ_ret ?_
      refine thenQ_ret ?_
      have hq := Option.some.inj h
      subst hq
      refine thenQ_ret ?_
      have h := hout7
      refine blockQ_ret ?_
      refine thenQ_ret ?_
      have hq := Option.some.inj h
      subst hq
      exact eR (by kernel_rfl) (by kernel_rfl)
     ·replace h := ite_f hc11 h
      refine WpC.conv (cS [.k [0, 7, 8, 9] []] (by kernel_rfl) (by kernel_rfl)) (WpC.skip ?_)
      refine blockQ_normal ?_
      refine tnU ?_
      refine rS {} [0, 7, 8, 9] [] hN (by kernel_rfl) (by kernel_rfl) ?_
      refine tnU ?_
      exact ⟨n, Nat.lt_succ_self n, (IntKind.i64.wrap (v4 + 1)), h, by kernel_rfl⟩
    ·replace h := ite_f hc8 h
     refine WpC.conv (cS [.k [] []] (by kernel_rfl) (by kernel_rfl)) (WpC.exit ?_)
     refine thenQ_exit ?_
     have hq := Option.some.inj h
     subst hq
     refine thenQ_exit ?_
     have h := hout7
     refine blockQ_hit ?_
     refine tnU ?_
     exact ⟨h, by kernel_rfl⟩
  ·rintro _ ⟨h, rfl⟩
   unfold millwrightnum_Num.j2 at h
   refine WpC.seq ?_
   refine rS {} [2] [] hN (by kernel_rfl) (by kernel_rfl) ?_
   refine tnU ?_
   refine WpC.ret ?_
   have hq := Option.some.inj h
   subst hq
   exact eR (by kernel_rfl) (by kernel_rfl)

theorem pike_runner_add_m1.bok (O : Out) (hO : GOkE O) (k : Nat) (rf_pike_runner_add_m1 : (List T_prog_Instr) → (List UInt8) → Int → (List Int) → (List T_pike_thread) → (Option (List Int)) → Int → (List Int) → Option ((List Int) × (List T_pike_thread) × (Option (List Int)))) (hrf_pike_runner_add_m1 : ∀ (a0 : List T_prog_Instr) (a1 : List UInt8) (a2 : Int) (a3 : List Int) (a4 : List T_pike_thread) (a5 : Option (List Int)) (a6 : Int) (a7 : List Int) (out : (List Int) × (List T_pike_thread) × (Option (List Int))), rf_pike_runner_add_m1 a0 a1 a2 a3 a4 a5 a6 a7 = some out → COk Un O Tryd.prog 47 { ar := [.loc 100000 0, .p I6 a6, .p (.arr 20 I6) a7], r := .tup [], bs := [(100000, .box [.p (.list (.named 5)) a0, .p .str a1, .p I6 a2, .vec 100001 1 0 a3.length, .vec 100002 21 0 a4.length, .p (.ptr (.arr 20 I6)) a5]), (100001, .row 3 I6 a3 false), (100002, .row 111 (.named 7) a4 false)], bs' := [(60001, .row 3 I6 out.1 false), (60002, .row 111 (.named 7) out.2.1 false), (100000, .box [.p (.list (.named 5)) a0, .p .str a1, .p I6 a2, .vec 60001 1 0 out.1.length, .vec 60002 21 0 out.2.1.length, .p (.ptr (.arr 20 I6)) out.2.2])], nn := [60001, 60002] }) (a0 : List T_prog_Instr) (a1 : List UInt8) (a2 : Int) (a3 : List Int) (a4 : List T_pike_thread) (a5 : Option (List Int)) (a6 : Int) (a7 : List Int) (out : (List Int) × (List T_pike_thread) × (Option (List Int))) (h : pike_runner_add_m1.b k rf_pike_runner_add_m1 a0 a1 a2 a3 a4 a5 a6 a7 = some out) : COk Un O Tryd.prog 47 { ar := [.loc 100000 0, .p I6 a6, .p (.arr 20 I6) a7], r := .tup [], bs := [(100000, .box [.p (.list (.named 5)) a0, .p .str a1, .p I6 a2, .vec 100001 1 0 a3.length, .vec 100002 21 0 a4.length, .p (.ptr (.arr 20 I6)) a5]), (100001, .row 3 I6 a3 false), (100002, .row 111 (.named 7) a4 false)], bs' := [(60001, .row 3 I6 out.1 false), (60002, .row 111 (.named 7) out.2.1 false), (100000, .box [.p (.list (.named 5)) a0, .p .str a1, .p I6 a2, .vec 60001 1 0 out.1.length, .vec 60002 21 0 out.2.1.length, .p (.ptr (.arr 20 I6)) out.2.2])], nn := [60001, 60002] } := by
 refine cok_of_wp Tryd.func47 rfl (k := 142) rfl (Nat.le_of_ble_eq_true rfl) (namesOk_of (by kernel_rfl)) ?_
 intro B hN
 refine WpC.conv (cvK (b := ⟨[(0, .loc 100000 0), (1, .p I6 a6), (2, .p (.arr 20 I6) a7)], [(100000, .box [.p (.list (.named 5)) a0, .p .str a1, .p I6 a2, .vec 100001 1 0 a3.length, .vec 100002 21 0 a4.length, .p (.ptr (.arr 20 I6)) a5]), (100001, .row 3 I6 a3 false), (100002, .row 111 (.named 7) a4 false)]⟩) [0, 1, 2] [100000, 100001, 100002] (by kernel_rfl)) ?_
 unfold pike_runner_add_m1.b at h
 refine WpC.seq ?_
 refine rS {} [0, 1, 5] [5, 100000, 100001, 100002] hN (by kernel_rfl) (by kernel_rfl) ?_
 refine tnU ?_
 refine WpC.scope ?_
 refine WpC.seq ?_
 refine WpC.label ?_
 refine tnU ?_
 refine WpC.block ?_
 obtain ⟨o10, hlo10, h⟩ := bind_some h
 have hout11 := h
 clear h
 refine WpC.conv (cS [.rn 100001 62003, .k [0, 1, 5] [5, 62003, 100000, 100002], .rn 100002 62004, .k [0, 1, 5] [5, 62003, 62004, 100000]] (by kernel_rfl) (by kernel_rfl)) ?_
 refine WpC.loop (U := Un) (fun n st' => ∃ v1 : List Int, ∃ v2 : List T_pike_thread, ∃ v3 : Option (List Int), ∃ v4 : Int, ∃ v5 : List Int, pike_runner_add_m1.l6 k rf_pike_runner_add_m1 a0 a1 a2 n v1 v2 v3 v4 v5 = some o10 ∧ st' = ⟨[(0, .loc 100000 0), (1, .p I6 v4), (5, .loc 5 0)], [(5, .box [.p (.arr 20 I6) v5]), (62003, .row 3 I6 v1 false), (62004, .row 111 (.named 7) v2 false), (100000, .box [.p (.list (.named 5)) a0, .p .str a1, .p I6 a2, .vec 62003 1 0 v1.length, .vec 62004 21 0 v2.length, .p (.ptr (.arr 20 I6)) v3])]⟩) k ⟨a3, a4, a5, a6, a7, hlo10, by kernel_rfl⟩ ?_
 clear hlo10
 rintro (_ | n) _ ⟨v1, v2, v3, v4, v5, h, rfl⟩
 ·cases h
 ·rw [pike_runner_add_m1.l6] at h
  refine sqJ (fun st' => pike_runner_add_m1.j35 k (pike_runner_add_m1.l6 k rf_pike_runner_add_m1 a0 a1 a2 n) rf_pike_runner_add_m1 a0 a1 a2 v1 v2 v3 v4 v5 = some o10 ∧ st' = ⟨[(0, .loc 100000 0), (1, .p I6 v4), (5, .loc 5 0)], [(5, .box [.p (.arr 20 I6) v5]), (62003, .row 3 I6 v1 false), (62004, .row 111 (.named 7) v2 false), (100000, .box [.p (.list (.named 5)) a0, .p .str a1, .p I6 a2, .vec 62003 1 0 v1.length, .vec 62004 21 0 v2.length, .p (.ptr (.arr 20 I6)) v3])]⟩) ?_ ?_
  ·refine sqJ (fun st' => ∃ v36 : Bool, pike_runner_add_m1.j38 k (pike_runner_add_m1.l6 k rf_pike_runner_add_m1 a0 a1 a2 n) rf_pike_runner_add_m1 a0 a1 a2 v1 v2 v3 v4 v5 v36 = some o10 ∧ st' = ⟨[(0, .loc 100000 0), (1, .p I6 v4), (5, .loc 5 0), (38, .p .bool v36)], [(5, .box [.p (.arr 20 I6) v5]), (62003, .row 3 I6 v1 false), (62004, .row 111 (.named 7) v2 false), (100000, .box [.p (.list (.named 5)) a0, .p .str a1, .p I6 a2, .vec 62003 1 0 v1.length, .vec 62004 21 0 v2.length, .p (.ptr (.arr 20 I6)) v3])]⟩) ?_ ?_
   ·rcases bool_cases (decide (v4 ≥ 0)) with hc39 | hc39
    ·replace h := ite_t hc39 h
     rcases bool_cases (decide (v4 < (a0.length : Int))) with hc40 | hc40
     ·replace h := ite_t hc40 h
      obtain ⟨g41, h⟩ := if_some h
      obtain ⟨v42, hv42, h⟩ := bind_some h
      rcases bool_cases (v42 != a2) with hc43 | hc43
      ·replace h := ite_t hc43 h
       refine rA { its := [(17, .g g41), (18, .v I6 hv42)], kn := [(9, .t hc39), (18, .t hc40), (32, .t hc43)] } [0, 1, 5, 38] [5, 62003, 62004, 100000] hN (by kernel_rfl) (by kernel_rfl) (by kernel_rfl) ?_
       refine tnU ?_
       exact ⟨v3.isNone, h, by kernel_rfl⟩
      ·replace h := ite_f hc43 h
       refine rA { its := [(17, .g g41), (18, .v I6 hv42)], kn := [(9, .t hc39), (18, .t hc40), (32, .f hc43)] } [0, 1, 5, 38] [5, 62003, 62004, 100000] hN (by kernel_rfl) (by kernel_rfl) (by kernel_rfl) ?_
       refine tnU ?_
       exact ⟨false, h, by kernel_rfl⟩
     ·replace h := ite_f hc40 h
      refine rA { kn := [(9, .t hc39), (18, .f hc40)] } [0, 1, 5, 38] [5, 62003, 62004, 100000] hN (by kernel_rfl) (by kernel_rfl) (by kernel_rfl) ?_
      refine tnU ?_
      exact ⟨false, h, by kernel_rfl⟩
    ·replace h := ite_f hc39 h
     refine rA { kn := [(9, .f hc39)] } [0, 1, 5, 38] [5, 62003, 62004, 100000] hN (by kernel_rfl) (by kernel_rfl) (by kernel_rfl) ?_
     refine tnU ?_
     exact ⟨false, h, by kernel_rfl⟩
   ·rintro _ ⟨v36, h, rfl⟩
    unfold pike_runner_add_m1.j38 at h
    refine tS (b := v36) (by kernel_rfl) (fun hc37 => ?_) (fun hc37 => ?_)
    ·replace h := ite_t hc37 h
     refine WpC.conv (cS [.k [0, 1, 5] [5, 62003, 62004, 100000]] (by kernel_rfl) (by kernel_rfl)) (WpC.skip ?_)
     refine tnU ?_
     exact ⟨h, by kernel_rfl⟩
    ·replace h := ite_f hc37 h
     refine WpC.conv (cS [.k [] [62003, 62004, 100000], .rn 62003 60001, .k [] [60001, 62004, 100000], .rn 62004 60002, .k [] [60001, 60002, 100000]] (by kernel_rfl) (by kernel_rfl)) (WpC.exit ?_)
     refine thenQ_exit ?_
     have hq := Option.some.inj h
     subst hq
     refine thenQ_exit ?_
     have h := hout11
     refine blockQ_hit ?_
     refine noGotoQ_normal ?_
     have hq := Option.some.inj h
     subst hq
     exact eN (by kernel_rfl) (by kernel_rfl)
  ·rintro _ ⟨h, rfl⟩
   unfold pike_runner_add_m1.j35 at h
   refine WpC.block ?_
   refine WpC.seq ?_
   obtain ⟨g12, h⟩ := if_some h
   obtain ⟨v13, hv13, h⟩ := bind_some h
   refine rAC { its := [(9, .g g12), (10, .v I6 hv13)] } [0, 1, 5] [5, 62003, 62004, 100000] hN (by kernel_rfl) (by kernel_rfl) (by kernel_rfl) (cS [.k [0, 1, 5] [5, 62003, 62004, 100000], .x (Conv.cast (U := Un) (st := ⟨[(0, .loc 100000 0), (1, .p I6 v4), (5, .loc 5 0)], [(5, .box [.p (.arr 20 I6) v5]), (62003, .row 3 I6 (upd v1 (0 + v4.toNat) a2) false), (62004, .row 111 (.named 7) v2 false), (100000, .box [.p (.list (.named 5)) a0, .p .str a1, .p I6 a2, .vec 62003 1 0 v1.length, .vec 62004 21 0 v2.length, .p (.ptr (.arr 20 I6)) v3])]⟩) (st' := ⟨[(0, .loc 100000 0), (1, .p I6 v4), (5, .loc 5 0)], [(5, .box [.p (.arr 20 I6) v5]), (62003, .row 3 I6 (upd v1 (0 + v4.toNat) a2) false), (62004, .row 111 (.named 7) v2 false), (100000, .box [.p (.list (.named 5)) a0, .p .str a1, .p I6 a2, .vec 62003 1 0 ((upd v1 (0 + v4.toNat) a2).length), .vec 62004 21 0 v2.length, .p (.ptr (.arr 20 I6)) v3])]⟩) (by simp only [upd_length, List.length_nil, List.length_replicate]))] (by kernel_rfl) (by kernel_rfl)) ?_
   refine tnU ?_
   refine WpC.seq ?_
   obtain ⟨v14, hv14, h⟩ := bind_some h
   refine rS { its := [(5, .v (.named 5) hv14)] } [0, 1, 5, 6] [5, 6, 62003, 62004, 100000] hN (by kernel_rfl) (by kernel_rfl) ?_
   refine tnU ?_
   refine WpC.seq ?_
   refine rS {} [0, 1, 5, 6, 57] [5, 6, 62003, 62004, 100000] hN (by kernel_rfl) (by kernel_rfl) ?_
   refine tnU ?_
   refine WpC.block ?_
   refine WpC.seq ?_
   refine rS {} [0, 1, 5, 6, 57, 58] [5, 6, 62003, 62004, 100000] hN (by kernel_rfl) (by kernel_rfl) ?_
   refine tnU ?_
   refine tS (b := (v14.f_Op == 2)) (by kernel_rfl) (fun hc15 => ?_) (fun hc15 => ?_)
   ·replace h := ite_t hc15 h
    refine rS {} [0, 1, 5] [5, 62003, 62004, 100000] hN (by kernel_rfl) (by kernel_rfl) ?_
    refine blockQ_normal ?_
    refine blockQ_normal ?_
    refine tnU ?_
    exact ⟨n, Nat.lt_succ_self n, (upd v1 (0 + v4.toNat) a2), v2, v3, v14.f_X, v5, h, by kernel_rfl⟩
   ·replace h := ite_f hc15 h
    refine WpC.seq ?_
    refine rS {} [0, 1, 5, 6, 57, 62] [5, 6, 62003, 62004, 100000] hN (by kernel_rfl) (by kernel_rfl) ?_
    refine tnU ?_
    refine tS (b := (v14.f_Op == 1)) (by kernel_rfl) (fun hc16 => ?_) (fun hc16 => ?_)
    ·replace h := ite_t hc16 h
     refine WpC.seq ?_
     obtain ⟨v17, hv17, h⟩ := bind_some h
     refine rS { its := [(4, .c (COk.ren (hrf_pike_runner_add_m1 a0 a1 a2 (upd v1 (0 + v4.toNat) a2) v2 v3 v14.f_X v5 v17 hv17) (fun n => if n = 60001 then 10001 else if n = 60002 then 10002 else if n = 100000 then 100000 else if n = 100001 then 62003 else if n = 100002 then 62004 else n) (injOn_of (by kernel_rfl))))] } [0, 5, 6] [5, 6, 10001, 10002, 100000] hN (by kernel_rfl) (by kernel_rfl) ?_
     refine tnU ?_
     refine rSC {} [0, 1, 5] [5, 10001, 10002, 100000] hN (by kernel_rfl) (by kernel_rfl) (cS [.rn 10001 62003, .k [0, 1, 5] [5, 10002, 62003, 100000], .rn 10002 62004, .k [0, 1, 5] [5, 62003, 62004, 100000]] (by kernel_rfl) (by kernel_rfl)) ?_
     refine blockQ_normal ?_
     refine blockQ_normal ?_
     refine tnU ?_
     exact ⟨n, Nat.lt_succ_self n, v17.1, v17.2.1, v17.2.2, v14.f_Y, v5, h, by kernel_rfl⟩
    ·replace h := ite_f hc16 h
     refine WpC.seq ?_
     refine rS {} [0, 1, 5, 6, 57, 71] [5, 6, 62003, 62004, 100000] hN (by kernel_rfl) (by kernel_rfl) ?_
     refine tnU ?_
     refine tS (b := (v14.f_Op == 3)) (by kernel_rfl) (fun hc18 => ?_) (fun hc18 => ?_)
     ·replace h := ite_t hc18 h
      refine sqJ (fun st' => ∃ v19 : List Int, pike_runner_add_m1.j20 k (pike_runner_add_m1.l6 k rf_pike_runner_add_m1 a0 a1 a2 n) a0 a1 a2 v1 v2 v3 v4 v19 = some o10 ∧ st' = ⟨[(0, .loc 100000 0), (1, .p I6 v4), (5, .loc 5 0)], [(5, .box [.p (.arr 20 I6) v19]), (62003, .row 3 I6 (upd v1 (0 + v4.toNat) a2) false), (62004, .row 111 (.named 7) v2 false), (100000, .box [.p (.list (.named 5)) a0, .p .str a1, .p I6 a2, .vec 62003 1 0 ((upd v1 (0 + v4.toNat) a2).length), .vec 62004 21 0 v2.length, .p (.ptr (.arr 20 I6)) v3])]⟩) ?_ ?_
      ·refine sqJ (fun st' => ∃ v21 : Bool, pike_runner_add_m1.j25 k (pike_runner_add_m1.l6 k rf_pike_runner_add_m1 a0 a1 a2 n) a0 a1 a2 v1 v2 v3 v4 v5 v14 v21 = some o10 ∧ st' = ⟨[(0, .loc 100000 0), (1, .p I6 v4), (5, .loc 5 0), (6, .loc 6 0), (80, .p .bool v21)], [(5, .box [.p (.arr 20 I6) v5]), (6, .box [.p I6 v14.f_Op, .p I6 v14.f_X, .p I6 v14.f_Y, .p U6 v14.f_Set]), (62003, .row 3 I6 (upd v1 (0 + v4.toNat) a2) false), (62004, .row 111 (.named 7) v2 false), (100000, .box [.p (.list (.named 5)) a0, .p .str a1, .p I6 a2, .vec 62003 1 0 ((upd v1 (0 + v4.toNat) a2).length), .vec 62004 21 0 v2.length, .p (.ptr (.arr 20 I6)) v3])]⟩) ?_ ?_
       ·rcases bool_cases (decide (v14.f_X ≥ 0)) with hc26 | hc26
        ·replace h := ite_t hc26 h
         refine rS { kn := [(76, .t hc26)] } [0, 1, 5, 6, 80] [5, 6, 62003, 62004, 100000] hN (by kernel_rfl) (by kernel_rfl) ?_
         refine tnU ?_
         exact ⟨(decide (v14.f_X < 20)), h, by kernel_rfl⟩
        ·replace h := ite_f hc26 h
         refine rS { kn := [(76, .f hc26)] } [0, 1, 5, 6, 80] [5, 6, 62003, 62004, 100000] hN (by kernel_rfl) (by kernel_rfl) ?_
         refine tnU ?_
         exact ⟨false, h, by kernel_rfl⟩
       ·rintro _ ⟨v21, h, rfl⟩
        unfold pike_runner_add_m1.j25 at h
        refine tS (b := v21) (by kernel_rfl) (fun hc22 => ?_) (fun hc22 => ?_)
        ·replace h := ite_t hc22 h
         obtain ⟨g23, h⟩ := if_some h
         obtain ⟨v24, hv24, h⟩ := bind_some h
         refine rA { its := [(6, .g g23), (7, .v I6 hv24)] } [0, 1, 5] [5, 62003, 62004, 100000] hN (by kernel_rfl) (by kernel_rfl) (by kernel_rfl) ?_
         refine tnU ?_
         exact ⟨(upd v5 v14.f_X.toNat a2), h, by kernel_rfl⟩
        ·replace h := ite_f hc22 h
         refine WpC.conv (cS [.k [0, 1, 5] [5, 62003, 62004, 100000]] (by kernel_rfl) (by kernel_rfl)) (WpC.skip ?_)
         refine tnU ?_
         exact ⟨v5, h, by kernel_rfl⟩
      ·rintro _ ⟨v19, h, rfl⟩
       unfold pike_runner_add_m1.j20 at h
       refine rS {} [0, 1, 5] [5, 62003, 62004, 100000] hN (by kernel_rfl) (by kernel_rfl) ?_
       refine blockQ_normal ?_
       refine blockQ_normal ?_
       refine tnU ?_
       exact ⟨n, Nat.lt_succ_self n, (upd v1 (0 + v4.toNat) a2), v2, v3, (IntKind.i64.wrap (v4 + 1)), v19, h, by kernel_rfl⟩
     ·replace h := ite_f hc18 h
      refine WpC.seq ?_
      refine rS {} [0, 1, 5, 57, 90] [5, 62003, 62004, 100000] hN (by kernel_rfl) (by kernel_rfl) ?_
      refine tnU ?_
      refine tS (b := (v14.f_Op == 4)) (by kernel_rfl) (fun hc27 => ?_) (fun hc27 => ?_)
      ·replace h := ite_t hc27 h
       refine WpC.seq ?_
       refine WpC.seq ?_
       refine rS {} [0, 1, 5, 96] [5, 62003, 62004, 100000] hN (by kernel_rfl) (by kernel_rfl) ?_
       refine tnU ?_
       refine tS (b := (a2 != 0)) (by kernel_rfl) (fun hc28 => ?_) (fun hc28 => ?_)
       ·replace h := ite_t hc28 h
        refine WpC.conv (cS [.k [] [62003, 62004, 100000], .rn 62003 60001, .k [] [60001, 62004, 100000], .rn 62004 60002, .k [] [60001, 60002, 100000]] (by kernel_rfl) (by kernel_rfl)) (WpC.exit ?_)
        refine thenQ_exit ?_
        refine blockQ_pass (by decide) ?_
        refine blockQ_pass (by decide) ?_
        have hq := Option.some.inj h
        subst hq
        refine thenQ_exit ?_
        have h := hout11
        refine blockQ_hit ?_
        refine noGotoQ_normal ?_
        have hq := Option.some.inj h
        subst hq
        exact eN (by kernel_rfl) (by kernel_rfl)
       ·replace h := ite_f hc28 h
        refine WpC.conv (cS [.k [0, 1, 5] [5, 62003, 62004, 100000]] (by kernel_rfl) (by kernel_rfl)) (WpC.skip ?_)
        refine tnU ?_
        refine rS {} [0, 1, 5] [5, 62003, 62004, 100000] hN (by kernel_rfl) (by kernel_rfl) ?_
        refine blockQ_normal ?_
        refine blockQ_normal ?_
        refine tnU ?_
        exact ⟨n, Nat.lt_succ_self n, (upd v1 (0 + v4.toNat) a2), v2, v3, (IntKind.i64.wrap (v4 + 1)), v5, h, by kernel_rfl⟩
      ·replace h := ite_f hc27 h
       refine WpC.seq ?_
       refine rS {} [0, 1, 5, 57, 99] [5, 62003, 62004, 100000] hN (by kernel_rfl) (by kernel_rfl) ?_
       refine tnU ?_
       refine tS (b := (v14.f_Op == 5)) (by kernel_rfl) (fun hc29 => ?_) (fun hc29 => ?_)
       ·replace h := ite_t hc29 h
        refine WpC.seq ?_
        refine WpC.seq ?_
        refine rA {} [0, 1, 5, 110] [5, 62003, 62004, 100000] hN (by kernel_rfl) (by kernel_rfl) (by kernel_rfl) ?_
        refine tnU ?_
        refine tS (b := (a2 != (a1.length : Int))) (by kernel_rfl) (fun hc30 => ?_) (fun hc30 => ?_)
        ·replace h := ite_t hc30 h
         refine WpC.conv (cS [.k [] [62003, 62004, 100000], .rn 62003 60001, .k [] [60001, 62004, 100000], .rn 62004 60002, .k [] [60001, 60002, 100000]] (by kernel_rfl) (by kernel_rfl)) (WpC.exit ?_)
         refine thenQ_exit ?_
         refine blockQ_pass (by decide) ?_
         refine blockQ_pass (by decide) ?_
         have hq := Option.some.inj h
         subst hq
         refine thenQ_exit ?_
         have h := hout11
         refine blockQ_hit ?_
         refine noGotoQ_normal ?_
         have hq := Option.some.inj h
         subst hq
         exact eN (by kernel_rfl) (by kernel_rfl)
        ·replace h := ite_f hc30 h
         refine WpC.conv (cS [.k [0, 1, 5] [5, 62003, 62004, 100000]] (by kernel_rfl) (by kernel_rfl)) (WpC.skip ?_)
         refine tnU ?_
         refine rS {} [0, 1, 5] [5, 62003, 62004, 100000] hN (by kernel_rfl) (by kernel_rfl) ?_
         refine blockQ_normal ?_
         refine blockQ_normal ?_
         refine tnU ?_
         exact ⟨n, Nat.lt_succ_self n, (upd v1 (0 + v4.toNat) a2), v2, v3, (IntKind.i64.wrap (v4 + 1)), v5, h, by kernel_rfl⟩
       ·replace h := ite_f hc29 h
        refine WpC.seq ?_
        refine rS {} [0, 1, 5, 57, 113] [5, 62003, 62004, 100000] hN (by kernel_rfl) (by kernel_rfl) ?_
        refine tnU ?_
        refine tS (b := (v14.f_Op == 0)) (by kernel_rfl) (fun hc31 => ?_) (fun hc31 => ?_)
        ·replace h := ite_t hc31 h
         refine WpC.seq ?_
         obtain ⟨g32, h⟩ := if_some h
         refine rA { its := [(9, .g g32)] } [] [124, 62003, 100000] hN (by kernel_rfl) (by kernel_rfl) (by kernel_rfl) ?_
         refine tnU ?_
         refine WpC.conv (cS [.rn 124 62004, .k [] [62003, 62004, 100000], .rn 62003 60001, .k [] [60001, 62004, 100000], .rn 62004 60002, .k [] [60001, 60002, 100000]] (by kernel_rfl) (by kernel_rfl)) (WpC.exit ?_)
         refine blockQ_pass (by decide) ?_
         refine blockQ_pass (by decide) ?_
         have hq := Option.some.inj h
         subst hq
         refine thenQ_exit ?_
         have h := hout11
         refine blockQ_hit ?_
         refine noGotoQ_normal ?_
         have hq := Option.some.inj h
         subst hq
         exact eN (by kernel_rfl) (by kernel_rfl)
        ·replace h := ite_f hc31 h
         refine WpC.seq ?_
         refine rS {} [0, 5, 127] [5, 62003, 62004, 100000] hN (by kernel_rfl) (by kernel_rfl) ?_
         refine tnU ?_
         refine tS (b := (v14.f_Op == 6)) (by kernel_rfl) (fun hc33 => ?_) (fun hc33 => ?_)
         ·replace h := ite_t hc33 h
          refine WpC.seq ?_
          refine WpC.seq ?_
          refine rA {} [0, 5, 138] [5, 62003, 62004, 100000] hN (by kernel_rfl) (by kernel_rfl) (by kernel_rfl) ?_
          refine tnU ?_
          refine tS (b := (a2 == (a1.length : Int))) (by kernel_rfl) (fun hc34 => ?_) (fun hc34 => ?_)
          ·replace h := ite_t hc34 h
           refine WpC.conv (cS [.fp 5 (.arr 20 I6), .k [0, 5, 138] [62003, 62004, 100000]] (by kernel_rfl) (by kernel_rfl)) ?_
           refine rS {} [] [62003, 62004, 100000] hN (by kernel_rfl) (by kernel_rfl) ?_
           refine tnU ?_
           refine WpC.conv (cS [.rn 62003 60001, .k [] [60001, 62004, 100000], .rn 62004 60002, .k [] [60001, 60002, 100000]] (by kernel_rfl) (by kernel_rfl)) (WpC.exit ?_)
           refine blockQ_pass (by decide) ?_
           refine blockQ_pass (by decide) ?_
           have hq := Option.some.inj h
           subst hq
           refine thenQ_exit ?_
           have h := hout11
           refine blockQ_hit ?_
           refine noGotoQ_normal ?_
           have hq := Option.some.inj h
           subst hq
           exact eN (by kernel_rfl) (by kernel_rfl)
          ·replace h := ite_f hc34 h
           refine WpC.conv (cS [.k [] [62003, 62004, 100000]] (by kernel_rfl) (by kernel_rfl)) (WpC.skip ?_)
           refine tnU ?_
           refine WpC.conv (cS [.rn 62003 60001, .k [] [60001, 62004, 100000], .rn 62004 60002, .k [] [60001, 60002, 100000]] (by kernel_rfl) (by kernel_rfl)) (WpC.exit ?_)
           refine blockQ_pass (by decide) ?_
           refine blockQ_pass (by decide) ?_
           have hq := Option.some.inj h
           subst hq
           refine thenQ_exit ?_
           have h := hout11
           refine blockQ_hit ?_
           refine noGotoQ_normal ?_
           have hq := Option.some.inj h
           subst hq
           exact eN (by kernel_rfl) (by kernel_rfl)
         ·replace h := ite_f hc33 h
          refine WpC.conv (cS [.k [] [62003, 62004, 100000], .rn 62003 60001, .k [] [60001, 62004, 100000], .rn 62004 60002, .k [] [60001, 60002, 100000]] (by kernel_rfl) (by kernel_rfl)) (WpC.exit ?_)
          refine blockQ_pass (by decide) ?_
          refine blockQ_pass (by decide) ?_
          have hq := Option.some.inj h
          subst hq
          refine thenQ_exit ?_
          have h := hout11
          refine blockQ_hit ?_
          refine noGotoQ_normal ?_
          have hq := Option.some.inj h
          subst hq
          exact eN (by kernel_rfl) (by kernel_rfl)

theorem scc_pike_runner_add_m1.ok (O : Out) (hO : GOkE O) : ∀ k : Nat, (∀ (a0 : List T_prog_Instr) (a1 : List UInt8) (a2 : Int) (a3 : List Int) (a4 : List T_pike_thread) (a5 : Option (List Int)) (a6 : Int) (a7 : List Int) (out : (List Int) × (List T_pike_thread) × (Option (List Int))), pike_runner_add_m1.f k a0 a1 a2 a3 a4 a5 a6 a7 = some out → COk Un O Tryd.prog 47 { ar := [.loc 100000 0, .p (.int .i64) a6, .p (.arr 20 (.int .i64)) a7], r := .tup [], bs := [(100000, .box [.p (.list (.named 5)) a0, .p .str a1, .p (.int .i64) a2, .vec 100001 1 0 a3.length, .vec 100002 21 0 a4.length, .p (.ptr (.arr 20 (.int .i64))) a5]), (100001, .row 3 (.int .i64) a3 false), (100002, .row 111 (.named 7) a4 false)], bs' := [(60001, .row 3 (.int .i64) out.1 false), (60002, .row 111 (.named 7) out.2.1 false), (100000, .box [.p (.list (.named 5)) a0, .p .str a1, .p (.int .i64) a2, .vec 60001 1 0 out.1.length, .vec 60002 21 0 out.2.1.length, .p (.ptr (.arr 20 (.int .i64))) out.2.2])], nn := [60001, 60002] }) := by
 intro k
 induction k with
 | zero => exact fun a0 a1 a2 a3 a4 a5 a6 a7 out h => (by have h2 : (none : Option ((List Int) × (List T_pike_thread) × (Option (List Int)))) = some out := h; cases h2)
 | succ k ih => exact fun a0 a1 a2 a3 a4 a5 a6 a7 out h => pike_runner_add_m1.bok O hO k _ ih a0 a1 a2 a3 a4 a5 a6 a7 out h
theorem pike_runner_add_m1.ok (O : Out) (hO : GOkE O) (k : Nat) (a0 : List T_prog_Instr) (a1 : List UInt8) (a2 : Int) (a3 : List Int) (a4 : List T_pike_thread) (a5 : Option (List Int)) (a6 : Int) (a7 : List Int) (out : (List Int) × (List T_pike_thread) × (Option (List Int))) (h : pike_runner_add_m1.f k a0 a1 a2 a3 a4 a5 a6 a7 = some out) : COk Un O Tryd.prog 47 { ar := [.loc 100000 0, .p (.int .i64) a6, .p (.arr 20 (.int .i64)) a7], r := .tup [], bs := [(100000, .box [.p (.list (.named 5)) a0, .p .str a1, .p (.int .i64) a2, .vec 100001 1 0 a3.length, .vec 100002 21 0 a4.length, .p (.ptr (.arr 20 (.int .i64))) a5]), (100001, .row 3 (.int .i64) a3 false), (100002, .row 111 (.named 7) a4 false)], bs' := [(60001, .row 3 (.int .i64) out.1 false), (60002, .row 111 (.named 7) out.2.1 false), (100000, .box [.p (.list (.named 5)) a0, .p .str a1, .p (.int .i64) a2, .vec 60001 1 0 out.1.length, .vec 60002 21 0 out.2.1.length, .p (.ptr (.arr 20 (.int .i64))) out.2.2])], nn := [60001, 60002] } := (scc_pike_runner_add_m1.ok O hO k) a0 a1 a2 a3 a4 a5 a6 a7 out h

theorem pike_runner_step_m1.ok (O : Out) (hO : GOkE O) (k : Nat) (a0 : List T_prog_Instr) (a1 : List UInt8) (a2 : Int) (a3 : List Int) (a4 : List T_pike_thread) (a5 : Option (List Int)) (a6 : Int) (out : Int × (List Int) × (List T_pike_thread) × (Option (List Int))) (h : pike_runner_step_m1.f k a0 a1 a2 a3 a4 a5 a6 = some out) : COk Un O Tryd.prog 48 { ar := [.loc 100000 0, .p (.int .u8) a6], r := .tup [], bs := [(100000, .box [.p (.list (.named 5)) a0, .p .str a1, .p I6 a2, .vec 100001 1 0 a3.length, .vec 100002 21 0 a4.length, .p (.ptr (.arr 20 I6)) a5]), (100001, .row 3 I6 a3 false), (100002, .row 111 (.named 7) a4 false)], bs' := [(60001, .row 3 I6 out.2.1 false), (60002, .row 111 (.named 7) out.2.2.1 false), (100000, .box [.p (.list (.named 5)) a0, .p .str a1, .p I6 out.1, .vec 60001 1 0 out.2.1.length, .vec 60002 21 0 out.2.2.1.length, .p (.ptr (.arr 20 I6)) out.2.2.2])], nn := [60001, 60002] } := by
 refine cok_of_wp Tryd.func48 rfl (k := 46) rfl (Nat.le_of_ble_eq_true rfl) (namesOk_of (by kernel_rfl)) ?_
 intro B hN
 refine WpC.conv (cvK (b := ⟨[(0, .loc 100000 0), (1, .p (.int .u8) a6)], [(100000, .box [.p (.list (.named 5)) a0, .p .str a1, .p I6 a2, .vec 100001 1 0 a3.length, .vec 100002 21 0 a4.length, .p (.ptr (.arr 20 I6)) a5]), (100001, .row 3 I6 a3 false), (100002, .row 111 (.named 7) a4 false)]⟩) [0, 1] [100000, 100001, 100002] (by kernel_rfl)) ?_
 unfold pike_runner_step_m1.f at h
 refine WpC.seq ?_
 refine rS {} [0, 1, 4] [100000, 100001, 100002] hN (by kernel_rfl) (by kernel_rfl) ?_
 refine tnU ?_
 refine WpC.seq ?_
 refine rS { th := [(3, [(4, 10001, 111, .named 7)])] } [0, 1, 4] [10001, 100000, 100001, 100002] hN (by kernel_rfl) (by kernel_rfl) ?_
 refine tnU ?_
 refine WpC.seq ?_
 refine rS {} [0, 1, 4] [10001, 100000, 100001, 100002] hN (by kernel_rfl) (by kernel_rfl) ?_
 refine tnU ?_
 refine WpC.seq ?_
 refine rS {} [0, 1, 21, 22, 23] [10001, 100000, 100001, 100002] hN (by kernel_rfl) (by kernel_rfl) ?_
 refine tnU ?_
 refine WpC.block ?_
 obtain ⟨o9, hlo9, h⟩ := bind_some h
 have hout10 := h
 clear h
 refine WpC.conv (cS [.rn 100001 62003, .k [0, 1, 21, 22, 23] [10001, 62003, 100000, 100002], .rn 10001 62004, .k [0, 1, 21, 22, 23] [62003, 62004, 100000, 100002]] (by kernel_rfl) (by kernel_rfl)) ?_
 refine WpC.loop (U := Un) (fun n st' => ∃ v1 : List Int, ∃ v2 : List T_pike_thread, ∃ v3 : Option (List Int), ∃ v4 : Int, pike_runner_step_m1.l5 k a0 a1 a2 a4 a6 n v1 v2 v3 v4 = some o9 ∧ st' = ⟨[(0, .loc 100000 0), (1, .p (.int .u8) a6), (21, .vec 100002 21 0 a4.length), (22, .p I6 ((a4.length : Int) : Int)), (23, .p I6 v4)], [(62003, .row 3 I6 v1 false), (62004, .row 111 (.named 7) v2 false), (100000, .box [.p (.list (.named 5)) a0, .p .str a1, .p I6 ((IntKind.i64.wrap (a2 + 1)) : Int), .vec 62003 1 0 v1.length, .vec 62004 21 0 v2.length, .p (.ptr (.arr 20 I6)) v3]), (100002, .row 111 (.named 7) a4 false)]⟩) k ⟨a3, [], a5, 0, hlo9, by kernel_rfl⟩ ?_
 clear hlo9
 rintro (_ | n) _ ⟨v1, v2, v3, v4, h, rfl⟩
 ·cases h
 ·rw [pike_runner_step_m1.l5] at h
  refine WpC.seq ?_
  refine rS {} [0, 1, 21, 22, 23, 24] [62003, 62004, 100000, 100002] hN (by kernel_rfl) (by kernel_rfl) ?_
  refine tnU ?_
  refine WpC.seq ?_
  refine tS (b := (decide (v4 < (a4.length : Int)))) (by kernel_rfl) (fun hc11 => ?_) (fun hc11 => ?_)
  ·replace h := ite_t hc11 h
   refine WpC.conv (cS [.k [0, 1, 21, 22, 23] [62003, 62004, 100000, 100002]] (by kernel_rfl) (by kernel_rfl)) (WpC.skip ?_)
   refine tnU ?_
   refine sqJ (fun st' => ∃ v12 : List Int, ∃ v13 : List T_pike_thread, ∃ v14 : Option (List Int), pike_runner_step_m1.j15 k (pike_runner_step_m1.l5 k a0 a1 a2 a4 a6 n) a0 a1 a2 a4 a6 v4 v12 v13 v14 = some o9 ∧ st' = ⟨[(0, .loc 100000 0), (1, .p (.int .u8) a6), (21, .vec 100002 21 0 a4.length), (22, .p I6 ((a4.length : Int) : Int)), (23, .p I6 v4)], [(62003, .row 3 I6 v12 false), (62004, .row 111 (.named 7) v13 false), (100000, .box [.p (.list (.named 5)) a0, .p .str a1, .p I6 ((IntKind.i64.wrap (a2 + 1)) : Int), .vec 62003 1 0 v12.length, .vec 62004 21 0 v13.length, .p (.ptr (.arr 20 I6)) v14]), (100002, .row 111 (.named 7) a4 false)]⟩) ?_ ?_
   ·refine WpC.block ?_
    refine WpC.seq ?_
    obtain ⟨g16, h⟩ := if_some h
    obtain ⟨v17, hv17, h⟩ := bind_some h
    refine rS { its := [(0, .g g16), (1, .v (.named 7) hv17)] } [0, 1, 6, 21, 22, 23] [6, 62003, 62004, 100000, 100002] hN (by kernel_rfl) (by kernel_rfl) ?_
    refine tnU ?_
    refine WpC.seq ?_
    obtain ⟨v18, hv18, h⟩ := bind_some h
    obtain ⟨v19, hv19, h⟩ := bind_some h
    refine rA { its := [(6, .v (.named 5) hv18), (10, .c (class_Set_Has.ok O hO k v18.f_Set a6 v19 hv19))] } [0, 1, 6, 21, 22, 23, 37] [6, 62003, 62004, 100000, 100002] hN (by kernel_rfl) (by kernel_rfl) (by kernel_rfl) ?_
    refine tnU ?_
    refine tS (b := v19) (by kernel_rfl) (fun hc20 => ?_) (fun hc20 => ?_)
    ·replace h := ite_t hc20 h
     obtain ⟨v21, hv21, h⟩ := bind_some h
     refine rSC { its := [(6, .c (COk.ren (pike_runner_add_m1.ok O hO k a0 a1 (IntKind.i64.wrap (a2 + 1)) v1 v2 v3 (IntKind.i64.wrap (v17.f_at + 1)) v17.f_kept v21 hv21) (fun n => if n = 60001 then 10002 else if n = 60002 then 10003 else if n = 100000 then 100000 else if n = 100001 then 62003 else if n = 100002 then 62004 else n) (injOn_of (by kernel_rfl))))] } [0, 1, 21, 22, 23] [10002, 10003, 100000, 100002] hN (by kernel_rfl) (by kernel_rfl) (cS [.rn 10002 62003, .k [0, 1, 21, 22, 23] [10003, 62003, 100000, 100002], .rn 10003 62004, .k [0, 1, 21, 22, 23] [62003, 62004, 100000, 100002]] (by kernel_rfl) (by kernel_rfl)) ?_
     refine blockQ_normal ?_
     refine tnU ?_
     exact ⟨v21.1, v21.2.1, v21.2.2, h, by kernel_rfl⟩
    ·replace h := ite_f hc20 h
     refine WpC.conv (cS [.k [0, 1, 21, 22, 23] [62003, 62004, 100000, 100002]] (by kernel_rfl) (by kernel_rfl)) (WpC.skip ?_)
     refine blockQ_normal ?_
     refine tnU ?_
     exact ⟨v1, v2, v3, h, by kernel_rfl⟩
   ·rintro _ ⟨v12, v13, v14, h, rfl⟩
    unfold pike_runner_step_m1.j15 at h
    refine rS {} [0, 1, 21, 22, 23] [62003, 62004, 100000, 100002] hN (by kernel_rfl) (by kernel_rfl) ?_
    refine tnU ?_
    exact ⟨n, Nat.lt_succ_self n, v12, v13, v14, (IntKind.i64.wrap (v4 + 1)), h, by kernel_rfl⟩
  ·replace h := ite_f hc11 h
   refine WpC.conv (cS [.k [] [62003, 62004, 100000], .rn 62003 60001, .k [] [60001, 62004, 100000], .rn 62004 60002, .k [] [60001, 60002, 100000]] (by kernel_rfl) (by kernel_rfl)) (WpC.exit ?_)
   refine thenQ_exit ?_
   have hq := Option.some.inj h
   subst hq
   refine thenQ_exit ?_
   have h := hout10
   refine blockQ_hit ?_
   have hq := Option.some.inj h
   subst hq
   exact eN (by kernel_rfl) (by kernel_rfl)

theorem pike_Match.ok (O : Out) (hO : GOkE O) (k : Nat) (a0 : List T_prog_Instr) (a1 : List UInt8) (out : (List Int) × Bool) (h : pike_Match.f k a0 a1 = some out) : COk Un O Tryd.prog 28 { ar := [.p (.list (.named 5)) a0, .p .str a1], r := .tup [.p (.list I6) out.1, .p .bool out.2] } := by
 refine cok_of_wp Tryd.func28 rfl (k := 64) rfl (Nat.le_of_ble_eq_true rfl) (namesOk_pure rfl rfl rfl rfl) ?_
 intro B hN
 refine WpC.conv (cvK (b := ⟨[(0, .p (.list (.named 5)) a0), (1, .p .str a1)], []⟩) [0, 1] [] (by kernel_rfl)) ?_
 unfold pike_Match.f at h
 refine WpC.seq ?_
 refine rS {} [0, 1] [] hN (by kernel_rfl) (by kernel_rfl) ?_
 refine tnU ?_
 refine WpC.seq ?_
 obtain ⟨g1, h⟩ := if_some h
 refine rSC { its := [(4, .g g1)], th := [(6, [(4, 10001, 111, .named 7)])] } [1, 6] [15, 17, 10001] hN (by kernel_rfl) (by kernel_rfl) (cS [.k [1, 6] [15, 17, 10001], .x (Conv.cast (U := Un) (st := ⟨[(1, .p .str a1), (6, .loc 17 0)], [(15, .row 3 I6 (List.replicate (a0.length : Int).toNat (0 : Int)) true), (17, .box [.p (.list (.named 5)) a0, .p .str a1, .p I6 (0 : Int), .vec 15 1 0 ((a0.length : Int).toNat), .vec 10001 21 0 0, .p (.ptr (.arr 20 I6)) none]), (10001, .row 111 (.named 7) [] false)]⟩) (st' := ⟨[(1, .p .str a1), (6, .loc 17 0)], [(15, .row 3 I6 (List.replicate (a0.length : Int).toNat (0 : Int)) true), (17, .box [.p (.list (.named 5)) a0, .p .str a1, .p I6 (0 : Int), .vec 15 1 0 ((List.replicate (a0.length : Int).toNat (0 : Int)).length), .vec 10001 21 0 0, .p (.ptr (.arr 20 I6)) none]), (10001, .row 111 (.named 7) [] false)]⟩) (by simp only [upd_length, List.length_nil, List.length_replicate]))] (by kernel_rfl) (by kernel_rfl)) ?_
 refine tnU ?_
 refine sqJ (fun st' => ∃ v2 : List Int, pike_Match.j39 k a0 a1 v2 = some out ∧ st' = ⟨[(1, .p .str a1), (6, .loc 17 0)], [(17, .box [.p (.list (.named 5)) a0, .p .str a1, .p I6 (0 : Int), .vec 63091 1 0 v2.length, .vec 10001 21 0 0, .p (.ptr (.arr 20 I6)) none]), (10001, .row 111 (.named 7) [] false), (63091, .row 3 I6 v2 false)]⟩) ?_ ?_
 ·refine WpC.seq ?_
  refine rS {} [1, 6, 22, 23] [15, 17, 10001] hN (by kernel_rfl) (by kernel_rfl) ?_
  refine tnU ?_
  refine WpC.block ?_
  obtain ⟨o44, hlo44, h⟩ := bind_some h
  have hout45 := h
  clear h
  refine WpC.conv (cS [.lo 15, .k [1, 6, 22, 23] [15, 17, 10001], .rn 15 63091, .k [1, 6, 22, 23] [17, 10001, 63091]] (by kernel_rfl) (by kernel_rfl)) ?_
  refine WpC.loop (U := Un) (fun n st' => ∃ v40 : List Int, ∃ v41 : Int, pike_Match.l42 k a0 a1 n v40 v41 = some o44 ∧ st' = ⟨[(1, .p .str a1), (6, .loc 17 0), (22, .p I6 (((List.replicate (a0.length : Int).toNat (0 : Int)).length : Int) : Int)), (23, .p I6 v41)], [(17, .box [.p (.list (.named 5)) a0, .p .str a1, .p I6 (0 : Int), .vec 63091 1 0 v40.length, .vec 10001 21 0 0, .p (.ptr (.arr 20 I6)) none]), (10001, .row 111 (.named 7) [] false), (63091, .row 3 I6 v40 false)]⟩) k ⟨(List.replicate (a0.length : Int).toNat (0 : Int)), 0, hlo44, by kernel_rfl⟩ ?_
  clear hlo44
  rintro (_ | n) _ ⟨v40, v41, h, rfl⟩
  ·cases h
  ·rw [pike_Match.l42] at h
   refine WpC.seq ?_
   refine rS {} [1, 6, 22, 23, 24] [17, 10001, 63091] hN (by kernel_rfl) (by kernel_rfl) ?_
   refine tnU ?_
   refine WpC.seq ?_
   refine tS (b := (decide (v41 < ((List.replicate (a0.length : Int).toNat (0 : Int)).length : Int)))) (by kernel_rfl) (fun hc46 => ?_) (fun hc46 => ?_)
   ·replace h := ite_t hc46 h
    refine WpC.conv (cS [.k [1, 6, 22, 23] [17, 10001, 63091]] (by kernel_rfl) (by kernel_rfl)) (WpC.skip ?_)
    refine tnU ?_
    refine WpC.seq ?_
    refine WpC.block ?_
    refine WpC.seq ?_
    refine rS {} [1, 6, 7, 22, 23] [17, 10001, 63091] hN (by kernel_rfl) (by kernel_rfl) ?_
    refine tnU ?_
    obtain ⟨g47, h⟩ := if_some h
    obtain ⟨v48, hv48, h⟩ := bind_some h
    refine rSC { its := [(5, .g g47), (6, .v I6 hv48)] } [1, 6, 22, 23] [17, 10001, 63091] hN (by kernel_rfl) (by kernel_rfl) (cS [.k [1, 6, 22, 23] [17, 10001, 63091], .x (Conv.cast (U := Un) (st := ⟨[(1, .p .str a1), (6, .loc 17 0), (22, .p I6 (((List.replicate (a0.length : Int).toNat (0 : Int)).length : Int) : Int)), (23, .p I6 v41)], [(17, .box [.p (.list (.named 5)) a0, .p .str a1, .p I6 (0 : Int), .vec 63091 1 0 v40.length, .vec 10001 21 0 0, .p (.ptr (.arr 20 I6)) none]), (10001, .row 111 (.named 7) [] false), (63091, .row 3 I6 (upd v40 (0 + v41.toNat) (-1 : Int)) false)]⟩) (st' := ⟨[(1, .p .str a1), (6, .loc 17 0), (22, .p I6 (((List.replicate (a0.length : Int).toNat (0 : Int)).length : Int) : Int)), (23, .p I6 v41)], [(17, .box [.p (.list (.named 5)) a0, .p .str a1, .p I6 (0 : Int), .vec 63091 1 0 ((upd v40 (0 + v41.toNat) (-1 : Int)).length), .vec 10001 21 0 0, .p (.ptr (.arr 20 I6)) none]), (10001, .row 111 (.named 7) [] false), (63091, .row 3 I6 (upd v40 (0 + v41.toNat) (-1 : Int)) false)]⟩) (by simp only [upd_length, List.length_nil, List.length_replicate]))] (by kernel_rfl) (by kernel_rfl)) ?_
    refine blockQ_normal ?_
    refine tnU ?_
    refine rS {} [1, 6, 22, 23] [17, 10001, 63091] hN (by kernel_rfl) (by kernel_rfl) ?_
    refine tnU ?_
    exact ⟨n, Nat.lt_succ_self n, (upd v40 (0 + v41.toNat) (-1 : Int)), (IntKind.i64.wrap (v41 + 1)), h, by kernel_rfl⟩
   ·replace h := ite_f hc46 h
    refine WpC.conv (cS [.k [1, 6] [17, 10001, 63091]] (by kernel_rfl) (by kernel_rfl)) (WpC.exit ?_)
    refine thenQ_exit ?_
    have hq := Option.some.inj h
    subst hq
    refine thenQ_exit ?_
    have h := hout45
    refine blockQ_hit ?_
    refine tnU ?_
    exact ⟨v40, h, by kernel_rfl⟩
 ·rintro _ ⟨v2, h, rfl⟩
  unfold pike_Match.j39 at h
  refine WpC.seq ?_
  refine rS {} [1, 6, 8] [8, 17, 10001, 63091] hN (by kernel_rfl) (by kernel_rfl) ?_
  refine tnU ?_
  refine sqJ (fun st' => ∃ v3 : List Int, pike_Match.j28 k a0 a1 v2 v3 = some out ∧ st' = ⟨[(1, .p .str a1), (6, .loc 17 0), (8, .loc 8 0)], [(8, .box [.p (.arr 20 I6) v3]), (17, .box [.p (.list (.named 5)) a0, .p .str a1, .p I6 (0 : Int), .vec 63091 1 0 v2.length, .vec 10001 21 0 0, .p (.ptr (.arr 20 I6)) none]), (10001, .row 111 (.named 7) [] false), (63091, .row 3 I6 v2 false)]⟩) ?_ ?_
  ·refine WpC.seq ?_
   refine rS {} [1, 6, 8, 33] [8, 17, 10001, 63091] hN (by kernel_rfl) (by kernel_rfl) ?_
   refine tnU ?_
   refine WpC.block ?_
   obtain ⟨o33, hlo33, h⟩ := bind_some h
   have hout34 := h
   clear h
   refine WpC.loop (U := Un) (fun n st' => ∃ v29 : List Int, ∃ v30 : Int, pike_Match.l31 k a0 a1 v2 n v29 v30 = some o33 ∧ st' = ⟨[(1, .p .str a1), (6, .loc 17 0), (8, .loc 8 0), (33, .p I6 v30)], [(8, .box [.p (.arr 20 I6) v29]), (17, .box [.p (.list (.named 5)) a0, .p .str a1, .p I6 (0 : Int), .vec 63091 1 0 v2.length, .vec 10001 21 0 0, .p (.ptr (.arr 20 I6)) none]), (10001, .row 111 (.named 7) [] false), (63091, .row 3 I6 v2 false)]⟩) k ⟨(List.replicate 20 (0 : Int)), 0, hlo33, by kernel_rfl⟩ ?_
   clear hlo33
   rintro (_ | n) _ ⟨v29, v30, h, rfl⟩
   ·cases h
   ·rw [pike_Match.l31] at h
    refine WpC.seq ?_
    refine rS {} [1, 6, 8, 33, 34] [8, 17, 10001, 63091] hN (by kernel_rfl) (by kernel_rfl) ?_
    refine tnU ?_
    refine WpC.seq ?_
    refine tS (b := (decide (v30 < 20))) (by kernel_rfl) (fun hc35 => ?_) (fun hc35 => ?_)
    ·replace h := ite_t hc35 h
     refine WpC.conv (cS [.k [1, 6, 8, 33] [8, 17, 10001, 63091]] (by kernel_rfl) (by kernel_rfl)) (WpC.skip ?_)
     refine tnU ?_
     refine WpC.seq ?_
     refine WpC.block ?_
     refine WpC.seq ?_
     refine rS {} [1, 6, 8, 9, 33] [8, 17, 10001, 63091] hN (by kernel_rfl) (by kernel_rfl) ?_
     refine tnU ?_
     obtain ⟨g36, h⟩ := if_some h
     obtain ⟨v37, hv37, h⟩ := bind_some h
     refine rS { its := [(1, .g g36), (2, .v I6 hv37)] } [1, 6, 8, 33] [8, 17, 10001, 63091] hN (by kernel_rfl) (by kernel_rfl) ?_
     refine blockQ_normal ?_
     refine tnU ?_
     refine rS {} [1, 6, 8, 33] [8, 17, 10001, 63091] hN (by kernel_rfl) (by kernel_rfl) ?_
     refine tnU ?_
     exact ⟨n, Nat.lt_succ_self n, (upd v29 v30.toNat (-1 : Int)), (IntKind.i64.wrap (v30 + 1)), h, by kernel_rfl⟩
    ·replace h := ite_f hc35 h
     refine WpC.conv (cS [.k [1, 6, 8] [8, 17, 10001, 63091]] (by kernel_rfl) (by kernel_rfl)) (WpC.exit ?_)
     refine thenQ_exit ?_
     have hq := Option.some.inj h
     subst hq
     refine thenQ_exit ?_
     have h := hout34
     refine blockQ_hit ?_
     refine tnU ?_
     exact ⟨v29, h, by kernel_rfl⟩
  ·rintro _ ⟨v3, h, rfl⟩
   unfold pike_Match.j28 at h
   refine WpC.seq ?_
   obtain ⟨v4, hv4, h⟩ := bind_some h
   refine rS { its := [(2, .c (COk.ren (pike_runner_add_m1.ok O hO k a0 a1 0 v2 [] none 0 v3 v4 hv4) (fun n => if n = 60001 then 10002 else if n = 60002 then 10003 else if n = 100000 then 17 else if n = 100001 then 63091 else if n = 100002 then 10001 else n) (injOn_of (by kernel_rfl))))] } [1, 6] [17, 10002, 10003] hN (by kernel_rfl) (by kernel_rfl) ?_
   refine tnU ?_
   refine sqJ (fun st' => ∃ v5 : Int, ∃ v6 : List Int, ∃ v7 : List T_pike_thread, ∃ v8 : Option (List Int), pike_Match.j11 k a0 a1 v5 v6 v7 v8 = some out ∧ st' = ⟨[(6, .loc 17 0)], [(17, .box [.p (.list (.named 5)) a0, .p .str a1, .p I6 v5, .vec 63091 1 0 v6.length, .vec 63092 21 0 v7.length, .p (.ptr (.arr 20 I6)) v8]), (63091, .row 3 I6 v6 false), (63092, .row 111 (.named 7) v7 false)]⟩) ?_ ?_
   ·refine WpC.seq ?_
    refine rS {} [1, 6, 43, 44] [17, 10002, 10003] hN (by kernel_rfl) (by kernel_rfl) ?_
    refine tnU ?_
    refine WpC.block ?_
    obtain ⟨o22, hlo22, h⟩ := bind_some h
    have hout23 := h
    clear h
    refine WpC.conv (cS [.rn 10002 63091, .k [1, 6, 43, 44] [17, 10003, 63091], .rn 10003 63092, .k [1, 6, 43, 44] [17, 63091, 63092]] (by kernel_rfl) (by kernel_rfl)) ?_
    refine WpC.loop (U := Un) (fun n st' => ∃ v12 : Int, ∃ v13 : List Int, ∃ v14 : List T_pike_thread, ∃ v15 : Option (List Int), ∃ v16 : Int, pike_Match.l17 k a0 a1 n v12 v13 v14 v15 v16 = some o22 ∧ st' = ⟨[(1, .p .str a1), (6, .loc 17 0), (43, .p I6 ((a1.length : Int) : Int)), (44, .p I6 v16)], [(17, .box [.p (.list (.named 5)) a0, .p .str a1, .p I6 v12, .vec 63091 1 0 v13.length, .vec 63092 21 0 v14.length, .p (.ptr (.arr 20 I6)) v15]), (63091, .row 3 I6 v13 false), (63092, .row 111 (.named 7) v14 false)]⟩) k ⟨0, v4.1, v4.2.1, v4.2.2, 0, hlo22, by kernel_rfl⟩ ?_
    clear hlo22
    rintro (_ | n) _ ⟨v12, v13, v14, v15, v16, h, rfl⟩
    ·cases h
    ·rw [pike_Match.l17] at h
     refine WpC.seq ?_
     refine rS {} [1, 6, 43, 44, 45] [17, 63091, 63092] hN (by kernel_rfl) (by kernel_rfl) ?_
     refine tnU ?_
     refine WpC.seq ?_
     refine tS (b := (decide (v16 < (a1.length : Int)))) (by kernel_rfl) (fun hc24 => ?_) (fun hc24 => ?_)
     ·replace h := ite_t hc24 h
      refine WpC.conv (cS [.k [1, 6, 43, 44] [17, 63091, 63092]] (by kernel_rfl) (by kernel_rfl)) (WpC.skip ?_)
      refine tnU ?_
      refine WpC.seq ?_
      refine WpC.block ?_
      refine WpC.seq ?_
      refine rS {} [1, 6, 10, 43, 44] [17, 63091, 63092] hN (by kernel_rfl) (by kernel_rfl) ?_
      refine tnU ?_
      obtain ⟨v25, hv25, h⟩ := bind_some h
      obtain ⟨v26, hv26, h⟩ := bind_some h
      refine rS { its := [(3, .u hv25), (4, .c (COk.ren (pike_runner_step_m1.ok O hO k a0 a1 v12 v13 v14 v15 (v25.toNat : Int) v26 hv26) (fun n => if n = 60001 then 10004 else if n = 60002 then 10005 else if n = 100000 then 17 else if n = 100001 then 63091 else if n = 100002 then 63092 else n) (injOn_of (by kernel_rfl))))] } [1, 6, 43, 44] [17, 10004, 10005] hN (by kernel_rfl) (by kernel_rfl) ?_
      refine blockQ_normal ?_
      refine tnU ?_
      refine rSC {} [1, 6, 43, 44] [17, 10004, 10005] hN (by kernel_rfl) (by kernel_rfl) (cS [.rn 10004 63091, .k [1, 6, 43, 44] [17, 10005, 63091], .rn 10005 63092, .k [1, 6, 43, 44] [17, 63091, 63092]] (by kernel_rfl) (by kernel_rfl)) ?_
      refine tnU ?_
      exact ⟨n, Nat.lt_succ_self n, v26.1, v26.2.1, v26.2.2.1, v26.2.2.2, (IntKind.i64.wrap (v16 + 1)), h, by kernel_rfl⟩
     ·replace h := ite_f hc24 h
      refine WpC.conv (cS [.k [6] [17, 63091, 63092]] (by kernel_rfl) (by kernel_rfl)) (WpC.exit ?_)
      refine thenQ_exit ?_
      have hq := Option.some.inj h
      subst hq
      refine thenQ_exit ?_
      have h := hout23
      refine blockQ_hit ?_
      refine tnU ?_
      exact ⟨v12, v13, v14, v15, h, by kernel_rfl⟩
   ·rintro _ ⟨v5, v6, v7, v8, h, rfl⟩
    unfold pike_Match.j11 at h
    refine WpC.seq ?_
    refine WpC.seq ?_
    refine rS {} [6, 57] [17, 63091, 63092] hN (by kernel_rfl) (by kernel_rfl) ?_
    refine tnU ?_
    refine tS (b := v8.isNone) (by kernel_rfl) (fun hc9 => ?_) (fun hc9 => ?_)
    ·replace h := ite_t hc9 h
     refine WpC.seq ?_
     refine rS {} [4, 5] [] hN (by kernel_rfl) (by kernel_rfl) ?_
     refine tnU ?_
     refine WpC.conv (cS [.nL 4 I6, .k [4, 5] []] (by kernel_rfl) (by kernel_rfl)) (WpC.ret ?_)
     refine thenQ_ret ?_
     have hq := Option.some.inj h
     subst hq
     exact eR (by kernel_rfl) (by kernel_rfl)
    ·replace h := ite_f hc9 h
     refine WpC.conv (cS [.k [6] [17, 63091, 63092]] (by kernel_rfl) (by kernel_rfl)) (WpC.skip ?_)
     refine tnU ?_
     refine WpC.seq ?_
     obtain ⟨v10, hv10, h⟩ := bind_some h
     refine rS { its := [(4, .v (.arr 20 I6) hv10), (5, .e 5 (sok_sliceA (U := Un) (rs := [(62, .pp (.arr 20 I6) v10)]) rfl rfl Tryd.underlying86 ty_3 o0))] } [4, 5] [] hN (by kernel_rfl) (by kernel_rfl) ?_
     refine tnU ?_
     refine WpC.ret ?_
     have hq := Option.some.inj h
     subst hq
     exact eR (by kernel_rfl) (by kernel_rfl)

theorem millwrightlaw10_DenoteAgrees.ok (O : Out) (hO : GOkE O) (k : Nat) (a0 : List UInt8) (a1 : List UInt8) (out : Bool) (h : millwrightlaw10_DenoteAgrees.f k a0 a1 = some out) : COk Un O Tryd.prog 6 { ar := [.p .str a0, .p .str a1], r := .p .bool out } := by
 refine cok_of_wp Tryd.func6 rfl (k := 56) rfl (Nat.le_of_ble_eq_true rfl) (namesOk_pure rfl rfl rfl rfl) ?_
 intro B hN
 refine WpC.conv (cvK (b := ⟨[(0, .p .str a0), (1, .p .str a1)], []⟩) [0, 1] [] (by kernel_rfl)) ?_
 unfold millwrightlaw10_DenoteAgrees.f at h
 refine WpC.seq ?_
 refine rS {} [0, 1] [] hN (by kernel_rfl) (by kernel_rfl) ?_
 refine tnU ?_
 refine WpC.seq ?_
 refine WpC.seq ?_
 obtain ⟨v1, hv1, h⟩ := bind_some h
 refine rS { its := [(0, .c (millwrightlaw10_alive.ok O hO k v1 hv1))] } [0, 1, 12] [] hN (by kernel_rfl) (by kernel_rfl) ?_
 refine tnU ?_
 refine tS (b := (!v1)) (by kernel_rfl) (fun hc2 => ?_) (fun hc2 => ?_)
 ·replace h := ite_t hc2 h
  refine WpC.seq ?_
  refine rS {} [4] [] hN (by kernel_rfl) (by kernel_rfl) ?_
  refine tnU ?_
  refine WpC.ret ?_
  refine thenQ_ret ?_
  have hq := Option.some.inj h
  subst hq
  exact eR (by kernel_rfl) (by kernel_rfl)
 ·replace h := ite_f hc2 h
  refine WpC.conv (cS [.k [0, 1] []] (by kernel_rfl) (by kernel_rfl)) (WpC.skip ?_)
  refine tnU ?_
  refine sqJ (fun st' => millwrightlaw10_DenoteAgrees.j11 k a0 a1 = some out ∧ st' = ⟨[(0, .p .str a0), (1, .p .str a1)], []⟩) ?_ ?_
  ·refine sqJ (fun st' => ∃ v12 : Bool, millwrightlaw10_DenoteAgrees.j14 k a0 a1 v12 = some out ∧ st' = ⟨[(0, .p .str a0), (1, .p .str a1), (20, .p .bool v12)], []⟩) ?_ ?_
   ·rcases bool_cases (decide ((a0.length : Int) > 100)) with hc15 | hc15
    ·replace h := ite_t hc15 h
     refine rS { kn := [(16, .t hc15)] } [0, 1, 20] [] hN (by kernel_rfl) (by kernel_rfl) ?_
     refine tnU ?_
     exact ⟨true, h, by kernel_rfl⟩
    ·replace h := ite_f hc15 h
     refine rS { kn := [(16, .f hc15)] } [0, 1, 20] [] hN (by kernel_rfl) (by kernel_rfl) ?_
     refine tnU ?_
     exact ⟨(decide ((a1.length : Int) > 60)), h, by kernel_rfl⟩
   ·rintro _ ⟨v12, h, rfl⟩
    unfold millwrightlaw10_DenoteAgrees.j14 at h
    refine tS (b := v12) (by kernel_rfl) (fun hc13 => ?_) (fun hc13 => ?_)
    ·replace h := ite_t hc13 h
     refine WpC.seq ?_
     refine rS {} [4] [] hN (by kernel_rfl) (by kernel_rfl) ?_
     refine tnU ?_
     refine WpC.ret ?_
     refine thenQ_ret ?_
     have hq := Option.some.inj h
     subst hq
     exact eR (by kernel_rfl) (by kernel_rfl)
    ·replace h := ite_f hc13 h
     refine WpC.conv (cS [.k [0, 1] []] (by kernel_rfl) (by kernel_rfl)) (WpC.skip ?_)
     refine tnU ?_
     exact ⟨h, by kernel_rfl⟩
  ·rintro _ ⟨h, rfl⟩
   unfold millwrightlaw10_DenoteAgrees.j11 at h
   refine WpC.seq ?_
   obtain ⟨v3, hv3, h⟩ := bind_some h
   refine rS { its := [(1, .c (rex_Parse.ok O hO k a0 v3 hv3))] } [0, 1, 5, 6] [5] hN (by kernel_rfl) (by kernel_rfl) ?_
   refine tnU ?_
   refine WpC.seq ?_
   obtain ⟨v4, hv4, h⟩ := bind_some h
   refine rS { its := [(1, .c (prog_Of.ok O hO k a0 v4 hv4))] } [1, 5, 6, 7, 8] [5] hN (by kernel_rfl) (by kernel_rfl) ?_
   refine tnU ?_
   refine WpC.seq ?_
   refine WpC.seq ?_
   refine rS {} [1, 5, 7, 8, 32] [5] hN (by kernel_rfl) (by kernel_rfl) ?_
   refine tnU ?_
   refine tS (b := (!(v3.2 == 0))) (by kernel_rfl) (fun hc5 => ?_) (fun hc5 => ?_)
   ·replace h := ite_t hc5 h
    refine WpC.seq ?_
    rcases bool_cases (!(v4.2 == 0)) with hc6 | hc6
    ·replace h := ite_t hc6 h
     refine rS { kn := [(35, .t hc6)] } [4] [] hN (by kernel_rfl) (by kernel_rfl) ?_
     refine tnU ?_
     refine WpC.ret ?_
     refine thenQ_ret ?_
     have hq := Option.some.inj h
     subst hq
     exact eR (by kernel_rfl) (by kernel_rfl)
    ·replace h := ite_f hc6 h
     refine rS { kn := [(35, .f hc6)] } [4] [] hN (by kernel_rfl) (by kernel_rfl) ?_
     refine tnU ?_
     refine WpC.ret ?_
     refine thenQ_ret ?_
     have hq := Option.some.inj h
     subst hq
     exact eR (by kernel_rfl) (by kernel_rfl)
   ·replace h := ite_f hc5 h
    refine WpC.conv (cS [.k [1, 5, 7, 8] [5]] (by kernel_rfl) (by kernel_rfl)) (WpC.skip ?_)
    refine tnU ?_
    refine WpC.seq ?_
    refine WpC.seq ?_
    refine rS {} [1, 5, 7, 8, 41] [5] hN (by kernel_rfl) (by kernel_rfl) ?_
    refine tnU ?_
    refine tS (b := (!(v4.2 == 0))) (by kernel_rfl) (fun hc7 => ?_) (fun hc7 => ?_)
    ·replace h := ite_t hc7 h
     refine WpC.seq ?_
     obtain ⟨v8, hv8, h⟩ := bind_some h
     refine rS { its := [(1, .c (millwrightnum_Num.ok O hO k v4.2 v8 hv8))] } [4] [] hN (by kernel_rfl) (by kernel_rfl) ?_
     refine tnU ?_
     refine WpC.ret ?_
     refine thenQ_ret ?_
     have hq := Option.some.inj h
     subst hq
     exact eR (by kernel_rfl) (by kernel_rfl)
    ·replace h := ite_f hc7 h
     refine WpC.conv (cS [.k [1, 5, 7] [5]] (by kernel_rfl) (by kernel_rfl)) (WpC.skip ?_)
     refine tnU ?_
     refine WpC.seq ?_
     obtain ⟨v9, hv9, h⟩ := bind_some h
     refine rS { its := [(2, .c (pike_Match.ok O hO k v4.1 a1 v9 hv9))] } [1, 5, 10] [5] hN (by kernel_rfl) (by kernel_rfl) ?_
     refine tnU ?_
     refine WpC.seq ?_
     obtain ⟨v10, hv10, h⟩ := bind_some h
     refine rS { its := [(2, .c (denote_In.ok O hO k (T_rex_Node.mk v3.1.f_Kind v3.1.f_Index v3.1.f_Set v3.1.f_Kids) a1 v10 hv10))] } [4] [] hN (by kernel_rfl) (by kernel_rfl) ?_
     refine tnU ?_
     refine WpC.ret ?_
     have hq := Option.some.inj h
     subst hq
     exact eR (by kernel_rfl) (by kernel_rfl)

end Go.Proofs.YteddmdkbeednmaaDoor
