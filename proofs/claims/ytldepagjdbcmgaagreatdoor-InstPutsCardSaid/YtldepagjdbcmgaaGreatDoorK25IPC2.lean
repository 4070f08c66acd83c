/- A part of the proof of a given law: IPC2. Own work, printed in part by a program of mine. -/
import Derived.Test.YtldepagjdbcmgaaGreatDoorK25IPC1
namespace Go.Proofs.YtldepagjdbcmgaaGreatDoor
open Go Go.AM
set_option linter.unusedVariables false
set_option linter.unusedSimpArgs false
set_option maxRecDepth 100000
set_option maxHeartbeats 4000000
theorem slices_Concat_string_string.ok (O : Out) (hO : GOk O) (k : Nat) (a0 : List (List (List UInt8))) (out : List (List UInt8)) (h : slices_Concat_string_string.f k a0 = some out) : COk Un O Tryz.prog 71 { ar := [.p (.list (.list .str)) a0], r := .vec 60500 1 0 out.length, bs' := [(60500, .row 9 .str out false)], nn := [60500] } := by
  refine cok_of_wp Tryz.func71 rfl (k := 36) rfl (Nat.le_of_ble_eq_true rfl) (namesOk_of (by kernel_rfl)) ?_
  intro B hN
  refine WpC.conv (cvK (b := ⟨[(0, .p (.list (.list .str)) a0)], []⟩) [0] [] (by kernel_rfl)) ?_
  unfold slices_Concat_string_string.f at h
  refine WpC.seq ?_
  refine rS {} [0] [] hN (by kernel_rfl) (by kernel_rfl) ?_
  refine tnU ?_
  refine WpC.seq ?_
  refine rS {} [0, 3] [] hN (by kernel_rfl) (by kernel_rfl) ?_
  refine tnU ?_
  refine sqJ (fun st' => ∃ v1 : Int, slices_Concat_string_string.j15 k a0 v1 = some out ∧ st' = ⟨[(0, .p (.list (.list .str)) a0), (3, .p I6 v1)], []⟩) ?_ ?_
  · refine WpC.seq ?_
    refine rS {} [0, 3, 9, 10, 11] [] hN (by kernel_rfl) (by kernel_rfl) ?_
    refine tnU ?_
    refine WpC.block ?_
    obtain ⟨o20, hlo20, h⟩ := bind_some h
    have hout21 := h
    clear h
    refine WpC.loop (U := Un) (fun n st' => ∃ v16 : Int, ∃ v17 : Int, slices_Concat_string_string.l18 k a0 n v16 v17 = some o20 ∧ st' = ⟨[(0, .p (.list (.list .str)) a0), (3, .p I6 v16), (9, .p (.list (.list .str)) a0), (10, .p I6 ((a0.length : Int) : Int)), (11, .p I6 v17)], []⟩) k ⟨0, 0, hlo20, by kernel_rfl⟩ ?_
    clear hlo20
    rintro (_ | n) _ ⟨v16, v17, h, rfl⟩
    · cases h
    · rw [slices_Concat_string_string.l18] at h
      refine WpC.seq ?_
      refine rS {} [0, 3, 9, 10, 11, 12] [] hN (by kernel_rfl) (by kernel_rfl) ?_
      refine tnU ?_
      refine WpC.seq ?_
      refine tS (b := (decide (v17 < (a0.length : Int)))) (by kernel_rfl) (fun hc22 => ?_) (fun hc22 => ?_)
      · replace h := ite_t hc22 h
        refine WpC.conv (cS [.k [0, 3, 9, 10, 11] []] (by kernel_rfl) (by kernel_rfl)) (WpC.skip ?_)
        refine tnU ?_
        refine sqJ (fun st' => ∃ v23 : Int, slices_Concat_string_string.j24 k (slices_Concat_string_string.l18 k a0 n) a0 v17 v23 = some o20 ∧ st' = ⟨[(0, .p (.list (.list .str)) a0), (3, .p I6 v23), (9, .p (.list (.list .str)) a0), (10, .p I6 ((a0.length : Int) : Int)), (11, .p I6 v17)], []⟩) ?_ ?_
        · refine WpC.block ?_
          refine WpC.seq ?_
          obtain ⟨v25, hv25, h⟩ := bind_some h
          refine rS { its := [(0, .v (.list .str) hv25)] } [0, 3, 5, 9, 10, 11] [] hN (by kernel_rfl) (by kernel_rfl) ?_
          refine tnU ?_
          refine WpC.seq ?_
          refine rS {} [0, 3, 9, 10, 11] [] hN (by kernel_rfl) (by kernel_rfl) ?_
          refine tnU ?_
          refine WpC.seq ?_
          refine rS {} [0, 3, 9, 10, 11, 20] [] hN (by kernel_rfl) (by kernel_rfl) ?_
          refine tnU ?_
          refine tS (b := (decide ((IntKind.i64.wrap (v16 + (v25.length : Int))) < 0))) (by kernel_rfl) (fun hc26 => ?_) (fun hc26 => ?_)
          · replace h := ite_t hc26 h
            cases h
          · replace h := ite_f hc26 h
            refine WpC.conv (cS [.k [0, 3, 9, 10, 11] []] (by kernel_rfl) (by kernel_rfl)) (WpC.skip ?_)
            refine blockQ_normal ?_
            refine tnU ?_
            exact ⟨(IntKind.i64.wrap (v16 + (v25.length : Int))), h, by kernel_rfl⟩
        · rintro _ ⟨v23, h, rfl⟩
          unfold slices_Concat_string_string.j24 at h
          refine rS {} [0, 3, 9, 10, 11] [] hN (by kernel_rfl) (by kernel_rfl) ?_
          refine tnU ?_
          exact ⟨n, Nat.lt_succ_self n, v23, (IntKind.i64.wrap (v17 + 1)), h, by kernel_rfl⟩
      · replace h := ite_f hc22 h
        refine WpC.conv (cS [.k [0, 3] []] (by kernel_rfl) (by kernel_rfl)) (WpC.exit ?_)
        refine thenQ_exit ?_
        have hq := Option.some.inj h
        subst hq
        refine thenQ_exit ?_
        have h := hout21
        refine blockQ_hit ?_
        refine tnU ?_
        exact ⟨v16, h, by kernel_rfl⟩
  · rintro _ ⟨v1, h, rfl⟩
    unfold slices_Concat_string_string.j15 at h
    refine WpC.seq ?_
    obtain ⟨v2, hv2, h⟩ := bind_some h
    refine rS { its := [(1, .c (COk.ren (slices_Grow_string_string_m0.ok O hO k v1 v2 hv2) (fun n => if n = 60500 then 10001 else n) (injOn_of (by kernel_rfl))))] } [0, 6] [10001] hN (by kernel_rfl) (by kernel_rfl) ?_
    refine tnU ?_
    refine sqJ (fun st' => ∃ v3 : List (List UInt8), slices_Concat_string_string.j4 k v3 = some out ∧ st' = ⟨[(6, .vec 1006 1 0 v3.length)], [(1006, .row 9 .str v3 false)]⟩) ?_ ?_
    · refine WpC.seq ?_
      refine rS {} [6, 25, 26, 27] [10001] hN (by kernel_rfl) (by kernel_rfl) ?_
      refine tnU ?_
      refine WpC.block ?_
      obtain ⟨o9, hlo9, h⟩ := bind_some h
      have hout10 := h
      clear h
      refine WpC.conv (cS [.rn 10001 1006, .k [6, 25, 26, 27] [1006]] (by kernel_rfl) (by kernel_rfl)) ?_
      refine WpC.loop (U := Un) (fun n st' => ∃ v5 : List (List UInt8), ∃ v6 : Int, slices_Concat_string_string.l7 k a0 n v5 v6 = some o9 ∧ st' = ⟨[(6, .vec 1006 1 0 v5.length), (25, .p (.list (.list .str)) a0), (26, .p I6 ((a0.length : Int) : Int)), (27, .p I6 v6)], [(1006, .row 9 .str v5 false)]⟩) k ⟨v2, 0, hlo9, by kernel_rfl⟩ ?_
      clear hlo9
      rintro (_ | n) _ ⟨v5, v6, h, rfl⟩
      · cases h
      · rw [slices_Concat_string_string.l7] at h
        refine WpC.seq ?_
        refine rS {} [6, 25, 26, 27, 28] [1006] hN (by kernel_rfl) (by kernel_rfl) ?_
        refine tnU ?_
        refine WpC.seq ?_
        refine tS (b := (decide (v6 < (a0.length : Int)))) (by kernel_rfl) (fun hc11 => ?_) (fun hc11 => ?_)
        · replace h := ite_t hc11 h
          refine WpC.conv (cS [.k [6, 25, 26, 27] [1006]] (by kernel_rfl) (by kernel_rfl)) (WpC.skip ?_)
          refine tnU ?_
          refine WpC.seq ?_
          refine WpC.block ?_
          refine WpC.seq ?_
          obtain ⟨v12, hv12, h⟩ := bind_some h
          refine rS { its := [(0, .v (.list .str) hv12)] } [6, 8, 25, 26, 27] [1006] hN (by kernel_rfl) (by kernel_rfl) ?_
          refine tnU ?_
          obtain ⟨g13, h⟩ := if_some h
          refine rS { its := [(2, .g g13)] } [6, 25, 26, 27] [33] hN (by kernel_rfl) (by kernel_rfl) ?_
          refine blockQ_normal ?_
          refine tnU ?_
          refine rSC {} [6, 25, 26, 27] [33] hN (by kernel_rfl) (by kernel_rfl) (cS [.rn 33 1006, .k [6, 25, 26, 27] [1006]] (by kernel_rfl) (by kernel_rfl)) ?_
          refine tnU ?_
          exact ⟨n, Nat.lt_succ_self n, (v5 ++ v12), (IntKind.i64.wrap (v6 + 1)), h, by kernel_rfl⟩
        · replace h := ite_f hc11 h
          refine WpC.conv (cS [.k [6] [1006]] (by kernel_rfl) (by kernel_rfl)) (WpC.exit ?_)
          refine thenQ_exit ?_
          have hq := Option.some.inj h
          subst hq
          refine thenQ_exit ?_
          have h := hout10
          refine blockQ_hit ?_
          refine tnU ?_
          exact ⟨v5, h, by kernel_rfl⟩
    · rintro _ ⟨v3, h, rfl⟩
      unfold slices_Concat_string_string.j4 at h
      refine WpC.seq ?_
      refine rS {} [2] [1006] hN (by kernel_rfl) (by kernel_rfl) ?_
      refine tnU ?_
      refine WpC.conv (cS [.rn 1006 60500, .k [2] [60500]] (by kernel_rfl) (by kernel_rfl)) (WpC.ret ?_)
      have hq := Option.some.inj h
      subst hq
      exact eR (by kernel_rfl) (by kernel_rfl)

theorem names_Union.ok (O : Out) (hO : GOk O) (k : Nat) (a0 : List (List UInt8)) (a1 : List (List UInt8)) (out : List (List UInt8)) (h : names_Union.f k a0 a1 = some out) : COk Un O Tryz.prog 46 { ar := [.p (.list .str) a0, .p (.list .str) a1], r := .vec 60500 1 0 out.length, bs' := [(60500, .row 9 .str out false)], nn := [60500] } := by
  refine cok_of_wp Tryz.func46 rfl (k := 27) rfl (Nat.le_of_ble_eq_true rfl) (namesOk_of (by kernel_rfl)) ?_
  intro B hN
  refine WpC.conv (cvK (b := ⟨[(0, .p (.list .str) a0), (1, .p (.list .str) a1)], []⟩) [0, 1] [] (by kernel_rfl)) ?_
  unfold names_Union.f at h
  refine WpC.seq ?_
  refine rS {} [0, 1] [] hN (by kernel_rfl) (by kernel_rfl) ?_
  refine tnU ?_
  refine WpC.seq ?_
  refine rS {} [0, 1, 5] [] hN (by kernel_rfl) (by kernel_rfl) ?_
  refine tnU ?_
  refine sqJ (fun st' => ∃ v1 : List (List UInt8), names_Union.j2 k v1 = some out ∧ st' = ⟨[(5, .vec 1005 1 0 v1.length)], [(1005, .row 9 .str v1 false)]⟩) ?_ ?_
  · refine WpC.seq ?_
    obtain ⟨v3, hv3, h⟩ := bind_some h
    refine rS { its := [(3, .c (COk.ren (slices_Concat_string_string.ok O hO k [a0, a1] v3 hv3) (fun n => if n = 60500 then 10001 else n) (injOn_of (by kernel_rfl))))] } [5, 11, 12, 13] [10001] hN (by kernel_rfl) (by kernel_rfl) ?_
    refine tnU ?_
    refine WpC.block ?_
    obtain ⟨o8, hlo8, h⟩ := bind_some h
    have hout9 := h
    clear h
    refine WpC.conv (cS [.th 5 1005 9 .str, .k [5, 11, 12, 13] [1005, 10001]] (by kernel_rfl) (by kernel_rfl)) ?_
    refine WpC.loop (U := Un) (fun n st' => ∃ v4 : List (List UInt8), ∃ v5 : Int, names_Union.l6 k v3 n v4 v5 = some o8 ∧ st' = ⟨[(5, .vec 1005 1 0 v4.length), (11, .vec 10001 1 0 v3.length), (12, .p I6 ((v3.length : Int) : Int)), (13, .p I6 v5)], [(1005, .row 9 .str v4 false), (10001, .row 9 .str v3 false)]⟩) k ⟨[], 0, hlo8, by kernel_rfl⟩ ?_
    clear hlo8
    rintro (_ | n) _ ⟨v4, v5, h, rfl⟩
    · cases h
    · rw [names_Union.l6] at h
      refine WpC.seq ?_
      refine rS {} [5, 11, 12, 13, 14] [1005, 10001] hN (by kernel_rfl) (by kernel_rfl) ?_
      refine tnU ?_
      refine WpC.seq ?_
      refine tS (b := (decide (v5 < (v3.length : Int)))) (by kernel_rfl) (fun hc10 => ?_) (fun hc10 => ?_)
      · replace h := ite_t hc10 h
        refine WpC.conv (cS [.k [5, 11, 12, 13] [1005, 10001]] (by kernel_rfl) (by kernel_rfl)) (WpC.skip ?_)
        refine tnU ?_
        refine sqJ (fun st' => ∃ v11 : List (List UInt8), names_Union.j12 k (names_Union.l6 k v3 n) v3 v5 v11 = some o8 ∧ st' = ⟨[(5, .vec 1005 1 0 v11.length), (11, .vec 10001 1 0 v3.length), (12, .p I6 ((v3.length : Int) : Int)), (13, .p I6 v5)], [(1005, .row 9 .str v11 false), (10001, .row 9 .str v3 false)]⟩) ?_ ?_
        · refine WpC.block ?_
          refine WpC.seq ?_
          obtain ⟨g13, h⟩ := if_some h
          obtain ⟨v14, hv14, h⟩ := bind_some h
          refine rS { its := [(0, .g g13), (1, .v .str hv14)] } [5, 7, 11, 12, 13] [1005, 10001] hN (by kernel_rfl) (by kernel_rfl) ?_
          refine tnU ?_
          refine WpC.seq ?_
          obtain ⟨v15, hv15, h⟩ := bind_some h
          refine rS { its := [(2, .c (names_Has.ok O hO k v4 v14 v15 hv15))] } [5, 7, 11, 12, 13, 20] [1005, 10001] hN (by kernel_rfl) (by kernel_rfl) ?_
          refine tnU ?_
          refine tS (b := (!v15)) (by kernel_rfl) (fun hc16 => ?_) (fun hc16 => ?_)
          · replace h := ite_t hc16 h
            obtain ⟨g17, h⟩ := if_some h
            refine rSC { its := [(3, .g g17)] } [5, 11, 12, 13] [24, 10001] hN (by kernel_rfl) (by kernel_rfl) (cS [.rn 24 1005, .k [5, 11, 12, 13] [1005, 10001]] (by kernel_rfl) (by kernel_rfl)) ?_
            refine blockQ_normal ?_
            refine tnU ?_
            exact ⟨(v4 ++ [v14]), h, by kernel_rfl⟩
          · replace h := ite_f hc16 h
            refine WpC.conv (cS [.k [5, 11, 12, 13] [1005, 10001]] (by kernel_rfl) (by kernel_rfl)) (WpC.skip ?_)
            refine blockQ_normal ?_
            refine tnU ?_
            exact ⟨v4, h, by kernel_rfl⟩
        · rintro _ ⟨v11, h, rfl⟩
          unfold names_Union.j12 at h
          refine rS {} [5, 11, 12, 13] [1005, 10001] hN (by kernel_rfl) (by kernel_rfl) ?_
          refine tnU ?_
          exact ⟨n, Nat.lt_succ_self n, v11, (IntKind.i64.wrap (v5 + 1)), h, by kernel_rfl⟩
      · replace h := ite_f hc10 h
        refine WpC.conv (cS [.k [5] [1005]] (by kernel_rfl) (by kernel_rfl)) (WpC.exit ?_)
        refine thenQ_exit ?_
        have hq := Option.some.inj h
        subst hq
        refine thenQ_exit ?_
        have h := hout9
        refine blockQ_hit ?_
        refine tnU ?_
        exact ⟨v4, h, by kernel_rfl⟩
  · rintro _ ⟨v1, h, rfl⟩
    unfold names_Union.j2 at h
    refine WpC.seq ?_
    refine rS {} [4] [1005] hN (by kernel_rfl) (by kernel_rfl) ?_
    refine tnU ?_
    refine WpC.conv (cS [.rn 1005 60500, .k [4] [60500]] (by kernel_rfl) (by kernel_rfl)) (WpC.ret ?_)
    have hq := Option.some.inj h
    subst hq
    exact eR (by kernel_rfl) (by kernel_rfl)

theorem inst_At_m0.ok (O : Out) (hO : GOk O) (k : Nat) (a0 : List T_load_Rule) (a1 : List Int) (a2 : Int) (a3 : List UInt8) (out : T_inst_Inst × Bool × Nat) (h : inst_At_m0.f k a0 a1 a2 a3 = some out) : COk Un O Tryz.prog 42 { ar := [.loc 100000 0, .p I6 a2, .p .str a3], r := .tup [.p (.named 10) out.1, .p .bool out.2.1, .p .err out.2.2], bs := [(100000, .box [.vec 100001 7 0 a0.length, .vec 100002 1 0 a1.length]), (100001, .row 96 (.named 9) a0 false), (100002, .row 3 I6 a1 false)], bs' := [(100000, .box [.vec 100001 7 0 a0.length, .vec 100002 1 0 a1.length]), (100001, .row 96 (.named 9) a0 false), (100002, .row 3 I6 a1 false)] } := by
  refine cok_of_wp Tryz.func42 rfl (k := 58) rfl (Nat.le_of_ble_eq_true rfl) (namesOk_of (by kernel_rfl)) ?_
  intro B hN
  refine WpC.conv (cvK (b := ⟨[(0, .loc 100000 0), (1, .p I6 a2), (2, .p .str a3)], [(100000, .box [.vec 100001 7 0 a0.length, .vec 100002 1 0 a1.length]), (100001, .row 96 (.named 9) a0 false), (100002, .row 3 I6 a1 false)]⟩) [0, 1, 2] [100000, 100001, 100002] (by kernel_rfl)) ?_
  unfold inst_At_m0.f at h
  refine WpC.seq ?_
  refine rS { th := [(0, [(3, 10001, 9, .str)])] } [0, 1, 2, 6] [6, 10001, 100000, 100001, 100002] hN (by kernel_rfl) (by kernel_rfl) ?_
  refine tnU ?_
  refine WpC.seq ?_
  obtain ⟨v1, hv1, h⟩ := bind_some h
  refine rS { its := [(2, .c (COk.ren (table_Table_Rule_m0.ok O hO k a0 a1 a2 v1 hv1) (fun n => if n = 100000 then 100000 else if n = 100001 then 100001 else if n = 100002 then 100002 else n) (injOn_of (by kernel_rfl))))] } [0, 1, 2, 6, 9, 10] [6, 9, 10001, 100000, 100001, 100002] hN (by kernel_rfl) (by kernel_rfl) ?_
  refine tnU ?_
  refine WpC.seq ?_
  refine WpC.seq ?_
  refine rS {} [0, 1, 2, 6, 9, 21] [6, 9, 10001, 100000, 100001, 100002] hN (by kernel_rfl) (by kernel_rfl) ?_
  refine tnU ?_
  refine tS (b := (!v1.2)) (by kernel_rfl) (fun hc2 => ?_) (fun hc2 => ?_)
  · replace h := ite_t hc2 h
    refine WpC.seq ?_
    refine rS { th := [(1, [(3, 10002, 9, .str)])] } [6, 7, 8] [6, 10002, 100000, 100001, 100002] hN (by kernel_rfl) (by kernel_rfl) ?_
    refine tnU ?_
    refine WpC.conv (cS [.uh 6 3 (show ((0) : Nat) = (0) from (by first | rfl | (simp only [upd_length, List.length_replicate, List.length_append]; done) | (simp only [upd_length, List.length_replicate, List.length_append] at *; omega) | omega)), .k [6, 7, 8] [6, 100000, 100001, 100002], .nE 8, .k [6, 7, 8] [6, 100000, 100001, 100002]] (by kernel_rfl) (by kernel_rfl)) (WpC.ret ?_)
    refine thenQ_ret ?_
    have hq := Option.some.inj h
    subst hq
    exact eR (by kernel_rfl) (by kernel_rfl)
  · replace h := ite_f hc2 h
    refine WpC.conv (cS [.k [0, 1, 2, 6, 9] [6, 9, 10001, 100000, 100001, 100002]] (by kernel_rfl) (by kernel_rfl)) (WpC.skip ?_)
    refine tnU ?_
    refine WpC.seq ?_
    obtain ⟨v3, hv3, h⟩ := bind_some h
    obtain ⟨v4, hv4, h⟩ := bind_some h
    refine rA { its := [(3, .c (COk.ren (table_Table_Kind_m0.ok O hO k a0 a1 a2 v3 hv3) (fun n => if n = 100000 then 100000 else if n = 100001 then 100001 else if n = 100002 then 100002 else n) (injOn_of (by kernel_rfl)))), (5, .c (inst_raw.ok O hO k (T_load_Rule.mk v1.1.f_Targets v1.1.f_Prereqs (T_attr_Attr.mk v1.1.f_Attr.f_Flags v1.1.f_Attr.f_Prog) v1.1.f_Recipe v1.1.f_File v1.1.f_Line) v3 a3 v4 hv4))], th := [(9, [(3, 10003, 9, .str)])] } [1, 6, 11, 12] [6, 11, 10001, 100000, 100001, 100002] hN (by kernel_rfl) (by kernel_rfl) (by kernel_rfl) ?_
    refine tnU ?_
    refine WpC.seq ?_
    refine WpC.seq ?_
    refine rS {} [1, 6, 11, 33] [6, 11, 10001, 100000, 100001, 100002] hN (by kernel_rfl) (by kernel_rfl) ?_
    refine tnU ?_
    refine tS (b := (!v4.2)) (by kernel_rfl) (fun hc5 => ?_) (fun hc5 => ?_)
    · replace h := ite_t hc5 h
      refine WpC.seq ?_
      refine rS { th := [(1, [(3, 10004, 9, .str)])] } [6, 7, 8] [6, 10004, 100000, 100001, 100002] hN (by kernel_rfl) (by kernel_rfl) ?_
      refine tnU ?_
      refine WpC.conv (cS [.uh 6 3 (show ((0) : Nat) = (0) from (by first | rfl | (simp only [upd_length, List.length_replicate, List.length_append]; done) | (simp only [upd_length, List.length_replicate, List.length_append] at *; omega) | omega)), .k [6, 7, 8] [6, 100000, 100001, 100002], .nE 8, .k [6, 7, 8] [6, 100000, 100001, 100002]] (by kernel_rfl) (by kernel_rfl)) (WpC.ret ?_)
      refine thenQ_ret ?_
      have hq := Option.some.inj h
      subst hq
      exact eR (by kernel_rfl) (by kernel_rfl)
    · replace h := ite_f hc5 h
      refine WpC.conv (cS [.k [1, 6, 11] [6, 11, 10001, 100000, 100001, 100002]] (by kernel_rfl) (by kernel_rfl)) (WpC.skip ?_)
      refine tnU ?_
      refine WpC.seq ?_
      refine rS {} [1, 6, 11, 13] [6, 11, 10001, 100000, 100001, 100002] hN (by kernel_rfl) (by kernel_rfl) ?_
      refine tnU ?_
      refine sqJ (fun st' => inst_At_m0.j8 k a0 a1 a2 v4 = some out ∧ st' = ⟨[(1, .p I6 a2), (6, .loc 6 0), (11, .loc 11 0)], [(6, .box [.p I6 (0 : Int), .p .str ([] : List UInt8), .p (.list .str) ([] : List (List UInt8)), .vec 10001 1 0 0, .p (.list .str) ([] : List (List UInt8))]), (11, .box [.p I6 v4.1.f_Rule, .p .str v4.1.f_Stem, .p (.list .str) v4.1.f_Subs, .p (.list .str) v4.1.f_Targets, .p (.list .str) v4.1.f_Prereqs]), (10001, .row 9 .str [] false), (100000, .box [.vec 100001 7 0 a0.length, .vec 100002 1 0 a1.length]), (100001, .row 96 (.named 9) a0 false), (100002, .row 3 I6 a1 false)]⟩) ?_ ?_
      · refine sqJ (fun st' => ∃ v9 : Bool, inst_At_m0.j11 k a0 a1 a2 v4 v9 = some out ∧ st' = ⟨[(1, .p I6 a2), (6, .loc 6 0), (11, .loc 11 0), (44, .p .bool v9)], [(6, .box [.p I6 (0 : Int), .p .str ([] : List UInt8), .p (.list .str) ([] : List (List UInt8)), .vec 10001 1 0 0, .p (.list .str) ([] : List (List UInt8))]), (11, .box [.p I6 v4.1.f_Rule, .p .str v4.1.f_Stem, .p (.list .str) v4.1.f_Subs, .p (.list .str) v4.1.f_Targets, .p (.list .str) v4.1.f_Prereqs]), (10001, .row 9 .str [] false), (100000, .box [.vec 100001 7 0 a0.length, .vec 100002 1 0 a1.length]), (100001, .row 96 (.named 9) a0 false), (100002, .row 3 I6 a1 false)]⟩) ?_ ?_
        · obtain ⟨v12, hv12, h⟩ := bind_some h
          rcases bool_cases v12 with hc13 | hc13
          · replace h := ite_t hc13 h
            refine rS { its := [(3, .c (slices_ContainsFunc_string_string_m2.ok O hO k v4.1.f_Targets v12 hv12))], kn := [(39, .t hc13)] } [1, 6, 11, 44] [6, 11, 10001, 100000, 100001, 100002] hN (by kernel_rfl) (by kernel_rfl) ?_
            refine tnU ?_
            exact ⟨true, h, by kernel_rfl⟩
          · replace h := ite_f hc13 h
            obtain ⟨v14, hv14, h⟩ := bind_some h
            refine rS { its := [(3, .c (slices_ContainsFunc_string_string_m2.ok O hO k v4.1.f_Targets v12 hv12)), (8, .c (slices_ContainsFunc_string_string_m2.ok O hO k v4.1.f_Prereqs v14 hv14))], kn := [(39, .f hc13)] } [1, 6, 11, 44] [6, 11, 10001, 100000, 100001, 100002] hN (by kernel_rfl) (by kernel_rfl) ?_
            refine tnU ?_
            exact ⟨v14, h, by kernel_rfl⟩
        · rintro _ ⟨v9, h, rfl⟩
          unfold inst_At_m0.j11 at h
          refine tS (b := v9) (by kernel_rfl) (fun hc10 => ?_) (fun hc10 => ?_)
          · replace h := ite_t hc10 h
            refine WpC.seq ?_
            refine rA { its := [(1, .e 1 (sok_loadG (U := Un) (t := .err) (rs := []) rfl rfl ty_32 rfl rfl (hO.var 3 4 rfl) (fun S w => .err 3)))], th := [(2, [(3, 10007, 9, .str)])] } [6, 7, 8] [6, 10007, 100000, 100001, 100002] hN (by kernel_rfl) (by kernel_rfl) (by kernel_rfl) ?_
            refine tnU ?_
            refine WpC.conv (cS [.uh 6 3 (show ((0) : Nat) = (0) from (by first | rfl | (simp only [upd_length, List.length_replicate, List.length_append]; done) | (simp only [upd_length, List.length_replicate, List.length_append] at *; omega) | omega)), .k [6, 7, 8] [6, 100000, 100001, 100002]] (by kernel_rfl) (by kernel_rfl)) (WpC.ret ?_)
            refine thenQ_ret ?_
            have hq := Option.some.inj h
            subst hq
            exact eR (by kernel_rfl) (by kernel_rfl)
          · replace h := ite_f hc10 h
            refine WpC.conv (cS [.k [1, 6, 11] [6, 11, 10001, 100000, 100001, 100002]] (by kernel_rfl) (by kernel_rfl)) (WpC.skip ?_)
            refine tnU ?_
            exact ⟨h, by kernel_rfl⟩
      · rintro _ ⟨h, rfl⟩
        unfold inst_At_m0.j8 at h
        refine WpC.seq ?_
        obtain ⟨v6, hv6, h⟩ := bind_some h
        obtain ⟨v7, hv7, h⟩ := bind_some h
        refine rA { its := [(3, .c (COk.ren (names_Union.ok O hO k v4.1.f_Targets [] v6 hv6) (fun n => if n = 60500 then 10005 else n) (injOn_of (by kernel_rfl)))), (6, .c (COk.ren (names_Union.ok O hO k v4.1.f_Prereqs [] v7 hv7) (fun n => if n = 60500 then 10006 else n) (injOn_of (by kernel_rfl))))] } [6, 11] [6, 11, 10001, 10005, 10006, 100000, 100001, 100002] hN (by kernel_rfl) (by kernel_rfl) (by kernel_rfl) ?_
        refine tnU ?_
        refine WpC.seq ?_
        refine rS {} [6, 7, 8] [6, 10005, 10006, 100000, 100001, 100002] hN (by kernel_rfl) (by kernel_rfl) ?_
        refine tnU ?_
        refine WpC.conv (cS [.fu 6 3, .k [6, 7, 8] [6, 10006, 100000, 100001, 100002], .fu 6 4, .k [6, 7, 8] [6, 100000, 100001, 100002], .nE 8, .k [6, 7, 8] [6, 100000, 100001, 100002]] (by kernel_rfl) (by kernel_rfl)) (WpC.ret ?_)
        have hq := Option.some.inj h
        subst hq
        exact eR (by kernel_rfl) (by kernel_rfl)

theorem millwrightlaw22_alive.ok (O : Out) (hO : GOk O) (k : Nat) (out : Bool) (h : millwrightlaw22_alive.f k = some out) : COk Un O Tryz.prog 16 { ar := [], r := .p .bool out } := by
  refine cok_of_wp Tryz.func16 rfl (k := 48) rfl (Nat.le_of_ble_eq_true rfl) (namesOk_pure rfl rfl rfl rfl) ?_
  intro B hN
  refine WpC.conv (cvK (b := ⟨[], []⟩) [] [] (by kernel_rfl)) ?_
  unfold millwrightlaw22_alive.f at h
  refine WpC.seq ?_
  refine rS {} [] [] hN (by kernel_rfl) (by kernel_rfl) ?_
  refine tnU ?_
  refine WpC.seq ?_
  obtain ⟨v1, hv1, h⟩ := bind_some h
  refine rS { its := [(4, .c (COk.ren (table_New.ok O hO k [(T_load_Rule.mk [([37, 46, 111] : List UInt8)] [([37, 46, 99] : List UInt8)] (T_attr_Attr.mk 0 []) [] [] 0)] v1 hv1) (fun n => if n = 60500 then 10001 else if n = 60501 then 10002 else if n = 60502 then 10003 else n) (injOn_of (by kernel_rfl))))], fz := [0, 1] } [1, 2] [10001, 10002, 10003] hN (by kernel_rfl) (by kernel_rfl) ?_
  refine tnU ?_
  refine sqJ (fun st' => millwrightlaw22_alive.j8 k v1 = some out ∧ st' = ⟨[(1, .loc 10001 0)], [(10001, .box [.vec 10002 7 0 v1.1.length, .vec 10003 1 0 v1.2.1.length]), (10002, .row 96 (.named 9) v1.1 false), (10003, .row 3 I6 v1.2.1 false)]⟩) ?_ ?_
  · refine sqJ (fun st' => ∃ v9 : Bool, millwrightlaw22_alive.j11 k v1 v9 = some out ∧ st' = ⟨[(1, .loc 10001 0), (18, .p .bool v9)], [(10001, .box [.vec 10002 7 0 v1.1.length, .vec 10003 1 0 v1.2.1.length]), (10002, .row 96 (.named 9) v1.1 false), (10003, .row 3 I6 v1.2.1 false)]⟩) ?_ ?_
    · rcases bool_cases (!(v1.2.2 == 0)) with hc12 | hc12
      · replace h := ite_t hc12 h
        refine rS { kn := [(15, .t hc12)] } [1, 18] [10001, 10002, 10003] hN (by kernel_rfl) (by kernel_rfl) ?_
        refine tnU ?_
        exact ⟨true, h, by kernel_rfl⟩
      · replace h := ite_f hc12 h
        refine rS { kn := [(15, .f hc12)] } [1, 18] [10001, 10002, 10003] hN (by kernel_rfl) (by kernel_rfl) ?_
        refine tnU ?_
        exact ⟨false, h, by kernel_rfl⟩
    · rintro _ ⟨v9, h, rfl⟩
      unfold millwrightlaw22_alive.j11 at h
      refine tS (b := v9) (by kernel_rfl) (fun hc10 => ?_) (fun hc10 => ?_)
      · replace h := ite_t hc10 h
        refine WpC.seq ?_
        refine rS {} [0] [] hN (by kernel_rfl) (by kernel_rfl) ?_
        refine tnU ?_
        refine WpC.ret ?_
        refine thenQ_ret ?_
        have hq := Option.some.inj h
        subst hq
        exact eR (by kernel_rfl) (by kernel_rfl)
      · replace h := ite_f hc10 h
        refine WpC.conv (cS [.k [1] [10001, 10002, 10003]] (by kernel_rfl) (by kernel_rfl)) (WpC.skip ?_)
        refine tnU ?_
        exact ⟨h, by kernel_rfl⟩
  · rintro _ ⟨h, rfl⟩
    unfold millwrightlaw22_alive.j8 at h
    refine WpC.seq ?_
    obtain ⟨v2, hv2, h⟩ := bind_some h
    refine rS { its := [(1, .c (COk.ren (inst_At_m0.ok O hO k v1.1 v1.2.1 0 ([120, 46, 111] : List UInt8) v2 hv2) (fun n => if n = 100000 then 10001 else if n = 100001 then 10002 else if n = 100002 then 10003 else n) (injOn_of (by kernel_rfl))))], th := [(6, [(3, 10004, 9, .str)])] } [2, 3, 4] [3] hN (by kernel_rfl) (by kernel_rfl) ?_
    refine tnU ?_
    refine WpC.seq ?_
    rcases bool_cases (v2.2.2 == 0) with hc3 | hc3
    · replace h := ite_t hc3 h
      rcases bool_cases v2.2.1 with hc4 | hc4
      · replace h := ite_t hc4 h
        rcases bool_cases (v2.1.f_Stem == ([120] : List UInt8)) with hc5 | hc5
        · replace h := ite_t hc5 h
          rcases bool_cases ((v2.1.f_Prereqs.length : Int) == 1) with hc6 | hc6
          · replace h := ite_t hc6 h
            obtain ⟨v7, hv7, h⟩ := bind_some h
            refine rS { its := [(19, .v .str hv7)], kn := [(27, .t hc3), (30, .t hc4), (35, .t hc5), (41, .t hc6)] } [0] [] hN (by kernel_rfl) (by kernel_rfl) ?_
            refine tnU ?_
            refine WpC.ret ?_
            have hq := Option.some.inj h
            subst hq
            exact eR (by kernel_rfl) (by kernel_rfl)
          · replace h := ite_f hc6 h
            refine rS { kn := [(27, .t hc3), (30, .t hc4), (35, .t hc5), (41, .f hc6)] } [0] [] hN (by kernel_rfl) (by kernel_rfl) ?_
            refine tnU ?_
            refine WpC.ret ?_
            have hq := Option.some.inj h
            subst hq
            exact eR (by kernel_rfl) (by kernel_rfl)
        · replace h := ite_f hc5 h
          refine rS { kn := [(27, .t hc3), (30, .t hc4), (35, .f hc5)] } [0] [] hN (by kernel_rfl) (by kernel_rfl) ?_
          refine tnU ?_
          refine WpC.ret ?_
          have hq := Option.some.inj h
          subst hq
          exact eR (by kernel_rfl) (by kernel_rfl)
      · replace h := ite_f hc4 h
        refine rS { kn := [(27, .t hc3), (30, .f hc4)] } [0] [] hN (by kernel_rfl) (by kernel_rfl) ?_
        refine tnU ?_
        refine WpC.ret ?_
        have hq := Option.some.inj h
        subst hq
        exact eR (by kernel_rfl) (by kernel_rfl)
    · replace h := ite_f hc3 h
      refine rS { kn := [(27, .f hc3)] } [0] [] hN (by kernel_rfl) (by kernel_rfl) ?_
      refine tnU ?_
      refine WpC.ret ?_
      have hq := Option.some.inj h
      subst hq
      exact eR (by kernel_rfl) (by kernel_rfl)

theorem millwrightnum_Long.ok (O : Out) (hO : GOk O) (k : Nat) (a0 : List (List UInt8)) (a1 : Int) (a2 : Int) (out : Bool) (h : millwrightnum_Long.f k a0 a1 a2 = some out) : COk Un O Tryz.prog 17 { ar := [.p (.list .str) a0, .p I6 a1, .p I6 a2], r := .p .bool out } := by
  refine cok_of_wp Tryz.func17 rfl (k := 24) rfl (Nat.le_of_ble_eq_true rfl) (namesOk_pure rfl rfl rfl rfl) ?_
  intro B hN
  refine WpC.conv (cvK (b := ⟨[(0, .p (.list .str) a0), (1, .p I6 a1), (2, .p I6 a2)], []⟩) [0, 1, 2] [] (by kernel_rfl)) ?_
  unfold millwrightnum_Long.f at h
  refine WpC.seq ?_
  refine rS {} [0, 1, 2] [] hN (by kernel_rfl) (by kernel_rfl) ?_
  refine tnU ?_
  refine WpC.seq ?_
  refine WpC.seq ?_
  refine rS {} [0, 2, 12] [] hN (by kernel_rfl) (by kernel_rfl) ?_
  refine tnU ?_
  refine tS (b := (decide ((a0.length : Int) > a1))) (by kernel_rfl) (fun hc1 => ?_) (fun hc1 => ?_)
  · replace h := ite_t hc1 h
    refine WpC.seq ?_
    refine rS {} [6] [] hN (by kernel_rfl) (by kernel_rfl) ?_
    refine tnU ?_
    refine WpC.ret ?_
    refine thenQ_ret ?_
    have hq := Option.some.inj h
    subst hq
    exact eR (by kernel_rfl) (by kernel_rfl)
  · replace h := ite_f hc1 h
    refine WpC.conv (cS [.k [0, 2] []] (by kernel_rfl) (by kernel_rfl)) (WpC.skip ?_)
    refine tnU ?_
    refine sqJ (fun st' => millwrightnum_Long.j2 k = some out ∧ st' = ⟨[], []⟩) ?_ ?_
    · refine WpC.seq ?_
      refine rS {} [2, 13, 14, 15] [] hN (by kernel_rfl) (by kernel_rfl) ?_
      refine tnU ?_
      refine WpC.block ?_
      obtain ⟨o5, hlo5, h⟩ := bind_some h
      have hout6 := h
      clear h
      refine WpC.loop (U := Un) (fun n st' => ∃ v3 : Int, millwrightnum_Long.l4 k a0 a2 n v3 = some o5 ∧ st' = ⟨[(2, .p I6 a2), (13, .p (.list .str) a0), (14, .p I6 ((a0.length : Int) : Int)), (15, .p I6 v3)], []⟩) k ⟨0, hlo5, by kernel_rfl⟩ ?_
      clear hlo5
      rintro (_ | n) _ ⟨v3, h, rfl⟩
      · cases h
      · rw [millwrightnum_Long.l4] at h
        refine WpC.seq ?_
        refine rS {} [2, 13, 14, 15, 16] [] hN (by kernel_rfl) (by kernel_rfl) ?_
        refine tnU ?_
        refine WpC.seq ?_
        refine tS (b := (decide (v3 < (a0.length : Int)))) (by kernel_rfl) (fun hc7 => ?_) (fun hc7 => ?_)
        · replace h := ite_t hc7 h
          refine WpC.conv (cS [.k [2, 13, 14, 15] []] (by kernel_rfl) (by kernel_rfl)) (WpC.skip ?_)
          refine tnU ?_
          refine WpC.seq ?_
          refine WpC.block ?_
          refine WpC.seq ?_
          obtain ⟨v8, hv8, h⟩ := bind_some h
          refine rS { its := [(0, .v .str hv8)] } [2, 8, 13, 14, 15] [] hN (by kernel_rfl) (by kernel_rfl) ?_
          refine tnU ?_
          refine WpC.seq ?_
          refine rS {} [2, 13, 14, 15, 22] [] hN (by kernel_rfl) (by kernel_rfl) ?_
          refine tnU ?_
          refine tS (b := (decide ((v8.length : Int) > a2))) (by kernel_rfl) (fun hc9 => ?_) (fun hc9 => ?_)
          · replace h := ite_t hc9 h
            refine WpC.seq ?_
            refine rS {} [6] [] hN (by kernel_rfl) (by kernel_rfl) ?_
            refine tnU ?_
            refine WpC.ret ?_
            refine blockQ_ret ?_
            refine thenQ_ret ?_
            have hq := Option.some.inj h
            subst hq
            refine thenQ_ret ?_
            have h := hout6
            refine blockQ_ret ?_
            refine thenQ_ret ?_
            have hq := Option.some.inj h
            subst hq
            exact eR (by kernel_rfl) (by kernel_rfl)
          · replace h := ite_f hc9 h
            refine WpC.conv (cS [.k [2, 13, 14, 15] []] (by kernel_rfl) (by kernel_rfl)) (WpC.skip ?_)
            refine blockQ_normal ?_
            refine tnU ?_
            refine rS {} [2, 13, 14, 15] [] hN (by kernel_rfl) (by kernel_rfl) ?_
            refine tnU ?_
            exact ⟨n, Nat.lt_succ_self n, (IntKind.i64.wrap (v3 + 1)), h, by kernel_rfl⟩
        · replace h := ite_f hc7 h
          refine WpC.conv (cS [.k [] []] (by kernel_rfl) (by kernel_rfl)) (WpC.exit ?_)
          refine thenQ_exit ?_
          have hq := Option.some.inj h
          subst hq
          refine thenQ_exit ?_
          have h := hout6
          refine blockQ_hit ?_
          refine tnU ?_
          exact ⟨h, by kernel_rfl⟩
    · rintro _ ⟨h, rfl⟩
      unfold millwrightnum_Long.j2 at h
      refine WpC.seq ?_
      refine rS {} [6] [] hN (by kernel_rfl) (by kernel_rfl) ?_
      refine tnU ?_
      refine WpC.ret ?_
      have hq := Option.some.inj h
      subst hq
      exact eR (by kernel_rfl) (by kernel_rfl)

theorem millwrightnum_Texts.ok (O : Out) (hO : GOk O) (k : Nat) (a0 : List (List UInt8)) (out : (List (List UInt8)) × Nat) (h : millwrightnum_Texts.f k a0 = some out) : COk Un O Tryz.prog 18 { ar := [.p (.list .str) a0], r := .vec 60500 1 0 out.2, bs' := [(60500, .row 9 .str out.1 true)], nn := [60500] } := by
  refine cok_of_wp Tryz.func18 rfl (k := 16) rfl (Nat.le_of_ble_eq_true rfl) (namesOk_of (by kernel_rfl)) ?_
  intro B hN
  refine WpC.conv (cvK (b := ⟨[(0, .p (.list .str) a0)], []⟩) [0] [] (by kernel_rfl)) ?_
  unfold millwrightnum_Texts.f at h
  refine WpC.seq ?_
  refine rS {} [0] [] hN (by kernel_rfl) (by kernel_rfl) ?_
  refine tnU ?_
  refine WpC.seq ?_
  obtain ⟨g1, h⟩ := if_some h
  obtain ⟨g2, h⟩ := if_some h
  obtain ⟨g3, h⟩ := if_some h
  refine rS { its := [(3, .g g1), (5, .e 5 (sok_appendPart (U := Un) (t := .str) (rs := [(7, .vec 7 1 0 ((0 : Int).toNat)), (8, .p (.list .str) a0)]) (vw := []) (xs := (List.replicate (IntKind.i64.wrap ((a0.length : Int) + 3)).toNat ([] : List UInt8))) (ys := a0) (fx := true) rfl rfl rfl row_30 o0 o1 (.same _) (by simp) g2.1 g2.2)), (7, .e 7 (sok_appendPart (U := Un) (t := .str) (rs := [(9, .vec 7 1 0 ((0 : Int).toNat + a0.length)), (10, .vec 10 1 0 ([([1] : List UInt8), ([2] : List UInt8), ([3] : List UInt8)].length))]) (vw := [(10, .row 9 .str [([1] : List UInt8), ([2] : List UInt8), ([3] : List UInt8)] true)]) (xs := ((List.replicate (IntKind.i64.wrap ((a0.length : Int) + 3)).toNat ([] : List UInt8)).take ((0 : Int).toNat) ++ a0 ++ (List.replicate (IntKind.i64.wrap ((a0.length : Int) + 3)).toNat ([] : List UInt8)).drop ((0 : Int).toNat + a0.length))) (ys := [([1] : List UInt8), ([2] : List UInt8), ([3] : List UInt8)]) (fx := true) rfl rfl rfl row_30 o0 o1 (.whole (.head _)) (by simp) g3.1 g3.2))] } [0, 3] [7] hN (by kernel_rfl) (by kernel_rfl) ?_
  refine tnU ?_
  refine WpC.seq ?_
  obtain ⟨g4, h⟩ := if_some h
  refine rS { its := [(3, .g g4)] } [2] [7] hN (by kernel_rfl) (by kernel_rfl) ?_
  refine tnU ?_
  refine WpC.conv (cS [.rn 7 60500, .k [2] [60500]] (by kernel_rfl) (by kernel_rfl)) (WpC.ret ?_)
  have hq := Option.some.inj h
  subst hq
  exact eR (by kernel_rfl) (by kernel_rfl)

theorem inst_figure.ok (O : Out) (hO : GOk O) (k : Nat) (a0 : Int) (out : Int) (h : inst_figure.f k a0 = some out) : COk Un O Tryz.prog 43 { ar := [.p (.int .u8) a0], r := .p I6 out } := by
  refine cok_of_wp Tryz.func43 rfl (k := 12) rfl (Nat.le_of_ble_eq_true rfl) (namesOk_pure rfl rfl rfl rfl) ?_
  intro B hN
  refine WpC.conv (cvK (b := ⟨[(0, .p (.int .u8) a0)], []⟩) [0] [] (by kernel_rfl)) ?_
  unfold inst_figure.f at h
  refine WpC.seq ?_
  refine rS {} [0] [] hN (by kernel_rfl) (by kernel_rfl) ?_
  refine tnU ?_
  refine sqJ (fun st' => inst_figure.j1 k a0 = some out ∧ st' = ⟨[(0, .p (.int .u8) a0)], []⟩) ?_ ?_
  · refine sqJ (fun st' => ∃ v2 : Bool, inst_figure.j4 k a0 v2 = some out ∧ st' = ⟨[(0, .p (.int .u8) a0), (8, .p .bool v2)], []⟩) ?_ ?_
    · rcases bool_cases (decide (a0 < 48)) with hc5 | hc5
      · replace h := ite_t hc5 h
        refine rS { kn := [(5, .t hc5)] } [0, 8] [] hN (by kernel_rfl) (by kernel_rfl) ?_
        refine tnU ?_
        exact ⟨true, h, by kernel_rfl⟩
      · replace h := ite_f hc5 h
        refine rS { kn := [(5, .f hc5)] } [0, 8] [] hN (by kernel_rfl) (by kernel_rfl) ?_
        refine tnU ?_
        exact ⟨(decide (a0 > 57)), h, by kernel_rfl⟩
    · rintro _ ⟨v2, h, rfl⟩
      unfold inst_figure.j4 at h
      refine tS (b := v2) (by kernel_rfl) (fun hc3 => ?_) (fun hc3 => ?_)
      · replace h := ite_t hc3 h
        refine WpC.seq ?_
        refine rS {} [2] [] hN (by kernel_rfl) (by kernel_rfl) ?_
        refine tnU ?_
        refine WpC.ret ?_
        refine thenQ_ret ?_
        have hq := Option.some.inj h
        subst hq
        exact eR (by kernel_rfl) (by kernel_rfl)
      · replace h := ite_f hc3 h
        refine WpC.conv (cS [.k [0] []] (by kernel_rfl) (by kernel_rfl)) (WpC.skip ?_)
        refine tnU ?_
        exact ⟨h, by kernel_rfl⟩
  · rintro _ ⟨h, rfl⟩
    unfold inst_figure.j1 at h
    refine WpC.seq ?_
    refine rS {} [2] [] hN (by kernel_rfl) (by kernel_rfl) ?_
    refine tnU ?_
    refine WpC.ret ?_
    have hq := Option.some.inj h
    subst hq
    exact eR (by kernel_rfl) (by kernel_rfl)

theorem inst_Put.ok (O : Out) (hO : GOk O) (k : Nat) (a0 : List UInt8) (a1 : List (List UInt8)) (out : List UInt8) (h : inst_Put.f k a0 a1 = some out) : COk Un O Tryz.prog 19 { ar := [.p .str a0, .p (.list .str) a1], r := .p .str out } := by
  refine cok_of_wp Tryz.func19 rfl (k := 57) rfl (Nat.le_of_ble_eq_true rfl) (namesOk_pure rfl rfl rfl rfl) ?_
  intro B hN
  refine WpC.conv (cvK (b := ⟨[(0, .p .str a0), (1, .p (.list .str) a1)], []⟩) [0, 1] [] (by kernel_rfl)) ?_
  unfold inst_Put.f at h
  refine WpC.seq ?_
  refine rS {} [0, 1] [] hN (by kernel_rfl) (by kernel_rfl) ?_
  refine tnU ?_
  refine WpC.seq ?_
  refine rS {} [0, 1, 5] [] hN (by kernel_rfl) (by kernel_rfl) ?_
  refine tnU ?_
  refine sqJ (fun st' => ∃ v1 : List Int, inst_Put.j2 k v1 = some out ∧ st' = ⟨[(5, .vec 1005 1 0 v1.length)], [(1005, .row 5 (.int .u8) v1 false)]⟩) ?_ ?_
  · refine WpC.seq ?_
    refine rS {} [0, 1, 5, 6] [] hN (by kernel_rfl) (by kernel_rfl) ?_
    refine tnU ?_
    refine WpC.block ?_
    obtain ⟨o7, hlo7, h⟩ := bind_some h
    have hout8 := h
    clear h
    refine WpC.conv (cS [.th 5 1005 5 (.int .u8), .k [0, 1, 5, 6] [1005]] (by kernel_rfl) (by kernel_rfl)) ?_
    refine WpC.loop (U := Un) (fun n st' => ∃ v3 : List Int, ∃ v4 : Int, inst_Put.l5 k a0 a1 n v3 v4 = some o7 ∧ st' = ⟨[(0, .p .str a0), (1, .p (.list .str) a1), (5, .vec 1005 1 0 v3.length), (6, .p I6 v4)], [(1005, .row 5 (.int .u8) v3 false)]⟩) k ⟨[], 0, hlo7, by kernel_rfl⟩ ?_
    clear hlo7
    rintro (_ | n) _ ⟨v3, v4, h, rfl⟩
    · cases h
    · rw [inst_Put.l5] at h
      refine WpC.seq ?_
      refine WpC.seq ?_
      refine rS {} [0, 1, 5, 6, 11] [1005] hN (by kernel_rfl) (by kernel_rfl) ?_
      refine tnU ?_
      refine tS (b := (decide (v4 < (a0.length : Int)))) (by kernel_rfl) (fun hc9 => ?_) (fun hc9 => ?_)
      · replace h := ite_t hc9 h
        refine WpC.conv (cS [.k [0, 1, 5, 6] [1005]] (by kernel_rfl) (by kernel_rfl)) (WpC.skip ?_)
        refine tnU ?_
        refine sqJ (fun st' => ∃ v10 : List Int, ∃ v11 : Int, inst_Put.j12 k (inst_Put.l5 k a0 a1 n) a0 a1 v10 v11 = some o7 ∧ st' = ⟨[(0, .p .str a0), (1, .p (.list .str) a1), (5, .vec 1005 1 0 v10.length), (6, .p I6 v11)], [(1005, .row 5 (.int .u8) v10 false)]⟩) ?_ ?_
        · refine WpC.block ?_
          refine sqJ (fun st' => inst_Put.j18 k (inst_Put.l5 k a0 a1 n) a0 a1 v3 v4 = some o7 ∧ st' = ⟨[(0, .p .str a0), (1, .p (.list .str) a1), (5, .vec 1005 1 0 v3.length), (6, .p I6 v4)], [(1005, .row 5 (.int .u8) v3 false)]⟩) ?_ ?_
          · refine sqJ (fun st' => ∃ v19 : Bool, inst_Put.j23 k (inst_Put.l5 k a0 a1 n) a0 a1 v3 v4 v19 = some o7 ∧ st' = ⟨[(0, .p .str a0), (1, .p (.list .str) a1), (5, .vec 1005 1 0 v3.length), (6, .p I6 v4), (32, .p .bool v19)], [(1005, .row 5 (.int .u8) v3 false)]⟩) ?_ ?_
            · obtain ⟨v24, hv24, h⟩ := bind_some h
              rcases bool_cases ((v24.toNat : Int) != 92) with hc25 | hc25
              · replace h := ite_t hc25 h
                refine rS { its := [(2, .u hv24)], kn := [(18, .t hc25)] } [0, 1, 5, 6, 32] [1005] hN (by kernel_rfl) (by kernel_rfl) ?_
                refine tnU ?_
                exact ⟨true, h, by kernel_rfl⟩
              · replace h := ite_f hc25 h
                rcases bool_cases ((IntKind.i64.wrap (v4 + 1)) == (a0.length : Int)) with hc26 | hc26
                · replace h := ite_t hc26 h
                  refine rS { its := [(2, .u hv24)], kn := [(18, .f hc25), (25, .t hc26)] } [0, 1, 5, 6, 32] [1005] hN (by kernel_rfl) (by kernel_rfl) ?_
                  refine tnU ?_
                  exact ⟨true, h, by kernel_rfl⟩
                · replace h := ite_f hc26 h
                  obtain ⟨v27, hv27, h⟩ := bind_some h
                  obtain ⟨v28, hv28, h⟩ := bind_some h
                  refine rS { its := [(2, .u hv24), (15, .u hv27), (16, .c (inst_figure.ok O hO k (v27.toNat : Int) v28 hv28))], kn := [(18, .f hc25), (25, .f hc26)] } [0, 1, 5, 6, 32] [1005] hN (by kernel_rfl) (by kernel_rfl) ?_
                  refine tnU ?_
                  exact ⟨(decide (v28 < 0)), h, by kernel_rfl⟩
            · rintro _ ⟨v19, h, rfl⟩
              unfold inst_Put.j23 at h
              refine tS (b := v19) (by kernel_rfl) (fun hc20 => ?_) (fun hc20 => ?_)
              · replace h := ite_t hc20 h
                refine WpC.seq ?_
                obtain ⟨v21, hv21, h⟩ := bind_some h
                obtain ⟨g22, h⟩ := if_some h
                refine rS { its := [(3, .u hv21), (5, .g g22)] } [0, 1, 5, 6] [38] hN (by kernel_rfl) (by kernel_rfl) ?_
                refine tnU ?_
                refine WpC.conv (cS [.rn 38 1005, .k [0, 1, 5, 6] [1005]] (by kernel_rfl) (by kernel_rfl)) (WpC.exit ?_)
                refine thenQ_exit ?_
                refine blockQ_hit ?_
                refine tnU ?_
                exact ⟨(v3 ++ [(v21.toNat : Int)]), v4, h, by kernel_rfl⟩
              · replace h := ite_f hc20 h
                refine WpC.conv (cS [.k [0, 1, 5, 6] [1005]] (by kernel_rfl) (by kernel_rfl)) (WpC.skip ?_)
                refine tnU ?_
                exact ⟨h, by kernel_rfl⟩
          · rintro _ ⟨h, rfl⟩
            unfold inst_Put.j18 at h
            refine WpC.seq ?_
            refine rS {} [0, 1, 5, 6] [1005] hN (by kernel_rfl) (by kernel_rfl) ?_
            refine tnU ?_
            refine WpC.seq ?_
            obtain ⟨v13, hv13, h⟩ := bind_some h
            obtain ⟨v14, hv14, h⟩ := bind_some h
            refine rS { its := [(2, .u hv13), (3, .c (inst_figure.ok O hO k (v13.toNat : Int) v14 hv14))] } [0, 1, 5, 6, 7] [1005] hN (by kernel_rfl) (by kernel_rfl) ?_
            refine tnU ?_
            refine WpC.seq ?_
            refine rS {} [0, 1, 5, 6, 7, 48] [1005] hN (by kernel_rfl) (by kernel_rfl) ?_
            refine tnU ?_
            refine tS (b := (decide (v14 < (a1.length : Int)))) (by kernel_rfl) (fun hc15 => ?_) (fun hc15 => ?_)
            · replace h := ite_t hc15 h
              obtain ⟨v16, hv16, h⟩ := bind_some h
              obtain ⟨g17, h⟩ := if_some h
              refine rSC { its := [(3, .v .str hv16), (5, .e 5 (sok_appendS (U := Un) (rs := [(49, .vec 1005 1 0 v3.length), (53, .p .str v16)]) (xs := v3) (s := v16) (fx := false) rfl rfl rfl row_102 z8_5 Tryz.underlying9 o0 o1 g17))] } [0, 1, 5, 6] [54] hN (by kernel_rfl) (by kernel_rfl) (cS [.rn 54 1005, .k [0, 1, 5, 6] [1005]] (by kernel_rfl) (by kernel_rfl)) ?_
              refine blockQ_normal ?_
              refine tnU ?_
              exact ⟨(v3 ++ numsOf v16), (IntKind.i64.wrap (v4 + 1)), h, by kernel_rfl⟩
            · replace h := ite_f hc15 h
              refine WpC.conv (cS [.k [0, 1, 5, 6] [1005]] (by kernel_rfl) (by kernel_rfl)) (WpC.skip ?_)
              refine blockQ_normal ?_
              refine tnU ?_
              exact ⟨v3, (IntKind.i64.wrap (v4 + 1)), h, by kernel_rfl⟩
        · rintro _ ⟨v10, v11, h, rfl⟩
          unfold inst_Put.j12 at h
          refine rS {} [0, 1, 5, 6] [1005] hN (by kernel_rfl) (by kernel_rfl) ?_
          refine tnU ?_
          exact ⟨n, Nat.lt_succ_self n, v10, (IntKind.i64.wrap (v11 + 1)), h, by kernel_rfl⟩
      · replace h := ite_f hc9 h
        refine WpC.conv (cS [.k [5] [1005]] (by kernel_rfl) (by kernel_rfl)) (WpC.exit ?_)
        refine thenQ_exit ?_
        have hq := Option.some.inj h
        subst hq
        refine thenQ_exit ?_
        have h := hout8
        refine blockQ_hit ?_
        refine tnU ?_
        exact ⟨v3, h, by kernel_rfl⟩
  · rintro _ ⟨v1, h, rfl⟩
    unfold inst_Put.j2 at h
    refine WpC.seq ?_
    refine rS {} [4] [] hN (by kernel_rfl) (by kernel_rfl) ?_
    refine tnU ?_
    refine WpC.ret ?_
    have hq := Option.some.inj h
    subst hq
    exact eR (by kernel_rfl) (by kernel_rfl)

theorem millwrightref22_Put.bok (O : Out) (hO : GOk O) (k : Nat) (rf_millwrightref22_Put : (List UInt8) → (List (List UInt8)) → Option (List UInt8)) (hrf_millwrightref22_Put : ∀ (a0 : List UInt8) (a1 : List (List UInt8)) (out : List UInt8), rf_millwrightref22_Put a0 a1 = some out → COk Un O Tryz.prog 20 { ar := [.p .str a0, .p (.list .str) a1], r := .p .str out }) (a0 : List UInt8) (a1 : List (List UInt8)) (out : List UInt8) (h : millwrightref22_Put.b k rf_millwrightref22_Put a0 a1 = some out) : COk Un O Tryz.prog 20 { ar := [.p .str a0, .p (.list .str) a1], r := .p .str out } := by
  refine cok_of_wp Tryz.func20 rfl (k := 53) rfl (Nat.le_of_ble_eq_true rfl) (namesOk_pure rfl rfl rfl rfl) ?_
  intro B hN
  refine WpC.conv (cvK (b := ⟨[(0, .p .str a0), (1, .p (.list .str) a1)], []⟩) [0, 1] [] (by kernel_rfl)) ?_
  unfold millwrightref22_Put.b at h
  refine WpC.seq ?_
  refine rS {} [0, 1] [] hN (by kernel_rfl) (by kernel_rfl) ?_
  refine tnU ?_
  refine WpC.seq ?_
  refine WpC.seq ?_
  refine rS {} [0, 1, 9] [] hN (by kernel_rfl) (by kernel_rfl) ?_
  refine tnU ?_
  refine tS (b := ((a0.length : Int) == 0)) (by kernel_rfl) (fun hc1 => ?_) (fun hc1 => ?_)
  · replace h := ite_t hc1 h
    refine WpC.seq ?_
    refine rS {} [4] [] hN (by kernel_rfl) (by kernel_rfl) ?_
    refine tnU ?_
    refine WpC.ret ?_
    refine thenQ_ret ?_
    have hq := Option.some.inj h
    subst hq
    exact eR (by kernel_rfl) (by kernel_rfl)
  · replace h := ite_f hc1 h
    refine WpC.conv (cS [.k [0, 1] []] (by kernel_rfl) (by kernel_rfl)) (WpC.skip ?_)
    refine tnU ?_
    refine sqJ (fun st' => millwrightref22_Put.j6 k rf_millwrightref22_Put a0 a1 = some out ∧ st' = ⟨[(0, .p .str a0), (1, .p (.list .str) a1)], []⟩) ?_ ?_
    · refine sqJ (fun st' => ∃ v7 : Bool, millwrightref22_Put.j17 k rf_millwrightref22_Put a0 a1 v7 = some out ∧ st' = ⟨[(0, .p .str a0), (1, .p (.list .str) a1), (27, .p .bool v7)], []⟩) ?_ ?_
      · rcases bool_cases (decide ((a0.length : Int) > 1)) with hc18 | hc18
        · replace h := ite_t hc18 h
          obtain ⟨v19, hv19, h⟩ := bind_some h
          rcases bool_cases ((v19.toNat : Int) == 92) with hc20 | hc20
          · replace h := ite_t hc20 h
            obtain ⟨v21, hv21, h⟩ := bind_some h
            rcases bool_cases (decide ((v21.toNat : Int) ≥ 48)) with hc22 | hc22
            · replace h := ite_t hc22 h
              obtain ⟨v23, hv23, h⟩ := bind_some h
              refine rS { its := [(5, .u hv19), (10, .u hv21), (15, .u hv23)], kn := [(13, .t hc18), (18, .t hc20), (23, .t hc22)] } [0, 1, 27] [] hN (by kernel_rfl) (by kernel_rfl) ?_
              refine tnU ?_
              exact ⟨(decide ((v23.toNat : Int) ≤ 57)), h, by kernel_rfl⟩
            · replace h := ite_f hc22 h
              refine rS { its := [(5, .u hv19), (10, .u hv21)], kn := [(13, .t hc18), (18, .t hc20), (23, .f hc22)] } [0, 1, 27] [] hN (by kernel_rfl) (by kernel_rfl) ?_
              refine tnU ?_
              exact ⟨false, h, by kernel_rfl⟩
          · replace h := ite_f hc20 h
            refine rS { its := [(5, .u hv19)], kn := [(13, .t hc18), (18, .f hc20)] } [0, 1, 27] [] hN (by kernel_rfl) (by kernel_rfl) ?_
            refine tnU ?_
            exact ⟨false, h, by kernel_rfl⟩
        · replace h := ite_f hc18 h
          refine rS { kn := [(13, .f hc18)] } [0, 1, 27] [] hN (by kernel_rfl) (by kernel_rfl) ?_
          refine tnU ?_
          exact ⟨false, h, by kernel_rfl⟩
      · rintro _ ⟨v7, h, rfl⟩
        unfold millwrightref22_Put.j17 at h
        refine tS (b := v7) (by kernel_rfl) (fun hc8 => ?_) (fun hc8 => ?_)
        · replace h := ite_t hc8 h
          refine WpC.seq ?_
          refine rS {} [0, 1, 5] [] hN (by kernel_rfl) (by kernel_rfl) ?_
          refine tnU ?_
          refine sqJ (fun st' => ∃ v9 : List UInt8, millwrightref22_Put.j13 k rf_millwrightref22_Put a0 a1 v9 = some out ∧ st' = ⟨[(0, .p .str a0), (1, .p (.list .str) a1), (5, .p .str v9)], []⟩) ?_ ?_
          · refine WpC.seq ?_
            obtain ⟨v14, hv14, h⟩ := bind_some h
            refine rS { its := [(1, .u hv14)] } [0, 1, 5, 6] [] hN (by kernel_rfl) (by kernel_rfl) ?_
            refine tnU ?_
            refine WpC.seq ?_
            refine rS {} [0, 1, 5, 6, 35] [] hN (by kernel_rfl) (by kernel_rfl) ?_
            refine tnU ?_
            refine tS (b := (decide ((IntKind.i64.wrap (IntKind.u8.wrap ((v14.toNat : Int) - 48))) < (a1.length : Int)))) (by kernel_rfl) (fun hc15 => ?_) (fun hc15 => ?_)
            · replace h := ite_t hc15 h
              obtain ⟨v16, hv16, h⟩ := bind_some h
              refine rS { its := [(2, .v .str hv16)] } [0, 1, 5] [] hN (by kernel_rfl) (by kernel_rfl) ?_
              refine tnU ?_
              exact ⟨v16, h, by kernel_rfl⟩
            · replace h := ite_f hc15 h
              refine WpC.conv (cS [.k [0, 1, 5] []] (by kernel_rfl) (by kernel_rfl)) (WpC.skip ?_)
              refine tnU ?_
              exact ⟨([] : List UInt8), h, by kernel_rfl⟩
          · rintro _ ⟨v9, h, rfl⟩
            unfold millwrightref22_Put.j13 at h
            refine WpC.seq ?_
            obtain ⟨v10, hv10, h⟩ := bind_some h
            obtain ⟨v11, hv11, h⟩ := bind_some h
            obtain ⟨g12, h⟩ := if_some h
            refine rS { its := [(2, .v .str hv10), (4, .c (hrf_millwrightref22_Put v10 a1 v11 hv11)), (5, .g g12)] } [4] [] hN (by kernel_rfl) (by kernel_rfl) ?_
            refine tnU ?_
            refine WpC.ret ?_
            refine thenQ_ret ?_
            have hq := Option.some.inj h
            subst hq
            exact eR (by kernel_rfl) (by kernel_rfl)
        · replace h := ite_f hc8 h
          refine WpC.conv (cS [.k [0, 1] []] (by kernel_rfl) (by kernel_rfl)) (WpC.skip ?_)
          refine tnU ?_
          exact ⟨h, by kernel_rfl⟩
    · rintro _ ⟨h, rfl⟩
      unfold millwrightref22_Put.j6 at h
      refine WpC.seq ?_
      obtain ⟨v2, hv2, h⟩ := bind_some h
      obtain ⟨v3, hv3, h⟩ := bind_some h
      obtain ⟨v4, hv4, h⟩ := bind_some h
      obtain ⟨g5, h⟩ := if_some h
      refine rA { its := [(1, .v .str hv2), (3, .v .str hv3), (5, .c (hrf_millwrightref22_Put v3 a1 v4 hv4)), (6, .g g5)] } [4] [] hN (by kernel_rfl) (by kernel_rfl) (by kernel_rfl) ?_
      refine tnU ?_
      refine WpC.ret ?_
      have hq := Option.some.inj h
      subst hq
      exact eR (by kernel_rfl) (by kernel_rfl)

theorem scc_millwrightref22_Put.ok (O : Out) (hO : GOk O) : ∀ k : Nat, (∀ (a0 : List UInt8) (a1 : List (List UInt8)) (out : List UInt8), millwrightref22_Put.f k a0 a1 = some out → COk Un O Tryz.prog 20 { ar := [.p .str a0, .p (.list .str) a1], r := .p .str out }) := by
  intro k
  induction k with
  | zero => exact fun a0 a1 out h => (by have h2 : (none : Option (List UInt8)) = some out := h; cases h2)
  | succ k ih => exact fun a0 a1 out h => millwrightref22_Put.bok O hO k _ ih a0 a1 out h
theorem millwrightref22_Put.ok (O : Out) (hO : GOk O) (k : Nat) (a0 : List UInt8) (a1 : List (List UInt8)) (out : List UInt8) (h : millwrightref22_Put.f k a0 a1 = some out) : COk Un O Tryz.prog 20 { ar := [.p .str a0, .p (.list .str) a1], r := .p .str out } := (scc_millwrightref22_Put.ok O hO k) a0 a1 out h

theorem millwrightnum_SameTexts.ok (O : Out) (hO : GOk O) (k : Nat) (a0 : List (List UInt8)) (a1 : List (List UInt8)) (out : Bool) (h : millwrightnum_SameTexts.f k a0 a1 = some out) : COk Un O Tryz.prog 15 { ar := [.p (.list .str) a0, .p (.list .str) a1], r := .p .bool out } := by
  refine cok_of_wp Tryz.func15 rfl (k := 26) rfl (Nat.le_of_ble_eq_true rfl) (namesOk_pure rfl rfl rfl rfl) ?_
  intro B hN
  refine WpC.conv (cvK (b := ⟨[(0, .p (.list .str) a0), (1, .p (.list .str) a1)], []⟩) [0, 1] [] (by kernel_rfl)) ?_
  unfold millwrightnum_SameTexts.f at h
  refine WpC.seq ?_
  refine rS {} [0, 1] [] hN (by kernel_rfl) (by kernel_rfl) ?_
  refine tnU ?_
  refine WpC.seq ?_
  refine WpC.seq ?_
  refine rS {} [0, 1, 10] [] hN (by kernel_rfl) (by kernel_rfl) ?_
  refine tnU ?_
  refine tS (b := ((a0.length : Int) != (a1.length : Int))) (by kernel_rfl) (fun hc1 => ?_) (fun hc1 => ?_)
  · replace h := ite_t hc1 h
    refine WpC.seq ?_
    refine rS {} [4] [] hN (by kernel_rfl) (by kernel_rfl) ?_
    refine tnU ?_
    refine WpC.ret ?_
    refine thenQ_ret ?_
    have hq := Option.some.inj h
    subst hq
    exact eR (by kernel_rfl) (by kernel_rfl)
  · replace h := ite_f hc1 h
    refine WpC.conv (cS [.k [0, 1] []] (by kernel_rfl) (by kernel_rfl)) (WpC.skip ?_)
    refine tnU ?_
    refine sqJ (fun st' => millwrightnum_SameTexts.j2 k = some out ∧ st' = ⟨[], []⟩) ?_ ?_
    · refine WpC.seq ?_
      refine rS {} [0, 1, 12, 13] [] hN (by kernel_rfl) (by kernel_rfl) ?_
      refine tnU ?_
      refine WpC.block ?_
      obtain ⟨o5, hlo5, h⟩ := bind_some h
      have hout6 := h
      clear h
      refine WpC.loop (U := Un) (fun n st' => ∃ v3 : Int, millwrightnum_SameTexts.l4 k a0 a1 n v3 = some o5 ∧ st' = ⟨[(0, .p (.list .str) a0), (1, .p (.list .str) a1), (12, .p I6 ((a0.length : Int) : Int)), (13, .p I6 v3)], []⟩) k ⟨0, hlo5, by kernel_rfl⟩ ?_
      clear hlo5
      rintro (_ | n) _ ⟨v3, h, rfl⟩
      · cases h
      · rw [millwrightnum_SameTexts.l4] at h
        refine WpC.seq ?_
        refine rS {} [0, 1, 12, 13, 14] [] hN (by kernel_rfl) (by kernel_rfl) ?_
        refine tnU ?_
        refine WpC.seq ?_
        refine tS (b := (decide (v3 < (a0.length : Int)))) (by kernel_rfl) (fun hc7 => ?_) (fun hc7 => ?_)
        · replace h := ite_t hc7 h
          refine WpC.conv (cS [.k [0, 1, 12, 13] []] (by kernel_rfl) (by kernel_rfl)) (WpC.skip ?_)
          refine tnU ?_
          refine WpC.seq ?_
          refine WpC.block ?_
          refine WpC.seq ?_
          refine rS {} [0, 1, 5, 12, 13] [] hN (by kernel_rfl) (by kernel_rfl) ?_
          refine tnU ?_
          refine WpC.seq ?_
          obtain ⟨v8, hv8, h⟩ := bind_some h
          obtain ⟨v9, hv9, h⟩ := bind_some h
          refine rA { its := [(2, .v .str hv8), (6, .v .str hv9)] } [0, 1, 12, 13, 24] [] hN (by kernel_rfl) (by kernel_rfl) (by kernel_rfl) ?_
          refine tnU ?_
          refine tS (b := (!(v8 == v9))) (by kernel_rfl) (fun hc10 => ?_) (fun hc10 => ?_)
          · replace h := ite_t hc10 h
            refine WpC.seq ?_
            refine rS {} [4] [] hN (by kernel_rfl) (by kernel_rfl) ?_
            refine tnU ?_
            refine WpC.ret ?_
            refine blockQ_ret ?_
            refine thenQ_ret ?_
            have hq := Option.some.inj h
            subst hq
            refine thenQ_ret ?_
            have h := hout6
            refine blockQ_ret ?_
            refine thenQ_ret ?_
            have hq := Option.some.inj h
            subst hq
            exact eR (by kernel_rfl) (by kernel_rfl)
          · replace h := ite_f hc10 h
            refine WpC.conv (cS [.k [0, 1, 12, 13] []] (by kernel_rfl) (by kernel_rfl)) (WpC.skip ?_)
            refine blockQ_normal ?_
            refine tnU ?_
            refine rS {} [0, 1, 12, 13] [] hN (by kernel_rfl) (by kernel_rfl) ?_
            refine tnU ?_
            exact ⟨n, Nat.lt_succ_self n, (IntKind.i64.wrap (v3 + 1)), h, by kernel_rfl⟩
        · replace h := ite_f hc7 h
          refine WpC.conv (cS [.k [] []] (by kernel_rfl) (by kernel_rfl)) (WpC.exit ?_)
          refine thenQ_exit ?_
          have hq := Option.some.inj h
          subst hq
          refine thenQ_exit ?_
          have h := hout6
          refine blockQ_hit ?_
          refine tnU ?_
          exact ⟨h, by kernel_rfl⟩
    · rintro _ ⟨h, rfl⟩
      unfold millwrightnum_SameTexts.j2 at h
      refine WpC.seq ?_
      refine rS {} [4] [] hN (by kernel_rfl) (by kernel_rfl) ?_
      refine tnU ?_
      refine WpC.ret ?_
      have hq := Option.some.inj h
      subst hq
      exact eR (by kernel_rfl) (by kernel_rfl)

theorem millwrightnum_KeptTexts_m0.ok (O : Out) (hO : GOk O) (k : Nat) (a0 : List (List UInt8)) (a1 : Nat) (a2 : List (List UInt8)) (out : Bool) (h : millwrightnum_KeptTexts_m0.f k a0 a1 a2 = some out) : COk Un O Tryz.prog 21 { ar := [.vec 100000 1 0 a1, .p (.list .str) a2], r := .p .bool out, bs := [(100000, .row 9 .str a0 true)], bs' := [(100000, .row 9 .str a0 true)] } := by
  refine cok_of_wp Tryz.func21 rfl (k := 49) rfl (Nat.le_of_ble_eq_true rfl) (namesOk_of (by kernel_rfl)) ?_
  intro B hN
  refine WpC.conv (cvK (b := ⟨[(0, .vec 100000 1 0 a1), (1, .p (.list .str) a2)], [(100000, .row 9 .str a0 true)]⟩) [0, 1] [100000] (by kernel_rfl)) ?_
  unfold millwrightnum_KeptTexts_m0.f at h
  refine WpC.seq ?_
  refine rS {} [0, 1] [100000] hN (by kernel_rfl) (by kernel_rfl) ?_
  refine tnU ?_
  refine WpC.seq ?_
  obtain ⟨g1, h⟩ := if_some h
  refine rS { its := [(2, .e 2 (sok_capV (U := Un) (E' := 9) (t := .str) (rs := [(8, .vec 100000 1 0 a1)]) (xs := a0) rfl rfl Tryz.underlying30 o0)), (3, .g g1)] } [1, 5] [100000] hN (by kernel_rfl) (by kernel_rfl) ?_
  refine tnU ?_
  refine sqJ (fun st' => millwrightnum_KeptTexts_m0.j10 k a0 a2 = some out ∧ st' = ⟨[(1, .p (.list .str) a2), (5, .vec 100000 1 0 (((a0.length - 0 : Nat) : Int).toNat))], [(100000, .row 9 .str a0 true)]⟩) ?_ ?_
  · refine sqJ (fun st' => ∃ v11 : Bool, millwrightnum_KeptTexts_m0.j13 k a0 a2 v11 = some out ∧ st' = ⟨[(1, .p (.list .str) a2), (5, .vec 100000 1 0 (((a0.length - 0 : Nat) : Int).toNat)), (25, .p .bool v11)], [(100000, .row 9 .str a0 true)]⟩) ?_ ?_
    · rcases bool_cases (decide ((((a0.length - 0 : Nat) : Int).toNat : Int) < (IntKind.i64.wrap ((a2.length : Int) + 3)))) with hc14 | hc14
      · replace h := ite_t hc14 h
        refine rS { kn := [(17, .t hc14)] } [1, 5, 25] [100000] hN (by kernel_rfl) (by kernel_rfl) ?_
        refine tnU ?_
        exact ⟨true, h, by kernel_rfl⟩
      · replace h := ite_f hc14 h
        obtain ⟨g15, h⟩ := if_some h
        obtain ⟨g16, h⟩ := if_some h
        obtain ⟨v17, hv17, h⟩ := bind_some h
        refine rS { its := [(10, .g g15), (12, .e 12 (caV (rs := [(21, .vec 100000 1 0 a2.length), (22, .p (.list .str) a2)]) (vw := [(100000, .row 9 .str a0 true)]) rfl rfl (.func _) hb_15 (millwrightnum_SameTexts.ok O hO k ((a0.drop 0).take a2.length) a2 v17 hv17) (.cons o0 (.cons o1 .nil)) (.cons (.row 0 a2.length (.head _) g16) (.cons (.same _) .nil)) (by simp) (.inr rfl)))], kn := [(17, .f hc14)] } [1, 5, 25] [100000] hN (by kernel_rfl) (by kernel_rfl) ?_
        refine tnU ?_
        exact ⟨(!v17), h, by kernel_rfl⟩
    · rintro _ ⟨v11, h, rfl⟩
      unfold millwrightnum_KeptTexts_m0.j13 at h
      refine tS (b := v11) (by kernel_rfl) (fun hc12 => ?_) (fun hc12 => ?_)
      · replace h := ite_t hc12 h
        refine WpC.seq ?_
        refine rS {} [4] [100000] hN (by kernel_rfl) (by kernel_rfl) ?_
        refine tnU ?_
        refine WpC.ret ?_
        refine thenQ_ret ?_
        have hq := Option.some.inj h
        subst hq
        exact eR (by kernel_rfl) (by kernel_rfl)
      · replace h := ite_f hc12 h
        refine WpC.conv (cS [.k [1, 5] [100000]] (by kernel_rfl) (by kernel_rfl)) (WpC.skip ?_)
        refine tnU ?_
        exact ⟨h, by kernel_rfl⟩
  · rintro _ ⟨h, rfl⟩
    unfold millwrightnum_KeptTexts_m0.j10 at h
    refine WpC.seq ?_
    refine rS {} [5, 6] [100000] hN (by kernel_rfl) (by kernel_rfl) ?_
    refine tnU ?_
    refine WpC.seq ?_
    obtain ⟨g2, h⟩ := if_some h
    obtain ⟨v3, hv3, h⟩ := bind_some h
    rcases bool_cases (v3 == ([1] : List UInt8)) with hc4 | hc4
    · replace h := ite_t hc4 h
      obtain ⟨g5, h⟩ := if_some h
      obtain ⟨v6, hv6, h⟩ := bind_some h
      rcases bool_cases (v6 == ([2] : List UInt8)) with hc7 | hc7
      · replace h := ite_t hc7 h
        obtain ⟨g8, h⟩ := if_some h
        obtain ⟨v9, hv9, h⟩ := bind_some h
        refine rS { its := [(2, .g g2), (3, .v .str hv3), (9, .g g5), (10, .v .str hv6), (17, .g g8), (18, .v .str hv9)], kn := [(33, .t hc4), (41, .t hc7)] } [4] [100000] hN (by kernel_rfl) (by kernel_rfl) ?_
        refine tnU ?_
        refine WpC.ret ?_
        have hq := Option.some.inj h
        subst hq
        exact eR (by kernel_rfl) (by kernel_rfl)
      · replace h := ite_f hc7 h
        refine rS { its := [(2, .g g2), (3, .v .str hv3), (9, .g g5), (10, .v .str hv6)], kn := [(33, .t hc4), (41, .f hc7)] } [4] [100000] hN (by kernel_rfl) (by kernel_rfl) ?_
        refine tnU ?_
        refine WpC.ret ?_
        have hq := Option.some.inj h
        subst hq
        exact eR (by kernel_rfl) (by kernel_rfl)
    · replace h := ite_f hc4 h
      refine rS { its := [(2, .g g2), (3, .v .str hv3)], kn := [(33, .f hc4)] } [4] [100000] hN (by kernel_rfl) (by kernel_rfl) ?_
      refine tnU ?_
      refine WpC.ret ?_
      have hq := Option.some.inj h
      subst hq
      exact eR (by kernel_rfl) (by kernel_rfl)

theorem millwrightlaw22_InstPuts.ok (O : Out) (hO : GOk O) (k : Nat) (a0 : List UInt8) (a1 : List (List UInt8)) (out : Bool) (h : millwrightlaw22_InstPuts.f k a0 a1 = some out) : COk Un O Tryz.prog 4 { ar := [.p .str a0, .p (.list .str) a1], r := .p .bool out } := by
  refine cok_of_wp Tryz.func4 rfl (k := 29) rfl (Nat.le_of_ble_eq_true rfl) (namesOk_pure rfl rfl rfl rfl) ?_
  intro B hN
  refine WpC.conv (cvK (b := ⟨[(0, .p .str a0), (1, .p (.list .str) a1)], []⟩) [0, 1] [] (by kernel_rfl)) ?_
  unfold millwrightlaw22_InstPuts.f at h
  refine WpC.seq ?_
  refine rS {} [0, 1] [] hN (by kernel_rfl) (by kernel_rfl) ?_
  refine tnU ?_
  refine WpC.seq ?_
  refine WpC.seq ?_
  obtain ⟨v1, hv1, h⟩ := bind_some h
  refine rS { its := [(0, .c (millwrightlaw22_alive.ok O hO k v1 hv1))] } [0, 1, 7] [] hN (by kernel_rfl) (by kernel_rfl) ?_
  refine tnU ?_
  refine tS (b := (!v1)) (by kernel_rfl) (fun hc2 => ?_) (fun hc2 => ?_)
  · replace h := ite_t hc2 h
    refine WpC.seq ?_
    refine rS {} [4] [] hN (by kernel_rfl) (by kernel_rfl) ?_
    refine tnU ?_
    refine WpC.ret ?_
    refine thenQ_ret ?_
    have hq := Option.some.inj h
    subst hq
    exact eR (by kernel_rfl) (by kernel_rfl)
  · replace h := ite_f hc2 h
    refine WpC.conv (cS [.k [0, 1] []] (by kernel_rfl) (by kernel_rfl)) (WpC.skip ?_)
    refine tnU ?_
    refine sqJ (fun st' => millwrightlaw22_InstPuts.j9 k a0 a1 = some out ∧ st' = ⟨[(0, .p .str a0), (1, .p (.list .str) a1)], []⟩) ?_ ?_
    · refine sqJ (fun st' => ∃ v10 : Bool, millwrightlaw22_InstPuts.j12 k a0 a1 v10 = some out ∧ st' = ⟨[(0, .p .str a0), (1, .p (.list .str) a1), (14, .p .bool v10)], []⟩) ?_ ?_
      · rcases bool_cases (decide ((a0.length : Int) > 100)) with hc13 | hc13
        · replace h := ite_t hc13 h
          refine rS { kn := [(11, .t hc13)] } [0, 1, 14] [] hN (by kernel_rfl) (by kernel_rfl) ?_
          refine tnU ?_
          exact ⟨true, h, by kernel_rfl⟩
        · replace h := ite_f hc13 h
          obtain ⟨v14, hv14, h⟩ := bind_some h
          refine rS { its := [(5, .c (millwrightnum_Long.ok O hO k a1 20 60 v14 hv14))], kn := [(11, .f hc13)] } [0, 1, 14] [] hN (by kernel_rfl) (by kernel_rfl) ?_
          refine tnU ?_
          exact ⟨v14, h, by kernel_rfl⟩
      · rintro _ ⟨v10, h, rfl⟩
        unfold millwrightlaw22_InstPuts.j12 at h
        refine tS (b := v10) (by kernel_rfl) (fun hc11 => ?_) (fun hc11 => ?_)
        · replace h := ite_t hc11 h
          refine WpC.seq ?_
          refine rS {} [4] [] hN (by kernel_rfl) (by kernel_rfl) ?_
          refine tnU ?_
          refine WpC.ret ?_
          refine thenQ_ret ?_
          have hq := Option.some.inj h
          subst hq
          exact eR (by kernel_rfl) (by kernel_rfl)
        · replace h := ite_f hc11 h
          refine WpC.conv (cS [.k [0, 1] []] (by kernel_rfl) (by kernel_rfl)) (WpC.skip ?_)
          refine tnU ?_
          exact ⟨h, by kernel_rfl⟩
    · rintro _ ⟨h, rfl⟩
      unfold millwrightlaw22_InstPuts.j9 at h
      refine WpC.seq ?_
      obtain ⟨v3, hv3, h⟩ := bind_some h
      refine rS { its := [(1, .c (COk.ren (millwrightnum_Texts.ok O hO k a1 v3 hv3) (fun n => if n = 60500 then 10001 else n) (injOn_of (by kernel_rfl))))] } [0, 1, 5] [10001] hN (by kernel_rfl) (by kernel_rfl) ?_
      refine tnU ?_
      refine WpC.seq ?_
      obtain ⟨g4, h⟩ := if_some h
      obtain ⟨v5, hv5, h⟩ := bind_some h
      obtain ⟨v6, hv6, h⟩ := bind_some h
      rcases bool_cases (v5 == v6) with hc7 | hc7
      · replace h := ite_t hc7 h
        obtain ⟨v8, hv8, h⟩ := bind_some h
        refine rS { its := [(2, .e 2 (caV (rs := [(17, .p .str a0), (18, .vec 10001 1 0 v3.2)]) (vw := [(10001, .row 9 .str v3.1 true)]) rfl rfl (.func _) hb_19 (inst_Put.ok O hO k a0 ((v3.1.drop 0).take v3.2) v5 hv5) (.cons o0 (.cons o1 .nil)) (.cons (.same _) (.cons (.row 0 v3.2 (.head _) g4) .nil)) (by simp) (.inr rfl))), (5, .c (millwrightref22_Put.ok O hO k a0 a1 v6 hv6)), (10, .c (COk.ren (millwrightnum_KeptTexts_m0.ok O hO k v3.1 v3.2 a1 v8 hv8) (fun n => if n = 100000 then 10001 else n) (injOn_of (by kernel_rfl))))], kn := [(24, .t hc7)] } [4] [] hN (by kernel_rfl) (by kernel_rfl) ?_
        refine tnU ?_
        refine WpC.ret ?_
        have hq := Option.some.inj h
        subst hq
        exact eR (by kernel_rfl) (by kernel_rfl)
      · replace h := ite_f hc7 h
        refine rS { its := [(2, .e 2 (caV (rs := [(17, .p .str a0), (18, .vec 10001 1 0 v3.2)]) (vw := [(10001, .row 9 .str v3.1 true)]) rfl rfl (.func _) hb_19 (inst_Put.ok O hO k a0 ((v3.1.drop 0).take v3.2) v5 hv5) (.cons o0 (.cons o1 .nil)) (.cons (.same _) (.cons (.row 0 v3.2 (.head _) g4) .nil)) (by simp) (.inr rfl))), (5, .c (millwrightref22_Put.ok O hO k a0 a1 v6 hv6))], kn := [(24, .f hc7)] } [4] [] hN (by kernel_rfl) (by kernel_rfl) ?_
        refine tnU ?_
        refine WpC.ret ?_
        have hq := Option.some.inj h
        subst hq
        exact eR (by kernel_rfl) (by kernel_rfl)

end Go.Proofs.YtldepagjdbcmgaaGreatDoor
