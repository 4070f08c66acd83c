/- A part of the proof of a given law: SSC4. Own work, printed in part by a program of mine. -/
import Derived.Test.YtcblgpcgdihcbaaGreatDoorK16SSC3
namespace Go.Proofs.YtcblgpcgdihcbaaGreatDoor
open Go Go.AM
set_option linter.unusedVariables false
set_option linter.unusedSimpArgs false
set_option maxRecDepth 100000
theorem tree_Tree_Names_m0.ok (O : Out) (hO : GOk O) (k : Nat) (a0 : List ((List UInt8) × T_tree_File)) (out : List (List UInt8)) (h : tree_Tree_Names_m0.f k a0 = some out) : COk Un O Tryz.prog 60 { ar := [.loc 100000 0], r := .p (.list .str) out, bs := [(100000, .box [.mp 100001]), (100001, .map (.named 3) a0)], bs' := [(100000, .box [.mp 100001]), (100001, .map (.named 3) a0)] } := by
  refine cok_of_wp Tryz.func60 rfl (k := 9) rfl (Nat.le_of_ble_eq_true rfl) (namesOk_of (by kernel_rfl)) ?_
  intro B hN
  refine WpC.conv (cvK (b := ⟨[(0, .loc 100000 0)], [(100000, .box [.mp 100001]), (100001, .map (.named 3) a0)]⟩) [0] [100000, 100001] (by kernel_rfl)) ?_
  unfold tree_Tree_Names_m0.f at h
  refine WpC.seq ?_
  refine rS {} [0] [100000, 100001] hN (by kernel_rfl) (by kernel_rfl) ?_
  refine tnU ?_
  refine WpC.seq ?_
  obtain ⟨v1, hv1, h⟩ := bind_some h
  obtain ⟨v2, hv2, h⟩ := bind_some h
  refine rS { its := [(4, .c (COk.ren (pKeys.ok (U := Un) (t := .named 3) O hO k a0 v1 hv1) (fun n => if n = 60500 then 10001 else if n = 100000 then 100001 else n) (injOn_of (by kernel_rfl)))), (5, .c (COk.ren (pSorted.ok (U := Un) (t := .named 3) O hO k a0 v2 hv2) (fun n => if n = 100000 then 10001 else if n = 100001 then 100001 else n) (injOn_of (by kernel_rfl))))] } [2] [100000, 100001] hN (by kernel_rfl) (by kernel_rfl) ?_
  refine tnU ?_
  refine WpC.ret ?_
  have hq := Option.some.inj h
  subst hq
  exact eR (by kernel_rfl) (by kernel_rfl)

theorem tree_Tree_Files_m0.ok (O : Out) (hO : GOk O) (k : Nat) (a0 : List ((List UInt8) × T_tree_File)) (out : List T_tree_File) (h : tree_Tree_Files_m0.f k a0 = some out) : COk Un O Tryz.prog 57 { ar := [.loc 100000 0], r := .p (.list (.named 3)) out, bs := [(100000, .box [.mp 100001]), (100001, .map (.named 3) a0)], bs' := [(100000, .box [.mp 100001]), (100001, .map (.named 3) a0)] } := by
  refine cok_of_wp Tryz.func57 rfl (k := 24) rfl (Nat.le_of_ble_eq_true rfl) (namesOk_of (by kernel_rfl)) ?_
  intro B hN
  refine WpC.conv (cvK (b := ⟨[(0, .loc 100000 0)], [(100000, .box [.mp 100001]), (100001, .map (.named 3) a0)]⟩) [0] [100000, 100001] (by kernel_rfl)) ?_
  unfold tree_Tree_Files_m0.f at h
  refine WpC.seq ?_
  refine rS {} [0] [100000, 100001] hN (by kernel_rfl) (by kernel_rfl) ?_
  refine tnU ?_
  refine WpC.seq ?_
  refine rS {} [0, 3] [100000, 100001] hN (by kernel_rfl) (by kernel_rfl) ?_
  refine tnU ?_
  refine sqJ (fun st' => ∃ v1 : List T_tree_File, tree_Tree_Files_m0.j2 k a0 v1 = some out ∧ st' = ⟨[(3, .vec 1003 3 0 v1.length)], [(1003, .row 54 (.named 3) v1 false), (100000, .box [.mp 100001]), (100001, .map (.named 3) a0)]⟩) ?_ ?_
  · refine WpC.seq ?_
    obtain ⟨v3, hv3, h⟩ := bind_some h
    refine rS { its := [(1, .c (COk.ren (tree_Tree_Names_m0.ok O hO k a0 v3 hv3) (fun n => if n = 100000 then 100000 else if n = 100001 then 100001 else n) (injOn_of (by kernel_rfl))))] } [0, 3, 7, 8, 9] [100000, 100001] hN (by kernel_rfl) (by kernel_rfl) ?_
    refine tnU ?_
    refine WpC.block ?_
    obtain ⟨o8, hlo8, h⟩ := bind_some h
    have hout9 := h
    clear h
    refine WpC.conv (cS [.th 3 1003 54 (.named 3), .k [0, 3, 7, 8, 9] [1003, 100000, 100001]] (by kernel_rfl) (by kernel_rfl)) ?_
    refine WpC.loop (U := Un) (fun n st' => ∃ v4 : List T_tree_File, ∃ v5 : Int, tree_Tree_Files_m0.l6 k a0 v3 n v4 v5 = some o8 ∧ st' = ⟨[(0, .loc 100000 0), (3, .vec 1003 3 0 v4.length), (7, .p (.list .str) v3), (8, .p I6 ((v3.length : Int) : Int)), (9, .p I6 v5)], [(1003, .row 54 (.named 3) v4 false), (100000, .box [.mp 100001]), (100001, .map (.named 3) a0)]⟩) k ⟨[], 0, hlo8, by kernel_rfl⟩ ?_
    clear hlo8
    rintro (_ | n) _ ⟨v4, v5, h, rfl⟩
    · cases h
    · rw [tree_Tree_Files_m0.l6] at h
      refine WpC.seq ?_
      refine rS {} [0, 3, 7, 8, 9, 10] [1003, 100000, 100001] hN (by kernel_rfl) (by kernel_rfl) ?_
      refine tnU ?_
      refine WpC.seq ?_
      refine tS (b := (decide (v5 < (v3.length : Int)))) (by kernel_rfl) (fun hc10 => ?_) (fun hc10 => ?_)
      · replace h := ite_t hc10 h
        refine WpC.conv (cS [.k [0, 3, 7, 8, 9] [1003, 100000, 100001]] (by kernel_rfl) (by kernel_rfl)) (WpC.skip ?_)
        refine tnU ?_
        refine WpC.seq ?_
        refine WpC.block ?_
        refine WpC.seq ?_
        obtain ⟨v11, hv11, h⟩ := bind_some h
        refine rS { its := [(0, .v .str hv11)] } [0, 3, 5, 7, 8, 9] [1003, 100000, 100001] hN (by kernel_rfl) (by kernel_rfl) ?_
        refine tnU ?_
        obtain ⟨g12, h⟩ := if_some h
        refine rS { its := [(8, .g g12)] } [0, 3, 7, 8, 9] [21, 100000, 100001] hN (by kernel_rfl) (by kernel_rfl) ?_
        refine blockQ_normal ?_
        refine tnU ?_
        refine rSC {} [0, 3, 7, 8, 9] [21, 100000, 100001] hN (by kernel_rfl) (by kernel_rfl) (cS [.rn 21 1003, .k [0, 3, 7, 8, 9] [1003, 100000, 100001]] (by kernel_rfl) (by kernel_rfl)) ?_
        refine tnU ?_
        exact ⟨n, Nat.lt_succ_self n, (v4 ++ [((mget v11 a0).getD (T_tree_File.mk [] [] 0))]), (IntKind.i64.wrap (v5 + 1)), h, by kernel_rfl⟩
      · replace h := ite_f hc10 h
        refine WpC.conv (cS [.k [3] [1003, 100000, 100001]] (by kernel_rfl) (by kernel_rfl)) (WpC.exit ?_)
        refine thenQ_exit ?_
        have hq := Option.some.inj h
        subst hq
        refine thenQ_exit ?_
        have h := hout9
        refine blockQ_hit ?_
        refine tnU ?_
        exact ⟨v4, h, by kernel_rfl⟩
  · rintro _ ⟨v1, h, rfl⟩
    unfold tree_Tree_Files_m0.j2 at h
    refine WpC.seq ?_
    refine rS {} [2] [1003, 100000, 100001] hN (by kernel_rfl) (by kernel_rfl) ?_
    refine tnU ?_
    refine WpC.conv (cS [.fz 2, .k [2] [100000, 100001]] (by kernel_rfl) (by kernel_rfl)) (WpC.ret ?_)
    have hq := Option.some.inj h
    subst hq
    exact eR (by kernel_rfl) (by kernel_rfl)

theorem tree_Tree_Latest_m0.ok (O : Out) (hO : GOk O) (k : Nat) (a0 : List ((List UInt8) × T_tree_File)) (out : Int) (h : tree_Tree_Latest_m0.f k a0 = some out) : COk Un O Tryz.prog 58 { ar := [.loc 100000 0], r := .p I6 out, bs := [(100000, .box [.mp 100001]), (100001, .map (.named 3) a0)], bs' := [(100000, .box [.mp 100001]), (100001, .map (.named 3) a0)] } := by
  refine cok_of_wp Tryz.func58 rfl (k := 20) rfl (Nat.le_of_ble_eq_true rfl) (namesOk_of (by kernel_rfl)) ?_
  intro B hN
  refine WpC.conv (cvK (b := ⟨[(0, .loc 100000 0)], [(100000, .box [.mp 100001]), (100001, .map (.named 3) a0)]⟩) [0] [100000, 100001] (by kernel_rfl)) ?_
  unfold tree_Tree_Latest_m0.f at h
  refine WpC.seq ?_
  refine rS {} [0] [100000, 100001] hN (by kernel_rfl) (by kernel_rfl) ?_
  refine tnU ?_
  refine WpC.seq ?_
  refine rS {} [0, 3] [100000, 100001] hN (by kernel_rfl) (by kernel_rfl) ?_
  refine tnU ?_
  refine sqJ (fun st' => ∃ v1 : Int, tree_Tree_Latest_m0.j2 k a0 v1 = some out ∧ st' = ⟨[(3, .p I6 v1)], [(100000, .box [.mp 100001]), (100001, .map (.named 3) a0)]⟩) ?_ ?_
  · refine WpC.seq ?_
    refine sT (st' := ⟨[(0, .loc 100000 0), (3, .p I6 (0 : Int))], [(100000, .box [.mp 100001]), (100001, .map (.named 3) a0)]⟩) (by kernel_rfl) ?_
    refine WpC.openMap (U := Un) (t := .named 3) (n := 100001) (kvs := a0) (.tail _ (.head _)) ?_
    intro es3 ck3 ys3 hys3 hri3
    refine WpC.conv (cvK (b := ⟨[(0, .loc 100000 0), (3, .p I6 (0 : Int))], [(100000, .box [.mp 100001]), (100001, .mapE (.named 3) es3 ck3 ys3)]⟩) [0, 3] [100000, 100001] (by kernel_rfl)) ?_
    refine rS { its := [(4, .e 4 (sok_range (U := Un) (t := .named 3) (es := es3) (clock := ck3) (kvs := a0) (rs := [(9, .mp 100001)]) (d := 10) (m := 100001) rfl rfl rfl map_83 hys3 (by decide) o0))] } [3, 10] [10, 100000, 100001] hN (by kernel_rfl) (by kernel_rfl) ?_
    refine tnU ?_
    refine WpC.block ?_
    obtain ⟨o8, hlo8, h⟩ := bind_some h
    have hout9 := h
    clear h
    refine WpC.loop (U := Un) (fun n st' => ∃ v4 : Int, ∃ v5 : List ((List UInt8) × T_tree_File), tree_Tree_Latest_m0.l6 k n v4 v5 = some o8 ∧ st' = ⟨[(3, .p I6 v4), (10, .loc 10 0)], [(10, .iter 100001 (.named 3) es3 ck3 ys3 v5 none), (100000, .box [.mp 100001]), (100001, .mapE (.named 3) es3 ck3 ys3)]⟩) k ⟨0, a0, hlo8, by kernel_rfl⟩ ?_
    clear hlo8
    rintro (_ | n) _ ⟨v4, v5, h, rfl⟩
    · cases h
    · refine WpC.seq ?_
      refine sT (st' := ⟨[(3, .p I6 v4), (10, .loc 10 0)], [(10, .iter 100001 (.named 3) es3 ck3 ys3 v5 none), (100000, .box [.mp 100001]), (100001, .mapE (.named 3) es3 ck3 ys3)]⟩) (by kernel_rfl) ?_
      refine WpC.next (U := Un) (t := .named 3) (d := 10) (m := 100001) (it := 10) (left := v5) [3, 10, 12] [10, 100000, 100001] hN rfl rfl rfl rfl rfl rfl (by decide) (by decide) (by decide) (.tail _ (.head _)) (.head _) (.tail _ (.tail _ (.head _))) (fun (v10 : (List UInt8) × T_tree_File) (v11 : List ((List UInt8) × T_tree_File)) hp12 ha12 => ⟨⟨[(3, .p I6 v4), (10, .loc 10 0), (12, .p .bool true)], [(10, .iter 100001 (.named 3) es3 ck3 ys3 v11 (some v10)), (100000, .box [.mp 100001]), (100001, .mapE (.named 3) es3 ck3 ys3)]⟩, by kernel_rfl, _, (cvR _), ?_⟩) (fun hl12 => ⟨⟨[(3, .p I6 v4), (10, .loc 10 0), (12, .p .bool false)], [(10, .iter 100001 (.named 3) es3 ck3 ys3 v5 none), (100000, .box [.mp 100001]), (100001, .mapE (.named 3) es3 ck3 ys3)]⟩, by kernel_rfl, _, (cvR _), ?_⟩)
      · have h := tree_Tree_Latest_m0.l6_perm k hp12 ha12 h
        unfold tree_Tree_Latest_m0.l6 at h
        obtain ⟨_, h⟩ := if_some h
        refine tnU ?_
        refine WpC.seq ?_
        refine tS (b := true) (by kernel_rfl) (fun hc => ?_) (fun hc => ?_)
        · refine WpC.conv (cS [.k [3, 10] [10, 100000, 100001]] (by kernel_rfl) (by kernel_rfl)) (WpC.skip ?_)
          refine tnU ?_
          refine WpC.block ?_
          refine WpC.seq ?_
          refine rS { its := [(0, .e 0 (sok_entry (U := Un) (t := .named 3) (rs := [(10, .loc 10 0)]) (d := 10) (m := 100001) (es := es3) (clock := ck3) (ys := ys3) (left := v11) (y := v10) rfl rfl o0))] } [3, 5, 10] [5, 10, 100000, 100001] hN (by kernel_rfl) (by kernel_rfl) ?_
          refine tnU ?_
          refine rSC { its := [(3, .e 3 (sok_max (U := Un) (rs := [(15, .p I6 v4), (17, .p I6 v10.2.f_Time)]) rfl rfl o0 o1))] } [3, 10] [10, 100000, 100001] hN (by kernel_rfl) (by kernel_rfl) (cS [.it 10, .k [3, 10] [10, 100000, 100001]] (by kernel_rfl) (by kernel_rfl)) ?_
          refine blockQ_normal ?_
          refine tnU ?_
          exact ⟨n, Nat.lt_succ_self n, (if v10.2.f_Time > v4 then v10.2.f_Time else v4), v11, h, by kernel_rfl⟩
        · cases hc
      · subst hl12
        unfold tree_Tree_Latest_m0.l6 at h
        refine tnU ?_
        refine WpC.seq ?_
        refine tS (b := false) (by kernel_rfl) (fun hc => ?_) (fun hc => ?_)
        · cases hc
        · refine WpC.conv (cS [.k [3] [100000, 100001], .cm (t := .named 3) 100001 hys3 hri3, .k [3] [100000, 100001]] (by kernel_rfl) (by kernel_rfl)) (WpC.exit ?_)
          refine thenQ_exit ?_
          have hq := Option.some.inj h
          subst hq
          refine thenQ_exit ?_
          have h := hout9
          refine blockQ_hit ?_
          refine tnU ?_
          exact ⟨v4, h, by kernel_rfl⟩
  · rintro _ ⟨v1, h, rfl⟩
    unfold tree_Tree_Latest_m0.j2 at h
    refine WpC.seq ?_
    refine rS {} [2] [100000, 100001] hN (by kernel_rfl) (by kernel_rfl) ?_
    refine tnU ?_
    refine WpC.ret ?_
    have hq := Option.some.inj h
    subst hq
    exact eR (by kernel_rfl) (by kernel_rfl)

theorem millwrightref02_Tree_Latest_m0.ok (O : Out) (hO : GOk O) (k : Nat) (a0 : List T_tree_File) (out : Int) (h : millwrightref02_Tree_Latest_m0.f k a0 = some out) : COk Un O Tryz.prog 59 { ar := [.loc 100000 0], r := .p I6 out, bs := [(100000, .box [.p (.list (.named 3)) a0])], bs' := [(100000, .box [.p (.list (.named 3)) a0])] } := by
  refine cok_of_wp Tryz.func59 rfl (k := 23) rfl (Nat.le_of_ble_eq_true rfl) (namesOk_of (by kernel_rfl)) ?_
  intro B hN
  refine WpC.conv (cvK (b := ⟨[(0, .loc 100000 0)], [(100000, .box [.p (.list (.named 3)) a0])]⟩) [0] [100000] (by kernel_rfl)) ?_
  unfold millwrightref02_Tree_Latest_m0.f at h
  refine WpC.seq ?_
  refine rS {} [0] [100000] hN (by kernel_rfl) (by kernel_rfl) ?_
  refine tnU ?_
  refine WpC.seq ?_
  refine rS {} [0, 3] [100000] hN (by kernel_rfl) (by kernel_rfl) ?_
  refine tnU ?_
  refine sqJ (fun st' => ∃ v1 : Int, millwrightref02_Tree_Latest_m0.j2 k a0 v1 = some out ∧ st' = ⟨[(3, .p I6 v1)], [(100000, .box [.p (.list (.named 3)) a0])]⟩) ?_ ?_
  · refine WpC.seq ?_
    refine rS {} [3, 9, 10, 11] [100000] hN (by kernel_rfl) (by kernel_rfl) ?_
    refine tnU ?_
    refine WpC.block ?_
    obtain ⟨o7, hlo7, h⟩ := bind_some h
    have hout8 := h
    clear h
    refine WpC.loop (U := Un) (fun n st' => ∃ v3 : Int, ∃ v4 : Int, millwrightref02_Tree_Latest_m0.l5 k a0 n v3 v4 = some o7 ∧ st' = ⟨[(3, .p I6 v3), (9, .p (.list (.named 3)) a0), (10, .p I6 ((a0.length : Int) : Int)), (11, .p I6 v4)], [(100000, .box [.p (.list (.named 3)) a0])]⟩) k ⟨0, 0, hlo7, by kernel_rfl⟩ ?_
    clear hlo7
    rintro (_ | n) _ ⟨v3, v4, h, rfl⟩
    · cases h
    · rw [millwrightref02_Tree_Latest_m0.l5] at h
      refine WpC.seq ?_
      refine rS {} [3, 9, 10, 11, 12] [100000] hN (by kernel_rfl) (by kernel_rfl) ?_
      refine tnU ?_
      refine WpC.seq ?_
      refine tS (b := (decide (v4 < (a0.length : Int)))) (by kernel_rfl) (fun hc9 => ?_) (fun hc9 => ?_)
      · replace h := ite_t hc9 h
        refine WpC.conv (cS [.k [3, 9, 10, 11] [100000]] (by kernel_rfl) (by kernel_rfl)) (WpC.skip ?_)
        refine tnU ?_
        refine sqJ (fun st' => ∃ v10 : Int, millwrightref02_Tree_Latest_m0.j11 k (millwrightref02_Tree_Latest_m0.l5 k a0 n) a0 v4 v10 = some o7 ∧ st' = ⟨[(3, .p I6 v10), (9, .p (.list (.named 3)) a0), (10, .p I6 ((a0.length : Int) : Int)), (11, .p I6 v4)], [(100000, .box [.p (.list (.named 3)) a0])]⟩) ?_ ?_
        · refine WpC.block ?_
          refine WpC.seq ?_
          obtain ⟨v12, hv12, h⟩ := bind_some h
          refine rS { its := [(0, .v (.named 3) hv12)] } [3, 5, 9, 10, 11] [5, 100000] hN (by kernel_rfl) (by kernel_rfl) ?_
          refine tnU ?_
          refine WpC.seq ?_
          refine rS {} [3, 5, 9, 10, 11, 18] [5, 100000] hN (by kernel_rfl) (by kernel_rfl) ?_
          refine tnU ?_
          refine tS (b := (decide (v12.f_Time > v3))) (by kernel_rfl) (fun hc13 => ?_) (fun hc13 => ?_)
          · replace h := ite_t hc13 h
            refine rS {} [3, 9, 10, 11] [100000] hN (by kernel_rfl) (by kernel_rfl) ?_
            refine blockQ_normal ?_
            refine tnU ?_
            exact ⟨v12.f_Time, h, by kernel_rfl⟩
          · replace h := ite_f hc13 h
            refine WpC.conv (cS [.k [3, 9, 10, 11] [100000]] (by kernel_rfl) (by kernel_rfl)) (WpC.skip ?_)
            refine blockQ_normal ?_
            refine tnU ?_
            exact ⟨v3, h, by kernel_rfl⟩
        · rintro _ ⟨v10, h, rfl⟩
          unfold millwrightref02_Tree_Latest_m0.j11 at h
          refine rS {} [3, 9, 10, 11] [100000] hN (by kernel_rfl) (by kernel_rfl) ?_
          refine tnU ?_
          exact ⟨n, Nat.lt_succ_self n, v10, (IntKind.i64.wrap (v4 + 1)), h, by kernel_rfl⟩
      · replace h := ite_f hc9 h
        refine WpC.conv (cS [.k [3] [100000]] (by kernel_rfl) (by kernel_rfl)) (WpC.exit ?_)
        refine thenQ_exit ?_
        have hq := Option.some.inj h
        subst hq
        refine thenQ_exit ?_
        have h := hout8
        refine blockQ_hit ?_
        refine tnU ?_
        exact ⟨v3, h, by kernel_rfl⟩
  · rintro _ ⟨v1, h, rfl⟩
    unfold millwrightref02_Tree_Latest_m0.j2 at h
    refine WpC.seq ?_
    refine rS {} [2] [100000] hN (by kernel_rfl) (by kernel_rfl) ?_
    refine tnU ?_
    refine WpC.ret ?_
    have hq := Option.some.inj h
    subst hq
    exact eR (by kernel_rfl) (by kernel_rfl)

theorem millwrightlaw02_Shows_m0.ok (O : Out) (hO : GOk O) (k : Nat) (a0 : List ((List UInt8) × T_tree_File)) (a1 : List T_tree_File) (out : Bool) (h : millwrightlaw02_Shows_m0.f k a0 a1 = some out) : COk Un O Tryz.prog 32 { ar := [.loc 100000 0, .loc 100002 0], r := .p .bool out, bs := [(100000, .box [.mp 100001]), (100001, .map (.named 3) a0), (100002, .box [.p (.list (.named 3)) a1])], bs' := [(100000, .box [.mp 100001]), (100001, .map (.named 3) a0), (100002, .box [.p (.list (.named 3)) a1])] } := by
  refine cok_of_wp Tryz.func32 rfl (k := 67) rfl (Nat.le_of_ble_eq_true rfl) (namesOk_of (by kernel_rfl)) ?_
  intro B hN
  refine WpC.conv (cvK (b := ⟨[(0, .loc 100000 0), (1, .loc 100002 0)], [(100000, .box [.mp 100001]), (100001, .map (.named 3) a0), (100002, .box [.p (.list (.named 3)) a1])]⟩) [0, 1] [100000, 100001, 100002] (by kernel_rfl)) ?_
  unfold millwrightlaw02_Shows_m0.f at h
  refine WpC.seq ?_
  refine rS {} [0, 1] [100000, 100001, 100002] hN (by kernel_rfl) (by kernel_rfl) ?_
  refine tnU ?_
  refine WpC.seq ?_
  obtain ⟨v1, hv1, h⟩ := bind_some h
  refine rS { its := [(1, .c (COk.ren (tree_Tree_Files_m0.ok O hO k a0 v1 hv1) (fun n => if n = 100000 then 100000 else if n = 100001 then 100001 else n) (injOn_of (by kernel_rfl))))] } [0, 1, 5] [100000, 100001, 100002] hN (by kernel_rfl) (by kernel_rfl) ?_
  refine tnU ?_
  refine sqJ (fun st' => millwrightlaw02_Shows_m0.j22 k a0 a1 v1 = some out ∧ st' = ⟨[(0, .loc 100000 0), (1, .loc 100002 0), (5, .p (.list (.named 3)) v1)], [(100000, .box [.mp 100001]), (100001, .map (.named 3) a0), (100002, .box [.p (.list (.named 3)) a1])]⟩) ?_ ?_
  · refine sqJ (fun st' => ∃ v23 : Bool, millwrightlaw02_Shows_m0.j25 k a0 a1 v1 v23 = some out ∧ st' = ⟨[(0, .loc 100000 0), (1, .loc 100002 0), (5, .p (.list (.named 3)) v1), (24, .p .bool v23)], [(100000, .box [.mp 100001]), (100001, .map (.named 3) a0), (100002, .box [.p (.list (.named 3)) a1])]⟩) ?_ ?_
    · rcases bool_cases ((v1.length : Int) != (a1.length : Int)) with hc26 | hc26
      · replace h := ite_t hc26 h
        refine rS { kn := [(18, .t hc26)] } [0, 1, 5, 24] [100000, 100001, 100002] hN (by kernel_rfl) (by kernel_rfl) ?_
        refine tnU ?_
        exact ⟨true, h, by kernel_rfl⟩
      · replace h := ite_f hc26 h
        obtain ⟨v27, hv27, h⟩ := bind_some h
        obtain ⟨v28, hv28, h⟩ := bind_some h
        refine rS { its := [(10, .c (COk.ren (tree_Tree_Latest_m0.ok O hO k a0 v27 hv27) (fun n => if n = 100000 then 100000 else if n = 100001 then 100001 else n) (injOn_of (by kernel_rfl)))), (12, .c (COk.ren (millwrightref02_Tree_Latest_m0.ok O hO k a1 v28 hv28) (fun n => if n = 100000 then 100002 else n) (injOn_of (by kernel_rfl))))], kn := [(18, .f hc26)] } [0, 1, 5, 24] [100000, 100001, 100002] hN (by kernel_rfl) (by kernel_rfl) ?_
        refine tnU ?_
        exact ⟨(v27 != v28), h, by kernel_rfl⟩
    · rintro _ ⟨v23, h, rfl⟩
      unfold millwrightlaw02_Shows_m0.j25 at h
      refine tS (b := v23) (by kernel_rfl) (fun hc24 => ?_) (fun hc24 => ?_)
      · replace h := ite_t hc24 h
        refine WpC.seq ?_
        refine rS {} [4] [100000, 100001, 100002] hN (by kernel_rfl) (by kernel_rfl) ?_
        refine tnU ?_
        refine WpC.ret ?_
        refine thenQ_ret ?_
        have hq := Option.some.inj h
        subst hq
        exact eR (by kernel_rfl) (by kernel_rfl)
      · replace h := ite_f hc24 h
        refine WpC.conv (cS [.k [0, 1, 5] [100000, 100001, 100002]] (by kernel_rfl) (by kernel_rfl)) (WpC.skip ?_)
        refine tnU ?_
        exact ⟨h, by kernel_rfl⟩
  · rintro _ ⟨h, rfl⟩
    unfold millwrightlaw02_Shows_m0.j22 at h
    refine sqJ (fun st' => millwrightlaw02_Shows_m0.j3 k a0 a1 v1 = some out ∧ st' = ⟨[(0, .loc 100000 0), (5, .p (.list (.named 3)) v1)], [(100000, .box [.mp 100001]), (100001, .map (.named 3) a0), (100002, .box [.p (.list (.named 3)) a1])]⟩) ?_ ?_
    · refine WpC.seq ?_
      obtain ⟨v4, hv4, h⟩ := bind_some h
      refine rS { its := [(1, .c (COk.ren (tree_Tree_Names_m0.ok O hO k a0 v4 hv4) (fun n => if n = 100000 then 100000 else if n = 100001 then 100001 else n) (injOn_of (by kernel_rfl))))] } [0, 1, 5, 26, 27, 28] [100000, 100001, 100002] hN (by kernel_rfl) (by kernel_rfl) ?_
      refine tnU ?_
      refine WpC.block ?_
      obtain ⟨o7, hlo7, h⟩ := bind_some h
      have hout8 := h
      clear h
      refine WpC.loop (U := Un) (fun n st' => ∃ v5 : Int, millwrightlaw02_Shows_m0.l6 k a0 a1 v1 v4 n v5 = some o7 ∧ st' = ⟨[(0, .loc 100000 0), (1, .loc 100002 0), (5, .p (.list (.named 3)) v1), (26, .p (.list .str) v4), (27, .p I6 ((v4.length : Int) : Int)), (28, .p I6 v5)], [(100000, .box [.mp 100001]), (100001, .map (.named 3) a0), (100002, .box [.p (.list (.named 3)) a1])]⟩) k ⟨0, hlo7, by kernel_rfl⟩ ?_
      clear hlo7
      rintro (_ | n) _ ⟨v5, h, rfl⟩
      · cases h
      · rw [millwrightlaw02_Shows_m0.l6] at h
        refine WpC.seq ?_
        refine rS {} [0, 1, 5, 26, 27, 28, 29] [100000, 100001, 100002] hN (by kernel_rfl) (by kernel_rfl) ?_
        refine tnU ?_
        refine WpC.seq ?_
        refine tS (b := (decide (v5 < (v4.length : Int)))) (by kernel_rfl) (fun hc9 => ?_) (fun hc9 => ?_)
        · replace h := ite_t hc9 h
          refine WpC.conv (cS [.k [0, 1, 5, 26, 27, 28] [100000, 100001, 100002]] (by kernel_rfl) (by kernel_rfl)) (WpC.skip ?_)
          refine tnU ?_
          refine sqJ (fun st' => millwrightlaw02_Shows_m0.j10 k (millwrightlaw02_Shows_m0.l6 k a0 a1 v1 v4 n) a0 a1 v1 v4 v5 = some o7 ∧ st' = ⟨[(0, .loc 100000 0), (1, .loc 100002 0), (5, .p (.list (.named 3)) v1), (26, .p (.list .str) v4), (27, .p I6 ((v4.length : Int) : Int)), (28, .p I6 v5)], [(100000, .box [.mp 100001]), (100001, .map (.named 3) a0), (100002, .box [.p (.list (.named 3)) a1])]⟩) ?_ ?_
          · refine WpC.block ?_
            refine WpC.seq ?_
            obtain ⟨v11, hv11, h⟩ := bind_some h
            refine rS { its := [(1, .v .str hv11)] } [0, 1, 5, 6, 7, 26, 27, 28] [100000, 100001, 100002] hN (by kernel_rfl) (by kernel_rfl) ?_
            refine tnU ?_
            refine sqJ (fun st' => ∃ v12 : Bool, millwrightlaw02_Shows_m0.j14 k (millwrightlaw02_Shows_m0.l6 k a0 a1 v1 v4 n) a0 a1 v1 v4 v5 v12 = some o7 ∧ st' = ⟨[(0, .loc 100000 0), (1, .loc 100002 0), (5, .p (.list (.named 3)) v1), (26, .p (.list .str) v4), (27, .p I6 ((v4.length : Int) : Int)), (28, .p I6 v5), (59, .p .bool v12)], [(100000, .box [.mp 100001]), (100001, .map (.named 3) a0), (100002, .box [.p (.list (.named 3)) a1])]⟩) ?_ ?_
            · rcases bool_cases (decide (v5 ≥ (v1.length : Int))) with hc15 | hc15
              · replace h := ite_t hc15 h
                refine rA { kn := [(37, .t hc15)] } [0, 1, 5, 26, 27, 28, 59] [100000, 100001, 100002] hN (by kernel_rfl) (by kernel_rfl) (by kernel_rfl) ?_
                refine tnU ?_
                exact ⟨true, h, by kernel_rfl⟩
              · replace h := ite_f hc15 h
                obtain ⟨v16, hv16, h⟩ := bind_some h
                rcases bool_cases (!(v11 == v16.f_Name)) with hc17 | hc17
                · replace h := ite_t hc17 h
                  refine rA { its := [(8, .v (.named 3) hv16)], kn := [(37, .f hc15), (46, .t hc17)] } [0, 1, 5, 26, 27, 28, 59] [100000, 100001, 100002] hN (by kernel_rfl) (by kernel_rfl) (by kernel_rfl) ?_
                  refine tnU ?_
                  exact ⟨true, h, by kernel_rfl⟩
                · replace h := ite_f hc17 h
                  obtain ⟨v18, hv18, h⟩ := bind_some h
                  obtain ⟨v19, hv19, h⟩ := bind_some h
                  refine rA { its := [(8, .v (.named 3) hv16), (16, .v (.named 3) hv18), (23, .v (.named 3) hv19), (25, .e 25 (sok_neS (U := Un) (rs := [(50, .p (.named 3) v18), (57, .p (.named 3) v19)]) rfl rfl Tryz.underlying92 (by kernel_rfl) (eqf_92 _ Tryz.underlying92) (by kernel_rfl) o0 o1))], kn := [(37, .f hc15), (46, .f hc17)] } [0, 1, 5, 26, 27, 28, 59] [100000, 100001, 100002] hN (by kernel_rfl) (by kernel_rfl) (by kernel_rfl) ?_
                  refine tnU ?_
                  exact ⟨(!(v18.f_Name == v19.f_Name && (v18.f_Content == v19.f_Content && (v18.f_Time == v19.f_Time && true)))), h, by kernel_rfl⟩
            · rintro _ ⟨v12, h, rfl⟩
              unfold millwrightlaw02_Shows_m0.j14 at h
              refine tS (b := v12) (by kernel_rfl) (fun hc13 => ?_) (fun hc13 => ?_)
              · replace h := ite_t hc13 h
                refine WpC.seq ?_
                refine rS {} [4] [100000, 100001, 100002] hN (by kernel_rfl) (by kernel_rfl) ?_
                refine tnU ?_
                refine WpC.ret ?_
                refine blockQ_ret ?_
                refine thenQ_ret ?_
                have hq := Option.some.inj h
                subst hq
                refine thenQ_ret ?_
                have h := hout8
                refine blockQ_ret ?_
                refine thenQ_ret ?_
                have hq := Option.some.inj h
                subst hq
                exact eR (by kernel_rfl) (by kernel_rfl)
              · replace h := ite_f hc13 h
                refine WpC.conv (cS [.k [0, 1, 5, 26, 27, 28] [100000, 100001, 100002]] (by kernel_rfl) (by kernel_rfl)) (WpC.skip ?_)
                refine blockQ_normal ?_
                refine tnU ?_
                exact ⟨h, by kernel_rfl⟩
          · rintro _ ⟨h, rfl⟩
            unfold millwrightlaw02_Shows_m0.j10 at h
            refine rS {} [0, 1, 5, 26, 27, 28] [100000, 100001, 100002] hN (by kernel_rfl) (by kernel_rfl) ?_
            refine tnU ?_
            exact ⟨n, Nat.lt_succ_self n, (IntKind.i64.wrap (v5 + 1)), h, by kernel_rfl⟩
        · replace h := ite_f hc9 h
          refine WpC.conv (cS [.k [0, 5] [100000, 100001, 100002]] (by kernel_rfl) (by kernel_rfl)) (WpC.exit ?_)
          refine thenQ_exit ?_
          have hq := Option.some.inj h
          subst hq
          refine thenQ_exit ?_
          have h := hout8
          refine blockQ_hit ?_
          refine tnU ?_
          exact ⟨h, by kernel_rfl⟩
    · rintro _ ⟨h, rfl⟩
      unfold millwrightlaw02_Shows_m0.j3 at h
      refine WpC.seq ?_
      obtain ⟨v2, hv2, h⟩ := bind_some h
      refine rS { its := [(1, .c (COk.ren (tree_Tree_Names_m0.ok O hO k a0 v2 hv2) (fun n => if n = 100000 then 100000 else if n = 100001 then 100001 else n) (injOn_of (by kernel_rfl))))] } [4] [100000, 100001, 100002] hN (by kernel_rfl) (by kernel_rfl) ?_
      refine tnU ?_
      refine WpC.ret ?_
      have hq := Option.some.inj h
      subst hq
      exact eR (by kernel_rfl) (by kernel_rfl)

theorem millwrightlaw04_StatSets.ok (O : Out) (hO : GOk O) (k : Nat) (a0 : List T_tree_File) (a1 : List UInt8) (a2 : Int) (out : Bool) (h : millwrightlaw04_StatSets.f k a0 a1 a2 = some out) : COk Un O Tryz.prog 6 { ar := [.p (.list (.named 3)) a0, .p .str a1, .p I6 a2], r := .p .bool out } := by
  refine cok_of_wp Tryz.func6 rfl (k := 56) rfl (Nat.le_of_ble_eq_true rfl) (namesOk_pure rfl rfl rfl rfl) ?_
  intro B hN
  refine WpC.conv (cvK (b := ⟨[(0, .p (.list (.named 3)) a0), (1, .p .str a1), (2, .p I6 a2)], []⟩) [0, 1, 2] [] (by kernel_rfl)) ?_
  unfold millwrightlaw04_StatSets.f at h
  refine WpC.seq ?_
  refine rS {} [0, 1, 2] [] hN (by kernel_rfl) (by kernel_rfl) ?_
  refine tnU ?_
  refine WpC.seq ?_
  refine WpC.seq ?_
  obtain ⟨v1, hv1, h⟩ := bind_some h
  refine rS { its := [(0, .c (millwrightlaw04_alive.ok O hO k v1 hv1))] } [0, 1, 2, 12] [] hN (by kernel_rfl) (by kernel_rfl) ?_
  refine tnU ?_
  refine tS (b := (!v1)) (by kernel_rfl) (fun hc2 => ?_) (fun hc2 => ?_)
  · replace h := ite_t hc2 h
    refine WpC.seq ?_
    refine rS {} [6] [] hN (by kernel_rfl) (by kernel_rfl) ?_
    refine tnU ?_
    refine WpC.ret ?_
    refine thenQ_ret ?_
    have hq := Option.some.inj h
    subst hq
    exact eR (by kernel_rfl) (by kernel_rfl)
  · replace h := ite_f hc2 h
    refine WpC.conv (cS [.k [0, 1, 2] []] (by kernel_rfl) (by kernel_rfl)) (WpC.skip ?_)
    refine tnU ?_
    refine sqJ (fun st' => millwrightlaw04_StatSets.j19 k a0 a1 a2 = some out ∧ st' = ⟨[(0, .p (.list (.named 3)) a0), (1, .p .str a1), (2, .p I6 a2)], []⟩) ?_ ?_
    · refine sqJ (fun st' => ∃ v20 : Bool, millwrightlaw04_StatSets.j22 k a0 a1 a2 v20 = some out ∧ st' = ⟨[(0, .p (.list (.named 3)) a0), (1, .p .str a1), (2, .p I6 a2), (19, .p .bool v20)], []⟩) ?_ ?_
      · obtain ⟨v23, hv23, h⟩ := bind_some h
        rcases bool_cases v23 with hc24 | hc24
        · replace h := ite_t hc24 h
          refine rS { its := [(1, .c (millwrightlaw02_Long.ok O hO k a0 40 v23 hv23))], kn := [(15, .t hc24)] } [0, 1, 2, 19] [] hN (by kernel_rfl) (by kernel_rfl) ?_
          refine tnU ?_
          exact ⟨true, h, by kernel_rfl⟩
        · replace h := ite_f hc24 h
          refine rS { its := [(1, .c (millwrightlaw02_Long.ok O hO k a0 40 v23 hv23))], kn := [(15, .f hc24)] } [0, 1, 2, 19] [] hN (by kernel_rfl) (by kernel_rfl) ?_
          refine tnU ?_
          exact ⟨(decide ((a1.length : Int) > 100)), h, by kernel_rfl⟩
      · rintro _ ⟨v20, h, rfl⟩
        unfold millwrightlaw04_StatSets.j22 at h
        refine tS (b := v20) (by kernel_rfl) (fun hc21 => ?_) (fun hc21 => ?_)
        · replace h := ite_t hc21 h
          refine WpC.seq ?_
          refine rS {} [6] [] hN (by kernel_rfl) (by kernel_rfl) ?_
          refine tnU ?_
          refine WpC.ret ?_
          refine thenQ_ret ?_
          have hq := Option.some.inj h
          subst hq
          exact eR (by kernel_rfl) (by kernel_rfl)
        · replace h := ite_f hc21 h
          refine WpC.conv (cS [.k [0, 1, 2] []] (by kernel_rfl) (by kernel_rfl)) (WpC.skip ?_)
          refine tnU ?_
          exact ⟨h, by kernel_rfl⟩
    · rintro _ ⟨h, rfl⟩
      unfold millwrightlaw04_StatSets.j19 at h
      refine WpC.seq ?_
      obtain ⟨v3, hv3, h⟩ := bind_some h
      refine rS { its := [(1, .c (COk.ren (tree_Of.ok O hO k a0 v3 hv3) (fun n => if n = 60500 then 10001 else if n = 60501 then 10002 else n) (injOn_of (by kernel_rfl))))] } [0, 1, 2, 7, 8] [10001, 10002] hN (by kernel_rfl) (by kernel_rfl) ?_
      refine tnU ?_
      refine WpC.seq ?_
      refine WpC.seq ?_
      refine rS {} [0, 1, 2, 7, 26] [10001, 10002] hN (by kernel_rfl) (by kernel_rfl) ?_
      refine tnU ?_
      refine tS (b := (!(v3.2.2 == 0))) (by kernel_rfl) (fun hc4 => ?_) (fun hc4 => ?_)
      · replace h := ite_t hc4 h
        refine WpC.seq ?_
        refine rS {} [6] [] hN (by kernel_rfl) (by kernel_rfl) ?_
        refine tnU ?_
        refine WpC.ret ?_
        refine thenQ_ret ?_
        have hq := Option.some.inj h
        subst hq
        exact eR (by kernel_rfl) (by kernel_rfl)
      · replace h := ite_f hc4 h
        refine WpC.conv (cS [.k [0, 1, 2, 7] [10001, 10002]] (by kernel_rfl) (by kernel_rfl)) (WpC.skip ?_)
        refine tnU ?_
        refine WpC.seq ?_
        obtain ⟨v5, hv5, h⟩ := bind_some h
        obtain ⟨v6, hv6, h⟩ := bind_some h
        refine rS { its := [(1, .c (millwrightlaw02_Of.ok O hO k a0 v5 hv5)), (2, .c (COk.ren (millwrightref02_Of.ok O hO k v5 v6 hv6) (fun n => if n = 60500 then 10003 else n) (injOn_of (by kernel_rfl))))] } [1, 2, 7, 9, 10] [10001, 10002, 10003] hN (by kernel_rfl) (by kernel_rfl) ?_
        refine tnU ?_
        refine sqJ (fun st' => millwrightlaw04_StatSets.j14 k a1 a2 v3 v6 = some out ∧ st' = ⟨[(1, .p .str a1), (2, .p I6 a2), (7, .opt v3.1 10001), (9, .opt v6.1 10003)], [(10001, .opt v3.1 (.box [.mp 10002])), (10002, .opt v3.1 (.map (.named 3) v3.2.1)), (10003, .opt v6.1 (.box [.p (.list (.named 3)) v6.2.1]))]⟩) ?_ ?_
        · refine sqJ (fun st' => ∃ v15 : Bool, millwrightlaw04_StatSets.j17 k a1 a2 v3 v6 v15 = some out ∧ st' = ⟨[(1, .p .str a1), (2, .p I6 a2), (7, .opt v3.1 10001), (9, .opt v6.1 10003), (40, .p .bool v15)], [(10001, .opt v3.1 (.box [.mp 10002])), (10002, .opt v3.1 (.map (.named 3) v3.2.1)), (10003, .opt v6.1 (.box [.p (.list (.named 3)) v6.2.1]))]⟩) ?_ ?_
          · rcases bool_cases (v6.2.2 != 0) with hc18 | hc18
            · replace h := ite_t hc18 h
              refine rS { kn := [(37, .t hc18)] } [1, 2, 7, 9, 40] [10001, 10002, 10003] hN (by kernel_rfl) (by kernel_rfl) ?_
              refine tnU ?_
              exact ⟨true, h, by kernel_rfl⟩
            · replace h := ite_f hc18 h
              refine rS { kn := [(37, .f hc18)] } [1, 2, 7, 9, 40] [10001, 10002, 10003] hN (by kernel_rfl) (by kernel_rfl) ?_
              refine tnU ?_
              exact ⟨(!v3.1), h, by kernel_rfl⟩
          · rintro _ ⟨v15, h, rfl⟩
            unfold millwrightlaw04_StatSets.j17 at h
            refine tS (b := v15) (by kernel_rfl) (fun hc16 => ?_) (fun hc16 => ?_)
            · replace h := ite_t hc16 h
              refine WpC.seq ?_
              refine rS {} [6] [] hN (by kernel_rfl) (by kernel_rfl) ?_
              refine tnU ?_
              refine WpC.ret ?_
              refine thenQ_ret ?_
              have hq := Option.some.inj h
              subst hq
              exact eR (by kernel_rfl) (by kernel_rfl)
            · replace h := ite_f hc16 h
              refine WpC.conv (cS [.k [1, 2, 7, 9] [10001, 10002, 10003]] (by kernel_rfl) (by kernel_rfl)) (WpC.skip ?_)
              refine tnU ?_
              exact ⟨h, by kernel_rfl⟩
        · rintro _ ⟨h, rfl⟩
          unfold millwrightlaw04_StatSets.j14 at h
          refine WpC.seq ?_
          obtain ⟨hc7, h⟩ := if_some h
          refine WpC.conv (cS [.oS 7 hc7, .k [1, 2, 7, 9] [10001, 10002, 10003], .oK 10001 hc7, .k [1, 2, 7, 9] [10001, 10002, 10003], .oK 10002 hc7, .k [1, 2, 7, 9] [10001, 10002, 10003]] (by kernel_rfl) (by kernel_rfl)) ?_
          obtain ⟨hc8, h⟩ := if_some h
          refine WpC.conv (cS [.oS 9 hc8, .k [1, 2, 7, 9] [10001, 10002, 10003], .oK 10003 hc8, .k [1, 2, 7, 9] [10001, 10002, 10003]] (by kernel_rfl) (by kernel_rfl)) ?_
          obtain ⟨v9, hv9, h⟩ := bind_some h
          obtain ⟨v10, hv10, h⟩ := bind_some h
          obtain ⟨v11, hv11, h⟩ := bind_some h
          rcases bool_cases (v10 == v11.1) with hc12 | hc12
          · replace h := ite_t hc12 h
            obtain ⟨v13, hv13, h⟩ := bind_some h
            refine rS { its := [(3, .c (COk.ren (stat_Set_m0.ok O hO k v3.2.1 a1 a2 v9 hv9) (fun n => if n = 100000 then 10001 else if n = 100001 then 10002 else n) (injOn_of (by kernel_rfl)))), (4, .c (millwrightnum_Num.ok O hO k v9.1 v10 hv10)), (8, .c (COk.ren (millwrightref04_Set_m0.ok O hO k v6.2.1 a1 a2 v11 hv11) (fun n => if n = 100000 then 10003 else n) (injOn_of (by kernel_rfl)))), (13, .c (COk.ren (millwrightlaw02_Shows_m0.ok O hO k v9.2 v11.2 v13 hv13) (fun n => if n = 100000 then 10001 else if n = 100001 then 10002 else if n = 100002 then 10003 else n) (injOn_of (by kernel_rfl))))], kn := [(51, .t hc12)] } [6] [] hN (by kernel_rfl) (by kernel_rfl) ?_
            refine tnU ?_
            refine WpC.ret ?_
            have hq := Option.some.inj h
            subst hq
            exact eR (by kernel_rfl) (by kernel_rfl)
          · replace h := ite_f hc12 h
            refine rS { its := [(3, .c (COk.ren (stat_Set_m0.ok O hO k v3.2.1 a1 a2 v9 hv9) (fun n => if n = 100000 then 10001 else if n = 100001 then 10002 else n) (injOn_of (by kernel_rfl)))), (4, .c (millwrightnum_Num.ok O hO k v9.1 v10 hv10)), (8, .c (COk.ren (millwrightref04_Set_m0.ok O hO k v6.2.1 a1 a2 v11 hv11) (fun n => if n = 100000 then 10003 else n) (injOn_of (by kernel_rfl))))], kn := [(51, .f hc12)] } [6] [] hN (by kernel_rfl) (by kernel_rfl) ?_
            refine tnU ?_
            refine WpC.ret ?_
            have hq := Option.some.inj h
            subst hq
            exact eR (by kernel_rfl) (by kernel_rfl)

end Go.Proofs.YtcblgpcgdihcbaaGreatDoor
