/- A part of the proof of a given law: SSC4. Own work, printed in part by a program of mine. -/
import Derived.Test.YtcblgpcgdihcbaaGreatDoorK17SSC3
namespace Go.Proofs.YtcblgpcgdihcbaaGreatDoor
open Go Go.AM
set_option linter.unusedVariables false
set_option linter.unusedSimpArgs false
set_option maxRecDepth 100000
theorem tree_Tree_Names_m0.ok (O : Out) (hO : GOk O) (k : Nat) (a0 : List ((List UInt8) × T_tree_File)) (out : List (List UInt8)) (h : tree_Tree_Names_m0.f k a0 = some out) : COk Un O Tryz.prog 60 { ar := [.loc 100000 0], r := .p (.list .str) out, bs := [(100000, .box [.mp 100001]), (100001, .map (.named 3) a0)], bs' := [(100000, .box [.mp 100001]), (100001, .map (.named 3) a0)] } := by
  refine cok_of_wp Tryz.func60 rfl (k := 9) rfl (Nat.le_of_ble_eq_true rfl) (namesOk_of (by kernel_rfl)) ?_
  intro B hN
  refine WpC.conv (cvK (b := ⟨[(0, .loc 100000 0)], [(100000, .box [.mp 100001]), (100001, .map (.named 3) a0)]⟩) [0] [100000, 100001] (by kernel_rfl)) ?_
  unfold tree_Tree_Names_m0.f at h
  refine WpC.seq ?_
  refine rS {} [0] [100000, 100001] hN (by kernel_rfl) (by kernel_rfl) ?_
  refine tnU ?_
  refine WpC.seq ?_
  obtain ⟨v1, hv1, h⟩ := bind_some h
  obtain ⟨v2, hv2, h⟩ := bind_some h
  refine rS { its := [(4, .c (COk.ren (pKeys.ok (U := Un) (t := .named 3) O hO k a0 v1 hv1) (fun n => if n = 60500 then 10001 else if n = 100000 then 100001 else n) (injOn_of (by kernel_rfl)))), (5, .c (COk.ren (pSorted.ok (U := Un) (t := .named 3) O hO k a0 v2 hv2) (fun n => if n = 100000 then 10001 else if n = 100001 then 100001 else n) (injOn_of (by kernel_rfl))))] } [2] [100000, 100001] hN (by kernel_rfl) (by kernel_rfl) ?_
  refine tnU ?_
  refine WpC.ret ?_
  have hq := Option.some.inj h
  subst hq
  exact eR (by kernel_rfl) (by kernel_rfl)

theorem tree_Tree_Files_m0.ok (O : Out) (hO : GOk O) (k : Nat) (a0 : List ((List UInt8) × T_tree_File)) (out : List T_tree_File) (h : tree_Tree_Files_m0.f k a0 = some out) : COk Un O Tryz.prog 57 { ar := [.loc 100000 0], r := .p (.list (.named 3)) out, bs := [(100000, .box [.mp 100001]), (100001, .map (.named 3) a0)], bs' := [(100000, .box [.mp 100001]), (100001, .map (.named 3) a0)] } := by
  refine cok_of_wp Tryz.func57 rfl (k := 24) rfl (Nat.le_of_ble_eq_true rfl) (namesOk_of (by kernel_rfl)) ?_
  intro B hN
  refine WpC.conv (cvK (b := ⟨[(0, .loc 100000 0)], [(100000, .box [.mp 100001]), (100001, .map (.named 3) a0)]⟩) [0] [100000, 100001] (by kernel_rfl)) ?_
  unfold tree_Tree_Files_m0.f at h
  refine WpC.seq ?_
  refine rS {} [0] [100000, 100001] hN (by kernel_rfl) (by kernel_rfl) ?_
  refine tnU ?_
  refine WpC.seq ?_
  refine rS {} [0, 3] [100000, 100001] hN (by kernel_rfl) (by kernel_rfl) ?_
  refine tnU ?_
  refine sqJ (fun st' => ∃ v1 : List T_tree_File, tree_Tree_Files_m0.j2 k a0 v1 = some out ∧ st' = ⟨[(3, .vec 1003 3 0 v1.length)], [(1003, .row 54 (.named 3) v1 false), (100000, .box [.mp 100001]), (100001, .map (.named 3) a0)]⟩) ?_ ?_
  · refine WpC.seq ?_
    obtain ⟨v3, hv3, h⟩ := bind_some h
    refine rS { its := [(1, .c (COk.ren (tree_Tree_Names_m0.ok O hO k a0 v3 hv3) (fun n => if n = 100000 then 100000 else if n = 100001 then 100001 else n) (injOn_of (by kernel_rfl))))] } [0, 3, 7, 8, 9] [100000, 100001] hN (by kernel_rfl) (by kernel_rfl) ?_
    refine tnU ?_
    refine WpC.block ?_
    obtain ⟨o8, hlo8, h⟩ := bind_some h
    have hout9 := h
    clear h
    refine WpC.conv (cS [.th 3 1003 54 (.named 3), .k [0, 3, 7, 8, 9] [1003, 100000, 100001]] (by kernel_rfl) (by kernel_rfl)) ?_
    refine WpC.loop (U := Un) (fun n st' => ∃ v4 : List T_tree_File, ∃ v5 : Int, tree_Tree_Files_m0.l6 k a0 v3 n v4 v5 = some o8 ∧ st' = ⟨[(0, .loc 100000 0), (3, .vec 1003 3 0 v4.length), (7, .p (.list .str) v3), (8, .p I6 ((v3.length : Int) : Int)), (9, .p I6 v5)], [(1003, .row 54 (.named 3) v4 false), (100000, .box [.mp 100001]), (100001, .map (.named 3) a0)]⟩) k ⟨[], 0, hlo8, by kernel_rfl⟩ ?_
    clear hlo8
    rintro (_ | n) _ ⟨v4, v5, h, rfl⟩
    · cases h
    · rw [tree_Tree_Files_m0.l6] at h
      refine WpC.seq ?_
      refine rS {} [0, 3, 7, 8, 9, 10] [1003, 100000, 100001] hN (by kernel_rfl) (by kernel_rfl) ?_
      refine tnU ?_
      refine WpC.seq ?_
      refine tS (b := (decide (v5 < (v3.length : Int)))) (by kernel_rfl) (fun hc10 => ?_) (fun hc10 => ?_)
      · replace h := ite_t hc10 h
        refine WpC.conv (cS [.k [0, 3, 7, 8, 9] [1003, 100000, 100001]] (by kernel_rfl) (by kernel_rfl)) (WpC.skip ?_)
        refine tnU ?_
        refine WpC.seq ?_
        refine WpC.block ?_
        refine WpC.seq ?_
        obtain ⟨v11, hv11, h⟩ := bind_some h
        refine rS { its := [(0, .v .str hv11)] } [0, 3, 5, 7, 8, 9] [1003, 100000, 100001] hN (by kernel_rfl) (by kernel_rfl) ?_
        refine tnU ?_
        obtain ⟨g12, h⟩ := if_some h
        refine rS { its := [(8, .g g12)] } [0, 3, 7, 8, 9] [21, 100000, 100001] hN (by kernel_rfl) (by kernel_rfl) ?_
        refine blockQ_normal ?_
        refine tnU ?_
        refine rSC {} [0, 3, 7, 8, 9] [21, 100000, 100001] hN (by kernel_rfl) (by kernel_rfl) (cS [.rn 21 1003, .k [0, 3, 7, 8, 9] [1003, 100000, 100001]] (by kernel_rfl) (by kernel_rfl)) ?_
        refine tnU ?_
        exact ⟨n, Nat.lt_succ_self n, (v4 ++ [((mget v11 a0).getD (T_tree_File.mk [] [] 0))]), (IntKind.i64.wrap (v5 + 1)), h, by kernel_rfl⟩
      · replace h := ite_f hc10 h
        refine WpC.conv (cS [.k [3] [1003, 100000, 100001]] (by kernel_rfl) (by kernel_rfl)) (WpC.exit ?_)
        refine thenQ_exit ?_
        have hq := Option.some.inj h
        subst hq
        refine thenQ_exit ?_
        have h := hout9
        refine blockQ_hit ?_
        refine tnU ?_
        exact ⟨v4, h, by kernel_rfl⟩
  · rintro _ ⟨v1, h, rfl⟩
    unfold tree_Tree_Files_m0.j2 at h
    refine WpC.seq ?_
    refine rS {} [2] [1003, 100000, 100001] hN (by kernel_rfl) (by kernel_rfl) ?_
    refine tnU ?_
    refine WpC.conv (cS [.fz 2, .k [2] [100000, 100001]] (by kernel_rfl) (by kernel_rfl)) (WpC.ret ?_)
    have hq := Option.some.inj h
    subst hq
    exact eR (by kernel_rfl) (by kernel_rfl)

theorem tree_Tree_Latest_m0.ok (O : Out) (hO : GOk O) (k : Nat) (a0 : List ((List UInt8) × T_tree_File)) (out : Int) (h : tree_Tree_Latest_m0.f k a0 = some out) : COk Un O Tryz.prog 58 { ar := [.loc 100000 0], r := .p I6 out, bs := [(100000, .box [.mp 100001]), (100001, .map (.named 3) a0)], bs' := [(100000, .box [.mp 100001]), (100001, .map (.named 3) a0)] } := by
  refine cok_of_wp Tryz.func58 rfl (k := 20) rfl (Nat.le_of_ble_eq_true rfl) (namesOk_of (by kernel_rfl)) ?_
  intro B hN
  refine WpC.conv (cvK (b := ⟨[(0, .loc 100000 0)], [(100000, .box [.mp 100001]), (100001, .map (.named 3) a0)]⟩) [0] [100000, 100001] (by kernel_rfl)) ?_
  unfold tree_Tree_Latest_m0.f at h
  refine WpC.seq ?_
  refine rS {} [0] [100000, 100001] hN (by kernel_rfl) (by kernel_rfl) ?_
  refine tnU ?_
  refine WpC.seq ?_
  refine rS {} [0, 3] [100000, 100001] hN (by kernel_rfl) (by kernel_rfl) ?_
  refine tnU ?_
  refine sqJ (fun st' => ∃ v1 : Int, tree_Tree_Latest_m0.j2 k a0 v1 = some out ∧ st' = ⟨[(3, .p I6 v1)], [(100000, .box [.mp 100001]), (100001, .map (.named 3) a0)]⟩) ?_ ?_
  · refine WpC.seq ?_
    refine sT (st' := ⟨[(0, .loc 100000 0), (3, .p I6 (0 : Int))], [(100000, .box [.mp 100001]), (100001, .map (.named 3) a0)]⟩) (by kernel_rfl) ?_
    refine WpC.openMap (U := Un) (t := .named 3) (n := 100001) (kvs := a0) (.tail _ (.head _)) ?_
    intro es3 ck3 ys3 hys3 hri3
    refine WpC.conv (cvK (b := ⟨[(0, .loc 100000 0), (3, .p I6 (0 : Int))], [(100000, .box [.mp 100001]), (100001, .mapE (.named 3) es3 ck3 ys3)]⟩) [0, 3] [100000, 100001] (by kernel_rfl)) ?_
    refine rS { its := [(4, .e 4 (sok_range (U := Un) (t := .named 3) (es := es3) (clock := ck3) (kvs := a0) (rs := [(9, .mp 100001)]) (d := 10) (m := 100001) rfl rfl rfl map_83 hys3 (by decide) o0))] } [3, 10] [10, 100000, 100001] hN (by kernel_rfl) (by kernel_rfl) ?_
    refine tnU ?_
    refine WpC.block ?_
    obtain ⟨o8, hlo8, h⟩ := bind_some h
    have hout9 := h
    clear h
    refine WpC.loop (U := Un) (fun n st' => ∃ v4 : Int, ∃ v5 : List ((List UInt8) × T_tree_File), tree_Tree_Latest_m0.l6 k n v4 v5 = some o8 ∧ st' = ⟨[(3, .p I6 v4), (10, .loc 10 0)], [(10, .iter 100001 (.named 3) es3 ck3 ys3 v5 none), (100000, .box [.mp 100001]), (100001, .mapE (.named 3) es3 ck3 ys3)]⟩) k ⟨0, a0, hlo8, by kernel_rfl⟩ ?_
    clear hlo8
    rintro (_ | n) _ ⟨v4, v5, h, rfl⟩
    · cases h
    · refine WpC.seq ?_
      refine sT (st' := ⟨[(3, .p I6 v4), (10, .loc 10 0)], [(10, .iter 100001 (.named 3) es3 ck3 ys3 v5 none), (100000, .box [.mp 100001]), (100001, .mapE (.named 3) es3 ck3 ys3)]⟩) (by kernel_rfl) ?_
      refine WpC.next (U := Un) (t := .named 3) (d := 10) (m := 100001) (it := 10) (left := v5) [3, 10, 12] [10, 100000, 100001] hN rfl rfl rfl rfl rfl rfl (by decide) (by decide) (by decide) (.tail _ (.head _)) (.head _) (.tail _ (.tail _ (.head _))) (fun (v10 : (List UInt8) × T_tree_File) (v11 : List ((List UInt8) × T_tree_File)) hp12 ha12 => ⟨⟨[(3, .p I6 v4), (10, .loc 10 0), (12, .p .bool true)], [(10, .iter 100001 (.named 3) es3 ck3 ys3 v11 (some v10)), (100000, .box [.mp 100001]), (100001, .mapE (.named 3) es3 ck3 ys3)]⟩, by kernel_rfl, _, (cvR _), ?_⟩) (fun hl12 => ⟨⟨[(3, .p I6 v4), (10, .loc 10 0), (12, .p .bool false)], [(10, .iter 100001 (.named 3) es3 ck3 ys3 v5 none), (100000, .box [.mp 100001]), (100001, .mapE (.named 3) es3 ck3 ys3)]⟩, by kernel_rfl, _, (cvR _), ?_⟩)
      · have h := tree_Tree_Latest_m0.l6_perm k hp12 ha12 h
        unfold tree_Tree_Latest_m0.l6 at h
        obtain ⟨_, h⟩ := if_some h
        refine tnU ?_
        refine WpC.seq ?_
        refine tS (b := true) (by kernel_rfl) (fun hc => ?_) (fun hc => ?_)
        · refine WpC.conv (cS [.k [3, 10] [10, 100000, 100001]] (by kernel_rfl) (by kernel_rfl)) (WpC.skip ?_)
          refine tnU ?_
          refine WpC.block ?_
          refine WpC.seq ?_
          refine rS { its := [(0, .e 0 (sok_entry (U := Un) (t := .named 3) (rs := [(10, .loc 10 0)]) (d := 10) (m := 100001) (es := es3) (clock := ck3) (ys := ys3) (left := v11) (y := v10) rfl rfl o0))] } [3, 5, 10] [5, 10, 100000, 100001] hN (by kernel_rfl) (by kernel_rfl) ?_
          refine tnU ?_
          refine rSC { its := [(3, .e 3 (sok_max (U := Un) (rs := [(15, .p I6 v4), (17, .p I6 v10.2.f_Time)]) rfl rfl o0 o1))] } [3, 10] [10, 100000, 100001] hN (by kernel_rfl) (by kernel_rfl) (cS [.it 10, .k [3, 10] [10, 100000, 100001]] (by kernel_rfl) (by kernel_rfl)) ?_
          refine blockQ_normal ?_
          refine tnU ?_
          exact ⟨n, Nat.lt_succ_self n, (if v10.2.f_Time > v4 then v10.2.f_Time else v4), v11, h, by kernel_rfl⟩
        · cases hc
      · subst hl12
        unfold tree_Tree_Latest_m0.l6 at h
        refine tnU ?_
        refine WpC.seq ?_
        refine tS (b := false) (by kernel_rfl) (fun hc => ?_) (fun hc => ?_)
        · cases hc
        · refine WpC.conv (cS [.k [3] [100000, 100001], .cm (t := .named 3) 100001 hys3 hri3, .k [3] [100000, 100001]] (by kernel_rfl) (by kernel_rfl)) (WpC.exit ?_)
          refine thenQ_exit ?_
          have hq := Option.some.inj h
          subst hq
          refine thenQ_exit ?_
          have h := hout9
          refine blockQ_hit ?_
          refine tnU ?_
          exact ⟨v4, h, by kernel_rfl⟩
  · rintro _ ⟨v1, h, rfl⟩
    unfold tree_Tree_Latest_m0.j2 at h
    refine WpC.seq ?_
    refine rS {} [2] [100000, 100001] hN (by kernel_rfl) (by kernel_rfl) ?_
    refine tnU ?_
    refine WpC.ret ?_
    have hq := Option.some.inj h
    subst hq
    exact eR (by kernel_rfl) (by kernel_rfl)

theorem millwrightref02_Tree_Latest_m0.ok (O : Out) (hO : GOk O) (k : Nat) (a0 : List T_tree_File) (out : Int) (h : millwrightref02_Tree_Latest_m0.f k a0 = some out) : COk Un O Tryz.prog 59 { ar := [.loc 100000 0], r := .p I6 out, bs := [(100000, .box [.p (.list (.named 3)) a0])], bs' := [(100000, .box [.p (.list (.named 3)) a0])] } := by
  refine cok_of_wp Tryz.func59 rfl (k := 23) rfl (Nat.le_of_ble_eq_true rfl) (namesOk_of (by kernel_rfl)) ?_
  intro B hN
  refine WpC.conv (cvK (b := ⟨[(0, .loc 100000 0)], [(100000, .box [.p (.list (.named 3)) a0])]⟩) [0] [100000] (by kernel_rfl)) ?_
  unfold millwrightref02_Tree_Latest_m0.f at h
  refine WpC.seq ?_
  refine rS {} [0] [100000] hN (by kernel_rfl) (by kernel_rfl) ?_
  refine tnU ?_
  refine WpC.seq ?_
  refine rS {} [0, 3] [100000] hN (by kernel_rfl) (by kernel_rfl) ?_
  refine tnU ?_
  refine sqJ (fun st' => ∃ v1 : Int, millwrightref02_Tree_Latest_m0.j2 k a0 v1 = some out ∧ st' = ⟨[(3, .p I6 v1)], [(100000, .box [.p (.list (.named 3)) a0])]⟩) ?_ ?_
  · refine WpC.seq ?_
    refine rS {} [3, 9, 10, 11] [100000] hN (by kernel_rfl) (by kernel_rfl) ?_
    refine tnU ?_
    refine WpC.block ?_
    obtain ⟨o7, hlo7, h⟩ := bind_some h
    have hout8 := h
    clear h
    refine WpC.loop (U := Un) (fun n st' => ∃ v3 : Int, ∃ v4 : Int, millwrightref02_Tree_Latest_m0.l5 k a0 n v3 v4 = some o7 ∧ st' = ⟨[(3, .p I6 v3), (9, .p (.list (.named 3)) a0), (10, .p I6 ((a0.length : Int) : Int)), (11, .p I6 v4)], [(100000, .box [.p (.list (.named 3)) a0])]⟩) k ⟨0, 0, hlo7, by kernel_rfl⟩ ?_
    clear hlo7
    rintro (_ | n) _ ⟨v3, v4, h, rfl⟩
    · cases h
    · rw [millwrightref02_Tree_Latest_m0.l5] at h
      refine WpC.seq ?_
      refine rS {} [3, 9, 10, 11, 12] [100000] hN (by kernel_rfl) (by kernel_rfl) ?_
      refine tnU ?_
      refine WpC.seq ?_
      refine tS (b := (decide (v4 < (a0.length : Int)))) (by kernel_rfl) (fun hc9 => ?_) (fun hc9 => ?_)
      · replace h := ite_t hc9 h
        refine WpC.conv (cS [.k [3, 9, 10, 11] [100000]] (by kernel_rfl) (by kernel_rfl)) (WpC.skip ?_)
        refine tnU ?_
        refine sqJ (fun st' => ∃ v10 : Int, millwrightref02_Tree_Latest_m0.j11 k (millwrightref02_Tree_Latest_m0.l5 k a0 n) a0 v4 v10 = some o7 ∧ st' = ⟨[(3, .p I6 v10), (9, .p (.list (.named 3)) a0), (10, .p I6 ((a0.length : Int) : Int)), (11, .p I6 v4)], [(100000, .box [.p (.list (.named 3)) a0])]⟩) ?_ ?_
        · refine WpC.block ?_
          refine WpC.seq ?_
          obtain ⟨v12, hv12, h⟩ := bind_some h
          refine rS { its := [(0, .v (.named 3) hv12)] } [3, 5, 9, 10, 11] [5, 100000] hN (by kernel_rfl) (by kernel_rfl) ?_
          refine tnU ?_
          refine WpC.seq ?_
          refine rS {} [3, 5, 9, 10, 11, 18] [5, 100000] hN (by kernel_rfl) (by kernel_rfl) ?_
          refine tnU ?_
          refine tS (b := (decide (v12.f_Time > v3))) (by kernel_rfl) (fun hc13 => ?_) (fun hc13 => ?_)
          · replace h := ite_t hc13 h
            refine rS {} [3, 9, 10, 11] [100000] hN (by kernel_rfl) (by kernel_rfl) ?_
            refine blockQ_normal ?_
            refine tnU ?_
            exact ⟨v12.f_Time, h, by kernel_rfl⟩
          · replace h := ite_f hc13 h
            refine WpC.conv (cS [.k [3, 9, 10, 11] [100000]] (by kernel_rfl) (by kernel_rfl)) (WpC.skip ?_)
            refine blockQ_normal ?_
            refine tnU ?_
            exact ⟨v3, h, by kernel_rfl⟩
        · rintro _ ⟨v10, h, rfl⟩
          unfold millwrightref02_Tree_Latest_m0.j11 at h
          refine rS {} [3, 9, 10, 11] [100000] hN (by kernel_rfl) (by kernel_rfl) ?_
          refine tnU ?_
          exact ⟨n, Nat.lt_succ_self n, v10, (IntKind.i64.wrap (v4 + 1)), h, by kernel_rfl⟩
      · replace h := ite_f hc9 h
        refine WpC.conv (cS [.k [3] [100000]] (by kernel_rfl) (by kernel_rfl)) (WpC.exit ?_)
        refine thenQ_exit ?_
        have hq := Option.some.inj h
        subst hq
        refine thenQ_exit ?_
        have h := hout8
        refine blockQ_hit ?_
        refine tnU ?_
        exact ⟨v3, h, by kernel_rfl⟩
  · rintro _ ⟨v1, h, rfl⟩
    unfold millwrightref02_Tree_Latest_m0.j2 at h
    refine WpC.seq ?_
    refine rS {} [2] [100000] hN (by kernel_rfl) (by kernel_rfl) ?_
    refine tnU ?_
    refine WpC.ret ?_
    have hq := Option.some.inj h
    subst hq
    exact eR (by kernel_rfl) (by kernel_rfl)

theorem millwrightlaw02_Shows_m0.ok (O : Out) (hO : GOk O) (k : Nat) (a0 : List ((List UInt8) × T_tree_File)) (a1 : List T_tree_File) (out : Bool) (h : millwrightlaw02_Shows_m0.f k a0 a1 = some out) : COk Un O Tryz.prog 32 { ar := [.loc 100000 0, .loc 100002 0], r := .p .bool out, bs := [(100000, .box [.mp 100001]), (100001, .map (.named 3) a0), (100002, .box [.p (.list (.named 3)) a1])], bs' := [(100000, .box [.mp 100001]), (100001, .map (.named 3) a0), (100002, .box [.p (.list (.named 3)) a1])] } := by
  refine cok_of_wp Tryz.func32 rfl (k := 67) rfl (Nat.le_of_ble_eq_true rfl) (namesOk_of (by kernel_rfl)) ?_
  intro B hN
  refine WpC.conv (cvK (b := ⟨[(0, .loc 100000 0), (1, .loc 100002 0)], [(100000, .box [.mp 100001]), (100001, .map (.named 3) a0), (100002, .box [.p (.list (.named 3)) a1])]⟩) [0, 1] [100000, 100001, 100002] (by kernel_rfl)) ?_
  unfold millwrightlaw02_Shows_m0.f at h
  refine WpC.seq ?_
  refine rS {} [0, 1] [100000, 100001, 100002] hN (by kernel_rfl) (by kernel_rfl) ?_
  refine tnU ?_
  refine WpC.seq ?_
  obtain ⟨v1, hv1, h⟩ := bind_some h
  refine rS { its := [(1, .c (COk.ren (tree_Tree_Files_m0.ok O hO k a0 v1 hv1) (fun n => if n = 100000 then 100000 else if n = 100001 then 100001 else n) (injOn_of (by kernel_rfl))))] } [0, 1, 5] [100000, 100001, 100002] hN (by kernel_rfl) (by kernel_rfl) ?_
  refine tnU ?_
  refine sqJ (fun st' => millwrightlaw02_Shows_m0.j22 k a0 a1 v1 = some out ∧ st' = ⟨[(0, .loc 100000 0), (1, .loc 100002 0), (5, .p (.list (.named 3)) v1)], [(100000, .box [.mp 100001]), (100001, .map (.named 3) a0), (100002, .box [.p (.list (.named 3)) a1])]⟩) ?_ ?_
  · refine sqJ (fun st' => ∃ v23 : Bool, millwrightlaw02_Shows_m0.j25 k a0 a1 v1 v23 = some out ∧ st' = ⟨[(0, .loc 100000 0), (1, .loc 100002 0), (5, .p (.list (.named 3)) v1), (24, .p .bool v23)], [(100000, .box [.mp 100001]), (100001, .map (.named 3) a0), (100002, .box [.p (.list (.named 3)) a1])]⟩) ?_ ?_
    · rcases bool_cases ((v1.length : Int) != (a1.length : Int)) with hc26 | hc26
      · replace h := ite_t hc26 h
        refine rS { kn := [(18, .t hc26)] } [0, 1, 5, 24] [100000, 100001, 100002] hN (by kernel_rfl) (by kernel_rfl) ?_
        refine tnU ?_
        exact ⟨true, h, by kernel_rfl⟩
      · replace h := ite_f hc26 h
        obtain ⟨v27, hv27, h⟩ := bind_some h
        obtain ⟨v28, hv28, h⟩ := bind_some h
        refine rS { its := [(10, .c (COk.ren (tree_Tree_Latest_m0.ok O hO k a0 v27 hv27) (fun n => if n = 100000 then 100000 else if n = 100001 then 100001 else n) (injOn_of (by kernel_rfl)))), (12, .c (COk.ren (millwrightref02_Tree_Latest_m0.ok O hO k a1 v28 hv28) (fun n => if n = 100000 then 100002 else n) (injOn_of (by kernel_rfl))))], kn := [(18, .f hc26)] } [0, 1, 5, 24] [100000, 100001, 100002] hN (by kernel_rfl) (by kernel_rfl) ?_
        refine tnU ?_
        exact ⟨(v27 != v28), h, by kernel_rfl⟩
    · rintro _ ⟨v23, h, rfl⟩
      unfold millwrightlaw02_Shows_m0.j25 at h
      refine tS (b := v23) (by kernel_rfl) (fun hc24 => ?_) (fun hc24 => ?_)
      · replace h := ite_t hc24 h
        refine WpC.seq ?_
        refine rS {} [4] [100000, 100001, 100002] hN (by kernel_rfl) (by kernel_rfl) ?_
        refine tnU ?_
        refine WpC.ret ?_
        refine thenQ_ret ?_
        have hq := Option.some.inj h
        subst hq
        exact eR (by kernel_rfl) (by kernel_rfl)
      · replace h := ite_f hc24 h
        refine WpC.conv (cS [.k [0, 1, 5] [100000, 100001, 100002]] (by kernel_rfl) (by kernel_rfl)) (WpC.skip ?_)
        refine tnU ?_
        exact ⟨h, by kernel_rfl⟩
  · rintro _ ⟨h, rfl⟩
    unfold millwrightlaw02_Shows_m0.j22 at h
    refine sqJ (fun st' => millwrightlaw02_Shows_m0.j3 k a0 a1 v1 = some out ∧ st' = ⟨[(0, .loc 100000 0), (5, .p (.list (.named 3)) v1)], [(100000, .box [.mp 100001]), (100001, .map (.named 3) a0), (100002, .box [.p (.list (.named 3)) a1])]⟩) ?_ ?_
    · refine WpC.seq ?_
      obtain ⟨v4, hv4, h⟩ := bind_some h
      refine rS { its := [(1, .c (COk.ren (tree_Tree_Names_m0.ok O hO k a0 v4 hv4) (fun n => if n = 100000 then 100000 else if n = 100001 then 100001 else n) (injOn_of (by kernel_rfl))))] } [0, 1, 5, 26, 27, 28] [100000, 100001, 100002] hN (by kernel_rfl) (by kernel_rfl) ?_
      refine tnU ?_
      refine WpC.block ?_
      obtain ⟨o7, hlo7, h⟩ := bind_some h
      have hout8 := h
      clear h
      refine WpC.loop (U := Un) (fun n st' => ∃ v5 : Int, millwrightlaw02_Shows_m0.l6 k a0 a1 v1 v4 n v5 = some o7 ∧ st' = ⟨[(0, .loc 100000 0), (1, .loc 100002 0), (5, .p (.list (.named 3)) v1), (26, .p (.list .str) v4), (27, .p I6 ((v4.length : Int) : Int)), (28, .p I6 v5)], [(100000, .box [.mp 100001]), (100001, .map (.named 3) a0), (100002, .box [.p (.list (.named 3)) a1])]⟩) k ⟨0, hlo7, by kernel_rfl⟩ ?_
      clear hlo7
      rintro (_ | n) _ ⟨v5, h, rfl⟩
      · cases h
      · rw [millwrightlaw02_Shows_m0.l6] at h
        refine WpC.seq ?_
        refine rS {} [0, 1, 5, 26, 27, 28, 29] [100000, 100001, 100002] hN (by kernel_rfl) (by kernel_rfl) ?_
        refine tnU ?_
        refine WpC.seq ?_
        refine tS (b := (decide (v5 < (v4.length : Int)))) (by kernel_rfl) (fun hc9 => ?_) (fun hc9 => ?_)
        · replace h := ite_t hc9 h
          refine WpC.conv (cS [.k [0, 1, 5, 26, 27, 28] [100000, 100001, 100002]] (by kernel_rfl) (by kernel_rfl)) (WpC.skip ?_)
          refine tnU ?_
          refine sqJ (fun st' => millwrightlaw02_Shows_m0.j10 k (millwrightlaw02_Shows_m0.l6 k a0 a1 v1 v4 n) a0 a1 v1 v4 v5 = some o7 ∧ st' = ⟨[(0, .loc 100000 0), (1, .loc 100002 0), (5, .p (.list (.named 3)) v1), (26, .p (.list .str) v4), (27, .p I6 ((v4.length : Int) : Int)), (28, .p I6 v5)], [(100000, .box [.mp 100001]), (100001, .map (.named 3) a0), (100002, .box [.p (.list (.named 3)) a1])]⟩) ?_ ?_
          · refine WpC.block ?_
            refine WpC.seq ?_
            obtain ⟨v11, hv11, h⟩ := bind_some h
            refine rS { its := [(1, .v .str hv11)] } [0, 1, 5, 6, 7, 26, 27, 28] [100000, 100001, 100002] hN (by kernel_rfl) (by kernel_rfl) ?_
            refine tnU ?_
            refine sqJ (fun st' => ∃ v12 : Bool, millwrightlaw02_Shows_m0.j14 k (millwrightlaw02_Shows_m0.l6 k a0 a1 v1 v4 n) a0 a1 v1 v4 v5 v12 = some o7 ∧ st' = ⟨[(0, .loc 100000 0), (1, .loc 100002 0), (5, .p (.list (.named 3)) v1), (26, .p (.list .str) v4), (27, .p I6 ((v4.length : Int) : Int)), (28, .p I6 v5), (59, .p .bool v12)], [(100000, .box [.mp 100001]), (100001, .map (.named 3) a0), (100002, .box [.p (.list (.named 3)) a1])]⟩) ?_ ?_
            · rcases bool_cases (decide (v5 ≥ (v1.length : Int))) with hc15 | hc15
              · replace h := ite_t hc15 h
                refine rA { kn := [(37, .t hc15)] } [0, 1, 5, 26, 27, 28, 59] [100000, 100001, 100002] hN (by kernel_rfl) (by kernel_rfl) (by kernel_rfl) ?_
                refine tnU ?_
                exact ⟨true, h, by kernel_rfl⟩
              · replace h := ite_f hc15 h
                obtain ⟨v16, hv16, h⟩ := bind_some h
                rcases bool_cases (!(v11 == v16.f_Name)) with hc17 | hc17
                · replace h := ite_t hc17 h
                  refine rA { its := [(8, .v (.named 3) hv16)], kn := [(37, .f hc15), (46, .t hc17)] } [0, 1, 5, 26, 27, 28, 59] [100000, 100001, 100002] hN (by kernel_rfl) (by kernel_rfl) (by kernel_rfl) ?_
                  refine tnU ?_
                  exact ⟨true, h, by kernel_rfl⟩
                · replace h := ite_f hc17 h
                  obtain ⟨v18, hv18, h⟩ := bind_some h
                  obtain ⟨v19, hv19, h⟩ := bind_some h
                  refine rA { its := [(8, .v (.named 3) hv16), (16, .v (.named 3) hv18), (23, .v (.named 3) hv19), (25, .e 25 (sok_neS (U := Un) (rs := [(50, .p (.named 3) v18), (57, .p (.named 3) v19)]) rfl rfl Tryz.underlying92 (by kernel_rfl) (eqf_92 _ Tryz.underlying92) (by kernel_rfl) o0 o1))], kn := [(37, .f hc15), (46, .f hc17)] } [0, 1, 5, 26, 27, 28, 59] [100000, 100001, 100002] hN (by kernel_rfl) (by kernel_rfl) (by kernel_rfl) ?_
                  refine tnU ?_
                  exact ⟨(!(v18.f_Name == v19.f_Name && (v18.f_Content == v19.f_Content && (v18.f_Time == v19.f_Time && true)))), h, by kernel_rfl⟩
            · rintro _ ⟨v12, h, rfl⟩
              unfold millwrightlaw02_Shows_m0.j14 at h
              refine tS (b := v12) (by kernel_rfl) (fun hc13 => ?_) (fun hc13 => ?_)
              · replace h := ite_t hc13 h
                refine WpC.seq ?_
                refine rS {} [4] [100000, 100001, 100002] hN (by kernel_rfl) (by kernel_rfl) ?_
                refine tnU ?_
                refine WpC.ret ?_
                refine blockQ_ret ?_
                refine thenQ_ret ?_
                have hq := Option.some.inj h
                subst hq
                refine thenQ_ret ?_
                have h := hout8
                refine blockQ_ret ?_
                refine thenQ_ret ?_
                have hq := Option.some.inj h
                subst hq
                exact eR (by kernel_rfl) (by kernel_rfl)
              · replace h := ite_f hc13 h
                refine WpC.conv (cS [.k [0, 1, 5, 26, 27, 28] [100000, 100001, 100002]] (by kernel_rfl) (by kernel_rfl)) (WpC.skip ?_)
                refine blockQ_normal ?_
                refine tnU ?_
                exact ⟨h, by kernel_rfl⟩
          · rintro _ ⟨h, rfl⟩
            unfold millwrightlaw02_Shows_m0.j10 at h
            refine rS {} [0, 1, 5, 26, 27, 28] [100000, 100001, 100002] hN (by kernel_rfl) (by kernel_rfl) ?_
            refine tnU ?_
            exact ⟨n, Nat.lt_succ_self n, (IntKind.i64.wrap (v5 + 1)), h, by kernel_rfl⟩
        · replace h := ite_f hc9 h
          refine WpC.conv (cS [.k [0, 5] [100000, 100001, 100002]] (by kernel_rfl) (by kernel_rfl)) (WpC.exit ?_)
          refine thenQ_exit ?_
          have hq := Option.some.inj h
          subst hq
          refine thenQ_exit ?_
          have h := hout8
          refine blockQ_hit ?_
          refine tnU ?_
          exact ⟨h, by kernel_rfl⟩
    · rintro _ ⟨h, rfl⟩
      unfold millwrightlaw02_Shows_m0.j3 at h
      refine WpC.seq ?_
      obtain ⟨v2, hv2, h⟩ := bind_some h
      refine rS { its := [(1, .c (COk.ren (tree_Tree_Names_m0.ok O hO k a0 v2 hv2) (fun n => if n = 100000 then 100000 else if n = 100001 then 100001 else n) (injOn_of (by kernel_rfl))))] } [4] [100000, 100001, 100002] hN (by kernel_rfl) (by kernel_rfl) ?_
      refine tnU ?_
      refine WpC.ret ?_
      have hq := Option.some.inj h
      subst hq
      exact eR (by kernel_rfl) (by kernel_rfl)

theorem effect_Check.ok (O : Out) (hO : GOk O) (k : Nat) (a0 : T_effect_Effect) (out : Nat) (h : effect_Check.f k a0 = some out) : COk Un O Tryz.prog 35 { ar := [.p (.named 4) a0], r := .p .err out } := by
  refine cok_of_wp Tryz.func35 rfl (k := 41) rfl (Nat.le_of_ble_eq_true rfl) (namesOk_pure rfl rfl rfl rfl) ?_
  intro B hN
  refine WpC.conv (cvK (b := ⟨[(0, .p (.named 4) a0)], []⟩) [0] [] (by kernel_rfl)) ?_
  unfold effect_Check.f at h
  refine WpC.seq ?_
  refine rS {} [1] [1] hN (by kernel_rfl) (by kernel_rfl) ?_
  refine tnU ?_
  refine WpC.seq ?_
  obtain ⟨v1, hv1, h⟩ := bind_some h
  refine rS { its := [(2, .c (names_Member.ok O hO k a0.f_Name v1 hv1))] } [1, 5] [1] hN (by kernel_rfl) (by kernel_rfl) ?_
  refine tnU ?_
  refine sqJ (fun st' => effect_Check.j2 k = some out ∧ st' = ⟨[], []⟩) ?_ ?_
  · refine WpC.block ?_
    refine sqJ (fun st' => ∃ v3 : Bool, effect_Check.j9 k a0 v3 = some out ∧ st' = ⟨[(1, .loc 1 0), (13, .p .bool v3)], [(1, .box [.p I6 a0.f_Op, .p .str a0.f_Name, .p .str a0.f_Text])]⟩) ?_ ?_
    · rcases bool_cases (decide (a0.f_Op < 1)) with hc10 | hc10
      · replace h := ite_t hc10 h
        refine rS { kn := [(17, .t hc10)] } [1, 13] [1] hN (by kernel_rfl) (by kernel_rfl) ?_
        refine tnU ?_
        exact ⟨true, h, by kernel_rfl⟩
      · replace h := ite_f hc10 h
        rcases bool_cases (decide (a0.f_Op > 3)) with hc11 | hc11
        · replace h := ite_t hc11 h
          refine rS { kn := [(17, .f hc10), (22, .t hc11)] } [1, 13] [1] hN (by kernel_rfl) (by kernel_rfl) ?_
          refine tnU ?_
          exact ⟨true, h, by kernel_rfl⟩
        · replace h := ite_f hc11 h
          rcases bool_cases v1.2.2 with hc12 | hc12
          · replace h := ite_t hc12 h
            refine rS { kn := [(17, .f hc10), (22, .f hc11), (24, .t hc12)] } [1, 13] [1] hN (by kernel_rfl) (by kernel_rfl) ?_
            refine tnU ?_
            exact ⟨(a0.f_Op != 2), h, by kernel_rfl⟩
          · replace h := ite_f hc12 h
            refine rS { kn := [(17, .f hc10), (22, .f hc11), (24, .f hc12)] } [1, 13] [1] hN (by kernel_rfl) (by kernel_rfl) ?_
            refine tnU ?_
            exact ⟨false, h, by kernel_rfl⟩
    · rintro _ ⟨v3, h, rfl⟩
      unfold effect_Check.j9 at h
      refine tS (b := v3) (by kernel_rfl) (fun hc4 => ?_) (fun hc4 => ?_)
      · replace h := ite_t hc4 h
        refine WpC.seq ?_
        refine rS { its := [(0, .e 0 (sok_loadG (U := Un) (t := .err) (rs := []) rfl rfl ty_27 rfl rfl (hO.var 16 1 rfl) (fun S w => .err 16)))] } [2] [] hN (by kernel_rfl) (by kernel_rfl) ?_
        refine tnU ?_
        refine WpC.ret ?_
        refine blockQ_ret ?_
        refine thenQ_ret ?_
        have hq := Option.some.inj h
        subst hq
        exact eR (by kernel_rfl) (by kernel_rfl)
      · replace h := ite_f hc4 h
        refine sqJ (fun st' => ∃ v5 : Bool, effect_Check.j7 k v5 = some out ∧ st' = ⟨[(31, .p .bool v5)], []⟩) ?_ ?_
        · rcases bool_cases (a0.f_Op != 1) with hc8 | hc8
          · replace h := ite_t hc8 h
            refine rS { kn := [(35, .t hc8)] } [31] [] hN (by kernel_rfl) (by kernel_rfl) ?_
            refine tnU ?_
            exact ⟨(!(a0.f_Text == ([] : List UInt8))), h, by kernel_rfl⟩
          · replace h := ite_f hc8 h
            refine rS { kn := [(35, .f hc8)] } [31] [] hN (by kernel_rfl) (by kernel_rfl) ?_
            refine tnU ?_
            exact ⟨false, h, by kernel_rfl⟩
        · rintro _ ⟨v5, h, rfl⟩
          unfold effect_Check.j7 at h
          refine tS (b := v5) (by kernel_rfl) (fun hc6 => ?_) (fun hc6 => ?_)
          · replace h := ite_t hc6 h
            refine WpC.seq ?_
            refine rS { its := [(0, .e 0 (sok_loadG (U := Un) (t := .err) (rs := []) rfl rfl ty_27 rfl rfl (hO.var 2 2 rfl) (fun S w => .err 2)))] } [2] [] hN (by kernel_rfl) (by kernel_rfl) ?_
            refine tnU ?_
            refine WpC.ret ?_
            refine blockQ_ret ?_
            refine thenQ_ret ?_
            have hq := Option.some.inj h
            subst hq
            exact eR (by kernel_rfl) (by kernel_rfl)
          · replace h := ite_f hc6 h
            refine WpC.conv (cS [.k [] []] (by kernel_rfl) (by kernel_rfl)) (WpC.skip ?_)
            refine blockQ_normal ?_
            refine tnU ?_
            exact ⟨h, by kernel_rfl⟩
  · rintro _ ⟨h, rfl⟩
    unfold effect_Check.j2 at h
    refine WpC.seq ?_
    refine rS {} [2] [] hN (by kernel_rfl) (by kernel_rfl) ?_
    refine tnU ?_
    refine WpC.conv (cS [.nE 2, .k [2] []] (by kernel_rfl) (by kernel_rfl)) (WpC.ret ?_)
    have hq := Option.some.inj h
    subst hq
    exact eR (by kernel_rfl) (by kernel_rfl)

theorem tree_Tree_Remove_m0.ok (O : Out) (hO : GOk O) (k : Nat) (a0 : List ((List UInt8) × T_tree_File)) (a1 : List UInt8) (out : Nat × (List ((List UInt8) × T_tree_File))) (h : tree_Tree_Remove_m0.f k a0 a1 = some out) : COk Un O Tryz.prog 70 { ar := [.loc 100000 0, .p .str a1], r := .p .err out.1, bs := [(100000, .box [.mp 100001]), (100001, .map (.named 3) a0)], bs' := [(100000, .box [.mp 100001]), (100001, .map (.named 3) out.2)] } := by
  refine cok_of_wp Tryz.func70 rfl (k := 24) rfl (Nat.le_of_ble_eq_true rfl) (namesOk_of (by kernel_rfl)) ?_
  intro B hN
  refine WpC.conv (cvK (b := ⟨[(0, .loc 100000 0), (1, .p .str a1)], [(100000, .box [.mp 100001]), (100001, .map (.named 3) a0)]⟩) [0, 1] [100000, 100001] (by kernel_rfl)) ?_
  unfold tree_Tree_Remove_m0.f at h
  refine WpC.seq ?_
  refine rS {} [0, 1] [100000, 100001] hN (by kernel_rfl) (by kernel_rfl) ?_
  refine tnU ?_
  refine WpC.seq ?_
  refine WpC.seq ?_
  refine rS {} [0, 1, 6] [100000, 100001] hN (by kernel_rfl) (by kernel_rfl) ?_
  refine tnU ?_
  refine WpC.seq ?_
  refine rS {} [0, 1, 17] [100000, 100001] hN (by kernel_rfl) (by kernel_rfl) ?_
  refine tnU ?_
  refine tS (b := (!((mget a1 a0).isSome))) (by kernel_rfl) (fun hc1 => ?_) (fun hc1 => ?_)
  · replace h := ite_t hc1 h
    refine WpC.seq ?_
    refine rS { its := [(0, .e 0 (sok_loadG (U := Un) (t := .err) (rs := []) rfl rfl ty_27 rfl rfl (hO.var 7 9 rfl) (fun S w => .err 7)))] } [4] [100000, 100001] hN (by kernel_rfl) (by kernel_rfl) ?_
    refine tnU ?_
    refine WpC.ret ?_
    refine thenQ_ret ?_
    have hq := Option.some.inj h
    subst hq
    exact eR (by kernel_rfl) (by kernel_rfl)
  · replace h := ite_f hc1 h
    refine WpC.conv (cS [.k [0, 1] [100000, 100001]] (by kernel_rfl) (by kernel_rfl)) (WpC.skip ?_)
    refine tnU ?_
    refine WpC.seq ?_
    refine rS {} [] [100000, 100001] hN (by kernel_rfl) (by kernel_rfl) ?_
    refine tnU ?_
    refine WpC.seq ?_
    refine rS {} [4] [100000, 100001] hN (by kernel_rfl) (by kernel_rfl) ?_
    refine tnU ?_
    refine WpC.conv (cS [.nE 4, .k [4] [100000, 100001]] (by kernel_rfl) (by kernel_rfl)) (WpC.ret ?_)
    have hq := Option.some.inj h
    subst hq
    exact eR (by kernel_rfl) (by kernel_rfl)

theorem effect_Do_m0.ok (O : Out) (hO : GOk O) (k : Nat) (a0 : List ((List UInt8) × T_tree_File)) (a1 : Int) (a2 : T_effect_Effect) (out : Nat × (List ((List UInt8) × T_tree_File))) (h : effect_Do_m0.f k a0 a1 a2 = some out) : COk Un O Tryz.prog 42 { ar := [.loc 100000 0, .p I6 a1, .p (.named 4) a2], r := .p .err out.1, bs := [(100000, .box [.mp 100001]), (100001, .map (.named 3) a0)], bs' := [(100000, .box [.mp 100001]), (100001, .map (.named 3) out.2)] } := by
  refine cok_of_wp Tryz.func42 rfl (k := 35) rfl (Nat.le_of_ble_eq_true rfl) (namesOk_of (by kernel_rfl)) ?_
  intro B hN
  refine WpC.conv (cvK (b := ⟨[(0, .loc 100000 0), (1, .p I6 a1), (2, .p (.named 4) a2)], [(100000, .box [.mp 100001]), (100001, .map (.named 3) a0)]⟩) [0, 1, 2] [100000, 100001] (by kernel_rfl)) ?_
  unfold effect_Do_m0.f at h
  refine WpC.seq ?_
  refine rS {} [0, 1, 5] [5, 100000, 100001] hN (by kernel_rfl) (by kernel_rfl) ?_
  refine tnU ?_
  refine WpC.seq ?_
  refine WpC.seq ?_
  obtain ⟨v1, hv1, h⟩ := bind_some h
  refine rS { its := [(1, .c (effect_Check.ok O hO k (T_effect_Effect.mk a2.f_Op a2.f_Name a2.f_Text) v1 hv1))] } [0, 1, 5, 7] [5, 100000, 100001] hN (by kernel_rfl) (by kernel_rfl) ?_
  refine tnU ?_
  refine WpC.seq ?_
  refine rS {} [0, 1, 5, 7, 11] [5, 100000, 100001] hN (by kernel_rfl) (by kernel_rfl) ?_
  refine tnU ?_
  refine tS (b := (!(v1 == 0))) (by kernel_rfl) (fun hc2 => ?_) (fun hc2 => ?_)
  · replace h := ite_t hc2 h
    refine WpC.seq ?_
    refine rS {} [6] [100000, 100001] hN (by kernel_rfl) (by kernel_rfl) ?_
    refine tnU ?_
    refine WpC.ret ?_
    refine thenQ_ret ?_
    have hq := Option.some.inj h
    subst hq
    exact eR (by kernel_rfl) (by kernel_rfl)
  · replace h := ite_f hc2 h
    refine WpC.conv (cS [.k [0, 1, 5] [5, 100000, 100001]] (by kernel_rfl) (by kernel_rfl)) (WpC.skip ?_)
    refine tnU ?_
    refine WpC.seq ?_
    refine WpC.seq ?_
    refine rS {} [0, 1, 5, 14] [5, 100000, 100001] hN (by kernel_rfl) (by kernel_rfl) ?_
    refine tnU ?_
    refine WpC.block ?_
    refine WpC.seq ?_
    refine rS {} [0, 1, 5, 14, 15] [5, 100000, 100001] hN (by kernel_rfl) (by kernel_rfl) ?_
    refine tnU ?_
    refine tS (b := (a2.f_Op == 1)) (by kernel_rfl) (fun hc3 => ?_) (fun hc3 => ?_)
    · replace h := ite_t hc3 h
      refine WpC.seq ?_
      obtain ⟨v4, hv4, h⟩ := bind_some h
      refine rS { its := [(6, .c (COk.ren (tree_Tree_Put_m0.ok O hO k a0 a2.f_Name a2.f_Text a1 v4 hv4) (fun n => if n = 100000 then 100000 else if n = 100001 then 100001 else n) (injOn_of (by kernel_rfl))))] } [6] [100000, 100001] hN (by kernel_rfl) (by kernel_rfl) ?_
      refine tnU ?_
      refine WpC.ret ?_
      refine blockQ_ret ?_
      refine thenQ_ret ?_
      have hq := Option.some.inj h
      subst hq
      exact eR (by kernel_rfl) (by kernel_rfl)
    · replace h := ite_f hc3 h
      refine WpC.seq ?_
      refine rS {} [0, 1, 5, 24] [5, 100000, 100001] hN (by kernel_rfl) (by kernel_rfl) ?_
      refine tnU ?_
      refine tS (b := (a2.f_Op == 2)) (by kernel_rfl) (fun hc5 => ?_) (fun hc5 => ?_)
      · replace h := ite_t hc5 h
        refine WpC.seq ?_
        obtain ⟨v6, hv6, h⟩ := bind_some h
        refine rS { its := [(4, .c (COk.ren (stat_Set_m0.ok O hO k a0 a2.f_Name a1 v6 hv6) (fun n => if n = 100000 then 100000 else if n = 100001 then 100001 else n) (injOn_of (by kernel_rfl))))] } [6] [100000, 100001] hN (by kernel_rfl) (by kernel_rfl) ?_
        refine tnU ?_
        refine WpC.ret ?_
        refine blockQ_ret ?_
        refine thenQ_ret ?_
        have hq := Option.some.inj h
        subst hq
        exact eR (by kernel_rfl) (by kernel_rfl)
      · replace h := ite_f hc5 h
        refine WpC.conv (cS [.k [0, 5] [5, 100000, 100001]] (by kernel_rfl) (by kernel_rfl)) (WpC.skip ?_)
        refine blockQ_normal ?_
        refine tnU ?_
        refine WpC.seq ?_
        obtain ⟨v7, hv7, h⟩ := bind_some h
        refine rS { its := [(3, .c (COk.ren (tree_Tree_Remove_m0.ok O hO k a0 a2.f_Name v7 hv7) (fun n => if n = 100000 then 100000 else if n = 100001 then 100001 else n) (injOn_of (by kernel_rfl))))] } [6] [100000, 100001] hN (by kernel_rfl) (by kernel_rfl) ?_
        refine tnU ?_
        refine WpC.ret ?_
        have hq := Option.some.inj h
        subst hq
        exact eR (by kernel_rfl) (by kernel_rfl)

theorem millwrightlaw05_alive.ok (O : Out) (hO : GOk O) (k : Nat) (out : Bool) (h : millwrightlaw05_alive.f k = some out) : COk Un O Tryz.prog 14 { ar := [], r := .p .bool out } := by
  refine cok_of_wp Tryz.func14 rfl (k := 16) rfl (Nat.le_of_ble_eq_true rfl) (namesOk_pure rfl rfl rfl rfl) ?_
  intro B hN
  refine WpC.conv (cvK (b := ⟨[], []⟩) [] [] (by kernel_rfl)) ?_
  unfold millwrightlaw05_alive.f at h
  refine WpC.seq ?_
  refine rS {} [] [] hN (by kernel_rfl) (by kernel_rfl) ?_
  refine tnU ?_
  refine WpC.seq ?_
  obtain ⟨v1, hv1, h⟩ := bind_some h
  refine rS { its := [(0, .c (COk.ren (tree_New.ok O hO k v1 hv1) (fun n => if n = 60500 then 10001 else if n = 60501 then 10002 else n) (injOn_of (by kernel_rfl))))] } [1] [10001, 10002] hN (by kernel_rfl) (by kernel_rfl) ?_
  refine tnU ?_
  refine WpC.seq ?_
  obtain ⟨v2, hv2, h⟩ := bind_some h
  rcases bool_cases (v2.1 == 0) with hc3 | hc3
  · replace h := ite_t hc3 h
    obtain ⟨v4, hv4, h⟩ := bind_some h
    refine rS { its := [(5, .c (COk.ren (effect_Do_m0.ok O hO k v1 4 (T_effect_Effect.mk 1 ([97] : List UInt8) ([120] : List UInt8)) v2 hv2) (fun n => if n = 100000 then 10001 else if n = 100001 then 10002 else n) (injOn_of (by kernel_rfl)))), (10, .c (COk.ren (tree_Tree_Time_m0.ok O hO k v2.2 ([97] : List UInt8) v4 hv4) (fun n => if n = 100000 then 10001 else if n = 100001 then 10002 else n) (injOn_of (by kernel_rfl))))], kn := [(11, .t hc3)] } [0] [] hN (by kernel_rfl) (by kernel_rfl) ?_
    refine tnU ?_
    refine WpC.ret ?_
    have hq := Option.some.inj h
    subst hq
    exact eR (by kernel_rfl) (by kernel_rfl)
  · replace h := ite_f hc3 h
    refine rS { its := [(5, .c (COk.ren (effect_Do_m0.ok O hO k v1 4 (T_effect_Effect.mk 1 ([97] : List UInt8) ([120] : List UInt8)) v2 hv2) (fun n => if n = 100000 then 10001 else if n = 100001 then 10002 else n) (injOn_of (by kernel_rfl))))], kn := [(11, .f hc3)] } [0] [] hN (by kernel_rfl) (by kernel_rfl) ?_
    refine tnU ?_
    refine WpC.ret ?_
    have hq := Option.some.inj h
    subst hq
    exact eR (by kernel_rfl) (by kernel_rfl)

theorem millwrightlaw05_Long.ok (O : Out) (hO : GOk O) (k : Nat) (a0 : List T_effect_Effect) (a1 : Int) (out : Bool) (h : millwrightlaw05_Long.f k a0 a1 = some out) : COk Un O Tryz.prog 21 { ar := [.p (.list (.named 4)) a0, .p I6 a1], r := .p .bool out } := by
  refine cok_of_wp Tryz.func21 rfl (k := 28) rfl (Nat.le_of_ble_eq_true rfl) (namesOk_pure rfl rfl rfl rfl) ?_
  intro B hN
  refine WpC.conv (cvK (b := ⟨[(0, .p (.list (.named 4)) a0), (1, .p I6 a1)], []⟩) [0, 1] [] (by kernel_rfl)) ?_
  unfold millwrightlaw05_Long.f at h
  refine WpC.seq ?_
  refine rS {} [0, 1] [] hN (by kernel_rfl) (by kernel_rfl) ?_
  refine tnU ?_
  refine WpC.seq ?_
  refine WpC.seq ?_
  refine rS {} [0, 10] [] hN (by kernel_rfl) (by kernel_rfl) ?_
  refine tnU ?_
  refine tS (b := (decide ((a0.length : Int) > a1))) (by kernel_rfl) (fun hc1 => ?_) (fun hc1 => ?_)
  · replace h := ite_t hc1 h
    refine WpC.seq ?_
    refine rS {} [4] [] hN (by kernel_rfl) (by kernel_rfl) ?_
    refine tnU ?_
    refine WpC.ret ?_
    refine thenQ_ret ?_
    have hq := Option.some.inj h
    subst hq
    exact eR (by kernel_rfl) (by kernel_rfl)
  · replace h := ite_f hc1 h
    refine WpC.conv (cS [.k [0] []] (by kernel_rfl) (by kernel_rfl)) (WpC.skip ?_)
    refine tnU ?_
    refine sqJ (fun st' => millwrightlaw05_Long.j2 k = some out ∧ st' = ⟨[], []⟩) ?_ ?_
    · refine WpC.seq ?_
      refine rS {} [11, 12, 13] [] hN (by kernel_rfl) (by kernel_rfl) ?_
      refine tnU ?_
      refine WpC.block ?_
      obtain ⟨o5, hlo5, h⟩ := bind_some h
      have hout6 := h
      clear h
      refine WpC.loop (U := Un) (fun n st' => ∃ v3 : Int, millwrightlaw05_Long.l4 k a0 n v3 = some o5 ∧ st' = ⟨[(11, .p (.list (.named 4)) a0), (12, .p I6 ((a0.length : Int) : Int)), (13, .p I6 v3)], []⟩) k ⟨0, hlo5, by kernel_rfl⟩ ?_
      clear hlo5
      rintro (_ | n) _ ⟨v3, h, rfl⟩
      · cases h
      · rw [millwrightlaw05_Long.l4] at h
        refine WpC.seq ?_
        refine rS {} [11, 12, 13, 14] [] hN (by kernel_rfl) (by kernel_rfl) ?_
        refine tnU ?_
        refine WpC.seq ?_
        refine tS (b := (decide (v3 < (a0.length : Int)))) (by kernel_rfl) (fun hc7 => ?_) (fun hc7 => ?_)
        · replace h := ite_t hc7 h
          refine WpC.conv (cS [.k [11, 12, 13] []] (by kernel_rfl) (by kernel_rfl)) (WpC.skip ?_)
          refine tnU ?_
          refine sqJ (fun st' => millwrightlaw05_Long.j8 k (millwrightlaw05_Long.l4 k a0 n) a0 v3 = some o5 ∧ st' = ⟨[(11, .p (.list (.named 4)) a0), (12, .p I6 ((a0.length : Int) : Int)), (13, .p I6 v3)], []⟩) ?_ ?_
          · refine WpC.block ?_
            refine WpC.seq ?_
            obtain ⟨v9, hv9, h⟩ := bind_some h
            refine rS { its := [(0, .v (.named 4) hv9)] } [6, 11, 12, 13] [6] hN (by kernel_rfl) (by kernel_rfl) ?_
            refine tnU ?_
            refine sqJ (fun st' => ∃ v10 : Bool, millwrightlaw05_Long.j12 k (millwrightlaw05_Long.l4 k a0 n) a0 v3 v10 = some o5 ∧ st' = ⟨[(11, .p (.list (.named 4)) a0), (12, .p I6 ((a0.length : Int) : Int)), (13, .p I6 v3), (26, .p .bool v10)], []⟩) ?_ ?_
            · rcases bool_cases (decide ((v9.f_Name.length : Int) > 100)) with hc13 | hc13
              · replace h := ite_t hc13 h
                refine rS { kn := [(21, .t hc13)] } [11, 12, 13, 26] [] hN (by kernel_rfl) (by kernel_rfl) ?_
                refine tnU ?_
                exact ⟨true, h, by kernel_rfl⟩
              · replace h := ite_f hc13 h
                refine rS { kn := [(21, .f hc13)] } [11, 12, 13, 26] [] hN (by kernel_rfl) (by kernel_rfl) ?_
                refine tnU ?_
                exact ⟨(decide ((v9.f_Text.length : Int) > 1000)), h, by kernel_rfl⟩
            · rintro _ ⟨v10, h, rfl⟩
              unfold millwrightlaw05_Long.j12 at h
              refine tS (b := v10) (by kernel_rfl) (fun hc11 => ?_) (fun hc11 => ?_)
              · replace h := ite_t hc11 h
                refine WpC.seq ?_
                refine rS {} [4] [] hN (by kernel_rfl) (by kernel_rfl) ?_
                refine tnU ?_
                refine WpC.ret ?_
                refine blockQ_ret ?_
                refine thenQ_ret ?_
                have hq := Option.some.inj h
                subst hq
                refine thenQ_ret ?_
                have h := hout6
                refine blockQ_ret ?_
                refine thenQ_ret ?_
                have hq := Option.some.inj h
                subst hq
                exact eR (by kernel_rfl) (by kernel_rfl)
              · replace h := ite_f hc11 h
                refine WpC.conv (cS [.k [11, 12, 13] []] (by kernel_rfl) (by kernel_rfl)) (WpC.skip ?_)
                refine blockQ_normal ?_
                refine tnU ?_
                exact ⟨h, by kernel_rfl⟩
          · rintro _ ⟨h, rfl⟩
            unfold millwrightlaw05_Long.j8 at h
            refine rS {} [11, 12, 13] [] hN (by kernel_rfl) (by kernel_rfl) ?_
            refine tnU ?_
            exact ⟨n, Nat.lt_succ_self n, (IntKind.i64.wrap (v3 + 1)), h, by kernel_rfl⟩
        · replace h := ite_f hc7 h
          refine WpC.conv (cS [.k [] []] (by kernel_rfl) (by kernel_rfl)) (WpC.exit ?_)
          refine thenQ_exit ?_
          have hq := Option.some.inj h
          subst hq
          refine thenQ_exit ?_
          have h := hout6
          refine blockQ_hit ?_
          refine tnU ?_
          exact ⟨h, by kernel_rfl⟩
    · rintro _ ⟨h, rfl⟩
      unfold millwrightlaw05_Long.j2 at h
      refine WpC.seq ?_
      refine rS {} [4] [] hN (by kernel_rfl) (by kernel_rfl) ?_
      refine tnU ?_
      refine WpC.ret ?_
      have hq := Option.some.inj h
      subst hq
      exact eR (by kernel_rfl) (by kernel_rfl)

theorem effect_Apply_m0.ok (O : Out) (hO : GOk O) (k : Nat) (a0 : List ((List UInt8) × T_tree_File)) (a1 : Int) (a2 : List T_effect_Effect) (out : Int × Nat × (List ((List UInt8) × T_tree_File))) (h : effect_Apply_m0.f k a0 a1 a2 = some out) : COk Un O Tryz.prog 18 { ar := [.loc 100000 0, .p I6 a1, .p (.list (.named 4)) a2], r := .tup [.p I6 out.1, .p .err out.2.1], bs := [(100000, .box [.mp 100001]), (100001, .map (.named 3) a0)], bs' := [(100000, .box [.mp 100001]), (100001, .map (.named 3) out.2.2)] } := by
  refine cok_of_wp Tryz.func18 rfl (k := 29) rfl (Nat.le_of_ble_eq_true rfl) (namesOk_of (by kernel_rfl)) ?_
  intro B hN
  refine WpC.conv (cvK (b := ⟨[(0, .loc 100000 0), (1, .p I6 a1), (2, .p (.list (.named 4)) a2)], [(100000, .box [.mp 100001]), (100001, .map (.named 3) a0)]⟩) [0, 1, 2] [100000, 100001] (by kernel_rfl)) ?_
  unfold effect_Apply_m0.f at h
  refine WpC.seq ?_
  refine rS {} [0, 1, 2] [100000, 100001] hN (by kernel_rfl) (by kernel_rfl) ?_
  refine tnU ?_
  refine sqJ (fun st' => ∃ v1 : List ((List UInt8) × T_tree_File), effect_Apply_m0.j2 k a2 v1 = some out ∧ st' = ⟨[(2, .p (.list (.named 4)) a2)], [(100000, .box [.mp 100001]), (100001, .map (.named 3) v1)]⟩) ?_ ?_
  · refine WpC.seq ?_
    refine rS {} [0, 1, 2, 11, 12, 13] [100000, 100001] hN (by kernel_rfl) (by kernel_rfl) ?_
    refine tnU ?_
    refine WpC.block ?_
    obtain ⟨o7, hlo7, h⟩ := bind_some h
    have hout8 := h
    clear h
    refine WpC.loop (U := Un) (fun n st' => ∃ v3 : List ((List UInt8) × T_tree_File), ∃ v4 : Int, effect_Apply_m0.l5 k a1 a2 n v3 v4 = some o7 ∧ st' = ⟨[(0, .loc 100000 0), (1, .p I6 a1), (2, .p (.list (.named 4)) a2), (11, .p (.list (.named 4)) a2), (12, .p I6 ((a2.length : Int) : Int)), (13, .p I6 v4)], [(100000, .box [.mp 100001]), (100001, .map (.named 3) v3)]⟩) k ⟨a0, 0, hlo7, by kernel_rfl⟩ ?_
    clear hlo7
    rintro (_ | n) _ ⟨v3, v4, h, rfl⟩
    · cases h
    · rw [effect_Apply_m0.l5] at h
      refine WpC.seq ?_
      refine rS {} [0, 1, 2, 11, 12, 13, 14] [100000, 100001] hN (by kernel_rfl) (by kernel_rfl) ?_
      refine tnU ?_
      refine WpC.seq ?_
      refine tS (b := (decide (v4 < (a2.length : Int)))) (by kernel_rfl) (fun hc9 => ?_) (fun hc9 => ?_)
      · replace h := ite_t hc9 h
        refine WpC.conv (cS [.k [0, 1, 2, 11, 12, 13] [100000, 100001]] (by kernel_rfl) (by kernel_rfl)) (WpC.skip ?_)
        refine tnU ?_
        refine WpC.seq ?_
        refine WpC.block ?_
        refine WpC.seq ?_
        obtain ⟨v10, hv10, h⟩ := bind_some h
        refine rS { its := [(1, .v (.named 4) hv10)] } [0, 1, 2, 8, 9, 11, 12, 13] [9, 100000, 100001] hN (by kernel_rfl) (by kernel_rfl) ?_
        refine tnU ?_
        refine WpC.seq ?_
        obtain ⟨v11, hv11, h⟩ := bind_some h
        refine rS { its := [(3, .c (COk.ren (effect_Do_m0.ok O hO k v3 a1 (T_effect_Effect.mk v10.f_Op v10.f_Name v10.f_Text) v11 hv11) (fun n => if n = 100000 then 100000 else if n = 100001 then 100001 else n) (injOn_of (by kernel_rfl))))] } [0, 1, 2, 8, 10, 11, 12, 13] [100000, 100001] hN (by kernel_rfl) (by kernel_rfl) ?_
        refine tnU ?_
        refine WpC.seq ?_
        refine rS {} [0, 1, 2, 8, 10, 11, 12, 13, 23] [100000, 100001] hN (by kernel_rfl) (by kernel_rfl) ?_
        refine tnU ?_
        refine tS (b := (!(v11.1 == 0))) (by kernel_rfl) (fun hc12 => ?_) (fun hc12 => ?_)
        · replace h := ite_t hc12 h
          refine WpC.seq ?_
          refine rS {} [6, 7] [100000, 100001] hN (by kernel_rfl) (by kernel_rfl) ?_
          refine tnU ?_
          refine WpC.ret ?_
          refine blockQ_ret ?_
          refine thenQ_ret ?_
          have hq := Option.some.inj h
          subst hq
          refine thenQ_ret ?_
          have h := hout8
          refine blockQ_ret ?_
          refine thenQ_ret ?_
          have hq := Option.some.inj h
          subst hq
          exact eR (by kernel_rfl) (by kernel_rfl)
        · replace h := ite_f hc12 h
          refine WpC.conv (cS [.k [0, 1, 2, 11, 12, 13] [100000, 100001]] (by kernel_rfl) (by kernel_rfl)) (WpC.skip ?_)
          refine blockQ_normal ?_
          refine tnU ?_
          refine rS {} [0, 1, 2, 11, 12, 13] [100000, 100001] hN (by kernel_rfl) (by kernel_rfl) ?_
          refine tnU ?_
          exact ⟨n, Nat.lt_succ_self n, v11.2, (IntKind.i64.wrap (v4 + 1)), h, by kernel_rfl⟩
      · replace h := ite_f hc9 h
        refine WpC.conv (cS [.k [2] [100000, 100001]] (by kernel_rfl) (by kernel_rfl)) (WpC.exit ?_)
        refine thenQ_exit ?_
        have hq := Option.some.inj h
        subst hq
        refine thenQ_exit ?_
        have h := hout8
        refine blockQ_hit ?_
        refine tnU ?_
        exact ⟨v3, h, by kernel_rfl⟩
  · rintro _ ⟨v1, h, rfl⟩
    unfold effect_Apply_m0.j2 at h
    refine WpC.seq ?_
    refine rS {} [6, 7] [100000, 100001] hN (by kernel_rfl) (by kernel_rfl) ?_
    refine tnU ?_
    refine WpC.conv (cS [.nE 7, .k [6, 7] [100000, 100001]] (by kernel_rfl) (by kernel_rfl)) (WpC.ret ?_)
    have hq := Option.some.inj h
    subst hq
    exact eR (by kernel_rfl) (by kernel_rfl)

theorem millwrightlaw05_Of.ok (O : Out) (hO : GOk O) (k : Nat) (a0 : List T_effect_Effect) (out : List T_effect_Effect) (h : millwrightlaw05_Of.f k a0 = some out) : COk Un O Tryz.prog 34 { ar := [.p (.list (.named 4)) a0], r := .p (.list (.named 4)) out } := by
  refine cok_of_wp Tryz.func34 rfl (k := 19) rfl (Nat.le_of_ble_eq_true rfl) (namesOk_pure rfl rfl rfl rfl) ?_
  intro B hN
  refine WpC.conv (cvK (b := ⟨[(0, .p (.list (.named 4)) a0)], []⟩) [0] [] (by kernel_rfl)) ?_
  unfold millwrightlaw05_Of.f at h
  refine WpC.seq ?_
  refine rS {} [0] [] hN (by kernel_rfl) (by kernel_rfl) ?_
  refine tnU ?_
  refine WpC.seq ?_
  refine rSC {} [0, 3] [6] hN (by kernel_rfl) (by kernel_rfl) (cS [.k [0, 3] [6], .x (Conv.cast (U := Un) (st := ⟨[(0, .p (.list (.named 4)) a0), (3, .vec 6 3 0 (([] : List T_effect_Effect).length))], [(6, .row 73 (.named 4) ([] : List T_effect_Effect) true)]⟩) (st' := ⟨[(0, .p (.list (.named 4)) a0), (3, .vec 6 3 0 0)], [(6, .row 73 (.named 4) ([] : List T_effect_Effect) true)]⟩) (by simp only [upd_length, List.length_nil, List.length_replicate]))] (by kernel_rfl) (by kernel_rfl)) ?_
  refine tnU ?_
  refine sqJ (fun st' => ∃ v1 : List T_effect_Effect, millwrightlaw05_Of.j2 k v1 = some out ∧ st' = ⟨[(3, .vec 1003 3 0 v1.length)], [(1003, .row 73 (.named 4) v1 false)]⟩) ?_ ?_
  · refine WpC.seq ?_
    refine rS {} [3, 7, 8, 9] [6] hN (by kernel_rfl) (by kernel_rfl) ?_
    refine tnU ?_
    refine WpC.block ?_
    obtain ⟨o7, hlo7, h⟩ := bind_some h
    have hout8 := h
    clear h
    refine WpC.conv (cS [.lo 6, .k [3, 7, 8, 9] [6], .rn 6 1003, .k [3, 7, 8, 9] [1003]] (by kernel_rfl) (by kernel_rfl)) ?_
    refine WpC.loop (U := Un) (fun n st' => ∃ v3 : List T_effect_Effect, ∃ v4 : Int, millwrightlaw05_Of.l5 k a0 n v3 v4 = some o7 ∧ st' = ⟨[(3, .vec 1003 3 0 v3.length), (7, .p (.list (.named 4)) a0), (8, .p I6 ((a0.length : Int) : Int)), (9, .p I6 v4)], [(1003, .row 73 (.named 4) v3 false)]⟩) k ⟨([] : List T_effect_Effect), 0, hlo7, by kernel_rfl⟩ ?_
    clear hlo7
    rintro (_ | n) _ ⟨v3, v4, h, rfl⟩
    · cases h
    · rw [millwrightlaw05_Of.l5] at h
      refine WpC.seq ?_
      refine rS {} [3, 7, 8, 9, 10] [1003] hN (by kernel_rfl) (by kernel_rfl) ?_
      refine tnU ?_
      refine WpC.seq ?_
      refine tS (b := (decide (v4 < (a0.length : Int)))) (by kernel_rfl) (fun hc9 => ?_) (fun hc9 => ?_)
      · replace h := ite_t hc9 h
        refine WpC.conv (cS [.k [3, 7, 8, 9] [1003]] (by kernel_rfl) (by kernel_rfl)) (WpC.skip ?_)
        refine tnU ?_
        refine WpC.seq ?_
        refine WpC.block ?_
        refine WpC.seq ?_
        obtain ⟨v10, hv10, h⟩ := bind_some h
        refine rS { its := [(0, .v (.named 4) hv10)] } [3, 5, 7, 8, 9] [5, 1003] hN (by kernel_rfl) (by kernel_rfl) ?_
        refine tnU ?_
        obtain ⟨g11, h⟩ := if_some h
        refine rS { its := [(3, .g g11)] } [3, 7, 8, 9] [16] hN (by kernel_rfl) (by kernel_rfl) ?_
        refine blockQ_normal ?_
        refine tnU ?_
        refine rSC {} [3, 7, 8, 9] [16] hN (by kernel_rfl) (by kernel_rfl) (cS [.rn 16 1003, .k [3, 7, 8, 9] [1003]] (by kernel_rfl) (by kernel_rfl)) ?_
        refine tnU ?_
        exact ⟨n, Nat.lt_succ_self n, (v3 ++ [(T_effect_Effect.mk v10.f_Op v10.f_Name v10.f_Text)]), (IntKind.i64.wrap (v4 + 1)), h, by kernel_rfl⟩
      · replace h := ite_f hc9 h
        refine WpC.conv (cS [.k [3] [1003]] (by kernel_rfl) (by kernel_rfl)) (WpC.exit ?_)
        refine thenQ_exit ?_
        have hq := Option.some.inj h
        subst hq
        refine thenQ_exit ?_
        have h := hout8
        refine blockQ_hit ?_
        refine tnU ?_
        exact ⟨v3, h, by kernel_rfl⟩
  · rintro _ ⟨v1, h, rfl⟩
    unfold millwrightlaw05_Of.j2 at h
    refine WpC.seq ?_
    refine rS {} [2] [1003] hN (by kernel_rfl) (by kernel_rfl) ?_
    refine tnU ?_
    refine WpC.conv (cS [.fz 2, .k [2] []] (by kernel_rfl) (by kernel_rfl)) (WpC.ret ?_)
    have hq := Option.some.inj h
    subst hq
    exact eR (by kernel_rfl) (by kernel_rfl)

end Go.Proofs.YtcblgpcgdihcbaaGreatDoor
