/- A part of the proof of a given law: DAC2. Own work, printed in part by a program of mine. -/
import Derived.Test.YteddmdkbeednmaaDoorK33DAC1
namespace Go.Proofs.YteddmdkbeednmaaDoor
open Go Go.AM
set_option linter.unusedVariables false
set_option linter.unusedSimpArgs false
set_option maxRecDepth 100000
set_option maxHeartbeats 4000000
theorem denote_again.bok (O : Out) (hO : GOkE O) (k : Nat) (rf_denote_ends_m0 : T_rex_Node → (List UInt8) → (List Bool) → Option (Bool × (List Bool))) (hrf_denote_ends_m0 : ∀ (a0 : T_rex_Node) (a1 : List UInt8) (a2 : List Bool) (out : Bool × (List Bool)), rf_denote_ends_m0 a0 a1 a2 = some out → COk Un O Tryd.prog 35 { ar := [.p (.named 3) a0, .p .str a1, .vec 100000 1 0 a2.length], r := .sel out.1 100000 1 a2.length (.list .bool) (out.2 : List Bool), bs := [(100000, .row 4 .bool a2 false)], bs' := [(100000, .row 4 .bool a2 false)] }) (a0 : T_rex_Node) (a1 : List UInt8) (a2 : List Bool) (out : List Bool) (h : denote_again.b k rf_denote_ends_m0 a0 a1 a2 = some out) : COk Un O Tryd.prog 52 { ar := [.p (.named 3) a0, .p .str a1, .p (.list .bool) a2], r := .vec 60500 1 0 out.length, bs' := [(60500, .row 4 .bool out false)], nn := [60500] } := by
 refine cok_of_wp Tryd.func52 rfl (k := 17) rfl (Nat.le_of_ble_eq_true rfl) (namesOk_of (by kernel_rfl)) ?_
 intro B hN
 refine WpC.conv (cvK (b := ⟨[(0, .p (.named 3) a0), (1, .p .str a1), (2, .p (.list .bool) a2)], []⟩) [0, 1, 2] [] (by kernel_rfl)) ?_
 unfold denote_again.b at h
 refine WpC.seq ?_
 refine rS {} [1, 2, 3] [3] hN (by kernel_rfl) (by kernel_rfl) ?_
 refine tnU ?_
 refine WpC.seq ?_
 obtain ⟨v1, hv1, h⟩ := bind_some h
 refine rS { its := [(1, .c (COk.ren (pCloneB.ok O hO k a2 v1 hv1) (fun n => if n = 60500 then 10001 else n) (injOn_of (by kernel_rfl))))] } [1, 3, 7] [3, 10001] hN (by kernel_rfl) (by kernel_rfl) ?_
 refine tnU ?_
 refine sqJ (fun st' => ∃ v2 : List Bool, denote_again.j3 k v2 = some out ∧ st' = ⟨[(7, .vec 1007 1 0 v2.length)], [(1007, .row 4 .bool v2 false)]⟩) ?_ ?_
 ·refine WpC.block ?_
  obtain ⟨o7, hlo7, h⟩ := bind_some h
  have hout8 := h
  clear h
  refine WpC.conv (cS [.rn 10001 1007, .k [1, 3, 7] [3, 1007]] (by kernel_rfl) (by kernel_rfl)) ?_
  refine WpC.loop (U := Un) (fun n st' => ∃ v4 : List Bool, denote_again.l5 k rf_denote_ends_m0 a0 a1 n v4 = some o7 ∧ st' = ⟨[(1, .p .str a1), (3, .loc 3 0), (7, .vec 1007 1 0 v4.length)], [(3, .box [.p I6 a0.f_Kind, .p I6 a0.f_Index, .p U6 a0.f_Set, .p (.list (.named 3)) a0.f_Kids]), (1007, .row 4 .bool v4 false)]⟩) k ⟨v1, hlo7, by kernel_rfl⟩ ?_
  clear hlo7
  rintro (_ | n) _ ⟨v4, h, rfl⟩
  ·cases h
  ·rw [denote_again.l5] at h
   refine WpC.seq ?_
   refine WpC.seq ?_
   obtain ⟨⟨qv10, v10⟩, hv9, h⟩ := bind_some h
   cases qv10
   ·replace h := ite_f rfl h
    obtain ⟨v14, hv14, h⟩ := bind_some h
    obtain ⟨g15, h⟩ := if_some h
    refine rSC { its := [(4, .c (COk.selF (COk.ren (hrf_denote_ends_m0 (T_rex_Node.mk a0.f_Kind a0.f_Index a0.f_Set a0.f_Kids) a1 v4 (false, v10) hv9) (fun n => if n = 100000 then 1007 else n) (injOn_of (by kernel_rfl))) rfl)), (5, .c (COk.ren (denote_set_with_m2.ok O hO k v4 v10 v14 hv14) (fun n => if n = 100000 then 1007 else n) (injOn_of (by kernel_rfl))))] } [1, 3, 7, 15] [3, 1007] hN (by kernel_rfl) (by kernel_rfl) (cS [.k [1, 3, 7, 15] [3, 1007], .x (Conv.cast (U := Un) (st := ⟨[(1, .p .str a1), (3, .loc 3 0), (7, .vec 1007 1 0 v4.length), (15, .p .bool v14.1)], [(3, .box [.p I6 a0.f_Kind, .p I6 a0.f_Index, .p U6 a0.f_Set, .p (.list (.named 3)) a0.f_Kids]), (1007, .row 4 .bool v14.2 false)]⟩) (st' := ⟨[(1, .p .str a1), (3, .loc 3 0), (7, .vec 1007 1 0 v14.2.length), (15, .p .bool v14.1)], [(3, .box [.p I6 a0.f_Kind, .p I6 a0.f_Index, .p U6 a0.f_Set, .p (.list (.named 3)) a0.f_Kids]), (1007, .row 4 .bool v14.2 false)]⟩) (by simp only [upd_length, List.length_nil, List.length_replicate, g15]))] (by kernel_rfl) (by kernel_rfl)) ?_
    refine tnU ?_
    refine tS (b := v14.1) (by kernel_rfl) (fun hc16 => ?_) (fun hc16 => ?_)
    ·replace h := ite_t hc16 h
     refine WpC.conv (cS [.k [1, 3, 7] [3, 1007]] (by kernel_rfl) (by kernel_rfl)) (WpC.skip ?_)
     refine tnU ?_
     refine WpC.block ?_
     refine WpC.exit ?_
     refine blockQ_hit ?_
     refine tnU ?_
     exact ⟨n, Nat.lt_succ_self n, v14.2, h, by kernel_rfl⟩
    ·replace h := ite_f hc16 h
     refine WpC.conv (cS [.k [7] [1007]] (by kernel_rfl) (by kernel_rfl)) (WpC.exit ?_)
     refine thenQ_exit ?_
     have hq := Option.some.inj h
     subst hq
     refine thenQ_exit ?_
     have h := hout8
     refine blockQ_hit ?_
     refine tnU ?_
     exact ⟨v14.2, h, by kernel_rfl⟩
   ·replace h := ite_t rfl h
    obtain ⟨v11, hv11, h⟩ := bind_some h
    obtain ⟨g12, h⟩ := if_some h
    refine rSC { its := [(4, .c (COk.selT (COk.ren (hrf_denote_ends_m0 (T_rex_Node.mk a0.f_Kind a0.f_Index a0.f_Set a0.f_Kids) a1 v4 (true, v10) hv9) (fun n => if n = 100000 then 1007 else n) (injOn_of (by kernel_rfl))) rfl)), (5, .c (COk.ren (denote_set_with_m1.ok O hO k v4 v11 hv11) (fun n => if n = 100000 then 1007 else n) (injOn_of (by kernel_rfl))))] } [1, 3, 7, 15] [3, 1007] hN (by kernel_rfl) (by kernel_rfl) (cS [.k [1, 3, 7, 15] [3, 1007], .x (Conv.cast (U := Un) (st := ⟨[(1, .p .str a1), (3, .loc 3 0), (7, .vec 1007 1 0 v4.length), (15, .p .bool v11.1)], [(3, .box [.p I6 a0.f_Kind, .p I6 a0.f_Index, .p U6 a0.f_Set, .p (.list (.named 3)) a0.f_Kids]), (1007, .row 4 .bool v11.2.2 false)]⟩) (st' := ⟨[(1, .p .str a1), (3, .loc 3 0), (7, .vec 1007 1 0 v11.2.2.length), (15, .p .bool v11.1)], [(3, .box [.p I6 a0.f_Kind, .p I6 a0.f_Index, .p U6 a0.f_Set, .p (.list (.named 3)) a0.f_Kids]), (1007, .row 4 .bool v11.2.2 false)]⟩) (by simp only [upd_length, List.length_nil, List.length_replicate, g12]))] (by kernel_rfl) (by kernel_rfl)) ?_
    refine tnU ?_
    refine tS (b := v11.1) (by kernel_rfl) (fun hc13 => ?_) (fun hc13 => ?_)
    ·replace h := ite_t hc13 h
     refine WpC.conv (cS [.k [1, 3, 7] [3, 1007]] (by kernel_rfl) (by kernel_rfl)) (WpC.skip ?_)
     refine tnU ?_
     refine WpC.block ?_
     refine WpC.exit ?_
     refine blockQ_hit ?_
     refine tnU ?_
     exact ⟨n, Nat.lt_succ_self n, v11.2.2, h, by kernel_rfl⟩
    ·replace h := ite_f hc13 h
     refine WpC.conv (cS [.k [7] [1007]] (by kernel_rfl) (by kernel_rfl)) (WpC.exit ?_)
     refine thenQ_exit ?_
     have hq := Option.some.inj h
     subst hq
     refine thenQ_exit ?_
     have h := hout8
     refine blockQ_hit ?_
     refine tnU ?_
     exact ⟨v11.2.2, h, by kernel_rfl⟩
 ·rintro _ ⟨v2, h, rfl⟩
  unfold denote_again.j3 at h
  refine WpC.seq ?_
  refine rS {} [6] [1007] hN (by kernel_rfl) (by kernel_rfl) ?_
  refine tnU ?_
  refine WpC.conv (cS [.rn 1007 60500, .k [6] [60500]] (by kernel_rfl) (by kernel_rfl)) (WpC.ret ?_)
  have hq := Option.some.inj h
  subst hq
  exact eR (by kernel_rfl) (by kernel_rfl)

theorem denote_ends.bok (O : Out) (hO : GOkE O) (k : Nat) (rf_denote_ends : T_rex_Node → (List UInt8) → (List Bool) → Option (List Bool)) (rf_denote_again : T_rex_Node → (List UInt8) → (List Bool) → Option (List Bool)) (hrf_denote_ends : ∀ (a0 : T_rex_Node) (a1 : List UInt8) (a2 : List Bool) (out : List Bool), rf_denote_ends a0 a1 a2 = some out → COk Un O Tryd.prog 35 { ar := [.p (.named 3) a0, .p .str a1, .p (.list .bool) a2], r := .p (.list .bool) out }) (hrf_denote_again : ∀ (a0 : T_rex_Node) (a1 : List UInt8) (a2 : List Bool) (out : List Bool), rf_denote_again a0 a1 a2 = some out → COk Un O Tryd.prog 52 { ar := [.p (.named 3) a0, .p .str a1, .p (.list .bool) a2], r := .vec 60500 1 0 out.length, bs' := [(60500, .row 4 .bool out false)], nn := [60500] }) (a0 : T_rex_Node) (a1 : List UInt8) (a2 : List Bool) (out : List Bool) (h : denote_ends.b k rf_denote_ends rf_denote_again a0 a1 a2 = some out) : COk Un O Tryd.prog 35 { ar := [.p (.named 3) a0, .p .str a1, .p (.list .bool) a2], r := .p (.list .bool) out } := by
 refine cok_of_wp Tryd.func35 rfl (k := 115) rfl (Nat.le_of_ble_eq_true rfl) (namesOk_pure rfl rfl rfl rfl) ?_
 intro B hN
 refine WpC.conv (cvK (b := ⟨[(0, .p (.named 3) a0), (1, .p .str a1), (2, .p (.list .bool) a2)], []⟩) [0, 1, 2] [] (by kernel_rfl)) ?_
 unfold denote_ends.b at h
 refine WpC.seq ?_
 refine rS {} [1, 2, 3] [3] hN (by kernel_rfl) (by kernel_rfl) ?_
 refine tnU ?_
 refine WpC.seq ?_
 refine WpC.seq ?_
 refine rS {} [1, 2, 3, 14] [3] hN (by kernel_rfl) (by kernel_rfl) ?_
 refine tnU ?_
 refine WpC.block ?_
 refine WpC.seq ?_
 refine rS {} [1, 2, 3, 14, 15] [3] hN (by kernel_rfl) (by kernel_rfl) ?_
 refine tnU ?_
 refine tS (b := (a0.f_Kind == 1)) (by kernel_rfl) (fun hc1 => ?_) (fun hc1 => ?_)
 ·replace h := ite_t hc1 h
  refine WpC.seq ?_
  obtain ⟨v2, hv2, h⟩ := bind_some h
  refine rS { its := [(4, .c (COk.ren (denote_ones.ok O hO k a1 a2 a0.f_Set v2 hv2) (fun n => if n = 60500 then 10001 else n) (injOn_of (by kernel_rfl))))] } [6] [10001] hN (by kernel_rfl) (by kernel_rfl) ?_
  refine tnU ?_
  refine WpC.conv (cS [.fz 6, .k [6] []] (by kernel_rfl) (by kernel_rfl)) (WpC.ret ?_)
  refine blockQ_ret ?_
  refine thenQ_ret ?_
  have hq := Option.some.inj h
  subst hq
  exact eR (by kernel_rfl) (by kernel_rfl)
 ·replace h := ite_f hc1 h
  refine WpC.seq ?_
  refine rS {} [1, 2, 3, 14, 22] [3] hN (by kernel_rfl) (by kernel_rfl) ?_
  refine tnU ?_
  refine tS (b := (a0.f_Kind == 2)) (by kernel_rfl) (fun hc3 => ?_) (fun hc3 => ?_)
  ·replace h := ite_t hc3 h
   refine sqJ (fun st' => ∃ v4 : List Bool, denote_ends.j5 k v4 = some out ∧ st' = ⟨[(2, .p (.list .bool) v4)], []⟩) ?_ ?_
   ·refine WpC.seq ?_
    refine rS {} [1, 2, 25, 26, 27] [] hN (by kernel_rfl) (by kernel_rfl) ?_
    refine tnU ?_
    refine WpC.block ?_
    obtain ⟨o10, hlo10, h⟩ := bind_some h
    have hout11 := h
    clear h
    refine WpC.loop (U := Un) (fun n st' => ∃ v6 : List Bool, ∃ v7 : Int, denote_ends.l8 k rf_denote_ends a0 a1 n v6 v7 = some o10 ∧ st' = ⟨[(1, .p .str a1), (2, .p (.list .bool) v6), (25, .p (.list (.named 3)) a0.f_Kids), (26, .p I6 ((a0.f_Kids.length : Int) : Int)), (27, .p I6 v7)], []⟩) k ⟨a2, 0, hlo10, by kernel_rfl⟩ ?_
    clear hlo10
    rintro (_ | n) _ ⟨v6, v7, h, rfl⟩
    ·cases h
    ·rw [denote_ends.l8] at h
     refine WpC.seq ?_
     refine rS {} [1, 2, 25, 26, 27, 28] [] hN (by kernel_rfl) (by kernel_rfl) ?_
     refine tnU ?_
     refine WpC.seq ?_
     refine tS (b := (decide (v7 < (a0.f_Kids.length : Int)))) (by kernel_rfl) (fun hc12 => ?_) (fun hc12 => ?_)
     ·replace h := ite_t hc12 h
      refine WpC.conv (cS [.k [1, 2, 25, 26, 27] []] (by kernel_rfl) (by kernel_rfl)) (WpC.skip ?_)
      refine tnU ?_
      refine WpC.seq ?_
      refine WpC.block ?_
      refine WpC.seq ?_
      obtain ⟨v13, hv13, h⟩ := bind_some h
      refine rS { its := [(0, .v (.named 3) hv13)] } [1, 2, 8, 25, 26, 27] [8] hN (by kernel_rfl) (by kernel_rfl) ?_
      refine tnU ?_
      obtain ⟨v14, hv14, h⟩ := bind_some h
      refine rS { its := [(3, .c (hrf_denote_ends (T_rex_Node.mk v13.f_Kind v13.f_Index v13.f_Set v13.f_Kids) a1 v6 v14 hv14))] } [1, 2, 25, 26, 27] [] hN (by kernel_rfl) (by kernel_rfl) ?_
      refine blockQ_normal ?_
      refine tnU ?_
      refine rS {} [1, 2, 25, 26, 27] [] hN (by kernel_rfl) (by kernel_rfl) ?_
      refine tnU ?_
      exact ⟨n, Nat.lt_succ_self n, v14, (IntKind.i64.wrap (v7 + 1)), h, by kernel_rfl⟩
     ·replace h := ite_f hc12 h
      refine WpC.conv (cS [.k [2] []] (by kernel_rfl) (by kernel_rfl)) (WpC.exit ?_)
      refine thenQ_exit ?_
      have hq := Option.some.inj h
      subst hq
      refine thenQ_exit ?_
      have h := hout11
      refine blockQ_hit ?_
      refine tnU ?_
      exact ⟨v6, h, by kernel_rfl⟩
   ·rintro _ ⟨v4, h, rfl⟩
    unfold denote_ends.j5 at h
    refine WpC.seq ?_
    refine rS {} [6] [] hN (by kernel_rfl) (by kernel_rfl) ?_
    refine tnU ?_
    refine WpC.ret ?_
    refine blockQ_ret ?_
    refine thenQ_ret ?_
    have hq := Option.some.inj h
    subst hq
    exact eR (by kernel_rfl) (by kernel_rfl)
  ·replace h := ite_f hc3 h
   refine WpC.seq ?_
   refine rS {} [1, 2, 3, 14, 37] [3] hN (by kernel_rfl) (by kernel_rfl) ?_
   refine tnU ?_
   refine tS (b := (a0.f_Kind == 3)) (by kernel_rfl) (fun hc16 => ?_) (fun hc16 => ?_)
   ·replace h := ite_t hc16 h
    refine WpC.seq ?_
    obtain ⟨g17, h⟩ := if_some h
    refine rSC { its := [(2, .g g17)] } [1, 2, 3, 9] [3, 41] hN (by kernel_rfl) (by kernel_rfl) (cS [.k [1, 2, 3, 9] [3, 41], .x (Conv.cast (U := Un) (st := ⟨[(1, .p .str a1), (2, .p (.list .bool) a2), (3, .loc 3 0), (9, .vec 41 1 0 ((a2.length : Int).toNat))], [(3, .box [.p I6 a0.f_Kind, .p I6 a0.f_Index, .p U6 a0.f_Set, .p (.list (.named 3)) a0.f_Kids]), (41, .row 4 .bool (List.replicate (a2.length : Int).toNat false) true)]⟩) (st' := ⟨[(1, .p .str a1), (2, .p (.list .bool) a2), (3, .loc 3 0), (9, .vec 41 1 0 ((List.replicate (a2.length : Int).toNat false).length))], [(3, .box [.p I6 a0.f_Kind, .p I6 a0.f_Index, .p U6 a0.f_Set, .p (.list (.named 3)) a0.f_Kids]), (41, .row 4 .bool (List.replicate (a2.length : Int).toNat false) true)]⟩) (by simp only [upd_length, List.length_nil, List.length_replicate]))] (by kernel_rfl) (by kernel_rfl)) ?_
    refine tnU ?_
    refine sqJ (fun st' => ∃ v18 : List Bool, denote_ends.j19 k v18 = some out ∧ st' = ⟨[(9, .vec 1009 1 0 v18.length)], [(1009, .row 4 .bool v18 false)]⟩) ?_ ?_
    ·refine WpC.seq ?_
     refine rS {} [1, 2, 9, 43, 44, 45] [41] hN (by kernel_rfl) (by kernel_rfl) ?_
     refine tnU ?_
     refine WpC.block ?_
     obtain ⟨o24, hlo24, h⟩ := bind_some h
     have hout25 := h
     clear h
     refine WpC.conv (cS [.lo 41, .k [1, 2, 9, 43, 44, 45] [41], .rn 41 1009, .k [1, 2, 9, 43, 44, 45] [1009]] (by kernel_rfl) (by kernel_rfl)) ?_
     refine WpC.loop (U := Un) (fun n st' => ∃ v20 : List Bool, ∃ v21 : Int, denote_ends.l22 k rf_denote_ends a0 a1 a2 n v20 v21 = some o24 ∧ st' = ⟨[(1, .p .str a1), (2, .p (.list .bool) a2), (9, .vec 1009 1 0 v20.length), (43, .p (.list (.named 3)) a0.f_Kids), (44, .p I6 ((a0.f_Kids.length : Int) : Int)), (45, .p I6 v21)], [(1009, .row 4 .bool v20 false)]⟩) k ⟨(List.replicate (a2.length : Int).toNat false), 0, hlo24, by kernel_rfl⟩ ?_
     clear hlo24
     rintro (_ | n) _ ⟨v20, v21, h, rfl⟩
     ·cases h
     ·rw [denote_ends.l22] at h
      refine WpC.seq ?_
      refine rS {} [1, 2, 9, 43, 44, 45, 46] [1009] hN (by kernel_rfl) (by kernel_rfl) ?_
      refine tnU ?_
      refine WpC.seq ?_
      refine tS (b := (decide (v21 < (a0.f_Kids.length : Int)))) (by kernel_rfl) (fun hc26 => ?_) (fun hc26 => ?_)
      ·replace h := ite_t hc26 h
       refine WpC.conv (cS [.k [1, 2, 9, 43, 44, 45] [1009]] (by kernel_rfl) (by kernel_rfl)) (WpC.skip ?_)
       refine tnU ?_
       refine WpC.seq ?_
       refine WpC.block ?_
       refine WpC.seq ?_
       obtain ⟨v27, hv27, h⟩ := bind_some h
       refine rS { its := [(0, .v (.named 3) hv27)] } [1, 2, 9, 11, 43, 44, 45] [11, 1009] hN (by kernel_rfl) (by kernel_rfl) ?_
       refine tnU ?_
       obtain ⟨v28, hv28, h⟩ := bind_some h
       obtain ⟨v29, hv29, h⟩ := bind_some h
       obtain ⟨g30, h⟩ := if_some h
       refine rSC { its := [(4, .c (hrf_denote_ends (T_rex_Node.mk v27.f_Kind v27.f_Index v27.f_Set v27.f_Kids) a1 a2 v28 hv28)), (5, .c (COk.ren (denote_set_with_m2.ok O hO k v20 v28 v29 hv29) (fun n => if n = 100000 then 1009 else n) (injOn_of (by kernel_rfl))))] } [1, 2, 9, 43, 44, 45] [1009] hN (by kernel_rfl) (by kernel_rfl) (cS [.k [1, 2, 9, 43, 44, 45] [1009], .x (Conv.cast (U := Un) (st := ⟨[(1, .p .str a1), (2, .p (.list .bool) a2), (9, .vec 1009 1 0 v20.length), (43, .p (.list (.named 3)) a0.f_Kids), (44, .p I6 ((a0.f_Kids.length : Int) : Int)), (45, .p I6 v21)], [(1009, .row 4 .bool v29.2 false)]⟩) (st' := ⟨[(1, .p .str a1), (2, .p (.list .bool) a2), (9, .vec 1009 1 0 v29.2.length), (43, .p (.list (.named 3)) a0.f_Kids), (44, .p I6 ((a0.f_Kids.length : Int) : Int)), (45, .p I6 v21)], [(1009, .row 4 .bool v29.2 false)]⟩) (by simp only [upd_length, List.length_nil, List.length_replicate, g30]))] (by kernel_rfl) (by kernel_rfl)) ?_
       refine blockQ_normal ?_
       refine tnU ?_
       refine rS {} [1, 2, 9, 43, 44, 45] [1009] hN (by kernel_rfl) (by kernel_rfl) ?_
       refine tnU ?_
       exact ⟨n, Nat.lt_succ_self n, v29.2, (IntKind.i64.wrap (v21 + 1)), h, by kernel_rfl⟩
      ·replace h := ite_f hc26 h
       refine WpC.conv (cS [.k [9] [1009]] (by kernel_rfl) (by kernel_rfl)) (WpC.exit ?_)
       refine thenQ_exit ?_
       have hq := Option.some.inj h
       subst hq
       refine thenQ_exit ?_
       have h := hout25
       refine blockQ_hit ?_
       refine tnU ?_
       exact ⟨v20, h, by kernel_rfl⟩
    ·rintro _ ⟨v18, h, rfl⟩
     unfold denote_ends.j19 at h
     refine WpC.seq ?_
     refine rS {} [6] [1009] hN (by kernel_rfl) (by kernel_rfl) ?_
     refine tnU ?_
     refine WpC.conv (cS [.fz 6, .k [6] []] (by kernel_rfl) (by kernel_rfl)) (WpC.ret ?_)
     refine blockQ_ret ?_
     refine thenQ_ret ?_
     have hq := Option.some.inj h
     subst hq
     exact eR (by kernel_rfl) (by kernel_rfl)
   ·replace h := ite_f hc16 h
    refine WpC.seq ?_
    refine rS {} [1, 2, 3, 14, 57] [3] hN (by kernel_rfl) (by kernel_rfl) ?_
    refine tnU ?_
    refine tS (b := (a0.f_Kind == 4)) (by kernel_rfl) (fun hc32 => ?_) (fun hc32 => ?_)
    ·replace h := ite_t hc32 h
     refine WpC.seq ?_
     obtain ⟨v33, hv33, h⟩ := bind_some h
     obtain ⟨v34, hv34, h⟩ := bind_some h
     refine rS { its := [(2, .v (.named 3) hv33), (6, .c (COk.ren (hrf_denote_again v33 a1 a2 v34 hv34) (fun n => if n = 60500 then 10002 else n) (injOn_of (by kernel_rfl))))] } [6] [10002] hN (by kernel_rfl) (by kernel_rfl) ?_
     refine tnU ?_
     refine WpC.conv (cS [.fz 6, .k [6] []] (by kernel_rfl) (by kernel_rfl)) (WpC.ret ?_)
     refine blockQ_ret ?_
     refine thenQ_ret ?_
     have hq := Option.some.inj h
     subst hq
     exact eR (by kernel_rfl) (by kernel_rfl)
    ·replace h := ite_f hc32 h
     refine WpC.seq ?_
     refine rS {} [1, 2, 3, 14, 66] [3] hN (by kernel_rfl) (by kernel_rfl) ?_
     refine tnU ?_
     refine tS (b := (a0.f_Kind == 5)) (by kernel_rfl) (fun hc35 => ?_) (fun hc35 => ?_)
     ·replace h := ite_t hc35 h
      refine WpC.seq ?_
      obtain ⟨v36, hv36, h⟩ := bind_some h
      obtain ⟨v37, hv37, h⟩ := bind_some h
      obtain ⟨v38, hv38, h⟩ := bind_some h
      obtain ⟨v39, hv39, h⟩ := bind_some h
      refine rA { its := [(2, .v (.named 3) hv36), (7, .v (.named 3) hv37), (11, .c (hrf_denote_ends v37 a1 a2 v38 hv38)), (12, .c (COk.ren (hrf_denote_again v36 a1 v38 v39 hv39) (fun n => if n = 60500 then 10003 else n) (injOn_of (by kernel_rfl))))] } [6] [10003] hN (by kernel_rfl) (by kernel_rfl) (by kernel_rfl) ?_
      refine tnU ?_
      refine WpC.conv (cS [.fz 6, .k [6] []] (by kernel_rfl) (by kernel_rfl)) (WpC.ret ?_)
      refine blockQ_ret ?_
      refine thenQ_ret ?_
      have hq := Option.some.inj h
      subst hq
      exact eR (by kernel_rfl) (by kernel_rfl)
     ·replace h := ite_f hc35 h
      refine WpC.seq ?_
      refine rS {} [1, 2, 3, 14, 81] [3] hN (by kernel_rfl) (by kernel_rfl) ?_
      refine tnU ?_
      refine tS (b := (a0.f_Kind == 6)) (by kernel_rfl) (fun hc40 => ?_) (fun hc40 => ?_)
      ·replace h := ite_t hc40 h
       refine WpC.seq ?_
       obtain ⟨v41, hv41, h⟩ := bind_some h
       refine rS { its := [(1, .c (COk.ren (pCloneB.ok O hO k a2 v41 hv41) (fun n => if n = 60500 then 10004 else n) (injOn_of (by kernel_rfl))))] } [1, 2, 3, 12] [3, 10004] hN (by kernel_rfl) (by kernel_rfl) ?_
       refine tnU ?_
       refine WpC.seq ?_
       obtain ⟨v42, hv42, h⟩ := bind_some h
       obtain ⟨v43, hv43, h⟩ := bind_some h
       obtain ⟨v44, hv44, h⟩ := bind_some h
       obtain ⟨g45, h⟩ := if_some h
       refine rSC { its := [(3, .v (.named 3) hv42), (7, .c (hrf_denote_ends v42 a1 a2 v43 hv43)), (8, .c (COk.ren (denote_set_with_m2.ok O hO k v41 v43 v44 hv44) (fun n => if n = 100000 then 10004 else n) (injOn_of (by kernel_rfl))))] } [12] [10004] hN (by kernel_rfl) (by kernel_rfl) (cS [.k [12] [10004], .x (Conv.cast (U := Un) (st := ⟨[(12, .vec 10004 1 0 v41.length)], [(10004, .row 4 .bool v44.2 false)]⟩) (st' := ⟨[(12, .vec 10004 1 0 v44.2.length)], [(10004, .row 4 .bool v44.2 false)]⟩) (by simp only [upd_length, List.length_nil, List.length_replicate, g45]))] (by kernel_rfl) (by kernel_rfl)) ?_
       refine tnU ?_
       refine WpC.seq ?_
       refine rS {} [6] [10004] hN (by kernel_rfl) (by kernel_rfl) ?_
       refine tnU ?_
       refine WpC.conv (cS [.fz 6, .k [6] []] (by kernel_rfl) (by kernel_rfl)) (WpC.ret ?_)
       refine blockQ_ret ?_
       refine thenQ_ret ?_
       have hq := Option.some.inj h
       subst hq
       exact eR (by kernel_rfl) (by kernel_rfl)
      ·replace h := ite_f hc40 h
       refine WpC.seq ?_
       refine rS {} [1, 2, 3, 14, 95] [3] hN (by kernel_rfl) (by kernel_rfl) ?_
       refine tnU ?_
       refine tS (b := (a0.f_Kind == 7)) (by kernel_rfl) (fun hc46 => ?_) (fun hc46 => ?_)
       ·replace h := ite_t hc46 h
        refine WpC.seq ?_
        obtain ⟨v47, hv47, h⟩ := bind_some h
        obtain ⟨v48, hv48, h⟩ := bind_some h
        refine rS { its := [(2, .v (.named 3) hv47), (6, .c (hrf_denote_ends v47 a1 a2 v48 hv48))] } [6] [] hN (by kernel_rfl) (by kernel_rfl) ?_
        refine tnU ?_
        refine WpC.ret ?_
        refine blockQ_ret ?_
        refine thenQ_ret ?_
        have hq := Option.some.inj h
        subst hq
        exact eR (by kernel_rfl) (by kernel_rfl)
       ·replace h := ite_f hc46 h
        refine WpC.seq ?_
        refine rS {} [1, 2, 14, 104] [] hN (by kernel_rfl) (by kernel_rfl) ?_
        refine tnU ?_
        refine tS (b := (a0.f_Kind == 8)) (by kernel_rfl) (fun hc49 => ?_) (fun hc49 => ?_)
        ·replace h := ite_t hc49 h
         refine WpC.seq ?_
         obtain ⟨v50, hv50, h⟩ := bind_some h
         refine rS { its := [(1, .c (COk.ren (denote_set_only.ok O hO k a2 0 v50 hv50) (fun n => if n = 60500 then 10005 else n) (injOn_of (by kernel_rfl))))] } [6] [10005] hN (by kernel_rfl) (by kernel_rfl) ?_
         refine tnU ?_
         refine WpC.conv (cS [.fz 6, .k [6] []] (by kernel_rfl) (by kernel_rfl)) (WpC.ret ?_)
         refine blockQ_ret ?_
         refine thenQ_ret ?_
         have hq := Option.some.inj h
         subst hq
         exact eR (by kernel_rfl) (by kernel_rfl)
        ·replace h := ite_f hc49 h
         refine WpC.seq ?_
         refine rS {} [1, 2, 108] [] hN (by kernel_rfl) (by kernel_rfl) ?_
         refine tnU ?_
         refine tS (b := (a0.f_Kind == 9)) (by kernel_rfl) (fun hc51 => ?_) (fun hc51 => ?_)
         ·replace h := ite_t hc51 h
          refine WpC.seq ?_
          obtain ⟨v52, hv52, h⟩ := bind_some h
          refine rS { its := [(3, .c (COk.ren (denote_set_only.ok O hO k a2 (a1.length : Int) v52 hv52) (fun n => if n = 60500 then 10006 else n) (injOn_of (by kernel_rfl))))] } [6] [10006] hN (by kernel_rfl) (by kernel_rfl) ?_
          refine tnU ?_
          refine WpC.conv (cS [.fz 6, .k [6] []] (by kernel_rfl) (by kernel_rfl)) (WpC.ret ?_)
          refine blockQ_ret ?_
          refine thenQ_ret ?_
          have hq := Option.some.inj h
          subst hq
          exact eR (by kernel_rfl) (by kernel_rfl)
         ·replace h := ite_f hc51 h
          refine WpC.conv (cS [.k [2] []] (by kernel_rfl) (by kernel_rfl)) (WpC.skip ?_)
          refine blockQ_normal ?_
          refine tnU ?_
          refine WpC.seq ?_
          refine rS {} [6] [] hN (by kernel_rfl) (by kernel_rfl) ?_
          refine tnU ?_
          refine WpC.ret ?_
          have hq := Option.some.inj h
          subst hq
          exact eR (by kernel_rfl) (by kernel_rfl)

theorem denote_ends_m0.bok (O : Out) (hO : GOkE O) (k : Nat) (rf_denote_ends_m0 : T_rex_Node → (List UInt8) → (List Bool) → Option (Bool × (List Bool))) (rf_denote_ends : T_rex_Node → (List UInt8) → (List Bool) → Option (List Bool)) (rf_denote_again : T_rex_Node → (List UInt8) → (List Bool) → Option (List Bool)) (hrf_denote_ends_m0 : ∀ (a0 : T_rex_Node) (a1 : List UInt8) (a2 : List Bool) (out : Bool × (List Bool)), rf_denote_ends_m0 a0 a1 a2 = some out → COk Un O Tryd.prog 35 { ar := [.p (.named 3) a0, .p .str a1, .vec 100000 1 0 a2.length], r := .sel out.1 100000 1 a2.length (.list .bool) (out.2 : List Bool), bs := [(100000, .row 4 .bool a2 false)], bs' := [(100000, .row 4 .bool a2 false)] }) (hrf_denote_ends : ∀ (a0 : T_rex_Node) (a1 : List UInt8) (a2 : List Bool) (out : List Bool), rf_denote_ends a0 a1 a2 = some out → COk Un O Tryd.prog 35 { ar := [.p (.named 3) a0, .p .str a1, .p (.list .bool) a2], r := .p (.list .bool) out }) (hrf_denote_again : ∀ (a0 : T_rex_Node) (a1 : List UInt8) (a2 : List Bool) (out : List Bool), rf_denote_again a0 a1 a2 = some out → COk Un O Tryd.prog 52 { ar := [.p (.named 3) a0, .p .str a1, .p (.list .bool) a2], r := .vec 60500 1 0 out.length, bs' := [(60500, .row 4 .bool out false)], nn := [60500] }) (a0 : T_rex_Node) (a1 : List UInt8) (a2 : List Bool) (out : Bool × (List Bool)) (h : denote_ends_m0.b k rf_denote_ends_m0 rf_denote_ends rf_denote_again a0 a1 a2 = some out) : COk Un O Tryd.prog 35 { ar := [.p (.named 3) a0, .p .str a1, .vec 100000 1 0 a2.length], r := .sel out.1 100000 1 a2.length (.list .bool) (out.2 : List Bool), bs := [(100000, .row 4 .bool a2 false)], bs' := [(100000, .row 4 .bool a2 false)] } := by
 refine cok_of_wp Tryd.func35 rfl (k := 115) rfl (Nat.le_of_ble_eq_true rfl) (namesOk_of (by kernel_rfl)) ?_
 intro B hN
 refine WpC.conv (cvK (b := ⟨[(0, .p (.named 3) a0), (1, .p .str a1), (2, .vec 100000 1 0 a2.length)], [(100000, .row 4 .bool a2 false)]⟩) [0, 1, 2] [100000] (by kernel_rfl)) ?_
 unfold denote_ends_m0.b at h
 refine WpC.seq ?_
 refine rS {} [1, 2, 3] [3, 100000] hN (by kernel_rfl) (by kernel_rfl) ?_
 refine tnU ?_
 refine WpC.seq ?_
 refine WpC.seq ?_
 refine rS {} [1, 2, 3, 14] [3, 100000] hN (by kernel_rfl) (by kernel_rfl) ?_
 refine tnU ?_
 refine WpC.block ?_
 refine WpC.seq ?_
 refine rS {} [1, 2, 3, 14, 15] [3, 100000] hN (by kernel_rfl) (by kernel_rfl) ?_
 refine tnU ?_
 refine tS (b := (a0.f_Kind == 1)) (by kernel_rfl) (fun hc1 => ?_) (fun hc1 => ?_)
 ·replace h := ite_t hc1 h
  refine WpC.seq ?_
  obtain ⟨v2, hv2, h⟩ := bind_some h
  refine rS { its := [(4, .c (COk.ren (denote_ones.ok O hO k a1 a2 a0.f_Set v2 hv2) (fun n => if n = 60500 then 10001 else n) (injOn_of (by kernel_rfl))))] } [6] [10001, 100000] hN (by kernel_rfl) (by kernel_rfl) ?_
  refine tnU ?_
  refine WpC.conv (cS [.fz 6, .k [6] [100000], .x (Conv.selF (st := ⟨[(6, .p (.list .bool) v2)], [(100000, .row 4 .bool a2 false)]⟩) 6 100000 1 a2.length (.list .bool) (v2 : List Bool) (.head _)), .k [6] [100000]] (by kernel_rfl) (by kernel_rfl)) (WpC.ret ?_)
  refine blockQ_ret ?_
  refine thenQ_ret ?_
  have hq := Option.some.inj h
  subst hq
  exact eR (by kernel_rfl) (by kernel_rfl)
 ·replace h := ite_f hc1 h
  refine WpC.seq ?_
  refine rS {} [1, 2, 3, 14, 22] [3, 100000] hN (by kernel_rfl) (by kernel_rfl) ?_
  refine tnU ?_
  refine tS (b := (a0.f_Kind == 2)) (by kernel_rfl) (fun hc3 => ?_) (fun hc3 => ?_)
  ·replace h := ite_t hc3 h
   refine sqJ (fun st' => (∃ v4 : List Bool, denote_ends_m0.j5 k a2 v4 = some out ∧ st' = ⟨[(2, .p (.list .bool) v4)], [(100000, .row 4 .bool a2 false)]⟩) ∨ (denote_ends_m0.j6 k a2 = some out ∧ st' = ⟨[(2, .vec 100000 1 0 a2.length)], [(100000, .row 4 .bool a2 false)]⟩)) ?_ ?_
   ·refine WpC.seq ?_
    refine rS {} [1, 2, 25, 26, 27] [100000] hN (by kernel_rfl) (by kernel_rfl) ?_
    refine tnU ?_
    refine WpC.block ?_
    obtain ⟨o12, hlo12, h⟩ := bind_some h
    have hout13 := h
    clear h
    refine WpC.loop (U := Un) (fun n st' => (∃ v7 : Int, denote_ends_m0.l8 k rf_denote_ends_m0 a0 a1 a2 rf_denote_ends n v7 = some o12 ∧ st' = ⟨[(1, .p .str a1), (2, .vec 100000 1 0 a2.length), (25, .p (.list (.named 3)) a0.f_Kids), (26, .p I6 ((a0.f_Kids.length : Int) : Int)), (27, .p I6 v7)], [(100000, .row 4 .bool a2 false)]⟩) ∨ (∃ v9 : List Bool, ∃ v10 : Int, denote_ends_m0.l8T k rf_denote_ends a0 a1 a2 n v9 v10 = some o12 ∧ st' = ⟨[(1, .p .str a1), (2, .p (.list .bool) v9), (25, .p (.list (.named 3)) a0.f_Kids), (26, .p I6 ((a0.f_Kids.length : Int) : Int)), (27, .p I6 v10)], [(100000, .row 4 .bool a2 false)]⟩)) k (Or.inl ⟨0, hlo12, by kernel_rfl⟩) ?_
    clear hlo12
    rintro (_ | n) _ (⟨v7, h, rfl⟩ | ⟨v9, v10, h, rfl⟩)
    ·cases h
    ·cases h
    ·rw [denote_ends_m0.l8] at h
     refine WpC.seq ?_
     refine rS {} [1, 2, 25, 26, 27, 28] [100000] hN (by kernel_rfl) (by kernel_rfl) ?_
     refine tnU ?_
     refine WpC.seq ?_
     refine tS (b := (decide (v7 < (a0.f_Kids.length : Int)))) (by kernel_rfl) (fun hc17 => ?_) (fun hc17 => ?_)
     ·replace h := ite_t hc17 h
      refine WpC.conv (cS [.k [1, 2, 25, 26, 27] [100000]] (by kernel_rfl) (by kernel_rfl)) (WpC.skip ?_)
      refine tnU ?_
      refine WpC.seq ?_
      refine WpC.block ?_
      refine WpC.seq ?_
      obtain ⟨v18, hv18, h⟩ := bind_some h
      refine rS { its := [(0, .v (.named 3) hv18)] } [1, 2, 8, 25, 26, 27] [8, 100000] hN (by kernel_rfl) (by kernel_rfl) ?_
      refine tnU ?_
      obtain ⟨⟨qv20, v20⟩, hv19, h⟩ := bind_some h
      cases qv20
      ·replace h := ite_f rfl h
       refine rS { its := [(3, .c (COk.selF (COk.ren (hrf_denote_ends_m0 (T_rex_Node.mk v18.f_Kind v18.f_Index v18.f_Set v18.f_Kids) a1 a2 (false, v20) hv19) (fun n => if n = 100000 then 100000 else n) (injOn_of (by kernel_rfl))) rfl))] } [1, 2, 25, 26, 27] [100000] hN (by kernel_rfl) (by kernel_rfl) ?_
       refine blockQ_normal ?_
       refine tnU ?_
       refine rS {} [1, 2, 25, 26, 27] [100000] hN (by kernel_rfl) (by kernel_rfl) ?_
       refine tnU ?_
       exact ⟨n, Nat.lt_succ_self n, Or.inr ⟨v20, (IntKind.i64.wrap (v7 + 1)), h, by kernel_rfl⟩⟩
      ·replace h := ite_t rfl h
       refine rS { its := [(3, .c (COk.selT (COk.ren (hrf_denote_ends_m0 (T_rex_Node.mk v18.f_Kind v18.f_Index v18.f_Set v18.f_Kids) a1 a2 (true, v20) hv19) (fun n => if n = 100000 then 100000 else n) (injOn_of (by kernel_rfl))) rfl))] } [1, 2, 25, 26, 27] [100000] hN (by kernel_rfl) (by kernel_rfl) ?_
       refine blockQ_normal ?_
       refine tnU ?_
       refine rS {} [1, 2, 25, 26, 27] [100000] hN (by kernel_rfl) (by kernel_rfl) ?_
       refine tnU ?_
       exact ⟨n, Nat.lt_succ_self n, Or.inl ⟨(IntKind.i64.wrap (v7 + 1)), h, by kernel_rfl⟩⟩
     ·replace h := ite_f hc17 h
      refine WpC.conv (cS [.k [2] [100000]] (by kernel_rfl) (by kernel_rfl)) (WpC.exit ?_)
      refine thenQ_exit ?_
      have hq := Option.some.inj h
      subst hq
      refine thenQ_exit ?_
      have h := hout13
      refine blockQ_hit ?_
      refine tnU ?_
      exact Or.inr (⟨h, by kernel_rfl⟩)
    ·rw [denote_ends_m0.l8T] at h
     refine WpC.seq ?_
     refine rS {} [1, 2, 25, 26, 27, 28] [100000] hN (by kernel_rfl) (by kernel_rfl) ?_
     refine tnU ?_
     refine WpC.seq ?_
     refine tS (b := (decide (v10 < (a0.f_Kids.length : Int)))) (by kernel_rfl) (fun hc14 => ?_) (fun hc14 => ?_)
     ·replace h := ite_t hc14 h
      refine WpC.conv (cS [.k [1, 2, 25, 26, 27] [100000]] (by kernel_rfl) (by kernel_rfl)) (WpC.skip ?_)
      refine tnU ?_
      refine WpC.seq ?_
      refine WpC.block ?_
      refine WpC.seq ?_
      obtain ⟨v15, hv15, h⟩ := bind_some h
      refine rS { its := [(0, .v (.named 3) hv15)] } [1, 2, 8, 25, 26, 27] [8, 100000] hN (by kernel_rfl) (by kernel_rfl) ?_
      refine tnU ?_
      obtain ⟨v16, hv16, h⟩ := bind_some h
      refine rS { its := [(3, .c (hrf_denote_ends (T_rex_Node.mk v15.f_Kind v15.f_Index v15.f_Set v15.f_Kids) a1 v9 v16 hv16))] } [1, 2, 25, 26, 27] [100000] hN (by kernel_rfl) (by kernel_rfl) ?_
      refine blockQ_normal ?_
      refine tnU ?_
      refine rS {} [1, 2, 25, 26, 27] [100000] hN (by kernel_rfl) (by kernel_rfl) ?_
      refine tnU ?_
      exact ⟨n, Nat.lt_succ_self n, Or.inr ⟨v16, (IntKind.i64.wrap (v10 + 1)), h, by kernel_rfl⟩⟩
     ·replace h := ite_f hc14 h
      refine WpC.conv (cS [.k [2] [100000]] (by kernel_rfl) (by kernel_rfl)) (WpC.exit ?_)
      refine thenQ_exit ?_
      have hq := Option.some.inj h
      subst hq
      refine thenQ_exit ?_
      have h := hout13
      refine blockQ_hit ?_
      refine tnU ?_
      exact Or.inl ⟨v9, h, by kernel_rfl⟩
   ·clear h
    rintro _ (⟨v4, h, rfl⟩ | ⟨h, rfl⟩)
    ·unfold denote_ends_m0.j5 at h
     refine WpC.seq ?_
     refine rS {} [6] [100000] hN (by kernel_rfl) (by kernel_rfl) ?_
     refine tnU ?_
     refine WpC.conv (cS [.x (Conv.selF (st := ⟨[(6, .p (.list .bool) v4)], [(100000, .row 4 .bool a2 false)]⟩) 6 100000 1 a2.length (.list .bool) (v4 : List Bool) (.head _)), .k [6] [100000]] (by kernel_rfl) (by kernel_rfl)) (WpC.ret ?_)
     refine blockQ_ret ?_
     refine thenQ_ret ?_
     have hq := Option.some.inj h
     subst hq
     exact eR (by kernel_rfl) (by kernel_rfl)
    ·unfold denote_ends_m0.j6 at h
     refine WpC.seq ?_
     refine rS {} [6] [100000] hN (by kernel_rfl) (by kernel_rfl) ?_
     refine tnU ?_
     refine WpC.conv (cS [.x (Conv.selT (st := ⟨[(6, .vec 100000 1 0 a2.length)], [(100000, .row 4 .bool a2 false)]⟩) 6 100000 1 a2.length (.list .bool) ([] : List Bool) (.head _)), .k [6] [100000]] (by kernel_rfl) (by kernel_rfl)) (WpC.ret ?_)
     refine blockQ_ret ?_
     refine thenQ_ret ?_
     have hq := Option.some.inj h
     subst hq
     exact eR (by kernel_rfl) (by kernel_rfl)
  ·replace h := ite_f hc3 h
   refine WpC.seq ?_
   refine rS {} [1, 2, 3, 14, 37] [3, 100000] hN (by kernel_rfl) (by kernel_rfl) ?_
   refine tnU ?_
   refine tS (b := (a0.f_Kind == 3)) (by kernel_rfl) (fun hc23 => ?_) (fun hc23 => ?_)
   ·replace h := ite_t hc23 h
    refine WpC.seq ?_
    obtain ⟨g24, h⟩ := if_some h
    refine rSC { its := [(2, .g g24)] } [1, 2, 3, 9] [3, 41, 100000] hN (by kernel_rfl) (by kernel_rfl) (cS [.k [1, 2, 3, 9] [3, 41, 100000], .x (Conv.cast (U := Un) (st := ⟨[(1, .p .str a1), (2, .vec 100000 1 0 a2.length), (3, .loc 3 0), (9, .vec 41 1 0 ((a2.length : Int).toNat))], [(3, .box [.p I6 a0.f_Kind, .p I6 a0.f_Index, .p U6 a0.f_Set, .p (.list (.named 3)) a0.f_Kids]), (41, .row 4 .bool (List.replicate (a2.length : Int).toNat false) true), (100000, .row 4 .bool a2 false)]⟩) (st' := ⟨[(1, .p .str a1), (2, .vec 100000 1 0 a2.length), (3, .loc 3 0), (9, .vec 41 1 0 ((List.replicate (a2.length : Int).toNat false).length))], [(3, .box [.p I6 a0.f_Kind, .p I6 a0.f_Index, .p U6 a0.f_Set, .p (.list (.named 3)) a0.f_Kids]), (41, .row 4 .bool (List.replicate (a2.length : Int).toNat false) true), (100000, .row 4 .bool a2 false)]⟩) (by simp only [upd_length, List.length_nil, List.length_replicate]))] (by kernel_rfl) (by kernel_rfl)) ?_
    refine tnU ?_
    refine sqJ (fun st' => ∃ v25 : List Bool, denote_ends_m0.j26 k a2 v25 = some out ∧ st' = ⟨[(9, .vec 1009 1 0 v25.length)], [(1009, .row 4 .bool v25 false), (100000, .row 4 .bool a2 false)]⟩) ?_ ?_
    ·refine WpC.seq ?_
     refine rS {} [1, 2, 9, 43, 44, 45] [41, 100000] hN (by kernel_rfl) (by kernel_rfl) ?_
     refine tnU ?_
     refine WpC.block ?_
     obtain ⟨o31, hlo31, h⟩ := bind_some h
     have hout32 := h
     clear h
     refine WpC.conv (cS [.lo 41, .k [1, 2, 9, 43, 44, 45] [41, 100000], .rn 41 1009, .k [1, 2, 9, 43, 44, 45] [1009, 100000]] (by kernel_rfl) (by kernel_rfl)) ?_
     refine WpC.loop (U := Un) (fun n st' => ∃ v27 : List Bool, ∃ v28 : Int, denote_ends_m0.l29 k rf_denote_ends_m0 a0 a1 a2 n v27 v28 = some o31 ∧ st' = ⟨[(1, .p .str a1), (2, .vec 100000 1 0 a2.length), (9, .vec 1009 1 0 v27.length), (43, .p (.list (.named 3)) a0.f_Kids), (44, .p I6 ((a0.f_Kids.length : Int) : Int)), (45, .p I6 v28)], [(1009, .row 4 .bool v27 false), (100000, .row 4 .bool a2 false)]⟩) k ⟨(List.replicate (a2.length : Int).toNat false), 0, hlo31, by kernel_rfl⟩ ?_
     clear hlo31
     rintro (_ | n) _ ⟨v27, v28, h, rfl⟩
     ·cases h
     ·rw [denote_ends_m0.l29] at h
      refine WpC.seq ?_
      refine rS {} [1, 2, 9, 43, 44, 45, 46] [1009, 100000] hN (by kernel_rfl) (by kernel_rfl) ?_
      refine tnU ?_
      refine WpC.seq ?_
      refine tS (b := (decide (v28 < (a0.f_Kids.length : Int)))) (by kernel_rfl) (fun hc33 => ?_) (fun hc33 => ?_)
      ·replace h := ite_t hc33 h
       refine WpC.conv (cS [.k [1, 2, 9, 43, 44, 45] [1009, 100000]] (by kernel_rfl) (by kernel_rfl)) (WpC.skip ?_)
       refine tnU ?_
       refine WpC.seq ?_
       refine WpC.block ?_
       refine WpC.seq ?_
       obtain ⟨v34, hv34, h⟩ := bind_some h
       refine rS { its := [(0, .v (.named 3) hv34)] } [1, 2, 9, 11, 43, 44, 45] [11, 1009, 100000] hN (by kernel_rfl) (by kernel_rfl) ?_
       refine tnU ?_
       obtain ⟨⟨qv36, v36⟩, hv35, h⟩ := bind_some h
       cases qv36
       ·replace h := ite_f rfl h
        obtain ⟨v39, hv39, h⟩ := bind_some h
        obtain ⟨g40, h⟩ := if_some h
        refine rSC { its := [(4, .c (COk.selF (COk.ren (hrf_denote_ends_m0 (T_rex_Node.mk v34.f_Kind v34.f_Index v34.f_Set v34.f_Kids) a1 a2 (false, v36) hv35) (fun n => if n = 100000 then 100000 else n) (injOn_of (by kernel_rfl))) rfl)), (5, .c (COk.ren (denote_set_with_m2.ok O hO k v27 v36 v39 hv39) (fun n => if n = 100000 then 1009 else n) (injOn_of (by kernel_rfl))))] } [1, 2, 9, 43, 44, 45] [1009, 100000] hN (by kernel_rfl) (by kernel_rfl) (cS [.k [1, 2, 9, 43, 44, 45] [1009, 100000], .x (Conv.cast (U := Un) (st := ⟨[(1, .p .str a1), (2, .vec 100000 1 0 a2.length), (9, .vec 1009 1 0 v27.length), (43, .p (.list (.named 3)) a0.f_Kids), (44, .p I6 ((a0.f_Kids.length : Int) : Int)), (45, .p I6 v28)], [(1009, .row 4 .bool v39.2 false), (100000, .row 4 .bool a2 false)]⟩) (st' := ⟨[(1, .p .str a1), (2, .vec 100000 1 0 a2.length), (9, .vec 1009 1 0 v39.2.length), (43, .p (.list (.named 3)) a0.f_Kids), (44, .p I6 ((a0.f_Kids.length : Int) : Int)), (45, .p I6 v28)], [(1009, .row 4 .bool v39.2 false), (100000, .row 4 .bool a2 false)]⟩) (by simp only [upd_length, List.length_nil, List.length_replicate, g40]))] (by kernel_rfl) (by kernel_rfl)) ?_
        refine blockQ_normal ?_
        refine tnU ?_
        refine rS {} [1, 2, 9, 43, 44, 45] [1009, 100000] hN (by kernel_rfl) (by kernel_rfl) ?_
        refine tnU ?_
        exact ⟨n, Nat.lt_succ_self n, v39.2, (IntKind.i64.wrap (v28 + 1)), h, by kernel_rfl⟩
       ·replace h := ite_t rfl h
        obtain ⟨v37, hv37, h⟩ := bind_some h
        obtain ⟨g38, h⟩ := if_some h
        refine rSC { its := [(4, .c (COk.selT (COk.ren (hrf_denote_ends_m0 (T_rex_Node.mk v34.f_Kind v34.f_Index v34.f_Set v34.f_Kids) a1 a2 (true, v36) hv35) (fun n => if n = 100000 then 100000 else n) (injOn_of (by kernel_rfl))) rfl)), (5, .c (COk.ren (denote_set_with_m4.ok O hO k v27 a2 v37 hv37) (fun n => if n = 100000 then 1009 else if n = 100001 then 100000 else n) (injOn_of (by kernel_rfl))))] } [1, 2, 9, 43, 44, 45] [1009, 100000] hN (by kernel_rfl) (by kernel_rfl) (cS [.k [1, 2, 9, 43, 44, 45] [1009, 100000], .x (Conv.cast (U := Un) (st := ⟨[(1, .p .str a1), (2, .vec 100000 1 0 a2.length), (9, .vec 1009 1 0 v27.length), (43, .p (.list (.named 3)) a0.f_Kids), (44, .p I6 ((a0.f_Kids.length : Int) : Int)), (45, .p I6 v28)], [(1009, .row 4 .bool v37.2 false), (100000, .row 4 .bool a2 false)]⟩) (st' := ⟨[(1, .p .str a1), (2, .vec 100000 1 0 a2.length), (9, .vec 1009 1 0 v37.2.length), (43, .p (.list (.named 3)) a0.f_Kids), (44, .p I6 ((a0.f_Kids.length : Int) : Int)), (45, .p I6 v28)], [(1009, .row 4 .bool v37.2 false), (100000, .row 4 .bool a2 false)]⟩) (by simp only [upd_length, List.length_nil, List.length_replicate, g38]))] (by kernel_rfl) (by kernel_rfl)) ?_
        refine blockQ_normal ?_
        refine tnU ?_
        refine rS {} [1, 2, 9, 43, 44, 45] [1009, 100000] hN (by kernel_rfl) (by kernel_rfl) ?_
        refine tnU ?_
        exact ⟨n, Nat.lt_succ_self n, v37.2, (IntKind.i64.wrap (v28 + 1)), h, by kernel_rfl⟩
      ·replace h := ite_f hc33 h
       refine WpC.conv (cS [.k [9] [1009, 100000]] (by kernel_rfl) (by kernel_rfl)) (WpC.exit ?_)
       refine thenQ_exit ?_
       have hq := Option.some.inj h
       subst hq
       refine thenQ_exit ?_
       have h := hout32
       refine blockQ_hit ?_
       refine tnU ?_
       exact ⟨v27, h, by kernel_rfl⟩
    ·rintro _ ⟨v25, h, rfl⟩
     unfold denote_ends_m0.j26 at h
     refine WpC.seq ?_
     refine rS {} [6] [1009, 100000] hN (by kernel_rfl) (by kernel_rfl) ?_
     refine tnU ?_
     refine WpC.conv (cS [.fz 6, .k [6] [100000], .x (Conv.selF (st := ⟨[(6, .p (.list .bool) v25)], [(100000, .row 4 .bool a2 false)]⟩) 6 100000 1 a2.length (.list .bool) (v25 : List Bool) (.head _)), .k [6] [100000]] (by kernel_rfl) (by kernel_rfl)) (WpC.ret ?_)
     refine blockQ_ret ?_
     refine thenQ_ret ?_
     have hq := Option.some.inj h
     subst hq
     exact eR (by kernel_rfl) (by kernel_rfl)
   ·replace h := ite_f hc23 h
    refine WpC.seq ?_
    refine rS {} [1, 2, 3, 14, 57] [3, 100000] hN (by kernel_rfl) (by kernel_rfl) ?_
    refine tnU ?_
    refine tS (b := (a0.f_Kind == 4)) (by kernel_rfl) (fun hc42 => ?_) (fun hc42 => ?_)
    ·replace h := ite_t hc42 h
     refine WpC.seq ?_
     obtain ⟨v43, hv43, h⟩ := bind_some h
     obtain ⟨v44, hv44, h⟩ := bind_some h
     refine rS { its := [(2, .v (.named 3) hv43), (6, .c (COk.ren (hrf_denote_again v43 a1 a2 v44 hv44) (fun n => if n = 60500 then 10002 else n) (injOn_of (by kernel_rfl))))] } [6] [10002, 100000] hN (by kernel_rfl) (by kernel_rfl) ?_
     refine tnU ?_
     refine WpC.conv (cS [.fz 6, .k [6] [100000], .x (Conv.selF (st := ⟨[(6, .p (.list .bool) v44)], [(100000, .row 4 .bool a2 false)]⟩) 6 100000 1 a2.length (.list .bool) (v44 : List Bool) (.head _)), .k [6] [100000]] (by kernel_rfl) (by kernel_rfl)) (WpC.ret ?_)
     refine blockQ_ret ?_
     refine thenQ_ret ?_
     have hq := Option.some.inj h
     subst hq
     exact eR (by kernel_rfl) (by kernel_rfl)
    ·replace h := ite_f hc42 h
     refine WpC.seq ?_
     refine rS {} [1, 2, 3, 14, 66] [3, 100000] hN (by kernel_rfl) (by kernel_rfl) ?_
     refine tnU ?_
     refine tS (b := (a0.f_Kind == 5)) (by kernel_rfl) (fun hc45 => ?_) (fun hc45 => ?_)
     ·replace h := ite_t hc45 h
      refine WpC.seq ?_
      obtain ⟨v46, hv46, h⟩ := bind_some h
      obtain ⟨v47, hv47, h⟩ := bind_some h
      obtain ⟨⟨qv49, v49⟩, hv48, h⟩ := bind_some h
      cases qv49
      ·replace h := ite_f rfl h
       obtain ⟨v51, hv51, h⟩ := bind_some h
       refine rA { its := [(2, .v (.named 3) hv46), (7, .v (.named 3) hv47), (11, .c (COk.selF (COk.ren (hrf_denote_ends_m0 v47 a1 a2 (false, v49) hv48) (fun n => if n = 100000 then 100000 else n) (injOn_of (by kernel_rfl))) rfl)), (12, .c (COk.ren (hrf_denote_again v46 a1 v49 v51 hv51) (fun n => if n = 60500 then 10004 else n) (injOn_of (by kernel_rfl))))] } [6] [10004, 100000] hN (by kernel_rfl) (by kernel_rfl) (by kernel_rfl) ?_
       refine tnU ?_
       refine WpC.conv (cS [.fz 6, .k [6] [100000], .x (Conv.selF (st := ⟨[(6, .p (.list .bool) v51)], [(100000, .row 4 .bool a2 false)]⟩) 6 100000 1 a2.length (.list .bool) (v51 : List Bool) (.head _)), .k [6] [100000]] (by kernel_rfl) (by kernel_rfl)) (WpC.ret ?_)
       refine blockQ_ret ?_
       refine thenQ_ret ?_
       have hq := Option.some.inj h
       subst hq
       exact eR (by kernel_rfl) (by kernel_rfl)
      ·replace h := ite_t rfl h
       obtain ⟨v50, hv50, h⟩ := bind_some h
       refine rA { its := [(2, .v (.named 3) hv46), (7, .v (.named 3) hv47), (11, .c (COk.selT (COk.ren (hrf_denote_ends_m0 v47 a1 a2 (true, v49) hv48) (fun n => if n = 100000 then 100000 else n) (injOn_of (by kernel_rfl))) rfl)), (12, .c (COk.ren (hrf_denote_again v46 a1 a2 v50 hv50) (fun n => if n = 60500 then 10003 else n) (injOn_of (by kernel_rfl))))] } [6] [10003, 100000] hN (by kernel_rfl) (by kernel_rfl) (by kernel_rfl) ?_
       refine tnU ?_
       refine WpC.conv (cS [.fz 6, .k [6] [100000], .x (Conv.selF (st := ⟨[(6, .p (.list .bool) v50)], [(100000, .row 4 .bool a2 false)]⟩) 6 100000 1 a2.length (.list .bool) (v50 : List Bool) (.head _)), .k [6] [100000]] (by kernel_rfl) (by kernel_rfl)) (WpC.ret ?_)
       refine blockQ_ret ?_
       refine thenQ_ret ?_
       have hq := Option.some.inj h
       subst hq
       exact eR (by kernel_rfl) (by kernel_rfl)
     ·replace h := ite_f hc45 h
      refine WpC.seq ?_
      refine rS {} [1, 2, 3, 14, 81] [3, 100000] hN (by kernel_rfl) (by kernel_rfl) ?_
      refine tnU ?_
      refine tS (b := (a0.f_Kind == 6)) (by kernel_rfl) (fun hc52 => ?_) (fun hc52 => ?_)
      ·replace h := ite_t hc52 h
       refine WpC.seq ?_
       obtain ⟨v53, hv53, h⟩ := bind_some h
       refine rS { its := [(1, .c (COk.ren (pCloneB.ok O hO k a2 v53 hv53) (fun n => if n = 60500 then 10005 else n) (injOn_of (by kernel_rfl))))] } [1, 2, 3, 12] [3, 10005, 100000] hN (by kernel_rfl) (by kernel_rfl) ?_
       refine tnU ?_
       refine WpC.seq ?_
       obtain ⟨v54, hv54, h⟩ := bind_some h
       obtain ⟨⟨qv56, v56⟩, hv55, h⟩ := bind_some h
       cases qv56
       ·replace h := ite_f rfl h
        obtain ⟨v59, hv59, h⟩ := bind_some h
        obtain ⟨g60, h⟩ := if_some h
        refine rSC { its := [(3, .v (.named 3) hv54), (7, .c (COk.selF (COk.ren (hrf_denote_ends_m0 v54 a1 a2 (false, v56) hv55) (fun n => if n = 100000 then 100000 else n) (injOn_of (by kernel_rfl))) rfl)), (8, .c (COk.ren (denote_set_with_m2.ok O hO k v53 v56 v59 hv59) (fun n => if n = 100000 then 10005 else n) (injOn_of (by kernel_rfl))))] } [12] [10005, 100000] hN (by kernel_rfl) (by kernel_rfl) (cS [.k [12] [10005, 100000], .x (Conv.cast (U := Un) (st := ⟨[(12, .vec 10005 1 0 v53.length)], [(10005, .row 4 .bool v59.2 false), (100000, .row 4 .bool a2 false)]⟩) (st' := ⟨[(12, .vec 10005 1 0 v59.2.length)], [(10005, .row 4 .bool v59.2 false), (100000, .row 4 .bool a2 false)]⟩) (by simp only [upd_length, List.length_nil, List.length_replicate, g60]))] (by kernel_rfl) (by kernel_rfl)) ?_
        refine tnU ?_
        refine WpC.seq ?_
        refine rS {} [6] [10005, 100000] hN (by kernel_rfl) (by kernel_rfl) ?_
        refine tnU ?_
        refine WpC.conv (cS [.fz 6, .k [6] [100000], .x (Conv.selF (st := ⟨[(6, .p (.list .bool) v59.2)], [(100000, .row 4 .bool a2 false)]⟩) 6 100000 1 a2.length (.list .bool) (v59.2 : List Bool) (.head _)), .k [6] [100000]] (by kernel_rfl) (by kernel_rfl)) (WpC.ret ?_)
        refine blockQ_ret ?_
        refine thenQ_ret ?_
        have hq := Option.some.inj h
        subst hq
        exact eR (by kernel_rfl) (by kernel_rfl)
       ·replace h := ite_t rfl h
        obtain ⟨v57, hv57, h⟩ := bind_some h
        obtain ⟨g58, h⟩ := if_some h
        refine rSC { its := [(3, .v (.named 3) hv54), (7, .c (COk.selT (COk.ren (hrf_denote_ends_m0 v54 a1 a2 (true, v56) hv55) (fun n => if n = 100000 then 100000 else n) (injOn_of (by kernel_rfl))) rfl)), (8, .c (COk.ren (denote_set_with_m4.ok O hO k v53 a2 v57 hv57) (fun n => if n = 100000 then 10005 else if n = 100001 then 100000 else n) (injOn_of (by kernel_rfl))))] } [12] [10005, 100000] hN (by kernel_rfl) (by kernel_rfl) (cS [.k [12] [10005, 100000], .x (Conv.cast (U := Un) (st := ⟨[(12, .vec 10005 1 0 v53.length)], [(10005, .row 4 .bool v57.2 false), (100000, .row 4 .bool a2 false)]⟩) (st' := ⟨[(12, .vec 10005 1 0 v57.2.length)], [(10005, .row 4 .bool v57.2 false), (100000, .row 4 .bool a2 false)]⟩) (by simp only [upd_length, List.length_nil, List.length_replicate, g58]))] (by kernel_rfl) (by kernel_rfl)) ?_
        refine tnU ?_
        refine WpC.seq ?_
        refine rS {} [6] [10005, 100000] hN (by kernel_rfl) (by kernel_rfl) ?_
        refine tnU ?_
        refine WpC.conv (cS [.fz 6, .k [6] [100000], .x (Conv.selF (st := ⟨[(6, .p (.list .bool) v57.2)], [(100000, .row 4 .bool a2 false)]⟩) 6 100000 1 a2.length (.list .bool) (v57.2 : List Bool) (.head _)), .k [6] [100000]] (by kernel_rfl) (by kernel_rfl)) (WpC.ret ?_)
        refine blockQ_ret ?_
        refine thenQ_ret ?_
        have hq := Option.some.inj h
        subst hq
        exact eR (by kernel_rfl) (by kernel_rfl)
      ·replace h := ite_f hc52 h
       refine WpC.seq ?_
       refine rS {} [1, 2, 3, 14, 95] [3, 100000] hN (by kernel_rfl) (by kernel_rfl) ?_
       refine tnU ?_
       refine tS (b := (a0.f_Kind == 7)) (by kernel_rfl) (fun hc61 => ?_) (fun hc61 => ?_)
       ·replace h := ite_t hc61 h
        refine WpC.seq ?_
        obtain ⟨v62, hv62, h⟩ := bind_some h
        obtain ⟨⟨qv64, v64⟩, hv63, h⟩ := bind_some h
        cases qv64
        ·replace h := ite_f rfl h
         refine rS { its := [(2, .v (.named 3) hv62), (6, .c (COk.selF (COk.ren (hrf_denote_ends_m0 v62 a1 a2 (false, v64) hv63) (fun n => if n = 100000 then 100000 else n) (injOn_of (by kernel_rfl))) rfl))] } [6] [100000] hN (by kernel_rfl) (by kernel_rfl) ?_
         refine tnU ?_
         refine WpC.conv (cS [.x (Conv.selF (st := ⟨[(6, .p (.list .bool) v64)], [(100000, .row 4 .bool a2 false)]⟩) 6 100000 1 a2.length (.list .bool) (v64 : List Bool) (.head _)), .k [6] [100000]] (by kernel_rfl) (by kernel_rfl)) (WpC.ret ?_)
         refine blockQ_ret ?_
         refine thenQ_ret ?_
         have hq := Option.some.inj h
         subst hq
         exact eR (by kernel_rfl) (by kernel_rfl)
        ·replace h := ite_t rfl h
         refine rS { its := [(2, .v (.named 3) hv62), (6, .c (COk.selT (COk.ren (hrf_denote_ends_m0 v62 a1 a2 (true, v64) hv63) (fun n => if n = 100000 then 100000 else n) (injOn_of (by kernel_rfl))) rfl))] } [6] [100000] hN (by kernel_rfl) (by kernel_rfl) ?_
         refine tnU ?_
         refine WpC.conv (cS [.x (Conv.selT (st := ⟨[(6, .vec 100000 1 0 a2.length)], [(100000, .row 4 .bool a2 false)]⟩) 6 100000 1 a2.length (.list .bool) ([] : List Bool) (.head _)), .k [6] [100000]] (by kernel_rfl) (by kernel_rfl)) (WpC.ret ?_)
         refine blockQ_ret ?_
         refine thenQ_ret ?_
         have hq := Option.some.inj h
         subst hq
         exact eR (by kernel_rfl) (by kernel_rfl)
       ·replace h := ite_f hc61 h
        refine WpC.seq ?_
        refine rS {} [1, 2, 14, 104] [100000] hN (by kernel_rfl) (by kernel_rfl) ?_
        refine tnU ?_
        refine tS (b := (a0.f_Kind == 8)) (by kernel_rfl) (fun hc65 => ?_) (fun hc65 => ?_)
        ·replace h := ite_t hc65 h
         refine WpC.seq ?_
         obtain ⟨v66, hv66, h⟩ := bind_some h
         refine rS { its := [(1, .c (COk.ren (denote_set_only.ok O hO k a2 0 v66 hv66) (fun n => if n = 60500 then 10006 else n) (injOn_of (by kernel_rfl))))] } [6] [10006, 100000] hN (by kernel_rfl) (by kernel_rfl) ?_
         refine tnU ?_
         refine WpC.conv (cS [.fz 6, .k [6] [100000], .x (Conv.selF (st := ⟨[(6, .p (.list .bool) v66)], [(100000, .row 4 .bool a2 false)]⟩) 6 100000 1 a2.length (.list .bool) (v66 : List Bool) (.head _)), .k [6] [100000]] (by kernel_rfl) (by kernel_rfl)) (WpC.ret ?_)
         refine blockQ_ret ?_
         refine thenQ_ret ?_
         have hq := Option.some.inj h
         subst hq
         exact eR (by kernel_rfl) (by kernel_rfl)
        ·replace h := ite_f hc65 h
         refine WpC.seq ?_
         refine rS {} [1, 2, 108] [100000] hN (by kernel_rfl) (by kernel_rfl) ?_
         refine tnU ?_
         refine tS (b := (a0.f_Kind == 9)) (by kernel_rfl) (fun hc67 => ?_) (fun hc67 => ?_)
         ·replace h := ite_t hc67 h
          refine WpC.seq ?_
          obtain ⟨v68, hv68, h⟩ := bind_some h
          refine rS { its := [(3, .c (COk.ren (denote_set_only.ok O hO k a2 (a1.length : Int) v68 hv68) (fun n => if n = 60500 then 10007 else n) (injOn_of (by kernel_rfl))))] } [6] [10007, 100000] hN (by kernel_rfl) (by kernel_rfl) ?_
          refine tnU ?_
          refine WpC.conv (cS [.fz 6, .k [6] [100000], .x (Conv.selF (st := ⟨[(6, .p (.list .bool) v68)], [(100000, .row 4 .bool a2 false)]⟩) 6 100000 1 a2.length (.list .bool) (v68 : List Bool) (.head _)), .k [6] [100000]] (by kernel_rfl) (by kernel_rfl)) (WpC.ret ?_)
          refine blockQ_ret ?_
          refine thenQ_ret ?_
          have hq := Option.some.inj h
          subst hq
          exact eR (by kernel_rfl) (by kernel_rfl)
         ·replace h := ite_f hc67 h
          refine WpC.conv (cS [.k [2] [100000]] (by kernel_rfl) (by kernel_rfl)) (WpC.skip ?_)
          refine blockQ_normal ?_
          refine tnU ?_
          refine WpC.seq ?_
          refine rS {} [6] [100000] hN (by kernel_rfl) (by kernel_rfl) ?_
          refine tnU ?_
          refine WpC.conv (cS [.x (Conv.selT (st := ⟨[(6, .vec 100000 1 0 a2.length)], [(100000, .row 4 .bool a2 false)]⟩) 6 100000 1 a2.length (.list .bool) ([] : List Bool) (.head _)), .k [6] [100000]] (by kernel_rfl) (by kernel_rfl)) (WpC.ret ?_)
          have hq := Option.some.inj h
          subst hq
          exact eR (by kernel_rfl) (by kernel_rfl)

theorem scc_denote_ends_m0.ok (O : Out) (hO : GOkE O) : ∀ k : Nat, (∀ (a0 : T_rex_Node) (a1 : List UInt8) (a2 : List Bool) (out : List Bool), denote_again.f k a0 a1 a2 = some out → COk Un O Tryd.prog 52 { ar := [.p (.named 3) a0, .p .str a1, .p (.list .bool) a2], r := .vec 60500 1 0 out.length, bs' := [(60500, .row 4 .bool out false)], nn := [60500] }) ∧ (∀ (a0 : T_rex_Node) (a1 : List UInt8) (a2 : List Bool) (out : List Bool), denote_ends.f k a0 a1 a2 = some out → COk Un O Tryd.prog 35 { ar := [.p (.named 3) a0, .p .str a1, .p (.list .bool) a2], r := .p (.list .bool) out }) ∧ (∀ (a0 : T_rex_Node) (a1 : List UInt8) (a2 : List Bool) (out : Bool × (List Bool)), denote_ends_m0.f k a0 a1 a2 = some out → COk Un O Tryd.prog 35 { ar := [.p (.named 3) a0, .p .str a1, .vec 100000 1 0 a2.length], r := .sel out.1 100000 1 a2.length (.list .bool) (out.2 : List Bool), bs := [(100000, .row 4 .bool a2 false)], bs' := [(100000, .row 4 .bool a2 false)] }) := by
 intro k
 induction k with
 | zero => exact ⟨fun a0 a1 a2 out h => (by have h2 : (none : Option (List Bool)) = some out := h; cases h2), fun a0 a1 a2 out h => (by have h2 : (none : Option (List Bool)) = some out := h; cases h2), fun a0 a1 a2 out h => (by have h2 : (none : Option (Bool × (List Bool))) = some out := h; cases h2)⟩
 | succ k ih => exact ⟨fun a0 a1 a2 out h => denote_again.bok O hO k _ ih.2.2 a0 a1 a2 out h, fun a0 a1 a2 out h => denote_ends.bok O hO k _ _ ih.2.1 ih.1 a0 a1 a2 out h, fun a0 a1 a2 out h => denote_ends_m0.bok O hO k _ _ _ ih.2.2 ih.2.1 ih.1 a0 a1 a2 out h⟩
theorem denote_ends_m0.ok (O : Out) (hO : GOkE O) (k : Nat) (a0 : T_rex_Node) (a1 : List UInt8) (a2 : List Bool) (out : Bool × (List Bool)) (h : denote_ends_m0.f k a0 a1 a2 = some out) : COk Un O Tryd.prog 35 { ar := [.p (.named 3) a0, .p .str a1, .vec 100000 1 0 a2.length], r := .sel out.1 100000 1 a2.length (.list .bool) (out.2 : List Bool), bs := [(100000, .row 4 .bool a2 false)], bs' := [(100000, .row 4 .bool a2 false)] } := (scc_denote_ends_m0.ok O hO k).2.2 a0 a1 a2 out h

theorem denote_Ends.ok (O : Out) (hO : GOkE O) (k : Nat) (a0 : T_rex_Node) (a1 : List UInt8) (a2 : Int) (out : List Int) (h : denote_Ends.f k a0 a1 a2 = some out) : COk Un O Tryd.prog 10 { ar := [.p (.named 3) a0, .p .str a1, .p I6 a2], r := .p (.list I6) out } := by
 refine cok_of_wp Tryd.func10 rfl (k := 32) rfl (Nat.le_of_ble_eq_true rfl) (namesOk_pure rfl rfl rfl rfl) ?_
 intro B hN
 refine WpC.conv (cvK (b := ⟨[(0, .p (.named 3) a0), (1, .p .str a1), (2, .p I6 a2)], []⟩) [0, 1, 2] [] (by kernel_rfl)) ?_
 unfold denote_Ends.f at h
 refine WpC.seq ?_
 refine rS {} [1, 2, 3] [3] hN (by kernel_rfl) (by kernel_rfl) ?_
 refine tnU ?_
 refine WpC.seq ?_
 refine WpC.seq ?_
 obtain ⟨v1, hv1, h⟩ := bind_some h
 refine rS { its := [(1, .c (prog_Right.ok O hO k (T_rex_Node.mk a0.f_Kind a0.f_Index a0.f_Set a0.f_Kids) v1 hv1))] } [1, 2, 3, 12] [3] hN (by kernel_rfl) (by kernel_rfl) ?_
 refine tnU ?_
 refine tS (b := (!v1)) (by kernel_rfl) (fun hc2 => ?_) (fun hc2 => ?_)
 ·replace h := ite_t hc2 h
  refine WpC.seq ?_
  refine rS {} [6] [] hN (by kernel_rfl) (by kernel_rfl) ?_
  refine tnU ?_
  refine WpC.conv (cS [.nL 6 I6, .k [6] []] (by kernel_rfl) (by kernel_rfl)) (WpC.ret ?_)
  refine thenQ_ret ?_
  have hq := Option.some.inj h
  subst hq
  exact eR (by kernel_rfl) (by kernel_rfl)
 ·replace h := ite_f hc2 h
  refine WpC.conv (cS [.k [1, 2, 3] [3]] (by kernel_rfl) (by kernel_rfl)) (WpC.skip ?_)
  refine tnU ?_
  refine WpC.seq ?_
  refine rS {} [1, 2, 3, 7] [3] hN (by kernel_rfl) (by kernel_rfl) ?_
  refine tnU ?_
  refine sqJ (fun st' => ∃ v3 : List Int, denote_Ends.j4 k v3 = some out ∧ st' = ⟨[(7, .vec 1007 1 0 v3.length)], [(1007, .row 3 I6 v3 false)]⟩) ?_ ?_
  ·refine WpC.seq ?_
   obtain ⟨v5, hv5, h⟩ := bind_some h
   obtain ⟨⟨qv7, v7⟩, hv6, h⟩ := bind_some h
   cases qv7
   ·replace h := ite_f rfl h
    refine rA { its := [(4, .c (COk.ren (denote_of.ok O hO k a1 a2 v5 hv5) (fun n => if n = 60500 then 10001 else n) (injOn_of (by kernel_rfl)))), (5, .c (COk.selF (COk.ren (denote_ends_m0.ok O hO k (T_rex_Node.mk a0.f_Kind a0.f_Index a0.f_Set a0.f_Kids) a1 v5 (false, v7) hv6) (fun n => if n = 100000 then 10001 else n) (injOn_of (by kernel_rfl))) rfl))] } [7, 18, 19, 20] [] hN (by kernel_rfl) (by kernel_rfl) (by kernel_rfl) ?_
    refine tnU ?_
    refine WpC.block ?_
    obtain ⟨o26, hlo26, h⟩ := bind_some h
    have hout27 := h
    clear h
    refine WpC.conv (cS [.th 7 1007 3 I6, .k [7, 18, 19, 20] [1007]] (by kernel_rfl) (by kernel_rfl)) ?_
    refine WpC.loop (U := Un) (fun n st' => ∃ v22 : List Int, ∃ v23 : Int, denote_Ends.l24 k v7 n v22 v23 = some o26 ∧ st' = ⟨[(7, .vec 1007 1 0 v22.length), (18, .p (.list .bool) v7), (19, .p I6 ((v7.length : Int) : Int)), (20, .p I6 v23)], [(1007, .row 3 I6 v22 false)]⟩) k ⟨[], 0, hlo26, by kernel_rfl⟩ ?_
    clear hlo26
    rintro (_ | n) _ ⟨v22, v23, h, rfl⟩
    ·cases h
    ·rw [denote_Ends.l24] at h
     refine WpC.seq ?_
     refine rS {} [7, 18, 19, 20, 21] [1007] hN (by kernel_rfl) (by kernel_rfl) ?_
     refine tnU ?_
     refine WpC.seq ?_
     refine tS (b := (decide (v23 < (v7.length : Int)))) (by kernel_rfl) (fun hc28 => ?_) (fun hc28 => ?_)
     ·replace h := ite_t hc28 h
      refine WpC.conv (cS [.k [7, 18, 19, 20] [1007]] (by kernel_rfl) (by kernel_rfl)) (WpC.skip ?_)
      refine tnU ?_
      refine sqJ (fun st' => ∃ v29 : List Int, denote_Ends.j30 k (denote_Ends.l24 k v7 n) v7 v23 v29 = some o26 ∧ st' = ⟨[(7, .vec 1007 1 0 v29.length), (18, .p (.list .bool) v7), (19, .p I6 ((v7.length : Int) : Int)), (20, .p I6 v23)], [(1007, .row 3 I6 v29 false)]⟩) ?_ ?_
      ·refine WpC.block ?_
       refine WpC.seq ?_
       obtain ⟨v31, hv31, h⟩ := bind_some h
       refine rS { its := [(1, .v .bool hv31)] } [7, 8, 9, 18, 19, 20] [1007] hN (by kernel_rfl) (by kernel_rfl) ?_
       refine tnU ?_
       refine WpC.seq ?_
       refine rS {} [7, 8, 18, 19, 20, 25] [1007] hN (by kernel_rfl) (by kernel_rfl) ?_
       refine tnU ?_
       refine tS (b := v31) (by kernel_rfl) (fun hc32 => ?_) (fun hc32 => ?_)
       ·replace h := ite_t hc32 h
        obtain ⟨g33, h⟩ := if_some h
        refine rSC { its := [(3, .g g33)] } [7, 18, 19, 20] [29] hN (by kernel_rfl) (by kernel_rfl) (cS [.rn 29 1007, .k [7, 18, 19, 20] [1007]] (by kernel_rfl) (by kernel_rfl)) ?_
        refine blockQ_normal ?_
        refine tnU ?_
        exact ⟨(v22 ++ [v23]), h, by kernel_rfl⟩
       ·replace h := ite_f hc32 h
        refine WpC.conv (cS [.k [7, 18, 19, 20] [1007]] (by kernel_rfl) (by kernel_rfl)) (WpC.skip ?_)
        refine blockQ_normal ?_
        refine tnU ?_
        exact ⟨v22, h, by kernel_rfl⟩
      ·rintro _ ⟨v29, h, rfl⟩
       unfold denote_Ends.j30 at h
       refine rS {} [7, 18, 19, 20] [1007] hN (by kernel_rfl) (by kernel_rfl) ?_
       refine tnU ?_
       exact ⟨n, Nat.lt_succ_self n, v29, (IntKind.i64.wrap (v23 + 1)), h, by kernel_rfl⟩
     ·replace h := ite_f hc28 h
      refine WpC.conv (cS [.k [7] [1007]] (by kernel_rfl) (by kernel_rfl)) (WpC.exit ?_)
      refine thenQ_exit ?_
      have hq := Option.some.inj h
      subst hq
      refine thenQ_exit ?_
      have h := hout27
      refine blockQ_hit ?_
      refine tnU ?_
      exact ⟨v22, h, by kernel_rfl⟩
   ·replace h := ite_t rfl h
    refine rA { its := [(4, .c (COk.ren (denote_of.ok O hO k a1 a2 v5 hv5) (fun n => if n = 60500 then 10001 else n) (injOn_of (by kernel_rfl)))), (5, .c (COk.selT (COk.ren (denote_ends_m0.ok O hO k (T_rex_Node.mk a0.f_Kind a0.f_Index a0.f_Set a0.f_Kids) a1 v5 (true, v7) hv6) (fun n => if n = 100000 then 10001 else n) (injOn_of (by kernel_rfl))) rfl))] } [7, 18, 19, 20] [10001] hN (by kernel_rfl) (by kernel_rfl) (by kernel_rfl) ?_
    refine tnU ?_
    refine WpC.block ?_
    obtain ⟨o12, hlo12, h⟩ := bind_some h
    have hout13 := h
    clear h
    refine WpC.conv (cS [.th 7 1007 3 I6, .k [7, 18, 19, 20] [1007, 10001]] (by kernel_rfl) (by kernel_rfl)) ?_
    refine WpC.loop (U := Un) (fun n st' => ∃ v8 : List Int, ∃ v9 : Int, denote_Ends.l10 k v5 n v8 v9 = some o12 ∧ st' = ⟨[(7, .vec 1007 1 0 v8.length), (18, .vec 10001 1 0 v5.length), (19, .p I6 ((v5.length : Int) : Int)), (20, .p I6 v9)], [(1007, .row 3 I6 v8 false), (10001, .row 4 .bool v5 false)]⟩) k ⟨[], 0, hlo12, by kernel_rfl⟩ ?_
    clear hlo12
    rintro (_ | n) _ ⟨v8, v9, h, rfl⟩
    ·cases h
    ·rw [denote_Ends.l10] at h
     refine WpC.seq ?_
     refine rS {} [7, 18, 19, 20, 21] [1007, 10001] hN (by kernel_rfl) (by kernel_rfl) ?_
     refine tnU ?_
     refine WpC.seq ?_
     refine tS (b := (decide (v9 < (v5.length : Int)))) (by kernel_rfl) (fun hc14 => ?_) (fun hc14 => ?_)
     ·replace h := ite_t hc14 h
      refine WpC.conv (cS [.k [7, 18, 19, 20] [1007, 10001]] (by kernel_rfl) (by kernel_rfl)) (WpC.skip ?_)
      refine tnU ?_
      refine sqJ (fun st' => ∃ v15 : List Int, denote_Ends.j16 k (denote_Ends.l10 k v5 n) v5 v9 v15 = some o12 ∧ st' = ⟨[(7, .vec 1007 1 0 v15.length), (18, .vec 10001 1 0 v5.length), (19, .p I6 ((v5.length : Int) : Int)), (20, .p I6 v9)], [(1007, .row 3 I6 v15 false), (10001, .row 4 .bool v5 false)]⟩) ?_ ?_
      ·refine WpC.block ?_
       refine WpC.seq ?_
       obtain ⟨g17, h⟩ := if_some h
       obtain ⟨v18, hv18, h⟩ := bind_some h
       refine rS { its := [(1, .g g17), (2, .v .bool hv18)] } [7, 8, 9, 18, 19, 20] [1007, 10001] hN (by kernel_rfl) (by kernel_rfl) ?_
       refine tnU ?_
       refine WpC.seq ?_
       refine rS {} [7, 8, 18, 19, 20, 25] [1007, 10001] hN (by kernel_rfl) (by kernel_rfl) ?_
       refine tnU ?_
       refine tS (b := v18) (by kernel_rfl) (fun hc19 => ?_) (fun hc19 => ?_)
       ·replace h := ite_t hc19 h
        obtain ⟨g20, h⟩ := if_some h
        refine rSC { its := [(3, .g g20)] } [7, 18, 19, 20] [29, 10001] hN (by kernel_rfl) (by kernel_rfl) (cS [.rn 29 1007, .k [7, 18, 19, 20] [1007, 10001]] (by kernel_rfl) (by kernel_rfl)) ?_
        refine blockQ_normal ?_
        refine tnU ?_
        exact ⟨(v8 ++ [v9]), h, by kernel_rfl⟩
       ·replace h := ite_f hc19 h
        refine WpC.conv (cS [.k [7, 18, 19, 20] [1007, 10001]] (by kernel_rfl) (by kernel_rfl)) (WpC.skip ?_)
        refine blockQ_normal ?_
        refine tnU ?_
        exact ⟨v8, h, by kernel_rfl⟩
      ·rintro _ ⟨v15, h, rfl⟩
       unfold denote_Ends.j16 at h
       refine rS {} [7, 18, 19, 20] [1007, 10001] hN (by kernel_rfl) (by kernel_rfl) ?_
       refine tnU ?_
       exact ⟨n, Nat.lt_succ_self n, v15, (IntKind.i64.wrap (v9 + 1)), h, by kernel_rfl⟩
     ·replace h := ite_f hc14 h
      refine WpC.conv (cS [.k [7] [1007]] (by kernel_rfl) (by kernel_rfl)) (WpC.exit ?_)
      refine thenQ_exit ?_
      have hq := Option.some.inj h
      subst hq
      refine thenQ_exit ?_
      have h := hout13
      refine blockQ_hit ?_
      refine tnU ?_
      exact ⟨v8, h, by kernel_rfl⟩
  ·rintro _ ⟨v3, h, rfl⟩
   unfold denote_Ends.j4 at h
   refine WpC.seq ?_
   refine rS {} [6] [1007] hN (by kernel_rfl) (by kernel_rfl) ?_
   refine tnU ?_
   refine WpC.conv (cS [.fz 6, .k [6] []] (by kernel_rfl) (by kernel_rfl)) (WpC.ret ?_)
   have hq := Option.some.inj h
   subst hq
   exact eR (by kernel_rfl) (by kernel_rfl)

end Go.Proofs.YteddmdkbeednmaaDoor
