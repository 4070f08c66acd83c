/- A part of the proof of a given law: CYC2. Own work, printed in part by a program of mine. -/
import Derived.Test.YtlmhnhlmlhfigaaK41CYC1
namespace Go.Proofs.Ytlmhnhlmlhfigaa
open Go Go.AM
set_option linter.unusedVariables false
set_option linter.unusedSimpArgs false
set_option maxRecDepth 100000
set_option maxHeartbeats 4000000
theorem millwrightnum_Has.ok (O : Out) (k : Nat) (a0 : List (List UInt8)) (a1 : List UInt8) (out : Bool) (h : millwrightnum_Has.f k a0 a1 = some out) : COk Un O Try.prog 23 { ar := [.p (.list .str) a0, .p .str a1], r := .p .bool out } := by
 refine cok_of_wp Try.func23 rfl (k := 17) rfl (Nat.le_of_ble_eq_true rfl) (namesOk_pure rfl rfl rfl rfl) ?_
 intro B hN
 refine WpC.conv (cvK (b := ⟨[(0, .p (.list .str) a0), (1, .p .str a1)], []⟩) [0, 1] [] (by kernel_rfl)) ?_
 unfold millwrightnum_Has.f at h
 refine WpC.seq ?_
 refine rS {} [0, 1] [] hN (by kernel_rfl) (by kernel_rfl) ?_
 refine tnU ?_
 refine sqJ (fun st' => millwrightnum_Has.j1 k = some out ∧ st' = ⟨[], []⟩) ?_ ?_
 ·refine WpC.seq ?_
  refine rS {} [1, 7, 8, 9] [] hN (by kernel_rfl) (by kernel_rfl) ?_
  refine tnU ?_
  refine WpC.block ?_
  obtain ⟨o4, hlo4, h⟩ := bind_some h
  have hout5 := h
  clear h
  refine WpC.loop (U := Un) (fun n st' => ∃ v2 : Int, millwrightnum_Has.l3 k a0 a1 n v2 = some o4 ∧ st' = ⟨[(1, .p .str a1), (7, .p (.list .str) a0), (8, .p I6 ((a0.length : Int) : Int)), (9, .p I6 v2)], []⟩) k ⟨0, hlo4, by kernel_rfl⟩ ?_
  clear hlo4
  rintro (_ | n) _ ⟨v2, h, rfl⟩
  ·cases h
  ·rw [millwrightnum_Has.l3] at h
   refine WpC.seq ?_
   refine rS {} [1, 7, 8, 9, 10] [] hN (by kernel_rfl) (by kernel_rfl) ?_
   refine tnU ?_
   refine WpC.seq ?_
   refine tS (b := (decide (v2 < (a0.length : Int)))) (by kernel_rfl) (fun hc6 => ?_) (fun hc6 => ?_)
   ·replace h := ite_t hc6 h
    refine WpC.conv (cS [.k [1, 7, 8, 9] []] (by kernel_rfl) (by kernel_rfl)) (WpC.skip ?_)
    refine tnU ?_
    refine WpC.seq ?_
    refine WpC.block ?_
    refine WpC.seq ?_
    obtain ⟨v7, hv7, h⟩ := bind_some h
    refine rS { its := [(0, .v .str hv7)] } [1, 6, 7, 8, 9] [] hN (by kernel_rfl) (by kernel_rfl) ?_
    refine tnU ?_
    refine WpC.seq ?_
    refine rS {} [1, 7, 8, 9, 15] [] hN (by kernel_rfl) (by kernel_rfl) ?_
    refine tnU ?_
    refine tS (b := (v7 == a1)) (by kernel_rfl) (fun hc8 => ?_) (fun hc8 => ?_)
    ·replace h := ite_t hc8 h
     refine WpC.seq ?_
     refine rS {} [4] [] hN (by kernel_rfl) (by kernel_rfl) ?_
     refine tnU ?_
     refine WpC.ret ?_
     refine blockQ_ret ?_
     refine thenQ_ret ?_
     have hq := Option.some.inj h
     subst hq
     refine thenQ_ret ?_
     have h := hout5
     refine blockQ_ret ?_
     refine thenQ_ret ?_
     have hq := Option.some.inj h
     subst hq
     exact eR (by kernel_rfl) (by kernel_rfl)
    ·replace h := ite_f hc8 h
     refine WpC.conv (cS [.k [1, 7, 8, 9] []] (by kernel_rfl) (by kernel_rfl)) (WpC.skip ?_)
     refine blockQ_normal ?_
     refine tnU ?_
     refine rS {} [1, 7, 8, 9] [] hN (by kernel_rfl) (by kernel_rfl) ?_
     refine tnU ?_
     exact ⟨n, Nat.lt_succ_self n, (IntKind.i64.wrap (v2 + 1)), h, by kernel_rfl⟩
   ·replace h := ite_f hc6 h
    refine WpC.conv (cS [.k [] []] (by kernel_rfl) (by kernel_rfl)) (WpC.exit ?_)
    refine thenQ_exit ?_
    have hq := Option.some.inj h
    subst hq
    refine thenQ_exit ?_
    have h := hout5
    refine blockQ_hit ?_
    refine tnU ?_
    exact ⟨h, by kernel_rfl⟩
 ·rintro _ ⟨h, rfl⟩
  unfold millwrightnum_Has.j1 at h
  refine WpC.seq ?_
  refine rS {} [4] [] hN (by kernel_rfl) (by kernel_rfl) ?_
  refine tnU ?_
  refine WpC.ret ?_
  have hq := Option.some.inj h
  subst hq
  exact eR (by kernel_rfl) (by kernel_rfl)

theorem millwrightref25_first.ok (O : Out) (k : Nat) (a0 : List T_cycle_Node) (a1 : List UInt8) (out : List (List UInt8)) (h : millwrightref25_first.f k a0 a1 = some out) : COk Un O Try.prog 30 { ar := [.p (.list (.named 3)) a0, .p .str a1], r := .p (.list .str) out } := by
 refine cok_of_wp Try.func30 rfl (k := 68) rfl (Nat.le_of_ble_eq_true rfl) (namesOk_pure rfl rfl rfl rfl) ?_
 intro B hN
 refine WpC.conv (cvK (b := ⟨[(0, .p (.list (.named 3)) a0), (1, .p .str a1)], []⟩) [0, 1] [] (by kernel_rfl)) ?_
 unfold millwrightref25_first.f at h
 refine WpC.seq ?_
 refine rS {} [0, 1] [] hN (by kernel_rfl) (by kernel_rfl) ?_
 refine tnU ?_
 refine WpC.seq ?_
 refine rS { fz := [1] } [0, 1, 5] [16] hN (by kernel_rfl) (by kernel_rfl) ?_
 refine tnU ?_
 refine WpC.seq ?_
 refine rS {} [0, 1, 5, 6] [16, 18] hN (by kernel_rfl) (by kernel_rfl) ?_
 refine tnU ?_
 refine WpC.block ?_
 obtain ⟨o4, hlo4, h⟩ := bind_some h
 have hout5 := h
 clear h
 refine WpC.conv (cS [.lo 16, .k [0, 1, 5, 6] [16, 18], .rn 16 1005, .k [0, 1, 5, 6] [18, 1005], .lo 18, .k [0, 1, 5, 6] [18, 1005], .rn 18 1006, .k [0, 1, 5, 6] [1005, 1006]] (by kernel_rfl) (by kernel_rfl)) ?_
 refine WpC.loop (U := Un) (fun n st' => ∃ v1 : List (List (List UInt8)), ∃ v2 : List (List UInt8), millwrightref25_first.l3 k a0 a1 n v1 v2 = some o4 ∧ st' = ⟨[(0, .p (.list (.named 3)) a0), (1, .p .str a1), (5, .vec 1005 1 0 v1.length), (6, .vec 1006 1 0 v2.length)], [(1005, .row 23 (.list .str) v1 false), (1006, .row 9 .str v2 false)]⟩) k ⟨[[a1]], [a1], hlo4, by kernel_rfl⟩ ?_
 clear hlo4
 rintro (_ | n) _ ⟨v1, v2, h, rfl⟩
 ·cases h
 ·rw [millwrightref25_first.l3] at h
  refine WpC.block ?_
  refine WpC.seq ?_
  refine rSC {} [0, 1, 5, 6, 7] [19, 1005, 1006] hN (by kernel_rfl) (by kernel_rfl) (cS [.k [0, 1, 5, 6, 7] [19, 1005, 1006], .x (Conv.cast (U := Un) (st := ⟨[(0, .p (.list (.named 3)) a0), (1, .p .str a1), (5, .vec 1005 1 0 v1.length), (6, .vec 1006 1 0 v2.length), (7, .vec 19 1 0 (([] : List (List (List UInt8))).length))], [(19, .row 23 (.list .str) ([] : List (List (List UInt8))) true), (1005, .row 23 (.list .str) v1 false), (1006, .row 9 .str v2 false)]⟩) (st' := ⟨[(0, .p (.list (.named 3)) a0), (1, .p .str a1), (5, .vec 1005 1 0 v1.length), (6, .vec 1006 1 0 v2.length), (7, .vec 19 1 0 0)], [(19, .row 23 (.list .str) ([] : List (List (List UInt8))) true), (1005, .row 23 (.list .str) v1 false), (1006, .row 9 .str v2 false)]⟩) (by simp only [upd_length, List.length_nil, List.length_replicate]))] (by kernel_rfl) (by kernel_rfl)) ?_
  refine tnU ?_
  refine WpC.seq ?_
  obtain ⟨g6, h⟩ := if_some h
  refine rS { its := [(2, .g g6)] } [0, 1, 5, 7, 8] [19, 22, 1005] hN (by kernel_rfl) (by kernel_rfl) ?_
  refine tnU ?_
  refine sqJ (fun st' => ∃ v7 : List (List (List UInt8)), ∃ v8 : List (List UInt8), millwrightref25_first.j9 k (millwrightref25_first.l3 k a0 a1 n) a0 a1 v7 v8 = some o4 ∧ st' = ⟨[(0, .p (.list (.named 3)) a0), (1, .p .str a1), (7, .vec 1007 1 0 v7.length), (8, .vec 1008 1 0 v8.length)], [(1007, .row 23 (.list .str) v7 false), (1008, .row 9 .str v8 false)]⟩) ?_ ?_
  ·refine WpC.seq ?_
   refine rS {} [0, 1, 7, 8, 23, 24, 25] [19, 22, 1005] hN (by kernel_rfl) (by kernel_rfl) ?_
   refine tnU ?_
   refine WpC.block ?_
   obtain ⟨o16, hlo16, h⟩ := bind_some h
   have hout17 := h
   clear h
   refine WpC.conv (cS [.lo 19, .k [0, 1, 7, 8, 23, 24, 25] [19, 22, 1005], .rn 19 1007, .k [0, 1, 7, 8, 23, 24, 25] [22, 1005, 1007], .rn 22 1008, .k [0, 1, 7, 8, 23, 24, 25] [1005, 1007, 1008]] (by kernel_rfl) (by kernel_rfl)) ?_
   refine WpC.loop (U := Un) (fun n st' => ∃ v10 : List (List (List UInt8)), ∃ v11 : List (List UInt8), ∃ v12 : Int, millwrightref25_first.l13 k a0 a1 v1 n v10 v11 v12 = some o16 ∧ st' = ⟨[(0, .p (.list (.named 3)) a0), (1, .p .str a1), (7, .vec 1007 1 0 v10.length), (8, .vec 1008 1 0 v11.length), (23, .vec 1005 1 0 v1.length), (24, .p I6 ((v1.length : Int) : Int)), (25, .p I6 v12)], [(1005, .row 23 (.list .str) v1 false), (1007, .row 23 (.list .str) v10 false), (1008, .row 9 .str v11 false)]⟩) k ⟨([] : List (List (List UInt8))), (([] : List (List UInt8)) ++ v2), 0, hlo16, by kernel_rfl⟩ ?_
   clear hlo16
   rintro (_ | n) _ ⟨v10, v11, v12, h, rfl⟩
   ·cases h
   ·rw [millwrightref25_first.l13] at h
    refine WpC.seq ?_
    refine rS {} [0, 1, 7, 8, 23, 24, 25, 26] [1005, 1007, 1008] hN (by kernel_rfl) (by kernel_rfl) ?_
    refine tnU ?_
    refine WpC.seq ?_
    refine tS (b := (decide (v12 < (v1.length : Int)))) (by kernel_rfl) (fun hc18 => ?_) (fun hc18 => ?_)
    ·replace h := ite_t hc18 h
     refine WpC.conv (cS [.k [0, 1, 7, 8, 23, 24, 25] [1005, 1007, 1008]] (by kernel_rfl) (by kernel_rfl)) (WpC.skip ?_)
     refine tnU ?_
     refine sqJ (fun st' => ∃ v19 : List (List (List UInt8)), ∃ v20 : List (List UInt8), millwrightref25_first.j21 k (millwrightref25_first.l13 k a0 a1 v1 n) a0 a1 v1 v12 v19 v20 = some o16 ∧ st' = ⟨[(0, .p (.list (.named 3)) a0), (1, .p .str a1), (7, .vec 1007 1 0 v19.length), (8, .vec 1008 1 0 v20.length), (23, .vec 1005 1 0 v1.length), (24, .p I6 ((v1.length : Int) : Int)), (25, .p I6 v12)], [(1005, .row 23 (.list .str) v1 false), (1007, .row 23 (.list .str) v19 false), (1008, .row 9 .str v20 false)]⟩) ?_ ?_
     ·refine WpC.block ?_
      refine WpC.seq ?_
      obtain ⟨g22, h⟩ := if_some h
      obtain ⟨v23, hv23, h⟩ := bind_some h
      refine rS { its := [(0, .g g22), (1, .v (.list .str) hv23)] } [0, 1, 7, 8, 10, 23, 24, 25] [1005, 1007, 1008] hN (by kernel_rfl) (by kernel_rfl) ?_
      refine tnU ?_
      refine WpC.seq ?_
      obtain ⟨v24, hv24, h⟩ := bind_some h
      obtain ⟨v25, hv25, h⟩ := bind_some h
      refine rS { its := [(5, .v .str hv24), (7, .c (millwrightref25_To.ok O k a0 v24 v25 hv25))] } [0, 1, 7, 8, 10, 11, 23, 24, 25] [1005, 1007, 1008] hN (by kernel_rfl) (by kernel_rfl) ?_
      refine tnU ?_
      refine WpC.seq ?_
      refine WpC.seq ?_
      obtain ⟨v26, hv26, h⟩ := bind_some h
      refine rS { its := [(2, .c (millwrightnum_Has.ok O k v25 a1 v26 hv26))] } [0, 1, 7, 8, 10, 11, 23, 24, 25, 39] [1005, 1007, 1008] hN (by kernel_rfl) (by kernel_rfl) ?_
      refine tnU ?_
      refine tS (b := v26) (by kernel_rfl) (fun hc27 => ?_) (fun hc27 => ?_)
      ·replace h := ite_t hc27 h
       refine WpC.seq ?_
       refine rS {} [4] [] hN (by kernel_rfl) (by kernel_rfl) ?_
       refine tnU ?_
       refine WpC.ret ?_
       refine thenQ_ret ?_
       refine blockQ_ret ?_
       refine thenQ_ret ?_
       have hq := Option.some.inj h
       subst hq
       refine thenQ_ret ?_
       have h := hout17
       refine blockQ_ret ?_
       refine thenQ_ret ?_
       refine blockQ_ret ?_
       have hq := Option.some.inj h
       subst hq
       refine thenQ_ret ?_
       have h := hout5
       refine blockQ_ret ?_
       have hq := Option.some.inj h
       subst hq
       exact eR (by kernel_rfl) (by kernel_rfl)
      ·replace h := ite_f hc27 h
       refine WpC.conv (cS [.k [0, 1, 7, 8, 10, 11, 23, 24, 25] [1005, 1007, 1008]] (by kernel_rfl) (by kernel_rfl)) (WpC.skip ?_)
       refine tnU ?_
       refine WpC.seq ?_
       refine rS {} [0, 1, 7, 8, 10, 23, 24, 25, 41, 42, 43] [1005, 1007, 1008] hN (by kernel_rfl) (by kernel_rfl) ?_
       refine tnU ?_
       refine WpC.block ?_
       obtain ⟨o34, hlo34, h⟩ := bind_some h
       have hout35 := h
       clear h
       refine WpC.loop (U := Un) (fun n st' => ∃ v28 : List (List (List UInt8)), ∃ v29 : List (List UInt8), ∃ v30 : Int, millwrightref25_first.l31 k a0 a1 v1 v12 v23 v25 n v28 v29 v30 = some o34 ∧ st' = ⟨[(0, .p (.list (.named 3)) a0), (1, .p .str a1), (7, .vec 1007 1 0 v28.length), (8, .vec 1008 1 0 v29.length), (10, .p (.list .str) v23), (23, .vec 1005 1 0 v1.length), (24, .p I6 ((v1.length : Int) : Int)), (25, .p I6 v12), (41, .p (.list .str) v25), (42, .p I6 ((v25.length : Int) : Int)), (43, .p I6 v30)], [(1005, .row 23 (.list .str) v1 false), (1007, .row 23 (.list .str) v28 false), (1008, .row 9 .str v29 false)]⟩) k ⟨v10, v11, 0, hlo34, by kernel_rfl⟩ ?_
       clear hlo34
       rintro (_ | n) _ ⟨v28, v29, v30, h, rfl⟩
       ·cases h
       ·rw [millwrightref25_first.l31] at h
        refine WpC.seq ?_
        refine rS {} [0, 1, 7, 8, 10, 23, 24, 25, 41, 42, 43, 44] [1005, 1007, 1008] hN (by kernel_rfl) (by kernel_rfl) ?_
        refine tnU ?_
        refine WpC.seq ?_
        refine tS (b := (decide (v30 < (v25.length : Int)))) (by kernel_rfl) (fun hc36 => ?_) (fun hc36 => ?_)
        ·replace h := ite_t hc36 h
         refine WpC.conv (cS [.k [0, 1, 7, 8, 10, 23, 24, 25, 41, 42, 43] [1005, 1007, 1008]] (by kernel_rfl) (by kernel_rfl)) (WpC.skip ?_)
         refine tnU ?_
         refine sqJ (fun st' => ∃ v37 : List (List (List UInt8)), ∃ v38 : List (List UInt8), millwrightref25_first.j39 k (millwrightref25_first.l31 k a0 a1 v1 v12 v23 v25 n) a0 a1 v1 v12 v23 v25 v30 v37 v38 = some o34 ∧ st' = ⟨[(0, .p (.list (.named 3)) a0), (1, .p .str a1), (7, .vec 1007 1 0 v37.length), (8, .vec 1008 1 0 v38.length), (10, .p (.list .str) v23), (23, .vec 1005 1 0 v1.length), (24, .p I6 ((v1.length : Int) : Int)), (25, .p I6 v12), (41, .p (.list .str) v25), (42, .p I6 ((v25.length : Int) : Int)), (43, .p I6 v30)], [(1005, .row 23 (.list .str) v1 false), (1007, .row 23 (.list .str) v37 false), (1008, .row 9 .str v38 false)]⟩) ?_ ?_
         ·refine WpC.block ?_
          refine WpC.seq ?_
          obtain ⟨v40, hv40, h⟩ := bind_some h
          refine rS { its := [(0, .v .str hv40)] } [0, 1, 7, 8, 10, 13, 23, 24, 25, 41, 42, 43] [1005, 1007, 1008] hN (by kernel_rfl) (by kernel_rfl) ?_
          refine tnU ?_
          refine WpC.seq ?_
          obtain ⟨v41, hv41, h⟩ := bind_some h
          refine rS { its := [(2, .c (millwrightnum_Has.ok O k v29 v40 v41 hv41))] } [0, 1, 7, 8, 10, 13, 23, 24, 25, 41, 42, 43, 50] [1005, 1007, 1008] hN (by kernel_rfl) (by kernel_rfl) ?_
          refine tnU ?_
          refine tS (b := (!v41)) (by kernel_rfl) (fun hc42 => ?_) (fun hc42 => ?_)
          ·replace h := ite_t hc42 h
           refine WpC.seq ?_
           obtain ⟨g43, h⟩ := if_some h
           refine rS { its := [(3, .g g43)] } [0, 1, 7, 8, 10, 13, 23, 24, 25, 41, 42, 43] [54, 1005, 1007] hN (by kernel_rfl) (by kernel_rfl) ?_
           refine tnU ?_
           obtain ⟨g44, h⟩ := if_some h
           obtain ⟨g45, h⟩ := if_some h
           obtain ⟨g46, h⟩ := if_some h
           refine rSC { its := [(3, .g g44), (6, .g g45), (8, .g g46)], gv := [(7, [61])] } [0, 1, 7, 8, 10, 23, 24, 25, 41, 42, 43] [54, 63, 1005] hN (by kernel_rfl) (by kernel_rfl) (cS [.rn 63 1007, .k [0, 1, 7, 8, 10, 23, 24, 25, 41, 42, 43] [54, 1005, 1007], .rn 54 1008, .k [0, 1, 7, 8, 10, 23, 24, 25, 41, 42, 43] [1005, 1007, 1008]] (by kernel_rfl) (by kernel_rfl)) ?_
           refine blockQ_normal ?_
           refine tnU ?_
           exact ⟨(v28 ++ [((([] : List (List UInt8)) ++ v23) ++ [v40])]), (v29 ++ [v40]), h, by kernel_rfl⟩
          ·replace h := ite_f hc42 h
           refine WpC.conv (cS [.k [0, 1, 7, 8, 10, 23, 24, 25, 41, 42, 43] [1005, 1007, 1008]] (by kernel_rfl) (by kernel_rfl)) (WpC.skip ?_)
           refine blockQ_normal ?_
           refine tnU ?_
           exact ⟨v28, v29, h, by kernel_rfl⟩
         ·rintro _ ⟨v37, v38, h, rfl⟩
          unfold millwrightref25_first.j39 at h
          refine rS {} [0, 1, 7, 8, 10, 23, 24, 25, 41, 42, 43] [1005, 1007, 1008] hN (by kernel_rfl) (by kernel_rfl) ?_
          refine tnU ?_
          exact ⟨n, Nat.lt_succ_self n, v37, v38, (IntKind.i64.wrap (v30 + 1)), h, by kernel_rfl⟩
        ·replace h := ite_f hc36 h
         refine WpC.conv (cS [.k [0, 1, 7, 8, 23, 24, 25] [1005, 1007, 1008]] (by kernel_rfl) (by kernel_rfl)) (WpC.exit ?_)
         refine thenQ_exit ?_
         have hq := Option.some.inj h
         subst hq
         refine thenQ_exit ?_
         have h := hout35
         refine blockQ_hit ?_
         refine blockQ_normal ?_
         refine tnU ?_
         exact ⟨v28, v29, h, by kernel_rfl⟩
     ·rintro _ ⟨v19, v20, h, rfl⟩
      unfold millwrightref25_first.j21 at h
      refine rS {} [0, 1, 7, 8, 23, 24, 25] [1005, 1007, 1008] hN (by kernel_rfl) (by kernel_rfl) ?_
      refine tnU ?_
      exact ⟨n, Nat.lt_succ_self n, v19, v20, (IntKind.i64.wrap (v12 + 1)), h, by kernel_rfl⟩
    ·replace h := ite_f hc18 h
     refine WpC.conv (cS [.k [0, 1, 7, 8] [1007, 1008]] (by kernel_rfl) (by kernel_rfl)) (WpC.exit ?_)
     refine thenQ_exit ?_
     have hq := Option.some.inj h
     subst hq
     refine thenQ_exit ?_
     have h := hout17
     refine blockQ_hit ?_
     refine tnU ?_
     exact ⟨v10, v11, h, by kernel_rfl⟩
  ·rintro _ ⟨v7, v8, h, rfl⟩
   unfold millwrightref25_first.j9 at h
   refine WpC.seq ?_
   refine rS {} [0, 1, 6, 7] [1007, 1008] hN (by kernel_rfl) (by kernel_rfl) ?_
   refine tnU ?_
   refine rSC {} [0, 1, 5, 6] [1007, 1008] hN (by kernel_rfl) (by kernel_rfl) (cS [.rn 1007 1005, .k [0, 1, 5, 6] [1005, 1008], .rn 1008 1006, .k [0, 1, 5, 6] [1005, 1006]] (by kernel_rfl) (by kernel_rfl)) ?_
   refine blockQ_normal ?_
   refine tnU ?_
   exact ⟨n, Nat.lt_succ_self n, v7, v8, h, by kernel_rfl⟩

theorem millwrightref25_Find.ok (O : Out) (k : Nat) (a0 : List T_cycle_Node) (out : (List (List UInt8)) × Bool) (h : millwrightref25_Find.f k a0 = some out) : COk Un O Try.prog 20 { ar := [.p (.list (.named 3)) a0], r := .tup [.p (.list .str) out.1, .p .bool out.2] } := by
 refine cok_of_wp Try.func20 rfl (k := 22) rfl (Nat.le_of_ble_eq_true rfl) (namesOk_pure rfl rfl rfl rfl) ?_
 intro B hN
 refine WpC.conv (cvK (b := ⟨[(0, .p (.list (.named 3)) a0)], []⟩) [0] [] (by kernel_rfl)) ?_
 unfold millwrightref25_Find.f at h
 refine WpC.seq ?_
 refine rS {} [0] [] hN (by kernel_rfl) (by kernel_rfl) ?_
 refine tnU ?_
 refine sqJ (fun st' => millwrightref25_Find.j1 k = some out ∧ st' = ⟨[], []⟩) ?_ ?_
 ·refine WpC.seq ?_
  obtain ⟨v2, hv2, h⟩ := bind_some h
  refine rS { its := [(1, .c (millwrightref25_Names.ok O k a0 v2 hv2))] } [0, 7, 8, 9] [] hN (by kernel_rfl) (by kernel_rfl) ?_
  refine tnU ?_
  refine WpC.block ?_
  obtain ⟨o5, hlo5, h⟩ := bind_some h
  have hout6 := h
  clear h
  refine WpC.loop (U := Un) (fun n st' => ∃ v3 : Int, millwrightref25_Find.l4 k a0 v2 n v3 = some o5 ∧ st' = ⟨[(0, .p (.list (.named 3)) a0), (7, .p (.list .str) v2), (8, .p I6 ((v2.length : Int) : Int)), (9, .p I6 v3)], []⟩) k ⟨0, hlo5, by kernel_rfl⟩ ?_
  clear hlo5
  rintro (_ | n) _ ⟨v3, h, rfl⟩
  ·cases h
  ·rw [millwrightref25_Find.l4] at h
   refine WpC.seq ?_
   refine rS {} [0, 7, 8, 9, 10] [] hN (by kernel_rfl) (by kernel_rfl) ?_
   refine tnU ?_
   refine WpC.seq ?_
   refine tS (b := (decide (v3 < (v2.length : Int)))) (by kernel_rfl) (fun hc7 => ?_) (fun hc7 => ?_)
   ·replace h := ite_t hc7 h
    refine WpC.conv (cS [.k [0, 7, 8, 9] []] (by kernel_rfl) (by kernel_rfl)) (WpC.skip ?_)
    refine tnU ?_
    refine WpC.seq ?_
    refine WpC.block ?_
    refine WpC.seq ?_
    obtain ⟨v8, hv8, h⟩ := bind_some h
    refine rS { its := [(0, .v .str hv8)] } [0, 5, 7, 8, 9] [] hN (by kernel_rfl) (by kernel_rfl) ?_
    refine tnU ?_
    refine WpC.seq ?_
    obtain ⟨v9, hv9, h⟩ := bind_some h
    obtain ⟨v10, hv10, h⟩ := bind_some h
    refine rS { its := [(2, .c (millwrightref25_Reach.ok O k a0 v8 v9 hv9)), (4, .c (millwrightnum_Has.ok O k v9 v8 v10 hv10))] } [0, 5, 7, 8, 9, 17] [] hN (by kernel_rfl) (by kernel_rfl) ?_
    refine tnU ?_
    refine tS (b := v10) (by kernel_rfl) (fun hc11 => ?_) (fun hc11 => ?_)
    ·replace h := ite_t hc11 h
     refine WpC.seq ?_
     obtain ⟨v12, hv12, h⟩ := bind_some h
     refine rS { its := [(2, .c (millwrightref25_first.ok O k a0 v8 v12 hv12))] } [2, 3] [] hN (by kernel_rfl) (by kernel_rfl) ?_
     refine tnU ?_
     refine WpC.ret ?_
     refine blockQ_ret ?_
     refine thenQ_ret ?_
     have hq := Option.some.inj h
     subst hq
     refine thenQ_ret ?_
     have h := hout6
     refine blockQ_ret ?_
     refine thenQ_ret ?_
     have hq := Option.some.inj h
     subst hq
     exact eR (by kernel_rfl) (by kernel_rfl)
    ·replace h := ite_f hc11 h
     refine WpC.conv (cS [.k [0, 7, 8, 9] []] (by kernel_rfl) (by kernel_rfl)) (WpC.skip ?_)
     refine blockQ_normal ?_
     refine tnU ?_
     refine rS {} [0, 7, 8, 9] [] hN (by kernel_rfl) (by kernel_rfl) ?_
     refine tnU ?_
     exact ⟨n, Nat.lt_succ_self n, (IntKind.i64.wrap (v3 + 1)), h, by kernel_rfl⟩
   ·replace h := ite_f hc7 h
    refine WpC.conv (cS [.k [] []] (by kernel_rfl) (by kernel_rfl)) (WpC.exit ?_)
    refine thenQ_exit ?_
    have hq := Option.some.inj h
    subst hq
    refine thenQ_exit ?_
    have h := hout6
    refine blockQ_hit ?_
    refine tnU ?_
    exact ⟨h, by kernel_rfl⟩
 ·rintro _ ⟨h, rfl⟩
  unfold millwrightref25_Find.j1 at h
  refine WpC.seq ?_
  refine rS {} [2, 3] [] hN (by kernel_rfl) (by kernel_rfl) ?_
  refine tnU ?_
  refine WpC.conv (cS [.nL 2 .str, .k [2, 3] []] (by kernel_rfl) (by kernel_rfl)) (WpC.ret ?_)
  have hq := Option.some.inj h
  subst hq
  exact eR (by kernel_rfl) (by kernel_rfl)

theorem names_Without.ok (O : Out) (k : Nat) (a0 : List (List UInt8)) (a1 : List (List UInt8)) (out : List (List UInt8)) (h : names_Without.f k a0 a1 = some out) : COk Un O Try.prog 31 { ar := [.p (.list .str) a0, .p (.list .str) a1], r := .vec 60500 1 0 out.length, bs' := [(60500, .row 9 .str out false)], nn := [60500] } := by
 refine cok_of_wp Try.func31 rfl (k := 24) rfl (Nat.le_of_ble_eq_true rfl) (namesOk_of (by kernel_rfl)) ?_
 intro B hN
 refine WpC.conv (cvK (b := ⟨[(0, .p (.list .str) a0), (1, .p (.list .str) a1)], []⟩) [0, 1] [] (by kernel_rfl)) ?_
 unfold names_Without.f at h
 refine WpC.seq ?_
 refine rS {} [0, 1] [] hN (by kernel_rfl) (by kernel_rfl) ?_
 refine tnU ?_
 refine WpC.seq ?_
 refine rS {} [0, 1, 5] [] hN (by kernel_rfl) (by kernel_rfl) ?_
 refine tnU ?_
 refine sqJ (fun st' => ∃ v1 : List (List UInt8), names_Without.j2 k v1 = some out ∧ st' = ⟨[(5, .vec 1005 1 0 v1.length)], [(1005, .row 9 .str v1 false)]⟩) ?_ ?_
 ·refine WpC.seq ?_
  refine rS {} [1, 5, 8, 9, 10] [] hN (by kernel_rfl) (by kernel_rfl) ?_
  refine tnU ?_
  refine WpC.block ?_
  obtain ⟨o7, hlo7, h⟩ := bind_some h
  have hout8 := h
  clear h
  refine WpC.conv (cS [.th 5 1005 9 .str, .k [1, 5, 8, 9, 10] [1005]] (by kernel_rfl) (by kernel_rfl)) ?_
  refine WpC.loop (U := Un) (fun n st' => ∃ v3 : List (List UInt8), ∃ v4 : Int, names_Without.l5 k a0 a1 n v3 v4 = some o7 ∧ st' = ⟨[(1, .p (.list .str) a1), (5, .vec 1005 1 0 v3.length), (8, .p (.list .str) a0), (9, .p I6 ((a0.length : Int) : Int)), (10, .p I6 v4)], [(1005, .row 9 .str v3 false)]⟩) k ⟨[], 0, hlo7, by kernel_rfl⟩ ?_
  clear hlo7
  rintro (_ | n) _ ⟨v3, v4, h, rfl⟩
  ·cases h
  ·rw [names_Without.l5] at h
   refine WpC.seq ?_
   refine rS {} [1, 5, 8, 9, 10, 11] [1005] hN (by kernel_rfl) (by kernel_rfl) ?_
   refine tnU ?_
   refine WpC.seq ?_
   refine tS (b := (decide (v4 < (a0.length : Int)))) (by kernel_rfl) (fun hc9 => ?_) (fun hc9 => ?_)
   ·replace h := ite_t hc9 h
    refine WpC.conv (cS [.k [1, 5, 8, 9, 10] [1005]] (by kernel_rfl) (by kernel_rfl)) (WpC.skip ?_)
    refine tnU ?_
    refine sqJ (fun st' => ∃ v10 : List (List UInt8), names_Without.j11 k (names_Without.l5 k a0 a1 n) a0 a1 v4 v10 = some o7 ∧ st' = ⟨[(1, .p (.list .str) a1), (5, .vec 1005 1 0 v10.length), (8, .p (.list .str) a0), (9, .p I6 ((a0.length : Int) : Int)), (10, .p I6 v4)], [(1005, .row 9 .str v10 false)]⟩) ?_ ?_
    ·refine WpC.block ?_
     refine WpC.seq ?_
     obtain ⟨v12, hv12, h⟩ := bind_some h
     refine rS { its := [(0, .v .str hv12)] } [1, 5, 7, 8, 9, 10] [1005] hN (by kernel_rfl) (by kernel_rfl) ?_
     refine tnU ?_
     refine WpC.seq ?_
     obtain ⟨v13, hv13, h⟩ := bind_some h
     refine rS { its := [(2, .c (names_Has.ok O k a1 v12 v13 hv13))] } [1, 5, 7, 8, 9, 10, 17] [1005] hN (by kernel_rfl) (by kernel_rfl) ?_
     refine tnU ?_
     refine tS (b := (!v13)) (by kernel_rfl) (fun hc14 => ?_) (fun hc14 => ?_)
     ·replace h := ite_t hc14 h
      obtain ⟨g15, h⟩ := if_some h
      refine rSC { its := [(3, .g g15)] } [1, 5, 8, 9, 10] [21] hN (by kernel_rfl) (by kernel_rfl) (cS [.rn 21 1005, .k [1, 5, 8, 9, 10] [1005]] (by kernel_rfl) (by kernel_rfl)) ?_
      refine blockQ_normal ?_
      refine tnU ?_
      exact ⟨(v3 ++ [v12]), h, by kernel_rfl⟩
     ·replace h := ite_f hc14 h
      refine WpC.conv (cS [.k [1, 5, 8, 9, 10] [1005]] (by kernel_rfl) (by kernel_rfl)) (WpC.skip ?_)
      refine blockQ_normal ?_
      refine tnU ?_
      exact ⟨v3, h, by kernel_rfl⟩
    ·rintro _ ⟨v10, h, rfl⟩
     unfold names_Without.j11 at h
     refine rS {} [1, 5, 8, 9, 10] [1005] hN (by kernel_rfl) (by kernel_rfl) ?_
     refine tnU ?_
     exact ⟨n, Nat.lt_succ_self n, v10, (IntKind.i64.wrap (v4 + 1)), h, by kernel_rfl⟩
   ·replace h := ite_f hc9 h
    refine WpC.conv (cS [.k [5] [1005]] (by kernel_rfl) (by kernel_rfl)) (WpC.exit ?_)
    refine thenQ_exit ?_
    have hq := Option.some.inj h
    subst hq
    refine thenQ_exit ?_
    have h := hout8
    refine blockQ_hit ?_
    refine tnU ?_
    exact ⟨v3, h, by kernel_rfl⟩
 ·rintro _ ⟨v1, h, rfl⟩
  unfold names_Without.j2 at h
  refine WpC.seq ?_
  refine rS {} [4] [1005] hN (by kernel_rfl) (by kernel_rfl) ?_
  refine tnU ?_
  refine WpC.conv (cS [.rn 1005 60500, .k [4] [60500]] (by kernel_rfl) (by kernel_rfl)) (WpC.ret ?_)
  have hq := Option.some.inj h
  subst hq
  exact eR (by kernel_rfl) (by kernel_rfl)

theorem cycle_Order.ok (O : Out) (k : Nat) (a0 : List T_cycle_Node) (out : (List (List UInt8)) × Bool) (h : cycle_Order.f k a0 = some out) : COk Un O Try.prog 21 { ar := [.p (.list (.named 3)) a0], r := .tup [.p (.list .str) out.1, .p .bool out.2] } := by
 refine cok_of_wp Try.func21 rfl (k := 41) rfl (Nat.le_of_ble_eq_true rfl) (namesOk_pure rfl rfl rfl rfl) ?_
 intro B hN
 refine WpC.conv (cvK (b := ⟨[(0, .p (.list (.named 3)) a0)], []⟩) [0] [] (by kernel_rfl)) ?_
 unfold cycle_Order.f at h
 refine WpC.seq ?_
 refine rS {} [0] [] hN (by kernel_rfl) (by kernel_rfl) ?_
 refine tnU ?_
 refine WpC.scope ?_
 refine WpC.seq ?_
 obtain ⟨v1, hv1, h⟩ := bind_some h
 refine rS { its := [(1, .c (COk.ren (cycle_arcsOf.ok O k a0 v1 hv1) (fun n => if n = 60500 then 10001 else n) (injOn_of (by kernel_rfl))))] } [0, 4] [10001] hN (by kernel_rfl) (by kernel_rfl) ?_
 refine tnU ?_
 refine WpC.seq ?_
 obtain ⟨v2, hv2, h⟩ := bind_some h
 refine rS { its := [(1, .c (COk.ren (cycle_Names.ok O k a0 v2 hv2) (fun n => if n = 60500 then 10002 else n) (injOn_of (by kernel_rfl))))] } [4, 5] [10001, 10002] hN (by kernel_rfl) (by kernel_rfl) ?_
 refine tnU ?_
 refine WpC.seq ?_
 refine rS {} [4, 5, 6] [10001, 10002] hN (by kernel_rfl) (by kernel_rfl) ?_
 refine tnU ?_
 refine WpC.seq ?_
 refine WpC.label ?_
 refine tnU ?_
 refine sqJ (fun st' => ∃ v3 : List (List UInt8), cycle_Order.j4 k v3 = some out ∧ st' = ⟨[(6, .vec 1006 1 0 v3.length)], [(1006, .row 9 .str v3 false)]⟩) ?_ ?_
 ·refine WpC.block ?_
  obtain ⟨o9, hlo9, h⟩ := bind_some h
  have hout10 := h
  clear h
  refine WpC.conv (cS [.rn 10002 1005, .k [4, 5, 6] [1005, 10001], .th 6 1006 9 .str, .k [4, 5, 6] [1005, 1006, 10001]] (by kernel_rfl) (by kernel_rfl)) ?_
  refine WpC.loop (U := Un) (fun n st' => ∃ v5 : List (List UInt8), ∃ v6 : List (List UInt8), cycle_Order.l7 k v1 n v5 v6 = some o9 ∧ st' = ⟨[(4, .mp 10001), (5, .vec 1005 1 0 v5.length), (6, .vec 1006 1 0 v6.length)], [(1005, .row 9 .str v5 false), (1006, .row 9 .str v6 false), (10001, .map (.list .str) v1)]⟩) k ⟨v2, [], hlo9, by kernel_rfl⟩ ?_
  clear hlo9
  rintro (_ | n0) _ ⟨v5, v6, h, rfl⟩
  ·cases h
  ·rw [cycle_Order.l7] at h
   refine WpC.seq ?_
   refine WpC.seq ?_
   refine rS {} [4, 5, 6, 15] [1005, 1006, 10001] hN (by kernel_rfl) (by kernel_rfl) ?_
   refine tnU ?_
   refine tS (b := (decide ((v5.length : Int) > 0))) (by kernel_rfl) (fun hc11 => ?_) (fun hc11 => ?_)
   ·replace h := ite_t hc11 h
    refine WpC.conv (cS [.k [4, 5, 6] [1005, 1006, 10001]] (by kernel_rfl) (by kernel_rfl)) (WpC.skip ?_)
    refine tnU ?_
    refine WpC.block ?_
    refine sqJ (fun st' => cycle_Order.j12 k = some o9 ∧ st' = ⟨[], []⟩) ?_ ?_
    ·refine WpC.seq ?_
     refine rS {} [4, 5, 6, 16, 17, 18] [1005, 1006, 10001] hN (by kernel_rfl) (by kernel_rfl) ?_
     refine tnU ?_
     refine WpC.block ?_
     obtain ⟨o19, hlo19, h⟩ := bind_some h
     have hout20 := h
     clear h
     refine WpC.loop (U := Un) (fun n st' => ∃ v13 : List (List UInt8), ∃ v14 : List (List UInt8), ∃ v15 : Int, cycle_Order.l16 k v1 v5 n v13 v14 v15 = some o19 ∧ st' = ⟨[(4, .mp 10001), (5, .vec 1005 1 0 v13.length), (6, .vec 1006 1 0 v14.length), (16, .vec 1005 1 0 v5.length), (17, .p I6 ((v5.length : Int) : Int)), (18, .p I6 v15)], [(1005, .row 9 .str v13 false), (1006, .row 9 .str v14 false), (10001, .map (.list .str) v1)]⟩) k ⟨v5, v6, 0, hlo19, by kernel_rfl⟩ ?_
     clear hlo19
     rintro (_ | n) _ ⟨v13, v14, v15, h, rfl⟩
     ·cases h
     ·rw [cycle_Order.l16] at h
      refine WpC.seq ?_
      refine rS {} [4, 5, 6, 16, 17, 18, 19] [1005, 1006, 10001] hN (by kernel_rfl) (by kernel_rfl) ?_
      refine tnU ?_
      refine WpC.seq ?_
      refine tS (b := (decide (v15 < (v5.length : Int)))) (by kernel_rfl) (fun hc21 => ?_) (fun hc21 => ?_)
      ·replace h := ite_t hc21 h
       refine WpC.conv (cS [.k [4, 5, 6, 16, 17, 18] [1005, 1006, 10001]] (by kernel_rfl) (by kernel_rfl)) (WpC.skip ?_)
       refine tnU ?_
       refine WpC.seq ?_
       refine WpC.block ?_
       refine WpC.seq ?_
       obtain ⟨g22, h⟩ := if_some h
       obtain ⟨v23, hv23, h⟩ := bind_some h
       refine rS { its := [(1, .g g22), (2, .v .str hv23)] } [4, 5, 6, 7, 8, 16, 17, 18] [1005, 1006, 10001] hN (by kernel_rfl) (by kernel_rfl) ?_
       refine tnU ?_
       refine WpC.seq ?_
       obtain ⟨v24, hv24, h⟩ := bind_some h
       refine rS { its := [(4, .c (COk.ren (names_Without.ok O k ((mget v23 v1).getD []) v14 v24 hv24) (fun n => if n = 60500 then 10003 else n) (injOn_of (by kernel_rfl))))] } [4, 5, 6, 7, 8, 16, 17, 18, 29] [1005, 1006, 10001] hN (by kernel_rfl) (by kernel_rfl) ?_
       refine tnU ?_
       refine tS (b := ((v24.length : Int) == 0)) (by kernel_rfl) (fun hc25 => ?_) (fun hc25 => ?_)
       ·replace h := ite_t hc25 h
        refine WpC.seq ?_
        obtain ⟨g26, h⟩ := if_some h
        refine rS { its := [(3, .g g26)] } [4, 5, 6, 7] [33, 1005, 10001] hN (by kernel_rfl) (by kernel_rfl) ?_
        refine tnU ?_
        refine WpC.seq ?_
        obtain ⟨v27, hv27, h⟩ := bind_some h
        refine rS { its := [(4, .c (COk.ren (pDeleteRR.ok O k v13 v15 (IntKind.i64.wrap (v15 + 1)) v27 hv27) (fun n => if n = 60500 then 10004 else if n = 100000 then 1005 else n) (injOn_of (by kernel_rfl))))] } [4, 5, 6] [33, 10001, 10004] hN (by kernel_rfl) (by kernel_rfl) ?_
        refine tnU ?_
        refine WpC.conv (cS [.rn 10004 1005, .k [4, 5, 6] [33, 1005, 10001], .rn 33 1006, .k [4, 5, 6] [1005, 1006, 10001]] (by kernel_rfl) (by kernel_rfl)) (WpC.exit ?_)
        refine blockQ_pass (by decide) ?_
        refine thenQ_exit ?_
        have hq := Option.some.inj h
        subst hq
        refine thenQ_exit ?_
        have h := hout20
        refine blockQ_pass (by decide) ?_
        refine thenQ_exit ?_
        refine blockQ_hit ?_
        refine tnU ?_
        exact ⟨n0, Nat.lt_succ_self n0, v27, (v14 ++ [v23]), h, by kernel_rfl⟩
       ·replace h := ite_f hc25 h
        refine WpC.conv (cS [.k [4, 5, 6, 16, 17, 18] [1005, 1006, 10001]] (by kernel_rfl) (by kernel_rfl)) (WpC.skip ?_)
        refine blockQ_normal ?_
        refine tnU ?_
        refine rS {} [4, 5, 6, 16, 17, 18] [1005, 1006, 10001] hN (by kernel_rfl) (by kernel_rfl) ?_
        refine tnU ?_
        exact ⟨n, Nat.lt_succ_self n, v13, v14, (IntKind.i64.wrap (v15 + 1)), h, by kernel_rfl⟩
      ·replace h := ite_f hc21 h
       refine WpC.conv (cS [.k [] []] (by kernel_rfl) (by kernel_rfl)) (WpC.exit ?_)
       refine thenQ_exit ?_
       have hq := Option.some.inj h
       subst hq
       refine thenQ_exit ?_
       have h := hout20
       refine blockQ_hit ?_
       refine tnU ?_
       exact ⟨h, by kernel_rfl⟩
    ·rintro _ ⟨h, rfl⟩
     unfold cycle_Order.j12 at h
     refine WpC.seq ?_
     refine rS {} [2, 3] [] hN (by kernel_rfl) (by kernel_rfl) ?_
     refine tnU ?_
     refine WpC.conv (cS [.nL 2 .str, .k [2, 3] []] (by kernel_rfl) (by kernel_rfl)) (WpC.ret ?_)
     refine blockQ_ret ?_
     have hq := Option.some.inj h
     subst hq
     refine thenQ_ret ?_
     have h := hout10
     refine blockQ_ret ?_
     refine thenQ_ret ?_
     refine noGotoQ_ret ?_
     have hq := Option.some.inj h
     subst hq
     exact eR (by kernel_rfl) (by kernel_rfl)
   ·replace h := ite_f hc11 h
    refine WpC.conv (cS [.k [6] [1006]] (by kernel_rfl) (by kernel_rfl)) (WpC.exit ?_)
    refine thenQ_exit ?_
    have hq := Option.some.inj h
    subst hq
    refine thenQ_exit ?_
    have h := hout10
    refine blockQ_hit ?_
    refine tnU ?_
    exact ⟨v6, h, by kernel_rfl⟩
 ·rintro _ ⟨v3, h, rfl⟩
  unfold cycle_Order.j4 at h
  refine WpC.seq ?_
  refine rS {} [2, 3] [1006] hN (by kernel_rfl) (by kernel_rfl) ?_
  refine tnU ?_
  refine WpC.conv (cS [.fz 2, .k [2, 3] []] (by kernel_rfl) (by kernel_rfl)) (WpC.ret ?_)
  refine noGotoQ_ret ?_
  have hq := Option.some.inj h
  subst hq
  exact eR (by kernel_rfl) (by kernel_rfl)

theorem millwrightref25_Order.ok (O : Out) (k : Nat) (a0 : List T_cycle_Node) (out : (List (List UInt8)) × Bool) (h : millwrightref25_Order.f k a0 = some out) : COk Un O Try.prog 22 { ar := [.p (.list (.named 3)) a0], r := .tup [.p (.list .str) out.1, .p .bool out.2] } := by
 refine cok_of_wp Try.func22 rfl (k := 58) rfl (Nat.le_of_ble_eq_true rfl) (namesOk_pure rfl rfl rfl rfl) ?_
 intro B hN
 refine WpC.conv (cvK (b := ⟨[(0, .p (.list (.named 3)) a0)], []⟩) [0] [] (by kernel_rfl)) ?_
 unfold millwrightref25_Order.f at h
 refine WpC.seq ?_
 refine rS {} [0] [] hN (by kernel_rfl) (by kernel_rfl) ?_
 refine tnU ?_
 refine WpC.seq ?_
 obtain ⟨v1, hv1, h⟩ := bind_some h
 refine rS { its := [(1, .c (millwrightref25_Names.ok O k a0 v1 hv1))] } [0, 4] [] hN (by kernel_rfl) (by kernel_rfl) ?_
 refine tnU ?_
 refine WpC.seq ?_
 refine rSC {} [0, 4, 5] [15] hN (by kernel_rfl) (by kernel_rfl) (cS [.k [0, 4, 5] [15], .x (Conv.cast (U := Un) (st := ⟨[(0, .p (.list (.named 3)) a0), (4, .p (.list .str) v1), (5, .vec 15 1 0 (([] : List (List UInt8)).length))], [(15, .row 9 .str ([] : List (List UInt8)) true)]⟩) (st' := ⟨[(0, .p (.list (.named 3)) a0), (4, .p (.list .str) v1), (5, .vec 15 1 0 0)], [(15, .row 9 .str ([] : List (List UInt8)) true)]⟩) (by simp only [upd_length, List.length_nil, List.length_replicate]))] (by kernel_rfl) (by kernel_rfl)) ?_
 refine tnU ?_
 refine sqJ (fun st' => ∃ v2 : List (List UInt8), millwrightref25_Order.j3 k v2 = some out ∧ st' = ⟨[(5, .vec 1005 1 0 v2.length)], [(1005, .row 9 .str v2 false)]⟩) ?_ ?_
 ·refine WpC.seq ?_
  refine rS {} [0, 4, 5, 17, 18] [15] hN (by kernel_rfl) (by kernel_rfl) ?_
  refine tnU ?_
  refine WpC.block ?_
  obtain ⟨o8, hlo8, h⟩ := bind_some h
  have hout9 := h
  clear h
  refine WpC.conv (cS [.lo 15, .k [0, 4, 5, 17, 18] [15], .rn 15 1005, .k [0, 4, 5, 17, 18] [1005]] (by kernel_rfl) (by kernel_rfl)) ?_
  refine WpC.loop (U := Un) (fun n st' => ∃ v4 : List (List UInt8), ∃ v5 : Int, millwrightref25_Order.l6 k a0 v1 n v4 v5 = some o8 ∧ st' = ⟨[(0, .p (.list (.named 3)) a0), (4, .p (.list .str) v1), (5, .vec 1005 1 0 v4.length), (17, .p I6 ((v1.length : Int) : Int)), (18, .p I6 v5)], [(1005, .row 9 .str v4 false)]⟩) k ⟨([] : List (List UInt8)), 0, hlo8, by kernel_rfl⟩ ?_
  clear hlo8
  rintro (_ | n) _ ⟨v4, v5, h, rfl⟩
  ·cases h
  ·rw [millwrightref25_Order.l6] at h
   refine WpC.seq ?_
   refine rS {} [0, 4, 5, 17, 18, 19] [1005] hN (by kernel_rfl) (by kernel_rfl) ?_
   refine tnU ?_
   refine WpC.seq ?_
   refine tS (b := (decide (v5 < (v1.length : Int)))) (by kernel_rfl) (fun hc10 => ?_) (fun hc10 => ?_)
   ·replace h := ite_t hc10 h
    refine WpC.conv (cS [.k [0, 4, 5, 17, 18] [1005]] (by kernel_rfl) (by kernel_rfl)) (WpC.skip ?_)
    refine tnU ?_
    refine sqJ (fun st' => ∃ v11 : List (List UInt8), millwrightref25_Order.j12 k (millwrightref25_Order.l6 k a0 v1 n) a0 v1 v5 v11 = some o8 ∧ st' = ⟨[(0, .p (.list (.named 3)) a0), (4, .p (.list .str) v1), (5, .vec 1005 1 0 v11.length), (17, .p I6 ((v1.length : Int) : Int)), (18, .p I6 v5)], [(1005, .row 9 .str v11 false)]⟩) ?_ ?_
    ·refine WpC.block ?_
     refine WpC.seq ?_
     refine rS {} [0, 4, 5, 6, 7, 17, 18] [1005] hN (by kernel_rfl) (by kernel_rfl) ?_
     refine tnU ?_
     refine sqJ (fun st' => ∃ v13 : List UInt8, ∃ v14 : Bool, millwrightref25_Order.j17 k (millwrightref25_Order.l6 k a0 v1 n) a0 v1 v4 v5 v13 v14 = some o8 ∧ st' = ⟨[(0, .p (.list (.named 3)) a0), (4, .p (.list .str) v1), (5, .vec 1005 1 0 v4.length), (6, .p .str v13), (7, .p .bool v14), (17, .p I6 ((v1.length : Int) : Int)), (18, .p I6 v5)], [(1005, .row 9 .str v4 false)]⟩) ?_ ?_
     ·refine WpC.seq ?_
      refine rS {} [0, 4, 5, 6, 7, 17, 18, 20, 21, 22] [1005] hN (by kernel_rfl) (by kernel_rfl) ?_
      refine tnU ?_
      refine WpC.block ?_
      obtain ⟨o24, hlo24, h⟩ := bind_some h
      have hout25 := h
      clear h
      refine WpC.loop (U := Un) (fun n st' => ∃ v18 : List UInt8, ∃ v19 : Bool, ∃ v20 : Int, millwrightref25_Order.l21 k a0 v1 v4 v5 n v18 v19 v20 = some o24 ∧ st' = ⟨[(0, .p (.list (.named 3)) a0), (4, .p (.list .str) v1), (5, .vec 1005 1 0 v4.length), (6, .p .str v18), (7, .p .bool v19), (17, .p I6 ((v1.length : Int) : Int)), (18, .p I6 v5), (20, .p (.list .str) v1), (21, .p I6 ((v1.length : Int) : Int)), (22, .p I6 v20)], [(1005, .row 9 .str v4 false)]⟩) k ⟨([] : List UInt8), false, 0, hlo24, by kernel_rfl⟩ ?_
      clear hlo24
      rintro (_ | n) _ ⟨v18, v19, v20, h, rfl⟩
      ·cases h
      ·rw [millwrightref25_Order.l21] at h
       refine WpC.seq ?_
       refine rS {} [0, 4, 5, 6, 7, 17, 18, 20, 21, 22, 23] [1005] hN (by kernel_rfl) (by kernel_rfl) ?_
       refine tnU ?_
       refine WpC.seq ?_
       refine tS (b := (decide (v20 < (v1.length : Int)))) (by kernel_rfl) (fun hc26 => ?_) (fun hc26 => ?_)
       ·replace h := ite_t hc26 h
        refine WpC.conv (cS [.k [0, 4, 5, 6, 7, 17, 18, 20, 21, 22] [1005]] (by kernel_rfl) (by kernel_rfl)) (WpC.skip ?_)
        refine tnU ?_
        refine sqJ (fun st' => ∃ v27 : List UInt8, ∃ v28 : Bool, millwrightref25_Order.j29 k (millwrightref25_Order.l21 k a0 v1 v4 v5 n) a0 v1 v4 v5 v20 v27 v28 = some o24 ∧ st' = ⟨[(0, .p (.list (.named 3)) a0), (4, .p (.list .str) v1), (5, .vec 1005 1 0 v4.length), (6, .p .str v27), (7, .p .bool v28), (17, .p I6 ((v1.length : Int) : Int)), (18, .p I6 v5), (20, .p (.list .str) v1), (21, .p I6 ((v1.length : Int) : Int)), (22, .p I6 v20)], [(1005, .row 9 .str v4 false)]⟩) ?_ ?_
        ·refine WpC.block ?_
         refine WpC.seq ?_
         obtain ⟨v30, hv30, h⟩ := bind_some h
         refine rS { its := [(0, .v .str hv30)] } [0, 4, 5, 6, 7, 9, 17, 18, 20, 21, 22] [1005] hN (by kernel_rfl) (by kernel_rfl) ?_
         refine tnU ?_
         refine sqJ (fun st' => millwrightref25_Order.j48 k (millwrightref25_Order.l21 k a0 v1 v4 v5 n) a0 v1 v4 v5 v18 v19 v20 v30 = some o24 ∧ st' = ⟨[(0, .p (.list (.named 3)) a0), (4, .p (.list .str) v1), (5, .vec 1005 1 0 v4.length), (6, .p .str v18), (7, .p .bool v19), (9, .p .str v30), (17, .p I6 ((v1.length : Int) : Int)), (18, .p I6 v5), (20, .p (.list .str) v1), (21, .p I6 ((v1.length : Int) : Int)), (22, .p I6 v20)], [(1005, .row 9 .str v4 false)]⟩) ?_ ?_
         ·refine sqJ (fun st' => ∃ v49 : Bool, millwrightref25_Order.j51 k (millwrightref25_Order.l21 k a0 v1 v4 v5 n) a0 v1 v4 v5 v18 v19 v20 v30 v49 = some o24 ∧ st' = ⟨[(0, .p (.list (.named 3)) a0), (4, .p (.list .str) v1), (5, .vec 1005 1 0 v4.length), (6, .p .str v18), (7, .p .bool v19), (9, .p .str v30), (17, .p I6 ((v1.length : Int) : Int)), (18, .p I6 v5), (20, .p (.list .str) v1), (21, .p I6 ((v1.length : Int) : Int)), (22, .p I6 v20), (31, .p .bool v49)], [(1005, .row 9 .str v4 false)]⟩) ?_ ?_
          ·rcases bool_cases v19 with hc52 | hc52
           ·replace h := ite_t hc52 h
            refine rS { kn := [(27, .t hc52)] } [0, 4, 5, 6, 7, 9, 17, 18, 20, 21, 22, 31] [1005] hN (by kernel_rfl) (by kernel_rfl) ?_
            refine tnU ?_
            exact ⟨true, h, by kernel_rfl⟩
           ·replace h := ite_f hc52 h
            obtain ⟨v53, hv53, h⟩ := bind_some h
            refine rS { its := [(4, .c (millwrightnum_Has.ok O k v4 v30 v53 hv53))], kn := [(27, .f hc52)] } [0, 4, 5, 6, 7, 9, 17, 18, 20, 21, 22, 31] [1005] hN (by kernel_rfl) (by kernel_rfl) ?_
            refine tnU ?_
            exact ⟨v53, h, by kernel_rfl⟩
          ·rintro _ ⟨v49, h, rfl⟩
           unfold millwrightref25_Order.j51 at h
           refine tS (b := v49) (by kernel_rfl) (fun hc50 => ?_) (fun hc50 => ?_)
           ·replace h := ite_t hc50 h
            refine WpC.conv (cS [.k [0, 4, 5, 6, 7, 17, 18, 20, 21, 22] [1005]] (by kernel_rfl) (by kernel_rfl)) (WpC.exit ?_)
            refine thenQ_exit ?_
            refine blockQ_hit ?_
            refine tnU ?_
            exact ⟨v18, v19, h, by kernel_rfl⟩
           ·replace h := ite_f hc50 h
            refine WpC.conv (cS [.k [0, 4, 5, 6, 7, 9, 17, 18, 20, 21, 22] [1005]] (by kernel_rfl) (by kernel_rfl)) (WpC.skip ?_)
            refine tnU ?_
            exact ⟨h, by kernel_rfl⟩
         ·rintro _ ⟨h, rfl⟩
          unfold millwrightref25_Order.j48 at h
          refine WpC.seq ?_
          refine rS {} [0, 4, 5, 6, 7, 9, 10, 17, 18, 20, 21, 22] [1005] hN (by kernel_rfl) (by kernel_rfl) ?_
          refine tnU ?_
          refine sqJ (fun st' => ∃ v31 : Bool, millwrightref25_Order.j33 k (millwrightref25_Order.l21 k a0 v1 v4 v5 n) a0 v1 v4 v5 v18 v19 v20 v30 v31 = some o24 ∧ st' = ⟨[(0, .p (.list (.named 3)) a0), (4, .p (.list .str) v1), (5, .vec 1005 1 0 v4.length), (6, .p .str v18), (7, .p .bool v19), (9, .p .str v30), (10, .p .bool v31), (17, .p I6 ((v1.length : Int) : Int)), (18, .p I6 v5), (20, .p (.list .str) v1), (21, .p I6 ((v1.length : Int) : Int)), (22, .p I6 v20)], [(1005, .row 9 .str v4 false)]⟩) ?_ ?_
          ·refine WpC.seq ?_
           obtain ⟨v34, hv34, h⟩ := bind_some h
           refine rS { its := [(2, .c (millwrightref25_To.ok O k a0 v30 v34 hv34))] } [0, 4, 5, 6, 7, 9, 10, 17, 18, 20, 21, 22, 34, 35, 36] [1005] hN (by kernel_rfl) (by kernel_rfl) ?_
           refine tnU ?_
           refine WpC.block ?_
           obtain ⟨o39, hlo39, h⟩ := bind_some h
           have hout40 := h
           clear h
           refine WpC.loop (U := Un) (fun n st' => ∃ v35 : Bool, ∃ v36 : Int, millwrightref25_Order.l37 k a0 v1 v4 v5 v18 v19 v20 v30 v34 n v35 v36 = some o39 ∧ st' = ⟨[(0, .p (.list (.named 3)) a0), (4, .p (.list .str) v1), (5, .vec 1005 1 0 v4.length), (6, .p .str v18), (7, .p .bool v19), (9, .p .str v30), (10, .p .bool v35), (17, .p I6 ((v1.length : Int) : Int)), (18, .p I6 v5), (20, .p (.list .str) v1), (21, .p I6 ((v1.length : Int) : Int)), (22, .p I6 v20), (34, .p (.list .str) v34), (35, .p I6 ((v34.length : Int) : Int)), (36, .p I6 v36)], [(1005, .row 9 .str v4 false)]⟩) k ⟨true, 0, hlo39, by kernel_rfl⟩ ?_
           clear hlo39
           rintro (_ | n) _ ⟨v35, v36, h, rfl⟩
           ·cases h
           ·rw [millwrightref25_Order.l37] at h
            refine WpC.seq ?_
            refine rS {} [0, 4, 5, 6, 7, 9, 10, 17, 18, 20, 21, 22, 34, 35, 36, 37] [1005] hN (by kernel_rfl) (by kernel_rfl) ?_
            refine tnU ?_
            refine WpC.seq ?_
            refine tS (b := (decide (v36 < (v34.length : Int)))) (by kernel_rfl) (fun hc41 => ?_) (fun hc41 => ?_)
            ·replace h := ite_t hc41 h
             refine WpC.conv (cS [.k [0, 4, 5, 6, 7, 9, 10, 17, 18, 20, 21, 22, 34, 35, 36] [1005]] (by kernel_rfl) (by kernel_rfl)) (WpC.skip ?_)
             refine tnU ?_
             refine sqJ (fun st' => ∃ v42 : Bool, millwrightref25_Order.j43 k (millwrightref25_Order.l37 k a0 v1 v4 v5 v18 v19 v20 v30 v34 n) a0 v1 v4 v5 v18 v19 v20 v30 v34 v36 v42 = some o39 ∧ st' = ⟨[(0, .p (.list (.named 3)) a0), (4, .p (.list .str) v1), (5, .vec 1005 1 0 v4.length), (6, .p .str v18), (7, .p .bool v19), (9, .p .str v30), (10, .p .bool v42), (17, .p I6 ((v1.length : Int) : Int)), (18, .p I6 v5), (20, .p (.list .str) v1), (21, .p I6 ((v1.length : Int) : Int)), (22, .p I6 v20), (34, .p (.list .str) v34), (35, .p I6 ((v34.length : Int) : Int)), (36, .p I6 v36)], [(1005, .row 9 .str v4 false)]⟩) ?_ ?_
             ·refine WpC.block ?_
              refine WpC.seq ?_
              obtain ⟨v44, hv44, h⟩ := bind_some h
              refine rS { its := [(0, .v .str hv44)] } [0, 4, 5, 6, 7, 9, 10, 12, 17, 18, 20, 21, 22, 34, 35, 36] [1005] hN (by kernel_rfl) (by kernel_rfl) ?_
              refine tnU ?_
              rcases bool_cases v35 with hc45 | hc45
              ·replace h := ite_t hc45 h
               obtain ⟨v46, hv46, h⟩ := bind_some h
               refine rS { its := [(4, .c (millwrightnum_Has.ok O k v4 v44 v46 hv46))], kn := [(41, .t hc45)] } [0, 4, 5, 6, 7, 9, 10, 17, 18, 20, 21, 22, 34, 35, 36] [1005] hN (by kernel_rfl) (by kernel_rfl) ?_
               refine blockQ_normal ?_
               refine tnU ?_
               exact ⟨v46, h, by kernel_rfl⟩
              ·replace h := ite_f hc45 h
               refine rS { kn := [(41, .f hc45)] } [0, 4, 5, 6, 7, 9, 10, 17, 18, 20, 21, 22, 34, 35, 36] [1005] hN (by kernel_rfl) (by kernel_rfl) ?_
               refine blockQ_normal ?_
               refine tnU ?_
               exact ⟨false, h, by kernel_rfl⟩
             ·rintro _ ⟨v42, h, rfl⟩
              unfold millwrightref25_Order.j43 at h
              refine rS {} [0, 4, 5, 6, 7, 9, 10, 17, 18, 20, 21, 22, 34, 35, 36] [1005] hN (by kernel_rfl) (by kernel_rfl) ?_
              refine tnU ?_
              exact ⟨n, Nat.lt_succ_self n, v42, (IntKind.i64.wrap (v36 + 1)), h, by kernel_rfl⟩
            ·replace h := ite_f hc41 h
             refine WpC.conv (cS [.k [0, 4, 5, 6, 7, 9, 10, 17, 18, 20, 21, 22] [1005]] (by kernel_rfl) (by kernel_rfl)) (WpC.exit ?_)
             refine thenQ_exit ?_
             have hq := Option.some.inj h
             subst hq
             refine thenQ_exit ?_
             have h := hout40
             refine blockQ_hit ?_
             refine tnU ?_
             exact ⟨v35, h, by kernel_rfl⟩
          ·rintro _ ⟨v31, h, rfl⟩
           unfold millwrightref25_Order.j33 at h
           refine WpC.seq ?_
           refine rS {} [0, 4, 5, 6, 7, 9, 17, 18, 20, 21, 22, 47] [1005] hN (by kernel_rfl) (by kernel_rfl) ?_
           refine tnU ?_
           refine tS (b := v31) (by kernel_rfl) (fun hc32 => ?_) (fun hc32 => ?_)
           ·replace h := ite_t hc32 h
            refine rS {} [0, 4, 5, 6, 7, 17, 18, 20, 21, 22] [1005] hN (by kernel_rfl) (by kernel_rfl) ?_
            refine blockQ_normal ?_
            refine tnU ?_
            exact ⟨v30, true, h, by kernel_rfl⟩
           ·replace h := ite_f hc32 h
            refine WpC.conv (cS [.k [0, 4, 5, 6, 7, 17, 18, 20, 21, 22] [1005]] (by kernel_rfl) (by kernel_rfl)) (WpC.skip ?_)
            refine blockQ_normal ?_
            refine tnU ?_
            exact ⟨v18, v19, h, by kernel_rfl⟩
        ·rintro _ ⟨v27, v28, h, rfl⟩
         unfold millwrightref25_Order.j29 at h
         refine rS {} [0, 4, 5, 6, 7, 17, 18, 20, 21, 22] [1005] hN (by kernel_rfl) (by kernel_rfl) ?_
         refine tnU ?_
         exact ⟨n, Nat.lt_succ_self n, v27, v28, (IntKind.i64.wrap (v20 + 1)), h, by kernel_rfl⟩
       ·replace h := ite_f hc26 h
        refine WpC.conv (cS [.k [0, 4, 5, 6, 7, 17, 18] [1005]] (by kernel_rfl) (by kernel_rfl)) (WpC.exit ?_)
        refine thenQ_exit ?_
        have hq := Option.some.inj h
        subst hq
        refine thenQ_exit ?_
        have h := hout25
        refine blockQ_hit ?_
        refine tnU ?_
        exact ⟨v18, v19, h, by kernel_rfl⟩
     ·rintro _ ⟨v13, v14, h, rfl⟩
      unfold millwrightref25_Order.j17 at h
      refine WpC.seq ?_
      refine WpC.seq ?_
      refine rS {} [0, 4, 5, 6, 17, 18, 51] [1005] hN (by kernel_rfl) (by kernel_rfl) ?_
      refine tnU ?_
      refine tS (b := (!v14)) (by kernel_rfl) (fun hc15 => ?_) (fun hc15 => ?_)
      ·replace h := ite_t hc15 h
       refine WpC.seq ?_
       refine rS {} [2, 3] [] hN (by kernel_rfl) (by kernel_rfl) ?_
       refine tnU ?_
       refine WpC.conv (cS [.nL 2 .str, .k [2, 3] []] (by kernel_rfl) (by kernel_rfl)) (WpC.ret ?_)
       refine thenQ_ret ?_
       refine blockQ_ret ?_
       refine thenQ_ret ?_
       have hq := Option.some.inj h
       subst hq
       refine thenQ_ret ?_
       have h := hout9
       refine blockQ_ret ?_
       refine thenQ_ret ?_
       have hq := Option.some.inj h
       subst hq
       exact eR (by kernel_rfl) (by kernel_rfl)
      ·replace h := ite_f hc15 h
       refine WpC.conv (cS [.k [0, 4, 5, 6, 17, 18] [1005]] (by kernel_rfl) (by kernel_rfl)) (WpC.skip ?_)
       refine tnU ?_
       obtain ⟨g16, h⟩ := if_some h
       refine rSC { its := [(3, .g g16)] } [0, 4, 5, 17, 18] [55] hN (by kernel_rfl) (by kernel_rfl) (cS [.rn 55 1005, .k [0, 4, 5, 17, 18] [1005]] (by kernel_rfl) (by kernel_rfl)) ?_
       refine blockQ_normal ?_
       refine tnU ?_
       exact ⟨(v4 ++ [v13]), h, by kernel_rfl⟩
    ·rintro _ ⟨v11, h, rfl⟩
     unfold millwrightref25_Order.j12 at h
     refine rS {} [0, 4, 5, 17, 18] [1005] hN (by kernel_rfl) (by kernel_rfl) ?_
     refine tnU ?_
     exact ⟨n, Nat.lt_succ_self n, v11, (IntKind.i64.wrap (v5 + 1)), h, by kernel_rfl⟩
   ·replace h := ite_f hc10 h
    refine WpC.conv (cS [.k [5] [1005]] (by kernel_rfl) (by kernel_rfl)) (WpC.exit ?_)
    refine thenQ_exit ?_
    have hq := Option.some.inj h
    subst hq
    refine thenQ_exit ?_
    have h := hout9
    refine blockQ_hit ?_
    refine tnU ?_
    exact ⟨v4, h, by kernel_rfl⟩
 ·rintro _ ⟨v2, h, rfl⟩
  unfold millwrightref25_Order.j3 at h
  refine WpC.seq ?_
  refine rS {} [2, 3] [1005] hN (by kernel_rfl) (by kernel_rfl) ?_
  refine tnU ?_
  refine WpC.conv (cS [.fz 2, .k [2, 3] []] (by kernel_rfl) (by kernel_rfl)) (WpC.ret ?_)
  have hq := Option.some.inj h
  subst hq
  exact eR (by kernel_rfl) (by kernel_rfl)

end Go.Proofs.Ytlmhnhlmlhfigaa
