/- A part of the proof of a given law: CYC3. Own work, printed in part by a program of mine. -/
import Derived.Test.YtlmhnhlmlhfigaaK42CYC2
namespace Go.Proofs.Ytlmhnhlmlhfigaa
open Go Go.AM
set_option linter.unusedVariables false
set_option linter.unusedSimpArgs false
set_option maxRecDepth 100000
set_option maxHeartbeats 4000000
theorem millwrightlaw25_CycleOr.ok (O : Out) (k : Nat) (a0 : List T_cycle_Node) (out : Bool) (h : millwrightlaw25_CycleOr.f k a0 = some out) : COk Un O Try.prog 5 { ar := [.p (.list (.named 3)) a0], r := .p .bool out } := by
 refine cok_of_wp Try.func5 rfl (k := 113) rfl (Nat.le_of_ble_eq_true rfl) (namesOk_pure rfl rfl rfl rfl) ?_
 intro B hN
 refine WpC.conv (cvK (b := ⟨[(0, .p (.list (.named 3)) a0)], []⟩) [0] [] (by kernel_rfl)) ?_
 unfold millwrightlaw25_CycleOr.f at h
 refine WpC.seq ?_
 refine rS {} [0] [] hN (by kernel_rfl) (by kernel_rfl) ?_
 refine tnU ?_
 refine WpC.seq ?_
 refine WpC.seq ?_
 obtain ⟨v1, hv1, h⟩ := bind_some h
 refine rS { its := [(0, .c (millwrightlaw25_alive.ok O k v1 hv1))] } [0, 15] [] hN (by kernel_rfl) (by kernel_rfl) ?_
 refine tnU ?_
 refine tS (b := (!v1)) (by kernel_rfl) (fun hc2 => ?_) (fun hc2 => ?_)
 ·replace h := ite_t hc2 h
  refine WpC.seq ?_
  refine rS {} [2] [] hN (by kernel_rfl) (by kernel_rfl) ?_
  refine tnU ?_
  refine WpC.ret ?_
  refine thenQ_ret ?_
  have hq := Option.some.inj h
  subst hq
  exact eR (by kernel_rfl) (by kernel_rfl)
 ·replace h := ite_f hc2 h
  refine WpC.conv (cS [.k [0] []] (by kernel_rfl) (by kernel_rfl)) (WpC.skip ?_)
  refine tnU ?_
  refine WpC.seq ?_
  refine WpC.seq ?_
  obtain ⟨v3, hv3, h⟩ := bind_some h
  refine rS { its := [(1, .c (millwrightlaw25_long.ok O k a0 v3 hv3))] } [0, 17] [] hN (by kernel_rfl) (by kernel_rfl) ?_
  refine tnU ?_
  refine tS (b := v3) (by kernel_rfl) (fun hc4 => ?_) (fun hc4 => ?_)
  ·replace h := ite_t hc4 h
   refine WpC.seq ?_
   refine rS {} [2] [] hN (by kernel_rfl) (by kernel_rfl) ?_
   refine tnU ?_
   refine WpC.ret ?_
   refine thenQ_ret ?_
   have hq := Option.some.inj h
   subst hq
   exact eR (by kernel_rfl) (by kernel_rfl)
  ·replace h := ite_f hc4 h
   refine WpC.conv (cS [.k [0] []] (by kernel_rfl) (by kernel_rfl)) (WpC.skip ?_)
   refine tnU ?_
   refine WpC.seq ?_
   obtain ⟨v5, hv5, h⟩ := bind_some h
   refine rS { its := [(1, .c (COk.ren (cycle_Names.ok O k a0 v5 hv5) (fun n => if n = 60500 then 10001 else n) (injOn_of (by kernel_rfl))))] } [0, 3] [10001] hN (by kernel_rfl) (by kernel_rfl) ?_
   refine tnU ?_
   refine WpC.seq ?_
   obtain ⟨v6, hv6, h⟩ := bind_some h
   refine rS { its := [(1, .c (cycle_Find.ok O k a0 v6 hv6))] } [0, 3, 4, 5] [10001] hN (by kernel_rfl) (by kernel_rfl) ?_
   refine tnU ?_
   refine WpC.seq ?_
   obtain ⟨v7, hv7, h⟩ := bind_some h
   refine rS { its := [(1, .c (cycle_Order.ok O k a0 v7 hv7))] } [0, 3, 4, 5, 6, 7] [10001] hN (by kernel_rfl) (by kernel_rfl) ?_
   refine tnU ?_
   refine WpC.seq ?_
   refine WpC.seq ?_
   refine rS {} [0, 3, 4, 5, 6, 32] [10001] hN (by kernel_rfl) (by kernel_rfl) ?_
   refine tnU ?_
   refine tS (b := (v6.2 == v7.2)) (by kernel_rfl) (fun hc8 => ?_) (fun hc8 => ?_)
   ·replace h := ite_t hc8 h
    refine WpC.seq ?_
    refine rS {} [2] [] hN (by kernel_rfl) (by kernel_rfl) ?_
    refine tnU ?_
    refine WpC.ret ?_
    refine thenQ_ret ?_
    have hq := Option.some.inj h
    subst hq
    exact eR (by kernel_rfl) (by kernel_rfl)
   ·replace h := ite_f hc8 h
    refine WpC.conv (cS [.k [0, 3, 4, 5, 6] [10001]] (by kernel_rfl) (by kernel_rfl)) (WpC.skip ?_)
    refine tnU ?_
    refine WpC.seq ?_
    refine WpC.seq ?_
    refine rS {} [0, 3, 4, 6, 33] [10001] hN (by kernel_rfl) (by kernel_rfl) ?_
    refine tnU ?_
    refine tS (b := v6.2) (by kernel_rfl) (fun hc9 => ?_) (fun hc9 => ?_)
    ·replace h := ite_t hc9 h
     refine sqJ (fun st' => millwrightlaw25_CycleOr.j13 k a0 v5 v6 v7 = some out ∧ st' = ⟨[(0, .p (.list (.named 3)) a0), (3, .vec 10001 1 0 v5.length), (4, .p (.list .str) v6.1), (6, .p (.list .str) v7.1)], [(10001, .row 9 .str v5 false)]⟩) ?_ ?_
     ·refine WpC.seq ?_
      refine rS {} [0, 3, 4, 6, 34, 35, 36] [10001] hN (by kernel_rfl) (by kernel_rfl) ?_
      refine tnU ?_
      refine WpC.block ?_
      obtain ⟨o16, hlo16, h⟩ := bind_some h
      have hout17 := h
      clear h
      refine WpC.loop (U := Un) (fun n st' => ∃ v14 : Int, millwrightlaw25_CycleOr.l15 k a0 v5 v6 v7 n v14 = some o16 ∧ st' = ⟨[(0, .p (.list (.named 3)) a0), (3, .vec 10001 1 0 v5.length), (4, .p (.list .str) v6.1), (6, .p (.list .str) v7.1), (34, .p (.list .str) v6.1), (35, .p I6 ((v6.1.length : Int) : Int)), (36, .p I6 v14)], [(10001, .row 9 .str v5 false)]⟩) k ⟨0, hlo16, by kernel_rfl⟩ ?_
      clear hlo16
      rintro (_ | n) _ ⟨v14, h, rfl⟩
      ·cases h
      ·rw [millwrightlaw25_CycleOr.l15] at h
       refine WpC.seq ?_
       refine rS {} [0, 3, 4, 6, 34, 35, 36, 37] [10001] hN (by kernel_rfl) (by kernel_rfl) ?_
       refine tnU ?_
       refine WpC.seq ?_
       refine tS (b := (decide (v14 < (v6.1.length : Int)))) (by kernel_rfl) (fun hc18 => ?_) (fun hc18 => ?_)
       ·replace h := ite_t hc18 h
        refine WpC.conv (cS [.k [0, 3, 4, 6, 34, 35, 36] [10001]] (by kernel_rfl) (by kernel_rfl)) (WpC.skip ?_)
        refine tnU ?_
        refine sqJ (fun st' => millwrightlaw25_CycleOr.j19 k (millwrightlaw25_CycleOr.l15 k a0 v5 v6 v7 n) a0 v5 v6 v7 v14 = some o16 ∧ st' = ⟨[(0, .p (.list (.named 3)) a0), (3, .vec 10001 1 0 v5.length), (4, .p (.list .str) v6.1), (6, .p (.list .str) v7.1), (34, .p (.list .str) v6.1), (35, .p I6 ((v6.1.length : Int) : Int)), (36, .p I6 v14)], [(10001, .row 9 .str v5 false)]⟩) ?_ ?_
        ·refine WpC.block ?_
         refine WpC.seq ?_
         obtain ⟨v20, hv20, h⟩ := bind_some h
         refine rS { its := [(1, .v .str hv20)] } [0, 3, 4, 6, 8, 9, 34, 35, 36] [10001] hN (by kernel_rfl) (by kernel_rfl) ?_
         refine tnU ?_
         refine sqJ (fun st' => ∃ v21 : Bool, millwrightlaw25_CycleOr.j23 k (millwrightlaw25_CycleOr.l15 k a0 v5 v6 v7 n) a0 v5 v6 v7 v14 v21 = some o16 ∧ st' = ⟨[(0, .p (.list (.named 3)) a0), (3, .vec 10001 1 0 v5.length), (4, .p (.list .str) v6.1), (6, .p (.list .str) v7.1), (34, .p (.list .str) v6.1), (35, .p I6 ((v6.1.length : Int) : Int)), (36, .p I6 v14), (52, .p .bool v21)], [(10001, .row 9 .str v5 false)]⟩) ?_ ?_
         ·obtain ⟨v24, hv24, h⟩ := bind_some h
          obtain ⟨v25, hv25, h⟩ := bind_some h
          rcases bool_cases v25 with hc26 | hc26
          ·replace h := ite_t hc26 h
           refine rS { its := [(2, .v (.list .str) hv24), (4, .c (millwrightnum_Has.ok O k v24 v20 v25 hv25))], kn := [(46, .t hc26)] } [0, 3, 4, 6, 34, 35, 36, 52] [10001] hN (by kernel_rfl) (by kernel_rfl) ?_
           refine tnU ?_
           exact ⟨true, h, by kernel_rfl⟩
          ·replace h := ite_f hc26 h
           obtain ⟨v27, hv27, h⟩ := bind_some h
           refine rS { its := [(2, .v (.list .str) hv24), (4, .c (millwrightnum_Has.ok O k v24 v20 v25 hv25)), (8, .v .str hv27)], kn := [(46, .f hc26)] } [0, 3, 4, 6, 34, 35, 36, 52] [10001] hN (by kernel_rfl) (by kernel_rfl) ?_
           refine tnU ?_
           exact ⟨(Op.bytesLess v20 v27), h, by kernel_rfl⟩
         ·rintro _ ⟨v21, h, rfl⟩
          unfold millwrightlaw25_CycleOr.j23 at h
          refine tS (b := v21) (by kernel_rfl) (fun hc22 => ?_) (fun hc22 => ?_)
          ·replace h := ite_t hc22 h
           refine WpC.seq ?_
           refine rS {} [2] [] hN (by kernel_rfl) (by kernel_rfl) ?_
           refine tnU ?_
           refine WpC.ret ?_
           refine blockQ_ret ?_
           refine thenQ_ret ?_
           have hq := Option.some.inj h
           subst hq
           refine thenQ_ret ?_
           have h := hout17
           refine blockQ_ret ?_
           refine thenQ_ret ?_
           refine thenQ_ret ?_
           have hq := Option.some.inj h
           subst hq
           exact eR (by kernel_rfl) (by kernel_rfl)
          ·replace h := ite_f hc22 h
           refine WpC.conv (cS [.k [0, 3, 4, 6, 34, 35, 36] [10001]] (by kernel_rfl) (by kernel_rfl)) (WpC.skip ?_)
           refine blockQ_normal ?_
           refine tnU ?_
           exact ⟨h, by kernel_rfl⟩
        ·rintro _ ⟨h, rfl⟩
         unfold millwrightlaw25_CycleOr.j19 at h
         refine rS {} [0, 3, 4, 6, 34, 35, 36] [10001] hN (by kernel_rfl) (by kernel_rfl) ?_
         refine tnU ?_
         exact ⟨n, Nat.lt_succ_self n, (IntKind.i64.wrap (v14 + 1)), h, by kernel_rfl⟩
       ·replace h := ite_f hc18 h
        refine WpC.conv (cS [.k [0, 3, 4, 6] [10001]] (by kernel_rfl) (by kernel_rfl)) (WpC.exit ?_)
        refine thenQ_exit ?_
        have hq := Option.some.inj h
        subst hq
        refine thenQ_exit ?_
        have h := hout17
        refine blockQ_hit ?_
        refine tnU ?_
        exact ⟨h, by kernel_rfl⟩
     ·rintro _ ⟨h, rfl⟩
      unfold millwrightlaw25_CycleOr.j13 at h
      refine WpC.seq ?_
      obtain ⟨v10, hv10, h⟩ := bind_some h
      rcases bool_cases v10 with hc11 | hc11
      ·replace h := ite_t hc11 h
       rcases bool_cases (decide ((v6.1.length : Int) ≤ (v5.length : Int))) with hc12 | hc12
       ·replace h := ite_t hc12 h
        refine rS { its := [(2, .c (cycle_Walk.ok O k a0 v6.1 v10 hv10))], kn := [(57, .t hc11), (64, .t hc12)] } [2] [] hN (by kernel_rfl) (by kernel_rfl) ?_
        refine tnU ?_
        refine WpC.ret ?_
        refine thenQ_ret ?_
        have hq := Option.some.inj h
        subst hq
        exact eR (by kernel_rfl) (by kernel_rfl)
       ·replace h := ite_f hc12 h
        refine rS { its := [(2, .c (cycle_Walk.ok O k a0 v6.1 v10 hv10))], kn := [(57, .t hc11), (64, .f hc12)] } [2] [] hN (by kernel_rfl) (by kernel_rfl) ?_
        refine tnU ?_
        refine WpC.ret ?_
        refine thenQ_ret ?_
        have hq := Option.some.inj h
        subst hq
        exact eR (by kernel_rfl) (by kernel_rfl)
      ·replace h := ite_f hc11 h
       refine rS { its := [(2, .c (cycle_Walk.ok O k a0 v6.1 v10 hv10))], kn := [(57, .f hc11)] } [2] [] hN (by kernel_rfl) (by kernel_rfl) ?_
       refine tnU ?_
       refine WpC.ret ?_
       refine thenQ_ret ?_
       have hq := Option.some.inj h
       subst hq
       exact eR (by kernel_rfl) (by kernel_rfl)
    ·replace h := ite_f hc9 h
     refine WpC.conv (cS [.k [0, 3, 4, 6] [10001]] (by kernel_rfl) (by kernel_rfl)) (WpC.skip ?_)
     refine tnU ?_
     refine sqJ (fun st' => millwrightlaw25_CycleOr.j31 k v5 v6 v7 = some out ∧ st' = ⟨[(3, .vec 10001 1 0 v5.length), (4, .p (.list .str) v6.1), (6, .p (.list .str) v7.1)], [(10001, .row 9 .str v5 false)]⟩) ?_ ?_
     ·refine WpC.seq ?_
      refine rS {} [0, 3, 4, 6, 69, 70, 71] [10001] hN (by kernel_rfl) (by kernel_rfl) ?_
      refine tnU ?_
      refine WpC.block ?_
      obtain ⟨o34, hlo34, h⟩ := bind_some h
      have hout35 := h
      clear h
      refine WpC.loop (U := Un) (fun n st' => ∃ v32 : Int, millwrightlaw25_CycleOr.l33 k a0 v5 v6 v7 n v32 = some o34 ∧ st' = ⟨[(0, .p (.list (.named 3)) a0), (3, .vec 10001 1 0 v5.length), (4, .p (.list .str) v6.1), (6, .p (.list .str) v7.1), (69, .p (.list .str) v7.1), (70, .p I6 ((v7.1.length : Int) : Int)), (71, .p I6 v32)], [(10001, .row 9 .str v5 false)]⟩) k ⟨0, hlo34, by kernel_rfl⟩ ?_
      clear hlo34
      rintro (_ | n) _ ⟨v32, h, rfl⟩
      ·cases h
      ·rw [millwrightlaw25_CycleOr.l33] at h
       refine WpC.seq ?_
       refine rS {} [0, 3, 4, 6, 69, 70, 71, 72] [10001] hN (by kernel_rfl) (by kernel_rfl) ?_
       refine tnU ?_
       refine WpC.seq ?_
       refine tS (b := (decide (v32 < (v7.1.length : Int)))) (by kernel_rfl) (fun hc36 => ?_) (fun hc36 => ?_)
       ·replace h := ite_t hc36 h
        refine WpC.conv (cS [.k [0, 3, 4, 6, 69, 70, 71] [10001]] (by kernel_rfl) (by kernel_rfl)) (WpC.skip ?_)
        refine tnU ?_
        refine sqJ (fun st' => millwrightlaw25_CycleOr.j37 k (millwrightlaw25_CycleOr.l33 k a0 v5 v6 v7 n) a0 v5 v6 v7 v32 = some o34 ∧ st' = ⟨[(0, .p (.list (.named 3)) a0), (3, .vec 10001 1 0 v5.length), (4, .p (.list .str) v6.1), (6, .p (.list .str) v7.1), (69, .p (.list .str) v7.1), (70, .p I6 ((v7.1.length : Int) : Int)), (71, .p I6 v32)], [(10001, .row 9 .str v5 false)]⟩) ?_ ?_
        ·refine WpC.block ?_
         refine WpC.seq ?_
         obtain ⟨v38, hv38, h⟩ := bind_some h
         refine rS { its := [(1, .v .str hv38)] } [0, 3, 4, 6, 10, 11, 69, 70, 71] [10001] hN (by kernel_rfl) (by kernel_rfl) ?_
         refine tnU ?_
         refine sqJ (fun st' => millwrightlaw25_CycleOr.j51 k (millwrightlaw25_CycleOr.l33 k a0 v5 v6 v7 n) a0 v5 v6 v7 v32 v38 = some o34 ∧ st' = ⟨[(0, .p (.list (.named 3)) a0), (3, .vec 10001 1 0 v5.length), (4, .p (.list .str) v6.1), (6, .p (.list .str) v7.1), (10, .p I6 v32), (11, .p .str v38), (69, .p (.list .str) v7.1), (70, .p I6 ((v7.1.length : Int) : Int)), (71, .p I6 v32)], [(10001, .row 9 .str v5 false)]⟩) ?_ ?_
         ·refine sqJ (fun st' => ∃ v52 : Bool, millwrightlaw25_CycleOr.j54 k (millwrightlaw25_CycleOr.l33 k a0 v5 v6 v7 n) a0 v5 v6 v7 v32 v38 v52 = some o34 ∧ st' = ⟨[(0, .p (.list (.named 3)) a0), (3, .vec 10001 1 0 v5.length), (4, .p (.list .str) v6.1), (6, .p (.list .str) v7.1), (10, .p I6 v32), (11, .p .str v38), (69, .p (.list .str) v7.1), (70, .p I6 ((v7.1.length : Int) : Int)), (71, .p I6 v32), (86, .p .bool v52)], [(10001, .row 9 .str v5 false)]⟩) ?_ ?_
          ·obtain ⟨v55, hv55, h⟩ := bind_some h
           obtain ⟨v56, hv56, h⟩ := bind_some h
           rcases bool_cases v56 with hc57 | hc57
           ·replace h := ite_t hc57 h
            refine rS { its := [(2, .v (.list .str) hv55), (4, .c (millwrightnum_Has.ok O k v55 v38 v56 hv56))], kn := [(81, .t hc57)] } [0, 3, 4, 6, 10, 11, 69, 70, 71, 86] [10001] hN (by kernel_rfl) (by kernel_rfl) ?_
            refine tnU ?_
            exact ⟨true, h, by kernel_rfl⟩
           ·replace h := ite_f hc57 h
            obtain ⟨v58, hv58, h⟩ := bind_some h
            refine rS { its := [(2, .v (.list .str) hv55), (4, .c (millwrightnum_Has.ok O k v55 v38 v56 hv56)), (8, .c (millwrightnum_Has.ok O k v5 v38 v58 hv58))], kn := [(81, .f hc57)] } [0, 3, 4, 6, 10, 11, 69, 70, 71, 86] [10001] hN (by kernel_rfl) (by kernel_rfl) ?_
            refine tnU ?_
            exact ⟨(!v58), h, by kernel_rfl⟩
          ·rintro _ ⟨v52, h, rfl⟩
           unfold millwrightlaw25_CycleOr.j54 at h
           refine tS (b := v52) (by kernel_rfl) (fun hc53 => ?_) (fun hc53 => ?_)
           ·replace h := ite_t hc53 h
            refine WpC.seq ?_
            refine rS {} [2] [] hN (by kernel_rfl) (by kernel_rfl) ?_
            refine tnU ?_
            refine WpC.ret ?_
            refine thenQ_ret ?_
            refine blockQ_ret ?_
            refine thenQ_ret ?_
            have hq := Option.some.inj h
            subst hq
            refine thenQ_ret ?_
            have h := hout35
            refine blockQ_ret ?_
            refine thenQ_ret ?_
            have hq := Option.some.inj h
            subst hq
            exact eR (by kernel_rfl) (by kernel_rfl)
           ·replace h := ite_f hc53 h
            refine WpC.conv (cS [.k [0, 3, 4, 6, 10, 11, 69, 70, 71] [10001]] (by kernel_rfl) (by kernel_rfl)) (WpC.skip ?_)
            refine tnU ?_
            exact ⟨h, by kernel_rfl⟩
         ·rintro _ ⟨h, rfl⟩
          unfold millwrightlaw25_CycleOr.j51 at h
          refine WpC.seq ?_
          obtain ⟨v39, hv39, h⟩ := bind_some h
          refine rS { its := [(2, .c (cycle_To.ok O k a0 v38 v39 hv39))] } [0, 3, 4, 6, 10, 69, 70, 71, 89, 90, 91] [10001] hN (by kernel_rfl) (by kernel_rfl) ?_
          refine tnU ?_
          refine WpC.block ?_
          obtain ⟨o42, hlo42, h⟩ := bind_some h
          have hout43 := h
          clear h
          refine WpC.loop (U := Un) (fun n st' => ∃ v40 : Int, millwrightlaw25_CycleOr.l41 k a0 v5 v6 v7 v32 v39 n v40 = some o42 ∧ st' = ⟨[(0, .p (.list (.named 3)) a0), (3, .vec 10001 1 0 v5.length), (4, .p (.list .str) v6.1), (6, .p (.list .str) v7.1), (10, .p I6 v32), (69, .p (.list .str) v7.1), (70, .p I6 ((v7.1.length : Int) : Int)), (71, .p I6 v32), (89, .p (.list .str) v39), (90, .p I6 ((v39.length : Int) : Int)), (91, .p I6 v40)], [(10001, .row 9 .str v5 false)]⟩) k ⟨0, hlo42, by kernel_rfl⟩ ?_
          clear hlo42
          rintro (_ | n) _ ⟨v40, h, rfl⟩
          ·cases h
          ·rw [millwrightlaw25_CycleOr.l41] at h
           refine WpC.seq ?_
           refine rS {} [0, 3, 4, 6, 10, 69, 70, 71, 89, 90, 91, 92] [10001] hN (by kernel_rfl) (by kernel_rfl) ?_
           refine tnU ?_
           refine WpC.seq ?_
           refine tS (b := (decide (v40 < (v39.length : Int)))) (by kernel_rfl) (fun hc44 => ?_) (fun hc44 => ?_)
           ·replace h := ite_t hc44 h
            refine WpC.conv (cS [.k [0, 3, 4, 6, 10, 69, 70, 71, 89, 90, 91] [10001]] (by kernel_rfl) (by kernel_rfl)) (WpC.skip ?_)
            refine tnU ?_
            refine WpC.seq ?_
            refine WpC.block ?_
            refine WpC.seq ?_
            obtain ⟨v45, hv45, h⟩ := bind_some h
            refine rS { its := [(0, .v .str hv45)] } [0, 3, 4, 6, 10, 13, 69, 70, 71, 89, 90, 91] [10001] hN (by kernel_rfl) (by kernel_rfl) ?_
            refine tnU ?_
            refine WpC.seq ?_
            obtain ⟨v46, hv46, h⟩ := bind_some h
            obtain ⟨v47, hv47, h⟩ := bind_some h
            refine rS { its := [(2, .v (.list .str) hv46), (4, .c (millwrightnum_Has.ok O k v46 v45 v47 hv47))] } [0, 3, 4, 6, 10, 69, 70, 71, 89, 90, 91, 100] [10001] hN (by kernel_rfl) (by kernel_rfl) ?_
            refine tnU ?_
            refine tS (b := (!v47)) (by kernel_rfl) (fun hc48 => ?_) (fun hc48 => ?_)
            ·replace h := ite_t hc48 h
             refine WpC.seq ?_
             refine rS {} [2] [] hN (by kernel_rfl) (by kernel_rfl) ?_
             refine tnU ?_
             refine WpC.ret ?_
             refine blockQ_ret ?_
             refine thenQ_ret ?_
             have hq := Option.some.inj h
             subst hq
             refine thenQ_ret ?_
             have h := hout43
             refine blockQ_ret ?_
             refine blockQ_ret ?_
             refine thenQ_ret ?_
             have hq := Option.some.inj h
             subst hq
             refine thenQ_ret ?_
             have h := hout35
             refine blockQ_ret ?_
             refine thenQ_ret ?_
             have hq := Option.some.inj h
             subst hq
             exact eR (by kernel_rfl) (by kernel_rfl)
            ·replace h := ite_f hc48 h
             refine WpC.conv (cS [.k [0, 3, 4, 6, 10, 69, 70, 71, 89, 90, 91] [10001]] (by kernel_rfl) (by kernel_rfl)) (WpC.skip ?_)
             refine blockQ_normal ?_
             refine tnU ?_
             refine rS {} [0, 3, 4, 6, 10, 69, 70, 71, 89, 90, 91] [10001] hN (by kernel_rfl) (by kernel_rfl) ?_
             refine tnU ?_
             exact ⟨n, Nat.lt_succ_self n, (IntKind.i64.wrap (v40 + 1)), h, by kernel_rfl⟩
           ·replace h := ite_f hc44 h
            refine WpC.conv (cS [.k [0, 3, 4, 6, 69, 70, 71] [10001]] (by kernel_rfl) (by kernel_rfl)) (WpC.exit ?_)
            refine thenQ_exit ?_
            have hq := Option.some.inj h
            subst hq
            refine thenQ_exit ?_
            have h := hout43
            refine blockQ_hit ?_
            refine blockQ_normal ?_
            refine tnU ?_
            exact ⟨h, by kernel_rfl⟩
        ·rintro _ ⟨h, rfl⟩
         unfold millwrightlaw25_CycleOr.j37 at h
         refine rS {} [0, 3, 4, 6, 69, 70, 71] [10001] hN (by kernel_rfl) (by kernel_rfl) ?_
         refine tnU ?_
         exact ⟨n, Nat.lt_succ_self n, (IntKind.i64.wrap (v32 + 1)), h, by kernel_rfl⟩
       ·replace h := ite_f hc36 h
        refine WpC.conv (cS [.k [3, 4, 6] [10001]] (by kernel_rfl) (by kernel_rfl)) (WpC.exit ?_)
        refine thenQ_exit ?_
        have hq := Option.some.inj h
        subst hq
        refine thenQ_exit ?_
        have h := hout35
        refine blockQ_hit ?_
        refine tnU ?_
        exact ⟨h, by kernel_rfl⟩
     ·rintro _ ⟨h, rfl⟩
      unfold millwrightlaw25_CycleOr.j31 at h
      refine WpC.seq ?_
      rcases bool_cases ((v7.1.length : Int) == (v5.length : Int)) with hc30 | hc30
      ·replace h := ite_t hc30 h
       refine rS { kn := [(108, .t hc30)] } [2] [] hN (by kernel_rfl) (by kernel_rfl) ?_
       refine tnU ?_
       refine WpC.ret ?_
       have hq := Option.some.inj h
       subst hq
       exact eR (by kernel_rfl) (by kernel_rfl)
      ·replace h := ite_f hc30 h
       refine rS { kn := [(108, .f hc30)] } [2] [] hN (by kernel_rfl) (by kernel_rfl) ?_
       refine tnU ?_
       refine WpC.ret ?_
       have hq := Option.some.inj h
       subst hq
       exact eR (by kernel_rfl) (by kernel_rfl)

end Go.Proofs.Ytlmhnhlmlhfigaa
