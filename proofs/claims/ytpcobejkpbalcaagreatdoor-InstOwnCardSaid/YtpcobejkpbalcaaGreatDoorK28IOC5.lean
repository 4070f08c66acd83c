/- A part of the proof of a given law: IOC5. Own work, printed in part by a program of mine. -/
import Derived.Test.YtpcobejkpbalcaaGreatDoorK28IOC4
namespace Go.Proofs.YtpcobejkpbalcaaGreatDoor
open Go Go.AM
set_option linter.unusedVariables false
set_option linter.unusedSimpArgs false
set_option maxRecDepth 100000
set_option maxHeartbeats 4000000
theorem pike_Parts.ok (O : Out) (hO : GOkE O) (k : Nat) (a0 : List UInt8) (a1 : List UInt8) (out : (List (List UInt8)) × Bool × Nat) (h : pike_Parts.f k a0 a1 = some out) : COk Un O Tryz.prog 108 { ar := [.p .str a0, .p .str a1], r := .tup [.p (.list .str) out.1, .p .bool out.2.1, .p .err out.2.2] } := by
 refine cok_of_wp Tryz.func108 rfl (k := 41) rfl (Nat.le_of_ble_eq_true rfl) (namesOk_pure rfl rfl rfl rfl) ?_
 intro B hN
 refine WpC.conv (cvK (b := ⟨[(0, .p .str a0), (1, .p .str a1)], []⟩) [0, 1] [] (by kernel_rfl)) ?_
 unfold pike_Parts.f at h
 refine WpC.seq ?_
 refine rS {} [0, 1] [] hN (by kernel_rfl) (by kernel_rfl) ?_
 refine tnU ?_
 refine WpC.seq ?_
 obtain ⟨v1, hv1, h⟩ := bind_some h
 refine rS { its := [(1, .c (prog_Of.ok O hO k a0 v1 hv1))] } [1, 7, 8] [] hN (by kernel_rfl) (by kernel_rfl) ?_
 refine tnU ?_
 refine WpC.seq ?_
 refine WpC.seq ?_
 refine rS {} [1, 7, 8, 19] [] hN (by kernel_rfl) (by kernel_rfl) ?_
 refine tnU ?_
 refine tS (b := (!(v1.2 == 0))) (by kernel_rfl) (fun hc2 => ?_) (fun hc2 => ?_)
 ·replace h := ite_t hc2 h
  refine WpC.seq ?_
  refine rS {} [4, 5, 6] [] hN (by kernel_rfl) (by kernel_rfl) ?_
  refine tnU ?_
  refine WpC.conv (cS [.nL 4 .str, .k [4, 5, 6] []] (by kernel_rfl) (by kernel_rfl)) (WpC.ret ?_)
  refine thenQ_ret ?_
  have hq := Option.some.inj h
  subst hq
  exact eR (by kernel_rfl) (by kernel_rfl)
 ·replace h := ite_f hc2 h
  refine WpC.conv (cS [.k [1, 7] []] (by kernel_rfl) (by kernel_rfl)) (WpC.skip ?_)
  refine tnU ?_
  refine WpC.seq ?_
  obtain ⟨v3, hv3, h⟩ := bind_some h
  refine rS { its := [(2, .c (pike_Match.ok O hO k v1.1 a1 v3 hv3))] } [1, 9, 10] [] hN (by kernel_rfl) (by kernel_rfl) ?_
  refine tnU ?_
  refine WpC.seq ?_
  refine WpC.seq ?_
  refine rS {} [1, 9, 28] [] hN (by kernel_rfl) (by kernel_rfl) ?_
  refine tnU ?_
  refine tS (b := (!v3.2)) (by kernel_rfl) (fun hc4 => ?_) (fun hc4 => ?_)
  ·replace h := ite_t hc4 h
   refine WpC.seq ?_
   refine rS {} [4, 5, 6] [] hN (by kernel_rfl) (by kernel_rfl) ?_
   refine tnU ?_
   refine WpC.conv (cS [.nL 4 .str, .k [4, 5, 6] [], .nE 6, .k [4, 5, 6] []] (by kernel_rfl) (by kernel_rfl)) (WpC.ret ?_)
   refine thenQ_ret ?_
   have hq := Option.some.inj h
   subst hq
   exact eR (by kernel_rfl) (by kernel_rfl)
  ·replace h := ite_f hc4 h
   refine WpC.conv (cS [.k [1, 9] []] (by kernel_rfl) (by kernel_rfl)) (WpC.skip ?_)
   refine tnU ?_
   refine WpC.seq ?_
   refine rS {} [1, 9, 11] [] hN (by kernel_rfl) (by kernel_rfl) ?_
   refine tnU ?_
   refine sqJ (fun st' => ∃ v5 : List (List UInt8), pike_Parts.j6 k v5 = some out ∧ st' = ⟨[(11, .vec 1011 1 0 v5.length)], [(1011, .row 9 .str v5 false)]⟩) ?_ ?_
   ·refine WpC.seq ?_
    refine rS {} [1, 9, 11, 29] [] hN (by kernel_rfl) (by kernel_rfl) ?_
    refine tnU ?_
    refine WpC.block ?_
    obtain ⟨o11, hlo11, h⟩ := bind_some h
    have hout12 := h
    clear h
    refine WpC.conv (cS [.th 11 1011 9 .str, .k [1, 9, 11, 29] [1011]] (by kernel_rfl) (by kernel_rfl)) ?_
    refine WpC.loop (U := Un) (fun n st' => ∃ v7 : List (List UInt8), ∃ v8 : Int, pike_Parts.l9 k a1 v3 n v7 v8 = some o11 ∧ st' = ⟨[(1, .p .str a1), (9, .p (.list I6) v3.1), (11, .vec 1011 1 0 v7.length), (29, .p I6 v8)], [(1011, .row 9 .str v7 false)]⟩) k ⟨[], 0, hlo11, by kernel_rfl⟩ ?_
    clear hlo11
    rintro (_ | n) _ ⟨v7, v8, h, rfl⟩
    ·cases h
    ·rw [pike_Parts.l9] at h
     refine WpC.seq ?_
     refine rS {} [1, 9, 11, 29, 30] [1011] hN (by kernel_rfl) (by kernel_rfl) ?_
     refine tnU ?_
     refine WpC.seq ?_
     refine tS (b := (decide (v8 < 10))) (by kernel_rfl) (fun hc13 => ?_) (fun hc13 => ?_)
     ·replace h := ite_t hc13 h
      refine WpC.conv (cS [.k [1, 9, 11, 29] [1011]] (by kernel_rfl) (by kernel_rfl)) (WpC.skip ?_)
      refine tnU ?_
      refine WpC.seq ?_
      refine WpC.block ?_
      refine WpC.seq ?_
      refine rS {} [1, 9, 11, 12, 29] [1011] hN (by kernel_rfl) (by kernel_rfl) ?_
      refine tnU ?_
      obtain ⟨v14, hv14, h⟩ := bind_some h
      obtain ⟨g15, h⟩ := if_some h
      refine rS { its := [(4, .c (pike_Part.ok O hO k a1 v3.1 v8 v14 hv14)), (6, .g g15)] } [1, 9, 11, 29] [38] hN (by kernel_rfl) (by kernel_rfl) ?_
      refine blockQ_normal ?_
      refine tnU ?_
      refine rSC {} [1, 9, 11, 29] [38] hN (by kernel_rfl) (by kernel_rfl) (cS [.rn 38 1011, .k [1, 9, 11, 29] [1011]] (by kernel_rfl) (by kernel_rfl)) ?_
      refine tnU ?_
      exact ⟨n, Nat.lt_succ_self n, (v7 ++ [v14]), (IntKind.i64.wrap (v8 + 1)), h, by kernel_rfl⟩
     ·replace h := ite_f hc13 h
      refine WpC.conv (cS [.k [11] [1011]] (by kernel_rfl) (by kernel_rfl)) (WpC.exit ?_)
      refine thenQ_exit ?_
      have hq := Option.some.inj h
      subst hq
      refine thenQ_exit ?_
      have h := hout12
      refine blockQ_hit ?_
      refine tnU ?_
      exact ⟨v7, h, by kernel_rfl⟩
   ·rintro _ ⟨v5, h, rfl⟩
    unfold pike_Parts.j6 at h
    refine WpC.seq ?_
    refine rS {} [4, 5, 6] [1011] hN (by kernel_rfl) (by kernel_rfl) ?_
    refine tnU ?_
    refine WpC.conv (cS [.fz 4, .k [4, 5, 6] [], .nE 6, .k [4, 5, 6] []] (by kernel_rfl) (by kernel_rfl)) (WpC.ret ?_)
    have hq := Option.some.inj h
    subst hq
    exact eR (by kernel_rfl) (by kernel_rfl)

theorem inst_figure.ok (O : Out) (hO : GOkE O) (k : Nat) (a0 : Int) (out : Int) (h : inst_figure.f k a0 = some out) : COk Un O Tryz.prog 155 { ar := [.p (.int .u8) a0], r := .p I6 out } := by
 refine cok_of_wp Tryz.func155 rfl (k := 12) rfl (Nat.le_of_ble_eq_true rfl) (namesOk_pure rfl rfl rfl rfl) ?_
 intro B hN
 refine WpC.conv (cvK (b := ⟨[(0, .p (.int .u8) a0)], []⟩) [0] [] (by kernel_rfl)) ?_
 unfold inst_figure.f at h
 refine WpC.seq ?_
 refine rS {} [0] [] hN (by kernel_rfl) (by kernel_rfl) ?_
 refine tnU ?_
 refine sqJ (fun st' => inst_figure.j1 k a0 = some out ∧ st' = ⟨[(0, .p (.int .u8) a0)], []⟩) ?_ ?_
 ·refine sqJ (fun st' => ∃ v2 : Bool, inst_figure.j4 k a0 v2 = some out ∧ st' = ⟨[(0, .p (.int .u8) a0), (8, .p .bool v2)], []⟩) ?_ ?_
  ·rcases bool_cases (decide (a0 < 48)) with hc5 | hc5
   ·replace h := ite_t hc5 h
    refine rS { kn := [(5, .t hc5)] } [0, 8] [] hN (by kernel_rfl) (by kernel_rfl) ?_
    refine tnU ?_
    exact ⟨true, h, by kernel_rfl⟩
   ·replace h := ite_f hc5 h
    refine rS { kn := [(5, .f hc5)] } [0, 8] [] hN (by kernel_rfl) (by kernel_rfl) ?_
    refine tnU ?_
    exact ⟨(decide (a0 > 57)), h, by kernel_rfl⟩
  ·rintro _ ⟨v2, h, rfl⟩
   unfold inst_figure.j4 at h
   refine tS (b := v2) (by kernel_rfl) (fun hc3 => ?_) (fun hc3 => ?_)
   ·replace h := ite_t hc3 h
    refine WpC.seq ?_
    refine rS {} [2] [] hN (by kernel_rfl) (by kernel_rfl) ?_
    refine tnU ?_
    refine WpC.ret ?_
    refine thenQ_ret ?_
    have hq := Option.some.inj h
    subst hq
    exact eR (by kernel_rfl) (by kernel_rfl)
   ·replace h := ite_f hc3 h
    refine WpC.conv (cS [.k [0] []] (by kernel_rfl) (by kernel_rfl)) (WpC.skip ?_)
    refine tnU ?_
    exact ⟨h, by kernel_rfl⟩
 ·rintro _ ⟨h, rfl⟩
  unfold inst_figure.j1 at h
  refine WpC.seq ?_
  refine rS {} [2] [] hN (by kernel_rfl) (by kernel_rfl) ?_
  refine tnU ?_
  refine WpC.ret ?_
  have hq := Option.some.inj h
  subst hq
  exact eR (by kernel_rfl) (by kernel_rfl)

theorem inst_Put.ok (O : Out) (hO : GOkE O) (k : Nat) (a0 : List UInt8) (a1 : List (List UInt8)) (out : List UInt8) (h : inst_Put.f k a0 a1 = some out) : COk Un O Tryz.prog 132 { ar := [.p .str a0, .p (.list .str) a1], r := .p .str out } := by
 refine cok_of_wp Tryz.func132 rfl (k := 57) rfl (Nat.le_of_ble_eq_true rfl) (namesOk_pure rfl rfl rfl rfl) ?_
 intro B hN
 refine WpC.conv (cvK (b := ⟨[(0, .p .str a0), (1, .p (.list .str) a1)], []⟩) [0, 1] [] (by kernel_rfl)) ?_
 unfold inst_Put.f at h
 refine WpC.seq ?_
 refine rS {} [0, 1] [] hN (by kernel_rfl) (by kernel_rfl) ?_
 refine tnU ?_
 refine WpC.seq ?_
 refine rS {} [0, 1, 5] [] hN (by kernel_rfl) (by kernel_rfl) ?_
 refine tnU ?_
 refine sqJ (fun st' => ∃ v1 : List Int, inst_Put.j2 k v1 = some out ∧ st' = ⟨[(5, .vec 1005 1 0 v1.length)], [(1005, .row 5 (.int .u8) v1 false)]⟩) ?_ ?_
 ·refine WpC.seq ?_
  refine rS {} [0, 1, 5, 6] [] hN (by kernel_rfl) (by kernel_rfl) ?_
  refine tnU ?_
  refine WpC.block ?_
  obtain ⟨o7, hlo7, h⟩ := bind_some h
  have hout8 := h
  clear h
  refine WpC.conv (cS [.th 5 1005 5 (.int .u8), .k [0, 1, 5, 6] [1005]] (by kernel_rfl) (by kernel_rfl)) ?_
  refine WpC.loop (U := Un) (fun n st' => ∃ v3 : List Int, ∃ v4 : Int, inst_Put.l5 k a0 a1 n v3 v4 = some o7 ∧ st' = ⟨[(0, .p .str a0), (1, .p (.list .str) a1), (5, .vec 1005 1 0 v3.length), (6, .p I6 v4)], [(1005, .row 5 (.int .u8) v3 false)]⟩) k ⟨[], 0, hlo7, by kernel_rfl⟩ ?_
  clear hlo7
  rintro (_ | n) _ ⟨v3, v4, h, rfl⟩
  ·cases h
  ·rw [inst_Put.l5] at h
   refine WpC.seq ?_
   refine WpC.seq ?_
   refine rS {} [0, 1, 5, 6, 11] [1005] hN (by kernel_rfl) (by kernel_rfl) ?_
   refine tnU ?_
   refine tS (b := (decide (v4 < (a0.length : Int)))) (by kernel_rfl) (fun hc9 => ?_) (fun hc9 => ?_)
   ·replace h := ite_t hc9 h
    refine WpC.conv (cS [.k [0, 1, 5, 6] [1005]] (by kernel_rfl) (by kernel_rfl)) (WpC.skip ?_)
    refine tnU ?_
    refine sqJ (fun st' => ∃ v10 : List Int, ∃ v11 : Int, inst_Put.j12 k (inst_Put.l5 k a0 a1 n) a0 a1 v10 v11 = some o7 ∧ st' = ⟨[(0, .p .str a0), (1, .p (.list .str) a1), (5, .vec 1005 1 0 v10.length), (6, .p I6 v11)], [(1005, .row 5 (.int .u8) v10 false)]⟩) ?_ ?_
    ·refine WpC.block ?_
     refine sqJ (fun st' => inst_Put.j18 k (inst_Put.l5 k a0 a1 n) a0 a1 v3 v4 = some o7 ∧ st' = ⟨[(0, .p .str a0), (1, .p (.list .str) a1), (5, .vec 1005 1 0 v3.length), (6, .p I6 v4)], [(1005, .row 5 (.int .u8) v3 false)]⟩) ?_ ?_
     ·refine sqJ (fun st' => ∃ v19 : Bool, inst_Put.j23 k (inst_Put.l5 k a0 a1 n) a0 a1 v3 v4 v19 = some o7 ∧ st' = ⟨[(0, .p .str a0), (1, .p (.list .str) a1), (5, .vec 1005 1 0 v3.length), (6, .p I6 v4), (32, .p .bool v19)], [(1005, .row 5 (.int .u8) v3 false)]⟩) ?_ ?_
      ·obtain ⟨v24, hv24, h⟩ := bind_some h
       rcases bool_cases ((v24.toNat : Int) != 92) with hc25 | hc25
       ·replace h := ite_t hc25 h
        refine rS { its := [(2, .u hv24)], kn := [(18, .t hc25)] } [0, 1, 5, 6, 32] [1005] hN (by kernel_rfl) (by kernel_rfl) ?_
        refine tnU ?_
        exact ⟨true, h, by kernel_rfl⟩
       ·replace h := ite_f hc25 h
        rcases bool_cases ((IntKind.i64.wrap (v4 + 1)) == (a0.length : Int)) with hc26 | hc26
        ·replace h := ite_t hc26 h
         refine rS { its := [(2, .u hv24)], kn := [(18, .f hc25), (25, .t hc26)] } [0, 1, 5, 6, 32] [1005] hN (by kernel_rfl) (by kernel_rfl) ?_
         refine tnU ?_
         exact ⟨true, h, by kernel_rfl⟩
        ·replace h := ite_f hc26 h
         obtain ⟨v27, hv27, h⟩ := bind_some h
         obtain ⟨v28, hv28, h⟩ := bind_some h
         refine rS { its := [(2, .u hv24), (15, .u hv27), (16, .c (inst_figure.ok O hO k (v27.toNat : Int) v28 hv28))], kn := [(18, .f hc25), (25, .f hc26)] } [0, 1, 5, 6, 32] [1005] hN (by kernel_rfl) (by kernel_rfl) ?_
         refine tnU ?_
         exact ⟨(decide (v28 < 0)), h, by kernel_rfl⟩
      ·rintro _ ⟨v19, h, rfl⟩
       unfold inst_Put.j23 at h
       refine tS (b := v19) (by kernel_rfl) (fun hc20 => ?_) (fun hc20 => ?_)
       ·replace h := ite_t hc20 h
        refine WpC.seq ?_
        obtain ⟨v21, hv21, h⟩ := bind_some h
        obtain ⟨g22, h⟩ := if_some h
        refine rS { its := [(3, .u hv21), (5, .g g22)] } [0, 1, 5, 6] [38] hN (by kernel_rfl) (by kernel_rfl) ?_
        refine tnU ?_
        refine WpC.conv (cS [.rn 38 1005, .k [0, 1, 5, 6] [1005]] (by kernel_rfl) (by kernel_rfl)) (WpC.exit ?_)
        refine thenQ_exit ?_
        refine blockQ_hit ?_
        refine tnU ?_
        exact ⟨(v3 ++ [(v21.toNat : Int)]), v4, h, by kernel_rfl⟩
       ·replace h := ite_f hc20 h
        refine WpC.conv (cS [.k [0, 1, 5, 6] [1005]] (by kernel_rfl) (by kernel_rfl)) (WpC.skip ?_)
        refine tnU ?_
        exact ⟨h, by kernel_rfl⟩
     ·rintro _ ⟨h, rfl⟩
      unfold inst_Put.j18 at h
      refine WpC.seq ?_
      refine rS {} [0, 1, 5, 6] [1005] hN (by kernel_rfl) (by kernel_rfl) ?_
      refine tnU ?_
      refine WpC.seq ?_
      obtain ⟨v13, hv13, h⟩ := bind_some h
      obtain ⟨v14, hv14, h⟩ := bind_some h
      refine rS { its := [(2, .u hv13), (3, .c (inst_figure.ok O hO k (v13.toNat : Int) v14 hv14))] } [0, 1, 5, 6, 7] [1005] hN (by kernel_rfl) (by kernel_rfl) ?_
      refine tnU ?_
      refine WpC.seq ?_
      refine rS {} [0, 1, 5, 6, 7, 48] [1005] hN (by kernel_rfl) (by kernel_rfl) ?_
      refine tnU ?_
      refine tS (b := (decide (v14 < (a1.length : Int)))) (by kernel_rfl) (fun hc15 => ?_) (fun hc15 => ?_)
      ·replace h := ite_t hc15 h
       obtain ⟨v16, hv16, h⟩ := bind_some h
       obtain ⟨g17, h⟩ := if_some h
       refine rSC { its := [(3, .v .str hv16), (5, .e 5 (sok_appendS (U := Un) (rs := [(49, .vec 1005 1 0 v3.length), (53, .p .str v16)]) (xs := v3) (s := v16) (fx := false) rfl rfl rfl row_208 z8_5 Tryz.underlying9 o0 o1 g17))] } [0, 1, 5, 6] [54] hN (by kernel_rfl) (by kernel_rfl) (cS [.rn 54 1005, .k [0, 1, 5, 6] [1005]] (by kernel_rfl) (by kernel_rfl)) ?_
       refine blockQ_normal ?_
       refine tnU ?_
       exact ⟨(v3 ++ numsOf v16), (IntKind.i64.wrap (v4 + 1)), h, by kernel_rfl⟩
      ·replace h := ite_f hc15 h
       refine WpC.conv (cS [.k [0, 1, 5, 6] [1005]] (by kernel_rfl) (by kernel_rfl)) (WpC.skip ?_)
       refine blockQ_normal ?_
       refine tnU ?_
       exact ⟨v3, (IntKind.i64.wrap (v4 + 1)), h, by kernel_rfl⟩
    ·rintro _ ⟨v10, v11, h, rfl⟩
     unfold inst_Put.j12 at h
     refine rS {} [0, 1, 5, 6] [1005] hN (by kernel_rfl) (by kernel_rfl) ?_
     refine tnU ?_
     exact ⟨n, Nat.lt_succ_self n, v10, (IntKind.i64.wrap (v11 + 1)), h, by kernel_rfl⟩
   ·replace h := ite_f hc9 h
    refine WpC.conv (cS [.k [5] [1005]] (by kernel_rfl) (by kernel_rfl)) (WpC.exit ?_)
    refine thenQ_exit ?_
    have hq := Option.some.inj h
    subst hq
    refine thenQ_exit ?_
    have h := hout8
    refine blockQ_hit ?_
    refine tnU ?_
    exact ⟨v3, h, by kernel_rfl⟩
 ·rintro _ ⟨v1, h, rfl⟩
  unfold inst_Put.j2 at h
  refine WpC.seq ?_
  refine rS {} [4] [] hN (by kernel_rfl) (by kernel_rfl) ?_
  refine tnU ?_
  refine WpC.ret ?_
  have hq := Option.some.inj h
  subst hq
  exact eR (by kernel_rfl) (by kernel_rfl)

theorem inst_putAll.ok (O : Out) (hO : GOkE O) (k : Nat) (a0 : List (List UInt8)) (a1 : List (List UInt8)) (out : List (List UInt8)) (h : inst_putAll.f k a0 a1 = some out) : COk Un O Tryz.prog 109 { ar := [.p (.list .str) a0, .p (.list .str) a1], r := .p (.list .str) out } := by
 refine cok_of_wp Tryz.func109 rfl (k := 22) rfl (Nat.le_of_ble_eq_true rfl) (namesOk_pure rfl rfl rfl rfl) ?_
 intro B hN
 refine WpC.conv (cvK (b := ⟨[(0, .p (.list .str) a0), (1, .p (.list .str) a1)], []⟩) [0, 1] [] (by kernel_rfl)) ?_
 unfold inst_putAll.f at h
 refine WpC.seq ?_
 refine rS {} [0, 1] [] hN (by kernel_rfl) (by kernel_rfl) ?_
 refine tnU ?_
 refine WpC.seq ?_
 refine rS {} [0, 1, 5] [] hN (by kernel_rfl) (by kernel_rfl) ?_
 refine tnU ?_
 refine sqJ (fun st' => ∃ v1 : List (List UInt8), inst_putAll.j2 k v1 = some out ∧ st' = ⟨[(5, .vec 1005 1 0 v1.length)], [(1005, .row 9 .str v1 false)]⟩) ?_ ?_
 ·refine WpC.seq ?_
  refine rS {} [1, 5, 8, 9, 10] [] hN (by kernel_rfl) (by kernel_rfl) ?_
  refine tnU ?_
  refine WpC.block ?_
  obtain ⟨o7, hlo7, h⟩ := bind_some h
  have hout8 := h
  clear h
  refine WpC.conv (cS [.th 5 1005 9 .str, .k [1, 5, 8, 9, 10] [1005]] (by kernel_rfl) (by kernel_rfl)) ?_
  refine WpC.loop (U := Un) (fun n st' => ∃ v3 : List (List UInt8), ∃ v4 : Int, inst_putAll.l5 k a0 a1 n v3 v4 = some o7 ∧ st' = ⟨[(1, .p (.list .str) a1), (5, .vec 1005 1 0 v3.length), (8, .p (.list .str) a0), (9, .p I6 ((a0.length : Int) : Int)), (10, .p I6 v4)], [(1005, .row 9 .str v3 false)]⟩) k ⟨[], 0, hlo7, by kernel_rfl⟩ ?_
  clear hlo7
  rintro (_ | n) _ ⟨v3, v4, h, rfl⟩
  ·cases h
  ·rw [inst_putAll.l5] at h
   refine WpC.seq ?_
   refine rS {} [1, 5, 8, 9, 10, 11] [1005] hN (by kernel_rfl) (by kernel_rfl) ?_
   refine tnU ?_
   refine WpC.seq ?_
   refine tS (b := (decide (v4 < (a0.length : Int)))) (by kernel_rfl) (fun hc9 => ?_) (fun hc9 => ?_)
   ·replace h := ite_t hc9 h
    refine WpC.conv (cS [.k [1, 5, 8, 9, 10] [1005]] (by kernel_rfl) (by kernel_rfl)) (WpC.skip ?_)
    refine tnU ?_
    refine WpC.seq ?_
    refine WpC.block ?_
    refine WpC.seq ?_
    obtain ⟨v10, hv10, h⟩ := bind_some h
    refine rS { its := [(0, .v .str hv10)] } [1, 5, 7, 8, 9, 10] [1005] hN (by kernel_rfl) (by kernel_rfl) ?_
    refine tnU ?_
    obtain ⟨v11, hv11, h⟩ := bind_some h
    obtain ⟨g12, h⟩ := if_some h
    refine rS { its := [(3, .c (inst_Put.ok O hO k v10 a1 v11 hv11)), (5, .g g12)] } [1, 5, 8, 9, 10] [19] hN (by kernel_rfl) (by kernel_rfl) ?_
    refine blockQ_normal ?_
    refine tnU ?_
    refine rSC {} [1, 5, 8, 9, 10] [19] hN (by kernel_rfl) (by kernel_rfl) (cS [.rn 19 1005, .k [1, 5, 8, 9, 10] [1005]] (by kernel_rfl) (by kernel_rfl)) ?_
    refine tnU ?_
    exact ⟨n, Nat.lt_succ_self n, (v3 ++ [v11]), (IntKind.i64.wrap (v4 + 1)), h, by kernel_rfl⟩
   ·replace h := ite_f hc9 h
    refine WpC.conv (cS [.k [5] [1005]] (by kernel_rfl) (by kernel_rfl)) (WpC.exit ?_)
    refine thenQ_exit ?_
    have hq := Option.some.inj h
    subst hq
    refine thenQ_exit ?_
    have h := hout8
    refine blockQ_hit ?_
    refine tnU ?_
    exact ⟨v3, h, by kernel_rfl⟩
 ·rintro _ ⟨v1, h, rfl⟩
  unfold inst_putAll.j2 at h
  refine WpC.seq ?_
  refine rS {} [4] [1005] hN (by kernel_rfl) (by kernel_rfl) ?_
  refine tnU ?_
  refine WpC.conv (cS [.fz 4, .k [4] []] (by kernel_rfl) (by kernel_rfl)) (WpC.ret ?_)
  have hq := Option.some.inj h
  subst hq
  exact eR (by kernel_rfl) (by kernel_rfl)

theorem inst_regex.ok (O : Out) (hO : GOkE O) (k : Nat) (a0 : T_load_Rule) (a1 : List UInt8) (out : T_inst_Inst × Bool) (h : inst_regex.f k a0 a1 = some out) : COk Un O Tryz.prog 85 { ar := [.p (.named 3) a0, .p .str a1], r := .tup [.p (.named 5) out.1, .p .bool out.2] } := by
 refine cok_of_wp Tryz.func85 rfl (k := 40) rfl (Nat.le_of_ble_eq_true rfl) (namesOk_pure rfl rfl rfl rfl) ?_
 intro B hN
 refine WpC.conv (cvK (b := ⟨[(0, .p (.named 3) a0), (1, .p .str a1)], []⟩) [0, 1] [] (by kernel_rfl)) ?_
 unfold inst_regex.f at h
 refine WpC.seq ?_
 refine rS { th := [(1, [(3, 10001, 9, .str)])] } [1, 2, 4] [2, 4, 10001] hN (by kernel_rfl) (by kernel_rfl) ?_
 refine tnU ?_
 refine sqJ (fun st' => inst_regex.j1 k = some out ∧ st' = ⟨[(4, .loc 4 0)], [(4, .box [.p I6 (0 : Int), .p .str ([] : List UInt8), .p (.list .str) ([] : List (List UInt8)), .vec 10001 1 0 0, .p (.list .str) ([] : List (List UInt8))]), (10001, .row 9 .str [] false)]⟩) ?_ ?_
 ·refine WpC.seq ?_
  refine rS {} [1, 2, 4, 12, 13, 14] [2, 4, 10001] hN (by kernel_rfl) (by kernel_rfl) ?_
  refine tnU ?_
  refine WpC.block ?_
  obtain ⟨o4, hlo4, h⟩ := bind_some h
  have hout5 := h
  clear h
  refine WpC.loop (U := Un) (fun n st' => ∃ v2 : Int, inst_regex.l3 k a0 a1 n v2 = some o4 ∧ st' = ⟨[(1, .p .str a1), (2, .loc 2 0), (4, .loc 4 0), (12, .p (.list .str) a0.f_Targets), (13, .p I6 ((a0.f_Targets.length : Int) : Int)), (14, .p I6 v2)], [(2, .box [.p (.list .str) a0.f_Targets, .p (.list .str) a0.f_Prereqs, .p I6 a0.f_Attr.f_Flags, .p .str a0.f_Attr.f_Prog, .p .str a0.f_Recipe, .p .str a0.f_File, .p I6 a0.f_Line]), (4, .box [.p I6 (0 : Int), .p .str ([] : List UInt8), .p (.list .str) ([] : List (List UInt8)), .vec 10001 1 0 0, .p (.list .str) ([] : List (List UInt8))]), (10001, .row 9 .str [] false)]⟩) k ⟨0, hlo4, by kernel_rfl⟩ ?_
  clear hlo4
  rintro (_ | n) _ ⟨v2, h, rfl⟩
  ·cases h
  ·rw [inst_regex.l3] at h
   refine WpC.seq ?_
   refine rS {} [1, 2, 4, 12, 13, 14, 15] [2, 4, 10001] hN (by kernel_rfl) (by kernel_rfl) ?_
   refine tnU ?_
   refine WpC.seq ?_
   refine tS (b := (decide (v2 < (a0.f_Targets.length : Int)))) (by kernel_rfl) (fun hc6 => ?_) (fun hc6 => ?_)
   ·replace h := ite_t hc6 h
    refine WpC.conv (cS [.k [1, 2, 4, 12, 13, 14] [2, 4, 10001]] (by kernel_rfl) (by kernel_rfl)) (WpC.skip ?_)
    refine tnU ?_
    refine sqJ (fun st' => inst_regex.j7 k (inst_regex.l3 k a0 a1 n) a0 a1 v2 = some o4 ∧ st' = ⟨[(1, .p .str a1), (2, .loc 2 0), (4, .loc 4 0), (12, .p (.list .str) a0.f_Targets), (13, .p I6 ((a0.f_Targets.length : Int) : Int)), (14, .p I6 v2)], [(2, .box [.p (.list .str) a0.f_Targets, .p (.list .str) a0.f_Prereqs, .p I6 a0.f_Attr.f_Flags, .p .str a0.f_Attr.f_Prog, .p .str a0.f_Recipe, .p .str a0.f_File, .p I6 a0.f_Line]), (4, .box [.p I6 (0 : Int), .p .str ([] : List UInt8), .p (.list .str) ([] : List (List UInt8)), .vec 10001 1 0 0, .p (.list .str) ([] : List (List UInt8))]), (10001, .row 9 .str [] false)]⟩) ?_ ?_
    ·refine WpC.block ?_
     refine WpC.seq ?_
     obtain ⟨v8, hv8, h⟩ := bind_some h
     refine rS { its := [(0, .v .str hv8)] } [1, 2, 4, 7, 12, 13, 14] [2, 4, 10001] hN (by kernel_rfl) (by kernel_rfl) ?_
     refine tnU ?_
     refine WpC.seq ?_
     obtain ⟨v9, hv9, h⟩ := bind_some h
     refine rS { its := [(2, .c (pike_Parts.ok O hO k v8 a1 v9 hv9))] } [1, 2, 4, 8, 9, 10, 12, 13, 14] [2, 4, 10001] hN (by kernel_rfl) (by kernel_rfl) ?_
     refine tnU ?_
     refine sqJ (fun st' => ∃ v10 : Bool, inst_regex.j13 k (inst_regex.l3 k a0 a1 n) a0 a1 v2 v9 v10 = some o4 ∧ st' = ⟨[(1, .p .str a1), (2, .loc 2 0), (4, .loc 4 0), (8, .p (.list .str) v9.1), (12, .p (.list .str) a0.f_Targets), (13, .p I6 ((a0.f_Targets.length : Int) : Int)), (14, .p I6 v2), (29, .p .bool v10)], [(2, .box [.p (.list .str) a0.f_Targets, .p (.list .str) a0.f_Prereqs, .p I6 a0.f_Attr.f_Flags, .p .str a0.f_Attr.f_Prog, .p .str a0.f_Recipe, .p .str a0.f_File, .p I6 a0.f_Line]), (4, .box [.p I6 (0 : Int), .p .str ([] : List UInt8), .p (.list .str) ([] : List (List UInt8)), .vec 10001 1 0 0, .p (.list .str) ([] : List (List UInt8))]), (10001, .row 9 .str [] false)]⟩) ?_ ?_
     ·rcases bool_cases (v9.2.2 == 0) with hc14 | hc14
      ·replace h := ite_t hc14 h
       refine rS { kn := [(27, .t hc14)] } [1, 2, 4, 8, 12, 13, 14, 29] [2, 4, 10001] hN (by kernel_rfl) (by kernel_rfl) ?_
       refine tnU ?_
       exact ⟨v9.2.1, h, by kernel_rfl⟩
      ·replace h := ite_f hc14 h
       refine rS { kn := [(27, .f hc14)] } [1, 2, 4, 8, 12, 13, 14, 29] [2, 4, 10001] hN (by kernel_rfl) (by kernel_rfl) ?_
       refine tnU ?_
       exact ⟨false, h, by kernel_rfl⟩
     ·rintro _ ⟨v10, h, rfl⟩
      unfold inst_regex.j13 at h
      refine tS (b := v10) (by kernel_rfl) (fun hc11 => ?_) (fun hc11 => ?_)
      ·replace h := ite_t hc11 h
       refine WpC.seq ?_
       obtain ⟨v12, hv12, h⟩ := bind_some h
       refine rS { its := [(6, .c (inst_putAll.ok O hO k a0.f_Prereqs v9.1 v12 hv12))], fz := [2] } [4, 5] [4] hN (by kernel_rfl) (by kernel_rfl) ?_
       refine tnU ?_
       refine WpC.ret ?_
       refine blockQ_ret ?_
       refine thenQ_ret ?_
       have hq := Option.some.inj h
       subst hq
       refine thenQ_ret ?_
       have h := hout5
       refine blockQ_ret ?_
       refine thenQ_ret ?_
       have hq := Option.some.inj h
       subst hq
       exact eR (by kernel_rfl) (by kernel_rfl)
      ·replace h := ite_f hc11 h
       refine WpC.conv (cS [.k [1, 2, 4, 12, 13, 14] [2, 4, 10001]] (by kernel_rfl) (by kernel_rfl)) (WpC.skip ?_)
       refine blockQ_normal ?_
       refine tnU ?_
       exact ⟨h, by kernel_rfl⟩
    ·rintro _ ⟨h, rfl⟩
     unfold inst_regex.j7 at h
     refine rS {} [1, 2, 4, 12, 13, 14] [2, 4, 10001] hN (by kernel_rfl) (by kernel_rfl) ?_
     refine tnU ?_
     exact ⟨n, Nat.lt_succ_self n, (IntKind.i64.wrap (v2 + 1)), h, by kernel_rfl⟩
   ·replace h := ite_f hc6 h
    refine WpC.conv (cS [.k [4] [4, 10001]] (by kernel_rfl) (by kernel_rfl)) (WpC.exit ?_)
    refine thenQ_exit ?_
    have hq := Option.some.inj h
    subst hq
    refine thenQ_exit ?_
    have h := hout5
    refine blockQ_hit ?_
    refine tnU ?_
    exact ⟨h, by kernel_rfl⟩
 ·rintro _ ⟨h, rfl⟩
  unfold inst_regex.j1 at h
  refine WpC.seq ?_
  refine rS { th := [(1, [(3, 10002, 9, .str)])] } [4, 5] [4, 10002] hN (by kernel_rfl) (by kernel_rfl) ?_
  refine tnU ?_
  refine WpC.conv (cS [.uh 4 3 (show ((0) : Nat) = (0) from (by first | rfl | (simp only [upd_length, List.length_replicate, List.length_append]; done) | (simp only [upd_length, List.length_replicate, List.length_append] at *; omega) | omega)), .k [4, 5] [4]] (by kernel_rfl) (by kernel_rfl)) (WpC.ret ?_)
  have hq := Option.some.inj h
  subst hq
  exact eR (by kernel_rfl) (by kernel_rfl)

theorem slices_Index_string_string.ok (O : Out) (hO : GOkE O) (k : Nat) (a0 : List (List UInt8)) (a1 : List UInt8) (out : Int) (h : slices_Index_string_string.f k a0 a1 = some out) : COk Un O Tryz.prog 120 { ar := [.p (.list .str) a0, .p .str a1], r := .p I6 out } := by
 refine cok_of_wp Tryz.func120 rfl (k := 19) rfl (Nat.le_of_ble_eq_true rfl) (namesOk_pure rfl rfl rfl rfl) ?_
 intro B hN
 refine WpC.conv (cvK (b := ⟨[(0, .p (.list .str) a0), (1, .p .str a1)], []⟩) [0, 1] [] (by kernel_rfl)) ?_
 unfold slices_Index_string_string.f at h
 refine WpC.seq ?_
 refine rS {} [0, 1] [] hN (by kernel_rfl) (by kernel_rfl) ?_
 refine tnU ?_
 refine sqJ (fun st' => slices_Index_string_string.j1 k = some out ∧ st' = ⟨[], []⟩) ?_ ?_
 ·refine WpC.seq ?_
  refine rS {} [0, 1, 7, 8] [] hN (by kernel_rfl) (by kernel_rfl) ?_
  refine tnU ?_
  refine WpC.block ?_
  obtain ⟨o4, hlo4, h⟩ := bind_some h
  have hout5 := h
  clear h
  refine WpC.loop (U := Un) (fun n st' => ∃ v2 : Int, slices_Index_string_string.l3 k a0 a1 n v2 = some o4 ∧ st' = ⟨[(0, .p (.list .str) a0), (1, .p .str a1), (7, .p I6 ((a0.length : Int) : Int)), (8, .p I6 v2)], []⟩) k ⟨0, hlo4, by kernel_rfl⟩ ?_
  clear hlo4
  rintro (_ | n) _ ⟨v2, h, rfl⟩
  ·cases h
  ·rw [slices_Index_string_string.l3] at h
   refine WpC.seq ?_
   refine rS {} [0, 1, 7, 8, 9] [] hN (by kernel_rfl) (by kernel_rfl) ?_
   refine tnU ?_
   refine WpC.seq ?_
   refine tS (b := (decide (v2 < (a0.length : Int)))) (by kernel_rfl) (fun hc6 => ?_) (fun hc6 => ?_)
   ·replace h := ite_t hc6 h
    refine WpC.conv (cS [.k [0, 1, 7, 8] []] (by kernel_rfl) (by kernel_rfl)) (WpC.skip ?_)
    refine tnU ?_
    refine WpC.seq ?_
    refine WpC.block ?_
    refine WpC.seq ?_
    refine rS {} [0, 1, 5, 7, 8] [] hN (by kernel_rfl) (by kernel_rfl) ?_
    refine tnU ?_
    refine WpC.seq ?_
    obtain ⟨v7, hv7, h⟩ := bind_some h
    refine rS { its := [(3, .v .str hv7)] } [0, 1, 5, 7, 8, 16] [] hN (by kernel_rfl) (by kernel_rfl) ?_
    refine tnU ?_
    refine tS (b := (a1 == v7)) (by kernel_rfl) (fun hc8 => ?_) (fun hc8 => ?_)
    ·replace h := ite_t hc8 h
     refine WpC.seq ?_
     refine rS {} [4] [] hN (by kernel_rfl) (by kernel_rfl) ?_
     refine tnU ?_
     refine WpC.ret ?_
     refine blockQ_ret ?_
     refine thenQ_ret ?_
     have hq := Option.some.inj h
     subst hq
     refine thenQ_ret ?_
     have h := hout5
     refine blockQ_ret ?_
     refine thenQ_ret ?_
     have hq := Option.some.inj h
     subst hq
     exact eR (by kernel_rfl) (by kernel_rfl)
    ·replace h := ite_f hc8 h
     refine WpC.conv (cS [.k [0, 1, 7, 8] []] (by kernel_rfl) (by kernel_rfl)) (WpC.skip ?_)
     refine blockQ_normal ?_
     refine tnU ?_
     refine rS {} [0, 1, 7, 8] [] hN (by kernel_rfl) (by kernel_rfl) ?_
     refine tnU ?_
     exact ⟨n, Nat.lt_succ_self n, (IntKind.i64.wrap (v2 + 1)), h, by kernel_rfl⟩
   ·replace h := ite_f hc6 h
    refine WpC.conv (cS [.k [] []] (by kernel_rfl) (by kernel_rfl)) (WpC.exit ?_)
    refine thenQ_exit ?_
    have hq := Option.some.inj h
    subst hq
    refine thenQ_exit ?_
    have h := hout5
    refine blockQ_hit ?_
    refine tnU ?_
    exact ⟨h, by kernel_rfl⟩
 ·rintro _ ⟨h, rfl⟩
  unfold slices_Index_string_string.j1 at h
  refine WpC.seq ?_
  refine rS {} [4] [] hN (by kernel_rfl) (by kernel_rfl) ?_
  refine tnU ?_
  refine WpC.ret ?_
  have hq := Option.some.inj h
  subst hq
  exact eR (by kernel_rfl) (by kernel_rfl)

theorem slices_Contains_string_string.ok (O : Out) (hO : GOkE O) (k : Nat) (a0 : List (List UInt8)) (a1 : List UInt8) (out : Bool) (h : slices_Contains_string_string.f k a0 a1 = some out) : COk Un O Tryz.prog 98 { ar := [.p (.list .str) a0, .p .str a1], r := .p .bool out } := by
 refine cok_of_wp Tryz.func98 rfl (k := 9) rfl (Nat.le_of_ble_eq_true rfl) (namesOk_pure rfl rfl rfl rfl) ?_
 intro B hN
 refine WpC.conv (cvK (b := ⟨[(0, .p (.list .str) a0), (1, .p .str a1)], []⟩) [0, 1] [] (by kernel_rfl)) ?_
 unfold slices_Contains_string_string.f at h
 refine WpC.seq ?_
 refine rS {} [0, 1] [] hN (by kernel_rfl) (by kernel_rfl) ?_
 refine tnU ?_
 refine WpC.seq ?_
 obtain ⟨v1, hv1, h⟩ := bind_some h
 refine rS { its := [(2, .c (slices_Index_string_string.ok O hO k a0 a1 v1 hv1))] } [4] [] hN (by kernel_rfl) (by kernel_rfl) ?_
 refine tnU ?_
 refine WpC.ret ?_
 have hq := Option.some.inj h
 subst hq
 exact eR (by kernel_rfl) (by kernel_rfl)

theorem names_Has.ok (O : Out) (hO : GOkE O) (k : Nat) (a0 : List (List UInt8)) (a1 : List UInt8) (out : Bool) (h : names_Has.f k a0 a1 = some out) : COk Un O Tryz.prog 65 { ar := [.p (.list .str) a0, .p .str a1], r := .p .bool out } := by
 refine cok_of_wp Tryz.func65 rfl (k := 8) rfl (Nat.le_of_ble_eq_true rfl) (namesOk_pure rfl rfl rfl rfl) ?_
 intro B hN
 refine WpC.conv (cvK (b := ⟨[(0, .p (.list .str) a0), (1, .p .str a1)], []⟩) [0, 1] [] (by kernel_rfl)) ?_
 unfold names_Has.f at h
 refine WpC.seq ?_
 refine rS {} [0, 1] [] hN (by kernel_rfl) (by kernel_rfl) ?_
 refine tnU ?_
 refine WpC.seq ?_
 obtain ⟨v1, hv1, h⟩ := bind_some h
 refine rS { its := [(2, .c (slices_Contains_string_string.ok O hO k a0 a1 v1 hv1))] } [4] [] hN (by kernel_rfl) (by kernel_rfl) ?_
 refine tnU ?_
 refine WpC.ret ?_
 have hq := Option.some.inj h
 subst hq
 exact eR (by kernel_rfl) (by kernel_rfl)

theorem inst_raw.ok (O : Out) (hO : GOkE O) (k : Nat) (a0 : T_load_Rule) (a1 : Int) (a2 : List UInt8) (out : T_inst_Inst × Bool) (h : inst_raw.f k a0 a1 a2 = some out) : COk Un O Tryz.prog 47 { ar := [.p (.named 3) a0, .p I6 a1, .p .str a2], r := .tup [.p (.named 5) out.1, .p .bool out.2] } := by
 refine cok_of_wp Tryz.func47 rfl (k := 32) rfl (Nat.le_of_ble_eq_true rfl) (namesOk_pure rfl rfl rfl rfl) ?_
 intro B hN
 refine WpC.conv (cvK (b := ⟨[(0, .p (.named 3) a0), (1, .p I6 a1), (2, .p .str a2)], []⟩) [0, 1, 2] [] (by kernel_rfl)) ?_
 unfold inst_raw.f at h
 refine WpC.seq ?_
 refine rS { th := [(1, [(3, 10001, 9, .str)])] } [1, 2, 3, 6] [3, 6, 10001] hN (by kernel_rfl) (by kernel_rfl) ?_
 refine tnU ?_
 refine WpC.seq ?_
 refine WpC.seq ?_
 refine rS {} [2, 3, 6, 8] [3, 6, 10001] hN (by kernel_rfl) (by kernel_rfl) ?_
 refine tnU ?_
 refine WpC.block ?_
 refine WpC.seq ?_
 refine rS {} [2, 3, 6, 8, 9] [3, 6, 10001] hN (by kernel_rfl) (by kernel_rfl) ?_
 refine tnU ?_
 refine tS (b := (a1 == 1)) (by kernel_rfl) (fun hc1 => ?_) (fun hc1 => ?_)
 ·replace h := ite_t hc1 h
  refine WpC.seq ?_
  obtain ⟨v2, hv2, h⟩ := bind_some h
  refine rS { its := [(2, .c (inst_wild.ok O hO k (T_load_Rule.mk a0.f_Targets a0.f_Prereqs (T_attr_Attr.mk a0.f_Attr.f_Flags a0.f_Attr.f_Prog) a0.f_Recipe a0.f_File a0.f_Line) a2 v2 hv2))] } [6, 7] [6] hN (by kernel_rfl) (by kernel_rfl) ?_
  refine tnU ?_
  refine WpC.ret ?_
  refine blockQ_ret ?_
  refine thenQ_ret ?_
  have hq := Option.some.inj h
  subst hq
  exact eR (by kernel_rfl) (by kernel_rfl)
 ·replace h := ite_f hc1 h
  refine WpC.seq ?_
  refine rS {} [2, 3, 6, 16] [3, 6, 10001] hN (by kernel_rfl) (by kernel_rfl) ?_
  refine tnU ?_
  refine tS (b := (a1 == 2)) (by kernel_rfl) (fun hc3 => ?_) (fun hc3 => ?_)
  ·replace h := ite_t hc3 h
   refine WpC.seq ?_
   obtain ⟨v4, hv4, h⟩ := bind_some h
   refine rS { its := [(2, .c (inst_regex.ok O hO k (T_load_Rule.mk a0.f_Targets a0.f_Prereqs (T_attr_Attr.mk a0.f_Attr.f_Flags a0.f_Attr.f_Prog) a0.f_Recipe a0.f_File a0.f_Line) a2 v4 hv4))] } [6, 7] [6] hN (by kernel_rfl) (by kernel_rfl) ?_
   refine tnU ?_
   refine WpC.ret ?_
   refine blockQ_ret ?_
   refine thenQ_ret ?_
   have hq := Option.some.inj h
   subst hq
   exact eR (by kernel_rfl) (by kernel_rfl)
  ·replace h := ite_f hc3 h
   refine WpC.conv (cS [.k [2, 3, 6] [3, 6, 10001]] (by kernel_rfl) (by kernel_rfl)) (WpC.skip ?_)
   refine blockQ_normal ?_
   refine tnU ?_
   refine WpC.seq ?_
   obtain ⟨v5, hv5, h⟩ := bind_some h
   refine rA { its := [(8, .c (names_Has.ok O hO k a0.f_Targets a2 v5 hv5))] } [6, 7] [6] hN (by kernel_rfl) (by kernel_rfl) (by kernel_rfl) ?_
   refine tnU ?_
   refine WpC.ret ?_
   have hq := Option.some.inj h
   subst hq
   exact eR (by kernel_rfl) (by kernel_rfl)

theorem inst_At_1.ok (O : Out) (hO : GOkE O) (k : Nat) (a0 : List UInt8) (out : Bool) (h : inst_At_1.f k a0 = some out) : COk Un O Tryz.prog 48 { ar := [.p .str a0], r := .p .bool out } := by
 refine cok_of_wp Tryz.func48 rfl (k := 6) rfl (Nat.le_of_ble_eq_true rfl) (namesOk_pure rfl rfl rfl rfl) ?_
 intro B hN
 refine WpC.conv (cvK (b := ⟨[(0, .p .str a0)], []⟩) [0] [] (by kernel_rfl)) ?_
 unfold inst_At_1.f at h
 refine WpC.seq ?_
 refine rS {} [0] [] hN (by kernel_rfl) (by kernel_rfl) ?_
 refine tnU ?_
 refine WpC.seq ?_
 obtain ⟨v1, hv1, h⟩ := bind_some h
 refine rS { its := [(1, .c (names_Right.ok O hO k a0 v1 hv1))] } [2] [] hN (by kernel_rfl) (by kernel_rfl) ?_
 refine tnU ?_
 refine WpC.ret ?_
 have hq := Option.some.inj h
 subst hq
 exact eR (by kernel_rfl) (by kernel_rfl)

theorem slices_IndexFunc_string_string_m2.ok (O : Out) (hO : GOkE O) (k : Nat) (a0 : List (List UInt8)) (out : Int) (h : slices_IndexFunc_string_string_m2.f k a0 = some out) : COk Un O Tryz.prog 86 { ar := [.p (.list .str) a0, .clo 48 []], r := .p I6 out } := by
 refine cok_of_wp Tryz.func86 rfl (k := 19) rfl (Nat.le_of_ble_eq_true rfl) (namesOk_pure rfl rfl rfl rfl) ?_
 intro B hN
 refine WpC.conv (cvK (b := ⟨[(0, .p (.list .str) a0), (1, .clo 48 [])], []⟩) [0, 1] [] (by kernel_rfl)) ?_
 unfold slices_IndexFunc_string_string_m2.f at h
 refine WpC.seq ?_
 refine rS {} [0, 1] [] hN (by kernel_rfl) (by kernel_rfl) ?_
 refine tnU ?_
 refine sqJ (fun st' => slices_IndexFunc_string_string_m2.j1 k = some out ∧ st' = ⟨[], []⟩) ?_ ?_
 ·refine WpC.seq ?_
  refine rS {} [0, 1, 7, 8] [] hN (by kernel_rfl) (by kernel_rfl) ?_
  refine tnU ?_
  refine WpC.block ?_
  obtain ⟨o4, hlo4, h⟩ := bind_some h
  have hout5 := h
  clear h
  refine WpC.loop (U := Un) (fun n st' => ∃ v2 : Int, slices_IndexFunc_string_string_m2.l3 k a0 n v2 = some o4 ∧ st' = ⟨[(0, .p (.list .str) a0), (1, .clo 48 []), (7, .p I6 ((a0.length : Int) : Int)), (8, .p I6 v2)], []⟩) k ⟨0, hlo4, by kernel_rfl⟩ ?_
  clear hlo4
  rintro (_ | n) _ ⟨v2, h, rfl⟩
  ·cases h
  ·rw [slices_IndexFunc_string_string_m2.l3] at h
   refine WpC.seq ?_
   refine rS {} [0, 1, 7, 8, 9] [] hN (by kernel_rfl) (by kernel_rfl) ?_
   refine tnU ?_
   refine WpC.seq ?_
   refine tS (b := (decide (v2 < (a0.length : Int)))) (by kernel_rfl) (fun hc6 => ?_) (fun hc6 => ?_)
   ·replace h := ite_t hc6 h
    refine WpC.conv (cS [.k [0, 1, 7, 8] []] (by kernel_rfl) (by kernel_rfl)) (WpC.skip ?_)
    refine tnU ?_
    refine WpC.seq ?_
    refine WpC.block ?_
    refine WpC.seq ?_
    refine rS {} [0, 1, 5, 7, 8] [] hN (by kernel_rfl) (by kernel_rfl) ?_
    refine tnU ?_
    refine WpC.seq ?_
    obtain ⟨v7, hv7, h⟩ := bind_some h
    obtain ⟨v8, hv8, h⟩ := bind_some h
    refine rS { its := [(3, .v .str hv7), (5, .c (inst_At_1.ok O hO k v7 v8 hv8))] } [0, 1, 5, 7, 8, 16] [] hN (by kernel_rfl) (by kernel_rfl) ?_
    refine tnU ?_
    refine tS (b := v8) (by kernel_rfl) (fun hc9 => ?_) (fun hc9 => ?_)
    ·replace h := ite_t hc9 h
     refine WpC.seq ?_
     refine rS {} [4] [] hN (by kernel_rfl) (by kernel_rfl) ?_
     refine tnU ?_
     refine WpC.ret ?_
     refine blockQ_ret ?_
     refine thenQ_ret ?_
     have hq := Option.some.inj h
     subst hq
     refine thenQ_ret ?_
     have h := hout5
     refine blockQ_ret ?_
     refine thenQ_ret ?_
     have hq := Option.some.inj h
     subst hq
     exact eR (by kernel_rfl) (by kernel_rfl)
    ·replace h := ite_f hc9 h
     refine WpC.conv (cS [.k [0, 1, 7, 8] []] (by kernel_rfl) (by kernel_rfl)) (WpC.skip ?_)
     refine blockQ_normal ?_
     refine tnU ?_
     refine rS {} [0, 1, 7, 8] [] hN (by kernel_rfl) (by kernel_rfl) ?_
     refine tnU ?_
     exact ⟨n, Nat.lt_succ_self n, (IntKind.i64.wrap (v2 + 1)), h, by kernel_rfl⟩
   ·replace h := ite_f hc6 h
    refine WpC.conv (cS [.k [] []] (by kernel_rfl) (by kernel_rfl)) (WpC.exit ?_)
    refine thenQ_exit ?_
    have hq := Option.some.inj h
    subst hq
    refine thenQ_exit ?_
    have h := hout5
    refine blockQ_hit ?_
    refine tnU ?_
    exact ⟨h, by kernel_rfl⟩
 ·rintro _ ⟨h, rfl⟩
  unfold slices_IndexFunc_string_string_m2.j1 at h
  refine WpC.seq ?_
  refine rS {} [4] [] hN (by kernel_rfl) (by kernel_rfl) ?_
  refine tnU ?_
  refine WpC.ret ?_
  have hq := Option.some.inj h
  subst hq
  exact eR (by kernel_rfl) (by kernel_rfl)

theorem slices_ContainsFunc_string_string_m2.ok (O : Out) (hO : GOkE O) (k : Nat) (a0 : List (List UInt8)) (out : Bool) (h : slices_ContainsFunc_string_string_m2.f k a0 = some out) : COk Un O Tryz.prog 50 { ar := [.p (.list .str) a0, .clo 48 []], r := .p .bool out } := by
 refine cok_of_wp Tryz.func50 rfl (k := 9) rfl (Nat.le_of_ble_eq_true rfl) (namesOk_pure rfl rfl rfl rfl) ?_
 intro B hN
 refine WpC.conv (cvK (b := ⟨[(0, .p (.list .str) a0), (1, .clo 48 [])], []⟩) [0, 1] [] (by kernel_rfl)) ?_
 unfold slices_ContainsFunc_string_string_m2.f at h
 refine WpC.seq ?_
 refine rS {} [0, 1] [] hN (by kernel_rfl) (by kernel_rfl) ?_
 refine tnU ?_
 refine WpC.seq ?_
 obtain ⟨v1, hv1, h⟩ := bind_some h
 refine rS { its := [(2, .c (slices_IndexFunc_string_string_m2.ok O hO k a0 v1 hv1))] } [4] [] hN (by kernel_rfl) (by kernel_rfl) ?_
 refine tnU ?_
 refine WpC.ret ?_
 have hq := Option.some.inj h
 subst hq
 exact eR (by kernel_rfl) (by kernel_rfl)

theorem slices_Grow_string_string_m0.ok (O : Out) (hO : GOkE O) (k : Nat) (a0 : Int) (out : List (List UInt8)) (h : slices_Grow_string_string_m0.f k a0 = some out) : COk Un O Tryz.prog 110 { ar := [.lit (.slice none 0 0), .p I6 a0], r := .vec 60500 1 0 out.length, bs' := [(60500, .row 9 .str out false)], nn := [60500] } := by
 refine cok_of_wp Tryz.func110 rfl (k := 27) rfl (Nat.le_of_ble_eq_true rfl) (namesOk_of (by kernel_rfl)) ?_
 intro B hN
 refine WpC.conv (cvK (b := ⟨[(0, .lit (.slice none 0 0)), (1, .p I6 a0)], []⟩) [0, 1] [] (by kernel_rfl)) ?_
 unfold slices_Grow_string_string_m0.f at h
 refine WpC.seq ?_
 refine rS {} [0, 1] [] hN (by kernel_rfl) (by kernel_rfl) ?_
 refine tnU ?_
 refine sqJ (fun st' => slices_Grow_string_string_m0.j7 k a0 = some out ∧ st' = ⟨[(0, .lit (.slice none 0 0)), (1, .p I6 a0)], []⟩) ?_ ?_
 ·refine WpC.seq ?_
  refine rS {} [0, 1, 6] [] hN (by kernel_rfl) (by kernel_rfl) ?_
  refine tnU ?_
  refine tS (b := (decide (a0 < 0))) (by kernel_rfl) (fun hc8 => ?_) (fun hc8 => ?_)
  ·replace h := ite_t hc8 h
   cases h
  ·replace h := ite_f hc8 h
   refine WpC.conv (cS [.k [0, 1] []] (by kernel_rfl) (by kernel_rfl)) (WpC.skip ?_)
   refine tnU ?_
   exact ⟨h, by kernel_rfl⟩
 ·rintro _ ⟨h, rfl⟩
  unfold slices_Grow_string_string_m0.j7 at h
  refine sqJ (fun st' => ∃ v1 : List (List UInt8), slices_Grow_string_string_m0.j2 k v1 = some out ∧ st' = ⟨[(0, .vec 1000 1 0 v1.length)], [(1000, .row 9 .str v1 false)]⟩) ?_ ?_
  ·refine WpC.seq ?_
   refine rS { its := [(2, .e 2 (sok_capNil (U := Un) (rs := [(9, .lit (.slice none 0 0))]) rfl rfl Tryz.underlying34 o0))] } [0, 1] [] hN (by kernel_rfl) (by kernel_rfl) ?_
   refine tnU ?_
   refine WpC.seq ?_
   refine rS {} [0, 1, 16] [] hN (by kernel_rfl) (by kernel_rfl) ?_
   refine tnU ?_
   refine tS (b := (decide ((IntKind.i64.wrap (a0 - (IntKind.i64.wrap (0 - 0)))) > 0))) (by kernel_rfl) (fun hc3 => ?_) (fun hc3 => ?_)
   ·replace h := ite_t hc3 h
    obtain ⟨g4, h⟩ := if_some h
    obtain ⟨g5, h⟩ := if_some h
    obtain ⟨g6, h⟩ := if_some h
    refine rSC { its := [(2, .e 2 (sok_capNil (U := Un) (rs := [(18, .lit (.slice none 0 0))]) rfl rfl Tryz.underlying34 o0)), (5, .e 5 (sok_appendNZ (U := Un) (t := .str) (rs := [(20, .lit (.slice none 0 0)), (21, .p I6 ((IntKind.i64.wrap (a0 - (IntKind.i64.wrap (0 - 0)))) : Int))]) (n := (IntKind.i64.wrap (a0 - (IntKind.i64.wrap (0 - 0))))) rfl rfl rfl row_34 Tryz.underlying3 o0 o1 g4 g5 (by decide))), (8, .g g6)] } [0] [22] hN (by kernel_rfl) (by kernel_rfl) (cS [.rn 22 1000, .k [0] [1000]] (by kernel_rfl) (by kernel_rfl)) ?_
    refine tnU ?_
    exact ⟨([] : List (List UInt8)), h, by kernel_rfl⟩
   ·replace h := ite_f hc3 h
    refine WpC.conv (cS [.k [0] [], .th 0 1000 9 .str, .k [0] [1000]] (by kernel_rfl) (by kernel_rfl)) (WpC.skip ?_)
    refine tnU ?_
    exact ⟨[], h, by kernel_rfl⟩
  ·rintro _ ⟨v1, h, rfl⟩
   unfold slices_Grow_string_string_m0.j2 at h
   refine WpC.seq ?_
   refine rS {} [4] [1000] hN (by kernel_rfl) (by kernel_rfl) ?_
   refine tnU ?_
   refine WpC.conv (cS [.rn 1000 60500, .k [4] [60500]] (by kernel_rfl) (by kernel_rfl)) (WpC.ret ?_)
   have hq := Option.some.inj h
   subst hq
   exact eR (by kernel_rfl) (by kernel_rfl)

theorem slices_Concat_string_string.ok (O : Out) (hO : GOkE O) (k : Nat) (a0 : List (List (List UInt8))) (out : List (List UInt8)) (h : slices_Concat_string_string.f k a0 = some out) : COk Un O Tryz.prog 87 { ar := [.p (.list (.list .str)) a0], r := .vec 60500 1 0 out.length, bs' := [(60500, .row 9 .str out false)], nn := [60500] } := by
 refine cok_of_wp Tryz.func87 rfl (k := 36) rfl (Nat.le_of_ble_eq_true rfl) (namesOk_of (by kernel_rfl)) ?_
 intro B hN
 refine WpC.conv (cvK (b := ⟨[(0, .p (.list (.list .str)) a0)], []⟩) [0] [] (by kernel_rfl)) ?_
 unfold slices_Concat_string_string.f at h
 refine WpC.seq ?_
 refine rS {} [0] [] hN (by kernel_rfl) (by kernel_rfl) ?_
 refine tnU ?_
 refine WpC.seq ?_
 refine rS {} [0, 3] [] hN (by kernel_rfl) (by kernel_rfl) ?_
 refine tnU ?_
 refine sqJ (fun st' => ∃ v1 : Int, slices_Concat_string_string.j15 k a0 v1 = some out ∧ st' = ⟨[(0, .p (.list (.list .str)) a0), (3, .p I6 v1)], []⟩) ?_ ?_
 ·refine WpC.seq ?_
  refine rS {} [0, 3, 9, 10, 11] [] hN (by kernel_rfl) (by kernel_rfl) ?_
  refine tnU ?_
  refine WpC.block ?_
  obtain ⟨o20, hlo20, h⟩ := bind_some h
  have hout21 := h
  clear h
  refine WpC.loop (U := Un) (fun n st' => ∃ v16 : Int, ∃ v17 : Int, slices_Concat_string_string.l18 k a0 n v16 v17 = some o20 ∧ st' = ⟨[(0, .p (.list (.list .str)) a0), (3, .p I6 v16), (9, .p (.list (.list .str)) a0), (10, .p I6 ((a0.length : Int) : Int)), (11, .p I6 v17)], []⟩) k ⟨0, 0, hlo20, by kernel_rfl⟩ ?_
  clear hlo20
  rintro (_ | n) _ ⟨v16, v17, h, rfl⟩
  ·cases h
  ·rw [slices_Concat_string_string.l18] at h
   refine WpC.seq ?_
   refine rS {} [0, 3, 9, 10, 11, 12] [] hN (by kernel_rfl) (by kernel_rfl) ?_
   refine tnU ?_
   refine WpC.seq ?_
   refine tS (b := (decide (v17 < (a0.length : Int)))) (by kernel_rfl) (fun hc22 => ?_) (fun hc22 => ?_)
   ·replace h := ite_t hc22 h
    refine WpC.conv (cS [.k [0, 3, 9, 10, 11] []] (by kernel_rfl) (by kernel_rfl)) (WpC.skip ?_)
    refine tnU ?_
    refine sqJ (fun st' => ∃ v23 : Int, slices_Concat_string_string.j24 k (slices_Concat_string_string.l18 k a0 n) a0 v17 v23 = some o20 ∧ st' = ⟨[(0, .p (.list (.list .str)) a0), (3, .p I6 v23), (9, .p (.list (.list .str)) a0), (10, .p I6 ((a0.length : Int) : Int)), (11, .p I6 v17)], []⟩) ?_ ?_
    ·refine WpC.block ?_
     refine WpC.seq ?_
     obtain ⟨v25, hv25, h⟩ := bind_some h
     refine rS { its := [(0, .v (.list .str) hv25)] } [0, 3, 5, 9, 10, 11] [] hN (by kernel_rfl) (by kernel_rfl) ?_
     refine tnU ?_
     refine WpC.seq ?_
     refine rS {} [0, 3, 9, 10, 11] [] hN (by kernel_rfl) (by kernel_rfl) ?_
     refine tnU ?_
     refine WpC.seq ?_
     refine rS {} [0, 3, 9, 10, 11, 20] [] hN (by kernel_rfl) (by kernel_rfl) ?_
     refine tnU ?_
     refine tS (b := (decide ((IntKind.i64.wrap (v16 + (v25.length : Int))) < 0))) (by kernel_rfl) (fun hc26 => ?_) (fun hc26 => ?_)
     ·replace h := ite_t hc26 h
      cases h
     ·replace h := ite_f hc26 h
      refine WpC.conv (cS [.k [0, 3, 9, 10, 11] []] (by kernel_rfl) (by kernel_rfl)) (WpC.skip ?_)
      refine blockQ_normal ?_
      refine tnU ?_
      exact ⟨(IntKind.i64.wrap (v16 + (v25.length : Int))), h, by kernel_rfl⟩
    ·rintro _ ⟨v23, h, rfl⟩
     unfold slices_Concat_string_string.j24 at h
     refine rS {} [0, 3, 9, 10, 11] [] hN (by kernel_rfl) (by kernel_rfl) ?_
     refine tnU ?_
     exact ⟨n, Nat.lt_succ_self n, v23, (IntKind.i64.wrap (v17 + 1)), h, by kernel_rfl⟩
   ·replace h := ite_f hc22 h
    refine WpC.conv (cS [.k [0, 3] []] (by kernel_rfl) (by kernel_rfl)) (WpC.exit ?_)
    refine thenQ_exit ?_
    have hq := Option.some.inj h
    subst hq
    refine thenQ_exit ?_
    have h := hout21
    refine blockQ_hit ?_
    refine tnU ?_
    exact ⟨v16, h, by kernel_rfl⟩
 ·rintro _ ⟨v1, h, rfl⟩
  unfold slices_Concat_string_string.j15 at h
  refine WpC.seq ?_
  obtain ⟨v2, hv2, h⟩ := bind_some h
  refine rS { its := [(1, .c (COk.ren (slices_Grow_string_string_m0.ok O hO k v1 v2 hv2) (fun n => if n = 60500 then 10001 else n) (injOn_of (by kernel_rfl))))] } [0, 6] [10001] hN (by kernel_rfl) (by kernel_rfl) ?_
  refine tnU ?_
  refine sqJ (fun st' => ∃ v3 : List (List UInt8), slices_Concat_string_string.j4 k v3 = some out ∧ st' = ⟨[(6, .vec 1006 1 0 v3.length)], [(1006, .row 9 .str v3 false)]⟩) ?_ ?_
  ·refine WpC.seq ?_
   refine rS {} [6, 25, 26, 27] [10001] hN (by kernel_rfl) (by kernel_rfl) ?_
   refine tnU ?_
   refine WpC.block ?_
   obtain ⟨o9, hlo9, h⟩ := bind_some h
   have hout10 := h
   clear h
   refine WpC.conv (cS [.rn 10001 1006, .k [6, 25, 26, 27] [1006]] (by kernel_rfl) (by kernel_rfl)) ?_
   refine WpC.loop (U := Un) (fun n st' => ∃ v5 : List (List UInt8), ∃ v6 : Int, slices_Concat_string_string.l7 k a0 n v5 v6 = some o9 ∧ st' = ⟨[(6, .vec 1006 1 0 v5.length), (25, .p (.list (.list .str)) a0), (26, .p I6 ((a0.length : Int) : Int)), (27, .p I6 v6)], [(1006, .row 9 .str v5 false)]⟩) k ⟨v2, 0, hlo9, by kernel_rfl⟩ ?_
   clear hlo9
   rintro (_ | n) _ ⟨v5, v6, h, rfl⟩
   ·cases h
   ·rw [slices_Concat_string_string.l7] at h
    refine WpC.seq ?_
    refine rS {} [6, 25, 26, 27, 28] [1006] hN (by kernel_rfl) (by kernel_rfl) ?_
    refine tnU ?_
    refine WpC.seq ?_
    refine tS (b := (decide (v6 < (a0.length : Int)))) (by kernel_rfl) (fun hc11 => ?_) (fun hc11 => ?_)
    ·replace h := ite_t hc11 h
     refine WpC.conv (cS [.k [6, 25, 26, 27] [1006]] (by kernel_rfl) (by kernel_rfl)) (WpC.skip ?_)
     refine tnU ?_
     refine WpC.seq ?_
     refine WpC.block ?_
     refine WpC.seq ?_
     obtain ⟨v12, hv12, h⟩ := bind_some h
     refine rS { its := [(0, .v (.list .str) hv12)] } [6, 8, 25, 26, 27] [1006] hN (by kernel_rfl) (by kernel_rfl) ?_
     refine tnU ?_
     obtain ⟨g13, h⟩ := if_some h
     refine rS { its := [(2, .g g13)] } [6, 25, 26, 27] [33] hN (by kernel_rfl) (by kernel_rfl) ?_
     refine blockQ_normal ?_
     refine tnU ?_
     refine rSC {} [6, 25, 26, 27] [33] hN (by kernel_rfl) (by kernel_rfl) (cS [.rn 33 1006, .k [6, 25, 26, 27] [1006]] (by kernel_rfl) (by kernel_rfl)) ?_
     refine tnU ?_
     exact ⟨n, Nat.lt_succ_self n, (v5 ++ v12), (IntKind.i64.wrap (v6 + 1)), h, by kernel_rfl⟩
    ·replace h := ite_f hc11 h
     refine WpC.conv (cS [.k [6] [1006]] (by kernel_rfl) (by kernel_rfl)) (WpC.exit ?_)
     refine thenQ_exit ?_
     have hq := Option.some.inj h
     subst hq
     refine thenQ_exit ?_
     have h := hout10
     refine blockQ_hit ?_
     refine tnU ?_
     exact ⟨v5, h, by kernel_rfl⟩
  ·rintro _ ⟨v3, h, rfl⟩
   unfold slices_Concat_string_string.j4 at h
   refine WpC.seq ?_
   refine rS {} [2] [1006] hN (by kernel_rfl) (by kernel_rfl) ?_
   refine tnU ?_
   refine WpC.conv (cS [.rn 1006 60500, .k [2] [60500]] (by kernel_rfl) (by kernel_rfl)) (WpC.ret ?_)
   have hq := Option.some.inj h
   subst hq
   exact eR (by kernel_rfl) (by kernel_rfl)

theorem names_Union.ok (O : Out) (hO : GOkE O) (k : Nat) (a0 : List (List UInt8)) (a1 : List (List UInt8)) (out : List (List UInt8)) (h : names_Union.f k a0 a1 = some out) : COk Un O Tryz.prog 51 { ar := [.p (.list .str) a0, .p (.list .str) a1], r := .vec 60500 1 0 out.length, bs' := [(60500, .row 9 .str out false)], nn := [60500] } := by
 refine cok_of_wp Tryz.func51 rfl (k := 27) rfl (Nat.le_of_ble_eq_true rfl) (namesOk_of (by kernel_rfl)) ?_
 intro B hN
 refine WpC.conv (cvK (b := ⟨[(0, .p (.list .str) a0), (1, .p (.list .str) a1)], []⟩) [0, 1] [] (by kernel_rfl)) ?_
 unfold names_Union.f at h
 refine WpC.seq ?_
 refine rS {} [0, 1] [] hN (by kernel_rfl) (by kernel_rfl) ?_
 refine tnU ?_
 refine WpC.seq ?_
 refine rS {} [0, 1, 5] [] hN (by kernel_rfl) (by kernel_rfl) ?_
 refine tnU ?_
 refine sqJ (fun st' => ∃ v1 : List (List UInt8), names_Union.j2 k v1 = some out ∧ st' = ⟨[(5, .vec 1005 1 0 v1.length)], [(1005, .row 9 .str v1 false)]⟩) ?_ ?_
 ·refine WpC.seq ?_
  obtain ⟨v3, hv3, h⟩ := bind_some h
  refine rS { its := [(3, .c (COk.ren (slices_Concat_string_string.ok O hO k [a0, a1] v3 hv3) (fun n => if n = 60500 then 10001 else n) (injOn_of (by kernel_rfl))))] } [5, 11, 12, 13] [10001] hN (by kernel_rfl) (by kernel_rfl) ?_
  refine tnU ?_
  refine WpC.block ?_
  obtain ⟨o8, hlo8, h⟩ := bind_some h
  have hout9 := h
  clear h
  refine WpC.conv (cS [.th 5 1005 9 .str, .k [5, 11, 12, 13] [1005, 10001]] (by kernel_rfl) (by kernel_rfl)) ?_
  refine WpC.loop (U := Un) (fun n st' => ∃ v4 : List (List UInt8), ∃ v5 : Int, names_Union.l6 k v3 n v4 v5 = some o8 ∧ st' = ⟨[(5, .vec 1005 1 0 v4.length), (11, .vec 10001 1 0 v3.length), (12, .p I6 ((v3.length : Int) : Int)), (13, .p I6 v5)], [(1005, .row 9 .str v4 false), (10001, .row 9 .str v3 false)]⟩) k ⟨[], 0, hlo8, by kernel_rfl⟩ ?_
  clear hlo8
  rintro (_ | n) _ ⟨v4, v5, h, rfl⟩
  ·cases h
  ·rw [names_Union.l6] at h
   refine WpC.seq ?_
   refine rS {} [5, 11, 12, 13, 14] [1005, 10001] hN (by kernel_rfl) (by kernel_rfl) ?_
   refine tnU ?_
   refine WpC.seq ?_
   refine tS (b := (decide (v5 < (v3.length : Int)))) (by kernel_rfl) (fun hc10 => ?_) (fun hc10 => ?_)
   ·replace h := ite_t hc10 h
    refine WpC.conv (cS [.k [5, 11, 12, 13] [1005, 10001]] (by kernel_rfl) (by kernel_rfl)) (WpC.skip ?_)
    refine tnU ?_
    refine sqJ (fun st' => ∃ v11 : List (List UInt8), names_Union.j12 k (names_Union.l6 k v3 n) v3 v5 v11 = some o8 ∧ st' = ⟨[(5, .vec 1005 1 0 v11.length), (11, .vec 10001 1 0 v3.length), (12, .p I6 ((v3.length : Int) : Int)), (13, .p I6 v5)], [(1005, .row 9 .str v11 false), (10001, .row 9 .str v3 false)]⟩) ?_ ?_
    ·refine WpC.block ?_
     refine WpC.seq ?_
     obtain ⟨g13, h⟩ := if_some h
     obtain ⟨v14, hv14, h⟩ := bind_some h
     refine rS { its := [(0, .g g13), (1, .v .str hv14)] } [5, 7, 11, 12, 13] [1005, 10001] hN (by kernel_rfl) (by kernel_rfl) ?_
     refine tnU ?_
     refine WpC.seq ?_
     obtain ⟨v15, hv15, h⟩ := bind_some h
     refine rS { its := [(2, .c (names_Has.ok O hO k v4 v14 v15 hv15))] } [5, 7, 11, 12, 13, 20] [1005, 10001] hN (by kernel_rfl) (by kernel_rfl) ?_
     refine tnU ?_
     refine tS (b := (!v15)) (by kernel_rfl) (fun hc16 => ?_) (fun hc16 => ?_)
     ·replace h := ite_t hc16 h
      obtain ⟨g17, h⟩ := if_some h
      refine rSC { its := [(3, .g g17)] } [5, 11, 12, 13] [24, 10001] hN (by kernel_rfl) (by kernel_rfl) (cS [.rn 24 1005, .k [5, 11, 12, 13] [1005, 10001]] (by kernel_rfl) (by kernel_rfl)) ?_
      refine blockQ_normal ?_
      refine tnU ?_
      exact ⟨(v4 ++ [v14]), h, by kernel_rfl⟩
     ·replace h := ite_f hc16 h
      refine WpC.conv (cS [.k [5, 11, 12, 13] [1005, 10001]] (by kernel_rfl) (by kernel_rfl)) (WpC.skip ?_)
      refine blockQ_normal ?_
      refine tnU ?_
      exact ⟨v4, h, by kernel_rfl⟩
    ·rintro _ ⟨v11, h, rfl⟩
     unfold names_Union.j12 at h
     refine rS {} [5, 11, 12, 13] [1005, 10001] hN (by kernel_rfl) (by kernel_rfl) ?_
     refine tnU ?_
     exact ⟨n, Nat.lt_succ_self n, v11, (IntKind.i64.wrap (v5 + 1)), h, by kernel_rfl⟩
   ·replace h := ite_f hc10 h
    refine WpC.conv (cS [.k [5] [1005]] (by kernel_rfl) (by kernel_rfl)) (WpC.exit ?_)
    refine thenQ_exit ?_
    have hq := Option.some.inj h
    subst hq
    refine thenQ_exit ?_
    have h := hout9
    refine blockQ_hit ?_
    refine tnU ?_
    exact ⟨v4, h, by kernel_rfl⟩
 ·rintro _ ⟨v1, h, rfl⟩
  unfold names_Union.j2 at h
  refine WpC.seq ?_
  refine rS {} [4] [1005] hN (by kernel_rfl) (by kernel_rfl) ?_
  refine tnU ?_
  refine WpC.conv (cS [.rn 1005 60500, .k [4] [60500]] (by kernel_rfl) (by kernel_rfl)) (WpC.ret ?_)
  have hq := Option.some.inj h
  subst hq
  exact eR (by kernel_rfl) (by kernel_rfl)

theorem inst_At_m0.ok (O : Out) (hO : GOkE O) (k : Nat) (a0 : List T_load_Rule) (a1 : List Int) (a2 : Int) (a3 : List UInt8) (out : T_inst_Inst × Bool × Nat) (h : inst_At_m0.f k a0 a1 a2 a3 = some out) : COk Un O Tryz.prog 17 { ar := [.loc 100000 0, .p I6 a2, .p .str a3], r := .tup [.p (.named 5) out.1, .p .bool out.2.1, .p .err out.2.2], bs := [(100000, .box [.vec 100001 7 0 a0.length, .vec 100002 1 0 a1.length]), (100001, .row 62 (.named 3) a0 false), (100002, .row 3 I6 a1 false)], bs' := [(100000, .box [.vec 100001 7 0 a0.length, .vec 100002 1 0 a1.length]), (100001, .row 62 (.named 3) a0 false), (100002, .row 3 I6 a1 false)] } := by
 refine cok_of_wp Tryz.func17 rfl (k := 58) rfl (Nat.le_of_ble_eq_true rfl) (namesOk_of (by kernel_rfl)) ?_
 intro B hN
 refine WpC.conv (cvK (b := ⟨[(0, .loc 100000 0), (1, .p I6 a2), (2, .p .str a3)], [(100000, .box [.vec 100001 7 0 a0.length, .vec 100002 1 0 a1.length]), (100001, .row 62 (.named 3) a0 false), (100002, .row 3 I6 a1 false)]⟩) [0, 1, 2] [100000, 100001, 100002] (by kernel_rfl)) ?_
 unfold inst_At_m0.f at h
 refine WpC.seq ?_
 refine rS { th := [(0, [(3, 10001, 9, .str)])] } [0, 1, 2, 6] [6, 10001, 100000, 100001, 100002] hN (by kernel_rfl) (by kernel_rfl) ?_
 refine tnU ?_
 refine WpC.seq ?_
 obtain ⟨v1, hv1, h⟩ := bind_some h
 refine rS { its := [(2, .c (COk.ren (table_Table_Rule_m0.ok O hO k a0 a1 a2 v1 hv1) (fun n => if n = 100000 then 100000 else if n = 100001 then 100001 else if n = 100002 then 100002 else n) (injOn_of (by kernel_rfl))))] } [0, 1, 2, 6, 9, 10] [6, 9, 10001, 100000, 100001, 100002] hN (by kernel_rfl) (by kernel_rfl) ?_
 refine tnU ?_
 refine WpC.seq ?_
 refine WpC.seq ?_
 refine rS {} [0, 1, 2, 6, 9, 21] [6, 9, 10001, 100000, 100001, 100002] hN (by kernel_rfl) (by kernel_rfl) ?_
 refine tnU ?_
 refine tS (b := (!v1.2)) (by kernel_rfl) (fun hc2 => ?_) (fun hc2 => ?_)
 ·replace h := ite_t hc2 h
  refine WpC.seq ?_
  refine rS { th := [(1, [(3, 10002, 9, .str)])] } [6, 7, 8] [6, 10002, 100000, 100001, 100002] hN (by kernel_rfl) (by kernel_rfl) ?_
  refine tnU ?_
  refine WpC.conv (cS [.uh 6 3 (show ((0) : Nat) = (0) from (by first | rfl | (simp only [upd_length, List.length_replicate, List.length_append]; done) | (simp only [upd_length, List.length_replicate, List.length_append] at *; omega) | omega)), .k [6, 7, 8] [6, 100000, 100001, 100002], .nE 8, .k [6, 7, 8] [6, 100000, 100001, 100002]] (by kernel_rfl) (by kernel_rfl)) (WpC.ret ?_)
  refine thenQ_ret ?_
  have hq := Option.some.inj h
  subst hq
  exact eR (by kernel_rfl) (by kernel_rfl)
 ·replace h := ite_f hc2 h
  refine WpC.conv (cS [.k [0, 1, 2, 6, 9] [6, 9, 10001, 100000, 100001, 100002]] (by kernel_rfl) (by kernel_rfl)) (WpC.skip ?_)
  refine tnU ?_
  refine WpC.seq ?_
  obtain ⟨v3, hv3, h⟩ := bind_some h
  obtain ⟨v4, hv4, h⟩ := bind_some h
  refine rA { its := [(3, .c (COk.ren (table_Table_Kind_m0.ok O hO k a0 a1 a2 v3 hv3) (fun n => if n = 100000 then 100000 else if n = 100001 then 100001 else if n = 100002 then 100002 else n) (injOn_of (by kernel_rfl)))), (5, .c (inst_raw.ok O hO k (T_load_Rule.mk v1.1.f_Targets v1.1.f_Prereqs (T_attr_Attr.mk v1.1.f_Attr.f_Flags v1.1.f_Attr.f_Prog) v1.1.f_Recipe v1.1.f_File v1.1.f_Line) v3 a3 v4 hv4))], th := [(9, [(3, 10003, 9, .str)])] } [1, 6, 11, 12] [6, 11, 10001, 100000, 100001, 100002] hN (by kernel_rfl) (by kernel_rfl) (by kernel_rfl) ?_
  refine tnU ?_
  refine WpC.seq ?_
  refine WpC.seq ?_
  refine rS {} [1, 6, 11, 33] [6, 11, 10001, 100000, 100001, 100002] hN (by kernel_rfl) (by kernel_rfl) ?_
  refine tnU ?_
  refine tS (b := (!v4.2)) (by kernel_rfl) (fun hc5 => ?_) (fun hc5 => ?_)
  ·replace h := ite_t hc5 h
   refine WpC.seq ?_
   refine rS { th := [(1, [(3, 10004, 9, .str)])] } [6, 7, 8] [6, 10004, 100000, 100001, 100002] hN (by kernel_rfl) (by kernel_rfl) ?_
   refine tnU ?_
   refine WpC.conv (cS [.uh 6 3 (show ((0) : Nat) = (0) from (by first | rfl | (simp only [upd_length, List.length_replicate, List.length_append]; done) | (simp only [upd_length, List.length_replicate, List.length_append] at *; omega) | omega)), .k [6, 7, 8] [6, 100000, 100001, 100002], .nE 8, .k [6, 7, 8] [6, 100000, 100001, 100002]] (by kernel_rfl) (by kernel_rfl)) (WpC.ret ?_)
   refine thenQ_ret ?_
   have hq := Option.some.inj h
   subst hq
   exact eR (by kernel_rfl) (by kernel_rfl)
  ·replace h := ite_f hc5 h
   refine WpC.conv (cS [.k [1, 6, 11] [6, 11, 10001, 100000, 100001, 100002]] (by kernel_rfl) (by kernel_rfl)) (WpC.skip ?_)
   refine tnU ?_
   refine WpC.seq ?_
   refine rS {} [1, 6, 11, 13] [6, 11, 10001, 100000, 100001, 100002] hN (by kernel_rfl) (by kernel_rfl) ?_
   refine tnU ?_
   refine sqJ (fun st' => inst_At_m0.j8 k a0 a1 a2 v4 = some out ∧ st' = ⟨[(1, .p I6 a2), (6, .loc 6 0), (11, .loc 11 0)], [(6, .box [.p I6 (0 : Int), .p .str ([] : List UInt8), .p (.list .str) ([] : List (List UInt8)), .vec 10001 1 0 0, .p (.list .str) ([] : List (List UInt8))]), (11, .box [.p I6 v4.1.f_Rule, .p .str v4.1.f_Stem, .p (.list .str) v4.1.f_Subs, .p (.list .str) v4.1.f_Targets, .p (.list .str) v4.1.f_Prereqs]), (10001, .row 9 .str [] false), (100000, .box [.vec 100001 7 0 a0.length, .vec 100002 1 0 a1.length]), (100001, .row 62 (.named 3) a0 false), (100002, .row 3 I6 a1 false)]⟩) ?_ ?_
   ·refine sqJ (fun st' => ∃ v9 : Bool, inst_At_m0.j11 k a0 a1 a2 v4 v9 = some out ∧ st' = ⟨[(1, .p I6 a2), (6, .loc 6 0), (11, .loc 11 0), (44, .p .bool v9)], [(6, .box [.p I6 (0 : Int), .p .str ([] : List UInt8), .p (.list .str) ([] : List (List UInt8)), .vec 10001 1 0 0, .p (.list .str) ([] : List (List UInt8))]), (11, .box [.p I6 v4.1.f_Rule, .p .str v4.1.f_Stem, .p (.list .str) v4.1.f_Subs, .p (.list .str) v4.1.f_Targets, .p (.list .str) v4.1.f_Prereqs]), (10001, .row 9 .str [] false), (100000, .box [.vec 100001 7 0 a0.length, .vec 100002 1 0 a1.length]), (100001, .row 62 (.named 3) a0 false), (100002, .row 3 I6 a1 false)]⟩) ?_ ?_
    ·obtain ⟨v12, hv12, h⟩ := bind_some h
     rcases bool_cases v12 with hc13 | hc13
     ·replace h := ite_t hc13 h
      refine rS { its := [(3, .c (slices_ContainsFunc_string_string_m2.ok O hO k v4.1.f_Targets v12 hv12))], kn := [(39, .t hc13)] } [1, 6, 11, 44] [6, 11, 10001, 100000, 100001, 100002] hN (by kernel_rfl) (by kernel_rfl) ?_
      refine tnU ?_
      exact ⟨true, h, by kernel_rfl⟩
     ·replace h := ite_f hc13 h
      obtain ⟨v14, hv14, h⟩ := bind_some h
      refine rS { its := [(3, .c (slices_ContainsFunc_string_string_m2.ok O hO k v4.1.f_Targets v12 hv12)), (8, .c (slices_ContainsFunc_string_string_m2.ok O hO k v4.1.f_Prereqs v14 hv14))], kn := [(39, .f hc13)] } [1, 6, 11, 44] [6, 11, 10001, 100000, 100001, 100002] hN (by kernel_rfl) (by kernel_rfl) ?_
      refine tnU ?_
      exact ⟨v14, h, by kernel_rfl⟩
    ·rintro _ ⟨v9, h, rfl⟩
     unfold inst_At_m0.j11 at h
     refine tS (b := v9) (by kernel_rfl) (fun hc10 => ?_) (fun hc10 => ?_)
     ·replace h := ite_t hc10 h
      refine WpC.seq ?_
      refine rA { its := [(1, .e 1 (sok_loadG (U := Un) (t := .err) (rs := []) rfl rfl ty_27 rfl rfl (hO.var 3 0 rfl) (fun S w => .err 3)))], th := [(2, [(3, 10007, 9, .str)])] } [6, 7, 8] [6, 10007, 100000, 100001, 100002] hN (by kernel_rfl) (by kernel_rfl) (by kernel_rfl) ?_
      refine tnU ?_
      refine WpC.conv (cS [.uh 6 3 (show ((0) : Nat) = (0) from (by first | rfl | (simp only [upd_length, List.length_replicate, List.length_append]; done) | (simp only [upd_length, List.length_replicate, List.length_append] at *; omega) | omega)), .k [6, 7, 8] [6, 100000, 100001, 100002]] (by kernel_rfl) (by kernel_rfl)) (WpC.ret ?_)
      refine thenQ_ret ?_
      have hq := Option.some.inj h
      subst hq
      exact eR (by kernel_rfl) (by kernel_rfl)
     ·replace h := ite_f hc10 h
      refine WpC.conv (cS [.k [1, 6, 11] [6, 11, 10001, 100000, 100001, 100002]] (by kernel_rfl) (by kernel_rfl)) (WpC.skip ?_)
      refine tnU ?_
      exact ⟨h, by kernel_rfl⟩
   ·rintro _ ⟨h, rfl⟩
    unfold inst_At_m0.j8 at h
    refine WpC.seq ?_
    obtain ⟨v6, hv6, h⟩ := bind_some h
    obtain ⟨v7, hv7, h⟩ := bind_some h
    refine rA { its := [(3, .c (COk.ren (names_Union.ok O hO k v4.1.f_Targets [] v6 hv6) (fun n => if n = 60500 then 10005 else n) (injOn_of (by kernel_rfl)))), (6, .c (COk.ren (names_Union.ok O hO k v4.1.f_Prereqs [] v7 hv7) (fun n => if n = 60500 then 10006 else n) (injOn_of (by kernel_rfl))))] } [6, 11] [6, 11, 10001, 10005, 10006, 100000, 100001, 100002] hN (by kernel_rfl) (by kernel_rfl) (by kernel_rfl) ?_
    refine tnU ?_
    refine WpC.seq ?_
    refine rS {} [6, 7, 8] [6, 10005, 10006, 100000, 100001, 100002] hN (by kernel_rfl) (by kernel_rfl) ?_
    refine tnU ?_
    refine WpC.conv (cS [.fu 6 3, .k [6, 7, 8] [6, 10006, 100000, 100001, 100002], .fu 6 4, .k [6, 7, 8] [6, 100000, 100001, 100002], .nE 8, .k [6, 7, 8] [6, 100000, 100001, 100002]] (by kernel_rfl) (by kernel_rfl)) (WpC.ret ?_)
    have hq := Option.some.inj h
    subst hq
    exact eR (by kernel_rfl) (by kernel_rfl)

end Go.Proofs.YtpcobejkpbalcaaGreatDoor
