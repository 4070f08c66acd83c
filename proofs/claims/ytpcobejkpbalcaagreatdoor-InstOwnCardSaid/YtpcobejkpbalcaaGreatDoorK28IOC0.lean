/- A part of the proof of a given law: IOC0. Own work, printed in part by a program of mine. -/
import Derived.Test.YtpcobejkpbalcaaGreatDoorK28IOF
namespace Go.Proofs.YtpcobejkpbalcaaGreatDoor
open Go Go.AM
set_option linter.unusedVariables false
set_option linter.unusedSimpArgs false
set_option maxRecDepth 100000
set_option maxHeartbeats 4000000
theorem attr_Attr_Has.ok (O : Out) (hO : GOkE O) (k : Nat) (a0 : T_attr_Attr) (a1 : Int) (out : Bool) (h : attr_Attr_Has.f k a0 a1 = some out) : COk Un O Tryz.prog 69 { ar := [.p (.named 4) a0, .p I6 a1], r := .p .bool out } := by
 refine cok_of_wp Tryz.func69 rfl (k := 11) rfl (Nat.le_of_ble_eq_true rfl) (namesOk_pure rfl rfl rfl rfl) ?_
 intro B hN
 refine WpC.conv (cvK (b := ⟨[(0, .p (.named 4) a0), (1, .p I6 a1)], []⟩) [0, 1] [] (by kernel_rfl)) ?_
 unfold attr_Attr_Has.f at h
 refine WpC.seq ?_
 refine rS {} [1, 2] [2] hN (by kernel_rfl) (by kernel_rfl) ?_
 refine tnU ?_
 refine WpC.seq ?_
 refine rS {} [4] [] hN (by kernel_rfl) (by kernel_rfl) ?_
 refine tnU ?_
 refine WpC.ret ?_
 have hq := Option.some.inj h
 subst hq
 exact eR (by kernel_rfl) (by kernel_rfl)

theorem stem_wild.ok (O : Out) (hO : GOkE O) (k : Nat) (a0 : Int) (out : Bool) (h : stem_wild.f k a0 = some out) : COk Un O Tryz.prog 101 { ar := [.p (.int .u8) a0], r := .p .bool out } := by
 refine cok_of_wp Tryz.func101 rfl (k := 6) rfl (Nat.le_of_ble_eq_true rfl) (namesOk_pure rfl rfl rfl rfl) ?_
 intro B hN
 refine WpC.conv (cvK (b := ⟨[(0, .p (.int .u8) a0)], []⟩) [0] [] (by kernel_rfl)) ?_
 unfold stem_wild.f at h
 refine WpC.seq ?_
 refine rS {} [0] [] hN (by kernel_rfl) (by kernel_rfl) ?_
 refine tnU ?_
 refine WpC.seq ?_
 obtain ⟨v1, hv1, h⟩ := bind_some h
 refine rS { its := [(1, .c (pIndexByte.ok O hO k ([37, 38] : List UInt8) a0 v1 hv1))] } [2] [] hN (by kernel_rfl) (by kernel_rfl) ?_
 refine tnU ?_
 refine WpC.ret ?_
 have hq := Option.some.inj h
 subst hq
 exact eR (by kernel_rfl) (by kernel_rfl)

theorem stem_Wild.ok (O : Out) (hO : GOkE O) (k : Nat) (a0 : List UInt8) (out : Int) (h : stem_Wild.f k a0 = some out) : COk Un O Tryz.prog 75 { ar := [.p .str a0], r := .p I6 out } := by
 refine cok_of_wp Tryz.func75 rfl (k := 15) rfl (Nat.le_of_ble_eq_true rfl) (namesOk_pure rfl rfl rfl rfl) ?_
 intro B hN
 refine WpC.conv (cvK (b := ⟨[(0, .p .str a0)], []⟩) [0] [] (by kernel_rfl)) ?_
 unfold stem_Wild.f at h
 refine WpC.seq ?_
 refine rS {} [0] [] hN (by kernel_rfl) (by kernel_rfl) ?_
 refine tnU ?_
 refine sqJ (fun st' => stem_Wild.j1 k = some out ∧ st' = ⟨[], []⟩) ?_ ?_
 ·refine WpC.seq ?_
  refine rS {} [0, 5, 6] [] hN (by kernel_rfl) (by kernel_rfl) ?_
  refine tnU ?_
  refine WpC.block ?_
  obtain ⟨o4, hlo4, h⟩ := bind_some h
  have hout5 := h
  clear h
  refine WpC.loop (U := Un) (fun n st' => ∃ v2 : Int, stem_Wild.l3 k a0 n v2 = some o4 ∧ st' = ⟨[(0, .p .str a0), (5, .p I6 ((a0.length : Int) : Int)), (6, .p I6 v2)], []⟩) k ⟨0, hlo4, by kernel_rfl⟩ ?_
  clear hlo4
  rintro (_ | n) _ ⟨v2, h, rfl⟩
  ·cases h
  ·rw [stem_Wild.l3] at h
   refine WpC.seq ?_
   refine rS {} [0, 5, 6, 7] [] hN (by kernel_rfl) (by kernel_rfl) ?_
   refine tnU ?_
   refine WpC.seq ?_
   refine tS (b := (decide (v2 < (a0.length : Int)))) (by kernel_rfl) (fun hc6 => ?_) (fun hc6 => ?_)
   ·replace h := ite_t hc6 h
    refine WpC.conv (cS [.k [0, 5, 6] []] (by kernel_rfl) (by kernel_rfl)) (WpC.skip ?_)
    refine tnU ?_
    refine WpC.seq ?_
    refine WpC.block ?_
    refine WpC.seq ?_
    refine rS {} [0, 3, 5, 6] [] hN (by kernel_rfl) (by kernel_rfl) ?_
    refine tnU ?_
    refine WpC.seq ?_
    obtain ⟨v7, hv7, h⟩ := bind_some h
    obtain ⟨v8, hv8, h⟩ := bind_some h
    refine rS { its := [(2, .u hv7), (3, .c (stem_wild.ok O hO k (v7.toNat : Int) v8 hv8))] } [0, 3, 5, 6, 12] [] hN (by kernel_rfl) (by kernel_rfl) ?_
    refine tnU ?_
    refine tS (b := v8) (by kernel_rfl) (fun hc9 => ?_) (fun hc9 => ?_)
    ·replace h := ite_t hc9 h
     refine WpC.seq ?_
     refine rS {} [2] [] hN (by kernel_rfl) (by kernel_rfl) ?_
     refine tnU ?_
     refine WpC.ret ?_
     refine blockQ_ret ?_
     refine thenQ_ret ?_
     have hq := Option.some.inj h
     subst hq
     refine thenQ_ret ?_
     have h := hout5
     refine blockQ_ret ?_
     refine thenQ_ret ?_
     have hq := Option.some.inj h
     subst hq
     exact eR (by kernel_rfl) (by kernel_rfl)
    ·replace h := ite_f hc9 h
     refine WpC.conv (cS [.k [0, 5, 6] []] (by kernel_rfl) (by kernel_rfl)) (WpC.skip ?_)
     refine blockQ_normal ?_
     refine tnU ?_
     refine rS {} [0, 5, 6] [] hN (by kernel_rfl) (by kernel_rfl) ?_
     refine tnU ?_
     exact ⟨n, Nat.lt_succ_self n, (IntKind.i64.wrap (v2 + 1)), h, by kernel_rfl⟩
   ·replace h := ite_f hc6 h
    refine WpC.conv (cS [.k [] []] (by kernel_rfl) (by kernel_rfl)) (WpC.exit ?_)
    refine thenQ_exit ?_
    have hq := Option.some.inj h
    subst hq
    refine thenQ_exit ?_
    have h := hout5
    refine blockQ_hit ?_
    refine tnU ?_
    exact ⟨h, by kernel_rfl⟩
 ·rintro _ ⟨h, rfl⟩
  unfold stem_Wild.j1 at h
  refine WpC.seq ?_
  refine rS {} [2] [] hN (by kernel_rfl) (by kernel_rfl) ?_
  refine tnU ?_
  refine WpC.ret ?_
  have hq := Option.some.inj h
  subst hq
  exact eR (by kernel_rfl) (by kernel_rfl)

theorem table_Kind_1.ok (O : Out) (hO : GOkE O) (k : Nat) (a0 : List UInt8) (out : Bool) (h : table_Kind_1.f k a0 = some out) : COk Un O Tryz.prog 74 { ar := [.p .str a0], r := .p .bool out } := by
 refine cok_of_wp Tryz.func74 rfl (k := 6) rfl (Nat.le_of_ble_eq_true rfl) (namesOk_pure rfl rfl rfl rfl) ?_
 intro B hN
 refine WpC.conv (cvK (b := ⟨[(0, .p .str a0)], []⟩) [0] [] (by kernel_rfl)) ?_
 unfold table_Kind_1.f at h
 refine WpC.seq ?_
 refine rS {} [0] [] hN (by kernel_rfl) (by kernel_rfl) ?_
 refine tnU ?_
 refine WpC.seq ?_
 obtain ⟨v1, hv1, h⟩ := bind_some h
 refine rS { its := [(1, .c (stem_Wild.ok O hO k a0 v1 hv1))] } [2] [] hN (by kernel_rfl) (by kernel_rfl) ?_
 refine tnU ?_
 refine WpC.ret ?_
 have hq := Option.some.inj h
 subst hq
 exact eR (by kernel_rfl) (by kernel_rfl)

theorem slices_IndexFunc_string_string_m0.ok (O : Out) (hO : GOkE O) (k : Nat) (a0 : List (List UInt8)) (out : Int) (h : slices_IndexFunc_string_string_m0.f k a0 = some out) : COk Un O Tryz.prog 86 { ar := [.p (.list .str) a0, .clo 74 []], r := .p I6 out } := by
 refine cok_of_wp Tryz.func86 rfl (k := 19) rfl (Nat.le_of_ble_eq_true rfl) (namesOk_pure rfl rfl rfl rfl) ?_
 intro B hN
 refine WpC.conv (cvK (b := ⟨[(0, .p (.list .str) a0), (1, .clo 74 [])], []⟩) [0, 1] [] (by kernel_rfl)) ?_
 unfold slices_IndexFunc_string_string_m0.f at h
 refine WpC.seq ?_
 refine rS {} [0, 1] [] hN (by kernel_rfl) (by kernel_rfl) ?_
 refine tnU ?_
 refine sqJ (fun st' => slices_IndexFunc_string_string_m0.j1 k = some out ∧ st' = ⟨[], []⟩) ?_ ?_
 ·refine WpC.seq ?_
  refine rS {} [0, 1, 7, 8] [] hN (by kernel_rfl) (by kernel_rfl) ?_
  refine tnU ?_
  refine WpC.block ?_
  obtain ⟨o4, hlo4, h⟩ := bind_some h
  have hout5 := h
  clear h
  refine WpC.loop (U := Un) (fun n st' => ∃ v2 : Int, slices_IndexFunc_string_string_m0.l3 k a0 n v2 = some o4 ∧ st' = ⟨[(0, .p (.list .str) a0), (1, .clo 74 []), (7, .p I6 ((a0.length : Int) : Int)), (8, .p I6 v2)], []⟩) k ⟨0, hlo4, by kernel_rfl⟩ ?_
  clear hlo4
  rintro (_ | n) _ ⟨v2, h, rfl⟩
  ·cases h
  ·rw [slices_IndexFunc_string_string_m0.l3] at h
   refine WpC.seq ?_
   refine rS {} [0, 1, 7, 8, 9] [] hN (by kernel_rfl) (by kernel_rfl) ?_
   refine tnU ?_
   refine WpC.seq ?_
   refine tS (b := (decide (v2 < (a0.length : Int)))) (by kernel_rfl) (fun hc6 => ?_) (fun hc6 => ?_)
   ·replace h := ite_t hc6 h
    refine WpC.conv (cS [.k [0, 1, 7, 8] []] (by kernel_rfl) (by kernel_rfl)) (WpC.skip ?_)
    refine tnU ?_
    refine WpC.seq ?_
    refine WpC.block ?_
    refine WpC.seq ?_
    refine rS {} [0, 1, 5, 7, 8] [] hN (by kernel_rfl) (by kernel_rfl) ?_
    refine tnU ?_
    refine WpC.seq ?_
    obtain ⟨v7, hv7, h⟩ := bind_some h
    obtain ⟨v8, hv8, h⟩ := bind_some h
    refine rS { its := [(3, .v .str hv7), (5, .c (table_Kind_1.ok O hO k v7 v8 hv8))] } [0, 1, 5, 7, 8, 16] [] hN (by kernel_rfl) (by kernel_rfl) ?_
    refine tnU ?_
    refine tS (b := v8) (by kernel_rfl) (fun hc9 => ?_) (fun hc9 => ?_)
    ·replace h := ite_t hc9 h
     refine WpC.seq ?_
     refine rS {} [4] [] hN (by kernel_rfl) (by kernel_rfl) ?_
     refine tnU ?_
     refine WpC.ret ?_
     refine blockQ_ret ?_
     refine thenQ_ret ?_
     have hq := Option.some.inj h
     subst hq
     refine thenQ_ret ?_
     have h := hout5
     refine blockQ_ret ?_
     refine thenQ_ret ?_
     have hq := Option.some.inj h
     subst hq
     exact eR (by kernel_rfl) (by kernel_rfl)
    ·replace h := ite_f hc9 h
     refine WpC.conv (cS [.k [0, 1, 7, 8] []] (by kernel_rfl) (by kernel_rfl)) (WpC.skip ?_)
     refine blockQ_normal ?_
     refine tnU ?_
     refine rS {} [0, 1, 7, 8] [] hN (by kernel_rfl) (by kernel_rfl) ?_
     refine tnU ?_
     exact ⟨n, Nat.lt_succ_self n, (IntKind.i64.wrap (v2 + 1)), h, by kernel_rfl⟩
   ·replace h := ite_f hc6 h
    refine WpC.conv (cS [.k [] []] (by kernel_rfl) (by kernel_rfl)) (WpC.exit ?_)
    refine thenQ_exit ?_
    have hq := Option.some.inj h
    subst hq
    refine thenQ_exit ?_
    have h := hout5
    refine blockQ_hit ?_
    refine tnU ?_
    exact ⟨h, by kernel_rfl⟩
 ·rintro _ ⟨h, rfl⟩
  unfold slices_IndexFunc_string_string_m0.j1 at h
  refine WpC.seq ?_
  refine rS {} [4] [] hN (by kernel_rfl) (by kernel_rfl) ?_
  refine tnU ?_
  refine WpC.ret ?_
  have hq := Option.some.inj h
  subst hq
  exact eR (by kernel_rfl) (by kernel_rfl)

theorem slices_ContainsFunc_string_string_m0.ok (O : Out) (hO : GOkE O) (k : Nat) (a0 : List (List UInt8)) (out : Bool) (h : slices_ContainsFunc_string_string_m0.f k a0 = some out) : COk Un O Tryz.prog 50 { ar := [.p (.list .str) a0, .clo 74 []], r := .p .bool out } := by
 refine cok_of_wp Tryz.func50 rfl (k := 9) rfl (Nat.le_of_ble_eq_true rfl) (namesOk_pure rfl rfl rfl rfl) ?_
 intro B hN
 refine WpC.conv (cvK (b := ⟨[(0, .p (.list .str) a0), (1, .clo 74 [])], []⟩) [0, 1] [] (by kernel_rfl)) ?_
 unfold slices_ContainsFunc_string_string_m0.f at h
 refine WpC.seq ?_
 refine rS {} [0, 1] [] hN (by kernel_rfl) (by kernel_rfl) ?_
 refine tnU ?_
 refine WpC.seq ?_
 obtain ⟨v1, hv1, h⟩ := bind_some h
 refine rS { its := [(2, .c (slices_IndexFunc_string_string_m0.ok O hO k a0 v1 hv1))] } [4] [] hN (by kernel_rfl) (by kernel_rfl) ?_
 refine tnU ?_
 refine WpC.ret ?_
 have hq := Option.some.inj h
 subst hq
 exact eR (by kernel_rfl) (by kernel_rfl)

theorem table_Kind.ok (O : Out) (hO : GOkE O) (k : Nat) (a0 : T_load_Rule) (out : Int) (h : table_Kind.f k a0 = some out) : COk Un O Tryz.prog 38 { ar := [.p (.named 3) a0], r := .p I6 out } := by
 refine cok_of_wp Tryz.func38 rfl (k := 13) rfl (Nat.le_of_ble_eq_true rfl) (namesOk_pure rfl rfl rfl rfl) ?_
 intro B hN
 refine WpC.conv (cvK (b := ⟨[(0, .p (.named 3) a0)], []⟩) [0] [] (by kernel_rfl)) ?_
 unfold table_Kind.f at h
 refine WpC.seq ?_
 refine rS {} [1] [1] hN (by kernel_rfl) (by kernel_rfl) ?_
 refine tnU ?_
 refine WpC.seq ?_
 refine rS {} [1, 3] [1] hN (by kernel_rfl) (by kernel_rfl) ?_
 refine tnU ?_
 refine WpC.seq ?_
 refine WpC.block ?_
 refine WpC.seq ?_
 obtain ⟨v1, hv1, h⟩ := bind_some h
 refine rS { its := [(2, .c (attr_Attr_Has.ok O hO k (T_attr_Attr.mk a0.f_Attr.f_Flags a0.f_Attr.f_Prog) 32 v1 hv1))] } [1, 3, 4] [1] hN (by kernel_rfl) (by kernel_rfl) ?_
 refine tnU ?_
 refine tS (b := v1) (by kernel_rfl) (fun hc2 => ?_) (fun hc2 => ?_)
 ·replace h := ite_t hc2 h
  refine WpC.seq ?_
  refine rS {} [2] [] hN (by kernel_rfl) (by kernel_rfl) ?_
  refine tnU ?_
  refine WpC.ret ?_
  refine blockQ_ret ?_
  refine thenQ_ret ?_
  have hq := Option.some.inj h
  subst hq
  exact eR (by kernel_rfl) (by kernel_rfl)
 ·replace h := ite_f hc2 h
  refine WpC.seq ?_
  obtain ⟨v3, hv3, h⟩ := bind_some h
  refine rS { its := [(3, .c (slices_ContainsFunc_string_string_m0.ok O hO k a0.f_Targets v3 hv3))] } [8] [] hN (by kernel_rfl) (by kernel_rfl) ?_
  refine tnU ?_
  refine tS (b := v3) (by kernel_rfl) (fun hc4 => ?_) (fun hc4 => ?_)
  ·replace h := ite_t hc4 h
   refine WpC.seq ?_
   refine rS {} [2] [] hN (by kernel_rfl) (by kernel_rfl) ?_
   refine tnU ?_
   refine WpC.ret ?_
   refine blockQ_ret ?_
   refine thenQ_ret ?_
   have hq := Option.some.inj h
   subst hq
   exact eR (by kernel_rfl) (by kernel_rfl)
  ·replace h := ite_f hc4 h
   refine WpC.conv (cS [.k [] []] (by kernel_rfl) (by kernel_rfl)) (WpC.skip ?_)
   refine blockQ_normal ?_
   refine tnU ?_
   refine WpC.seq ?_
   refine rS {} [2] [] hN (by kernel_rfl) (by kernel_rfl) ?_
   refine tnU ?_
   refine WpC.ret ?_
   have hq := Option.some.inj h
   subst hq
   exact eR (by kernel_rfl) (by kernel_rfl)

theorem names_Right.ok (O : Out) (hO : GOkE O) (k : Nat) (a0 : List UInt8) (out : Bool) (h : names_Right.f k a0 = some out) : COk Un O Tryz.prog 49 { ar := [.p .str a0], r := .p .bool out } := by
 refine cok_of_wp Tryz.func49 rfl (k := 28) rfl (Nat.le_of_ble_eq_true rfl) (namesOk_pure rfl rfl rfl rfl) ?_
 intro B hN
 refine WpC.conv (cvK (b := ⟨[(0, .p .str a0)], []⟩) [0] [] (by kernel_rfl)) ?_
 unfold names_Right.f at h
 refine WpC.seq ?_
 refine rS {} [0] [] hN (by kernel_rfl) (by kernel_rfl) ?_
 refine tnU ?_
 refine sqJ (fun st' => names_Right.j16 k a0 = some out ∧ st' = ⟨[(0, .p .str a0)], []⟩) ?_ ?_
 ·refine sqJ (fun st' => ∃ v17 : Bool, names_Right.j19 k a0 v17 = some out ∧ st' = ⟨[(0, .p .str a0), (11, .p .bool v17)], []⟩) ?_ ?_
  ·rcases bool_cases (decide ((a0.length : Int) < 1)) with hc20 | hc20
   ·replace h := ite_t hc20 h
    refine rS { kn := [(7, .t hc20)] } [0, 11] [] hN (by kernel_rfl) (by kernel_rfl) ?_
    refine tnU ?_
    exact ⟨true, h, by kernel_rfl⟩
   ·replace h := ite_f hc20 h
    refine rS { kn := [(7, .f hc20)] } [0, 11] [] hN (by kernel_rfl) (by kernel_rfl) ?_
    refine tnU ?_
    exact ⟨(decide ((a0.length : Int) > 40)), h, by kernel_rfl⟩
  ·rintro _ ⟨v17, h, rfl⟩
   unfold names_Right.j19 at h
   refine tS (b := v17) (by kernel_rfl) (fun hc18 => ?_) (fun hc18 => ?_)
   ·replace h := ite_t hc18 h
    refine WpC.seq ?_
    refine rS {} [2] [] hN (by kernel_rfl) (by kernel_rfl) ?_
    refine tnU ?_
    refine WpC.ret ?_
    refine thenQ_ret ?_
    have hq := Option.some.inj h
    subst hq
    exact eR (by kernel_rfl) (by kernel_rfl)
   ·replace h := ite_f hc18 h
    refine WpC.conv (cS [.k [0] []] (by kernel_rfl) (by kernel_rfl)) (WpC.skip ?_)
    refine tnU ?_
    exact ⟨h, by kernel_rfl⟩
 ·rintro _ ⟨h, rfl⟩
  unfold names_Right.j16 at h
  refine sqJ (fun st' => names_Right.j1 k = some out ∧ st' = ⟨[], []⟩) ?_ ?_
  ·refine WpC.seq ?_
   refine rS {} [0, 13, 14] [] hN (by kernel_rfl) (by kernel_rfl) ?_
   refine tnU ?_
   refine WpC.block ?_
   obtain ⟨o4, hlo4, h⟩ := bind_some h
   have hout5 := h
   clear h
   refine WpC.loop (U := Un) (fun n st' => ∃ v2 : Int, names_Right.l3 k a0 n v2 = some o4 ∧ st' = ⟨[(0, .p .str a0), (13, .p I6 ((a0.length : Int) : Int)), (14, .p I6 v2)], []⟩) k ⟨0, hlo4, by kernel_rfl⟩ ?_
   clear hlo4
   rintro (_ | n) _ ⟨v2, h, rfl⟩
   ·cases h
   ·rw [names_Right.l3] at h
    refine WpC.seq ?_
    refine rS {} [0, 13, 14, 15] [] hN (by kernel_rfl) (by kernel_rfl) ?_
    refine tnU ?_
    refine WpC.seq ?_
    refine tS (b := (decide (v2 < (a0.length : Int)))) (by kernel_rfl) (fun hc6 => ?_) (fun hc6 => ?_)
    ·replace h := ite_t hc6 h
     refine WpC.conv (cS [.k [0, 13, 14] []] (by kernel_rfl) (by kernel_rfl)) (WpC.skip ?_)
     refine tnU ?_
     refine sqJ (fun st' => names_Right.j7 k (names_Right.l3 k a0 n) a0 v2 = some o4 ∧ st' = ⟨[(0, .p .str a0), (13, .p I6 ((a0.length : Int) : Int)), (14, .p I6 v2)], []⟩) ?_ ?_
     ·refine WpC.block ?_
      refine WpC.seq ?_
      refine rS {} [0, 3, 13, 14] [] hN (by kernel_rfl) (by kernel_rfl) ?_
      refine tnU ?_
      refine sqJ (fun st' => ∃ v8 : Bool, names_Right.j10 k (names_Right.l3 k a0 n) a0 v2 v8 = some o4 ∧ st' = ⟨[(0, .p .str a0), (13, .p I6 ((a0.length : Int) : Int)), (14, .p I6 v2), (26, .p .bool v8)], []⟩) ?_ ?_
      ·obtain ⟨v11, hv11, h⟩ := bind_some h
       rcases bool_cases (decide ((v11.toNat : Int) < 33)) with hc12 | hc12
       ·replace h := ite_t hc12 h
        refine rS { its := [(2, .u hv11)], kn := [(21, .t hc12)] } [0, 13, 14, 26] [] hN (by kernel_rfl) (by kernel_rfl) ?_
        refine tnU ?_
        exact ⟨true, h, by kernel_rfl⟩
       ·replace h := ite_f hc12 h
        obtain ⟨v13, hv13, h⟩ := bind_some h
        refine rS { its := [(2, .u hv11), (7, .u hv13)], kn := [(21, .f hc12)] } [0, 13, 14, 26] [] hN (by kernel_rfl) (by kernel_rfl) ?_
        refine tnU ?_
        exact ⟨(decide ((v13.toNat : Int) > 126)), h, by kernel_rfl⟩
      ·rintro _ ⟨v8, h, rfl⟩
       unfold names_Right.j10 at h
       refine tS (b := v8) (by kernel_rfl) (fun hc9 => ?_) (fun hc9 => ?_)
       ·replace h := ite_t hc9 h
        refine WpC.seq ?_
        refine rS {} [2] [] hN (by kernel_rfl) (by kernel_rfl) ?_
        refine tnU ?_
        refine WpC.ret ?_
        refine blockQ_ret ?_
        refine thenQ_ret ?_
        have hq := Option.some.inj h
        subst hq
        refine thenQ_ret ?_
        have h := hout5
        refine blockQ_ret ?_
        refine thenQ_ret ?_
        have hq := Option.some.inj h
        subst hq
        exact eR (by kernel_rfl) (by kernel_rfl)
       ·replace h := ite_f hc9 h
        refine WpC.conv (cS [.k [0, 13, 14] []] (by kernel_rfl) (by kernel_rfl)) (WpC.skip ?_)
        refine blockQ_normal ?_
        refine tnU ?_
        exact ⟨h, by kernel_rfl⟩
     ·rintro _ ⟨h, rfl⟩
      unfold names_Right.j7 at h
      refine rS {} [0, 13, 14] [] hN (by kernel_rfl) (by kernel_rfl) ?_
      refine tnU ?_
      exact ⟨n, Nat.lt_succ_self n, (IntKind.i64.wrap (v2 + 1)), h, by kernel_rfl⟩
    ·replace h := ite_f hc6 h
     refine WpC.conv (cS [.k [] []] (by kernel_rfl) (by kernel_rfl)) (WpC.exit ?_)
     refine thenQ_exit ?_
     have hq := Option.some.inj h
     subst hq
     refine thenQ_exit ?_
     have h := hout5
     refine blockQ_hit ?_
     refine tnU ?_
     exact ⟨h, by kernel_rfl⟩
  ·rintro _ ⟨h, rfl⟩
   unfold names_Right.j1 at h
   refine WpC.seq ?_
   refine rS {} [2] [] hN (by kernel_rfl) (by kernel_rfl) ?_
   refine tnU ?_
   refine WpC.ret ?_
   have hq := Option.some.inj h
   subst hq
   exact eR (by kernel_rfl) (by kernel_rfl)

theorem table_check_1.ok (O : Out) (hO : GOkE O) (k : Nat) (a0 : List UInt8) (out : Bool) (h : table_check_1.f k a0 = some out) : COk Un O Tryz.prog 104 { ar := [.p .str a0], r := .p .bool out } := by
 refine cok_of_wp Tryz.func104 rfl (k := 6) rfl (Nat.le_of_ble_eq_true rfl) (namesOk_pure rfl rfl rfl rfl) ?_
 intro B hN
 refine WpC.conv (cvK (b := ⟨[(0, .p .str a0)], []⟩) [0] [] (by kernel_rfl)) ?_
 unfold table_check_1.f at h
 refine WpC.seq ?_
 refine rS {} [0] [] hN (by kernel_rfl) (by kernel_rfl) ?_
 refine tnU ?_
 refine WpC.seq ?_
 obtain ⟨v1, hv1, h⟩ := bind_some h
 refine rS { its := [(1, .c (names_Right.ok O hO k a0 v1 hv1))] } [2] [] hN (by kernel_rfl) (by kernel_rfl) ?_
 refine tnU ?_
 refine WpC.ret ?_
 have hq := Option.some.inj h
 subst hq
 exact eR (by kernel_rfl) (by kernel_rfl)

theorem slices_IndexFunc_string_string_m1.ok (O : Out) (hO : GOkE O) (k : Nat) (a0 : List (List UInt8)) (out : Int) (h : slices_IndexFunc_string_string_m1.f k a0 = some out) : COk Un O Tryz.prog 86 { ar := [.p (.list .str) a0, .clo 104 []], r := .p I6 out } := by
 refine cok_of_wp Tryz.func86 rfl (k := 19) rfl (Nat.le_of_ble_eq_true rfl) (namesOk_pure rfl rfl rfl rfl) ?_
 intro B hN
 refine WpC.conv (cvK (b := ⟨[(0, .p (.list .str) a0), (1, .clo 104 [])], []⟩) [0, 1] [] (by kernel_rfl)) ?_
 unfold slices_IndexFunc_string_string_m1.f at h
 refine WpC.seq ?_
 refine rS {} [0, 1] [] hN (by kernel_rfl) (by kernel_rfl) ?_
 refine tnU ?_
 refine sqJ (fun st' => slices_IndexFunc_string_string_m1.j1 k = some out ∧ st' = ⟨[], []⟩) ?_ ?_
 ·refine WpC.seq ?_
  refine rS {} [0, 1, 7, 8] [] hN (by kernel_rfl) (by kernel_rfl) ?_
  refine tnU ?_
  refine WpC.block ?_
  obtain ⟨o4, hlo4, h⟩ := bind_some h
  have hout5 := h
  clear h
  refine WpC.loop (U := Un) (fun n st' => ∃ v2 : Int, slices_IndexFunc_string_string_m1.l3 k a0 n v2 = some o4 ∧ st' = ⟨[(0, .p (.list .str) a0), (1, .clo 104 []), (7, .p I6 ((a0.length : Int) : Int)), (8, .p I6 v2)], []⟩) k ⟨0, hlo4, by kernel_rfl⟩ ?_
  clear hlo4
  rintro (_ | n) _ ⟨v2, h, rfl⟩
  ·cases h
  ·rw [slices_IndexFunc_string_string_m1.l3] at h
   refine WpC.seq ?_
   refine rS {} [0, 1, 7, 8, 9] [] hN (by kernel_rfl) (by kernel_rfl) ?_
   refine tnU ?_
   refine WpC.seq ?_
   refine tS (b := (decide (v2 < (a0.length : Int)))) (by kernel_rfl) (fun hc6 => ?_) (fun hc6 => ?_)
   ·replace h := ite_t hc6 h
    refine WpC.conv (cS [.k [0, 1, 7, 8] []] (by kernel_rfl) (by kernel_rfl)) (WpC.skip ?_)
    refine tnU ?_
    refine WpC.seq ?_
    refine WpC.block ?_
    refine WpC.seq ?_
    refine rS {} [0, 1, 5, 7, 8] [] hN (by kernel_rfl) (by kernel_rfl) ?_
    refine tnU ?_
    refine WpC.seq ?_
    obtain ⟨v7, hv7, h⟩ := bind_some h
    obtain ⟨v8, hv8, h⟩ := bind_some h
    refine rS { its := [(3, .v .str hv7), (5, .c (table_check_1.ok O hO k v7 v8 hv8))] } [0, 1, 5, 7, 8, 16] [] hN (by kernel_rfl) (by kernel_rfl) ?_
    refine tnU ?_
    refine tS (b := v8) (by kernel_rfl) (fun hc9 => ?_) (fun hc9 => ?_)
    ·replace h := ite_t hc9 h
     refine WpC.seq ?_
     refine rS {} [4] [] hN (by kernel_rfl) (by kernel_rfl) ?_
     refine tnU ?_
     refine WpC.ret ?_
     refine blockQ_ret ?_
     refine thenQ_ret ?_
     have hq := Option.some.inj h
     subst hq
     refine thenQ_ret ?_
     have h := hout5
     refine blockQ_ret ?_
     refine thenQ_ret ?_
     have hq := Option.some.inj h
     subst hq
     exact eR (by kernel_rfl) (by kernel_rfl)
    ·replace h := ite_f hc9 h
     refine WpC.conv (cS [.k [0, 1, 7, 8] []] (by kernel_rfl) (by kernel_rfl)) (WpC.skip ?_)
     refine blockQ_normal ?_
     refine tnU ?_
     refine rS {} [0, 1, 7, 8] [] hN (by kernel_rfl) (by kernel_rfl) ?_
     refine tnU ?_
     exact ⟨n, Nat.lt_succ_self n, (IntKind.i64.wrap (v2 + 1)), h, by kernel_rfl⟩
   ·replace h := ite_f hc6 h
    refine WpC.conv (cS [.k [] []] (by kernel_rfl) (by kernel_rfl)) (WpC.exit ?_)
    refine thenQ_exit ?_
    have hq := Option.some.inj h
    subst hq
    refine thenQ_exit ?_
    have h := hout5
    refine blockQ_hit ?_
    refine tnU ?_
    exact ⟨h, by kernel_rfl⟩
 ·rintro _ ⟨h, rfl⟩
  unfold slices_IndexFunc_string_string_m1.j1 at h
  refine WpC.seq ?_
  refine rS {} [4] [] hN (by kernel_rfl) (by kernel_rfl) ?_
  refine tnU ?_
  refine WpC.ret ?_
  have hq := Option.some.inj h
  subst hq
  exact eR (by kernel_rfl) (by kernel_rfl)

theorem slices_ContainsFunc_string_string_m1.ok (O : Out) (hO : GOkE O) (k : Nat) (a0 : List (List UInt8)) (out : Bool) (h : slices_ContainsFunc_string_string_m1.f k a0 = some out) : COk Un O Tryz.prog 50 { ar := [.p (.list .str) a0, .clo 104 []], r := .p .bool out } := by
 refine cok_of_wp Tryz.func50 rfl (k := 9) rfl (Nat.le_of_ble_eq_true rfl) (namesOk_pure rfl rfl rfl rfl) ?_
 intro B hN
 refine WpC.conv (cvK (b := ⟨[(0, .p (.list .str) a0), (1, .clo 104 [])], []⟩) [0, 1] [] (by kernel_rfl)) ?_
 unfold slices_ContainsFunc_string_string_m1.f at h
 refine WpC.seq ?_
 refine rS {} [0, 1] [] hN (by kernel_rfl) (by kernel_rfl) ?_
 refine tnU ?_
 refine WpC.seq ?_
 obtain ⟨v1, hv1, h⟩ := bind_some h
 refine rS { its := [(2, .c (slices_IndexFunc_string_string_m1.ok O hO k a0 v1 hv1))] } [4] [] hN (by kernel_rfl) (by kernel_rfl) ?_
 refine tnU ?_
 refine WpC.ret ?_
 have hq := Option.some.inj h
 subst hq
 exact eR (by kernel_rfl) (by kernel_rfl)

theorem rex_parser_next_m0.ok (O : Out) (hO : GOkE O) (k : Nat) (a0 : List UInt8) (a1 : Int) (a2 : Int) (a3 : Bool) (out : Int × Bool) (h : rex_parser_next_m0.f k a0 a1 a2 a3 = some out) : COk Un O Tryz.prog 177 { ar := [.loc 100000 0], r := .tup [.p (.int .u8) out.1, .p .bool out.2], bs := [(100000, .box [.p .str a0, .p I6 a1, .p I6 a2, .p .bool a3])], bs' := [(100000, .box [.p .str a0, .p I6 a1, .p I6 a2, .p .bool a3])] } := by
 refine cok_of_wp Tryz.func177 rfl (k := 29) rfl (Nat.le_of_ble_eq_true rfl) (namesOk_of (by kernel_rfl)) ?_
 intro B hN
 refine WpC.conv (cvK (b := ⟨[(0, .loc 100000 0)], [(100000, .box [.p .str a0, .p I6 a1, .p I6 a2, .p .bool a3])]⟩) [0] [100000] (by kernel_rfl)) ?_
 unfold rex_parser_next_m0.f at h
 refine WpC.seq ?_
 refine rS {} [0] [100000] hN (by kernel_rfl) (by kernel_rfl) ?_
 refine tnU ?_
 refine sqJ (fun st' => rex_parser_next_m0.j2 k a0 a1 a2 a3 = some out ∧ st' = ⟨[(0, .loc 100000 0)], [(100000, .box [.p .str a0, .p I6 a1, .p I6 a2, .p .bool a3])]⟩) ?_ ?_
 ·refine sqJ (fun st' => ∃ v3 : Bool, rex_parser_next_m0.j5 k a0 a1 a2 a3 v3 = some out ∧ st' = ⟨[(0, .loc 100000 0), (19, .p .bool v3)], [(100000, .box [.p .str a0, .p I6 a1, .p I6 a2, .p .bool a3])]⟩) ?_ ?_
  ·rcases bool_cases a3 with hc6 | hc6
   ·replace h := ite_t hc6 h
    refine rA { kn := [(8, .t hc6)] } [0, 19] [100000] hN (by kernel_rfl) (by kernel_rfl) (by kernel_rfl) ?_
    refine tnU ?_
    exact ⟨true, h, by kernel_rfl⟩
   ·replace h := ite_f hc6 h
    refine rA { kn := [(8, .f hc6)] } [0, 19] [100000] hN (by kernel_rfl) (by kernel_rfl) (by kernel_rfl) ?_
    refine tnU ?_
    exact ⟨(decide (a1 ≥ (a0.length : Int))), h, by kernel_rfl⟩
  ·rintro _ ⟨v3, h, rfl⟩
   unfold rex_parser_next_m0.j5 at h
   refine tS (b := v3) (by kernel_rfl) (fun hc4 => ?_) (fun hc4 => ?_)
   ·replace h := ite_t hc4 h
    refine WpC.seq ?_
    refine rS {} [2, 3] [100000] hN (by kernel_rfl) (by kernel_rfl) ?_
    refine tnU ?_
    refine WpC.ret ?_
    refine thenQ_ret ?_
    have hq := Option.some.inj h
    subst hq
    exact eR (by kernel_rfl) (by kernel_rfl)
   ·replace h := ite_f hc4 h
    refine WpC.conv (cS [.k [0] [100000]] (by kernel_rfl) (by kernel_rfl)) (WpC.skip ?_)
    refine tnU ?_
    exact ⟨h, by kernel_rfl⟩
 ·rintro _ ⟨h, rfl⟩
  unfold rex_parser_next_m0.j2 at h
  refine WpC.seq ?_
  obtain ⟨v1, hv1, h⟩ := bind_some h
  refine rA { its := [(8, .u hv1)] } [2, 3] [100000] hN (by kernel_rfl) (by kernel_rfl) (by kernel_rfl) ?_
  refine tnU ?_
  refine WpC.ret ?_
  have hq := Option.some.inj h
  subst hq
  exact eR (by kernel_rfl) (by kernel_rfl)

theorem rex_parser_sees_m0.ok (O : Out) (hO : GOkE O) (k : Nat) (a0 : List UInt8) (a1 : Int) (a2 : Int) (a3 : Bool) (a4 : List UInt8) (out : Bool) (h : rex_parser_sees_m0.f k a0 a1 a2 a3 a4 = some out) : COk Un O Tryz.prog 178 { ar := [.loc 100000 0, .p .str a4], r := .p .bool out, bs := [(100000, .box [.p .str a0, .p I6 a1, .p I6 a2, .p .bool a3])], bs' := [(100000, .box [.p .str a0, .p I6 a1, .p I6 a2, .p .bool a3])] } := by
 refine cok_of_wp Tryz.func178 rfl (k := 19) rfl (Nat.le_of_ble_eq_true rfl) (namesOk_of (by kernel_rfl)) ?_
 intro B hN
 refine WpC.conv (cvK (b := ⟨[(0, .loc 100000 0), (1, .p .str a4)], [(100000, .box [.p .str a0, .p I6 a1, .p I6 a2, .p .bool a3])]⟩) [0, 1] [100000] (by kernel_rfl)) ?_
 unfold rex_parser_sees_m0.f at h
 refine WpC.seq ?_
 refine rS {} [0, 1] [100000] hN (by kernel_rfl) (by kernel_rfl) ?_
 refine tnU ?_
 refine WpC.seq ?_
 obtain ⟨v1, hv1, h⟩ := bind_some h
 refine rS { its := [(1, .c (COk.ren (rex_parser_next_m0.ok O hO k a0 a1 a2 a3 v1 hv1) (fun n => if n = 100000 then 100000 else n) (injOn_of (by kernel_rfl))))] } [1, 5, 6] [100000] hN (by kernel_rfl) (by kernel_rfl) ?_
 refine tnU ?_
 refine WpC.seq ?_
 rcases bool_cases v1.2 with hc2 | hc2
 ·replace h := ite_t hc2 h
  obtain ⟨v3, hv3, h⟩ := bind_some h
  refine rS { its := [(4, .c (pIndexByte.ok O hO k a4 v1.1 v3 hv3))], kn := [(13, .t hc2)] } [4] [100000] hN (by kernel_rfl) (by kernel_rfl) ?_
  refine tnU ?_
  refine WpC.ret ?_
  have hq := Option.some.inj h
  subst hq
  exact eR (by kernel_rfl) (by kernel_rfl)
 ·replace h := ite_f hc2 h
  refine rS { kn := [(13, .f hc2)] } [4] [100000] hN (by kernel_rfl) (by kernel_rfl) ?_
  refine tnU ?_
  refine WpC.ret ?_
  have hq := Option.some.inj h
  subst hq
  exact eR (by kernel_rfl) (by kernel_rfl)

theorem rex_joined.ok (O : Out) (hO : GOkE O) (k : Nat) (a0 : Int) (a1 : List T_rex_Node) (out : T_rex_Node) (h : rex_joined.f k a0 a1 = some out) : COk Un O Tryz.prog 165 { ar := [.p I6 a0, .p (.list (.named 16)) a1], r := .p (.named 16) out } := by
 refine cok_of_wp Tryz.func165 rfl (k := 18) rfl (Nat.le_of_ble_eq_true rfl) (namesOk_pure rfl rfl rfl rfl) ?_
 intro B hN
 refine WpC.conv (cvK (b := ⟨[(0, .p I6 a0), (1, .p (.list (.named 16)) a1)], []⟩) [0, 1] [] (by kernel_rfl)) ?_
 unfold rex_joined.f at h
 refine WpC.seq ?_
 refine rS {} [0, 1, 4] [4] hN (by kernel_rfl) (by kernel_rfl) ?_
 refine tnU ?_
 refine WpC.seq ?_
 refine WpC.seq ?_
 refine rS {} [0, 1, 4, 6] [4] hN (by kernel_rfl) (by kernel_rfl) ?_
 refine tnU ?_
 refine WpC.block ?_
 refine WpC.seq ?_
 refine rS {} [0, 1, 4, 6, 7] [4] hN (by kernel_rfl) (by kernel_rfl) ?_
 refine tnU ?_
 refine tS (b := ((a1.length : Int) == 0)) (by kernel_rfl) (fun hc1 => ?_) (fun hc1 => ?_)
 ·replace h := ite_t hc1 h
  refine WpC.seq ?_
  refine rS {} [4] [4] hN (by kernel_rfl) (by kernel_rfl) ?_
  refine tnU ?_
  refine WpC.ret ?_
  refine blockQ_ret ?_
  refine thenQ_ret ?_
  have hq := Option.some.inj h
  subst hq
  exact eR (by kernel_rfl) (by kernel_rfl)
 ·replace h := ite_f hc1 h
  refine WpC.seq ?_
  refine rS {} [0, 1, 4, 10] [4] hN (by kernel_rfl) (by kernel_rfl) ?_
  refine tnU ?_
  refine tS (b := ((a1.length : Int) == 1)) (by kernel_rfl) (fun hc2 => ?_) (fun hc2 => ?_)
  ·replace h := ite_t hc2 h
   refine WpC.seq ?_
   obtain ⟨v3, hv3, h⟩ := bind_some h
   refine rS { its := [(1, .v (.named 16) hv3)] } [4] [4] hN (by kernel_rfl) (by kernel_rfl) ?_
   refine tnU ?_
   refine WpC.ret ?_
   refine blockQ_ret ?_
   refine thenQ_ret ?_
   have hq := Option.some.inj h
   subst hq
   exact eR (by kernel_rfl) (by kernel_rfl)
  ·replace h := ite_f hc2 h
   refine WpC.conv (cS [.k [0, 1, 4] [4]] (by kernel_rfl) (by kernel_rfl)) (WpC.skip ?_)
   refine blockQ_normal ?_
   refine tnU ?_
   refine WpC.seq ?_
   refine rS {} [4] [4] hN (by kernel_rfl) (by kernel_rfl) ?_
   refine tnU ?_
   refine WpC.ret ?_
   have hq := Option.some.inj h
   subst hq
   exact eR (by kernel_rfl) (by kernel_rfl)

theorem rex_parser_byte_m0.ok (O : Out) (hO : GOkE O) (k : Nat) (a0 : List UInt8) (a1 : Int) (a2 : Int) (a3 : Bool) (out : Int × Int × Bool) (h : rex_parser_byte_m0.f k a0 a1 a2 a3 = some out) : COk Un O Tryz.prog 182 { ar := [.loc 100000 0], r := .p (.int .u8) out.1, bs := [(100000, .box [.p .str a0, .p I6 a1, .p I6 a2, .p .bool a3])], bs' := [(100000, .box [.p .str a0, .p I6 out.2.1, .p I6 a2, .p .bool out.2.2])] } := by
 refine cok_of_wp Tryz.func182 rfl (k := 23) rfl (Nat.le_of_ble_eq_true rfl) (namesOk_of (by kernel_rfl)) ?_
 intro B hN
 refine WpC.conv (cvK (b := ⟨[(0, .loc 100000 0)], [(100000, .box [.p .str a0, .p I6 a1, .p I6 a2, .p .bool a3])]⟩) [0] [100000] (by kernel_rfl)) ?_
 unfold rex_parser_byte_m0.f at h
 refine WpC.seq ?_
 refine rS {} [0] [100000] hN (by kernel_rfl) (by kernel_rfl) ?_
 refine tnU ?_
 refine WpC.seq ?_
 obtain ⟨v1, hv1, h⟩ := bind_some h
 refine rS { its := [(1, .c (COk.ren (rex_parser_next_m0.ok O hO k a0 a1 a2 a3 v1 hv1) (fun n => if n = 100000 then 100000 else n) (injOn_of (by kernel_rfl))))] } [0, 3, 4] [100000] hN (by kernel_rfl) (by kernel_rfl) ?_
 refine tnU ?_
 refine WpC.seq ?_
 refine WpC.seq ?_
 refine rS {} [0, 3, 11] [100000] hN (by kernel_rfl) (by kernel_rfl) ?_
 refine tnU ?_
 refine tS (b := (!v1.2)) (by kernel_rfl) (fun hc2 => ?_) (fun hc2 => ?_)
 ·replace h := ite_t hc2 h
  refine WpC.seq ?_
  refine rS {} [] [100000] hN (by kernel_rfl) (by kernel_rfl) ?_
  refine tnU ?_
  refine WpC.seq ?_
  refine rS {} [2] [100000] hN (by kernel_rfl) (by kernel_rfl) ?_
  refine tnU ?_
  refine WpC.ret ?_
  refine thenQ_ret ?_
  have hq := Option.some.inj h
  subst hq
  exact eR (by kernel_rfl) (by kernel_rfl)
 ·replace h := ite_f hc2 h
  refine WpC.conv (cS [.k [0, 3] [100000]] (by kernel_rfl) (by kernel_rfl)) (WpC.skip ?_)
  refine tnU ?_
  refine WpC.seq ?_
  refine rS {} [3] [100000] hN (by kernel_rfl) (by kernel_rfl) ?_
  refine tnU ?_
  refine WpC.seq ?_
  refine rS {} [2] [100000] hN (by kernel_rfl) (by kernel_rfl) ?_
  refine tnU ?_
  refine WpC.ret ?_
  have hq := Option.some.inj h
  subst hq
  exact eR (by kernel_rfl) (by kernel_rfl)

theorem rex_parser_takes_m0.ok (O : Out) (hO : GOkE O) (k : Nat) (a0 : List UInt8) (a1 : Int) (a2 : Int) (a3 : Bool) (a4 : List UInt8) (out : Bool × Int) (h : rex_parser_takes_m0.f k a0 a1 a2 a3 a4 = some out) : COk Un O Tryz.prog 164 { ar := [.loc 100000 0, .p .str a4], r := .p .bool out.1, bs := [(100000, .box [.p .str a0, .p I6 a1, .p I6 a2, .p .bool a3])], bs' := [(100000, .box [.p .str a0, .p I6 out.2, .p I6 a2, .p .bool a3])] } := by
 refine cok_of_wp Tryz.func164 rfl (k := 16) rfl (Nat.le_of_ble_eq_true rfl) (namesOk_of (by kernel_rfl)) ?_
 intro B hN
 refine WpC.conv (cvK (b := ⟨[(0, .loc 100000 0), (1, .p .str a4)], [(100000, .box [.p .str a0, .p I6 a1, .p I6 a2, .p .bool a3])]⟩) [0, 1] [100000] (by kernel_rfl)) ?_
 unfold rex_parser_takes_m0.f at h
 refine WpC.seq ?_
 refine rS {} [0, 1] [100000] hN (by kernel_rfl) (by kernel_rfl) ?_
 refine tnU ?_
 refine WpC.seq ?_
 refine WpC.seq ?_
 obtain ⟨v1, hv1, h⟩ := bind_some h
 refine rS { its := [(2, .c (COk.ren (rex_parser_sees_m0.ok O hO k a0 a1 a2 a3 a4 v1 hv1) (fun n => if n = 100000 then 100000 else n) (injOn_of (by kernel_rfl))))] } [0, 8] [100000] hN (by kernel_rfl) (by kernel_rfl) ?_
 refine tnU ?_
 refine tS (b := (!v1)) (by kernel_rfl) (fun hc2 => ?_) (fun hc2 => ?_)
 ·replace h := ite_t hc2 h
  refine WpC.seq ?_
  refine rS {} [4] [100000] hN (by kernel_rfl) (by kernel_rfl) ?_
  refine tnU ?_
  refine WpC.ret ?_
  refine thenQ_ret ?_
  have hq := Option.some.inj h
  subst hq
  exact eR (by kernel_rfl) (by kernel_rfl)
 ·replace h := ite_f hc2 h
  refine WpC.conv (cS [.k [0] [100000]] (by kernel_rfl) (by kernel_rfl)) (WpC.skip ?_)
  refine tnU ?_
  refine WpC.seq ?_
  refine rS {} [] [100000] hN (by kernel_rfl) (by kernel_rfl) ?_
  refine tnU ?_
  refine WpC.seq ?_
  refine rS {} [4] [100000] hN (by kernel_rfl) (by kernel_rfl) ?_
  refine tnU ?_
  refine WpC.ret ?_
  have hq := Option.some.inj h
  subst hq
  exact eR (by kernel_rfl) (by kernel_rfl)

theorem rex_parser_member_m0.ok (O : Out) (hO : GOkE O) (k : Nat) (a0 : List UInt8) (a1 : Int) (a2 : Int) (a3 : Bool) (out : Int × Int × Bool) (h : rex_parser_member_m0.f k a0 a1 a2 a3 = some out) : COk Un O Tryz.prog 188 { ar := [.loc 100000 0], r := .p (.int .u8) out.1, bs := [(100000, .box [.p .str a0, .p I6 a1, .p I6 a2, .p .bool a3])], bs' := [(100000, .box [.p .str a0, .p I6 out.2.1, .p I6 a2, .p .bool out.2.2])] } := by
 refine cok_of_wp Tryz.func188 rfl (k := 11) rfl (Nat.le_of_ble_eq_true rfl) (namesOk_of (by kernel_rfl)) ?_
 intro B hN
 refine WpC.conv (cvK (b := ⟨[(0, .loc 100000 0)], [(100000, .box [.p .str a0, .p I6 a1, .p I6 a2, .p .bool a3])]⟩) [0] [100000] (by kernel_rfl)) ?_
 unfold rex_parser_member_m0.f at h
 refine WpC.seq ?_
 refine rS {} [0] [100000] hN (by kernel_rfl) (by kernel_rfl) ?_
 refine tnU ?_
 refine WpC.seq ?_
 obtain ⟨v1, hv1, h⟩ := bind_some h
 refine rS { its := [(1, .c (COk.ren (rex_parser_byte_m0.ok O hO k a0 a1 a2 a3 v1 hv1) (fun n => if n = 100000 then 100000 else n) (injOn_of (by kernel_rfl))))] } [0, 3] [100000] hN (by kernel_rfl) (by kernel_rfl) ?_
 refine tnU ?_
 refine WpC.seq ?_
 refine WpC.seq ?_
 refine rS {} [0, 3, 7] [100000] hN (by kernel_rfl) (by kernel_rfl) ?_
 refine tnU ?_
 refine tS (b := (v1.1 == 92)) (by kernel_rfl) (fun hc2 => ?_) (fun hc2 => ?_)
 ·replace h := ite_t hc2 h
  refine WpC.seq ?_
  obtain ⟨v3, hv3, h⟩ := bind_some h
  refine rS { its := [(1, .c (COk.ren (rex_parser_byte_m0.ok O hO k a0 v1.2.1 a2 v1.2.2 v3 hv3) (fun n => if n = 100000 then 100000 else n) (injOn_of (by kernel_rfl))))] } [2] [100000] hN (by kernel_rfl) (by kernel_rfl) ?_
  refine tnU ?_
  refine WpC.ret ?_
  refine thenQ_ret ?_
  have hq := Option.some.inj h
  subst hq
  exact eR (by kernel_rfl) (by kernel_rfl)
 ·replace h := ite_f hc2 h
  refine WpC.conv (cS [.k [3] [100000]] (by kernel_rfl) (by kernel_rfl)) (WpC.skip ?_)
  refine tnU ?_
  refine WpC.seq ?_
  refine rS {} [2] [100000] hN (by kernel_rfl) (by kernel_rfl) ?_
  refine tnU ?_
  refine WpC.ret ?_
  have hq := Option.some.inj h
  subst hq
  exact eR (by kernel_rfl) (by kernel_rfl)

theorem rex_parser_spans_m0.ok (O : Out) (hO : GOkE O) (k : Nat) (a0 : List UInt8) (a1 : Int) (a2 : Int) (a3 : Bool) (out : Bool) (h : rex_parser_spans_m0.f k a0 a1 a2 a3 = some out) : COk Un O Tryz.prog 189 { ar := [.loc 100000 0], r := .p .bool out, bs := [(100000, .box [.p .str a0, .p I6 a1, .p I6 a2, .p .bool a3])], bs' := [(100000, .box [.p .str a0, .p I6 a1, .p I6 a2, .p .bool a3])] } := by
 refine cok_of_wp Tryz.func189 rfl (k := 31) rfl (Nat.le_of_ble_eq_true rfl) (namesOk_of (by kernel_rfl)) ?_
 intro B hN
 refine WpC.conv (cvK (b := ⟨[(0, .loc 100000 0)], [(100000, .box [.p .str a0, .p I6 a1, .p I6 a2, .p .bool a3])]⟩) [0] [100000] (by kernel_rfl)) ?_
 unfold rex_parser_spans_m0.f at h
 refine WpC.seq ?_
 refine rS {} [0] [100000] hN (by kernel_rfl) (by kernel_rfl) ?_
 refine tnU ?_
 refine WpC.seq ?_
 obtain ⟨v1, hv1, h⟩ := bind_some h
 rcases bool_cases v1 with hc2 | hc2
 ·replace h := ite_t hc2 h
  rcases bool_cases (decide ((IntKind.i64.wrap (a1 + 1)) < (a0.length : Int))) with hc3 | hc3
  ·replace h := ite_t hc3 h
   obtain ⟨v4, hv4, h⟩ := bind_some h
   refine rA { its := [(1, .c (COk.ren (rex_parser_sees_m0.ok O hO k a0 a1 a2 a3 ([45] : List UInt8) v1 hv1) (fun n => if n = 100000 then 100000 else n) (injOn_of (by kernel_rfl)))), (25, .u hv4)], kn := [(5, .t hc2), (18, .t hc3)] } [2] [100000] hN (by kernel_rfl) (by kernel_rfl) (by kernel_rfl) ?_
   refine tnU ?_
   refine WpC.ret ?_
   have hq := Option.some.inj h
   subst hq
   exact eR (by kernel_rfl) (by kernel_rfl)
  ·replace h := ite_f hc3 h
   refine rA { its := [(1, .c (COk.ren (rex_parser_sees_m0.ok O hO k a0 a1 a2 a3 ([45] : List UInt8) v1 hv1) (fun n => if n = 100000 then 100000 else n) (injOn_of (by kernel_rfl))))], kn := [(5, .t hc2), (18, .f hc3)] } [2] [100000] hN (by kernel_rfl) (by kernel_rfl) (by kernel_rfl) ?_
   refine tnU ?_
   refine WpC.ret ?_
   have hq := Option.some.inj h
   subst hq
   exact eR (by kernel_rfl) (by kernel_rfl)
 ·replace h := ite_f hc2 h
  refine rA { its := [(1, .c (COk.ren (rex_parser_sees_m0.ok O hO k a0 a1 a2 a3 ([45] : List UInt8) v1 hv1) (fun n => if n = 100000 then 100000 else n) (injOn_of (by kernel_rfl))))], kn := [(5, .f hc2)] } [2] [100000] hN (by kernel_rfl) (by kernel_rfl) (by kernel_rfl) ?_
  refine tnU ?_
  refine WpC.ret ?_
  have hq := Option.some.inj h
  subst hq
  exact eR (by kernel_rfl) (by kernel_rfl)

theorem class_Set_with.ok (O : Out) (hO : GOkE O) (k : Nat) (a0 : List Int) (a1 : Int) (out : List Int) (h : class_Set_with.f k a0 a1 = some out) : COk Un O Tryz.prog 192 { ar := [.p U6 a0, .p (.int .u8) a1], r := .p U6 out } := by
 refine cok_of_wp Tryz.func192 rfl (k := 15) rfl (Nat.le_of_ble_eq_true rfl) (namesOk_pure rfl rfl rfl rfl) ?_
 intro B hN
 refine WpC.conv (cvK (b := ⟨[(0, .p U6 a0), (1, .p (.int .u8) a1)], []⟩) [0, 1] [] (by kernel_rfl)) ?_
 unfold class_Set_with.f at h
 refine WpC.seq ?_
 refine rS {} [1, 2, 4] [2, 4] hN (by kernel_rfl) (by kernel_rfl) ?_
 refine tnU ?_
 refine WpC.seq ?_
 obtain ⟨g1, h⟩ := if_some h
 obtain ⟨g2, h⟩ := if_some h
 obtain ⟨v3, hv3, h⟩ := bind_some h
 obtain ⟨g4, h⟩ := if_some h
 obtain ⟨g5, h⟩ := if_some h
 obtain ⟨g6, h⟩ := if_some h
 obtain ⟨v7, hv7, h⟩ := bind_some h
 refine rS { its := [(1, .g g1), (2, .g g2), (3, .v (.int .u64) hv3), (5, .g g4), (6, .g g5), (8, .g g6), (9, .v (.int .u64) hv7)] } [2, 4] [2, 4] hN (by kernel_rfl) (by kernel_rfl) ?_
 refine tnU ?_
 refine WpC.seq ?_
 refine rS {} [4] [4] hN (by kernel_rfl) (by kernel_rfl) ?_
 refine tnU ?_
 refine WpC.ret ?_
 have hq := Option.some.inj h
 subst hq
 exact eR (by kernel_rfl) (by kernel_rfl)

theorem class_Span.ok (O : Out) (hO : GOkE O) (k : Nat) (a0 : Int) (a1 : Int) (out : List Int) (h : class_Span.f k a0 a1 = some out) : COk Un O Tryz.prog 191 { ar := [.p (.int .u8) a0, .p (.int .u8) a1], r := .p U6 out } := by
 refine cok_of_wp Tryz.func191 rfl (k := 20) rfl (Nat.le_of_ble_eq_true rfl) (namesOk_pure rfl rfl rfl rfl) ?_
 intro B hN
 refine WpC.conv (cvK (b := ⟨[(0, .p (.int .u8) a0), (1, .p (.int .u8) a1)], []⟩) [0, 1] [] (by kernel_rfl)) ?_
 unfold class_Span.f at h
 refine WpC.seq ?_
 refine rS {} [0, 1, 4] [4] hN (by kernel_rfl) (by kernel_rfl) ?_
 refine tnU ?_
 refine WpC.seq ?_
 refine rS {} [0, 1, 4, 5] [4, 5] hN (by kernel_rfl) (by kernel_rfl) ?_
 refine tnU ?_
 refine sqJ (fun st' => ∃ v1 : List Int, class_Span.j2 k v1 = some out ∧ st' = ⟨[(4, .loc 4 0), (5, .loc 5 0)], [(4, .box [.p U6 ((List.replicate 4 (0 : Int)) : List Int)]), (5, .box [.p U6 v1])]⟩) ?_ ?_
 ·refine WpC.seq ?_
  refine rS {} [1, 4, 5, 6] [4, 5] hN (by kernel_rfl) (by kernel_rfl) ?_
  refine tnU ?_
  refine WpC.block ?_
  obtain ⟨o7, hlo7, h⟩ := bind_some h
  have hout8 := h
  clear h
  refine WpC.loop (U := Un) (fun n st' => ∃ v3 : List Int, ∃ v4 : Int, class_Span.l5 k a1 n v3 v4 = some o7 ∧ st' = ⟨[(1, .p (.int .u8) a1), (4, .loc 4 0), (5, .loc 5 0), (6, .p I6 v4)], [(4, .box [.p U6 ((List.replicate 4 (0 : Int)) : List Int)]), (5, .box [.p U6 v3])]⟩) k ⟨(List.replicate 4 (0 : Int)), (IntKind.i64.wrap a0), hlo7, by kernel_rfl⟩ ?_
  clear hlo7
  rintro (_ | n) _ ⟨v3, v4, h, rfl⟩
  ·cases h
  ·rw [class_Span.l5] at h
   refine WpC.seq ?_
   refine WpC.seq ?_
   refine rS {} [1, 4, 5, 6, 12] [4, 5] hN (by kernel_rfl) (by kernel_rfl) ?_
   refine tnU ?_
   refine tS (b := (decide (v4 ≤ (IntKind.i64.wrap a1)))) (by kernel_rfl) (fun hc9 => ?_) (fun hc9 => ?_)
   ·replace h := ite_t hc9 h
    refine WpC.conv (cS [.k [1, 4, 5, 6] [4, 5]] (by kernel_rfl) (by kernel_rfl)) (WpC.skip ?_)
    refine tnU ?_
    refine WpC.seq ?_
    refine WpC.block ?_
    obtain ⟨v10, hv10, h⟩ := bind_some h
    refine rS { its := [(3, .c (class_Set_with.ok O hO k v3 (IntKind.u8.wrap v4) v10 hv10))] } [1, 4, 5, 6] [4, 5] hN (by kernel_rfl) (by kernel_rfl) ?_
    refine blockQ_normal ?_
    refine tnU ?_
    refine rS {} [1, 4, 5, 6] [4, 5] hN (by kernel_rfl) (by kernel_rfl) ?_
    refine tnU ?_
    exact ⟨n, Nat.lt_succ_self n, v10, (IntKind.i64.wrap (v4 + 1)), h, by kernel_rfl⟩
   ·replace h := ite_f hc9 h
    refine WpC.conv (cS [.k [4, 5] [4, 5]] (by kernel_rfl) (by kernel_rfl)) (WpC.exit ?_)
    refine thenQ_exit ?_
    have hq := Option.some.inj h
    subst hq
    refine thenQ_exit ?_
    have h := hout8
    refine blockQ_hit ?_
    refine tnU ?_
    exact ⟨v3, h, by kernel_rfl⟩
 ·rintro _ ⟨v1, h, rfl⟩
  unfold class_Span.j2 at h
  refine WpC.seq ?_
  refine rS {} [4] [4] hN (by kernel_rfl) (by kernel_rfl) ?_
  refine tnU ?_
  refine WpC.ret ?_
  have hq := Option.some.inj h
  subst hq
  exact eR (by kernel_rfl) (by kernel_rfl)

theorem class_Set_Union_1.ok (O : Out) (hO : GOkE O) (k : Nat) (a0 : Int) (a1 : Int) (out : Int) (h : class_Set_Union_1.f k a0 a1 = some out) : COk Un O Tryz.prog 194 { ar := [.p (.int .u64) a0, .p (.int .u64) a1], r := .p (.int .u64) out } := by
 refine cok_of_wp Tryz.func194 rfl (k := 8) rfl (Nat.le_of_ble_eq_true rfl) (namesOk_pure rfl rfl rfl rfl) ?_
 intro B hN
 refine WpC.conv (cvK (b := ⟨[(0, .p (.int .u64) a0), (1, .p (.int .u64) a1)], []⟩) [0, 1] [] (by kernel_rfl)) ?_
 unfold class_Set_Union_1.f at h
 refine WpC.seq ?_
 refine rS {} [0, 1] [] hN (by kernel_rfl) (by kernel_rfl) ?_
 refine tnU ?_
 refine WpC.seq ?_
 refine rS {} [4] [] hN (by kernel_rfl) (by kernel_rfl) ?_
 refine tnU ?_
 refine WpC.ret ?_
 have hq := Option.some.inj h
 subst hq
 exact eR (by kernel_rfl) (by kernel_rfl)

theorem class_Set_both_m0.ok (O : Out) (hO : GOkE O) (k : Nat) (a0 : List Int) (a1 : List Int) (out : List Int) (h : class_Set_both_m0.f k a0 a1 = some out) : COk Un O Tryz.prog 193 { ar := [.p U6 a0, .p U6 a1, .clo 194 []], r := .p U6 out } := by
 refine cok_of_wp Tryz.func193 rfl (k := 23) rfl (Nat.le_of_ble_eq_true rfl) (namesOk_pure rfl rfl rfl rfl) ?_
 intro B hN
 refine WpC.conv (cvK (b := ⟨[(0, .p U6 a0), (1, .p U6 a1), (2, .clo 194 [])], []⟩) [0, 1, 2] [] (by kernel_rfl)) ?_
 unfold class_Set_both_m0.f at h
 refine WpC.seq ?_
 refine rS {} [2, 3, 4, 6] [3, 4, 6] hN (by kernel_rfl) (by kernel_rfl) ?_
 refine tnU ?_
 refine sqJ (fun st' => ∃ v1 : List Int, class_Set_both_m0.j2 k v1 = some out ∧ st' = ⟨[(3, .loc 3 0), (6, .loc 6 0)], [(3, .box [.p U6 v1]), (6, .box [.p U6 ((List.replicate 4 (0 : Int)) : List Int)])]⟩) ?_ ?_
 ·refine WpC.seq ?_
  refine rS {} [2, 3, 4, 6, 8] [3, 4, 6] hN (by kernel_rfl) (by kernel_rfl) ?_
  refine tnU ?_
  refine WpC.block ?_
  obtain ⟨o7, hlo7, h⟩ := bind_some h
  have hout8 := h
  clear h
  refine WpC.loop (U := Un) (fun n st' => ∃ v3 : List Int, ∃ v4 : Int, class_Set_both_m0.l5 k a1 n v3 v4 = some o7 ∧ st' = ⟨[(2, .clo 194 []), (3, .loc 3 0), (4, .loc 4 0), (6, .loc 6 0), (8, .p I6 v4)], [(3, .box [.p U6 v3]), (4, .box [.p U6 a1]), (6, .box [.p U6 ((List.replicate 4 (0 : Int)) : List Int)])]⟩) k ⟨a0, 0, hlo7, by kernel_rfl⟩ ?_
  clear hlo7
  rintro (_ | n) _ ⟨v3, v4, h, rfl⟩
  ·cases h
  ·rw [class_Set_both_m0.l5] at h
   refine WpC.seq ?_
   refine rS {} [2, 3, 4, 6, 8, 9] [3, 4, 6] hN (by kernel_rfl) (by kernel_rfl) ?_
   refine tnU ?_
   refine WpC.seq ?_
   refine tS (b := (decide (v4 < 4))) (by kernel_rfl) (fun hc9 => ?_) (fun hc9 => ?_)
   ·replace h := ite_t hc9 h
    refine WpC.conv (cS [.k [2, 3, 4, 6, 8] [3, 4, 6]] (by kernel_rfl) (by kernel_rfl)) (WpC.skip ?_)
    refine tnU ?_
    refine WpC.seq ?_
    refine WpC.block ?_
    refine WpC.seq ?_
    refine rS {} [2, 3, 4, 6, 7, 8] [3, 4, 6] hN (by kernel_rfl) (by kernel_rfl) ?_
    refine tnU ?_
    obtain ⟨g10, h⟩ := if_some h
    obtain ⟨v11, hv11, h⟩ := bind_some h
    obtain ⟨g12, h⟩ := if_some h
    obtain ⟨v13, hv13, h⟩ := bind_some h
    obtain ⟨v14, hv14, h⟩ := bind_some h
    obtain ⟨g15, h⟩ := if_some h
    obtain ⟨v16, hv16, h⟩ := bind_some h
    refine rA { its := [(3, .g g10), (4, .v (.int .u64) hv11), (6, .g g12), (7, .v (.int .u64) hv13), (8, .c (class_Set_Union_1.ok O hO k v11 v13 v14 hv14)), (9, .g g15), (10, .v (.int .u64) hv16)] } [2, 3, 4, 6, 8] [3, 4, 6] hN (by kernel_rfl) (by kernel_rfl) (by kernel_rfl) ?_
    refine blockQ_normal ?_
    refine tnU ?_
    refine rS {} [2, 3, 4, 6, 8] [3, 4, 6] hN (by kernel_rfl) (by kernel_rfl) ?_
    refine tnU ?_
    exact ⟨n, Nat.lt_succ_self n, (upd v3 v4.toNat v14), (IntKind.i64.wrap (v4 + 1)), h, by kernel_rfl⟩
   ·replace h := ite_f hc9 h
    refine WpC.conv (cS [.k [3, 6] [3, 6]] (by kernel_rfl) (by kernel_rfl)) (WpC.exit ?_)
    refine thenQ_exit ?_
    have hq := Option.some.inj h
    subst hq
    refine thenQ_exit ?_
    have h := hout8
    refine blockQ_hit ?_
    refine tnU ?_
    exact ⟨v3, h, by kernel_rfl⟩
 ·rintro _ ⟨v1, h, rfl⟩
  unfold class_Set_both_m0.j2 at h
  refine WpC.seq ?_
  refine rS {} [6] [6] hN (by kernel_rfl) (by kernel_rfl) ?_
  refine tnU ?_
  refine WpC.ret ?_
  have hq := Option.some.inj h
  subst hq
  exact eR (by kernel_rfl) (by kernel_rfl)

theorem class_Set_Union.ok (O : Out) (hO : GOkE O) (k : Nat) (a0 : List Int) (a1 : List Int) (out : List Int) (h : class_Set_Union.f k a0 a1 = some out) : COk Un O Tryz.prog 190 { ar := [.p U6 a0, .p U6 a1], r := .p U6 out } := by
 refine cok_of_wp Tryz.func190 rfl (k := 8) rfl (Nat.le_of_ble_eq_true rfl) (namesOk_pure rfl rfl rfl rfl) ?_
 intro B hN
 refine WpC.conv (cvK (b := ⟨[(0, .p U6 a0), (1, .p U6 a1)], []⟩) [0, 1] [] (by kernel_rfl)) ?_
 unfold class_Set_Union.f at h
 refine WpC.seq ?_
 refine rS {} [2, 3, 4] [2, 3, 4] hN (by kernel_rfl) (by kernel_rfl) ?_
 refine tnU ?_
 refine WpC.seq ?_
 obtain ⟨v1, hv1, h⟩ := bind_some h
 refine rS { its := [(2, .c (class_Set_both_m0.ok O hO k a0 a1 v1 hv1))] } [4] [4] hN (by kernel_rfl) (by kernel_rfl) ?_
 refine tnU ?_
 refine WpC.ret ?_
 have hq := Option.some.inj h
 subst hq
 exact eR (by kernel_rfl) (by kernel_rfl)

theorem class_Set_Not.ok (O : Out) (hO : GOkE O) (k : Nat) (a0 : List Int) (out : List Int) (h : class_Set_Not.f k a0 = some out) : COk Un O Tryz.prog 186 { ar := [.p U6 a0], r := .p U6 out } := by
 refine cok_of_wp Tryz.func186 rfl (k := 16) rfl (Nat.le_of_ble_eq_true rfl) (namesOk_pure rfl rfl rfl rfl) ?_
 intro B hN
 refine WpC.conv (cvK (b := ⟨[(0, .p U6 a0)], []⟩) [0] [] (by kernel_rfl)) ?_
 unfold class_Set_Not.f at h
 refine WpC.seq ?_
 refine rS {} [1, 2] [1, 2] hN (by kernel_rfl) (by kernel_rfl) ?_
 refine tnU ?_
 refine sqJ (fun st' => ∃ v1 : List Int, class_Set_Not.j2 k v1 = some out ∧ st' = ⟨[(1, .loc 1 0), (2, .loc 2 0)], [(1, .box [.p U6 v1]), (2, .box [.p U6 ((List.replicate 4 (0 : Int)) : List Int)])]⟩) ?_ ?_
 ·refine WpC.seq ?_
  refine rS {} [1, 2, 5, 6] [1, 2] hN (by kernel_rfl) (by kernel_rfl) ?_
  refine tnU ?_
  refine WpC.block ?_
  obtain ⟨o7, hlo7, h⟩ := bind_some h
  have hout8 := h
  clear h
  refine WpC.loop (U := Un) (fun n st' => ∃ v3 : List Int, ∃ v4 : Int, class_Set_Not.l5 k a0 n v3 v4 = some o7 ∧ st' = ⟨[(1, .loc 1 0), (2, .loc 2 0), (5, .p U6 a0), (6, .p I6 v4)], [(1, .box [.p U6 v3]), (2, .box [.p U6 ((List.replicate 4 (0 : Int)) : List Int)])]⟩) k ⟨a0, 0, hlo7, by kernel_rfl⟩ ?_
  clear hlo7
  rintro (_ | n) _ ⟨v3, v4, h, rfl⟩
  ·cases h
  ·rw [class_Set_Not.l5] at h
   refine WpC.seq ?_
   refine rS {} [1, 2, 5, 6, 7] [1, 2] hN (by kernel_rfl) (by kernel_rfl) ?_
   refine tnU ?_
   refine WpC.seq ?_
   refine tS (b := (decide (v4 < 4))) (by kernel_rfl) (fun hc9 => ?_) (fun hc9 => ?_)
   ·replace h := ite_t hc9 h
    refine WpC.conv (cS [.k [1, 2, 5, 6] [1, 2]] (by kernel_rfl) (by kernel_rfl)) (WpC.skip ?_)
    refine tnU ?_
    refine WpC.seq ?_
    refine WpC.block ?_
    refine WpC.seq ?_
    obtain ⟨v10, hv10, h⟩ := bind_some h
    refine rS { its := [(1, .v (.int .u64) hv10)] } [1, 2, 3, 4, 5, 6] [1, 2] hN (by kernel_rfl) (by kernel_rfl) ?_
    refine tnU ?_
    obtain ⟨g11, h⟩ := if_some h
    obtain ⟨v12, hv12, h⟩ := bind_some h
    refine rS { its := [(3, .g g11), (4, .v (.int .u64) hv12)] } [1, 2, 5, 6] [1, 2] hN (by kernel_rfl) (by kernel_rfl) ?_
    refine blockQ_normal ?_
    refine tnU ?_
    refine rS {} [1, 2, 5, 6] [1, 2] hN (by kernel_rfl) (by kernel_rfl) ?_
    refine tnU ?_
    exact ⟨n, Nat.lt_succ_self n, (upd v3 v4.toNat (bits .xor .u64 18446744073709551615 v10)), (IntKind.i64.wrap (v4 + 1)), h, by kernel_rfl⟩
   ·replace h := ite_f hc9 h
    refine WpC.conv (cS [.k [1, 2] [1, 2]] (by kernel_rfl) (by kernel_rfl)) (WpC.exit ?_)
    refine thenQ_exit ?_
    have hq := Option.some.inj h
    subst hq
    refine thenQ_exit ?_
    have h := hout8
    refine blockQ_hit ?_
    refine tnU ?_
    exact ⟨v3, h, by kernel_rfl⟩
 ·rintro _ ⟨v1, h, rfl⟩
  unfold class_Set_Not.j2 at h
  refine WpC.seq ?_
  refine rS {} [2] [2] hN (by kernel_rfl) (by kernel_rfl) ?_
  refine tnU ?_
  refine WpC.ret ?_
  have hq := Option.some.inj h
  subst hq
  exact eR (by kernel_rfl) (by kernel_rfl)

theorem rex_parser_class_m0.ok (O : Out) (hO : GOkE O) (k : Nat) (a0 : List UInt8) (a1 : Int) (a2 : Int) (a3 : Bool) (out : (List Int) × Int × Bool) (h : rex_parser_class_m0.f k a0 a1 a2 a3 = some out) : COk Un O Tryz.prog 184 { ar := [.loc 100000 0], r := .p U6 out.1, bs := [(100000, .box [.p .str a0, .p I6 a1, .p I6 a2, .p .bool a3])], bs' := [(100000, .box [.p .str a0, .p I6 out.2.1, .p I6 a2, .p .bool out.2.2])] } := by
 refine cok_of_wp Tryz.func184 rfl (k := 69) rfl (Nat.le_of_ble_eq_true rfl) (namesOk_of (by kernel_rfl)) ?_
 intro B hN
 refine WpC.conv (cvK (b := ⟨[(0, .loc 100000 0)], [(100000, .box [.p .str a0, .p I6 a1, .p I6 a2, .p .bool a3])]⟩) [0] [100000] (by kernel_rfl)) ?_
 unfold rex_parser_class_m0.f at h
 refine WpC.seq ?_
 refine rS {} [0, 2] [2, 100000] hN (by kernel_rfl) (by kernel_rfl) ?_
 refine tnU ?_
 refine WpC.seq ?_
 obtain ⟨v1, hv1, h⟩ := bind_some h
 refine rS { its := [(1, .c (COk.ren (rex_parser_takes_m0.ok O hO k a0 a1 a2 a3 ([94] : List UInt8) v1 hv1) (fun n => if n = 100000 then 100000 else n) (injOn_of (by kernel_rfl))))] } [0, 2, 3] [2, 100000] hN (by kernel_rfl) (by kernel_rfl) ?_
 refine tnU ?_
 refine WpC.seq ?_
 refine rS {} [0, 2, 3, 4] [2, 4, 100000] hN (by kernel_rfl) (by kernel_rfl) ?_
 refine tnU ?_
 refine sqJ (fun st' => ∃ v2 : Int, ∃ v3 : Bool, ∃ v4 : List Int, rex_parser_class_m0.j12 k a0 a2 v1 v2 v3 v4 = some out ∧ st' = ⟨[(0, .loc 100000 0), (2, .loc 2 0), (3, .p .bool v1.1), (4, .loc 4 0)], [(2, .box [.p U6 ((List.replicate 4 (0 : Int)) : List Int)]), (4, .box [.p U6 v4]), (100000, .box [.p .str a0, .p I6 v2, .p I6 a2, .p .bool v3])]⟩) ?_ ?_
 ·refine WpC.seq ?_
  refine rS {} [0, 2, 3, 4, 5] [2, 4, 100000] hN (by kernel_rfl) (by kernel_rfl) ?_
  refine tnU ?_
  refine WpC.block ?_
  obtain ⟨o21, hlo21, h⟩ := bind_some h
  have hout22 := h
  clear h
  refine WpC.loop (U := Un) (fun n st' => ∃ v13 : Int, ∃ v14 : Bool, ∃ v15 : List Int, ∃ v16 : Bool, rex_parser_class_m0.l17 k a0 a2 v1 n v13 v14 v15 v16 = some o21 ∧ st' = ⟨[(0, .loc 100000 0), (2, .loc 2 0), (3, .p .bool v1.1), (4, .loc 4 0), (5, .p .bool v16)], [(2, .box [.p U6 ((List.replicate 4 (0 : Int)) : List Int)]), (4, .box [.p U6 v15]), (100000, .box [.p .str a0, .p I6 v13, .p I6 a2, .p .bool v14])]⟩) k ⟨v1.2, a3, (List.replicate 4 (0 : Int)), true, hlo21, by kernel_rfl⟩ ?_
  clear hlo21
  rintro (_ | n) _ ⟨v13, v14, v15, v16, h, rfl⟩
  ·cases h
  ·rw [rex_parser_class_m0.l17] at h
   refine sqJ (fun st' => rex_parser_class_m0.j42 k (rex_parser_class_m0.l17 k a0 a2 v1 n) a0 a2 v1 v13 v14 v15 = some o21 ∧ st' = ⟨[(0, .loc 100000 0), (2, .loc 2 0), (3, .p .bool v1.1), (4, .loc 4 0)], [(2, .box [.p U6 ((List.replicate 4 (0 : Int)) : List Int)]), (4, .box [.p U6 v15]), (100000, .box [.p .str a0, .p I6 v13, .p I6 a2, .p .bool v14])]⟩) ?_ ?_
   ·refine sqJ (fun st' => ∃ v43 : Bool, rex_parser_class_m0.j45 k (rex_parser_class_m0.l17 k a0 a2 v1 n) a0 a2 v1 v13 v14 v15 v43 = some o21 ∧ st' = ⟨[(0, .loc 100000 0), (2, .loc 2 0), (3, .p .bool v1.1), (4, .loc 4 0), (22, .p .bool v43)], [(2, .box [.p U6 ((List.replicate 4 (0 : Int)) : List Int)]), (4, .box [.p U6 v15]), (100000, .box [.p .str a0, .p I6 v13, .p I6 a2, .p .bool v14])]⟩) ?_ ?_
    ·rcases bool_cases (!v14) with hc46 | hc46
     ·replace h := ite_t hc46 h
      rcases bool_cases v16 with hc47 | hc47
      ·replace h := ite_t hc47 h
       refine rS { kn := [(15, .t hc46), (17, .t hc47)] } [0, 2, 3, 4, 22] [2, 4, 100000] hN (by kernel_rfl) (by kernel_rfl) ?_
       refine tnU ?_
       exact ⟨true, h, by kernel_rfl⟩
      ·replace h := ite_f hc47 h
       obtain ⟨v48, hv48, h⟩ := bind_some h
       refine rS { its := [(9, .c (COk.ren (rex_parser_sees_m0.ok O hO k a0 v13 a2 v14 ([93] : List UInt8) v48 hv48) (fun n => if n = 100000 then 100000 else n) (injOn_of (by kernel_rfl))))], kn := [(15, .t hc46), (17, .f hc47)] } [0, 2, 3, 4, 22] [2, 4, 100000] hN (by kernel_rfl) (by kernel_rfl) ?_
       refine tnU ?_
       exact ⟨(!v48), h, by kernel_rfl⟩
     ·replace h := ite_f hc46 h
      refine rS { kn := [(15, .f hc46)] } [0, 2, 3, 4, 22] [2, 4, 100000] hN (by kernel_rfl) (by kernel_rfl) ?_
      refine tnU ?_
      exact ⟨false, h, by kernel_rfl⟩
    ·rintro _ ⟨v43, h, rfl⟩
     unfold rex_parser_class_m0.j45 at h
     refine tS (b := v43) (by kernel_rfl) (fun hc44 => ?_) (fun hc44 => ?_)
     ·replace h := ite_t hc44 h
      refine WpC.conv (cS [.k [0, 2, 3, 4] [2, 4, 100000]] (by kernel_rfl) (by kernel_rfl)) (WpC.skip ?_)
      refine tnU ?_
      exact ⟨h, by kernel_rfl⟩
     ·replace h := ite_f hc44 h
      refine WpC.conv (cS [.k [0, 2, 3, 4] [2, 4, 100000]] (by kernel_rfl) (by kernel_rfl)) (WpC.exit ?_)
      refine thenQ_exit ?_
      have hq := Option.some.inj h
      subst hq
      refine thenQ_exit ?_
      have h := hout22
      refine blockQ_hit ?_
      refine tnU ?_
      exact ⟨v13, v14, v15, h, by kernel_rfl⟩
   ·rintro _ ⟨h, rfl⟩
    unfold rex_parser_class_m0.j42 at h
    refine sqJ (fun st' => ∃ v23 : Int, ∃ v24 : Bool, ∃ v25 : List Int, rex_parser_class_m0.j26 k (rex_parser_class_m0.l17 k a0 a2 v1 n) a0 a2 v1 v23 v24 v25 = some o21 ∧ st' = ⟨[(0, .loc 100000 0), (2, .loc 2 0), (3, .p .bool v1.1), (4, .loc 4 0)], [(2, .box [.p U6 ((List.replicate 4 (0 : Int)) : List Int)]), (4, .box [.p U6 v25]), (100000, .box [.p .str a0, .p I6 v23, .p I6 a2, .p .bool v24])]⟩) ?_ ?_
    ·refine WpC.block ?_
     refine WpC.seq ?_
     refine WpC.seq ?_
     obtain ⟨v27, hv27, h⟩ := bind_some h
     refine rS { its := [(1, .c (COk.ren (rex_parser_sees_m0.ok O hO k a0 v13 a2 v14 ([93] : List UInt8) v27 hv27) (fun n => if n = 100000 then 100000 else n) (injOn_of (by kernel_rfl))))] } [0, 2, 3, 4, 24] [2, 4, 100000] hN (by kernel_rfl) (by kernel_rfl) ?_
     refine tnU ?_
     refine tS (b := v27) (by kernel_rfl) (fun hc28 => ?_) (fun hc28 => ?_)
     ·replace h := ite_t hc28 h
      refine WpC.seq ?_
      refine rS {} [0, 2, 3, 4] [2, 4, 100000] hN (by kernel_rfl) (by kernel_rfl) ?_
      refine tnU ?_
      refine WpC.exit ?_
      refine thenQ_exit ?_
      refine blockQ_pass (by decide) ?_
      refine thenQ_exit ?_
      have hq := Option.some.inj h
      subst hq
      refine thenQ_exit ?_
      have h := hout22
      refine blockQ_hit ?_
      refine tnU ?_
      exact ⟨v13, true, v15, h, by kernel_rfl⟩
     ·replace h := ite_f hc28 h
      refine WpC.conv (cS [.k [0, 2, 3, 4] [2, 4, 100000]] (by kernel_rfl) (by kernel_rfl)) (WpC.skip ?_)
      refine tnU ?_
      refine WpC.seq ?_
      obtain ⟨v29, hv29, h⟩ := bind_some h
      refine rS { its := [(1, .c (COk.ren (rex_parser_member_m0.ok O hO k a0 v13 a2 v14 v29 hv29) (fun n => if n = 100000 then 100000 else n) (injOn_of (by kernel_rfl))))] } [0, 2, 3, 4, 6] [2, 4, 100000] hN (by kernel_rfl) (by kernel_rfl) ?_
      refine tnU ?_
      refine WpC.seq ?_
      refine rS {} [0, 2, 3, 4, 6, 7] [2, 4, 100000] hN (by kernel_rfl) (by kernel_rfl) ?_
      refine tnU ?_
      refine sqJ (fun st' => ∃ v30 : Int, ∃ v31 : Bool, ∃ v32 : Int, rex_parser_class_m0.j38 k (rex_parser_class_m0.l17 k a0 a2 v1 n) a0 a2 v1 v15 v29 v30 v31 v32 = some o21 ∧ st' = ⟨[(0, .loc 100000 0), (2, .loc 2 0), (3, .p .bool v1.1), (4, .loc 4 0), (6, .p (.int .u8) v29.1), (7, .p (.int .u8) v32)], [(2, .box [.p U6 ((List.replicate 4 (0 : Int)) : List Int)]), (4, .box [.p U6 v15]), (100000, .box [.p .str a0, .p I6 v30, .p I6 a2, .p .bool v31])]⟩) ?_ ?_
      ·refine WpC.seq ?_
       obtain ⟨v39, hv39, h⟩ := bind_some h
       refine rS { its := [(1, .c (COk.ren (rex_parser_spans_m0.ok O hO k a0 v29.2.1 a2 v29.2.2 v39 hv39) (fun n => if n = 100000 then 100000 else n) (injOn_of (by kernel_rfl))))] } [0, 2, 3, 4, 6, 7, 32] [2, 4, 100000] hN (by kernel_rfl) (by kernel_rfl) ?_
       refine tnU ?_
       refine tS (b := v39) (by kernel_rfl) (fun hc40 => ?_) (fun hc40 => ?_)
       ·replace h := ite_t hc40 h
        refine WpC.seq ?_
        refine rS {} [0, 2, 3, 4, 6] [2, 4, 100000] hN (by kernel_rfl) (by kernel_rfl) ?_
        refine tnU ?_
        obtain ⟨v41, hv41, h⟩ := bind_some h
        refine rS { its := [(1, .c (COk.ren (rex_parser_member_m0.ok O hO k a0 (IntKind.i64.wrap (v29.2.1 + 1)) a2 v29.2.2 v41 hv41) (fun n => if n = 100000 then 100000 else n) (injOn_of (by kernel_rfl))))] } [0, 2, 3, 4, 6, 7] [2, 4, 100000] hN (by kernel_rfl) (by kernel_rfl) ?_
        refine tnU ?_
        exact ⟨v41.2.1, v41.2.2, v41.1, h, by kernel_rfl⟩
       ·replace h := ite_f hc40 h
        refine WpC.conv (cS [.k [0, 2, 3, 4, 6, 7] [2, 4, 100000]] (by kernel_rfl) (by kernel_rfl)) (WpC.skip ?_)
        refine tnU ?_
        exact ⟨v29.2.1, v29.2.2, v29.1, h, by kernel_rfl⟩
      ·rintro _ ⟨v30, v31, v32, h, rfl⟩
       unfold rex_parser_class_m0.j38 at h
       refine sqJ (fun st' => ∃ v33 : Bool, rex_parser_class_m0.j36 k (rex_parser_class_m0.l17 k a0 a2 v1 n) a0 a2 v1 v15 v29 v30 v32 v33 = some o21 ∧ st' = ⟨[(0, .loc 100000 0), (2, .loc 2 0), (3, .p .bool v1.1), (4, .loc 4 0), (6, .p (.int .u8) v29.1), (7, .p (.int .u8) v32)], [(2, .box [.p U6 ((List.replicate 4 (0 : Int)) : List Int)]), (4, .box [.p U6 v15]), (100000, .box [.p .str a0, .p I6 v30, .p I6 a2, .p .bool v33])]⟩) ?_ ?_
       ·rcases bool_cases v31 with hc37 | hc37
        ·replace h := ite_t hc37 h
         refine rS { kn := [(47, .t hc37)] } [0, 2, 3, 4, 6, 7] [2, 4, 100000] hN (by kernel_rfl) (by kernel_rfl) ?_
         refine tnU ?_
         exact ⟨true, h, by kernel_rfl⟩
        ·replace h := ite_f hc37 h
         refine rS { kn := [(47, .f hc37)] } [0, 2, 3, 4, 6, 7] [2, 4, 100000] hN (by kernel_rfl) (by kernel_rfl) ?_
         refine tnU ?_
         exact ⟨(decide (v32 < v29.1)), h, by kernel_rfl⟩
       ·rintro _ ⟨v33, h, rfl⟩
        unfold rex_parser_class_m0.j36 at h
        obtain ⟨v34, hv34, h⟩ := bind_some h
        obtain ⟨v35, hv35, h⟩ := bind_some h
        refine rA { its := [(3, .c (class_Span.ok O hO k v29.1 v32 v34 hv34)), (4, .c (class_Set_Union.ok O hO k v15 v34 v35 hv35))] } [0, 2, 3, 4] [2, 4, 100000] hN (by kernel_rfl) (by kernel_rfl) (by kernel_rfl) ?_
        refine blockQ_normal ?_
        refine tnU ?_
        exact ⟨v30, v33, v35, h, by kernel_rfl⟩
    ·rintro _ ⟨v23, v24, v25, h, rfl⟩
     unfold rex_parser_class_m0.j26 at h
     refine rS {} [0, 2, 3, 4, 5] [2, 4, 100000] hN (by kernel_rfl) (by kernel_rfl) ?_
     refine tnU ?_
     exact ⟨n, Nat.lt_succ_self n, v23, v24, v25, false, h, by kernel_rfl⟩
 ·rintro _ ⟨v2, v3, v4, h, rfl⟩
  unfold rex_parser_class_m0.j12 at h
  refine sqJ (fun st' => ∃ v5 : Int, ∃ v6 : Bool, rex_parser_class_m0.j9 k a0 a2 v1 v4 v5 v6 = some out ∧ st' = ⟨[(2, .loc 2 0), (3, .p .bool v1.1), (4, .loc 4 0)], [(2, .box [.p U6 ((List.replicate 4 (0 : Int)) : List Int)]), (4, .box [.p U6 v4]), (100000, .box [.p .str a0, .p I6 v5, .p I6 a2, .p .bool v6])]⟩) ?_ ?_
  ·refine WpC.seq ?_
   obtain ⟨v10, hv10, h⟩ := bind_some h
   refine rS { its := [(1, .c (COk.ren (rex_parser_takes_m0.ok O hO k a0 v2 a2 v3 ([93] : List UInt8) v10 hv10) (fun n => if n = 100000 then 100000 else n) (injOn_of (by kernel_rfl))))] } [0, 2, 3, 4, 61] [2, 4, 100000] hN (by kernel_rfl) (by kernel_rfl) ?_
   refine tnU ?_
   refine tS (b := (!v10.1)) (by kernel_rfl) (fun hc11 => ?_) (fun hc11 => ?_)
   ·replace h := ite_t hc11 h
    refine rS {} [2, 3, 4] [2, 4, 100000] hN (by kernel_rfl) (by kernel_rfl) ?_
    refine tnU ?_
    exact ⟨v10.2, true, h, by kernel_rfl⟩
   ·replace h := ite_f hc11 h
    refine WpC.conv (cS [.k [2, 3, 4] [2, 4, 100000]] (by kernel_rfl) (by kernel_rfl)) (WpC.skip ?_)
    refine tnU ?_
    exact ⟨v10.2, v3, h, by kernel_rfl⟩
  ·rintro _ ⟨v5, v6, h, rfl⟩
   unfold rex_parser_class_m0.j9 at h
   refine WpC.seq ?_
   refine WpC.seq ?_
   refine rS {} [2, 4, 65] [2, 4, 100000] hN (by kernel_rfl) (by kernel_rfl) ?_
   refine tnU ?_
   refine tS (b := v1.1) (by kernel_rfl) (fun hc7 => ?_) (fun hc7 => ?_)
   ·replace h := ite_t hc7 h
    refine WpC.seq ?_
    obtain ⟨v8, hv8, h⟩ := bind_some h
    refine rS { its := [(1, .c (class_Set_Not.ok O hO k v4 v8 hv8))] } [2] [2, 100000] hN (by kernel_rfl) (by kernel_rfl) ?_
    refine tnU ?_
    refine WpC.ret ?_
    refine thenQ_ret ?_
    have hq := Option.some.inj h
    subst hq
    exact eR (by kernel_rfl) (by kernel_rfl)
   ·replace h := ite_f hc7 h
    refine WpC.conv (cS [.k [2, 4] [2, 4, 100000]] (by kernel_rfl) (by kernel_rfl)) (WpC.skip ?_)
    refine tnU ?_
    refine WpC.seq ?_
    refine rS {} [2] [2, 100000] hN (by kernel_rfl) (by kernel_rfl) ?_
    refine tnU ?_
    refine WpC.ret ?_
    have hq := Option.some.inj h
    subst hq
    exact eR (by kernel_rfl) (by kernel_rfl)

end Go.Proofs.YtpcobejkpbalcaaGreatDoor
