/- A part of the proof of a given law: DAC0. Own work, printed in part by a program of mine. -/
import Derived.Test.YteddmdkbeednmaaDoorK33DAF
namespace Go.Proofs.YteddmdkbeednmaaDoor
open Go Go.AM
set_option linter.unusedVariables false
set_option linter.unusedSimpArgs false
set_option maxRecDepth 100000
set_option maxHeartbeats 4000000
theorem rex_parser_next_m0.ok (O : Out) (hO : GOkE O) (k : Nat) (a0 : List UInt8) (a1 : Int) (a2 : Int) (a3 : Bool) (out : Int × Bool) (h : rex_parser_next_m0.f k a0 a1 a2 a3 = some out) : COk Un O Tryd.prog 69 { ar := [.loc 100000 0], r := .tup [.p (.int .u8) out.1, .p .bool out.2], bs := [(100000, .box [.p .str a0, .p I6 a1, .p I6 a2, .p .bool a3])], bs' := [(100000, .box [.p .str a0, .p I6 a1, .p I6 a2, .p .bool a3])] } := by
 refine cok_of_wp Tryd.func69 rfl (k := 29) rfl (Nat.le_of_ble_eq_true rfl) (namesOk_of (by kernel_rfl)) ?_
 intro B hN
 refine WpC.conv (cvK (b := ⟨[(0, .loc 100000 0)], [(100000, .box [.p .str a0, .p I6 a1, .p I6 a2, .p .bool a3])]⟩) [0] [100000] (by kernel_rfl)) ?_
 unfold rex_parser_next_m0.f at h
 refine WpC.seq ?_
 refine rS {} [0] [100000] hN (by kernel_rfl) (by kernel_rfl) ?_
 refine tnU ?_
 refine sqJ (fun st' => rex_parser_next_m0.j2 k a0 a1 a2 a3 = some out ∧ st' = ⟨[(0, .loc 100000 0)], [(100000, .box [.p .str a0, .p I6 a1, .p I6 a2, .p .bool a3])]⟩) ?_ ?_
 ·refine sqJ (fun st' => ∃ v3 : Bool, rex_parser_next_m0.j5 k a0 a1 a2 a3 v3 = some out ∧ st' = ⟨[(0, .loc 100000 0), (19, .p .bool v3)], [(100000, .box [.p .str a0, .p I6 a1, .p I6 a2, .p .bool a3])]⟩) ?_ ?_
  ·rcases bool_cases a3 with hc6 | hc6
   ·replace h := ite_t hc6 h
    refine rA { kn := [(8, .t hc6)] } [0, 19] [100000] hN (by kernel_rfl) (by kernel_rfl) (by kernel_rfl) ?_
    refine tnU ?_
    exact ⟨true, h, by kernel_rfl⟩
   ·replace h := ite_f hc6 h
    refine rA { kn := [(8, .f hc6)] } [0, 19] [100000] hN (by kernel_rfl) (by kernel_rfl) (by kernel_rfl) ?_
    refine tnU ?_
    exact ⟨(decide (a1 ≥ (a0.length : Int))), h, by kernel_rfl⟩
  ·rintro _ ⟨v3, h, rfl⟩
   unfold rex_parser_next_m0.j5 at h
   refine tS (b := v3) (by kernel_rfl) (fun hc4 => ?_) (fun hc4 => ?_)
   ·replace h := ite_t hc4 h
    refine WpC.seq ?_
    refine rS {} [2, 3] [100000] hN (by kernel_rfl) (by kernel_rfl) ?_
    refine tnU ?_
    refine WpC.ret ?_
    refine thenQ_ret ?_
    have hq := Option.some.inj h
    subst hq
    exact eR (by kernel_rfl) (by kernel_rfl)
   ·replace h := ite_f hc4 h
    refine WpC.conv (cS [.k [0] [100000]] (by kernel_rfl) (by kernel_rfl)) (WpC.skip ?_)
    refine tnU ?_
    exact ⟨h, by kernel_rfl⟩
 ·rintro _ ⟨h, rfl⟩
  unfold rex_parser_next_m0.j2 at h
  refine WpC.seq ?_
  obtain ⟨v1, hv1, h⟩ := bind_some h
  refine rA { its := [(8, .u hv1)] } [2, 3] [100000] hN (by kernel_rfl) (by kernel_rfl) (by kernel_rfl) ?_
  refine tnU ?_
  refine WpC.ret ?_
  have hq := Option.some.inj h
  subst hq
  exact eR (by kernel_rfl) (by kernel_rfl)

theorem rex_parser_sees_m0.ok (O : Out) (hO : GOkE O) (k : Nat) (a0 : List UInt8) (a1 : Int) (a2 : Int) (a3 : Bool) (a4 : List UInt8) (out : Bool) (h : rex_parser_sees_m0.f k a0 a1 a2 a3 a4 = some out) : COk Un O Tryd.prog 70 { ar := [.loc 100000 0, .p .str a4], r := .p .bool out, bs := [(100000, .box [.p .str a0, .p I6 a1, .p I6 a2, .p .bool a3])], bs' := [(100000, .box [.p .str a0, .p I6 a1, .p I6 a2, .p .bool a3])] } := by
 refine cok_of_wp Tryd.func70 rfl (k := 19) rfl (Nat.le_of_ble_eq_true rfl) (namesOk_of (by kernel_rfl)) ?_
 intro B hN
 refine WpC.conv (cvK (b := ⟨[(0, .loc 100000 0), (1, .p .str a4)], [(100000, .box [.p .str a0, .p I6 a1, .p I6 a2, .p .bool a3])]⟩) [0, 1] [100000] (by kernel_rfl)) ?_
 unfold rex_parser_sees_m0.f at h
 refine WpC.seq ?_
 refine rS {} [0, 1] [100000] hN (by kernel_rfl) (by kernel_rfl) ?_
 refine tnU ?_
 refine WpC.seq ?_
 obtain ⟨v1, hv1, h⟩ := bind_some h
 refine rS { its := [(1, .c (COk.ren (rex_parser_next_m0.ok O hO k a0 a1 a2 a3 v1 hv1) (fun n => if n = 100000 then 100000 else n) (injOn_of (by kernel_rfl))))] } [1, 5, 6] [100000] hN (by kernel_rfl) (by kernel_rfl) ?_
 refine tnU ?_
 refine WpC.seq ?_
 rcases bool_cases v1.2 with hc2 | hc2
 ·replace h := ite_t hc2 h
  obtain ⟨v3, hv3, h⟩ := bind_some h
  refine rS { its := [(4, .c (pIndexByte.ok O hO k a4 v1.1 v3 hv3))], kn := [(13, .t hc2)] } [4] [100000] hN (by kernel_rfl) (by kernel_rfl) ?_
  refine tnU ?_
  refine WpC.ret ?_
  have hq := Option.some.inj h
  subst hq
  exact eR (by kernel_rfl) (by kernel_rfl)
 ·replace h := ite_f hc2 h
  refine rS { kn := [(13, .f hc2)] } [4] [100000] hN (by kernel_rfl) (by kernel_rfl) ?_
  refine tnU ?_
  refine WpC.ret ?_
  have hq := Option.some.inj h
  subst hq
  exact eR (by kernel_rfl) (by kernel_rfl)

theorem rex_joined.ok (O : Out) (hO : GOkE O) (k : Nat) (a0 : Int) (a1 : List T_rex_Node) (out : T_rex_Node) (h : rex_joined.f k a0 a1 = some out) : COk Un O Tryd.prog 60 { ar := [.p I6 a0, .p (.list (.named 3)) a1], r := .p (.named 3) out } := by
 refine cok_of_wp Tryd.func60 rfl (k := 18) rfl (Nat.le_of_ble_eq_true rfl) (namesOk_pure rfl rfl rfl rfl) ?_
 intro B hN
 refine WpC.conv (cvK (b := ⟨[(0, .p I6 a0), (1, .p (.list (.named 3)) a1)], []⟩) [0, 1] [] (by kernel_rfl)) ?_
 unfold rex_joined.f at h
 refine WpC.seq ?_
 refine rS {} [0, 1, 4] [4] hN (by kernel_rfl) (by kernel_rfl) ?_
 refine tnU ?_
 refine WpC.seq ?_
 refine WpC.seq ?_
 refine rS {} [0, 1, 4, 6] [4] hN (by kernel_rfl) (by kernel_rfl) ?_
 refine tnU ?_
 refine WpC.block ?_
 refine WpC.seq ?_
 refine rS {} [0, 1, 4, 6, 7] [4] hN (by kernel_rfl) (by kernel_rfl) ?_
 refine tnU ?_
 refine tS (b := ((a1.length : Int) == 0)) (by kernel_rfl) (fun hc1 => ?_) (fun hc1 => ?_)
 ·replace h := ite_t hc1 h
  refine WpC.seq ?_
  refine rS {} [4] [4] hN (by kernel_rfl) (by kernel_rfl) ?_
  refine tnU ?_
  refine WpC.ret ?_
  refine blockQ_ret ?_
  refine thenQ_ret ?_
  have hq := Option.some.inj h
  subst hq
  exact eR (by kernel_rfl) (by kernel_rfl)
 ·replace h := ite_f hc1 h
  refine WpC.seq ?_
  refine rS {} [0, 1, 4, 10] [4] hN (by kernel_rfl) (by kernel_rfl) ?_
  refine tnU ?_
  refine tS (b := ((a1.length : Int) == 1)) (by kernel_rfl) (fun hc2 => ?_) (fun hc2 => ?_)
  ·replace h := ite_t hc2 h
   refine WpC.seq ?_
   obtain ⟨v3, hv3, h⟩ := bind_some h
   refine rS { its := [(1, .v (.named 3) hv3)] } [4] [4] hN (by kernel_rfl) (by kernel_rfl) ?_
   refine tnU ?_
   refine WpC.ret ?_
   refine blockQ_ret ?_
   refine thenQ_ret ?_
   have hq := Option.some.inj h
   subst hq
   exact eR (by kernel_rfl) (by kernel_rfl)
  ·replace h := ite_f hc2 h
   refine WpC.conv (cS [.k [0, 1, 4] [4]] (by kernel_rfl) (by kernel_rfl)) (WpC.skip ?_)
   refine blockQ_normal ?_
   refine tnU ?_
   refine WpC.seq ?_
   refine rS {} [4] [4] hN (by kernel_rfl) (by kernel_rfl) ?_
   refine tnU ?_
   refine WpC.ret ?_
   have hq := Option.some.inj h
   subst hq
   exact eR (by kernel_rfl) (by kernel_rfl)

theorem rex_parser_byte_m0.ok (O : Out) (hO : GOkE O) (k : Nat) (a0 : List UInt8) (a1 : Int) (a2 : Int) (a3 : Bool) (out : Int × Int × Bool) (h : rex_parser_byte_m0.f k a0 a1 a2 a3 = some out) : COk Un O Tryd.prog 77 { ar := [.loc 100000 0], r := .p (.int .u8) out.1, bs := [(100000, .box [.p .str a0, .p I6 a1, .p I6 a2, .p .bool a3])], bs' := [(100000, .box [.p .str a0, .p I6 out.2.1, .p I6 a2, .p .bool out.2.2])] } := by
 refine cok_of_wp Tryd.func77 rfl (k := 23) rfl (Nat.le_of_ble_eq_true rfl) (namesOk_of (by kernel_rfl)) ?_
 intro B hN
 refine WpC.conv (cvK (b := ⟨[(0, .loc 100000 0)], [(100000, .box [.p .str a0, .p I6 a1, .p I6 a2, .p .bool a3])]⟩) [0] [100000] (by kernel_rfl)) ?_
 unfold rex_parser_byte_m0.f at h
 refine WpC.seq ?_
 refine rS {} [0] [100000] hN (by kernel_rfl) (by kernel_rfl) ?_
 refine tnU ?_
 refine WpC.seq ?_
 obtain ⟨v1, hv1, h⟩ := bind_some h
 refine rS { its := [(1, .c (COk.ren (rex_parser_next_m0.ok O hO k a0 a1 a2 a3 v1 hv1) (fun n => if n = 100000 then 100000 else n) (injOn_of (by kernel_rfl))))] } [0, 3, 4] [100000] hN (by kernel_rfl) (by kernel_rfl) ?_
 refine tnU ?_
 refine WpC.seq ?_
 refine WpC.seq ?_
 refine rS {} [0, 3, 11] [100000] hN (by kernel_rfl) (by kernel_rfl) ?_
 refine tnU ?_
 refine tS (b := (!v1.2)) (by kernel_rfl) (fun hc2 => ?_) (fun hc2 => ?_)
 ·replace h := ite_t hc2 h
  refine WpC.seq ?_
  refine rS {} [] [100000] hN (by kernel_rfl) (by kernel_rfl) ?_
  refine tnU ?_
  refine WpC.seq ?_
  refine rS {} [2] [100000] hN (by kernel_rfl) (by kernel_rfl) ?_
  refine tnU ?_
  refine WpC.ret ?_
  refine thenQ_ret ?_
  have hq := Option.some.inj h
  subst hq
  exact eR (by kernel_rfl) (by kernel_rfl)
 ·replace h := ite_f hc2 h
  refine WpC.conv (cS [.k [0, 3] [100000]] (by kernel_rfl) (by kernel_rfl)) (WpC.skip ?_)
  refine tnU ?_
  refine WpC.seq ?_
  refine rS {} [3] [100000] hN (by kernel_rfl) (by kernel_rfl) ?_
  refine tnU ?_
  refine WpC.seq ?_
  refine rS {} [2] [100000] hN (by kernel_rfl) (by kernel_rfl) ?_
  refine tnU ?_
  refine WpC.ret ?_
  have hq := Option.some.inj h
  subst hq
  exact eR (by kernel_rfl) (by kernel_rfl)

theorem rex_parser_takes_m0.ok (O : Out) (hO : GOkE O) (k : Nat) (a0 : List UInt8) (a1 : Int) (a2 : Int) (a3 : Bool) (a4 : List UInt8) (out : Bool × Int) (h : rex_parser_takes_m0.f k a0 a1 a2 a3 a4 = some out) : COk Un O Tryd.prog 59 { ar := [.loc 100000 0, .p .str a4], r := .p .bool out.1, bs := [(100000, .box [.p .str a0, .p I6 a1, .p I6 a2, .p .bool a3])], bs' := [(100000, .box [.p .str a0, .p I6 out.2, .p I6 a2, .p .bool a3])] } := by
 refine cok_of_wp Tryd.func59 rfl (k := 16) rfl (Nat.le_of_ble_eq_true rfl) (namesOk_of (by kernel_rfl)) ?_
 intro B hN
 refine WpC.conv (cvK (b := ⟨[(0, .loc 100000 0), (1, .p .str a4)], [(100000, .box [.p .str a0, .p I6 a1, .p I6 a2, .p .bool a3])]⟩) [0, 1] [100000] (by kernel_rfl)) ?_
 unfold rex_parser_takes_m0.f at h
 refine WpC.seq ?_
 refine rS {} [0, 1] [100000] hN (by kernel_rfl) (by kernel_rfl) ?_
 refine tnU ?_
 refine WpC.seq ?_
 refine WpC.seq ?_
 obtain ⟨v1, hv1, h⟩ := bind_some h
 refine rS { its := [(2, .c (COk.ren (rex_parser_sees_m0.ok O hO k a0 a1 a2 a3 a4 v1 hv1) (fun n => if n = 100000 then 100000 else n) (injOn_of (by kernel_rfl))))] } [0, 8] [100000] hN (by kernel_rfl) (by kernel_rfl) ?_
 refine tnU ?_
 refine tS (b := (!v1)) (by kernel_rfl) (fun hc2 => ?_) (fun hc2 => ?_)
 ·replace h := ite_t hc2 h
  refine WpC.seq ?_
  refine rS {} [4] [100000] hN (by kernel_rfl) (by kernel_rfl) ?_
  refine tnU ?_
  refine WpC.ret ?_
  refine thenQ_ret ?_
  have hq := Option.some.inj h
  subst hq
  exact eR (by kernel_rfl) (by kernel_rfl)
 ·replace h := ite_f hc2 h
  refine WpC.conv (cS [.k [0] [100000]] (by kernel_rfl) (by kernel_rfl)) (WpC.skip ?_)
  refine tnU ?_
  refine WpC.seq ?_
  refine rS {} [] [100000] hN (by kernel_rfl) (by kernel_rfl) ?_
  refine tnU ?_
  refine WpC.seq ?_
  refine rS {} [4] [100000] hN (by kernel_rfl) (by kernel_rfl) ?_
  refine tnU ?_
  refine WpC.ret ?_
  have hq := Option.some.inj h
  subst hq
  exact eR (by kernel_rfl) (by kernel_rfl)

theorem rex_parser_member_m0.ok (O : Out) (hO : GOkE O) (k : Nat) (a0 : List UInt8) (a1 : Int) (a2 : Int) (a3 : Bool) (out : Int × Int × Bool) (h : rex_parser_member_m0.f k a0 a1 a2 a3 = some out) : COk Un O Tryd.prog 84 { ar := [.loc 100000 0], r := .p (.int .u8) out.1, bs := [(100000, .box [.p .str a0, .p I6 a1, .p I6 a2, .p .bool a3])], bs' := [(100000, .box [.p .str a0, .p I6 out.2.1, .p I6 a2, .p .bool out.2.2])] } := by
 refine cok_of_wp Tryd.func84 rfl (k := 11) rfl (Nat.le_of_ble_eq_true rfl) (namesOk_of (by kernel_rfl)) ?_
 intro B hN
 refine WpC.conv (cvK (b := ⟨[(0, .loc 100000 0)], [(100000, .box [.p .str a0, .p I6 a1, .p I6 a2, .p .bool a3])]⟩) [0] [100000] (by kernel_rfl)) ?_
 unfold rex_parser_member_m0.f at h
 refine WpC.seq ?_
 refine rS {} [0] [100000] hN (by kernel_rfl) (by kernel_rfl) ?_
 refine tnU ?_
 refine WpC.seq ?_
 obtain ⟨v1, hv1, h⟩ := bind_some h
 refine rS { its := [(1, .c (COk.ren (rex_parser_byte_m0.ok O hO k a0 a1 a2 a3 v1 hv1) (fun n => if n = 100000 then 100000 else n) (injOn_of (by kernel_rfl))))] } [0, 3] [100000] hN (by kernel_rfl) (by kernel_rfl) ?_
 refine tnU ?_
 refine WpC.seq ?_
 refine WpC.seq ?_
 refine rS {} [0, 3, 7] [100000] hN (by kernel_rfl) (by kernel_rfl) ?_
 refine tnU ?_
 refine tS (b := (v1.1 == 92)) (by kernel_rfl) (fun hc2 => ?_) (fun hc2 => ?_)
 ·replace h := ite_t hc2 h
  refine WpC.seq ?_
  obtain ⟨v3, hv3, h⟩ := bind_some h
  refine rS { its := [(1, .c (COk.ren (rex_parser_byte_m0.ok O hO k a0 v1.2.1 a2 v1.2.2 v3 hv3) (fun n => if n = 100000 then 100000 else n) (injOn_of (by kernel_rfl))))] } [2] [100000] hN (by kernel_rfl) (by kernel_rfl) ?_
  refine tnU ?_
  refine WpC.ret ?_
  refine thenQ_ret ?_
  have hq := Option.some.inj h
  subst hq
  exact eR (by kernel_rfl) (by kernel_rfl)
 ·replace h := ite_f hc2 h
  refine WpC.conv (cS [.k [3] [100000]] (by kernel_rfl) (by kernel_rfl)) (WpC.skip ?_)
  refine tnU ?_
  refine WpC.seq ?_
  refine rS {} [2] [100000] hN (by kernel_rfl) (by kernel_rfl) ?_
  refine tnU ?_
  refine WpC.ret ?_
  have hq := Option.some.inj h
  subst hq
  exact eR (by kernel_rfl) (by kernel_rfl)

theorem rex_parser_spans_m0.ok (O : Out) (hO : GOkE O) (k : Nat) (a0 : List UInt8) (a1 : Int) (a2 : Int) (a3 : Bool) (out : Bool) (h : rex_parser_spans_m0.f k a0 a1 a2 a3 = some out) : COk Un O Tryd.prog 85 { ar := [.loc 100000 0], r := .p .bool out, bs := [(100000, .box [.p .str a0, .p I6 a1, .p I6 a2, .p .bool a3])], bs' := [(100000, .box [.p .str a0, .p I6 a1, .p I6 a2, .p .bool a3])] } := by
 refine cok_of_wp Tryd.func85 rfl (k := 31) rfl (Nat.le_of_ble_eq_true rfl) (namesOk_of (by kernel_rfl)) ?_
 intro B hN
 refine WpC.conv (cvK (b := ⟨[(0, .loc 100000 0)], [(100000, .box [.p .str a0, .p I6 a1, .p I6 a2, .p .bool a3])]⟩) [0] [100000] (by kernel_rfl)) ?_
 unfold rex_parser_spans_m0.f at h
 refine WpC.seq ?_
 refine rS {} [0] [100000] hN (by kernel_rfl) (by kernel_rfl) ?_
 refine tnU ?_
 refine WpC.seq ?_
 obtain ⟨v1, hv1, h⟩ := bind_some h
 rcases bool_cases v1 with hc2 | hc2
 ·replace h := ite_t hc2 h
  rcases bool_cases (decide ((IntKind.i64.wrap (a1 + 1)) < (a0.length : Int))) with hc3 | hc3
  ·replace h := ite_t hc3 h
   obtain ⟨v4, hv4, h⟩ := bind_some h
   refine rA { its := [(1, .c (COk.ren (rex_parser_sees_m0.ok O hO k a0 a1 a2 a3 ([45] : List UInt8) v1 hv1) (fun n => if n = 100000 then 100000 else n) (injOn_of (by kernel_rfl)))), (25, .u hv4)], kn := [(5, .t hc2), (18, .t hc3)] } [2] [100000] hN (by kernel_rfl) (by kernel_rfl) (by kernel_rfl) ?_
   refine tnU ?_
   refine WpC.ret ?_
   have hq := Option.some.inj h
   subst hq
   exact eR (by kernel_rfl) (by kernel_rfl)
  ·replace h := ite_f hc3 h
   refine rA { its := [(1, .c (COk.ren (rex_parser_sees_m0.ok O hO k a0 a1 a2 a3 ([45] : List UInt8) v1 hv1) (fun n => if n = 100000 then 100000 else n) (injOn_of (by kernel_rfl))))], kn := [(5, .t hc2), (18, .f hc3)] } [2] [100000] hN (by kernel_rfl) (by kernel_rfl) (by kernel_rfl) ?_
   refine tnU ?_
   refine WpC.ret ?_
   have hq := Option.some.inj h
   subst hq
   exact eR (by kernel_rfl) (by kernel_rfl)
 ·replace h := ite_f hc2 h
  refine rA { its := [(1, .c (COk.ren (rex_parser_sees_m0.ok O hO k a0 a1 a2 a3 ([45] : List UInt8) v1 hv1) (fun n => if n = 100000 then 100000 else n) (injOn_of (by kernel_rfl))))], kn := [(5, .f hc2)] } [2] [100000] hN (by kernel_rfl) (by kernel_rfl) (by kernel_rfl) ?_
  refine tnU ?_
  refine WpC.ret ?_
  have hq := Option.some.inj h
  subst hq
  exact eR (by kernel_rfl) (by kernel_rfl)

theorem class_Set_with.ok (O : Out) (hO : GOkE O) (k : Nat) (a0 : List Int) (a1 : Int) (out : List Int) (h : class_Set_with.f k a0 a1 = some out) : COk Un O Tryd.prog 87 { ar := [.p U6 a0, .p (.int .u8) a1], r := .p U6 out } := by
 refine cok_of_wp Tryd.func87 rfl (k := 15) rfl (Nat.le_of_ble_eq_true rfl) (namesOk_pure rfl rfl rfl rfl) ?_
 intro B hN
 refine WpC.conv (cvK (b := ⟨[(0, .p U6 a0), (1, .p (.int .u8) a1)], []⟩) [0, 1] [] (by kernel_rfl)) ?_
 unfold class_Set_with.f at h
 refine WpC.seq ?_
 refine rS {} [1, 2, 4] [2, 4] hN (by kernel_rfl) (by kernel_rfl) ?_
 refine tnU ?_
 refine WpC.seq ?_
 obtain ⟨g1, h⟩ := if_some h
 obtain ⟨g2, h⟩ := if_some h
 obtain ⟨v3, hv3, h⟩ := bind_some h
 obtain ⟨g4, h⟩ := if_some h
 obtain ⟨g5, h⟩ := if_some h
 obtain ⟨g6, h⟩ := if_some h
 obtain ⟨v7, hv7, h⟩ := bind_some h
 refine rS { its := [(1, .g g1), (2, .g g2), (3, .v (.int .u64) hv3), (5, .g g4), (6, .g g5), (8, .g g6), (9, .v (.int .u64) hv7)] } [2, 4] [2, 4] hN (by kernel_rfl) (by kernel_rfl) ?_
 refine tnU ?_
 refine WpC.seq ?_
 refine rS {} [4] [4] hN (by kernel_rfl) (by kernel_rfl) ?_
 refine tnU ?_
 refine WpC.ret ?_
 have hq := Option.some.inj h
 subst hq
 exact eR (by kernel_rfl) (by kernel_rfl)

theorem class_Span.ok (O : Out) (hO : GOkE O) (k : Nat) (a0 : Int) (a1 : Int) (out : List Int) (h : class_Span.f k a0 a1 = some out) : COk Un O Tryd.prog 86 { ar := [.p (.int .u8) a0, .p (.int .u8) a1], r := .p U6 out } := by
 refine cok_of_wp Tryd.func86 rfl (k := 20) rfl (Nat.le_of_ble_eq_true rfl) (namesOk_pure rfl rfl rfl rfl) ?_
 intro B hN
 refine WpC.conv (cvK (b := ⟨[(0, .p (.int .u8) a0), (1, .p (.int .u8) a1)], []⟩) [0, 1] [] (by kernel_rfl)) ?_
 unfold class_Span.f at h
 refine WpC.seq ?_
 refine rS {} [0, 1, 4] [4] hN (by kernel_rfl) (by kernel_rfl) ?_
 refine tnU ?_
 refine WpC.seq ?_
 refine rS {} [0, 1, 4, 5] [4, 5] hN (by kernel_rfl) (by kernel_rfl) ?_
 refine tnU ?_
 refine sqJ (fun st' => ∃ v1 : List Int, class_Span.j2 k v1 = some out ∧ st' = ⟨[(4, .loc 4 0), (5, .loc 5 0)], [(4, .box [.p U6 ((List.replicate 4 (0 : Int)) : List Int)]), (5, .box [.p U6 v1])]⟩) ?_ ?_
 ·refine WpC.seq ?_
  refine rS {} [1, 4, 5, 6] [4, 5] hN (by kernel_rfl) (by kernel_rfl) ?_
  refine tnU ?_
  refine WpC.block ?_
  obtain ⟨o7, hlo7, h⟩ := bind_some h
  have hout8 := h
  clear h
  refine WpC.loop (U := Un) (fun n st' => ∃ v3 : List Int, ∃ v4 : Int, class_Span.l5 k a1 n v3 v4 = some o7 ∧ st' = ⟨[(1, .p (.int .u8) a1), (4, .loc 4 0), (5, .loc 5 0), (6, .p I6 v4)], [(4, .box [.p U6 ((List.replicate 4 (0 : Int)) : List Int)]), (5, .box [.p U6 v3])]⟩) k ⟨(List.replicate 4 (0 : Int)), (IntKind.i64.wrap a0), hlo7, by kernel_rfl⟩ ?_
  clear hlo7
  rintro (_ | n) _ ⟨v3, v4, h, rfl⟩
  ·cases h
  ·rw [class_Span.l5] at h
   refine WpC.seq ?_
   refine WpC.seq ?_
   refine rS {} [1, 4, 5, 6, 12] [4, 5] hN (by kernel_rfl) (by kernel_rfl) ?_
   refine tnU ?_
   refine tS (b := (decide (v4 ≤ (IntKind.i64.wrap a1)))) (by kernel_rfl) (fun hc9 => ?_) (fun hc9 => ?_)
   ·replace h := ite_t hc9 h
    refine WpC.conv (cS [.k [1, 4, 5, 6] [4, 5]] (by kernel_rfl) (by kernel_rfl)) (WpC.skip ?_)
    refine tnU ?_
    refine WpC.seq ?_
    refine WpC.block ?_
    obtain ⟨v10, hv10, h⟩ := bind_some h
    refine rS { its := [(3, .c (class_Set_with.ok O hO k v3 (IntKind.u8.wrap v4) v10 hv10))] } [1, 4, 5, 6] [4, 5] hN (by kernel_rfl) (by kernel_rfl) ?_
    refine blockQ_normal ?_
    refine tnU ?_
    refine rS {} [1, 4, 5, 6] [4, 5] hN (by kernel_rfl) (by kernel_rfl) ?_
    refine tnU ?_
    exact ⟨n, Nat.lt_succ_self n, v10, (IntKind.i64.wrap (v4 + 1)), h, by kernel_rfl⟩
   ·replace h := ite_f hc9 h
    refine WpC.conv (cS [.k [4, 5] [4, 5]] (by kernel_rfl) (by kernel_rfl)) (WpC.exit ?_)
    refine thenQ_exit ?_
    have hq := Option.some.inj h
    subst hq
    refine thenQ_exit ?_
    have h := hout8
    refine blockQ_hit ?_
    refine tnU ?_
    exact ⟨v3, h, by kernel_rfl⟩
 ·rintro _ ⟨v1, h, rfl⟩
  unfold class_Span.j2 at h
  refine WpC.seq ?_
  refine rS {} [4] [4] hN (by kernel_rfl) (by kernel_rfl) ?_
  refine tnU ?_
  refine WpC.ret ?_
  have hq := Option.some.inj h
  subst hq
  exact eR (by kernel_rfl) (by kernel_rfl)

theorem class_Set_Union_1.ok (O : Out) (hO : GOkE O) (k : Nat) (a0 : Int) (a1 : Int) (out : Int) (h : class_Set_Union_1.f k a0 a1 = some out) : COk Un O Tryd.prog 67 { ar := [.p (.int .u64) a0, .p (.int .u64) a1], r := .p (.int .u64) out } := by
 refine cok_of_wp Tryd.func67 rfl (k := 8) rfl (Nat.le_of_ble_eq_true rfl) (namesOk_pure rfl rfl rfl rfl) ?_
 intro B hN
 refine WpC.conv (cvK (b := ⟨[(0, .p (.int .u64) a0), (1, .p (.int .u64) a1)], []⟩) [0, 1] [] (by kernel_rfl)) ?_
 unfold class_Set_Union_1.f at h
 refine WpC.seq ?_
 refine rS {} [0, 1] [] hN (by kernel_rfl) (by kernel_rfl) ?_
 refine tnU ?_
 refine WpC.seq ?_
 refine rS {} [4] [] hN (by kernel_rfl) (by kernel_rfl) ?_
 refine tnU ?_
 refine WpC.ret ?_
 have hq := Option.some.inj h
 subst hq
 exact eR (by kernel_rfl) (by kernel_rfl)

theorem class_Set_both_m0.ok (O : Out) (hO : GOkE O) (k : Nat) (a0 : List Int) (a1 : List Int) (out : List Int) (h : class_Set_both_m0.f k a0 a1 = some out) : COk Un O Tryd.prog 66 { ar := [.p U6 a0, .p U6 a1, .clo 67 []], r := .p U6 out } := by
 refine cok_of_wp Tryd.func66 rfl (k := 23) rfl (Nat.le_of_ble_eq_true rfl) (namesOk_pure rfl rfl rfl rfl) ?_
 intro B hN
 refine WpC.conv (cvK (b := ⟨[(0, .p U6 a0), (1, .p U6 a1), (2, .clo 67 [])], []⟩) [0, 1, 2] [] (by kernel_rfl)) ?_
 unfold class_Set_both_m0.f at h
 refine WpC.seq ?_
 refine rS {} [2, 3, 4, 6] [3, 4, 6] hN (by kernel_rfl) (by kernel_rfl) ?_
 refine tnU ?_
 refine sqJ (fun st' => ∃ v1 : List Int, class_Set_both_m0.j2 k v1 = some out ∧ st' = ⟨[(3, .loc 3 0), (6, .loc 6 0)], [(3, .box [.p U6 v1]), (6, .box [.p U6 ((List.replicate 4 (0 : Int)) : List Int)])]⟩) ?_ ?_
 ·refine WpC.seq ?_
  refine rS {} [2, 3, 4, 6, 8] [3, 4, 6] hN (by kernel_rfl) (by kernel_rfl) ?_
  refine tnU ?_
  refine WpC.block ?_
  obtain ⟨o7, hlo7, h⟩ := bind_some h
  have hout8 := h
  clear h
  refine WpC.loop (U := Un) (fun n st' => ∃ v3 : List Int, ∃ v4 : Int, class_Set_both_m0.l5 k a1 n v3 v4 = some o7 ∧ st' = ⟨[(2, .clo 67 []), (3, .loc 3 0), (4, .loc 4 0), (6, .loc 6 0), (8, .p I6 v4)], [(3, .box [.p U6 v3]), (4, .box [.p U6 a1]), (6, .box [.p U6 ((List.replicate 4 (0 : Int)) : List Int)])]⟩) k ⟨a0, 0, hlo7, by kernel_rfl⟩ ?_
  clear hlo7
  rintro (_ | n) _ ⟨v3, v4, h, rfl⟩
  ·cases h
  ·rw [class_Set_both_m0.l5] at h
   refine WpC.seq ?_
   refine rS {} [2, 3, 4, 6, 8, 9] [3, 4, 6] hN (by kernel_rfl) (by kernel_rfl) ?_
   refine tnU ?_
   refine WpC.seq ?_
   refine tS (b := (decide (v4 < 4))) (by kernel_rfl) (fun hc9 => ?_) (fun hc9 => ?_)
   ·replace h := ite_t hc9 h
    refine WpC.conv (cS [.k [2, 3, 4, 6, 8] [3, 4, 6]] (by kernel_rfl) (by kernel_rfl)) (WpC.skip ?_)
    refine tnU ?_
    refine WpC.seq ?_
    refine WpC.block ?_
    refine WpC.seq ?_
    refine rS {} [2, 3, 4, 6, 7, 8] [3, 4, 6] hN (by kernel_rfl) (by kernel_rfl) ?_
    refine tnU ?_
    obtain ⟨g10, h⟩ := if_some h
    obtain ⟨v11, hv11, h⟩ := bind_some h
    obtain ⟨g12, h⟩ := if_some h
    obtain ⟨v13, hv13, h⟩ := bind_some h
    obtain ⟨v14, hv14, h⟩ := bind_some h
    obtain ⟨g15, h⟩ := if_some h
    obtain ⟨v16, hv16, h⟩ := bind_some h
    refine rA { its := [(3, .g g10), (4, .v (.int .u64) hv11), (6, .g g12), (7, .v (.int .u64) hv13), (8, .c (class_Set_Union_1.ok O hO k v11 v13 v14 hv14)), (9, .g g15), (10, .v (.int .u64) hv16)] } [2, 3, 4, 6, 8] [3, 4, 6] hN (by kernel_rfl) (by kernel_rfl) (by kernel_rfl) ?_
    refine blockQ_normal ?_
    refine tnU ?_
    refine rS {} [2, 3, 4, 6, 8] [3, 4, 6] hN (by kernel_rfl) (by kernel_rfl) ?_
    refine tnU ?_
    exact ⟨n, Nat.lt_succ_self n, (upd v3 v4.toNat v14), (IntKind.i64.wrap (v4 + 1)), h, by kernel_rfl⟩
   ·replace h := ite_f hc9 h
    refine WpC.conv (cS [.k [3, 6] [3, 6]] (by kernel_rfl) (by kernel_rfl)) (WpC.exit ?_)
    refine thenQ_exit ?_
    have hq := Option.some.inj h
    subst hq
    refine thenQ_exit ?_
    have h := hout8
    refine blockQ_hit ?_
    refine tnU ?_
    exact ⟨v3, h, by kernel_rfl⟩
 ·rintro _ ⟨v1, h, rfl⟩
  unfold class_Set_both_m0.j2 at h
  refine WpC.seq ?_
  refine rS {} [6] [6] hN (by kernel_rfl) (by kernel_rfl) ?_
  refine tnU ?_
  refine WpC.ret ?_
  have hq := Option.some.inj h
  subst hq
  exact eR (by kernel_rfl) (by kernel_rfl)

theorem class_Set_Union.ok (O : Out) (hO : GOkE O) (k : Nat) (a0 : List Int) (a1 : List Int) (out : List Int) (h : class_Set_Union.f k a0 a1 = some out) : COk Un O Tryd.prog 56 { ar := [.p U6 a0, .p U6 a1], r := .p U6 out } := by
 refine cok_of_wp Tryd.func56 rfl (k := 8) rfl (Nat.le_of_ble_eq_true rfl) (namesOk_pure rfl rfl rfl rfl) ?_
 intro B hN
 refine WpC.conv (cvK (b := ⟨[(0, .p U6 a0), (1, .p U6 a1)], []⟩) [0, 1] [] (by kernel_rfl)) ?_
 unfold class_Set_Union.f at h
 refine WpC.seq ?_
 refine rS {} [2, 3, 4] [2, 3, 4] hN (by kernel_rfl) (by kernel_rfl) ?_
 refine tnU ?_
 refine WpC.seq ?_
 obtain ⟨v1, hv1, h⟩ := bind_some h
 refine rS { its := [(2, .c (class_Set_both_m0.ok O hO k a0 a1 v1 hv1))] } [4] [4] hN (by kernel_rfl) (by kernel_rfl) ?_
 refine tnU ?_
 refine WpC.ret ?_
 have hq := Option.some.inj h
 subst hq
 exact eR (by kernel_rfl) (by kernel_rfl)

theorem class_Set_Not.ok (O : Out) (hO : GOkE O) (k : Nat) (a0 : List Int) (out : List Int) (h : class_Set_Not.f k a0 = some out) : COk Un O Tryd.prog 81 { ar := [.p U6 a0], r := .p U6 out } := by
 refine cok_of_wp Tryd.func81 rfl (k := 16) rfl (Nat.le_of_ble_eq_true rfl) (namesOk_pure rfl rfl rfl rfl) ?_
 intro B hN
 refine WpC.conv (cvK (b := ⟨[(0, .p U6 a0)], []⟩) [0] [] (by kernel_rfl)) ?_
 unfold class_Set_Not.f at h
 refine WpC.seq ?_
 refine rS {} [1, 2] [1, 2] hN (by kernel_rfl) (by kernel_rfl) ?_
 refine tnU ?_
 refine sqJ (fun st' => ∃ v1 : List Int, class_Set_Not.j2 k v1 = some out ∧ st' = ⟨[(1, .loc 1 0), (2, .loc 2 0)], [(1, .box [.p U6 v1]), (2, .box [.p U6 ((List.replicate 4 (0 : Int)) : List Int)])]⟩) ?_ ?_
 ·refine WpC.seq ?_
  refine rS {} [1, 2, 5, 6] [1, 2] hN (by kernel_rfl) (by kernel_rfl) ?_
  refine tnU ?_
  refine WpC.block ?_
  obtain ⟨o7, hlo7, h⟩ := bind_some h
  have hout8 := h
  clear h
  refine WpC.loop (U := Un) (fun n st' => ∃ v3 : List Int, ∃ v4 : Int, class_Set_Not.l5 k a0 n v3 v4 = some o7 ∧ st' = ⟨[(1, .loc 1 0), (2, .loc 2 0), (5, .p U6 a0), (6, .p I6 v4)], [(1, .box [.p U6 v3]), (2, .box [.p U6 ((List.replicate 4 (0 : Int)) : List Int)])]⟩) k ⟨a0, 0, hlo7, by kernel_rfl⟩ ?_
  clear hlo7
  rintro (_ | n) _ ⟨v3, v4, h, rfl⟩
  ·cases h
  ·rw [class_Set_Not.l5] at h
   refine WpC.seq ?_
   refine rS {} [1, 2, 5, 6, 7] [1, 2] hN (by kernel_rfl) (by kernel_rfl) ?_
   refine tnU ?_
   refine WpC.seq ?_
   refine tS (b := (decide (v4 < 4))) (by kernel_rfl) (fun hc9 => ?_) (fun hc9 => ?_)
   ·replace h := ite_t hc9 h
    refine WpC.conv (cS [.k [1, 2, 5, 6] [1, 2]] (by kernel_rfl) (by kernel_rfl)) (WpC.skip ?_)
    refine tnU ?_
    refine WpC.seq ?_
    refine WpC.block ?_
    refine WpC.seq ?_
    obtain ⟨v10, hv10, h⟩ := bind_some h
    refine rS { its := [(1, .v (.int .u64) hv10)] } [1, 2, 3, 4, 5, 6] [1, 2] hN (by kernel_rfl) (by kernel_rfl) ?_
    refine tnU ?_
    obtain ⟨g11, h⟩ := if_some h
    obtain ⟨v12, hv12, h⟩ := bind_some h
    refine rS { its := [(3, .g g11), (4, .v (.int .u64) hv12)] } [1, 2, 5, 6] [1, 2] hN (by kernel_rfl) (by kernel_rfl) ?_
    refine blockQ_normal ?_
    refine tnU ?_
    refine rS {} [1, 2, 5, 6] [1, 2] hN (by kernel_rfl) (by kernel_rfl) ?_
    refine tnU ?_
    exact ⟨n, Nat.lt_succ_self n, (upd v3 v4.toNat (bits .xor .u64 18446744073709551615 v10)), (IntKind.i64.wrap (v4 + 1)), h, by kernel_rfl⟩
   ·replace h := ite_f hc9 h
    refine WpC.conv (cS [.k [1, 2] [1, 2]] (by kernel_rfl) (by kernel_rfl)) (WpC.exit ?_)
    refine thenQ_exit ?_
    have hq := Option.some.inj h
    subst hq
    refine thenQ_exit ?_
    have h := hout8
    refine blockQ_hit ?_
    refine tnU ?_
    exact ⟨v3, h, by kernel_rfl⟩
 ·rintro _ ⟨v1, h, rfl⟩
  unfold class_Set_Not.j2 at h
  refine WpC.seq ?_
  refine rS {} [2] [2] hN (by kernel_rfl) (by kernel_rfl) ?_
  refine tnU ?_
  refine WpC.ret ?_
  have hq := Option.some.inj h
  subst hq
  exact eR (by kernel_rfl) (by kernel_rfl)

theorem rex_parser_class_m0.ok (O : Out) (hO : GOkE O) (k : Nat) (a0 : List UInt8) (a1 : Int) (a2 : Int) (a3 : Bool) (out : (List Int) × Int × Bool) (h : rex_parser_class_m0.f k a0 a1 a2 a3 = some out) : COk Un O Tryd.prog 79 { ar := [.loc 100000 0], r := .p U6 out.1, bs := [(100000, .box [.p .str a0, .p I6 a1, .p I6 a2, .p .bool a3])], bs' := [(100000, .box [.p .str a0, .p I6 out.2.1, .p I6 a2, .p .bool out.2.2])] } := by
 refine cok_of_wp Tryd.func79 rfl (k := 69) rfl (Nat.le_of_ble_eq_true rfl) (namesOk_of (by kernel_rfl)) ?_
 intro B hN
 refine WpC.conv (cvK (b := ⟨[(0, .loc 100000 0)], [(100000, .box [.p .str a0, .p I6 a1, .p I6 a2, .p .bool a3])]⟩) [0] [100000] (by kernel_rfl)) ?_
 unfold rex_parser_class_m0.f at h
 refine WpC.seq ?_
 refine rS {} [0, 2] [2, 100000] hN (by kernel_rfl) (by kernel_rfl) ?_
 refine tnU ?_
 refine WpC.seq ?_
 obtain ⟨v1, hv1, h⟩ := bind_some h
 refine rS { its := [(1, .c (COk.ren (rex_parser_takes_m0.ok O hO k a0 a1 a2 a3 ([94] : List UInt8) v1 hv1) (fun n => if n = 100000 then 100000 else n) (injOn_of (by kernel_rfl))))] } [0, 2, 3] [2, 100000] hN (by kernel_rfl) (by kernel_rfl) ?_
 refine tnU ?_
 refine WpC.seq ?_
 refine rS {} [0, 2, 3, 4] [2, 4, 100000] hN (by kernel_rfl) (by kernel_rfl) ?_
 refine tnU ?_
 refine sqJ (fun st' => ∃ v2 : Int, ∃ v3 : Bool, ∃ v4 : List Int, rex_parser_class_m0.j12 k a0 a2 v1 v2 v3 v4 = some out ∧ st' = ⟨[(0, .loc 100000 0), (2, .loc 2 0), (3, .p .bool v1.1), (4, .loc 4 0)], [(2, .box [.p U6 ((List.replicate 4 (0 : Int)) : List Int)]), (4, .box [.p U6 v4]), (100000, .box [.p .str a0, .p I6 v2, .p I6 a2, .p .bool v3])]⟩) ?_ ?_
 ·refine WpC.seq ?_
  refine rS {} [0, 2, 3, 4, 5] [2, 4, 100000] hN (by kernel_rfl) (by kernel_rfl) ?_
  refine tnU ?_
  refine WpC.block ?_
  obtain ⟨o21, hlo21, h⟩ := bind_some h
  have hout22 := h
  clear h
  refine WpC.loop (U := Un) (fun n st' => ∃ v13 : Int, ∃ v14 : Bool, ∃ v15 : List Int, ∃ v16 : Bool, rex_parser_class_m0.l17 k a0 a2 v1 n v13 v14 v15 v16 = some o21 ∧ st' = ⟨[(0, .loc 100000 0), (2, .loc 2 0), (3, .p .bool v1.1), (4, .loc 4 0), (5, .p .bool v16)], [(2, .box [.p U6 ((List.replicate 4 (0 : Int)) : List Int)]), (4, .box [.p U6 v15]), (100000, .box [.p .str a0, .p I6 v13, .p I6 a2, .p .bool v14])]⟩) k ⟨v1.2, a3, (List.replicate 4 (0 : Int)), true, hlo21, by kernel_rfl⟩ ?_
  clear hlo21
  rintro (_ | n) _ ⟨v13, v14, v15, v16, h, rfl⟩
  ·cases h
  ·rw [rex_parser_class_m0.l17] at h
   refine sqJ (fun st' => rex_parser_class_m0.j42 k (rex_parser_class_m0.l17 k a0 a2 v1 n) a0 a2 v1 v13 v14 v15 = some o21 ∧ st' = ⟨[(0, .loc 100000 0), (2, .loc 2 0), (3, .p .bool v1.1), (4, .loc 4 0)], [(2, .box [.p U6 ((List.replicate 4 (0 : Int)) : List Int)]), (4, .box [.p U6 v15]), (100000, .box [.p .str a0, .p I6 v13, .p I6 a2, .p .bool v14])]⟩) ?_ ?_
   ·refine sqJ (fun st' => ∃ v43 : Bool, rex_parser_class_m0.j45 k (rex_parser_class_m0.l17 k a0 a2 v1 n) a0 a2 v1 v13 v14 v15 v43 = some o21 ∧ st' = ⟨[(0, .loc 100000 0), (2, .loc 2 0), (3, .p .bool v1.1), (4, .loc 4 0), (22, .p .bool v43)], [(2, .box [.p U6 ((List.replicate 4 (0 : Int)) : List Int)]), (4, .box [.p U6 v15]), (100000, .box [.p .str a0, .p I6 v13, .p I6 a2, .p .bool v14])]⟩) ?_ ?_
    ·rcases bool_cases (!v14) with hc46 | hc46
     ·replace h := ite_t hc46 h
      rcases bool_cases v16 with hc47 | hc47
      ·replace h := ite_t hc47 h
       refine rS { kn := [(15, .t hc46), (17, .t hc47)] } [0, 2, 3, 4, 22] [2, 4, 100000] hN (by kernel_rfl) (by kernel_rfl) ?_
       refine tnU ?_
       exact ⟨true, h, by kernel_rfl⟩
      ·replace h := ite_f hc47 h
       obtain ⟨v48, hv48, h⟩ := bind_some h
       refine rS { its := [(9, .c (COk.ren (rex_parser_sees_m0.ok O hO k a0 v13 a2 v14 ([93] : List UInt8) v48 hv48) (fun n => if n = 100000 then 100000 else n) (injOn_of (by kernel_rfl))))], kn := [(15, .t hc46), (17, .f hc47)] } [0, 2, 3, 4, 22] [2, 4, 100000] hN (by kernel_rfl) (by kernel_rfl) ?_
       refine tnU ?_
       exact ⟨(!v48), h, by kernel_rfl⟩
     ·replace h := ite_f hc46 h
      refine rS { kn := [(15, .f hc46)] } [0, 2, 3, 4, 22] [2, 4, 100000] hN (by kernel_rfl) (by kernel_rfl) ?_
      refine tnU ?_
      exact ⟨false, h, by kernel_rfl⟩
    ·rintro _ ⟨v43, h, rfl⟩
     unfold rex_parser_class_m0.j45 at h
     refine tS (b := v43) (by kernel_rfl) (fun hc44 => ?_) (fun hc44 => ?_)
     ·replace h := ite_t hc44 h
      refine WpC.conv (cS [.k [0, 2, 3, 4] [2, 4, 100000]] (by kernel_rfl) (by kernel_rfl)) (WpC.skip ?_)
      refine tnU ?_
      exact ⟨h, by kernel_rfl⟩
     ·replace h := ite_f hc44 h
      refine WpC.conv (cS [.k [0, 2, 3, 4] [2, 4, 100000]] (by kernel_rfl) (by kernel_rfl)) (WpC.exit ?_)
      refine thenQ_exit ?_
      have hq := Option.some.inj h
      subst hq
      refine thenQ_exit ?_
      have h := hout22
      refine blockQ_hit ?_
      refine tnU ?_
      exact ⟨v13, v14, v15, h, by kernel_rfl⟩
   ·rintro _ ⟨h, rfl⟩
    unfold rex_parser_class_m0.j42 at h
    refine sqJ (fun st' => ∃ v23 : Int, ∃ v24 : Bool, ∃ v25 : List Int, rex_parser_class_m0.j26 k (rex_parser_class_m0.l17 k a0 a2 v1 n) a0 a2 v1 v23 v24 v25 = some o21 ∧ st' = ⟨[(0, .loc 100000 0), (2, .loc 2 0), (3, .p .bool v1.1), (4, .loc 4 0)], [(2, .box [.p U6 ((List.replicate 4 (0 : Int)) : List Int)]), (4, .box [.p U6 v25]), (100000, .box [.p .str a0, .p I6 v23, .p I6 a2, .p .bool v24])]⟩) ?_ ?_
    ·refine WpC.block ?_
     refine WpC.seq ?_
     refine WpC.seq ?_
     obtain ⟨v27, hv27, h⟩ := bind_some h
     refine rS { its := [(1, .c (COk.ren (rex_parser_sees_m0.ok O hO k a0 v13 a2 v14 ([93] : List UInt8) v27 hv27) (fun n => if n = 100000 then 100000 else n) (injOn_of (by kernel_rfl))))] } [0, 2, 3, 4, 24] [2, 4, 100000] hN (by kernel_rfl) (by kernel_rfl) ?_
     refine tnU ?_
     refine tS (b := v27) (by kernel_rfl) (fun hc28 => ?_) (fun hc28 => ?_)
     ·replace h := ite_t hc28 h
      refine WpC.seq ?_
      refine rS {} [0, 2, 3, 4] [2, 4, 100000] hN (by kernel_rfl) (by kernel_rfl) ?_
      refine tnU ?_
      refine WpC.exit ?_
      refine thenQ_exit ?_
      refine blockQ_pass (by decide) ?_
      refine thenQ_exit ?_
      have hq := Option.some.inj h
      subst hq
      refine thenQ_exit ?_
      have h := hout22
      refine blockQ_hit ?_
      refine tnU ?_
      exact ⟨v13, true, v15, h, by kernel_rfl⟩
     ·replace h := ite_f hc28 h
      refine WpC.conv (cS [.k [0, 2, 3, 4] [2, 4, 100000]] (by kernel_rfl) (by kernel_rfl)) (WpC.skip ?_)
      refine tnU ?_
      refine WpC.seq ?_
      obtain ⟨v29, hv29, h⟩ := bind_some h
      refine rS { its := [(1, .c (COk.ren (rex_parser_member_m0.ok O hO k a0 v13 a2 v14 v29 hv29) (fun n => if n = 100000 then 100000 else n) (injOn_of (by kernel_rfl))))] } [0, 2, 3, 4, 6] [2, 4, 100000] hN (by kernel_rfl) (by kernel_rfl) ?_
      refine tnU ?_
      refine WpC.seq ?_
      refine rS {} [0, 2, 3, 4, 6, 7] [2, 4, 100000] hN (by kernel_rfl) (by kernel_rfl) ?_
      refine tnU ?_
      refine sqJ (fun st' => ∃ v30 : Int, ∃ v31 : Bool, ∃ v32 : Int, rex_parser_class_m0.j38 k (rex_parser_class_m0.l17 k a0 a2 v1 n) a0 a2 v1 v15 v29 v30 v31 v32 = some o21 ∧ st' = ⟨[(0, .loc 100000 0), (2, .loc 2 0), (3, .p .bool v1.1), (4, .loc 4 0), (6, .p (.int .u8) v29.1), (7, .p (.int .u8) v32)], [(2, .box [.p U6 ((List.replicate 4 (0 : Int)) : List Int)]), (4, .box [.p U6 v15]), (100000, .box [.p .str a0, .p I6 v30, .p I6 a2, .p .bool v31])]⟩) ?_ ?_
      ·refine WpC.seq ?_
       obtain ⟨v39, hv39, h⟩ := bind_some h
       refine rS { its := [(1, .c (COk.ren (rex_parser_spans_m0.ok O hO k a0 v29.2.1 a2 v29.2.2 v39 hv39) (fun n => if n = 100000 then 100000 else n) (injOn_of (by kernel_rfl))))] } [0, 2, 3, 4, 6, 7, 32] [2, 4, 100000] hN (by kernel_rfl) (by kernel_rfl) ?_
       refine tnU ?_
       refine tS (b := v39) (by kernel_rfl) (fun hc40 => ?_) (fun hc40 => ?_)
       ·replace h := ite_t hc40 h
        refine WpC.seq ?_
        refine rS {} [0, 2, 3, 4, 6] [2, 4, 100000] hN (by kernel_rfl) (by kernel_rfl) ?_
        refine tnU ?_
        obtain ⟨v41, hv41, h⟩ := bind_some h
        refine rS { its := [(1, .c (COk.ren (rex_parser_member_m0.ok O hO k a0 (IntKind.i64.wrap (v29.2.1 + 1)) a2 v29.2.2 v41 hv41) (fun n => if n = 100000 then 100000 else n) (injOn_of (by kernel_rfl))))] } [0, 2, 3, 4, 6, 7] [2, 4, 100000] hN (by kernel_rfl) (by kernel_rfl) ?_
        refine tnU ?_
        exact ⟨v41.2.1, v41.2.2, v41.1, h, by kernel_rfl⟩
       ·replace h := ite_f hc40 h
        refine WpC.conv (cS [.k [0, 2, 3, 4, 6, 7] [2, 4, 100000]] (by kernel_rfl) (by kernel_rfl)) (WpC.skip ?_)
        refine tnU ?_
        exact ⟨v29.2.1, v29.2.2, v29.1, h, by kernel_rfl⟩
      ·rintro _ ⟨v30, v31, v32, h, rfl⟩
       unfold rex_parser_class_m0.j38 at h
       refine sqJ (fun st' => ∃ v33 : Bool, rex_parser_class_m0.j36 k (rex_parser_class_m0.l17 k a0 a2 v1 n) a0 a2 v1 v15 v29 v30 v32 v33 = some o21 ∧ st' = ⟨[(0, .loc 100000 0), (2, .loc 2 0), (3, .p .bool v1.1), (4, .loc 4 0), (6, .p (.int .u8) v29.1), (7, .p (.int .u8) v32)], [(2, .box [.p U6 ((List.replicate 4 (0 : Int)) : List Int)]), (4, .box [.p U6 v15]), (100000, .box [.p .str a0, .p I6 v30, .p I6 a2, .p .bool v33])]⟩) ?_ ?_
       ·rcases bool_cases v31 with hc37 | hc37
        ·replace h := ite_t hc37 h
         refine rS { kn := [(47, .t hc37)] } [0, 2, 3, 4, 6, 7] [2, 4, 100000] hN (by kernel_rfl) (by kernel_rfl) ?_
         refine tnU ?_
         exact ⟨true, h, by kernel_rfl⟩
        ·replace h := ite_f hc37 h
         refine rS { kn := [(47, .f hc37)] } [0, 2, 3, 4, 6, 7] [2, 4, 100000] hN (by kernel_rfl) (by kernel_rfl) ?_
         refine tnU ?_
         exact ⟨(decide (v32 < v29.1)), h, by kernel_rfl⟩
       ·rintro _ ⟨v33, h, rfl⟩
        unfold rex_parser_class_m0.j36 at h
        obtain ⟨v34, hv34, h⟩ := bind_some h
        obtain ⟨v35, hv35, h⟩ := bind_some h
        refine rA { its := [(3, .c (class_Span.ok O hO k v29.1 v32 v34 hv34)), (4, .c (class_Set_Union.ok O hO k v15 v34 v35 hv35))] } [0, 2, 3, 4] [2, 4, 100000] hN (by kernel_rfl) (by kernel_rfl) (by kernel_rfl) ?_
        refine blockQ_normal ?_
        refine tnU ?_
        exact ⟨v30, v33, v35, h, by kernel_rfl⟩
    ·rintro _ ⟨v23, v24, v25, h, rfl⟩
     unfold rex_parser_class_m0.j26 at h
     refine rS {} [0, 2, 3, 4, 5] [2, 4, 100000] hN (by kernel_rfl) (by kernel_rfl) ?_
     refine tnU ?_
     exact ⟨n, Nat.lt_succ_self n, v23, v24, v25, false, h, by kernel_rfl⟩
 ·rintro _ ⟨v2, v3, v4, h, rfl⟩
  unfold rex_parser_class_m0.j12 at h
  refine sqJ (fun st' => ∃ v5 : Int, ∃ v6 : Bool, rex_parser_class_m0.j9 k a0 a2 v1 v4 v5 v6 = some out ∧ st' = ⟨[(2, .loc 2 0), (3, .p .bool v1.1), (4, .loc 4 0)], [(2, .box [.p U6 ((List.replicate 4 (0 : Int)) : List Int)]), (4, .box [.p U6 v4]), (100000, .box [.p .str a0, .p I6 v5, .p I6 a2, .p .bool v6])]⟩) ?_ ?_
  ·refine WpC.seq ?_
   obtain ⟨v10, hv10, h⟩ := bind_some h
   refine rS { its := [(1, .c (COk.ren (rex_parser_takes_m0.ok O hO k a0 v2 a2 v3 ([93] : List UInt8) v10 hv10) (fun n => if n = 100000 then 100000 else n) (injOn_of (by kernel_rfl))))] } [0, 2, 3, 4, 61] [2, 4, 100000] hN (by kernel_rfl) (by kernel_rfl) ?_
   refine tnU ?_
   refine tS (b := (!v10.1)) (by kernel_rfl) (fun hc11 => ?_) (fun hc11 => ?_)
   ·replace h := ite_t hc11 h
    refine rS {} [2, 3, 4] [2, 4, 100000] hN (by kernel_rfl) (by kernel_rfl) ?_
    refine tnU ?_
    exact ⟨v10.2, true, h, by kernel_rfl⟩
   ·replace h := ite_f hc11 h
    refine WpC.conv (cS [.k [2, 3, 4] [2, 4, 100000]] (by kernel_rfl) (by kernel_rfl)) (WpC.skip ?_)
    refine tnU ?_
    exact ⟨v10.2, v3, h, by kernel_rfl⟩
  ·rintro _ ⟨v5, v6, h, rfl⟩
   unfold rex_parser_class_m0.j9 at h
   refine WpC.seq ?_
   refine WpC.seq ?_
   refine rS {} [2, 4, 65] [2, 4, 100000] hN (by kernel_rfl) (by kernel_rfl) ?_
   refine tnU ?_
   refine tS (b := v1.1) (by kernel_rfl) (fun hc7 => ?_) (fun hc7 => ?_)
   ·replace h := ite_t hc7 h
    refine WpC.seq ?_
    obtain ⟨v8, hv8, h⟩ := bind_some h
    refine rS { its := [(1, .c (class_Set_Not.ok O hO k v4 v8 hv8))] } [2] [2, 100000] hN (by kernel_rfl) (by kernel_rfl) ?_
    refine tnU ?_
    refine WpC.ret ?_
    refine thenQ_ret ?_
    have hq := Option.some.inj h
    subst hq
    exact eR (by kernel_rfl) (by kernel_rfl)
   ·replace h := ite_f hc7 h
    refine WpC.conv (cS [.k [2, 4] [2, 4, 100000]] (by kernel_rfl) (by kernel_rfl)) (WpC.skip ?_)
    refine tnU ?_
    refine WpC.seq ?_
    refine rS {} [2] [2, 100000] hN (by kernel_rfl) (by kernel_rfl) ?_
    refine tnU ?_
    refine WpC.ret ?_
    have hq := Option.some.inj h
    subst hq
    exact eR (by kernel_rfl) (by kernel_rfl)

theorem class_Of.ok (O : Out) (hO : GOkE O) (k : Nat) (a0 : List Int) (out : List Int) (h : class_Of.f k a0 = some out) : COk Un O Tryd.prog 80 { ar := [.p (.list (.int .u8)) a0], r := .p U6 out } := by
 refine cok_of_wp Tryd.func80 rfl (k := 17) rfl (Nat.le_of_ble_eq_true rfl) (namesOk_pure rfl rfl rfl rfl) ?_
 intro B hN
 refine WpC.conv (cvK (b := ⟨[(0, .p (.list (.int .u8)) a0)], []⟩) [0] [] (by kernel_rfl)) ?_
 unfold class_Of.f at h
 refine WpC.seq ?_
 refine rS {} [0, 2] [2] hN (by kernel_rfl) (by kernel_rfl) ?_
 refine tnU ?_
 refine WpC.seq ?_
 refine rS {} [0, 2, 3] [2, 3] hN (by kernel_rfl) (by kernel_rfl) ?_
 refine tnU ?_
 refine sqJ (fun st' => ∃ v1 : List Int, class_Of.j2 k v1 = some out ∧ st' = ⟨[(2, .loc 2 0), (3, .loc 3 0)], [(2, .box [.p U6 ((List.replicate 4 (0 : Int)) : List Int)]), (3, .box [.p U6 v1])]⟩) ?_ ?_
 ·refine WpC.seq ?_
  refine rS {} [2, 3, 6, 7, 8] [2, 3] hN (by kernel_rfl) (by kernel_rfl) ?_
  refine tnU ?_
  refine WpC.block ?_
  obtain ⟨o7, hlo7, h⟩ := bind_some h
  have hout8 := h
  clear h
  refine WpC.loop (U := Un) (fun n st' => ∃ v3 : List Int, ∃ v4 : Int, class_Of.l5 k a0 n v3 v4 = some o7 ∧ st' = ⟨[(2, .loc 2 0), (3, .loc 3 0), (6, .p (.list (.int .u8)) a0), (7, .p I6 ((a0.length : Int) : Int)), (8, .p I6 v4)], [(2, .box [.p U6 ((List.replicate 4 (0 : Int)) : List Int)]), (3, .box [.p U6 v3])]⟩) k ⟨(List.replicate 4 (0 : Int)), 0, hlo7, by kernel_rfl⟩ ?_
  clear hlo7
  rintro (_ | n) _ ⟨v3, v4, h, rfl⟩
  ·cases h
  ·rw [class_Of.l5] at h
   refine WpC.seq ?_
   refine rS {} [2, 3, 6, 7, 8, 9] [2, 3] hN (by kernel_rfl) (by kernel_rfl) ?_
   refine tnU ?_
   refine WpC.seq ?_
   refine tS (b := (decide (v4 < (a0.length : Int)))) (by kernel_rfl) (fun hc9 => ?_) (fun hc9 => ?_)
   ·replace h := ite_t hc9 h
    refine WpC.conv (cS [.k [2, 3, 6, 7, 8] [2, 3]] (by kernel_rfl) (by kernel_rfl)) (WpC.skip ?_)
    refine tnU ?_
    refine WpC.seq ?_
    refine WpC.block ?_
    refine WpC.seq ?_
    obtain ⟨v10, hv10, h⟩ := bind_some h
    refine rS { its := [(0, .v (.int .u8) hv10)] } [2, 3, 5, 6, 7, 8] [2, 3] hN (by kernel_rfl) (by kernel_rfl) ?_
    refine tnU ?_
    obtain ⟨v11, hv11, h⟩ := bind_some h
    refine rS { its := [(2, .c (class_Set_with.ok O hO k v3 v10 v11 hv11))] } [2, 3, 6, 7, 8] [2, 3] hN (by kernel_rfl) (by kernel_rfl) ?_
    refine blockQ_normal ?_
    refine tnU ?_
    refine rS {} [2, 3, 6, 7, 8] [2, 3] hN (by kernel_rfl) (by kernel_rfl) ?_
    refine tnU ?_
    exact ⟨n, Nat.lt_succ_self n, v11, (IntKind.i64.wrap (v4 + 1)), h, by kernel_rfl⟩
   ·replace h := ite_f hc9 h
    refine WpC.conv (cS [.k [2, 3] [2, 3]] (by kernel_rfl) (by kernel_rfl)) (WpC.exit ?_)
    refine thenQ_exit ?_
    have hq := Option.some.inj h
    subst hq
    refine thenQ_exit ?_
    have h := hout8
    refine blockQ_hit ?_
    refine tnU ?_
    exact ⟨v3, h, by kernel_rfl⟩
 ·rintro _ ⟨v1, h, rfl⟩
  unfold class_Of.j2 at h
  refine WpC.seq ?_
  refine rS {} [2] [2] hN (by kernel_rfl) (by kernel_rfl) ?_
  refine tnU ?_
  refine WpC.ret ?_
  have hq := Option.some.inj h
  subst hq
  exact eR (by kernel_rfl) (by kernel_rfl)

theorem rex_single.ok (O : Out) (hO : GOkE O) (k : Nat) (a0 : Int) (out : T_rex_Node) (h : rex_single.f k a0 = some out) : COk Un O Tryd.prog 82 { ar := [.p (.int .u8) a0], r := .p (.named 3) out } := by
 refine cok_of_wp Tryd.func82 rfl (k := 7) rfl (Nat.le_of_ble_eq_true rfl) (namesOk_pure rfl rfl rfl rfl) ?_
 intro B hN
 refine WpC.conv (cvK (b := ⟨[(0, .p (.int .u8) a0)], []⟩) [0] [] (by kernel_rfl)) ?_
 unfold rex_single.f at h
 refine WpC.seq ?_
 refine rS {} [0, 2] [2] hN (by kernel_rfl) (by kernel_rfl) ?_
 refine tnU ?_
 refine WpC.seq ?_
 obtain ⟨v1, hv1, h⟩ := bind_some h
 refine rS { its := [(2, .c (class_Of.ok O hO k [a0] v1 hv1))] } [2] [2] hN (by kernel_rfl) (by kernel_rfl) ?_
 refine tnU ?_
 refine WpC.ret ?_
 have hq := Option.some.inj h
 subst hq
 exact eR (by kernel_rfl) (by kernel_rfl)

theorem rex_parser_group_m0.bok (O : Out) (hO : GOkE O) (k : Nat) (rf_rex_parser_expression_m0 : (List UInt8) → Int → Int → Bool → Option (T_rex_Node × Int × Int × Bool)) (hrf_rex_parser_expression_m0 : ∀ (a0 : List UInt8) (a1 : Int) (a2 : Int) (a3 : Bool) (out : T_rex_Node × Int × Int × Bool), rf_rex_parser_expression_m0 a0 a1 a2 a3 = some out → COk Un O Tryd.prog 43 { ar := [.loc 100000 0], r := .p (.named 3) out.1, bs := [(100000, .box [.p .str a0, .p I6 a1, .p I6 a2, .p .bool a3])], bs' := [(100000, .box [.p .str a0, .p I6 out.2.1, .p I6 out.2.2.1, .p .bool out.2.2.2])] }) (a0 : List UInt8) (a1 : Int) (a2 : Int) (a3 : Bool) (out : T_rex_Node × Int × Int × Bool) (h : rex_parser_group_m0.b k rf_rex_parser_expression_m0 a0 a1 a2 a3 = some out) : COk Un O Tryd.prog 78 { ar := [.loc 100000 0], r := .p (.named 3) out.1, bs := [(100000, .box [.p .str a0, .p I6 a1, .p I6 a2, .p .bool a3])], bs' := [(100000, .box [.p .str a0, .p I6 out.2.1, .p I6 out.2.2.1, .p .bool out.2.2.2])] } := by
 refine cok_of_wp Tryd.func78 rfl (k := 27) rfl (Nat.le_of_ble_eq_true rfl) (namesOk_of (by kernel_rfl)) ?_
 intro B hN
 refine WpC.conv (cvK (b := ⟨[(0, .loc 100000 0)], [(100000, .box [.p .str a0, .p I6 a1, .p I6 a2, .p .bool a3])]⟩) [0] [100000] (by kernel_rfl)) ?_
 unfold rex_parser_group_m0.b at h
 refine WpC.seq ?_
 refine rS {} [0, 2] [2, 100000] hN (by kernel_rfl) (by kernel_rfl) ?_
 refine tnU ?_
 refine WpC.seq ?_
 refine rS {} [0, 2] [2, 100000] hN (by kernel_rfl) (by kernel_rfl) ?_
 refine tnU ?_
 refine WpC.seq ?_
 refine rS {} [0, 2, 3] [2, 3, 100000] hN (by kernel_rfl) (by kernel_rfl) ?_
 refine tnU ?_
 refine WpC.seq ?_
 obtain ⟨v1, hv1, h⟩ := bind_some h
 refine rS { its := [(1, .c (COk.ren (hrf_rex_parser_expression_m0 a0 a1 (IntKind.i64.wrap (a2 + 1)) a3 v1 hv1) (fun n => if n = 100000 then 100000 else n) (injOn_of (by kernel_rfl))))], fz := [2] } [0, 2, 3] [2, 3, 100000] hN (by kernel_rfl) (by kernel_rfl) ?_
 refine tnU ?_
 refine sqJ (fun st' => ∃ v2 : Int, ∃ v3 : Bool, rex_parser_group_m0.j4 k a0 a2 v1 v2 v3 = some out ∧ st' = ⟨[(2, .loc 2 0), (3, .loc 3 0)], [(2, .box [.p I6 (0 : Int), .p I6 (0 : Int), .p U6 ((List.replicate 4 (0 : Int)) : List Int), .p (.list (.named 3)) ([] : List T_rex_Node)]), (3, .box [.p I6 (7 : Int), .p I6 ((IntKind.i64.wrap (a2 + 1)) : Int), .p U6 ((List.replicate 4 (0 : Int)) : List Int), .p (.list (.named 3)) ([v1.1] : List T_rex_Node)]), (100000, .box [.p .str a0, .p I6 v2, .p I6 v1.2.2.1, .p .bool v3])]⟩) ?_ ?_
 ·refine WpC.seq ?_
  obtain ⟨v5, hv5, h⟩ := bind_some h
  refine rS { its := [(1, .c (COk.ren (rex_parser_takes_m0.ok O hO k a0 v1.2.1 v1.2.2.1 v1.2.2.2 ([41] : List UInt8) v5 hv5) (fun n => if n = 100000 then 100000 else n) (injOn_of (by kernel_rfl))))] } [0, 2, 3, 22] [2, 3, 100000] hN (by kernel_rfl) (by kernel_rfl) ?_
  refine tnU ?_
  refine tS (b := (!v5.1)) (by kernel_rfl) (fun hc6 => ?_) (fun hc6 => ?_)
  ·replace h := ite_t hc6 h
   refine rS {} [2, 3] [2, 3, 100000] hN (by kernel_rfl) (by kernel_rfl) ?_
   refine tnU ?_
   exact ⟨v5.2, true, h, by kernel_rfl⟩
  ·replace h := ite_f hc6 h
   refine WpC.conv (cS [.k [2, 3] [2, 3, 100000]] (by kernel_rfl) (by kernel_rfl)) (WpC.skip ?_)
   refine tnU ?_
   exact ⟨v5.2, v1.2.2.2, h, by kernel_rfl⟩
 ·rintro _ ⟨v2, v3, h, rfl⟩
  unfold rex_parser_group_m0.j4 at h
  refine WpC.seq ?_
  refine rS {} [2] [2, 100000] hN (by kernel_rfl) (by kernel_rfl) ?_
  refine tnU ?_
  refine WpC.ret ?_
  have hq := Option.some.inj h
  subst hq
  exact eR (by kernel_rfl) (by kernel_rfl)

theorem rex_parser_atom_m0.bok (O : Out) (hO : GOkE O) (k : Nat) (rf_rex_parser_group_m0 : (List UInt8) → Int → Int → Bool → Option (T_rex_Node × Int × Int × Bool)) (hrf_rex_parser_group_m0 : ∀ (a0 : List UInt8) (a1 : Int) (a2 : Int) (a3 : Bool) (out : T_rex_Node × Int × Int × Bool), rf_rex_parser_group_m0 a0 a1 a2 a3 = some out → COk Un O Tryd.prog 78 { ar := [.loc 100000 0], r := .p (.named 3) out.1, bs := [(100000, .box [.p .str a0, .p I6 a1, .p I6 a2, .p .bool a3])], bs' := [(100000, .box [.p .str a0, .p I6 out.2.1, .p I6 out.2.2.1, .p .bool out.2.2.2])] }) (a0 : List UInt8) (a1 : Int) (a2 : Int) (a3 : Bool) (out : T_rex_Node × Int × Int × Bool) (h : rex_parser_atom_m0.b k rf_rex_parser_group_m0 a0 a1 a2 a3 = some out) : COk Un O Tryd.prog 75 { ar := [.loc 100000 0], r := .p (.named 3) out.1, bs := [(100000, .box [.p .str a0, .p I6 a1, .p I6 a2, .p .bool a3])], bs' := [(100000, .box [.p .str a0, .p I6 out.2.1, .p I6 out.2.2.1, .p .bool out.2.2.2])] } := by
 refine cok_of_wp Tryd.func75 rfl (k := 43) rfl (Nat.le_of_ble_eq_true rfl) (namesOk_of (by kernel_rfl)) ?_
 intro B hN
 refine WpC.conv (cvK (b := ⟨[(0, .loc 100000 0)], [(100000, .box [.p .str a0, .p I6 a1, .p I6 a2, .p .bool a3])]⟩) [0] [100000] (by kernel_rfl)) ?_
 unfold rex_parser_atom_m0.b at h
 refine WpC.seq ?_
 refine rS {} [0, 2] [2, 100000] hN (by kernel_rfl) (by kernel_rfl) ?_
 refine tnU ?_
 refine WpC.seq ?_
 obtain ⟨v1, hv1, h⟩ := bind_some h
 refine rS { its := [(1, .c (COk.ren (rex_parser_byte_m0.ok O hO k a0 a1 a2 a3 v1 hv1) (fun n => if n = 100000 then 100000 else n) (injOn_of (by kernel_rfl))))] } [0, 2, 3] [2, 100000] hN (by kernel_rfl) (by kernel_rfl) ?_
 refine tnU ?_
 refine WpC.seq ?_
 refine rS {} [0, 2, 3, 6] [2, 100000] hN (by kernel_rfl) (by kernel_rfl) ?_
 refine tnU ?_
 refine WpC.block ?_
 refine WpC.seq ?_
 refine rS {} [0, 2, 3, 6, 9] [2, 100000] hN (by kernel_rfl) (by kernel_rfl) ?_
 refine tnU ?_
 refine tS (b := (v1.1 == 40)) (by kernel_rfl) (fun hc2 => ?_) (fun hc2 => ?_)
 ·replace h := ite_t hc2 h
  refine WpC.seq ?_
  obtain ⟨v3, hv3, h⟩ := bind_some h
  refine rS { its := [(1, .c (COk.ren (hrf_rex_parser_group_m0 a0 v1.2.1 a2 v1.2.2 v3 hv3) (fun n => if n = 100000 then 100000 else n) (injOn_of (by kernel_rfl))))] } [2] [2, 100000] hN (by kernel_rfl) (by kernel_rfl) ?_
  refine tnU ?_
  refine WpC.ret ?_
  refine blockQ_ret ?_
  have hq := Option.some.inj h
  subst hq
  exact eR (by kernel_rfl) (by kernel_rfl)
 ·replace h := ite_f hc2 h
  refine WpC.seq ?_
  refine rS {} [0, 2, 3, 6, 13] [2, 100000] hN (by kernel_rfl) (by kernel_rfl) ?_
  refine tnU ?_
  refine tS (b := (v1.1 == 91)) (by kernel_rfl) (fun hc4 => ?_) (fun hc4 => ?_)
  ·replace h := ite_t hc4 h
   refine WpC.seq ?_
   obtain ⟨v5, hv5, h⟩ := bind_some h
   refine rS { its := [(1, .c (COk.ren (rex_parser_class_m0.ok O hO k a0 v1.2.1 a2 v1.2.2 v5 hv5) (fun n => if n = 100000 then 100000 else n) (injOn_of (by kernel_rfl))))] } [2] [2, 100000] hN (by kernel_rfl) (by kernel_rfl) ?_
   refine tnU ?_
   refine WpC.ret ?_
   refine blockQ_ret ?_
   have hq := Option.some.inj h
   subst hq
   exact eR (by kernel_rfl) (by kernel_rfl)
  ·replace h := ite_f hc4 h
   refine WpC.seq ?_
   refine rS {} [0, 2, 3, 6, 18] [2, 100000] hN (by kernel_rfl) (by kernel_rfl) ?_
   refine tnU ?_
   refine tS (b := (v1.1 == 46)) (by kernel_rfl) (fun hc6 => ?_) (fun hc6 => ?_)
   ·replace h := ite_t hc6 h
    refine WpC.seq ?_
    obtain ⟨v7, hv7, h⟩ := bind_some h
    obtain ⟨v8, hv8, h⟩ := bind_some h
    refine rS { its := [(1, .c (class_Of.ok O hO k [(10 : Int)] v7 hv7)), (2, .c (class_Set_Not.ok O hO k v7 v8 hv8))] } [2] [2, 100000] hN (by kernel_rfl) (by kernel_rfl) ?_
    refine tnU ?_
    refine WpC.ret ?_
    refine blockQ_ret ?_
    have hq := Option.some.inj h
    subst hq
    exact eR (by kernel_rfl) (by kernel_rfl)
   ·replace h := ite_f hc6 h
    refine WpC.seq ?_
    refine rS {} [0, 2, 3, 6, 24] [2, 100000] hN (by kernel_rfl) (by kernel_rfl) ?_
    refine tnU ?_
    refine tS (b := (v1.1 == 94)) (by kernel_rfl) (fun hc9 => ?_) (fun hc9 => ?_)
    ·replace h := ite_t hc9 h
     refine WpC.seq ?_
     refine rS {} [2] [2, 100000] hN (by kernel_rfl) (by kernel_rfl) ?_
     refine tnU ?_
     refine WpC.ret ?_
     refine blockQ_ret ?_
     have hq := Option.some.inj h
     subst hq
     exact eR (by kernel_rfl) (by kernel_rfl)
    ·replace h := ite_f hc9 h
     refine WpC.seq ?_
     refine rS {} [0, 2, 3, 6, 27] [2, 100000] hN (by kernel_rfl) (by kernel_rfl) ?_
     refine tnU ?_
     refine tS (b := (v1.1 == 36)) (by kernel_rfl) (fun hc10 => ?_) (fun hc10 => ?_)
     ·replace h := ite_t hc10 h
      refine WpC.seq ?_
      refine rS {} [2] [2, 100000] hN (by kernel_rfl) (by kernel_rfl) ?_
      refine tnU ?_
      refine WpC.ret ?_
      refine blockQ_ret ?_
      have hq := Option.some.inj h
      subst hq
      exact eR (by kernel_rfl) (by kernel_rfl)
     ·replace h := ite_f hc10 h
      refine WpC.seq ?_
      refine rS {} [0, 2, 3, 6, 30] [2, 100000] hN (by kernel_rfl) (by kernel_rfl) ?_
      refine tnU ?_
      refine tS (b := (v1.1 == 92)) (by kernel_rfl) (fun hc11 => ?_) (fun hc11 => ?_)
      ·replace h := ite_t hc11 h
       refine WpC.seq ?_
       obtain ⟨v12, hv12, h⟩ := bind_some h
       obtain ⟨v13, hv13, h⟩ := bind_some h
       refine rS { its := [(1, .c (COk.ren (rex_parser_byte_m0.ok O hO k a0 v1.2.1 a2 v1.2.2 v12 hv12) (fun n => if n = 100000 then 100000 else n) (injOn_of (by kernel_rfl)))), (2, .c (rex_single.ok O hO k v12.1 v13 hv13))] } [2] [2, 100000] hN (by kernel_rfl) (by kernel_rfl) ?_
       refine tnU ?_
       refine WpC.ret ?_
       refine blockQ_ret ?_
       have hq := Option.some.inj h
       subst hq
       exact eR (by kernel_rfl) (by kernel_rfl)
      ·replace h := ite_f hc11 h
       refine sqJ (fun st' => ∃ v14 : Bool, rex_parser_atom_m0.j17 k a0 a2 v1 v14 = some out ∧ st' = ⟨[(0, .loc 100000 0), (2, .loc 2 0), (3, .p (.int .u8) v1.1), (35, .p .bool v14)], [(2, .box [.p I6 (0 : Int), .p I6 (0 : Int), .p U6 ((List.replicate 4 (0 : Int)) : List Int), .p (.list (.named 3)) ([] : List T_rex_Node)]), (100000, .box [.p .str a0, .p I6 v1.2.1, .p I6 a2, .p .bool v1.2.2])]⟩) ?_ ?_
       ·refine WpC.seq ?_
        refine rS {} [0, 2, 3, 6, 35] [2, 100000] hN (by kernel_rfl) (by kernel_rfl) ?_
        refine tnU ?_
        refine tS (b := (v1.1 == 42)) (by kernel_rfl) (fun hc18 => ?_) (fun hc18 => ?_)
        ·replace h := ite_t hc18 h
         refine WpC.conv (cS [.k [0, 2, 3, 35] [2, 100000]] (by kernel_rfl) (by kernel_rfl)) (WpC.skip ?_)
         refine tnU ?_
         exact ⟨(v1.1 == 42), h, by kernel_rfl⟩
        ·replace h := ite_f hc18 h
         refine WpC.seq ?_
         refine rS {} [0, 2, 3, 6, 35] [2, 100000] hN (by kernel_rfl) (by kernel_rfl) ?_
         refine tnU ?_
         refine tS (b := (v1.1 == 43)) (by kernel_rfl) (fun hc19 => ?_) (fun hc19 => ?_)
         ·replace h := ite_t hc19 h
          refine WpC.conv (cS [.k [0, 2, 3, 35] [2, 100000]] (by kernel_rfl) (by kernel_rfl)) (WpC.skip ?_)
          refine tnU ?_
          exact ⟨(v1.1 == 43), h, by kernel_rfl⟩
         ·replace h := ite_f hc19 h
          refine rS {} [0, 2, 3, 35] [2, 100000] hN (by kernel_rfl) (by kernel_rfl) ?_
          refine tnU ?_
          exact ⟨(v1.1 == 63), h, by kernel_rfl⟩
       ·rintro _ ⟨v14, h, rfl⟩
        unfold rex_parser_atom_m0.j17 at h
        refine tS (b := v14) (by kernel_rfl) (fun hc15 => ?_) (fun hc15 => ?_)
        ·replace h := ite_t hc15 h
         refine WpC.seq ?_
         refine rS {} [2] [2, 100000] hN (by kernel_rfl) (by kernel_rfl) ?_
         refine tnU ?_
         refine WpC.seq ?_
         refine rS {} [2] [2, 100000] hN (by kernel_rfl) (by kernel_rfl) ?_
         refine tnU ?_
         refine WpC.ret ?_
         refine blockQ_ret ?_
         have hq := Option.some.inj h
         subst hq
         exact eR (by kernel_rfl) (by kernel_rfl)
        ·replace h := ite_f hc15 h
         refine WpC.seq ?_
         obtain ⟨v16, hv16, h⟩ := bind_some h
         refine rS { its := [(1, .c (rex_single.ok O hO k v1.1 v16 hv16))] } [2] [2, 100000] hN (by kernel_rfl) (by kernel_rfl) ?_
         refine tnU ?_
         refine WpC.ret ?_
         refine blockQ_ret ?_
         have hq := Option.some.inj h
         subst hq
         exact eR (by kernel_rfl) (by kernel_rfl)

theorem rex_parser_item_m0.bok (O : Out) (hO : GOkE O) (k : Nat) (rf_rex_parser_atom_m0 : (List UInt8) → Int → Int → Bool → Option (T_rex_Node × Int × Int × Bool)) (hrf_rex_parser_atom_m0 : ∀ (a0 : List UInt8) (a1 : Int) (a2 : Int) (a3 : Bool) (out : T_rex_Node × Int × Int × Bool), rf_rex_parser_atom_m0 a0 a1 a2 a3 = some out → COk Un O Tryd.prog 75 { ar := [.loc 100000 0], r := .p (.named 3) out.1, bs := [(100000, .box [.p .str a0, .p I6 a1, .p I6 a2, .p .bool a3])], bs' := [(100000, .box [.p .str a0, .p I6 out.2.1, .p I6 out.2.2.1, .p .bool out.2.2.2])] }) (a0 : List UInt8) (a1 : Int) (a2 : Int) (a3 : Bool) (out : T_rex_Node × Int × Int × Bool) (h : rex_parser_item_m0.b k rf_rex_parser_atom_m0 a0 a1 a2 a3 = some out) : COk Un O Tryd.prog 71 { ar := [.loc 100000 0], r := .p (.named 3) out.1, bs := [(100000, .box [.p .str a0, .p I6 a1, .p I6 a2, .p .bool a3])], bs' := [(100000, .box [.p .str a0, .p I6 out.2.1, .p I6 out.2.2.1, .p .bool out.2.2.2])] } := by
 refine cok_of_wp Tryd.func71 rfl (k := 25) rfl (Nat.le_of_ble_eq_true rfl) (namesOk_of (by kernel_rfl)) ?_
 intro B hN
 refine WpC.conv (cvK (b := ⟨[(0, .loc 100000 0)], [(100000, .box [.p .str a0, .p I6 a1, .p I6 a2, .p .bool a3])]⟩) [0] [100000] (by kernel_rfl)) ?_
 unfold rex_parser_item_m0.b at h
 refine WpC.seq ?_
 refine rS {} [0, 2] [2, 100000] hN (by kernel_rfl) (by kernel_rfl) ?_
 refine tnU ?_
 refine WpC.seq ?_
 obtain ⟨v1, hv1, h⟩ := bind_some h
 refine rS { its := [(1, .c (COk.ren (hrf_rex_parser_atom_m0 a0 a1 a2 a3 v1 hv1) (fun n => if n = 100000 then 100000 else n) (injOn_of (by kernel_rfl))))] } [0, 2, 3] [2, 3, 100000] hN (by kernel_rfl) (by kernel_rfl) ?_
 refine tnU ?_
 refine WpC.block ?_
 obtain ⟨o8, hlo8, h⟩ := bind_some h
 have hout9 := h
 clear h
 refine WpC.loop (U := Un) (fun n st' => ∃ v2 : Int, ∃ v3 : Int, ∃ v4 : Int, ∃ v5 : List Int, ∃ v6 : List T_rex_Node, rex_parser_item_m0.l7 k a0 v1 n v2 v3 v4 v5 v6 = some o8 ∧ st' = ⟨[(0, .loc 100000 0), (2, .loc 2 0), (3, .loc 3 0)], [(2, .box [.p I6 (0 : Int), .p I6 (0 : Int), .p U6 ((List.replicate 4 (0 : Int)) : List Int), .p (.list (.named 3)) ([] : List T_rex_Node)]), (3, .box [.p I6 v3, .p I6 v4, .p U6 v5, .p (.list (.named 3)) v6]), (100000, .box [.p .str a0, .p I6 v2, .p I6 v1.2.2.1, .p .bool v1.2.2.2])]⟩) k ⟨v1.2.1, v1.1.f_Kind, v1.1.f_Index, v1.1.f_Set, v1.1.f_Kids, hlo8, by kernel_rfl⟩ ?_
 clear hlo8
 rintro (_ | n) _ ⟨v2, v3, v4, v5, v6, h, rfl⟩
 ·cases h
 ·rw [rex_parser_item_m0.l7] at h
  refine WpC.block ?_
  refine WpC.block ?_
  refine WpC.seq ?_
  obtain ⟨v10, hv10, h⟩ := bind_some h
  refine rS { its := [(1, .c (COk.ren (rex_parser_takes_m0.ok O hO k a0 v2 v1.2.2.1 v1.2.2.2 ([42] : List UInt8) v10 hv10) (fun n => if n = 100000 then 100000 else n) (injOn_of (by kernel_rfl))))] } [0, 2, 3, 7] [2, 3, 100000] hN (by kernel_rfl) (by kernel_rfl) ?_
  refine tnU ?_
  refine tS (b := v10.1) (by kernel_rfl) (fun hc11 => ?_) (fun hc11 => ?_)
  ·replace h := ite_t hc11 h
   refine rS { fz := [1] } [0, 2, 3] [2, 3, 100000] hN (by kernel_rfl) (by kernel_rfl) ?_
   refine blockQ_normal ?_
   refine blockQ_normal ?_
   refine tnU ?_
   exact ⟨n, Nat.lt_succ_self n, v10.2, 4, 0, (List.replicate 4 (0 : Int)), [(T_rex_Node.mk v3 v4 v5 v6)], h, by kernel_rfl⟩
  ·replace h := ite_f hc11 h
   refine WpC.seq ?_
   obtain ⟨v12, hv12, h⟩ := bind_some h
   refine rS { its := [(1, .c (COk.ren (rex_parser_takes_m0.ok O hO k a0 v10.2 v1.2.2.1 v1.2.2.2 ([43] : List UInt8) v12 hv12) (fun n => if n = 100000 then 100000 else n) (injOn_of (by kernel_rfl))))] } [0, 2, 3, 13] [2, 3, 100000] hN (by kernel_rfl) (by kernel_rfl) ?_
   refine tnU ?_
   refine tS (b := v12.1) (by kernel_rfl) (fun hc13 => ?_) (fun hc13 => ?_)
   ·replace h := ite_t hc13 h
    refine rS { fz := [1] } [0, 2, 3] [2, 3, 100000] hN (by kernel_rfl) (by kernel_rfl) ?_
    refine blockQ_normal ?_
    refine blockQ_normal ?_
    refine tnU ?_
    exact ⟨n, Nat.lt_succ_self n, v12.2, 5, 0, (List.replicate 4 (0 : Int)), [(T_rex_Node.mk v3 v4 v5 v6)], h, by kernel_rfl⟩
   ·replace h := ite_f hc13 h
    refine WpC.seq ?_
    obtain ⟨v14, hv14, h⟩ := bind_some h
    refine rS { its := [(1, .c (COk.ren (rex_parser_takes_m0.ok O hO k a0 v12.2 v1.2.2.1 v1.2.2.2 ([63] : List UInt8) v14 hv14) (fun n => if n = 100000 then 100000 else n) (injOn_of (by kernel_rfl))))] } [0, 2, 3, 19] [2, 3, 100000] hN (by kernel_rfl) (by kernel_rfl) ?_
    refine tnU ?_
    refine tS (b := v14.1) (by kernel_rfl) (fun hc15 => ?_) (fun hc15 => ?_)
    ·replace h := ite_t hc15 h
     refine rS { fz := [1] } [0, 2, 3] [2, 3, 100000] hN (by kernel_rfl) (by kernel_rfl) ?_
     refine blockQ_normal ?_
     refine blockQ_normal ?_
     refine tnU ?_
     exact ⟨n, Nat.lt_succ_self n, v14.2, 6, 0, (List.replicate 4 (0 : Int)), [(T_rex_Node.mk v3 v4 v5 v6)], h, by kernel_rfl⟩
    ·replace h := ite_f hc15 h
     refine WpC.seq ?_
     refine rS {} [2] [2, 100000] hN (by kernel_rfl) (by kernel_rfl) ?_
     refine tnU ?_
     refine WpC.ret ?_
     refine blockQ_ret ?_
     refine blockQ_ret ?_
     have hq := Option.some.inj h
     subst hq
     refine thenQ_ret ?_
     have h := hout9
     refine blockQ_ret ?_
     have hq := Option.some.inj h
     subst hq
     exact eR (by kernel_rfl) (by kernel_rfl)

theorem rex_parser_branch_m0.bok (O : Out) (hO : GOkE O) (k : Nat) (rf_rex_parser_item_m0 : (List UInt8) → Int → Int → Bool → Option (T_rex_Node × Int × Int × Bool)) (hrf_rex_parser_item_m0 : ∀ (a0 : List UInt8) (a1 : Int) (a2 : Int) (a3 : Bool) (out : T_rex_Node × Int × Int × Bool), rf_rex_parser_item_m0 a0 a1 a2 a3 = some out → COk Un O Tryd.prog 71 { ar := [.loc 100000 0], r := .p (.named 3) out.1, bs := [(100000, .box [.p .str a0, .p I6 a1, .p I6 a2, .p .bool a3])], bs' := [(100000, .box [.p .str a0, .p I6 out.2.1, .p I6 out.2.2.1, .p .bool out.2.2.2])] }) (a0 : List UInt8) (a1 : Int) (a2 : Int) (a3 : Bool) (out : T_rex_Node × Int × Int × Bool) (h : rex_parser_branch_m0.b k rf_rex_parser_item_m0 a0 a1 a2 a3 = some out) : COk Un O Tryd.prog 58 { ar := [.loc 100000 0], r := .p (.named 3) out.1, bs := [(100000, .box [.p .str a0, .p I6 a1, .p I6 a2, .p .bool a3])], bs' := [(100000, .box [.p .str a0, .p I6 out.2.1, .p I6 out.2.2.1, .p .bool out.2.2.2])] } := by
 refine cok_of_wp Tryd.func58 rfl (k := 24) rfl (Nat.le_of_ble_eq_true rfl) (namesOk_of (by kernel_rfl)) ?_
 intro B hN
 refine WpC.conv (cvK (b := ⟨[(0, .loc 100000 0)], [(100000, .box [.p .str a0, .p I6 a1, .p I6 a2, .p .bool a3])]⟩) [0] [100000] (by kernel_rfl)) ?_
 unfold rex_parser_branch_m0.b at h
 refine WpC.seq ?_
 refine rS {} [0, 2] [2, 100000] hN (by kernel_rfl) (by kernel_rfl) ?_
 refine tnU ?_
 refine WpC.seq ?_
 refine rS {} [0, 2, 3] [2, 100000] hN (by kernel_rfl) (by kernel_rfl) ?_
 refine tnU ?_
 refine WpC.block ?_
 obtain ⟨o6, hlo6, h⟩ := bind_some h
 have hout7 := h
 clear h
 refine WpC.conv (cS [.th 3 1003 27 (.named 3), .k [0, 2, 3] [2, 1003, 100000]] (by kernel_rfl) (by kernel_rfl)) ?_
 refine WpC.loop (U := Un) (fun n st' => ∃ v1 : Int, ∃ v2 : Int, ∃ v3 : Bool, ∃ v4 : List T_rex_Node, rex_parser_branch_m0.l5 k rf_rex_parser_item_m0 a0 n v1 v2 v3 v4 = some o6 ∧ st' = ⟨[(0, .loc 100000 0), (2, .loc 2 0), (3, .vec 1003 7 0 v4.length)], [(2, .box [.p I6 (0 : Int), .p I6 (0 : Int), .p U6 ((List.replicate 4 (0 : Int)) : List Int), .p (.list (.named 3)) ([] : List T_rex_Node)]), (1003, .row 27 (.named 3) v4 false), (100000, .box [.p .str a0, .p I6 v1, .p I6 v2, .p .bool v3])]⟩) k ⟨a1, a2, a3, [], hlo6, by kernel_rfl⟩ ?_
 clear hlo6
 rintro (_ | n) _ ⟨v1, v2, v3, v4, h, rfl⟩
 ·cases h
 ·rw [rex_parser_branch_m0.l5] at h
  refine WpC.block ?_
  refine sqJ (fun st' => rex_parser_branch_m0.j10 k (rex_parser_branch_m0.l5 k rf_rex_parser_item_m0 a0 n) rf_rex_parser_item_m0 a0 v1 v2 v3 v4 = some o6 ∧ st' = ⟨[(0, .loc 100000 0), (2, .loc 2 0), (3, .vec 1003 7 0 v4.length)], [(2, .box [.p I6 (0 : Int), .p I6 (0 : Int), .p U6 ((List.replicate 4 (0 : Int)) : List Int), .p (.list (.named 3)) ([] : List T_rex_Node)]), (1003, .row 27 (.named 3) v4 false), (100000, .box [.p .str a0, .p I6 v1, .p I6 v2, .p .bool v3])]⟩) ?_ ?_
  ·refine WpC.seq ?_
   obtain ⟨v11, hv11, h⟩ := bind_some h
   refine rS { its := [(1, .c (COk.ren (rex_parser_next_m0.ok O hO k a0 v1 v2 v3 v11 hv11) (fun n => if n = 100000 then 100000 else n) (injOn_of (by kernel_rfl))))] } [0, 2, 3, 5] [2, 1003, 100000] hN (by kernel_rfl) (by kernel_rfl) ?_
   refine tnU ?_
   refine sqJ (fun st' => ∃ v12 : Bool, rex_parser_branch_m0.j15 k (rex_parser_branch_m0.l5 k rf_rex_parser_item_m0 a0 n) rf_rex_parser_item_m0 a0 v1 v2 v3 v4 v12 = some o6 ∧ st' = ⟨[(0, .loc 100000 0), (2, .loc 2 0), (3, .vec 1003 7 0 v4.length), (16, .p .bool v12)], [(2, .box [.p I6 (0 : Int), .p I6 (0 : Int), .p U6 ((List.replicate 4 (0 : Int)) : List Int), .p (.list (.named 3)) ([] : List T_rex_Node)]), (1003, .row 27 (.named 3) v4 false), (100000, .box [.p .str a0, .p I6 v1, .p I6 v2, .p .bool v3])]⟩) ?_ ?_
   ·rcases bool_cases (!v11.2) with hc16 | hc16
    ·replace h := ite_t hc16 h
     refine rS { kn := [(13, .t hc16)] } [0, 2, 3, 16] [2, 1003, 100000] hN (by kernel_rfl) (by kernel_rfl) ?_
     refine tnU ?_
     exact ⟨true, h, by kernel_rfl⟩
    ·replace h := ite_f hc16 h
     obtain ⟨v17, hv17, h⟩ := bind_some h
     refine rS { its := [(4, .c (COk.ren (rex_parser_sees_m0.ok O hO k a0 v1 v2 v3 ([124, 41] : List UInt8) v17 hv17) (fun n => if n = 100000 then 100000 else n) (injOn_of (by kernel_rfl))))], kn := [(13, .f hc16)] } [0, 2, 3, 16] [2, 1003, 100000] hN (by kernel_rfl) (by kernel_rfl) ?_
     refine tnU ?_
     exact ⟨v17, h, by kernel_rfl⟩
   ·rintro _ ⟨v12, h, rfl⟩
    unfold rex_parser_branch_m0.j15 at h
    refine tS (b := v12) (by kernel_rfl) (fun hc13 => ?_) (fun hc13 => ?_)
    ·replace h := ite_t hc13 h
     refine WpC.seq ?_
     obtain ⟨v14, hv14, h⟩ := bind_some h
     refine rS { its := [(1, .c (rex_joined.ok O hO k 2 v4 v14 hv14))] } [2] [2, 100000] hN (by kernel_rfl) (by kernel_rfl) ?_
     refine tnU ?_
     refine WpC.ret ?_
     refine thenQ_ret ?_
     refine blockQ_ret ?_
     have hq := Option.some.inj h
     subst hq
     refine thenQ_ret ?_
     have h := hout7
     refine blockQ_ret ?_
     have hq := Option.some.inj h
     subst hq
     exact eR (by kernel_rfl) (by kernel_rfl)
    ·replace h := ite_f hc13 h
     refine WpC.conv (cS [.k [0, 2, 3] [2, 1003, 100000]] (by kernel_rfl) (by kernel_rfl)) (WpC.skip ?_)
     refine tnU ?_
     exact ⟨h, by kernel_rfl⟩
  ·rintro _ ⟨h, rfl⟩
   unfold rex_parser_branch_m0.j10 at h
   obtain ⟨v8, hv8, h⟩ := bind_some h
   obtain ⟨g9, h⟩ := if_some h
   refine rSC { its := [(2, .c (COk.ren (hrf_rex_parser_item_m0 a0 v1 v2 v3 v8 hv8) (fun n => if n = 100000 then 100000 else n) (injOn_of (by kernel_rfl)))), (4, .g g9)] } [0, 2, 3] [2, 23, 100000] hN (by kernel_rfl) (by kernel_rfl) (cS [.rn 23 1003, .k [0, 2, 3] [2, 1003, 100000]] (by kernel_rfl) (by kernel_rfl)) ?_
   refine blockQ_normal ?_
   refine tnU ?_
   exact ⟨n, Nat.lt_succ_self n, v8.2.1, v8.2.2.1, v8.2.2.2, (v4 ++ [v8.1]), h, by kernel_rfl⟩

theorem rex_parser_expression_m0.bok (O : Out) (hO : GOkE O) (k : Nat) (rf_rex_parser_branch_m0 : (List UInt8) → Int → Int → Bool → Option (T_rex_Node × Int × Int × Bool)) (hrf_rex_parser_branch_m0 : ∀ (a0 : List UInt8) (a1 : Int) (a2 : Int) (a3 : Bool) (out : T_rex_Node × Int × Int × Bool), rf_rex_parser_branch_m0 a0 a1 a2 a3 = some out → COk Un O Tryd.prog 58 { ar := [.loc 100000 0], r := .p (.named 3) out.1, bs := [(100000, .box [.p .str a0, .p I6 a1, .p I6 a2, .p .bool a3])], bs' := [(100000, .box [.p .str a0, .p I6 out.2.1, .p I6 out.2.2.1, .p .bool out.2.2.2])] }) (a0 : List UInt8) (a1 : Int) (a2 : Int) (a3 : Bool) (out : T_rex_Node × Int × Int × Bool) (h : rex_parser_expression_m0.b k rf_rex_parser_branch_m0 a0 a1 a2 a3 = some out) : COk Un O Tryd.prog 43 { ar := [.loc 100000 0], r := .p (.named 3) out.1, bs := [(100000, .box [.p .str a0, .p I6 a1, .p I6 a2, .p .bool a3])], bs' := [(100000, .box [.p .str a0, .p I6 out.2.1, .p I6 out.2.2.1, .p .bool out.2.2.2])] } := by
 refine cok_of_wp Tryd.func43 rfl (k := 16) rfl (Nat.le_of_ble_eq_true rfl) (namesOk_of (by kernel_rfl)) ?_
 intro B hN
 refine WpC.conv (cvK (b := ⟨[(0, .loc 100000 0)], [(100000, .box [.p .str a0, .p I6 a1, .p I6 a2, .p .bool a3])]⟩) [0] [100000] (by kernel_rfl)) ?_
 unfold rex_parser_expression_m0.b at h
 refine WpC.seq ?_
 refine rS {} [0, 2] [2, 100000] hN (by kernel_rfl) (by kernel_rfl) ?_
 refine tnU ?_
 refine WpC.seq ?_
 obtain ⟨v1, hv1, h⟩ := bind_some h
 refine rS { its := [(1, .c (COk.ren (hrf_rex_parser_branch_m0 a0 a1 a2 a3 v1 hv1) (fun n => if n = 100000 then 100000 else n) (injOn_of (by kernel_rfl))))] } [0, 2, 3] [2, 6, 100000] hN (by kernel_rfl) (by kernel_rfl) ?_
 refine tnU ?_
 refine sqJ (fun st' => ∃ v2 : List T_rex_Node, ∃ v3 : Int, ∃ v4 : Int, ∃ v5 : Bool, rex_parser_expression_m0.j7 k a0 v2 v3 v4 v5 = some out ∧ st' = ⟨[(2, .loc 2 0), (3, .vec 1003 7 0 v2.length)], [(2, .box [.p I6 (0 : Int), .p I6 (0 : Int), .p U6 ((List.replicate 4 (0 : Int)) : List Int), .p (.list (.named 3)) ([] : List T_rex_Node)]), (1003, .row 27 (.named 3) v2 false), (100000, .box [.p .str a0, .p I6 v3, .p I6 v4, .p .bool v5])]⟩) ?_ ?_
 ·refine WpC.block ?_
  obtain ⟨o17, hlo17, h⟩ := bind_some h
  have hout18 := h
  clear h
  refine WpC.conv (cS [.lo 6, .k [0, 2, 3] [2, 6, 100000], .rn 6 1003, .k [0, 2, 3] [2, 1003, 100000]] (by kernel_rfl) (by kernel_rfl)) ?_
  refine WpC.loop (U := Un) (fun n st' => ∃ v8 : Int, ∃ v9 : Int, ∃ v10 : Bool, ∃ v11 : List T_rex_Node, rex_parser_expression_m0.l12 k rf_rex_parser_branch_m0 a0 n v8 v9 v10 v11 = some o17 ∧ st' = ⟨[(0, .loc 100000 0), (2, .loc 2 0), (3, .vec 1003 7 0 v11.length)], [(2, .box [.p I6 (0 : Int), .p I6 (0 : Int), .p U6 ((List.replicate 4 (0 : Int)) : List Int), .p (.list (.named 3)) ([] : List T_rex_Node)]), (1003, .row 27 (.named 3) v11 false), (100000, .box [.p .str a0, .p I6 v8, .p I6 v9, .p .bool v10])]⟩) k ⟨v1.2.1, v1.2.2.1, v1.2.2.2, [v1.1], hlo17, by kernel_rfl⟩ ?_
  clear hlo17
  rintro (_ | n) _ ⟨v8, v9, v10, v11, h, rfl⟩
  ·cases h
  ·rw [rex_parser_expression_m0.l12] at h
   refine WpC.seq ?_
   refine WpC.seq ?_
   obtain ⟨v19, hv19, h⟩ := bind_some h
   refine rS { its := [(1, .c (COk.ren (rex_parser_takes_m0.ok O hO k a0 v8 v9 v10 ([124] : List UInt8) v19 hv19) (fun n => if n = 100000 then 100000 else n) (injOn_of (by kernel_rfl))))] } [0, 2, 3, 8] [2, 1003, 100000] hN (by kernel_rfl) (by kernel_rfl) ?_
   refine tnU ?_
   refine tS (b := v19.1) (by kernel_rfl) (fun hc20 => ?_) (fun hc20 => ?_)
   ·replace h := ite_t hc20 h
    refine WpC.conv (cS [.k [0, 2, 3] [2, 1003, 100000]] (by kernel_rfl) (by kernel_rfl)) (WpC.skip ?_)
    refine tnU ?_
    refine WpC.block ?_
    obtain ⟨v21, hv21, h⟩ := bind_some h
    obtain ⟨g22, h⟩ := if_some h
    refine rSC { its := [(2, .c (COk.ren (hrf_rex_parser_branch_m0 a0 v19.2 v9 v10 v21 hv21) (fun n => if n = 100000 then 100000 else n) (injOn_of (by kernel_rfl)))), (4, .g g22)] } [0, 2, 3] [2, 13, 100000] hN (by kernel_rfl) (by kernel_rfl) (cS [.rn 13 1003, .k [0, 2, 3] [2, 1003, 100000]] (by kernel_rfl) (by kernel_rfl)) ?_
    refine blockQ_normal ?_
    refine tnU ?_
    exact ⟨n, Nat.lt_succ_self n, v21.2.1, v21.2.2.1, v21.2.2.2, (v11 ++ [v21.1]), h, by kernel_rfl⟩
   ·replace h := ite_f hc20 h
    refine WpC.conv (cS [.k [2, 3] [2, 1003, 100000]] (by kernel_rfl) (by kernel_rfl)) (WpC.exit ?_)
    refine thenQ_exit ?_
    have hq := Option.some.inj h
    subst hq
    refine thenQ_exit ?_
    have h := hout18
    refine blockQ_hit ?_
    refine tnU ?_
    exact ⟨v11, v19.2, v9, v10, h, by kernel_rfl⟩
 ·rintro _ ⟨v2, v3, v4, v5, h, rfl⟩
  unfold rex_parser_expression_m0.j7 at h
  refine WpC.seq ?_
  obtain ⟨v6, hv6, h⟩ := bind_some h
  refine rS { its := [(1, .c (rex_joined.ok O hO k 3 v2 v6 hv6))] } [2] [2, 100000] hN (by kernel_rfl) (by kernel_rfl) ?_
  refine tnU ?_
  refine WpC.ret ?_
  have hq := Option.some.inj h
  subst hq
  exact eR (by kernel_rfl) (by kernel_rfl)

theorem scc_rex_parser_expression_m0.ok (O : Out) (hO : GOkE O) : ∀ k : Nat, (∀ (a0 : List UInt8) (a1 : Int) (a2 : Int) (a3 : Bool) (out : T_rex_Node × Int × Int × Bool), rex_parser_group_m0.f k a0 a1 a2 a3 = some out → COk Un O Tryd.prog 78 { ar := [.loc 100000 0], r := .p (.named 3) out.1, bs := [(100000, .box [.p .str a0, .p (.int .i64) a1, .p (.int .i64) a2, .p .bool a3])], bs' := [(100000, .box [.p .str a0, .p (.int .i64) out.2.1, .p (.int .i64) out.2.2.1, .p .bool out.2.2.2])] }) ∧ (∀ (a0 : List UInt8) (a1 : Int) (a2 : Int) (a3 : Bool) (out : T_rex_Node × Int × Int × Bool), rex_parser_atom_m0.f k a0 a1 a2 a3 = some out → COk Un O Tryd.prog 75 { ar := [.loc 100000 0], r := .p (.named 3) out.1, bs := [(100000, .box [.p .str a0, .p (.int .i64) a1, .p (.int .i64) a2, .p .bool a3])], bs' := [(100000, .box [.p .str a0, .p (.int .i64) out.2.1, .p (.int .i64) out.2.2.1, .p .bool out.2.2.2])] }) ∧ (∀ (a0 : List UInt8) (a1 : Int) (a2 : Int) (a3 : Bool) (out : T_rex_Node × Int × Int × Bool), rex_parser_item_m0.f k a0 a1 a2 a3 = some out → COk Un O Tryd.prog 71 { ar := [.loc 100000 0], r := .p (.named 3) out.1, bs := [(100000, .box [.p .str a0, .p (.int .i64) a1, .p (.int .i64) a2, .p .bool a3])], bs' := [(100000, .box [.p .str a0, .p (.int .i64) out.2.1, .p (.int .i64) out.2.2.1, .p .bool out.2.2.2])] }) ∧ (∀ (a0 : List UInt8) (a1 : Int) (a2 : Int) (a3 : Bool) (out : T_rex_Node × Int × Int × Bool), rex_parser_branch_m0.f k a0 a1 a2 a3 = some out → COk Un O Tryd.prog 58 { ar := [.loc 100000 0], r := .p (.named 3) out.1, bs := [(100000, .box [.p .str a0, .p (.int .i64) a1, .p (.int .i64) a2, .p .bool a3])], bs' := [(100000, .box [.p .str a0, .p (.int .i64) out.2.1, .p (.int .i64) out.2.2.1, .p .bool out.2.2.2])] }) ∧ (∀ (a0 : List UInt8) (a1 : Int) (a2 : Int) (a3 : Bool) (out : T_rex_Node × Int × Int × Bool), rex_parser_expression_m0.f k a0 a1 a2 a3 = some out → COk Un O Tryd.prog 43 { ar := [.loc 100000 0], r := .p (.named 3) out.1, bs := [(100000, .box [.p .str a0, .p (.int .i64) a1, .p (.int .i64) a2, .p .bool a3])], bs' := [(100000, .box [.p .str a0, .p (.int .i64) out.2.1, .p (.int .i64) out.2.2.1, .p .bool out.2.2.2])] }) := by
 intro k
 induction k with
 | zero => exact ⟨fun a0 a1 a2 a3 out h => (by have h2 : (none : Option (T_rex_Node × Int × Int × Bool)) = some out := h; cases h2), fun a0 a1 a2 a3 out h => (by have h2 : (none : Option (T_rex_Node × Int × Int × Bool)) = some out := h; cases h2), fun a0 a1 a2 a3 out h => (by have h2 : (none : Option (T_rex_Node × Int × Int × Bool)) = some out := h; cases h2), fun a0 a1 a2 a3 out h => (by have h2 : (none : Option (T_rex_Node × Int × Int × Bool)) = some out := h; cases h2), fun a0 a1 a2 a3 out h => (by have h2 : (none : Option (T_rex_Node × Int × Int × Bool)) = some out := h; cases h2)⟩
 | succ k ih => exact ⟨fun a0 a1 a2 a3 out h => rex_parser_group_m0.bok O hO k _ ih.2.2.2.2 a0 a1 a2 a3 out h, fun a0 a1 a2 a3 out h => rex_parser_atom_m0.bok O hO k _ ih.1 a0 a1 a2 a3 out h, fun a0 a1 a2 a3 out h => rex_parser_item_m0.bok O hO k _ ih.2.1 a0 a1 a2 a3 out h, fun a0 a1 a2 a3 out h => rex_parser_branch_m0.bok O hO k _ ih.2.2.1 a0 a1 a2 a3 out h, fun a0 a1 a2 a3 out h => rex_parser_expression_m0.bok O hO k _ ih.2.2.2.1 a0 a1 a2 a3 out h⟩
theorem rex_parser_expression_m0.ok (O : Out) (hO : GOkE O) (k : Nat) (a0 : List UInt8) (a1 : Int) (a2 : Int) (a3 : Bool) (out : T_rex_Node × Int × Int × Bool) (h : rex_parser_expression_m0.f k a0 a1 a2 a3 = some out) : COk Un O Tryd.prog 43 { ar := [.loc 100000 0], r := .p (.named 3) out.1, bs := [(100000, .box [.p .str a0, .p (.int .i64) a1, .p (.int .i64) a2, .p .bool a3])], bs' := [(100000, .box [.p .str a0, .p (.int .i64) out.2.1, .p (.int .i64) out.2.2.1, .p .bool out.2.2.2])] } := (scc_rex_parser_expression_m0.ok O hO k).2.2.2.2 a0 a1 a2 a3 out h

end Go.Proofs.YteddmdkbeednmaaDoor
