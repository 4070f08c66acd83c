/- A part of the proof of a given law: IOC1. Own work, printed in part by a program of mine. -/
import Derived.Test.YtpcobejkpbalcaaGreatDoorK28IOC0
namespace Go.Proofs.YtpcobejkpbalcaaGreatDoor
open Go Go.AM
set_option linter.unusedVariables false
set_option linter.unusedSimpArgs false
set_option maxRecDepth 100000
set_option maxHeartbeats 4000000
theorem class_Of.ok (O : Out) (hO : GOkE O) (k : Nat) (a0 : List Int) (out : List Int) (h : class_Of.f k a0 = some out) : COk Un O Tryz.prog 185 { ar := [.p (.list (.int .u8)) a0], r := .p U6 out } := by
 refine cok_of_wp Tryz.func185 rfl (k := 17) rfl (Nat.le_of_ble_eq_true rfl) (namesOk_pure rfl rfl rfl rfl) ?_
 intro B hN
 refine WpC.conv (cvK (b := ⟨[(0, .p (.list (.int .u8)) a0)], []⟩) [0] [] (by kernel_rfl)) ?_
 unfold class_Of.f at h
 refine WpC.seq ?_
 refine rS {} [0, 2] [2] hN (by kernel_rfl) (by kernel_rfl) ?_
 refine tnU ?_
 refine WpC.seq ?_
 refine rS {} [0, 2, 3] [2, 3] hN (by kernel_rfl) (by kernel_rfl) ?_
 refine tnU ?_
 refine sqJ (fun st' => ∃ v1 : List Int, class_Of.j2 k v1 = some out ∧ st' = ⟨[(2, .loc 2 0), (3, .loc 3 0)], [(2, .box [.p U6 ((List.replicate 4 (0 : Int)) : List Int)]), (3, .box [.p U6 v1])]⟩) ?_ ?_
 ·refine WpC.seq ?_
  refine rS {} [2, 3, 6, 7, 8] [2, 3] hN (by kernel_rfl) (by kernel_rfl) ?_
  refine tnU ?_
  refine WpC.block ?_
  obtain ⟨o7, hlo7, h⟩ := bind_some h
  have hout8 := h
  clear h
  refine WpC.loop (U := Un) (fun n st' => ∃ v3 : List Int, ∃ v4 : Int, class_Of.l5 k a0 n v3 v4 = some o7 ∧ st' = ⟨[(2, .loc 2 0), (3, .loc 3 0), (6, .p (.list (.int .u8)) a0), (7, .p I6 ((a0.length : Int) : Int)), (8, .p I6 v4)], [(2, .box [.p U6 ((List.replicate 4 (0 : Int)) : List Int)]), (3, .box [.p U6 v3])]⟩) k ⟨(List.replicate 4 (0 : Int)), 0, hlo7, by kernel_rfl⟩ ?_
  clear hlo7
  rintro (_ | n) _ ⟨v3, v4, h, rfl⟩
  ·cases h
  ·rw [class_Of.l5] at h
   refine WpC.seq ?_
   refine rS {} [2, 3, 6, 7, 8, 9] [2, 3] hN (by kernel_rfl) (by kernel_rfl) ?_
   refine tnU ?_
   refine WpC.seq ?_
   refine tS (b := (decide (v4 < (a0.length : Int)))) (by kernel_rfl) (fun hc9 => ?_) (fun hc9 => ?_)
   ·replace h := ite_t hc9 h
    refine WpC.conv (cS [.k [2, 3, 6, 7, 8] [2, 3]] (by kernel_rfl) (by kernel_rfl)) (WpC.skip ?_)
    refine tnU ?_
    refine WpC.seq ?_
    refine WpC.block ?_
    refine WpC.seq ?_
    obtain ⟨v10, hv10, h⟩ := bind_some h
    refine rS { its := [(0, .v (.int .u8) hv10)] } [2, 3, 5, 6, 7, 8] [2, 3] hN (by kernel_rfl) (by kernel_rfl) ?_
    refine tnU ?_
    obtain ⟨v11, hv11, h⟩ := bind_some h
    refine rS { its := [(2, .c (class_Set_with.ok O hO k v3 v10 v11 hv11))] } [2, 3, 6, 7, 8] [2, 3] hN (by kernel_rfl) (by kernel_rfl) ?_
    refine blockQ_normal ?_
    refine tnU ?_
    refine rS {} [2, 3, 6, 7, 8] [2, 3] hN (by kernel_rfl) (by kernel_rfl) ?_
    refine tnU ?_
    exact ⟨n, Nat.lt_succ_self n, v11, (IntKind.i64.wrap (v4 + 1)), h, by kernel_rfl⟩
   ·replace h := ite_f hc9 h
    refine WpC.conv (cS [.k [2, 3] [2, 3]] (by kernel_rfl) (by kernel_rfl)) (WpC.exit ?_)
    refine thenQ_exit ?_
    have hq := Option.some.inj h
    subst hq
    refine thenQ_exit ?_
    have h := hout8
    refine blockQ_hit ?_
    refine tnU ?_
    exact ⟨v3, h, by kernel_rfl⟩
 ·rintro _ ⟨v1, h, rfl⟩
  unfold class_Of.j2 at h
  refine WpC.seq ?_
  refine rS {} [2] [2] hN (by kernel_rfl) (by kernel_rfl) ?_
  refine tnU ?_
  refine WpC.ret ?_
  have hq := Option.some.inj h
  subst hq
  exact eR (by kernel_rfl) (by kernel_rfl)

theorem rex_single.ok (O : Out) (hO : GOkE O) (k : Nat) (a0 : Int) (out : T_rex_Node) (h : rex_single.f k a0 = some out) : COk Un O Tryz.prog 187 { ar := [.p (.int .u8) a0], r := .p (.named 16) out } := by
 refine cok_of_wp Tryz.func187 rfl (k := 7) rfl (Nat.le_of_ble_eq_true rfl) (namesOk_pure rfl rfl rfl rfl) ?_
 intro B hN
 refine WpC.conv (cvK (b := ⟨[(0, .p (.int .u8) a0)], []⟩) [0] [] (by kernel_rfl)) ?_
 unfold rex_single.f at h
 refine WpC.seq ?_
 refine rS {} [0, 2] [2] hN (by kernel_rfl) (by kernel_rfl) ?_
 refine tnU ?_
 refine WpC.seq ?_
 obtain ⟨v1, hv1, h⟩ := bind_some h
 refine rS { its := [(2, .c (class_Of.ok O hO k [a0] v1 hv1))] } [2] [2] hN (by kernel_rfl) (by kernel_rfl) ?_
 refine tnU ?_
 refine WpC.ret ?_
 have hq := Option.some.inj h
 subst hq
 exact eR (by kernel_rfl) (by kernel_rfl)

theorem rex_parser_group_m0.bok (O : Out) (hO : GOkE O) (k : Nat) (rf_rex_parser_expression_m0 : (List UInt8) → Int → Int → Bool → Option (T_rex_Node × Int × Int × Bool)) (hrf_rex_parser_expression_m0 : ∀ (a0 : List UInt8) (a1 : Int) (a2 : Int) (a3 : Bool) (out : T_rex_Node × Int × Int × Bool), rf_rex_parser_expression_m0 a0 a1 a2 a3 = some out → COk Un O Tryz.prog 146 { ar := [.loc 100000 0], r := .p (.named 16) out.1, bs := [(100000, .box [.p .str a0, .p I6 a1, .p I6 a2, .p .bool a3])], bs' := [(100000, .box [.p .str a0, .p I6 out.2.1, .p I6 out.2.2.1, .p .bool out.2.2.2])] }) (a0 : List UInt8) (a1 : Int) (a2 : Int) (a3 : Bool) (out : T_rex_Node × Int × Int × Bool) (h : rex_parser_group_m0.b k rf_rex_parser_expression_m0 a0 a1 a2 a3 = some out) : COk Un O Tryz.prog 183 { ar := [.loc 100000 0], r := .p (.named 16) out.1, bs := [(100000, .box [.p .str a0, .p I6 a1, .p I6 a2, .p .bool a3])], bs' := [(100000, .box [.p .str a0, .p I6 out.2.1, .p I6 out.2.2.1, .p .bool out.2.2.2])] } := by
 refine cok_of_wp Tryz.func183 rfl (k := 27) rfl (Nat.le_of_ble_eq_true rfl) (namesOk_of (by kernel_rfl)) ?_
 intro B hN
 refine WpC.conv (cvK (b := ⟨[(0, .loc 100000 0)], [(100000, .box [.p .str a0, .p I6 a1, .p I6 a2, .p .bool a3])]⟩) [0] [100000] (by kernel_rfl)) ?_
 unfold rex_parser_group_m0.b at h
 refine WpC.seq ?_
 refine rS {} [0, 2] [2, 100000] hN (by kernel_rfl) (by kernel_rfl) ?_
 refine tnU ?_
 refine WpC.seq ?_
 refine rS {} [0, 2] [2, 100000] hN (by kernel_rfl) (by kernel_rfl) ?_
 refine tnU ?_
 refine WpC.seq ?_
 refine rS {} [0, 2, 3] [2, 3, 100000] hN (by kernel_rfl) (by kernel_rfl) ?_
 refine tnU ?_
 refine WpC.seq ?_
 obtain ⟨v1, hv1, h⟩ := bind_some h
 refine rS { its := [(1, .c (COk.ren (hrf_rex_parser_expression_m0 a0 a1 (IntKind.i64.wrap (a2 + 1)) a3 v1 hv1) (fun n => if n = 100000 then 100000 else n) (injOn_of (by kernel_rfl))))], fz := [2] } [0, 2, 3] [2, 3, 100000] hN (by kernel_rfl) (by kernel_rfl) ?_
 refine tnU ?_
 refine sqJ (fun st' => ∃ v2 : Int, ∃ v3 : Bool, rex_parser_group_m0.j4 k a0 a2 v1 v2 v3 = some out ∧ st' = ⟨[(2, .loc 2 0), (3, .loc 3 0)], [(2, .box [.p I6 (0 : Int), .p I6 (0 : Int), .p U6 ((List.replicate 4 (0 : Int)) : List Int), .p (.list (.named 16)) ([] : List T_rex_Node)]), (3, .box [.p I6 (7 : Int), .p I6 ((IntKind.i64.wrap (a2 + 1)) : Int), .p U6 ((List.replicate 4 (0 : Int)) : List Int), .p (.list (.named 16)) ([v1.1] : List T_rex_Node)]), (100000, .box [.p .str a0, .p I6 v2, .p I6 v1.2.2.1, .p .bool v3])]⟩) ?_ ?_
 ·refine WpC.seq ?_
  obtain ⟨v5, hv5, h⟩ := bind_some h
  refine rS { its := [(1, .c (COk.ren (rex_parser_takes_m0.ok O hO k a0 v1.2.1 v1.2.2.1 v1.2.2.2 ([41] : List UInt8) v5 hv5) (fun n => if n = 100000 then 100000 else n) (injOn_of (by kernel_rfl))))] } [0, 2, 3, 22] [2, 3, 100000] hN (by kernel_rfl) (by kernel_rfl) ?_
  refine tnU ?_
  refine tS (b := (!v5.1)) (by kernel_rfl) (fun hc6 => ?_) (fun hc6 => ?_)
  ·replace h := ite_t hc6 h
   refine rS {} [2, 3] [2, 3, 100000] hN (by kernel_rfl) (by kernel_rfl) ?_
   refine tnU ?_
   exact ⟨v5.2, true, h, by kernel_rfl⟩
  ·replace h := ite_f hc6 h
   refine WpC.conv (cS [.k [2, 3] [2, 3, 100000]] (by kernel_rfl) (by kernel_rfl)) (WpC.skip ?_)
   refine tnU ?_
   exact ⟨v5.2, v1.2.2.2, h, by kernel_rfl⟩
 ·rintro _ ⟨v2, v3, h, rfl⟩
  unfold rex_parser_group_m0.j4 at h
  refine WpC.seq ?_
  refine rS {} [2] [2, 100000] hN (by kernel_rfl) (by kernel_rfl) ?_
  refine tnU ?_
  refine WpC.ret ?_
  have hq := Option.some.inj h
  subst hq
  exact eR (by kernel_rfl) (by kernel_rfl)

theorem rex_parser_atom_m0.bok (O : Out) (hO : GOkE O) (k : Nat) (rf_rex_parser_group_m0 : (List UInt8) → Int → Int → Bool → Option (T_rex_Node × Int × Int × Bool)) (hrf_rex_parser_group_m0 : ∀ (a0 : List UInt8) (a1 : Int) (a2 : Int) (a3 : Bool) (out : T_rex_Node × Int × Int × Bool), rf_rex_parser_group_m0 a0 a1 a2 a3 = some out → COk Un O Tryz.prog 183 { ar := [.loc 100000 0], r := .p (.named 16) out.1, bs := [(100000, .box [.p .str a0, .p I6 a1, .p I6 a2, .p .bool a3])], bs' := [(100000, .box [.p .str a0, .p I6 out.2.1, .p I6 out.2.2.1, .p .bool out.2.2.2])] }) (a0 : List UInt8) (a1 : Int) (a2 : Int) (a3 : Bool) (out : T_rex_Node × Int × Int × Bool) (h : rex_parser_atom_m0.b k rf_rex_parser_group_m0 a0 a1 a2 a3 = some out) : COk Un O Tryz.prog 181 { ar := [.loc 100000 0], r := .p (.named 16) out.1, bs := [(100000, .box [.p .str a0, .p I6 a1, .p I6 a2, .p .bool a3])], bs' := [(100000, .box [.p .str a0, .p I6 out.2.1, .p I6 out.2.2.1, .p .bool out.2.2.2])] } := by
 refine cok_of_wp Tryz.func181 rfl (k := 43) rfl (Nat.le_of_ble_eq_true rfl) (namesOk_of (by kernel_rfl)) ?_
 intro B hN
 refine WpC.conv (cvK (b := ⟨[(0, .loc 100000 0)], [(100000, .box [.p .str a0, .p I6 a1, .p I6 a2, .p .bool a3])]⟩) [0] [100000] (by kernel_rfl)) ?_
 unfold rex_parser_atom_m0.b at h
 refine WpC.seq ?_
 refine rS {} [0, 2] [2, 100000] hN (by kernel_rfl) (by kernel_rfl) ?_
 refine tnU ?_
 refine WpC.seq ?_
 obtain ⟨v1, hv1, h⟩ := bind_some h
 refine rS { its := [(1, .c (COk.ren (rex_parser_byte_m0.ok O hO k a0 a1 a2 a3 v1 hv1) (fun n => if n = 100000 then 100000 else n) (injOn_of (by kernel_rfl))))] } [0, 2, 3] [2, 100000] hN (by kernel_rfl) (by kernel_rfl) ?_
 refine tnU ?_
 refine WpC.seq ?_
 refine rS {} [0, 2, 3, 6] [2, 100000] hN (by kernel_rfl) (by kernel_rfl) ?_
 refine tnU ?_
 refine WpC.block ?_
 refine WpC.seq ?_
 refine rS {} [0, 2, 3, 6, 9] [2, 100000] hN (by kernel_rfl) (by kernel_rfl) ?_
 refine tnU ?_
 refine tS (b := (v1.1 == 40)) (by kernel_rfl) (fun hc2 => ?_) (fun hc2 => ?_)
 ·replace h := ite_t hc2 h
  refine WpC.seq ?_
  obtain ⟨v3, hv3, h⟩ := bind_some h
  refine rS { its := [(1, .c (COk.ren (hrf_rex_parser_group_m0 a0 v1.2.1 a2 v1.2.2 v3 hv3) (fun n => if n = 100000 then 100000 else n) (injOn_of (by kernel_rfl))))] } [2] [2, 100000] hN (by kernel_rfl) (by kernel_rfl) ?_
  refine tnU ?_
  refine WpC.ret ?_
  refine blockQ_ret ?_
  have hq := Option.some.inj h
  subst hq
  exact eR (by kernel_rfl) (by kernel_rfl)
 ·replace h := ite_f hc2 h
  refine WpC.seq ?_
  refine rS {} [0, 2, 3, 6, 13] [2, 100000] hN (by kernel_rfl) (by kernel_rfl) ?_
  refine tnU ?_
  refine tS (b := (v1.1 == 91)) (by kernel_rfl) (fun hc4 => ?_) (fun hc4 => ?_)
  ·replace h := ite_t hc4 h
   refine WpC.seq ?_
   obtain ⟨v5, hv5, h⟩ := bind_some h
   refine rS { its := [(1, .c (COk.ren (rex_parser_class_m0.ok O hO k a0 v1.2.1 a2 v1.2.2 v5 hv5) (fun n => if n = 100000 then 100000 else n) (injOn_of (by kernel_rfl))))] } [2] [2, 100000] hN (by kernel_rfl) (by kernel_rfl) ?_
   refine tnU ?_
   refine WpC.ret ?_
   refine blockQ_ret ?_
   have hq := Option.some.inj h
   subst hq
   exact eR (by kernel_rfl) (by kernel_rfl)
  ·replace h := ite_f hc4 h
   refine WpC.seq ?_
   refine rS {} [0, 2, 3, 6, 18] [2, 100000] hN (by kernel_rfl) (by kernel_rfl) ?_
   refine tnU ?_
   refine tS (b := (v1.1 == 46)) (by kernel_rfl) (fun hc6 => ?_) (fun hc6 => ?_)
   ·replace h := ite_t hc6 h
    refine WpC.seq ?_
    obtain ⟨v7, hv7, h⟩ := bind_some h
    obtain ⟨v8, hv8, h⟩ := bind_some h
    refine rS { its := [(1, .c (class_Of.ok O hO k [(10 : Int)] v7 hv7)), (2, .c (class_Set_Not.ok O hO k v7 v8 hv8))] } [2] [2, 100000] hN (by kernel_rfl) (by kernel_rfl) ?_
    refine tnU ?_
    refine WpC.ret ?_
    refine blockQ_ret ?_
    have hq := Option.some.inj h
    subst hq
    exact eR (by kernel_rfl) (by kernel_rfl)
   ·replace h := ite_f hc6 h
    refine WpC.seq ?_
    refine rS {} [0, 2, 3, 6, 24] [2, 100000] hN (by kernel_rfl) (by kernel_rfl) ?_
    refine tnU ?_
    refine tS (b := (v1.1 == 94)) (by kernel_rfl) (fun hc9 => ?_) (fun hc9 => ?_)
    ·replace h := ite_t hc9 h
     refine WpC.seq ?_
     refine rS {} [2] [2, 100000] hN (by kernel_rfl) (by kernel_rfl) ?_
     refine tnU ?_
     refine WpC.ret ?_
     refine blockQ_ret ?_
     have hq := Option.some.inj h
     subst hq
     exact eR (by kernel_rfl) (by kernel_rfl)
    ·replace h := ite_f hc9 h
     refine WpC.seq ?_
     refine rS {} [0, 2, 3, 6, 27] [2, 100000] hN (by kernel_rfl) (by kernel_rfl) ?_
     refine tnU ?_
     refine tS (b := (v1.1 == 36)) (by kernel_rfl) (fun hc10 => ?_) (fun hc10 => ?_)
     ·replace h := ite_t hc10 h
      refine WpC.seq ?_
      refine rS {} [2] [2, 100000] hN (by kernel_rfl) (by kernel_rfl) ?_
      refine tnU ?_
      refine WpC.ret ?_
      refine blockQ_ret ?_
      have hq := Option.some.inj h
      subst hq
      exact eR (by kernel_rfl) (by kernel_rfl)
     ·replace h := ite_f hc10 h
      refine WpC.seq ?_
      refine rS {} [0, 2, 3, 6, 30] [2, 100000] hN (by kernel_rfl) (by kernel_rfl) ?_
      refine tnU ?_
      refine tS (b := (v1.1 == 92)) (by kernel_rfl) (fun hc11 => ?_) (fun hc11 => ?_)
      ·replace h := ite_t hc11 h
       refine WpC.seq ?_
       obtain ⟨v12, hv12, h⟩ := bind_some h
       obtain ⟨v13, hv13, h⟩ := bind_some h
       refine rS { its := [(1, .c (COk.ren (rex_parser_byte_m0.ok O hO k a0 v1.2.1 a2 v1.2.2 v12 hv12) (fun n => if n = 100000 then 100000 else n) (injOn_of (by kernel_rfl)))), (2, .c (rex_single.ok O hO k v12.1 v13 hv13))] } [2] [2, 100000] hN (by kernel_rfl) (by kernel_rfl) ?_
       refine tnU ?_
       refine WpC.ret ?_
       refine blockQ_ret ?_
       have hq := Option.some.inj h
       subst hq
       exact eR (by kernel_rfl) (by kernel_rfl)
      ·replace h := ite_f hc11 h
       refine sqJ (fun st' => ∃ v14 : Bool, rex_parser_atom_m0.j17 k a0 a2 v1 v14 = some out ∧ st' = ⟨[(0, .loc 100000 0), (2, .loc 2 0), (3, .p (.int .u8) v1.1), (35, .p .bool v14)], [(2, .box [.p I6 (0 : Int), .p I6 (0 : Int), .p U6 ((List.replicate 4 (0 : Int)) : List Int), .p (.list (.named 16)) ([] : List T_rex_Node)]), (100000, .box [.p .str a0, .p I6 v1.2.1, .p I6 a2, .p .bool v1.2.2])]⟩) ?_ ?_
       ·refine WpC.seq ?_
        refine rS {} [0, 2, 3, 6, 35] [2, 100000] hN (by kernel_rfl) (by kernel_rfl) ?_
        refine tnU ?_
        refine tS (b := (v1.1 == 42)) (by kernel_rfl) (fun hc18 => ?_) (fun hc18 => ?_)
        ·replace h := ite_t hc18 h
         refine WpC.conv (cS [.k [0, 2, 3, 35] [2, 100000]] (by kernel_rfl) (by kernel_rfl)) (WpC.skip ?_)
         refine tnU ?_
         exact ⟨(v1.1 == 42), h, by kernel_rfl⟩
        ·replace h := ite_f hc18 h
         refine WpC.seq ?_
         refine rS {} [0, 2, 3, 6, 35] [2, 100000] hN (by kernel_rfl) (by kernel_rfl) ?_
         refine tnU ?_
         refine tS (b := (v1.1 == 43)) (by kernel_rfl) (fun hc19 => ?_) (fun hc19 => ?_)
         ·replace h := ite_t hc19 h
          refine WpC.conv (cS [.k [0, 2, 3, 35] [2, 100000]] (by kernel_rfl) (by kernel_rfl)) (WpC.skip ?_)
          refine tnU ?_
          exact ⟨(v1.1 == 43), h, by kernel_rfl⟩
         ·replace h := ite_f hc19 h
          refine rS {} [0, 2, 3, 35] [2, 100000] hN (by kernel_rfl) (by kernel_rfl) ?_
          refine tnU ?_
          exact ⟨(v1.1 == 63), h, by kernel_rfl⟩
       ·rintro _ ⟨v14, h, rfl⟩
        unfold rex_parser_atom_m0.j17 at h
        refine tS (b := v14) (by kernel_rfl) (fun hc15 => ?_) (fun hc15 => ?_)
        ·replace h := ite_t hc15 h
         refine WpC.seq ?_
         refine rS {} [2] [2, 100000] hN (by kernel_rfl) (by kernel_rfl) ?_
         refine tnU ?_
         refine WpC.seq ?_
         refine rS {} [2] [2, 100000] hN (by kernel_rfl) (by kernel_rfl) ?_
         refine tnU ?_
         refine WpC.ret ?_
         refine blockQ_ret ?_
         have hq := Option.some.inj h
         subst hq
         exact eR (by kernel_rfl) (by kernel_rfl)
        ·replace h := ite_f hc15 h
         refine WpC.seq ?_
         obtain ⟨v16, hv16, h⟩ := bind_some h
         refine rS { its := [(1, .c (rex_single.ok O hO k v1.1 v16 hv16))] } [2] [2, 100000] hN (by kernel_rfl) (by kernel_rfl) ?_
         refine tnU ?_
         refine WpC.ret ?_
         refine blockQ_ret ?_
         have hq := Option.some.inj h
         subst hq
         exact eR (by kernel_rfl) (by kernel_rfl)

theorem rex_parser_item_m0.bok (O : Out) (hO : GOkE O) (k : Nat) (rf_rex_parser_atom_m0 : (List UInt8) → Int → Int → Bool → Option (T_rex_Node × Int × Int × Bool)) (hrf_rex_parser_atom_m0 : ∀ (a0 : List UInt8) (a1 : Int) (a2 : Int) (a3 : Bool) (out : T_rex_Node × Int × Int × Bool), rf_rex_parser_atom_m0 a0 a1 a2 a3 = some out → COk Un O Tryz.prog 181 { ar := [.loc 100000 0], r := .p (.named 16) out.1, bs := [(100000, .box [.p .str a0, .p I6 a1, .p I6 a2, .p .bool a3])], bs' := [(100000, .box [.p .str a0, .p I6 out.2.1, .p I6 out.2.2.1, .p .bool out.2.2.2])] }) (a0 : List UInt8) (a1 : Int) (a2 : Int) (a3 : Bool) (out : T_rex_Node × Int × Int × Bool) (h : rex_parser_item_m0.b k rf_rex_parser_atom_m0 a0 a1 a2 a3 = some out) : COk Un O Tryz.prog 179 { ar := [.loc 100000 0], r := .p (.named 16) out.1, bs := [(100000, .box [.p .str a0, .p I6 a1, .p I6 a2, .p .bool a3])], bs' := [(100000, .box [.p .str a0, .p I6 out.2.1, .p I6 out.2.2.1, .p .bool out.2.2.2])] } := by
 refine cok_of_wp Tryz.func179 rfl (k := 25) rfl (Nat.le_of_ble_eq_true rfl) (namesOk_of (by kernel_rfl)) ?_
 intro B hN
 refine WpC.conv (cvK (b := ⟨[(0, .loc 100000 0)], [(100000, .box [.p .str a0, .p I6 a1, .p I6 a2, .p .bool a3])]⟩) [0] [100000] (by kernel_rfl)) ?_
 unfold rex_parser_item_m0.b at h
 refine WpC.seq ?_
 refine rS {} [0, 2] [2, 100000] hN (by kernel_rfl) (by kernel_rfl) ?_
 refine tnU ?_
 refine WpC.seq ?_
 obtain ⟨v1, hv1, h⟩ := bind_some h
 refine rS { its := [(1, .c (COk.ren (hrf_rex_parser_atom_m0 a0 a1 a2 a3 v1 hv1) (fun n => if n = 100000 then 100000 else n) (injOn_of (by kernel_rfl))))] } [0, 2, 3] [2, 3, 100000] hN (by kernel_rfl) (by kernel_rfl) ?_
 refine tnU ?_
 refine WpC.block ?_
 obtain ⟨o8, hlo8, h⟩ := bind_some h
 have hout9 := h
 clear h
 refine WpC.loop (U := Un) (fun n st' => ∃ v2 : Int, ∃ v3 : Int, ∃ v4 : Int, ∃ v5 : List Int, ∃ v6 : List T_rex_Node, rex_parser_item_m0.l7 k a0 v1 n v2 v3 v4 v5 v6 = some o8 ∧ st' = ⟨[(0, .loc 100000 0), (2, .loc 2 0), (3, .loc 3 0)], [(2, .box [.p I6 (0 : Int), .p I6 (0 : Int), .p U6 ((List.replicate 4 (0 : Int)) : List Int), .p (.list (.named 16)) ([] : List T_rex_Node)]), (3, .box [.p I6 v3, .p I6 v4, .p U6 v5, .p (.list (.named 16)) v6]), (100000, .box [.p .str a0, .p I6 v2, .p I6 v1.2.2.1, .p .bool v1.2.2.2])]⟩) k ⟨v1.2.1, v1.1.f_Kind, v1.1.f_Index, v1.1.f_Set, v1.1.f_Kids, hlo8, by kernel_rfl⟩ ?_
 clear hlo8
 rintro (_ | n) _ ⟨v2, v3, v4, v5, v6, h, rfl⟩
 ·cases h
 ·rw [rex_parser_item_m0.l7] at h
  refine WpC.block ?_
  refine WpC.block ?_
  refine WpC.seq ?_
  obtain ⟨v10, hv10, h⟩ := bind_some h
  refine rS { its := [(1, .c (COk.ren (rex_parser_takes_m0.ok O hO k a0 v2 v1.2.2.1 v1.2.2.2 ([42] : List UInt8) v10 hv10) (fun n => if n = 100000 then 100000 else n) (injOn_of (by kernel_rfl))))] } [0, 2, 3, 7] [2, 3, 100000] hN (by kernel_rfl) (by kernel_rfl) ?_
  refine tnU ?_
  refine tS (b := v10.1) (by kernel_rfl) (fun hc11 => ?_) (fun hc11 => ?_)
  ·replace h := ite_t hc11 h
   refine rS { fz := [1] } [0, 2, 3] [2, 3, 100000] hN (by kernel_rfl) (by kernel_rfl) ?_
   refine blockQ_normal ?_
   refine blockQ_normal ?_
   refine tnU ?_
   exact ⟨n, Nat.lt_succ_self n, v10.2, 4, 0, (List.replicate 4 (0 : Int)), [(T_rex_Node.mk v3 v4 v5 v6)], h, by kernel_rfl⟩
  ·replace h := ite_f hc11 h
   refine WpC.seq ?_
   obtain ⟨v12, hv12, h⟩ := bind_some h
   refine rS { its := [(1, .c (COk.ren (rex_parser_takes_m0.ok O hO k a0 v10.2 v1.2.2.1 v1.2.2.2 ([43] : List UInt8) v12 hv12) (fun n => if n = 100000 then 100000 else n) (injOn_of (by kernel_rfl))))] } [0, 2, 3, 13] [2, 3, 100000] hN (by kernel_rfl) (by kernel_rfl) ?_
   refine tnU ?_
   refine tS (b := v12.1) (by kernel_rfl) (fun hc13 => ?_) (fun hc13 => ?_)
   ·replace h := ite_t hc13 h
    refine rS { fz := [1] } [0, 2, 3] [2, 3, 100000] hN (by kernel_rfl) (by kernel_rfl) ?_
    refine blockQ_normal ?_
    refine blockQ_normal ?_
    refine tnU ?_
    exact ⟨n, Nat.lt_succ_self n, v12.2, 5, 0, (List.replicate 4 (0 : Int)), [(T_rex_Node.mk v3 v4 v5 v6)], h, by kernel_rfl⟩
   ·replace h := ite_f hc13 h
    refine WpC.seq ?_
    obtain ⟨v14, hv14, h⟩ := bind_some h
    refine rS { its := [(1, .c (COk.ren (rex_parser_takes_m0.ok O hO k a0 v12.2 v1.2.2.1 v1.2.2.2 ([63] : List UInt8) v14 hv14) (fun n => if n = 100000 then 100000 else n) (injOn_of (by kernel_rfl))))] } [0, 2, 3, 19] [2, 3, 100000] hN (by kernel_rfl) (by kernel_rfl) ?_
    refine tnU ?_
    refine tS (b := v14.1) (by kernel_rfl) (fun hc15 => ?_) (fun hc15 => ?_)
    ·replace h := ite_t hc15 h
     refine rS { fz := [1] } [0, 2, 3] [2, 3, 100000] hN (by kernel_rfl) (by kernel_rfl) ?_
     refine blockQ_normal ?_
     refine blockQ_normal ?_
     refine tnU ?_
     exact ⟨n, Nat.lt_succ_self n, v14.2, 6, 0, (List.replicate 4 (0 : Int)), [(T_rex_Node.mk v3 v4 v5 v6)], h, by kernel_rfl⟩
    ·replace h := ite_f hc15 h
     refine WpC.seq ?_
     refine rS {} [2] [2, 100000] hN (by kernel_rfl) (by kernel_rfl) ?_
     refine tnU ?_
     refine WpC.ret ?_
     refine blockQ_ret ?_
     refine blockQ_ret ?_
     have hq := Option.some.inj h
     subst hq
     refine thenQ_ret ?_
     have h := hout9
     refine blockQ_ret ?_
     have hq := Option.some.inj h
     subst hq
     exact eR (by kernel_rfl) (by kernel_rfl)

theorem rex_parser_branch_m0.bok (O : Out) (hO : GOkE O) (k : Nat) (rf_rex_parser_item_m0 : (List UInt8) → Int → Int → Bool → Option (T_rex_Node × Int × Int × Bool)) (hrf_rex_parser_item_m0 : ∀ (a0 : List UInt8) (a1 : Int) (a2 : Int) (a3 : Bool) (out : T_rex_Node × Int × Int × Bool), rf_rex_parser_item_m0 a0 a1 a2 a3 = some out → COk Un O Tryz.prog 179 { ar := [.loc 100000 0], r := .p (.named 16) out.1, bs := [(100000, .box [.p .str a0, .p I6 a1, .p I6 a2, .p .bool a3])], bs' := [(100000, .box [.p .str a0, .p I6 out.2.1, .p I6 out.2.2.1, .p .bool out.2.2.2])] }) (a0 : List UInt8) (a1 : Int) (a2 : Int) (a3 : Bool) (out : T_rex_Node × Int × Int × Bool) (h : rex_parser_branch_m0.b k rf_rex_parser_item_m0 a0 a1 a2 a3 = some out) : COk Un O Tryz.prog 163 { ar := [.loc 100000 0], r := .p (.named 16) out.1, bs := [(100000, .box [.p .str a0, .p I6 a1, .p I6 a2, .p .bool a3])], bs' := [(100000, .box [.p .str a0, .p I6 out.2.1, .p I6 out.2.2.1, .p .bool out.2.2.2])] } := by
 refine cok_of_wp Tryz.func163 rfl (k := 24) rfl (Nat.le_of_ble_eq_true rfl) (namesOk_of (by kernel_rfl)) ?_
 intro B hN
 refine WpC.conv (cvK (b := ⟨[(0, .loc 100000 0)], [(100000, .box [.p .str a0, .p I6 a1, .p I6 a2, .p .bool a3])]⟩) [0] [100000] (by kernel_rfl)) ?_
 unfold rex_parser_branch_m0.b at h
 refine WpC.seq ?_
 refine rS {} [0, 2] [2, 100000] hN (by kernel_rfl) (by kernel_rfl) ?_
 refine tnU ?_
 refine WpC.seq ?_
 refine rS {} [0, 2, 3] [2, 100000] hN (by kernel_rfl) (by kernel_rfl) ?_
 refine tnU ?_
 refine WpC.block ?_
 obtain ⟨o6, hlo6, h⟩ := bind_some h
 have hout7 := h
 clear h
 refine WpC.conv (cS [.th 3 1003 201 (.named 16), .k [0, 2, 3] [2, 1003, 100000]] (by kernel_rfl) (by kernel_rfl)) ?_
 refine WpC.loop (U := Un) (fun n st' => ∃ v1 : Int, ∃ v2 : Int, ∃ v3 : Bool, ∃ v4 : List T_rex_Node, rex_parser_branch_m0.l5 k rf_rex_parser_item_m0 a0 n v1 v2 v3 v4 = some o6 ∧ st' = ⟨[(0, .loc 100000 0), (2, .loc 2 0), (3, .vec 1003 7 0 v4.length)], [(2, .box [.p I6 (0 : Int), .p I6 (0 : Int), .p U6 ((List.replicate 4 (0 : Int)) : List Int), .p (.list (.named 16)) ([] : List T_rex_Node)]), (1003, .row 201 (.named 16) v4 false), (100000, .box [.p .str a0, .p I6 v1, .p I6 v2, .p .bool v3])]⟩) k ⟨a1, a2, a3, [], hlo6, by kernel_rfl⟩ ?_
 clear hlo6
 rintro (_ | n) _ ⟨v1, v2, v3, v4, h, rfl⟩
 ·cases h
 ·rw [rex_parser_branch_m0.l5] at h
  refine WpC.block ?_
  refine sqJ (fun st' => rex_parser_branch_m0.j10 k (rex_parser_branch_m0.l5 k rf_rex_parser_item_m0 a0 n) rf_rex_parser_item_m0 a0 v1 v2 v3 v4 = some o6 ∧ st' = ⟨[(0, .loc 100000 0), (2, .loc 2 0), (3, .vec 1003 7 0 v4.length)], [(2, .box [.p I6 (0 : Int), .p I6 (0 : Int), .p U6 ((List.replicate 4 (0 : Int)) : List Int), .p (.list (.named 16)) ([] : List T_rex_Node)]), (1003, .row 201 (.named 16) v4 false), (100000, .box [.p .str a0, .p I6 v1, .p I6 v2, .p .bool v3])]⟩) ?_ ?_
  ·refine WpC.seq ?_
   obtain ⟨v11, hv11, h⟩ := bind_some h
   refine rS { its := [(1, .c (COk.ren (rex_parser_next_m0.ok O hO k a0 v1 v2 v3 v11 hv11) (fun n => if n = 100000 then 100000 else n) (injOn_of (by kernel_rfl))))] } [0, 2, 3, 5] [2, 1003, 100000] hN (by kernel_rfl) (by kernel_rfl) ?_
   refine tnU ?_
   refine sqJ (fun st' => ∃ v12 : Bool, rex_parser_branch_m0.j15 k (rex_parser_branch_m0.l5 k rf_rex_parser_item_m0 a0 n) rf_rex_parser_item_m0 a0 v1 v2 v3 v4 v12 = some o6 ∧ st' = ⟨[(0, .loc 100000 0), (2, .loc 2 0), (3, .vec 1003 7 0 v4.length), (16, .p .bool v12)], [(2, .box [.p I6 (0 : Int), .p I6 (0 : Int), .p U6 ((List.replicate 4 (0 : Int)) : List Int), .p (.list (.named 16)) ([] : List T_rex_Node)]), (1003, .row 201 (.named 16) v4 false), (100000, .box [.p .str a0, .p I6 v1, .p I6 v2, .p .bool v3])]⟩) ?_ ?_
   ·rcases bool_cases (!v11.2) with hc16 | hc16
    ·replace h := ite_t hc16 h
     refine rS { kn := [(13, .t hc16)] } [0, 2, 3, 16] [2, 1003, 100000] hN (by kernel_rfl) (by kernel_rfl) ?_
     refine tnU ?_
     exact ⟨true, h, by kernel_rfl⟩
    ·replace h := ite_f hc16 h
     obtain ⟨v17, hv17, h⟩ := bind_some h
     refine rS { its := [(4, .c (COk.ren (rex_parser_sees_m0.ok O hO k a0 v1 v2 v3 ([124, 41] : List UInt8) v17 hv17) (fun n => if n = 100000 then 100000 else n) (injOn_of (by kernel_rfl))))], kn := [(13, .f hc16)] } [0, 2, 3, 16] [2, 1003, 100000] hN (by kernel_rfl) (by kernel_rfl) ?_
     refine tnU ?_
     exact ⟨v17, h, by kernel_rfl⟩
   ·rintro _ ⟨v12, h, rfl⟩
    unfold rex_parser_branch_m0.j15 at h
    refine tS (b := v12) (by kernel_rfl) (fun hc13 => ?_) (fun hc13 => ?_)
    ·replace h := ite_t hc13 h
     refine WpC.seq ?_
     obtain ⟨v14, hv14, h⟩ := bind_some h
     refine rS { its := [(1, .c (rex_joined.ok O hO k 2 v4 v14 hv14))] } [2] [2, 100000] hN (by kernel_rfl) (by kernel_rfl) ?_
     refine tnU ?_
     refine WpC.ret ?_
     refine thenQ_ret ?_
     refine blockQ_ret ?_
     have hq := Option.some.inj h
     subst hq
     refine thenQ_ret ?_
     have h := hout7
     refine blockQ_ret ?_
     have hq := Option.some.inj h
     subst hq
     exact eR (by kernel_rfl) (by kernel_rfl)
    ·replace h := ite_f hc13 h
     refine WpC.conv (cS [.k [0, 2, 3] [2, 1003, 100000]] (by kernel_rfl) (by kernel_rfl)) (WpC.skip ?_)
     refine tnU ?_
     exact ⟨h, by kernel_rfl⟩
  ·rintro _ ⟨h, rfl⟩
   unfold rex_parser_branch_m0.j10 at h
   obtain ⟨v8, hv8, h⟩ := bind_some h
   obtain ⟨g9, h⟩ := if_some h
   refine rSC { its := [(2, .c (COk.ren (hrf_rex_parser_item_m0 a0 v1 v2 v3 v8 hv8) (fun n => if n = 100000 then 100000 else n) (injOn_of (by kernel_rfl)))), (4, .g g9)] } [0, 2, 3] [2, 23, 100000] hN (by kernel_rfl) (by kernel_rfl) (cS [.rn 23 1003, .k [0, 2, 3] [2, 1003, 100000]] (by kernel_rfl) (by kernel_rfl)) ?_
   refine blockQ_normal ?_
   refine tnU ?_
   exact ⟨n, Nat.lt_succ_self n, v8.2.1, v8.2.2.1, v8.2.2.2, (v4 ++ [v8.1]), h, by kernel_rfl⟩

theorem rex_parser_expression_m0.bok (O : Out) (hO : GOkE O) (k : Nat) (rf_rex_parser_branch_m0 : (List UInt8) → Int → Int → Bool → Option (T_rex_Node × Int × Int × Bool)) (hrf_rex_parser_branch_m0 : ∀ (a0 : List UInt8) (a1 : Int) (a2 : Int) (a3 : Bool) (out : T_rex_Node × Int × Int × Bool), rf_rex_parser_branch_m0 a0 a1 a2 a3 = some out → COk Un O Tryz.prog 163 { ar := [.loc 100000 0], r := .p (.named 16) out.1, bs := [(100000, .box [.p .str a0, .p I6 a1, .p I6 a2, .p .bool a3])], bs' := [(100000, .box [.p .str a0, .p I6 out.2.1, .p I6 out.2.2.1, .p .bool out.2.2.2])] }) (a0 : List UInt8) (a1 : Int) (a2 : Int) (a3 : Bool) (out : T_rex_Node × Int × Int × Bool) (h : rex_parser_expression_m0.b k rf_rex_parser_branch_m0 a0 a1 a2 a3 = some out) : COk Un O Tryz.prog 146 { ar := [.loc 100000 0], r := .p (.named 16) out.1, bs := [(100000, .box [.p .str a0, .p I6 a1, .p I6 a2, .p .bool a3])], bs' := [(100000, .box [.p .str a0, .p I6 out.2.1, .p I6 out.2.2.1, .p .bool out.2.2.2])] } := by
 refine cok_of_wp Tryz.func146 rfl (k := 16) rfl (Nat.le_of_ble_eq_true rfl) (namesOk_of (by kernel_rfl)) ?_
 intro B hN
 refine WpC.conv (cvK (b := ⟨[(0, .loc 100000 0)], [(100000, .box [.p .str a0, .p I6 a1, .p I6 a2, .p .bool a3])]⟩) [0] [100000] (by kernel_rfl)) ?_
 unfold rex_parser_expression_m0.b at h
 refine WpC.seq ?_
 refine rS {} [0, 2] [2, 100000] hN (by kernel_rfl) (by kernel_rfl) ?_
 refine tnU ?_
 refine WpC.seq ?_
 obtain ⟨v1, hv1, h⟩ := bind_some h
 refine rS { its := [(1, .c (COk.ren (hrf_rex_parser_branch_m0 a0 a1 a2 a3 v1 hv1) (fun n => if n = 100000 then 100000 else n) (injOn_of (by kernel_rfl))))] } [0, 2, 3] [2, 6, 100000] hN (by kernel_rfl) (by kernel_rfl) ?_
 refine tnU ?_
 refine sqJ (fun st' => ∃ v2 : List T_rex_Node, ∃ v3 : Int, ∃ v4 : Int, ∃ v5 : Bool, rex_parser_expression_m0.j7 k a0 v2 v3 v4 v5 = some out ∧ st' = ⟨[(2, .loc 2 0), (3, .vec 1003 7 0 v2.length)], [(2, .box [.p I6 (0 : Int), .p I6 (0 : Int), .p U6 ((List.replicate 4 (0 : Int)) : List Int), .p (.list (.named 16)) ([] : List T_rex_Node)]), (1003, .row 201 (.named 16) v2 false), (100000, .box [.p .str a0, .p I6 v3, .p I6 v4, .p .bool v5])]⟩) ?_ ?_
 ·refine WpC.block ?_
  obtain ⟨o17, hlo17, h⟩ := bind_some h
  have hout18 := h
  clear h
  refine WpC.conv (cS [.lo 6, .k [0, 2, 3] [2, 6, 100000], .rn 6 1003, .k [0, 2, 3] [2, 1003, 100000]] (by kernel_rfl) (by kernel_rfl)) ?_
  refine WpC.loop (U := Un) (fun n st' => ∃ v8 : Int, ∃ v9 : Int, ∃ v10 : Bool, ∃ v11 : List T_rex_Node, rex_parser_expression_m0.l12 k rf_rex_parser_branch_m0 a0 n v8 v9 v10 v11 = some o17 ∧ st' = ⟨[(0, .loc 100000 0), (2, .loc 2 0), (3, .vec 1003 7 0 v11.length)], [(2, .box [.p I6 (0 : Int), .p I6 (0 : Int), .p U6 ((List.replicate 4 (0 : Int)) : List Int), .p (.list (.named 16)) ([] : List T_rex_Node)]), (1003, .row 201 (.named 16) v11 false), (100000, .box [.p .str a0, .p I6 v8, .p I6 v9, .p .bool v10])]⟩) k ⟨v1.2.1, v1.2.2.1, v1.2.2.2, [v1.1], hlo17, by kernel_rfl⟩ ?_
  clear hlo17
  rintro (_ | n) _ ⟨v8, v9, v10, v11, h, rfl⟩
  ·cases h
  ·rw [rex_parser_expression_m0.l12] at h
   refine WpC.seq ?_
   refine WpC.seq ?_
   obtain ⟨v19, hv19, h⟩ := bind_some h
   refine rS { its := [(1, .c (COk.ren (rex_parser_takes_m0.ok O hO k a0 v8 v9 v10 ([124] : List UInt8) v19 hv19) (fun n => if n = 100000 then 100000 else n) (injOn_of (by kernel_rfl))))] } [0, 2, 3, 8] [2, 1003, 100000] hN (by kernel_rfl) (by kernel_rfl) ?_
   refine tnU ?_
   refine tS (b := v19.1) (by kernel_rfl) (fun hc20 => ?_) (fun hc20 => ?_)
   ·replace h := ite_t hc20 h
    refine WpC.conv (cS [.k [0, 2, 3] [2, 1003, 100000]] (by kernel_rfl) (by kernel_rfl)) (WpC.skip ?_)
    refine tnU ?_
    refine WpC.block ?_
    obtain ⟨v21, hv21, h⟩ := bind_some h
    obtain ⟨g22, h⟩ := if_some h
    refine rSC { its := [(2, .c (COk.ren (hrf_rex_parser_branch_m0 a0 v19.2 v9 v10 v21 hv21) (fun n => if n = 100000 then 100000 else n) (injOn_of (by kernel_rfl)))), (4, .g g22)] } [0, 2, 3] [2, 13, 100000] hN (by kernel_rfl) (by kernel_rfl) (cS [.rn 13 1003, .k [0, 2, 3] [2, 1003, 100000]] (by kernel_rfl) (by kernel_rfl)) ?_
    refine blockQ_normal ?_
    refine tnU ?_
    exact ⟨n, Nat.lt_succ_self n, v21.2.1, v21.2.2.1, v21.2.2.2, (v11 ++ [v21.1]), h, by kernel_rfl⟩
   ·replace h := ite_f hc20 h
    refine WpC.conv (cS [.k [2, 3] [2, 1003, 100000]] (by kernel_rfl) (by kernel_rfl)) (WpC.exit ?_)
    refine thenQ_exit ?_
    have hq := Option.some.inj h
    subst hq
    refine thenQ_exit ?_
    have h := hout18
    refine blockQ_hit ?_
    refine tnU ?_
    exact ⟨v11, v19.2, v9, v10, h, by kernel_rfl⟩
 ·rintro _ ⟨v2, v3, v4, v5, h, rfl⟩
  unfold rex_parser_expression_m0.j7 at h
  refine WpC.seq ?_
  obtain ⟨v6, hv6, h⟩ := bind_some h
  refine rS { its := [(1, .c (rex_joined.ok O hO k 3 v2 v6 hv6))] } [2] [2, 100000] hN (by kernel_rfl) (by kernel_rfl) ?_
  refine tnU ?_
  refine WpC.ret ?_
  have hq := Option.some.inj h
  subst hq
  exact eR (by kernel_rfl) (by kernel_rfl)

theorem scc_rex_parser_expression_m0.ok (O : Out) (hO : GOkE O) : ∀ k : Nat, (∀ (a0 : List UInt8) (a1 : Int) (a2 : Int) (a3 : Bool) (out : T_rex_Node × Int × Int × Bool), rex_parser_group_m0.f k a0 a1 a2 a3 = some out → COk Un O Tryz.prog 183 { ar := [.loc 100000 0], r := .p (.named 16) out.1, bs := [(100000, .box [.p .str a0, .p (.int .i64) a1, .p (.int .i64) a2, .p .bool a3])], bs' := [(100000, .box [.p .str a0, .p (.int .i64) out.2.1, .p (.int .i64) out.2.2.1, .p .bool out.2.2.2])] }) ∧ (∀ (a0 : List UInt8) (a1 : Int) (a2 : Int) (a3 : Bool) (out : T_rex_Node × Int × Int × Bool), rex_parser_atom_m0.f k a0 a1 a2 a3 = some out → COk Un O Tryz.prog 181 { ar := [.loc 100000 0], r := .p (.named 16) out.1, bs := [(100000, .box [.p .str a0, .p (.int .i64) a1, .p (.int .i64) a2, .p .bool a3])], bs' := [(100000, .box [.p .str a0, .p (.int .i64) out.2.1, .p (.int .i64) out.2.2.1, .p .bool out.2.2.2])] }) ∧ (∀ (a0 : List UInt8) (a1 : Int) (a2 : Int) (a3 : Bool) (out : T_rex_Node × Int × Int × Bool), rex_parser_item_m0.f k a0 a1 a2 a3 = some out → COk Un O Tryz.prog 179 { ar := [.loc 100000 0], r := .p (.named 16) out.1, bs := [(100000, .box [.p .str a0, .p (.int .i64) a1, .p (.int .i64) a2, .p .bool a3])], bs' := [(100000, .box [.p .str a0, .p (.int .i64) out.2.1, .p (.int .i64) out.2.2.1, .p .bool out.2.2.2])] }) ∧ (∀ (a0 : List UInt8) (a1 : Int) (a2 : Int) (a3 : Bool) (out : T_rex_Node × Int × Int × Bool), rex_parser_branch_m0.f k a0 a1 a2 a3 = some out → COk Un O Tryz.prog 163 { ar := [.loc 100000 0], r := .p (.named 16) out.1, bs := [(100000, .box [.p .str a0, .p (.int .i64) a1, .p (.int .i64) a2, .p .bool a3])], bs' := [(100000, .box [.p .str a0, .p (.int .i64) out.2.1, .p (.int .i64) out.2.2.1, .p .bool out.2.2.2])] }) ∧ (∀ (a0 : List UInt8) (a1 : Int) (a2 : Int) (a3 : Bool) (out : T_rex_Node × Int × Int × Bool), rex_parser_expression_m0.f k a0 a1 a2 a3 = some out → COk Un O Tryz.prog 146 { ar := [.loc 100000 0], r := .p (.named 16) out.1, bs := [(100000, .box [.p .str a0, .p (.int .i64) a1, .p (.int .i64) a2, .p .bool a3])], bs' := [(100000, .box [.p .str a0, .p (.int .i64) out.2.1, .p (.int .i64) out.2.2.1, .p .bool out.2.2.2])] }) := by
 intro k
 induction k with
 | zero => exact ⟨fun a0 a1 a2 a3 out h => (by have h2 : (none : Option (T_rex_Node × Int × Int × Bool)) = some out := h; cases h2), fun a0 a1 a2 a3 out h => (by have h2 : (none : Option (T_rex_Node × Int × Int × Bool)) = some out := h; cases h2), fun a0 a1 a2 a3 out h => (by have h2 : (none : Option (T_rex_Node × Int × Int × Bool)) = some out := h; cases h2), fun a0 a1 a2 a3 out h => (by have h2 : (none : Option (T_rex_Node × Int × Int × Bool)) = some out := h; cases h2), fun a0 a1 a2 a3 out h => (by have h2 : (none : Option (T_rex_Node × Int × Int × Bool)) = some out := h; cases h2)⟩
 | succ k ih => exact ⟨fun a0 a1 a2 a3 out h => rex_parser_group_m0.bok O hO k _ ih.2.2.2.2 a0 a1 a2 a3 out h, fun a0 a1 a2 a3 out h => rex_parser_atom_m0.bok O hO k _ ih.1 a0 a1 a2 a3 out h, fun a0 a1 a2 a3 out h => rex_parser_item_m0.bok O hO k _ ih.2.1 a0 a1 a2 a3 out h, fun a0 a1 a2 a3 out h => rex_parser_branch_m0.bok O hO k _ ih.2.2.1 a0 a1 a2 a3 out h, fun a0 a1 a2 a3 out h => rex_parser_expression_m0.bok O hO k _ ih.2.2.2.1 a0 a1 a2 a3 out h⟩
theorem rex_parser_expression_m0.ok (O : Out) (hO : GOkE O) (k : Nat) (a0 : List UInt8) (a1 : Int) (a2 : Int) (a3 : Bool) (out : T_rex_Node × Int × Int × Bool) (h : rex_parser_expression_m0.f k a0 a1 a2 a3 = some out) : COk Un O Tryz.prog 146 { ar := [.loc 100000 0], r := .p (.named 16) out.1, bs := [(100000, .box [.p .str a0, .p (.int .i64) a1, .p (.int .i64) a2, .p .bool a3])], bs' := [(100000, .box [.p .str a0, .p (.int .i64) out.2.1, .p (.int .i64) out.2.2.1, .p .bool out.2.2.2])] } := (scc_rex_parser_expression_m0.ok O hO k).2.2.2.2 a0 a1 a2 a3 out h

theorem rex_Parse.ok (O : Out) (hO : GOkE O) (k : Nat) (a0 : List UInt8) (out : T_rex_Node × Nat) (h : rex_Parse.f k a0 = some out) : COk Un O Tryz.prog 124 { ar := [.p .str a0], r := .tup [.p (.named 16) out.1, .p .err out.2] } := by
 refine cok_of_wp Tryz.func124 rfl (k := 41) rfl (Nat.le_of_ble_eq_true rfl) (namesOk_pure rfl rfl rfl rfl) ?_
 intro B hN
 refine WpC.conv (cvK (b := ⟨[(0, .p .str a0)], []⟩) [0] [] (by kernel_rfl)) ?_
 unfold rex_Parse.f at h
 refine WpC.seq ?_
 refine rS {} [0, 2] [2] hN (by kernel_rfl) (by kernel_rfl) ?_
 refine tnU ?_
 refine WpC.seq ?_
 refine WpC.seq ?_
 refine rS {} [0, 2, 8] [2] hN (by kernel_rfl) (by kernel_rfl) ?_
 refine tnU ?_
 refine tS (b := (decide ((a0.length : Int) > 60))) (by kernel_rfl) (fun hc1 => ?_) (fun hc1 => ?_)
 ·replace h := ite_t hc1 h
  refine WpC.seq ?_
  refine rA { its := [(1, .e 1 (sok_loadG (U := Un) (t := .err) (rs := []) rfl rfl ty_27 rfl rfl (hO.var 1 3 rfl) (fun S w => .err 1)))] } [2, 3] [2] hN (by kernel_rfl) (by kernel_rfl) (by kernel_rfl) ?_
  refine tnU ?_
  refine WpC.ret ?_
  refine thenQ_ret ?_
  have hq := Option.some.inj h
  subst hq
  exact eR (by kernel_rfl) (by kernel_rfl)
 ·replace h := ite_f hc1 h
  refine WpC.conv (cS [.k [0, 2] [2]] (by kernel_rfl) (by kernel_rfl)) (WpC.skip ?_)
  refine tnU ?_
  refine WpC.seq ?_
  refine rS {} [0, 2, 4] [2, 13] hN (by kernel_rfl) (by kernel_rfl) ?_
  refine tnU ?_
  refine WpC.seq ?_
  obtain ⟨v2, hv2, h⟩ := bind_some h
  refine rS { its := [(1, .c (COk.ren (rex_parser_expression_m0.ok O hO k a0 0 0 false v2 hv2) (fun n => if n = 100000 then 13 else n) (injOn_of (by kernel_rfl))))] } [0, 2, 4, 5] [2, 5, 13] hN (by kernel_rfl) (by kernel_rfl) ?_
  refine tnU ?_
  refine sqJ (fun st' => rex_Parse.j3 k v2 = some out ∧ st' = ⟨[(2, .loc 2 0), (5, .loc 5 0)], [(2, .box [.p I6 (0 : Int), .p I6 (0 : Int), .p U6 ((List.replicate 4 (0 : Int)) : List Int), .p (.list (.named 16)) ([] : List T_rex_Node)]), (5, .box [.p I6 v2.1.f_Kind, .p I6 v2.1.f_Index, .p U6 v2.1.f_Set, .p (.list (.named 16)) v2.1.f_Kids])]⟩) ?_ ?_
  ·refine WpC.block ?_
   refine sqJ (fun st' => ∃ v4 : Bool, rex_Parse.j7 k a0 v2 v4 = some out ∧ st' = ⟨[(2, .loc 2 0), (4, .loc 13 0), (5, .loc 5 0), (16, .p .bool v4)], [(2, .box [.p I6 (0 : Int), .p I6 (0 : Int), .p U6 ((List.replicate 4 (0 : Int)) : List Int), .p (.list (.named 16)) ([] : List T_rex_Node)]), (5, .box [.p I6 v2.1.f_Kind, .p I6 v2.1.f_Index, .p U6 v2.1.f_Set, .p (.list (.named 16)) v2.1.f_Kids]), (13, .box [.p .str a0, .p I6 v2.2.1, .p I6 v2.2.2.1, .p .bool v2.2.2.2])]⟩) ?_ ?_
   ·rcases bool_cases v2.2.2.2 with hc8 | hc8
    ·replace h := ite_t hc8 h
     refine rS { kn := [(21, .t hc8)] } [2, 4, 5, 16] [2, 5, 13] hN (by kernel_rfl) (by kernel_rfl) ?_
     refine tnU ?_
     exact ⟨true, h, by kernel_rfl⟩
    ·replace h := ite_f hc8 h
     refine rS { kn := [(21, .f hc8)] } [2, 4, 5, 16] [2, 5, 13] hN (by kernel_rfl) (by kernel_rfl) ?_
     refine tnU ?_
     exact ⟨(decide (v2.2.1 < (a0.length : Int))), h, by kernel_rfl⟩
   ·rintro _ ⟨v4, h, rfl⟩
    unfold rex_Parse.j7 at h
    refine tS (b := v4) (by kernel_rfl) (fun hc5 => ?_) (fun hc5 => ?_)
    ·replace h := ite_t hc5 h
     refine WpC.seq ?_
     refine rA { its := [(1, .e 1 (sok_loadG (U := Un) (t := .err) (rs := []) rfl rfl ty_27 rfl rfl (hO.var 5 6 rfl) (fun S w => .err 5)))] } [2, 3] [2] hN (by kernel_rfl) (by kernel_rfl) (by kernel_rfl) ?_
     refine tnU ?_
     refine WpC.ret ?_
     refine blockQ_ret ?_
     refine thenQ_ret ?_
     have hq := Option.some.inj h
     subst hq
     exact eR (by kernel_rfl) (by kernel_rfl)
    ·replace h := ite_f hc5 h
     refine WpC.seq ?_
     refine rS {} [2, 5, 32] [2, 5] hN (by kernel_rfl) (by kernel_rfl) ?_
     refine tnU ?_
     refine tS (b := (decide (v2.2.2.1 > 9))) (by kernel_rfl) (fun hc6 => ?_) (fun hc6 => ?_)
     ·replace h := ite_t hc6 h
      refine WpC.seq ?_
      refine rA { its := [(1, .e 1 (sok_loadG (U := Un) (t := .err) (rs := []) rfl rfl ty_27 rfl rfl (hO.var 9 1 rfl) (fun S w => .err 9)))] } [2, 3] [2] hN (by kernel_rfl) (by kernel_rfl) (by kernel_rfl) ?_
      refine tnU ?_
      refine WpC.ret ?_
      refine blockQ_ret ?_
      refine thenQ_ret ?_
      have hq := Option.some.inj h
      subst hq
      exact eR (by kernel_rfl) (by kernel_rfl)
     ·replace h := ite_f hc6 h
      refine WpC.conv (cS [.k [2, 5] [2, 5]] (by kernel_rfl) (by kernel_rfl)) (WpC.skip ?_)
      refine blockQ_normal ?_
      refine tnU ?_
      exact ⟨h, by kernel_rfl⟩
  ·rintro _ ⟨h, rfl⟩
   unfold rex_Parse.j3 at h
   refine WpC.seq ?_
   refine rS {} [2, 3] [2] hN (by kernel_rfl) (by kernel_rfl) ?_
   refine tnU ?_
   refine WpC.conv (cS [.nE 3, .k [2, 3] [2]] (by kernel_rfl) (by kernel_rfl)) (WpC.ret ?_)
   have hq := Option.some.inj h
   subst hq
   exact eR (by kernel_rfl) (by kernel_rfl)

theorem prog_kids.ok (O : Out) (hO : GOkE O) (k : Nat) (a0 : Int) (out : Int × Int) (h : prog_kids.f k a0 = some out) : COk Un O Tryz.prog 166 { ar := [.p I6 a0], r := .tup [.p I6 out.1, .p I6 out.2] } := by
 refine cok_of_wp Tryz.func166 rfl (k := 13) rfl (Nat.le_of_ble_eq_true rfl) (namesOk_pure rfl rfl rfl rfl) ?_
 intro B hN
 refine WpC.conv (cvK (b := ⟨[(0, .p I6 a0)], []⟩) [0] [] (by kernel_rfl)) ?_
 unfold prog_kids.f at h
 refine WpC.seq ?_
 refine rS {} [0] [] hN (by kernel_rfl) (by kernel_rfl) ?_
 refine tnU ?_
 refine sqJ (fun st' => prog_kids.j1 k = some out ∧ st' = ⟨[], []⟩) ?_ ?_
 ·refine WpC.seq ?_
  refine rS {} [4] [] hN (by kernel_rfl) (by kernel_rfl) ?_
  refine tnU ?_
  refine WpC.block ?_
  refine sqJ (fun st' => ∃ v2 : Bool, prog_kids.j10 k a0 v2 = some out ∧ st' = ⟨[(4, .p I6 a0), (5, .p .bool v2)], []⟩) ?_ ?_
  ·refine WpC.seq ?_
   refine rS {} [4, 5] [] hN (by kernel_rfl) (by kernel_rfl) ?_
   refine tnU ?_
   refine tS (b := (a0 == 2)) (by kernel_rfl) (fun hc11 => ?_) (fun hc11 => ?_)
   ·replace h := ite_t hc11 h
    refine WpC.skip ?_
    refine tnU ?_
    exact ⟨(a0 == 2), h, by kernel_rfl⟩
   ·replace h := ite_f hc11 h
    refine rS {} [4, 5] [] hN (by kernel_rfl) (by kernel_rfl) ?_
    refine tnU ?_
    exact ⟨(a0 == 3), h, by kernel_rfl⟩
  ·rintro _ ⟨v2, h, rfl⟩
   unfold prog_kids.j10 at h
   refine tS (b := v2) (by kernel_rfl) (fun hc3 => ?_) (fun hc3 => ?_)
   ·replace h := ite_t hc3 h
    refine WpC.seq ?_
    refine rS {} [2, 3] [] hN (by kernel_rfl) (by kernel_rfl) ?_
    refine tnU ?_
    refine WpC.ret ?_
    refine blockQ_ret ?_
    refine thenQ_ret ?_
    have hq := Option.some.inj h
    subst hq
    exact eR (by kernel_rfl) (by kernel_rfl)
   ·replace h := ite_f hc3 h
    refine sqJ (fun st' => ∃ v4 : Bool, prog_kids.j6 k v4 = some out ∧ st' = ⟨[(8, .p .bool v4)], []⟩) ?_ ?_
    ·refine WpC.seq ?_
     refine rS {} [4, 8] [] hN (by kernel_rfl) (by kernel_rfl) ?_
     refine tnU ?_
     refine tS (b := (a0 == 4)) (by kernel_rfl) (fun hc7 => ?_) (fun hc7 => ?_)
     ·replace h := ite_t hc7 h
      refine WpC.conv (cS [.k [8] []] (by kernel_rfl) (by kernel_rfl)) (WpC.skip ?_)
      refine tnU ?_
      exact ⟨(a0 == 4), h, by kernel_rfl⟩
     ·replace h := ite_f hc7 h
      refine WpC.seq ?_
      refine rS {} [4, 8] [] hN (by kernel_rfl) (by kernel_rfl) ?_
      refine tnU ?_
      refine tS (b := (a0 == 5)) (by kernel_rfl) (fun hc8 => ?_) (fun hc8 => ?_)
      ·replace h := ite_t hc8 h
       refine WpC.conv (cS [.k [8] []] (by kernel_rfl) (by kernel_rfl)) (WpC.skip ?_)
       refine tnU ?_
       exact ⟨(a0 == 5), h, by kernel_rfl⟩
      ·replace h := ite_f hc8 h
       refine WpC.seq ?_
       refine rS {} [4, 8] [] hN (by kernel_rfl) (by kernel_rfl) ?_
       refine tnU ?_
       refine tS (b := (a0 == 6)) (by kernel_rfl) (fun hc9 => ?_) (fun hc9 => ?_)
       ·replace h := ite_t hc9 h
        refine WpC.conv (cS [.k [8] []] (by kernel_rfl) (by kernel_rfl)) (WpC.skip ?_)
        refine tnU ?_
        exact ⟨(a0 == 6), h, by kernel_rfl⟩
       ·replace h := ite_f hc9 h
        refine rS {} [8] [] hN (by kernel_rfl) (by kernel_rfl) ?_
        refine tnU ?_
        exact ⟨(a0 == 7), h, by kernel_rfl⟩
    ·rintro _ ⟨v4, h, rfl⟩
     unfold prog_kids.j6 at h
     refine tS (b := v4) (by kernel_rfl) (fun hc5 => ?_) (fun hc5 => ?_)
     ·replace h := ite_t hc5 h
      refine WpC.seq ?_
      refine rS {} [2, 3] [] hN (by kernel_rfl) (by kernel_rfl) ?_
      refine tnU ?_
      refine WpC.ret ?_
      refine blockQ_ret ?_
      refine thenQ_ret ?_
      have hq := Option.some.inj h
      subst hq
      exact eR (by kernel_rfl) (by kernel_rfl)
     ·replace h := ite_f hc5 h
      refine WpC.conv (cS [.k [] []] (by kernel_rfl) (by kernel_rfl)) (WpC.skip ?_)
      refine blockQ_normal ?_
      refine tnU ?_
      exact ⟨h, by kernel_rfl⟩
 ·rintro _ ⟨h, rfl⟩
  unfold prog_kids.j1 at h
  refine WpC.seq ?_
  refine rS {} [2, 3] [] hN (by kernel_rfl) (by kernel_rfl) ?_
  refine tnU ?_
  refine WpC.ret ?_
  have hq := Option.some.inj h
  subst hq
  exact eR (by kernel_rfl) (by kernel_rfl)

theorem rex_Word.ok (O : Out) (hO : GOkE O) (k : Nat) (a0 : Int) (out : List UInt8) (h : rex_Word.f k a0 = some out) : COk Un O Tryz.prog 167 { ar := [.p I6 a0], r := .p .str out } := by
 refine cok_of_wp Tryz.func167 rfl (k := 12) rfl (Nat.le_of_ble_eq_true rfl) (namesOk_pure rfl rfl rfl rfl) ?_
 intro B hN
 refine WpC.conv (cvK (b := ⟨[(0, .p I6 a0)], []⟩) [0] [] (by kernel_rfl)) ?_
 unfold rex_Word.f at h
 refine WpC.seq ?_
 refine rS {} [0] [] hN (by kernel_rfl) (by kernel_rfl) ?_
 refine tnU ?_
 refine sqJ (fun st' => rex_Word.j2 k a0 = some out ∧ st' = ⟨[(0, .p I6 a0)], []⟩) ?_ ?_
 ·refine sqJ (fun st' => ∃ v3 : Bool, rex_Word.j5 k a0 v3 = some out ∧ st' = ⟨[(0, .p I6 a0), (8, .p .bool v3)], []⟩) ?_ ?_
  ·rcases bool_cases (decide (a0 < 0)) with hc6 | hc6
   ·replace h := ite_t hc6 h
    refine rS { kn := [(5, .t hc6)] } [0, 8] [] hN (by kernel_rfl) (by kernel_rfl) ?_
    refine tnU ?_
    exact ⟨true, h, by kernel_rfl⟩
   ·replace h := ite_f hc6 h
    refine rS { kn := [(5, .f hc6)] } [0, 8] [] hN (by kernel_rfl) (by kernel_rfl) ?_
    refine tnU ?_
    exact ⟨(decide (a0 > 9)), h, by kernel_rfl⟩
  ·rintro _ ⟨v3, h, rfl⟩
   unfold rex_Word.j5 at h
   refine tS (b := v3) (by kernel_rfl) (fun hc4 => ?_) (fun hc4 => ?_)
   ·replace h := ite_t hc4 h
    refine WpC.seq ?_
    refine rS {} [2] [] hN (by kernel_rfl) (by kernel_rfl) ?_
    refine tnU ?_
    refine WpC.ret ?_
    refine thenQ_ret ?_
    have hq := Option.some.inj h
    subst hq
    exact eR (by kernel_rfl) (by kernel_rfl)
   ·replace h := ite_f hc4 h
    refine WpC.conv (cS [.k [0] []] (by kernel_rfl) (by kernel_rfl)) (WpC.skip ?_)
    refine tnU ?_
    exact ⟨h, by kernel_rfl⟩
 ·rintro _ ⟨h, rfl⟩
  unfold rex_Word.j2 at h
  refine WpC.seq ?_
  obtain ⟨v1, hv1, h⟩ := bind_some h
  refine rS { its := [(1, .e 1 (sok_indexG (U := Un) (rs := [(9, .p I6 a0)]) (bs := rexWords) rfl rfl Tryz.underlying262 ty_9 hO.words o0 hv1))] } [2] [] hN (by kernel_rfl) (by kernel_rfl) ?_
  refine tnU ?_
  refine WpC.ret ?_
  have hq := Option.some.inj h
  subst hq
  exact eR (by kernel_rfl) (by kernel_rfl)

theorem class_Set_Empty.ok (O : Out) (hO : GOkE O) (k : Nat) (a0 : List Int) (out : Bool) (h : class_Set_Empty.f k a0 = some out) : COk Un O Tryz.prog 168 { ar := [.p U6 a0], r := .p .bool out } := by
 refine cok_of_wp Tryz.func168 rfl (k := 6) rfl (Nat.le_of_ble_eq_true rfl) (namesOk_pure rfl rfl rfl rfl) ?_
 intro B hN
 refine WpC.conv (cvK (b := ⟨[(0, .p U6 a0)], []⟩) [0] [] (by kernel_rfl)) ?_
 unfold class_Set_Empty.f at h
 refine WpC.seq ?_
 refine rS {} [1] [1] hN (by kernel_rfl) (by kernel_rfl) ?_
 refine tnU ?_
 refine WpC.seq ?_
 refine rS { its := [(2, .e 2 (sok_eqArr (U := Un) (op := .eql) (rs := [(3, .p U6 a0), (4, .p U6 ((List.replicate 4 (0 : Int)) : List Int))]) rfl rfl Tryz.underlying198 Tryz.underlying102 ty_102 (by kernel_rfl) o0 o1))] } [2] [] hN (by kernel_rfl) (by kernel_rfl) ?_
 refine tnU ?_
 refine WpC.ret ?_
 have hq := Option.some.inj h
 subst hq
 exact eR (by kernel_rfl) (by kernel_rfl)

theorem prog_Right_1.bok (O : Out) (hO : GOkE O) (k : Nat) (rf_prog_Right : T_rex_Node → Option Bool) (hrf_prog_Right : ∀ (a0 : T_rex_Node) (out : Bool), rf_prog_Right a0 = some out → COk Un O Tryz.prog 147 { ar := [.p (.named 16) a0], r := .p .bool out }) (a0 : T_rex_Node) (out : Bool) (h : prog_Right_1.b k rf_prog_Right a0 = some out) : COk Un O Tryz.prog 169 { ar := [.p (.named 16) a0], r := .p .bool out } := by
 refine cok_of_wp Tryz.func169 rfl (k := 6) rfl (Nat.le_of_ble_eq_true rfl) (namesOk_pure rfl rfl rfl rfl) ?_
 intro B hN
 refine WpC.conv (cvK (b := ⟨[(0, .p (.named 16) a0)], []⟩) [0] [] (by kernel_rfl)) ?_
 unfold prog_Right_1.b at h
 refine WpC.seq ?_
 refine rS {} [1] [1] hN (by kernel_rfl) (by kernel_rfl) ?_
 refine tnU ?_
 refine WpC.seq ?_
 obtain ⟨v1, hv1, h⟩ := bind_some h
 refine rS { its := [(1, .c (hrf_prog_Right (T_rex_Node.mk a0.f_Kind a0.f_Index a0.f_Set a0.f_Kids) v1 hv1))] } [2] [] hN (by kernel_rfl) (by kernel_rfl) ?_
 refine tnU ?_
 refine WpC.ret ?_
 have hq := Option.some.inj h
 subst hq
 exact eR (by kernel_rfl) (by kernel_rfl)

theorem rex_Node_180_m0.bok (O : Out) (hO : GOkE O) (k : Nat) (rf_prog_Right_1 : T_rex_Node → Option Bool) (hrf_prog_Right_1 : ∀ (a0 : T_rex_Node) (out : Bool), rf_prog_Right_1 a0 = some out → COk Un O Tryz.prog 169 { ar := [.p (.named 16) a0], r := .p .bool out }) (a0 : List T_rex_Node) (out : Int) (h : rex_Node_180_m0.b k rf_prog_Right_1 a0 = some out) : COk Un O Tryz.prog 180 { ar := [.p (.list (.named 16)) a0, .clo 169 []], r := .p I6 out } := by
 refine cok_of_wp Tryz.func180 rfl (k := 19) rfl (Nat.le_of_ble_eq_true rfl) (namesOk_pure rfl rfl rfl rfl) ?_
 intro B hN
 refine WpC.conv (cvK (b := ⟨[(0, .p (.list (.named 16)) a0), (1, .clo 169 [])], []⟩) [0, 1] [] (by kernel_rfl)) ?_
 unfold rex_Node_180_m0.b at h
 refine WpC.seq ?_
 refine rS {} [0, 1] [] hN (by kernel_rfl) (by kernel_rfl) ?_
 refine tnU ?_
 refine sqJ (fun st' => rex_Node_180_m0.j1 k = some out ∧ st' = ⟨[], []⟩) ?_ ?_
 ·refine WpC.seq ?_
  refine rS {} [0, 1, 7, 8] [] hN (by kernel_rfl) (by kernel_rfl) ?_
  refine tnU ?_
  refine WpC.block ?_
  obtain ⟨o4, hlo4, h⟩ := bind_some h
  have hout5 := h
  clear h
  refine WpC.loop (U := Un) (fun n st' => ∃ v2 : Int, rex_Node_180_m0.l3 k rf_prog_Right_1 a0 n v2 = some o4 ∧ st' = ⟨[(0, .p (.list (.named 16)) a0), (1, .clo 169 []), (7, .p I6 ((a0.length : Int) : Int)), (8, .p I6 v2)], []⟩) k ⟨0, hlo4, by kernel_rfl⟩ ?_
  clear hlo4
  rintro (_ | n) _ ⟨v2, h, rfl⟩
  ·cases h
  ·rw [rex_Node_180_m0.l3] at h
   refine WpC.seq ?_
   refine rS {} [0, 1, 7, 8, 9] [] hN (by kernel_rfl) (by kernel_rfl) ?_
   refine tnU ?_
   refine WpC.seq ?_
   refine tS (b := (decide (v2 < (a0.length : Int)))) (by kernel_rfl) (fun hc6 => ?_) (fun hc6 => ?_)
   ·replace h := ite_t hc6 h
    refine WpC.conv (cS [.k [0, 1, 7, 8] []] (by kernel_rfl) (by kernel_rfl)) (WpC.skip ?_)
    refine tnU ?_
    refine WpC.seq ?_
    refine WpC.block ?_
    refine WpC.seq ?_
    refine rS {} [0, 1, 5, 7, 8] [] hN (by kernel_rfl) (by kernel_rfl) ?_
    refine tnU ?_
    refine WpC.seq ?_
    obtain ⟨v7, hv7, h⟩ := bind_some h
    obtain ⟨v8, hv8, h⟩ := bind_some h
    refine rS { its := [(3, .v (.named 16) hv7), (5, .c (hrf_prog_Right_1 v7 v8 hv8))] } [0, 1, 5, 7, 8, 16] [] hN (by kernel_rfl) (by kernel_rfl) ?_
    refine tnU ?_
    refine tS (b := v8) (by kernel_rfl) (fun hc9 => ?_) (fun hc9 => ?_)
    ·replace h := ite_t hc9 h
     refine WpC.seq ?_
     refine rS {} [4] [] hN (by kernel_rfl) (by kernel_rfl) ?_
     refine tnU ?_
     refine WpC.ret ?_
     refine blockQ_ret ?_
     refine thenQ_ret ?_
     have hq := Option.some.inj h
     subst hq
     refine thenQ_ret ?_
     have h := hout5
     refine blockQ_ret ?_
     refine thenQ_ret ?_
     have hq := Option.some.inj h
     subst hq
     exact eR (by kernel_rfl) (by kernel_rfl)
    ·replace h := ite_f hc9 h
     refine WpC.conv (cS [.k [0, 1, 7, 8] []] (by kernel_rfl) (by kernel_rfl)) (WpC.skip ?_)
     refine blockQ_normal ?_
     refine tnU ?_
     refine rS {} [0, 1, 7, 8] [] hN (by kernel_rfl) (by kernel_rfl) ?_
     refine tnU ?_
     exact ⟨n, Nat.lt_succ_self n, (IntKind.i64.wrap (v2 + 1)), h, by kernel_rfl⟩
   ·replace h := ite_f hc6 h
    refine WpC.conv (cS [.k [] []] (by kernel_rfl) (by kernel_rfl)) (WpC.exit ?_)
    refine thenQ_exit ?_
    have hq := Option.some.inj h
    subst hq
    refine thenQ_exit ?_
    have h := hout5
    refine blockQ_hit ?_
    refine tnU ?_
    exact ⟨h, by kernel_rfl⟩
 ·rintro _ ⟨h, rfl⟩
  unfold rex_Node_180_m0.j1 at h
  refine WpC.seq ?_
  refine rS {} [4] [] hN (by kernel_rfl) (by kernel_rfl) ?_
  refine tnU ?_
  refine WpC.ret ?_
  have hq := Option.some.inj h
  subst hq
  exact eR (by kernel_rfl) (by kernel_rfl)

theorem rex_Node_m0.bok (O : Out) (hO : GOkE O) (k : Nat) (rf_rex_Node_180_m0 : (List T_rex_Node) → Option Int) (hrf_rex_Node_180_m0 : ∀ (a0 : List T_rex_Node) (out : Int), rf_rex_Node_180_m0 a0 = some out → COk Un O Tryz.prog 180 { ar := [.p (.list (.named 16)) a0, .clo 169 []], r := .p I6 out }) (a0 : List T_rex_Node) (out : Bool) (h : rex_Node_m0.b k rf_rex_Node_180_m0 a0 = some out) : COk Un O Tryz.prog 170 { ar := [.p (.list (.named 16)) a0, .clo 169 []], r := .p .bool out } := by
 refine cok_of_wp Tryz.func170 rfl (k := 9) rfl (Nat.le_of_ble_eq_true rfl) (namesOk_pure rfl rfl rfl rfl) ?_
 intro B hN
 refine WpC.conv (cvK (b := ⟨[(0, .p (.list (.named 16)) a0), (1, .clo 169 [])], []⟩) [0, 1] [] (by kernel_rfl)) ?_
 unfold rex_Node_m0.b at h
 refine WpC.seq ?_
 refine rS {} [0, 1] [] hN (by kernel_rfl) (by kernel_rfl) ?_
 refine tnU ?_
 refine WpC.seq ?_
 obtain ⟨v1, hv1, h⟩ := bind_some h
 refine rS { its := [(2, .c (hrf_rex_Node_180_m0 a0 v1 hv1))] } [4] [] hN (by kernel_rfl) (by kernel_rfl) ?_
 refine tnU ?_
 refine WpC.ret ?_
 have hq := Option.some.inj h
 subst hq
 exact eR (by kernel_rfl) (by kernel_rfl)

theorem prog_Right.bok (O : Out) (hO : GOkE O) (k : Nat) (rf_rex_Node_m0 : (List T_rex_Node) → Option Bool) (hrf_rex_Node_m0 : ∀ (a0 : List T_rex_Node) (out : Bool), rf_rex_Node_m0 a0 = some out → COk Un O Tryz.prog 170 { ar := [.p (.list (.named 16)) a0, .clo 169 []], r := .p .bool out }) (a0 : T_rex_Node) (out : Bool) (h : prog_Right.b k rf_rex_Node_m0 a0 = some out) : COk Un O Tryz.prog 147 { ar := [.p (.named 16) a0], r := .p .bool out } := by
 refine cok_of_wp Tryz.func147 rfl (k := 64) rfl (Nat.le_of_ble_eq_true rfl) (namesOk_pure rfl rfl rfl rfl) ?_
 intro B hN
 refine WpC.conv (cvK (b := ⟨[(0, .p (.named 16) a0)], []⟩) [0] [] (by kernel_rfl)) ?_
 unfold prog_Right.b at h
 refine WpC.seq ?_
 refine rS {} [1] [1] hN (by kernel_rfl) (by kernel_rfl) ?_
 refine tnU ?_
 refine WpC.seq ?_
 obtain ⟨v1, hv1, h⟩ := bind_some h
 refine rS { its := [(2, .c (prog_kids.ok O hO k a0.f_Kind v1 hv1))] } [1, 3, 4] [1] hN (by kernel_rfl) (by kernel_rfl) ?_
 refine tnU ?_
 refine WpC.seq ?_
 refine rS {} [1, 3, 4, 5] [1] hN (by kernel_rfl) (by kernel_rfl) ?_
 refine tnU ?_
 refine sqJ (fun st' => ∃ v2 : Bool, prog_Right.j19 k rf_rex_Node_m0 a0 v1 v2 = some out ∧ st' = ⟨[(1, .loc 1 0), (3, .p I6 v1.1), (4, .p I6 v1.2), (5, .p .bool v2)], [(1, .box [.p I6 a0.f_Kind, .p I6 a0.f_Index, .p U6 a0.f_Set, .p (.list (.named 16)) a0.f_Kids])]⟩) ?_ ?_
 ·refine WpC.seq ?_
  refine rS {} [1, 3, 4, 5, 18] [1] hN (by kernel_rfl) (by kernel_rfl) ?_
  refine tnU ?_
  refine tS (b := (a0.f_Kind == 7)) (by kernel_rfl) (fun hc20 => ?_) (fun hc20 => ?_)
  ·replace h := ite_t hc20 h
   rcases bool_cases (decide (a0.f_Index ≥ 1)) with hc21 | hc21
   ·replace h := ite_t hc21 h
    refine rS { kn := [(22, .t hc21)] } [1, 3, 4, 5] [1] hN (by kernel_rfl) (by kernel_rfl) ?_
    refine tnU ?_
    exact ⟨(decide (a0.f_Index ≤ 9)), h, by kernel_rfl⟩
   ·replace h := ite_f hc21 h
    refine rS { kn := [(22, .f hc21)] } [1, 3, 4, 5] [1] hN (by kernel_rfl) (by kernel_rfl) ?_
    refine tnU ?_
    exact ⟨false, h, by kernel_rfl⟩
  ·replace h := ite_f hc20 h
   refine WpC.conv (cS [.k [1, 3, 4, 5] [1]] (by kernel_rfl) (by kernel_rfl)) (WpC.skip ?_)
   refine tnU ?_
   exact ⟨(a0.f_Index == 0), h, by kernel_rfl⟩
 ·rintro _ ⟨v2, h, rfl⟩
  unfold prog_Right.j19 at h
  refine sqJ (fun st' => prog_Right.j4 k rf_rex_Node_m0 a0 = some out ∧ st' = ⟨[(1, .loc 1 0)], [(1, .box [.p I6 a0.f_Kind, .p I6 a0.f_Index, .p U6 a0.f_Set, .p (.list (.named 16)) a0.f_Kids])]⟩) ?_ ?_
  ·refine WpC.block ?_
   refine sqJ (fun st' => ∃ v5 : Bool, prog_Right.j16 k rf_rex_Node_m0 a0 v1 v5 = some out ∧ st' = ⟨[(1, .loc 1 0), (3, .p I6 v1.1), (4, .p I6 v1.2), (27, .p .bool v5)], [(1, .box [.p I6 a0.f_Kind, .p I6 a0.f_Index, .p U6 a0.f_Set, .p (.list (.named 16)) a0.f_Kids])]⟩) ?_ ?_
   ·obtain ⟨v17, hv17, h⟩ := bind_some h
    rcases bool_cases (v17 == ([] : List UInt8)) with hc18 | hc18
    ·replace h := ite_t hc18 h
     refine rS { its := [(2, .c (rex_Word.ok O hO k a0.f_Kind v17 hv17))], kn := [(32, .t hc18)] } [1, 3, 4, 27] [1] hN (by kernel_rfl) (by kernel_rfl) ?_
     refine tnU ?_
     exact ⟨true, h, by kernel_rfl⟩
    ·replace h := ite_f hc18 h
     refine rS { its := [(2, .c (rex_Word.ok O hO k a0.f_Kind v17 hv17))], kn := [(32, .f hc18)] } [1, 3, 4, 27] [1] hN (by kernel_rfl) (by kernel_rfl) ?_
     refine tnU ?_
     exact ⟨(!v2), h, by kernel_rfl⟩
   ·rintro _ ⟨v5, h, rfl⟩
    unfold prog_Right.j16 at h
    refine tS (b := v5) (by kernel_rfl) (fun hc6 => ?_) (fun hc6 => ?_)
    ·replace h := ite_t hc6 h
     refine WpC.seq ?_
     refine rS {} [2] [] hN (by kernel_rfl) (by kernel_rfl) ?_
     refine tnU ?_
     refine WpC.ret ?_
     refine blockQ_ret ?_
     refine thenQ_ret ?_
     have hq := Option.some.inj h
     subst hq
     exact eR (by kernel_rfl) (by kernel_rfl)
    ·replace h := ite_f hc6 h
     refine sqJ (fun st' => ∃ v7 : Bool, prog_Right.j14 k rf_rex_Node_m0 a0 v7 = some out ∧ st' = ⟨[(1, .loc 1 0), (36, .p .bool v7)], [(1, .box [.p I6 a0.f_Kind, .p I6 a0.f_Index, .p U6 a0.f_Set, .p (.list (.named 16)) a0.f_Kids])]⟩) ?_ ?_
     ·rcases bool_cases (decide ((a0.f_Kids.length : Int) < v1.1)) with hc15 | hc15
      ·replace h := ite_t hc15 h
       refine rS { kn := [(42, .t hc15)] } [1, 36] [1] hN (by kernel_rfl) (by kernel_rfl) ?_
       refine tnU ?_
       exact ⟨true, h, by kernel_rfl⟩
      ·replace h := ite_f hc15 h
       refine rS { kn := [(42, .f hc15)] } [1, 36] [1] hN (by kernel_rfl) (by kernel_rfl) ?_
       refine tnU ?_
       exact ⟨(decide ((a0.f_Kids.length : Int) > v1.2)), h, by kernel_rfl⟩
     ·rintro _ ⟨v7, h, rfl⟩
      unfold prog_Right.j14 at h
      refine tS (b := v7) (by kernel_rfl) (fun hc8 => ?_) (fun hc8 => ?_)
      ·replace h := ite_t hc8 h
       refine WpC.seq ?_
       refine rS {} [2] [] hN (by kernel_rfl) (by kernel_rfl) ?_
       refine tnU ?_
       refine WpC.ret ?_
       refine blockQ_ret ?_
       refine thenQ_ret ?_
       have hq := Option.some.inj h
       subst hq
       exact eR (by kernel_rfl) (by kernel_rfl)
      ·replace h := ite_f hc8 h
       refine sqJ (fun st' => ∃ v9 : Bool, prog_Right.j11 k rf_rex_Node_m0 a0 v9 = some out ∧ st' = ⟨[(1, .loc 1 0), (49, .p .bool v9)], [(1, .box [.p I6 a0.f_Kind, .p I6 a0.f_Index, .p U6 a0.f_Set, .p (.list (.named 16)) a0.f_Kids])]⟩) ?_ ?_
       ·rcases bool_cases (a0.f_Kind != 1) with hc12 | hc12
        ·replace h := ite_t hc12 h
         obtain ⟨v13, hv13, h⟩ := bind_some h
         refine rS { its := [(6, .c (class_Set_Empty.ok O hO k a0.f_Set v13 hv13))], kn := [(53, .t hc12)] } [1, 49] [1] hN (by kernel_rfl) (by kernel_rfl) ?_
         refine tnU ?_
         exact ⟨(!v13), h, by kernel_rfl⟩
        ·replace h := ite_f hc12 h
         refine rS { kn := [(53, .f hc12)] } [1, 49] [1] hN (by kernel_rfl) (by kernel_rfl) ?_
         refine tnU ?_
         exact ⟨false, h, by kernel_rfl⟩
       ·rintro _ ⟨v9, h, rfl⟩
        unfold prog_Right.j11 at h
        refine tS (b := v9) (by kernel_rfl) (fun hc10 => ?_) (fun hc10 => ?_)
        ·replace h := ite_t hc10 h
         refine WpC.seq ?_
         refine rS {} [2] [] hN (by kernel_rfl) (by kernel_rfl) ?_
         refine tnU ?_
         refine WpC.ret ?_
         refine blockQ_ret ?_
         refine thenQ_ret ?_
         have hq := Option.some.inj h
         subst hq
         exact eR (by kernel_rfl) (by kernel_rfl)
        ·replace h := ite_f hc10 h
         refine WpC.conv (cS [.k [1] [1]] (by kernel_rfl) (by kernel_rfl)) (WpC.skip ?_)
         refine blockQ_normal ?_
         refine tnU ?_
         exact ⟨h, by kernel_rfl⟩
  ·rintro _ ⟨h, rfl⟩
   unfold prog_Right.j4 at h
   refine WpC.seq ?_
   refine rS {} [1, 6] [1] hN (by kernel_rfl) (by kernel_rfl) ?_
   refine tnU ?_
   refine WpC.seq ?_
   obtain ⟨v3, hv3, h⟩ := bind_some h
   refine rS { its := [(3, .c (hrf_rex_Node_m0 a0.f_Kids v3 hv3))] } [2] [] hN (by kernel_rfl) (by kernel_rfl) ?_
   refine tnU ?_
   refine WpC.ret ?_
   have hq := Option.some.inj h
   subst hq
   exact eR (by kernel_rfl) (by kernel_rfl)

theorem scc_prog_Right.ok (O : Out) (hO : GOkE O) : ∀ k : Nat, (∀ (a0 : T_rex_Node) (out : Bool), prog_Right_1.f k a0 = some out → COk Un O Tryz.prog 169 { ar := [.p (.named 16) a0], r := .p .bool out }) ∧ (∀ (a0 : List T_rex_Node) (out : Int), rex_Node_180_m0.f k a0 = some out → COk Un O Tryz.prog 180 { ar := [.p (.list (.named 16)) a0, .clo 169 []], r := .p (.int .i64) out }) ∧ (∀ (a0 : List T_rex_Node) (out : Bool), rex_Node_m0.f k a0 = some out → COk Un O Tryz.prog 170 { ar := [.p (.list (.named 16)) a0, .clo 169 []], r := .p .bool out }) ∧ (∀ (a0 : T_rex_Node) (out : Bool), prog_Right.f k a0 = some out → COk Un O Tryz.prog 147 { ar := [.p (.named 16) a0], r := .p .bool out }) := by
 intro k
 induction k with
 | zero => exact ⟨fun a0 out h => (by have h2 : (none : Option Bool) = some out := h; cases h2), fun a0 out h => (by have h2 : (none : Option Int) = some out := h; cases h2), fun a0 out h => (by have h2 : (none : Option Bool) = some out := h; cases h2), fun a0 out h => (by have h2 : (none : Option Bool) = some out := h; cases h2)⟩
 | succ k ih => exact ⟨fun a0 out h => prog_Right_1.bok O hO k _ ih.2.2.2 a0 out h, fun a0 out h => rex_Node_180_m0.bok O hO k _ ih.1 a0 out h, fun a0 out h => rex_Node_m0.bok O hO k _ ih.2.1 a0 out h, fun a0 out h => prog_Right.bok O hO k _ ih.2.2.1 a0 out h⟩
theorem prog_Right.ok (O : Out) (hO : GOkE O) (k : Nat) (a0 : T_rex_Node) (out : Bool) (h : prog_Right.f k a0 = some out) : COk Un O Tryz.prog 147 { ar := [.p (.named 16) a0], r := .p .bool out } := (scc_prog_Right.ok O hO k).2.2.2 a0 out h

end Go.Proofs.YtpcobejkpbalcaaGreatDoor
