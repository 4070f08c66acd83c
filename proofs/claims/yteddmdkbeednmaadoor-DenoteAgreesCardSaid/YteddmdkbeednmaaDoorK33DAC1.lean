/- A part of the proof of a given law: DAC1. Own work, printed in part by a program of mine. -/
import Derived.Test.YteddmdkbeednmaaDoorK33DAC0
namespace Go.Proofs.YteddmdkbeednmaaDoor
open Go Go.AM
set_option linter.unusedVariables false
set_option linter.unusedSimpArgs false
set_option maxRecDepth 100000
set_option maxHeartbeats 4000000
theorem rex_Parse.ok (O : Out) (hO : GOkE O) (k : Nat) (a0 : List UInt8) (out : T_rex_Node × Nat) (h : rex_Parse.f k a0 = some out) : COk Un O Tryd.prog 25 { ar := [.p .str a0], r := .tup [.p (.named 3) out.1, .p .err out.2] } := by
 refine cok_of_wp Tryd.func25 rfl (k := 41) rfl (Nat.le_of_ble_eq_true rfl) (namesOk_pure rfl rfl rfl rfl) ?_
 intro B hN
 refine WpC.conv (cvK (b := ⟨[(0, .p .str a0)], []⟩) [0] [] (by kernel_rfl)) ?_
 unfold rex_Parse.f at h
 refine WpC.seq ?_
 refine rS {} [0, 2] [2] hN (by kernel_rfl) (by kernel_rfl) ?_
 refine tnU ?_
 refine WpC.seq ?_
 refine WpC.seq ?_
 refine rS {} [0, 2, 8] [2] hN (by kernel_rfl) (by kernel_rfl) ?_
 refine tnU ?_
 refine tS (b := (decide ((a0.length : Int) > 60))) (by kernel_rfl) (fun hc1 => ?_) (fun hc1 => ?_)
 ·replace h := ite_t hc1 h
  refine WpC.seq ?_
  refine rA { its := [(1, .e 1 (sok_loadG (U := Un) (t := .err) (rs := []) rfl rfl ty_50 rfl rfl (hO.var 1 0 rfl) (fun S w => .err 1)))] } [2, 3] [2] hN (by kernel_rfl) (by kernel_rfl) (by kernel_rfl) ?_
  refine tnU ?_
  refine WpC.ret ?_
  refine thenQ_ret ?_
  have hq := Option.some.inj h
  subst hq
  exact eR (by kernel_rfl) (by kernel_rfl)
 ·replace h := ite_f hc1 h
  refine WpC.conv (cS [.k [0, 2] [2]] (by kernel_rfl) (by kernel_rfl)) (WpC.skip ?_)
  refine tnU ?_
  refine WpC.seq ?_
  refine rS {} [0, 2, 4] [2, 13] hN (by kernel_rfl) (by kernel_rfl) ?_
  refine tnU ?_
  refine WpC.seq ?_
  obtain ⟨v2, hv2, h⟩ := bind_some h
  refine rS { its := [(1, .c (COk.ren (rex_parser_expression_m0.ok O hO k a0 0 0 false v2 hv2) (fun n => if n = 100000 then 13 else n) (injOn_of (by kernel_rfl))))] } [0, 2, 4, 5] [2, 5, 13] hN (by kernel_rfl) (by kernel_rfl) ?_
  refine tnU ?_
  refine sqJ (fun st' => rex_Parse.j3 k v2 = some out ∧ st' = ⟨[(2, .loc 2 0), (5, .loc 5 0)], [(2, .box [.p I6 (0 : Int), .p I6 (0 : Int), .p U6 ((List.replicate 4 (0 : Int)) : List Int), .p (.list (.named 3)) ([] : List T_rex_Node)]), (5, .box [.p I6 v2.1.f_Kind, .p I6 v2.1.f_Index, .p U6 v2.1.f_Set, .p (.list (.named 3)) v2.1.f_Kids])]⟩) ?_ ?_
  ·refine WpC.block ?_
   refine sqJ (fun st' => ∃ v4 : Bool, rex_Parse.j7 k a0 v2 v4 = some out ∧ st' = ⟨[(2, .loc 2 0), (4, .loc 13 0), (5, .loc 5 0), (16, .p .bool v4)], [(2, .box [.p I6 (0 : Int), .p I6 (0 : Int), .p U6 ((List.replicate 4 (0 : Int)) : List Int), .p (.list (.named 3)) ([] : List T_rex_Node)]), (5, .box [.p I6 v2.1.f_Kind, .p I6 v2.1.f_Index, .p U6 v2.1.f_Set, .p (.list (.named 3)) v2.1.f_Kids]), (13, .box [.p .str a0, .p I6 v2.2.1, .p I6 v2.2.2.1, .p .bool v2.2.2.2])]⟩) ?_ ?_
   ·rcases bool_cases v2.2.2.2 with hc8 | hc8
    ·replace h := ite_t hc8 h
     refine rS { kn := [(21, .t hc8)] } [2, 4, 5, 16] [2, 5, 13] hN (by kernel_rfl) (by kernel_rfl) ?_
     refine tnU ?_
     exact ⟨true, h, by kernel_rfl⟩
    ·replace h := ite_f hc8 h
     refine rS { kn := [(21, .f hc8)] } [2, 4, 5, 16] [2, 5, 13] hN (by kernel_rfl) (by kernel_rfl) ?_
     refine tnU ?_
     exact ⟨(decide (v2.2.1 < (a0.length : Int))), h, by kernel_rfl⟩
   ·rintro _ ⟨v4, h, rfl⟩
    unfold rex_Parse.j7 at h
    refine tS (b := v4) (by kernel_rfl) (fun hc5 => ?_) (fun hc5 => ?_)
    ·replace h := ite_t hc5 h
     refine WpC.seq ?_
     refine rA { its := [(1, .e 1 (sok_loadG (U := Un) (t := .err) (rs := []) rfl rfl ty_50 rfl rfl (hO.var 5 1 rfl) (fun S w => .err 5)))] } [2, 3] [2] hN (by kernel_rfl) (by kernel_rfl) (by kernel_rfl) ?_
     refine tnU ?_
     refine WpC.ret ?_
     refine blockQ_ret ?_
     refine thenQ_ret ?_
     have hq := Option.some.inj h
     subst hq
     exact eR (by kernel_rfl) (by kernel_rfl)
    ·replace h := ite_f hc5 h
     refine WpC.seq ?_
     refine rS {} [2, 5, 32] [2, 5] hN (by kernel_rfl) (by kernel_rfl) ?_
     refine tnU ?_
     refine tS (b := (decide (v2.2.2.1 > 9))) (by kernel_rfl) (fun hc6 => ?_) (fun hc6 => ?_)
     ·replace h := ite_t hc6 h
      refine WpC.seq ?_
      refine rA { its := [(1, .e 1 (sok_loadG (U := Un) (t := .err) (rs := []) rfl rfl ty_50 rfl rfl (hO.var 9 2 rfl) (fun S w => .err 9)))] } [2, 3] [2] hN (by kernel_rfl) (by kernel_rfl) (by kernel_rfl) ?_
      refine tnU ?_
      refine WpC.ret ?_
      refine blockQ_ret ?_
      refine thenQ_ret ?_
      have hq := Option.some.inj h
      subst hq
      exact eR (by kernel_rfl) (by kernel_rfl)
     ·replace h := ite_f hc6 h
      refine WpC.conv (cS [.k [2, 5] [2, 5]] (by kernel_rfl) (by kernel_rfl)) (WpC.skip ?_)
      refine blockQ_normal ?_
      refine tnU ?_
      exact ⟨h, by kernel_rfl⟩
  ·rintro _ ⟨h, rfl⟩
   unfold rex_Parse.j3 at h
   refine WpC.seq ?_
   refine rS {} [2, 3] [2] hN (by kernel_rfl) (by kernel_rfl) ?_
   refine tnU ?_
   refine WpC.conv (cS [.nE 3, .k [2, 3] [2]] (by kernel_rfl) (by kernel_rfl)) (WpC.ret ?_)
   have hq := Option.some.inj h
   subst hq
   exact eR (by kernel_rfl) (by kernel_rfl)

theorem prog_kids.ok (O : Out) (hO : GOkE O) (k : Nat) (a0 : Int) (out : Int × Int) (h : prog_kids.f k a0 = some out) : COk Un O Tryd.prog 31 { ar := [.p I6 a0], r := .tup [.p I6 out.1, .p I6 out.2] } := by
 refine cok_of_wp Tryd.func31 rfl (k := 13) rfl (Nat.le_of_ble_eq_true rfl) (namesOk_pure rfl rfl rfl rfl) ?_
 intro B hN
 refine WpC.conv (cvK (b := ⟨[(0, .p I6 a0)], []⟩) [0] [] (by kernel_rfl)) ?_
 unfold prog_kids.f at h
 refine WpC.seq ?_
 refine rS {} [0] [] hN (by kernel_rfl) (by kernel_rfl) ?_
 refine tnU ?_
 refine sqJ (fun st' => prog_kids.j1 k = some out ∧ st' = ⟨[], []⟩) ?_ ?_
 ·refine WpC.seq ?_
  refine rS {} [4] [] hN (by kernel_rfl) (by kernel_rfl) ?_
  refine tnU ?_
  refine WpC.block ?_
  refine sqJ (fun st' => ∃ v2 : Bool, prog_kids.j10 k a0 v2 = some out ∧ st' = ⟨[(4, .p I6 a0), (5, .p .bool v2)], []⟩) ?_ ?_
  ·refine WpC.seq ?_
   refine rS {} [4, 5] [] hN (by kernel_rfl) (by kernel_rfl) ?_
   refine tnU ?_
   refine tS (b := (a0 == 2)) (by kernel_rfl) (fun hc11 => ?_) (fun hc11 => ?_)
   ·replace h := ite_t hc11 h
    refine WpC.skip ?_
    refine tnU ?_
    exact ⟨(a0 == 2), h, by kernel_rfl⟩
   ·replace h := ite_f hc11 h
    refine rS {} [4, 5] [] hN (by kernel_rfl) (by kernel_rfl) ?_
    refine tnU ?_
    exact ⟨(a0 == 3), h, by kernel_rfl⟩
  ·rintro _ ⟨v2, h, rfl⟩
   unfold prog_kids.j10 at h
   refine tS (b := v2) (by kernel_rfl) (fun hc3 => ?_) (fun hc3 => ?_)
   ·replace h := ite_t hc3 h
    refine WpC.seq ?_
    refine rS {} [2, 3] [] hN (by kernel_rfl) (by kernel_rfl) ?_
    refine tnU ?_
    refine WpC.ret ?_
    refine blockQ_ret ?_
    refine thenQ_ret ?_
    have hq := Option.some.inj h
    subst hq
    exact eR (by kernel_rfl) (by kernel_rfl)
   ·replace h := ite_f hc3 h
    refine sqJ (fun st' => ∃ v4 : Bool, prog_kids.j6 k v4 = some out ∧ st' = ⟨[(8, .p .bool v4)], []⟩) ?_ ?_
    ·refine WpC.seq ?_
     refine rS {} [4, 8] [] hN (by kernel_rfl) (by kernel_rfl) ?_
     refine tnU ?_
     refine tS (b := (a0 == 4)) (by kernel_rfl) (fun hc7 => ?_) (fun hc7 => ?_)
     ·replace h := ite_t hc7 h
      refine WpC.conv (cS [.k [8] []] (by kernel_rfl) (by kernel_rfl)) (WpC.skip ?_)
      refine tnU ?_
      exact ⟨(a0 == 4), h, by kernel_rfl⟩
     ·replace h := ite_f hc7 h
      refine WpC.seq ?_
      refine rS {} [4, 8] [] hN (by kernel_rfl) (by kernel_rfl) ?_
      refine tnU ?_
      refine tS (b := (a0 == 5)) (by kernel_rfl) (fun hc8 => ?_) (fun hc8 => ?_)
      ·replace h := ite_t hc8 h
       refine WpC.conv (cS [.k [8] []] (by kernel_rfl) (by kernel_rfl)) (WpC.skip ?_)
       refine tnU ?_
       exact ⟨(a0 == 5), h, by kernel_rfl⟩
      ·replace h := ite_f hc8 h
       refine WpC.seq ?_
       refine rS {} [4, 8] [] hN (by kernel_rfl) (by kernel_rfl) ?_
       refine tnU ?_
       refine tS (b := (a0 == 6)) (by kernel_rfl) (fun hc9 => ?_) (fun hc9 => ?_)
       ·replace h := ite_t hc9 h
        refine WpC.conv (cS [.k [8] []] (by kernel_rfl) (by kernel_rfl)) (WpC.skip ?_)
        refine tnU ?_
        exact ⟨(a0 == 6), h, by kernel_rfl⟩
       ·replace h := ite_f hc9 h
        refine rS {} [8] [] hN (by kernel_rfl) (by kernel_rfl) ?_
        refine tnU ?_
        exact ⟨(a0 == 7), h, by kernel_rfl⟩
    ·rintro _ ⟨v4, h, rfl⟩
     unfold prog_kids.j6 at h
     refine tS (b := v4) (by kernel_rfl) (fun hc5 => ?_) (fun hc5 => ?_)
     ·replace h := ite_t hc5 h
      refine WpC.seq ?_
      refine rS {} [2, 3] [] hN (by kernel_rfl) (by kernel_rfl) ?_
      refine tnU ?_
      refine WpC.ret ?_
      refine blockQ_ret ?_
      refine thenQ_ret ?_
      have hq := Option.some.inj h
      subst hq
      exact eR (by kernel_rfl) (by kernel_rfl)
     ·replace h := ite_f hc5 h
      refine WpC.conv (cS [.k [] []] (by kernel_rfl) (by kernel_rfl)) (WpC.skip ?_)
      refine blockQ_normal ?_
      refine tnU ?_
      exact ⟨h, by kernel_rfl⟩
 ·rintro _ ⟨h, rfl⟩
  unfold prog_kids.j1 at h
  refine WpC.seq ?_
  refine rS {} [2, 3] [] hN (by kernel_rfl) (by kernel_rfl) ?_
  refine tnU ?_
  refine WpC.ret ?_
  have hq := Option.some.inj h
  subst hq
  exact eR (by kernel_rfl) (by kernel_rfl)

theorem rex_Word.ok (O : Out) (hO : GOkE O) (k : Nat) (a0 : Int) (out : List UInt8) (h : rex_Word.f k a0 = some out) : COk Un O Tryd.prog 32 { ar := [.p I6 a0], r := .p .str out } := by
 refine cok_of_wp Tryd.func32 rfl (k := 12) rfl (Nat.le_of_ble_eq_true rfl) (namesOk_pure rfl rfl rfl rfl) ?_
 intro B hN
 refine WpC.conv (cvK (b := ⟨[(0, .p I6 a0)], []⟩) [0] [] (by kernel_rfl)) ?_
 unfold rex_Word.f at h
 refine WpC.seq ?_
 refine rS {} [0] [] hN (by kernel_rfl) (by kernel_rfl) ?_
 refine tnU ?_
 refine sqJ (fun st' => rex_Word.j2 k a0 = some out ∧ st' = ⟨[(0, .p I6 a0)], []⟩) ?_ ?_
 ·refine sqJ (fun st' => ∃ v3 : Bool, rex_Word.j5 k a0 v3 = some out ∧ st' = ⟨[(0, .p I6 a0), (8, .p .bool v3)], []⟩) ?_ ?_
  ·rcases bool_cases (decide (a0 < 0)) with hc6 | hc6
   ·replace h := ite_t hc6 h
    refine rS { kn := [(5, .t hc6)] } [0, 8] [] hN (by kernel_rfl) (by kernel_rfl) ?_
    refine tnU ?_
    exact ⟨true, h, by kernel_rfl⟩
   ·replace h := ite_f hc6 h
    refine rS { kn := [(5, .f hc6)] } [0, 8] [] hN (by kernel_rfl) (by kernel_rfl) ?_
    refine tnU ?_
    exact ⟨(decide (a0 > 9)), h, by kernel_rfl⟩
  ·rintro _ ⟨v3, h, rfl⟩
   unfold rex_Word.j5 at h
   refine tS (b := v3) (by kernel_rfl) (fun hc4 => ?_) (fun hc4 => ?_)
   ·replace h := ite_t hc4 h
    refine WpC.seq ?_
    refine rS {} [2] [] hN (by kernel_rfl) (by kernel_rfl) ?_
    refine tnU ?_
    refine WpC.ret ?_
    refine thenQ_ret ?_
    have hq := Option.some.inj h
    subst hq
    exact eR (by kernel_rfl) (by kernel_rfl)
   ·replace h := ite_f hc4 h
    refine WpC.conv (cS [.k [0] []] (by kernel_rfl) (by kernel_rfl)) (WpC.skip ?_)
    refine tnU ?_
    exact ⟨h, by kernel_rfl⟩
 ·rintro _ ⟨h, rfl⟩
  unfold rex_Word.j2 at h
  refine WpC.seq ?_
  obtain ⟨v1, hv1, h⟩ := bind_some h
  refine rS { its := [(1, .e 1 (sok_indexG (U := Un) (rs := [(9, .p I6 a0)]) (bs := rexWords) rfl rfl Tryd.underlying89 ty_9 hO.words o0 hv1))] } [2] [] hN (by kernel_rfl) (by kernel_rfl) ?_
  refine tnU ?_
  refine WpC.ret ?_
  have hq := Option.some.inj h
  subst hq
  exact eR (by kernel_rfl) (by kernel_rfl)

theorem class_Set_Empty.ok (O : Out) (hO : GOkE O) (k : Nat) (a0 : List Int) (out : Bool) (h : class_Set_Empty.f k a0 = some out) : COk Un O Tryd.prog 22 { ar := [.p U6 a0], r := .p .bool out } := by
 refine cok_of_wp Tryd.func22 rfl (k := 6) rfl (Nat.le_of_ble_eq_true rfl) (namesOk_pure rfl rfl rfl rfl) ?_
 intro B hN
 refine WpC.conv (cvK (b := ⟨[(0, .p U6 a0)], []⟩) [0] [] (by kernel_rfl)) ?_
 unfold class_Set_Empty.f at h
 refine WpC.seq ?_
 refine rS {} [1] [1] hN (by kernel_rfl) (by kernel_rfl) ?_
 refine tnU ?_
 refine WpC.seq ?_
 refine rS { its := [(2, .e 2 (sok_eqArr (U := Un) (op := .eql) (rs := [(3, .p U6 a0), (4, .p U6 ((List.replicate 4 (0 : Int)) : List Int))]) rfl rfl Tryd.underlying24 Tryd.underlying22 ty_22 (by kernel_rfl) o0 o1))] } [2] [] hN (by kernel_rfl) (by kernel_rfl) ?_
 refine tnU ?_
 refine WpC.ret ?_
 have hq := Option.some.inj h
 subst hq
 exact eR (by kernel_rfl) (by kernel_rfl)

theorem prog_Right_1.bok (O : Out) (hO : GOkE O) (k : Nat) (rf_prog_Right : T_rex_Node → Option Bool) (hrf_prog_Right : ∀ (a0 : T_rex_Node) (out : Bool), rf_prog_Right a0 = some out → COk Un O Tryd.prog 9 { ar := [.p (.named 3) a0], r := .p .bool out }) (a0 : T_rex_Node) (out : Bool) (h : prog_Right_1.b k rf_prog_Right a0 = some out) : COk Un O Tryd.prog 33 { ar := [.p (.named 3) a0], r := .p .bool out } := by
 refine cok_of_wp Tryd.func33 rfl (k := 6) rfl (Nat.le_of_ble_eq_true rfl) (namesOk_pure rfl rfl rfl rfl) ?_
 intro B hN
 refine WpC.conv (cvK (b := ⟨[(0, .p (.named 3) a0)], []⟩) [0] [] (by kernel_rfl)) ?_
 unfold prog_Right_1.b at h
 refine WpC.seq ?_
 refine rS {} [1] [1] hN (by kernel_rfl) (by kernel_rfl) ?_
 refine tnU ?_
 refine WpC.seq ?_
 obtain ⟨v1, hv1, h⟩ := bind_some h
 refine rS { its := [(1, .c (hrf_prog_Right (T_rex_Node.mk a0.f_Kind a0.f_Index a0.f_Set a0.f_Kids) v1 hv1))] } [2] [] hN (by kernel_rfl) (by kernel_rfl) ?_
 refine tnU ?_
 refine WpC.ret ?_
 have hq := Option.some.inj h
 subst hq
 exact eR (by kernel_rfl) (by kernel_rfl)

theorem rex_Node_49_m0.bok (O : Out) (hO : GOkE O) (k : Nat) (rf_prog_Right_1 : T_rex_Node → Option Bool) (hrf_prog_Right_1 : ∀ (a0 : T_rex_Node) (out : Bool), rf_prog_Right_1 a0 = some out → COk Un O Tryd.prog 33 { ar := [.p (.named 3) a0], r := .p .bool out }) (a0 : List T_rex_Node) (out : Int) (h : rex_Node_49_m0.b k rf_prog_Right_1 a0 = some out) : COk Un O Tryd.prog 49 { ar := [.p (.list (.named 3)) a0, .clo 33 []], r := .p I6 out } := by
 refine cok_of_wp Tryd.func49 rfl (k := 19) rfl (Nat.le_of_ble_eq_true rfl) (namesOk_pure rfl rfl rfl rfl) ?_
 intro B hN
 refine WpC.conv (cvK (b := ⟨[(0, .p (.list (.named 3)) a0), (1, .clo 33 [])], []⟩) [0, 1] [] (by kernel_rfl)) ?_
 unfold rex_Node_49_m0.b at h
 refine WpC.seq ?_
 refine rS {} [0, 1] [] hN (by kernel_rfl) (by kernel_rfl) ?_
 refine tnU ?_
 refine sqJ (fun st' => rex_Node_49_m0.j1 k = some out ∧ st' = ⟨[], []⟩) ?_ ?_
 ·refine WpC.seq ?_
  refine rS {} [0, 1, 7, 8] [] hN (by kernel_rfl) (by kernel_rfl) ?_
  refine tnU ?_
  refine WpC.block ?_
  obtain ⟨o4, hlo4, h⟩ := bind_some h
  have hout5 := h
  clear h
  refine WpC.loop (U := Un) (fun n st' => ∃ v2 : Int, rex_Node_49_m0.l3 k rf_prog_Right_1 a0 n v2 = some o4 ∧ st' = ⟨[(0, .p (.list (.named 3)) a0), (1, .clo 33 []), (7, .p I6 ((a0.length : Int) : Int)), (8, .p I6 v2)], []⟩) k ⟨0, hlo4, by kernel_rfl⟩ ?_
  clear hlo4
  rintro (_ | n) _ ⟨v2, h, rfl⟩
  ·cases h
  ·rw [rex_Node_49_m0.l3] at h
   refine WpC.seq ?_
   refine rS {} [0, 1, 7, 8, 9] [] hN (by kernel_rfl) (by kernel_rfl) ?_
   refine tnU ?_
   refine WpC.seq ?_
   refine tS (b := (decide (v2 < (a0.length : Int)))) (by kernel_rfl) (fun hc6 => ?_) (fun hc6 => ?_)
   ·replace h := ite_t hc6 h
    refine WpC.conv (cS [.k [0, 1, 7, 8] []] (by kernel_rfl) (by kernel_rfl)) (WpC.skip ?_)
    refine tnU ?_
    refine WpC.seq ?_
    refine WpC.block ?_
    refine WpC.seq ?_
    refine rS {} [0, 1, 5, 7, 8] [] hN (by kernel_rfl) (by kernel_rfl) ?_
    refine tnU ?_
    refine WpC.seq ?_
    obtain ⟨v7, hv7, h⟩ := bind_some h
    obtain ⟨v8, hv8, h⟩ := bind_some h
    refine rS { its := [(3, .v (.named 3) hv7), (5, .c (hrf_prog_Right_1 v7 v8 hv8))] } [0, 1, 5, 7, 8, 16] [] hN (by kernel_rfl) (by kernel_rfl) ?_
    refine tnU ?_
    refine tS (b := v8) (by kernel_rfl) (fun hc9 => ?_) (fun hc9 => ?_)
    ·replace h := ite_t hc9 h
     refine WpC.seq ?_
     refine rS {} [4] [] hN (by kernel_rfl) (by kernel_rfl) ?_
     refine tnU ?_
     refine WpC.ret ?_
     refine blockQ_ret ?_
     refine thenQ_ret ?_
     have hq := Option.some.inj h
     subst hq
     refine thenQ_ret ?_
     have h := hout5
     refine blockQ_ret ?_
     refine thenQ_ret ?_
     have hq := Option.some.inj h
     subst hq
     exact eR (by kernel_rfl) (by kernel_rfl)
    ·replace h := ite_f hc9 h
     refine WpC.conv (cS [.k [0, 1, 7, 8] []] (by kernel_rfl) (by kernel_rfl)) (WpC.skip ?_)
     refine blockQ_normal ?_
     refine tnU ?_
     refine rS {} [0, 1, 7, 8] [] hN (by kernel_rfl) (by kernel_rfl) ?_
     refine tnU ?_
     exact ⟨n, Nat.lt_succ_self n, (IntKind.i64.wrap (v2 + 1)), h, by kernel_rfl⟩
   ·replace h := ite_f hc6 h
    refine WpC.conv (cS [.k [] []] (by kernel_rfl) (by kernel_rfl)) (WpC.exit ?_)
    refine thenQ_exit ?_
    have hq := Option.some.inj h
    subst hq
    refine thenQ_exit ?_
    have h := hout5
    refine blockQ_hit ?_
    refine tnU ?_
    exact ⟨h, by kernel_rfl⟩
 ·rintro _ ⟨h, rfl⟩
  unfold rex_Node_49_m0.j1 at h
  refine WpC.seq ?_
  refine rS {} [4] [] hN (by kernel_rfl) (by kernel_rfl) ?_
  refine tnU ?_
  refine WpC.ret ?_
  have hq := Option.some.inj h
  subst hq
  exact eR (by kernel_rfl) (by kernel_rfl)

theorem rex_Node_m0.bok (O : Out) (hO : GOkE O) (k : Nat) (rf_rex_Node_49_m0 : (List T_rex_Node) → Option Int) (hrf_rex_Node_49_m0 : ∀ (a0 : List T_rex_Node) (out : Int), rf_rex_Node_49_m0 a0 = some out → COk Un O Tryd.prog 49 { ar := [.p (.list (.named 3)) a0, .clo 33 []], r := .p I6 out }) (a0 : List T_rex_Node) (out : Bool) (h : rex_Node_m0.b k rf_rex_Node_49_m0 a0 = some out) : COk Un O Tryd.prog 34 { ar := [.p (.list (.named 3)) a0, .clo 33 []], r := .p .bool out } := by
 refine cok_of_wp Tryd.func34 rfl (k := 9) rfl (Nat.le_of_ble_eq_true rfl) (namesOk_pure rfl rfl rfl rfl) ?_
 intro B hN
 refine WpC.conv (cvK (b := ⟨[(0, .p (.list (.named 3)) a0), (1, .clo 33 [])], []⟩) [0, 1] [] (by kernel_rfl)) ?_
 unfold rex_Node_m0.b at h
 refine WpC.seq ?_
 refine rS {} [0, 1] [] hN (by kernel_rfl) (by kernel_rfl) ?_
 refine tnU ?_
 refine WpC.seq ?_
 obtain ⟨v1, hv1, h⟩ := bind_some h
 refine rS { its := [(2, .c (hrf_rex_Node_49_m0 a0 v1 hv1))] } [4] [] hN (by kernel_rfl) (by kernel_rfl) ?_
 refine tnU ?_
 refine WpC.ret ?_
 have hq := Option.some.inj h
 subst hq
 exact eR (by kernel_rfl) (by kernel_rfl)

theorem prog_Right.bok (O : Out) (hO : GOkE O) (k : Nat) (rf_rex_Node_m0 : (List T_rex_Node) → Option Bool) (hrf_rex_Node_m0 : ∀ (a0 : List T_rex_Node) (out : Bool), rf_rex_Node_m0 a0 = some out → COk Un O Tryd.prog 34 { ar := [.p (.list (.named 3)) a0, .clo 33 []], r := .p .bool out }) (a0 : T_rex_Node) (out : Bool) (h : prog_Right.b k rf_rex_Node_m0 a0 = some out) : COk Un O Tryd.prog 9 { ar := [.p (.named 3) a0], r := .p .bool out } := by
 refine cok_of_wp Tryd.func9 rfl (k := 64) rfl (Nat.le_of_ble_eq_true rfl) (namesOk_pure rfl rfl rfl rfl) ?_
 intro B hN
 refine WpC.conv (cvK (b := ⟨[(0, .p (.named 3) a0)], []⟩) [0] [] (by kernel_rfl)) ?_
 unfold prog_Right.b at h
 refine WpC.seq ?_
 refine rS {} [1] [1] hN (by kernel_rfl) (by kernel_rfl) ?_
 refine tnU ?_
 refine WpC.seq ?_
 obtain ⟨v1, hv1, h⟩ := bind_some h
 refine rS { its := [(2, .c (prog_kids.ok O hO k a0.f_Kind v1 hv1))] } [1, 3, 4] [1] hN (by kernel_rfl) (by kernel_rfl) ?_
 refine tnU ?_
 refine WpC.seq ?_
 refine rS {} [1, 3, 4, 5] [1] hN (by kernel_rfl) (by kernel_rfl) ?_
 refine tnU ?_
 refine sqJ (fun st' => ∃ v2 : Bool, prog_Right.j19 k rf_rex_Node_m0 a0 v1 v2 = some out ∧ st' = ⟨[(1, .loc 1 0), (3, .p I6 v1.1), (4, .p I6 v1.2), (5, .p .bool v2)], [(1, .box [.p I6 a0.f_Kind, .p I6 a0.f_Index, .p U6 a0.f_Set, .p (.list (.named 3)) a0.f_Kids])]⟩) ?_ ?_
 ·refine WpC.seq ?_
  refine rS {} [1, 3, 4, 5, 18] [1] hN (by kernel_rfl) (by kernel_rfl) ?_
  refine tnU ?_
  refine tS (b := (a0.f_Kind == 7)) (by kernel_rfl) (fun hc20 => ?_) (fun hc20 => ?_)
  ·replace h := ite_t hc20 h
   rcases bool_cases (decide (a0.f_Index ≥ 1)) with hc21 | hc21
   ·replace h := ite_t hc21 h
    refine rS { kn := [(22, .t hc21)] } [1, 3, 4, 5] [1] hN (by kernel_rfl) (by kernel_rfl) ?_
    refine tnU ?_
    exact ⟨(decide (a0.f_Index ≤ 9)), h, by kernel_rfl⟩
   ·replace h := ite_f hc21 h
    refine rS { kn := [(22, .f hc21)] } [1, 3, 4, 5] [1] hN (by kernel_rfl) (by kernel_rfl) ?_
    refine tnU ?_
    exact ⟨false, h, by kernel_rfl⟩
  ·replace h := ite_f hc20 h
   refine WpC.conv (cS [.k [1, 3, 4, 5] [1]] (by kernel_rfl) (by kernel_rfl)) (WpC.skip ?_)
   refine tnU ?_
   exact ⟨(a0.f_Index == 0), h, by kernel_rfl⟩
 ·rintro _ ⟨v2, h, rfl⟩
  unfold prog_Right.j19 at h
  refine sqJ (fun st' => prog_Right.j4 k rf_rex_Node_m0 a0 = some out ∧ st' = ⟨[(1, .loc 1 0)], [(1, .box [.p I6 a0.f_Kind, .p I6 a0.f_Index, .p U6 a0.f_Set, .p (.list (.named 3)) a0.f_Kids])]⟩) ?_ ?_
  ·refine WpC.block ?_
   refine sqJ (fun st' => ∃ v5 : Bool, prog_Right.j16 k rf_rex_Node_m0 a0 v1 v5 = some out ∧ st' = ⟨[(1, .loc 1 0), (3, .p I6 v1.1), (4, .p I6 v1.2), (27, .p .bool v5)], [(1, .box [.p I6 a0.f_Kind, .p I6 a0.f_Index, .p U6 a0.f_Set, .p (.list (.named 3)) a0.f_Kids])]⟩) ?_ ?_
   ·obtain ⟨v17, hv17, h⟩ := bind_some h
    rcases bool_cases (v17 == ([] : List UInt8)) with hc18 | hc18
    ·replace h := ite_t hc18 h
     refine rS { its := [(2, .c (rex_Word.ok O hO k a0.f_Kind v17 hv17))], kn := [(32, .t hc18)] } [1, 3, 4, 27] [1] hN (by kernel_rfl) (by kernel_rfl) ?_
     refine tnU ?_
     exact ⟨true, h, by kernel_rfl⟩
    ·replace h := ite_f hc18 h
     refine rS { its := [(2, .c (rex_Word.ok O hO k a0.f_Kind v17 hv17))], kn := [(32, .f hc18)] } [1, 3, 4, 27] [1] hN (by kernel_rfl) (by kernel_rfl) ?_
     refine tnU ?_
     exact ⟨(!v2), h, by kernel_rfl⟩
   ·rintro _ ⟨v5, h, rfl⟩
    unfold prog_Right.j16 at h
    refine tS (b := v5) (by kernel_rfl) (fun hc6 => ?_) (fun hc6 => ?_)
    ·replace h := ite_t hc6 h
     refine WpC.seq ?_
     refine rS {} [2] [] hN (by kernel_rfl) (by kernel_rfl) ?_
     refine tnU ?_
     refine WpC.ret ?_
     refine blockQ_ret ?_
     refine thenQ_ret ?_
     have hq := Option.some.inj h
     subst hq
     exact eR (by kernel_rfl) (by kernel_rfl)
    ·replace h := ite_f hc6 h
     refine sqJ (fun st' => ∃ v7 : Bool, prog_Right.j14 k rf_rex_Node_m0 a0 v7 = some out ∧ st' = ⟨[(1, .loc 1 0), (36, .p .bool v7)], [(1, .box [.p I6 a0.f_Kind, .p I6 a0.f_Index, .p U6 a0.f_Set, .p (.list (.named 3)) a0.f_Kids])]⟩) ?_ ?_
     ·rcases bool_cases (decide ((a0.f_Kids.length : Int) < v1.1)) with hc15 | hc15
      ·replace h := ite_t hc15 h
       refine rS { kn := [(42, .t hc15)] } [1, 36] [1] hN (by kernel_rfl) (by kernel_rfl) ?_
       refine tnU ?_
       exact ⟨true, h, by kernel_rfl⟩
      ·replace h := ite_f hc15 h
       refine rS { kn := [(42, .f hc15)] } [1, 36] [1] hN (by kernel_rfl) (by kernel_rfl) ?_
       refine tnU ?_
       exact ⟨(decide ((a0.f_Kids.length : Int) > v1.2)), h, by kernel_rfl⟩
     ·rintro _ ⟨v7, h, rfl⟩
      unfold prog_Right.j14 at h
      refine tS (b := v7) (by kernel_rfl) (fun hc8 => ?_) (fun hc8 => ?_)
      ·replace h := ite_t hc8 h
       refine WpC.seq ?_
       refine rS {} [2] [] hN (by kernel_rfl) (by kernel_rfl) ?_
       refine tnU ?_
       refine WpC.ret ?_
       refine blockQ_ret ?_
       refine thenQ_ret ?_
       have hq := Option.some.inj h
       subst hq
       exact eR (by kernel_rfl) (by kernel_rfl)
      ·replace h := ite_f hc8 h
       refine sqJ (fun st' => ∃ v9 : Bool, prog_Right.j11 k rf_rex_Node_m0 a0 v9 = some out ∧ st' = ⟨[(1, .loc 1 0), (49, .p .bool v9)], [(1, .box [.p I6 a0.f_Kind, .p I6 a0.f_Index, .p U6 a0.f_Set, .p (.list (.named 3)) a0.f_Kids])]⟩) ?_ ?_
       ·rcases bool_cases (a0.f_Kind != 1) with hc12 | hc12
        ·replace h := ite_t hc12 h
         obtain ⟨v13, hv13, h⟩ := bind_some h
         refine rS { its := [(6, .c (class_Set_Empty.ok O hO k a0.f_Set v13 hv13))], kn := [(53, .t hc12)] } [1, 49] [1] hN (by kernel_rfl) (by kernel_rfl) ?_
         refine tnU ?_
         exact ⟨(!v13), h, by kernel_rfl⟩
        ·replace h := ite_f hc12 h
         refine rS { kn := [(53, .f hc12)] } [1, 49] [1] hN (by kernel_rfl) (by kernel_rfl) ?_
         refine tnU ?_
         exact ⟨false, h, by kernel_rfl⟩
       ·rintro _ ⟨v9, h, rfl⟩
        unfold prog_Right.j11 at h
        refine tS (b := v9) (by kernel_rfl) (fun hc10 => ?_) (fun hc10 => ?_)
        ·replace h := ite_t hc10 h
         refine WpC.seq ?_
         refine rS {} [2] [] hN (by kernel_rfl) (by kernel_rfl) ?_
         refine tnU ?_
         refine WpC.ret ?_
         refine blockQ_ret ?_
         refine thenQ_ret ?_
         have hq := Option.some.inj h
         subst hq
         exact eR (by kernel_rfl) (by kernel_rfl)
        ·replace h := ite_f hc10 h
         refine WpC.conv (cS [.k [1] [1]] (by kernel_rfl) (by kernel_rfl)) (WpC.skip ?_)
         refine blockQ_normal ?_
         refine tnU ?_
         exact ⟨h, by kernel_rfl⟩
  ·rintro _ ⟨h, rfl⟩
   unfold prog_Right.j4 at h
   refine WpC.seq ?_
   refine rS {} [1, 6] [1] hN (by kernel_rfl) (by kernel_rfl) ?_
   refine tnU ?_
   refine WpC.seq ?_
   obtain ⟨v3, hv3, h⟩ := bind_some h
   refine rS { its := [(3, .c (hrf_rex_Node_m0 a0.f_Kids v3 hv3))] } [2] [] hN (by kernel_rfl) (by kernel_rfl) ?_
   refine tnU ?_
   refine WpC.ret ?_
   have hq := Option.some.inj h
   subst hq
   exact eR (by kernel_rfl) (by kernel_rfl)

theorem scc_prog_Right.ok (O : Out) (hO : GOkE O) : ∀ k : Nat, (∀ (a0 : T_rex_Node) (out : Bool), prog_Right_1.f k a0 = some out → COk Un O Tryd.prog 33 { ar := [.p (.named 3) a0], r := .p .bool out }) ∧ (∀ (a0 : List T_rex_Node) (out : Int), rex_Node_49_m0.f k a0 = some out → COk Un O Tryd.prog 49 { ar := [.p (.list (.named 3)) a0, .clo 33 []], r := .p (.int .i64) out }) ∧ (∀ (a0 : List T_rex_Node) (out : Bool), rex_Node_m0.f k a0 = some out → COk Un O Tryd.prog 34 { ar := [.p (.list (.named 3)) a0, .clo 33 []], r := .p .bool out }) ∧ (∀ (a0 : T_rex_Node) (out : Bool), prog_Right.f k a0 = some out → COk Un O Tryd.prog 9 { ar := [.p (.named 3) a0], r := .p .bool out }) := by
 intro k
 induction k with
 | zero => exact ⟨fun a0 out h => (by have h2 : (none : Option Bool) = some out := h; cases h2), fun a0 out h => (by have h2 : (none : Option Int) = some out := h; cases h2), fun a0 out h => (by have h2 : (none : Option Bool) = some out := h; cases h2), fun a0 out h => (by have h2 : (none : Option Bool) = some out := h; cases h2)⟩
 | succ k ih => exact ⟨fun a0 out h => prog_Right_1.bok O hO k _ ih.2.2.2 a0 out h, fun a0 out h => rex_Node_49_m0.bok O hO k _ ih.1 a0 out h, fun a0 out h => rex_Node_m0.bok O hO k _ ih.2.1 a0 out h, fun a0 out h => prog_Right.bok O hO k _ ih.2.2.1 a0 out h⟩
theorem prog_Right.ok (O : Out) (hO : GOkE O) (k : Nat) (a0 : T_rex_Node) (out : Bool) (h : prog_Right.f k a0 = some out) : COk Un O Tryd.prog 9 { ar := [.p (.named 3) a0], r := .p .bool out } := (scc_prog_Right.ok O hO k).2.2.2 a0 out h

theorem denote_of.ok (O : Out) (hO : GOkE O) (k : Nat) (a0 : List UInt8) (a1 : Int) (out : List Bool) (h : denote_of.f k a0 a1 = some out) : COk Un O Tryd.prog 36 { ar := [.p .str a0, .p I6 a1], r := .vec 60500 1 0 out.length, bs' := [(60500, .row 4 .bool out false)], nn := [60500] } := by
 refine cok_of_wp Tryd.func36 rfl (k := 22) rfl (Nat.le_of_ble_eq_true rfl) (namesOk_of (by kernel_rfl)) ?_
 intro B hN
 refine WpC.conv (cvK (b := ⟨[(0, .p .str a0), (1, .p I6 a1)], []⟩) [0, 1] [] (by kernel_rfl)) ?_
 unfold denote_of.f at h
 refine WpC.seq ?_
 refine rS {} [0, 1] [] hN (by kernel_rfl) (by kernel_rfl) ?_
 refine tnU ?_
 refine WpC.seq ?_
 obtain ⟨g1, h⟩ := if_some h
 refine rSC { its := [(3, .g g1)] } [1, 5] [9] hN (by kernel_rfl) (by kernel_rfl) (cS [.k [1, 5] [9], .x (Conv.cast (U := Un) (st := ⟨[(1, .p I6 a1), (5, .vec 9 1 0 ((IntKind.i64.wrap ((a0.length : Int) + 1)).toNat))], [(9, .row 4 .bool (List.replicate (IntKind.i64.wrap ((a0.length : Int) + 1)).toNat false) true)]⟩) (st' := ⟨[(1, .p I6 a1), (5, .vec 9 1 0 ((List.replicate (IntKind.i64.wrap ((a0.length : Int) + 1)).toNat false).length))], [(9, .row 4 .bool (List.replicate (IntKind.i64.wrap ((a0.length : Int) + 1)).toNat false) true)]⟩) (by simp only [upd_length, List.length_nil, List.length_replicate]))] (by kernel_rfl) (by kernel_rfl)) ?_
 refine tnU ?_
 refine sqJ (fun st' => ∃ v2 : List Bool, denote_of.j3 k v2 = some out ∧ st' = ⟨[(5, .vec 1005 1 0 v2.length)], [(1005, .row 4 .bool v2 false)]⟩) ?_ ?_
 ·refine sqJ (fun st' => ∃ v4 : Bool, denote_of.j8 k a0 a1 v4 = some out ∧ st' = ⟨[(1, .p I6 a1), (5, .vec 9 1 0 ((List.replicate (IntKind.i64.wrap ((a0.length : Int) + 1)).toNat false).length)), (17, .p .bool v4)], [(9, .row 4 .bool (List.replicate (IntKind.i64.wrap ((a0.length : Int) + 1)).toNat false) true)]⟩) ?_ ?_
  ·rcases bool_cases (decide (a1 ≥ 0)) with hc9 | hc9
   ·replace h := ite_t hc9 h
    refine rS { kn := [(12, .t hc9)] } [1, 5, 17] [9] hN (by kernel_rfl) (by kernel_rfl) ?_
    refine tnU ?_
    exact ⟨(decide (a1 < ((List.replicate (IntKind.i64.wrap ((a0.length : Int) + 1)).toNat false).length : Int))), h, by kernel_rfl⟩
   ·replace h := ite_f hc9 h
    refine rS { kn := [(12, .f hc9)] } [1, 5, 17] [9] hN (by kernel_rfl) (by kernel_rfl) ?_
    refine tnU ?_
    exact ⟨false, h, by kernel_rfl⟩
  ·rintro _ ⟨v4, h, rfl⟩
   unfold denote_of.j8 at h
   refine tS (b := v4) (by kernel_rfl) (fun hc5 => ?_) (fun hc5 => ?_)
   ·replace h := ite_t hc5 h
    obtain ⟨g6, h⟩ := if_some h
    obtain ⟨v7, hv7, h⟩ := bind_some h
    refine rSC { its := [(2, .g g6), (3, .v .bool hv7)] } [5] [9] hN (by kernel_rfl) (by kernel_rfl) (cS [.k [5] [9], .x (Conv.cast (U := Un) (st := ⟨[(5, .vec 9 1 0 ((List.replicate (IntKind.i64.wrap ((a0.length : Int) + 1)).toNat false).length))], [(9, .row 4 .bool (upd (List.replicate (IntKind.i64.wrap ((a0.length : Int) + 1)).toNat false) (0 + a1.toNat) true) true)]⟩) (st' := ⟨[(5, .vec 9 1 0 ((upd (List.replicate (IntKind.i64.wrap ((a0.length : Int) + 1)).toNat false) (0 + a1.toNat) true).length))], [(9, .row 4 .bool (upd (List.replicate (IntKind.i64.wrap ((a0.length : Int) + 1)).toNat false) (0 + a1.toNat) true) true)]⟩) (by simp only [upd_length, List.length_nil, List.length_replicate])), .lo 9, .k [5] [9], .rn 9 1005, .k [5] [1005]] (by kernel_rfl) (by kernel_rfl)) ?_
    refine tnU ?_
    exact ⟨(upd (List.replicate (IntKind.i64.wrap ((a0.length : Int) + 1)).toNat false) (0 + a1.toNat) true), h, by kernel_rfl⟩
   ·replace h := ite_f hc5 h
    refine WpC.conv (cS [.k [5] [9], .lo 9, .k [5] [9], .rn 9 1005, .k [5] [1005]] (by kernel_rfl) (by kernel_rfl)) (WpC.skip ?_)
    refine tnU ?_
    exact ⟨(List.replicate (IntKind.i64.wrap ((a0.length : Int) + 1)).toNat false), h, by kernel_rfl⟩
 ·rintro _ ⟨v2, h, rfl⟩
  unfold denote_of.j3 at h
  refine WpC.seq ?_
  refine rS {} [4] [1005] hN (by kernel_rfl) (by kernel_rfl) ?_
  refine tnU ?_
  refine WpC.conv (cS [.rn 1005 60500, .k [4] [60500]] (by kernel_rfl) (by kernel_rfl)) (WpC.ret ?_)
  have hq := Option.some.inj h
  subst hq
  exact eR (by kernel_rfl) (by kernel_rfl)

theorem class_Set_Has.ok (O : Out) (hO : GOkE O) (k : Nat) (a0 : List Int) (a1 : Int) (out : Bool) (h : class_Set_Has.f k a0 a1 = some out) : COk Un O Tryd.prog 24 { ar := [.p U6 a0, .p (.int .u8) a1], r := .p .bool out } := by
 refine cok_of_wp Tryd.func24 rfl (k := 14) rfl (Nat.le_of_ble_eq_true rfl) (namesOk_pure rfl rfl rfl rfl) ?_
 intro B hN
 refine WpC.conv (cvK (b := ⟨[(0, .p U6 a0), (1, .p (.int .u8) a1)], []⟩) [0, 1] [] (by kernel_rfl)) ?_
 unfold class_Set_Has.f at h
 refine WpC.seq ?_
 refine rS {} [1, 2] [2] hN (by kernel_rfl) (by kernel_rfl) ?_
 refine tnU ?_
 refine WpC.seq ?_
 obtain ⟨g1, h⟩ := if_some h
 obtain ⟨g2, h⟩ := if_some h
 obtain ⟨v3, hv3, h⟩ := bind_some h
 obtain ⟨g4, h⟩ := if_some h
 obtain ⟨g5, h⟩ := if_some h
 refine rS { its := [(1, .g g1), (2, .g g2), (3, .v (.int .u64) hv3), (5, .g g4), (6, .g g5)] } [4] [] hN (by kernel_rfl) (by kernel_rfl) ?_
 refine tnU ?_
 refine WpC.ret ?_
 have hq := Option.some.inj h
 subst hq
 exact eR (by kernel_rfl) (by kernel_rfl)

theorem denote_ones.ok (O : Out) (hO : GOkE O) (k : Nat) (a0 : List UInt8) (a1 : List Bool) (a2 : List Int) (out : List Bool) (h : denote_ones.f k a0 a1 a2 = some out) : COk Un O Tryd.prog 50 { ar := [.p .str a0, .p (.list .bool) a1, .p U6 a2], r := .vec 60500 1 0 out.length, bs' := [(60500, .row 4 .bool out false)], nn := [60500] } := by
 refine cok_of_wp Tryd.func50 rfl (k := 34) rfl (Nat.le_of_ble_eq_true rfl) (namesOk_of (by kernel_rfl)) ?_
 intro B hN
 refine WpC.conv (cvK (b := ⟨[(0, .p .str a0), (1, .p (.list .bool) a1), (2, .p U6 a2)], []⟩) [0, 1, 2] [] (by kernel_rfl)) ?_
 unfold denote_ones.f at h
 refine WpC.seq ?_
 refine rS {} [0, 1, 5] [5] hN (by kernel_rfl) (by kernel_rfl) ?_
 refine tnU ?_
 refine WpC.seq ?_
 obtain ⟨g1, h⟩ := if_some h
 refine rSC { its := [(2, .g g1)] } [0, 1, 5, 7] [5, 11] hN (by kernel_rfl) (by kernel_rfl) (cS [.k [0, 1, 5, 7] [5, 11], .x (Conv.cast (U := Un) (st := ⟨[(0, .p .str a0), (1, .p (.list .bool) a1), (5, .loc 5 0), (7, .vec 11 1 0 ((a1.length : Int).toNat))], [(5, .box [.p U6 a2]), (11, .row 4 .bool (List.replicate (a1.length : Int).toNat false) true)]⟩) (st' := ⟨[(0, .p .str a0), (1, .p (.list .bool) a1), (5, .loc 5 0), (7, .vec 11 1 0 ((List.replicate (a1.length : Int).toNat false).length))], [(5, .box [.p U6 a2]), (11, .row 4 .bool (List.replicate (a1.length : Int).toNat false) true)]⟩) (by simp only [upd_length, List.length_nil, List.length_replicate]))] (by kernel_rfl) (by kernel_rfl)) ?_
 refine tnU ?_
 refine sqJ (fun st' => ∃ v2 : List Bool, denote_ones.j3 k v2 = some out ∧ st' = ⟨[(7, .vec 1007 1 0 v2.length)], [(1007, .row 4 .bool v2 false)]⟩) ?_ ?_
 ·refine WpC.seq ?_
  refine rS {} [0, 1, 5, 7, 13, 14] [5, 11] hN (by kernel_rfl) (by kernel_rfl) ?_
  refine tnU ?_
  refine WpC.block ?_
  obtain ⟨o8, hlo8, h⟩ := bind_some h
  have hout9 := h
  clear h
  refine WpC.conv (cS [.lo 11, .k [0, 1, 5, 7, 13, 14] [5, 11], .rn 11 1007, .k [0, 1, 5, 7, 13, 14] [5, 1007]] (by kernel_rfl) (by kernel_rfl)) ?_
  refine WpC.loop (U := Un) (fun n st' => ∃ v4 : List Bool, ∃ v5 : Int, denote_ones.l6 k a0 a1 a2 n v4 v5 = some o8 ∧ st' = ⟨[(0, .p .str a0), (1, .p (.list .bool) a1), (5, .loc 5 0), (7, .vec 1007 1 0 v4.length), (13, .p I6 ((a0.length : Int) : Int)), (14, .p I6 v5)], [(5, .box [.p U6 a2]), (1007, .row 4 .bool v4 false)]⟩) k ⟨(List.replicate (a1.length : Int).toNat false), 0, hlo8, by kernel_rfl⟩ ?_
  clear hlo8
  rintro (_ | n) _ ⟨v4, v5, h, rfl⟩
  ·cases h
  ·rw [denote_ones.l6] at h
   refine WpC.seq ?_
   refine rS {} [0, 1, 5, 7, 13, 14, 15] [5, 1007] hN (by kernel_rfl) (by kernel_rfl) ?_
   refine tnU ?_
   refine WpC.seq ?_
   refine tS (b := (decide (v5 < (a0.length : Int)))) (by kernel_rfl) (fun hc10 => ?_) (fun hc10 => ?_)
   ·replace h := ite_t hc10 h
    refine WpC.conv (cS [.k [0, 1, 5, 7, 13, 14] [5, 1007]] (by kernel_rfl) (by kernel_rfl)) (WpC.skip ?_)
    refine tnU ?_
    refine sqJ (fun st' => ∃ v11 : List Bool, denote_ones.j12 k (denote_ones.l6 k a0 a1 a2 n) a0 a1 a2 v5 v11 = some o8 ∧ st' = ⟨[(0, .p .str a0), (1, .p (.list .bool) a1), (5, .loc 5 0), (7, .vec 1007 1 0 v11.length), (13, .p I6 ((a0.length : Int) : Int)), (14, .p I6 v5)], [(5, .box [.p U6 a2]), (1007, .row 4 .bool v11 false)]⟩) ?_ ?_
    ·refine WpC.block ?_
     refine WpC.seq ?_
     refine rS {} [0, 1, 5, 7, 8, 13, 14] [5, 1007] hN (by kernel_rfl) (by kernel_rfl) ?_
     refine tnU ?_
     obtain ⟨v13, hv13, h⟩ := bind_some h
     rcases bool_cases v13 with hc14 | hc14
     ·replace h := ite_t hc14 h
      obtain ⟨v15, hv15, h⟩ := bind_some h
      obtain ⟨v16, hv16, h⟩ := bind_some h
      obtain ⟨g17, h⟩ := if_some h
      obtain ⟨v18, hv18, h⟩ := bind_some h
      refine rAC { its := [(5, .v .bool hv13), (11, .u hv15), (12, .c (class_Set_Has.ok O hO k a2 (v15.toNat : Int) v16 hv16)), (14, .g g17), (15, .v .bool hv18)], kn := [(24, .t hc14)] } [0, 1, 5, 7, 13, 14] [5, 1007] hN (by kernel_rfl) (by kernel_rfl) (by kernel_rfl) (cS [.k [0, 1, 5, 7, 13, 14] [5, 1007], .x (Conv.cast (U := Un) (st := ⟨[(0, .p .str a0), (1, .p (.list .bool) a1), (5, .loc 5 0), (7, .vec 1007 1 0 v4.length), (13, .p I6 ((a0.length : Int) : Int)), (14, .p I6 v5)], [(5, .box [.p U6 a2]), (1007, .row 4 .bool (upd v4 (0 + (IntKind.i64.wrap (v5 + 1)).toNat) v16) false)]⟩) (st' := ⟨[(0, .p .str a0), (1, .p (.list .bool) a1), (5, .loc 5 0), (7, .vec 1007 1 0 ((upd v4 (0 + (IntKind.i64.wrap (v5 + 1)).toNat) v16).length)), (13, .p I6 ((a0.length : Int) : Int)), (14, .p I6 v5)], [(5, .box [.p U6 a2]), (1007, .row 4 .bool (upd v4 (0 + (IntKind.i64.wrap (v5 + 1)).toNat) v16) false)]⟩) (by simp only [upd_length, List.length_nil, List.length_replicate]))] (by kernel_rfl) (by kernel_rfl)) ?_
      refine blockQ_normal ?_
      refine tnU ?_
      exact ⟨(upd v4 (0 + (IntKind.i64.wrap (v5 + 1)).toNat) v16), h, by kernel_rfl⟩
     ·replace h := ite_f hc14 h
      obtain ⟨g19, h⟩ := if_some h
      obtain ⟨v20, hv20, h⟩ := bind_some h
      refine rAC { its := [(5, .v .bool hv13), (14, .g g19), (15, .v .bool hv20)], kn := [(24, .f hc14)] } [0, 1, 5, 7, 13, 14] [5, 1007] hN (by kernel_rfl) (by kernel_rfl) (by kernel_rfl) (cS [.k [0, 1, 5, 7, 13, 14] [5, 1007], .x (Conv.cast (U := Un) (st := ⟨[(0, .p .str a0), (1, .p (.list .bool) a1), (5, .loc 5 0), (7, .vec 1007 1 0 v4.length), (13, .p I6 ((a0.length : Int) : Int)), (14, .p I6 v5)], [(5, .box [.p U6 a2]), (1007, .row 4 .bool (upd v4 (0 + (IntKind.i64.wrap (v5 + 1)).toNat) false) false)]⟩) (st' := ⟨[(0, .p .str a0), (1, .p (.list .bool) a1), (5, .loc 5 0), (7, .vec 1007 1 0 ((upd v4 (0 + (IntKind.i64.wrap (v5 + 1)).toNat) false).length)), (13, .p I6 ((a0.length : Int) : Int)), (14, .p I6 v5)], [(5, .box [.p U6 a2]), (1007, .row 4 .bool (upd v4 (0 + (IntKind.i64.wrap (v5 + 1)).toNat) false) false)]⟩) (by simp only [upd_length, List.length_nil, List.length_replicate]))] (by kernel_rfl) (by kernel_rfl)) ?_
      refine blockQ_normal ?_
      refine tnU ?_
      exact ⟨(upd v4 (0 + (IntKind.i64.wrap (v5 + 1)).toNat) false), h, by kernel_rfl⟩
    ·rintro _ ⟨v11, h, rfl⟩
     unfold denote_ones.j12 at h
     refine rS {} [0, 1, 5, 7, 13, 14] [5, 1007] hN (by kernel_rfl) (by kernel_rfl) ?_
     refine tnU ?_
     exact ⟨n, Nat.lt_succ_self n, v11, (IntKind.i64.wrap (v5 + 1)), h, by kernel_rfl⟩
   ·replace h := ite_f hc10 h
    refine WpC.conv (cS [.k [7] [1007]] (by kernel_rfl) (by kernel_rfl)) (WpC.exit ?_)
    refine thenQ_exit ?_
    have hq := Option.some.inj h
    subst hq
    refine thenQ_exit ?_
    have h := hout9
    refine blockQ_hit ?_
    refine tnU ?_
    exact ⟨v4, h, by kernel_rfl⟩
 ·rintro _ ⟨v2, h, rfl⟩
  unfold denote_ones.j3 at h
  refine WpC.seq ?_
  refine rS {} [6] [1007] hN (by kernel_rfl) (by kernel_rfl) ?_
  refine tnU ?_
  refine WpC.conv (cS [.rn 1007 60500, .k [6] [60500]] (by kernel_rfl) (by kernel_rfl)) (WpC.ret ?_)
  have hq := Option.some.inj h
  subst hq
  exact eR (by kernel_rfl) (by kernel_rfl)

theorem denote_set_with_m2.ok (O : Out) (hO : GOkE O) (k : Nat) (a0 : List Bool) (a1 : List Bool) (out : Bool × (List Bool)) (h : denote_set_with_m2.f k a0 a1 = some out) : COk Un O Tryd.prog 51 { ar := [.vec 100000 1 0 a0.length, .p (.list .bool) a1], r := .p .bool out.1, bs := [(100000, .row 4 .bool a0 false)], bs' := [(100000, .row 4 .bool out.2 false)] } := by
 refine cok_of_wp Tryd.func51 rfl (k := 38) rfl (Nat.le_of_ble_eq_true rfl) (namesOk_of (by kernel_rfl)) ?_
 intro B hN
 refine WpC.conv (cvK (b := ⟨[(0, .vec 100000 1 0 a0.length), (1, .p (.list .bool) a1)], [(100000, .row 4 .bool a0 false)]⟩) [0, 1] [100000] (by kernel_rfl)) ?_
 unfold denote_set_with_m2.f at h
 refine WpC.seq ?_
 refine rS {} [0, 1] [100000] hN (by kernel_rfl) (by kernel_rfl) ?_
 refine tnU ?_
 refine WpC.seq ?_
 refine rS {} [0, 1, 5] [100000] hN (by kernel_rfl) (by kernel_rfl) ?_
 refine tnU ?_
 refine sqJ (fun st' => ∃ v1 : Bool, ∃ v2 : List Bool, denote_set_with_m2.j3 k a0 v1 v2 = some out ∧ st' = ⟨[(5, .p .bool v1)], [(100000, .row 4 .bool v2 false)]⟩) ?_ ?_
 ·refine WpC.seq ?_
  refine rS {} [0, 5, 8, 9, 10] [100000] hN (by kernel_rfl) (by kernel_rfl) ?_
  refine tnU ?_
  refine WpC.block ?_
  obtain ⟨o10, hlo10, h⟩ := bind_some h
  have hout11 := h
  clear h
  refine WpC.loop (U := Un) (fun n st' => ∃ v4 : List Bool, ∃ v5 : Bool, ∃ v6 : Int, denote_set_with_m2.l7 k a0 a1 n v4 v5 v6 = some o10 ∧ st' = ⟨[(0, .vec 100000 1 0 a0.length), (5, .p .bool v5), (8, .p (.list .bool) a1), (9, .p I6 ((a1.length : Int) : Int)), (10, .p I6 v6)], [(100000, .row 4 .bool v4 false)]⟩) k ⟨a0, false, 0, hlo10, by kernel_rfl⟩ ?_
  clear hlo10
  rintro (_ | n) _ ⟨v4, v5, v6, h, rfl⟩
  ·cases h
  ·rw [denote_set_with_m2.l7] at h
   obtain ⟨gl_v4, h⟩ := if_some h
   refine WpC.seq ?_
   refine rS {} [0, 5, 8, 9, 10, 11] [100000] hN (by kernel_rfl) (by kernel_rfl) ?_
   refine tnU ?_
   refine WpC.seq ?_
   refine tS (b := (decide (v6 < (a1.length : Int)))) (by kernel_rfl) (fun hc12 => ?_) (fun hc12 => ?_)
   ·replace h := ite_t hc12 h
    refine WpC.conv (cS [.k [0, 5, 8, 9, 10] [100000]] (by kernel_rfl) (by kernel_rfl)) (WpC.skip ?_)
    refine tnU ?_
    refine sqJ (fun st' => ∃ v13 : List Bool, ∃ v14 : Bool, denote_set_with_m2.j15 k (denote_set_with_m2.l7 k a0 a1 n) a0 a1 v6 v13 v14 = some o10 ∧ st' = ⟨[(0, .vec 100000 1 0 a0.length), (5, .p .bool v14), (8, .p (.list .bool) a1), (9, .p I6 ((a1.length : Int) : Int)), (10, .p I6 v6)], [(100000, .row 4 .bool v13 false)]⟩) ?_ ?_
    ·refine WpC.block ?_
     refine WpC.seq ?_
     obtain ⟨v16, hv16, h⟩ := bind_some h
     refine rS { its := [(1, .v .bool hv16)] } [0, 5, 6, 7, 8, 9, 10] [100000] hN (by kernel_rfl) (by kernel_rfl) ?_
     refine tnU ?_
     refine sqJ (fun st' => ∃ v17 : Bool, denote_set_with_m2.j25 k (denote_set_with_m2.l7 k a0 a1 n) a0 a1 v4 v6 v16 v17 = some o10 ∧ st' = ⟨[(0, .vec 100000 1 0 a0.length), (5, .p .bool v17), (6, .p I6 v6), (7, .p .bool v16), (8, .p (.list .bool) a1), (9, .p I6 ((a1.length : Int) : Int)), (10, .p I6 v6)], [(100000, .row 4 .bool v4 false)]⟩) ?_ ?_
     ·rcases bool_cases v5 with hc26 | hc26
      ·replace h := ite_t hc26 h
       refine rS { kn := [(16, .t hc26)] } [0, 5, 6, 7, 8, 9, 10] [100000] hN (by kernel_rfl) (by kernel_rfl) ?_
       refine tnU ?_
       exact ⟨true, h, by kernel_rfl⟩
      ·replace h := ite_f hc26 h
       rcases bool_cases v16 with hc27 | hc27
       ·replace h := ite_t hc27 h
        obtain ⟨g28, h⟩ := if_some h
        obtain ⟨v29, hv29, h⟩ := bind_some h
        refine rS { its := [(6, .g g28), (7, .v .bool hv29)], kn := [(16, .f hc26), (18, .t hc27)] } [0, 5, 6, 7, 8, 9, 10] [100000] hN (by kernel_rfl) (by kernel_rfl) ?_
        refine tnU ?_
        exact ⟨(!v29), h, by kernel_rfl⟩
       ·replace h := ite_f hc27 h
        refine rS { kn := [(16, .f hc26), (18, .f hc27)] } [0, 5, 6, 7, 8, 9, 10] [100000] hN (by kernel_rfl) (by kernel_rfl) ?_
        refine tnU ?_
        exact ⟨false, h, by kernel_rfl⟩
     ·rintro _ ⟨v17, h, rfl⟩
      unfold denote_set_with_m2.j25 at h
      obtain ⟨g18, h⟩ := if_some h
      obtain ⟨v19, hv19, h⟩ := bind_some h
      rcases bool_cases v19 with hc20 | hc20
      ·replace h := ite_t hc20 h
       obtain ⟨g21, h⟩ := if_some h
       obtain ⟨v22, hv22, h⟩ := bind_some h
       refine rS { its := [(4, .g g18), (5, .v .bool hv19), (9, .g g21), (10, .v .bool hv22)], kn := [(32, .t hc20)] } [0, 5, 8, 9, 10] [100000] hN (by kernel_rfl) (by kernel_rfl) ?_
       refine blockQ_normal ?_
       refine tnU ?_
       exact ⟨(upd v4 (0 + v6.toNat) true), v17, h, by kernel_rfl⟩
      ·replace h := ite_f hc20 h
       obtain ⟨g23, h⟩ := if_some h
       obtain ⟨v24, hv24, h⟩ := bind_some h
       refine rS { its := [(4, .g g18), (5, .v .bool hv19), (9, .g g23), (10, .v .bool hv24)], kn := [(32, .f hc20)] } [0, 5, 8, 9, 10] [100000] hN (by kernel_rfl) (by kernel_rfl) ?_
       refine blockQ_normal ?_
       refine tnU ?_
       exact ⟨(upd v4 (0 + v6.toNat) v16), v17, h, by kernel_rfl⟩
    ·rintro _ ⟨v13, v14, h, rfl⟩
     unfold denote_set_with_m2.j15 at h
     obtain ⟨gl_v13, h⟩ := if_some h
     refine rS {} [0, 5, 8, 9, 10] [100000] hN (by kernel_rfl) (by kernel_rfl) ?_
     refine tnU ?_
     exact ⟨n, Nat.lt_succ_self n, v13, v14, (IntKind.i64.wrap (v6 + 1)), h, by kernel_rfl⟩
   ·replace h := ite_f hc12 h
    refine WpC.conv (cS [.k [5] [100000]] (by kernel_rfl) (by kernel_rfl)) (WpC.exit ?_)
    refine thenQ_exit ?_
    have hq := Option.some.inj h
    subst hq
    refine thenQ_exit ?_
    have h := hout11
    obtain ⟨_, h⟩ := if_some h
    have gl_v9 : v4.length = a0.length := (by first | rfl | (simp only [upd_length, List.length_replicate, List.length_append]; done) | (simp only [upd_length, List.length_replicate, List.length_append] at *; omega) | omega)
    refine blockQ_hit ?_
    refine tnU ?_
    exact ⟨v5, v4, h, by kernel_rfl⟩
 ·rintro _ ⟨v1, v2, h, rfl⟩
  unfold denote_set_with_m2.j3 at h
  obtain ⟨gl_v2, h⟩ := if_some h
  refine WpC.seq ?_
  refine rS {} [4] [100000] hN (by kernel_rfl) (by kernel_rfl) ?_
  refine tnU ?_
  refine WpC.ret ?_
  have hq := Option.some.inj h
  subst hq
  exact eR (by kernel_rfl) (by kernel_rfl)

theorem denote_set_with_m1.ok (O : Out) (hO : GOkE O) (k : Nat) (a0 : List Bool) (out : Bool × (List Bool) × (List Bool)) (h : denote_set_with_m1.f k a0 = some out) : COk Un O Tryd.prog 51 { ar := [.vec 100000 1 0 a0.length, .vec 100000 1 0 a0.length], r := .p .bool out.1, bs := [(100000, .row 4 .bool a0 false)], bs' := [(100000, .row 4 .bool out.2.2 false)] } := by
 refine cok_of_wp Tryd.func51 rfl (k := 38) rfl (Nat.le_of_ble_eq_true rfl) (namesOk_of (by kernel_rfl)) ?_
 intro B hN
 refine WpC.conv (cvK (b := ⟨[(0, .vec 100000 1 0 a0.length), (1, .vec 100000 1 0 a0.length)], [(100000, .row 4 .bool a0 false)]⟩) [0, 1] [100000] (by kernel_rfl)) ?_
 unfold denote_set_with_m1.f at h
 refine WpC.seq ?_
 refine rS {} [0, 1] [100000] hN (by kernel_rfl) (by kernel_rfl) ?_
 refine tnU ?_
 refine WpC.seq ?_
 refine rS {} [0, 1, 5] [100000] hN (by kernel_rfl) (by kernel_rfl) ?_
 refine tnU ?_
 refine sqJ (fun st' => ∃ v1 : Bool, ∃ v2 : List Bool, denote_set_with_m1.j3 k a0 v1 v2 = some out ∧ st' = ⟨[(5, .p .bool v1)], [(100000, .row 4 .bool v2 false)]⟩) ?_ ?_
 ·refine WpC.seq ?_
  refine rS {} [0, 5, 8, 9, 10] [100000] hN (by kernel_rfl) (by kernel_rfl) ?_
  refine tnU ?_
  refine WpC.block ?_
  obtain ⟨o10, hlo10, h⟩ := bind_some h
  have hout11 := h
  clear h
  refine WpC.loop (U := Un) (fun n st' => ∃ v4 : List Bool, ∃ v5 : Bool, ∃ v6 : Int, denote_set_with_m1.l7 k a0 n v4 v5 v6 = some o10 ∧ st' = ⟨[(0, .vec 100000 1 0 a0.length), (5, .p .bool v5), (8, .vec 100000 1 0 a0.length), (9, .p I6 ((a0.length : Int) : Int)), (10, .p I6 v6)], [(100000, .row 4 .bool v4 false)]⟩) k ⟨a0, false, 0, hlo10, by kernel_rfl⟩ ?_
  clear hlo10
  rintro (_ | n) _ ⟨v4, v5, v6, h, rfl⟩
  ·cases h
  ·rw [denote_set_with_m1.l7] at h
   obtain ⟨gl_v4, h⟩ := if_some h
   refine WpC.seq ?_
   refine rS {} [0, 5, 8, 9, 10, 11] [100000] hN (by kernel_rfl) (by kernel_rfl) ?_
   refine tnU ?_
   refine WpC.seq ?_
   refine tS (b := (decide (v6 < (a0.length : Int)))) (by kernel_rfl) (fun hc12 => ?_) (fun hc12 => ?_)
   ·replace h := ite_t hc12 h
    refine WpC.conv (cS [.k [0, 5, 8, 9, 10] [100000]] (by kernel_rfl) (by kernel_rfl)) (WpC.skip ?_)
    refine tnU ?_
    refine sqJ (fun st' => ∃ v13 : List Bool, ∃ v14 : Bool, denote_set_with_m1.j15 k (denote_set_with_m1.l7 k a0 n) a0 v6 v13 v14 = some o10 ∧ st' = ⟨[(0, .vec 100000 1 0 a0.length), (5, .p .bool v14), (8, .vec 100000 1 0 a0.length), (9, .p I6 ((a0.length : Int) : Int)), (10, .p I6 v6)], [(100000, .row 4 .bool v13 false)]⟩) ?_ ?_
    ·refine WpC.block ?_
     refine WpC.seq ?_
     obtain ⟨g16, h⟩ := if_some h
     obtain ⟨v17, hv17, h⟩ := bind_some h
     refine rS { its := [(1, .g g16), (2, .v .bool hv17)] } [0, 5, 6, 7, 8, 9, 10] [100000] hN (by kernel_rfl) (by kernel_rfl) ?_
     refine tnU ?_
     refine sqJ (fun st' => ∃ v18 : Bool, denote_set_with_m1.j26 k (denote_set_with_m1.l7 k a0 n) a0 v4 v6 v17 v18 = some o10 ∧ st' = ⟨[(0, .vec 100000 1 0 a0.length), (5, .p .bool v18), (6, .p I6 v6), (7, .p .bool v17), (8, .vec 100000 1 0 a0.length), (9, .p I6 ((a0.length : Int) : Int)), (10, .p I6 v6)], [(100000, .row 4 .bool v4 false)]⟩) ?_ ?_
     ·rcases bool_cases v5 with hc27 | hc27
      ·replace h := ite_t hc27 h
       refine rS { kn := [(16, .t hc27)] } [0, 5, 6, 7, 8, 9, 10] [100000] hN (by kernel_rfl) (by kernel_rfl) ?_
       refine tnU ?_
       exact ⟨true, h, by kernel_rfl⟩
      ·replace h := ite_f hc27 h
       rcases bool_cases v17 with hc28 | hc28
       ·replace h := ite_t hc28 h
        obtain ⟨g29, h⟩ := if_some h
        obtain ⟨v30, hv30, h⟩ := bind_some h
        refine rS { its := [(6, .g g29), (7, .v .bool hv30)], kn := [(16, .f hc27), (18, .t hc28)] } [0, 5, 6, 7, 8, 9, 10] [100000] hN (by kernel_rfl) (by kernel_rfl) ?_
        refine tnU ?_
        exact ⟨(!v30), h, by kernel_rfl⟩
       ·replace h := ite_f hc28 h
        refine rS { kn := [(16, .f hc27), (18, .f hc28)] } [0, 5, 6, 7, 8, 9, 10] [100000] hN (by kernel_rfl) (by kernel_rfl) ?_
        refine tnU ?_
        exact ⟨false, h, by kernel_rfl⟩
     ·rintro _ ⟨v18, h, rfl⟩
      unfold denote_set_with_m1.j26 at h
      obtain ⟨g19, h⟩ := if_some h
      obtain ⟨v20, hv20, h⟩ := bind_some h
      rcases bool_cases v20 with hc21 | hc21
      ·replace h := ite_t hc21 h
       obtain ⟨g22, h⟩ := if_some h
       obtain ⟨v23, hv23, h⟩ := bind_some h
       refine rS { its := [(4, .g g19), (5, .v .bool hv20), (9, .g g22), (10, .v .bool hv23)], kn := [(32, .t hc21)] } [0, 5, 8, 9, 10] [100000] hN (by kernel_rfl) (by kernel_rfl) ?_
       refine blockQ_normal ?_
       refine tnU ?_
       exact ⟨(upd v4 (0 + v6.toNat) true), v18, h, by kernel_rfl⟩
      ·replace h := ite_f hc21 h
       obtain ⟨g24, h⟩ := if_some h
       obtain ⟨v25, hv25, h⟩ := bind_some h
       refine rS { its := [(4, .g g19), (5, .v .bool hv20), (9, .g g24), (10, .v .bool hv25)], kn := [(32, .f hc21)] } [0, 5, 8, 9, 10] [100000] hN (by kernel_rfl) (by kernel_rfl) ?_
       refine blockQ_normal ?_
       refine tnU ?_
       exact ⟨(upd v4 (0 + v6.toNat) v17), v18, h, by kernel_rfl⟩
    ·rintro _ ⟨v13, v14, h, rfl⟩
     unfold denote_set_with_m1.j15 at h
     obtain ⟨gl_v13, h⟩ := if_some h
     refine rS {} [0, 5, 8, 9, 10] [100000] hN (by kernel_rfl) (by kernel_rfl) ?_
     refine tnU ?_
     exact ⟨n, Nat.lt_succ_self n, v13, v14, (IntKind.i64.wrap (v6 + 1)), h, by kernel_rfl⟩
   ·replace h := ite_f hc12 h
    refine WpC.conv (cS [.k [5] [100000]] (by kernel_rfl) (by kernel_rfl)) (WpC.exit ?_)
    refine thenQ_exit ?_
    have hq := Option.some.inj h
    subst hq
    refine thenQ_exit ?_
    have h := hout11
    obtain ⟨_, h⟩ := if_some h
    have gl_v9 : v4.length = a0.length := (by first | rfl | (simp only [upd_length, List.length_replicate, List.length_append]; done) | (simp only [upd_length, List.length_replicate, List.length_append] at *; omega) | omega)
    refine blockQ_hit ?_
    refine tnU ?_
    exact ⟨v5, v4, h, by kernel_rfl⟩
 ·rintro _ ⟨v1, v2, h, rfl⟩
  unfold denote_set_with_m1.j3 at h
  obtain ⟨gl_v2, h⟩ := if_some h
  refine WpC.seq ?_
  refine rS {} [4] [100000] hN (by kernel_rfl) (by kernel_rfl) ?_
  refine tnU ?_
  refine WpC.ret ?_
  have hq := Option.some.inj h
  subst hq
  exact eR (by kernel_rfl) (by kernel_rfl)

theorem denote_set_only.ok (O : Out) (hO : GOkE O) (k : Nat) (a0 : List Bool) (a1 : Int) (out : List Bool) (h : denote_set_only.f k a0 a1 = some out) : COk Un O Tryd.prog 54 { ar := [.p (.list .bool) a0, .p I6 a1], r := .vec 60500 1 0 out.length, bs' := [(60500, .row 4 .bool out false)], nn := [60500] } := by
 refine cok_of_wp Tryd.func54 rfl (k := 17) rfl (Nat.le_of_ble_eq_true rfl) (namesOk_of (by kernel_rfl)) ?_
 intro B hN
 refine WpC.conv (cvK (b := ⟨[(0, .p (.list .bool) a0), (1, .p I6 a1)], []⟩) [0, 1] [] (by kernel_rfl)) ?_
 unfold denote_set_only.f at h
 refine WpC.seq ?_
 refine rS {} [0, 1] [] hN (by kernel_rfl) (by kernel_rfl) ?_
 refine tnU ?_
 refine WpC.seq ?_
 obtain ⟨g1, h⟩ := if_some h
 refine rSC { its := [(2, .g g1)] } [0, 1, 5] [8] hN (by kernel_rfl) (by kernel_rfl) (cS [.k [0, 1, 5] [8], .x (Conv.cast (U := Un) (st := ⟨[(0, .p (.list .bool) a0), (1, .p I6 a1), (5, .vec 8 1 0 ((a0.length : Int).toNat))], [(8, .row 4 .bool (List.replicate (a0.length : Int).toNat false) true)]⟩) (st' := ⟨[(0, .p (.list .bool) a0), (1, .p I6 a1), (5, .vec 8 1 0 ((List.replicate (a0.length : Int).toNat false).length))], [(8, .row 4 .bool (List.replicate (a0.length : Int).toNat false) true)]⟩) (by simp only [upd_length, List.length_nil, List.length_replicate]))] (by kernel_rfl) (by kernel_rfl)) ?_
 refine tnU ?_
 refine WpC.seq ?_
 obtain ⟨v2, hv2, h⟩ := bind_some h
 obtain ⟨g3, h⟩ := if_some h
 obtain ⟨v4, hv4, h⟩ := bind_some h
 refine rSC { its := [(4, .v .bool hv2), (6, .g g3), (7, .v .bool hv4)] } [5] [8] hN (by kernel_rfl) (by kernel_rfl) (cS [.k [5] [8], .x (Conv.cast (U := Un) (st := ⟨[(5, .vec 8 1 0 ((List.replicate (a0.length : Int).toNat false).length))], [(8, .row 4 .bool (upd (List.replicate (a0.length : Int).toNat false) (0 + a1.toNat) v2) true)]⟩) (st' := ⟨[(5, .vec 8 1 0 ((upd (List.replicate (a0.length : Int).toNat false) (0 + a1.toNat) v2).length))], [(8, .row 4 .bool (upd (List.replicate (a0.length : Int).toNat false) (0 + a1.toNat) v2) true)]⟩) (by simp only [upd_length, List.length_nil, List.length_replicate]))] (by kernel_rfl) (by kernel_rfl)) ?_
 refine tnU ?_
 refine WpC.seq ?_
 refine rS {} [4] [8] hN (by kernel_rfl) (by kernel_rfl) ?_
 refine tnU ?_
 refine WpC.conv (cS [.lo 8, .k [4] [8], .rn 8 60500, .k [4] [60500]] (by kernel_rfl) (by kernel_rfl)) (WpC.ret ?_)
 have hq := Option.some.inj h
 subst hq
 exact eR (by kernel_rfl) (by kernel_rfl)

theorem denote_set_with_m4.ok (O : Out) (hO : GOkE O) (k : Nat) (a0 : List Bool) (a1 : List Bool) (out : Bool × (List Bool)) (h : denote_set_with_m4.f k a0 a1 = some out) : COk Un O Tryd.prog 51 { ar := [.vec 100000 1 0 a0.length, .vec 100001 1 0 a1.length], r := .p .bool out.1, bs := [(100000, .row 4 .bool a0 false), (100001, .row 4 .bool a1 false)], bs' := [(100000, .row 4 .bool out.2 false), (100001, .row 4 .bool a1 false)] } := by
 refine cok_of_wp Tryd.func51 rfl (k := 38) rfl (Nat.le_of_ble_eq_true rfl) (namesOk_of (by kernel_rfl)) ?_
 intro B hN
 refine WpC.conv (cvK (b := ⟨[(0, .vec 100000 1 0 a0.length), (1, .vec 100001 1 0 a1.length)], [(100000, .row 4 .bool a0 false), (100001, .row 4 .bool a1 false)]⟩) [0, 1] [100000, 100001] (by kernel_rfl)) ?_
 unfold denote_set_with_m4.f at h
 refine WpC.seq ?_
 refine rS {} [0, 1] [100000, 100001] hN (by kernel_rfl) (by kernel_rfl) ?_
 refine tnU ?_
 refine WpC.seq ?_
 refine rS {} [0, 1, 5] [100000, 100001] hN (by kernel_rfl) (by kernel_rfl) ?_
 refine tnU ?_
 refine sqJ (fun st' => ∃ v1 : Bool, ∃ v2 : List Bool, denote_set_with_m4.j3 k a0 a1 v1 v2 = some out ∧ st' = ⟨[(5, .p .bool v1)], [(100000, .row 4 .bool v2 false), (100001, .row 4 .bool a1 false)]⟩) ?_ ?_
 ·refine WpC.seq ?_
  refine rS {} [0, 5, 8, 9, 10] [100000, 100001] hN (by kernel_rfl) (by kernel_rfl) ?_
  refine tnU ?_
  refine WpC.block ?_
  obtain ⟨o10, hlo10, h⟩ := bind_some h
  have hout11 := h
  clear h
  refine WpC.loop (U := Un) (fun n st' => ∃ v4 : List Bool, ∃ v5 : Bool, ∃ v6 : Int, denote_set_with_m4.l7 k a0 a1 n v4 v5 v6 = some o10 ∧ st' = ⟨[(0, .vec 100000 1 0 a0.length), (5, .p .bool v5), (8, .vec 100001 1 0 a1.length), (9, .p I6 ((a1.length : Int) : Int)), (10, .p I6 v6)], [(100000, .row 4 .bool v4 false), (100001, .row 4 .bool a1 false)]⟩) k ⟨a0, false, 0, hlo10, by kernel_rfl⟩ ?_
  clear hlo10
  rintro (_ | n) _ ⟨v4, v5, v6, h, rfl⟩
  ·cases h
  ·rw [denote_set_with_m4.l7] at h
   obtain ⟨gl_v4, h⟩ := if_some h
   refine WpC.seq ?_
   refine rS {} [0, 5, 8, 9, 10, 11] [100000, 100001] hN (by kernel_rfl) (by kernel_rfl) ?_
   refine tnU ?_
   refine WpC.seq ?_
   refine tS (b := (decide (v6 < (a1.length : Int)))) (by kernel_rfl) (fun hc12 => ?_) (fun hc12 => ?_)
   ·replace h := ite_t hc12 h
    refine WpC.conv (cS [.k [0, 5, 8, 9, 10] [100000, 100001]] (by kernel_rfl) (by kernel_rfl)) (WpC.skip ?_)
    refine tnU ?_
    refine sqJ (fun st' => ∃ v13 : List Bool, ∃ v14 : Bool, denote_set_with_m4.j15 k (denote_set_with_m4.l7 k a0 a1 n) a0 a1 v6 v13 v14 = some o10 ∧ st' = ⟨[(0, .vec 100000 1 0 a0.length), (5, .p .bool v14), (8, .vec 100001 1 0 a1.length), (9, .p I6 ((a1.length : Int) : Int)), (10, .p I6 v6)], [(100000, .row 4 .bool v13 false), (100001, .row 4 .bool a1 false)]⟩) ?_ ?_
    ·refine WpC.block ?_
     refine WpC.seq ?_
     obtain ⟨g16, h⟩ := if_some h
     obtain ⟨v17, hv17, h⟩ := bind_some h
     refine rS { its := [(1, .g g16), (2, .v .bool hv17)] } [0, 5, 6, 7, 8, 9, 10] [100000, 100001] hN (by kernel_rfl) (by kernel_rfl) ?_
     refine tnU ?_
     refine sqJ (fun st' => ∃ v18 : Bool, denote_set_with_m4.j26 k (denote_set_with_m4.l7 k a0 a1 n) a0 a1 v4 v6 v17 v18 = some o10 ∧ st' = ⟨[(0, .vec 100000 1 0 a0.length), (5, .p .bool v18), (6, .p I6 v6), (7, .p .bool v17), (8, .vec 100001 1 0 a1.length), (9, .p I6 ((a1.length : Int) : Int)), (10, .p I6 v6)], [(100000, .row 4 .bool v4 false), (100001, .row 4 .bool a1 false)]⟩) ?_ ?_
     ·rcases bool_cases v5 with hc27 | hc27
      ·replace h := ite_t hc27 h
       refine rS { kn := [(16, .t hc27)] } [0, 5, 6, 7, 8, 9, 10] [100000, 100001] hN (by kernel_rfl) (by kernel_rfl) ?_
       refine tnU ?_
       exact ⟨true, h, by kernel_rfl⟩
      ·replace h := ite_f hc27 h
       rcases bool_cases v17 with hc28 | hc28
       ·replace h := ite_t hc28 h
        obtain ⟨g29, h⟩ := if_some h
        obtain ⟨v30, hv30, h⟩ := bind_some h
        refine rS { its := [(6, .g g29), (7, .v .bool hv30)], kn := [(16, .f hc27), (18, .t hc28)] } [0, 5, 6, 7, 8, 9, 10] [100000, 100001] hN (by kernel_rfl) (by kernel_rfl) ?_
        refine tnU ?_
        exact ⟨(!v30), h, by kernel_rfl⟩
       ·replace h := ite_f hc28 h
        refine rS { kn := [(16, .f hc27), (18, .f hc28)] } [0, 5, 6, 7, 8, 9, 10] [100000, 100001] hN (by kernel_rfl) (by kernel_rfl) ?_
        refine tnU ?_
        exact ⟨false, h, by kernel_rfl⟩
     ·rintro _ ⟨v18, h, rfl⟩
      unfold denote_set_with_m4.j26 at h
      obtain ⟨g19, h⟩ := if_some h
      obtain ⟨v20, hv20, h⟩ := bind_some h
      rcases bool_cases v20 with hc21 | hc21
      ·replace h := ite_t hc21 h
       obtain ⟨g22, h⟩ := if_some h
       obtain ⟨v23, hv23, h⟩ := bind_some h
       refine rS { its := [(4, .g g19), (5, .v .bool hv20), (9, .g g22), (10, .v .bool hv23)], kn := [(32, .t hc21)] } [0, 5, 8, 9, 10] [100000, 100001] hN (by kernel_rfl) (by kernel_rfl) ?_
       refine blockQ_normal ?_
       refine tnU ?_
       exact ⟨(upd v4 (0 + v6.toNat) true), v18, h, by kernel_rfl⟩
      ·replace h := ite_f hc21 h
       obtain ⟨g24, h⟩ := if_some h
       obtain ⟨v25, hv25, h⟩ := bind_some h
       refine rS { its := [(4, .g g19), (5, .v .bool hv20), (9, .g g24), (10, .v .bool hv25)], kn := [(32, .f hc21)] } [0, 5, 8, 9, 10] [100000, 100001] hN (by kernel_rfl) (by kernel_rfl) ?_
       refine blockQ_normal ?_
       refine tnU ?_
       exact ⟨(upd v4 (0 + v6.toNat) v17), v18, h, by kernel_rfl⟩
    ·rintro _ ⟨v13, v14, h, rfl⟩
     unfold denote_set_with_m4.j15 at h
     obtain ⟨gl_v13, h⟩ := if_some h
     refine rS {} [0, 5, 8, 9, 10] [100000, 100001] hN (by kernel_rfl) (by kernel_rfl) ?_
     refine tnU ?_
     exact ⟨n, Nat.lt_succ_self n, v13, v14, (IntKind.i64.wrap (v6 + 1)), h, by kernel_rfl⟩
   ·replace h := ite_f hc12 h
    refine WpC.conv (cS [.k [5] [100000, 100001]] (by kernel_rfl) (by kernel_rfl)) (WpC.exit ?_)
    refine thenQ_exit ?_
    have hq := Option.some.inj h
    subst hq
    refine thenQ_exit ?_
    have h := hout11
    obtain ⟨_, h⟩ := if_some h
    have gl_v9 : v4.length = a0.length := (by first | rfl | (simp only [upd_length, List.length_replicate, List.length_append]; done) | (simp only [upd_length, List.length_replicate, List.length_append] at *; omega) | omega)
    refine blockQ_hit ?_
    refine tnU ?_
    exact ⟨v5, v4, h, by kernel_rfl⟩
 ·rintro _ ⟨v1, v2, h, rfl⟩
  unfold denote_set_with_m4.j3 at h
  obtain ⟨gl_v2, h⟩ := if_some h
  refine WpC.seq ?_
  refine rS {} [4] [100000, 100001] hN (by kernel_rfl) (by kernel_rfl) ?_
  refine tnU ?_
  refine WpC.ret ?_
  have hq := Option.some.inj h
  subst hq
  exact eR (by kernel_rfl) (by kernel_rfl)

end Go.Proofs.YteddmdkbeednmaaDoor
