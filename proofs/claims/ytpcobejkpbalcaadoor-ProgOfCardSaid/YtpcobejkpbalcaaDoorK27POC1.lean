/- A part of the proof of a given law: POC1. Own work, printed in part by a program of mine. -/
import Derived.Test.YtpcobejkpbalcaaDoorK27POC0
namespace Go.Proofs.YtpcobejkpbalcaaDoor
open Go Go.AM
set_option linter.unusedVariables false
set_option linter.unusedSimpArgs false
set_option maxRecDepth 100000
set_option maxHeartbeats 4000000
theorem rex_Parse.ok (O : Out) (hO : GOkE O) (k : Nat) (a0 : List UInt8) (out : T_rex_Node × Nat) (h : rex_Parse.f k a0 = some out) : COk Un O Tryd.prog 11 { ar := [.p .str a0], r := .tup [.p (.named 6) out.1, .p .err out.2] } := by
  refine cok_of_wp Tryd.func11 rfl (k := 41) rfl (Nat.le_of_ble_eq_true rfl) (namesOk_pure rfl rfl rfl rfl) ?_
  intro B hN
  refine WpC.conv (cvK (b := ⟨[(0, .p .str a0)], []⟩) [0] [] (by kernel_rfl)) ?_
  unfold rex_Parse.f at h
  refine WpC.seq ?_
  refine rS {} [0, 2] [2] hN (by kernel_rfl) (by kernel_rfl) ?_
  refine tnU ?_
  refine WpC.seq ?_
  refine WpC.seq ?_
  refine rS {} [0, 2, 8] [2] hN (by kernel_rfl) (by kernel_rfl) ?_
  refine tnU ?_
  refine tS (b := (decide ((a0.length : Int) > 60))) (by kernel_rfl) (fun hc1 => ?_) (fun hc1 => ?_)
  · replace h := ite_t hc1 h
    refine WpC.seq ?_
    refine rA { its := [(1, .e 1 (sok_loadG (U := Un) (t := .err) (rs := []) rfl rfl ty_25 rfl rfl (hO.var 1 0 rfl) (fun S w => .err 1)))] } [2, 3] [2] hN (by kernel_rfl) (by kernel_rfl) (by kernel_rfl) ?_
    refine tnU ?_
    refine WpC.ret ?_
    refine thenQ_ret ?_
    have hq := Option.some.inj h
    subst hq
    exact eR (by kernel_rfl) (by kernel_rfl)
  · replace h := ite_f hc1 h
    refine WpC.conv (cS [.k [0, 2] [2]] (by kernel_rfl) (by kernel_rfl)) (WpC.skip ?_)
    refine tnU ?_
    refine WpC.seq ?_
    refine rS {} [0, 2, 4] [2, 13] hN (by kernel_rfl) (by kernel_rfl) ?_
    refine tnU ?_
    refine WpC.seq ?_
    obtain ⟨v2, hv2, h⟩ := bind_some h
    refine rS { its := [(1, .c (COk.ren (rex_parser_expression_m0.ok O hO k a0 0 0 false v2 hv2) (fun n => if n = 100000 then 13 else n) (injOn_of (by kernel_rfl))))] } [0, 2, 4, 5] [2, 5, 13] hN (by kernel_rfl) (by kernel_rfl) ?_
    refine tnU ?_
    refine sqJ (fun st' => rex_Parse.j3 k v2 = some out ∧ st' = ⟨[(2, .loc 2 0), (5, .loc 5 0)], [(2, .box [.p I6 (0 : Int), .p I6 (0 : Int), .p U6 ((List.replicate 4 (0 : Int)) : List Int), .p (.list (.named 6)) ([] : List T_rex_Node)]), (5, .box [.p I6 v2.1.f_Kind, .p I6 v2.1.f_Index, .p U6 v2.1.f_Set, .p (.list (.named 6)) v2.1.f_Kids])]⟩) ?_ ?_
    · refine WpC.block ?_
      refine sqJ (fun st' => ∃ v4 : Bool, rex_Parse.j7 k a0 v2 v4 = some out ∧ st' = ⟨[(2, .loc 2 0), (4, .loc 13 0), (5, .loc 5 0), (16, .p .bool v4)], [(2, .box [.p I6 (0 : Int), .p I6 (0 : Int), .p U6 ((List.replicate 4 (0 : Int)) : List Int), .p (.list (.named 6)) ([] : List T_rex_Node)]), (5, .box [.p I6 v2.1.f_Kind, .p I6 v2.1.f_Index, .p U6 v2.1.f_Set, .p (.list (.named 6)) v2.1.f_Kids]), (13, .box [.p .str a0, .p I6 v2.2.1, .p I6 v2.2.2.1, .p .bool v2.2.2.2])]⟩) ?_ ?_
      · rcases bool_cases v2.2.2.2 with hc8 | hc8
        · replace h := ite_t hc8 h
          refine rS { kn := [(21, .t hc8)] } [2, 4, 5, 16] [2, 5, 13] hN (by kernel_rfl) (by kernel_rfl) ?_
          refine tnU ?_
          exact ⟨true, h, by kernel_rfl⟩
        · replace h := ite_f hc8 h
          refine rS { kn := [(21, .f hc8)] } [2, 4, 5, 16] [2, 5, 13] hN (by kernel_rfl) (by kernel_rfl) ?_
          refine tnU ?_
          exact ⟨(decide (v2.2.1 < (a0.length : Int))), h, by kernel_rfl⟩
      · rintro _ ⟨v4, h, rfl⟩
        unfold rex_Parse.j7 at h
        refine tS (b := v4) (by kernel_rfl) (fun hc5 => ?_) (fun hc5 => ?_)
        · replace h := ite_t hc5 h
          refine WpC.seq ?_
          refine rA { its := [(1, .e 1 (sok_loadG (U := Un) (t := .err) (rs := []) rfl rfl ty_25 rfl rfl (hO.var 5 1 rfl) (fun S w => .err 5)))] } [2, 3] [2] hN (by kernel_rfl) (by kernel_rfl) (by kernel_rfl) ?_
          refine tnU ?_
          refine WpC.ret ?_
          refine blockQ_ret ?_
          refine thenQ_ret ?_
          have hq := Option.some.inj h
          subst hq
          exact eR (by kernel_rfl) (by kernel_rfl)
        · replace h := ite_f hc5 h
          refine WpC.seq ?_
          refine rS {} [2, 5, 32] [2, 5] hN (by kernel_rfl) (by kernel_rfl) ?_
          refine tnU ?_
          refine tS (b := (decide (v2.2.2.1 > 9))) (by kernel_rfl) (fun hc6 => ?_) (fun hc6 => ?_)
          · replace h := ite_t hc6 h
            refine WpC.seq ?_
            refine rA { its := [(1, .e 1 (sok_loadG (U := Un) (t := .err) (rs := []) rfl rfl ty_25 rfl rfl (hO.var 9 2 rfl) (fun S w => .err 9)))] } [2, 3] [2] hN (by kernel_rfl) (by kernel_rfl) (by kernel_rfl) ?_
            refine tnU ?_
            refine WpC.ret ?_
            refine blockQ_ret ?_
            refine thenQ_ret ?_
            have hq := Option.some.inj h
            subst hq
            exact eR (by kernel_rfl) (by kernel_rfl)
          · replace h := ite_f hc6 h
            refine WpC.conv (cS [.k [2, 5] [2, 5]] (by kernel_rfl) (by kernel_rfl)) (WpC.skip ?_)
            refine blockQ_normal ?_
            refine tnU ?_
            exact ⟨h, by kernel_rfl⟩
    · rintro _ ⟨h, rfl⟩
      unfold rex_Parse.j3 at h
      refine WpC.seq ?_
      refine rS {} [2, 3] [2] hN (by kernel_rfl) (by kernel_rfl) ?_
      refine tnU ?_
      refine WpC.conv (cS [.nE 3, .k [2, 3] [2]] (by kernel_rfl) (by kernel_rfl)) (WpC.ret ?_)
      have hq := Option.some.inj h
      subst hq
      exact eR (by kernel_rfl) (by kernel_rfl)

theorem prog_kids.ok (O : Out) (hO : GOkE O) (k : Nat) (a0 : Int) (out : Int × Int) (h : prog_kids.f k a0 = some out) : COk Un O Tryd.prog 36 { ar := [.p I6 a0], r := .tup [.p I6 out.1, .p I6 out.2] } := by
  refine cok_of_wp Tryd.func36 rfl (k := 13) rfl (Nat.le_of_ble_eq_true rfl) (namesOk_pure rfl rfl rfl rfl) ?_
  intro B hN
  refine WpC.conv (cvK (b := ⟨[(0, .p I6 a0)], []⟩) [0] [] (by kernel_rfl)) ?_
  unfold prog_kids.f at h
  refine WpC.seq ?_
  refine rS {} [0] [] hN (by kernel_rfl) (by kernel_rfl) ?_
  refine tnU ?_
  refine sqJ (fun st' => prog_kids.j1 k = some out ∧ st' = ⟨[], []⟩) ?_ ?_
  · refine WpC.seq ?_
    refine rS {} [4] [] hN (by kernel_rfl) (by kernel_rfl) ?_
    refine tnU ?_
    refine WpC.block ?_
    refine sqJ (fun st' => ∃ v2 : Bool, prog_kids.j10 k a0 v2 = some out ∧ st' = ⟨[(4, .p I6 a0), (5, .p .bool v2)], []⟩) ?_ ?_
    · refine WpC.seq ?_
      refine rS {} [4, 5] [] hN (by kernel_rfl) (by kernel_rfl) ?_
      refine tnU ?_
      refine tS (b := (a0 == 2)) (by kernel_rfl) (fun hc11 => ?_) (fun hc11 => ?_)
      · replace h := ite_t hc11 h
        refine WpC.skip ?_
        refine tnU ?_
        exact ⟨(a0 == 2), h, by kernel_rfl⟩
      · replace h := ite_f hc11 h
        refine rS {} [4, 5] [] hN (by kernel_rfl) (by kernel_rfl) ?_
        refine tnU ?_
        exact ⟨(a0 == 3), h, by kernel_rfl⟩
    · rintro _ ⟨v2, h, rfl⟩
      unfold prog_kids.j10 at h
      refine tS (b := v2) (by kernel_rfl) (fun hc3 => ?_) (fun hc3 => ?_)
      · replace h := ite_t hc3 h
        refine WpC.seq ?_
        refine rS {} [2, 3] [] hN (by kernel_rfl) (by kernel_rfl) ?_
        refine tnU ?_
        refine WpC.ret ?_
        refine blockQ_ret ?_
        refine thenQ_ret ?_
        have hq := Option.some.inj h
        subst hq
        exact eR (by kernel_rfl) (by kernel_rfl)
      · replace h := ite_f hc3 h
        refine sqJ (fun st' => ∃ v4 : Bool, prog_kids.j6 k v4 = some out ∧ st' = ⟨[(8, .p .bool v4)], []⟩) ?_ ?_
        · refine WpC.seq ?_
          refine rS {} [4, 8] [] hN (by kernel_rfl) (by kernel_rfl) ?_
          refine tnU ?_
          refine tS (b := (a0 == 4)) (by kernel_rfl) (fun hc7 => ?_) (fun hc7 => ?_)
          · replace h := ite_t hc7 h
            refine WpC.conv (cS [.k [8] []] (by kernel_rfl) (by kernel_rfl)) (WpC.skip ?_)
            refine tnU ?_
            exact ⟨(a0 == 4), h, by kernel_rfl⟩
          · replace h := ite_f hc7 h
            refine WpC.seq ?_
            refine rS {} [4, 8] [] hN (by kernel_rfl) (by kernel_rfl) ?_
            refine tnU ?_
            refine tS (b := (a0 == 5)) (by kernel_rfl) (fun hc8 => ?_) (fun hc8 => ?_)
            · replace h := ite_t hc8 h
              refine WpC.conv (cS [.k [8] []] (by kernel_rfl) (by kernel_rfl)) (WpC.skip ?_)
              refine tnU ?_
              exact ⟨(a0 == 5), h, by kernel_rfl⟩
            · replace h := ite_f hc8 h
              refine WpC.seq ?_
              refine rS {} [4, 8] [] hN (by kernel_rfl) (by kernel_rfl) ?_
              refine tnU ?_
              refine tS (b := (a0 == 6)) (by kernel_rfl) (fun hc9 => ?_) (fun hc9 => ?_)
              · replace h := ite_t hc9 h
                refine WpC.conv (cS [.k [8] []] (by kernel_rfl) (by kernel_rfl)) (WpC.skip ?_)
                refine tnU ?_
                exact ⟨(a0 == 6), h, by kernel_rfl⟩
              · replace h := ite_f hc9 h
                refine rS {} [8] [] hN (by kernel_rfl) (by kernel_rfl) ?_
                refine tnU ?_
                exact ⟨(a0 == 7), h, by kernel_rfl⟩
        · rintro _ ⟨v4, h, rfl⟩
          unfold prog_kids.j6 at h
          refine tS (b := v4) (by kernel_rfl) (fun hc5 => ?_) (fun hc5 => ?_)
          · replace h := ite_t hc5 h
            refine WpC.seq ?_
            refine rS {} [2, 3] [] hN (by kernel_rfl) (by kernel_rfl) ?_
            refine tnU ?_
            refine WpC.ret ?_
            refine blockQ_ret ?_
            refine thenQ_ret ?_
            have hq := Option.some.inj h
            subst hq
            exact eR (by kernel_rfl) (by kernel_rfl)
          · replace h := ite_f hc5 h
            refine WpC.conv (cS [.k [] []] (by kernel_rfl) (by kernel_rfl)) (WpC.skip ?_)
            refine blockQ_normal ?_
            refine tnU ?_
            exact ⟨h, by kernel_rfl⟩
  · rintro _ ⟨h, rfl⟩
    unfold prog_kids.j1 at h
    refine WpC.seq ?_
    refine rS {} [2, 3] [] hN (by kernel_rfl) (by kernel_rfl) ?_
    refine tnU ?_
    refine WpC.ret ?_
    have hq := Option.some.inj h
    subst hq
    exact eR (by kernel_rfl) (by kernel_rfl)

theorem rex_Word.ok (O : Out) (hO : GOkE O) (k : Nat) (a0 : Int) (out : List UInt8) (h : rex_Word.f k a0 = some out) : COk Un O Tryd.prog 37 { ar := [.p I6 a0], r := .p .str out } := by
  refine cok_of_wp Tryd.func37 rfl (k := 12) rfl (Nat.le_of_ble_eq_true rfl) (namesOk_pure rfl rfl rfl rfl) ?_
  intro B hN
  refine WpC.conv (cvK (b := ⟨[(0, .p I6 a0)], []⟩) [0] [] (by kernel_rfl)) ?_
  unfold rex_Word.f at h
  refine WpC.seq ?_
  refine rS {} [0] [] hN (by kernel_rfl) (by kernel_rfl) ?_
  refine tnU ?_
  refine sqJ (fun st' => rex_Word.j2 k a0 = some out ∧ st' = ⟨[(0, .p I6 a0)], []⟩) ?_ ?_
  · refine sqJ (fun st' => ∃ v3 : Bool, rex_Word.j5 k a0 v3 = some out ∧ st' = ⟨[(0, .p I6 a0), (8, .p .bool v3)], []⟩) ?_ ?_
    · rcases bool_cases (decide (a0 < 0)) with hc6 | hc6
      · replace h := ite_t hc6 h
        refine rS { kn := [(5, .t hc6)] } [0, 8] [] hN (by kernel_rfl) (by kernel_rfl) ?_
        refine tnU ?_
        exact ⟨true, h, by kernel_rfl⟩
      · replace h := ite_f hc6 h
        refine rS { kn := [(5, .f hc6)] } [0, 8] [] hN (by kernel_rfl) (by kernel_rfl) ?_
        refine tnU ?_
        exact ⟨(decide (a0 > 9)), h, by kernel_rfl⟩
    · rintro _ ⟨v3, h, rfl⟩
      unfold rex_Word.j5 at h
      refine tS (b := v3) (by kernel_rfl) (fun hc4 => ?_) (fun hc4 => ?_)
      · replace h := ite_t hc4 h
        refine WpC.seq ?_
        refine rS {} [2] [] hN (by kernel_rfl) (by kernel_rfl) ?_
        refine tnU ?_
        refine WpC.ret ?_
        refine thenQ_ret ?_
        have hq := Option.some.inj h
        subst hq
        exact eR (by kernel_rfl) (by kernel_rfl)
      · replace h := ite_f hc4 h
        refine WpC.conv (cS [.k [0] []] (by kernel_rfl) (by kernel_rfl)) (WpC.skip ?_)
        refine tnU ?_
        exact ⟨h, by kernel_rfl⟩
  · rintro _ ⟨h, rfl⟩
    unfold rex_Word.j2 at h
    refine WpC.seq ?_
    obtain ⟨v1, hv1, h⟩ := bind_some h
    refine rS { its := [(1, .e 1 (sok_indexG (U := Un) (rs := [(9, .p I6 a0)]) (bs := rexWords) rfl rfl Tryd.underlying108 ty_9 hO.words o0 hv1))] } [2] [] hN (by kernel_rfl) (by kernel_rfl) ?_
    refine tnU ?_
    refine WpC.ret ?_
    have hq := Option.some.inj h
    subst hq
    exact eR (by kernel_rfl) (by kernel_rfl)

theorem class_Set_Empty.ok (O : Out) (hO : GOkE O) (k : Nat) (a0 : List Int) (out : Bool) (h : class_Set_Empty.f k a0 = some out) : COk Un O Tryd.prog 38 { ar := [.p U6 a0], r := .p .bool out } := by
  refine cok_of_wp Tryd.func38 rfl (k := 6) rfl (Nat.le_of_ble_eq_true rfl) (namesOk_pure rfl rfl rfl rfl) ?_
  intro B hN
  refine WpC.conv (cvK (b := ⟨[(0, .p U6 a0)], []⟩) [0] [] (by kernel_rfl)) ?_
  unfold class_Set_Empty.f at h
  refine WpC.seq ?_
  refine rS {} [1] [1] hN (by kernel_rfl) (by kernel_rfl) ?_
  refine tnU ?_
  refine WpC.seq ?_
  refine rS { its := [(2, .e 2 (sok_eqArr (U := Un) (op := .eql) (rs := [(3, .p U6 a0), (4, .p U6 ((List.replicate 4 (0 : Int)) : List Int))]) rfl rfl Tryd.underlying41 Tryd.underlying28 ty_28 (by kernel_rfl) o0 o1))] } [2] [] hN (by kernel_rfl) (by kernel_rfl) ?_
  refine tnU ?_
  refine WpC.ret ?_
  have hq := Option.some.inj h
  subst hq
  exact eR (by kernel_rfl) (by kernel_rfl)

theorem prog_Right_1.bok (O : Out) (hO : GOkE O) (k : Nat) (rf_prog_Right : T_rex_Node → Option Bool) (hrf_prog_Right : ∀ (a0 : T_rex_Node) (out : Bool), rf_prog_Right a0 = some out → COk Un O Tryd.prog 21 { ar := [.p (.named 6) a0], r := .p .bool out }) (a0 : T_rex_Node) (out : Bool) (h : prog_Right_1.b k rf_prog_Right a0 = some out) : COk Un O Tryd.prog 39 { ar := [.p (.named 6) a0], r := .p .bool out } := by
  refine cok_of_wp Tryd.func39 rfl (k := 6) rfl (Nat.le_of_ble_eq_true rfl) (namesOk_pure rfl rfl rfl rfl) ?_
  intro B hN
  refine WpC.conv (cvK (b := ⟨[(0, .p (.named 6) a0)], []⟩) [0] [] (by kernel_rfl)) ?_
  unfold prog_Right_1.b at h
  refine WpC.seq ?_
  refine rS {} [1] [1] hN (by kernel_rfl) (by kernel_rfl) ?_
  refine tnU ?_
  refine WpC.seq ?_
  obtain ⟨v1, hv1, h⟩ := bind_some h
  refine rS { its := [(1, .c (hrf_prog_Right (T_rex_Node.mk a0.f_Kind a0.f_Index a0.f_Set a0.f_Kids) v1 hv1))] } [2] [] hN (by kernel_rfl) (by kernel_rfl) ?_
  refine tnU ?_
  refine WpC.ret ?_
  have hq := Option.some.inj h
  subst hq
  exact eR (by kernel_rfl) (by kernel_rfl)

theorem rex_Node_47_m0.bok (O : Out) (hO : GOkE O) (k : Nat) (rf_prog_Right_1 : T_rex_Node → Option Bool) (hrf_prog_Right_1 : ∀ (a0 : T_rex_Node) (out : Bool), rf_prog_Right_1 a0 = some out → COk Un O Tryd.prog 39 { ar := [.p (.named 6) a0], r := .p .bool out }) (a0 : List T_rex_Node) (out : Int) (h : rex_Node_47_m0.b k rf_prog_Right_1 a0 = some out) : COk Un O Tryd.prog 47 { ar := [.p (.list (.named 6)) a0, .clo 39 []], r := .p I6 out } := by
  refine cok_of_wp Tryd.func47 rfl (k := 19) rfl (Nat.le_of_ble_eq_true rfl) (namesOk_pure rfl rfl rfl rfl) ?_
  intro B hN
  refine WpC.conv (cvK (b := ⟨[(0, .p (.list (.named 6)) a0), (1, .clo 39 [])], []⟩) [0, 1] [] (by kernel_rfl)) ?_
  unfold rex_Node_47_m0.b at h
  refine WpC.seq ?_
  refine rS {} [0, 1] [] hN (by kernel_rfl) (by kernel_rfl) ?_
  refine tnU ?_
  refine sqJ (fun st' => rex_Node_47_m0.j1 k = some out ∧ st' = ⟨[], []⟩) ?_ ?_
  · refine WpC.seq ?_
    refine rS {} [0, 1, 7, 8] [] hN (by kernel_rfl) (by kernel_rfl) ?_
    refine tnU ?_
    refine WpC.block ?_
    obtain ⟨o4, hlo4, h⟩ := bind_some h
    have hout5 := h
    clear h
    refine WpC.loop (U := Un) (fun n st' => ∃ v2 : Int, rex_Node_47_m0.l3 k rf_prog_Right_1 a0 n v2 = some o4 ∧ st' = ⟨[(0, .p (.list (.named 6)) a0), (1, .clo 39 []), (7, .p I6 ((a0.length : Int) : Int)), (8, .p I6 v2)], []⟩) k ⟨0, hlo4, by kernel_rfl⟩ ?_
    clear hlo4
    rintro (_ | n) _ ⟨v2, h, rfl⟩
    · cases h
    · rw [rex_Node_47_m0.l3] at h
      refine WpC.seq ?_
      refine rS {} [0, 1, 7, 8, 9] [] hN (by kernel_rfl) (by kernel_rfl) ?_
      refine tnU ?_
      refine WpC.seq ?_
      refine tS (b := (decide (v2 < (a0.length : Int)))) (by kernel_rfl) (fun hc6 => ?_) (fun hc6 => ?_)
      · replace h := ite_t hc6 h
        refine WpC.conv (cS [.k [0, 1, 7, 8] []] (by kernel_rfl) (by kernel_rfl)) (WpC.skip ?_)
        refine tnU ?_
        refine WpC.seq ?_
        refine WpC.block ?_
        refine WpC.seq ?_
        refine rS {} [0, 1, 5, 7, 8] [] hN (by kernel_rfl) (by kernel_rfl) ?_
        refine tnU ?_
        refine WpC.seq ?_
        obtain ⟨v7, hv7, h⟩ := bind_some h
        obtain ⟨v8, hv8, h⟩ := bind_some h
        refine rS { its := [(3, .v (.named 6) hv7), (5, .c (hrf_prog_Right_1 v7 v8 hv8))] } [0, 1, 5, 7, 8, 16] [] hN (by kernel_rfl) (by kernel_rfl) ?_
        refine tnU ?_
        refine tS (b := v8) (by kernel_rfl) (fun hc9 => ?_) (fun hc9 => ?_)
        · replace h := ite_t hc9 h
          refine WpC.seq ?_
          refine rS {} [4] [] hN (by kernel_rfl) (by kernel_rfl) ?_
          refine tnU ?_
          refine WpC.ret ?_
          refine blockQ_ret ?_
          refine thenQ_ret ?_
          have hq := Option.some.inj h
          subst hq
          refine thenQ_ret ?_
          have h := hout5
          refine blockQ_ret ?_
          refine thenQ_ret ?_
          have hq := Option.some.inj h
          subst hq
          exact eR (by kernel_rfl) (by kernel_rfl)
        · replace h := ite_f hc9 h
          refine WpC.conv (cS [.k [0, 1, 7, 8] []] (by kernel_rfl) (by kernel_rfl)) (WpC.skip ?_)
          refine blockQ_normal ?_
          refine tnU ?_
          refine rS {} [0, 1, 7, 8] [] hN (by kernel_rfl) (by kernel_rfl) ?_
          refine tnU ?_
          exact ⟨n, Nat.lt_succ_self n, (IntKind.i64.wrap (v2 + 1)), h, by kernel_rfl⟩
      · replace h := ite_f hc6 h
        refine WpC.conv (cS [.k [] []] (by kernel_rfl) (by kernel_rfl)) (WpC.exit ?_)
        refine thenQ_exit ?_
        have hq := Option.some.inj h
        subst hq
        refine thenQ_exit ?_
        have h := hout5
        refine blockQ_hit ?_
        refine tnU ?_
        exact ⟨h, by kernel_rfl⟩
  · rintro _ ⟨h, rfl⟩
    unfold rex_Node_47_m0.j1 at h
    refine WpC.seq ?_
    refine rS {} [4] [] hN (by kernel_rfl) (by kernel_rfl) ?_
    refine tnU ?_
    refine WpC.ret ?_
    have hq := Option.some.inj h
    subst hq
    exact eR (by kernel_rfl) (by kernel_rfl)

theorem rex_Node_m0.bok (O : Out) (hO : GOkE O) (k : Nat) (rf_rex_Node_47_m0 : (List T_rex_Node) → Option Int) (hrf_rex_Node_47_m0 : ∀ (a0 : List T_rex_Node) (out : Int), rf_rex_Node_47_m0 a0 = some out → COk Un O Tryd.prog 47 { ar := [.p (.list (.named 6)) a0, .clo 39 []], r := .p I6 out }) (a0 : List T_rex_Node) (out : Bool) (h : rex_Node_m0.b k rf_rex_Node_47_m0 a0 = some out) : COk Un O Tryd.prog 40 { ar := [.p (.list (.named 6)) a0, .clo 39 []], r := .p .bool out } := by
  refine cok_of_wp Tryd.func40 rfl (k := 9) rfl (Nat.le_of_ble_eq_true rfl) (namesOk_pure rfl rfl rfl rfl) ?_
  intro B hN
  refine WpC.conv (cvK (b := ⟨[(0, .p (.list (.named 6)) a0), (1, .clo 39 [])], []⟩) [0, 1] [] (by kernel_rfl)) ?_
  unfold rex_Node_m0.b at h
  refine WpC.seq ?_
  refine rS {} [0, 1] [] hN (by kernel_rfl) (by kernel_rfl) ?_
  refine tnU ?_
  refine WpC.seq ?_
  obtain ⟨v1, hv1, h⟩ := bind_some h
  refine rS { its := [(2, .c (hrf_rex_Node_47_m0 a0 v1 hv1))] } [4] [] hN (by kernel_rfl) (by kernel_rfl) ?_
  refine tnU ?_
  refine WpC.ret ?_
  have hq := Option.some.inj h
  subst hq
  exact eR (by kernel_rfl) (by kernel_rfl)

theorem prog_Right.bok (O : Out) (hO : GOkE O) (k : Nat) (rf_rex_Node_m0 : (List T_rex_Node) → Option Bool) (hrf_rex_Node_m0 : ∀ (a0 : List T_rex_Node) (out : Bool), rf_rex_Node_m0 a0 = some out → COk Un O Tryd.prog 40 { ar := [.p (.list (.named 6)) a0, .clo 39 []], r := .p .bool out }) (a0 : T_rex_Node) (out : Bool) (h : prog_Right.b k rf_rex_Node_m0 a0 = some out) : COk Un O Tryd.prog 21 { ar := [.p (.named 6) a0], r := .p .bool out } := by
  refine cok_of_wp Tryd.func21 rfl (k := 64) rfl (Nat.le_of_ble_eq_true rfl) (namesOk_pure rfl rfl rfl rfl) ?_
  intro B hN
  refine WpC.conv (cvK (b := ⟨[(0, .p (.named 6) a0)], []⟩) [0] [] (by kernel_rfl)) ?_
  unfold prog_Right.b at h
  refine WpC.seq ?_
  refine rS {} [1] [1] hN (by kernel_rfl) (by kernel_rfl) ?_
  refine tnU ?_
  refine WpC.seq ?_
  obtain ⟨v1, hv1, h⟩ := bind_some h
  refine rS { its := [(2, .c (prog_kids.ok O hO k a0.f_Kind v1 hv1))] } [1, 3, 4] [1] hN (by kernel_rfl) (by kernel_rfl) ?_
  refine tnU ?_
  refine WpC.seq ?_
  refine rS {} [1, 3, 4, 5] [1] hN (by kernel_rfl) (by kernel_rfl) ?_
  refine tnU ?_
  refine sqJ (fun st' => ∃ v2 : Bool, prog_Right.j19 k rf_rex_Node_m0 a0 v1 v2 = some out ∧ st' = ⟨[(1, .loc 1 0), (3, .p I6 v1.1), (4, .p I6 v1.2), (5, .p .bool v2)], [(1, .box [.p I6 a0.f_Kind, .p I6 a0.f_Index, .p U6 a0.f_Set, .p (.list (.named 6)) a0.f_Kids])]⟩) ?_ ?_
  · refine WpC.seq ?_
    refine rS {} [1, 3, 4, 5, 18] [1] hN (by kernel_rfl) (by kernel_rfl) ?_
    refine tnU ?_
    refine tS (b := (a0.f_Kind == 7)) (by kernel_rfl) (fun hc20 => ?_) (fun hc20 => ?_)
    · replace h := ite_t hc20 h
      rcases bool_cases (decide (a0.f_Index ≥ 1)) with hc21 | hc21
      · replace h := ite_t hc21 h
        refine rS { kn := [(22, .t hc21)] } [1, 3, 4, 5] [1] hN (by kernel_rfl) (by kernel_rfl) ?_
        refine tnU ?_
        exact ⟨(decide (a0.f_Index ≤ 9)), h, by kernel_rfl⟩
      · replace h := ite_f hc21 h
        refine rS { kn := [(22, .f hc21)] } [1, 3, 4, 5] [1] hN (by kernel_rfl) (by kernel_rfl) ?_
        refine tnU ?_
        exact ⟨false, h, by kernel_rfl⟩
    · replace h := ite_f hc20 h
      refine WpC.conv (cS [.k [1, 3, 4, 5] [1]] (by kernel_rfl) (by kernel_rfl)) (WpC.skip ?_)
      refine tnU ?_
      exact ⟨(a0.f_Index == 0), h, by kernel_rfl⟩
  · rintro _ ⟨v2, h, rfl⟩
    unfold prog_Right.j19 at h
    refine sqJ (fun st' => prog_Right.j4 k rf_rex_Node_m0 a0 = some out ∧ st' = ⟨[(1, .loc 1 0)], [(1, .box [.p I6 a0.f_Kind, .p I6 a0.f_Index, .p U6 a0.f_Set, .p (.list (.named 6)) a0.f_Kids])]⟩) ?_ ?_
    · refine WpC.block ?_
      refine sqJ (fun st' => ∃ v5 : Bool, prog_Right.j16 k rf_rex_Node_m0 a0 v1 v5 = some out ∧ st' = ⟨[(1, .loc 1 0), (3, .p I6 v1.1), (4, .p I6 v1.2), (27, .p .bool v5)], [(1, .box [.p I6 a0.f_Kind, .p I6 a0.f_Index, .p U6 a0.f_Set, .p (.list (.named 6)) a0.f_Kids])]⟩) ?_ ?_
      · obtain ⟨v17, hv17, h⟩ := bind_some h
        rcases bool_cases (v17 == ([] : List UInt8)) with hc18 | hc18
        · replace h := ite_t hc18 h
          refine rS { its := [(2, .c (rex_Word.ok O hO k a0.f_Kind v17 hv17))], kn := [(32, .t hc18)] } [1, 3, 4, 27] [1] hN (by kernel_rfl) (by kernel_rfl) ?_
          refine tnU ?_
          exact ⟨true, h, by kernel_rfl⟩
        · replace h := ite_f hc18 h
          refine rS { its := [(2, .c (rex_Word.ok O hO k a0.f_Kind v17 hv17))], kn := [(32, .f hc18)] } [1, 3, 4, 27] [1] hN (by kernel_rfl) (by kernel_rfl) ?_
          refine tnU ?_
          exact ⟨(!v2), h, by kernel_rfl⟩
      · rintro _ ⟨v5, h, rfl⟩
        unfold prog_Right.j16 at h
        refine tS (b := v5) (by kernel_rfl) (fun hc6 => ?_) (fun hc6 => ?_)
        · replace h := ite_t hc6 h
          refine WpC.seq ?_
          refine rS {} [2] [] hN (by kernel_rfl) (by kernel_rfl) ?_
          refine tnU ?_
          refine WpC.ret ?_
          refine blockQ_ret ?_
          refine thenQ_ret ?_
          have hq := Option.some.inj h
          subst hq
          exact eR (by kernel_rfl) (by kernel_rfl)
        · replace h := ite_f hc6 h
          refine sqJ (fun st' => ∃ v7 : Bool, prog_Right.j14 k rf_rex_Node_m0 a0 v7 = some out ∧ st' = ⟨[(1, .loc 1 0), (36, .p .bool v7)], [(1, .box [.p I6 a0.f_Kind, .p I6 a0.f_Index, .p U6 a0.f_Set, .p (.list (.named 6)) a0.f_Kids])]⟩) ?_ ?_
          · rcases bool_cases (decide ((a0.f_Kids.length : Int) < v1.1)) with hc15 | hc15
            · replace h := ite_t hc15 h
              refine rS { kn := [(42, .t hc15)] } [1, 36] [1] hN (by kernel_rfl) (by kernel_rfl) ?_
              refine tnU ?_
              exact ⟨true, h, by kernel_rfl⟩
            · replace h := ite_f hc15 h
              refine rS { kn := [(42, .f hc15)] } [1, 36] [1] hN (by kernel_rfl) (by kernel_rfl) ?_
              refine tnU ?_
              exact ⟨(decide ((a0.f_Kids.length : Int) > v1.2)), h, by kernel_rfl⟩
          · rintro _ ⟨v7, h, rfl⟩
            unfold prog_Right.j14 at h
            refine tS (b := v7) (by kernel_rfl) (fun hc8 => ?_) (fun hc8 => ?_)
            · replace h := ite_t hc8 h
              refine WpC.seq ?_
              refine rS {} [2] [] hN (by kernel_rfl) (by kernel_rfl) ?_
              refine tnU ?_
              refine WpC.ret ?_
              refine blockQ_ret ?_
              refine thenQ_ret ?_
              have hq := Option.some.inj h
              subst hq
              exact eR (by kernel_rfl) (by kernel_rfl)
            · replace h := ite_f hc8 h
              refine sqJ (fun st' => ∃ v9 : Bool, prog_Right.j11 k rf_rex_Node_m0 a0 v9 = some out ∧ st' = ⟨[(1, .loc 1 0), (49, .p .bool v9)], [(1, .box [.p I6 a0.f_Kind, .p I6 a0.f_Index, .p U6 a0.f_Set, .p (.list (.named 6)) a0.f_Kids])]⟩) ?_ ?_
              · rcases bool_cases (a0.f_Kind != 1) with hc12 | hc12
                · replace h := ite_t hc12 h
                  obtain ⟨v13, hv13, h⟩ := bind_some h
                  refine rS { its := [(6, .c (class_Set_Empty.ok O hO k a0.f_Set v13 hv13))], kn := [(53, .t hc12)] } [1, 49] [1] hN (by kernel_rfl) (by kernel_rfl) ?_
                  refine tnU ?_
                  exact ⟨(!v13), h, by kernel_rfl⟩
                · replace h := ite_f hc12 h
                  refine rS { kn := [(53, .f hc12)] } [1, 49] [1] hN (by kernel_rfl) (by kernel_rfl) ?_
                  refine tnU ?_
                  exact ⟨false, h, by kernel_rfl⟩
              · rintro _ ⟨v9, h, rfl⟩
                unfold prog_Right.j11 at h
                refine tS (b := v9) (by kernel_rfl) (fun hc10 => ?_) (fun hc10 => ?_)
                · replace h := ite_t hc10 h
                  refine WpC.seq ?_
                  refine rS {} [2] [] hN (by kernel_rfl) (by kernel_rfl) ?_
                  refine tnU ?_
                  refine WpC.ret ?_
                  refine blockQ_ret ?_
                  refine thenQ_ret ?_
                  have hq := Option.some.inj h
                  subst hq
                  exact eR (by kernel_rfl) (by kernel_rfl)
                · replace h := ite_f hc10 h
                  refine WpC.conv (cS [.k [1] [1]] (by kernel_rfl) (by kernel_rfl)) (WpC.skip ?_)
                  refine blockQ_normal ?_
                  refine tnU ?_
                  exact ⟨h, by kernel_rfl⟩
    · rintro _ ⟨h, rfl⟩
      unfold prog_Right.j4 at h
      refine WpC.seq ?_
      refine rS {} [1, 6] [1] hN (by kernel_rfl) (by kernel_rfl) ?_
      refine tnU ?_
      refine WpC.seq ?_
      obtain ⟨v3, hv3, h⟩ := bind_some h
      refine rS { its := [(3, .c (hrf_rex_Node_m0 a0.f_Kids v3 hv3))] } [2] [] hN (by kernel_rfl) (by kernel_rfl) ?_
      refine tnU ?_
      refine WpC.ret ?_
      have hq := Option.some.inj h
      subst hq
      exact eR (by kernel_rfl) (by kernel_rfl)

theorem scc_prog_Right.ok (O : Out) (hO : GOkE O) : ∀ k : Nat, (∀ (a0 : T_rex_Node) (out : Bool), prog_Right_1.f k a0 = some out → COk Un O Tryd.prog 39 { ar := [.p (.named 6) a0], r := .p .bool out }) ∧ (∀ (a0 : List T_rex_Node) (out : Int), rex_Node_47_m0.f k a0 = some out → COk Un O Tryd.prog 47 { ar := [.p (.list (.named 6)) a0, .clo 39 []], r := .p (.int .i64) out }) ∧ (∀ (a0 : List T_rex_Node) (out : Bool), rex_Node_m0.f k a0 = some out → COk Un O Tryd.prog 40 { ar := [.p (.list (.named 6)) a0, .clo 39 []], r := .p .bool out }) ∧ (∀ (a0 : T_rex_Node) (out : Bool), prog_Right.f k a0 = some out → COk Un O Tryd.prog 21 { ar := [.p (.named 6) a0], r := .p .bool out }) := by
  intro k
  induction k with
  | zero => exact ⟨fun a0 out h => (by have h2 : (none : Option Bool) = some out := h; cases h2), fun a0 out h => (by have h2 : (none : Option Int) = some out := h; cases h2), fun a0 out h => (by have h2 : (none : Option Bool) = some out := h; cases h2), fun a0 out h => (by have h2 : (none : Option Bool) = some out := h; cases h2)⟩
  | succ k ih => exact ⟨fun a0 out h => prog_Right_1.bok O hO k _ ih.2.2.2 a0 out h, fun a0 out h => rex_Node_47_m0.bok O hO k _ ih.1 a0 out h, fun a0 out h => rex_Node_m0.bok O hO k _ ih.2.1 a0 out h, fun a0 out h => prog_Right.bok O hO k _ ih.2.2.1 a0 out h⟩
theorem prog_Right.ok (O : Out) (hO : GOkE O) (k : Nat) (a0 : T_rex_Node) (out : Bool) (h : prog_Right.f k a0 = some out) : COk Un O Tryd.prog 21 { ar := [.p (.named 6) a0], r := .p .bool out } := (scc_prog_Right.ok O hO k).2.2.2 a0 out h

theorem prog_writer_put_m0.ok (O : Out) (hO : GOkE O) (k : Nat) (a0 : List T_prog_Instr) (a1 : T_prog_Instr) (out : Int × (List T_prog_Instr)) (h : prog_writer_put_m0.f k a0 a1 = some out) : COk Un O Tryd.prog 23 { ar := [.loc 100000 0, .p (.named 3) a1], r := .p I6 out.1, bs := [(100000, .box [.vec 100001 7 0 a0.length]), (100001, .row 43 (.named 3) a0 false)], bs' := [(60001, .row 43 (.named 3) out.2 false), (100000, .box [.vec 60001 7 0 out.2.length])], nn := [60001] } := by
  refine cok_of_wp Tryd.func23 rfl (k := 21) rfl (Nat.le_of_ble_eq_true rfl) (namesOk_of (by kernel_rfl)) ?_
  intro B hN
  refine WpC.conv (cvK (b := ⟨[(0, .loc 100000 0), (1, .p (.named 3) a1)], [(100000, .box [.vec 100001 7 0 a0.length]), (100001, .row 43 (.named 3) a0 false)]⟩) [0, 1] [100000, 100001] (by kernel_rfl)) ?_
  unfold prog_writer_put_m0.f at h
  refine WpC.seq ?_
  refine rS {} [0, 3] [3, 100000, 100001] hN (by kernel_rfl) (by kernel_rfl) ?_
  refine tnU ?_
  refine WpC.seq ?_
  obtain ⟨g1, h⟩ := if_some h
  refine rA { its := [(7, .g g1)] } [0] [12, 100000] hN (by kernel_rfl) (by kernel_rfl) (by kernel_rfl) ?_
  refine tnU ?_
  refine WpC.seq ?_
  refine rS {} [4] [12, 100000] hN (by kernel_rfl) (by kernel_rfl) ?_
  refine tnU ?_
  refine WpC.conv (cS [.rn 12 60001, .k [4] [60001, 100000]] (by kernel_rfl) (by kernel_rfl)) (WpC.ret ?_)
  have hq := Option.some.inj h
  subst hq
  exact eR (by kernel_rfl) (by kernel_rfl)

theorem prog_writer_alt_m0.bok (O : Out) (hO : GOkE O) (k : Nat) (rf_prog_writer_node_m0 : (List T_prog_Instr) → T_rex_Node → Option (List T_prog_Instr)) (hrf_prog_writer_node_m0 : ∀ (a0 : List T_prog_Instr) (a1 : T_rex_Node) (out : List T_prog_Instr), rf_prog_writer_node_m0 a0 a1 = some out → COk Un O Tryd.prog 24 { ar := [.loc 100000 0, .p (.named 6) a1], r := .tup [], bs := [(100000, .box [.vec 100001 7 0 a0.length]), (100001, .row 43 (.named 3) a0 false)], bs' := [(60001, .row 43 (.named 3) out false), (100000, .box [.vec 60001 7 0 out.length])], nn := [60001] }) (a0 : List T_prog_Instr) (a1 : List T_rex_Node) (out : List T_prog_Instr) (h : prog_writer_alt_m0.b k rf_prog_writer_node_m0 a0 a1 = some out) : COk Un O Tryd.prog 41 { ar := [.loc 100000 0, .p (.list (.named 6)) a1], r := .tup [], bs := [(100000, .box [.vec 100001 7 0 a0.length]), (100001, .row 43 (.named 3) a0 false)], bs' := [(60001, .row 43 (.named 3) out false), (100000, .box [.vec 60001 7 0 out.length])], nn := [60001] } := by
  refine cok_of_wp Tryd.func41 rfl (k := 78) rfl (Nat.le_of_ble_eq_true rfl) (namesOk_of (by kernel_rfl)) ?_
  intro B hN
  refine WpC.conv (cvK (b := ⟨[(0, .loc 100000 0), (1, .p (.list (.named 6)) a1)], [(100000, .box [.vec 100001 7 0 a0.length]), (100001, .row 43 (.named 3) a0 false)]⟩) [0, 1] [100000, 100001] (by kernel_rfl)) ?_
  unfold prog_writer_alt_m0.b at h
  refine WpC.seq ?_
  refine rS {} [0, 1, 4] [100000, 100001] hN (by kernel_rfl) (by kernel_rfl) ?_
  refine tnU ?_
  refine WpC.seq ?_
  refine rS {} [0, 1, 4, 5] [100000, 100001] hN (by kernel_rfl) (by kernel_rfl) ?_
  refine tnU ?_
  refine sqJ (fun st' => ∃ v1 : List T_prog_Instr, ∃ v2 : List Int, prog_writer_alt_m0.j17 k rf_prog_writer_node_m0 a1 v1 v2 = some out ∧ st' = ⟨[(0, .loc 100000 0), (1, .p (.list (.named 6)) a1), (4, .p I6 ((IntKind.i64.wrap ((a1.length : Int) - 1)) : Int)), (5, .vec 1005 1 0 v2.length)], [(1005, .row 3 I6 v2 false), (62000, .row 43 (.named 3) v1 false), (100000, .box [.vec 62000 7 0 v1.length])]⟩) ?_ ?_
  · refine WpC.seq ?_
    obtain ⟨v18, hv18, h⟩ := bind_some h
    refine rS { its := [(2, .v (.list (.named 6)) hv18)] } [0, 1, 4, 5, 16, 17, 18] [100000, 100001] hN (by kernel_rfl) (by kernel_rfl) ?_
    refine tnU ?_
    refine WpC.block ?_
    obtain ⟨o25, hlo25, h⟩ := bind_some h
    have hout26 := h
    clear h
    refine WpC.conv (cS [.rn 100001 62000, .k [0, 1, 4, 5, 16, 17, 18] [62000, 100000], .th 5 1005 3 I6, .k [0, 1, 4, 5, 16, 17, 18] [1005, 62000, 100000]] (by kernel_rfl) (by kernel_rfl)) ?_
    refine WpC.loop (U := Un) (fun n st' => ∃ v19 : List T_prog_Instr, ∃ v20 : List Int, ∃ v21 : Int, prog_writer_alt_m0.l22 k rf_prog_writer_node_m0 a1 v18 n v19 v20 v21 = some o25 ∧ st' = ⟨[(0, .loc 100000 0), (1, .p (.list (.named 6)) a1), (4, .p I6 ((IntKind.i64.wrap ((a1.length : Int) - 1)) : Int)), (5, .vec 1005 1 0 v20.length), (16, .p (.list (.named 6)) v18), (17, .p I6 ((v18.length : Int) : Int)), (18, .p I6 v21)], [(1005, .row 3 I6 v20 false), (62000, .row 43 (.named 3) v19 false), (100000, .box [.vec 62000 7 0 v19.length])]⟩) k ⟨a0, [], 0, hlo25, by kernel_rfl⟩ ?_
    clear hlo25
    rintro (_ | n) _ ⟨v19, v20, v21, h, rfl⟩
    · cases h
    · rw [prog_writer_alt_m0.l22] at h
      refine WpC.seq ?_
      refine rS {} [0, 1, 4, 5, 16, 17, 18, 19] [1005, 62000, 100000] hN (by kernel_rfl) (by kernel_rfl) ?_
      refine tnU ?_
      refine WpC.seq ?_
      refine tS (b := (decide (v21 < (v18.length : Int)))) (by kernel_rfl) (fun hc27 => ?_) (fun hc27 => ?_)
      · replace h := ite_t hc27 h
        refine WpC.conv (cS [.k [0, 1, 4, 5, 16, 17, 18] [1005, 62000, 100000]] (by kernel_rfl) (by kernel_rfl)) (WpC.skip ?_)
        refine tnU ?_
        refine WpC.seq ?_
        refine WpC.block ?_
        refine WpC.seq ?_
        obtain ⟨v28, hv28, h⟩ := bind_some h
        refine rS { its := [(0, .v (.named 6) hv28)] } [0, 1, 4, 5, 7, 16, 17, 18] [7, 1005, 62000, 100000] hN (by kernel_rfl) (by kernel_rfl) ?_
        refine tnU ?_
        refine WpC.seq ?_
        obtain ⟨v29, hv29, h⟩ := bind_some h
        refine rS { its := [(8, .c (COk.ren (prog_writer_put_m0.ok O hO k v19 (T_prog_Instr.mk 1 (IntKind.i64.wrap ((v19.length : Int) + 1)) 0 (List.replicate 4 (0 : Int))) v29 hv29) (fun n => if n = 60001 then 10002 else if n = 100000 then 100000 else if n = 100001 then 62000 else n) (injOn_of (by kernel_rfl))))] } [0, 1, 4, 5, 7, 8, 16, 17, 18] [7, 1005, 10002, 100000] hN (by kernel_rfl) (by kernel_rfl) ?_
        refine tnU ?_
        refine WpC.seq ?_
        obtain ⟨v30, hv30, h⟩ := bind_some h
        refine rS { its := [(2, .c (COk.ren (hrf_prog_writer_node_m0 v29.2 (T_rex_Node.mk v28.f_Kind v28.f_Index v28.f_Set v28.f_Kids) v30 hv30) (fun n => if n = 60001 then 10003 else if n = 100000 then 100000 else if n = 100001 then 10002 else n) (injOn_of (by kernel_rfl))))] } [0, 1, 4, 5, 8, 16, 17, 18] [1005, 10003, 100000] hN (by kernel_rfl) (by kernel_rfl) ?_
        refine tnU ?_
        refine WpC.seq ?_
        obtain ⟨v31, hv31, h⟩ := bind_some h
        obtain ⟨g32, h⟩ := if_some h
        refine rS { its := [(3, .c (COk.ren (prog_writer_put_m0.ok O hO k v30 (T_prog_Instr.mk 2 0 0 (List.replicate 4 (0 : Int))) v31 hv31) (fun n => if n = 60001 then 10004 else if n = 100000 then 100000 else if n = 100001 then 10003 else n) (injOn_of (by kernel_rfl)))), (5, .g g32)] } [0, 1, 4, 5, 8, 16, 17, 18] [39, 10004, 100000] hN (by kernel_rfl) (by kernel_rfl) ?_
        refine tnU ?_
        obtain ⟨g33, h⟩ := if_some h
        obtain ⟨v34, hv34, h⟩ := bind_some h
        refine rAC { its := [(10, .g g33), (12, .v (.named 3) hv34)] } [0, 1, 4, 5, 16, 17, 18] [39, 10004, 100000] hN (by kernel_rfl) (by kernel_rfl) (by kernel_rfl) (cS [.k [0, 1, 4, 5, 16, 17, 18] [39, 10004, 100000], .x (Conv.cast (U := Un) (st := ⟨[(0, .loc 100000 0), (1, .p (.list (.named 6)) a1), (4, .p I6 ((IntKind.i64.wrap ((a1.length : Int) - 1)) : Int)), (5, .vec 39 1 0 ((v20 ++ [v31.1]).length)), (16, .p (.list (.named 6)) v18), (17, .p I6 ((v18.length : Int) : Int)), (18, .p I6 v21)], [(39, .row 3 I6 (v20 ++ [v31.1]) false), (10004, .row 43 (.named 3) (upd v31.2 (0 + v29.1.toNat) (T_prog_Instr.mk v34.f_Op v34.f_X (v31.2.length : Int) v34.f_Set)) false), (100000, .box [.vec 10004 7 0 v31.2.length])]⟩) (st' := ⟨[(0, .loc 100000 0), (1, .p (.list (.named 6)) a1), (4, .p I6 ((IntKind.i64.wrap ((a1.length : Int) - 1)) : Int)), (5, .vec 39 1 0 ((v20 ++ [v31.1]).length)), (16, .p (.list (.named 6)) v18), (17, .p I6 ((v18.length : Int) : Int)), (18, .p I6 v21)], [(39, .row 3 I6 (v20 ++ [v31.1]) false), (10004, .row 43 (.named 3) (upd v31.2 (0 + v29.1.toNat) (T_prog_Instr.mk v34.f_Op v34.f_X (v31.2.length : Int) v34.f_Set)) false), (100000, .box [.vec 10004 7 0 ((upd v31.2 (0 + v29.1.toNat) (T_prog_Instr.mk v34.f_Op v34.f_X (v31.2.length : Int) v34.f_Set)).length)])]⟩) (by simp only [upd_length, List.length_nil, List.length_replicate]))] (by kernel_rfl) (by kernel_rfl)) ?_
        refine blockQ_normal ?_
        refine tnU ?_
        refine rSC {} [0, 1, 4, 5, 16, 17, 18] [39, 10004, 100000] hN (by kernel_rfl) (by kernel_rfl) (cS [.rn 10004 62000, .k [0, 1, 4, 5, 16, 17, 18] [39, 62000, 100000], .rn 39 1005, .k [0, 1, 4, 5, 16, 17, 18] [1005, 62000, 100000]] (by kernel_rfl) (by kernel_rfl)) ?_
        refine tnU ?_
        exact ⟨n, Nat.lt_succ_self n, (upd v31.2 (0 + v29.1.toNat) (T_prog_Instr.mk v34.f_Op v34.f_X (v31.2.length : Int) v34.f_Set)), (v20 ++ [v31.1]), (IntKind.i64.wrap (v21 + 1)), h, by kernel_rfl⟩
      · replace h := ite_f hc27 h
        refine WpC.conv (cS [.k [0, 1, 4, 5] [1005, 62000, 100000]] (by kernel_rfl) (by kernel_rfl)) (WpC.exit ?_)
        refine thenQ_exit ?_
        have hq := Option.some.inj h
        subst hq
        refine thenQ_exit ?_
        have h := hout26
        refine blockQ_hit ?_
        refine tnU ?_
        exact ⟨v19, v20, h, by kernel_rfl⟩
  · rintro _ ⟨v1, v2, h, rfl⟩
    unfold prog_writer_alt_m0.j17 at h
    refine WpC.seq ?_
    obtain ⟨v3, hv3, h⟩ := bind_some h
    obtain ⟨v4, hv4, h⟩ := bind_some h
    refine rS { its := [(3, .v (.named 6) hv3), (5, .c (COk.ren (hrf_prog_writer_node_m0 v1 v3 v4 hv4) (fun n => if n = 60001 then 10001 else if n = 100000 then 100000 else if n = 100001 then 62000 else n) (injOn_of (by kernel_rfl))))] } [0, 5] [1005, 10001, 100000] hN (by kernel_rfl) (by kernel_rfl) ?_
    refine tnU ?_
    refine WpC.seq ?_
    refine rS {} [0, 59, 60, 61] [1005, 10001, 100000] hN (by kernel_rfl) (by kernel_rfl) ?_
    refine tnU ?_
    refine WpC.block ?_
    obtain ⟨o9, hlo9, h⟩ := bind_some h
    have hout10 := h
    clear h
    refine WpC.conv (cS [.rn 10001 62000, .k [0, 59, 60, 61] [1005, 62000, 100000]] (by kernel_rfl) (by kernel_rfl)) ?_
    refine WpC.loop (U := Un) (fun n st' => ∃ v5 : List T_prog_Instr, ∃ v6 : Int, prog_writer_alt_m0.l7 k v2 n v5 v6 = some o9 ∧ st' = ⟨[(0, .loc 100000 0), (59, .vec 1005 1 0 v2.length), (60, .p I6 ((v2.length : Int) : Int)), (61, .p I6 v6)], [(1005, .row 3 I6 v2 false), (62000, .row 43 (.named 3) v5 false), (100000, .box [.vec 62000 7 0 v5.length])]⟩) k ⟨v4, 0, hlo9, by kernel_rfl⟩ ?_
    clear hlo9
    rintro (_ | n) _ ⟨v5, v6, h, rfl⟩
    · cases h
    · rw [prog_writer_alt_m0.l7] at h
      refine WpC.seq ?_
      refine rS {} [0, 59, 60, 61, 62] [1005, 62000, 100000] hN (by kernel_rfl) (by kernel_rfl) ?_
      refine tnU ?_
      refine WpC.seq ?_
      refine tS (b := (decide (v6 < (v2.length : Int)))) (by kernel_rfl) (fun hc11 => ?_) (fun hc11 => ?_)
      · replace h := ite_t hc11 h
        refine WpC.conv (cS [.k [0, 59, 60, 61] [1005, 62000, 100000]] (by kernel_rfl) (by kernel_rfl)) (WpC.skip ?_)
        refine tnU ?_
        refine WpC.seq ?_
        refine WpC.block ?_
        refine WpC.seq ?_
        obtain ⟨g12, h⟩ := if_some h
        obtain ⟨v13, hv13, h⟩ := bind_some h
        refine rS { its := [(0, .g g12), (1, .v I6 hv13)] } [0, 10, 59, 60, 61] [1005, 62000, 100000] hN (by kernel_rfl) (by kernel_rfl) ?_
        refine tnU ?_
        obtain ⟨g14, h⟩ := if_some h
        obtain ⟨v15, hv15, h⟩ := bind_some h
        refine rAC { its := [(10, .g g14), (12, .v (.named 3) hv15)] } [0, 59, 60, 61] [1005, 62000, 100000] hN (by kernel_rfl) (by kernel_rfl) (by kernel_rfl) (cS [.k [0, 59, 60, 61] [1005, 62000, 100000], .x (Conv.cast (U := Un) (st := ⟨[(0, .loc 100000 0), (59, .vec 1005 1 0 v2.length), (60, .p I6 ((v2.length : Int) : Int)), (61, .p I6 v6)], [(1005, .row 3 I6 v2 false), (62000, .row 43 (.named 3) (upd v5 (0 + v13.toNat) (T_prog_Instr.mk v15.f_Op (v5.length : Int) v15.f_Y v15.f_Set)) false), (100000, .box [.vec 62000 7 0 v5.length])]⟩) (st' := ⟨[(0, .loc 100000 0), (59, .vec 1005 1 0 v2.length), (60, .p I6 ((v2.length : Int) : Int)), (61, .p I6 v6)], [(1005, .row 3 I6 v2 false), (62000, .row 43 (.named 3) (upd v5 (0 + v13.toNat) (T_prog_Instr.mk v15.f_Op (v5.length : Int) v15.f_Y v15.f_Set)) false), (100000, .box [.vec 62000 7 0 ((upd v5 (0 + v13.toNat) (T_prog_Instr.mk v15.f_Op (v5.length : Int) v15.f_Y v15.f_Set)).length)])]⟩) (by simp only [upd_length, List.length_nil, List.length_replicate]))] (by kernel_rfl) (by kernel_rfl)) ?_
        refine blockQ_normal ?_
        refine tnU ?_
        refine rS {} [0, 59, 60, 61] [1005, 62000, 100000] hN (by kernel_rfl) (by kernel_rfl) ?_
        refine tnU ?_
        exact ⟨n, Nat.lt_succ_self n, (upd v5 (0 + v13.toNat) (T_prog_Instr.mk v15.f_Op (v5.length : Int) v15.f_Y v15.f_Set)), (IntKind.i64.wrap (v6 + 1)), h, by kernel_rfl⟩
      · replace h := ite_f hc11 h
        refine WpC.conv (cS [.k [] [62000, 100000], .rn 62000 60001, .k [] [60001, 100000]] (by kernel_rfl) (by kernel_rfl)) (WpC.exit ?_)
        refine thenQ_exit ?_
        have hq := Option.some.inj h
        subst hq
        refine thenQ_exit ?_
        have h := hout10
        refine blockQ_hit ?_
        have hq := Option.some.inj h
        subst hq
        exact eN (by kernel_rfl) (by kernel_rfl)

theorem prog_writer_maybe_m0.bok (O : Out) (hO : GOkE O) (k : Nat) (rf_prog_writer_node_m0 : (List T_prog_Instr) → T_rex_Node → Option (List T_prog_Instr)) (hrf_prog_writer_node_m0 : ∀ (a0 : List T_prog_Instr) (a1 : T_rex_Node) (out : List T_prog_Instr), rf_prog_writer_node_m0 a0 a1 = some out → COk Un O Tryd.prog 24 { ar := [.loc 100000 0, .p (.named 6) a1], r := .tup [], bs := [(100000, .box [.vec 100001 7 0 a0.length]), (100001, .row 43 (.named 3) a0 false)], bs' := [(60001, .row 43 (.named 3) out false), (100000, .box [.vec 60001 7 0 out.length])], nn := [60001] }) (a0 : List T_prog_Instr) (a1 : T_rex_Node) (a2 : Bool) (out : List T_prog_Instr) (h : prog_writer_maybe_m0.b k rf_prog_writer_node_m0 a0 a1 a2 = some out) : COk Un O Tryd.prog 42 { ar := [.loc 100000 0, .p (.named 6) a1, .p .bool a2], r := .tup [], bs := [(100000, .box [.vec 100001 7 0 a0.length]), (100001, .row 43 (.named 3) a0 false)], bs' := [(60001, .row 43 (.named 3) out false), (100000, .box [.vec 60001 7 0 out.length])], nn := [60001] } := by
  refine cok_of_wp Tryd.func42 rfl (k := 36) rfl (Nat.le_of_ble_eq_true rfl) (namesOk_of (by kernel_rfl)) ?_
  intro B hN
  refine WpC.conv (cvK (b := ⟨[(0, .loc 100000 0), (1, .p (.named 6) a1), (2, .p .bool a2)], [(100000, .box [.vec 100001 7 0 a0.length]), (100001, .row 43 (.named 3) a0 false)]⟩) [0, 1, 2] [100000, 100001] (by kernel_rfl)) ?_
  unfold prog_writer_maybe_m0.b at h
  refine WpC.seq ?_
  refine rS {} [0, 2, 4] [4, 100000, 100001] hN (by kernel_rfl) (by kernel_rfl) ?_
  refine tnU ?_
  refine WpC.seq ?_
  obtain ⟨v1, hv1, h⟩ := bind_some h
  refine rS { its := [(8, .c (COk.ren (prog_writer_put_m0.ok O hO k a0 (T_prog_Instr.mk 1 (IntKind.i64.wrap ((a0.length : Int) + 1)) 0 (List.replicate 4 (0 : Int))) v1 hv1) (fun n => if n = 60001 then 10001 else if n = 100000 then 100000 else if n = 100001 then 100001 else n) (injOn_of (by kernel_rfl))))] } [0, 2, 4, 6] [4, 10001, 100000] hN (by kernel_rfl) (by kernel_rfl) ?_
  refine tnU ?_
  refine WpC.seq ?_
  obtain ⟨v2, hv2, h⟩ := bind_some h
  refine rS { its := [(2, .c (COk.ren (hrf_prog_writer_node_m0 v1.2 (T_rex_Node.mk a1.f_Kind a1.f_Index a1.f_Set a1.f_Kids) v2 hv2) (fun n => if n = 60001 then 10002 else if n = 100000 then 100000 else if n = 100001 then 10001 else n) (injOn_of (by kernel_rfl))))] } [0, 2, 6] [10002, 100000] hN (by kernel_rfl) (by kernel_rfl) ?_
  refine tnU ?_
  refine sqJ (fun st' => ∃ v3 : List T_prog_Instr, prog_writer_maybe_m0.j6 k v1 v3 = some out ∧ st' = ⟨[(0, .loc 100000 0), (6, .p I6 v1.1)], [(62000, .row 43 (.named 3) v3 false), (100000, .box [.vec 62000 7 0 v3.length])]⟩) ?_ ?_
  · refine WpC.seq ?_
    refine rS {} [0, 6, 19] [10002, 100000] hN (by kernel_rfl) (by kernel_rfl) ?_
    refine tnU ?_
    refine tS (b := a2) (by kernel_rfl) (fun hc7 => ?_) (fun hc7 => ?_)
    · replace h := ite_t hc7 h
      obtain ⟨v8, hv8, h⟩ := bind_some h
      refine rSC { its := [(3, .c (COk.ren (prog_writer_put_m0.ok O hO k v2 (T_prog_Instr.mk 2 v1.1 0 (List.replicate 4 (0 : Int))) v8 hv8) (fun n => if n = 60001 then 10003 else if n = 100000 then 100000 else if n = 100001 then 10002 else n) (injOn_of (by kernel_rfl))))] } [0, 6] [10003, 100000] hN (by kernel_rfl) (by kernel_rfl) (cS [.rn 10003 62000, .k [0, 6] [62000, 100000]] (by kernel_rfl) (by kernel_rfl)) ?_
      refine tnU ?_
      exact ⟨v8.2, h, by kernel_rfl⟩
    · replace h := ite_f hc7 h
      refine WpC.conv (cS [.k [0, 6] [10002, 100000], .rn 10002 62000, .k [0, 6] [62000, 100000]] (by kernel_rfl) (by kernel_rfl)) (WpC.skip ?_)
      refine tnU ?_
      exact ⟨v2, h, by kernel_rfl⟩
  · rintro _ ⟨v3, h, rfl⟩
    unfold prog_writer_maybe_m0.j6 at h
    obtain ⟨g4, h⟩ := if_some h
    obtain ⟨v5, hv5, h⟩ := bind_some h
    refine rAC { its := [(10, .g g4), (12, .v (.named 3) hv5)] } [] [62000, 100000] hN (by kernel_rfl) (by kernel_rfl) (by kernel_rfl) (cS [.k [] [62000, 100000], .x (Conv.cast (U := Un) (st := ⟨[], [(62000, .row 43 (.named 3) (upd v3 (0 + v1.1.toNat) (T_prog_Instr.mk v5.f_Op v5.f_X (v3.length : Int) v5.f_Set)) false), (100000, .box [.vec 62000 7 0 v3.length])]⟩) (st' := ⟨[], [(62000, .row 43 (.named 3) (upd v3 (0 + v1.1.toNat) (T_prog_Instr.mk v5.f_Op v5.f_X (v3.length : Int) v5.f_Set)) false), (100000, .box [.vec 62000 7 0 ((upd v3 (0 + v1.1.toNat) (T_prog_Instr.mk v5.f_Op v5.f_X (v3.length : Int) v5.f_Set)).length)])]⟩) (by simp only [upd_length, List.length_nil, List.length_replicate])), .rn 62000 60001, .k [] [60001, 100000]] (by kernel_rfl) (by kernel_rfl)) ?_
    have hq := Option.some.inj h
    subst hq
    exact eN (by kernel_rfl) (by kernel_rfl)

theorem prog_writer_node_m0.bok (O : Out) (hO : GOkE O) (k : Nat) (rf_prog_writer_node_m0 : (List T_prog_Instr) → T_rex_Node → Option (List T_prog_Instr)) (rf_prog_writer_alt_m0 : (List T_prog_Instr) → (List T_rex_Node) → Option (List T_prog_Instr)) (rf_prog_writer_maybe_m0 : (List T_prog_Instr) → T_rex_Node → Bool → Option (List T_prog_Instr)) (hrf_prog_writer_node_m0 : ∀ (a0 : List T_prog_Instr) (a1 : T_rex_Node) (out : List T_prog_Instr), rf_prog_writer_node_m0 a0 a1 = some out → COk Un O Tryd.prog 24 { ar := [.loc 100000 0, .p (.named 6) a1], r := .tup [], bs := [(100000, .box [.vec 100001 7 0 a0.length]), (100001, .row 43 (.named 3) a0 false)], bs' := [(60001, .row 43 (.named 3) out false), (100000, .box [.vec 60001 7 0 out.length])], nn := [60001] }) (hrf_prog_writer_alt_m0 : ∀ (a0 : List T_prog_Instr) (a1 : List T_rex_Node) (out : List T_prog_Instr), rf_prog_writer_alt_m0 a0 a1 = some out → COk Un O Tryd.prog 41 { ar := [.loc 100000 0, .p (.list (.named 6)) a1], r := .tup [], bs := [(100000, .box [.vec 100001 7 0 a0.length]), (100001, .row 43 (.named 3) a0 false)], bs' := [(60001, .row 43 (.named 3) out false), (100000, .box [.vec 60001 7 0 out.length])], nn := [60001] }) (hrf_prog_writer_maybe_m0 : ∀ (a0 : List T_prog_Instr) (a1 : T_rex_Node) (a2 : Bool) (out : List T_prog_Instr), rf_prog_writer_maybe_m0 a0 a1 a2 = some out → COk Un O Tryd.prog 42 { ar := [.loc 100000 0, .p (.named 6) a1, .p .bool a2], r := .tup [], bs := [(100000, .box [.vec 100001 7 0 a0.length]), (100001, .row 43 (.named 3) a0 false)], bs' := [(60001, .row 43 (.named 3) out false), (100000, .box [.vec 60001 7 0 out.length])], nn := [60001] }) (a0 : List T_prog_Instr) (a1 : T_rex_Node) (out : List T_prog_Instr) (h : prog_writer_node_m0.b k rf_prog_writer_node_m0 rf_prog_writer_alt_m0 rf_prog_writer_maybe_m0 a0 a1 = some out) : COk Un O Tryd.prog 24 { ar := [.loc 100000 0, .p (.named 6) a1], r := .tup [], bs := [(100000, .box [.vec 100001 7 0 a0.length]), (100001, .row 43 (.named 3) a0 false)], bs' := [(60001, .row 43 (.named 3) out false), (100000, .box [.vec 60001 7 0 out.length])], nn := [60001] } := by
  refine cok_of_wp Tryd.func24 rfl (k := 101) rfl (Nat.le_of_ble_eq_true rfl) (namesOk_of (by kernel_rfl)) ?_
  intro B hN
  refine WpC.conv (cvK (b := ⟨[(0, .loc 100000 0), (1, .p (.named 6) a1)], [(100000, .box [.vec 100001 7 0 a0.length]), (100001, .row 43 (.named 3) a0 false)]⟩) [0, 1] [100000, 100001] (by kernel_rfl)) ?_
  unfold prog_writer_node_m0.b at h
  refine WpC.seq ?_
  refine rS {} [0, 3] [3, 100000, 100001] hN (by kernel_rfl) (by kernel_rfl) ?_
  refine tnU ?_
  refine WpC.seq ?_
  refine rS {} [0, 3, 8] [3, 100000, 100001] hN (by kernel_rfl) (by kernel_rfl) ?_
  refine tnU ?_
  refine WpC.block ?_
  refine WpC.seq ?_
  refine rS {} [0, 3, 8, 9] [3, 100000, 100001] hN (by kernel_rfl) (by kernel_rfl) ?_
  refine tnU ?_
  refine tS (b := (a1.f_Kind == 1)) (by kernel_rfl) (fun hc1 => ?_) (fun hc1 => ?_)
  · replace h := ite_t hc1 h
    obtain ⟨v2, hv2, h⟩ := bind_some h
    refine rSC { its := [(4, .c (COk.ren (prog_writer_put_m0.ok O hO k a0 (T_prog_Instr.mk 0 0 0 a1.f_Set) v2 hv2) (fun n => if n = 60001 then 10001 else if n = 100000 then 100000 else if n = 100001 then 100001 else n) (injOn_of (by kernel_rfl))))] } [] [10001, 100000] hN (by kernel_rfl) (by kernel_rfl) (cS [.rn 10001 60001, .k [] [60001, 100000]] (by kernel_rfl) (by kernel_rfl)) ?_
    refine blockQ_normal ?_
    have hq := Option.some.inj h
    subst hq
    exact eN (by kernel_rfl) (by kernel_rfl)
  · replace h := ite_f hc1 h
    refine WpC.seq ?_
    refine rS {} [0, 3, 8, 16] [3, 100000, 100001] hN (by kernel_rfl) (by kernel_rfl) ?_
    refine tnU ?_
    refine tS (b := (a1.f_Kind == 2)) (by kernel_rfl) (fun hc3 => ?_) (fun hc3 => ?_)
    · replace h := ite_t hc3 h
      refine WpC.seq ?_
      refine rS {} [0, 19, 20, 21] [100000, 100001] hN (by kernel_rfl) (by kernel_rfl) ?_
      refine tnU ?_
      refine WpC.block ?_
      obtain ⟨o8, hlo8, h⟩ := bind_some h
      have hout9 := h
      clear h
      refine WpC.conv (cS [.rn 100001 62000, .k [0, 19, 20, 21] [62000, 100000]] (by kernel_rfl) (by kernel_rfl)) ?_
      refine WpC.loop (U := Un) (fun n st' => ∃ v4 : List T_prog_Instr, ∃ v5 : Int, prog_writer_node_m0.l6 k rf_prog_writer_node_m0 a1 n v4 v5 = some o8 ∧ st' = ⟨[(0, .loc 100000 0), (19, .p (.list (.named 6)) a1.f_Kids), (20, .p I6 ((a1.f_Kids.length : Int) : Int)), (21, .p I6 v5)], [(62000, .row 43 (.named 3) v4 false), (100000, .box [.vec 62000 7 0 v4.length])]⟩) k ⟨a0, 0, hlo8, by kernel_rfl⟩ ?_
      clear hlo8
      rintro (_ | n) _ ⟨v4, v5, h, rfl⟩
      · cases h
      · rw [prog_writer_node_m0.l6] at h
        refine WpC.seq ?_
        refine rS {} [0, 19, 20, 21, 22] [62000, 100000] hN (by kernel_rfl) (by kernel_rfl) ?_
        refine tnU ?_
        refine WpC.seq ?_
        refine tS (b := (decide (v5 < (a1.f_Kids.length : Int)))) (by kernel_rfl) (fun hc10 => ?_) (fun hc10 => ?_)
        · replace h := ite_t hc10 h
          refine WpC.conv (cS [.k [0, 19, 20, 21] [62000, 100000]] (by kernel_rfl) (by kernel_rfl)) (WpC.skip ?_)
          refine tnU ?_
          refine WpC.seq ?_
          refine WpC.block ?_
          refine WpC.seq ?_
          obtain ⟨v11, hv11, h⟩ := bind_some h
          refine rS { its := [(0, .v (.named 6) hv11)] } [0, 5, 19, 20, 21] [5, 62000, 100000] hN (by kernel_rfl) (by kernel_rfl) ?_
          refine tnU ?_
          obtain ⟨v12, hv12, h⟩ := bind_some h
          refine rS { its := [(2, .c (COk.ren (hrf_prog_writer_node_m0 v4 (T_rex_Node.mk v11.f_Kind v11.f_Index v11.f_Set v11.f_Kids) v12 hv12) (fun n => if n = 60001 then 10002 else if n = 100000 then 100000 else if n = 100001 then 62000 else n) (injOn_of (by kernel_rfl))))] } [0, 19, 20, 21] [10002, 100000] hN (by kernel_rfl) (by kernel_rfl) ?_
          refine blockQ_normal ?_
          refine tnU ?_
          refine rSC {} [0, 19, 20, 21] [10002, 100000] hN (by kernel_rfl) (by kernel_rfl) (cS [.rn 10002 62000, .k [0, 19, 20, 21] [62000, 100000]] (by kernel_rfl) (by kernel_rfl)) ?_
          refine tnU ?_
          exact ⟨n, Nat.lt_succ_self n, v12, (IntKind.i64.wrap (v5 + 1)), h, by kernel_rfl⟩
        · replace h := ite_f hc10 h
          refine WpC.conv (cS [.k [] [62000, 100000], .rn 62000 60001, .k [] [60001, 100000]] (by kernel_rfl) (by kernel_rfl)) (WpC.exit ?_)
          refine thenQ_exit ?_
          have hq := Option.some.inj h
          subst hq
          refine thenQ_exit ?_
          have h := hout9
          refine blockQ_hit ?_
          refine blockQ_normal ?_
          have hq := Option.some.inj h
          subst hq
          exact eN (by kernel_rfl) (by kernel_rfl)
    · replace h := ite_f hc3 h
      refine WpC.seq ?_
      refine rS {} [0, 3, 8, 29] [3, 100000, 100001] hN (by kernel_rfl) (by kernel_rfl) ?_
      refine tnU ?_
      refine tS (b := (a1.f_Kind == 3)) (by kernel_rfl) (fun hc14 => ?_) (fun hc14 => ?_)
      · replace h := ite_t hc14 h
        obtain ⟨v15, hv15, h⟩ := bind_some h
        refine rSC { its := [(3, .c (COk.ren (hrf_prog_writer_alt_m0 a0 a1.f_Kids v15 hv15) (fun n => if n = 60001 then 10003 else if n = 100000 then 100000 else if n = 100001 then 100001 else n) (injOn_of (by kernel_rfl))))] } [] [10003, 100000] hN (by kernel_rfl) (by kernel_rfl) (cS [.rn 10003 60001, .k [] [60001, 100000]] (by kernel_rfl) (by kernel_rfl)) ?_
        refine blockQ_normal ?_
        have hq := Option.some.inj h
        subst hq
        exact eN (by kernel_rfl) (by kernel_rfl)
      · replace h := ite_f hc14 h
        refine sqJ (fun st' => ∃ v16 : Bool, prog_writer_node_m0.j33 k rf_prog_writer_node_m0 rf_prog_writer_maybe_m0 a0 a1 v16 = some out ∧ st' = ⟨[(0, .loc 100000 0), (3, .loc 3 0), (8, .p I6 a1.f_Kind), (35, .p .bool v16)], [(3, .box [.p I6 a1.f_Kind, .p I6 a1.f_Index, .p U6 a1.f_Set, .p (.list (.named 6)) a1.f_Kids]), (100000, .box [.vec 100001 7 0 a0.length]), (100001, .row 43 (.named 3) a0 false)]⟩) ?_ ?_
        · refine WpC.seq ?_
          refine rS {} [0, 3, 8, 35] [3, 100000, 100001] hN (by kernel_rfl) (by kernel_rfl) ?_
          refine tnU ?_
          refine tS (b := (a1.f_Kind == 4)) (by kernel_rfl) (fun hc34 => ?_) (fun hc34 => ?_)
          · replace h := ite_t hc34 h
            refine WpC.skip ?_
            refine tnU ?_
            exact ⟨(a1.f_Kind == 4), h, by kernel_rfl⟩
          · replace h := ite_f hc34 h
            refine rS {} [0, 3, 8, 35] [3, 100000, 100001] hN (by kernel_rfl) (by kernel_rfl) ?_
            refine tnU ?_
            exact ⟨(a1.f_Kind == 6), h, by kernel_rfl⟩
        · rintro _ ⟨v16, h, rfl⟩
          unfold prog_writer_node_m0.j33 at h
          refine tS (b := v16) (by kernel_rfl) (fun hc17 => ?_) (fun hc17 => ?_)
          · replace h := ite_t hc17 h
            obtain ⟨v18, hv18, h⟩ := bind_some h
            obtain ⟨v19, hv19, h⟩ := bind_some h
            refine rAC { its := [(3, .v (.named 6) hv18), (8, .c (COk.ren (hrf_prog_writer_maybe_m0 a0 v18 (a1.f_Kind == 4) v19 hv19) (fun n => if n = 60001 then 10004 else if n = 100000 then 100000 else if n = 100001 then 100001 else n) (injOn_of (by kernel_rfl))))] } [] [10004, 100000] hN (by kernel_rfl) (by kernel_rfl) (by kernel_rfl) (cS [.rn 10004 60001, .k [] [60001, 100000]] (by kernel_rfl) (by kernel_rfl)) ?_
            refine blockQ_normal ?_
            have hq := Option.some.inj h
            subst hq
            exact eN (by kernel_rfl) (by kernel_rfl)
          · replace h := ite_f hc17 h
            refine WpC.seq ?_
            refine rS {} [0, 3, 8, 47] [3, 100000, 100001] hN (by kernel_rfl) (by kernel_rfl) ?_
            refine tnU ?_
            refine tS (b := (a1.f_Kind == 5)) (by kernel_rfl) (fun hc20 => ?_) (fun hc20 => ?_)
            · replace h := ite_t hc20 h
              refine WpC.seq ?_
              refine rS {} [0, 3, 6] [3, 100000, 100001] hN (by kernel_rfl) (by kernel_rfl) ?_
              refine tnU ?_
              refine WpC.seq ?_
              obtain ⟨v21, hv21, h⟩ := bind_some h
              obtain ⟨v22, hv22, h⟩ := bind_some h
              refine rS { its := [(3, .v (.named 6) hv21), (5, .c (COk.ren (hrf_prog_writer_node_m0 a0 v21 v22 hv22) (fun n => if n = 60001 then 10005 else if n = 100000 then 100000 else if n = 100001 then 100001 else n) (injOn_of (by kernel_rfl))))] } [0, 6] [10005, 100000] hN (by kernel_rfl) (by kernel_rfl) ?_
              refine tnU ?_
              obtain ⟨v23, hv23, h⟩ := bind_some h
              refine rSC { its := [(9, .c (COk.ren (prog_writer_put_m0.ok O hO k v22 (T_prog_Instr.mk 1 (a0.length : Int) (IntKind.i64.wrap ((v22.length : Int) + 1)) (List.replicate 4 (0 : Int))) v23 hv23) (fun n => if n = 60001 then 10006 else if n = 100000 then 100000 else if n = 100001 then 10005 else n) (injOn_of (by kernel_rfl))))] } [] [10006, 100000] hN (by kernel_rfl) (by kernel_rfl) (cS [.rn 10006 60001, .k [] [60001, 100000]] (by kernel_rfl) (by kernel_rfl)) ?_
              refine blockQ_normal ?_
              have hq := Option.some.inj h
              subst hq
              exact eN (by kernel_rfl) (by kernel_rfl)
            · replace h := ite_f hc20 h
              refine WpC.seq ?_
              refine rS {} [0, 3, 8, 70] [3, 100000, 100001] hN (by kernel_rfl) (by kernel_rfl) ?_
              refine tnU ?_
              refine tS (b := (a1.f_Kind == 7)) (by kernel_rfl) (fun hc24 => ?_) (fun hc24 => ?_)
              · replace h := ite_t hc24 h
                refine WpC.seq ?_
                obtain ⟨v25, hv25, h⟩ := bind_some h
                refine rS { its := [(5, .c (COk.ren (prog_writer_put_m0.ok O hO k a0 (T_prog_Instr.mk 3 (IntKind.i64.wrap (2 * a1.f_Index)) 0 (List.replicate 4 (0 : Int))) v25 hv25) (fun n => if n = 60001 then 10007 else if n = 100000 then 100000 else if n = 100001 then 100001 else n) (injOn_of (by kernel_rfl))))] } [0, 3] [3, 10007, 100000] hN (by kernel_rfl) (by kernel_rfl) ?_
                refine tnU ?_
                refine WpC.seq ?_
                obtain ⟨v26, hv26, h⟩ := bind_some h
                obtain ⟨v27, hv27, h⟩ := bind_some h
                refine rS { its := [(3, .v (.named 6) hv26), (5, .c (COk.ren (hrf_prog_writer_node_m0 v25.2 v26 v27 hv27) (fun n => if n = 60001 then 10008 else if n = 100000 then 100000 else if n = 100001 then 10007 else n) (injOn_of (by kernel_rfl))))] } [0, 3] [3, 10008, 100000] hN (by kernel_rfl) (by kernel_rfl) ?_
                refine tnU ?_
                obtain ⟨v28, hv28, h⟩ := bind_some h
                refine rSC { its := [(6, .c (COk.ren (prog_writer_put_m0.ok O hO k v27 (T_prog_Instr.mk 3 (IntKind.i64.wrap ((IntKind.i64.wrap (2 * a1.f_Index)) + 1)) 0 (List.replicate 4 (0 : Int))) v28 hv28) (fun n => if n = 60001 then 10009 else if n = 100000 then 100000 else if n = 100001 then 10008 else n) (injOn_of (by kernel_rfl))))] } [] [10009, 100000] hN (by kernel_rfl) (by kernel_rfl) (cS [.rn 10009 60001, .k [] [60001, 100000]] (by kernel_rfl) (by kernel_rfl)) ?_
                refine blockQ_normal ?_
                have hq := Option.some.inj h
                subst hq
                exact eN (by kernel_rfl) (by kernel_rfl)
              · replace h := ite_f hc24 h
                refine WpC.seq ?_
                refine rS {} [0, 8, 91] [100000, 100001] hN (by kernel_rfl) (by kernel_rfl) ?_
                refine tnU ?_
                refine tS (b := (a1.f_Kind == 8)) (by kernel_rfl) (fun hc29 => ?_) (fun hc29 => ?_)
                · replace h := ite_t hc29 h
                  obtain ⟨v30, hv30, h⟩ := bind_some h
                  refine rSC { its := [(2, .c (COk.ren (prog_writer_put_m0.ok O hO k a0 (T_prog_Instr.mk 4 0 0 (List.replicate 4 (0 : Int))) v30 hv30) (fun n => if n = 60001 then 10010 else if n = 100000 then 100000 else if n = 100001 then 100001 else n) (injOn_of (by kernel_rfl))))] } [] [10010, 100000] hN (by kernel_rfl) (by kernel_rfl) (cS [.rn 10010 60001, .k [] [60001, 100000]] (by kernel_rfl) (by kernel_rfl)) ?_
                  refine blockQ_normal ?_
                  have hq := Option.some.inj h
                  subst hq
                  exact eN (by kernel_rfl) (by kernel_rfl)
                · replace h := ite_f hc29 h
                  refine WpC.seq ?_
                  refine rS {} [0, 96] [100000, 100001] hN (by kernel_rfl) (by kernel_rfl) ?_
                  refine tnU ?_
                  refine tS (b := (a1.f_Kind == 9)) (by kernel_rfl) (fun hc31 => ?_) (fun hc31 => ?_)
                  · replace h := ite_t hc31 h
                    obtain ⟨v32, hv32, h⟩ := bind_some h
                    refine rSC { its := [(2, .c (COk.ren (prog_writer_put_m0.ok O hO k a0 (T_prog_Instr.mk 5 0 0 (List.replicate 4 (0 : Int))) v32 hv32) (fun n => if n = 60001 then 10011 else if n = 100000 then 100000 else if n = 100001 then 100001 else n) (injOn_of (by kernel_rfl))))] } [] [10011, 100000] hN (by kernel_rfl) (by kernel_rfl) (cS [.rn 10011 60001, .k [] [60001, 100000]] (by kernel_rfl) (by kernel_rfl)) ?_
                    refine blockQ_normal ?_
                    have hq := Option.some.inj h
                    subst hq
                    exact eN (by kernel_rfl) (by kernel_rfl)
                  · replace h := ite_f hc31 h
                    refine WpC.conv (cS [.k [] [100000, 100001], .rn 100001 60001, .k [] [60001, 100000]] (by kernel_rfl) (by kernel_rfl)) (WpC.skip ?_)
                    refine blockQ_normal ?_
                    have hq := Option.some.inj h
                    subst hq
                    exact eN (by kernel_rfl) (by kernel_rfl)

theorem scc_prog_writer_node_m0.ok (O : Out) (hO : GOkE O) : ∀ k : Nat, (∀ (a0 : List T_prog_Instr) (a1 : List T_rex_Node) (out : List T_prog_Instr), prog_writer_alt_m0.f k a0 a1 = some out → COk Un O Tryd.prog 41 { ar := [.loc 100000 0, .p (.list (.named 6)) a1], r := .tup [], bs := [(100000, .box [.vec 100001 7 0 a0.length]), (100001, .row 43 (.named 3) a0 false)], bs' := [(60001, .row 43 (.named 3) out false), (100000, .box [.vec 60001 7 0 out.length])], nn := [60001] }) ∧ (∀ (a0 : List T_prog_Instr) (a1 : T_rex_Node) (a2 : Bool) (out : List T_prog_Instr), prog_writer_maybe_m0.f k a0 a1 a2 = some out → COk Un O Tryd.prog 42 { ar := [.loc 100000 0, .p (.named 6) a1, .p .bool a2], r := .tup [], bs := [(100000, .box [.vec 100001 7 0 a0.length]), (100001, .row 43 (.named 3) a0 false)], bs' := [(60001, .row 43 (.named 3) out false), (100000, .box [.vec 60001 7 0 out.length])], nn := [60001] }) ∧ (∀ (a0 : List T_prog_Instr) (a1 : T_rex_Node) (out : List T_prog_Instr), prog_writer_node_m0.f k a0 a1 = some out → COk Un O Tryd.prog 24 { ar := [.loc 100000 0, .p (.named 6) a1], r := .tup [], bs := [(100000, .box [.vec 100001 7 0 a0.length]), (100001, .row 43 (.named 3) a0 false)], bs' := [(60001, .row 43 (.named 3) out false), (100000, .box [.vec 60001 7 0 out.length])], nn := [60001] }) := by
  intro k
  induction k with
  | zero => exact ⟨fun a0 a1 out h => (by have h2 : (none : Option (List T_prog_Instr)) = some out := h; cases h2), fun a0 a1 a2 out h => (by have h2 : (none : Option (List T_prog_Instr)) = some out := h; cases h2), fun a0 a1 out h => (by have h2 : (none : Option (List T_prog_Instr)) = some out := h; cases h2)⟩
  | succ k ih => exact ⟨fun a0 a1 out h => prog_writer_alt_m0.bok O hO k _ ih.2.2 a0 a1 out h, fun a0 a1 a2 out h => prog_writer_maybe_m0.bok O hO k _ ih.2.2 a0 a1 a2 out h, fun a0 a1 out h => prog_writer_node_m0.bok O hO k _ _ _ ih.2.2 ih.1 ih.2.1 a0 a1 out h⟩
theorem prog_writer_node_m0.ok (O : Out) (hO : GOkE O) (k : Nat) (a0 : List T_prog_Instr) (a1 : T_rex_Node) (out : List T_prog_Instr) (h : prog_writer_node_m0.f k a0 a1 = some out) : COk Un O Tryd.prog 24 { ar := [.loc 100000 0, .p (.named 6) a1], r := .tup [], bs := [(100000, .box [.vec 100001 7 0 a0.length]), (100001, .row 43 (.named 3) a0 false)], bs' := [(60001, .row 43 (.named 3) out false), (100000, .box [.vec 60001 7 0 out.length])], nn := [60001] } := (scc_prog_writer_node_m0.ok O hO k).2.2 a0 a1 out h

end Go.Proofs.YtpcobejkpbalcaaDoor
