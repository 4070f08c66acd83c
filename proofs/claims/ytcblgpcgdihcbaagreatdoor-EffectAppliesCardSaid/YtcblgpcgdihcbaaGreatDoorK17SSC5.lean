/- A part of the proof of a given law: SSC5. Own work, printed in part by a program of mine. -/
import Derived.Test.YtcblgpcgdihcbaaGreatDoorK17SSC4
namespace Go.Proofs.YtcblgpcgdihcbaaGreatDoor
open Go Go.AM
set_option linter.unusedVariables false
set_option linter.unusedSimpArgs false
set_option maxRecDepth 100000
theorem millwrightref05_Check.ok (O : Out) (hO : GOk O) (k : Nat) (a0 : T_effect_Effect) (out : Int) (h : millwrightref05_Check.f k a0 = some out) : COk Un O Tryz.prog 36 { ar := [.p (.named 4) a0], r := .p I6 out } := by
  refine cok_of_wp Tryz.func36 rfl (k := 41) rfl (Nat.le_of_ble_eq_true rfl) (namesOk_pure rfl rfl rfl rfl) ?_
  intro B hN
  refine WpC.conv (cvK (b := ⟨[(0, .p (.named 4) a0)], []⟩) [0] [] (by kernel_rfl)) ?_
  unfold millwrightref05_Check.f at h
  refine WpC.seq ?_
  refine rS {} [1] [1] hN (by kernel_rfl) (by kernel_rfl) ?_
  refine tnU ?_
  refine sqJ (fun st' => millwrightref05_Check.j12 k a0 = some out ∧ st' = ⟨[(1, .loc 1 0)], [(1, .box [.p I6 a0.f_Op, .p .str a0.f_Name, .p .str a0.f_Text])]⟩) ?_ ?_
  · refine sqJ (fun st' => ∃ v13 : Bool, millwrightref05_Check.j15 k a0 v13 = some out ∧ st' = ⟨[(1, .loc 1 0), (18, .p .bool v13)], [(1, .box [.p I6 a0.f_Op, .p .str a0.f_Name, .p .str a0.f_Text])]⟩) ?_ ?_
    · rcases bool_cases (a0.f_Op != 1) with hc16 | hc16
      · replace h := ite_t hc16 h
        rcases bool_cases (a0.f_Op != 2) with hc17 | hc17
        · replace h := ite_t hc17 h
          refine rS { kn := [(9, .t hc16), (14, .t hc17)] } [1, 18] [1] hN (by kernel_rfl) (by kernel_rfl) ?_
          refine tnU ?_
          exact ⟨(a0.f_Op != 3), h, by kernel_rfl⟩
        · replace h := ite_f hc17 h
          refine rS { kn := [(9, .t hc16), (14, .f hc17)] } [1, 18] [1] hN (by kernel_rfl) (by kernel_rfl) ?_
          refine tnU ?_
          exact ⟨false, h, by kernel_rfl⟩
      · replace h := ite_f hc16 h
        refine rS { kn := [(9, .f hc16)] } [1, 18] [1] hN (by kernel_rfl) (by kernel_rfl) ?_
        refine tnU ?_
        exact ⟨false, h, by kernel_rfl⟩
    · rintro _ ⟨v13, h, rfl⟩
      unfold millwrightref05_Check.j15 at h
      refine tS (b := v13) (by kernel_rfl) (fun hc14 => ?_) (fun hc14 => ?_)
      · replace h := ite_t hc14 h
        refine WpC.seq ?_
        refine rS {} [2] [] hN (by kernel_rfl) (by kernel_rfl) ?_
        refine tnU ?_
        refine WpC.ret ?_
        refine thenQ_ret ?_
        have hq := Option.some.inj h
        subst hq
        exact eR (by kernel_rfl) (by kernel_rfl)
      · replace h := ite_f hc14 h
        refine WpC.conv (cS [.k [1] [1]] (by kernel_rfl) (by kernel_rfl)) (WpC.skip ?_)
        refine tnU ?_
        exact ⟨h, by kernel_rfl⟩
  · rintro _ ⟨h, rfl⟩
    unfold millwrightref05_Check.j12 at h
    refine sqJ (fun st' => millwrightref05_Check.j6 k a0 = some out ∧ st' = ⟨[(1, .loc 1 0)], [(1, .box [.p I6 a0.f_Op, .p .str a0.f_Name, .p .str a0.f_Text])]⟩) ?_ ?_
    · refine WpC.seq ?_
      obtain ⟨v7, hv7, h⟩ := bind_some h
      refine rS { its := [(2, .c (millwrightref01_Member.ok O hO k a0.f_Name v7 hv7))] } [1, 5] [1] hN (by kernel_rfl) (by kernel_rfl) ?_
      refine tnU ?_
      refine sqJ (fun st' => ∃ v8 : Bool, millwrightref05_Check.j10 k a0 v8 = some out ∧ st' = ⟨[(1, .loc 1 0), (31, .p .bool v8)], [(1, .box [.p I6 a0.f_Op, .p .str a0.f_Name, .p .str a0.f_Text])]⟩) ?_ ?_
      · rcases bool_cases v7.2.2 with hc11 | hc11
        · replace h := ite_t hc11 h
          refine rS { kn := [(27, .t hc11)] } [1, 31] [1] hN (by kernel_rfl) (by kernel_rfl) ?_
          refine tnU ?_
          exact ⟨(a0.f_Op != 2), h, by kernel_rfl⟩
        · replace h := ite_f hc11 h
          refine rS { kn := [(27, .f hc11)] } [1, 31] [1] hN (by kernel_rfl) (by kernel_rfl) ?_
          refine tnU ?_
          exact ⟨false, h, by kernel_rfl⟩
      · rintro _ ⟨v8, h, rfl⟩
        unfold millwrightref05_Check.j10 at h
        refine tS (b := v8) (by kernel_rfl) (fun hc9 => ?_) (fun hc9 => ?_)
        · replace h := ite_t hc9 h
          refine WpC.seq ?_
          refine rS {} [2] [] hN (by kernel_rfl) (by kernel_rfl) ?_
          refine tnU ?_
          refine WpC.ret ?_
          refine thenQ_ret ?_
          have hq := Option.some.inj h
          subst hq
          exact eR (by kernel_rfl) (by kernel_rfl)
        · replace h := ite_f hc9 h
          refine WpC.conv (cS [.k [1] [1]] (by kernel_rfl) (by kernel_rfl)) (WpC.skip ?_)
          refine tnU ?_
          exact ⟨h, by kernel_rfl⟩
    · rintro _ ⟨h, rfl⟩
      unfold millwrightref05_Check.j6 at h
      refine sqJ (fun st' => millwrightref05_Check.j1 k = some out ∧ st' = ⟨[], []⟩) ?_ ?_
      · refine sqJ (fun st' => ∃ v2 : Bool, millwrightref05_Check.j4 k v2 = some out ∧ st' = ⟨[(40, .p .bool v2)], []⟩) ?_ ?_
        · rcases bool_cases (a0.f_Op != 1) with hc5 | hc5
          · replace h := ite_t hc5 h
            refine rS { kn := [(35, .t hc5)] } [40] [] hN (by kernel_rfl) (by kernel_rfl) ?_
            refine tnU ?_
            exact ⟨(decide ((a0.f_Text.length : Int) > 0)), h, by kernel_rfl⟩
          · replace h := ite_f hc5 h
            refine rS { kn := [(35, .f hc5)] } [40] [] hN (by kernel_rfl) (by kernel_rfl) ?_
            refine tnU ?_
            exact ⟨false, h, by kernel_rfl⟩
        · rintro _ ⟨v2, h, rfl⟩
          unfold millwrightref05_Check.j4 at h
          refine tS (b := v2) (by kernel_rfl) (fun hc3 => ?_) (fun hc3 => ?_)
          · replace h := ite_t hc3 h
            refine WpC.seq ?_
            refine rS {} [2] [] hN (by kernel_rfl) (by kernel_rfl) ?_
            refine tnU ?_
            refine WpC.ret ?_
            refine thenQ_ret ?_
            have hq := Option.some.inj h
            subst hq
            exact eR (by kernel_rfl) (by kernel_rfl)
          · replace h := ite_f hc3 h
            refine WpC.conv (cS [.k [] []] (by kernel_rfl) (by kernel_rfl)) (WpC.skip ?_)
            refine tnU ?_
            exact ⟨h, by kernel_rfl⟩
      · rintro _ ⟨h, rfl⟩
        unfold millwrightref05_Check.j1 at h
        refine WpC.seq ?_
        refine rS {} [2] [] hN (by kernel_rfl) (by kernel_rfl) ?_
        refine tnU ?_
        refine WpC.ret ?_
        have hq := Option.some.inj h
        subst hq
        exact eR (by kernel_rfl) (by kernel_rfl)

theorem millwrightref02_Tree_Remove_m0.ok (O : Out) (hO : GOk O) (k : Nat) (a0 : List T_tree_File) (a1 : List UInt8) (out : Int × (List T_tree_File)) (h : millwrightref02_Tree_Remove_m0.f k a0 a1 = some out) : COk Un O Tryz.prog 83 { ar := [.loc 100000 0, .p .str a1], r := .p I6 out.1, bs := [(100000, .box [.p (.list (.named 3)) a0])], bs' := [(100000, .box [.p (.list (.named 3)) out.2])] } := by
  refine cok_of_wp Tryz.func83 rfl (k := 30) rfl (Nat.le_of_ble_eq_true rfl) (namesOk_of (by kernel_rfl)) ?_
  intro B hN
  refine WpC.conv (cvK (b := ⟨[(0, .loc 100000 0), (1, .p .str a1)], [(100000, .box [.p (.list (.named 3)) a0])]⟩) [0, 1] [100000] (by kernel_rfl)) ?_
  unfold millwrightref02_Tree_Remove_m0.f at h
  refine WpC.seq ?_
  refine rS {} [0, 1] [100000] hN (by kernel_rfl) (by kernel_rfl) ?_
  refine tnU ?_
  refine WpC.seq ?_
  obtain ⟨v1, hv1, h⟩ := bind_some h
  refine rS { its := [(2, .c (COk.ren (millwrightref02_Tree_At_m0.ok O hO k a0 a1 v1 hv1) (fun n => if n = 100000 then 100000 else n) (injOn_of (by kernel_rfl))))] } [0, 5] [100000] hN (by kernel_rfl) (by kernel_rfl) ?_
  refine tnU ?_
  refine WpC.seq ?_
  refine WpC.seq ?_
  refine rS {} [0, 5, 10] [100000] hN (by kernel_rfl) (by kernel_rfl) ?_
  refine tnU ?_
  refine tS (b := (decide (v1 < 0))) (by kernel_rfl) (fun hc2 => ?_) (fun hc2 => ?_)
  · replace h := ite_t hc2 h
    refine WpC.seq ?_
    refine rS {} [4] [100000] hN (by kernel_rfl) (by kernel_rfl) ?_
    refine tnU ?_
    refine WpC.ret ?_
    refine thenQ_ret ?_
    have hq := Option.some.inj h
    subst hq
    exact eR (by kernel_rfl) (by kernel_rfl)
  · replace h := ite_f hc2 h
    refine WpC.conv (cS [.k [0, 5] [100000]] (by kernel_rfl) (by kernel_rfl)) (WpC.skip ?_)
    refine tnU ?_
    refine WpC.seq ?_
    obtain ⟨v3, hv3, h⟩ := bind_some h
    obtain ⟨g4, h⟩ := if_some h
    obtain ⟨v5, hv5, h⟩ := bind_some h
    obtain ⟨g6, h⟩ := if_some h
    refine rA { its := [(7, .v (.list (.named 3)) hv3), (8, .g g4), (15, .v (.list (.named 3)) hv5), (16, .g g6)] } [] [27, 100000] hN (by kernel_rfl) (by kernel_rfl) (by kernel_rfl) ?_
    refine tnU ?_
    refine WpC.seq ?_
    refine rS {} [4] [27, 100000] hN (by kernel_rfl) (by kernel_rfl) ?_
    refine tnU ?_
    refine WpC.conv (cS [.fu 100000 0, .k [4] [100000]] (by kernel_rfl) (by kernel_rfl)) (WpC.ret ?_)
    have hq := Option.some.inj h
    subst hq
    exact eR (by kernel_rfl) (by kernel_rfl)

theorem millwrightref05_Do_m0.ok (O : Out) (hO : GOk O) (k : Nat) (a0 : List T_tree_File) (a1 : Int) (a2 : T_effect_Effect) (out : Int × (List T_tree_File)) (h : millwrightref05_Do_m0.f k a0 a1 a2 = some out) : COk Un O Tryz.prog 61 { ar := [.loc 100000 0, .p I6 a1, .p (.named 4) a2], r := .p I6 out.1, bs := [(100000, .box [.p (.list (.named 3)) a0])], bs' := [(100000, .box [.p (.list (.named 3)) out.2])] } := by
  refine cok_of_wp Tryz.func61 rfl (k := 36) rfl (Nat.le_of_ble_eq_true rfl) (namesOk_of (by kernel_rfl)) ?_
  intro B hN
  refine WpC.conv (cvK (b := ⟨[(0, .loc 100000 0), (1, .p I6 a1), (2, .p (.named 4) a2)], [(100000, .box [.p (.list (.named 3)) a0])]⟩) [0, 1, 2] [100000] (by kernel_rfl)) ?_
  unfold millwrightref05_Do_m0.f at h
  refine WpC.seq ?_
  refine rS {} [0, 1, 5] [5, 100000] hN (by kernel_rfl) (by kernel_rfl) ?_
  refine tnU ?_
  refine WpC.seq ?_
  refine WpC.seq ?_
  obtain ⟨v1, hv1, h⟩ := bind_some h
  refine rS { its := [(1, .c (millwrightref05_Check.ok O hO k (T_effect_Effect.mk a2.f_Op a2.f_Name a2.f_Text) v1 hv1))] } [0, 1, 5, 7] [5, 100000] hN (by kernel_rfl) (by kernel_rfl) ?_
  refine tnU ?_
  refine WpC.seq ?_
  refine rS {} [0, 1, 5, 7, 11] [5, 100000] hN (by kernel_rfl) (by kernel_rfl) ?_
  refine tnU ?_
  refine tS (b := (v1 != 0)) (by kernel_rfl) (fun hc2 => ?_) (fun hc2 => ?_)
  · replace h := ite_t hc2 h
    refine WpC.seq ?_
    refine rS {} [6] [100000] hN (by kernel_rfl) (by kernel_rfl) ?_
    refine tnU ?_
    refine WpC.ret ?_
    refine thenQ_ret ?_
    have hq := Option.some.inj h
    subst hq
    exact eR (by kernel_rfl) (by kernel_rfl)
  · replace h := ite_f hc2 h
    refine WpC.conv (cS [.k [0, 1, 5] [5, 100000]] (by kernel_rfl) (by kernel_rfl)) (WpC.skip ?_)
    refine tnU ?_
    refine WpC.seq ?_
    refine WpC.seq ?_
    refine rS {} [0, 1, 5, 15] [5, 100000] hN (by kernel_rfl) (by kernel_rfl) ?_
    refine tnU ?_
    refine tS (b := (a2.f_Op == 1)) (by kernel_rfl) (fun hc3 => ?_) (fun hc3 => ?_)
    · replace h := ite_t hc3 h
      refine WpC.seq ?_
      obtain ⟨v4, hv4, h⟩ := bind_some h
      refine rS { its := [(7, .c (COk.ren (millwrightref02_Tree_Put_m0.ok O hO k a0 (T_tree_File.mk a2.f_Name a2.f_Text a1) v4 hv4) (fun n => if n = 100000 then 100000 else n) (injOn_of (by kernel_rfl))))] } [6] [100000] hN (by kernel_rfl) (by kernel_rfl) ?_
      refine tnU ?_
      refine WpC.ret ?_
      refine thenQ_ret ?_
      have hq := Option.some.inj h
      subst hq
      exact eR (by kernel_rfl) (by kernel_rfl)
    · replace h := ite_f hc3 h
      refine WpC.conv (cS [.k [0, 1, 5] [5, 100000]] (by kernel_rfl) (by kernel_rfl)) (WpC.skip ?_)
      refine tnU ?_
      refine WpC.seq ?_
      refine WpC.seq ?_
      refine rS {} [0, 1, 5, 26] [5, 100000] hN (by kernel_rfl) (by kernel_rfl) ?_
      refine tnU ?_
      refine tS (b := (a2.f_Op == 2)) (by kernel_rfl) (fun hc5 => ?_) (fun hc5 => ?_)
      · replace h := ite_t hc5 h
        refine WpC.seq ?_
        obtain ⟨v6, hv6, h⟩ := bind_some h
        refine rS { its := [(4, .c (COk.ren (millwrightref04_Set_m0.ok O hO k a0 a2.f_Name a1 v6 hv6) (fun n => if n = 100000 then 100000 else n) (injOn_of (by kernel_rfl))))] } [6] [100000] hN (by kernel_rfl) (by kernel_rfl) ?_
        refine tnU ?_
        refine WpC.ret ?_
        refine thenQ_ret ?_
        have hq := Option.some.inj h
        subst hq
        exact eR (by kernel_rfl) (by kernel_rfl)
      · replace h := ite_f hc5 h
        refine WpC.conv (cS [.k [0, 5] [5, 100000]] (by kernel_rfl) (by kernel_rfl)) (WpC.skip ?_)
        refine tnU ?_
        refine WpC.seq ?_
        obtain ⟨v7, hv7, h⟩ := bind_some h
        refine rS { its := [(3, .c (COk.ren (millwrightref02_Tree_Remove_m0.ok O hO k a0 a2.f_Name v7 hv7) (fun n => if n = 100000 then 100000 else n) (injOn_of (by kernel_rfl))))] } [6] [100000] hN (by kernel_rfl) (by kernel_rfl) ?_
        refine tnU ?_
        refine WpC.ret ?_
        have hq := Option.some.inj h
        subst hq
        exact eR (by kernel_rfl) (by kernel_rfl)

theorem millwrightref05_Apply_m0.ok (O : Out) (hO : GOk O) (k : Nat) (a0 : List T_tree_File) (a1 : Int) (a2 : List T_effect_Effect) (out : Int × Int × (List T_tree_File)) (h : millwrightref05_Apply_m0.f k a0 a1 a2 = some out) : COk Un O Tryz.prog 33 { ar := [.loc 100000 0, .p I6 a1, .p (.list (.named 4)) a2], r := .tup [.p I6 out.1, .p I6 out.2.1], bs := [(100000, .box [.p (.list (.named 3)) a0])], bs' := [(100000, .box [.p (.list (.named 3)) out.2.2])] } := by
  refine cok_of_wp Tryz.func33 rfl (k := 29) rfl (Nat.le_of_ble_eq_true rfl) (namesOk_of (by kernel_rfl)) ?_
  intro B hN
  refine WpC.conv (cvK (b := ⟨[(0, .loc 100000 0), (1, .p I6 a1), (2, .p (.list (.named 4)) a2)], [(100000, .box [.p (.list (.named 3)) a0])]⟩) [0, 1, 2] [100000] (by kernel_rfl)) ?_
  unfold millwrightref05_Apply_m0.f at h
  refine WpC.seq ?_
  refine rS {} [0, 1, 2] [100000] hN (by kernel_rfl) (by kernel_rfl) ?_
  refine tnU ?_
  refine sqJ (fun st' => ∃ v1 : List T_tree_File, millwrightref05_Apply_m0.j2 k a2 v1 = some out ∧ st' = ⟨[(2, .p (.list (.named 4)) a2)], [(100000, .box [.p (.list (.named 3)) v1])]⟩) ?_ ?_
  · refine WpC.seq ?_
    refine rS {} [0, 1, 2, 11, 12, 13] [100000] hN (by kernel_rfl) (by kernel_rfl) ?_
    refine tnU ?_
    refine WpC.block ?_
    obtain ⟨o7, hlo7, h⟩ := bind_some h
    have hout8 := h
    clear h
    refine WpC.loop (U := Un) (fun n st' => ∃ v3 : List T_tree_File, ∃ v4 : Int, millwrightref05_Apply_m0.l5 k a1 a2 n v3 v4 = some o7 ∧ st' = ⟨[(0, .loc 100000 0), (1, .p I6 a1), (2, .p (.list (.named 4)) a2), (11, .p (.list (.named 4)) a2), (12, .p I6 ((a2.length : Int) : Int)), (13, .p I6 v4)], [(100000, .box [.p (.list (.named 3)) v3])]⟩) k ⟨a0, 0, hlo7, by kernel_rfl⟩ ?_
    clear hlo7
    rintro (_ | n) _ ⟨v3, v4, h, rfl⟩
    · cases h
    · rw [millwrightref05_Apply_m0.l5] at h
      refine WpC.seq ?_
      refine rS {} [0, 1, 2, 11, 12, 13, 14] [100000] hN (by kernel_rfl) (by kernel_rfl) ?_
      refine tnU ?_
      refine WpC.seq ?_
      refine tS (b := (decide (v4 < (a2.length : Int)))) (by kernel_rfl) (fun hc9 => ?_) (fun hc9 => ?_)
      · replace h := ite_t hc9 h
        refine WpC.conv (cS [.k [0, 1, 2, 11, 12, 13] [100000]] (by kernel_rfl) (by kernel_rfl)) (WpC.skip ?_)
        refine tnU ?_
        refine WpC.seq ?_
        refine WpC.block ?_
        refine WpC.seq ?_
        obtain ⟨v10, hv10, h⟩ := bind_some h
        refine rS { its := [(1, .v (.named 4) hv10)] } [0, 1, 2, 8, 9, 11, 12, 13] [9, 100000] hN (by kernel_rfl) (by kernel_rfl) ?_
        refine tnU ?_
        refine WpC.seq ?_
        obtain ⟨v11, hv11, h⟩ := bind_some h
        refine rS { its := [(3, .c (COk.ren (millwrightref05_Do_m0.ok O hO k v3 a1 (T_effect_Effect.mk v10.f_Op v10.f_Name v10.f_Text) v11 hv11) (fun n => if n = 100000 then 100000 else n) (injOn_of (by kernel_rfl))))] } [0, 1, 2, 8, 10, 11, 12, 13] [100000] hN (by kernel_rfl) (by kernel_rfl) ?_
        refine tnU ?_
        refine WpC.seq ?_
        refine rS {} [0, 1, 2, 8, 10, 11, 12, 13, 23] [100000] hN (by kernel_rfl) (by kernel_rfl) ?_
        refine tnU ?_
        refine tS (b := (v11.1 != 0)) (by kernel_rfl) (fun hc12 => ?_) (fun hc12 => ?_)
        · replace h := ite_t hc12 h
          refine WpC.seq ?_
          refine rS {} [6, 7] [100000] hN (by kernel_rfl) (by kernel_rfl) ?_
          refine tnU ?_
          refine WpC.ret ?_
          refine blockQ_ret ?_
          refine thenQ_ret ?_
          have hq := Option.some.inj h
          subst hq
          refine thenQ_ret ?_
          have h := hout8
          refine blockQ_ret ?_
          refine thenQ_ret ?_
          have hq := Option.some.inj h
          subst hq
          exact eR (by kernel_rfl) (by kernel_rfl)
        · replace h := ite_f hc12 h
          refine WpC.conv (cS [.k [0, 1, 2, 11, 12, 13] [100000]] (by kernel_rfl) (by kernel_rfl)) (WpC.skip ?_)
          refine blockQ_normal ?_
          refine tnU ?_
          refine rS {} [0, 1, 2, 11, 12, 13] [100000] hN (by kernel_rfl) (by kernel_rfl) ?_
          refine tnU ?_
          exact ⟨n, Nat.lt_succ_self n, v11.2, (IntKind.i64.wrap (v4 + 1)), h, by kernel_rfl⟩
      · replace h := ite_f hc9 h
        refine WpC.conv (cS [.k [2] [100000]] (by kernel_rfl) (by kernel_rfl)) (WpC.exit ?_)
        refine thenQ_exit ?_
        have hq := Option.some.inj h
        subst hq
        refine thenQ_exit ?_
        have h := hout8
        refine blockQ_hit ?_
        refine tnU ?_
        exact ⟨v3, h, by kernel_rfl⟩
  · rintro _ ⟨v1, h, rfl⟩
    unfold millwrightref05_Apply_m0.j2 at h
    refine WpC.seq ?_
    refine rS {} [6, 7] [100000] hN (by kernel_rfl) (by kernel_rfl) ?_
    refine tnU ?_
    refine WpC.ret ?_
    have hq := Option.some.inj h
    subst hq
    exact eR (by kernel_rfl) (by kernel_rfl)

theorem millwrightlaw05_EffectApplies.ok (O : Out) (hO : GOk O) (k : Nat) (a0 : List T_tree_File) (a1 : Int) (a2 : List T_effect_Effect) (out : Bool) (h : millwrightlaw05_EffectApplies.f k a0 a1 a2 = some out) : COk Un O Tryz.prog 7 { ar := [.p (.list (.named 3)) a0, .p I6 a1, .p (.list (.named 4)) a2], r := .p .bool out } := by
  refine cok_of_wp Tryz.func7 rfl (k := 88) rfl (Nat.le_of_ble_eq_true rfl) (namesOk_pure rfl rfl rfl rfl) ?_
  intro B hN
  refine WpC.conv (cvK (b := ⟨[(0, .p (.list (.named 3)) a0), (1, .p I6 a1), (2, .p (.list (.named 4)) a2)], []⟩) [0, 1, 2] [] (by kernel_rfl)) ?_
  unfold millwrightlaw05_EffectApplies.f at h
  refine WpC.seq ?_
  refine rS {} [0, 1, 2] [] hN (by kernel_rfl) (by kernel_rfl) ?_
  refine tnU ?_
  refine WpC.seq ?_
  refine WpC.seq ?_
  obtain ⟨v1, hv1, h⟩ := bind_some h
  refine rS { its := [(0, .c (millwrightlaw05_alive.ok O hO k v1 hv1))] } [0, 1, 2, 17] [] hN (by kernel_rfl) (by kernel_rfl) ?_
  refine tnU ?_
  refine tS (b := (!v1)) (by kernel_rfl) (fun hc2 => ?_) (fun hc2 => ?_)
  · replace h := ite_t hc2 h
    refine WpC.seq ?_
    refine rS {} [6] [] hN (by kernel_rfl) (by kernel_rfl) ?_
    refine tnU ?_
    refine WpC.ret ?_
    refine thenQ_ret ?_
    have hq := Option.some.inj h
    subst hq
    exact eR (by kernel_rfl) (by kernel_rfl)
  · replace h := ite_f hc2 h
    refine WpC.conv (cS [.k [0, 1, 2] []] (by kernel_rfl) (by kernel_rfl)) (WpC.skip ?_)
    refine tnU ?_
    refine sqJ (fun st' => millwrightlaw05_EffectApplies.j38 k a0 a1 a2 = some out ∧ st' = ⟨[(0, .p (.list (.named 3)) a0), (1, .p I6 a1), (2, .p (.list (.named 4)) a2)], []⟩) ?_ ?_
    · refine sqJ (fun st' => ∃ v39 : Bool, millwrightlaw05_EffectApplies.j41 k a0 a1 a2 v39 = some out ∧ st' = ⟨[(0, .p (.list (.named 3)) a0), (1, .p I6 a1), (2, .p (.list (.named 4)) a2), (23, .p .bool v39)], []⟩) ?_ ?_
      · obtain ⟨v42, hv42, h⟩ := bind_some h
        rcases bool_cases v42 with hc43 | hc43
        · replace h := ite_t hc43 h
          refine rS { its := [(1, .c (millwrightlaw02_Long.ok O hO k a0 40 v42 hv42))], kn := [(20, .t hc43)] } [0, 1, 2, 23] [] hN (by kernel_rfl) (by kernel_rfl) ?_
          refine tnU ?_
          exact ⟨true, h, by kernel_rfl⟩
        · replace h := ite_f hc43 h
          obtain ⟨v44, hv44, h⟩ := bind_some h
          refine rS { its := [(1, .c (millwrightlaw02_Long.ok O hO k a0 40 v42 hv42)), (4, .c (millwrightlaw05_Long.ok O hO k a2 40 v44 hv44))], kn := [(20, .f hc43)] } [0, 1, 2, 23] [] hN (by kernel_rfl) (by kernel_rfl) ?_
          refine tnU ?_
          exact ⟨v44, h, by kernel_rfl⟩
      · rintro _ ⟨v39, h, rfl⟩
        unfold millwrightlaw05_EffectApplies.j41 at h
        refine tS (b := v39) (by kernel_rfl) (fun hc40 => ?_) (fun hc40 => ?_)
        · replace h := ite_t hc40 h
          refine WpC.seq ?_
          refine rS {} [6] [] hN (by kernel_rfl) (by kernel_rfl) ?_
          refine tnU ?_
          refine WpC.ret ?_
          refine thenQ_ret ?_
          have hq := Option.some.inj h
          subst hq
          exact eR (by kernel_rfl) (by kernel_rfl)
        · replace h := ite_f hc40 h
          refine WpC.conv (cS [.k [0, 1, 2] []] (by kernel_rfl) (by kernel_rfl)) (WpC.skip ?_)
          refine tnU ?_
          exact ⟨h, by kernel_rfl⟩
    · rintro _ ⟨h, rfl⟩
      unfold millwrightlaw05_EffectApplies.j38 at h
      refine WpC.seq ?_
      obtain ⟨v3, hv3, h⟩ := bind_some h
      refine rS { its := [(1, .c (COk.ren (tree_Of.ok O hO k a0 v3 hv3) (fun n => if n = 60500 then 10001 else if n = 60501 then 10002 else n) (injOn_of (by kernel_rfl))))] } [0, 1, 2, 7, 8] [10001, 10002] hN (by kernel_rfl) (by kernel_rfl) ?_
      refine tnU ?_
      refine WpC.seq ?_
      refine WpC.seq ?_
      refine rS {} [0, 1, 2, 7, 30] [10001, 10002] hN (by kernel_rfl) (by kernel_rfl) ?_
      refine tnU ?_
      refine tS (b := (!(v3.2.2 == 0))) (by kernel_rfl) (fun hc4 => ?_) (fun hc4 => ?_)
      · replace h := ite_t hc4 h
        refine WpC.seq ?_
        refine rS {} [6] [] hN (by kernel_rfl) (by kernel_rfl) ?_
        refine tnU ?_
        refine WpC.ret ?_
        refine thenQ_ret ?_
        have hq := Option.some.inj h
        subst hq
        exact eR (by kernel_rfl) (by kernel_rfl)
      · replace h := ite_f hc4 h
        refine WpC.conv (cS [.k [0, 1, 2, 7] [10001, 10002]] (by kernel_rfl) (by kernel_rfl)) (WpC.skip ?_)
        refine tnU ?_
        refine WpC.seq ?_
        obtain ⟨v5, hv5, h⟩ := bind_some h
        obtain ⟨v6, hv6, h⟩ := bind_some h
        refine rS { its := [(1, .c (millwrightlaw02_Of.ok O hO k a0 v5 hv5)), (2, .c (COk.ren (millwrightref02_Of.ok O hO k v5 v6 hv6) (fun n => if n = 60500 then 10003 else n) (injOn_of (by kernel_rfl))))] } [1, 2, 7, 9, 10] [10001, 10002, 10003] hN (by kernel_rfl) (by kernel_rfl) ?_
        refine tnU ?_
        refine sqJ (fun st' => millwrightlaw05_EffectApplies.j33 k a1 a2 v3 v6 = some out ∧ st' = ⟨[(1, .p I6 a1), (2, .p (.list (.named 4)) a2), (7, .opt v3.1 10001), (9, .opt v6.1 10003)], [(10001, .opt v3.1 (.box [.mp 10002])), (10002, .opt v3.1 (.map (.named 3) v3.2.1)), (10003, .opt v6.1 (.box [.p (.list (.named 3)) v6.2.1]))]⟩) ?_ ?_
        · refine sqJ (fun st' => ∃ v34 : Bool, millwrightlaw05_EffectApplies.j36 k a1 a2 v3 v6 v34 = some out ∧ st' = ⟨[(1, .p I6 a1), (2, .p (.list (.named 4)) a2), (7, .opt v3.1 10001), (9, .opt v6.1 10003), (44, .p .bool v34)], [(10001, .opt v3.1 (.box [.mp 10002])), (10002, .opt v3.1 (.map (.named 3) v3.2.1)), (10003, .opt v6.1 (.box [.p (.list (.named 3)) v6.2.1]))]⟩) ?_ ?_
          · rcases bool_cases (v6.2.2 != 0) with hc37 | hc37
            · replace h := ite_t hc37 h
              refine rS { kn := [(41, .t hc37)] } [1, 2, 7, 9, 44] [10001, 10002, 10003] hN (by kernel_rfl) (by kernel_rfl) ?_
              refine tnU ?_
              exact ⟨true, h, by kernel_rfl⟩
            · replace h := ite_f hc37 h
              refine rS { kn := [(41, .f hc37)] } [1, 2, 7, 9, 44] [10001, 10002, 10003] hN (by kernel_rfl) (by kernel_rfl) ?_
              refine tnU ?_
              exact ⟨(!v3.1), h, by kernel_rfl⟩
          · rintro _ ⟨v34, h, rfl⟩
            unfold millwrightlaw05_EffectApplies.j36 at h
            refine tS (b := v34) (by kernel_rfl) (fun hc35 => ?_) (fun hc35 => ?_)
            · replace h := ite_t hc35 h
              refine WpC.seq ?_
              refine rS {} [6] [] hN (by kernel_rfl) (by kernel_rfl) ?_
              refine tnU ?_
              refine WpC.ret ?_
              refine thenQ_ret ?_
              have hq := Option.some.inj h
              subst hq
              exact eR (by kernel_rfl) (by kernel_rfl)
            · replace h := ite_f hc35 h
              refine WpC.conv (cS [.k [1, 2, 7, 9] [10001, 10002, 10003]] (by kernel_rfl) (by kernel_rfl)) (WpC.skip ?_)
              refine tnU ?_
              exact ⟨h, by kernel_rfl⟩
        · rintro _ ⟨h, rfl⟩
          unfold millwrightlaw05_EffectApplies.j33 at h
          refine WpC.seq ?_
          obtain ⟨hc7, h⟩ := if_some h
          refine WpC.conv (cS [.oS 7 hc7, .k [1, 2, 7, 9] [10001, 10002, 10003], .oK 10001 hc7, .k [1, 2, 7, 9] [10001, 10002, 10003], .oK 10002 hc7, .k [1, 2, 7, 9] [10001, 10002, 10003]] (by kernel_rfl) (by kernel_rfl)) ?_
          obtain ⟨v8, hv8, h⟩ := bind_some h
          refine rS { its := [(3, .c (COk.ren (effect_Apply_m0.ok O hO k v3.2.1 a1 a2 v8 hv8) (fun n => if n = 100000 then 10001 else if n = 100001 then 10002 else n) (injOn_of (by kernel_rfl))))] } [1, 2, 7, 8, 9, 11] [10001, 10002, 10003] hN (by kernel_rfl) (by kernel_rfl) ?_
          refine tnU ?_
          refine WpC.seq ?_
          obtain ⟨hc9, h⟩ := if_some h
          refine WpC.conv (cS [.oS 9 hc9, .k [1, 2, 7, 8, 9, 11] [10001, 10002, 10003], .oK 10003 hc9, .k [1, 2, 7, 8, 9, 11] [10001, 10002, 10003]] (by kernel_rfl) (by kernel_rfl)) ?_
          obtain ⟨v10, hv10, h⟩ := bind_some h
          obtain ⟨v11, hv11, h⟩ := bind_some h
          refine rS { its := [(3, .c (millwrightlaw05_Of.ok O hO k a2 v10 hv10)), (4, .c (COk.ren (millwrightref05_Apply_m0.ok O hO k v6.2.1 a1 v10 v11 hv11) (fun n => if n = 100000 then 10003 else n) (injOn_of (by kernel_rfl))))] } [2, 7, 8, 9, 11, 12, 13] [10001, 10002, 10003] hN (by kernel_rfl) (by kernel_rfl) ?_
          refine tnU ?_
          refine sqJ (fun st' => millwrightlaw05_EffectApplies.j25 k a2 = some out ∧ st' = ⟨[(2, .p (.list (.named 4)) a2)], []⟩) ?_ ?_
          · refine sqJ (fun st' => ∃ v26 : Bool, millwrightlaw05_EffectApplies.j28 k a2 v26 = some out ∧ st' = ⟨[(2, .p (.list (.named 4)) a2), (74, .p .bool v26)], []⟩) ?_ ?_
            · rcases bool_cases (v8.1 != v11.1) with hc29 | hc29
              · replace h := ite_t hc29 h
                refine rS { kn := [(63, .t hc29)] } [2, 74] [] hN (by kernel_rfl) (by kernel_rfl) ?_
                refine tnU ?_
                exact ⟨true, h, by kernel_rfl⟩
              · replace h := ite_f hc29 h
                obtain ⟨v30, hv30, h⟩ := bind_some h
                rcases bool_cases (v30 != v11.2.1) with hc31 | hc31
                · replace h := ite_t hc31 h
                  refine rS { its := [(5, .c (millwrightnum_Num.ok O hO k v8.2.1 v30 hv30))], kn := [(63, .f hc29), (69, .t hc31)] } [2, 74] [] hN (by kernel_rfl) (by kernel_rfl) ?_
                  refine tnU ?_
                  exact ⟨true, h, by kernel_rfl⟩
                · replace h := ite_f hc31 h
                  obtain ⟨v32, hv32, h⟩ := bind_some h
                  refine rS { its := [(5, .c (millwrightnum_Num.ok O hO k v8.2.1 v30 hv30)), (12, .c (COk.ren (millwrightlaw02_Shows_m0.ok O hO k v8.2.2 v11.2.2 v32 hv32) (fun n => if n = 100000 then 10001 else if n = 100001 then 10002 else if n = 100002 then 10003 else n) (injOn_of (by kernel_rfl))))], kn := [(63, .f hc29), (69, .f hc31)] } [2, 74] [] hN (by kernel_rfl) (by kernel_rfl) ?_
                  refine tnU ?_
                  exact ⟨(!v32), h, by kernel_rfl⟩
            · rintro _ ⟨v26, h, rfl⟩
              unfold millwrightlaw05_EffectApplies.j28 at h
              refine tS (b := v26) (by kernel_rfl) (fun hc27 => ?_) (fun hc27 => ?_)
              · replace h := ite_t hc27 h
                refine WpC.seq ?_
                refine rS {} [6] [] hN (by kernel_rfl) (by kernel_rfl) ?_
                refine tnU ?_
                refine WpC.ret ?_
                refine thenQ_ret ?_
                have hq := Option.some.inj h
                subst hq
                exact eR (by kernel_rfl) (by kernel_rfl)
              · replace h := ite_f hc27 h
                refine WpC.conv (cS [.k [2] []] (by kernel_rfl) (by kernel_rfl)) (WpC.skip ?_)
                refine tnU ?_
                exact ⟨h, by kernel_rfl⟩
          · rintro _ ⟨h, rfl⟩
            unfold millwrightlaw05_EffectApplies.j25 at h
            refine sqJ (fun st' => millwrightlaw05_EffectApplies.j12 k = some out ∧ st' = ⟨[], []⟩) ?_ ?_
            · refine WpC.seq ?_
              refine rS {} [75, 76, 77] [] hN (by kernel_rfl) (by kernel_rfl) ?_
              refine tnU ?_
              refine WpC.block ?_
              obtain ⟨o15, hlo15, h⟩ := bind_some h
              have hout16 := h
              clear h
              refine WpC.loop (U := Un) (fun n st' => ∃ v13 : Int, millwrightlaw05_EffectApplies.l14 k a2 n v13 = some o15 ∧ st' = ⟨[(75, .p (.list (.named 4)) a2), (76, .p I6 ((a2.length : Int) : Int)), (77, .p I6 v13)], []⟩) k ⟨0, hlo15, by kernel_rfl⟩ ?_
              clear hlo15
              rintro (_ | n) _ ⟨v13, h, rfl⟩
              · cases h
              · rw [millwrightlaw05_EffectApplies.l14] at h
                refine WpC.seq ?_
                refine rS {} [75, 76, 77, 78] [] hN (by kernel_rfl) (by kernel_rfl) ?_
                refine tnU ?_
                refine WpC.seq ?_
                refine tS (b := (decide (v13 < (a2.length : Int)))) (by kernel_rfl) (fun hc17 => ?_) (fun hc17 => ?_)
                · replace h := ite_t hc17 h
                  refine WpC.conv (cS [.k [75, 76, 77] []] (by kernel_rfl) (by kernel_rfl)) (WpC.skip ?_)
                  refine tnU ?_
                  refine WpC.seq ?_
                  refine WpC.block ?_
                  refine WpC.seq ?_
                  obtain ⟨v18, hv18, h⟩ := bind_some h
                  refine rS { its := [(0, .v (.named 4) hv18)] } [15, 75, 76, 77] [15] hN (by kernel_rfl) (by kernel_rfl) ?_
                  refine tnU ?_
                  refine WpC.seq ?_
                  obtain ⟨v19, hv19, h⟩ := bind_some h
                  obtain ⟨v20, hv20, h⟩ := bind_some h
                  obtain ⟨v21, hv21, h⟩ := bind_some h
                  refine rA { its := [(1, .c (effect_Check.ok O hO k (T_effect_Effect.mk v18.f_Op v18.f_Name v18.f_Text) v19 hv19)), (2, .c (millwrightnum_Num.ok O hO k v19 v20 hv20)), (4, .c (millwrightref05_Check.ok O hO k (T_effect_Effect.mk v18.f_Op v18.f_Name v18.f_Text) v21 hv21))] } [75, 76, 77, 86] [] hN (by kernel_rfl) (by kernel_rfl) (by kernel_rfl) ?_
                  refine tnU ?_
                  refine tS (b := (v20 != v21)) (by kernel_rfl) (fun hc22 => ?_) (fun hc22 => ?_)
                  · replace h := ite_t hc22 h
                    refine WpC.seq ?_
                    refine rS {} [6] [] hN (by kernel_rfl) (by kernel_rfl) ?_
                    refine tnU ?_
                    refine WpC.ret ?_
                    refine blockQ_ret ?_
                    refine thenQ_ret ?_
                    have hq := Option.some.inj h
                    subst hq
                    refine thenQ_ret ?_
                    have h := hout16
                    refine blockQ_ret ?_
                    refine thenQ_ret ?_
                    have hq := Option.some.inj h
                    subst hq
                    exact eR (by kernel_rfl) (by kernel_rfl)
                  · replace h := ite_f hc22 h
                    refine WpC.conv (cS [.k [75, 76, 77] []] (by kernel_rfl) (by kernel_rfl)) (WpC.skip ?_)
                    refine blockQ_normal ?_
                    refine tnU ?_
                    refine rS {} [75, 76, 77] [] hN (by kernel_rfl) (by kernel_rfl) ?_
                    refine tnU ?_
                    exact ⟨n, Nat.lt_succ_self n, (IntKind.i64.wrap (v13 + 1)), h, by kernel_rfl⟩
                · replace h := ite_f hc17 h
                  refine WpC.conv (cS [.k [] []] (by kernel_rfl) (by kernel_rfl)) (WpC.exit ?_)
                  refine thenQ_exit ?_
                  have hq := Option.some.inj h
                  subst hq
                  refine thenQ_exit ?_
                  have h := hout16
                  refine blockQ_hit ?_
                  refine tnU ?_
                  exact ⟨h, by kernel_rfl⟩
            · rintro _ ⟨h, rfl⟩
              unfold millwrightlaw05_EffectApplies.j12 at h
              refine WpC.seq ?_
              refine rS {} [6] [] hN (by kernel_rfl) (by kernel_rfl) ?_
              refine tnU ?_
              refine WpC.ret ?_
              have hq := Option.some.inj h
              subst hq
              exact eR (by kernel_rfl) (by kernel_rfl)

end Go.Proofs.YtcblgpcgdihcbaaGreatDoor
