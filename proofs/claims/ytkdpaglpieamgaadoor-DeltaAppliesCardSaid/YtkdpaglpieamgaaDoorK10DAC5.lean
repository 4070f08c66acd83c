/- A part of a proof: DAC5. -/
import Derived.Test.YtkdpaglpieamgaaDoorK10DAC4
namespace Go.Proofs.YtkdpaglpieamgaaDoor
open Go Go.AM
set_option linter.unusedVariables false
set_option linter.unusedSimpArgs false
set_option maxRecDepth 100000
theorem Nm_SameTexts.ok (O : Out) (hO : GOk O) (k : Nat) (a0 : List (List UInt8)) (a1 : List (List UInt8)) (out : Bool) (h : Nm_SameTexts.f k a0 a1 = some out) : COk Un O Tryd.prog 45 { ar := [.p (.list .str) a0, .p (.list .str) a1], r := .p .bool out } := by
 refine cok_of_wp Tryd.func45 rfl (k := 26) rfl (Nat.le_of_ble_eq_true rfl) (namesOk_pure rfl rfl rfl rfl) ?_
 intro B hN
 refine ckS (b := ⟨[(0, .p (.list .str) a0), (1, .p (.list .str) a1)], []⟩) [0, 1] [] (by kernel_rfl) ?_
 unfold Nm_SameTexts.f at h
 refine sq_ ?_
 refine rg4 (st1 := ⟨[(0, .p (.list .str) a0), (1, .p (.list .str) a1)], []⟩) [0, 1] [] hN (.cons (moU (rs := []) rfl (.inr rfl) (.bool _ _)) .nil) (by kernel_rfl) ?_
 refine tnS ?_
 refine sq_ ?_
 refine rg4 (st1 := ⟨[(0, .p (.list .str) a0), (1, .p (.list .str) a1), (10, .p .bool (((a0.length : Int) != (a1.length : Int)) : Bool))], []⟩) [0, 1, 10] [] hN (.cons (mvU (v := .p (.list .str) a0) rfl rfl) (.cons (u36_ (rs := [(6, .p (.list .str) a0)]) rfl rfl Tryd.underlying40 o0) (.cons (mvU (v := .p (.list .str) a1) rfl rfl) (.cons (u36_ (rs := [(8, .p (.list .str) a1)]) rfl rfl Tryd.underlying40 o0) (.cons (cmU (rs := [(7, .p I6 ((a0.length : Int) : Int)), (9, .p I6 ((a1.length : Int) : Int))]) rfl rfl o0 o1 rfl) .nil))))) (by kernel_rfl) ?_
 refine tnU ?_
 refine cdU (b := ((a0.length : Int) != (a1.length : Int))) (.tmp m2_) (fun hc1 => ?_) (fun hc1 => ?_)
 ·replace h := ite_t hc1 h
  refine sq_ ?_
  refine rg4 (st1 := ⟨[(4, .p .bool false)], []⟩) [4] [] hN (.cons (moU (rs := []) rfl (.inr rfl) (.bool _ _)) .nil) (by kernel_rfl) ?_
  refine tnU ?_
  refine wr_ ?_
  refine tr_ ?_
  have hq := Option.some.inj h
  subst hq
  exact ends_ret (retV_1 rfl (.head _)) ain_nil
 ·replace h := ite_f hc1 h
  refine wc_ (cvK (b := ⟨[(0, .p (.list .str) a0), (1, .p (.list .str) a1)], []⟩) [0, 1] [] (by kernel_rfl)) (ws_ ?_)
  refine tnU ?_
  refine sqJ (fun st' => Nm_SameTexts.j2 k = some out ∧ st' = ⟨[], []⟩) ?_ ?_
  ·refine sq_ ?_
   refine rg4 (st1 := ⟨[(0, .p (.list .str) a0), (1, .p (.list .str) a1), (12, .p I6 ((a0.length : Int) : Int)), (13, .p I6 (0 : Int))], []⟩) [0, 1, 12, 13] [] hN (.cons (mvU (v := .p (.list .str) a0) rfl rfl) (.cons (u36_ (rs := [(11, .p (.list .str) a0)]) rfl rfl Tryd.underlying40 o0) (.cons (moU (rs := []) rfl (.inl rfl) (.int _ _ _)) .nil))) (by kernel_rfl) ?_
   refine tnU ?_
   refine wb_ ?_
   obtain ⟨o5, hlo5, h⟩ := bind_some h
   have hout6 := h
   clear h
   refine u14_ (fun n st' => ∃ v3 : Int, Nm_SameTexts.l4 k a0 a1 n v3 = some o5 ∧ st' = ⟨[(0, .p (.list .str) a0), (1, .p (.list .str) a1), (12, .p I6 ((a0.length : Int) : Int)), (13, .p I6 v3)], []⟩) k ⟨0, hlo5, rfl⟩ ?_
   clear hlo5
   rintro (_ | n) _ ⟨v3, h, rfl⟩
   ·cases h
   ·rw [Nm_SameTexts.l4] at h
    refine sq_ ?_
    refine rg4 (st1 := ⟨[(0, .p (.list .str) a0), (1, .p (.list .str) a1), (12, .p I6 ((a0.length : Int) : Int)), (13, .p I6 v3), (14, .p .bool ((decide (v3 < (a0.length : Int))) : Bool))], []⟩) [0, 1, 12, 13, 14] [] hN (.cons (cmU (rs := [(13, .p I6 v3), (12, .p I6 ((a0.length : Int) : Int))]) rfl rfl o0 o1 rfl) .nil) (by kernel_rfl) ?_
    refine tnS ?_
    refine cdU (b := (decide (v3 < (a0.length : Int)))) (.tmp m4_) (fun hc7 => ?_) (fun hc7 => ?_)
    ·replace h := ite_t hc7 h
     refine wc_ (cvK (b := ⟨[(0, .p (.list .str) a0), (1, .p (.list .str) a1), (12, .p I6 ((a0.length : Int) : Int)), (13, .p I6 v3)], []⟩) [0, 1, 12, 13] [] (by kernel_rfl)) (ws_ ?_)
     refine tnS ?_
     refine wb_ ?_
     refine sq_ ?_
     refine rg4 (st1 := ⟨[(0, .p (.list .str) a0), (1, .p (.list .str) a1), (5, .p I6 v3), (12, .p I6 ((a0.length : Int) : Int)), (13, .p I6 v3)], []⟩) [0, 1, 5, 12, 13] [] hN (.cons (mvU (v := .p I6 v3) rfl rfl) (.cons (mvA (v := .p I6 v3) rfl rfl) .nil)) (by kernel_rfl) ?_
     refine tnS ?_
     obtain ⟨v8, hv8, h⟩ := bind_some h
     obtain ⟨v9, hv9, h⟩ := bind_some h
     refine u17_ (st1 := ⟨[(0, .p (.list .str) a0), (1, .p (.list .str) a1), (12, .p I6 ((a0.length : Int) : Int)), (13, .p I6 v3), (24, .p .bool ((!(v8 == v9)) : Bool))], []⟩) [0, 1, 12, 13, 24] [] [[], [], [0, 1], [0, 1, 2], [], [], [4, 5], [4, 5, 6], [0, 1, 2, 3, 4, 5, 6, 7]] mixed hN (.cons (mvU (v := .p (.list .str) a0) rfl rfl) (.cons (mvU (v := .p I6 v3) rfl rfl) (.cons (u33_ (rs := [(16, .p (.list .str) a0), (17, .p I6 v3)]) rfl rfl sl_40 o0 o1 hv8) (.cons (u42_ (rs := [(18, .pp .str v8)]) rfl rfl ty_9 o0) (.cons (mvU (v := .p (.list .str) a1) rfl rfl) (.cons (mvU (v := .p I6 v3) rfl rfl) (.cons (u33_ (rs := [(20, .p (.list .str) a1), (21, .p I6 v3)]) rfl rfl sl_40 o0 o1 hv9) (.cons (u42_ (rs := [(22, .pp .str v9)]) rfl rfl ty_9 o0) (.cons (u27_ (rs := [(19, .p .str v8), (23, .p .str v9)]) rfl rfl o0 o1 rfl) .nil))))))))) (by kernel_rfl) (by kernel_rfl) (by kernel_rfl) (by kernel_rfl) (by kernel_rfl) (cvR _) ?_
     refine tnU ?_
     refine cdU (b := (!(v8 == v9))) (.tmp m4_) (fun hc10 => ?_) (fun hc10 => ?_)
     ·replace h := ite_t hc10 h
      refine sq_ ?_
      refine rg4 (st1 := ⟨[(4, .p .bool false)], []⟩) [4] [] hN (.cons (moU (rs := []) rfl (.inr rfl) (.bool _ _)) .nil) (by kernel_rfl) ?_
      refine tnU ?_
      refine wr_ ?_
      refine blockQ_ret ?_
      refine tr_ ?_
      have hq := Option.some.inj h
      subst hq
      refine tr_ ?_
      have h := hout6
      refine blockQ_ret ?_
      refine tr_ ?_
      have hq := Option.some.inj h
      subst hq
      exact ends_ret (retV_1 rfl (.head _)) ain_nil
     ·replace h := ite_f hc10 h
      refine wc_ (cvK (b := ⟨[(0, .p (.list .str) a0), (1, .p (.list .str) a1), (12, .p I6 ((a0.length : Int) : Int)), (13, .p I6 v3)], []⟩) [0, 1, 12, 13] [] (by kernel_rfl)) (ws_ ?_)
      refine bn_ ?_
      refine tnU ?_
      refine rg4 (st1 := ⟨[(0, .p (.list .str) a0), (1, .p (.list .str) a1), (12, .p I6 ((a0.length : Int) : Int)), (13, .p I6 ((IntKind.i64.wrap (v3 + 1)) : Int))], []⟩) [0, 1, 12, 13] [] hN (.cons (u21_ (rs := [(13, .p I6 v3)]) rfl rfl o0 (.int _ _ _) rfl) (.cons (mvU (v := .p I6 ((IntKind.i64.wrap (v3 + 1)) : Int)) rfl rfl) .nil)) (by kernel_rfl) ?_
      refine tnU ?_
      exact ⟨n, Nat.lt_succ_self n, (IntKind.i64.wrap (v3 + 1)), h, rfl⟩
    ·replace h := ite_f hc7 h
     refine wc_ (cvK (b := ⟨[], []⟩) [] [] (by kernel_rfl)) (we_ ?_)
     refine te_ ?_
     have hq := Option.some.inj h
     subst hq
     refine te_ ?_
     have h := hout6
     refine blockQ_hit ?_
     refine tnU ?_
     exact ⟨h, rfl⟩
  ·rintro _ ⟨h, rfl⟩
   unfold Nm_SameTexts.j2 at h
   refine sq_ ?_
   refine rg4 (st1 := ⟨[(4, .p .bool true)], []⟩) [4] [] hN (.cons (moU (rs := []) rfl (.inr rfl) (.bool _ _)) .nil) (by kernel_rfl) ?_
   refine tnU ?_
   refine wr_ ?_
   have hq := Option.some.inj h
   subst hq
   exact ends_ret (retV_1 rfl (.head _)) ain_nil

theorem slices_Index_string_string.ok (O : Out) (hO : GOk O) (k : Nat) (a0 : List (List UInt8)) (a1 : List UInt8) (out : Int) (h : slices_Index_string_string.f k a0 a1 = some out) : COk Un O Tryd.prog 80 { ar := [.p (.list .str) a0, .p .str a1], r := .p I6 out } := by
 refine cok_of_wp Tryd.func80 rfl (k := 19) rfl (Nat.le_of_ble_eq_true rfl) (namesOk_pure rfl rfl rfl rfl) ?_
 intro B hN
 refine ckS (b := ⟨[(0, .p (.list .str) a0), (1, .p .str a1)], []⟩) [0, 1] [] (by kernel_rfl) ?_
 unfold slices_Index_string_string.f at h
 refine sq_ ?_
 refine rg4 (st1 := ⟨[(0, .p (.list .str) a0), (1, .p .str a1)], []⟩) [0, 1] [] hN (.cons (moU (rs := []) rfl (.inr rfl) (.int _ _ _)) .nil) (by kernel_rfl) ?_
 refine tnU ?_
 refine sqJ (fun st' => slices_Index_string_string.j1 k = some out ∧ st' = ⟨[], []⟩) ?_ ?_
 ·refine sq_ ?_
  refine rg4 (st1 := ⟨[(0, .p (.list .str) a0), (1, .p .str a1), (7, .p I6 ((a0.length : Int) : Int)), (8, .p I6 (0 : Int))], []⟩) [0, 1, 7, 8] [] hN (.cons (mvU (v := .p (.list .str) a0) rfl rfl) (.cons (u36_ (rs := [(6, .p (.list .str) a0)]) rfl rfl Tryd.underlying40 o0) (.cons (moU (rs := []) rfl (.inl rfl) (.int _ _ _)) .nil))) (by kernel_rfl) ?_
  refine tnU ?_
  refine wb_ ?_
  obtain ⟨o4, hlo4, h⟩ := bind_some h
  have hout5 := h
  clear h
  refine u14_ (fun n st' => ∃ v2 : Int, slices_Index_string_string.l3 k a0 a1 n v2 = some o4 ∧ st' = ⟨[(0, .p (.list .str) a0), (1, .p .str a1), (7, .p I6 ((a0.length : Int) : Int)), (8, .p I6 v2)], []⟩) k ⟨0, hlo4, rfl⟩ ?_
  clear hlo4
  rintro (_ | n) _ ⟨v2, h, rfl⟩
  ·cases h
  ·rw [slices_Index_string_string.l3] at h
   refine sq_ ?_
   refine rg4 (st1 := ⟨[(0, .p (.list .str) a0), (1, .p .str a1), (7, .p I6 ((a0.length : Int) : Int)), (8, .p I6 v2), (9, .p .bool ((decide (v2 < (a0.length : Int))) : Bool))], []⟩) [0, 1, 7, 8, 9] [] hN (.cons (cmU (rs := [(8, .p I6 v2), (7, .p I6 ((a0.length : Int) : Int))]) rfl rfl o0 o1 rfl) .nil) (by kernel_rfl) ?_
   refine tnS ?_
   refine cdU (b := (decide (v2 < (a0.length : Int)))) (.tmp m4_) (fun hc6 => ?_) (fun hc6 => ?_)
   ·replace h := ite_t hc6 h
    refine wc_ (cvK (b := ⟨[(0, .p (.list .str) a0), (1, .p .str a1), (7, .p I6 ((a0.length : Int) : Int)), (8, .p I6 v2)], []⟩) [0, 1, 7, 8] [] (by kernel_rfl)) (ws_ ?_)
    refine tnS ?_
    refine wb_ ?_
    refine sq_ ?_
    refine rg4 (st1 := ⟨[(0, .p (.list .str) a0), (1, .p .str a1), (5, .p I6 v2), (7, .p I6 ((a0.length : Int) : Int)), (8, .p I6 v2)], []⟩) [0, 1, 5, 7, 8] [] hN (.cons (mvU (v := .p I6 v2) rfl rfl) (.cons (mvA (v := .p I6 v2) rfl rfl) .nil)) (by kernel_rfl) ?_
    refine tnS ?_
    obtain ⟨v7, hv7, h⟩ := bind_some h
    refine rg4 (st1 := ⟨[(0, .p (.list .str) a0), (1, .p .str a1), (5, .p I6 v2), (7, .p I6 ((a0.length : Int) : Int)), (8, .p I6 v2), (16, .p .bool ((a1 == v7) : Bool))], []⟩) [0, 1, 5, 7, 8, 16] [] hN (.cons (mvU (v := .p .str a1) rfl rfl) (.cons (mvU (v := .p (.list .str) a0) rfl rfl) (.cons (mvU (v := .p I6 v2) rfl rfl) (.cons (u33_ (rs := [(12, .p (.list .str) a0), (13, .p I6 v2)]) rfl rfl sl_40 o0 o1 hv7) (.cons (u42_ (rs := [(14, .pp .str v7)]) rfl rfl ty_9 o0) (.cons (u27_ (rs := [(11, .p .str a1), (15, .p .str v7)]) rfl rfl o0 o1 rfl) .nil)))))) (by kernel_rfl) ?_
    refine tnU ?_
    refine cdU (b := (a1 == v7)) (.tmp m5_) (fun hc8 => ?_) (fun hc8 => ?_)
    ·replace h := ite_t hc8 h
     refine sq_ ?_
     refine rg4 (st1 := ⟨[(4, .p I6 v2)], []⟩) [4] [] hN (.cons (mvU (v := .p I6 v2) rfl rfl) (.cons (mvA (v := .p I6 v2) rfl rfl) .nil)) (by kernel_rfl) ?_
     refine tnU ?_
     refine wr_ ?_
     refine blockQ_ret ?_
     refine tr_ ?_
     have hq := Option.some.inj h
     subst hq
     refine tr_ ?_
     have h := hout5
     refine blockQ_ret ?_
     refine tr_ ?_
     have hq := Option.some.inj h
     subst hq
     exact ends_ret (retV_1 rfl (.head _)) ain_nil
    ·replace h := ite_f hc8 h
     refine wc_ (cvK (b := ⟨[(0, .p (.list .str) a0), (1, .p .str a1), (7, .p I6 ((a0.length : Int) : Int)), (8, .p I6 v2)], []⟩) [0, 1, 7, 8] [] (by kernel_rfl)) (ws_ ?_)
     refine bn_ ?_
     refine tnU ?_
     refine rg4 (st1 := ⟨[(0, .p (.list .str) a0), (1, .p .str a1), (7, .p I6 ((a0.length : Int) : Int)), (8, .p I6 ((IntKind.i64.wrap (v2 + 1)) : Int))], []⟩) [0, 1, 7, 8] [] hN (.cons (u21_ (rs := [(8, .p I6 v2)]) rfl rfl o0 (.int _ _ _) rfl) (.cons (mvU (v := .p I6 ((IntKind.i64.wrap (v2 + 1)) : Int)) rfl rfl) .nil)) (by kernel_rfl) ?_
     refine tnU ?_
     exact ⟨n, Nat.lt_succ_self n, (IntKind.i64.wrap (v2 + 1)), h, rfl⟩
   ·replace h := ite_f hc6 h
    refine wc_ (cvK (b := ⟨[], []⟩) [] [] (by kernel_rfl)) (we_ ?_)
    refine te_ ?_
    have hq := Option.some.inj h
    subst hq
    refine te_ ?_
    have h := hout5
    refine blockQ_hit ?_
    refine tnU ?_
    exact ⟨h, rfl⟩
 ·rintro _ ⟨h, rfl⟩
  unfold slices_Index_string_string.j1 at h
  refine sq_ ?_
  refine rg4 (st1 := ⟨[(4, .p I6 ((-1) : Int))], []⟩) [4] [] hN (.cons (moU (rs := []) rfl (.inr rfl) (.int _ _ _)) .nil) (by kernel_rfl) ?_
  refine tnU ?_
  refine wr_ ?_
  have hq := Option.some.inj h
  subst hq
  exact ends_ret (retV_1 rfl (.head _)) ain_nil

theorem slices_Contains_string_string.ok (O : Out) (hO : GOk O) (k : Nat) (a0 : List (List UInt8)) (a1 : List UInt8) (out : Bool) (h : slices_Contains_string_string.f k a0 a1 = some out) : COk Un O Tryd.prog 76 { ar := [.p (.list .str) a0, .p .str a1], r := .p .bool out } := by
 refine cok_of_wp Tryd.func76 rfl (k := 9) rfl (Nat.le_of_ble_eq_true rfl) (namesOk_pure rfl rfl rfl rfl) ?_
 intro B hN
 refine ckS (b := ⟨[(0, .p (.list .str) a0), (1, .p .str a1)], []⟩) [0, 1] [] (by kernel_rfl) ?_
 unfold slices_Contains_string_string.f at h
 refine sq_ ?_
 refine rg4 (st1 := ⟨[(0, .p (.list .str) a0), (1, .p .str a1)], []⟩) [0, 1] [] hN (.cons (moU (rs := []) rfl (.inr rfl) (.bool _ _)) .nil) (by kernel_rfl) ?_
 refine tnS ?_
 obtain ⟨v1, hv1, h⟩ := bind_some h
 refine rg4 (st1 := ⟨[(4, .p .bool ((decide (v1 ≥ 0)) : Bool))], []⟩) [4] [] hN (.cons (mvU (v := .p (.list .str) a0) rfl rfl) (.cons (mvU (v := .p .str a1) rfl rfl) (.cons (caV (rs := [(5, .p (.list .str) a0), (6, .p .str a1)]) (vw := []) rfl rfl (.func _) hb_80 (slices_Index_string_string.ok O hO k a0 a1 v1 hv1) (.cons o0 (.cons o1 .nil)) (.cons (.same _) (.cons (.same _) .nil)) (by simp) (.inl rfl)) (.cons (cmU (rs := [(7, .p I6 v1)]) rfl rfl o0 (.int _ _ _) rfl) (.cons (mvA (v := .p .bool ((decide (v1 ≥ 0)) : Bool)) rfl rfl) .nil))))) (by kernel_rfl) ?_
 refine tnU ?_
 refine wr_ ?_
 have hq := Option.some.inj h
 subst hq
 exact ends_ret (retV_1 rfl (.head _)) ain_nil

theorem names_Has.ok (O : Out) (hO : GOk O) (k : Nat) (a0 : List (List UInt8)) (a1 : List UInt8) (out : Bool) (h : names_Has.f k a0 a1 = some out) : COk Un O Tryd.prog 66 { ar := [.p (.list .str) a0, .p .str a1], r := .p .bool out } := by
 refine cok_of_wp Tryd.func66 rfl (k := 8) rfl (Nat.le_of_ble_eq_true rfl) (namesOk_pure rfl rfl rfl rfl) ?_
 intro B hN
 refine ckS (b := ⟨[(0, .p (.list .str) a0), (1, .p .str a1)], []⟩) [0, 1] [] (by kernel_rfl) ?_
 unfold names_Has.f at h
 refine sq_ ?_
 refine rg4 (st1 := ⟨[(0, .p (.list .str) a0), (1, .p .str a1)], []⟩) [0, 1] [] hN (.cons (moU (rs := []) rfl (.inr rfl) (.bool _ _)) .nil) (by kernel_rfl) ?_
 refine tnS ?_
 obtain ⟨v1, hv1, h⟩ := bind_some h
 refine rg4 (st1 := ⟨[(4, .p .bool v1)], []⟩) [4] [] hN (.cons (mvU (v := .p (.list .str) a0) rfl rfl) (.cons (mvU (v := .p .str a1) rfl rfl) (.cons (caV (rs := [(5, .p (.list .str) a0), (6, .p .str a1)]) (vw := []) rfl rfl (.func _) hb_76 (slices_Contains_string_string.ok O hO k a0 a1 v1 hv1) (.cons o0 (.cons o1 .nil)) (.cons (.same _) (.cons (.same _) .nil)) (by simp) (.inl rfl)) (.cons (mvA (v := .p .bool v1) rfl rfl) .nil)))) (by kernel_rfl) ?_
 refine tnU ?_
 refine wr_ ?_
 have hq := Option.some.inj h
 subst hq
 exact ends_ret (retV_1 rfl (.head _)) ain_nil

theorem delta_Only.ok (O : Out) (hO : GOk O) (k : Nat) (a0 : List TC) (a1 : List (List UInt8)) (out : List TC) (h : delta_Only.f k a0 a1 = some out) : COk Un O Tryd.prog 48 { ar := [.p (.list (.named 6)) a0, .p (.list .str) a1], r := .p (.list (.named 6)) out } := by
 refine cok_of_wp Tryd.func48 rfl (k := 24) rfl (Nat.le_of_ble_eq_true rfl) (namesOk_pure rfl rfl rfl rfl) ?_
 intro B hN
 refine ckS (b := ⟨[(0, .p (.list (.named 6)) a0), (1, .p (.list .str) a1)], []⟩) [0, 1] [] (by kernel_rfl) ?_
 unfold delta_Only.f at h
 refine sq_ ?_
 refine rg4 (st1 := ⟨[(0, .p (.list (.named 6)) a0), (1, .p (.list .str) a1)], []⟩) [0, 1] [] hN (.cons (moU (rs := []) rfl (.inr rfl) (.lit _ _ rfl)) .nil) (by kernel_rfl) ?_
 refine tnS ?_
 refine rg4 (st1 := ⟨[(0, .p (.list (.named 6)) a0), (1, .p (.list .str) a1), (5, .lit (.slice none 0 0))], []⟩) [0, 1, 5] [] hN (.cons (moU (rs := []) rfl (.inr rfl) (.lit _ _ rfl)) .nil) (by kernel_rfl) ?_
 refine tnU ?_
 refine sqJ (fun st' => ∃ v1 : List TC, delta_Only.j2 k v1 = some out ∧ st' = ⟨[(5, .vec 1005 7 0 v1.length)], [(1005, .row 103 (.named 6) v1 false)]⟩) ?_ ?_
 ·refine sq_ ?_
  refine rg4 (st1 := ⟨[(1, .p (.list .str) a1), (5, .lit (.slice none 0 0)), (8, .p (.list (.named 6)) a0), (9, .p I6 ((a0.length : Int) : Int)), (10, .p I6 (0 : Int))], []⟩) [1, 5, 8, 9, 10] [] hN (.cons (mvU (v := .p (.list (.named 6)) a0) rfl rfl) (.cons (u36_ (rs := [(8, .p (.list (.named 6)) a0)]) rfl rfl Tryd.underlying60 o0) (.cons (moU (rs := []) rfl (.inl rfl) (.int _ _ _)) .nil))) (by kernel_rfl) ?_
  refine tnU ?_
  refine wb_ ?_
  obtain ⟨o7, hlo7, h⟩ := bind_some h
  have hout8 := h
  clear h
  refine wc_ (cvT (u13_ 5 1005 103 (.named 6) m1_ (by kernel_rfl) (by unfold K0; omega)) (cvK (b := ⟨[(1, .p (.list .str) a1), (5, .vec 1005 7 0 0), (8, .p (.list (.named 6)) a0), (9, .p I6 ((a0.length : Int) : Int)), (10, .p I6 (0 : Int))], [(1005, .row 103 (.named 6) [] false)]⟩) [1, 5, 8, 9, 10] [1005] (by kernel_rfl))) ?_
  refine u14_ (fun n st' => ∃ v3 : List TC, ∃ v4 : Int, delta_Only.l5 k a0 a1 n v3 v4 = some o7 ∧ st' = ⟨[(1, .p (.list .str) a1), (5, .vec 1005 7 0 v3.length), (8, .p (.list (.named 6)) a0), (9, .p I6 ((a0.length : Int) : Int)), (10, .p I6 v4)], [(1005, .row 103 (.named 6) v3 false)]⟩) k ⟨[], 0, hlo7, rfl⟩ ?_
  clear hlo7
  rintro (_ | n) _ ⟨v3, v4, h, rfl⟩
  ·cases h
  ·rw [delta_Only.l5] at h
   refine sq_ ?_
   refine rg4 (st1 := ⟨[(1, .p (.list .str) a1), (5, .vec 1005 7 0 v3.length), (8, .p (.list (.named 6)) a0), (9, .p I6 ((a0.length : Int) : Int)), (10, .p I6 v4), (11, .p .bool ((decide (v4 < (a0.length : Int))) : Bool))], [(1005, .row 103 (.named 6) v3 false)]⟩) [1, 5, 8, 9, 10, 11] [1005] hN (.cons (cmU (rs := [(10, .p I6 v4), (9, .p I6 ((a0.length : Int) : Int))]) rfl rfl o0 o1 rfl) .nil) (by kernel_rfl) ?_
   refine tnS ?_
   refine cdU (b := (decide (v4 < (a0.length : Int)))) (.tmp m5_) (fun hc9 => ?_) (fun hc9 => ?_)
   ·replace h := ite_t hc9 h
    refine wc_ (cvK (b := ⟨[(1, .p (.list .str) a1), (5, .vec 1005 7 0 v3.length), (8, .p (.list (.named 6)) a0), (9, .p I6 ((a0.length : Int) : Int)), (10, .p I6 v4)], [(1005, .row 103 (.named 6) v3 false)]⟩) [1, 5, 8, 9, 10] [1005] (by kernel_rfl)) (ws_ ?_)
    refine tnU ?_
    refine sqJ (fun st' => ∃ v10 : List TC, delta_Only.j11 k (delta_Only.l5 k a0 a1 n) a0 a1 v4 v10 = some o7 ∧ st' = ⟨[(1, .p (.list .str) a1), (5, .vec 1005 7 0 v10.length), (8, .p (.list (.named 6)) a0), (9, .p I6 ((a0.length : Int) : Int)), (10, .p I6 v4)], [(1005, .row 103 (.named 6) v10 false)]⟩) ?_ ?_
    ·refine wb_ ?_
     refine sq_ ?_
     obtain ⟨v12, hv12, h⟩ := bind_some h
     refine rg4 (st1 := ⟨[(1, .p (.list .str) a1), (5, .vec 1005 7 0 v3.length), (7, .loc 7 0), (8, .p (.list (.named 6)) a0), (9, .p I6 ((a0.length : Int) : Int)), (10, .p I6 v4)], [(7, .box [.p I6 v12.fK, .p .str v12.fO.fN, .p .str v12.fO.fC, .p I6 v12.fO.fT, .p .str v12.fW.fN, .p .str v12.fW.fC, .p I6 v12.fW.fT]), (1005, .row 103 (.named 6) v3 false)]⟩) [1, 5, 7, 8, 9, 10] [7, 1005] hN (.cons (u33_ (rs := [(8, .p (.list (.named 6)) a0), (10, .p I6 v4)]) rfl rfl sl_60 o0 o1 hv12) (.cons (u42_ (rs := [(12, .pp (.named 6) v12)]) rfl rfl ty_103 o0) (.cons (u18_ (rs := []) (d := 7) (us := [.p I6 (0 : Int), .p .str ([] : List UInt8), .p .str ([] : List UInt8), .p I6 (0 : Int), .p .str ([] : List UInt8), .p .str ([] : List UInt8), .p I6 (0 : Int)]) (v := (.agg #[.int .i64 0, .string ByteArray.empty, .string ByteArray.empty, .int .i64 0, .string ByteArray.empty, .string ByteArray.empty, .int .i64 0])) rfl rfl rfl (by kernel_rfl) rfl (.data (fun _ _ _ => .int _ _) (.data (fun _ _ _ => rd_str0) (.data (fun _ _ _ => rd_str0) (.data (fun _ _ _ => .int _ _) (.data (fun _ _ _ => rd_str0) (.data (fun _ _ _ => rd_str0) (.data (fun _ _ _ => .int _ _) .nil))))))) (by kernel_rfl)) (.cons (u54_ (rs := [(7, .loc 7 0), (13, .p (.named 6) v12)]) (v := .p (.named 6) v12) (mid' := [.p I6 v12.fK, .p .str v12.fO.fN, .p .str v12.fO.fC, .p I6 v12.fO.fT, .p .str v12.fW.fN, .p .str v12.fW.fC, .p I6 v12.fW.fT]) [] [.p I6 (0 : Int), .p .str ([] : List UInt8), .p .str ([] : List UInt8), .p I6 (0 : Int), .p .str ([] : List UInt8), .p .str ([] : List UInt8), .p I6 (0 : Int)] [] rfl rfl rfl ty_103 o0 o1 (.data (.named (us := ([.p I6 v12.fK, .p .str v12.fO.fN, .p .str v12.fO.fC, .p I6 v12.fO.fT, .p .str v12.fW.fN, .p .str v12.fW.fC, .p I6 v12.fW.fT] : List (AVal Un))) (.pair (.one _ _) (.pair (.named (us := ([.p .str v12.fO.fN, .p .str v12.fO.fC, .p I6 v12.fO.fT] : List (AVal Un))) (.pair (.one _ _) (.pair (.one _ _) (.pair (.one _ _) .unit)))) (.pair (.named (us := ([.p .str v12.fW.fN, .p .str v12.fW.fC, .p I6 v12.fW.fT] : List (AVal Un))) (.pair (.one _ _) (.pair (.one _ _) (.pair (.one _ _) .unit)))) .unit))))) rfl rfl rfl rfl rfl rfl) .nil)))) (by kernel_rfl) ?_
     refine tnS ?_
     obtain ⟨v13, hv13, h⟩ := bind_some h
     obtain ⟨v14, hv14, h⟩ := bind_some h
     refine rg4 (st1 := ⟨[(1, .p (.list .str) a1), (5, .vec 1005 7 0 v3.length), (7, .loc 7 0), (8, .p (.list (.named 6)) a0), (9, .p I6 ((a0.length : Int) : Int)), (10, .p I6 v4), (17, .p .bool v14)], [(7, .box [.p I6 v12.fK, .p .str v12.fO.fN, .p .str v12.fO.fC, .p I6 v12.fO.fT, .p .str v12.fW.fN, .p .str v12.fW.fC, .p I6 v12.fW.fT]), (1005, .row 103 (.named 6) v3 false)]⟩) [1, 5, 7, 8, 9, 10, 17] [7, 1005] hN (.cons (mvU (v := .p (.list .str) a1) rfl rfl) (.cons (ldB (t := .named 6) (rs := [(7, .loc 7 0)]) [] [.p I6 v12.fK, .p .str v12.fO.fN, .p .str v12.fO.fC, .p I6 v12.fO.fT, .p .str v12.fW.fN, .p .str v12.fW.fC, .p I6 v12.fW.fT] [] (v := .p (.named 6) ((TC.mk v12.fK (TF.mk v12.fO.fN v12.fO.fC v12.fO.fT) (TF.mk v12.fW.fN v12.fW.fC v12.fW.fT)) : TC)) rfl rfl ty_103 o0 rfl rfl rfl rfl (.data (.named (us := ([.p I6 v12.fK, .p .str v12.fO.fN, .p .str v12.fO.fC, .p I6 v12.fO.fT, .p .str v12.fW.fN, .p .str v12.fW.fC, .p I6 v12.fW.fT] : List (AVal Un))) (.pair (.one _ _) (.pair (.named (us := ([.p .str v12.fO.fN, .p .str v12.fO.fC, .p I6 v12.fO.fT] : List (AVal Un))) (.pair (.one _ _) (.pair (.one _ _) (.pair (.one _ _) .unit)))) (.pair (.named (us := ([.p .str v12.fW.fN, .p .str v12.fW.fC, .p I6 v12.fW.fT] : List (AVal Un))) (.pair (.one _ _) (.pair (.one _ _) (.pair (.one _ _) .unit)))) .unit)))))) (.cons (caV (rs := [(15, .p (.named 6) ((TC.mk v12.fK (TF.mk v12.fO.fN v12.fO.fC v12.fO.fT) (TF.mk v12.fW.fN v12.fW.fC v12.fW.fT)) : TC))]) (vw := []) rfl rfl (.func _) hb_65 (delta_Change_name.ok O hO k (TC.mk v12.fK (TF.mk v12.fO.fN v12.fO.fC v12.fO.fT) (TF.mk v12.fW.fN v12.fW.fC v12.fW.fT)) v13 hv13) (.cons o0 .nil) (.cons (.same _) .nil) (by simp) (.inl rfl)) (.cons (caV (rs := [(14, .p (.list .str) a1), (16, .p .str v13)]) (vw := []) rfl rfl (.func _) hb_66 (names_Has.ok O hO k a1 v13 v14 hv14) (.cons o0 (.cons o1 .nil)) (.cons (.same _) (.cons (.same _) .nil)) (by simp) (.inl rfl)) .nil)))) (by kernel_rfl) ?_
     refine tnU ?_
     refine cdU (b := v14) (.tmp m6_) (fun hc15 => ?_) (fun hc15 => ?_)
     ·replace h := ite_t hc15 h
      obtain ⟨g16, h⟩ := if_some h
      refine rg3 (st1 := ⟨[(1, .p (.list .str) a1), (5, .vec 21 7 0 ((v3 ++ [(TC.mk v12.fK (TF.mk v12.fO.fN v12.fO.fC v12.fO.fT) (TF.mk v12.fW.fN v12.fW.fC v12.fW.fT))]).length)), (8, .p (.list (.named 6)) a0), (9, .p I6 ((a0.length : Int) : Int)), (10, .p I6 v4)], [(21, .row 103 (.named 6) (v3 ++ [(TC.mk v12.fK (TF.mk v12.fO.fN v12.fO.fC v12.fO.fT) (TF.mk v12.fW.fN v12.fW.fC v12.fW.fT))]) false)]⟩) [1, 5, 8, 9, 10] [21] hN (.cons (mvU (v := .vec 1005 7 0 v3.length) rfl rfl) (.cons (ldB (t := .named 6) (rs := [(7, .loc 7 0)]) [] [.p I6 v12.fK, .p .str v12.fO.fN, .p .str v12.fO.fC, .p I6 v12.fO.fT, .p .str v12.fW.fN, .p .str v12.fW.fC, .p I6 v12.fW.fT] [] (v := .p (.named 6) ((TC.mk v12.fK (TF.mk v12.fO.fN v12.fO.fC v12.fO.fT) (TF.mk v12.fW.fN v12.fW.fC v12.fW.fT)) : TC)) rfl rfl ty_103 o0 rfl rfl rfl rfl (.data (.named (us := ([.p I6 v12.fK, .p .str v12.fO.fN, .p .str v12.fO.fC, .p I6 v12.fO.fT, .p .str v12.fW.fN, .p .str v12.fW.fC, .p I6 v12.fW.fT] : List (AVal Un))) (.pair (.one _ _) (.pair (.named (us := ([.p .str v12.fO.fN, .p .str v12.fO.fC, .p I6 v12.fO.fT] : List (AVal Un))) (.pair (.one _ _) (.pair (.one _ _) (.pair (.one _ _) .unit)))) (.pair (.named (us := ([.p .str v12.fW.fN, .p .str v12.fW.fC, .p I6 v12.fW.fT] : List (AVal Un))) (.pair (.one _ _) (.pair (.one _ _) (.pair (.one _ _) .unit)))) .unit)))))) (.cons (u24_ (t := .named 6) (rs := [(19, .p (.named 6) ((TC.mk v12.fK (TF.mk v12.fO.fN v12.fO.fC v12.fO.fT) (TF.mk v12.fW.fN v12.fW.fC v12.fW.fT)) : TC))]) (ys := [.tmp 19]) (xs := [(TC.mk v12.fK (TF.mk v12.fO.fN v12.fO.fC v12.fO.fT) (TF.mk v12.fW.fN v12.fW.fC v12.fW.fT))]) rfl rfl rfl rfl row_60 (.cons o0 .nil) (by decide)) (.cons (u19_ (t := .named 6) (rs := [(18, .vec 1005 7 0 v3.length), (20, .vec 20 7 0 ([(TC.mk v12.fK (TF.mk v12.fO.fN v12.fO.fC v12.fO.fT) (TF.mk v12.fW.fN v12.fW.fC v12.fW.fT))].length))]) (vw := [(20, .row 103 (.named 6) [(TC.mk v12.fK (TF.mk v12.fO.fN v12.fO.fC v12.fO.fT) (TF.mk v12.fW.fN v12.fW.fC v12.fW.fT))] true)]) (xs := v3) (ys := [(TC.mk v12.fK (TF.mk v12.fO.fN v12.fO.fC v12.fO.fT) (TF.mk v12.fW.fN v12.fW.fC v12.fW.fT))]) (fx := false) rfl rfl rfl row_60 (by decide) o0 o1 (.whole (.head _)) (by simp) g16) (.cons (mvA (v := .vec 21 7 0 ((v3 ++ [(TC.mk v12.fK (TF.mk v12.fO.fN v12.fO.fC v12.fO.fT) (TF.mk v12.fW.fN v12.fW.fC v12.fW.fT))]).length)) rfl rfl) .nil))))) (by kernel_rfl) (cvT (u12_ (st' := ⟨[(1, .p (.list .str) a1), (5, .vec 1005 7 0 ((v3 ++ [(TC.mk v12.fK (TF.mk v12.fO.fN v12.fO.fC v12.fO.fT) (TF.mk v12.fW.fN v12.fW.fC v12.fW.fT))]).length)), (8, .p (.list (.named 6)) a0), (9, .p I6 ((a0.length : Int) : Int)), (10, .p I6 v4)], [(1005, .row 103 (.named 6) (v3 ++ [(TC.mk v12.fK (TF.mk v12.fO.fN v12.fO.fC v12.fO.fT) (TF.mk v12.fW.fN v12.fW.fC v12.fW.fT))]) false)]⟩) 21 1005 (by unfold K0; omega) (by kernel_rfl) (by kernel_rfl) (by kernel_rfl)) (cvK (b := ⟨[(1, .p (.list .str) a1), (5, .vec 1005 7 0 ((v3 ++ [(TC.mk v12.fK (TF.mk v12.fO.fN v12.fO.fC v12.fO.fT) (TF.mk v12.fW.fN v12.fW.fC v12.fW.fT))]).length)), (8, .p (.list (.named 6)) a0), (9, .p I6 ((a0.length : Int) : Int)), (10, .p I6 v4)], [(1005, .row 103 (.named 6) (v3 ++ [(TC.mk v12.fK (TF.mk v12.fO.fN v12.fO.fC v12.fO.fT) (TF.mk v12.fW.fN v12.fW.fC v12.fW.fT))]) false)]⟩) [1, 5, 8, 9, 10] [1005] (by kernel_rfl))) ?_
      refine bn_ ?_
      refine tnU ?_
      exact ⟨(v3 ++ [(TC.mk v12.fK (TF.mk v12.fO.fN v12.fO.fC v12.fO.fT) (TF.mk v12.fW.fN v12.fW.fC v12.fW.fT))]), h, rfl⟩
     ·replace h := ite_f hc15 h
      refine wc_ (cvK (b := ⟨[(1, .p (.list .str) a1), (5, .vec 1005 7 0 v3.length), (8, .p (.list (.named 6)) a0), (9, .p I6 ((a0.length : Int) : Int)), (10, .p I6 v4)], [(1005, .row 103 (.named 6) v3 false)]⟩) [1, 5, 8, 9, 10] [1005] (by kernel_rfl)) (ws_ ?_)
      refine bn_ ?_
      refine tnU ?_
      exact ⟨v3, h, rfl⟩
    ·rintro _ ⟨v10, h, rfl⟩
     unfold delta_Only.j11 at h
     refine rg4 (st1 := ⟨[(1, .p (.list .str) a1), (5, .vec 1005 7 0 v10.length), (8, .p (.list (.named 6)) a0), (9, .p I6 ((a0.length : Int) : Int)), (10, .p I6 ((IntKind.i64.wrap (v4 + 1)) : Int))], [(1005, .row 103 (.named 6) v10 false)]⟩) [1, 5, 8, 9, 10] [1005] hN (.cons (u21_ (rs := [(10, .p I6 v4)]) rfl rfl o0 (.int _ _ _) rfl) (.cons (mvU (v := .p I6 ((IntKind.i64.wrap (v4 + 1)) : Int)) rfl rfl) .nil)) (by kernel_rfl) ?_
     refine tnU ?_
     exact ⟨n, Nat.lt_succ_self n, v10, (IntKind.i64.wrap (v4 + 1)), h, rfl⟩
   ·replace h := ite_f hc9 h
    refine wc_ (cvK (b := ⟨[(5, .vec 1005 7 0 v3.length)], [(1005, .row 103 (.named 6) v3 false)]⟩) [5] [1005] (by kernel_rfl)) (we_ ?_)
    refine te_ ?_
    have hq := Option.some.inj h
    subst hq
    refine te_ ?_
    have h := hout8
    refine blockQ_hit ?_
    refine tnU ?_
    exact ⟨v3, h, rfl⟩
 ·rintro _ ⟨v1, h, rfl⟩
  unfold delta_Only.j2 at h
  refine sq_ ?_
  refine rg4 (st1 := ⟨[(4, .vec 1005 7 0 v1.length)], [(1005, .row 103 (.named 6) v1 false)]⟩) [4] [1005] hN (.cons (mvU (v := .vec 1005 7 0 v1.length) rfl rfl) (.cons (mvA (v := .vec 1005 7 0 v1.length) rfl rfl) .nil)) (by kernel_rfl) ?_
  refine tnU ?_
  refine wc_ (cvT (u2_ 4 1005 103 _ (.named 6) v1 false (.head _) (by first | rfl | (simp only [upd_length, List.length_replicate, List.length_append]; done) | (simp only [upd_length, List.length_replicate, List.length_append] at *; omega) | omega) (.head _) (by first | (simp [Blk.names]; done) | (simp [Blk.names, AVal.namesL, AVal.names]; done) | (simp [Blk.names]; decide))) (cvK (b := ⟨[(4, .p (.list (.named 6)) v1)], []⟩) [4] [] (by kernel_rfl))) (wr_ ?_)
  have hq := Option.some.inj h
  subst hq
  exact ends_ret (retV_1 rfl (.head _)) ain_nil

theorem R41_Apply_m0.ok (O : Out) (hO : GOk O) (k : Nat) (a0 : List TF) (a1 : List TR41C) (out : (List TF) × Int) (h : R41_Apply_m0.f k a0 a1 = some out) : COk Un O Tryd.prog 49 { ar := [.loc 100000 0, .p (.list (.named 7)) a1], r := .tup [.loc 60500 0, .p I6 out.2], bs := [(100000, .box [.vec 100001 3 0 a0.length]), (100001, .row 50 (.named 3) a0 false)], bs' := [(60500, .box [.vec 60501 3 0 out.1.length]), (60501, .row 50 (.named 3) out.1 false)], nn := [60500, 60501] } := by
 refine cok_of_wp Tryd.func49 rfl (k := 123) rfl (Nat.le_of_ble_eq_true rfl) (namesOk_of (by kernel_rfl)) ?_
 intro B hN
 refine ckS (b := ⟨[(0, .loc 100000 0), (1, .p (.list (.named 7)) a1)], [(100000, .box [.vec 100001 3 0 a0.length]), (100001, .row 50 (.named 3) a0 false)]⟩) [0, 1] [100000, 100001] (by kernel_rfl) ?_
 unfold R41_Apply_m0.f at h
 refine sq_ ?_
 refine rg4 (st1 := ⟨[(0, .loc 100000 0), (1, .p (.list (.named 7)) a1)], [(100000, .box [.vec 100001 3 0 a0.length]), (100001, .row 50 (.named 3) a0 false)]⟩) [0, 1] [100000, 100001] hN (.cons (moU (rs := []) rfl (.inr rfl) (.lit _ _ rfl)) (.cons (moU (rs := []) rfl (.inr rfl) (.int _ _ _)) .nil)) (by kernel_rfl) ?_
 refine tnS ?_
 refine sq_ ?_
 obtain ⟨v1, hv1, h⟩ := bind_some h
 refine rg4 (st1 := ⟨[(0, .loc 100000 0), (1, .p (.list (.named 7)) a1), (6, .p I6 v1)], [(100000, .box [.vec 100001 3 0 a0.length]), (100001, .row 50 (.named 3) a0 false)]⟩) [0, 1, 6] [100000, 100001] hN (.cons (mvU (v := .p (.list (.named 7)) a1) rfl rfl) (.cons (caV (rs := [(19, .p (.list (.named 7)) a1)]) (vw := []) rfl rfl (.func _) hb_41 (R41_Check.ok O hO k a1 v1 hv1) (.cons o0 .nil) (.cons (.same _) .nil) (by simp) (.inl rfl)) (.cons (mvA (v := .p I6 v1) rfl rfl) .nil))) (by kernel_rfl) ?_
 refine tnS ?_
 refine rg4 (st1 := ⟨[(0, .loc 100000 0), (1, .p (.list (.named 7)) a1), (6, .p I6 v1), (22, .p .bool ((v1 != 0) : Bool))], [(100000, .box [.vec 100001 3 0 a0.length]), (100001, .row 50 (.named 3) a0 false)]⟩) [0, 1, 6, 22] [100000, 100001] hN (.cons (mvU (v := .p I6 v1) rfl rfl) (.cons (cmU (rs := [(21, .p I6 v1)]) rfl rfl o0 (.int _ _ _) rfl) .nil)) (by kernel_rfl) ?_
 refine tnU ?_
 refine cdU (b := (v1 != 0)) (.tmp m3_) (fun hc2 => ?_) (fun hc2 => ?_)
 ·replace h := ite_t hc2 h
  refine sq_ ?_
  refine rg4 (st1 := ⟨[(4, .loc 100000 0), (5, .p I6 v1)], [(100000, .box [.vec 100001 3 0 a0.length]), (100001, .row 50 (.named 3) a0 false)]⟩) [4, 5] [100000, 100001] hN (.cons (mvU (v := .loc 100000 0) rfl rfl) (.cons (mvU (v := .p I6 v1) rfl rfl) (.cons (mvA (v := .loc 100000 0) rfl rfl) (.cons (mvA (v := .p I6 v1) rfl rfl) .nil)))) (by kernel_rfl) ?_
  refine tnU ?_
  refine wc_ (cvT (u12_ (st' := ⟨[(4, .loc 100000 0), (5, .p I6 v1)], [(100000, .box [.vec 60501 3 0 a0.length]), (60501, .row 50 (.named 3) a0 false)]⟩) 100001 60501 (by unfold K0; omega) (by kernel_rfl) (by kernel_rfl) (by kernel_rfl)) (cvT (cvK (b := ⟨[(4, .loc 100000 0), (5, .p I6 v1)], [(60501, .row 50 (.named 3) a0 false), (100000, .box [.vec 60501 3 0 a0.length])]⟩) [4, 5] [60501, 100000] (by kernel_rfl)) (cvT (u12_ (st' := ⟨[(4, .loc 60500 0), (5, .p I6 v1)], [(60501, .row 50 (.named 3) a0 false), (60500, .box [.vec 60501 3 0 a0.length])]⟩) 100000 60500 (by unfold K0; omega) (by kernel_rfl) (by kernel_rfl) (by kernel_rfl)) (cvK (b := ⟨[(4, .loc 60500 0), (5, .p I6 v1)], [(60500, .box [.vec 60501 3 0 a0.length]), (60501, .row 50 (.named 3) a0 false)]⟩) [4, 5] [60500, 60501] (by kernel_rfl))))) (wr_ ?_)
  refine tr_ ?_
  have hq := Option.some.inj h
  subst hq
  exact ends_ret (retV_2 rfl (.head _) m1_) (ain_cons (.head _) (ain_cons m1_ ain_nil))
 ·replace h := ite_f hc2 h
  refine wc_ (cvK (b := ⟨[(0, .loc 100000 0), (1, .p (.list (.named 7)) a1)], [(100000, .box [.vec 100001 3 0 a0.length]), (100001, .row 50 (.named 3) a0 false)]⟩) [0, 1] [100000, 100001] (by kernel_rfl)) (ws_ ?_)
  refine tnU ?_
  refine sqJ (fun st' => R41_Apply_m0.j51 k a0 a1 = some out ∧ st' = ⟨[(0, .loc 100000 0), (1, .p (.list (.named 7)) a1)], [(100000, .box [.vec 100001 3 0 a0.length]), (100001, .row 50 (.named 3) a0 false)]⟩) ?_ ?_
  ·refine sq_ ?_
   refine rg4 (st1 := ⟨[(0, .loc 100000 0), (1, .p (.list (.named 7)) a1), (25, .p (.list (.named 7)) a1), (26, .p I6 ((a1.length : Int) : Int)), (27, .p I6 (0 : Int))], [(100000, .box [.vec 100001 3 0 a0.length]), (100001, .row 50 (.named 3) a0 false)]⟩) [0, 1, 25, 26, 27] [100000, 100001] hN (.cons (mvU (v := .p (.list (.named 7)) a1) rfl rfl) (.cons (u36_ (rs := [(25, .p (.list (.named 7)) a1)]) rfl rfl Tryd.underlying66 o0) (.cons (moU (rs := []) rfl (.inl rfl) (.int _ _ _)) .nil))) (by kernel_rfl) ?_
   refine tnU ?_
   refine wb_ ?_
   obtain ⟨o54, hlo54, h⟩ := bind_some h
   have hout55 := h
   clear h
   refine u14_ (fun n st' => ∃ v52 : Int, R41_Apply_m0.l53 k a0 a1 n v52 = some o54 ∧ st' = ⟨[(0, .loc 100000 0), (1, .p (.list (.named 7)) a1), (25, .p (.list (.named 7)) a1), (26, .p I6 ((a1.length : Int) : Int)), (27, .p I6 v52)], [(100000, .box [.vec 100001 3 0 a0.length]), (100001, .row 50 (.named 3) a0 false)]⟩) k ⟨0, hlo54, rfl⟩ ?_
   clear hlo54
   rintro (_ | n) _ ⟨v52, h, rfl⟩
   ·cases h
   ·rw [R41_Apply_m0.l53] at h
    refine sq_ ?_
    refine rg4 (st1 := ⟨[(0, .loc 100000 0), (1, .p (.list (.named 7)) a1), (25, .p (.list (.named 7)) a1), (26, .p I6 ((a1.length : Int) : Int)), (27, .p I6 v52), (28, .p .bool ((decide (v52 < (a1.length : Int))) : Bool))], [(100000, .box [.vec 100001 3 0 a0.length]), (100001, .row 50 (.named 3) a0 false)]⟩) [0, 1, 25, 26, 27, 28] [100000, 100001] hN (.cons (cmU (rs := [(27, .p I6 v52), (26, .p I6 ((a1.length : Int) : Int))]) rfl rfl o0 o1 rfl) .nil) (by kernel_rfl) ?_
    refine tnS ?_
    refine cdU (b := (decide (v52 < (a1.length : Int)))) (.tmp m5_) (fun hc56 => ?_) (fun hc56 => ?_)
    ·replace h := ite_t hc56 h
     refine wc_ (cvK (b := ⟨[(0, .loc 100000 0), (1, .p (.list (.named 7)) a1), (25, .p (.list (.named 7)) a1), (26, .p I6 ((a1.length : Int) : Int)), (27, .p I6 v52)], [(100000, .box [.vec 100001 3 0 a0.length]), (100001, .row 50 (.named 3) a0 false)]⟩) [0, 1, 25, 26, 27] [100000, 100001] (by kernel_rfl)) (ws_ ?_)
     refine tnU ?_
     refine sqJ (fun st' => R41_Apply_m0.j57 k (R41_Apply_m0.l53 k a0 a1 n) a0 a1 v52 = some o54 ∧ st' = ⟨[(0, .loc 100000 0), (1, .p (.list (.named 7)) a1), (25, .p (.list (.named 7)) a1), (26, .p I6 ((a1.length : Int) : Int)), (27, .p I6 v52)], [(100000, .box [.vec 100001 3 0 a0.length]), (100001, .row 50 (.named 3) a0 false)]⟩) ?_ ?_
     ·refine wb_ ?_
      refine sq_ ?_
      obtain ⟨v58, hv58, h⟩ := bind_some h
      refine rg4 (st1 := ⟨[(0, .loc 100000 0), (1, .p (.list (.named 7)) a1), (8, .loc 8 0), (25, .p (.list (.named 7)) a1), (26, .p I6 ((a1.length : Int) : Int)), (27, .p I6 v52)], [(8, .box [.p I6 v58.fK, .p .str v58.fO.fN, .p .str v58.fO.fC, .p I6 v58.fO.fT, .p .str v58.fW.fN, .p .str v58.fW.fC, .p I6 v58.fW.fT]), (100000, .box [.vec 100001 3 0 a0.length]), (100001, .row 50 (.named 3) a0 false)]⟩) [0, 1, 8, 25, 26, 27] [8, 100000, 100001] hN (.cons (u33_ (rs := [(25, .p (.list (.named 7)) a1), (27, .p I6 v52)]) rfl rfl sl_66 o0 o1 hv58) (.cons (u42_ (rs := [(29, .pp (.named 7) v58)]) rfl rfl ty_77 o0) (.cons (u18_ (rs := []) (d := 8) (us := [.p I6 (0 : Int), .p .str ([] : List UInt8), .p .str ([] : List UInt8), .p I6 (0 : Int), .p .str ([] : List UInt8), .p .str ([] : List UInt8), .p I6 (0 : Int)]) (v := (.agg #[.int .i64 0, .string ByteArray.empty, .string ByteArray.empty, .int .i64 0, .string ByteArray.empty, .string ByteArray.empty, .int .i64 0])) rfl rfl rfl (by kernel_rfl) rfl (.data (fun _ _ _ => .int _ _) (.data (fun _ _ _ => rd_str0) (.data (fun _ _ _ => rd_str0) (.data (fun _ _ _ => .int _ _) (.data (fun _ _ _ => rd_str0) (.data (fun _ _ _ => rd_str0) (.data (fun _ _ _ => .int _ _) .nil))))))) (by kernel_rfl)) (.cons (u54_ (rs := [(8, .loc 8 0), (30, .p (.named 7) v58)]) (v := .p (.named 7) v58) (mid' := [.p I6 v58.fK, .p .str v58.fO.fN, .p .str v58.fO.fC, .p I6 v58.fO.fT, .p .str v58.fW.fN, .p .str v58.fW.fC, .p I6 v58.fW.fT]) [] [.p I6 (0 : Int), .p .str ([] : List UInt8), .p .str ([] : List UInt8), .p I6 (0 : Int), .p .str ([] : List UInt8), .p .str ([] : List UInt8), .p I6 (0 : Int)] [] rfl rfl rfl ty_77 o0 o1 (.data (.named (us := ([.p I6 v58.fK, .p .str v58.fO.fN, .p .str v58.fO.fC, .p I6 v58.fO.fT, .p .str v58.fW.fN, .p .str v58.fW.fC, .p I6 v58.fW.fT] : List (AVal Un))) (.pair (.one _ _) (.pair (.named (us := ([.p .str v58.fO.fN, .p .str v58.fO.fC, .p I6 v58.fO.fT] : List (AVal Un))) (.pair (.one _ _) (.pair (.one _ _) (.pair (.one _ _) .unit)))) (.pair (.named (us := ([.p .str v58.fW.fN, .p .str v58.fW.fC, .p I6 v58.fW.fT] : List (AVal Un))) (.pair (.one _ _) (.pair (.one _ _) (.pair (.one _ _) .unit)))) .unit))))) rfl rfl rfl rfl rfl rfl) .nil)))) (by kernel_rfl) ?_
      refine tnS ?_
      obtain ⟨v59, hv59, h⟩ := bind_some h
      obtain ⟨v60, hv60, h⟩ := bind_some h
      refine rg4 (st1 := ⟨[(0, .loc 100000 0), (1, .p (.list (.named 7)) a1), (8, .loc 8 0), (9, .p I6 v60), (25, .p (.list (.named 7)) a1), (26, .p I6 ((a1.length : Int) : Int)), (27, .p I6 v52)], [(8, .box [.p I6 v58.fK, .p .str v58.fO.fN, .p .str v58.fO.fC, .p I6 v58.fO.fT, .p .str v58.fW.fN, .p .str v58.fW.fC, .p I6 v58.fW.fT]), (100000, .box [.vec 100001 3 0 a0.length]), (100001, .row 50 (.named 3) a0 false)]⟩) [0, 1, 8, 9, 25, 26, 27] [8, 100000, 100001] hN (.cons (mvU (v := .loc 100000 0) rfl rfl) (.cons (ldB (t := .named 7) (rs := [(8, .loc 8 0)]) [] [.p I6 v58.fK, .p .str v58.fO.fN, .p .str v58.fO.fC, .p I6 v58.fO.fT, .p .str v58.fW.fN, .p .str v58.fW.fC, .p I6 v58.fW.fT] [] (v := .p (.named 7) ((TR41C.mk v58.fK (TF.mk v58.fO.fN v58.fO.fC v58.fO.fT) (TF.mk v58.fW.fN v58.fW.fC v58.fW.fT)) : TR41C)) rfl rfl ty_77 o0 rfl rfl rfl rfl (.data (.named (us := ([.p I6 v58.fK, .p .str v58.fO.fN, .p .str v58.fO.fC, .p I6 v58.fO.fT, .p .str v58.fW.fN, .p .str v58.fW.fC, .p I6 v58.fW.fT] : List (AVal Un))) (.pair (.one _ _) (.pair (.named (us := ([.p .str v58.fO.fN, .p .str v58.fO.fC, .p I6 v58.fO.fT] : List (AVal Un))) (.pair (.one _ _) (.pair (.one _ _) (.pair (.one _ _) .unit)))) (.pair (.named (us := ([.p .str v58.fW.fN, .p .str v58.fW.fC, .p I6 v58.fW.fT] : List (AVal Un))) (.pair (.one _ _) (.pair (.one _ _) (.pair (.one _ _) .unit)))) .unit)))))) (.cons (caV (rs := [(32, .p (.named 7) ((TR41C.mk v58.fK (TF.mk v58.fO.fN v58.fO.fC v58.fO.fT) (TF.mk v58.fW.fN v58.fW.fC v58.fW.fT)) : TR41C))]) (vw := []) rfl rfl (.func _) hb_43 (R41_Name.ok O hO k (TR41C.mk v58.fK (TF.mk v58.fO.fN v58.fO.fC v58.fO.fT) (TF.mk v58.fW.fN v58.fW.fC v58.fW.fT)) v59 hv59) (.cons o0 .nil) (.cons (.same _) .nil) (by simp) (.inl rfl)) (.cons (caV (rs := [(31, .loc 100000 0), (33, .p .str v59)]) (vw := []) rfl rfl (.func _) hb_23 (COk.ren (R02_Tree_At_m0.ok O hO k a0 v59 v60 hv60) (fun n => if n = 100000 then 100000 else if n = 100001 then 100001 else n) (injOn_of (by kernel_rfl))) (.cons o0 (.cons o1 .nil)) (.cons (.same _) (.cons (.same _) .nil)) (by simp) (.inl rfl)) (.cons (mvA (v := .p I6 v60) rfl rfl) .nil))))) (by kernel_rfl) ?_
      refine tnU ?_
      refine sqJ (fun st' => ∃ v61 : Bool, R41_Apply_m0.j63 k (R41_Apply_m0.l53 k a0 a1 n) a0 a1 v52 v61 = some o54 ∧ st' = ⟨[(0, .loc 100000 0), (1, .p (.list (.named 7)) a1), (25, .p (.list (.named 7)) a1), (26, .p I6 ((a1.length : Int) : Int)), (27, .p I6 v52), (56, .p .bool v61)], [(100000, .box [.vec 100001 3 0 a0.length]), (100001, .row 50 (.named 3) a0 false)]⟩) ?_ ?_
      ·rcases bool_cases (!((decide (v60 < 0)) == (v58.fK == 1))) with hc64 | hc64
       ·replace h := ite_t hc64 h
        refine u17_ (st1 := ⟨[(0, .loc 100000 0), (1, .p (.list (.named 7)) a1), (25, .p (.list (.named 7)) a1), (26, .p I6 ((a1.length : Int) : Int)), (27, .p I6 v52), (56, .p .bool true)], [(100000, .box [.vec 100001 3 0 a0.length]), (100001, .row 50 (.named 3) a0 false)]⟩) [0, 1, 25, 26, 27, 56] [100000, 100001] [[], [0], [], [2], [2, 3], [0, 1, 2, 3, 4], [0, 1, 2, 3, 4, 5], [0, 1, 2, 3, 4, 5, 6], [0, 1, 2, 3, 4, 5, 6, 7], [0, 1, 2, 3, 4, 5, 6, 7, 8], [0, 1, 2, 3, 4, 5, 6, 7, 8, 9], [0, 1, 2, 3, 4, 5, 6, 7, 8, 9, 10], [0, 1, 2, 3, 4, 5, 6, 7, 8, 9, 10, 11], [0, 1, 2, 3, 4, 5, 6, 7, 8, 9, 10, 11, 12], [0, 1, 2, 3, 4, 5, 6, 7, 8, 9], [0, 1, 2, 3, 4, 5, 6, 7, 8, 9, 10, 11, 12, 13, 14], [0, 1, 2, 3, 4, 5, 6, 7, 8, 9, 10, 11, 12, 13, 14, 15], [0, 1, 2, 3, 4, 5, 6, 7, 8, 9], [0, 1, 2, 3, 4, 5, 6, 7, 8, 9, 17], [0, 1, 2, 3, 4, 5, 6, 7, 8, 9, 10, 11, 12, 13, 14, 15, 16, 17, 18], [0, 1, 2, 3, 4, 5, 6, 7, 8, 9, 10, 11, 12, 13, 14, 15, 16, 17, 18, 19], [0, 1, 2, 3, 4, 5, 6, 7, 8, 9, 10, 11, 12, 13, 14, 15, 16, 17, 18, 19, 20]] mixed hN (.cons (mvU (v := .p I6 v60) rfl rfl) (.cons (cmU (rs := [(35, .p I6 v60)]) rfl rfl o0 (.int _ _ _) rfl) (.cons (fdB (rs := [(8, .loc 8 0)]) rfl rfl fd_77_0 (by decide) o0) (.cons (ldB (t := .int .i64) (rs := [(37, .loc 8 0)]) [] [.p I6 v58.fK] [.p .str v58.fO.fN, .p .str v58.fO.fC, .p I6 v58.fO.fT, .p .str v58.fW.fN, .p .str v58.fW.fC, .p I6 v58.fW.fT] (v := .p I6 v58.fK) rfl rfl ty_3 o0 rfl rfl rfl rfl (.data (.one _ _))) (.cons (cmU (rs := [(38, .p I6 v58.fK)]) rfl rfl o0 (.int _ _ _) rfl) (.cons (neU (rs := [(36, .p .bool ((decide (v60 < 0)) : Bool)), (39, .p .bool ((v58.fK == 1) : Bool))]) rfl rfl Tryd.underlying4 o0 o1) (.cons (mvU (v := .p .bool ((!((decide (v60 < 0)) == (v58.fK == 1))) : Bool)) rfl rfl) (.cons (skU rfl rfl hc64) (.cons (skU rfl rfl hc64) (.cons (skU rfl rfl hc64) (.cons (sok_skipU rfl rfl) (.cons (sok_skipU rfl rfl) (.cons (sok_skipU rfl rfl) (.cons (sok_skipU rfl rfl) (.cons (sok_skipU rfl rfl) (.cons (sok_skipU rfl rfl) (.cons (sok_skipU rfl rfl) (.cons (sok_skipU rfl rfl) (.cons (sok_skipU rfl rfl) (.cons (sok_skipU rfl rfl) (.cons (skU rfl rfl hc64) (.cons (pkT (rs := [(41, .p .bool ((!((decide (v60 < 0)) == (v58.fK == 1))) : Bool))]) rfl rfl o0 hc64 (.bool _ _)) .nil)))))))))))))))))))))) (by kernel_rfl) (by kernel_rfl) (by kernel_rfl) (by kernel_rfl) (by kernel_rfl) (cvR _) ?_
        refine tnU ?_
        exact ⟨true, h, rfl⟩
       ·replace h := ite_f hc64 h
        rcases bool_cases (decide (v60 ≥ 0)) with hc65 | hc65
        ·replace h := ite_t hc65 h
         obtain ⟨g66, h⟩ := if_some h
         obtain ⟨v67, hv67, h⟩ := bind_some h
         refine u17_ (st1 := ⟨[(0, .loc 100000 0), (1, .p (.list (.named 7)) a1), (25, .p (.list (.named 7)) a1), (26, .p I6 ((a1.length : Int) : Int)), (27, .p I6 v52), (56, .p .bool ((!(v67.fN == v58.fO.fN && (v67.fC == v58.fO.fC && (v67.fT == v58.fO.fT && true)))) : Bool))], [(100000, .box [.vec 100001 3 0 a0.length]), (100001, .row 50 (.named 3) a0 false)]⟩) [0, 1, 25, 26, 27, 56] [100000, 100001] [[], [0], [], [2], [2, 3], [0, 1, 2, 3, 4], [0, 1, 2, 3, 4, 5], [0, 1, 2, 3, 4, 5, 6], [0, 1, 2, 3, 4, 5, 6, 7], [0, 1, 2, 3, 4, 5, 6, 7, 8], [0, 1, 2, 3, 4, 5, 6, 7, 8, 9], [0, 1, 2, 3, 4, 5, 6, 7, 8, 9, 10], [0, 1, 2, 3, 4, 5, 6, 7, 8, 9, 10, 11], [0, 1, 2, 3, 4, 5, 6, 7, 8, 9, 10, 11, 12], [0, 1, 2, 3, 4, 5, 6, 7, 8, 9], [0, 1, 2, 3, 4, 5, 6, 7, 8, 9, 10, 11, 12, 13, 14], [0, 1, 2, 3, 4, 5, 6, 7, 8, 9, 10, 11, 12, 13, 14, 15], [0, 1, 2, 3, 4, 5, 6, 7, 8, 9], [0, 1, 2, 3, 4, 5, 6, 7, 8, 9, 17], [0, 1, 2, 3, 4, 5, 6, 7, 8, 9, 10, 11, 12, 13, 14, 15, 16, 17, 18], [0, 1, 2, 3, 4, 5, 6, 7, 8, 9, 10, 11, 12, 13, 14, 15, 16, 17, 18, 19], [0, 1, 2, 3, 4, 5, 6, 7, 8, 9, 10, 11, 12, 13, 14, 15, 16, 17, 18, 19, 20]] mixed hN (.cons (mvU (v := .p I6 v60) rfl rfl) (.cons (cmU (rs := [(35, .p I6 v60)]) rfl rfl o0 (.int _ _ _) rfl) (.cons (fdB (rs := [(8, .loc 8 0)]) rfl rfl fd_77_0 (by decide) o0) (.cons (ldB (t := .int .i64) (rs := [(37, .loc 8 0)]) [] [.p I6 v58.fK] [.p .str v58.fO.fN, .p .str v58.fO.fC, .p I6 v58.fO.fT, .p .str v58.fW.fN, .p .str v58.fW.fC, .p I6 v58.fW.fT] (v := .p I6 v58.fK) rfl rfl ty_3 o0 rfl rfl rfl rfl (.data (.one _ _))) (.cons (cmU (rs := [(38, .p I6 v58.fK)]) rfl rfl o0 (.int _ _ _) rfl) (.cons (neU (rs := [(36, .p .bool ((decide (v60 < 0)) : Bool)), (39, .p .bool ((v58.fK == 1) : Bool))]) rfl rfl Tryd.underlying4 o0 o1) (.cons (mvU (v := .p .bool ((!((decide (v60 < 0)) == (v58.fK == 1))) : Bool)) rfl rfl) (.cons (sok_run rfl rfl hc64 (mvU (v := .p I6 v60) rfl rfl)) (.cons (sok_run rfl rfl hc64 (cmU (rs := [(42, .p I6 v60)]) rfl rfl o0 (.int _ _ _) rfl)) (.cons (sok_run rfl rfl hc64 (mvU (v := .p .bool ((decide (v60 ≥ 0)) : Bool)) rfl rfl)) (.cons (sok_run rfl rfl hc65 (mvU (v := .loc 100000 0) rfl rfl)) (.cons (sok_run rfl rfl hc65 (nlU (rs := [(45, .loc 100000 0)]) rfl rfl o0 rfl)) (.cons (sok_run rfl rfl hc65 (fdB (rs := [(46, .loc 100000 0)]) rfl rfl fd_47_0 (by decide) o0)) (.cons (sok_run rfl rfl hc65 (ldB (t := .list (.named 3)) (rs := [(47, .loc 100000 0)]) [] [.vec 100001 3 0 a0.length] [] (v := .vec 100001 3 0 a0.length) rfl rfl ty_45 o0 rfl rfl rfl rfl (.hand rfl rfl))) (.cons (sok_run rfl rfl hc65 (mvU (v := .p I6 v60) rfl rfl)) (.cons (sok_run rfl rfl hc65 (u35_ (rs := [(48, .vec 100001 3 0 a0.length), (49, .p I6 v60)]) rfl rfl sl_45 o0 o1 g66)) (.cons (sok_run rfl rfl hc65 (u40_ (E := 50) (t := .named 3) (rs := [(50, .eloc 100001 3 (0 + v60.toNat) 0)]) (xs := a0) (fx := false) rfl rfl ty_50 o0 hv67 (.here _ _))) (.cons (sok_run rfl rfl hc65 (fdB (rs := [(8, .loc 8 0)]) rfl rfl fd_77_1 (by decide) o0)) (.cons (sok_run rfl rfl hc65 (ldB (t := .named 3) (rs := [(52, .loc 8 1)]) [.p I6 v58.fK] [.p .str v58.fO.fN, .p .str v58.fO.fC, .p I6 v58.fO.fT] [.p .str v58.fW.fN, .p .str v58.fW.fC, .p I6 v58.fW.fT] (v := .p (.named 3) ((TF.mk v58.fO.fN v58.fO.fC v58.fO.fT) : TF)) rfl rfl ty_50 o0 rfl rfl rfl rfl (.data (.named (us := ([.p .str v58.fO.fN, .p .str v58.fO.fC, .p I6 v58.fO.fT] : List (AVal Un))) (.pair (.one _ _) (.pair (.one _ _) (.pair (.one _ _) .unit))))))) (.cons (sok_run rfl rfl hc65 (u49_ (rs := [(51, .p (.named 3) v67), (53, .p (.named 3) ((TF.mk v58.fO.fN v58.fO.fC v58.fO.fT) : TF))]) rfl rfl Tryd.underlying50 (by kernel_rfl) (eqf_50 _ Tryd.underlying50) (by kernel_rfl) o0 o1)) (.cons (sok_run rfl rfl hc64 (pkT (rs := [(44, .p .bool ((decide (v60 ≥ 0)) : Bool)), (54, .p .bool ((!(v67.fN == v58.fO.fN && (v67.fC == v58.fO.fC && (v67.fT == v58.fO.fT && true)))) : Bool))]) rfl rfl o0 hc65 o1)) (.cons (pkF (rs := [(41, .p .bool ((!((decide (v60 < 0)) == (v58.fK == 1))) : Bool)), (55, .p .bool ((!(v67.fN == v58.fO.fN && (v67.fC == v58.fO.fC && (v67.fT == v58.fO.fT && true)))) : Bool))]) rfl rfl o0 hc64 o1) .nil)))))))))))))))))))))) (by kernel_rfl) (by kernel_rfl) (by kernel_rfl) (by kernel_rfl) (by kernel_rfl) (cvR _) ?_
         refine tnU ?_
         exact ⟨(!(v67.fN == v58.fO.fN && (v67.fC == v58.fO.fC && (v67.fT == v58.fO.fT && true)))), h, rfl⟩
        ·replace h := ite_f hc65 h
         refine u17_ (st1 := ⟨[(0, .loc 100000 0), (1, .p (.list (.named 7)) a1), (25, .p (.list (.named 7)) a1), (26, .p I6 ((a1.length : Int) : Int)), (27, .p I6 v52), (56, .p .bool false)], [(100000, .box [.vec 100001 3 0 a0.length]), (100001, .row 50 (.named 3) a0 false)]⟩) [0, 1, 25, 26, 27, 56] [100000, 100001] [[], [0], [], [2], [2, 3], [0, 1, 2, 3, 4], [0, 1, 2, 3, 4, 5], [0, 1, 2, 3, 4, 5, 6], [0, 1, 2, 3, 4, 5, 6, 7], [0, 1, 2, 3, 4, 5, 6, 7, 8], [0, 1, 2, 3, 4, 5, 6, 7, 8, 9], [0, 1, 2, 3, 4, 5, 6, 7, 8, 9, 10], [0, 1, 2, 3, 4, 5, 6, 7, 8, 9, 10, 11], [0, 1, 2, 3, 4, 5, 6, 7, 8, 9, 10, 11, 12], [0, 1, 2, 3, 4, 5, 6, 7, 8, 9], [0, 1, 2, 3, 4, 5, 6, 7, 8, 9, 10, 11, 12, 13, 14], [0, 1, 2, 3, 4, 5, 6, 7, 8, 9, 10, 11, 12, 13, 14, 15], [0, 1, 2, 3, 4, 5, 6, 7, 8, 9], [0, 1, 2, 3, 4, 5, 6, 7, 8, 9, 17], [0, 1, 2, 3, 4, 5, 6, 7, 8, 9, 10, 11, 12, 13, 14, 15, 16, 17, 18], [0, 1, 2, 3, 4, 5, 6, 7, 8, 9, 10, 11, 12, 13, 14, 15, 16, 17, 18, 19], [0, 1, 2, 3, 4, 5, 6, 7, 8, 9, 10, 11, 12, 13, 14, 15, 16, 17, 18, 19, 20]] mixed hN (.cons (mvU (v := .p I6 v60) rfl rfl) (.cons (cmU (rs := [(35, .p I6 v60)]) rfl rfl o0 (.int _ _ _) rfl) (.cons (fdB (rs := [(8, .loc 8 0)]) rfl rfl fd_77_0 (by decide) o0) (.cons (ldB (t := .int .i64) (rs := [(37, .loc 8 0)]) [] [.p I6 v58.fK] [.p .str v58.fO.fN, .p .str v58.fO.fC, .p I6 v58.fO.fT, .p .str v58.fW.fN, .p .str v58.fW.fC, .p I6 v58.fW.fT] (v := .p I6 v58.fK) rfl rfl ty_3 o0 rfl rfl rfl rfl (.data (.one _ _))) (.cons (cmU (rs := [(38, .p I6 v58.fK)]) rfl rfl o0 (.int _ _ _) rfl) (.cons (neU (rs := [(36, .p .bool ((decide (v60 < 0)) : Bool)), (39, .p .bool ((v58.fK == 1) : Bool))]) rfl rfl Tryd.underlying4 o0 o1) (.cons (mvU (v := .p .bool ((!((decide (v60 < 0)) == (v58.fK == 1))) : Bool)) rfl rfl) (.cons (sok_run rfl rfl hc64 (mvU (v := .p I6 v60) rfl rfl)) (.cons (sok_run rfl rfl hc64 (cmU (rs := [(42, .p I6 v60)]) rfl rfl o0 (.int _ _ _) rfl)) (.cons (sok_run rfl rfl hc64 (mvU (v := .p .bool ((decide (v60 ≥ 0)) : Bool)) rfl rfl)) (.cons (skU rfl rfl hc65) (.cons (skU rfl rfl hc65) (.cons (skU rfl rfl hc65) (.cons (skU rfl rfl hc65) (.cons (skU rfl rfl hc65) (.cons (skU rfl rfl hc65) (.cons (skU rfl rfl hc65) (.cons (skU rfl rfl hc65) (.cons (skU rfl rfl hc65) (.cons (skU rfl rfl hc65) (.cons (sok_run rfl rfl hc64 (pkF (rs := [(44, .p .bool ((decide (v60 ≥ 0)) : Bool))]) rfl rfl o0 hc65 (.bool _ _))) (.cons (pkF (rs := [(41, .p .bool ((!((decide (v60 < 0)) == (v58.fK == 1))) : Bool)), (55, .p .bool false)]) rfl rfl o0 hc64 o1) .nil)))))))))))))))))))))) (by kernel_rfl) (by kernel_rfl) (by kernel_rfl) (by kernel_rfl) (by kernel_rfl) (cvR _) ?_
         refine tnU ?_
         exact ⟨false, h, rfl⟩
      ·rintro _ ⟨v61, h, rfl⟩
       unfold R41_Apply_m0.j63 at h
       refine cdU (b := v61) (.tmp m5_) (fun hc62 => ?_) (fun hc62 => ?_)
       ·replace h := ite_t hc62 h
        refine sq_ ?_
        refine rg4 (st1 := ⟨[(4, .loc 100000 0), (5, .p I6 (14 : Int))], [(100000, .box [.vec 100001 3 0 a0.length]), (100001, .row 50 (.named 3) a0 false)]⟩) [4, 5] [100000, 100001] hN (.cons (mvU (v := .loc 100000 0) rfl rfl) (.cons (mvA (v := .loc 100000 0) rfl rfl) (.cons (moU (rs := []) rfl (.inr rfl) (.int _ _ _)) .nil))) (by kernel_rfl) ?_
        refine tnU ?_
        refine wc_ (cvT (u12_ (st' := ⟨[(4, .loc 100000 0), (5, .p I6 (14 : Int))], [(100000, .box [.vec 60501 3 0 a0.length]), (60501, .row 50 (.named 3) a0 false)]⟩) 100001 60501 (by unfold K0; omega) (by kernel_rfl) (by kernel_rfl) (by kernel_rfl)) (cvT (cvK (b := ⟨[(4, .loc 100000 0), (5, .p I6 (14 : Int))], [(60501, .row 50 (.named 3) a0 false), (100000, .box [.vec 60501 3 0 a0.length])]⟩) [4, 5] [60501, 100000] (by kernel_rfl)) (cvT (u12_ (st' := ⟨[(4, .loc 60500 0), (5, .p I6 (14 : Int))], [(60501, .row 50 (.named 3) a0 false), (60500, .box [.vec 60501 3 0 a0.length])]⟩) 100000 60500 (by unfold K0; omega) (by kernel_rfl) (by kernel_rfl) (by kernel_rfl)) (cvK (b := ⟨[(4, .loc 60500 0), (5, .p I6 (14 : Int))], [(60500, .box [.vec 60501 3 0 a0.length]), (60501, .row 50 (.named 3) a0 false)]⟩) [4, 5] [60500, 60501] (by kernel_rfl))))) (wr_ ?_)
        refine blockQ_ret ?_
        refine tr_ ?_
        have hq := Option.some.inj h
        subst hq
        refine tr_ ?_
        have h := hout55
        refine blockQ_ret ?_
        refine tr_ ?_
        have hq := Option.some.inj h
        subst hq
        exact ends_ret (retV_2 rfl (.head _) m1_) (ain_cons (.head _) (ain_cons m1_ ain_nil))
       ·replace h := ite_f hc62 h
        refine wc_ (cvK (b := ⟨[(0, .loc 100000 0), (1, .p (.list (.named 7)) a1), (25, .p (.list (.named 7)) a1), (26, .p I6 ((a1.length : Int) : Int)), (27, .p I6 v52)], [(100000, .box [.vec 100001 3 0 a0.length]), (100001, .row 50 (.named 3) a0 false)]⟩) [0, 1, 25, 26, 27] [100000, 100001] (by kernel_rfl)) (ws_ ?_)
        refine bn_ ?_
        refine tnU ?_
        exact ⟨h, rfl⟩
     ·rintro _ ⟨h, rfl⟩
      unfold R41_Apply_m0.j57 at h
      refine rg4 (st1 := ⟨[(0, .loc 100000 0), (1, .p (.list (.named 7)) a1), (25, .p (.list (.named 7)) a1), (26, .p I6 ((a1.length : Int) : Int)), (27, .p I6 ((IntKind.i64.wrap (v52 + 1)) : Int))], [(100000, .box [.vec 100001 3 0 a0.length]), (100001, .row 50 (.named 3) a0 false)]⟩) [0, 1, 25, 26, 27] [100000, 100001] hN (.cons (u21_ (rs := [(27, .p I6 v52)]) rfl rfl o0 (.int _ _ _) rfl) (.cons (mvU (v := .p I6 ((IntKind.i64.wrap (v52 + 1)) : Int)) rfl rfl) .nil)) (by kernel_rfl) ?_
      refine tnU ?_
      exact ⟨n, Nat.lt_succ_self n, (IntKind.i64.wrap (v52 + 1)), h, rfl⟩
    ·replace h := ite_f hc56 h
     refine wc_ (cvK (b := ⟨[(0, .loc 100000 0), (1, .p (.list (.named 7)) a1)], [(100000, .box [.vec 100001 3 0 a0.length]), (100001, .row 50 (.named 3) a0 false)]⟩) [0, 1] [100000, 100001] (by kernel_rfl)) (we_ ?_)
     refine te_ ?_
     have hq := Option.some.inj h
     subst hq
     refine te_ ?_
     have h := hout55
     refine blockQ_hit ?_
     refine tnU ?_
     exact ⟨h, rfl⟩
  ·rintro _ ⟨h, rfl⟩
   unfold R41_Apply_m0.j51 at h
   refine sq_ ?_
   refine rg4 (st1 := ⟨[(0, .loc 100000 0), (1, .p (.list (.named 7)) a1), (10, .loc 60 0)], [(60, .box [.vec 10001 3 0 0]), (10001, .row 50 (.named 3) [] false), (100000, .box [.vec 100001 3 0 a0.length]), (100001, .row 50 (.named 3) a0 false)]⟩) [0, 1, 10] [60, 10001, 100000, 100001] hN (.cons (u23_ (t := .named 5) (rs := []) (us0 := [.lit (.slice none 0 0)]) (us := [.lit (.slice none 0 0)]) (v := .agg [.lit (.slice none 0 0)]) rfl rfl lays_47 (.lit rfl .nil) (.nil _) rfl (.agg rfl)) (.cons (u55_ (E := 50) (t := .named 3) (m := 10001) [] [] [] (u22_ (rs := [(59, .agg [.lit (.slice none 0 0)])]) (d := 60) (us := [.lit (.slice none 0 0)]) rfl rfl rfl o0 .agg rfl (notin_of (by kernel_rfl))) rfl (by kernel_rfl)) (.cons (mvA (v := .loc 60 0) rfl rfl) .nil))) (by kernel_rfl) ?_
   refine tnU ?_
   refine sqJ (fun st' => ∃ v3 : List TF, R41_Apply_m0.j21 k a0 a1 v3 = some out ∧ st' = ⟨[(0, .loc 100000 0), (1, .p (.list (.named 7)) a1), (10, .loc 60 0)], [(60, .box [.vec 65840 3 0 v3.length]), (65840, .row 50 (.named 3) v3 false), (100000, .box [.vec 100001 3 0 a0.length]), (100001, .row 50 (.named 3) a0 false)]⟩) ?_ ?_
   ·refine sq_ ?_
    refine rg4 (st1 := ⟨[(0, .loc 100000 0), (1, .p (.list (.named 7)) a1), (10, .loc 60 0), (64, .vec 100001 3 0 a0.length), (65, .p I6 ((a0.length : Int) : Int)), (66, .p I6 (0 : Int))], [(60, .box [.vec 10001 3 0 0]), (10001, .row 50 (.named 3) [] false), (100000, .box [.vec 100001 3 0 a0.length]), (100001, .row 50 (.named 3) a0 false)]⟩) [0, 1, 10, 64, 65, 66] [60, 10001, 100000, 100001] hN (.cons (mvU (v := .loc 100000 0) rfl rfl) (.cons (nlU (rs := [(61, .loc 100000 0)]) rfl rfl o0 rfl) (.cons (fdB (rs := [(62, .loc 100000 0)]) rfl rfl fd_47_0 (by decide) o0) (.cons (ldB (t := .list (.named 3)) (rs := [(63, .loc 100000 0)]) [] [.vec 100001 3 0 a0.length] [] (v := .vec 100001 3 0 a0.length) rfl rfl ty_45 o0 rfl rfl rfl rfl (.hand rfl rfl)) (.cons (u39_ (rs := [(64, .vec 100001 3 0 a0.length)]) rfl rfl Tryd.underlying45 o0) (.cons (moU (rs := []) rfl (.inl rfl) (.int _ _ _)) .nil)))))) (by kernel_rfl) ?_
    refine tnU ?_
    refine wb_ ?_
    obtain ⟨o26, hlo26, h⟩ := bind_some h
    have hout27 := h
    clear h
    refine wc_ (cvT (u12_ (st' := ⟨[(0, .loc 100000 0), (1, .p (.list (.named 7)) a1), (10, .loc 60 0), (64, .vec 100001 3 0 a0.length), (65, .p I6 ((a0.length : Int) : Int)), (66, .p I6 (0 : Int))], [(60, .box [.vec 65840 3 0 0]), (65840, .row 50 (.named 3) [] false), (100000, .box [.vec 100001 3 0 a0.length]), (100001, .row 50 (.named 3) a0 false)]⟩) 10001 65840 (by unfold K0; omega) (by kernel_rfl) (by kernel_rfl) (by kernel_rfl)) (cvK (b := ⟨[(0, .loc 100000 0), (1, .p (.list (.named 7)) a1), (10, .loc 60 0), (64, .vec 100001 3 0 a0.length), (65, .p I6 ((a0.length : Int) : Int)), (66, .p I6 (0 : Int))], [(60, .box [.vec 65840 3 0 0]), (65840, .row 50 (.named 3) [] false), (100000, .box [.vec 100001 3 0 a0.length]), (100001, .row 50 (.named 3) a0 false)]⟩) [0, 1, 10, 64, 65, 66] [60, 65840, 100000, 100001] (by kernel_rfl))) ?_
    refine u14_ (fun n st' => ∃ v22 : List TF, ∃ v23 : Int, R41_Apply_m0.l24 k a0 a1 n v22 v23 = some o26 ∧ st' = ⟨[(0, .loc 100000 0), (1, .p (.list (.named 7)) a1), (10, .loc 60 0), (64, .vec 100001 3 0 a0.length), (65, .p I6 ((a0.length : Int) : Int)), (66, .p I6 v23)], [(60, .box [.vec 65840 3 0 v22.length]), (65840, .row 50 (.named 3) v22 false), (100000, .box [.vec 100001 3 0 a0.length]), (100001, .row 50 (.named 3) a0 false)]⟩) k ⟨[], 0, hlo26, rfl⟩ ?_
    clear hlo26
    rintro (_ | n) _ ⟨v22, v23, h, rfl⟩
    ·cases h
    ·rw [R41_Apply_m0.l24] at h
     refine sq_ ?_
     refine rg4 (st1 := ⟨[(0, .loc 100000 0), (1, .p (.list (.named 7)) a1), (10, .loc 60 0), (64, .vec 100001 3 0 a0.length), (65, .p I6 ((a0.length : Int) : Int)), (66, .p I6 v23), (67, .p .bool ((decide (v23 < (a0.length : Int))) : Bool))], [(60, .box [.vec 65840 3 0 v22.length]), (65840, .row 50 (.named 3) v22 false), (100000, .box [.vec 100001 3 0 a0.length]), (100001, .row 50 (.named 3) a0 false)]⟩) [0, 1, 10, 64, 65, 66, 67] [60, 65840, 100000, 100001] hN (.cons (cmU (rs := [(66, .p I6 v23), (65, .p I6 ((a0.length : Int) : Int))]) rfl rfl o0 o1 rfl) .nil) (by kernel_rfl) ?_
     refine tnS ?_
     refine cdU (b := (decide (v23 < (a0.length : Int)))) (.tmp m6_) (fun hc28 => ?_) (fun hc28 => ?_)
     ·replace h := ite_t hc28 h
      refine wc_ (cvK (b := ⟨[(0, .loc 100000 0), (1, .p (.list (.named 7)) a1), (10, .loc 60 0), (64, .vec 100001 3 0 a0.length), (65, .p I6 ((a0.length : Int) : Int)), (66, .p I6 v23)], [(60, .box [.vec 65840 3 0 v22.length]), (65840, .row 50 (.named 3) v22 false), (100000, .box [.vec 100001 3 0 a0.length]), (100001, .row 50 (.named 3) a0 false)]⟩) [0, 1, 10, 64, 65, 66] [60, 65840, 100000, 100001] (by kernel_rfl)) (ws_ ?_)
      refine tnU ?_
      refine sqJ (fun st' => ∃ v29 : List TF, R41_Apply_m0.j30 k (R41_Apply_m0.l24 k a0 a1 n) a0 a1 v23 v29 = some o26 ∧ st' = ⟨[(0, .loc 100000 0), (1, .p (.list (.named 7)) a1), (10, .loc 60 0), (64, .vec 100001 3 0 a0.length), (65, .p I6 ((a0.length : Int) : Int)), (66, .p I6 v23)], [(60, .box [.vec 65840 3 0 v29.length]), (65840, .row 50 (.named 3) v29 false), (100000, .box [.vec 100001 3 0 a0.length]), (100001, .row 50 (.named 3) a0 false)]⟩) ?_ ?_
      ·refine wb_ ?_
       refine sq_ ?_
       obtain ⟨g31, h⟩ := if_some h
       obtain ⟨v32, hv32, h⟩ := bind_some h
       refine rg4 (st1 := ⟨[(0, .loc 100000 0), (1, .p (.list (.named 7)) a1), (10, .loc 60 0), (12, .loc 12 0), (64, .vec 100001 3 0 a0.length), (65, .p I6 ((a0.length : Int) : Int)), (66, .p I6 v23)], [(12, .box [.p .str v32.fN, .p .str v32.fC, .p I6 v32.fT]), (60, .box [.vec 65840 3 0 v22.length]), (65840, .row 50 (.named 3) v22 false), (100000, .box [.vec 100001 3 0 a0.length]), (100001, .row 50 (.named 3) a0 false)]⟩) [0, 1, 10, 12, 64, 65, 66] [12, 60, 65840, 100000, 100001] hN (.cons (u35_ (rs := [(64, .vec 100001 3 0 a0.length), (66, .p I6 v23)]) rfl rfl sl_45 o0 o1 g31) (.cons (u40_ (E := 50) (t := .named 3) (rs := [(68, .eloc 100001 3 (0 + v23.toNat) 0)]) (xs := a0) (fx := false) rfl rfl ty_50 o0 hv32 (.here _ _)) (.cons (u18_ (rs := []) (d := 12) (us := [.p .str ([] : List UInt8), .p .str ([] : List UInt8), .p I6 (0 : Int)]) (v := (.agg #[.string ByteArray.empty, .string ByteArray.empty, .int .i64 0])) rfl rfl rfl (by kernel_rfl) rfl (.data (fun _ _ _ => rd_str0) (.data (fun _ _ _ => rd_str0) (.data (fun _ _ _ => .int _ _) .nil))) (by kernel_rfl)) (.cons (u54_ (rs := [(12, .loc 12 0), (69, .p (.named 3) v32)]) (v := .p (.named 3) v32) (mid' := [.p .str v32.fN, .p .str v32.fC, .p I6 v32.fT]) [] [.p .str ([] : List UInt8), .p .str ([] : List UInt8), .p I6 (0 : Int)] [] rfl rfl rfl ty_50 o0 o1 (.data (.named (us := ([.p .str v32.fN, .p .str v32.fC, .p I6 v32.fT] : List (AVal Un))) (.pair (.one _ _) (.pair (.one _ _) (.pair (.one _ _) .unit))))) rfl rfl rfl rfl rfl rfl) .nil)))) (by kernel_rfl) ?_
       refine tnS ?_
       refine rg4 (st1 := ⟨[(0, .loc 100000 0), (1, .p (.list (.named 7)) a1), (10, .loc 60 0), (12, .loc 12 0), (13, .p .bool false), (64, .vec 100001 3 0 a0.length), (65, .p I6 ((a0.length : Int) : Int)), (66, .p I6 v23)], [(12, .box [.p .str v32.fN, .p .str v32.fC, .p I6 v32.fT]), (60, .box [.vec 65840 3 0 v22.length]), (65840, .row 50 (.named 3) v22 false), (100000, .box [.vec 100001 3 0 a0.length]), (100001, .row 50 (.named 3) a0 false)]⟩) [0, 1, 10, 12, 13, 64, 65, 66] [12, 60, 65840, 100000, 100001] hN (.cons (moU (rs := []) rfl (.inr rfl) (.bool _ _)) .nil) (by kernel_rfl) ?_
       refine tnU ?_
       refine sqJ (fun st' => ∃ v33 : Bool, R41_Apply_m0.j36 k (R41_Apply_m0.l24 k a0 a1 n) a0 a1 v22 v23 v32 v33 = some o26 ∧ st' = ⟨[(0, .loc 100000 0), (1, .p (.list (.named 7)) a1), (10, .loc 60 0), (12, .loc 12 0), (13, .p .bool v33), (64, .vec 100001 3 0 a0.length), (65, .p I6 ((a0.length : Int) : Int)), (66, .p I6 v23)], [(12, .box [.p .str v32.fN, .p .str v32.fC, .p I6 v32.fT]), (60, .box [.vec 65840 3 0 v22.length]), (65840, .row 50 (.named 3) v22 false), (100000, .box [.vec 100001 3 0 a0.length]), (100001, .row 50 (.named 3) a0 false)]⟩) ?_ ?_
       ·refine sq_ ?_
        refine rg4 (st1 := ⟨[(0, .loc 100000 0), (1, .p (.list (.named 7)) a1), (10, .loc 60 0), (12, .loc 12 0), (13, .p .bool false), (64, .vec 100001 3 0 a0.length), (65, .p I6 ((a0.length : Int) : Int)), (66, .p I6 v23), (70, .p (.list (.named 7)) a1), (71, .p I6 ((a1.length : Int) : Int)), (72, .p I6 (0 : Int))], [(12, .box [.p .str v32.fN, .p .str v32.fC, .p I6 v32.fT]), (60, .box [.vec 65840 3 0 v22.length]), (65840, .row 50 (.named 3) v22 false), (100000, .box [.vec 100001 3 0 a0.length]), (100001, .row 50 (.named 3) a0 false)]⟩) [0, 1, 10, 12, 13, 64, 65, 66, 70, 71, 72] [12, 60, 65840, 100000, 100001] hN (.cons (mvU (v := .p (.list (.named 7)) a1) rfl rfl) (.cons (u36_ (rs := [(70, .p (.list (.named 7)) a1)]) rfl rfl Tryd.underlying66 o0) (.cons (moU (rs := []) rfl (.inl rfl) (.int _ _ _)) .nil))) (by kernel_rfl) ?_
        refine tnU ?_
        refine wb_ ?_
        obtain ⟨o41, hlo41, h⟩ := bind_some h
        have hout42 := h
        clear h
        refine u14_ (fun n st' => ∃ v37 : Bool, ∃ v38 : Int, R41_Apply_m0.l39 k a0 a1 v22 v23 v32 n v37 v38 = some o41 ∧ st' = ⟨[(0, .loc 100000 0), (1, .p (.list (.named 7)) a1), (10, .loc 60 0), (12, .loc 12 0), (13, .p .bool v37), (64, .vec 100001 3 0 a0.length), (65, .p I6 ((a0.length : Int) : Int)), (66, .p I6 v23), (70, .p (.list (.named 7)) a1), (71, .p I6 ((a1.length : Int) : Int)), (72, .p I6 v38)], [(12, .box [.p .str v32.fN, .p .str v32.fC, .p I6 v32.fT]), (60, .box [.vec 65840 3 0 v22.length]), (65840, .row 50 (.named 3) v22 false), (100000, .box [.vec 100001 3 0 a0.length]), (100001, .row 50 (.named 3) a0 false)]⟩) k ⟨false, 0, hlo41, rfl⟩ ?_
        clear hlo41
        rintro (_ | n) _ ⟨v37, v38, h, rfl⟩
        ·cases h
        ·rw [R41_Apply_m0.l39] at h
         refine sq_ ?_
         refine rg4 (st1 := ⟨[(0, .loc 100000 0), (1, .p (.list (.named 7)) a1), (10, .loc 60 0), (12, .loc 12 0), (13, .p .bool v37), (64, .vec 100001 3 0 a0.length), (65, .p I6 ((a0.length : Int) : Int)), (66, .p I6 v23), (70, .p (.list (.named 7)) a1), (71, .p I6 ((a1.length : Int) : Int)), (72, .p I6 v38), (73, .p .bool ((decide (v38 < (a1.length : Int))) : Bool))], [(12, .box [.p .str v32.fN, .p .str v32.fC, .p I6 v32.fT]), (60, .box [.vec 65840 3 0 v22.length]), (65840, .row 50 (.named 3) v22 false), (100000, .box [.vec 100001 3 0 a0.length]), (100001, .row 50 (.named 3) a0 false)]⟩) [0, 1, 10, 12, 13, 64, 65, 66, 70, 71, 72, 73] [12, 60, 65840, 100000, 100001] hN (.cons (cmU (rs := [(72, .p I6 v38), (71, .p I6 ((a1.length : Int) : Int))]) rfl rfl o0 o1 rfl) .nil) (by kernel_rfl) ?_
         refine tnS ?_
         refine cdU (b := (decide (v38 < (a1.length : Int)))) (.tmp (.tail _ (.tail _ (.tail _ m8_)))) (fun hc43 => ?_) (fun hc43 => ?_)
         ·replace h := ite_t hc43 h
          refine wc_ (cvK (b := ⟨[(0, .loc 100000 0), (1, .p (.list (.named 7)) a1), (10, .loc 60 0), (12, .loc 12 0), (13, .p .bool v37), (64, .vec 100001 3 0 a0.length), (65, .p I6 ((a0.length : Int) : Int)), (66, .p I6 v23), (70, .p (.list (.named 7)) a1), (71, .p I6 ((a1.length : Int) : Int)), (72, .p I6 v38)], [(12, .box [.p .str v32.fN, .p .str v32.fC, .p I6 v32.fT]), (60, .box [.vec 65840 3 0 v22.length]), (65840, .row 50 (.named 3) v22 false), (100000, .box [.vec 100001 3 0 a0.length]), (100001, .row 50 (.named 3) a0 false)]⟩) [0, 1, 10, 12, 13, 64, 65, 66, 70, 71, 72] [12, 60, 65840, 100000, 100001] (by kernel_rfl)) (ws_ ?_)
          refine tnU ?_
          refine sqJ (fun st' => ∃ v44 : Bool, R41_Apply_m0.j45 k (R41_Apply_m0.l39 k a0 a1 v22 v23 v32 n) a0 a1 v22 v23 v32 v38 v44 = some o41 ∧ st' = ⟨[(0, .loc 100000 0), (1, .p (.list (.named 7)) a1), (10, .loc 60 0), (12, .loc 12 0), (13, .p .bool v44), (64, .vec 100001 3 0 a0.length), (65, .p I6 ((a0.length : Int) : Int)), (66, .p I6 v23), (70, .p (.list (.named 7)) a1), (71, .p I6 ((a1.length : Int) : Int)), (72, .p I6 v38)], [(12, .box [.p .str v32.fN, .p .str v32.fC, .p I6 v32.fT]), (60, .box [.vec 65840 3 0 v22.length]), (65840, .row 50 (.named 3) v22 false), (100000, .box [.vec 100001 3 0 a0.length]), (100001, .row 50 (.named 3) a0 false)]⟩) ?_ ?_
          ·refine wb_ ?_
           refine sq_ ?_
           obtain ⟨v46, hv46, h⟩ := bind_some h
           refine rg4 (st1 := ⟨[(0, .loc 100000 0), (1, .p (.list (.named 7)) a1), (10, .loc 60 0), (12, .loc 12 0), (13, .p .bool v37), (15, .loc 15 0), (64, .vec 100001 3 0 a0.length), (65, .p I6 ((a0.length : Int) : Int)), (66, .p I6 v23), (70, .p (.list (.named 7)) a1), (71, .p I6 ((a1.length : Int) : Int)), (72, .p I6 v38)], [(12, .box [.p .str v32.fN, .p .str v32.fC, .p I6 v32.fT]), (15, .box [.p I6 v46.fK, .p .str v46.fO.fN, .p .str v46.fO.fC, .p I6 v46.fO.fT, .p .str v46.fW.fN, .p .str v46.fW.fC, .p I6 v46.fW.fT]), (60, .box [.vec 65840 3 0 v22.length]), (65840, .row 50 (.named 3) v22 false), (100000, .box [.vec 100001 3 0 a0.length]), (100001, .row 50 (.named 3) a0 false)]⟩) [0, 1, 10, 12, 13, 15, 64, 65, 66, 70, 71, 72] [12, 15, 60, 65840, 100000, 100001] hN (.cons (u33_ (rs := [(70, .p (.list (.named 7)) a1), (72, .p I6 v38)]) rfl rfl sl_66 o0 o1 hv46) (.cons (u42_ (rs := [(74, .pp (.named 7) v46)]) rfl rfl ty_77 o0) (.cons (u18_ (rs := []) (d := 15) (us := [.p I6 (0 : Int), .p .str ([] : List UInt8), .p .str ([] : List UInt8), .p I6 (0 : Int), .p .str ([] : List UInt8), .p .str ([] : List UInt8), .p I6 (0 : Int)]) (v := (.agg #[.int .i64 0, .string ByteArray.empty, .string ByteArray.empty, .int .i64 0, .string ByteArray.empty, .string ByteArray.empty, .int .i64 0])) rfl rfl rfl (by kernel_rfl) rfl (.data (fun _ _ _ => .int _ _) (.data (fun _ _ _ => rd_str0) (.data (fun _ _ _ => rd_str0) (.data (fun _ _ _ => .int _ _) (.data (fun _ _ _ => rd_str0) (.data (fun _ _ _ => rd_str0) (.data (fun _ _ _ => .int _ _) .nil))))))) (by kernel_rfl)) (.cons (u54_ (rs := [(15, .loc 15 0), (75, .p (.named 7) v46)]) (v := .p (.named 7) v46) (mid' := [.p I6 v46.fK, .p .str v46.fO.fN, .p .str v46.fO.fC, .p I6 v46.fO.fT, .p .str v46.fW.fN, .p .str v46.fW.fC, .p I6 v46.fW.fT]) [] [.p I6 (0 : Int), .p .str ([] : List UInt8), .p .str ([] : List UInt8), .p I6 (0 : Int), .p .str ([] : List UInt8), .p .str ([] : List UInt8), .p I6 (0 : Int)] [] rfl rfl rfl ty_77 o0 o1 (.data (.named (us := ([.p I6 v46.fK, .p .str v46.fO.fN, .p .str v46.fO.fC, .p I6 v46.fO.fT, .p .str v46.fW.fN, .p .str v46.fW.fC, .p I6 v46.fW.fT] : List (AVal Un))) (.pair (.one _ _) (.pair (.named (us := ([.p .str v46.fO.fN, .p .str v46.fO.fC, .p I6 v46.fO.fT] : List (AVal Un))) (.pair (.one _ _) (.pair (.one _ _) (.pair (.one _ _) .unit)))) (.pair (.named (us := ([.p .str v46.fW.fN, .p .str v46.fW.fC, .p I6 v46.fW.fT] : List (AVal Un))) (.pair (.one _ _) (.pair (.one _ _) (.pair (.one _ _) .unit)))) .unit))))) rfl rfl rfl rfl rfl rfl) .nil)))) (by kernel_rfl) ?_
           refine tnU ?_
           rcases bool_cases v37 with hc47 | hc47
           ·replace h := ite_t hc47 h
            refine rg4 (st1 := ⟨[(0, .loc 100000 0), (1, .p (.list (.named 7)) a1), (10, .loc 60 0), (12, .loc 12 0), (13, .p .bool true), (64, .vec 100001 3 0 a0.length), (65, .p I6 ((a0.length : Int) : Int)), (66, .p I6 v23), (70, .p (.list (.named 7)) a1), (71, .p I6 ((a1.length : Int) : Int)), (72, .p I6 v38)], [(12, .box [.p .str v32.fN, .p .str v32.fC, .p I6 v32.fT]), (60, .box [.vec 65840 3 0 v22.length]), (65840, .row 50 (.named 3) v22 false), (100000, .box [.vec 100001 3 0 a0.length]), (100001, .row 50 (.named 3) a0 false)]⟩) [0, 1, 10, 12, 13, 64, 65, 66, 70, 71, 72] [12, 60, 65840, 100000, 100001] hN (.cons (mvU (v := .p .bool v37) rfl rfl) (.cons (mvU (v := .p .bool v37) rfl rfl) (.cons (skU rfl rfl hc47) (.cons (skU rfl rfl hc47) (.cons (skU rfl rfl hc47) (.cons (skU rfl rfl hc47) (.cons (sok_skipU rfl rfl) (.cons (sok_skipU rfl rfl) (.cons (sok_skipU rfl rfl) (.cons (sok_skipU rfl rfl) (.cons (sok_skipU rfl rfl) (.cons (sok_skipU rfl rfl) (.cons (skU rfl rfl hc47) (.cons (pkT (rs := [(77, .p .bool v37)]) rfl rfl o0 hc47 (.bool _ _)) (.cons (mvA (v := .p .bool true) rfl rfl) .nil))))))))))))))) (by kernel_rfl) ?_
            refine bn_ ?_
            refine tnU ?_
            exact ⟨true, h, rfl⟩
           ·replace h := ite_f hc47 h
            rcases bool_cases (v46.fK == 3) with hc48 | hc48
            ·replace h := ite_t hc48 h
             refine rg4 (st1 := ⟨[(0, .loc 100000 0), (1, .p (.list (.named 7)) a1), (10, .loc 60 0), (12, .loc 12 0), (13, .p .bool ((v46.fO.fN == v32.fN) : Bool)), (64, .vec 100001 3 0 a0.length), (65, .p I6 ((a0.length : Int) : Int)), (66, .p I6 v23), (70, .p (.list (.named 7)) a1), (71, .p I6 ((a1.length : Int) : Int)), (72, .p I6 v38)], [(12, .box [.p .str v32.fN, .p .str v32.fC, .p I6 v32.fT]), (60, .box [.vec 65840 3 0 v22.length]), (65840, .row 50 (.named 3) v22 false), (100000, .box [.vec 100001 3 0 a0.length]), (100001, .row 50 (.named 3) a0 false)]⟩) [0, 1, 10, 12, 13, 64, 65, 66, 70, 71, 72] [12, 60, 65840, 100000, 100001] hN (.cons (mvU (v := .p .bool v37) rfl rfl) (.cons (mvU (v := .p .bool v37) rfl rfl) (.cons (sok_run rfl rfl hc47 (fdB (rs := [(15, .loc 15 0)]) rfl rfl fd_77_0 (by decide) o0)) (.cons (sok_run rfl rfl hc47 (ldB (t := .int .i64) (rs := [(78, .loc 15 0)]) [] [.p I6 v46.fK] [.p .str v46.fO.fN, .p .str v46.fO.fC, .p I6 v46.fO.fT, .p .str v46.fW.fN, .p .str v46.fW.fC, .p I6 v46.fW.fT] (v := .p I6 v46.fK) rfl rfl ty_3 o0 rfl rfl rfl rfl (.data (.one _ _)))) (.cons (sok_run rfl rfl hc47 (cmU (rs := [(79, .p I6 v46.fK)]) rfl rfl o0 (.int _ _ _) rfl)) (.cons (sok_run rfl rfl hc47 (mvU (v := .p .bool ((v46.fK == 3) : Bool)) rfl rfl)) (.cons (sok_run rfl rfl hc48 (fdB (rs := [(15, .loc 15 0)]) rfl rfl fd_77_1 (by decide) o0)) (.cons (sok_run rfl rfl hc48 (fdB (rs := [(82, .loc 15 1)]) rfl rfl fd_50_0 (by decide) o0)) (.cons (sok_run rfl rfl hc48 (ldB (t := .str) (rs := [(83, .loc 15 1)]) [.p I6 v46.fK] [.p .str v46.fO.fN] [.p .str v46.fO.fC, .p I6 v46.fO.fT, .p .str v46.fW.fN, .p .str v46.fW.fC, .p I6 v46.fW.fT] (v := .p .str v46.fO.fN) rfl rfl ty_9 o0 rfl rfl rfl rfl (.data (.one _ _)))) (.cons (sok_run rfl rfl hc48 (fdB (rs := [(12, .loc 12 0)]) rfl rfl fd_50_0 (by decide) o0)) (.cons (sok_run rfl rfl hc48 (ldB (t := .str) (rs := [(85, .loc 12 0)]) [] [.p .str v32.fN] [.p .str v32.fC, .p I6 v32.fT] (v := .p .str v32.fN) rfl rfl ty_9 o0 rfl rfl rfl rfl (.data (.one _ _)))) (.cons (sok_run rfl rfl hc48 (u27_ (rs := [(84, .p .str v46.fO.fN), (86, .p .str v32.fN)]) rfl rfl o0 o1 rfl)) (.cons (sok_run rfl rfl hc47 (pkT (rs := [(81, .p .bool ((v46.fK == 3) : Bool)), (87, .p .bool ((v46.fO.fN == v32.fN) : Bool))]) rfl rfl o0 hc48 o1)) (.cons (pkF (rs := [(77, .p .bool v37), (88, .p .bool ((v46.fO.fN == v32.fN) : Bool))]) rfl rfl o0 hc47 o1) (.cons (mvA (v := .p .bool ((v46.fO.fN == v32.fN) : Bool)) rfl rfl) .nil))))))))))))))) (by kernel_rfl) ?_
             refine bn_ ?_
             refine tnU ?_
             exact ⟨(v46.fO.fN == v32.fN), h, rfl⟩
            ·replace h := ite_f hc48 h
             refine rg4 (st1 := ⟨[(0, .loc 100000 0), (1, .p (.list (.named 7)) a1), (10, .loc 60 0), (12, .loc 12 0), (13, .p .bool false), (64, .vec 100001 3 0 a0.length), (65, .p I6 ((a0.length : Int) : Int)), (66, .p I6 v23), (70, .p (.list (.named 7)) a1), (71, .p I6 ((a1.length : Int) : Int)), (72, .p I6 v38)], [(12, .box [.p .str v32.fN, .p .str v32.fC, .p I6 v32.fT]), (60, .box [.vec 65840 3 0 v22.length]), (65840, .row 50 (.named 3) v22 false), (100000, .box [.vec 100001 3 0 a0.length]), (100001, .row 50 (.named 3) a0 false)]⟩) [0, 1, 10, 12, 13, 64, 65, 66, 70, 71, 72] [12, 60, 65840, 100000, 100001] hN (.cons (mvU (v := .p .bool v37) rfl rfl) (.cons (mvU (v := .p .bool v37) rfl rfl) (.cons (sok_run rfl rfl hc47 (fdB (rs := [(15, .loc 15 0)]) rfl rfl fd_77_0 (by decide) o0)) (.cons (sok_run rfl rfl hc47 (ldB (t := .int .i64) (rs := [(78, .loc 15 0)]) [] [.p I6 v46.fK] [.p .str v46.fO.fN, .p .str v46.fO.fC, .p I6 v46.fO.fT, .p .str v46.fW.fN, .p .str v46.fW.fC, .p I6 v46.fW.fT] (v := .p I6 v46.fK) rfl rfl ty_3 o0 rfl rfl rfl rfl (.data (.one _ _)))) (.cons (sok_run rfl rfl hc47 (cmU (rs := [(79, .p I6 v46.fK)]) rfl rfl o0 (.int _ _ _) rfl)) (.cons (sok_run rfl rfl hc47 (mvU (v := .p .bool ((v46.fK == 3) : Bool)) rfl rfl)) (.cons (skU rfl rfl hc48) (.cons (skU rfl rfl hc48) (.cons (skU rfl rfl hc48) (.cons (skU rfl rfl hc48) (.cons (skU rfl rfl hc48) (.cons (skU rfl rfl hc48) (.cons (sok_run rfl rfl hc47 (pkF (rs := [(81, .p .bool ((v46.fK == 3) : Bool))]) rfl rfl o0 hc48 (.bool _ _))) (.cons (pkF (rs := [(77, .p .bool v37), (88, .p .bool false)]) rfl rfl o0 hc47 o1) (.cons (mvA (v := .p .bool false) rfl rfl) .nil))))))))))))))) (by kernel_rfl) ?_
             refine bn_ ?_
             refine tnU ?_
             exact ⟨false, h, rfl⟩
          ·rintro _ ⟨v44, h, rfl⟩
           unfold R41_Apply_m0.j45 at h
           refine rg4 (st1 := ⟨[(0, .loc 100000 0), (1, .p (.list (.named 7)) a1), (10, .loc 60 0), (12, .loc 12 0), (13, .p .bool v44), (64, .vec 100001 3 0 a0.length), (65, .p I6 ((a0.length : Int) : Int)), (66, .p I6 v23), (70, .p (.list (.named 7)) a1), (71, .p I6 ((a1.length : Int) : Int)), (72, .p I6 ((IntKind.i64.wrap (v38 + 1)) : Int))], [(12, .box [.p .str v32.fN, .p .str v32.fC, .p I6 v32.fT]), (60, .box [.vec 65840 3 0 v22.length]), (65840, .row 50 (.named 3) v22 false), (100000, .box [.vec 100001 3 0 a0.length]), (100001, .row 50 (.named 3) a0 false)]⟩) [0, 1, 10, 12, 13, 64, 65, 66, 70, 71, 72] [12, 60, 65840, 100000, 100001] hN (.cons (u21_ (rs := [(72, .p I6 v38)]) rfl rfl o0 (.int _ _ _) rfl) (.cons (mvU (v := .p I6 ((IntKind.i64.wrap (v38 + 1)) : Int)) rfl rfl) .nil)) (by kernel_rfl) ?_
           refine tnU ?_
           exact ⟨n, Nat.lt_succ_self n, v44, (IntKind.i64.wrap (v38 + 1)), h, rfl⟩
         ·replace h := ite_f hc43 h
          refine wc_ (cvK (b := ⟨[(0, .loc 100000 0), (1, .p (.list (.named 7)) a1), (10, .loc 60 0), (12, .loc 12 0), (13, .p .bool v37), (64, .vec 100001 3 0 a0.length), (65, .p I6 ((a0.length : Int) : Int)), (66, .p I6 v23)], [(12, .box [.p .str v32.fN, .p .str v32.fC, .p I6 v32.fT]), (60, .box [.vec 65840 3 0 v22.length]), (65840, .row 50 (.named 3) v22 false), (100000, .box [.vec 100001 3 0 a0.length]), (100001, .row 50 (.named 3) a0 false)]⟩) [0, 1, 10, 12, 13, 64, 65, 66] [12, 60, 65840, 100000, 100001] (by kernel_rfl)) (we_ ?_)
          refine te_ ?_
          have hq := Option.some.inj h
          subst hq
          refine te_ ?_
          have h := hout42
          refine blockQ_hit ?_
          refine tnU ?_
          exact ⟨v37, h, rfl⟩
       ·rintro _ ⟨v33, h, rfl⟩
        unfold R41_Apply_m0.j36 at h
        refine sq_ ?_
        refine rg4 (st1 := ⟨[(0, .loc 100000 0), (1, .p (.list (.named 7)) a1), (10, .loc 60 0), (12, .loc 12 0), (64, .vec 100001 3 0 a0.length), (65, .p I6 ((a0.length : Int) : Int)), (66, .p I6 v23), (92, .p .bool ((!v33) : Bool))], [(12, .box [.p .str v32.fN, .p .str v32.fC, .p I6 v32.fT]), (60, .box [.vec 65840 3 0 v22.length]), (65840, .row 50 (.named 3) v22 false), (100000, .box [.vec 100001 3 0 a0.length]), (100001, .row 50 (.named 3) a0 false)]⟩) [0, 1, 10, 12, 64, 65, 66, 92] [12, 60, 65840, 100000, 100001] hN (.cons (mvU (v := .p .bool v33) rfl rfl) (.cons (u50_ (rs := [(91, .p .bool v33)]) rfl rfl o0) .nil)) (by kernel_rfl) ?_
        refine tnU ?_
        refine cdU (b := (!v33)) (.tmp m7_) (fun hc34 => ?_) (fun hc34 => ?_)
        ·replace h := ite_t hc34 h
         obtain ⟨g35, h⟩ := if_some h
         refine u17_ (st1 := ⟨[(0, .loc 100000 0), (1, .p (.list (.named 7)) a1), (10, .loc 60 0), (64, .vec 100001 3 0 a0.length), (65, .p I6 ((a0.length : Int) : Int)), (66, .p I6 v23)], [(60, .box [.vec 100 3 0 ((v22 ++ [(TF.mk v32.fN v32.fC v32.fT)]).length)]), (100, .row 50 (.named 3) (v22 ++ [(TF.mk v32.fN v32.fC v32.fT)]) false), (100000, .box [.vec 100001 3 0 a0.length]), (100001, .row 50 (.named 3) a0 false)]⟩) [0, 1, 10, 64, 65, 66] [60, 100, 100000, 100001] [[], [], [1], [1, 2], [1, 2, 3], [], [5], [1, 2, 3, 4, 5, 6], [0, 1, 2, 3, 4, 5, 6, 7], [0, 1, 2, 3, 4, 5, 6, 7, 8], [0, 1, 2, 3, 4, 5, 6, 7, 8, 9]] mixed hN (.cons (mvU (v := .loc 60 0) rfl rfl) (.cons (mvU (v := .loc 60 0) rfl rfl) (.cons (nlU (rs := [(94, .loc 60 0)]) rfl rfl o0 rfl) (.cons (fdB (rs := [(95, .loc 60 0)]) rfl rfl fd_47_0 (by decide) o0) (.cons (ldB (t := .list (.named 3)) (rs := [(96, .loc 60 0)]) [] [.vec 65840 3 0 v22.length] [] (v := .vec 65840 3 0 v22.length) rfl rfl ty_45 o0 rfl rfl rfl rfl (.hand rfl rfl)) (.cons (ldB (t := .named 3) (rs := [(12, .loc 12 0)]) [] [.p .str v32.fN, .p .str v32.fC, .p I6 v32.fT] [] (v := .p (.named 3) ((TF.mk v32.fN v32.fC v32.fT) : TF)) rfl rfl ty_50 o0 rfl rfl rfl rfl (.data (.named (us := ([.p .str v32.fN, .p .str v32.fC, .p I6 v32.fT] : List (AVal Un))) (.pair (.one _ _) (.pair (.one _ _) (.pair (.one _ _) .unit)))))) (.cons (u24_ (t := .named 3) (rs := [(98, .p (.named 3) ((TF.mk v32.fN v32.fC v32.fT) : TF))]) (ys := [.tmp 98]) (xs := [(TF.mk v32.fN v32.fC v32.fT)]) rfl rfl rfl rfl row_45 (.cons o0 .nil) (by decide)) (.cons (u19_ (t := .named 3) (rs := [(97, .vec 65840 3 0 v22.length), (99, .vec 99 3 0 ([(TF.mk v32.fN v32.fC v32.fT)].length))]) (vw := [(99, .row 50 (.named 3) [(TF.mk v32.fN v32.fC v32.fT)] true)]) (xs := v22) (ys := [(TF.mk v32.fN v32.fC v32.fT)]) (fx := false) rfl rfl rfl row_45 (by decide) o0 o1 (.whole (.head _)) (by simp) g35) (.cons (nlU (rs := [(93, .loc 60 0)]) rfl rfl o0 rfl) (.cons (fdB (rs := [(101, .loc 60 0)]) rfl rfl fd_47_0 (by decide) o0) (.cons (u54_ (rs := [(102, .loc 60 0), (100, .vec 100 3 0 ((v22 ++ [(TF.mk v32.fN v32.fC v32.fT)]).length))]) (v := .vec 100 3 0 ((v22 ++ [(TF.mk v32.fN v32.fC v32.fT)]).length)) (mid' := [.vec 100 3 0 ((v22 ++ [(TF.mk v32.fN v32.fC v32.fT)]).length)]) [] [.vec 65840 3 0 v22.length] [] rfl rfl rfl ty_45 o0 o1 (.hand rfl) rfl rfl rfl rfl rfl rfl) .nil))))))))))) (by kernel_rfl) (by kernel_rfl) (by kernel_rfl) (by kernel_rfl) (by kernel_rfl) (cvT (u12_ (st' := ⟨[(0, .loc 100000 0), (1, .p (.list (.named 7)) a1), (10, .loc 60 0), (64, .vec 100001 3 0 a0.length), (65, .p I6 ((a0.length : Int) : Int)), (66, .p I6 v23)], [(60, .box [.vec 65840 3 0 ((v22 ++ [(TF.mk v32.fN v32.fC v32.fT)]).length)]), (65840, .row 50 (.named 3) (v22 ++ [(TF.mk v32.fN v32.fC v32.fT)]) false), (100000, .box [.vec 100001 3 0 a0.length]), (100001, .row 50 (.named 3) a0 false)]⟩) 100 65840 (by unfold K0; omega) (by kernel_rfl) (by kernel_rfl) (by kernel_rfl)) (cvK (b := ⟨[(0, .loc 100000 0), (1, .p (.list (.named 7)) a1), (10, .loc 60 0), (64, .vec 100001 3 0 a0.length), (65, .p I6 ((a0.length : Int) : Int)), (66, .p I6 v23)], [(60, .box [.vec 65840 3 0 ((v22 ++ [(TF.mk v32.fN v32.fC v32.fT)]).length)]), (65840, .row 50 (.named 3) (v22 ++ [(TF.mk v32.fN v32.fC v32.fT)]) false), (100000, .box [.vec 100001 3 0 a0.length]), (100001, .row 50 (.named 3) a0 false)]⟩) [0, 1, 10, 64, 65, 66] [60, 65840, 100000, 100001] (by kernel_rfl))) ?_
         refine bn_ ?_
         refine tnU ?_
         exact ⟨(v22 ++ [(TF.mk v32.fN v32.fC v32.fT)]), h, rfl⟩
        ·replace h := ite_f hc34 h
         refine wc_ (cvK (b := ⟨[(0, .loc 100000 0), (1, .p (.list (.named 7)) a1), (10, .loc 60 0), (64, .vec 100001 3 0 a0.length), (65, .p I6 ((a0.length : Int) : Int)), (66, .p I6 v23)], [(60, .box [.vec 65840 3 0 v22.length]), (65840, .row 50 (.named 3) v22 false), (100000, .box [.vec 100001 3 0 a0.length]), (100001, .row 50 (.named 3) a0 false)]⟩) [0, 1, 10, 64, 65, 66] [60, 65840, 100000, 100001] (by kernel_rfl)) (ws_ ?_)
         refine bn_ ?_
         refine tnU ?_
         exact ⟨v22, h, rfl⟩
      ·rintro _ ⟨v29, h, rfl⟩
       unfold R41_Apply_m0.j30 at h
       refine rg4 (st1 := ⟨[(0, .loc 100000 0), (1, .p (.list (.named 7)) a1), (10, .loc 60 0), (64, .vec 100001 3 0 a0.length), (65, .p I6 ((a0.length : Int) : Int)), (66, .p I6 ((IntKind.i64.wrap (v23 + 1)) : Int))], [(60, .box [.vec 65840 3 0 v29.length]), (65840, .row 50 (.named 3) v29 false), (100000, .box [.vec 100001 3 0 a0.length]), (100001, .row 50 (.named 3) a0 false)]⟩) [0, 1, 10, 64, 65, 66] [60, 65840, 100000, 100001] hN (.cons (u21_ (rs := [(66, .p I6 v23)]) rfl rfl o0 (.int _ _ _) rfl) (.cons (mvU (v := .p I6 ((IntKind.i64.wrap (v23 + 1)) : Int)) rfl rfl) .nil)) (by kernel_rfl) ?_
       refine tnU ?_
       exact ⟨n, Nat.lt_succ_self n, v29, (IntKind.i64.wrap (v23 + 1)), h, rfl⟩
     ·replace h := ite_f hc28 h
      refine wc_ (cvK (b := ⟨[(0, .loc 100000 0), (1, .p (.list (.named 7)) a1), (10, .loc 60 0)], [(60, .box [.vec 65840 3 0 v22.length]), (65840, .row 50 (.named 3) v22 false), (100000, .box [.vec 100001 3 0 a0.length]), (100001, .row 50 (.named 3) a0 false)]⟩) [0, 1, 10] [60, 65840, 100000, 100001] (by kernel_rfl)) (we_ ?_)
      refine te_ ?_
      have hq := Option.some.inj h
      subst hq
      refine te_ ?_
      have h := hout27
      refine blockQ_hit ?_
      refine tnU ?_
      exact ⟨v22, h, rfl⟩
   ·rintro _ ⟨v3, h, rfl⟩
    unfold R41_Apply_m0.j21 at h
    refine sqJ (fun st' => ∃ v4 : List TF, R41_Apply_m0.j5 k a0 v4 = some out ∧ st' = ⟨[(10, .loc 60 0)], [(60, .box [.vec 65840 3 0 v4.length]), (65840, .row 50 (.named 3) v4 false), (100000, .box [.vec 100001 3 0 a0.length]), (100001, .row 50 (.named 3) a0 false)]⟩) ?_ ?_
    ·refine sq_ ?_
     refine rg4 (st1 := ⟨[(0, .loc 100000 0), (10, .loc 60 0), (104, .p (.list (.named 7)) a1), (105, .p I6 ((a1.length : Int) : Int)), (106, .p I6 (0 : Int))], [(60, .box [.vec 65840 3 0 v3.length]), (65840, .row 50 (.named 3) v3 false), (100000, .box [.vec 100001 3 0 a0.length]), (100001, .row 50 (.named 3) a0 false)]⟩) [0, 10, 104, 105, 106] [60, 65840, 100000, 100001] hN (.cons (mvU (v := .p (.list (.named 7)) a1) rfl rfl) (.cons (u36_ (rs := [(104, .p (.list (.named 7)) a1)]) rfl rfl Tryd.underlying66 o0) (.cons (moU (rs := []) rfl (.inl rfl) (.int _ _ _)) .nil))) (by kernel_rfl) ?_
     refine tnU ?_
     refine wb_ ?_
     obtain ⟨o10, hlo10, h⟩ := bind_some h
     have hout11 := h
     clear h
     refine u14_ (fun n st' => ∃ v6 : List TF, ∃ v7 : Int, R41_Apply_m0.l8 k a0 a1 n v6 v7 = some o10 ∧ st' = ⟨[(0, .loc 100000 0), (10, .loc 60 0), (104, .p (.list (.named 7)) a1), (105, .p I6 ((a1.length : Int) : Int)), (106, .p I6 v7)], [(60, .box [.vec 65840 3 0 v6.length]), (65840, .row 50 (.named 3) v6 false), (100000, .box [.vec 100001 3 0 a0.length]), (100001, .row 50 (.named 3) a0 false)]⟩) k ⟨v3, 0, hlo10, rfl⟩ ?_
     clear hlo10
     rintro (_ | n) _ ⟨v6, v7, h, rfl⟩
     ·cases h
     ·rw [R41_Apply_m0.l8] at h
      refine sq_ ?_
      refine rg4 (st1 := ⟨[(0, .loc 100000 0), (10, .loc 60 0), (104, .p (.list (.named 7)) a1), (105, .p I6 ((a1.length : Int) : Int)), (106, .p I6 v7), (107, .p .bool ((decide (v7 < (a1.length : Int))) : Bool))], [(60, .box [.vec 65840 3 0 v6.length]), (65840, .row 50 (.named 3) v6 false), (100000, .box [.vec 100001 3 0 a0.length]), (100001, .row 50 (.named 3) a0 false)]⟩) [0, 10, 104, 105, 106, 107] [60, 65840, 100000, 100001] hN (.cons (cmU (rs := [(106, .p I6 v7), (105, .p I6 ((a1.length : Int) : Int))]) rfl rfl o0 o1 rfl) .nil) (by kernel_rfl) ?_
      refine tnS ?_
      refine cdU (b := (decide (v7 < (a1.length : Int)))) (.tmp m5_) (fun hc12 => ?_) (fun hc12 => ?_)
      ·replace h := ite_t hc12 h
       refine wc_ (cvK (b := ⟨[(0, .loc 100000 0), (10, .loc 60 0), (104, .p (.list (.named 7)) a1), (105, .p I6 ((a1.length : Int) : Int)), (106, .p I6 v7)], [(60, .box [.vec 65840 3 0 v6.length]), (65840, .row 50 (.named 3) v6 false), (100000, .box [.vec 100001 3 0 a0.length]), (100001, .row 50 (.named 3) a0 false)]⟩) [0, 10, 104, 105, 106] [60, 65840, 100000, 100001] (by kernel_rfl)) (ws_ ?_)
       refine tnU ?_
       refine sqJ (fun st' => ∃ v13 : List TF, R41_Apply_m0.j14 k (R41_Apply_m0.l8 k a0 a1 n) a0 a1 v7 v13 = some o10 ∧ st' = ⟨[(0, .loc 100000 0), (10, .loc 60 0), (104, .p (.list (.named 7)) a1), (105, .p I6 ((a1.length : Int) : Int)), (106, .p I6 v7)], [(60, .box [.vec 65840 3 0 v13.length]), (65840, .row 50 (.named 3) v13 false), (100000, .box [.vec 100001 3 0 a0.length]), (100001, .row 50 (.named 3) a0 false)]⟩) ?_ ?_
       ·refine wb_ ?_
        refine sq_ ?_
        obtain ⟨v15, hv15, h⟩ := bind_some h
        refine rg4 (st1 := ⟨[(0, .loc 100000 0), (10, .loc 60 0), (17, .loc 17 0), (104, .p (.list (.named 7)) a1), (105, .p I6 ((a1.length : Int) : Int)), (106, .p I6 v7)], [(17, .box [.p I6 v15.fK, .p .str v15.fO.fN, .p .str v15.fO.fC, .p I6 v15.fO.fT, .p .str v15.fW.fN, .p .str v15.fW.fC, .p I6 v15.fW.fT]), (60, .box [.vec 65840 3 0 v6.length]), (65840, .row 50 (.named 3) v6 false), (100000, .box [.vec 100001 3 0 a0.length]), (100001, .row 50 (.named 3) a0 false)]⟩) [0, 10, 17, 104, 105, 106] [17, 60, 65840, 100000, 100001] hN (.cons (u33_ (rs := [(104, .p (.list (.named 7)) a1), (106, .p I6 v7)]) rfl rfl sl_66 o0 o1 hv15) (.cons (u42_ (rs := [(108, .pp (.named 7) v15)]) rfl rfl ty_77 o0) (.cons (u18_ (rs := []) (d := 17) (us := [.p I6 (0 : Int), .p .str ([] : List UInt8), .p .str ([] : List UInt8), .p I6 (0 : Int), .p .str ([] : List UInt8), .p .str ([] : List UInt8), .p I6 (0 : Int)]) (v := (.agg #[.int .i64 0, .string ByteArray.empty, .string ByteArray.empty, .int .i64 0, .string ByteArray.empty, .string ByteArray.empty, .int .i64 0])) rfl rfl rfl (by kernel_rfl) rfl (.data (fun _ _ _ => .int _ _) (.data (fun _ _ _ => rd_str0) (.data (fun _ _ _ => rd_str0) (.data (fun _ _ _ => .int _ _) (.data (fun _ _ _ => rd_str0) (.data (fun _ _ _ => rd_str0) (.data (fun _ _ _ => .int _ _) .nil))))))) (by kernel_rfl)) (.cons (u54_ (rs := [(17, .loc 17 0), (109, .p (.named 7) v15)]) (v := .p (.named 7) v15) (mid' := [.p I6 v15.fK, .p .str v15.fO.fN, .p .str v15.fO.fC, .p I6 v15.fO.fT, .p .str v15.fW.fN, .p .str v15.fW.fC, .p I6 v15.fW.fT]) [] [.p I6 (0 : Int), .p .str ([] : List UInt8), .p .str ([] : List UInt8), .p I6 (0 : Int), .p .str ([] : List UInt8), .p .str ([] : List UInt8), .p I6 (0 : Int)] [] rfl rfl rfl ty_77 o0 o1 (.data (.named (us := ([.p I6 v15.fK, .p .str v15.fO.fN, .p .str v15.fO.fC, .p I6 v15.fO.fT, .p .str v15.fW.fN, .p .str v15.fW.fC, .p I6 v15.fW.fT] : List (AVal Un))) (.pair (.one _ _) (.pair (.named (us := ([.p .str v15.fO.fN, .p .str v15.fO.fC, .p I6 v15.fO.fT] : List (AVal Un))) (.pair (.one _ _) (.pair (.one _ _) (.pair (.one _ _) .unit)))) (.pair (.named (us := ([.p .str v15.fW.fN, .p .str v15.fW.fC, .p I6 v15.fW.fT] : List (AVal Un))) (.pair (.one _ _) (.pair (.one _ _) (.pair (.one _ _) .unit)))) .unit))))) rfl rfl rfl rfl rfl rfl) .nil)))) (by kernel_rfl) ?_
        refine tnS ?_
        refine sq_ ?_
        refine rg4 (st1 := ⟨[(0, .loc 100000 0), (10, .loc 60 0), (17, .loc 17 0), (104, .p (.list (.named 7)) a1), (105, .p I6 ((a1.length : Int) : Int)), (106, .p I6 v7), (112, .p .bool ((v15.fK == 3) : Bool))], [(17, .box [.p I6 v15.fK, .p .str v15.fO.fN, .p .str v15.fO.fC, .p I6 v15.fO.fT, .p .str v15.fW.fN, .p .str v15.fW.fC, .p I6 v15.fW.fT]), (60, .box [.vec 65840 3 0 v6.length]), (65840, .row 50 (.named 3) v6 false), (100000, .box [.vec 100001 3 0 a0.length]), (100001, .row 50 (.named 3) a0 false)]⟩) [0, 10, 17, 104, 105, 106, 112] [17, 60, 65840, 100000, 100001] hN (.cons (fdB (rs := [(17, .loc 17 0)]) rfl rfl fd_77_0 (by decide) o0) (.cons (ldB (t := .int .i64) (rs := [(110, .loc 17 0)]) [] [.p I6 v15.fK] [.p .str v15.fO.fN, .p .str v15.fO.fC, .p I6 v15.fO.fT, .p .str v15.fW.fN, .p .str v15.fW.fC, .p I6 v15.fW.fT] (v := .p I6 v15.fK) rfl rfl ty_3 o0 rfl rfl rfl rfl (.data (.one _ _))) (.cons (cmU (rs := [(111, .p I6 v15.fK)]) rfl rfl o0 (.int _ _ _) rfl) .nil))) (by kernel_rfl) ?_
        refine tnU ?_
        refine cdU (b := (v15.fK == 3)) (.tmp m6_) (fun hc16 => ?_) (fun hc16 => ?_)
        ·replace h := ite_t hc16 h
         refine wc_ (cvK (b := ⟨[(0, .loc 100000 0), (10, .loc 60 0), (104, .p (.list (.named 7)) a1), (105, .p I6 ((a1.length : Int) : Int)), (106, .p I6 v7)], [(60, .box [.vec 65840 3 0 v6.length]), (65840, .row 50 (.named 3) v6 false), (100000, .box [.vec 100001 3 0 a0.length]), (100001, .row 50 (.named 3) a0 false)]⟩) [0, 10, 104, 105, 106] [60, 65840, 100000, 100001] (by kernel_rfl)) (we_ ?_)
         refine te_ ?_
         refine blockQ_hit ?_
         refine tnU ?_
         exact ⟨v6, h, rfl⟩
        ·replace h := ite_f hc16 h
         refine wc_ (cvK (b := ⟨[(0, .loc 100000 0), (10, .loc 60 0), (17, .loc 17 0), (104, .p (.list (.named 7)) a1), (105, .p I6 ((a1.length : Int) : Int)), (106, .p I6 v7)], [(17, .box [.p I6 v15.fK, .p .str v15.fO.fN, .p .str v15.fO.fC, .p I6 v15.fO.fT, .p .str v15.fW.fN, .p .str v15.fW.fC, .p I6 v15.fW.fT]), (60, .box [.vec 65840 3 0 v6.length]), (65840, .row 50 (.named 3) v6 false), (100000, .box [.vec 100001 3 0 a0.length]), (100001, .row 50 (.named 3) a0 false)]⟩) [0, 10, 17, 104, 105, 106] [17, 60, 65840, 100000, 100001] (by kernel_rfl)) (ws_ ?_)
         refine tnS ?_
         obtain ⟨v17, hv17, h⟩ := bind_some h
         refine rg4 (st1 := ⟨[(0, .loc 100000 0), (10, .loc 60 0), (18, .p I6 v17.1), (104, .p (.list (.named 7)) a1), (105, .p I6 ((a1.length : Int) : Int)), (106, .p I6 v7)], [(60, .box [.vec 10002 3 0 v17.2.length]), (10002, .row 50 (.named 3) v17.2 false), (100000, .box [.vec 100001 3 0 a0.length]), (100001, .row 50 (.named 3) a0 false)]⟩) [0, 10, 18, 104, 105, 106] [60, 10002, 100000, 100001] hN (.cons (mvU (v := .loc 60 0) rfl rfl) (.cons (fdB (rs := [(17, .loc 17 0)]) rfl rfl fd_77_2 (by decide) o0) (.cons (ldB (t := .named 3) (rs := [(114, .loc 17 4)]) [.p I6 v15.fK, .p .str v15.fO.fN, .p .str v15.fO.fC, .p I6 v15.fO.fT] [.p .str v15.fW.fN, .p .str v15.fW.fC, .p I6 v15.fW.fT] [] (v := .p (.named 3) ((TF.mk v15.fW.fN v15.fW.fC v15.fW.fT) : TF)) rfl rfl ty_50 o0 rfl rfl rfl rfl (.data (.named (us := ([.p .str v15.fW.fN, .p .str v15.fW.fC, .p I6 v15.fW.fT] : List (AVal Un))) (.pair (.one _ _) (.pair (.one _ _) (.pair (.one _ _) .unit)))))) (.cons (caV (rs := [(113, .loc 60 0), (115, .p (.named 3) ((TF.mk v15.fW.fN v15.fW.fC v15.fW.fT) : TF))]) (vw := []) rfl rfl (.func _) hb_20 (COk.ren (R02_Tree_Put_m0.ok O hO k v6 (TF.mk v15.fW.fN v15.fW.fC v15.fW.fT) v17 hv17) (fun n => if n = 60001 then 10002 else if n = 100000 then 60 else if n = 100001 then 65840 else n) (injOn_of (by kernel_rfl))) (.cons o0 (.cons o1 .nil)) (.cons (.same _) (.cons (.same _) .nil)) (by simp) (.inl rfl)) (.cons (mvA (v := .p I6 v17.1) rfl rfl) .nil))))) (by kernel_rfl) ?_
         refine tnS ?_
         refine rg4 (st1 := ⟨[(0, .loc 100000 0), (10, .loc 60 0), (18, .p I6 v17.1), (104, .p (.list (.named 7)) a1), (105, .p I6 ((a1.length : Int) : Int)), (106, .p I6 v7), (118, .p .bool ((v17.1 != 0) : Bool))], [(60, .box [.vec 10002 3 0 v17.2.length]), (10002, .row 50 (.named 3) v17.2 false), (100000, .box [.vec 100001 3 0 a0.length]), (100001, .row 50 (.named 3) a0 false)]⟩) [0, 10, 18, 104, 105, 106, 118] [60, 10002, 100000, 100001] hN (.cons (mvU (v := .p I6 v17.1) rfl rfl) (.cons (cmU (rs := [(117, .p I6 v17.1)]) rfl rfl o0 (.int _ _ _) rfl) .nil)) (by kernel_rfl) ?_
         refine tnU ?_
         refine cdU (b := (v17.1 != 0)) (.tmp m6_) (fun hc18 => ?_) (fun hc18 => ?_)
         ·replace h := ite_t hc18 h
          refine sq_ ?_
          refine rg4 (st1 := ⟨[(4, .loc 100000 0), (5, .p I6 v17.1)], [(100000, .box [.vec 100001 3 0 a0.length]), (100001, .row 50 (.named 3) a0 false)]⟩) [4, 5] [100000, 100001] hN (.cons (mvU (v := .loc 100000 0) rfl rfl) (.cons (mvU (v := .p I6 v17.1) rfl rfl) (.cons (mvA (v := .loc 100000 0) rfl rfl) (.cons (mvA (v := .p I6 v17.1) rfl rfl) .nil)))) (by kernel_rfl) ?_
          refine tnU ?_
          refine wc_ (cvT (u12_ (st' := ⟨[(4, .loc 100000 0), (5, .p I6 v17.1)], [(100000, .box [.vec 60501 3 0 a0.length]), (60501, .row 50 (.named 3) a0 false)]⟩) 100001 60501 (by unfold K0; omega) (by kernel_rfl) (by kernel_rfl) (by kernel_rfl)) (cvT (cvK (b := ⟨[(4, .loc 100000 0), (5, .p I6 v17.1)], [(60501, .row 50 (.named 3) a0 false), (100000, .box [.vec 60501 3 0 a0.length])]⟩) [4, 5] [60501, 100000] (by kernel_rfl)) (cvT (u12_ (st' := ⟨[(4, .loc 60500 0), (5, .p I6 v17.1)], [(60501, .row 50 (.named 3) a0 false), (60500, .box [.vec 60501 3 0 a0.length])]⟩) 100000 60500 (by unfold K0; omega) (by kernel_rfl) (by kernel_rfl) (by kernel_rfl)) (cvK (b := ⟨[(4, .loc 60500 0), (5, .p I6 v17.1)], [(60500, .box [.vec 60501 3 0 a0.length]), (60501, .row 50 (.named 3) a0 false)]⟩) [4, 5] [60500, 60501] (by kernel_rfl))))) (wr_ ?_)
          refine blockQ_ret ?_
          refine tr_ ?_
          have hq := Option.some.inj h
          subst hq
          refine tr_ ?_
          have h := hout11
          refine blockQ_ret ?_
          refine tr_ ?_
          have hq := Option.some.inj h
          subst hq
          exact ends_ret (retV_2 rfl (.head _) m1_) (ain_cons (.head _) (ain_cons m1_ ain_nil))
         ·replace h := ite_f hc18 h
          refine wc_ (cvT (cvK (b := ⟨[(0, .loc 100000 0), (10, .loc 60 0), (104, .p (.list (.named 7)) a1), (105, .p I6 ((a1.length : Int) : Int)), (106, .p I6 v7)], [(60, .box [.vec 10002 3 0 v17.2.length]), (10002, .row 50 (.named 3) v17.2 false), (100000, .box [.vec 100001 3 0 a0.length]), (100001, .row 50 (.named 3) a0 false)]⟩) [0, 10, 104, 105, 106] [60, 10002, 100000, 100001] (by kernel_rfl)) (cvT (u12_ (st' := ⟨[(0, .loc 100000 0), (10, .loc 60 0), (104, .p (.list (.named 7)) a1), (105, .p I6 ((a1.length : Int) : Int)), (106, .p I6 v7)], [(60, .box [.vec 65840 3 0 v17.2.length]), (65840, .row 50 (.named 3) v17.2 false), (100000, .box [.vec 100001 3 0 a0.length]), (100001, .row 50 (.named 3) a0 false)]⟩) 10002 65840 (by unfold K0; omega) (by kernel_rfl) (by kernel_rfl) (by kernel_rfl)) (cvK (b := ⟨[(0, .loc 100000 0), (10, .loc 60 0), (104, .p (.list (.named 7)) a1), (105, .p I6 ((a1.length : Int) : Int)), (106, .p I6 v7)], [(60, .box [.vec 65840 3 0 v17.2.length]), (65840, .row 50 (.named 3) v17.2 false), (100000, .box [.vec 100001 3 0 a0.length]), (100001, .row 50 (.named 3) a0 false)]⟩) [0, 10, 104, 105, 106] [60, 65840, 100000, 100001] (by kernel_rfl)))) (ws_ ?_)
          refine bn_ ?_
          refine tnU ?_
          exact ⟨v17.2, h, rfl⟩
       ·rintro _ ⟨v13, h, rfl⟩
        unfold R41_Apply_m0.j14 at h
        refine rg4 (st1 := ⟨[(0, .loc 100000 0), (10, .loc 60 0), (104, .p (.list (.named 7)) a1), (105, .p I6 ((a1.length : Int) : Int)), (106, .p I6 ((IntKind.i64.wrap (v7 + 1)) : Int))], [(60, .box [.vec 65840 3 0 v13.length]), (65840, .row 50 (.named 3) v13 false), (100000, .box [.vec 100001 3 0 a0.length]), (100001, .row 50 (.named 3) a0 false)]⟩) [0, 10, 104, 105, 106] [60, 65840, 100000, 100001] hN (.cons (u21_ (rs := [(106, .p I6 v7)]) rfl rfl o0 (.int _ _ _) rfl) (.cons (mvU (v := .p I6 ((IntKind.i64.wrap (v7 + 1)) : Int)) rfl rfl) .nil)) (by kernel_rfl) ?_
        refine tnU ?_
        exact ⟨n, Nat.lt_succ_self n, v13, (IntKind.i64.wrap (v7 + 1)), h, rfl⟩
      ·replace h := ite_f hc12 h
       refine wc_ (cvK (b := ⟨[(10, .loc 60 0)], [(60, .box [.vec 65840 3 0 v6.length]), (65840, .row 50 (.named 3) v6 false), (100000, .box [.vec 100001 3 0 a0.length]), (100001, .row 50 (.named 3) a0 false)]⟩) [10] [60, 65840, 100000, 100001] (by kernel_rfl)) (we_ ?_)
       refine te_ ?_
       have hq := Option.some.inj h
       subst hq
       refine te_ ?_
       have h := hout11
       refine blockQ_hit ?_
       refine tnU ?_
       exact ⟨v6, h, rfl⟩
    ·rintro _ ⟨v4, h, rfl⟩
     unfold R41_Apply_m0.j5 at h
     refine sq_ ?_
     refine rg4 (st1 := ⟨[(4, .loc 60 0), (5, .p I6 (0 : Int))], [(60, .box [.vec 65840 3 0 v4.length]), (65840, .row 50 (.named 3) v4 false), (100000, .box [.vec 100001 3 0 a0.length]), (100001, .row 50 (.named 3) a0 false)]⟩) [4, 5] [60, 65840, 100000, 100001] hN (.cons (mvU (v := .loc 60 0) rfl rfl) (.cons (mvA (v := .loc 60 0) rfl rfl) (.cons (moU (rs := []) rfl (.inr rfl) (.int _ _ _)) .nil))) (by kernel_rfl) ?_
     refine tnU ?_
     refine wc_ (cvT (u12_ (st' := ⟨[(4, .loc 60 0), (5, .p I6 (0 : Int))], [(60, .box [.vec 60501 3 0 v4.length]), (60501, .row 50 (.named 3) v4 false), (100000, .box [.vec 100001 3 0 a0.length]), (100001, .row 50 (.named 3) a0 false)]⟩) 65840 60501 (by unfold K0; omega) (by kernel_rfl) (by kernel_rfl) (by kernel_rfl)) (cvT (cvK (b := ⟨[(4, .loc 60 0), (5, .p I6 (0 : Int))], [(60, .box [.vec 60501 3 0 v4.length]), (60501, .row 50 (.named 3) v4 false), (100000, .box [.vec 100001 3 0 a0.length]), (100001, .row 50 (.named 3) a0 false)]⟩) [4, 5] [60, 60501, 100000, 100001] (by kernel_rfl)) (cvT (u12_ (st' := ⟨[(4, .loc 60500 0), (5, .p I6 (0 : Int))], [(60500, .box [.vec 60501 3 0 v4.length]), (60501, .row 50 (.named 3) v4 false), (100000, .box [.vec 100001 3 0 a0.length]), (100001, .row 50 (.named 3) a0 false)]⟩) 60 60500 (by unfold K0; omega) (by kernel_rfl) (by kernel_rfl) (by kernel_rfl)) (cvK (b := ⟨[(4, .loc 60500 0), (5, .p I6 (0 : Int))], [(60500, .box [.vec 60501 3 0 v4.length]), (60501, .row 50 (.named 3) v4 false), (100000, .box [.vec 100001 3 0 a0.length]), (100001, .row 50 (.named 3) a0 false)]⟩) [4, 5] [60500, 60501, 100000, 100001] (by kernel_rfl))))) (wr_ ?_)
     have hq := Option.some.inj h
     subst hq
     exact ends_ret (retV_2 rfl (.head _) m1_) (ain_cons (.head _) (ain_cons m1_ ain_nil))

end Go.Proofs.YtkdpaglpieamgaaDoor
