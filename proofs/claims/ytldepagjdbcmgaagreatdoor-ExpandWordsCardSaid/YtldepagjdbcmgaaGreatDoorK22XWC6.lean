/- A part of the proof of a given law: XWC6. Own work, printed in part by a program of mine. -/
import Derived.Test.YtldepagjdbcmgaaGreatDoorK22XWC5
namespace Go.Proofs.YtldepagjdbcmgaaGreatDoor
open Go Go.AM
set_option linter.unusedVariables false
set_option linter.unusedSimpArgs false
set_option maxRecDepth 100000
set_option maxHeartbeats 4000000
theorem millwrightnum_SameTexts.ok (O : Out) (hO : GOk O) (k : Nat) (a0 : List (List UInt8)) (a1 : List (List UInt8)) (out : Bool) (h : millwrightnum_SameTexts.f k a0 a1 = some out) : COk Un O Tryz.prog 15 { ar := [.p (.list .str) a0, .p (.list .str) a1], r := .p .bool out } := by
  refine cok_of_wp Tryz.func15 rfl (k := 26) rfl (Nat.le_of_ble_eq_true rfl) (namesOk_pure rfl rfl rfl rfl) ?_
  intro B hN
  refine WpC.conv (cvK (b := ⟨[(0, .p (.list .str) a0), (1, .p (.list .str) a1)], []⟩) [0, 1] [] (by kernel_rfl)) ?_
  unfold millwrightnum_SameTexts.f at h
  refine WpC.seq ?_
  refine rS {} [0, 1] [] hN (by kernel_rfl) (by kernel_rfl) ?_
  refine tnU ?_
  refine WpC.seq ?_
  refine WpC.seq ?_
  refine rS {} [0, 1, 10] [] hN (by kernel_rfl) (by kernel_rfl) ?_
  refine tnU ?_
  refine tS (b := ((a0.length : Int) != (a1.length : Int))) (by kernel_rfl) (fun hc1 => ?_) (fun hc1 => ?_)
  · replace h := ite_t hc1 h
    refine WpC.seq ?_
    refine rS {} [4] [] hN (by kernel_rfl) (by kernel_rfl) ?_
    refine tnU ?_
    refine WpC.ret ?_
    refine thenQ_ret ?_
    have hq := Option.some.inj h
    subst hq
    exact eR (by kernel_rfl) (by kernel_rfl)
  · replace h := ite_f hc1 h
    refine WpC.conv (cS [.k [0, 1] []] (by kernel_rfl) (by kernel_rfl)) (WpC.skip ?_)
    refine tnU ?_
    refine sqJ (fun st' => millwrightnum_SameTexts.j2 k = some out ∧ st' = ⟨[], []⟩) ?_ ?_
    · refine WpC.seq ?_
      refine rS {} [0, 1, 12, 13] [] hN (by kernel_rfl) (by kernel_rfl) ?_
      refine tnU ?_
      refine WpC.block ?_
      obtain ⟨o5, hlo5, h⟩ := bind_some h
      have hout6 := h
      clear h
      refine WpC.loop (U := Un) (fun n st' => ∃ v3 : Int, millwrightnum_SameTexts.l4 k a0 a1 n v3 = some o5 ∧ st' = ⟨[(0, .p (.list .str) a0), (1, .p (.list .str) a1), (12, .p I6 ((a0.length : Int) : Int)), (13, .p I6 v3)], []⟩) k ⟨0, hlo5, by kernel_rfl⟩ ?_
      clear hlo5
      rintro (_ | n) _ ⟨v3, h, rfl⟩
      · cases h
      · rw [millwrightnum_SameTexts.l4] at h
        refine WpC.seq ?_
        refine rS {} [0, 1, 12, 13, 14] [] hN (by kernel_rfl) (by kernel_rfl) ?_
        refine tnU ?_
        refine WpC.seq ?_
        refine tS (b := (decide (v3 < (a0.length : Int)))) (by kernel_rfl) (fun hc7 => ?_) (fun hc7 => ?_)
        · replace h := ite_t hc7 h
          refine WpC.conv (cS [.k [0, 1, 12, 13] []] (by kernel_rfl) (by kernel_rfl)) (WpC.skip ?_)
          refine tnU ?_
          refine WpC.seq ?_
          refine WpC.block ?_
          refine WpC.seq ?_
          refine rS {} [0, 1, 5, 12, 13] [] hN (by kernel_rfl) (by kernel_rfl) ?_
          refine tnU ?_
          refine WpC.seq ?_
          obtain ⟨v8, hv8, h⟩ := bind_some h
          obtain ⟨v9, hv9, h⟩ := bind_some h
          refine rA { its := [(2, .v .str hv8), (6, .v .str hv9)] } [0, 1, 12, 13, 24] [] hN (by kernel_rfl) (by kernel_rfl) (by kernel_rfl) ?_
          refine tnU ?_
          refine tS (b := (!(v8 == v9))) (by kernel_rfl) (fun hc10 => ?_) (fun hc10 => ?_)
          · replace h := ite_t hc10 h
            refine WpC.seq ?_
            refine rS {} [4] [] hN (by kernel_rfl) (by kernel_rfl) ?_
            refine tnU ?_
            refine WpC.ret ?_
            refine blockQ_ret ?_
            refine thenQ_ret ?_
            have hq := Option.some.inj h
            subst hq
            refine thenQ_ret ?_
            have h := hout6
            refine blockQ_ret ?_
            refine thenQ_ret ?_
            have hq := Option.some.inj h
            subst hq
            exact eR (by kernel_rfl) (by kernel_rfl)
          · replace h := ite_f hc10 h
            refine WpC.conv (cS [.k [0, 1, 12, 13] []] (by kernel_rfl) (by kernel_rfl)) (WpC.skip ?_)
            refine blockQ_normal ?_
            refine tnU ?_
            refine rS {} [0, 1, 12, 13] [] hN (by kernel_rfl) (by kernel_rfl) ?_
            refine tnU ?_
            exact ⟨n, Nat.lt_succ_self n, (IntKind.i64.wrap (v3 + 1)), h, by kernel_rfl⟩
        · replace h := ite_f hc7 h
          refine WpC.conv (cS [.k [] []] (by kernel_rfl) (by kernel_rfl)) (WpC.exit ?_)
          refine thenQ_exit ?_
          have hq := Option.some.inj h
          subst hq
          refine thenQ_exit ?_
          have h := hout6
          refine blockQ_hit ?_
          refine tnU ?_
          exact ⟨h, by kernel_rfl⟩
    · rintro _ ⟨h, rfl⟩
      unfold millwrightnum_SameTexts.j2 at h
      refine WpC.seq ?_
      refine rS {} [4] [] hN (by kernel_rfl) (by kernel_rfl) ?_
      refine tnU ?_
      refine WpC.ret ?_
      have hq := Option.some.inj h
      subst hq
      exact eR (by kernel_rfl) (by kernel_rfl)

theorem millwrightnum_Has.ok (O : Out) (hO : GOk O) (k : Nat) (a0 : List (List UInt8)) (a1 : List UInt8) (out : Bool) (h : millwrightnum_Has.f k a0 a1 = some out) : COk Un O Tryz.prog 29 { ar := [.p (.list .str) a0, .p .str a1], r := .p .bool out } := by
  refine cok_of_wp Tryz.func29 rfl (k := 17) rfl (Nat.le_of_ble_eq_true rfl) (namesOk_pure rfl rfl rfl rfl) ?_
  intro B hN
  refine WpC.conv (cvK (b := ⟨[(0, .p (.list .str) a0), (1, .p .str a1)], []⟩) [0, 1] [] (by kernel_rfl)) ?_
  unfold millwrightnum_Has.f at h
  refine WpC.seq ?_
  refine rS {} [0, 1] [] hN (by kernel_rfl) (by kernel_rfl) ?_
  refine tnU ?_
  refine sqJ (fun st' => millwrightnum_Has.j1 k = some out ∧ st' = ⟨[], []⟩) ?_ ?_
  · refine WpC.seq ?_
    refine rS {} [1, 7, 8, 9] [] hN (by kernel_rfl) (by kernel_rfl) ?_
    refine tnU ?_
    refine WpC.block ?_
    obtain ⟨o4, hlo4, h⟩ := bind_some h
    have hout5 := h
    clear h
    refine WpC.loop (U := Un) (fun n st' => ∃ v2 : Int, millwrightnum_Has.l3 k a0 a1 n v2 = some o4 ∧ st' = ⟨[(1, .p .str a1), (7, .p (.list .str) a0), (8, .p I6 ((a0.length : Int) : Int)), (9, .p I6 v2)], []⟩) k ⟨0, hlo4, by kernel_rfl⟩ ?_
    clear hlo4
    rintro (_ | n) _ ⟨v2, h, rfl⟩
    · cases h
    · rw [millwrightnum_Has.l3] at h
      refine WpC.seq ?_
      refine rS {} [1, 7, 8, 9, 10] [] hN (by kernel_rfl) (by kernel_rfl) ?_
      refine tnU ?_
      refine WpC.seq ?_
      refine tS (b := (decide (v2 < (a0.length : Int)))) (by kernel_rfl) (fun hc6 => ?_) (fun hc6 => ?_)
      · replace h := ite_t hc6 h
        refine WpC.conv (cS [.k [1, 7, 8, 9] []] (by kernel_rfl) (by kernel_rfl)) (WpC.skip ?_)
        refine tnU ?_
        refine WpC.seq ?_
        refine WpC.block ?_
        refine WpC.seq ?_
        obtain ⟨v7, hv7, h⟩ := bind_some h
        refine rS { its := [(0, .v .str hv7)] } [1, 6, 7, 8, 9] [] hN (by kernel_rfl) (by kernel_rfl) ?_
        refine tnU ?_
        refine WpC.seq ?_
        refine rS {} [1, 7, 8, 9, 15] [] hN (by kernel_rfl) (by kernel_rfl) ?_
        refine tnU ?_
        refine tS (b := (v7 == a1)) (by kernel_rfl) (fun hc8 => ?_) (fun hc8 => ?_)
        · replace h := ite_t hc8 h
          refine WpC.seq ?_
          refine rS {} [4] [] hN (by kernel_rfl) (by kernel_rfl) ?_
          refine tnU ?_
          refine WpC.ret ?_
          refine blockQ_ret ?_
          refine thenQ_ret ?_
          have hq := Option.some.inj h
          subst hq
          refine thenQ_ret ?_
          have h := hout5
          refine blockQ_ret ?_
          refine thenQ_ret ?_
          have hq := Option.some.inj h
          subst hq
          exact eR (by kernel_rfl) (by kernel_rfl)
        · replace h := ite_f hc8 h
          refine WpC.conv (cS [.k [1, 7, 8, 9] []] (by kernel_rfl) (by kernel_rfl)) (WpC.skip ?_)
          refine blockQ_normal ?_
          refine tnU ?_
          refine rS {} [1, 7, 8, 9] [] hN (by kernel_rfl) (by kernel_rfl) ?_
          refine tnU ?_
          exact ⟨n, Nat.lt_succ_self n, (IntKind.i64.wrap (v2 + 1)), h, by kernel_rfl⟩
      · replace h := ite_f hc6 h
        refine WpC.conv (cS [.k [] []] (by kernel_rfl) (by kernel_rfl)) (WpC.exit ?_)
        refine thenQ_exit ?_
        have hq := Option.some.inj h
        subst hq
        refine thenQ_exit ?_
        have h := hout5
        refine blockQ_hit ?_
        refine tnU ?_
        exact ⟨h, by kernel_rfl⟩
  · rintro _ ⟨h, rfl⟩
    unfold millwrightnum_Has.j1 at h
    refine WpC.seq ?_
    refine rS {} [4] [] hN (by kernel_rfl) (by kernel_rfl) ?_
    refine tnU ?_
    refine WpC.ret ?_
    have hq := Option.some.inj h
    subst hq
    exact eR (by kernel_rfl) (by kernel_rfl)

theorem slices_Grow_string_string_m0.ok (O : Out) (hO : GOk O) (k : Nat) (a0 : Int) (out : List (List UInt8)) (h : slices_Grow_string_string_m0.f k a0 = some out) : COk Un O Tryz.prog 102 { ar := [.lit (.slice none 0 0), .p I6 a0], r := .vec 60500 1 0 out.length, bs' := [(60500, .row 9 .str out false)], nn := [60500] } := by
  refine cok_of_wp Tryz.func102 rfl (k := 27) rfl (Nat.le_of_ble_eq_true rfl) (namesOk_of (by kernel_rfl)) ?_
  intro B hN
  refine WpC.conv (cvK (b := ⟨[(0, .lit (.slice none 0 0)), (1, .p I6 a0)], []⟩) [0, 1] [] (by kernel_rfl)) ?_
  unfold slices_Grow_string_string_m0.f at h
  refine WpC.seq ?_
  refine rS {} [0, 1] [] hN (by kernel_rfl) (by kernel_rfl) ?_
  refine tnU ?_
  refine sqJ (fun st' => slices_Grow_string_string_m0.j7 k a0 = some out ∧ st' = ⟨[(0, .lit (.slice none 0 0)), (1, .p I6 a0)], []⟩) ?_ ?_
  · refine WpC.seq ?_
    refine rS {} [0, 1, 6] [] hN (by kernel_rfl) (by kernel_rfl) ?_
    refine tnU ?_
    refine tS (b := (decide (a0 < 0))) (by kernel_rfl) (fun hc8 => ?_) (fun hc8 => ?_)
    · replace h := ite_t hc8 h
      cases h
    · replace h := ite_f hc8 h
      refine WpC.conv (cS [.k [0, 1] []] (by kernel_rfl) (by kernel_rfl)) (WpC.skip ?_)
      refine tnU ?_
      exact ⟨h, by kernel_rfl⟩
  · rintro _ ⟨h, rfl⟩
    unfold slices_Grow_string_string_m0.j7 at h
    refine sqJ (fun st' => ∃ v1 : List (List UInt8), slices_Grow_string_string_m0.j2 k v1 = some out ∧ st' = ⟨[(0, .vec 1000 1 0 v1.length)], [(1000, .row 9 .str v1 false)]⟩) ?_ ?_
    · refine WpC.seq ?_
      refine rS { its := [(2, .e 2 (sok_capNil (U := Un) (rs := [(9, .lit (.slice none 0 0))]) rfl rfl Tryz.underlying30 o0))] } [0, 1] [] hN (by kernel_rfl) (by kernel_rfl) ?_
      refine tnU ?_
      refine WpC.seq ?_
      refine rS {} [0, 1, 16] [] hN (by kernel_rfl) (by kernel_rfl) ?_
      refine tnU ?_
      refine tS (b := (decide ((IntKind.i64.wrap (a0 - (IntKind.i64.wrap (0 - 0)))) > 0))) (by kernel_rfl) (fun hc3 => ?_) (fun hc3 => ?_)
      · replace h := ite_t hc3 h
        obtain ⟨g4, h⟩ := if_some h
        obtain ⟨g5, h⟩ := if_some h
        obtain ⟨g6, h⟩ := if_some h
        refine rSC { its := [(2, .e 2 (sok_capNil (U := Un) (rs := [(18, .lit (.slice none 0 0))]) rfl rfl Tryz.underlying30 o0)), (5, .e 5 (sok_appendNZ (U := Un) (t := .str) (rs := [(20, .lit (.slice none 0 0)), (21, .p I6 ((IntKind.i64.wrap (a0 - (IntKind.i64.wrap (0 - 0)))) : Int))]) (n := (IntKind.i64.wrap (a0 - (IntKind.i64.wrap (0 - 0))))) rfl rfl rfl row_30 Tryz.underlying3 o0 o1 g4 g5 (by decide))), (8, .g g6)] } [0] [22] hN (by kernel_rfl) (by kernel_rfl) (cS [.rn 22 1000, .k [0] [1000]] (by kernel_rfl) (by kernel_rfl)) ?_
        refine tnU ?_
        exact ⟨([] : List (List UInt8)), h, by kernel_rfl⟩
      · replace h := ite_f hc3 h
        refine WpC.conv (cS [.k [0] [], .th 0 1000 9 .str, .k [0] [1000]] (by kernel_rfl) (by kernel_rfl)) (WpC.skip ?_)
        refine tnU ?_
        exact ⟨[], h, by kernel_rfl⟩
    · rintro _ ⟨v1, h, rfl⟩
      unfold slices_Grow_string_string_m0.j2 at h
      refine WpC.seq ?_
      refine rS {} [4] [1000] hN (by kernel_rfl) (by kernel_rfl) ?_
      refine tnU ?_
      refine WpC.conv (cS [.rn 1000 60500, .k [4] [60500]] (by kernel_rfl) (by kernel_rfl)) (WpC.ret ?_)
      have hq := Option.some.inj h
      subst hq
      exact eR (by kernel_rfl) (by kernel_rfl)

theorem slices_Concat_string_string.ok (O : Out) (hO : GOk O) (k : Nat) (a0 : List (List (List UInt8))) (out : List (List UInt8)) (h : slices_Concat_string_string.f k a0 = some out) : COk Un O Tryz.prog 71 { ar := [.p (.list (.list .str)) a0], r := .vec 60500 1 0 out.length, bs' := [(60500, .row 9 .str out false)], nn := [60500] } := by
  refine cok_of_wp Tryz.func71 rfl (k := 36) rfl (Nat.le_of_ble_eq_true rfl) (namesOk_of (by kernel_rfl)) ?_
  intro B hN
  refine WpC.conv (cvK (b := ⟨[(0, .p (.list (.list .str)) a0)], []⟩) [0] [] (by kernel_rfl)) ?_
  unfold slices_Concat_string_string.f at h
  refine WpC.seq ?_
  refine rS {} [0] [] hN (by kernel_rfl) (by kernel_rfl) ?_
  refine tnU ?_
  refine WpC.seq ?_
  refine rS {} [0, 3] [] hN (by kernel_rfl) (by kernel_rfl) ?_
  refine tnU ?_
  refine sqJ (fun st' => ∃ v1 : Int, slices_Concat_string_string.j15 k a0 v1 = some out ∧ st' = ⟨[(0, .p (.list (.list .str)) a0), (3, .p I6 v1)], []⟩) ?_ ?_
  · refine WpC.seq ?_
    refine rS {} [0, 3, 9, 10, 11] [] hN (by kernel_rfl) (by kernel_rfl) ?_
    refine tnU ?_
    refine WpC.block ?_
    obtain ⟨o20, hlo20, h⟩ := bind_some h
    have hout21 := h
    clear h
    refine WpC.loop (U := Un) (fun n st' => ∃ v16 : Int, ∃ v17 : Int, slices_Concat_string_string.l18 k a0 n v16 v17 = some o20 ∧ st' = ⟨[(0, .p (.list (.list .str)) a0), (3, .p I6 v16), (9, .p (.list (.list .str)) a0), (10, .p I6 ((a0.length : Int) : Int)), (11, .p I6 v17)], []⟩) k ⟨0, 0, hlo20, by kernel_rfl⟩ ?_
    clear hlo20
    rintro (_ | n) _ ⟨v16, v17, h, rfl⟩
    · cases h
    · rw [slices_Concat_string_string.l18] at h
      refine WpC.seq ?_
      refine rS {} [0, 3, 9, 10, 11, 12] [] hN (by kernel_rfl) (by kernel_rfl) ?_
      refine tnU ?_
      refine WpC.seq ?_
      refine tS (b := (decide (v17 < (a0.length : Int)))) (by kernel_rfl) (fun hc22 => ?_) (fun hc22 => ?_)
      · replace h := ite_t hc22 h
        refine WpC.conv (cS [.k [0, 3, 9, 10, 11] []] (by kernel_rfl) (by kernel_rfl)) (WpC.skip ?_)
        refine tnU ?_
        refine sqJ (fun st' => ∃ v23 : Int, slices_Concat_string_string.j24 k (slices_Concat_string_string.l18 k a0 n) a0 v17 v23 = some o20 ∧ st' = ⟨[(0, .p (.list (.list .str)) a0), (3, .p I6 v23), (9, .p (.list (.list .str)) a0), (10, .p I6 ((a0.length : Int) : Int)), (11, .p I6 v17)], []⟩) ?_ ?_
        · refine WpC.block ?_
          refine WpC.seq ?_
          obtain ⟨v25, hv25, h⟩ := bind_some h
          refine rS { its := [(0, .v (.list .str) hv25)] } [0, 3, 5, 9, 10, 11] [] hN (by kernel_rfl) (by kernel_rfl) ?_
          refine tnU ?_
          refine WpC.seq ?_
          refine rS {} [0, 3, 9, 10, 11] [] hN (by kernel_rfl) (by kernel_rfl) ?_
          refine tnU ?_
          refine WpC.seq ?_
          refine rS {} [0, 3, 9, 10, 11, 20] [] hN (by kernel_rfl) (by kernel_rfl) ?_
          refine tnU ?_
          refine tS (b := (decide ((IntKind.i64.wrap (v16 + (v25.length : Int))) < 0))) (by kernel_rfl) (fun hc26 => ?_) (fun hc26 => ?_)
          · replace h := ite_t hc26 h
            cases h
          · replace h := ite_f hc26 h
            refine WpC.conv (cS [.k [0, 3, 9, 10, 11] []] (by kernel_rfl) (by kernel_rfl)) (WpC.skip ?_)
            refine blockQ_normal ?_
            refine tnU ?_
            exact ⟨(IntKind.i64.wrap (v16 + (v25.length : Int))), h, by kernel_rfl⟩
        · rintro _ ⟨v23, h, rfl⟩
          unfold slices_Concat_string_string.j24 at h
          refine rS {} [0, 3, 9, 10, 11] [] hN (by kernel_rfl) (by kernel_rfl) ?_
          refine tnU ?_
          exact ⟨n, Nat.lt_succ_self n, v23, (IntKind.i64.wrap (v17 + 1)), h, by kernel_rfl⟩
      · replace h := ite_f hc22 h
        refine WpC.conv (cS [.k [0, 3] []] (by kernel_rfl) (by kernel_rfl)) (WpC.exit ?_)
        refine thenQ_exit ?_
        have hq := Option.some.inj h
        subst hq
        refine thenQ_exit ?_
        have h := hout21
        refine blockQ_hit ?_
        refine tnU ?_
        exact ⟨v16, h, by kernel_rfl⟩
  · rintro _ ⟨v1, h, rfl⟩
    unfold slices_Concat_string_string.j15 at h
    refine WpC.seq ?_
    obtain ⟨v2, hv2, h⟩ := bind_some h
    refine rS { its := [(1, .c (COk.ren (slices_Grow_string_string_m0.ok O hO k v1 v2 hv2) (fun n => if n = 60500 then 10001 else n) (injOn_of (by kernel_rfl))))] } [0, 6] [10001] hN (by kernel_rfl) (by kernel_rfl) ?_
    refine tnU ?_
    refine sqJ (fun st' => ∃ v3 : List (List UInt8), slices_Concat_string_string.j4 k v3 = some out ∧ st' = ⟨[(6, .vec 1006 1 0 v3.length)], [(1006, .row 9 .str v3 false)]⟩) ?_ ?_
    · refine WpC.seq ?_
      refine rS {} [6, 25, 26, 27] [10001] hN (by kernel_rfl) (by kernel_rfl) ?_
      refine tnU ?_
      refine WpC.block ?_
      obtain ⟨o9, hlo9, h⟩ := bind_some h
      have hout10 := h
      clear h
      refine WpC.conv (cS [.rn 10001 1006, .k [6, 25, 26, 27] [1006]] (by kernel_rfl) (by kernel_rfl)) ?_
      refine WpC.loop (U := Un) (fun n st' => ∃ v5 : List (List UInt8), ∃ v6 : Int, slices_Concat_string_string.l7 k a0 n v5 v6 = some o9 ∧ st' = ⟨[(6, .vec 1006 1 0 v5.length), (25, .p (.list (.list .str)) a0), (26, .p I6 ((a0.length : Int) : Int)), (27, .p I6 v6)], [(1006, .row 9 .str v5 false)]⟩) k ⟨v2, 0, hlo9, by kernel_rfl⟩ ?_
      clear hlo9
      rintro (_ | n) _ ⟨v5, v6, h, rfl⟩
      · cases h
      · rw [slices_Concat_string_string.l7] at h
        refine WpC.seq ?_
        refine rS {} [6, 25, 26, 27, 28] [1006] hN (by kernel_rfl) (by kernel_rfl) ?_
        refine tnU ?_
        refine WpC.seq ?_
        refine tS (b := (decide (v6 < (a0.length : Int)))) (by kernel_rfl) (fun hc11 => ?_) (fun hc11 => ?_)
        · replace h := ite_t hc11 h
          refine WpC.conv (cS [.k [6, 25, 26, 27] [1006]] (by kernel_rfl) (by kernel_rfl)) (WpC.skip ?_)
          refine tnU ?_
          refine WpC.seq ?_
          refine WpC.block ?_
          refine WpC.seq ?_
          obtain ⟨v12, hv12, h⟩ := bind_some h
          refine rS { its := [(0, .v (.list .str) hv12)] } [6, 8, 25, 26, 27] [1006] hN (by kernel_rfl) (by kernel_rfl) ?_
          refine tnU ?_
          obtain ⟨g13, h⟩ := if_some h
          refine rS { its := [(2, .g g13)] } [6, 25, 26, 27] [33] hN (by kernel_rfl) (by kernel_rfl) ?_
          refine blockQ_normal ?_
          refine tnU ?_
          refine rSC {} [6, 25, 26, 27] [33] hN (by kernel_rfl) (by kernel_rfl) (cS [.rn 33 1006, .k [6, 25, 26, 27] [1006]] (by kernel_rfl) (by kernel_rfl)) ?_
          refine tnU ?_
          exact ⟨n, Nat.lt_succ_self n, (v5 ++ v12), (IntKind.i64.wrap (v6 + 1)), h, by kernel_rfl⟩
        · replace h := ite_f hc11 h
          refine WpC.conv (cS [.k [6] [1006]] (by kernel_rfl) (by kernel_rfl)) (WpC.exit ?_)
          refine thenQ_exit ?_
          have hq := Option.some.inj h
          subst hq
          refine thenQ_exit ?_
          have h := hout10
          refine blockQ_hit ?_
          refine tnU ?_
          exact ⟨v5, h, by kernel_rfl⟩
    · rintro _ ⟨v3, h, rfl⟩
      unfold slices_Concat_string_string.j4 at h
      refine WpC.seq ?_
      refine rS {} [2] [1006] hN (by kernel_rfl) (by kernel_rfl) ?_
      refine tnU ?_
      refine WpC.conv (cS [.rn 1006 60500, .k [2] [60500]] (by kernel_rfl) (by kernel_rfl)) (WpC.ret ?_)
      have hq := Option.some.inj h
      subst hq
      exact eR (by kernel_rfl) (by kernel_rfl)

theorem slices_Index_string_string.ok (O : Out) (hO : GOk O) (k : Nat) (a0 : List (List UInt8)) (a1 : List UInt8) (out : Int) (h : slices_Index_string_string.f k a0 a1 = some out) : COk Un O Tryz.prog 134 { ar := [.p (.list .str) a0, .p .str a1], r := .p I6 out } := by
  refine cok_of_wp Tryz.func134 rfl (k := 19) rfl (Nat.le_of_ble_eq_true rfl) (namesOk_pure rfl rfl rfl rfl) ?_
  intro B hN
  refine WpC.conv (cvK (b := ⟨[(0, .p (.list .str) a0), (1, .p .str a1)], []⟩) [0, 1] [] (by kernel_rfl)) ?_
  unfold slices_Index_string_string.f at h
  refine WpC.seq ?_
  refine rS {} [0, 1] [] hN (by kernel_rfl) (by kernel_rfl) ?_
  refine tnU ?_
  refine sqJ (fun st' => slices_Index_string_string.j1 k = some out ∧ st' = ⟨[], []⟩) ?_ ?_
  · refine WpC.seq ?_
    refine rS {} [0, 1, 7, 8] [] hN (by kernel_rfl) (by kernel_rfl) ?_
    refine tnU ?_
    refine WpC.block ?_
    obtain ⟨o4, hlo4, h⟩ := bind_some h
    have hout5 := h
    clear h
    refine WpC.loop (U := Un) (fun n st' => ∃ v2 : Int, slices_Index_string_string.l3 k a0 a1 n v2 = some o4 ∧ st' = ⟨[(0, .p (.list .str) a0), (1, .p .str a1), (7, .p I6 ((a0.length : Int) : Int)), (8, .p I6 v2)], []⟩) k ⟨0, hlo4, by kernel_rfl⟩ ?_
    clear hlo4
    rintro (_ | n) _ ⟨v2, h, rfl⟩
    · cases h
    · rw [slices_Index_string_string.l3] at h
      refine WpC.seq ?_
      refine rS {} [0, 1, 7, 8, 9] [] hN (by kernel_rfl) (by kernel_rfl) ?_
      refine tnU ?_
      refine WpC.seq ?_
      refine tS (b := (decide (v2 < (a0.length : Int)))) (by kernel_rfl) (fun hc6 => ?_) (fun hc6 => ?_)
      · replace h := ite_t hc6 h
        refine WpC.conv (cS [.k [0, 1, 7, 8] []] (by kernel_rfl) (by kernel_rfl)) (WpC.skip ?_)
        refine tnU ?_
        refine WpC.seq ?_
        refine WpC.block ?_
        refine WpC.seq ?_
        refine rS {} [0, 1, 5, 7, 8] [] hN (by kernel_rfl) (by kernel_rfl) ?_
        refine tnU ?_
        refine WpC.seq ?_
        obtain ⟨v7, hv7, h⟩ := bind_some h
        refine rS { its := [(3, .v .str hv7)] } [0, 1, 5, 7, 8, 16] [] hN (by kernel_rfl) (by kernel_rfl) ?_
        refine tnU ?_
        refine tS (b := (a1 == v7)) (by kernel_rfl) (fun hc8 => ?_) (fun hc8 => ?_)
        · replace h := ite_t hc8 h
          refine WpC.seq ?_
          refine rS {} [4] [] hN (by kernel_rfl) (by kernel_rfl) ?_
          refine tnU ?_
          refine WpC.ret ?_
          refine blockQ_ret ?_
          refine thenQ_ret ?_
          have hq := Option.some.inj h
          subst hq
          refine thenQ_ret ?_
          have h := hout5
          refine blockQ_ret ?_
          refine thenQ_ret ?_
          have hq := Option.some.inj h
          subst hq
          exact eR (by kernel_rfl) (by kernel_rfl)
        · replace h := ite_f hc8 h
          refine WpC.conv (cS [.k [0, 1, 7, 8] []] (by kernel_rfl) (by kernel_rfl)) (WpC.skip ?_)
          refine blockQ_normal ?_
          refine tnU ?_
          refine rS {} [0, 1, 7, 8] [] hN (by kernel_rfl) (by kernel_rfl) ?_
          refine tnU ?_
          exact ⟨n, Nat.lt_succ_self n, (IntKind.i64.wrap (v2 + 1)), h, by kernel_rfl⟩
      · replace h := ite_f hc6 h
        refine WpC.conv (cS [.k [] []] (by kernel_rfl) (by kernel_rfl)) (WpC.exit ?_)
        refine thenQ_exit ?_
        have hq := Option.some.inj h
        subst hq
        refine thenQ_exit ?_
        have h := hout5
        refine blockQ_hit ?_
        refine tnU ?_
        exact ⟨h, by kernel_rfl⟩
  · rintro _ ⟨h, rfl⟩
    unfold slices_Index_string_string.j1 at h
    refine WpC.seq ?_
    refine rS {} [4] [] hN (by kernel_rfl) (by kernel_rfl) ?_
    refine tnU ?_
    refine WpC.ret ?_
    have hq := Option.some.inj h
    subst hq
    exact eR (by kernel_rfl) (by kernel_rfl)

theorem slices_Contains_string_string.ok (O : Out) (hO : GOk O) (k : Nat) (a0 : List (List UInt8)) (a1 : List UInt8) (out : Bool) (h : slices_Contains_string_string.f k a0 a1 = some out) : COk Un O Tryz.prog 103 { ar := [.p (.list .str) a0, .p .str a1], r := .p .bool out } := by
  refine cok_of_wp Tryz.func103 rfl (k := 9) rfl (Nat.le_of_ble_eq_true rfl) (namesOk_pure rfl rfl rfl rfl) ?_
  intro B hN
  refine WpC.conv (cvK (b := ⟨[(0, .p (.list .str) a0), (1, .p .str a1)], []⟩) [0, 1] [] (by kernel_rfl)) ?_
  unfold slices_Contains_string_string.f at h
  refine WpC.seq ?_
  refine rS {} [0, 1] [] hN (by kernel_rfl) (by kernel_rfl) ?_
  refine tnU ?_
  refine WpC.seq ?_
  obtain ⟨v1, hv1, h⟩ := bind_some h
  refine rS { its := [(2, .c (slices_Index_string_string.ok O hO k a0 a1 v1 hv1))] } [4] [] hN (by kernel_rfl) (by kernel_rfl) ?_
  refine tnU ?_
  refine WpC.ret ?_
  have hq := Option.some.inj h
  subst hq
  exact eR (by kernel_rfl) (by kernel_rfl)

theorem names_Has.ok (O : Out) (hO : GOk O) (k : Nat) (a0 : List (List UInt8)) (a1 : List UInt8) (out : Bool) (h : names_Has.f k a0 a1 = some out) : COk Un O Tryz.prog 72 { ar := [.p (.list .str) a0, .p .str a1], r := .p .bool out } := by
  refine cok_of_wp Tryz.func72 rfl (k := 8) rfl (Nat.le_of_ble_eq_true rfl) (namesOk_pure rfl rfl rfl rfl) ?_
  intro B hN
  refine WpC.conv (cvK (b := ⟨[(0, .p (.list .str) a0), (1, .p .str a1)], []⟩) [0, 1] [] (by kernel_rfl)) ?_
  unfold names_Has.f at h
  refine WpC.seq ?_
  refine rS {} [0, 1] [] hN (by kernel_rfl) (by kernel_rfl) ?_
  refine tnU ?_
  refine WpC.seq ?_
  obtain ⟨v1, hv1, h⟩ := bind_some h
  refine rS { its := [(2, .c (slices_Contains_string_string.ok O hO k a0 a1 v1 hv1))] } [4] [] hN (by kernel_rfl) (by kernel_rfl) ?_
  refine tnU ?_
  refine WpC.ret ?_
  have hq := Option.some.inj h
  subst hq
  exact eR (by kernel_rfl) (by kernel_rfl)

theorem names_Union.ok (O : Out) (hO : GOk O) (k : Nat) (a0 : List (List UInt8)) (a1 : List (List UInt8)) (out : List (List UInt8)) (h : names_Union.f k a0 a1 = some out) : COk Un O Tryz.prog 46 { ar := [.p (.list .str) a0, .p (.list .str) a1], r := .vec 60500 1 0 out.length, bs' := [(60500, .row 9 .str out false)], nn := [60500] } := by
  refine cok_of_wp Tryz.func46 rfl (k := 27) rfl (Nat.le_of_ble_eq_true rfl) (namesOk_of (by kernel_rfl)) ?_
  intro B hN
  refine WpC.conv (cvK (b := ⟨[(0, .p (.list .str) a0), (1, .p (.list .str) a1)], []⟩) [0, 1] [] (by kernel_rfl)) ?_
  unfold names_Union.f at h
  refine WpC.seq ?_
  refine rS {} [0, 1] [] hN (by kernel_rfl) (by kernel_rfl) ?_
  refine tnU ?_
  refine WpC.seq ?_
  refine rS {} [0, 1, 5] [] hN (by kernel_rfl) (by kernel_rfl) ?_
  refine tnU ?_
  refine sqJ (fun st' => ∃ v1 : List (List UInt8), names_Union.j2 k v1 = some out ∧ st' = ⟨[(5, .vec 1005 1 0 v1.length)], [(1005, .row 9 .str v1 false)]⟩) ?_ ?_
  · refine WpC.seq ?_
    obtain ⟨v3, hv3, h⟩ := bind_some h
    refine rS { its := [(3, .c (COk.ren (slices_Concat_string_string.ok O hO k [a0, a1] v3 hv3) (fun n => if n = 60500 then 10001 else n) (injOn_of (by kernel_rfl))))] } [5, 11, 12, 13] [10001] hN (by kernel_rfl) (by kernel_rfl) ?_
    refine tnU ?_
    refine WpC.block ?_
    obtain ⟨o8, hlo8, h⟩ := bind_some h
    have hout9 := h
    clear h
    refine WpC.conv (cS [.th 5 1005 9 .str, .k [5, 11, 12, 13] [1005, 10001]] (by kernel_rfl) (by kernel_rfl)) ?_
    refine WpC.loop (U := Un) (fun n st' => ∃ v4 : List (List UInt8), ∃ v5 : Int, names_Union.l6 k v3 n v4 v5 = some o8 ∧ st' = ⟨[(5, .vec 1005 1 0 v4.length), (11, .vec 10001 1 0 v3.length), (12, .p I6 ((v3.length : Int) : Int)), (13, .p I6 v5)], [(1005, .row 9 .str v4 false), (10001, .row 9 .str v3 false)]⟩) k ⟨[], 0, hlo8, by kernel_rfl⟩ ?_
    clear hlo8
    rintro (_ | n) _ ⟨v4, v5, h, rfl⟩
    · cases h
    · rw [names_Union.l6] at h
      refine WpC.seq ?_
      refine rS {} [5, 11, 12, 13, 14] [1005, 10001] hN (by kernel_rfl) (by kernel_rfl) ?_
      refine tnU ?_
      refine WpC.seq ?_
      refine tS (b := (decide (v5 < (v3.length : Int)))) (by kernel_rfl) (fun hc10 => ?_) (fun hc10 => ?_)
      · replace h := ite_t hc10 h
        refine WpC.conv (cS [.k [5, 11, 12, 13] [1005, 10001]] (by kernel_rfl) (by kernel_rfl)) (WpC.skip ?_)
        refine tnU ?_
        refine sqJ (fun st' => ∃ v11 : List (List UInt8), names_Union.j12 k (names_Union.l6 k v3 n) v3 v5 v11 = some o8 ∧ st' = ⟨[(5, .vec 1005 1 0 v11.length), (11, .vec 10001 1 0 v3.length), (12, .p I6 ((v3.length : Int) : Int)), (13, .p I6 v5)], [(1005, .row 9 .str v11 false), (10001, .row 9 .str v3 false)]⟩) ?_ ?_
        · refine WpC.block ?_
          refine WpC.seq ?_
          obtain ⟨g13, h⟩ := if_some h
          obtain ⟨v14, hv14, h⟩ := bind_some h
          refine rS { its := [(0, .g g13), (1, .v .str hv14)] } [5, 7, 11, 12, 13] [1005, 10001] hN (by kernel_rfl) (by kernel_rfl) ?_
          refine tnU ?_
          refine WpC.seq ?_
          obtain ⟨v15, hv15, h⟩ := bind_some h
          refine rS { its := [(2, .c (names_Has.ok O hO k v4 v14 v15 hv15))] } [5, 7, 11, 12, 13, 20] [1005, 10001] hN (by kernel_rfl) (by kernel_rfl) ?_
          refine tnU ?_
          refine tS (b := (!v15)) (by kernel_rfl) (fun hc16 => ?_) (fun hc16 => ?_)
          · replace h := ite_t hc16 h
            obtain ⟨g17, h⟩ := if_some h
            refine rSC { its := [(3, .g g17)] } [5, 11, 12, 13] [24, 10001] hN (by kernel_rfl) (by kernel_rfl) (cS [.rn 24 1005, .k [5, 11, 12, 13] [1005, 10001]] (by kernel_rfl) (by kernel_rfl)) ?_
            refine blockQ_normal ?_
            refine tnU ?_
            exact ⟨(v4 ++ [v14]), h, by kernel_rfl⟩
          · replace h := ite_f hc16 h
            refine WpC.conv (cS [.k [5, 11, 12, 13] [1005, 10001]] (by kernel_rfl) (by kernel_rfl)) (WpC.skip ?_)
            refine blockQ_normal ?_
            refine tnU ?_
            exact ⟨v4, h, by kernel_rfl⟩
        · rintro _ ⟨v11, h, rfl⟩
          unfold names_Union.j12 at h
          refine rS {} [5, 11, 12, 13] [1005, 10001] hN (by kernel_rfl) (by kernel_rfl) ?_
          refine tnU ?_
          exact ⟨n, Nat.lt_succ_self n, v11, (IntKind.i64.wrap (v5 + 1)), h, by kernel_rfl⟩
      · replace h := ite_f hc10 h
        refine WpC.conv (cS [.k [5] [1005]] (by kernel_rfl) (by kernel_rfl)) (WpC.exit ?_)
        refine thenQ_exit ?_
        have hq := Option.some.inj h
        subst hq
        refine thenQ_exit ?_
        have h := hout9
        refine blockQ_hit ?_
        refine tnU ?_
        exact ⟨v4, h, by kernel_rfl⟩
  · rintro _ ⟨v1, h, rfl⟩
    unfold names_Union.j2 at h
    refine WpC.seq ?_
    refine rS {} [4] [1005] hN (by kernel_rfl) (by kernel_rfl) ?_
    refine tnU ?_
    refine WpC.conv (cS [.rn 1005 60500, .k [4] [60500]] (by kernel_rfl) (by kernel_rfl)) (WpC.ret ?_)
    have hq := Option.some.inj h
    subst hq
    exact eR (by kernel_rfl) (by kernel_rfl)

theorem expand_Commands.ok (O : Out) (hO : GOk O) (k : Nat) (a0 : List (List T_lex_Piece)) (out : List (List UInt8)) (h : expand_Commands.f k a0 = some out) : COk Un O Tryz.prog 30 { ar := [.p (.list (.list (.named 5))) a0], r := .p (.list .str) out } := by
  refine cok_of_wp Tryz.func30 rfl (k := 31) rfl (Nat.le_of_ble_eq_true rfl) (namesOk_pure rfl rfl rfl rfl) ?_
  intro B hN
  refine WpC.conv (cvK (b := ⟨[(0, .p (.list (.list (.named 5))) a0)], []⟩) [0] [] (by kernel_rfl)) ?_
  unfold expand_Commands.f at h
  refine WpC.seq ?_
  refine rS {} [0] [] hN (by kernel_rfl) (by kernel_rfl) ?_
  refine tnU ?_
  refine WpC.seq ?_
  refine rS {} [0, 3] [] hN (by kernel_rfl) (by kernel_rfl) ?_
  refine tnU ?_
  refine sqJ (fun st' => ∃ v1 : List (List UInt8), expand_Commands.j2 k v1 = some out ∧ st' = ⟨[(3, .vec 1003 1 0 v1.length)], [(1003, .row 9 .str v1 false)]⟩) ?_ ?_
  · refine WpC.seq ?_
    refine rS {} [3, 8, 9, 10] [] hN (by kernel_rfl) (by kernel_rfl) ?_
    refine tnU ?_
    refine WpC.block ?_
    obtain ⟨o7, hlo7, h⟩ := bind_some h
    have hout8 := h
    clear h
    refine WpC.conv (cS [.th 3 1003 9 .str, .k [3, 8, 9, 10] [1003]] (by kernel_rfl) (by kernel_rfl)) ?_
    refine WpC.loop (U := Un) (fun n st' => ∃ v3 : List (List UInt8), ∃ v4 : Int, expand_Commands.l5 k a0 n v3 v4 = some o7 ∧ st' = ⟨[(3, .vec 1003 1 0 v3.length), (8, .p (.list (.list (.named 5))) a0), (9, .p I6 ((a0.length : Int) : Int)), (10, .p I6 v4)], [(1003, .row 9 .str v3 false)]⟩) k ⟨[], 0, hlo7, by kernel_rfl⟩ ?_
    clear hlo7
    rintro (_ | n) _ ⟨v3, v4, h, rfl⟩
    · cases h
    · rw [expand_Commands.l5] at h
      refine WpC.seq ?_
      refine rS {} [3, 8, 9, 10, 11] [1003] hN (by kernel_rfl) (by kernel_rfl) ?_
      refine tnU ?_
      refine WpC.seq ?_
      refine tS (b := (decide (v4 < (a0.length : Int)))) (by kernel_rfl) (fun hc9 => ?_) (fun hc9 => ?_)
      · replace h := ite_t hc9 h
        refine WpC.conv (cS [.k [3, 8, 9, 10] [1003]] (by kernel_rfl) (by kernel_rfl)) (WpC.skip ?_)
        refine tnU ?_
        refine sqJ (fun st' => ∃ v10 : List (List UInt8), expand_Commands.j11 k (expand_Commands.l5 k a0 n) a0 v4 v10 = some o7 ∧ st' = ⟨[(3, .vec 1003 1 0 v10.length), (8, .p (.list (.list (.named 5))) a0), (9, .p I6 ((a0.length : Int) : Int)), (10, .p I6 v4)], [(1003, .row 9 .str v10 false)]⟩) ?_ ?_
        · refine WpC.block ?_
          refine WpC.seq ?_
          obtain ⟨v12, hv12, h⟩ := bind_some h
          refine rS { its := [(0, .v (.list (.named 5)) hv12)] } [3, 5, 8, 9, 10] [1003] hN (by kernel_rfl) (by kernel_rfl) ?_
          refine tnU ?_
          refine WpC.seq ?_
          refine rS {} [3, 8, 9, 10, 14, 15, 16] [1003] hN (by kernel_rfl) (by kernel_rfl) ?_
          refine tnU ?_
          refine WpC.block ?_
          obtain ⟨o17, hlo17, h⟩ := bind_some h
          have hout18 := h
          clear h
          refine WpC.loop (U := Un) (fun n st' => ∃ v13 : List (List UInt8), ∃ v14 : Int, expand_Commands.l15 k a0 v4 v12 n v13 v14 = some o17 ∧ st' = ⟨[(3, .vec 1003 1 0 v13.length), (8, .p (.list (.list (.named 5))) a0), (9, .p I6 ((a0.length : Int) : Int)), (10, .p I6 v4), (14, .p (.list (.named 5)) v12), (15, .p I6 ((v12.length : Int) : Int)), (16, .p I6 v14)], [(1003, .row 9 .str v13 false)]⟩) k ⟨v3, 0, hlo17, by kernel_rfl⟩ ?_
          clear hlo17
          rintro (_ | n) _ ⟨v13, v14, h, rfl⟩
          · cases h
          · rw [expand_Commands.l15] at h
            refine WpC.seq ?_
            refine rS {} [3, 8, 9, 10, 14, 15, 16, 17] [1003] hN (by kernel_rfl) (by kernel_rfl) ?_
            refine tnU ?_
            refine WpC.seq ?_
            refine tS (b := (decide (v14 < (v12.length : Int)))) (by kernel_rfl) (fun hc19 => ?_) (fun hc19 => ?_)
            · replace h := ite_t hc19 h
              refine WpC.conv (cS [.k [3, 8, 9, 10, 14, 15, 16] [1003]] (by kernel_rfl) (by kernel_rfl)) (WpC.skip ?_)
              refine tnU ?_
              refine sqJ (fun st' => ∃ v20 : List (List UInt8), expand_Commands.j21 k (expand_Commands.l15 k a0 v4 v12 n) a0 v4 v12 v14 v20 = some o17 ∧ st' = ⟨[(3, .vec 1003 1 0 v20.length), (8, .p (.list (.list (.named 5))) a0), (9, .p I6 ((a0.length : Int) : Int)), (10, .p I6 v4), (14, .p (.list (.named 5)) v12), (15, .p I6 ((v12.length : Int) : Int)), (16, .p I6 v14)], [(1003, .row 9 .str v20 false)]⟩) ?_ ?_
              · refine WpC.block ?_
                refine WpC.seq ?_
                obtain ⟨v22, hv22, h⟩ := bind_some h
                refine rS { its := [(0, .v (.named 5) hv22)] } [3, 7, 8, 9, 10, 14, 15, 16] [7, 1003] hN (by kernel_rfl) (by kernel_rfl) ?_
                refine tnU ?_
                refine WpC.seq ?_
                refine rS {} [3, 7, 8, 9, 10, 14, 15, 16, 22] [7, 1003] hN (by kernel_rfl) (by kernel_rfl) ?_
                refine tnU ?_
                refine tS (b := (v22.f_Kind == 4)) (by kernel_rfl) (fun hc23 => ?_) (fun hc23 => ?_)
                · replace h := ite_t hc23 h
                  obtain ⟨v24, hv24, h⟩ := bind_some h
                  refine rSC { its := [(4, .c (COk.ren (names_Union.ok O hO k v13 [v22.f_Text] v24 hv24) (fun n => if n = 60500 then 10001 else n) (injOn_of (by kernel_rfl))))] } [3, 8, 9, 10, 14, 15, 16] [10001] hN (by kernel_rfl) (by kernel_rfl) (cS [.rn 10001 1003, .k [3, 8, 9, 10, 14, 15, 16] [1003]] (by kernel_rfl) (by kernel_rfl)) ?_
                  refine blockQ_normal ?_
                  refine tnU ?_
                  exact ⟨v24, h, by kernel_rfl⟩
                · replace h := ite_f hc23 h
                  refine WpC.conv (cS [.k [3, 8, 9, 10, 14, 15, 16] [1003]] (by kernel_rfl) (by kernel_rfl)) (WpC.skip ?_)
                  refine blockQ_normal ?_
                  refine tnU ?_
                  exact ⟨v13, h, by kernel_rfl⟩
              · rintro _ ⟨v20, h, rfl⟩
                unfold expand_Commands.j21 at h
                refine rS {} [3, 8, 9, 10, 14, 15, 16] [1003] hN (by kernel_rfl) (by kernel_rfl) ?_
                refine tnU ?_
                exact ⟨n, Nat.lt_succ_self n, v20, (IntKind.i64.wrap (v14 + 1)), h, by kernel_rfl⟩
            · replace h := ite_f hc19 h
              refine WpC.conv (cS [.k [3, 8, 9, 10] [1003]] (by kernel_rfl) (by kernel_rfl)) (WpC.exit ?_)
              refine thenQ_exit ?_
              have hq := Option.some.inj h
              subst hq
              refine thenQ_exit ?_
              have h := hout18
              refine blockQ_hit ?_
              refine blockQ_normal ?_
              refine tnU ?_
              exact ⟨v13, h, by kernel_rfl⟩
        · rintro _ ⟨v10, h, rfl⟩
          unfold expand_Commands.j11 at h
          refine rS {} [3, 8, 9, 10] [1003] hN (by kernel_rfl) (by kernel_rfl) ?_
          refine tnU ?_
          exact ⟨n, Nat.lt_succ_self n, v10, (IntKind.i64.wrap (v4 + 1)), h, by kernel_rfl⟩
      · replace h := ite_f hc9 h
        refine WpC.conv (cS [.k [3] [1003]] (by kernel_rfl) (by kernel_rfl)) (WpC.exit ?_)
        refine thenQ_exit ?_
        have hq := Option.some.inj h
        subst hq
        refine thenQ_exit ?_
        have h := hout8
        refine blockQ_hit ?_
        refine tnU ?_
        exact ⟨v3, h, by kernel_rfl⟩
  · rintro _ ⟨v1, h, rfl⟩
    unfold expand_Commands.j2 at h
    refine WpC.seq ?_
    refine rS {} [2] [1003] hN (by kernel_rfl) (by kernel_rfl) ?_
    refine tnU ?_
    refine WpC.conv (cS [.fz 2, .k [2] []] (by kernel_rfl) (by kernel_rfl)) (WpC.ret ?_)
    have hq := Option.some.inj h
    subst hq
    exact eR (by kernel_rfl) (by kernel_rfl)

theorem millwrightlaw17_ExpandWords.ok (O : Out) (hO : GOk O) (k : Nat) (a0 : List (List T_lex_Piece)) (a1 : List T_env_Var) (a2 : List T_expand_Output) (out : Bool) (h : millwrightlaw17_ExpandWords.f k a0 a1 a2 = some out) : COk Un O Tryz.prog 5 { ar := [.p (.list (.list (.named 5))) a0, .p (.list (.named 3)) a1, .p (.list (.named 4)) a2], r := .p .bool out } := by
  refine cok_of_wp Tryz.func5 rfl (k := 127) rfl (Nat.le_of_ble_eq_true rfl) (namesOk_pure rfl rfl rfl rfl) ?_
  intro B hN
  refine WpC.conv (cvK (b := ⟨[(0, .p (.list (.list (.named 5))) a0), (1, .p (.list (.named 3)) a1), (2, .p (.list (.named 4)) a2)], []⟩) [0, 1, 2] [] (by kernel_rfl)) ?_
  unfold millwrightlaw17_ExpandWords.f at h
  refine WpC.seq ?_
  refine rS {} [0, 1, 2] [] hN (by kernel_rfl) (by kernel_rfl) ?_
  refine tnU ?_
  refine WpC.seq ?_
  refine WpC.seq ?_
  obtain ⟨v1, hv1, h⟩ := bind_some h
  refine rS { its := [(0, .c (millwrightlaw17_alive.ok O hO k v1 hv1))] } [0, 1, 2, 25] [] hN (by kernel_rfl) (by kernel_rfl) ?_
  refine tnU ?_
  refine tS (b := (!v1)) (by kernel_rfl) (fun hc2 => ?_) (fun hc2 => ?_)
  · replace h := ite_t hc2 h
    refine WpC.seq ?_
    refine rS {} [6] [] hN (by kernel_rfl) (by kernel_rfl) ?_
    refine tnU ?_
    refine WpC.ret ?_
    refine thenQ_ret ?_
    have hq := Option.some.inj h
    subst hq
    exact eR (by kernel_rfl) (by kernel_rfl)
  · replace h := ite_f hc2 h
    refine WpC.conv (cS [.k [0, 1, 2] []] (by kernel_rfl) (by kernel_rfl)) (WpC.skip ?_)
    refine tnU ?_
    refine sqJ (fun st' => millwrightlaw17_ExpandWords.j62 k a0 a1 a2 = some out ∧ st' = ⟨[(0, .p (.list (.list (.named 5))) a0), (1, .p (.list (.named 3)) a1), (2, .p (.list (.named 4)) a2)], []⟩) ?_ ?_
    · refine sqJ (fun st' => ∃ v63 : Bool, millwrightlaw17_ExpandWords.j65 k a0 a1 a2 v63 = some out ∧ st' = ⟨[(0, .p (.list (.list (.named 5))) a0), (1, .p (.list (.named 3)) a1), (2, .p (.list (.named 4)) a2), (31, .p .bool v63)], []⟩) ?_ ?_
      · obtain ⟨v66, hv66, h⟩ := bind_some h
        rcases bool_cases v66 with hc67 | hc67
        · replace h := ite_t hc67 h
          refine rS { its := [(1, .c (millwrightlaw13_Long.ok O hO k a0 12 v66 hv66))], kn := [(28, .t hc67)] } [0, 1, 2, 31] [] hN (by kernel_rfl) (by kernel_rfl) ?_
          refine tnU ?_
          exact ⟨true, h, by kernel_rfl⟩
        · replace h := ite_f hc67 h
          obtain ⟨v68, hv68, h⟩ := bind_some h
          refine rS { its := [(1, .c (millwrightlaw13_Long.ok O hO k a0 12 v66 hv66)), (4, .c (millwrightlaw17_LongOutputs.ok O hO k a2 10 v68 hv68))], kn := [(28, .f hc67)] } [0, 1, 2, 31] [] hN (by kernel_rfl) (by kernel_rfl) ?_
          refine tnU ?_
          exact ⟨v68, h, by kernel_rfl⟩
      · rintro _ ⟨v63, h, rfl⟩
        unfold millwrightlaw17_ExpandWords.j65 at h
        refine tS (b := v63) (by kernel_rfl) (fun hc64 => ?_) (fun hc64 => ?_)
        · replace h := ite_t hc64 h
          refine WpC.seq ?_
          refine rS {} [6] [] hN (by kernel_rfl) (by kernel_rfl) ?_
          refine tnU ?_
          refine WpC.ret ?_
          refine thenQ_ret ?_
          have hq := Option.some.inj h
          subst hq
          exact eR (by kernel_rfl) (by kernel_rfl)
        · replace h := ite_f hc64 h
          refine WpC.conv (cS [.k [0, 1, 2] []] (by kernel_rfl) (by kernel_rfl)) (WpC.skip ?_)
          refine tnU ?_
          exact ⟨h, by kernel_rfl⟩
    · rintro _ ⟨h, rfl⟩
      unfold millwrightlaw17_ExpandWords.j62 at h
      refine WpC.seq ?_
      obtain ⟨v3, hv3, h⟩ := bind_some h
      refine rS { its := [(1, .c (COk.ren (millwrightlaw17_Vars.ok O hO k a1 v3 hv3) (fun n => if n = 60500 then 10001 else if n = 60501 then 10002 else if n = 60502 then 10003 else n) (injOn_of (by kernel_rfl))))] } [0, 2, 7, 8, 9] [10001, 10002, 10003] hN (by kernel_rfl) (by kernel_rfl) ?_
      refine tnU ?_
      refine WpC.seq ?_
      refine WpC.seq ?_
      refine rS {} [0, 2, 7, 8, 39] [10001, 10002, 10003] hN (by kernel_rfl) (by kernel_rfl) ?_
      refine tnU ?_
      refine tS (b := (!v3.2.2.2.2)) (by kernel_rfl) (fun hc4 => ?_) (fun hc4 => ?_)
      · replace h := ite_t hc4 h
        refine WpC.seq ?_
        refine rS {} [6] [] hN (by kernel_rfl) (by kernel_rfl) ?_
        refine tnU ?_
        refine WpC.ret ?_
        refine thenQ_ret ?_
        have hq := Option.some.inj h
        subst hq
        exact eR (by kernel_rfl) (by kernel_rfl)
      · replace h := ite_f hc4 h
        refine WpC.conv (cS [.k [0, 2, 7, 8] [10001, 10002, 10003]] (by kernel_rfl) (by kernel_rfl)) (WpC.skip ?_)
        refine tnU ?_
        refine WpC.seq ?_
        obtain ⟨v5, hv5, h⟩ := bind_some h
        refine rS { its := [(1, .c (millwrightlaw13_Of.ok O hO k a0 v5 hv5))] } [0, 2, 7, 8, 10] [10001, 10002, 10003] hN (by kernel_rfl) (by kernel_rfl) ?_
        refine tnU ?_
        refine WpC.seq ?_
        obtain ⟨hc6, h⟩ := if_some h
        refine WpC.conv (cS [.oS 7 hc6, .k [0, 2, 7, 8, 10] [10001, 10002, 10003], .oK 10001 hc6, .k [0, 2, 7, 8, 10] [10001, 10002, 10003], .oK 10002 hc6, .k [0, 2, 7, 8, 10] [10001, 10002, 10003]] (by kernel_rfl) (by kernel_rfl)) ?_
        obtain ⟨v7, hv7, h⟩ := bind_some h
        refine rS { its := [(3, .c (COk.ren (expand_Words_m0.ok O hO k a0 v3.2.1 a2 v7 hv7) (fun n => if n = 100000 then 10001 else if n = 100001 then 10002 else n) (injOn_of (by kernel_rfl))))] } [0, 2, 7, 8, 10, 11, 12] [10001, 10002, 10003] hN (by kernel_rfl) (by kernel_rfl) ?_
        refine tnU ?_
        refine WpC.seq ?_
        obtain ⟨hc8, h⟩ := if_some h
        refine WpC.conv (cS [.oS 8 hc8, .k [0, 2, 7, 8, 10, 11, 12] [10001, 10002, 10003], .oK 10003 hc8, .k [0, 2, 7, 8, 10, 11, 12] [10001, 10002, 10003]] (by kernel_rfl) (by kernel_rfl)) ?_
        obtain ⟨v9, hv9, h⟩ := bind_some h
        obtain ⟨v10, hv10, h⟩ := bind_some h
        refine rS { its := [(3, .c (millwrightlaw17_Outputs.ok O hO k a2 v9 hv9)), (4, .c (COk.ren (millwrightref17_Words_m0.ok O hO k v5 v3.2.2.2.1 v9 v10 hv10) (fun n => if n = 100000 then 10003 else n) (injOn_of (by kernel_rfl))))] } [0, 2, 7, 8, 11, 12, 13, 14] [10001, 10002, 10003] hN (by kernel_rfl) (by kernel_rfl) ?_
        refine tnU ?_
        refine sqJ (fun st' => millwrightlaw17_ExpandWords.j55 k a0 a2 v3 = some out ∧ st' = ⟨[(0, .p (.list (.list (.named 5))) a0), (2, .p (.list (.named 4)) a2), (7, .loc 10001 0), (8, .loc 10003 0)], [(10001, .box [.mp 10002]), (10002, .map (.named 3) v3.2.1), (10003, .box [.p (.list (.named 3)) v3.2.2.2.1])]⟩) ?_ ?_
        · refine sqJ (fun st' => ∃ v56 : Bool, millwrightlaw17_ExpandWords.j58 k a0 a2 v3 v56 = some out ∧ st' = ⟨[(0, .p (.list (.list (.named 5))) a0), (2, .p (.list (.named 4)) a2), (7, .loc 10001 0), (8, .loc 10003 0), (66, .p .bool v56)], [(10001, .box [.mp 10002]), (10002, .map (.named 3) v3.2.1), (10003, .box [.p (.list (.named 3)) v3.2.2.2.1])]⟩) ?_ ?_
          · obtain ⟨v59, hv59, h⟩ := bind_some h
            rcases bool_cases (v59 != v10.2) with hc60 | hc60
            · replace h := ite_t hc60 h
              refine rS { its := [(1, .c (millwrightnum_Num.ok O hO k v7.2 v59 hv59))], kn := [(61, .t hc60)] } [0, 2, 7, 8, 66] [10001, 10002, 10003] hN (by kernel_rfl) (by kernel_rfl) ?_
              refine tnU ?_
              exact ⟨true, h, by kernel_rfl⟩
            · replace h := ite_f hc60 h
              obtain ⟨v61, hv61, h⟩ := bind_some h
              refine rS { its := [(1, .c (millwrightnum_Num.ok O hO k v7.2 v59 hv59)), (7, .c (millwrightnum_SameTexts.ok O hO k v7.1 v10.1 v61 hv61))], kn := [(61, .f hc60)] } [0, 2, 7, 8, 66] [10001, 10002, 10003] hN (by kernel_rfl) (by kernel_rfl) ?_
              refine tnU ?_
              exact ⟨(!v61), h, by kernel_rfl⟩
          · rintro _ ⟨v56, h, rfl⟩
            unfold millwrightlaw17_ExpandWords.j58 at h
            refine tS (b := v56) (by kernel_rfl) (fun hc57 => ?_) (fun hc57 => ?_)
            · replace h := ite_t hc57 h
              refine WpC.seq ?_
              refine rS {} [6] [] hN (by kernel_rfl) (by kernel_rfl) ?_
              refine tnU ?_
              refine WpC.ret ?_
              refine thenQ_ret ?_
              have hq := Option.some.inj h
              subst hq
              exact eR (by kernel_rfl) (by kernel_rfl)
            · replace h := ite_f hc57 h
              refine WpC.conv (cS [.k [0, 2, 7, 8] [10001, 10002, 10003]] (by kernel_rfl) (by kernel_rfl)) (WpC.skip ?_)
              refine tnU ?_
              exact ⟨h, by kernel_rfl⟩
        · rintro _ ⟨h, rfl⟩
          unfold millwrightlaw17_ExpandWords.j55 at h
          refine WpC.seq ?_
          refine rSC {} [0, 2, 7, 8, 15] [67, 10001, 10002, 10003] hN (by kernel_rfl) (by kernel_rfl) (cS [.k [0, 2, 7, 8, 15] [67, 10001, 10002, 10003], .x (Conv.cast (U := Un) (st := ⟨[(0, .p (.list (.list (.named 5))) a0), (2, .p (.list (.named 4)) a2), (7, .loc 10001 0), (8, .loc 10003 0), (15, .vec 67 1 0 (([] : List (List UInt8)).length))], [(67, .row 9 .str ([] : List (List UInt8)) true), (10001, .box [.mp 10002]), (10002, .map (.named 3) v3.2.1), (10003, .box [.p (.list (.named 3)) v3.2.2.2.1])]⟩) (st' := ⟨[(0, .p (.list (.list (.named 5))) a0), (2, .p (.list (.named 4)) a2), (7, .loc 10001 0), (8, .loc 10003 0), (15, .vec 67 1 0 0)], [(67, .row 9 .str ([] : List (List UInt8)) true), (10001, .box [.mp 10002]), (10002, .map (.named 3) v3.2.1), (10003, .box [.p (.list (.named 3)) v3.2.2.2.1])]⟩) (by simp only [upd_length, List.length_nil, List.length_replicate]))] (by kernel_rfl) (by kernel_rfl)) ?_
          refine tnU ?_
          refine sqJ (fun st' => ∃ v11 : List (List UInt8), millwrightlaw17_ExpandWords.j14 k a0 v11 = some out ∧ st' = ⟨[(0, .p (.list (.list (.named 5))) a0), (15, .vec 1015 1 0 v11.length)], [(1015, .row 9 .str v11 false)]⟩) ?_ ?_
          · refine WpC.seq ?_
            refine rS {} [0, 2, 7, 8, 15, 68, 69, 70] [67, 10001, 10002, 10003] hN (by kernel_rfl) (by kernel_rfl) ?_
            refine tnU ?_
            refine WpC.block ?_
            obtain ⟨o19, hlo19, h⟩ := bind_some h
            have hout20 := h
            clear h
            refine WpC.conv (cS [.lo 67, .k [0, 2, 7, 8, 15, 68, 69, 70] [67, 10001, 10002, 10003], .rn 67 1015, .k [0, 2, 7, 8, 15, 68, 69, 70] [1015, 10001, 10002, 10003]] (by kernel_rfl) (by kernel_rfl)) ?_
            refine WpC.loop (U := Un) (fun n st' => ∃ v15 : List (List UInt8), ∃ v16 : Int, millwrightlaw17_ExpandWords.l17 k a0 a2 v3 n v15 v16 = some o19 ∧ st' = ⟨[(0, .p (.list (.list (.named 5))) a0), (2, .p (.list (.named 4)) a2), (7, .loc 10001 0), (8, .loc 10003 0), (15, .vec 1015 1 0 v15.length), (68, .p (.list (.list (.named 5))) a0), (69, .p I6 ((a0.length : Int) : Int)), (70, .p I6 v16)], [(1015, .row 9 .str v15 false), (10001, .box [.mp 10002]), (10002, .map (.named 3) v3.2.1), (10003, .box [.p (.list (.named 3)) v3.2.2.2.1])]⟩) k ⟨([] : List (List UInt8)), 0, hlo19, by kernel_rfl⟩ ?_
            clear hlo19
            rintro (_ | n) _ ⟨v15, v16, h, rfl⟩
            · cases h
            · rw [millwrightlaw17_ExpandWords.l17] at h
              refine WpC.seq ?_
              refine rS {} [0, 2, 7, 8, 15, 68, 69, 70, 71] [1015, 10001, 10002, 10003] hN (by kernel_rfl) (by kernel_rfl) ?_
              refine tnU ?_
              refine WpC.seq ?_
              refine tS (b := (decide (v16 < (a0.length : Int)))) (by kernel_rfl) (fun hc21 => ?_) (fun hc21 => ?_)
              · replace h := ite_t hc21 h
                refine WpC.conv (cS [.k [0, 2, 7, 8, 15, 68, 69, 70] [1015, 10001, 10002, 10003]] (by kernel_rfl) (by kernel_rfl)) (WpC.skip ?_)
                refine tnU ?_
                refine sqJ (fun st' => ∃ v22 : List (List UInt8), millwrightlaw17_ExpandWords.j23 k (millwrightlaw17_ExpandWords.l17 k a0 a2 v3 n) a0 a2 v3 v16 v22 = some o19 ∧ st' = ⟨[(0, .p (.list (.list (.named 5))) a0), (2, .p (.list (.named 4)) a2), (7, .loc 10001 0), (8, .loc 10003 0), (15, .vec 1015 1 0 v22.length), (68, .p (.list (.list (.named 5))) a0), (69, .p I6 ((a0.length : Int) : Int)), (70, .p I6 v16)], [(1015, .row 9 .str v22 false), (10001, .box [.mp 10002]), (10002, .map (.named 3) v3.2.1), (10003, .box [.p (.list (.named 3)) v3.2.2.2.1])]⟩) ?_ ?_
                · refine WpC.block ?_
                  refine WpC.seq ?_
                  obtain ⟨v24, hv24, h⟩ := bind_some h
                  refine rS { its := [(0, .v (.list (.named 5)) hv24)] } [0, 2, 7, 8, 15, 17, 68, 69, 70] [1015, 10001, 10002, 10003] hN (by kernel_rfl) (by kernel_rfl) ?_
                  refine tnU ?_
                  refine WpC.seq ?_
                  obtain ⟨v25, hv25, h⟩ := bind_some h
                  refine rS { its := [(3, .c (COk.ren (expand_Word_m0.ok O hO k v24 v3.2.1 a2 v25 hv25) (fun n => if n = 100000 then 10001 else if n = 100001 then 10002 else n) (injOn_of (by kernel_rfl))))] } [0, 2, 7, 8, 15, 17, 18, 19, 68, 69, 70] [1015, 10001, 10002, 10003] hN (by kernel_rfl) (by kernel_rfl) ?_
                  refine tnU ?_
                  refine WpC.seq ?_
                  obtain ⟨v26, hv26, h⟩ := bind_some h
                  obtain ⟨v27, hv27, h⟩ := bind_some h
                  obtain ⟨v28, hv28, h⟩ := bind_some h
                  refine rS { its := [(1, .c (millwrightlaw13_Word.ok O hO k v24 v26 hv26)), (4, .c (millwrightlaw17_Outputs.ok O hO k a2 v27 hv27)), (5, .c (COk.ren (millwrightref17_Word_m0.ok O hO k v26 v3.2.2.2.1 v27 v28 hv28) (fun n => if n = 100000 then 10003 else n) (injOn_of (by kernel_rfl))))] } [0, 2, 7, 8, 15, 17, 18, 19, 20, 21, 68, 69, 70] [1015, 10001, 10002, 10003] hN (by kernel_rfl) (by kernel_rfl) ?_
                  refine tnU ?_
                  refine sqJ (fun st' => millwrightlaw17_ExpandWords.j46 k (millwrightlaw17_ExpandWords.l17 k a0 a2 v3 n) a0 a2 v3 v15 v16 v24 = some o19 ∧ st' = ⟨[(0, .p (.list (.list (.named 5))) a0), (2, .p (.list (.named 4)) a2), (7, .loc 10001 0), (8, .loc 10003 0), (15, .vec 1015 1 0 v15.length), (17, .p (.list (.named 5)) v24), (68, .p (.list (.list (.named 5))) a0), (69, .p I6 ((a0.length : Int) : Int)), (70, .p I6 v16)], [(1015, .row 9 .str v15 false), (10001, .box [.mp 10002]), (10002, .map (.named 3) v3.2.1), (10003, .box [.p (.list (.named 3)) v3.2.2.2.1])]⟩) ?_ ?_
                  · refine sqJ (fun st' => ∃ v47 : Bool, millwrightlaw17_ExpandWords.j49 k (millwrightlaw17_ExpandWords.l17 k a0 a2 v3 n) a0 a2 v3 v15 v16 v24 v47 = some o19 ∧ st' = ⟨[(0, .p (.list (.list (.named 5))) a0), (2, .p (.list (.named 4)) a2), (7, .loc 10001 0), (8, .loc 10003 0), (15, .vec 1015 1 0 v15.length), (17, .p (.list (.named 5)) v24), (68, .p (.list (.list (.named 5))) a0), (69, .p I6 ((a0.length : Int) : Int)), (70, .p I6 v16), (99, .p .bool v47)], [(1015, .row 9 .str v15 false), (10001, .box [.mp 10002]), (10002, .map (.named 3) v3.2.1), (10003, .box [.p (.list (.named 3)) v3.2.2.2.1])]⟩) ?_ ?_
                    · obtain ⟨v50, hv50, h⟩ := bind_some h
                      rcases bool_cases (v50 != v28.2) with hc51 | hc51
                      · replace h := ite_t hc51 h
                        refine rS { its := [(1, .c (millwrightnum_Num.ok O hO k v25.2 v50 hv50))], kn := [(94, .t hc51)] } [0, 2, 7, 8, 15, 17, 68, 69, 70, 99] [1015, 10001, 10002, 10003] hN (by kernel_rfl) (by kernel_rfl) ?_
                        refine tnU ?_
                        exact ⟨true, h, by kernel_rfl⟩
                      · replace h := ite_f hc51 h
                        obtain ⟨v52, hv52, h⟩ := bind_some h
                        refine rS { its := [(1, .c (millwrightnum_Num.ok O hO k v25.2 v50 hv50)), (7, .c (millwrightnum_SameTexts.ok O hO k v25.1 v28.1 v52 hv52))], kn := [(94, .f hc51)] } [0, 2, 7, 8, 15, 17, 68, 69, 70, 99] [1015, 10001, 10002, 10003] hN (by kernel_rfl) (by kernel_rfl) ?_
                        refine tnU ?_
                        exact ⟨(!v52), h, by kernel_rfl⟩
                    · rintro _ ⟨v47, h, rfl⟩
                      unfold millwrightlaw17_ExpandWords.j49 at h
                      refine tS (b := v47) (by kernel_rfl) (fun hc48 => ?_) (fun hc48 => ?_)
                      · replace h := ite_t hc48 h
                        refine WpC.seq ?_
                        refine rS {} [6] [] hN (by kernel_rfl) (by kernel_rfl) ?_
                        refine tnU ?_
                        refine WpC.ret ?_
                        refine thenQ_ret ?_
                        refine blockQ_ret ?_
                        refine thenQ_ret ?_
                        have hq := Option.some.inj h
                        subst hq
                        refine thenQ_ret ?_
                        have h := hout20
                        refine blockQ_ret ?_
                        refine thenQ_ret ?_
                        have hq := Option.some.inj h
                        subst hq
                        exact eR (by kernel_rfl) (by kernel_rfl)
                      · replace h := ite_f hc48 h
                        refine WpC.conv (cS [.k [0, 2, 7, 8, 15, 17, 68, 69, 70] [1015, 10001, 10002, 10003]] (by kernel_rfl) (by kernel_rfl)) (WpC.skip ?_)
                        refine tnU ?_
                        exact ⟨h, by kernel_rfl⟩
                  · rintro _ ⟨h, rfl⟩
                    unfold millwrightlaw17_ExpandWords.j46 at h
                    refine WpC.seq ?_
                    refine rS {} [0, 2, 7, 8, 15, 68, 69, 70, 100, 101, 102] [1015, 10001, 10002, 10003] hN (by kernel_rfl) (by kernel_rfl) ?_
                    refine tnU ?_
                    refine WpC.block ?_
                    obtain ⟨o33, hlo33, h⟩ := bind_some h
                    have hout34 := h
                    clear h
                    refine WpC.loop (U := Un) (fun n st' => ∃ v29 : List (List UInt8), ∃ v30 : Int, millwrightlaw17_ExpandWords.l31 k a0 a2 v3 v16 v24 n v29 v30 = some o33 ∧ st' = ⟨[(0, .p (.list (.list (.named 5))) a0), (2, .p (.list (.named 4)) a2), (7, .loc 10001 0), (8, .loc 10003 0), (15, .vec 1015 1 0 v29.length), (68, .p (.list (.list (.named 5))) a0), (69, .p I6 ((a0.length : Int) : Int)), (70, .p I6 v16), (100, .p (.list (.named 5)) v24), (101, .p I6 ((v24.length : Int) : Int)), (102, .p I6 v30)], [(1015, .row 9 .str v29 false), (10001, .box [.mp 10002]), (10002, .map (.named 3) v3.2.1), (10003, .box [.p (.list (.named 3)) v3.2.2.2.1])]⟩) k ⟨v15, 0, hlo33, by kernel_rfl⟩ ?_
                    clear hlo33
                    rintro (_ | n) _ ⟨v29, v30, h, rfl⟩
                    · cases h
                    · rw [millwrightlaw17_ExpandWords.l31] at h
                      refine WpC.seq ?_
                      refine rS {} [0, 2, 7, 8, 15, 68, 69, 70, 100, 101, 102, 103] [1015, 10001, 10002, 10003] hN (by kernel_rfl) (by kernel_rfl) ?_
                      refine tnU ?_
                      refine WpC.seq ?_
                      refine tS (b := (decide (v30 < (v24.length : Int)))) (by kernel_rfl) (fun hc35 => ?_) (fun hc35 => ?_)
                      · replace h := ite_t hc35 h
                        refine WpC.conv (cS [.k [0, 2, 7, 8, 15, 68, 69, 70, 100, 101, 102] [1015, 10001, 10002, 10003]] (by kernel_rfl) (by kernel_rfl)) (WpC.skip ?_)
                        refine tnU ?_
                        refine sqJ (fun st' => ∃ v36 : List (List UInt8), millwrightlaw17_ExpandWords.j37 k (millwrightlaw17_ExpandWords.l31 k a0 a2 v3 v16 v24 n) a0 a2 v3 v16 v24 v30 v36 = some o33 ∧ st' = ⟨[(0, .p (.list (.list (.named 5))) a0), (2, .p (.list (.named 4)) a2), (7, .loc 10001 0), (8, .loc 10003 0), (15, .vec 1015 1 0 v36.length), (68, .p (.list (.list (.named 5))) a0), (69, .p I6 ((a0.length : Int) : Int)), (70, .p I6 v16), (100, .p (.list (.named 5)) v24), (101, .p I6 ((v24.length : Int) : Int)), (102, .p I6 v30)], [(1015, .row 9 .str v36 false), (10001, .box [.mp 10002]), (10002, .map (.named 3) v3.2.1), (10003, .box [.p (.list (.named 3)) v3.2.2.2.1])]⟩) ?_ ?_
                        · refine WpC.block ?_
                          refine WpC.seq ?_
                          obtain ⟨v38, hv38, h⟩ := bind_some h
                          refine rS { its := [(0, .v (.named 5) hv38)] } [0, 2, 7, 8, 15, 23, 68, 69, 70, 100, 101, 102] [23, 1015, 10001, 10002, 10003] hN (by kernel_rfl) (by kernel_rfl) ?_
                          refine tnU ?_
                          refine sqJ (fun st' => ∃ v39 : Bool, millwrightlaw17_ExpandWords.j42 k (millwrightlaw17_ExpandWords.l31 k a0 a2 v3 v16 v24 n) a0 a2 v3 v16 v24 v29 v30 v38 v39 = some o33 ∧ st' = ⟨[(0, .p (.list (.list (.named 5))) a0), (2, .p (.list (.named 4)) a2), (7, .loc 10001 0), (8, .loc 10003 0), (15, .vec 1015 1 0 v29.length), (23, .loc 23 0), (68, .p (.list (.list (.named 5))) a0), (69, .p I6 ((a0.length : Int) : Int)), (70, .p I6 v16), (100, .p (.list (.named 5)) v24), (101, .p I6 ((v24.length : Int) : Int)), (102, .p I6 v30), (115, .p .bool v39)], [(23, .box [.p I6 v38.f_Kind, .p .str v38.f_Text, .p .str v38.f_From, .p .str v38.f_To]), (1015, .row 9 .str v29 false), (10001, .box [.mp 10002]), (10002, .map (.named 3) v3.2.1), (10003, .box [.p (.list (.named 3)) v3.2.2.2.1])]⟩) ?_ ?_
                          · rcases bool_cases (v38.f_Kind == 4) with hc43 | hc43
                            · replace h := ite_t hc43 h
                              obtain ⟨v44, hv44, h⟩ := bind_some h
                              refine rS { its := [(7, .c (millwrightnum_Has.ok O hO k v29 v38.f_Text v44 hv44))], kn := [(109, .t hc43)] } [0, 2, 7, 8, 15, 23, 68, 69, 70, 100, 101, 102, 115] [23, 1015, 10001, 10002, 10003] hN (by kernel_rfl) (by kernel_rfl) ?_
                              refine tnU ?_
                              exact ⟨(!v44), h, by kernel_rfl⟩
                            · replace h := ite_f hc43 h
                              refine rS { kn := [(109, .f hc43)] } [0, 2, 7, 8, 15, 23, 68, 69, 70, 100, 101, 102, 115] [23, 1015, 10001, 10002, 10003] hN (by kernel_rfl) (by kernel_rfl) ?_
                              refine tnU ?_
                              exact ⟨false, h, by kernel_rfl⟩
                          · rintro _ ⟨v39, h, rfl⟩
                            unfold millwrightlaw17_ExpandWords.j42 at h
                            refine tS (b := v39) (by kernel_rfl) (fun hc40 => ?_) (fun hc40 => ?_)
                            · replace h := ite_t hc40 h
                              obtain ⟨g41, h⟩ := if_some h
                              refine rSC { its := [(4, .g g41)] } [0, 2, 7, 8, 15, 68, 69, 70, 100, 101, 102] [120, 10001, 10002, 10003] hN (by kernel_rfl) (by kernel_rfl) (cS [.rn 120 1015, .k [0, 2, 7, 8, 15, 68, 69, 70, 100, 101, 102] [1015, 10001, 10002, 10003]] (by kernel_rfl) (by kernel_rfl)) ?_
                              refine blockQ_normal ?_
                              refine tnU ?_
                              exact ⟨(v29 ++ [v38.f_Text]), h, by kernel_rfl⟩
                            · replace h := ite_f hc40 h
                              refine WpC.conv (cS [.k [0, 2, 7, 8, 15, 68, 69, 70, 100, 101, 102] [1015, 10001, 10002, 10003]] (by kernel_rfl) (by kernel_rfl)) (WpC.skip ?_)
                              refine blockQ_normal ?_
                              refine tnU ?_
                              exact ⟨v29, h, by kernel_rfl⟩
                        · rintro _ ⟨v36, h, rfl⟩
                          unfold millwrightlaw17_ExpandWords.j37 at h
                          refine rS {} [0, 2, 7, 8, 15, 68, 69, 70, 100, 101, 102] [1015, 10001, 10002, 10003] hN (by kernel_rfl) (by kernel_rfl) ?_
                          refine tnU ?_
                          exact ⟨n, Nat.lt_succ_self n, v36, (IntKind.i64.wrap (v30 + 1)), h, by kernel_rfl⟩
                      · replace h := ite_f hc35 h
                        refine WpC.conv (cS [.k [0, 2, 7, 8, 15, 68, 69, 70] [1015, 10001, 10002, 10003]] (by kernel_rfl) (by kernel_rfl)) (WpC.exit ?_)
                        refine thenQ_exit ?_
                        have hq := Option.some.inj h
                        subst hq
                        refine thenQ_exit ?_
                        have h := hout34
                        refine blockQ_hit ?_
                        refine blockQ_normal ?_
                        refine tnU ?_
                        exact ⟨v29, h, by kernel_rfl⟩
                · rintro _ ⟨v22, h, rfl⟩
                  unfold millwrightlaw17_ExpandWords.j23 at h
                  refine rS {} [0, 2, 7, 8, 15, 68, 69, 70] [1015, 10001, 10002, 10003] hN (by kernel_rfl) (by kernel_rfl) ?_
                  refine tnU ?_
                  exact ⟨n, Nat.lt_succ_self n, v22, (IntKind.i64.wrap (v16 + 1)), h, by kernel_rfl⟩
              · replace h := ite_f hc21 h
                refine WpC.conv (cS [.k [0, 15] [1015]] (by kernel_rfl) (by kernel_rfl)) (WpC.exit ?_)
                refine thenQ_exit ?_
                have hq := Option.some.inj h
                subst hq
                refine thenQ_exit ?_
                have h := hout20
                refine blockQ_hit ?_
                refine tnU ?_
                exact ⟨v15, h, by kernel_rfl⟩
          · rintro _ ⟨v11, h, rfl⟩
            unfold millwrightlaw17_ExpandWords.j14 at h
            refine WpC.seq ?_
            obtain ⟨v12, hv12, h⟩ := bind_some h
            obtain ⟨v13, hv13, h⟩ := bind_some h
            refine rS { its := [(1, .c (expand_Commands.ok O hO k a0 v12 hv12)), (3, .c (millwrightnum_SameTexts.ok O hO k v12 v11 v13 hv13))] } [6] [] hN (by kernel_rfl) (by kernel_rfl) ?_
            refine tnU ?_
            refine WpC.ret ?_
            have hq := Option.some.inj h
            subst hq
            exact eR (by kernel_rfl) (by kernel_rfl)

end Go.Proofs.YtldepagjdbcmgaaGreatDoor
