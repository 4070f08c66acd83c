/- A part of the proof of a given law: ETC0. Own work, printed in part by a program of mine. -/
import Derived.Test.YtcblgpcgdihcbaaGreatDoorK20ETF
namespace Go.Proofs.YtcblgpcgdihcbaaGreatDoor
open Go Go.AM
set_option linter.unusedVariables false
set_option linter.unusedSimpArgs false
set_option maxRecDepth 100000
theorem tree_New.ok (O : Out) (hO : GOk O) (k : Nat) (out : List ((List UInt8) × T_tree_File)) (h : tree_New.f k = some out) : COk Un O Tryz.prog 17 { ar := [], r := .loc 60500 0, bs' := [(60500, .box [.mp 60501]), (60501, .map (.named 3) out)], nn := [60500, 60501] } := by
  refine cok_of_wp Tryz.func17 rfl (k := 4) rfl (Nat.le_of_ble_eq_true rfl) (namesOk_of (by kernel_rfl)) ?_
  intro B hN
  refine WpC.conv (cvK (b := ⟨[], []⟩) [] [] (by kernel_rfl)) ?_
  unfold tree_New.f at h
  refine WpC.seq ?_
  refine rS {} [] [] hN (by kernel_rfl) (by kernel_rfl) ?_
  refine tnU ?_
  refine WpC.seq ?_
  refine rS {} [0] [1, 3] hN (by kernel_rfl) (by kernel_rfl) ?_
  refine tnU ?_
  refine WpC.conv (cS [.rn 1 60501, .k [0] [3, 60501], .rn 3 60500, .k [0] [60500, 60501]] (by kernel_rfl) (by kernel_rfl)) (WpC.ret ?_)
  have hq := Option.some.inj h
  subst hq
  exact eR (by kernel_rfl) (by kernel_rfl)

theorem stringslite_HasSuffix.ok (O : Out) (hO : GOk O) (k : Nat) (a0 : List UInt8) (a1 : List UInt8) (out : Bool) (h : stringslite_HasSuffix.f k a0 a1 = some out) : COk Un O Tryz.prog 99 { ar := [.p .str a0, .p .str a1], r := .p .bool out } := by
  refine cok_of_wp Tryz.func99 rfl (k := 21) rfl (Nat.le_of_ble_eq_true rfl) (namesOk_pure rfl rfl rfl rfl) ?_
  intro B hN
  refine WpC.conv (cvK (b := ⟨[(0, .p .str a0), (1, .p .str a1)], []⟩) [0, 1] [] (by kernel_rfl)) ?_
  unfold stringslite_HasSuffix.f at h
  refine WpC.seq ?_
  refine rS {} [0, 1] [] hN (by kernel_rfl) (by kernel_rfl) ?_
  refine tnU ?_
  refine WpC.seq ?_
  rcases bool_cases (decide ((a0.length : Int) ≥ (a1.length : Int))) with hc1 | hc1
  · replace h := ite_t hc1 h
    obtain ⟨v2, hv2, h⟩ := bind_some h
    refine rS { its := [(12, .v .str hv2)], kn := [(10, .t hc1)] } [4] [] hN (by kernel_rfl) (by kernel_rfl) ?_
    refine tnU ?_
    refine WpC.ret ?_
    have hq := Option.some.inj h
    subst hq
    exact eR (by kernel_rfl) (by kernel_rfl)
  · replace h := ite_f hc1 h
    refine rS { kn := [(10, .f hc1)] } [4] [] hN (by kernel_rfl) (by kernel_rfl) ?_
    refine tnU ?_
    refine WpC.ret ?_
    have hq := Option.some.inj h
    subst hq
    exact eR (by kernel_rfl) (by kernel_rfl)

theorem stringslite_CutSuffix.ok (O : Out) (hO : GOk O) (k : Nat) (a0 : List UInt8) (a1 : List UInt8) (out : (List UInt8) × Bool) (h : stringslite_CutSuffix.f k a0 a1 = some out) : COk Un O Tryz.prog 84 { ar := [.p .str a0, .p .str a1], r := .tup [.p .str out.1, .p .bool out.2] } := by
  refine cok_of_wp Tryz.func84 rfl (k := 18) rfl (Nat.le_of_ble_eq_true rfl) (namesOk_pure rfl rfl rfl rfl) ?_
  intro B hN
  refine WpC.conv (cvK (b := ⟨[(0, .p .str a0), (1, .p .str a1)], []⟩) [0, 1] [] (by kernel_rfl)) ?_
  unfold stringslite_CutSuffix.f at h
  refine WpC.seq ?_
  refine rS {} [0, 1] [] hN (by kernel_rfl) (by kernel_rfl) ?_
  refine tnU ?_
  refine WpC.seq ?_
  refine WpC.seq ?_
  obtain ⟨v1, hv1, h⟩ := bind_some h
  refine rS { its := [(2, .c (stringslite_HasSuffix.ok O hO k a0 a1 v1 hv1))] } [0, 1, 9] [] hN (by kernel_rfl) (by kernel_rfl) ?_
  refine tnU ?_
  refine tS (b := (!v1)) (by kernel_rfl) (fun hc2 => ?_) (fun hc2 => ?_)
  · replace h := ite_t hc2 h
    refine WpC.seq ?_
    refine rS {} [4, 5] [] hN (by kernel_rfl) (by kernel_rfl) ?_
    refine tnU ?_
    refine WpC.ret ?_
    refine thenQ_ret ?_
    have hq := Option.some.inj h
    subst hq
    exact eR (by kernel_rfl) (by kernel_rfl)
  · replace h := ite_f hc2 h
    refine WpC.conv (cS [.k [0, 1] []] (by kernel_rfl) (by kernel_rfl)) (WpC.skip ?_)
    refine tnU ?_
    refine WpC.seq ?_
    obtain ⟨v3, hv3, h⟩ := bind_some h
    refine rS { its := [(6, .v .str hv3)] } [4, 5] [] hN (by kernel_rfl) (by kernel_rfl) ?_
    refine tnU ?_
    refine WpC.ret ?_
    have hq := Option.some.inj h
    subst hq
    exact eR (by kernel_rfl) (by kernel_rfl)

theorem strings_CutSuffix.ok (O : Out) (hO : GOk O) (k : Nat) (a0 : List UInt8) (a1 : List UInt8) (out : (List UInt8) × Bool) (h : strings_CutSuffix.f k a0 a1 = some out) : COk Un O Tryz.prog 63 { ar := [.p .str a0, .p .str a1], r := .tup [.p .str out.1, .p .bool out.2] } := by
  refine cok_of_wp Tryz.func63 rfl (k := 11) rfl (Nat.le_of_ble_eq_true rfl) (namesOk_pure rfl rfl rfl rfl) ?_
  intro B hN
  refine WpC.conv (cvK (b := ⟨[(0, .p .str a0), (1, .p .str a1)], []⟩) [0, 1] [] (by kernel_rfl)) ?_
  unfold strings_CutSuffix.f at h
  refine WpC.seq ?_
  refine rS {} [0, 1] [] hN (by kernel_rfl) (by kernel_rfl) ?_
  refine tnU ?_
  refine WpC.seq ?_
  obtain ⟨v1, hv1, h⟩ := bind_some h
  refine rS { its := [(2, .c (stringslite_CutSuffix.ok O hO k a0 a1 v1 hv1))] } [4, 5] [] hN (by kernel_rfl) (by kernel_rfl) ?_
  refine tnU ?_
  refine WpC.ret ?_
  have hq := Option.some.inj h
  subst hq
  exact eR (by kernel_rfl) (by kernel_rfl)

theorem stringslite_Cut.ok (O : Out) (hO : GOk O) (k : Nat) (a0 : List UInt8) (a1 : List UInt8) (out : (List UInt8) × (List UInt8) × Bool) (h : stringslite_Cut.f k a0 a1 = some out) : COk Un O Tryz.prog 85 { ar := [.p .str a0, .p .str a1], r := .tup [.p .str out.1, .p .str out.2.1, .p .bool out.2.2] } := by
  refine cok_of_wp Tryz.func85 rfl (k := 23) rfl (Nat.le_of_ble_eq_true rfl) (namesOk_pure rfl rfl rfl rfl) ?_
  intro B hN
  refine WpC.conv (cvK (b := ⟨[(0, .p .str a0), (1, .p .str a1)], []⟩) [0, 1] [] (by kernel_rfl)) ?_
  unfold stringslite_Cut.f at h
  refine WpC.seq ?_
  refine rS {} [0, 1] [] hN (by kernel_rfl) (by kernel_rfl) ?_
  refine tnU ?_
  refine WpC.seq ?_
  refine WpC.seq ?_
  obtain ⟨v1, hv1, h⟩ := bind_some h
  refine rS { its := [(2, .c (pIndexL.ok O hO k a0 a1 v1 hv1))] } [0, 1, 7] [] hN (by kernel_rfl) (by kernel_rfl) ?_
  refine tnU ?_
  refine WpC.seq ?_
  refine rS {} [0, 1, 7, 12] [] hN (by kernel_rfl) (by kernel_rfl) ?_
  refine tnU ?_
  refine tS (b := (decide (v1 ≥ 0))) (by kernel_rfl) (fun hc2 => ?_) (fun hc2 => ?_)
  · replace h := ite_t hc2 h
    refine WpC.seq ?_
    obtain ⟨v3, hv3, h⟩ := bind_some h
    obtain ⟨v4, hv4, h⟩ := bind_some h
    refine rA { its := [(2, .v .str hv3), (8, .v .str hv4)] } [4, 5, 6] [] hN (by kernel_rfl) (by kernel_rfl) (by kernel_rfl) ?_
    refine tnU ?_
    refine WpC.ret ?_
    refine thenQ_ret ?_
    have hq := Option.some.inj h
    subst hq
    exact eR (by kernel_rfl) (by kernel_rfl)
  · replace h := ite_f hc2 h
    refine WpC.conv (cS [.k [0] []] (by kernel_rfl) (by kernel_rfl)) (WpC.skip ?_)
    refine tnU ?_
    refine WpC.seq ?_
    refine rS {} [4, 5, 6] [] hN (by kernel_rfl) (by kernel_rfl) ?_
    refine tnU ?_
    refine WpC.ret ?_
    have hq := Option.some.inj h
    subst hq
    exact eR (by kernel_rfl) (by kernel_rfl)

theorem strings_Cut.ok (O : Out) (hO : GOk O) (k : Nat) (a0 : List UInt8) (a1 : List UInt8) (out : (List UInt8) × (List UInt8) × Bool) (h : strings_Cut.f k a0 a1 = some out) : COk Un O Tryz.prog 64 { ar := [.p .str a0, .p .str a1], r := .tup [.p .str out.1, .p .str out.2.1, .p .bool out.2.2] } := by
  refine cok_of_wp Tryz.func64 rfl (k := 13) rfl (Nat.le_of_ble_eq_true rfl) (namesOk_pure rfl rfl rfl rfl) ?_
  intro B hN
  refine WpC.conv (cvK (b := ⟨[(0, .p .str a0), (1, .p .str a1)], []⟩) [0, 1] [] (by kernel_rfl)) ?_
  unfold strings_Cut.f at h
  refine WpC.seq ?_
  refine rS {} [0, 1] [] hN (by kernel_rfl) (by kernel_rfl) ?_
  refine tnU ?_
  refine WpC.seq ?_
  obtain ⟨v1, hv1, h⟩ := bind_some h
  refine rS { its := [(2, .c (stringslite_Cut.ok O hO k a0 a1 v1 hv1))] } [4, 5, 6] [] hN (by kernel_rfl) (by kernel_rfl) ?_
  refine tnU ?_
  refine WpC.ret ?_
  have hq := Option.some.inj h
  subst hq
  exact eR (by kernel_rfl) (by kernel_rfl)

theorem names_Right.ok (O : Out) (hO : GOk O) (k : Nat) (a0 : List UInt8) (out : Bool) (h : names_Right.f k a0 = some out) : COk Un O Tryz.prog 65 { ar := [.p .str a0], r := .p .bool out } := by
  refine cok_of_wp Tryz.func65 rfl (k := 28) rfl (Nat.le_of_ble_eq_true rfl) (namesOk_pure rfl rfl rfl rfl) ?_
  intro B hN
  refine WpC.conv (cvK (b := ⟨[(0, .p .str a0)], []⟩) [0] [] (by kernel_rfl)) ?_
  unfold names_Right.f at h
  refine WpC.seq ?_
  refine rS {} [0] [] hN (by kernel_rfl) (by kernel_rfl) ?_
  refine tnU ?_
  refine sqJ (fun st' => names_Right.j16 k a0 = some out ∧ st' = ⟨[(0, .p .str a0)], []⟩) ?_ ?_
  · refine sqJ (fun st' => ∃ v17 : Bool, names_Right.j19 k a0 v17 = some out ∧ st' = ⟨[(0, .p .str a0), (11, .p .bool v17)], []⟩) ?_ ?_
    · rcases bool_cases (decide ((a0.length : Int) < 1)) with hc20 | hc20
      · replace h := ite_t hc20 h
        refine rS { kn := [(7, .t hc20)] } [0, 11] [] hN (by kernel_rfl) (by kernel_rfl) ?_
        refine tnU ?_
        exact ⟨true, h, by kernel_rfl⟩
      · replace h := ite_f hc20 h
        refine rS { kn := [(7, .f hc20)] } [0, 11] [] hN (by kernel_rfl) (by kernel_rfl) ?_
        refine tnU ?_
        exact ⟨(decide ((a0.length : Int) > 40)), h, by kernel_rfl⟩
    · rintro _ ⟨v17, h, rfl⟩
      unfold names_Right.j19 at h
      refine tS (b := v17) (by kernel_rfl) (fun hc18 => ?_) (fun hc18 => ?_)
      · replace h := ite_t hc18 h
        refine WpC.seq ?_
        refine rS {} [2] [] hN (by kernel_rfl) (by kernel_rfl) ?_
        refine tnU ?_
        refine WpC.ret ?_
        refine thenQ_ret ?_
        have hq := Option.some.inj h
        subst hq
        exact eR (by kernel_rfl) (by kernel_rfl)
      · replace h := ite_f hc18 h
        refine WpC.conv (cS [.k [0] []] (by kernel_rfl) (by kernel_rfl)) (WpC.skip ?_)
        refine tnU ?_
        exact ⟨h, by kernel_rfl⟩
  · rintro _ ⟨h, rfl⟩
    unfold names_Right.j16 at h
    refine sqJ (fun st' => names_Right.j1 k = some out ∧ st' = ⟨[], []⟩) ?_ ?_
    · refine WpC.seq ?_
      refine rS {} [0, 13, 14] [] hN (by kernel_rfl) (by kernel_rfl) ?_
      refine tnU ?_
      refine WpC.block ?_
      obtain ⟨o4, hlo4, h⟩ := bind_some h
      have hout5 := h
      clear h
      refine WpC.loop (U := Un) (fun n st' => ∃ v2 : Int, names_Right.l3 k a0 n v2 = some o4 ∧ st' = ⟨[(0, .p .str a0), (13, .p I6 ((a0.length : Int) : Int)), (14, .p I6 v2)], []⟩) k ⟨0, hlo4, by kernel_rfl⟩ ?_
      clear hlo4
      rintro (_ | n) _ ⟨v2, h, rfl⟩
      · cases h
      · rw [names_Right.l3] at h
        refine WpC.seq ?_
        refine rS {} [0, 13, 14, 15] [] hN (by kernel_rfl) (by kernel_rfl) ?_
        refine tnU ?_
        refine WpC.seq ?_
        refine tS (b := (decide (v2 < (a0.length : Int)))) (by kernel_rfl) (fun hc6 => ?_) (fun hc6 => ?_)
        · replace h := ite_t hc6 h
          refine WpC.conv (cS [.k [0, 13, 14] []] (by kernel_rfl) (by kernel_rfl)) (WpC.skip ?_)
          refine tnU ?_
          refine sqJ (fun st' => names_Right.j7 k (names_Right.l3 k a0 n) a0 v2 = some o4 ∧ st' = ⟨[(0, .p .str a0), (13, .p I6 ((a0.length : Int) : Int)), (14, .p I6 v2)], []⟩) ?_ ?_
          · refine WpC.block ?_
            refine WpC.seq ?_
            refine rS {} [0, 3, 13, 14] [] hN (by kernel_rfl) (by kernel_rfl) ?_
            refine tnU ?_
            refine sqJ (fun st' => ∃ v8 : Bool, names_Right.j10 k (names_Right.l3 k a0 n) a0 v2 v8 = some o4 ∧ st' = ⟨[(0, .p .str a0), (13, .p I6 ((a0.length : Int) : Int)), (14, .p I6 v2), (26, .p .bool v8)], []⟩) ?_ ?_
            · obtain ⟨v11, hv11, h⟩ := bind_some h
              rcases bool_cases (decide ((v11.toNat : Int) < 33)) with hc12 | hc12
              · replace h := ite_t hc12 h
                refine rS { its := [(2, .u hv11)], kn := [(21, .t hc12)] } [0, 13, 14, 26] [] hN (by kernel_rfl) (by kernel_rfl) ?_
                refine tnU ?_
                exact ⟨true, h, by kernel_rfl⟩
              · replace h := ite_f hc12 h
                obtain ⟨v13, hv13, h⟩ := bind_some h
                refine rS { its := [(2, .u hv11), (7, .u hv13)], kn := [(21, .f hc12)] } [0, 13, 14, 26] [] hN (by kernel_rfl) (by kernel_rfl) ?_
                refine tnU ?_
                exact ⟨(decide ((v13.toNat : Int) > 126)), h, by kernel_rfl⟩
            · rintro _ ⟨v8, h, rfl⟩
              unfold names_Right.j10 at h
              refine tS (b := v8) (by kernel_rfl) (fun hc9 => ?_) (fun hc9 => ?_)
              · replace h := ite_t hc9 h
                refine WpC.seq ?_
                refine rS {} [2] [] hN (by kernel_rfl) (by kernel_rfl) ?_
                refine tnU ?_
                refine WpC.ret ?_
                refine blockQ_ret ?_
                refine thenQ_ret ?_
                have hq := Option.some.inj h
                subst hq
                refine thenQ_ret ?_
                have h := hout5
                refine blockQ_ret ?_
                refine thenQ_ret ?_
                have hq := Option.some.inj h
                subst hq
                exact eR (by kernel_rfl) (by kernel_rfl)
              · replace h := ite_f hc9 h
                refine WpC.conv (cS [.k [0, 13, 14] []] (by kernel_rfl) (by kernel_rfl)) (WpC.skip ?_)
                refine blockQ_normal ?_
                refine tnU ?_
                exact ⟨h, by kernel_rfl⟩
          · rintro _ ⟨h, rfl⟩
            unfold names_Right.j7 at h
            refine rS {} [0, 13, 14] [] hN (by kernel_rfl) (by kernel_rfl) ?_
            refine tnU ?_
            exact ⟨n, Nat.lt_succ_self n, (IntKind.i64.wrap (v2 + 1)), h, by kernel_rfl⟩
        · replace h := ite_f hc6 h
          refine WpC.conv (cS [.k [] []] (by kernel_rfl) (by kernel_rfl)) (WpC.exit ?_)
          refine thenQ_exit ?_
          have hq := Option.some.inj h
          subst hq
          refine thenQ_exit ?_
          have h := hout5
          refine blockQ_hit ?_
          refine tnU ?_
          exact ⟨h, by kernel_rfl⟩
    · rintro _ ⟨h, rfl⟩
      unfold names_Right.j1 at h
      refine WpC.seq ?_
      refine rS {} [2] [] hN (by kernel_rfl) (by kernel_rfl) ?_
      refine tnU ?_
      refine WpC.ret ?_
      have hq := Option.some.inj h
      subst hq
      exact eR (by kernel_rfl) (by kernel_rfl)

theorem strings_Contains.ok (O : Out) (hO : GOk O) (k : Nat) (a0 : List UInt8) (a1 : List UInt8) (out : Bool) (h : strings_Contains.f k a0 a1 = some out) : COk Un O Tryz.prog 66 { ar := [.p .str a0, .p .str a1], r := .p .bool out } := by
  refine cok_of_wp Tryz.func66 rfl (k := 9) rfl (Nat.le_of_ble_eq_true rfl) (namesOk_pure rfl rfl rfl rfl) ?_
  intro B hN
  refine WpC.conv (cvK (b := ⟨[(0, .p .str a0), (1, .p .str a1)], []⟩) [0, 1] [] (by kernel_rfl)) ?_
  unfold strings_Contains.f at h
  refine WpC.seq ?_
  refine rS {} [0, 1] [] hN (by kernel_rfl) (by kernel_rfl) ?_
  refine tnU ?_
  refine WpC.seq ?_
  obtain ⟨v1, hv1, h⟩ := bind_some h
  refine rS { its := [(2, .c (pIndex.ok O hO k a0 a1 v1 hv1))] } [4] [] hN (by kernel_rfl) (by kernel_rfl) ?_
  refine tnU ?_
  refine WpC.ret ?_
  have hq := Option.some.inj h
  subst hq
  exact eR (by kernel_rfl) (by kernel_rfl)

theorem names_Member.ok (O : Out) (hO : GOk O) (k : Nat) (a0 : List UInt8) (out : (List UInt8) × (List UInt8) × Bool) (h : names_Member.f k a0 = some out) : COk Un O Tryz.prog 38 { ar := [.p .str a0], r := .tup [.p .str out.1, .p .str out.2.1, .p .bool out.2.2] } := by
  refine cok_of_wp Tryz.func38 rfl (k := 48) rfl (Nat.le_of_ble_eq_true rfl) (namesOk_pure rfl rfl rfl rfl) ?_
  intro B hN
  refine WpC.conv (cvK (b := ⟨[(0, .p .str a0)], []⟩) [0] [] (by kernel_rfl)) ?_
  unfold names_Member.f at h
  refine WpC.seq ?_
  refine rS {} [0] [] hN (by kernel_rfl) (by kernel_rfl) ?_
  refine tnU ?_
  refine WpC.seq ?_
  obtain ⟨v1, hv1, h⟩ := bind_some h
  refine rS { its := [(1, .c (strings_CutSuffix.ok O hO k a0 ([41] : List UInt8) v1 hv1))] } [0, 5, 6] [] hN (by kernel_rfl) (by kernel_rfl) ?_
  refine tnU ?_
  refine WpC.seq ?_
  obtain ⟨v2, hv2, h⟩ := bind_some h
  refine rS { its := [(1, .c (strings_Cut.ok O hO k v1.1 ([40] : List UInt8) v2 hv2))] } [0, 2, 3, 5, 6, 7] [] hN (by kernel_rfl) (by kernel_rfl) ?_
  refine tnU ?_
  refine sqJ (fun st' => names_Member.j3 k v2 = some out ∧ st' = ⟨[(2, .p .str v2.1), (3, .p .str v2.2.1)], []⟩) ?_ ?_
  · refine sqJ (fun st' => ∃ v4 : Bool, names_Member.j6 k v2 v4 = some out ∧ st' = ⟨[(2, .p .str v2.1), (3, .p .str v2.2.1), (45, .p .bool v4)], []⟩) ?_ ?_
    · obtain ⟨v7, hv7, h⟩ := bind_some h
      rcases bool_cases (!v7) with hc8 | hc8
      · replace h := ite_t hc8 h
        refine rS { its := [(1, .c (names_Right.ok O hO k a0 v7 hv7))], kn := [(22, .t hc8)] } [2, 3, 45] [] hN (by kernel_rfl) (by kernel_rfl) ?_
        refine tnU ?_
        exact ⟨true, h, by kernel_rfl⟩
      · replace h := ite_f hc8 h
        rcases bool_cases (!v1.2) with hc9 | hc9
        · replace h := ite_t hc9 h
          refine rS { its := [(1, .c (names_Right.ok O hO k a0 v7 hv7))], kn := [(22, .f hc8), (26, .t hc9)] } [2, 3, 45] [] hN (by kernel_rfl) (by kernel_rfl) ?_
          refine tnU ?_
          exact ⟨true, h, by kernel_rfl⟩
        · replace h := ite_f hc9 h
          rcases bool_cases (!v2.2.2) with hc10 | hc10
          · replace h := ite_t hc10 h
            refine rS { its := [(1, .c (names_Right.ok O hO k a0 v7 hv7))], kn := [(22, .f hc8), (26, .f hc9), (30, .t hc10)] } [2, 3, 45] [] hN (by kernel_rfl) (by kernel_rfl) ?_
            refine tnU ?_
            exact ⟨true, h, by kernel_rfl⟩
          · replace h := ite_f hc10 h
            rcases bool_cases (v2.1 == ([] : List UInt8)) with hc11 | hc11
            · replace h := ite_t hc11 h
              refine rS { its := [(1, .c (names_Right.ok O hO k a0 v7 hv7))], kn := [(22, .f hc8), (26, .f hc9), (30, .f hc10), (34, .t hc11)] } [2, 3, 45] [] hN (by kernel_rfl) (by kernel_rfl) ?_
              refine tnU ?_
              exact ⟨true, h, by kernel_rfl⟩
            · replace h := ite_f hc11 h
              rcases bool_cases (v2.2.1 == ([] : List UInt8)) with hc12 | hc12
              · replace h := ite_t hc12 h
                refine rS { its := [(1, .c (names_Right.ok O hO k a0 v7 hv7))], kn := [(22, .f hc8), (26, .f hc9), (30, .f hc10), (34, .f hc11), (38, .t hc12)] } [2, 3, 45] [] hN (by kernel_rfl) (by kernel_rfl) ?_
                refine tnU ?_
                exact ⟨true, h, by kernel_rfl⟩
              · replace h := ite_f hc12 h
                obtain ⟨v13, hv13, h⟩ := bind_some h
                rcases bool_cases v13 with hc14 | hc14
                · replace h := ite_t hc14 h
                  refine rS { its := [(1, .c (names_Right.ok O hO k a0 v7 hv7)), (21, .c (strings_Contains.ok O hO k v2.2.1 ([40] : List UInt8) v13 hv13))], kn := [(22, .f hc8), (26, .f hc9), (30, .f hc10), (34, .f hc11), (38, .f hc12), (42, .t hc14)] } [2, 3, 45] [] hN (by kernel_rfl) (by kernel_rfl) ?_
                  refine tnU ?_
                  exact ⟨true, h, by kernel_rfl⟩
                · replace h := ite_f hc14 h
                  obtain ⟨v15, hv15, h⟩ := bind_some h
                  refine rS { its := [(1, .c (names_Right.ok O hO k a0 v7 hv7)), (21, .c (strings_Contains.ok O hO k v2.2.1 ([40] : List UInt8) v13 hv13)), (25, .c (strings_Contains.ok O hO k v1.1 ([41] : List UInt8) v15 hv15))], kn := [(22, .f hc8), (26, .f hc9), (30, .f hc10), (34, .f hc11), (38, .f hc12), (42, .f hc14)] } [2, 3, 45] [] hN (by kernel_rfl) (by kernel_rfl) ?_
                  refine tnU ?_
                  exact ⟨v15, h, by kernel_rfl⟩
    · rintro _ ⟨v4, h, rfl⟩
      unfold names_Member.j6 at h
      refine tS (b := v4) (by kernel_rfl) (fun hc5 => ?_) (fun hc5 => ?_)
      · replace h := ite_t hc5 h
        refine WpC.seq ?_
        refine rS {} [2, 3, 4] [] hN (by kernel_rfl) (by kernel_rfl) ?_
        refine tnU ?_
        refine WpC.ret ?_
        refine thenQ_ret ?_
        have hq := Option.some.inj h
        subst hq
        exact eR (by kernel_rfl) (by kernel_rfl)
      · replace h := ite_f hc5 h
        refine WpC.conv (cS [.k [2, 3] []] (by kernel_rfl) (by kernel_rfl)) (WpC.skip ?_)
        refine tnU ?_
        exact ⟨h, by kernel_rfl⟩
  · rintro _ ⟨h, rfl⟩
    unfold names_Member.j3 at h
    refine WpC.seq ?_
    refine rS {} [2, 3, 4] [] hN (by kernel_rfl) (by kernel_rfl) ?_
    refine tnU ?_
    refine WpC.ret ?_
    have hq := Option.some.inj h
    subst hq
    exact eR (by kernel_rfl) (by kernel_rfl)

theorem effect_Check.ok (O : Out) (hO : GOk O) (k : Nat) (a0 : T_effect_Effect) (out : Nat) (h : effect_Check.f k a0 = some out) : COk Un O Tryz.prog 35 { ar := [.p (.named 4) a0], r := .p .err out } := by
  refine cok_of_wp Tryz.func35 rfl (k := 41) rfl (Nat.le_of_ble_eq_true rfl) (namesOk_pure rfl rfl rfl rfl) ?_
  intro B hN
  refine WpC.conv (cvK (b := ⟨[(0, .p (.named 4) a0)], []⟩) [0] [] (by kernel_rfl)) ?_
  unfold effect_Check.f at h
  refine WpC.seq ?_
  refine rS {} [1] [1] hN (by kernel_rfl) (by kernel_rfl) ?_
  refine tnU ?_
  refine WpC.seq ?_
  obtain ⟨v1, hv1, h⟩ := bind_some h
  refine rS { its := [(2, .c (names_Member.ok O hO k a0.f_Name v1 hv1))] } [1, 5] [1] hN (by kernel_rfl) (by kernel_rfl) ?_
  refine tnU ?_
  refine sqJ (fun st' => effect_Check.j2 k = some out ∧ st' = ⟨[], []⟩) ?_ ?_
  · refine WpC.block ?_
    refine sqJ (fun st' => ∃ v3 : Bool, effect_Check.j9 k a0 v3 = some out ∧ st' = ⟨[(1, .loc 1 0), (13, .p .bool v3)], [(1, .box [.p I6 a0.f_Op, .p .str a0.f_Name, .p .str a0.f_Text])]⟩) ?_ ?_
    · rcases bool_cases (decide (a0.f_Op < 1)) with hc10 | hc10
      · replace h := ite_t hc10 h
        refine rS { kn := [(17, .t hc10)] } [1, 13] [1] hN (by kernel_rfl) (by kernel_rfl) ?_
        refine tnU ?_
        exact ⟨true, h, by kernel_rfl⟩
      · replace h := ite_f hc10 h
        rcases bool_cases (decide (a0.f_Op > 3)) with hc11 | hc11
        · replace h := ite_t hc11 h
          refine rS { kn := [(17, .f hc10), (22, .t hc11)] } [1, 13] [1] hN (by kernel_rfl) (by kernel_rfl) ?_
          refine tnU ?_
          exact ⟨true, h, by kernel_rfl⟩
        · replace h := ite_f hc11 h
          rcases bool_cases v1.2.2 with hc12 | hc12
          · replace h := ite_t hc12 h
            refine rS { kn := [(17, .f hc10), (22, .f hc11), (24, .t hc12)] } [1, 13] [1] hN (by kernel_rfl) (by kernel_rfl) ?_
            refine tnU ?_
            exact ⟨(a0.f_Op != 2), h, by kernel_rfl⟩
          · replace h := ite_f hc12 h
            refine rS { kn := [(17, .f hc10), (22, .f hc11), (24, .f hc12)] } [1, 13] [1] hN (by kernel_rfl) (by kernel_rfl) ?_
            refine tnU ?_
            exact ⟨false, h, by kernel_rfl⟩
    · rintro _ ⟨v3, h, rfl⟩
      unfold effect_Check.j9 at h
      refine tS (b := v3) (by kernel_rfl) (fun hc4 => ?_) (fun hc4 => ?_)
      · replace h := ite_t hc4 h
        refine WpC.seq ?_
        refine rS { its := [(0, .e 0 (sok_loadG (U := Un) (t := .err) (rs := []) rfl rfl ty_27 rfl rfl (hO.var 16 1 rfl) (fun S w => .err 16)))] } [2] [] hN (by kernel_rfl) (by kernel_rfl) ?_
        refine tnU ?_
        refine WpC.ret ?_
        refine blockQ_ret ?_
        refine thenQ_ret ?_
        have hq := Option.some.inj h
        subst hq
        exact eR (by kernel_rfl) (by kernel_rfl)
      · replace h := ite_f hc4 h
        refine sqJ (fun st' => ∃ v5 : Bool, effect_Check.j7 k v5 = some out ∧ st' = ⟨[(31, .p .bool v5)], []⟩) ?_ ?_
        · rcases bool_cases (a0.f_Op != 1) with hc8 | hc8
          · replace h := ite_t hc8 h
            refine rS { kn := [(35, .t hc8)] } [31] [] hN (by kernel_rfl) (by kernel_rfl) ?_
            refine tnU ?_
            exact ⟨(!(a0.f_Text == ([] : List UInt8))), h, by kernel_rfl⟩
          · replace h := ite_f hc8 h
            refine rS { kn := [(35, .f hc8)] } [31] [] hN (by kernel_rfl) (by kernel_rfl) ?_
            refine tnU ?_
            exact ⟨false, h, by kernel_rfl⟩
        · rintro _ ⟨v5, h, rfl⟩
          unfold effect_Check.j7 at h
          refine tS (b := v5) (by kernel_rfl) (fun hc6 => ?_) (fun hc6 => ?_)
          · replace h := ite_t hc6 h
            refine WpC.seq ?_
            refine rS { its := [(0, .e 0 (sok_loadG (U := Un) (t := .err) (rs := []) rfl rfl ty_27 rfl rfl (hO.var 2 2 rfl) (fun S w => .err 2)))] } [2] [] hN (by kernel_rfl) (by kernel_rfl) ?_
            refine tnU ?_
            refine WpC.ret ?_
            refine blockQ_ret ?_
            refine thenQ_ret ?_
            have hq := Option.some.inj h
            subst hq
            exact eR (by kernel_rfl) (by kernel_rfl)
          · replace h := ite_f hc6 h
            refine WpC.conv (cS [.k [] []] (by kernel_rfl) (by kernel_rfl)) (WpC.skip ?_)
            refine blockQ_normal ?_
            refine tnU ?_
            exact ⟨h, by kernel_rfl⟩
  · rintro _ ⟨h, rfl⟩
    unfold effect_Check.j2 at h
    refine WpC.seq ?_
    refine rS {} [2] [] hN (by kernel_rfl) (by kernel_rfl) ?_
    refine tnU ?_
    refine WpC.conv (cS [.nE 2, .k [2] []] (by kernel_rfl) (by kernel_rfl)) (WpC.ret ?_)
    have hq := Option.some.inj h
    subst hq
    exact eR (by kernel_rfl) (by kernel_rfl)

theorem tree_Tree_may_m0.ok (O : Out) (hO : GOk O) (k : Nat) (a0 : List ((List UInt8) × T_tree_File)) (a1 : T_tree_File) (out : Nat) (h : tree_Tree_may_m0.f k a0 a1 = some out) : COk Un O Tryz.prog 62 { ar := [.loc 100000 0, .p (.named 3) a1], r := .p .err out, bs := [(100000, .box [.mp 100001]), (100001, .map (.named 3) a0)], bs' := [(100000, .box [.mp 100001]), (100001, .map (.named 3) a0)] } := by
  refine cok_of_wp Tryz.func62 rfl (k := 51) rfl (Nat.le_of_ble_eq_true rfl) (namesOk_of (by kernel_rfl)) ?_
  intro B hN
  refine WpC.conv (cvK (b := ⟨[(0, .loc 100000 0), (1, .p (.named 3) a1)], [(100000, .box [.mp 100001]), (100001, .map (.named 3) a0)]⟩) [0, 1] [100000, 100001] (by kernel_rfl)) ?_
  unfold tree_Tree_may_m0.f at h
  refine WpC.seq ?_
  refine rS {} [0, 3] [3, 100000, 100001] hN (by kernel_rfl) (by kernel_rfl) ?_
  refine tnU ?_
  refine WpC.seq ?_
  refine rA {} [0, 3, 6] [3, 100000, 100001] hN (by kernel_rfl) (by kernel_rfl) (by kernel_rfl) ?_
  refine tnU ?_
  refine sqJ (fun st' => tree_Tree_may_m0.j1 k a0 = some out ∧ st' = ⟨[], [(100000, .box [.mp 100001]), (100001, .map (.named 3) a0)]⟩) ?_ ?_
  · refine WpC.block ?_
    refine WpC.seq ?_
    obtain ⟨v2, hv2, h⟩ := bind_some h
    refine rS { its := [(2, .c (names_Right.ok O hO k a1.f_Name v2 hv2))] } [0, 3, 6, 17] [3, 100000, 100001] hN (by kernel_rfl) (by kernel_rfl) ?_
    refine tnU ?_
    refine tS (b := (!v2)) (by kernel_rfl) (fun hc3 => ?_) (fun hc3 => ?_)
    · replace h := ite_t hc3 h
      refine WpC.seq ?_
      refine rS { its := [(0, .e 0 (sok_loadG (U := Un) (t := .err) (rs := []) rfl rfl ty_27 rfl rfl (hO.var 3 5 rfl) (fun S w => .err 3)))] } [4] [100000, 100001] hN (by kernel_rfl) (by kernel_rfl) ?_
      refine tnU ?_
      refine WpC.ret ?_
      refine blockQ_ret ?_
      refine thenQ_ret ?_
      have hq := Option.some.inj h
      subst hq
      exact eR (by kernel_rfl) (by kernel_rfl)
    · replace h := ite_f hc3 h
      refine WpC.seq ?_
      refine rS {} [0, 3, 6, 23] [3, 100000, 100001] hN (by kernel_rfl) (by kernel_rfl) ?_
      refine tnU ?_
      refine tS (b := (decide ((a1.f_Content.length : Int) > 900))) (by kernel_rfl) (fun hc4 => ?_) (fun hc4 => ?_)
      · replace h := ite_t hc4 h
        refine WpC.seq ?_
        refine rS { its := [(0, .e 0 (sok_loadG (U := Un) (t := .err) (rs := []) rfl rfl ty_27 rfl rfl (hO.var 1 4 rfl) (fun S w => .err 1)))] } [4] [100000, 100001] hN (by kernel_rfl) (by kernel_rfl) ?_
        refine tnU ?_
        refine WpC.ret ?_
        refine blockQ_ret ?_
        refine thenQ_ret ?_
        have hq := Option.some.inj h
        subst hq
        exact eR (by kernel_rfl) (by kernel_rfl)
      · replace h := ite_f hc4 h
        refine sqJ (fun st' => ∃ v5 : Bool, tree_Tree_may_m0.j11 k a0 a1 v5 = some out ∧ st' = ⟨[(0, .loc 100000 0), (6, .p .bool ((mget a1.f_Name a0).isSome : Bool)), (29, .p .bool v5)], [(100000, .box [.mp 100001]), (100001, .map (.named 3) a0)]⟩) ?_ ?_
        · rcases bool_cases (decide (a1.f_Time < 1)) with hc12 | hc12
          · replace h := ite_t hc12 h
            refine rS { kn := [(33, .t hc12)] } [0, 6, 29] [100000, 100001] hN (by kernel_rfl) (by kernel_rfl) ?_
            refine tnU ?_
            exact ⟨true, h, by kernel_rfl⟩
          · replace h := ite_f hc12 h
            refine rS { kn := [(33, .f hc12)] } [0, 6, 29] [100000, 100001] hN (by kernel_rfl) (by kernel_rfl) ?_
            refine tnU ?_
            exact ⟨(decide (a1.f_Time > 549755813888)), h, by kernel_rfl⟩
        · rintro _ ⟨v5, h, rfl⟩
          unfold tree_Tree_may_m0.j11 at h
          refine tS (b := v5) (by kernel_rfl) (fun hc6 => ?_) (fun hc6 => ?_)
          · replace h := ite_t hc6 h
            refine WpC.seq ?_
            refine rS { its := [(0, .e 0 (sok_loadG (U := Un) (t := .err) (rs := []) rfl rfl ty_27 rfl rfl (hO.var 0 3 rfl) (fun S w => .err 0)))] } [4] [100000, 100001] hN (by kernel_rfl) (by kernel_rfl) ?_
            refine tnU ?_
            refine WpC.ret ?_
            refine blockQ_ret ?_
            refine thenQ_ret ?_
            have hq := Option.some.inj h
            subst hq
            exact eR (by kernel_rfl) (by kernel_rfl)
          · replace h := ite_f hc6 h
            refine sqJ (fun st' => ∃ v7 : Bool, tree_Tree_may_m0.j9 k a0 v7 = some out ∧ st' = ⟨[(39, .p .bool v7)], [(100000, .box [.mp 100001]), (100001, .map (.named 3) a0)]⟩) ?_ ?_
            · rcases bool_cases (!((mget a1.f_Name a0).isSome)) with hc10 | hc10
              · replace h := ite_t hc10 h
                refine rS { kn := [(42, .t hc10)] } [39] [100000, 100001] hN (by kernel_rfl) (by kernel_rfl) ?_
                refine tnU ?_
                exact ⟨(decide ((a0.length : Int) ≥ 40)), h, by kernel_rfl⟩
              · replace h := ite_f hc10 h
                refine rS { kn := [(42, .f hc10)] } [39] [100000, 100001] hN (by kernel_rfl) (by kernel_rfl) ?_
                refine tnU ?_
                exact ⟨false, h, by kernel_rfl⟩
            · rintro _ ⟨v7, h, rfl⟩
              unfold tree_Tree_may_m0.j9 at h
              refine tS (b := v7) (by kernel_rfl) (fun hc8 => ?_) (fun hc8 => ?_)
              · replace h := ite_t hc8 h
                refine WpC.seq ?_
                refine rS { its := [(0, .e 0 (sok_loadG (U := Un) (t := .err) (rs := []) rfl rfl ty_27 rfl rfl (hO.var 9 10 rfl) (fun S w => .err 9)))] } [4] [100000, 100001] hN (by kernel_rfl) (by kernel_rfl) ?_
                refine tnU ?_
                refine WpC.ret ?_
                refine blockQ_ret ?_
                refine thenQ_ret ?_
                have hq := Option.some.inj h
                subst hq
                exact eR (by kernel_rfl) (by kernel_rfl)
              · replace h := ite_f hc8 h
                refine WpC.conv (cS [.k [] [100000, 100001]] (by kernel_rfl) (by kernel_rfl)) (WpC.skip ?_)
                refine blockQ_normal ?_
                refine tnU ?_
                exact ⟨h, by kernel_rfl⟩
  · rintro _ ⟨h, rfl⟩
    unfold tree_Tree_may_m0.j1 at h
    refine WpC.seq ?_
    refine rS {} [4] [100000, 100001] hN (by kernel_rfl) (by kernel_rfl) ?_
    refine tnU ?_
    refine WpC.conv (cS [.nE 4, .k [4] [100000, 100001]] (by kernel_rfl) (by kernel_rfl)) (WpC.ret ?_)
    have hq := Option.some.inj h
    subst hq
    exact eR (by kernel_rfl) (by kernel_rfl)

theorem tree_Tree_Put_m0.ok (O : Out) (hO : GOk O) (k : Nat) (a0 : List ((List UInt8) × T_tree_File)) (a1 : List UInt8) (a2 : List UInt8) (a3 : Int) (out : Nat × (List ((List UInt8) × T_tree_File))) (h : tree_Tree_Put_m0.f k a0 a1 a2 a3 = some out) : COk Un O Tryz.prog 37 { ar := [.loc 100000 0, .p .str a1, .p .str a2, .p I6 a3], r := .p .err out.1, bs := [(100000, .box [.mp 100001]), (100001, .map (.named 3) a0)], bs' := [(100000, .box [.mp 100001]), (100001, .map (.named 3) out.2)] } := by
  refine cok_of_wp Tryz.func37 rfl (k := 27) rfl (Nat.le_of_ble_eq_true rfl) (namesOk_of (by kernel_rfl)) ?_
  intro B hN
  refine WpC.conv (cvK (b := ⟨[(0, .loc 100000 0), (1, .p .str a1), (2, .p .str a2), (3, .p I6 a3)], [(100000, .box [.mp 100001]), (100001, .map (.named 3) a0)]⟩) [0, 1, 2, 3] [100000, 100001] (by kernel_rfl)) ?_
  unfold tree_Tree_Put_m0.f at h
  refine WpC.seq ?_
  refine rS {} [0, 1, 2, 3] [100000, 100001] hN (by kernel_rfl) (by kernel_rfl) ?_
  refine tnU ?_
  refine WpC.seq ?_
  refine rS {} [0, 1, 9] [9, 100000, 100001] hN (by kernel_rfl) (by kernel_rfl) ?_
  refine tnU ?_
  refine WpC.seq ?_
  refine WpC.seq ?_
  obtain ⟨v1, hv1, h⟩ := bind_some h
  refine rS { its := [(2, .c (COk.ren (tree_Tree_may_m0.ok O hO k a0 (T_tree_File.mk a1 a2 a3) v1 hv1) (fun n => if n = 100000 then 100000 else if n = 100001 then 100001 else n) (injOn_of (by kernel_rfl))))] } [0, 1, 9, 10] [9, 100000, 100001] hN (by kernel_rfl) (by kernel_rfl) ?_
  refine tnU ?_
  refine WpC.seq ?_
  refine rS {} [0, 1, 9, 10, 19] [9, 100000, 100001] hN (by kernel_rfl) (by kernel_rfl) ?_
  refine tnU ?_
  refine tS (b := (!(v1 == 0))) (by kernel_rfl) (fun hc2 => ?_) (fun hc2 => ?_)
  · replace h := ite_t hc2 h
    refine WpC.seq ?_
    refine rS {} [8] [100000, 100001] hN (by kernel_rfl) (by kernel_rfl) ?_
    refine tnU ?_
    refine WpC.ret ?_
    refine thenQ_ret ?_
    have hq := Option.some.inj h
    subst hq
    exact eR (by kernel_rfl) (by kernel_rfl)
  · replace h := ite_f hc2 h
    refine WpC.conv (cS [.k [0, 1, 9] [9, 100000, 100001]] (by kernel_rfl) (by kernel_rfl)) (WpC.skip ?_)
    refine tnU ?_
    refine WpC.seq ?_
    refine rA {} [] [100000, 100001] hN (by kernel_rfl) (by kernel_rfl) (by kernel_rfl) ?_
    refine tnU ?_
    refine WpC.seq ?_
    refine rS {} [8] [100000, 100001] hN (by kernel_rfl) (by kernel_rfl) ?_
    refine tnU ?_
    refine WpC.conv (cS [.nE 8, .k [8] [100000, 100001]] (by kernel_rfl) (by kernel_rfl)) (WpC.ret ?_)
    have hq := Option.some.inj h
    subst hq
    exact eR (by kernel_rfl) (by kernel_rfl)

theorem tree_Tree_Touch_m0.ok (O : Out) (hO : GOk O) (k : Nat) (a0 : List ((List UInt8) × T_tree_File)) (a1 : List UInt8) (a2 : Int) (out : Nat × (List ((List UInt8) × T_tree_File))) (h : tree_Tree_Touch_m0.f k a0 a1 a2 = some out) : COk Un O Tryz.prog 40 { ar := [.loc 100000 0, .p .str a1, .p I6 a2], r := .p .err out.1, bs := [(100000, .box [.mp 100001]), (100001, .map (.named 3) a0)], bs' := [(100000, .box [.mp 100001]), (100001, .map (.named 3) out.2)] } := by
  refine cok_of_wp Tryz.func40 rfl (k := 18) rfl (Nat.le_of_ble_eq_true rfl) (namesOk_of (by kernel_rfl)) ?_
  intro B hN
  refine WpC.conv (cvK (b := ⟨[(0, .loc 100000 0), (1, .p .str a1), (2, .p I6 a2)], [(100000, .box [.mp 100001]), (100001, .map (.named 3) a0)]⟩) [0, 1, 2] [100000, 100001] (by kernel_rfl)) ?_
  unfold tree_Tree_Touch_m0.f at h
  refine WpC.seq ?_
  refine rS {} [0, 1, 2] [100000, 100001] hN (by kernel_rfl) (by kernel_rfl) ?_
  refine tnU ?_
  refine WpC.seq ?_
  obtain ⟨v1, hv1, h⟩ := bind_some h
  refine rS { its := [(10, .c (COk.ren (tree_Tree_Put_m0.ok O hO k a0 a1 (((mget a1 a0).getD (T_tree_File.mk [] [] 0)).f_Content) a2 v1 hv1) (fun n => if n = 100000 then 100000 else if n = 100001 then 100001 else n) (injOn_of (by kernel_rfl))))] } [6] [100000, 100001] hN (by kernel_rfl) (by kernel_rfl) ?_
  refine tnU ?_
  refine WpC.ret ?_
  have hq := Option.some.inj h
  subst hq
  exact eR (by kernel_rfl) (by kernel_rfl)

theorem tree_Tree_Get_m0.ok (O : Out) (hO : GOk O) (k : Nat) (a0 : List ((List UInt8) × T_tree_File)) (a1 : List UInt8) (out : T_tree_File × Bool) (h : tree_Tree_Get_m0.f k a0 a1 = some out) : COk Un O Tryz.prog 27 { ar := [.loc 100000 0, .p .str a1], r := .tup [.p (.named 3) out.1, .p .bool out.2], bs := [(100000, .box [.mp 100001]), (100001, .map (.named 3) a0)], bs' := [(100000, .box [.mp 100001]), (100001, .map (.named 3) a0)] } := by
  refine cok_of_wp Tryz.func27 rfl (k := 19) rfl (Nat.le_of_ble_eq_true rfl) (namesOk_of (by kernel_rfl)) ?_
  intro B hN
  refine WpC.conv (cvK (b := ⟨[(0, .loc 100000 0), (1, .p .str a1)], [(100000, .box [.mp 100001]), (100001, .map (.named 3) a0)]⟩) [0, 1] [100000, 100001] (by kernel_rfl)) ?_
  unfold tree_Tree_Get_m0.f at h
  refine WpC.seq ?_
  refine rS {} [0, 1, 4] [4, 100000, 100001] hN (by kernel_rfl) (by kernel_rfl) ?_
  refine tnU ?_
  refine WpC.seq ?_
  refine rS {} [4, 6, 7] [4, 6, 100000, 100001] hN (by kernel_rfl) (by kernel_rfl) ?_
  refine tnU ?_
  refine WpC.seq ?_
  refine rS {} [4, 5] [4, 100000, 100001] hN (by kernel_rfl) (by kernel_rfl) ?_
  refine tnU ?_
  refine WpC.ret ?_
  have hq := Option.some.inj h
  subst hq
  exact eR (by kernel_rfl) (by kernel_rfl)

theorem stringslite_HasPrefix.ok (O : Out) (hO : GOk O) (k : Nat) (a0 : List UInt8) (a1 : List UInt8) (out : Bool) (h : stringslite_HasPrefix.f k a0 a1 = some out) : COk Un O Tryz.prog 128 { ar := [.p .str a0, .p .str a1], r := .p .bool out } := by
  refine cok_of_wp Tryz.func128 rfl (k := 18) rfl (Nat.le_of_ble_eq_true rfl) (namesOk_pure rfl rfl rfl rfl) ?_
  intro B hN
  refine WpC.conv (cvK (b := ⟨[(0, .p .str a0), (1, .p .str a1)], []⟩) [0, 1] [] (by kernel_rfl)) ?_
  unfold stringslite_HasPrefix.f at h
  refine WpC.seq ?_
  refine rS {} [0, 1] [] hN (by kernel_rfl) (by kernel_rfl) ?_
  refine tnU ?_
  refine WpC.seq ?_
  rcases bool_cases (decide ((a0.length : Int) ≥ (a1.length : Int))) with hc1 | hc1
  · replace h := ite_t hc1 h
    obtain ⟨v2, hv2, h⟩ := bind_some h
    refine rS { its := [(9, .v .str hv2)], kn := [(10, .t hc1)] } [4] [] hN (by kernel_rfl) (by kernel_rfl) ?_
    refine tnU ?_
    refine WpC.ret ?_
    have hq := Option.some.inj h
    subst hq
    exact eR (by kernel_rfl) (by kernel_rfl)
  · replace h := ite_f hc1 h
    refine rS { kn := [(10, .f hc1)] } [4] [] hN (by kernel_rfl) (by kernel_rfl) ?_
    refine tnU ?_
    refine WpC.ret ?_
    have hq := Option.some.inj h
    subst hq
    exact eR (by kernel_rfl) (by kernel_rfl)

theorem stringslite_CutPrefix.ok (O : Out) (hO : GOk O) (k : Nat) (a0 : List UInt8) (a1 : List UInt8) (out : (List UInt8) × Bool) (h : stringslite_CutPrefix.f k a0 a1 = some out) : COk Un O Tryz.prog 101 { ar := [.p .str a0, .p .str a1], r := .tup [.p .str out.1, .p .bool out.2] } := by
  refine cok_of_wp Tryz.func101 rfl (k := 15) rfl (Nat.le_of_ble_eq_true rfl) (namesOk_pure rfl rfl rfl rfl) ?_
  intro B hN
  refine WpC.conv (cvK (b := ⟨[(0, .p .str a0), (1, .p .str a1)], []⟩) [0, 1] [] (by kernel_rfl)) ?_
  unfold stringslite_CutPrefix.f at h
  refine WpC.seq ?_
  refine rS {} [0, 1] [] hN (by kernel_rfl) (by kernel_rfl) ?_
  refine tnU ?_
  refine WpC.seq ?_
  refine WpC.seq ?_
  obtain ⟨v1, hv1, h⟩ := bind_some h
  refine rS { its := [(2, .c (stringslite_HasPrefix.ok O hO k a0 a1 v1 hv1))] } [0, 1, 9] [] hN (by kernel_rfl) (by kernel_rfl) ?_
  refine tnU ?_
  refine tS (b := (!v1)) (by kernel_rfl) (fun hc2 => ?_) (fun hc2 => ?_)
  · replace h := ite_t hc2 h
    refine WpC.seq ?_
    refine rS {} [4, 5] [] hN (by kernel_rfl) (by kernel_rfl) ?_
    refine tnU ?_
    refine WpC.ret ?_
    refine thenQ_ret ?_
    have hq := Option.some.inj h
    subst hq
    exact eR (by kernel_rfl) (by kernel_rfl)
  · replace h := ite_f hc2 h
    refine WpC.conv (cS [.k [0, 1] []] (by kernel_rfl) (by kernel_rfl)) (WpC.skip ?_)
    refine tnU ?_
    refine WpC.seq ?_
    obtain ⟨v3, hv3, h⟩ := bind_some h
    refine rS { its := [(3, .v .str hv3)] } [4, 5] [] hN (by kernel_rfl) (by kernel_rfl) ?_
    refine tnU ?_
    refine WpC.ret ?_
    have hq := Option.some.inj h
    subst hq
    exact eR (by kernel_rfl) (by kernel_rfl)

theorem strings_CutPrefix.ok (O : Out) (hO : GOk O) (k : Nat) (a0 : List UInt8) (a1 : List UInt8) (out : (List UInt8) × Bool) (h : strings_CutPrefix.f k a0 a1 = some out) : COk Un O Tryz.prog 87 { ar := [.p .str a0, .p .str a1], r := .tup [.p .str out.1, .p .bool out.2] } := by
  refine cok_of_wp Tryz.func87 rfl (k := 11) rfl (Nat.le_of_ble_eq_true rfl) (namesOk_pure rfl rfl rfl rfl) ?_
  intro B hN
  refine WpC.conv (cvK (b := ⟨[(0, .p .str a0), (1, .p .str a1)], []⟩) [0, 1] [] (by kernel_rfl)) ?_
  unfold strings_CutPrefix.f at h
  refine WpC.seq ?_
  refine rS {} [0, 1] [] hN (by kernel_rfl) (by kernel_rfl) ?_
  refine tnU ?_
  refine WpC.seq ?_
  obtain ⟨v1, hv1, h⟩ := bind_some h
  refine rS { its := [(2, .c (stringslite_CutPrefix.ok O hO k a0 a1 v1 hv1))] } [4, 5] [] hN (by kernel_rfl) (by kernel_rfl) ?_
  refine tnU ?_
  refine WpC.ret ?_
  have hq := Option.some.inj h
  subst hq
  exact eR (by kernel_rfl) (by kernel_rfl)

theorem ar_number.ok (O : Out) (hO : GOk O) (k : Nat) (a0 : List UInt8) (out : Int) (h : ar_number.f k a0 = some out) : COk Un O Tryz.prog 103 { ar := [.p .str a0], r := .p I6 out } := by
  refine cok_of_wp Tryz.func103 rfl (k := 14) rfl (Nat.le_of_ble_eq_true rfl) (namesOk_pure rfl rfl rfl rfl) ?_
  intro B hN
  refine WpC.conv (cvK (b := ⟨[(0, .p .str a0)], []⟩) [0] [] (by kernel_rfl)) ?_
  unfold ar_number.f at h
  refine WpC.seq ?_
  refine rS {} [0] [] hN (by kernel_rfl) (by kernel_rfl) ?_
  refine tnU ?_
  refine WpC.seq ?_
  obtain ⟨v1, hv1, h⟩ := bind_some h
  obtain ⟨v2, hv2, h⟩ := bind_some h
  refine rS { its := [(1, .c (pTrimRight.ok O hO k a0 ([32] : List UInt8) v1 hv1)), (2, .c (pAtoi.ok O hO k v1 v2 hv2))] } [3, 4] [] hN (by kernel_rfl) (by kernel_rfl) ?_
  refine tnU ?_
  refine WpC.seq ?_
  refine WpC.seq ?_
  refine rS {} [3, 12] [] hN (by kernel_rfl) (by kernel_rfl) ?_
  refine tnU ?_
  refine tS (b := (!(v2.2 == 0))) (by kernel_rfl) (fun hc3 => ?_) (fun hc3 => ?_)
  · replace h := ite_t hc3 h
    refine WpC.seq ?_
    refine rS {} [2] [] hN (by kernel_rfl) (by kernel_rfl) ?_
    refine tnU ?_
    refine WpC.ret ?_
    refine thenQ_ret ?_
    have hq := Option.some.inj h
    subst hq
    exact eR (by kernel_rfl) (by kernel_rfl)
  · replace h := ite_f hc3 h
    refine WpC.conv (cS [.k [3] []] (by kernel_rfl) (by kernel_rfl)) (WpC.skip ?_)
    refine tnU ?_
    refine WpC.seq ?_
    refine rS {} [2] [] hN (by kernel_rfl) (by kernel_rfl) ?_
    refine tnU ?_
    refine WpC.ret ?_
    have hq := Option.some.inj h
    subst hq
    exact eR (by kernel_rfl) (by kernel_rfl)

theorem ar_field.ok (O : Out) (hO : GOk O) (k : Nat) (a0 : List UInt8) (a1 : Int) (out : List UInt8) (h : ar_field.f k a0 a1 = some out) : COk Un O Tryz.prog 134 { ar := [.p .str a0, .p I6 a1], r := .p .str out } := by
  refine cok_of_wp Tryz.func134 rfl (k := 13) rfl (Nat.le_of_ble_eq_true rfl) (namesOk_pure rfl rfl rfl rfl) ?_
  intro B hN
  refine WpC.conv (cvK (b := ⟨[(0, .p .str a0), (1, .p I6 a1)], []⟩) [0, 1] [] (by kernel_rfl)) ?_
  unfold ar_field.f at h
  refine WpC.seq ?_
  refine rS {} [0, 1] [] hN (by kernel_rfl) (by kernel_rfl) ?_
  refine tnU ?_
  refine WpC.seq ?_
  obtain ⟨v1, hv1, h⟩ := bind_some h
  obtain ⟨g2, h⟩ := if_some h
  refine rS { its := [(5, .e 5 (sok_max (U := Un) (rs := [(9, .p I6 ((IntKind.i64.wrap (a1 - (a0.length : Int))) : Int))]) rfl rfl o0 (.int _ _ _))), (6, .c (pRepeat.ok O hO k ([32] : List UInt8) (if (0 : Int) > (IntKind.i64.wrap (a1 - (a0.length : Int))) then (0 : Int) else (IntKind.i64.wrap (a1 - (a0.length : Int)))) v1 hv1)), (7, .g g2)] } [4] [] hN (by kernel_rfl) (by kernel_rfl) ?_
  refine tnU ?_
  refine WpC.ret ?_
  have hq := Option.some.inj h
  subst hq
  exact eR (by kernel_rfl) (by kernel_rfl)

theorem ar_Member_bytes.ok (O : Out) (hO : GOk O) (k : Nat) (a0 : T_ar_Member) (out : List UInt8) (h : ar_Member_bytes.f k a0 = some out) : COk Un O Tryz.prog 104 { ar := [.p (.named 5) a0], r := .p .str out } := by
  refine cok_of_wp Tryz.func104 rfl (k := 30) rfl (Nat.le_of_ble_eq_true rfl) (namesOk_pure rfl rfl rfl rfl) ?_
  intro B hN
  refine WpC.conv (cvK (b := ⟨[(0, .p (.named 5) a0)], []⟩) [0] [] (by kernel_rfl)) ?_
  unfold ar_Member_bytes.f at h
  refine WpC.seq ?_
  refine rS {} [1] [1] hN (by kernel_rfl) (by kernel_rfl) ?_
  refine tnU ?_
  refine WpC.seq ?_
  obtain ⟨v1, hv1, h⟩ := bind_some h
  obtain ⟨v2, hv2, h⟩ := bind_some h
  obtain ⟨v3, hv3, h⟩ := bind_some h
  obtain ⟨g4, h⟩ := if_some h
  obtain ⟨g5, h⟩ := if_some h
  obtain ⟨v6, hv6, h⟩ := bind_some h
  obtain ⟨v7, hv7, h⟩ := bind_some h
  obtain ⟨g8, h⟩ := if_some h
  obtain ⟨g9, h⟩ := if_some h
  refine rA { its := [(2, .c (ar_field.ok O hO k a0.f_Name 16 v1 hv1)), (5, .c (pItoa.ok O hO k a0.f_Time v2 hv2)), (6, .c (ar_field.ok O hO k v2 12 v3 hv3)), (7, .g g4), (8, .g g5), (12, .c (pItoa.ok O hO k (a0.f_Content.length : Int) v6 hv6)), (13, .c (ar_field.ok O hO k v6 10 v7 hv7)), (14, .g g8), (15, .g g9)] } [1, 3] [1] hN (by kernel_rfl) (by kernel_rfl) (by kernel_rfl) ?_
  refine tnU ?_
  refine WpC.seq ?_
  obtain ⟨g10, h⟩ := if_some h
  obtain ⟨g11, h⟩ := if_some h
  obtain ⟨v12, hv12, h⟩ := bind_some h
  obtain ⟨g13, h⟩ := if_some h
  refine rA { its := [(3, .g g10), (7, .g g11), (8, .v .str hv12), (9, .g g13)] } [2] [] hN (by kernel_rfl) (by kernel_rfl) (by kernel_rfl) ?_
  refine tnU ?_
  refine WpC.ret ?_
  have hq := Option.some.inj h
  subst hq
  exact eR (by kernel_rfl) (by kernel_rfl)

theorem ar_first.ok (O : Out) (hO : GOk O) (k : Nat) (a0 : List UInt8) (out : T_ar_Member × (List UInt8) × Bool) (h : ar_first.f k a0 = some out) : COk Un O Tryz.prog 88 { ar := [.p .str a0], r := .tup [.p (.named 5) out.1, .p .str out.2.1, .p .bool out.2.2] } := by
  refine cok_of_wp Tryz.func88 rfl (k := 48) rfl (Nat.le_of_ble_eq_true rfl) (namesOk_pure rfl rfl rfl rfl) ?_
  intro B hN
  refine WpC.conv (cvK (b := ⟨[(0, .p .str a0)], []⟩) [0] [] (by kernel_rfl)) ?_
  unfold ar_first.f at h
  refine WpC.seq ?_
  refine rS {} [0, 2] [2] hN (by kernel_rfl) (by kernel_rfl) ?_
  refine tnU ?_
  refine WpC.seq ?_
  refine WpC.seq ?_
  refine rS {} [0, 2, 11] [2] hN (by kernel_rfl) (by kernel_rfl) ?_
  refine tnU ?_
  refine tS (b := (decide ((a0.length : Int) < 60))) (by kernel_rfl) (fun hc1 => ?_) (fun hc1 => ?_)
  · replace h := ite_t hc1 h
    refine WpC.seq ?_
    refine rS {} [2, 3, 4] [2] hN (by kernel_rfl) (by kernel_rfl) ?_
    refine tnU ?_
    refine WpC.ret ?_
    refine thenQ_ret ?_
    have hq := Option.some.inj h
    subst hq
    exact eR (by kernel_rfl) (by kernel_rfl)
  · replace h := ite_f hc1 h
    refine WpC.conv (cS [.k [0, 2] [2]] (by kernel_rfl) (by kernel_rfl)) (WpC.skip ?_)
    refine tnU ?_
    refine WpC.seq ?_
    obtain ⟨v2, hv2, h⟩ := bind_some h
    obtain ⟨v3, hv3, h⟩ := bind_some h
    obtain ⟨v4, hv4, h⟩ := bind_some h
    obtain ⟨v5, hv5, h⟩ := bind_some h
    refine rA { its := [(1, .v .str hv2), (2, .c (pTrimRight.ok O hO k v2 ([32] : List UInt8) v3 hv3)), (4, .v .str hv4), (5, .c (ar_number.ok O hO k v4 v5 hv5))] } [0, 2, 5] [2, 5] hN (by kernel_rfl) (by kernel_rfl) (by kernel_rfl) ?_
    refine tnU ?_
    refine WpC.seq ?_
    obtain ⟨v6, hv6, h⟩ := bind_some h
    obtain ⟨v7, hv7, h⟩ := bind_some h
    refine rS { its := [(1, .v .str hv6), (2, .c (ar_number.ok O hO k v6 v7 hv7))] } [0, 2, 5, 6] [2, 5] hN (by kernel_rfl) (by kernel_rfl) ?_
    refine tnU ?_
    refine sqJ (fun st' => ar_first.j11 k a0 v3 v5 v7 = some out ∧ st' = ⟨[(0, .p .str a0), (2, .loc 2 0), (5, .loc 5 0), (6, .p I6 v7)], [(2, .box [.p .str ([] : List UInt8), .p I6 (0 : Int), .p .str ([] : List UInt8)]), (5, .box [.p .str v3, .p I6 v5, .p .str ([] : List UInt8)])]⟩) ?_ ?_
    · refine sqJ (fun st' => ∃ v12 : Bool, ar_first.j14 k a0 v3 v5 v7 v12 = some out ∧ st' = ⟨[(0, .p .str a0), (2, .loc 2 0), (5, .loc 5 0), (6, .p I6 v7), (31, .p .bool v12)], [(2, .box [.p .str ([] : List UInt8), .p I6 (0 : Int), .p .str ([] : List UInt8)]), (5, .box [.p .str v3, .p I6 v5, .p .str ([] : List UInt8)])]⟩) ?_ ?_
      · rcases bool_cases (decide (v7 < 0)) with hc15 | hc15
        · replace h := ite_t hc15 h
          refine rS { kn := [(25, .t hc15)] } [0, 2, 5, 6, 31] [2, 5] hN (by kernel_rfl) (by kernel_rfl) ?_
          refine tnU ?_
          exact ⟨true, h, by kernel_rfl⟩
        · replace h := ite_f hc15 h
          refine rS { kn := [(25, .f hc15)] } [0, 2, 5, 6, 31] [2, 5] hN (by kernel_rfl) (by kernel_rfl) ?_
          refine tnU ?_
          exact ⟨(decide (v7 > (IntKind.i64.wrap ((a0.length : Int) - 60)))), h, by kernel_rfl⟩
      · rintro _ ⟨v12, h, rfl⟩
        unfold ar_first.j14 at h
        refine tS (b := v12) (by kernel_rfl) (fun hc13 => ?_) (fun hc13 => ?_)
        · replace h := ite_t hc13 h
          refine WpC.seq ?_
          refine rS {} [2, 3, 4] [2] hN (by kernel_rfl) (by kernel_rfl) ?_
          refine tnU ?_
          refine WpC.ret ?_
          refine thenQ_ret ?_
          have hq := Option.some.inj h
          subst hq
          exact eR (by kernel_rfl) (by kernel_rfl)
        · replace h := ite_f hc13 h
          refine WpC.conv (cS [.k [0, 2, 5, 6] [2, 5]] (by kernel_rfl) (by kernel_rfl)) (WpC.skip ?_)
          refine tnU ?_
          exact ⟨h, by kernel_rfl⟩
    · rintro _ ⟨h, rfl⟩
      unfold ar_first.j11 at h
      refine WpC.seq ?_
      obtain ⟨v8, hv8, h⟩ := bind_some h
      refine rS { its := [(3, .v .str hv8)] } [0, 2, 5] [2, 5] hN (by kernel_rfl) (by kernel_rfl) ?_
      refine tnU ?_
      refine WpC.seq ?_
      obtain ⟨v9, hv9, h⟩ := bind_some h
      obtain ⟨v10, hv10, h⟩ := bind_some h
      refine rS { its := [(2, .c (ar_Member_bytes.ok O hO k (T_ar_Member.mk v3 v5 v8) v9 hv9)), (3, .c (strings_CutPrefix.ok O hO k a0 v9 v10 hv10))] } [2, 5, 7, 8] [2, 5] hN (by kernel_rfl) (by kernel_rfl) ?_
      refine tnU ?_
      refine WpC.seq ?_
      refine rS {} [2, 3, 4] [2] hN (by kernel_rfl) (by kernel_rfl) ?_
      refine tnU ?_
      refine WpC.ret ?_
      have hq := Option.some.inj h
      subst hq
      exact eR (by kernel_rfl) (by kernel_rfl)

theorem ar_Member_named.ok (O : Out) (hO : GOk O) (k : Nat) (a0 : T_ar_Member) (out : Bool) (h : ar_Member_named.f k a0 = some out) : COk Un O Tryz.prog 107 { ar := [.p (.named 5) a0], r := .p .bool out } := by
  refine cok_of_wp Tryz.func107 rfl (k := 18) rfl (Nat.le_of_ble_eq_true rfl) (namesOk_pure rfl rfl rfl rfl) ?_
  intro B hN
  refine WpC.conv (cvK (b := ⟨[(0, .p (.named 5) a0)], []⟩) [0] [] (by kernel_rfl)) ?_
  unfold ar_Member_named.f at h
  refine WpC.seq ?_
  refine rS {} [1] [1] hN (by kernel_rfl) (by kernel_rfl) ?_
  refine tnU ?_
  refine WpC.seq ?_
  obtain ⟨v1, hv1, h⟩ := bind_some h
  rcases bool_cases v1 with hc2 | hc2
  · replace h := ite_t hc2 h
    rcases bool_cases (decide ((a0.f_Name.length : Int) < 16)) with hc3 | hc3
    · replace h := ite_t hc3 h
      obtain ⟨v4, hv4, h⟩ := bind_some h
      refine rS { its := [(2, .c (names_Right.ok O hO k a0.f_Name v1 hv1)), (12, .c (pContainsAny.ok O hO k a0.f_Name ([47, 40, 41] : List UInt8) v4 hv4))], kn := [(6, .t hc2), (12, .t hc3)] } [2] [] hN (by kernel_rfl) (by kernel_rfl) ?_
      refine tnU ?_
      refine WpC.ret ?_
      have hq := Option.some.inj h
      subst hq
      exact eR (by kernel_rfl) (by kernel_rfl)
    · replace h := ite_f hc3 h
      refine rS { its := [(2, .c (names_Right.ok O hO k a0.f_Name v1 hv1))], kn := [(6, .t hc2), (12, .f hc3)] } [2] [] hN (by kernel_rfl) (by kernel_rfl) ?_
      refine tnU ?_
      refine WpC.ret ?_
      have hq := Option.some.inj h
      subst hq
      exact eR (by kernel_rfl) (by kernel_rfl)
  · replace h := ite_f hc2 h
    refine rS { its := [(2, .c (names_Right.ok O hO k a0.f_Name v1 hv1))], kn := [(6, .f hc2)] } [2] [] hN (by kernel_rfl) (by kernel_rfl) ?_
    refine tnU ?_
    refine WpC.ret ?_
    have hq := Option.some.inj h
    subst hq
    exact eR (by kernel_rfl) (by kernel_rfl)

theorem ar_Make_1.ok (O : Out) (hO : GOk O) (k : Nat) (a0 : T_ar_Member) (out : Bool) (h : ar_Make_1.f k a0 = some out) : COk Un O Tryz.prog 106 { ar := [.p (.named 5) a0], r := .p .bool out } := by
  refine cok_of_wp Tryz.func106 rfl (k := 6) rfl (Nat.le_of_ble_eq_true rfl) (namesOk_pure rfl rfl rfl rfl) ?_
  intro B hN
  refine WpC.conv (cvK (b := ⟨[(0, .p (.named 5) a0)], []⟩) [0] [] (by kernel_rfl)) ?_
  unfold ar_Make_1.f at h
  refine WpC.seq ?_
  refine rS {} [1] [1] hN (by kernel_rfl) (by kernel_rfl) ?_
  refine tnU ?_
  refine WpC.seq ?_
  obtain ⟨v1, hv1, h⟩ := bind_some h
  refine rS { its := [(1, .c (ar_Member_named.ok O hO k (T_ar_Member.mk a0.f_Name a0.f_Time a0.f_Content) v1 hv1))] } [2] [] hN (by kernel_rfl) (by kernel_rfl) ?_
  refine tnU ?_
  refine WpC.ret ?_
  have hq := Option.some.inj h
  subst hq
  exact eR (by kernel_rfl) (by kernel_rfl)

theorem ar_Member_90_m0.ok (O : Out) (hO : GOk O) (k : Nat) (a0 : List T_ar_Member) (out : Int) (h : ar_Member_90_m0.f k a0 = some out) : COk Un O Tryz.prog 90 { ar := [.p (.list (.named 5)) a0, .clo 106 []], r := .p I6 out } := by
  refine cok_of_wp Tryz.func90 rfl (k := 19) rfl (Nat.le_of_ble_eq_true rfl) (namesOk_pure rfl rfl rfl rfl) ?_
  intro B hN
  refine WpC.conv (cvK (b := ⟨[(0, .p (.list (.named 5)) a0), (1, .clo 106 [])], []⟩) [0, 1] [] (by kernel_rfl)) ?_
  unfold ar_Member_90_m0.f at h
  refine WpC.seq ?_
  refine rS {} [0, 1] [] hN (by kernel_rfl) (by kernel_rfl) ?_
  refine tnU ?_
  refine sqJ (fun st' => ar_Member_90_m0.j1 k = some out ∧ st' = ⟨[], []⟩) ?_ ?_
  · refine WpC.seq ?_
    refine rS {} [0, 1, 7, 8] [] hN (by kernel_rfl) (by kernel_rfl) ?_
    refine tnU ?_
    refine WpC.block ?_
    obtain ⟨o4, hlo4, h⟩ := bind_some h
    have hout5 := h
    clear h
    refine WpC.loop (U := Un) (fun n st' => ∃ v2 : Int, ar_Member_90_m0.l3 k a0 n v2 = some o4 ∧ st' = ⟨[(0, .p (.list (.named 5)) a0), (1, .clo 106 []), (7, .p I6 ((a0.length : Int) : Int)), (8, .p I6 v2)], []⟩) k ⟨0, hlo4, by kernel_rfl⟩ ?_
    clear hlo4
    rintro (_ | n) _ ⟨v2, h, rfl⟩
    · cases h
    · rw [ar_Member_90_m0.l3] at h
      refine WpC.seq ?_
      refine rS {} [0, 1, 7, 8, 9] [] hN (by kernel_rfl) (by kernel_rfl) ?_
      refine tnU ?_
      refine WpC.seq ?_
      refine tS (b := (decide (v2 < (a0.length : Int)))) (by kernel_rfl) (fun hc6 => ?_) (fun hc6 => ?_)
      · replace h := ite_t hc6 h
        refine WpC.conv (cS [.k [0, 1, 7, 8] []] (by kernel_rfl) (by kernel_rfl)) (WpC.skip ?_)
        refine tnU ?_
        refine WpC.seq ?_
        refine WpC.block ?_
        refine WpC.seq ?_
        refine rS {} [0, 1, 5, 7, 8] [] hN (by kernel_rfl) (by kernel_rfl) ?_
        refine tnU ?_
        refine WpC.seq ?_
        obtain ⟨v7, hv7, h⟩ := bind_some h
        obtain ⟨v8, hv8, h⟩ := bind_some h
        refine rS { its := [(3, .v (.named 5) hv7), (5, .c (ar_Make_1.ok O hO k v7 v8 hv8))] } [0, 1, 5, 7, 8, 16] [] hN (by kernel_rfl) (by kernel_rfl) ?_
        refine tnU ?_
        refine tS (b := v8) (by kernel_rfl) (fun hc9 => ?_) (fun hc9 => ?_)
        · replace h := ite_t hc9 h
          refine WpC.seq ?_
          refine rS {} [4] [] hN (by kernel_rfl) (by kernel_rfl) ?_
          refine tnU ?_
          refine WpC.ret ?_
          refine blockQ_ret ?_
          refine thenQ_ret ?_
          have hq := Option.some.inj h
          subst hq
          refine thenQ_ret ?_
          have h := hout5
          refine blockQ_ret ?_
          refine thenQ_ret ?_
          have hq := Option.some.inj h
          subst hq
          exact eR (by kernel_rfl) (by kernel_rfl)
        · replace h := ite_f hc9 h
          refine WpC.conv (cS [.k [0, 1, 7, 8] []] (by kernel_rfl) (by kernel_rfl)) (WpC.skip ?_)
          refine blockQ_normal ?_
          refine tnU ?_
          refine rS {} [0, 1, 7, 8] [] hN (by kernel_rfl) (by kernel_rfl) ?_
          refine tnU ?_
          exact ⟨n, Nat.lt_succ_self n, (IntKind.i64.wrap (v2 + 1)), h, by kernel_rfl⟩
      · replace h := ite_f hc6 h
        refine WpC.conv (cS [.k [] []] (by kernel_rfl) (by kernel_rfl)) (WpC.exit ?_)
        refine thenQ_exit ?_
        have hq := Option.some.inj h
        subst hq
        refine thenQ_exit ?_
        have h := hout5
        refine blockQ_hit ?_
        refine tnU ?_
        exact ⟨h, by kernel_rfl⟩
  · rintro _ ⟨h, rfl⟩
    unfold ar_Member_90_m0.j1 at h
    refine WpC.seq ?_
    refine rS {} [4] [] hN (by kernel_rfl) (by kernel_rfl) ?_
    refine tnU ?_
    refine WpC.ret ?_
    have hq := Option.some.inj h
    subst hq
    exact eR (by kernel_rfl) (by kernel_rfl)

theorem ar_Member_m0.ok (O : Out) (hO : GOk O) (k : Nat) (a0 : List T_ar_Member) (out : Bool) (h : ar_Member_m0.f k a0 = some out) : COk Un O Tryz.prog 105 { ar := [.p (.list (.named 5)) a0, .clo 106 []], r := .p .bool out } := by
  refine cok_of_wp Tryz.func105 rfl (k := 9) rfl (Nat.le_of_ble_eq_true rfl) (namesOk_pure rfl rfl rfl rfl) ?_
  intro B hN
  refine WpC.conv (cvK (b := ⟨[(0, .p (.list (.named 5)) a0), (1, .clo 106 [])], []⟩) [0, 1] [] (by kernel_rfl)) ?_
  unfold ar_Member_m0.f at h
  refine WpC.seq ?_
  refine rS {} [0, 1] [] hN (by kernel_rfl) (by kernel_rfl) ?_
  refine tnU ?_
  refine WpC.seq ?_
  obtain ⟨v1, hv1, h⟩ := bind_some h
  refine rS { its := [(2, .c (ar_Member_90_m0.ok O hO k a0 v1 hv1))] } [4] [] hN (by kernel_rfl) (by kernel_rfl) ?_
  refine tnU ?_
  refine WpC.ret ?_
  have hq := Option.some.inj h
  subst hq
  exact eR (by kernel_rfl) (by kernel_rfl)

theorem ar_Member_timed.ok (O : Out) (hO : GOk O) (k : Nat) (a0 : T_ar_Member) (out : Bool) (h : ar_Member_timed.f k a0 = some out) : COk Un O Tryz.prog 109 { ar := [.p (.named 5) a0], r := .p .bool out } := by
  refine cok_of_wp Tryz.func109 rfl (k := 11) rfl (Nat.le_of_ble_eq_true rfl) (namesOk_pure rfl rfl rfl rfl) ?_
  intro B hN
  refine WpC.conv (cvK (b := ⟨[(0, .p (.named 5) a0)], []⟩) [0] [] (by kernel_rfl)) ?_
  unfold ar_Member_timed.f at h
  refine WpC.seq ?_
  refine rS {} [1] [1] hN (by kernel_rfl) (by kernel_rfl) ?_
  refine tnU ?_
  refine WpC.seq ?_
  rcases bool_cases (decide (a0.f_Time ≥ 1)) with hc1 | hc1
  · replace h := ite_t hc1 h
    refine rS { kn := [(6, .t hc1)] } [2] [] hN (by kernel_rfl) (by kernel_rfl) ?_
    refine tnU ?_
    refine WpC.ret ?_
    have hq := Option.some.inj h
    subst hq
    exact eR (by kernel_rfl) (by kernel_rfl)
  · replace h := ite_f hc1 h
    refine rS { kn := [(6, .f hc1)] } [2] [] hN (by kernel_rfl) (by kernel_rfl) ?_
    refine tnU ?_
    refine WpC.ret ?_
    have hq := Option.some.inj h
    subst hq
    exact eR (by kernel_rfl) (by kernel_rfl)

theorem ar_Make_2.ok (O : Out) (hO : GOk O) (k : Nat) (a0 : T_ar_Member) (out : Bool) (h : ar_Make_2.f k a0 = some out) : COk Un O Tryz.prog 108 { ar := [.p (.named 5) a0], r := .p .bool out } := by
  refine cok_of_wp Tryz.func108 rfl (k := 6) rfl (Nat.le_of_ble_eq_true rfl) (namesOk_pure rfl rfl rfl rfl) ?_
  intro B hN
  refine WpC.conv (cvK (b := ⟨[(0, .p (.named 5) a0)], []⟩) [0] [] (by kernel_rfl)) ?_
  unfold ar_Make_2.f at h
  refine WpC.seq ?_
  refine rS {} [1] [1] hN (by kernel_rfl) (by kernel_rfl) ?_
  refine tnU ?_
  refine WpC.seq ?_
  obtain ⟨v1, hv1, h⟩ := bind_some h
  refine rS { its := [(1, .c (ar_Member_timed.ok O hO k (T_ar_Member.mk a0.f_Name a0.f_Time a0.f_Content) v1 hv1))] } [2] [] hN (by kernel_rfl) (by kernel_rfl) ?_
  refine tnU ?_
  refine WpC.ret ?_
  have hq := Option.some.inj h
  subst hq
  exact eR (by kernel_rfl) (by kernel_rfl)

theorem ar_Member_90_m1.ok (O : Out) (hO : GOk O) (k : Nat) (a0 : List T_ar_Member) (out : Int) (h : ar_Member_90_m1.f k a0 = some out) : COk Un O Tryz.prog 90 { ar := [.p (.list (.named 5)) a0, .clo 108 []], r := .p I6 out } := by
  refine cok_of_wp Tryz.func90 rfl (k := 19) rfl (Nat.le_of_ble_eq_true rfl) (namesOk_pure rfl rfl rfl rfl) ?_
  intro B hN
  refine WpC.conv (cvK (b := ⟨[(0, .p (.list (.named 5)) a0), (1, .clo 108 [])], []⟩) [0, 1] [] (by kernel_rfl)) ?_
  unfold ar_Member_90_m1.f at h
  refine WpC.seq ?_
  refine rS {} [0, 1] [] hN (by kernel_rfl) (by kernel_rfl) ?_
  refine tnU ?_
  refine sqJ (fun st' => ar_Member_90_m1.j1 k = some out ∧ st' = ⟨[], []⟩) ?_ ?_
  · refine WpC.seq ?_
    refine rS {} [0, 1, 7, 8] [] hN (by kernel_rfl) (by kernel_rfl) ?_
    refine tnU ?_
    refine WpC.block ?_
    obtain ⟨o4, hlo4, h⟩ := bind_some h
    have hout5 := h
    clear h
    refine WpC.loop (U := Un) (fun n st' => ∃ v2 : Int, ar_Member_90_m1.l3 k a0 n v2 = some o4 ∧ st' = ⟨[(0, .p (.list (.named 5)) a0), (1, .clo 108 []), (7, .p I6 ((a0.length : Int) : Int)), (8, .p I6 v2)], []⟩) k ⟨0, hlo4, by kernel_rfl⟩ ?_
    clear hlo4
    rintro (_ | n) _ ⟨v2, h, rfl⟩
    · cases h
    · rw [ar_Member_90_m1.l3] at h
      refine WpC.seq ?_
      refine rS {} [0, 1, 7, 8, 9] [] hN (by kernel_rfl) (by kernel_rfl) ?_
      refine tnU ?_
      refine WpC.seq ?_
      refine tS (b := (decide (v2 < (a0.length : Int)))) (by kernel_rfl) (fun hc6 => ?_) (fun hc6 => ?_)
      · replace h := ite_t hc6 h
        refine WpC.conv (cS [.k [0, 1, 7, 8] []] (by kernel_rfl) (by kernel_rfl)) (WpC.skip ?_)
        refine tnU ?_
        refine WpC.seq ?_
        refine WpC.block ?_
        refine WpC.seq ?_
        refine rS {} [0, 1, 5, 7, 8] [] hN (by kernel_rfl) (by kernel_rfl) ?_
        refine tnU ?_
        refine WpC.seq ?_
        obtain ⟨v7, hv7, h⟩ := bind_some h
        obtain ⟨v8, hv8, h⟩ := bind_some h
        refine rS { its := [(3, .v (.named 5) hv7), (5, .c (ar_Make_2.ok O hO k v7 v8 hv8))] } [0, 1, 5, 7, 8, 16] [] hN (by kernel_rfl) (by kernel_rfl) ?_
        refine tnU ?_
        refine tS (b := v8) (by kernel_rfl) (fun hc9 => ?_) (fun hc9 => ?_)
        · replace h := ite_t hc9 h
          refine WpC.seq ?_
          refine rS {} [4] [] hN (by kernel_rfl) (by kernel_rfl) ?_
          refine tnU ?_
          refine WpC.ret ?_
          refine blockQ_ret ?_
          refine thenQ_ret ?_
          have hq := Option.some.inj h
          subst hq
          refine thenQ_ret ?_
          have h := hout5
          refine blockQ_ret ?_
          refine thenQ_ret ?_
          have hq := Option.some.inj h
          subst hq
          exact eR (by kernel_rfl) (by kernel_rfl)
        · replace h := ite_f hc9 h
          refine WpC.conv (cS [.k [0, 1, 7, 8] []] (by kernel_rfl) (by kernel_rfl)) (WpC.skip ?_)
          refine blockQ_normal ?_
          refine tnU ?_
          refine rS {} [0, 1, 7, 8] [] hN (by kernel_rfl) (by kernel_rfl) ?_
          refine tnU ?_
          exact ⟨n, Nat.lt_succ_self n, (IntKind.i64.wrap (v2 + 1)), h, by kernel_rfl⟩
      · replace h := ite_f hc6 h
        refine WpC.conv (cS [.k [] []] (by kernel_rfl) (by kernel_rfl)) (WpC.exit ?_)
        refine thenQ_exit ?_
        have hq := Option.some.inj h
        subst hq
        refine thenQ_exit ?_
        have h := hout5
        refine blockQ_hit ?_
        refine tnU ?_
        exact ⟨h, by kernel_rfl⟩
  · rintro _ ⟨h, rfl⟩
    unfold ar_Member_90_m1.j1 at h
    refine WpC.seq ?_
    refine rS {} [4] [] hN (by kernel_rfl) (by kernel_rfl) ?_
    refine tnU ?_
    refine WpC.ret ?_
    have hq := Option.some.inj h
    subst hq
    exact eR (by kernel_rfl) (by kernel_rfl)

end Go.Proofs.YtcblgpcgdihcbaaGreatDoor
