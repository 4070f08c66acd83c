/- A part of a proof: FBC1. -/
import Derived.Test.YtcijochjfncefaaGreatDoorK44FBC0
namespace Go.Proofs.YtcijochjfncefaaGreatDoor
open Go Go.AM
set_option linter.unusedVariables false
set_option linter.unusedSimpArgs false
set_option maxRecDepth 100000
set_option maxHeartbeats 4000000
theorem lex_Name.ok (O : Out) (hO : GOk O) (k : Nat) (a0 : List UInt8) (out : Bool) (h : lex_Name.f k a0 = some out) : COk Un O Tryz.prog 53 { ar := [.p .str a0], r := .p .bool out } := by
 refine cok_of_wp Tryz.func53 rfl (k := 17) rfl (Nat.le_of_ble_eq_true rfl) (namesOk_pure rfl rfl rfl rfl) ?_
 intro B hN
 refine ckS (b := ⟨[(0, .p .str a0)], []⟩) [0] [] (by kernel_rfl) ?_
 unfold lex_Name.f at h
 refine sq_ ?_
 refine rS {} [0] [] hN (by kernel_rfl) (by kernel_rfl) ?_
 refine tnS ?_
 rcases bool_cases (!(a0 == ([] : List UInt8))) with hc1 | hc1
 ·replace h := ite_t hc1 h
  rcases bool_cases (decide ((a0.length : Int) ≤ 12)) with hc2 | hc2
  ·replace h := ite_t hc2 h
   obtain ⟨v3, hv3, h⟩ := bind_some h
   refine rS { its := [(9, .c (lex_run_m0.ok O hO k a0 0 v3 hv3))], kn := [(5, .t hc1), (10, .t hc2)] } [2] [] hN (by kernel_rfl) (by kernel_rfl) ?_
   refine tnU ?_
   refine wr_ ?_
   have hq := Option.some.inj h
   subst hq
   exact eR (by kernel_rfl) (by kernel_rfl)
  ·replace h := ite_f hc2 h
   refine rS { kn := [(5, .t hc1), (10, .f hc2)] } [2] [] hN (by kernel_rfl) (by kernel_rfl) ?_
   refine tnU ?_
   refine wr_ ?_
   have hq := Option.some.inj h
   subst hq
   exact eR (by kernel_rfl) (by kernel_rfl)
 ·replace h := ite_f hc1 h
  refine rS { kn := [(5, .f hc1)] } [2] [] hN (by kernel_rfl) (by kernel_rfl) ?_
  refine tnU ?_
  refine wr_ ?_
  have hq := Option.some.inj h
  subst hq
  exact eR (by kernel_rfl) (by kernel_rfl)

theorem quote_Blank.ok (O : Out) (hO : GOk O) (k : Nat) (a0 : Int) (out : Bool) (h : quote_Blank.f k a0 = some out) : COk Un O Tryz.prog 95 { ar := [.p (.int .u8) a0], r := .p .bool out } := by
 refine cok_of_wp Tryz.func95 rfl (k := 6) rfl (Nat.le_of_ble_eq_true rfl) (namesOk_pure rfl rfl rfl rfl) ?_
 intro B hN
 refine ckS (b := ⟨[(0, .p (.int .u8) a0)], []⟩) [0] [] (by kernel_rfl) ?_
 unfold quote_Blank.f at h
 refine sq_ ?_
 refine rS {} [0] [] hN (by kernel_rfl) (by kernel_rfl) ?_
 refine tnS ?_
 obtain ⟨v1, hv1, h⟩ := bind_some h
 refine rS { its := [(1, .c (pIndexByte.ok O hO k ([32, 9, 10] : List UInt8) a0 v1 hv1))] } [2] [] hN (by kernel_rfl) (by kernel_rfl) ?_
 refine tnU ?_
 refine wr_ ?_
 have hq := Option.some.inj h
 subst hq
 exact eR (by kernel_rfl) (by kernel_rfl)

theorem quote_skip.ok (O : Out) (hO : GOk O) (k : Nat) (a0 : List UInt8) (a1 : Int) (out : Int) (h : quote_skip.f k a0 a1 = some out) : COk Un O Tryz.prog 91 { ar := [.p .str a0, .p I6 a1], r := .p I6 out } := by
 refine cok_of_wp Tryz.func91 rfl (k := 18) rfl (Nat.le_of_ble_eq_true rfl) (namesOk_pure rfl rfl rfl rfl) ?_
 intro B hN
 refine ckS (b := ⟨[(0, .p .str a0), (1, .p I6 a1)], []⟩) [0, 1] [] (by kernel_rfl) ?_
 unfold quote_skip.f at h
 refine sq_ ?_
 refine rS {} [0, 1] [] hN (by kernel_rfl) (by kernel_rfl) ?_
 refine tnU ?_
 refine sqJ (fun st' => ∃ v1 : Int, quote_skip.j2 k v1 = some out ∧ st' = ⟨[(1, .p I6 v1)], []⟩) ?_ ?_
 ·refine wb_ ?_
  obtain ⟨o6, hlo6, h⟩ := bind_some h
  have hout7 := h
  clear h
  refine u1_ (fun n st' => ∃ v3 : Int, quote_skip.l4 k a0 n v3 = some o6 ∧ st' = ⟨[(0, .p .str a0), (1, .p I6 v3)], []⟩) k ⟨a1, hlo6, by kernel_rfl⟩ ?_
  clear hlo6
  rintro (_ | n) _ ⟨v3, h, rfl⟩
  ·cases h
  ·rw [quote_skip.l4] at h
   refine sqJ (fun st' => quote_skip.j8 k (quote_skip.l4 k a0 n) a0 v3 = some o6 ∧ st' = ⟨[(0, .p .str a0), (1, .p I6 v3)], []⟩) ?_ ?_
   ·refine sqJ (fun st' => ∃ v9 : Bool, quote_skip.j11 k (quote_skip.l4 k a0 n) a0 v3 v9 = some o6 ∧ st' = ⟨[(0, .p .str a0), (1, .p I6 v3), (14, .p .bool v9)], []⟩) ?_ ?_
    ·rcases bool_cases (decide (v3 < (a0.length : Int))) with hc12 | hc12
     ·replace h := ite_t hc12 h
      obtain ⟨v13, hv13, h⟩ := bind_some h
      obtain ⟨v14, hv14, h⟩ := bind_some h
      refine rS { its := [(7, .u hv13), (8, .c (quote_Blank.ok O hO k (v13.toNat : Int) v14 hv14))], kn := [(9, .t hc12)] } [0, 1, 14] [] hN (by kernel_rfl) (by kernel_rfl) ?_
      refine tnU ?_
      exact ⟨v14, h, by kernel_rfl⟩
     ·replace h := ite_f hc12 h
      refine rS { kn := [(9, .f hc12)] } [0, 1, 14] [] hN (by kernel_rfl) (by kernel_rfl) ?_
      refine tnU ?_
      exact ⟨false, h, by kernel_rfl⟩
    ·rintro _ ⟨v9, h, rfl⟩
     unfold quote_skip.j11 at h
     refine tS (b := v9) (by kernel_rfl) (fun hc10 => ?_) (fun hc10 => ?_)
     ·replace h := ite_t hc10 h
      refine wc_ (cS [.k [0, 1] []] (by kernel_rfl) (by kernel_rfl)) (ws_ ?_)
      refine tnU ?_
      exact ⟨h, by kernel_rfl⟩
     ·replace h := ite_f hc10 h
      refine wc_ (cS [.k [1] []] (by kernel_rfl) (by kernel_rfl)) (we_ ?_)
      refine te_ ?_
      have hq := Option.some.inj h
      subst hq
      refine te_ ?_
      have h := hout7
      refine blockQ_hit ?_
      refine tnU ?_
      exact ⟨v3, h, by kernel_rfl⟩
   ·rintro _ ⟨h, rfl⟩
    unfold quote_skip.j8 at h
    refine wb_ ?_
    refine rS {} [0, 1] [] hN (by kernel_rfl) (by kernel_rfl) ?_
    refine bn_ ?_
    refine tnU ?_
    exact ⟨n, Nat.lt_succ_self n, (IntKind.i64.wrap (v3 + 1)), h, by kernel_rfl⟩
 ·rintro _ ⟨v1, h, rfl⟩
  unfold quote_skip.j2 at h
  refine sq_ ?_
  refine rS {} [4] [] hN (by kernel_rfl) (by kernel_rfl) ?_
  refine tnU ?_
  refine wr_ ?_
  have hq := Option.some.inj h
  subst hq
  exact eR (by kernel_rfl) (by kernel_rfl)

theorem quote_End.ok (O : Out) (hO : GOk O) (k : Nat) (a0 : List UInt8) (a1 : Int) (out : Int) (h : quote_End.f k a0 a1 = some out) : COk Un O Tryz.prog 105 { ar := [.p .str a0, .p I6 a1], r := .p I6 out } := by
 refine cok_of_wp Tryz.func105 rfl (k := 50) rfl (Nat.le_of_ble_eq_true rfl) (namesOk_pure rfl rfl rfl rfl) ?_
 intro B hN
 refine ckS (b := ⟨[(0, .p .str a0), (1, .p I6 a1)], []⟩) [0, 1] [] (by kernel_rfl) ?_
 unfold quote_End.f at h
 refine sq_ ?_
 refine rS {} [0, 1] [] hN (by kernel_rfl) (by kernel_rfl) ?_
 refine tnU ?_
 refine sqJ (fun st' => quote_End.j18 k a0 a1 = some out ∧ st' = ⟨[(0, .p .str a0), (1, .p I6 a1)], []⟩) ?_ ?_
 ·refine sqJ (fun st' => ∃ v19 : Bool, quote_End.j21 k a0 a1 v19 = some out ∧ st' = ⟨[(0, .p .str a0), (1, .p I6 a1), (19, .p .bool v19)], []⟩) ?_ ?_
  ·rcases bool_cases (decide (a1 < 0)) with hc22 | hc22
   ·replace h := ite_t hc22 h
    refine rS { kn := [(8, .t hc22)] } [0, 1, 19] [] hN (by kernel_rfl) (by kernel_rfl) ?_
    refine tnU ?_
    exact ⟨true, h, by kernel_rfl⟩
   ·replace h := ite_f hc22 h
    rcases bool_cases (decide (a1 ≥ (a0.length : Int))) with hc23 | hc23
    ·replace h := ite_t hc23 h
     refine rS { kn := [(8, .f hc22), (14, .t hc23)] } [0, 1, 19] [] hN (by kernel_rfl) (by kernel_rfl) ?_
     refine tnU ?_
     exact ⟨true, h, by kernel_rfl⟩
    ·replace h := ite_f hc23 h
     obtain ⟨v24, hv24, h⟩ := bind_some h
     refine rS { its := [(11, .u hv24)], kn := [(8, .f hc22), (14, .f hc23)] } [0, 1, 19] [] hN (by kernel_rfl) (by kernel_rfl) ?_
     refine tnU ?_
     exact ⟨((v24.toNat : Int) != 39), h, by kernel_rfl⟩
  ·rintro _ ⟨v19, h, rfl⟩
   unfold quote_End.j21 at h
   refine tS (b := v19) (by kernel_rfl) (fun hc20 => ?_) (fun hc20 => ?_)
   ·replace h := ite_t hc20 h
    refine sq_ ?_
    refine rS {} [4] [] hN (by kernel_rfl) (by kernel_rfl) ?_
    refine tnU ?_
    refine wr_ ?_
    refine tr_ ?_
    have hq := Option.some.inj h
    subst hq
    exact eR (by kernel_rfl) (by kernel_rfl)
   ·replace h := ite_f hc20 h
    refine wc_ (cS [.k [0, 1] []] (by kernel_rfl) (by kernel_rfl)) (ws_ ?_)
    refine tnU ?_
    exact ⟨h, by kernel_rfl⟩
 ·rintro _ ⟨h, rfl⟩
  unfold quote_End.j18 at h
  refine sqJ (fun st' => quote_End.j1 k = some out ∧ st' = ⟨[], []⟩) ?_ ?_
  ·refine sq_ ?_
   refine rS {} [0, 5] [] hN (by kernel_rfl) (by kernel_rfl) ?_
   refine tnU ?_
   refine wb_ ?_
   obtain ⟨o4, hlo4, h⟩ := bind_some h
   have hout5 := h
   clear h
   refine u1_ (fun n st' => ∃ v2 : Int, quote_End.l3 k a0 n v2 = some o4 ∧ st' = ⟨[(0, .p .str a0), (5, .p I6 v2)], []⟩) k ⟨(IntKind.i64.wrap (a1 + 1)), hlo4, by kernel_rfl⟩ ?_
   clear hlo4
   rintro (_ | n) _ ⟨v2, h, rfl⟩
   ·cases h
   ·rw [quote_End.l3] at h
    refine sq_ ?_
    refine sq_ ?_
    refine rS {} [0, 5, 25] [] hN (by kernel_rfl) (by kernel_rfl) ?_
    refine tnU ?_
    refine tS (b := (decide (v2 < (a0.length : Int)))) (by kernel_rfl) (fun hc6 => ?_) (fun hc6 => ?_)
    ·replace h := ite_t hc6 h
     refine wc_ (cS [.k [0, 5] []] (by kernel_rfl) (by kernel_rfl)) (ws_ ?_)
     refine tnU ?_
     refine sqJ (fun st' => ∃ v7 : Int, quote_End.j8 k (quote_End.l3 k a0 n) a0 v7 = some o4 ∧ st' = ⟨[(0, .p .str a0), (5, .p I6 v7)], []⟩) ?_ ?_
     ·refine wb_ ?_
      refine wb_ ?_
      refine sq_ ?_
      obtain ⟨v9, hv9, h⟩ := bind_some h
      refine rS { its := [(2, .u hv9)] } [0, 5, 30] [] hN (by kernel_rfl) (by kernel_rfl) ?_
      refine tnU ?_
      refine tS (b := ((v9.toNat : Int) != 39)) (by kernel_rfl) (fun hc10 => ?_) (fun hc10 => ?_)
      ·replace h := ite_t hc10 h
       refine wc_ (cS [.k [0, 5] []] (by kernel_rfl) (by kernel_rfl)) (we_ ?_)
       refine blockQ_pass (by decide) ?_
       refine blockQ_hit ?_
       refine tnU ?_
       exact ⟨v2, h, by kernel_rfl⟩
      ·replace h := ite_f hc10 h
       refine sqJ (fun st' => ∃ v11 : Bool, quote_End.j13 k (quote_End.l3 k a0 n) a0 v2 v11 = some o4 ∧ st' = ⟨[(0, .p .str a0), (5, .p I6 v2), (35, .p .bool v11)], []⟩) ?_ ?_
       ·rcases bool_cases (decide ((IntKind.i64.wrap (v2 + 1)) < (a0.length : Int))) with hc14 | hc14
        ·replace h := ite_t hc14 h
         obtain ⟨v15, hv15, h⟩ := bind_some h
         refine rS { its := [(9, .u hv15)], kn := [(41, .t hc14)] } [0, 5, 35] [] hN (by kernel_rfl) (by kernel_rfl) ?_
         refine tnU ?_
         exact ⟨((v15.toNat : Int) == 39), h, by kernel_rfl⟩
        ·replace h := ite_f hc14 h
         refine rS { kn := [(41, .f hc14)] } [0, 5, 35] [] hN (by kernel_rfl) (by kernel_rfl) ?_
         refine tnU ?_
         exact ⟨false, h, by kernel_rfl⟩
       ·rintro _ ⟨v11, h, rfl⟩
        unfold quote_End.j13 at h
        refine tS (b := v11) (by kernel_rfl) (fun hc12 => ?_) (fun hc12 => ?_)
        ·replace h := ite_t hc12 h
         refine rS {} [0, 5] [] hN (by kernel_rfl) (by kernel_rfl) ?_
         refine bn_ ?_
         refine bn_ ?_
         refine tnU ?_
         exact ⟨(IntKind.i64.wrap (v2 + 1)), h, by kernel_rfl⟩
        ·replace h := ite_f hc12 h
         refine sq_ ?_
         refine rS {} [4] [] hN (by kernel_rfl) (by kernel_rfl) ?_
         refine tnU ?_
         refine wr_ ?_
         refine blockQ_ret ?_
         refine blockQ_ret ?_
         refine tr_ ?_
         have hq := Option.some.inj h
         subst hq
         refine tr_ ?_
         have h := hout5
         refine blockQ_ret ?_
         refine tr_ ?_
         have hq := Option.some.inj h
         subst hq
         exact eR (by kernel_rfl) (by kernel_rfl)
     ·rintro _ ⟨v7, h, rfl⟩
      unfold quote_End.j8 at h
      refine rS {} [0, 5] [] hN (by kernel_rfl) (by kernel_rfl) ?_
      refine tnU ?_
      exact ⟨n, Nat.lt_succ_self n, (IntKind.i64.wrap (v7 + 1)), h, by kernel_rfl⟩
    ·replace h := ite_f hc6 h
     refine wc_ (cS [.k [] []] (by kernel_rfl) (by kernel_rfl)) (we_ ?_)
     refine te_ ?_
     have hq := Option.some.inj h
     subst hq
     refine te_ ?_
     have h := hout5
     refine blockQ_hit ?_
     refine tnU ?_
     exact ⟨h, by kernel_rfl⟩
  ·rintro _ ⟨h, rfl⟩
   unfold quote_End.j1 at h
   refine sq_ ?_
   refine rS {} [4] [] hN (by kernel_rfl) (by kernel_rfl) ?_
   refine tnU ?_
   refine wr_ ?_
   have hq := Option.some.inj h
   subst hq
   exact eR (by kernel_rfl) (by kernel_rfl)

theorem quote_word.ok (O : Out) (hO : GOk O) (k : Nat) (a0 : List UInt8) (a1 : Int) (out : (List UInt8) × Int) (h : quote_word.f k a0 a1 = some out) : COk Un O Tryz.prog 92 { ar := [.p .str a0, .p I6 a1], r := .tup [.p .str out.1, .p I6 out.2] } := by
 refine cok_of_wp Tryz.func92 rfl (k := 49) rfl (Nat.le_of_ble_eq_true rfl) (namesOk_pure rfl rfl rfl rfl) ?_
 intro B hN
 refine ckS (b := ⟨[(0, .p .str a0), (1, .p I6 a1)], []⟩) [0, 1] [] (by kernel_rfl) ?_
 unfold quote_word.f at h
 refine sq_ ?_
 refine rS {} [0, 1] [] hN (by kernel_rfl) (by kernel_rfl) ?_
 refine tnS ?_
 refine rS {} [0, 1, 6] [] hN (by kernel_rfl) (by kernel_rfl) ?_
 refine tnU ?_
 refine sqJ (fun st' => ∃ v1 : Int, ∃ v2 : List Int, quote_word.j3 k v1 v2 = some out ∧ st' = ⟨[(1, .p I6 v1), (6, .vec 1006 1 0 v2.length)], [(1006, .row 5 (.int .u8) v2 false)]⟩) ?_ ?_
 ·refine wb_ ?_
  obtain ⟨o9, hlo9, h⟩ := bind_some h
  have hout10 := h
  clear h
  refine wc_ (cS [.th 6 1006 5 (.int .u8), .k [0, 1, 6] [1006]] (by kernel_rfl) (by kernel_rfl)) ?_
  refine u1_ (fun n st' => ∃ v4 : Int, ∃ v5 : List Int, quote_word.l6 k a0 n v4 v5 = some o9 ∧ st' = ⟨[(0, .p .str a0), (1, .p I6 v4), (6, .vec 1006 1 0 v5.length)], [(1006, .row 5 (.int .u8) v5 false)]⟩) k ⟨a1, [], hlo9, by kernel_rfl⟩ ?_
  clear hlo9
  rintro (_ | n) _ ⟨v4, v5, h, rfl⟩
  ·cases h
  ·rw [quote_word.l6] at h
   refine sqJ (fun st' => quote_word.j20 k (quote_word.l6 k a0 n) a0 v4 v5 = some o9 ∧ st' = ⟨[(0, .p .str a0), (1, .p I6 v4), (6, .vec 1006 1 0 v5.length)], [(1006, .row 5 (.int .u8) v5 false)]⟩) ?_ ?_
   ·refine sqJ (fun st' => ∃ v21 : Bool, quote_word.j23 k (quote_word.l6 k a0 n) a0 v4 v5 v21 = some o9 ∧ st' = ⟨[(0, .p .str a0), (1, .p I6 v4), (6, .vec 1006 1 0 v5.length), (18, .p .bool v21)], [(1006, .row 5 (.int .u8) v5 false)]⟩) ?_ ?_
    ·rcases bool_cases (decide (v4 < (a0.length : Int))) with hc24 | hc24
     ·replace h := ite_t hc24 h
      obtain ⟨v25, hv25, h⟩ := bind_some h
      obtain ⟨v26, hv26, h⟩ := bind_some h
      refine rS { its := [(7, .u hv25), (8, .c (quote_Blank.ok O hO k (v25.toNat : Int) v26 hv26))], kn := [(12, .t hc24)] } [0, 1, 6, 18] [1006] hN (by kernel_rfl) (by kernel_rfl) ?_
      refine tnU ?_
      exact ⟨(!v26), h, by kernel_rfl⟩
     ·replace h := ite_f hc24 h
      refine rS { kn := [(12, .f hc24)] } [0, 1, 6, 18] [1006] hN (by kernel_rfl) (by kernel_rfl) ?_
      refine tnU ?_
      exact ⟨false, h, by kernel_rfl⟩
    ·rintro _ ⟨v21, h, rfl⟩
     unfold quote_word.j23 at h
     refine tS (b := v21) (by kernel_rfl) (fun hc22 => ?_) (fun hc22 => ?_)
     ·replace h := ite_t hc22 h
      refine wc_ (cS [.k [0, 1, 6] [1006]] (by kernel_rfl) (by kernel_rfl)) (ws_ ?_)
      refine tnU ?_
      exact ⟨h, by kernel_rfl⟩
     ·replace h := ite_f hc22 h
      refine wc_ (cS [.k [1, 6] [1006]] (by kernel_rfl) (by kernel_rfl)) (we_ ?_)
      refine te_ ?_
      have hq := Option.some.inj h
      subst hq
      refine te_ ?_
      have h := hout10
      refine blockQ_hit ?_
      refine tnU ?_
      exact ⟨v4, v5, h, by kernel_rfl⟩
   ·rintro _ ⟨h, rfl⟩
    unfold quote_word.j20 at h
    refine wb_ ?_
    refine sq_ ?_
    refine sq_ ?_
    obtain ⟨v11, hv11, h⟩ := bind_some h
    refine rS { its := [(2, .u hv11)] } [0, 1, 6, 22] [1006] hN (by kernel_rfl) (by kernel_rfl) ?_
    refine tnU ?_
    refine tS (b := ((v11.toNat : Int) != 39)) (by kernel_rfl) (fun hc12 => ?_) (fun hc12 => ?_)
    ·replace h := ite_t hc12 h
     refine sq_ ?_
     obtain ⟨v13, hv13, h⟩ := bind_some h
     obtain ⟨g14, h⟩ := if_some h
     refine rS { its := [(3, .u hv13), (5, .g g14)] } [0, 1, 6] [28] hN (by kernel_rfl) (by kernel_rfl) ?_
     refine tnS ?_
     refine rS {} [0, 1, 6] [28] hN (by kernel_rfl) (by kernel_rfl) ?_
     refine tnU ?_
     refine wc_ (cS [.rn 28 1006, .k [0, 1, 6] [1006]] (by kernel_rfl) (by kernel_rfl)) (we_ ?_)
     refine te_ ?_
     refine blockQ_hit ?_
     refine tnU ?_
     exact ⟨n, Nat.lt_succ_self n, (IntKind.i64.wrap (v4 + 1)), (v5 ++ [(v13.toNat : Int)]), h, by kernel_rfl⟩
    ·replace h := ite_f hc12 h
     refine wc_ (cS [.k [0, 1, 6] [1006]] (by kernel_rfl) (by kernel_rfl)) (ws_ ?_)
     refine tnS ?_
     obtain ⟨v15, hv15, h⟩ := bind_some h
     refine rS { its := [(2, .c (quote_End.ok O hO k a0 v4 v15 hv15))] } [0, 1, 6, 7] [1006] hN (by kernel_rfl) (by kernel_rfl) ?_
     refine tnS ?_
     refine sq_ ?_
     refine rS {} [0, 1, 6, 7, 35] [1006] hN (by kernel_rfl) (by kernel_rfl) ?_
     refine tnU ?_
     refine tS (b := (decide (v15 < 0))) (by kernel_rfl) (fun hc16 => ?_) (fun hc16 => ?_)
     ·replace h := ite_t hc16 h
      refine sq_ ?_
      refine rS {} [4, 5] [] hN (by kernel_rfl) (by kernel_rfl) ?_
      refine tnU ?_
      refine wr_ ?_
      refine tr_ ?_
      refine blockQ_ret ?_
      have hq := Option.some.inj h
      subst hq
      refine tr_ ?_
      have h := hout10
      refine blockQ_ret ?_
      refine tr_ ?_
      have hq := Option.some.inj h
      subst hq
      exact eR (by kernel_rfl) (by kernel_rfl)
     ·replace h := ite_f hc16 h
      refine wc_ (cS [.k [0, 1, 6, 7] [1006]] (by kernel_rfl) (by kernel_rfl)) (ws_ ?_)
      refine tnS ?_
      obtain ⟨v17, hv17, h⟩ := bind_some h
      obtain ⟨v18, hv18, h⟩ := bind_some h
      obtain ⟨g19, h⟩ := if_some h
      refine rS { its := [(6, .v .str hv17), (7, .c (pReplaceAll.ok O hO k v17 ([39, 39] : List UInt8) ([39] : List UInt8) v18 hv18)), (8, .e 8 (u2_ (rs := [(36, .vec 1006 1 0 v5.length), (43, .p .str v18)]) (xs := v5) (s := v18) (fx := false) rfl rfl rfl row_93 z8_5 Tryz.underlying9 o0 o1 g19))] } [0, 6, 7] [44] hN (by kernel_rfl) (by kernel_rfl) ?_
      refine tnU ?_
      refine rSC {} [0, 1, 6] [44] hN (by kernel_rfl) (by kernel_rfl) (cS [.rn 44 1006, .k [0, 1, 6] [1006]] (by kernel_rfl) (by kernel_rfl)) ?_
      refine bn_ ?_
      refine tnU ?_
      exact ⟨n, Nat.lt_succ_self n, v15, (v5 ++ numsOf v18), h, by kernel_rfl⟩
 ·rintro _ ⟨v1, v2, h, rfl⟩
  unfold quote_word.j3 at h
  refine sq_ ?_
  refine rS {} [4, 5] [] hN (by kernel_rfl) (by kernel_rfl) ?_
  refine tnU ?_
  refine wr_ ?_
  have hq := Option.some.inj h
  subst hq
  exact eR (by kernel_rfl) (by kernel_rfl)

theorem quote_Split.ok (O : Out) (hO : GOk O) (k : Nat) (a0 : List UInt8) (out : (List (List UInt8)) × Nat) (h : quote_Split.f k a0 = some out) : COk Un O Tryz.prog 77 { ar := [.p .str a0], r := .tup [.p (.list .str) out.1, .p .err out.2] } := by
 refine cok_of_wp Tryz.func77 rfl (k := 31) rfl (Nat.le_of_ble_eq_true rfl) (namesOk_pure rfl rfl rfl rfl) ?_
 intro B hN
 refine ckS (b := ⟨[(0, .p .str a0)], []⟩) [0] [] (by kernel_rfl) ?_
 unfold quote_Split.f at h
 refine sq_ ?_
 refine rS {} [0] [] hN (by kernel_rfl) (by kernel_rfl) ?_
 refine tnS ?_
 refine rS {} [0, 4] [] hN (by kernel_rfl) (by kernel_rfl) ?_
 refine tnU ?_
 refine sqJ (fun st' => ∃ v1 : List (List UInt8), quote_Split.j2 k v1 = some out ∧ st' = ⟨[(4, .vec 1004 1 0 v1.length)], [(1004, .row 9 .str v1 false)]⟩) ?_ ?_
 ·refine sq_ ?_
  obtain ⟨v3, hv3, h⟩ := bind_some h
  refine rS { its := [(1, .c (quote_skip.ok O hO k a0 0 v3 hv3))] } [0, 4, 5] [] hN (by kernel_rfl) (by kernel_rfl) ?_
  refine tnU ?_
  refine wb_ ?_
  obtain ⟨o8, hlo8, h⟩ := bind_some h
  have hout9 := h
  clear h
  refine wc_ (cS [.th 4 1004 9 .str, .k [0, 4, 5] [1004]] (by kernel_rfl) (by kernel_rfl)) ?_
  refine u1_ (fun n st' => ∃ v4 : List (List UInt8), ∃ v5 : Int, quote_Split.l6 k a0 n v4 v5 = some o8 ∧ st' = ⟨[(0, .p .str a0), (4, .vec 1004 1 0 v4.length), (5, .p I6 v5)], [(1004, .row 9 .str v4 false)]⟩) k ⟨[], v3, hlo8, by kernel_rfl⟩ ?_
  clear hlo8
  rintro (_ | n) _ ⟨v4, v5, h, rfl⟩
  ·cases h
  ·rw [quote_Split.l6] at h
   refine sq_ ?_
   refine sq_ ?_
   refine rS {} [0, 4, 5, 13] [1004] hN (by kernel_rfl) (by kernel_rfl) ?_
   refine tnU ?_
   refine tS (b := (decide (v5 < (a0.length : Int)))) (by kernel_rfl) (fun hc10 => ?_) (fun hc10 => ?_)
   ·replace h := ite_t hc10 h
    refine wc_ (cS [.k [0, 4, 5] [1004]] (by kernel_rfl) (by kernel_rfl)) (ws_ ?_)
    refine tnU ?_
    refine wb_ ?_
    refine sq_ ?_
    obtain ⟨v11, hv11, h⟩ := bind_some h
    refine rS { its := [(2, .c (quote_word.ok O hO k a0 v5 v11 hv11))] } [0, 4, 6, 7] [1004] hN (by kernel_rfl) (by kernel_rfl) ?_
    refine tnS ?_
    refine sq_ ?_
    refine rS {} [0, 4, 6, 7, 21] [1004] hN (by kernel_rfl) (by kernel_rfl) ?_
    refine tnU ?_
    refine tS (b := (decide (v11.2 < 0))) (by kernel_rfl) (fun hc12 => ?_) (fun hc12 => ?_)
    ·replace h := ite_t hc12 h
     refine sq_ ?_
     refine rA { its := [(0, .e 0 (u9_ (t := .err) (rs := []) rfl rfl ty_30 rfl rfl (hO.var 4 5 rfl) (fun S w => .err 4)))] } [2, 3] [] hN (by kernel_rfl) (by kernel_rfl) (by kernel_rfl) ?_
     refine tnU ?_
     refine wc_ (cS [.nL 2 .str, .k [2, 3] []] (by kernel_rfl) (by kernel_rfl)) (wr_ ?_)
     refine tr_ ?_
     refine blockQ_ret ?_
     have hq := Option.some.inj h
     subst hq
     refine tr_ ?_
     have h := hout9
     refine blockQ_ret ?_
     refine tr_ ?_
     have hq := Option.some.inj h
     subst hq
     exact eR (by kernel_rfl) (by kernel_rfl)
    ·replace h := ite_f hc12 h
     refine wc_ (cS [.k [0, 4, 6, 7] [1004]] (by kernel_rfl) (by kernel_rfl)) (ws_ ?_)
     refine tnS ?_
     obtain ⟨g13, h⟩ := if_some h
     refine rS { its := [(3, .g g13)] } [0, 4, 7] [26] hN (by kernel_rfl) (by kernel_rfl) ?_
     refine tnU ?_
     obtain ⟨v14, hv14, h⟩ := bind_some h
     refine rSC { its := [(2, .c (quote_skip.ok O hO k a0 v11.2 v14 hv14))] } [0, 4, 5] [26] hN (by kernel_rfl) (by kernel_rfl) (cS [.rn 26 1004, .k [0, 4, 5] [1004]] (by kernel_rfl) (by kernel_rfl)) ?_
     refine bn_ ?_
     refine tnU ?_
     exact ⟨n, Nat.lt_succ_self n, (v4 ++ [v11.1]), v14, h, by kernel_rfl⟩
   ·replace h := ite_f hc10 h
    refine wc_ (cS [.k [4] [1004]] (by kernel_rfl) (by kernel_rfl)) (we_ ?_)
    refine te_ ?_
    have hq := Option.some.inj h
    subst hq
    refine te_ ?_
    have h := hout9
    refine blockQ_hit ?_
    refine tnU ?_
    exact ⟨v4, h, by kernel_rfl⟩
 ·rintro _ ⟨v1, h, rfl⟩
  unfold quote_Split.j2 at h
  refine sq_ ?_
  refine rS {} [2, 3] [1004] hN (by kernel_rfl) (by kernel_rfl) ?_
  refine tnU ?_
  refine wc_ (cS [.fz 2, .k [2, 3] [], .nE 3, .k [2, 3] []] (by kernel_rfl) (by kernel_rfl)) (wr_ ?_)
  have hq := Option.some.inj h
  subst hq
  exact eR (by kernel_rfl) (by kernel_rfl)

theorem env_Check_1.ok (O : Out) (hO : GOk O) (k : Nat) (a0 : List UInt8) (out : Bool) (h : env_Check_1.f k a0 = some out) : COk Un O Tryz.prog 84 { ar := [.p .str a0], r := .p .bool out } := by
 refine cok_of_wp Tryz.func84 rfl (k := 6) rfl (Nat.le_of_ble_eq_true rfl) (namesOk_pure rfl rfl rfl rfl) ?_
 intro B hN
 refine ckS (b := ⟨[(0, .p .str a0)], []⟩) [0] [] (by kernel_rfl) ?_
 unfold env_Check_1.f at h
 refine sq_ ?_
 refine rS {} [0] [] hN (by kernel_rfl) (by kernel_rfl) ?_
 refine tnS ?_
 refine rS {} [2] [] hN (by kernel_rfl) (by kernel_rfl) ?_
 refine tnU ?_
 refine wr_ ?_
 have hq := Option.some.inj h
 subst hq
 exact eR (by kernel_rfl) (by kernel_rfl)

theorem slices_IndexFunc_string_string_m0.ok (O : Out) (hO : GOk O) (k : Nat) (a0 : List (List UInt8)) (out : Int) (h : slices_IndexFunc_string_string_m0.f k a0 = some out) : COk Un O Tryz.prog 67 { ar := [.p (.list .str) a0, .clo 84 []], r := .p I6 out } := by
 refine cok_of_wp Tryz.func67 rfl (k := 19) rfl (Nat.le_of_ble_eq_true rfl) (namesOk_pure rfl rfl rfl rfl) ?_
 intro B hN
 refine ckS (b := ⟨[(0, .p (.list .str) a0), (1, .clo 84 [])], []⟩) [0, 1] [] (by kernel_rfl) ?_
 unfold slices_IndexFunc_string_string_m0.f at h
 refine sq_ ?_
 refine rS {} [0, 1] [] hN (by kernel_rfl) (by kernel_rfl) ?_
 refine tnU ?_
 refine sqJ (fun st' => slices_IndexFunc_string_string_m0.j1 k = some out ∧ st' = ⟨[], []⟩) ?_ ?_
 ·refine sq_ ?_
  refine rS {} [0, 1, 7, 8] [] hN (by kernel_rfl) (by kernel_rfl) ?_
  refine tnU ?_
  refine wb_ ?_
  obtain ⟨o4, hlo4, h⟩ := bind_some h
  have hout5 := h
  clear h
  refine u1_ (fun n st' => ∃ v2 : Int, slices_IndexFunc_string_string_m0.l3 k a0 n v2 = some o4 ∧ st' = ⟨[(0, .p (.list .str) a0), (1, .clo 84 []), (7, .p I6 ((a0.length : Int) : Int)), (8, .p I6 v2)], []⟩) k ⟨0, hlo4, by kernel_rfl⟩ ?_
  clear hlo4
  rintro (_ | n) _ ⟨v2, h, rfl⟩
  ·cases h
  ·rw [slices_IndexFunc_string_string_m0.l3] at h
   refine sq_ ?_
   refine rS {} [0, 1, 7, 8, 9] [] hN (by kernel_rfl) (by kernel_rfl) ?_
   refine tnS ?_
   refine tS (b := (decide (v2 < (a0.length : Int)))) (by kernel_rfl) (fun hc6 => ?_) (fun hc6 => ?_)
   ·replace h := ite_t hc6 h
    refine wc_ (cS [.k [0, 1, 7, 8] []] (by kernel_rfl) (by kernel_rfl)) (ws_ ?_)
    refine tnS ?_
    refine wb_ ?_
    refine sq_ ?_
    refine rS {} [0, 1, 5, 7, 8] [] hN (by kernel_rfl) (by kernel_rfl) ?_
    refine tnS ?_
    obtain ⟨v7, hv7, h⟩ := bind_some h
    obtain ⟨v8, hv8, h⟩ := bind_some h
    refine rS { its := [(3, .v .str hv7), (5, .c (env_Check_1.ok O hO k v7 v8 hv8))] } [0, 1, 5, 7, 8, 16] [] hN (by kernel_rfl) (by kernel_rfl) ?_
    refine tnU ?_
    refine tS (b := v8) (by kernel_rfl) (fun hc9 => ?_) (fun hc9 => ?_)
    ·replace h := ite_t hc9 h
     refine sq_ ?_
     refine rS {} [4] [] hN (by kernel_rfl) (by kernel_rfl) ?_
     refine tnU ?_
     refine wr_ ?_
     refine blockQ_ret ?_
     refine tr_ ?_
     have hq := Option.some.inj h
     subst hq
     refine tr_ ?_
     have h := hout5
     refine blockQ_ret ?_
     refine tr_ ?_
     have hq := Option.some.inj h
     subst hq
     exact eR (by kernel_rfl) (by kernel_rfl)
    ·replace h := ite_f hc9 h
     refine wc_ (cS [.k [0, 1, 7, 8] []] (by kernel_rfl) (by kernel_rfl)) (ws_ ?_)
     refine bn_ ?_
     refine tnU ?_
     refine rS {} [0, 1, 7, 8] [] hN (by kernel_rfl) (by kernel_rfl) ?_
     refine tnU ?_
     exact ⟨n, Nat.lt_succ_self n, (IntKind.i64.wrap (v2 + 1)), h, by kernel_rfl⟩
   ·replace h := ite_f hc6 h
    refine wc_ (cS [.k [] []] (by kernel_rfl) (by kernel_rfl)) (we_ ?_)
    refine te_ ?_
    have hq := Option.some.inj h
    subst hq
    refine te_ ?_
    have h := hout5
    refine blockQ_hit ?_
    refine tnU ?_
    exact ⟨h, by kernel_rfl⟩
 ·rintro _ ⟨h, rfl⟩
  unfold slices_IndexFunc_string_string_m0.j1 at h
  refine sq_ ?_
  refine rS {} [4] [] hN (by kernel_rfl) (by kernel_rfl) ?_
  refine tnU ?_
  refine wr_ ?_
  have hq := Option.some.inj h
  subst hq
  exact eR (by kernel_rfl) (by kernel_rfl)

theorem slices_ContainsFunc_string_string_m0.ok (O : Out) (hO : GOk O) (k : Nat) (a0 : List (List UInt8)) (out : Bool) (h : slices_ContainsFunc_string_string_m0.f k a0 = some out) : COk Un O Tryz.prog 46 { ar := [.p (.list .str) a0, .clo 84 []], r := .p .bool out } := by
 refine cok_of_wp Tryz.func46 rfl (k := 9) rfl (Nat.le_of_ble_eq_true rfl) (namesOk_pure rfl rfl rfl rfl) ?_
 intro B hN
 refine ckS (b := ⟨[(0, .p (.list .str) a0), (1, .clo 84 [])], []⟩) [0, 1] [] (by kernel_rfl) ?_
 unfold slices_ContainsFunc_string_string_m0.f at h
 refine sq_ ?_
 refine rS {} [0, 1] [] hN (by kernel_rfl) (by kernel_rfl) ?_
 refine tnS ?_
 obtain ⟨v1, hv1, h⟩ := bind_some h
 refine rS { its := [(2, .c (slices_IndexFunc_string_string_m0.ok O hO k a0 v1 hv1))] } [4] [] hN (by kernel_rfl) (by kernel_rfl) ?_
 refine tnU ?_
 refine wr_ ?_
 have hq := Option.some.inj h
 subst hq
 exact eR (by kernel_rfl) (by kernel_rfl)

theorem env_Check.ok (O : Out) (hO : GOk O) (k : Nat) (a0 : TR14V) (out : Nat) (h : env_Check.f k a0 = some out) : COk Un O Tryz.prog 65 { ar := [.p (.named 3) a0], r := .p .err out } := by
 refine cok_of_wp Tryz.func65 rfl (k := 32) rfl (Nat.le_of_ble_eq_true rfl) (namesOk_pure rfl rfl rfl rfl) ?_
 intro B hN
 refine ckS (b := ⟨[(0, .p (.named 3) a0)], []⟩) [0] [] (by kernel_rfl) ?_
 unfold env_Check.f at h
 refine sq_ ?_
 refine rS {} [1] [1] hN (by kernel_rfl) (by kernel_rfl) ?_
 refine tnS ?_
 refine rS {} [1, 3] [1] hN (by kernel_rfl) (by kernel_rfl) ?_
 refine tnU ?_
 refine sqJ (fun st' => env_Check.j1 k = some out ∧ st' = ⟨[], []⟩) ?_ ?_
 ·refine wb_ ?_
  refine sq_ ?_
  obtain ⟨v2, hv2, h⟩ := bind_some h
  refine rS { its := [(2, .c (lex_Name.ok O hO k a0.fN v2 hv2))] } [1, 3, 4] [1] hN (by kernel_rfl) (by kernel_rfl) ?_
  refine tnU ?_
  refine tS (b := (!v2)) (by kernel_rfl) (fun hc3 => ?_) (fun hc3 => ?_)
  ·replace h := ite_t hc3 h
   refine sq_ ?_
   refine rS { its := [(0, .e 0 (u9_ (t := .err) (rs := []) rfl rfl ty_30 rfl rfl (hO.var 3 4 rfl) (fun S w => .err 3)))] } [2] [] hN (by kernel_rfl) (by kernel_rfl) ?_
   refine tnU ?_
   refine wr_ ?_
   refine blockQ_ret ?_
   refine tr_ ?_
   have hq := Option.some.inj h
   subst hq
   exact eR (by kernel_rfl) (by kernel_rfl)
  ·replace h := ite_f hc3 h
   refine sqJ (fun st' => ∃ v4 : Bool, env_Check.j9 k a0 v4 = some out ∧ st' = ⟨[(1, .loc 1 0), (3, .clo 84 []), (10, .p .bool v4)], [(1, .box [.p .str a0.fN, .p (.list .str) a0.f_Words, .p I6 a0.f_Level, .p .bool a0.f_Hidden])]⟩) ?_ ?_
   ·rcases bool_cases (decide (a0.f_Level < 0)) with hc10 | hc10
    ·replace h := ite_t hc10 h
     refine rS { kn := [(14, .t hc10)] } [1, 3, 10] [1] hN (by kernel_rfl) (by kernel_rfl) ?_
     refine tnU ?_
     exact ⟨true, h, by kernel_rfl⟩
    ·replace h := ite_f hc10 h
     refine rS { kn := [(14, .f hc10)] } [1, 3, 10] [1] hN (by kernel_rfl) (by kernel_rfl) ?_
     refine tnU ?_
     exact ⟨(decide (a0.f_Level > 2)), h, by kernel_rfl⟩
   ·rintro _ ⟨v4, h, rfl⟩
    unfold env_Check.j9 at h
    refine tS (b := v4) (by kernel_rfl) (fun hc5 => ?_) (fun hc5 => ?_)
    ·replace h := ite_t hc5 h
     refine sq_ ?_
     refine rS { its := [(0, .e 0 (u9_ (t := .err) (rs := []) rfl rfl ty_30 rfl rfl (hO.var 0 1 rfl) (fun S w => .err 0)))] } [2] [] hN (by kernel_rfl) (by kernel_rfl) ?_
     refine tnU ?_
     refine wr_ ?_
     refine blockQ_ret ?_
     refine tr_ ?_
     have hq := Option.some.inj h
     subst hq
     exact eR (by kernel_rfl) (by kernel_rfl)
    ·replace h := ite_f hc5 h
     refine sq_ ?_
     refine rS {} [1, 3, 20] [1] hN (by kernel_rfl) (by kernel_rfl) ?_
     refine tnU ?_
     refine tS (b := (decide ((a0.f_Words.length : Int) > 40))) (by kernel_rfl) (fun hc6 => ?_) (fun hc6 => ?_)
     ·replace h := ite_t hc6 h
      refine sq_ ?_
      refine rS { its := [(0, .e 0 (u9_ (t := .err) (rs := []) rfl rfl ty_30 rfl rfl (hO.var 9 10 rfl) (fun S w => .err 9)))] } [2] [] hN (by kernel_rfl) (by kernel_rfl) ?_
      refine tnU ?_
      refine wr_ ?_
      refine blockQ_ret ?_
      refine tr_ ?_
      have hq := Option.some.inj h
      subst hq
      exact eR (by kernel_rfl) (by kernel_rfl)
     ·replace h := ite_f hc6 h
      refine sq_ ?_
      obtain ⟨v7, hv7, h⟩ := bind_some h
      refine rS { its := [(3, .c (slices_ContainsFunc_string_string_m0.ok O hO k a0.f_Words v7 hv7))] } [26] [] hN (by kernel_rfl) (by kernel_rfl) ?_
      refine tnU ?_
      refine tS (b := v7) (by kernel_rfl) (fun hc8 => ?_) (fun hc8 => ?_)
      ·replace h := ite_t hc8 h
       refine sq_ ?_
       refine rS { its := [(0, .e 0 (u9_ (t := .err) (rs := []) rfl rfl ty_30 rfl rfl (hO.var 1 2 rfl) (fun S w => .err 1)))] } [2] [] hN (by kernel_rfl) (by kernel_rfl) ?_
       refine tnU ?_
       refine wr_ ?_
       refine blockQ_ret ?_
       refine tr_ ?_
       have hq := Option.some.inj h
       subst hq
       exact eR (by kernel_rfl) (by kernel_rfl)
      ·replace h := ite_f hc8 h
       refine wc_ (cS [.k [] []] (by kernel_rfl) (by kernel_rfl)) (ws_ ?_)
       refine bn_ ?_
       refine tnU ?_
       exact ⟨h, by kernel_rfl⟩
 ·rintro _ ⟨h, rfl⟩
  unfold env_Check.j1 at h
  refine sq_ ?_
  refine rS {} [2] [] hN (by kernel_rfl) (by kernel_rfl) ?_
  refine tnU ?_
  refine wc_ (cS [.nE 2, .k [2] []] (by kernel_rfl) (by kernel_rfl)) (wr_ ?_)
  have hq := Option.some.inj h
  subst hq
  exact eR (by kernel_rfl) (by kernel_rfl)

theorem flags_number.ok (O : Out) (hO : GOk O) (k : Nat) (a0 : List (List UInt8)) (out : Int) (h : flags_number.f k a0 = some out) : COk Un O Tryz.prog 66 { ar := [.p (.list .str) a0], r := .p I6 out } := by
 refine cok_of_wp Tryz.func66 rfl (k := 34) rfl (Nat.le_of_ble_eq_true rfl) (namesOk_pure rfl rfl rfl rfl) ?_
 intro B hN
 refine ckS (b := ⟨[(0, .p (.list .str) a0)], []⟩) [0] [] (by kernel_rfl) ?_
 unfold flags_number.f at h
 refine sq_ ?_
 refine rS {} [0] [] hN (by kernel_rfl) (by kernel_rfl) ?_
 refine tnS ?_
 refine sq_ ?_
 refine rS {} [0, 7] [] hN (by kernel_rfl) (by kernel_rfl) ?_
 refine tnU ?_
 refine tS (b := ((a0.length : Int) != 1)) (by kernel_rfl) (fun hc1 => ?_) (fun hc1 => ?_)
 ·replace h := ite_t hc1 h
  refine sq_ ?_
  refine rS {} [2] [] hN (by kernel_rfl) (by kernel_rfl) ?_
  refine tnU ?_
  refine wr_ ?_
  refine tr_ ?_
  have hq := Option.some.inj h
  subst hq
  exact eR (by kernel_rfl) (by kernel_rfl)
 ·replace h := ite_f hc1 h
  refine wc_ (cS [.k [0] []] (by kernel_rfl) (by kernel_rfl)) (ws_ ?_)
  refine tnS ?_
  obtain ⟨v2, hv2, h⟩ := bind_some h
  obtain ⟨v3, hv3, h⟩ := bind_some h
  refine rS { its := [(1, .v .str hv2), (3, .c (pAtoi.ok O hO k v2 v3 hv3))] } [0, 3, 4] [] hN (by kernel_rfl) (by kernel_rfl) ?_
  refine tnU ?_
  refine sqJ (fun st' => flags_number.j4 k v3 = some out ∧ st' = ⟨[(3, .p I6 v3.1)], []⟩) ?_ ?_
  ·refine sqJ (fun st' => ∃ v5 : Bool, flags_number.j7 k v3 v5 = some out ∧ st' = ⟨[(3, .p I6 v3.1), (32, .p .bool v5)], []⟩) ?_ ?_
   ·rcases bool_cases (!(v3.2 == 0)) with hc8 | hc8
    ·replace h := ite_t hc8 h
     refine rA { kn := [(17, .t hc8)] } [3, 32] [] hN (by kernel_rfl) (by kernel_rfl) (by kernel_rfl) ?_
     refine tnU ?_
     exact ⟨true, h, by kernel_rfl⟩
    ·replace h := ite_f hc8 h
     rcases bool_cases (decide (v3.1 < 1)) with hc9 | hc9
     ·replace h := ite_t hc9 h
      refine rA { kn := [(17, .f hc8), (21, .t hc9)] } [3, 32] [] hN (by kernel_rfl) (by kernel_rfl) (by kernel_rfl) ?_
      refine tnU ?_
      exact ⟨true, h, by kernel_rfl⟩
     ·replace h := ite_f hc9 h
      rcases bool_cases (decide (v3.1 > 8)) with hc10 | hc10
      ·replace h := ite_t hc10 h
       refine rA { kn := [(17, .f hc8), (21, .f hc9), (25, .t hc10)] } [3, 32] [] hN (by kernel_rfl) (by kernel_rfl) (by kernel_rfl) ?_
       refine tnU ?_
       exact ⟨true, h, by kernel_rfl⟩
      ·replace h := ite_f hc10 h
       obtain ⟨v11, hv11, h⟩ := bind_some h
       obtain ⟨v12, hv12, h⟩ := bind_some h
       refine rA { its := [(12, .c (pItoa.ok O hO k v3.1 v11 hv11)), (14, .v .str hv12)], kn := [(17, .f hc8), (21, .f hc9), (25, .f hc10)] } [3, 32] [] hN (by kernel_rfl) (by kernel_rfl) (by kernel_rfl) ?_
       refine tnU ?_
       exact ⟨(!(v11 == v12)), h, by kernel_rfl⟩
   ·rintro _ ⟨v5, h, rfl⟩
    unfold flags_number.j7 at h
    refine tS (b := v5) (by kernel_rfl) (fun hc6 => ?_) (fun hc6 => ?_)
    ·replace h := ite_t hc6 h
     refine sq_ ?_
     refine rS {} [2] [] hN (by kernel_rfl) (by kernel_rfl) ?_
     refine tnU ?_
     refine wr_ ?_
     refine tr_ ?_
     have hq := Option.some.inj h
     subst hq
     exact eR (by kernel_rfl) (by kernel_rfl)
    ·replace h := ite_f hc6 h
     refine wc_ (cS [.k [3] []] (by kernel_rfl) (by kernel_rfl)) (ws_ ?_)
     refine tnU ?_
     exact ⟨h, by kernel_rfl⟩
  ·rintro _ ⟨h, rfl⟩
   unfold flags_number.j4 at h
   refine sq_ ?_
   refine rS {} [2] [] hN (by kernel_rfl) (by kernel_rfl) ?_
   refine tnU ?_
   refine wr_ ?_
   have hq := Option.some.inj h
   subst hq
   exact eR (by kernel_rfl) (by kernel_rfl)

theorem flags_reader_variable_m0.ok (O : Out) (hO : GOk O) (k : Nat) (a0 : List (List UInt8)) (a1 : Bool) (a2 : Bool) (a3 : Bool) (a4 : Bool) (a5 : Bool) (a6 : Bool) (a7 : List (List UInt8)) (a8 : List (List UInt8)) (a9 : List UInt8) (a10 : Int) (a11 : List TR14V) (a12 : List UInt8) (a13 : List UInt8) (out : Nat × Int × (List TR14V)) (h : flags_reader_variable_m0.f k a0 a1 a2 a3 a4 a5 a6 a7 a8 a9 a10 a11 a12 a13 = some out) : COk Un O Tryz.prog 54 { ar := [.loc 100000 0, .p .str a12, .p .str a13], r := .p .err out.1, bs := [(100000, .box [.p (.list .str) a0, .p .bool a1, .p .bool a2, .p .bool a3, .p .bool a4, .p .bool a5, .p .bool a6, .vec 100001 1 0 a7.length, .vec 100002 1 0 a8.length, .p .str a9, .p I6 a10, .vec 100003 4 0 a11.length]), (100001, .row 9 .str a7 false), (100002, .row 9 .str a8 false), (100003, .row 72 (.named 3) a11 false)], bs' := [(60003, .row 72 (.named 3) out.2.2 false), (100000, .box [.p (.list .str) a0, .p .bool a1, .p .bool a2, .p .bool a3, .p .bool a4, .p .bool a5, .p .bool a6, .vec 100001 1 0 a7.length, .vec 100002 1 0 a8.length, .p .str a9, .p I6 out.2.1, .vec 60003 4 0 out.2.2.length]), (100001, .row 9 .str a7 false), (100002, .row 9 .str a8 false)], nn := [60003] } := by
 refine cok_of_wp Tryz.func54 rfl (k := 52) rfl (Nat.le_of_ble_eq_true rfl) (namesOk_of (by kernel_rfl)) ?_
 intro B hN
 refine ckS (b := ⟨[(0, .loc 100000 0), (1, .p .str a12), (2, .p .str a13)], [(100000, .box [.p (.list .str) a0, .p .bool a1, .p .bool a2, .p .bool a3, .p .bool a4, .p .bool a5, .p .bool a6, .vec 100001 1 0 a7.length, .vec 100002 1 0 a8.length, .p .str a9, .p I6 a10, .vec 100003 4 0 a11.length]), (100001, .row 9 .str a7 false), (100002, .row 9 .str a8 false), (100003, .row 72 (.named 3) a11 false)]⟩) [0, 1, 2] [100000, 100001, 100002, 100003] (by kernel_rfl) ?_
 unfold flags_reader_variable_m0.f at h
 refine sq_ ?_
 refine rS {} [0, 1, 2] [100000, 100001, 100002, 100003] hN (by kernel_rfl) (by kernel_rfl) ?_
 refine tnS ?_
 obtain ⟨v1, hv1, h⟩ := bind_some h
 refine rS { its := [(1, .c (quote_Split.ok O hO k a13 v1 hv1))] } [0, 1, 7, 8] [100000, 100001, 100002, 100003] hN (by kernel_rfl) (by kernel_rfl) ?_
 refine tnS ?_
 refine sq_ ?_
 refine rS {} [0, 1, 7, 8, 18] [100000, 100001, 100002, 100003] hN (by kernel_rfl) (by kernel_rfl) ?_
 refine tnU ?_
 refine tS (b := (!(v1.2 == 0))) (by kernel_rfl) (fun hc2 => ?_) (fun hc2 => ?_)
 ·replace h := ite_t hc2 h
  refine sq_ ?_
  refine rS {} [6] [100000, 100001, 100002, 100003] hN (by kernel_rfl) (by kernel_rfl) ?_
  refine tnU ?_
  refine wc_ (cS [.rn 100003 60003, .k [6] [60003, 100000, 100001, 100002]] (by kernel_rfl) (by kernel_rfl)) (wr_ ?_)
  refine tr_ ?_
  have hq := Option.some.inj h
  subst hq
  exact eR (by kernel_rfl) (by kernel_rfl)
 ·replace h := ite_f hc2 h
  refine wc_ (cS [.k [0, 1, 7] [100000, 100001, 100002, 100003]] (by kernel_rfl) (by kernel_rfl)) (ws_ ?_)
  refine tnS ?_
  refine rS {} [0, 1, 7, 9] [9, 100000, 100001, 100002, 100003] hN (by kernel_rfl) (by kernel_rfl) ?_
  refine tnS ?_
  refine sq_ ?_
  obtain ⟨v3, hv3, h⟩ := bind_some h
  refine rS { its := [(1, .c (env_Check.ok O hO k (TR14V.mk a12 v1.1 2 false) v3 hv3))] } [0, 1, 7, 9, 10] [9, 100000, 100001, 100002, 100003] hN (by kernel_rfl) (by kernel_rfl) ?_
  refine tnS ?_
  refine rS {} [0, 1, 7, 9, 10, 26] [9, 100000, 100001, 100002, 100003] hN (by kernel_rfl) (by kernel_rfl) ?_
  refine tnU ?_
  refine tS (b := (!(v3 == 0))) (by kernel_rfl) (fun hc4 => ?_) (fun hc4 => ?_)
  ·replace h := ite_t hc4 h
   refine sq_ ?_
   refine rS {} [6] [100000, 100001, 100002, 100003] hN (by kernel_rfl) (by kernel_rfl) ?_
   refine tnU ?_
   refine wc_ (cS [.rn 100003 60003, .k [6] [60003, 100000, 100001, 100002]] (by kernel_rfl) (by kernel_rfl)) (wr_ ?_)
   refine tr_ ?_
   have hq := Option.some.inj h
   subst hq
   exact eR (by kernel_rfl) (by kernel_rfl)
  ·replace h := ite_f hc4 h
   refine wc_ (cS [.k [0, 1, 7, 9] [9, 100000, 100001, 100002, 100003]] (by kernel_rfl) (by kernel_rfl)) (ws_ ?_)
   refine tnU ?_
   refine sqJ (fun st' => ∃ v5 : Int, flags_reader_variable_m0.j7 k a0 a1 a2 a3 a4 a5 a6 a7 a8 a9 a11 a12 v1 v5 = some out ∧ st' = ⟨[(0, .loc 100000 0), (9, .loc 9 0)], [(9, .box [.p .str a12, .p (.list .str) v1.1, .p I6 (2 : Int), .p .bool false]), (100000, .box [.p (.list .str) a0, .p .bool a1, .p .bool a2, .p .bool a3, .p .bool a4, .p .bool a5, .p .bool a6, .vec 100001 1 0 a7.length, .vec 100002 1 0 a8.length, .p .str a9, .p I6 v5, .vec 100003 4 0 a11.length]), (100001, .row 9 .str a7 false), (100002, .row 9 .str a8 false), (100003, .row 72 (.named 3) a11 false)]⟩) ?_ ?_
   ·refine sq_ ?_
    refine rS {} [0, 7, 9, 29] [9, 100000, 100001, 100002, 100003] hN (by kernel_rfl) (by kernel_rfl) ?_
    refine tnU ?_
    refine tS (b := (a12 == ([78, 80, 82, 79, 67] : List UInt8))) (by kernel_rfl) (fun hc8 => ?_) (fun hc8 => ?_)
    ·replace h := ite_t hc8 h
     refine sq_ ?_
     obtain ⟨v9, hv9, h⟩ := bind_some h
     refine rS { its := [(1, .c (flags_number.ok O hO k v1.1 v9 hv9))] } [0, 9, 11] [9, 100000, 100001, 100002, 100003] hN (by kernel_rfl) (by kernel_rfl) ?_
     refine tnS ?_
     refine sq_ ?_
     refine rS {} [0, 9, 11, 33] [9, 100000, 100001, 100002, 100003] hN (by kernel_rfl) (by kernel_rfl) ?_
     refine tnU ?_
     refine tS (b := (v9 == 0)) (by kernel_rfl) (fun hc10 => ?_) (fun hc10 => ?_)
     ·replace h := ite_t hc10 h
      refine sq_ ?_
      refine rS { its := [(0, .e 0 (u9_ (t := .err) (rs := []) rfl rfl ty_30 rfl rfl (hO.var 0 1 rfl) (fun S w => .err 0)))] } [6] [100000, 100001, 100002, 100003] hN (by kernel_rfl) (by kernel_rfl) ?_
      refine tnU ?_
      refine wc_ (cS [.rn 100003 60003, .k [6] [60003, 100000, 100001, 100002]] (by kernel_rfl) (by kernel_rfl)) (wr_ ?_)
      refine tr_ ?_
      refine tr_ ?_
      have hq := Option.some.inj h
      subst hq
      exact eR (by kernel_rfl) (by kernel_rfl)
     ·replace h := ite_f hc10 h
      refine wc_ (cS [.k [0, 9, 11] [9, 100000, 100001, 100002, 100003]] (by kernel_rfl) (by kernel_rfl)) (ws_ ?_)
      refine tnU ?_
      refine rS {} [0, 9] [9, 100000, 100001, 100002, 100003] hN (by kernel_rfl) (by kernel_rfl) ?_
      refine tnU ?_
      exact ⟨v9, h, by kernel_rfl⟩
    ·replace h := ite_f hc8 h
     refine wc_ (cS [.k [0, 9] [9, 100000, 100001, 100002, 100003]] (by kernel_rfl) (by kernel_rfl)) (ws_ ?_)
     refine tnU ?_
     exact ⟨a10, h, by kernel_rfl⟩
   ·rintro _ ⟨v5, h, rfl⟩
    unfold flags_reader_variable_m0.j7 at h
    refine sq_ ?_
    obtain ⟨g6, h⟩ := if_some h
    refine rA { its := [(8, .g g6)] } [] [48, 100000, 100001, 100002] hN (by kernel_rfl) (by kernel_rfl) (by kernel_rfl) ?_
    refine tnS ?_
    refine rS {} [6] [48, 100000, 100001, 100002] hN (by kernel_rfl) (by kernel_rfl) ?_
    refine tnU ?_
    refine wc_ (cS [.nE 6, .k [6] [48, 100000, 100001, 100002], .rn 48 60003, .k [6] [60003, 100000, 100001, 100002]] (by kernel_rfl) (by kernel_rfl)) (wr_ ?_)
    have hq := Option.some.inj h
    subst hq
    exact eR (by kernel_rfl) (by kernel_rfl)

theorem flags_reader_goal_m0.ok (O : Out) (hO : GOk O) (k : Nat) (a0 : List (List UInt8)) (a1 : Bool) (a2 : Bool) (a3 : Bool) (a4 : Bool) (a5 : Bool) (a6 : Bool) (a7 : List (List UInt8)) (a8 : List (List UInt8)) (a9 : List UInt8) (a10 : Int) (a11 : List TR14V) (a12 : List UInt8) (out : Nat × (List (List UInt8))) (h : flags_reader_goal_m0.f k a0 a1 a2 a3 a4 a5 a6 a7 a8 a9 a10 a11 a12 = some out) : COk Un O Tryz.prog 55 { ar := [.loc 100000 0, .p .str a12], r := .p .err out.1, bs := [(100000, .box [.p (.list .str) a0, .p .bool a1, .p .bool a2, .p .bool a3, .p .bool a4, .p .bool a5, .p .bool a6, .vec 100001 1 0 a7.length, .vec 100002 1 0 a8.length, .p .str a9, .p I6 a10, .vec 100003 4 0 a11.length]), (100001, .row 9 .str a7 false), (100002, .row 9 .str a8 false), (100003, .row 72 (.named 3) a11 false)], bs' := [(60002, .row 9 .str out.2 false), (100000, .box [.p (.list .str) a0, .p .bool a1, .p .bool a2, .p .bool a3, .p .bool a4, .p .bool a5, .p .bool a6, .vec 100001 1 0 a7.length, .vec 60002 1 0 out.2.length, .p .str a9, .p I6 a10, .vec 100003 4 0 a11.length]), (100001, .row 9 .str a7 false), (100003, .row 72 (.named 3) a11 false)], nn := [60002] } := by
 refine cok_of_wp Tryz.func55 rfl (k := 21) rfl (Nat.le_of_ble_eq_true rfl) (namesOk_of (by kernel_rfl)) ?_
 intro B hN
 refine ckS (b := ⟨[(0, .loc 100000 0), (1, .p .str a12)], [(100000, .box [.p (.list .str) a0, .p .bool a1, .p .bool a2, .p .bool a3, .p .bool a4, .p .bool a5, .p .bool a6, .vec 100001 1 0 a7.length, .vec 100002 1 0 a8.length, .p .str a9, .p I6 a10, .vec 100003 4 0 a11.length]), (100001, .row 9 .str a7 false), (100002, .row 9 .str a8 false), (100003, .row 72 (.named 3) a11 false)]⟩) [0, 1] [100000, 100001, 100002, 100003] (by kernel_rfl) ?_
 unfold flags_reader_goal_m0.f at h
 refine sq_ ?_
 refine rS {} [0, 1] [100000, 100001, 100002, 100003] hN (by kernel_rfl) (by kernel_rfl) ?_
 refine tnS ?_
 refine sq_ ?_
 obtain ⟨v1, hv1, h⟩ := bind_some h
 refine rS { its := [(1, .c (names_Right.ok O hO k a12 v1 hv1))] } [0, 1, 7] [100000, 100001, 100002, 100003] hN (by kernel_rfl) (by kernel_rfl) ?_
 refine tnU ?_
 refine tS (b := (!v1)) (by kernel_rfl) (fun hc2 => ?_) (fun hc2 => ?_)
 ·replace h := ite_t hc2 h
  refine sq_ ?_
  refine rS { its := [(0, .e 0 (u9_ (t := .err) (rs := []) rfl rfl ty_30 rfl rfl (hO.var 3 4 rfl) (fun S w => .err 3)))] } [4] [100000, 100001, 100002, 100003] hN (by kernel_rfl) (by kernel_rfl) ?_
  refine tnU ?_
  refine wc_ (cS [.rn 100002 60002, .k [4] [60002, 100000, 100001, 100003]] (by kernel_rfl) (by kernel_rfl)) (wr_ ?_)
  refine tr_ ?_
  have hq := Option.some.inj h
  subst hq
  exact eR (by kernel_rfl) (by kernel_rfl)
 ·replace h := ite_f hc2 h
  refine wc_ (cS [.k [0, 1] [100000, 100001, 100002, 100003]] (by kernel_rfl) (by kernel_rfl)) (ws_ ?_)
  refine tnS ?_
  obtain ⟨g3, h⟩ := if_some h
  refine rS { its := [(8, .g g3)] } [] [17, 100000, 100001, 100003] hN (by kernel_rfl) (by kernel_rfl) ?_
  refine tnS ?_
  refine rS {} [4] [17, 100000, 100001, 100003] hN (by kernel_rfl) (by kernel_rfl) ?_
  refine tnU ?_
  refine wc_ (cS [.nE 4, .k [4] [17, 100000, 100001, 100003], .rn 17 60002, .k [4] [60002, 100000, 100001, 100003]] (by kernel_rfl) (by kernel_rfl)) (wr_ ?_)
  have hq := Option.some.inj h
  subst hq
  exact eR (by kernel_rfl) (by kernel_rfl)

theorem flags_reader_one_m0.ok (O : Out) (hO : GOk O) (k : Nat) (a0 : List (List UInt8)) (a1 : Bool) (a2 : Bool) (a3 : Bool) (a4 : Bool) (a5 : Bool) (a6 : Bool) (a7 : List (List UInt8)) (a8 : List (List UInt8)) (a9 : List UInt8) (a10 : Int) (a11 : List TR14V) (a12 : List UInt8) (out : Nat × (List (List UInt8)) × Bool × Bool × Bool × Bool × Bool × Bool × (List (List UInt8)) × (List (List UInt8)) × (List UInt8) × Int × (List TR14V)) (h : flags_reader_one_m0.f k a0 a1 a2 a3 a4 a5 a6 a7 a8 a9 a10 a11 a12 = some out) : COk Un O Tryz.prog 23 { ar := [.loc 100000 0, .p .str a12], r := .p .err out.1, bs := [(100000, .box [.p (.list .str) a0, .p .bool a1, .p .bool a2, .p .bool a3, .p .bool a4, .p .bool a5, .p .bool a6, .vec 100001 1 0 a7.length, .vec 100002 1 0 a8.length, .p .str a9, .p I6 a10, .vec 100003 4 0 a11.length]), (100001, .row 9 .str a7 false), (100002, .row 9 .str a8 false), (100003, .row 72 (.named 3) a11 false)], bs' := [(60001, .row 9 .str out.2.2.2.2.2.2.2.2.1 false), (60002, .row 9 .str out.2.2.2.2.2.2.2.2.2.1 false), (60003, .row 72 (.named 3) out.2.2.2.2.2.2.2.2.2.2.2.2 false), (100000, .box [.p (.list .str) out.2.1, .p .bool out.2.2.1, .p .bool out.2.2.2.1, .p .bool out.2.2.2.2.1, .p .bool out.2.2.2.2.2.1, .p .bool out.2.2.2.2.2.2.1, .p .bool out.2.2.2.2.2.2.2.1, .vec 60001 1 0 out.2.2.2.2.2.2.2.2.1.length, .vec 60002 1 0 out.2.2.2.2.2.2.2.2.2.1.length, .p .str out.2.2.2.2.2.2.2.2.2.2.1, .p I6 out.2.2.2.2.2.2.2.2.2.2.2.1, .vec 60003 4 0 out.2.2.2.2.2.2.2.2.2.2.2.2.length])], nn := [60001, 60002, 60003] } := by
 refine cok_of_wp Tryz.func23 rfl (k := 37) rfl (Nat.le_of_ble_eq_true rfl) (namesOk_of (by kernel_rfl)) ?_
 intro B hN
 refine ckS (b := ⟨[(0, .loc 100000 0), (1, .p .str a12)], [(100000, .box [.p (.list .str) a0, .p .bool a1, .p .bool a2, .p .bool a3, .p .bool a4, .p .bool a5, .p .bool a6, .vec 100001 1 0 a7.length, .vec 100002 1 0 a8.length, .p .str a9, .p I6 a10, .vec 100003 4 0 a11.length]), (100001, .row 9 .str a7 false), (100002, .row 9 .str a8 false), (100003, .row 72 (.named 3) a11 false)]⟩) [0, 1] [100000, 100001, 100002, 100003] (by kernel_rfl) ?_
 unfold flags_reader_one_m0.f at h
 refine sq_ ?_
 refine rS {} [0, 1] [100000, 100001, 100002, 100003] hN (by kernel_rfl) (by kernel_rfl) ?_
 refine tnS ?_
 refine sq_ ?_
 obtain ⟨v1, hv1, h⟩ := bind_some h
 refine rS { its := [(1, .c (strings_CutPrefix.ok O hO k a12 ([45] : List UInt8) v1 hv1))] } [0, 1, 5, 6] [100000, 100001, 100002, 100003] hN (by kernel_rfl) (by kernel_rfl) ?_
 refine tnS ?_
 refine rS {} [0, 1, 5, 15] [100000, 100001, 100002, 100003] hN (by kernel_rfl) (by kernel_rfl) ?_
 refine tnU ?_
 refine tS (b := v1.2) (by kernel_rfl) (fun hc2 => ?_) (fun hc2 => ?_)
 ·replace h := ite_t hc2 h
  refine sq_ ?_
  obtain ⟨v3, hv3, h⟩ := bind_some h
  refine rS { its := [(2, .c (COk.ren (flags_reader_flags_m0.ok O hO k a0 a1 a2 a3 a4 a5 a6 a7 a8 a9 a10 a11 v1.1 v3 hv3) (fun n => if n = 60001 then 10001 else if n = 100000 then 100000 else if n = 100001 then 100001 else if n = 100002 then 100002 else if n = 100003 then 100003 else n) (injOn_of (by kernel_rfl))))] } [4] [10001, 100000, 100002, 100003] hN (by kernel_rfl) (by kernel_rfl) ?_
  refine tnU ?_
  refine wc_ (cS [.rn 10001 60001, .k [4] [60001, 100000, 100002, 100003], .rn 100002 60002, .k [4] [60001, 60002, 100000, 100003], .rn 100003 60003, .k [4] [60001, 60002, 60003, 100000]] (by kernel_rfl) (by kernel_rfl)) (wr_ ?_)
  refine tr_ ?_
  have hq := Option.some.inj h
  subst hq
  exact eR (by kernel_rfl) (by kernel_rfl)
 ·replace h := ite_f hc2 h
  refine wc_ (cS [.k [0, 1] [100000, 100001, 100002, 100003]] (by kernel_rfl) (by kernel_rfl)) (ws_ ?_)
  refine tnU ?_
  refine sqJ (fun st' => flags_reader_one_m0.j5 k a0 a1 a2 a3 a4 a5 a6 a7 a8 a9 a10 a11 a12 = some out ∧ st' = ⟨[(0, .loc 100000 0), (1, .p .str a12)], [(100000, .box [.p (.list .str) a0, .p .bool a1, .p .bool a2, .p .bool a3, .p .bool a4, .p .bool a5, .p .bool a6, .vec 100001 1 0 a7.length, .vec 100002 1 0 a8.length, .p .str a9, .p I6 a10, .vec 100003 4 0 a11.length]), (100001, .row 9 .str a7 false), (100002, .row 9 .str a8 false), (100003, .row 72 (.named 3) a11 false)]⟩) ?_ ?_
  ·refine sq_ ?_
   obtain ⟨v6, hv6, h⟩ := bind_some h
   refine rS { its := [(1, .c (strings_Cut.ok O hO k a12 ([61] : List UInt8) v6 hv6))] } [0, 1, 7, 8, 9] [100000, 100001, 100002, 100003] hN (by kernel_rfl) (by kernel_rfl) ?_
   refine tnU ?_
   refine sqJ (fun st' => ∃ v7 : Bool, flags_reader_one_m0.j10 k a0 a1 a2 a3 a4 a5 a6 a7 a8 a9 a10 a11 a12 v6 v7 = some out ∧ st' = ⟨[(0, .loc 100000 0), (1, .p .str a12), (7, .p .str v6.1), (8, .p .str v6.2.1), (29, .p .bool v7)], [(100000, .box [.p (.list .str) a0, .p .bool a1, .p .bool a2, .p .bool a3, .p .bool a4, .p .bool a5, .p .bool a6, .vec 100001 1 0 a7.length, .vec 100002 1 0 a8.length, .p .str a9, .p I6 a10, .vec 100003 4 0 a11.length]), (100001, .row 9 .str a7 false), (100002, .row 9 .str a8 false), (100003, .row 72 (.named 3) a11 false)]⟩) ?_ ?_
   ·rcases bool_cases v6.2.2 with hc11 | hc11
    ·replace h := ite_t hc11 h
     obtain ⟨v12, hv12, h⟩ := bind_some h
     refine rS { its := [(3, .c (lex_Name.ok O hO k v6.1 v12 hv12))], kn := [(26, .t hc11)] } [0, 1, 7, 8, 29] [100000, 100001, 100002, 100003] hN (by kernel_rfl) (by kernel_rfl) ?_
     refine tnU ?_
     exact ⟨v12, h, by kernel_rfl⟩
    ·replace h := ite_f hc11 h
     refine rS { kn := [(26, .f hc11)] } [0, 1, 7, 8, 29] [100000, 100001, 100002, 100003] hN (by kernel_rfl) (by kernel_rfl) ?_
     refine tnU ?_
     exact ⟨false, h, by kernel_rfl⟩
   ·rintro _ ⟨v7, h, rfl⟩
    unfold flags_reader_one_m0.j10 at h
    refine tS (b := v7) (by kernel_rfl) (fun hc8 => ?_) (fun hc8 => ?_)
    ·replace h := ite_t hc8 h
     refine sq_ ?_
     obtain ⟨v9, hv9, h⟩ := bind_some h
     refine rS { its := [(3, .c (COk.ren (flags_reader_variable_m0.ok O hO k a0 a1 a2 a3 a4 a5 a6 a7 a8 a9 a10 a11 v6.1 v6.2.1 v9 hv9) (fun n => if n = 60003 then 10003 else if n = 100000 then 100000 else if n = 100001 then 100001 else if n = 100002 then 100002 else if n = 100003 then 100003 else n) (injOn_of (by kernel_rfl))))] } [4] [10003, 100000, 100001, 100002] hN (by kernel_rfl) (by kernel_rfl) ?_
     refine tnU ?_
     refine wc_ (cS [.rn 100001 60001, .k [4] [10003, 60001, 100000, 100002], .rn 100002 60002, .k [4] [10003, 60001, 60002, 100000], .rn 10003 60003, .k [4] [60001, 60002, 60003, 100000]] (by kernel_rfl) (by kernel_rfl)) (wr_ ?_)
     refine tr_ ?_
     have hq := Option.some.inj h
     subst hq
     exact eR (by kernel_rfl) (by kernel_rfl)
    ·replace h := ite_f hc8 h
     refine wc_ (cS [.k [0, 1] [100000, 100001, 100002, 100003]] (by kernel_rfl) (by kernel_rfl)) (ws_ ?_)
     refine tnU ?_
     exact ⟨h, by kernel_rfl⟩
  ·rintro _ ⟨h, rfl⟩
   unfold flags_reader_one_m0.j5 at h
   refine sq_ ?_
   obtain ⟨v4, hv4, h⟩ := bind_some h
   refine rS { its := [(2, .c (COk.ren (flags_reader_goal_m0.ok O hO k a0 a1 a2 a3 a4 a5 a6 a7 a8 a9 a10 a11 a12 v4 hv4) (fun n => if n = 60002 then 10002 else if n = 100000 then 100000 else if n = 100001 then 100001 else if n = 100002 then 100002 else if n = 100003 then 100003 else n) (injOn_of (by kernel_rfl))))] } [4] [10002, 100000, 100001, 100003] hN (by kernel_rfl) (by kernel_rfl) ?_
   refine tnU ?_
   refine wc_ (cS [.rn 100001 60001, .k [4] [10002, 60001, 100000, 100003], .rn 10002 60002, .k [4] [60001, 60002, 100000, 100003], .rn 100003 60003, .k [4] [60001, 60002, 60003, 100000]] (by kernel_rfl) (by kernel_rfl)) (wr_ ?_)
   have hq := Option.some.inj h
   subst hq
   exact eR (by kernel_rfl) (by kernel_rfl)

theorem flags_Parse.ok (O : Out) (hO : GOk O) (k : Nat) (a0 : List (List UInt8)) (out : T_flags_Options × Nat) (h : flags_Parse.f k a0 = some out) : COk Un O Tryz.prog 9 { ar := [.p (.list .str) a0], r := .tup [.p (.named 4) out.1, .p .err out.2] } := by
 refine cok_of_wp Tryz.func9 rfl (k := 34) rfl (Nat.le_of_ble_eq_true rfl) (namesOk_pure rfl rfl rfl rfl) ?_
 intro B hN
 refine ckS (b := ⟨[(0, .p (.list .str) a0)], []⟩) [0] [] (by kernel_rfl) ?_
 unfold flags_Parse.f at h
 refine sq_ ?_
 refine rS { th := [(0, [(6, 10001, 9, .str), (7, 10002, 9, .str), (10, 10003, 72, .named 3)])] } [0, 2] [2, 10001, 10002, 10003] hN (by kernel_rfl) (by kernel_rfl) ?_
 refine tnS ?_
 refine rS { th := [(3, [(7, 10004, 9, .str), (8, 10005, 9, .str), (11, 10006, 72, .named 3)])] } [2, 4] [2, 11, 10001, 10002, 10003, 10004, 10005, 10006] hN (by kernel_rfl) (by kernel_rfl) ?_
 refine tnU ?_
 refine sqJ (fun st' => ∃ v1 : List (List UInt8), ∃ v2 : Bool, ∃ v3 : Bool, ∃ v4 : Bool, ∃ v5 : Bool, ∃ v6 : Bool, ∃ v7 : Bool, ∃ v8 : List (List UInt8), ∃ v9 : List (List UInt8), ∃ v10 : List UInt8, ∃ v11 : Int, ∃ v12 : List TR14V, flags_Parse.j13 k v1 v2 v3 v4 v5 v6 v7 v8 v9 v10 v11 v12 = some out ∧ st' = ⟨[(2, .loc 2 0), (4, .loc 11 0)], [(2, .box [.p .bool false, .p .bool false, .p .bool false, .p .bool false, .p .bool false, .p .bool false, .vec 10001 1 0 0, .vec 10002 1 0 0, .p .str ([] : List UInt8), .p I6 (0 : Int), .vec 10003 4 0 0]), (11, .box [.p (.list .str) v1, .p .bool v2, .p .bool v3, .p .bool v4, .p .bool v5, .p .bool v6, .p .bool v7, .vec 62711 1 0 v8.length, .vec 62712 1 0 v9.length, .p .str v10, .p I6 v11, .vec 62715 4 0 v12.length]), (10001, .row 9 .str [] false), (10002, .row 9 .str [] false), (10003, .row 72 (.named 3) [] false), (62711, .row 9 .str v8 false), (62712, .row 9 .str v9 false), (62715, .row 72 (.named 3) v12 false)]⟩) ?_ ?_
 ·refine sq_ ?_
  obtain ⟨v14, hv14, h⟩ := bind_some h
  refine rSC { its := [(1, .c (COk.ren (flags_reader_next_m0.ok O hO k a0 false false false false false false [] [] ([109, 107, 102, 105, 108, 101] : List UInt8) 1 [] v14 hv14) (fun n => if n = 100000 then 11 else if n = 100001 then 10004 else if n = 100002 then 10005 else if n = 100003 then 10006 else n) (injOn_of (by kernel_rfl))))] } [2, 4, 5, 6] [2, 11, 10001, 10002, 10003, 10004, 10005, 10006] hN (by kernel_rfl) (by kernel_rfl) (cS [.k [2, 4, 5, 6] [2, 11, 10001, 10002, 10003, 10004, 10005, 10006], .x (u0_ (st := ⟨[(2, .loc 2 0), (4, .loc 11 0), (5, .p .str v14.1), (6, .p .bool v14.2.1)], [(2, .box [.p .bool false, .p .bool false, .p .bool false, .p .bool false, .p .bool false, .p .bool false, .vec 10001 1 0 0, .vec 10002 1 0 0, .p .str ([] : List UInt8), .p I6 (0 : Int), .vec 10003 4 0 0]), (11, .box [.p (.list .str) v14.2.2, .p .bool false, .p .bool false, .p .bool false, .p .bool false, .p .bool false, .p .bool false, .vec 10004 1 0 0, .vec 10005 1 0 0, .p .str (([109, 107, 102, 105, 108, 101] : List UInt8) : List UInt8), .p I6 (1 : Int), .vec 10006 4 0 0]), (10001, .row 9 .str [] false), (10002, .row 9 .str [] false), (10003, .row 72 (.named 3) [] false), (10004, .row 9 .str [] false), (10005, .row 9 .str [] false), (10006, .row 72 (.named 3) [] false)]⟩) (st' := ⟨[(2, .loc 2 0), (4, .loc 11 0), (5, .p .str v14.1), (6, .p .bool v14.2.1)], [(2, .box [.p .bool false, .p .bool false, .p .bool false, .p .bool false, .p .bool false, .p .bool false, .vec 10001 1 0 0, .vec 10002 1 0 0, .p .str ([] : List UInt8), .p I6 (0 : Int), .vec 10003 4 0 0]), (11, .box [.p (.list .str) v14.2.2, .p .bool false, .p .bool false, .p .bool false, .p .bool false, .p .bool false, .p .bool false, .vec 10004 1 0 0, .vec 10005 1 0 0, .p .str (([109, 107, 102, 105, 108, 101] : List UInt8) : List UInt8), .p I6 (1 : Int), .vec 10006 4 0 0]), (10001, .row 9 .str [] false), (10002, .row 9 .str [] false), (10003, .row 72 (.named 3) [] false), (10004, .row 9 .str [] false), (10005, .row 9 .str [] false), (10006, .row 72 (.named 3) [] false)]⟩) (by simp only [upd_length, List.length_nil, List.length_replicate]))] (by kernel_rfl) (by kernel_rfl)) ?_
  refine tnU ?_
  refine wb_ ?_
  obtain ⟨o42, hlo42, h⟩ := bind_some h
  have hout43 := h
  clear h
  refine wc_ (cS [.rn 10004 62711, .k [2, 4, 5, 6] [2, 11, 10001, 10002, 10003, 10005, 10006, 62711], .rn 10005 62712, .k [2, 4, 5, 6] [2, 11, 10001, 10002, 10003, 10006, 62711, 62712], .rn 10006 62715, .k [2, 4, 5, 6] [2, 11, 10001, 10002, 10003, 62711, 62712, 62715]] (by kernel_rfl) (by kernel_rfl)) ?_
  refine u1_ (fun n st' => ∃ v15 : List (List UInt8), ∃ v16 : Bool, ∃ v17 : Bool, ∃ v18 : Bool, ∃ v19 : Bool, ∃ v20 : Bool, ∃ v21 : Bool, ∃ v22 : List (List UInt8), ∃ v23 : List (List UInt8), ∃ v24 : List UInt8, ∃ v25 : Int, ∃ v26 : List TR14V, ∃ v27 : List UInt8, ∃ v28 : Bool, flags_Parse.l29 k n v15 v16 v17 v18 v19 v20 v21 v22 v23 v24 v25 v26 v27 v28 = some o42 ∧ st' = ⟨[(2, .loc 2 0), (4, .loc 11 0), (5, .p .str v27), (6, .p .bool v28)], [(2, .box [.p .bool false, .p .bool false, .p .bool false, .p .bool false, .p .bool false, .p .bool false, .vec 10001 1 0 0, .vec 10002 1 0 0, .p .str ([] : List UInt8), .p I6 (0 : Int), .vec 10003 4 0 0]), (11, .box [.p (.list .str) v15, .p .bool v16, .p .bool v17, .p .bool v18, .p .bool v19, .p .bool v20, .p .bool v21, .vec 62711 1 0 v22.length, .vec 62712 1 0 v23.length, .p .str v24, .p I6 v25, .vec 62715 4 0 v26.length]), (10001, .row 9 .str [] false), (10002, .row 9 .str [] false), (10003, .row 72 (.named 3) [] false), (62711, .row 9 .str v22 false), (62712, .row 9 .str v23 false), (62715, .row 72 (.named 3) v26 false)]⟩) k ⟨v14.2.2, false, false, false, false, false, false, [], [], ([109, 107, 102, 105, 108, 101] : List UInt8), 1, [], v14.1, v14.2.1, hlo42, by kernel_rfl⟩ ?_
  clear hlo42
  rintro (_ | n) _ ⟨v15, v16, v17, v18, v19, v20, v21, v22, v23, v24, v25, v26, v27, v28, h, rfl⟩
  ·cases h
  ·rw [flags_Parse.l29] at h
   refine sq_ ?_
   refine sq_ ?_
   refine rS {} [2, 4, 5, 17] [2, 11, 10001, 10002, 10003, 62711, 62712, 62715] hN (by kernel_rfl) (by kernel_rfl) ?_
   refine tnU ?_
   refine tS (b := v28) (by kernel_rfl) (fun hc44 => ?_) (fun hc44 => ?_)
   ·replace h := ite_t hc44 h
    refine wc_ (cS [.k [2, 4, 5] [2, 11, 10001, 10002, 10003, 62711, 62712, 62715]] (by kernel_rfl) (by kernel_rfl)) (ws_ ?_)
    refine tnS ?_
    refine wb_ ?_
    refine sq_ ?_
    obtain ⟨v45, hv45, h⟩ := bind_some h
    refine rS { its := [(2, .c (COk.ren (flags_reader_one_m0.ok O hO k v15 v16 v17 v18 v19 v20 v21 v22 v23 v24 v25 v26 v27 v45 hv45) (fun n => if n = 60001 then 10007 else if n = 60002 then 10008 else if n = 60003 then 10009 else if n = 100000 then 11 else if n = 100001 then 62711 else if n = 100002 then 62712 else if n = 100003 then 62715 else n) (injOn_of (by kernel_rfl))))] } [2, 4, 7] [2, 11, 10001, 10002, 10003, 10007, 10008, 10009] hN (by kernel_rfl) (by kernel_rfl) ?_
    refine tnS ?_
    refine rS {} [2, 4, 7, 27] [2, 11, 10001, 10002, 10003, 10007, 10008, 10009] hN (by kernel_rfl) (by kernel_rfl) ?_
    refine tnU ?_
    refine tS (b := (!(v45.1 == 0))) (by kernel_rfl) (fun hc46 => ?_) (fun hc46 => ?_)
    ·replace h := ite_t hc46 h
     refine sq_ ?_
     refine rS { th := [(2, [(6, 10010, 9, .str), (7, 10011, 9, .str), (10, 10012, 72, .named 3)])] } [2, 3] [2, 10010, 10011, 10012] hN (by kernel_rfl) (by kernel_rfl) ?_
     refine tnU ?_
     refine wc_ (cS [.uh 2 6 (show ((0) : Nat) = (0) from (by first | rfl | (simp only [upd_length, List.length_replicate, List.length_append]; done) | (simp only [upd_length, List.length_replicate, List.length_append] at *; omega) | omega)), .k [2, 3] [2, 10011, 10012], .uh 2 7 (show ((0) : Nat) = (0) from (by first | rfl | (simp only [upd_length, List.length_replicate, List.length_append]; done) | (simp only [upd_length, List.length_replicate, List.length_append] at *; omega) | omega)), .k [2, 3] [2, 10012], .uh 2 10 (show ((0) : Nat) = (0) from (by first | rfl | (simp only [upd_length, List.length_replicate, List.length_append]; done) | (simp only [upd_length, List.length_replicate, List.length_append] at *; omega) | omega)), .k [2, 3] [2]] (by kernel_rfl) (by kernel_rfl)) (wr_ ?_)
     refine blockQ_ret ?_
     refine tr_ ?_
     have hq := Option.some.inj h
     subst hq
     refine tr_ ?_
     have h := hout43
     refine blockQ_ret ?_
     refine tr_ ?_
     have hq := Option.some.inj h
     subst hq
     exact eR (by kernel_rfl) (by kernel_rfl)
    ·replace h := ite_f hc46 h
     refine wc_ (cS [.k [2, 4] [2, 11, 10001, 10002, 10003, 10007, 10008, 10009]] (by kernel_rfl) (by kernel_rfl)) (ws_ ?_)
     refine bn_ ?_
     refine tnU ?_
     obtain ⟨v47, hv47, h⟩ := bind_some h
     refine rSC { its := [(1, .c (COk.ren (flags_reader_next_m0.ok O hO k v45.2.1 v45.2.2.1 v45.2.2.2.1 v45.2.2.2.2.1 v45.2.2.2.2.2.1 v45.2.2.2.2.2.2.1 v45.2.2.2.2.2.2.2.1 v45.2.2.2.2.2.2.2.2.1 v45.2.2.2.2.2.2.2.2.2.1 v45.2.2.2.2.2.2.2.2.2.2.1 v45.2.2.2.2.2.2.2.2.2.2.2.1 v45.2.2.2.2.2.2.2.2.2.2.2.2 v47 hv47) (fun n => if n = 100000 then 11 else if n = 100001 then 10007 else if n = 100002 then 10008 else if n = 100003 then 10009 else n) (injOn_of (by kernel_rfl))))] } [2, 4, 5, 6] [2, 11, 10001, 10002, 10003, 10007, 10008, 10009] hN (by kernel_rfl) (by kernel_rfl) (cS [.rn 10007 62711, .k [2, 4, 5, 6] [2, 11, 10001, 10002, 10003, 10008, 10009, 62711], .rn 10008 62712, .k [2, 4, 5, 6] [2, 11, 10001, 10002, 10003, 10009, 62711, 62712], .rn 10009 62715, .k [2, 4, 5, 6] [2, 11, 10001, 10002, 10003, 62711, 62712, 62715]] (by kernel_rfl) (by kernel_rfl)) ?_
     refine tnU ?_
     exact ⟨n, Nat.lt_succ_self n, v47.2.2, v45.2.2.1, v45.2.2.2.1, v45.2.2.2.2.1, v45.2.2.2.2.2.1, v45.2.2.2.2.2.2.1, v45.2.2.2.2.2.2.2.1, v45.2.2.2.2.2.2.2.2.1, v45.2.2.2.2.2.2.2.2.2.1, v45.2.2.2.2.2.2.2.2.2.2.1, v45.2.2.2.2.2.2.2.2.2.2.2.1, v45.2.2.2.2.2.2.2.2.2.2.2.2, v47.1, v47.2.1, h, by kernel_rfl⟩
   ·replace h := ite_f hc44 h
    refine wc_ (cS [.k [2, 4] [2, 11, 10001, 10002, 10003, 62711, 62712, 62715]] (by kernel_rfl) (by kernel_rfl)) (we_ ?_)
    refine te_ ?_
    have hq := Option.some.inj h
    subst hq
    refine te_ ?_
    have h := hout43
    refine blockQ_hit ?_
    refine tnU ?_
    exact ⟨v15, v16, v17, v18, v19, v20, v21, v22, v23, v24, v25, v26, h, by kernel_rfl⟩
 ·rintro _ ⟨v1, v2, v3, v4, v5, v6, v7, v8, v9, v10, v11, v12, h, rfl⟩
  unfold flags_Parse.j13 at h
  refine sq_ ?_
  refine rS {} [2, 3] [2, 62711, 62712, 62715] hN (by kernel_rfl) (by kernel_rfl) ?_
  refine tnU ?_
  refine wc_ (cS [.fu 2 6, .k [2, 3] [2, 62712, 62715], .fu 2 7, .k [2, 3] [2, 62715], .fu 2 10, .k [2, 3] [2], .nE 3, .k [2, 3] [2]] (by kernel_rfl) (by kernel_rfl)) (wr_ ?_)
  have hq := Option.some.inj h
  subst hq
  exact eR (by kernel_rfl) (by kernel_rfl)

end Go.Proofs.YtcijochjfncefaaGreatDoor
