/- A part of a proof: FBC2. -/
import Derived.Test.YtcijochjfncefaaGreatDoorK44FBC1
namespace Go.Proofs.YtcijochjfncefaaGreatDoor
open Go Go.AM
set_option linter.unusedVariables false
set_option linter.unusedSimpArgs false
set_option maxRecDepth 100000
set_option maxHeartbeats 4000000
theorem W31_alive.ok (O : Out) (hO : GOk O) (k : Nat) (out : Bool) (h : W31_alive.f k = some out) : COk Un O Tryz.prog 6 { ar := [], r := .p .bool out } := by
 refine cok_of_wp Tryz.func6 rfl (k := 39) rfl (Nat.le_of_ble_eq_true rfl) (namesOk_pure rfl rfl rfl rfl) ?_
 intro B hN
 refine ckS (b := ⟨[], []⟩) [] [] (by kernel_rfl) ?_
 unfold W31_alive.f at h
 refine sq_ ?_
 refine rS {} [] [] hN (by kernel_rfl) (by kernel_rfl) ?_
 refine tnS ?_
 obtain ⟨v1, hv1, h⟩ := bind_some h
 refine rS { its := [(1, .c (flags_Parse.ok O hO k [([45, 107, 110] : List UInt8), ([78, 80, 82, 79, 67, 61, 50] : List UInt8), ([97, 108, 108] : List UInt8)] v1 hv1))], th := [(5, [(6, 10001, 9, .str), (7, 10002, 9, .str), (10, 10003, 72, .named 3)])] } [1, 2] [1] hN (by kernel_rfl) (by kernel_rfl) ?_
 refine tnS ?_
 rcases bool_cases (v1.2 == 0) with hc2 | hc2
 ·replace h := ite_t hc2 h
  rcases bool_cases v1.1.f_Keep with hc3 | hc3
  ·replace h := ite_t hc3 h
   rcases bool_cases v1.1.f_Dry with hc4 | hc4
   ·replace h := ite_t hc4 h
    rcases bool_cases (!v1.1.f_All) with hc5 | hc5
    ·replace h := ite_t hc5 h
     rcases bool_cases (v1.1.f_Nproc == 2) with hc6 | hc6
     ·replace h := ite_t hc6 h
      rcases bool_cases ((v1.1.f_Goals.length : Int) == 1) with hc7 | hc7
      ·replace h := ite_t hc7 h
       refine rS { kn := [(10, .t hc2), (14, .t hc3), (18, .t hc4), (23, .t hc5), (28, .t hc6), (34, .t hc7)] } [0] [] hN (by kernel_rfl) (by kernel_rfl) ?_
       refine tnU ?_
       refine wr_ ?_
       have hq := Option.some.inj h
       subst hq
       exact eR (by kernel_rfl) (by kernel_rfl)
      ·replace h := ite_f hc7 h
       refine rS { kn := [(10, .t hc2), (14, .t hc3), (18, .t hc4), (23, .t hc5), (28, .t hc6), (34, .f hc7)] } [0] [] hN (by kernel_rfl) (by kernel_rfl) ?_
       refine tnU ?_
       refine wr_ ?_
       have hq := Option.some.inj h
       subst hq
       exact eR (by kernel_rfl) (by kernel_rfl)
     ·replace h := ite_f hc6 h
      refine rS { kn := [(10, .t hc2), (14, .t hc3), (18, .t hc4), (23, .t hc5), (28, .f hc6)] } [0] [] hN (by kernel_rfl) (by kernel_rfl) ?_
      refine tnU ?_
      refine wr_ ?_
      have hq := Option.some.inj h
      subst hq
      exact eR (by kernel_rfl) (by kernel_rfl)
    ·replace h := ite_f hc5 h
     refine rS { kn := [(10, .t hc2), (14, .t hc3), (18, .t hc4), (23, .f hc5)] } [0] [] hN (by kernel_rfl) (by kernel_rfl) ?_
     refine tnU ?_
     refine wr_ ?_
     have hq := Option.some.inj h
     subst hq
     exact eR (by kernel_rfl) (by kernel_rfl)
   ·replace h := ite_f hc4 h
    refine rS { kn := [(10, .t hc2), (14, .t hc3), (18, .f hc4)] } [0] [] hN (by kernel_rfl) (by kernel_rfl) ?_
    refine tnU ?_
    refine wr_ ?_
    have hq := Option.some.inj h
    subst hq
    exact eR (by kernel_rfl) (by kernel_rfl)
  ·replace h := ite_f hc3 h
   refine rS { kn := [(10, .t hc2), (14, .f hc3)] } [0] [] hN (by kernel_rfl) (by kernel_rfl) ?_
   refine tnU ?_
   refine wr_ ?_
   have hq := Option.some.inj h
   subst hq
   exact eR (by kernel_rfl) (by kernel_rfl)
 ·replace h := ite_f hc2 h
  refine rS { kn := [(10, .f hc2)] } [0] [] hN (by kernel_rfl) (by kernel_rfl) ?_
  refine tnU ?_
  refine wr_ ?_
  have hq := Option.some.inj h
  subst hq
  exact eR (by kernel_rfl) (by kernel_rfl)

theorem Nm_Long.ok (O : Out) (hO : GOk O) (k : Nat) (a0 : List (List UInt8)) (a1 : Int) (a2 : Int) (out : Bool) (h : Nm_Long.f k a0 a1 a2 = some out) : COk Un O Tryz.prog 7 { ar := [.p (.list .str) a0, .p I6 a1, .p I6 a2], r := .p .bool out } := by
 refine cok_of_wp Tryz.func7 rfl (k := 24) rfl (Nat.le_of_ble_eq_true rfl) (namesOk_pure rfl rfl rfl rfl) ?_
 intro B hN
 refine ckS (b := ⟨[(0, .p (.list .str) a0), (1, .p I6 a1), (2, .p I6 a2)], []⟩) [0, 1, 2] [] (by kernel_rfl) ?_
 unfold Nm_Long.f at h
 refine sq_ ?_
 refine rS {} [0, 1, 2] [] hN (by kernel_rfl) (by kernel_rfl) ?_
 refine tnS ?_
 refine sq_ ?_
 refine rS {} [0, 2, 12] [] hN (by kernel_rfl) (by kernel_rfl) ?_
 refine tnU ?_
 refine tS (b := (decide ((a0.length : Int) > a1))) (by kernel_rfl) (fun hc1 => ?_) (fun hc1 => ?_)
 ·replace h := ite_t hc1 h
  refine sq_ ?_
  refine rS {} [6] [] hN (by kernel_rfl) (by kernel_rfl) ?_
  refine tnU ?_
  refine wr_ ?_
  refine tr_ ?_
  have hq := Option.some.inj h
  subst hq
  exact eR (by kernel_rfl) (by kernel_rfl)
 ·replace h := ite_f hc1 h
  refine wc_ (cS [.k [0, 2] []] (by kernel_rfl) (by kernel_rfl)) (ws_ ?_)
  refine tnU ?_
  refine sqJ (fun st' => Nm_Long.j2 k = some out ∧ st' = ⟨[], []⟩) ?_ ?_
  ·refine sq_ ?_
   refine rS {} [2, 13, 14, 15] [] hN (by kernel_rfl) (by kernel_rfl) ?_
   refine tnU ?_
   refine wb_ ?_
   obtain ⟨o5, hlo5, h⟩ := bind_some h
   have hout6 := h
   clear h
   refine u1_ (fun n st' => ∃ v3 : Int, Nm_Long.l4 k a0 a2 n v3 = some o5 ∧ st' = ⟨[(2, .p I6 a2), (13, .p (.list .str) a0), (14, .p I6 ((a0.length : Int) : Int)), (15, .p I6 v3)], []⟩) k ⟨0, hlo5, by kernel_rfl⟩ ?_
   clear hlo5
   rintro (_ | n) _ ⟨v3, h, rfl⟩
   ·cases h
   ·rw [Nm_Long.l4] at h
    refine sq_ ?_
    refine rS {} [2, 13, 14, 15, 16] [] hN (by kernel_rfl) (by kernel_rfl) ?_
    refine tnS ?_
    refine tS (b := (decide (v3 < (a0.length : Int)))) (by kernel_rfl) (fun hc7 => ?_) (fun hc7 => ?_)
    ·replace h := ite_t hc7 h
     refine wc_ (cS [.k [2, 13, 14, 15] []] (by kernel_rfl) (by kernel_rfl)) (ws_ ?_)
     refine tnS ?_
     refine wb_ ?_
     refine sq_ ?_
     obtain ⟨v8, hv8, h⟩ := bind_some h
     refine rS { its := [(0, .v .str hv8)] } [2, 8, 13, 14, 15] [] hN (by kernel_rfl) (by kernel_rfl) ?_
     refine tnS ?_
     refine rS {} [2, 13, 14, 15, 22] [] hN (by kernel_rfl) (by kernel_rfl) ?_
     refine tnU ?_
     refine tS (b := (decide ((v8.length : Int) > a2))) (by kernel_rfl) (fun hc9 => ?_) (fun hc9 => ?_)
     ·replace h := ite_t hc9 h
      refine sq_ ?_
      refine rS {} [6] [] hN (by kernel_rfl) (by kernel_rfl) ?_
      refine tnU ?_
      refine wr_ ?_
      refine blockQ_ret ?_
      refine tr_ ?_
      have hq := Option.some.inj h
      subst hq
      refine tr_ ?_
      have h := hout6
      refine blockQ_ret ?_
      refine tr_ ?_
      have hq := Option.some.inj h
      subst hq
      exact eR (by kernel_rfl) (by kernel_rfl)
     ·replace h := ite_f hc9 h
      refine wc_ (cS [.k [2, 13, 14, 15] []] (by kernel_rfl) (by kernel_rfl)) (ws_ ?_)
      refine bn_ ?_
      refine tnU ?_
      refine rS {} [2, 13, 14, 15] [] hN (by kernel_rfl) (by kernel_rfl) ?_
      refine tnU ?_
      exact ⟨n, Nat.lt_succ_self n, (IntKind.i64.wrap (v3 + 1)), h, by kernel_rfl⟩
    ·replace h := ite_f hc7 h
     refine wc_ (cS [.k [] []] (by kernel_rfl) (by kernel_rfl)) (we_ ?_)
     refine te_ ?_
     have hq := Option.some.inj h
     subst hq
     refine te_ ?_
     have h := hout6
     refine blockQ_hit ?_
     refine tnU ?_
     exact ⟨h, by kernel_rfl⟩
  ·rintro _ ⟨h, rfl⟩
   unfold Nm_Long.j2 at h
   refine sq_ ?_
   refine rS {} [6] [] hN (by kernel_rfl) (by kernel_rfl) ?_
   refine tnU ?_
   refine wr_ ?_
   have hq := Option.some.inj h
   subst hq
   exact eR (by kernel_rfl) (by kernel_rfl)

theorem W14_Long.ok (O : Out) (hO : GOk O) (k : Nat) (a0 : List TW14A) (a1 : Int) (out : Bool) (h : W14_Long.f k a0 a1 = some out) : COk Un O Tryz.prog 34 { ar := [.p (.list (.named 7)) a0, .p I6 a1], r := .p .bool out } := by
 refine cok_of_wp Tryz.func34 rfl (k := 29) rfl (Nat.le_of_ble_eq_true rfl) (namesOk_pure rfl rfl rfl rfl) ?_
 intro B hN
 refine ckS (b := ⟨[(0, .p (.list (.named 7)) a0), (1, .p I6 a1)], []⟩) [0, 1] [] (by kernel_rfl) ?_
 unfold W14_Long.f at h
 refine sq_ ?_
 refine rS {} [0, 1] [] hN (by kernel_rfl) (by kernel_rfl) ?_
 refine tnS ?_
 refine sq_ ?_
 refine rS {} [0, 10] [] hN (by kernel_rfl) (by kernel_rfl) ?_
 refine tnU ?_
 refine tS (b := (decide ((a0.length : Int) > a1))) (by kernel_rfl) (fun hc1 => ?_) (fun hc1 => ?_)
 ·replace h := ite_t hc1 h
  refine sq_ ?_
  refine rS {} [4] [] hN (by kernel_rfl) (by kernel_rfl) ?_
  refine tnU ?_
  refine wr_ ?_
  refine tr_ ?_
  have hq := Option.some.inj h
  subst hq
  exact eR (by kernel_rfl) (by kernel_rfl)
 ·replace h := ite_f hc1 h
  refine wc_ (cS [.k [0] []] (by kernel_rfl) (by kernel_rfl)) (ws_ ?_)
  refine tnU ?_
  refine sqJ (fun st' => W14_Long.j2 k = some out ∧ st' = ⟨[], []⟩) ?_ ?_
  ·refine sq_ ?_
   refine rS {} [11, 12, 13] [] hN (by kernel_rfl) (by kernel_rfl) ?_
   refine tnU ?_
   refine wb_ ?_
   obtain ⟨o5, hlo5, h⟩ := bind_some h
   have hout6 := h
   clear h
   refine u1_ (fun n st' => ∃ v3 : Int, W14_Long.l4 k a0 n v3 = some o5 ∧ st' = ⟨[(11, .p (.list (.named 7)) a0), (12, .p I6 ((a0.length : Int) : Int)), (13, .p I6 v3)], []⟩) k ⟨0, hlo5, by kernel_rfl⟩ ?_
   clear hlo5
   rintro (_ | n) _ ⟨v3, h, rfl⟩
   ·cases h
   ·rw [W14_Long.l4] at h
    refine sq_ ?_
    refine rS {} [11, 12, 13, 14] [] hN (by kernel_rfl) (by kernel_rfl) ?_
    refine tnS ?_
    refine tS (b := (decide (v3 < (a0.length : Int)))) (by kernel_rfl) (fun hc7 => ?_) (fun hc7 => ?_)
    ·replace h := ite_t hc7 h
     refine wc_ (cS [.k [11, 12, 13] []] (by kernel_rfl) (by kernel_rfl)) (ws_ ?_)
     refine tnU ?_
     refine sqJ (fun st' => W14_Long.j8 k (W14_Long.l4 k a0 n) a0 v3 = some o5 ∧ st' = ⟨[(11, .p (.list (.named 7)) a0), (12, .p I6 ((a0.length : Int) : Int)), (13, .p I6 v3)], []⟩) ?_ ?_
     ·refine wb_ ?_
      refine sq_ ?_
      obtain ⟨v9, hv9, h⟩ := bind_some h
      refine rS { its := [(0, .v (.named 7) hv9)] } [6, 11, 12, 13] [6] hN (by kernel_rfl) (by kernel_rfl) ?_
      refine tnU ?_
      refine sqJ (fun st' => ∃ v10 : Bool, W14_Long.j12 k (W14_Long.l4 k a0 n) a0 v3 v10 = some o5 ∧ st' = ⟨[(11, .p (.list (.named 7)) a0), (12, .p I6 ((a0.length : Int) : Int)), (13, .p I6 v3), (27, .p .bool v10)], []⟩) ?_ ?_
      ·rcases bool_cases (decide ((v9.f_Var.fN.length : Int) > 60)) with hc13 | hc13
       ·replace h := ite_t hc13 h
        refine rS { kn := [(22, .t hc13)] } [11, 12, 13, 27] [] hN (by kernel_rfl) (by kernel_rfl) ?_
        refine tnU ?_
        exact ⟨true, h, by kernel_rfl⟩
       ·replace h := ite_f hc13 h
        obtain ⟨v14, hv14, h⟩ := bind_some h
        refine rS { its := [(9, .c (Nm_Long.ok O hO k v9.f_Var.f_Words 60 200 v14 hv14))], kn := [(22, .f hc13)] } [11, 12, 13, 27] [] hN (by kernel_rfl) (by kernel_rfl) ?_
        refine tnU ?_
        exact ⟨v14, h, by kernel_rfl⟩
      ·rintro _ ⟨v10, h, rfl⟩
       unfold W14_Long.j12 at h
       refine tS (b := v10) (by kernel_rfl) (fun hc11 => ?_) (fun hc11 => ?_)
       ·replace h := ite_t hc11 h
        refine sq_ ?_
        refine rS {} [4] [] hN (by kernel_rfl) (by kernel_rfl) ?_
        refine tnU ?_
        refine wr_ ?_
        refine blockQ_ret ?_
        refine tr_ ?_
        have hq := Option.some.inj h
        subst hq
        refine tr_ ?_
        have h := hout6
        refine blockQ_ret ?_
        refine tr_ ?_
        have hq := Option.some.inj h
        subst hq
        exact eR (by kernel_rfl) (by kernel_rfl)
       ·replace h := ite_f hc11 h
        refine wc_ (cS [.k [11, 12, 13] []] (by kernel_rfl) (by kernel_rfl)) (ws_ ?_)
        refine bn_ ?_
        refine tnU ?_
        exact ⟨h, by kernel_rfl⟩
     ·rintro _ ⟨h, rfl⟩
      unfold W14_Long.j8 at h
      refine rS {} [11, 12, 13] [] hN (by kernel_rfl) (by kernel_rfl) ?_
      refine tnU ?_
      exact ⟨n, Nat.lt_succ_self n, (IntKind.i64.wrap (v3 + 1)), h, by kernel_rfl⟩
    ·replace h := ite_f hc7 h
     refine wc_ (cS [.k [] []] (by kernel_rfl) (by kernel_rfl)) (we_ ?_)
     refine te_ ?_
     have hq := Option.some.inj h
     subst hq
     refine te_ ?_
     have h := hout6
     refine blockQ_hit ?_
     refine tnU ?_
     exact ⟨h, by kernel_rfl⟩
  ·rintro _ ⟨h, rfl⟩
   unfold W14_Long.j2 at h
   refine sq_ ?_
   refine rS {} [4] [] hN (by kernel_rfl) (by kernel_rfl) ?_
   refine tnU ?_
   refine wr_ ?_
   have hq := Option.some.inj h
   subst hq
   exact eR (by kernel_rfl) (by kernel_rfl)

theorem W31_Long.ok (O : Out) (hO : GOk O) (k : Nat) (a0 : T_flags_Options) (out : Bool) (h : W31_Long.f k a0 = some out) : COk Un O Tryz.prog 15 { ar := [.p (.named 4) a0], r := .p .bool out } := by
 refine cok_of_wp Tryz.func15 rfl (k := 38) rfl (Nat.le_of_ble_eq_true rfl) (namesOk_pure rfl rfl rfl rfl) ?_
 intro B hN
 refine ckS (b := ⟨[(0, .p (.named 4) a0)], []⟩) [0] [] (by kernel_rfl) ?_
 unfold W31_Long.f at h
 refine sq_ ?_
 refine rS {} [1] [1] hN (by kernel_rfl) (by kernel_rfl) ?_
 refine tnS ?_
 refine rSC {} [1, 3] [1, 6] hN (by kernel_rfl) (by kernel_rfl) (cS [.k [1, 3] [1, 6], .x (u0_ (st := ⟨[(1, .loc 1 0), (3, .vec 6 5 0 (([] : List TW14A).length))], [(1, .box [.p .bool a0.f_All, .p .bool a0.f_Explain, .p .bool a0.f_Ignore, .p .bool a0.f_Keep, .p .bool a0.f_Dry, .p .bool a0.f_Touch, .p (.list .str) a0.f_News, .p (.list .str) a0.f_Goals, .p .str a0.f_File, .p I6 a0.f_Nproc, .p (.list (.named 3)) a0.f_Vars]), (6, .row 75 (.named 7) ([] : List TW14A) true)]⟩) (st' := ⟨[(1, .loc 1 0), (3, .vec 6 5 0 0)], [(1, .box [.p .bool a0.f_All, .p .bool a0.f_Explain, .p .bool a0.f_Ignore, .p .bool a0.f_Keep, .p .bool a0.f_Dry, .p .bool a0.f_Touch, .p (.list .str) a0.f_News, .p (.list .str) a0.f_Goals, .p .str a0.f_File, .p I6 a0.f_Nproc, .p (.list (.named 3)) a0.f_Vars]), (6, .row 75 (.named 7) ([] : List TW14A) true)]⟩) (by simp only [upd_length, List.length_nil, List.length_replicate]))] (by kernel_rfl) (by kernel_rfl)) ?_
 refine tnU ?_
 refine sqJ (fun st' => ∃ v1 : List TW14A, W31_Long.j8 k a0 v1 = some out ∧ st' = ⟨[(1, .loc 1 0), (3, .vec 1003 5 0 v1.length)], [(1, .box [.p .bool a0.f_All, .p .bool a0.f_Explain, .p .bool a0.f_Ignore, .p .bool a0.f_Keep, .p .bool a0.f_Dry, .p .bool a0.f_Touch, .p (.list .str) a0.f_News, .p (.list .str) a0.f_Goals, .p .str a0.f_File, .p I6 a0.f_Nproc, .p (.list (.named 3)) a0.f_Vars]), (1003, .row 75 (.named 7) v1 false)]⟩) ?_ ?_
 ·refine sq_ ?_
  refine rS {} [1, 3, 8, 9, 10] [1, 6] hN (by kernel_rfl) (by kernel_rfl) ?_
  refine tnU ?_
  refine wb_ ?_
  obtain ⟨o13, hlo13, h⟩ := bind_some h
  have hout14 := h
  clear h
  refine wc_ (cS [.lo 6, .k [1, 3, 8, 9, 10] [1, 6], .rn 6 1003, .k [1, 3, 8, 9, 10] [1, 1003]] (by kernel_rfl) (by kernel_rfl)) ?_
  refine u1_ (fun n st' => ∃ v9 : List TW14A, ∃ v10 : Int, W31_Long.l11 k a0 n v9 v10 = some o13 ∧ st' = ⟨[(1, .loc 1 0), (3, .vec 1003 5 0 v9.length), (8, .p (.list (.named 3)) a0.f_Vars), (9, .p I6 ((a0.f_Vars.length : Int) : Int)), (10, .p I6 v10)], [(1, .box [.p .bool a0.f_All, .p .bool a0.f_Explain, .p .bool a0.f_Ignore, .p .bool a0.f_Keep, .p .bool a0.f_Dry, .p .bool a0.f_Touch, .p (.list .str) a0.f_News, .p (.list .str) a0.f_Goals, .p .str a0.f_File, .p I6 a0.f_Nproc, .p (.list (.named 3)) a0.f_Vars]), (1003, .row 75 (.named 7) v9 false)]⟩) k ⟨([] : List TW14A), 0, hlo13, by kernel_rfl⟩ ?_
  clear hlo13
  rintro (_ | n) _ ⟨v9, v10, h, rfl⟩
  ·cases h
  ·rw [W31_Long.l11] at h
   refine sq_ ?_
   refine rS {} [1, 3, 8, 9, 10, 11] [1, 1003] hN (by kernel_rfl) (by kernel_rfl) ?_
   refine tnS ?_
   refine tS (b := (decide (v10 < (a0.f_Vars.length : Int)))) (by kernel_rfl) (fun hc15 => ?_) (fun hc15 => ?_)
   ·replace h := ite_t hc15 h
    refine wc_ (cS [.k [1, 3, 8, 9, 10] [1, 1003]] (by kernel_rfl) (by kernel_rfl)) (ws_ ?_)
    refine tnS ?_
    refine wb_ ?_
    refine sq_ ?_
    obtain ⟨v16, hv16, h⟩ := bind_some h
    refine rS { its := [(0, .v (.named 3) hv16)] } [1, 3, 5, 8, 9, 10] [1, 5, 1003] hN (by kernel_rfl) (by kernel_rfl) ?_
    refine tnU ?_
    obtain ⟨g17, h⟩ := if_some h
    refine rS { its := [(4, .e 4 (u3_ (t := .named 7) (rs := [(14, .vec 1003 5 0 v9.length), (17, .vec 17 5 0 ([(TW14A.mk 0 (TR14V.mk v16.fN v16.f_Words v16.f_Level v16.f_Hidden))].length))]) (vw := [(17, .row 75 (.named 7) [(TW14A.mk 0 (TR14V.mk v16.fN v16.f_Words v16.f_Level v16.f_Hidden))] true)]) (xs := v9) (ys := [(TW14A.mk 0 (TR14V.mk v16.fN v16.f_Words v16.f_Level v16.f_Hidden))]) (fx := false) rfl rfl rfl row_73 (by decide) o0 o1 (.whole (.head _)) (by simp) g17))] } [1, 3, 8, 9, 10] [1, 18] hN (by kernel_rfl) (by kernel_rfl) ?_
    refine bn_ ?_
    refine tnU ?_
    refine rSC {} [1, 3, 8, 9, 10] [1, 18] hN (by kernel_rfl) (by kernel_rfl) (cS [.rn 18 1003, .k [1, 3, 8, 9, 10] [1, 1003]] (by kernel_rfl) (by kernel_rfl)) ?_
    refine tnU ?_
    exact ⟨n, Nat.lt_succ_self n, (v9 ++ [(TW14A.mk 0 (TR14V.mk v16.fN v16.f_Words v16.f_Level v16.f_Hidden))]), (IntKind.i64.wrap (v10 + 1)), h, by kernel_rfl⟩
   ·replace h := ite_f hc15 h
    refine wc_ (cS [.k [1, 3] [1, 1003]] (by kernel_rfl) (by kernel_rfl)) (we_ ?_)
    refine te_ ?_
    have hq := Option.some.inj h
    subst hq
    refine te_ ?_
    have h := hout14
    refine blockQ_hit ?_
    refine tnU ?_
    exact ⟨v9, h, by kernel_rfl⟩
 ·rintro _ ⟨v1, h, rfl⟩
  unfold W31_Long.j8 at h
  refine sq_ ?_
  obtain ⟨v2, hv2, h⟩ := bind_some h
  rcases bool_cases v2 with hc3 | hc3
  ·replace h := ite_t hc3 h
   refine rS { its := [(2, .c (Nm_Long.ok O hO k a0.f_News 12 60 v2 hv2))], kn := [(23, .t hc3)] } [2] [] hN (by kernel_rfl) (by kernel_rfl) ?_
   refine tnU ?_
   refine wr_ ?_
   have hq := Option.some.inj h
   subst hq
   exact eR (by kernel_rfl) (by kernel_rfl)
  ·replace h := ite_f hc3 h
   obtain ⟨v4, hv4, h⟩ := bind_some h
   rcases bool_cases v4 with hc5 | hc5
   ·replace h := ite_t hc5 h
    refine rS { its := [(2, .c (Nm_Long.ok O hO k a0.f_News 12 60 v2 hv2)), (6, .c (Nm_Long.ok O hO k a0.f_Goals 12 60 v4 hv4))], kn := [(23, .f hc3), (28, .t hc5)] } [2] [] hN (by kernel_rfl) (by kernel_rfl) ?_
    refine tnU ?_
    refine wr_ ?_
    have hq := Option.some.inj h
    subst hq
    exact eR (by kernel_rfl) (by kernel_rfl)
   ·replace h := ite_f hc5 h
    rcases bool_cases (decide ((a0.f_File.length : Int) > 60)) with hc6 | hc6
    ·replace h := ite_t hc6 h
     refine rS { its := [(2, .c (Nm_Long.ok O hO k a0.f_News 12 60 v2 hv2)), (6, .c (Nm_Long.ok O hO k a0.f_Goals 12 60 v4 hv4))], kn := [(23, .f hc3), (28, .f hc5), (34, .t hc6)] } [2] [] hN (by kernel_rfl) (by kernel_rfl) ?_
     refine tnU ?_
     refine wr_ ?_
     have hq := Option.some.inj h
     subst hq
     exact eR (by kernel_rfl) (by kernel_rfl)
    ·replace h := ite_f hc6 h
     obtain ⟨v7, hv7, h⟩ := bind_some h
     refine rS { its := [(2, .c (Nm_Long.ok O hO k a0.f_News 12 60 v2 hv2)), (6, .c (Nm_Long.ok O hO k a0.f_Goals 12 60 v4 hv4)), (16, .c (W14_Long.ok O hO k v1 12 v7 hv7))], kn := [(23, .f hc3), (28, .f hc5), (34, .f hc6)] } [2] [] hN (by kernel_rfl) (by kernel_rfl) ?_
     refine tnU ?_
     refine wr_ ?_
     have hq := Option.some.inj h
     subst hq
     exact eR (by kernel_rfl) (by kernel_rfl)

theorem quote_Plain.ok (O : Out) (hO : GOk O) (k : Nat) (a0 : List UInt8) (out : Bool) (h : quote_Plain.f k a0 = some out) : COk Un O Tryz.prog 81 { ar := [.p .str a0], r := .p .bool out } := by
 refine cok_of_wp Tryz.func81 rfl (k := 29) rfl (Nat.le_of_ble_eq_true rfl) (namesOk_pure rfl rfl rfl rfl) ?_
 intro B hN
 refine ckS (b := ⟨[(0, .p .str a0)], []⟩) [0] [] (by kernel_rfl) ?_
 unfold quote_Plain.f at h
 refine sq_ ?_
 refine rS {} [0] [] hN (by kernel_rfl) (by kernel_rfl) ?_
 refine tnU ?_
 refine sqJ (fun st' => quote_Plain.j1 k a0 = some out ∧ st' = ⟨[(0, .p .str a0)], []⟩) ?_ ?_
 ·refine sq_ ?_
  refine rS {} [0, 5, 6] [] hN (by kernel_rfl) (by kernel_rfl) ?_
  refine tnU ?_
  refine wb_ ?_
  obtain ⟨o4, hlo4, h⟩ := bind_some h
  have hout5 := h
  clear h
  refine u1_ (fun n st' => ∃ v2 : Int, quote_Plain.l3 k a0 n v2 = some o4 ∧ st' = ⟨[(0, .p .str a0), (5, .p I6 ((a0.length : Int) : Int)), (6, .p I6 v2)], []⟩) k ⟨0, hlo4, by kernel_rfl⟩ ?_
  clear hlo4
  rintro (_ | n) _ ⟨v2, h, rfl⟩
  ·cases h
  ·rw [quote_Plain.l3] at h
   refine sq_ ?_
   refine rS {} [0, 5, 6, 7] [] hN (by kernel_rfl) (by kernel_rfl) ?_
   refine tnS ?_
   refine tS (b := (decide (v2 < (a0.length : Int)))) (by kernel_rfl) (fun hc6 => ?_) (fun hc6 => ?_)
   ·replace h := ite_t hc6 h
    refine wc_ (cS [.k [0, 5, 6] []] (by kernel_rfl) (by kernel_rfl)) (ws_ ?_)
    refine tnU ?_
    refine sqJ (fun st' => quote_Plain.j7 k (quote_Plain.l3 k a0 n) a0 v2 = some o4 ∧ st' = ⟨[(0, .p .str a0), (5, .p I6 ((a0.length : Int) : Int)), (6, .p I6 v2)], []⟩) ?_ ?_
    ·refine wb_ ?_
     refine sq_ ?_
     refine rS {} [0, 3, 5, 6] [] hN (by kernel_rfl) (by kernel_rfl) ?_
     refine tnU ?_
     refine sqJ (fun st' => ∃ v8 : Bool, quote_Plain.j10 k (quote_Plain.l3 k a0 n) a0 v2 v8 = some o4 ∧ st' = ⟨[(0, .p .str a0), (5, .p I6 ((a0.length : Int) : Int)), (6, .p I6 v2), (25, .p .bool v8)], []⟩) ?_ ?_
     ·obtain ⟨v11, hv11, h⟩ := bind_some h
      obtain ⟨v12, hv12, h⟩ := bind_some h
      rcases bool_cases v12 with hc13 | hc13
      ·replace h := ite_t hc13 h
       refine rS { its := [(2, .u hv11), (3, .c (quote_Blank.ok O hO k (v11.toNat : Int) v12 hv12))], kn := [(13, .t hc13)] } [0, 5, 6, 25] [] hN (by kernel_rfl) (by kernel_rfl) ?_
       refine tnU ?_
       exact ⟨true, h, by kernel_rfl⟩
      ·replace h := ite_f hc13 h
       obtain ⟨v14, hv14, h⟩ := bind_some h
       rcases bool_cases ((v14.toNat : Int) == 39) with hc15 | hc15
       ·replace h := ite_t hc15 h
        refine rS { its := [(2, .u hv11), (3, .c (quote_Blank.ok O hO k (v11.toNat : Int) v12 hv12)), (7, .u hv14)], kn := [(13, .f hc13), (19, .t hc15)] } [0, 5, 6, 25] [] hN (by kernel_rfl) (by kernel_rfl) ?_
        refine tnU ?_
        exact ⟨true, h, by kernel_rfl⟩
       ·replace h := ite_f hc15 h
        obtain ⟨v16, hv16, h⟩ := bind_some h
        obtain ⟨v17, hv17, h⟩ := bind_some h
        refine rS { its := [(2, .u hv11), (3, .c (quote_Blank.ok O hO k (v11.toNat : Int) v12 hv12)), (7, .u hv14), (13, .u hv16), (14, .c (pIndexByte.ok O hO k ([35, 36, 96, 58, 61, 60, 92, 59, 38, 124, 40, 41, 123, 125, 91, 93, 42, 63, 94, 126] : List UInt8) (v16.toNat : Int) v17 hv17))], kn := [(13, .f hc13), (19, .f hc15)] } [0, 5, 6, 25] [] hN (by kernel_rfl) (by kernel_rfl) ?_
        refine tnU ?_
        exact ⟨(decide (v17 ≥ 0)), h, by kernel_rfl⟩
     ·rintro _ ⟨v8, h, rfl⟩
      unfold quote_Plain.j10 at h
      refine tS (b := v8) (by kernel_rfl) (fun hc9 => ?_) (fun hc9 => ?_)
      ·replace h := ite_t hc9 h
       refine sq_ ?_
       refine rS {} [2] [] hN (by kernel_rfl) (by kernel_rfl) ?_
       refine tnU ?_
       refine wr_ ?_
       refine blockQ_ret ?_
       refine tr_ ?_
       have hq := Option.some.inj h
       subst hq
       refine tr_ ?_
       have h := hout5
       refine blockQ_ret ?_
       refine tr_ ?_
       have hq := Option.some.inj h
       subst hq
       exact eR (by kernel_rfl) (by kernel_rfl)
      ·replace h := ite_f hc9 h
       refine wc_ (cS [.k [0, 5, 6] []] (by kernel_rfl) (by kernel_rfl)) (ws_ ?_)
       refine bn_ ?_
       refine tnU ?_
       exact ⟨h, by kernel_rfl⟩
    ·rintro _ ⟨h, rfl⟩
     unfold quote_Plain.j7 at h
     refine rS {} [0, 5, 6] [] hN (by kernel_rfl) (by kernel_rfl) ?_
     refine tnU ?_
     exact ⟨n, Nat.lt_succ_self n, (IntKind.i64.wrap (v2 + 1)), h, by kernel_rfl⟩
   ·replace h := ite_f hc6 h
    refine wc_ (cS [.k [0] []] (by kernel_rfl) (by kernel_rfl)) (we_ ?_)
    refine te_ ?_
    have hq := Option.some.inj h
    subst hq
    refine te_ ?_
    have h := hout5
    refine blockQ_hit ?_
    refine tnU ?_
    exact ⟨h, by kernel_rfl⟩
 ·rintro _ ⟨h, rfl⟩
  unfold quote_Plain.j1 at h
  refine sq_ ?_
  refine rS {} [2] [] hN (by kernel_rfl) (by kernel_rfl) ?_
  refine tnU ?_
  refine wr_ ?_
  have hq := Option.some.inj h
  subst hq
  exact eR (by kernel_rfl) (by kernel_rfl)

theorem quote_Quote.ok (O : Out) (hO : GOk O) (k : Nat) (a0 : List UInt8) (out : List UInt8) (h : quote_Quote.f k a0 = some out) : COk Un O Tryz.prog 63 { ar := [.p .str a0], r := .p .str out } := by
 refine cok_of_wp Tryz.func63 rfl (k := 10) rfl (Nat.le_of_ble_eq_true rfl) (namesOk_pure rfl rfl rfl rfl) ?_
 intro B hN
 refine ckS (b := ⟨[(0, .p .str a0)], []⟩) [0] [] (by kernel_rfl) ?_
 unfold quote_Quote.f at h
 refine sq_ ?_
 refine rS {} [0] [] hN (by kernel_rfl) (by kernel_rfl) ?_
 refine tnS ?_
 refine sq_ ?_
 obtain ⟨v1, hv1, h⟩ := bind_some h
 refine rS { its := [(1, .c (quote_Plain.ok O hO k a0 v1 hv1))] } [0, 4] [] hN (by kernel_rfl) (by kernel_rfl) ?_
 refine tnU ?_
 refine tS (b := v1) (by kernel_rfl) (fun hc2 => ?_) (fun hc2 => ?_)
 ·replace h := ite_t hc2 h
  refine sq_ ?_
  refine rS {} [2] [] hN (by kernel_rfl) (by kernel_rfl) ?_
  refine tnU ?_
  refine wr_ ?_
  refine tr_ ?_
  have hq := Option.some.inj h
  subst hq
  exact eR (by kernel_rfl) (by kernel_rfl)
 ·replace h := ite_f hc2 h
  refine wc_ (cS [.k [0] []] (by kernel_rfl) (by kernel_rfl)) (ws_ ?_)
  refine tnS ?_
  obtain ⟨v3, hv3, h⟩ := bind_some h
  obtain ⟨g4, h⟩ := if_some h
  obtain ⟨g5, h⟩ := if_some h
  refine rS { its := [(1, .c (pReplaceAll.ok O hO k a0 ([39] : List UInt8) ([39, 39] : List UInt8) v3 hv3)), (2, .g g4), (3, .g g5)] } [2] [] hN (by kernel_rfl) (by kernel_rfl) ?_
  refine tnU ?_
  refine wr_ ?_
  have hq := Option.some.inj h
  subst hq
  exact eR (by kernel_rfl) (by kernel_rfl)

theorem quote_Join.ok (O : Out) (hO : GOk O) (k : Nat) (a0 : List (List UInt8)) (out : List UInt8) (h : quote_Join.f k a0 = some out) : COk Un O Tryz.prog 37 { ar := [.p (.list .str) a0], r := .p .str out } := by
 refine cok_of_wp Tryz.func37 rfl (k := 20) rfl (Nat.le_of_ble_eq_true rfl) (namesOk_pure rfl rfl rfl rfl) ?_
 intro B hN
 refine ckS (b := ⟨[(0, .p (.list .str) a0)], []⟩) [0] [] (by kernel_rfl) ?_
 unfold quote_Join.f at h
 refine sq_ ?_
 refine rS {} [0] [] hN (by kernel_rfl) (by kernel_rfl) ?_
 refine tnS ?_
 refine rS {} [0, 3] [] hN (by kernel_rfl) (by kernel_rfl) ?_
 refine tnU ?_
 refine sqJ (fun st' => ∃ v1 : List (List UInt8), quote_Join.j3 k v1 = some out ∧ st' = ⟨[(3, .vec 1003 1 0 v1.length)], [(1003, .row 9 .str v1 false)]⟩) ?_ ?_
 ·refine sq_ ?_
  refine rS {} [3, 6, 7, 8] [] hN (by kernel_rfl) (by kernel_rfl) ?_
  refine tnU ?_
  refine wb_ ?_
  obtain ⟨o8, hlo8, h⟩ := bind_some h
  have hout9 := h
  clear h
  refine wc_ (cS [.th 3 1003 9 .str, .k [3, 6, 7, 8] [1003]] (by kernel_rfl) (by kernel_rfl)) ?_
  refine u1_ (fun n st' => ∃ v4 : List (List UInt8), ∃ v5 : Int, quote_Join.l6 k a0 n v4 v5 = some o8 ∧ st' = ⟨[(3, .vec 1003 1 0 v4.length), (6, .p (.list .str) a0), (7, .p I6 ((a0.length : Int) : Int)), (8, .p I6 v5)], [(1003, .row 9 .str v4 false)]⟩) k ⟨[], 0, hlo8, by kernel_rfl⟩ ?_
  clear hlo8
  rintro (_ | n) _ ⟨v4, v5, h, rfl⟩
  ·cases h
  ·rw [quote_Join.l6] at h
   refine sq_ ?_
   refine rS {} [3, 6, 7, 8, 9] [1003] hN (by kernel_rfl) (by kernel_rfl) ?_
   refine tnS ?_
   refine tS (b := (decide (v5 < (a0.length : Int)))) (by kernel_rfl) (fun hc10 => ?_) (fun hc10 => ?_)
   ·replace h := ite_t hc10 h
    refine wc_ (cS [.k [3, 6, 7, 8] [1003]] (by kernel_rfl) (by kernel_rfl)) (ws_ ?_)
    refine tnS ?_
    refine wb_ ?_
    refine sq_ ?_
    obtain ⟨v11, hv11, h⟩ := bind_some h
    refine rS { its := [(0, .v .str hv11)] } [3, 5, 6, 7, 8] [1003] hN (by kernel_rfl) (by kernel_rfl) ?_
    refine tnU ?_
    obtain ⟨v12, hv12, h⟩ := bind_some h
    obtain ⟨g13, h⟩ := if_some h
    refine rS { its := [(2, .c (quote_Quote.ok O hO k v11 v12 hv12)), (4, .g g13)] } [3, 6, 7, 8] [16] hN (by kernel_rfl) (by kernel_rfl) ?_
    refine bn_ ?_
    refine tnU ?_
    refine rSC {} [3, 6, 7, 8] [16] hN (by kernel_rfl) (by kernel_rfl) (cS [.rn 16 1003, .k [3, 6, 7, 8] [1003]] (by kernel_rfl) (by kernel_rfl)) ?_
    refine tnU ?_
    exact ⟨n, Nat.lt_succ_self n, (v4 ++ [v12]), (IntKind.i64.wrap (v5 + 1)), h, by kernel_rfl⟩
   ·replace h := ite_f hc10 h
    refine wc_ (cS [.k [3] [1003]] (by kernel_rfl) (by kernel_rfl)) (we_ ?_)
    refine te_ ?_
    have hq := Option.some.inj h
    subst hq
    refine te_ ?_
    have h := hout9
    refine blockQ_hit ?_
    refine tnU ?_
    exact ⟨v4, h, by kernel_rfl⟩
 ·rintro _ ⟨v1, h, rfl⟩
  unfold quote_Join.j3 at h
  refine sq_ ?_
  obtain ⟨v2, hv2, h⟩ := bind_some h
  refine rS { its := [(1, .c (pJoin.ok O hO k v1 ([32] : List UInt8) v2 hv2))] } [2] [] hN (by kernel_rfl) (by kernel_rfl) ?_
  refine tnU ?_
  refine wr_ ?_
  have hq := Option.some.inj h
  subst hq
  exact eR (by kernel_rfl) (by kernel_rfl)

theorem flags_variables.ok (O : Out) (hO : GOk O) (k : Nat) (a0 : List TR14V) (out : Int × Bool) (h : flags_variables.f k a0 = some out) : COk Un O Tryz.prog 45 { ar := [.p (.list (.named 3)) a0], r := .tup [.p I6 out.1, .p .bool out.2] } := by
 refine cok_of_wp Tryz.func45 rfl (k := 35) rfl (Nat.le_of_ble_eq_true rfl) (namesOk_pure rfl rfl rfl rfl) ?_
 intro B hN
 refine ckS (b := ⟨[(0, .p (.list (.named 3)) a0)], []⟩) [0] [] (by kernel_rfl) ?_
 unfold flags_variables.f at h
 refine sq_ ?_
 refine rS {} [0] [] hN (by kernel_rfl) (by kernel_rfl) ?_
 refine tnS ?_
 refine rS {} [0, 4] [] hN (by kernel_rfl) (by kernel_rfl) ?_
 refine tnU ?_
 refine sqJ (fun st' => ∃ v1 : Int, flags_variables.j2 k v1 = some out ∧ st' = ⟨[(4, .p I6 v1)], []⟩) ?_ ?_
 ·refine sq_ ?_
  refine rS {} [4, 7, 8, 9] [] hN (by kernel_rfl) (by kernel_rfl) ?_
  refine tnU ?_
  refine wb_ ?_
  obtain ⟨o7, hlo7, h⟩ := bind_some h
  have hout8 := h
  clear h
  refine u1_ (fun n st' => ∃ v3 : Int, ∃ v4 : Int, flags_variables.l5 k a0 n v3 v4 = some o7 ∧ st' = ⟨[(4, .p I6 v3), (7, .p (.list (.named 3)) a0), (8, .p I6 ((a0.length : Int) : Int)), (9, .p I6 v4)], []⟩) k ⟨1, 0, hlo7, by kernel_rfl⟩ ?_
  clear hlo7
  rintro (_ | n) _ ⟨v3, v4, h, rfl⟩
  ·cases h
  ·rw [flags_variables.l5] at h
   refine sq_ ?_
   refine rS {} [4, 7, 8, 9, 10] [] hN (by kernel_rfl) (by kernel_rfl) ?_
   refine tnS ?_
   refine tS (b := (decide (v4 < (a0.length : Int)))) (by kernel_rfl) (fun hc9 => ?_) (fun hc9 => ?_)
   ·replace h := ite_t hc9 h
    refine wc_ (cS [.k [4, 7, 8, 9] []] (by kernel_rfl) (by kernel_rfl)) (ws_ ?_)
    refine tnU ?_
    refine sqJ (fun st' => ∃ v10 : Int, flags_variables.j11 k (flags_variables.l5 k a0 n) a0 v4 v10 = some o7 ∧ st' = ⟨[(4, .p I6 v10), (7, .p (.list (.named 3)) a0), (8, .p I6 ((a0.length : Int) : Int)), (9, .p I6 v4)], []⟩) ?_ ?_
    ·refine wb_ ?_
     refine sq_ ?_
     obtain ⟨v12, hv12, h⟩ := bind_some h
     refine rS { its := [(0, .v (.named 3) hv12)] } [4, 6, 7, 8, 9] [6] hN (by kernel_rfl) (by kernel_rfl) ?_
     refine tnU ?_
     refine sqJ (fun st' => flags_variables.j18 k (flags_variables.l5 k a0 n) a0 v3 v4 v12 = some o7 ∧ st' = ⟨[(4, .p I6 v3), (6, .loc 6 0), (7, .p (.list (.named 3)) a0), (8, .p I6 ((a0.length : Int) : Int)), (9, .p I6 v4)], [(6, .box [.p .str v12.fN, .p (.list .str) v12.f_Words, .p I6 v12.f_Level, .p .bool v12.f_Hidden])]⟩) ?_ ?_
     ·refine sqJ (fun st' => ∃ v19 : Bool, flags_variables.j21 k (flags_variables.l5 k a0 n) a0 v3 v4 v12 v19 = some o7 ∧ st' = ⟨[(4, .p I6 v3), (6, .loc 6 0), (7, .p (.list (.named 3)) a0), (8, .p I6 ((a0.length : Int) : Int)), (9, .p I6 v4), (24, .p .bool v19)], [(6, .box [.p .str v12.fN, .p (.list .str) v12.f_Words, .p I6 v12.f_Level, .p .bool v12.f_Hidden])]⟩) ?_ ?_
      ·obtain ⟨v22, hv22, h⟩ := bind_some h
       rcases bool_cases (!(v22 == 0)) with hc23 | hc23
       ·replace h := ite_t hc23 h
        refine rS { its := [(1, .c (env_Check.ok O hO k (TR14V.mk v12.fN v12.f_Words v12.f_Level v12.f_Hidden) v22 hv22))], kn := [(16, .t hc23)] } [4, 6, 7, 8, 9, 24] [6] hN (by kernel_rfl) (by kernel_rfl) ?_
        refine tnU ?_
        exact ⟨true, h, by kernel_rfl⟩
       ·replace h := ite_f hc23 h
        rcases bool_cases (v12.f_Level != 2) with hc24 | hc24
        ·replace h := ite_t hc24 h
         refine rS { its := [(1, .c (env_Check.ok O hO k (TR14V.mk v12.fN v12.f_Words v12.f_Level v12.f_Hidden) v22 hv22))], kn := [(16, .f hc23), (21, .t hc24)] } [4, 6, 7, 8, 9, 24] [6] hN (by kernel_rfl) (by kernel_rfl) ?_
         refine tnU ?_
         exact ⟨true, h, by kernel_rfl⟩
        ·replace h := ite_f hc24 h
         refine rS { its := [(1, .c (env_Check.ok O hO k (TR14V.mk v12.fN v12.f_Words v12.f_Level v12.f_Hidden) v22 hv22))], kn := [(16, .f hc23), (21, .f hc24)] } [4, 6, 7, 8, 9, 24] [6] hN (by kernel_rfl) (by kernel_rfl) ?_
         refine tnU ?_
         exact ⟨v12.f_Hidden, h, by kernel_rfl⟩
      ·rintro _ ⟨v19, h, rfl⟩
       unfold flags_variables.j21 at h
       refine tS (b := v19) (by kernel_rfl) (fun hc20 => ?_) (fun hc20 => ?_)
       ·replace h := ite_t hc20 h
        refine sq_ ?_
        refine rS {} [2, 3] [] hN (by kernel_rfl) (by kernel_rfl) ?_
        refine tnU ?_
        refine wr_ ?_
        refine tr_ ?_
        refine blockQ_ret ?_
        refine tr_ ?_
        have hq := Option.some.inj h
        subst hq
        refine tr_ ?_
        have h := hout8
        refine blockQ_ret ?_
        refine tr_ ?_
        have hq := Option.some.inj h
        subst hq
        exact eR (by kernel_rfl) (by kernel_rfl)
       ·replace h := ite_f hc20 h
        refine wc_ (cS [.k [4, 6, 7, 8, 9] [6]] (by kernel_rfl) (by kernel_rfl)) (ws_ ?_)
        refine tnU ?_
        exact ⟨h, by kernel_rfl⟩
     ·rintro _ ⟨h, rfl⟩
      unfold flags_variables.j18 at h
      refine sqJ (fun st' => ∃ v13 : Int, flags_variables.j15 k (flags_variables.l5 k a0 n) a0 v4 v13 = some o7 ∧ st' = ⟨[(4, .p I6 v13), (7, .p (.list (.named 3)) a0), (8, .p I6 ((a0.length : Int) : Int)), (9, .p I6 v4)], []⟩) ?_ ?_
      ·refine sq_ ?_
       refine rS {} [4, 6, 7, 8, 9, 27] [6] hN (by kernel_rfl) (by kernel_rfl) ?_
       refine tnU ?_
       refine tS (b := (v12.fN == ([78, 80, 82, 79, 67] : List UInt8))) (by kernel_rfl) (fun hc16 => ?_) (fun hc16 => ?_)
       ·replace h := ite_t hc16 h
        obtain ⟨v17, hv17, h⟩ := bind_some h
        refine rS { its := [(2, .c (flags_number.ok O hO k v12.f_Words v17 hv17))] } [4, 7, 8, 9] [] hN (by kernel_rfl) (by kernel_rfl) ?_
        refine tnU ?_
        exact ⟨v17, h, by kernel_rfl⟩
       ·replace h := ite_f hc16 h
        refine wc_ (cS [.k [4, 7, 8, 9] []] (by kernel_rfl) (by kernel_rfl)) (ws_ ?_)
        refine tnU ?_
        exact ⟨v3, h, by kernel_rfl⟩
      ·rintro _ ⟨v13, h, rfl⟩
       unfold flags_variables.j15 at h
       refine sq_ ?_
       refine rS {} [4, 7, 8, 9, 32] [] hN (by kernel_rfl) (by kernel_rfl) ?_
       refine tnU ?_
       refine tS (b := (v13 == 0)) (by kernel_rfl) (fun hc14 => ?_) (fun hc14 => ?_)
       ·replace h := ite_t hc14 h
        refine sq_ ?_
        refine rS {} [2, 3] [] hN (by kernel_rfl) (by kernel_rfl) ?_
        refine tnU ?_
        refine wr_ ?_
        refine blockQ_ret ?_
        refine tr_ ?_
        have hq := Option.some.inj h
        subst hq
        refine tr_ ?_
        have h := hout8
        refine blockQ_ret ?_
        refine tr_ ?_
        have hq := Option.some.inj h
        subst hq
        exact eR (by kernel_rfl) (by kernel_rfl)
       ·replace h := ite_f hc14 h
        refine wc_ (cS [.k [4, 7, 8, 9] []] (by kernel_rfl) (by kernel_rfl)) (ws_ ?_)
        refine bn_ ?_
        refine tnU ?_
        exact ⟨v13, h, by kernel_rfl⟩
    ·rintro _ ⟨v10, h, rfl⟩
     unfold flags_variables.j11 at h
     refine rS {} [4, 7, 8, 9] [] hN (by kernel_rfl) (by kernel_rfl) ?_
     refine tnU ?_
     exact ⟨n, Nat.lt_succ_self n, v10, (IntKind.i64.wrap (v4 + 1)), h, by kernel_rfl⟩
   ·replace h := ite_f hc9 h
    refine wc_ (cS [.k [4] []] (by kernel_rfl) (by kernel_rfl)) (we_ ?_)
    refine te_ ?_
    have hq := Option.some.inj h
    subst hq
    refine te_ ?_
    have h := hout8
    refine blockQ_hit ?_
    refine tnU ?_
    exact ⟨v3, h, by kernel_rfl⟩
 ·rintro _ ⟨v1, h, rfl⟩
  unfold flags_variables.j2 at h
  refine sq_ ?_
  refine rS {} [2, 3] [] hN (by kernel_rfl) (by kernel_rfl) ?_
  refine tnU ?_
  refine wr_ ?_
  have hq := Option.some.inj h
  subst hq
  exact eR (by kernel_rfl) (by kernel_rfl)

theorem strings_Contains.ok (O : Out) (hO : GOk O) (k : Nat) (a0 : List UInt8) (a1 : List UInt8) (out : Bool) (h : strings_Contains.f k a0 a1 = some out) : COk Un O Tryz.prog 44 { ar := [.p .str a0, .p .str a1], r := .p .bool out } := by
 refine cok_of_wp Tryz.func44 rfl (k := 9) rfl (Nat.le_of_ble_eq_true rfl) (namesOk_pure rfl rfl rfl rfl) ?_
 intro B hN
 refine ckS (b := ⟨[(0, .p .str a0), (1, .p .str a1)], []⟩) [0, 1] [] (by kernel_rfl) ?_
 unfold strings_Contains.f at h
 refine sq_ ?_
 refine rS {} [0, 1] [] hN (by kernel_rfl) (by kernel_rfl) ?_
 refine tnS ?_
 obtain ⟨v1, hv1, h⟩ := bind_some h
 refine rS { its := [(2, .c (pIndex.ok O hO k a0 a1 v1 hv1))] } [4] [] hN (by kernel_rfl) (by kernel_rfl) ?_
 refine tnU ?_
 refine wr_ ?_
 have hq := Option.some.inj h
 subst hq
 exact eR (by kernel_rfl) (by kernel_rfl)

theorem flags_Right_1.ok (O : Out) (hO : GOk O) (k : Nat) (a0 : List UInt8) (out : Bool) (h : flags_Right_1.f k a0 = some out) : COk Un O Tryz.prog 42 { ar := [.p .str a0], r := .p .bool out } := by
 refine cok_of_wp Tryz.func42 rfl (k := 10) rfl (Nat.le_of_ble_eq_true rfl) (namesOk_pure rfl rfl rfl rfl) ?_
 intro B hN
 refine ckS (b := ⟨[(0, .p .str a0)], []⟩) [0] [] (by kernel_rfl) ?_
 unfold flags_Right_1.f at h
 refine sq_ ?_
 refine rS {} [0] [] hN (by kernel_rfl) (by kernel_rfl) ?_
 refine tnS ?_
 obtain ⟨v1, hv1, h⟩ := bind_some h
 rcases bool_cases (!v1) with hc2 | hc2
 ·replace h := ite_t hc2 h
  refine rS { its := [(1, .c (names_Right.ok O hO k a0 v1 hv1))], kn := [(6, .t hc2)] } [2] [] hN (by kernel_rfl) (by kernel_rfl) ?_
  refine tnU ?_
  refine wr_ ?_
  have hq := Option.some.inj h
  subst hq
  exact eR (by kernel_rfl) (by kernel_rfl)
 ·replace h := ite_f hc2 h
  obtain ⟨v3, hv3, h⟩ := bind_some h
  refine rS { its := [(1, .c (names_Right.ok O hO k a0 v1 hv1)), (5, .c (strings_Contains.ok O hO k a0 ([44] : List UInt8) v3 hv3))], kn := [(6, .f hc2)] } [2] [] hN (by kernel_rfl) (by kernel_rfl) ?_
  refine tnU ?_
  refine wr_ ?_
  have hq := Option.some.inj h
  subst hq
  exact eR (by kernel_rfl) (by kernel_rfl)

theorem slices_IndexFunc_string_string_m1.ok (O : Out) (hO : GOk O) (k : Nat) (a0 : List (List UInt8)) (out : Int) (h : slices_IndexFunc_string_string_m1.f k a0 = some out) : COk Un O Tryz.prog 67 { ar := [.p (.list .str) a0, .clo 42 []], r := .p I6 out } := by
 refine cok_of_wp Tryz.func67 rfl (k := 19) rfl (Nat.le_of_ble_eq_true rfl) (namesOk_pure rfl rfl rfl rfl) ?_
 intro B hN
 refine ckS (b := ⟨[(0, .p (.list .str) a0), (1, .clo 42 [])], []⟩) [0, 1] [] (by kernel_rfl) ?_
 unfold slices_IndexFunc_string_string_m1.f at h
 refine sq_ ?_
 refine rS {} [0, 1] [] hN (by kernel_rfl) (by kernel_rfl) ?_
 refine tnU ?_
 refine sqJ (fun st' => slices_IndexFunc_string_string_m1.j1 k = some out ∧ st' = ⟨[], []⟩) ?_ ?_
 ·refine sq_ ?_
  refine rS {} [0, 1, 7, 8] [] hN (by kernel_rfl) (by kernel_rfl) ?_
  refine tnU ?_
  refine wb_ ?_
  obtain ⟨o4, hlo4, h⟩ := bind_some h
  have hout5 := h
  clear h
  refine u1_ (fun n st' => ∃ v2 : Int, slices_IndexFunc_string_string_m1.l3 k a0 n v2 = some o4 ∧ st' = ⟨[(0, .p (.list .str) a0), (1, .clo 42 []), (7, .p I6 ((a0.length : Int) : Int)), (8, .p I6 v2)], []⟩) k ⟨0, hlo4, by kernel_rfl⟩ ?_
  clear hlo4
  rintro (_ | n) _ ⟨v2, h, rfl⟩
  ·cases h
  ·rw [slices_IndexFunc_string_string_m1.l3] at h
   refine sq_ ?_
   refine rS {} [0, 1, 7, 8, 9] [] hN (by kernel_rfl) (by kernel_rfl) ?_
   refine tnS ?_
   refine tS (b := (decide (v2 < (a0.length : Int)))) (by kernel_rfl) (fun hc6 => ?_) (fun hc6 => ?_)
   ·replace h := ite_t hc6 h
    refine wc_ (cS [.k [0, 1, 7, 8] []] (by kernel_rfl) (by kernel_rfl)) (ws_ ?_)
    refine tnS ?_
    refine wb_ ?_
    refine sq_ ?_
    refine rS {} [0, 1, 5, 7, 8] [] hN (by kernel_rfl) (by kernel_rfl) ?_
    refine tnS ?_
    obtain ⟨v7, hv7, h⟩ := bind_some h
    obtain ⟨v8, hv8, h⟩ := bind_some h
    refine rS { its := [(3, .v .str hv7), (5, .c (flags_Right_1.ok O hO k v7 v8 hv8))] } [0, 1, 5, 7, 8, 16] [] hN (by kernel_rfl) (by kernel_rfl) ?_
    refine tnU ?_
    refine tS (b := v8) (by kernel_rfl) (fun hc9 => ?_) (fun hc9 => ?_)
    ·replace h := ite_t hc9 h
     refine sq_ ?_
     refine rS {} [4] [] hN (by kernel_rfl) (by kernel_rfl) ?_
     refine tnU ?_
     refine wr_ ?_
     refine blockQ_ret ?_
     refine tr_ ?_
     have hq := Option.some.inj h
     subst hq
     refine tr_ ?_
     have h := hout5
     refine blockQ_ret ?_
     refine tr_ ?_
     have hq := Option.some.inj h
     subst hq
     exact eR (by kernel_rfl) (by kernel_rfl)
    ·replace h := ite_f hc9 h
     refine wc_ (cS [.k [0, 1, 7, 8] []] (by kernel_rfl) (by kernel_rfl)) (ws_ ?_)
     refine bn_ ?_
     refine tnU ?_
     refine rS {} [0, 1, 7, 8] [] hN (by kernel_rfl) (by kernel_rfl) ?_
     refine tnU ?_
     exact ⟨n, Nat.lt_succ_self n, (IntKind.i64.wrap (v2 + 1)), h, by kernel_rfl⟩
   ·replace h := ite_f hc6 h
    refine wc_ (cS [.k [] []] (by kernel_rfl) (by kernel_rfl)) (we_ ?_)
    refine te_ ?_
    have hq := Option.some.inj h
    subst hq
    refine te_ ?_
    have h := hout5
    refine blockQ_hit ?_
    refine tnU ?_
    exact ⟨h, by kernel_rfl⟩
 ·rintro _ ⟨h, rfl⟩
  unfold slices_IndexFunc_string_string_m1.j1 at h
  refine sq_ ?_
  refine rS {} [4] [] hN (by kernel_rfl) (by kernel_rfl) ?_
  refine tnU ?_
  refine wr_ ?_
  have hq := Option.some.inj h
  subst hq
  exact eR (by kernel_rfl) (by kernel_rfl)

theorem slices_ContainsFunc_string_string_m1.ok (O : Out) (hO : GOk O) (k : Nat) (a0 : List (List UInt8)) (out : Bool) (h : slices_ContainsFunc_string_string_m1.f k a0 = some out) : COk Un O Tryz.prog 46 { ar := [.p (.list .str) a0, .clo 42 []], r := .p .bool out } := by
 refine cok_of_wp Tryz.func46 rfl (k := 9) rfl (Nat.le_of_ble_eq_true rfl) (namesOk_pure rfl rfl rfl rfl) ?_
 intro B hN
 refine ckS (b := ⟨[(0, .p (.list .str) a0), (1, .clo 42 [])], []⟩) [0, 1] [] (by kernel_rfl) ?_
 unfold slices_ContainsFunc_string_string_m1.f at h
 refine sq_ ?_
 refine rS {} [0, 1] [] hN (by kernel_rfl) (by kernel_rfl) ?_
 refine tnS ?_
 obtain ⟨v1, hv1, h⟩ := bind_some h
 refine rS { its := [(2, .c (slices_IndexFunc_string_string_m1.ok O hO k a0 v1 hv1))] } [4] [] hN (by kernel_rfl) (by kernel_rfl) ?_
 refine tnU ?_
 refine wr_ ?_
 have hq := Option.some.inj h
 subst hq
 exact eR (by kernel_rfl) (by kernel_rfl)

theorem strings_HasPrefix.ok (O : Out) (hO : GOk O) (k : Nat) (a0 : List UInt8) (a1 : List UInt8) (out : Bool) (h : strings_HasPrefix.f k a0 a1 = some out) : COk Un O Tryz.prog 68 { ar := [.p .str a0, .p .str a1], r := .p .bool out } := by
 refine cok_of_wp Tryz.func68 rfl (k := 8) rfl (Nat.le_of_ble_eq_true rfl) (namesOk_pure rfl rfl rfl rfl) ?_
 intro B hN
 refine ckS (b := ⟨[(0, .p .str a0), (1, .p .str a1)], []⟩) [0, 1] [] (by kernel_rfl) ?_
 unfold strings_HasPrefix.f at h
 refine sq_ ?_
 refine rS {} [0, 1] [] hN (by kernel_rfl) (by kernel_rfl) ?_
 refine tnS ?_
 obtain ⟨v1, hv1, h⟩ := bind_some h
 refine rS { its := [(2, .c (stringslite_HasPrefix.ok O hO k a0 a1 v1 hv1))] } [4] [] hN (by kernel_rfl) (by kernel_rfl) ?_
 refine tnU ?_
 refine wr_ ?_
 have hq := Option.some.inj h
 subst hq
 exact eR (by kernel_rfl) (by kernel_rfl)

theorem flags_plain.ok (O : Out) (hO : GOk O) (k : Nat) (a0 : List UInt8) (out : Bool) (h : flags_plain.f k a0 = some out) : COk Un O Tryz.prog 48 { ar := [.p .str a0], r := .p .bool out } := by
 refine cok_of_wp Tryz.func48 rfl (k := 27) rfl (Nat.le_of_ble_eq_true rfl) (namesOk_pure rfl rfl rfl rfl) ?_
 intro B hN
 refine ckS (b := ⟨[(0, .p .str a0)], []⟩) [0] [] (by kernel_rfl) ?_
 unfold flags_plain.f at h
 refine sq_ ?_
 refine rS {} [0] [] hN (by kernel_rfl) (by kernel_rfl) ?_
 refine tnS ?_
 obtain ⟨v1, hv1, h⟩ := bind_some h
 refine rS { its := [(1, .c (strings_Cut.ok O hO k a0 ([61] : List UInt8) v1 hv1))] } [0, 3, 5] [] hN (by kernel_rfl) (by kernel_rfl) ?_
 refine tnS ?_
 obtain ⟨v2, hv2, h⟩ := bind_some h
 rcases bool_cases v2 with hc3 | hc3
 ·replace h := ite_t hc3 h
  obtain ⟨v4, hv4, h⟩ := bind_some h
  rcases bool_cases (!v4) with hc5 | hc5
  ·replace h := ite_t hc5 h
   rcases bool_cases v1.2.2 with hc6 | hc6
   ·replace h := ite_t hc6 h
    obtain ⟨v7, hv7, h⟩ := bind_some h
    refine rS { its := [(1, .c (names_Right.ok O hO k a0 v2 hv2)), (4, .c (strings_HasPrefix.ok O hO k a0 ([45] : List UInt8) v4 hv4)), (11, .c (lex_Name.ok O hO k v1.1 v7 hv7))], kn := [(14, .t hc3), (19, .t hc5), (21, .t hc6)] } [2] [] hN (by kernel_rfl) (by kernel_rfl) ?_
    refine tnU ?_
    refine wr_ ?_
    have hq := Option.some.inj h
    subst hq
    exact eR (by kernel_rfl) (by kernel_rfl)
   ·replace h := ite_f hc6 h
    refine rS { its := [(1, .c (names_Right.ok O hO k a0 v2 hv2)), (4, .c (strings_HasPrefix.ok O hO k a0 ([45] : List UInt8) v4 hv4))], kn := [(14, .t hc3), (19, .t hc5), (21, .f hc6)] } [2] [] hN (by kernel_rfl) (by kernel_rfl) ?_
    refine tnU ?_
    refine wr_ ?_
    have hq := Option.some.inj h
    subst hq
    exact eR (by kernel_rfl) (by kernel_rfl)
  ·replace h := ite_f hc5 h
   refine rS { its := [(1, .c (names_Right.ok O hO k a0 v2 hv2)), (4, .c (strings_HasPrefix.ok O hO k a0 ([45] : List UInt8) v4 hv4))], kn := [(14, .t hc3), (19, .f hc5)] } [2] [] hN (by kernel_rfl) (by kernel_rfl) ?_
   refine tnU ?_
   refine wr_ ?_
   have hq := Option.some.inj h
   subst hq
   exact eR (by kernel_rfl) (by kernel_rfl)
 ·replace h := ite_f hc3 h
  refine rS { its := [(1, .c (names_Right.ok O hO k a0 v2 hv2))], kn := [(14, .f hc3)] } [2] [] hN (by kernel_rfl) (by kernel_rfl) ?_
  refine tnU ?_
  refine wr_ ?_
  have hq := Option.some.inj h
  subst hq
  exact eR (by kernel_rfl) (by kernel_rfl)

theorem flags_Right_2.ok (O : Out) (hO : GOk O) (k : Nat) (a0 : List UInt8) (out : Bool) (h : flags_Right_2.f k a0 = some out) : COk Un O Tryz.prog 47 { ar := [.p .str a0], r := .p .bool out } := by
 refine cok_of_wp Tryz.func47 rfl (k := 6) rfl (Nat.le_of_ble_eq_true rfl) (namesOk_pure rfl rfl rfl rfl) ?_
 intro B hN
 refine ckS (b := ⟨[(0, .p .str a0)], []⟩) [0] [] (by kernel_rfl) ?_
 unfold flags_Right_2.f at h
 refine sq_ ?_
 refine rS {} [0] [] hN (by kernel_rfl) (by kernel_rfl) ?_
 refine tnS ?_
 obtain ⟨v1, hv1, h⟩ := bind_some h
 refine rS { its := [(1, .c (flags_plain.ok O hO k a0 v1 hv1))] } [2] [] hN (by kernel_rfl) (by kernel_rfl) ?_
 refine tnU ?_
 refine wr_ ?_
 have hq := Option.some.inj h
 subst hq
 exact eR (by kernel_rfl) (by kernel_rfl)

theorem slices_IndexFunc_string_string_m2.ok (O : Out) (hO : GOk O) (k : Nat) (a0 : List (List UInt8)) (out : Int) (h : slices_IndexFunc_string_string_m2.f k a0 = some out) : COk Un O Tryz.prog 67 { ar := [.p (.list .str) a0, .clo 47 []], r := .p I6 out } := by
 refine cok_of_wp Tryz.func67 rfl (k := 19) rfl (Nat.le_of_ble_eq_true rfl) (namesOk_pure rfl rfl rfl rfl) ?_
 intro B hN
 refine ckS (b := ⟨[(0, .p (.list .str) a0), (1, .clo 47 [])], []⟩) [0, 1] [] (by kernel_rfl) ?_
 unfold slices_IndexFunc_string_string_m2.f at h
 refine sq_ ?_
 refine rS {} [0, 1] [] hN (by kernel_rfl) (by kernel_rfl) ?_
 refine tnU ?_
 refine sqJ (fun st' => slices_IndexFunc_string_string_m2.j1 k = some out ∧ st' = ⟨[], []⟩) ?_ ?_
 ·refine sq_ ?_
  refine rS {} [0, 1, 7, 8] [] hN (by kernel_rfl) (by kernel_rfl) ?_
  refine tnU ?_
  refine wb_ ?_
  obtain ⟨o4, hlo4, h⟩ := bind_some h
  have hout5 := h
  clear h
  refine u1_ (fun n st' => ∃ v2 : Int, slices_IndexFunc_string_string_m2.l3 k a0 n v2 = some o4 ∧ st' = ⟨[(0, .p (.list .str) a0), (1, .clo 47 []), (7, .p I6 ((a0.length : Int) : Int)), (8, .p I6 v2)], []⟩) k ⟨0, hlo4, by kernel_rfl⟩ ?_
  clear hlo4
  rintro (_ | n) _ ⟨v2, h, rfl⟩
  ·cases h
  ·rw [slices_IndexFunc_string_string_m2.l3] at h
   refine sq_ ?_
   refine rS {} [0, 1, 7, 8, 9] [] hN (by kernel_rfl) (by kernel_rfl) ?_
   refine tnS ?_
   refine tS (b := (decide (v2 < (a0.length : Int)))) (by kernel_rfl) (fun hc6 => ?_) (fun hc6 => ?_)
   ·replace h := ite_t hc6 h
    refine wc_ (cS [.k [0, 1, 7, 8] []] (by kernel_rfl) (by kernel_rfl)) (ws_ ?_)
    refine tnS ?_
    refine wb_ ?_
    refine sq_ ?_
    refine rS {} [0, 1, 5, 7, 8] [] hN (by kernel_rfl) (by kernel_rfl) ?_
    refine tnS ?_
    obtain ⟨v7, hv7, h⟩ := bind_some h
    obtain ⟨v8, hv8, h⟩ := bind_some h
    refine rS { its := [(3, .v .str hv7), (5, .c (flags_Right_2.ok O hO k v7 v8 hv8))] } [0, 1, 5, 7, 8, 16] [] hN (by kernel_rfl) (by kernel_rfl) ?_
    refine tnU ?_
    refine tS (b := v8) (by kernel_rfl) (fun hc9 => ?_) (fun hc9 => ?_)
    ·replace h := ite_t hc9 h
     refine sq_ ?_
     refine rS {} [4] [] hN (by kernel_rfl) (by kernel_rfl) ?_
     refine tnU ?_
     refine wr_ ?_
     refine blockQ_ret ?_
     refine tr_ ?_
     have hq := Option.some.inj h
     subst hq
     refine tr_ ?_
     have h := hout5
     refine blockQ_ret ?_
     refine tr_ ?_
     have hq := Option.some.inj h
     subst hq
     exact eR (by kernel_rfl) (by kernel_rfl)
    ·replace h := ite_f hc9 h
     refine wc_ (cS [.k [0, 1, 7, 8] []] (by kernel_rfl) (by kernel_rfl)) (ws_ ?_)
     refine bn_ ?_
     refine tnU ?_
     refine rS {} [0, 1, 7, 8] [] hN (by kernel_rfl) (by kernel_rfl) ?_
     refine tnU ?_
     exact ⟨n, Nat.lt_succ_self n, (IntKind.i64.wrap (v2 + 1)), h, by kernel_rfl⟩
   ·replace h := ite_f hc6 h
    refine wc_ (cS [.k [] []] (by kernel_rfl) (by kernel_rfl)) (we_ ?_)
    refine te_ ?_
    have hq := Option.some.inj h
    subst hq
    refine te_ ?_
    have h := hout5
    refine blockQ_hit ?_
    refine tnU ?_
    exact ⟨h, by kernel_rfl⟩
 ·rintro _ ⟨h, rfl⟩
  unfold slices_IndexFunc_string_string_m2.j1 at h
  refine sq_ ?_
  refine rS {} [4] [] hN (by kernel_rfl) (by kernel_rfl) ?_
  refine tnU ?_
  refine wr_ ?_
  have hq := Option.some.inj h
  subst hq
  exact eR (by kernel_rfl) (by kernel_rfl)

theorem slices_ContainsFunc_string_string_m2.ok (O : Out) (hO : GOk O) (k : Nat) (a0 : List (List UInt8)) (out : Bool) (h : slices_ContainsFunc_string_string_m2.f k a0 = some out) : COk Un O Tryz.prog 46 { ar := [.p (.list .str) a0, .clo 47 []], r := .p .bool out } := by
 refine cok_of_wp Tryz.func46 rfl (k := 9) rfl (Nat.le_of_ble_eq_true rfl) (namesOk_pure rfl rfl rfl rfl) ?_
 intro B hN
 refine ckS (b := ⟨[(0, .p (.list .str) a0), (1, .clo 47 [])], []⟩) [0, 1] [] (by kernel_rfl) ?_
 unfold slices_ContainsFunc_string_string_m2.f at h
 refine sq_ ?_
 refine rS {} [0, 1] [] hN (by kernel_rfl) (by kernel_rfl) ?_
 refine tnS ?_
 obtain ⟨v1, hv1, h⟩ := bind_some h
 refine rS { its := [(2, .c (slices_IndexFunc_string_string_m2.ok O hO k a0 v1 hv1))] } [4] [] hN (by kernel_rfl) (by kernel_rfl) ?_
 refine tnU ?_
 refine wr_ ?_
 have hq := Option.some.inj h
 subst hq
 exact eR (by kernel_rfl) (by kernel_rfl)

theorem flags_Right.ok (O : Out) (hO : GOk O) (k : Nat) (a0 : T_flags_Options) (out : Bool) (h : flags_Right.f k a0 = some out) : COk Un O Tryz.prog 19 { ar := [.p (.named 4) a0], r := .p .bool out } := by
 refine cok_of_wp Tryz.func19 rfl (k := 37) rfl (Nat.le_of_ble_eq_true rfl) (namesOk_pure rfl rfl rfl rfl) ?_
 intro B hN
 refine ckS (b := ⟨[(0, .p (.named 4) a0)], []⟩) [0] [] (by kernel_rfl) ?_
 unfold flags_Right.f at h
 refine sq_ ?_
 refine rS {} [1] [1] hN (by kernel_rfl) (by kernel_rfl) ?_
 refine tnS ?_
 refine rS {} [1, 3] [1] hN (by kernel_rfl) (by kernel_rfl) ?_
 refine tnS ?_
 obtain ⟨v1, hv1, h⟩ := bind_some h
 refine rS { its := [(2, .c (flags_variables.ok O hO k a0.f_Vars v1 hv1))] } [1, 3, 4, 5] [1] hN (by kernel_rfl) (by kernel_rfl) ?_
 refine tnU ?_
 refine sqJ (fun st' => flags_Right.j5 k a0 = some out ∧ st' = ⟨[(1, .loc 1 0), (3, .clo 42 [])], [(1, .box [.p .bool a0.f_All, .p .bool a0.f_Explain, .p .bool a0.f_Ignore, .p .bool a0.f_Keep, .p .bool a0.f_Dry, .p .bool a0.f_Touch, .p (.list .str) a0.f_News, .p (.list .str) a0.f_Goals, .p .str a0.f_File, .p I6 a0.f_Nproc, .p (.list (.named 3)) a0.f_Vars])]⟩) ?_ ?_
 ·refine sqJ (fun st' => ∃ v6 : Bool, flags_Right.j8 k a0 v6 = some out ∧ st' = ⟨[(1, .loc 1 0), (3, .clo 42 []), (25, .p .bool v6)], [(1, .box [.p .bool a0.f_All, .p .bool a0.f_Explain, .p .bool a0.f_Ignore, .p .bool a0.f_Keep, .p .bool a0.f_Dry, .p .bool a0.f_Touch, .p (.list .str) a0.f_News, .p (.list .str) a0.f_Goals, .p .str a0.f_File, .p I6 a0.f_Nproc, .p (.list (.named 3)) a0.f_Vars])]⟩) ?_ ?_
  ·rcases bool_cases (!v1.2) with hc9 | hc9
   ·replace h := ite_t hc9 h
    refine rS { kn := [(14, .t hc9)] } [1, 3, 25] [1] hN (by kernel_rfl) (by kernel_rfl) ?_
    refine tnU ?_
    exact ⟨true, h, by kernel_rfl⟩
   ·replace h := ite_f hc9 h
    rcases bool_cases (v1.1 != a0.f_Nproc) with hc10 | hc10
    ·replace h := ite_t hc10 h
     refine rS { kn := [(14, .f hc9), (20, .t hc10)] } [1, 3, 25] [1] hN (by kernel_rfl) (by kernel_rfl) ?_
     refine tnU ?_
     exact ⟨true, h, by kernel_rfl⟩
    ·replace h := ite_f hc10 h
     obtain ⟨v11, hv11, h⟩ := bind_some h
     refine rS { its := [(11, .c (names_Right.ok O hO k a0.f_File v11 hv11))], kn := [(14, .f hc9), (20, .f hc10)] } [1, 3, 25] [1] hN (by kernel_rfl) (by kernel_rfl) ?_
     refine tnU ?_
     exact ⟨(!v11), h, by kernel_rfl⟩
  ·rintro _ ⟨v6, h, rfl⟩
   unfold flags_Right.j8 at h
   refine tS (b := v6) (by kernel_rfl) (fun hc7 => ?_) (fun hc7 => ?_)
   ·replace h := ite_t hc7 h
    refine sq_ ?_
    refine rS {} [2] [] hN (by kernel_rfl) (by kernel_rfl) ?_
    refine tnU ?_
    refine wr_ ?_
    refine tr_ ?_
    have hq := Option.some.inj h
    subst hq
    exact eR (by kernel_rfl) (by kernel_rfl)
   ·replace h := ite_f hc7 h
    refine wc_ (cS [.k [1, 3] [1]] (by kernel_rfl) (by kernel_rfl)) (ws_ ?_)
    refine tnU ?_
    exact ⟨h, by kernel_rfl⟩
 ·rintro _ ⟨h, rfl⟩
  unfold flags_Right.j5 at h
  refine sq_ ?_
  obtain ⟨v2, hv2, h⟩ := bind_some h
  rcases bool_cases (!v2) with hc3 | hc3
  ·replace h := ite_t hc3 h
   obtain ⟨v4, hv4, h⟩ := bind_some h
   refine rS { its := [(3, .c (slices_ContainsFunc_string_string_m1.ok O hO k a0.f_News v2 hv2)), (8, .c (slices_ContainsFunc_string_string_m2.ok O hO k a0.f_Goals v4 hv4))], kn := [(31, .t hc3)] } [2] [] hN (by kernel_rfl) (by kernel_rfl) ?_
   refine tnU ?_
   refine wr_ ?_
   have hq := Option.some.inj h
   subst hq
   exact eR (by kernel_rfl) (by kernel_rfl)
  ·replace h := ite_f hc3 h
   refine rS { its := [(3, .c (slices_ContainsFunc_string_string_m1.ok O hO k a0.f_News v2 hv2))], kn := [(31, .f hc3)] } [2] [] hN (by kernel_rfl) (by kernel_rfl) ?_
   refine tnU ?_
   refine wr_ ?_
   have hq := Option.some.inj h
   subst hq
   exact eR (by kernel_rfl) (by kernel_rfl)

end Go.Proofs.YtcijochjfncefaaGreatDoor
