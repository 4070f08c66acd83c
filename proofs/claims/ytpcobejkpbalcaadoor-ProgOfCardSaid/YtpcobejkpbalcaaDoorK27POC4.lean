/- A part of the proof of a given law: POC4. Own work, printed in part by a program of mine. -/
import Derived.Test.YtpcobejkpbalcaaDoorK27POC3
namespace Go.Proofs.YtpcobejkpbalcaaDoor
open Go Go.AM
set_option linter.unusedVariables false
set_option linter.unusedSimpArgs false
set_option maxRecDepth 100000
set_option maxHeartbeats 4000000
theorem millwrightnum_Num.ok (O : Out) (hO : GOkE O) (k : Nat) (a0 : Nat) (out : Int) (h : millwrightnum_Num.f k a0 = some out) : COk Un O Tryd.prog 7 { ar := [.p .err a0], r := .p I6 out } := by
  refine cok_of_wp Tryd.func7 rfl (k := 20) rfl (Nat.le_of_ble_eq_true rfl) (namesOk_pure rfl rfl rfl rfl) ?_
  intro B hN
  refine WpC.conv (cvK (b := ⟨[(0, .p .err a0)], []⟩) [0] [] (by kernel_rfl)) ?_
  unfold millwrightnum_Num.f at h
  refine WpC.seq ?_
  refine rS {} [0] [] hN (by kernel_rfl) (by kernel_rfl) ?_
  refine tnU ?_
  refine WpC.seq ?_
  refine WpC.seq ?_
  refine rS {} [0, 6] [] hN (by kernel_rfl) (by kernel_rfl) ?_
  refine tnU ?_
  refine tS (b := (a0 == 0)) (by kernel_rfl) (fun hc1 => ?_) (fun hc1 => ?_)
  · replace h := ite_t hc1 h
    refine WpC.seq ?_
    refine rS {} [2] [] hN (by kernel_rfl) (by kernel_rfl) ?_
    refine tnU ?_
    refine WpC.ret ?_
    refine thenQ_ret ?_
    have hq := Option.some.inj h
    subst hq
    exact eR (by kernel_rfl) (by kernel_rfl)
  · replace h := ite_f hc1 h
    refine WpC.conv (cS [.k [0] []] (by kernel_rfl) (by kernel_rfl)) (WpC.skip ?_)
    refine tnU ?_
    refine sqJ (fun st' => millwrightnum_Num.j2 k = some out ∧ st' = ⟨[], []⟩) ?_ ?_
    · refine WpC.seq ?_
      obtain ⟨v3, hv3, h⟩ := bind_some h
      refine rS { its := [(0, .c (millwrightnum_all.ok O hO k v3 hv3))] } [0, 7, 8, 9] [] hN (by kernel_rfl) (by kernel_rfl) ?_
      refine tnU ?_
      refine WpC.block ?_
      obtain ⟨o6, hlo6, h⟩ := bind_some h
      have hout7 := h
      clear h
      refine WpC.loop (U := Un) (fun n st' => ∃ v4 : Int, millwrightnum_Num.l5 k a0 v3 n v4 = some o6 ∧ st' = ⟨[(0, .p .err a0), (7, .p (.list .err) v3), (8, .p I6 ((v3.length : Int) : Int)), (9, .p I6 v4)], []⟩) k ⟨0, hlo6, by kernel_rfl⟩ ?_
      clear hlo6
      rintro (_ | n) _ ⟨v4, h, rfl⟩
      · cases h
      · rw [millwrightnum_Num.l5] at h
        refine WpC.seq ?_
        refine rS {} [0, 7, 8, 9, 10] [] hN (by kernel_rfl) (by kernel_rfl) ?_
        refine tnU ?_
        refine WpC.seq ?_
        refine tS (b := (decide (v4 < (v3.length : Int)))) (by kernel_rfl) (fun hc8 => ?_) (fun hc8 => ?_)
        · replace h := ite_t hc8 h
          refine WpC.conv (cS [.k [0, 7, 8, 9] []] (by kernel_rfl) (by kernel_rfl)) (WpC.skip ?_)
          refine tnU ?_
          refine WpC.seq ?_
          refine WpC.block ?_
          refine WpC.seq ?_
          obtain ⟨v9, hv9, h⟩ := bind_some h
          refine rS { its := [(1, .v .err hv9)] } [0, 3, 4, 7, 8, 9] [] hN (by kernel_rfl) (by kernel_rfl) ?_
          refine tnU ?_
          refine WpC.seq ?_
          obtain ⟨v10, hv10, h⟩ := bind_some h
          refine rS { its := [(2, .c (pIs.ok O hO k a0 v9 v10 hv10))] } [0, 3, 7, 8, 9, 16] [] hN (by kernel_rfl) (by kernel_rfl) ?_
          refine tnU ?_
          refine tS (b := v10) (by kernel_rfl) (fun hc11 => ?_) (fun hc11 => ?_)
          · replace h := ite_t hc11 h
            refine WpC.seq ?_
            refine rS {} [2] [] hN (by kernel_rfl) (by kernel_rfl) ?_
            refine tnU ?_
            refine WpC.ret ?_
            refine blockQ_ret ?_
            refine thenQ_ret ?_
            have hq := Option.some.inj h
            subst hq
            refine thenQ_ret ?_
            have h := hout7
            refine blockQ_ret ?_
            refine thenQ_ret ?_
            have hq := Option.some.inj h
            subst hq
            exact eR (by kernel_rfl) (by kernel_rfl)
          · replace h := ite_f hc11 h
            refine WpC.conv (cS [.k [0, 7, 8, 9] []] (by kernel_rfl) (by kernel_rfl)) (WpC.skip ?_)
            refine blockQ_normal ?_
            refine tnU ?_
            refine rS {} [0, 7, 8, 9] [] hN (by kernel_rfl) (by kernel_rfl) ?_
            refine tnU ?_
            exact ⟨n, Nat.lt_succ_self n, (IntKind.i64.wrap (v4 + 1)), h, by kernel_rfl⟩
        · replace h := ite_f hc8 h
          refine WpC.conv (cS [.k [] []] (by kernel_rfl) (by kernel_rfl)) (WpC.exit ?_)
          refine thenQ_exit ?_
          have hq := Option.some.inj h
          subst hq
          refine thenQ_exit ?_
          have h := hout7
          refine blockQ_hit ?_
          refine tnU ?_
          exact ⟨h, by kernel_rfl⟩
    · rintro _ ⟨h, rfl⟩
      unfold millwrightnum_Num.j2 at h
      refine WpC.seq ?_
      refine rS {} [2] [] hN (by kernel_rfl) (by kernel_rfl) ?_
      refine tnU ?_
      refine WpC.ret ?_
      have hq := Option.some.inj h
      subst hq
      exact eR (by kernel_rfl) (by kernel_rfl)

theorem millwrightref08_Length.bok (O : Out) (hO : GOkE O) (k : Nat) (rf_millwrightref08_Length : T_millwrightref07_Node → Option Int) (hrf_millwrightref08_Length : ∀ (a0 : T_millwrightref07_Node) (out : Int), rf_millwrightref08_Length a0 = some out → COk Un O Tryd.prog 32 { ar := [.p (.named 4) a0], r := .p I6 out }) (a0 : T_millwrightref07_Node) (out : Int) (h : millwrightref08_Length.b k rf_millwrightref08_Length a0 = some out) : COk Un O Tryd.prog 32 { ar := [.p (.named 4) a0], r := .p I6 out } := by
  refine cok_of_wp Tryd.func32 rfl (k := 43) rfl (Nat.le_of_ble_eq_true rfl) (namesOk_pure rfl rfl rfl rfl) ?_
  intro B hN
  refine WpC.conv (cvK (b := ⟨[(0, .p (.named 4) a0)], []⟩) [0] [] (by kernel_rfl)) ?_
  unfold millwrightref08_Length.b at h
  refine WpC.seq ?_
  refine rS {} [1] [1] hN (by kernel_rfl) (by kernel_rfl) ?_
  refine tnU ?_
  refine WpC.seq ?_
  refine rS {} [1, 3] [1] hN (by kernel_rfl) (by kernel_rfl) ?_
  refine tnU ?_
  refine sqJ (fun st' => ∃ v1 : Int, millwrightref08_Length.j15 k a0 v1 = some out ∧ st' = ⟨[(1, .loc 1 0), (3, .p I6 v1)], [(1, .box [.p I6 a0.f_Kind, .p I6 a0.f_Index, .p U6 a0.f_Set, .p (.list (.named 4)) a0.f_Kids])]⟩) ?_ ?_
  · refine WpC.seq ?_
    refine rS {} [1, 3, 7, 8, 9] [1] hN (by kernel_rfl) (by kernel_rfl) ?_
    refine tnU ?_
    refine WpC.block ?_
    obtain ⟨o20, hlo20, h⟩ := bind_some h
    have hout21 := h
    clear h
    refine WpC.loop (U := Un) (fun n st' => ∃ v16 : Int, ∃ v17 : Int, millwrightref08_Length.l18 k rf_millwrightref08_Length a0 n v16 v17 = some o20 ∧ st' = ⟨[(1, .loc 1 0), (3, .p I6 v16), (7, .p (.list (.named 4)) a0.f_Kids), (8, .p I6 ((a0.f_Kids.length : Int) : Int)), (9, .p I6 v17)], [(1, .box [.p I6 a0.f_Kind, .p I6 a0.f_Index, .p U6 a0.f_Set, .p (.list (.named 4)) a0.f_Kids])]⟩) k ⟨0, 0, hlo20, by kernel_rfl⟩ ?_
    clear hlo20
    rintro (_ | n) _ ⟨v16, v17, h, rfl⟩
    · cases h
    · rw [millwrightref08_Length.l18] at h
      refine WpC.seq ?_
      refine rS {} [1, 3, 7, 8, 9, 10] [1] hN (by kernel_rfl) (by kernel_rfl) ?_
      refine tnU ?_
      refine WpC.seq ?_
      refine tS (b := (decide (v17 < (a0.f_Kids.length : Int)))) (by kernel_rfl) (fun hc22 => ?_) (fun hc22 => ?_)
      · replace h := ite_t hc22 h
        refine WpC.conv (cS [.k [1, 3, 7, 8, 9] [1]] (by kernel_rfl) (by kernel_rfl)) (WpC.skip ?_)
        refine tnU ?_
        refine WpC.seq ?_
        refine WpC.block ?_
        refine WpC.seq ?_
        obtain ⟨v23, hv23, h⟩ := bind_some h
        refine rS { its := [(0, .v (.named 4) hv23)] } [1, 3, 5, 7, 8, 9] [1, 5] hN (by kernel_rfl) (by kernel_rfl) ?_
        refine tnU ?_
        obtain ⟨v24, hv24, h⟩ := bind_some h
        refine rS { its := [(2, .c (hrf_millwrightref08_Length (T_millwrightref07_Node.mk v23.f_Kind v23.f_Index v23.f_Set v23.f_Kids) v24 hv24))] } [1, 3, 7, 8, 9] [1] hN (by kernel_rfl) (by kernel_rfl) ?_
        refine blockQ_normal ?_
        refine tnU ?_
        refine rS {} [1, 3, 7, 8, 9] [1] hN (by kernel_rfl) (by kernel_rfl) ?_
        refine tnU ?_
        exact ⟨n, Nat.lt_succ_self n, (IntKind.i64.wrap (v16 + v24)), (IntKind.i64.wrap (v17 + 1)), h, by kernel_rfl⟩
      · replace h := ite_f hc22 h
        refine WpC.conv (cS [.k [1, 3] [1]] (by kernel_rfl) (by kernel_rfl)) (WpC.exit ?_)
        refine thenQ_exit ?_
        have hq := Option.some.inj h
        subst hq
        refine thenQ_exit ?_
        have h := hout21
        refine blockQ_hit ?_
        refine tnU ?_
        exact ⟨v16, h, by kernel_rfl⟩
  · rintro _ ⟨v1, h, rfl⟩
    unfold millwrightref08_Length.j15 at h
    refine sqJ (fun st' => millwrightref08_Length.j2 k v1 = some out ∧ st' = ⟨[(3, .p I6 v1)], []⟩) ?_ ?_
    · refine WpC.seq ?_
      refine rS {} [1, 3, 19] [1] hN (by kernel_rfl) (by kernel_rfl) ?_
      refine tnU ?_
      refine WpC.block ?_
      refine sqJ (fun st' => ∃ v3 : Bool, millwrightref08_Length.j10 k a0 v1 v3 = some out ∧ st' = ⟨[(1, .loc 1 0), (3, .p I6 v1), (19, .p I6 a0.f_Kind), (20, .p .bool v3)], [(1, .box [.p I6 a0.f_Kind, .p I6 a0.f_Index, .p U6 a0.f_Set, .p (.list (.named 4)) a0.f_Kids])]⟩) ?_ ?_
      · refine WpC.seq ?_
        refine rS {} [1, 3, 19, 20] [1] hN (by kernel_rfl) (by kernel_rfl) ?_
        refine tnU ?_
        refine tS (b := (a0.f_Kind == 1)) (by kernel_rfl) (fun hc11 => ?_) (fun hc11 => ?_)
        · replace h := ite_t hc11 h
          refine WpC.skip ?_
          refine tnU ?_
          exact ⟨(a0.f_Kind == 1), h, by kernel_rfl⟩
        · replace h := ite_f hc11 h
          refine WpC.seq ?_
          refine rS {} [1, 3, 19, 20] [1] hN (by kernel_rfl) (by kernel_rfl) ?_
          refine tnU ?_
          refine tS (b := (a0.f_Kind == 5)) (by kernel_rfl) (fun hc12 => ?_) (fun hc12 => ?_)
          · replace h := ite_t hc12 h
            refine WpC.skip ?_
            refine tnU ?_
            exact ⟨(a0.f_Kind == 5), h, by kernel_rfl⟩
          · replace h := ite_f hc12 h
            refine WpC.seq ?_
            refine rS {} [1, 3, 19, 20] [1] hN (by kernel_rfl) (by kernel_rfl) ?_
            refine tnU ?_
            refine tS (b := (a0.f_Kind == 6)) (by kernel_rfl) (fun hc13 => ?_) (fun hc13 => ?_)
            · replace h := ite_t hc13 h
              refine WpC.skip ?_
              refine tnU ?_
              exact ⟨(a0.f_Kind == 6), h, by kernel_rfl⟩
            · replace h := ite_f hc13 h
              refine WpC.seq ?_
              refine rS {} [1, 3, 19, 20] [1] hN (by kernel_rfl) (by kernel_rfl) ?_
              refine tnU ?_
              refine tS (b := (a0.f_Kind == 8)) (by kernel_rfl) (fun hc14 => ?_) (fun hc14 => ?_)
              · replace h := ite_t hc14 h
                refine WpC.skip ?_
                refine tnU ?_
                exact ⟨(a0.f_Kind == 8), h, by kernel_rfl⟩
              · replace h := ite_f hc14 h
                refine rS {} [1, 3, 19, 20] [1] hN (by kernel_rfl) (by kernel_rfl) ?_
                refine tnU ?_
                exact ⟨(a0.f_Kind == 9), h, by kernel_rfl⟩
      · rintro _ ⟨v3, h, rfl⟩
        unfold millwrightref08_Length.j10 at h
        refine tS (b := v3) (by kernel_rfl) (fun hc4 => ?_) (fun hc4 => ?_)
        · replace h := ite_t hc4 h
          refine WpC.seq ?_
          refine rS {} [2] [] hN (by kernel_rfl) (by kernel_rfl) ?_
          refine tnU ?_
          refine WpC.ret ?_
          refine blockQ_ret ?_
          refine thenQ_ret ?_
          have hq := Option.some.inj h
          subst hq
          exact eR (by kernel_rfl) (by kernel_rfl)
        · replace h := ite_f hc4 h
          refine WpC.seq ?_
          refine rS {} [1, 3, 19, 28] [1] hN (by kernel_rfl) (by kernel_rfl) ?_
          refine tnU ?_
          refine tS (b := (a0.f_Kind == 3)) (by kernel_rfl) (fun hc5 => ?_) (fun hc5 => ?_)
          · replace h := ite_t hc5 h
            refine WpC.seq ?_
            refine rS {} [2] [] hN (by kernel_rfl) (by kernel_rfl) ?_
            refine tnU ?_
            refine WpC.ret ?_
            refine blockQ_ret ?_
            refine thenQ_ret ?_
            have hq := Option.some.inj h
            subst hq
            exact eR (by kernel_rfl) (by kernel_rfl)
          · replace h := ite_f hc5 h
            refine sqJ (fun st' => ∃ v6 : Bool, millwrightref08_Length.j8 k v1 v6 = some out ∧ st' = ⟨[(3, .p I6 v1), (37, .p .bool v6)], []⟩) ?_ ?_
            · refine WpC.seq ?_
              refine rS {} [3, 19, 37] [] hN (by kernel_rfl) (by kernel_rfl) ?_
              refine tnU ?_
              refine tS (b := (a0.f_Kind == 4)) (by kernel_rfl) (fun hc9 => ?_) (fun hc9 => ?_)
              · replace h := ite_t hc9 h
                refine WpC.conv (cS [.k [3, 37] []] (by kernel_rfl) (by kernel_rfl)) (WpC.skip ?_)
                refine tnU ?_
                exact ⟨(a0.f_Kind == 4), h, by kernel_rfl⟩
              · replace h := ite_f hc9 h
                refine rS {} [3, 37] [] hN (by kernel_rfl) (by kernel_rfl) ?_
                refine tnU ?_
                exact ⟨(a0.f_Kind == 7), h, by kernel_rfl⟩
            · rintro _ ⟨v6, h, rfl⟩
              unfold millwrightref08_Length.j8 at h
              refine tS (b := v6) (by kernel_rfl) (fun hc7 => ?_) (fun hc7 => ?_)
              · replace h := ite_t hc7 h
                refine WpC.seq ?_
                refine rS {} [2] [] hN (by kernel_rfl) (by kernel_rfl) ?_
                refine tnU ?_
                refine WpC.ret ?_
                refine blockQ_ret ?_
                refine thenQ_ret ?_
                have hq := Option.some.inj h
                subst hq
                exact eR (by kernel_rfl) (by kernel_rfl)
              · replace h := ite_f hc7 h
                refine WpC.conv (cS [.k [3] []] (by kernel_rfl) (by kernel_rfl)) (WpC.skip ?_)
                refine blockQ_normal ?_
                refine tnU ?_
                exact ⟨h, by kernel_rfl⟩
    · rintro _ ⟨h, rfl⟩
      unfold millwrightref08_Length.j2 at h
      refine WpC.seq ?_
      refine rS {} [2] [] hN (by kernel_rfl) (by kernel_rfl) ?_
      refine tnU ?_
      refine WpC.ret ?_
      have hq := Option.some.inj h
      subst hq
      exact eR (by kernel_rfl) (by kernel_rfl)

theorem scc_millwrightref08_Length.ok (O : Out) (hO : GOkE O) : ∀ k : Nat, (∀ (a0 : T_millwrightref07_Node) (out : Int), millwrightref08_Length.f k a0 = some out → COk Un O Tryd.prog 32 { ar := [.p (.named 4) a0], r := .p (.int .i64) out }) := by
  intro k
  induction k with
  | zero => exact fun a0 out h => (by have h2 : (none : Option Int) = some out := h; cases h2)
  | succ k ih => exact fun a0 out h => millwrightref08_Length.bok O hO k _ ih a0 out h
theorem millwrightref08_Length.ok (O : Out) (hO : GOkE O) (k : Nat) (a0 : T_millwrightref07_Node) (out : Int) (h : millwrightref08_Length.f k a0 = some out) : COk Un O Tryd.prog 32 { ar := [.p (.named 4) a0], r := .p (.int .i64) out } := (scc_millwrightref08_Length.ok O hO k) a0 out h

theorem millwrightref08_Code.bok (O : Out) (hO : GOkE O) (k : Nat) (rf_millwrightref08_Code : T_millwrightref07_Node → Int → Option (List T_millwrightref08_Instr)) (hrf_millwrightref08_Code : ∀ (a0 : T_millwrightref07_Node) (a1 : Int) (out : List T_millwrightref08_Instr), rf_millwrightref08_Code a0 a1 = some out → COk Un O Tryd.prog 18 { ar := [.p (.named 4) a0, .p I6 a1], r := .vec 60500 7 0 out.length, bs' := [(60500, .row 60 (.named 5) out false)], nn := [60500] }) (a0 : T_millwrightref07_Node) (a1 : Int) (out : List T_millwrightref08_Instr) (h : millwrightref08_Code.b k rf_millwrightref08_Code a0 a1 = some out) : COk Un O Tryd.prog 18 { ar := [.p (.named 4) a0, .p I6 a1], r := .vec 60500 7 0 out.length, bs' := [(60500, .row 60 (.named 5) out false)], nn := [60500] } := by
  refine cok_of_wp Tryd.func18 rfl (k := 179) rfl (Nat.le_of_ble_eq_true rfl) (namesOk_of (by kernel_rfl)) ?_
  intro B hN
  refine WpC.conv (cvK (b := ⟨[(0, .p (.named 4) a0), (1, .p I6 a1)], []⟩) [0, 1] [] (by kernel_rfl)) ?_
  unfold millwrightref08_Code.b at h
  refine WpC.seq ?_
  refine rS {} [1, 2] [2] hN (by kernel_rfl) (by kernel_rfl) ?_
  refine tnU ?_
  refine WpC.seq ?_
  obtain ⟨v1, hv1, h⟩ := bind_some h
  refine rS { its := [(2, .c (millwrightref08_Length.ok O hO k (T_millwrightref07_Node.mk a0.f_Kind a0.f_Index a0.f_Set a0.f_Kids) v1 hv1))] } [1, 2, 5] [2] hN (by kernel_rfl) (by kernel_rfl) ?_
  refine tnU ?_
  refine WpC.seq ?_
  refine WpC.seq ?_
  refine rS {} [1, 2, 5, 20] [2] hN (by kernel_rfl) (by kernel_rfl) ?_
  refine tnU ?_
  refine WpC.block ?_
  refine WpC.seq ?_
  refine rS {} [1, 2, 5, 20, 21] [2] hN (by kernel_rfl) (by kernel_rfl) ?_
  refine tnU ?_
  refine tS (b := (a0.f_Kind == 1)) (by kernel_rfl) (fun hc2 => ?_) (fun hc2 => ?_)
  · replace h := ite_t hc2 h
    refine WpC.seq ?_
    refine rS {} [4] [26] hN (by kernel_rfl) (by kernel_rfl) ?_
    refine tnU ?_
    refine WpC.conv (cS [.lo 26, .k [4] [26], .rn 26 60500, .k [4] [60500]] (by kernel_rfl) (by kernel_rfl)) (WpC.ret ?_)
    refine blockQ_ret ?_
    refine thenQ_ret ?_
    have hq := Option.some.inj h
    subst hq
    exact eR (by kernel_rfl) (by kernel_rfl)
  · replace h := ite_f hc2 h
    refine WpC.seq ?_
    refine rS {} [1, 2, 5, 20, 27] [2] hN (by kernel_rfl) (by kernel_rfl) ?_
    refine tnU ?_
    refine tS (b := (a0.f_Kind == 2)) (by kernel_rfl) (fun hc3 => ?_) (fun hc3 => ?_)
    · replace h := ite_t hc3 h
      refine WpC.seq ?_
      refine rSC {} [1, 2, 6] [2, 29] hN (by kernel_rfl) (by kernel_rfl) (cS [.k [1, 2, 6] [2, 29], .x (Conv.cast (U := Un) (st := ⟨[(1, .p I6 a1), (2, .loc 2 0), (6, .vec 29 7 0 (([] : List T_millwrightref08_Instr).length))], [(2, .box [.p I6 a0.f_Kind, .p I6 a0.f_Index, .p U6 a0.f_Set, .p (.list (.named 4)) a0.f_Kids]), (29, .row 60 (.named 5) ([] : List T_millwrightref08_Instr) true)]⟩) (st' := ⟨[(1, .p I6 a1), (2, .loc 2 0), (6, .vec 29 7 0 0)], [(2, .box [.p I6 a0.f_Kind, .p I6 a0.f_Index, .p U6 a0.f_Set, .p (.list (.named 4)) a0.f_Kids]), (29, .row 60 (.named 5) ([] : List T_millwrightref08_Instr) true)]⟩) (by simp only [upd_length, List.length_nil, List.length_replicate]))] (by kernel_rfl) (by kernel_rfl)) ?_
      refine tnU ?_
      refine sqJ (fun st' => ∃ v4 : List T_millwrightref08_Instr, millwrightref08_Code.j5 k v4 = some out ∧ st' = ⟨[(6, .vec 1006 7 0 v4.length)], [(1006, .row 60 (.named 5) v4 false)]⟩) ?_ ?_
      · refine WpC.seq ?_
        refine rS {} [1, 6, 31, 32, 33] [29] hN (by kernel_rfl) (by kernel_rfl) ?_
        refine tnU ?_
        refine WpC.block ?_
        obtain ⟨o10, hlo10, h⟩ := bind_some h
        have hout11 := h
        clear h
        refine WpC.conv (cS [.lo 29, .k [1, 6, 31, 32, 33] [29], .rn 29 1006, .k [1, 6, 31, 32, 33] [1006]] (by kernel_rfl) (by kernel_rfl)) ?_
        refine WpC.loop (U := Un) (fun n st' => ∃ v6 : List T_millwrightref08_Instr, ∃ v7 : Int, millwrightref08_Code.l8 k rf_millwrightref08_Code a0 a1 n v6 v7 = some o10 ∧ st' = ⟨[(1, .p I6 a1), (6, .vec 1006 7 0 v6.length), (31, .p (.list (.named 4)) a0.f_Kids), (32, .p I6 ((a0.f_Kids.length : Int) : Int)), (33, .p I6 v7)], [(1006, .row 60 (.named 5) v6 false)]⟩) k ⟨([] : List T_millwrightref08_Instr), 0, hlo10, by kernel_rfl⟩ ?_
        clear hlo10
        rintro (_ | n) _ ⟨v6, v7, h, rfl⟩
        · cases h
        · rw [millwrightref08_Code.l8] at h
          refine WpC.seq ?_
          refine rS {} [1, 6, 31, 32, 33, 34] [1006] hN (by kernel_rfl) (by kernel_rfl) ?_
          refine tnU ?_
          refine WpC.seq ?_
          refine tS (b := (decide (v7 < (a0.f_Kids.length : Int)))) (by kernel_rfl) (fun hc12 => ?_) (fun hc12 => ?_)
          · replace h := ite_t hc12 h
            refine WpC.conv (cS [.k [1, 6, 31, 32, 33] [1006]] (by kernel_rfl) (by kernel_rfl)) (WpC.skip ?_)
            refine tnU ?_
            refine WpC.seq ?_
            refine WpC.block ?_
            refine WpC.seq ?_
            obtain ⟨v13, hv13, h⟩ := bind_some h
            refine rS { its := [(0, .v (.named 4) hv13)] } [1, 6, 8, 31, 32, 33] [8, 1006] hN (by kernel_rfl) (by kernel_rfl) ?_
            refine tnU ?_
            obtain ⟨v14, hv14, h⟩ := bind_some h
            obtain ⟨g15, h⟩ := if_some h
            refine rS { its := [(6, .c (COk.ren (hrf_millwrightref08_Code (T_millwrightref07_Node.mk v13.f_Kind v13.f_Index v13.f_Set v13.f_Kids) (IntKind.i64.wrap (a1 + (v6.length : Int))) v14 hv14) (fun n => if n = 60500 then 10001 else n) (injOn_of (by kernel_rfl)))), (7, .g g15)] } [1, 6, 31, 32, 33] [44] hN (by kernel_rfl) (by kernel_rfl) ?_
            refine blockQ_normal ?_
            refine tnU ?_
            refine rSC {} [1, 6, 31, 32, 33] [44] hN (by kernel_rfl) (by kernel_rfl) (cS [.rn 44 1006, .k [1, 6, 31, 32, 33] [1006]] (by kernel_rfl) (by kernel_rfl)) ?_
            refine tnU ?_
            exact ⟨n, Nat.lt_succ_self n, (v6 ++ v14), (IntKind.i64.wrap (v7 + 1)), h, by kernel_rfl⟩
          · replace h := ite_f hc12 h
            refine WpC.conv (cS [.k [6] [1006]] (by kernel_rfl) (by kernel_rfl)) (WpC.exit ?_)
            refine thenQ_exit ?_
            have hq := Option.some.inj h
            subst hq
            refine thenQ_exit ?_
            have h := hout11
            refine blockQ_hit ?_
            refine tnU ?_
            exact ⟨v6, h, by kernel_rfl⟩
      · rintro _ ⟨v4, h, rfl⟩
        unfold millwrightref08_Code.j5 at h
        refine WpC.seq ?_
        refine rS {} [4] [1006] hN (by kernel_rfl) (by kernel_rfl) ?_
        refine tnU ?_
        refine WpC.conv (cS [.rn 1006 60500, .k [4] [60500]] (by kernel_rfl) (by kernel_rfl)) (WpC.ret ?_)
        refine blockQ_ret ?_
        refine thenQ_ret ?_
        have hq := Option.some.inj h
        subst hq
        exact eR (by kernel_rfl) (by kernel_rfl)
    · replace h := ite_f hc3 h
      refine WpC.seq ?_
      refine rS {} [1, 2, 5, 20, 47] [2] hN (by kernel_rfl) (by kernel_rfl) ?_
      refine tnU ?_
      refine tS (b := (a0.f_Kind == 3)) (by kernel_rfl) (fun hc17 => ?_) (fun hc17 => ?_)
      · replace h := ite_t hc17 h
        refine WpC.seq ?_
        refine rSC {} [1, 2, 5, 9] [2, 49] hN (by kernel_rfl) (by kernel_rfl) (cS [.k [1, 2, 5, 9] [2, 49], .x (Conv.cast (U := Un) (st := ⟨[(1, .p I6 a1), (2, .loc 2 0), (5, .p I6 ((IntKind.i64.wrap (a1 + v1)) : Int)), (9, .vec 49 7 0 (([] : List T_millwrightref08_Instr).length))], [(2, .box [.p I6 a0.f_Kind, .p I6 a0.f_Index, .p U6 a0.f_Set, .p (.list (.named 4)) a0.f_Kids]), (49, .row 60 (.named 5) ([] : List T_millwrightref08_Instr) true)]⟩) (st' := ⟨[(1, .p I6 a1), (2, .loc 2 0), (5, .p I6 ((IntKind.i64.wrap (a1 + v1)) : Int)), (9, .vec 49 7 0 0)], [(2, .box [.p I6 a0.f_Kind, .p I6 a0.f_Index, .p U6 a0.f_Set, .p (.list (.named 4)) a0.f_Kids]), (49, .row 60 (.named 5) ([] : List T_millwrightref08_Instr) true)]⟩) (by simp only [upd_length, List.length_nil, List.length_replicate]))] (by kernel_rfl) (by kernel_rfl)) ?_
        refine tnU ?_
        refine sqJ (fun st' => ∃ v18 : List T_millwrightref08_Instr, millwrightref08_Code.j19 k v18 = some out ∧ st' = ⟨[(9, .vec 1009 7 0 v18.length)], [(1009, .row 60 (.named 5) v18 false)]⟩) ?_ ?_
        · refine WpC.seq ?_
          refine rS {} [1, 2, 5, 9, 51, 52, 53] [2, 49] hN (by kernel_rfl) (by kernel_rfl) ?_
          refine tnU ?_
          refine WpC.block ?_
          obtain ⟨o24, hlo24, h⟩ := bind_some h
          have hout25 := h
          clear h
          refine WpC.conv (cS [.lo 49, .k [1, 2, 5, 9, 51, 52, 53] [2, 49], .rn 49 1009, .k [1, 2, 5, 9, 51, 52, 53] [2, 1009]] (by kernel_rfl) (by kernel_rfl)) ?_
          refine WpC.loop (U := Un) (fun n st' => ∃ v20 : List T_millwrightref08_Instr, ∃ v21 : Int, millwrightref08_Code.l22 k rf_millwrightref08_Code a0 a1 v1 n v20 v21 = some o24 ∧ st' = ⟨[(1, .p I6 a1), (2, .loc 2 0), (5, .p I6 ((IntKind.i64.wrap (a1 + v1)) : Int)), (9, .vec 1009 7 0 v20.length), (51, .p (.list (.named 4)) a0.f_Kids), (52, .p I6 ((a0.f_Kids.length : Int) : Int)), (53, .p I6 v21)], [(2, .box [.p I6 a0.f_Kind, .p I6 a0.f_Index, .p U6 a0.f_Set, .p (.list (.named 4)) a0.f_Kids]), (1009, .row 60 (.named 5) v20 false)]⟩) k ⟨([] : List T_millwrightref08_Instr), 0, hlo24, by kernel_rfl⟩ ?_
          clear hlo24
          rintro (_ | n) _ ⟨v20, v21, h, rfl⟩
          · cases h
          · rw [millwrightref08_Code.l22] at h
            refine WpC.seq ?_
            refine rS {} [1, 2, 5, 9, 51, 52, 53, 54] [2, 1009] hN (by kernel_rfl) (by kernel_rfl) ?_
            refine tnU ?_
            refine WpC.seq ?_
            refine tS (b := (decide (v21 < (a0.f_Kids.length : Int)))) (by kernel_rfl) (fun hc26 => ?_) (fun hc26 => ?_)
            · replace h := ite_t hc26 h
              refine WpC.conv (cS [.k [1, 2, 5, 9, 51, 52, 53] [2, 1009]] (by kernel_rfl) (by kernel_rfl)) (WpC.skip ?_)
              refine tnU ?_
              refine sqJ (fun st' => ∃ v27 : List T_millwrightref08_Instr, millwrightref08_Code.j28 k (millwrightref08_Code.l22 k rf_millwrightref08_Code a0 a1 v1 n) a0 a1 v1 v21 v27 = some o24 ∧ st' = ⟨[(1, .p I6 a1), (2, .loc 2 0), (5, .p I6 ((IntKind.i64.wrap (a1 + v1)) : Int)), (9, .vec 1009 7 0 v27.length), (51, .p (.list (.named 4)) a0.f_Kids), (52, .p I6 ((a0.f_Kids.length : Int) : Int)), (53, .p I6 v21)], [(2, .box [.p I6 a0.f_Kind, .p I6 a0.f_Index, .p U6 a0.f_Set, .p (.list (.named 4)) a0.f_Kids]), (1009, .row 60 (.named 5) v27 false)]⟩) ?_ ?_
              · refine WpC.block ?_
                refine WpC.seq ?_
                obtain ⟨v29, hv29, h⟩ := bind_some h
                refine rS { its := [(1, .v (.named 4) hv29)] } [1, 2, 5, 9, 10, 11, 51, 52, 53] [2, 11, 1009] hN (by kernel_rfl) (by kernel_rfl) ?_
                refine tnU ?_
                refine WpC.seq ?_
                refine WpC.seq ?_
                refine rS {} [1, 2, 5, 9, 11, 51, 52, 53, 63] [2, 11, 1009] hN (by kernel_rfl) (by kernel_rfl) ?_
                refine tnU ?_
                refine tS (b := (v21 == (IntKind.i64.wrap ((a0.f_Kids.length : Int) - 1)))) (by kernel_rfl) (fun hc30 => ?_) (fun hc30 => ?_)
                · replace h := ite_t hc30 h
                  refine WpC.seq ?_
                  obtain ⟨v31, hv31, h⟩ := bind_some h
                  obtain ⟨g32, h⟩ := if_some h
                  refine rS { its := [(6, .c (COk.ren (hrf_millwrightref08_Code (T_millwrightref07_Node.mk v29.f_Kind v29.f_Index v29.f_Set v29.f_Kids) (IntKind.i64.wrap (a1 + (v20.length : Int))) v31 hv31) (fun n => if n = 60500 then 10002 else n) (injOn_of (by kernel_rfl)))), (7, .g g32)] } [1, 2, 5, 9, 51, 52, 53] [2, 71] hN (by kernel_rfl) (by kernel_rfl) ?_
                  refine tnU ?_
                  refine WpC.conv (cS [.rn 71 1009, .k [1, 2, 5, 9, 51, 52, 53] [2, 1009]] (by kernel_rfl) (by kernel_rfl)) (WpC.exit ?_)
                  refine thenQ_exit ?_
                  refine blockQ_hit ?_
                  refine tnU ?_
                  exact ⟨(v20 ++ v31), h, by kernel_rfl⟩
                · replace h := ite_f hc30 h
                  refine WpC.conv (cS [.k [1, 2, 5, 9, 11, 51, 52, 53] [2, 11, 1009]] (by kernel_rfl) (by kernel_rfl)) (WpC.skip ?_)
                  refine tnU ?_
                  refine WpC.seq ?_
                  refine rS {} [1, 2, 5, 9, 11, 12, 51, 52, 53] [2, 11, 1009] hN (by kernel_rfl) (by kernel_rfl) ?_
                  refine tnU ?_
                  refine WpC.seq ?_
                  obtain ⟨v33, hv33, h⟩ := bind_some h
                  obtain ⟨g34, h⟩ := if_some h
                  refine rS { its := [(6, .c (millwrightref08_Length.ok O hO k (T_millwrightref07_Node.mk v29.f_Kind v29.f_Index v29.f_Set v29.f_Kids) v33 hv33)), (10, .g g34)] } [1, 2, 5, 9, 11, 12, 51, 52, 53] [2, 11, 86] hN (by kernel_rfl) (by kernel_rfl) ?_
                  refine tnU ?_
                  refine WpC.seq ?_
                  obtain ⟨v35, hv35, h⟩ := bind_some h
                  obtain ⟨g36, h⟩ := if_some h
                  refine rS { its := [(4, .c (COk.ren (hrf_millwrightref08_Code (T_millwrightref07_Node.mk v29.f_Kind v29.f_Index v29.f_Set v29.f_Kids) (IntKind.i64.wrap ((IntKind.i64.wrap (a1 + (v20.length : Int))) + 1)) v35 hv35) (fun n => if n = 60500 then 10003 else n) (injOn_of (by kernel_rfl)))), (5, .g g36)] } [1, 2, 5, 9, 51, 52, 53] [2, 92] hN (by kernel_rfl) (by kernel_rfl) ?_
                  refine tnU ?_
                  obtain ⟨g37, h⟩ := if_some h
                  refine rSC { its := [(4, .g g37)] } [1, 2, 5, 9, 51, 52, 53] [2, 97] hN (by kernel_rfl) (by kernel_rfl) (cS [.rn 97 1009, .k [1, 2, 5, 9, 51, 52, 53] [2, 1009]] (by kernel_rfl) (by kernel_rfl)) ?_
                  refine blockQ_normal ?_
                  refine tnU ?_
                  exact ⟨(((v20 ++ [(T_millwrightref08_Instr.mk 1 (IntKind.i64.wrap ((IntKind.i64.wrap (a1 + (v20.length : Int))) + 1)) (IntKind.i64.wrap ((IntKind.i64.wrap ((IntKind.i64.wrap (a1 + (v20.length : Int))) + 2)) + v33)) (List.replicate 4 (0 : Int)))]) ++ v35) ++ [(T_millwrightref08_Instr.mk 2 (IntKind.i64.wrap (a1 + v1)) 0 (List.replicate 4 (0 : Int)))]), h, by kernel_rfl⟩
              · rintro _ ⟨v27, h, rfl⟩
                unfold millwrightref08_Code.j28 at h
                refine rS {} [1, 2, 5, 9, 51, 52, 53] [2, 1009] hN (by kernel_rfl) (by kernel_rfl) ?_
                refine tnU ?_
                exact ⟨n, Nat.lt_succ_self n, v27, (IntKind.i64.wrap (v21 + 1)), h, by kernel_rfl⟩
            · replace h := ite_f hc26 h
              refine WpC.conv (cS [.k [9] [1009]] (by kernel_rfl) (by kernel_rfl)) (WpC.exit ?_)
              refine thenQ_exit ?_
              have hq := Option.some.inj h
              subst hq
              refine thenQ_exit ?_
              have h := hout25
              refine blockQ_hit ?_
              refine tnU ?_
              exact ⟨v20, h, by kernel_rfl⟩
        · rintro _ ⟨v18, h, rfl⟩
          unfold millwrightref08_Code.j19 at h
          refine WpC.seq ?_
          refine rS {} [4] [1009] hN (by kernel_rfl) (by kernel_rfl) ?_
          refine tnU ?_
          refine WpC.conv (cS [.rn 1009 60500, .k [4] [60500]] (by kernel_rfl) (by kernel_rfl)) (WpC.ret ?_)
          refine blockQ_ret ?_
          refine thenQ_ret ?_
          have hq := Option.some.inj h
          subst hq
          exact eR (by kernel_rfl) (by kernel_rfl)
      · replace h := ite_f hc17 h
        refine WpC.seq ?_
        refine rS {} [1, 2, 5, 20, 100] [2] hN (by kernel_rfl) (by kernel_rfl) ?_
        refine tnU ?_
        refine tS (b := (a0.f_Kind == 4)) (by kernel_rfl) (fun hc39 => ?_) (fun hc39 => ?_)
        · replace h := ite_t hc39 h
          refine WpC.seq ?_
          obtain ⟨v40, hv40, h⟩ := bind_some h
          obtain ⟨v41, hv41, h⟩ := bind_some h
          obtain ⟨g42, h⟩ := if_some h
          refine rS { its := [(7, .v (.named 4) hv40), (11, .c (COk.ren (hrf_millwrightref08_Code v40 (IntKind.i64.wrap (a1 + 1)) v41 hv41) (fun n => if n = 60500 then 10004 else n) (injOn_of (by kernel_rfl)))), (12, .g g42)] } [1, 13] [114] hN (by kernel_rfl) (by kernel_rfl) ?_
          refine tnU ?_
          refine WpC.seq ?_
          obtain ⟨g43, h⟩ := if_some h
          refine rS { its := [(4, .g g43)] } [4] [119] hN (by kernel_rfl) (by kernel_rfl) ?_
          refine tnU ?_
          refine WpC.conv (cS [.rn 119 60500, .k [4] [60500]] (by kernel_rfl) (by kernel_rfl)) (WpC.ret ?_)
          refine blockQ_ret ?_
          refine thenQ_ret ?_
          have hq := Option.some.inj h
          subst hq
          exact eR (by kernel_rfl) (by kernel_rfl)
        · replace h := ite_f hc39 h
          refine WpC.seq ?_
          refine rS {} [1, 2, 5, 20, 120] [2] hN (by kernel_rfl) (by kernel_rfl) ?_
          refine tnU ?_
          refine tS (b := (a0.f_Kind == 5)) (by kernel_rfl) (fun hc44 => ?_) (fun hc44 => ?_)
          · replace h := ite_t hc44 h
            refine WpC.seq ?_
            obtain ⟨v45, hv45, h⟩ := bind_some h
            obtain ⟨v46, hv46, h⟩ := bind_some h
            obtain ⟨g47, h⟩ := if_some h
            refine rS { its := [(2, .v (.named 4) hv45), (5, .c (COk.ren (hrf_millwrightref08_Code v45 a1 v46 hv46) (fun n => if n = 60500 then 10005 else n) (injOn_of (by kernel_rfl)))), (10, .g g47)] } [4] [132] hN (by kernel_rfl) (by kernel_rfl) ?_
            refine tnU ?_
            refine WpC.conv (cS [.rn 132 60500, .k [4] [60500]] (by kernel_rfl) (by kernel_rfl)) (WpC.ret ?_)
            refine blockQ_ret ?_
            refine thenQ_ret ?_
            have hq := Option.some.inj h
            subst hq
            exact eR (by kernel_rfl) (by kernel_rfl)
          · replace h := ite_f hc44 h
            refine WpC.seq ?_
            refine rS {} [1, 2, 5, 20, 133] [2] hN (by kernel_rfl) (by kernel_rfl) ?_
            refine tnU ?_
            refine tS (b := (a0.f_Kind == 6)) (by kernel_rfl) (fun hc48 => ?_) (fun hc48 => ?_)
            · replace h := ite_t hc48 h
              refine WpC.seq ?_
              obtain ⟨v49, hv49, h⟩ := bind_some h
              obtain ⟨v50, hv50, h⟩ := bind_some h
              obtain ⟨g51, h⟩ := if_some h
              refine rS { its := [(7, .v (.named 4) hv49), (11, .c (COk.ren (hrf_millwrightref08_Code v49 (IntKind.i64.wrap (a1 + 1)) v50 hv50) (fun n => if n = 60500 then 10006 else n) (injOn_of (by kernel_rfl)))), (12, .g g51)] } [4] [147] hN (by kernel_rfl) (by kernel_rfl) ?_
              refine tnU ?_
              refine WpC.conv (cS [.rn 147 60500, .k [4] [60500]] (by kernel_rfl) (by kernel_rfl)) (WpC.ret ?_)
              refine blockQ_ret ?_
              refine thenQ_ret ?_
              have hq := Option.some.inj h
              subst hq
              exact eR (by kernel_rfl) (by kernel_rfl)
            · replace h := ite_f hc48 h
              refine WpC.seq ?_
              refine rS {} [1, 2, 20, 148] [2] hN (by kernel_rfl) (by kernel_rfl) ?_
              refine tnU ?_
              refine tS (b := (a0.f_Kind == 7)) (by kernel_rfl) (fun hc52 => ?_) (fun hc52 => ?_)
              · replace h := ite_t hc52 h
                refine WpC.seq ?_
                obtain ⟨v53, hv53, h⟩ := bind_some h
                obtain ⟨v54, hv54, h⟩ := bind_some h
                obtain ⟨g55, h⟩ := if_some h
                refine rA { its := [(7, .v (.named 4) hv53), (11, .c (COk.ren (hrf_millwrightref08_Code v53 (IntKind.i64.wrap (a1 + 1)) v54 hv54) (fun n => if n = 60500 then 10007 else n) (injOn_of (by kernel_rfl)))), (12, .g g55)] } [2, 14] [2, 162] hN (by kernel_rfl) (by kernel_rfl) (by kernel_rfl) ?_
                refine tnU ?_
                refine WpC.seq ?_
                obtain ⟨g56, h⟩ := if_some h
                refine rS { its := [(7, .g g56)] } [4] [170] hN (by kernel_rfl) (by kernel_rfl) ?_
                refine tnU ?_
                refine WpC.conv (cS [.rn 170 60500, .k [4] [60500]] (by kernel_rfl) (by kernel_rfl)) (WpC.ret ?_)
                refine blockQ_ret ?_
                refine thenQ_ret ?_
                have hq := Option.some.inj h
                subst hq
                exact eR (by kernel_rfl) (by kernel_rfl)
              · replace h := ite_f hc52 h
                refine WpC.seq ?_
                refine rS {} [20, 171] [] hN (by kernel_rfl) (by kernel_rfl) ?_
                refine tnU ?_
                refine tS (b := (a0.f_Kind == 8)) (by kernel_rfl) (fun hc57 => ?_) (fun hc57 => ?_)
                · replace h := ite_t hc57 h
                  refine WpC.seq ?_
                  refine rS {} [4] [174] hN (by kernel_rfl) (by kernel_rfl) ?_
                  refine tnU ?_
                  refine WpC.conv (cS [.lo 174, .k [4] [174], .rn 174 60500, .k [4] [60500]] (by kernel_rfl) (by kernel_rfl)) (WpC.ret ?_)
                  refine blockQ_ret ?_
                  refine thenQ_ret ?_
                  have hq := Option.some.inj h
                  subst hq
                  exact eR (by kernel_rfl) (by kernel_rfl)
                · replace h := ite_f hc57 h
                  refine WpC.seq ?_
                  refine rS {} [175] [] hN (by kernel_rfl) (by kernel_rfl) ?_
                  refine tnU ?_
                  refine tS (b := (a0.f_Kind == 9)) (by kernel_rfl) (fun hc58 => ?_) (fun hc58 => ?_)
                  · replace h := ite_t hc58 h
                    refine WpC.seq ?_
                    refine rS {} [4] [178] hN (by kernel_rfl) (by kernel_rfl) ?_
                    refine tnU ?_
                    refine WpC.conv (cS [.lo 178, .k [4] [178], .rn 178 60500, .k [4] [60500]] (by kernel_rfl) (by kernel_rfl)) (WpC.ret ?_)
                    refine blockQ_ret ?_
                    refine thenQ_ret ?_
                    have hq := Option.some.inj h
                    subst hq
                    exact eR (by kernel_rfl) (by kernel_rfl)
                  · replace h := ite_f hc58 h
                    refine WpC.conv (cS [.k [] []] (by kernel_rfl) (by kernel_rfl)) (WpC.skip ?_)
                    refine blockQ_normal ?_
                    refine tnU ?_
                    refine WpC.seq ?_
                    refine rS {} [4] [] hN (by kernel_rfl) (by kernel_rfl) ?_
                    refine tnU ?_
                    refine WpC.conv (cS [.th 4 10008 60 (.named 5), .k [4] [10008], .rn 10008 60500, .k [4] [60500]] (by kernel_rfl) (by kernel_rfl)) (WpC.ret ?_)
                    have hq := Option.some.inj h
                    subst hq
                    exact eR (by kernel_rfl) (by kernel_rfl)

theorem scc_millwrightref08_Code.ok (O : Out) (hO : GOkE O) : ∀ k : Nat, (∀ (a0 : T_millwrightref07_Node) (a1 : Int) (out : List T_millwrightref08_Instr), millwrightref08_Code.f k a0 a1 = some out → COk Un O Tryd.prog 18 { ar := [.p (.named 4) a0, .p (.int .i64) a1], r := .vec 60500 7 0 out.length, bs' := [(60500, .row 60 (.named 5) out false)], nn := [60500] }) := by
  intro k
  induction k with
  | zero => exact fun a0 a1 out h => (by have h2 : (none : Option (List T_millwrightref08_Instr)) = some out := h; cases h2)
  | succ k ih => exact fun a0 a1 out h => millwrightref08_Code.bok O hO k _ ih a0 a1 out h
theorem millwrightref08_Code.ok (O : Out) (hO : GOkE O) (k : Nat) (a0 : T_millwrightref07_Node) (a1 : Int) (out : List T_millwrightref08_Instr) (h : millwrightref08_Code.f k a0 a1 = some out) : COk Un O Tryd.prog 18 { ar := [.p (.named 4) a0, .p (.int .i64) a1], r := .vec 60500 7 0 out.length, bs' := [(60500, .row 60 (.named 5) out false)], nn := [60500] } := (scc_millwrightref08_Code.ok O hO k) a0 a1 out h

theorem millwrightref08_Program.ok (O : Out) (hO : GOkE O) (k : Nat) (a0 : T_millwrightref07_Node) (out : List T_millwrightref08_Instr) (h : millwrightref08_Program.f k a0 = some out) : COk Un O Tryd.prog 8 { ar := [.p (.named 4) a0], r := .p (.list (.named 5)) out } := by
  refine cok_of_wp Tryd.func8 rfl (k := 14) rfl (Nat.le_of_ble_eq_true rfl) (namesOk_pure rfl rfl rfl rfl) ?_
  intro B hN
  refine WpC.conv (cvK (b := ⟨[(0, .p (.named 4) a0)], []⟩) [0] [] (by kernel_rfl)) ?_
  unfold millwrightref08_Program.f at h
  refine WpC.seq ?_
  refine rS {} [1] [1] hN (by kernel_rfl) (by kernel_rfl) ?_
  refine tnU ?_
  refine WpC.seq ?_
  obtain ⟨v1, hv1, h⟩ := bind_some h
  obtain ⟨g2, h⟩ := if_some h
  refine rS { its := [(3, .c (COk.ren (millwrightref08_Code.ok O hO k (T_millwrightref07_Node.mk a0.f_Kind a0.f_Index a0.f_Set a0.f_Kids) 1 v1 hv1) (fun n => if n = 60500 then 10001 else n) (injOn_of (by kernel_rfl)))), (4, .g g2)] } [3] [8] hN (by kernel_rfl) (by kernel_rfl) ?_
  refine tnU ?_
  refine WpC.seq ?_
  obtain ⟨g3, h⟩ := if_some h
  refine rS { its := [(4, .g g3)] } [2] [13] hN (by kernel_rfl) (by kernel_rfl) ?_
  refine tnU ?_
  refine WpC.conv (cS [.fz 2, .k [2] []] (by kernel_rfl) (by kernel_rfl)) (WpC.ret ?_)
  have hq := Option.some.inj h
  subst hq
  exact eR (by kernel_rfl) (by kernel_rfl)

theorem millwrightlaw08_same.ok (O : Out) (hO : GOkE O) (k : Nat) (a0 : List T_prog_Instr) (a1 : List T_millwrightref08_Instr) (out : Bool) (h : millwrightlaw08_same.f k a0 a1 = some out) : COk Un O Tryd.prog 9 { ar := [.p (.list (.named 3)) a0, .p (.list (.named 5)) a1], r := .p .bool out } := by
  refine cok_of_wp Tryd.func9 rfl (k := 58) rfl (Nat.le_of_ble_eq_true rfl) (namesOk_pure rfl rfl rfl rfl) ?_
  intro B hN
  refine WpC.conv (cvK (b := ⟨[(0, .p (.list (.named 3)) a0), (1, .p (.list (.named 5)) a1)], []⟩) [0, 1] [] (by kernel_rfl)) ?_
  unfold millwrightlaw08_same.f at h
  refine WpC.seq ?_
  refine rS {} [0, 1] [] hN (by kernel_rfl) (by kernel_rfl) ?_
  refine tnU ?_
  refine WpC.seq ?_
  refine WpC.seq ?_
  refine rS {} [0, 1, 11] [] hN (by kernel_rfl) (by kernel_rfl) ?_
  refine tnU ?_
  refine tS (b := ((a0.length : Int) != (a1.length : Int))) (by kernel_rfl) (fun hc1 => ?_) (fun hc1 => ?_)
  · replace h := ite_t hc1 h
    refine WpC.seq ?_
    refine rS {} [4] [] hN (by kernel_rfl) (by kernel_rfl) ?_
    refine tnU ?_
    refine WpC.ret ?_
    refine thenQ_ret ?_
    have hq := Option.some.inj h
    subst hq
    exact eR (by kernel_rfl) (by kernel_rfl)
  · replace h := ite_f hc1 h
    refine WpC.conv (cS [.k [0, 1] []] (by kernel_rfl) (by kernel_rfl)) (WpC.skip ?_)
    refine tnU ?_
    refine sqJ (fun st' => millwrightlaw08_same.j2 k = some out ∧ st' = ⟨[], []⟩) ?_ ?_
    · refine WpC.seq ?_
      refine rS {} [1, 12, 13, 14] [] hN (by kernel_rfl) (by kernel_rfl) ?_
      refine tnU ?_
      refine WpC.block ?_
      obtain ⟨o5, hlo5, h⟩ := bind_some h
      have hout6 := h
      clear h
      refine WpC.loop (U := Un) (fun n st' => ∃ v3 : Int, millwrightlaw08_same.l4 k a0 a1 n v3 = some o5 ∧ st' = ⟨[(1, .p (.list (.named 5)) a1), (12, .p (.list (.named 3)) a0), (13, .p I6 ((a0.length : Int) : Int)), (14, .p I6 v3)], []⟩) k ⟨0, hlo5, by kernel_rfl⟩ ?_
      clear hlo5
      rintro (_ | n) _ ⟨v3, h, rfl⟩
      · cases h
      · rw [millwrightlaw08_same.l4] at h
        refine WpC.seq ?_
        refine rS {} [1, 12, 13, 14, 15] [] hN (by kernel_rfl) (by kernel_rfl) ?_
        refine tnU ?_
        refine WpC.seq ?_
        refine tS (b := (decide (v3 < (a0.length : Int)))) (by kernel_rfl) (fun hc7 => ?_) (fun hc7 => ?_)
        · replace h := ite_t hc7 h
          refine WpC.conv (cS [.k [1, 12, 13, 14] []] (by kernel_rfl) (by kernel_rfl)) (WpC.skip ?_)
          refine tnU ?_
          refine sqJ (fun st' => millwrightlaw08_same.j8 k (millwrightlaw08_same.l4 k a0 a1 n) a0 a1 v3 = some o5 ∧ st' = ⟨[(1, .p (.list (.named 5)) a1), (12, .p (.list (.named 3)) a0), (13, .p I6 ((a0.length : Int) : Int)), (14, .p I6 v3)], []⟩) ?_ ?_
          · refine WpC.block ?_
            refine WpC.seq ?_
            obtain ⟨v9, hv9, h⟩ := bind_some h
            refine rS { its := [(1, .v (.named 3) hv9)] } [1, 5, 6, 12, 13, 14] [6] hN (by kernel_rfl) (by kernel_rfl) ?_
            refine tnU ?_
            refine sqJ (fun st' => ∃ v10 : Bool, millwrightlaw08_same.j12 k (millwrightlaw08_same.l4 k a0 a1 n) a0 a1 v3 v10 = some o5 ∧ st' = ⟨[(1, .p (.list (.named 5)) a1), (12, .p (.list (.named 3)) a0), (13, .p I6 ((a0.length : Int) : Int)), (14, .p I6 v3), (56, .p .bool v10)], []⟩) ?_ ?_
            · obtain ⟨v13, hv13, h⟩ := bind_some h
              rcases bool_cases (v9.f_Op != v13.f_Op) with hc14 | hc14
              · replace h := ite_t hc14 h
                refine rA { its := [(4, .v (.named 5) hv13)], kn := [(27, .t hc14)] } [1, 12, 13, 14, 56] [] hN (by kernel_rfl) (by kernel_rfl) (by kernel_rfl) ?_
                refine tnU ?_
                exact ⟨true, h, by kernel_rfl⟩
              · replace h := ite_f hc14 h
                obtain ⟨v15, hv15, h⟩ := bind_some h
                rcases bool_cases (v9.f_X != v15.f_X) with hc16 | hc16
                · replace h := ite_t hc16 h
                  refine rA { its := [(4, .v (.named 5) hv13), (13, .v (.named 5) hv15)], kn := [(27, .f hc14), (37, .t hc16)] } [1, 12, 13, 14, 56] [] hN (by kernel_rfl) (by kernel_rfl) (by kernel_rfl) ?_
                  refine tnU ?_
                  exact ⟨true, h, by kernel_rfl⟩
                · replace h := ite_f hc16 h
                  obtain ⟨v17, hv17, h⟩ := bind_some h
                  rcases bool_cases (v9.f_Y != v17.f_Y) with hc18 | hc18
                  · replace h := ite_t hc18 h
                    refine rA { its := [(4, .v (.named 5) hv13), (13, .v (.named 5) hv15), (23, .v (.named 5) hv17)], kn := [(27, .f hc14), (37, .f hc16), (47, .t hc18)] } [1, 12, 13, 14, 56] [] hN (by kernel_rfl) (by kernel_rfl) (by kernel_rfl) ?_
                    refine tnU ?_
                    exact ⟨true, h, by kernel_rfl⟩
                  · replace h := ite_f hc18 h
                    obtain ⟨v19, hv19, h⟩ := bind_some h
                    refine rA { its := [(4, .v (.named 5) hv13), (13, .v (.named 5) hv15), (23, .v (.named 5) hv17), (33, .v (.named 5) hv19), (36, .e 36 (sok_neArr (U := Un) (op := .neq) (rs := [(49, .p U6 v9.f_Set), (54, .p U6 v19.f_Set)]) rfl rfl Tryd.underlying29 Tryd.underlying28 ty_28 (by kernel_rfl) o0 o1))], kn := [(27, .f hc14), (37, .f hc16), (47, .f hc18)] } [1, 12, 13, 14, 56] [] hN (by kernel_rfl) (by kernel_rfl) (by kernel_rfl) ?_
                    refine tnU ?_
                    exact ⟨(!(v9.f_Set == v19.f_Set)), h, by kernel_rfl⟩
            · rintro _ ⟨v10, h, rfl⟩
              unfold millwrightlaw08_same.j12 at h
              refine tS (b := v10) (by kernel_rfl) (fun hc11 => ?_) (fun hc11 => ?_)
              · replace h := ite_t hc11 h
                refine WpC.seq ?_
                refine rS {} [4] [] hN (by kernel_rfl) (by kernel_rfl) ?_
                refine tnU ?_
                refine WpC.ret ?_
                refine blockQ_ret ?_
                refine thenQ_ret ?_
                have hq := Option.some.inj h
                subst hq
                refine thenQ_ret ?_
                have h := hout6
                refine blockQ_ret ?_
                refine thenQ_ret ?_
                have hq := Option.some.inj h
                subst hq
                exact eR (by kernel_rfl) (by kernel_rfl)
              · replace h := ite_f hc11 h
                refine WpC.conv (cS [.k [1, 12, 13, 14] []] (by kernel_rfl) (by kernel_rfl)) (WpC.skip ?_)
                refine blockQ_normal ?_
                refine tnU ?_
                exact ⟨h, by kernel_rfl⟩
          · rintro _ ⟨h, rfl⟩
            unfold millwrightlaw08_same.j8 at h
            refine rS {} [1, 12, 13, 14] [] hN (by kernel_rfl) (by kernel_rfl) ?_
            refine tnU ?_
            exact ⟨n, Nat.lt_succ_self n, (IntKind.i64.wrap (v3 + 1)), h, by kernel_rfl⟩
        · replace h := ite_f hc7 h
          refine WpC.conv (cS [.k [] []] (by kernel_rfl) (by kernel_rfl)) (WpC.exit ?_)
          refine thenQ_exit ?_
          have hq := Option.some.inj h
          subst hq
          refine thenQ_exit ?_
          have h := hout6
          refine blockQ_hit ?_
          refine tnU ?_
          exact ⟨h, by kernel_rfl⟩
    · rintro _ ⟨h, rfl⟩
      unfold millwrightlaw08_same.j2 at h
      refine WpC.seq ?_
      refine rS {} [4] [] hN (by kernel_rfl) (by kernel_rfl) ?_
      refine tnU ?_
      refine WpC.ret ?_
      have hq := Option.some.inj h
      subst hq
      exact eR (by kernel_rfl) (by kernel_rfl)

theorem prog_Closed_1_m0.ok (O : Out) (hO : GOkE O) (k : Nat) (a0 : Int) (a1 : List T_prog_Instr) (out : Bool) (h : prog_Closed_1_m0.f k a0 a1 = some out) : COk Un O Tryd.prog 19 { ar := [.p I6 a0, .loc 100000 0], r := .p .bool out, bs := [(100000, .box [.p (.list (.named 3)) a1])], bs' := [(100000, .box [.p (.list (.named 3)) a1])] } := by
  refine cok_of_wp Tryd.func19 rfl (k := 12) rfl (Nat.le_of_ble_eq_true rfl) (namesOk_of (by kernel_rfl)) ?_
  intro B hN
  refine WpC.conv (cvK (b := ⟨[(0, .p I6 a0), (1, .loc 100000 0)], [(100000, .box [.p (.list (.named 3)) a1])]⟩) [0, 1] [100000] (by kernel_rfl)) ?_
  unfold prog_Closed_1_m0.f at h
  refine WpC.seq ?_
  refine rS {} [0, 1] [100000] hN (by kernel_rfl) (by kernel_rfl) ?_
  refine tnU ?_
  refine WpC.seq ?_
  rcases bool_cases (decide (a0 ≥ 0)) with hc1 | hc1
  · replace h := ite_t hc1 h
    refine rS { kn := [(6, .t hc1)] } [3] [100000] hN (by kernel_rfl) (by kernel_rfl) ?_
    refine tnU ?_
    refine WpC.ret ?_
    have hq := Option.some.inj h
    subst hq
    exact eR (by kernel_rfl) (by kernel_rfl)
  · replace h := ite_f hc1 h
    refine rS { kn := [(6, .f hc1)] } [3] [100000] hN (by kernel_rfl) (by kernel_rfl) ?_
    refine tnU ?_
    refine WpC.ret ?_
    have hq := Option.some.inj h
    subst hq
    exact eR (by kernel_rfl) (by kernel_rfl)

theorem prog_Closed.ok (O : Out) (hO : GOkE O) (k : Nat) (a0 : List T_prog_Instr) (out : Bool) (h : prog_Closed.f k a0 = some out) : COk Un O Tryd.prog 10 { ar := [.p (.list (.named 3)) a0], r := .p .bool out } := by
  refine cok_of_wp Tryd.func10 rfl (k := 47) rfl (Nat.le_of_ble_eq_true rfl) (namesOk_pure rfl rfl rfl rfl) ?_
  intro B hN
  refine WpC.conv (cvK (b := ⟨[(0, .p (.list (.named 3)) a0)], []⟩) [0] [] (by kernel_rfl)) ?_
  unfold prog_Closed.f at h
  refine WpC.seq ?_
  refine rS {} [1] [1] hN (by kernel_rfl) (by kernel_rfl) ?_
  refine tnU ?_
  refine WpC.seq ?_
  refine rS {} [1, 3] [1] hN (by kernel_rfl) (by kernel_rfl) ?_
  refine tnU ?_
  refine sqJ (fun st' => prog_Closed.j1 k a0 = some out ∧ st' = ⟨[(1, .loc 1 0)], [(1, .box [.p (.list (.named 3)) a0])]⟩) ?_ ?_
  · refine WpC.seq ?_
    refine rS {} [1, 3, 8, 9, 10] [1] hN (by kernel_rfl) (by kernel_rfl) ?_
    refine tnU ?_
    refine WpC.block ?_
    obtain ⟨o4, hlo4, h⟩ := bind_some h
    have hout5 := h
    clear h
    refine WpC.loop (U := Un) (fun n st' => ∃ v2 : Int, prog_Closed.l3 k a0 n v2 = some o4 ∧ st' = ⟨[(1, .loc 1 0), (3, .clo 19 [.loc 1 0]), (8, .p (.list (.named 3)) a0), (9, .p I6 ((a0.length : Int) : Int)), (10, .p I6 v2)], [(1, .box [.p (.list (.named 3)) a0])]⟩) k ⟨0, hlo4, by kernel_rfl⟩ ?_
    clear hlo4
    rintro (_ | n) _ ⟨v2, h, rfl⟩
    · cases h
    · rw [prog_Closed.l3] at h
      refine WpC.seq ?_
      refine rS {} [1, 3, 8, 9, 10, 11] [1] hN (by kernel_rfl) (by kernel_rfl) ?_
      refine tnU ?_
      refine WpC.seq ?_
      refine tS (b := (decide (v2 < (a0.length : Int)))) (by kernel_rfl) (fun hc6 => ?_) (fun hc6 => ?_)
      · replace h := ite_t hc6 h
        refine WpC.conv (cS [.k [1, 3, 8, 9, 10] [1]] (by kernel_rfl) (by kernel_rfl)) (WpC.skip ?_)
        refine tnU ?_
        refine sqJ (fun st' => prog_Closed.j7 k (prog_Closed.l3 k a0 n) a0 v2 = some o4 ∧ st' = ⟨[(1, .loc 1 0), (3, .clo 19 [.loc 1 0]), (8, .p (.list (.named 3)) a0), (9, .p I6 ((a0.length : Int) : Int)), (10, .p I6 v2)], [(1, .box [.p (.list (.named 3)) a0])]⟩) ?_ ?_
        · refine WpC.block ?_
          refine WpC.seq ?_
          obtain ⟨v8, hv8, h⟩ := bind_some h
          refine rS { its := [(1, .v (.named 3) hv8)] } [1, 3, 4, 5, 8, 9, 10] [1, 5] hN (by kernel_rfl) (by kernel_rfl) ?_
          refine tnU ?_
          refine WpC.seq ?_
          refine rS {} [1, 3, 4, 5, 8, 9, 10] [1, 5] hN (by kernel_rfl) (by kernel_rfl) ?_
          refine tnU ?_
          refine sqJ (fun st' => ∃ v9 : Bool, prog_Closed.j11 k (prog_Closed.l3 k a0 n) a0 v2 v9 = some o4 ∧ st' = ⟨[(1, .loc 1 0), (3, .clo 19 [.loc 1 0]), (6, .p .bool v9), (8, .p (.list (.named 3)) a0), (9, .p I6 ((a0.length : Int) : Int)), (10, .p I6 v2)], [(1, .box [.p (.list (.named 3)) a0])]⟩) ?_ ?_
          · refine WpC.seq ?_
            refine rS {} [1, 3, 4, 5, 8, 9, 10, 16] [1, 5] hN (by kernel_rfl) (by kernel_rfl) ?_
            refine tnU ?_
            refine WpC.block ?_
            refine WpC.seq ?_
            refine rS {} [1, 3, 4, 5, 8, 9, 10, 16, 21] [1, 5] hN (by kernel_rfl) (by kernel_rfl) ?_
            refine tnU ?_
            refine tS (b := (v8.f_Op == 1)) (by kernel_rfl) (fun hc12 => ?_) (fun hc12 => ?_)
            · replace h := ite_t hc12 h
              obtain ⟨v13, hv13, h⟩ := bind_some h
              rcases bool_cases v13 with hc14 | hc14
              · replace h := ite_t hc14 h
                obtain ⟨v15, hv15, h⟩ := bind_some h
                refine rS { its := [(3, .c (COk.ren (prog_Closed_1_m0.ok O hO k v8.f_X a0 v13 hv13) (fun n => if n = 100000 then 1 else n) (injOn_of (by kernel_rfl)))), (8, .c (COk.ren (prog_Closed_1_m0.ok O hO k v8.f_Y a0 v15 hv15) (fun n => if n = 100000 then 1 else n) (injOn_of (by kernel_rfl))))], kn := [(27, .t hc14)] } [1, 3, 6, 8, 9, 10] [1] hN (by kernel_rfl) (by kernel_rfl) ?_
                refine blockQ_normal ?_
                refine tnU ?_
                exact ⟨v15, h, by kernel_rfl⟩
              · replace h := ite_f hc14 h
                refine rS { its := [(3, .c (COk.ren (prog_Closed_1_m0.ok O hO k v8.f_X a0 v13 hv13) (fun n => if n = 100000 then 1 else n) (injOn_of (by kernel_rfl))))], kn := [(27, .f hc14)] } [1, 3, 6, 8, 9, 10] [1] hN (by kernel_rfl) (by kernel_rfl) ?_
                refine blockQ_normal ?_
                refine tnU ?_
                exact ⟨false, h, by kernel_rfl⟩
            · replace h := ite_f hc12 h
              refine WpC.seq ?_
              refine rS {} [1, 3, 4, 5, 8, 9, 10, 16, 33] [1, 5] hN (by kernel_rfl) (by kernel_rfl) ?_
              refine tnU ?_
              refine tS (b := (v8.f_Op == 2)) (by kernel_rfl) (fun hc16 => ?_) (fun hc16 => ?_)
              · replace h := ite_t hc16 h
                obtain ⟨v17, hv17, h⟩ := bind_some h
                refine rS { its := [(3, .c (COk.ren (prog_Closed_1_m0.ok O hO k v8.f_X a0 v17 hv17) (fun n => if n = 100000 then 1 else n) (injOn_of (by kernel_rfl))))] } [1, 3, 6, 8, 9, 10] [1] hN (by kernel_rfl) (by kernel_rfl) ?_
                refine blockQ_normal ?_
                refine tnU ?_
                exact ⟨v17, h, by kernel_rfl⟩
              · replace h := ite_f hc16 h
                refine WpC.seq ?_
                refine rS {} [1, 3, 4, 8, 9, 10, 39] [1] hN (by kernel_rfl) (by kernel_rfl) ?_
                refine tnU ?_
                refine tS (b := (v8.f_Op == 6)) (by kernel_rfl) (fun hc18 => ?_) (fun hc18 => ?_)
                · replace h := ite_t hc18 h
                  refine rS {} [1, 3, 6, 8, 9, 10] [1] hN (by kernel_rfl) (by kernel_rfl) ?_
                  refine blockQ_normal ?_
                  refine tnU ?_
                  exact ⟨true, h, by kernel_rfl⟩
                · replace h := ite_f hc18 h
                  obtain ⟨v19, hv19, h⟩ := bind_some h
                  refine rS { its := [(3, .c (COk.ren (prog_Closed_1_m0.ok O hO k (IntKind.i64.wrap (v2 + 1)) a0 v19 hv19) (fun n => if n = 100000 then 1 else n) (injOn_of (by kernel_rfl))))] } [1, 3, 6, 8, 9, 10] [1] hN (by kernel_rfl) (by kernel_rfl) ?_
                  refine blockQ_normal ?_
                  refine tnU ?_
                  exact ⟨v19, h, by kernel_rfl⟩
          · rintro _ ⟨v9, h, rfl⟩
            unfold prog_Closed.j11 at h
            refine WpC.seq ?_
            refine rS {} [1, 3, 8, 9, 10, 42] [1] hN (by kernel_rfl) (by kernel_rfl) ?_
            refine tnU ?_
            refine tS (b := (!v9)) (by kernel_rfl) (fun hc10 => ?_) (fun hc10 => ?_)
            · replace h := ite_t hc10 h
              refine WpC.seq ?_
              refine rS {} [2] [] hN (by kernel_rfl) (by kernel_rfl) ?_
              refine tnU ?_
              refine WpC.ret ?_
              refine blockQ_ret ?_
              refine thenQ_ret ?_
              have hq := Option.some.inj h
              subst hq
              refine thenQ_ret ?_
              have h := hout5
              refine blockQ_ret ?_
              refine thenQ_ret ?_
              have hq := Option.some.inj h
              subst hq
              exact eR (by kernel_rfl) (by kernel_rfl)
            · replace h := ite_f hc10 h
              refine WpC.conv (cS [.k [1, 3, 8, 9, 10] [1]] (by kernel_rfl) (by kernel_rfl)) (WpC.skip ?_)
              refine blockQ_normal ?_
              refine tnU ?_
              exact ⟨h, by kernel_rfl⟩
        · rintro _ ⟨h, rfl⟩
          unfold prog_Closed.j7 at h
          refine rS {} [1, 3, 8, 9, 10] [1] hN (by kernel_rfl) (by kernel_rfl) ?_
          refine tnU ?_
          exact ⟨n, Nat.lt_succ_self n, (IntKind.i64.wrap (v2 + 1)), h, by kernel_rfl⟩
      · replace h := ite_f hc6 h
        refine WpC.conv (cS [.k [1] [1]] (by kernel_rfl) (by kernel_rfl)) (WpC.exit ?_)
        refine thenQ_exit ?_
        have hq := Option.some.inj h
        subst hq
        refine thenQ_exit ?_
        have h := hout5
        refine blockQ_hit ?_
        refine tnU ?_
        exact ⟨h, by kernel_rfl⟩
  · rintro _ ⟨h, rfl⟩
    unfold prog_Closed.j1 at h
    refine WpC.seq ?_
    refine rS {} [2] [] hN (by kernel_rfl) (by kernel_rfl) ?_
    refine tnU ?_
    refine WpC.ret ?_
    have hq := Option.some.inj h
    subst hq
    exact eR (by kernel_rfl) (by kernel_rfl)

theorem millwrightlaw08_ProgOf.ok (O : Out) (hO : GOkE O) (k : Nat) (a0 : List UInt8) (out : Bool) (h : millwrightlaw08_ProgOf.f k a0 = some out) : COk Un O Tryd.prog 3 { ar := [.p .str a0], r := .p .bool out } := by
  refine cok_of_wp Tryd.func3 rfl (k := 52) rfl (Nat.le_of_ble_eq_true rfl) (namesOk_pure rfl rfl rfl rfl) ?_
  intro B hN
  refine WpC.conv (cvK (b := ⟨[(0, .p .str a0)], []⟩) [0] [] (by kernel_rfl)) ?_
  unfold millwrightlaw08_ProgOf.f at h
  refine WpC.seq ?_
  refine rS {} [0] [] hN (by kernel_rfl) (by kernel_rfl) ?_
  refine tnU ?_
  refine WpC.seq ?_
  refine WpC.seq ?_
  obtain ⟨v1, hv1, h⟩ := bind_some h
  refine rS { its := [(0, .c (millwrightlaw08_alive.ok O hO k v1 hv1))] } [0, 9] [] hN (by kernel_rfl) (by kernel_rfl) ?_
  refine tnU ?_
  refine tS (b := (!v1)) (by kernel_rfl) (fun hc2 => ?_) (fun hc2 => ?_)
  · replace h := ite_t hc2 h
    refine WpC.seq ?_
    refine rS {} [2] [] hN (by kernel_rfl) (by kernel_rfl) ?_
    refine tnU ?_
    refine WpC.ret ?_
    refine thenQ_ret ?_
    have hq := Option.some.inj h
    subst hq
    exact eR (by kernel_rfl) (by kernel_rfl)
  · replace h := ite_f hc2 h
    refine WpC.conv (cS [.k [0] []] (by kernel_rfl) (by kernel_rfl)) (WpC.skip ?_)
    refine tnU ?_
    refine WpC.seq ?_
    refine WpC.seq ?_
    refine rS {} [0, 12] [] hN (by kernel_rfl) (by kernel_rfl) ?_
    refine tnU ?_
    refine tS (b := (decide ((a0.length : Int) > 100))) (by kernel_rfl) (fun hc3 => ?_) (fun hc3 => ?_)
    · replace h := ite_t hc3 h
      refine WpC.seq ?_
      refine rS {} [2] [] hN (by kernel_rfl) (by kernel_rfl) ?_
      refine tnU ?_
      refine WpC.ret ?_
      refine thenQ_ret ?_
      have hq := Option.some.inj h
      subst hq
      exact eR (by kernel_rfl) (by kernel_rfl)
    · replace h := ite_f hc3 h
      refine WpC.conv (cS [.k [0] []] (by kernel_rfl) (by kernel_rfl)) (WpC.skip ?_)
      refine tnU ?_
      refine WpC.seq ?_
      obtain ⟨v4, hv4, h⟩ := bind_some h
      refine rS { its := [(1, .c (prog_Of.ok O hO k a0 v4 hv4))] } [0, 3, 4] [] hN (by kernel_rfl) (by kernel_rfl) ?_
      refine tnU ?_
      refine WpC.seq ?_
      obtain ⟨v5, hv5, h⟩ := bind_some h
      refine rS { its := [(1, .c (millwrightref07_Parse.ok O hO k a0 v5 hv5))] } [3, 4, 5, 6] [5] hN (by kernel_rfl) (by kernel_rfl) ?_
      refine tnU ?_
      refine WpC.seq ?_
      refine WpC.seq ?_
      refine rS {} [3, 4, 5, 6, 24] [5] hN (by kernel_rfl) (by kernel_rfl) ?_
      refine tnU ?_
      refine tS (b := (v5.2 != 0)) (by kernel_rfl) (fun hc6 => ?_) (fun hc6 => ?_)
      · replace h := ite_t hc6 h
        refine WpC.seq ?_
        rcases bool_cases ((v4.1.length : Int) == 0) with hc7 | hc7
        · replace h := ite_t hc7 h
          obtain ⟨v8, hv8, h⟩ := bind_some h
          refine rS { its := [(5, .c (millwrightnum_Num.ok O hO k v4.2 v8 hv8))], kn := [(28, .t hc7)] } [2] [] hN (by kernel_rfl) (by kernel_rfl) ?_
          refine tnU ?_
          refine WpC.ret ?_
          refine thenQ_ret ?_
          have hq := Option.some.inj h
          subst hq
          exact eR (by kernel_rfl) (by kernel_rfl)
        · replace h := ite_f hc7 h
          refine rS { kn := [(28, .f hc7)] } [2] [] hN (by kernel_rfl) (by kernel_rfl) ?_
          refine tnU ?_
          refine WpC.ret ?_
          refine thenQ_ret ?_
          have hq := Option.some.inj h
          subst hq
          exact eR (by kernel_rfl) (by kernel_rfl)
      · replace h := ite_f hc6 h
        refine WpC.conv (cS [.k [3, 4, 5] [5]] (by kernel_rfl) (by kernel_rfl)) (WpC.skip ?_)
        refine tnU ?_
        refine WpC.seq ?_
        obtain ⟨v9, hv9, h⟩ := bind_some h
        refine rS { its := [(1, .c (millwrightref08_Program.ok O hO k (T_millwrightref07_Node.mk v5.1.f_Kind v5.1.f_Index v5.1.f_Set v5.1.f_Kids) v9 hv9))] } [3, 4, 7] [] hN (by kernel_rfl) (by kernel_rfl) ?_
        refine tnU ?_
        refine WpC.seq ?_
        rcases bool_cases (v4.2 == 0) with hc10 | hc10
        · replace h := ite_t hc10 h
          rcases bool_cases (decide ((v9.length : Int) ≤ 200)) with hc11 | hc11
          · replace h := ite_t hc11 h
            obtain ⟨v12, hv12, h⟩ := bind_some h
            rcases bool_cases v12 with hc13 | hc13
            · replace h := ite_t hc13 h
              obtain ⟨v14, hv14, h⟩ := bind_some h
              refine rS { its := [(10, .c (millwrightlaw08_same.ok O hO k v4.1 v9 v12 hv12)), (14, .c (prog_Closed.ok O hO k v4.1 v14 hv14))], kn := [(38, .t hc10), (43, .t hc11), (48, .t hc13)] } [2] [] hN (by kernel_rfl) (by kernel_rfl) ?_
              refine tnU ?_
              refine WpC.ret ?_
              have hq := Option.some.inj h
              subst hq
              exact eR (by kernel_rfl) (by kernel_rfl)
            · replace h := ite_f hc13 h
              refine rS { its := [(10, .c (millwrightlaw08_same.ok O hO k v4.1 v9 v12 hv12))], kn := [(38, .t hc10), (43, .t hc11), (48, .f hc13)] } [2] [] hN (by kernel_rfl) (by kernel_rfl) ?_
              refine tnU ?_
              refine WpC.ret ?_
              have hq := Option.some.inj h
              subst hq
              exact eR (by kernel_rfl) (by kernel_rfl)
          · replace h := ite_f hc11 h
            refine rS { kn := [(38, .t hc10), (43, .f hc11)] } [2] [] hN (by kernel_rfl) (by kernel_rfl) ?_
            refine tnU ?_
            refine WpC.ret ?_
            have hq := Option.some.inj h
            subst hq
            exact eR (by kernel_rfl) (by kernel_rfl)
        · replace h := ite_f hc10 h
          refine rS { kn := [(38, .f hc10)] } [2] [] hN (by kernel_rfl) (by kernel_rfl) ?_
          refine tnU ?_
          refine WpC.ret ?_
          have hq := Option.some.inj h
          subst hq
          exact eR (by kernel_rfl) (by kernel_rfl)

end Go.Proofs.YtpcobejkpbalcaaDoor
