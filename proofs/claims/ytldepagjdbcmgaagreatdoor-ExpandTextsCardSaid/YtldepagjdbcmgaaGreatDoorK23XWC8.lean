/- A part of the proof of a given law: XWC8. Own work, printed in part by a program of mine. -/
import Derived.Test.YtldepagjdbcmgaaGreatDoorK23XWC7
namespace Go.Proofs.YtldepagjdbcmgaaGreatDoor
open Go Go.AM
set_option linter.unusedVariables false
set_option linter.unusedSimpArgs false
set_option maxRecDepth 100000
set_option maxHeartbeats 4000000
theorem millwrightref17_Text_m0.ok (O : Out) (hO : GOk O) (k : Nat) (a0 : List UInt8) (a1 : List T_env_Var) (a2 : List T_expand_Output) (out : (List (List UInt8)) × Int) (h : millwrightref17_Text_m0.f k a0 a1 a2 = some out) : COk Un O Tryz.prog 10 { ar := [.p .str a0, .loc 100000 0, .p (.list (.named 4)) a2], r := .tup [.p (.list .str) out.1, .p I6 out.2], bs := [(100000, .box [.p (.list (.named 3)) a1])], bs' := [(100000, .box [.p (.list (.named 3)) a1])] } := by
  refine cok_of_wp Tryz.func10 rfl (k := 24) rfl (Nat.le_of_ble_eq_true rfl) (namesOk_of (by kernel_rfl)) ?_
  intro B hN
  refine WpC.conv (cvK (b := ⟨[(0, .p .str a0), (1, .loc 100000 0), (2, .p (.list (.named 4)) a2)], [(100000, .box [.p (.list (.named 3)) a1])]⟩) [0, 1, 2] [100000] (by kernel_rfl)) ?_
  unfold millwrightref17_Text_m0.f at h
  refine WpC.seq ?_
  refine rS {} [0, 1, 2] [100000] hN (by kernel_rfl) (by kernel_rfl) ?_
  refine tnU ?_
  refine WpC.seq ?_
  obtain ⟨v1, hv1, h⟩ := bind_some h
  refine rS { its := [(1, .c (millwrightref13_Words.ok O hO k a0 v1 hv1))] } [1, 2, 8, 9] [100000] hN (by kernel_rfl) (by kernel_rfl) ?_
  refine tnU ?_
  refine WpC.seq ?_
  refine WpC.seq ?_
  refine rS {} [1, 2, 8, 9, 16] [100000] hN (by kernel_rfl) (by kernel_rfl) ?_
  refine tnU ?_
  refine tS (b := (v1.2 != 0)) (by kernel_rfl) (fun hc2 => ?_) (fun hc2 => ?_)
  · replace h := ite_t hc2 h
    refine WpC.seq ?_
    refine rS {} [6, 7] [100000] hN (by kernel_rfl) (by kernel_rfl) ?_
    refine tnU ?_
    refine WpC.conv (cS [.nL 6 .str, .k [6, 7] [100000]] (by kernel_rfl) (by kernel_rfl)) (WpC.ret ?_)
    refine thenQ_ret ?_
    have hq := Option.some.inj h
    subst hq
    exact eR (by kernel_rfl) (by kernel_rfl)
  · replace h := ite_f hc2 h
    refine WpC.conv (cS [.k [1, 2, 8] [100000]] (by kernel_rfl) (by kernel_rfl)) (WpC.skip ?_)
    refine tnU ?_
    refine WpC.seq ?_
    obtain ⟨v3, hv3, h⟩ := bind_some h
    refine rS { its := [(3, .c (COk.ren (millwrightref17_Words_m0.ok O hO k v1.1 a1 a2 v3 hv3) (fun n => if n = 100000 then 100000 else n) (injOn_of (by kernel_rfl))))] } [6, 7] [100000] hN (by kernel_rfl) (by kernel_rfl) ?_
    refine tnU ?_
    refine WpC.ret ?_
    have hq := Option.some.inj h
    subst hq
    exact eR (by kernel_rfl) (by kernel_rfl)

theorem millwrightlaw17_ExpandTexts.ok (O : Out) (hO : GOk O) (k : Nat) (a0 : List UInt8) (a1 : List T_env_Var) (a2 : List T_expand_Output) (out : Bool) (h : millwrightlaw17_ExpandTexts.f k a0 a1 a2 = some out) : COk Un O Tryz.prog 3 { ar := [.p .str a0, .p (.list (.named 3)) a1, .p (.list (.named 4)) a2], r := .p .bool out } := by
  refine cok_of_wp Tryz.func3 rfl (k := 82) rfl (Nat.le_of_ble_eq_true rfl) (namesOk_pure rfl rfl rfl rfl) ?_
  intro B hN
  refine WpC.conv (cvK (b := ⟨[(0, .p .str a0), (1, .p (.list (.named 3)) a1), (2, .p (.list (.named 4)) a2)], []⟩) [0, 1, 2] [] (by kernel_rfl)) ?_
  unfold millwrightlaw17_ExpandTexts.f at h
  refine WpC.seq ?_
  refine rS {} [0, 1, 2] [] hN (by kernel_rfl) (by kernel_rfl) ?_
  refine tnU ?_
  refine WpC.seq ?_
  refine WpC.seq ?_
  obtain ⟨v1, hv1, h⟩ := bind_some h
  refine rS { its := [(0, .c (millwrightlaw17_alive.ok O hO k v1 hv1))] } [0, 1, 2, 19] [] hN (by kernel_rfl) (by kernel_rfl) ?_
  refine tnU ?_
  refine tS (b := (!v1)) (by kernel_rfl) (fun hc2 => ?_) (fun hc2 => ?_)
  · replace h := ite_t hc2 h
    refine WpC.seq ?_
    refine rS {} [6] [] hN (by kernel_rfl) (by kernel_rfl) ?_
    refine tnU ?_
    refine WpC.ret ?_
    refine thenQ_ret ?_
    have hq := Option.some.inj h
    subst hq
    exact eR (by kernel_rfl) (by kernel_rfl)
  · replace h := ite_f hc2 h
    refine WpC.conv (cS [.k [0, 1, 2] []] (by kernel_rfl) (by kernel_rfl)) (WpC.skip ?_)
    refine tnU ?_
    refine sqJ (fun st' => millwrightlaw17_ExpandTexts.j18 k a0 a1 a2 = some out ∧ st' = ⟨[(0, .p .str a0), (1, .p (.list (.named 3)) a1), (2, .p (.list (.named 4)) a2)], []⟩) ?_ ?_
    · refine sqJ (fun st' => ∃ v19 : Bool, millwrightlaw17_ExpandTexts.j21 k a0 a1 a2 v19 = some out ∧ st' = ⟨[(0, .p .str a0), (1, .p (.list (.named 3)) a1), (2, .p (.list (.named 4)) a2), (26, .p .bool v19)], []⟩) ?_ ?_
      · rcases bool_cases (decide ((a0.length : Int) > 200)) with hc22 | hc22
        · replace h := ite_t hc22 h
          refine rS { kn := [(23, .t hc22)] } [0, 1, 2, 26] [] hN (by kernel_rfl) (by kernel_rfl) ?_
          refine tnU ?_
          exact ⟨true, h, by kernel_rfl⟩
        · replace h := ite_f hc22 h
          obtain ⟨v23, hv23, h⟩ := bind_some h
          refine rS { its := [(5, .c (millwrightlaw17_LongOutputs.ok O hO k a2 10 v23 hv23))], kn := [(23, .f hc22)] } [0, 1, 2, 26] [] hN (by kernel_rfl) (by kernel_rfl) ?_
          refine tnU ?_
          exact ⟨v23, h, by kernel_rfl⟩
      · rintro _ ⟨v19, h, rfl⟩
        unfold millwrightlaw17_ExpandTexts.j21 at h
        refine tS (b := v19) (by kernel_rfl) (fun hc20 => ?_) (fun hc20 => ?_)
        · replace h := ite_t hc20 h
          refine WpC.seq ?_
          refine rS {} [6] [] hN (by kernel_rfl) (by kernel_rfl) ?_
          refine tnU ?_
          refine WpC.ret ?_
          refine thenQ_ret ?_
          have hq := Option.some.inj h
          subst hq
          exact eR (by kernel_rfl) (by kernel_rfl)
        · replace h := ite_f hc20 h
          refine WpC.conv (cS [.k [0, 1, 2] []] (by kernel_rfl) (by kernel_rfl)) (WpC.skip ?_)
          refine tnU ?_
          exact ⟨h, by kernel_rfl⟩
    · rintro _ ⟨h, rfl⟩
      unfold millwrightlaw17_ExpandTexts.j18 at h
      refine WpC.seq ?_
      obtain ⟨v3, hv3, h⟩ := bind_some h
      refine rS { its := [(1, .c (COk.ren (millwrightlaw17_Vars.ok O hO k a1 v3 hv3) (fun n => if n = 60500 then 10001 else if n = 60501 then 10002 else if n = 60502 then 10003 else n) (injOn_of (by kernel_rfl))))] } [0, 2, 7, 8, 9] [10001, 10002, 10003] hN (by kernel_rfl) (by kernel_rfl) ?_
      refine tnU ?_
      refine WpC.seq ?_
      refine WpC.seq ?_
      refine rS {} [0, 2, 7, 8, 34] [10001, 10002, 10003] hN (by kernel_rfl) (by kernel_rfl) ?_
      refine tnU ?_
      refine tS (b := (!v3.2.2.2.2)) (by kernel_rfl) (fun hc4 => ?_) (fun hc4 => ?_)
      · replace h := ite_t hc4 h
        refine WpC.seq ?_
        refine rS {} [6] [] hN (by kernel_rfl) (by kernel_rfl) ?_
        refine tnU ?_
        refine WpC.ret ?_
        refine thenQ_ret ?_
        have hq := Option.some.inj h
        subst hq
        exact eR (by kernel_rfl) (by kernel_rfl)
      · replace h := ite_f hc4 h
        refine WpC.conv (cS [.k [0, 2, 7, 8] [10001, 10002, 10003]] (by kernel_rfl) (by kernel_rfl)) (WpC.skip ?_)
        refine tnU ?_
        refine WpC.seq ?_
        obtain ⟨hc5, h⟩ := if_some h
        refine WpC.conv (cS [.oS 7 hc5, .k [0, 2, 7, 8] [10001, 10002, 10003], .oK 10001 hc5, .k [0, 2, 7, 8] [10001, 10002, 10003], .oK 10002 hc5, .k [0, 2, 7, 8] [10001, 10002, 10003]] (by kernel_rfl) (by kernel_rfl)) ?_
        obtain ⟨v6, hv6, h⟩ := bind_some h
        refine rS { its := [(3, .c (COk.ren (expand_Text_m0.ok O hO k a0 v3.2.1 a2 v6 hv6) (fun n => if n = 100000 then 10001 else if n = 100001 then 10002 else n) (injOn_of (by kernel_rfl))))] } [0, 2, 8, 10, 11] [10003] hN (by kernel_rfl) (by kernel_rfl) ?_
        refine tnU ?_
        refine WpC.seq ?_
        obtain ⟨hc7, h⟩ := if_some h
        refine WpC.conv (cS [.oS 8 hc7, .k [0, 2, 8, 10, 11] [10003], .oK 10003 hc7, .k [0, 2, 8, 10, 11] [10003]] (by kernel_rfl) (by kernel_rfl)) ?_
        obtain ⟨v8, hv8, h⟩ := bind_some h
        obtain ⟨v9, hv9, h⟩ := bind_some h
        refine rS { its := [(3, .c (millwrightlaw17_Outputs.ok O hO k a2 v8 hv8)), (4, .c (COk.ren (millwrightref17_Text_m0.ok O hO k a0 v3.2.2.2.1 v8 v9 hv9) (fun n => if n = 100000 then 10003 else n) (injOn_of (by kernel_rfl))))] } [0, 2, 10, 11, 12, 13] [] hN (by kernel_rfl) (by kernel_rfl) ?_
        refine tnU ?_
        refine WpC.seq ?_
        obtain ⟨v10, hv10, h⟩ := bind_some h
        refine rS { its := [(2, .c (expand_Find.ok O hO k a0 a2 v10 hv10))] } [0, 2, 10, 11, 12, 13, 14, 15] [] hN (by kernel_rfl) (by kernel_rfl) ?_
        refine tnU ?_
        refine WpC.seq ?_
        obtain ⟨v11, hv11, h⟩ := bind_some h
        obtain ⟨v12, hv12, h⟩ := bind_some h
        refine rS { its := [(2, .c (millwrightlaw17_Outputs.ok O hO k a2 v11 hv11)), (3, .c (millwrightref17_Find.ok O hO k a0 v11 v12 hv12))] } [10, 11, 12, 13, 14, 15, 16, 17] [] hN (by kernel_rfl) (by kernel_rfl) ?_
        refine tnU ?_
        refine WpC.seq ?_
        obtain ⟨v13, hv13, h⟩ := bind_some h
        rcases bool_cases (v13 == v9.2) with hc14 | hc14
        · replace h := ite_t hc14 h
          obtain ⟨v15, hv15, h⟩ := bind_some h
          rcases bool_cases v15 with hc16 | hc16
          · replace h := ite_t hc16 h
            rcases bool_cases (v10.2 == v12.2) with hc17 | hc17
            · replace h := ite_t hc17 h
              refine rS { its := [(1, .c (millwrightnum_Num.ok O hO k v6.2 v13 hv13)), (7, .c (millwrightnum_SameTexts.ok O hO k v6.1 v9.1 v15 hv15))], kn := [(67, .t hc14), (72, .t hc16), (77, .t hc17)] } [6] [] hN (by kernel_rfl) (by kernel_rfl) ?_
              refine tnU ?_
              refine WpC.ret ?_
              have hq := Option.some.inj h
              subst hq
              exact eR (by kernel_rfl) (by kernel_rfl)
            · replace h := ite_f hc17 h
              refine rS { its := [(1, .c (millwrightnum_Num.ok O hO k v6.2 v13 hv13)), (7, .c (millwrightnum_SameTexts.ok O hO k v6.1 v9.1 v15 hv15))], kn := [(67, .t hc14), (72, .t hc16), (77, .f hc17)] } [6] [] hN (by kernel_rfl) (by kernel_rfl) ?_
              refine tnU ?_
              refine WpC.ret ?_
              have hq := Option.some.inj h
              subst hq
              exact eR (by kernel_rfl) (by kernel_rfl)
          · replace h := ite_f hc16 h
            refine rS { its := [(1, .c (millwrightnum_Num.ok O hO k v6.2 v13 hv13)), (7, .c (millwrightnum_SameTexts.ok O hO k v6.1 v9.1 v15 hv15))], kn := [(67, .t hc14), (72, .f hc16)] } [6] [] hN (by kernel_rfl) (by kernel_rfl) ?_
            refine tnU ?_
            refine WpC.ret ?_
            have hq := Option.some.inj h
            subst hq
            exact eR (by kernel_rfl) (by kernel_rfl)
        · replace h := ite_f hc14 h
          refine rS { its := [(1, .c (millwrightnum_Num.ok O hO k v6.2 v13 hv13))], kn := [(67, .f hc14)] } [6] [] hN (by kernel_rfl) (by kernel_rfl) ?_
          refine tnU ?_
          refine WpC.ret ?_
          have hq := Option.some.inj h
          subst hq
          exact eR (by kernel_rfl) (by kernel_rfl)

end Go.Proofs.YtldepagjdbcmgaaGreatDoor
