/- A part of the proof of a given law: CYC3. Own work, printed in part by a program of mine. -/
import Derived.Test.YtlmhnhlmlhfigaaK41CYC2
namespace Go.Proofs.Ytlmhnhlmlhfigaa
open Go Go.AM
set_option linter.unusedVariables false
set_option linter.unusedSimpArgs false
set_option maxRecDepth 100000
set_option maxHeartbeats 4000000
theorem millwrightlaw25_CycleFinds.ok (O : Out) (k : Nat) (a0 : List T_cycle_Node) (out : Bool) (h : millwrightlaw25_CycleFinds.f k a0 = some out) : COk Un O Try.prog 4 { ar := [.p (.list (.named 3)) a0], r := .p .bool out } := by
 refine cok_of_wp Try.func4 rfl (k := 56) rfl (Nat.le_of_ble_eq_true rfl) (namesOk_pure rfl rfl rfl rfl) ?_
 intro B hN
 refine WpC.conv (cvK (b := ⟨[(0, .p (.list (.named 3)) a0)], []⟩) [0] [] (by kernel_rfl)) ?_
 unfold millwrightlaw25_CycleFinds.f at h
 refine WpC.seq ?_
 refine rS {} [0] [] hN (by kernel_rfl) (by kernel_rfl) ?_
 refine tnU ?_
 refine WpC.seq ?_
 refine WpC.seq ?_
 obtain ⟨v1, hv1, h⟩ := bind_some h
 refine rS { its := [(0, .c (millwrightlaw25_alive.ok O k v1 hv1))] } [0, 13] [] hN (by kernel_rfl) (by kernel_rfl) ?_
 refine tnU ?_
 refine tS (b := (!v1)) (by kernel_rfl) (fun hc2 => ?_) (fun hc2 => ?_)
 ·replace h := ite_t hc2 h
  refine WpC.seq ?_
  refine rS {} [2] [] hN (by kernel_rfl) (by kernel_rfl) ?_
  refine tnU ?_
  refine WpC.ret ?_
  refine thenQ_ret ?_
  have hq := Option.some.inj h
  subst hq
  exact eR (by kernel_rfl) (by kernel_rfl)
 ·replace h := ite_f hc2 h
  refine WpC.conv (cS [.k [0] []] (by kernel_rfl) (by kernel_rfl)) (WpC.skip ?_)
  refine tnU ?_
  refine WpC.seq ?_
  refine WpC.seq ?_
  obtain ⟨v3, hv3, h⟩ := bind_some h
  refine rS { its := [(1, .c (millwrightlaw25_long.ok O k a0 v3 hv3))] } [0, 15] [] hN (by kernel_rfl) (by kernel_rfl) ?_
  refine tnU ?_
  refine tS (b := v3) (by kernel_rfl) (fun hc4 => ?_) (fun hc4 => ?_)
  ·replace h := ite_t hc4 h
   refine WpC.seq ?_
   refine rS {} [2] [] hN (by kernel_rfl) (by kernel_rfl) ?_
   refine tnU ?_
   refine WpC.ret ?_
   refine thenQ_ret ?_
   have hq := Option.some.inj h
   subst hq
   exact eR (by kernel_rfl) (by kernel_rfl)
  ·replace h := ite_f hc4 h
   refine WpC.conv (cS [.k [0] []] (by kernel_rfl) (by kernel_rfl)) (WpC.skip ?_)
   refine tnU ?_
   refine WpC.seq ?_
   obtain ⟨v5, hv5, h⟩ := bind_some h
   refine rS { its := [(1, .c (millwrightlaw25_Of.ok O k a0 v5 hv5))] } [0, 3] [] hN (by kernel_rfl) (by kernel_rfl) ?_
   refine tnU ?_
   refine WpC.seq ?_
   obtain ⟨v6, hv6, h⟩ := bind_some h
   refine rS { its := [(1, .c (cycle_Find.ok O k a0 v6 hv6))] } [0, 3, 4, 5] [] hN (by kernel_rfl) (by kernel_rfl) ?_
   refine tnU ?_
   refine WpC.seq ?_
   obtain ⟨v7, hv7, h⟩ := bind_some h
   refine rS { its := [(1, .c (millwrightref25_Find.ok O k v5 v7 hv7))] } [0, 3, 4, 5, 6, 7] [] hN (by kernel_rfl) (by kernel_rfl) ?_
   refine tnU ?_
   refine WpC.seq ?_
   obtain ⟨v8, hv8, h⟩ := bind_some h
   refine rS { its := [(1, .c (cycle_Order.ok O k a0 v8 hv8))] } [3, 4, 5, 6, 7, 8, 9] [] hN (by kernel_rfl) (by kernel_rfl) ?_
   refine tnU ?_
   refine WpC.seq ?_
   obtain ⟨v9, hv9, h⟩ := bind_some h
   refine rS { its := [(1, .c (millwrightref25_Order.ok O k v5 v9 hv9))] } [4, 5, 6, 7, 8, 9, 10, 11] [] hN (by kernel_rfl) (by kernel_rfl) ?_
   refine tnU ?_
   refine WpC.seq ?_
   rcases bool_cases (v6.2 == v7.2) with hc10 | hc10
   ·replace h := ite_t hc10 h
    obtain ⟨v11, hv11, h⟩ := bind_some h
    rcases bool_cases v11 with hc12 | hc12
    ·replace h := ite_t hc12 h
     rcases bool_cases (v8.2 == v9.2) with hc13 | hc13
     ·replace h := ite_t hc13 h
      obtain ⟨v14, hv14, h⟩ := bind_some h
      refine rS { its := [(6, .c (millwrightnum_SameTexts.ok O k v6.1 v7.1 v11 hv11)), (16, .c (millwrightnum_SameTexts.ok O k v8.1 v9.1 v14 hv14))], kn := [(41, .t hc10), (46, .t hc12), (51, .t hc13)] } [2] [] hN (by kernel_rfl) (by kernel_rfl) ?_
      refine tnU ?_
      refine WpC.ret ?_
      have hq := Option.some.inj h
      subst hq
      exact eR (by kernel_rfl) (by kernel_rfl)
     ·replace h := ite_f hc13 h
      refine rS { its := [(6, .c (millwrightnum_SameTexts.ok O k v6.1 v7.1 v11 hv11))], kn := [(41, .t hc10), (46, .t hc12), (51, .f hc13)] } [2] [] hN (by kernel_rfl) (by kernel_rfl) ?_
      refine tnU ?_
      refine WpC.ret ?_
      have hq := Option.some.inj h
      subst hq
      exact eR (by kernel_rfl) (by kernel_rfl)
    ·replace h := ite_f hc12 h
     refine rS { its := [(6, .c (millwrightnum_SameTexts.ok O k v6.1 v7.1 v11 hv11))], kn := [(41, .t hc10), (46, .f hc12)] } [2] [] hN (by kernel_rfl) (by kernel_rfl) ?_
     refine tnU ?_
     refine WpC.ret ?_
     have hq := Option.some.inj h
     subst hq
     exact eR (by kernel_rfl) (by kernel_rfl)
   ·replace h := ite_f hc10 h
    refine rS { kn := [(41, .f hc10)] } [2] [] hN (by kernel_rfl) (by kernel_rfl) ?_
    refine tnU ?_
    refine WpC.ret ?_
    have hq := Option.some.inj h
    subst hq
    exact eR (by kernel_rfl) (by kernel_rfl)

end Go.Proofs.Ytlmhnhlmlhfigaa
