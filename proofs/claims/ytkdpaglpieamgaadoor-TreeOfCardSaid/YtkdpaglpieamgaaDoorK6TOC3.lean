/- A part of the proof of a given law: TOC3. Own work, printed in part by a program of mine. -/
import Derived.Test.YtkdpaglpieamgaaDoorK6TOC2
namespace Go.Proofs.YtkdpaglpieamgaaDoor
open Go Go.AM
set_option linter.unusedVariables false
set_option linter.unusedSimpArgs false
set_option maxRecDepth 100000
theorem tree_File_60_m0.ok (O : Out) (hO : GOk O) (k : Nat) (a0 : List ((List UInt8) × T_tree_File)) (a1 : List ((List UInt8) × T_tree_File)) (out : Bool) (h : tree_File_60_m0.f k a0 a1 = some out) : COk Un O Tryd.prog 60 { ar := [.mp 100000, .mp 100001], r := .p .bool out, bs := [(100000, .map (.named 3) a0), (100001, .map (.named 3) a1)], bs' := [(100000, .map (.named 3) a0), (100001, .map (.named 3) a1)] } := by
  refine cok_of_wp Tryd.func60 rfl (k := 34) rfl (Nat.le_of_ble_eq_true rfl) (namesOk_of (by kernel_rfl)) ?_
  intro B hN
  refine WpC.conv (cvK (b := ⟨[(0, .mp 100000), (1, .mp 100001)], [(100000, .map (.named 3) a0), (100001, .map (.named 3) a1)]⟩) [0, 1] [100000, 100001] (by kernel_rfl)) ?_
  unfold tree_File_60_m0.f at h
  refine WpC.seq ?_
  refine rgU (st1 := ⟨[(0, .mp 100000), (1, .mp 100001)], [(100000, .map (.named 3) a0), (100001, .map (.named 3) a1)]⟩) [0, 1] [100000, 100001] hN (.cons (moU (rs := []) rfl (.inr rfl) (.bool _ _)) .nil) (by kernel_rfl) (by kernel_rfl) (by kernel_rfl) (cvR _) ?_
  refine tnU ?_
  refine WpC.seq ?_
  refine WpC.seq ?_
  refine rgU (st1 := ⟨[(0, .mp 100000), (1, .mp 100001), (13, .p .bool (((a0.length : Int) != (a1.length : Int)) : Bool))], [(100000, .map (.named 3) a0), (100001, .map (.named 3) a1)]⟩) [0, 1, 13] [100000, 100001] hN (.cons (mvU (v := .mp 100000) rfl rfl) (.cons (sok_lenM (U := Un) (t := .named 3) (kvs := a0) (rs := [(9, .mp 100000)]) rfl rfl map_86 o0) (.cons (mvU (v := .mp 100001) rfl rfl) (.cons (sok_lenM (U := Un) (t := .named 3) (kvs := a1) (rs := [(11, .mp 100001)]) rfl rfl map_86 o0) (.cons (cmU (rs := [(10, .p I6 ((a0.length : Int) : Int)), (12, .p I6 ((a1.length : Int) : Int))]) rfl rfl o0 o1 rfl) .nil))))) (by kernel_rfl) (by kernel_rfl) (by kernel_rfl) (cvR _) ?_
  refine tnU ?_
  refine cdU (b := ((a0.length : Int) != (a1.length : Int))) (.tmp (.tail _ (.tail _ (.head _)))) (fun hc1 => ?_) (fun hc1 => ?_)
  · replace h := ite_t hc1 h
    refine WpC.seq ?_
    refine rgU (st1 := ⟨[(4, .p .bool false)], [(100000, .map (.named 3) a0), (100001, .map (.named 3) a1)]⟩) [4] [100000, 100001] hN (.cons (moU (rs := []) rfl (.inr rfl) (.bool _ _)) .nil) (by kernel_rfl) (by kernel_rfl) (by kernel_rfl) (cvR _) ?_
    refine tnU ?_
    refine WpC.ret ?_
    refine thenQ_ret ?_
    have hq := Option.some.inj h
    subst hq
    exact ends_ret (retV_1 rfl (.head _)) (ain_cons (.head _) (ain_cons (.tail _ (.head _)) ain_nil))
  · replace h := ite_f hc1 h
    refine WpC.conv (cvK (b := ⟨[(0, .mp 100000), (1, .mp 100001)], [(100000, .map (.named 3) a0), (100001, .map (.named 3) a1)]⟩) [0, 1] [100000, 100001] (by kernel_rfl)) (WpC.skip ?_)
    refine tnU ?_
    refine sqJ (fun st' => tree_File_60_m0.j2 k a0 a1 = some out ∧ st' = ⟨[], [(100000, .map (.named 3) a0), (100001, .map (.named 3) a1)]⟩) ?_ ?_
    · refine WpC.seq ?_
      refine WpC.openMap (U := Un) (t := .named 3) (n := 100000) (kvs := a0) (.head _) ?_
      intro es3 ck3 ys3 hys3 hri3
      refine WpC.conv (cvK (b := ⟨[(0, .mp 100000), (1, .mp 100001)], [(100000, .mapE (.named 3) es3 ck3 ys3), (100001, .map (.named 3) a1)]⟩) [0, 1] [100000, 100001] (by kernel_rfl)) ?_
      refine rgU (st1 := ⟨[(1, .mp 100001), (15, .loc 15 0)], [(15, .iter 100000 (.named 3) es3 ck3 ys3 a0 none), (100000, .mapE (.named 3) es3 ck3 ys3), (100001, .map (.named 3) a1)]⟩) [1, 15] [15, 100000, 100001] hN (.cons (mvU (v := .mp 100000) rfl rfl) (.cons (sok_range (U := Un) (t := .named 3) (es := es3) (clock := ck3) (kvs := a0) (rs := [(14, .mp 100000)]) (d := 15) (m := 100000) rfl rfl rfl map_86 hys3 (by decide) o0) .nil)) (by kernel_rfl) (by kernel_rfl) (by kernel_rfl) (cvR _) ?_
      refine tnU ?_
      refine WpC.block ?_
      obtain ⟨o6, hlo6, h⟩ := bind_some h
      have hout7 := h
      clear h
      refine WpC.loop (U := Un) (fun n st' => ∃ v4 : List ((List UInt8) × T_tree_File), tree_File_60_m0.l5 k a1 n v4 = some o6 ∧ st' = ⟨[(1, .mp 100001), (15, .loc 15 0)], [(15, .iter 100000 (.named 3) es3 ck3 ys3 v4 none), (100000, .mapE (.named 3) es3 ck3 ys3), (100001, .map (.named 3) a1)]⟩) k ⟨a0, hlo6, rfl⟩ ?_
      clear hlo6
      rintro (_ | n) _ ⟨v4, h, rfl⟩
      · cases h
      · refine WpC.seq ?_
        refine WpC.next (U := Un) (t := .named 3) (d := 15) (m := 100000) (it := 15) (left := v4) [1, 15, 17] [15, 100000, 100001] hN rfl rfl rfl rfl rfl rfl (by decide) (by decide) (by decide) (.tail _ (.head _)) (.head _) (.tail _ (.head _)) (fun (v8 : (List UInt8) × T_tree_File) (v9 : List ((List UInt8) × T_tree_File)) hp10 ha10 => ⟨⟨[(1, .mp 100001), (15, .loc 15 0), (17, .p .bool true)], [(15, .iter 100000 (.named 3) es3 ck3 ys3 v9 (some v8)), (100000, .mapE (.named 3) es3 ck3 ys3), (100001, .map (.named 3) a1)]⟩, by kernel_rfl, _, (cvR _), ?_⟩) (fun hl10 => ⟨⟨[(1, .mp 100001), (15, .loc 15 0), (17, .p .bool false)], [(15, .iter 100000 (.named 3) es3 ck3 ys3 v4 none), (100000, .mapE (.named 3) es3 ck3 ys3), (100001, .map (.named 3) a1)]⟩, by kernel_rfl, _, (cvR _), ?_⟩)
        · have h := tree_File_60_m0.l5_perm k a1 hp10 ha10 h
          unfold tree_File_60_m0.l5 at h
          obtain ⟨_, h⟩ := if_some h
          refine tnU ?_
          refine WpC.seq ?_
          refine cdU (b := true) (.tmp (.tail _ (.tail _ (.head _)))) (fun hc => ?_) (fun hc => ?_)
          · refine WpC.conv (cvK (b := ⟨[(1, .mp 100001), (15, .loc 15 0)], [(15, .iter 100000 (.named 3) es3 ck3 ys3 v9 (some v8)), (100000, .mapE (.named 3) es3 ck3 ys3), (100001, .map (.named 3) a1)]⟩) [1, 15] [15, 100000, 100001] (by kernel_rfl)) (WpC.skip ?_)
            refine tnU ?_
            refine WpC.block ?_
            refine WpC.seq ?_
            refine rgU (st1 := ⟨[(1, .mp 100001), (5, .p .str v8.1), (6, .loc 6 0), (15, .loc 15 0)], [(6, .box [.p .str v8.2.f_Name, .p .str v8.2.f_Content, .p I6 v8.2.f_Time]), (15, .iter 100000 (.named 3) es3 ck3 ys3 v9 (some v8)), (100000, .mapE (.named 3) es3 ck3 ys3), (100001, .map (.named 3) a1)]⟩) [1, 5, 6, 15] [6, 15, 100000, 100001] hN (.cons (sok_entry (U := Un) (t := .named 3) (rs := [(15, .loc 15 0)]) (d := 15) (m := 100000) (es := es3) (clock := ck3) (ys := ys3) (left := v9) (y := v8) rfl rfl o0) (.cons (exU (rs := [(18, .tup [.p .str v8.1, .p (.named 3) v8.2])]) rfl rfl o0 rfl) (.cons (exU (rs := [(18, .tup [.p .str v8.1, .p (.named 3) v8.2])]) rfl rfl o0 rfl) (.cons (sok_allocZ (U := Un) (rs := []) (d := 6) (us := [.p .str ([] : List UInt8), .p .str ([] : List UInt8), .p I6 (0 : Int)]) (v := (.agg #[.string ByteArray.empty, .string ByteArray.empty, .int .i64 0])) rfl rfl rfl (by kernel_rfl) rfl (.data (fun _ _ _ => rd_str0) (.data (fun _ _ _ => rd_str0) (.data (fun _ _ _ => .int _ _) .nil))) (by kernel_rfl)) (.cons (mvA (v := .p .str v8.1) rfl rfl) (.cons (sok_storeB (U := Un) (rs := [(6, .loc 6 0), (20, .p (.named 3) v8.2)]) (v := .p (.named 3) v8.2) (mid' := [.p .str v8.2.f_Name, .p .str v8.2.f_Content, .p I6 v8.2.f_Time]) [] [.p .str ([] : List UInt8), .p .str ([] : List UInt8), .p I6 (0 : Int)] [] rfl rfl rfl ty_24 o0 o1 (.data (.named (us := ([.p .str v8.2.f_Name, .p .str v8.2.f_Content, .p I6 v8.2.f_Time] : List (AVal Un))) (.pair (.one _ _) (.pair (.one _ _) (.pair (.one _ _) .unit))))) rfl rfl rfl rfl rfl rfl) .nil)))))) (by kernel_rfl) (by kernel_rfl) (by kernel_rfl) (cvR _) ?_
            refine tnU ?_
            refine WpC.seq ?_
            refine rgU (st1 := ⟨[(1, .mp 100001), (6, .loc 6 0), (7, .loc 7 0), (8, .p .bool ((mget v8.1 a1).isSome : Bool)), (15, .loc 15 0)], [(6, .box [.p .str v8.2.f_Name, .p .str v8.2.f_Content, .p I6 v8.2.f_Time]), (7, .box [.p .str (((mget v8.1 a1).getD (T_tree_File.mk [] [] 0)).f_Name : List UInt8), .p .str (((mget v8.1 a1).getD (T_tree_File.mk [] [] 0)).f_Content : List UInt8), .p I6 (((mget v8.1 a1).getD (T_tree_File.mk [] [] 0)).f_Time : Int)]), (15, .iter 100000 (.named 3) es3 ck3 ys3 v9 (some v8)), (100000, .mapE (.named 3) es3 ck3 ys3), (100001, .map (.named 3) a1)]⟩) [1, 6, 7, 8, 15] [6, 7, 15, 100000, 100001] hN (.cons (mvU (v := .mp 100001) rfl rfl) (.cons (mvU (v := .p .str v8.1) rfl rfl) (.cons (sok_lookup2 (U := Un) (t := .named 3) (kvs := a1) (rs := [(22, .mp 100001), (23, .p .str v8.1)]) rfl rfl map_86 zv_24 o0 o1) (.cons (mvU (v := .tup [.p (.named 3) (((mget v8.1 a1).getD (T_tree_File.mk [] [] 0)) : T_tree_File), .p .bool ((mget v8.1 a1).isSome : Bool)]) rfl rfl) (.cons (exU (rs := [(21, .tup [.p (.named 3) (((mget v8.1 a1).getD (T_tree_File.mk [] [] 0)) : T_tree_File), .p .bool ((mget v8.1 a1).isSome : Bool)])]) rfl rfl o0 rfl) (.cons (exU (rs := [(21, .tup [.p (.named 3) (((mget v8.1 a1).getD (T_tree_File.mk [] [] 0)) : T_tree_File), .p .bool ((mget v8.1 a1).isSome : Bool)])]) rfl rfl o0 rfl) (.cons (sok_allocZ (U := Un) (rs := []) (d := 7) (us := [.p .str ([] : List UInt8), .p .str ([] : List UInt8), .p I6 (0 : Int)]) (v := (.agg #[.string ByteArray.empty, .string ByteArray.empty, .int .i64 0])) rfl rfl rfl (by kernel_rfl) rfl (.data (fun _ _ _ => rd_str0) (.data (fun _ _ _ => rd_str0) (.data (fun _ _ _ => .int _ _) .nil))) (by kernel_rfl)) (.cons (sok_storeB (U := Un) (rs := [(7, .loc 7 0), (25, .p (.named 3) (((mget v8.1 a1).getD (T_tree_File.mk [] [] 0)) : T_tree_File))]) (v := .p (.named 3) (((mget v8.1 a1).getD (T_tree_File.mk [] [] 0)) : T_tree_File)) (mid' := [.p .str (((mget v8.1 a1).getD (T_tree_File.mk [] [] 0)).f_Name : List UInt8), .p .str (((mget v8.1 a1).getD (T_tree_File.mk [] [] 0)).f_Content : List UInt8), .p I6 (((mget v8.1 a1).getD (T_tree_File.mk [] [] 0)).f_Time : Int)]) [] [.p .str ([] : List UInt8), .p .str ([] : List UInt8), .p I6 (0 : Int)] [] rfl rfl rfl ty_24 o0 o1 (.data (.named (us := ([.p .str (((mget v8.1 a1).getD (T_tree_File.mk [] [] 0)).f_Name : List UInt8), .p .str (((mget v8.1 a1).getD (T_tree_File.mk [] [] 0)).f_Content : List UInt8), .p I6 (((mget v8.1 a1).getD (T_tree_File.mk [] [] 0)).f_Time : Int)] : List (AVal Un))) (.pair (.one _ _) (.pair (.one _ _) (.pair (.one _ _) .unit))))) rfl rfl rfl rfl rfl rfl) (.cons (mvA (v := .p .bool ((mget v8.1 a1).isSome : Bool)) rfl rfl) .nil))))))))) (by kernel_rfl) (by kernel_rfl) (by kernel_rfl) (cvR _) ?_
            refine tnU ?_
            refine sqJ (fun st' => ∃ v11 : Bool, tree_File_60_m0.j13 k (tree_File_60_m0.l5 k a1 n) a1 v8 v9 v11 = some o6 ∧ st' = ⟨[(1, .mp 100001), (15, .loc 15 0), (33, .p .bool v11)], [(15, .iter 100000 (.named 3) es3 ck3 ys3 v9 (some v8)), (100000, .mapE (.named 3) es3 ck3 ys3), (100001, .map (.named 3) a1)]⟩) ?_ ?_
            · rcases bool_cases (!((mget v8.1 a1).isSome)) with hc14 | hc14
              · replace h := ite_t hc14 h
                refine rgU (st1 := ⟨[(1, .mp 100001), (15, .loc 15 0), (33, .p .bool true)], [(15, .iter 100000 (.named 3) es3 ck3 ys3 v9 (some v8)), (100000, .mapE (.named 3) es3 ck3 ys3), (100001, .map (.named 3) a1)]⟩) [1, 15, 33] [15, 100000, 100001] hN (.cons (mvU (v := .p .bool ((mget v8.1 a1).isSome : Bool)) rfl rfl) (.cons (sok_not (U := Un) (rs := [(27, .p .bool ((mget v8.1 a1).isSome : Bool))]) rfl rfl o0) (.cons (mvU (v := .p .bool ((!((mget v8.1 a1).isSome)) : Bool)) rfl rfl) (.cons (skU rfl rfl hc14) (.cons (skU rfl rfl hc14) (.cons (skU rfl rfl hc14) (.cons (pkT (rs := [(29, .p .bool ((!((mget v8.1 a1).isSome)) : Bool))]) rfl rfl o0 hc14 (.bool _ _)) .nil))))))) (by kernel_rfl) (by kernel_rfl) (by kernel_rfl) (cvR _) ?_
                refine tnU ?_
                exact ⟨true, h, rfl⟩
              · replace h := ite_f hc14 h
                refine rgU (st1 := ⟨[(1, .mp 100001), (15, .loc 15 0), (33, .p .bool ((!(v8.2.f_Name == (((mget v8.1 a1).getD (T_tree_File.mk [] [] 0)).f_Name) && (v8.2.f_Content == (((mget v8.1 a1).getD (T_tree_File.mk [] [] 0)).f_Content) && (v8.2.f_Time == (((mget v8.1 a1).getD (T_tree_File.mk [] [] 0)).f_Time) && true)))) : Bool))], [(15, .iter 100000 (.named 3) es3 ck3 ys3 v9 (some v8)), (100000, .mapE (.named 3) es3 ck3 ys3), (100001, .map (.named 3) a1)]⟩) [1, 15, 33] [15, 100000, 100001] hN (.cons (mvU (v := .p .bool ((mget v8.1 a1).isSome : Bool)) rfl rfl) (.cons (sok_not (U := Un) (rs := [(27, .p .bool ((mget v8.1 a1).isSome : Bool))]) rfl rfl o0) (.cons (mvU (v := .p .bool ((!((mget v8.1 a1).isSome)) : Bool)) rfl rfl) (.cons (sok_run rfl rfl hc14 (ldB (t := .named 3) (rs := [(6, .loc 6 0)]) [] [.p .str v8.2.f_Name, .p .str v8.2.f_Content, .p I6 v8.2.f_Time] [] (v := .p (.named 3) ((T_tree_File.mk v8.2.f_Name v8.2.f_Content v8.2.f_Time) : T_tree_File)) rfl rfl ty_24 o0 rfl rfl rfl rfl (.data (.named (us := ([.p .str v8.2.f_Name, .p .str v8.2.f_Content, .p I6 v8.2.f_Time] : List (AVal Un))) (.pair (.one _ _) (.pair (.one _ _) (.pair (.one _ _) .unit))))))) (.cons (sok_run rfl rfl hc14 (ldB (t := .named 3) (rs := [(7, .loc 7 0)]) [] [.p .str (((mget v8.1 a1).getD (T_tree_File.mk [] [] 0)).f_Name : List UInt8), .p .str (((mget v8.1 a1).getD (T_tree_File.mk [] [] 0)).f_Content : List UInt8), .p I6 (((mget v8.1 a1).getD (T_tree_File.mk [] [] 0)).f_Time : Int)] [] (v := .p (.named 3) ((T_tree_File.mk (((mget v8.1 a1).getD (T_tree_File.mk [] [] 0)).f_Name) (((mget v8.1 a1).getD (T_tree_File.mk [] [] 0)).f_Content) (((mget v8.1 a1).getD (T_tree_File.mk [] [] 0)).f_Time)) : T_tree_File)) rfl rfl ty_24 o0 rfl rfl rfl rfl (.data (.named (us := ([.p .str (((mget v8.1 a1).getD (T_tree_File.mk [] [] 0)).f_Name : List UInt8), .p .str (((mget v8.1 a1).getD (T_tree_File.mk [] [] 0)).f_Content : List UInt8), .p I6 (((mget v8.1 a1).getD (T_tree_File.mk [] [] 0)).f_Time : Int)] : List (AVal Un))) (.pair (.one _ _) (.pair (.one _ _) (.pair (.one _ _) .unit))))))) (.cons (sok_run rfl rfl hc14 (sok_neS (U := Un) (rs := [(30, .p (.named 3) ((T_tree_File.mk v8.2.f_Name v8.2.f_Content v8.2.f_Time) : T_tree_File)), (31, .p (.named 3) ((T_tree_File.mk (((mget v8.1 a1).getD (T_tree_File.mk [] [] 0)).f_Name) (((mget v8.1 a1).getD (T_tree_File.mk [] [] 0)).f_Content) (((mget v8.1 a1).getD (T_tree_File.mk [] [] 0)).f_Time)) : T_tree_File))]) rfl rfl Tryd.underlying24 (by kernel_rfl) (eqf_24 _ Tryd.underlying24) (by kernel_rfl) o0 o1)) (.cons (pkF (rs := [(29, .p .bool ((!((mget v8.1 a1).isSome)) : Bool)), (32, .p .bool ((!(v8.2.f_Name == (((mget v8.1 a1).getD (T_tree_File.mk [] [] 0)).f_Name) && (v8.2.f_Content == (((mget v8.1 a1).getD (T_tree_File.mk [] [] 0)).f_Content) && (v8.2.f_Time == (((mget v8.1 a1).getD (T_tree_File.mk [] [] 0)).f_Time) && true)))) : Bool))]) rfl rfl o0 hc14 o1) .nil))))))) (by kernel_rfl) (by kernel_rfl) (by kernel_rfl) (cvR _) ?_
                refine tnU ?_
                exact ⟨(!(v8.2.f_Name == (((mget v8.1 a1).getD (T_tree_File.mk [] [] 0)).f_Name) && (v8.2.f_Content == (((mget v8.1 a1).getD (T_tree_File.mk [] [] 0)).f_Content) && (v8.2.f_Time == (((mget v8.1 a1).getD (T_tree_File.mk [] [] 0)).f_Time) && true)))), h, rfl⟩
            · rintro _ ⟨v11, h, rfl⟩
              unfold tree_File_60_m0.j13 at h
              refine cdU (b := v11) (.tmp (.tail _ (.tail _ (.head _)))) (fun hc12 => ?_) (fun hc12 => ?_)
              · replace h := ite_t hc12 h
                refine WpC.seq ?_
                refine rgU (st1 := ⟨[(4, .p .bool false)], [(100000, .mapE (.named 3) es3 ck3 ys3), (100001, .map (.named 3) a1)]⟩) [4] [100000, 100001] hN (.cons (moU (rs := []) rfl (.inr rfl) (.bool _ _)) .nil) (by kernel_rfl) (by kernel_rfl) (by kernel_rfl) (cvR _) ?_
                refine tnU ?_
                refine WpC.conv (cvT (Conv.closeMap (U := Un) (t := .named 3) (n := 100000) (.head _) hys3 hri3) (cvK (b := ⟨[(4, .p .bool false)], [(100000, .map (.named 3) a0), (100001, .map (.named 3) a1)]⟩) [4] [100000, 100001] (by kernel_rfl))) (WpC.ret ?_)
                refine blockQ_ret ?_
                have hq := Option.some.inj h
                subst hq
                refine thenQ_ret ?_
                have h := hout7
                refine blockQ_ret ?_
                refine thenQ_ret ?_
                have hq := Option.some.inj h
                subst hq
                exact ends_ret (retV_1 rfl (.head _)) (ain_cons (.head _) (ain_cons (.tail _ (.head _)) ain_nil))
              · replace h := ite_f hc12 h
                refine WpC.conv (cvT (cvK (b := ⟨[(1, .mp 100001), (15, .loc 15 0)], [(15, .iter 100000 (.named 3) es3 ck3 ys3 v9 (some v8)), (100000, .mapE (.named 3) es3 ck3 ys3), (100001, .map (.named 3) a1)]⟩) [1, 15] [15, 100000, 100001] (by kernel_rfl)) (cvT (Conv.iterRest (U := Un) (t := .named 3) (d := 15) (.head _)) (cvK (b := ⟨[(1, .mp 100001), (15, .loc 15 0)], [(15, .iter 100000 (.named 3) es3 ck3 ys3 v9 none), (100000, .mapE (.named 3) es3 ck3 ys3), (100001, .map (.named 3) a1)]⟩) [1, 15] [15, 100000, 100001] (by kernel_rfl)))) (WpC.skip ?_)
                refine blockQ_normal ?_
                refine tnU ?_
                exact ⟨n, Nat.lt_succ_self n, v9, h, rfl⟩
          · cases hc
        · subst hl10
          unfold tree_File_60_m0.l5 at h
          refine tnU ?_
          refine WpC.seq ?_
          refine cdU (b := false) (.tmp (.tail _ (.tail _ (.head _)))) (fun hc => ?_) (fun hc => ?_)
          · cases hc
          · refine WpC.conv (cvT (cvK (b := ⟨[], [(100000, .mapE (.named 3) es3 ck3 ys3), (100001, .map (.named 3) a1)]⟩) [] [100000, 100001] (by kernel_rfl)) (cvT (Conv.closeMap (U := Un) (t := .named 3) (n := 100000) (.head _) hys3 hri3) (cvK (b := ⟨[], [(100000, .map (.named 3) a0), (100001, .map (.named 3) a1)]⟩) [] [100000, 100001] (by kernel_rfl)))) (WpC.exit ?_)
            refine thenQ_exit ?_
            have hq := Option.some.inj h
            subst hq
            refine thenQ_exit ?_
            have h := hout7
            refine blockQ_hit ?_
            refine tnU ?_
            exact ⟨h, rfl⟩
    · rintro _ ⟨h, rfl⟩
      unfold tree_File_60_m0.j2 at h
      refine WpC.seq ?_
      refine rgU (st1 := ⟨[(4, .p .bool true)], [(100000, .map (.named 3) a0), (100001, .map (.named 3) a1)]⟩) [4] [100000, 100001] hN (.cons (moU (rs := []) rfl (.inr rfl) (.bool _ _)) .nil) (by kernel_rfl) (by kernel_rfl) (by kernel_rfl) (cvR _) ?_
      refine tnU ?_
      refine WpC.ret ?_
      have hq := Option.some.inj h
      subst hq
      exact ends_ret (retV_1 rfl (.head _)) (ain_cons (.head _) (ain_cons (.tail _ (.head _)) ain_nil))

theorem tree_Same_m0.ok (O : Out) (hO : GOk O) (k : Nat) (a0 : List ((List UInt8) × T_tree_File)) (a1 : List ((List UInt8) × T_tree_File)) (out : Bool) (h : tree_Same_m0.f k a0 a1 = some out) : COk Un O Tryd.prog 29 { ar := [.loc 100000 0, .loc 100002 0], r := .p .bool out, bs := [(100000, .box [.mp 100001]), (100001, .map (.named 3) a0), (100002, .box [.mp 100003]), (100003, .map (.named 3) a1)], bs' := [(100000, .box [.mp 100001]), (100001, .map (.named 3) a0), (100002, .box [.mp 100003]), (100003, .map (.named 3) a1)] } := by
  refine cok_of_wp Tryd.func29 rfl (k := 14) rfl (Nat.le_of_ble_eq_true rfl) (namesOk_of (by kernel_rfl)) ?_
  intro B hN
  refine WpC.conv (cvK (b := ⟨[(0, .loc 100000 0), (1, .loc 100002 0)], [(100000, .box [.mp 100001]), (100001, .map (.named 3) a0), (100002, .box [.mp 100003]), (100003, .map (.named 3) a1)]⟩) [0, 1] [100000, 100001, 100002, 100003] (by kernel_rfl)) ?_
  unfold tree_Same_m0.f at h
  refine WpC.seq ?_
  refine rgU (st1 := ⟨[(0, .loc 100000 0), (1, .loc 100002 0)], [(100000, .box [.mp 100001]), (100001, .map (.named 3) a0), (100002, .box [.mp 100003]), (100003, .map (.named 3) a1)]⟩) [0, 1] [100000, 100001, 100002, 100003] hN (.cons (moU (rs := []) rfl (.inr rfl) (.bool _ _)) .nil) (by kernel_rfl) (by kernel_rfl) (by kernel_rfl) (cvR _) ?_
  refine tnU ?_
  refine WpC.seq ?_
  obtain ⟨v1, hv1, h⟩ := bind_some h
  refine WpC.regA (U := Un) (st1 := ⟨[(4, .p .bool v1)], [(100000, .box [.mp 100001]), (100001, .map (.named 3) a0), (100002, .box [.mp 100003]), (100003, .map (.named 3) a1)]⟩) [4] [100000, 100001, 100002, 100003] [[], [0], [0, 1], [0, 1, 2], [], [4], [4, 5], [4, 5, 6], [0, 1, 2, 3, 4, 5, 6, 7], [0, 1, 2, 3, 4, 5, 6, 7, 8]] mixed hN (.cons (mvU (v := .loc 100000 0) rfl rfl) (.cons (nlU (rs := [(5, .loc 100000 0)]) rfl rfl o0 rfl) (.cons (fdB (rs := [(6, .loc 100000 0)]) rfl rfl fd_89_0 (by decide) o0) (.cons (ldB (t := .bool) (rs := [(7, .loc 100000 0)]) [] [.mp 100001] [] (v := .mp 100001) rfl rfl ty1_86 o0 rfl rfl rfl rfl (.hand rfl rfl)) (.cons (mvU (v := .loc 100002 0) rfl rfl) (.cons (nlU (rs := [(9, .loc 100002 0)]) rfl rfl o0 rfl) (.cons (fdB (rs := [(10, .loc 100002 0)]) rfl rfl fd_89_0 (by decide) o0) (.cons (ldB (t := .bool) (rs := [(11, .loc 100002 0)]) [] [.mp 100003] [] (v := .mp 100003) rfl rfl ty1_86 o0 rfl rfl rfl rfl (.hand rfl rfl)) (.cons (caV (rs := [(8, .mp 100001), (12, .mp 100003)]) (vw := []) rfl rfl (.func _) hb_60 (COk.ren (tree_File_60_m0.ok O hO k a0 a1 v1 hv1) (fun n => if n = 100000 then 100001 else if n = 100001 then 100003 else n) (injOn_of (by kernel_rfl))) (.cons o0 (.cons o1 .nil)) (.cons (.same _) (.cons (.same _) .nil)) (by simp) (.inl rfl)) (.cons (mvA (v := .p .bool v1) rfl rfl) .nil)))))))))) (by kernel_rfl) (by kernel_rfl) (by kernel_rfl) (by kernel_rfl) (by kernel_rfl) (cvR _) ?_
  refine tnU ?_
  refine WpC.ret ?_
  have hq := Option.some.inj h
  subst hq
  exact ends_ret (retV_1 rfl (.head _)) (ain_cons (.head _) (ain_cons (.tail _ (.head _)) (ain_cons (.tail _ (.tail _ (.head _))) (ain_cons (.tail _ (.tail _ (.tail _ (.head _)))) ain_nil))))

theorem tree_File_60_m1.ok (O : Out) (hO : GOk O) (k : Nat) (a0 : List ((List UInt8) × T_tree_File)) (out : Bool) (h : tree_File_60_m1.f k a0 = some out) : COk Un O Tryd.prog 60 { ar := [.mp 100000, .mp 100000], r := .p .bool out, bs := [(100000, .map (.named 3) a0)], bs' := [(100000, .map (.named 3) a0)] } := by
  refine cok_of_wp Tryd.func60 rfl (k := 34) rfl (Nat.le_of_ble_eq_true rfl) (namesOk_of (by kernel_rfl)) ?_
  intro B hN
  refine WpC.conv (cvK (b := ⟨[(0, .mp 100000), (1, .mp 100000)], [(100000, .map (.named 3) a0)]⟩) [0, 1] [100000] (by kernel_rfl)) ?_
  unfold tree_File_60_m1.f at h
  refine WpC.seq ?_
  refine rgU (st1 := ⟨[(0, .mp 100000), (1, .mp 100000)], [(100000, .map (.named 3) a0)]⟩) [0, 1] [100000] hN (.cons (moU (rs := []) rfl (.inr rfl) (.bool _ _)) .nil) (by kernel_rfl) (by kernel_rfl) (by kernel_rfl) (cvR _) ?_
  refine tnU ?_
  refine WpC.seq ?_
  refine WpC.seq ?_
  refine rgU (st1 := ⟨[(0, .mp 100000), (1, .mp 100000), (13, .p .bool (((a0.length : Int) != (a0.length : Int)) : Bool))], [(100000, .map (.named 3) a0)]⟩) [0, 1, 13] [100000] hN (.cons (mvU (v := .mp 100000) rfl rfl) (.cons (sok_lenM (U := Un) (t := .named 3) (kvs := a0) (rs := [(9, .mp 100000)]) rfl rfl map_86 o0) (.cons (mvU (v := .mp 100000) rfl rfl) (.cons (sok_lenM (U := Un) (t := .named 3) (kvs := a0) (rs := [(11, .mp 100000)]) rfl rfl map_86 o0) (.cons (cmU (rs := [(10, .p I6 ((a0.length : Int) : Int)), (12, .p I6 ((a0.length : Int) : Int))]) rfl rfl o0 o1 rfl) .nil))))) (by kernel_rfl) (by kernel_rfl) (by kernel_rfl) (cvR _) ?_
  refine tnU ?_
  refine cdU (b := ((a0.length : Int) != (a0.length : Int))) (.tmp (.tail _ (.tail _ (.head _)))) (fun hc1 => ?_) (fun hc1 => ?_)
  · replace h := ite_t hc1 h
    refine WpC.seq ?_
    refine rgU (st1 := ⟨[(4, .p .bool false)], [(100000, .map (.named 3) a0)]⟩) [4] [100000] hN (.cons (moU (rs := []) rfl (.inr rfl) (.bool _ _)) .nil) (by kernel_rfl) (by kernel_rfl) (by kernel_rfl) (cvR _) ?_
    refine tnU ?_
    refine WpC.ret ?_
    refine thenQ_ret ?_
    have hq := Option.some.inj h
    subst hq
    exact ends_ret (retV_1 rfl (.head _)) (ain_cons (.head _) ain_nil)
  · replace h := ite_f hc1 h
    refine WpC.conv (cvK (b := ⟨[(0, .mp 100000), (1, .mp 100000)], [(100000, .map (.named 3) a0)]⟩) [0, 1] [100000] (by kernel_rfl)) (WpC.skip ?_)
    refine tnU ?_
    refine sqJ (fun st' => tree_File_60_m1.j2 k a0 = some out ∧ st' = ⟨[], [(100000, .map (.named 3) a0)]⟩) ?_ ?_
    · refine WpC.seq ?_
      refine WpC.openMap (U := Un) (t := .named 3) (n := 100000) (kvs := a0) (.head _) ?_
      intro es3 ck3 ys3 hys3 hri3
      refine WpC.conv (cvK (b := ⟨[(0, .mp 100000), (1, .mp 100000)], [(100000, .mapE (.named 3) es3 ck3 ys3)]⟩) [0, 1] [100000] (by kernel_rfl)) ?_
      refine rgU (st1 := ⟨[(1, .mp 100000), (15, .loc 15 0)], [(15, .iter 100000 (.named 3) es3 ck3 ys3 a0 none), (100000, .mapE (.named 3) es3 ck3 ys3)]⟩) [1, 15] [15, 100000] hN (.cons (mvU (v := .mp 100000) rfl rfl) (.cons (sok_range (U := Un) (t := .named 3) (es := es3) (clock := ck3) (kvs := a0) (rs := [(14, .mp 100000)]) (d := 15) (m := 100000) rfl rfl rfl map_86 hys3 (by decide) o0) .nil)) (by kernel_rfl) (by kernel_rfl) (by kernel_rfl) (cvR _) ?_
      refine tnU ?_
      refine WpC.block ?_
      obtain ⟨o6, hlo6, h⟩ := bind_some h
      have hout7 := h
      clear h
      refine WpC.loop (U := Un) (fun n st' => ∃ v4 : List ((List UInt8) × T_tree_File), tree_File_60_m1.l5 k a0 n v4 = some o6 ∧ st' = ⟨[(1, .mp 100000), (15, .loc 15 0)], [(15, .iter 100000 (.named 3) es3 ck3 ys3 v4 none), (100000, .mapE (.named 3) es3 ck3 ys3)]⟩) k ⟨a0, hlo6, rfl⟩ ?_
      clear hlo6
      rintro (_ | n) _ ⟨v4, h, rfl⟩
      · cases h
      · refine WpC.seq ?_
        refine WpC.next (U := Un) (t := .named 3) (d := 15) (m := 100000) (it := 15) (left := v4) [1, 15, 17] [15, 100000] hN rfl rfl rfl rfl rfl rfl (by decide) (by decide) (by decide) (.tail _ (.head _)) (.head _) (.tail _ (.head _)) (fun (v8 : (List UInt8) × T_tree_File) (v9 : List ((List UInt8) × T_tree_File)) hp10 ha10 => ⟨⟨[(1, .mp 100000), (15, .loc 15 0), (17, .p .bool true)], [(15, .iter 100000 (.named 3) es3 ck3 ys3 v9 (some v8)), (100000, .mapE (.named 3) es3 ck3 ys3)]⟩, by kernel_rfl, _, (cvR _), ?_⟩) (fun hl10 => ⟨⟨[(1, .mp 100000), (15, .loc 15 0), (17, .p .bool false)], [(15, .iter 100000 (.named 3) es3 ck3 ys3 v4 none), (100000, .mapE (.named 3) es3 ck3 ys3)]⟩, by kernel_rfl, _, (cvR _), ?_⟩)
        · have h := tree_File_60_m1.l5_perm k a0 hp10 ha10 h
          unfold tree_File_60_m1.l5 at h
          obtain ⟨_, h⟩ := if_some h
          refine tnU ?_
          refine WpC.seq ?_
          refine cdU (b := true) (.tmp (.tail _ (.tail _ (.head _)))) (fun hc => ?_) (fun hc => ?_)
          · refine WpC.conv (cvK (b := ⟨[(1, .mp 100000), (15, .loc 15 0)], [(15, .iter 100000 (.named 3) es3 ck3 ys3 v9 (some v8)), (100000, .mapE (.named 3) es3 ck3 ys3)]⟩) [1, 15] [15, 100000] (by kernel_rfl)) (WpC.skip ?_)
            refine tnU ?_
            refine WpC.block ?_
            refine WpC.seq ?_
            refine rgU (st1 := ⟨[(1, .mp 100000), (5, .p .str v8.1), (6, .loc 6 0), (15, .loc 15 0)], [(6, .box [.p .str v8.2.f_Name, .p .str v8.2.f_Content, .p I6 v8.2.f_Time]), (15, .iter 100000 (.named 3) es3 ck3 ys3 v9 (some v8)), (100000, .mapE (.named 3) es3 ck3 ys3)]⟩) [1, 5, 6, 15] [6, 15, 100000] hN (.cons (sok_entry (U := Un) (t := .named 3) (rs := [(15, .loc 15 0)]) (d := 15) (m := 100000) (es := es3) (clock := ck3) (ys := ys3) (left := v9) (y := v8) rfl rfl o0) (.cons (exU (rs := [(18, .tup [.p .str v8.1, .p (.named 3) v8.2])]) rfl rfl o0 rfl) (.cons (exU (rs := [(18, .tup [.p .str v8.1, .p (.named 3) v8.2])]) rfl rfl o0 rfl) (.cons (sok_allocZ (U := Un) (rs := []) (d := 6) (us := [.p .str ([] : List UInt8), .p .str ([] : List UInt8), .p I6 (0 : Int)]) (v := (.agg #[.string ByteArray.empty, .string ByteArray.empty, .int .i64 0])) rfl rfl rfl (by kernel_rfl) rfl (.data (fun _ _ _ => rd_str0) (.data (fun _ _ _ => rd_str0) (.data (fun _ _ _ => .int _ _) .nil))) (by kernel_rfl)) (.cons (mvA (v := .p .str v8.1) rfl rfl) (.cons (sok_storeB (U := Un) (rs := [(6, .loc 6 0), (20, .p (.named 3) v8.2)]) (v := .p (.named 3) v8.2) (mid' := [.p .str v8.2.f_Name, .p .str v8.2.f_Content, .p I6 v8.2.f_Time]) [] [.p .str ([] : List UInt8), .p .str ([] : List UInt8), .p I6 (0 : Int)] [] rfl rfl rfl ty_24 o0 o1 (.data (.named (us := ([.p .str v8.2.f_Name, .p .str v8.2.f_Content, .p I6 v8.2.f_Time] : List (AVal Un))) (.pair (.one _ _) (.pair (.one _ _) (.pair (.one _ _) .unit))))) rfl rfl rfl rfl rfl rfl) .nil)))))) (by kernel_rfl) (by kernel_rfl) (by kernel_rfl) (cvR _) ?_
            refine tnU ?_
            refine WpC.seq ?_
            refine rgU (st1 := ⟨[(1, .mp 100000), (6, .loc 6 0), (7, .loc 7 0), (8, .p .bool ((mget v8.1 a0).isSome : Bool)), (15, .loc 15 0)], [(6, .box [.p .str v8.2.f_Name, .p .str v8.2.f_Content, .p I6 v8.2.f_Time]), (7, .box [.p .str (((mget v8.1 a0).getD (T_tree_File.mk [] [] 0)).f_Name : List UInt8), .p .str (((mget v8.1 a0).getD (T_tree_File.mk [] [] 0)).f_Content : List UInt8), .p I6 (((mget v8.1 a0).getD (T_tree_File.mk [] [] 0)).f_Time : Int)]), (15, .iter 100000 (.named 3) es3 ck3 ys3 v9 (some v8)), (100000, .mapE (.named 3) es3 ck3 ys3)]⟩) [1, 6, 7, 8, 15] [6, 7, 15, 100000] hN (.cons (mvU (v := .mp 100000) rfl rfl) (.cons (mvU (v := .p .str v8.1) rfl rfl) (.cons (sok_lookup2E (U := Un) (t := .named 3) (es := es3) (clock := ck3) (ys := ys3) (kvs := a0) (rs := [(22, .mp 100000), (23, .p .str v8.1)]) hys3 hri3 rfl rfl map_86 zv_24 o0 o1) (.cons (mvU (v := .tup [.p (.named 3) (((mget v8.1 a0).getD (T_tree_File.mk [] [] 0)) : T_tree_File), .p .bool ((mget v8.1 a0).isSome : Bool)]) rfl rfl) (.cons (exU (rs := [(21, .tup [.p (.named 3) (((mget v8.1 a0).getD (T_tree_File.mk [] [] 0)) : T_tree_File), .p .bool ((mget v8.1 a0).isSome : Bool)])]) rfl rfl o0 rfl) (.cons (exU (rs := [(21, .tup [.p (.named 3) (((mget v8.1 a0).getD (T_tree_File.mk [] [] 0)) : T_tree_File), .p .bool ((mget v8.1 a0).isSome : Bool)])]) rfl rfl o0 rfl) (.cons (sok_allocZ (U := Un) (rs := []) (d := 7) (us := [.p .str ([] : List UInt8), .p .str ([] : List UInt8), .p I6 (0 : Int)]) (v := (.agg #[.string ByteArray.empty, .string ByteArray.empty, .int .i64 0])) rfl rfl rfl (by kernel_rfl) rfl (.data (fun _ _ _ => rd_str0) (.data (fun _ _ _ => rd_str0) (.data (fun _ _ _ => .int _ _) .nil))) (by kernel_rfl)) (.cons (sok_storeB (U := Un) (rs := [(7, .loc 7 0), (25, .p (.named 3) (((mget v8.1 a0).getD (T_tree_File.mk [] [] 0)) : T_tree_File))]) (v := .p (.named 3) (((mget v8.1 a0).getD (T_tree_File.mk [] [] 0)) : T_tree_File)) (mid' := [.p .str (((mget v8.1 a0).getD (T_tree_File.mk [] [] 0)).f_Name : List UInt8), .p .str (((mget v8.1 a0).getD (T_tree_File.mk [] [] 0)).f_Content : List UInt8), .p I6 (((mget v8.1 a0).getD (T_tree_File.mk [] [] 0)).f_Time : Int)]) [] [.p .str ([] : List UInt8), .p .str ([] : List UInt8), .p I6 (0 : Int)] [] rfl rfl rfl ty_24 o0 o1 (.data (.named (us := ([.p .str (((mget v8.1 a0).getD (T_tree_File.mk [] [] 0)).f_Name : List UInt8), .p .str (((mget v8.1 a0).getD (T_tree_File.mk [] [] 0)).f_Content : List UInt8), .p I6 (((mget v8.1 a0).getD (T_tree_File.mk [] [] 0)).f_Time : Int)] : List (AVal Un))) (.pair (.one _ _) (.pair (.one _ _) (.pair (.one _ _) .unit))))) rfl rfl rfl rfl rfl rfl) (.cons (mvA (v := .p .bool ((mget v8.1 a0).isSome : Bool)) rfl rfl) .nil))))))))) (by kernel_rfl) (by kernel_rfl) (by kernel_rfl) (cvR _) ?_
            refine tnU ?_
            refine sqJ (fun st' => ∃ v11 : Bool, tree_File_60_m1.j13 k (tree_File_60_m1.l5 k a0 n) v8 v9 v11 = some o6 ∧ st' = ⟨[(1, .mp 100000), (15, .loc 15 0), (33, .p .bool v11)], [(15, .iter 100000 (.named 3) es3 ck3 ys3 v9 (some v8)), (100000, .mapE (.named 3) es3 ck3 ys3)]⟩) ?_ ?_
            · rcases bool_cases (!((mget v8.1 a0).isSome)) with hc14 | hc14
              · replace h := ite_t hc14 h
                refine rgU (st1 := ⟨[(1, .mp 100000), (15, .loc 15 0), (33, .p .bool true)], [(15, .iter 100000 (.named 3) es3 ck3 ys3 v9 (some v8)), (100000, .mapE (.named 3) es3 ck3 ys3)]⟩) [1, 15, 33] [15, 100000] hN (.cons (mvU (v := .p .bool ((mget v8.1 a0).isSome : Bool)) rfl rfl) (.cons (sok_not (U := Un) (rs := [(27, .p .bool ((mget v8.1 a0).isSome : Bool))]) rfl rfl o0) (.cons (mvU (v := .p .bool ((!((mget v8.1 a0).isSome)) : Bool)) rfl rfl) (.cons (skU rfl rfl hc14) (.cons (skU rfl rfl hc14) (.cons (skU rfl rfl hc14) (.cons (pkT (rs := [(29, .p .bool ((!((mget v8.1 a0).isSome)) : Bool))]) rfl rfl o0 hc14 (.bool _ _)) .nil))))))) (by kernel_rfl) (by kernel_rfl) (by kernel_rfl) (cvR _) ?_
                refine tnU ?_
                exact ⟨true, h, rfl⟩
              · replace h := ite_f hc14 h
                refine rgU (st1 := ⟨[(1, .mp 100000), (15, .loc 15 0), (33, .p .bool ((!(v8.2.f_Name == (((mget v8.1 a0).getD (T_tree_File.mk [] [] 0)).f_Name) && (v8.2.f_Content == (((mget v8.1 a0).getD (T_tree_File.mk [] [] 0)).f_Content) && (v8.2.f_Time == (((mget v8.1 a0).getD (T_tree_File.mk [] [] 0)).f_Time) && true)))) : Bool))], [(15, .iter 100000 (.named 3) es3 ck3 ys3 v9 (some v8)), (100000, .mapE (.named 3) es3 ck3 ys3)]⟩) [1, 15, 33] [15, 100000] hN (.cons (mvU (v := .p .bool ((mget v8.1 a0).isSome : Bool)) rfl rfl) (.cons (sok_not (U := Un) (rs := [(27, .p .bool ((mget v8.1 a0).isSome : Bool))]) rfl rfl o0) (.cons (mvU (v := .p .bool ((!((mget v8.1 a0).isSome)) : Bool)) rfl rfl) (.cons (sok_run rfl rfl hc14 (ldB (t := .named 3) (rs := [(6, .loc 6 0)]) [] [.p .str v8.2.f_Name, .p .str v8.2.f_Content, .p I6 v8.2.f_Time] [] (v := .p (.named 3) ((T_tree_File.mk v8.2.f_Name v8.2.f_Content v8.2.f_Time) : T_tree_File)) rfl rfl ty_24 o0 rfl rfl rfl rfl (.data (.named (us := ([.p .str v8.2.f_Name, .p .str v8.2.f_Content, .p I6 v8.2.f_Time] : List (AVal Un))) (.pair (.one _ _) (.pair (.one _ _) (.pair (.one _ _) .unit))))))) (.cons (sok_run rfl rfl hc14 (ldB (t := .named 3) (rs := [(7, .loc 7 0)]) [] [.p .str (((mget v8.1 a0).getD (T_tree_File.mk [] [] 0)).f_Name : List UInt8), .p .str (((mget v8.1 a0).getD (T_tree_File.mk [] [] 0)).f_Content : List UInt8), .p I6 (((mget v8.1 a0).getD (T_tree_File.mk [] [] 0)).f_Time : Int)] [] (v := .p (.named 3) ((T_tree_File.mk (((mget v8.1 a0).getD (T_tree_File.mk [] [] 0)).f_Name) (((mget v8.1 a0).getD (T_tree_File.mk [] [] 0)).f_Content) (((mget v8.1 a0).getD (T_tree_File.mk [] [] 0)).f_Time)) : T_tree_File)) rfl rfl ty_24 o0 rfl rfl rfl rfl (.data (.named (us := ([.p .str (((mget v8.1 a0).getD (T_tree_File.mk [] [] 0)).f_Name : List UInt8), .p .str (((mget v8.1 a0).getD (T_tree_File.mk [] [] 0)).f_Content : List UInt8), .p I6 (((mget v8.1 a0).getD (T_tree_File.mk [] [] 0)).f_Time : Int)] : List (AVal Un))) (.pair (.one _ _) (.pair (.one _ _) (.pair (.one _ _) .unit))))))) (.cons (sok_run rfl rfl hc14 (sok_neS (U := Un) (rs := [(30, .p (.named 3) ((T_tree_File.mk v8.2.f_Name v8.2.f_Content v8.2.f_Time) : T_tree_File)), (31, .p (.named 3) ((T_tree_File.mk (((mget v8.1 a0).getD (T_tree_File.mk [] [] 0)).f_Name) (((mget v8.1 a0).getD (T_tree_File.mk [] [] 0)).f_Content) (((mget v8.1 a0).getD (T_tree_File.mk [] [] 0)).f_Time)) : T_tree_File))]) rfl rfl Tryd.underlying24 (by kernel_rfl) (eqf_24 _ Tryd.underlying24) (by kernel_rfl) o0 o1)) (.cons (pkF (rs := [(29, .p .bool ((!((mget v8.1 a0).isSome)) : Bool)), (32, .p .bool ((!(v8.2.f_Name == (((mget v8.1 a0).getD (T_tree_File.mk [] [] 0)).f_Name) && (v8.2.f_Content == (((mget v8.1 a0).getD (T_tree_File.mk [] [] 0)).f_Content) && (v8.2.f_Time == (((mget v8.1 a0).getD (T_tree_File.mk [] [] 0)).f_Time) && true)))) : Bool))]) rfl rfl o0 hc14 o1) .nil))))))) (by kernel_rfl) (by kernel_rfl) (by kernel_rfl) (cvR _) ?_
                refine tnU ?_
                exact ⟨(!(v8.2.f_Name == (((mget v8.1 a0).getD (T_tree_File.mk [] [] 0)).f_Name) && (v8.2.f_Content == (((mget v8.1 a0).getD (T_tree_File.mk [] [] 0)).f_Content) && (v8.2.f_Time == (((mget v8.1 a0).getD (T_tree_File.mk [] [] 0)).f_Time) && true)))), h, rfl⟩
            · rintro _ ⟨v11, h, rfl⟩
              unfold tree_File_60_m1.j13 at h
              refine cdU (b := v11) (.tmp (.tail _ (.tail _ (.head _)))) (fun hc12 => ?_) (fun hc12 => ?_)
              · replace h := ite_t hc12 h
                refine WpC.seq ?_
                refine rgU (st1 := ⟨[(4, .p .bool false)], [(100000, .mapE (.named 3) es3 ck3 ys3)]⟩) [4] [100000] hN (.cons (moU (rs := []) rfl (.inr rfl) (.bool _ _)) .nil) (by kernel_rfl) (by kernel_rfl) (by kernel_rfl) (cvR _) ?_
                refine tnU ?_
                refine WpC.conv (cvT (Conv.closeMap (U := Un) (t := .named 3) (n := 100000) (.head _) hys3 hri3) (cvK (b := ⟨[(4, .p .bool false)], [(100000, .map (.named 3) a0)]⟩) [4] [100000] (by kernel_rfl))) (WpC.ret ?_)
                refine blockQ_ret ?_
                have hq := Option.some.inj h
                subst hq
                refine thenQ_ret ?_
                have h := hout7
                refine blockQ_ret ?_
                refine thenQ_ret ?_
                have hq := Option.some.inj h
                subst hq
                exact ends_ret (retV_1 rfl (.head _)) (ain_cons (.head _) ain_nil)
              · replace h := ite_f hc12 h
                refine WpC.conv (cvT (cvK (b := ⟨[(1, .mp 100000), (15, .loc 15 0)], [(15, .iter 100000 (.named 3) es3 ck3 ys3 v9 (some v8)), (100000, .mapE (.named 3) es3 ck3 ys3)]⟩) [1, 15] [15, 100000] (by kernel_rfl)) (cvT (Conv.iterRest (U := Un) (t := .named 3) (d := 15) (.head _)) (cvK (b := ⟨[(1, .mp 100000), (15, .loc 15 0)], [(15, .iter 100000 (.named 3) es3 ck3 ys3 v9 none), (100000, .mapE (.named 3) es3 ck3 ys3)]⟩) [1, 15] [15, 100000] (by kernel_rfl)))) (WpC.skip ?_)
                refine blockQ_normal ?_
                refine tnU ?_
                exact ⟨n, Nat.lt_succ_self n, v9, h, rfl⟩
          · cases hc
        · subst hl10
          unfold tree_File_60_m1.l5 at h
          refine tnU ?_
          refine WpC.seq ?_
          refine cdU (b := false) (.tmp (.tail _ (.tail _ (.head _)))) (fun hc => ?_) (fun hc => ?_)
          · cases hc
          · refine WpC.conv (cvT (cvK (b := ⟨[], [(100000, .mapE (.named 3) es3 ck3 ys3)]⟩) [] [100000] (by kernel_rfl)) (cvT (Conv.closeMap (U := Un) (t := .named 3) (n := 100000) (.head _) hys3 hri3) (cvK (b := ⟨[], [(100000, .map (.named 3) a0)]⟩) [] [100000] (by kernel_rfl)))) (WpC.exit ?_)
            refine thenQ_exit ?_
            have hq := Option.some.inj h
            subst hq
            refine thenQ_exit ?_
            have h := hout7
            refine blockQ_hit ?_
            refine tnU ?_
            exact ⟨h, rfl⟩
    · rintro _ ⟨h, rfl⟩
      unfold tree_File_60_m1.j2 at h
      refine WpC.seq ?_
      refine rgU (st1 := ⟨[(4, .p .bool true)], [(100000, .map (.named 3) a0)]⟩) [4] [100000] hN (.cons (moU (rs := []) rfl (.inr rfl) (.bool _ _)) .nil) (by kernel_rfl) (by kernel_rfl) (by kernel_rfl) (cvR _) ?_
      refine tnU ?_
      refine WpC.ret ?_
      have hq := Option.some.inj h
      subst hq
      exact ends_ret (retV_1 rfl (.head _)) (ain_cons (.head _) ain_nil)

theorem tree_Same_m1.ok (O : Out) (hO : GOk O) (k : Nat) (a0 : List ((List UInt8) × T_tree_File)) (out : Bool) (h : tree_Same_m1.f k a0 = some out) : COk Un O Tryd.prog 29 { ar := [.loc 100000 0, .loc 100000 0], r := .p .bool out, bs := [(100000, .box [.mp 100001]), (100001, .map (.named 3) a0)], bs' := [(100000, .box [.mp 100001]), (100001, .map (.named 3) a0)] } := by
  refine cok_of_wp Tryd.func29 rfl (k := 14) rfl (Nat.le_of_ble_eq_true rfl) (namesOk_of (by kernel_rfl)) ?_
  intro B hN
  refine WpC.conv (cvK (b := ⟨[(0, .loc 100000 0), (1, .loc 100000 0)], [(100000, .box [.mp 100001]), (100001, .map (.named 3) a0)]⟩) [0, 1] [100000, 100001] (by kernel_rfl)) ?_
  unfold tree_Same_m1.f at h
  refine WpC.seq ?_
  refine rgU (st1 := ⟨[(0, .loc 100000 0), (1, .loc 100000 0)], [(100000, .box [.mp 100001]), (100001, .map (.named 3) a0)]⟩) [0, 1] [100000, 100001] hN (.cons (moU (rs := []) rfl (.inr rfl) (.bool _ _)) .nil) (by kernel_rfl) (by kernel_rfl) (by kernel_rfl) (cvR _) ?_
  refine tnU ?_
  refine WpC.seq ?_
  obtain ⟨v1, hv1, h⟩ := bind_some h
  refine WpC.regA (U := Un) (st1 := ⟨[(4, .p .bool v1)], [(100000, .box [.mp 100001]), (100001, .map (.named 3) a0)]⟩) [4] [100000, 100001] [[], [0], [0, 1], [0, 1, 2], [], [4], [4, 5], [4, 5, 6], [0, 1, 2, 3, 4, 5, 6, 7], [0, 1, 2, 3, 4, 5, 6, 7, 8]] mixed hN (.cons (mvU (v := .loc 100000 0) rfl rfl) (.cons (nlU (rs := [(5, .loc 100000 0)]) rfl rfl o0 rfl) (.cons (fdB (rs := [(6, .loc 100000 0)]) rfl rfl fd_89_0 (by decide) o0) (.cons (ldB (t := .bool) (rs := [(7, .loc 100000 0)]) [] [.mp 100001] [] (v := .mp 100001) rfl rfl ty1_86 o0 rfl rfl rfl rfl (.hand rfl rfl)) (.cons (mvU (v := .loc 100000 0) rfl rfl) (.cons (nlU (rs := [(9, .loc 100000 0)]) rfl rfl o0 rfl) (.cons (fdB (rs := [(10, .loc 100000 0)]) rfl rfl fd_89_0 (by decide) o0) (.cons (ldB (t := .bool) (rs := [(11, .loc 100000 0)]) [] [.mp 100001] [] (v := .mp 100001) rfl rfl ty1_86 o0 rfl rfl rfl rfl (.hand rfl rfl)) (.cons (caV (rs := [(8, .mp 100001), (12, .mp 100001)]) (vw := []) rfl rfl (.func _) hb_60 (COk.ren (tree_File_60_m1.ok O hO k a0 v1 hv1) (fun n => if n = 100000 then 100001 else n) (injOn_of (by kernel_rfl))) (.cons o0 (.cons o1 .nil)) (.cons (.same _) (.cons (.same _) .nil)) (by simp) (.inl rfl)) (.cons (mvA (v := .p .bool v1) rfl rfl) .nil)))))))))) (by kernel_rfl) (by kernel_rfl) (by kernel_rfl) (by kernel_rfl) (by kernel_rfl) (cvR _) ?_
  refine tnU ?_
  refine WpC.ret ?_
  have hq := Option.some.inj h
  subst hq
  exact ends_ret (retV_1 rfl (.head _)) (ain_cons (.head _) (ain_cons (.tail _ (.head _)) ain_nil))

end Go.Proofs.YtkdpaglpieamgaaDoor
