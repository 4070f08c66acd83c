/- A part of a proof: FBC3. -/
import Derived.Test.YtcijochjfncefaaGreatDoorK44FBC2
namespace Go.Proofs.YtcijochjfncefaaGreatDoor
open Go Go.AM
set_option linter.unusedVariables false
set_option linter.unusedSimpArgs false
set_option maxRecDepth 100000
set_option maxHeartbeats 4000000
def flags_on0 (_ : T_flags_Options) : List UInt8 := [45]
def flags_on1 (a0 : T_flags_Options) : List UInt8 := flags_on0 a0 ++ (if a0.f_All then [97] else [])
def flags_on2 (a0 : T_flags_Options) : List UInt8 := flags_on1 a0 ++ (if a0.f_Explain then [101] else [])
def flags_on3 (a0 : T_flags_Options) : List UInt8 := flags_on2 a0 ++ (if a0.f_Ignore then [105] else [])
def flags_on4 (a0 : T_flags_Options) : List UInt8 := flags_on3 a0 ++ (if a0.f_Keep then [107] else [])
def flags_on5 (a0 : T_flags_Options) : List UInt8 := flags_on4 a0 ++ (if a0.f_Dry then [110] else [])
def flags_on6 (a0 : T_flags_Options) : List UInt8 := flags_on5 a0 ++ (if a0.f_Touch then [116] else [])
def flags_onP (a0 : T_flags_Options) (i : Nat) : List UInt8 := match i with
 | 0 => flags_on0 a0
 | 1 => flags_on1 a0
 | 2 => flags_on2 a0
 | 3 => flags_on3 a0
 | 4 => flags_on4 a0
 | 5 => flags_on5 a0
 | 6 => flags_on6 a0
 | _ => []
theorem flags_onP6 (a0 : T_flags_Options) : flags_onP a0 6 = flags_on a0.f_All a0.f_Explain a0.f_Ignore a0.f_Keep a0.f_Dry a0.f_Touch := rfl
theorem flags_h_len (a0 : T_flags_Options) : (flags_Text.h a0).length ≤ 1 := by unfold flags_Text.h; split <;> simp
theorem flags_w_len {k : Nat} {a0 : T_flags_Options} {o : List (List UInt8)} (h : flags_Text.w k a0 = some o) : o.length ≤ 2 := by
 have := flags_h_len a0
 unfold flags_Text.w at h
 split at h
 ·obtain ⟨j, _, h⟩ := bind_some h
  obtain ⟨_, h⟩ := if_some h
  have hq := Option.some.inj h
  subst hq
  simp; omega
 ·have hq := Option.some.inj h
  subst hq; omega
theorem flags_onP_len (a0 : T_flags_Options) (i : Nat) (h : i ≤ 6) : (flags_onP a0 i).length ≤ 7 := by
 have g : ∀ (x : List UInt8) (b : Bool) (c : UInt8) (n : Nat), x.length ≤ n → (x ++ (if b then [c] else [])).length ≤ n + 1 := by
  intro x b c n h; cases b <;> simp <;> omega
 have h0 : (flags_on0 a0).length ≤ 1 := by simp [flags_on0]
 have h1 : (flags_on1 a0).length ≤ 2 := g _ _ _ _ h0
 have h2 : (flags_on2 a0).length ≤ 3 := g _ _ _ _ h1
 have h3 : (flags_on3 a0).length ≤ 4 := g _ _ _ _ h2
 have h4 : (flags_on4 a0).length ≤ 5 := g _ _ _ _ h3
 have h5 : (flags_on5 a0).length ≤ 6 := g _ _ _ _ h4
 have h6 : (flags_on6 a0).length ≤ 7 := g _ _ _ _ h5
 match i, h with
 | 0, _ => exact Nat.le_trans h0 (by decide)
 | 1, _ => exact Nat.le_trans h1 (by decide)
 | 2, _ => exact Nat.le_trans h2 (by decide)
 | 3, _ => exact Nat.le_trans h3 (by decide)
 | 4, _ => exact Nat.le_trans h4 (by decide)
 | 5, _ => exact Nat.le_trans h5 (by decide)
 | 6, _ => exact h6
theorem len3 {n m : Nat} (h : n + m ≤ 100) : n + m ≤ 9223372036854775807 := by omega
theorem lim3 {n m : Nat} (h : n + m ≤ 100) : n + m ≤ LIM := by
 have : LIM = 4294967296 := rfl
 omega
theorem flags_Text.ok (O : Out) (hO : GOk O) (k : Nat) (a0 : T_flags_Options) (out : (List (List UInt8)) × Nat) (h : flags_Text.f k a0 = some out) : COk Un O Tryz.prog 16 { ar := [.p (.named 4) a0], r := .tup [.p (.list .str) out.1, .p .err out.2] } := by
 refine cok_of_wp Tryz.func16 rfl (k := 76) rfl (Nat.le_of_ble_eq_true rfl) (namesOk_pure rfl rfl rfl rfl) ?_
 intro B hN
 refine ckS (b := ⟨[(0, .p (.named 4) a0)], []⟩) [0] [] (by kernel_rfl) ?_
 unfold flags_Text.f at h
 obtain ⟨r, hr, h⟩ := bind_some h
 refine sq_ ?_
 refine rS {} [1] [1] hN (by kernel_rfl) (by kernel_rfl) ?_
 refine tnS ?_
 refine sq_ ?_
 refine rS { its := [(1, .c (flags_Right.ok O hO k a0 r hr))] } [1, 12] [1] hN (by kernel_rfl) (by kernel_rfl) ?_
 refine tnU ?_
 refine tS (b := (!r)) (by kernel_rfl) (fun hc1 => ?_) (fun hc1 => ?_)
 ·replace h := ite_t hc1 h
  refine sq_ ?_
  refine rA { its := [(0, .e 0 (u9_ (t := .err) (rs := []) rfl rfl ty_30 rfl rfl (hO.var 15 0 rfl) (fun S w => .err 15)))] } [2, 3] [] hN (by kernel_rfl) (by kernel_rfl) (by kernel_rfl) ?_
  refine tnU ?_
  refine wc_ (cS [.nL 2 .str, .k [2, 3] []] (by kernel_rfl) (by kernel_rfl)) (wr_ ?_)
  refine tr_ ?_
  have hq := Option.some.inj h
  subst hq
  exact eR (by kernel_rfl) (by kernel_rfl)
 ·replace h := ite_f hc1 h
  obtain ⟨o1, ho1, h⟩ := bind_some h
  obtain ⟨gF, h⟩ := if_some h
  obtain ⟨o, hlo, h⟩ := bind_some h
  obtain ⟨gG, h⟩ := if_some h
  refine wc_ (cS [.k [1] [1]] (by kernel_rfl) (by kernel_rfl)) (ws_ ?_)
  refine tnS ?_
  refine rSC {} [1, 4] [1] hN (by kernel_rfl) (by kernel_rfl) (cS [.th 4 1004 9 .str, .k [1, 4] [1, 1004]] (by kernel_rfl) (by kernel_rfl)) ?_
  refine tnS ?_
  refine rS {} [1, 4, 5] [1, 1004] hN (by kernel_rfl) (by kernel_rfl) ?_
  refine tnU ?_
  refine sqJ (fun st' => st' = ⟨[(1, .loc 1 0), (4, .vec 1004 1 0 0), (5, .p .str (flags_onP a0 6))], [(1, .box [.p .bool a0.f_All, .p .bool a0.f_Explain, .p .bool a0.f_Ignore, .p .bool a0.f_Keep, .p .bool a0.f_Dry, .p .bool a0.f_Touch, .p (.list .str) a0.f_News, .p (.list .str) a0.f_Goals, .p .str a0.f_File, .p I6 a0.f_Nproc, .p (.list (.named 3)) a0.f_Vars]), (1004, .row 9 .str [] false)]⟩) ?_ ?_
  ·refine sq_ ?_
   refine rS { its := [(0, .c (COk.ren (flags_switches.ok O 0) (fun n => if n = 60500 then 10001 else if n = 100000 then 1 else n) (injOn_of (by kernel_rfl))))] } [1, 4, 5, 14, 15, 16] [1, 1004, 10001] hN (by kernel_rfl) (by kernel_rfl) ?_
   refine tnU ?_
   refine wb_ ?_
   refine u1_ (fun n st' => ∃ i : Nat, i + n = 6 ∧ st' = ⟨[(1, .loc 1 0), (4, .vec 1004 1 0 0), (5, .p .str (flags_onP a0 i)), (14, .vec 10001 1 0 6), (15, .p I6 (6 : Int)), (16, .p I6 (i : Int))], [(1, .box [.p .bool a0.f_All, .p .bool a0.f_Explain, .p .bool a0.f_Ignore, .p .bool a0.f_Keep, .p .bool a0.f_Dry, .p .bool a0.f_Touch, .p (.list .str) a0.f_News, .p (.list .str) a0.f_Goals, .p .str a0.f_File, .p I6 a0.f_Nproc, .p (.list (.named 3)) a0.f_Vars]), (1004, .row 9 .str [] false), (10001, .box (locsOf Un [(1, 0 + 0), (1, 0 + 1), (1, 0 + 2), (1, 0 + 3), (1, 0 + 4), (1, 0 + 5)]))]⟩) 6 ⟨0, rfl, by kernel_rfl⟩ ?_
   rintro n _ ⟨i, hi, rfl⟩
   refine sq_ ?_
   refine rS {} [1, 4, 5, 14, 15, 16, 17] [1, 1004, 10001] hN (by kernel_rfl) (by kernel_rfl) ?_
   refine tnS ?_
   refine tS (b := (decide ((i : Int) < (6 : Int)))) (by kernel_rfl) (fun hc2 => ?_) (fun hc2 => ?_)
   ·have hi6 : i < 6 := by
     have := of_decide_eq_true hc2
     omega
    refine wc_ (cS [.k [1, 4, 5, 14, 15, 16] [1, 1004, 10001]] (by kernel_rfl) (by kernel_rfl)) (ws_ ?_)
    refine tnU ?_
    refine sqJ (fun st' => st' = ⟨[(1, .loc 1 0), (4, .vec 1004 1 0 0), (5, .p .str (flags_onP a0 (i + 1))), (14, .vec 10001 1 0 6), (15, .p I6 (6 : Int)), (16, .p I6 (i : Int))], [(1, .box [.p .bool a0.f_All, .p .bool a0.f_Explain, .p .bool a0.f_Ignore, .p .bool a0.f_Keep, .p .bool a0.f_Dry, .p .bool a0.f_Touch, .p (.list .str) a0.f_News, .p (.list .str) a0.f_Goals, .p .str a0.f_File, .p I6 a0.f_Nproc, .p (.list (.named 3)) a0.f_Vars]), (1004, .row 9 .str [] false), (10001, .box (locsOf Un [(1, 0 + 0), (1, 0 + 1), (1, 0 + 2), (1, 0 + 3), (1, 0 + 4), (1, 0 + 5)]))]⟩) ?_ ?_
    ·refine wb_ ?_
     refine sq_ ?_

     by_cases hi0 : i = 0
     ·subst hi0
      refine rS { its := [(1, .e 1 (u8_ (T := 77) (E := 79) (t := .ptr .bool) (n := 10001) (len := 6) (rs := [(14, .vec 10001 1 0 6), (16, .p I6 ((0 : Nat) : Int))]) 0 rfl rfl row77P.sl rfl (.tmp (.head _)) (.tmp m1_) rfl (by decide)))] } [1, 4, 5, 6, 7, 14, 15, 16] [1, 1004, 10001] hN (by kernel_rfl) (by kernel_rfl) ?_
      refine tnS ?_
      refine rS {} [1, 4, 5, 6, 14, 15, 16, 23] [1, 1004, 10001] hN (by kernel_rfl) (by kernel_rfl) ?_
      refine tnU ?_
      refine tS (b := a0.f_All) (by kernel_rfl) (fun hc3 => ?_) (fun hc3 => ?_)
      ·have hs : sub ([97, 101, 105, 107, 110, 116] : List UInt8) ((0 : Nat) : Int) (IntKind.i64.wrap (((0 : Nat) : Int) + 1)) = some [97] := by decide
       have he : flags_onP a0 (0 + 1) = flags_onP a0 0 ++ [97] := by show flags_onP a0 0 ++ (if a0.f_All then [97] else []) = _; rw [hc3]; rfl
       rw [he]
       have hg := len3 (n := (flags_onP a0 0).length) (m := ([97] : List UInt8).length) (by have := flags_onP_len a0 0 (by decide); simp; omega)
       refine rS { its := [(4, .v .str hs), (5, .g hg)] } [1, 4, 5, 14, 15, 16] [1, 1004, 10001] hN (by kernel_rfl) (by kernel_rfl) ?_
       refine bn_ ?_
       refine tnU ?_
       kernel_rfl
      ·have he : flags_onP a0 (0 + 1) = flags_onP a0 0 := by show flags_onP a0 0 ++ (if a0.f_All then [97] else []) = _; rw [hc3]; simp
       rw [he]
       refine wc_ (cS [.k [1, 4, 5, 14, 15, 16] [1, 1004, 10001]] (by kernel_rfl) (by kernel_rfl)) (ws_ ?_)
       refine bn_ ?_
       refine tnU ?_
       kernel_rfl
     by_cases hi1 : i = 1
     ·subst hi1
      refine rS { its := [(1, .e 1 (u8_ (T := 77) (E := 79) (t := .ptr .bool) (n := 10001) (len := 6) (rs := [(14, .vec 10001 1 0 6), (16, .p I6 ((1 : Nat) : Int))]) 1 rfl rfl row77P.sl rfl (.tmp (.head _)) (.tmp m1_) rfl (by decide)))] } [1, 4, 5, 6, 7, 14, 15, 16] [1, 1004, 10001] hN (by kernel_rfl) (by kernel_rfl) ?_
      refine tnS ?_
      refine rS {} [1, 4, 5, 6, 14, 15, 16, 23] [1, 1004, 10001] hN (by kernel_rfl) (by kernel_rfl) ?_
      refine tnU ?_
      refine tS (b := a0.f_Explain) (by kernel_rfl) (fun hc3 => ?_) (fun hc3 => ?_)
      ·have hs : sub ([97, 101, 105, 107, 110, 116] : List UInt8) ((1 : Nat) : Int) (IntKind.i64.wrap (((1 : Nat) : Int) + 1)) = some [101] := by decide
       have he : flags_onP a0 (1 + 1) = flags_onP a0 1 ++ [101] := by show flags_onP a0 1 ++ (if a0.f_Explain then [101] else []) = _; rw [hc3]; rfl
       rw [he]
       have hg := len3 (n := (flags_onP a0 1).length) (m := ([101] : List UInt8).length) (by have := flags_onP_len a0 1 (by decide); simp; omega)
       refine rS { its := [(4, .v .str hs), (5, .g hg)] } [1, 4, 5, 14, 15, 16] [1, 1004, 10001] hN (by kernel_rfl) (by kernel_rfl) ?_
       refine bn_ ?_
       refine tnU ?_
       kernel_rfl
      ·have he : flags_onP a0 (1 + 1) = flags_onP a0 1 := by show flags_onP a0 1 ++ (if a0.f_Explain then [101] else []) = _; rw [hc3]; simp
       rw [he]
       refine wc_ (cS [.k [1, 4, 5, 14, 15, 16] [1, 1004, 10001]] (by kernel_rfl) (by kernel_rfl)) (ws_ ?_)
       refine bn_ ?_
       refine tnU ?_
       kernel_rfl
     by_cases hi2 : i = 2
     ·subst hi2
      refine rS { its := [(1, .e 1 (u8_ (T := 77) (E := 79) (t := .ptr .bool) (n := 10001) (len := 6) (rs := [(14, .vec 10001 1 0 6), (16, .p I6 ((2 : Nat) : Int))]) 2 rfl rfl row77P.sl rfl (.tmp (.head _)) (.tmp m1_) rfl (by decide)))] } [1, 4, 5, 6, 7, 14, 15, 16] [1, 1004, 10001] hN (by kernel_rfl) (by kernel_rfl) ?_
      refine tnS ?_
      refine rS {} [1, 4, 5, 6, 14, 15, 16, 23] [1, 1004, 10001] hN (by kernel_rfl) (by kernel_rfl) ?_
      refine tnU ?_
      refine tS (b := a0.f_Ignore) (by kernel_rfl) (fun hc3 => ?_) (fun hc3 => ?_)
      ·have hs : sub ([97, 101, 105, 107, 110, 116] : List UInt8) ((2 : Nat) : Int) (IntKind.i64.wrap (((2 : Nat) : Int) + 1)) = some [105] := by decide
       have he : flags_onP a0 (2 + 1) = flags_onP a0 2 ++ [105] := by show flags_onP a0 2 ++ (if a0.f_Ignore then [105] else []) = _; rw [hc3]; rfl
       rw [he]
       have hg := len3 (n := (flags_onP a0 2).length) (m := ([105] : List UInt8).length) (by have := flags_onP_len a0 2 (by decide); simp; omega)
       refine rS { its := [(4, .v .str hs), (5, .g hg)] } [1, 4, 5, 14, 15, 16] [1, 1004, 10001] hN (by kernel_rfl) (by kernel_rfl) ?_
       refine bn_ ?_
       refine tnU ?_
       kernel_rfl
      ·have he : flags_onP a0 (2 + 1) = flags_onP a0 2 := by show flags_onP a0 2 ++ (if a0.f_Ignore then [105] else []) = _; rw [hc3]; simp
       rw [he]
       refine wc_ (cS [.k [1, 4, 5, 14, 15, 16] [1, 1004, 10001]] (by kernel_rfl) (by kernel_rfl)) (ws_ ?_)
       refine bn_ ?_
       refine tnU ?_
       kernel_rfl
     by_cases hi3 : i = 3
     ·subst hi3
      refine rS { its := [(1, .e 1 (u8_ (T := 77) (E := 79) (t := .ptr .bool) (n := 10001) (len := 6) (rs := [(14, .vec 10001 1 0 6), (16, .p I6 ((3 : Nat) : Int))]) 3 rfl rfl row77P.sl rfl (.tmp (.head _)) (.tmp m1_) rfl (by decide)))] } [1, 4, 5, 6, 7, 14, 15, 16] [1, 1004, 10001] hN (by kernel_rfl) (by kernel_rfl) ?_
      refine tnS ?_
      refine rS {} [1, 4, 5, 6, 14, 15, 16, 23] [1, 1004, 10001] hN (by kernel_rfl) (by kernel_rfl) ?_
      refine tnU ?_
      refine tS (b := a0.f_Keep) (by kernel_rfl) (fun hc3 => ?_) (fun hc3 => ?_)
      ·have hs : sub ([97, 101, 105, 107, 110, 116] : List UInt8) ((3 : Nat) : Int) (IntKind.i64.wrap (((3 : Nat) : Int) + 1)) = some [107] := by decide
       have he : flags_onP a0 (3 + 1) = flags_onP a0 3 ++ [107] := by show flags_onP a0 3 ++ (if a0.f_Keep then [107] else []) = _; rw [hc3]; rfl
       rw [he]
       have hg := len3 (n := (flags_onP a0 3).length) (m := ([107] : List UInt8).length) (by have := flags_onP_len a0 3 (by decide); simp; omega)
       refine rS { its := [(4, .v .str hs), (5, .g hg)] } [1, 4, 5, 14, 15, 16] [1, 1004, 10001] hN (by kernel_rfl) (by kernel_rfl) ?_
       refine bn_ ?_
       refine tnU ?_
       kernel_rfl
      ·have he : flags_onP a0 (3 + 1) = flags_onP a0 3 := by show flags_onP a0 3 ++ (if a0.f_Keep then [107] else []) = _; rw [hc3]; simp
       rw [he]
       refine wc_ (cS [.k [1, 4, 5, 14, 15, 16] [1, 1004, 10001]] (by kernel_rfl) (by kernel_rfl)) (ws_ ?_)
       refine bn_ ?_
       refine tnU ?_
       kernel_rfl
     by_cases hi4 : i = 4
     ·subst hi4
      refine rS { its := [(1, .e 1 (u8_ (T := 77) (E := 79) (t := .ptr .bool) (n := 10001) (len := 6) (rs := [(14, .vec 10001 1 0 6), (16, .p I6 ((4 : Nat) : Int))]) 4 rfl rfl row77P.sl rfl (.tmp (.head _)) (.tmp m1_) rfl (by decide)))] } [1, 4, 5, 6, 7, 14, 15, 16] [1, 1004, 10001] hN (by kernel_rfl) (by kernel_rfl) ?_
      refine tnS ?_
      refine rS {} [1, 4, 5, 6, 14, 15, 16, 23] [1, 1004, 10001] hN (by kernel_rfl) (by kernel_rfl) ?_
      refine tnU ?_
      refine tS (b := a0.f_Dry) (by kernel_rfl) (fun hc3 => ?_) (fun hc3 => ?_)
      ·have hs : sub ([97, 101, 105, 107, 110, 116] : List UInt8) ((4 : Nat) : Int) (IntKind.i64.wrap (((4 : Nat) : Int) + 1)) = some [110] := by decide
       have he : flags_onP a0 (4 + 1) = flags_onP a0 4 ++ [110] := by show flags_onP a0 4 ++ (if a0.f_Dry then [110] else []) = _; rw [hc3]; rfl
       rw [he]
       have hg := len3 (n := (flags_onP a0 4).length) (m := ([110] : List UInt8).length) (by have := flags_onP_len a0 4 (by decide); simp; omega)
       refine rS { its := [(4, .v .str hs), (5, .g hg)] } [1, 4, 5, 14, 15, 16] [1, 1004, 10001] hN (by kernel_rfl) (by kernel_rfl) ?_
       refine bn_ ?_
       refine tnU ?_
       kernel_rfl
      ·have he : flags_onP a0 (4 + 1) = flags_onP a0 4 := by show flags_onP a0 4 ++ (if a0.f_Dry then [110] else []) = _; rw [hc3]; simp
       rw [he]
       refine wc_ (cS [.k [1, 4, 5, 14, 15, 16] [1, 1004, 10001]] (by kernel_rfl) (by kernel_rfl)) (ws_ ?_)
       refine bn_ ?_
       refine tnU ?_
       kernel_rfl
     by_cases hi5 : i = 5
     ·subst hi5
      refine rS { its := [(1, .e 1 (u8_ (T := 77) (E := 79) (t := .ptr .bool) (n := 10001) (len := 6) (rs := [(14, .vec 10001 1 0 6), (16, .p I6 ((5 : Nat) : Int))]) 5 rfl rfl row77P.sl rfl (.tmp (.head _)) (.tmp m1_) rfl (by decide)))] } [1, 4, 5, 6, 7, 14, 15, 16] [1, 1004, 10001] hN (by kernel_rfl) (by kernel_rfl) ?_
      refine tnS ?_
      refine rS {} [1, 4, 5, 6, 14, 15, 16, 23] [1, 1004, 10001] hN (by kernel_rfl) (by kernel_rfl) ?_
      refine tnU ?_
      refine tS (b := a0.f_Touch) (by kernel_rfl) (fun hc3 => ?_) (fun hc3 => ?_)
      ·have hs : sub ([97, 101, 105, 107, 110, 116] : List UInt8) ((5 : Nat) : Int) (IntKind.i64.wrap (((5 : Nat) : Int) + 1)) = some [116] := by decide
       have he : flags_onP a0 (5 + 1) = flags_onP a0 5 ++ [116] := by show flags_onP a0 5 ++ (if a0.f_Touch then [116] else []) = _; rw [hc3]; rfl
       rw [he]
       have hg := len3 (n := (flags_onP a0 5).length) (m := ([116] : List UInt8).length) (by have := flags_onP_len a0 5 (by decide); simp; omega)
       refine rS { its := [(4, .v .str hs), (5, .g hg)] } [1, 4, 5, 14, 15, 16] [1, 1004, 10001] hN (by kernel_rfl) (by kernel_rfl) ?_
       refine bn_ ?_
       refine tnU ?_
       kernel_rfl
      ·have he : flags_onP a0 (5 + 1) = flags_onP a0 5 := by show flags_onP a0 5 ++ (if a0.f_Touch then [116] else []) = _; rw [hc3]; simp
       rw [he]
       refine wc_ (cS [.k [1, 4, 5, 14, 15, 16] [1, 1004, 10001]] (by kernel_rfl) (by kernel_rfl)) (ws_ ?_)
       refine bn_ ?_
       refine tnU ?_
       kernel_rfl
     omega
    ·rintro _ rfl
     have hw : IntKind.i64.wrap ((i : Int) + 1) = ((i + 1 : Nat) : Int) := by rw [show ((i : Int) + 1) = ((i + 1 : Nat) : Int) by omega]; exact w64 (by omega) (by omega)
     refine rS {} [1, 4, 5, 14, 15, 16] [1, 1004, 10001] hN (by kernel_rfl) (by kernel_rfl) ?_
     refine tnU ?_
     refine ⟨n - 1, by omega, i + 1, by omega, ?_⟩
     rw [← hw]; kernel_rfl
   ·have hi6 : i = 6 := by
     have := of_decide_eq_false hc2
     omega
    subst hi6
    refine wc_ (cS [.k [1, 4, 5] [1, 1004]] (by kernel_rfl) (by kernel_rfl)) (we_ ?_)
    refine te_ ?_
    refine te_ ?_
    refine blockQ_hit ?_
    refine tnU ?_
    kernel_rfl
  ·rintro _ rfl
   rw [flags_onP6]
   have h1 := flags_h_len a0
   have h2 := flags_w_len ho1
   refine sqJ (fun st' => st' = ⟨[(1, .loc 1 0), (4, .vec 1004 1 0 (flags_Text.h a0).length)], [(1, .box [.p .bool a0.f_All, .p .bool a0.f_Explain, .p .bool a0.f_Ignore, .p .bool a0.f_Keep, .p .bool a0.f_Dry, .p .bool a0.f_Touch, .p (.list .str) a0.f_News, .p (.list .str) a0.f_Goals, .p .str a0.f_File, .p I6 a0.f_Nproc, .p (.list (.named 3)) a0.f_Vars]), (1004, .row 9 .str (flags_Text.h a0) false)]⟩) ?_ ?_
   ·refine sq_ ?_
    refine rS {} [1, 4, 5, 32] [1, 1004] hN (by kernel_rfl) (by kernel_rfl) ?_
    refine tnU ?_
    refine tS (b := (flags_on a0.f_All a0.f_Explain a0.f_Ignore a0.f_Keep a0.f_Dry a0.f_Touch != [45])) (by kernel_rfl) (fun hc4 => ?_) (fun hc4 => ?_)
    ·have he : flags_Text.h a0 = [flags_on a0.f_All a0.f_Explain a0.f_Ignore a0.f_Keep a0.f_Dry a0.f_Touch] := by unfold flags_Text.h; rw [if_pos hc4]
     rw [he]
     have g : ([] : List (List UInt8)).length + [flags_on a0.f_All a0.f_Explain a0.f_Ignore a0.f_Keep a0.f_Dry a0.f_Touch].length ≤ LIM := lim3 (by simp)
     refine rSC { its := [(3, .g g)] } [1, 4] [1, 36] hN (by kernel_rfl) (by kernel_rfl) (cS [.rn 36 1004, .k [1, 4] [1, 1004]] (by kernel_rfl) (by kernel_rfl)) ?_
     refine tnU ?_
     kernel_rfl
    ·have he : flags_Text.h a0 = [] := by unfold flags_Text.h; rw [hc4]; rfl
     rw [he]
     refine wc_ (cS [.k [1, 4] [1, 1004]] (by kernel_rfl) (by kernel_rfl)) (ws_ ?_)
     refine tnU ?_
     kernel_rfl
   ·rintro _ rfl
    refine sqJ (fun st' => st' = ⟨[(1, .loc 1 0), (4, .vec 1004 1 0 o1.length)], [(1, .box [.p .bool a0.f_All, .p .bool a0.f_Explain, .p .bool a0.f_Ignore, .p .bool a0.f_Keep, .p .bool a0.f_Dry, .p .bool a0.f_Touch, .p (.list .str) a0.f_News, .p (.list .str) a0.f_Goals, .p .str a0.f_File, .p I6 a0.f_Nproc, .p (.list (.named 3)) a0.f_Vars]), (1004, .row 9 .str o1 false)]⟩) ?_ ?_
    ·unfold flags_Text.w at ho1
     refine sq_ ?_
     refine rS {} [1, 4, 40] [1, 1004] hN (by kernel_rfl) (by kernel_rfl) ?_
     refine tnU ?_
     refine tS (b := (decide ((a0.f_News.length : Int) > 0))) (by kernel_rfl) (fun hc5 => ?_) (fun hc5 => ?_)
     ·replace ho1 := ite_t hc5 ho1
      obtain ⟨j, hj, ho1⟩ := bind_some ho1
      obtain ⟨gj, ho1⟩ := if_some ho1
      have hq := Option.some.inj ho1
      subst hq
      have g : (flags_Text.h a0).length + [([45, 119] ++ j)].length ≤ LIM := lim3 (by simp; omega)
      refine rSC { its := [(3, .c (pJoin.ok O hO k a0.f_News ([44] : List UInt8) j hj)), (4, .g gj), (6, .g g)] } [1, 4] [1, 47] hN (by kernel_rfl) (by kernel_rfl) (cS [.rn 47 1004, .k [1, 4] [1, 1004]] (by kernel_rfl) (by kernel_rfl)) ?_
      refine tnU ?_
      kernel_rfl
     ·replace ho1 := ite_f hc5 ho1
      have hq := Option.some.inj ho1
      subst hq
      refine wc_ (cS [.k [1, 4] [1, 1004]] (by kernel_rfl) (by kernel_rfl)) (ws_ ?_)
      refine tnU ?_
      kernel_rfl
    ·rintro _ rfl
     refine sq_ ?_
     have g : o1.length + [([45, 102] ++ a0.f_File)].length ≤ LIM := lim3 (by simp; omega)
     refine rSC { its := [(3, .g gF), (5, .g g)] } [1, 4] [1, 53] hN (by kernel_rfl) (by kernel_rfl) (cS [.rn 53 1004, .k [1, 4] [1, 1004]] (by kernel_rfl) (by kernel_rfl)) ?_
     refine tnU ?_
     refine sqJ (fun st' => st' = ⟨[(1, .loc 1 0), (4, .vec 1004 1 0 o.length)], [(1, .box [.p .bool a0.f_All, .p .bool a0.f_Explain, .p .bool a0.f_Ignore, .p .bool a0.f_Keep, .p .bool a0.f_Dry, .p .bool a0.f_Touch, .p (.list .str) a0.f_News, .p (.list .str) a0.f_Goals, .p .str a0.f_File, .p I6 a0.f_Nproc, .p (.list (.named 3)) a0.f_Vars]), (1004, .row 9 .str o false)]⟩) ?_ ?_
     ·refine sq_ ?_
      refine rS {} [1, 4, 55, 56, 57] [1, 1004] hN (by kernel_rfl) (by kernel_rfl) ?_
      refine tnU ?_
      refine wb_ ?_
      refine u1_ (fun n st' => ∃ q : List (List UInt8), ∃ i : Int, flags_Text.l k a0.f_Vars n q i = some o ∧ st' = ⟨[(1, .loc 1 0), (4, .vec 1004 1 0 q.length), (55, .p (.list (.named 3)) a0.f_Vars), (56, .p I6 ((a0.f_Vars.length : Int) : Int)), (57, .p I6 i)], [(1, .box [.p .bool a0.f_All, .p .bool a0.f_Explain, .p .bool a0.f_Ignore, .p .bool a0.f_Keep, .p .bool a0.f_Dry, .p .bool a0.f_Touch, .p (.list .str) a0.f_News, .p (.list .str) a0.f_Goals, .p .str a0.f_File, .p I6 a0.f_Nproc, .p (.list (.named 3)) a0.f_Vars]), (1004, .row 9 .str q false)]⟩) k ⟨o1 ++ [([45, 102] ++ a0.f_File)], 0, hlo, by kernel_rfl⟩ ?_
      clear hlo
      rintro (_ | n) _ ⟨q, i, hl, rfl⟩
      ·cases hl
      ·unfold flags_Text.l at hl
       refine sq_ ?_
       refine rS {} [1, 4, 55, 56, 57, 58] [1, 1004] hN (by kernel_rfl) (by kernel_rfl) ?_
       refine tnS ?_
       refine tS (b := (decide (i < (a0.f_Vars.length : Int)))) (by kernel_rfl) (fun hc6 => ?_) (fun hc6 => ?_)
       ·replace hl := ite_t hc6 hl
        obtain ⟨v, hv, hl⟩ := bind_some hl
        obtain ⟨gv, hl⟩ := if_some hl
        obtain ⟨j, hj, hl⟩ := bind_some hl
        obtain ⟨gw, hl⟩ := if_some hl
        obtain ⟨g, hl⟩ := if_some hl
        refine wc_ (cS [.k [1, 4, 55, 56, 57] [1, 1004]] (by kernel_rfl) (by kernel_rfl)) (ws_ ?_)
        refine tnS ?_
        refine wb_ ?_
        refine sq_ ?_
        refine rS { its := [(0, .v (.named 3) hv)] } [1, 4, 9, 55, 56, 57] [1, 9, 1004] hN (by kernel_rfl) (by kernel_rfl) ?_
        refine tnU ?_
        refine rA { its := [(3, .g gv), (6, .c (quote_Join.ok O hO k v.f_Words j hj)), (7, .g gw), (9, .g g)] } [1, 4, 55, 56, 57] [1, 70] hN (by kernel_rfl) (by kernel_rfl) (by kernel_rfl) ?_
        refine bn_ ?_
        refine tnU ?_
        refine rSC {} [1, 4, 55, 56, 57] [1, 70] hN (by kernel_rfl) (by kernel_rfl) (cS [.rn 70 1004, .k [1, 4, 55, 56, 57] [1, 1004]] (by kernel_rfl) (by kernel_rfl)) ?_
        refine tnU ?_
        exact ⟨n, Nat.lt_succ_self n, _, _, hl, by kernel_rfl⟩
       ·replace hl := ite_f hc6 hl
        have hq := Option.some.inj hl
        subst hq
        refine wc_ (cS [.k [1, 4] [1, 1004]] (by kernel_rfl) (by kernel_rfl)) (we_ ?_)
        refine te_ ?_
        refine te_ ?_
        refine blockQ_hit ?_
        refine tnU ?_
        kernel_rfl
     ·rintro _ rfl
      refine sq_ ?_
      refine rS { its := [(3, .g gG)] } [2, 3] [75] hN (by kernel_rfl) (by kernel_rfl) ?_
      refine tnU ?_
      refine wc_ (cS [.fz 2, .nE 3, .k [2, 3] []] (by kernel_rfl) (by kernel_rfl)) (wr_ ?_)
      have hq := Option.some.inj h
      subst hq
      exact eR (by kernel_rfl) (by kernel_rfl)

theorem slices_Equal_string_string.ok (O : Out) (hO : GOk O) (k : Nat) (a0 : List (List UInt8)) (a1 : List (List UInt8)) (out : Bool) (h : slices_Equal_string_string.f k a0 a1 = some out) : COk Un O Tryz.prog 39 { ar := [.p (.list .str) a0, .p (.list .str) a1], r := .p .bool out } := by
 refine cok_of_wp Tryz.func39 rfl (k := 26) rfl (Nat.le_of_ble_eq_true rfl) (namesOk_pure rfl rfl rfl rfl) ?_
 intro B hN
 refine ckS (b := ⟨[(0, .p (.list .str) a0), (1, .p (.list .str) a1)], []⟩) [0, 1] [] (by kernel_rfl) ?_
 unfold slices_Equal_string_string.f at h
 refine sq_ ?_
 refine rS {} [0, 1] [] hN (by kernel_rfl) (by kernel_rfl) ?_
 refine tnS ?_
 refine sq_ ?_
 refine rS {} [0, 1, 10] [] hN (by kernel_rfl) (by kernel_rfl) ?_
 refine tnU ?_
 refine tS (b := ((a0.length : Int) != (a1.length : Int))) (by kernel_rfl) (fun hc1 => ?_) (fun hc1 => ?_)
 ·replace h := ite_t hc1 h
  refine sq_ ?_
  refine rS {} [4] [] hN (by kernel_rfl) (by kernel_rfl) ?_
  refine tnU ?_
  refine wr_ ?_
  refine tr_ ?_
  have hq := Option.some.inj h
  subst hq
  exact eR (by kernel_rfl) (by kernel_rfl)
 ·replace h := ite_f hc1 h
  refine wc_ (cS [.k [0, 1] []] (by kernel_rfl) (by kernel_rfl)) (ws_ ?_)
  refine tnU ?_
  refine sqJ (fun st' => slices_Equal_string_string.j2 k = some out ∧ st' = ⟨[], []⟩) ?_ ?_
  ·refine sq_ ?_
   refine rS {} [0, 1, 12, 13] [] hN (by kernel_rfl) (by kernel_rfl) ?_
   refine tnU ?_
   refine wb_ ?_
   obtain ⟨o5, hlo5, h⟩ := bind_some h
   have hout6 := h
   clear h
   refine u1_ (fun n st' => ∃ v3 : Int, slices_Equal_string_string.l4 k a0 a1 n v3 = some o5 ∧ st' = ⟨[(0, .p (.list .str) a0), (1, .p (.list .str) a1), (12, .p I6 ((a0.length : Int) : Int)), (13, .p I6 v3)], []⟩) k ⟨0, hlo5, by kernel_rfl⟩ ?_
   clear hlo5
   rintro (_ | n) _ ⟨v3, h, rfl⟩
   ·cases h
   ·rw [slices_Equal_string_string.l4] at h
    refine sq_ ?_
    refine rS {} [0, 1, 12, 13, 14] [] hN (by kernel_rfl) (by kernel_rfl) ?_
    refine tnS ?_
    refine tS (b := (decide (v3 < (a0.length : Int)))) (by kernel_rfl) (fun hc7 => ?_) (fun hc7 => ?_)
    ·replace h := ite_t hc7 h
     refine wc_ (cS [.k [0, 1, 12, 13] []] (by kernel_rfl) (by kernel_rfl)) (ws_ ?_)
     refine tnS ?_
     refine wb_ ?_
     refine sq_ ?_
     refine rS {} [0, 1, 5, 12, 13] [] hN (by kernel_rfl) (by kernel_rfl) ?_
     refine tnS ?_
     obtain ⟨v8, hv8, h⟩ := bind_some h
     obtain ⟨v9, hv9, h⟩ := bind_some h
     refine rA { its := [(2, .v .str hv8), (6, .v .str hv9)] } [0, 1, 12, 13, 24] [] hN (by kernel_rfl) (by kernel_rfl) (by kernel_rfl) ?_
     refine tnU ?_
     refine tS (b := (!(v8 == v9))) (by kernel_rfl) (fun hc10 => ?_) (fun hc10 => ?_)
     ·replace h := ite_t hc10 h
      refine sq_ ?_
      refine rS {} [4] [] hN (by kernel_rfl) (by kernel_rfl) ?_
      refine tnU ?_
      refine wr_ ?_
      refine blockQ_ret ?_
      refine tr_ ?_
      have hq := Option.some.inj h
      subst hq
      refine tr_ ?_
      have h := hout6
      refine blockQ_ret ?_
      refine tr_ ?_
      have hq := Option.some.inj h
      subst hq
      exact eR (by kernel_rfl) (by kernel_rfl)
     ·replace h := ite_f hc10 h
      refine wc_ (cS [.k [0, 1, 12, 13] []] (by kernel_rfl) (by kernel_rfl)) (ws_ ?_)
      refine bn_ ?_
      refine tnU ?_
      refine rS {} [0, 1, 12, 13] [] hN (by kernel_rfl) (by kernel_rfl) ?_
      refine tnU ?_
      exact ⟨n, Nat.lt_succ_self n, (IntKind.i64.wrap (v3 + 1)), h, by kernel_rfl⟩
    ·replace h := ite_f hc7 h
     refine wc_ (cS [.k [] []] (by kernel_rfl) (by kernel_rfl)) (we_ ?_)
     refine te_ ?_
     have hq := Option.some.inj h
     subst hq
     refine te_ ?_
     have h := hout6
     refine blockQ_hit ?_
     refine tnU ?_
     exact ⟨h, by kernel_rfl⟩
  ·rintro _ ⟨h, rfl⟩
   unfold slices_Equal_string_string.j2 at h
   refine sq_ ?_
   refine rS {} [4] [] hN (by kernel_rfl) (by kernel_rfl) ?_
   refine tnU ?_
   refine wr_ ?_
   have hq := Option.some.inj h
   subst hq
   exact eR (by kernel_rfl) (by kernel_rfl)

theorem flags_sameVar.ok (O : Out) (hO : GOk O) (k : Nat) (a0 : TR14V) (a1 : TR14V) (out : Bool) (h : flags_sameVar.f k a0 a1 = some out) : COk Un O Tryz.prog 41 { ar := [.p (.named 3) a0, .p (.named 3) a1], r := .p .bool out } := by
 refine cok_of_wp Tryz.func41 rfl (k := 31) rfl (Nat.le_of_ble_eq_true rfl) (namesOk_pure rfl rfl rfl rfl) ?_
 intro B hN
 refine ckS (b := ⟨[(0, .p (.named 3) a0), (1, .p (.named 3) a1)], []⟩) [0, 1] [] (by kernel_rfl) ?_
 unfold flags_sameVar.f at h
 refine sq_ ?_
 refine rS {} [2, 3] [2, 3] hN (by kernel_rfl) (by kernel_rfl) ?_
 refine tnS ?_
 rcases bool_cases (a0.fN == a1.fN) with hc1 | hc1
 ·replace h := ite_t hc1 h
  rcases bool_cases (a0.f_Level == a1.f_Level) with hc2 | hc2
  ·replace h := ite_t hc2 h
   rcases bool_cases (a0.f_Hidden == a1.f_Hidden) with hc3 | hc3
   ·replace h := ite_t hc3 h
    obtain ⟨v4, hv4, h⟩ := bind_some h
    refine rS { its := [(24, .c (slices_Equal_string_string.ok O hO k a0.f_Words a1.f_Words v4 hv4))], kn := [(10, .t hc1), (17, .t hc2), (24, .t hc3)] } [4] [] hN (by kernel_rfl) (by kernel_rfl) ?_
    refine tnU ?_
    refine wr_ ?_
    have hq := Option.some.inj h
    subst hq
    exact eR (by kernel_rfl) (by kernel_rfl)
   ·replace h := ite_f hc3 h
    refine rS { kn := [(10, .t hc1), (17, .t hc2), (24, .f hc3)] } [4] [] hN (by kernel_rfl) (by kernel_rfl) ?_
    refine tnU ?_
    refine wr_ ?_
    have hq := Option.some.inj h
    subst hq
    exact eR (by kernel_rfl) (by kernel_rfl)
  ·replace h := ite_f hc2 h
   refine rS { kn := [(10, .t hc1), (17, .f hc2)] } [4] [] hN (by kernel_rfl) (by kernel_rfl) ?_
   refine tnU ?_
   refine wr_ ?_
   have hq := Option.some.inj h
   subst hq
   exact eR (by kernel_rfl) (by kernel_rfl)
 ·replace h := ite_f hc1 h
  refine rS { kn := [(10, .f hc1)] } [4] [] hN (by kernel_rfl) (by kernel_rfl) ?_
  refine tnU ?_
  refine wr_ ?_
  have hq := Option.some.inj h
  subst hq
  exact eR (by kernel_rfl) (by kernel_rfl)

theorem env_Var_m0.ok (O : Out) (hO : GOk O) (k : Nat) (a0 : List TR14V) (a1 : List TR14V) (out : Bool) (h : env_Var_m0.f k a0 a1 = some out) : COk Un O Tryz.prog 40 { ar := [.p (.list (.named 3)) a0, .p (.list (.named 3)) a1, .clo 41 []], r := .p .bool out } := by
 refine cok_of_wp Tryz.func40 rfl (k := 32) rfl (Nat.le_of_ble_eq_true rfl) (namesOk_pure rfl rfl rfl rfl) ?_
 intro B hN
 refine ckS (b := ⟨[(0, .p (.list (.named 3)) a0), (1, .p (.list (.named 3)) a1), (2, .clo 41 [])], []⟩) [0, 1, 2] [] (by kernel_rfl) ?_
 unfold env_Var_m0.f at h
 refine sq_ ?_
 refine rS {} [0, 1, 2] [] hN (by kernel_rfl) (by kernel_rfl) ?_
 refine tnS ?_
 refine sq_ ?_
 refine rS {} [0, 1, 2, 14] [] hN (by kernel_rfl) (by kernel_rfl) ?_
 refine tnU ?_
 refine tS (b := ((a0.length : Int) != (a1.length : Int))) (by kernel_rfl) (fun hc1 => ?_) (fun hc1 => ?_)
 ·replace h := ite_t hc1 h
  refine sq_ ?_
  refine rS {} [6] [] hN (by kernel_rfl) (by kernel_rfl) ?_
  refine tnU ?_
  refine wr_ ?_
  refine tr_ ?_
  have hq := Option.some.inj h
  subst hq
  exact eR (by kernel_rfl) (by kernel_rfl)
 ·replace h := ite_f hc1 h
  refine wc_ (cS [.k [0, 1, 2] []] (by kernel_rfl) (by kernel_rfl)) (ws_ ?_)
  refine tnU ?_
  refine sqJ (fun st' => env_Var_m0.j2 k = some out ∧ st' = ⟨[], []⟩) ?_ ?_
  ·refine sq_ ?_
   refine rS {} [1, 2, 15, 16, 17] [] hN (by kernel_rfl) (by kernel_rfl) ?_
   refine tnU ?_
   refine wb_ ?_
   obtain ⟨o5, hlo5, h⟩ := bind_some h
   have hout6 := h
   clear h
   refine u1_ (fun n st' => ∃ v3 : Int, env_Var_m0.l4 k a0 a1 n v3 = some o5 ∧ st' = ⟨[(1, .p (.list (.named 3)) a1), (2, .clo 41 []), (15, .p (.list (.named 3)) a0), (16, .p I6 ((a0.length : Int) : Int)), (17, .p I6 v3)], []⟩) k ⟨0, hlo5, by kernel_rfl⟩ ?_
   clear hlo5
   rintro (_ | n) _ ⟨v3, h, rfl⟩
   ·cases h
   ·rw [env_Var_m0.l4] at h
    refine sq_ ?_
    refine rS {} [1, 2, 15, 16, 17, 18] [] hN (by kernel_rfl) (by kernel_rfl) ?_
    refine tnS ?_
    refine tS (b := (decide (v3 < (a0.length : Int)))) (by kernel_rfl) (fun hc7 => ?_) (fun hc7 => ?_)
    ·replace h := ite_t hc7 h
     refine wc_ (cS [.k [1, 2, 15, 16, 17] []] (by kernel_rfl) (by kernel_rfl)) (ws_ ?_)
     refine tnS ?_
     refine wb_ ?_
     refine sq_ ?_
     obtain ⟨v8, hv8, h⟩ := bind_some h
     refine rS { its := [(1, .v (.named 3) hv8)] } [1, 2, 7, 8, 15, 16, 17] [8] hN (by kernel_rfl) (by kernel_rfl) ?_
     refine tnS ?_
     obtain ⟨v9, hv9, h⟩ := bind_some h
     refine rS { its := [(2, .v (.named 3) hv9)] } [1, 2, 8, 9, 15, 16, 17] [8, 9] hN (by kernel_rfl) (by kernel_rfl) ?_
     refine tnS ?_
     obtain ⟨v10, hv10, h⟩ := bind_some h
     refine rS { its := [(3, .c (flags_sameVar.ok O hO k (TR14V.mk v8.fN v8.f_Words v8.f_Level v8.f_Hidden) (TR14V.mk v9.fN v9.f_Words v9.f_Level v9.f_Hidden) v10 hv10))] } [1, 2, 15, 16, 17, 30] [] hN (by kernel_rfl) (by kernel_rfl) ?_
     refine tnU ?_
     refine tS (b := (!v10)) (by kernel_rfl) (fun hc11 => ?_) (fun hc11 => ?_)
     ·replace h := ite_t hc11 h
      refine sq_ ?_
      refine rS {} [6] [] hN (by kernel_rfl) (by kernel_rfl) ?_
      refine tnU ?_
      refine wr_ ?_
      refine blockQ_ret ?_
      refine tr_ ?_
      have hq := Option.some.inj h
      subst hq
      refine tr_ ?_
      have h := hout6
      refine blockQ_ret ?_
      refine tr_ ?_
      have hq := Option.some.inj h
      subst hq
      exact eR (by kernel_rfl) (by kernel_rfl)
     ·replace h := ite_f hc11 h
      refine wc_ (cS [.k [1, 2, 15, 16, 17] []] (by kernel_rfl) (by kernel_rfl)) (ws_ ?_)
      refine bn_ ?_
      refine tnU ?_
      refine rS {} [1, 2, 15, 16, 17] [] hN (by kernel_rfl) (by kernel_rfl) ?_
      refine tnU ?_
      exact ⟨n, Nat.lt_succ_self n, (IntKind.i64.wrap (v3 + 1)), h, by kernel_rfl⟩
    ·replace h := ite_f hc7 h
     refine wc_ (cS [.k [] []] (by kernel_rfl) (by kernel_rfl)) (we_ ?_)
     refine te_ ?_
     have hq := Option.some.inj h
     subst hq
     refine te_ ?_
     have h := hout6
     refine blockQ_hit ?_
     refine tnU ?_
     exact ⟨h, by kernel_rfl⟩
  ·rintro _ ⟨h, rfl⟩
   unfold env_Var_m0.j2 at h
   refine sq_ ?_
   refine rS {} [6] [] hN (by kernel_rfl) (by kernel_rfl) ?_
   refine tnU ?_
   refine wr_ ?_
   have hq := Option.some.inj h
   subst hq
   exact eR (by kernel_rfl) (by kernel_rfl)

theorem flags_Same_1.ok (O : Out) (hO : GOk O) (k : Nat) (a0 : T_flags_Options) (out : List Bool) (h : flags_Same_1.f k a0 = some out) : COk Un O Tryz.prog 38 { ar := [.p (.named 4) a0], r := .p (.arr 6 .bool) out } := by
 refine cok_of_wp Tryz.func38 rfl (k := 16) rfl (Nat.le_of_ble_eq_true rfl) (namesOk_pure rfl rfl rfl rfl) ?_
 intro B hN
 refine ckS (b := ⟨[(0, .p (.named 4) a0)], []⟩) [0] [] (by kernel_rfl) ?_
 unfold flags_Same_1.f at h
 refine sq_ ?_
 refine rS {} [1, 2] [1, 2] hN (by kernel_rfl) (by kernel_rfl) ?_
 refine tnS ?_
 refine rS { its := [(12, .e 12 (u5_ (N := 6) (bs := [a0.f_All, a0.f_Explain, a0.f_Ignore, a0.f_Keep, a0.f_Dry, a0.f_Touch]) (u4_ (t := .arr 6 .bool) (rs := [(4, .p .bool a0.f_All), (6, .p .bool a0.f_Explain), (8, .p .bool a0.f_Ignore), (10, .p .bool a0.f_Keep), (12, .p .bool a0.f_Dry), (14, .p .bool a0.f_Touch)]) (us0 := [.p .bool false, .p .bool false, .p .bool false, .p .bool false, .p .bool false, .p .bool false]) (us := [.p .bool a0.f_All, .p .bool a0.f_Explain, .p .bool a0.f_Ignore, .p .bool a0.f_Keep, .p .bool a0.f_Dry, .p .bool a0.f_Touch]) (v := .agg [.p .bool a0.f_All, .p .bool a0.f_Explain, .p .bool a0.f_Ignore, .p .bool a0.f_Keep, .p .bool a0.f_Dry, .p .bool a0.f_Touch]) rfl rfl lays_33 (.data (fun _ _ _ => .bool _) (.data (fun _ _ _ => .bool _) (.data (fun _ _ _ => .bool _) (.data (fun _ _ _ => .bool _) (.data (fun _ _ _ => .bool _) (.data (fun _ _ _ => .bool _) .nil)))))) (Filled.cons (U := Un) (i := 0) (v := .p .bool a0.f_All) [] [.p .bool false] [.p .bool a0.f_All] [.p .bool false, .p .bool false, .p .bool false, .p .bool false, .p .bool false] o0 (.data (.one _ _)) rfl rfl rfl rfl rfl rfl (Filled.cons (U := Un) (i := 1) (v := .p .bool a0.f_Explain) [.p .bool a0.f_All] [.p .bool false] [.p .bool a0.f_Explain] [.p .bool false, .p .bool false, .p .bool false, .p .bool false] o1 (.data (.one _ _)) rfl rfl rfl rfl rfl rfl (Filled.cons (U := Un) (i := 2) (v := .p .bool a0.f_Ignore) [.p .bool a0.f_All, .p .bool a0.f_Explain] [.p .bool false] [.p .bool a0.f_Ignore] [.p .bool false, .p .bool false, .p .bool false] (.tmp m2_) (.data (.one _ _)) rfl rfl rfl rfl rfl rfl (Filled.cons (U := Un) (i := 3) (v := .p .bool a0.f_Keep) [.p .bool a0.f_All, .p .bool a0.f_Explain, .p .bool a0.f_Ignore] [.p .bool false] [.p .bool a0.f_Keep] [.p .bool false, .p .bool false] (.tmp m3_) (.data (.one _ _)) rfl rfl rfl rfl rfl rfl (Filled.cons (U := Un) (i := 4) (v := .p .bool a0.f_Dry) [.p .bool a0.f_All, .p .bool a0.f_Explain, .p .bool a0.f_Ignore, .p .bool a0.f_Keep] [.p .bool false] [.p .bool a0.f_Dry] [.p .bool false] (.tmp m4_) (.data (.one _ _)) rfl rfl rfl rfl rfl rfl (Filled.cons (U := Un) (i := 5) (v := .p .bool a0.f_Touch) [.p .bool a0.f_All, .p .bool a0.f_Explain, .p .bool a0.f_Ignore, .p .bool a0.f_Keep, .p .bool a0.f_Dry] [.p .bool false] [.p .bool a0.f_Touch] [] (.tmp m5_) (.data (.one _ _)) rfl rfl rfl rfl rfl rfl (.nil _))))))) rfl (.agg rfl)) rfl))] } [2] [2] hN (by kernel_rfl) (by kernel_rfl) ?_
 refine tnU ?_
 refine wr_ ?_
 have hq := Option.some.inj h
 subst hq
 exact eR (by kernel_rfl) (by kernel_rfl)

theorem flags_Same.ok (O : Out) (hO : GOk O) (k : Nat) (a0 : T_flags_Options) (a1 : T_flags_Options) (out : Bool) (h : flags_Same.f k a0 a1 = some out) : COk Un O Tryz.prog 17 { ar := [.p (.named 4) a0, .p (.named 4) a1], r := .p .bool out } := by
 refine cok_of_wp Tryz.func17 rfl (k := 50) rfl (Nat.le_of_ble_eq_true rfl) (namesOk_pure rfl rfl rfl rfl) ?_
 intro B hN
 refine ckS (b := ⟨[(0, .p (.named 4) a0), (1, .p (.named 4) a1)], []⟩) [0, 1] [] (by kernel_rfl) ?_
 unfold flags_Same.f at h
 refine sq_ ?_
 refine rS {} [2, 3] [2, 3] hN (by kernel_rfl) (by kernel_rfl) ?_
 refine tnS ?_
 refine rS {} [2, 3, 5] [2, 3] hN (by kernel_rfl) (by kernel_rfl) ?_
 refine tnU ?_
 refine sqJ (fun st' => ∃ v1 : Bool, flags_Same.j7 k a0 a1 v1 = some out ∧ st' = ⟨[(2, .loc 2 0), (3, .loc 3 0), (5, .clo 38 []), (6, .p .bool v1)], [(2, .box [.p .bool a0.f_All, .p .bool a0.f_Explain, .p .bool a0.f_Ignore, .p .bool a0.f_Keep, .p .bool a0.f_Dry, .p .bool a0.f_Touch, .p (.list .str) a0.f_News, .p (.list .str) a0.f_Goals, .p .str a0.f_File, .p I6 a0.f_Nproc, .p (.list (.named 3)) a0.f_Vars]), (3, .box [.p .bool a1.f_All, .p .bool a1.f_Explain, .p .bool a1.f_Ignore, .p .bool a1.f_Keep, .p .bool a1.f_Dry, .p .bool a1.f_Touch, .p (.list .str) a1.f_News, .p (.list .str) a1.f_Goals, .p .str a1.f_File, .p I6 a1.f_Nproc, .p (.list (.named 3)) a1.f_Vars])]⟩) ?_ ?_
 ·obtain ⟨v8, hv8, h⟩ := bind_some h
  rcases bool_cases v8 with hc9 | hc9
  ·replace h := ite_t hc9 h
   obtain ⟨v10, hv10, h⟩ := bind_some h
   rcases bool_cases v10 with hc11 | hc11
   ·replace h := ite_t hc11 h
    obtain ⟨v12, hv12, h⟩ := bind_some h
    refine rS { its := [(4, .c (slices_Equal_string_string.ok O hO k a0.f_News a1.f_News v8 hv8)), (10, .c (slices_Equal_string_string.ok O hO k a0.f_Goals a1.f_Goals v10 hv10)), (17, .c (env_Var_m0.ok O hO k a0.f_Vars a1.f_Vars v12 hv12))], kn := [(12, .t hc9), (19, .t hc11)] } [2, 3, 5, 6] [2, 3] hN (by kernel_rfl) (by kernel_rfl) ?_
    refine tnU ?_
    exact ⟨v12, h, by kernel_rfl⟩
   ·replace h := ite_f hc11 h
    refine rS { its := [(4, .c (slices_Equal_string_string.ok O hO k a0.f_News a1.f_News v8 hv8)), (10, .c (slices_Equal_string_string.ok O hO k a0.f_Goals a1.f_Goals v10 hv10))], kn := [(12, .t hc9), (19, .f hc11)] } [2, 3, 5, 6] [2, 3] hN (by kernel_rfl) (by kernel_rfl) ?_
    refine tnU ?_
    exact ⟨false, h, by kernel_rfl⟩
  ·replace h := ite_f hc9 h
   refine rS { its := [(4, .c (slices_Equal_string_string.ok O hO k a0.f_News a1.f_News v8 hv8))], kn := [(12, .f hc9)] } [2, 3, 5, 6] [2, 3] hN (by kernel_rfl) (by kernel_rfl) ?_
   refine tnU ?_
   exact ⟨false, h, by kernel_rfl⟩
 ·rintro _ ⟨v1, h, rfl⟩
  unfold flags_Same.j7 at h
  refine sq_ ?_
  obtain ⟨v2, hv2, h⟩ := bind_some h
  obtain ⟨v3, hv3, h⟩ := bind_some h
  rcases bool_cases (v2 == v3) with hc4 | hc4
  ·replace h := ite_t hc4 h
   rcases bool_cases v1 with hc5 | hc5
   ·replace h := ite_t hc5 h
    rcases bool_cases (a0.f_File == a1.f_File) with hc6 | hc6
    ·replace h := ite_t hc6 h
     refine rA { its := [(2, .c (flags_Same_1.ok O hO k (T_flags_Options.mk a0.f_All a0.f_Explain a0.f_Ignore a0.f_Keep a0.f_Dry a0.f_Touch a0.f_News a0.f_Goals a0.f_File a0.f_Nproc a0.f_Vars) v2 hv2)), (5, .c (flags_Same_1.ok O hO k (T_flags_Options.mk a1.f_All a1.f_Explain a1.f_Ignore a1.f_Keep a1.f_Dry a1.f_Touch a1.f_News a1.f_Goals a1.f_File a1.f_Nproc a1.f_Vars) v3 hv3)), (6, .e 6 (u7_ (op := .eql) (rs := [(28, .p (.arr 6 .bool) v2), (31, .p (.arr 6 .bool) v3)]) rfl rfl Tryz.underlying33 Tryz.underlying4 ty_4 (by kernel_rfl) o0 o1))], kn := [(33, .t hc4), (36, .t hc5), (43, .t hc6)] } [4] [] hN (by kernel_rfl) (by kernel_rfl) (by kernel_rfl) ?_
     refine tnU ?_
     refine wr_ ?_
     have hq := Option.some.inj h
     subst hq
     exact eR (by kernel_rfl) (by kernel_rfl)
    ·replace h := ite_f hc6 h
     refine rA { its := [(2, .c (flags_Same_1.ok O hO k (T_flags_Options.mk a0.f_All a0.f_Explain a0.f_Ignore a0.f_Keep a0.f_Dry a0.f_Touch a0.f_News a0.f_Goals a0.f_File a0.f_Nproc a0.f_Vars) v2 hv2)), (5, .c (flags_Same_1.ok O hO k (T_flags_Options.mk a1.f_All a1.f_Explain a1.f_Ignore a1.f_Keep a1.f_Dry a1.f_Touch a1.f_News a1.f_Goals a1.f_File a1.f_Nproc a1.f_Vars) v3 hv3)), (6, .e 6 (u7_ (op := .eql) (rs := [(28, .p (.arr 6 .bool) v2), (31, .p (.arr 6 .bool) v3)]) rfl rfl Tryz.underlying33 Tryz.underlying4 ty_4 (by kernel_rfl) o0 o1))], kn := [(33, .t hc4), (36, .t hc5), (43, .f hc6)] } [4] [] hN (by kernel_rfl) (by kernel_rfl) (by kernel_rfl) ?_
     refine tnU ?_
     refine wr_ ?_
     have hq := Option.some.inj h
     subst hq
     exact eR (by kernel_rfl) (by kernel_rfl)
   ·replace h := ite_f hc5 h
    refine rA { its := [(2, .c (flags_Same_1.ok O hO k (T_flags_Options.mk a0.f_All a0.f_Explain a0.f_Ignore a0.f_Keep a0.f_Dry a0.f_Touch a0.f_News a0.f_Goals a0.f_File a0.f_Nproc a0.f_Vars) v2 hv2)), (5, .c (flags_Same_1.ok O hO k (T_flags_Options.mk a1.f_All a1.f_Explain a1.f_Ignore a1.f_Keep a1.f_Dry a1.f_Touch a1.f_News a1.f_Goals a1.f_File a1.f_Nproc a1.f_Vars) v3 hv3)), (6, .e 6 (u7_ (op := .eql) (rs := [(28, .p (.arr 6 .bool) v2), (31, .p (.arr 6 .bool) v3)]) rfl rfl Tryz.underlying33 Tryz.underlying4 ty_4 (by kernel_rfl) o0 o1))], kn := [(33, .t hc4), (36, .f hc5)] } [4] [] hN (by kernel_rfl) (by kernel_rfl) (by kernel_rfl) ?_
    refine tnU ?_
    refine wr_ ?_
    have hq := Option.some.inj h
    subst hq
    exact eR (by kernel_rfl) (by kernel_rfl)
  ·replace h := ite_f hc4 h
   refine rA { its := [(2, .c (flags_Same_1.ok O hO k (T_flags_Options.mk a0.f_All a0.f_Explain a0.f_Ignore a0.f_Keep a0.f_Dry a0.f_Touch a0.f_News a0.f_Goals a0.f_File a0.f_Nproc a0.f_Vars) v2 hv2)), (5, .c (flags_Same_1.ok O hO k (T_flags_Options.mk a1.f_All a1.f_Explain a1.f_Ignore a1.f_Keep a1.f_Dry a1.f_Touch a1.f_News a1.f_Goals a1.f_File a1.f_Nproc a1.f_Vars) v3 hv3)), (6, .e 6 (u7_ (op := .eql) (rs := [(28, .p (.arr 6 .bool) v2), (31, .p (.arr 6 .bool) v3)]) rfl rfl Tryz.underlying33 Tryz.underlying4 ty_4 (by kernel_rfl) o0 o1))], kn := [(33, .f hc4)] } [4] [] hN (by kernel_rfl) (by kernel_rfl) (by kernel_rfl) ?_
   refine tnU ?_
   refine wr_ ?_
   have hq := Option.some.inj h
   subst hq
   exact eR (by kernel_rfl) (by kernel_rfl)

theorem W31_FlagsBack.ok (O : Out) (hO : GOk O) (k : Nat) (a0 : T_flags_Options) (a1 : List (List UInt8)) (out : Bool) (h : W31_FlagsBack.f k a0 a1 = some out) : COk Un O Tryz.prog 4 { ar := [.p (.named 4) a0, .p (.list .str) a1], r := .p .bool out } := by
 refine cok_of_wp Tryz.func4 rfl (k := 67) rfl (Nat.le_of_ble_eq_true rfl) (namesOk_pure rfl rfl rfl rfl) ?_
 intro B hN
 refine ckS (b := ⟨[(0, .p (.named 4) a0), (1, .p (.list .str) a1)], []⟩) [0, 1] [] (by kernel_rfl) ?_
 unfold W31_FlagsBack.f at h
 refine sq_ ?_
 refine rS {} [1, 2] [2] hN (by kernel_rfl) (by kernel_rfl) ?_
 refine tnS ?_
 refine sq_ ?_
 obtain ⟨v1, hv1, h⟩ := bind_some h
 refine rS { its := [(0, .c (W31_alive.ok O hO k v1 hv1))] } [1, 2, 14] [2] hN (by kernel_rfl) (by kernel_rfl) ?_
 refine tnU ?_
 refine tS (b := (!v1)) (by kernel_rfl) (fun hc2 => ?_) (fun hc2 => ?_)
 ·replace h := ite_t hc2 h
  refine sq_ ?_
  refine rS {} [4] [] hN (by kernel_rfl) (by kernel_rfl) ?_
  refine tnU ?_
  refine wr_ ?_
  refine tr_ ?_
  have hq := Option.some.inj h
  subst hq
  exact eR (by kernel_rfl) (by kernel_rfl)
 ·replace h := ite_f hc2 h
  refine wc_ (cS [.k [1, 2] [2]] (by kernel_rfl) (by kernel_rfl)) (ws_ ?_)
  refine tnU ?_
  refine sqJ (fun st' => W31_FlagsBack.j19 k a0 a1 = some out ∧ st' = ⟨[(1, .p (.list .str) a1), (2, .loc 2 0)], [(2, .box [.p .bool a0.f_All, .p .bool a0.f_Explain, .p .bool a0.f_Ignore, .p .bool a0.f_Keep, .p .bool a0.f_Dry, .p .bool a0.f_Touch, .p (.list .str) a0.f_News, .p (.list .str) a0.f_Goals, .p .str a0.f_File, .p I6 a0.f_Nproc, .p (.list (.named 3)) a0.f_Vars])]⟩) ?_ ?_
  ·refine sqJ (fun st' => ∃ v20 : Bool, W31_FlagsBack.j22 k a0 a1 v20 = some out ∧ st' = ⟨[(1, .p (.list .str) a1), (2, .loc 2 0), (20, .p .bool v20)], [(2, .box [.p .bool a0.f_All, .p .bool a0.f_Explain, .p .bool a0.f_Ignore, .p .bool a0.f_Keep, .p .bool a0.f_Dry, .p .bool a0.f_Touch, .p (.list .str) a0.f_News, .p (.list .str) a0.f_Goals, .p .str a0.f_File, .p I6 a0.f_Nproc, .p (.list (.named 3)) a0.f_Vars])]⟩) ?_ ?_
   ·obtain ⟨v23, hv23, h⟩ := bind_some h
    rcases bool_cases v23 with hc24 | hc24
    ·replace h := ite_t hc24 h
     refine rS { its := [(1, .c (W31_Long.ok O hO k (T_flags_Options.mk a0.f_All a0.f_Explain a0.f_Ignore a0.f_Keep a0.f_Dry a0.f_Touch a0.f_News a0.f_Goals a0.f_File a0.f_Nproc a0.f_Vars) v23 hv23))], kn := [(17, .t hc24)] } [1, 2, 20] [2] hN (by kernel_rfl) (by kernel_rfl) ?_
     refine tnU ?_
     exact ⟨true, h, by kernel_rfl⟩
    ·replace h := ite_f hc24 h
     obtain ⟨v25, hv25, h⟩ := bind_some h
     refine rS { its := [(1, .c (W31_Long.ok O hO k (T_flags_Options.mk a0.f_All a0.f_Explain a0.f_Ignore a0.f_Keep a0.f_Dry a0.f_Touch a0.f_News a0.f_Goals a0.f_File a0.f_Nproc a0.f_Vars) v23 hv23)), (4, .c (Nm_Long.ok O hO k a1 20 200 v25 hv25))], kn := [(17, .f hc24)] } [1, 2, 20] [2] hN (by kernel_rfl) (by kernel_rfl) ?_
     refine tnU ?_
     exact ⟨v25, h, by kernel_rfl⟩
   ·rintro _ ⟨v20, h, rfl⟩
    unfold W31_FlagsBack.j22 at h
    refine tS (b := v20) (by kernel_rfl) (fun hc21 => ?_) (fun hc21 => ?_)
    ·replace h := ite_t hc21 h
     refine sq_ ?_
     refine rS {} [4] [] hN (by kernel_rfl) (by kernel_rfl) ?_
     refine tnU ?_
     refine wr_ ?_
     refine tr_ ?_
     have hq := Option.some.inj h
     subst hq
     exact eR (by kernel_rfl) (by kernel_rfl)
    ·replace h := ite_f hc21 h
     refine wc_ (cS [.k [1, 2] [2]] (by kernel_rfl) (by kernel_rfl)) (ws_ ?_)
     refine tnU ?_
     exact ⟨h, by kernel_rfl⟩
  ·rintro _ ⟨h, rfl⟩
   unfold W31_FlagsBack.j19 at h
   refine sqJ (fun st' => W31_FlagsBack.j10 k a1 = some out ∧ st' = ⟨[(1, .p (.list .str) a1)], []⟩) ?_ ?_
   ·refine sq_ ?_
    obtain ⟨v11, hv11, h⟩ := bind_some h
    refine rS { its := [(1, .c (flags_Text.ok O hO k (T_flags_Options.mk a0.f_All a0.f_Explain a0.f_Ignore a0.f_Keep a0.f_Dry a0.f_Touch a0.f_News a0.f_Goals a0.f_File a0.f_Nproc a0.f_Vars) v11 hv11))] } [1, 2, 5, 6] [2] hN (by kernel_rfl) (by kernel_rfl) ?_
    refine tnS ?_
    refine rS {} [1, 2, 5, 27] [2] hN (by kernel_rfl) (by kernel_rfl) ?_
    refine tnU ?_
    refine tS (b := (v11.2 == 0)) (by kernel_rfl) (fun hc12 => ?_) (fun hc12 => ?_)
    ·replace h := ite_t hc12 h
     refine sq_ ?_
     obtain ⟨v13, hv13, h⟩ := bind_some h
     refine rS { its := [(1, .c (flags_Parse.ok O hO k v11.1 v13 hv13))], th := [(5, [(6, 10007, 9, .str), (7, 10008, 9, .str), (10, 10009, 72, .named 3)])] } [1, 2, 7, 8] [2, 7] hN (by kernel_rfl) (by kernel_rfl) ?_
     refine tnU ?_
     refine sqJ (fun st' => ∃ v14 : Bool, W31_FlagsBack.j16 k a1 v14 = some out ∧ st' = ⟨[(1, .p (.list .str) a1), (40, .p .bool v14)], []⟩) ?_ ?_
     ·rcases bool_cases (!(v13.2 == 0)) with hc17 | hc17
      ·replace h := ite_t hc17 h
       refine rS { kn := [(35, .t hc17)] } [1, 40] [] hN (by kernel_rfl) (by kernel_rfl) ?_
       refine tnU ?_
       exact ⟨true, h, by kernel_rfl⟩
      ·replace h := ite_f hc17 h
       obtain ⟨v18, hv18, h⟩ := bind_some h
       refine rS { its := [(5, .c (flags_Same.ok O hO k (T_flags_Options.mk v13.1.f_All v13.1.f_Explain v13.1.f_Ignore v13.1.f_Keep v13.1.f_Dry v13.1.f_Touch v13.1.f_News v13.1.f_Goals v13.1.f_File v13.1.f_Nproc v13.1.f_Vars) (T_flags_Options.mk a0.f_All a0.f_Explain a0.f_Ignore a0.f_Keep a0.f_Dry a0.f_Touch a0.f_News a0.f_Goals a0.f_File a0.f_Nproc a0.f_Vars) v18 hv18))], kn := [(35, .f hc17)] } [1, 40] [] hN (by kernel_rfl) (by kernel_rfl) ?_
       refine tnU ?_
       exact ⟨(!v18), h, by kernel_rfl⟩
     ·rintro _ ⟨v14, h, rfl⟩
      unfold W31_FlagsBack.j16 at h
      refine tS (b := v14) (by kernel_rfl) (fun hc15 => ?_) (fun hc15 => ?_)
      ·replace h := ite_t hc15 h
       refine sq_ ?_
       refine rS {} [4] [] hN (by kernel_rfl) (by kernel_rfl) ?_
       refine tnU ?_
       refine wr_ ?_
       refine tr_ ?_
       have hq := Option.some.inj h
       subst hq
       exact eR (by kernel_rfl) (by kernel_rfl)
      ·replace h := ite_f hc15 h
       refine wc_ (cS [.k [1] []] (by kernel_rfl) (by kernel_rfl)) (ws_ ?_)
       refine tnU ?_
       exact ⟨h, by kernel_rfl⟩
    ·replace h := ite_f hc12 h
     refine wc_ (cS [.k [1] []] (by kernel_rfl) (by kernel_rfl)) (ws_ ?_)
     refine tnU ?_
     exact ⟨h, by kernel_rfl⟩
   ·rintro _ ⟨h, rfl⟩
    unfold W31_FlagsBack.j10 at h
    refine sq_ ?_
    obtain ⟨v3, hv3, h⟩ := bind_some h
    refine rS { its := [(1, .c (flags_Parse.ok O hO k a1 v3 hv3))], th := [(5, [(6, 10001, 9, .str), (7, 10002, 9, .str), (10, 10003, 72, .named 3)])] } [9, 10] [9] hN (by kernel_rfl) (by kernel_rfl) ?_
    refine tnS ?_
    refine sq_ ?_
    refine rS {} [9, 47] [9] hN (by kernel_rfl) (by kernel_rfl) ?_
    refine tnU ?_
    refine tS (b := (!(v3.2 == 0))) (by kernel_rfl) (fun hc4 => ?_) (fun hc4 => ?_)
    ·replace h := ite_t hc4 h
     refine sq_ ?_
     refine rS {} [4] [] hN (by kernel_rfl) (by kernel_rfl) ?_
     refine tnU ?_
     refine wr_ ?_
     refine tr_ ?_
     have hq := Option.some.inj h
     subst hq
     exact eR (by kernel_rfl) (by kernel_rfl)
    ·replace h := ite_f hc4 h
     refine wc_ (cS [.k [9] [9]] (by kernel_rfl) (by kernel_rfl)) (ws_ ?_)
     refine tnS ?_
     obtain ⟨v5, hv5, h⟩ := bind_some h
     refine rS { its := [(1, .c (flags_Text.ok O hO k (T_flags_Options.mk v3.1.f_All v3.1.f_Explain v3.1.f_Ignore v3.1.f_Keep v3.1.f_Dry v3.1.f_Touch v3.1.f_News v3.1.f_Goals v3.1.f_File v3.1.f_Nproc v3.1.f_Vars) v5 hv5))] } [9, 10, 11] [9] hN (by kernel_rfl) (by kernel_rfl) ?_
     refine tnS ?_
     refine sq_ ?_
     refine rS {} [9, 11, 54] [9] hN (by kernel_rfl) (by kernel_rfl) ?_
     refine tnU ?_
     refine tS (b := (!(v5.2 == 0))) (by kernel_rfl) (fun hc6 => ?_) (fun hc6 => ?_)
     ·replace h := ite_t hc6 h
      refine sq_ ?_
      refine rS {} [4] [] hN (by kernel_rfl) (by kernel_rfl) ?_
      refine tnU ?_
      refine wr_ ?_
      refine tr_ ?_
      have hq := Option.some.inj h
      subst hq
      exact eR (by kernel_rfl) (by kernel_rfl)
     ·replace h := ite_f hc6 h
      refine wc_ (cS [.k [9, 11] [9]] (by kernel_rfl) (by kernel_rfl)) (ws_ ?_)
      refine tnS ?_
      obtain ⟨v7, hv7, h⟩ := bind_some h
      refine rS { its := [(1, .c (flags_Parse.ok O hO k v5.1 v7 hv7))], th := [(5, [(6, 10004, 9, .str), (7, 10005, 9, .str), (10, 10006, 72, .named 3)])] } [9, 10, 12] [9, 12] hN (by kernel_rfl) (by kernel_rfl) ?_
      refine tnS ?_
      rcases bool_cases (v7.2 == 0) with hc8 | hc8
      ·replace h := ite_t hc8 h
       obtain ⟨v9, hv9, h⟩ := bind_some h
       refine rS { its := [(5, .c (flags_Same.ok O hO k (T_flags_Options.mk v7.1.f_All v7.1.f_Explain v7.1.f_Ignore v7.1.f_Keep v7.1.f_Dry v7.1.f_Touch v7.1.f_News v7.1.f_Goals v7.1.f_File v7.1.f_Nproc v7.1.f_Vars) (T_flags_Options.mk v3.1.f_All v3.1.f_Explain v3.1.f_Ignore v3.1.f_Keep v3.1.f_Dry v3.1.f_Touch v3.1.f_News v3.1.f_Goals v3.1.f_File v3.1.f_Nproc v3.1.f_Vars) v9 hv9))], kn := [(62, .t hc8)] } [4] [] hN (by kernel_rfl) (by kernel_rfl) ?_
       refine tnU ?_
       refine wr_ ?_
       have hq := Option.some.inj h
       subst hq
       exact eR (by kernel_rfl) (by kernel_rfl)
      ·replace h := ite_f hc8 h
       refine rS { kn := [(62, .f hc8)] } [4] [] hN (by kernel_rfl) (by kernel_rfl) ?_
       refine tnU ?_
       refine wr_ ?_
       have hq := Option.some.inj h
       subst hq
       exact eR (by kernel_rfl) (by kernel_rfl)

end Go.Proofs.YtcijochjfncefaaGreatDoor
