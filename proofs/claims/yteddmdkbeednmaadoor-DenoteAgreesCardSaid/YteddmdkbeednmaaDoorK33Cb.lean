/- A part of the proof of a given law: Cb. Own work, printed in part by a program of mine. -/
import Derived.Test.YteddmdkbeednmaaDoorProg
import Derived.Shelf.Lays2
import Derived.Shelf.RegionOpenPlain
import Derived.WalkKit
import Derived.Deep.LoopGhost
import Derived.Lib.Walk
import Derived.Lib.SliceRun
namespace Go.Proofs.YteddmdkbeednmaaDoor
open Go.Shelf Go.RowKit Go.Lib
set_option maxHeartbeats 2000000
set_option maxRecDepth 100000
theorem cb_eql (w : World) (a : Option Addr) (n c n' c' : Nat) : (binOp .eql 66 (.slice a n c) (.slice none n' c')).run Tryd.prog w = .ok (.bool a.isNone) w := Lib.run_eql_slice_nil w _ _ a n c n' c' Tryd.underlying66
theorem cb_full (b off n c : Nat) (zs : List Bool) (w : World) (hz : n ≤ zs.length) (hbig : n * 8 ≤ 140737488355328) (hc : ∀ j, j < zs.length → w.cell? ⟨b, off + j, none⟩ = some (.bool (zs.getD j false))) :
    Calls Tryd.prog 53 #[.slice (some ⟨b, off, none⟩) n c] w fun e w' => ∃ v', e = .returned v' ∧ w'.ownsRow w.heap.size 4 1 v' n ((zs.take n).map Value.bool) ∧ Below w.heap.size w w' := by
  obtain ⟨i0, hi, hz0, hz1, hz2⟩ := info_parts (P := Tryd.prog) (e := 4) (z := .bool false) (size := 1) (bytes := 1) (by kernel_rfl)
  have qE := cb_eql
  have uE : ∀ w, Sem.run Tryd.prog (underlying 66) w = .ok (TypeDesc.slice 4) w := run_underlying Tryd.underlying66
  have A : Aside (∀ j, j < zs.length → w.cell? ⟨b, off + j, none⟩ = some (.bool (zs.getD j false))) := hc
  clear hc
  go_enter Tryd.func53, Tryd.ntmps53
  go_wp2_with (at_builtin; refine wpList_append_own _ rfl _ _ 66 rfl w.heap.size 4 i0 (.bool false) 1 1 Tryd.underlying66 hi hz0 hz1 hz2 rfl (by decide) _ _ _ rfl (World.ownsRow_made w #[] 0 (Nat.le_refl _) (Nat.zero_le _) rfl) ⟨b, off, none⟩ n c ((zs.take n).map Value.bool) rfl ?qc1 ?qc2 ?qc3 ?qc4 ?qc5 ?qc6 ?_)
  case qc1 => simp; omega
  case qc2 =>
    intro j u hj
    have hjn : j < n ∧ j < zs.length := by
      have := (List.getElem?_eq_some_iff.1 hj).1
      simp at this
      omega
    rw [Addr.add_lit]
    refine Lib.cell?_alloc_some _ ?_
    rw [A.out j hjn.2]
    have e : ((zs.take n).map Value.bool)[j]? = some (Value.bool (zs.getD j false)) := by simp [List.getD, hjn.1, List.getElem?_eq_getElem hjn.2]
    rw [e] at hj
    exact hj
  case qc3 => intro u hu; obtain ⟨x, _, rfl⟩ := List.mem_map.1 hu; rfl
  case qc4 => unfold maxLen; omega
  case qc5 => omega
  case qc6 => simp
  intro v' w1 hown hgrow hnil
  go_wp2
  go_ret
  refine ⟨v', rfl, by simpa using hown, ?_⟩
  exact ((Below.refl _ w).alloc (Nat.le_refl _) _).grown hgrow (by simp) (by intro k hk; simp [Value.ownBlock] at hk; omega)
theorem cb_nil (n c : Nat) (w : World) : Calls Tryd.prog 53 #[.slice none n c] w fun e w' => e = .returned (.slice none 0 0) ∧ w' = w := by
  have qE := cb_eql
  go_enter Tryd.func53, Tryd.ntmps53
  go_wp2
  go_ret
  exact ⟨rfl, rfl⟩
theorem cb_zero (a : Addr) (c : Nat) (w : World) :
    Calls Tryd.prog 53 #[.slice (some a) 0 c] w fun e w' => ∃ v', e = .returned v' ∧ w'.ownsRow w.heap.size 4 1 v' 0 [] ∧ Below w.heap.size w w' := by
  obtain ⟨i0, hi, hz0, hz1, hz2⟩ := info_parts (P := Tryd.prog) (e := 4) (z := .bool false) (size := 1) (bytes := 1) (by kernel_rfl)
  have qE := cb_eql
  have uE : ∀ w, Sem.run Tryd.prog (underlying 66) w = .ok (TypeDesc.slice 4) w := run_underlying Tryd.underlying66
  go_enter Tryd.func53, Tryd.ntmps53
  go_wp2_with (at_builtin; refine wpList_append_own _ rfl _ _ 66 rfl w.heap.size 4 i0 (.bool false) 1 1 Tryd.underlying66 hi hz0 hz1 hz2 rfl (by decide) _ _ _ rfl (World.ownsRow_made w #[] 0 (Nat.le_refl _) (Nat.zero_le _) rfl) a 0 c [] rfl rfl (by intro j u hj; simp at hj) (by intro u hu; cases hu) (by unfold maxLen; omega) (by omega) (by simp) ?_)
  intro v' w1 hown hgrow hnil
  go_wp2
  go_ret
  refine ⟨v', rfl, by simpa using hown, ?_⟩
  exact ((Below.refl _ w).alloc (Nat.le_refl _) _).grown hgrow (by simp) (by intro k hk; simp [Value.ownBlock] at hk; omega)
end Go.Proofs.YteddmdkbeednmaaDoor
