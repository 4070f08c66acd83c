/- The law StatApart, without any program in sight. -/
import Derived.Test.YtcblgpcgdihcbaaGreatDoorK18SAVP
namespace Go.Proofs.YtcblgpcgdihcbaaGreatDoor
open Go Go.AM Go.ChangeShapes Go.ChangeAt Go.RowKit
set_option linter.unusedVariables false
set_option linter.unusedSimpArgs false
set_option maxRecDepth 100000
namespace St
theorem of_eq (k : Nat) (hk : 4000 ≤ k) (m : Mp) (hb : Bound m) (n : Tx) (hn : n.length ≤ 1000) : stat_Of_m0.f k m n = some (ofS m n) := by
  unfold stat_Of_m0.f ofS tree_Tree_Time_m0.f
  rw [mem_eq k n hn (by omega), Option.bind_some]
  cases (memS n).2.2 with
  | false => rfl
  | true =>
    have := content_len hb (memS n).1
    rw [if_neg (by decide), if_pos rfl, Tr.get_eq, Option.bind_some]
    simp only
    rw [show ((mget (memS n).1 m).getD (T_tree_File.mk [] [] 0)).f_Content = content m (memS n).1 from rfl, find_eq k hk _ _ (by omega)]; rfl
end St
theorem related_eq (k : Nat) (hk : 4000 ≤ k) (a b : List UInt8) (ha : a.length ≤ 1000) (hb : b.length ≤ 1000) : millwrightlaw04_related.f k a b = some (St.keyS a == St.keyS b) := by
  unfold millwrightlaw04_related.f millwrightlaw04_related.j6 millwrightlaw04_related.j3 St.keyS
  rw [St.rmem_eq k a ha (by omega), St.rmem_eq k b hb (by omega), Option.bind_some]
  cases ea : (St.memS a).2.2 <;> cases eb : (St.memS b).2.2 <;> simp [eb]
theorem statApart_true (a0 : List T_tree_File) (a1 a2 : List UInt8) (_ : Wf Un (.list (.named 3)) a0) (_ : Wf Un .str a1) (_ : Wf Un .str a2) : ∃ k, millwrightlaw04_StatApart.f k a0 a1 a2 = some true := by
  refine ⟨4000, ?_⟩
  have ali : millwrightlaw04_alive.f 4000 = some true := by decide +kernel
  unfold millwrightlaw04_StatApart.f
  rw [ali, Option.bind_some, if_neg (by decide)]
  obtain ⟨b, e1, e2⟩ := Tr.long_f 4000 (by omega) a0 40 (by omega)
  rw [e1, Option.bind_some]
  have main : b = false → a1.length ≤ 100 → a2.length ≤ 100 → millwrightlaw04_StatApart.j15 4000 a0 a1 a2 = some true := fun hb h1 h2 => by
    have hl := e2 hb
    unfold millwrightlaw04_StatApart.j15 tree_Of.f tree_New.f
    rw [Option.bind_some]
    rcases Tr.of_loop 4000 (by omega) a0 (by omega) a0 4000 0 [] (by omega) rfl (by omega) (fun f hf => by simp at hf) (by simp) (fun y hy => by cases hy) with ⟨e, he, h⟩ | ⟨m, h, _, _, h3⟩
    · have h' : tree_Of.l6 4000 a0 4000 [] 0 = _ := h
      rw [h', Option.bind_some, Option.bind_some, if_pos (by simpa using he)]; rfl
    · have h' : tree_Of.l6 4000 a0 4000 [] 0 = _ := h
      have hb : St.Bound m := fun y hy => (h3 y hy).2
      rw [h', Option.bind_some]
      unfold tree_Of.j3
      rw [Option.bind_some, if_neg (by simp), if_pos rfl]
      simp only
      rw [St.of_eq 4000 (by omega) m hb a2 (by omega), Option.bind_some, St.set_eq 4000 (by omega) m hb a1 (by omega), Option.bind_some]
      have hb' := hb.setS a1 7
      rw [St.of_eq 4000 (by omega) _ hb' a2 (by omega), St.of_eq 4000 (by omega) _ hb' a1 (by omega), related_eq 4000 (by omega) a1 a2 (by omega) (by omega), Option.bind_some, Option.bind_some, Option.bind_some]
      by_cases h0 : (St.setS m a1 7).1 = 0
      · rw [if_neg (by simp [h0]), St.set_own hb (by omega) h0, if_neg (by decide)]
        by_cases hk : St.keyS a1 = St.keyS a2
        · rw [if_pos (by simpa using hk)]
        · rw [if_neg (by simpa using hk), St.set_other (fun e => hk e.symm)]; simp
      · rw [if_pos (by simpa using h0), St.set_fail h0]; simp
  unfold millwrightlaw04_StatApart.j18
  cases b with
  | true => rw [if_pos rfl, if_pos rfl]
  | false =>
    rw [if_neg (by decide)]
    by_cases h1 : (a1.length : Int) > 100
    · rw [if_pos (by simpa using h1), if_pos rfl]
    · rw [if_neg (by simpa using h1)]
      by_cases h2 : (a2.length : Int) > 100
      · rw [if_pos (by simpa using h2)]
      · rw [if_neg (by simpa using h2), main rfl (by omega) (by omega)]
end Go.Proofs.YtcblgpcgdihcbaaGreatDoor
