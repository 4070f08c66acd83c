/- The law: the match of every program through every text. -/
import Derived.Test.YthmbbdemecljpaaDoorK13PMVF
import Derived.Test.YthmbbdemecljpaaDoorK13AmL
import Derived.Test.YthmbbdemecljpaaDoorK13AmR7
namespace Go.Proofs.YthmbbdemecljpaaDoor
open Go Go.AM
set_option linter.unusedVariables false
set_option linter.unusedSimpArgs false
set_option maxRecDepth 100000
namespace Pk
theorem alive09 : millwrightlaw09_alive.f 9000 = some true := by decide +kernel
theorem wf_set {x : T_prog_Instr} (h : Wf Un (.named 3) x) : SetOk x.f_Set := by
  have h1 : Wf Un (.arr 4 (.int .u64)) x.f_Set := (Wf.pairI (Wf.pairI (Wf.pairI (Wf.pairI (Wf.namedI h)).2).2).2).1
  obtain ⟨hl, hx⟩ := Wf.arrI h1
  refine ⟨hl, fun y hy => ?_⟩
  have := Wf.intI (hx y hy)
  have e1 : IntKind.u64.min = 0 := rfl
  have e2 : IntKind.u64.max = 18446744073709551615 := rfl
  rw [e1, e2] at this
  exact ⟨this.1, by omega⟩
end Pk
theorem pikeMatches_true (a0 : List T_prog_Instr) (a1 : List UInt8) (h0 : Wf Un (.list (.named 3)) a0) (_ : Wf Un .str a1) : ∃ k, millwrightlaw09_PikeMatches.f k a0 a1 = some true := by
  refine ⟨9000, ?_⟩
  unfold millwrightlaw09_PikeMatches.f
  rw [Pk.alive09, Option.bind_some, if_neg (by decide)]
  by_cases h1 : (a0.length : Int) > 60
  · rw [if_pos (by simpa using h1)]; rfl
  rw [if_neg (by simpa using h1)]
  unfold millwrightlaw09_PikeMatches.j12
  by_cases h2 : (a1.length : Int) > 60
  · rw [if_pos (by simpa using h2)]
  rw [if_neg (by simpa using h2)]
  have hset : ∀ x ∈ a0, Pk.SetOk x.f_Set := fun x hx => by
    exact Pk.wf_set ((Wf.listI h0).2 x hx)
  obtain ⟨r, e1, ⟨kk, e2, e3⟩, e4⟩ := Pk.both (p := a0) (s := a1) (by omega) (by omega) hset
  have hof : millwrightlaw09_Of.f 9000 a0 = some (a0.map Pk.conv) := by
    unfold millwrightlaw09_Of.f
    have := Pk.of_loop (p := a0) (by omega) (K := 9000) (rest := a0) (i := 0) (n := 9000) rfl (by omega) (by omega)
    simp only [List.take_zero, List.map_nil] at this
    rw [show (0 : Int) = ((0 : Nat) : Int) from rfl, this, Option.bind_some]; rfl
  unfold millwrightlaw09_PikeMatches.j9
  rw [e1, Option.bind_some, hof, Option.bind_some, e2, Option.bind_some]
  cases r with
  | none => rfl
  | some κ =>
    have hk := e3 κ rfl
    have hl := e4 κ rfl
    subst hk
    simp only [Option.isSome_some, Option.getD_some, BEq.rfl, Bool.not_true, Bool.false_eq_true, if_false]
    have : millwrightnum_SameInts.f 9000 kk kk = some true := by
      unfold millwrightnum_SameInts.f
      have h := Pk.same_ints (K := 9000) (l := kk) (by omega) (d := kk.length) (j := 0) (n := 9000) (by omega) (by omega)
      rw [if_neg (by simp), show (0 : Int) = ((0 : Nat) : Int) from rfl, h, Option.bind_some]; rfl
    rw [this, Option.bind_some]
end Go.Proofs.YthmbbdemecljpaaDoor
