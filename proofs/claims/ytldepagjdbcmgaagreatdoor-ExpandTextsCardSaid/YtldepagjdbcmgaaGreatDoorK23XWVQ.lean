/- Variables that are set, one behind the other. -/
import Derived.Test.YtldepagjdbcmgaaGreatDoorK23XWVE
namespace Go.Proofs.YtldepagjdbcmgaaGreatDoor.Ex
open Go Go.AM Go.ChangeShapes Go.ChangeAt Go.RowKit
set_option linter.unusedVariables false
set_option linter.unusedSimpArgs false
set_option maxRecDepth 100000
abbrev Vr := T_env_Var
theorem wr2 {i : Nat} (h : i < 4611686018427387904) : IntKind.i64.wrap ((i : Int) + 1) = ((i + 1 : Nat) : Int) := by rw [w64 (by omega) (by omega)]; rfl
theorem acts_loop (k : Nat) (a : List Vr) (v1 : KV Vr) (ha : a.length * 56 ≤ 140737488351232) : ∀ (r : List Vr) (fuel i : Nat) (out : List T_millwrightlaw14_Act), a.drop i = r → r.length < fuel → out.length ≤ i →
    millwrightlaw17_Vars.l27 k a v1 fuel out (i : Int) = some (out ++ r.map fun v => T_millwrightlaw14_Act.mk 0 v)
  | _, 0, _, _, _, h, _ => by omega
  | [], f + 1, i, out, hd, _, _ => by
    have := Ev.at_nil hd
    unfold millwrightlaw17_Vars.l27
    rw [if_neg (by simp; omega)]; simp
  | x :: r, f + 1, i, out, hd, hf, ho => by
    obtain ⟨g1, g2, g3⟩ := Ev.at_drop hd
    unfold millwrightlaw17_Vars.l27
    rw [if_pos (by simp; exact g3), g1, Option.bind_some, wr2 (by omega), Ev.vr_eta, if_pos (by simp only [List.length_singleton]; omega), acts_loop k a v1 ha r f (i + 1) _ g2 (by simpa using hf) (by simp; omega)]
    simp
def setL (m : KV Vr) (l : List Vr) : KV Vr := l.foldl (fun m v => (Ev.setS m v).2) m
theorem setL_good : ∀ (l : List Vr) (m : KV Vr), Ev.Good m → Ev.Good (setL m l) ∧ (setL m l).length ≤ m.length + l.length
  | [], m, h => ⟨h, by simp [setL]⟩
  | v :: l, m, h => by
    have := Ev.setS_len m v
    obtain ⟨a, b⟩ := setL_good l _ (h.set v)
    exact ⟨a, by simp [setL] at b ⊢; omega⟩
theorem set_loop (k : Nat) (hk : 4000 ≤ k) (a : List Vr) (ha : a.length ≤ 60) (hv : ∀ v ∈ a, v.f_Name.length ≤ 60 ∧ v.f_Words.length ≤ 60) : ∀ (r : List Vr) (fuel i : Nat) (m : KV Vr), a.drop i = r → r.length < fuel → Ev.Good m → m.length ≤ i →
    millwrightlaw17_Vars.l9 k a fuel m (Ev.vals m) (i : Int) = some (setL m r, Ev.vals (setL m r))
  | _, 0, _, _, _, h, _, _ => by omega
  | [], f + 1, i, m, hd, _, _, _ => by
    have := Ev.at_nil hd
    unfold millwrightlaw17_Vars.l9
    rw [if_neg (by simp; omega)]; rfl
  | x :: r, f + 1, i, m, hd, hf, hg, hm => by
    obtain ⟨g1, g2, g3⟩ := Ev.at_drop hd
    have hx := hv x (List.mem_of_mem_drop (hd ▸ List.mem_cons_self))
    have hl := Ev.setS_len m x
    unfold millwrightlaw17_Vars.l9
    rw [if_pos (by simp; exact g3), g1, Option.bind_some, Ev.vr_eta, Ev.set_eq k (by omega) m x (by omega) (by omega), Option.bind_some, Ev.rset_eq k (by omega) m hg (by omega) x (by omega) (by omega), Option.bind_some, Ev.wr1 (by omega), set_loop k hk a ha hv r f (i + 1) _ g2 (by simpa using hf) (hg.set x) (by omega)]
    rfl
theorem vars_eq (k : Nat) (hk : 4000 ≤ k) (a : List Vr) (ha : a.length * 56 ≤ 140737488351232) (hk2 : a.length < k) : millwrightlaw17_Vars.f k a = some (false, [], false, [], false) ∨
    (millwrightlaw17_Vars.f k a = some (true, setL [] a, true, Ev.vals (setL [] a), true) ∧ Ev.Good (setL [] a) ∧ (setL [] a).length ≤ 30 ∧ ∀ v ∈ a, v.f_Name.length ≤ 60 ∧ v.f_Words.length ≤ 60) := by
  unfold millwrightlaw17_Vars.f env_New.f
  rw [Option.bind_some]
  have e : millwrightlaw17_Vars.l27 k a [] k [] 0 = _ := acts_loop k a [] ha a k 0 [] rfl hk2 (by simp)
  rw [e, Option.bind_some, List.nil_append]
  unfold millwrightlaw17_Vars.j24 millwrightlaw17_Vars.j22
  obtain ⟨b, e1, e2⟩ := Ev.long_f k (by omega) (a.map fun v => T_millwrightlaw14_Act.mk 0 v) 30 (by omega)
  rw [e1, Option.bind_some]
  cases b with
  | true => exact .inl rfl
  | false =>
    right
    obtain ⟨h1, h2⟩ := e2 rfl
    have h1' : a.length ≤ 30 := by simp at h1; omega
    have hv : ∀ v ∈ a, v.f_Name.length ≤ 60 ∧ v.f_Words.length ≤ 60 := fun v hv => h2 _ (List.mem_map.2 ⟨v, hv, rfl⟩)
    obtain ⟨g1, g2⟩ := setL_good a [] .nil
    refine ⟨?_, g1, by simp at g2; omega, hv⟩
    rw [if_neg (by decide)]
    unfold millwrightlaw17_Vars.j19 millwrightlaw17_Vars.j5
    have e3 : millwrightlaw17_Vars.l9 k a k [] [] 0 = _ := set_loop k hk a (by omega) hv a k 0 [] rfl (by omega) .nil (by simp)
    rw [e3]; rfl
end Go.Proofs.YtldepagjdbcmgaaGreatDoor.Ex
