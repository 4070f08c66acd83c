/- The law EffectApplies, without any program in sight. -/
import Derived.Test.YtcblgpcgdihcbaaGreatDoorK17SSVL
namespace Go.Proofs.YtcblgpcgdihcbaaGreatDoor
open Go Go.AM Go.ChangeShapes Go.ChangeAt Go.RowKit
set_option linter.unusedVariables false
set_option linter.unusedSimpArgs false
set_option maxRecDepth 100000
namespace St
theorem elong_loop (k : Nat) (a : List Ef) (ha : a.length ≤ 1000) : ∀ (l : List Ef) (fuel i : Nat), a.drop i = l → l.length < fuel → ∃ o, millwrightlaw05_Long.l4 k a fuel (i : Int) = some o ∧ (o = .inl () → ∀ f ∈ l, f.f_Name.length ≤ 100) ∧ (o ≠ .inl () → o = .inr true)
  | _, 0, _, _, h => by omega
  | [], f + 1, i, hl, _ => by
    have := Tr.at_nil hl
    unfold millwrightlaw05_Long.l4
    exact ⟨.inl (), by rw [if_neg (by simp; omega)], fun _ f hf => by (cases hf), fun h => absurd rfl h⟩
  | x :: r, f + 1, i, hl, hf => by
    obtain ⟨g1, g2, g3⟩ := Tr.at_drop hl
    obtain ⟨o, ho, ho2, ho3⟩ := elong_loop k a ha r f (i + 1) g2 (by simpa using hf)
    unfold millwrightlaw05_Long.l4 millwrightlaw05_Long.j12 millwrightlaw05_Long.j8
    rw [if_pos (by simp; exact g3), g1, Option.bind_some, Tr.wr1 (by omega), ho]
    by_cases h1 : decide ((x.f_Name.length : Int) > 100) = true
    · rw [if_pos h1]
      exact ⟨_, rfl, fun h => by (cases h), fun _ => rfl⟩
    · rw [if_neg h1]
      have h1' : x.f_Name.length ≤ 100 := by simp at h1; omega
      by_cases h2 : decide ((x.f_Text.length : Int) > 1000) = true
      · rw [if_pos h2]
        exact ⟨_, rfl, fun h => by (cases h), fun _ => rfl⟩
      · rw [if_neg h2]
        exact ⟨o, rfl, fun h => List.forall_mem_cons.2 ⟨h1', ho2 h⟩, ho3⟩
theorem elong_f (k : Nat) (hk : 1000 < k) (a : List Ef) (m : Int) (hm : m ≤ 1000) : ∃ b, millwrightlaw05_Long.f k a m = some b ∧ (b = false → (a.length : Int) ≤ m ∧ ∀ f ∈ a, f.f_Name.length ≤ 100) := by
  unfold millwrightlaw05_Long.f
  by_cases h : decide ((a.length : Int) > m) = true
  · rw [if_pos h]; exact ⟨true, rfl, fun e => by cases e⟩
  · rw [if_neg h]
    have hlen : (a.length : Int) ≤ m := by simpa using h
    obtain ⟨o, ho, ho2, ho3⟩ := elong_loop k a (by omega) a k 0 rfl (by omega)
    have ho' : millwrightlaw05_Long.l4 k a k 0 = some o := ho
    rw [ho', Option.bind_some]
    by_cases e : o = .inl ()
    · subst e; exact ⟨_, rfl, fun _ => ⟨hlen, ho2 rfl⟩⟩
    · have := ho3 e; subst this; exact ⟨_, rfl, fun h => by cases h⟩

theorem chk_loop (l : List Ef) (hl : l.length ≤ 1000) (hn : ∀ e ∈ l, e.f_Name.length ≤ 1000) : ∀ (r : List Ef) (fuel i : Nat), l.drop i = r → r.length < fuel → millwrightlaw05_EffectApplies.l14 4000 l fuel (i : Int) = some (.inl ())
  | _, 0, _, _, h => by omega
  | [], f + 1, i, hd, _ => by
    have := Tr.at_nil hd
    unfold millwrightlaw05_EffectApplies.l14
    rw [if_neg (by simp; omega)]
  | e :: r, f + 1, i, hd, hf => by
    obtain ⟨g1, g2, g3⟩ := Tr.at_drop hd
    have he : e ∈ l := List.mem_of_mem_drop (hd ▸ List.mem_cons_self)
    unfold millwrightlaw05_EffectApplies.l14
    rw [if_pos (by simp; exact g3), g1, Option.bind_some, ef_eta, chk_eq 4000 (by omega) e (hn e he), Option.bind_some, num_e (chk_le e), Option.bind_some, rchk_eq 4000 (by omega) e (hn e he), Option.bind_some, if_neg (by simp), Tr.wr1 (by omega), chk_loop l hl hn r f (i + 1) g2 (by simpa using hf)]
end St
theorem effectApplies_true (a0 : List T_tree_File) (a1 : Int) (a2 : List T_effect_Effect) (_ : Wf Un (.list (.named 3)) a0) (_ : Wf Un (.int .i64) a1) (_ : Wf Un (.list (.named 4)) a2) : ∃ k, millwrightlaw05_EffectApplies.f k a0 a1 a2 = some true := by
  refine ⟨4000, ?_⟩
  have ali : millwrightlaw05_alive.f 4000 = some true := by decide +kernel
  unfold millwrightlaw05_EffectApplies.f
  rw [ali, Option.bind_some, if_neg (by decide)]
  obtain ⟨b, e1, e2⟩ := Tr.long_f2 4000 (by omega) a0 40 (by omega)
  obtain ⟨c, f1, f2⟩ := St.elong_f 4000 (by omega) a2 40 (by omega)
  rw [e1, Option.bind_some]
  have main : b = false → c = false → millwrightlaw05_EffectApplies.j38 4000 a0 a1 a2 = some true := fun hb hc => by
    obtain ⟨l1, n1⟩ := e2 hb
    obtain ⟨l2, n2⟩ := f2 hc
    have n2' : ∀ e ∈ a2, e.f_Name.length ≤ 1000 := fun e he => by have := n2 e he; omega
    unfold millwrightlaw05_EffectApplies.j38
    rw [Tr.lof_eq 4000 (by omega) a0 (by omega)]
    rcases Tr.of_both 4000 (by omega) a0 (by omega) n1 with ⟨e, p1, p2, p3, p4⟩ | ⟨m, p3, p4, p5, p6⟩
    · rw [p3, Option.bind_some, if_pos (by simpa using p1)]; rfl
    · rw [p3, Option.bind_some, if_neg (by simp), Option.bind_some, p4, Option.bind_some, if_neg (by simp)]
      unfold millwrightlaw05_EffectApplies.j36 millwrightlaw05_EffectApplies.j33
      rw [if_neg (by simp), if_pos rfl]
      simp only
      have hb : St.Bound m := fun y hy => (p6.short y hy).2
      obtain ⟨q1, q2, q3⟩ := St.app_good a1 (fun _ => trivial) a2 0 m p6 hb n2'
      rw [St.app_eq 4000 (by omega) a1 a2 (by omega) n2' m hb, Option.bind_some, if_pos trivial, St.eof_eq 4000 (by omega) a2 (by omega), Option.bind_some, St.rapp_eq 4000 (by omega) a1 a2 (by omega) n2' m p6 hb (by omega), Option.bind_some]
      simp only
      rw [if_neg (by simp), St.num_e q2, Option.bind_some, if_neg (by simp), Tr.shows_eq 4000 (by omega) _ q1 (by omega), Option.bind_some]
      unfold millwrightlaw05_EffectApplies.j28 millwrightlaw05_EffectApplies.j25 millwrightlaw05_EffectApplies.j12
      have e : millwrightlaw05_EffectApplies.l14 4000 a2 4000 0 = _ := St.chk_loop a2 (by omega) n2' a2 4000 0 rfl (by omega)
      rw [if_neg (by decide), e]; rfl
  unfold millwrightlaw05_EffectApplies.j41
  cases b with
  | true => rw [if_pos rfl, if_pos rfl]
  | false =>
    rw [if_neg (by decide), f1, Option.bind_some]
    cases c with
    | true => rw [if_pos rfl]
    | false => rw [if_neg (by decide), main rfl rfl]
end Go.Proofs.YtcblgpcgdihcbaaGreatDoor
