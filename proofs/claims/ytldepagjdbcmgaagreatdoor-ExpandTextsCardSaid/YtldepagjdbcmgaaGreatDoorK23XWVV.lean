/- Outputs, variables and errors' numbers, as every law of layer 17 wants them. -/
import Derived.Test.YtldepagjdbcmgaaGreatDoorK23XWVU
import Derived.Test.YtldepagjdbcmgaaGreatDoorK23XWVQ
namespace Go.Proofs.YtldepagjdbcmgaaGreatDoor.Ex
open Go Go.AM Go.ChangeShapes Go.ChangeAt Go.RowKit
set_option linter.unusedVariables false
set_option linter.unusedSimpArgs false
set_option maxRecDepth 100000
theorem num_k (K : Nat) : ∀ e : Fin 19, millwrightnum_Num.f (K + 4000) e.val = some (e.val : Int)
  | ⟨0, _⟩ => by kernel_rfl
  | ⟨1, _⟩ => by kernel_rfl
  | ⟨2, _⟩ => by kernel_rfl
  | ⟨3, _⟩ => by kernel_rfl
  | ⟨4, _⟩ => by kernel_rfl
  | ⟨5, _⟩ => by kernel_rfl
  | ⟨6, _⟩ => by kernel_rfl
  | ⟨7, _⟩ => by kernel_rfl
  | ⟨8, _⟩ => by kernel_rfl
  | ⟨9, _⟩ => by kernel_rfl
  | ⟨10, _⟩ => by kernel_rfl
  | ⟨11, _⟩ => by kernel_rfl
  | ⟨12, _⟩ => by kernel_rfl
  | ⟨13, _⟩ => by kernel_rfl
  | ⟨14, _⟩ => by kernel_rfl
  | ⟨15, _⟩ => by kernel_rfl
  | ⟨16, _⟩ => by kernel_rfl
  | ⟨17, _⟩ => by kernel_rfl
  | ⟨18, _⟩ => by kernel_rfl
  | ⟨n + 19, h⟩ => absurd h (by omega)
theorem num_e (K : Nat) {e : Nat} (h : e ≤ 18) : millwrightnum_Num.f (K + 4000) e = some (e : Int) := num_k K ⟨e, by omega⟩
theorem alive_k (K : Nat) : millwrightlaw17_alive.f (K + 4000) = some true := by kernel_rfl
theorem olong_loop (k : Nat) (a : List Op) (ha : a.length ≤ 1000) : ∀ (l : List Op) (fuel i : Nat), a.drop i = l → l.length < fuel → ∃ o, millwrightlaw17_LongOutputs.l4 k a fuel (i : Int) = some o ∧ (o = .inl () → ∀ f ∈ l, f.f_Text.length ≤ 600) ∧ (o ≠ .inl () → o = .inr true)
  | _, 0, _, _, h => by omega
  | [], f + 1, i, hl, _ => by
    have := Ev.at_nil hl
    unfold millwrightlaw17_LongOutputs.l4
    exact ⟨.inl (), by rw [if_neg (by simp; omega)], fun _ f hf => by (cases hf), fun h => absurd rfl h⟩
  | x :: r, f + 1, i, hl, hf => by
    obtain ⟨g1, g2, g3⟩ := Ev.at_drop hl
    obtain ⟨o, ho, ho2, ho3⟩ := olong_loop k a ha r f (i + 1) g2 (by simpa using hf)
    unfold millwrightlaw17_LongOutputs.l4 millwrightlaw17_LongOutputs.j12 millwrightlaw17_LongOutputs.j8
    rw [if_pos (by simp; exact g3), g1, Option.bind_some, Ev.wr1 (by omega), ho]
    by_cases h1 : decide ((x.f_Command.length : Int) > 100) = true
    · rw [if_pos h1]
      exact ⟨_, rfl, fun h => by (cases h), fun _ => rfl⟩
    · rw [if_neg h1]
      by_cases h2 : decide ((x.f_Text.length : Int) > 600) = true
      · rw [if_pos h2]
        exact ⟨_, rfl, fun h => by (cases h), fun _ => rfl⟩
      · rw [if_neg h2]
        have h2' : x.f_Text.length ≤ 600 := by simp at h2; omega
        exact ⟨o, rfl, fun h => List.forall_mem_cons.2 ⟨h2', ho2 h⟩, ho3⟩
theorem olong_f (k : Nat) (hk : 1000 < k) (a : List Op) (m : Int) (hm : m ≤ 1000) : ∃ b, millwrightlaw17_LongOutputs.f k a m = some b ∧ (b = false → okO a) := by
  unfold millwrightlaw17_LongOutputs.f
  by_cases h : decide ((a.length : Int) > m) = true
  · rw [if_pos h]; exact ⟨true, rfl, fun e => by cases e⟩
  · rw [if_neg h]
    have hlen : (a.length : Int) ≤ m := by simpa using h
    obtain ⟨o, ho, ho2, ho3⟩ := olong_loop k a (by omega) a k 0 rfl (by omega)
    have ho' : millwrightlaw17_LongOutputs.l4 k a k 0 = some o := ho
    rw [ho', Option.bind_some]
    by_cases e : o = .inl ()
    · subst e; exact ⟨_, rfl, fun _ => ⟨by omega, fun o ho => by have := ho2 rfl o ho; omega⟩⟩
    · have := ho3 e; subst this; exact ⟨_, rfl, fun h => by cases h⟩
theorem out_loop (k : Nat) (a : List Op) (ha : a.length ≤ 1000) : ∀ (l : List Op) (fuel i : Nat) (out : List Op), a.drop i = l → l.length < fuel → out.length ≤ i → millwrightlaw17_Outputs.l5 k a fuel out (i : Int) = some (out ++ l)
  | _, 0, _, _, _, h, _ => by omega
  | [], f + 1, i, out, hl, _, _ => by
    have := Ev.at_nil hl
    unfold millwrightlaw17_Outputs.l5
    rw [if_neg (by simp; omega)]; simp
  | x :: r, f + 1, i, out, hl, hf, ho => by
    obtain ⟨g1, g2, g3⟩ := Ev.at_drop hl
    have ih := out_loop k a ha r f (i + 1) (out ++ [x]) g2 (by simpa using hf) (by simp; omega)
    unfold millwrightlaw17_Outputs.l5
    rw [if_pos (by simp; exact g3), g1, Option.bind_some, Ev.wr1 (by omega), show T_expand_Output.mk x.f_Command x.f_Text = x from rfl, if_pos (Ev.lim_ok (by omega)), ih]; simp
theorem out_eq (k : Nat) (hk : 1000 < k) (a : List Op) (ha : a.length ≤ 1000) : millwrightlaw17_Outputs.f k a = some a := by
  unfold millwrightlaw17_Outputs.f millwrightlaw17_Outputs.j2
  have e0 : millwrightlaw17_Outputs.l5 k a k [] 0 = _ := out_loop k a ha a k 0 [] rfl (by omega) (by simp)
  rw [e0]; rfl
theorem words_set {m : Mp} (h : Words m) (v : T_env_Var) : Words (Ev.setS m v).2 := by
  have put : Ev.chk v = 0 → Words (mput v.f_Name v m) := fun hc y hy => by
    rcases mput_mem hy with rfl | hy
    · unfold Ev.chk at hc
      simp only
      intro w hw
      cases hl : Ev.anyLong v.f_Words with
      | false => exact anyLong_false hl w hw
      | true =>
        rw [hl] at hc
        repeat' split at hc
        all_goals first | (cases hc; done) | (rename_i h; exact absurd rfl h)
    · exact h y hy
  unfold Ev.setS
  split
  · exact h
  · rename_i h0
    have h0 : Ev.chk v = 0 := by simpa using h0
    split
    · split
      · exact h
      · exact put h0
    · split
      · exact h
      · exact put h0
theorem words_setL : ∀ (l : List T_env_Var) (m : Mp), Words m → Words (setL m l)
  | [], m, h => h
  | v :: l, m, h => words_setL l _ (words_set h v)
theorem words_nil : Words [] := fun y hy => by cases hy
end Go.Proofs.YtldepagjdbcmgaaGreatDoor.Ex
