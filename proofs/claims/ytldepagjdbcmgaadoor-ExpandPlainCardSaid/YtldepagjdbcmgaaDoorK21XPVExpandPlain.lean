/- The law ExpandPlain, without any program in sight. -/
import Derived.Test.YtldepagjdbcmgaaDoorK21XPVP
import Derived.Test.YtldepagjdbcmgaaDoorK21XPVQ
namespace Go.Proofs.YtldepagjdbcmgaaDoor
open Go Go.AM Go.ChangeShapes Go.ChangeAt Go.RowKit
set_option linter.unusedVariables false
set_option linter.unusedSimpArgs false
set_option maxRecDepth 100000
namespace Ex
theorem tlong_loop (k : Nat) (l : List Tx) (hl : l.length ≤ 1000) (m : Int) : ∀ (r : List Tx) (fuel i : Nat), l.drop i = r → r.length < fuel →
    ∃ o, millwrightnum_Long.l4 k l m fuel (i : Int) = some o ∧ (o = .inl () → ∀ x ∈ r, (x.length : Int) ≤ m) ∧ (o ≠ .inl () → o = .inr true)
  | _, 0, _, _, h => by omega
  | [], f + 1, i, hd, _ => by
    have := Ev.at_nil hd
    unfold millwrightnum_Long.l4
    exact ⟨.inl (), by rw [if_neg (by simp; omega)], fun _ x hx => by (cases hx), fun h => absurd rfl h⟩
  | x :: r, f + 1, i, hd, hf => by
    obtain ⟨g1, g2, g3⟩ := Ev.at_drop hd
    obtain ⟨o, ho, h2, h3⟩ := tlong_loop k l hl m r f (i + 1) g2 (by simpa using hf)
    unfold millwrightnum_Long.l4
    rw [if_pos (by simp; exact g3), g1, Option.bind_some, Ev.wr1 (by omega), ho]
    by_cases h1 : (x.length : Int) > m
    · exact ⟨.inr true, by rw [if_pos (by simpa using h1)], fun h => by (cases h), fun _ => rfl⟩
    · exact ⟨o, by rw [if_neg (by simpa using h1)], fun h => List.forall_mem_cons.2 ⟨by omega, h2 h⟩, h3⟩
theorem tlong_f (k : Nat) (hk : 1000 < k) (l : List Tx) (n m : Int) (hn : n ≤ 1000) : ∃ b, millwrightnum_Long.f k l n m = some b ∧ (b = false → (l.length : Int) ≤ n ∧ ∀ x ∈ l, (x.length : Int) ≤ m) := by
  unfold millwrightnum_Long.f
  by_cases h : (l.length : Int) > n
  · rw [if_pos (by simpa using h)]; exact ⟨true, rfl, fun e => by cases e⟩
  · rw [if_neg (by simpa using h)]
    obtain ⟨o, ho, h2, h3⟩ := tlong_loop k l (by omega) m l k 0 rfl (by omega)
    have ho' : millwrightnum_Long.l4 k l m k 0 = some o := ho
    rw [ho', Option.bind_some]
    by_cases e : o = .inl ()
    · subst e; exact ⟨_, rfl, fun _ => ⟨by omega, h2 rfl⟩⟩
    · have := h3 e; subst this; exact ⟨_, rfl, fun h => by cases h⟩
theorem signs_loop (k : Nat) (s : Tx) (v4 : Bool × Mp × Bool × List Vr × Bool) (hs : s.length ≤ 1000) : ∀ (r : Tx) (fuel i : Nat), s.drop i = r → r.length < fuel →
    millwrightlaw17_ExpandPlain.l19 k s v4 fuel (i : Int) = some (.inr true) ∨ (millwrightlaw17_ExpandPlain.l19 k s v4 fuel (i : Int) = some (.inl ()) ∧ plain r)
  | _, 0, _, _, h => by omega
  | [], f + 1, i, hd, _ => by
    have := Ev.at_nil hd
    unfold millwrightlaw17_ExpandPlain.l19
    exact .inr ⟨by rw [if_neg (by simp; omega)], fun b hb => by cases hb⟩
  | b :: r, f + 1, i, hd, hf => by
    obtain ⟨g1, g2, g3⟩ := Ev.at_drop hd
    have q : ∀ c : UInt8, ((b.toNat : Int) == (c.toNat : Int)) = (b == c) := fun c => u8_eq (b := c)
    have q1 := q 39; have q2 := q 96; have q3 := q 36
    unfold millwrightlaw17_ExpandPlain.l19 millwrightlaw17_ExpandPlain.j26 millwrightlaw17_ExpandPlain.j23
    rw [if_pos (by simp; exact g3), g1, Option.bind_some, Option.bind_some, Option.bind_some, Ev.wr1 (by omega)]
    rw [show ((b.toNat : Int) == 39) = (b == 39) from q1, show ((b.toNat : Int) == 96) = (b == 96) from q2, show ((b.toNat : Int) == 36) = (b == 36) from q3]
    by_cases h1 : b = 39
    · exact .inl (by rw [if_pos (by simpa using h1), if_pos rfl])
    · rw [if_neg (by simpa using h1)]
      by_cases h2 : b = 96
      · exact .inl (by rw [if_pos (by simpa using h2), if_pos rfl])
      · rw [if_neg (by simpa using h2)]
        by_cases h3 : b = 36
        · exact .inl (by rw [if_pos (by simpa using h3)])
        · rw [if_neg (by simpa using h3)]
          rcases signs_loop k s v4 hs r f (i + 1) g2 (by simpa using hf) with h | ⟨h, hp⟩
          · exact .inl h
          · exact .inr ⟨h, fun x hx => by
              rcases List.mem_cons.1 hx with rfl | hx
              · exact ⟨h1, h3, h2⟩
              · exact hp x hx⟩
end Ex
theorem alive_k (K : Nat) : millwrightlaw17_alive.f (K + 4000) = some true := by kernel_rfl
theorem expandPlain_true (a0 : List UInt8) (a1 : List T_env_Var) (_ : Wf Un .str a0) (_ : Wf Un (.list (.named 3)) a1) (hw1 : a1.length * 56 ≤ reachBytes) : ∃ k, millwrightlaw17_ExpandPlain.f k a0 a1 = some true := by
  refine ⟨a1.length + 4000, ?_⟩
  have hw1 : a1.length * 56 ≤ 140737488351232 := hw1
  have ali := alive_k a1.length
  have hlt : a1.length < a1.length + 4000 := by omega
  have hge : 4000 ≤ a1.length + 4000 := by omega
  generalize a1.length + 4000 = k at ali hlt hge ⊢
  unfold millwrightlaw17_ExpandPlain.f
  rw [ali, Option.bind_some, if_neg (by decide)]
  by_cases h200 : (a0.length : Int) > 200
  · rw [if_pos (by simpa using h200)]
  · rw [if_neg (by simpa using h200)]
    have hs : a0.length ≤ 200 := by omega
    rcases Ex.vars_eq k hge a1 hw1 hlt with h | ⟨h, _, _, _⟩
    · rw [h]; rfl
    · rw [h, Option.bind_some, if_neg (by simp)]
      rcases Ex.signs_loop k a0 (true, Ex.setL [] a1, true, Ev.vals (Ex.setL [] a1), true) (by omega) a0 k 0 rfl (by omega) with h' | ⟨h', hp⟩
      · have h'' : millwrightlaw17_ExpandPlain.l19 k a0 (true, Ex.setL [] a1, true, Ev.vals (Ex.setL [] a1), true) k 0 = _ := h'
        rw [h'']; rfl
      · have h'' : millwrightlaw17_ExpandPlain.l19 k a0 (true, Ex.setL [] a1, true, Ev.vals (Ex.setL [] a1), true) k 0 = _ := h'
        rw [h'', Option.bind_some]
        simp only
        unfold millwrightlaw17_ExpandPlain.j17
        have hfl := Qf.fld_len a0 [] []
        obtain ⟨b, e1, e2⟩ := Ex.tlong_f k (by omega) (Qf.fld a0 [] []) 40 120 (by omega)
        rw [Qf.rfields_eq k a0 (by omega) (by omega), Option.bind_some, e1, Option.bind_some]
        cases b with
        | true => rfl
        | false =>
          obtain ⟨q1, q2⟩ := e2 rfl
          rw [if_neg (by decide)]
          simp only [if_true]
          obtain ⟨t1, t2⟩ := Ex.text_plain k hge a0 (by omega) hp (by omega) (fun w hw => by have := q2 w hw; omega) (Ex.setL [] a1) []
          rw [t1, t2, Option.bind_some, Option.bind_some]
          simp only [beq_self_eq_true, if_true]
          rw [Qf.same_eq k _ (by omega) (by omega), Option.bind_some, if_pos rfl, Option.bind_some]
end Go.Proofs.YtldepagjdbcmgaaDoor
