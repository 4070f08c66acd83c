/- A part of a proof: FBVE. -/
import Derived.Test.YtcijochjfncefaaGreatDoorK44FBVD
namespace Go.Proofs.YtcijochjfncefaaGreatDoor
open Go Go.AM Go.ChangeShapes Go.ChangeAt Go.RowKit
set_option linter.unusedVariables false
set_option linter.unusedSimpArgs false
set_option maxRecDepth 100000
theorem nlong_loop (k : Nat) (l : List Tx) (hl : l.length ≤ 1000) (m : Int) : ∀ (r : List Tx) (fuel i : Nat), l.drop i = r → r.length < fuel →
    Nm_Long.l4 k l m fuel (i : Int) = some (if r.all (fun x => decide ((x.length : Int) ≤ m)) then .inl () else .inr true)
  | _, 0, _, _, h => by omega
  | [], f + 1, i, hr, _ => by
    have := at_nil hr
    unfold Nm_Long.l4
    rw [if_neg (by simp; omega)]
    simp
  | x :: r, f + 1, i, hr, hf => by
    obtain ⟨g1, g2, g3⟩ := at_drop hr
    unfold Nm_Long.l4
    rw [if_pos (by simp; exact g3), g1, Option.bind_some, wr1 (by omega), nlong_loop k l hl m r f (i + 1) g2 (by simpa using hf)]
    by_cases hx : (x.length : Int) > m
    · rw [if_pos (by simpa using hx)]
      have : ¬ ((x.length : Int) ≤ m) := by omega
      simp [this]
    · rw [if_neg (by simpa using hx)]
      have : (x.length : Int) ≤ m := by omega
      simp [this]
theorem nlong_f (k : Nat) (hk : 100000 < k) (l : List Tx) (p q : Nat) (hp : p ≤ 1000) : ∃ b, Nm_Long.f k l (p : Int) (q : Int) = some b ∧ (b = false → l.length ≤ p ∧ ∀ x ∈ l, x.length ≤ q) := by
  unfold Nm_Long.f
  by_cases h : (l.length : Int) > p
  · exact ⟨true, by rw [if_pos (by simpa using h)], fun e => by cases e⟩
  · have e : Nm_Long.l4 k l (q : Int) k 0 = _ := nlong_loop k l (by omega) q l k 0 rfl (by omega)
    rw [if_neg (by simpa using h), e]
    cases ha : l.all (fun x => decide ((x.length : Int) ≤ q))
    · exact ⟨true, rfl, fun e => by cases e⟩
    · refine ⟨false, rfl, fun _ => ⟨by omega, fun x hx => ?_⟩⟩
      have := List.all_eq_true.1 ha x hx
      simp at this; omega
def okA (a : Ac) : Prop := a.f_Var.fN.length ≤ 60 ∧ a.f_Var.f_Words.length ≤ 60 ∧ ∀ w ∈ a.f_Var.f_Words, w.length ≤ 200
theorem along_loop (k : Nat) (hk : 100000 < k) (a : List Ac) (ha : a.length ≤ 1000) : ∀ (l : List Ac) (fuel i : Nat), a.drop i = l → l.length < fuel →
    ∃ o, W14_Long.l4 k a fuel (i : Int) = some o ∧ ((o = .inl () ∧ ∀ x ∈ l, okA x) ∨ o = .inr true)
  | _, 0, _, _, h => by omega
  | [], f + 1, i, hl, _ => by
    have := at_nil hl
    unfold W14_Long.l4
    exact ⟨.inl (), by rw [if_neg (by simp; omega)], .inl ⟨rfl, fun x hx => by cases hx⟩⟩
  | x :: r, f + 1, i, hl, hf => by
    obtain ⟨g1, g2, g3⟩ := at_drop hl
    unfold W14_Long.l4 W14_Long.j12 W14_Long.j8
    rw [if_pos (by simp; exact g3), g1, Option.bind_some]
    by_cases h : decide ((x.f_Var.fN.length : Int) > 60) = true
    · rw [if_pos h, if_pos rfl]; exact ⟨_, rfl, .inr rfl⟩
    · rw [if_neg h]
      obtain ⟨b, e1, e2⟩ := nlong_f k hk x.f_Var.f_Words 60 200 (by omega)
      have e1' : Nm_Long.f k x.f_Var.f_Words 60 200 = some b := e1
      rw [e1', Option.bind_some]
      cases b with
      | true => exact ⟨_, rfl, .inr rfl⟩
      | false =>
        rw [if_neg (by decide), wr1 (by omega)]
        obtain ⟨o, o1, o2⟩ := along_loop k hk a ha r f (i + 1) g2 (by simpa using hf)
        refine ⟨o, o1, ?_⟩
        rcases o2 with ⟨o2, o3⟩ | o2
        · refine .inl ⟨o2, fun y hy => ?_⟩
          rcases List.mem_cons.1 hy with rfl | hy
          · have := e2 rfl
            simp at h
            exact ⟨by omega, this⟩
          · exact o3 y hy
        · exact .inr o2
theorem along_f (k : Nat) (hk : 100000 < k) (a : List Ac) : ∃ b, W14_Long.f k a 12 = some b ∧ (b = false → a.length ≤ 12 ∧ ∀ x ∈ a, okA x) := by
  unfold W14_Long.f
  by_cases h : decide ((a.length : Int) > 12) = true
  · rw [if_pos h]; exact ⟨true, rfl, fun e => by cases e⟩
  · rw [if_neg h]
    have hlen : (a.length : Int) ≤ 12 := by simpa using h
    obtain ⟨o, o1, o2⟩ := along_loop k hk a (by omega) a k 0 rfl (by omega)
    have o1' : W14_Long.l4 k a k 0 = some o := o1
    rw [o1', Option.bind_some]
    rcases o2 with ⟨rfl, o3⟩ | rfl
    · exact ⟨false, rfl, fun _ => ⟨by omega, o3⟩⟩
    · exact ⟨true, rfl, fun e => by cases e⟩
def actV (v : Vr) : Ac := ⟨0, v⟩
theorem acts_loop (k : Nat) (o : Op1) (hv : o.f_Vars.length * 56 ≤ 140737488351232) : ∀ (l : List Vr) (fuel i : Nat) (acc : List Ac), o.f_Vars.drop i = l → l.length < fuel → acc.length = i →
    W31_Long.l11 k o fuel acc (i : Int) = some (acc ++ l.map actV)
  | _, 0, _, _, _, h, _ => by omega
  | [], f + 1, i, acc, hl, _, _ => by
    have := at_nil hl
    unfold W31_Long.l11
    rw [if_neg (by simp; omega)]; simp
  | v :: r, f + 1, i, acc, hl, hf, hc => by
    obtain ⟨g1, g2, g3⟩ := at_drop hl
    have hw : IntKind.i64.wrap ((i : Int) + 1) = ((i + 1 : Nat) : Int) := by rw [w64 (by omega) (by omega)]; rfl
    unfold W31_Long.l11
    rw [if_pos (by simp; exact g3), g1, Option.bind_some, vr_eta, if_pos (by simp only [List.length_cons, List.length_nil]; omega), hw, show (⟨0, v⟩ : Ac) = actV v from rfl, acts_loop k o hv r f (i + 1) (acc ++ [actV v]) g2 (by simpa using hf) (by simp; omega)]
    simp
structure Few (o : Op1) : Prop where
  n : o.f_News.length ≤ 12
  nw : ∀ x ∈ o.f_News, x.length ≤ 60
  g : o.f_Goals.length ≤ 12
  gw : ∀ x ∈ o.f_Goals, x.length ≤ 60
  f : o.f_File.length ≤ 60
  v : o.f_Vars.length ≤ 12
  vw : ∀ x ∈ o.f_Vars, x.fN.length ≤ 60 ∧ x.f_Words.length ≤ 60 ∧ ∀ w ∈ x.f_Words, w.length ≤ 200
theorem Few.sm {o : Op1} (h : Few o) : SmO o :=
  ⟨by have := h.n; omega, fun x hx => by have := h.nw x hx; omega, by have := h.g; omega, fun x hx => by have := h.gw x hx; omega, by have := h.f; omega, by have := h.v; omega,
    fun v hv => ⟨by have := (h.vw v hv).1; omega, by have := (h.vw v hv).2.1; omega, fun w hw => by have := (h.vw v hv).2.2 w hw; omega⟩⟩
theorem long31 (k : Nat) (o : Op1) (hk : 100000 < k) (hk' : o.f_Vars.length < k) (hv : o.f_Vars.length * 56 ≤ reachBytes) : ∃ b, W31_Long.f k o = some b ∧ (b = false → Few o) := by
  unfold W31_Long.f
  have hv' : o.f_Vars.length * 56 ≤ 140737488351232 := hv
  have e : W31_Long.l11 k o k [] 0 = _ := acts_loop k o hv' o.f_Vars k 0 [] rfl hk' rfl
  rw [e, Option.bind_some, List.nil_append]
  unfold W31_Long.j8
  obtain ⟨b1, h1, g1⟩ := nlong_f k hk o.f_News 12 60 (by omega)
  have h1' : Nm_Long.f k o.f_News 12 60 = some b1 := h1
  rw [h1', Option.bind_some]
  cases b1 with
  | true => exact ⟨true, rfl, fun e => by cases e⟩
  | false =>
    obtain ⟨b2, h2, g2⟩ := nlong_f k hk o.f_Goals 12 60 (by omega)
    have h2' : Nm_Long.f k o.f_Goals 12 60 = some b2 := h2
    rw [if_neg (by decide), h2', Option.bind_some]
    cases b2 with
    | true => exact ⟨true, rfl, fun e => by cases e⟩
    | false =>
      rw [if_neg (by decide)]
      by_cases hf : decide ((o.f_File.length : Int) > 60) = true
      · rw [if_pos hf]; exact ⟨true, rfl, fun e => by cases e⟩
      · rw [if_neg hf]
        obtain ⟨b3, h3, g3⟩ := along_f k hk (o.f_Vars.map actV)
        rw [h3, Option.bind_some]
        refine ⟨b3, rfl, fun e => ?_⟩
        obtain ⟨q1, q2⟩ := g3 e
        have := g1 rfl
        have := g2 rfl
        exact ⟨(g1 rfl).1, (g1 rfl).2, (g2 rfl).1, (g2 rfl).2, by simp at hf; omega, by simpa using q1, fun v hv => q2 (actV v) (List.mem_map_of_mem hv)⟩
theorem alive31_eq (k : Nat) : W31_alive.f (k + 300) = some true := by kernel_rfl
end Go.Proofs.YtcijochjfncefaaGreatDoor
