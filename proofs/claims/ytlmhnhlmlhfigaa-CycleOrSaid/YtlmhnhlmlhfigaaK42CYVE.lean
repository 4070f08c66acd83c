/- A part of the proof of a given law: CYVE. Own work, printed in part by a program of mine. -/
import Derived.Test.YtlmhnhlmlhfigaaK42CYVD
namespace Go.Proofs.Ytlmhnhlmlhfigaa
open Go Go.AM Go.ChangeShapes Go.ChangeAt Go.RowKit
set_option linter.unusedVariables false
set_option linter.unusedSimpArgs false
set_option maxRecDepth 100000
theorem farLev_iff {a : List Nd} {n : Tx} : ∀ (d : Nat) (x : Tx), x ∈ farLev (arcsL a) n d ↔ Wk (suc a) d x n
  | 0, x => by
    simp only [farLev, List.mem_singleton]
    exact Iff.rfl
  | d + 1, x => by
    simp only [farLev]
    constructor
    · intro h
      obtain ⟨y, hy, rfl⟩ := List.mem_map.1 h
      obtain ⟨h1, h2⟩ := List.mem_filter.1 hy
      obtain ⟨m, hm, hc⟩ := List.any_eq_true.1 h2
      rw [arcsL_mem h1] at hm
      exact ⟨m, hm, (farLev_iff d m).1 (by simpa using hc)⟩
    · rintro ⟨m, hm, hw⟩
      refine List.mem_map.2 ⟨(x, suc a x), List.mem_filter.2 ⟨arcsL_key hm, ?_⟩, rfl⟩
      exact List.any_eq_true.2 ⟨m, hm, by simpa using (farLev_iff d m).2 hw⟩
theorem far_ex (A : KV (List Tx)) (n : Tx) : ∀ (c : Nat) (M : KV Int), farMu A n M = c → FarI A n M → ∃ M', FarI A n M' ∧ ∀ y ∈ A, ∀ m ∈ y.2, FarX M' y m := by
  intro c
  induction c using Nat.strongRecOn with
  | _ c ih =>
    intro M hc hI
    by_cases hx : ∃ y ∈ A, ∃ m ∈ y.2, ∃ d, mget m M = some d ∧ (mget y.1 M = none ∨ ∃ old, mget y.1 M = some old ∧ d + 1 < old)
    · obtain ⟨y, hy, m, hm, d, hd, ho⟩ := hx
      obtain ⟨p1, p2⟩ := hI.put hy hm hd ho
      exact ih _ (by omega) _ rfl p1
    · refine ⟨M, hI, fun y hy m hm d hd => ?_⟩
      cases e : mget y.1 M with
      | none => exact absurd ⟨y, hy, m, hm, d, hd, .inl e⟩ hx
      | some old =>
        by_cases hl : d + 1 < old
        · exact absurd ⟨y, hy, m, hm, d, hd, .inr ⟨old, e, hl⟩⟩ hx
        · exact ⟨old, rfl, by omega⟩
def fr (a : List Nd) (n : Tx) : KV Int := farKV (arcsL a) n (n :: (arcsL a).map fun y => y.1)
theorem fr_spec (a : List Nd) (n : Tx) : (∀ x v, mget x (fr a n) = some v → 0 ≤ v ∧ v ≤ ((arcsL a).length : Int) ∧ Wk (suc a) v.toNat x n) ∧ ∀ d x, Wk (suc a) d x n → ∃ v, mget x (fr a n) = some v ∧ v ≤ (d : Int) := by
  obtain ⟨M, hI, hX⟩ := far_ex (arcsL a) n _ _ rfl (FarI.first (arcsL a) n)
  have e : M = fr a n := hI.last hX
  rw [← e]
  refine ⟨fun x v h => ?_, fun d x h => ?_⟩
  · obtain ⟨h1, h2, h3⟩ := hI.lev x v h
    have := hI.len
    exact ⟨h1, by omega, (farLev_iff _ x).1 h3⟩
  · exact hI.least hX d x ((farLev_iff d x).2 h)
theorem fr_iff {a : List Nd} {n x : Tx} {v : Nat} (hmin : ∀ e, e < v → ¬ Wk (suc a) e x n) : mget x (fr a n) = some (v : Int) ↔ Wk (suc a) v x n := by
  obtain ⟨s1, s2⟩ := fr_spec a n
  constructor
  · intro h
    have := (s1 x v h).2.2
    simpa using this
  · intro h
    obtain ⟨u, hu, hle⟩ := s2 v x h
    obtain ⟨h0, _, hw⟩ := s1 x u hu
    have : u.toNat = v := by
      rcases Nat.lt_or_ge u.toNat v with hl | hl
      · exact absurd hw (hmin _ hl)
      · omega
    rw [hu]; congr 1; omega
theorem far_eq (k : Nat) (a : List Nd) (ha : Small a) (n : Tx) : cycle_arcs_far_m0.f k (arcsL a) n = some (fr a n) := by
  unfold cycle_arcs_far_m0.f
  have h1 := arcsL_len ha
  have hL : LIM = 4294967296 := rfl
  have hall : ((arcsL a).all fun y => decide (y.2.length ≤ LIM)) = true := List.all_eq_true.2 fun y hy => by
    rw [arcsL_mem hy]
    have := ha.suc y.1
    simp; omega
  rw [if_pos ⟨by omega, hall⟩]; rfl
def near (F : KV Int) : List Tx → Tx → Int → Tx × Int
  | [], b, d => (b, d)
  | m :: r, b, d => match mget m F with
    | some v => if d < 0 ∨ v < d then near F r m v else near F r b d
    | none => near F r b d
theorem near_loop (k : Nat) (F : KV Int) (a : List Tx) (ha : a.length ≤ 1000) : ∀ (l : List Tx) (fuel i : Nat) (b : Tx) (d : Int), a.drop i = l → l.length < fuel → cycle_arcs_round_1_m0.l7 k a F fuel b d (i : Int) = some (near F l b d)
  | _, 0, _, _, _, _, h => by omega
  | [], f + 1, i, b, d, hl, _ => by
    have := at_nil hl
    unfold cycle_arcs_round_1_m0.l7
    rw [if_neg (by simp; omega)]; rfl
  | m :: r, f + 1, i, b, d, hl, hf => by
    obtain ⟨g1, g2, g3⟩ := at_drop hl
    have ih := fun b d => near_loop k F a ha r f (i + 1) b d g2 (by simpa using hf)
    unfold cycle_arcs_round_1_m0.l7 cycle_arcs_round_1_m0.j19 cycle_arcs_round_1_m0.j15
    rw [if_pos (by simp; exact g3), g1, Option.bind_some, wr1 (by omega)]
    unfold near
    cases hm : mget m F with
    | none => rw [if_neg (by simp), if_neg (by simp), ih]
    | some v =>
      rw [if_pos (by simp)]
      simp only [Option.getD_some]
      by_cases h1 : d < 0
      · rw [if_pos (by simpa using h1), if_pos (by trivial), ih, if_pos (.inl h1)]
      · rw [if_neg (by simpa using h1)]
        by_cases h2 : v < d
        · rw [if_pos (by simpa using h2), ih, if_pos (.inr h2)]
        · rw [if_neg (by simpa using h2), ih, if_neg (by omega)]
theorem near_eq (k : Nat) (hk : 2000 < k) (F : KV Int) (a : List Tx) (ha : a.length ≤ 1000) : cycle_arcs_round_1_m0.f k a F = some (near F a [] (-1)) := by
  unfold cycle_arcs_round_1_m0.f cycle_arcs_round_1_m0.j3
  have e : cycle_arcs_round_1_m0.l7 k a F k [] (-1) 0 = _ := near_loop k F a ha a k 0 [] (-1) rfl (by omega)
  rw [e]; rfl
theorem near_stay (F : KV Int) (b : Tx) (v : Int) (h0 : 0 ≤ v) : ∀ l : List Tx, (∀ m ∈ l, ∀ u, mget m F = some u → v ≤ u) → near F l b v = (b, v)
  | [], _ => rfl
  | m :: r, h => by
    have ih := near_stay F b v h0 r fun x hx => h x (List.mem_cons_of_mem _ hx)
    unfold near
    cases hm : mget m F with
    | none => exact ih
    | some u =>
      have := h m List.mem_cons_self u hm
      simp only
      rw [if_neg (by omega)]; exact ih
theorem near_pick (F : KV Int) (v : Int) (h0 : 0 ≤ v) : ∀ (l : List Tx) (b : Tx) (d : Int), (∀ m ∈ l, ∀ u, mget m F = some u → v ≤ u) → (∃ m ∈ l, mget m F = some v) → (d < 0 ∨ v < d) →
    ∃ l1 p l2, l = l1 ++ p :: l2 ∧ (∀ x ∈ l1, mget x F ≠ some v) ∧ mget p F = some v ∧ near F l b d = (p, v)
  | [], _, _, _, h, _ => by obtain ⟨m, hm, _⟩ := h; cases hm
  | m :: r, b, d, h1, h2, h3 => by
    by_cases e : mget m F = some v
    · refine ⟨[], m, r, rfl, (fun x hx => by cases hx), e, ?_⟩
      unfold near
      rw [e]
      simp only
      rw [if_pos h3]
      exact near_stay F m v h0 r fun x hx => h1 x (List.mem_cons_of_mem _ hx)
    · have h2' : ∃ m ∈ r, mget m F = some v := by
        obtain ⟨x, hx, hv⟩ := h2
        rcases List.mem_cons.1 hx with rfl | hx
        · exact absurd hv e
        · exact ⟨x, hx, hv⟩
      have ih := fun b d h => near_pick F v h0 r b d (fun x hx => h1 x (List.mem_cons_of_mem _ hx)) h2' h
      unfold near
      cases hm : mget m F with
      | none =>
        obtain ⟨l1, p, l2, q1, q2, q3, q4⟩ := ih b d h3
        refine ⟨m :: l1, p, l2, by rw [q1]; rfl, fun x hx => ?_, q3, q4⟩
        rcases List.mem_cons.1 hx with rfl | hx
        · exact e
        · exact q2 x hx
      | some u =>
        have hu := h1 m List.mem_cons_self u hm
        have hne : u ≠ v := fun e' => e (by rw [hm, e'])
        simp only
        split
        · obtain ⟨l1, p, l2, q1, q2, q3, q4⟩ := ih m u (.inr (by omega))
          refine ⟨m :: l1, p, l2, by rw [q1]; rfl, fun x hx => ?_, q3, q4⟩
          rcases List.mem_cons.1 hx with rfl | hx
          · exact e
          · exact q2 x hx
        · obtain ⟨l1, p, l2, q1, q2, q3, q4⟩ := ih b d h3
          refine ⟨m :: l1, p, l2, by rw [q1]; rfl, fun x hx => ?_, q3, q4⟩
          rcases List.mem_cons.1 hx with rfl | hx
          · exact e
          · exact q2 x hx
theorem near_step {k : Nat} (hk : 2000 < k) {a : List Nd} (ha : Small a) {n at_ : Tx} {v : Nat} (hw : Wk (suc a) (v + 1) at_ n) (hmin : ∀ e, e < v → ¬ Wk (suc a) (e + 1) at_ n) :
    ∃ l1 p l2, suc a at_ = l1 ++ p :: l2 ∧ (∀ x ∈ l1, ¬ Wk (suc a) v x n) ∧ Wk (suc a) v p n ∧ (∀ e, e < v → ¬ Wk (suc a) e p n) ∧ cycle_arcs_round_1_m0.f k (suc a at_) (fr a n) = some (p, (v : Int)) := by
  have hm : ∀ m ∈ suc a at_, ∀ e, e < v → ¬ Wk (suc a) e m n := fun m hm e he hw => hmin e he ⟨m, hm, hw⟩
  have hs := ha.suc at_
  obtain ⟨m, hmm, hmw⟩ := hw
  obtain ⟨l1, p, l2, q1, q2, q3, q4⟩ := near_pick (fr a n) (v : Int) (by omega) (suc a at_) [] (-1) (fun x hx u hu => by
    obtain ⟨h0, _, hw⟩ := (fr_spec a n).1 x u hu
    rcases Nat.lt_or_ge u.toNat v with hl | hl
    · exact absurd hw (hm x hx _ hl)
    · omega) ⟨m, hmm, (fr_iff (hm m hmm)).2 hmw⟩ (.inl (by omega))
  have hp : p ∈ suc a at_ := by rw [q1]; simp
  refine ⟨l1, p, l2, q1, fun x hx hw => q2 x hx ((fr_iff (hm x (by rw [q1]; exact List.mem_append.2 (.inl hx)))).2 hw), (fr_iff (hm p hp)).1 q3, hm p hp, ?_⟩
  rw [near_eq k hk _ _ (by omega), q4]
inductive Way (s : Tx → List Tx) (n : Tx) : Nat → Tx → List Tx → Prop
  | over {x : Tx} : Way s n 0 x []
  | go {v : Nat} {x p : Tx} {l1 l2 r : List Tx} : s x = l1 ++ p :: l2 → (∀ y ∈ l1, ¬ Wk s v y n) → Wk s v p n → (∀ e, e < v → ¬ Wk s e p n) → Way s n v p r → Way s n (v + 1) x (x :: r)
theorem round_loop {k : Nat} (hk : 2000 < k) {a : List Nd} (ha : Small a) {n : Tx} : ∀ (v : Nat) (x : Tx) (fuel : Nat) (out : List Tx), Wk (suc a) v x n → (∀ e, e < v → ¬ Wk (suc a) e x n) → v < fuel → out.length + v ≤ 1000 →
    ∃ r, cycle_arcs_round_m0.l8 k (arcsL a) (fr a n) fuel out x (v : Int) = some (out ++ r) ∧ Way (suc a) n v x r
  | _, _, 0, _, _, _, h, _ => by omega
  | 0, x, f + 1, out, hw, hm, _, _ => by
    refine ⟨[], ?_, .over⟩
    unfold cycle_arcs_round_m0.l8
    rw [if_neg (by simp)]; simp
  | v + 1, x, f + 1, out, hw, hm, hf, ho => by
    obtain ⟨l1, p, l2, q1, q2, q3, q4, q5⟩ := near_step hk ha hw fun e he => hm (e + 1) (by omega)
    obtain ⟨r, h1, h2⟩ := round_loop hk ha v p f (out ++ [x]) q3 q4 (by omega) (by simp; omega)
    refine ⟨x :: r, ?_, .go q1 q2 q3 q4 h2⟩
    unfold cycle_arcs_round_m0.l8
    rw [if_pos (by simp), if_pos (lim_ok (by omega)), arcsL_get, q5, Option.bind_some, h1, List.append_assoc]
    rfl
theorem round_eq {k : Nat} (hk : 2000 < k) {a : List Nd} (ha : Small a) {n : Tx} {e : Nat} (hw : Wk (suc a) (e + 1) n n) (hm : ∀ d, d < e → ¬ Wk (suc a) (d + 1) n n) (he : e ≤ 100) :
    ∃ r, cycle_arcs_round_m0.f k (arcsL a) n = some (n :: r) ∧ Way (suc a) n (e + 1) n (n :: r) := by
  obtain ⟨l1, p, l2, q1, q2, q3, q4, q5⟩ := near_step hk ha hw hm
  obtain ⟨r, h1, h2⟩ := round_loop hk ha e p k [n] q3 q4 (by omega) (by simp; omega)
  refine ⟨r, ?_, .go q1 q2 q3 q4 h2⟩
  unfold cycle_arcs_round_m0.f cycle_arcs_round_m0.j3
  rw [far_eq k a ha, Option.bind_some, arcsL_get, q5, Option.bind_some, h1]; rfl
end Go.Proofs.Ytlmhnhlmlhfigaa
