/- A program's match of a text: the code always has an answer. -/
import Derived.Test.YteddmdkbeednmaaDoorK33DAVQD
namespace Go.Proofs.YteddmdkbeednmaaDoor
open Go Go.AM
set_option linter.unusedVariables false
set_option linter.unusedSimpArgs false
set_option maxRecDepth 100000
namespace Pk
theorem upd_fill (j d : Nat) : upd (List.replicate j (-1 : Int) ++ List.replicate (d + 1) 0) j (-1) = List.replicate (j + 1) (-1) ++ List.replicate d 0 := by
  unfold upd
  rw [List.replicate_succ, List.set_append_right _ _ (by simp)]
  simp [List.replicate_succ']
theorem at_fill (j d : Nat) : (List.replicate j (-1 : Int) ++ List.replicate (d + 1) 0)[j]? = some 0 := by
  rw [List.getElem?_append_right (by simp)]; simp [List.replicate_succ]
theorem fill42 {p : List Ins} {s : List UInt8} {K : Nat} (hn : p.length ≤ 200) : ∀ {d j n : Nat}, j + d = p.length → d < n → pike_Match.l42 K p s n (List.replicate j (-1) ++ List.replicate d 0) j = some (List.replicate p.length (-1))
  | 0, j, n, hj, hd => by
    obtain ⟨n, rfl⟩ : ∃ n', n = n' + 1 := ⟨n - 1, by omega⟩
    rw [pike_Match.l42, if_neg (by simp; omega)]
    obtain rfl : j = p.length := by omega
    simp
  | d + 1, j, n, hj, hd => by
    obtain ⟨n, rfl⟩ : ∃ n', n = n' + 1 := ⟨n - 1, by omega⟩
    rw [pike_Match.l42, if_pos (by simp; omega), if_pos ⟨by omega, by simp; omega⟩, Nat.zero_add, Int.toNat_natCast, at_fill, Option.bind_some, upd_fill, show IntKind.i64.wrap ((j : Int) + 1) = ((j + 1 : Nat) : Int) from by rw [w64 (by omega) (by omega)]; rfl]
    exact fill42 hn (by omega) (by omega)
theorem fill31 {p : List Ins} {s : List UInt8} {v2 : List Int} {K : Nat} : ∀ {d j n : Nat}, j + d = 20 → d < n → pike_Match.l31 K p s v2 n (List.replicate j (-1) ++ List.replicate d 0) j = some (List.replicate 20 (-1))
  | 0, j, n, hj, hd => by
    obtain ⟨n, rfl⟩ : ∃ n', n = n' + 1 := ⟨n - 1, by omega⟩
    rw [pike_Match.l31, if_neg (by simp; omega)]
    obtain rfl : j = 20 := by omega
    rfl
  | d + 1, j, n, hj, hd => by
    obtain ⟨n, rfl⟩ : ∃ n', n = n' + 1 := ⟨n - 1, by omega⟩
    rw [pike_Match.l31, if_pos (by simp; omega), if_pos ⟨by omega, by omega⟩, Int.toNat_natCast, at_fill, Option.bind_some, upd_fill, show IntKind.i64.wrap ((j : Int) + 1) = ((j + 1 : Nat) : Int) from by rw [w64 (by omega) (by omega)]; rfl]
    exact fill31 (by omega) (by omega)
theorem D_len {p : List Ins} {m : Nat} {has : Nat → Ins → Bool} : ∀ {f i a k M Bs r M' Bs'}, D p m has f i a k M Bs = some (r, M', Bs') → k.length = 20 → ∀ κ, r = some κ → κ.length = 20 := by
  intro f
  induction f with
  | zero => intro i a k M Bs r M' Bs' h; cases h
  | succ f ih =>
    intro i a k M Bs r M' Bs' h hk κ hκ
    unfold D at h
    cases hx : idx p a with
    | none => rw [hx] at h; cases h; cases hκ
    | some x =>
      rw [hx] at h
      dsimp only at h
      split at h
      · cases h; cases hκ
      · cases ha : act m i x a k with
        | stop => rw [ha] at h; cases h; cases hκ
        | hit => rw [ha] at h; cases h; cases hκ; exact hk
        | go b k' => rw [ha] at h; exact ih h (act_len hk ha) κ hκ
        | fork x y =>
          rw [ha] at h
          obtain ⟨⟨q1, q2, q3⟩, hq, h1⟩ := bind_some h
          cases q1 with
          | some κ' => cases h1; exact ih hq hk κ hκ
          | none => exact ih h1 hk κ hκ
        | eat =>
          rw [ha] at h
          cases Bs with
          | nil => cases h; cases hκ
          | cons B Bs2 =>
            dsimp only at h
            split at h
            · obtain ⟨⟨q1, q2, q3⟩, hq, h1⟩ := bind_some h
              cases h1; exact ih hq hk κ hκ
            · cases h; cases hκ
theorem match_D {p : List Ins} {s : List UInt8} (hn : p.length ≤ 200) (hm : s.length ≤ 60) (hset : ∀ x ∈ p, SetOk x.f_Set) :
    ∃ (r : Option Kp) (M1 : Mk) (BB : List Mk), D p s.length (hasf s) 15000 0 0 (List.replicate 20 (-1)) (List.replicate p.length false) (List.replicate s.length (List.replicate p.length false)) = some (r, M1, BB) ∧
      pike_Match.f 20000 p s = some (r.getD [], r.isSome) ∧ ∀ κ, r = some κ → κ.length = 20 := by
  obtain ⟨r, M1, BB, hD, _⟩ := D_def (p := p) (m := s.length) (has := hasf s) (f := 15000) (i := 0) (a := 0) (k := List.replicate 20 (-1)) (M := List.replicate p.length false) (Bs := List.replicate s.length (List.replicate p.length false)) (by
    have h1 : cnts (List.replicate s.length (List.replicate p.length false)) = s.length * p.length := by
      unfold cnts; rw [List.map_replicate, cnt_rep, List.sum_replicate_nat]
    rw [h1, cnt_rep]
    have : s.length * p.length ≤ 60 * 200 := Nat.mul_le_mul hm hn
    omega)
  refine ⟨r, M1, BB, hD, ?_, D_len hD (by simp)⟩
  · have hcz : cnt (List.replicate p.length false) < 19998 + 1 := by rw [cnt_rep]; omega
    obtain ⟨M', N, fo, hC, g0, g1⟩ := found hcz hD
    have hv0 : mkI 0 (List.replicate p.length (-1)) = List.replicate p.length false := by unfold mkI; rw [List.map_replicate]; rfl
    rw [← hv0] at hC
    obtain ⟨w, a1, a2, a3, a4, a5⟩ := add_f hn (K := 19999) (v2 := []) hC (by omega) (by simp) (by simp) (by rw [hv0, cnt_rep]; simp; omega) (fun x hx => by rw [List.mem_replicate] at hx; omega)
    have hin := C_in hC
    have hcl := C_len hC
    rw [hv0, cnt_rep] at hcl
    unfold pike_Match.f
    rw [if_pos ⟨by omega, by omega, by unfold LIM; omega⟩, Int.toNat_natCast]
    have f42 := fill42 (p := p) (s := s) (K := 20000) hn (d := p.length) (j := 0) (n := 20000) (by omega) (by omega)
    rw [List.replicate_zero, List.nil_append] at f42
    rw [show (0 : Int) = ((0 : Nat) : Int) from rfl] at f42 ⊢
    rw [f42, Option.bind_some]
    unfold pike_Match.j39
    have f31 := fill31 (p := p) (s := s) (v2 := List.replicate p.length (-1)) (K := 20000) (d := 20) (j := 0) (n := 20000) (by omega) (by omega)
    rw [List.replicate_zero, List.nil_append] at f31
    rw [show (0 : Int) = ((0 : Nat) : Int) from rfl] at f31 ⊢
    rw [f31, Option.bind_some]
    unfold pike_Match.j28
    rw [show (0 : Int) = ((0 : Nat) : Int) from rfl] at a1 ⊢
    rw [a1, Option.bind_some]
    dsimp only
    rw [List.nil_append]
    have hj : ∀ v' l', pike_Match.j11 20000 p s (s.length : Int) v' l' r = some (r.getD [], r.isSome) := fun v' l' => by
      unfold pike_Match.j11
      cases r <;> rfl
    by_cases hz : s.length = 0
    · have e := g0 hz
      subst e
      have hl17 : pike_Match.l17 20000 p s 20000 ((0 : Nat) : Int) w (N.map thr) r ((0 : Nat) : Int) = some ((s.length : Int), w, N.map thr, r) := by
        rw [show (20000 : Nat) = 19999 + 1 from rfl, pike_Match.l17, if_neg (by rw [hz]; decide), hz]
      rw [hl17, Option.bind_some]
      exact hj _ _
    · obtain ⟨e1, e2⟩ := g1 hz
      subst e1
      obtain ⟨v', l', hl⟩ := match_loop hn hm hset (K := 19998) (by decide) (c := s.length) (i := 0) (n := 20000) (N := N) (v := w) (r := r) (by omega) (fun _ => e2) (fun h => absurd h hz) (by omega) a3 a4 (by omega) (fun t ht => ⟨a5 t ht, hin t ht⟩)
      rw [hl, Option.bind_some]
      exact hj _ _
end Pk
end Go.Proofs.YteddmdkbeednmaaDoor
