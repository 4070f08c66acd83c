/- A part of a proof: FBVB. -/
import Derived.Test.YtcijochjfncefaaGreatDoorK44FBVQ
import Derived.Lib.AtoiAllCases
import Derived.Lib.ItoaNum
namespace Go.Proofs.YtcijochjfncefaaGreatDoor
open Go Go.AM Go.ChangeShapes Go.ChangeAt Go.RowKit
set_option linter.unusedVariables false
set_option linter.unusedSimpArgs false
set_option maxRecDepth 100000
abbrev Tx := List UInt8

theorem find_gen {α : Type} (L : Nat → Int → Option (Sum Unit Int)) (a : List α) (F : α → Option Bool) (p : α → Bool) (ha : a.length ≤ 100000)
    (h0 : ∀ n v, L (n + 1) v = (if (decide (v < (a.length : Int))) then ((idx a v).bind fun x => ((F x).bind fun b => (if b then some (Sum.inr v) else L n (IntKind.i64.wrap (v + 1))))) else some (Sum.inl ()))) :
    ∀ (l : List α) (fuel i : Nat), a.drop i = l → l.length < fuel → (∀ x ∈ l, F x = some (p x)) → ∃ o, L fuel (i : Int) = some o ∧ ((l.any p = false ∧ o = .inl ()) ∨ (l.any p = true ∧ ∃ j : Nat, o = .inr (j : Int)))
  | _, 0, _, _, h, _ => by omega
  | [], f + 1, i, hl, _, _ => by
    have := at_nil hl
    rw [h0, if_neg (by simp; omega)]
    exact ⟨_, rfl, .inl ⟨rfl, rfl⟩⟩
  | x :: r, f + 1, i, hl, hf, hF => by
    obtain ⟨g1, g2, g3⟩ := at_drop hl
    rw [h0, if_pos (by simp; exact g3), g1, Option.bind_some, hF x (.head _), Option.bind_some, wr1 (by omega), List.any_cons]
    cases hp : p x with
    | true => exact ⟨_, rfl, .inr ⟨rfl, i, rfl⟩⟩
    | false =>
      obtain ⟨o, h1, h2⟩ := find_gen L a F p ha h0 r f (i + 1) g2 (by simpa using hf) fun y hy => hF y (List.mem_cons_of_mem _ hy)
      exact ⟨o, h1, by simpa using h2⟩
def allEq {α : Type} (p : α → α → Bool) : List α → List α → Bool
  | x :: xs, y :: ys => p x y && allEq p xs ys
  | _, _ => true
def eqL {α : Type} (p : α → α → Bool) (a b : List α) : Bool := decide (a.length = b.length) && allEq p a b
theorem eqL_refl {α : Type} (p : α → α → Bool) (hp : ∀ x, p x x = true) (a : List α) : eqL p a a = true := by
  have : allEq p a a = true := by
    induction a with
    | nil => rfl
    | cons x xs ih => simp [allEq, hp, ih]
  simp [eqL, this]
theorem eq_gen {α : Type} (L : Nat → Int → Option (Sum Unit Bool)) (a b : List α) (F : α → α → Option Bool) (p : α → α → Bool) (ha : a.length ≤ 100000) (hab : a.length = b.length)
    (h0 : ∀ n v, L (n + 1) v = (if (decide (v < (a.length : Int))) then ((idx a v).bind fun x => ((idx b v).bind fun y => ((F x y).bind fun e => (if (!e) then some (Sum.inr false) else L n (IntKind.i64.wrap (v + 1)))))) else some (Sum.inl ()))) :
    ∀ (l m : List α) (fuel i : Nat), a.drop i = l → b.drop i = m → l.length < fuel → (∀ x ∈ l, ∀ y ∈ m, F x y = some (p x y)) → L fuel (i : Int) = some (if allEq p l m then .inl () else .inr false)
  | _, _, 0, _, _, _, h, _ => by omega
  | [], m, f + 1, i, hl, hm, _, _ => by
    have := at_nil hl
    rw [h0, if_neg (by simp; omega)]
    simp [allEq]
  | x :: r, [], f + 1, i, hl, hm, _, _ => by
    obtain ⟨_, _, g3⟩ := at_drop hl
    have := at_nil hm
    omega
  | x :: r, y :: q, f + 1, i, hl, hm, hf, hF => by
    obtain ⟨g1, g2, g3⟩ := at_drop hl
    obtain ⟨k1, k2, k3⟩ := at_drop hm
    rw [h0, if_pos (by simp; exact g3), g1, k1, Option.bind_some, Option.bind_some, hF x (.head _) y (.head _), Option.bind_some, wr1 (by omega), eq_gen L a b F p ha hab h0 r q f (i + 1) g2 k2 (by simp at hf; omega) fun x' hx y' hy => hF x' (List.mem_cons_of_mem _ hx) y' (List.mem_cons_of_mem _ hy)]
    cases hp : p x y <;> simp [allEq, hp]
theorem eqs_eq (k : Nat) (a b : List Tx) (ha : a.length ≤ 100000) (hk : a.length < k) : slices_Equal_string_string.f k a b = some (eqL (· == ·) a b) := by
  unfold slices_Equal_string_string.f eqL
  by_cases h : a.length = b.length
  · rw [if_neg (by simp; omega)]
    have e : slices_Equal_string_string.l4 k a b k 0 = _ := eq_gen (slices_Equal_string_string.l4 k a b) a b (fun x y => some (x == y)) (· == ·) ha h (fun n v => rfl) a b k 0 rfl rfl hk fun _ _ _ _ => rfl
    rw [e]
    cases allEq (fun x y : Tx => x == y) a b <;> simp [h, slices_Equal_string_string.j2]
  · rw [if_pos (by simp; omega)]; simp [h]
theorem vr_eta (v : Vr) : TR14V.mk v.fN v.f_Words v.f_Level v.f_Hidden = v := by cases v; rfl
def veq (x y : Vr) : Bool := x.fN == y.fN && (x.f_Level == y.f_Level && (x.f_Hidden == y.f_Hidden && eqL (· == ·) x.f_Words y.f_Words))
theorem eqT_refl (a : List Tx) : eqL (fun x y : Tx => x == y) a a = true := eqL_refl _ (fun x => by simp) a
theorem veq_refl (x : Vr) : veq x x = true := by
  unfold veq; rw [eqT_refl]; simp
theorem ifb {b c : Bool} : (if b then some c else some false : Option Bool) = some (b && c) := by cases b <;> rfl
theorem sameVar_eq (k : Nat) (x y : Vr) (h : x.f_Words.length ≤ 100000) (hk : x.f_Words.length < k) : flags_sameVar.f k x y = some (veq x y) := by
  unfold flags_sameVar.f veq
  rw [eqs_eq k _ _ h hk, Option.bind_some, ifb, ifb, ifb]
theorem eqv_eq (k : Nat) (a b : List Vr) (ha : a.length ≤ 100000) (hk : 100000 < k) (hw : ∀ v ∈ a, v.f_Words.length ≤ 100000) : env_Var_m0.f k a b = some (eqL veq a b) := by
  unfold env_Var_m0.f eqL
  by_cases h : a.length = b.length
  · rw [if_neg (by simp; omega)]
    have e : env_Var_m0.l4 k a b k 0 = _ := eq_gen (env_Var_m0.l4 k a b) a b (fun x y => flags_sameVar.f k x y) veq ha h (fun n v => rfl) a b k 0 rfl rfl (by omega) fun x hx y _ => sameVar_eq k x y (hw x hx) (by have := hw x hx; omega)
    rw [e]
    cases allEq veq a b <;> simp [h, env_Var_m0.j2]
  · rw [if_pos (by simp; omega)]; simp [h]

def fig (i : Nat) : UInt8 := UInt8.ofNat (48 + i)
theorem ofNat_fig {i : Nat} (h : i < 10) : (fig i).toNat = 48 + i := by
  unfold fig; rw [UInt8.toNat_ofNat']; omega
theorem dec_small {n : Nat} (h : n < 10) : Lib.decDigits n = [fig n] := Lib.decDigits_one h
def num (ws : List Tx) : Int := match ws with
  | [[c]] => if 49 ≤ c.toNat ∧ c.toNat ≤ 56 then (c.toNat : Int) - 48 else 0
  | _ => 0
theorem itoa_nat (n : Nat) : Lib.itoa (n : Int) = Lib.decDigits n := by
  unfold Lib.itoa
  rw [if_neg (by omega)]; simp
theorem one_all : ∀ n : Fin 256, 49 ≤ n.val → n.val ≤ 56 → (match Lib.atoiAll [n.val.toUInt8] with | .ok v => v == (n.val : Int) - 48 | _ => false) = true := by decide +kernel
theorem one_at {c : UInt8} (h : 49 ≤ c.toNat ∧ c.toNat ≤ 56) : Lib.atoiAll [c] = .ok ((c.toNat : Int) - 48) := by
  have := one_all ⟨c.toNat, c.toNat_lt⟩ h.1 h.2
  have e : c.toNat.toUInt8 = c := by simp
  simp only [e] at this
  split at this
  · rename_i v hv; rw [hv]; simp at this; rw [this]
  · cases this
theorem itoa_one {c : UInt8} (h : 49 ≤ c.toNat ∧ c.toNat ≤ 56) : Lib.itoa ((c.toNat : Int) - 48) = [c] := by
  have e : ((c.toNat : Int) - 48) = ((c.toNat - 48 : Nat) : Int) := by omega
  rw [e, itoa_nat, dec_small (by omega)]
  congr 1
  apply UInt8.toNat.inj
  rw [ofNat_fig (by omega)]; omega
theorem itoa_inv {v : Int} (h1 : 1 ≤ v) (h2 : v ≤ 8) : ∃ c : UInt8, (49 ≤ c.toNat ∧ c.toNat ≤ 56) ∧ Lib.itoa v = [c] ∧ v = (c.toNat : Int) - 48 := by
  obtain ⟨n, rfl⟩ : ∃ n : Nat, v = (n : Int) := ⟨v.toNat, by omega⟩
  refine ⟨fig n, ?_, ?_, ?_⟩
  · rw [ofNat_fig (by omega)]; omega
  · rw [itoa_nat, dec_small (by omega)]
  · rw [ofNat_fig (by omega)]; omega
theorem number_eq (k : Nat) (ws : List Tx) (hw : ∀ w ∈ ws, w.length ≤ 100000) : flags_number.f k ws = some (num ws) := by
  unfold flags_number.f
  match ws, hw with
  | [], _ => rfl
  | a :: b :: r, _ => rw [if_pos (by simp; omega)]; unfold num; rcases a with _ | ⟨_, _ | _⟩ <;> rfl
  | [w], hw =>
    have hl := hw w (.head _)
    rw [if_neg (by simp)]
    have e0 : idx [w] 0 = some w := rfl
    rw [e0, Option.bind_some]
    unfold pAtoi.f
    rw [if_pos (by omega), Option.bind_some]
    have hu : (unkE == 0) = false := rfl
    have hz : ∀ x : Option Int, (match Lib.atoiAll w with | .ok v => False | _ => True) → num [w] = 0 := by
      intro _ h
      unfold num
      split
      · rename_i c e
        obtain rfl := (List.cons.inj e).1
        split
        · rename_i hc; rw [one_at hc] at h; exact h.elim
        · rfl
      · rfl
    cases hA : Lib.atoiAll w with
    | ok v =>
      simp only [BEq.rfl, Bool.not_true, Bool.false_eq_true, if_false]
      have hn : (¬ (1 ≤ v ∧ v ≤ 8 ∧ Lib.itoa v = w)) → num [w] = 0 := by
        intro h
        unfold num
        split
        · rename_i c e
          obtain rfl := (List.cons.inj e).1
          split
          · rename_i hc
            rw [one_at hc] at hA
            cases hA
            exact absurd ⟨by omega, by omega, itoa_one hc⟩ h
          · rfl
        · rfl
      by_cases h1 : v < 1
      · rw [if_pos (by simpa using h1), hn (by omega)]; rfl
      · rw [if_neg (by simpa using h1)]
        by_cases h2 : v > 8
        · rw [if_pos (by simpa using h2), hn (by omega)]; rfl
        · rw [if_neg (by simpa using h2)]
          unfold pItoa.f
          rw [if_pos ⟨by omega, by omega⟩, Option.bind_some, Option.bind_some]
          by_cases h3 : Lib.itoa v = w
          · rw [show (Lib.itoa v == w) = true by simpa using h3]
            obtain ⟨c, hc, h4, h5⟩ := itoa_inv (v := v) (by omega) (by omega)
            rw [h4] at h3
            subst h3
            simp only [num, if_pos hc, flags_number.j7, flags_number.j4]
            rw [h5]; rfl
          · rw [show (Lib.itoa v == w) = false by simpa using h3, hn (fun h => h3 h.2.2)]; rfl
    | _ =>
      simp only [hu, Bool.not_false, if_true]
      rw [hz none (by rw [hA]; trivial)]; rfl
end Go.Proofs.YtcijochjfncefaaGreatDoor
