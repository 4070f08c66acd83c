/- A part of the proof of a given law: DNVA. Own work, printed in part by a program of mine. -/
import Derived.Test.YteddmdkbeednmaaDoorK32DNF
import Derived.Test.YteddmdkbeednmaaDoorK32AmM3
import Derived.Test.YteddmdkbeednmaaDoorK32AmM
namespace Go.Proofs.YteddmdkbeednmaaDoor
open Go Go.AM
set_option linter.unusedVariables false
set_option linter.unusedSimpArgs false
set_option maxRecDepth 100000

abbrev RN := T_rex_Node
abbrev DN := T_millwrightref07_Node
abbrev zeros : List Int := List.replicate 4 (0 : Int)

mutual
def nsz : RN → Nat
  | .mk _ _ _ ks => 1 + nszs ks
def nszs : List RN → Nat
  | [] => 0
  | x :: xs => nsz x + nszs xs
end
mutual
def ofN : RN → DN
  | .mk a b c ks => .mk a b c (ofNs ks)
def ofNs : List RN → List DN
  | [] => []
  | x :: xs => ofN x :: ofNs xs
end
theorem nsz_pos (n : RN) : 1 ≤ nsz n := by cases n; simp [nsz]
theorem nsz_kids (n : RN) : nsz n = 1 + nszs n.f_Kids := by cases n; simp [nsz, T_rex_Node.f_Kids]
theorem nszs_len (l : List RN) : l.length ≤ nszs l := by
  induction l with
  | nil => simp [nszs]
  | cons x xs ih => have := nsz_pos x; simp only [List.length_cons, nszs]; omega
theorem ofNs_map (l : List RN) : ofNs l = l.map ofN := by
  induction l with
  | nil => rfl
  | cons x xs ih => simp [ofNs, ih]
theorem rn_eta (n : RN) : T_rex_Node.mk n.f_Kind n.f_Index n.f_Set n.f_Kids = n := by cases n; rfl
theorem dn_eta (n : DN) : T_millwrightref07_Node.mk n.f_Kind n.f_Index n.f_Set n.f_Kids = n := by cases n; rfl
theorem of_kind (n : RN) : (ofN n).f_Kind = n.f_Kind ∧ (ofN n).f_Index = n.f_Index ∧ (ofN n).f_Set = n.f_Set ∧ (ofN n).f_Kids = ofNs n.f_Kids := by cases n; exact ⟨rfl, rfl, rfl, rfl⟩

theorem at_drop {α : Type} {l r : List α} {i : Nat} {x : α} (h : l.drop i = x :: r) : idx l (i : Int) = some x ∧ l.drop (i + 1) = r ∧ i < l.length := by
  have hi : i < l.length := by
    rcases Nat.lt_or_ge i l.length with h' | h'
    · exact h'
    · rw [List.drop_of_length_le h'] at h; cases h
  rw [List.drop_eq_getElem_cons hi] at h
  injection h with h1 h2
  exact ⟨by rw [idx_at rfl hi, h1], h2, hi⟩
theorem at_nil {α : Type} {l : List α} {i : Nat} (h : l.drop i = []) : l.length ≤ i := by
  have := congrArg List.length h
  simp at this; omega
theorem wr1 {i : Nat} (h : i < 1000000) : IntKind.i64.wrap ((i : Int) + 1) = ((i + 1 : Nat) : Int) := by rw [w64 (by omega) (by omega)]; rfl

theorem left_succ (k : Nat) (n : RN) (m : Int) : millwrightlaw08_left.f (k + 1) n m = millwrightlaw08_left.b k (millwrightlaw08_left.f k) n m := rfl

theorem left_loop (k : Nat) (n : RN) (hrf : ∀ (x : RN) (m : Int), 0 ≤ m → m ≤ 119 → m + 3 ≤ k → ∃ r, millwrightlaw08_left.f k x m = some r ∧ r ≤ m - 1 ∧ (0 ≤ r → r + nsz x = m)) :
    ∀ (fuel : Nat) (l : List RN) (v : Int) (i : Nat), n.f_Kids.drop i = l → -1 ≤ v → v ≤ 119 → v + 2 ≤ fuel → v + 3 ≤ k → (i : Int) + v ≤ 200 →
    ∃ o, millwrightlaw08_left.l5 k (millwrightlaw08_left.f k) n fuel v (i : Int) = some o ∧ (match o with | .inl r => r ≤ v ∧ (0 ≤ r → r + nszs l = v) | .inr r => r = -1)
  | 0, _, v, _, _, h1, _, h2, _, _ => by omega
  | f + 1, [], v, i, hl, h1, h2, h3, h4, h5 => by
    have := at_nil hl
    refine ⟨.inl v, ?_, Int.le_refl _, fun _ => by simp [nszs]⟩
    unfold millwrightlaw08_left.l5
    rw [if_neg (by simp; omega)]
  | f + 1, x :: r, v, i, hl, h1, h2, h3, h4, h5 => by
    obtain ⟨g1, g2, g3⟩ := at_drop hl
    unfold millwrightlaw08_left.l5
    rw [if_pos (by simp; exact g3), g1]
    simp only [Option.bind_some, rn_eta]
    by_cases hv : v < 0
    · rw [if_pos (by simpa using hv)]
      exact ⟨_, rfl, rfl⟩
    · rw [if_neg (by simpa using hv)]
      obtain ⟨q, e1, e2, e3⟩ := hrf x v (by omega) h2 h4
      rw [e1]
      simp only [Option.bind_some]
      rw [wr1 (by omega)]
      by_cases hq : q < -1
      · -- below: the next round, or the end, tells it
        cases f with
        | zero => omega
        | succ f =>
          cases r with
          | nil =>
            have := at_nil g2
            refine ⟨.inl q, ?_, by omega, fun h => by omega⟩
            unfold millwrightlaw08_left.l5
            rw [if_neg (by simp; omega)]
          | cons y r =>
            obtain ⟨g4, _, g6⟩ := at_drop g2
            refine ⟨.inr (-1), ?_, rfl⟩
            unfold millwrightlaw08_left.l5
            rw [if_pos (by simp; omega), g4]
            simp only [Option.bind_some]
            rw [if_pos (by simp; omega)]
      · obtain ⟨o, e4, e5⟩ := left_loop k n hrf f r q (i + 1) g2 (by omega) (by omega) (by omega) (by omega) (by omega)
        refine ⟨o, e4, ?_⟩
        cases o with
        | inl z =>
          simp only at e5 ⊢
          refine ⟨by omega, fun hz => ?_⟩
          have := e5.2 hz
          have := e3 (by omega)
          simp only [nszs]; omega
        | inr z => exact e5

theorem left_f : ∀ (k : Nat) (n : RN) (m : Int), 0 ≤ m → m ≤ 120 → m + 3 ≤ k → ∃ r, millwrightlaw08_left.f k n m = some r ∧ r ≤ m - 1 ∧ (0 ≤ r → r + nsz n = m)
  | 0, n, m, h1, h2, h3 => by omega
  | k + 1, n, m, h1, h2, h3 => by
    rw [left_succ]
    unfold millwrightlaw08_left.b
    have hw : IntKind.i64.wrap (m - 1) = m - 1 := w64 (by omega) (by omega)
    rw [hw]
    obtain ⟨o, e1, e2⟩ := left_loop k n (fun x m' a b c => left_f k x m' a (by omega) c) k n.f_Kids (m - 1) 0 rfl (by omega) (by omega) (by omega) (by omega) (by omega)
    have e1' : millwrightlaw08_left.l5 k (millwrightlaw08_left.f k) n k (m - 1) 0 = some o := e1
    rw [e1']
    cases o with
    | inl r =>
      refine ⟨r, rfl, e2.1, fun h => ?_⟩
      have := e2.2 h
      rw [nsz_kids]; omega
    | inr r => exact ⟨r, rfl, by simp only at e2; omega, fun h => by simp only at e2; omega⟩

theorem of_succ (k : Nat) (n : RN) : millwrightlaw07_Of.f (k + 1) n = millwrightlaw07_Of.b k (millwrightlaw07_Of.f k) n := rfl

theorem of_loop (k : Nat) (n : RN) (hn : n.f_Kids.length ≤ 1000) (hrf : ∀ x ∈ n.f_Kids, millwrightlaw07_Of.f k x = some (ofN x)) :
    ∀ (l : List RN) (fuel : Nat) (acc : List DN) (i : Nat), n.f_Kids.drop i = l → l.length < fuel → acc.length = i → i ≤ 1000 →
    millwrightlaw07_Of.l5 k (millwrightlaw07_Of.f k) n fuel acc (i : Int) = some (acc ++ ofNs l)
  | _, 0, _, _, _, h, _, _ => by omega
  | [], f + 1, acc, i, hl, _, _, _ => by
    have := at_nil hl
    unfold millwrightlaw07_Of.l5
    rw [if_neg (by simp; omega)]
    simp [ofNs]
  | x :: r, f + 1, acc, i, hl, hf, ha, hi => by
    obtain ⟨g1, g2, g3⟩ := at_drop hl
    have hx : x ∈ n.f_Kids := List.mem_of_mem_drop (hl ▸ List.mem_cons_self)
    unfold millwrightlaw07_Of.l5
    rw [if_pos (by simp; exact g3), g1]
    simp only [Option.bind_some, rn_eta, hrf x hx]
    rw [if_pos (by simp [LIM]; omega), wr1 (by omega), of_loop k n hn hrf r f (acc ++ [ofN x]) (i + 1) g2 (by simp at hf; omega) (by simp [ha]) (by omega)]
    simp [ofNs]

theorem of_f : ∀ (k : Nat) (n : RN), nsz n ≤ 120 → nsz n + 1 ≤ k → k ≤ 1000 → millwrightlaw07_Of.f k n = some (ofN n)
  | 0, n, _, h, _ => by omega
  | k + 1, n, h1, h2, h3 => by
    rw [of_succ]
    unfold millwrightlaw07_Of.b
    have hk := nsz_kids n
    have hl := nszs_len n.f_Kids
    have hmem : ∀ (l : List RN) x, x ∈ l → nsz x ≤ nszs l := fun l x hx => by
      induction l with
      | nil => cases hx
      | cons y ys ih =>
        rcases List.mem_cons.1 hx with rfl | hx
        · simp [nszs]
        · have := ih hx; simp only [nszs]; omega
    have := of_loop k n (by omega) (fun x hx => by
      have := hmem _ x hx
      exact of_f k x (by omega) (by omega) (by omega)) n.f_Kids k [] 0 rfl (by omega) rfl (by omega)
    have e : millwrightlaw07_Of.l5 k (millwrightlaw07_Of.f k) n k [] 0 = some ([] ++ ofNs n.f_Kids) := this
    rw [e]
    cases n
    simp [millwrightlaw07_Of.j2, ofN, T_rex_Node.f_Kind, T_rex_Node.f_Index, T_rex_Node.f_Set, T_rex_Node.f_Kids]

theorem nsz_mem : ∀ (l : List RN) x, x ∈ l → nsz x ≤ nszs l := fun l x hx => by
  induction l with
  | nil => cases hx
  | cons y ys ih =>
    rcases List.mem_cons.1 hx with rfl | hx
    · simp [nszs]
    · have := ih hx; simp only [nszs]; omega
end Go.Proofs.YteddmdkbeednmaaDoor
