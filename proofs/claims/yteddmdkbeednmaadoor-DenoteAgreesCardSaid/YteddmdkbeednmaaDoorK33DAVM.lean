/- Expressions, as the code reads them: branches, and all. -/
import Derived.Test.YteddmdkbeednmaaDoorK33DAVL
namespace Go.Proofs.YteddmdkbeednmaaDoor.Rx
open Go Go.AM
set_option linter.unusedVariables false
set_option linter.unusedSimpArgs false
set_option maxRecDepth 100000
set_option maxHeartbeats 2000000
theorem atC_grow {m : Nat} {b : UInt8} {t u : List UInt8} {g g' : Nat} {n : RN} (h : atC m b t g = some (n, u, g')) : u.length ≤ t.length ∧ g' + u.length ≤ g + t.length + 1 := by
  unfold atC at h
  split at h
  · cases h
  split at h
  · split at h
    · rename_i n' c u' g1 hE
      split at h
      · cases h
        have := exC_grow hE
        simp only [List.length_cons] at this
        exact ⟨by omega, by omega⟩
      · cases h
    · cases h
  split at h
  · cases h; exact ⟨Nat.le_refl _, by omega⟩
  split at h
  · cases h; exact ⟨Nat.le_refl _, by omega⟩
  · split at h
    · rename_i x u' ht
      cases h
      have := tk_lt tkC_ok ht
      simp only [List.length_cons] at this
      exact ⟨by omega, by omega⟩
    · cases h
section
variable (s : List UInt8) (hs : s.length ≤ 1000)
theorem branch_bad (k : Nat) (rf : List UInt8 → Int → Int → Bool → Option (RN × Int × Int × Bool)) (fuel : Nat) (i g : Int) (kids : List RN) : rex_parser_branch_m0.l5 k rf s (fuel + 1) i g true kids = some (jn 2 kids, i, g, true) := by
  unfold rex_parser_branch_m0.l5 rex_parser_branch_m0.j15
  rw [next_bad, Option.bind_some, if_pos (by simp), if_pos rfl, joined_eq, Option.bind_some, rn_eta]
include hs in
theorem branch_loop (k L : Nat) (rf : List UInt8 → Int → Int → Bool → Option (RN × Int × Int × Bool))
    (hit : ∀ (i : Int) (b : UInt8) (t : List UInt8) (g m : Nat), At s i (b :: t) → t.length + 1 ≤ L → ¬ (b = 124 ∨ b = 41) → 2 * t.length + 2 ≤ m → g + t.length + 1 ≤ 10000 → GE s (rf s i (g : Int) false) (itC m b t g)) :
    ∀ (q m fuel : Nat) (i : Int) (r : List UInt8) (g : Nat) (kids : List RN), r.length ≤ q → r.length ≤ L → At s i r → (kids = [] ∨ noSuf r) → 2 * r.length + 1 ≤ m → r.length + 1 < fuel → g + r.length ≤ 10000 → kids.length + r.length ≤ 10000 →
    GE s (rex_parser_branch_m0.l5 k rf s fuel i (g : Int) false kids) ((brC tkC m kids r g).map fun x => (jn 2 x.1, x.2)) := by
  have hs' : s.length ≤ 100000 := by omega
  have hLIM : LIM = 4294967296 := rfl
  intro q
  induction q with
  | zero =>
    intro m fuel i r g kids hq hL ha hk hm hf hg hkl
    obtain rfl : r = [] := List.eq_nil_of_length_eq_zero (by omega)
    obtain ⟨fuel, rfl⟩ : ∃ y, fuel = y + 1 := ⟨fuel - 1, by omega⟩
    obtain ⟨m, rfl⟩ : ∃ y, m = y + 1 := ⟨m - 1, by omega⟩
    unfold rex_parser_branch_m0.l5 rex_parser_branch_m0.j15 brC
    rw [next_nil k s _ ha, Option.bind_some, if_pos (by simp), if_pos rfl, joined_eq, Option.bind_some, rn_eta]
    exact GE.ok ha
  | succ q ih =>
    intro m fuel i r g kids hq hL ha hk hm hf hg hkl
    obtain ⟨fuel, rfl⟩ : ∃ y, fuel = y + 1 := ⟨fuel - 1, by omega⟩
    obtain ⟨m, rfl⟩ : ∃ y, m = y + 1 := ⟨m - 1, by omega⟩
    cases r with
    | nil =>
      unfold rex_parser_branch_m0.l5 rex_parser_branch_m0.j15 brC
      rw [next_nil k s _ ha, Option.bind_some, if_pos (by simp), if_pos rfl, joined_eq, Option.bind_some, rn_eta]
      exact GE.ok ha
    | cons b t =>
      simp only [List.length_cons] at hq hL hm hf hg hkl
      unfold rex_parser_branch_m0.l5 rex_parser_branch_m0.j15
      rw [next_cons k s hs' _ ha, Option.bind_some, if_neg (by simp), sees2 k s hs' _ ha, Option.bind_some]
      by_cases h1 : b = 124 ∨ b = 41
      · rw [if_pos (by simpa using h1), joined_eq, Option.bind_some, rn_eta]
        have e : brC tkC (m + 1) kids (b :: t) g = some (kids, b :: t, g) := by unfold brC; rw [if_pos h1]
        rw [e]
        exact GE.ok ha
      rw [if_neg (by simpa using h1)]
      unfold rex_parser_branch_m0.j10
      have hi := hit i b t g m ha (by omega) h1 (by omega) (by omega)
      have bad : itC m b t g = none → ∃ n j g', (rf s i (g : Int) false).bind (fun v8 => if kids.length + [v8.1].length ≤ LIM then rex_parser_branch_m0.l5 k rf s fuel v8.2.1 v8.2.2.1 v8.2.2.2 (kids ++ [v8.1]) else none) = some (n, j, g', true) := fun hn => by
        obtain ⟨n, j, g', e⟩ := hi.2 hn
        obtain ⟨fuel, rfl⟩ : ∃ y, fuel = y + 1 := ⟨fuel - 1, by omega⟩
        rw [e, Option.bind_some, if_pos (by simp only [List.length_cons, List.length_nil]; omega), branch_bad]
        exact ⟨_, _, _, rfl⟩
      by_cases h2 : b = 42 ∨ b = 43 ∨ b = 63
      · have hkn : kids = [] := by
          rcases hk with h | h
          · exact h
          · exact absurd h2 (h b t rfl)
        subst hkn
        have e : brC tkC (m + 1) [] (b :: t) g = none := by unfold brC; rw [if_neg h1, if_pos h2]; rfl
        have e2 : itC m b t g = none := by unfold itC atC; rw [if_pos h2]; rfl
        rw [e]
        exact ⟨fun _ _ _ h => (by cases h), fun _ => bad e2⟩
      · rw [brC_at m kids b t g h1 h2]
        cases hA : atC m b t g with
        | none =>
          have e2 : itC m b t g = none := by unfold itC; rw [hA]; rfl
          exact ⟨fun _ _ _ h => (by cases h), fun _ => bad e2⟩
        | some x =>
          obtain ⟨n, u, g'⟩ := x
          obtain ⟨l1, l2⟩ := atC_grow hA
          obtain ⟨l3, l4⟩ := sufC_len u n
          have e2 : itC m b t g = some ((sufC n u).1, (sufC n u).2, g') := by unfold itC; rw [hA]; rfl
          obtain ⟨j, e3, ha3⟩ := hi.1 _ _ _ e2
          rw [e3, Option.bind_some, if_pos (by simp only [List.length_cons, List.length_nil]; omega)]
          simp only
          have em : m = (m - (u.length - (sufC n u).2.length)) + (u.length - (sufC n u).2.length) := by omega
          rw [em, brC_suf]
          exact ih _ fuel j _ g' _ (by omega) (by omega) ha3 (.inr l4) (by omega) (by omega) (by omega) (by simp only [List.length_append, List.length_cons, List.length_nil]; omega)
include hs in
theorem exp_loop (k L : Nat) (rf : List UInt8 → Int → Int → Bool → Option (RN × Int × Int × Bool))
    (hbr : ∀ (i : Int) (t : List UInt8) (g m : Nat), At s i t → t.length ≤ L → 2 * t.length + 1 ≤ m → g + t.length ≤ 10000 → GE s (rf s i (g : Int) false) ((brC tkC m [] t g).map fun x => (jn 2 x.1, x.2))) :
    ∀ (q m fuel : Nat) (i : Int) (r : List UInt8) (g : Nat) (kids : List RN), r.length ≤ q → r.length ≤ L → At s i r → 2 * r.length + 1 ≤ m → r.length + 1 < fuel → g + r.length ≤ 10000 → kids.length + r.length ≤ 10000 →
    (∀ n u g', exB tkC m kids r g = some (n, u, g') → ∃ ks j, rex_parser_expression_m0.l12 k rf s fuel i (g : Int) false kids = some (ks, j, (g' : Int), false) ∧ jn 3 ks = n ∧ At s j u) ∧
    (exB tkC m kids r g = none → ∃ ks j g', rex_parser_expression_m0.l12 k rf s fuel i (g : Int) false kids = some (ks, j, g', true)) := by
  have hs' : s.length ≤ 100000 := by omega
  have hLIM : LIM = 4294967296 := rfl
  intro q
  have nil : ∀ (m fuel : Nat) (i : Int) (g : Nat) (kids : List RN), At s i [] →
    (∀ n u g', exB tkC (m + 1) kids [] g = some (n, u, g') → ∃ ks j, rex_parser_expression_m0.l12 k rf s (fuel + 1) i (g : Int) false kids = some (ks, j, (g' : Int), false) ∧ jn 3 ks = n ∧ At s j u) ∧
    (exB tkC (m + 1) kids [] g = none → ∃ ks j g', rex_parser_expression_m0.l12 k rf s (fuel + 1) i (g : Int) false kids = some (ks, j, g', true)) := fun m fuel i g kids ha => by
    have e : exB tkC (m + 1) kids [] g = some (jn 3 kids, [], g) := by unfold exB; rfl
    rw [e]
    unfold rex_parser_expression_m0.l12
    rw [takes_nil k s _ ha, Option.bind_some, if_neg (by simp)]
    exact ⟨fun n u g' h => (by cases h; exact ⟨kids, i, rfl, rfl, ha⟩), fun h => (by cases h)⟩
  induction q with
  | zero =>
    intro m fuel i r g kids hq hL ha hm hf hg hkl
    obtain rfl : r = [] := List.eq_nil_of_length_eq_zero (by omega)
    obtain ⟨fuel, rfl⟩ : ∃ y, fuel = y + 1 := ⟨fuel - 1, by omega⟩
    obtain ⟨m, rfl⟩ : ∃ y, m = y + 1 := ⟨m - 1, by omega⟩
    exact nil m fuel i g kids ha
  | succ q ih =>
    intro m fuel i r g kids hq hL ha hm hf hg hkl
    obtain ⟨fuel, rfl⟩ : ∃ y, fuel = y + 1 := ⟨fuel - 1, by omega⟩
    obtain ⟨m, rfl⟩ : ∃ y, m = y + 1 := ⟨m - 1, by omega⟩
    cases r with
    | nil => exact nil m fuel i g kids ha
    | cons b t =>
      simp only [List.length_cons] at hq hL hm hf hg hkl
      unfold rex_parser_expression_m0.l12
      by_cases h1 : b = 124
      · subst h1
        obtain ⟨t1, t2⟩ := takes_eq k s hs' (g : Int) ha
        have hB := hbr _ t g m t2 (by omega) (by omega) (by omega)
        have e : exB tkC (m + 1) kids (124 :: t) g = match brC tkC m [] t g with | none => none | some (ks, r', g') => exB tkC m (kids ++ [jn 2 ks]) r' g' := by
          conv => lhs; unfold exB
          rw [if_pos rfl]
          cases brC tkC m [] t g <;> rfl
        rw [e, t1, Option.bind_some, if_pos rfl]
        simp only
        cases hb : brC tkC m [] t g with
        | none =>
          rw [hb] at hB
          obtain ⟨n, j, g', e2⟩ := hB.2 rfl
          obtain ⟨fuel, rfl⟩ : ∃ y, fuel = y + 1 := ⟨fuel - 1, by omega⟩
          rw [e2, Option.bind_some, if_pos (by simp only [List.length_cons, List.length_nil]; omega)]
          unfold rex_parser_expression_m0.l12
          rw [takes_bad, Option.bind_some, if_neg (by simp)]
          exact ⟨fun _ _ _ h => (by cases h), fun _ => ⟨_, _, _, rfl⟩⟩
        | some x =>
          obtain ⟨ks, u, g'⟩ := x
          obtain ⟨l1, l2, _⟩ := brC_grow hb
          rw [hb] at hB
          obtain ⟨j, e2, ha3⟩ := hB.1 _ _ _ rfl
          rw [e2, Option.bind_some, if_pos (by simp only [List.length_cons, List.length_nil]; omega)]
          exact ih m fuel j u g' _ (by omega) (by omega) ha3 (by omega) (by omega) (by omega) (by simp only [List.length_append, List.length_cons, List.length_nil]; omega)
      · have e : exB tkC (m + 1) kids (b :: t) g = some (jn 3 kids, b :: t, g) := by unfold exB; rw [if_neg h1]
        rw [e, takes_ne k s hs' _ ha h1, Option.bind_some, if_neg (by simp)]
        exact ⟨fun n u g' h => (by cases h; exact ⟨kids, i, rfl, rfl, ha⟩), fun h => (by cases h)⟩
include hs in
theorem exp_b (k L : Nat) (hk : 2000 ≤ k) (rf : List UInt8 → Int → Int → Bool → Option (RN × Int × Int × Bool))
    (hbr : ∀ (i : Int) (t : List UInt8) (g m : Nat), At s i t → t.length ≤ L → 2 * t.length + 1 ≤ m → g + t.length ≤ 10000 → GE s (rf s i (g : Int) false) ((brC tkC m [] t g).map fun x => (jn 2 x.1, x.2)))
    (m : Nat) (i : Int) (r : List UInt8) (g : Nat) (ha : At s i r) (hL : r.length ≤ L) (hm : 2 * r.length + 2 ≤ m) (hg : g + r.length ≤ 10000) : GE s (rex_parser_expression_m0.b k rf s i (g : Int) false) (exC tkC m r g) := by
  have hl := ha.len
  obtain ⟨m, rfl⟩ : ∃ y, m = y + 1 := ⟨m - 1, by omega⟩
  have hB := hbr i r g m ha hL (by omega) hg
  have e : exC tkC (m + 1) r g = match brC tkC m [] r g with | none => none | some (ks, r', g') => exB tkC m [jn 2 ks] r' g' := by
    conv => lhs; unfold exC
    cases brC tkC m [] r g <;> rfl
  rw [e]
  unfold rex_parser_expression_m0.b rex_parser_expression_m0.j7
  cases hb : brC tkC m [] r g with
  | none =>
    rw [hb] at hB
    obtain ⟨n, j, g', e2⟩ := hB.2 rfl
    obtain ⟨k, rfl⟩ : ∃ y, k = y + 1 := ⟨k - 1, by omega⟩
    rw [e2, Option.bind_some]
    unfold rex_parser_expression_m0.l12
    simp only
    rw [takes_bad, Option.bind_some, if_neg (by simp), Option.bind_some, joined_eq, Option.bind_some]
    exact GE.no
  | some x =>
    obtain ⟨ks, u, g'⟩ := x
    obtain ⟨l1, l2, _⟩ := brC_grow hb
    rw [hb] at hB
    obtain ⟨j, e2, ha3⟩ := hB.1 _ _ _ rfl
    obtain ⟨q1, q2⟩ := exp_loop s hs k L rf hbr u.length m k j u g' [jn 2 ks] (Nat.le_refl _) (by omega) ha3 (by omega) (by omega) (by omega) (by simp only [List.length_cons, List.length_nil]; omega)
    rw [e2, Option.bind_some]
    simp only
    cases hX : exB tkC m [jn 2 ks] u g' with
    | none =>
      obtain ⟨ks2, j2, g2, e3⟩ := q2 hX
      rw [e3, Option.bind_some, joined_eq, Option.bind_some]
      exact GE.no
    | some y =>
      obtain ⟨n, u2, g2⟩ := y
      obtain ⟨ks2, j2, e3, rfl, ha4⟩ := q1 _ _ _ hX
      rw [e3, Option.bind_some, joined_eq, Option.bind_some, rn_eta]
      exact GE.ok ha4
theorem scc_exp (k : Nat) : rex_parser_expression_m0.f (k + 1) = rex_parser_expression_m0.b k (rex_parser_branch_m0.f k) := rfl
theorem scc_br (k : Nat) : rex_parser_branch_m0.f (k + 1) = rex_parser_branch_m0.b k (rex_parser_item_m0.f k) := rfl
theorem scc_it (k : Nat) : rex_parser_item_m0.f (k + 1) = rex_parser_item_m0.b k (rex_parser_atom_m0.f k) := rfl
theorem scc_at (k : Nat) : rex_parser_atom_m0.f (k + 1) = rex_parser_atom_m0.b k (rex_parser_group_m0.f k) := rfl
theorem scc_gr (k : Nat) : rex_parser_group_m0.f (k + 1) = rex_parser_group_m0.b k (rex_parser_expression_m0.f k) := rfl
include hs in
theorem exp_eq : ∀ (L K : Nat), 3000 + 5 * L ≤ K → ∀ (m : Nat) (i : Int) (r : List UInt8) (g : Nat), At s i r → r.length ≤ L → 2 * r.length + 2 ≤ m → g + r.length ≤ 10000 → GE s (rex_parser_expression_m0.f K s i (g : Int) false) (exC tkC m r g) := by
  intro L
  induction L with
  | zero =>
    intro K hK m i r g ha hL hm hg
    obtain ⟨K, rfl⟩ : ∃ y, K = y + 2 := ⟨K - 2, by omega⟩
    rw [scc_exp]
    refine exp_b s hs (K + 1) 0 (by omega) _ (fun i t g m ha hL hm hg => ?_) m i r g ha hL hm hg
    have hl := ha.len
    rw [scc_br]
    unfold rex_parser_branch_m0.b
    have := branch_loop s hs K 0 (rex_parser_item_m0.f K) (fun i b t g m _ h => by omega) t.length m K i t g [] (Nat.le_refl _) hL ha (.inl rfl) hm (by omega) hg (by simp only [List.length_nil]; omega)
    revert this
    cases rex_parser_branch_m0.l5 K (rex_parser_item_m0.f K) s K i (g : Int) false [] <;> exact id
  | succ L ih =>
    intro K hK m i r g ha hL hm hg
    obtain ⟨K, rfl⟩ : ∃ y, K = y + 5 := ⟨K - 5, by omega⟩
    rw [scc_exp]
    refine exp_b s hs (K + 4) (L + 1) (by omega) _ (fun i t g m ha hL hm hg => ?_) m i r g ha hL hm hg
    have hl := ha.len
    rw [scc_br]
    unfold rex_parser_branch_m0.b
    have := branch_loop s hs (K + 3) (L + 1) (rex_parser_item_m0.f (K + 3)) (fun i b t g m ha hL hb hm hg => by
      rw [scc_it]
      refine item_eq s hs (K + 2) m (by omega) _ g ha ?_
      rw [scc_at]
      refine atom_eq s hs (K + 1) m (by omega) _ g ha hb fun j hj => ?_
      rw [scc_gr]
      have hl := hj.len
      exact group_eq s hs K m _ g hj (by omega) (ih K (by omega) m j t (g + 1) hj (by omega) hm (by omega))) t.length m (K + 3) i t g [] (Nat.le_refl _) hL ha (.inl rfl) hm (by omega) hg (by simp only [List.length_nil]; omega)
    revert this
    cases rex_parser_branch_m0.l5 (K + 3) (rex_parser_item_m0.f (K + 3)) s (K + 3) i (g : Int) false [] <;> exact id
end
def zeroN : RN := .mk 0 0 z4 []
def parseC (s : List UInt8) : RN × Nat :=
  if s.length > 60 then (zeroN, 2) else match exC tkC (2 * s.length + 2) s 0 with
    | some (n, [], g) => if g > 9 then (zeroN, 10) else (n, 0)
    | _ => (zeroN, 6)
theorem parse_eq (K : Nat) (hK : 4000 ≤ K) (s : List UInt8) : rex_Parse.f K s = some (parseC s) := by
  unfold rex_Parse.f parseC
  by_cases h : s.length > 60
  · rw [if_pos (by simp; omega), if_pos h]; rfl
  · rw [if_neg (by simp; omega), if_neg h]
    have hE := exp_eq s (by omega) 60 K (by omega) (2 * s.length + 2) 0 s 0 ⟨0, rfl, by omega, rfl⟩ (by omega) (Nat.le_refl _) (by omega)
    have hE : GE s (rex_parser_expression_m0.f K s 0 0 false) (exC tkC (2 * s.length + 2) s 0) := hE
    cases hx : exC tkC (2 * s.length + 2) s 0 with
    | none =>
      obtain ⟨n, j, g', e⟩ := hE.2 hx
      rw [e, Option.bind_some, if_pos rfl]; rfl
    | some x =>
      obtain ⟨n, u, g'⟩ := x
      obtain ⟨j, e, ha⟩ := hE.1 _ _ _ hx
      rw [e, Option.bind_some, if_neg (by simp)]
      unfold rex_Parse.j7
      cases u with
      | nil =>
        have := ha.nil
        simp only
        rw [if_neg (by simp; omega)]
        by_cases h9 : g' > 9
        · rw [if_pos (by simp; omega), if_pos h9]; rfl
        · rw [if_neg (by simp; omega), if_neg h9]
          unfold rex_Parse.j3
          simp only [rn_eta]
      | cons b t =>
        obtain ⟨_, _, h3, _⟩ := ha.step (by omega)
        simp only
        rw [if_pos (by simp; omega)]; rfl
end Go.Proofs.YteddmdkbeednmaaDoor.Rx
