/- Expressions, as the code reads them. -/
import Derived.Test.YteddmdkbeednmaaDoorK33DAVK
import Derived.Test.YteddmdkbeednmaaDoorK33DAVI
namespace Go.Proofs.YteddmdkbeednmaaDoor.Rx
open Go Go.AM
set_option linter.unusedVariables false
set_option linter.unusedSimpArgs false
set_option maxRecDepth 100000
set_option maxHeartbeats 2000000
def oneW (b : UInt8) : List Int := setW (oneF b)
def dotW : List Int := setW (fun i => !oneF 10 i)
abbrev tkC : List UInt8 → Option (Tk × List UInt8) := tok1 oneW dotW clsS
theorem tk_cons (b : UInt8) (t : List UInt8) : tkC (b :: t) = if b = 92 then (match t with | [] => none | c :: u => some ((0, oneW c), u)) else if b = 91 then (clsS t).map (fun x => ((0, x.1), x.2))
      else if b = 46 then some ((0, dotW), t) else if isMk b then some (((b.toNat : Int), z4), t) else some ((0, oneW b), t) := rfl
theorem tkC_ok : TkOk tkC where
  nil := rfl
  mark := fun b t h => by
    have hv := mk_of h
    rw [tk_cons, if_neg (by rcases hv with rfl | rfl | rfl | rfl | rfl | rfl | rfl | rfl <;> decide), if_neg (by rcases hv with rfl | rfl | rfl | rfl | rfl | rfl | rfl | rfl <;> decide), if_neg (by rcases hv with rfl | rfl | rfl | rfl | rfl | rfl | rfl | rfl <;> decide), if_pos h]
  set := fun b t x u hb h => by
    rw [tk_cons] at h
    split at h
    · split at h
      · cases h
      · cases h; exact ⟨rfl, by simp⟩
    split at h
    · cases hc : clsS t with
      | none => rw [hc] at h; cases h
      | some y =>
        rw [hc] at h
        cases h
        exact ⟨rfl, Nat.le_of_lt (clsS_len hc)⟩
    split at h
    · cases h; exact ⟨rfl, Nat.le_refl _⟩
    · rw [hb, if_neg (by decide)] at h
      cases h; exact ⟨rfl, Nat.le_refl _⟩
theorem rn_eta (n : RN) : T_rex_Node.mk n.f_Kind n.f_Index n.f_Set n.f_Kids = n := by cases n; rfl
theorem joined_eq (k : Nat) (a : Int) (l : List RN) : rex_joined.f k a l = some (jn a l) := by
  unfold rex_joined.f
  cases l with
  | nil => rfl
  | cons x t =>
    rw [if_neg (by simp; omega)]
    cases t with
    | nil =>
      rw [if_pos (by simp), idx_at (v := 0) (i := 0) rfl (by simp), Option.bind_some]
      simp only [List.getElem_cons_zero, rn_eta]; rfl
    | cons y t => rw [if_neg (by simp; omega)]; rfl
theorem single_eq (k : Nat) (hk : 2 ≤ k) (b : UInt8) : rex_single.f k (b.toNat : Int) = some (oneN (oneW b)) := by
  unfold rex_single.f
  rw [of_eq k hk]; rfl
theorem opn_le (l : List Tk) : opn l ≤ l.length := by
  induction l with
  | nil => simp [opn]
  | cons x t ih => simp only [opn, List.length_cons]; split <;> omega
theorem exC_grow {m : Nat} {r u : List UInt8} {g g' : Nat} {n : RN} (h : exC tkC m r g = some (n, u, g')) : g' + u.length ≤ g + r.length ∧ u.length ≤ r.length := by
  obtain ⟨pre, h1, _, _, h4, _⟩ := (sound tkC_ok m).2.1 _ _ _ _ _ h
  have := h1.len tkC_ok
  have := opn_le pre
  omega
theorem brC_grow {m : Nat} {r u : List UInt8} {g g' : Nat} {ks ks' : List RN} (h : brC tkC m ks r g = some (ks', u, g')) : g' + u.length ≤ g + r.length ∧ u.length ≤ r.length ∧ Stop u := by
  obtain ⟨pre, h1, _, _, h4, h5⟩ := (sound tkC_ok m).1 _ _ _ _ _ _ h
  have := h1.len tkC_ok
  have := opn_le pre
  exact ⟨by omega, by omega, h5⟩
def GE (s : List UInt8) (o : Option (RN × Int × Int × Bool)) (m : Option (RN × List UInt8 × Nat)) : Prop :=
  (∀ n u g', m = some (n, u, g') → ∃ j, o = some (n, j, (g' : Int), false) ∧ At s j u) ∧ (m = none → ∃ n j g', o = some (n, j, g', true))
theorem GE.ok {s : List UInt8} {n : RN} {j : Int} {g' : Nat} {u : List UInt8} (h : At s j u) : GE s (some (n, j, (g' : Int), false)) (some (n, u, g')) := ⟨fun _ _ _ e => (by cases e; exact ⟨j, rfl, h⟩), fun e => (by cases e)⟩
theorem GE.no {s : List UInt8} {n : RN} {j g' : Int} : GE s (some (n, j, g', true)) none := ⟨fun _ _ _ e => (by cases e), fun _ => ⟨n, j, g', rfl⟩⟩
def atC (m : Nat) (b : UInt8) (t : List UInt8) (g : Nat) : Option (RN × List UInt8 × Nat) :=
  if b = 42 ∨ b = 43 ∨ b = 63 then none
  else if b = 40 then (match exC tkC m t (g + 1) with | some (n, c :: u, g') => if c = 41 then some (grpN (g + 1) n, u, g') else none | _ => none)
  else if b = 94 then some (kindN 8, t, g)
  else if b = 36 then some (kindN 9, t, g)
  else match tkC (b :: t) with | some (x, u) => some (oneN x.2, u, g) | none => none
theorem brC_at (m : Nat) (kids : List RN) (b : UInt8) (t : List UInt8) (g : Nat) (h1 : ¬ (b = 124 ∨ b = 41)) (h2 : ¬ (b = 42 ∨ b = 43 ∨ b = 63)) :
    brC tkC (m + 1) kids (b :: t) g = match atC m b t g with | some (n, u, g') => brC tkC m (kids ++ [n]) u g' | none => none := by
  unfold atC
  conv => lhs; unfold brC
  rw [if_neg h1, if_neg h2, if_neg h2]
  by_cases h3 : b = 40
  · rw [if_pos h3, if_pos h3]
    cases hE : exC tkC m t (g + 1) with
    | none => rfl
    | some x =>
      obtain ⟨n, u, g'⟩ := x
      cases u with
      | nil => rfl
      | cons c u => by_cases hc : c = 41 <;> simp [hc]
  · rw [if_neg h3, if_neg h3]
    by_cases h4 : b = 94
    · rw [if_pos h4, if_pos h4]
    · rw [if_neg h4, if_neg h4]
      by_cases h5 : b = 36
      · rw [if_pos h5, if_pos h5]
      · rw [if_neg h5, if_neg h5]
        cases tkC (b :: t) <;> rfl
section
variable (s : List UInt8) (hs : s.length ≤ 1000)
include hs in
theorem group_eq (k m : Nat) (rf : List UInt8 → Int → Int → Bool → Option (RN × Int × Int × Bool)) (g : Nat) {i : Int} {t : List UInt8} (ha : At s i t) (hg : g ≤ 100000) (hrf : GE s (rf s i ((g + 1 : Nat) : Int) false) (exC tkC m t (g + 1))) :
    GE s (rex_parser_group_m0.b k rf s i (g : Int) false) (match exC tkC m t (g + 1) with | some (n, c :: u, g') => if c = 41 then some (grpN (g + 1) n, u, g') else none | _ => none) := by
  have w : IntKind.i64.wrap ((g : Int) + 1) = ((g + 1 : Nat) : Int) := by rw [w64 (by omega) (by omega)]; rfl
  unfold rex_parser_group_m0.b
  rw [w]
  cases hE : exC tkC m t (g + 1) with
  | none =>
    obtain ⟨n, j, g', e⟩ := hrf.2 hE
    rw [e, Option.bind_some]
    simp only
    rw [takes_bad, Option.bind_some, if_pos (by simp)]
    exact GE.no
  | some x =>
    obtain ⟨n, u, g'⟩ := x
    obtain ⟨j, e, ha2⟩ := hrf.1 n u g' hE
    rw [e, Option.bind_some]
    simp only
    cases u with
    | nil =>
      rw [takes_nil k s _ ha2, Option.bind_some, if_pos (by simp)]
      exact GE.no
    | cons c u =>
      by_cases hc : c = 41
      · subst hc
        obtain ⟨t1, t2⟩ := takes_eq k s (by omega) (g' : Int) ha2
        rw [t1, Option.bind_some, if_neg (by simp)]
        simp only [if_true]
        unfold rex_parser_group_m0.j4
        rw [w]
        exact GE.ok t2
      · rw [takes_ne k s (by omega) (g' : Int) ha2 hc, Option.bind_some, if_pos (by simp)]
        simp only [hc, if_false]
        exact GE.no
include hs in
theorem atom_eq (k m : Nat) (hk : 2000 ≤ k) (rf : List UInt8 → Int → Int → Bool → Option (RN × Int × Int × Bool)) (g : Nat) {i : Int} {b : UInt8} {t : List UInt8} (ha : At s i (b :: t)) (h124 : ¬ (b = 124 ∨ b = 41))
    (hrf : ∀ j, At s j t → GE s (rf s j (g : Int) false) (match exC tkC m t (g + 1) with | some (n, c :: u, g') => if c = 41 then some (grpN (g + 1) n, u, g') else none | _ => none)) :
    GE s (rex_parser_atom_m0.b k rf s i (g : Int) false) (atC m b t g) := by
  have hs' : s.length ≤ 100000 := by omega
  obtain ⟨ha2, _⟩ := ha.step hs'
  have q : ∀ c : UInt8, ((b.toNat : Int) == (c.toNat : Int)) = (b == c) := fun c => u8_eq (b := c)
  have q1 : ((b.toNat : Int) == 40) = (b == 40) := q 40
  have q2 : ((b.toNat : Int) == 91) = (b == 91) := q 91
  have q3 : ((b.toNat : Int) == 46) = (b == 46) := q 46
  have q4 : ((b.toNat : Int) == 94) = (b == 94) := q 94
  have q5 : ((b.toNat : Int) == 36) = (b == 36) := q 36
  have q6 : ((b.toNat : Int) == 92) = (b == 92) := q 92
  have q7 : ((b.toNat : Int) == 42) = (b == 42) := q 42
  have q8 : ((b.toNat : Int) == 43) = (b == 43) := q 43
  have q9 : ((b.toNat : Int) == 63) = (b == 63) := q 63
  unfold rex_parser_atom_m0.b
  rw [byte_cons k s hs' (g : Int) ha, Option.bind_some]
  simp only [q1, q2, q3, q4, q5, q6, q7, q8, q9]
  unfold atC
  by_cases c1 : b = 40
  · subst c1
    rw [if_pos (by decide), if_neg (by decide), if_pos rfl]
    have h := hrf _ ha2
    revert h
    generalize (match exC tkC m t (g + 1) with | some (n, c :: u, g') => if c = 41 then some (grpN (g + 1) n, u, g') else none | _ => none : Option (RN × List UInt8 × Nat)) = M
    intro h
    cases M with
    | none =>
      obtain ⟨n, j, g', e⟩ := h.2 rfl
      rw [e, Option.bind_some]
      exact GE.no
    | some x =>
      obtain ⟨n, u, g'⟩ := x
      obtain ⟨j, e, ha3⟩ := h.1 n u g' rfl
      rw [e, Option.bind_some]
      simp only [rn_eta]
      exact GE.ok ha3
  rw [if_neg (by simpa using c1)]
  by_cases c4 : b = 94
  · subst c4
    rw [if_neg (by decide), if_neg (by decide), if_pos (by decide), if_neg (by decide), if_neg (by decide), if_pos rfl]
    exact GE.ok ha2
  by_cases c5 : b = 36
  · subst c5
    rw [if_neg (by decide), if_neg (by decide), if_neg (by decide), if_pos (by decide), if_neg (by decide), if_neg (by decide), if_neg (by decide), if_pos rfl]
    exact GE.ok ha2
  by_cases cb : b = 42 ∨ b = 43 ∨ b = 63
  · rw [if_pos cb]
    unfold rex_parser_atom_m0.j17
    rcases cb with rfl | rfl | rfl
    · exact GE.no
    · exact GE.no
    · exact GE.no
  rw [if_neg cb, if_neg c1, if_neg c4, if_neg c5]
  have n7 : ¬ b = 42 := fun e => cb (.inl e)
  have n8 : ¬ b = 43 := fun e => cb (.inr (.inl e))
  have n9 : ¬ b = 63 := fun e => cb (.inr (.inr e))
  by_cases c2 : b = 91
  · subst c2
    rw [if_pos (by decide)]
    have et : tkC (91 :: t) = (clsS t).map (fun x => ((0, x.1), x.2)) := rfl
    obtain ⟨k1, k2⟩ := class_eq k s hs' (by omega) (g : Int) ha2
    rw [et]
    cases hc : clsS t with
    | none =>
      obtain ⟨w, j, e⟩ := k2 hc
      rw [e]
      exact GE.no
    | some x =>
      obtain ⟨w, u⟩ := x
      obtain ⟨j, e, ha3⟩ := k1 w u hc
      rw [e]
      exact GE.ok ha3
  rw [if_neg (by simpa using c2)]
  by_cases c3 : b = 46
  · subst c3
    rw [if_pos (by decide)]
    have et : tkC (46 :: t) = some ((0, dotW), t) := rfl
    have e10 : class_Of.f k [(10 : Int)] = some (setW (oneF 10)) := of_eq k (by omega) 10
    rw [et, e10, Option.bind_some, not_eq k (by omega)]
    exact GE.ok ha2
  rw [if_neg (by simpa using c3), if_neg (by simpa using c4), if_neg (by simpa using c5)]
  by_cases c6 : b = 92
  · subst c6
    rw [if_pos (by decide)]
    cases t with
    | nil =>
      have et : tkC [92] = none := rfl
      have s0 : rex_single.f k 0 = some (oneN (oneW 0)) := single_eq k (by omega) 0
      rw [et, byte_nil k s _ ha2, Option.bind_some, s0]
      exact GE.no
    | cons c u =>
      have et : tkC (92 :: c :: u) = some ((0, oneW c), u) := rfl
      obtain ⟨ha3, _⟩ := ha2.step hs'
      rw [et, byte_cons k s hs' (g : Int) ha2, Option.bind_some, single_eq k (by omega)]
      exact GE.ok ha3
  rw [if_neg (by simpa using c6)]
  have et : tkC (b :: t) = some ((0, oneW b), t) := by
    rw [tk_cons, if_neg c6, if_neg c2, if_neg c3]
    have : isMk b = false := by
      cases hb : isMk b with
      | false => rfl
      | true =>
        rcases mk_of hb with rfl | rfl | rfl | rfl | rfl | rfl | rfl | rfl
        · exact absurd rfl c1
        · exact absurd (.inr rfl) h124
        · exact absurd (.inl rfl) h124
        · exact absurd rfl n7
        · exact absurd rfl n8
        · exact absurd rfl n9
        · exact absurd rfl c4
        · exact absurd rfl c5
    rw [this, if_neg (by decide)]
  rw [et, if_neg (by simpa using n7), if_neg (by simpa using n8), show (b == 63) = false by simpa using n9]
  unfold rex_parser_atom_m0.j17
  rw [if_neg (by decide), single_eq k (by omega)]
  exact GE.ok ha2
def sufC : RN → List UInt8 → RN × List UInt8
  | n, [] => (n, [])
  | n, b :: t => if b = 42 ∨ b = 43 ∨ b = 63 then sufC (wrapN (b.toNat : Int) n) t else (n, b :: t)
def noSuf (r : List UInt8) : Prop := ∀ b t, r = b :: t → ¬ (b = 42 ∨ b = 43 ∨ b = 63)
theorem sufC_len : ∀ (t : List UInt8) (n : RN), (sufC n t).2.length ≤ t.length ∧ noSuf (sufC n t).2
  | [], n => ⟨Nat.le_refl _, fun b t h => by cases h⟩
  | b :: t, n => by
    unfold sufC
    split
    · have := sufC_len t (wrapN (b.toNat : Int) n)
      exact ⟨by simp only [List.length_cons]; omega, this.2⟩
    · rename_i h
      exact ⟨Nat.le_refl _, fun c u e => by cases e; exact h⟩
theorem brC_suf (m : Nat) (kids : List RN) (g : Nat) : ∀ (t : List UInt8) (n : RN), brC tkC (m + (t.length - (sufC n t).2.length)) (kids ++ [n]) t g = brC tkC m (kids ++ [(sufC n t).1]) (sufC n t).2 g
  | [], n => by simp [sufC]
  | b :: t, n => by
    unfold sufC
    split
    · rename_i h
      have h2 := (sufC_len t (wrapN (b.toNat : Int) n)).1
      have e : m + ((b :: t).length - (sufC (wrapN (b.toNat : Int) n) t).2.length) = m + (t.length - (sufC (wrapN (b.toNat : Int) n) t).2.length) + 1 := by simp only [List.length_cons]; omega
      have h124 : ¬ (b = 124 ∨ b = 41) := by rcases h with rfl | rfl | rfl <;> decide
      rw [e, ← brC_suf m kids g t (wrapN (b.toNat : Int) n)]
      conv => lhs; unfold brC
      rw [if_neg h124, if_pos h]
      simp
    · simp
include hs in
theorem item_loop (k : Nat) (v1 : RN × Int × Int × Bool) (hv : v1.2.2.2 = false) : ∀ (t : List UInt8) (fuel : Nat) (i : Int) (n : RN), At s i t → t.length < fuel →
    ∃ j, rex_parser_item_m0.l7 k s v1 fuel i n.f_Kind n.f_Index n.f_Set n.f_Kids = some ((sufC n t).1, j, v1.2.2.1, false) ∧ At s j (sufC n t).2
  | _, 0, _, _, _, h => by omega
  | [], fuel + 1, i, n, ha, _ => by
    unfold rex_parser_item_m0.l7
    rw [hv]
    simp only [takes_nil k s v1.2.2.1 ha, Option.bind_some, Bool.false_eq_true, if_false, rn_eta]
    exact ⟨i, rfl, ha⟩
  | b :: t, fuel + 1, i, n, ha, hf => by
    have hs' : s.length ≤ 100000 := by omega
    simp only [List.length_cons] at hf
    unfold rex_parser_item_m0.l7 sufC
    rw [hv]
    by_cases c1 : b = 42
    · subst c1
      obtain ⟨t1, t2⟩ := takes_eq k s hs' v1.2.2.1 ha
      rw [t1, Option.bind_some, if_pos rfl, if_pos (by decide), rn_eta]
      exact item_loop k v1 hv t fuel _ (wrapN 42 n) t2 (by omega)
    · rw [takes_ne k s hs' v1.2.2.1 ha c1, Option.bind_some, if_neg (by simp)]
      by_cases c2 : b = 43
      · subst c2
        obtain ⟨t1, t2⟩ := takes_eq k s hs' v1.2.2.1 ha
        simp only
        rw [t1, Option.bind_some, if_pos rfl, if_pos (by decide), rn_eta]
        exact item_loop k v1 hv t fuel _ (wrapN 43 n) t2 (by omega)
      · simp only
        rw [takes_ne k s hs' v1.2.2.1 ha c2, Option.bind_some, if_neg (by simp)]
        by_cases c3 : b = 63
        · subst c3
          obtain ⟨t1, t2⟩ := takes_eq k s hs' v1.2.2.1 ha
          simp only
          rw [t1, Option.bind_some, if_pos rfl, if_pos (by decide), rn_eta]
          exact item_loop k v1 hv t fuel _ (wrapN 63 n) t2 (by omega)
        · simp only
          rw [takes_ne k s hs' v1.2.2.1 ha c3, Option.bind_some, if_neg (by simp), rn_eta, if_neg (by rintro (h | h | h); exact c1 h; exact c2 h; exact c3 h)]
          exact ⟨i, rfl, ha⟩
theorem item_bad (k : Nat) (v1 : RN × Int × Int × Bool) (hv : v1.2.2.2 = true) (fuel : Nat) (i : Int) (n : RN) : rex_parser_item_m0.l7 k s v1 (fuel + 1) i n.f_Kind n.f_Index n.f_Set n.f_Kids = some (n, i, v1.2.2.1, true) := by
  unfold rex_parser_item_m0.l7
  rw [hv]
  simp only [takes_bad, Option.bind_some, Bool.false_eq_true, if_false, rn_eta]
def itC (m : Nat) (b : UInt8) (t : List UInt8) (g : Nat) : Option (RN × List UInt8 × Nat) := (atC m b t g).map fun x => ((sufC x.1 x.2.1).1, (sufC x.1 x.2.1).2, x.2.2)
include hs in
theorem item_eq (k m : Nat) (hk : 2000 ≤ k) (rf : List UInt8 → Int → Int → Bool → Option (RN × Int × Int × Bool)) (g : Nat) {i : Int} {b : UInt8} {t : List UInt8} (ha : At s i (b :: t))
    (hrf : GE s (rf s i (g : Int) false) (atC m b t g)) : GE s (rex_parser_item_m0.b k rf s i (g : Int) false) (itC m b t g) := by
  obtain ⟨k, rfl⟩ : ∃ y, k = y + 1 := ⟨k - 1, by omega⟩
  unfold rex_parser_item_m0.b itC
  cases hA : atC m b t g with
  | none =>
    obtain ⟨n, j, g', e⟩ := hrf.2 hA
    rw [e, Option.bind_some, item_bad s (k + 1) (n, j, g', true) rfl]
    exact GE.no
  | some x =>
    obtain ⟨n, u, g'⟩ := x
    obtain ⟨j, e, ha2⟩ := hrf.1 n u g' hA
    have hl := ha2.len
    obtain ⟨j2, e2, ha3⟩ := item_loop s hs (k + 1) (n, j, (g' : Int), false) rfl u (k + 1) j n ha2 (by omega)
    rw [e, Option.bind_some]
    simp only
    rw [e2, Option.bind_some]
    exact GE.ok ha3
end
end Go.Proofs.YteddmdkbeednmaaDoor.Rx
