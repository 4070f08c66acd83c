/- A class, as the code reads it. -/
import Derived.Test.YteddmdkbeednmaaDoorK33DAVJ
namespace Go.Proofs.YteddmdkbeednmaaDoor.Rx
open Go Go.AM
set_option linter.unusedVariables false
set_option linter.unusedSimpArgs false
set_option maxRecDepth 100000
set_option maxHeartbeats 1000000
def At (s : List UInt8) (i : Int) (r : List UInt8) : Prop := ∃ n : Nat, i = n ∧ n ≤ s.length ∧ s.drop n = r
theorem At.step {s : List UInt8} {i : Int} {b : UInt8} {r : List UInt8} (hs : s.length ≤ 100000) (h : At s i (b :: r)) : At s (IntKind.i64.wrap (i + 1)) r ∧ idx s i = some b ∧ i < s.length ∧ 0 ≤ i := by
  obtain ⟨n, rfl, hn, hd⟩ := h
  have hi : n < s.length := by
    rcases Nat.lt_or_ge n s.length with h' | h'
    · exact h'
    · rw [List.drop_of_length_le h'] at hd; cases hd
  rw [List.drop_eq_getElem_cons hi] at hd
  injection hd with h1 h2
  refine ⟨⟨n + 1, by rw [w64 (by omega) (by omega)]; rfl, by omega, h2⟩, by rw [idx_at rfl hi, h1], by omega, by omega⟩
theorem At.nil {s : List UInt8} {i : Int} (h : At s i []) : (s.length : Int) ≤ i := by
  obtain ⟨n, rfl, hn, hd⟩ := h
  have := congrArg List.length hd
  simp at this; omega
theorem At.len {s : List UInt8} {i : Int} {r : List UInt8} (h : At s i r) : r.length ≤ s.length := by
  obtain ⟨n, _, _, hd⟩ := h
  rw [← hd]; simp
section
variable (k : Nat) (s : List UInt8) (hs : s.length ≤ 100000) (g : Int)
theorem next_bad (i : Int) : rex_parser_next_m0.f k s i g true = some (0, false) := rfl
theorem next_nil {i : Int} (h : At s i []) : rex_parser_next_m0.f k s i g false = some (0, false) := by
  have := h.nil
  unfold rex_parser_next_m0.f rex_parser_next_m0.j5
  rw [if_neg (by decide), if_pos (by simpa using this)]
include hs in
theorem next_cons {i : Int} {b : UInt8} {r : List UInt8} (h : At s i (b :: r)) : rex_parser_next_m0.f k s i g false = some ((b.toNat : Int), true) := by
  obtain ⟨_, h2, h3, _⟩ := h.step hs
  unfold rex_parser_next_m0.f rex_parser_next_m0.j5 rex_parser_next_m0.j2
  rw [if_neg (by decide), if_neg (by simpa using h3), h2]; rfl
theorem ix1 (c b : UInt8) : decide (Lib.indexByte [c] ((b.toNat : Int).toNat.toUInt8) ≥ 0) = (b == c) := by
  have e : (b.toNat : Int).toNat.toUInt8 = b := by simp
  rw [e]
  unfold Lib.indexByte
  by_cases h : b = c
  · subst h; simp
  · have : (c == b) = false := by simpa using fun e => h e.symm
    have h1 : (b == c) = false := by simpa using h
    rw [this, h1]; rfl
theorem ix2 (c d b : UInt8) : decide (Lib.indexByte [c, d] ((b.toNat : Int).toNat.toUInt8) ≥ 0) = (b == c || b == d) := by
  have e : (b.toNat : Int).toNat.toUInt8 = b := by simp
  rw [e]
  unfold Lib.indexByte
  by_cases h : b = c
  · subst h; simp
  · have h' : (c == b) = false := by simpa using fun e => h e.symm
    have h1 : (b == c) = false := by simpa using h
    rw [h', h1]
    unfold Lib.indexByte
    by_cases h2 : b = d
    · subst h2; simp
    · have h3 : (d == b) = false := by simpa using fun e => h2 e.symm
      have h4 : (b == d) = false := by simpa using h2
      rw [h3, h4]; rfl
theorem sees_nil {i : Int} (h : At s i []) (t : List UInt8) : rex_parser_sees_m0.f k s i g false t = some false := by
  unfold rex_parser_sees_m0.f
  rw [next_nil k s g h]; rfl
include hs in
theorem sees1 {i : Int} {b : UInt8} {r : List UInt8} (h : At s i (b :: r)) (c : UInt8) : rex_parser_sees_m0.f k s i g false [c] = some (b == c) := by
  unfold rex_parser_sees_m0.f pIndexByte.f
  rw [next_cons k s hs g h, Option.bind_some, if_pos rfl, Option.bind_some, ix1]
include hs in
theorem sees2 {i : Int} {b : UInt8} {r : List UInt8} (h : At s i (b :: r)) (c d : UInt8) : rex_parser_sees_m0.f k s i g false [c, d] = some (b == c || b == d) := by
  unfold rex_parser_sees_m0.f pIndexByte.f
  rw [next_cons k s hs g h, Option.bind_some, if_pos rfl, Option.bind_some, ix2]
theorem takes_bad (i : Int) (t : List UInt8) : rex_parser_takes_m0.f k s i g true t = some (false, i) := rfl
theorem takes_nil {i : Int} (h : At s i []) (t : List UInt8) : rex_parser_takes_m0.f k s i g false t = some (false, i) := by
  unfold rex_parser_takes_m0.f
  rw [sees_nil k s g h]; rfl
include hs in
theorem takes_ne {i : Int} {b : UInt8} {r : List UInt8} (h : At s i (b :: r)) {c : UInt8} (hc : b ≠ c) : rex_parser_takes_m0.f k s i g false [c] = some (false, i) := by
  unfold rex_parser_takes_m0.f
  rw [sees1 k s hs g h, Option.bind_some, show (b == c) = false by simpa using hc]; rfl
include hs in
theorem takes_eq {i : Int} {c : UInt8} {r : List UInt8} (h : At s i (c :: r)) : rex_parser_takes_m0.f k s i g false [c] = some (true, IntKind.i64.wrap (i + 1)) ∧ At s (IntKind.i64.wrap (i + 1)) r := by
  refine ⟨?_, (h.step hs).1⟩
  unfold rex_parser_takes_m0.f
  rw [sees1 k s hs g h, Option.bind_some, show (c == c) = true by simp]; rfl
theorem byte_nil {i : Int} (h : At s i []) : rex_parser_byte_m0.f k s i g false = some (0, i, true) := by
  unfold rex_parser_byte_m0.f
  rw [next_nil k s g h]; rfl
include hs in
theorem byte_cons {i : Int} {b : UInt8} {r : List UInt8} (h : At s i (b :: r)) : rex_parser_byte_m0.f k s i g false = some ((b.toNat : Int), IntKind.i64.wrap (i + 1), false) := by
  unfold rex_parser_byte_m0.f
  rw [next_cons k s hs g h]; rfl
def memC : List UInt8 → Option (UInt8 × List UInt8)
  | [] => none
  | b :: t => if b = 92 then (match t with | [] => none | c :: u => some (c, u)) else some (b, t)
theorem memC_len {r u : List UInt8} {c : UInt8} (h : memC r = some (c, u)) : u.length < r.length := by
  cases r with
  | nil => cases h
  | cons b t =>
    simp only [memC] at h
    split at h
    · cases t with
      | nil => cases h
      | cons c u => cases h; simp only [List.length_cons]; omega
    · cases h; simp
include hs in
theorem member_eq {i : Int} {r : List UInt8} (h : At s i r) : (∀ c u, memC r = some (c, u) → ∃ j, rex_parser_member_m0.f k s i g false = some ((c.toNat : Int), j, false) ∧ At s j u) ∧
    (memC r = none → ∃ (c : UInt8) (j : Int), rex_parser_member_m0.f k s i g false = some ((c.toNat : Int), j, true)) := by
  cases r with
  | nil =>
    refine ⟨fun c u e => (by cases e), fun _ => ⟨0, i, ?_⟩⟩
    unfold rex_parser_member_m0.f
    rw [byte_nil k s g h]; rfl
  | cons b t =>
    have hb := byte_cons k s hs g h
    obtain ⟨h2, _⟩ := h.step hs
    have q : ((b.toNat : Int) == 92) = (b == 92) := u8_eq (b := 92)
    simp only [memC]
    unfold rex_parser_member_m0.f
    rw [hb, Option.bind_some, q]
    by_cases h92 : b = 92
    · subst h92
      rw [if_pos rfl, if_pos (by decide)]
      cases t with
      | nil =>
        refine ⟨fun c u e => (by cases e), fun _ => ⟨0, IntKind.i64.wrap (i + 1), ?_⟩⟩
        simp only
        rw [byte_nil k s g h2]; rfl
      | cons c u =>
        obtain ⟨h3, _⟩ := h2.step hs
        refine ⟨fun c' u' e => ?_, fun e => by cases e⟩
        cases e
        simp only
        rw [byte_cons k s hs g h2]
        exact ⟨_, rfl, h3⟩
    · rw [if_neg h92, if_neg (by simpa using h92)]
      refine ⟨fun c' u' e => ?_, fun e => by cases e⟩
      cases e
      exact ⟨_, rfl, h2⟩
theorem nb93 {c : UInt8} : ((c.toNat : Int) != 93) = (c != 93) := by
  have : ((c.toNat : Int) == 93) = (c == 93) := u8_eq (b := 93)
  simp only [bne, this]
def spn : List UInt8 → Bool
  | b :: c :: _ => b == 45 && c != 93
  | _ => false
theorem spans_bad (i : Int) : rex_parser_spans_m0.f k s i g true = some false := rfl
include hs in
theorem spans_eq {i : Int} {r : List UInt8} (h : At s i r) : rex_parser_spans_m0.f k s i g false = some (spn r) := by
  unfold rex_parser_spans_m0.f
  cases r with
  | nil => rw [sees_nil k s g h]; rfl
  | cons b t =>
    obtain ⟨h2, _⟩ := h.step hs
    rw [sees1 k s hs g h, Option.bind_some]
    cases hb : b == 45 with
    | false =>
      rw [if_neg (by decide)]
      cases t <;> simp [spn, hb]
    | true =>
      rw [if_pos rfl]
      cases t with
      | nil =>
        have := h2.nil
        rw [if_neg (by simp; omega)]; rfl
      | cons c u =>
        obtain ⟨_, h3, h4, _⟩ := h2.step hs
        rw [if_pos (by simp; omega), h3, Option.bind_some]
        simp only [spn, hb, Bool.true_and]
        rw [nb93]
end
def clsL : Nat → Bool → (Nat → Bool) → List UInt8 → Option ((Nat → Bool) × List UInt8)
  | 0, _, _, _ => none
  | m + 1, first, f, r =>
    if r.head? = some 93 then (if first then none else some (f, r.drop 1))
    else match memC r with
      | none => none
      | some (low, t) =>
        if spn t then (match memC (t.drop 1) with | none => none | some (high, u) => if high < low then none else clsL m false (fun i => f i || spanF low high i) u)
        else clsL m false (fun i => f i || spanF low low i) t
section
variable (k : Nat) (hk : 300 ≤ k) (s : List UInt8) (hs : s.length ≤ 100000) (g : Int) (v1 : Bool × Int)
theorem cls_bad (fuel : Nat) (i : Int) (w : List Int) (first : Bool) : rex_parser_class_m0.l17 k s g v1 (fuel + 1) i true w first = some (i, true, w) := rfl
include hk hs in
theorem cls_loop : ∀ (m fuel : Nat) (i : Int) (r : List UInt8) (f : Nat → Bool) (first : Bool), At s i r → r.length < m → r.length + 2 ≤ fuel →
    (∀ f' u, clsL m first f r = some (f', u) → ∃ j, rex_parser_class_m0.l17 k s g v1 fuel i false (setW f) first = some (j, false, setW f') ∧ At s j (93 :: u)) ∧
    (clsL m first f r = none → ∃ (j : Int) (f' : Nat → Bool), rex_parser_class_m0.l17 k s g v1 fuel i false (setW f) first = some (j, true, setW f'))
  | 0, _, _, _, _, _, _, h, _ => by omega
  | _, 0, _, _, _, _, _, _, h => by omega
  | m + 1, fuel + 1, i, r, f, first, ha, hm, hf => by
    have sees93 : rex_parser_sees_m0.f k s i g false [93] = some (r.head? == some 93) := by
      cases r with
      | nil => exact sees_nil k s g ha _
      | cons b t =>
        rw [sees1 k s hs g ha]
        by_cases h : b = 93 <;> simp [h]
    have round : rex_parser_class_m0.l17 k s g v1 (fuel + 1) i false (setW f) first = if first = false ∧ r.head? = some 93 then some (i, false, setW f) else rex_parser_class_m0.j42 k (rex_parser_class_m0.l17 k s g v1 fuel) s g v1 i false (setW f) := by
      conv => lhs; unfold rex_parser_class_m0.l17
      cases first with
      | true =>
        have e : ¬ ((true : Bool) = false ∧ r.head? = some 93) := fun h => by cases h.1
        rw [if_neg e]; rfl
      | false =>
        have e0 : (rex_parser_sees_m0.f k s i g false [93]).bind (fun v48 => rex_parser_class_m0.j45 k (rex_parser_class_m0.l17 k s g v1 fuel) s g v1 i false (setW f) (!v48)) = if (false : Bool) = false ∧ r.head? = some 93 then some (i, false, setW f) else rex_parser_class_m0.j42 k (rex_parser_class_m0.l17 k s g v1 fuel) s g v1 i false (setW f) := by
          rw [sees93, Option.bind_some]
          unfold rex_parser_class_m0.j45
          by_cases h : r.head? = some 93
          · rw [if_neg (by simp [h]), if_pos ⟨rfl, h⟩]
          · rw [if_pos (by simpa using h), if_neg (fun e => h e.2)]
        exact e0
    rw [round]
    unfold clsL
    by_cases h93 : r.head? = some 93
    · rw [if_pos h93]
      cases first with
      | false =>
        rw [if_neg (by decide), if_pos ⟨rfl, h93⟩]
        refine ⟨fun f' u e => ?_, fun e => by cases e⟩
        cases e
        refine ⟨i, rfl, ?_⟩
        cases r with
        | nil => cases h93
        | cons b t => cases h93; exact ha
      | true =>
        rw [if_pos rfl, if_neg (fun h => by cases h.1)]
        refine ⟨fun f' u e => (by cases e), fun _ => ⟨i, f, ?_⟩⟩
        unfold rex_parser_class_m0.j42
        rw [sees93, Option.bind_some, if_pos (by simpa using h93)]
    · rw [if_neg h93, if_neg (fun h => h93 h.2)]
      unfold rex_parser_class_m0.j42
      rw [sees93, Option.bind_some, if_neg (by simpa using h93)]
      obtain ⟨m1, m2⟩ := member_eq k s hs g ha
      cases hM : memC r with
      | none =>
        obtain ⟨c, j, e⟩ := m2 hM
        refine ⟨fun f' u e => (by cases e), fun _ => ?_⟩
        rw [e, Option.bind_some]
        simp only
        rw [spans_bad, Option.bind_some, if_neg (by decide)]
        unfold rex_parser_class_m0.j38 rex_parser_class_m0.j36 rex_parser_class_m0.j26
        obtain ⟨fuel, rfl⟩ : ∃ y, fuel = y + 1 := ⟨fuel - 1, by omega⟩
        rw [if_pos rfl, span_eq k hk, Option.bind_some, union_eq k (by omega), Option.bind_some, cls_bad]
        exact ⟨_, _, rfl⟩
      | some x =>
        obtain ⟨low, t⟩ := x
        have hl := memC_len hM
        obtain ⟨j, e, ha2⟩ := m1 low t hM
        rw [e, Option.bind_some]
        simp only
        rw [spans_eq k s hs g ha2, Option.bind_some]
        cases hS : spn t with
        | false =>
          rw [if_neg (by decide), if_neg (by decide)]
          unfold rex_parser_class_m0.j38 rex_parser_class_m0.j36 rex_parser_class_m0.j26
          rw [if_neg (by decide), span_eq k hk, Option.bind_some, union_eq k (by omega), Option.bind_some, show decide ((low.toNat : Int) < (low.toNat : Int)) = false by simp]
          exact cls_loop m fuel j t _ false ha2 (by omega) (by omega)
        | true =>
          rw [if_pos rfl, if_pos rfl]
          obtain ⟨c, u, rfl⟩ : ∃ c u, t = 45 :: c :: u := by
            cases t with
            | nil => cases hS
            | cons b t =>
              cases t with
              | nil => cases hS
              | cons c u =>
                simp only [spn, Bool.and_eq_true, beq_iff_eq] at hS
                exact ⟨c, u, by rw [hS.1]⟩
          obtain ⟨ha3, _⟩ := ha2.step hs
          simp only [List.length_cons] at hl
          obtain ⟨n1, n2⟩ := member_eq k s hs g ha3
          simp only [List.drop_succ_cons, List.drop_zero]
          cases hN : memC (c :: u) with
          | none =>
            obtain ⟨c', j', e'⟩ := n2 hN
            refine ⟨fun f' u e => (by cases e), fun _ => ?_⟩
            rw [e', Option.bind_some]
            unfold rex_parser_class_m0.j38 rex_parser_class_m0.j36 rex_parser_class_m0.j26
            obtain ⟨fuel, rfl⟩ : ∃ y, fuel = y + 1 := ⟨fuel - 1, by omega⟩
            rw [if_pos rfl, span_eq k hk, Option.bind_some, union_eq k (by omega), Option.bind_some, cls_bad]
            exact ⟨_, _, rfl⟩
          | some x =>
            obtain ⟨high, u2⟩ := x
            have hl2 := memC_len hN
            simp only [List.length_cons] at hl2
            obtain ⟨j', e', ha4⟩ := n1 high u2 hN
            rw [e', Option.bind_some]
            simp only
            unfold rex_parser_class_m0.j38 rex_parser_class_m0.j36 rex_parser_class_m0.j26
            by_cases hlt : high < low
            · have hlt' : high.toNat < low.toNat := UInt8.lt_iff_toNat_lt.1 hlt
              rw [if_pos hlt, if_neg (by decide), span_eq k hk, Option.bind_some, union_eq k (by omega), Option.bind_some, show decide ((high.toNat : Int) < (low.toNat : Int)) = true by simp; exact hlt']
              obtain ⟨fuel, rfl⟩ : ∃ y, fuel = y + 1 := ⟨fuel - 1, by omega⟩
              rw [cls_bad]
              exact ⟨fun f' u e => (by cases e), fun _ => ⟨_, _, rfl⟩⟩
            · have hlt' : ¬ high.toNat < low.toNat := fun h => hlt (UInt8.lt_iff_toNat_lt.2 h)
              rw [if_neg hlt, if_neg (by decide), span_eq k hk, Option.bind_some, union_eq k (by omega), Option.bind_some, show decide ((high.toNat : Int) < (low.toNat : Int)) = false by simp; omega]
              exact cls_loop m fuel j' u2 _ false ha4 (by omega) (by omega)
end
def clsC (r : List UInt8) : Option ((Nat → Bool) × List UInt8) :=
  if r.head? = some 94 then (clsL r.length true (fun _ => false) (r.drop 1)).map fun x => (fun i => !x.1 i, x.2) else clsL (r.length + 1) true (fun _ => false) r
def clsS (r : List UInt8) : Option (List Int × List UInt8) := (clsC r).map fun x => (setW x.1, x.2)
theorem class_eq (k : Nat) (s : List UInt8) (hs : s.length ≤ 100000) (hk : s.length + 300 ≤ k) (g : Int) {i : Int} {r : List UInt8} (ha : At s i r) :
    (∀ w u, clsS r = some (w, u) → ∃ j, rex_parser_class_m0.f k s i g false = some (w, j, false) ∧ At s j u) ∧
    (clsS r = none → ∃ (w : List Int) (j : Int), rex_parser_class_m0.f k s i g false = some (w, j, true)) := by
  have hlen := ha.len
  unfold rex_parser_class_m0.f clsS clsC
  have main : ∀ (v1 : Bool × Int) (t : List UInt8) (m : Nat), At s v1.2 t → t.length < m →
      (∀ f' u, clsL m true (fun _ => false) t = some (f', u) → ∃ j, ((rex_parser_class_m0.l17 k s g v1 k v1.2 false (List.replicate 4 (0 : Int)) true).bind fun o21 => rex_parser_class_m0.j12 k s g v1 o21.1 o21.2.1 o21.2.2) = some (setW (if v1.1 then fun i => !f' i else f'), j, false) ∧ At s j u) ∧
      (clsL m true (fun _ => false) t = none → ∃ (w : List Int) (j : Int), ((rex_parser_class_m0.l17 k s g v1 k v1.2 false (List.replicate 4 (0 : Int)) true).bind fun o21 => rex_parser_class_m0.j12 k s g v1 o21.1 o21.2.1 o21.2.2) = some (w, j, true)) := fun v1 t m hv hm => by
    have hl := hv.len
    obtain ⟨l1, l2⟩ := cls_loop k (by omega) s hs g v1 m k v1.2 t (fun _ => false) true hv hm (by omega)
    rw [setW_none] at l1 l2
    refine ⟨fun f' u e => ?_, fun e => ?_⟩
    · obtain ⟨j, e1, e2⟩ := l1 f' u e
      obtain ⟨t1, t2⟩ := takes_eq k s hs g e2
      refine ⟨_, ?_, t2⟩
      rw [e1, Option.bind_some]
      unfold rex_parser_class_m0.j12 rex_parser_class_m0.j9
      simp only
      rw [t1, Option.bind_some, if_neg (by simp)]
      cases v1.1 with
      | true => rw [if_pos rfl, if_pos rfl, not_eq k (by omega)]; rfl
      | false => rw [if_neg (by decide), if_neg (by decide)]
    · obtain ⟨j, f', e1⟩ := l2 e
      rw [e1, Option.bind_some]
      unfold rex_parser_class_m0.j12 rex_parser_class_m0.j9
      simp only
      rw [takes_bad, Option.bind_some, if_pos (by simp)]
      cases v1.1 with
      | true => rw [if_pos rfl, not_eq k (by omega)]; exact ⟨_, _, rfl⟩
      | false => rw [if_neg (by decide)]; exact ⟨_, _, rfl⟩
  by_cases h94 : r.head? = some 94
  · rw [if_pos h94]
    obtain ⟨t, rfl⟩ : ∃ t, r = 94 :: t := by
      cases r with
      | nil => cases h94
      | cons b t => cases h94; exact ⟨t, rfl⟩
    obtain ⟨t1, t2⟩ := takes_eq k s hs g ha
    rw [t1, Option.bind_some]
    obtain ⟨q1, q2⟩ := main (true, IntKind.i64.wrap (i + 1)) t (94 :: t).length t2 (by simp)
    simp only [List.drop_succ_cons, List.drop_zero]
    cases hc : clsL (94 :: t).length true (fun _ => false) t with
    | none =>
      refine ⟨fun w u e => (by cases e), fun _ => q2 hc⟩
    | some x =>
      refine ⟨fun w u e => ?_, fun e => by cases e⟩
      cases e
      exact q1 x.1 x.2 hc
  · rw [if_neg h94]
    have t1 : rex_parser_takes_m0.f k s i g false [94] = some (false, i) := by
      cases r with
      | nil => exact takes_nil k s g ha _
      | cons b t => exact takes_ne k s hs g ha (fun e => h94 (by rw [e]; rfl))
    rw [t1, Option.bind_some]
    obtain ⟨q1, q2⟩ := main (false, i) r (r.length + 1) ha (by omega)
    cases hc : clsL (r.length + 1) true (fun _ => false) r with
    | none =>
      refine ⟨fun w u e => (by cases e), fun _ => q2 hc⟩
    | some x =>
      refine ⟨fun w u e => ?_, fun e => by cases e⟩
      cases e
      exact q1 x.1 x.2 hc
theorem clsL_len : ∀ (m : Nat) (first : Bool) (f : Nat → Bool) (r : List UInt8) (f' : Nat → Bool) (u : List UInt8), clsL m first f r = some (f', u) → u.length < r.length
  | 0, _, _, _, _, _, h => by cases h
  | m + 1, first, f, r, f', u, h => by
    unfold clsL at h
    split at h
    · rename_i h93
      split at h
      · cases h
      · cases h
        cases r with
        | nil => cases h93
        | cons b t => simp
    · split at h
      · cases h
      · rename_i low t hM
        have := memC_len hM
        split at h
        · split at h
          · cases h
          · rename_i high u2 hN
            have h2 := memC_len hN
            rw [List.length_drop] at h2
            split at h
            · cases h
            · have := clsL_len m _ _ _ _ _ h; omega
        · have := clsL_len m _ _ _ _ _ h; omega
theorem clsS_len {r u : List UInt8} {w : List Int} (h : clsS r = some (w, u)) : u.length < r.length := by
  unfold clsS clsC at h
  split at h
  · rename_i h94
    cases hc : clsL r.length true (fun _ => false) (r.drop 1) with
    | none => rw [hc] at h; cases h
    | some x =>
      rw [hc] at h
      cases h
      have := clsL_len _ _ _ _ _ _ hc
      rw [List.length_drop] at this
      show x.2.length < r.length
      omega
  · cases hc : clsL (r.length + 1) true (fun _ => false) r with
    | none => rw [hc] at h; cases h
    | some x => rw [hc] at h; cases h; exact clsL_len _ _ _ _ _ _ hc
end Go.Proofs.YteddmdkbeednmaaDoor.Rx
