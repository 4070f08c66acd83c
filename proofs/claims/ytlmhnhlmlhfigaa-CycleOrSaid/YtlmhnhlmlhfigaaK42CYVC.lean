/- A part of the proof of a given law: CYVC. Own work, printed in part by a program of mine. -/
import Derived.Test.YtlmhnhlmlhfigaaK42CYVB
namespace Go.Proofs.Ytlmhnhlmlhfigaa
open Go Go.AM Go.ChangeShapes Go.ChangeAt Go.RowKit
set_option linter.unusedVariables false
set_option linter.unusedSimpArgs false
set_option maxRecDepth 100000
def Wk (s : Tx → List Tx) : Nat → Tx → Tx → Prop
  | 0, a, b => a = b
  | d + 1, a, b => ∃ c, c ∈ s a ∧ Wk s d c b
def Rch (s : Tx → List Tx) (a b : Tx) : Prop := ∃ d, Wk s (d + 1) a b
theorem Wk.trans {s : Tx → List Tx} : ∀ {d e : Nat} {a b c : Tx}, Wk s d a b → Wk s e b c → Wk s (d + e) a c
  | 0, e, a, b, c, h1, h2 => by
    have h1 : a = b := h1
    subst h1; rw [Nat.zero_add]; exact h2
  | d + 1, e, a, b, c, ⟨x, hx, h1⟩, h2 => by
    rw [Nat.add_right_comm]
    exact ⟨x, hx, Wk.trans h1 h2⟩
theorem Wk.snoc {s : Tx → List Tx} {d : Nat} {a b c : Tx} (h : Wk s d a b) (hc : c ∈ s b) : Wk s (d + 1) a c := h.trans (e := 1) ⟨c, hc, rfl⟩
theorem Wk.unsnoc {s : Tx → List Tx} : ∀ {d : Nat} {a c : Tx}, Wk s (d + 1) a c → ∃ b, Wk s d a b ∧ c ∈ s b
  | 0, a, c, ⟨x, hx, h⟩ => by
    have h : x = c := h
    subst h; exact ⟨a, rfl, hx⟩
  | d + 1, a, c, ⟨x, hx, h⟩ => by
    obtain ⟨b, h1, h2⟩ := Wk.unsnoc h
    exact ⟨b, ⟨x, hx, h1⟩, h2⟩
theorem Rch.one {s : Tx → List Tx} {a b : Tx} (h : b ∈ s a) : Rch s a b := ⟨0, b, h, rfl⟩
theorem Rch.snoc {s : Tx → List Tx} {a b c : Tx} (h : Rch s a b) (hc : c ∈ s b) : Rch s a c := by
  obtain ⟨d, h⟩ := h
  exact ⟨d + 1, h.snoc hc⟩
theorem Rch.trans {s : Tx → List Tx} {a b c : Tx} (h1 : Rch s a b) (h2 : Rch s b c) : Rch s a c := by
  obtain ⟨d, h1⟩ := h1
  obtain ⟨e, h2⟩ := h2
  exact ⟨d + 1 + e, h1.trans h2⟩
theorem Rch.closed {s : Tx → List Tx} {a : Tx} {P : Tx → Prop} (h1 : ∀ y ∈ s a, P y) (h2 : ∀ x, P x → ∀ y ∈ s x, P y) : ∀ {x : Tx}, Rch s a x → P x := by
  have key : ∀ d x, Wk s (d + 1) a x → P x := by
    intro d
    induction d with
    | zero =>
      rintro x ⟨c, hc, h⟩
      have h : c = x := h
      subst h; exact h1 c hc
    | succ d ih =>
      intro x h
      obtain ⟨b, h3, h4⟩ := h.unsnoc
      exact h2 b (ih b h3) x h4
  rintro x ⟨d, h⟩
  exact key d x h
theorem least_of {P : Nat → Prop} : ∀ n, P n → ∃ m, m ≤ n ∧ P m ∧ ∀ e, e < m → ¬ P e := by
  intro n
  induction n using Nat.strongRecOn with
  | _ n ih =>
    intro h
    by_cases hx : ∃ e, e < n ∧ P e
    · obtain ⟨e, he, hp⟩ := hx
      obtain ⟨m, h1, h2, h3⟩ := ih e he hp
      exact ⟨m, by omega, h2, h3⟩
    · exact ⟨n, Nat.le_refl _, h, fun e he hp => hx ⟨e, he, hp⟩⟩
theorem short_walk {s : Tx → List Tx} {n : Tx} : ∀ (d : Nat) (x : Tx), Wk s (d + 1) n x → (∀ e, e < d → ¬ Wk s (e + 1) n x) →
    ∃ ps : List Tx, ps.length = d ∧ ps.Nodup ∧ ∀ p ∈ ps, (∃ m, m ∈ s p) ∧ ∃ e, e < d ∧ Wk s (e + 1) n p
  | 0, x, _, _ => ⟨[], rfl, .nil, fun _ h => by cases h⟩
  | d + 1, x, h, hm => by
    obtain ⟨b, h1, h2⟩ := h.unsnoc
    have hb : ∀ e, e < d → ¬ Wk s (e + 1) n b := fun e he hw => hm (e + 1) (by omega) (hw.snoc h2)
    obtain ⟨ps, q1, q2, q3⟩ := short_walk d b h1 hb
    refine ⟨b :: ps, by simp [q1], List.nodup_cons.2 ⟨fun hin => ?_, q2⟩, fun p hp => ?_⟩
    · obtain ⟨_, e, he, hw⟩ := q3 b hin
      exact hb e he hw
    · rcases List.mem_cons.1 hp with rfl | hp
      · exact ⟨⟨x, h2⟩, d, by omega, h1⟩
      · obtain ⟨r1, e, he, hw⟩ := q3 p hp
        exact ⟨r1, e, by omega, hw⟩
theorem rch_short {a : List Nd} {n x : Tx} (h : Rch (suc a) n x) : ∃ d, d ≤ a.length ∧ Wk (suc a) (d + 1) n x := by
  obtain ⟨d, h⟩ := h
  obtain ⟨m, _, h1, h2⟩ := least_of (P := fun d => Wk (suc a) (d + 1) n x) d h
  obtain ⟨ps, q1, q2, q3⟩ := short_walk m x h1 h2
  have := nodup_len (k := a.map fun y => y.f_Name) q2 fun p hp => by
    obtain ⟨⟨m, hm⟩, _⟩ := q3 p hp
    obtain ⟨z, hz, he, _⟩ := mem_suc.1 hm
    exact List.mem_map.2 ⟨z, hz, he⟩
  rw [q1, List.length_map] at this
  exact ⟨m, this, h1⟩
def rds (a : List Nd) (n : Tx) : Nat → List Tx
  | 0 => suc a n
  | i + 1 => sortedS (rds a n i ++ (rds a n i).flatMap (suc a))
theorem rds_strict (a : List Nd) (n : Tx) : ∀ i, Strict (rds a n i)
  | 0 => suc_strict a n
  | i + 1 => (sortedS_spec _).1
theorem rds_mem (a : List Nd) (n : Tx) : ∀ (i : Nat) (x : Tx), x ∈ rds a n i ↔ ∃ d, d ≤ i ∧ Wk (suc a) (d + 1) n x
  | 0, x => by
    constructor
    · exact fun h => ⟨0, Nat.le_refl _, x, h, rfl⟩
    · rintro ⟨d, hd, c, hc, h⟩
      obtain rfl : d = 0 := by omega
      have h : c = x := h
      subst h; exact hc
  | i + 1, x => by
    show x ∈ sortedS _ ↔ _
    rw [(sortedS_spec _).2, List.mem_append, List.mem_flatMap]
    constructor
    · rintro (h | ⟨y, hy, hx⟩)
      · obtain ⟨d, hd, h⟩ := (rds_mem a n i x).1 h
        exact ⟨d, by omega, h⟩
      · obtain ⟨d, hd, h⟩ := (rds_mem a n i y).1 hy
        exact ⟨d + 1, by omega, h.snoc hx⟩
    · rintro ⟨d, hd, h⟩
      by_cases hdi : d ≤ i
      · exact .inl ((rds_mem a n i x).2 ⟨d, hdi, h⟩)
      · obtain rfl : d = i + 1 := by omega
        obtain ⟨y, h1, h2⟩ := h.unsnoc
        exact .inr ⟨y, (rds_mem a n i y).2 ⟨i, Nat.le_refl _, h1⟩, h2⟩
def reachL (a : List Nd) (n : Tx) : List Tx := rds a n a.length
theorem reachL_mem {a : List Nd} {n x : Tx} : x ∈ reachL a n ↔ Rch (suc a) n x := by
  unfold reachL
  rw [rds_mem]
  constructor
  · rintro ⟨d, _, h⟩; exact ⟨d, h⟩
  · exact rch_short
theorem rch_names {a : List Nd} {n x : Tx} (h : Rch (suc a) n x) : x ∈ namesL a ∧ n ∈ namesL a := by
  refine ⟨Rch.closed (P := fun x => x ∈ namesL a) (fun y hy => (suc_names hy).1) (fun x _ y hy => (suc_names hy).1) h, ?_⟩
  obtain ⟨d, c, hc, _⟩ := h
  exact (suc_names hc).2
theorem strict_sub {xs ys : List Tx} (h : Strict xs) (hs : ∀ x ∈ xs, x ∈ ys) : xs.length ≤ ys.length := nodup_len h.nodup hs
theorem rds_names {a : List Nd} {n x : Tx} {i : Nat} (h : x ∈ rds a n i) : x ∈ namesL a := by
  obtain ⟨d, _, h⟩ := (rds_mem a n i x).1 h
  exact (rch_names ⟨d, h⟩).1
theorem rds_len {a : List Nd} (ha : Small a) (n : Tx) (i : Nat) : (rds a n i).length ≤ 144 := Nat.le_trans (strict_sub (rds_strict a n i) fun x hx => rds_names hx) ha.names
theorem one_sum (n : Tx) (c : Nat) : ∀ ys : List Tx, ys.Nodup → (ys.map fun y => if (n == y) = true then c else 0).sum ≤ c
  | [], _ => by simp
  | y :: ys, h => by
    obtain ⟨h1, h2⟩ := List.nodup_cons.1 h
    have ih := one_sum n c ys h2
    simp only [List.map_cons, List.sum_cons]
    by_cases e : n = y
    · subst e
      have : ∀ zs : List Tx, n ∉ zs → (zs.map fun y => if (n == y) = true then c else 0).sum = 0 := by
        intro zs
        induction zs with
        | nil => intro _; rfl
        | cons z zs ih =>
          intro hn
          simp only [List.mem_cons, not_or] at hn
          simp only [List.map_cons, List.sum_cons, ih hn.2]
          rw [if_neg (by simpa using hn.1)]
      rw [this ys h1]; simp
    · rw [if_neg (by simpa using e)]; omega
theorem sum_add {α : Type} (f g : α → Nat) : ∀ l : List α, (l.map fun x => f x + g x).sum = (l.map f).sum + (l.map g).sum
  | [] => rfl
  | x :: l => by simp only [List.map_cons, List.sum_cons, sum_add f g l]; omega
theorem toOf_sum {ys : List Tx} (hn : ys.Nodup) : ∀ {l : List Nd}, Small l → (ys.map fun y => (toOf l y).length).sum ≤ 8 * l.length
  | [], _ => by
    have : ∀ zs : List Tx, (zs.map fun y => (toOf [] y).length).sum = 0 := by
      intro zs
      induction zs with
      | nil => rfl
      | cons z zs ih => simp only [List.map_cons, List.sum_cons, ih]; rfl
    rw [this]; exact Nat.zero_le _
  | x :: l, h => by
    have ih := toOf_sum hn h.tail
    have h8 := h.2 x List.mem_cons_self
    have e : (ys.map fun y => (toOf (x :: l) y).length) = ys.map fun y => (if (x.f_Name == y) = true then x.f_To.length else 0) + (toOf l y).length := by
      refine List.map_congr_left fun y _ => ?_
      unfold toOf
      rw [List.filter_cons]
      split
      · simp only [List.flatMap_cons, List.length_append]
      · simp
    rw [e, sum_add]
    exact Nat.le_trans (Nat.add_le_add (one_sum x.f_Name x.f_To.length ys hn) ih) (by simp only [List.length_cons]; omega)
theorem sortedS_le (xs : List Tx) : (sortedS xs).length ≤ xs.length := sortedS_len xs _ (Nat.le_refl _)
theorem flat_sum {a : List Nd} (ha : Small a) {ys : List Tx} (hn : ys.Nodup) : (ys.flatMap (suc a)).length ≤ 128 := by
  have h1 : (ys.flatMap (suc a)).length ≤ (ys.map fun y => (toOf a y).length).sum := by
    clear hn
    induction ys with
    | nil => simp
    | cons y ys ih =>
      have : (suc a y).length ≤ (toOf a y).length := sortedS_le _
      simp only [List.flatMap_cons, List.length_append, List.map_cons, List.sum_cons]; omega
  have := toOf_sum hn ha
  have := ha.1
  omega
theorem reach2_inner (k : Nat) (hk : 20000 < k) (a : List Nd) (ha : Small a) (v4 : List Tx) (v5 : Int) (h4 : v4.length ≤ 144) : ∀ (l : List Tx) (fuel i : Nat) (out : List Tx), v4.drop i = l → l.length < fuel → out.length + 128 * l.length ≤ 100000 → millwrightref25_Reach.l19 k a v4 v5 fuel out (i : Int) = some (out ++ l.flatMap (suc a))
  | _, 0, _, _, _, h, _ => by omega
  | [], f + 1, i, out, hl, _, _ => by
    have := at_nil hl
    unfold millwrightref25_Reach.l19
    rw [if_neg (by simp; omega)]; simp
  | x :: r, f + 1, i, out, hl, hf, ho => by
    obtain ⟨g1, g2, g3⟩ := at_drop hl
    have hs := ha.suc x
    simp only [List.length_cons] at ho hf
    have ih := reach2_inner k hk a ha v4 v5 h4 r f (i + 1) (out ++ suc a x) g2 (by omega) (by simp; omega)
    unfold millwrightref25_Reach.l19
    rw [if_pos (by simp; exact g3), g1, Option.bind_some, to2_eq k hk a ha, Option.bind_some, if_pos (lim2 (by omega)), wr1 (by omega), ih]
    simp
theorem reach2_loop (k : Nat) (hk : 20000 < k) (a : List Nd) (ha : Small a) (n : Tx) : ∀ (j fuel i : Nat), i + j = a.length → j < fuel → millwrightref25_Reach.l6 k a fuel (rds a n i) (i : Int) = some (reachL a n)
  | _, 0, _, _, h => by omega
  | 0, f + 1, i, hi, _ => by
    unfold millwrightref25_Reach.l6
    have : i = a.length := by omega
    subst this
    rw [if_neg (by simp)]; rfl
  | j + 1, f + 1, i, hi, hf => by
    have ih := reach2_loop k hk a ha n j f (i + 1) (by omega) (by omega)
    have hl := rds_len ha n i
    have h1 := ha.1
    have hfl := flat_sum ha (rds_strict a n i).nodup
    unfold millwrightref25_Reach.l6 millwrightref25_Reach.j16 millwrightref25_Reach.j12
    have e := reach2_inner k hk a ha (rds a n i) (i : Int) hl (rds a n i) k 0 ([] ++ rds a n i) rfl (by omega) (by simp; omega)
    rw [if_pos (by simp; omega), if_pos (lim2 (by simp; omega))]
    have e : millwrightref25_Reach.l19 k a (rds a n i) (i : Int) k ([] ++ rds a n i) 0 = _ := e
    rw [e, Option.bind_some, List.nil_append, rsort_eq k _ (by rw [List.length_append]; omega) hk, Option.bind_some, wr1 (by omega)]
    exact ih
theorem reach2_eq (k : Nat) (hk : 20000 < k) (a : List Nd) (ha : Small a) (n : Tx) : millwrightref25_Reach.f k a n = some (reachL a n) := by
  unfold millwrightref25_Reach.f millwrightref25_Reach.j3
  rw [to2_eq k hk a ha, Option.bind_some]
  have h1 := ha.1
  have e : millwrightref25_Reach.l6 k a k (rds a n 0) ((0 : Nat) : Int) = _ := reach2_loop k hk a ha n a.length k 0 (by omega) (by omega)
  have e : millwrightref25_Reach.l6 k a k (suc a n) 0 = _ := e
  rw [e]; rfl
theorem reach1_loop (k : Nat) (hk : 2000 < k) (a : List Nd) (ha : Small a) (n : Tx) : ∀ (fuel : Nat) (out q : List Tx), q.length + (144 - out.length) * 128 < fuel → q.length + (144 - out.length) * 128 ≤ 20000 → out.Nodup → (∀ x ∈ out, Rch (suc a) n x) → (∀ x ∈ q, Rch (suc a) n x) →
    (∀ x ∈ out, ∀ y ∈ suc a x, y ∈ out ∨ y ∈ q) → (∀ y ∈ suc a n, y ∈ out ∨ y ∈ q) → ∃ r, cycle_arcs_reach_m0.l k (arcsL a) fuel out q = some r ∧ r.length ≤ 144 ∧ ∀ x, x ∈ r ↔ Rch (suc a) n x
  | 0, out, q, hf, _, _, _, _, _, _ => by omega
  | f + 1, out, [], hf, hm, hn, ho, hq, h1, h2 => by
    refine ⟨out, rfl, Nat.le_trans (nodup_len hn fun x hx => (rch_names (ho x hx)).1) ha.names, fun x => ⟨ho x, ?_⟩⟩
    exact Rch.closed (P := fun x => x ∈ out) (fun y hy => (h2 y hy).resolve_right (by simp)) (fun x hx y hy => (h1 x hx y hy).resolve_right (by simp))
  | f + 1, out, x :: q, hf, hm, hn, ho, hq, h1, h2 => by
    have hol : out.length ≤ 144 := Nat.le_trans (nodup_len hn fun x hx => (rch_names (ho x hx)).1) ha.names
    simp only [List.length_cons] at hf hm
    unfold cycle_arcs_reach_m0.l
    rw [has2_eq k hk out (by omega), Option.bind_some]
    by_cases hx : x ∈ out
    · rw [if_pos (by simpa [hasB] using hx)]
      refine reach1_loop k hk a ha n f out q (by omega) (by omega) hn ho (fun y hy => hq y (List.mem_cons_of_mem _ hy)) (fun z hz y hy => ?_) fun y hy => ?_
      · rcases h1 z hz y hy with h | h
        · exact .inl h
        · rcases List.mem_cons.1 h with rfl | h
          · exact .inl hx
          · exact .inr h
      · rcases h2 y hy with h | h
        · exact .inl h
        · rcases List.mem_cons.1 h with rfl | h
          · exact .inl hx
          · exact .inr h
    · rw [if_neg (by simpa [hasB] using hx), arcsL_get]
      have hs := ha.suc x
      have hrx := hq x List.mem_cons_self
      have hn' : (out ++ [x]).Nodup := by
        rw [List.nodup_append]
        exact ⟨hn, by simp, fun y hy z hz => by simp at hz; subst hz; exact fun e => hx (e ▸ hy)⟩
      have ho' : ∀ y ∈ out ++ [x], Rch (suc a) n y := fun y hy => by
        rcases List.mem_append.1 hy with h | h
        · exact ho y h
        · simp at h; subst h; exact hrx
      have hol' : (out ++ [x]).length ≤ 144 := Nat.le_trans (nodup_len hn' fun x hx => (rch_names (ho' x hx)).1) ha.names
      have hol2 : out.length + 1 ≤ 144 := by simpa using hol'
      have hmul : (144 - out.length) * 128 = (144 - (out ++ [x]).length) * 128 + 128 := by
        simp only [List.length_append, List.length_cons, List.length_nil]; omega
      rw [if_pos (lim2 (by simp; omega)), if_pos (lim2 (by omega))]
      refine reach1_loop k hk a ha n f (out ++ [x]) (q ++ suc a x) (by rw [List.length_append]; omega) (by rw [List.length_append]; omega) hn' ho' (fun y hy => ?_) (fun z hz y hy => ?_) fun y hy => ?_
      · rcases List.mem_append.1 hy with h | h
        · exact hq y (List.mem_cons_of_mem _ h)
        · exact hrx.snoc h
      · rcases List.mem_append.1 hz with h | h
        · rcases h1 z h y hy with h | h
          · exact .inl (List.mem_append.2 (.inl h))
          · rcases List.mem_cons.1 h with rfl | h
            · exact .inl (by simp)
            · exact .inr (List.mem_append.2 (.inl h))
        · simp at h; subst h
          exact .inr (List.mem_append.2 (.inr hy))
      · rcases h2 y hy with h | h
        · exact .inl (List.mem_append.2 (.inl h))
        · rcases List.mem_cons.1 h with rfl | h
          · exact .inl (by simp)
          · exact .inr (List.mem_append.2 (.inl h))
theorem reach1_m0 (k : Nat) (hk : 20000 < k) (a : List Nd) (ha : Small a) (n : Tx) : cycle_arcs_reach_m0.f k (arcsL a) n = some (reachL a n) := by
  unfold cycle_arcs_reach_m0.f
  have hs := ha.suc n
  have e1 : pCloneR.f k (suc a n) = some (suc a n) := by unfold pCloneR.f; rw [if_pos (by omega)]
  rw [arcsL_get, e1, Option.bind_some]
  obtain ⟨r, h1, h2, h3⟩ := reach1_loop k (by omega) a ha n k [] (suc a n) (by simp; omega) (by simp; omega) .nil (fun x h => by cases h) (fun x hx => .one hx) (fun x h => by cases h) (fun y hy => .inr hy)
  rw [h1, Option.bind_some, names_sorted k r (by omega)]
  congr 1
  refine strict_eq _ _ (sortedS_spec r).1 (rds_strict a n _) fun x => ?_
  rw [(sortedS_spec r).2, h3]
  exact reachL_mem.symm
def clo (s : Tx → List Tx) (first : Tx) : List Tx → Bool
  | [] => true
  | [y] => hasB (s y) first
  | y :: z :: r => hasB (s y) z && clo s first (z :: r)
def walkB (s : Tx → List Tx) : List Tx → Bool
  | [] => false
  | x :: r => clo s x (x :: r)
theorem walk1_loop (k : Nat) (hk : 2000 < k) (a : List Nd) (ha : Small a) (w : List Tx) (hw : w.length ≤ 1000) (x0 : Tx) (h0 : idx w 0 = some x0) : ∀ (l : List Tx) (fuel i : Nat), w.drop i = l → l.length < fuel → cycle_Walk.l4 k w (arcsL a) fuel (i : Int) = some (if clo (suc a) x0 l then .inl () else .inr false)
  | _, 0, _, _, h => by omega
  | [], f + 1, i, hl, _ => by
    have := at_nil hl
    unfold cycle_Walk.l4
    rw [if_neg (by simp; omega)]; simp [clo]
  | [y], f + 1, i, hl, hf => by
    obtain ⟨g1, g2, g3⟩ := at_drop hl
    have hi : i + 1 = w.length := by have := at_nil g2; omega
    have ih := walk1_loop k hk a ha w hw x0 h0 [] f (i + 1) g2 (by simp at hf ⊢; omega)
    have hs := ha.suc y
    unfold cycle_Walk.l4
    have et : Int.tmod ((i + 1 : Nat) : Int) (w.length : Int) = 0 := by rw [← hi]; exact Int.tmod_self
    rw [if_pos (by simp; exact g3), g1, Option.bind_some, wr1 (by omega), if_pos (by omega), et, h0, Option.bind_some, arcsL_get, has2_eq k hk _ (by omega), Option.bind_some]
    show (if (!hasB (suc a y) x0) = true then _ else _) = _
    rw [clo]
    cases h : hasB (suc a y) x0
    · rw [if_pos (by simp)]; simp
    · rw [if_neg (by simp), ih]; simp [clo]
  | y :: z :: r, f + 1, i, hl, hf => by
    obtain ⟨g1, g2, g3⟩ := at_drop hl
    obtain ⟨g4, _, g6⟩ := at_drop g2
    have ih := walk1_loop k hk a ha w hw x0 h0 (z :: r) f (i + 1) g2 (by simp at hf ⊢; omega)
    have hs := ha.suc y
    unfold cycle_Walk.l4
    have et : Int.tmod ((i + 1 : Nat) : Int) (w.length : Int) = ((i + 1 : Nat) : Int) := by rw [Int.tmod_eq_of_lt (by omega) (by omega)]
    rw [if_pos (by simp; exact g3), g1, Option.bind_some, wr1 (by omega), if_pos (by omega), et, g4, Option.bind_some, arcsL_get, has2_eq k hk _ (by omega), Option.bind_some]
    show (if (!hasB (suc a y) z) = true then _ else _) = _
    rw [clo]
    cases h : hasB (suc a y) z
    · rw [if_pos (by simp)]; simp
    · rw [if_neg (by simp), ih]; simp
theorem walk1_eq (k : Nat) (hk : 2000 < k) (a : List Nd) (ha : Small a) (w : List Tx) (hw : w.length ≤ 1000) : cycle_Walk.f k a w = some (walkB (suc a) w) := by
  unfold cycle_Walk.f cycle_Walk.j2
  rw [arcs_eq k a ha, Option.bind_some]
  cases w with
  | nil =>
    obtain ⟨k, rfl⟩ : ∃ j, k = j + 1 := ⟨k - 1, by omega⟩
    rfl
  | cons x r =>
    have e := walk1_loop k hk a ha (x :: r) hw x rfl (x :: r) k 0 rfl (by omega)
    have e : cycle_Walk.l4 k (x :: r) (arcsL a) k 0 = _ := e
    rw [e, Option.bind_some]
    show _ = some (clo (suc a) x (x :: r))
    cases clo (suc a) x (x :: r)
    · rfl
    · show some (decide (((x :: r).length : Int) > 0)) = some true
      simp
end Go.Proofs.Ytlmhnhlmlhfigaa
