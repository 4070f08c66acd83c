/- A part of the proof of a given law: CYVG. Own work, printed in part by a program of mine. -/
import Derived.Test.YtlmhnhlmlhfigaaK42CYVF
namespace Go.Proofs.Ytlmhnhlmlhfigaa
open Go Go.AM Go.ChangeShapes Go.ChangeAt Go.RowKit
set_option linter.unusedVariables false
set_option linter.unusedSimpArgs false
set_option maxRecDepth 100000
def FindR (a : List Nd) (l : List Tx) (o : Sum Unit (List Tx × Bool)) : Prop :=
  (o = .inl () ∧ ∀ x ∈ l, ¬ Rch (suc a) x x) ∨ ∃ l1 n l2 r e, l = l1 ++ n :: l2 ∧ (∀ x ∈ l1, ¬ Rch (suc a) x x) ∧ o = .inr (n :: r, true) ∧ e ≤ a.length ∧ Way (suc a) n (e + 1) n (n :: r) ∧ ∀ d, d < e → ¬ Wk (suc a) (d + 1) n n
theorem find_loop (k : Nat) (hk : 20000 < k) (a : List Nd) (ha : Small a) (N : List Tx) (hN : N.length ≤ 1000) : ∀ (l : List Tx) (fuel i : Nat), N.drop i = l → l.length < fuel → ∃ o, cycle_Find.l5 k (arcsL a) N fuel (i : Int) = some o ∧ millwrightref25_Find.l4 k a N fuel (i : Int) = some o ∧ FindR a l o
  | _, 0, _, _, h => by omega
  | [], f + 1, i, hl, _ => by
    have := at_nil hl
    refine ⟨.inl (), ?_, ?_, .inl ⟨rfl, fun x h => by cases h⟩⟩
    · unfold cycle_Find.l5
      rw [if_neg (by simp; omega)]
    · unfold millwrightref25_Find.l4
      rw [if_neg (by simp; omega)]
  | n :: r, f + 1, i, hl, hf => by
    obtain ⟨g1, g2, g3⟩ := at_drop hl
    have hr := rds_len ha n a.length
    have hr : (reachL a n).length ≤ 144 := hr
    unfold cycle_Find.l5 millwrightref25_Find.l4
    rw [if_pos (by simp; exact g3), rix g1, if_pos (by simp; exact g3), g1, Option.bind_some, reach1_m0 k hk a ha, Option.bind_some, reach2_eq k hk a ha, Option.bind_some, has2_eq k (by omega) _ (by omega), Option.bind_some, has1_eq k (by omega) _ (by omega), Option.bind_some]
    by_cases hc : Rch (suc a) n n
    · have hb : hasB (reachL a n) n = true := by simpa [hasB] using reachL_mem.2 hc
      obtain ⟨d0, hd0, hw0⟩ := rch_short hc
      obtain ⟨e, he, hw, hm⟩ := least_of (P := fun d => Wk (suc a) (d + 1) n n) d0 hw0
      have h16 := ha.1
      obtain ⟨q, q1, q2⟩ := round_eq (k := k) (by omega) ha hw hm (by omega)
      have q3 := first_eq hk ha hm (by omega) q2
      refine ⟨.inr (n :: q, true), ?_, ?_, .inr ⟨[], n, r, q, e, rfl, fun x h => (by cases h), rfl, by omega, q2, hm⟩⟩
      · rw [hb, if_pos rfl, q1]; rfl
      · rw [hb, if_pos rfl, q3]; rfl
    · have hb : hasB (reachL a n) n = false := by
        simp only [hasB, decide_eq_false_iff_not]
        exact fun h => hc (reachL_mem.1 h)
      obtain ⟨o, h1, h2, h3⟩ := find_loop k hk a ha N hN r f (i + 1) g2 (by simpa using hf)
      refine ⟨o, by rw [hb, if_neg (by simp), wr1 (by omega), h1], by rw [hb, if_neg (by simp), wr1 (by omega), h2], ?_⟩
      rcases h3 with ⟨e1, e2⟩ | ⟨l1, m, l2, q, e, e1, e2, e3⟩
      · refine .inl ⟨e1, fun x hx => ?_⟩
        rcases List.mem_cons.1 hx with rfl | hx
        · exact hc
        · exact e2 x hx
      · refine .inr ⟨n :: l1, m, l2, q, e, by rw [e1]; rfl, fun x hx => ?_, e3⟩
        rcases List.mem_cons.1 hx with rfl | hx
        · exact hc
        · exact e2 x hx
def findOut : Sum Unit (List Tx × Bool) → List Tx × Bool
  | .inl _ => ([], false)
  | .inr u => u
theorem find_eq (k : Nat) (hk : 20000 < k) (a : List Nd) (ha : Small a) : ∃ o, cycle_Find.f k a = some (findOut o) ∧ millwrightref25_Find.f k a = some (findOut o) ∧ FindR a (namesL a) o := by
  have hn := ha.names
  obtain ⟨o, h1, h2, h3⟩ := find_loop k hk a ha (namesL a) (by omega) (namesL a) k 0 rfl (by omega)
  have h1 : cycle_Find.l5 k (arcsL a) (namesL a) k 0 = some o := h1
  have h2 : millwrightref25_Find.l4 k a (namesL a) k 0 = some o := h2
  refine ⟨o, ?_, ?_, h3⟩
  · unfold cycle_Find.f
    rw [arcs_eq k a ha, Option.bind_some, names1_eq k (by omega) a ha, Option.bind_some, h1]
    cases o <;> rfl
  · unfold millwrightref25_Find.f
    rw [names2_eq k hk a ha, Option.bind_some, h2]
    cases o <;> rfl
theorem Way.len {s : Tx → List Tx} {n : Tx} : ∀ {v : Nat} {x : Tx} {r : List Tx}, Way s n v x r → r.length = v
  | _, _, _, .over => rfl
  | _, _, _, .go _ _ _ _ h => by simp [h.len]
def rdy (a : List Nd) (out : List Tx) (n : Tx) : Bool := (suc a n).all (hasB out)
def nxt (a : List Nd) (all out : List Tx) : Option Tx := all.find? fun n => !hasB out n && rdy a out n
def ord (a : List Nd) (all : List Tx) : Nat → List Tx → Option (List Tx)
  | 0, out => some out
  | m + 1, out => match nxt a all out with
    | some n => ord a all m (out ++ [n])
    | none => none
def ordR : Option (List Tx) → Sum (List Tx) (List Tx × Bool)
  | some o => .inl o
  | none => .inr ([], false)
theorem all_filter {l : List Tx} {p : Tx → Bool} : ((l.filter fun x => !p x).length : Int) = 0 ↔ l.all p = true := by
  rw [List.all_eq_true]
  constructor
  · intro h x hx
    have h0 : l.filter (fun x => !p x) = [] := List.eq_nil_of_length_eq_zero (by omega)
    cases hp : p x with
    | true => rfl
    | false =>
      have : x ∈ l.filter fun x => !p x := List.mem_filter.2 ⟨hx, by simp [hp]⟩
      rw [h0] at this; cases this
  · intro h
    have h0 : l.filter (fun x => !p x) = [] := List.filter_eq_nil_iff.2 fun x hx => by simp [h x hx]
    rw [h0]; rfl
theorem scan_loop (k : Nat) (hk : 20000 < k) (a : List Nd) (ha : Small a) (left out : List Tx) (hl : left.length ≤ 1000) (ho : out.length ≤ 1000) (hn : left.Nodup) : ∀ (l : List Tx) (fuel i : Nat), left.drop i = l → l.length < fuel →
    cycle_Order.l16 k (arcsL a) left fuel left out (i : Int) = some (match l.find? (rdy a out) with | some n => .inl (left.filter (fun x => !(x == n)), out ++ [n]) | none => .inr ())
  | _, 0, _, _, h => by omega
  | [], f + 1, i, hd, _ => by
    have := at_nil hd
    unfold cycle_Order.l16
    rw [if_neg (by simp; omega)]; rfl
  | n :: r, f + 1, i, hd, hf => by
    obtain ⟨g1, g2, g3⟩ := at_drop hd
    have hs := ha.suc n
    have ih := scan_loop k hk a ha left out hl ho hn r f (i + 1) g2 (by simpa using hf)
    unfold cycle_Order.l16
    rw [if_pos (by simp; exact g3), rix g1, arcsL_get, without_eq k (by omega) _ _ (by omega) ho, Option.bind_some, List.find?_cons]
    by_cases hr : rdy a out n = true
    · have hz := (all_filter (l := suc a n) (p := hasB out)).2 hr
      rw [if_pos (by simpa using hz), if_pos (lim_ok (by omega)), wr1 (by omega)]
      have hdl : pDeleteRR.f k left (i : Int) ((i + 1 : Nat) : Int) = some (left.filter fun x => !(x == n)) := by
        unfold pDeleteRR.f
        rw [if_pos ⟨by omega, by omega, by omega⟩]
        simp only [Int.toNat_natCast]
        congr 1
        have hsp : left = left.take i ++ n :: r := by rw [← hd, List.take_append_drop]
        have hnd := hn
        rw [hsp] at hnd
        obtain ⟨_, p2, p3⟩ := List.nodup_append.1 hnd
        obtain ⟨p4, _⟩ := List.nodup_cons.1 p2
        rw [g2]
        conv => rhs; rw [hsp]
        rw [List.filter_append, List.filter_cons, if_neg (by simp)]
        congr 1
        · exact (List.filter_eq_self.2 fun x hx => by simpa using p3 x hx n List.mem_cons_self).symm
        · exact (List.filter_eq_self.2 fun x hx => by simpa using fun e : x = n => p4 (e ▸ hx)).symm
      rw [hdl, Option.bind_some, hr]
    · have hz : ¬ (((suc a n).filter fun x => !hasB out x).length : Int) = 0 := fun h => hr (all_filter.1 h)
      rw [if_neg (by simpa using hz), wr1 (by omega), ih]
      simp [hr]
theorem nxt_left (a : List Nd) (all out : List Tx) : nxt a all out = (all.filter fun x => !hasB out x).find? (rdy a out) := by
  unfold nxt
  rw [List.find?_filter]
  congr 1
  funext x
  cases hasB out x <;> cases rdy a out x <;> rfl
theorem order1_loop (k : Nat) (hk : 20000 < k) (a : List Nd) (ha : Small a) (all : List Tx) (hall : all.length ≤ 144) (hn : all.Nodup) : ∀ (m fuel : Nat) (out : List Tx), (all.filter fun x => !hasB out x).length = m → m < fuel → out.length + m ≤ 1000 →
    cycle_Order.l7 k (arcsL a) fuel (all.filter fun x => !hasB out x) out = some (ordR (ord a all m out))
  | _, 0, _, _, h, _ => by omega
  | 0, f + 1, out, hm, _, _ => by
    unfold cycle_Order.l7
    rw [if_neg (by simp [hm])]; rfl
  | m + 1, f + 1, out, hm, hf, ho => by
    have hle : (all.filter fun x => !hasB out x).length ≤ all.length := List.length_filter_le _ _
    have hnl : (all.filter fun x => !hasB out x).Nodup := hn.sublist List.filter_sublist
    have e := scan_loop k hk a ha (all.filter fun x => !hasB out x) out (by omega) (by omega) hnl (all.filter fun x => !hasB out x) k 0 rfl (by omega)
    have e : cycle_Order.l16 k (arcsL a) (all.filter fun x => !hasB out x) k (all.filter fun x => !hasB out x) out 0 = _ := e
    unfold cycle_Order.l7 cycle_Order.j12
    rw [if_pos (by simp [hm]), e, Option.bind_some, ord, nxt_left]
    cases hx : (all.filter fun x => !hasB out x).find? (rdy a out) with
    | none => rfl
    | some n =>
      simp only
      have hmem := List.mem_of_find?_eq_some hx
      have hfe : (all.filter fun x => !hasB out x).filter (fun x => !(x == n)) = all.filter fun x => !hasB (out ++ [n]) x := by
        rw [List.filter_filter]
        refine List.filter_congr fun x _ => ?_
        simp only [hasB, List.mem_append, List.mem_singleton]
        by_cases h1 : x ∈ out <;> by_cases h2 : x = n <;> simp [h1, h2]
      have hlen : (all.filter fun x => !hasB (out ++ [n]) x).length = m := by
        rw [← hfe]
        obtain ⟨p, q, hpq⟩ := List.append_of_mem hmem
        have hnd := hnl
        rw [hpq] at hnd hm ⊢
        obtain ⟨_, p2, p3⟩ := List.nodup_append.1 hnd
        obtain ⟨p4, _⟩ := List.nodup_cons.1 p2
        rw [List.filter_append, List.filter_cons, if_neg (by simp), List.filter_eq_self.2 fun x hx => by simpa using p3 x hx n List.mem_cons_self, List.filter_eq_self.2 fun x hx => by simpa using fun e : x = n => p4 (e ▸ hx)]
        simp at hm ⊢; omega
      have ih := order1_loop k hk a ha all hall hn m f (out ++ [n]) hlen (by omega) (by simp; omega)
      rw [hfe, ih]
def ordO : Option (List Tx) → List Tx × Bool
  | some o => (o, true)
  | none => ([], false)
def ordL (a : List Nd) : Option (List Tx) := ord a (namesL a) (namesL a).length []
theorem order1_eq (k : Nat) (hk : 20000 < k) (a : List Nd) (ha : Small a) : cycle_Order.f k a = some (ordO (ordL a)) := by
  unfold cycle_Order.f
  have hn := ha.names
  have h0 : (namesL a).filter (fun x => !hasB [] x) = namesL a := List.filter_eq_self.2 fun x _ => by simp [hasB]
  have e := order1_loop k hk a ha (namesL a) hn (sortedS_spec _).1.nodup (namesL a).length k [] (by rw [h0]) (by omega) (by simp; omega)
  rw [h0] at e
  rw [arcs_eq k a ha, Option.bind_some, names1_eq k (by omega) a ha, Option.bind_some, e, Option.bind_some]
  unfold ordL
  cases ord a (namesL a) (namesL a).length [] <;> rfl
theorem ord_len (a : List Nd) (all : List Tx) : ∀ (m : Nat) (out o : List Tx), ord a all m out = some o → o.length = out.length + m
  | 0, out, o, h => by cases h; rfl
  | m + 1, out, o, h => by
    unfold ord at h
    split at h
    · have := ord_len a all m _ o h
      simp at this; omega
    · cases h
end Go.Proofs.Ytlmhnhlmlhfigaa
