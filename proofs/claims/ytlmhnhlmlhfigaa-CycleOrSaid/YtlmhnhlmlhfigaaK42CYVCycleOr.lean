/- A part of the proof of a given law: CYVCycleOr. Own work, printed in part by a program of mine. -/
import Derived.Test.YtlmhnhlmlhfigaaK42CYVG
namespace Go.Proofs.Ytlmhnhlmlhfigaa
open Go Go.AM Go.ChangeShapes Go.ChangeAt Go.RowKit
set_option linter.unusedVariables false
set_option linter.unusedSimpArgs false
set_option maxRecDepth 100000
theorem Way.dist {s : Tx → List Tx} {n : Tx} : ∀ {v : Nat} {x : Tx} {r : List Tx}, Way s n v x r → (∀ e, e < v → ¬ Wk s e x n) → r.Nodup ∧ ∀ y ∈ r, (∃ d, 1 ≤ d ∧ d ≤ v ∧ Wk s d y n ∧ ∀ e, e < d → ¬ Wk s e y n) ∧ (y = x ∨ Rch s x y)
  | _, _, _, .over, _ => ⟨.nil, fun _ h => by cases h⟩
  | _, _, _, @Way.go _ _ v x p l1 l2 r q1 q2 q3 q4 q5, hx => by
    obtain ⟨h1, h2⟩ := Way.dist q5 q4
    have hp : p ∈ s x := by rw [q1]; simp
    refine ⟨List.nodup_cons.2 ⟨fun hin => ?_, h1⟩, fun y hy => ?_⟩
    · obtain ⟨⟨d, _, d2, d3, _⟩, _⟩ := h2 x hin
      exact hx d (by omega) d3
    · rcases List.mem_cons.1 hy with rfl | hy
      · exact ⟨⟨v + 1, by omega, Nat.le_refl _, ⟨p, hp, q3⟩, hx⟩, .inl rfl⟩
      · obtain ⟨⟨d, d1, d2, d3, d4⟩, h3⟩ := h2 y hy
        refine ⟨⟨d, d1, by omega, d3, d4⟩, .inr ?_⟩
        rcases h3 with rfl | h3
        · exact .one hp
        · exact (Rch.one hp).trans h3
theorem Way.clo {s : Tx → List Tx} {n : Tx} : ∀ (v : Nat) {x : Tx} {r : List Tx}, Way s n (v + 1) x (x :: r) → clo s n (x :: r) = true
  | 0, x, r, h => by
    cases h with
    | @go _ _ p l1 l2 _ q1 q2 q3 q4 q5 =>
    cases q5
    have q3 : p = n := q3
    have hn : n ∈ s x := by rw [q1, ← q3]; simp
    rw [Ytlmhnhlmlhfigaa.clo]; simpa [hasB] using hn
  | v + 1, x, r, h => by
    cases h with
    | @go _ _ p l1 l2 _ q1 q2 q3 q4 q5 =>
    cases q5 with
    | @go _ _ p' l1' l2' r' z1 z2 z3 z4 z5 =>
    have hp : p ∈ s x := by rw [q1]; simp
    rw [Ytlmhnhlmlhfigaa.clo, Way.clo v (.go z1 z2 z3 z4 z5)]
    simpa [hasB] using hp
theorem walk_spec {a : List Nd} {n : Tx} {e : Nat} {r : List Tx} (h : Way (suc a) n (e + 1) n (n :: r)) : (n :: r).Nodup ∧ (∀ y ∈ n :: r, Rch (suc a) y y) ∧ walkB (suc a) (n :: r) = true := by
  have hc := Way.clo e h
  cases h with
  | @go _ _ p l1 l2 _ q1 q2 q3 q4 q5 =>
  have hp : p ∈ suc a n := by rw [q1]; simp
  have hnn : Rch (suc a) n n := ⟨e, p, hp, q3⟩
  obtain ⟨h1, h2⟩ := q5.dist q4
  refine ⟨List.nodup_cons.2 ⟨fun hin => ?_, h1⟩, fun y hy => ?_, hc⟩
  · obtain ⟨⟨d, d1, _, _, d4⟩, _⟩ := h2 n hin
    exact d4 0 (by omega) rfl
  · rcases List.mem_cons.1 hy with rfl | hy
    · exact hnn
    · obtain ⟨⟨d, d1, _, d3, _⟩, h3⟩ := h2 y hy
      have hny : Rch (suc a) n y := by
        rcases h3 with rfl | h3
        · exact .one hp
        · exact (Rch.one hp).trans h3
      obtain ⟨d', hw⟩ := hny
      have := d3.trans hw
      exact ⟨d + d', this⟩
inductive OrdV (a : List Nd) (all : List Tx) : List Tx → Prop
  | nil : OrdV a all []
  | snoc {out : List Tx} {x : Tx} : OrdV a all out → x ∈ all → x ∉ out → (∀ y ∈ suc a x, y ∈ out) → OrdV a all (out ++ [x])
theorem OrdV.facts {a : List Nd} {all : List Tx} : ∀ {o : List Tx}, OrdV a all o → o.Nodup ∧ (∀ x ∈ o, x ∈ all) ∧ (∀ x ∈ o, ∀ y ∈ suc a x, y ∈ o) ∧ ∀ x ∈ o, ¬ Rch (suc a) x x := by
  intro o h
  induction h with
  | nil => exact ⟨.nil, fun _ h => (by cases h), fun _ h => (by cases h), fun _ h => (by cases h)⟩
  | @snoc out x _ h1 h2 h3 ih =>
    obtain ⟨i1, i2, i3, i4⟩ := ih
    refine ⟨?_, fun y hy => ?_, fun y hy z hz => ?_, fun y hy => ?_⟩
    · rw [List.nodup_append]
      exact ⟨i1, by simp, fun y hy z hz => by simp at hz; subst hz; exact fun e => h2 (e ▸ hy)⟩
    · rcases List.mem_append.1 hy with hy | hy
      · exact i2 y hy
      · simp at hy; subst hy; exact h1
    · refine List.mem_append.2 (.inl ?_)
      rcases List.mem_append.1 hy with hy | hy
      · exact i3 y hy z hz
      · simp at hy; subst hy; exact h3 z hz
    · rcases List.mem_append.1 hy with hy | hy
      · exact i4 y hy
      · simp at hy; subst hy
        exact fun hr => h2 (Rch.closed (P := fun z => z ∈ out) h3 (fun z hz w hw => i3 z hz w hw) hr)
theorem OrdV.at {a : List Nd} {all o : List Tx} (h : OrdV a all o) : ∀ {pre : List Tx} {x : Tx} {post : List Tx}, o = pre ++ x :: post → x ∈ all ∧ x ∉ pre ∧ ∀ y ∈ suc a x, y ∈ pre := by
  induction h with
  | nil => intro pre x post e; simp at e
  | @snoc out z _ h1 h2 h3 ih =>
    intro pre x post e
    rcases List.eq_nil_or_concat post with rfl | ⟨post', w, rfl⟩
    · obtain ⟨e1, e2⟩ := List.append_inj' e rfl
      cases e2
      subst e1
      exact ⟨h1, h2, h3⟩
    · have e' : out ++ [z] = (pre ++ x :: post') ++ [w] := by rw [e]; simp
      obtain ⟨e1, e2⟩ := List.append_inj' e' rfl
      exact ih e1
theorem ord_valid (a : List Nd) (all : List Tx) : ∀ (m : Nat) (out o : List Tx), OrdV a all out → ord a all m out = some o → OrdV a all o
  | 0, out, o, hv, h => by cases h; exact hv
  | m + 1, out, o, hv, h => by
    unfold ord at h
    split at h
    · rename_i n hn
      have h1 := List.mem_of_find?_eq_some hn
      have h2 := List.find?_some hn
      rw [Bool.and_eq_true] at h2
      refine ord_valid a all m _ o (hv.snoc h1 (by simpa [hasB] using h2.1) fun y hy => ?_) h
      have := List.all_eq_true.1 h2.2 y hy
      simpa [hasB] using this
    · cases h
theorem ord_some (a : List Nd) (hac : ∀ x ∈ namesL a, ¬ Rch (suc a) x x) : ∀ (m : Nat) (out : List Tx), OrdV a (namesL a) out → out.length + m = (namesL a).length → ∃ o, ord a (namesL a) m out = some o
  | 0, out, _, _ => ⟨out, rfl⟩
  | m + 1, out, hv, hl => by
    unfold ord
    cases hn : nxt a (namesL a) out with
    | some n =>
      have h1 := List.mem_of_find?_eq_some hn
      have h2 := List.find?_some hn
      rw [Bool.and_eq_true] at h2
      exact ord_some a hac m _ (hv.snoc h1 (by simpa [hasB] using h2.1) fun y hy => by
        have := List.all_eq_true.1 h2.2 y hy
        simpa [hasB] using this) (by simp; omega)
    | none =>
      exfalso
      obtain ⟨f1, f2, _, _⟩ := hv.facts
      have hstuck : ∀ y, y ∈ namesL a → y ∉ out → ∃ z, z ∈ suc a y ∧ z ∈ namesL a ∧ z ∉ out := fun y hy hyo => by
        have h3 := List.find?_eq_none.1 hn y hy
        have h4 : rdy a out y = false := by
          have hb : hasB out y = false := by simpa [hasB] using hyo
          rw [hb] at h3
          simpa using h3
        unfold rdy at h4
        obtain ⟨z, hz, hzo⟩ := List.all_eq_false.1 h4
        exact ⟨z, hz, (suc_names hz).1, by simpa [hasB] using hzo⟩
      have hone : ∃ x, x ∈ namesL a ∧ x ∉ out := by
        apply Classical.byContradiction
        intro h
        have := nodup_len (l := namesL a) (k := out) (sortedS_spec _).1.nodup fun x hx => Classical.byContradiction fun hxo => h ⟨x, hx, hxo⟩
        omega
      have long : ∀ d, ∃ z L, (z :: L).length = d + 1 ∧ (∀ x ∈ z :: L, x ∈ namesL a ∧ x ∉ out) ∧ (z :: L).Pairwise fun z y => Rch (suc a) y z := by
        intro d
        induction d with
        | zero =>
          obtain ⟨x, hx, hxo⟩ := hone
          exact ⟨x, [], rfl, fun y hy => by simp at hy; subst hy; exact ⟨hx, hxo⟩, List.pairwise_singleton _ _⟩
        | succ d ih =>
          obtain ⟨z, L, h1, h2, h3⟩ := ih
          obtain ⟨hz1, hz2⟩ := h2 z List.mem_cons_self
          obtain ⟨w, w1, w2, w3⟩ := hstuck z hz1 hz2
          refine ⟨w, z :: L, by simp at h1 ⊢; omega, fun x hx => ?_, List.pairwise_cons.2 ⟨fun y hy => ?_, h3⟩⟩
          · rcases List.mem_cons.1 hx with rfl | hx
            · exact ⟨w2, w3⟩
            · exact h2 x hx
          · rcases List.mem_cons.1 hy with rfl | hy
            · exact .one w1
            · exact ((List.pairwise_cons.1 h3).1 y hy).snoc w1
      obtain ⟨z, L, h1, h2, h3⟩ := long (namesL a).length
      have hnd : (z :: L).Nodup := h3.imp_of_mem fun {x y} hx hy hr e => hac x (h2 x hx).1 (by rw [← e] at hr; exact hr)
      have := nodup_len (k := namesL a) hnd fun x hx => (h2 x hx).1
      omega
theorem or_order {a : List Nd} {o : Sum Unit (List Tx × Bool)} (h : FindR a (namesL a) o) : (o = .inl () ∧ ∃ q, ordL a = some q ∧ OrdV a (namesL a) q) ∨ (∃ l1 n l2 r e, namesL a = l1 ++ n :: l2 ∧ (∀ x ∈ l1, ¬ Rch (suc a) x x) ∧ o = .inr (n :: r, true) ∧ e ≤ a.length ∧ Way (suc a) n (e + 1) n (n :: r) ∧ ordL a = none) := by
  rcases h with ⟨h1, h2⟩ | ⟨l1, n, l2, r, e, e1, e2, e3, e4, e5, e6⟩
  · obtain ⟨q, hq⟩ := ord_some a h2 (namesL a).length [] .nil (by simp)
    exact .inl ⟨h1, q, hq, ord_valid a _ _ _ _ .nil hq⟩
  · refine .inr ⟨l1, n, l2, r, e, e1, e2, e3, e4, e5, ?_⟩
    cases hq : ordL a with
    | none => rfl
    | some q =>
      exfalso
      obtain ⟨f1, f2, _, f4⟩ := (ord_valid a _ _ _ _ .nil hq).facts
      have hlen := ord_len a _ _ _ _ hq
      have hnn : n ∈ namesL a := by rw [e1]; simp
      have hin : n ∈ q := Classical.byContradiction fun hno => by
        have := nodup_len (l := n :: q) (k := namesL a) (List.nodup_cons.2 ⟨hno, f1⟩) fun x hx => by
          rcases List.mem_cons.1 hx with rfl | hx
          · exact hnn
          · exact f2 x hx
        simp at this hlen; omega
      exact f4 n hin ((walk_spec e5).2.1 n List.mem_cons_self)
theorem sub0 {α : Type} {l : List α} {i : Nat} (h : i ≤ l.length) : sub l 0 (i : Int) = some (l.take i) := by
  unfold sub
  rw [if_pos ⟨Int.le_refl _, by omega, by omega⟩]; simp
theorem drop_mid {α : Type} {l r : List α} {i : Nat} {x : α} (h : l.drop i = x :: r) : l = l.take i ++ x :: r := by rw [← h, List.take_append_drop]
theorem or1_loop (k : Nat) (hk : 2000 < k) (a : List Nd) (v5 : List Tx) (v6 v7 : List Tx × Bool) (hn : v6.1.Nodup) (hl : v6.1.length ≤ 1000) (x0 : Tx) (h0 : idx v6.1 0 = some x0) (hm : ∀ x ∈ v6.1, Op.bytesLess x x0 = false) : ∀ (l : List Tx) (fuel i : Nat), v6.1.drop i = l → l.length < fuel →
    millwrightlaw25_CycleOr.l15 k a v5 v6 v7 fuel (i : Int) = some (.inl ())
  | _, 0, _, _, h => by omega
  | [], f + 1, i, hd, _ => by
    have := at_nil hd
    unfold millwrightlaw25_CycleOr.l15
    rw [if_neg (by simp; omega)]
  | x :: r, f + 1, i, hd, hf => by
    obtain ⟨g1, g2, g3⟩ := at_drop hd
    have ih := or1_loop k hk a v5 v6 v7 hn hl x0 h0 hm r f (i + 1) g2 (by simpa using hf)
    have hsp := drop_mid hd
    have hx : x ∉ v6.1.take i := by
      have hnd := hn
      rw [hsp] at hnd
      exact fun h => (List.nodup_append.1 hnd).2.2 x h x List.mem_cons_self rfl
    have hxm : x ∈ v6.1 := by rw [hsp]; simp
    have htl : (v6.1.take i).length ≤ 1000 := by rw [List.length_take]; omega
    unfold millwrightlaw25_CycleOr.l15 millwrightlaw25_CycleOr.j23 millwrightlaw25_CycleOr.j19
    have hb : hasB (v6.1.take i) x = false := by simpa [hasB] using hx
    rw [if_pos (by simp; exact g3), g1, Option.bind_some, sub0 (by omega), Option.bind_some, has1_eq k hk _ htl, Option.bind_some, hb, if_neg (by simp), h0, Option.bind_some, hm x hxm, if_neg (by simp), wr1 (by omega), ih]
theorem or3_loop (k : Nat) (hk : 2000 < k) (a : List Nd) (v5 : List Tx) (v6 v7 : List Tx × Bool) (j : Nat) (hj : j ≤ v7.1.length) (hl : v7.1.length ≤ 1000) (to : List Tx) (ht : to.length ≤ 1000) (hs : ∀ y ∈ to, y ∈ v7.1.take j) : ∀ (l : List Tx) (fuel i : Nat), to.drop i = l → l.length < fuel →
    millwrightlaw25_CycleOr.l41 k a v5 v6 v7 (j : Int) to fuel (i : Int) = some (.inl ())
  | _, 0, _, _, h => by omega
  | [], f + 1, i, hd, _ => by
    have := at_nil hd
    unfold millwrightlaw25_CycleOr.l41
    rw [if_neg (by simp; omega)]
  | x :: r, f + 1, i, hd, hf => by
    obtain ⟨g1, g2, g3⟩ := at_drop hd
    have ih := or3_loop k hk a v5 v6 v7 j hj hl to ht hs r f (i + 1) g2 (by simpa using hf)
    have hxm : x ∈ to := List.mem_of_mem_drop (by rw [hd]; exact List.mem_cons_self)
    have hb : hasB (v7.1.take j) x = true := by simpa [hasB] using hs x hxm
    have htl : (v7.1.take j).length ≤ 1000 := by rw [List.length_take]; omega
    unfold millwrightlaw25_CycleOr.l41
    rw [if_pos (by simp; exact g3), g1, Option.bind_some, sub0 hj, Option.bind_some, has1_eq k hk _ htl, Option.bind_some, hb, if_neg (by simp), wr1 (by omega), ih]
theorem or2_loop (k : Nat) (hk : 2000 < k) (a : List Nd) (ha : Small a) (v6 v7 : List Tx × Bool) (hl : v7.1.length ≤ 1000) (hv : OrdV a (namesL a) v7.1) : ∀ (l : List Tx) (fuel i : Nat), v7.1.drop i = l → l.length < fuel →
    millwrightlaw25_CycleOr.l33 k a (namesL a) v6 v7 fuel (i : Int) = some (.inl ())
  | _, 0, _, _, h => by omega
  | [], f + 1, i, hd, _ => by
    have := at_nil hd
    unfold millwrightlaw25_CycleOr.l33
    rw [if_neg (by simp; omega)]
  | x :: r, f + 1, i, hd, hf => by
    obtain ⟨g1, g2, g3⟩ := at_drop hd
    have ih := or2_loop k hk a ha v6 v7 hl hv r f (i + 1) g2 (by simpa using hf)
    obtain ⟨q1, q2, q3⟩ := hv.at (drop_mid hd)
    have hb : hasB (v7.1.take i) x = false := by simpa [hasB] using q2
    have hb2 : hasB (namesL a) x = true := by simpa [hasB] using q1
    have htl : (v7.1.take i).length ≤ 1000 := by rw [List.length_take]; omega
    have hn := ha.names
    have hs := ha.suc x
    have e : millwrightlaw25_CycleOr.l41 k a (namesL a) v6 v7 (i : Int) (suc a x) k 0 = _ := or3_loop k hk a (namesL a) v6 v7 i (by omega) hl (suc a x) (by omega) q3 (suc a x) k 0 rfl (by omega)
    unfold millwrightlaw25_CycleOr.l33 millwrightlaw25_CycleOr.j54 millwrightlaw25_CycleOr.j51 millwrightlaw25_CycleOr.j37
    rw [if_pos (by simp; exact g3), g1, Option.bind_some, sub0 (by omega), Option.bind_some, has1_eq k hk _ htl, Option.bind_some, hb, if_neg (by simp), has1_eq k hk _ (by omega), Option.bind_some, hb2, if_neg (by simp), to1_eq k a ha, Option.bind_some, e, Option.bind_some]
    show millwrightlaw25_CycleOr.l33 k a (namesL a) v6 v7 f (IntKind.i64.wrap ((i : Int) + 1)) = _
    rw [wr1 (by omega), ih]
theorem cycleOr_true (a0 : List Nd) (_ : Wf Un (.list (.named 3)) a0) : ∃ k, millwrightlaw25_CycleOr.f k a0 = some true := by
  refine ⟨40000, ?_⟩
  unfold millwrightlaw25_CycleOr.f
  rw [alive_eq, Option.bind_some, if_neg (by decide)]
  obtain ⟨b, h1, h2⟩ := long_eq 40000 (by omega) a0
  rw [h1, Option.bind_some]
  cases b with
  | true => rw [if_pos rfl]
  | false =>
    have ha := h2 rfl
    have h16 := ha.1
    have hn := ha.names
    obtain ⟨o, f1, f2, f3⟩ := find_eq 40000 (by omega) a0 ha
    rw [if_neg (by simp), names1_eq _ (by omega) a0 ha, Option.bind_some, f1, Option.bind_some, order1_eq _ (by omega) a0 ha, Option.bind_some]
    rcases or_order f3 with ⟨rfl, q, hq, hv⟩ | ⟨l1, n, l2, r, e, e1, e2, rfl, e4, e5, e6⟩
    · rw [hq]
      have hlen := ord_len a0 _ _ _ _ hq
      have hlen : q.length = (namesL a0).length := by simpa using hlen
      have el : millwrightlaw25_CycleOr.l33 40000 a0 (namesL a0) (findOut (.inl ())) (ordO (some q)) 40000 0 = _ := or2_loop 40000 (by omega) a0 ha (findOut (.inl ())) (ordO (some q)) (by show q.length ≤ 1000; omega) hv q 40000 0 rfl (by omega)
      rw [if_neg (by simp [findOut, ordO]), if_neg (by simp [findOut]), el, Option.bind_some]
      show millwrightlaw25_CycleOr.j31 40000 (namesL a0) (findOut (.inl ())) (ordO (some q)) = _
      unfold millwrightlaw25_CycleOr.j31
      show (if ((q.length : Int) == ((namesL a0).length : Int)) = true then some ((0 : Int) == 0) else some false) = some true
      rw [hlen, if_pos (by simp)]; rfl
    · rw [e6]
      obtain ⟨w1, w2, w3⟩ := walk_spec e5
      have hrl := e5.len
      have hst : Strict (namesL a0) := (sortedS_spec _).1
      have hmin : ∀ x ∈ n :: r, Op.bytesLess x n = false := fun x hx => by
        cases hb : Op.bytesLess x n with
        | false => rfl
        | true =>
          have hxr := w2 x hx
          have hxn := (rch_names hxr).1
          rw [e1] at hxn
          rcases List.mem_append.1 hxn with h | h
          · exact absurd hxr (e2 x h)
          · rcases List.mem_cons.1 h with rfl | h
            · rw [less_irrefl] at hb; cases hb
            · unfold Strict at hst
              rw [e1] at hst
              have := (List.pairwise_cons.1 (List.pairwise_append.1 hst).2.1).1 x h
              exact absurd rfl (less_ne (less_trans hb this))
      have hle : (n :: r).length ≤ (namesL a0).length := nodup_len w1 fun x hx => (rch_names (w2 x hx)).1
      have el : millwrightlaw25_CycleOr.l15 40000 a0 (namesL a0) (n :: r, true) (ordO none) 40000 0 = _ := or1_loop 40000 (by omega) a0 (namesL a0) (n :: r, true) (ordO none) w1 (by show (n :: r).length ≤ 1000; omega) n rfl hmin (n :: r) 40000 0 rfl (by omega)
      have ew := walk1_eq 40000 (by omega) a0 ha (n :: r) (by omega)
      show (if (true == false) = true then some false else if true = true then (millwrightlaw25_CycleOr.l15 40000 a0 (namesL a0) (n :: r, true) (ordO none) 40000 0).bind _ else _) = _
      rw [if_neg (by decide), if_pos rfl, el, Option.bind_some]
      show millwrightlaw25_CycleOr.j13 40000 a0 (namesL a0) (n :: r, true) (ordO none) = _
      unfold millwrightlaw25_CycleOr.j13
      rw [ew, Option.bind_some, w3, if_pos rfl, if_pos (decide_eq_true (by show ((n :: r).length : Int) ≤ _; omega))]; rfl
end Go.Proofs.Ytlmhnhlmlhfigaa
