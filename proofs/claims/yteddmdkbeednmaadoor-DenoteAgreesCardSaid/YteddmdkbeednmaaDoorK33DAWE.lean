/- Where a node's spans end: the code's sets are what is spanned. -/
import Derived.Test.YteddmdkbeednmaaDoorK33DAWD
namespace Go.Proofs.YteddmdkbeednmaaDoor.Dn
open Go Go.AM
set_option linter.unusedVariables false
set_option linter.unusedSimpArgs false
set_option maxRecDepth 100000
theorem hdr_true {kd ix : Int} {st : List Int} {m : Nat} (h : hdr kd ix st m = true) :
    (kd = 0 ∧ m = 0) ∨ (kd = 1 ∧ m = 0) ∨ (kd = 2 ∧ 2 ≤ m) ∨ (kd = 3 ∧ 2 ≤ m) ∨ (kd = 4 ∧ m = 1) ∨ (kd = 5 ∧ m = 1) ∨ (kd = 6 ∧ m = 1) ∨ (kd = 7 ∧ m = 1 ∧ 1 ≤ ix ∧ ix ≤ 9) ∨ (kd = 8 ∧ m = 0) ∨ (kd = 9 ∧ m = 0) := by
  unfold hdr at h
  simp only [Bool.and_eq_true, decide_eq_true_eq] at h
  obtain ⟨⟨⟨h1, h2⟩, h3⟩, _⟩ := h
  have : kd = 0 ∨ kd = 1 ∨ kd = 2 ∨ kd = 3 ∨ kd = 4 ∨ kd = 5 ∨ kd = 6 ∨ kd = 7 ∨ kd = 8 ∨ kd = 9 := by omega
  rcases this with rfl | rfl | rfl | rfl | rfl | rfl | rfl | rfl | rfl | rfl <;> simp at h2 h3 <;> simp <;> omega
theorem one_kid {ks : List RN} (h : ks.length = 1) : ∃ x, ks = [x] := by
  match ks, h with
  | [x], _ => exact ⟨x, rfl⟩
def Im (R : Rl) (X Y : List Bool) : Prop := Y.length = X.length ∧ ∀ j, Mem Y j ↔ ∃ i, Mem X i ∧ R i j
theorem Im.comp {R S : Rl} {X Y Z : List Bool} (h1 : Im R X Y) (h2 : Im S Y Z) : Im (cp R S) X Z := by
  refine ⟨h2.1.trans h1.1, fun j => ?_⟩
  rw [h2.2]
  constructor
  · rintro ⟨i, hi, hs⟩
    obtain ⟨a, ha, hr⟩ := (h1.2 i).1 hi
    exact ⟨a, ha, i, hr, hs⟩
  · rintro ⟨a, ha, i, hr, hs⟩
    exact ⟨i, (h1.2 i).2 ⟨a, ha, hr⟩, hs⟩
theorem Im.congr {R S : Rl} {X Y : List Bool} (h : ∀ i j, R i j ↔ S i j) (h1 : Im R X Y) : Im S X Y :=
  ⟨h1.1, fun j => (h1.2 j).trans ⟨fun ⟨i, a, b⟩ => ⟨i, a, (h i j).1 b⟩, fun ⟨i, a, b⟩ => ⟨i, a, (h i j).2 b⟩⟩⟩
theorem Im.same (X : List Bool) : Im id_ X X := ⟨rfl, fun j => ⟨fun h => ⟨j, h, rfl⟩, fun ⟨i, h, e⟩ => by cases e; exact h⟩⟩
theorem closed_rt {D : Rl} {V : List Bool} (hc : ∀ i j, Mem V i → D i j → Mem V j) {i j : Nat} (h : RT D i j) : Mem V i → Mem V j := by
  induction h with
  | refl => exact id
  | tail _ h ih => exact fun g => hc _ _ (ih g) h
theorem closed_im {D : Rl} {X V : List Bool} (hl : V.length = X.length) (h1 : ∀ j, Mem X j → Mem V j) (h2 : ∀ j, Mem V j → ∃ i, Mem X i ∧ RT D i j) (hc : ∀ i j, Mem V i → D i j → Mem V j) : Im (RT D) X V :=
  ⟨hl, fun j => ⟨h2 j, fun ⟨i, a, b⟩ => closed_rt hc b (h1 i a)⟩⟩
abbrev F0 := T_rex_Node → List UInt8 → List Bool → Option (Bool × List Bool)
abbrev F1 := T_rex_Node → List UInt8 → List Bool → Option (List Bool)
theorem again_loop {K : Nat} {rf : F0} {n : RN} {s : List UInt8} {D : Rl} {X : List Bool} (hX : X.length ≤ 20000) (hK : X.length < K)
    (hrf : ∀ Z, Z.length = X.length → ∃ q l, rf n s Z = some (q, l) ∧ Im D Z (if q then Z else l)) :
    ∀ (fuel : Nat) (V : List Bool), V.length = X.length → (∀ j, Mem X j → Mem V j) → (∀ j, Mem V j → ∃ i, Mem X i ∧ RT D i j) → lack V < fuel →
    ∃ Y, denote_again.l5 K rf n s fuel V = some Y ∧ Im (RT D) X Y
  | 0, _, _, _, _, h => by omega
  | f + 1, V, hl, h1, h2, hf => by
    obtain ⟨q, l, e, hi⟩ := hrf V hl
    unfold denote_again.l5
    rw [rn_eta, e, Option.bind_some]
    cases q with
    | true =>
      simp only [if_true] at hi ⊢
      rw [with1_f (by omega) (by omega), Option.bind_some, if_pos rfl, if_neg (by simp)]
      exact ⟨V, rfl, closed_im hl h1 h2 fun i j a b => (hi.2 j).2 ⟨i, a, b⟩⟩
    | false =>
      simp only [Bool.false_eq_true, if_false] at hi ⊢
      have hll : V.length = l.length := hi.1.symm
      rw [with2_f hll (by omega) (by omega), Option.bind_some, if_pos (orL_len _ _)]
      have hm := fun j => mem_or (a := V) (b := l) (j := j) hll
      have a1 : ∀ j, Mem X j → Mem (orL V l) j := fun j hj => (hm j).2 (.inl (h1 j hj))
      have a2 : ∀ j, Mem (orL V l) j → ∃ i, Mem X i ∧ RT D i j := fun j hj => by
        rcases (hm j).1 hj with g | g
        · exact h2 j g
        · obtain ⟨i, b1, b2⟩ := (hi.2 j).1 g
          obtain ⟨a, c1, c2⟩ := h2 i b1
          exact ⟨a, c1, .tail c2 b2⟩
      cases hg : grew V l with
      | true =>
        simp only [if_true]
        exact again_loop hX hK hrf f _ ((orL_len _ _).trans hl) a1 a2 (by have := (lack_or V l).2 hg; omega)
      | false =>
        simp only [Bool.false_eq_true, if_false]
        refine ⟨_, rfl, closed_im ((orL_len _ _).trans hl) a1 a2 fun i j a b => ?_⟩
        have hi' : Mem V i := by
          rcases (hm i).1 a with g | g
          · exact g
          · exact grew_or hll hg i g
        exact (hm j).2 (.inr ((hi.2 j).2 ⟨i, hi', b⟩))
theorem cat_loop {K : Nat} {rf : F1} {n : RN} {s : List UInt8} (hn : n.f_Kids.length ≤ 20000) {L : Nat} (hrf : ∀ x ∈ n.f_Kids, ∀ Z, Z.length = L → ∃ Y, rf x s Z = some Y ∧ Im (Den s x) Z Y) :
    ∀ (l : List RN) (fuel i : Nat) (Z : List Bool), n.f_Kids.drop i = l → l.length < fuel → Z.length = L → ∃ Y, denote_ends.l8 K rf n s fuel Z (i : Int) = some Y ∧ Im (DenC s l) Z Y
  | _, 0, _, _, _, h, _ => by omega
  | [], f + 1, i, Z, h1, h2, h3 => by
    have := at_nil h1
    unfold denote_ends.l8
    rw [if_neg (by simp; omega)]
    exact ⟨Z, rfl, (Im.same Z).congr fun i j => by unfold DenC id_; exact Iff.rfl⟩
  | x :: r, f + 1, i, Z, h1, h2, h3 => by
    obtain ⟨g1, g2, g3⟩ := at_drop h1
    have hx : x ∈ n.f_Kids := List.mem_of_mem_drop (by rw [h1]; exact .head _)
    obtain ⟨Y, e, hi⟩ := hrf x hx Z h3
    unfold denote_ends.l8
    rw [if_pos (by simp; exact g3), g1, Option.bind_some, rn_eta, e, Option.bind_some, wr1 (by omega)]
    obtain ⟨W, e2, hi2⟩ := cat_loop hn hrf r f (i + 1) Y g2 (by simp at h2; omega) (hi.1.trans h3)
    exact ⟨W, e2, (hi.comp hi2).congr fun i j => by rw [DenC]; exact Iff.rfl⟩
theorem catT_loop {K : Nat} {rf : F1} {n : RN} {s : List UInt8} {X : List Bool} (hn : n.f_Kids.length ≤ 20000) {L : Nat} (hrf : ∀ x ∈ n.f_Kids, ∀ Z, Z.length = L → ∃ Y, rf x s Z = some Y ∧ Im (Den s x) Z Y) :
    ∀ (l : List RN) (fuel i : Nat) (Z : List Bool), n.f_Kids.drop i = l → l.length < fuel → Z.length = L → ∃ Y, denote_ends_m0.l8T K rf n s X fuel Z (i : Int) = some (.inr Y) ∧ Im (DenC s l) Z Y
  | _, 0, _, _, _, h, _ => by omega
  | [], f + 1, i, Z, h1, h2, h3 => by
    have := at_nil h1
    unfold denote_ends_m0.l8T
    rw [if_neg (by simp; omega)]
    exact ⟨Z, rfl, (Im.same Z).congr fun i j => by unfold DenC id_; exact Iff.rfl⟩
  | x :: r, f + 1, i, Z, h1, h2, h3 => by
    obtain ⟨g1, g2, g3⟩ := at_drop h1
    have hx : x ∈ n.f_Kids := List.mem_of_mem_drop (by rw [h1]; exact .head _)
    obtain ⟨Y, e, hi⟩ := hrf x hx Z h3
    unfold denote_ends_m0.l8T
    rw [if_pos (by simp; exact g3), g1, Option.bind_some, rn_eta, e, Option.bind_some, wr1 (by omega)]
    obtain ⟨W, e2, hi2⟩ := catT_loop hn hrf r f (i + 1) Y g2 (by simp at h2; omega) (hi.1.trans h3)
    exact ⟨W, e2, (hi.comp hi2).congr fun i j => by rw [DenC]; exact Iff.rfl⟩
theorem cat0_loop {K : Nat} {rf : F1} {rf0 : F0} {n : RN} {s : List UInt8} {X : List Bool} (hn : n.f_Kids.length ≤ 20000) (hnK : n.f_Kids.length < K) (hrf : ∀ x ∈ n.f_Kids, ∀ Z, Z.length = X.length → ∃ Y, rf x s Z = some Y ∧ Im (Den s x) Z Y)
    (hrf0 : ∀ x ∈ n.f_Kids, ∀ Z, Z.length = X.length → ∃ q l, rf0 x s Z = some (q, l) ∧ Im (Den s x) Z (if q then Z else l)) :
    ∀ (l : List RN) (fuel i : Nat), n.f_Kids.drop i = l → l.length < fuel → ∃ o, denote_ends_m0.l8 K rf0 n s X rf fuel (i : Int) = some o ∧ (match o with | .inl _ => Im (DenC s l) X X | .inr Y => Im (DenC s l) X Y)
  | _, 0, _, _, h => by omega
  | [], f + 1, i, h1, h2 => by
    have := at_nil h1
    unfold denote_ends_m0.l8
    rw [if_neg (by simp; omega)]
    exact ⟨_, rfl, (Im.same X).congr fun i j => by unfold DenC id_; exact Iff.rfl⟩
  | x :: r, f + 1, i, h1, h2 => by
    obtain ⟨g1, g2, g3⟩ := at_drop h1
    have hx : x ∈ n.f_Kids := List.mem_of_mem_drop (by rw [h1]; exact .head _)
    obtain ⟨q, l, e, hi⟩ := hrf0 x hx X rfl
    unfold denote_ends_m0.l8
    rw [if_pos (by simp; exact g3), g1, Option.bind_some, rn_eta, e, Option.bind_some, wr1 (by omega)]
    cases q with
    | true =>
      simp only [if_true] at hi ⊢
      obtain ⟨o, e2, hi2⟩ := cat0_loop hn hnK hrf hrf0 r f (i + 1) g2 (by simp at h2; omega)
      refine ⟨o, e2, ?_⟩
      cases o with
      | inl _ => exact (hi.comp hi2).congr fun i j => by rw [DenC]; exact Iff.rfl
      | inr Y => exact (hi.comp hi2).congr fun i j => by rw [DenC]; exact Iff.rfl
    | false =>
      simp only [Bool.false_eq_true, if_false] at hi ⊢
      obtain ⟨W, e2, hi2⟩ := catT_loop (X := X) (K := K) hn hrf r f (i + 1) l g2 (by simp at h2; omega) hi.1
      exact ⟨_, e2, (hi.comp hi2).congr fun i j => by rw [DenC]; exact Iff.rfl⟩
theorem alt_loop {K : Nat} {rf : F1} {n : RN} {s : List UInt8} {X : List Bool} (hn : n.f_Kids.length ≤ 20000) (hX : X.length ≤ 20000) (hK : X.length < K) (hrf : ∀ x ∈ n.f_Kids, ∀ Z, Z.length = X.length → ∃ Y, rf x s Z = some Y ∧ Im (Den s x) Z Y) :
    ∀ (l : List RN) (fuel i : Nat) (V : List Bool), n.f_Kids.drop i = l → l.length < fuel → V.length = X.length → ∃ Y, denote_ends.l22 K rf n s X fuel V (i : Int) = some Y ∧ Y.length = X.length ∧ ∀ j, Mem Y j ↔ Mem V j ∨ ∃ i, Mem X i ∧ DenA s l i j
  | _, 0, _, _, _, h, _ => by omega
  | [], f + 1, i, V, h1, h2, h3 => by
    have := at_nil h1
    unfold denote_ends.l22
    rw [if_neg (by simp; omega)]
    exact ⟨V, rfl, h3, fun j => ⟨.inl, fun h => by
      rcases h with h | ⟨i, _, h⟩
      · exact h
      · unfold DenA at h; exact h.elim⟩⟩
  | x :: r, f + 1, i, V, h1, h2, h3 => by
    obtain ⟨g1, g2, g3⟩ := at_drop h1
    have hx : x ∈ n.f_Kids := List.mem_of_mem_drop (by rw [h1]; exact .head _)
    obtain ⟨Y, e, hi⟩ := hrf x hx X rfl
    have hVY : V.length = Y.length := h3.trans hi.1.symm
    unfold denote_ends.l22
    rw [if_pos (by simp; exact g3), g1, Option.bind_some, rn_eta, e, Option.bind_some, with2_f hVY (by omega) (by omega), Option.bind_some, if_pos (orL_len _ _), wr1 (by omega)]
    obtain ⟨W, e2, hl2, hi2⟩ := alt_loop hn hX hK hrf r f (i + 1) (orL V Y) g2 (by simp at h2; omega) ((orL_len _ _).trans h3)
    refine ⟨W, e2, hl2, fun j => ?_⟩
    rw [hi2, mem_or hVY, hi.2, or_assoc]
    refine or_congr Iff.rfl ⟨?_, ?_⟩
    · rintro (⟨i, a, b⟩ | ⟨i, a, b⟩)
      · exact ⟨i, a, by rw [DenA]; exact .inl b⟩
      · exact ⟨i, a, by rw [DenA]; exact .inr b⟩
    · rintro ⟨i, a, b⟩
      rw [DenA] at b
      rcases b with b | b
      · exact .inl ⟨i, a, b⟩
      · exact .inr ⟨i, a, b⟩
theorem alt0_loop {K : Nat} {rf0 : F0} {n : RN} {s : List UInt8} {X : List Bool} (hn : n.f_Kids.length ≤ 20000) (hX : X.length ≤ 20000) (hK : X.length < K) (hrf0 : ∀ x ∈ n.f_Kids, ∀ Z, Z.length = X.length → ∃ q l, rf0 x s Z = some (q, l) ∧ Im (Den s x) Z (if q then Z else l)) :
    ∀ (l : List RN) (fuel i : Nat) (V : List Bool), n.f_Kids.drop i = l → l.length < fuel → V.length = X.length → ∃ Y, denote_ends_m0.l29 K rf0 n s X fuel V (i : Int) = some Y ∧ Y.length = X.length ∧ ∀ j, Mem Y j ↔ Mem V j ∨ ∃ i, Mem X i ∧ DenA s l i j
  | _, 0, _, _, _, h, _ => by omega
  | [], f + 1, i, V, h1, h2, h3 => by
    have := at_nil h1
    unfold denote_ends_m0.l29
    rw [if_neg (by simp; omega)]
    exact ⟨V, rfl, h3, fun j => ⟨.inl, fun h => by
      rcases h with h | ⟨i, _, h⟩
      · exact h
      · unfold DenA at h; exact h.elim⟩⟩
  | x :: r, f + 1, i, V, h1, h2, h3 => by
    obtain ⟨g1, g2, g3⟩ := at_drop h1
    have hx : x ∈ n.f_Kids := List.mem_of_mem_drop (by rw [h1]; exact .head _)
    obtain ⟨q, l, e, hi⟩ := hrf0 x hx X rfl
    have hgo : ∀ Y, Im (Den s x) X Y → ∃ Z, denote_ends_m0.l29 K rf0 n s X f (orL V Y) ((i + 1 : Nat) : Int) = some Z ∧ Z.length = X.length ∧ ∀ j, Mem Z j ↔ Mem V j ∨ ∃ i, Mem X i ∧ DenA s (x :: r) i j := fun Y hi => by
      have hVY : V.length = Y.length := h3.trans hi.1.symm
      obtain ⟨W, e2, hl2, hi2⟩ := alt0_loop hn hX hK hrf0 r f (i + 1) (orL V Y) g2 (by simp at h2; omega) ((orL_len _ _).trans h3)
      refine ⟨W, e2, hl2, fun j => ?_⟩
      rw [hi2, mem_or hVY, hi.2, or_assoc]
      refine or_congr Iff.rfl ⟨?_, ?_⟩
      · rintro (⟨i, a, b⟩ | ⟨i, a, b⟩)
        · exact ⟨i, a, by rw [DenA]; exact .inl b⟩
        · exact ⟨i, a, by rw [DenA]; exact .inr b⟩
      · rintro ⟨i, a, b⟩
        rw [DenA] at b
        rcases b with b | b
        · exact .inl ⟨i, a, b⟩
        · exact .inr ⟨i, a, b⟩
    unfold denote_ends_m0.l29
    rw [if_pos (by simp; exact g3), g1, Option.bind_some, rn_eta, e, Option.bind_some]
    cases q with
    | true =>
      simp only [if_true] at hi ⊢
      rw [with4_f h3 (by omega) (by omega), Option.bind_some, if_pos (orL_len _ _), wr1 (by omega)]
      exact hgo X hi
    | false =>
      simp only [Bool.false_eq_true, if_false] at hi ⊢
      rw [with2_f (h3.trans hi.1.symm) (by omega) (by omega), Option.bind_some, if_pos (orL_len _ _), wr1 (by omega)]
      exact hgo l hi
theorem again_succ (k : Nat) (n : RN) (s : List UInt8) (X : List Bool) : denote_again.f (k + 1) n s X = denote_again.b k (denote_ends_m0.f k) n s X := rfl
theorem ends_succ (k : Nat) (n : RN) (s : List UInt8) (X : List Bool) : denote_ends.f (k + 1) n s X = denote_ends.b k (denote_ends.f k) (denote_again.f k) n s X := rfl
theorem ends0_succ (k : Nat) (n : RN) (s : List UInt8) (X : List Bool) : denote_ends_m0.f (k + 1) n s X = denote_ends_m0.b k (denote_ends_m0.f k) (denote_ends.f k) (denote_again.f k) n s X := rfl
theorem den_eq (s : List UInt8) (n : RN) (i j : Nat) : Den s n i j ↔ if n.f_Kind = 1 then j = i + 1 ∧ ∃ c, s[i]? = some c ∧ setHas n.f_Set c.toNat = true
    else if n.f_Kind = 2 then DenC s n.f_Kids i j
    else if n.f_Kind = 3 then DenA s n.f_Kids i j
    else if n.f_Kind = 4 then RT (DenC s n.f_Kids) i j
    else if n.f_Kind = 5 then ∃ m, DenC s n.f_Kids i m ∧ RT (DenC s n.f_Kids) m j
    else if n.f_Kind = 6 then i = j ∨ DenC s n.f_Kids i j
    else if n.f_Kind = 7 then DenC s n.f_Kids i j
    else if n.f_Kind = 8 then i = j ∧ i = 0
    else if n.f_Kind = 9 then i = j ∧ i = s.length
    else i = j := by
  cases n with
  | mk a b c ks => rw [Den]; exact Iff.rfl
theorem rt_congr {R S : Rl} (h : ∀ i j, R i j ↔ S i j) (i j : Nat) : RT R i j ↔ RT S i j :=
  ⟨RT.mono fun a b g => .one ((h a b).1 g), RT.mono fun a b g => .one ((h a b).2 g)⟩
section
variable (s : List UInt8) (hs : s.length ≤ 60)
include hs
theorem again_of {k : Nat} {x : RN} {D : Rl} {X : List Bool} (hX : X.length = s.length + 1) (hk : 100 ≤ k)
    (h : ∀ Z, Z.length = X.length → ∃ q l, denote_ends_m0.f k x s Z = some (q, l) ∧ Im D Z (if q then Z else l)) : ∃ Y, denote_again.f (k + 1) x s X = some Y ∧ Im (RT D) X Y := by
  rw [again_succ]
  unfold denote_again.b denote_again.j3
  rw [clone_f (by omega), Option.bind_some]
  obtain ⟨Y, e, hi⟩ := again_loop (K := k) (by omega) (by omega) h k X rfl (fun _ h => h) (fun j h => ⟨j, h, .refl j⟩) (by have := lack_le X; omega)
  exact ⟨Y, by rw [e]; rfl, hi⟩
theorem ones_im {K : Nat} {X : List Bool} {w : List Int} (hw : SetOk w) (hX : X.length = s.length + 1) (hK : s.length < K) : ∃ Y, denote_ones.f K s X w = some Y ∧ Im (fun i j => j = i + 1 ∧ ∃ c, s[i]? = some c ∧ setHas w c.toNat = true) X Y := by
  refine ⟨_, ones_f hw hX hK (by omega), by simp [onesL_len w s X hX, hX], fun j => ?_⟩
  cases j with
  | zero => simp [Mem]
  | succ j =>
    have := mem_ones w s X j hX
    have e : Mem (false :: onesL w s X) (j + 1) ↔ Mem (onesL w s X) j := by simp [Mem]
    rw [e, this]
    constructor
    · rintro ⟨a, b⟩; exact ⟨j, a, rfl, b⟩
    · rintro ⟨i, a, b, c⟩
      have : i = j := by omega
      subst this; exact ⟨a, c⟩
theorem only_im {K : Nat} {X : List Bool} {p : Nat} (hX : X.length = s.length + 1) (hp : p ≤ s.length) : ∃ Y, denote_set_only.f K X (p : Int) = some Y ∧ Im (fun i j => i = j ∧ i = p) X Y := by
  obtain ⟨Y, e, hl, hm⟩ := only_f (K := K) (X := X) (i := p) (by omega) (by omega)
  refine ⟨Y, e, hl, fun j => ?_⟩
  rw [hm]
  constructor
  · rintro ⟨rfl, h⟩; exact ⟨j, h, rfl, rfl⟩
  · rintro ⟨i, h, rfl, rfl⟩; exact ⟨rfl, h⟩
theorem ends_all : ∀ (m : Nat) (n : RN) (k : Nat), nsz n ≤ m → nsz n ≤ 120 → rightN n = true → setsN n → 200 + 2 * nsz n ≤ k → ∀ X, X.length = s.length + 1 →
    (∃ Y, denote_ends.f k n s X = some Y ∧ Im (Den s n) X Y) ∧ (∃ q l, denote_ends_m0.f k n s X = some (q, l) ∧ Im (Den s n) X (if q then X else l))
  | 0, n, _, h, _, _, _, _, _, _ => by have := nsz_pos n; omega
  | m + 1, n, 0, h, h1, hr, hw, hk, X, hX => by have := nsz_pos n; omega
  | m + 1, n, k + 1, h, h1, hr, hw, hk, X, hX => by
    have hnk := nsz_kids n
    have hlen := nszs_len n.f_Kids
    rw [rightN_eq, Bool.and_eq_true] at hr
    rw [setsN_eq] at hw
    have hkid : ∀ x ∈ n.f_Kids, nsz x ≤ nszs n.f_Kids ∧ rightN x = true ∧ setsN x := by
      have hr2 := hr.2
      have hw2 := hw.2
      clear hnk hlen
      generalize n.f_Kids = ks at hr2 hw2 ⊢
      induction ks with
      | nil => intro x hx; cases hx
      | cons y ys ih =>
        rw [rightNs, Bool.and_eq_true] at hr2
        rw [setsL] at hw2
        intro x hx
        rw [nszs]
        rcases List.mem_cons.1 hx with rfl | hx
        · exact ⟨by omega, hr2.1, hw2.1⟩
        · obtain ⟨a, b, c⟩ := ih hr2.2 hw2.2 x hx
          exact ⟨by omega, b, c⟩
    have hE : ∀ x ∈ n.f_Kids, ∀ Z, Z.length = s.length + 1 → ∃ Y, denote_ends.f k x s Z = some Y ∧ Im (Den s x) Z Y := fun x hx Z hZ => by
      obtain ⟨a, b, c⟩ := hkid x hx
      exact (ends_all m x k (by omega) (by omega) b c (by omega) Z hZ).1
    have hE0 : ∀ x ∈ n.f_Kids, ∀ Z, Z.length = s.length + 1 → ∃ q l, denote_ends_m0.f k x s Z = some (q, l) ∧ Im (Den s x) Z (if q then Z else l) := fun x hx Z hZ => by
      obtain ⟨a, b, c⟩ := hkid x hx
      exact (ends_all m x k (by omega) (by omega) b c (by omega) Z hZ).2
    have hA : ∀ x ∈ n.f_Kids, ∀ Z, Z.length = s.length + 1 → ∃ Y, denote_again.f k x s Z = some Y ∧ Im (RT (Den s x)) Z Y := fun x hx Z hZ => by
      obtain ⟨a, b, c⟩ := hkid x hx
      obtain ⟨k', rfl⟩ : ∃ k', k = k' + 1 := ⟨k - 1, by omega⟩
      exact again_of s hs hZ (by omega) fun W hW => (ends_all m x k' (by omega) (by omega) b c (by omega) W (hW.trans hZ)).2
    have hd := den_eq s n
    have hL : (LIM : Nat) = 4294967296 := rfl
    have hrep : ∀ j, ¬ Mem (List.replicate X.length false) j := mem_rep _
    rw [ends_succ, ends0_succ]
    unfold denote_ends.b denote_ends_m0.b
    rcases hdr_true hr.1 with ⟨ek, g⟩ | ⟨ek, g⟩ | ⟨ek, g⟩ | ⟨ek, g⟩ | ⟨ek, g⟩ | ⟨ek, g⟩ | ⟨ek, g⟩ | ⟨ek, g, _⟩ | ⟨ek, g⟩ | ⟨ek, g⟩ <;> simp only [ek, Int.reduceEq, Int.reduceBEq, Bool.false_eq_true, if_false, if_true] at hd ⊢
    · have : Im (Den s n) X X := (Im.same X).congr fun i j => (hd i j).symm
      exact ⟨⟨X, rfl, this⟩, ⟨true, [], rfl, this⟩⟩
    · obtain ⟨Y, e, hi⟩ := ones_im s hs (K := k) hw.1 hX (by omega)
      have : Im (Den s n) X Y := hi.congr fun i j => (hd i j).symm
      rw [e]
      exact ⟨⟨Y, rfl, this⟩, ⟨false, Y, rfl, this⟩⟩
    · obtain ⟨Y, e, hi⟩ := cat_loop (K := k) (by omega) hE n.f_Kids k 0 X rfl (by omega) hX
      obtain ⟨o, e0, hi0⟩ := cat0_loop (K := k) (X := X) (by omega) (by omega) (by rw [hX]; exact hE) (by rw [hX]; exact hE0) n.f_Kids k 0 rfl (by omega)
      rw [show (0 : Int) = ((0 : Nat) : Int) from rfl, e, e0]
      refine ⟨⟨Y, rfl, hi.congr fun i j => (hd i j).symm⟩, ?_⟩
      cases o with
      | inl _ => exact ⟨true, [], rfl, hi0.congr fun i j => (hd i j).symm⟩
      | inr Z => exact ⟨false, Z, rfl, hi0.congr fun i j => (hd i j).symm⟩
    · obtain ⟨Y, e, hl, hi⟩ := alt_loop (K := k) (X := X) (by omega) (by omega) (by omega) (by rw [hX]; exact hE) n.f_Kids k 0 (List.replicate X.length false) rfl (by omega) (by simp)
      obtain ⟨Z, e0, hl0, hi0⟩ := alt0_loop (K := k) (X := X) (by omega) (by omega) (by omega) (by rw [hX]; exact hE0) n.f_Kids k 0 (List.replicate X.length false) rfl (by omega) (by simp)
      rw [if_pos ⟨by omega, by omega, by rw [hL]; omega⟩, if_pos ⟨by omega, by omega, by rw [hL]; omega⟩, Int.toNat_natCast, show (0 : Int) = ((0 : Nat) : Int) from rfl, e, e0]
      refine ⟨⟨Y, rfl, hl, fun j => ?_⟩, ⟨false, Z, rfl, hl0, fun j => ?_⟩⟩
      · rw [hi]
        simp only [hd]
        exact ⟨fun h => h.resolve_left (hrep j), .inr⟩
      · show Mem Z j ↔ _
        rw [hi0]
        simp only [hd]
        exact ⟨fun h => h.resolve_left (hrep j), .inr⟩
    all_goals try (obtain ⟨x, ex⟩ := one_kid g)
    all_goals try (have hx : x ∈ n.f_Kids := by rw [ex]; exact .head _)
    all_goals try (have hi0 : idx n.f_Kids 0 = some x := by rw [ex]; rfl)
    all_goals try (have hone : ∀ i j, DenC s n.f_Kids i j ↔ Den s x i j := by rw [ex]; exact denC_one s x)
    · obtain ⟨Y, e, hi⟩ := hA x hx X hX
      have : Im (Den s n) X Y := hi.congr fun i j => ((hd i j).trans (rt_congr hone i j)).symm
      rw [hi0]
      simp only [Option.bind_some]
      rw [e]
      exact ⟨⟨Y, rfl, this⟩, ⟨false, Y, rfl, this⟩⟩
    · have hcp : ∀ i j, cp (Den s x) (RT (Den s x)) i j ↔ Den s n i j := fun i j => by
        rw [hd]
        unfold cp
        constructor
        · rintro ⟨m, a, b⟩; exact ⟨m, (hone _ _).2 a, (rt_congr hone _ _).2 b⟩
        · rintro ⟨m, a, b⟩; exact ⟨m, (hone _ _).1 a, (rt_congr hone _ _).1 b⟩
      obtain ⟨Y, e, hi⟩ := hE x hx X hX
      obtain ⟨W, e1, hi1⟩ := hA x hx Y (hi.1.trans hX)
      obtain ⟨q, l, e2, hi2⟩ := hE0 x hx X hX
      rw [hi0]
      simp only [Option.bind_some]
      rw [e, e2]
      simp only [Option.bind_some]
      rw [e1]
      refine ⟨⟨W, rfl, (hi.comp hi1).congr hcp⟩, ?_⟩
      cases q with
      | true =>
        simp only [if_true] at hi2 ⊢
        obtain ⟨V, e3, hi3⟩ := hA x hx X hX
        rw [e3]
        exact ⟨false, V, rfl, (hi2.comp hi3).congr hcp⟩
      | false =>
        simp only [Bool.false_eq_true, if_false] at hi2 ⊢
        obtain ⟨V, e3, hi3⟩ := hA x hx l (hi2.1.trans hX)
        rw [e3]
        exact ⟨false, V, rfl, (hi2.comp hi3).congr hcp⟩
    · obtain ⟨Y, e, hi⟩ := hE x hx X hX
      obtain ⟨q, l, e2, hi2⟩ := hE0 x hx X hX
      have hor : ∀ Z, Im (Den s x) X Z → Im (Den s n) X (orL X Z) := fun Z hZ => by
        refine ⟨orL_len _ _, fun j => ?_⟩
        rw [mem_or hZ.1.symm, hZ.2]
        simp only [hd, hone]
        constructor
        · rintro (a | ⟨i, a, b⟩)
          · exact ⟨j, a, .inl rfl⟩
          · exact ⟨i, a, .inr b⟩
        · rintro ⟨i, a, rfl | b⟩
          · exact .inl a
          · exact .inr ⟨i, a, b⟩
      rw [clone_f (by omega), hi0]
      simp only [Option.bind_some]
      rw [e, e2]
      simp only [Option.bind_some]
      rw [with2_f hi.1.symm (by omega) (by omega), Option.bind_some, if_pos (orL_len _ _)]
      refine ⟨⟨_, rfl, hor Y hi⟩, ?_⟩
      cases q with
      | true =>
        simp only [if_true] at hi2 ⊢
        rw [with4_f rfl (by omega) (by omega), Option.bind_some, if_pos (orL_len _ _)]
        exact ⟨false, _, rfl, hor X hi2⟩
      | false =>
        simp only [Bool.false_eq_true, if_false] at hi2 ⊢
        rw [with2_f hi2.1.symm (by omega) (by omega), Option.bind_some, if_pos (orL_len _ _)]
        exact ⟨false, _, rfl, hor l hi2⟩
    · obtain ⟨Y, e, hi⟩ := hE x hx X hX
      obtain ⟨q, l, e2, hi2⟩ := hE0 x hx X hX
      have hc : ∀ i j, Den s x i j ↔ Den s n i j := fun i j => ((hd i j).trans (hone i j)).symm
      rw [hi0]
      simp only [Option.bind_some]
      rw [e, e2]
      simp only [Option.bind_some]
      refine ⟨⟨Y, rfl, hi.congr hc⟩, ?_⟩
      cases q with
      | true => exact ⟨true, [], rfl, hi2.congr hc⟩
      | false => exact ⟨false, l, rfl, hi2.congr hc⟩
    · obtain ⟨Y, e, hi⟩ := only_im s hs (K := k) (p := 0) hX (by omega)
      rw [show (0 : Int) = ((0 : Nat) : Int) from rfl, e]
      exact ⟨⟨Y, rfl, hi.congr fun i j => (hd i j).symm⟩, ⟨false, Y, rfl, hi.congr fun i j => (hd i j).symm⟩⟩
    · obtain ⟨Y, e, hi⟩ := only_im s hs (K := k) (p := s.length) hX (by omega)
      rw [e]
      exact ⟨⟨Y, rfl, hi.congr fun i j => (hd i j).symm⟩, ⟨false, Y, rfl, hi.congr fun i j => (hd i j).symm⟩⟩
end
end Go.Proofs.YteddmdkbeednmaaDoor.Dn
