/- One way behind the other: it finds a way just if there is one. -/
import Derived.Test.YteddmdkbeednmaaDoorK33DAVQF
namespace Go.Proofs.YteddmdkbeednmaaDoor
open Go Go.AM
set_option linter.unusedVariables false
set_option linter.unusedSimpArgs false
set_option maxRecDepth 100000
namespace Pk
def eps (m i : Nat) (x : Ins) (a : Int) : List Int :=
  if x.f_Op = 0 then [] else if x.f_Op = 1 then [x.f_X, x.f_Y] else if x.f_Op = 2 then [x.f_X] else if x.f_Op = 3 then [a + 1]
  else if x.f_Op = 4 then (if i = 0 then [a + 1] else []) else if x.f_Op = 5 then (if i = m then [a + 1] else []) else []
theorem act_eps (m i : Nat) (x : Ins) (a : Int) (k : Kp) : match act m i x a k with
    | .stop => eps m i x a = [] ∧ x.f_Op ≠ 0 ∧ ¬ (x.f_Op = 6 ∧ i = m)
    | .go b _ => eps m i x a = [b] ∧ x.f_Op ≠ 0 ∧ ¬ (x.f_Op = 6 ∧ i = m)
    | .fork u v => eps m i x a = [u, v] ∧ x.f_Op ≠ 0 ∧ ¬ (x.f_Op = 6 ∧ i = m)
    | .eat => eps m i x a = [] ∧ x.f_Op = 0 ∧ ¬ (x.f_Op = 6 ∧ i = m)
    | .hit => x.f_Op = 6 ∧ i = m := by
  unfold act eps
  by_cases h0 : x.f_Op = 0
  · simp [h0]
  by_cases h1 : x.f_Op = 1
  · simp [h1]
  by_cases h2 : x.f_Op = 2
  · simp [h2]
  by_cases h3 : x.f_Op = 3
  · simp [h3]
  by_cases h4 : x.f_Op = 4
  · by_cases hi : i = 0 <;> simp [h4, hi]
  by_cases h5 : x.f_Op = 5
  · by_cases hi : i = m <;> simp [h5, hi]
  by_cases h6 : x.f_Op = 6
  · by_cases hi : i = m <;> simp [h6, hi]
  · simp [h0, h1, h2, h3, h4, h5, h6]
variable (p : List Ins) (m : Nat) (has : Nat → Ins → Bool)
inductive Hit : Nat → Nat → Int → Prop
  | done {i : Nat} {a : Int} {x : Ins} : idx p a = some x → x.f_Op = 6 → i = m → Hit 0 i a
  | eps {n i : Nat} {a b : Int} {x : Ins} : idx p a = some x → b ∈ eps m i x a → Hit n i b → Hit (n + 1) i a
  | eat {n i : Nat} {a : Int} {x : Ins} : idx p a = some x → x.f_Op = 0 → has i x = true → i < m → Hit n (i + 1) (a + 1) → Hit (n + 1) i a
variable {p m has}
theorem Hit.inv {n i : Nat} {a : Int} {x : Ins} (h : Hit p m has n i a) (hx : idx p a = some x) :
    (x.f_Op = 6 ∧ i = m) ∨ (∃ n' b, n = n' + 1 ∧ b ∈ Pk.eps m i x a ∧ Hit p m has n' i b) ∨ (∃ n', n = n' + 1 ∧ x.f_Op = 0 ∧ has i x = true ∧ i < m ∧ Hit p m has n' (i + 1) (a + 1)) := by
  cases h with
  | done h1 h2 h3 => rw [hx] at h1; injection h1 with h1; subst h1; exact .inl ⟨h2, h3⟩
  | eps h1 h2 h3 => rw [hx] at h1; injection h1 with h1; subst h1; exact .inr (.inl ⟨_, _, rfl, h2, h3⟩)
  | eat h1 h2 h3 h4 h5 => rw [hx] at h1; injection h1 with h1; subst h1; exact .inr (.inr ⟨_, rfl, h2, h3, h4, h5⟩)
theorem D_lens : ∀ {f i a k M Bs r M' Bs'}, D p m has f i a k M Bs = some (r, M', Bs') → Bs'.length = Bs.length := by
  intro f
  induction f with
  | zero => intro i a k M Bs r M' Bs' h; cases h
  | succ f ih =>
    intro i a k M Bs r M' Bs' h
    unfold D at h
    cases hx : idx p a with
    | none => rw [hx] at h; cases h; rfl
    | some x =>
      rw [hx] at h
      dsimp only at h
      split at h
      · cases h; rfl
      · cases ha : act m i x a k with
        | stop => rw [ha] at h; cases h; rfl
        | hit => rw [ha] at h; cases h; rfl
        | go b k' => rw [ha] at h; exact ih h
        | fork u v =>
          rw [ha] at h
          obtain ⟨⟨q1, q2, q3⟩, hq, h1⟩ := bind_some h
          dsimp only at h1
          have := ih hq
          cases q1 with
          | some κ => cases h1; exact this
          | none => exact (ih h1).trans this
        | eat =>
          rw [ha] at h
          cases Bs with
          | nil => cases h; rfl
          | cons B Bs2 =>
            dsimp only at h
            split at h
            · obtain ⟨⟨q1, q2, q3⟩, hq, h1⟩ := bind_some h
              dsimp only at h1
              cases h1
              simp [ih hq]
            · cases h; rfl
theorem D_some : ∀ {f i a k M Bs κ q}, D p m has f i a k M Bs = some (some κ, q) → i + Bs.length = m → ∃ n, Hit p m has n i a := by
  intro f
  induction f with
  | zero => intro i a k M Bs κ q h; cases h
  | succ f ih =>
    intro i a k M Bs κ q h hm
    unfold D at h
    cases hx : idx p a with
    | none => rw [hx] at h; cases h
    | some x =>
      rw [hx] at h
      dsimp only at h
      split at h
      · cases h
      · have he := act_eps m i x a k
        cases ha : act m i x a k with
        | stop => rw [ha] at h; cases h
        | hit => rw [ha] at he; exact ⟨0, .done hx he.1 he.2⟩
        | go b k' =>
          rw [ha] at h he
          obtain ⟨n, g⟩ := ih h hm
          exact ⟨n + 1, .eps hx (by rw [he.1]; simp) g⟩
        | fork u v =>
          rw [ha] at h he
          obtain ⟨⟨q1, q2, q3⟩, hq, h1⟩ := bind_some h
          dsimp only at h1
          cases q1 with
          | some κ' =>
            obtain ⟨n, g⟩ := ih hq hm
            exact ⟨n + 1, .eps hx (by rw [he.1]; simp) g⟩
          | none =>
            dsimp only at h1
            have hl : q3.length = Bs.length := D_lens hq
            obtain ⟨n, g⟩ := ih h1 (by omega)
            exact ⟨n + 1, .eps hx (by rw [he.1]; simp) g⟩
        | eat =>
          rw [ha] at h he
          cases Bs with
          | nil => cases h
          | cons B Bs2 =>
            dsimp only at h
            split at h
            · rename_i hh
              obtain ⟨⟨q1, q2, q3⟩, hq, h1⟩ := bind_some h
              dsimp only at h1
              cases h1
              simp only [List.length_cons] at hm
              obtain ⟨n, g⟩ := ih hq (by omega)
              exact ⟨n + 1, .eat hx he.2.1 hh (by omega) g⟩
            · cases h
def V : List Mk → Nat → Nat → Int → Prop
  | [], _, _, _ => False
  | M :: L, i, j, a => (j = i ∧ seen M a = true) ∨ V L (i + 1) j a
section
variable (p m has)
def In (W : Nat → Int → Prop) (j : Nat) (b : Int) : Prop := ∀ y, idx p b = some y → W j b
def Ok (W : Nat → Int → Prop) (j : Nat) (b : Int) (y : Ins) : Prop := ¬ (y.f_Op = 6 ∧ j = m) ∧ (∀ c ∈ Pk.eps m j y b, In p W j c) ∧ (y.f_Op = 0 → has j y = true → j < m → In p W (j + 1) (b + 1))
def New (W W' : Nat → Int → Prop) : Prop := ∀ j b y, idx p b = some y → W' j b → W j b ∨ Ok p m has W' j b y
end
def Le (W W' : Nat → Int → Prop) : Prop := ∀ j b, W j b → W' j b
theorem In.mono {W W' : Nat → Int → Prop} (h : Le W W') {j b} (g : In p W j b) : In p W' j b := fun y hy => h _ _ (g y hy)
theorem Ok.mono {W W' : Nat → Int → Prop} (h : Le W W') {j b y} (g : Ok p m has W j b y) : Ok p m has W' j b y := ⟨g.1, fun c hc => (g.2.1 c hc).mono h, fun a b c => (g.2.2 a b c).mono h⟩
theorem New.trans {W W1 W2 : Nat → Int → Prop} (h1 : New p m has W W1) (h2 : New p m has W1 W2) (hl : Le W1 W2) : New p m has W W2 := fun j b y hy hw => by
  rcases h2 j b y hy hw with h | h
  · rcases h1 j b y hy h with g | g
    · exact .inl g
    · exact .inr (g.mono hl)
  · exact .inr h
theorem idx_pos {α : Type} {l : List α} {a : Int} {x : α} (h : idx l a = some x) : 0 ≤ a := by
  unfold idx at h
  split at h
  · assumption
  · cases h
theorem seen_mark {M : Mk} {a b : Int} : seen (mark M a) b = true ↔ seen M b = true ∨ b.toNat = a.toNat := by
  unfold seen mark
  by_cases h : b.toNat = a.toNat
  · rw [h]
    simp only [or_true, iff_true]
    rw [List.getD_eq_getElem?_getD, List.getElem?_set]
    simp
    split <;> rfl
  · rw [List.getD_eq_getElem?_getD, List.getD_eq_getElem?_getD, List.getElem?_set]
    have : ¬ a.toNat = b.toNat := fun e => h e.symm
    simp [h, this]
theorem Le.mark {M : Mk} {a : Int} {L : List Mk} {i : Nat} : Le (V (M :: L) i) (V (mark M a :: L) i) := fun j b h => by
  rcases h with ⟨h1, h2⟩ | h
  · exact .inl ⟨h1, seen_mark.2 (.inl h2)⟩
  · exact .inr h
theorem V_mark {M : Mk} {a b : Int} {L : List Mk} {i j : Nat} {x y : Ins} (hx : idx p a = some x) (hy : idx p b = some y) (h : V (mark M a :: L) i j b) : V (M :: L) i j b ∨ (j = i ∧ b = a ∧ y = x) := by
  rcases h with ⟨h1, h2⟩ | h
  · rcases seen_mark.1 h2 with g | g
    · exact .inl (.inl ⟨h1, g⟩)
    · have e : b = a := by have := idx_pos hx; have := idx_pos hy; omega
      subst e
      rw [hx] at hy
      injection hy with hy
      exact .inr ⟨h1, rfl, hy.symm⟩
  · exact .inl (.inr h)
theorem New.mark {M : Mk} {a : Int} {L : List Mk} {i : Nat} {x : Ins} {W : Nat → Int → Prop} (hx : idx p a = some x) (h : New p m has (V (mark M a :: L) i) W) (hok : Ok p m has W i a x) : New p m has (V (M :: L) i) W := fun j b y hy hw => by
  rcases h j b y hy hw with g | g
  · rcases V_mark hx hy g with e | ⟨rfl, rfl, rfl⟩
    · exact .inl e
    · exact .inr hok
  · exact .inr g
theorem New.refl (W : Nat → Int → Prop) : New p m has W W := fun _ _ _ _ h => .inl h
theorem V_self {M : Mk} {a : Int} {L : List Mk} {i : Nat} : V (mark M a :: L) i i a := .inl ⟨rfl, seen_mark.2 (.inr rfl)⟩
theorem D_none : ∀ {f i a k M Bs M' Bs'}, D p m has f i a k M Bs = some (none, M', Bs') → i + Bs.length = m →
    Le (V (M :: Bs) i) (V (M' :: Bs') i) ∧ New p m has (V (M :: Bs) i) (V (M' :: Bs') i) ∧ In p (V (M' :: Bs') i) i a := by
  intro f
  induction f with
  | zero => intro i a k M Bs M' Bs' h; cases h
  | succ f ih =>
    intro i a k M Bs M' Bs' h hm
    unfold D at h
    cases hx : idx p a with
    | none =>
      rw [hx] at h
      cases h
      exact ⟨fun _ _ h => h, .refl _, fun y hy => by rw [hx] at hy; cases hy⟩
    | some x =>
      rw [hx] at h
      dsimp only at h
      split at h
      · rename_i hs
        cases h
        exact ⟨fun _ _ h => h, .refl _, fun y hy => .inl ⟨rfl, hs⟩⟩
      · have he := act_eps m i x a k
        cases ha : act m i x a k with
        | stop =>
          rw [ha] at h he
          cases h
          refine ⟨.mark, .mark hx (.refl _) ⟨he.2.2, fun c hc => ?_, fun h0 => absurd h0 he.2.1⟩, fun y hy => V_self⟩
          rw [he.1] at hc; cases hc
        | hit => rw [ha] at h; cases h
        | go b k' =>
          rw [ha] at h he
          obtain ⟨h1, h2, h3⟩ := ih h hm
          have hl := fun j b (g : V (M :: Bs) i j b) => h1 j b (Le.mark (a := a) j b g)
          refine ⟨hl, .mark hx h2 ⟨he.2.2, fun c hc => ?_, fun h0 => absurd h0 he.2.1⟩, fun y hy => h1 _ _ V_self⟩
          rw [he.1] at hc
          rw [List.mem_singleton.1 hc]; exact h3
        | fork u v =>
          rw [ha] at h he
          obtain ⟨⟨q1, q2, q3⟩, hq, h1⟩ := bind_some h
          dsimp only at h1
          cases q1 with
          | some κ => cases h1
          | none =>
            dsimp only at h1
            obtain ⟨a1, a2, a3⟩ := ih hq hm
            obtain ⟨b1, b2, b3⟩ := ih h1 (by have := D_lens hq; omega)
            have hl := fun j b (g : V (mark M a :: Bs) i j b) => b1 j b (a1 j b g)
            refine ⟨fun j b g => hl j b (Le.mark j b g), .mark hx (a2.trans b2 b1) ⟨he.2.2, fun c hc => ?_, fun h0 => absurd h0 he.2.1⟩, fun y hy => hl _ _ V_self⟩
            rw [he.1] at hc
            rcases List.mem_cons.1 hc with rfl | hc
            · exact a3.mono b1
            · rw [List.mem_singleton.1 hc]; exact b3
        | eat =>
          rw [ha] at h he
          have hok : ∀ W : Nat → Int → Prop, (has i x = true → i < m → In p W (i + 1) (a + 1)) → Ok p m has W i a x := fun W g => ⟨he.2.2, fun c hc => (by rw [he.1] at hc; cases hc), fun _ => g⟩
          cases Bs with
          | nil =>
            cases h
            exact ⟨.mark, .mark hx (.refl _) (hok _ fun _ h => by simp at hm; omega), fun y hy => V_self⟩
          | cons B Bs2 =>
            dsimp only at h
            split at h
            · obtain ⟨⟨q1, q2, q3⟩, hq, h1⟩ := bind_some h
              dsimp only at h1
              cases h1
              obtain ⟨a1, a2, a3⟩ := ih hq (by simp at hm; omega)
              have hl : Le (V (mark M a :: B :: Bs2) i) (V (mark M a :: q2 :: q3) i) := fun j b g => by
                rcases g with g | g
                · exact .inl g
                · exact .inr (a1 j b g)
              have hi : Le (V (q2 :: q3) (i + 1)) (V (mark M a :: q2 :: q3) i) := fun j b g => .inr g
              refine ⟨fun j b g => hl j b (Le.mark j b g), .mark hx (fun j b y hy hw => ?_) (hok _ fun _ _ => a3.mono hi), fun y hy => V_self⟩
              rcases hw with g | g
              · exact .inl (.inl g)
              · rcases a2 j b y hy g with e | e
                · exact .inl (.inr e)
                · exact .inr (e.mono hi)
            · rename_i hh
              cases h
              exact ⟨.mark, .mark hx (.refl _) (hok _ fun e => absurd e hh), fun y hy => V_self⟩
theorem V_none {n : Nat} : ∀ {L : List Mk} {i j : Nat} {a : Int}, (∀ M ∈ L, M = List.replicate n false) → 0 ≤ a → a < n → ¬ V L i j a
  | [], _, _, _, _, _, _, h => h.elim
  | M :: L, i, j, a, hL, h0, h1, h => by
    rcases h with ⟨_, h⟩ | h
    · rw [hL M (.head _)] at h
      unfold seen at h
      rw [List.getD_eq_getElem?_getD, List.getElem?_replicate, if_pos (by omega)] at h
      cases h
    · exact V_none (fun M hM => hL M (.tail _ hM)) h0 h1 h
theorem D_hit {f : Nat} {k : Kp} {r M1 BB} (h : D p m has f 0 0 k (List.replicate p.length false) (List.replicate m (List.replicate p.length false)) = some (r, M1, BB)) : r.isSome = true ↔ ∃ n, Hit p m has n 0 0 := by
  cases r with
  | some κ => exact ⟨fun _ => D_some h (by simp), fun _ => rfl⟩
  | none =>
    refine ⟨fun g => (by cases g), fun ⟨n, hn⟩ => ?_⟩
    exfalso
    obtain ⟨_, h2, h3⟩ := D_none h (by simp)
    have key : ∀ {n i a}, Hit p m has n i a → In p (V (M1 :: BB) 0) i a → False := by
      intro n i a hh
      have hok : ∀ {i a x}, idx p a = some x → In p (V (M1 :: BB) 0) i a → Ok p m has (V (M1 :: BB) 0) i a x := fun {i a x} hx hin => by
        have hb := Pk.idx_ok hx
        exact (h2 i a x hx (hin x hx)).resolve_left (V_none (n := p.length) (fun M hM => by
          rcases List.mem_cons.1 hM with e | e
          · exact e
          · exact (List.mem_replicate.1 e).2) hb.1 hb.2.1)
      induction hh with
      | done hx h6 hm => exact fun hin => (hok hx hin).1 ⟨h6, hm⟩
      | eps hx hb _ ih => exact fun hin => ih ((hok hx hin).2.1 _ hb)
      | eat hx h0 hhas hlt _ ih => exact fun hin => ih ((hok hx hin).2.2 h0 hhas hlt)
    exact key hn h3
end Pk
end Go.Proofs.YteddmdkbeednmaaDoor
