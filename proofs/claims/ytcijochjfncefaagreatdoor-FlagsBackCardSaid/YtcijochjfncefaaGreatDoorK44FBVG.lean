/- A part of a proof: FBVG. -/
import Derived.Test.YtcijochjfncefaaGreatDoorK44FBVF
namespace Go.Proofs.YtcijochjfncefaaGreatDoor
open Go Go.AM Go.ChangeShapes Go.ChangeAt Go.RowKit
set_option linter.unusedVariables false
set_option linter.unusedSimpArgs false
set_option maxRecDepth 100000
def tot : List Tx → Nat
  | [] => 0
  | x :: r => x.length + 1 + tot r
theorem newsS_len : ∀ (l acc : List Tx), (newsS l acc).2.length ≤ acc.length + l.length
  | [], acc => by simp [newsS]
  | x :: r, acc => by
    unfold newsS
    cases right x with
    | true => have := newsS_len r (acc ++ [x]); simp at this ⊢; omega
    | false => simp
theorem valS_cases (args : List Tx) (b : Tx) : (b ≠ [] ∧ valS args b = (b, 0, args)) ∨ (b = [] ∧ args = [] ∧ valS args b = ([], 16, [])) ∨ (b = [] ∧ ∃ x r, args = x :: r ∧ valS args b = (x, 0, r)) := by
  cases b with
  | nil => cases args with
    | nil => exact .inr (.inl ⟨rfl, rfl, rfl⟩)
    | cons x r => exact .inr (.inr ⟨rfl, x, r, rfl, rfl⟩)
  | cons c t => exact .inl ⟨by simp, rfl⟩
def Suf (a' a : List Tx) : Prop := a' = a ∨ ∃ x, a = x :: a'
theorem flagsS_sz (args : List Tx) : ∀ (t : Tx) (o : Op1), Suf (flagsS args o t).2.1 args ∧ (flagsS args o t).2.2.f_News.length + tot (flagsS args o t).2.1 ≤ o.f_News.length + t.length + 1 + tot args ∧ tot (flagsS args o t).2.1 ≤ tot args
  | [], o => ⟨.inl rfl, by simp [flagsS], Nat.le_refl _⟩
  | c :: t, o => by
    unfold flagsS
    split
    · unfold newsR
      rcases valS_cases args t with ⟨h1, h2⟩ | ⟨h1, h2, h3⟩ | ⟨h1, x, r, h2, h3⟩
      · rw [h2]
        have a1 := newsS_len (pieces t) o.f_News
        have a2 := (pieces_len t).1
        exact ⟨.inl rfl, by simp at a1 ⊢; omega, Nat.le_refl _⟩
      · rw [h3, h2]
        exact ⟨.inl rfl, by simp; omega, Nat.le_refl _⟩
      · rw [h3, h2]
        have a1 := newsS_len (pieces x) o.f_News
        have a2 := (pieces_len x).1
        exact ⟨.inr ⟨x, rfl⟩, by simp [tot] at a1 ⊢; omega, by simp [tot]⟩
    · split
      · unfold fileR
        rcases valS_cases args t with ⟨h1, h2⟩ | ⟨h1, h2, h3⟩ | ⟨h1, x, r, h2, h3⟩
        · rw [h2]
          refine ⟨?_, ?_, ?_⟩ <;> simp only [bne_self_eq_false, Bool.false_eq_true, if_false] <;> split
          · exact .inl rfl
          · exact .inl rfl
          · simp; omega
          · simp; omega
          · exact Nat.le_refl _
          · exact Nat.le_refl _
        · rw [h3, h2]
          exact ⟨.inl rfl, by simp; omega, Nat.le_refl _⟩
        · rw [h3, h2]
          refine ⟨?_, ?_, ?_⟩ <;> simp only [bne_self_eq_false, Bool.false_eq_true, if_false] <;> split
          · exact .inr ⟨x, rfl⟩
          · exact .inr ⟨x, rfl⟩
          · simp [tot]; omega
          · simp [tot]; omega
          · simp [tot]
          · simp [tot]
      · split
        · exact ⟨.inl rfl, by simp; omega, Nat.le_refl _⟩
        · rename_i o' h
          obtain ⟨g1, g2, g3, g4, _⟩ := setS_kept h
          obtain ⟨k1, k2, k3⟩ := flagsS_sz args t o'
          rw [g4] at k2
          exact ⟨k1, by simp; omega, k3⟩
theorem varR_len (o : Op1) (name value : Tx) : (varR o name value).2.f_Vars.length ≤ o.f_Vars.length + 1 := by
  unfold varR
  simp only
  repeat' split
  all_goals simp
theorem oneS_sz (args : List Tx) (o : Op1) (s : Tx) : Suf (oneS args o s).2.1 args ∧ (oneS args o s).2.2.f_News.length + tot (oneS args o s).2.1 ≤ o.f_News.length + tot (s :: args) ∧
    (oneS args o s).2.2.f_Goals.length + tot (oneS args o s).2.1 ≤ o.f_Goals.length + tot (s :: args) ∧ (oneS args o s).2.2.f_Vars.length + tot (oneS args o s).2.1 ≤ o.f_Vars.length + tot (s :: args) := by
  unfold oneS
  split
  · split
    · exact ⟨.inl rfl, by simp [tot], by simp [tot], by simp [tot]⟩
    · obtain ⟨k1, k2, k3⟩ := flagsS_kept args s.tail o
      obtain ⟨g1, g2, g3⟩ := flagsS_sz args s.tail o
      rw [k1, k3]
      rename_i hh ht
      have hl : s.tail.length + 1 = s.length := by
        cases s with
        | nil => simp at hh
        | cons c r => simp
      exact ⟨g1, by simp only [tot]; omega, by simp only [tot]; omega, by simp only [tot]; omega⟩
  · split
    · obtain ⟨q1, q2, q3, q4, q5, q6, q7, q8, q9⟩ := varR_kept o (s.takeWhile (· != 61)) (valueOf s)
      have := varR_len o (s.takeWhile (· != 61)) (valueOf s)
      exact ⟨.inl rfl, by rw [q7]; simp [tot], by rw [q8]; simp [tot], by simp only [tot]; omega⟩
    · split
      · exact ⟨.inl rfl, by simp [tot], by simp [tot]; omega, by simp [tot]⟩
      · exact ⟨.inl rfl, by simp [tot], by simp [tot], by simp [tot]⟩
structure Szs (args : List Tx) (o : Op1) : Prop where
  a : ∀ x ∈ args, okArg x
  n : o.f_News.length + tot args ≤ 1000000000
  g : o.f_Goals.length + tot args ≤ 1000000000
  v : o.f_Vars.length + tot args ≤ 1000000000
theorem Suf.mem {a' a : List Tx} (h : Suf a' a) {x : Tx} (hx : x ∈ a') : x ∈ a := by
  rcases h with rfl | ⟨y, rfl⟩
  · exact hx
  · exact List.mem_cons_of_mem _ hx
theorem Suf.len {a' a : List Tx} (h : Suf a' a) : a'.length ≤ a.length := by
  rcases h with rfl | ⟨y, rfl⟩
  · exact Nat.le_refl _
  · simp
theorem Szs.step {args : List Tx} {o : Op1} {s : Tx} (h : Szs (s :: args) o) : Szs (oneS args o s).2.1 (oneS args o s).2.2 := by
  obtain ⟨g1, g2, g3, g4⟩ := oneS_sz args o s
  exact ⟨fun x hx => h.a x (List.mem_cons_of_mem _ (g1.mem hx)), Nat.le_trans g2 h.n, Nat.le_trans g3 h.g, Nat.le_trans g4 h.v⟩
def endP (r : Sum ((List (List UInt8)) × Bool × Bool × Bool × Bool × Bool × Bool × (List (List UInt8)) × (List (List UInt8)) × (List UInt8) × Int × (List TR14V)) (T_flags_Options × Nat)) : Op1 × Nat :=
  match r with | .inl u => (⟨u.2.1, u.2.2.1, u.2.2.2.1, u.2.2.2.2.1, u.2.2.2.2.2.1, u.2.2.2.2.2.2.1, u.2.2.2.2.2.2.2.1, u.2.2.2.2.2.2.2.2.1, u.2.2.2.2.2.2.2.2.2.1, u.2.2.2.2.2.2.2.2.2.2.1, u.2.2.2.2.2.2.2.2.2.2.2⟩, 0) | .inr u => u
theorem parse_loop (k : Nat) (hk : 1000000 < k) : ∀ (n : Nat) (args : List Tx) (o : Op1) (fuel : Nat), args.length ≤ n → n < fuel → Szs args o →
    ∃ r, flags_Parse.l29 k fuel (nxS2 args).2.2 o.f_All o.f_Explain o.f_Ignore o.f_Keep o.f_Dry o.f_Touch o.f_News o.f_Goals o.f_File o.f_Nproc o.f_Vars (nxS2 args).1 (nxS2 args).2.1 = some r ∧ endP r = parseS (n + 1) args o
  | n, args, o, 0, _, h, _ => by omega
  | n, [], o, f + 1, _, _, _ => ⟨_, rfl, rfl⟩
  | 0, s :: r, o, f + 1, h, _, _ => by simp at h
  | n + 1, s :: r, o, f + 1, hl, hf, hs => by
    have ha : ∀ x ∈ r, x.length ≤ 900000 := fun x hx => (hs.a x (List.mem_cons_of_mem _ hx)).1
    have h1 := one_eq k hk r o s ha (hs.a s (.head _)) (by have := hs.n; omega) (by have := hs.g; omega) (by have := hs.v; omega)
    have hst := hs.step
    have hsf := (oneS_sz r o s).1.len
    unfold flags_Parse.l29 parseS
    simp only [nxS2, if_true]
    rw [h1, Option.bind_some]
    generalize oneS r o s = q at *
    have e0 : (!((flatO q).1 == 0)) = (q.1 != 0) := rfl
    rw [e0]
    by_cases h : (q.1 != 0) = true
    · rw [if_pos h, if_pos h]
      exact ⟨_, rfl, rfl⟩
    · rw [if_neg h, if_neg h]
      have h2 := next_eq k q.2.1 q.2.2
      obtain ⟨r', h3, h4⟩ := parse_loop k hk n q.2.1 q.2.2 f (by simp at hl; omega) (by omega) hst
      have h2' : flags_reader_next_m0.f k (flatO q).2.1 (flatO q).2.2.1 (flatO q).2.2.2.1 (flatO q).2.2.2.2.1 (flatO q).2.2.2.2.2.1 (flatO q).2.2.2.2.2.2.1 (flatO q).2.2.2.2.2.2.2.1 (flatO q).2.2.2.2.2.2.2.2.1 (flatO q).2.2.2.2.2.2.2.2.2.1 (flatO q).2.2.2.2.2.2.2.2.2.2.1 (flatO q).2.2.2.2.2.2.2.2.2.2.2.1 (flatO q).2.2.2.2.2.2.2.2.2.2.2.2 = some (nxS2 q.2.1) := h2
      rw [h2', Option.bind_some]
      exact ⟨r', h3, h4⟩
def parse (args : List Tx) : Op1 × Nat := parseS (args.length + 1) args initO
theorem Parse_eq (k : Nat) (hk : 1000000 < k) (args : List Tx) (hl : args.length < k) (ha : ∀ x ∈ args, okArg x) (ht : tot args ≤ 1000000000) : flags_Parse.f k args = some (parse args) := by
  unfold flags_Parse.f
  have h1 : flags_reader_next_m0.f k args false false false false false false [] [] [109, 107, 102, 105, 108, 101] 1 [] = some (nxS2 args) := next_eq k args initO
  obtain ⟨r, h2, h3⟩ := parse_loop k hk args.length args initO k (Nat.le_refl _) hl ⟨ha, by simpa [initO] using ht, by simpa [initO] using ht, by simpa [initO] using ht⟩
  have h2' : flags_Parse.l29 k k (nxS2 args).2.2 false false false false false false [] [] [109, 107, 102, 105, 108, 101] 1 [] (nxS2 args).1 (nxS2 args).2.1 = some r := h2
  rw [h1, Option.bind_some, h2', Option.bind_some]
  unfold parse
  rw [← h3]
  cases r <;> rfl
theorem newsS_ok : ∀ (l acc : List Tx), (newsS l acc).1 = 0 → (newsS l acc).2 = acc ++ l ∧ ∀ x ∈ l, right x = true
  | [], acc, _ => ⟨by simp [newsS], fun x hx => by cases hx⟩
  | x :: r, acc, h => by
    unfold newsS at h ⊢
    cases hx : right x with
    | true =>
      rw [hx] at h
      obtain ⟨h1, h2⟩ := newsS_ok r (acc ++ [x]) h
      refine ⟨by simpa using h1, fun y hy => ?_⟩
      rcases List.mem_cons.1 hy with rfl | hy
      · exact hx
      · exact h2 y hy
    | false => rw [hx] at h; cases h
theorem vs1_app (l : List Vr) (v : Vr) : ∀ n, vs1 (l ++ [v]) n = (vs1 l n).bind fun m => vs1 [v] m := by
  induction l with
  | nil => intro n; rfl
  | cons x l ih =>
    intro n
    have e : ∀ (r : List Vr) n, vs1 (x :: r) n = if badV x then none else (if x.fN == nproc then (if num x.f_Words == 0 then none else vs1 r (num x.f_Words)) else vs1 r n) := fun r n => rfl
    rw [List.cons_append, e, e, ih, ih]
    repeat' split
    all_goals rfl
theorem rightO_set {c : UInt8} {o o' : Op1} (h : setS c o = some o') : rightO o' = rightO o := by
  obtain ⟨g1, g2, g3, g4, g5⟩ := setS_kept h
  unfold rightO varsOk
  rw [g1, g2, g3, g4, g5]
theorem rightO_parts {o : Op1} (h : rightO o = true) : right o.f_File = true ∧ (o.f_News.any badN) = false ∧ (o.f_Goals.any fun x => !plainG x) = false ∧ vs1 o.f_Vars 1 = some o.f_Nproc := by
  unfold rightO at h
  simp only [Bool.and_eq_true, Bool.not_eq_true'] at h
  obtain ⟨h1, h2, h3, h4⟩ := h
  refine ⟨h1, h2, h3, ?_⟩
  unfold varsOk at h4
  split at h4
  · cases h4
  · rename_i m hm
    rw [hm]
    have : o.f_Nproc = m := by simpa using h4
    rw [this]
theorem rightO_mk {o : Op1} (h1 : right o.f_File = true) (h2 : (o.f_News.any badN) = false) (h3 : (o.f_Goals.any fun x => !plainG x) = false) (h4 : vs1 o.f_Vars 1 = some o.f_Nproc) : rightO o = true := by
  unfold rightO varsOk
  rw [h1, h2, h3, h4]; simp
theorem flagsS_right (args : List Tx) : ∀ (t : Tx) (o : Op1), rightO o = true → (flagsS args o t).1 = 0 → rightO (flagsS args o t).2.2 = true
  | [], o, h, _ => h
  | c :: t, o, h, h0 => by
    obtain ⟨r1, r2, r3, r4⟩ := rightO_parts h
    unfold flagsS at h0 ⊢
    by_cases c1 : (c == 119) = true
    · rw [if_pos c1] at h0 ⊢
      unfold newsR at h0 ⊢
      by_cases c2 : ((valS args t).2.1 != 0) = true
      · rw [if_pos c2] at h0 ⊢; exact h
      · rw [if_neg c2] at h0 ⊢
        obtain ⟨g1, g2⟩ := newsS_ok _ _ h0
        refine rightO_mk r1 ?_ r3 r4
        show ((newsS (pieces (valS args t).1) o.f_News).2.any badN) = false
        rw [g1, List.any_append, r2, Bool.false_or, List.any_eq_false]
        intro x hx
        unfold badN
        rw [g2 x hx, decide_eq_false ((pieces_len _).2 x hx).2]; decide
    · rw [if_neg c1] at h0 ⊢
      by_cases c2 : (c == 102) = true
      · rw [if_pos c2] at h0 ⊢
        unfold fileR at h0 ⊢
        by_cases c3 : ((valS args t).2.1 != 0) = true
        · rw [if_pos c3] at h0 ⊢; exact h
        · rw [if_neg c3] at h0 ⊢
          by_cases c4 : right (valS args t).1 = true
          · rw [if_pos c4] at h0 ⊢; exact rightO_mk c4 r2 r3 r4
          · rw [if_neg c4] at h0 ⊢; exact h
      · rw [if_neg c2] at h0 ⊢
        split at h0
        · cases h0
        · rename_i o' hs
          exact flagsS_right args t o' ((rightO_set hs).trans h) h0
theorem varR_right {o : Op1} {name value : Tx} (h : rightO o = true) (h0 : (varR o name value).1 = 0) : rightO (varR o name value).2 = true := by
  obtain ⟨r1, r2, r3, r4⟩ := rightO_parts h
  unfold varR at h0 ⊢
  simp only at h0 ⊢
  generalize splN (run value [] 0 []) = r at *
  by_cases c1 : (r.2 != 0) = true
  · rw [if_pos c1] at h0 ⊢; exact h
  rw [if_neg c1] at h0 ⊢
  by_cases c2 : (chk ⟨name, r.1, 2, false⟩ != 0) = true
  · rw [if_pos c2] at h0 ⊢; exact h
  rw [if_neg c2] at h0 ⊢
  have hb : badV ⟨name, r.1, 2, false⟩ = false := by
    unfold badV
    rw [show (chk ⟨name, r.1, 2, false⟩ != 0) = false from Bool.eq_false_iff.2 c2]; rfl
  have e : ∀ m, vs1 [(⟨name, r.1, 2, false⟩ : Vr)] m = if badV ⟨name, r.1, 2, false⟩ then none else (if name == nproc then (if num r.1 == 0 then none else some (num r.1)) else some m) := fun m => rfl
  by_cases c3 : (name == nproc) = true
  · rw [if_pos c3] at h0 ⊢
    by_cases c4 : (num r.1 == 0) = true
    · rw [if_pos c4] at h0 ⊢; exact h
    · rw [if_neg c4] at h0 ⊢
      refine rightO_mk r1 r2 r3 ?_
      show vs1 (o.f_Vars ++ [⟨name, r.1, 2, false⟩]) 1 = some (num r.1)
      rw [vs1_app, r4, Option.bind_some, e, hb, if_neg (by decide), if_pos c3, if_neg c4]
  · rw [if_neg c3] at h0 ⊢
    refine rightO_mk r1 r2 r3 ?_
    show vs1 (o.f_Vars ++ [⟨name, r.1, 2, false⟩]) 1 = some o.f_Nproc
    rw [vs1_app, r4, Option.bind_some, e, hb, if_neg (by decide), if_neg c3]
theorem oneS_right {args : List Tx} {o : Op1} {s : Tx} (h : rightO o = true) (h0 : (oneS args o s).1 = 0) : rightO (oneS args o s).2.2 = true := by
  obtain ⟨r1, r2, r3, r4⟩ := rightO_parts h
  unfold oneS at h0 ⊢
  by_cases c1 : (s.head? == some 45) = true
  · rw [if_pos c1] at h0 ⊢
    by_cases c2 : (s.tail == []) = true
    · rw [if_pos c2] at h0 ⊢; exact h
    · rw [if_neg c2] at h0 ⊢; exact flagsS_right args s.tail o h h0
  · rw [if_neg c1] at h0 ⊢
    by_cases c2 : asg s = true
    · rw [if_pos c2] at h0 ⊢; exact varR_right h h0
    · rw [if_neg c2] at h0 ⊢
      by_cases c3 : right s = true
      · rw [if_pos c3] at h0 ⊢
        refine rightO_mk r1 r2 ?_ r4
        show ((o.f_Goals ++ [s]).any fun x => !plainG x) = false
        have hp : plainG s = true := by
          unfold plainG
          rw [c3, Bool.eq_false_iff.2 c1, Bool.eq_false_iff.2 c2]; rfl
        rw [List.any_append, r3]
        simp [hp]
      · rw [if_neg c3] at h0 ⊢; exact h
theorem parseS_right : ∀ (n : Nat) (args : List Tx) (o : Op1), rightO o = true → (parseS n args o).2 = 0 → rightO (parseS n args o).1 = true ∧ (parseS n args o).1.f_News.length ≤ o.f_News.length + tot args ∧ (parseS n args o).1.f_Goals.length ≤ o.f_Goals.length + tot args ∧ (parseS n args o).1.f_Vars.length ≤ o.f_Vars.length + tot args
  | 0, args, o, h, _ => ⟨h, Nat.le_add_right _ _, Nat.le_add_right _ _, Nat.le_add_right _ _⟩
  | n + 1, [], o, h, _ => ⟨h, Nat.le_add_right _ _, Nat.le_add_right _ _, Nat.le_add_right _ _⟩
  | n + 1, s :: r, o, h, h0 => by
    unfold parseS at h0 ⊢
    by_cases c : ((oneS r o s).1 != 0) = true
    · rw [if_pos c] at h0
      exact absurd h0 (by simpa using c)
    · rw [if_neg c] at h0 ⊢
      obtain ⟨g1, g2, g3, g4⟩ := oneS_sz r o s
      obtain ⟨k1, k2, k3, k4⟩ := parseS_right n _ _ (oneS_right h (by simpa using c)) h0
      exact ⟨k1, by omega, by omega, by omega⟩
theorem right_len {x : Tx} (h : right x = true) : x.length ≤ 40 := by
  unfold right at h
  simp only [Bool.and_eq_true, decide_eq_true_eq] at h
  exact h.1.2
theorem okNm_len {t : Tx} (h : okNm t = true) : t.length ≤ 12 ∧ t ≠ [] := by
  unfold okNm at h
  simp only [Bool.and_eq_true, decide_eq_true_eq] at h
  exact ⟨h.2.1, by simpa using h.1⟩
theorem chk_ok {v : Vr} (h : chk v = 0) : okNm v.fN = true ∧ v.f_Words.length ≤ 40 ∧ ∀ w ∈ v.f_Words, w.length ≤ 120 := by
  unfold chk at h
  split at h
  · cases h
  · rename_i h1
    split at h
    · cases h
    · split at h
      · cases h
      · rename_i h3
        split at h
        · cases h
        · rename_i h4
          refine ⟨by simpa using h1, by omega, fun w hw => ?_⟩
          unfold anyLong at h4
          rw [Bool.not_eq_true, List.any_eq_false] at h4
          have := h4 w hw
          simp at this; omega
theorem vs1_ok : ∀ (l : List Vr) (n m : Int), vs1 l n = some m → ∀ v ∈ l, badV v = false
  | [], _, _, _, v, hv => by cases hv
  | x :: l, n, m, h, v, hv => by
    have e : vs1 (x :: l) n = if badV x then none else (if x.fN == nproc then (if num x.f_Words == 0 then none else vs1 l (num x.f_Words)) else vs1 l n) := rfl
    rw [e] at h
    cases hb : badV x with
    | true => rw [hb] at h; cases h
    | false =>
      rw [hb] at h
      rcases List.mem_cons.1 hv with rfl | hv
      · exact hb
      · simp only [Bool.false_eq_true, if_false] at h
        split at h
        · split at h
          · cases h
          · exact vs1_ok l _ m h v hv
        · exact vs1_ok l _ m h v hv
theorem badV_ok {v : Vr} (h : badV v = false) : chk v = 0 ∧ v.f_Level = 2 ∧ v.f_Hidden = false := by
  unfold badV at h
  simp only [Bool.or_eq_false_iff] at h
  exact ⟨by simpa using h.1, by simpa using h.2.1, h.2.2⟩
theorem sm_of {o : Op1} (h : rightO o = true) (hn : o.f_News.length ≤ 10000) (hg : o.f_Goals.length ≤ 10000) (hv : o.f_Vars.length ≤ 10000) : SmO o := by
  obtain ⟨r1, r2, r3, r4⟩ := rightO_parts h
  refine ⟨hn, fun x hx => ?_, hg, fun x hx => ?_, by have := right_len r1; omega, hv, fun v hv => ?_⟩
  · have := List.any_eq_false.1 r2 x hx
    unfold badN at this
    simp only [Bool.or_eq_true, Bool.not_eq_true', not_or, Bool.not_eq_false] at this
    have := right_len this.1; omega
  · have := List.any_eq_false.1 r3 x hx
    unfold plainG at this
    simp only [Bool.not_eq_true', Bool.not_eq_false, Bool.and_eq_true] at this
    have := right_len this.1; omega
  · obtain ⟨q1, q2, q3⟩ := badV_ok (vs1_ok _ _ _ r4 v hv)
    obtain ⟨p1, p2, p3⟩ := chk_ok q1
    have := (okNm_len p1).1
    exact ⟨by omega, by omega, fun w hw => by have := p3 w hw; omega⟩
end Go.Proofs.YtcijochjfncefaaGreatDoor
