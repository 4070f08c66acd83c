/- Pieces as words: as the code has them. -/
import Derived.Test.YtldepagjdbcmgaaGreatDoorK23XWVS
namespace Go.Proofs.YtldepagjdbcmgaaGreatDoor.Ex
open Go Go.AM Go.ChangeShapes Go.ChangeAt Go.RowKit
set_option linter.unusedVariables false
set_option linter.unusedSimpArgs false
set_option maxRecDepth 100000
abbrev Pc := T_lex_Piece
abbrev Op := T_expand_Output
abbrev Mp := KV T_env_Var
def Words (m : Mp) : Prop := ∀ y ∈ m, ∀ w ∈ y.2.f_Words, w.length ≤ 120
def wordsOf (m : Mp) (n : Tx) : List Tx := ((mget n m).getD Ev.vr0).f_Words
theorem wordsOf_ok {m : Mp} (hg : Ev.Good m) (hw : Words m) (n : Tx) : (wordsOf m n).length ≤ 40 ∧ ∀ w ∈ wordsOf m n, w.length ≤ 120 := by
  unfold wordsOf
  cases h : mget n m with
  | none => exact ⟨by simp [Ev.vr0], fun w hx => by simp [Ev.vr0] at hx⟩
  | some v =>
    have := mget_mem h
    exact ⟨hg.words _ this, hw _ this⟩
def findS (out : List Op) (c : Tx) : Option Tx := (out.find? fun o => o.f_Command == c).map (·.f_Text)
theorem find_loop (k : Nat) (l : List Op) (c : Tx) (hl : l.length ≤ 100000) : ∀ (r : List Op) (fuel i : Nat), l.drop i = r → r.length < fuel →
    expand_Output_m0.l3 k l c fuel (i : Int) = some (match r.findIdx? (fun o => o.f_Command == c) with | none => .inl () | some j => .inr ((i + j : Nat) : Int))
  | _, 0, _, _, h => by omega
  | [], f + 1, i, hd, _ => by
    have := Ev.at_nil hd
    unfold expand_Output_m0.l3
    rw [if_neg (by simp; omega)]; rfl
  | o :: r, f + 1, i, hd, hf => by
    obtain ⟨g1, g2, g3⟩ := Ev.at_drop hd
    unfold expand_Output_m0.l3 expand_Find_1_m0.f
    rw [if_pos (by simp; exact g3), g1, Option.bind_some, Option.bind_some, Ev.wr1 (by omega), find_loop k l c hl r f (i + 1) g2 (by simpa using hf), List.findIdx?_cons]
    cases o.f_Command == c with
    | true => rfl
    | false =>
      rw [if_neg (by decide)]
      cases r.findIdx? (fun o => o.f_Command == c) with
      | none => rfl
      | some j => simp; omega
theorem Find_eq (k : Nat) (out : List Op) (c : Tx) (hl : out.length ≤ 100000) (hk : out.length < k) : expand_Find.f k c out = some ((findS out c).getD [], (findS out c).isSome) := by
  unfold expand_Find.f expand_Output_m0.f expand_Output_m0.j1 findS
  have e : expand_Output_m0.l3 k out c k 0 = _ := find_loop k out c hl out k 0 rfl hk
  rw [e, Option.bind_some]
  cases h : out.findIdx? (fun o => o.f_Command == c) with
  | none =>
    have : out.find? (fun o => o.f_Command == c) = none := by
      rw [List.find?_eq_none]
      intro o ho
      have := List.findIdx?_eq_none_iff.1 h o ho
      simpa using this
    rw [this]; rfl
  | some j =>
    obtain ⟨hj, hp, hlt⟩ := List.findIdx?_eq_some_iff_getElem.1 h
    have : out.find? (fun o => o.f_Command == c) = some out[j] := by
      rw [List.find?_eq_some_iff_getElem]
      exact ⟨hp, j, hj, rfl, fun i hi => by have := hlt i hi; simpa using this⟩
    rw [this]
    simp only [Option.bind_some, Nat.zero_add]
    rw [if_neg (by simp), idx_at rfl hj]; rfl
def pieceS (m : Mp) (out : List Op) (p : Pc) : List Tx × Nat :=
  if p.f_Kind = 0 ∨ p.f_Kind = 1 then ([p.f_Text], 0) else if p.f_Kind = 2 then (wordsOf m p.f_Text, 0) else if p.f_Kind = 3 then listS (wordsOf m p.f_Text) p.f_From p.f_To
  else if p.f_Kind = 4 then (if (findS out p.f_Text).isSome then (Qf.fld ((findS out p.f_Text).getD []) [] [], 0) else ([], 8)) else ([], 17)
def okP (p : Pc) : Prop := p.f_Text.length ≤ 1000 ∧ p.f_From.length ≤ 1000 ∧ p.f_To.length ≤ 1000
def okO (out : List Op) : Prop := out.length ≤ 1000 ∧ ∀ o ∈ out, o.f_Text.length ≤ 1000
theorem find_len {out : List Op} (ho : okO out) (c : Tx) : ((findS out c).getD []).length ≤ 1000 := by
  unfold findS
  cases h : out.find? (fun o => o.f_Command == c) with
  | none => simp
  | some o => exact ho.2 o (List.mem_of_find?_eq_some h)
theorem pc_eta (p : Pc) : T_lex_Piece.mk p.f_Kind p.f_Text p.f_From p.f_To = p := by cases p; rfl
theorem piece_eq (k : Nat) (hk : 4000 ≤ k) (m : Mp) (hg : Ev.Good m) (hw : Words m) (out : List Op) (ho : okO out) (p : Pc) (hp : okP p) : expand_expander_piece_m0.f k m out p = some (pieceS m out p) := by
  obtain ⟨w1, w2⟩ := wordsOf_ok hg hw p.f_Text
  have ew : expand_expander_words_m0.f k m out p.f_Text = some (wordsOf m p.f_Text) := by
    unfold expand_expander_words_m0.f
    rw [Ev.get_eq k m hg, Option.bind_some]; rfl
  have tail : ¬ (p.f_Kind = 0 ∨ p.f_Kind = 1) → expand_expander_piece_m0.j13 k m out p false = some (pieceS m out p) := fun h01 => by
    unfold expand_expander_piece_m0.j13 pieceS
    rw [if_neg (by decide), if_neg h01]
    by_cases h2 : p.f_Kind = 2
    · rw [if_pos (by simpa using h2), if_pos h2, ew]; rfl
    · rw [if_neg (by simpa using h2), if_neg h2]
      by_cases h3 : p.f_Kind = 3
      · rw [if_pos (by simpa using h3), if_pos h3, ew, Option.bind_some, subl_eq k hk _ _ _ (by omega) (fun w hx => by have := w2 w hx; omega) hp.2.1 hp.2.2]; rfl
      · rw [if_neg (by simpa using h3), if_neg h3]
        by_cases h4 : p.f_Kind = 4
        · have hl := find_len ho p.f_Text
          have ho1 := ho.1
          rw [if_pos (by simpa using h4), if_pos h4, Find_eq k out _ (by omega) (by omega), Option.bind_some]
          cases (findS out p.f_Text).isSome with
          | false => rfl
          | true => rw [if_neg (by simp), if_pos rfl, Qf.fields_eq k _ (by simp only; omega) (by simp only; omega)]; rfl
        · rw [if_neg (by simpa using h4), if_neg h4]; rfl
  have head : (p.f_Kind = 0 ∨ p.f_Kind = 1) → expand_expander_piece_m0.j13 k m out p true = some (pieceS m out p) := fun h01 => by
    unfold expand_expander_piece_m0.j13 pieceS
    rw [if_pos rfl, if_pos h01]
  unfold expand_expander_piece_m0.f
  by_cases h0 : p.f_Kind = 0
  · rw [if_pos (by simpa using h0), show (p.f_Kind == 0) = true by simpa using h0, head (.inl h0)]
  · rw [if_neg (by simpa using h0)]
    by_cases h1 : p.f_Kind = 1
    · rw [show (p.f_Kind == 1) = true by simpa using h1, head (.inr h1)]
    · rw [show (p.f_Kind == 1) = false by simpa using h1, tail (fun h => h.elim h0 h1)]
theorem fld_mem_len : ∀ (t : Tx) (out : List Tx) (w : Tx) (n : Nat), w.length + t.length ≤ n → (∀ x ∈ out, x.length ≤ n) → ∀ x ∈ Qf.fld t out w, x.length ≤ n
  | [], out, w, n, h, ho, x, hx => by
    unfold Qf.fld at hx
    split at hx
    · exact ho x hx
    · rcases List.mem_append.1 hx with hx | hx
      · exact ho x hx
      · rw [List.mem_singleton.1 hx]; simpa using h
  | c :: t, out, w, n, h, ho, x, hx => by
    simp only [List.length_cons] at h
    unfold Qf.fld at hx
    split at hx
    · refine fld_mem_len t _ _ n (by simp; omega) (fun y hy => ?_) x hx
      split at hy
      · exact ho y hy
      · rcases List.mem_append.1 hy with hy | hy
        · exact ho y hy
        · rw [List.mem_singleton.1 hy]; omega
    · exact fld_mem_len t _ _ n (by simp; omega) ho x hx
theorem anyLong_false {l : List Tx} (h : Ev.anyLong l = false) : ∀ w ∈ l, w.length ≤ 120 := fun w hw => by
  unfold Ev.anyLong at h
  have := List.any_eq_false.1 h w hw
  simpa using this
theorem piece_len {m : Mp} (hg : Ev.Good m) (hw : Words m) {out : List Op} (ho : okO out) {p : Pc} (hp : okP p) : (pieceS m out p).1.length ≤ 1001 ∧ (∀ w ∈ (pieceS m out p).1, w.length ≤ 1000) ∧ (pieceS m out p).2 ≤ 18 := by
  obtain ⟨w1, w2⟩ := wordsOf_ok hg hw p.f_Text
  unfold pieceS
  split
  · exact ⟨by simp, fun w h => by rw [List.mem_singleton.1 h]; exact hp.1, by simp⟩
  split
  · exact ⟨by simp only; omega, fun w h => by have := w2 w h; omega, by simp⟩
  split
  · unfold listS
    cases h : Ev.anyLong ((wordsOf m p.f_Text).map fun w => subS w p.f_From p.f_To) with
    | true => exact ⟨by simp, fun w hx => by simp at hx, by simp⟩
    | false =>
      refine ⟨by simp; omega, fun w hx => ?_, by simp⟩
      have := anyLong_false h w hx
      omega
  split
  · have hl := find_len ho p.f_Text
    split
    · refine ⟨?_, fun w hx => ?_, by simp⟩
      · have := Qf.fld_len ((findS out p.f_Text).getD []) [] []
        simp only [List.length_nil] at this
        simp only; omega
      · exact fld_mem_len _ [] [] 1000 (by simp only [List.length_nil]; omega) (fun x hx => by cases hx) w hx
    · exact ⟨by simp, fun w hx => (by cases hx), by simp⟩
  · exact ⟨by simp, fun w hx => (by cases hx), by simp⟩

def goR : List Tx × Tx → List Tx → List Tx × Tx
  | x, [] => x
  | x, y :: r => goR (x.1 ++ [x.2], y) r
theorem goR_list : ∀ (r : List Tx) (x : List Tx × Tx), (goR x r).1 ++ [(goR x r).2] = x.1 ++ x.2 :: r
  | [], x => rfl
  | y :: r, x => by
    unfold goR
    rw [goR_list r]; simp
def joinS (x : List Tx × Tx) : List Tx → List Tx × Tx
  | [] => x
  | y :: r => goR (x.1, x.2 ++ y) r
def rowS (x : List Tx × Tx) : List Tx := x.1 ++ [x.2]
theorem join_row (x : List Tx × Tx) (y : Tx) (r : List Tx) : rowS (joinS x (y :: r)) = x.1 ++ (x.2 ++ y) :: r := goR_list r (x.1, x.2 ++ y)
theorem joined_eq (k : Nat) (x : List Tx × Tx) (more : List Tx) (h1 : x.1.length ≤ 1000000) (h2 : more.length ≤ 1000000) (h3 : x.2.length ≤ 1000000000) (h4 : ∀ w ∈ more, w.length ≤ 1000000) : expand_joined_m0.f k (rowS x) more = some (rowS (joinS x more)) := by
  have hlim : LIM = 4294967296 := rfl
  have hl : (rowS x).length = x.1.length + 1 := by unfold rowS; simp
  unfold expand_joined_m0.f
  cases more with
  | nil => rw [if_pos (by simp)]; rfl
  | cons y r =>
    have hy := h4 y List.mem_cons_self
    simp only [List.length_cons] at h2
    have e : IntKind.i64.wrap (((rowS x).length : Int) - 1) = (x.1.length : Int) := by rw [hl, w64 (by omega) (by omega)]; omega
    have g : (rowS x)[0 + ((x.1.length : Int)).toNat]? = some x.2 := by unfold rowS; simp
    have i0 : idx (y :: r) 0 = some y := rfl
    have s1 : sub (y :: r) 1 (((y :: r).length : Nat) : Int) = some r := by
      show sub (y :: r) ((1 : Nat) : Int) _ = some r
      rw [sub_from rfl rfl (by simp)]; rfl
    have u1 : upd (rowS x) (0 + ((x.1.length : Int)).toNat) (x.2 ++ y) = x.1 ++ [x.2 ++ y] := by
      unfold upd rowS
      simp
    rw [if_neg (by simp; omega), e, if_pos ⟨by omega, by omega⟩, g, Option.bind_some, i0, Option.bind_some, if_pos (by omega), if_pos ⟨by omega, by omega⟩, Option.bind_some, s1, Option.bind_some, u1, if_pos (by simp; omega), join_row]
    simp
def wordE (m : Mp) (out : List Op) : List Pc → List Tx × Tx → Bool → Sum ((List Tx × Tx) × Bool) Nat
  | [], x, b => .inl (x, b)
  | p :: r, x, b => if (pieceS m out p).2 = 0 then wordE m out r (joinS x (pieceS m out p).1) (b && p.f_Kind != 1) else .inr (pieceS m out p).2
theorem goR_len : ∀ (r : List Tx) (x : List Tx × Tx) (n : Nat), x.2.length ≤ n → (∀ w ∈ r, w.length ≤ n) → (goR x r).1.length = x.1.length + r.length ∧ (goR x r).2.length ≤ n
  | [], x, n, h, _ => ⟨rfl, h⟩
  | y :: r, x, n, h, hr => by
    unfold goR
    obtain ⟨a, b⟩ := goR_len r (x.1 ++ [x.2], y) n (hr y List.mem_cons_self) (fun w hw => hr w (List.mem_cons_of_mem _ hw))
    exact ⟨by rw [a]; simp; omega, b⟩
theorem join_len (x : List Tx × Tx) (l : List Tx) (hl : l.length ≤ 1001) (hw : ∀ w ∈ l, w.length ≤ 1000) : (joinS x l).1.length ≤ x.1.length + 1001 ∧ (joinS x l).2.length ≤ x.2.length + 1000 := by
  cases l with
  | nil => exact ⟨by simp [joinS], by simp [joinS]⟩
  | cons y r =>
    have hy := hw y List.mem_cons_self
    obtain ⟨a, b⟩ := goR_len r (x.1, x.2 ++ y) (x.2.length + 1000) (by simp; omega) (fun w h => by have := hw w (List.mem_cons_of_mem _ h); omega)
    simp only [List.length_cons] at hl
    simp only at a
    exact ⟨show (goR (x.1, x.2 ++ y) r).1.length ≤ x.1.length + 1001 by omega, b⟩
def outW (x : Sum ((List Tx × Tx) × Bool) Nat) : Sum (List Tx × Bool) (List Tx × Nat) := match x with | .inl q => .inl (rowS q.1, q.2) | .inr e => .inr ([], e)
theorem word_loop (k : Nat) (hk : 4000 ≤ k) (m : Mp) (hg : Ev.Good m) (hw : Words m) (out : List Op) (ho : okO out) (l : List Pc) (hl : l.length ≤ 500) (hp : ∀ p ∈ l, okP p) : ∀ (r : List Pc) (fuel i : Nat) (x : List Tx × Tx) (b : Bool), l.drop i = r → r.length < fuel → x.1.length ≤ 1001 * i → x.2.length ≤ 1000 * i →
    expand_expander_word_m0.l17 k m out l fuel (rowS x) b (i : Int) = some (outW (wordE m out r x b))
  | _, 0, _, _, _, _, h, _, _ => by omega
  | [], f + 1, i, x, b, hd, _, _, _ => by
    have := Ev.at_nil hd
    unfold expand_expander_word_m0.l17
    rw [if_neg (by simp; omega)]; rfl
  | p :: r, f + 1, i, x, b, hd, hf, h1, h2 => by
    obtain ⟨g1, g2, g3⟩ := Ev.at_drop hd
    have hpp := hp p (List.mem_of_mem_drop (hd ▸ List.mem_cons_self))
    obtain ⟨q1, q2, q3⟩ := piece_len hg hw ho hpp
    obtain ⟨j1, j2⟩ := join_len x (pieceS m out p).1 q1 q2
    unfold expand_expander_word_m0.l17 expand_expander_word_m0.j25 wordE
    rw [if_pos (by simp; exact g3), g1, Option.bind_some, pc_eta, piece_eq k hk m hg hw out ho p hpp, Option.bind_some]
    by_cases h0 : (pieceS m out p).2 = 0
    · rw [if_neg (by simp [h0]), if_pos h0, joined_eq k x _ (by omega) (by omega) (by omega) (fun w h => by have := q2 w h; omega), Option.bind_some, Ev.wr1 (by omega)]
      have ih := fun c => word_loop k hk m hg hw out ho l hl hp r f (i + 1) (joinS x (pieceS m out p).1) c g2 (by simpa using hf) (by omega) (by omega)
      cases b with
      | true => rw [if_pos rfl, ih, Bool.true_and]
      | false => rw [if_neg (by decide), ih, Bool.false_and]
    · rw [if_pos (by simpa using h0), if_neg h0]; rfl
def boundS (l : List Tx) : Nat := if l.length > 40 then 10 else if Ev.anyLong l then 2 else 0
theorem bound_eq (k : Nat) (hk : 4000 ≤ k) (l : List Tx) (hl : l.length ≤ 10000000) : expand_bounded.f k l = some (boundS l) := by
  unfold expand_bounded.f boundS
  by_cases h : l.length > 40
  · rw [if_pos (by simp; omega), if_pos h]
  · rw [if_neg (by simp; omega), if_neg h, Ev.contains_eq2 k l (by omega) (by omega), Option.bind_some]
    cases Ev.anyLong l <;> rfl
def finS (x : List Tx × Tx) (b : Bool) : List Tx × Nat := if x.1 = [] ∧ x.2 = [] ∧ b = true then ([], 0) else if boundS (rowS x) = 0 then (rowS x, 0) else ([], boundS (rowS x))
theorem fin_eq (k : Nat) (hk : 4000 ≤ k) (m : Mp) (x : List Tx × Tx) (b : Bool) (hx : x.1.length ≤ 1000000) : expand_expander_word_m0.j13 k m (rowS x) b = some (finS x b) := by
  have hl : (rowS x).length = x.1.length + 1 := by unfold rowS; simp
  have tail : expand_expander_word_m0.j5 k m (rowS x) = some (if boundS (rowS x) = 0 then (rowS x, 0) else ([], boundS (rowS x))) := by
    unfold expand_expander_word_m0.j5
    rw [bound_eq k hk _ (by omega), Option.bind_some]
    by_cases h : boundS (rowS x) = 0
    · rw [if_neg (by simp [h]), if_pos h]
    · rw [if_pos (by simpa using h), if_neg h]
  unfold expand_expander_word_m0.j13 expand_expander_word_m0.j8 finS
  rw [tail]
  by_cases h1 : x.1 = []
  · have hr : rowS x = [x.2] := by unfold rowS; rw [h1]; rfl
    rw [hr]
    by_cases h2 : x.2 = []
    · cases b with
      | true => simp [h1, h2]
      | false => simp [h1, h2]
    · simp [h1, h2]
  · have : ¬ x.1.length + 1 = 1 := by
      have := List.length_pos_iff.2 h1
      omega
    rw [if_neg (show ¬ ((((rowS x).length : Nat) : Int) == 1) = true by rw [hl, beq_iff_eq]; omega), if_neg (by decide), if_neg (show ¬ (x.1 = [] ∧ x.2 = [] ∧ b = true) from fun h => h1 h.1)]
def wordS (m : Mp) (out : List Op) (w : List Pc) : List Tx × Nat := match wordE m out w ([], []) true with | .inl q => finS q.1 q.2 | .inr e => ([], e)
theorem wordE_len {m : Mp} (hg : Ev.Good m) (hw : Words m) {out : List Op} (ho : okO out) : ∀ (r : List Pc) (x : List Tx × Tx) (b : Bool), (∀ p ∈ r, okP p) → ∀ q, wordE m out r x b = .inl q → q.1.1.length ≤ x.1.length + 1001 * r.length
  | [], x, b, _, q, h => by cases h; simp
  | p :: r, x, b, hp, q, h => by
    obtain ⟨q1, q2, q3⟩ := piece_len hg hw ho (hp p List.mem_cons_self)
    obtain ⟨j1, j2⟩ := join_len x (pieceS m out p).1 q1 q2
    unfold wordE at h
    split at h
    · have := wordE_len hg hw ho r _ _ (fun y hy => hp y (List.mem_cons_of_mem _ hy)) q h
      simp only [List.length_cons]; omega
    · cases h
theorem word_eq (k : Nat) (hk : 4000 ≤ k) (m : Mp) (hg : Ev.Good m) (hw : Words m) (out : List Op) (ho : okO out) (l : List Pc) (hl : l.length ≤ 500) (hp : ∀ p ∈ l, okP p) : expand_Word_m0.f k l m out = some (wordS m out l) := by
  unfold expand_Word_m0.f expand_expander_word_m0.f wordS
  have e : expand_expander_word_m0.l17 k m out l k [[]] true 0 = _ := word_loop k hk m hg hw out ho l hl hp l k 0 ([], []) true rfl (by omega) (by simp) (by simp)
  rw [e, Option.bind_some]
  have hq := wordE_len hg hw ho l ([], []) true hp
  cases h : wordE m out l ([], []) true with
  | inr e => rfl
  | inl q =>
    have := hq q h
    simp only [outW, List.length_nil, Nat.zero_add] at this ⊢
    rw [fin_eq k hk m q.1 q.2 (by omega)]; rfl
theorem wordS_len (m : Mp) (out : List Op) (w : List Pc) : (wordS m out w).1.length ≤ 40 := by
  unfold wordS
  split
  · unfold finS
    split
    · simp
    · split
      · rename_i h
        unfold boundS at h
        split at h
        · cases h
        · simp only; omega
      · simp
  · simp
theorem wordE_err {m : Mp} (hg : Ev.Good m) (hw : Words m) {out : List Op} (ho : okO out) : ∀ (r : List Pc) (x : List Tx × Tx) (b : Bool), (∀ p ∈ r, okP p) → ∀ e, wordE m out r x b = .inr e → e ≤ 18 ∧ e ≠ 0
  | [], x, b, _, e, h => by cases h
  | p :: r, x, b, hp, e, h => by
    obtain ⟨q1, q2, q3⟩ := piece_len hg hw ho (hp p List.mem_cons_self)
    unfold wordE at h
    split at h
    · exact wordE_err hg hw ho r _ _ (fun y hy => hp y (List.mem_cons_of_mem _ hy)) e h
    · cases h; exact ⟨q3, by assumption⟩
theorem wordS_err {m : Mp} (hg : Ev.Good m) (hw : Words m) {out : List Op} (ho : okO out) (w : List Pc) (hp : ∀ p ∈ w, okP p) : (wordS m out w).2 ≤ 18 := by
  unfold wordS
  cases h : wordE m out w ([], []) true with
  | inr e => exact (wordE_err hg hw ho w _ _ hp e h).1
  | inl q =>
    simp only
    unfold finS boundS
    repeat' split
    all_goals simp

def wordsE (m : Mp) (out : List Op) : List (List Pc) → List Tx → Sum (List Tx) Nat
  | [], acc => .inl acc
  | w :: r, acc => if (wordS m out w).2 = 0 then wordsE m out r (acc ++ (wordS m out w).1) else .inr (wordS m out w).2
def outL (x : Sum (List Tx) Nat) : Sum (List Tx) (List Tx × Nat) := match x with | .inl q => .inl q | .inr e => .inr ([], e)
theorem words_loop (k : Nat) (hk : 4000 ≤ k) (m : Mp) (hg : Ev.Good m) (hw : Words m) (out : List Op) (ho : okO out) (l : List (List Pc)) (hl : l.length ≤ 500) (hp : ∀ w ∈ l, w.length ≤ 500 ∧ ∀ p ∈ w, okP p) : ∀ (r : List (List Pc)) (fuel i : Nat) (acc : List Tx), l.drop i = r → r.length < fuel → acc.length ≤ 40 * i →
    expand_Words_m0.l6 k l m out fuel acc (i : Int) = some (outL (wordsE m out r acc))
  | _, 0, _, _, _, h, _ => by omega
  | [], f + 1, i, acc, hd, _, _ => by
    have := Ev.at_nil hd
    unfold expand_Words_m0.l6
    rw [if_neg (by simp; omega)]; rfl
  | w :: r, f + 1, i, acc, hd, hf, ha => by
    obtain ⟨g1, g2, g3⟩ := Ev.at_drop hd
    have hx := hp w (List.mem_of_mem_drop (hd ▸ List.mem_cons_self))
    have h40 := wordS_len m out w
    have hlim : LIM = 4294967296 := rfl
    unfold expand_Words_m0.l6 wordsE
    rw [if_pos (by simp; exact g3), g1, Option.bind_some, word_eq k hk m hg hw out ho w hx.1 hx.2, Option.bind_some]
    by_cases h0 : (wordS m out w).2 = 0
    · rw [if_neg (by simp [h0]), if_pos h0, if_pos (by omega), Ev.wr1 (by omega), words_loop k hk m hg hw out ho l hl hp r f (i + 1) _ g2 (by simpa using hf) (by simp; omega)]
    · rw [if_pos (by simpa using h0), if_neg h0]; rfl
def wordsS (m : Mp) (out : List Op) (l : List (List Pc)) : List Tx × Nat := match wordsE m out l [] with | .inl q => if q.length > 40 then ([], 10) else (q, 0) | .inr e => ([], e)
theorem words_eq (k : Nat) (hk : 4000 ≤ k) (m : Mp) (hg : Ev.Good m) (hw : Words m) (out : List Op) (ho : okO out) (l : List (List Pc)) (hl : l.length ≤ 500) (hp : ∀ w ∈ l, w.length ≤ 500 ∧ ∀ p ∈ w, okP p) : expand_Words_m0.f k l m out = some (wordsS m out l) := by
  unfold expand_Words_m0.f wordsS expand_Words_m0.j3
  have e : expand_Words_m0.l6 k l m out k [] 0 = _ := words_loop k hk m hg hw out ho l hl hp l k 0 [] rfl (by omega) (by simp)
  rw [e, Option.bind_some]
  cases wordsE m out l [] with
  | inr e => rfl
  | inl q =>
    simp only [outL]
    by_cases h : q.length > 40
    · rw [if_pos (by simp; omega), if_pos h]
    · rw [if_neg (by simp; omega), if_neg h]
theorem wordsS_err {m : Mp} (hg : Ev.Good m) (hw : Words m) {out : List Op} (ho : okO out) (l : List (List Pc)) (hp : ∀ w ∈ l, ∀ p ∈ w, okP p) : (wordsS m out l).2 ≤ 18 ∧ (wordsS m out l).1.length ≤ 40 := by
  have : ∀ (r : List (List Pc)) (acc : List Tx), (∀ w ∈ r, ∀ p ∈ w, okP p) → ∀ e, wordsE m out r acc = .inr e → e ≤ 18 := by
    intro r
    induction r with
    | nil => intro acc _ e h; cases h
    | cons w r ih =>
      intro acc hr e h
      unfold wordsE at h
      split at h
      · exact ih _ (fun y hy => hr y (List.mem_cons_of_mem _ hy)) e h
      · cases h; exact wordS_err hg hw ho w (hr w List.mem_cons_self)
  unfold wordsS
  cases h : wordsE m out l [] with
  | inr e => exact ⟨this l [] hp e h, by simp⟩
  | inl q =>
    simp only
    split
    · exact ⟨by simp, by simp⟩
    · exact ⟨by simp, by simp only; omega⟩
end Go.Proofs.YtldepagjdbcmgaaGreatDoor.Ex
