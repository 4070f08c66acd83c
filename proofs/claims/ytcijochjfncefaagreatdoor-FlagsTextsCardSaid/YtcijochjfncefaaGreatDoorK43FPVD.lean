/- A part of a proof: FPVD. -/
import Derived.Test.YtcijochjfncefaaGreatDoorK43FPVC
namespace Go.Proofs.YtcijochjfncefaaGreatDoor
open Go Go.AM Go.ChangeShapes Go.ChangeAt Go.RowKit
set_option linter.unusedVariables false
set_option linter.unusedSimpArgs false
set_option maxRecDepth 100000
theorem rplain_in (k : Nat) (s : List UInt8) (i : Nat) (hi : i < s.length) : ∀ (m j n : Nat) (v : Int), v = (j : Int) → j + m = 24 → m < n →
    R11_Plain.l9 k s (i : Int) n v = some (if (badL.drop j).contains s[i] then .inr false else .inl ()) := by
  intro m
  induction m with
  | zero =>
    intro j n v hv hj hn; obtain ⟨n, rfl⟩ : ∃ m, n = m + 1 := ⟨n - 1, by omega⟩; subst hv
    obtain rfl : j = 24 := by omega
    unfold R11_Plain.l9
    simp [badL]
  | succ m ih =>
    intro j n v hv hj hn; obtain ⟨n, rfl⟩ : ∃ m, n = m + 1 := ⟨n - 1, by omega⟩; subst hv
    unfold R11_Plain.l9
    have hl : badL.length = 24 := rfl
    have hjl : j < badL.length := by omega
    have hx : idx ([39, 32, 9, 10, 35, 36, 96, 58, 61, 60, 92, 59, 38, 124, 40, 41, 123, 125, 91, 93, 42, 63, 94, 126] : List UInt8) (j : Int) = some badL[j] := idx_at (l := badL) rfl hjl
    rw [if_pos (by show decide ((j : Int) < (badL.length : Int)) = true; simp; omega), idx_at rfl hi, Option.bind_some, hx, Option.bind_some, u8_eq, w64 (by omega) (by omega), ih (j + 1) n _ (by omega) (by omega) (by omega), List.drop_eq_getElem_cons hjl, List.contains_cons]
    by_cases h : s[i] = badL[j]
    · simp [h]
    · have : (s[i] == badL[j]) = false := by simpa using h
      simp only [this, Bool.false_or, Bool.false_eq_true, if_false]

theorem rplain_loop (k : Nat) (hk : 24 < k) (s : List UInt8) (hs : s.length ≤ 1000000000) : ∀ (m i n : Nat) (v : Int), v = (i : Int) → i + m = s.length → m < n →
    R11_Plain.l3 k s n v = some (if (s.drop i).any badL.contains then .inr false else .inl ()) := by
  intro m
  induction m with
  | zero =>
    intro i n v hv hi hn; obtain ⟨n, rfl⟩ : ∃ m, n = m + 1 := ⟨n - 1, by omega⟩; subst hv
    unfold R11_Plain.l3
    rw [if_neg (by simp; omega), List.drop_eq_nil_of_le (by omega)]; simp
  | succ m ih =>
    intro i n v hv hi hn; obtain ⟨n, rfl⟩ : ∃ m, n = m + 1 := ⟨n - 1, by omega⟩; subst hv
    unfold R11_Plain.l3 R11_Plain.j7
    rw [if_pos (by simp; omega), rplain_in k s i (by omega) 24 0 k 0 rfl (by omega) (by omega), Option.bind_some, List.drop_zero, w64 (by omega) (by omega), ih (i + 1) n _ (by omega) (by omega) (by omega), List.drop_eq_getElem_cons (i := i) (l := s) (by omega), List.any_cons]
    cases badL.contains s[i] with
    | true => simp only [Bool.true_or, if_true, Option.bind_some]
    | false => simp only [Bool.false_or, Bool.false_eq_true, if_false, Option.bind_some]

theorem rplain_eq (k : Nat) (s : List UInt8) (hs : s.length ≤ 1000000000) (hk : s.length < k) (hk' : 24 < k) : R11_Plain.f k s = some (!(s.any badL.contains) && !(s == [])) := by
  unfold R11_Plain.f R11_Plain.j1
  rw [rplain_loop k hk' s hs s.length 0 k 0 rfl (by omega) hk, Option.bind_some, List.drop_zero]
  cases s with
  | nil => simp
  | cons x s =>
    have : decide (((x :: s).length : Int) > 0) = true := by simp
    rw [this]
    cases (x :: s).any badL.contains <;> rfl

theorem rquote_loop (k : Nat) (s : List UInt8) (hs : s.length ≤ 100000) : ∀ (m i n : Nat) (v : Int) (acc : List UInt8), v = (i : Int) → i + m = s.length → m < n → acc.length ≤ 2 * i + 1 →
    R11_Quote.l8 k s n acc v = some (acc ++ (s.drop i).flatMap dbl) := by
  intro m
  induction m with
  | zero =>
    intro i n v acc hv hi hn ha; obtain ⟨n, rfl⟩ : ∃ m, n = m + 1 := ⟨n - 1, by omega⟩; subst hv
    unfold R11_Quote.l8
    rw [if_neg (by simp; omega), List.drop_eq_nil_of_le (by omega)]; simp
  | succ m ih =>
    intro i n v acc hv hi hn ha; obtain ⟨n, rfl⟩ : ∃ m, n = m + 1 := ⟨n - 1, by omega⟩; subst hv
    have hc : ((s[i].toNat : Int) == 39) = (s[i] == 39) := u8_eq (b := 39)
    have hsub : sub s (i : Int) ((i : Int) + 1) = some [s[i]] := by
      rw [sub_at (a := i) (b := i + 1) rfl (by omega) (by omega) (by omega), List.drop_take, List.drop_eq_getElem_cons (i := i) (l := s) (by omega), Nat.add_sub_cancel_left]
      rfl
    unfold R11_Quote.l8 R11_Quote.j14
    rw [if_pos (by simp; omega), w64 (by omega) (by omega), hsub, Option.bind_some, if_pos (by simp; omega), idx_at rfl (by omega), Option.bind_some, hc, List.drop_eq_getElem_cons (by omega), List.flatMap_cons]
    by_cases h : s[i] = 39
    · rw [if_pos (by simp [h]), if_pos (by simp; omega), ih (i + 1) n _ _ (by omega) (by omega) (by omega) (by simp; omega)]
      simp [h, dbl]
    · rw [if_neg (by simp [h]), ih (i + 1) n _ _ (by omega) (by omega) (by omega) (by simp; omega)]
      simp [h, dbl]

theorem rquote_eq (k : Nat) (s : List UInt8) (hs : s.length ≤ 100000) (hk : s.length < k) (hk' : 24 < k) : R11_Quote.f k s = some (quo s) := by
  unfold R11_Quote.f quo
  rw [rplain_eq k s (by omega) hk hk', Option.bind_some]
  have := dbl_length s
  split
  · rfl
  · rw [rquote_loop k s hs s.length 0 k 0 [39] rfl (by omega) hk (by simp), Option.bind_some, List.drop_zero]
    unfold R11_Quote.j5
    rw [if_pos (by simp only [List.length_append, List.length_cons, List.length_nil]; omega)]


theorem quo_len (s : Tx) : (quo s).length ≤ 2 * s.length + 2 := by
  unfold quo
  have := dbl_length s
  split
  · omega
  · simp only [List.length_append, List.length_cons, List.length_nil]; omega
theorem jt_len (sep : Tx) (m : Nat) : ∀ l : List Tx, (∀ x ∈ l, x.length ≤ m) → (Lib.joinTail sep l).length ≤ (sep.length + m) * l.length
  | [], _ => by simp [Lib.joinTail]
  | x :: l, h => by
    have h1 := h x (.head _)
    have h2 := jt_len sep m l fun y hy => h y (List.mem_cons_of_mem _ hy)
    have e : Lib.joinTail sep (x :: l) = sep ++ (x ++ Lib.joinTail sep l) := by simp [Lib.joinTail]
    rw [e, List.length_append, List.length_append, List.length_cons, Nat.mul_succ]; omega
theorem j_len (sep : Tx) (m : Nat) (l : List Tx) (h : ∀ x ∈ l, x.length ≤ m) : (Lib.join l sep).length ≤ (sep.length + m) * l.length := by
  cases l with
  | nil => simp [Lib.join_nil]
  | cons x l =>
    have h1 := h x (.head _)
    have h2 := jt_len sep m l fun y hy => h y (List.mem_cons_of_mem _ hy)
    rw [Lib.join_cons, List.length_append, List.length_cons, Nat.mul_succ]; omega
theorem mul_le {a n b : Nat} (h : n ≤ b) : a * n ≤ a * b := Nat.mul_le_mul_left a h
theorem news_len {o : Op1} (h : SmO o) : (Lib.join o.f_News [44]).length ≤ 10010000 :=
  Nat.le_trans (j_len [44] 1000 _ h.nw) (mul_le (a := 1 + 1000) h.n)
def wt (v : Vr) : Tx := Lib.join (v.f_Words.map quo) [32]
theorem wt_len {v : Vr} (h : smV v) : (wt v).length ≤ 20003000 :=
  Nat.le_trans (j_len [32] 20002 _ fun x hx => by
    obtain ⟨w, hw, rfl⟩ := List.mem_map.1 hx
    have := quo_len w
    have := h.2.2 w hw
    omega) (by rw [List.length_map]; exact mul_le (a := 1 + 20002) h.2.1)
theorem joinC_loop (k : Nat) (hk : 100000 < k) (l : List Tx) (hl : l.length ≤ 10000) (hx : ∀ x ∈ l, x.length ≤ 100000) : ∀ (r : List Tx) (fuel i : Nat) (acc : List Tx), l.drop i = r → r.length < fuel → acc.length = i → (∀ x ∈ r, x.length ≤ 10000) →
    quote_Join.l6 k l fuel acc (i : Int) = some (acc ++ r.map quo)
  | _, 0, _, _, _, h, _, _ => by omega
  | [], f + 1, i, acc, hr, _, _, _ => by
    have := at_nil hr
    unfold quote_Join.l6
    rw [if_neg (by simp; omega)]
    simp
  | x :: r, f + 1, i, acc, hr, hf, ha, hw => by
    obtain ⟨g1, g2, g3⟩ := at_drop hr
    have hx0 := hw x (.head _)
    unfold quote_Join.l6
    rw [if_pos (by simp; exact g3), g1, Option.bind_some, quote_eq k x (by omega) (by omega), Option.bind_some, if_pos (lim_ok (by omega)), wr1 (by omega), joinC_loop k hk l hl hx r f (i + 1) (acc ++ [quo x]) g2 (by simp at hf; omega) (by simp [ha]) fun y hy => hw y (List.mem_cons_of_mem _ hy)]
    simp
theorem joinC_eq (k : Nat) (hk : 100000 < k) (v : Vr) (h : smV v) : quote_Join.f k v.f_Words = some (wt v) := by
  unfold quote_Join.f quote_Join.j3
  have h2 := h.2.1
  have e : quote_Join.l6 k v.f_Words k [] 0 = _ := joinC_loop k hk v.f_Words (by omega) (fun x hx => by have := h.2.2 x hx; omega) v.f_Words k 0 [] rfl (by omega) rfl h.2.2
  rw [e, Option.bind_some, List.nil_append]
  unfold pJoin.f
  have hl := wt_len h
  unfold wt at hl
  rw [if_pos ⟨by rw [List.length_map]; omega, by omega⟩]; rfl
def lineV (v : Vr) : Tx := (v.fN ++ [61]) ++ wt v
def onT (o : Op1) : Tx := flags_on o.f_All o.f_Explain o.f_Ignore o.f_Keep o.f_Dry o.f_Touch
def newsT (o : Op1) : List Tx := if o.f_News = [] then [] else [[45, 119] ++ Lib.join o.f_News [44]]
def headT (o : Op1) : List Tx := flags_Text.h o ++ newsT o
def textO (o : Op1) : List Tx := (headT o ++ [[45, 102] ++ o.f_File]) ++ o.f_Vars.map lineV ++ o.f_Goals
theorem h_len (o : Op1) : (flags_Text.h o).length ≤ 1 := by unfold flags_Text.h; split <;> simp
theorem head_len (o : Op1) : (headT o).length ≤ 2 := by
  have := h_len o
  unfold headT newsT
  split <;> simp <;> omega
theorem textL_loop (k : Nat) (hk : 100000 < k) (vs : List Vr) (hv : vs.length ≤ 10000) : ∀ (l : List Vr) (fuel i : Nat) (acc : List Tx), vs.drop i = l → l.length < fuel → (∀ v ∈ l, smV v) → acc.length ≤ i + 10 →
    flags_Text.l k vs fuel acc (i : Int) = some (acc ++ l.map lineV)
  | _, 0, _, _, _, h, _, _ => by omega
  | [], f + 1, i, acc, hl, _, _, _ => by
    have := at_nil hl
    unfold flags_Text.l
    rw [if_neg (by simp; omega)]; simp
  | v :: r, f + 1, i, acc, hl, hf, hs, ha => by
    obtain ⟨g1, g2, g3⟩ := at_drop hl
    have hv0 := hs v (.head _)
    have h1 := hv0.1
    have h2 := wt_len hv0
    unfold flags_Text.l
    rw [if_pos (by simp; exact g3), g1, Option.bind_some, if_pos (by simp; omega), joinC_eq k hk v hv0, Option.bind_some, if_pos (by simp; omega), if_pos (lim_ok (by omega)), wr1 (by omega), textL_loop k hk vs hv r f (i + 1) _ g2 (by simpa using hf) (fun x hx => hs x (List.mem_cons_of_mem _ hx)) (by simp; omega)]
    simp [lineV]
theorem textW_eq (k : Nat) (o : Op1) (h : SmO o) : flags_Text.w k o = some (headT o) := by
  unfold flags_Text.w headT newsT
  have := h.n
  have h2 := news_len h
  cases hn : o.f_News with
  | nil => rw [if_neg (by simp), if_pos rfl, List.append_nil]
  | cons x r =>
    rw [if_pos (by simp), if_neg (by simp)]
    rw [hn] at this h2
    unfold pJoin.f
    rw [if_pos ⟨by omega, by omega⟩, Option.bind_some, if_pos (by simp; omega)]
theorem Text_eq (k : Nat) (hk : 100000 < k) (o : Op1) (h : SmO o) : flags_Text.f k o = some (if rightO o then (textO o, 0) else ([], 16)) := by
  unfold flags_Text.f
  rw [Right_eq k hk o h, Option.bind_some]
  cases rightO o with
  | false => rfl
  | true =>
    have hf := h.f
    have hv := h.v
    have hg := h.g
    have hh := head_len o
    have e : flags_Text.l k o.f_Vars k (headT o ++ [[45, 102] ++ o.f_File]) 0 = _ := textL_loop k hk o.f_Vars h.v o.f_Vars k 0 _ rfl (by omega) h.vw (by simp; omega)
    rw [if_neg (by decide), textW_eq k o h, Option.bind_some, if_pos (by simp; omega), e, Option.bind_some, if_pos (by have : LIM = 4294967296 := rfl; simp; omega)]
    rfl
theorem rwords_loop (k : Nat) (hk : 100000 < k) (o : Op2) (v9 : List Tx) (v10 : Int) (v : Vr) (hs : smV v) : ∀ (l : List Tx) (fuel i : Nat) (acc : Tx), v.f_Words.drop i = l → l.length < fuel → acc.length ≤ 1001 + 20003 * i →
    R31_Text.l25 k o v9 v10 v fuel acc (i : Int) = some (acc ++ (if i = 0 then Lib.join (l.map quo) [32] else Lib.joinTail [32] (l.map quo)))
  | _, 0, _, _, _, h, _ => by omega
  | [], f + 1, i, acc, hl, _, _ => by
    have := at_nil hl
    unfold R31_Text.l25
    rw [if_neg (by simp; omega)]
    split <;> simp [Lib.join_nil, Lib.joinTail]
  | x :: r, f + 1, i, acc, hl, hf, ha => by
    obtain ⟨g1, g2, g3⟩ := at_drop hl
    have hx : x.length ≤ 10000 := hs.2.2 x (List.mem_of_mem_drop (by rw [hl]; exact .head _))
    have hq := quo_len x
    have hn := hs.2.1
    unfold R31_Text.l25 R31_Text.j36 R31_Text.j31
    rw [if_pos (by simp; exact g3), g1, Option.bind_some, rquote_eq k x (by omega) (by omega) (by omega), Option.bind_some, Option.bind_some, wr1 (by omega)]
    by_cases h0 : i = 0
    · subst h0
      rw [if_neg (by simp), if_pos (by omega), rwords_loop k hk o v9 v10 v hs r f 1 _ g2 (by simpa using hf) (by simp; omega), if_neg (by decide), if_pos rfl, List.map_cons, Lib.join_cons, List.append_assoc]
    · rw [if_pos (by simp; omega), if_pos (by simp; omega), if_pos (by simp; omega), rwords_loop k hk o v9 v10 v hs r f (i + 1) _ g2 (by simpa using hf) (by simp; omega), if_neg (by omega), if_neg h0]
      simp [Lib.joinTail]
theorem rvarsT_loop (k : Nat) (hk : 100000 < k) (o : Op2) (hv : o.f_Vars.length ≤ 10000) : ∀ (l : List Vr) (fuel i : Nat) (acc : List Tx), o.f_Vars.drop i = l → l.length < fuel → (∀ v ∈ l, smV v) → acc.length ≤ i + 10 →
    R31_Text.l11 k o fuel acc (i : Int) = some (acc ++ l.map lineV)
  | _, 0, _, _, _, h, _, _ => by omega
  | [], f + 1, i, acc, hl, _, _, _ => by
    have := at_nil hl
    unfold R31_Text.l11
    rw [if_neg (by simp; omega)]; simp
  | v :: r, f + 1, i, acc, hl, hf, hs, ha => by
    obtain ⟨g1, g2, g3⟩ := at_drop hl
    have hv0 := hs v (.head _)
    have h1 := hv0.1
    have h2 := hv0.2.1
    unfold R31_Text.l11 R31_Text.j22 R31_Text.j17
    have e : R31_Text.l25 k o acc (i : Int) v k (v.fN ++ [61]) 0 = _ := rwords_loop k hk o acc (i : Int) v hv0 v.f_Words k 0 _ rfl (by omega) (by simp; omega)
    rw [if_pos (by simp; exact g3), g1, Option.bind_some, if_pos (by simp; omega), e, Option.bind_some, if_pos (lim_ok (by omega)), wr1 (by omega), rvarsT_loop k hk o hv r f (i + 1) _ g2 (by simpa using hf) (fun x hx => hs x (List.mem_cons_of_mem _ hx)) (by simp; omega)]
    simp [lineV, wt]
theorem rnewsT_loop (k : Nat) (o : Op2) (v2 : List Tx) (hn : o.f_News.length ≤ 10000) : ∀ (l : List Tx) (fuel i : Nat) (acc : Tx), o.f_News.drop i = l → l.length < fuel → (∀ x ∈ l, x.length ≤ 1000) → acc.length ≤ 2 + 1001 * i →
    R31_Text.l48 k o v2 fuel acc (i : Int) = some (acc ++ (if i = 0 then Lib.join l [44] else Lib.joinTail [44] l))
  | _, 0, _, _, _, h, _, _ => by omega
  | [], f + 1, i, acc, hl, _, _, _ => by
    have := at_nil hl
    unfold R31_Text.l48
    rw [if_neg (by simp; omega)]
    split <;> simp [Lib.join_nil, Lib.joinTail]
  | x :: r, f + 1, i, acc, hl, hf, hx, ha => by
    obtain ⟨g1, g2, g3⟩ := at_drop hl
    have hx0 := hx x (.head _)
    unfold R31_Text.l48 R31_Text.j58 R31_Text.j54
    rw [if_pos (by simp; exact g3), g1, Option.bind_some, wr1 (by omega)]
    by_cases h0 : i = 0
    · subst h0
      rw [if_neg (by simp), if_pos (by omega), rnewsT_loop k o v2 hn r f 1 _ g2 (by simpa using hf) (fun y hy => hx y (List.mem_cons_of_mem _ hy)) (by simp; omega), if_neg (by decide), if_pos rfl, Lib.join_cons, List.append_assoc]
    · rw [if_pos (by simp; omega), if_pos (by simp; omega), if_pos (by simp; omega), rnewsT_loop k o v2 hn r f (i + 1) _ g2 (by simpa using hf) (fun y hy => hx y (List.mem_cons_of_mem _ hy)) (by simp; omega), if_neg (by omega), if_neg h0]
      simp [Lib.joinTail]
theorem on_step (k : Nat) (o : Op2) (n : Nat) (acc : Tx) (i : Nat) (b : Bool) (c : UInt8) (hi : i < 6) (hb : idx o.f_On (i : Int) = some b) (hc : sub ([97, 101, 105, 107, 110, 116] : Tx) (i : Int) (IntKind.i64.wrap ((i : Int) + 1)) = some [c]) (ha : acc.length ≤ 100) :
    R31_Text.l68 k o (n + 1) acc (i : Int) = R31_Text.l68 k o n (acc ++ (if b then [c] else [])) ((i + 1 : Nat) : Int) := by
  conv => lhs; unfold R31_Text.l68 R31_Text.j74
  rw [if_pos (by simp; omega), hb, Option.bind_some, hc, Option.bind_some, wr1 (by omega)]
  cases b with
  | true => rw [if_pos rfl, if_pos (by simp; omega)]; rfl
  | false => rw [if_neg (by decide)]; simp
theorem on_end (k : Nat) (o : Op2) (n : Nat) (acc : Tx) : R31_Text.l68 k o (n + 1) acc 6 = some acc := by
  unfold R31_Text.l68
  rw [if_neg (by decide)]
theorem ib_len (b : Bool) (c : UInt8) : (if b then [c] else [] : Tx).length ≤ 1 := by cases b <;> simp
theorem ron_eq (k : Nat) (hk : 100000 < k) (o : Op1) : R31_Text.l68 k (ofO o) k [45] 0 = some (onT o) := by
  obtain ⟨n, rfl⟩ : ∃ n, k = n + 7 := ⟨k - 7, by omega⟩
  have b1 := ib_len o.f_All 97
  have b2 := ib_len o.f_Explain 101
  have b3 := ib_len o.f_Ignore 105
  have b4 := ib_len o.f_Keep 107
  have b5 := ib_len o.f_Dry 110
  have s0 := on_step (n + 7) (ofO o) (n + 6) [45] 0 o.f_All 97 (by decide) rfl (by decide) (by decide)
  have s1 := on_step (n + 7) (ofO o) (n + 5) ([45] ++ (if o.f_All then [97] else [])) 1 o.f_Explain 101 (by decide) rfl (by decide) (by simp only [List.length_append, List.length_cons, List.length_nil]; omega)
  have s2 := on_step (n + 7) (ofO o) (n + 4) (([45] ++ (if o.f_All then [97] else [])) ++ (if o.f_Explain then [101] else [])) 2 o.f_Ignore 105 (by decide) rfl (by decide) (by simp only [List.length_append, List.length_cons, List.length_nil]; omega)
  have s3 := on_step (n + 7) (ofO o) (n + 3) ((([45] ++ (if o.f_All then [97] else [])) ++ (if o.f_Explain then [101] else [])) ++ (if o.f_Ignore then [105] else [])) 3 o.f_Keep 107 (by decide) rfl (by decide) (by simp only [List.length_append, List.length_cons, List.length_nil]; omega)
  have s4 := on_step (n + 7) (ofO o) (n + 2) (((([45] ++ (if o.f_All then [97] else [])) ++ (if o.f_Explain then [101] else [])) ++ (if o.f_Ignore then [105] else [])) ++ (if o.f_Keep then [107] else [])) 4 o.f_Dry 110 (by decide) rfl (by decide) (by simp only [List.length_append, List.length_cons, List.length_nil]; omega)
  have s5 := on_step (n + 7) (ofO o) (n + 1) ((((([45] ++ (if o.f_All then [97] else [])) ++ (if o.f_Explain then [101] else [])) ++ (if o.f_Ignore then [105] else [])) ++ (if o.f_Keep then [107] else [])) ++ (if o.f_Dry then [110] else [])) 5 o.f_Touch 116 (by decide) rfl (by decide) (by simp only [List.length_append, List.length_cons, List.length_nil]; omega)
  exact s0.trans (s1.trans (s2.trans (s3.trans (s4.trans (s5.trans (on_end _ _ _ _))))))
theorem on_all : ∀ b1 b2 b3 b4 b5 b6 : Bool, decide (((flags_on b1 b2 b3 b4 b5 b6).length : Int) > 1) = (flags_on b1 b2 b3 b4 b5 b6 != [45]) := by decide
theorem rText_eq (k : Nat) (hk : 100000 < k) (o : Op1) (h : SmO o) : R31_Text.f k (ofO o) = some (textO o) := by
  have hf := h.f
  have hv := h.v
  have hg := h.g
  have hn := h.n
  unfold R31_Text.f
  rw [ron_eq k hk o, Option.bind_some]
  have h41 : ∀ acc : List Tx, acc.length ≤ 2 → R31_Text.j41 k (ofO o) acc = some ((acc ++ [[45, 102] ++ o.f_File]) ++ o.f_Vars.map lineV ++ o.f_Goals) := fun acc ha => by
    unfold R31_Text.j41 R31_Text.j8
    have e : R31_Text.l11 k (ofO o) k (acc ++ [[45, 102] ++ o.f_File]) 0 = _ := rvarsT_loop k hk (ofO o) h.v o.f_Vars k 0 _ rfl (by omega) h.vw (by simp; omega)
    show (if _ then (if acc.length + [[45, 102] ++ o.f_File].length ≤ LIM then ((R31_Text.l11 k (ofO o) k (acc ++ [[45, 102] ++ o.f_File]) 0).bind _) else none) else none) = _
    rw [if_pos (by simp [ofO]; omega), if_pos (lim_ok (by omega)), e, Option.bind_some, if_pos (by have : LIM = 4294967296 := rfl; simp [ofO]; omega)]
    rfl
  have h62 : ∀ acc : List Tx, acc.length ≤ 1 → R31_Text.j62 k (ofO o) acc = some (((acc ++ newsT o) ++ [[45, 102] ++ o.f_File]) ++ o.f_Vars.map lineV ++ o.f_Goals) := fun acc ha => by
    unfold R31_Text.j62 R31_Text.j45 newsT
    by_cases e0 : o.f_News = []
    · rw [if_neg (by simp [ofO, e0]), if_pos e0, List.append_nil, h41 acc (by omega)]
    · have e : R31_Text.l48 k (ofO o) acc k [45, 119] 0 = _ := rnewsT_loop k (ofO o) acc h.n o.f_News k 0 _ rfl (by omega) h.nw (by simp)
      have hp : 0 < o.f_News.length := List.length_pos_iff.2 e0
      rw [if_pos (by simp [ofO]; omega), if_neg e0, e, Option.bind_some, if_pos (lim_ok (by omega)), h41 _ (by simp; omega)]
      simp
  unfold R31_Text.j65 textO headT flags_Text.h
  rw [show (onT o) = flags_on o.f_All o.f_Explain o.f_Ignore o.f_Keep o.f_Dry o.f_Touch from rfl, on_all]
  cases flags_on o.f_All o.f_Explain o.f_Ignore o.f_Keep o.f_Dry o.f_Touch != [45] with
  | true => rw [if_pos rfl, if_pos rfl, if_pos (by simp [LIM]), h62 _ (by simp)]; rfl
  | false => rw [if_neg (by decide), if_neg (by decide), h62 _ (by simp)]
end Go.Proofs.YtcijochjfncefaaGreatDoor
