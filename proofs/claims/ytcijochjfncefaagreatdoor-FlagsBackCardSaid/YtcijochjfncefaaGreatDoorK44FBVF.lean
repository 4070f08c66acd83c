/- A part of a proof: FBVF. -/
import Derived.Test.YtcijochjfncefaaGreatDoorK44FBVE
namespace Go.Proofs.YtcijochjfncefaaGreatDoor
open Go Go.AM Go.ChangeShapes Go.ChangeAt Go.RowKit
set_option linter.unusedVariables false
set_option linter.unusedSimpArgs false
set_option maxRecDepth 100000
def pieces (s : Tx) : List Tx := Lib.splitK [44] 0 (s.count 44) s
theorem pieces_one {s : Tx} (h : (44 : UInt8) ∉ s) : pieces s = [s] := by
  unfold pieces
  rw [List.count_eq_zero.2 h]; rfl
theorem splitK_succ (sep : Tx) (save k : Nat) (s : Tx) : Lib.splitK sep save (k + 1) s = if Lib.index s sep == -1 then [s] else s.take ((Lib.index s sep).toNat + save) :: Lib.splitK sep save k (s.drop ((Lib.index s sep).toNat + sep.length)) := rfl
theorem pieces_cut {a b : Tx} (h : (44 : UInt8) ∉ a) : pieces (a ++ 44 :: b) = a :: pieces b := by
  unfold pieces
  rw [List.count_append, List.count_eq_zero.2 h, List.count_cons_self, Nat.zero_add, splitK_succ, Lib.index_one]
  rcases index_cases 44 (a ++ 44 :: b) with ⟨h1, _⟩ | ⟨a', b', h1, h2, h3⟩
  · exact absurd (by simp) h1
  · obtain ⟨rfl, rfl⟩ : a = a' ∧ b = b' := by
      have e1 : (a ++ 44 :: b).takeWhile (· != 44) = a := tw_cut h
      have e2 : (a' ++ 44 :: b').takeWhile (· != 44) = a' := tw_cut h2
      have e : a = a' := by rw [← e1, h1, e2]
      subst e
      exact ⟨rfl, by simpa using h1⟩
    rw [h3, if_neg (by simp)]
    simp
theorem pieces_ind {P : Tx → Prop} (h1 : ∀ s, (44 : UInt8) ∉ s → P s) (h2 : ∀ a b, (44 : UInt8) ∉ a → P b → P (a ++ 44 :: b)) : ∀ (n : Nat) (s : Tx), s.length ≤ n → P s
  | 0, s, h => h1 s (by have : s = [] := List.eq_nil_of_length_eq_zero (by omega); subst this; simp)
  | n + 1, s, h => by
    rcases index_cases 44 s with ⟨h3, _⟩ | ⟨a, b, rfl, h4, _⟩
    · exact h1 s h3
    · exact h2 a b h4 (pieces_ind h1 h2 n b (by simp at h; omega))
theorem pieces_len (s : Tx) : (pieces s).length ≤ s.length + 1 ∧ ∀ x ∈ pieces s, x.length ≤ s.length ∧ (44 : UInt8) ∉ x := by
  refine pieces_ind (P := fun s => (pieces s).length ≤ s.length + 1 ∧ ∀ x ∈ pieces s, x.length ≤ s.length ∧ (44 : UInt8) ∉ x) (fun s h => ?_) (fun a b ha hb => ?_) s.length s (Nat.le_refl _)
  · rw [pieces_one h]
    exact ⟨by simp, fun x hx => by obtain rfl := List.mem_singleton.1 hx; exact ⟨Nat.le_refl _, h⟩⟩
  · rw [pieces_cut ha]
    refine ⟨by have := hb.1; simp; omega, fun x hx => ?_⟩
    rcases List.mem_cons.1 hx with rfl | hx
    · exact ⟨by simp, ha⟩
    · have := hb.2 x hx
      exact ⟨by simp; omega, this.2⟩
theorem pieces_join : ∀ (l : List Tx) (x : Tx), (∀ y ∈ x :: l, (44 : UInt8) ∉ y) → pieces (Lib.join (x :: l) [44]) = x :: l
  | [], x, h => by rw [Lib.join_one]; exact pieces_one (h x (.head _))
  | y :: l, x, h => by
    have e : Lib.join (x :: y :: l) [44] = x ++ 44 :: Lib.join (y :: l) [44] := by
      rw [Lib.join_cons, Lib.join_cons]; simp [Lib.joinTail]
    rw [e, pieces_cut (h x (.head _)), pieces_join l y fun z hz => h z (List.mem_cons_of_mem _ hz)]
theorem pSplit_eq (k : Nat) (s : Tx) (h : s.length ≤ 1000000000) : pSplit.f k s [44] = some (pieces s) := by
  unfold pSplit.f piecesOf pieces
  have e1 : Lib.countB ⟨s.toArray⟩ ⟨#[44]⟩ = s.count 44 := by
    show Lib.count s.toArray.toList [44] = _
    rw [List.toList_toArray, Lib.count_one]
  show (if s.length < 4294967281 then _ else _) = _
  rw [if_pos (by omega), Lib.splitB_data, e1]
def newsS : List Tx → List Tx → Nat × List Tx
  | [], acc => (0, acc)
  | x :: r, acc => if right x then newsS r (acc ++ [x]) else (4, acc)
def nxS2 (args : List Tx) : Tx × Bool × List Tx := match args with | [] => ([], false, []) | x :: r => (x, true, r)
def valS (args : List Tx) (b : Tx) : Tx × Nat × List Tx := if b == [] then (match args with | [] => ([], 16, []) | x :: r => (x, 0, r)) else (b, 0, args)
def setS (c : UInt8) (o : Op1) : Option Op1 :=
  if c == 97 then some { o with f_All := true } else if c == 101 then some { o with f_Explain := true } else if c == 105 then some { o with f_Ignore := true } else if c == 107 then some { o with f_Keep := true } else if c == 110 then some { o with f_Dry := true } else if c == 116 then some { o with f_Touch := true } else none
def newsR (args : List Tx) (o : Op1) (b : Tx) : Nat × List Tx × List Tx :=
  if (valS args b).2.1 != 0 then ((valS args b).2.1, (valS args b).2.2, o.f_News) else ((newsS (pieces (valS args b).1) o.f_News).1, (valS args b).2.2, (newsS (pieces (valS args b).1) o.f_News).2)
def fileR (args : List Tx) (o : Op1) (b : Tx) : Nat × List Tx × Tx :=
  if (valS args b).2.1 != 0 then ((valS args b).2.1, (valS args b).2.2, o.f_File) else if right (valS args b).1 then (0, (valS args b).2.2, (valS args b).1) else (4, (valS args b).2.2, o.f_File)
def flagsS (args : List Tx) (o : Op1) : Tx → Nat × List Tx × Op1
  | [] => (0, args, o)
  | c :: t => if c == 119 then ((newsR args o t).1, (newsR args o t).2.1, { o with f_News := (newsR args o t).2.2 })
    else if c == 102 then ((fileR args o t).1, (fileR args o t).2.1, { o with f_File := (fileR args o t).2.2 })
    else match setS c o with | none => (16, args, o) | some o' => flagsS args o' t
def varR (o : Op1) (name value : Tx) : Nat × Op1 :=
  let r := splN (run value [] 0 [])
  let v : Vr := ⟨name, r.1, 2, false⟩
  if r.2 != 0 then (r.2, o) else if chk v != 0 then (chk v, o) else if name == nproc then (if num r.1 == 0 then (1, o) else (0, { o with f_Nproc := num r.1, f_Vars := o.f_Vars ++ [v] })) else (0, { o with f_Vars := o.f_Vars ++ [v] })
def valueOf (s : Tx) : Tx := s.drop ((s.takeWhile (· != 61)).length + 1)
def oneS (args : List Tx) (o : Op1) (s : Tx) : Nat × List Tx × Op1 :=
  if s.head? == some 45 then (if s.tail == [] then (16, args, o) else flagsS args o s.tail)
  else if asg s then ((varR o (s.takeWhile (· != 61)) (valueOf s)).1, args, (varR o (s.takeWhile (· != 61)) (valueOf s)).2)
  else if right s then (0, args, { o with f_Goals := o.f_Goals ++ [s] }) else (4, args, o)
def zeroO : Op1 := ⟨false, false, false, false, false, false, [], [], [], 0, []⟩
def initO : Op1 := ⟨false, false, false, false, false, false, [], [], [109, 107, 102, 105, 108, 101], 1, []⟩
def parseS : Nat → List Tx → Op1 → Op1 × Nat
  | 0, _, o => (o, 0)
  | _ + 1, [], o => (o, 0)
  | n + 1, s :: r, o => if (oneS r o s).1 != 0 then (zeroO, (oneS r o s).1) else parseS n (oneS r o s).2.1 (oneS r o s).2.2
theorem next_eq (k : Nat) (args : List Tx) (o : Op1) : flags_reader_next_m0.f k args o.f_All o.f_Explain o.f_Ignore o.f_Keep o.f_Dry o.f_Touch o.f_News o.f_Goals o.f_File o.f_Nproc o.f_Vars = some (nxS2 args) := by
  unfold flags_reader_next_m0.f nxS2
  cases args with
  | nil => rfl
  | cons x r =>
    rw [if_neg (by simp; omega)]
    have e0 : idx (x :: r) 0 = some x := rfl
    have e1 : sub (x :: r) 1 ((x :: r).length : Int) = some r := sub_from (a := 1) (v := 1) rfl rfl (by simp)
    rw [e0, Option.bind_some, e1]; rfl
theorem value_eq (k : Nat) (args : List Tx) (o : Op1) (b : Tx) : flags_reader_value_m0.f k args o.f_All o.f_Explain o.f_Ignore o.f_Keep o.f_Dry o.f_Touch o.f_News o.f_Goals o.f_File o.f_Nproc o.f_Vars b = some (valS args b) := by
  unfold flags_reader_value_m0.f valS
  rw [next_eq, Option.bind_some]
  cases b with
  | nil => cases args <;> rfl
  | cons x r => rfl
theorem news_loop (k : Nat) (hk : 100000 < k) (b1 b2 b3 b4 b5 b6 : Bool) (g : List Tx) (fi : Tx) (np : Int) (vs : List Vr) (v1 : Tx × Nat × List Tx) (a : List Tx) (ha : a.length ≤ 900001) (hx : ∀ x ∈ a, x.length ≤ 900000) : ∀ (l : List Tx) (fuel i : Nat) (acc : List Tx), a.drop i = l → l.length < fuel → acc.length ≤ 1000000000 + i → (∀ x ∈ l, x.length < k) →
    flags_reader_news_m0.l8 k b1 b2 b3 b4 b5 b6 g fi np vs v1 a fuel acc (i : Int) = some (if (newsS l acc).1 == 0 then .inl (newsS l acc).2 else .inr (4, v1.2.2, (newsS l acc).2))
  | _, 0, _, _, _, h, _, _ => by omega
  | [], f + 1, i, acc, hl, _, _, _ => by
    have := at_nil hl
    unfold flags_reader_news_m0.l8
    rw [if_neg (by simp; omega)]; rfl
  | x :: r, f + 1, i, acc, hl, hf, hc, hxk => by
    obtain ⟨g1, g2, g3⟩ := at_drop hl
    have hx0 : x.length ≤ 900000 := hx x (List.mem_of_mem_drop (by rw [hl]; exact .head _))
    unfold flags_reader_news_m0.l8 newsS
    rw [if_pos (by simp; exact g3), g1, Option.bind_some, right_eq k x (by omega) (hxk x (.head _)), Option.bind_some]
    cases right x with
    | false => rfl
    | true =>
      rw [if_neg (by decide), if_pos (by have : LIM = 4294967296 := rfl; simp; omega), wr1 (by omega), news_loop k hk b1 b2 b3 b4 b5 b6 g fi np vs v1 a ha hx r f (i + 1) (acc ++ [x]) g2 (by simpa using hf) (by simp; omega) fun y hy => hxk y (List.mem_cons_of_mem _ hy)]
      rfl
theorem newsS_01 : ∀ (l acc : List Tx), (newsS l acc).1 = 0 ∨ (newsS l acc).1 = 4
  | [], _ => .inl rfl
  | x :: r, acc => by
    unfold newsS
    cases right x with
    | true => exact newsS_01 r _
    | false => exact .inr rfl
theorem valS_len {args : List Tx} {b : Tx} (ha : ∀ x ∈ args, x.length ≤ 900000) (hb : b.length ≤ 900000) : (valS args b).1.length ≤ 900000 := by
  unfold valS
  cases b with
  | nil => cases args with
    | nil => simp
    | cons x r => exact ha x (.head _)
  | cons x r => exact hb
theorem news_eq (k : Nat) (hk : 1000000 < k) (args : List Tx) (o : Op1) (b : Tx) (ha : ∀ x ∈ args, x.length ≤ 900000) (hb : b.length ≤ 900000) (hn : o.f_News.length ≤ 1000000000) : flags_reader_news_m0.f k args o.f_All o.f_Explain o.f_Ignore o.f_Keep o.f_Dry o.f_Touch o.f_News o.f_Goals o.f_File o.f_Nproc o.f_Vars b = some (newsR args o b) := by
  unfold flags_reader_news_m0.f newsR
  rw [value_eq, Option.bind_some]
  have hv := valS_len ha hb
  generalize valS args b = v at *
  have e0 : (!(v.2.1 == 0)) = (v.2.1 != 0) := rfl
  rw [e0]
  by_cases h : (v.2.1 != 0) = true
  · rw [if_pos h, if_pos h]
  · rw [if_neg h, if_neg h, pSplit_eq k _ (by omega), Option.bind_some]
    have hp := pieces_len v.1
    have e : flags_reader_news_m0.l8 k o.f_All o.f_Explain o.f_Ignore o.f_Keep o.f_Dry o.f_Touch o.f_Goals o.f_File o.f_Nproc o.f_Vars v (pieces v.1) k o.f_News 0 = _ :=
      news_loop k (by omega) o.f_All o.f_Explain o.f_Ignore o.f_Keep o.f_Dry o.f_Touch o.f_Goals o.f_File o.f_Nproc o.f_Vars v (pieces v.1) (by have := hp.1; omega) (fun x hx => by have := (hp.2 x hx).1; omega) (pieces v.1) k 0 o.f_News rfl (by have := hp.1; omega) (by omega) (fun x hx => by have := (hp.2 x hx).1; omega)
    rw [e, Option.bind_some]
    rcases newsS_01 (pieces v.1) o.f_News with h0 | h0
    · rw [h0]; rfl
    · rw [h0]; rfl
theorem file_eq (k : Nat) (hk : 1000000 < k) (args : List Tx) (o : Op1) (b : Tx) (ha : ∀ x ∈ args, x.length ≤ 900000) (hb : b.length ≤ 900000) : flags_reader_file_m0.f k args o.f_All o.f_Explain o.f_Ignore o.f_Keep o.f_Dry o.f_Touch o.f_News o.f_Goals o.f_File o.f_Nproc o.f_Vars b = some (fileR args o b) := by
  unfold flags_reader_file_m0.f fileR
  rw [value_eq, Option.bind_some]
  have hv := valS_len ha hb
  generalize valS args b = v at *
  have e0 : (!(v.2.1 == 0)) = (v.2.1 != 0) := rfl
  rw [e0]
  by_cases h : (v.2.1 != 0) = true
  · rw [if_pos h, if_pos h]
  · rw [if_neg h, if_neg h, right_eq k _ (by omega) (by omega), Option.bind_some]
    cases right v.1 <;> rfl
def letN (c : UInt8) : Int := if c == 97 then 0 else if c == 101 then 1 else if c == 105 then 2 else if c == 107 then 3 else if c == 110 then 4 else if c == 116 then 5 else -1
theorem letI_all : ∀ n : Fin 256, Lib.indexByte [97, 101, 105, 107, 110, 116] ((n.val : Int).toNat.toUInt8) = letN n.val.toUInt8 := by decide +kernel
theorem letI_eq (k : Nat) (c : UInt8) : pIndexByte.f k [97, 101, 105, 107, 110, 116] (c.toNat : Int) = some (letN c) := by
  have := letI_all ⟨c.toNat, c.toNat_lt⟩
  simp only [pIndexByte.f]
  rw [this]
  congr 2
  simp
def flatF (r : Nat × List Tx × Op1) : Nat × (List Tx) × Bool × Bool × Bool × Bool × Bool × Bool × (List Tx) × Tx :=
  (r.1, r.2.1, r.2.2.f_All, r.2.2.f_Explain, r.2.2.f_Ignore, r.2.2.f_Keep, r.2.2.f_Dry, r.2.2.f_Touch, r.2.2.f_News, r.2.2.f_File)
def endF (args : List Tx) (n : List Tx) (f : Tx) (r : Sum (Bool × Bool × Bool × Bool × Bool × Bool) (Nat × (List Tx) × Bool × Bool × Bool × Bool × Bool × Bool × (List Tx) × Tx)) : Nat × (List Tx) × Bool × Bool × Bool × Bool × Bool × Bool × (List Tx) × Tx :=
  match r with | .inl u => (0, args, u.1, u.2.1, u.2.2.1, u.2.2.2.1, u.2.2.2.2.1, u.2.2.2.2.2, n, f) | .inr u => u
theorem flags_loop (k : Nat) (hk : 1000000 < k) (args : List Tx) (ha : ∀ x ∈ args, x.length ≤ 900000) (s : Tx) (hs : s.length ≤ 900000) : ∀ (t : Tx) (fuel i : Nat) (o : Op1), s.drop i = t → t.length < fuel → o.f_News.length ≤ 1000000000 →
    ∃ r, flags_reader_flags_m0.l k args o.f_News o.f_Goals o.f_File o.f_Nproc o.f_Vars s fuel o.f_All o.f_Explain o.f_Ignore o.f_Keep o.f_Dry o.f_Touch (i : Int) = some r ∧ endF args o.f_News o.f_File r = flatF (flagsS args o t)
  | _, 0, _, _, _, h, _ => by omega
  | [], f + 1, i, o, hl, _, _ => by
    have := at_nil hl
    unfold flags_reader_flags_m0.l
    rw [if_neg (by simp; omega)]
    exact ⟨_, rfl, rfl⟩
  | c :: t, f + 1, i, o, hl, hf, hn => by
    obtain ⟨g1, g2, g3⟩ := at_drop hl
    have ht : t.length ≤ 900000 := by rw [← g2]; simp; omega
    have hsub : sub s (IntKind.i64.wrap ((i : Int) + 1)) (s.length : Int) = some t := by rw [wr1 (by omega), sub_from rfl rfl (by omega), g2]
    have e1 : ((c.toNat : Int) == 119) = (c == 119) := u8_eq (b := 119)
    have e2 : ((c.toNat : Int) == 102) = (c == 102) := u8_eq (b := 102)
    unfold flags_reader_flags_m0.l flagsS
    rw [if_pos (by simp; exact g3), g1, Option.bind_some, e1, e2, hsub, Option.bind_some, Option.bind_some, letI_eq, Option.bind_some]
    by_cases h1 : (c == 119) = true
    · rw [if_pos h1, if_pos h1, news_eq k hk args o t ha ht hn, Option.bind_some]
      exact ⟨_, rfl, rfl⟩
    · rw [if_neg h1, if_neg h1]
      by_cases h2 : (c == 102) = true
      · rw [if_pos h2, if_pos h2, file_eq k hk args o t ha ht, Option.bind_some]
        exact ⟨_, rfl, rfl⟩
      · rw [if_neg h2, if_neg h2, wr1 (by omega)]
        have ih := fun (o' : Op1) (hn' : o'.f_News.length ≤ 1000000000) => flags_loop k hk args ha s hs t f (i + 1) o' g2 (by simpa using hf) hn'
        unfold letN setS
        by_cases h3 : (c == 97) = true
        · rw [if_pos h3, if_pos h3]; exact ih { o with f_All := true } hn
        rw [if_neg h3, if_neg h3]
        by_cases h4 : (c == 101) = true
        · rw [if_pos h4, if_pos h4]; exact ih { o with f_Explain := true } hn
        rw [if_neg h4, if_neg h4]
        by_cases h5 : (c == 105) = true
        · rw [if_pos h5, if_pos h5]; exact ih { o with f_Ignore := true } hn
        rw [if_neg h5, if_neg h5]
        by_cases h6 : (c == 107) = true
        · rw [if_pos h6, if_pos h6]; exact ih { o with f_Keep := true } hn
        rw [if_neg h6, if_neg h6]
        by_cases h7 : (c == 110) = true
        · rw [if_pos h7, if_pos h7]; exact ih { o with f_Dry := true } hn
        rw [if_neg h7, if_neg h7]
        by_cases h8 : (c == 116) = true
        · rw [if_pos h8, if_pos h8]; exact ih { o with f_Touch := true } hn
        rw [if_neg h8, if_neg h8]
        exact ⟨_, rfl, rfl⟩
theorem flags_eq (k : Nat) (hk : 1000000 < k) (args : List Tx) (o : Op1) (s : Tx) (ha : ∀ x ∈ args, x.length ≤ 900000) (hs : s.length ≤ 900000) (hn : o.f_News.length ≤ 1000000000) :
    flags_reader_flags_m0.f k args o.f_All o.f_Explain o.f_Ignore o.f_Keep o.f_Dry o.f_Touch o.f_News o.f_Goals o.f_File o.f_Nproc o.f_Vars s = some (flatF (if s == [] then (16, args, o) else flagsS args o s)) := by
  unfold flags_reader_flags_m0.f
  by_cases h : (s == []) = true
  · rw [if_pos h, if_pos h]; rfl
  · rw [if_neg h, if_neg h]
    obtain ⟨r, h1, h2⟩ := flags_loop k hk args ha s hs s k 0 o rfl (by omega) hn
    have h1' : flags_reader_flags_m0.l k args o.f_News o.f_Goals o.f_File o.f_Nproc o.f_Vars s k o.f_All o.f_Explain o.f_Ignore o.f_Keep o.f_Dry o.f_Touch 0 = some r := h1
    rw [h1', Option.bind_some, ← h2]
    cases r <;> rfl
theorem run_bd (B : Nat) : ∀ (t : Tx) (out : List Tx) (st : Nat) (w : Tx), (∀ x ∈ out, x.length ≤ B) → w.length + t.length ≤ B → (∀ x ∈ (run t out st w).1, x.length ≤ B) ∧ (run t out st w).2.2.length ≤ B
  | [], out, st, w, h1, h2 => ⟨h1, by simpa [run] using h2⟩
  | b :: t, out, st, w, h1, h2 => by
    have hst : (∀ x ∈ (stp b out st w).1, x.length ≤ B) ∧ (stp b out st w).2.2.length ≤ w.length + 1 := by
      have hn : ∀ st', (∀ x ∈ (norm b out st' w).1, x.length ≤ B) ∧ (norm b out st' w).2.2.length ≤ w.length + 1 := fun st' => by
        have hw : w.length ≤ B := by omega
        unfold norm
        repeat' split
        all_goals first
          | exact ⟨h1, by simp⟩
          | (refine ⟨fun x hx => ?_, by simp⟩
             rcases List.mem_append.1 hx with hx | hx
             · exact h1 x hx
             · obtain rfl := List.mem_singleton.1 hx; exact hw)
      unfold stp
      split
      · split
        · exact ⟨h1, by simp⟩
        · exact hn 1
      · exact hn st
    exact run_bd B t _ _ _ hst.1 (by have := hst.2; simp at h2; omega)
theorem spl_cases (r : MS) : (splN r).1 = [] ∨ (splN r).1 = r.1 ++ [r.2.2] ∨ (splN r).1 = r.1 := by
  unfold splN
  by_cases h : r.2.1 = 2
  · rw [if_pos h]; exact .inl rfl
  · rw [if_neg h]
    unfold fin
    rw [if_neg h]
    by_cases h' : r.2.1 ≠ 0
    · rw [if_pos h']; exact .inr (.inl rfl)
    · rw [if_neg h']; exact .inr (.inr rfl)
theorem spl_bd (t : Tx) : ∀ x ∈ (splN (run t [] 0 [])).1, x.length ≤ t.length := by
  have h := run_bd t.length t [] 0 [] (fun x hx => by cases hx) (by simp)
  intro x hx
  rcases spl_cases (run t [] 0 []) with e | e | e <;> rw [e] at hx
  · cases hx
  · rcases List.mem_append.1 hx with hx | hx
    · exact h.1 x hx
    · obtain rfl := List.mem_singleton.1 hx; exact h.2
  · exact h.1 x hx
theorem spl_len (t : Tx) : (splN (run t [] 0 [])).1.length ≤ t.length + 1 := by
  have h := run_len t [] 0 []
  simp only [List.length_nil, Nat.zero_add] at h
  rcases spl_cases (run t [] 0 []) with e | e | e <;> rw [e]
  · simp
  · simp; exact h
  · omega
theorem check_big (k : Nat) (hk : 1000000 < k) (v : Vr) (h1 : v.fN.length ≤ 100000) (h2 : v.f_Words.length ≤ 100000) : env_Check.f k v = some (chk v) := by
  unfold env_Check.f chk
  rw [Name_eq k _ (by omega) (by omega), Option.bind_some]
  have hj : ∀ b, env_Check.j9 k v b = some (if b then 1 else if v.f_Words.length > 40 then 10 else if anyLong v.f_Words = true then 2 else 0) := fun b => by
    unfold env_Check.j9 env_Check.j1
    rw [contains_eq k v.f_Words (by omega) (by omega)]
    cases b
    · simp only [Bool.false_eq_true, if_false]
      by_cases h : v.f_Words.length > 40
      · rw [if_pos (by rw [decide_eq_true_eq]; omega), if_pos h]
      · rw [if_neg (by rw [decide_eq_true_eq]; omega), if_neg h, Option.bind_some]
        cases anyLong v.f_Words <;> rfl
    · rfl
  rw [hj, hj]
  cases okNm v.fN
  · rfl
  · simp only [Bool.not_true, Bool.false_eq_true, if_false, Bool.true_eq_false]
    by_cases h : v.f_Level < 0
    · simp [h]
    · by_cases h' : v.f_Level > 2
      · simp [h, h']
      · simp [h, h']
theorem variable_eq (k : Nat) (hk : 1000000 < k) (args : List Tx) (o : Op1) (name value : Tx) (h1 : name.length ≤ 99990) (h2 : value.length ≤ 99990) (hv : o.f_Vars.length ≤ 1000000000) :
    flags_reader_variable_m0.f k args o.f_All o.f_Explain o.f_Ignore o.f_Keep o.f_Dry o.f_Touch o.f_News o.f_Goals o.f_File o.f_Nproc o.f_Vars name value = some ((varR o name value).1, (varR o name value).2.f_Nproc, (varR o name value).2.f_Vars) := by
  unfold flags_reader_variable_m0.f varR
  rw [splitP_eq k value (by omega) (by omega), Option.bind_some]
  have hl := spl_len value
  have hb := spl_bd value
  generalize splN (run value [] 0 []) = r at *
  simp only
  have e0 : (!(r.2 == 0)) = (r.2 != 0) := rfl
  rw [e0]
  by_cases h : (r.2 != 0) = true
  · rw [if_pos h, if_pos h]
  · rw [if_neg h, if_neg h, check_big k hk ⟨name, r.1, 2, false⟩ (by show name.length ≤ _; omega) (by show r.1.length ≤ _; omega), Option.bind_some]
    have e : (!(chk ⟨name, r.1, 2, false⟩ == 0)) = (chk ⟨name, r.1, 2, false⟩ != 0) := rfl
    rw [e]
    by_cases h' : (chk ⟨name, r.1, 2, false⟩ != 0) = true
    · rw [if_pos h', if_pos h']
    · rw [if_neg h', if_neg h', number_eq k r.1 (fun w hw => by have := hb w hw; omega), Option.bind_some]
      have hj : ∀ n, flags_reader_variable_m0.j7 k args o.f_All o.f_Explain o.f_Ignore o.f_Keep o.f_Dry o.f_Touch o.f_News o.f_Goals o.f_File o.f_Vars name r n = some (0, n, o.f_Vars ++ [⟨name, r.1, 2, false⟩]) := fun n => by
        unfold flags_reader_variable_m0.j7
        rw [if_pos (by have : LIM = 4294967296 := rfl; simp; omega)]
      rw [hj, hj]
      show (if (name == nproc) = true then _ else _) = _
      by_cases h3 : (name == nproc) = true
      · rw [if_pos h3, if_pos h3]
        by_cases h4 : (num r.1 == 0) = true
        · rw [if_pos h4, if_pos h4]
        · rw [if_neg h4, if_neg h4]
      · rw [if_neg h3, if_neg h3]
def flatO (r : Nat × List Tx × Op1) : Nat × (List Tx) × Bool × Bool × Bool × Bool × Bool × Bool × (List Tx) × (List Tx) × Tx × Int × (List Vr) :=
  (r.1, r.2.1, r.2.2.f_All, r.2.2.f_Explain, r.2.2.f_Ignore, r.2.2.f_Keep, r.2.2.f_Dry, r.2.2.f_Touch, r.2.2.f_News, r.2.2.f_Goals, r.2.2.f_File, r.2.2.f_Nproc, r.2.2.f_Vars)
theorem setS_kept {c : UInt8} {o o' : Op1} (h : setS c o = some o') : o'.f_Goals = o.f_Goals ∧ o'.f_Nproc = o.f_Nproc ∧ o'.f_Vars = o.f_Vars ∧ o'.f_News = o.f_News ∧ o'.f_File = o.f_File := by
  unfold setS at h
  repeat' split at h
  all_goals first
    | (cases h; exact ⟨rfl, rfl, rfl, rfl, rfl⟩)
    | cases h
theorem flagsS_kept (args : List Tx) : ∀ (t : Tx) (o : Op1), (flagsS args o t).2.2.f_Goals = o.f_Goals ∧ (flagsS args o t).2.2.f_Nproc = o.f_Nproc ∧ (flagsS args o t).2.2.f_Vars = o.f_Vars
  | [], o => ⟨rfl, rfl, rfl⟩
  | c :: t, o => by
    unfold flagsS
    split
    · exact ⟨rfl, rfl, rfl⟩
    · split
      · exact ⟨rfl, rfl, rfl⟩
      · split
        · exact ⟨rfl, rfl, rfl⟩
        · rename_i o' h
          obtain ⟨g1, g2, g3, _⟩ := setS_kept h
          obtain ⟨k1, k2, k3⟩ := flagsS_kept args t o'
          exact ⟨k1.trans g1, k2.trans g2, k3.trans g3⟩
theorem varR_kept (o : Op1) (name value : Tx) : let o' := (varR o name value).2; o'.f_All = o.f_All ∧ o'.f_Explain = o.f_Explain ∧ o'.f_Ignore = o.f_Ignore ∧ o'.f_Keep = o.f_Keep ∧ o'.f_Dry = o.f_Dry ∧ o'.f_Touch = o.f_Touch ∧ o'.f_News = o.f_News ∧ o'.f_Goals = o.f_Goals ∧ o'.f_File = o.f_File := by
  unfold varR
  simp only
  repeat' split
  all_goals exact ⟨rfl, rfl, rfl, rfl, rfl, rfl, rfl, rfl, rfl⟩
def okArg (s : Tx) : Prop := s.length ≤ 900000 ∧ (s.head? ≠ some 45 → s.length ≤ 99000)
theorem cutp_eq (k : Nat) (s : Tx) (hs : s.length ≤ 900000) (h1 : s.length ≤ 100000 ∨ s.head? = some 45) : strings_CutPrefix.f k s [45] = some (if s.head? == some 45 then (s.tail, true) else (s, false)) := by
  have hp : stringslite_HasPrefix.f k s [45] = some (s.head? == some 45) := by
    unfold stringslite_HasPrefix.f
    cases s with
    | nil => rfl
    | cons a r =>
      rw [if_pos (by simp; omega)]
      have e : sub (a :: r) 0 (([45] : Tx).length : Int) = some [a] := by rw [sub_to rfl rfl (by simp)]; rfl
      rw [e]; simp
  unfold strings_CutPrefix.f stringslite_CutPrefix.f
  rw [hp, Option.bind_some]
  cases s with
  | nil => rfl
  | cons a r =>
    by_cases h : ((a :: r).head? == some 45) = true
    · rw [h, if_neg (by decide), show sub (a :: r) (([45] : Tx).length : Int) ((a :: r).length : Int) = some r from sub_from (a := 1) rfl rfl (by simp), Option.bind_some, Option.bind_some]; rfl
    · rw [if_neg h, if_pos (by simpa using h)]; rfl
theorem one_eq (k : Nat) (hk : 1000000 < k) (args : List Tx) (o : Op1) (s : Tx) (ha : ∀ x ∈ args, x.length ≤ 900000) (hs : okArg s) (hn : o.f_News.length ≤ 1000000000) (hg : o.f_Goals.length ≤ 1000000000) (hv : o.f_Vars.length ≤ 1000000000) :
    flags_reader_one_m0.f k args o.f_All o.f_Explain o.f_Ignore o.f_Keep o.f_Dry o.f_Touch o.f_News o.f_Goals o.f_File o.f_Nproc o.f_Vars s = some (flatO (oneS args o s)) := by
  unfold flags_reader_one_m0.f oneS
  by_cases h : (s.head? == some 45) = true
  · rw [cutp_eq k s hs.1 (.inr (by simpa using h)), Option.bind_some, if_pos h, if_pos h]
    simp only [if_true]
    rw [flags_eq k hk args o s.tail ha (by have := hs.1; simp; omega) hn, Option.bind_some]
    by_cases h' : (s.tail == []) = true
    · rw [if_pos h']; rfl
    · rw [if_neg h']
      obtain ⟨k1, k2, k3⟩ := flagsS_kept args s.tail o
      unfold flatF flatO
      rw [k1, k2, k3]
  · have hl : s.length ≤ 99000 := hs.2 (by simpa using h)
    have hj5 : flags_reader_one_m0.j5 k args o.f_All o.f_Explain o.f_Ignore o.f_Keep o.f_Dry o.f_Touch o.f_News o.f_Goals o.f_File o.f_Nproc o.f_Vars s = some (flatO (if right s then (0, args, { o with f_Goals := o.f_Goals ++ [s] }) else (4, args, o))) := by
      unfold flags_reader_one_m0.j5 flags_reader_goal_m0.f
      rw [right_eq k s (by omega) (by omega), Option.bind_some]
      cases right s with
      | false => rfl
      | true => rw [if_neg (by decide), if_pos (by have : LIM = 4294967296 := rfl; simp; omega), Option.bind_some]; rfl
    rw [cutp_eq k s hs.1 (.inl (by omega)), Option.bind_some, if_neg h, if_neg h]
    simp only [Bool.false_eq_true, if_false]
    unfold asg flags_reader_one_m0.j10
    rcases cut_cases k s 61 (by omega) with ⟨g1, g2⟩ | ⟨a, b, g1, g2, g3⟩
    · rw [g2, Option.bind_some, decide_eq_false g1]
      simp only [Bool.false_eq_true, if_false, Bool.false_and]
      exact hj5
    · have e1 : s.takeWhile (· != 61) = a := by rw [g1]; exact tw_cut g2
      have e2 : valueOf s = b := by unfold valueOf; rw [e1, g1]; simp
      have e3 : decide ((61 : UInt8) ∈ s) = true := by rw [g1]; simp
      have hsl : s.length = a.length + (b.length + 1) := by rw [g1]; simp
      rw [g3, Option.bind_some, e1, e2, e3]
      simp only [if_true, Bool.true_and]
      rw [Name_eq k a (by omega) (by omega), Option.bind_some]
      cases okNm a with
      | false => simp only [Bool.false_eq_true, if_false]; exact hj5
      | true =>
        simp only [if_true]
        rw [variable_eq k hk args o a b (by omega) (by omega) hv, Option.bind_some]
        obtain ⟨q1, q2, q3, q4, q5, q6, q7, q8, q9⟩ := varR_kept o a b
        unfold flatO
        rw [q1, q2, q3, q4, q5, q6, q7, q8, q9]
end Go.Proofs.YtcijochjfncefaaGreatDoor
