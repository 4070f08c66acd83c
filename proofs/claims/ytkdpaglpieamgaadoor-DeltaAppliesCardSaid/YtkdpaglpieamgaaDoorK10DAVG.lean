/- A part of a proof: DAVG. -/
import Derived.Test.YtkdpaglpieamgaaDoorK10DAVF
namespace Go.Proofs.YtkdpaglpieamgaaDoor
open Go Go.AM Go.ChangeShapes Go.ChangeAt Go.RowKit
set_option linter.unusedVariables false
set_option linter.unusedSimpArgs false
set_option maxRecDepth 100000
theorem wrL {i : Nat} (h : i < 4611686018427387904) : IntKind.i64.wrap ((i : Int) + 1) = ((i + 1 : Nat) : Int) := by rw [w64 (by omega) (by omega)]; rfl
def low (s : Tx) (out : List Tx) : List Tx := out.takeWhile fun x => Op.bytesLess x s
def high (s : Tx) (out : List Tx) : List Tx := out.dropWhile fun x => Op.bytesLess x s
theorem low_high (s : Tx) (out : List Tx) : low s out ++ high s out = out := List.takeWhile_append_dropWhile
theorem pos_loop (k : Nat) (a out : List Tx) (v4 : Int) (s : Tx) (ho : out.length ≤ 10000) : ∀ (l : List Tx) (fuel i : Nat), out.drop i = l → l.length < fuel → R01_Sorted.l30 k a out v4 s fuel (i : Int) = some (((i + (low s l).length : Nat)) : Int)
  | _, 0, _, _, h => by omega
  | [], f + 1, i, hl, _ => by
    have := at_nil hl
    unfold R01_Sorted.l30 R01_Sorted.j37
    rw [if_neg (by simp; omega), if_neg (by simp)]; simp [low]
  | x :: r, f + 1, i, hl, hf => by
    obtain ⟨g1, g2, g3⟩ := at_drop hl
    have ih := pos_loop k a out v4 s ho r f (i + 1) g2 (by simpa using hf)
    unfold R01_Sorted.l30 R01_Sorted.j37 R01_Sorted.j34
    rw [if_pos (by simp; exact g3), rix g1, wr1 (by omega), ih]
    unfold low
    cases h : Op.bytesLess x s
    · rw [if_neg (by simp), List.takeWhile_cons_of_neg (by simp [h])]; simp
    · rw [if_pos rfl, List.takeWhile_cons_of_pos (by simp [h]), List.length_cons]
      congr 2; omega
def insT (s : Tx) (out : List Tx) : List Tx := if (high s out).head? = some s then out else low s out ++ s :: high s out
theorem insT_spec (s : Tx) {out : List Tx} (h : Strict out) : Strict (insT s out) ∧ ∀ x, x ∈ insT s out ↔ x = s ∨ x ∈ out := by
  have hlow : ∀ x ∈ low s out, Op.bytesLess x s = true := fun x hx => by
    have := List.all_takeWhile (p := fun x => Op.bytesLess x s) (l := out)
    exact List.all_eq_true.1 this x hx
  unfold insT
  by_cases hh : (high s out).head? = some s
  · rw [if_pos hh]
    refine ⟨h, fun x => ⟨.inr, ?_⟩⟩
    rintro (rfl | hx)
    · rw [← low_high x out]
      exact List.mem_append.2 (.inr (List.mem_of_mem_head? hh))
    · exact hx
  · rw [if_neg hh]
    have hs := h
    rw [← low_high s out] at hs
    obtain ⟨p1, p2, p3⟩ := List.pairwise_append.1 hs
    have hhigh : ∀ x ∈ high s out, Op.bytesLess s x = true := by
      cases e : high s out with
      | nil => intro x hx; cases hx
      | cons y r =>
        have hy : ¬ Op.bytesLess y s = true := by
          have := List.head?_dropWhile_not (p := fun x => Op.bytesLess x s) (l := out)
          show ¬ (fun x => Op.bytesLess x s) y = true
          have e' : (List.dropWhile (fun x => Op.bytesLess x s) out).head? = some y := by
            show (high s out).head? = some y
            rw [e]; rfl
          rw [e'] at this
          simpa using this
        have hne : y ≠ s := fun e2 => hh (by rw [e, e2]; rfl)
        have hsy : Op.bytesLess s y = true := by
          rcases less_total hne with h' | h'
          · exact absurd h' hy
          · exact h'
        rw [e] at p2
        intro x hx
        rcases List.mem_cons.1 hx with rfl | hx
        · exact hsy
        · exact less_trans hsy ((List.pairwise_cons.1 p2).1 x hx)
    refine ⟨List.pairwise_append.2 ⟨p1, List.pairwise_cons.2 ⟨hhigh, p2⟩, fun x hx y hy => ?_⟩, fun x => ?_⟩
    · rcases List.mem_cons.1 hy with rfl | hy
      · exact hlow x hx
      · exact p3 x hx y hy
    · rw [List.mem_append, List.mem_cons]
      have : x ∈ out ↔ x ∈ low s out ∨ x ∈ high s out := by rw [← List.mem_append, low_high]
      rw [this]
      constructor
      · rintro (h | h | h)
        · exact .inr (.inl h)
        · exact .inl h
        · exact .inr (.inr h)
      · rintro (h | h | h)
        · exact .inr (.inl h)
        · exact .inl h
        · exact .inr (.inr h)
theorem insT_len (s : Tx) (out : List Tx) : (insT s out).length ≤ out.length + 1 := by
  unfold insT
  split
  · omega
  · have := congrArg List.length (low_high s out)
    rw [List.length_append] at this ⊢
    simp only [List.length_cons]; omega
theorem ins_step (k : Nat) (rec : List Tx → Int → Option (List Tx)) (a out : List Tx) (i : Nat) (s : Tx) (hi : i < 100000) (ho : out.length ≤ 10000) : R01_Sorted.j28 k rec a out (i : Int) s (((low s out).length : Nat) : Int) = rec (insT s out) ((i + 1 : Nat) : Int) := by
  have hlen := congrArg List.length (low_high s out)
  rw [List.length_append] at hlen
  have htake : out.take (low s out).length = low s out := by
    have h := List.take_left (l₁ := low s out) (l₂ := high s out)
    rw [low_high] at h; exact h
  have hdrop : out.drop (low s out).length = high s out := by
    have h := List.drop_left (l₁ := low s out) (l₂ := high s out)
    rw [low_high] at h; exact h
  have hl : LIM = 4294967296 := rfl
  have e21 : R01_Sorted.j21 k rec a out (i : Int) s (((low s out).length : Nat) : Int) = rec (low s out ++ s :: high s out) ((i + 1 : Nat) : Int) := by
    unfold R01_Sorted.j21 R01_Sorted.j11
    have t1 : ((low s out).length : Int).toNat = (low s out).length := by omega
    have t2 : (out.length : Int).toNat = out.length := by omega
    rw [t1, t2, List.drop_zero, htake, Nat.zero_add, hdrop]
    have t3 : (high s out).take (out.length - (low s out).length) = high s out := List.take_of_length_le (by omega)
    rw [t3, if_pos ⟨by omega, by omega, by omega⟩, if_pos (by omega), if_pos (by simp; omega), if_pos (by simp; omega), if_pos ⟨by omega, by omega, by omega⟩, if_pos (by omega), if_pos (by simp; omega), wr1 (by omega)]
    simp
  unfold R01_Sorted.j28 R01_Sorted.j24 R01_Sorted.j11
  rw [e21]
  unfold insT
  cases e : high s out with
  | nil =>
    rw [e] at hlen
    simp only [List.length_nil] at hlen
    rw [if_neg (by rw [decide_eq_true_eq]; omega), if_neg (by simp), if_neg (by simp)]
  | cons y r =>
    have hlt : (low s out).length < out.length := by rw [e] at hlen; simp at hlen; omega
    have hg : out[(low s out).length]? = some y := by
      have := congrArg (fun l => l[0]?) hdrop
      simpa [e] using this
    have hidx : idx out (((low s out).length : Nat) : Int) = some y := by
      rw [idx_at rfl hlt]
      rw [List.getElem?_eq_getElem hlt] at hg
      exact hg
    rw [if_pos (by rw [decide_eq_true_eq]; omega), rix hidx, wr1 (by omega)]
    by_cases hy : y = s
    · rw [if_pos (by simpa using hy), if_pos (by simp [hy])]
    · rw [if_neg (by simpa using hy), if_neg (by simp [hy])]
theorem rsort_loop (k : Nat) (a : List Tx) (ha : a.length ≤ 1000) (hk : 20000 < k) : ∀ (l : List Tx) (fuel i : Nat) (out : List Tx), a.drop i = l → l.length < fuel → out.length ≤ i → i ≤ a.length → Strict out →
    ∃ T, R01_Sorted.l5 k a fuel out (i : Int) = some T ∧ Strict T ∧ ∀ x, x ∈ T ↔ x ∈ out ∨ x ∈ l
  | _, 0, _, _, _, h, _, _, _ => by omega
  | [], f + 1, i, out, hl, _, _, _, hs => by
    have := at_nil hl
    unfold R01_Sorted.l5
    exact ⟨out, by rw [if_neg (by simp; omega)], hs, fun x => by simp⟩
  | s :: r, f + 1, i, out, hl, hf, ho, hia, hs => by
    obtain ⟨g1, g2, g3⟩ := at_drop hl
    obtain ⟨q1, q2⟩ := insT_spec s hs
    have hln := insT_len s out
    obtain ⟨T, e1, e2, e3⟩ := rsort_loop k a ha hk r f (i + 1) (insT s out) g2 (by simpa using hf) (by omega) (by omega) q1
    refine ⟨T, ?_, e2, fun x => ?_⟩
    · unfold R01_Sorted.l5
      have e0 : R01_Sorted.l30 k a out (i : Int) s k 0 = _ := pos_loop k a out (i : Int) s (by omega) out k 0 rfl (by omega)
      rw [if_pos (by simp; exact g3), g1, Option.bind_some, e0, Option.bind_some, Nat.zero_add, ins_step k _ a out i s (by omega) (by omega), e1]
    · rw [e3, q2, List.mem_cons]
      constructor
      · rintro ((h | h) | h)
        · exact .inr (.inl h)
        · exact .inl h
        · exact .inr (.inr h)
      · rintro (h | h | h)
        · exact .inl (.inr h)
        · exact .inl (.inl h)
        · exact .inr h
theorem rsort_eq (k : Nat) (a : List Tx) (ha : a.length ≤ 1000) (hk : 20000 < k) : R01_Sorted.f k a = some (sortedS a) := by
  unfold R01_Sorted.f R01_Sorted.j2
  obtain ⟨T, e1, e2, e3⟩ := rsort_loop k a ha hk a k 0 [] rfl (by omega) (by simp) (by omega) .nil
  have e1 : R01_Sorted.l5 k a k [] 0 = some T := e1
  obtain ⟨h1, h2⟩ := sortedS_spec a
  have : T = sortedS a := strict_eq T (sortedS a) e2 h1 fun x => by rw [e3, h2]; simp
  rw [e1, this]; rfl

theorem alive_k (K : Nat) : W41_alive.f (K + 40000) = some true := by kernel_rfl
theorem num_k (K : Nat) : ∀ e : Fin 19, Nm_Num.f (K + 40000) e.val = some (e.val : Int)
  | ⟨0, _⟩ => by kernel_rfl
  | ⟨1, _⟩ => by kernel_rfl
  | ⟨2, _⟩ => by kernel_rfl
  | ⟨3, _⟩ => by kernel_rfl
  | ⟨4, _⟩ => by kernel_rfl
  | ⟨5, _⟩ => by kernel_rfl
  | ⟨6, _⟩ => by kernel_rfl
  | ⟨7, _⟩ => by kernel_rfl
  | ⟨8, _⟩ => by kernel_rfl
  | ⟨9, _⟩ => by kernel_rfl
  | ⟨10, _⟩ => by kernel_rfl
  | ⟨11, _⟩ => by kernel_rfl
  | ⟨12, _⟩ => by kernel_rfl
  | ⟨13, _⟩ => by kernel_rfl
  | ⟨14, _⟩ => by kernel_rfl
  | ⟨15, _⟩ => by kernel_rfl
  | ⟨16, _⟩ => by kernel_rfl
  | ⟨17, _⟩ => by kernel_rfl
  | ⟨18, _⟩ => by kernel_rfl
  | ⟨n + 19, h⟩ => absurd h (by omega)
theorem num_e (K : Nat) {e : Nat} (h : e ≤ 18) : Nm_Num.f (K + 40000) e = some (e : Int) := num_k K ⟨e, by omega⟩

def filesOf (l : List Ch) : List Fl := l.flatMap fun c => [c.fO, c.fW]
theorem llong_loop (k : Nat) (a : List Ch) (ha : a.length * 88 ≤ 140737488351232) : ∀ (l : List Ch) (fuel i : Nat) (out : List Fl), a.drop i = l → l.length < fuel → out.length = 2 * i → W41_long.l7 k a fuel out (i : Int) = some (out ++ filesOf l)
  | _, 0, _, _, _, h, _ => by omega
  | [], f + 1, i, out, hl, _, _ => by
    have := at_nil hl
    unfold W41_long.l7
    rw [if_neg (by simp; omega)]; simp [filesOf]
  | c :: r, f + 1, i, out, hl, hf, ho => by
    obtain ⟨g1, g2, g3⟩ := at_drop hl
    have e := llong_loop k a ha r f (i + 1) (out ++ [c.fO, c.fW]) g2 (by simpa using hf) (by simp; omega)
    unfold W41_long.l7
    rw [if_pos (by simp; exact g3), g1, Option.bind_some, fl_eta, fl_eta, if_pos (by simp; omega), wrL (by omega), e]; simp [filesOf]
theorem llong_eq (k : Nat) (a : List Ch) (ha : a.length * 88 ≤ 140737488351232) (hk : a.length < k) (hk2 : 1000 < k) : ∃ b, W41_long.f k a = some b ∧ (b = false → a.length ≤ 40 ∧ ∀ c ∈ a, c.fW.fN.length ≤ 100) := by
  unfold W41_long.f W41_long.j4
  have e : W41_long.l7 k a k [] 0 = _ := llong_loop k a ha a k 0 [] rfl hk rfl
  rw [e, Option.bind_some]
  by_cases h : decide ((a.length : Int) > 40) = true
  · rw [if_pos h]; exact ⟨true, rfl, fun h => by cases h⟩
  · rw [if_neg h]
    obtain ⟨b, e1, e2⟩ := long_f2 k hk2 ([] ++ filesOf a) 80 (by omega)
    rw [e1]
    refine ⟨b, rfl, fun hb => ⟨by simp at h; omega, fun c hc => ?_⟩⟩
    exact (e2 hb).2 _ (List.mem_append.2 (.inr (List.mem_flatMap.2 ⟨c, hc, by simp⟩)))
theorem tlong_loop (k : Nat) (a : List Tx) (m : Int) (ha : a.length ≤ 1000) : ∀ (l : List Tx) (fuel i : Nat), a.drop i = l → l.length < fuel → ∃ o, Nm_Long.l4 k a m fuel (i : Int) = some o
  | _, 0, _, _, h => by omega
  | [], f + 1, i, hl, _ => by
    have := at_nil hl
    unfold Nm_Long.l4
    exact ⟨_, by rw [if_neg (by simp; omega)]⟩
  | x :: r, f + 1, i, hl, hf => by
    obtain ⟨g1, g2, g3⟩ := at_drop hl
    obtain ⟨o, e⟩ := tlong_loop k a m ha r f (i + 1) g2 (by simpa using hf)
    unfold Nm_Long.l4
    rw [if_pos (by simp; exact g3), g1, Option.bind_some, wr1 (by omega), e]
    split
    · exact ⟨_, rfl⟩
    · exact ⟨_, rfl⟩
theorem tlong_eq (k : Nat) (hk : 1000 < k) (a : List Tx) : ∃ b, Nm_Long.f k a 20 60 = some b ∧ (b = false → a.length ≤ 20) := by
  unfold Nm_Long.f
  by_cases h : decide ((a.length : Int) > 20) = true
  · rw [if_pos h]; exact ⟨true, rfl, fun h => by cases h⟩
  · rw [if_neg h]
    have hl : a.length ≤ 20 := by simp at h; omega
    obtain ⟨o, e⟩ := tlong_loop k a 60 (by omega) a k 0 rfl (by omega)
    have e : Nm_Long.l4 k a 60 k 0 = some o := e
    rw [e, Option.bind_some]
    cases o
    · exact ⟨_, rfl, fun _ => hl⟩
    · exact ⟨_, rfl, fun _ => hl⟩

def ckC (c : Ch) : Nat :=
  if c.fK = 1 then (if feqB c.fO fl0 then 0 else 3) else if c.fK = 2 then (if c.fO.fN = c.fW.fN ∧ feqB c.fO c.fW = false then 0 else 3) else if c.fK = 3 then (if feqB c.fW fl0 then 0 else 3) else 17
theorem ckC_le (c : Ch) : ckC c ≤ 18 := by
  unfold ckC
  repeat' split
  all_goals omega
theorem feq0 (f : Fl) : (f.fN == [] && (f.fC == [] && (f.fT == 0 && true))) = feqB f fl0 := rfl
theorem ckC_eq (k : Nat) (c : Ch) : delta_Change_check.f k c = some (ckC c) := by
  unfold delta_Change_check.f delta_Change_check.j7 delta_Change_check.j1 ckC
  rw [feq0, feq0]
  have hq : (c.fO.fN == c.fW.fN && (c.fO.fC == c.fW.fC && (c.fO.fT == c.fW.fT && true))) = feqB c.fO c.fW := rfl
  rw [hq]
  by_cases h1 : c.fK = 1
  · rw [if_pos (by simpa using h1), if_pos h1]
    cases feqB c.fO fl0 <;> rfl
  · rw [if_neg (by simpa using h1), if_neg h1]
    by_cases h2 : c.fK = 2
    · rw [if_pos (by simpa using h2), if_pos h2]
      by_cases hn : c.fO.fN = c.fW.fN
      · cases feqB c.fO c.fW <;> simp [hn]
      · simp [hn]
    · rw [if_neg (by simpa using h2), if_neg h2]
      by_cases h3 : c.fK = 3
      · rw [if_pos (by simpa using h3), if_pos h3]
        cases feqB c.fW fl0 <;> rfl
      · rw [if_neg (by simpa using h3), if_neg h3]
def firstE : List Ch → Nat
  | [] => 0
  | c :: r => if ckC c = 0 then firstE r else ckC c
theorem firstE_le : ∀ l : List Ch, firstE l ≤ 18
  | [] => by simp [firstE]
  | c :: r => by unfold firstE; split; exact firstE_le r; exact ckC_le c
def chkS (l : List Ch) : Nat := if firstE l = 0 then (if (l.map nmC).Nodup then 0 else 9) else firstE l
theorem chkS_le (l : List Ch) : chkS l ≤ 18 := by
  unfold chkS
  split
  · split <;> omega
  · exact firstE_le l
theorem mput_old {n : Tx} {v : Int} : ∀ {m : KV Int}, Rising m → mget n m ≠ none → (mput n v m).length = m.length
  | [], _, h => absurd rfl h
  | y :: r, hr, h => by
    obtain ⟨h1, h2⟩ := List.pairwise_cons.1 hr
    unfold mput
    by_cases e : y.1 = n
    · rw [if_pos e]; rfl
    · rw [if_neg e]
      have hr' : mget n r ≠ none := by unfold mget at h; rw [if_neg e] at h; exact h
      cases hl : Op.bytesLess n y.1 with
      | true =>
        exfalso
        refine hr' (mget_none.2 fun z hz e2 => ?_)
        have := less_trans hl (h1 z hz); rw [e2, less_irrefl] at this; cases this
      | false => simp [mput_old h2 hr']
theorem dchk_loop (k : Nat) (L : List Ch) (hL : L.length ≤ 1000) : ∀ (l : List Ch) (fuel i : Nat) (seen : KV Int), L.drop i = l → l.length < fuel → i ≤ L.length → Rising seen → (∀ n, mget n seen ≠ none ↔ n ∈ (L.take i).map nmC) → (if ((L.take i).map nmC).Nodup then seen.length = i else seen.length < i) →
    (firstE l ≠ 0 ∧ delta_Check.l6 k L fuel seen (i : Int) = some (.inr (firstE l))) ∨ (firstE l = 0 ∧ ∃ seen', delta_Check.l6 k L fuel seen (i : Int) = some (.inl seen') ∧ if (L.map nmC).Nodup then seen'.length = L.length else seen'.length < L.length)
  | _, 0, _, _, _, h, _, _, _, _ => by omega
  | [], f + 1, i, seen, hl, _, hi, _, _, h2 => by
    have h0 := at_nil hl
    right
    unfold delta_Check.l6
    refine ⟨rfl, seen, by rw [if_neg (by simp; omega)], ?_⟩
    have e : L.take i = L := List.take_of_length_le h0
    have e2 : i = L.length := by omega
    rw [e, e2] at h2; exact h2
  | c :: r, f + 1, i, seen, hl, hf, hi, hr, h1, h2 => by
    obtain ⟨g1, g2, g3⟩ := at_drop hl
    have htk : (L.take (i + 1)).map nmC = (L.take i).map nmC ++ [nmC c] := by
      rw [List.take_add_one, ← List.head?_drop, hl]; simp
    have step : delta_Check.l6 k L (f + 1) seen (i : Int) = if ckC c = 0 then delta_Check.l6 k L f (mput (nmC c) (IntKind.i64.wrap (((mget (nmC c) seen).getD 0) + 1)) seen) ((i + 1 : Nat) : Int) else some (.inr (ckC c)) := by
      rw [delta_Check.l6]
      rw [if_pos (by simp; exact g3), g1, Option.bind_some, ch_eta, ckC_eq, Option.bind_some]
      by_cases h0 : ckC c = 0
      · rw [if_neg (by simp [h0]), if_pos h0, name_eq, Option.bind_some, wr1 (by omega)]
      · rw [if_pos (by simpa using h0), if_neg h0]
    have hfe : firstE (c :: r) = if ckC c = 0 then firstE r else ckC c := rfl
    rw [step, hfe]
    by_cases h0 : ckC c = 0
    · rw [if_pos h0, if_pos h0]
      refine dchk_loop k L hL r f (i + 1) _ g2 (by simpa using hf) (by omega) hr.put (fun n => ?_) ?_
      · rw [htk, List.mem_append, List.mem_singleton, ← h1]
        by_cases e : n = nmC c
        · subst e; rw [mget_put_same]; simp
        · rw [mget_put_ne _ e]; simp [e]
      · rw [htk]
        by_cases hin : nmC c ∈ (L.take i).map nmC
        · have hlen := mput_old (v := IntKind.i64.wrap (((mget (nmC c) seen).getD 0) + 1)) hr ((h1 _).2 hin)
          have hnn : ¬ ((L.take i).map nmC ++ [nmC c]).Nodup := fun hn => (List.nodup_append.1 hn).2.2 _ hin _ (List.mem_singleton.2 rfl) rfl
          rw [if_neg hnn, hlen]
          split at h2 <;> omega
        · have hnone : mget (nmC c) seen = none := by
            cases e : mget (nmC c) seen with
            | none => rfl
            | some v => exact absurd ((h1 _).1 (by rw [e]; simp)) hin
          have hlen := mput_new (v := IntKind.i64.wrap (((mget (nmC c) seen).getD 0) + 1)) hnone
          rw [hlen]
          by_cases hn : ((L.take i).map nmC).Nodup
          · rw [if_pos hn] at h2
            rw [if_pos (List.nodup_append.2 ⟨hn, by simp, fun x hx y hy e => by
              rw [List.mem_singleton] at hy; subst hy; subst e; exact hin hx⟩)]; omega
          · rw [if_neg hn] at h2
            rw [if_neg fun h => hn (List.nodup_append.1 h).1]; omega
    · rw [if_neg h0, if_neg h0]
      exact .inl ⟨h0, rfl⟩
theorem dchk_eq (k : Nat) (hk : 1000 < k) (L : List Ch) (hL : L.length ≤ 1000) : delta_Check.f k L = some (chkS L) := by
  unfold delta_Check.f delta_Check.j3 chkS
  rcases dchk_loop k L hL L k 0 [] rfl (by omega) (by omega) .nil (fun n => by simp [mget]) (by simp) with ⟨h1, h2⟩ | ⟨h1, seen, h2, h3⟩
  · have h2 : delta_Check.l6 k L k [] 0 = _ := h2
    rw [h2, if_neg h1]; rfl
  · have h2 : delta_Check.l6 k L k [] 0 = _ := h2
    rw [h2, if_pos h1, Option.bind_some]
    simp only
    split at h3
    · rename_i hn
      rw [if_neg (by rw [decide_eq_true_eq]; omega), if_pos hn]
    · rename_i hn
      rw [if_pos (by rw [decide_eq_true_eq]; omega), if_neg hn]
theorem rck1 (k : Nat) (rec : Int → Option (Sum Unit Int)) (a : List Rc) (i : Nat) (hi : i < 1000000) (c : Ch) :
    (if ((toR c).fK != 1) then (if ((toR c).fK != 2) then R41_Check.j51 k rec a (i : Int) (toR c) ((toR c).fK != 3) else R41_Check.j51 k rec a (i : Int) (toR c) false) else R41_Check.j51 k rec a (i : Int) (toR c) false) =
      if ckC c = 0 then rec ((i + 1 : Nat) : Int) else some (.inr (ckC c : Int)) := by
  have e1 : (toR c).fK = c.fK := rfl
  have e2 : (toR c).fO = c.fO := rfl
  have e3 : (toR c).fW = c.fW := rfl
  have h33 : ∀ b, R41_Check.j33 k rec a (i : Int) b = if b then some (.inr 3) else rec ((i + 1 : Nat) : Int) := fun b => by
    unfold R41_Check.j33 R41_Check.j29
    rw [wr1 hi]
  have hq : (c.fO.fN == c.fW.fN && (c.fO.fC == c.fW.fC && (c.fO.fT == c.fW.fT && true))) = feqB c.fO c.fW := rfl
  unfold R41_Check.j51 R41_Check.j48 ckC
  simp only [e1, e2, e3, feq0, hq, h33]
  by_cases h1 : c.fK = 1
  · rw [h1]
    cases feqB c.fO fl0 <;> simp
  · by_cases h2 : c.fK = 2
    · rw [h2]
      by_cases hn : c.fO.fN = c.fW.fN
      · cases feqB c.fO c.fW <;> simp [hn]
      · simp [hn]
    · by_cases h3 : c.fK = 3
      · rw [h3]
        cases feqB c.fW fl0 <;> simp
      · simp [h1, h2, h3]
theorem rname_eq (k : Nat) (c : Ch) : R41_Name.f k (toR c) = some (nmC c) := by
  have e1 : (toR c).fK = c.fK := rfl
  unfold R41_Name.f nmC
  rw [e1]
  by_cases h : c.fK = 1
  · rw [if_pos (by simpa using h), if_pos h]; rfl
  · rw [if_neg (by simpa using h), if_neg h]; rfl
theorem rc_eta (c : Rc) : TR41C.mk c.fK (TF.mk c.fO.fN c.fO.fC c.fO.fT) (TF.mk c.fW.fN c.fW.fC c.fW.fT) = c := by
  cases c with | mk a b d => cases b; cases d; rfl
theorem rck_loop (k : Nat) (L : List Ch) (hL : L.length ≤ 1000) : ∀ (l : List Ch) (fuel i : Nat), L.drop i = l → l.length < fuel → R41_Check.l25 k (L.map toR) fuel (i : Int) = some (if firstE l = 0 then .inl () else .inr (firstE l : Int))
  | _, 0, _, _, h => by omega
  | [], f + 1, i, hl, _ => by
    have := at_nil hl
    unfold R41_Check.l25
    rw [if_neg (by simp; omega)]; rfl
  | c :: r, f + 1, i, hl, hf => by
    obtain ⟨g1, g2, g3⟩ := at_drop hl
    have g1' : idx (L.map toR) (i : Int) = some (toR c) := by
      rw [idx_at rfl g3] at g1
      rw [idx_at rfl (by simpa using g3), List.getElem_map, Option.some.inj g1]
    have ih := rck_loop k L hL r f (i + 1) g2 (by simpa using hf)
    unfold R41_Check.l25 firstE
    rw [if_pos (by simp; exact g3), g1', Option.bind_some, rck1 k _ _ i (by omega) c]
    by_cases h0 : ckC c = 0
    · rw [if_pos h0, if_pos h0, ih]
    · rw [if_neg h0, if_neg h0, if_neg h0]
theorem rdup1_loop (k : Nat) (a : List Rc) (v2 : Int) (c : Ch) (P : List Ch) (hP : P.length ≤ 1000) : ∀ (l : List Ch) (fuel i : Nat), P.drop i = l → l.length < fuel → R41_Check.l11 k a v2 (toR c) (P.map toR) fuel (i : Int) = some (if nmC c ∈ l.map nmC then .inr 9 else .inl ())
  | _, 0, _, _, h => by omega
  | [], f + 1, i, hl, _ => by
    have := at_nil hl
    unfold R41_Check.l11
    rw [if_neg (by simp; omega)]; simp
  | d :: r, f + 1, i, hl, hf => by
    obtain ⟨g1, g2, g3⟩ := at_drop hl
    have g1' : idx (P.map toR) (i : Int) = some (toR d) := by
      rw [idx_at rfl g3] at g1
      rw [idx_at rfl (by simpa using g3), List.getElem_map, Option.some.inj g1]
    have ih := rdup1_loop k a v2 c P hP r f (i + 1) g2 (by simpa using hf)
    unfold R41_Check.l11
    rw [if_pos (by simp; exact g3), g1', Option.bind_some, rc_eta, rc_eta, rname_eq, Option.bind_some, rname_eq, Option.bind_some, wr1 (by omega), ih, List.map_cons]
    by_cases h : nmC c = nmC d
    · rw [if_pos (by simpa using h), if_pos (by rw [h]; exact List.mem_cons_self)]
    · rw [if_neg (by simpa using h)]
      simp [h]
theorem rdup_loop (k : Nat) (L : List Ch) (hL : L.length ≤ 1000) (hk : 2000 < k) : ∀ (l : List Ch) (fuel i : Nat), L.drop i = l → l.length < fuel → i ≤ L.length → ((L.take i).map nmC).Nodup → R41_Check.l3 k (L.map toR) fuel (i : Int) = some (if (L.map nmC).Nodup then .inl () else .inr 9)
  | _, 0, _, _, h, _, _ => by omega
  | [], f + 1, i, hl, _, hi, hn => by
    have h0 := at_nil hl
    unfold R41_Check.l3
    have e : L.take i = L := List.take_of_length_le h0
    rw [e] at hn
    rw [if_neg (by simp; omega), if_pos hn]
  | c :: r, f + 1, i, hl, hf, hi, hn => by
    obtain ⟨g1, g2, g3⟩ := at_drop hl
    have g1' : idx (L.map toR) (i : Int) = some (toR c) := by
      rw [idx_at rfl g3] at g1
      rw [idx_at rfl (by simpa using g3), List.getElem_map, Option.some.inj g1]
    have htk : (L.take (i + 1)).map nmC = (L.take i).map nmC ++ [nmC c] := by
      rw [List.take_add_one, ← List.head?_drop, hl]; simp
    have hpl : (L.take i).length = i := by simp; omega
    have e11 : R41_Check.l11 k (L.map toR) (i : Int) (toR c) ((L.take i).map toR) k 0 = _ := rdup1_loop k (L.map toR) (i : Int) c (L.take i) (by omega) (L.take i) k 0 rfl (by omega)
    unfold R41_Check.l3 R41_Check.j7
    rw [if_pos (by simp; exact g3), g1', Option.bind_some, sub_to rfl rfl (by simp; omega), Option.bind_some, ← List.map_take, e11, Option.bind_some]
    by_cases hin : nmC c ∈ (L.take i).map nmC
    · have hnn : ¬ (L.map nmC).Nodup := fun h => by
        have h2 : ((L.take (i + 1)).map nmC).Nodup := by
          rw [List.map_take]; exact h.sublist (List.take_sublist _ _)
        rw [htk] at h2
        exact (List.nodup_append.1 h2).2.2 _ hin _ (List.mem_singleton.2 rfl) rfl
      rw [if_pos hin, if_neg hnn]
    · rw [if_neg hin]
      simp only
      rw [wr1 (by omega)]
      refine rdup_loop k L hL hk r f (i + 1) g2 (by simpa using hf) (by omega) ?_
      rw [htk]
      exact List.nodup_append.2 ⟨hn, by simp, fun x hx y hy e => by
        rw [List.mem_singleton] at hy; subst hy; subst e; exact hin hx⟩
theorem rchk_eq (k : Nat) (hk : 2000 < k) (L : List Ch) (hL : L.length ≤ 1000) : R41_Check.f k (L.map toR) = some (chkS L : Int) := by
  unfold R41_Check.f R41_Check.j23 R41_Check.j1 chkS
  have e1 : R41_Check.l25 k (L.map toR) k 0 = _ := rck_loop k L hL L k 0 rfl (by omega)
  have e2 : R41_Check.l3 k (L.map toR) k 0 = _ := rdup_loop k L hL hk L k 0 rfl (by omega) (by omega) (by simp)
  rw [e1, e2]
  by_cases h : firstE L = 0
  · rw [if_pos h, if_pos h]
    by_cases hn : (L.map nmC).Nodup
    · rw [if_pos hn, if_pos hn]; rfl
    · rw [if_neg hn, if_neg hn]; rfl
  · rw [if_neg h, if_neg h]; rfl
end Go.Proofs.YtkdpaglpieamgaaDoor
