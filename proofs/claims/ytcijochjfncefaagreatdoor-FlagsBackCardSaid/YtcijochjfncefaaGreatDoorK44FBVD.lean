/- A part of a proof: FBVD. -/
import Derived.Test.YtcijochjfncefaaGreatDoorK44FBVC
namespace Go.Proofs.YtcijochjfncefaaGreatDoor
open Go Go.AM Go.ChangeShapes Go.ChangeAt Go.RowKit
set_option linter.unusedVariables false
set_option linter.unusedSimpArgs false
set_option maxRecDepth 100000
theorem quo_len (s : Tx) : (quo s).length ≤ 2 * s.length + 2 := by
  unfold quo
  have := dbl_length s
  split
  · omega
  · simp only [List.length_append, List.length_cons, List.length_nil]; omega
theorem jt_len (sep : Tx) (m : Nat) : ∀ l : List Tx, (∀ x ∈ l, x.length ≤ m) → (Lib.joinTail sep l).length ≤ (sep.length + m) * l.length
  | [], _ => by simp [Lib.joinTail]
  | x :: l, h => by
    have h1 := h x (.head _)
    have h2 := jt_len sep m l fun y hy => h y (List.mem_cons_of_mem _ hy)
    have e : Lib.joinTail sep (x :: l) = sep ++ (x ++ Lib.joinTail sep l) := by simp [Lib.joinTail]
    rw [e, List.length_append, List.length_append, List.length_cons, Nat.mul_succ]; omega
theorem j_len (sep : Tx) (m : Nat) (l : List Tx) (h : ∀ x ∈ l, x.length ≤ m) : (Lib.join l sep).length ≤ (sep.length + m) * l.length := by
  cases l with
  | nil => simp [Lib.join_nil]
  | cons x l =>
    have h1 := h x (.head _)
    have h2 := jt_len sep m l fun y hy => h y (List.mem_cons_of_mem _ hy)
    rw [Lib.join_cons, List.length_append, List.length_cons, Nat.mul_succ]; omega
theorem mul_le {a n b : Nat} (h : n ≤ b) : a * n ≤ a * b := Nat.mul_le_mul_left a h
theorem news_len {o : Op1} (h : SmO o) : (Lib.join o.f_News [44]).length ≤ 10010000 :=
  Nat.le_trans (j_len [44] 1000 _ h.nw) (mul_le (a := 1 + 1000) h.n)
def wt (v : Vr) : Tx := Lib.join (v.f_Words.map quo) [32]
theorem wt_len {v : Vr} (h : smV v) : (wt v).length ≤ 20003000 :=
  Nat.le_trans (j_len [32] 20002 _ fun x hx => by
    obtain ⟨w, hw, rfl⟩ := List.mem_map.1 hx
    have := quo_len w
    have := h.2.2 w hw
    omega) (by rw [List.length_map]; exact mul_le (a := 1 + 20002) h.2.1)
theorem joinC_loop (k : Nat) (hk : 100000 < k) (l : List Tx) (hl : l.length ≤ 10000) (hx : ∀ x ∈ l, x.length ≤ 100000) : ∀ (r : List Tx) (fuel i : Nat) (acc : List Tx), l.drop i = r → r.length < fuel → acc.length = i → (∀ x ∈ r, x.length ≤ 10000) →
    quote_Join.l6 k l fuel acc (i : Int) = some (acc ++ r.map quo)
  | _, 0, _, _, _, h, _, _ => by omega
  | [], f + 1, i, acc, hr, _, _, _ => by
    have := at_nil hr
    unfold quote_Join.l6
    rw [if_neg (by simp; omega)]
    simp
  | x :: r, f + 1, i, acc, hr, hf, ha, hw => by
    obtain ⟨g1, g2, g3⟩ := at_drop hr
    have hx0 := hw x (.head _)
    unfold quote_Join.l6
    rw [if_pos (by simp; exact g3), g1, Option.bind_some, quote_eq k x (by omega) (by omega), Option.bind_some, if_pos (lim_ok (by omega)), wr1 (by omega), joinC_loop k hk l hl hx r f (i + 1) (acc ++ [quo x]) g2 (by simp at hf; omega) (by simp [ha]) fun y hy => hw y (List.mem_cons_of_mem _ hy)]
    simp
theorem joinC_eq (k : Nat) (hk : 100000 < k) (v : Vr) (h : smV v) : quote_Join.f k v.f_Words = some (wt v) := by
  unfold quote_Join.f quote_Join.j3
  have h2 := h.2.1
  have e : quote_Join.l6 k v.f_Words k [] 0 = _ := joinC_loop k hk v.f_Words (by omega) (fun x hx => by have := h.2.2 x hx; omega) v.f_Words k 0 [] rfl (by omega) rfl h.2.2
  rw [e, Option.bind_some, List.nil_append]
  unfold pJoin.f
  have hl := wt_len h
  unfold wt at hl
  rw [if_pos ⟨by rw [List.length_map]; omega, by omega⟩]; rfl
def lineV (v : Vr) : Tx := (v.fN ++ [61]) ++ wt v
def onT (o : Op1) : Tx := flags_on o.f_All o.f_Explain o.f_Ignore o.f_Keep o.f_Dry o.f_Touch
def newsT (o : Op1) : List Tx := if o.f_News = [] then [] else [[45, 119] ++ Lib.join o.f_News [44]]
def headT (o : Op1) : List Tx := flags_Text.h o ++ newsT o
def textO (o : Op1) : List Tx := (headT o ++ [[45, 102] ++ o.f_File]) ++ o.f_Vars.map lineV ++ o.f_Goals
theorem h_len (o : Op1) : (flags_Text.h o).length ≤ 1 := by unfold flags_Text.h; split <;> simp
theorem head_len (o : Op1) : (headT o).length ≤ 2 := by
  have := h_len o
  unfold headT newsT
  split <;> simp <;> omega
theorem textL_loop (k : Nat) (hk : 100000 < k) (vs : List Vr) (hv : vs.length ≤ 10000) : ∀ (l : List Vr) (fuel i : Nat) (acc : List Tx), vs.drop i = l → l.length < fuel → (∀ v ∈ l, smV v) → acc.length ≤ i + 10 →
    flags_Text.l k vs fuel acc (i : Int) = some (acc ++ l.map lineV)
  | _, 0, _, _, _, h, _, _ => by omega
  | [], f + 1, i, acc, hl, _, _, _ => by
    have := at_nil hl
    unfold flags_Text.l
    rw [if_neg (by simp; omega)]; simp
  | v :: r, f + 1, i, acc, hl, hf, hs, ha => by
    obtain ⟨g1, g2, g3⟩ := at_drop hl
    have hv0 := hs v (.head _)
    have h1 := hv0.1
    have h2 := wt_len hv0
    unfold flags_Text.l
    rw [if_pos (by simp; exact g3), g1, Option.bind_some, if_pos (by simp; omega), joinC_eq k hk v hv0, Option.bind_some, if_pos (by simp; omega), if_pos (lim_ok (by omega)), wr1 (by omega), textL_loop k hk vs hv r f (i + 1) _ g2 (by simpa using hf) (fun x hx => hs x (List.mem_cons_of_mem _ hx)) (by simp; omega)]
    simp [lineV]
theorem textW_eq (k : Nat) (o : Op1) (h : SmO o) : flags_Text.w k o = some (headT o) := by
  unfold flags_Text.w headT newsT
  have := h.n
  have h2 := news_len h
  cases hn : o.f_News with
  | nil => rw [if_neg (by simp), if_pos rfl, List.append_nil]
  | cons x r =>
    rw [if_pos (by simp), if_neg (by simp)]
    rw [hn] at this h2
    unfold pJoin.f
    rw [if_pos ⟨by omega, by omega⟩, Option.bind_some, if_pos (by simp; omega)]
theorem Text_eq (k : Nat) (hk : 100000 < k) (o : Op1) (h : SmO o) : flags_Text.f k o = some (if rightO o then (textO o, 0) else ([], 16)) := by
  unfold flags_Text.f
  rw [Right_eq k hk o h, Option.bind_some]
  cases rightO o with
  | false => rfl
  | true =>
    have hf := h.f
    have hv := h.v
    have hg := h.g
    have hh := head_len o
    have e : flags_Text.l k o.f_Vars k (headT o ++ [[45, 102] ++ o.f_File]) 0 = _ := textL_loop k hk o.f_Vars h.v o.f_Vars k 0 _ rfl (by omega) h.vw (by simp; omega)
    rw [if_neg (by decide), textW_eq k o h, Option.bind_some, if_pos (by simp; omega), e, Option.bind_some, if_pos (by have : LIM = 4294967296 := rfl; simp; omega)]
    rfl
theorem ib_len (b : Bool) (c : UInt8) : (if b then [c] else [] : Tx).length ≤ 1 := by cases b <;> simp
end Go.Proofs.YtcijochjfncefaaGreatDoor
