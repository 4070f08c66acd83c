/- A part of the proof of a given law: CYVB. Own work, printed in part by a program of mine. -/
import Derived.Test.YtlmhnhlmlhfigaaK42CYVA
namespace Go.Proofs.Ytlmhnhlmlhfigaa
open Go Go.AM Go.ChangeShapes Go.ChangeAt Go.RowKit
set_option linter.unusedVariables false
set_option linter.unusedSimpArgs false
set_option maxRecDepth 100000
abbrev Nd := T_cycle_Node
def Small (l : List Nd) : Prop := l.length ≤ 16 ∧ ∀ n ∈ l, n.f_To.length ≤ 8
def namesOf (l : List Nd) : List Tx := l.flatMap fun n => [n.f_Name] ++ n.f_To
def toOf (l : List Nd) (n : Tx) : List Tx := (l.filter fun x => x.f_Name == n).flatMap fun x => x.f_To
def namesL (l : List Nd) : List Tx := sortedS (namesOf l)
def suc (l : List Nd) (n : Tx) : List Tx := sortedS (toOf l n)
theorem lim2 {n m : Nat} (h : n + m ≤ 100000) : n + m ≤ LIM := by
  have : LIM = 4294967296 := rfl
  omega
theorem Small.tail {n : Nd} {l : List Nd} (h : Small (n :: l)) : Small l := ⟨by have := h.1; simp at this; omega, fun x hx => h.2 x (List.mem_cons_of_mem _ hx)⟩
theorem namesOf_len : ∀ {l : List Nd}, Small l → (namesOf l).length ≤ 9 * l.length
  | [], _ => by simp [namesOf]
  | n :: l, h => by
    have h1 := namesOf_len h.tail
    have h2 := h.2 n List.mem_cons_self
    unfold namesOf at h1 ⊢
    simp only [List.flatMap_cons, List.length_append, List.length_cons, List.length_nil]
    omega
theorem toOf_len (n : Tx) : ∀ {l : List Nd}, Small l → (toOf l n).length ≤ 8 * l.length
  | [], _ => by simp [toOf]
  | x :: l, h => by
    have h1 := toOf_len n h.tail
    have h2 := h.2 x List.mem_cons_self
    unfold toOf at h1 ⊢
    rw [List.filter_cons]
    split
    · simp only [List.flatMap_cons, List.length_append, List.length_cons]; omega
    · simp only [List.length_cons]; omega
theorem Small.names {l : List Nd} (h : Small l) : (namesL l).length ≤ 144 := sortedS_len _ _ (by have := namesOf_len h; have := h.1; omega)
theorem Small.suc {l : List Nd} (h : Small l) (n : Tx) : (suc l n).length ≤ 128 := sortedS_len _ _ (by have := toOf_len n h; have := h.1; omega)
theorem mem_suc {l : List Nd} {n m : Tx} : m ∈ suc l n ↔ ∃ x ∈ l, x.f_Name = n ∧ m ∈ x.f_To := by
  unfold Ytlmhnhlmlhfigaa.suc toOf
  rw [(sortedS_spec _).2, List.mem_flatMap]
  constructor
  · rintro ⟨x, hx, hm⟩
    obtain ⟨h1, h2⟩ := List.mem_filter.1 hx
    exact ⟨x, h1, by simpa using h2, hm⟩
  · rintro ⟨x, hx, hn, hm⟩
    exact ⟨x, List.mem_filter.2 ⟨hx, by simpa using hn⟩, hm⟩
theorem mem_names {l : List Nd} {m : Tx} : m ∈ namesL l ↔ ∃ x ∈ l, m = x.f_Name ∨ m ∈ x.f_To := by
  unfold namesL namesOf
  rw [(sortedS_spec _).2, List.mem_flatMap]
  constructor
  · rintro ⟨x, hx, hm⟩
    refine ⟨x, hx, ?_⟩
    simpa using hm
  · rintro ⟨x, hx, hm⟩
    exact ⟨x, hx, by simpa using hm⟩
theorem suc_names {l : List Nd} {n m : Tx} (h : m ∈ suc l n) : m ∈ namesL l ∧ n ∈ namesL l := by
  obtain ⟨x, hx, hn, hm⟩ := mem_suc.1 h
  exact ⟨mem_names.2 ⟨x, hx, .inr hm⟩, mem_names.2 ⟨x, hx, .inl hn.symm⟩⟩
theorem suc_strict (l : List Nd) (n : Tx) : Strict (suc l n) := (sortedS_spec _).1

theorem names1_loop (k : Nat) (a : List Nd) (ha : Small a) : ∀ (l : List Nd) (fuel i : Nat) (out : List Tx), a.drop i = l → l.length < fuel → out.length + 9 * l.length ≤ 1000 → cycle_Names.l6 k a fuel out (i : Int) = some (out ++ namesOf l)
  | _, 0, _, _, _, h, _ => by omega
  | [], f + 1, i, out, hl, _, _ => by
    have := at_nil hl
    unfold cycle_Names.l6
    rw [if_neg (by simp; omega)]; simp [namesOf]
  | x :: r, f + 1, i, out, hl, hf, ho => by
    obtain ⟨g1, g2, g3⟩ := at_drop hl
    have hx : x ∈ a := List.mem_of_mem_drop (by rw [hl]; exact List.mem_cons_self)
    have h8 := ha.2 x hx
    have hi := ha.1
    simp only [List.length_cons] at ho hf
    have ih := names1_loop k a ha r f (i + 1) (out ++ [x.f_Name] ++ x.f_To) g2 (by omega) (by simp; omega)
    unfold cycle_Names.l6
    rw [if_pos (by simp; exact g3), g1, Option.bind_some, if_pos (lim2 (by simp; omega)), if_pos (lim2 (by simp; omega)), wr1 (by omega), ih]
    simp [namesOf]
theorem names1_eq (k : Nat) (hk : 2000 < k) (a : List Nd) (ha : Small a) : cycle_Names.f k a = some (namesL a) := by
  unfold cycle_Names.f cycle_Names.j3
  have h1 := ha.1
  have h2 := namesOf_len ha
  have e : cycle_Names.l6 k a k [] 0 = _ := names1_loop k a ha a k 0 [] rfl (by omega) (by simp; omega)
  rw [e, Option.bind_some, List.nil_append, names_sorted k _ (by omega)]; rfl
theorem names2_loop (k : Nat) (a : List Nd) (ha : Small a) : ∀ (l : List Nd) (fuel i : Nat) (out : List Tx), a.drop i = l → l.length < fuel → out.length + 9 * l.length ≤ 1000 → millwrightref25_Names.l6 k a fuel out (i : Int) = some (out ++ namesOf l)
  | _, 0, _, _, _, h, _ => by omega
  | [], f + 1, i, out, hl, _, _ => by
    have := at_nil hl
    unfold millwrightref25_Names.l6
    rw [if_neg (by simp; omega)]; simp [namesOf]
  | x :: r, f + 1, i, out, hl, hf, ho => by
    obtain ⟨g1, g2, g3⟩ := at_drop hl
    have hx : x ∈ a := List.mem_of_mem_drop (by rw [hl]; exact List.mem_cons_self)
    have h8 := ha.2 x hx
    have hi := ha.1
    simp only [List.length_cons] at ho hf
    have ih := names2_loop k a ha r f (i + 1) (out ++ [x.f_Name] ++ x.f_To) g2 (by omega) (by simp; omega)
    unfold millwrightref25_Names.l6
    rw [if_pos (by simp; exact g3), g1, Option.bind_some, if_pos (lim2 (by simp; omega)), if_pos (lim2 (by simp; omega)), wr1 (by omega), ih]
    simp [namesOf]
theorem names2_eq (k : Nat) (hk : 20000 < k) (a : List Nd) (ha : Small a) : millwrightref25_Names.f k a = some (namesL a) := by
  unfold millwrightref25_Names.f millwrightref25_Names.j3
  have h1 := ha.1
  have h2 := namesOf_len ha
  have e : millwrightref25_Names.l6 k a k [] 0 = _ := names2_loop k a ha a k 0 [] rfl (by omega) (by simp; omega)
  rw [e, Option.bind_some, List.nil_append, rsort_eq k _ (by omega) hk]; rfl
theorem to2_loop (k : Nat) (a : List Nd) (ha : Small a) (n : Tx) : ∀ (l : List Nd) (fuel i : Nat) (out : List Tx), a.drop i = l → l.length < fuel → out.length + 8 * l.length ≤ 1000 → millwrightref25_To.l6 k a n fuel out (i : Int) = some (out ++ toOf l n)
  | _, 0, _, _, _, h, _ => by omega
  | [], f + 1, i, out, hl, _, _ => by
    have := at_nil hl
    unfold millwrightref25_To.l6
    rw [if_neg (by simp; omega)]; simp [toOf]
  | x :: r, f + 1, i, out, hl, hf, ho => by
    obtain ⟨g1, g2, g3⟩ := at_drop hl
    have hx : x ∈ a := List.mem_of_mem_drop (by rw [hl]; exact List.mem_cons_self)
    have h8 := ha.2 x hx
    have hi := ha.1
    simp only [List.length_cons] at ho hf
    have ih := fun out h => to2_loop k a ha n r f (i + 1) out g2 (by omega) h
    unfold millwrightref25_To.l6 millwrightref25_To.j12
    rw [if_pos (by simp; exact g3), g1, Option.bind_some]
    by_cases e : (x.f_Name == n) = true
    · rw [if_pos e, if_pos (lim2 (by omega)), wr1 (by omega), ih _ (by simp; omega)]
      simp [toOf, List.filter_cons, e]
    · rw [if_neg e, wr1 (by omega), ih _ (by omega)]
      simp only [toOf, List.filter_cons, if_neg e]
theorem to2_eq (k : Nat) (hk : 20000 < k) (a : List Nd) (ha : Small a) (n : Tx) : millwrightref25_To.f k a n = some (suc a n) := by
  unfold millwrightref25_To.f millwrightref25_To.j3
  have h1 := ha.1
  have h2 := toOf_len n ha
  have e : millwrightref25_To.l6 k a n k [] 0 = _ := to2_loop k a ha n a k 0 [] rfl (by omega) (by simp; omega)
  rw [e, Option.bind_some, List.nil_append, rsort_eq k _ (by omega) hk]; rfl
theorem arcsG_get (n : Tx) : ∀ (l : List Nd) (m : KV (List Tx)), (mget n (arcsG l m)).getD [] = (mget n m).getD [] ++ toOf l n
  | [], m => by simp [arcsG, toOf]
  | x :: l, m => by
    simp only [arcsG]
    rw [arcsG_get n l]
    by_cases e : x.f_Name = n
    · subst e
      rw [mget_put_same]
      simp [toOf, List.filter_cons]
    · rw [mget_put_ne _ (fun h => e h.symm)]
      simp [toOf, List.filter_cons, e]
theorem mput_len' {α : Type} {k : Tx} {v : α} : ∀ (m : KV α), (mput k v m).length ≤ m.length + 1
  | [] => by simp [mput]
  | y :: r => by
    unfold mput
    split
    · simp
    split
    · simp
    · have := mput_len' (k := k) (v := v) r
      simp; omega
theorem arcsG_length : ∀ (l : List Nd) (m : KV (List Tx)), (arcsG l m).length ≤ m.length + l.length
  | [], m => by simp [arcsG]
  | x :: l, m => by
    simp only [arcsG, List.length_cons]
    have h1 := arcsG_length l (mput x.f_Name ((mget x.f_Name m).getD [] ++ x.f_To) m)
    have h2 := mput_len' (k := x.f_Name) (v := (mget x.f_Name m).getD [] ++ x.f_To) m
    omega
theorem arcsG_rise : ∀ (l : List Nd) {m : KV (List Tx)}, Rising m → Rising (arcsG l m)
  | [], _, h => h
  | x :: l, _, h => arcsG_rise l (Rising.put h)
def arcsL (l : List Nd) : KV (List Tx) := (arcsG l []).map fun y => (y.1, sortedS y.2)
theorem arcsM_eq (k : Nat) : ∀ (m : KV (List Tx)), (∀ y ∈ m, y.2.length ≤ 100000) → arcsM k m = some (m.map fun y => (y.1, sortedS y.2))
  | [], _ => rfl
  | y :: r, h => by
    unfold arcsM
    rw [names_sorted k _ (h y List.mem_cons_self), Option.bind_some, arcsM_eq k r fun z hz => h z (List.mem_cons_of_mem _ hz)]; rfl
theorem mget_map {α β : Type} (f : α → β) (n : Tx) : ∀ m : KV α, mget n (m.map fun y => (y.1, f y.2)) = (mget n m).map f
  | [] => rfl
  | y :: r => by
    simp only [List.map_cons, mget, mget_map f n r]
    split <;> rfl
theorem arcsG_val {l : List Nd} {y : Tx × List Tx} (h : y ∈ arcsG l []) : y.2 = toOf l y.1 := by
  have h1 := mget_of (Rising.apart (arcsG_rise l .nil)) h
  have h2 := arcsG_get y.1 l []
  rw [h1] at h2
  simpa [mget] using h2
theorem arcs_eq (k : Nat) (a : List Nd) (ha : Small a) : cycle_arcsOf.f k a = some (arcsL a) := by
  unfold cycle_arcsOf.f
  have hs : (a.map fun n => n.f_To.length).sum ≤ 8 * a.length := by
    have : ∀ l : List Nd, Small l → (l.map fun n => n.f_To.length).sum ≤ 8 * l.length := by
      intro l
      induction l with
      | nil => intro _; simp
      | cons x l ih =>
        intro h
        have := ih h.tail
        have := h.2 x List.mem_cons_self
        simp only [List.map_cons, List.sum_cons, List.length_cons]; omega
    exact this a ha
  have h1 := ha.1
  have hL : LIM = 4294967296 := rfl
  rw [if_pos ⟨by omega, Nat.le_trans hs (by omega)⟩]
  exact arcsM_eq k _ fun y hy => by
    rw [arcsG_val hy]
    have := toOf_len y.1 ha
    omega
theorem arcsL_get (a : List Nd) (n : Tx) : (mget n (arcsL a)).getD [] = suc a n := by
  unfold arcsL suc
  rw [mget_map]
  have := arcsG_get n a []
  simp only [mget, Option.getD_none, List.nil_append] at this
  rw [← this]
  cases mget n (arcsG a []) with
  | none =>
    have : sortedS ([] : List Tx) = [] := by
      have := (sortedS_spec ([] : List Tx)).2
      exact List.eq_nil_iff_forall_not_mem.2 fun x hx => by have := (this x).1 hx; cases this
    simp [this]
  | some v => rfl
theorem arcsL_mem {a : List Nd} {y : Tx × List Tx} (h : y ∈ arcsL a) : y.2 = suc a y.1 := by
  unfold arcsL at h
  obtain ⟨z, hz, rfl⟩ := List.mem_map.1 h
  show sortedS z.2 = suc a z.1
  rw [arcsG_val hz]; rfl
theorem arcsL_key {a : List Nd} {n m : Tx} (h : m ∈ suc a n) : (n, suc a n) ∈ arcsL a := by
  have h1 := arcsL_get a n
  cases e : mget n (arcsL a) with
  | none => rw [e] at h1; simp only [Option.getD_none] at h1; rw [← h1] at h; cases h
  | some v =>
    rw [e] at h1
    simp only [Option.getD_some] at h1
    rw [← h1]; exact mget_mem e
theorem arcsL_len {a : List Nd} (ha : Small a) : (arcsL a).length ≤ 16 := by
  unfold arcsL
  have := arcsG_length a []
  have := ha.1
  simp at this ⊢; simp at *; omega
theorem to1_eq (k : Nat) (a : List Nd) (ha : Small a) (n : Tx) : cycle_To.f k a n = some (suc a n) := by
  unfold cycle_To.f
  rw [arcs_eq k a ha, Option.bind_some, arcsL_get]
theorem of_loop (k : Nat) (a : List Nd) (ha : a.length ≤ 16) : ∀ (l : List Nd) (fuel i : Nat) (out : List Nd), a.drop i = l → l.length < fuel → out.length ≤ i → i ≤ a.length → millwrightlaw25_Of.l5 k a fuel out (i : Int) = some (out ++ l)
  | _, 0, _, _, _, h, _, _ => by omega
  | [], f + 1, i, out, hl, _, _, _ => by
    have := at_nil hl
    unfold millwrightlaw25_Of.l5
    rw [if_neg (by simp; omega)]; simp
  | x :: r, f + 1, i, out, hl, hf, ho, hi => by
    obtain ⟨g1, g2, g3⟩ := at_drop hl
    have ih := of_loop k a ha r f (i + 1) (out ++ [x]) g2 (by simpa using hf) (by simp; omega) (by omega)
    unfold millwrightlaw25_Of.l5
    rw [if_pos (by simp; exact g3), g1, Option.bind_some]
    show (if out.length + [x].length ≤ LIM then _ else _) = _
    rw [if_pos (lim_ok (by omega)), wr1 (by omega)]
    show millwrightlaw25_Of.l5 k a f (out ++ [x]) _ = _
    rw [ih]; simp
theorem of_eq (k : Nat) (hk : 2000 < k) (a : List Nd) (ha : a.length ≤ 16) : millwrightlaw25_Of.f k a = some a := by
  unfold millwrightlaw25_Of.f millwrightlaw25_Of.j2
  have e : millwrightlaw25_Of.l5 k a k [] 0 = _ := of_loop k a ha a k 0 [] rfl (by omega) (by simp) (by simp)
  rw [e]; rfl
theorem longt_loop (k : Nat) (l : List Tx) (hl : l.length ≤ 1000) (m : Int) : ∀ (r : List Tx) (fuel i : Nat), l.drop i = r → r.length < fuel → ∃ o, millwrightnum_Long.l4 k l m fuel (i : Int) = some o ∧ (o = .inl () ∨ o = .inr true)
  | _, 0, _, _, h => by omega
  | [], f + 1, i, hr, _ => by
    have := at_nil hr
    unfold millwrightnum_Long.l4
    rw [if_neg (by simp; omega)]; exact ⟨_, rfl, .inl rfl⟩
  | x :: r, f + 1, i, hr, hf => by
    obtain ⟨g1, g2, g3⟩ := at_drop hr
    unfold millwrightnum_Long.l4
    rw [if_pos (by simp; exact g3), g1, Option.bind_some]
    by_cases h : (x.length : Int) > m
    · rw [if_pos (by simpa using h)]; exact ⟨_, rfl, .inr rfl⟩
    · rw [if_neg (by simpa using h), wr1 (by omega)]
      exact longt_loop k l hl m r f (i + 1) g2 (by simpa using hf)
theorem longt_eq (k : Nat) (hk : 2000 < k) (l : List Tx) (c : Nat) (hc : c ≤ 100) (m : Int) : ∃ b, millwrightnum_Long.f k l (c : Int) m = some b ∧ (b = false → l.length ≤ c) := by
  unfold millwrightnum_Long.f
  by_cases h : (l.length : Int) > (c : Int)
  · rw [if_pos (by simpa using h)]; exact ⟨true, rfl, fun h => by cases h⟩
  · rw [if_neg (by simpa using h)]
    obtain ⟨o, h1, h2⟩ := longt_loop k l (by omega) m l k 0 rfl (by omega)
    have e : millwrightnum_Long.l4 k l m k 0 = some o := h1
    rw [e, Option.bind_some]
    rcases h2 with rfl | rfl
    · exact ⟨false, rfl, fun _ => by omega⟩
    · exact ⟨true, rfl, fun h => by cases h⟩
theorem long_loop (k : Nat) (hk : 2000 < k) (a : List Nd) (ha : a.length ≤ 16) : ∀ (l : List Nd) (fuel i : Nat), a.drop i = l → l.length < fuel → ∃ o, millwrightlaw25_long.l4 k a fuel (i : Int) = some o ∧ ((o = .inl () ∧ ∀ n ∈ l, n.f_To.length ≤ 8) ∨ o = .inr true)
  | _, 0, _, _, h => by omega
  | [], f + 1, i, hr, _ => by
    have := at_nil hr
    unfold millwrightlaw25_long.l4
    rw [if_neg (by simp; omega)]; exact ⟨_, rfl, .inl ⟨rfl, fun n h => by cases h⟩⟩
  | x :: r, f + 1, i, hr, hf => by
    obtain ⟨g1, g2, g3⟩ := at_drop hr
    unfold millwrightlaw25_long.l4 millwrightlaw25_long.j12 millwrightlaw25_long.j8
    rw [if_pos (by simp; exact g3), g1, Option.bind_some]
    by_cases h : (x.f_Name.length : Int) > 60
    · rw [if_pos (by simpa using h), if_pos rfl]; exact ⟨_, rfl, .inr rfl⟩
    · rw [if_neg (by simpa using h)]
      obtain ⟨b, h1, h2⟩ := longt_eq k hk x.f_To 8 (by omega) 60
      have h1 : millwrightnum_Long.f k x.f_To 8 60 = some b := h1
      rw [h1, Option.bind_some]
      cases b with
      | true => rw [if_pos rfl]; exact ⟨_, rfl, .inr rfl⟩
      | false =>
        rw [if_neg (by simp), wr1 (by omega)]
        obtain ⟨o, h3, h4⟩ := long_loop k hk a ha r f (i + 1) g2 (by simpa using hf)
        refine ⟨o, h3, h4.imp (fun ⟨e, h⟩ => ⟨e, fun n hn => ?_⟩) id⟩
        rcases List.mem_cons.1 hn with rfl | hn
        · exact h2 rfl
        · exact h n hn
theorem long_eq (k : Nat) (hk : 2000 < k) (a : List Nd) : ∃ b, millwrightlaw25_long.f k a = some b ∧ (b = false → Small a) := by
  unfold millwrightlaw25_long.f
  by_cases h : (a.length : Int) > 16
  · rw [if_pos (by simpa using h)]; exact ⟨true, rfl, fun h => by cases h⟩
  · rw [if_neg (by simpa using h)]
    obtain ⟨o, h1, h2⟩ := long_loop k hk a (by omega) a k 0 rfl (by omega)
    have e : millwrightlaw25_long.l4 k a k 0 = some o := h1
    rw [e, Option.bind_some]
    rcases h2 with ⟨rfl, h2⟩ | rfl
    · exact ⟨false, rfl, fun _ => ⟨by omega, h2⟩⟩
    · exact ⟨true, rfl, fun h => by cases h⟩
end Go.Proofs.Ytlmhnhlmlhfigaa
