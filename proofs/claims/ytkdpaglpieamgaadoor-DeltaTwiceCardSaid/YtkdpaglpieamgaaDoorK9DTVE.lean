/- A part of the proof of a given law: DTVE. Own work, printed in part by a program of mine. -/
import Derived.Test.YtkdpaglpieamgaaDoorK9DTVD
namespace Go.Proofs.YtkdpaglpieamgaaDoor
open Go Go.AM Go.ChangeShapes Go.ChangeAt Go.RowKit
set_option linter.unusedVariables false
set_option linter.unusedSimpArgs false
set_option maxRecDepth 100000
abbrev Ch := T_delta_Change
abbrev fl0 : Fl := ⟨[], [], 0⟩
theorem ch_eta (c : Ch) : T_delta_Change.mk c.f_Kind (T_tree_File.mk c.f_Old.f_Name c.f_Old.f_Content c.f_Old.f_Time) (T_tree_File.mk c.f_New.f_Name c.f_New.f_Content c.f_New.f_Time) = c := by
  cases c with | mk a b d => cases b; cases d; rfl
def keys (m : Mp) : List Tx := m.map (·.1)
theorem keys_len (m : Mp) : (keys m).length = m.length := by unfold keys; simp
theorem keys_mem {m : Mp} {n : Tx} : n ∈ keys m ↔ mget n m ≠ none := by
  constructor
  · intro h e
    obtain ⟨y, hy, rfl⟩ := List.mem_map.1 h
    exact mget_none.1 e y hy rfl
  · intro h
    cases e : mget n m with
    | none => exact absurd e h
    | some v => exact List.mem_map.2 ⟨_, mget_mem e, rfl⟩
theorem keys_strict {m : Mp} (h : Rising m) : Strict (keys m) := List.pairwise_map.2 h
theorem keyed_get {m : Mp} (h : Keyed m) {n : Tx} {v : Fl} (e : mget n m = some v) : v.f_Name = n := (h _ (mget_mem e)).symm

/-! ### the changes -/
def chg (m m' : Mp) (n : Tx) : List Ch :=
  match mget n m, mget n m' with
  | none, b => [⟨1, fl0, b.getD fl0⟩]
  | some a, none => [⟨3, a, fl0⟩]
  | some a, some b => if feqB a b then [] else [⟨2, a, b⟩]
def chgs (m m' : Mp) (S : List Tx) : List Ch := S.flatMap (chg m m')
theorem dof_loop (k : Nat) (m m' : Mp) (S : List Tx) (hS : S.length ≤ 1000) : ∀ (l : List Tx) (fuel i : Nat) (out : List Ch), S.drop i = l → l.length < fuel → out.length ≤ i → delta_Of_m0.l9 k m m' S fuel out (i : Int) = some (out ++ chgs m m' l)
  | _, 0, _, _, _, h, _ => by omega
  | [], f + 1, i, out, hl, _, _ => by
    have := at_nil hl
    unfold delta_Of_m0.l9
    rw [if_neg (by simp; omega)]; simp [chgs]
  | x :: r, f + 1, i, out, hl, hf, ho => by
    obtain ⟨g1, g2, g3⟩ := at_drop hl
    have ih := fun out h => dof_loop k m m' S hS r f (i + 1) out g2 (by simpa using hf) h
    unfold delta_Of_m0.l9 delta_Of_m0.j15
    rw [if_pos (by simp; exact g3), g1, Option.bind_some, wr1 (by omega), get_eq, Option.bind_some, get_eq, Option.bind_some]
    have hc : chgs m m' (x :: r) = chg m m' x ++ chgs m m' r := by simp [chgs]
    rw [hc]
    unfold chg
    cases hm : mget x m with
    | none =>
      simp only [Option.isSome_none, Bool.not_false, if_true, fl_eta]
      rw [if_pos (lim_ok (by omega)), ih _ (by simp; omega)]; simp
    | some a =>
      cases hm' : mget x m' with
      | none =>
        simp only [Option.isSome_none, Option.isSome_some, Bool.not_false, Bool.not_true, Bool.false_eq_true, if_false, if_true, Option.getD_some, fl_eta]
        rw [if_pos (lim_ok (by omega)), ih _ (by simp; omega)]; simp
      | some b =>
        simp only [Option.isSome_some, Bool.not_true, Bool.false_eq_true, if_false, Option.getD_some, fl_eta]
        have hq : (a.f_Name == b.f_Name && (a.f_Content == b.f_Content && (a.f_Time == b.f_Time && true))) = feqB a b := rfl
        rw [hq]
        cases feqB a b
        · simp only [Bool.not_false, if_true, Bool.false_eq_true, if_false]
          rw [if_pos (lim_ok (by omega)), ih _ (by simp; omega)]; simp
        · simp only [Bool.not_true, Bool.false_eq_true, if_false, if_true]
          rw [ih _ (by omega)]; simp
def allK (m m' : Mp) : List Tx := sortedS (keys m ++ keys m')
theorem sortedS_len (xs : List Tx) : (sortedS xs).length ≤ xs.length := by
  have := compact_len (xs.mergeSort fun x y => decide (x ≤ y))
  rw [List.length_mergeSort] at this; exact this
theorem dof_eq (k : Nat) (hk : 1000 < k) (m m' : Mp) (hm : m.length ≤ 200) (hm' : m'.length ≤ 200) (hg : Good m) (hg' : Good m') : delta_Of_m0.f k m m' = some (chgs m m' (allK m m')) := by
  unfold delta_Of_m0.f delta_Of_m0.j2
  have hl : LIM = 4294967296 := rfl
  have e1 : (m.map (·.1)).length = m.length := by simp
  have e2 : (m'.map (·.1)).length = m'.length := by simp
  rw [names_eq k m (by omega) hg.short, Option.bind_some, names_eq k m' (by omega) hg'.short, Option.bind_some, if_pos (by omega), names_sorted k _ (by rw [List.length_append]; omega), Option.bind_some]
  have hsl := sortedS_len (m.map (·.1) ++ m'.map (·.1))
  rw [List.length_append] at hsl
  have e0 : delta_Of_m0.l9 k m m' (sortedS (m.map (·.1) ++ m'.map (·.1))) k [] 0 = _ := dof_loop k m m' (sortedS (m.map (·.1) ++ m'.map (·.1))) (by omega) (sortedS (m.map (·.1) ++ m'.map (·.1))) k 0 [] rfl (by omega) (by simp)
  rw [e0]; rfl
def IsC (m m' : Mp) (n : Tx) (c : Ch) : Prop :=
  (c.f_Kind = 1 ∧ mget n m = none ∧ mget n m' = some c.f_New ∧ c.f_Old = fl0) ∨ (c.f_Kind = 3 ∧ mget n m = some c.f_Old ∧ mget n m' = none ∧ c.f_New = fl0) ∨ (c.f_Kind = 2 ∧ mget n m = some c.f_Old ∧ mget n m' = some c.f_New ∧ c.f_Old ≠ c.f_New)
structure Cov (m m' : Mp) (S : List Tx) : Prop where
  nodup : S.Nodup
  all : ∀ n, n ∈ S ↔ (mget n m ≠ none ∨ mget n m' ≠ none)
theorem allK_cov (m m' : Mp) : Cov m m' (allK m m') := by
  obtain ⟨h1, h2⟩ := sortedS_spec (keys m ++ keys m')
  exact ⟨h1.nodup, fun n => by show n ∈ sortedS _ ↔ _; rw [h2, List.mem_append, keys_mem, keys_mem]⟩
theorem Cov.symm {m m' : Mp} {S : List Tx} (h : Cov m m' S) : Cov m' m S := ⟨h.nodup, fun n => by rw [h.all, or_comm]⟩
theorem chg_is {m m' : Mp} {n : Tx} (h : mget n m ≠ none ∨ mget n m' ≠ none) {c : Ch} (hc : c ∈ chg m m' n) : IsC m m' n c := by
  unfold chg at hc
  cases hm : mget n m with
  | none =>
    cases hm' : mget n m' with
    | none => rw [hm, hm'] at h; simp at h
    | some b =>
      rw [hm, hm'] at hc
      obtain rfl := List.mem_singleton.1 hc
      exact .inl ⟨rfl, hm, hm', rfl⟩
  | some a =>
    cases hm' : mget n m' with
    | none =>
      rw [hm, hm'] at hc
      obtain rfl := List.mem_singleton.1 hc
      exact .inr (.inl ⟨rfl, hm, hm', rfl⟩)
    | some b =>
      rw [hm, hm'] at hc
      simp only at hc
      split at hc
      · cases hc
      · rename_i hne
        obtain rfl := List.mem_singleton.1 hc
        exact .inr (.inr ⟨rfl, hm, hm', fun e => hne ((feqB_iff a b).2 e)⟩)
theorem chgs_is {m m' : Mp} {S : List Tx} (hS : Cov m m' S) {c : Ch} (hc : c ∈ chgs m m' S) : ∃ n ∈ S, IsC m m' n c := by
  obtain ⟨n, hn, hc⟩ := List.mem_flatMap.1 hc
  exact ⟨n, hn, chg_is ((hS.all n).1 hn) hc⟩
def nmC (c : Ch) : Tx := if c.f_Kind = 1 then c.f_New.f_Name else c.f_Old.f_Name
section
variable {m m' : Mp} {n : Tx} {c : Ch}
theorem IsC.name (h : IsC m m' n c) (hk : Keyed m) (hk' : Keyed m') : nmC c = n := by
  unfold nmC
  rcases h with ⟨h1, h2, h3, h4⟩ | ⟨h1, h2, h3, h4⟩ | ⟨h1, h2, h3, h4⟩
  · rw [if_pos h1]; exact keyed_get hk' h3
  · rw [if_neg (by omega)]; exact keyed_get hk h2
  · rw [if_neg (by omega)]; exact keyed_get hk h2
theorem IsC.newOf (h : IsC m m' n c) (h3 : c.f_Kind ≠ 3) : mget n m' = some c.f_New := by
  rcases h with ⟨_, _, h, _⟩ | ⟨h, _⟩ | ⟨_, _, h, _⟩
  · exact h
  · exact absurd h h3
  · exact h
theorem IsC.oldOf (h : IsC m m' n c) (h3 : c.f_Kind = 3) : mget n m = some c.f_Old ∧ mget n m' = none := by
  rcases h with ⟨h, _⟩ | ⟨_, h, h', _⟩ | ⟨h, _⟩
  · omega
  · exact ⟨h, h'⟩
  · omega
theorem check_ok (k : Nat) (h : IsC m m' n c) (hk : Keyed m) (hk' : Keyed m') : delta_Change_check.f k c = some 0 := by
  unfold delta_Change_check.f delta_Change_check.j7 delta_Change_check.j1
  rcases h with ⟨h1, h2, h3, h4⟩ | ⟨h1, h2, h3, h4⟩ | ⟨h1, h2, h3, h4⟩
  · rw [h1, h4]; simp
  · rw [h1, h4]; simp
  · have e : c.f_Old.f_Name = c.f_New.f_Name := by rw [keyed_get hk h2, keyed_get hk' h3]
    have hq : (c.f_Old.f_Name == c.f_New.f_Name && (c.f_Old.f_Content == c.f_New.f_Content && (c.f_Old.f_Time == c.f_New.f_Time && true))) = feqB c.f_Old c.f_New := rfl
    have hf : feqB c.f_Old c.f_New = false := by
      cases hh : feqB c.f_Old c.f_New
      · rfl
      · exact absurd ((feqB_iff _ _).1 hh) h4
    rw [hq, hf, h1, e]; simp
theorem name_eq (k : Nat) (c : Ch) : delta_Change_name.f k c = some (nmC c) := by
  unfold delta_Change_name.f nmC
  by_cases h : c.f_Kind = 1
  · rw [if_pos (by simpa using h), if_pos h]
  · rw [if_neg (by simpa using h), if_neg h]
end
theorem chgs_nodup {m m' : Mp} (hk : Keyed m) (hk' : Keyed m') : ∀ (S : List Tx), S.Nodup → (∀ n ∈ S, mget n m ≠ none ∨ mget n m' ≠ none) → ((chgs m m' S).map nmC).Nodup ∧ ∀ c ∈ chgs m m' S, nmC c ∈ S
  | [], _, _ => ⟨by simp [chgs], fun c hc => by simp [chgs] at hc⟩
  | n :: S, hd, ha => by
    obtain ⟨hn, hd'⟩ := List.nodup_cons.1 hd
    obtain ⟨h1, h2⟩ := chgs_nodup hk hk' S hd' fun x hx => ha x (List.mem_cons_of_mem _ hx)
    have hc : chgs m m' (n :: S) = chg m m' n ++ chgs m m' S := by simp [chgs]
    have hone : chg m m' n = [] ∨ ∃ c, chg m m' n = [c] := by
      unfold chg
      split
      · exact .inr ⟨_, rfl⟩
      · exact .inr ⟨_, rfl⟩
      · split
        · exact .inl rfl
        · exact .inr ⟨_, rfl⟩
    rw [hc]
    rcases hone with e | ⟨c, e⟩
    · rw [e, List.nil_append]
      exact ⟨h1, fun c hc => List.mem_cons_of_mem _ (h2 c hc)⟩
    · have hnm : nmC c = n := (chg_is (ha n List.mem_cons_self) (by rw [e]; exact List.mem_cons_self)).name hk hk'
      rw [e]
      refine ⟨?_, fun d hd => ?_⟩
      · rw [List.cons_append, List.nil_append, List.map_cons]
        refine List.nodup_cons.2 ⟨fun hin => ?_, h1⟩
        obtain ⟨d, hd, e2⟩ := List.mem_map.1 hin
        have := h2 d hd
        rw [e2, hnm] at this; exact hn this
      · rcases List.mem_cons.1 hd with rfl | hd
        · rw [hnm]; exact List.mem_cons_self
        · exact List.mem_cons_of_mem _ (h2 d hd)

/-! ### are they right? -/
theorem mput_new {α : Type} {n : Tx} {v : α} : ∀ {m : KV α}, mget n m = none → (mput n v m).length = m.length + 1
  | [], _ => rfl
  | y :: r, h => by
    unfold mget at h
    by_cases e : y.1 = n
    · rw [if_pos e] at h; cases h
    · rw [if_neg e] at h
      unfold mput
      rw [if_neg e]
      split
      · rfl
      · simp [mput_new h]
theorem check_loop (k : Nat) (L : List Ch) (hL : L.length ≤ 1000) : ∀ (l : List Ch) (fuel i : Nat) (seen : KV Int), L.drop i = l → l.length < fuel → (∀ c ∈ l, delta_Change_check.f k c = some 0) → (l.map nmC).Nodup → (∀ c ∈ l, mget (nmC c) seen = none) →
    ∃ seen', delta_Check.l6 k L fuel seen (i : Int) = some (.inl seen') ∧ seen'.length = seen.length + l.length
  | _, 0, _, _, _, h, _, _, _ => by omega
  | [], f + 1, i, seen, hl, _, _, _, _ => by
    have := at_nil hl
    unfold delta_Check.l6
    exact ⟨seen, by rw [if_neg (by simp; omega)], rfl⟩
  | c :: r, f + 1, i, seen, hl, hf, h1, h2, h3 => by
    obtain ⟨g1, g2, g3⟩ := at_drop hl
    obtain ⟨p1, p2⟩ := List.nodup_cons.1 h2
    have hs := h3 c List.mem_cons_self
    obtain ⟨seen', e, e2⟩ := check_loop k L hL r f (i + 1) (mput (nmC c) (IntKind.i64.wrap (((mget (nmC c) seen).getD 0) + 1)) seen) g2 (by simpa using hf) (fun d hd => h1 d (List.mem_cons_of_mem _ hd)) p2 fun d hd => by
      rw [mget_put_ne _ (fun e => p1 (List.mem_map.2 ⟨d, hd, e⟩))]
      exact h3 d (List.mem_cons_of_mem _ hd)
    refine ⟨seen', ?_, by rw [e2, mput_new hs]; simp; omega⟩
    unfold delta_Check.l6
    rw [if_pos (by simp; exact g3), g1, Option.bind_some, ch_eta, h1 c List.mem_cons_self, Option.bind_some, if_neg (by simp), name_eq, Option.bind_some, wr1 (by omega), e]
theorem check_eq (k : Nat) (hk : 1000 < k) (L : List Ch) (hL : L.length ≤ 1000) (h1 : ∀ c ∈ L, delta_Change_check.f k c = some 0) (h2 : (L.map nmC).Nodup) : delta_Check.f k L = some 0 := by
  unfold delta_Check.f delta_Check.j3
  obtain ⟨seen', e, e2⟩ := check_loop k L hL L k 0 [] rfl (by omega) h1 h2 (fun c _ => rfl)
  have e : delta_Check.l6 k L k [] 0 = _ := e
  rw [e]
  simp only [Option.bind_some, List.length_nil] at e2 ⊢
  rw [if_neg (by rw [decide_eq_true_eq]; omega)]

/-! ### do they fit? -/
def fitB (c : Ch) (m : Mp) : Bool := if c.f_Kind = 1 then !(mget (nmC c) m).isSome else (mget (nmC c) m).isSome && feqB ((mget (nmC c) m).getD fl0) c.f_Old
theorem fits_eq (k : Nat) (c : Ch) (m : Mp) : delta_Change_fits_m0.f k c m = some (fitB c m) := by
  unfold delta_Change_fits_m0.f fitB
  rw [ch_eta, name_eq, Option.bind_some, get_eq, Option.bind_some]
  by_cases h : c.f_Kind = 1
  · rw [if_pos (by simpa using h), if_pos h]
  · rw [if_neg (by simpa using h), if_neg h]
    cases (mget (nmC c) m).isSome <;> rfl
theorem fit_loop (k : Nat) (m : Mp) (L : List Ch) (hL : L.length ≤ 1000) : ∀ (l : List Ch) (fuel i : Nat), L.drop i = l → l.length < fuel → (∀ c ∈ l, fitB c m = true) → delta_Apply_m0.l9 k m L fuel (i : Int) = some (.inl ())
  | _, 0, _, _, h, _ => by omega
  | [], f + 1, i, hl, _, _ => by
    have := at_nil hl
    unfold delta_Apply_m0.l9
    rw [if_neg (by simp; omega)]
  | c :: r, f + 1, i, hl, hf, h1 => by
    obtain ⟨g1, g2, g3⟩ := at_drop hl
    unfold delta_Apply_m0.l9
    rw [if_pos (by simp; exact g3), g1, Option.bind_some, ch_eta, fits_eq, h1 c List.mem_cons_self, Option.bind_some, if_neg (by simp), wr1 (by omega)]
    exact fit_loop k m L hL r f (i + 1) g2 (by simpa using hf) fun d hd => h1 d (List.mem_cons_of_mem _ hd)

/-! ### they are done -/
def delM (m : Mp) (l : List Ch) : Mp := l.foldl (fun m c => if c.f_Kind = 3 then mdel c.f_Old.f_Name m else m) m
def putM (m : Mp) (l : List Ch) : Mp := l.foldl (fun m c => if c.f_Kind = 3 then m else mput c.f_New.f_Name c.f_New m) m
theorem del_loop (k : Nat) (L : List Ch) (hL : L.length ≤ 1000) : ∀ (l : List Ch) (fuel i : Nat) (cur : Mp), L.drop i = l → l.length < fuel → (∀ c ∈ l, c.f_Kind = 3 → (mget c.f_Old.f_Name cur).isSome = true) → (l.map nmC).Nodup →
    delta_do_m0.l22 k L fuel cur (i : Int) = some (.inl (delM cur l))
  | _, 0, _, _, _, h, _, _ => by omega
  | [], f + 1, i, cur, hl, _, _, _ => by
    have := at_nil hl
    unfold delta_do_m0.l22
    rw [if_neg (by simp; omega)]; rfl
  | c :: r, f + 1, i, cur, hl, hf, h1, h2 => by
    obtain ⟨g1, g2, g3⟩ := at_drop hl
    obtain ⟨p1, p2⟩ := List.nodup_cons.1 h2
    unfold delta_do_m0.l22 delta_do_m0.j28
    rw [if_pos (by simp; exact g3), g1, Option.bind_some, wr1 (by omega)]
    by_cases h : c.f_Kind = 3
    · have hs := h1 c List.mem_cons_self h
      have e : remS cur c.f_Old.f_Name = (0, mdel c.f_Old.f_Name cur) := by unfold remS; rw [if_pos hs]
      rw [if_pos (by simpa using h), rem_eq, Option.bind_some, e, if_neg (by simp)]
      have hd : delM cur (c :: r) = delM (mdel c.f_Old.f_Name cur) r := by unfold delM; rw [List.foldl_cons, if_pos h]
      rw [hd]
      refine del_loop k L hL r f (i + 1) _ g2 (by simpa using hf) (fun d hd h3 => ?_) p2
      have hne : d.f_Old.f_Name ≠ c.f_Old.f_Name := fun e => p1 (List.mem_map.2 ⟨d, hd, by unfold nmC; rw [if_neg (by omega), if_neg (by omega), e]⟩)
      rw [mget_del_ne hne]
      exact h1 d (List.mem_cons_of_mem _ hd) h3
    · rw [if_neg (by simpa using h)]
      have hd : delM cur (c :: r) = delM cur r := by unfold delM; rw [List.foldl_cons, if_neg h]
      rw [hd]
      exact del_loop k L hL r f (i + 1) cur g2 (by simpa using hf) (fun d hd h3 => h1 d (List.mem_cons_of_mem _ hd) h3) p2
theorem may_of {cur m' : Mp} {f : Fl} (h0 : mayS [] f = 0) (hr : Rising cur) (hr' : Rising m') (hsub : ∀ y ∈ cur, mget y.1 m' ≠ none) (hf : mget f.f_Name m' ≠ none) (hl : m'.length ≤ 40) : mayS cur f = 0 := by
  unfold mayS at h0 ⊢
  split at h0
  · omega
  · rename_i a1
    rw [if_neg a1]
    split at h0
    · omega
    · rename_i a2
      rw [if_neg a2]
      split at h0
      · omega
      · rename_i a3
        rw [if_neg a3, if_neg]
        rintro ⟨q1, q2⟩
        have q1 : mget f.f_Name cur = none := by
          cases e : mget f.f_Name cur with
          | none => rfl
          | some v => rw [e] at q1; cases q1
        have hlen := mput_new (v := f) q1
        have := strict_len (keys m') (keys (mput f.f_Name f cur)) (keys_strict hr.put) (keys_strict hr') fun x hx => by
          obtain ⟨y, hy, rfl⟩ := List.mem_map.1 hx
          rw [keys_mem]
          rcases mput_mem hy with rfl | hy
          · exact hf
          · exact hsub y hy
        rw [keys_len, keys_len, hlen] at this; omega
theorem put_loop2 (k : Nat) (hk : 100 < k) (L : List Ch) (hL : L.length ≤ 1000) (m' : Mp) (hr' : Rising m') (hl' : m'.length ≤ 40) : ∀ (l : List Ch) (fuel i : Nat) (cur : Mp), L.drop i = l → l.length < fuel → Rising cur → (∀ y ∈ cur, mget y.1 m' ≠ none) →
    (∀ c ∈ l, c.f_Kind ≠ 3 → mayS [] c.f_New = 0 ∧ mget c.f_New.f_Name m' ≠ none) → delta_do_m0.l6 k L fuel cur (i : Int) = some (.inl (putM cur l)) ∧ Rising (putM cur l)
  | _, 0, _, _, _, h, _, _, _ => by omega
  | [], f + 1, i, cur, hl, _, hr, _, _ => by
    have := at_nil hl
    unfold delta_do_m0.l6
    rw [if_neg (by simp; omega)]; exact ⟨rfl, hr⟩
  | c :: r, f + 1, i, cur, hl, hf, hr, hsub, h1 => by
    obtain ⟨g1, g2, g3⟩ := at_drop hl
    unfold delta_do_m0.l6 delta_do_m0.j12
    rw [if_pos (by simp; exact g3), g1, Option.bind_some, wr1 (by omega)]
    by_cases h : c.f_Kind = 3
    · rw [if_neg (by simp [h])]
      have hd : putM cur (c :: r) = putM cur r := by unfold putM; rw [List.foldl_cons, if_pos h]
      rw [hd]
      exact put_loop2 k hk L hL m' hr' hl' r f (i + 1) cur g2 (by simpa using hf) hr hsub fun d hd => h1 d (List.mem_cons_of_mem _ hd)
    · obtain ⟨q1, q2⟩ := h1 c List.mem_cons_self h
      have hmay := may_of q1 hr hr' hsub q2 hl'
      have e : putS cur c.f_New = (0, mput c.f_New.f_Name c.f_New cur) := by unfold putS; rw [if_pos hmay, hmay]
      rw [if_pos (by simpa using h), put_eq k hk, Option.bind_some, e, if_neg (by simp)]
      have hd : putM cur (c :: r) = putM (mput c.f_New.f_Name c.f_New cur) r := by unfold putM; rw [List.foldl_cons, if_neg h]
      rw [hd]
      refine put_loop2 k hk L hL m' hr' hl' r f (i + 1) _ g2 (by simpa using hf) hr.put (fun y hy => ?_) fun d hd => h1 d (List.mem_cons_of_mem _ hd)
      rcases mput_mem hy with rfl | hy
      · exact q2
      · exact hsub y hy
theorem del_rising : ∀ (l : List Ch) (cur : Mp), Rising cur → Rising (delM cur l)
  | [], cur, h => h
  | c :: r, cur, h => by
    unfold delM
    rw [List.foldl_cons]
    refine del_rising r _ ?_
    split
    · exact h.del _
    · exact h
theorem del_mem : ∀ (l : List Ch) (cur : Mp) (y), y ∈ delM cur l → y ∈ cur
  | [], cur, y, h => h
  | c :: r, cur, y, h => by
    unfold delM at h
    rw [List.foldl_cons] at h
    have := del_mem r _ y h
    split at this
    · exact (List.mem_filter.1 this).1
    · exact this
theorem del_get : ∀ (l : List Ch) (cur : Mp) (n : Tx), mget n (delM cur l) = if (∃ c ∈ l, c.f_Kind = 3 ∧ c.f_Old.f_Name = n) then none else mget n cur
  | [], cur, n => by rw [if_neg (by rintro ⟨c, hc, _⟩; cases hc)]; rfl
  | c :: r, cur, n => by
    have hd : delM cur (c :: r) = delM (if c.f_Kind = 3 then mdel c.f_Old.f_Name cur else cur) r := rfl
    rw [hd, del_get r]
    by_cases hr : ∃ d ∈ r, d.f_Kind = 3 ∧ d.f_Old.f_Name = n
    · obtain ⟨d, hd, h⟩ := hr
      rw [if_pos ⟨d, hd, h⟩, if_pos ⟨d, List.mem_cons_of_mem _ hd, h⟩]
    · rw [if_neg hr]
      by_cases hc : c.f_Kind = 3 ∧ c.f_Old.f_Name = n
      · rw [if_pos hc.1, hc.2, mget_del_same, if_pos ⟨c, List.mem_cons_self, hc⟩]
      · have hno : ¬ ∃ d ∈ c :: r, d.f_Kind = 3 ∧ d.f_Old.f_Name = n := by
          rintro ⟨d, hd, h⟩
          rcases List.mem_cons.1 hd with rfl | hd
          · exact hc h
          · exact hr ⟨d, hd, h⟩
        rw [if_neg hno]
        split
        · rename_i h3
          exact mget_del_ne (fun e => hc ⟨h3, e.symm⟩) cur
        · rfl
theorem put_get2 : ∀ (l : List Ch) (cur : Mp) (n : Tx), (∀ c ∈ l, c.f_Kind ≠ 3 → c.f_New.f_Name ≠ n) → mget n (putM cur l) = mget n cur
  | [], cur, n, _ => rfl
  | c :: r, cur, n, h => by
    have hd : putM cur (c :: r) = putM (if c.f_Kind = 3 then cur else mput c.f_New.f_Name c.f_New cur) r := rfl
    rw [hd, put_get2 r _ n fun d hd => h d (List.mem_cons_of_mem _ hd)]
    split
    · rfl
    · rename_i h3
      exact mget_put_ne _ (fun e => h c List.mem_cons_self h3 e.symm) cur
theorem put_get1 {b : Fl} : ∀ (l : List Ch) (cur : Mp) (n : Tx), (∀ c ∈ l, c.f_Kind ≠ 3 → c.f_New.f_Name = n → c.f_New = b) → ((∃ c ∈ l, c.f_Kind ≠ 3 ∧ c.f_New.f_Name = n) ∨ mget n cur = some b) → mget n (putM cur l) = some b
  | [], cur, n, _, h => by
    rcases h with ⟨c, hc, _⟩ | h
    · cases hc
    · exact h
  | c :: r, cur, n, h, h2 => by
    have hd : putM cur (c :: r) = putM (if c.f_Kind = 3 then cur else mput c.f_New.f_Name c.f_New cur) r := rfl
    rw [hd]
    refine put_get1 r _ n (fun d hd => h d (List.mem_cons_of_mem _ hd)) ?_
    by_cases hr : ∃ d ∈ r, d.f_Kind ≠ 3 ∧ d.f_New.f_Name = n
    · exact .inl hr
    · right
      by_cases h3 : c.f_Kind = 3
      · rw [if_pos h3]
        rcases h2 with ⟨d, hd, q1, q2⟩ | h2
        · rcases List.mem_cons.1 hd with rfl | hd
          · exact absurd h3 q1
          · exact absurd ⟨d, hd, q1, q2⟩ hr
        · exact h2
      · rw [if_neg h3]
        by_cases hn : c.f_New.f_Name = n
        · rw [hn, mget_put_same, h c List.mem_cons_self h3 hn]
        · rw [mget_put_ne _ (fun e => hn e.symm) cur]
          rcases h2 with ⟨d, hd, q1, q2⟩ | h2
          · rcases List.mem_cons.1 hd with rfl | hd
            · exact absurd q2 hn
            · exact absurd ⟨d, hd, q1, q2⟩ hr
          · exact h2
theorem mget_ext {a b : Mp} (ha : Rising a) (hb : Rising b) (h : ∀ n, mget n a = mget n b) : a = b := by
  refine rising_eq b a ha hb (fun y hy => ?_) ?_
  · have e := h y.1
    rw [mget_of ha.apart hy] at e
    exact mget_mem e.symm
  · have := strict_len (keys a) (keys b) (keys_strict hb) (keys_strict ha) fun n hn => by
      rw [keys_mem] at hn ⊢; rw [h]; exact hn
    rw [keys_len, keys_len] at this; exact this
theorem done_eq {m m' : Mp} {S : List Tx} (hg : Good m) (hg' : Good m') (hS : Cov m m' S) (hr : Rising (putM (delM m (chgs m m' S)) (chgs m m' S))) : putM (delM m (chgs m m' S)) (chgs m m' S) = m' := by
  refine mget_ext hr hg'.rising fun n => ?_
  have hin : ∀ c, c ∈ chg m m' n → n ∈ S → c ∈ chgs m m' S := fun c hc hn => List.mem_flatMap.2 ⟨n, hn, hc⟩
  cases hm' : mget n m' with
  | some b =>
    have hnS : n ∈ S := (hS.all n).2 (.inr (by rw [hm']; simp))
    refine put_get1 _ _ n (fun c hc h3 hn => ?_) ?_
    · obtain ⟨x, hx, hI⟩ := chgs_is hS hc
      have h := hI.newOf h3
      have hx : x = n := by rw [← hn]; exact (keyed_get hg'.keyed h).symm
      rw [hx, hm'] at h; exact (Option.some.inj h).symm
    · cases hm : mget n m with
      | none =>
        left
        exact ⟨⟨1, fl0, b⟩, hin _ (by unfold chg; rw [hm, hm']; simp) hnS, (show (1 : Int) ≠ 3 by decide), keyed_get hg'.keyed hm'⟩
      | some a =>
        by_cases e : a = b
        · right
          subst e
          rw [del_get, if_neg, hm]
          rintro ⟨c, hc, h3, hn⟩
          obtain ⟨x, hx, hI⟩ := chgs_is hS hc
          obtain ⟨q1, q2⟩ := hI.oldOf h3
          have hx : x = n := by rw [← hn]; exact (keyed_get hg.keyed q1).symm
          rw [hx, hm'] at q2; cases q2
        · left
          have hf : feqB a b = false := by
            cases hh : feqB a b
            · rfl
            · exact absurd ((feqB_iff _ _).1 hh) e
          exact ⟨⟨2, a, b⟩, hin _ (by unfold chg; rw [hm, hm']; simp [hf]) hnS, (show (2 : Int) ≠ 3 by decide), keyed_get hg'.keyed hm'⟩
  | none =>
    rw [put_get2 _ _ n fun c hc h3 hn => by
      obtain ⟨x, hx, hI⟩ := chgs_is hS hc
      have h := hI.newOf h3
      have hx : x = n := by rw [← hn]; exact (keyed_get hg'.keyed h).symm
      rw [hx, hm'] at h; cases h]
    rw [del_get]
    cases hm : mget n m with
    | none => split <;> rfl
    | some a =>
      have hnS : n ∈ S := (hS.all n).2 (.inl (by rw [hm]; simp))
      rw [if_pos ⟨⟨3, a, fl0⟩, hin _ (by unfold chg; rw [hm, hm']; simp) hnS, rfl, keyed_get hg.keyed hm⟩]
/-- Every file of a tree may be put into a tree without files. -/
def Valid (m : Mp) : Prop := ∀ y ∈ m, mayS [] y.2 = 0
theorem chgs_len {m m' : Mp} (S : List Tx) : (chgs m m' S).length ≤ S.length := by
  induction S with
  | nil => simp [chgs]
  | cons n S ih =>
    have hc : chgs m m' (n :: S) = chg m m' n ++ chgs m m' S := by simp [chgs]
    have hone : (chg m m' n).length ≤ 1 := by
      unfold chg
      split
      · simp
      · simp
      · split <;> simp
    rw [hc, List.length_append, List.length_cons]; omega
theorem apply_eq (k : Nat) (hk : 1000 < k) {m m' : Mp} {S : List Tx} (hg : Good m) (hg' : Good m') (hv : Valid m') (hl : m'.length ≤ 40) (hS : Cov m m' S) (hSl : S.length ≤ 1000) : delta_Apply_m0.f k m (chgs m m' S) = some (0, m') := by
  have hL : (chgs m m' S).length ≤ 1000 := Nat.le_trans (chgs_len S) hSl
  obtain ⟨hnd, _⟩ := chgs_nodup hg.keyed hg'.keyed S hS.nodup fun n hn => (hS.all n).1 hn
  have hfit : ∀ c ∈ chgs m m' S, fitB c m = true := fun c hc => by
    obtain ⟨n, hn, hI⟩ := chgs_is hS hc
    unfold fitB
    rw [hI.name hg.keyed hg'.keyed]
    rcases hI with ⟨h1, h2, h3, h4⟩ | ⟨h1, h2, h3, h4⟩ | ⟨h1, h2, h3, h4⟩
    · rw [if_pos h1, h2]; rfl
    · rw [if_neg (by omega), h2]; simp [feqB_self]
    · rw [if_neg (by omega), h2]; simp [feqB_self]
  have e1 : delta_Apply_m0.l9 k m (chgs m m' S) k 0 = _ := fit_loop k m (chgs m m' S) hL (chgs m m' S) k 0 rfl (by omega) hfit
  have e2 : delta_do_m0.l22 k (chgs m m' S) k m 0 = _ := del_loop k (chgs m m' S) hL (chgs m m' S) k 0 m rfl (by omega) (fun c hc h3 => by
    obtain ⟨n, hn, hI⟩ := chgs_is hS hc
    obtain ⟨q1, q2⟩ := hI.oldOf h3
    rw [keyed_get hg.keyed q1, q1]; rfl) hnd
  obtain ⟨e3, hr⟩ := put_loop2 k (by omega) (chgs m m' S) hL m' hg'.rising hl (chgs m m' S) k 0 (delM m (chgs m m' S)) rfl (by omega) (del_rising _ _ hg.rising) (fun y hy hn => by
    have hym := del_mem _ _ y hy
    have hd := mget_of (del_rising (chgs m m' S) _ hg.rising).apart hy
    rw [del_get, if_pos] at hd
    · cases hd
    · have hm := hg.get hym
      have hnS : y.1 ∈ S := (hS.all _).2 (.inl (by rw [hm]; simp))
      exact ⟨⟨3, y.2, fl0⟩, List.mem_flatMap.2 ⟨_, hnS, by unfold chg; rw [hm, hn]; simp⟩, rfl, (hg.keyed y hym).symm⟩) (fun c hc h3 => by
    obtain ⟨n, hn, hI⟩ := chgs_is hS hc
    have h := hI.newOf h3
    exact ⟨hv _ (mget_mem h), by rw [keyed_get hg'.keyed h, h]; simp⟩)
  have e3 : delta_do_m0.l6 k (chgs m m' S) k (delM m (chgs m m' S)) 0 = _ := e3
  have edo : delta_do_m0.f k m (chgs m m' S) = some (0, m') := by
    unfold delta_do_m0.f delta_do_m0.j19 delta_do_m0.j3
    rw [e2, Option.bind_some]
    simp only
    rw [e3, Option.bind_some]
    simp only
    rw [done_eq hg hg' hS hr]
  unfold delta_Apply_m0.f delta_Apply_m0.j7
  rw [check_eq k hk _ hL (fun c hc => by
    obtain ⟨n, hn, hI⟩ := chgs_is hS hc
    exact check_ok k hI hg.keyed hg'.keyed) hnd, Option.bind_some, if_neg (by simp), e1, Option.bind_some]
  simp only
  have ec : tree_Tree_Copy_m0.f k m = some m := rfl
  rw [ec, Option.bind_some, edo, Option.bind_some, if_neg (by simp), Option.bind_some]
end Go.Proofs.YtkdpaglpieamgaaDoor
