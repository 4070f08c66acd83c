/- A part of a proof: DAVE. -/
import Derived.Test.YtkdpaglpieamgaaDoorK10DAVD
namespace Go.Proofs.YtkdpaglpieamgaaDoor
open Go Go.AM Go.ChangeShapes Go.ChangeAt Go.RowKit
set_option linter.unusedVariables false
set_option linter.unusedSimpArgs false
set_option maxRecDepth 100000
abbrev Ch := TC
abbrev fl0 : Fl := ⟨[], [], 0⟩
theorem ch_eta (c : Ch) : TC.mk c.fK (TF.mk c.fO.fN c.fO.fC c.fO.fT) (TF.mk c.fW.fN c.fW.fC c.fW.fT) = c := by
  cases c with | mk a b d => cases b; cases d; rfl
def keys (m : Mp) : List Tx := m.map (·.1)
theorem keyed_get {m : Mp} (h : Keyed m) {n : Tx} {v : Fl} (e : mget n m = some v) : v.fN = n := (h _ (mget_mem e)).symm

def chg (m m' : Mp) (n : Tx) : List Ch :=
  match mget n m, mget n m' with
  | none, b => [⟨1, fl0, b.getD fl0⟩]
  | some a, none => [⟨3, a, fl0⟩]
  | some a, some b => if feqB a b then [] else [⟨2, a, b⟩]
def chgs (m m' : Mp) (S : List Tx) : List Ch := S.flatMap (chg m m')
def allK (m m' : Mp) : List Tx := sortedS (keys m ++ keys m')
theorem sortedS_len (xs : List Tx) : (sortedS xs).length ≤ xs.length := by
  have := compact_len (xs.mergeSort fun x y => decide (x ≤ y))
  rw [List.length_mergeSort] at this; exact this
def IsC (m m' : Mp) (n : Tx) (c : Ch) : Prop :=
  (c.fK = 1 ∧ mget n m = none ∧ mget n m' = some c.fW ∧ c.fO = fl0) ∨ (c.fK = 3 ∧ mget n m = some c.fO ∧ mget n m' = none ∧ c.fW = fl0) ∨ (c.fK = 2 ∧ mget n m = some c.fO ∧ mget n m' = some c.fW ∧ c.fO ≠ c.fW)
structure Cov (m m' : Mp) (S : List Tx) : Prop where
  nodup : S.Nodup
  all : ∀ n, n ∈ S ↔ (mget n m ≠ none ∨ mget n m' ≠ none)
theorem Cov.symm {m m' : Mp} {S : List Tx} (h : Cov m m' S) : Cov m' m S := ⟨h.nodup, fun n => by rw [h.all, or_comm]⟩
def nmC (c : Ch) : Tx := if c.fK = 1 then c.fW.fN else c.fO.fN
section
variable {m m' : Mp} {n : Tx} {c : Ch}
theorem IsC.name (h : IsC m m' n c) (hk : Keyed m) (hk' : Keyed m') : nmC c = n := by
  unfold nmC
  rcases h with ⟨h1, h2, h3, h4⟩ | ⟨h1, h2, h3, h4⟩ | ⟨h1, h2, h3, h4⟩
  · rw [if_pos h1]; exact keyed_get hk' h3
  · rw [if_neg (by omega)]; exact keyed_get hk h2
  · rw [if_neg (by omega)]; exact keyed_get hk h2
theorem name_eq (k : Nat) (c : Ch) : delta_Change_name.f k c = some (nmC c) := by
  unfold delta_Change_name.f nmC
  by_cases h : c.fK = 1
  · rw [if_pos (by simpa using h), if_pos h]
  · rw [if_neg (by simpa using h), if_neg h]
end
theorem mput_new {α : Type} {n : Tx} {v : α} : ∀ {m : KV α}, mget n m = none → (mput n v m).length = m.length + 1
  | [], _ => rfl
  | y :: r, h => by
    unfold mget at h
    by_cases e : y.1 = n
    · rw [if_pos e] at h; cases h
    · rw [if_neg e] at h
      unfold mput
      rw [if_neg e]
      split
      · rfl
      · simp [mput_new h]
def fitB (c : Ch) (m : Mp) : Bool := if c.fK = 1 then !(mget (nmC c) m).isSome else (mget (nmC c) m).isSome && feqB ((mget (nmC c) m).getD fl0) c.fO
theorem fits_eq (k : Nat) (c : Ch) (m : Mp) : delta_Change_fits_m0.f k c m = some (fitB c m) := by
  unfold delta_Change_fits_m0.f fitB
  rw [ch_eta, name_eq, Option.bind_some, get_eq, Option.bind_some]
  by_cases h : c.fK = 1
  · rw [if_pos (by simpa using h), if_pos h]
  · rw [if_neg (by simpa using h), if_neg h]
    cases (mget (nmC c) m).isSome <;> rfl
def delM (m : Mp) (l : List Ch) : Mp := l.foldl (fun m c => if c.fK = 3 then mdel c.fO.fN m else m) m
def putM (m : Mp) (l : List Ch) : Mp := l.foldl (fun m c => if c.fK = 3 then m else mput c.fW.fN c.fW m) m
theorem del_loop (k : Nat) (L : List Ch) (hL : L.length ≤ 1000) : ∀ (l : List Ch) (fuel i : Nat) (cur : Mp), L.drop i = l → l.length < fuel → (∀ c ∈ l, c.fK = 3 → (mget c.fO.fN cur).isSome = true) → (l.map nmC).Nodup →
    delta_do_m0.l22 k L fuel cur (i : Int) = some (.inl (delM cur l))
  | _, 0, _, _, _, h, _, _ => by omega
  | [], f + 1, i, cur, hl, _, _, _ => by
    have := at_nil hl
    unfold delta_do_m0.l22
    rw [if_neg (by simp; omega)]; rfl
  | c :: r, f + 1, i, cur, hl, hf, h1, h2 => by
    obtain ⟨g1, g2, g3⟩ := at_drop hl
    obtain ⟨p1, p2⟩ := List.nodup_cons.1 h2
    unfold delta_do_m0.l22 delta_do_m0.j28
    rw [if_pos (by simp; exact g3), g1, Option.bind_some, wr1 (by omega)]
    by_cases h : c.fK = 3
    · have hs := h1 c List.mem_cons_self h
      have e : remS cur c.fO.fN = (0, mdel c.fO.fN cur) := by unfold remS; rw [if_pos hs]
      rw [if_pos (by simpa using h), rem_eq, Option.bind_some, e, if_neg (by simp)]
      have hd : delM cur (c :: r) = delM (mdel c.fO.fN cur) r := by unfold delM; rw [List.foldl_cons, if_pos h]
      rw [hd]
      refine del_loop k L hL r f (i + 1) _ g2 (by simpa using hf) (fun d hd h3 => ?_) p2
      have hne : d.fO.fN ≠ c.fO.fN := fun e => p1 (List.mem_map.2 ⟨d, hd, by unfold nmC; rw [if_neg (by omega), if_neg (by omega), e]⟩)
      rw [mget_del_ne hne]
      exact h1 d (List.mem_cons_of_mem _ hd) h3
    · rw [if_neg (by simpa using h)]
      have hd : delM cur (c :: r) = delM cur r := by unfold delM; rw [List.foldl_cons, if_neg h]
      rw [hd]
      exact del_loop k L hL r f (i + 1) cur g2 (by simpa using hf) (fun d hd h3 => h1 d (List.mem_cons_of_mem _ hd) h3) p2
def Valid (m : Mp) : Prop := ∀ y ∈ m, mayS [] y.2 = 0
end Go.Proofs.YtkdpaglpieamgaaDoor
