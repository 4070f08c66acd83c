/- Sets in an expression's node and program. -/
import Derived.Test.YteddmdkbeednmaaDoorK33DAVP
import Derived.Test.YteddmdkbeednmaaDoorK33DAVQF
namespace Go.Proofs.YteddmdkbeednmaaDoor.Rx
open Go Go.AM
set_option linter.unusedVariables false
set_option linter.unusedSimpArgs false
set_option maxRecDepth 100000
set_option maxHeartbeats 1000000
theorem setW_ok (f : Nat → Bool) : Pk.SetOk (setW f) := by
  refine ⟨rfl, fun x hx => ?_⟩
  have h := fun b => wd_lt f 64 b
  have h0 := h 0
  have h1 := h 64
  have h2 := h 128
  have h3 := h 192
  simp only [setW, List.mem_cons, List.mem_nil_iff, or_false] at hx
  rcases hx with rfl | rfl | rfl | rfl <;> exact ⟨by omega, by omega⟩
theorem z4_ok : Pk.SetOk z4 := ⟨rfl, fun x hx => by
  have : x = 0 := (List.mem_replicate.1 hx).2
  subst this; exact ⟨by omega, by omega⟩⟩
mutual
def setsN : RN → Prop
  | .mk _ _ s ks => Pk.SetOk s ∧ setsNs ks
def setsNs : List RN → Prop
  | [] => True
  | x :: xs => setsN x ∧ setsNs xs
end
theorem setsNs_app (a b : List RN) : setsNs (a ++ b) ↔ setsNs a ∧ setsNs b := by
  induction a with
  | nil => simp [setsNs]
  | cons x a ih => simp only [List.cons_append, setsNs, ih, and_assoc]
theorem jn_sets {k : Int} {ks : List RN} (h : setsNs ks) : setsN (jn k ks) := by
  match ks, h with
  | [], _ => exact ⟨z4_ok, trivial⟩
  | [n], h => exact h.1
  | x :: y :: l, h => exact ⟨z4_ok, h⟩
theorem tkC_set {r u : List UInt8} {x : Tk} (h : tkC r = some (x, u)) : Pk.SetOk x.2 := by
  cases r with
  | nil => cases h
  | cons b t =>
    rw [tk_cons] at h
    split at h
    · split at h
      · cases h
      · cases h; exact setW_ok _
    split at h
    · unfold clsS at h
      cases hc : clsC t with
      | none => rw [hc] at h; cases h
      | some y => rw [hc] at h; cases h; exact setW_ok _
    split at h
    · cases h; exact setW_ok _
    split at h
    · cases h; exact z4_ok
    · cases h; exact setW_ok _
theorem node_sets : ∀ m,
    (∀ kids r g kids' r' g', brC tkC m kids r g = some (kids', r', g') → setsNs kids → setsNs kids') ∧
    (∀ r g n r' g', exC tkC m r g = some (n, r', g') → setsN n) ∧
    (∀ kids r g n r' g', exB tkC m kids r g = some (n, r', g') → setsNs kids → setsN n) := by
  intro m
  induction m with
  | zero =>
    refine ⟨fun kids r g kids' r' g' h => ?_, fun r g n r' g' h => ?_, fun kids r g n r' g' h => ?_⟩
    · unfold brC at h; cases h
    · unfold exC at h; cases h
    · unfold exB at h; cases h
  | succ m ih =>
    obtain ⟨iB, iE, iX⟩ := ih
    refine ⟨fun kids r g kids' r' g' h hG => ?_, fun r g n r' g' h => ?_, fun kids r g n r' g' h hG => ?_⟩
    · have add : ∀ n, setsN n → setsNs (kids ++ [n]) := fun n hn => (setsNs_app _ _).2 ⟨hG, hn, trivial⟩
      cases r with
      | nil => unfold brC at h; cases h; exact hG
      | cons b t =>
        unfold brC at h
        split at h
        · cases h; exact hG
        split at h
        · split at h
          · cases h
          · rename_i n hn
            obtain ⟨ps, rfl⟩ := List.getLast?_eq_some_iff.1 hn
            rw [List.dropLast_concat] at h
            have h1 := (setsNs_app _ _).1 hG
            exact iB _ _ _ _ _ _ h ((setsNs_app _ _).2 ⟨h1.1, ⟨z4_ok, h1.2.1, trivial⟩, trivial⟩)
        split at h
        · split at h
          · rename_i n c u g1 hE
            split at h
            · exact iB _ _ _ _ _ _ h (add _ ⟨z4_ok, iE _ _ _ _ _ hE, trivial⟩)
            · cases h
          · cases h
        split at h
        · exact iB _ _ _ _ _ _ h (add _ ⟨z4_ok, trivial⟩)
        split at h
        · exact iB _ _ _ _ _ _ h (add _ ⟨z4_ok, trivial⟩)
        split at h
        · rename_i x u ht
          exact iB _ _ _ _ _ _ h (add _ ⟨tkC_set ht, trivial⟩)
        · cases h
    · unfold exC at h
      split at h
      · cases h
      · rename_i ks r1 g1 hB
        exact iX _ _ _ _ _ _ h ⟨jn_sets (iB _ _ _ _ _ _ hB trivial), trivial⟩
    · cases r with
      | nil => unfold exB at h; cases h; exact jn_sets hG
      | cons b t =>
        unfold exB at h
        split at h
        · split at h
          · cases h
          · rename_i ks1 r1 g1 hB
            exact iX _ _ _ _ _ _ h ((setsNs_app _ _).2 ⟨hG, jn_sets (iB _ _ _ _ _ _ hB trivial), trivial⟩)
        · cases h; exact jn_sets hG
theorem parse_sets {s : List UInt8} {n : RN} (h : parseC s = (n, 0)) : setsN n := by
  unfold parseC at h
  split at h
  · cases h
  · split at h
    · rename_i n' g hx
      split at h
      · cases h
      · cases h
        exact (node_sets _).2.1 _ _ _ _ _ hx
    · cases h
def InsOk (l : List PI) : Prop := ∀ x ∈ l, Pk.SetOk x.f_Set
theorem InsOk.app {a b : List PI} (h1 : InsOk a) (h2 : InsOk b) : InsOk (a ++ b) := fun x hx => by
  rcases List.mem_append.1 hx with h | h
  · exact h1 x h
  · exact h2 x h
theorem InsOk.cons {a : PI} {b : List PI} (h1 : Pk.SetOk a.f_Set) (h2 : InsOk b) : InsOk (a :: b) := fun x hx => by
  rcases List.mem_cons.1 hx with rfl | h
  · exact h1
  · exact h2 x h
theorem InsOk.nil : InsOk [] := fun x hx => by cases hx
theorem ins_ok (a b c : Int) : Pk.SetOk (ins a b c).f_Set := z4_ok
mutual
theorem code_sets : ∀ (n : RN) (p : Nat), setsN n → InsOk (codeN n p)
  | .mk kd ix st ks, p, h => by
    obtain ⟨h1, h2⟩ := h
    have hc := fun q => codes_sets ks q h2
    have ha := fun q e => alt_sets ks q e h2
    unfold codeN
    split
    · exact .cons h1 .nil
    split
    · exact hc _
    split
    · exact ha _ _
    split
    · exact .cons (ins_ok _ _ _) ((hc _).app (.cons (ins_ok _ _ _) .nil))
    split
    · exact (hc _).app (.cons (ins_ok _ _ _) .nil)
    split
    · exact .cons (ins_ok _ _ _) (hc _)
    split
    · exact .cons (ins_ok _ _ _) ((hc _).app (.cons (ins_ok _ _ _) .nil))
    split
    · exact .cons (ins_ok _ _ _) .nil
    split
    · exact .cons (ins_ok _ _ _) .nil
    · exact .nil
theorem codes_sets : ∀ (ks : List RN) (p : Nat), setsNs ks → InsOk (codesN ks p)
  | [], p, _ => by unfold codesN; exact .nil
  | x :: xs, p, h => by unfold codesN; exact (code_sets x p h.1).app (codes_sets xs _ h.2)
theorem alt_sets : ∀ (ks : List RN) (p e : Nat), setsNs ks → InsOk (altN ks p e)
  | [], p, e, _ => by unfold altN; exact .nil
  | x :: xs, p, e, h => by
    unfold altN
    split
    · exact code_sets x p h.1
    · exact .cons (ins_ok _ _ _) ((code_sets x _ h.1).app (.cons (ins_ok _ _ _) (alt_sets xs _ _ h.2)))
end
theorem prog_sets {n : RN} (h : setsN n) : InsOk (progN n) := .cons (ins_ok _ _ _) ((code_sets n 1 h).app (.cons (ins_ok _ _ _) (.cons (ins_ok _ _ _) .nil)))
end Go.Proofs.YteddmdkbeednmaaDoor.Rx
