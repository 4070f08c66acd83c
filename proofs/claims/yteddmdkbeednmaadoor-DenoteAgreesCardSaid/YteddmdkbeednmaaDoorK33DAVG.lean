/- Expressions: the code's way of reading and the document's, told of signs; they are the same. -/
import Derived.Test.YteddmdkbeednmaaDoorK33DAF
namespace Go.Proofs.YteddmdkbeednmaaDoor.Rx
set_option linter.unusedVariables false
set_option linter.unusedSimpArgs false
set_option maxRecDepth 100000
abbrev RN := T_rex_Node
abbrev Tk := Int × List Int
def z4 : List Int := List.replicate 4 0
def isMk (b : UInt8) : Bool := b == 40 || (b == 41 || (b == 124 || (b == 42 || (b == 43 || (b == 63 || (b == 94 || b == 36))))))
section
variable (oneW : UInt8 → List Int) (dotW : List Int) (clsS : List UInt8 → Option (List Int × List UInt8))
def tok1 : List UInt8 → Option (Tk × List UInt8)
  | [] => none
  | b :: t => if b = 92 then (match t with | [] => none | c :: u => some ((0, oneW c), u)) else if b = 91 then (clsS t).map (fun x => ((0, x.1), x.2))
      else if b = 46 then some ((0, dotW), t) else if isMk b then some (((b.toNat : Int), z4), t) else some ((0, oneW b), t)
end
def oneN (s : List Int) : RN := .mk 1 0 s []
def kindN (k : Int) : RN := .mk k 0 z4 []
def wrapN (b : Int) (n : RN) : RN := .mk (if b = 43 then 5 else if b = 63 then 6 else 4) 0 z4 [n]
def grpN (g : Nat) (n : RN) : RN := .mk 7 (g : Int) z4 [n]
def jn (k : Int) : List RN → RN
  | [] => .mk 0 0 z4 []
  | [n] => n
  | l => .mk k 0 z4 l
def opn : List Tk → Nat
  | [] => 0
  | x :: t => (if x.1 = 40 then 1 else 0) + opn t
theorem opn_app (a b : List Tk) : opn (a ++ b) = opn a + opn b := by
  induction a with
  | nil => simp [opn]
  | cons x t ih => simp only [List.cons_append, opn, ih]; omega
section
variable (tk : List UInt8 → Option (Tk × List UInt8))
inductive Con : List UInt8 → List Tk → List UInt8 → Prop
  | nil (r : List UInt8) : Con r [] r
  | cons {r u r' : List UInt8} {x : Tk} {ts : List Tk} : tk r = some (x, u) → Con u ts r' → Con r (x :: ts) r'
structure TkOk : Prop where
  nil : tk [] = none
  mark : ∀ (b : UInt8) (t : List UInt8), isMk b = true → tk (b :: t) = some (((b.toNat : Int), z4), t)
  set : ∀ (b : UInt8) (t : List UInt8) (x : Tk) (u : List UInt8), isMk b = false → tk (b :: t) = some (x, u) → x.1 = 0 ∧ u.length ≤ t.length
mutual
def brC : Nat → List RN → List UInt8 → Nat → Option (List RN × List UInt8 × Nat)
  | 0, _, _, _ => none
  | _ + 1, kids, [], g => some (kids, [], g)
  | m + 1, kids, b :: t, g =>
    if b = 124 ∨ b = 41 then some (kids, b :: t, g)
    else if b = 42 ∨ b = 43 ∨ b = 63 then (match kids.getLast? with | none => none | some n => brC m (kids.dropLast ++ [wrapN (b.toNat : Int) n]) t g)
    else if b = 40 then (match exC m t (g + 1) with | some (n, c :: u, g') => if c = 41 then brC m (kids ++ [grpN (g + 1) n]) u g' else none | _ => none)
    else if b = 94 then brC m (kids ++ [kindN 8]) t g
    else if b = 36 then brC m (kids ++ [kindN 9]) t g
    else match tk (b :: t) with | some (x, u) => brC m (kids ++ [oneN x.2]) u g | none => none
def exC : Nat → List UInt8 → Nat → Option (RN × List UInt8 × Nat)
  | 0, _, _ => none
  | m + 1, r, g => match brC m [] r g with | none => none | some (ks, r', g') => exB m [jn 2 ks] r' g'
def exB : Nat → List RN → List UInt8 → Nat → Option (RN × List UInt8 × Nat)
  | 0, _, _, _ => none
  | _ + 1, kids, [], g => some (jn 3 kids, [], g)
  | m + 1, kids, b :: t, g => if b = 124 then (match brC m [] t g with | none => none | some (ks, r', g') => exB m (kids ++ [jn 2 ks]) r' g') else some (jn 3 kids, b :: t, g)
end
end
def cl : Nat → List Tk → Option (List Tk × List Tk)
  | _, [] => none
  | d, x :: t => if x.1 = 41 then (if d ≤ 1 then some ([], t) else (cl (d - 1) t).map fun y => (x :: y.1, y.2)) else (cl (if x.1 = 40 then d + 1 else d) t).map fun y => (x :: y.1, y.2)
def segD (rec : List Tk → Nat → Option (List RN)) : List RN → List Tk → Nat → List Tk → Nat → Option RN
  | kids, seg, _, [], c => (rec seg c).map fun ks => jn 3 (kids ++ [jn 2 ks])
  | kids, seg, d, x :: t, c =>
    if x.1 = 41 then (if d = 0 then none else segD rec kids (seg ++ [x]) (d - 1) t c)
    else if x.1 = 40 then segD rec kids (seg ++ [x]) (d + 1) t c
    else if x.1 = 124 ∧ d = 0 then (match rec seg c with | none => none | some ks => segD rec (kids ++ [jn 2 ks]) [] 0 t (c + opn seg))
    else segD rec kids (seg ++ [x]) d t c
mutual
def brD : Nat → List RN → List Tk → Nat → Option (List RN)
  | 0, _, _, _ => none
  | _ + 1, kids, [], _ => some kids
  | M + 1, kids, x :: t, c =>
    if x.1 = 0 then brD M (kids ++ [oneN x.2]) t c
    else if x.1 = 94 then brD M (kids ++ [kindN 8]) t c
    else if x.1 = 36 then brD M (kids ++ [kindN 9]) t c
    else if x.1 = 42 ∨ x.1 = 43 ∨ x.1 = 63 then (match kids.getLast? with | none => none | some n => brD M (kids.dropLast ++ [wrapN x.1 n]) t c)
    else if x.1 = 40 then (match cl 1 t with | none => none | some (inner, u) => match exD M inner (c + 1) with | none => none | some n => brD M (kids ++ [grpN (c + 1) n]) u (c + 1 + opn inner))
    else none
def exD : Nat → List Tk → Nat → Option RN
  | 0, _, _ => none
  | M + 1, toks, c => segD (fun seg c' => brD M [] seg c') [] [] 0 toks c
end
def nbS : Nat → List Tk → Option Nat
  | d, [] => some d
  | d, x :: t => if x.1 = 41 then (if d = 0 then none else nbS (d - 1) t) else if x.1 = 40 then nbS (d + 1) t else if x.1 = 124 ∧ d = 0 then none else nbS d t
def dp : Nat → List Tk → Option Nat
  | d, [] => some d
  | d, x :: t => if x.1 = 41 then (if d = 0 then none else dp (d - 1) t) else if x.1 = 40 then dp (d + 1) t else dp d t
theorem nb_app : ∀ (a b : List Tk) (d : Nat), nbS d (a ++ b) = (nbS d a).bind fun d' => nbS d' b
  | [], b, d => rfl
  | x :: t, b, d => by
    simp only [List.cons_append, nbS]
    split
    · split
      · rfl
      · exact nb_app t b _
    · split
      · exact nb_app t b _
      · split
        · rfl
        · exact nb_app t b _
theorem dp_app : ∀ (a b : List Tk) (d : Nat), dp d (a ++ b) = (dp d a).bind fun d' => dp d' b
  | [], b, d => rfl
  | x :: t, b, d => by
    simp only [List.cons_append, dp]
    split
    · split
      · rfl
      · exact dp_app t b _
    · split
      · exact dp_app t b _
      · exact dp_app t b _
theorem nb_dp : ∀ (a : List Tk) (d e : Nat), nbS d a = some e → dp d a = some e
  | [], d, e, h => h
  | x :: t, d, e, h => by
    unfold nbS at h
    unfold dp
    split at h
    · rename_i h1
      rw [if_pos h1]
      split at h
      · cases h
      · rename_i h2; rw [if_neg h2]; exact nb_dp t _ _ h
    · rename_i h1
      rw [if_neg h1]
      split at h
      · rename_i h2; rw [if_pos h2]; exact nb_dp t _ _ h
      · rename_i h2
        rw [if_neg h2]
        split at h
        · cases h
        · exact nb_dp t _ _ h
theorem dp_nb : ∀ (a : List Tk) (d e : Nat), dp d a = some e → nbS (d + 1) a = some (e + 1)
  | [], d, e, h => by cases h; rfl
  | x :: t, d, e, h => by
    unfold dp at h
    unfold nbS
    split at h
    · rename_i h1
      rw [if_pos h1, if_neg (by omega)]
      split at h
      · cases h
      · have := dp_nb t _ _ h
        rw [show d + 1 - 1 = d - 1 + 1 by omega]; exact this
    · rename_i h1
      rw [if_neg h1]
      split at h
      · rename_i h2; rw [if_pos h2]; exact dp_nb t _ _ h
      · rename_i h2; rw [if_neg h2, if_neg (by omega)]; exact dp_nb t _ _ h
theorem seg_app (rec : List Tk → Nat → Option (List RN)) (kids : List RN) (c : Nat) : ∀ (a b seg : List Tk) (d e : Nat), nbS d a = some e → segD rec kids seg d (a ++ b) c = segD rec kids (seg ++ a) e b c
  | [], b, seg, d, e, h => by cases h; simp
  | x :: t, b, seg, d, e, h => by
    have e1 : seg ++ x :: t = (seg ++ [x]) ++ t := by simp
    unfold nbS at h
    rw [List.cons_append, e1]
    conv => lhs; unfold segD
    split at h
    · rename_i h1
      rw [if_pos h1]
      split at h
      · cases h
      · rename_i h2; rw [if_neg h2]; exact seg_app rec kids c t b _ _ _ h
    · rename_i h1
      rw [if_neg h1]
      split at h
      · rename_i h2; rw [if_pos h2]; exact seg_app rec kids c t b _ _ _ h
      · rename_i h2
        rw [if_neg h2]
        split at h
        · cases h
        · rename_i h3; rw [if_neg h3]; exact seg_app rec kids c t b _ _ _ h
theorem cl_app : ∀ (a b : List Tk) (d e : Nat), dp d a = some e → cl (d + 1) (a ++ b) = (cl (e + 1) b).map fun y => (a ++ y.1, y.2)
  | [], b, d, e, h => by
    cases h
    cases hc : cl (d + 1) b <;> simp [hc]
  | x :: t, b, d, e, h => by
    unfold dp at h
    rw [List.cons_append]
    conv => lhs; unfold cl
    split at h
    · rename_i h1
      rw [if_pos h1]
      split at h
      · cases h
      · rename_i h2
        rw [if_neg (by omega)]
        have := cl_app t b _ _ h
        rw [show d + 1 - 1 = d - 1 + 1 by omega, this]
        cases cl (e + 1) b <;> rfl
    · rename_i h1
      rw [if_neg h1]
      split at h
      · rename_i h2
        rw [if_pos h2, cl_app t b _ _ h]
        cases cl (e + 1) b <;> rfl
      · rename_i h2
        rw [if_neg h2, cl_app t b _ _ h]
        cases cl (e + 1) b <;> rfl
end Go.Proofs.YteddmdkbeednmaaDoor.Rx
