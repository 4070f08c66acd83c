/- A part of the proof of a given law: CYF. Own work, printed in part by a program of mine. -/
import Derived.Test.YtlmhnhlmlhfigaaK42CYTy
import Derived.Test.YtlmhnhlmlhfigaaK42PS
namespace Go.Proofs.Ytlmhnhlmlhfigaa
open Go Go.AM
set_option linter.unusedVariables false
set_option linter.unusedSimpArgs false
set_option maxRecDepth 100000
set_option maxHeartbeats 4000000
def names_Sorted.f (k : Nat) (a0 : List (List UInt8)) : Option (List (List UInt8)) := ((pCloneR.f k a0).bind fun v1 => ((pSortR.f k v1).bind fun v2 => (if v2.length = v1.length then ((pCompactRR.f k v2).bind fun v4 => some v4) else none)))
def arcsG : List T_cycle_Node → List ((List UInt8) × (List (List UInt8))) → List ((List UInt8) × (List (List UInt8)))
  | [], m => m
  | n :: l, m => arcsG l (mput n.f_Name (((mget n.f_Name m).getD []) ++ n.f_To) m)
def arcsM (k : Nat) : List ((List UInt8) × (List (List UInt8))) → Option (List ((List UInt8) × (List (List UInt8))))
  | [] => some []
  | y :: r => ((names_Sorted.f k y.2).bind fun z => ((arcsM k r).bind fun r' => some ((y.1, z) :: r')))
def cycle_arcsOf.f (k : Nat) (a0 : List T_cycle_Node) : Option (List ((List UInt8) × (List (List UInt8)))) := if a0.length ≤ LIM ∧ (a0.map fun n => n.f_To.length).sum ≤ LIM then arcsM k (arcsG a0 []) else none
def cycle_Names.j3 (k : Nat) (v1 : List (List UInt8)) : Option (List (List UInt8)) := ((names_Sorted.f k v1).bind fun v2 => some v2)
def cycle_Names.l6 (k : Nat) (a0 : List T_cycle_Node) : Nat → (List (List UInt8)) → Int → Option (List (List UInt8))
  | 0, _, _ => none
  | n + 1, v4, v5 => (if (decide (v5 < (a0.length : Int))) then ((idx a0 v5).bind fun v11 => (if v4.length + [v11.f_Name].length ≤ LIM then (if (v4 ++ [v11.f_Name]).length + v11.f_To.length ≤ LIM then (cycle_Names.l6 k a0 n) ((v4 ++ [v11.f_Name]) ++ v11.f_To) (IntKind.i64.wrap (v5 + 1)) else none) else none)) else some v4)
def cycle_Names.f (k : Nat) (a0 : List T_cycle_Node) : Option (List (List UInt8)) := ((cycle_Names.l6 k a0 k [] 0).bind fun o8 => cycle_Names.j3 k o8)
def slices_Index_string_string.j1 (k : Nat) : Option Int := some (-1)
def slices_Index_string_string.l3 (k : Nat) (a0 : List (List UInt8)) (a1 : List UInt8) : Nat → Int → Option (Sum Unit Int)
  | 0, _ => none
  | n + 1, v2 => (if (decide (v2 < (a0.length : Int))) then ((idx a0 v2).bind fun v7 => (if (a1 == v7) then some (Sum.inr v2) else (slices_Index_string_string.l3 k a0 a1 n) (IntKind.i64.wrap (v2 + 1)))) else some (Sum.inl ()))
def slices_Index_string_string.f (k : Nat) (a0 : List (List UInt8)) (a1 : List UInt8) : Option Int := ((slices_Index_string_string.l3 k a0 a1 k 0).bind fun o4 => match o4 with | Sum.inl u9 => slices_Index_string_string.j1 k | Sum.inr u10 => some u10)
def slices_Contains_string_string.f (k : Nat) (a0 : List (List UInt8)) (a1 : List UInt8) : Option Bool := ((slices_Index_string_string.f k a0 a1).bind fun v1 => some (decide (v1 ≥ 0)))
def names_Has.f (k : Nat) (a0 : List (List UInt8)) (a1 : List UInt8) : Option Bool := ((slices_Contains_string_string.f k a0 a1).bind fun v1 => some v1)
def cycle_arcs_reach_m0.l (k : Nat) (a0 : List ((List UInt8) × (List (List UInt8)))) : Nat → List (List UInt8) → List (List UInt8) → Option (List (List UInt8))
  | 0, _, _ => none
  | _ + 1, out, [] => some out
  | n + 1, out, x :: q => ((names_Has.f k out x).bind fun v => if v then cycle_arcs_reach_m0.l k a0 n out q else if out.length + [x].length ≤ LIM then if q.length + ((mget x a0).getD []).length ≤ LIM then cycle_arcs_reach_m0.l k a0 n (out ++ [x]) (q ++ ((mget x a0).getD [])) else none else none)
def cycle_arcs_reach_m0.f (k : Nat) (a0 : List ((List UInt8) × (List (List UInt8)))) (a1 : List UInt8) : Option (List (List UInt8)) := ((pCloneR.f k ((mget a1 a0).getD [])).bind fun v1 => ((cycle_arcs_reach_m0.l k a0 k [] v1).bind fun v2 => names_Sorted.f k v2))
def farLev (a : List ((List UInt8) × (List (List UInt8)))) (to : List UInt8) : Nat → List (List UInt8)
  | 0 => [to]
  | d + 1 => (a.filter fun y => y.2.any fun m => (farLev a to d).contains m).map fun y => y.1
def farD (a : List ((List UInt8) × (List (List UInt8)))) (to m : List UInt8) : Option Nat := (List.range (a.length + 1)).find? fun d => (farLev a to d).contains m
def farKV (a : List ((List UInt8) × (List (List UInt8)))) (to : List UInt8) : List (List UInt8) → List ((List UInt8) × Int)
  | [] => []
  | x :: l => match farD a to x with
    | some d => mput x (d : Int) (farKV a to l)
    | none => farKV a to l
def cycle_arcs_far_m0.f (k : Nat) (a0 : List ((List UInt8) × (List (List UInt8)))) (a1 : List UInt8) : Option (List ((List UInt8) × Int)) := if a0.length ≤ LIM ∧ (a0.all fun y => decide (y.2.length ≤ LIM)) = true then some (farKV a0 a1 (a1 :: a0.map fun y => y.1)) else none
theorem kv_ext {α : Type} : ∀ {m m' : KV α}, Rising m → Rising m' → (∀ k, mget k m = mget k m') → m = m'
  | [], [], _, _, _ => rfl
  | [], y :: r, _, _, h => by have := h y.1; simp [mget] at this
  | y :: r, [], _, _, h => by have := h y.1; simp [mget] at this
  | y :: r, z :: r', h1, h2, h => by
    obtain ⟨p1, p2⟩ := List.pairwise_cons.1 h1
    obtain ⟨q1, q2⟩ := List.pairwise_cons.1 h2
    have hyz : y.1 = z.1 := by
      by_cases e : y.1 = z.1
      · exact e
      · rcases less_total e with hl | hl
        · have h3 : mget y.1 (z :: r') = none := mget_none.2 fun w hw e' => by
            rcases List.mem_cons.1 hw with rfl | hw
            · exact e e'.symm
            · exact less_ne (less_trans hl (q1 w hw)) e'.symm
          rw [← h y.1] at h3
          simp [mget] at h3
        · have h3 : mget z.1 (y :: r) = none := mget_none.2 fun w hw e' => by
            rcases List.mem_cons.1 hw with rfl | hw
            · exact e e'
            · exact less_ne (less_trans hl (p1 w hw)) e'.symm
          rw [h z.1] at h3
          simp [mget] at h3
    have hv : y = z := by
      have := h y.1
      rw [mget, if_pos rfl, mget, if_pos hyz.symm] at this
      exact Prod.ext hyz (Option.some.inj this)
    subst hv
    congr 1
    refine kv_ext p2 q2 fun k => ?_
    have hk := h k
    unfold mget at hk
    split at hk
    · rename_i e
      subst e
      rw [mget_none.2 fun w hw => (less_ne (p1 w hw)).symm, mget_none.2 fun w hw => (less_ne (q1 w hw)).symm]
    · exact hk
theorem nodup_len {α : Type} [DecidableEq α] : ∀ {l k : List α}, l.Nodup → (∀ x ∈ l, x ∈ k) → l.length ≤ k.length
  | [], _, _, _ => Nat.zero_le _
  | x :: l, k, hn, hs => by
    obtain ⟨h1, h2⟩ := List.nodup_cons.1 hn
    have hx := hs x List.mem_cons_self
    have := nodup_len (l := l) (k := k.erase x) h2 fun y hy => (List.mem_erase_of_ne (fun e : y = x => h1 (e ▸ hy))).2 (hs y (List.mem_cons_of_mem _ hy))
    rw [List.length_erase_of_mem hx] at this
    have : 0 < k.length := List.length_pos_of_mem hx
    simp only [List.length_cons]; omega
theorem mput_len {α : Type} {k : List UInt8} {v : α} : ∀ {m : KV α}, Rising m → (mput k v m).length = if (mget k m).isSome then m.length else m.length + 1
  | [], _ => rfl
  | y :: r, h => by
    obtain ⟨h1, h2⟩ := List.pairwise_cons.1 h
    unfold mput
    split
    · rename_i e; simp [mget, e]
    split
    · rename_i hne hl
      have : mget k r = none := mget_none.2 fun w hw e' => less_ne (less_trans hl (h1 w hw)) e'.symm
      simp [mget, hne, this]
    · rename_i hne hl
      have ih := mput_len (k := k) (v := v) h2
      simp only [List.length_cons, ih, mget, if_neg hne]
      split <;> rfl
theorem sum_map_lt {α : Type} {f g : α → Nat} : ∀ {l : List α}, (∀ x ∈ l, f x ≤ g x) → (∃ x ∈ l, f x < g x) → (l.map f).sum < (l.map g).sum
  | [], _, h => by obtain ⟨x, hx, _⟩ := h; cases hx
  | y :: l, h1, h2 => by
    have hy := h1 y List.mem_cons_self
    have hle : (l.map f).sum ≤ (l.map g).sum := by
      have : ∀ l : List α, (∀ x ∈ l, f x ≤ g x) → (l.map f).sum ≤ (l.map g).sum := by
        intro l
        induction l with
        | nil => intro _; exact Nat.le_refl _
        | cons z l ih => intro h; simp only [List.map_cons, List.sum_cons]; have := h z List.mem_cons_self; have := ih fun x hx => h x (List.mem_cons_of_mem _ hx); omega
      exact this l fun x hx => h1 x (List.mem_cons_of_mem _ hx)
    simp only [List.map_cons, List.sum_cons]
    obtain ⟨x, hx, hlt⟩ := h2
    rcases List.mem_cons.1 hx with rfl | hx
    · omega
    · have := sum_map_lt (fun x hx => h1 x (List.mem_cons_of_mem _ hx)) ⟨x, hx, hlt⟩
      omega
def farMu (a : KV (List (List UInt8))) (to : List UInt8) (M : KV Int) : Nat := ((to :: a.map fun y => y.1).map fun x => match mget x M with | some d => d.toNat | none => a.length + 2).sum
structure FarI (a : KV (List (List UInt8))) (to : List UInt8) (M : KV Int) : Prop where
  ris : Rising M
  zero : mget to M = some 0
  lev : ∀ m d, mget m M = some d → 0 ≤ d ∧ d.toNat < M.length ∧ m ∈ farLev a to d.toNat
  key : ∀ m d, mget m M = some d → m ∈ to :: a.map fun y => y.1
theorem FarI.len {a : KV (List (List UInt8))} {to : List UInt8} {M : KV Int} (h : FarI a to M) : M.length ≤ a.length + 1 := by
  have hn : (M.map fun y => y.1).Nodup := by
    unfold List.Nodup
    rw [List.pairwise_map]
    exact Rising.apart h.ris
  have := nodup_len (k := to :: a.map fun y => y.1) hn fun x hx => by
    obtain ⟨y, hy, rfl⟩ := List.mem_map.1 hx
    exact h.key y.1 y.2 (mget_of (Rising.apart h.ris) hy)
  simpa using this
theorem FarI.first (a : KV (List (List UInt8))) (to : List UInt8) : FarI a to [(to, 0)] := by
  refine ⟨List.pairwise_singleton _ _, by simp [mget], fun m d h => ?_, fun m d h => ?_⟩
  all_goals
    unfold mget at h
    split at h
    case isFalse => cases h
    rename_i e
    subst e
    cases h
  · exact ⟨Int.le_refl _, by simp, by simp [farLev]⟩
  · simp
theorem FarI.put {a : KV (List (List UInt8))} {to : List UInt8} {M : KV Int} (h : FarI a to M) {y : List UInt8 × List (List UInt8)} (hy : y ∈ a) {m : List UInt8} (hm : m ∈ y.2) {d : Int} (hd : mget m M = some d)
    (ho : mget y.1 M = none ∨ ∃ old, mget y.1 M = some old ∧ d + 1 < old) : FarI a to (mput y.1 (d + 1) M) ∧ farMu a to (mput y.1 (d + 1) M) < farMu a to M := by
  obtain ⟨l1, l2, l3⟩ := h.lev m d hd
  have hne : to ≠ y.1 := fun e => by
    rcases ho with ho | ⟨old, ho, hl⟩
    · rw [← e, h.zero] at ho; cases ho
    · rw [← e, h.zero] at ho; cases ho; omega
  have hlen := mput_len (k := y.1) (v := d + 1) h.ris
  have hlen2 : M.length ≤ (mput y.1 (d + 1) M).length := by rw [hlen]; split <;> omega
  have hnew : (d + 1).toNat < (mput y.1 (d + 1) M).length := by
    rcases ho with ho | ⟨old, ho, hl⟩
    · rw [hlen, ho]; simp; omega
    · have := (h.lev _ _ ho).2.1
      omega
  have hky : y.1 ∈ to :: a.map fun y => y.1 := List.mem_cons_of_mem _ (List.mem_map.2 ⟨y, hy, rfl⟩)
  refine ⟨⟨Rising.put h.ris, by rw [mget_put_ne _ hne]; exact h.zero, fun m' d' hd' => ?_, fun m' d' hd' => ?_⟩, ?_⟩
  · by_cases e : m' = y.1
    · subst e
      rw [mget_put_same] at hd'
      cases hd'
      refine ⟨by omega, hnew, ?_⟩
      rw [show (d + 1).toNat = d.toNat + 1 by omega]
      simp only [farLev]
      refine List.mem_map.2 ⟨y, List.mem_filter.2 ⟨hy, ?_⟩, rfl⟩
      exact List.any_eq_true.2 ⟨m, hm, by simpa using l3⟩
    · rw [mget_put_ne _ e] at hd'
      obtain ⟨q1, q2, q3⟩ := h.lev m' d' hd'
      exact ⟨q1, by omega, q3⟩
  · by_cases e : m' = y.1
    · rw [e]; exact hky
    · rw [mget_put_ne _ e] at hd'
      exact h.key m' d' hd'
  · have hL := h.len
    refine sum_map_lt (fun x _ => ?_) ⟨y.1, hky, ?_⟩
    · by_cases e : x = y.1
      · subst e
        rw [mget_put_same]
        rcases ho with ho | ⟨old, ho, hl⟩
        · rw [ho]; simp only; omega
        · rw [ho]; simp only; omega
      · rw [mget_put_ne _ e]; exact Nat.le_refl _
    · rw [mget_put_same]
      rcases ho with ho | ⟨old, ho, hl⟩
      · rw [ho]; simp only; omega
      · have := (h.lev _ _ ho).1
        rw [ho]; simp only; omega
def FarX (M : KV Int) (y : List UInt8 × List (List UInt8)) (m : List UInt8) : Prop := ∀ d, mget m M = some d → ∃ old, mget y.1 M = some old ∧ old ≤ d + 1
theorem FarI.least {a : KV (List (List UInt8))} {to : List UInt8} {M : KV Int} (h : FarI a to M) (hx : ∀ y ∈ a, ∀ m ∈ y.2, FarX M y m) : ∀ (d : Nat) (x : List UInt8), x ∈ farLev a to d → ∃ v, mget x M = some v ∧ v ≤ (d : Int)
  | 0, x, hm => by
    simp only [farLev, List.mem_singleton] at hm
    subst hm
    exact ⟨0, h.zero, by simp⟩
  | d + 1, x, hm => by
    simp only [farLev] at hm
    obtain ⟨y, hy, rfl⟩ := List.mem_map.1 hm
    obtain ⟨hy, hany⟩ := List.mem_filter.1 hy
    obtain ⟨m, hm, hc⟩ := List.any_eq_true.1 hany
    obtain ⟨v, hv, hle⟩ := FarI.least h hx d m (by simpa using hc)
    obtain ⟨old, ho, hol⟩ := hx y hy m hm v hv
    exact ⟨old, ho, by omega⟩
theorem farKV_rising (a : KV (List (List UInt8))) (to : List UInt8) : ∀ l, Rising (farKV a to l)
  | [] => .nil
  | x :: l => by
    unfold farKV
    split
    · exact Rising.put (farKV_rising a to l)
    · exact farKV_rising a to l
theorem farKV_get (a : KV (List (List UInt8))) (to x : List UInt8) : ∀ l, mget x (farKV a to l) = if x ∈ l then (farD a to x).map fun d => (d : Int) else none
  | [] => by simp [farKV, mget]
  | z :: l => by
    have ih := farKV_get a to x l
    unfold farKV
    by_cases e : x = z
    · subst e
      cases hd : farD a to x with
      | none => simp only [ih, hd]; simp
      | some d => simp only [mget_put_same]; simp
    · cases hd : farD a to z with
      | none => simp only [ih]; simp [e]
      | some d => simp only [mget_put_ne _ e, ih]; simp [e]
theorem FarI.last {a : KV (List (List UInt8))} {to : List UInt8} {M : KV Int} (h : FarI a to M) (hx : ∀ y ∈ a, ∀ m ∈ y.2, FarX M y m) : M = farKV a to (to :: a.map fun y => y.1) := by
  refine kv_ext h.ris (farKV_rising _ _ _) fun x => ?_
  rw [farKV_get]
  cases hv : mget x M with
  | some v =>
    obtain ⟨l1, l2, l3⟩ := h.lev x v hv
    have hL := h.len
    rw [if_pos (h.key x v hv)]
    have : farD a to x = some v.toNat := by
      unfold farD
      rw [List.find?_range_eq_some]
      refine ⟨by simpa using l3, by simp; omega, fun j hj => ?_⟩
      cases hc : (farLev a to j).contains x with
      | false => rfl
      | true =>
        obtain ⟨v', hv', hle⟩ := h.least hx j x (by simpa using hc)
        rw [hv] at hv'
        cases hv'
        omega
    rw [this]
    simp [Int.toNat_of_nonneg l1]
  | none =>
    split
    · have : farD a to x = none := by
        unfold farD
        rw [List.find?_range_eq_none]
        intro j _
        cases hc : (farLev a to j).contains x with
        | false => rfl
        | true =>
          obtain ⟨v', hv', _⟩ := h.least hx j x (by simpa using hc)
          rw [hv] at hv'; cases hv'
      rw [this]; rfl
    · rfl
def cycle_arcs_round_1_m0.j3 (k : Nat) (a1 : List ((List UInt8) × Int)) (v1 : List UInt8) (v2 : Int) : Option ((List UInt8) × Int) := some (v1, v2)
def cycle_arcs_round_1_m0.j15 (k : Nat) (rec : (List UInt8) → Int → Int → Option ((List UInt8) × Int)) (a0 : List (List UInt8)) (a1 : List ((List UInt8) × Int)) (v6 : Int) (v13 : List UInt8) (v14 : Int) : Option ((List UInt8) × Int) := rec v13 v14 (IntKind.i64.wrap (v6 + 1))
def cycle_arcs_round_1_m0.j19 (k : Nat) (rec : (List UInt8) → Int → Int → Option ((List UInt8) × Int)) (a0 : List (List UInt8)) (a1 : List ((List UInt8) × Int)) (v4 : List UInt8) (v5 : Int) (v6 : Int) (v16 : List UInt8) (v17 : Bool) : Option ((List UInt8) × Int) := (if v17 then cycle_arcs_round_1_m0.j15 k rec a0 a1 v6 v16 ((mget v16 a1).getD 0) else cycle_arcs_round_1_m0.j15 k rec a0 a1 v6 v4 v5)
def cycle_arcs_round_1_m0.l7 (k : Nat) (a0 : List (List UInt8)) (a1 : List ((List UInt8) × Int)) : Nat → (List UInt8) → Int → Int → Option ((List UInt8) × Int)
  | 0, _, _, _ => none
  | n + 1, v4, v5, v6 => (if (decide (v6 < (a0.length : Int))) then ((idx a0 v6).bind fun v16 => (if (mget v16 a1).isSome then (if (decide (v5 < 0)) then cycle_arcs_round_1_m0.j19 k (cycle_arcs_round_1_m0.l7 k a0 a1 n) a0 a1 v4 v5 v6 v16 true else cycle_arcs_round_1_m0.j19 k (cycle_arcs_round_1_m0.l7 k a0 a1 n) a0 a1 v4 v5 v6 v16 (decide (((mget v16 a1).getD 0) < v5))) else cycle_arcs_round_1_m0.j19 k (cycle_arcs_round_1_m0.l7 k a0 a1 n) a0 a1 v4 v5 v6 v16 false)) else some (v4, v5))
def cycle_arcs_round_1_m0.f (k : Nat) (a0 : List (List UInt8)) (a1 : List ((List UInt8) × Int)) : Option ((List UInt8) × Int) := ((cycle_arcs_round_1_m0.l7 k a0 a1 k ([] : List UInt8) (-1) 0).bind fun o10 => cycle_arcs_round_1_m0.j3 k a1 o10.1 o10.2)
def cycle_arcs_round_m0.j3 (k : Nat) (a0 : List ((List UInt8) × (List (List UInt8)))) (v2 : List (List UInt8)) : Option (List (List UInt8)) := some v2
def cycle_arcs_round_m0.l8 (k : Nat) (a0 : List ((List UInt8) × (List (List UInt8)))) (v1 : List ((List UInt8) × Int)) : Nat → (List (List UInt8)) → (List UInt8) → Int → Option (List (List UInt8))
  | 0, _, _, _ => none
  | n + 1, v5, v6, v7 => (if (decide (v7 > 0)) then (if v5.length + [v6].length ≤ LIM then ((cycle_arcs_round_1_m0.f k ((mget v6 a0).getD []) v1).bind fun v14 => (cycle_arcs_round_m0.l8 k a0 v1 n) (v5 ++ [v6]) v14.1 v14.2) else none) else some v5)
def cycle_arcs_round_m0.f (k : Nat) (a0 : List ((List UInt8) × (List (List UInt8)))) (a1 : List UInt8) : Option (List (List UInt8)) := ((cycle_arcs_far_m0.f k a0 a1).bind fun v1 => ((cycle_arcs_round_1_m0.f k ((mget a1 a0).getD []) v1).bind fun v4 => ((cycle_arcs_round_m0.l8 k a0 v1 k [a1] v4.1 v4.2).bind fun o10 => cycle_arcs_round_m0.j3 k a0 o10)))
def cycle_Find.j2 (k : Nat) : Option ((List (List UInt8)) × Bool) := some ([], false)
def cycle_Find.l5 (k : Nat) (v1 : List ((List UInt8) × (List (List UInt8)))) (v3 : List (List UInt8)) : Nat → Int → Option (Sum Unit ((List (List UInt8)) × Bool))
  | 0, _ => none
  | n + 1, v4 => (if (decide (v4 < (v3.length : Int))) then (if (0 : Int) ≤ v4 ∧ v4 < (v3.length : Int) then ((v3[(0 + v4.toNat)]?).bind fun v10 => ((cycle_arcs_reach_m0.f k v1 v10).bind fun v11 => ((names_Has.f k v11 v10).bind fun v12 => (if v12 then ((cycle_arcs_round_m0.f k v1 v10).bind fun v14 => some (Sum.inr (v14, true))) else (cycle_Find.l5 k v1 v3 n) (IntKind.i64.wrap (v4 + 1)))))) else none) else some (Sum.inl ()))
def cycle_Find.f (k : Nat) (a0 : List T_cycle_Node) : Option ((List (List UInt8)) × Bool) := ((cycle_arcsOf.f k a0).bind fun v1 => ((cycle_Names.f k a0).bind fun v3 => ((cycle_Find.l5 k v1 v3 k 0).bind fun o6 => match o6 with | Sum.inl u15 => cycle_Find.j2 k | Sum.inr u16 => some u16)))
def millwrightlaw25_alive.f (k : Nat) : Option Bool := ((cycle_Find.f k [(T_cycle_Node.mk ([97] : List UInt8) [([98] : List UInt8)]), (T_cycle_Node.mk ([98] : List UInt8) [([97] : List UInt8), ([99] : List UInt8)])]).bind fun v1 => (if v1.2 then (if ((v1.1.length : Int) == 2) then ((idx v1.1 0).bind fun v4 => (if (v4 == ([97] : List UInt8)) then ((idx v1.1 1).bind fun v6 => some (v6 == ([98] : List UInt8))) else some false)) else some false) else some false))
def millwrightnum_Long.j2 (k : Nat) : Option Bool := some false
def millwrightnum_Long.l4 (k : Nat) (a0 : List (List UInt8)) (a2 : Int) : Nat → Int → Option (Sum Unit Bool)
  | 0, _ => none
  | n + 1, v3 => (if (decide (v3 < (a0.length : Int))) then ((idx a0 v3).bind fun v8 => (if (decide ((v8.length : Int) > a2)) then some (Sum.inr true) else (millwrightnum_Long.l4 k a0 a2 n) (IntKind.i64.wrap (v3 + 1)))) else some (Sum.inl ()))
def millwrightnum_Long.f (k : Nat) (a0 : List (List UInt8)) (a1 : Int) (a2 : Int) : Option Bool := (if (decide ((a0.length : Int) > a1)) then some true else ((millwrightnum_Long.l4 k a0 a2 k 0).bind fun o5 => match o5 with | Sum.inl u10 => millwrightnum_Long.j2 k | Sum.inr u11 => some u11))
def millwrightlaw25_long.j2 (k : Nat) : Option Bool := some false
def millwrightlaw25_long.j8 (k : Nat) (rec : Int → Option (Sum Unit Bool)) (a0 : List T_cycle_Node) (v3 : Int) : Option (Sum Unit Bool) := rec (IntKind.i64.wrap (v3 + 1))
def millwrightlaw25_long.j12 (k : Nat) (rec : Int → Option (Sum Unit Bool)) (a0 : List T_cycle_Node) (v3 : Int) (v10 : Bool) : Option (Sum Unit Bool) := (if v10 then some (Sum.inr true) else millwrightlaw25_long.j8 k rec a0 v3)
def millwrightlaw25_long.l4 (k : Nat) (a0 : List T_cycle_Node) : Nat → Int → Option (Sum Unit Bool)
  | 0, _ => none
  | n + 1, v3 => (if (decide (v3 < (a0.length : Int))) then ((idx a0 v3).bind fun v9 => (if (decide ((v9.f_Name.length : Int) > 60)) then millwrightlaw25_long.j12 k (millwrightlaw25_long.l4 k a0 n) a0 v3 true else ((millwrightnum_Long.f k v9.f_To 8 60).bind fun v14 => millwrightlaw25_long.j12 k (millwrightlaw25_long.l4 k a0 n) a0 v3 v14))) else some (Sum.inl ()))
def millwrightlaw25_long.f (k : Nat) (a0 : List T_cycle_Node) : Option Bool := (if (decide ((a0.length : Int) > 16)) then some true else ((millwrightlaw25_long.l4 k a0 k 0).bind fun o5 => match o5 with | Sum.inl u15 => millwrightlaw25_long.j2 k | Sum.inr u16 => some u16))
def millwrightlaw25_Of.j2 (k : Nat) (v1 : List T_cycle_Node) : Option (List T_cycle_Node) := some v1
def millwrightlaw25_Of.l5 (k : Nat) (a0 : List T_cycle_Node) : Nat → (List T_cycle_Node) → Int → Option (List T_cycle_Node)
  | 0, _, _ => none
  | n + 1, v3, v4 => (if (decide (v4 < (a0.length : Int))) then ((idx a0 v4).bind fun v10 => (if v3.length + [(T_cycle_Node.mk v10.f_Name v10.f_To)].length ≤ LIM then (millwrightlaw25_Of.l5 k a0 n) (v3 ++ [(T_cycle_Node.mk v10.f_Name v10.f_To)]) (IntKind.i64.wrap (v4 + 1)) else none)) else some v3)
def millwrightlaw25_Of.f (k : Nat) (a0 : List T_cycle_Node) : Option (List T_cycle_Node) := ((millwrightlaw25_Of.l5 k a0 k ([] : List T_cycle_Node) 0).bind fun o7 => millwrightlaw25_Of.j2 k o7)
def millwrightref01_Sorted.j2 (k : Nat) (v1 : List (List UInt8)) : Option (List (List UInt8)) := some v1
def millwrightref01_Sorted.j11 (k : Nat) (rec : (List (List UInt8)) → Int → Option (List (List UInt8))) (a0 : List (List UInt8)) (v4 : Int) (v10 : List (List UInt8)) : Option (List (List UInt8)) := rec v10 (IntKind.i64.wrap (v4 + 1))
def millwrightref01_Sorted.j21 (k : Nat) (rec : (List (List UInt8)) → Int → Option (List (List UInt8))) (a0 : List (List UInt8)) (v3 : List (List UInt8)) (v4 : Int) (v12 : List UInt8) (v13 : Int) : Option (List (List UInt8)) := (if (0 : Int) ≤ 0 ∧ 0 ≤ v13 ∧ 0 + v13.toNat ≤ v3.length then (if 0 + v13.toNat ≤ v3.length then (if ([] : List (List UInt8)).length + ((v3.drop 0).take v13.toNat).length ≤ LIM then (if (([] : List (List UInt8)) ++ ((v3.drop 0).take v13.toNat)).length + [v12].length ≤ LIM then (if (0 : Int) ≤ v13 ∧ v13 ≤ (v3.length : Int) ∧ 0 + (v3.length : Int).toNat ≤ v3.length then (if (0 + v13.toNat) + ((v3.length : Int).toNat - v13.toNat) ≤ v3.length then (if ((([] : List (List UInt8)) ++ ((v3.drop 0).take v13.toNat)) ++ [v12]).length + ((v3.drop (0 + v13.toNat)).take ((v3.length : Int).toNat - v13.toNat)).length ≤ LIM then millwrightref01_Sorted.j11 k rec a0 v4 (((([] : List (List UInt8)) ++ ((v3.drop 0).take v13.toNat)) ++ [v12]) ++ ((v3.drop (0 + v13.toNat)).take ((v3.length : Int).toNat - v13.toNat))) else none) else none) else none) else none) else none) else none) else none)
def millwrightref01_Sorted.j24 (k : Nat) (rec : (List (List UInt8)) → Int → Option (List (List UInt8))) (a0 : List (List UInt8)) (v3 : List (List UInt8)) (v4 : Int) (v12 : List UInt8) (v13 : Int) (v22 : Bool) : Option (List (List UInt8)) := (if v22 then millwrightref01_Sorted.j11 k rec a0 v4 v3 else millwrightref01_Sorted.j21 k rec a0 v3 v4 v12 v13)
def millwrightref01_Sorted.j28 (k : Nat) (rec : (List (List UInt8)) → Int → Option (List (List UInt8))) (a0 : List (List UInt8)) (v3 : List (List UInt8)) (v4 : Int) (v12 : List UInt8) (v13 : Int) : Option (List (List UInt8)) := (if (decide (v13 < (v3.length : Int))) then (if (0 : Int) ≤ v13 ∧ v13 < (v3.length : Int) then ((v3[(0 + v13.toNat)]?).bind fun v27 => millwrightref01_Sorted.j24 k rec a0 v3 v4 v12 v13 (v27 == v12)) else none) else millwrightref01_Sorted.j24 k rec a0 v3 v4 v12 v13 false)
def millwrightref01_Sorted.j34 (k : Nat) (rec : Int → Option Int) (a0 : List (List UInt8)) (v3 : List (List UInt8)) (v4 : Int) (v12 : List UInt8) (v29 : Int) : Option Int := rec (IntKind.i64.wrap (v29 + 1))
def millwrightref01_Sorted.j37 (k : Nat) (rec : Int → Option Int) (a0 : List (List UInt8)) (v3 : List (List UInt8)) (v4 : Int) (v12 : List UInt8) (v29 : Int) (v35 : Bool) : Option Int := (if v35 then millwrightref01_Sorted.j34 k rec a0 v3 v4 v12 v29 else some v29)
def millwrightref01_Sorted.l30 (k : Nat) (a0 : List (List UInt8)) (v3 : List (List UInt8)) (v4 : Int) (v12 : List UInt8) : Nat → Int → Option Int
  | 0, _ => none
  | n + 1, v29 => (if (decide (v29 < (v3.length : Int))) then (if (0 : Int) ≤ v29 ∧ v29 < (v3.length : Int) then ((v3[(0 + v29.toNat)]?).bind fun v40 => millwrightref01_Sorted.j37 k (millwrightref01_Sorted.l30 k a0 v3 v4 v12 n) a0 v3 v4 v12 v29 (Op.bytesLess v40 v12)) else none) else millwrightref01_Sorted.j37 k (millwrightref01_Sorted.l30 k a0 v3 v4 v12 n) a0 v3 v4 v12 v29 false)
def millwrightref01_Sorted.l5 (k : Nat) (a0 : List (List UInt8)) : Nat → (List (List UInt8)) → Int → Option (List (List UInt8))
  | 0, _, _ => none
  | n + 1, v3, v4 => (if (decide (v4 < (a0.length : Int))) then ((idx a0 v4).bind fun v12 => ((millwrightref01_Sorted.l30 k a0 v3 v4 v12 k 0).bind fun o32 => millwrightref01_Sorted.j28 k (millwrightref01_Sorted.l5 k a0 n) a0 v3 v4 v12 o32)) else some v3)
def millwrightref01_Sorted.f (k : Nat) (a0 : List (List UInt8)) : Option (List (List UInt8)) := ((millwrightref01_Sorted.l5 k a0 k ([] : List (List UInt8)) 0).bind fun o7 => millwrightref01_Sorted.j2 k o7)
def millwrightref25_Names.j3 (k : Nat) (v1 : List (List UInt8)) : Option (List (List UInt8)) := ((millwrightref01_Sorted.f k v1).bind fun v2 => some v2)
def millwrightref25_Names.l6 (k : Nat) (a0 : List T_cycle_Node) : Nat → (List (List UInt8)) → Int → Option (List (List UInt8))
  | 0, _, _ => none
  | n + 1, v4, v5 => (if (decide (v5 < (a0.length : Int))) then ((idx a0 v5).bind fun v11 => (if v4.length + [v11.f_Name].length ≤ LIM then (if (v4 ++ [v11.f_Name]).length + v11.f_To.length ≤ LIM then (millwrightref25_Names.l6 k a0 n) ((v4 ++ [v11.f_Name]) ++ v11.f_To) (IntKind.i64.wrap (v5 + 1)) else none) else none)) else some v4)
def millwrightref25_Names.f (k : Nat) (a0 : List T_cycle_Node) : Option (List (List UInt8)) := ((millwrightref25_Names.l6 k a0 k ([] : List (List UInt8)) 0).bind fun o8 => millwrightref25_Names.j3 k o8)
def cycle_To.f (k : Nat) (a0 : List T_cycle_Node) (a1 : List UInt8) : Option (List (List UInt8)) := ((cycle_arcsOf.f k a0).bind fun v1 => some ((mget a1 v1).getD []))
def millwrightref25_To.j3 (k : Nat) (v1 : List (List UInt8)) : Option (List (List UInt8)) := ((millwrightref01_Sorted.f k v1).bind fun v2 => some v2)
def millwrightref25_To.j12 (k : Nat) (rec : (List (List UInt8)) → Int → Option (List (List UInt8))) (a0 : List T_cycle_Node) (a1 : List UInt8) (v5 : Int) (v11 : List (List UInt8)) : Option (List (List UInt8)) := rec v11 (IntKind.i64.wrap (v5 + 1))
def millwrightref25_To.l6 (k : Nat) (a0 : List T_cycle_Node) (a1 : List UInt8) : Nat → (List (List UInt8)) → Int → Option (List (List UInt8))
  | 0, _, _ => none
  | n + 1, v4, v5 => (if (decide (v5 < (a0.length : Int))) then ((idx a0 v5).bind fun v13 => (if (v13.f_Name == a1) then (if v4.length + v13.f_To.length ≤ LIM then millwrightref25_To.j12 k (millwrightref25_To.l6 k a0 a1 n) a0 a1 v5 (v4 ++ v13.f_To) else none) else millwrightref25_To.j12 k (millwrightref25_To.l6 k a0 a1 n) a0 a1 v5 v4)) else some v4)
def millwrightref25_To.f (k : Nat) (a0 : List T_cycle_Node) (a1 : List UInt8) : Option (List (List UInt8)) := ((millwrightref25_To.l6 k a0 a1 k ([] : List (List UInt8)) 0).bind fun o8 => millwrightref25_To.j3 k o8)
def millwrightref25_Reach.j3 (k : Nat) (v2 : List (List UInt8)) : Option (List (List UInt8)) := some v2
def millwrightref25_Reach.j12 (k : Nat) (rec : (List (List UInt8)) → Int → Option (List (List UInt8))) (a0 : List T_cycle_Node) (v5 : Int) (v11 : List (List UInt8)) : Option (List (List UInt8)) := rec v11 (IntKind.i64.wrap (v5 + 1))
def millwrightref25_Reach.j16 (k : Nat) (rec : (List (List UInt8)) → Int → Option (List (List UInt8))) (a0 : List T_cycle_Node) (v5 : Int) (v14 : List (List UInt8)) : Option (List (List UInt8)) := ((millwrightref01_Sorted.f k v14).bind fun v15 => millwrightref25_Reach.j12 k rec a0 v5 v15)
def millwrightref25_Reach.l19 (k : Nat) (a0 : List T_cycle_Node) (v4 : List (List UInt8)) (v5 : Int) : Nat → (List (List UInt8)) → Int → Option (List (List UInt8))
  | 0, _, _ => none
  | n + 1, v17, v18 => (if (decide (v18 < (v4.length : Int))) then ((idx v4 v18).bind fun v24 => ((millwrightref25_To.f k a0 v24).bind fun v25 => (if v17.length + v25.length ≤ LIM then (millwrightref25_Reach.l19 k a0 v4 v5 n) (v17 ++ v25) (IntKind.i64.wrap (v18 + 1)) else none))) else some v17)
def millwrightref25_Reach.l6 (k : Nat) (a0 : List T_cycle_Node) : Nat → (List (List UInt8)) → Int → Option (List (List UInt8))
  | 0, _, _ => none
  | n + 1, v4, v5 => (if (decide (v5 < (a0.length : Int))) then (if ([] : List (List UInt8)).length + v4.length ≤ LIM then ((millwrightref25_Reach.l19 k a0 v4 v5 k (([] : List (List UInt8)) ++ v4) 0).bind fun o21 => millwrightref25_Reach.j16 k (millwrightref25_Reach.l6 k a0 n) a0 v5 o21) else none) else some v4)
def millwrightref25_Reach.f (k : Nat) (a0 : List T_cycle_Node) (a1 : List UInt8) : Option (List (List UInt8)) := ((millwrightref25_To.f k a0 a1).bind fun v1 => ((millwrightref25_Reach.l6 k a0 k v1 0).bind fun o8 => millwrightref25_Reach.j3 k o8))
def cycle_Walk.j2 (k : Nat) (a1 : List (List UInt8)) : Option Bool := some (decide ((a1.length : Int) > 0))
def cycle_Walk.l4 (k : Nat) (a1 : List (List UInt8)) (v1 : List ((List UInt8) × (List (List UInt8)))) : Nat → Int → Option (Sum Unit Bool)
  | 0, _ => none
  | n + 1, v3 => (if (decide (v3 < (a1.length : Int))) then ((idx a1 v3).bind fun v8 => (if ((a1.length : Int) : Int) ≠ 0 then ((idx a1 (Int.tmod (IntKind.i64.wrap (v3 + 1)) (a1.length : Int))).bind fun v10 => ((names_Has.f k ((mget v8 v1).getD []) v10).bind fun v11 => (if (!v11) then some (Sum.inr false) else (cycle_Walk.l4 k a1 v1 n) (IntKind.i64.wrap (v3 + 1))))) else none)) else some (Sum.inl ()))
def cycle_Walk.f (k : Nat) (a0 : List T_cycle_Node) (a1 : List (List UInt8)) : Option Bool := ((cycle_arcsOf.f k a0).bind fun v1 => ((cycle_Walk.l4 k a1 v1 k 0).bind fun o5 => match o5 with | Sum.inl u13 => cycle_Walk.j2 k a1 | Sum.inr u14 => some u14))
def millwrightnum_Has.j1 (k : Nat) : Option Bool := some false
def millwrightnum_Has.l3 (k : Nat) (a0 : List (List UInt8)) (a1 : List UInt8) : Nat → Int → Option (Sum Unit Bool)
  | 0, _ => none
  | n + 1, v2 => (if (decide (v2 < (a0.length : Int))) then ((idx a0 v2).bind fun v7 => (if (v7 == a1) then some (Sum.inr true) else (millwrightnum_Has.l3 k a0 a1 n) (IntKind.i64.wrap (v2 + 1)))) else some (Sum.inl ()))
def millwrightnum_Has.f (k : Nat) (a0 : List (List UInt8)) (a1 : List UInt8) : Option Bool := ((millwrightnum_Has.l3 k a0 a1 k 0).bind fun o4 => match o4 with | Sum.inl u9 => millwrightnum_Has.j1 k | Sum.inr u10 => some u10)
def millwrightref25_first.j9 (k : Nat) (rec : (List (List (List UInt8))) → (List (List UInt8)) → Option (List (List UInt8))) (a0 : List T_cycle_Node) (a1 : List UInt8) (v7 : List (List (List UInt8))) (v8 : List (List UInt8)) : Option (List (List UInt8)) := rec v7 v8
def millwrightref25_first.j21 (k : Nat) (rec : (List (List (List UInt8))) → (List (List UInt8)) → Int → Option (Sum ((List (List (List UInt8))) × (List (List UInt8))) (List (List UInt8)))) (a0 : List T_cycle_Node) (a1 : List UInt8) (v1 : List (List (List UInt8))) (v12 : Int) (v19 : List (List (List UInt8))) (v20 : List (List UInt8)) : Option (Sum ((List (List (List UInt8))) × (List (List UInt8))) (List (List UInt8))) := rec v19 v20 (IntKind.i64.wrap (v12 + 1))
def millwrightref25_first.j39 (k : Nat) (rec : (List (List (List UInt8))) → (List (List UInt8)) → Int → Option ((List (List (List UInt8))) × (List (List UInt8)))) (a0 : List T_cycle_Node) (a1 : List UInt8) (v1 : List (List (List UInt8))) (v12 : Int) (v23 : List (List UInt8)) (v25 : List (List UInt8)) (v30 : Int) (v37 : List (List (List UInt8))) (v38 : List (List UInt8)) : Option ((List (List (List UInt8))) × (List (List UInt8))) := rec v37 v38 (IntKind.i64.wrap (v30 + 1))
def millwrightref25_first.l31 (k : Nat) (a0 : List T_cycle_Node) (a1 : List UInt8) (v1 : List (List (List UInt8))) (v12 : Int) (v23 : List (List UInt8)) (v25 : List (List UInt8)) : Nat → (List (List (List UInt8))) → (List (List UInt8)) → Int → Option ((List (List (List UInt8))) × (List (List UInt8)))
  | 0, _, _, _ => none
  | n + 1, v28, v29, v30 => (if (decide (v30 < (v25.length : Int))) then ((idx v25 v30).bind fun v40 => ((millwrightnum_Has.f k v29 v40).bind fun v41 => (if (!v41) then (if v29.length + [v40].length ≤ LIM then (if ([] : List (List UInt8)).length + v23.length ≤ LIM then (if (([] : List (List UInt8)) ++ v23).length + [v40].length ≤ LIM then (if v28.length + [((([] : List (List UInt8)) ++ v23) ++ [v40])].length ≤ LIM then millwrightref25_first.j39 k (millwrightref25_first.l31 k a0 a1 v1 v12 v23 v25 n) a0 a1 v1 v12 v23 v25 v30 (v28 ++ [((([] : List (List UInt8)) ++ v23) ++ [v40])]) (v29 ++ [v40]) else none) else none) else none) else none) else millwrightref25_first.j39 k (millwrightref25_first.l31 k a0 a1 v1 v12 v23 v25 n) a0 a1 v1 v12 v23 v25 v30 v28 v29))) else some (v28, v29))
def millwrightref25_first.l13 (k : Nat) (a0 : List T_cycle_Node) (a1 : List UInt8) (v1 : List (List (List UInt8))) : Nat → (List (List (List UInt8))) → (List (List UInt8)) → Int → Option (Sum ((List (List (List UInt8))) × (List (List UInt8))) (List (List UInt8)))
  | 0, _, _, _ => none
  | n + 1, v10, v11, v12 => (if (decide (v12 < (v1.length : Int))) then (if (0 : Int) ≤ v12 ∧ v12 < (v1.length : Int) then ((v1[(0 + v12.toNat)]?).bind fun v23 => ((idx v23 (IntKind.i64.wrap ((v23.length : Int) - 1))).bind fun v24 => ((millwrightref25_To.f k a0 v24).bind fun v25 => ((millwrightnum_Has.f k v25 a1).bind fun v26 => (if v26 then some (Sum.inr v23) else ((millwrightref25_first.l31 k a0 a1 v1 v12 v23 v25 k v10 v11 0).bind fun o34 => millwrightref25_first.j21 k (millwrightref25_first.l13 k a0 a1 v1 n) a0 a1 v1 v12 o34.1 o34.2)))))) else none) else some (Sum.inl (v10, v11)))
def millwrightref25_first.l3 (k : Nat) (a0 : List T_cycle_Node) (a1 : List UInt8) : Nat → (List (List (List UInt8))) → (List (List UInt8)) → Option (List (List UInt8))
  | 0, _, _ => none
  | n + 1, v1, v2 => (if ([] : List (List UInt8)).length + v2.length ≤ LIM then ((millwrightref25_first.l13 k a0 a1 v1 k ([] : List (List (List UInt8))) (([] : List (List UInt8)) ++ v2) 0).bind fun o16 => match o16 with | Sum.inl u48 => millwrightref25_first.j9 k (millwrightref25_first.l3 k a0 a1 n) a0 a1 u48.1 u48.2 | Sum.inr u49 => some u49) else none)
def millwrightref25_first.f (k : Nat) (a0 : List T_cycle_Node) (a1 : List UInt8) : Option (List (List UInt8)) := ((millwrightref25_first.l3 k a0 a1 k [[a1]] [a1]).bind fun o4 => some o4)
def millwrightref25_Find.j1 (k : Nat) : Option ((List (List UInt8)) × Bool) := some ([], false)
def millwrightref25_Find.l4 (k : Nat) (a0 : List T_cycle_Node) (v2 : List (List UInt8)) : Nat → Int → Option (Sum Unit ((List (List UInt8)) × Bool))
  | 0, _ => none
  | n + 1, v3 => (if (decide (v3 < (v2.length : Int))) then ((idx v2 v3).bind fun v8 => ((millwrightref25_Reach.f k a0 v8).bind fun v9 => ((millwrightnum_Has.f k v9 v8).bind fun v10 => (if v10 then ((millwrightref25_first.f k a0 v8).bind fun v12 => some (Sum.inr (v12, true))) else (millwrightref25_Find.l4 k a0 v2 n) (IntKind.i64.wrap (v3 + 1)))))) else some (Sum.inl ()))
def millwrightref25_Find.f (k : Nat) (a0 : List T_cycle_Node) : Option ((List (List UInt8)) × Bool) := ((millwrightref25_Names.f k a0).bind fun v2 => ((millwrightref25_Find.l4 k a0 v2 k 0).bind fun o5 => match o5 with | Sum.inl u13 => millwrightref25_Find.j1 k | Sum.inr u14 => some u14))
def names_Without.j2 (k : Nat) (v1 : List (List UInt8)) : Option (List (List UInt8)) := some v1
def names_Without.j11 (k : Nat) (rec : (List (List UInt8)) → Int → Option (List (List UInt8))) (a0 : List (List UInt8)) (a1 : List (List UInt8)) (v4 : Int) (v10 : List (List UInt8)) : Option (List (List UInt8)) := rec v10 (IntKind.i64.wrap (v4 + 1))
def names_Without.l5 (k : Nat) (a0 : List (List UInt8)) (a1 : List (List UInt8)) : Nat → (List (List UInt8)) → Int → Option (List (List UInt8))
  | 0, _, _ => none
  | n + 1, v3, v4 => (if (decide (v4 < (a0.length : Int))) then ((idx a0 v4).bind fun v12 => ((names_Has.f k a1 v12).bind fun v13 => (if (!v13) then (if v3.length + [v12].length ≤ LIM then names_Without.j11 k (names_Without.l5 k a0 a1 n) a0 a1 v4 (v3 ++ [v12]) else none) else names_Without.j11 k (names_Without.l5 k a0 a1 n) a0 a1 v4 v3))) else some v3)
def names_Without.f (k : Nat) (a0 : List (List UInt8)) (a1 : List (List UInt8)) : Option (List (List UInt8)) := ((names_Without.l5 k a0 a1 k [] 0).bind fun o7 => names_Without.j2 k o7)
def cycle_Order.j4 (k : Nat) (v3 : List (List UInt8)) : Option ((List (List UInt8)) × Bool) := some (v3, true)
def cycle_Order.j12 (k : Nat) : Option (Sum (List (List UInt8)) ((List (List UInt8)) × Bool)) := some (Sum.inr ([], false))
def cycle_Order.l16 (k : Nat) (v1 : List ((List UInt8) × (List (List UInt8)))) (v5 : List (List UInt8)) : Nat → (List (List UInt8)) → (List (List UInt8)) → Int → Option (Sum ((List (List UInt8)) × (List (List UInt8))) Unit)
  | 0, _, _, _ => none
  | n + 1, v13, v14, v15 => (if (decide (v15 < (v5.length : Int))) then (if (0 : Int) ≤ v15 ∧ v15 < (v5.length : Int) then ((v13[(0 + v15.toNat)]?).bind fun v23 => ((names_Without.f k ((mget v23 v1).getD []) v14).bind fun v24 => (if ((v24.length : Int) == 0) then (if v14.length + [v23].length ≤ LIM then ((pDeleteRR.f k v13 v15 (IntKind.i64.wrap (v15 + 1))).bind fun v27 => some (Sum.inl (v27, (v14 ++ [v23])))) else none) else (cycle_Order.l16 k v1 v5 n) v13 v14 (IntKind.i64.wrap (v15 + 1))))) else none) else some (Sum.inr ()))
def cycle_Order.l7 (k : Nat) (v1 : List ((List UInt8) × (List (List UInt8)))) : Nat → (List (List UInt8)) → (List (List UInt8)) → Option (Sum (List (List UInt8)) ((List (List UInt8)) × Bool))
  | 0, _, _ => none
  | n + 1, v5, v6 => (if (decide ((v5.length : Int) > 0)) then ((cycle_Order.l16 k v1 v5 k v5 v6 0).bind fun o19 => match o19 with | Sum.inl u28 => (cycle_Order.l7 k v1 n) u28.1 u28.2 | Sum.inr u29 => cycle_Order.j12 k) else some (Sum.inl v6))
def cycle_Order.f (k : Nat) (a0 : List T_cycle_Node) : Option ((List (List UInt8)) × Bool) := ((cycle_arcsOf.f k a0).bind fun v1 => ((cycle_Names.f k a0).bind fun v2 => ((cycle_Order.l7 k v1 k v2 []).bind fun o9 => match o9 with | Sum.inl u30 => cycle_Order.j4 k u30 | Sum.inr u31 => some u31)))
def millwrightlaw25_CycleOr.j13 (k : Nat) (a0 : List T_cycle_Node) (v5 : List (List UInt8)) (v6 : (List (List UInt8)) × Bool) (v7 : (List (List UInt8)) × Bool) : Option Bool := ((cycle_Walk.f k a0 v6.1).bind fun v10 => (if v10 then (if (decide ((v6.1.length : Int) ≤ (v5.length : Int))) then some ((v7.1.length : Int) == 0) else some false) else some false))
def millwrightlaw25_CycleOr.j19 (k : Nat) (rec : Int → Option (Sum Unit Bool)) (a0 : List T_cycle_Node) (v5 : List (List UInt8)) (v6 : (List (List UInt8)) × Bool) (v7 : (List (List UInt8)) × Bool) (v14 : Int) : Option (Sum Unit Bool) := rec (IntKind.i64.wrap (v14 + 1))
def millwrightlaw25_CycleOr.j23 (k : Nat) (rec : Int → Option (Sum Unit Bool)) (a0 : List T_cycle_Node) (v5 : List (List UInt8)) (v6 : (List (List UInt8)) × Bool) (v7 : (List (List UInt8)) × Bool) (v14 : Int) (v21 : Bool) : Option (Sum Unit Bool) := (if v21 then some (Sum.inr false) else millwrightlaw25_CycleOr.j19 k rec a0 v5 v6 v7 v14)
def millwrightlaw25_CycleOr.l15 (k : Nat) (a0 : List T_cycle_Node) (v5 : List (List UInt8)) (v6 : (List (List UInt8)) × Bool) (v7 : (List (List UInt8)) × Bool) : Nat → Int → Option (Sum Unit Bool)
  | 0, _ => none
  | n + 1, v14 => (if (decide (v14 < (v6.1.length : Int))) then ((idx v6.1 v14).bind fun v20 => ((sub v6.1 0 v14).bind fun v24 => ((millwrightnum_Has.f k v24 v20).bind fun v25 => (if v25 then millwrightlaw25_CycleOr.j23 k (millwrightlaw25_CycleOr.l15 k a0 v5 v6 v7 n) a0 v5 v6 v7 v14 true else ((idx v6.1 0).bind fun v27 => millwrightlaw25_CycleOr.j23 k (millwrightlaw25_CycleOr.l15 k a0 v5 v6 v7 n) a0 v5 v6 v7 v14 (Op.bytesLess v20 v27)))))) else some (Sum.inl ()))
def millwrightlaw25_CycleOr.j31 (k : Nat) (v5 : List (List UInt8)) (v6 : (List (List UInt8)) × Bool) (v7 : (List (List UInt8)) × Bool) : Option Bool := (if ((v7.1.length : Int) == (v5.length : Int)) then some ((v6.1.length : Int) == 0) else some false)
def millwrightlaw25_CycleOr.j37 (k : Nat) (rec : Int → Option (Sum Unit Bool)) (a0 : List T_cycle_Node) (v5 : List (List UInt8)) (v6 : (List (List UInt8)) × Bool) (v7 : (List (List UInt8)) × Bool) (v32 : Int) : Option (Sum Unit Bool) := rec (IntKind.i64.wrap (v32 + 1))
def millwrightlaw25_CycleOr.l41 (k : Nat) (a0 : List T_cycle_Node) (v5 : List (List UInt8)) (v6 : (List (List UInt8)) × Bool) (v7 : (List (List UInt8)) × Bool) (v32 : Int) (v39 : List (List UInt8)) : Nat → Int → Option (Sum Unit Bool)
  | 0, _ => none
  | n + 1, v40 => (if (decide (v40 < (v39.length : Int))) then ((idx v39 v40).bind fun v45 => ((sub v7.1 0 v32).bind fun v46 => ((millwrightnum_Has.f k v46 v45).bind fun v47 => (if (!v47) then some (Sum.inr false) else (millwrightlaw25_CycleOr.l41 k a0 v5 v6 v7 v32 v39 n) (IntKind.i64.wrap (v40 + 1)))))) else some (Sum.inl ()))
def millwrightlaw25_CycleOr.j51 (k : Nat) (rec : Int → Option (Sum Unit Bool)) (a0 : List T_cycle_Node) (v5 : List (List UInt8)) (v6 : (List (List UInt8)) × Bool) (v7 : (List (List UInt8)) × Bool) (v32 : Int) (v38 : List UInt8) : Option (Sum Unit Bool) := ((cycle_To.f k a0 v38).bind fun v39 => ((millwrightlaw25_CycleOr.l41 k a0 v5 v6 v7 v32 v39 k 0).bind fun o42 => match o42 with | Sum.inl u49 => millwrightlaw25_CycleOr.j37 k rec a0 v5 v6 v7 v32 | Sum.inr u50 => some (Sum.inr u50)))
def millwrightlaw25_CycleOr.j54 (k : Nat) (rec : Int → Option (Sum Unit Bool)) (a0 : List T_cycle_Node) (v5 : List (List UInt8)) (v6 : (List (List UInt8)) × Bool) (v7 : (List (List UInt8)) × Bool) (v32 : Int) (v38 : List UInt8) (v52 : Bool) : Option (Sum Unit Bool) := (if v52 then some (Sum.inr false) else millwrightlaw25_CycleOr.j51 k rec a0 v5 v6 v7 v32 v38)
def millwrightlaw25_CycleOr.l33 (k : Nat) (a0 : List T_cycle_Node) (v5 : List (List UInt8)) (v6 : (List (List UInt8)) × Bool) (v7 : (List (List UInt8)) × Bool) : Nat → Int → Option (Sum Unit Bool)
  | 0, _ => none
  | n + 1, v32 => (if (decide (v32 < (v7.1.length : Int))) then ((idx v7.1 v32).bind fun v38 => ((sub v7.1 0 v32).bind fun v55 => ((millwrightnum_Has.f k v55 v38).bind fun v56 => (if v56 then millwrightlaw25_CycleOr.j54 k (millwrightlaw25_CycleOr.l33 k a0 v5 v6 v7 n) a0 v5 v6 v7 v32 v38 true else ((millwrightnum_Has.f k v5 v38).bind fun v58 => millwrightlaw25_CycleOr.j54 k (millwrightlaw25_CycleOr.l33 k a0 v5 v6 v7 n) a0 v5 v6 v7 v32 v38 (!v58)))))) else some (Sum.inl ()))
def millwrightlaw25_CycleOr.f (k : Nat) (a0 : List T_cycle_Node) : Option Bool := ((millwrightlaw25_alive.f k).bind fun v1 => (if (!v1) then some false else ((millwrightlaw25_long.f k a0).bind fun v3 => (if v3 then some true else ((cycle_Names.f k a0).bind fun v5 => ((cycle_Find.f k a0).bind fun v6 => ((cycle_Order.f k a0).bind fun v7 => (if (v6.2 == v7.2) then some false else (if v6.2 then ((millwrightlaw25_CycleOr.l15 k a0 v5 v6 v7 k 0).bind fun o16 => match o16 with | Sum.inl u28 => millwrightlaw25_CycleOr.j13 k a0 v5 v6 v7 | Sum.inr u29 => some u29) else ((millwrightlaw25_CycleOr.l33 k a0 v5 v6 v7 k 0).bind fun o34 => match o34 with | Sum.inl u59 => millwrightlaw25_CycleOr.j31 k v5 v6 v7 | Sum.inr u60 => some u60))))))))))
end Go.Proofs.Ytlmhnhlmlhfigaa
