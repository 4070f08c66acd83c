/- Instances: the code, told plainly. -/
import Derived.Test.YtpcobejkpbalcaaGreatDoorK28IOVX
import Derived.Test.YtpcobejkpbalcaaGreatDoorK28IOVO
namespace Go.Proofs.YtpcobejkpbalcaaGreatDoor.Rx
open Go Go.AM
set_option linter.unusedVariables false
set_option linter.unusedSimpArgs false
set_option maxRecDepth 100000
set_option maxHeartbeats 1000000
theorem setW_ok (f : Nat → Bool) : Pk.SetOk (setW f) := by
  refine ⟨rfl, fun x hx => ?_⟩
  have h := fun b => wd_lt f 64 b
  have h0 := h 0
  have h1 := h 64
  have h2 := h 128
  have h3 := h 192
  simp only [setW, List.mem_cons, List.mem_nil_iff, or_false] at hx
  rcases hx with rfl | rfl | rfl | rfl <;> exact ⟨by omega, by omega⟩
theorem z4_ok : Pk.SetOk z4 := ⟨rfl, fun x hx => by
  have : x = 0 := (List.mem_replicate.1 hx).2
  subst this; exact ⟨by omega, by omega⟩⟩
mutual
def setsN : RN → Prop
  | .mk _ _ s ks => Pk.SetOk s ∧ setsNs ks
def setsNs : List RN → Prop
  | [] => True
  | x :: xs => setsN x ∧ setsNs xs
end
theorem setsNs_app (a b : List RN) : setsNs (a ++ b) ↔ setsNs a ∧ setsNs b := by
  induction a with
  | nil => simp [setsNs]
  | cons x a ih => simp only [List.cons_append, setsNs, ih, and_assoc]
theorem jn_sets {k : Int} {ks : List RN} (h : setsNs ks) : setsN (jn k ks) := by
  match ks, h with
  | [], _ => exact ⟨z4_ok, trivial⟩
  | [n], h => exact h.1
  | x :: y :: l, h => exact ⟨z4_ok, h⟩
theorem tkC_set {r u : List UInt8} {x : Tk} (h : tkC r = some (x, u)) : Pk.SetOk x.2 := by
  cases r with
  | nil => cases h
  | cons b t =>
    rw [tk_cons] at h
    split at h
    · split at h
      · cases h
      · cases h; exact setW_ok _
    split at h
    · unfold clsS at h
      cases hc : clsC t with
      | none => rw [hc] at h; cases h
      | some y => rw [hc] at h; cases h; exact setW_ok _
    split at h
    · cases h; exact setW_ok _
    split at h
    · cases h; exact z4_ok
    · cases h; exact setW_ok _
theorem node_sets : ∀ m,
    (∀ kids r g kids' r' g', brC tkC m kids r g = some (kids', r', g') → setsNs kids → setsNs kids') ∧
    (∀ r g n r' g', exC tkC m r g = some (n, r', g') → setsN n) ∧
    (∀ kids r g n r' g', exB tkC m kids r g = some (n, r', g') → setsNs kids → setsN n) := by
  intro m
  induction m with
  | zero =>
    refine ⟨fun kids r g kids' r' g' h => ?_, fun r g n r' g' h => ?_, fun kids r g n r' g' h => ?_⟩
    · unfold brC at h; cases h
    · unfold exC at h; cases h
    · unfold exB at h; cases h
  | succ m ih =>
    obtain ⟨iB, iE, iX⟩ := ih
    refine ⟨fun kids r g kids' r' g' h hG => ?_, fun r g n r' g' h => ?_, fun kids r g n r' g' h hG => ?_⟩
    · have add : ∀ n, setsN n → setsNs (kids ++ [n]) := fun n hn => (setsNs_app _ _).2 ⟨hG, hn, trivial⟩
      cases r with
      | nil => unfold brC at h; cases h; exact hG
      | cons b t =>
        unfold brC at h
        split at h
        · cases h; exact hG
        split at h
        · split at h
          · cases h
          · rename_i n hn
            obtain ⟨ps, rfl⟩ := List.getLast?_eq_some_iff.1 hn
            rw [List.dropLast_concat] at h
            have h1 := (setsNs_app _ _).1 hG
            exact iB _ _ _ _ _ _ h ((setsNs_app _ _).2 ⟨h1.1, ⟨z4_ok, h1.2.1, trivial⟩, trivial⟩)
        split at h
        · split at h
          · rename_i n c u g1 hE
            split at h
            · exact iB _ _ _ _ _ _ h (add _ ⟨z4_ok, iE _ _ _ _ _ hE, trivial⟩)
            · cases h
          · cases h
        split at h
        · exact iB _ _ _ _ _ _ h (add _ ⟨z4_ok, trivial⟩)
        split at h
        · exact iB _ _ _ _ _ _ h (add _ ⟨z4_ok, trivial⟩)
        split at h
        · rename_i x u ht
          exact iB _ _ _ _ _ _ h (add _ ⟨tkC_set ht, trivial⟩)
        · cases h
    · unfold exC at h
      split at h
      · cases h
      · rename_i ks r1 g1 hB
        exact iX _ _ _ _ _ _ h ⟨jn_sets (iB _ _ _ _ _ _ hB trivial), trivial⟩
    · cases r with
      | nil => unfold exB at h; cases h; exact jn_sets hG
      | cons b t =>
        unfold exB at h
        split at h
        · split at h
          · cases h
          · rename_i ks1 r1 g1 hB
            exact iX _ _ _ _ _ _ h ((setsNs_app _ _).2 ⟨hG, jn_sets (iB _ _ _ _ _ _ hB trivial), trivial⟩)
        · cases h; exact jn_sets hG
theorem parse_sets {s : List UInt8} {n : RN} (h : parseC s = (n, 0)) : setsN n := by
  unfold parseC at h
  split at h
  · cases h
  · split at h
    · rename_i n' g hx
      split at h
      · cases h
      · cases h
        exact (node_sets _).2.1 _ _ _ _ _ hx
    · cases h
def InsOk (l : List PI) : Prop := ∀ x ∈ l, Pk.SetOk x.f_Set
theorem InsOk.app {a b : List PI} (h1 : InsOk a) (h2 : InsOk b) : InsOk (a ++ b) := fun x hx => by
  rcases List.mem_append.1 hx with h | h
  · exact h1 x h
  · exact h2 x h
theorem InsOk.cons {a : PI} {b : List PI} (h1 : Pk.SetOk a.f_Set) (h2 : InsOk b) : InsOk (a :: b) := fun x hx => by
  rcases List.mem_cons.1 hx with rfl | h
  · exact h1
  · exact h2 x h
theorem InsOk.nil : InsOk [] := fun x hx => by cases hx
theorem ins_ok (a b c : Int) : Pk.SetOk (ins a b c).f_Set := z4_ok
mutual
theorem code_sets : ∀ (n : RN) (p : Nat), setsN n → InsOk (codeN n p)
  | .mk kd ix st ks, p, h => by
    obtain ⟨h1, h2⟩ := h
    have hc := fun q => codes_sets ks q h2
    have ha := fun q e => alt_sets ks q e h2
    unfold codeN
    split
    · exact .cons h1 .nil
    split
    · exact hc _
    split
    · exact ha _ _
    split
    · exact .cons (ins_ok _ _ _) ((hc _).app (.cons (ins_ok _ _ _) .nil))
    split
    · exact (hc _).app (.cons (ins_ok _ _ _) .nil)
    split
    · exact .cons (ins_ok _ _ _) (hc _)
    split
    · exact .cons (ins_ok _ _ _) ((hc _).app (.cons (ins_ok _ _ _) .nil))
    split
    · exact .cons (ins_ok _ _ _) .nil
    split
    · exact .cons (ins_ok _ _ _) .nil
    · exact .nil
theorem codes_sets : ∀ (ks : List RN) (p : Nat), setsNs ks → InsOk (codesN ks p)
  | [], p, _ => by unfold codesN; exact .nil
  | x :: xs, p, h => by unfold codesN; exact (code_sets x p h.1).app (codes_sets xs _ h.2)
theorem alt_sets : ∀ (ks : List RN) (p e : Nat), setsNs ks → InsOk (altN ks p e)
  | [], p, e, _ => by unfold altN; exact .nil
  | x :: xs, p, e, h => by
    unfold altN
    split
    · exact code_sets x p h.1
    · exact .cons (ins_ok _ _ _) ((code_sets x _ h.1).app (.cons (ins_ok _ _ _) (alt_sets xs _ _ h.2)))
end
theorem prog_sets {n : RN} (h : setsN n) : InsOk (progN n) := .cons (ins_ok _ _ _) ((code_sets n 1 h).app (.cons (ins_ok _ _ _) (.cons (ins_ok _ _ _) .nil)))
end Go.Proofs.YtpcobejkpbalcaaGreatDoor.Rx
namespace Go.Proofs.YtpcobejkpbalcaaGreatDoor.Tb
open Go Go.AM Go.ChangeShapes Go.ChangeAt Go.RowKit
set_option linter.unusedVariables false
set_option linter.unusedSimpArgs false
set_option maxRecDepth 100000
set_option maxHeartbeats 1000000
theorem progS_ok {s : Tx} (h : exE s = 0) : (progS s).length ≤ 200 ∧ Rx.InsOk (progS s) := by
  obtain ⟨g1, g2, g3⟩ := Rx.parse_good (s := s) (n := (Rx.parseC s).1) (by rw [← h]; rfl)
  have hs := Rx.parse_sets (s := s) (n := (Rx.parseC s).1) (by rw [← h]; rfl)
  refine ⟨?_, Rx.prog_sets hs⟩
  have := len_code (Rx.parseC s).1 1 g1
  unfold progS progN
  simp only [List.length_cons, List.length_append, List.length_nil]; omega
def mS (p : List PI) (s : Tx) : Option (List Int) := match pike_Match.f 20000 p s with | some (k, true) => some k | _ => none
theorem match_eq {p : List PI} {s : Tx} (hp : p.length ≤ 200) (hs : s.length ≤ 60) (hset : Rx.InsOk p) : pike_Match.f 20000 p s = some ((mS p s).getD [], (mS p s).isSome) ∧ ∀ κ, mS p s = some κ → κ.length = 20 := by
  obtain ⟨r, e, h⟩ := Pk.match_some hp hs hset
  have : mS p s = r := by
    unfold mS
    rw [e]
    cases r <;> rfl
  rw [this, e]
  exact ⟨rfl, h⟩
def partS (s : Tx) (κ : List Int) (i : Nat) : Tx :=
  match κ[2 * i]?, κ[2 * i + 1]? with
  | some f, some t => if f < 0 ∨ f > t ∨ t > (s.length : Int) then [] else (s.take t.toNat).drop f.toNat
  | _, _ => []
theorem partS_len (s : Tx) (κ : List Int) (i : Nat) : (partS s κ i).length ≤ s.length := by
  unfold partS
  split
  · split
    · simp
    · simp; omega
  · simp
theorem part_eq (k : Nat) (s : Tx) (κ : List Int) (hκ : κ.length = 20) (i : Nat) (hi : i < 10) (hs : s.length ≤ 1000) : pike_Part.f k s κ (i : Int) = some (partS s κ i) := by
  unfold pike_Part.f pike_Part.j13 pike_Part.j10
  have w1 : IntKind.i64.wrap (2 * (i : Int)) = ((2 * i : Nat) : Int) := by rw [w64 (by omega) (by omega)]; omega
  have w2 : IntKind.i64.wrap (((2 * i : Nat) : Int) + 1) = ((2 * i + 1 : Nat) : Int) := by rw [w64 (by omega) (by omega)]; omega
  have hq : IntKind.i64.wrap (Int.tdiv (κ.length : Int) 2) = 10 := by rw [hκ]; decide
  rw [if_neg (by simp), if_pos (by decide), hq, if_neg (by simp; omega), w1, w2, idx_at rfl (show 2 * i < κ.length by omega), idx_at rfl (show 2 * i + 1 < κ.length by omega), Option.bind_some, Option.bind_some]
  unfold partS pike_Part.j7 pike_Part.j4
  rw [List.getElem?_eq_getElem (show 2 * i < κ.length by omega), List.getElem?_eq_getElem (show 2 * i + 1 < κ.length by omega)]
  simp only
  generalize κ[2 * i] = f
  generalize κ[2 * i + 1] = t
  by_cases h1 : f < 0
  · rw [if_pos (by simpa using h1), if_pos trivial, if_pos (.inl h1)]
  rw [if_neg (by simpa using h1)]
  by_cases h2 : f > t
  · rw [if_pos (by simpa using h2), if_pos trivial, if_pos (.inr (.inl h2))]
  rw [if_neg (by simpa using h2)]
  by_cases h3 : t > (s.length : Int)
  · rw [if_pos (by simpa using h3), if_pos (.inr (.inr h3))]
  · rw [if_neg (by simpa using h3), if_neg (by omega)]
    unfold sub
    rw [if_pos ⟨by omega, by omega, by omega⟩]; rfl
def partsL (s : Tx) (κ : List Int) : List Tx := (List.range 10).map (partS s κ)
theorem parts_loop (k : Nat) (s : Tx) (κ : List Int) (b : Bool) (hκ : κ.length = 20) (hs : s.length ≤ 1000) : ∀ (m fuel i : Nat), i + m = 10 → m < fuel →
    pike_Parts.l9 k s (κ, b) fuel ((List.range i).map (partS s κ)) (i : Int) = some (partsL s κ)
  | _, 0, _, _, h => by omega
  | 0, f + 1, i, hi, _ => by
    obtain rfl : i = 10 := by omega
    unfold pike_Parts.l9
    rw [if_neg (by decide)]; rfl
  | m + 1, f + 1, i, hi, hf => by
    unfold pike_Parts.l9
    rw [if_pos (by simp; omega), part_eq k s κ hκ i (by omega) hs, Option.bind_some, if_pos (Nl.lim_ok (by simp; omega)), Nl.wr1 (by omega)]
    have := parts_loop k s κ b hκ hs m f (i + 1) (by omega) (by omega)
    rw [List.range_succ, List.map_append] at this
    exact this
def partsS (p s : Tx) : Option (List Tx) := if exE p = 0 then (mS (progS p) s).map (partsL s) else none
theorem parts_len {p s : Tx} {l : List Tx} (h : partsS p s = some l) : l.length = 10 ∧ ∀ x ∈ l, x.length ≤ s.length := by
  unfold partsS at h
  split at h
  · cases hm : mS (progS p) s with
    | none => rw [hm] at h; cases h
    | some κ =>
      rw [hm] at h
      cases h
      refine ⟨by simp [partsL], fun x hx => ?_⟩
      obtain ⟨i, _, rfl⟩ := List.mem_map.1 hx
      exact partS_len s κ i
  · cases h
theorem parts_eq (p s : Tx) (hs : s.length ≤ 60) : pike_Parts.f 20000 p s = some (match partsS p s with | some l => (l, true, 0) | none => ([], false, exE p)) := by
  unfold pike_Parts.f partsS
  rw [of_eq, Option.bind_some]
  by_cases h : exE p = 0
  · obtain ⟨h1, h2⟩ := progS_ok h
    obtain ⟨m1, m2⟩ := match_eq h1 hs h2
    rw [if_pos h, if_pos h, if_neg (by simp), m1, Option.bind_some]
    cases hm : mS (progS p) s with
    | none => rw [h]; rfl
    | some κ =>
      have hl := parts_loop 20000 s κ true (m2 κ hm) (by omega) 10 20000 0 (by omega) (by omega)
      have hl : pike_Parts.l9 20000 s (κ, true) 20000 [] 0 = _ := hl
      simp only [Option.getD_some, Option.isSome_some, Bool.not_true, Bool.false_eq_true, if_false]
      rw [hl]; rfl
  · rw [if_neg h, if_neg h, if_pos (by simpa using h)]
abbrev In := T_inst_Inst
theorem in_eta (x : In) : T_inst_Inst.mk x.f_Rule x.f_Stem x.f_Subs x.f_Targets x.f_Prereqs = x := by cases x; rfl
def zeroI : In := .mk 0 [] [] [] []
theorem fillA_loop (k : Nat) (hk : 2000 < k) (a : List Tx) (st : Tx) (ha : a.length ≤ 1000) (hs : ∀ x ∈ a, x.length ≤ 1000) (hst : st.length ≤ 100000) : ∀ (l : List Tx) (fuel i : Nat) (acc : List Tx), a.drop i = l → l.length < fuel → acc.length ≤ i → i ≤ a.length →
    stem_FillAll.l5 k a st fuel acc (i : Int) = some (acc ++ l.map (St.fillS · st))
  | _, 0, _, _, _, h, _, _ => by omega
  | [], f + 1, i, acc, hd, _, _, _ => by
    have := Nl.at_nil hd
    unfold stem_FillAll.l5
    rw [if_neg (by simp; omega)]; simp
  | c :: t, f + 1, i, acc, hd, hf, ha2, hi => by
    obtain ⟨g1, g2, g3⟩ := Nl.at_drop hd
    have hc := hs c (by
      have : c ∈ a.drop i := by rw [hd]; exact List.mem_cons_self
      exact List.mem_of_mem_drop this)
    unfold stem_FillAll.l5
    rw [if_pos (by simp; exact g3), g1, Option.bind_some, St.Fill_eq k c st hc (by omega) hst, Option.bind_some, if_pos (Nl.lim_ok (by omega)), Nl.wr1 (by omega), fillA_loop k hk a st ha hs hst t f (i + 1) _ g2 (by simpa using hf) (by simp; omega) (by omega)]
    simp
theorem fillA_eq (k : Nat) (hk : 2000 < k) (a : List Tx) (st : Tx) (ha : SmallT a) (hst : st.length ≤ 100000) : stem_FillAll.f k a st = some (a.map (St.fillS · st)) := by
  have h1 := ha.1
  unfold stem_FillAll.f stem_FillAll.j2
  have e : stem_FillAll.l5 k a st k [] 0 = _ := fillA_loop k hk a st (by omega) (fun x hx => by have := ha.2 x hx; omega) hst a k 0 [] rfl (by omega) (by simp) (by omega)
  rw [e]; rfl
theorem putA_loop (k : Nat) (hk : 2000 < k) (a subs : List Tx) (ha : a.length ≤ 1000) (hs : ∀ x ∈ a, x.length ≤ 300) (hn : subs.length ≤ 20) (hb : ∀ x ∈ subs, x.length ≤ 60) : ∀ (l : List Tx) (fuel i : Nat) (acc : List Tx), a.drop i = l → l.length < fuel → acc.length ≤ i → i ≤ a.length →
    inst_putAll.l5 k a subs fuel acc (i : Int) = some (acc ++ l.map (Ip.putS subs))
  | _, 0, _, _, _, h, _, _ => by omega
  | [], f + 1, i, acc, hd, _, _, _ => by
    have := Nl.at_nil hd
    unfold inst_putAll.l5
    rw [if_neg (by simp; omega)]; simp
  | c :: t, f + 1, i, acc, hd, hf, ha2, hi => by
    obtain ⟨g1, g2, g3⟩ := Nl.at_drop hd
    have hc := hs c (by
      have : c ∈ a.drop i := by rw [hd]; exact List.mem_cons_self
      exact List.mem_of_mem_drop this)
    unfold inst_putAll.l5
    rw [if_pos (by simp; exact g3), g1, Option.bind_some, Ip.code_eq k (by omega) c subs hc hn hb, Option.bind_some, if_pos (Nl.lim_ok (by omega)), Nl.wr1 (by omega), putA_loop k hk a subs ha hs hn hb t f (i + 1) _ g2 (by simpa using hf) (by simp; omega) (by omega)]
    simp
theorem putA_eq (k : Nat) (hk : 2000 < k) (a subs : List Tx) (ha : SmallT a) (hn : subs.length ≤ 20) (hb : ∀ x ∈ subs, x.length ≤ 60) : inst_putAll.f k a subs = some (a.map (Ip.putS subs)) := by
  have h1 := ha.1
  unfold inst_putAll.f inst_putAll.j2
  have e : inst_putAll.l5 k a subs k [] 0 = _ := putA_loop k hk a subs (by omega) (fun x hx => by have := ha.2 x hx; omega) hn hb a k 0 [] rfl (by omega) (by simp) (by omega)
  rw [e]; rfl
def wildL (r : Ru) (name : Tx) : List Tx → Nat → Option In
  | [], _ => none
  | p :: l, i => if (St.matchS p name).2 = true then some (.mk 0 (St.matchS p name).1 [] ((r.f_Targets.map (St.fillS · (St.matchS p name).1)).set i name) (r.f_Prereqs.map (St.fillS · (St.matchS p name).1))) else wildL r name l (i + 1)
theorem wild_loop (k : Nat) (hk : 2000 < k) (r : Ru) (hr : Small r) (name : Tx) (hn : name.length ≤ 60) : ∀ (l : List Tx) (fuel i : Nat), r.f_Targets.drop i = l → l.length < fuel →
    inst_wild.l3 k r name fuel (i : Int) = some (match wildL r name l i with | some x => .inr (x, true) | none => .inl ())
  | _, 0, _, _, h => by omega
  | [], f + 1, i, hd, _ => by
    have := Nl.at_nil hd
    unfold inst_wild.l3
    rw [if_neg (by simp; omega)]; rfl
  | c :: t, f + 1, i, hd, hf => by
    obtain ⟨g1, g2, g3⟩ := Nl.at_drop hd
    have hl := hr.1.1
    have hc := hr.1.2 c (by
      have : c ∈ r.f_Targets.drop i := by rw [hd]; exact List.mem_cons_self
      exact List.mem_of_mem_drop this)
    have hml := St.matchS_len c name
    unfold inst_wild.l3 wildL
    rw [if_pos (by simp; exact g3), g1, Option.bind_some, St.Match_eq k c name (by omega) (by omega) (by omega), Option.bind_some, Nl.wr1 (by omega)]
    cases hm : (St.matchS c name).2 with
    | false =>
      rw [if_neg (by decide), if_neg (by decide)]
      exact wild_loop k hk r hr name hn t f (i + 1) g2 (by simpa using hf)
    | true =>
      have g4 : (r.f_Targets.map (St.fillS · (St.matchS c name).1))[i]? = some (St.fillS r.f_Targets[i] (St.matchS c name).1) := by simp [g3]
      rw [if_pos rfl, if_pos rfl, fillA_eq k hk _ _ hr.1 (by omega), Option.bind_some, fillA_eq k hk _ _ hr.2 (by omega), Option.bind_some, if_pos ⟨by omega, by simp; omega⟩, Int.toNat_natCast, Nat.zero_add, g4]; rfl
def wildS (r : Ru) (name : Tx) : In × Bool := match wildL r name r.f_Targets 0 with | some x => (x, true) | none => (zeroI, false)
theorem wild_eq (k : Nat) (hk : 2000 < k) (r : Ru) (hr : Small r) (name : Tx) (hn : name.length ≤ 60) : inst_wild.f k r name = some (wildS r name) := by
  have h1 := hr.1.1
  unfold inst_wild.f inst_wild.j1 wildS
  have e : inst_wild.l3 k r name k 0 = _ := wild_loop k hk r hr name hn r.f_Targets k 0 rfl (by omega)
  rw [e, Option.bind_some]
  cases wildL r name r.f_Targets 0 <;> rfl
def regL (r : Ru) (name : Tx) : List Tx → Option In
  | [] => none
  | p :: l => match partsS p name with
    | some subs => some (.mk 0 [] subs [name] (r.f_Prereqs.map (Ip.putS subs)))
    | none => regL r name l
theorem reg_loop (r : Ru) (hr : Small r) (name : Tx) (hn : name.length ≤ 60) : ∀ (l : List Tx) (fuel i : Nat), r.f_Targets.drop i = l → l.length < fuel →
    inst_regex.l3 20000 r name fuel (i : Int) = some (match regL r name l with | some x => .inr (x, true) | none => .inl ())
  | _, 0, _, _, h => by omega
  | [], f + 1, i, hd, _ => by
    have := Nl.at_nil hd
    unfold inst_regex.l3
    rw [if_neg (by simp; omega)]; rfl
  | c :: t, f + 1, i, hd, hf => by
    obtain ⟨g1, g2, g3⟩ := Nl.at_drop hd
    have hl := hr.1.1
    have ih := reg_loop r hr name hn t f (i + 1) g2 (by simpa using hf)
    have j0 : ∀ v9, inst_regex.j13 20000 (inst_regex.l3 20000 r name f) r name (i : Int) v9 false = some (match regL r name t with | some x => .inr (x, true) | none => .inl ()) := fun v9 => by
      unfold inst_regex.j13 inst_regex.j7
      rw [if_neg (by decide), Nl.wr1 (by omega), ih]
    unfold inst_regex.l3 regL
    rw [if_pos (by simp; exact g3), g1, Option.bind_some, parts_eq c name hn, Option.bind_some]
    cases hp : partsS c name with
    | none =>
      simp only
      rw [j0, ite_self]
    | some subs =>
      obtain ⟨p1, p2⟩ := parts_len hp
      simp only
      rw [if_pos (by decide)]
      unfold inst_regex.j13
      rw [if_pos rfl, putA_eq 20000 (by omega) _ subs hr.2 (by omega) (fun x hx => by have := p2 x hx; omega)]; rfl
def regS (r : Ru) (name : Tx) : In × Bool := match regL r name r.f_Targets with | some x => (x, true) | none => (zeroI, false)
theorem reg_eq (r : Ru) (hr : Small r) (name : Tx) (hn : name.length ≤ 60) : inst_regex.f 20000 r name = some (regS r name) := by
  have h1 := hr.1.1
  unfold inst_regex.f inst_regex.j1 regS
  have e : inst_regex.l3 20000 r name 20000 0 = _ := reg_loop r hr name hn r.f_Targets 20000 0 rfl (by omega)
  rw [e, Option.bind_some]
  cases regL r name r.f_Targets <;> rfl
def rawS (r : Ru) (kd : Int) (name : Tx) : In × Bool :=
  if kd = 1 then wildS r name else if kd = 2 then regS r name else (.mk 0 [] [] r.f_Targets r.f_Prereqs, Nl.hasB r.f_Targets name)
theorem raw_eq (r : Ru) (hr : Small r) (kd : Int) (name : Tx) (hn : name.length ≤ 60) : inst_raw.f 20000 r kd name = some (rawS r kd name) := by
  have h1 := hr.1.1
  unfold inst_raw.f rawS
  simp only [ru_eta]
  rw [wild_eq 20000 (by omega) r hr name hn, reg_eq r hr name hn, Nl.has2_eq 20000 (by omega) _ (by omega), Option.bind_some, Option.bind_some, Option.bind_some, in_eta, in_eta]
  by_cases h : kd = 1
  · rw [if_pos (by simpa using h), if_pos h]
  · rw [if_neg (by simpa using h), if_neg h]
    by_cases h2 : kd = 2
    · rw [if_pos (by simpa using h2), if_pos h2]
    · rw [if_neg (by simpa using h2), if_neg h2]
theorem wildL_ok {r : Ru} {name : Tx} : ∀ {l : List Tx} {i : Nat} {x : In}, i + l.length = r.f_Targets.length → wildL r name l i = some x → x.f_Targets.length = r.f_Targets.length ∧ x.f_Prereqs.length = r.f_Prereqs.length ∧ name ∈ x.f_Targets ∧ x.f_Subs = []
  | [], _, _, _, h => by cases h
  | p :: l, i, x, hi, h => by
    unfold wildL at h
    simp only [List.length_cons] at hi
    split at h
    · cases h
      exact ⟨by simp, by simp, List.mem_set (by simp; omega) _, rfl⟩
    · exact wildL_ok (by omega) h
theorem regL_ok {r : Ru} {name : Tx} : ∀ {l : List Tx} {x : In}, regL r name l = some x → x.f_Targets = [name] ∧ x.f_Prereqs.length = r.f_Prereqs.length ∧ x.f_Stem = []
  | [], _, h => by cases h
  | p :: l, x, h => by
    unfold regL at h
    split at h
    · cases h; exact ⟨rfl, by simp, rfl⟩
    · exact regL_ok h
theorem raw_ok {r : Ru} (hr : Small r) {kd : Int} {name : Tx} {x : In} (h : rawS r kd name = (x, true)) : x.f_Targets.length ≤ 12 ∧ x.f_Prereqs.length ≤ 12 ∧ name ∈ x.f_Targets ∧ (kd ≠ 2 → x.f_Subs = []) ∧ (kd ≠ 1 → x.f_Stem = []) := by
  have h1 := hr.1.1
  have h2 := hr.2.1
  unfold rawS at h
  split at h
  · rename_i hk
    unfold wildS at h
    split at h
    · rename_i y hy
      cases h
      obtain ⟨a, b, c, d⟩ := wildL_ok (by omega) hy
      exact ⟨by omega, by omega, c, fun _ => d, fun e => absurd hk e⟩
    · cases h
  split at h
  · rename_i hk
    unfold regS at h
    split at h
    · rename_i y hy
      cases h
      obtain ⟨a, b, c⟩ := regL_ok hy
      exact ⟨by rw [a]; simp, by omega, by rw [a]; simp, fun e => absurd hk e, fun _ => c⟩
    · cases h
  · injection h with h3 h4
    subst h3
    exact ⟨h1, h2, by simpa [Nl.hasB] using h4, fun _ => rfl, fun _ => rfl⟩
theorem raw_len {r : Ru} (hr : Small r) (kd : Int) (name : Tx) : (rawS r kd name).1.f_Targets.length ≤ 12 ∧ (rawS r kd name).1.f_Prereqs.length ≤ 12 := by
  cases h : (rawS r kd name).2 with
  | true =>
    obtain ⟨a, b, _⟩ := raw_ok hr (x := (rawS r kd name).1) (kd := kd) (name := name) (by rw [← h])
    exact ⟨a, b⟩
  | false =>
    have h1 := hr.1.1
    have h2 := hr.2.1
    unfold rawS at h ⊢
    split
    · rename_i hk
      rw [if_pos hk] at h
      unfold wildS at h ⊢
      split at h
      · cases h
      · exact ⟨by simp [zeroI], by simp [zeroI]⟩
    · rename_i hk
      rw [if_neg hk] at h
      split
      · rename_i hk2
        rw [if_pos hk2] at h
        unfold regS at h ⊢
        split at h
        · cases h
        · exact ⟨by simp [zeroI], by simp [zeroI]⟩
      · exact ⟨h1, h2⟩
def atR (r : Ru) (kd : Int) (i : Int) (name : Tx) : In × Bool × Nat :=
  if (rawS r kd name).2 = true then
    if ((rawS r kd name).1.f_Targets.any strange || (rawS r kd name).1.f_Prereqs.any strange) = true then (zeroI, false, 4)
    else (.mk i (rawS r kd name).1.f_Stem (rawS r kd name).1.f_Subs (Nl.uniq [] (rawS r kd name).1.f_Targets) (Nl.uniq [] (rawS r kd name).1.f_Prereqs), true, 0)
  else (zeroI, false, 0)
theorem kindAt_eq (k : Nat) (R : List Ru) (Ks : List Int) (i : Nat) (kd : Int) (hi : i < R.length) (hk : Ks[i]? = some kd) : table_Table_Kind_m0.f k R Ks (i : Int) = some kd := by
  have hl : i < Ks.length := by
    rcases Nat.lt_or_ge i Ks.length with h | h
    · exact h
    · rw [List.getElem?_eq_none h] at hk; cases hk
  unfold table_Table_Kind_m0.f table_Table_there_m0.f
  rw [if_pos (by simp), Option.bind_some, if_neg (by simp; omega), if_pos ⟨by omega, by omega⟩, Int.toNat_natCast, Nat.zero_add, hk]; rfl
theorem at_eq (R : List Ru) (Ks : List Int) (i : Nat) (r : Ru) (kd : Int) (h1 : R[i]? = some r) (h2 : Ks[i]? = some kd) (hr : Small r) (name : Tx) (hn : name.length ≤ 60) : inst_At_m0.f 20000 R Ks (i : Int) name = some (atR r kd (i : Int) name) := by
  have hi : i < R.length := by
    rcases Nat.lt_or_ge i R.length with h | h
    · exact h
    · rw [List.getElem?_eq_none h] at h1; cases h1
  obtain ⟨l1, l2⟩ := raw_len hr kd name
  have er : table_Table_Rule_m0.f 20000 R Ks (i : Int) = some (r, true) := by
    unfold table_Table_Rule_m0.f table_Table_there_m0.f
    rw [if_pos (by simp), Option.bind_some, if_neg (by simp; omega), if_pos ⟨by omega, by omega⟩, Int.toNat_natCast, Nat.zero_add, h1, Option.bind_some, apart_eq 20000 r hr, Option.bind_some, ru_eta]
  unfold inst_At_m0.f atR
  rw [er, Option.bind_some]
  simp only [ru_eta, Bool.not_true, Bool.false_eq_true, if_false]
  rw [kindAt_eq 20000 R Ks i kd hi h2, Option.bind_some, raw_eq r hr kd name hn, Option.bind_some]
  cases hb : (rawS r kd name).2 with
  | false => rfl
  | true =>
    have a1 := any_m2 20000 (by omega) (rawS r kd name).1.f_Targets (by omega) (fun x hx => .inr rfl)
    have a2 := any_m2 20000 (by omega) (rawS r kd name).1.f_Prereqs (by omega) (fun x hx => .inr rfl)
    simp only [Bool.not_true, Bool.false_eq_true, if_false, if_true]
    rw [a1, Option.bind_some, a2, Option.bind_some]
    have j11 : ∀ v, inst_At_m0.j11 20000 R Ks (i : Int) (rawS r kd name) v = some (if v = true then (zeroI, false, 4) else (.mk i (rawS r kd name).1.f_Stem (rawS r kd name).1.f_Subs (Nl.uniq [] (rawS r kd name).1.f_Targets) (Nl.uniq [] (rawS r kd name).1.f_Prereqs), true, 0)) := fun v => by
      unfold inst_At_m0.j11 inst_At_m0.j8
      cases v with
      | true => rfl
      | false =>
        rw [if_neg (by decide), if_neg (by decide), Nl.union_eq 20000 (by omega) _ _ (by omega) (by simp), Option.bind_some, Nl.union_eq 20000 (by omega) _ _ (by omega) (by simp), List.append_nil, List.append_nil]; rfl
    rw [j11, j11]
    cases (rawS r kd name).1.f_Targets.any strange <;> simp
def allL (name : Tx) : List (Ru × Int) → Nat → Option (List In)
  | [], _ => some []
  | x :: l, i => if (atR x.1 x.2 (i : Int) name).2.2 = 0 then (allL name l (i + 1)).map (fun t => if (atR x.1 x.2 (i : Int) name).2.1 = true then (atR x.1 x.2 (i : Int) name).1 :: t else t) else none
theorem atR_err (r : Ru) (kd i : Int) (name : Tx) : (atR r kd i name).2.2 = 0 ∨ atR r kd i name = (zeroI, false, 4) := by
  unfold atR
  split
  · split
    · exact .inr rfl
    · exact .inl rfl
  · exact .inl rfl
theorem zip_at {R : List Ru} {Ks : List Int} {i : Nat} {x : Ru × Int} {l : List (Ru × Int)} (h : (R.zip Ks).drop i = x :: l) : R[i]? = some x.1 ∧ Ks[i]? = some x.2 ∧ (R.zip Ks).drop (i + 1) = l ∧ i < R.length := by
  obtain ⟨g1, g2, g3⟩ := Nl.at_drop h
  rw [idx_at rfl g3] at g1
  have g1 := Option.some.inj g1
  rw [List.getElem_zip] at g1
  rw [List.length_zip] at g3
  rw [← g1]
  exact ⟨List.getElem?_eq_getElem (by omega), List.getElem?_eq_getElem (by omega), g2, by omega⟩
theorem all_loop (R : List Ru) (Ks : List Int) (hT : TbOk R Ks) (name : Tx) (hn : name.length ≤ 60) : ∀ (l : List (Ru × Int)) (fuel i : Nat) (acc : List In), (R.zip Ks).drop i = l → l.length < fuel → acc.length ≤ i → i ≤ 100 →
    inst_All_m0.l6 20000 R Ks name (R.length : Int) fuel acc (i : Int) = some (match allL name l i with | some t => .inl (acc ++ t) | none => .inr ([], 4))
  | _, 0, _, _, _, h, _, _ => by omega
  | [], f + 1, i, acc, hd, _, _, _ => by
    have := Nl.at_nil hd
    rw [List.length_zip, hT.1, Nat.min_self] at this
    unfold inst_All_m0.l6
    rw [if_neg (by simp; omega)]; simp [allL]
  | c :: t, f + 1, i, acc, hd, hf, ha, hi => by
    obtain ⟨g1, g2, g3, g4⟩ := zip_at hd
    have hT2 := hT.2.1
    have hs := hT.2.2 c.1 (List.mem_of_getElem? g1)
    unfold inst_All_m0.l6 allL
    rw [if_pos (by simp; omega), at_eq R Ks i c.1 c.2 g1 g2 hs name hn, Option.bind_some]
    rcases atR_err c.1 c.2 (i : Int) name with h | h
    · rw [if_neg (by simp [h]), if_pos h]
      unfold inst_All_m0.j12
      rw [in_eta, Nl.wr1 (by omega)]
      cases hb : (atR c.1 c.2 (i : Int) name).2.1 with
      | false =>
        rw [if_neg (by decide), all_loop R Ks hT name hn t f (i + 1) acc g3 (by simpa using hf) (by omega) (by omega)]
        cases allL name t (i + 1) <;> rfl
      | true =>
        rw [if_pos rfl, if_pos (Nl.lim_ok (by omega)), all_loop R Ks hT name hn t f (i + 1) _ g3 (by simpa using hf) (by simp; omega) (by omega)]
        cases allL name t (i + 1) <;> simp
    · rw [h]; rfl
theorem all_eq (R : List Ru) (Ks : List Int) (hT : TbOk R Ks) (name : Tx) (hn : name.length ≤ 60) : inst_All_m0.f 20000 R Ks name = some (match allL name (R.zip Ks) 0 with | some t => (t, 0) | none => ([], 4)) := by
  have hl := hT.2.1
  unfold inst_All_m0.f table_Table_Len_m0.f inst_All_m0.j2
  have e : inst_All_m0.l6 20000 R Ks name (R.length : Int) 20000 [] 0 = _ := all_loop R Ks hT name hn (R.zip Ks) 20000 0 [] rfl (by rw [List.length_zip]; omega) (by simp) (by omega)
  rw [Option.bind_some, e, Option.bind_some]
  cases allL name (R.zip Ks) 0 <;> rfl
end Go.Proofs.YtpcobejkpbalcaaGreatDoor.Tb
