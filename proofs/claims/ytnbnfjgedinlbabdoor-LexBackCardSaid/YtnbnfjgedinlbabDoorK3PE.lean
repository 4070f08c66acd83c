/- A part of the proof of a given law: PE. Own work, printed in part by a program of mine. -/
import Derived.Test.YtnbnfjgedinlbabDoorRows
import Derived.Test.YtnbnfjgedinlbabDoorK3TrydShelf
import Derived.Test.YtnbnfjgedinlbabDoorK3AmY
import Derived.Test.YtnbnfjgedinlbabDoorK3AmP
import Derived.Stop.LaidErr
import Derived.LaidLaws
import Derived.Lib.Join
namespace Go.Proofs.YtnbnfjgedinlbabDoor
open Go Go.AM Go.RowKit Go.ChangeShapes
set_option linter.unusedVariables false
set_option linter.unusedSimpArgs false
set_option maxRecDepth 100000

/-- The errors by their numbers, less one. -/
def errNames : List String := ["millwright/api.ErrRange", "millwright/api.ErrLong", "millwright/api.ErrForm", "millwright/api.ErrName", "millwright/api.ErrQuote", "millwright/api.ErrRegex", "millwright/api.ErrAttr", "millwright/api.ErrNone", "millwright/api.ErrDup", "millwright/api.ErrFull", "millwright/api.ErrDepth", "millwright/api.ErrCycle", "millwright/api.ErrAmbig", "millwright/api.ErrState", "millwright/api.ErrFail", "millwright/api.ErrFlag", "millwright/api.ErrKind", "millwright/api.ErrLost"]
def sent (t : List UInt8) : DataW Unit := .iface "*errors.errorString" (.ptr (.agg [.lit (.string t)]))

/-- Where the error lies to which a variable leads. -/
noncomputable def adOf (W : World) (n : String) : Addr := @Classical.epsilon Addr ⟨⟨0, 0, none⟩⟩ fun a => W.var? Tryd.prog n = some #[.iface 173 (.pointer (some a))]

theorem star : "*" ++ "errors.errorString" = "*errors.errorString" := by decide
theorem row173 (u : TypeId) (h : Tryd.prog.typeName? 3 u = some "*errors.errorString") : u = 173 :=
  typeName_ptr_named (nm := "errors.errorString") (by rw [star]; kernel_rfl) (by kernel_rfl) (by decide) u (by rw [star]; exact h)

theorem laid_ads {W : World} : ∀ (L : List (String × DataW Unit)) (ps : List MemPlace), DataW.LaidVars Tryd.prog W L ps → ps.Nodup →
    (∀ b off, MemPlace.cell b off ∈ ps → (∃ c t, W.heap[b]? = some (.cells c t (0, 0))) ∧ ∀ u v, W.cell? ⟨b, off, none⟩ = some (.iface u v) → Value.okWide Tryd.prog W .any 0 u v) →
    (∀ n ∈ errNames, ∀ g, Tryd.prog.globalNamed n = some g → (Tryd.prog.globals[g]?).map (·.type) = some 27) →
    (∀ x ∈ L, x.1 ∈ errNames → ∀ t, x.2 = sent t → W.var? Tryd.prog x.1 = some #[.iface 173 (.pointer (some (adOf W x.1)))] ∧ MemPlace.cell (adOf W x.1).block (adOf W x.1).off ∈ ps) ∧
      L.Pairwise fun x y => x.1 ∈ errNames → y.1 ∈ errNames → ∀ t t', x.2 = sent t → y.2 = sent t' → adOf W x.1 ≠ adOf W y.1
  | [], ps, _, _, _, _ => ⟨fun x hx => (by cases hx), List.Pairwise.nil⟩
  | (n, d) :: r, ps, ⟨g, ty, cs, fuel, p, q, hg, ht, hv, hd, hq, e⟩, hnd, hrows, hty => by
    subst e
    have hndq : q.Nodup := List.Nodup.sublist (List.sublist_append_right _ _) hnd
    obtain ⟨h1, h2⟩ := laid_ads r q hq hndq (fun b off hm => hrows b off (List.mem_append_right _ hm)) hty
    have hhead : n ∈ errNames → ∀ t, d = sent t → W.var? Tryd.prog n = some #[.iface 173 (.pointer (some (adOf W n)))] ∧ MemPlace.cell (adOf W n).block (adOf W n).off ∈ p := by
      intro hn t hdt
      subst hdt
      have ht54 := hty n hn g hg
      rw [ht] at ht54
      obtain rfl := Option.some.inj ht54
      obtain ⟨l0⟩ := cs
      have ok0 : ∀ u v, l0 = [.iface u v] → Value.okWide Tryd.prog W .any 0 u v := fun u v e => by
        subst e
        exact (hrows g 0 (by simp [MemPlace.row])).2 u v (by simpa using World.var?_cell hg hv 0)
      obtain ⟨a, s, rfl, hc, hs, hz, rfl⟩ := errorString_of_trod Tryd.underlying27 row173 Tryd.underlying173 Tryd.underlying195 rfl rfl Tryd.underlying9 (by kernel_rfl) (by kernel_rfl) hd ok0
      have had : adOf W n = a := by
        have h5 : W.var? Tryd.prog n = some #[.iface 173 (.pointer (some (adOf W n)))] := Classical.epsilon_spec (p := fun a => W.var? Tryd.prog n = some #[.iface 173 (.pointer (some a))]) ⟨a, hv⟩
        rw [hv] at h5
        simpa using h5.symm
      rw [had]
      exact ⟨hv, by simp [MemPlace.row]⟩
    refine ⟨fun x hx hn t hxt => ?_, List.Pairwise.cons (fun y hy hn hn' t t' hxt hyt e => ?_) h2⟩
    · rcases List.mem_cons.1 hx with rfl | hx
      · obtain ⟨h3, h4⟩ := hhead hn t hxt
        exact ⟨h3, List.mem_append_left _ (List.mem_append_right _ h4)⟩
      · obtain ⟨h3, h4⟩ := h1 x hx hn t hxt
        exact ⟨h3, List.mem_append_right _ h4⟩
    · have h3 := (hhead hn t hxt).2
      have h4 := (h1 y hy hn' t' hyt).2
      simp only at e
      rw [e] at h3
      exact (List.nodup_append.1 hnd).2.2 _ (List.mem_append_right _ h3) _ h4 rfl

theorem pw_sym {α : Type} {R : α → α → Prop} (hs : ∀ x y, R x y → R y x) : ∀ {l : List α}, l.Pairwise R → ∀ x ∈ l, ∀ y ∈ l, x ≠ y → R x y
  | [], _, x, hx, _, _, _ => by cases hx
  | a :: l, h, x, hx, y, hy, hne => by
    obtain ⟨h1, h2⟩ := List.pairwise_cons.1 h
    rcases List.mem_cons.1 hx with rfl | hx' <;> rcases List.mem_cons.1 hy with rfl | hy'
    · exact absurd rfl hne
    · exact h1 y hy'
    · exact hs _ _ (h1 x hx')
    · exact pw_sym hs h2 x hx' y hy' hne

def isSent : DataW Unit → Bool
  | .iface nm (.ptr (.agg [.lit (.string _)])) => nm == "*errors.errorString"
  | _ => false
theorem isSent_ok {d : DataW Unit} (h : isSent d = true) : ∃ t, d = sent t := by
  unfold isSent at h
  split at h
  · rename_i nm t
    exact ⟨t, by rw [eq_of_beq h]; rfl⟩
  · cases h


theorem names_types : ∀ n ∈ errNames, ∀ g, Tryd.prog.globalNamed n = some g → (Tryd.prog.globals[g]?).map (·.type) = some 27 := by
  have h : (errNames.all fun n => ((Tryd.prog.globalNamed n).bind fun g => (Tryd.prog.globals[g]?).map (·.type)) == some 27) = true := by kernel_rfl
  intro n hn g hg
  have := List.all_eq_true.1 h n hn
  rw [hg] at this
  simpa using this

theorem cell_lt {W : World} {g : Nat} {v : Value} (h : W.cell? ⟨g, 0, none⟩ = some v) : g < W.heap.size := by
  apply Classical.byContradiction
  intro hc
  simp only [World.cell?] at h
  rw [Array.getElem?_eq_none (by omega)] at h
  cases h


/-- The error that quoting tells, and bytealg.MaxLen. -/
structure GOkQ (O : Out) : Prop where
  maxLen : ∃ m, O.gl 18 = some (.int .i64 m)
  var : ∀ k g, (if k = 4 then some 0 else none) = some g → O.gl g = some (O.ev k)

noncomputable def outQ (W : World) (m : Int) : Out where
  ev k := match errNames[k]? with | some n => .iface 173 (.pointer (some (adOf W n))) | none => .iface 0 (.bool false)
  ev_one k := by cases errNames[k]? <;> rfl
  ev_if k := by cases errNames[k]? <;> exact ⟨_, _, rfl⟩
  gl g := if g = 18 then some (.int .i64 m) else if g = 0 then some (.iface 173 (.pointer (some (adOf W "millwright/api.ErrQuote")))) else none

theorem law_outQ {W : World} {L : List (String × DataW Unit)} (hsh : W.ShapedOpen Tryd.prog) (hL : laidMet Tryd.prog L W)
    (hn : (["millwright/api.ErrQuote"].all fun n => L.any fun x => x.1 == n && isSent x.2) = true) : ∃ O : Out, GOkQ O ∧ O.Glob (fun b => b < W.heap.size) W := by
  obtain ⟨m, hm⟩ := Tryd.laysM155.s1_3 W hsh
  have hm : W.cell? ⟨18, 0, none⟩ = some (.int .i64 m) := hm
  obtain ⟨ps, hv, hnd, hrows⟩ := hL
  obtain ⟨h1, h2⟩ := laid_ads L ps hv hnd hrows names_types
  have hvar : W.var? Tryd.prog "millwright/api.ErrQuote" = some #[.iface 173 (.pointer (some (adOf W "millwright/api.ErrQuote")))] := by
    obtain ⟨x, hx, hx2⟩ := List.any_eq_true.1 (List.all_eq_true.1 hn "millwright/api.ErrQuote" (by simp))
    simp only [Bool.and_eq_true, beq_iff_eq] at hx2
    obtain ⟨t, ht⟩ := isSent_ok hx2.2
    exact (h1 ("millwright/api.ErrQuote", sent t) (by rw [← hx2.1, ← ht]; exact hx) (show "millwright/api.ErrQuote" ∈ errNames by decide) t rfl).1
  have hc := World.var?_cell (show Tryd.prog.globalNamed "millwright/api.ErrQuote" = some 0 by kernel_rfl) hvar 0
  have hc' : W.cell? ⟨0, 0, none⟩ = some (.iface 173 (.pointer (some (adOf W "millwright/api.ErrQuote")))) := by simpa using hc
  refine ⟨outQ W m, { maxLen := ⟨m, rfl⟩, var := fun k g hg => ?_ }, fun g v hg => ?_, fun b hb => False.elim hb, fun g arr hg => by cases hg⟩
  · split at hg
    · rename_i e; subst e; cases hg; rfl
    · cases hg
  · have hg' : (if g = 18 then some (.int .i64 m) else if g = 0 then some (.iface 173 (.pointer (some (adOf W "millwright/api.ErrQuote")))) else none) = some v := hg
    split at hg'
    · rename_i e; subst e; cases hg'; exact ⟨cell_lt hm, hm⟩
    split at hg'
    · rename_i e; subst e; cases hg'; exact ⟨cell_lt hc', hc'⟩
    · cases hg'

/-- The errors that words tell, and bytealg.MaxLen. -/
def errVarL : Nat → Option Nat
  | 2 => some 5
  | 3 => some 1
  | 4 => some 0
  | _ => none
structure GOkL (O : Out) : Prop where
  maxLen : ∃ m, O.gl 18 = some (.int .i64 m)
  var : ∀ k g, errVarL k = some g → O.gl g = some (O.ev k)

theorem GOkL.toQ {O : Out} (h : GOkL O) : GOkQ O := ⟨h.maxLen, fun k g hg => h.var k g (by split at hg <;> cases hg; rename_i e; subst e; rfl)⟩

noncomputable def outL (W : World) (m : Int) : Out where
  ev := (outQ W m).ev
  ev_one := (outQ W m).ev_one
  ev_if := (outQ W m).ev_if
  gl g := if g = 18 then some (.int .i64 m) else if g = 0 then some ((outQ W m).ev 4) else if g = 1 then some ((outQ W m).ev 3) else if g = 5 then some ((outQ W m).ev 2) else none

theorem law_outL {W : World} {L : List (String × DataW Unit)} (hsh : W.ShapedOpen Tryd.prog) (hL : laidMet Tryd.prog L W)
    (hn : (["millwright/api.ErrQuote", "millwright/api.ErrName", "millwright/api.ErrForm"].all fun n => L.any fun x => x.1 == n && isSent x.2) = true) : ∃ O : Out, GOkL O ∧ O.Glob (fun b => b < W.heap.size) W := by
  obtain ⟨m, hm⟩ := Tryd.laysM155.s1_3 W hsh
  have hm : W.cell? ⟨18, 0, none⟩ = some (.int .i64 m) := hm
  obtain ⟨ps, hv, hnd, hrows⟩ := hL
  obtain ⟨h1, h2⟩ := laid_ads L ps hv hnd hrows names_types
  have cell : ∀ n g, n ∈ ["millwright/api.ErrQuote", "millwright/api.ErrName", "millwright/api.ErrForm"] → n ∈ errNames → Tryd.prog.globalNamed n = some g →
      g < W.heap.size ∧ W.cell? ⟨g, 0, none⟩ = some (.iface 173 (.pointer (some (adOf W n)))) := fun n g hm hne hg => by
    obtain ⟨x, hx, hx2⟩ := List.any_eq_true.1 (List.all_eq_true.1 hn n hm)
    simp only [Bool.and_eq_true, beq_iff_eq] at hx2
    obtain ⟨t, ht⟩ := isSent_ok hx2.2
    have hvar := (h1 (n, sent t) (by rw [← hx2.1, ← ht]; exact hx) hne t rfl).1
    have hc := World.var?_cell hg hvar 0
    have hc' : W.cell? ⟨g, 0, none⟩ = some (.iface 173 (.pointer (some (adOf W n)))) := by simpa using hc
    exact ⟨cell_lt hc', hc'⟩
  refine ⟨outL W m, { maxLen := ⟨m, rfl⟩, var := fun k g hg => ?_ }, fun g v hg => ?_, fun b hb => False.elim hb, fun g arr hg => by cases hg⟩
  · unfold errVarL at hg
    split at hg <;> cases hg <;> rfl
  · have hg' : (if g = 18 then some (.int .i64 m) else if g = 0 then some ((outQ W m).ev 4) else if g = 1 then some ((outQ W m).ev 3) else if g = 5 then some ((outQ W m).ev 2) else none) = some v := hg
    split at hg'
    · rename_i e; subst e; cases hg'; exact ⟨cell_lt hm, hm⟩
    split at hg'
    · rename_i e; subst e; cases hg'; exact cell "millwright/api.ErrQuote" 0 (by simp) (by decide) (by kernel_rfl)
    split at hg'
    · rename_i e; subst e; cases hg'; exact cell "millwright/api.ErrName" 1 (by simp) (by decide) (by kernel_rfl)
    split at hg'
    · rename_i e; subst e; cases hg'; exact cell "millwright/api.ErrForm" 5 (by simp) (by decide) (by kernel_rfl)
    · cases hg'

def pIndexByte.f (k : Nat) (s : List UInt8) (c : Int) : Option Int := some (Lib.indexByte s c.toNat.toUInt8)

theorem pIndexByte.ok {U : Univ} (O : Out) (hO : GOkQ O) (k : Nat) (s : List UInt8) (c : Int) (out : Int) (h : pIndexByte.f k s c = some out) :
    COk U O Tryd.prog 67 { ar := [.p .str s, .p (.int .u8) c], r := .p (.int .i64) out } := by
  intro S ι w vs hlt hgl has hbs hown
  simp only [VVs, VV.str_iff, VV.int_iff] at has
  obtain ⟨u0, us0, rfl, ⟨b0, rfl, rfl⟩, u1, us1, rfl, rfl, rfl⟩ := has
  cases h
  refine (Tryd.strings_IndexByte b0 c w).mono fun e w' ⟨he, hw⟩ => ?_
  subst hw
  exact ⟨_, S, ι, he, Nx.refl _ rfl rfl hlt, VV.int_iff.2 rfl⟩

def pReplaceAll.f (k : Nat) (s old new : List UInt8) : Option (List UInt8) :=
  if s.length < 4294967281 ∧ 1 ≤ old.length ∧ s.length + Lib.countB ⟨s.toArray⟩ ⟨old.toArray⟩ * new.length ≤ 140737488355328 then some (Lib.replaceAll s old new) else none

theorem ba_size (b : ByteArray) : b.data.toList.length = b.size := by rw [Array.length_toList]; rfl

theorem pReplaceAll.ok {U : Univ} (O : Out) (hO : GOkQ O) (k : Nat) (s old new : List UInt8) (out : List UInt8) (h : pReplaceAll.f k s old new = some out) :
    COk U O Tryd.prog 61 { ar := [.p .str s, .p .str old, .p .str new], r := .p .str out } := by
  intro S ι w vs hlt hgl has hbs hown
  simp only [VVs, VV.str_iff] at has
  obtain ⟨u0, us0, rfl, ⟨b0, rfl, rfl⟩, u1, us1, rfl, ⟨b1, rfl, rfl⟩, u2, us2, rfl, ⟨b2, rfl, rfl⟩, rfl⟩ := has
  unfold pReplaceAll.f at h
  split at h
  · rename_i hc
    cases h
    obtain ⟨m, hm⟩ := hO.maxLen
    simp only [ba_size] at hc
    refine (Tryd.strings_ReplaceAll b0 b1 b2 m w hc.1 (hgl.1 _ _ hm).2 hc.2.1 hc.2.2).mono fun e w' ⟨he, hw⟩ => ?_
    exact ⟨_, S, ι, he, Nx.ofBelow hw rfl rfl hlt, VV.str_iff.2 ⟨_, rfl, rfl⟩⟩
  · cases h

theorem rd_str {U : Univ} {O : Out} {S : Nat → Prop} {w : World} {x : List UInt8} {cs : List Value} (h : Rd U O S w .str x cs) : ∃ q : ByteArray, x = q.data.toList ∧ cs = [.string q] := by
  cases h; exact ⟨_, rfl, rfl⟩

def pJoin.f (k : Nat) (xs : List (List UInt8)) (sep : List UInt8) : Option (List UInt8) :=
  if xs.length ≤ 140737488355328 ∧ (Lib.join xs sep).length ≤ 140737488355328 then some (Lib.join xs sep) else none

theorem pJoin.ok {U : Univ} (O : Out) (hO : GOkQ O) (k : Nat) (xs : List (List UInt8)) (sep : List UInt8) (out : List UInt8) (h : pJoin.f k xs sep = some out) :
    COk U O Tryd.prog 44 { ar := [.p (.list .str) xs, .p .str sep], r := .p .str out } := by
  unfold pJoin.f at h
  split at h
  case isFalse => cases h
  rename_i hc
  cases h
  intro S ι w vs hlt hgl has hbs hown
  simp only [VVs, VV.str_iff] at has
  obtain ⟨u0, us0, rfl, h0, u1, us1, rfl, ⟨b1, rfl, rfl⟩, rfl⟩ := has
  have fin : ∀ e w', e = Ending.returned (.string ⟨(Lib.join xs b1.data.toList).toArray⟩) ∧ Below w.heap.size w w' → ∃ u S' ι', e = .returned u ∧ Nx U O (CSpec.l { ar := [.p (.list .str) xs, .p .str b1.data.toList], r := .p .str (Lib.join xs b1.data.toList) }) S ι w S' ι' w' ∧ VV U O S' ι' w' (.p .str (Lib.join xs b1.data.toList)) u := fun e w' ⟨he, hw⟩ =>
    ⟨_, S, ι, he, Nx.ofBelow hw rfl rfl hlt, VV.str_iff.2 ⟨_, rfl, by simp⟩⟩
  rcases VV.list_iff.1 h0 with ⟨rfl, rfl⟩ | ⟨rfl, ad, cap, rfl⟩ | ⟨b, o, cap, cs, rfl, hS, hcap, hel, hcell⟩
  · exact (Tryd.strings_Join_none none 0 b1 w).mono fun e w' ⟨he, hw⟩ => fin e w' ⟨he, hw ▸ Below.refl _ _⟩
  · exact (Tryd.strings_Join_none (some ad) cap b1 w).mono fun e w' ⟨he, hw⟩ => fin e w' ⟨he, hw ▸ Below.refl _ _⟩
  · have hcs : ∀ (i : Nat) (hi : i < xs.length), ∃ q : ByteArray, q.data.toList = xs[i] ∧ w.cell? ⟨b, o + i, none⟩ = some (.string q) := fun i hi => by
      have h2 := hcell i 0 hi (by simp [Ty.width])
      obtain ⟨q, h3, h4⟩ := rd_str (hel i hi)
      exact ⟨q, h3.symm, by simpa [Ty.width, h4] using h2⟩
    obtain ⟨qs, hq⟩ : ∃ qs : List ByteArray, qs.map (·.data.toList) = xs := ⟨xs.map fun x => ⟨x.toArray⟩, by simp [Function.comp_def]⟩
    have hql : qs.length = xs.length := by rw [← hq]; simp
    have := (Tryd.strings_Join b o cap qs b1 w (fun j x hx => by
      have hj : j < qs.length := (List.getElem?_eq_some_iff.1 hx).1
      obtain ⟨q, h3, h4⟩ := hcs j (by omega)
      rw [h4]
      have h5 : x.data.toList = xs[j]'(by omega) := by
        have := congrArg (fun l => l[j]?) hq
        simp only [List.getElem?_map, hx, Option.map_some] at this
        rw [List.getElem?_eq_getElem (by omega)] at this
        exact Option.some.inj this
      have h6 : q.data.toList = x.data.toList := h3.trans h5.symm
      cases q; cases x
      simp only at h6
      congr 2
      congr 1
      exact Array.toList_inj.1 h6) (hlt b hS) (by rw [hql]; exact hc.1) (by rw [hql]; exact hcap) (by rw [hq]; exact hc.2)).mono fun e w' ⟨he, hw⟩ => fin e w' ⟨by rw [he, hq], hw⟩
    rw [hql] at this
    exact this

theorem pIndexByteL.ok {U : Univ} (O : Out) (hO : GOkL O) (k : Nat) (s : List UInt8) (c : Int) (out : Int) (h : pIndexByte.f k s c = some out) :
    COk U O Tryd.prog 67 { ar := [.p .str s, .p (.int .u8) c], r := .p (.int .i64) out } := pIndexByte.ok O hO.toQ k s c out h
theorem pReplaceAllL.ok {U : Univ} (O : Out) (hO : GOkL O) (k : Nat) (s old new : List UInt8) (out : List UInt8) (h : pReplaceAll.f k s old new = some out) :
    COk U O Tryd.prog 61 { ar := [.p .str s, .p .str old, .p .str new], r := .p .str out } := pReplaceAll.ok O hO.toQ k s old new out h
end Go.Proofs.YtnbnfjgedinlbabDoor
