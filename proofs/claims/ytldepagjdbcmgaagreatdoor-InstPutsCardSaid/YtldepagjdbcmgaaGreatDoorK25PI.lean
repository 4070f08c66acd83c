/- A part of the proof of a given law: PI. Own work, printed in part by a program of mine. -/
import Derived.Test.YtldepagjdbcmgaaGreatDoorRows
import Derived.Test.YtldepagjdbcmgaaGreatDoorK25TryzShelf
import Derived.Test.YtldepagjdbcmgaaGreatDoorK25AmM1
import Derived.Test.YtldepagjdbcmgaaGreatDoorK25AmM
import Derived.Stop.LaidErr
import Derived.LaidLaws
namespace Go.Proofs.YtldepagjdbcmgaaGreatDoor
open Go Go.AM Go.RowKit Go.ChangeShapes Go.Shelf
set_option linter.unusedVariables false
set_option linter.unusedSimpArgs false
set_option maxRecDepth 100000

def errNames : List String := ["millwright/api.ErrRange", "millwright/api.ErrLong", "millwright/api.ErrForm", "millwright/api.ErrName", "millwright/api.ErrQuote", "millwright/api.ErrRegex", "millwright/api.ErrAttr", "millwright/api.ErrNone", "millwright/api.ErrDup", "millwright/api.ErrFull", "millwright/api.ErrDepth", "millwright/api.ErrCycle", "millwright/api.ErrAmbig", "millwright/api.ErrState", "millwright/api.ErrFail", "millwright/api.ErrFlag", "millwright/api.ErrKind", "millwright/api.ErrLost"]
def sent (t : List UInt8) : DataW Unit := .iface "*errors.errorString" (.ptr (.agg [.lit (.string t)]))

noncomputable def adOf (W : World) (n : String) : Addr := @Classical.epsilon Addr ⟨⟨0, 0, none⟩⟩ fun a => W.var? Tryz.prog n = some #[.iface 264 (.pointer (some a))]

theorem star : "*" ++ "errors.errorString" = "*errors.errorString" := by decide
theorem row264 (u : TypeId) (h : Tryz.prog.typeName? 3 u = some "*errors.errorString") : u = 264 :=
  typeName_ptr_named (nm := "errors.errorString") (by rw [star]; kernel_rfl) (by kernel_rfl) (by decide) u (by rw [star]; exact h)

theorem laid_ads {W : World} : ∀ (L : List (String × DataW Unit)) (ps : List MemPlace), DataW.LaidVars Tryz.prog W L ps → ps.Nodup →
    (∀ b off, MemPlace.cell b off ∈ ps → (∃ c t, W.heap[b]? = some (.cells c t (0, 0))) ∧ ∀ u v, W.cell? ⟨b, off, none⟩ = some (.iface u v) → Value.okWide Tryz.prog W .any 0 u v) →
    (∀ n ∈ errNames, ∀ g, Tryz.prog.globalNamed n = some g → (Tryz.prog.globals[g]?).map (·.type) = some 32) →
    (∀ x ∈ L, x.1 ∈ errNames → ∀ t, x.2 = sent t → W.var? Tryz.prog x.1 = some #[.iface 264 (.pointer (some (adOf W x.1)))] ∧ MemPlace.cell (adOf W x.1).block (adOf W x.1).off ∈ ps) ∧
      L.Pairwise fun x y => x.1 ∈ errNames → y.1 ∈ errNames → ∀ t t', x.2 = sent t → y.2 = sent t' → adOf W x.1 ≠ adOf W y.1
  | [], ps, _, _, _, _ => ⟨fun x hx => (by cases hx), List.Pairwise.nil⟩
  | (n, d) :: r, ps, ⟨g, ty, cs, fuel, p, q, hg, ht, hv, hd, hq, e⟩, hnd, hrows, hty => by
    subst e
    have hndq : q.Nodup := List.Nodup.sublist (List.sublist_append_right _ _) hnd
    obtain ⟨h1, h2⟩ := laid_ads r q hq hndq (fun b off hm => hrows b off (List.mem_append_right _ hm)) hty
    have hhead : n ∈ errNames → ∀ t, d = sent t → W.var? Tryz.prog n = some #[.iface 264 (.pointer (some (adOf W n)))] ∧ MemPlace.cell (adOf W n).block (adOf W n).off ∈ p := by
      intro hn t hdt
      subst hdt
      have ht54 := hty n hn g hg
      rw [ht] at ht54
      obtain rfl := Option.some.inj ht54
      obtain ⟨l0⟩ := cs
      have ok0 : ∀ u v, l0 = [.iface u v] → Value.okWide Tryz.prog W .any 0 u v := fun u v e => by
        subst e
        exact (hrows g 0 (by simp [MemPlace.row])).2 u v (by simpa using World.var?_cell hg hv 0)
      obtain ⟨a, s, rfl, hc, hs, hz, rfl⟩ := errorString_of_trod Tryz.underlying32 row264 Tryz.underlying264 Tryz.underlying287 rfl rfl Tryz.underlying9 (by kernel_rfl) (by kernel_rfl) hd ok0
      have had : adOf W n = a := by
        have h5 : W.var? Tryz.prog n = some #[.iface 264 (.pointer (some (adOf W n)))] := Classical.epsilon_spec (p := fun a => W.var? Tryz.prog n = some #[.iface 264 (.pointer (some a))]) ⟨a, hv⟩
        rw [hv] at h5
        simpa using h5.symm
      rw [had]
      exact ⟨hv, by simp [MemPlace.row]⟩
    refine ⟨fun x hx hn t hxt => ?_, List.Pairwise.cons (fun y hy hn hn' t t' hxt hyt e => ?_) h2⟩
    · rcases List.mem_cons.1 hx with rfl | hx
      · obtain ⟨h3, h4⟩ := hhead hn t hxt
        exact ⟨h3, List.mem_append_left _ (List.mem_append_right _ h4)⟩
      · obtain ⟨h3, h4⟩ := h1 x hx hn t hxt
        exact ⟨h3, List.mem_append_right _ h4⟩
    · have h3 := (hhead hn t hxt).2
      have h4 := (h1 y hy hn' t' hyt).2
      simp only at e
      rw [e] at h3
      exact (List.nodup_append.1 hnd).2.2 _ (List.mem_append_right _ h3) _ h4 rfl

def isSent : DataW Unit → Bool
  | .iface nm (.ptr (.agg [.lit (.string _)])) => nm == "*errors.errorString"
  | _ => false
theorem isSent_ok {d : DataW Unit} (h : isSent d = true) : ∃ t, d = sent t := by
  unfold isSent at h
  split at h
  · rename_i nm t
    exact ⟨t, by rw [eq_of_beq h]; rfl⟩
  · cases h


theorem names_types : ∀ n ∈ errNames, ∀ g, Tryz.prog.globalNamed n = some g → (Tryz.prog.globals[g]?).map (·.type) = some 32 := by
  have h : (errNames.all fun n => match Tryz.prog.globalNamed n with | none => true | some g => (Tryz.prog.globals[g]?).map (·.type) == some 32) = true := by kernel_rfl
  intro n hn g hg
  have := List.all_eq_true.1 h n hn
  rw [hg] at this
  simpa using this

theorem cell_lt {W : World} {g : Nat} {v : Value} (h : W.cell? ⟨g, 0, none⟩ = some v) : g < W.heap.size := by
  apply Classical.byContradiction
  intro hc
  simp only [World.cell?] at h
  rw [Array.getElem?_eq_none (by omega)] at h
  cases h



def errVar : Nat → Option Nat
  | 9 => some 0
  | 2 => some 3
  | 3 => some 4
  | 1 => some 2
  | 5 => some 6
  | 16 => some 16
  | _ => none
structure GOk (O : Out) : Prop where
  var : ∀ k g, errVar k = some g → O.gl g = some (O.ev k)
noncomputable def outE0 (W : World) (k : Nat) : Value := match errNames[k]? with | some n => .iface 264 (.pointer (some (adOf W n))) | none => .iface 0 (.bool false)
noncomputable def outE (W : World) : Out where
  ev := outE0 W
  ev_one k := by unfold outE0; cases errNames[k]? <;> rfl
  ev_if k := by unfold outE0; cases errNames[k]? <;> exact ⟨_, _, rfl⟩
  gl g := if g = 0 then some (outE0 W 9) else if g = 3 then some (outE0 W 2) else if g = 4 then some (outE0 W 3) else if g = 2 then some (outE0 W 1) else if g = 6 then some (outE0 W 5) else if g = 16 then some (outE0 W 16) else none
theorem ite_one {α : Type} {p : Prop} [Decidable p] {a v : α} {r : Option α} {Q : Prop} (h : (if p then some a else r) = some v) (h1 : p → a = v → Q) (h2 : r = some v → Q) : Q := by
  by_cases hp : p
  · rw [if_pos hp] at h; exact h1 hp (Option.some.inj h)
  · rw [if_neg hp] at h; exact h2 h
theorem law_out {W : World} {L : List (String × DataW Unit)} (hsh : W.ShapedOpen Tryz.prog) (hL : laidMet Tryz.prog L W)
    (hn : (["millwright/api.ErrFull", "millwright/api.ErrForm", "millwright/api.ErrName", "millwright/api.ErrLong", "millwright/api.ErrRegex", "millwright/api.ErrKind"].all fun n => L.any fun x => x.1 == n && isSent x.2) = true) : ∃ O : Out, GOk O ∧ O.Glob (fun b => b < W.heap.size) W := by
  obtain ⟨ps, hv, hnd, hrows⟩ := hL
  obtain ⟨h1, h2⟩ := laid_ads L ps hv hnd hrows names_types
  have cell : ∀ n g, n ∈ ["millwright/api.ErrFull", "millwright/api.ErrForm", "millwright/api.ErrName", "millwright/api.ErrLong", "millwright/api.ErrRegex", "millwright/api.ErrKind"] → n ∈ errNames → Tryz.prog.globalNamed n = some g →
      g < W.heap.size ∧ W.cell? ⟨g, 0, none⟩ = some (.iface 264 (.pointer (some (adOf W n)))) := fun n g hm hne hg => by
    obtain ⟨x, hx, hx2⟩ := List.any_eq_true.1 (List.all_eq_true.1 hn n hm)
    simp only [Bool.and_eq_true, beq_iff_eq] at hx2
    obtain ⟨t, ht⟩ := isSent_ok hx2.2
    have hvar := (h1 (n, sent t) (by rw [← hx2.1, ← ht]; exact hx) hne t rfl).1
    have hc := World.var?_cell hg hvar 0
    have hc' : W.cell? ⟨g, 0, none⟩ = some (.iface 264 (.pointer (some (adOf W n)))) := by simpa using hc
    exact ⟨cell_lt hc', hc'⟩
  refine ⟨outE W, { var := fun k g hg => ?_ }, fun g v hg => ?_, fun b hb => False.elim hb, fun g arr hg => by cases hg⟩
  · unfold errVar at hg
    split at hg <;> cases hg <;> rfl
  · have hg' : (if g = 0 then some (outE0 W 9) else if g = 3 then some (outE0 W 2) else if g = 4 then some (outE0 W 3) else if g = 2 then some (outE0 W 1) else if g = 6 then some (outE0 W 5) else if g = 16 then some (outE0 W 16) else none) = some v := hg
    refine ite_one hg' (fun e e2 => by subst e; subst e2; exact cell "millwright/api.ErrFull" 0 (by simp) (by decide) (by kernel_rfl)) fun hg' => ?_
    refine ite_one hg' (fun e e2 => by subst e; subst e2; exact cell "millwright/api.ErrForm" 3 (by simp) (by decide) (by kernel_rfl)) fun hg' => ?_
    refine ite_one hg' (fun e e2 => by subst e; subst e2; exact cell "millwright/api.ErrName" 4 (by simp) (by decide) (by kernel_rfl)) fun hg' => ?_
    refine ite_one hg' (fun e e2 => by subst e; subst e2; exact cell "millwright/api.ErrLong" 2 (by simp) (by decide) (by kernel_rfl)) fun hg' => ?_
    refine ite_one hg' (fun e e2 => by subst e; subst e2; exact cell "millwright/api.ErrRegex" 6 (by simp) (by decide) (by kernel_rfl)) fun hg' => ?_
    refine ite_one hg' (fun e e2 => by subst e; subst e2; exact cell "millwright/api.ErrKind" 16 (by simp) (by decide) (by kernel_rfl)) fun hg' => ?_
    cases hg'

def pIndexByte.f (k : Nat) (s : List UInt8) (c : Int) : Option Int := some (Lib.indexByte s c.toNat.toUInt8)
theorem pIndexByte.ok {U : Univ} (O : Out) (hO : GOk O) (k : Nat) (s : List UInt8) (c : Int) (out : Int) (h : pIndexByte.f k s c = some out) :
    COk U O Tryz.prog 78 { ar := [.p .str s, .p (.int .u8) c], r := .p (.int .i64) out } := by
  intro S ι w vs hlt hgl has hbs hown
  simp only [VVs, VV.str_iff, VV.int_iff] at has
  obtain ⟨u0, us0, rfl, ⟨b0, rfl, rfl⟩, u1, us1, rfl, rfl, rfl⟩ := has
  cases h
  refine (Tryz.strings_IndexByte b0 c w).mono fun e w' ⟨he, hw⟩ => ?_
  subst hw
  exact ⟨_, S, ι, he, Nx.refl _ rfl rfl hlt, VV.int_iff.2 rfl⟩

def pCloneR.f (k : Nat) (xs : List (List UInt8)) : Option (List (List UInt8)) := if xs.length * 16 ≤ 140737488355328 then some xs else none
theorem pCloneR.ok {U : Univ} (O : Out) (hO : GOk O) (k : Nat) (xs out : List (List UInt8)) (h : pCloneR.f k xs = some out) : COk U O Tryz.prog 75 { ar := [.p (.list .str) xs], r := .vec 60500 1 0 out.length, bs' := [(60500, .row 9 .str out false)], nn := [60500] } := by
  unfold pCloneR.f at h
  split at h
  case isFalse => cases h
  rename_i hlen
  cases h
  intro S ι w vs hlt hgl has hbs hown
  obtain ⟨u, us', rfl, hu, hus⟩ := has
  have hus : us' = [] := hus
  subst hus
  have fin : ∀ e w' (v' : Value) (news : List Value), e = Ending.returned v' → w'.ownsRow w.heap.size 9 1 v' xs.length news → Below w.heap.size w w' → (∀ (i : Nat) (h : i < xs.length), ∃ q : ByteArray, q.data.toList = xs[i] ∧ news[i]? = some (.string q)) →
      ∃ u S' ι', e = .returned u ∧ Nx U O (CSpec.l { ar := [.p (.list .str) xs], r := .vec 60500 1 0 xs.length, bs' := [(60500, .row 9 .str xs false)], nn := [60500] }) S ι w S' ι' w' ∧ VV U O S' ι' w' (.vec 60500 1 0 xs.length) u := fun e w' v' news he hrow hw hel => by
    obtain ⟨ι', h1, h2⟩ := Nx.rowBlk (U := U) (O := O) (t := .str) (ι := ι) (d := 60500) (s := CSpec.l { ar := [.p (.list .str) xs], r := .vec 60500 1 0 xs.length, bs' := [(60500, .row 9 .str xs false)], nn := [60500] }) (xs := xs) hrow hw rfl rfl rfl rfl hlt fun i hi => by
      obtain ⟨q, h3, h4⟩ := hel i hi
      refine ⟨[.string q], rd_strof h3, fun j hj => ?_⟩
      obtain rfl : j = 0 := by simpa [Ty.width] using hj
      simpa [Ty.width] using h4
    exact ⟨v', S, ι', he, h1, h2⟩
  rcases VV.list_iff.1 hu with ⟨rfl, rfl⟩ | ⟨rfl, ad, cap, rfl⟩ | ⟨b, o, cap, cs, rfl, hS, hcap, hel, hcell⟩
  · exact (Tryz.slices_Clone_string_nil 0 0 w).mono fun e w' ⟨he, hw⟩ => fin e w' _ [] he (World.ownsRow_nil _ _ _ _) (hw ▸ Below.refl _ _) fun i hi => (Nat.not_lt_zero _ hi).elim
  · exact (Tryz.slices_Clone_string_zero ad cap w).mono fun e w' ⟨v', he, hrow, hne, hw⟩ => fin e w' v' [] he hrow hw fun i hi => (Nat.not_lt_zero _ hi).elim
  · obtain ⟨qs, hq⟩ : ∃ qs : List ByteArray, qs.map (·.data.toList) = xs := ⟨xs.map fun x => ⟨x.toArray⟩, by simp [Function.comp_def]⟩
    have hql : qs.length = xs.length := by rw [← hq]; simp
    have hat : ∀ j (hj : j < xs.length), (qs[j]'(by omega)).data.toList = xs[j] := fun j hj => by
      have := congrArg (fun l => l[j]?) hq
      simp only [List.getElem?_map, List.getElem?_eq_getElem (show j < qs.length by omega), Option.map_some] at this
      rw [List.getElem?_eq_getElem hj] at this
      exact Option.some.inj this
    have key : ∀ j, j < qs.length → w.cell? ⟨b, o + j, none⟩ = some (.string (qs.getD j ByteArray.empty)) := fun j hj => by
      have hjx := Nat.lt_of_lt_of_eq hj hql
      have h2 := hcell j 0 hjx (by simp [Ty.width])
      obtain ⟨q, h3, h4⟩ := rd_strq (hel j hjx)
      rw [h4] at h2
      have e1 : qs.getD j ByteArray.empty = qs[j] := by simp [List.getD, hj]
      rw [e1, bytes_ext ((hat j hjx).trans h3)]
      simpa [Ty.width] using h2
    exact (Tryz.slices_Clone_string b o xs.length cap qs w (by omega) hlen key).mono fun e w' ⟨v', he, hrow, hne, hw⟩ => fin e w' v' _ he hrow hw fun i hi => ⟨qs[i]'(by omega), hat i hi, by
      simp [hql, List.getElem?_eq_getElem (show i < qs.length by omega), hi]⟩

end Go.Proofs.YtldepagjdbcmgaaGreatDoor
