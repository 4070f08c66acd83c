/- A part of the proof of a given law: PE. Own work, printed in part by a program of mine. -/
import Derived.Test.YtfeaegjlhpgdmaaDoorPS
import Derived.Test.YtfeaegjlhpgdmaaDoorIs
import Derived.Test.YtfeaegjlhpgdmaaDoorRows
import Derived.Stop.LaidErr
import Derived.LaidLaws
namespace Go.Proofs.YtfeaegjlhpgdmaaDoor
open Go Go.AM Go.RowKit Go.ChangeShapes
set_option linter.unusedVariables false
set_option maxRecDepth 100000

/-- The errors by their numbers, less one. -/
def errNames : List String := ["millwright/api.ErrRange", "millwright/api.ErrLong", "millwright/api.ErrForm", "millwright/api.ErrName", "millwright/api.ErrQuote", "millwright/api.ErrRegex", "millwright/api.ErrAttr", "millwright/api.ErrNone", "millwright/api.ErrDup", "millwright/api.ErrFull", "millwright/api.ErrDepth", "millwright/api.ErrCycle", "millwright/api.ErrAmbig", "millwright/api.ErrState", "millwright/api.ErrFail", "millwright/api.ErrFlag", "millwright/api.ErrKind", "millwright/api.ErrLost"]
/-- The variables in which they lie. -/
def errVars : List Nat := [2, 3, 5, 1, 4, 6, 7, 8, 9, 0, 10, 11, 12, 13, 14, 15, 16, 17]

structure GOkE (O : Out) : Prop extends GOk O where
  ptr : ∀ k, k < 18 → ∃ a, O.ev k = .iface 178 (.pointer (some a)) ∧ O.pl a.block
  inj : ∀ i j, i < 18 → j < 18 → O.ev i = O.ev j → i = j
  var : ∀ k g, errVars[k]? = some g → O.gl g = some (O.ev k)

def sent (t : List UInt8) : DataW Unit := .iface "*errors.errorString" (.ptr (.agg [.lit (.string t)]))

/-- Where the error lies to which a variable leads. -/
noncomputable def adOf (W : World) (n : String) : Addr := @Classical.epsilon Addr ⟨⟨0, 0, none⟩⟩ fun a => W.var? Tryd.prog n = some #[.iface 178 (.pointer (some a))]

theorem star : "*" ++ "errors.errorString" = "*errors.errorString" := by decide
theorem row178 (u : TypeId) (h : Tryd.prog.typeName? 3 u = some "*errors.errorString") : u = 178 :=
  typeName_ptr_named (nm := "errors.errorString") (by rw [star]; kernel_rfl) (by kernel_rfl) (by decide) u (by rw [star]; exact h)

theorem laid_ads {W : World} : ∀ (L : List (String × DataW Unit)) (ps : List MemPlace), DataW.LaidVars Tryd.prog W L ps → ps.Nodup →
    (∀ b off, MemPlace.cell b off ∈ ps → (∃ c t, W.heap[b]? = some (.cells c t (0, 0))) ∧ ∀ u v, W.cell? ⟨b, off, none⟩ = some (.iface u v) → Value.okWide Tryd.prog W .any 0 u v) →
    (∀ n ∈ errNames, ∀ g, Tryd.prog.globalNamed n = some g → (Tryd.prog.globals[g]?).map (·.type) = some 33) →
    (∀ x ∈ L, x.1 ∈ errNames → ∀ t, x.2 = sent t → W.var? Tryd.prog x.1 = some #[.iface 178 (.pointer (some (adOf W x.1)))] ∧ MemPlace.cell (adOf W x.1).block (adOf W x.1).off ∈ ps) ∧
      L.Pairwise fun x y => x.1 ∈ errNames → y.1 ∈ errNames → ∀ t t', x.2 = sent t → y.2 = sent t' → adOf W x.1 ≠ adOf W y.1
  | [], ps, _, _, _, _ => ⟨fun x hx => (by cases hx), List.Pairwise.nil⟩
  | (n, d) :: r, ps, ⟨g, ty, cs, fuel, p, q, hg, ht, hv, hd, hq, e⟩, hnd, hrows, hty => by
    subst e
    have hndq : q.Nodup := List.Nodup.sublist (List.sublist_append_right _ _) hnd
    obtain ⟨h1, h2⟩ := laid_ads r q hq hndq (fun b off hm => hrows b off (List.mem_append_right _ hm)) hty
    have hhead : n ∈ errNames → ∀ t, d = sent t → W.var? Tryd.prog n = some #[.iface 178 (.pointer (some (adOf W n)))] ∧ MemPlace.cell (adOf W n).block (adOf W n).off ∈ p := by
      intro hn t hdt
      subst hdt
      have ht33 := hty n hn g hg
      rw [ht] at ht33
      obtain rfl := Option.some.inj ht33
      obtain ⟨l0⟩ := cs
      have ok0 : ∀ u v, l0 = [.iface u v] → Value.okWide Tryd.prog W .any 0 u v := fun u v e => by
        subst e
        exact (hrows g 0 (by simp [MemPlace.row])).2 u v (by simpa using World.var?_cell hg hv 0)
      obtain ⟨a, s, rfl, hc, hs, hz, rfl⟩ := errorString_of_trod Tryd.underlying33 row178 Tryd.underlying178 Tryd.underlying201 rfl rfl Tryd.underlying9 (by kernel_rfl) (by kernel_rfl) hd ok0
      have had : adOf W n = a := by
        have h5 : W.var? Tryd.prog n = some #[.iface 178 (.pointer (some (adOf W n)))] := Classical.epsilon_spec (p := fun a => W.var? Tryd.prog n = some #[.iface 178 (.pointer (some a))]) ⟨a, hv⟩
        rw [hv] at h5
        simpa using h5.symm
      rw [had]
      exact ⟨hv, by simp [MemPlace.row]⟩
    refine ⟨fun x hx hn t hxt => ?_, List.Pairwise.cons (fun y hy hn hn' t t' hxt hyt e => ?_) h2⟩
    · rcases List.mem_cons.1 hx with rfl | hx
      · obtain ⟨h3, h4⟩ := hhead hn t hxt
        exact ⟨h3, List.mem_append_left _ (List.mem_append_right _ h4)⟩
      · obtain ⟨h3, h4⟩ := h1 x hx hn t hxt
        exact ⟨h3, List.mem_append_right _ h4⟩
    · have h3 := (hhead hn t hxt).2
      have h4 := (h1 y hy hn' t' hyt).2
      simp only at e
      rw [e] at h3
      exact (List.nodup_append.1 hnd).2.2 _ (List.mem_append_right _ h3) _ h4 rfl

theorem pw_sym {α : Type} {R : α → α → Prop} (hs : ∀ x y, R x y → R y x) : ∀ {l : List α}, l.Pairwise R → ∀ x ∈ l, ∀ y ∈ l, x ≠ y → R x y
  | [], _, x, hx, _, _, _ => by cases hx
  | a :: l, h, x, hx, y, hy, hne => by
    obtain ⟨h1, h2⟩ := List.pairwise_cons.1 h
    rcases List.mem_cons.1 hx with rfl | hx' <;> rcases List.mem_cons.1 hy with rfl | hy'
    · exact absurd rfl hne
    · exact h1 y hy'
    · exact hs _ _ (h1 x hx')
    · exact pw_sym hs h2 x hx' y hy' hne

def isSent : DataW Unit → Bool
  | .iface nm (.ptr (.agg [.lit (.string _)])) => nm == "*errors.errorString"
  | _ => false
theorem isSent_ok {d : DataW Unit} (h : isSent d = true) : ∃ t, d = sent t := by
  unfold isSent at h
  split at h
  · rename_i nm t
    exact ⟨t, by rw [eq_of_beq h]; rfl⟩
  · cases h

noncomputable def outE (W : World) (m : Int) : Out where
  ev k := match errNames[k]? with | some n => .iface 178 (.pointer (some (adOf W n))) | none => .iface 0 (.bool false)
  ev_one k := by cases errNames[k]? <;> rfl
  ev_if k := by cases errNames[k]? <;> exact ⟨_, _, rfl⟩
  gl g := if g = 18 then some (.int .i64 m) else match errVars.idxOf? g with | some k => some (match errNames[k]? with | some n => .iface 178 (.pointer (some (adOf W n))) | none => .iface 0 (.bool false)) | none => none
  pl b := ∃ n ∈ errNames, b = (adOf W n).block

theorem names_vars : errNames.map Tryd.prog.globalNamed = errVars.map some := by kernel_rfl
theorem names_types : ∀ n ∈ errNames, ∀ g, Tryd.prog.globalNamed n = some g → (Tryd.prog.globals[g]?).map (·.type) = some 33 := by
  have h : (errNames.all fun n => ((Tryd.prog.globalNamed n).bind fun g => (Tryd.prog.globals[g]?).map (·.type)) == some 33) = true := by kernel_rfl
  intro n hn g hg
  have := List.all_eq_true.1 h n hn
  rw [hg] at this
  simpa using this

theorem cell_lt {W : World} {g : Nat} {v : Value} (h : W.cell? ⟨g, 0, none⟩ = some v) : g < W.heap.size := by
  apply Classical.byContradiction
  intro hc
  simp only [World.cell?] at h
  rw [Array.getElem?_eq_none (by omega)] at h
  cases h

theorem law_outE {W : World} {L : List (String × DataW Unit)} (hsh : W.ShapedOpen Tryd.prog) (hL : laidMet Tryd.prog L W)
    (hn : (errNames.all fun n => L.any fun x => x.1 == n && isSent x.2) = true) : ∃ O : Out, GOkE O ∧ O.Glob (fun b => b < W.heap.size) W := by
  obtain ⟨m, hm⟩ := Tryd.laysM155.s1_3 W hsh
  have hm : W.cell? ⟨18, 0, none⟩ = some (.int .i64 m) := hm
  obtain ⟨ps, hv, hnd, hrows⟩ := hL
  obtain ⟨h1, h2⟩ := laid_ads L ps hv hnd hrows names_types
  have hin : ∀ n ∈ errNames, ∃ t, (n, sent t) ∈ L := fun n hn' => by
    obtain ⟨x, hx, hx2⟩ := List.any_eq_true.1 (List.all_eq_true.1 hn n hn')
    simp only [Bool.and_eq_true, beq_iff_eq] at hx2
    obtain ⟨t, ht⟩ := isSent_ok hx2.2
    exact ⟨t, by rw [← hx2.1, ← ht]; exact hx⟩
  have hnodup : errNames.Nodup := by decide
  have hvar : ∀ n ∈ errNames, W.var? Tryd.prog n = some #[.iface 178 (.pointer (some (adOf W n)))] ∧ ∃ c t, W.heap[(adOf W n).block]? = some (.cells c t (0, 0)) := fun n hn' => by
    obtain ⟨t, ht⟩ := hin n hn'
    obtain ⟨h3, h4⟩ := h1 _ ht hn' t rfl
    exact ⟨h3, (hrows _ _ h4).1⟩
  have hne : ∀ a ∈ errNames, ∀ b ∈ errNames, a ≠ b → adOf W a ≠ adOf W b := fun a ha b hb hab => by
    obtain ⟨t, ht⟩ := hin a ha
    obtain ⟨t', ht'⟩ := hin b hb
    exact pw_sym (R := fun x y => x.1 ∈ errNames → y.1 ∈ errNames → ∀ t t', x.2 = sent t → y.2 = sent t' → adOf W x.1 ≠ adOf W y.1) (fun x y h hy hx t t' e e' => (h hx hy t' t e' e).symm) h2 _ ht _ ht' (fun e => hab (congrArg Prod.fst e)) ha hb t t' rfl rfl
  have hlen : errNames.length = 18 := rfl
  have hev : ∀ k (hk : k < 18), (outE W m).ev k = .iface 178 (.pointer (some (adOf W (errNames[k]'(by omega))))) := fun k hk => by
    show (match errNames[k]? with | some n => _ | none => _) = _
    rw [List.getElem?_eq_getElem (by omega)]
  have hmem : ∀ k (hk : k < 18), errNames[k]'(by omega) ∈ errNames := fun k hk => List.getElem_mem _
  have hidx : ∀ k g, errVars[k]? = some g → g ≠ 18 ∧ errVars.idxOf? g = some k := by
    have : ∀ k : Fin 18, ∀ g, errVars[k.val]? = some g → g ≠ 18 ∧ errVars.idxOf? g = some k.val := by decide
    intro k g hg
    have hk : k < 18 := (List.getElem?_eq_some_iff.1 hg).1
    exact this ⟨k, hk⟩ g hg
  refine ⟨outE W m, { maxLen := ⟨m, rfl⟩, ptr := fun k hk => ⟨_, hev k hk, _, hmem k hk, rfl⟩, inj := fun i j hi hj e => ?_, var := fun k g hg => ?_ }, fun g v hg => ?_, ?_⟩
  · rw [hev i hi, hev j hj] at e
    have e' : adOf W (errNames[i]'(by omega)) = adOf W (errNames[j]'(by omega)) := by simpa using e
    apply Classical.byContradiction
    intro hij
    exact hne _ (hmem i hi) _ (hmem j hj) (fun e2 => hij ((List.getElem_inj hnodup).1 e2)) e'
  · obtain ⟨h3, h4⟩ := hidx k g hg
    show (if g = 18 then _ else match errVars.idxOf? g with | some k => _ | none => none) = _
    rw [if_neg h3, h4]
    rfl
  · have hg' : (if g = 18 then some (.int .i64 m) else match errVars.idxOf? g with | some k => some ((outE W m).ev k) | none => none) = some v := hg
    by_cases e : g = 18
    · subst e
      rw [if_pos rfl] at hg'
      cases hg'
      exact ⟨cell_lt hm, hm⟩
    · rw [if_neg e] at hg'
      cases hk : errVars.idxOf? g with
      | none => rw [hk] at hg'; cases hg'
      | some k =>
        rw [hk] at hg'
        have hgk : errVars[k]? = some g := by
          obtain ⟨hlt, h5, _⟩ := List.idxOf?_eq_some_iff.1 hk
          rw [List.getElem?_eq_getElem hlt]
          simpa using h5
        have hk18 : k < 18 := (List.getElem?_eq_some_iff.1 hgk).1
        have hv2 : (outE W m).ev k = v := by simpa using hg'
        rw [hev k hk18] at hv2
        have hgn : Tryd.prog.globalNamed (errNames[k]'(by omega)) = some g := by
          have := congrArg (fun l => l[k]?) names_vars
          simp only [List.getElem?_map, hgk, List.getElem?_eq_getElem (show k < errNames.length by omega), Option.map_some, Option.some.injEq] at this
          exact this
        have hc := World.var?_cell hgn (hvar _ (hmem k hk18)).1 0
        have hc' : W.cell? ⟨g, 0, none⟩ = some v := by rw [← hv2]; simpa using hc
        exact ⟨cell_lt hc', hc'⟩
  · rintro b ⟨n, hn', rfl⟩
    obtain ⟨c, t, h3⟩ := (hvar n hn').2
    exact ⟨(Array.getElem?_eq_some_iff.1 h3).1, c, t, h3⟩

theorem pIndexByteE.ok {U : Univ} (O : Out) (hO : GOkE O) (k : Nat) (s : List UInt8) (c : Int) (out : Int) (h : pIndexByte.f k s c = some out) :
    COk U O Tryd.prog 78 { ar := [.p .str s, .p (.int .u8) c], r := .p (.int .i64) out } := pIndexByte.ok O hO.toGOk k s c out h
theorem pReplaceAllE.ok {U : Univ} (O : Out) (hO : GOkE O) (k : Nat) (s old new : List UInt8) (out : List UInt8) (h : pReplaceAll.f k s old new = some out) :
    COk U O Tryd.prog 60 { ar := [.p .str s, .p .str old, .p .str new], r := .p .str out } := pReplaceAll.ok O hO.toGOk k s old new out h

/-- errors.Is between two errors that are known. -/
def pIs.f (k : Nat) (e x : Nat) : Option Bool := if 0 < e ∧ e ≤ 18 ∧ 0 < x ∧ x ≤ 18 then some (e == x) else none

theorem pIs.ok {U : Univ} (O : Out) (hO : GOkE O) (k : Nat) (e x : Nat) (out : Bool) (h : pIs.f k e x = some out) :
    COk U O Tryd.prog 64 { ar := [.p .err e, .p .err x], r := .p .bool out } := by
  intro S ι w vs hlt hgl has hbs hown
  unfold pIs.f at h
  split at h
  · rename_i hc
    cases h
    obtain ⟨i, rfl⟩ : ∃ i, e = i + 1 := ⟨e - 1, by omega⟩
    obtain ⟨j, rfl⟩ : ∃ j, x = j + 1 := ⟨x - 1, by omega⟩
    simp only [VVs, VV.err_iff] at has
    obtain ⟨u0, us0, rfl, h0, u1, us1, rfl, h1, rfl⟩ := has
    rcases h0 with ⟨h0, _⟩ | ⟨i', h0, rfl⟩
    · omega
    rcases h1 with ⟨h1, _⟩ | ⟨j', h1, rfl⟩
    · omega
    obtain rfl : i' = i := by omega
    obtain rfl : j' = j := by omega
    obtain ⟨a, ha, hpa⟩ := hO.ptr i' (by omega)
    obtain ⟨b, hb, hpb⟩ := hO.ptr j' (by omega)
    by_cases hij : i' = j'
    · subst hij
      rw [ha]
      refine (is_same a w).mono fun e w' ⟨he, hw⟩ => ?_
      subst hw
      exact ⟨_, S, ι, he, Nx.refl _ rfl rfl hlt, by rw [VV.bool_iff]; simp⟩
    · have hne : a ≠ b := fun e => hij (hO.inj i' j' (by omega) (by omega) (by rw [ha, hb, e]))
      obtain ⟨ca, ta, h3⟩ := (hgl.2 _ hpa).2
      obtain ⟨cb, tb, h4⟩ := (hgl.2 _ hpb).2
      rw [ha, hb]
      refine (is_other a b ca cb ta tb w hne h3 h4).mono fun e w' ⟨he, hw⟩ => ?_
      subst hw
      exact ⟨_, S, ι, he, Nx.refl _ rfl rfl hlt, by rw [VV.bool_iff]; simp; exact hij⟩
  · cases h
end Go.Proofs.YtfeaegjlhpgdmaaDoor
