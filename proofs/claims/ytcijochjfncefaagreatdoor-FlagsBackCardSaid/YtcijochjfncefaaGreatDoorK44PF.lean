/- A part of a proof: PF. -/
import Derived.Test.YtcijochjfncefaaGreatDoorRows
import Derived.Lib.LaidTab
import Derived.Lib.AppendIntMem
import Derived.LaidSub
import Derived.Test.YtcijochjfncefaaGreatDoorK44TryzShelf
import Derived.Test.YtcijochjfncefaaGreatDoorK44Am3
import Derived.Test.YtcijochjfncefaaGreatDoorK44Am2
import Derived.Stop.LaidErr
import Derived.LaidLaws
import Derived.Lib.Join
import Derived.Lib.SplitLaws
namespace Go.Proofs.YtcijochjfncefaaGreatDoor
open Go Go.AM Go.RowKit Go.ChangeShapes Go.Shelf
set_option linter.unusedVariables false
set_option linter.unusedSimpArgs false
set_option maxRecDepth 100000

def errNames : List String := ["millwright/api.ErrRange", "millwright/api.ErrLong", "millwright/api.ErrForm", "millwright/api.ErrName", "millwright/api.ErrQuote", "millwright/api.ErrRegex", "millwright/api.ErrAttr", "millwright/api.ErrNone", "millwright/api.ErrDup", "millwright/api.ErrFull", "millwright/api.ErrDepth", "millwright/api.ErrCycle", "millwright/api.ErrAmbig", "millwright/api.ErrState", "millwright/api.ErrFail", "millwright/api.ErrFlag", "millwright/api.ErrKind", "millwright/api.ErrLost"]
def sent (t : List UInt8) : DataW Unit := .iface "*errors.errorString" (.ptr (.agg [.lit (.string t)]))

noncomputable def adOf (W : World) (n : String) : Addr := @Classical.epsilon Addr ⟨⟨0, 0, none⟩⟩ fun a => W.var? Tryz.prog n = some #[.iface 167 (.pointer (some a))]

theorem star : "*" ++ "errors.errorString" = "*errors.errorString" := by decide
theorem row167 (u : TypeId) (h : Tryz.prog.typeName? 3 u = some "*errors.errorString") : u = 167 :=
  typeName_ptr_named (nm := "errors.errorString") (by rw [star]; kernel_rfl) (by kernel_rfl) (by decide) u (by rw [star]; exact h)

theorem laid_ads {W : World} : ∀ (L : List (String × DataW Unit)) (ps : List MemPlace), DataW.LaidVars Tryz.prog W L ps → ps.Nodup →
    (∀ b off, MemPlace.cell b off ∈ ps → (∃ c t, W.heap[b]? = some (.cells c t (0, 0))) ∧ ∀ u v, W.cell? ⟨b, off, none⟩ = some (.iface u v) → Value.okWide Tryz.prog W .any 0 u v) →
    (∀ n ∈ errNames, ∀ g, Tryz.prog.globalNamed n = some g → (Tryz.prog.globals[g]?).map (·.type) = some 30) →
    (∀ x ∈ L, x.1 ∈ errNames → ∀ t, x.2 = sent t → W.var? Tryz.prog x.1 = some #[.iface 167 (.pointer (some (adOf W x.1)))] ∧ MemPlace.cell (adOf W x.1).block (adOf W x.1).off ∈ ps) ∧
      L.Pairwise fun x y => x.1 ∈ errNames → y.1 ∈ errNames → ∀ t t', x.2 = sent t → y.2 = sent t' → adOf W x.1 ≠ adOf W y.1
  | [], ps, _, _, _, _ => ⟨fun x hx => (by cases hx), List.Pairwise.nil⟩
  | (n, d) :: r, ps, ⟨g, ty, cs, fuel, p, q, hg, ht, hv, hd, hq, e⟩, hnd, hrows, hty => by
    subst e
    have hndq : q.Nodup := List.Nodup.sublist (List.sublist_append_right _ _) hnd
    obtain ⟨h1, h2⟩ := laid_ads r q hq hndq (fun b off hm => hrows b off (List.mem_append_right _ hm)) hty
    have hhead : n ∈ errNames → ∀ t, d = sent t → W.var? Tryz.prog n = some #[.iface 167 (.pointer (some (adOf W n)))] ∧ MemPlace.cell (adOf W n).block (adOf W n).off ∈ p := by
      intro hn t hdt
      subst hdt
      have ht54 := hty n hn g hg
      rw [ht] at ht54
      obtain rfl := Option.some.inj ht54
      obtain ⟨l0⟩ := cs
      have ok0 : ∀ u v, l0 = [.iface u v] → Value.okWide Tryz.prog W .any 0 u v := fun u v e => by
        subst e
        exact (hrows g 0 (by simp [MemPlace.row])).2 u v (by simpa using World.var?_cell hg hv 0)
      obtain ⟨a, s, rfl, hc, hs, hz, rfl⟩ := errorString_of_trod Tryz.underlying30 row167 Tryz.underlying167 Tryz.underlying168 rfl rfl Tryz.underlying9 (by kernel_rfl) (by kernel_rfl) hd ok0
      have had : adOf W n = a := by
        have h5 : W.var? Tryz.prog n = some #[.iface 167 (.pointer (some (adOf W n)))] := Classical.epsilon_spec (p := fun a => W.var? Tryz.prog n = some #[.iface 167 (.pointer (some a))]) ⟨a, hv⟩
        rw [hv] at h5
        simpa using h5.symm
      rw [had]
      exact ⟨hv, by simp [MemPlace.row]⟩
    refine ⟨fun x hx hn t hxt => ?_, List.Pairwise.cons (fun y hy hn hn' t t' hxt hyt e => ?_) h2⟩
    · rcases List.mem_cons.1 hx with rfl | hx
      · obtain ⟨h3, h4⟩ := hhead hn t hxt
        exact ⟨h3, List.mem_append_left _ (List.mem_append_right _ h4)⟩
      · obtain ⟨h3, h4⟩ := h1 x hx hn t hxt
        exact ⟨h3, List.mem_append_right _ h4⟩
    · have h3 := (hhead hn t hxt).2
      have h4 := (h1 y hy hn' t' hyt).2
      simp only at e
      rw [e] at h3
      exact (List.nodup_append.1 hnd).2.2 _ (List.mem_append_right _ h3) _ h4 rfl

def isSent : DataW Unit → Bool
  | .iface nm (.ptr (.agg [.lit (.string _)])) => nm == "*errors.errorString"
  | _ => false
theorem isSent_ok {d : DataW Unit} (h : isSent d = true) : ∃ t, d = sent t := by
  unfold isSent at h
  split at h
  · rename_i nm t
    exact ⟨t, by rw [eq_of_beq h]; rfl⟩
  · cases h


theorem names_types : ∀ n ∈ errNames, ∀ g, Tryz.prog.globalNamed n = some g → (Tryz.prog.globals[g]?).map (·.type) = some 30 := by
  have h : (errNames.all fun n => match Tryz.prog.globalNamed n with | none => true | some g => (Tryz.prog.globals[g]?).map (·.type) == some 30) = true := by kernel_rfl
  intro n hn g hg
  have := List.all_eq_true.1 h n hn
  rw [hg] at this
  simpa using this

theorem cell_lt {W : World} {g : Nat} {v : Value} (h : W.cell? ⟨g, 0, none⟩ = some v) : g < W.heap.size := by
  apply Classical.byContradiction
  intro hc
  simp only [World.cell?] at h
  rw [Array.getElem?_eq_none (by omega)] at h
  cases h



def errVar : Nat → Option Nat
  | 0 => some 1
  | 1 => some 2
  | 3 => some 4
  | 4 => some 5
  | 9 => some 10
  | 15 => some 0
  | _ => none
theorem tab_block {P : Program} {W : World} {name : String} {k : IntKind} {zs : List Int} {d : DataW Unit} {rest : List (String × DataW Unit)} {g : Nat} (hg : P.globalNamed name = some g) (h : laidMet P ((name, d) :: rest) W) (ht : Lib.TabIs P W name k zs) (hz : zs ≠ []) :
    ∃ t, W.heap[g]? = some (.cells (zs.map fun z => Value.int k z).toArray t (0, 0)) := by
  obtain ⟨ps, ⟨g', t', cs, fuel, p, q, hg', ht', hvar, hd, _, e⟩, _, hrows⟩ := h
  obtain rfl := Option.some.inj (hg.symm.trans hg')
  subst e
  have hcs : cs = (zs.map fun z => Value.int k z).toArray := Option.some.inj (hvar.symm.trans ht)
  have hzl : 0 < zs.length := List.length_pos_iff.2 hz
  have hsz : 0 < cs.size := by rw [hcs]; simpa using hzl
  obtain ⟨⟨c, t, h3⟩, _⟩ := hrows g 0 (by simp [MemPlace.row]; omega)
  refine ⟨t, ?_⟩
  have hv := hvar
  simp only [World.var?, hg, Option.bind_some, h3] at hv
  rw [h3, ← hcs, Option.some.inj hv]
def tabArr : Array Value := (Lib.pow10Tab.map fun z => Value.int .u64 z).toArray
structure GOk (O : Out) : Prop where
  var : ∀ k g, errVar k = some g → O.gl g = some (O.ev k)
  maxLen : ∃ m, O.gl 18 = some (.int .i64 m)
  tab : O.gc 23 = some tabArr
  synE : ∃ T v, O.gl 19 = some (.iface T v)
  rngE : ∃ T v, O.gl 20 = some (.iface T v)
noncomputable def outE0 (W : World) (k : Nat) : Value := match errNames[k]? with | some n => .iface 167 (.pointer (some (adOf W n))) | none => .iface 0 (.bool false)
noncomputable def outE (W : World) (m : Int) (xS xR : Addr) : Out where
  ev := outE0 W
  ev_one k := by unfold outE0; cases errNames[k]? <;> rfl
  ev_if k := by unfold outE0; cases errNames[k]? <;> exact ⟨_, _, rfl⟩
  gl g := if g = 18 then some (.int .i64 m) else if g = 19 then some (.iface 167 (.pointer (some xS))) else if g = 20 then some (.iface 167 (.pointer (some xR))) else if g = 1 then some (outE0 W 0) else if g = 2 then some (outE0 W 1) else if g = 4 then some (outE0 W 3) else if g = 5 then some (outE0 W 4) else if g = 10 then some (outE0 W 9) else if g = 0 then some (outE0 W 15) else none
  gc g := if g = 23 then some tabArr else none
theorem ite_one {α : Type} {p : Prop} [Decidable p] {a v : α} {r : Option α} {Q : Prop} (h : (if p then some a else r) = some v) (h1 : p → a = v → Q) (h2 : r = some v → Q) : Q := by
  by_cases hp : p
  · rw [if_pos hp] at h; exact h1 hp (Option.some.inj h)
  · rw [if_neg hp] at h; exact h2 h
theorem law_out {W : World} {L : List (String × DataW Unit)} (hsh : W.ShapedOpen Tryz.prog) (hL : laidMet Tryz.prog L W)
    (hn : (["millwright/api.ErrRange", "millwright/api.ErrLong", "millwright/api.ErrName", "millwright/api.ErrQuote", "millwright/api.ErrFull", "millwright/api.ErrFlag"].all fun n => L.any fun x => x.1 == n && isSent x.2) = true)
    (hT : (L.filter fun x => x.1 == "internal/strconv.uint64pow10") = [("internal/strconv.uint64pow10", Lib.tabData .u64 Lib.pow10Tab)])
    (hcS : (L.filter fun x => x.1 == "strconv.ErrSyntax") = [("strconv.ErrSyntax", .iface "*errors.errorString" (.ptr (.agg [.lit (.string [105, 110, 118, 97, 108, 105, 100, 32, 115, 121, 110, 116, 97, 120])])))])
    (hcR : (L.filter fun x => x.1 == "strconv.ErrRange") = [("strconv.ErrRange", .iface "*errors.errorString" (.ptr (.agg [.lit (.string [118, 97, 108, 117, 101, 32, 111, 117, 116, 32, 111, 102, 32, 114, 97, 110, 103, 101])])))]) : ∃ O : Out, GOk O ∧ O.Glob (fun b => b < W.heap.size) W := by
  have lT := hL.filter fun x => x.1 == "internal/strconv.uint64pow10"
  rw [hT] at lT
  have tab : Lib.TabIs Tryz.prog W "internal/strconv.uint64pow10" .u64 Lib.pow10Tab :=
    Lib.tabIs_of_head (g := 23) (t := 171) (e := 152) (n := 20) (by kernel_rfl) (by kernel_rfl) Tryz.underlying171 Tryz.underlying152 (by kernel_rfl) (by kernel_rfl) lT
  have tb := tab_block (g := 23) (by kernel_rfl) lT tab (by decide)
  have lcS := hL.filter fun x => x.1 == "strconv.ErrSyntax"
  rw [hcS] at lcS
  obtain ⟨xS, _, vcS, _⟩ := laid_sentinel (P := Tryz.prog) (g := 19) (ti := 30) (tp := 167) (te := 169) (ts := 9) lcS (by kernel_rfl) (by kernel_rfl) Tryz.underlying30 row167 Tryz.underlying167 Tryz.underlying168 rfl rfl Tryz.underlying9 (by kernel_rfl) (by kernel_rfl)
  have cS : W.cell? ⟨19, 0, none⟩ = some (.iface 167 (.pointer (some xS))) := by simpa using World.var?_cell (show Tryz.prog.globalNamed "strconv.ErrSyntax" = some 19 by kernel_rfl) vcS 0
  have lcR := hL.filter fun x => x.1 == "strconv.ErrRange"
  rw [hcR] at lcR
  obtain ⟨xR, _, vcR, _⟩ := laid_sentinel (P := Tryz.prog) (g := 20) (ti := 30) (tp := 167) (te := 169) (ts := 9) lcR (by kernel_rfl) (by kernel_rfl) Tryz.underlying30 row167 Tryz.underlying167 Tryz.underlying168 rfl rfl Tryz.underlying9 (by kernel_rfl) (by kernel_rfl)
  have cR : W.cell? ⟨20, 0, none⟩ = some (.iface 167 (.pointer (some xR))) := by simpa using World.var?_cell (show Tryz.prog.globalNamed "strconv.ErrRange" = some 20 by kernel_rfl) vcR 0
  obtain ⟨m, hm⟩ := Tryz.laysM219.s1_3 W hsh
  have hm : W.cell? ⟨18, 0, none⟩ = some (.int .i64 m) := hm
  obtain ⟨ps, hv, hnd, hrows⟩ := hL
  obtain ⟨h1, h2⟩ := laid_ads L ps hv hnd hrows names_types
  have cell : ∀ n g, n ∈ ["millwright/api.ErrRange", "millwright/api.ErrLong", "millwright/api.ErrName", "millwright/api.ErrQuote", "millwright/api.ErrFull", "millwright/api.ErrFlag"] → n ∈ errNames → Tryz.prog.globalNamed n = some g →
      g < W.heap.size ∧ W.cell? ⟨g, 0, none⟩ = some (.iface 167 (.pointer (some (adOf W n)))) := fun n g hm hne hg => by
    obtain ⟨x, hx, hx2⟩ := List.any_eq_true.1 (List.all_eq_true.1 hn n hm)
    simp only [Bool.and_eq_true, beq_iff_eq] at hx2
    obtain ⟨t, ht⟩ := isSent_ok hx2.2
    have hvar := (h1 (n, sent t) (by rw [← hx2.1, ← ht]; exact hx) hne t rfl).1
    have hc := World.var?_cell hg hvar 0
    have hc' : W.cell? ⟨g, 0, none⟩ = some (.iface 167 (.pointer (some (adOf W n)))) := by simpa using hc
    exact ⟨cell_lt hc', hc'⟩
  refine ⟨outE W m xS xR, { var := fun k g hg => ?_, maxLen := ⟨m, rfl⟩, tab := rfl, synE := ⟨_, _, rfl⟩, rngE := ⟨_, _, rfl⟩ }, fun g v hg => ?_, fun b hb => False.elim hb, fun g arr hg => by
      have hg' : (if g = 23 then some tabArr else none) = some arr := hg
      refine ite_one hg' (fun e e2 => ?_) (fun h => by cases h)
      subst e; subst e2
      obtain ⟨t, ht⟩ := tb
      exact ⟨(Array.getElem?_eq_some_iff.1 ht).1, t, ht⟩⟩
  · unfold errVar at hg
    split at hg <;> cases hg <;> rfl
  · have hg' : (if g = 18 then some (.int .i64 m) else if g = 19 then some (.iface 167 (.pointer (some xS))) else if g = 20 then some (.iface 167 (.pointer (some xR))) else if g = 1 then some (outE0 W 0) else if g = 2 then some (outE0 W 1) else if g = 4 then some (outE0 W 3) else if g = 5 then some (outE0 W 4) else if g = 10 then some (outE0 W 9) else if g = 0 then some (outE0 W 15) else none) = some v := hg
    refine ite_one hg' (fun e e2 => by subst e; subst e2; exact ⟨cell_lt hm, hm⟩) fun hg' => ?_
    refine ite_one hg' (fun e e2 => by subst e; subst e2; exact ⟨cell_lt cS, cS⟩) fun hg' => ?_
    refine ite_one hg' (fun e e2 => by subst e; subst e2; exact ⟨cell_lt cR, cR⟩) fun hg' => ?_
    refine ite_one hg' (fun e e2 => by subst e; subst e2; exact cell "millwright/api.ErrRange" 1 (by simp) (by decide) (by kernel_rfl)) fun hg' => ?_
    refine ite_one hg' (fun e e2 => by subst e; subst e2; exact cell "millwright/api.ErrLong" 2 (by simp) (by decide) (by kernel_rfl)) fun hg' => ?_
    refine ite_one hg' (fun e e2 => by subst e; subst e2; exact cell "millwright/api.ErrName" 4 (by simp) (by decide) (by kernel_rfl)) fun hg' => ?_
    refine ite_one hg' (fun e e2 => by subst e; subst e2; exact cell "millwright/api.ErrQuote" 5 (by simp) (by decide) (by kernel_rfl)) fun hg' => ?_
    refine ite_one hg' (fun e e2 => by subst e; subst e2; exact cell "millwright/api.ErrFull" 10 (by simp) (by decide) (by kernel_rfl)) fun hg' => ?_
    refine ite_one hg' (fun e e2 => by subst e; subst e2; exact cell "millwright/api.ErrFlag" 0 (by simp) (by decide) (by kernel_rfl)) fun hg' => ?_
    cases hg'

def pItoa.f (k : Nat) (n : Int) : Option (List UInt8) := if -9223372036854775808 ≤ n ∧ n ≤ 9223372036854775807 then some (Lib.itoa n) else none
theorem pItoa.ok {U : Univ} (O : Out) (hO : GOk O) (k : Nat) (n : Int) (out : List UInt8) (h : pItoa.f k n = some out) :
    COk U O Tryz.prog 86 { ar := [.p (.int .i64) n], r := .p .str out } := by
  unfold pItoa.f at h
  split at h
  case isFalse => cases h
  rename_i hn
  cases h
  intro S ι w vs hlt hgl has hbs hown
  simp only [VVs, VV.int_iff] at has
  obtain ⟨u0, us0, rfl, rfl, rfl⟩ := has
  obtain ⟨t, ht⟩ := (hgl.2.2 _ _ hO.tab).2
  have htab : Lib.TabIs Tryz.prog w "internal/strconv.uint64pow10" .u64 Lib.pow10Tab := by
    unfold Lib.TabIs World.var?
    rw [show Tryz.prog.globalNamed "internal/strconv.uint64pow10" = some 23 by kernel_rfl]
    simp only [Option.bind_some, ht]
    rfl
  refine (Tryz.strconv_Itoa n hn.1 hn.2 w htab).mono fun e w' ⟨he, q, os, hw⟩ => ?_
  subst hw
  exact ⟨_, S, ι, he, Nx.ofBelow (Go.Lib.below_grow _ w (Nat.le_refl _) q os) rfl rfl hlt, VV.str_iff.2 ⟨_, rfl, rfl⟩⟩

def pAtoi.f (k : Nat) (s : List UInt8) : Option (Int × Nat) :=
  if s.length ≤ 281474976710656 then some (match Lib.atoiAll s with | .ok v => (v, 0) | .range => (Lib.atoiSat s, unkE) | _ => (0, unkE)) else none
theorem pAtoi.ok {U : Univ} (O : Out) (hO : GOk O) (k : Nat) (s : List UInt8) (out : Int × Nat) (h : pAtoi.f k s = some out) :
    COk U O Tryz.prog 85 { ar := [.p .str s], r := .tup [.p (.int .i64) out.1, .p .err out.2] } := by
  unfold pAtoi.f at h
  split at h
  case isFalse => cases h
  rename_i hn
  intro S ι w vs hlt hgl has hbs hown
  simp only [VVs, VV.str_iff] at has
  obtain ⟨u0, us0, rfl, ⟨b0, rfl, rfl⟩, rfl⟩ := has
  have hsz : b0.size ≤ 281474976710656 := by rw [← Array.length_toList] at *; exact hn
  cases hA : Lib.atoiAll b0.data.toList
  case ok v =>
    rw [hA] at h
    cases h
    refine (Tryz.strconv_Atoi_ok b0 (by omega) v hA w).mono fun e w' ⟨he, hw⟩ => ?_
    have hb : Below w.heap.size w w' := by
      rcases hw with rfl | ⟨t, rfl⟩
      · exact Below.refl _ _
      · exact Lib.bytesWorld_below _ _ _
    exact ⟨_, S, ι, he, Nx.ofBelow hb rfl rfl hlt, ⟨_, ⟨_, _, rfl, VV.int_iff.2 rfl, _, _, rfl, VV.err_iff.2 (.inl ⟨rfl, rfl⟩), rfl⟩, rfl⟩⟩
  case range =>
    rw [hA] at h
    cases h
    obtain ⟨T, v, hv⟩ := hO.rngE
    refine (Tryz.strconv_Atoi_range b0 hsz hA _ w (hgl.1 _ _ hv).2 (.inr ⟨_, _, rfl⟩)).mono fun e w' ⟨q, he, _, _, hb⟩ => ?_
    exact ⟨_, S, ι, he, Nx.ofBelow hb rfl rfl hlt, ⟨_, ⟨_, _, rfl, VV.int_iff.2 rfl, _, _, rfl, VV.err_iff.2 (.inr (.inr ⟨rfl, _, _, rfl⟩)), rfl⟩, rfl⟩⟩
  rw [hA] at h
  cases h
  obtain ⟨T, v, hv⟩ := hO.synE
  refine (Tryz.strconv_Atoi_syntax b0 hsz hA _ w (hgl.1 _ _ hv).2 (.inr ⟨_, _, rfl⟩)).mono fun e w' ⟨q, he, _, _, hb⟩ => ?_
  exact ⟨_, S, ι, he, Nx.ofBelow hb rfl rfl hlt, ⟨_, ⟨_, _, rfl, VV.int_iff.2 rfl, _, _, rfl, VV.err_iff.2 (.inr (.inr ⟨rfl, _, _, rfl⟩)), rfl⟩, rfl⟩⟩

def pIndexByte.f (k : Nat) (s : List UInt8) (c : Int) : Option Int := some (Lib.indexByte s c.toNat.toUInt8)
theorem pIndexByte.ok {U : Univ} (O : Out) (hO : GOk O) (k : Nat) (s : List UInt8) (c : Int) (out : Int) (h : pIndexByte.f k s c = some out) :
    COk U O Tryz.prog 73 { ar := [.p .str s, .p (.int .u8) c], r := .p (.int .i64) out } := by
  intro S ι w vs hlt hgl has hbs hown
  simp only [VVs, VV.str_iff, VV.int_iff] at has
  obtain ⟨u0, us0, rfl, ⟨b0, rfl, rfl⟩, u1, us1, rfl, rfl, rfl⟩ := has
  cases h
  refine (Tryz.strings_IndexByte b0 c w).mono fun e w' ⟨he, hw⟩ => ?_
  subst hw
  exact ⟨_, S, ι, he, Nx.refl _ rfl rfl hlt, VV.int_iff.2 rfl⟩

def pIndex.f (k : Nat) (s t : List UInt8) : Option Int := if s.length < 4294967281 then some (Lib.index s t) else none
theorem pIndex.ok {U : Univ} (O : Out) (hO : GOk O) (k : Nat) (s t : List UInt8) (out : Int) (h : pIndex.f k s t = some out) :
    COk U O Tryz.prog 64 { ar := [.p .str s, .p .str t], r := .p (.int .i64) out } := by
  unfold pIndex.f at h
  split at h
  case isFalse => cases h
  rename_i hn
  cases h
  intro S ι w vs hlt hgl has hbs hown
  simp only [VVs, VV.str_iff] at has
  obtain ⟨u0, us0, rfl, ⟨b0, rfl, rfl⟩, u1, us1, rfl, ⟨b1, rfl, rfl⟩, rfl⟩ := has
  obtain ⟨m, hm⟩ := hO.maxLen
  refine (Tryz.strings_Index b0 b1 m w (by simpa using hn) (hgl.1 _ _ hm).2).mono fun e w' ⟨he, hw⟩ => ?_
  subst hw
  exact ⟨_, S, ι, he, Nx.refl _ rfl rfl hlt, VV.int_iff.2 rfl⟩

def pIndexL.f (k : Nat) (s t : List UInt8) : Option Int := if s.length < 4294967281 then some (Lib.index s t) else none
theorem pIndexL.ok {U : Univ} (O : Out) (hO : GOk O) (k : Nat) (s t : List UInt8) (out : Int) (h : pIndexL.f k s t = some out) :
    COk U O Tryz.prog 83 { ar := [.p .str s, .p .str t], r := .p (.int .i64) out } := by
  unfold pIndexL.f at h
  split at h
  case isFalse => cases h
  rename_i hn
  cases h
  intro S ι w vs hlt hgl has hbs hown
  simp only [VVs, VV.str_iff] at has
  obtain ⟨u0, us0, rfl, ⟨b0, rfl, rfl⟩, u1, us1, rfl, ⟨b1, rfl, rfl⟩, rfl⟩ := has
  obtain ⟨m, hm⟩ := hO.maxLen
  refine (Tryz.stringslite_Index b0 b1 m w (by simpa using hn) (hgl.1 _ _ hm).2).mono fun e w' ⟨he, hw⟩ => ?_
  subst hw
  exact ⟨_, S, ι, he, Nx.refl _ rfl rfl hlt, VV.int_iff.2 rfl⟩

def pReplaceAll.f (k : Nat) (s old new : List UInt8) : Option (List UInt8) :=
  if s.length < 4294967281 ∧ 1 ≤ old.length ∧ s.length + Lib.countB ⟨s.toArray⟩ ⟨old.toArray⟩ * new.length ≤ 140737488355328 then some (Lib.replaceAll s old new) else none
theorem ba_size (b : ByteArray) : b.data.toList.length = b.size := by rw [Array.length_toList]; rfl
theorem pReplaceAll.ok {U : Univ} (O : Out) (hO : GOk O) (k : Nat) (s old new : List UInt8) (out : List UInt8) (h : pReplaceAll.f k s old new = some out) :
    COk U O Tryz.prog 82 { ar := [.p .str s, .p .str old, .p .str new], r := .p .str out } := by
  intro S ι w vs hlt hgl has hbs hown
  simp only [VVs, VV.str_iff] at has
  obtain ⟨u0, us0, rfl, ⟨b0, rfl, rfl⟩, u1, us1, rfl, ⟨b1, rfl, rfl⟩, u2, us2, rfl, ⟨b2, rfl, rfl⟩, rfl⟩ := has
  unfold pReplaceAll.f at h
  split at h
  · rename_i hc
    cases h
    obtain ⟨m, hm⟩ := hO.maxLen
    simp only [ba_size] at hc
    refine (Tryz.strings_ReplaceAll b0 b1 b2 m w hc.1 (hgl.1 _ _ hm).2 hc.2.1 hc.2.2).mono fun e w' ⟨he, hw⟩ => ?_
    exact ⟨_, S, ι, he, Nx.ofBelow hw rfl rfl hlt, VV.str_iff.2 ⟨_, rfl, rfl⟩⟩
  · cases h

theorem rd_strJ {U : Univ} {O : Out} {S : Nat → Prop} {w : World} {x : List UInt8} {cs : List Value} (h : Rd U O S w .str x cs) : ∃ q : ByteArray, x = q.data.toList ∧ cs = [.string q] := by
  cases h; exact ⟨_, rfl, rfl⟩

def pJoin.f (k : Nat) (xs : List (List UInt8)) (sep : List UInt8) : Option (List UInt8) :=
  if xs.length ≤ 140737488355328 ∧ (Lib.join xs sep).length ≤ 140737488355328 then some (Lib.join xs sep) else none

theorem pJoin.ok {U : Univ} (O : Out) (hO : GOk O) (k : Nat) (xs : List (List UInt8)) (sep : List UInt8) (out : List UInt8) (h : pJoin.f k xs sep = some out) :
    COk U O Tryz.prog 36 { ar := [.p (.list .str) xs, .p .str sep], r := .p .str out } := by
  unfold pJoin.f at h
  split at h
  case isFalse => cases h
  rename_i hc
  cases h
  intro S ι w vs hlt hgl has hbs hown
  simp only [VVs, VV.str_iff] at has
  obtain ⟨u0, us0, rfl, h0, u1, us1, rfl, ⟨b1, rfl, rfl⟩, rfl⟩ := has
  have fin : ∀ e w', e = Ending.returned (.string ⟨(Lib.join xs b1.data.toList).toArray⟩) ∧ Below w.heap.size w w' → ∃ u S' ι', e = .returned u ∧ Nx U O (CSpec.l { ar := [.p (.list .str) xs, .p .str b1.data.toList], r := .p .str (Lib.join xs b1.data.toList) }) S ι w S' ι' w' ∧ VV U O S' ι' w' (.p .str (Lib.join xs b1.data.toList)) u := fun e w' ⟨he, hw⟩ =>
    ⟨_, S, ι, he, Nx.ofBelow hw rfl rfl hlt, VV.str_iff.2 ⟨_, rfl, by simp⟩⟩
  rcases VV.list_iff.1 h0 with ⟨rfl, rfl⟩ | ⟨rfl, ad, cap, rfl⟩ | ⟨b, o, cap, cs, rfl, hS, hcap, hel, hcell⟩
  · exact (Tryz.strings_Join_none none 0 b1 w).mono fun e w' ⟨he, hw⟩ => fin e w' ⟨he, hw ▸ Below.refl _ _⟩
  · exact (Tryz.strings_Join_none (some ad) cap b1 w).mono fun e w' ⟨he, hw⟩ => fin e w' ⟨he, hw ▸ Below.refl _ _⟩
  · have hcs : ∀ (i : Nat) (hi : i < xs.length), ∃ q : ByteArray, q.data.toList = xs[i] ∧ w.cell? ⟨b, o + i, none⟩ = some (.string q) := fun i hi => by
      have h2 := hcell i 0 hi (by simp [Ty.width])
      obtain ⟨q, h3, h4⟩ := rd_strJ (hel i hi)
      exact ⟨q, h3.symm, by simpa [Ty.width, h4] using h2⟩
    obtain ⟨qs, hq⟩ : ∃ qs : List ByteArray, qs.map (·.data.toList) = xs := ⟨xs.map fun x => ⟨x.toArray⟩, by simp [Function.comp_def]⟩
    have hql : qs.length = xs.length := by rw [← hq]; simp
    have := (Tryz.strings_Join b o cap qs b1 w (fun j x hx => by
      have hj : j < qs.length := (List.getElem?_eq_some_iff.1 hx).1
      obtain ⟨q, h3, h4⟩ := hcs j (by omega)
      rw [h4]
      have h5 : x.data.toList = xs[j]'(by omega) := by
        have := congrArg (fun l => l[j]?) hq
        simp only [List.getElem?_map, hx, Option.map_some] at this
        rw [List.getElem?_eq_getElem (by omega)] at this
        exact Option.some.inj this
      have h6 : q.data.toList = x.data.toList := h3.trans h5.symm
      cases q; cases x
      simp only at h6
      congr 2
      congr 1
      exact Array.toList_inj.1 h6) (hlt b hS) (by rw [hql]; exact hc.1) (by rw [hql]; exact hcap) (by rw [hq]; exact hc.2)).mono fun e w' ⟨he, hw⟩ => fin e w' ⟨by rw [he, hq], hw⟩
    rw [hql] at this
    exact this


def piecesOf (s : List UInt8) (c : UInt8) : List ByteArray := Lib.splitB ⟨#[c]⟩ 0 (Lib.countB ⟨s.toArray⟩ ⟨#[c]⟩) ⟨s.toArray⟩
theorem pieces_get (l : List ByteArray) (i : Nat) (hi : i < (l.map fun q => q.data.toList).length) : ∃ h : i < l.length, (l.map fun q => q.data.toList)[i] = (l[i]'h).data.toList := ⟨by simpa using hi, by simp⟩
def pSplit.f (k : Nat) (s sep : List UInt8) : Option (List (List UInt8)) := match sep with
  | [c] => if s.length < 4294967281 then some ((piecesOf s c).map fun q => q.data.toList) else none
  | _ => none
theorem pSplit.ok {U : Univ} (O : Out) (hO : GOk O) (k : Nat) (s sep : List UInt8) (out : List (List UInt8)) (h : pSplit.f k s sep = some out) :
    COk U O Tryz.prog 89 { ar := [.p .str s, .p .str sep], r := .p (.list .str) out } := by
  unfold pSplit.f at h
  split at h
  case h_2 => cases h
  rename_i c
  split at h
  case isFalse => cases h
  rename_i hl
  cases h
  intro S ι w vs hlt hgl has hbs hown
  simp only [VVs, VV.str_iff] at has
  obtain ⟨u0, us0, rfl, ⟨b0, rfl, rfl⟩, u1, us1, rfl, ⟨b1, rfl, hb1⟩, rfl⟩ := has
  obtain ⟨⟨d0⟩⟩ := b0
  obtain ⟨⟨d1⟩⟩ := b1
  simp only at hb1
  subst hb1
  obtain ⟨m, hm⟩ := hO.maxLen
  have hl : d0.length < 4294967281 := hl
  have h1c : 1 ≤ (⟨#[c]⟩ : ByteArray).size := Nat.le_refl 1
  refine (Tryz.strings_Split ⟨⟨d0⟩⟩ ⟨#[c]⟩ m w hl (hgl.1 _ _ hm).2 h1c).mono fun e w' ⟨he, hw⟩ => ?_
  subst hw
  have hn : (piecesOf d0 c).length = Lib.countB ⟨⟨d0⟩⟩ ⟨#[c]⟩ + 1 := Lib.splitB_all _ h1c 0 _ _ rfl
  have hrow : (w.alloc (.cells ((piecesOf d0 c).map Value.string).toArray 9)).ownsRow w.heap.size 9 (Ty.str.width U.wd) (.slice (some ⟨w.heap.size, 0, none⟩) (Lib.countB ⟨⟨d0⟩⟩ ⟨#[c]⟩ + 1) (Lib.countB ⟨⟨d0⟩⟩ ⟨#[c]⟩ + 1)) (Lib.countB ⟨⟨d0⟩⟩ ⟨#[c]⟩ + 1) ((piecesOf d0 c).map Value.string) := by
    have hle := Lib.countB_le ⟨#[c]⟩ h1c _ ⟨⟨d0⟩⟩ (Nat.le_refl _)
    have hsz : (⟨⟨d0⟩⟩ : ByteArray).size = d0.length := rfl
    refine ⟨by rw [List.length_map, hn]; simp [Ty.width], .inr ⟨w.heap.size, Lib.countB ⟨⟨d0⟩⟩ ⟨#[c]⟩ + 1, ((piecesOf d0 c).map Value.string).toArray, rfl, Nat.le_refl _, heap_alloc_new w _, Nat.le_refl _, by unfold maxLen; omega, by rw [List.size_toArray, List.length_map, hn]; simp [Ty.width], ?_⟩⟩
    rw [List.take_of_length_le (by rw [List.length_map, hn]; simp [Ty.width])]
  obtain ⟨S', h1, h2⟩ := Nx.rowList (U := U) (O := O) (S := S) (ι := ι) (t := .str) (s := CSpec.l { ar := [.p .str d0, .p .str [c]], r := .p (.list .str) ((piecesOf d0 c).map fun q => q.data.toList) }) (xs := (piecesOf d0 c).map fun q => q.data.toList) hrow ((Below.refl _ _).alloc (Nat.le_refl _) _) (hn.symm.trans (List.length_map (fun q : ByteArray => q.data.toList)).symm) rfl rfl hlt fun i hi => by
    obtain ⟨hi', e⟩ := pieces_get (piecesOf d0 c) i hi
    refine ⟨[.string (piecesOf d0 c)[i]], ?_, fun j hj => ?_⟩
    · have h : Rd U O S w .str (piecesOf d0 c)[i].data.toList [.string (piecesOf d0 c)[i]] := .str _
      rw [← e] at h
      exact h
    · have hj0 : j = 0 := by have : j < 1 := hj; omega
      subst hj0
      show ((piecesOf d0 c).map Value.string)[i * 1 + 0]? = some (.string (piecesOf d0 c)[i])
      rw [Nat.mul_one, Nat.add_zero, List.getElem?_map, List.getElem?_eq_getElem hi']; rfl
  exact ⟨_, S', ι, he, h1, h2⟩
end Go.Proofs.YtcijochjfncefaaGreatDoor
