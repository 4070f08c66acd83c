/- A part of the proof of a given law: PH. Own work, printed in part by a program of mine. -/
import Derived.Test.YtcblgpcgdihcbaaGreatDoorRows
import Derived.Lib.LaidTab
import Derived.Lib.AppendIntMem
import Derived.LaidSub
import Derived.Test.YtcblgpcgdihcbaaGreatDoorK20TryzShelf
import Derived.Test.YtcblgpcgdihcbaaGreatDoorK20AmM3
import Derived.Test.YtcblgpcgdihcbaaGreatDoorK20AmM
import Derived.Stop.LaidErr
import Derived.LaidLaws
namespace Go.Proofs.YtcblgpcgdihcbaaGreatDoor
open Go Go.AM Go.RowKit Go.ChangeShapes Go.Shelf
set_option linter.unusedVariables false
set_option linter.unusedSimpArgs false
set_option maxRecDepth 100000

def errNames : List String := ["millwright/api.ErrRange", "millwright/api.ErrLong", "millwright/api.ErrForm", "millwright/api.ErrName", "millwright/api.ErrQuote", "millwright/api.ErrRegex", "millwright/api.ErrAttr", "millwright/api.ErrNone", "millwright/api.ErrDup", "millwright/api.ErrFull", "millwright/api.ErrDepth", "millwright/api.ErrCycle", "millwright/api.ErrAmbig", "millwright/api.ErrState", "millwright/api.ErrFail", "millwright/api.ErrFlag", "millwright/api.ErrKind", "millwright/api.ErrLost"]
def sent (t : List UInt8) : DataW Unit := .iface "*errors.errorString" (.ptr (.agg [.lit (.string t)]))

noncomputable def adOf (W : World) (n : String) : Addr := @Classical.epsilon Addr ⟨⟨0, 0, none⟩⟩ fun a => W.var? Tryz.prog n = some #[.iface 230 (.pointer (some a))]

theorem star : "*" ++ "errors.errorString" = "*errors.errorString" := by decide
theorem row230 (u : TypeId) (h : Tryz.prog.typeName? 3 u = some "*errors.errorString") : u = 230 :=
  typeName_ptr_named (nm := "errors.errorString") (by rw [star]; kernel_rfl) (by kernel_rfl) (by decide) u (by rw [star]; exact h)

theorem laid_ads {W : World} : ∀ (L : List (String × DataW Unit)) (ps : List MemPlace), DataW.LaidVars Tryz.prog W L ps → ps.Nodup →
    (∀ b off, MemPlace.cell b off ∈ ps → (∃ c t, W.heap[b]? = some (.cells c t (0, 0))) ∧ ∀ u v, W.cell? ⟨b, off, none⟩ = some (.iface u v) → Value.okWide Tryz.prog W .any 0 u v) →
    (∀ n ∈ errNames, ∀ g, Tryz.prog.globalNamed n = some g → (Tryz.prog.globals[g]?).map (·.type) = some 27) →
    (∀ x ∈ L, x.1 ∈ errNames → ∀ t, x.2 = sent t → W.var? Tryz.prog x.1 = some #[.iface 230 (.pointer (some (adOf W x.1)))] ∧ MemPlace.cell (adOf W x.1).block (adOf W x.1).off ∈ ps) ∧
      L.Pairwise fun x y => x.1 ∈ errNames → y.1 ∈ errNames → ∀ t t', x.2 = sent t → y.2 = sent t' → adOf W x.1 ≠ adOf W y.1
  | [], ps, _, _, _, _ => ⟨fun x hx => (by cases hx), List.Pairwise.nil⟩
  | (n, d) :: r, ps, ⟨g, ty, cs, fuel, p, q, hg, ht, hv, hd, hq, e⟩, hnd, hrows, hty => by
    subst e
    have hndq : q.Nodup := List.Nodup.sublist (List.sublist_append_right _ _) hnd
    obtain ⟨h1, h2⟩ := laid_ads r q hq hndq (fun b off hm => hrows b off (List.mem_append_right _ hm)) hty
    have hhead : n ∈ errNames → ∀ t, d = sent t → W.var? Tryz.prog n = some #[.iface 230 (.pointer (some (adOf W n)))] ∧ MemPlace.cell (adOf W n).block (adOf W n).off ∈ p := by
      intro hn t hdt
      subst hdt
      have ht54 := hty n hn g hg
      rw [ht] at ht54
      obtain rfl := Option.some.inj ht54
      obtain ⟨l0⟩ := cs
      have ok0 : ∀ u v, l0 = [.iface u v] → Value.okWide Tryz.prog W .any 0 u v := fun u v e => by
        subst e
        exact (hrows g 0 (by simp [MemPlace.row])).2 u v (by simpa using World.var?_cell hg hv 0)
      obtain ⟨a, s, rfl, hc, hs, hz, rfl⟩ := errorString_of_trod Tryz.underlying27 row230 Tryz.underlying230 Tryz.underlying231 rfl rfl Tryz.underlying9 (by kernel_rfl) (by kernel_rfl) hd ok0
      have had : adOf W n = a := by
        have h5 : W.var? Tryz.prog n = some #[.iface 230 (.pointer (some (adOf W n)))] := Classical.epsilon_spec (p := fun a => W.var? Tryz.prog n = some #[.iface 230 (.pointer (some a))]) ⟨a, hv⟩
        rw [hv] at h5
        simpa using h5.symm
      rw [had]
      exact ⟨hv, by simp [MemPlace.row]⟩
    refine ⟨fun x hx hn t hxt => ?_, List.Pairwise.cons (fun y hy hn hn' t t' hxt hyt e => ?_) h2⟩
    · rcases List.mem_cons.1 hx with rfl | hx
      · obtain ⟨h3, h4⟩ := hhead hn t hxt
        exact ⟨h3, List.mem_append_left _ (List.mem_append_right _ h4)⟩
      · obtain ⟨h3, h4⟩ := h1 x hx hn t hxt
        exact ⟨h3, List.mem_append_right _ h4⟩
    · have h3 := (hhead hn t hxt).2
      have h4 := (h1 y hy hn' t' hyt).2
      simp only at e
      rw [e] at h3
      exact (List.nodup_append.1 hnd).2.2 _ (List.mem_append_right _ h3) _ h4 rfl

def isSent : DataW Unit → Bool
  | .iface nm (.ptr (.agg [.lit (.string _)])) => nm == "*errors.errorString"
  | _ => false
theorem isSent_ok {d : DataW Unit} (h : isSent d = true) : ∃ t, d = sent t := by
  unfold isSent at h
  split at h
  · rename_i nm t
    exact ⟨t, by rw [eq_of_beq h]; rfl⟩
  · cases h


theorem names_types : ∀ n ∈ errNames, ∀ g, Tryz.prog.globalNamed n = some g → (Tryz.prog.globals[g]?).map (·.type) = some 27 := by
  have h : (errNames.all fun n => ((Tryz.prog.globalNamed n).bind fun g => (Tryz.prog.globals[g]?).map (·.type)) == some 27) = true := by kernel_rfl
  intro n hn g hg
  have := List.all_eq_true.1 h n hn
  rw [hg] at this
  simpa using this

theorem cell_lt {W : World} {g : Nat} {v : Value} (h : W.cell? ⟨g, 0, none⟩ = some v) : g < W.heap.size := by
  apply Classical.byContradiction
  intro hc
  simp only [World.cell?] at h
  rw [Array.getElem?_eq_none (by omega)] at h
  cases h



def errVar : Nat → Option Nat
  | 0 => some 3
  | 1 => some 4
  | 2 => some 2
  | 3 => some 5
  | 7 => some 9
  | 8 => some 0
  | 9 => some 10
  | 16 => some 1
  | _ => none
theorem tab_block {P : Program} {W : World} {name : String} {k : IntKind} {zs : List Int} {d : DataW Unit} {rest : List (String × DataW Unit)} {g : Nat} (hg : P.globalNamed name = some g) (h : laidMet P ((name, d) :: rest) W) (ht : Lib.TabIs P W name k zs) (hz : zs ≠ []) :
    ∃ t, W.heap[g]? = some (.cells (zs.map fun z => Value.int k z).toArray t (0, 0)) := by
  obtain ⟨ps, ⟨g', t', cs, fuel, p, q, hg', ht', hvar, hd, _, e⟩, _, hrows⟩ := h
  obtain rfl := Option.some.inj (hg.symm.trans hg')
  subst e
  have hcs : cs = (zs.map fun z => Value.int k z).toArray := Option.some.inj (hvar.symm.trans ht)
  have hzl : 0 < zs.length := List.length_pos_iff.2 hz
  have hsz : 0 < cs.size := by rw [hcs]; simpa using hzl
  obtain ⟨⟨c, t, h3⟩, _⟩ := hrows g 0 (by simp [MemPlace.row]; omega)
  refine ⟨t, ?_⟩
  have hv := hvar
  simp only [World.var?, hg, Option.bind_some, h3] at hv
  rw [h3, ← hcs, Option.some.inj hv]
def tabArr : Array Value := (Lib.pow10Tab.map fun z => Value.int .u64 z).toArray
structure GOk (O : Out) : Prop where
  var : ∀ k g, errVar k = some g → O.gl g = some (O.ev k)
  maxLen : ∃ m, O.gl 18 = some (.int .i64 m)
  tab : O.gc 23 = some tabArr
  synE : ∃ T v, O.gl 19 = some (.iface T v)
  rngE : ∃ T v, O.gl 20 = some (.iface T v)
noncomputable def outE0 (W : World) (k : Nat) : Value := match errNames[k]? with | some n => .iface 230 (.pointer (some (adOf W n))) | none => .iface 0 (.bool false)
noncomputable def outE (W : World) (m : Int) (xS xR : Addr) : Out where
  ev := outE0 W
  ev_one k := by unfold outE0; cases errNames[k]? <;> rfl
  ev_if k := by unfold outE0; cases errNames[k]? <;> exact ⟨_, _, rfl⟩
  gl g := if g = 18 then some (.int .i64 m) else if g = 19 then some (.iface 230 (.pointer (some xS))) else if g = 20 then some (.iface 230 (.pointer (some xR))) else if g = 3 then some (outE0 W 0) else if g = 4 then some (outE0 W 1) else if g = 2 then some (outE0 W 2) else if g = 5 then some (outE0 W 3) else if g = 9 then some (outE0 W 7) else if g = 0 then some (outE0 W 8) else if g = 10 then some (outE0 W 9) else if g = 1 then some (outE0 W 16) else none
  gc g := if g = 23 then some tabArr else none
theorem ite_one {α : Type} {p : Prop} [Decidable p] {a v : α} {r : Option α} {Q : Prop} (h : (if p then some a else r) = some v) (h1 : p → a = v → Q) (h2 : r = some v → Q) : Q := by
  by_cases hp : p
  · rw [if_pos hp] at h; exact h1 hp (Option.some.inj h)
  · rw [if_neg hp] at h; exact h2 h
theorem law_out {W : World} {L : List (String × DataW Unit)} (hsh : W.ShapedOpen Tryz.prog) (hL : laidMet Tryz.prog L W)
    (hn : (["millwright/api.ErrRange", "millwright/api.ErrLong", "millwright/api.ErrForm", "millwright/api.ErrName", "millwright/api.ErrNone", "millwright/api.ErrDup", "millwright/api.ErrFull", "millwright/api.ErrKind"].all fun n => L.any fun x => x.1 == n && isSent x.2) = true)
    (hT : (L.filter fun x => x.1 == "internal/strconv.uint64pow10") = [("internal/strconv.uint64pow10", Lib.tabData .u64 Lib.pow10Tab)])
    (hcS : (L.filter fun x => x.1 == "strconv.ErrSyntax") = [("strconv.ErrSyntax", .iface "*errors.errorString" (.ptr (.agg [.lit (.string [105, 110, 118, 97, 108, 105, 100, 32, 115, 121, 110, 116, 97, 120])])))])
    (hcR : (L.filter fun x => x.1 == "strconv.ErrRange") = [("strconv.ErrRange", .iface "*errors.errorString" (.ptr (.agg [.lit (.string [118, 97, 108, 117, 101, 32, 111, 117, 116, 32, 111, 102, 32, 114, 97, 110, 103, 101])])))]) : ∃ O : Out, GOk O ∧ O.Glob (fun b => b < W.heap.size) W := by
  have lT := hL.filter fun x => x.1 == "internal/strconv.uint64pow10"
  rw [hT] at lT
  have tab : Lib.TabIs Tryz.prog W "internal/strconv.uint64pow10" .u64 Lib.pow10Tab :=
    Lib.tabIs_of_head (g := 23) (t := 237) (e := 168) (n := 20) (by kernel_rfl) (by kernel_rfl) Tryz.underlying237 Tryz.underlying168 (by kernel_rfl) (by kernel_rfl) lT
  have tb := tab_block (g := 23) (by kernel_rfl) lT tab (by decide)
  have lcS := hL.filter fun x => x.1 == "strconv.ErrSyntax"
  rw [hcS] at lcS
  obtain ⟨xS, _, vcS, _⟩ := laid_sentinel (P := Tryz.prog) (g := 19) (ti := 27) (tp := 230) (te := 232) (ts := 9) lcS (by kernel_rfl) (by kernel_rfl) Tryz.underlying27 row230 Tryz.underlying230 Tryz.underlying231 rfl rfl Tryz.underlying9 (by kernel_rfl) (by kernel_rfl)
  have cS : W.cell? ⟨19, 0, none⟩ = some (.iface 230 (.pointer (some xS))) := by simpa using World.var?_cell (show Tryz.prog.globalNamed "strconv.ErrSyntax" = some 19 by kernel_rfl) vcS 0
  have lcR := hL.filter fun x => x.1 == "strconv.ErrRange"
  rw [hcR] at lcR
  obtain ⟨xR, _, vcR, _⟩ := laid_sentinel (P := Tryz.prog) (g := 20) (ti := 27) (tp := 230) (te := 232) (ts := 9) lcR (by kernel_rfl) (by kernel_rfl) Tryz.underlying27 row230 Tryz.underlying230 Tryz.underlying231 rfl rfl Tryz.underlying9 (by kernel_rfl) (by kernel_rfl)
  have cR : W.cell? ⟨20, 0, none⟩ = some (.iface 230 (.pointer (some xR))) := by simpa using World.var?_cell (show Tryz.prog.globalNamed "strconv.ErrRange" = some 20 by kernel_rfl) vcR 0
  obtain ⟨m, hm⟩ := Tryz.laysM219.s1_3 W hsh
  have hm : W.cell? ⟨18, 0, none⟩ = some (.int .i64 m) := hm
  obtain ⟨ps, hv, hnd, hrows⟩ := hL
  obtain ⟨h1, h2⟩ := laid_ads L ps hv hnd hrows names_types
  have cell : ∀ n g, n ∈ ["millwright/api.ErrRange", "millwright/api.ErrLong", "millwright/api.ErrForm", "millwright/api.ErrName", "millwright/api.ErrNone", "millwright/api.ErrDup", "millwright/api.ErrFull", "millwright/api.ErrKind"] → n ∈ errNames → Tryz.prog.globalNamed n = some g →
      g < W.heap.size ∧ W.cell? ⟨g, 0, none⟩ = some (.iface 230 (.pointer (some (adOf W n)))) := fun n g hm hne hg => by
    obtain ⟨x, hx, hx2⟩ := List.any_eq_true.1 (List.all_eq_true.1 hn n hm)
    simp only [Bool.and_eq_true, beq_iff_eq] at hx2
    obtain ⟨t, ht⟩ := isSent_ok hx2.2
    have hvar := (h1 (n, sent t) (by rw [← hx2.1, ← ht]; exact hx) hne t rfl).1
    have hc := World.var?_cell hg hvar 0
    have hc' : W.cell? ⟨g, 0, none⟩ = some (.iface 230 (.pointer (some (adOf W n)))) := by simpa using hc
    exact ⟨cell_lt hc', hc'⟩
  refine ⟨outE W m xS xR, { var := fun k g hg => ?_, maxLen := ⟨m, rfl⟩, tab := rfl, synE := ⟨_, _, rfl⟩, rngE := ⟨_, _, rfl⟩ }, fun g v hg => ?_, fun b hb => False.elim hb, fun g arr hg => by
      have hg' : (if g = 23 then some tabArr else none) = some arr := hg
      refine ite_one hg' (fun e e2 => ?_) (fun h => by cases h)
      subst e; subst e2
      obtain ⟨t, ht⟩ := tb
      exact ⟨(Array.getElem?_eq_some_iff.1 ht).1, t, ht⟩⟩
  · unfold errVar at hg
    split at hg <;> cases hg <;> rfl
  · have hg' : (if g = 18 then some (.int .i64 m) else if g = 19 then some (.iface 230 (.pointer (some xS))) else if g = 20 then some (.iface 230 (.pointer (some xR))) else if g = 3 then some (outE0 W 0) else if g = 4 then some (outE0 W 1) else if g = 2 then some (outE0 W 2) else if g = 5 then some (outE0 W 3) else if g = 9 then some (outE0 W 7) else if g = 0 then some (outE0 W 8) else if g = 10 then some (outE0 W 9) else if g = 1 then some (outE0 W 16) else none) = some v := hg
    refine ite_one hg' (fun e e2 => by subst e; subst e2; exact ⟨cell_lt hm, hm⟩) fun hg' => ?_
    refine ite_one hg' (fun e e2 => by subst e; subst e2; exact ⟨cell_lt cS, cS⟩) fun hg' => ?_
    refine ite_one hg' (fun e e2 => by subst e; subst e2; exact ⟨cell_lt cR, cR⟩) fun hg' => ?_
    refine ite_one hg' (fun e e2 => by subst e; subst e2; exact cell "millwright/api.ErrRange" 3 (by simp) (by decide) (by kernel_rfl)) fun hg' => ?_
    refine ite_one hg' (fun e e2 => by subst e; subst e2; exact cell "millwright/api.ErrLong" 4 (by simp) (by decide) (by kernel_rfl)) fun hg' => ?_
    refine ite_one hg' (fun e e2 => by subst e; subst e2; exact cell "millwright/api.ErrForm" 2 (by simp) (by decide) (by kernel_rfl)) fun hg' => ?_
    refine ite_one hg' (fun e e2 => by subst e; subst e2; exact cell "millwright/api.ErrName" 5 (by simp) (by decide) (by kernel_rfl)) fun hg' => ?_
    refine ite_one hg' (fun e e2 => by subst e; subst e2; exact cell "millwright/api.ErrNone" 9 (by simp) (by decide) (by kernel_rfl)) fun hg' => ?_
    refine ite_one hg' (fun e e2 => by subst e; subst e2; exact cell "millwright/api.ErrDup" 0 (by simp) (by decide) (by kernel_rfl)) fun hg' => ?_
    refine ite_one hg' (fun e e2 => by subst e; subst e2; exact cell "millwright/api.ErrFull" 10 (by simp) (by decide) (by kernel_rfl)) fun hg' => ?_
    refine ite_one hg' (fun e e2 => by subst e; subst e2; exact cell "millwright/api.ErrKind" 1 (by simp) (by decide) (by kernel_rfl)) fun hg' => ?_
    cases hg'

def pItoa.f (k : Nat) (n : Int) : Option (List UInt8) := if -9223372036854775808 ≤ n ∧ n ≤ 9223372036854775807 then some (Lib.itoa n) else none
theorem pItoa.ok {U : Univ} (O : Out) (hO : GOk O) (k : Nat) (n : Int) (out : List UInt8) (h : pItoa.f k n = some out) :
    COk U O Tryz.prog 135 { ar := [.p (.int .i64) n], r := .p .str out } := by
  unfold pItoa.f at h
  split at h
  case isFalse => cases h
  rename_i hn
  cases h
  intro S ι w vs hlt hgl has hbs hown
  simp only [VVs, VV.int_iff] at has
  obtain ⟨u0, us0, rfl, rfl, rfl⟩ := has
  obtain ⟨t, ht⟩ := (hgl.2.2 _ _ hO.tab).2
  have htab : Lib.TabIs Tryz.prog w "internal/strconv.uint64pow10" .u64 Lib.pow10Tab := by
    unfold Lib.TabIs World.var?
    rw [show Tryz.prog.globalNamed "internal/strconv.uint64pow10" = some 23 by kernel_rfl]
    simp only [Option.bind_some, ht]
    rfl
  refine (Tryz.strconv_Itoa n hn.1 hn.2 w htab).mono fun e w' ⟨he, q, os, hw⟩ => ?_
  subst hw
  exact ⟨_, S, ι, he, Nx.ofBelow (Go.Lib.below_grow _ w (Nat.le_refl _) q os) rfl rfl hlt, VV.str_iff.2 ⟨_, rfl, rfl⟩⟩

def pAtoi.f (k : Nat) (s : List UInt8) : Option (Int × Nat) :=
  if s.length ≤ 281474976710656 then some (match Lib.atoiAll s with | .ok v => (v, 0) | .range => (Lib.atoiSat s, unkE) | _ => (0, unkE)) else none
theorem pAtoi.ok {U : Univ} (O : Out) (hO : GOk O) (k : Nat) (s : List UInt8) (out : Int × Nat) (h : pAtoi.f k s = some out) :
    COk U O Tryz.prog 133 { ar := [.p .str s], r := .tup [.p (.int .i64) out.1, .p .err out.2] } := by
  unfold pAtoi.f at h
  split at h
  case isFalse => cases h
  rename_i hn
  intro S ι w vs hlt hgl has hbs hown
  simp only [VVs, VV.str_iff] at has
  obtain ⟨u0, us0, rfl, ⟨b0, rfl, rfl⟩, rfl⟩ := has
  have hsz : b0.size ≤ 281474976710656 := by rw [← Array.length_toList] at *; exact hn
  cases hA : Lib.atoiAll b0.data.toList
  case ok v =>
    rw [hA] at h
    cases h
    refine (Tryz.strconv_Atoi_ok b0 (by omega) v hA w).mono fun e w' ⟨he, hw⟩ => ?_
    have hb : Below w.heap.size w w' := by
      rcases hw with rfl | ⟨t, rfl⟩
      · exact Below.refl _ _
      · exact Lib.bytesWorld_below _ _ _
    exact ⟨_, S, ι, he, Nx.ofBelow hb rfl rfl hlt, ⟨_, ⟨_, _, rfl, VV.int_iff.2 rfl, _, _, rfl, VV.err_iff.2 (.inl ⟨rfl, rfl⟩), rfl⟩, rfl⟩⟩
  case range =>
    rw [hA] at h
    cases h
    obtain ⟨T, v, hv⟩ := hO.rngE
    refine (Tryz.strconv_Atoi_range b0 hsz hA _ w (hgl.1 _ _ hv).2 (.inr ⟨_, _, rfl⟩)).mono fun e w' ⟨q, he, _, _, hb⟩ => ?_
    exact ⟨_, S, ι, he, Nx.ofBelow hb rfl rfl hlt, ⟨_, ⟨_, _, rfl, VV.int_iff.2 rfl, _, _, rfl, VV.err_iff.2 (.inr (.inr ⟨rfl, _, _, rfl⟩)), rfl⟩, rfl⟩⟩
  rw [hA] at h
  cases h
  obtain ⟨T, v, hv⟩ := hO.synE
  refine (Tryz.strconv_Atoi_syntax b0 hsz hA _ w (hgl.1 _ _ hv).2 (.inr ⟨_, _, rfl⟩)).mono fun e w' ⟨q, he, _, _, hb⟩ => ?_
  exact ⟨_, S, ι, he, Nx.ofBelow hb rfl rfl hlt, ⟨_, ⟨_, _, rfl, VV.int_iff.2 rfl, _, _, rfl, VV.err_iff.2 (.inr (.inr ⟨rfl, _, _, rfl⟩)), rfl⟩, rfl⟩⟩

def pRepeat.f (k : Nat) (s : List UInt8) (c : Int) : Option (List UInt8) := if 0 ≤ c ∧ c ≤ 9223372036854775807 ∧ s.length * c.toNat ≤ 140737488355328 then some (Lib.repeatL s c.toNat) else none
theorem pRepeat.ok {U : Univ} (O : Out) (hO : GOk O) (k : Nat) (s : List UInt8) (c : Int) (out : List UInt8) (h : pRepeat.f k s c = some out) :
    COk U O Tryz.prog 151 { ar := [.p .str s, .p (.int .i64) c], r := .p .str out } := by
  unfold pRepeat.f at h
  split at h
  case isFalse => cases h
  rename_i hn
  cases h
  intro S ι w vs hlt hgl has hbs hown
  simp only [VVs, VV.str_iff, VV.int_iff] at has
  obtain ⟨u0, us0, rfl, ⟨b0, rfl, rfl⟩, u1, us1, rfl, rfl, rfl⟩ := has
  obtain ⟨n, rfl⟩ := Int.eq_ofNat_of_zero_le hn.1
  have hl : b0.size * n ≤ 140737488355328 := by have := hn.2.2; simpa using this
  refine (Tryz.strings_Repeat b0 n w (by have := hn.2.1; omega) hl).mono fun e w' ⟨he, hb⟩ => ?_
  exact ⟨_, S, ι, he, Nx.ofBelow hb rfl rfl hlt, VV.str_iff.2 ⟨_, rfl, rfl⟩⟩

def pTrimRight.f (k : Nat) (s t : List UInt8) : Option (List UInt8) := match t with | [c] => if c.toNat < 128 ∧ s.length ≤ 9223372036854775807 then some (Lib.trimRightB s c) else none | _ => none
theorem pTrimRight.ok {U : Univ} (O : Out) (hO : GOk O) (k : Nat) (s t : List UInt8) (out : List UInt8) (h : pTrimRight.f k s t = some out) :
    COk U O Tryz.prog 102 { ar := [.p .str s, .p .str t], r := .p .str out } := by
  unfold pTrimRight.f at h
  split at h
  case h_2 => cases h
  rename_i c
  split at h
  case isFalse => cases h
  rename_i hn
  cases h
  intro S ι w vs hlt hgl has hbs hown
  simp only [VVs, VV.str_iff] at has
  obtain ⟨u0, us0, rfl, ⟨b0, rfl, rfl⟩, u1, us1, rfl, ⟨b1, rfl, hb1⟩, rfl⟩ := has
  obtain rfl : b1 = ⟨#[c]⟩ := by
    cases b1
    congr 1
    exact Array.toList_inj.1 hb1
  have hl : b0.size ≤ 9223372036854775807 := by have := hn.2; simpa using this
  refine (Tryz.strings_TrimRight_one b0 c hn.1 w hl).mono fun e w' ⟨he, hw⟩ => ?_
  subst hw
  exact ⟨_, S, ι, he, Nx.refl _ rfl rfl hlt, VV.str_iff.2 ⟨_, rfl, rfl⟩⟩

def pContainsAny.f (k : Nat) (s t : List UInt8) : Option Bool := if s.length < 4294967281 ∧ t.length < 4294967281 ∧ (s.all fun b => decide (b.toNat < 128)) = true ∧ (t.all fun b => decide (b.toNat < 128)) = true then some (Lib.containsAny s t) else none
theorem pContainsAny.ok {U : Univ} (O : Out) (hO : GOk O) (k : Nat) (s t : List UInt8) (out : Bool) (h : pContainsAny.f k s t = some out) :
    COk U O Tryz.prog 136 { ar := [.p .str s, .p .str t], r := .p .bool out } := by
  unfold pContainsAny.f at h
  split at h
  case isFalse => cases h
  rename_i hn
  cases h
  intro S ι w vs hlt hgl has hbs hown
  simp only [VVs, VV.str_iff] at has
  obtain ⟨u0, us0, rfl, ⟨b0, rfl, rfl⟩, u1, us1, rfl, ⟨b1, rfl, rfl⟩, rfl⟩ := has
  obtain ⟨h0, h1, h2, h3⟩ := hn
  refine (Tryz.strings_ContainsAny_laid b0 b1 w (by simpa using h0) (by simpa using h1) (fun j b hb => by simpa using List.all_eq_true.1 h2 b (List.mem_of_getElem? hb)) (fun j b hb => by simpa using List.all_eq_true.1 h3 b (List.mem_of_getElem? hb))).mono fun e w' ⟨he, hb⟩ => ?_
  exact ⟨_, S, ι, he, Nx.ofBelow hb rfl rfl hlt, VV.bool_iff.2 rfl⟩

def pIndex.f (k : Nat) (s t : List UInt8) : Option Int := if s.length < 4294967281 then some (Lib.index s t) else none
theorem pIndex.ok {U : Univ} (O : Out) (hO : GOk O) (k : Nat) (s t : List UInt8) (out : Int) (h : pIndex.f k s t = some out) :
    COk U O Tryz.prog 86 { ar := [.p .str s, .p .str t], r := .p (.int .i64) out } := by
  unfold pIndex.f at h
  split at h
  case isFalse => cases h
  rename_i hn
  cases h
  intro S ι w vs hlt hgl has hbs hown
  simp only [VVs, VV.str_iff] at has
  obtain ⟨u0, us0, rfl, ⟨b0, rfl, rfl⟩, u1, us1, rfl, ⟨b1, rfl, rfl⟩, rfl⟩ := has
  obtain ⟨m, hm⟩ := hO.maxLen
  refine (Tryz.strings_Index b0 b1 m w (by simpa using hn) (hgl.1 _ _ hm).2).mono fun e w' ⟨he, hw⟩ => ?_
  subst hw
  exact ⟨_, S, ι, he, Nx.refl _ rfl rfl hlt, VV.int_iff.2 rfl⟩

def pIndexL.f (k : Nat) (s t : List UInt8) : Option Int := if s.length < 4294967281 then some (Lib.index s t) else none
theorem pIndexL.ok {U : Univ} (O : Out) (hO : GOk O) (k : Nat) (s t : List UInt8) (out : Int) (h : pIndexL.f k s t = some out) :
    COk U O Tryz.prog 100 { ar := [.p .str s, .p .str t], r := .p (.int .i64) out } := by
  unfold pIndexL.f at h
  split at h
  case isFalse => cases h
  rename_i hn
  cases h
  intro S ι w vs hlt hgl has hbs hown
  simp only [VVs, VV.str_iff] at has
  obtain ⟨u0, us0, rfl, ⟨b0, rfl, rfl⟩, u1, us1, rfl, ⟨b1, rfl, rfl⟩, rfl⟩ := has
  obtain ⟨m, hm⟩ := hO.maxLen
  refine (Tryz.stringslite_Index b0 b1 m w (by simpa using hn) (hgl.1 _ _ hm).2).mono fun e w' ⟨he, hw⟩ => ?_
  subst hw
  exact ⟨_, S, ι, he, Nx.refl _ rfl rfl hlt, VV.int_iff.2 rfl⟩

def pCloneR.f (k : Nat) (xs : List (List UInt8)) : Option (List (List UInt8)) := if xs.length * 16 ≤ 140737488355328 then some xs else none
theorem pCloneR.ok {U : Univ} (O : Out) (hO : GOk O) (k : Nat) (xs out : List (List UInt8)) (h : pCloneR.f k xs = some out) : COk U O Tryz.prog 73 { ar := [.p (.list .str) xs], r := .vec 60500 1 0 out.length, bs' := [(60500, .row 9 .str out false)], nn := [60500] } := by
  unfold pCloneR.f at h
  split at h
  case isFalse => cases h
  rename_i hlen
  cases h
  intro S ι w vs hlt hgl has hbs hown
  obtain ⟨u, us', rfl, hu, hus⟩ := has
  have hus : us' = [] := hus
  subst hus
  have fin : ∀ e w' (v' : Value) (news : List Value), e = Ending.returned v' → w'.ownsRow w.heap.size 9 1 v' xs.length news → Below w.heap.size w w' → (∀ (i : Nat) (h : i < xs.length), ∃ q : ByteArray, q.data.toList = xs[i] ∧ news[i]? = some (.string q)) →
      ∃ u S' ι', e = .returned u ∧ Nx U O (CSpec.l { ar := [.p (.list .str) xs], r := .vec 60500 1 0 xs.length, bs' := [(60500, .row 9 .str xs false)], nn := [60500] }) S ι w S' ι' w' ∧ VV U O S' ι' w' (.vec 60500 1 0 xs.length) u := fun e w' v' news he hrow hw hel => by
    obtain ⟨ι', h1, h2⟩ := Nx.rowBlk (U := U) (O := O) (t := .str) (ι := ι) (d := 60500) (s := CSpec.l { ar := [.p (.list .str) xs], r := .vec 60500 1 0 xs.length, bs' := [(60500, .row 9 .str xs false)], nn := [60500] }) (xs := xs) hrow hw rfl rfl rfl rfl hlt fun i hi => by
      obtain ⟨q, h3, h4⟩ := hel i hi
      refine ⟨[.string q], rd_strof h3, fun j hj => ?_⟩
      obtain rfl : j = 0 := by simpa [Ty.width] using hj
      simpa [Ty.width] using h4
    exact ⟨v', S, ι', he, h1, h2⟩
  rcases VV.list_iff.1 hu with ⟨rfl, rfl⟩ | ⟨rfl, ad, cap, rfl⟩ | ⟨b, o, cap, cs, rfl, hS, hcap, hel, hcell⟩
  · exact (Tryz.slices_Clone_string_nil 0 0 w).mono fun e w' ⟨he, hw⟩ => fin e w' _ [] he (World.ownsRow_nil _ _ _ _) (hw ▸ Below.refl _ _) fun i hi => (Nat.not_lt_zero _ hi).elim
  · exact (Tryz.slices_Clone_string_zero ad cap w).mono fun e w' ⟨v', he, hrow, hne, hw⟩ => fin e w' v' [] he hrow hw fun i hi => (Nat.not_lt_zero _ hi).elim
  · obtain ⟨qs, hq⟩ : ∃ qs : List ByteArray, qs.map (·.data.toList) = xs := ⟨xs.map fun x => ⟨x.toArray⟩, by simp [Function.comp_def]⟩
    have hql : qs.length = xs.length := by rw [← hq]; simp
    have hat : ∀ j (hj : j < xs.length), (qs[j]'(by omega)).data.toList = xs[j] := fun j hj => by
      have := congrArg (fun l => l[j]?) hq
      simp only [List.getElem?_map, List.getElem?_eq_getElem (show j < qs.length by omega), Option.map_some] at this
      rw [List.getElem?_eq_getElem hj] at this
      exact Option.some.inj this
    have key : ∀ j, j < qs.length → w.cell? ⟨b, o + j, none⟩ = some (.string (qs.getD j ByteArray.empty)) := fun j hj => by
      have hjx := Nat.lt_of_lt_of_eq hj hql
      have h2 := hcell j 0 hjx (by simp [Ty.width])
      obtain ⟨q, h3, h4⟩ := rd_strq (hel j hjx)
      rw [h4] at h2
      have e1 : qs.getD j ByteArray.empty = qs[j] := by simp [List.getD, hj]
      rw [e1, bytes_ext ((hat j hjx).trans h3)]
      simpa [Ty.width] using h2
    exact (Tryz.slices_Clone_string b o xs.length cap qs w (by omega) hlen key).mono fun e w' ⟨v', he, hrow, hne, hw⟩ => fin e w' v' _ he hrow hw fun i hi => ⟨qs[i]'(by omega), hat i hi, by
      simp [hql, List.getElem?_eq_getElem (show i < qs.length by omega), hi]⟩

def pSortR.f (k : Nat) (xs : List (List UInt8)) : Option (List (List UInt8)) := if xs.length < 4611686018427387904 then some (xs.mergeSort fun x y => decide (x ≤ y)) else none
theorem pSortR.ok {U : Univ} (O : Out) (hO : GOk O) (k : Nat) (xs out : List (List UInt8)) (h : pSortR.f k xs = some out) :
    COk U O Tryz.prog 74 { ar := [.vec 100000 1 0 xs.length], r := .tup [], bs := [(100000, .row 9 .str xs false)], bs' := [(100000, .row 9 .str out false)] } := by
  unfold pSortR.f at h
  split at h
  case isFalse => cases h
  rename_i hlen
  cases h
  intro S ι w vs hlt hgl has hbs hown
  obtain ⟨u, us', rfl, hu, hus⟩ := has
  have hus : us' = [] := hus
  subst hus
  have hB := hbs (100000, .row 9 .str xs false) (by simp)
  rcases row_of hB hu with ⟨h1, rfl, h3, rfl⟩ | ⟨b, c, arr, h1, rfl, h2, h3, h4, h5, h6, h7⟩
  · refine (Tryz.slices_Sort_string_none none 0 w).mono fun e w' ⟨he, hw⟩ => ?_
    subst hw
    have e0 : (([] : List (List UInt8)).mergeSort fun x y => decide (x ≤ y)) = [] := by simp
    rw [e0]
    exact ⟨_, S, ι, he, (Nx.refl ({ ws := .tup [] } : LSpec U) rfl rfl hlt).frame rfl [(100000, .row 9 .str [] false)] (by simp) hbs hown hlt, ⟨[], rfl, rfl⟩⟩
  · have ho := hown.out 100000 (by simp [nm]) b c h1
    refine (Tryz.slices_Sort_string b 0 c xs w h7 ho.2 hlen).mono fun e w' ⟨he, n, os, hw⟩ => ?_
    exact ⟨_, S, ι, he, sort_nx rfl rfl h1 h2 h3 h4 (by simp) h5 ho.1 hlt hw, ⟨[], rfl, rfl⟩⟩

def pCompactR.f (k : Nat) (xs : List (List UInt8)) : Option (List (List UInt8)) := if xs.length ≤ 9223372036854775807 then some (Lib.compact xs) else none
theorem pCompactR.ok {U : Univ} (O : Out) (hO : GOk O) (k : Nat) (xs out : List (List UInt8)) (h : pCompactR.f k xs = some out) :
    COk U O Tryz.prog 75 { ar := [.vec 100000 1 0 xs.length], r := .p (.list .str) out, bs := [(100000, .row 9 .str xs false)] } := by
  unfold pCompactR.f at h
  split at h
  case isFalse => cases h
  rename_i hlen
  cases h
  intro S ι w vs hlt hgl has hbs hown
  obtain ⟨u, us', rfl, hu, hus⟩ := has
  have hus : us' = [] := hus
  subst hus
  have hB := hbs (100000, .row 9 .str xs false) (by simp)
  rcases row_of hB hu with ⟨h1, rfl, h3, rfl⟩ | ⟨b, c, arr, h1, rfl, h2, h3, h4, h5, h6, h7⟩
  · refine (Tryz.slices_Compact_string_empty none 0 w).mono fun e w' ⟨he, hw⟩ => ?_
    subst hw
    exact ⟨_, S, ι, he, (Nx.refl ({ ws := .p (.list .str) [] } : LSpec U) rfl rfl hlt).withCb rfl rfl [(100000, .row 9 .str [] false)], ⟨_, .lnil .str, rfl⟩⟩
  · have ho := hown.out 100000 (by simp [nm]) b c h1
    have hcl := compact_len xs
    refine (Tryz.slices_Compact_string b 0 c xs w h7 hlen h5).mono fun e w' ⟨he, q, hw⟩ => ?_
    obtain ⟨g1, g2⟩ := compact_nx (U := U) (O := O) (s := CSpec.l { ar := [.vec 100000 1 0 xs.length], r := .p (.list .str) (Lib.compact (α := List UInt8) xs), bs := [(100000, .row 9 .str xs false)] }) rfl rfl h1 h2 h3 (by omega) hlt hw
    exact ⟨_, _, ι, he, g1, g2⟩

end Go.Proofs.YtcblgpcgdihcbaaGreatDoor
