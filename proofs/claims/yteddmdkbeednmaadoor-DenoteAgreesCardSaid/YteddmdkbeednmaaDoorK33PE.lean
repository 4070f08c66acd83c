/- A part of the proof of a given law: PE. Own work, printed in part by a program of mine. -/
import Derived.Test.YteddmdkbeednmaaDoorRows
import Derived.Test.YteddmdkbeednmaaDoorK33TrydShelf
import Derived.Test.YteddmdkbeednmaaDoorK33AmM3
import Derived.Test.YteddmdkbeednmaaDoorK33Is
import Derived.Test.YteddmdkbeednmaaDoorK33AmM
import Derived.Test.YteddmdkbeednmaaDoorK33Cb
import Derived.Stop.LaidErr
import Derived.LaidLaws
namespace Go.Proofs.YteddmdkbeednmaaDoor
open Go Go.AM Go.RowKit Go.ChangeShapes
set_option linter.unusedVariables false
set_option linter.unusedSimpArgs false
set_option maxRecDepth 100000

def errNames : List String := ["millwright/api.ErrRange", "millwright/api.ErrLong", "millwright/api.ErrForm", "millwright/api.ErrName", "millwright/api.ErrQuote", "millwright/api.ErrRegex", "millwright/api.ErrAttr", "millwright/api.ErrNone", "millwright/api.ErrDup", "millwright/api.ErrFull", "millwright/api.ErrDepth", "millwright/api.ErrCycle", "millwright/api.ErrAmbig", "millwright/api.ErrState", "millwright/api.ErrFail", "millwright/api.ErrFlag", "millwright/api.ErrKind", "millwright/api.ErrLost"]
def errVars : List Nat := [5, 0, 6, 7, 8, 1, 9, 10, 11, 2, 12, 13, 14, 15, 16, 17, 4, 18]

def rexWords : List ByteArray := [⟨#[101, 109, 112, 116, 121]⟩, ⟨#[111, 110, 101]⟩, ⟨#[99, 97, 116]⟩, ⟨#[97, 108, 116]⟩, ⟨#[115, 116, 97, 114]⟩, ⟨#[112, 108, 117, 115]⟩, ⟨#[109, 97, 121, 98, 101]⟩, ⟨#[103, 114, 111, 117, 112]⟩, ⟨#[98, 101, 103, 105, 110]⟩, ⟨#[101, 110, 100]⟩]
def rexTexts : List (List UInt8) := rexWords.map fun b => b.data.toList

structure GOkE (O : Out) : Prop where
  words : O.gc 3 = some (rexWords.map Value.string).toArray
  ptr : ∀ k, k < 18 → ∃ a, O.ev k = .iface 136 (.pointer (some a)) ∧ O.pl a.block
  inj : ∀ i j, i < 18 → j < 18 → O.ev i = O.ev j → i = j
  var : ∀ k g, errVars[k]? = some g → O.gl g = some (O.ev k)

def sent (t : List UInt8) : DataW Unit := .iface "*errors.errorString" (.ptr (.agg [.lit (.string t)]))

noncomputable def adOf (W : World) (n : String) : Addr := @Classical.epsilon Addr ⟨⟨0, 0, none⟩⟩ fun a => W.var? Tryd.prog n = some #[.iface 136 (.pointer (some a))]

theorem star : "*" ++ "errors.errorString" = "*errors.errorString" := by decide
theorem row136 (u : TypeId) (h : Tryd.prog.typeName? 3 u = some "*errors.errorString") : u = 136 :=
  typeName_ptr_named (nm := "errors.errorString") (by rw [star]; kernel_rfl) (by kernel_rfl) (by decide) u (by rw [star]; exact h)

theorem laid_ads {W : World} : ∀ (L : List (String × DataW Unit)) (ps : List MemPlace), DataW.LaidVars Tryd.prog W L ps → ps.Nodup →
    (∀ b off, MemPlace.cell b off ∈ ps → (∃ c t, W.heap[b]? = some (.cells c t (0, 0))) ∧ ∀ u v, W.cell? ⟨b, off, none⟩ = some (.iface u v) → Value.okWide Tryd.prog W .any 0 u v) →
    (∀ n ∈ errNames, ∀ g, Tryd.prog.globalNamed n = some g → (Tryd.prog.globals[g]?).map (·.type) = some 50) →
    (∀ x ∈ L, x.1 ∈ errNames → ∀ t, x.2 = sent t → W.var? Tryd.prog x.1 = some #[.iface 136 (.pointer (some (adOf W x.1)))] ∧ MemPlace.cell (adOf W x.1).block (adOf W x.1).off ∈ ps) ∧
      L.Pairwise fun x y => x.1 ∈ errNames → y.1 ∈ errNames → ∀ t t', x.2 = sent t → y.2 = sent t' → adOf W x.1 ≠ adOf W y.1
  | [], ps, _, _, _, _ => ⟨fun x hx => (by cases hx), List.Pairwise.nil⟩
  | (n, d) :: r, ps, ⟨g, ty, cs, fuel, p, q, hg, ht, hv, hd, hq, e⟩, hnd, hrows, hty => by
    subst e
    have hndq : q.Nodup := List.Nodup.sublist (List.sublist_append_right _ _) hnd
    obtain ⟨h1, h2⟩ := laid_ads r q hq hndq (fun b off hm => hrows b off (List.mem_append_right _ hm)) hty
    have hhead : n ∈ errNames → ∀ t, d = sent t → W.var? Tryd.prog n = some #[.iface 136 (.pointer (some (adOf W n)))] ∧ MemPlace.cell (adOf W n).block (adOf W n).off ∈ p := by
      intro hn t hdt
      subst hdt
      have ht54 := hty n hn g hg
      rw [ht] at ht54
      obtain rfl := Option.some.inj ht54
      obtain ⟨l0⟩ := cs
      have ok0 : ∀ u v, l0 = [.iface u v] → Value.okWide Tryd.prog W .any 0 u v := fun u v e => by
        subst e
        exact (hrows g 0 (by simp [MemPlace.row])).2 u v (by simpa using World.var?_cell hg hv 0)
      obtain ⟨a, s, rfl, hc, hs, hz, rfl⟩ := errorString_of_trod Tryd.underlying50 row136 Tryd.underlying136 Tryd.underlying162 rfl rfl Tryd.underlying9 (by kernel_rfl) (by kernel_rfl) hd ok0
      have had : adOf W n = a := by
        have h5 : W.var? Tryd.prog n = some #[.iface 136 (.pointer (some (adOf W n)))] := Classical.epsilon_spec (p := fun a => W.var? Tryd.prog n = some #[.iface 136 (.pointer (some a))]) ⟨a, hv⟩
        rw [hv] at h5
        simpa using h5.symm
      rw [had]
      exact ⟨hv, by simp [MemPlace.row]⟩
    refine ⟨fun x hx hn t hxt => ?_, List.Pairwise.cons (fun y hy hn hn' t t' hxt hyt e => ?_) h2⟩
    · rcases List.mem_cons.1 hx with rfl | hx
      · obtain ⟨h3, h4⟩ := hhead hn t hxt
        exact ⟨h3, List.mem_append_left _ (List.mem_append_right _ h4)⟩
      · obtain ⟨h3, h4⟩ := h1 x hx hn t hxt
        exact ⟨h3, List.mem_append_right _ h4⟩
    · have h3 := (hhead hn t hxt).2
      have h4 := (h1 y hy hn' t' hyt).2
      simp only at e
      rw [e] at h3
      exact (List.nodup_append.1 hnd).2.2 _ (List.mem_append_right _ h3) _ h4 rfl

theorem pw_sym {α : Type} {R : α → α → Prop} (hs : ∀ x y, R x y → R y x) : ∀ {l : List α}, l.Pairwise R → ∀ x ∈ l, ∀ y ∈ l, x ≠ y → R x y
  | [], _, x, hx, _, _, _ => by cases hx
  | a :: l, h, x, hx, y, hy, hne => by
    obtain ⟨h1, h2⟩ := List.pairwise_cons.1 h
    rcases List.mem_cons.1 hx with rfl | hx' <;> rcases List.mem_cons.1 hy with rfl | hy'
    · exact absurd rfl hne
    · exact h1 y hy'
    · exact hs _ _ (h1 x hx')
    · exact pw_sym hs h2 x hx' y hy' hne

def isSent : DataW Unit → Bool
  | .iface nm (.ptr (.agg [.lit (.string _)])) => nm == "*errors.errorString"
  | _ => false
theorem isSent_ok {d : DataW Unit} (h : isSent d = true) : ∃ t, d = sent t := by
  unfold isSent at h
  split at h
  · rename_i nm t
    exact ⟨t, by rw [eq_of_beq h]; rfl⟩
  · cases h


def wordsDatum : DataW Unit := .agg (rexWords.map fun b => .lit (.string b.data.toList))
def isWords : DataW Unit → Bool
  | .agg l => l.map (fun | .lit (.string t) => t | _ => []) == rexTexts && l.all fun | .lit (.string _) => true | _ => false
  | _ => false
theorem isWords_ok {d : DataW Unit} (h : isWords d = true) : d = wordsDatum := by
  unfold isWords at h
  split at h
  · rename_i l
    simp only [Bool.and_eq_true, beq_iff_eq, List.all_eq_true] at h
    obtain ⟨h1, h2⟩ := h
    unfold wordsDatum
    congr 1
    have : rexWords.map (fun b => (DataW.lit (.string b.data.toList) : DataW Unit)) = rexTexts.map fun t => .lit (.string t) := by unfold rexTexts; rw [List.map_map]; rfl
    rw [this, ← h1, List.map_map]
    symm
    rw [List.map_congr_left (g := id)]
    · simp
    · intro x hx
      have := h2 x hx
      split at this
      · rfl
      · cases this
  · cases h

noncomputable def outE (W : World) : Out where
  ev k := match errNames[k]? with | some n => .iface 136 (.pointer (some (adOf W n))) | none => .iface 0 (.bool false)
  ev_one k := by cases errNames[k]? <;> rfl
  ev_if k := by cases errNames[k]? <;> exact ⟨_, _, rfl⟩
  gl g := match errVars.idxOf? g with | some k => some (match errNames[k]? with | some n => .iface 136 (.pointer (some (adOf W n))) | none => .iface 0 (.bool false)) | none => none
  pl b := ∃ n ∈ errNames, b = (adOf W n).block
  gc g := if g = 3 then some (rexWords.map Value.string).toArray else none

theorem names_vars : errNames.map Tryd.prog.globalNamed = errVars.map some := by kernel_rfl
theorem names_types : ∀ n ∈ errNames, ∀ g, Tryd.prog.globalNamed n = some g → (Tryd.prog.globals[g]?).map (·.type) = some 50 := by
  have h : (errNames.all fun n => ((Tryd.prog.globalNamed n).bind fun g => (Tryd.prog.globals[g]?).map (·.type)) == some 50) = true := by kernel_rfl
  intro n hn g hg
  have := List.all_eq_true.1 h n hn
  rw [hg] at this
  simpa using this

theorem cell_lt {W : World} {g : Nat} {v : Value} (h : W.cell? ⟨g, 0, none⟩ = some v) : g < W.heap.size := by
  apply Classical.byContradiction
  intro hc
  simp only [World.cell?] at h
  rw [Array.getElem?_eq_none (by omega)] at h
  cases h

theorem trod_str {W : World} {k : Nat} {c : List Value} {s : List UInt8} {p : List MemPlace} (h : DataW.trod (fun _ => ()) Tryd.prog W 0 (fun _ => true) false k 9 c = some (.lit (.string s), p)) :
    ∃ b : ByteArray, c = [.string b] ∧ b.data.toList = s := by
  cases k with
  | zero => cases h
  | succ k =>
    have hu : Tryd.prog.underlying 9 = some .string := Tryd.underlying9
    unfold DataW.trod at h
    simp only [hu] at h
    split at h <;> try (cases h; done)
    all_goals rename_i h1
    all_goals try (cases h1; done)
    all_goals try (split at h <;> cases h; done)
    all_goals (
      split at h
      · rename_i s' _
        cases h
        exact ⟨s', rfl, rfl⟩
      · cases h)

theorem words_at {W : World} : ∀ {L : List (String × DataW Unit)} {ps : List MemPlace} {x : String × DataW Unit}, DataW.LaidVars Tryd.prog W L ps → x ∈ L → x.1 = "millwright/rex.words" → x.2 = wordsDatum →
    (∀ b off, MemPlace.cell b off ∈ ps → (∃ c t, W.heap[b]? = some (.cells c t (0, 0))) ∧ ∀ u v, W.cell? ⟨b, off, none⟩ = some (.iface u v) → Value.okWide Tryd.prog W .any 0 u v) →
    3 < W.heap.size ∧ ∃ t, W.heap[3]? = some (.cells (rexWords.map Value.string).toArray t (0, 0))
  | [], _, x, _, hx, _, _, _ => by cases hx
  | (n, d) :: r, ps, x, ⟨g, ty, cs, fuel, p, q, hg, ht, hv, hd, hq, e⟩, hx, h1, h2, hrows => by
    subst e
    rcases List.mem_cons.1 hx with rfl | hx
    · simp only at h1 h2
      subst h1 h2
      have hg4 : Tryd.prog.globalNamed "millwright/rex.words" = some 3 := by kernel_rfl
      obtain rfl : g = 3 := Option.some.inj (hg.symm.trans hg4)
      have ht4 : (Tryd.prog.globals[3]?).map (·.type) = some 89 := by kernel_rfl
      obtain rfl : ty = 89 := Option.some.inj (ht.symm.trans ht4)
      have hcs : cs.toList = rexWords.map Value.string := by
        cases fuel with
        | zero => cases hd
        | succ fuel =>
          unfold DataW.trod at hd
          simp only [show Tryd.prog.underlying 89 = some (.array 10 9) from Tryd.underlying89] at hd
          split at hd
          · rename_i hlen
            have hc10 : Tryd.prog.cellsOf 89 = 10 := by kernel_rfl
            have hc1 : Tryd.prog.cellsOf 9 = 1 := by kernel_rfl
            rw [hc10] at hlen
            obtain ⟨xs, hxs, he⟩ := Option.map_eq_some_iff.1 hd
            obtain ⟨hl, hat⟩ := mapM_some hxs
            have hfst : xs.map (·.1) = rexWords.map fun b => (DataW.lit (.string b.data.toList) : DataW Unit) := by
              have := congrArg Prod.fst he
              simpa [wordsDatum] using this
            refine List.ext_getElem? fun i => ?_
            by_cases hi : i < 10
            · obtain ⟨y, hy1, hy2⟩ := hat i i (by rw [List.getElem?_range hi])
              have hw : (rexWords.map fun b => (DataW.lit (.string b.data.toList) : DataW Unit))[i]? = some y.1 := by rw [← hfst, List.getElem?_map, hy1]; rfl
              rw [List.getElem?_map] at hw
              obtain ⟨b, hb, hb2⟩ := Option.map_eq_some_iff.1 hw
              obtain ⟨y1, y2⟩ := y
              simp only at hb2
              subst hb2
              rw [hc1, Nat.mul_one] at hy2
              obtain ⟨b', hb1, hb2⟩ := trod_str hy2
              have hbb : b' = b := by
                have := hb2
                cases b'; cases b
                simp only at this
                congr 1
                exact Array.toList_inj.1 this
              subst hbb
              have : cs.toList[i]? = some (.string b') := by
                have h9 := congrArg (fun l => l[0]?) hb1
                simpa [List.getElem?_take, List.getElem?_drop] using h9
              rw [this, List.getElem?_map, hb]
              rfl
            · rw [List.getElem?_eq_none (by omega), List.getElem?_eq_none (by simp [rexWords]; omega)]
          · cases hd
      have hsz : 0 < cs.size := by rw [← Array.length_toList, hcs]; simp [rexWords]
      obtain ⟨⟨c, t, h3⟩, _⟩ := hrows 3 0 (by simp [MemPlace.row]; omega)
      have hv' := hv
      simp only [World.var?, hg4, Option.bind_some, h3] at hv'
      obtain rfl : c = cs := Option.some.inj hv'
      refine ⟨(Array.getElem?_eq_some_iff.1 h3).1, t, ?_⟩
      rw [h3, ← hcs]
    · exact words_at hq hx h1 h2 fun b off hm => hrows b off (List.mem_append_right _ hm)

theorem law_outE {W : World} {L : List (String × DataW Unit)} (hsh : W.ShapedOpen Tryd.prog) (hL : laidMet Tryd.prog L W)
    (hn : (errNames.all fun n => L.any fun x => x.1 == n && isSent x.2) = true) (hw : (L.any fun x => x.1 == "millwright/rex.words" && isWords x.2) = true) : ∃ O : Out, GOkE O ∧ O.Glob (fun b => b < W.heap.size) W := by
  obtain ⟨ps, hv, hnd, hrows⟩ := hL
  obtain ⟨h1, h2⟩ := laid_ads L ps hv hnd hrows names_types
  have hin : ∀ n ∈ errNames, ∃ t, (n, sent t) ∈ L := fun n hn' => by
    obtain ⟨x, hx, hx2⟩ := List.any_eq_true.1 (List.all_eq_true.1 hn n hn')
    simp only [Bool.and_eq_true, beq_iff_eq] at hx2
    obtain ⟨t, ht⟩ := isSent_ok hx2.2
    exact ⟨t, by rw [← hx2.1, ← ht]; exact hx⟩
  have hnodup : errNames.Nodup := by decide
  have hvar : ∀ n ∈ errNames, W.var? Tryd.prog n = some #[.iface 136 (.pointer (some (adOf W n)))] ∧ ∃ c t, W.heap[(adOf W n).block]? = some (.cells c t (0, 0)) := fun n hn' => by
    obtain ⟨t, ht⟩ := hin n hn'
    obtain ⟨h3, h4⟩ := h1 _ ht hn' t rfl
    exact ⟨h3, (hrows _ _ h4).1⟩
  have hne : ∀ a ∈ errNames, ∀ b ∈ errNames, a ≠ b → adOf W a ≠ adOf W b := fun a ha b hb hab => by
    obtain ⟨t, ht⟩ := hin a ha
    obtain ⟨t', ht'⟩ := hin b hb
    exact pw_sym (R := fun x y => x.1 ∈ errNames → y.1 ∈ errNames → ∀ t t', x.2 = sent t → y.2 = sent t' → adOf W x.1 ≠ adOf W y.1) (fun x y h hy hx t t' e e' => (h hx hy t' t e' e).symm) h2 _ ht _ ht' (fun e => hab (congrArg Prod.fst e)) ha hb t t' rfl rfl
  have hlen : errNames.length = 18 := rfl
  have hev : ∀ k (hk : k < 18), (outE W).ev k = .iface 136 (.pointer (some (adOf W (errNames[k]'(by omega))))) := fun k hk => by
    show (match errNames[k]? with | some n => _ | none => _) = _
    rw [List.getElem?_eq_getElem (by omega)]
  have hmem : ∀ k (hk : k < 18), errNames[k]'(by omega) ∈ errNames := fun k hk => List.getElem_mem _
  have hidx : ∀ k g, errVars[k]? = some g → errVars.idxOf? g = some k := by
    have : ∀ k : Fin 18, ∀ g, errVars[k.val]? = some g → errVars.idxOf? g = some k.val := by decide
    intro k g hg
    have hk : k < 18 := (List.getElem?_eq_some_iff.1 hg).1
    exact this ⟨k, hk⟩ g hg
  refine ⟨outE W, { words := rfl, ptr := fun k hk => ⟨_, hev k hk, _, hmem k hk, rfl⟩, inj := fun i j hi hj e => ?_, var := fun k g hg => ?_ }, fun g v hg => ?_, ?_, ?_⟩
  · rw [hev i hi, hev j hj] at e
    have e' : adOf W (errNames[i]'(by omega)) = adOf W (errNames[j]'(by omega)) := by simpa using e
    apply Classical.byContradiction
    intro hij
    exact hne _ (hmem i hi) _ (hmem j hj) (fun e2 => hij ((List.getElem_inj hnodup).1 e2)) e'
  · have h4 := hidx k g hg
    show (match errVars.idxOf? g with | some k => _ | none => none) = _
    rw [h4]
    rfl
  · have hg' : (match errVars.idxOf? g with | some k => some ((outE W).ev k) | none => none) = some v := hg
    · cases hk : errVars.idxOf? g with
      | none => rw [hk] at hg'; cases hg'
      | some k =>
        rw [hk] at hg'
        have hgk : errVars[k]? = some g := by
          obtain ⟨hlt, h5, _⟩ := List.idxOf?_eq_some_iff.1 hk
          rw [List.getElem?_eq_getElem hlt]
          simpa using h5
        have hk18 : k < 18 := (List.getElem?_eq_some_iff.1 hgk).1
        have hv2 : (outE W).ev k = v := by simpa using hg'
        rw [hev k hk18] at hv2
        have hgn : Tryd.prog.globalNamed (errNames[k]'(by omega)) = some g := by
          have := congrArg (fun l => l[k]?) names_vars
          simp only [List.getElem?_map, hgk, List.getElem?_eq_getElem (show k < errNames.length by omega), Option.map_some, Option.some.injEq] at this
          exact this
        have hc := World.var?_cell hgn (hvar _ (hmem k hk18)).1 0
        have hc' : W.cell? ⟨g, 0, none⟩ = some v := by rw [← hv2]; simpa using hc
        exact ⟨cell_lt hc', hc'⟩
  · rintro b ⟨n, hn', rfl⟩
    obtain ⟨c, t, h3⟩ := (hvar n hn').2
    exact ⟨(Array.getElem?_eq_some_iff.1 h3).1, c, t, h3⟩
  · intro g arr hg
    have hg' : (if g = 3 then some (rexWords.map Value.string).toArray else none) = some arr := hg
    split at hg'
    · rename_i e
      subst e
      cases hg'
      obtain ⟨x, hx, hx2⟩ := List.any_eq_true.1 hw
      simp only [Bool.and_eq_true, beq_iff_eq] at hx2
      obtain ⟨h3, t, h4⟩ := words_at hv hx hx2.1 (isWords_ok hx2.2) hrows
      exact ⟨h3, t, h4⟩
    · cases hg'

def pIndexByte.f (k : Nat) (s : List UInt8) (c : Int) : Option Int := some (Lib.indexByte s c.toNat.toUInt8)

theorem pIndexByte.ok {U : Univ} (O : Out) (hO : GOkE O) (k : Nat) (s : List UInt8) (c : Int) (out : Int) (h : pIndexByte.f k s c = some out) :
    COk U O Tryd.prog 74 { ar := [.p .str s, .p (.int .u8) c], r := .p (.int .i64) out } := by
  intro S ι w vs hlt hgl has hbs hown
  simp only [VVs, VV.str_iff, VV.int_iff] at has
  obtain ⟨u0, us0, rfl, ⟨b0, rfl, rfl⟩, u1, us1, rfl, rfl, rfl⟩ := has
  cases h
  refine (Tryd.strings_IndexByte b0 c w).mono fun e w' ⟨he, hw⟩ => ?_
  subst hw
  exact ⟨_, S, ι, he, Nx.refl _ rfl rfl hlt, VV.int_iff.2 rfl⟩
theorem rd_boolq {U : Univ} {O : Out} {S : Nat → Prop} {w : World} {x : Bool} {cs : List Value} (h : Rd U O S w .bool x cs) : cs = [.bool x] := by
  cases h; rfl
def pCloneB.f (k : Nat) (xs : List Bool) : Option (List Bool) := if xs.length * 16 ≤ 140737488355328 then some xs else none
theorem pCloneB.ok {U : Univ} (O : Out) (hO : GOkE O) (k : Nat) (xs out : List Bool) (h : pCloneB.f k xs = some out) : COk U O Tryd.prog 53 { ar := [.p (.list .bool) xs], r := .vec 60500 1 0 out.length, bs' := [(60500, .row 4 .bool out false)], nn := [60500] } := by
  unfold pCloneB.f at h
  split at h
  case isFalse => cases h
  rename_i hlen
  cases h
  intro S ι w vs hlt hgl has hbs hown
  obtain ⟨u, us', rfl, hu, hus⟩ := has
  have hus : us' = [] := hus
  subst hus
  have fin : ∀ e w' (v' : Value) (news : List Value), e = Ending.returned v' → w'.ownsRow w.heap.size 4 1 v' xs.length news → Below w.heap.size w w' → (∀ (i : Nat) (h : i < xs.length), news[i]? = some (.bool xs[i])) →
      ∃ u S' ι', e = .returned u ∧ Nx U O (CSpec.l { ar := [.p (.list .bool) xs], r := .vec 60500 1 0 xs.length, bs' := [(60500, .row 4 .bool xs false)], nn := [60500] }) S ι w S' ι' w' ∧ VV U O S' ι' w' (.vec 60500 1 0 xs.length) u := fun e w' v' news he hrow hw hel => by
    obtain ⟨ι', h1, h2⟩ := Nx.rowBlk (U := U) (O := O) (t := .bool) (ι := ι) (d := 60500) (s := CSpec.l { ar := [.p (.list .bool) xs], r := .vec 60500 1 0 xs.length, bs' := [(60500, .row 4 .bool xs false)], nn := [60500] }) (xs := xs) hrow hw rfl rfl rfl rfl hlt fun i hi => by
      refine ⟨[.bool xs[i]], .bool _, fun j hj => ?_⟩
      obtain rfl : j = 0 := by simpa [Ty.width] using hj
      simpa [Ty.width] using hel i hi
    exact ⟨v', S, ι', he, h1, h2⟩
  rcases VV.list_iff.1 hu with ⟨rfl, rfl⟩ | ⟨rfl, ad, cap, rfl⟩ | ⟨b, o, cap, cs, rfl, hS, hcap, hel, hcell⟩
  · exact (cb_nil 0 0 w).mono fun e w' ⟨he, hw⟩ => fin e w' _ [] he (World.ownsRow_nil _ _ _ _) (hw ▸ Below.refl _ _) fun i hi => (Nat.not_lt_zero _ hi).elim
  · exact (cb_zero ad cap w).mono fun e w' ⟨v', he, hrow, hw⟩ => fin e w' v' [] he hrow hw fun i hi => (Nat.not_lt_zero _ hi).elim
  · have key : ∀ j, j < xs.length → w.cell? ⟨b, o + j, none⟩ = some (.bool (xs.getD j false)) := fun j hj => by
      have h2 := hcell j 0 hj (by simp [Ty.width])
      have h3 := rd_boolq (hel j hj)
      rw [h3] at h2
      have e1 : xs.getD j false = xs[j] := by simp [List.getD, hj]
      rw [e1]
      simp [Ty.width] at h2
      exact h2
    exact (cb_full b o xs.length cap xs w (Nat.le_refl _) (by omega) key).mono fun e w' ⟨v', he, hrow, hw⟩ => fin e w' v' _ he hrow hw fun i hi => by simp [hi]
def pIs.f (k : Nat) (e x : Nat) : Option Bool := if 0 < e ∧ e ≤ 18 ∧ 0 < x ∧ x ≤ 18 then some (e == x) else none

theorem pIs.ok {U : Univ} (O : Out) (hO : GOkE O) (k : Nat) (e x : Nat) (out : Bool) (h : pIs.f k e x = some out) :
    COk U O Tryd.prog 46 { ar := [.p .err e, .p .err x], r := .p .bool out } := by
  intro S ι w vs hlt hgl has hbs hown
  unfold pIs.f at h
  split at h
  · rename_i hc
    cases h
    obtain ⟨i, rfl⟩ : ∃ i, e = i + 1 := ⟨e - 1, by omega⟩
    obtain ⟨j, rfl⟩ : ∃ j, x = j + 1 := ⟨x - 1, by omega⟩
    simp only [VVs, VV.err_iff] at has
    obtain ⟨u0, us0, rfl, h0, u1, us1, rfl, h1, rfl⟩ := has
    rcases h0 with ⟨h0, _⟩ | ⟨i', h0, rfl⟩ | ⟨h0, _⟩
    · omega
    rotate_left
    · unfold unkE at h0; omega
    rcases h1 with ⟨h1, _⟩ | ⟨j', h1, rfl⟩ | ⟨h1, _⟩
    · omega
    rotate_left
    · unfold unkE at h1; omega
    obtain rfl : i' = i := by omega
    obtain rfl : j' = j := by omega
    obtain ⟨a, ha, hpa⟩ := hO.ptr i' (by omega)
    obtain ⟨b, hb, hpb⟩ := hO.ptr j' (by omega)
    by_cases hij : i' = j'
    · subst hij
      rw [ha]
      refine (is_same a w).mono fun e w' ⟨he, hw⟩ => ?_
      subst hw
      exact ⟨_, S, ι, he, Nx.refl _ rfl rfl hlt, by rw [VV.bool_iff]; simp⟩
    · have hne : a ≠ b := fun e => hij (hO.inj i' j' (by omega) (by omega) (by rw [ha, hb, e]))
      obtain ⟨ca, ta, h3⟩ := (hgl.2.1 _ hpa).2
      obtain ⟨cb, tb, h4⟩ := (hgl.2.1 _ hpb).2
      rw [ha, hb]
      refine (is_other a b ca cb ta tb w hne h3 h4).mono fun e w' ⟨he, hw⟩ => ?_
      subst hw
      exact ⟨_, S, ι, he, Nx.refl _ rfl rfl hlt, by rw [VV.bool_iff]; simp; exact hij⟩
  · cases h

end Go.Proofs.YteddmdkbeednmaaDoor
