/- The abstract layer, part L: what the form's reading of an argument says here. -/
import Derived.Test.YthmbbdemecljpaaDoorK11AmK
import Derived.WideShapes
import Derived.ChangeShapes
import Derived.ProofKit
namespace Go.AM
open Go.WideShapes Go.ChangeShapes

/-- What is known of data that were read: numbers fit their kinds, nothing is longer than memory bears. -/
inductive Wf (U : Univ) : (t : Ty) → t.den U.T → Prop
  | bool (b : Bool) : Wf U .bool b
  | int (k : IntKind) (n : Int) (h : (Lit.int k n).wf = true) : Wf U (.int k) n
  | str (s : List UInt8) (h : s.length ≤ maxLen) : Wf U .str s
  | unit : Wf U .unit ()
  | pair {a b : Ty} {x : a.den U.T} {y : b.den U.T} : Wf U a x → Wf U b y → Wf U (.pair a b) (x, y)
  | named {n : Nat} {x : U.T n} : Wf U (U.body n) (U.out n x) → Wf U (.named n) x
  | list {t : Ty} (xs : List (t.den U.T)) (hl : xs.length ≤ maxLen) (h : ∀ x ∈ xs, Wf U t x) : Wf U (.list t) xs
  | arr {n : Nat} {t : Ty} (xs : List (t.den U.T)) (hl : xs.length = n) (h : ∀ x ∈ xs, Wf U t x) : Wf U (.arr n t) xs

/-- A struct's fields against the type of its fields. -/
def FieldsOk (P : Program) (U : Univ) (tab : TypeId → Option Ty) : List Field → Nat → Ty → Prop
  | [], _, t => t = .unit
  | f :: fs, off, t => ∃ a b, t = .pair a b ∧ f.offset = off ∧ tab f.type = some a ∧ P.cellsOf f.type = a.width U.wd ∧ FieldsOk P U tab fs (off + a.width U.wd) b

def TabAt (P : Program) (U : Univ) (tab : TypeId → Option Ty) (T : TypeId) : Ty → Prop
  | .bool => P.underlying T = some .bool
  | .int k => P.underlying T = some (.int k)
  | .str => P.underlying T = some .string
  | .list t => ∃ E, P.underlying T = some (.slice E) ∧ tab E = some t ∧ P.cellsOf E = t.width U.wd ∧ 0 < t.width U.wd
  | .arr n t => ∃ E, P.underlying T = some (.array n E) ∧ tab E = some t ∧ P.cellsOf E = t.width U.wd ∧ P.cellsOf T = n * t.width U.wd
  | .named n => ∃ fs, P.underlying T = some (.struct fs) ∧ P.cellsOf T = U.wd n ∧ FieldsOk P U tab fs.toList 0 (U.body n)
  | _ => False

/-- A table of types: which are read, and as what. -/
def TabOk (P : Program) (U : Univ) (tab : TypeId → Option Ty) : Prop := ∀ T t, tab T = some t → TabAt P U tab T t

section
variable {U : Univ} {O : Out} {P : Program} {H : Type} {enc : TypeId × Value → H} {W : World} {base : Nat} {sp : Nat → Bool} {held : Bool} {tab : TypeId → Option Ty}

theorem mapM_some {α β : Type} {f : α → Option β} : ∀ {l : List α} {r : List β}, l.mapM f = some r → r.length = l.length ∧ ∀ (i : Nat) (x : α), l[i]? = some x → ∃ y, r[i]? = some y ∧ f x = some y
  | [], r, h => by simp at h; subst h; exact ⟨rfl, fun i x h => by simp at h⟩
  | a :: l, r, h => by
    rw [List.mapM_cons] at h
    simp only [Option.bind_eq_bind, Option.bind_eq_some_iff, Option.pure_def, Option.some.injEq] at h
    obtain ⟨y, hy, ys, hys, rfl⟩ := h
    obtain ⟨h1, h2⟩ := mapM_some hys
    refine ⟨by simp [h1], fun i x hx => ?_⟩
    cases i with
    | zero => simp at hx; subst hx; exact ⟨y, rfl, hy⟩
    | succ i => simpa using h2 i x (by simpa using hx)

theorem cells?_some {b o n : Nat} {a : Addr} {l : List Value} (ha : a = ⟨b, o, none⟩) (h : W.cells? base a n = some l) : l.length = n ∧ ∀ j, j < n → W.cell? ⟨b, o + j, none⟩ = l[j]? := by
  subst ha
  unfold World.cells? at h
  split at h
  · obtain ⟨h1, h2⟩ := mapM_some h
    refine ⟨by simpa using h1, fun j hj => ?_⟩
    obtain ⟨y, h3, h4⟩ := h2 j j (by rw [List.getElem?_range hj])
    rw [Addr.add_lit] at h4
    rw [h4, h3]
  · cases h

/-- Memory of the time: all blocks that are there. -/
abbrev There (W : World) : Nat → Prop := fun b => b < W.heap.size

def Good (U : Univ) (O : Out) (W : World) (t : Ty) (cs : List Value) : Prop := ∃ x : t.den U.T, Rd U O (There W) W t x cs ∧ Wf U t x

theorem fields_rd {n : Nat} {cs : List Value} (ih : ∀ T t cs d p, tab T = some t → DataW.trod enc P W base sp held n T cs = some (d, p) → Good U O W t cs) :
    ∀ (fs : List Field) (off : Nat) (t : Ty) (r : List (DataW H × List MemPlace)), FieldsOk P U tab fs off t →
      fs.mapM (fun f => DataW.trod enc P W base sp held n f.type ((cs.drop f.offset).take (P.cellsOf f.type))) = some r → cs.length = off + t.width U.wd → Good U O W t (cs.drop off)
  | [], off, t, r, hf, _, hl => by
    subst hf
    refine ⟨(), ?_, .unit⟩
    rw [List.drop_of_length_le (by simp [Ty.width] at hl; omega)]
    exact .unit
  | f :: fs, off, t, r, hf, h, hl => by
    obtain ⟨a, b, rfl, ho, ht, hc, hrest⟩ := hf
    rw [List.mapM_cons] at h
    simp only [Option.bind_eq_bind, Option.bind_eq_some_iff, Option.pure_def, Option.some.injEq] at h
    obtain ⟨y, hy, ys, hys, rfl⟩ := h
    rw [ho, hc] at hy
    obtain ⟨x, hx, wx⟩ := ih _ _ _ y.1 y.2 ht hy
    obtain ⟨z, hz, wz⟩ := fields_rd ih fs (off + a.width U.wd) b ys hrest hys (by simp [Ty.width] at hl; omega)
    refine ⟨(x, z), ?_, .pair wx wz⟩
    have : cs.drop off = (cs.drop off).take (a.width U.wd) ++ cs.drop (off + a.width U.wd) := by rw [← List.drop_drop, List.take_append_drop]
    rw [this]
    exact .pair hx hz

theorem choose_list {t : Ty} {n : Nat} {cs : Nat → List Value} (h : ∀ i, i < n → Good U O W t (cs i)) : ∃ xs : List (t.den U.T), xs.length = n ∧ (∀ (i : Nat) (hi : i < xs.length), Rd U O (There W) W t xs[i] (cs i)) ∧ ∀ x ∈ xs, Wf U t x := by
  induction n with
  | zero => exact ⟨[], rfl, fun i hi => absurd hi (by simp), fun x hx => by cases hx⟩
  | succ n ih =>
    obtain ⟨xs, h1, h2, h3⟩ := ih fun i hi => h i (by omega)
    obtain ⟨x, h4, h5⟩ := h n (by omega)
    refine ⟨xs ++ [x], by simp [h1], fun i hi => ?_, fun y hy => ?_⟩
    · by_cases e : i < xs.length
      · rw [List.getElem_append_left e]; exact h2 i e
      · have : i = n := by simp at hi; omega
        subst this
        rw [List.getElem_append_right (by omega)]
        simpa using h4
    · rcases List.mem_append.1 hy with hy | hy
      · exact h3 y hy
      · simp at hy; subst hy; exact h5

theorem trod_rd (hT : TabOk P U tab) : ∀ (n : Nat) (T : TypeId) (t : Ty) (cs : List Value) (d : DataW H) (p : List MemPlace), tab T = some t → DataW.trod enc P W base sp held n T cs = some (d, p) → Good U O W t cs := by
  intro n
  induction n with
  | zero => intro T t cs d p _ h; simp [DataW.trod] at h
  | succ n ih =>
    intro T t cs d p ht h
    have hat := hT T t ht
    cases t with
    | bool =>
      simp only [TabAt] at hat
      unfold DataW.trod at h
      simp only [hat] at h
      split at h <;> simp_all
      exact ⟨_, .bool _, .bool _⟩
    | int k =>
      simp only [TabAt] at hat
      unfold DataW.trod at h
      simp only [hat] at h
      split at h <;> simp_all
      exact ⟨_, .int _ _, .int _ _ (by simp_all)⟩
    | str =>
      simp only [TabAt] at hat
      unfold DataW.trod at h
      simp only [hat] at h
      split at h <;> simp_all
      exact ⟨_, .str _, .str _ (by simp_all)⟩
    | list t =>
      obtain ⟨E, hu, hE, hc, hpos⟩ := hat
      unfold DataW.trod at h
      simp only [hu] at h
      split at h <;> try (simp_all; done)
      · exact ⟨[], .lnil t, .list [] (by simp) fun x hx => by cases hx⟩
      · rename_i e a len cap heq
        obtain rfl : E = e := by simpa using heq
        split at h
        · rename_i hcond
          simp only [Option.bind_eq_some_iff, Option.map_eq_some_iff] at h
          obtain ⟨elems, hel, _⟩ := h
          obtain ⟨h1, h2⟩ := mapM_some hel
          obtain ⟨b, off, spot⟩ := a
          have hlen : elems.length = len := by simpa using h1
          have hgood : ∀ i, i < len → ∃ l, W.cells? base (Addr.add ⟨b, off, spot⟩ (i * P.cellsOf E)) (P.cellsOf E) = some l ∧ Good U O W t l := fun i hi => by
            obtain ⟨y, _, hy⟩ := h2 i i (by rw [List.getElem?_range hi])
            simp only [Option.bind_eq_some_iff] at hy
            obtain ⟨l, hl, hl'⟩ := hy
            exact ⟨l, hl, ih E t l y.1 y.2 hE hl'⟩
          have hgood' : ∀ i, ∃ l, i < len → (∀ j, j < t.width U.wd → W.cell? ⟨b, off + (i * t.width U.wd + j), none⟩ = l[j]?) ∧ Good U O W t l ∧ spot = none := fun i => by
            by_cases hi : i < len
            · obtain ⟨l, hl, hg⟩ := hgood i hi
              obtain ⟨l0, hl0, _⟩ := hgood 0 (by omega)
              have hsp : spot = none := by
                unfold World.cells? at hl0
                split at hl0
                · obtain ⟨_, h4⟩ := mapM_some hl0
                  obtain ⟨y, _, h5⟩ := h4 0 0 (by rw [List.getElem?_range (by omega)])
                  have h6 : (Addr.add (Addr.add ⟨b, off, spot⟩ (0 * P.cellsOf E)) 0) = ⟨b, off, spot⟩ := by simp [Addr.add]
                  rw [h6] at h5
                  unfold World.cell? at h5
                  cases spot with
                  | none => rfl
                  | some z => simp at h5; split at h5 <;> cases h5
                · cases hl0
              subst hsp
              rw [Addr.add_lit] at hl
              obtain ⟨_, h4⟩ := cells?_some rfl hl
              refine ⟨l, fun _ => ⟨fun j hj => ?_, hg, rfl⟩⟩
              rw [← h4 j (by rw [hc]; exact hj), hc, Nat.add_assoc]
            · exact ⟨[], fun h => absurd h hi⟩
          let cs : Nat → List Value := fun i => Classical.choose (hgood' i)
          have hcs : ∀ i, i < len → (∀ j, j < t.width U.wd → W.cell? ⟨b, off + (i * t.width U.wd + j), none⟩ = (cs i)[j]?) ∧ Good U O W t (cs i) ∧ spot = none := fun i hi => Classical.choose_spec (hgood' i) hi
          obtain ⟨xs, h3, h4, h5⟩ := choose_list (cs := cs) (n := len) fun i hi => (hcs i hi).2.1
          subst h3
          by_cases h0 : xs = []
          · subst h0
            exact ⟨[], .lemp t _ cap, .list [] (by simp) fun x hx => by cases hx⟩
          · have hp : 0 < xs.length := List.length_pos_iff.2 h0
            obtain ⟨h6, ⟨x0, hr0, _⟩, hsp⟩ := hcs 0 hp
            subst hsp
            have hb : b < W.heap.size := by
              have h7 := h6 0 hpos
              have h8 : (0 : Nat) < (cs 0).length := by rw [hr0.length]; exact hpos
              rw [List.getElem?_eq_getElem h8] at h7
              exact World.block_lt_of_cell? W _ h7
            exact ⟨xs, .list t xs b off cap cs hb hcond.2.1 h4 fun i j hi hj => (hcs i hi).1 j hj, .list xs (by have := hcond.2.1; have := hcond.2.2; omega) h5⟩
        · cases h
    | arr m t =>
      obtain ⟨E, hu, hE, hc, hsz⟩ := hat
      unfold DataW.trod at h
      simp only [hu] at h
      split at h
      · rename_i hl
        simp only [Option.map_eq_some_iff] at h
        obtain ⟨r, hr, _⟩ := h
        obtain ⟨_, h2⟩ := mapM_some hr
        obtain ⟨xs, h3, h4, h5⟩ := choose_list (U := U) (O := O) (W := W) (t := t) (cs := fun i => (cs.drop (i * t.width U.wd)).take (t.width U.wd)) (n := m) fun i hi => by
          obtain ⟨y, _, hy⟩ := h2 i i (by rw [List.getElem?_range hi])
          rw [hc] at hy
          exact ih E t _ y.1 y.2 hE hy
        refine ⟨xs, ?_, .arr xs h3 h5⟩
        have hcs : cs = (List.range m).flatMap fun i => (cs.drop (i * t.width U.wd)).take (t.width U.wd) := by
          have hlen : cs.length = m * t.width U.wd := by rw [hl]; exact hsz
          have : ∀ k, k ≤ m → (List.range k).flatMap (fun i => (cs.drop (i * t.width U.wd)).take (t.width U.wd)) = cs.take (k * t.width U.wd) := by
            intro k
            induction k with
            | zero => intro _; simp
            | succ k ih2 =>
              intro hk
              rw [List.range_succ, List.flatMap_append, ih2 (by omega), List.flatMap_cons, List.flatMap_nil, List.append_nil, Nat.add_mul, Nat.one_mul, List.take_add]
          rw [this m (Nat.le_refl _), ← hlen, List.take_length]
        rw [hcs]
        exact .arr m t xs _ h3 h4
      · cases h
    | named n =>
      obtain ⟨fs, hu, hc, hf⟩ := hat
      unfold DataW.trod at h
      simp only [hu] at h
      split at h
      · rename_i hl
        simp only [Option.map_eq_some_iff] at h
        obtain ⟨r, hr, _⟩ := h
        obtain ⟨x, hx, wx⟩ := fields_rd (U := U) (O := O) (fun T t cs d p hT' => ih T t cs d p hT') fs.toList 0 (U.body n) r hf hr (by rw [hl, hc, U.wd_ok]; omega)
        simp only [List.drop_zero] at hx
        exact ⟨U.inn n x, .named n _ (by rw [U.out_inn]; exact hx), .named (by rw [U.out_inn]; exact wx)⟩
      · cases h
    | _ => exact hat.elim
end
end Go.AM
