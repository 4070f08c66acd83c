/- The abstract layer, part J: owned rows: made, lengthened, read, written, cut. -/
import Derived.Test.YthmbbdemecljpaaDoorK11AmI
import Derived.Laws.OwnMore
import Derived.Laws.MakeOwn
namespace Go.AM

section
variable {U : Univ} {O : Out} {P : Program} {S : Nat → Prop} {ι : Lay} {w : World} {rs : List (Nat × AVal U)} {a : Act} {ops : Array Oper} {o : Oper}

/-- The cells of a list's elements. -/
def rowCells (n : Nat) (cs : Nat → List Value) : List Value := (List.range n).flatMap cs

theorem rowCells_get {n k : Nat} {cs : Nat → List Value} (h : ∀ i, i < n → (cs i).length = k) {i j : Nat} (hi : i < n) (hj : j < k) : (rowCells n cs)[i * k + j]? = (cs i)[j]? :=
  flatMap_range_get n k cs h i j hi hj

/-- What the table of types says of a slice's type whose elements are read as t. -/
structure RowOk (P : Program) (U : Univ) (T E : TypeId) (t : Ty) (by_ : Nat) : Prop where
  sl : SlOk P U T E t
  info : ∃ i z, P.info? E = some i ∧ i.zero = some z ∧ i.size = t.width U.wd ∧ i.bytes = by_ ∧ z.cells.size = t.width U.wd
  pos : 0 < t.width U.wd

/-- A row as the kit has it. -/
theorem own_of {n wd off len : Nat} {E : TypeId} {t : Ty} {xs : List (t.den U.T)} {fx : Bool} {u : Value} (hwd : wd = t.width U.wd) (hB : BR U O S ι w n (.row E t xs fx)) (hv : VV U O S ι w (.vec n wd off len) u)
    (hoff : off = 0) (hlen : len = xs.length) : ∃ cs : Nat → List Value, (∀ (i : Nat) (h : i < xs.length), Rd U O S w t xs[i] (cs i)) ∧ w.ownsRow 0 E (t.width U.wd) u xs.length (rowCells xs.length cs) ∧
      (∀ b, u.ownBlock = some b → ∃ c, ι n = some (b, c)) := by
  subst hwd hoff hlen
  rcases hv with ⟨h1, _, h2, rfl⟩ | ⟨b, c, o, h1, h2, rfl, h3⟩
  · have hx : xs = [] := List.eq_nil_of_length_eq_zero h2
    subst hx
    exact ⟨fun _ => [], fun i hi => absurd hi (by simp), World.ownsRow_nil w 0 E _, fun b h => by cases h⟩
  · rcases hB with ⟨h4, _⟩ | ⟨b', c', arr, cs, h4, h5, h6, h7, h8, h9, h10, h11⟩
    · rw [h1] at h4; cases h4
    · rw [h1] at h4
      obtain ⟨rfl, rfl⟩ : b = b' ∧ c = c' := by simpa using h4
      have hl : ∀ i, i < xs.length → (cs i).length = t.width U.wd := fun i hi => (h10 i hi).length
      have hrl : (rowCells xs.length cs).length = xs.length * t.width U.wd := flatMap_range_length _ _ _ hl
      have ho : o = 0 := by
        rcases h3 with h3 | h3
        · simpa using h3
        · omega
      · subst ho
        refine ⟨cs, h10, ⟨hrl, .inr ⟨b, c, arr, rfl, Nat.zero_le _, h5, h8, h7, h6, ?_⟩⟩, fun b' hb' => ⟨c, by simp [Value.ownBlock] at hb'; rw [← hb']; exact h1⟩⟩
        apply List.ext_getElem?
        intro k
        by_cases hk : k < xs.length * t.width U.wd
        · rw [List.getElem?_take_of_lt hk, Array.getElem?_toList]
          have hw0 : 0 < t.width U.wd := by
            rcases Nat.eq_zero_or_pos (t.width U.wd) with h | h
            · rw [h] at hk; omega
            · exact h
          have hd := Nat.div_add_mod k (t.width U.wd)
          have hm := Nat.mod_lt k hw0
          have hi : k / t.width U.wd < xs.length := Nat.div_lt_of_lt_mul (by rw [Nat.mul_comm]; exact hk)
          have e : k = k / t.width U.wd * t.width U.wd + k % t.width U.wd := by rw [Nat.mul_comm]; exact hd.symm
          rw [e, h11 _ _ hi hm, rowCells_get hl hi hm]
        · rw [List.getElem?_eq_none (by simp; omega), List.getElem?_eq_none (by omega)]

/-- The same row, said again of what the kit has. -/
theorem own_to {n : Nat} {E : TypeId} {t : Ty} {xs : List (t.den U.T)} {u : Value} {cs : Nat → List Value} (hel : ∀ (i : Nat) (h : i < xs.length), Rd U O S w t xs[i] (cs i))
    (hown : w.ownsRow 0 E (t.width U.wd) u xs.length (rowCells xs.length cs)) {ι : Lay}
    (hι : ∀ b c, ι n = some (b, c) ↔ ∃ l, u = .slice (some ⟨b, 0, none⟩) l c) : BR U O S ι w n (.row E t xs false) ∧ VV U O S ι w (.vec n (t.width U.wd) 0 xs.length) u := by
  have hl : ∀ i, i < xs.length → (cs i).length = t.width U.wd := fun i hi => (hel i hi).length
  rcases hown.2 with ⟨rfl, h2⟩ | ⟨g, cap, cur, rfl, _, h3, h4, h5, h6, h7⟩
  · have hn : ι n = none := by
      cases h : ι n with
      | none => rfl
      | some x => obtain ⟨b, c⟩ := x; obtain ⟨l, h'⟩ := (hι b c).1 h; cases h'
    exact ⟨.inl ⟨hn, List.eq_nil_of_length_eq_zero h2, rfl⟩, .inl ⟨hn, rfl, h2, rfl⟩⟩
  · have hn : ι n = some (g, cap) := (hι g cap).2 ⟨_, rfl⟩
    refine ⟨.inr ⟨g, cap, cur, cs, hn, h3, h6, h5, h4, (fun h => by cases h), hel, fun i j hi hj => ?_⟩, .inr ⟨g, cap, 0, hn, by omega, by simp, .inl (by simp)⟩⟩
    have hlt : i * t.width U.wd + j < xs.length * t.width U.wd := by
      have h1 : (i + 1) * t.width U.wd ≤ xs.length * t.width U.wd := Nat.mul_le_mul_right _ (by omega)
      rw [Nat.add_mul] at h1
      omega
    rw [← rowCells_get hl hi hj, ← h7, List.getElem?_take_of_lt hlt, Array.getElem?_toList]

theorem flatMap_same {α β : Type} {l : List α} {f g : α → List β} (h : ∀ x ∈ l, f x = g x) : l.flatMap f = l.flatMap g := by
  induction l with
  | nil => rfl
  | cons x l ih => rw [List.flatMap_cons, List.flatMap_cons, h x List.mem_cons_self, ih fun y hy => h y (List.mem_cons_of_mem _ hy)]

theorem rowCells_append (m n : Nat) (cs ds : Nat → List Value) : rowCells m cs ++ rowCells n ds = rowCells (m + n) fun i => if i < m then cs i else ds (i - m) := by
  unfold rowCells
  rw [List.range_add, List.flatMap_append, List.flatMap_map]
  congr 1
  · exact flatMap_same fun i hi => by rw [if_pos (List.mem_range.1 hi)]
  · refine flatMap_same fun i _ => ?_
    rw [if_neg (by omega)]
    congr 1
    omega

/-- What stands in a slice that reads as a list, cell by cell. -/
theorem list_cells {t : Ty} {ys : List (t.den U.T)} {u : Value} (hpos : 0 < t.width U.wd) (h : VV U O S ι w (.p (.list t) ys) u) :
    ∃ (ds : Nat → List Value), (∀ (i : Nat) (h : i < ys.length), Rd U O S w t ys[i] (ds i)) ∧
      ((ys = [] ∧ u = .slice none 0 0) ∨ ∃ ad cap, u = .slice (some ad) ys.length cap ∧ ∀ j v, (rowCells ys.length ds)[j]? = some v → w.cell? (ad.add j) = some v) := by
  rcases VV.list_iff.1 h with ⟨rfl, rfl⟩ | ⟨rfl, ad, cap, rfl⟩ | ⟨b, o', cap, cs, rfl, hS, hcap, hel, hcell⟩
  · exact ⟨fun _ => [], fun i hi => absurd hi (by simp), .inl ⟨rfl, rfl⟩⟩
  · exact ⟨fun _ => [], fun i hi => absurd hi (by simp), .inr ⟨ad, cap, rfl, fun j v hj => by simp [rowCells] at hj⟩⟩
  · refine ⟨cs, hel, .inr ⟨⟨b, o', none⟩, cap, rfl, fun j v hj => ?_⟩⟩
    have hl : ∀ i, i < ys.length → (cs i).length = t.width U.wd := fun i hi => (hel i hi).length
    have hlt := (List.getElem?_eq_some_iff.1 hj).1
    have hlen : (rowCells ys.length cs).length = ys.length * t.width U.wd := flatMap_range_length _ _ _ hl
    have hk : j < ys.length * t.width U.wd := by omega
    have hd := Nat.div_add_mod j (t.width U.wd)
    have hm := Nat.mod_lt j hpos
    have hi : j / t.width U.wd < ys.length := Nat.div_lt_of_lt_mul (by rw [Nat.mul_comm]; exact hk)
    have e : j = j / t.width U.wd * t.width U.wd + j % t.width U.wd := by rw [Nat.mul_comm]; exact hd.symm
    rw [Addr.add_lit]
    rw [e] at hj ⊢
    rw [hcell _ _ hi hm, ← rowCells_get hl hi hm]
    exact hj

/-- The same of what is shown: the elements' own data lie where they lay. -/
theorem view_cells {t : Ty} {ys : List (t.den U.T)} {vw : List (Nat × Blk U)} {v : AVal U} {u : Value} (hpos : 0 < t.width U.wd) (hv : View U vw v (.p (.list t) ys)) (hb : ∀ x ∈ vw, BR U O S ι w x.1 x.2)
    (hu : VV U O S ι w v u) : ∃ (ds : Nat → List Value), (∀ (i : Nat) (h : i < ys.length), Rd U O S w t ys[i] (ds i)) ∧
      ((ys = [] ∧ u = .slice none 0 0) ∨ ∃ ad cap, u = .slice (some ad) ys.length cap ∧ ∀ j v, (rowCells ys.length ds)[j]? = some v → w.cell? (ad.add j) = some v) := by
  cases hv with
  | same => exact list_cells hpos hu
  | nilL _ => exact list_cells (ι := ι) hpos (by obtain ⟨rfl, _⟩ := hu; exact ⟨_, .lnil t, rfl⟩)
  | @row n e _ xs fx off len hin hl =>
    have hB := hb _ hin
    obtain ⟨ds, hd, hc⟩ := list_cells hpos ((View.row off len hin hl).ev hb hu)
    rcases hu with ⟨hn, rfl, rfl, rfl⟩ | ⟨b, c, o, hn, hoc, rfl, ho⟩
    · exact ⟨fun _ => [], fun i hi => absurd hi (by simp), .inl ⟨by simp, rfl⟩⟩
    · rcases hB with ⟨h1, _⟩ | ⟨b', c', arr, cs, h1, h2, h3, h4, h5, h6, h7, h8⟩
      · rw [hn] at h1; cases h1
      · have hlen : ((xs.drop off).take len).length = len := by simp; omega
        refine ⟨fun i => cs (off + i), fun i hi => ?_, .inr ⟨⟨b, o, none⟩, c - off, by rw [hlen], fun j v hj => ?_⟩⟩
        · have : ((xs.drop off).take len)[i] = xs[off + i]'(by omega) := by simp
          rw [this]
          exact h7 (off + i) (by omega)
        · rw [hlen] at hj
          rw [hn] at h1
          obtain ⟨rfl, rfl⟩ : b = b' ∧ c = c' := by simpa using h1
          have hl' : ∀ i, i < len → (cs (off + i)).length = t.width U.wd := fun i hi => (h7 (off + i) (by omega)).length
          have hlt := (List.getElem?_eq_some_iff.1 hj).1
          have hlen2 : (rowCells len fun i => cs (off + i)).length = len * t.width U.wd := flatMap_range_length _ _ _ hl'
          have hk : j < len * t.width U.wd := by omega
          have hd' := Nat.div_add_mod j (t.width U.wd)
          have hm := Nat.mod_lt j hpos
          have hi : j / t.width U.wd < len := Nat.div_lt_of_lt_mul (by rw [Nat.mul_comm]; exact hk)
          have e : j = j / t.width U.wd * t.width U.wd + j % t.width U.wd := by rw [Nat.mul_comm]; exact hd'.symm
          have ho' : o = off * t.width U.wd := by
            rcases ho with ho | ho
            · exact ho
            · have h0 : len = 0 := by omega
              rw [h0] at hi
              exact absurd hi (Nat.not_lt_zero _)
          subst ho'
          rw [Addr.add_lit, cell_of_row w b _ arr _ (0, 0) h2]
          rw [e] at hj ⊢
          rw [rowCells_get hl' hi hm] at hj
          rw [← hj, ← h8 (off + j / t.width U.wd) _ (by omega) hm, Nat.add_mul]
          congr 1
          omega

theorem exec_append {ρ : Operand → Value} {x y : Operand} {T T' : TypeId} (ho : o.op = .call { callee := .builtin .append, args := #[x, y], argTypes := #[T, T'] }) :
    execOp ρ o = vOf (Builtin.append_ #[T, T'] o.type #[ρ x, ρ y]) := by rw [exec_builtin ho]; simp [builtin, vOf]

/-- What is known of the world when a row has been lengthened, or a new one been made. -/
theorem nx_append {s : LSpec U} {d : Nat} {E : TypeId} {t : Ty} {zs : List (t.den U.T)} {w' : World} {u' : Value} {row : Option Nat} {es : Nat → List Value} (hpb : s.pb = [(d, .row E t zs false)]) (hnn : s.nn = [d])
    (hlt : ∀ b, S b → b < w.heap.size) (hg : w.grownBy w' row) (hrow : ∀ b, row = some b → ¬ S b ∧ b < w.heap.size ∧ ∃ n ∈ nm s.cb, ∃ c, ι n = some (b, c))
    (hel : ∀ (i : Nat) (h : i < zs.length), Rd U O S w t zs[i] (es i)) (hown : w'.ownsRow 0 E (t.width U.wd) u' zs.length (rowCells zs.length es))
    (hplace : ∀ b, u'.ownBlock = some b → w.heap.size ≤ b ∨ row = some b) :
    ∃ ι', Nx U O s S ι w S ι' w' ∧ VV U O S ι' w' (.vec d (t.width U.wd) 0 zs.length) u' := by
  have hst : ∀ b, S b → w'.heap[b]? = w.heap[b]? := fun b hb => hg.block b (hlt b hb) fun e => (hrow b e.symm).1 hb
  let ι' : Lay := fun n => if n = d then (match u' with | .slice (some ad) _ c => some (ad.block, c) | _ => none) else ι n
  have hι : ∀ b c, ι' d = some (b, c) ↔ ∃ l, u' = .slice (some ⟨b, 0, none⟩) l c := by
    intro b c
    simp only [ι', if_true]
    rcases hown.2 with ⟨rfl, _⟩ | ⟨g, cap, cur, rfl, _⟩
    · simp
    · simp only [Option.some.injEq, Prod.mk.injEq, Value.slice.injEq, Addr.mk.injEq, and_true]
      constructor
      · rintro ⟨rfl, rfl⟩; exact ⟨_, rfl, rfl, rfl⟩
      · rintro ⟨l, rfl, rfl, rfl⟩; exact ⟨rfl, rfl⟩
  obtain ⟨hB, hV⟩ := own_to (n := d) (fun i hi => (hel i hi).mono hst fun _ h => h) hown hι
  refine ⟨ι', ⟨hg.os, hg.tape, hg.output, hg.size, fun _ h => h, fun _ h => .inl h, fun b h => Nat.lt_of_lt_of_le (hlt b h) hg.size, fun b hb hnot => ?_, fun n hn => ?_, fun x hx => ?_, fun n hn b c hb => ?_, fun n hn m hm hne => ?_⟩, hV⟩
  · refine hg.block b hb fun e => ?_
    obtain ⟨_, _, n, hn, c, hc⟩ := hrow b e.symm
    exact hnot n hn c hc
  · rw [hnn] at hn
    exact if_neg (by simpa using hn)
  · rw [hpb] at hx
    simp at hx; subst hx
    exact hB
  · rw [hpb] at hn
    simp at hn; subst hn
    obtain ⟨l, hl⟩ := (hι b c).1 hb
    have hob : u'.ownBlock = some b := by rw [hl]; rfl
    have hlt' : b < w'.heap.size := (hown.lt b hob).2
    rcases hplace b hob with h | h
    · exact ⟨fun hS => absurd (hlt b hS) (by omega), hlt', .inl h⟩
    · obtain ⟨h1, _, h2⟩ := hrow b h
      exact ⟨h1, hlt', .inr h2⟩
  · rw [hpb] at hn hm
    simp at hn hm
    exact absurd (hn.trans hm.symm) hne

theorem ok_inj {α : Type} {x y : α} {w w' : World} (h : Result.ok x w = Result.ok y w') : x = y ∧ w = w' := by injection h with h1 h2; exact ⟨h1, h2⟩

/-- Lengthened, with where the new row lies. -/
theorem run_append_place {T ty E : TypeId} {t : Ty} {by_ : Nat} (hT : RowOk P U T E t by_) {v : Value} {n : Nat} {xs : List Value} (hown : w.ownsRow 0 E (t.width U.wd) v n xs)
    (ad : Addr) (m c : Nat) {news : List Value} (hl : news.length = m * t.width U.wd) (hnews : ∀ j u, news[j]? = some u → w.cell? (ad.add j) = some u) (h1 : ∀ u ∈ news, u.oneCell' = true)
    (h63 : n + m ≤ maxLen) (hbytes : (n + m) * by_ ≤ 140737488355328) :
    ∃ v' w', (Builtin.append_ #[T, T] ty #[v, .slice (some ad) m c]).run P w = .ok v' w' ∧ w'.ownsRow 0 E (t.width U.wd) v' (n + m) (xs ++ news) ∧ w.grownBy w' v.ownBlock ∧
      ∀ b, v'.ownBlock = some b → w.heap.size ≤ b ∨ v.ownBlock = some b := by
  obtain ⟨i, z, hi, hz, hs, hby, hzs⟩ := hT.info
  obtain ⟨v', w', hr, ho, hg, hnil⟩ := run_append_own (P := P) w 0 T ty E i z (t.width U.wd) by_ hT.sl.under hi hz hs hby hzs hT.pos v n xs hown ad m c news hl hnews h1 h63 hbytes (Nat.zero_le _)
  refine ⟨v', w', hr, ho, hg, ?_⟩
  rcases hown.2 with ⟨rfl, rfl⟩ | ⟨g, cap, cur, rfl, _, h3, h4, h5, h6, h7⟩
  · by_cases hm : m = 0
    · rw [hnil.2 ⟨rfl, hm⟩]; intro b hb; cases hb
    · have h2 := run_append_nil (P := P) w T ty E i z hT.sl.under hi hz ad m c news (by rw [hs]; exact hl) hnews (by omega) (by unfold maxLen at h63; omega) (by rw [hby]; rw [Nat.zero_add] at hbytes; omega)
      obtain ⟨rfl, _⟩ := ok_inj (hr.symm.trans h2)
      intro b hb
      simp [Value.ownBlock] at hb
      exact .inl (by omega)
  · by_cases hroom : n + m ≤ cap
    · obtain ⟨w'', h2, _⟩ := run_append_fits (P := P) (ty := ty) (w := w) 0 T E i (t.width U.wd) hT.sl.under hi hs g n cap xs hown ad m c news hl hnews h1 hroom
      obtain ⟨rfl, _⟩ := ok_inj (hr.symm.trans h2)
      exact fun b hb => .inr hb
    · have h2 := run_append_grow (P := P) w T ty E i z hT.sl.under hi hz ⟨g, 0, none⟩ n cap xs (by rw [hs]; exact hown.1) (hown.cells (g := g) rfl) ad m c news (by rw [hs]; exact hl) hnews (by omega)
        (by unfold maxLen at h63; omega) (growslice_fits (by omega) (by rw [hby]; exact hbytes))
      obtain ⟨rfl, _⟩ := ok_inj (hr.symm.trans h2)
      intro b hb
      simp [Value.ownBlock] at hb
      exact .inl (by omega)

/-- The most elements of a row here. -/
def LIM : Nat := 4294967296

/-- A row is lengthened: by a list, or by what another row shows. -/
theorem sok_append {T E : TypeId} {t : Ty} {by_ n d : Nat} {xs ys : List (t.den U.T)} {fx : Bool} {x y : Operand} {v : AVal U} {vw : List (Nat × Blk U)} (hg : o.guard = none) (_ : o.dst = some d)
    (ho : o.op = .call { callee := .builtin .append, args := #[x, y], argTypes := #[T, T] }) (hT : RowOk P U T E t by_) (hby : by_ ≤ 32768)
    (hx : Opd U rs x (.vec n (t.width U.wd) 0 xs.length)) (hy : Opd U rs y v) (hv : View U vw v (.p (.list t) ys)) (_ : n ∉ nm vw) (hlim : xs.length + ys.length ≤ LIM) :
    SOk U O P ops o { rs := rs, ro := vw, cb := [(n, .row E t xs fx)], ws := .vec d (t.width U.wd) 0 (xs.length + ys.length), pb := [(d, .row E t (xs ++ ys) false)], nn := [d] } := by
  intro S ι w a hlt hgl hrs hro hcb hown K Q hK
  have hB := hcb _ List.mem_cons_self
  obtain ⟨cs, hel, hrow, hplace⟩ := own_of rfl hB (hx.ev hrs) rfl rfl
  obtain ⟨ds, hdl, hys⟩ := view_cells hT.pos hv hro (hy.ev hrs)
  have hsz : (xs.length + ys.length) * by_ ≤ 140737488355328 := by
    have h1 : (xs.length + ys.length) * by_ ≤ 4294967296 * 32768 := Nat.mul_le_mul (by unfold LIM at hlim; exact hlim) hby
    omega
  have h63 : xs.length + ys.length ≤ maxLen := by unfold LIM at hlim; unfold maxLen; omega
  have hnewl : (rowCells ys.length ds).length = ys.length * t.width U.wd := flatMap_range_length _ _ _ fun i hi => (hdl i hi).length
  have hone : ∀ u ∈ rowCells ys.length ds, u.oneCell' = true := fun u hu => by
    obtain ⟨i, hi, hu⟩ := List.mem_flatMap.1 hu
    exact (hdl i (List.mem_range.1 hi)).one u hu
  obtain ⟨v', w', hr, ho', hg', hp⟩ : ∃ v' w', (Builtin.append_ #[T, T] o.type #[a.eval x, a.eval y]).run P w = .ok v' w' ∧
      w'.ownsRow 0 E (t.width U.wd) v' (xs.length + ys.length) (rowCells xs.length cs ++ rowCells ys.length ds) ∧ w.grownBy w' (a.eval x).ownBlock ∧ ∀ b, v'.ownBlock = some b → w.heap.size ≤ b ∨ (a.eval x).ownBlock = some b := by
    rcases hys with ⟨rfl, hu⟩ | ⟨ad, cap, hu, hc⟩
    · obtain ⟨i, z, hi, hz, hs, hb', hzs⟩ := hT.info
      rw [hu]
      refine ⟨_, w, run_append_owned_none (P := P) (ty := o.type) (w := w) 0 T E i (t.width U.wd) hT.sl.under hi _ _ _ hrow, ?_, ⟨rfl, rfl, rfl, Nat.le_refl _, fun _ _ _ => rfl⟩, fun b hb => .inr hb⟩
      simpa [rowCells] using hrow
    · rw [hu]
      exact run_append_place hT hrow ad ys.length cap hnewl hc hone h63 hsz
  have hzl : (xs ++ ys).length = xs.length + ys.length := List.length_append
  have hels : ∀ (i : Nat) (h : i < (xs ++ ys).length), Rd U O S w t (xs ++ ys)[i] (if i < xs.length then cs i else ds (i - xs.length)) := fun i hi => by
    by_cases h : i < xs.length
    · rw [if_pos h, List.getElem_append_left h]; exact hel i h
    · rw [if_neg h, List.getElem_append_right (by omega)]
      exact hdl (i - xs.length) (by omega)
  rw [rowCells_append, ← hzl] at ho'
  obtain ⟨ι', hN, hV⟩ := nx_append (s := { rs := rs, ro := vw, cb := [(n, .row E t xs fx)], ws := .vec d (t.width U.wd) 0 (xs.length + ys.length), pb := [(d, .row E t (xs ++ ys) false)], nn := [d] })
    (ι := ι) rfl rfl hlt hg' (fun b hb => by
      obtain ⟨c, hc⟩ := hplace b hb
      have := hown.out n (by simp) b c hc
      exact ⟨this.1, this.2, n, by simp, c, hc⟩) hels ho' hp
  refine opWp_plain hg ?_
  unfold Oper.wp
  rw [exec_append ho, run_vOf hr]
  rw [hzl] at hV
  exact hK v' S ι' w' hN hV

/-- The nil slice is lengthened. -/
theorem sok_appendN {T E : TypeId} {t : Ty} {by_ d : Nat} {ys : List (t.den U.T)} {x y : Operand} {v : AVal U} {vw : List (Nat × Blk U)} (hg : o.guard = none) (_ : o.dst = some d)
    (ho : o.op = .call { callee := .builtin .append, args := #[x, y], argTypes := #[T, T] }) (hT : RowOk P U T E t by_) (hby : by_ ≤ 32768)
    (hx : Opd U rs x (.lit (.slice none 0 0))) (hy : Opd U rs y v) (hv : View U vw v (.p (.list t) ys)) (hlim : ys.length ≤ LIM) :
    SOk U O P ops o { rs := rs, ro := vw, ws := .vec d (t.width U.wd) 0 ys.length, pb := [(d, .row E t ys false)], nn := [d] } := by
  intro S ι w a hlt hgl hrs hro hcb hown K Q hK
  have hx0 : a.eval x = .slice none 0 0 := (hx.ev hrs).1
  obtain ⟨ds, hdl, hys⟩ := view_cells hT.pos hv hro (hy.ev hrs)
  have hsz : ys.length * by_ ≤ 140737488355328 := by
    have h1 : ys.length * by_ ≤ 4294967296 * 32768 := Nat.mul_le_mul (by unfold LIM at hlim; exact hlim) hby
    omega
  have h63 : ys.length ≤ maxLen := by unfold LIM at hlim; unfold maxLen; omega
  have hnewl : (rowCells ys.length ds).length = ys.length * t.width U.wd := flatMap_range_length _ _ _ fun i hi => (hdl i hi).length
  have hone : ∀ u ∈ rowCells ys.length ds, u.oneCell' = true := fun u hu => by
    obtain ⟨i, hi, hu⟩ := List.mem_flatMap.1 hu
    exact (hdl i (List.mem_range.1 hi)).one u hu
  have hrow := World.ownsRow_nil w 0 E (t.width U.wd)
  obtain ⟨v', w', hr, ho', hg', hp⟩ : ∃ v' w', (Builtin.append_ #[T, T] o.type #[a.eval x, a.eval y]).run P w = .ok v' w' ∧
      w'.ownsRow 0 E (t.width U.wd) v' ys.length (rowCells ys.length ds) ∧ w.grownBy w' none ∧ ∀ b, v'.ownBlock = some b → w.heap.size ≤ b := by
    rw [hx0]
    rcases hys with ⟨rfl, hu⟩ | ⟨ad, cap, hu, hc⟩
    · obtain ⟨i, z, hi, hz, hs, hb', hzs⟩ := hT.info
      rw [hu]
      refine ⟨_, w, run_append_owned_none (P := P) (ty := o.type) (w := w) 0 T E i (t.width U.wd) hT.sl.under hi _ _ _ hrow, ?_, ⟨rfl, rfl, rfl, Nat.le_refl _, fun _ _ _ => rfl⟩, fun b hb => by cases hb⟩
      simpa [rowCells] using hrow
    · rw [hu]
      obtain ⟨v', w', h1, h2, h3, h4⟩ := run_append_place (ty := o.type) hT hrow ad ys.length cap hnewl hc hone (by simpa using h63) (by simpa using hsz)
      exact ⟨v', w', h1, by simpa using h2, h3, fun b hb => (h4 b hb).elim id fun h => by cases h⟩
  obtain ⟨ι', hN, hV⟩ := nx_append (s := { rs := rs, ro := vw, ws := .vec d (t.width U.wd) 0 ys.length, pb := [(d, .row E t ys false)], nn := [d] }) (ι := ι) rfl rfl hlt hg' (fun b hb => by cases hb) hdl ho' (fun b hb => .inl (hp b hb))
  refine opWp_plain hg ?_
  unfold Oper.wp
  rw [exec_append ho, run_vOf hr]
  exact hK v' S ι' w' hN hV
end
end Go.AM
