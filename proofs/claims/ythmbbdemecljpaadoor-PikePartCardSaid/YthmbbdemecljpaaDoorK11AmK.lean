/- The abstract layer, part K: rows written out, rows made, their elements, cuts; structs put together. -/
import Derived.Test.YthmbbdemecljpaaDoorK11AmJ
namespace Go.AM

section
variable {U : Univ} {O : Out} {P : Program} {S : Nat → Prop} {ι : Lay} {w : World} {rs : List (Nat × AVal U)} {a : Act} {ops : Array Oper} {o : Oper}

/-- Values put into cells, one behind the other. -/
theorem fold_cells (off : Nat) : ∀ (l : List Value) (k : Nat) (arr : Array Value), off + k + l.length ≤ arr.size →
    ((l.zipIdx k).foldl (fun cs x => cs.setIfInBounds (off + x.2) x.1) arr).toList = arr.toList.take (off + k) ++ l ++ arr.toList.drop (off + k + l.length)
  | [], k, arr, _ => by simp
  | c :: l, k, arr, h => by
    rw [List.zipIdx_cons, List.foldl_cons, fold_cells off l (k + 1) _ (by simp at h ⊢; omega)]
    simp only [Array.toList_setIfInBounds]
    have e := list_seg_step arr.toList (off + k) c l (by simp at h ⊢; omega)
    simpa [Nat.add_assoc] using e

theorem fold_cells' (off : Nat) (v : Array Value) (arr : Array Value) (h : off + v.size ≤ arr.size) :
    (v.zipIdx.foldl (fun cs (x : Value × Nat) => cs.setIfInBounds (off + x.2) x.1) arr).toList = arr.toList.take off ++ v.toList ++ arr.toList.drop (off + v.size) := by
  have := fold_cells off v.toList 0 arr (by simpa using h)
  rw [← Array.foldl_toList, Array.toList_zipIdx]
  simpa using this

/-- Parts that fill cells from place k on, in order. -/
theorem fill_all (place : Nat → Option (Nat × Nat)) : ∀ (l : List (Nat × Value)) (off : Nat) (arr : Array Value),
    (∀ (done rest : List (Nat × Value)) (x : Nat × Value), l = done ++ x :: rest → place x.1 = some (off + (done.map fun y => y.2.cells.size).sum, x.2.cells.size)) →
    off + (l.map fun y => y.2.cells.size).sum ≤ arr.size →
    ∃ out, Instr.fill place arr l = some out ∧ out.size = arr.size ∧ out.toList = arr.toList.take off ++ cellsOf (l.map (·.2)) ++ arr.toList.drop (off + (l.map fun y => y.2.cells.size).sum)
  | [], off, arr, _, _ => ⟨arr, rfl, rfl, by simp [cellsOf]⟩
  | (i, v) :: l, off, arr, hp, hs => by
    have h0 := hp [] l (i, v) rfl
    simp only [List.map_nil, List.sum_nil, Nat.add_zero] at h0
    simp only [List.map_cons, List.sum_cons] at hs
    have hfit : off + v.cells.size ≤ arr.size := by omega
    have harr := fold_cells' off v.cells arr hfit
    generalize harr' : v.cells.zipIdx.foldl (fun cs (x : Value × Nat) => cs.setIfInBounds (off + x.2) x.1) arr = arr' at harr
    have hsz : arr'.size = arr.size := by rw [← Array.length_toList, harr]; simp; omega
    obtain ⟨out, h1, h2, h3⟩ := fill_all place l (off + v.cells.size) arr' (fun done rest x hl => by
      have := hp ((i, v) :: done) rest x (by rw [hl]; rfl)
      simpa [Nat.add_assoc] using this) (by rw [hsz]; omega)
    refine ⟨out, ?_, by rw [h2, hsz], ?_⟩
    · unfold Instr.fill
      rw [h0]
      simp only [ne_eq, not_true_eq_false]
      rw [if_neg (by simp; omega)]
      rw [← h1, ← harr']
    · rw [h3, harr]
      simp only [List.map_cons, List.sum_cons, cellsOf, List.flatMap_cons]
      have hl1 : (arr.toList.take off ++ v.cells.toList).length = off + v.cells.size := by simp; omega
      have e1 : (arr.toList.take off ++ v.cells.toList ++ arr.toList.drop (off + v.cells.size)).take (off + v.cells.size) = arr.toList.take off ++ v.cells.toList := List.take_left' hl1
      have e2 : ∀ n, (arr.toList.take off ++ v.cells.toList ++ arr.toList.drop (off + v.cells.size)).drop (off + v.cells.size + n) = arr.toList.drop (off + (v.cells.size + n)) := fun n => by
        rw [← List.drop_drop, List.drop_left' hl1, List.drop_drop, Nat.add_assoc]
      rw [e1, e2]
      simp [List.append_assoc]

/-- The parts of a literal, each at its place, all there. -/
def partsOf (vs : List Operand) : List (Nat × Operand) := vs.zipIdx.map fun x => (x.2, x.1)

theorem exec_buildSlice {ρ : Operand → Value} {T : TypeId} {n : Nat} {ps : Array (Nat × Operand)} (ho : o.op = .buildSlice T n ps) :
    execOp ρ o = vOf (Instr.buildSlice T n (ps.map fun (i, x) => (i, ρ x))) := by unfold execOp; rw [ho]; rfl

inductive OpdsP (U : Univ) (rs : List (Nat × AVal U)) (t : Ty) : List Operand → List (t.den U.T) → Prop
  | nil : OpdsP U rs t [] []
  | cons {x : Operand} {v : t.den U.T} {xs : List Operand} {vs : List (t.den U.T)} : Opd U rs x (.p t v) → OpdsP U rs t xs vs → OpdsP U rs t (x :: xs) (v :: vs)

theorem OpdsP.ev {t : Ty} {xs : List Operand} {vs : List (t.den U.T)} (h : OpdsP U rs t xs vs) (hr : ∀ x ∈ rs, VV U O S ι w x.2 (a.tmps.getD x.1 undef)) :
    xs.length = vs.length ∧ ∃ cs : Nat → List Value, (∀ (i : Nat) (hi : i < vs.length), Rd U O S w t vs[i] (cs i)) ∧ ∀ i x, xs[i]? = some x → a.eval x = mkV t.isAgg (cs i) := by
  induction h with
  | nil => exact ⟨rfl, fun _ => [], fun i hi => absurd hi (by simp), fun i x h => by simp at h⟩
  | @cons x v xs vs h1 _ ih =>
    obtain ⟨hl, cs, h2, h3⟩ := ih
    obtain ⟨c, h4, h5⟩ := h1.ev hr
    refine ⟨by simp [hl], fun i => match i with | 0 => c | i + 1 => cs i, fun i hi => ?_, fun i y hy => ?_⟩
    · cases i with
      | zero => exact h4
      | succ i => exact h2 i (by simpa using hi)
    · cases i with
      | zero => simp at hy; subst hy; exact h5
      | succ i => exact h3 i y (by simpa using hy)

/-- A slice written out. -/
theorem sok_buildSlice {T E : TypeId} {t : Ty} {by_ d : Nat} {ps : Array (Nat × Operand)} {ys : List Operand} {xs : List (t.den U.T)} (hg : o.guard = none) (_ : o.dst = some d)
    (ho : o.op = .buildSlice T ys.length ps) (hps : ps.toList = partsOf ys) (hT : RowOk P U T E t by_) (hx : OpdsP U rs t ys xs) (hlim : ys.length * t.width U.wd ≤ 16777216) :
    SOk U O P ops o { rs := rs, ws := .vec d (t.width U.wd) 0 xs.length, pb := [(d, .row E t xs true)], nn := [d] } := by
  intro S ι w a hlt hgl hrs hro hcb hown K Q hK
  obtain ⟨hlen, cs, hel, hev⟩ := hx.ev hrs
  obtain ⟨i, z, hi, hz, hs, hby, hzs⟩ := hT.info
  have hpl : (ps.map fun (i, x) => (i, a.eval x)).toList = ys.zipIdx.map fun x => (x.2, a.eval x.1) := by
    rw [Array.toList_map, hps, partsOf, List.map_map]; rfl
  have hval : ∀ (k : Nat) (x : Nat × Value), (ys.zipIdx.map fun x => (x.2, a.eval x.1))[k]? = some x → x.1 = k ∧ k < xs.length ∧ x.2.cells.toList = cs k ∧ x.2.cells.size = t.width U.wd := by
    intro k x hk
    rw [List.getElem?_map] at hk
    cases hz : ys.zipIdx[k]? with
    | none => rw [hz] at hk; cases hk
    | some y =>
      rw [hz] at hk
      simp only [Option.map_some, Option.some.injEq] at hk
      rw [List.getElem?_zipIdx] at hz
      cases hy : ys[k]? with
      | none => rw [hy] at hz; cases hz
      | some y' =>
        rw [hy] at hz
        simp only [Option.map_some, Option.some.injEq, Nat.zero_add] at hz
        subst hz hk
        have hkl : k < xs.length := by rw [← hlen]; exact (List.getElem?_eq_some_iff.1 hy).1
        refine ⟨rfl, hkl, ?_, ?_⟩
        · rw [hev k y' hy]; exact (hel k hkl).cells
        · rw [hev k y' hy, ← Array.length_toList, (hel k hkl).cells]; exact (hel k hkl).length
  have hsum : ∀ l : List (Nat × Value), (∀ y ∈ l, y.2.cells.size = t.width U.wd) → (l.map fun y => y.2.cells.size).sum = l.length * t.width U.wd := by
    intro l
    induction l with
    | nil => intro _; simp
    | cons y l ih =>
      intro h
      rw [List.map_cons, List.sum_cons, h y List.mem_cons_self, ih fun z hz => h z (List.mem_cons_of_mem _ hz), List.length_cons, Nat.add_mul]
      omega
  have hall : ∀ y ∈ ys.zipIdx.map (fun x => (x.2, a.eval x.1)), y.2.cells.size = t.width U.wd := fun y hy => by
    obtain ⟨k, hk⟩ := List.mem_iff_getElem?.1 hy
    exact (hval k y hk).2.2.2
  have hll : (ys.zipIdx.map fun x => (x.2, a.eval x.1)).length = xs.length := by simp [hlen]
  let arr : Array Value := (Array.range (ys.length * t.width U.wd)).map fun j => (if ys.length * t.width U.wd = 0 then #[] else z.cells)[j % (if ys.length * t.width U.wd = 0 then #[] else z.cells).size]!
  have harr : arr.size = xs.length * t.width U.wd := by simp [arr, hlen]
  obtain ⟨out, h1, h2, h3⟩ := fill_all (fun i => some (i * t.width U.wd, t.width U.wd)) (ys.zipIdx.map fun x => (x.2, a.eval x.1)) 0 arr (fun done rest x hl => by
    have hk : (ys.zipIdx.map fun x => (x.2, a.eval x.1))[done.length]? = some x := by rw [hl]; simp
    obtain ⟨e1, _, _, e2⟩ := hval _ x hk
    rw [e1, e2, hsum done fun y hy => hall y (by rw [hl]; exact List.mem_append.2 (.inl hy)), Nat.zero_add]) (by rw [hsum _ hall, hll, harr]; omega)
  have hout : out.toList = rowCells xs.length cs := by
    rw [h3, hsum _ hall, hll, Nat.zero_add, List.take_zero, List.nil_append, List.drop_eq_nil_of_le (by simp [harr]), List.append_nil]
    unfold cellsOf rowCells
    rw [List.flatMap_map]
    have hr : (ys.zipIdx.map fun x => (x.2, a.eval x.1)) = (List.range xs.length).map fun k => (k, (ys.zipIdx.map fun x => (x.2, a.eval x.1)).getD k default |>.2) := by
      apply List.ext_getElem?
      intro k
      rw [List.getElem?_map (l := List.range _)]
      by_cases hk : k < xs.length
      · rw [List.getElem?_range hk, List.getElem?_eq_getElem (by rw [hll]; exact hk)]
        have := hval k _ (List.getElem?_eq_getElem (by rw [hll]; exact hk))
        simp only [Option.map_some, Option.some.injEq]
        rw [List.getD_eq_getElem?_getD, List.getElem?_eq_getElem (by rw [hll]; exact hk), Option.getD_some]
        exact Prod.ext this.1 rfl
      · rw [List.getElem?_eq_none (by rw [hll]; omega), List.getElem?_eq_none (by simp; omega)]; rfl
    rw [hr, List.flatMap_map]
    refine flatMap_same fun k hk => ?_
    have hk := List.mem_range.1 hk
    have := hval k _ (List.getElem?_eq_getElem (by rw [hll]; exact hk))
    rw [List.getD_eq_getElem?_getD, List.getElem?_eq_getElem (by rw [hll]; exact hk), Option.getD_some]
    exact this.2.2.1
  have hrun : (Instr.buildSlice T ys.length (ps.map fun (i, x) => (i, a.eval x))).run P w = .ok (.slice (some ⟨w.heap.size, 0, none⟩) ys.length ys.length) (w.alloc (.cells out E)) := by
    have hn : ¬ ys.length * t.width U.wd > 2 ^ 24 := by omega
    have h1' : Instr.fill (fun i => some (i * t.width U.wd, t.width U.wd)) ((Array.range (ys.length * t.width U.wd)).map fun j => (if ys.length * t.width U.wd = 0 then #[] else z.cells)[j % (if ys.length * t.width U.wd = 0 then #[] else z.cells).size]!)
      (ys.zipIdx.map fun x => (x.2, a.eval x.1)) = some out := h1
    have hzr : (zeroValue E).run P w = .ok z w := by simp [zeroValue, typeInfo, hi, hz]
    unfold Instr.buildSlice
    rw [Sem.run_bind, run_underlying hT.sl.under]
    simp only [Result.andThen_ok]
    rw [Sem.run_bind, run_sizeOf hT.sl.el]
    simp only [Result.andThen_ok, if_neg hn]
    by_cases h0 : ys.length * t.width U.wd = 0
    · simp only [if_pos h0] at h1' ⊢
      rw [Sem.run_bind, Sem.run_pure]
      simp only [Result.andThen_ok, hpl, h1']
      rfl
    · simp only [if_neg h0] at h1' ⊢
      rw [Sem.run_bind, hzr]
      simp only [Result.andThen_ok]
      rw [Sem.run_bind, Sem.run_pure]
      simp only [Result.andThen_ok, hpl, h1']
      rfl
  refine opWp_plain hg ?_
  unfold Oper.wp
  rw [exec_buildSlice ho, run_vOf hrun, hlen]
  have hcl : ∀ i, i < xs.length → (cs i).length = t.width U.wd := fun i hi => (hel i hi).length
  have hxl : xs.length ≤ maxLen := by
    have : xs.length ≤ xs.length * t.width U.wd := Nat.le_mul_of_pos_right _ hT.pos
    rw [hlen] at hlim
    unfold maxLen; omega
  refine hK _ S _ _ (Nx.alloc (s := { rs := rs, ws := .vec d (t.width U.wd) 0 xs.length, pb := [(d, .row E t xs true)], nn := [d] }) (.cells out E) rfl rfl rfl hlt xs.length ?_) (.inr ⟨w.heap.size, xs.length, 0, by simp, by omega, by simp, .inl (by simp)⟩)
  refine .inr ⟨w.heap.size, xs.length, out, cs, by simp, heap_alloc_new w _, by rw [h2, harr], hxl, Nat.le_refl _, fun _ => rfl, fun i hi => (hel i hi).mono (fun b hb => heap_alloc_old w _ b (hlt b hb)) fun _ h => h, fun i j hi hj => ?_⟩
  rw [← Array.getElem?_toList, hout]
  exact rowCells_get hcl hi hj

/-- An element's place in an owned row. -/
theorem sok_indexV {T E : TypeId} {t : Ty} {n off len : Nat} {x y : Operand} {k : IntKind} {i : Int} (hg : o.guard = none) (ho : o.op = .indexAddr T x y) (ht : SlOk P U T E t)
    (hx : Opd U rs x (.vec n (t.width U.wd) off len)) (hy : Opd U rs y (.p (.int k) i)) (hi : 0 ≤ i ∧ i < (len : Int)) : SOk U O P ops o { rs := rs, ws := .eloc n (t.width U.wd) (off + i.toNat) 0 } :=
  sok_v hg _ (fun _ => exec_indexAddr ho) fun S ι w a hrs _ => by
    rcases hx.ev hrs with ⟨_, _, rfl, _⟩ | ⟨b, c, o', hn, hoc, hv, hor⟩
    · omega
    · have ho' : o' = off * t.width U.wd := by
        rcases hor with h | h
        · exact h
        · omega
      refine ⟨.pointer (some ⟨b, o' + i.toNat * t.width U.wd, none⟩), ?_, b, c, hn, ?_⟩
      · rw [hv, VV.int_iff.1 (hy.ev hrs)]
        simp only [Instr.indexAt, asIntOf, Sem.run_bind, Sem.run_pure, Result.andThen_ok, run_underlying ht.under, if_pos hi, run_sizeOf ht.el, Addr.add_lit]
      · rw [ho', Nat.add_mul]; simp

/-- What lies at a place of an owned row: an element, or a part of one. -/
theorem sok_loadE {T E : TypeId} {t t' : Ty} {n i off : Nat} {xs : List (t.den U.T)} {fx : Bool} {x : Operand} {e : t.den U.T} {Z : t'.den U.T} (hg : o.guard = none) (ho : o.op = .load T x) (ht : TyOk P U T t')
    (hx : Opd U rs x (.eloc n (t.width U.wd) i off)) (he : xs[i]? = some e) (hc : Comp U t e off t' Z) : SOk U O P ops o { rs := rs, ro := [(n, .row E t xs fx)], ws := .p t' Z } :=
  sok_v hg _ (fun _ => exec_load ho) fun S ι w a hrs hro => by
    obtain ⟨b, c, hn, hv⟩ := hx.ev hrs
    obtain ⟨hi, he⟩ := List.getElem?_eq_some_iff.1 he
    rcases hro _ List.mem_cons_self with ⟨h1, _⟩ | ⟨b', c', arr, cs, h1, h2, h3, h4, h5, h6, h7, h8⟩
    · rw [hn] at h1; cases h1
    · rw [hn] at h1
      obtain ⟨rfl, rfl⟩ : b = b' ∧ c = c' := by simpa using h1
      obtain ⟨cs', hr', hle, hget⟩ := hc.get (he ▸ h7 i hi)
      refine ⟨_, ?_, cs', hr', rfl⟩
      rw [hv]
      refine run_loadAt ht hr'.length fun j hj => ?_
      rw [cell_of_row w b _ arr _ (0, 0) h2, ← hget j hj, ← h8 i (off + j) hi (by omega), Nat.add_assoc]

/-- A field's place in an owned variable, in an owned row. -/
theorem sok_fieldB {T F : TypeId} {f off n b0 : Nat} {t : Ty} {x : Operand} (hg : o.guard = none) (ho : o.op = .fieldAddr T x f) (hf : FdOk P U T f off F t) (hw : t.width U.wd ≠ 0) (hx : Opd U rs x (.loc n b0)) :
    SOk U O P ops o { rs := rs, ws := .loc n (b0 + off) } :=
  sok_v hg _ (fun _ => exec_fieldAddr ho) fun S ι w a hrs _ => by
    obtain ⟨b, c, hn, hv⟩ := hx.ev hrs
    obtain ⟨fs, fd, h1, h2, h3, h4⟩ := hf.h
    refine ⟨.pointer (some ⟨b, b0 + off, none⟩), ?_, b, c, hn, rfl⟩
    rw [hv]
    simp only [Instr.fieldAt, Instr.sureAddr, Sem.run_bind, run_underlying h1, Result.andThen_ok, h2, Sem.run_pure, run_fieldPlace hf.ty hw b b0 fd h4, h3]

theorem sok_fieldE {T F : TypeId} {f off n wd i b0 : Nat} {t : Ty} {x : Operand} (hg : o.guard = none) (ho : o.op = .fieldAddr T x f) (hf : FdOk P U T f off F t) (hw : t.width U.wd ≠ 0) (hx : Opd U rs x (.eloc n wd i b0)) :
    SOk U O P ops o { rs := rs, ws := .eloc n wd i (b0 + off) } :=
  sok_v hg _ (fun _ => exec_fieldAddr ho) fun S ι w a hrs _ => by
    obtain ⟨b, c, hn, hv⟩ := hx.ev hrs
    obtain ⟨fs, fd, h1, h2, h3, h4⟩ := hf.h
    refine ⟨.pointer (some ⟨b, i * wd + b0 + off, none⟩), ?_, b, c, hn, by rw [Nat.add_assoc]⟩
    rw [hv]
    simp only [Instr.fieldAt, Instr.sureAddr, Sem.run_bind, run_underlying h1, Result.andThen_ok, h2, Sem.run_pure, run_fieldPlace hf.ty hw b _ fd h4, h3]

/-- An owned row, cut: its upper bound within what is told of it. -/
theorem sok_sliceV {T E : TypeId} {t : Ty} {n off len : Nat} {xs : List (t.den U.T)} {fx : Bool} {x : Operand} {lo hi : Option Operand} {l h : Int} (hg : o.guard = none) (ho : o.op = .slice T x lo hi none)
    (ht : SlOk P U T E t) (hx : Opd U rs x (.vec n (t.width U.wd) off len)) (hl : Bd U rs 0 lo l) (hh : Bd U rs (len : Int) hi h) (h0 : 0 ≤ l) (h1 : l ≤ h) (h2 : off + h.toNat ≤ xs.length) :
    SOk U O P ops o { rs := rs, ro := [(n, .row E t xs fx)], ws := .vec n (t.width U.wd) (off + l.toNat) (h.toNat - l.toNat) } :=
  sok_v hg _ (fun _ => exec_slice ho) fun S ι w a hrs hro => by
    have hB := hro _ List.mem_cons_self
    rcases hx.ev hrs with ⟨hn, rfl, rfl, hv⟩ | ⟨b, c, o', hn, hoc, hv, hor⟩
    · rcases hB with ⟨_, rfl, _⟩ | ⟨b', c', arr, cs, h3, _⟩
      · have hl0 : l.toNat = 0 := by simp at h2; omega
        have hh0 : h.toNat = 0 := by simp at h2; omega
        have hsb := run_sliceBounds (P := P) true 0 0 hl hh hrs h0 h1 (by omega) w
        refine ⟨.slice none 0 0, ?_, .inl ⟨hn, by omega, by omega, rfl⟩⟩
        rw [hv]
        simp only [Instr.sliceAt, Instr.slice, Sem.run_bind, Result.andThen_ok, run_underlying ht.under, Option.map_none, hsb, run_sizeOf ht.el, Sem.run_pure, hl0, hh0]
        rfl
      · rw [hn] at h3; cases h3
    · rcases hB with ⟨h3, _⟩ | ⟨b', c', arr, cs, h3, _, _, _, h5, _⟩
      · rw [hn] at h3; cases h3
      · rw [hn] at h3
        obtain ⟨rfl, rfl⟩ : b = b' ∧ c = c' := by simpa using h3
        have hsb := run_sliceBounds (P := P) true len (c - off) hl hh hrs h0 h1 (by omega) w
        refine ⟨.slice (if c - off = l.toNat then some ⟨b, o', none⟩ else some ⟨b, o' + l.toNat * t.width U.wd, none⟩) (h.toNat - l.toNat) (c - off - l.toNat), ?_, ?_⟩
        · rw [hv]
          simp only [Instr.sliceAt, Instr.slice, Sem.run_bind, Result.andThen_ok, run_underlying ht.under, Option.map_none, hsb, run_sizeOf ht.el, Sem.run_pure, Option.map_some, Addr.add_lit]
        · by_cases e : c - off = l.toNat
          · rw [if_pos e]
            refine .inr ⟨b, c, o', hn, by omega, by rw [Nat.sub_sub], ?_⟩
            by_cases e0 : l.toNat = 0
            · rcases hor with h | ⟨h, h'⟩
              · exact .inl (by rw [e0, Nat.add_zero]; exact h)
              · exact .inr ⟨by omega, by omega⟩
            · exact .inr ⟨by omega, by omega⟩
          · rw [if_neg e]
            have ho' : o' = off * t.width U.wd := by
              rcases hor with h | h
              · exact h
              · omega
            exact .inr ⟨b, c, _, hn, by omega, by rw [Nat.sub_sub], .inl (by rw [ho', Nat.add_mul])⟩
end
end Go.AM
