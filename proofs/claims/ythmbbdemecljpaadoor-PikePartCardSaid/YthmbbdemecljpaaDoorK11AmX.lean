/- The abstract layer, part X: arrays of texts that are variables of the package; numbers' arrays compared. -/
import Derived.Test.YthmbbdemecljpaaDoorK11AmW
import Derived.ChangeKeysEq
namespace Go.AM
set_option linter.unusedVariables false
theorem notin_of {l : List Nat} {d : Nat} (h : l.contains d = false) : d ∉ l := fun hin => by rw [List.contains_eq_mem, decide_eq_false_iff_not] at h; exact h hin
section
variable {U : Univ} {O : Out} {P : Program} {S : Nat → Prop} {ι : Lay} {w : World} {rs : List (Nat × AVal U)} {a : Act} {ops : Array Oper} {o : Oper}

/-- An element's place in a package's array of texts. -/
theorem sok_indexG {T E : TypeId} {y : Operand} {k : IntKind} {i : Int} {g : Nat} {bs : List ByteArray} {e : List UInt8} (hg : o.guard = none) (ho : o.op = .indexAddr T (.global g) y)
    (hT : P.underlying T = some (.array bs.length E)) (hE : TyOk P U E .str) (hc : O.gc g = some (bs.map Value.string).toArray) (hy : Opd U rs y (.p (.int k) i)) (he : idx (bs.map fun b => b.data.toList) i = some e) :
    SOk U O P ops o { rs := rs, ws := .pp .str e } := by
  intro S ι w a hlt hgl hrs hro hcb hown K Q hK
  obtain ⟨hS, t, hh⟩ := hgl.2.2 g _ hc
  unfold idx at he
  split at he
  case isFalse => cases he
  rename_i h0
  obtain ⟨hi, he⟩ := List.getElem?_eq_some_iff.1 he
  have hi' : i.toNat < bs.length := by simpa using hi
  have hy' := VV.int_iff.1 (hy.ev hrs)
  refine opWp_plain hg ?_
  unfold Oper.wp
  rw [exec_indexAddr ho]
  have hr : (Instr.indexAt T (a.eval (.global g)) (a.eval y)).run P w = .ok (.pointer (some ⟨g, i.toNat, none⟩)) w := by
    rw [hy']
    simp only [Act.eval, Instr.indexAt, Instr.sureAddr, asIntOf, Sem.run_bind, Sem.run_pure, Result.andThen_ok, run_underlying hT, if_pos (show 0 ≤ i ∧ i < (bs.length : Int) by omega), run_sizeOf hE, Addr.add_lit, Ty.width]
    simp
  rw [run_vOf hr]
  refine hK _ S ι w (Nx.refl _ rfl rfl hlt) ⟨g, i.toNat, [.string bs[i.toNat]], rfl, hS, ?_, fun j hj => ?_⟩
  · have : e = bs[i.toNat].data.toList := by rw [← he]; simp
    rw [this]; exact .str _
  · have : j = 0 := by simp [Ty.width] at hj; omega
    subst this
    rw [cell_of_row w g _ _ t (0, 0) hh]
    simp [hi']

/-- What a function's results are: slots, or variables in memory. -/
inductive ResL (U : Univ) (P : Program) (st : St U) : List ResultVar → List (AVal U) → Prop
  | nil : ResL U P st [] []
  | tmp {t : Nat} {v : AVal U} {l : List ResultVar} {vs : List (AVal U)} (h : (t, v) ∈ st.sl) : ResL U P st l vs → ResL U P st (.tmp t :: l) (v :: vs)
  | cell {b : Nat} {T : TypeId} {t : Ty} {n off : Nat} (pre mid post : List (AVal U)) {v : AVal U} {l : List ResultVar} {vs : List (AVal U)} (h : (b, .loc n off) ∈ st.sl) (hb : (n, .box (pre ++ mid ++ post)) ∈ st.hp)
      (hpre : pre.all AVal.unit = true) (hoff : unitsW pre = off) (hmid : mid.all AVal.unit = true) (hw : unitsW mid = t.width U.wd) (ht : TyOk P U T t) (hm : Made U t mid v) : ResL U P st l vs → ResL U P st (.cell b T :: l) (v :: vs)

def resOne (tmps : Array Value) : ResultVar → Sem Value
  | .tmp t => pure (tmps.getD t undef)
  | .cell b t => do loadVar t (← asAddr (tmps.getD b undef))
theorem results_eq (fn : Func) (tmps : Array Value) : results fn tmps = (do
    let vs ← fn.results.mapM (resOne tmps)
    pure (if h : vs.size = 1 then vs[0] else .tuple vs)) := by
  unfold results
  have : (fun x => match x with | ResultVar.tmp t => (pure (tmps.getD t undef) : Sem Value) | ResultVar.cell a t => do loadVar t (← asAddr (tmps.getD a undef))) = resOne tmps := by
    funext x; cases x <;> rfl
  rw [← this]
  rfl

theorem ResL.ev {B : Base} {st : St U} {l : List ResultVar} {vs : List (AVal U)} (h : ResL U P st l vs) {a : Act} (hR : Rel U O B S ι st a w) :
    ∃ us, (l.mapM (resOne a.tmps)).run P w = .ok us w ∧ VVs U O S ι w vs us := by
  induction h with
  | nil => exact ⟨[], by simp, rfl⟩
  | tmp h _ ih =>
    obtain ⟨us, h1, h2⟩ := ih
    exact ⟨_ :: us, by simp [List.mapM_cons, resOne, h1], _, us, rfl, hR.sl _ h, h2⟩
  | @cell b T t n off pre mid post v l vs h hb hpre hoff hmid hw ht hm _ ih =>
    obtain ⟨us, h1, h2⟩ := ih
    obtain ⟨bk, c, v1, v2, v3, arr, e, g1, g2, g3, g4, g5, g6, g7, g8, _⟩ := box_parts (hR.hp _ hb) hpre hmid
    obtain ⟨b', c', g9, g10⟩ := hR.sl _ h
    rw [g1] at g9
    obtain ⟨rfl, rfl⟩ : bk = b' ∧ c = c' := by simpa using g9
    have hl : (loadVar T ⟨bk, off, none⟩).run P w = .ok (mkV t.isAgg (cellsOf v2)) w := by
      have := run_loadAt (w := w) ht (bl := bk) (of := off) (cs := cellsOf v2) (by rw [g8, hw]) fun j hj => by
        rw [cell_of_row w bk (off + j) arr e (0, 0) g6, ← Array.getElem?_toList, g5, List.append_assoc, List.getElem?_append_right (by omega), g7, hoff, List.getElem?_append_left (by omega)]
        congr 1
        omega
      simpa only [Instr.loadAt, Instr.sureAddr, Sem.run_bind, Sem.run_pure, Result.andThen_ok] using this
    refine ⟨mkV t.isAgg (cellsOf v2) :: us, ?_, _, us, rfl, hm.of g3, h2⟩
    simp only at g10
    simp only [List.mapM_cons, resOne, g10, asAddr, Sem.run_bind, Sem.run_pure, Result.andThen_ok, hl, h1]

def resOf : List (AVal U) → AVal U
  | [v] => v
  | vs => .tup vs

theorem retV_L {fn : Func} {st : St U} {l : List ResultVar} {vs : List (AVal U)} (hf : fn.results.toList = l) (h : ResL U P st l vs) : RetV U O P fn st (resOf vs) := by
  intro B S ι a w hR
  obtain ⟨us, h1, h2⟩ := h.ev hR
  subst hf
  refine ⟨if h : us.toArray.size = 1 then us.toArray[0] else .tuple us.toArray, ?_, ?_⟩
  · rw [results_eq]
    simp only [Array.mapM_eq_mapM_toList, Sem.run_bind]
    simp [h1]
  · match vs, us, h2 with
    | [], us, h2 => simp only [VVs] at h2; subst h2; exact ⟨[], rfl, rfl⟩
    | [v], us, h2 =>
      simp only [VVs] at h2
      obtain ⟨u, us', rfl, h3, rfl⟩ := h2
      exact h3
    | v :: v' :: vs, us, h2 =>
      have h2' := h2
      simp only [VVs] at h2
      obtain ⟨u, us', rfl, h3, u', us'', rfl, h4, h5⟩ := h2
      exact ⟨u :: u' :: us'', h2', by simp⟩

theorem sok_compl {t : TypeId} {x : Operand} {k : IntKind} {n : Int} (hg : o.guard = none) (ho : o.op = .unOp .xor t x) (hx : Opd U rs x (.p (.int k) n)) :
    SOk U O P ops o { rs := rs, ws := .p (.int k) (bits .xor k (if k.signed then -1 else k.max) n) } :=
  sok_v hg _ (fun _ => exec_un ho) fun S ι w a hrs _ => ⟨.int k (bits .xor k (if k.signed then -1 else k.max) n), by
    rw [VV.int_iff.1 (hx.ev hrs)]
    rfl, VV.int_iff.2 rfl⟩

theorem rd_ints {k : IntKind} {N : Nat} {xs : List Int} {cs : List Value} (h : Rd U O S w (.arr N (.int k)) xs cs) : xs.length = N ∧ cs = xs.map (Value.int k) := by
  cases h with
  | arr _ _ _ cf hn hel =>
    have hn : xs.length = N := hn
    refine ⟨hn, List.ext_getElem? fun p => ?_⟩
    have hcf : ∀ i (hi : i < xs.length), cf i = [.int k xs[i]] := fun i hi => Rd.int_iff.1 (hel i hi)
    by_cases hp : p < N
    · have := flatMap_range_get N 1 cf (fun i hi => by rw [hcf i (by omega)]; rfl) p 0 hp (by omega)
      simp only [Nat.mul_one, Nat.add_zero] at this
      have hp' : p < xs.length := by omega
      rw [this, hcf p hp', List.getElem?_map, List.getElem?_eq_getElem hp']
      rfl
    · rw [List.getElem?_eq_none (by rw [flatMap_range_length N 1 cf fun i hi => by rw [hcf i (by omega)]; rfl]; omega), List.getElem?_eq_none (by simp; omega)]

theorem run_eqInts {k : IntKind} {e : TypeId} (d : Nat) (he : P.underlying e = some (.int k)) (hE : TyOk P U e (.int k)) (xs ys : List Int) (w : World) : ∀ is : List Nat, (∀ i ∈ is, i < xs.length ∧ i < ys.length) →
    (Op.eqItems (d + 1) e 1 (xs.map (Value.int k)).toArray (ys.map (Value.int k)).toArray is).run P w = .ok (is.all fun i => xs[i]? == ys[i]?) w
  | [], _ => by simp [Op.eqItems]
  | i :: is, h => by
    obtain ⟨h1, h2⟩ := h i List.mem_cons_self
    have pt : ∀ (zs : List Int) (hi : i < zs.length), (part e (zs.map (Value.int k)).toArray (i * 1)).run P w = .ok (.int k zs[i]) w := fun zs hi =>
      run_part (xs := [.int k zs[i]]) hE rfl (fun j hj => by
        have : j = 0 := by simp [Ty.width] at hj; omega
        subst this; simp [hi]) (fun _ => rfl) w
    have eq : (Op.equalIn (d + 1) e (.int k xs[i]) (.int k ys[i])).run P w = .ok (xs[i] == ys[i]) w := by
      simp [Op.equalIn, run_underlying he]
    simp only [Op.eqItems, Sem.run_bind, pt xs h1, pt ys h2, eq, Result.andThen_ok, List.all_cons, List.getElem?_eq_getElem h1, List.getElem?_eq_getElem h2]
    have hb : (some xs[i] == some ys[i]) = (xs[i] == ys[i]) := rfl
    rw [hb]
    cases xs[i] == ys[i]
    · simp
    · simpa using run_eqInts d he hE xs ys w is fun j hj => h j (List.mem_cons_of_mem _ hj)

theorem run_eqArr {k : IntKind} {t e : TypeId} {N : Nat} (hT : P.underlying t = some (.array N e)) (he : P.underlying e = some (.int k)) (hE : TyOk P U e (.int k)) {xs ys : List Int} (hx : xs.length = N) (hy : ys.length = N) (w : World) :
    (Op.equal t (.agg (xs.map (Value.int k)).toArray) (.agg (ys.map (Value.int k)).toArray)).run P w = .ok (xs == ys) w := by
  obtain ⟨i, hi, hs⟩ : ∃ i, P.info? e = some i ∧ i.size = 1 := by
    have := run_sizeOf hE w
    cases hi : P.info? e with
    | none => simp [sizeOf, typeInfo, hi] at this
    | some i => exact ⟨i, rfl, by simpa [sizeOf, typeInfo, hi, Ty.width] using this⟩
  have hc : P.cellsOf e = 1 := by simp [Program.cellsOf, hi, hs]
  show (Op.equalIn (9999 + 1) t _ _).run P w = _
  rw [run_equalIn_array w 9999 _ _ hT hi, hc, run_eqInts (U := U) 9998 he hE xs ys w _ (fun i hi => by simp at hi; omega)]
  congr 1
  rw [Bool.eq_iff_iff, List.all_eq_true, beq_iff_eq]
  constructor
  · intro h
    refine List.ext_getElem? fun p => ?_
    by_cases hp : p < N
    · simpa using h p (by simpa using hp)
    · rw [List.getElem?_eq_none (by omega), List.getElem?_eq_none (by omega)]
  · rintro rfl p _
    simp

theorem eqGuard_agg {op : BinOp} {t : TypeId} {x y : Operand} {a b : Array Value} (hq : P.eqGuardType P.depth t = false) (w : World) : (eqGuard op t x y (.agg a) (.agg b)).run P w = .ok () w := by
  unfold eqGuard
  cases op <;> simp [program, Sem.run, hq]

theorem sok_eqArr {op : BinOp} {t t' e : TypeId} {N : Nat} {k : IntKind} {x y : Operand} {m n : List Int} (hg : o.guard = none) (ho : o.op = .binOp .eql t x y t') (hT : P.underlying t = some (.array N e)) (he : P.underlying e = some (.int k))
    (hE : TyOk P U e (.int k)) (hq : P.eqGuardType P.depth t = false) (hx : Opd U rs x (.p (.arr N (.int k)) m)) (hy : Opd U rs y (.p (.arr N (.int k)) n)) : SOk U O P ops o { rs := rs, ws := .p .bool (m == n) } :=
  sok_v hg _ (fun _ => exec_bin ho) fun S ι w a hrs _ => by
    obtain ⟨c1, r1, e1⟩ := hx.ev hrs
    obtain ⟨c2, r2, e2⟩ := hy.ev hrs
    obtain ⟨l1, rfl⟩ := rd_ints r1
    obtain ⟨l2, rfl⟩ := rd_ints r2
    refine ⟨.bool (m == n), ?_, VV.bool_iff.2 rfl⟩
    rw [e1, e2]
    simp only [mkV, Ty.isAgg, Sem.run_bind, eqGuard_agg hq, Result.andThen_ok, binOp, run_eqArr hT he hE l1 l2, Sem.run_pure]

theorem sok_neArr {op : BinOp} {t t' e : TypeId} {N : Nat} {k : IntKind} {x y : Operand} {m n : List Int} (hg : o.guard = none) (ho : o.op = .binOp .neq t x y t') (hT : P.underlying t = some (.array N e)) (he : P.underlying e = some (.int k))
    (hE : TyOk P U e (.int k)) (hq : P.eqGuardType P.depth t = false) (hx : Opd U rs x (.p (.arr N (.int k)) m)) (hy : Opd U rs y (.p (.arr N (.int k)) n)) : SOk U O P ops o { rs := rs, ws := .p .bool (!(m == n)) } :=
  sok_v hg _ (fun _ => exec_bin ho) fun S ι w a hrs _ => by
    obtain ⟨c1, r1, e1⟩ := hx.ev hrs
    obtain ⟨c2, r2, e2⟩ := hy.ev hrs
    obtain ⟨l1, rfl⟩ := rd_ints r1
    obtain ⟨l2, rfl⟩ := rd_ints r2
    refine ⟨.bool (!(m == n)), ?_, VV.bool_iff.2 rfl⟩
    rw [e1, e2]
    simp only [mkV, Ty.isAgg, Sem.run_bind, eqGuard_agg hq, Result.andThen_ok, binOp, run_eqArr hT he hE l1 l2, Sem.run_pure]
end
end Go.AM
