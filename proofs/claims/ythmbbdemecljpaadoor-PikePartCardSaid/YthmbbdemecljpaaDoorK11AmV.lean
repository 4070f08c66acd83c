/- The abstract layer, part V: parts of data written; structs put together; functions as values; calls that take rows for good. -/
import Derived.Test.YthmbbdemecljpaaDoorK11AmU
namespace Go.AM
set_option linter.unusedSimpArgs false

section
variable {U : Univ} {O : Out} {P : Program} {S : Nat → Prop} {ι : Lay} {w : World} {rs : List (Nat × AVal U)} {a : Act} {ops : Array Oper} {o : Oper}

/-- A datum with a part of it replaced. -/
inductive CompS (U : Univ) : (t : Ty) → t.den U.T → Nat → (t' : Ty) → t'.den U.T → t.den U.T → Prop
  | here {t : Ty} {x z : t.den U.T} : CompS U t x 0 t z z
  | fst {a b : Ty} {x x' : a.den U.T} {y : b.den U.T} {o : Nat} {t : Ty} {z : t.den U.T} : CompS U a x o t z x' → CompS U (.pair a b) (x, y) o t z (x', y)
  | snd {a b : Ty} {x : a.den U.T} {y y' : b.den U.T} {o k : Nat} {t : Ty} {z : t.den U.T} : CompS U b y o t z y' → k = a.width U.wd + o → CompS U (.pair a b) (x, y) k t z (x, y')
  | named {n : Nat} {x x' : U.T n} {o : Nat} {t : Ty} {z : t.den U.T} : CompS U (U.body n) (U.out n x) o t z (U.out n x') → CompS U (.named n) x o t z x'
  | arr {n : Nat} {e : Ty} {xs : List (e.den U.T)} {i o k : Nat} {x x' : e.den U.T} {t : Ty} {z : t.den U.T} : xs[i]? = some x → CompS U e x o t z x' → k = i * e.width U.wd + o → CompS U (.arr n e) xs k t z (upd xs i x')

def splice (l : List Value) (m : Nat) (ds : List Value) : List Value := l.take m ++ ds ++ l.drop (m + ds.length)
theorem splice_len {l ds : List Value} {m : Nat} (h : m + ds.length ≤ l.length) : (splice l m ds).length = l.length := by simp [splice]; omega
theorem splice_get {l ds : List Value} {m : Nat} (h : m + ds.length ≤ l.length) (p : Nat) : (splice l m ds)[p]? = if m ≤ p ∧ p < m + ds.length then ds[p - m]? else l[p]? := by
  unfold splice
  have h1 : (l.take m).length = m := by simp; omega
  by_cases hp : p < m
  · rw [if_neg (by omega), List.append_assoc, List.getElem?_append_left (by omega), List.getElem?_take_of_lt hp]
  · rw [List.append_assoc, List.getElem?_append_right (by omega), h1]
    by_cases hq : p < m + ds.length
    · rw [if_pos ⟨by omega, hq⟩, List.getElem?_append_left (by omega)]
    · rw [if_neg (by omega), List.getElem?_append_right (by omega), List.getElem?_drop]
      congr 1; omega

theorem CompS.set {t : Ty} {x : t.den U.T} {o : Nat} {t' : Ty} {z : t'.den U.T} {x' : t.den U.T} (h : CompS U t x o t' z x') : ∀ {cs ds : List Value}, Rd U O S w t x cs → Rd U O S w t' z ds →
    o + ds.length ≤ cs.length ∧ Rd U O S w t x' (splice cs o ds) := by
  induction h with
  | @here t x z =>
    intro cs ds h1 h2
    have e : cs.length = ds.length := h1.length.trans h2.length.symm
    refine ⟨by omega, ?_⟩
    have : splice cs 0 ds = ds := by simp [splice, e]
    rw [this]; exact h2
  | @fst a b x x' y o t z _ ih =>
    intro cs ds h1 h2
    cases h1 with
    | @pair _ _ _ _ c1 c2 ha hb =>
      obtain ⟨h3, h4⟩ := ih ha h2
      refine ⟨by rw [List.length_append]; omega, ?_⟩
      have : splice (c1 ++ c2) o ds = splice c1 o ds ++ c2 := by
        unfold splice
        rw [List.take_append_of_le_length (by omega), List.drop_append_of_le_length (by omega)]
        simp
      rw [this]; exact .pair h4 hb
  | @snd a b x y y' o k t z _ hk ih =>
    intro cs ds h1 h2
    cases h1 with
    | @pair _ _ _ _ c1 c2 ha hb =>
      obtain ⟨h3, h4⟩ := ih hb h2
      have hl := ha.length
      refine ⟨by rw [List.length_append]; omega, ?_⟩
      have : splice (c1 ++ c2) k ds = c1 ++ splice c2 o ds := by
        unfold splice
        rw [hk, ← hl, List.take_append, List.drop_append]
        have e1 : (c1.take (c1.length + o)) = c1 := List.take_of_length_le (by omega)
        have e2 : c1.drop (c1.length + o + ds.length) = [] := List.drop_of_length_le (by omega)
        rw [e1, e2]
        have e3 : c1.length + o - c1.length = o := by omega
        have e4 : c1.length + o + ds.length - c1.length = o + ds.length := by omega
        rw [e3, e4]; simp
      rw [this]; exact .pair ha h4
  | named _ ih =>
    intro cs ds h1 h2
    cases h1 with
    | named _ _ h =>
      obtain ⟨h3, h4⟩ := ih h h2
      exact ⟨h3, .named _ _ h4⟩
  | @arr n e xs i o k x x' t z hx _ hk ih =>
    intro cs ds h1 h2
    have hlen := h1.length
    cases h1 with
    | arr _ _ _ cf hn hel =>
      obtain ⟨hi, hx⟩ := List.getElem?_eq_some_iff.1 hx
      obtain ⟨h3, h4⟩ := ih (hx ▸ hel i hi) h2
      have hce := (hel i hi).length
      have hcl : ∀ j, j < n → (cf j).length = e.width U.wd := fun j hj => (hel j (by omega)).length
      have hmul : (i + 1) * e.width U.wd ≤ n * e.width U.wd := Nat.mul_le_mul_right _ (by omega)
      rw [Nat.add_mul] at hmul
      have hlen' : ((List.range n).flatMap cf).length = n * e.width U.wd := hlen
      have hfit : k + ds.length ≤ ((List.range n).flatMap cf).length := by rw [hlen', hk]; omega
      refine ⟨hfit, ?_⟩
      have hcl' : ∀ j, j < n → (if j = i then splice (cf i) o ds else cf j).length = e.width U.wd := fun j hj => by
        split
        · rw [splice_len h3]; exact hce
        · exact hcl j hj
      have : splice ((List.range n).flatMap cf) k ds = (List.range n).flatMap fun j => if j = i then splice (cf i) o ds else cf j := by
        refine List.ext_getElem? fun p => ?_
        by_cases hp : p < n * e.width U.wd
        · have hw : 0 < e.width U.wd := by
            rcases Nat.eq_zero_or_pos (e.width U.wd) with h | h
            · rw [h] at hp; omega
            · exact h
          have hj : p / e.width U.wd < n := Nat.div_lt_of_lt_mul (by rwa [Nat.mul_comm])
          have hr : p % e.width U.wd < e.width U.wd := Nat.mod_lt _ hw
          have hpe : p / e.width U.wd * e.width U.wd + p % e.width U.wd = p := Nat.div_add_mod' _ _
          generalize p / e.width U.wd = j at hj hpe
          generalize p % e.width U.wd = r at hr hpe
          subst hpe
          rw [flatMap_range_get n _ _ hcl' j r hj hr, splice_get hfit]
          have g := flatMap_range_get n _ cf hcl j r hj hr
          by_cases hji : j = i
          · subst hji
            rw [if_pos rfl, splice_get h3]
            by_cases hin : o ≤ r ∧ r < o + ds.length
            · rw [if_pos hin, if_pos ⟨by omega, by omega⟩]; congr 1; omega
            · rw [if_neg hin, if_neg (by omega), g]
          · rw [if_neg hji, if_neg, g]
            rintro ⟨h5, h6⟩
            rw [hk] at h5 h6
            rcases Nat.lt_or_ge j i with h | h
            · have := Nat.mul_le_mul_right (e.width U.wd) (show j + 1 ≤ i by omega)
              rw [Nat.add_mul] at this; omega
            · have := Nat.mul_le_mul_right (e.width U.wd) (show i + 1 ≤ j by omega)
              rw [Nat.add_mul] at this; omega
        · rw [List.getElem?_eq_none (by rw [splice_len hfit, hlen']; omega), List.getElem?_eq_none (by rw [flatMap_range_length n _ _ hcl']; omega)]
      rw [this]
      refine .arr n e _ _ (by rw [upd_length]; exact hn) fun j hj => ?_
      by_cases hji : j = i
      · subst hji
        rw [if_pos rfl]
        have : (upd xs j x')[j]'hj = x' := by simp [upd]
        rw [this]; exact h4
      · rw [if_neg hji]
        rw [upd_length] at hj
        have : (upd xs i x')[j]'(by rw [upd_length]; exact hj) = xs[j] := by simp [upd, Ne.symm hji]
        rw [this]; exact hel j hj

/-- Where an address points. -/
inductive Place (U : Univ) : AVal U → Nat → Nat → Prop
  | loc (n off : Nat) : Place U (.loc n off) n off
  | eloc (n wd i b : Nat) {off : Nat} : off = i * wd + b → Place U (.eloc n wd i b) n off
theorem Place.ev {v : AVal U} {n off : Nat} (h : Place U v n off) {u : Value} (hv : VV U O S ι w v u) : ∃ b c, ι n = some (b, c) ∧ u = .pointer (some ⟨b, off, none⟩) := by
  cases h with
  | loc => exact hv
  | eloc _ _ _ _ e => subst e; exact hv

/-- A part of a datum that lies in an owned variable. -/
theorem sok_loadU {T : TypeId} {t t' : Ty} {n p o' off : Nat} {x : Operand} (pre post : List (AVal U)) {X : t.den U.T} {Z : t'.den U.T} {v : AVal U} (hg : o.guard = none) (ho : o.op = .load T x) (ht : TyOk P U T t')
    (hx : Opd U rs x v) (hp : Place U v n off) (hpre : pre.all AVal.unit = true) (hp0 : unitsW pre = p) (hoff : off = p + o') (hc : Comp U t X o' t' Z) :
    SOk U O P ops o { rs := rs, ro := [(n, .box (pre ++ [.p t X] ++ post))], ws := .p t' Z } :=
  sok_v hg _ (fun _ => exec_load ho) fun S ι w a hrs hro => by
    obtain ⟨b, c, v1, v2, v3, arr, ety, h1, h2, h3, h4, h5, h6, h7, h8, _⟩ := box_parts (hro _ List.mem_cons_self) hpre (by rfl)
    obtain ⟨b', c', h9, h10⟩ := hp.ev (hx.ev hrs)
    rw [h1] at h9
    obtain ⟨rfl, rfl⟩ : b = b' ∧ c = c' := by simpa using h9
    simp only [VVs] at h3
    obtain ⟨u, _, rfl, ⟨cs, hr, rfl⟩, rfl⟩ := h3
    have hcs : cellsOf [mkV t.isAgg cs] = cs := by simp [cellsOf, hr.cells]
    rw [hcs] at h5 h8
    obtain ⟨cs', hr', hle, hget⟩ := hc.get hr
    refine ⟨mkV t'.isAgg cs', ?_, cs', hr', rfl⟩
    rw [h10]
    refine run_loadAt ht hr'.length fun j hj => ?_
    have hl := hr.length
    rw [cell_of_row w b _ arr _ (0, 0) h6, ← Array.getElem?_toList, h5, List.append_assoc, List.getElem?_append_right (by omega), h7, hp0, List.getElem?_append_left (by omega), ← hget j hj]
    congr 1
    omega

/-- A part of a datum that lies in an owned variable, written. -/
theorem sok_storeU {T : TypeId} {t t' : Ty} {n p o' off : Nat} {x y : Operand} (pre post : List (AVal U)) {X X' : t.den U.T} {Z : t'.den U.T} {v : AVal U} (hg : o.guard = none) (_ : o.dst = none) (ho : o.op = .store T x y)
    (ht : TyOk P U T t') (hx : Opd U rs x v) (hp : Place U v n off) (hy : Opd U rs y (.p t' Z)) (hpre : pre.all AVal.unit = true) (hp0 : unitsW pre = p) (hoff : off = p + o') (hc : CompS U t X o' t' Z X') :
    SOk U O P ops o { rs := rs, cb := [(n, .box (pre ++ [.p t X] ++ post))], pb := [(n, .box (pre ++ [.p t X'] ++ post))] } := by
  intro S ι w a hlt hgl hrs hro hcb hown K Q hK
  obtain ⟨b, c, v1, v2, v3, arr, e, h1, h2, h3, h4, h5, h6, h7, h8, h9⟩ := box_parts (hcb _ List.mem_cons_self) hpre (by rfl)
  obtain ⟨b', c', h10, h11⟩ := hp.ev (hx.ev hrs)
  rw [h1] at h10
  obtain ⟨rfl, rfl⟩ : b = b' ∧ c = c' := by simpa using h10
  simp only [VVs] at h3
  obtain ⟨u, _, rfl, ⟨cs, hr, rfl⟩, rfl⟩ := h3
  have hcs : cellsOf [mkV t.isAgg cs] = cs := by simp [cellsOf, hr.cells]
  rw [hcs] at h5 h8
  obtain ⟨ds, hd, hdv⟩ := hy.ev hrs
  obtain ⟨hfit, hnew⟩ := hc.set hr hd
  have hdc : (a.eval y).cells.toList = ds := by rw [hdv, hd.cells]
  have hsz : (a.eval y).cells.size = t'.width U.wd := by rw [← Array.length_toList, hdc]; exact hd.length
  have hcl := hr.length
  have hlen : arr.size = p + t.width U.wd + (cellsOf v3).length := by rw [← Array.length_toList, h5]; simp [h7, hcl, hp0]; omega
  have hst := run_storeCells_at P b off e ds 0 arr w h6 (by rw [hlen, hoff]; omega) (by intro v hv; exact hd.one v hv)
  refine opWp_plain hg ?_
  unfold Oper.wp
  rw [exec_store ho]
  have hr' : (Instr.storeAt T (a.eval x) (a.eval y)).run P w = .ok () (w.setRow b (cellsOf v1 ++ splice cs o' ds ++ cellsOf v3).toArray) := by
    rw [h11]
    simp only [Instr.storeAt, Instr.sureAddr, storeVar, Sem.run_bind, Sem.run_pure, Result.andThen_ok, run_sizeOf ht, hsz, ne_eq, not_true_eq_false, if_false, hdc]
    rw [show (storeCells ⟨b, off, none⟩ ds) = storeCells ⟨b, off, none⟩ ds 0 from rfl, hst]
    congr 2
    have e1 : (cellsOf v1 ++ cs ++ cellsOf v3).take (off + 0) = cellsOf v1 ++ cs.take o' := by
      rw [Nat.add_zero, hoff, List.append_assoc, List.take_append, h7, hp0, List.take_of_length_le (by omega), show p + o' - p = o' by omega, List.take_append_of_le_length (by omega)]
    have e2 : (cellsOf v1 ++ cs ++ cellsOf v3).drop (off + 0 + ds.length) = cs.drop (o' + ds.length) ++ cellsOf v3 := by
      rw [Nat.add_zero, hoff, List.append_assoc, List.drop_append, h7, hp0, List.drop_of_length_le (by omega), show p + o' + ds.length - p = o' + ds.length by omega, List.drop_append_of_le_length (by omega)]
      simp
    rw [h5, e1, e2]
    unfold splice
    simp
  simp only [Sem.run_bind, hr', Result.andThen_ok, Sem.run_pure, Oper.upon]
  refine hK undef S ι _ (Nx.setRow (n := n) (b := b) (c := c) rfl rfl h1 (hown.out n (by simp) b c h1).1 hlt h6 ?_) trivial
  have hst' : ∀ k, S k → (w.setRow b (cellsOf v1 ++ splice cs o' ds ++ cellsOf v3).toArray).heap[k]? = w.heap[k]? := fun k hk => setRow_other w b k _ fun e' => (hown.out n (by simp) b c h1).1 (e' ▸ hk)
  have hnew' : Rd U O S (w.setRow b (cellsOf v1 ++ splice cs o' ds ++ cellsOf v3).toArray) t X' (splice cs o' ds) := hnew.mono hst' fun _ h => h
  refine ⟨b, c, v1 ++ [mkV t.isAgg (splice cs o' ds)] ++ v3, _, e, h1, ?_, ?_, ?_, setRow_heap w b arr _ e _ h6⟩
  · exact VVs.append.2 ⟨v1 ++ [_], v3, rfl, VVs.append.2 ⟨v1, [_], rfl, VVs.mono hst' (fun _ h => h) _ _ (fun _ _ => rfl) h2, ⟨_, [], rfl, ⟨_, hnew', rfl⟩, rfl⟩⟩, VVs.mono hst' (fun _ h => h) _ _ (fun _ _ => rfl) h4⟩
  · intro v hv
    rcases List.mem_append.1 hv with hv | hv
    · rcases List.mem_append.1 hv with hv | hv
      · exact (VVs.cells hpre h2).2 v hv
      · simp at hv; subst hv; rw [hnew.cells]; exact hnew.one
    · exact h9 v hv
  · show _ = cellsOf _
    rw [cellsOf_append, cellsOf_append]
    simp [cellsOf, hnew.cells]

/-- An element of an owned row, or a part of one, written. -/
theorem sok_storeE {T E : TypeId} {t t' : Ty} {n i off : Nat} {xs : List (t.den U.T)} {fx : Bool} {x y : Operand} {e e' : t.den U.T} {Z : t'.den U.T} (hg : o.guard = none) (_ : o.dst = none) (ho : o.op = .store T x y)
    (ht : TyOk P U T t') (hx : Opd U rs x (.eloc n (t.width U.wd) i off)) (hy : Opd U rs y (.p t' Z)) (he : xs[i]? = some e) (hc : CompS U t e off t' Z e') :
    SOk U O P ops o { rs := rs, cb := [(n, .row E t xs fx)], pb := [(n, .row E t (upd xs i e') fx)] } := by
  intro S ι w a hlt hgl hrs hro hcb hown K Q hK
  obtain ⟨b, c, hn, hv⟩ := hx.ev hrs
  obtain ⟨hi, he⟩ := List.getElem?_eq_some_iff.1 he
  rcases hcb _ List.mem_cons_self with ⟨h1, _⟩ | ⟨b', c', arr, cs, h1, h2, h3, h4, h5, h6, h7, h8⟩
  · rw [hn] at h1; cases h1
  rw [hn] at h1
  obtain ⟨rfl, rfl⟩ : b = b' ∧ c = c' := by simpa using h1
  obtain ⟨ds, hd, hdv⟩ := hy.ev hrs
  obtain ⟨hfit, hnew⟩ := hc.set (he ▸ h7 i hi) hd
  have hdc : (a.eval y).cells.toList = ds := by rw [hdv, hd.cells]
  have hsz : (a.eval y).cells.size = t'.width U.wd := by rw [← Array.length_toList, hdc]; exact hd.length
  have hcl : ∀ j, j < xs.length → (cs j).length = t.width U.wd := fun j hj => (h7 j hj).length
  have hmul : (i + 1) * t.width U.wd ≤ c * t.width U.wd := Nat.mul_le_mul_right _ (by omega)
  rw [Nat.add_mul] at hmul
  have hci := hcl i hi
  have hal : arr.toList.length = arr.size := Array.length_toList
  have hfit' : i * t.width U.wd + off + ds.length ≤ arr.toList.length := by rw [hal, h3]; omega
  have hst := run_storeCells_at P b (i * t.width U.wd + off) E ds 0 arr w h2 (by omega) (by intro v hv; exact hd.one v hv)
  refine opWp_plain hg ?_
  unfold Oper.wp
  rw [exec_store ho]
  have hr' : (Instr.storeAt T (a.eval x) (a.eval y)).run P w = .ok () (w.setRow b (splice arr.toList (i * t.width U.wd + off) ds).toArray) := by
    rw [hv]
    simp only [Instr.storeAt, Instr.sureAddr, storeVar, Sem.run_bind, Sem.run_pure, Result.andThen_ok, run_sizeOf ht, hsz, ne_eq, not_true_eq_false, if_false, hdc]
    rw [show (storeCells ⟨b, i * t.width U.wd + off, none⟩ ds) = storeCells ⟨b, i * t.width U.wd + off, none⟩ ds 0 from rfl, hst]
    rfl
  simp only [Sem.run_bind, hr', Result.andThen_ok, Sem.run_pure, Oper.upon]
  refine hK undef S ι _ (Nx.setRow (n := n) (b := b) (c := c) rfl rfl hn (hown.out n (by simp) b c hn).1 hlt h2 ?_) trivial
  have hst' : ∀ k, S k → (w.setRow b (splice arr.toList (i * t.width U.wd + off) ds).toArray).heap[k]? = w.heap[k]? := fun k hk => setRow_other w b k _ fun e' => (hown.out n (by simp) b c hn).1 (e' ▸ hk)
  refine .inr ⟨b, c, _, fun j => if j = i then splice (cs i) off ds else cs j, hn, setRow_heap w b arr _ E _ h2, ?_, h4, by rw [upd_length]; exact h5, by rw [upd_length]; exact h6, fun j hj => ?_, fun j r hj hr => ?_⟩
  · rw [← h3]; simp [splice_len hfit']
  · by_cases hji : j = i
    · subst hji
      simp only [if_true]
      have : (upd xs j e')[j]'hj = e' := by simp [upd]
      rw [this]; exact hnew.mono hst' fun _ h => h
    · rw [upd_length] at hj
      simp only [if_neg hji]
      have : (upd xs i e')[j]'(by rw [upd_length]; exact hj) = xs[j] := by simp [upd, List.getElem_set, Ne.symm hji]
      rw [this]; exact (h7 j hj).mono hst' fun _ h => h
  · rw [upd_length] at hj
    have g := h8 j r hj hr
    have g2 : arr.toList[j * t.width U.wd + r]? = (cs j)[r]? := by rw [← g]; exact Array.getElem?_toList
    rw [List.getElem?_toArray, splice_get hfit']
    by_cases hji : j = i
    · subst hji
      simp only [if_true]
      rw [splice_get hfit]
      by_cases hin : off ≤ r ∧ r < off + ds.length
      · rw [if_pos hin, if_pos ⟨by omega, by omega⟩]; congr 1; omega
      · rw [if_neg hin, if_neg (by omega), g2]
    · simp only [if_neg hji]
      rw [if_neg, g2]
      rintro ⟨h9, h10⟩
      rcases Nat.lt_or_ge j i with h | h
      · have := Nat.mul_le_mul_right (t.width U.wd) (show j + 1 ≤ i by omega)
        rw [Nat.add_mul] at this; omega
      · have := Nat.mul_le_mul_right (t.width U.wd) (show i + 1 ≤ j by omega)
        rw [Nat.add_mul] at this; omega

/-- An element of an array's value. -/
theorem sok_indexR {T E : TypeId} {t : Ty} {N : Nat} {x y : Operand} {k : IntKind} {i : Int} {xs : List (t.den U.T)} {e : t.den U.T} (hg : o.guard = none) (ho : o.op = .index T x y) (hT : P.underlying T = some (.array N E))
    (hE : TyOk P U E t) (hx : Opd U rs x (.p (.arr N t) xs)) (hy : Opd U rs y (.p (.int k) i)) (he : idx xs i = some e) : SOk U O P ops o { rs := rs, ws := .p t e } :=
  sok_v hg _ (fun _ => exec_index ho) fun S ι w a hrs _ => by
    obtain ⟨cs, hr, hv⟩ := hx.ev hrs
    unfold idx at he
    split at he
    case isFalse => cases he
    rename_i h0
    obtain ⟨hi, he⟩ := List.getElem?_eq_some_iff.1 he
    have hl := hr.length
    cases hr with
    | arr _ _ _ cf hn hel =>
    have hce := (he ▸ hel i.toNat hi : Rd U O S w t e (cf i.toNat))
    refine ⟨mkV t.isAgg (cf i.toNat), ?_, cf i.toNat, hce, rfl⟩
    rw [hv, VV.int_iff.1 (hy.ev hrs)]
    simp only [Instr.index, asIntOf, mkV, Ty.isAgg, Sem.run_bind, Sem.run_pure, Result.andThen_ok, run_underlying hT, if_pos (show 0 ≤ i ∧ i < (N : Int) by omega), run_sizeOf hE]
    refine run_part hE hce.length (fun j hj => ?_) width_one w
    rw [List.getElem?_toArray]
    exact flatMap_range_get N _ cf (fun k hk => (hel k (by omega)).length) i.toNat j (by omega) hj

theorem exec_makeFunc {ρ : Operand → Value} {f : Fn} {fs cs : Array Operand} (ho : o.op = .makeFunc f fs cs) : execOp ρ o = vOf (Instr.makeFunc f (fs.map ρ) (cs.map ρ)) := by unfold execOp; rw [ho]; rfl

/-- A function as a value. -/
theorem sok_makeFunc {f : FuncId} {cs : Array Operand} {vs : List (AVal U)} (hg : o.guard = none) (ho : o.op = .makeFunc (.func f) #[] cs) (ha : Opds U rs cs.toList vs) : SOk U O P ops o { rs := rs, ws := .clo f vs } :=
  sok_v hg _ (fun _ => exec_makeFunc ho) fun S ι w a hrs _ => by
    refine ⟨.func (.func f) #[] (cs.map a.eval), by simp [Instr.makeFunc, Sem.run_pure], cs.toList.map a.eval, ha.ev hrs, ?_⟩
    congr 1
    rw [← Array.toList_map, Array.toArray_toList]
end
end Go.AM
