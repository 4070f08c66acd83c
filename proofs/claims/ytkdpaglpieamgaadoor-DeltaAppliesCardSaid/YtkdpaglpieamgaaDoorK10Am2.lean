/- A part of my own abstract layer. -/
import Derived.Test.YtkdpaglpieamgaaDoorK10Am1
import Derived.Laws.Tables
import Derived.ChangeKeysEq
import Derived.Laws.StructEq
import Derived.Laws.Pointers
import Derived.Maps.RangeRun
import Derived.Maps.Own
import Derived.Maps.Views
import Derived.Sort.KeysCollected
import Derived.Sort.Grow
import Derived.Sort.EncStr
import Derived.Lib.SlicesCompact
namespace Go.AM
set_option linter.unusedSimpArgs false

section
variable {U : Univ} {O : Out} {P : Program} {S : Nat → Prop} {ι : Lay} {w : World} {rs : List (Nat × AVal U)} {a : Act} {ops : Array Oper} {o : Oper}

inductive CompS (U : Univ) : (t : Ty) → t.den U.T → Nat → (t' : Ty) → t'.den U.T → t.den U.T → Prop
  | here {t : Ty} {x z : t.den U.T} : CompS U t x 0 t z z
  | fst {a b : Ty} {x x' : a.den U.T} {y : b.den U.T} {o : Nat} {t : Ty} {z : t.den U.T} : CompS U a x o t z x' → CompS U (.pair a b) (x, y) o t z (x', y)
  | snd {a b : Ty} {x : a.den U.T} {y y' : b.den U.T} {o k : Nat} {t : Ty} {z : t.den U.T} : CompS U b y o t z y' → k = a.width U.wd + o → CompS U (.pair a b) (x, y) k t z (x, y')
  | named {n : Nat} {x x' : U.T n} {o : Nat} {t : Ty} {z : t.den U.T} : CompS U (U.body n) (U.out n x) o t z (U.out n x') → CompS U (.named n) x o t z x'
  | arr {n : Nat} {e : Ty} {xs : List (e.den U.T)} {i o k : Nat} {x x' : e.den U.T} {t : Ty} {z : t.den U.T} : xs[i]? = some x → CompS U e x o t z x' → k = i * e.width U.wd + o → CompS U (.arr n e) xs k t z (upd xs i x')

def splice (l : List Value) (m : Nat) (ds : List Value) : List Value := l.take m ++ ds ++ l.drop (m + ds.length)
theorem splice_len {l ds : List Value} {m : Nat} (h : m + ds.length ≤ l.length) : (splice l m ds).length = l.length := by simp [splice]; omega
theorem splice_get {l ds : List Value} {m : Nat} (h : m + ds.length ≤ l.length) (p : Nat) : (splice l m ds)[p]? = if m ≤ p ∧ p < m + ds.length then ds[p - m]? else l[p]? := by
  unfold splice
  have h1 : (l.take m).length = m := by simp; omega
  by_cases hp : p < m
  · rw [if_neg (by omega), List.append_assoc, List.getElem?_append_left (by omega), List.getElem?_take_of_lt hp]
  · rw [List.append_assoc, List.getElem?_append_right (by omega), h1]
    by_cases hq : p < m + ds.length
    · rw [if_pos ⟨by omega, hq⟩, List.getElem?_append_left (by omega)]
    · rw [if_neg (by omega), List.getElem?_append_right (by omega), List.getElem?_drop]
      congr 1; omega

theorem CompS.set {t : Ty} {x : t.den U.T} {o : Nat} {t' : Ty} {z : t'.den U.T} {x' : t.den U.T} (h : CompS U t x o t' z x') : ∀ {cs ds : List Value}, Rd U O S w t x cs → Rd U O S w t' z ds →
    o + ds.length ≤ cs.length ∧ Rd U O S w t x' (splice cs o ds) := by
  induction h with
  | @here t x z =>
    intro cs ds h1 h2
    have e : cs.length = ds.length := h1.length.trans h2.length.symm
    refine ⟨by omega, ?_⟩
    have : splice cs 0 ds = ds := by simp [splice, e]
    rw [this]; exact h2
  | @fst a b x x' y o t z _ ih =>
    intro cs ds h1 h2
    cases h1 with
    | @pair _ _ _ _ c1 c2 ha hb =>
      obtain ⟨h3, h4⟩ := ih ha h2
      refine ⟨by rw [List.length_append]; omega, ?_⟩
      have : splice (c1 ++ c2) o ds = splice c1 o ds ++ c2 := by
        unfold splice
        rw [List.take_append_of_le_length (by omega), List.drop_append_of_le_length (by omega)]
        simp
      rw [this]; exact .pair h4 hb
  | @snd a b x y y' o k t z _ hk ih =>
    intro cs ds h1 h2
    cases h1 with
    | @pair _ _ _ _ c1 c2 ha hb =>
      obtain ⟨h3, h4⟩ := ih hb h2
      have hl := ha.length
      refine ⟨by rw [List.length_append]; omega, ?_⟩
      have : splice (c1 ++ c2) k ds = c1 ++ splice c2 o ds := by
        unfold splice
        rw [hk, ← hl, List.take_append, List.drop_append]
        have e1 : (c1.take (c1.length + o)) = c1 := List.take_of_length_le (by omega)
        have e2 : c1.drop (c1.length + o + ds.length) = [] := List.drop_of_length_le (by omega)
        rw [e1, e2]
        have e3 : c1.length + o - c1.length = o := by omega
        have e4 : c1.length + o + ds.length - c1.length = o + ds.length := by omega
        rw [e3, e4]; simp
      rw [this]; exact .pair ha h4
  | named _ ih =>
    intro cs ds h1 h2
    cases h1 with
    | named _ _ h =>
      obtain ⟨h3, h4⟩ := ih h h2
      exact ⟨h3, .named _ _ h4⟩
  | @arr n e xs i o k x x' t z hx _ hk ih =>
    intro cs ds h1 h2
    have hlen := h1.length
    cases h1 with
    | arr _ _ _ cf hn hel =>
      obtain ⟨hi, hx⟩ := List.getElem?_eq_some_iff.1 hx
      obtain ⟨h3, h4⟩ := ih (hx ▸ hel i hi) h2
      have hce := (hel i hi).length
      have hcl : ∀ j, j < n → (cf j).length = e.width U.wd := fun j hj => (hel j (by omega)).length
      have hmul : (i + 1) * e.width U.wd ≤ n * e.width U.wd := Nat.mul_le_mul_right _ (by omega)
      rw [Nat.add_mul] at hmul
      have hlen' : ((List.range n).flatMap cf).length = n * e.width U.wd := hlen
      have hfit : k + ds.length ≤ ((List.range n).flatMap cf).length := by rw [hlen', hk]; omega
      refine ⟨hfit, ?_⟩
      have hcl' : ∀ j, j < n → (if j = i then splice (cf i) o ds else cf j).length = e.width U.wd := fun j hj => by
        split
        · rw [splice_len h3]; exact hce
        · exact hcl j hj
      have : splice ((List.range n).flatMap cf) k ds = (List.range n).flatMap fun j => if j = i then splice (cf i) o ds else cf j := by
        refine List.ext_getElem? fun p => ?_
        by_cases hp : p < n * e.width U.wd
        · have hw : 0 < e.width U.wd := by
            rcases Nat.eq_zero_or_pos (e.width U.wd) with h | h
            · rw [h] at hp; omega
            · exact h
          have hj : p / e.width U.wd < n := Nat.div_lt_of_lt_mul (by rwa [Nat.mul_comm])
          have hr : p % e.width U.wd < e.width U.wd := Nat.mod_lt _ hw
          have hpe : p / e.width U.wd * e.width U.wd + p % e.width U.wd = p := Nat.div_add_mod' _ _
          generalize p / e.width U.wd = j at hj hpe
          generalize p % e.width U.wd = r at hr hpe
          subst hpe
          rw [flatMap_range_get n _ _ hcl' j r hj hr, splice_get hfit]
          have g := flatMap_range_get n _ cf hcl j r hj hr
          by_cases hji : j = i
          · subst hji
            rw [if_pos rfl, splice_get h3]
            by_cases hin : o ≤ r ∧ r < o + ds.length
            · rw [if_pos hin, if_pos ⟨by omega, by omega⟩]; congr 1; omega
            · rw [if_neg hin, if_neg (by omega), g]
          · rw [if_neg hji, if_neg, g]
            rintro ⟨h5, h6⟩
            rw [hk] at h5 h6
            rcases Nat.lt_or_ge j i with h | h
            · have := Nat.mul_le_mul_right (e.width U.wd) (show j + 1 ≤ i by omega)
              rw [Nat.add_mul] at this; omega
            · have := Nat.mul_le_mul_right (e.width U.wd) (show i + 1 ≤ j by omega)
              rw [Nat.add_mul] at this; omega
        · rw [List.getElem?_eq_none (by rw [splice_len hfit, hlen']; omega), List.getElem?_eq_none (by rw [flatMap_range_length n _ _ hcl']; omega)]
      rw [this]
      refine .arr n e _ _ (by rw [upd_length]; exact hn) fun j hj => ?_
      by_cases hji : j = i
      · subst hji
        rw [if_pos rfl]
        have : (upd xs j x')[j]'hj = x' := by simp [upd]
        rw [this]; exact h4
      · rw [if_neg hji]
        rw [upd_length] at hj
        have : (upd xs i x')[j]'(by rw [upd_length]; exact hj) = xs[j] := by simp [upd, Ne.symm hji]
        rw [this]; exact hel j hj

inductive Place (U : Univ) : AVal U → Nat → Nat → Prop
  | loc (n off : Nat) : Place U (.loc n off) n off
  | eloc (n wd i b : Nat) {off : Nat} : off = i * wd + b → Place U (.eloc n wd i b) n off
theorem Place.ev {v : AVal U} {n off : Nat} (h : Place U v n off) {u : Value} (hv : VV U O S ι w v u) : ∃ b c, ι n = some (b, c) ∧ u = .pointer (some ⟨b, off, none⟩) := by
  cases h with
  | loc => exact hv
  | eloc _ _ _ _ e => subst e; exact hv

end
end Go.AM

namespace Go.AM

section
variable {U : Univ} {O : Out} {P : Program} {S : Nat → Prop} {ι : Lay} {w : World} {rs : List (Nat × AVal U)} {a : Act} {ops : Array Oper} {o : Oper}

inductive Callee (U : Univ) (rs : List (Nat × AVal U)) : Operand → FuncId → List (AVal U) → Prop
  | func (f : FuncId) : Callee U rs (.func f) f []
  | clo {x : Operand} {f : FuncId} {caps : List (AVal U)} : Opd U rs x (.clo f caps) → Callee U rs x f caps

theorem Callee.ev {x : Operand} {f : FuncId} {caps : List (AVal U)} (h : Callee U rs x f caps) (hr : ∀ x ∈ rs, VV U O S ι w x.2 (a.tmps.getD x.1 undef)) :
    ∃ vs, VVs U O S ι w caps vs ∧ a.eval x = .func (.func f) #[] vs.toArray := by
  cases h with
  | func => exact ⟨[], rfl, rfl⟩
  | clo h => exact h.ev hr

theorem oper_callC {f : FuncId} {x : Operand} {vs : List Value} {as : Array Operand} {ts : Array TypeId} (ho : o.op = .call { callee := .value x, args := as, argTypes := ts })
    (hb : HasBody P f) (hx : a.eval x = .func (.func f) #[] vs.toArray) {K : Act → World → Prop} {Q : Exit → Act → World → Prop} {R : Value → World → Prop}
    (hc : Calls P f ((as.toList.map a.eval ++ vs).toArray) w fun e w' => ∃ u, e = .returned u ∧ R u w') (hK : ∀ u w', R u w' → K (a.put o.dst u) w') : o.wp P a w K Q := by
  obtain ⟨fn, hf, hname, hbd⟩ := hb.h
  have e : as.map a.eval ++ vs.toArray = (as.toList.map a.eval ++ vs).toArray := by
    rw [← List.append_toArray, ← Array.toList_map, Array.toArray_toList]
  unfold Oper.wp execOp
  simp only [ho, resolve, hx, invoke, Deferred.ofValue, Sem.run_bind, Sem.run_pure, Result.andThen_ok, Array.empty_append, run_enter hf hname hbd, Oper.upon, e]
  refine hc.mono ?_
  rintro e w' ⟨u, rfl, hr⟩
  exact hK u w' hr

theorem sok_callF {x : Operand} {f : FuncId} {caps : List (AVal U)} {as : Array Operand} {ts : Array TypeId} {c : CSpec U} {vs : List (AVal U)} {vw : List (Nat × Blk U)}
    (hg : o.guard = none) (ho : o.op = .call { callee := .value x, args := as, argTypes := ts }) (hx : Callee U rs x f caps) (hb : HasBody P f) (hc : COk U O P f c)
    (ha : Opds U rs as.toList vs) (hv : Views U vw (vs ++ caps) c.ar) (hd : ∀ n ∈ nm vw, n ∉ nm c.bs) :
    SOk U O P ops o { rs := rs, cb := vw ++ c.bs, ws := c.r, pb := c.bs', nn := c.nn } := by
  intro S ι w a hlt hgl hrs hro hcb hown K Q hK
  refine opWp_plain hg ?_
  have hown : Own S ι w (nm (vw ++ c.bs)) := by simpa using hown
  have hin : ∀ n ∈ nm c.bs, n ∈ nm (vw ++ c.bs) := fun n hn => by simp only [nm, List.map_append, List.mem_append]; exact .inr hn
  have hinv : ∀ n ∈ nm vw, n ∈ nm (vw ++ c.bs) := fun n hn => by simp only [nm, List.map_append, List.mem_append]; exact .inl hn
  obtain ⟨us, hus, hxe⟩ := hx.ev (a := a) hrs
  have hro' : ∀ x ∈ vw, BR U O S ι w x.1 x.2 := fun x hx => hcb x (List.mem_append.2 (.inl hx))
  have hargs : VVs U O S ι w (vs ++ caps) (as.toList.map a.eval ++ us) := VVs.append.2 ⟨_, _, rfl, ha.ev hrs, hus⟩
  have hC := hc (fun b => S b ∨ Shown ι (nm vw) b) ι w (as.toList.map a.eval ++ us) (fun b hb => hb.elim (hlt b) fun ⟨n, hn, cc, h⟩ => (hown.out n (hinv n hn) b cc h).2) (hgl.mono (fun _ _ => rfl) fun _ h => .inl h) (hv.ev hro' hargs)
    (fun x hx => BR.mono (fun _ _ => rfl) (fun _ h => .inl h) rfl (fun _ _ => rfl) (fun _ _ _ => rfl) (hcb x (List.mem_append.2 (.inr hx))))
    ⟨fun n hn b cc h => ⟨fun hS => hS.elim (hown.out n (hin n hn) b cc h).1 fun ⟨m, hm, c', h'⟩ =>
      hown.sep n (hin n hn) m (hinv m hm) (fun e => hd m hm (e ▸ hn)) b cc c' h h', (hown.out n (hin n hn) b cc h).2⟩, fun n hn m hm => hown.sep n (hin n hn) m (hin m hm)⟩
  refine oper_callC ho hb hxe (R := fun u w' => ∃ S' ι', Nx U O { rs := rs, cb := vw ++ c.bs, ws := c.r, pb := c.bs', nn := c.nn : LSpec U } S ι w S' ι' w' ∧ VV U O S' ι' w' c.r u) ?_ ?_
  · refine hC.mono ?_
    rintro e w' ⟨u, S', ι', rfl, hN, hu⟩
    refine ⟨u, rfl, S', ι', ⟨hN.os, hN.tape, hN.output, hN.size, fun b hb => hN.sub b (.inl hb), ?_, hN.lt, fun b hb hnot => hN.keep b hb fun n hn => hnot n (hin n hn), hN.lay, hN.blk, fun n hn b cc h => ?_, hN.sep⟩, hu⟩
    · intro b hS
      rcases hN.new b hS with (h | ⟨n, hn, cc, h⟩) | h | ⟨m, hm, cc, h⟩
      · exact .inl h
      · exact .inr (.inr ⟨n, hinv n hn, cc, h⟩)
      · exact .inr (.inl h)
      · exact .inr (.inr ⟨m, hin m hm, cc, h⟩)
    · obtain ⟨h1, h2, h3⟩ := hN.plc n hn b cc h
      exact ⟨h1, h2, h3.imp id fun ⟨m, hm, c', h'⟩ => ⟨m, hin m hm, c', h'⟩⟩
  · rintro u w' ⟨S', ι', hN, hu⟩
    exact hK u S' ι' w' hN hu

theorem sok_callV {x : Operand} {f : FuncId} {caps : List (AVal U)} {as : Array Operand} {ts : Array TypeId} {c : CSpec U} {vs : List (AVal U)} {vw : List (Nat × Blk U)}
    (hg : o.guard = none) (ho : o.op = .call { callee := .value x, args := as, argTypes := ts }) (hx : Callee U rs x f caps) (hb : HasBody P f) (hc : COk U O P f c)
    (ha : Opds U rs as.toList vs) (hv : Views U vw (vs ++ caps) c.ar) (hd : ∀ n ∈ nm vw, n ∉ nm c.bs) (hf : vw = [] ∨ c.flat = true) :
    SOk U O P ops o { rs := rs, ro := vw, cb := c.bs, ws := c.r, pb := c.bs', nn := c.nn } := by
  intro S ι w a hlt hgl hrs hro hcb hown K Q hK
  refine opWp_plain hg ?_
  have hin : ∀ n ∈ nm c.bs, n ∈ nm vw ++ nm c.bs := fun n hn => List.mem_append.2 (.inr hn)
  have hinv : ∀ n ∈ nm vw, n ∈ nm vw ++ nm c.bs := fun n hn => List.mem_append.2 (.inl hn)
  obtain ⟨us, hus, hxe⟩ := hx.ev (a := a) hrs
  have hargs : VVs U O S ι w (vs ++ caps) (as.toList.map a.eval ++ us) := VVs.append.2 ⟨_, _, rfl, ha.ev hrs, hus⟩
  have hC := hc (fun b => S b ∨ Shown ι (nm vw) b) ι w (as.toList.map a.eval ++ us) (fun b hb => hb.elim (hlt b) fun ⟨n, hn, cc, h⟩ => (hown.out n (hinv n hn) b cc h).2) (hgl.mono (fun _ _ => rfl) fun _ h => .inl h) (hv.ev hro hargs)
    (fun x hx => BR.mono (fun _ _ => rfl) (fun _ h => .inl h) rfl (fun _ _ => rfl) (fun _ _ _ => rfl) (hcb x hx))
    ⟨fun n hn b cc h => ⟨fun hS => hS.elim (hown.out n (hin n hn) b cc h).1 fun ⟨m, hm, c', h'⟩ =>
      hown.sep n (hin n hn) m (hinv m hm) (fun e => hd m hm (e ▸ hn)) b cc c' h h', (hown.out n (hin n hn) b cc h).2⟩, fun n hn m hm => hown.sep n (hin n hn) m (hin m hm)⟩
  refine oper_callC ho hb hxe (R := fun u w' => ∃ S' ι', Nx U O { rs := rs, ro := vw, cb := c.bs, ws := c.r, pb := c.bs', nn := c.nn : LSpec U } S ι w S' ι' w' ∧ VV U O S' ι' w' c.r u) ?_ ?_
  · refine hC.mono ?_
    rintro e w' ⟨u, S', ι', rfl, hN, hu⟩
    refine ⟨u, rfl, fun b => S' b ∧ ¬ Shown ι (nm vw) b, ι', ⟨hN.os, hN.tape, hN.output, hN.size, fun b hb => ⟨hN.sub b (.inl hb), ?_⟩, ?_, fun b hb => hN.lt b hb.1, hN.keep, hN.lay, fun x hx => ?_,
      fun n hn b cc h => ⟨fun hS => (hN.plc n hn b cc h).1 hS.1, (hN.plc n hn b cc h).2⟩, hN.sep⟩, ?_⟩
    · rintro ⟨n, hn, cc, h⟩
      exact (hown.out n (hinv n hn) b cc h).1 hb
    · rintro b ⟨hS, hnot⟩
      rcases hN.new b hS with (h | h) | h
      · exact .inl h
      · exact absurd h hnot
      · exact .inr h
    · rcases hf with rfl | hf
      · exact BR.mono (fun _ _ => rfl) (fun b h => ⟨h, fun ⟨n, hn, _⟩ => by cases hn⟩) rfl (fun _ _ => rfl) (fun _ _ _ => rfl) (hN.blk x hx)
      · simp only [CSpec.flat, Bool.and_eq_true, List.all_eq_true] at hf
        exact (hN.blk x hx).flat (hf.2 x hx)
    · rcases hf with rfl | hf
      · exact VV.mono (fun _ _ => rfl) (fun b h => ⟨h, fun ⟨n, hn, _⟩ => by cases hn⟩) _ _ (fun _ _ => rfl) hu
      · simp only [CSpec.flat, Bool.and_eq_true, List.all_eq_true] at hf
        exact VV.flat _ _ hf.1 hu
  · rintro u w' ⟨S', ι', hN, hu⟩
    exact hK u S' ι' w' hN hu

def lays (P : Program) (T : TypeId) : Option (List Value × (Nat → Option (Nat × Nat))) :=
  match P.info? T, P.underlying T with
  | some it, some (.array _ e) =>
    match it.zero, P.info? e with
    | some z, some ie => some (z.cells.toList, fun i => some (i * ie.size, ie.size))
    | _, _ => none
  | some it, some (.struct fields) =>
    match it.zero, fields.toList.mapM (fun f => (P.info? f.type).map fun i => (f.offset, i.size)) with
    | some z, some places => some (z.cells.toList, fun i => places.toArray[i]?)
    | _, _ => none
  | _, _ => none

theorem built_lays {T : TypeId} {z : List Value} {pl : Nat → Option (Nat × Nat)} (h : lays P T = some (z, pl)) (parts : List (Nat × Value)) : P.built T parts = Instr.fill pl z.toArray parts := by
  unfold lays at h
  unfold Program.built
  split at h
  · rename_i it e h1 h2
    rw [h1, h2]
    simp only
    split at h
    · rename_i z' ie h3 h4
      rw [h3, h4]
      injection h with h; injection h with h5 h6
      subst h5 h6; simp
    · cases h
  · rename_i it fields h1 h2
    rw [h1, h2]
    simp only
    split at h
    · rename_i z' places h3 h4
      rw [h3, h4]
      injection h with h; injection h with h5 h6
      subst h5 h6; simp
    · cases h
  · cases h

inductive Filled (U : Univ) (rs : List (Nat × AVal U)) (pl : Nat → Option (Nat × Nat)) : List (Nat × Operand) → List (AVal U) → List (AVal U) → Prop
  | nil (us : List (AVal U)) : Filled U rs pl [] us us
  | cons {i : Nat} {x : Operand} {v : AVal U} (pre mid mid' post : List (AVal U)) {l : List (Nat × Operand)} {us us' : List (AVal U)} : Opd U rs x v → Units U v mid' → us = pre ++ mid ++ post → pre.all AVal.unit = true → mid.all AVal.unit = true →
      mid'.all AVal.unit = true → pl i = some (unitsW pre, unitsW mid') → unitsW mid' = unitsW mid → Filled U rs pl l (pre ++ mid' ++ post) us' → Filled U rs pl ((i, x) :: l) us us'

theorem Filled.ev {pl : Nat → Option (Nat × Nat)} {l : List (Nat × Operand)} {us us' : List (AVal U)} (h : Filled U rs pl l us us') (hr : ∀ x ∈ rs, VV U O S ι w x.2 (a.tmps.getD x.1 undef)) :
    ∀ {vs : List Value} {arr : Array Value}, VVs U O S ι w us vs → (∀ v ∈ vs, ∀ c ∈ v.cells.toList, c.oneCell' = true) → arr.toList = cellsOf vs →
    ∃ out vs', Instr.fill pl arr (l.map fun x => (x.1, a.eval x.2)) = some out ∧ VVs U O S ι w us' vs' ∧ out.toList = cellsOf vs' ∧ ∀ v ∈ vs', ∀ c ∈ v.cells.toList, c.oneCell' = true := by
  induction h with
  | nil us => intro vs arr h1 h3 h2; exact ⟨arr, vs, rfl, h1, h2, h3⟩
  | @cons i x v pre mid mid' post l us us' hx hu he hpre hmid hmid' hpl hw _ ih =>
    intro vs arr h1 h3 h2
    subst he
    obtain ⟨v12, v3, rfl, h6, h7⟩ := VVs.append.1 h1
    obtain ⟨v1, v2, rfl, h8, h9⟩ := VVs.append.1 h6
    obtain ⟨ws, a1, a2, a3, a4⟩ := hu.to hmid' (hx.ev hr)
    have l1 := (VVs.cells hpre h8).1
    have l2 := (VVs.cells hmid h9).1
    have hsz : (a.eval x).cells.size = unitsW mid' := by rw [← Array.length_toList, a2, a4]
    have hal : arr.toList.length = unitsW pre + unitsW mid + (cellsOf v3).length := by rw [h2]; simp [cellsOf_append, l1, l2]; omega
    have hal' : arr.toList.length = arr.size := Array.length_toList
    have hfold := fold_cells' (unitsW pre) (a.eval x).cells arr (by rw [hsz, hw]; omega)
    have e1 : (cellsOf (v1 ++ v2 ++ v3)).take (unitsW pre) = cellsOf v1 := by
      rw [cellsOf_append, cellsOf_append, List.append_assoc]; exact List.take_left' l1
    have e2 : (cellsOf (v1 ++ v2 ++ v3)).drop (unitsW pre + (a.eval x).cells.size) = cellsOf v3 := by
      rw [cellsOf_append, cellsOf_append, hsz, hw]; exact List.drop_left' (by rw [List.length_append, l1, l2])
    rw [h2, e1, e2, a2] at hfold
    obtain ⟨out, vs', b1, b2, b3, b4⟩ := ih (vs := v1 ++ ws ++ v3) (arr := (a.eval x).cells.zipIdx.foldl (fun cs (x : Value × Nat) => cs.setIfInBounds (unitsW pre + x.2) x.1) arr)
      (VVs.append.2 ⟨v1 ++ ws, v3, rfl, VVs.append.2 ⟨v1, ws, rfl, h8, a1⟩, h7⟩) (fun v hv => by
        rcases List.mem_append.1 hv with hv | hv
        · rcases List.mem_append.1 hv with hv | hv
          · exact h3 v (List.mem_append.2 (.inl (List.mem_append.2 (.inl hv))))
          · exact a3 v hv
        · exact h3 v (List.mem_append.2 (.inr hv))) (by rw [hfold, cellsOf_append, cellsOf_append])
    refine ⟨out, vs', ?_, b2, b3, b4⟩
    rw [List.map_cons]
    unfold Instr.fill
    rw [hpl]
    simp only [hsz, ne_eq, not_true_eq_false]
    rw [if_neg (by simp; omega)]
    exact b1

theorem exec_build {ρ : Operand → Value} {T : TypeId} {ps : Array (Nat × Operand)} (ho : o.op = .build T ps) : execOp ρ o = vOf (Instr.build T (ps.map fun (i, x) => (i, ρ x))) := by unfold execOp; rw [ho]; rfl

theorem sok_build {T : TypeId} {t : Ty} {ps : Array (Nat × Operand)} {z : List Value} {pl : Nat → Option (Nat × Nat)} {us0 us : List (AVal U)} {v : AVal U} (hg : o.guard = none) (ho : o.op = .build T ps) (hl : lays P T = some (z, pl))
    (hz : ZU U us0 z) (hf : Filled U rs pl ps.toList us0 us) (hag : t.isAgg = true) (hm : Made U t us v) : SOk U O P ops o { rs := rs, ws := v } :=
  sok_v hg _ (fun _ => exec_build ho) fun S ι w a hrs _ => by
    obtain ⟨vs, h1, h2, h3⟩ := hz.to (O := O) (S := S) (ι := ι) (w := w)
    obtain ⟨out, vs', b1, b2, b3, _⟩ := hf.ev hrs h1 h3 (arr := z.toArray) (by rw [h2])
    refine ⟨.agg out, run_build w T _ out ?_, ?_⟩
    · rw [built_lays hl, ← b1]; congr 1; rw [Array.toList_map]
    · have := hm.of b2
      rw [hag] at this
      rw [show out = (cellsOf vs').toArray from by rw [← b3]]
      exact this
end
end Go.AM

namespace Go.AM
set_option linter.unusedVariables false
theorem notin_of {l : List Nat} {d : Nat} (h : l.contains d = false) : d ∉ l := fun hin => by rw [List.contains_eq_mem, decide_eq_false_iff_not] at h; exact h hin
section
variable {U : Univ} {O : Out} {P : Program} {S : Nat → Prop} {ι : Lay} {w : World} {rs : List (Nat × AVal U)} {a : Act} {ops : Array Oper} {o : Oper}

inductive ResL (U : Univ) (P : Program) (st : St U) : List ResultVar → List (AVal U) → Prop
  | nil : ResL U P st [] []
  | tmp {t : Nat} {v : AVal U} {l : List ResultVar} {vs : List (AVal U)} (h : (t, v) ∈ st.sl) : ResL U P st l vs → ResL U P st (.tmp t :: l) (v :: vs)
  | cell {b : Nat} {T : TypeId} {t : Ty} {n off : Nat} (pre mid post : List (AVal U)) {v : AVal U} {l : List ResultVar} {vs : List (AVal U)} (h : (b, .loc n off) ∈ st.sl) (hb : (n, .box (pre ++ mid ++ post)) ∈ st.hp)
      (hpre : pre.all AVal.unit = true) (hoff : unitsW pre = off) (hmid : mid.all AVal.unit = true) (hw : unitsW mid = t.width U.wd) (ht : TyOk P U T t) (hm : Made U t mid v) : ResL U P st l vs → ResL U P st (.cell b T :: l) (v :: vs)

def resOne (tmps : Array Value) : ResultVar → Sem Value
  | .tmp t => pure (tmps.getD t undef)
  | .cell b t => do loadVar t (← asAddr (tmps.getD b undef))
theorem results_eq (fn : Func) (tmps : Array Value) : results fn tmps = (do
    let vs ← fn.results.mapM (resOne tmps)
    pure (if h : vs.size = 1 then vs[0] else .tuple vs)) := by
  unfold results
  have : (fun x => match x with | ResultVar.tmp t => (pure (tmps.getD t undef) : Sem Value) | ResultVar.cell a t => do loadVar t (← asAddr (tmps.getD a undef))) = resOne tmps := by
    funext x; cases x <;> rfl
  rw [← this]
  rfl

theorem ResL.ev {B : Base} {st : St U} {l : List ResultVar} {vs : List (AVal U)} (h : ResL U P st l vs) {a : Act} (hR : Rel U O B S ι st a w) :
    ∃ us, (l.mapM (resOne a.tmps)).run P w = .ok us w ∧ VVs U O S ι w vs us := by
  induction h with
  | nil => exact ⟨[], by simp, rfl⟩
  | tmp h _ ih =>
    obtain ⟨us, h1, h2⟩ := ih
    exact ⟨_ :: us, by simp [List.mapM_cons, resOne, h1], _, us, rfl, hR.sl _ h, h2⟩
  | @cell b T t n off pre mid post v l vs h hb hpre hoff hmid hw ht hm _ ih =>
    obtain ⟨us, h1, h2⟩ := ih
    obtain ⟨bk, c, v1, v2, v3, arr, e, g1, g2, g3, g4, g5, g6, g7, g8, _⟩ := box_parts (hR.hp _ hb) hpre hmid
    obtain ⟨b', c', g9, g10⟩ := hR.sl _ h
    rw [g1] at g9
    obtain ⟨rfl, rfl⟩ : bk = b' ∧ c = c' := by simpa using g9
    have hl : (loadVar T ⟨bk, off, none⟩).run P w = .ok (mkV t.isAgg (cellsOf v2)) w := by
      have := run_loadAt (w := w) ht (bl := bk) (of := off) (cs := cellsOf v2) (by rw [g8, hw]) fun j hj => by
        rw [cell_of_row w bk (off + j) arr e (0, 0) g6, ← Array.getElem?_toList, g5, List.append_assoc, List.getElem?_append_right (by omega), g7, hoff, List.getElem?_append_left (by omega)]
        congr 1
        omega
      simpa only [Instr.loadAt, Instr.sureAddr, Sem.run_bind, Sem.run_pure, Result.andThen_ok] using this
    refine ⟨mkV t.isAgg (cellsOf v2) :: us, ?_, _, us, rfl, hm.of g3, h2⟩
    simp only at g10
    simp only [List.mapM_cons, resOne, g10, asAddr, Sem.run_bind, Sem.run_pure, Result.andThen_ok, hl, h1]

def resOf : List (AVal U) → AVal U
  | [v] => v
  | vs => .tup vs

theorem retV_L {fn : Func} {st : St U} {l : List ResultVar} {vs : List (AVal U)} (hf : fn.results.toList = l) (h : ResL U P st l vs) : RetV U O P fn st (resOf vs) := by
  intro B S ι a w hR
  obtain ⟨us, h1, h2⟩ := h.ev hR
  subst hf
  refine ⟨if h : us.toArray.size = 1 then us.toArray[0] else .tuple us.toArray, ?_, ?_⟩
  · rw [results_eq]
    simp only [Array.mapM_eq_mapM_toList, Sem.run_bind]
    simp [h1]
  · match vs, us, h2 with
    | [], us, h2 => simp only [VVs] at h2; subst h2; exact ⟨[], rfl, rfl⟩
    | [v], us, h2 =>
      simp only [VVs] at h2
      obtain ⟨u, us', rfl, h3, rfl⟩ := h2
      exact h3
    | v :: v' :: vs, us, h2 =>
      have h2' := h2
      simp only [VVs] at h2
      obtain ⟨u, us', rfl, h3, u', us'', rfl, h4, h5⟩ := h2
      exact ⟨u :: u' :: us'', h2', by simp⟩

theorem eqGuard_agg {op : BinOp} {t : TypeId} {x y : Operand} {a b : Array Value} (hq : P.eqGuardType P.depth t = false) (w : World) : (eqGuard op t x y (.agg a) (.agg b)).run P w = .ok () w := by
  unfold eqGuard
  cases op <;> simp [program, Sem.run, hq]

end
end Go.AM

namespace Go.AM
set_option linter.unusedVariables false

section
variable {U : Univ} {O : Out}
section
variable {P : Program} {ops : Array Oper} {o : Oper} {rs : List (Nat × AVal U)}
theorem o0 {t : Nat} {v : AVal U} : Opd U ((t, v) :: rs) (.tmp t) v := .tmp (.head _)
theorem o1 {t : Nat} {v : AVal U} {x : Nat × AVal U} : Opd U (x :: (t, v) :: rs) (.tmp t) v := .tmp (.tail _ (.head _))
theorem mv {t : Nat} {v : AVal U} (hg : o.guard = none) (ho : o.op = .move (.tmp t)) : SOk U O P ops o { rs := [(t, v)], ws := v } := sok_move hg (.inl ho) o0
theorem mva {t : Nat} {v : AVal U} (hg : o.guard = none) (ho : o.op = .assign (.tmp t)) : SOk U O P ops o { rs := [(t, v)], ws := v } := sok_move hg (.inr ho) o0
end

abbrev I6 : Ty := .int .i64
abbrev U6 : Ty := .arr 4 (.int .u64)
abbrev Z4 : List Int := List.replicate 4 (0 : Int)
end
end Go.AM

namespace Go.AM
set_option linter.unusedVariables false

def eqB {T : Nat → Type} : (t : Ty) → t.den T → t.den T → Bool
  | .bool, x, y => BEq.beq (α := Bool) x y
  | .int _, x, y => BEq.beq (α := Int) x y
  | .str, x, y => BEq.beq (α := List UInt8) x y
  | .unit, _, _ => true
  | .pair a b, x, y => eqB a x.1 y.1 && eqB b x.2 y.2
  | _, _, _ => false

section
variable {U : Univ} {O : Out} {P : Program} {S : Nat → Prop} {ι : Lay} {w : World} {rs : List (Nat × AVal U)} {a : Act} {ops : Array Oper} {o : Oper}

inductive EqOne (P : Program) : TypeId → Ty → Prop
  | bool {F : TypeId} : P.underlying F = some .bool → EqOne P F .bool
  | int {F : TypeId} {k : IntKind} : P.underlying F = some (.int k) → EqOne P F (.int k)
  | str {F : TypeId} : P.underlying F = some .string → EqOne P F .str

inductive EqF (P : Program) (U : Univ) : List Field → Nat → Ty → Prop
  | nil {off : Nat} : EqF P U [] off .unit
  | cons {f : Field} {fs : List Field} {off : Nat} {a b : Ty} : f.name ≠ "_" → f.offset = off → TyOk P U f.type a → EqOne P f.type a → EqF P U fs (off + 1) b → EqF P U (f :: fs) off (.pair a b)

theorem EqOne.run {F : TypeId} {t : Ty} (h : EqOne P F t) (d : Nat) {x y : t.den U.T} {c1 c2 : List Value} (h1 : Rd U O S w t x c1) (h2 : Rd U O S w t y c2) :
    (Op.equalIn (d + 1) F (mkV t.isAgg c1) (mkV t.isAgg c2)).run P w = .ok (eqB t x y) w ∧ c1.length = 1 ∧ c2.length = 1 := by
  cases h with
  | bool hu =>
    cases h1; cases h2
    exact ⟨by simp [Op.equalIn, run_underlying hu, mkV, Ty.isAgg, eqB], rfl, rfl⟩
  | int hu =>
    cases h1; cases h2
    exact ⟨by simp [Op.equalIn, run_underlying hu, mkV, Ty.isAgg, eqB], rfl, rfl⟩
  | str hu =>
    cases h1; cases h2
    exact ⟨by simp [Op.equalIn, run_underlying hu, mkV, Ty.isAgg, eqB, beq_toListBytes, ByteArray.toList_eq], rfl, rfl⟩

theorem EqF.run {fs : List Field} {off : Nat} {t : Ty} (h : EqF P U fs off t) (d : Nat) : ∀ {x y : t.den U.T} {c1 c2 : List Value} {xs ys : Array Value}, Rd U O S w t x c1 → Rd U O S w t y c2 →
    (∀ j, j < c1.length → xs[off + j]? = c1[j]?) → (∀ j, j < c2.length → ys[off + j]? = c2[j]?) → (Op.eqFields (d + 1) xs ys fs).run P w = .ok (eqB t x y) w := by
  induction h with
  | nil => intro x y c1 c2 xs ys _ _ _ _; simp [Op.eqFields, eqB]
  | @cons f fs off a b hn ho ht he _ ih =>
    intro x y c1 c2 xs ys h1 h2 g1 g2
    cases h1 with
    | @pair _ _ x1 x2 p1 p2 a1 a2 =>
    cases h2 with
    | @pair _ _ y1 y2 q1 q2 b1 b2 =>
    obtain ⟨e1, e2, e3⟩ := he.run (P := P) (w := w) d a1 b1
    have hp1 : (part f.type xs f.offset).run P w = .ok (mkV a.isAgg p1) w := run_part ht a1.length (fun j hj => by
      have hl := a1.length
      rw [ho, g1 j (by rw [List.length_append]; omega), List.getElem?_append_left (by omega)]) width_one w
    have hp2 : (part f.type ys f.offset).run P w = .ok (mkV a.isAgg q1) w := run_part ht b1.length (fun j hj => by
      have hl := b1.length
      rw [ho, g2 j (by rw [List.length_append]; omega), List.getElem?_append_left (by omega)]) width_one w
    have hr := ih (xs := xs) (ys := ys) a2 b2 (fun j hj => by
      have := g1 (1 + j) (by rw [List.length_append]; omega)
      rw [show off + 1 + j = off + (1 + j) by omega, this, List.getElem?_append_right (by omega)]; congr 1; omega) (fun j hj => by
      have := g2 (1 + j) (by rw [List.length_append]; omega)
      rw [show off + 1 + j = off + (1 + j) by omega, this, List.getElem?_append_right (by omega)]; congr 1; omega)
    simp only [Op.eqFields, hn, ne_eq, not_false_eq_true, if_true, Sem.run_bind, hp1, hp2, e1, Result.andThen_ok]
    show _ = Result.ok (eqB a x1 y1 && eqB b x2 y2) w
    cases eqB a x1 y1
    · simp
    · simpa using hr

theorem run_eqStruct {T : TypeId} {fs : Array Field} {n : Nat} (hT : P.underlying T = some (.struct fs)) (hs : P.stoodInHeld T = false) (hf : EqF P U fs.toList 0 (U.body n)) {x y : U.T n} {c1 c2 : List Value}
    (h1 : Rd U O S w (.named n) x c1) (h2 : Rd U O S w (.named n) y c2) : (Op.equal T (.agg c1.toArray) (.agg c2.toArray)).run P w = .ok (eqB (U.body n) (U.out n x) (U.out n y)) w := by
  have hfo : P.fieldsOf T = fs := by simp [Program.fieldsOf, hT]
  cases h1 with
  | named _ _ h1 =>
  cases h2 with
  | named _ _ h2 =>
  show (Op.equalIn (9999 + 1) T _ _).run P w = _
  rw [run_equalIn_struct w 9999 T _ _ (by rw [hfo]; exact hT) hs, hfo]
  exact hf.run 9998 h1 h2 (fun j hj => by simp) (fun j hj => by simp)

theorem sok_eqS {T t' : TypeId} {fs : Array Field} {n : Nat} {x y : Operand} {m k : U.T n} (hg : o.guard = none) (ho : o.op = .binOp .eql T x y t') (hT : P.underlying T = some (.struct fs)) (hs : P.stoodInHeld T = false)
    (hf : EqF P U fs.toList 0 (U.body n)) (hq : P.eqGuardType P.depth T = false) (hx : Opd U rs x (.p (.named n) m)) (hy : Opd U rs y (.p (.named n) k)) :
    SOk U O P ops o { rs := rs, ws := .p .bool (eqB (U.body n) (U.out n m) (U.out n k)) } :=
  sok_v hg _ (fun _ => exec_bin ho) fun S ι w a hrs _ => by
    obtain ⟨c1, r1, e1⟩ := hx.ev hrs
    obtain ⟨c2, r2, e2⟩ := hy.ev hrs
    refine ⟨.bool (eqB (U.body n) (U.out n m) (U.out n k)), ?_, VV.bool_iff.2 rfl⟩
    rw [e1, e2]
    simp only [mkV, Ty.isAgg, Sem.run_bind, eqGuard_agg hq, Result.andThen_ok, binOp, run_eqStruct hT hs hf r1 r2, Sem.run_pure]

theorem sok_neS {T t' : TypeId} {fs : Array Field} {n : Nat} {x y : Operand} {m k : U.T n} (hg : o.guard = none) (ho : o.op = .binOp .neq T x y t') (hT : P.underlying T = some (.struct fs)) (hs : P.stoodInHeld T = false)
    (hf : EqF P U fs.toList 0 (U.body n)) (hq : P.eqGuardType P.depth T = false) (hx : Opd U rs x (.p (.named n) m)) (hy : Opd U rs y (.p (.named n) k)) :
    SOk U O P ops o { rs := rs, ws := .p .bool (!(eqB (U.body n) (U.out n m) (U.out n k))) } :=
  sok_v hg _ (fun _ => exec_bin ho) fun S ι w a hrs _ => by
    obtain ⟨c1, r1, e1⟩ := hx.ev hrs
    obtain ⟨c2, r2, e2⟩ := hy.ev hrs
    refine ⟨.bool (!(eqB (U.body n) (U.out n m) (U.out n k))), ?_, VV.bool_iff.2 rfl⟩
    rw [e1, e2]
    simp only [mkV, Ty.isAgg, Sem.run_bind, eqGuard_agg hq, Result.andThen_ok, binOp, run_eqStruct hT hs hf r1 r2, Sem.run_pure]
end
end Go.AM

namespace Go.AM
set_option linter.unusedVariables false

abbrev KV (α : Type) := List (List UInt8 × α)
section
variable {α : Type}
def mget (k : List UInt8) : KV α → Option α
  | [] => none
  | y :: r => if y.1 = k then some y.2 else mget k r
def mput (k : List UInt8) (v : α) : KV α → KV α
  | [] => [(k, v)]
  | y :: r => if y.1 = k then (k, v) :: r else if Op.bytesLess k y.1 then (k, v) :: y :: r else y :: mput k v r
def mdel (k : List UInt8) (m : KV α) : KV α := m.filter fun y => !(y.1 == k)
def Rising (m : KV α) : Prop := m.Pairwise fun x y => Op.bytesLess x.1 y.1 = true

theorem bytesLess_eq : ∀ (x y : List UInt8), Op.bytesLess x y = decide (x < y)
  | [], [] => by simp [Op.bytesLess]
  | _ :: _, [] => by simp [Op.bytesLess]
  | [], _ :: _ => by simp [Op.bytesLess]
  | a :: x, b :: y => by
    rw [Op.bytesLess, bytesLess_eq x y]
    simp only [List.cons_lt_cons_iff]
    by_cases h1 : a < b <;> by_cases h2 : a = b <;> by_cases h3 : x < y <;> simp [h1, h2, h3]
theorem less_irrefl (a : List UInt8) : Op.bytesLess a a = false := by rw [bytesLess_eq]; simp
theorem less_trans {a b c : List UInt8} (h1 : Op.bytesLess a b = true) (h2 : Op.bytesLess b c = true) : Op.bytesLess a c = true := by
  rw [bytesLess_eq, decide_eq_true_eq] at *; exact List.lt_trans h1 h2
theorem less_total : ∀ {a b : List UInt8}, a ≠ b → Op.bytesLess a b = true ∨ Op.bytesLess b a = true
  | [], [], h => absurd rfl h
  | [], _ :: _, _ => .inl rfl
  | _ :: _, [], _ => .inr rfl
  | a :: x, b :: y, h => by
    simp only [Op.bytesLess, Bool.or_eq_true, decide_eq_true_eq, Bool.and_eq_true, beq_iff_eq]
    by_cases h1 : a = b
    · subst h1
      rcases less_total (a := x) (b := y) (fun e => h (by rw [e])) with h2 | h2
      · exact .inl (.inr ⟨rfl, h2⟩)
      · exact .inr (.inr ⟨rfl, h2⟩)
    · have h2 : a.toNat ≠ b.toNat := fun e => h1 (UInt8.toNat_inj.1 e)
      rcases Nat.lt_or_gt_of_ne h2 with h3 | h3
      · exact .inl (.inl (UInt8.lt_iff_toNat_lt.2 h3))
      · exact .inr (.inl (UInt8.lt_iff_toNat_lt.2 h3))
theorem less_ne {a b : List UInt8} (h : Op.bytesLess a b = true) : a ≠ b := by rintro rfl; rw [less_irrefl] at h; cases h

theorem Rising.apart {m : KV α} (h : Rising m) : m.Pairwise fun x y => x.1 ≠ y.1 := h.imp fun h => less_ne h
theorem Rising.del {m : KV α} (h : Rising m) (k : List UInt8) : Rising (mdel k m) := h.filter _
theorem mput_mem {k : List UInt8} {v : α} : ∀ {m : KV α} {x : List UInt8 × α}, x ∈ mput k v m → x = (k, v) ∨ x ∈ m
  | [], x, h => by simp [mput] at h; exact .inl h
  | y :: r, x, h => by
    unfold mput at h
    split at h
    · rcases List.mem_cons.1 h with h | h
      · exact .inl h
      · exact .inr (List.mem_cons_of_mem _ h)
    split at h
    · rcases List.mem_cons.1 h with h | h
      · exact .inl h
      · exact .inr h
    · rcases List.mem_cons.1 h with h | h
      · exact .inr (h ▸ List.mem_cons_self)
      · rcases mput_mem h with h | h
        · exact .inl h
        · exact .inr (List.mem_cons_of_mem _ h)
theorem Rising.put {k : List UInt8} {v : α} : ∀ {m : KV α}, Rising m → Rising (mput k v m)
  | [], _ => List.pairwise_singleton _ _
  | y :: r, h => by
    obtain ⟨h1, h2⟩ := List.pairwise_cons.1 h
    unfold mput
    split
    · rename_i e
      exact List.pairwise_cons.2 ⟨fun x hx => e ▸ h1 x hx, h2⟩
    split
    · rename_i hl
      refine List.pairwise_cons.2 ⟨fun x hx => ?_, h⟩
      rcases List.mem_cons.1 hx with rfl | hx
      · exact hl
      · exact less_trans hl (h1 x hx)
    · rename_i hne hl
      refine List.pairwise_cons.2 ⟨fun x hx => ?_, Rising.put h2⟩
      rcases mput_mem hx with rfl | hx
      · rcases less_total hne with h | h
        · exact h
        · exact absurd h hl
      · exact h1 x hx
theorem mdel_eq {k : List UInt8} : ∀ {m : KV α}, (∀ y ∈ m, y.1 ≠ k) → mdel k m = m
  | [], _ => rfl
  | y :: r, h => by
    have := mdel_eq (m := r) fun y hy => h y (List.mem_cons_of_mem _ hy)
    unfold mdel at this ⊢
    rw [List.filter_cons, if_pos (by simpa using h y List.mem_cons_self), this]
theorem mput_perm {k : List UInt8} {v : α} : ∀ {m : KV α}, Rising m → (mput k v m).Perm ((k, v) :: mdel k m)
  | [], _ => .refl _
  | y :: r, h => by
    obtain ⟨h1, h2⟩ := List.pairwise_cons.1 h
    unfold mput
    split
    · rename_i e
      have : mdel k (y :: r) = r := by
        unfold mdel
        rw [List.filter_cons, if_neg (by simp [e])]
        exact mdel_eq fun x hx => by rw [← e]; exact (less_ne (h1 x hx)).symm
      rw [this]
    split
    · rename_i hl
      have : mdel k (y :: r) = y :: r := mdel_eq fun x hx => by
        rcases List.mem_cons.1 hx with rfl | hx
        · exact (less_ne hl).symm
        · exact (less_ne (less_trans hl (h1 x hx))).symm
      rw [this]
    · rename_i hne hl
      have : mdel k (y :: r) = y :: mdel k r := by unfold mdel; rw [List.filter_cons, if_pos (by simpa using hne)]
      rw [this]
      exact ((mput_perm h2).cons y).trans (.swap _ _ _)
theorem mget_none {k : List UInt8} : ∀ {m : KV α}, mget k m = none ↔ ∀ y ∈ m, y.1 ≠ k
  | [] => by simp [mget]
  | y :: r => by
    unfold mget
    split
    · rename_i e; simp [e]
    · rename_i e; simp [mget_none (m := r), e]
theorem mget_mem {k : List UInt8} {v : α} : ∀ {m : KV α}, mget k m = some v → (k, v) ∈ m
  | [], h => by cases h
  | y :: r, h => by
    unfold mget at h
    split at h
    · rename_i e; cases h; rw [← e]; exact List.mem_cons_self
    · exact List.mem_cons_of_mem _ (mget_mem h)
theorem mget_of {k : List UInt8} {v : α} : ∀ {m : KV α}, m.Pairwise (fun x y => x.1 ≠ y.1) → (k, v) ∈ m → mget k m = some v
  | [], _, h => by cases h
  | y :: r, h, hm => by
    obtain ⟨h1, h2⟩ := List.pairwise_cons.1 h
    unfold mget
    rcases List.mem_cons.1 hm with rfl | hm
    · rw [if_pos rfl]
    · rw [if_neg (h1 _ hm), mget_of h2 hm]
theorem mget_put_same (k : List UInt8) (v : α) : ∀ m : KV α, mget k (mput k v m) = some v
  | [] => by simp [mput, mget]
  | y :: r => by
    unfold mput
    split
    · simp [mget]
    split
    · simp [mget]
    · rename_i h _
      simp [mget, h, mget_put_same k v r]
theorem mget_put_ne {k k' : List UInt8} (v : α) (h : k' ≠ k) : ∀ m : KV α, mget k' (mput k v m) = mget k' m
  | [] => by simp [mput, mget, h.symm]
  | y :: r => by
    unfold mput
    split
    · rename_i e; simp [mget, e, h.symm]
    split
    · simp [mget, h.symm]
    · simp [mget, mget_put_ne v h r]
theorem mget_del_ne {k k' : List UInt8} (h : k' ≠ k) : ∀ m : KV α, mget k' (mdel k m) = mget k' m
  | [] => rfl
  | y :: r => by
    have ih := mget_del_ne h r
    unfold mdel at ih ⊢
    rw [List.filter_cons]
    by_cases e : y.1 = k
    · rw [if_neg (by simp [e]), ih]; simp [mget, e, h.symm]
    · rw [if_pos (by simpa using e)]; simp [mget, ih]
theorem mget_perm {k : List UInt8} {m m' : KV α} (h : m.Perm m') (ha : m'.Pairwise fun x y => x.1 ≠ y.1) : mget k m = mget k m' := by
  cases e : mget k m with
  | none =>
    exact (mget_none.2 fun y hy => mget_none.1 e y (h.symm.subset hy)).symm
  | some v => exact (mget_of ha (h.subset (mget_mem e))).symm
end

section
variable {U : Univ} {O : Out} {P : Program} {S : Nat → Prop} {ι : Lay} {w : World} {rs : List (Nat × AVal U)} {a : Act} {ops : Array Oper} {o : Oper} {t : Ty}

theorem bytes_ext {a b : ByteArray} (h : a.data.toList = b.data.toList) : a = b := by
  obtain ⟨⟨x⟩⟩ := a
  obtain ⟨⟨y⟩⟩ := b
  simp at h; rw [h]
theorem EntsR.app {es' : List MapEntry} : ∀ {es : List MapEntry} {ys : KV (t.den U.T)}, EntsR U O S w t (es ++ es') ys ↔ ∃ y1 y2, ys = y1 ++ y2 ∧ EntsR U O S w t es y1 ∧ EntsR U O S w t es' y2
  | [], ys => by
    constructor
    · intro h; exact ⟨[], ys, rfl, rfl, h⟩
    · rintro ⟨y1, y2, rfl, h1, h2⟩
      have h1 : y1 = [] := h1
      subst h1; exact h2
  | e :: es, ys => by
    constructor
    · rintro ⟨y, r, rfl, h1, h2, h3⟩
      obtain ⟨y1, y2, rfl, h4, h5⟩ := EntsR.app.1 h3
      exact ⟨y :: y1, y2, rfl, ⟨y, y1, rfl, h1, h2, h4⟩, h5⟩
    · rintro ⟨y1, y2, rfl, ⟨y, r, rfl, h1, h2, h3⟩, h5⟩
      exact ⟨y, r ++ y2, rfl, h1, h2, EntsR.app.2 ⟨r, y2, rfl, h3, h5⟩⟩
theorem EntsR.len : ∀ {es : List MapEntry} {ys : KV (t.den U.T)}, EntsR U O S w t es ys → es.length = ys.length
  | [], _, h => by have h : _ = _ := h; rw [h]; rfl
  | _ :: _, _, ⟨y, r, h1, _, _, h5⟩ => by rw [h1]; simp [EntsR.len h5]
theorem EntsR.isKey : ∀ {es : List MapEntry} {ys : KV (t.den U.T)}, EntsR U O S w t es ys → ∀ x ∈ es, MapKept.IsKey .string x.key
  | [], _, _, x, hx => by cases hx
  | e :: es, _, ⟨y, r, h1, ⟨s, h2, _⟩, _, h5⟩, x, hx => by
    rcases List.mem_cons.1 hx with rfl | hx
    · rw [h2]; trivial
    · exact EntsR.isKey h5 x hx
theorem EntsR.mem : ∀ {es : List MapEntry} {ys : KV (t.den U.T)}, EntsR U O S w t es ys → ∀ y ∈ ys, ∃ x ∈ es, ∃ s : ByteArray, x.key = .string s ∧ s.data.toList = y.1
  | [], _, h, y, hy => by have h : _ = _ := h; rw [h] at hy; cases hy
  | e :: es, _, ⟨y, r, h1, h2, _, h5⟩, z, hz => by
    subst h1
    rcases List.mem_cons.1 hz with rfl | hz
    · exact ⟨e, List.mem_cons_self, h2⟩
    · obtain ⟨x, h6, h7⟩ := EntsR.mem h5 z hz
      exact ⟨x, List.mem_cons_of_mem _ h6, h7⟩
theorem EntsR.apart : ∀ {es : List MapEntry} {ys : KV (t.den U.T)}, EntsR U O S w t es ys → (es.map (·.key)).Nodup → ys.Pairwise fun x y => x.1 ≠ y.1
  | [], _, h, _ => by have h : _ = _ := h; rw [h]; exact .nil
  | e :: es, _, ⟨y, r, h1, ⟨s, h2, h3⟩, _, h5⟩, hn => by
    subst h1
    rw [List.map_cons, List.nodup_cons] at hn
    refine List.pairwise_cons.2 ⟨fun z hz he => ?_, EntsR.apart h5 hn.2⟩
    obtain ⟨x, h6, s', h7, h8⟩ := EntsR.mem h5 z hz
    refine hn.1 (List.mem_map.2 ⟨x, h6, ?_⟩)
    rw [h7, h2, bytes_ext (h8.trans (he.symm.trans h3.symm))]

theorem EntsR.find {s : ByteArray} {es : List MapEntry} {ys : KV (t.den U.T)} (h : EntsR U O S w t es ys) (hn : (es.map (·.key)).Nodup) :
    (Instr.findNow .string (.string s) es 0 = some none ∧ (∀ x ∈ es, x.key ≠ .string s) ∧ mget s.data.toList ys = none ∧ mdel s.data.toList ys = ys) ∨
    ∃ pre e post y1 y y2, es = pre ++ e :: post ∧ ys = y1 ++ (s.data.toList, y) :: y2 ∧ Instr.findNow .string (.string s) es 0 = some (some (pre.length, e.val)) ∧ e.key = .string s ∧
      EntsR U O S w t pre y1 ∧ EntsR U O S w t post y2 ∧ (∃ cs, Rd U O S w t y cs ∧ e.val = mkV t.isAgg cs) ∧ mget s.data.toList ys = some y ∧ mdel s.data.toList ys = y1 ++ y2 := by
  have ha := h.apart hn
  rcases MapKept.findNow_spec (d := .string) (k := .string s) trivial es 0 h.isKey with ⟨h1, h2⟩ | ⟨j, e, h1, h2, h3⟩
  · left
    have hk : ∀ y ∈ ys, y.1 ≠ s.data.toList := fun y hy e => by
      obtain ⟨x, h4, s', h5, h6⟩ := h.mem y hy
      exact h2 x h4 (by rw [h5, bytes_ext (h6.trans e)])
    exact ⟨h1, h2, mget_none.2 hk, mdel_eq hk⟩
  · right
    obtain ⟨hj, hj2⟩ := List.getElem?_eq_some_iff.1 h2
    have hes : es = es.take j ++ e :: es.drop (j + 1) := by rw [← hj2, List.getElem_cons_drop, List.take_append_drop]
    have hpl : (es.take j).length = j := by simp; omega
    rw [hes] at h
    obtain ⟨y1, y2', rfl, h4, y, y2, rfl, ⟨s', h5, h6⟩, h7, h8⟩ := EntsR.app.1 h
    rw [h3] at h5
    injection h5 with h5
    subst h5
    obtain ⟨k, y⟩ := y
    simp only at h6
    subst h6
    refine ⟨es.take j, e, es.drop (j + 1), y1, y, y2, hes, rfl, by rw [h1, hpl]; simp, h3, h4, h8, h7, mget_of ha (by simp), ?_⟩
    obtain ⟨_, p2, p3⟩ := List.pairwise_append.1 ha
    obtain ⟨p4, _⟩ := List.pairwise_cons.1 p2
    have q1 : mdel s.data.toList y1 = y1 := mdel_eq fun x hx => p3 x hx _ List.mem_cons_self
    have q2 : mdel s.data.toList y2 = y2 := mdel_eq fun x hx => (p4 x hx).symm
    unfold mdel at q1 q2 ⊢
    rw [List.filter_append, List.filter_cons, if_neg (by simp), q1, q2]

theorem erase_mid (e : MapEntry) (post : List MapEntry) : ∀ pre : List MapEntry, (pre ++ e :: post).eraseIdx pre.length = pre ++ post
  | [] => rfl
  | x :: pre => by simp [erase_mid e post pre]
theorem modify_mid (f : MapEntry → MapEntry) (e : MapEntry) (post : List MapEntry) : ∀ pre : List MapEntry, (pre ++ e :: post).modify pre.length f = pre ++ f e :: post
  | [] => rfl
  | x :: pre => by simp [modify_mid f e post pre]

theorem Nx.setObj {s : LSpec U} {n b c : Nat} {B B' : Blk U} {o1 o2 : Obj} (hcb : s.cb = [(n, B)]) (hpb : s.pb = [(n, B')]) (hn : ι n = some (b, c)) (hout : ¬ S b)
    (hlt : ∀ b, S b → b < w.heap.size) (hg : w.heap[b]? = some o1) (hB : BR U O S ι { w with heap := w.heap.setIfInBounds b o2 } n B') : Nx U O s S ι w S ι { w with heap := w.heap.setIfInBounds b o2 } := by
  have hb : b < w.heap.size := (Array.getElem?_eq_some_iff.1 hg).1
  refine ⟨rfl, rfl, rfl, by simp, fun _ h => h, fun _ h => .inl h, fun b h => by simpa using hlt b h, fun k hk hnot => ?_, fun _ _ => rfl, fun x hx => ?_, fun m hm k c' hk => ?_, fun m hm k hk hne => ?_⟩
  · exact (MapKept.heap_set hg).2 k fun e' => hnot n (by rw [hcb]; simp) c (by rw [e']; exact hn)
  · rw [hpb] at hx
    simp at hx; subst hx
    exact hB
  · rw [hpb] at hm
    simp at hm; subst hm
    rw [hn] at hk
    obtain ⟨rfl, rfl⟩ : b = k ∧ c = c' := by simpa using hk
    exact ⟨hout, by simpa using hb, .inr ⟨_, by rw [hcb]; simp, c, hn⟩⟩
  · rw [hpb] at hm hk
    simp at hm hk
    exact absurd (hm.trans hk.symm) hne

theorem exec_makeMap {ρ : Operand → Value} {T : TypeId} {x : Option Operand} (ho : o.op = .makeMap T x) : execOp ρ o = vOf (Instr.makeMap T (x.map ρ)) := by unfold execOp; rw [ho]; rfl
theorem exec_mapUpdate {ρ : Operand → Value} {T : TypeId} {m x y : Operand} (ho : o.op = .mapUpdate T m x y) : execOp ρ o = (do Instr.mapUpdate T (ρ m) (ρ x) (ρ y); pure .skip) := by unfold execOp; rw [ho]
theorem exec_lookup {ρ : Operand → Value} {T : TypeId} {m x : Operand} {c : Bool} (ho : o.op = .lookup T m x c) : execOp ρ o = vOf (Instr.lookup T (ρ m) (ρ x) c) := by unfold execOp; rw [ho]; rfl

theorem sok_makeMap {T : TypeId} {d : Nat} (hg : o.guard = none) (_ : o.dst = some d) (ho : o.op = .makeMap T none) : SOk U O P ops o { rs := rs, ws := .mp d, pb := [(d, .map t [])], nn := [d] } := by
  intro S ι w a hlt hgl hrs hro hcb hown K Q hK
  refine opWp_plain hg ?_
  unfold Oper.wp
  rw [exec_makeMap ho]
  have hr : (Instr.makeMap T none).run P w = .ok (.map (some w.heap.size)) (w.alloc (.map #[] 0)) := by
    simp only [Instr.makeMap, newObj, Sem.run_bind, Sem.run, Result.andThen_ok, Sem.run_pure]
    rfl
  rw [show (Option.map a.eval none : Option Value) = none from rfl, run_vOf hr]
  refine hK _ S _ _ (Nx.alloc (s := { rs := rs, ws := .mp d, pb := [(d, .map t [])], nn := [d] }) (.map #[] 0) rfl rfl rfl hlt 0 ?_) ⟨w.heap.size, 0, by simp, rfl⟩
  exact ⟨w.heap.size, 0, #[], 0, [], by simp, heap_alloc_new w _, MapKept.stamped_empty 0, rfl, .refl _, .nil⟩

structure MapOk (P : Program) (T K E : TypeId) : Prop where
  ty : P.underlying T = some (.map K E)
  key : P.underlying K = some .string

theorem sok_lookup {T K E : TypeId} {m x : Operand} {n : Nat} {kvs : KV (t.den U.T)} {k : List UInt8} {z : t.den U.T} (hg : o.guard = none) (ho : o.op = .lookup T m x false) (hT : MapOk P T K E) (hz : ZeroOk P U E t z)
    (hm : Opd U rs m (.mp n)) (hx : Opd U rs x (.p .str k)) : SOk U O P ops o { rs := rs, ro := [(n, .map t kvs)], ws := .p t ((mget k kvs).getD z) } :=
  sok_v hg _ (fun _ => exec_lookup ho) fun S ι w a hrs hro => by
    obtain ⟨b, c, es, clock, ys, h1, h2, h3, h4, h5, h6⟩ := hro _ List.mem_cons_self
    obtain ⟨b', c', h7, h8⟩ := hm.ev hrs
    rw [h1] at h7
    obtain ⟨rfl, rfl⟩ : b = b' ∧ c = c' := by simpa using h7
    obtain ⟨cs, hk, hk2⟩ := hx.ev hrs
    cases hk with | str s =>
    have hk2 : a.eval x = .string s := hk2
    obtain ⟨i, v, hi, hv, hall⟩ := hz.h
    obtain ⟨cs, hr, rfl⟩ := hall O S w
    have hzr : (zeroValue E).run P w = .ok (mkV t.isAgg cs) w := by simp only [zeroValue, typeInfo, hi, hv, program, Sem.run_bind, Sem.run, Result.andThen_ok, Sem.run_pure]
    rw [h8, hk2, ← mget_perm h5 (Rising.apart h6)]
    rcases EntsR.find (s := s) h4 h3.2.2 with ⟨f1, f2, f3, _⟩ | ⟨pre, e, post, y1, y, y2, f1, f2, f3, f4, f5, f6, ⟨cs, f7, f8⟩, f9, f10⟩
    · refine ⟨mkV t.isAgg cs, ?_, cs, by rw [f3]; exact hr, rfl⟩
      simp [Instr.lookup, run_underlying hT.ty, MapKept.run_getObj_map h2, MapKept.run_checkKey hT.key (show MapKept.IsKey .string (.string s) from trivial), MapKept.run_findKey hT.key f1, hzr, Result.andThen]
    · refine ⟨e.val, ?_, cs, by rw [f9]; exact f7, f8⟩
      simp [Instr.lookup, run_underlying hT.ty, MapKept.run_getObj_map h2, MapKept.run_checkKey hT.key (show MapKept.IsKey .string (.string s) from trivial), MapKept.run_findKey hT.key f3, Result.andThen]
theorem sok_lookup2 {T K E : TypeId} {m x : Operand} {n : Nat} {kvs : KV (t.den U.T)} {k : List UInt8} {z : t.den U.T} (hg : o.guard = none) (ho : o.op = .lookup T m x true) (hT : MapOk P T K E) (hz : ZeroOk P U E t z)
    (hm : Opd U rs m (.mp n)) (hx : Opd U rs x (.p .str k)) : SOk U O P ops o { rs := rs, ro := [(n, .map t kvs)], ws := .tup [.p t ((mget k kvs).getD z), .p .bool (mget k kvs).isSome] } :=
  sok_v hg _ (fun _ => exec_lookup ho) fun S ι w a hrs hro => by
    obtain ⟨b, c, es, clock, ys, h1, h2, h3, h4, h5, h6⟩ := hro _ List.mem_cons_self
    obtain ⟨b', c', h7, h8⟩ := hm.ev hrs
    rw [h1] at h7
    obtain ⟨rfl, rfl⟩ : b = b' ∧ c = c' := by simpa using h7
    obtain ⟨cs, hk, hk2⟩ := hx.ev hrs
    cases hk with | str s =>
    have hk2 : a.eval x = .string s := hk2
    obtain ⟨i, v, hi, hv, hall⟩ := hz.h
    obtain ⟨cs, hr, rfl⟩ := hall O S w
    have hzr : (zeroValue E).run P w = .ok (mkV t.isAgg cs) w := by simp only [zeroValue, typeInfo, hi, hv, program, Sem.run_bind, Sem.run, Result.andThen_ok, Sem.run_pure]
    rw [h8, hk2, ← mget_perm h5 (Rising.apart h6)]
    rcases EntsR.find (s := s) h4 h3.2.2 with ⟨f1, f2, f3, _⟩ | ⟨pre, e, post, y1, y, y2, f1, f2, f3, f4, f5, f6, ⟨cs, f7, f8⟩, f9, f10⟩
    · refine ⟨.tuple #[mkV t.isAgg cs, .bool false], ?_, [mkV t.isAgg cs, .bool false], ⟨_, _, rfl, ⟨cs, by rw [f3]; exact hr, rfl⟩, _, _, rfl, ⟨[.bool false], by rw [f3]; exact .bool false, rfl⟩, rfl⟩, rfl⟩
      simp [Instr.lookup, run_underlying hT.ty, MapKept.run_getObj_map h2, MapKept.run_checkKey hT.key (show MapKept.IsKey .string (.string s) from trivial), MapKept.run_findKey hT.key f1, hzr, Result.andThen]
    · refine ⟨.tuple #[e.val, .bool true], ?_, [e.val, .bool true], ⟨_, _, rfl, ⟨cs, by rw [f9]; exact f7, f8⟩, _, _, rfl, ⟨[.bool true], by rw [f9]; exact .bool true, rfl⟩, rfl⟩, rfl⟩
      simp [Instr.lookup, run_underlying hT.ty, MapKept.run_getObj_map h2, MapKept.run_checkKey hT.key (show MapKept.IsKey .string (.string s) from trivial), MapKept.run_findKey hT.key f3, Result.andThen]

theorem run_mapPut {T K E : TypeId} {b : Nat} {es : Array MapEntry} {clock : Nat} {ys kvs : KV (t.den U.T)} {s : ByteArray} {u : Value} {cs : List Value} {v : t.den U.T} (hT : MapOk P T K E) (h2 : w.heap[b]? = some (.map es clock))
    (h3 : MapKept.Stamped es clock) (h4 : EntsR U O S w t es.toList ys) (h5 : ys.Perm kvs) (h6 : Rising kvs) (hr : Rd U O S w t v cs) (hv : u = mkV t.isAgg cs) :
    ∃ es' clock' ys', (Instr.mapUpdate T (.map (some b)) (.string s) u).run P w = .ok () { w with heap := w.heap.setIfInBounds b (.map es' clock') } ∧ MapKept.Stamped es' clock' ∧ EntsR U O S w t es'.toList ys' ∧
      ys'.Perm (mput s.data.toList v kvs) := by
  have hky : MapKept.IsKey .string (.string s) := trivial
  have p0 : ((s.data.toList, v) :: mdel s.data.toList ys).Perm (mput s.data.toList v kvs) := ((h5.filter _).cons _).trans (mput_perm h6).symm
  rcases EntsR.find (s := s) h4 h3.2.2 with ⟨f1, f2, f3, f4⟩ | ⟨pre, e, post, y1, y, y2, f1, f2, f3, f4, f5, f6, _, f9, f10⟩
  · refine ⟨es.push ⟨.string s, u, clock⟩, clock + 1, ys ++ [(s.data.toList, v)], ?_, MapKept.stamped_push h3 f2, ?_, ?_⟩
    · simp [Instr.mapUpdate, run_underlying hT.ty, MapKept.run_getObj_map h2, MapKept.run_checkKey hT.key hky, MapKept.run_findKey hT.key f1, MapKept.run_setObj_map _ h2, Result.andThen]
    · rw [Array.toList_push]
      exact EntsR.app.2 ⟨ys, _, rfl, h4, _, [], rfl, ⟨s, rfl, rfl⟩, ⟨cs, hr, hv⟩, rfl⟩
    · rw [f4] at p0
      exact (List.perm_append_singleton _ _).trans p0
  · have hj : es[pre.length]? = some e := by rw [← Array.getElem?_toList, f1]; simp
    refine ⟨es.modify pre.length (fun e' => { e' with key := .string s, val := u }), clock, y1 ++ (s.data.toList, v) :: y2, ?_, ?_, ?_, ?_⟩
    · simp [Instr.mapUpdate, run_underlying hT.ty, MapKept.run_getObj_map h2, MapKept.run_checkKey hT.key hky, MapKept.run_findKey hT.key f3, hj, f4, MapKept.run_keyThatStays hky, MapKept.run_setObj_map _ h2, Result.andThen]
    · exact MapKept.stamped_modify h3 _ _ (fun _ _ => rfl) (fun e' _ he => by rw [hj] at he; cases he; exact f4.symm)
    · rw [Array.toList_modify, f1, modify_mid]
      exact EntsR.app.2 ⟨y1, _, rfl, f5, _, y2, rfl, ⟨s, rfl, rfl⟩, ⟨cs, hr, hv⟩, f6⟩
    · rw [f10] at p0
      exact List.perm_middle.trans p0
theorem run_mapDel {T K E ty : TypeId} {b : Nat} {es : Array MapEntry} {clock : Nat} {ys kvs : KV (t.den U.T)} {s : ByteArray} (hT : MapOk P T K E) (h2 : w.heap[b]? = some (.map es clock))
    (h3 : MapKept.Stamped es clock) (h4 : EntsR U O S w t es.toList ys) (h5 : ys.Perm kvs) :
    ∃ es' ys', (Builtin.delete_ #[T, K] ty #[.map (some b), .string s]).run P w = .ok (.tuple #[]) { w with heap := w.heap.setIfInBounds b (.map es' clock) } ∧ MapKept.Stamped es' clock ∧ EntsR U O S w t es'.toList ys' ∧
      ys'.Perm (mdel s.data.toList kvs) := by
  have hky : MapKept.IsKey .string (.string s) := trivial
  have p0 : (mdel s.data.toList ys).Perm (mdel s.data.toList kvs) := h5.filter _
  rcases EntsR.find (s := s) h4 h3.2.2 with ⟨f1, f2, f3, f4⟩ | ⟨pre, e, post, y1, y, y2, f1, f2, f3, f4, f5, f6, _, f9, f10⟩
  · refine ⟨es, ys, ?_, h3, h4, by rw [f4] at p0; exact p0⟩
    simp [Builtin.delete_, run_underlying hT.ty, MapKept.run_getObj_map h2, MapKept.run_checkKey hT.key hky, MapKept.run_findKey hT.key f1, MapKept.run_setObj_map _ h2, Result.andThen]
  · refine ⟨es.eraseIdxIfInBounds pre.length, y1 ++ y2, ?_, MapKept.stamped_erase h3 _, ?_, by rw [f10] at p0; exact p0⟩
    · simp [Builtin.delete_, run_underlying hT.ty, MapKept.run_getObj_map h2, MapKept.run_checkKey hT.key hky, MapKept.run_findKey hT.key f3, MapKept.run_setObj_map _ h2, Result.andThen]
    · have hlt : pre.length < es.size := by rw [← Array.length_toList, f1]; simp
      have : (es.eraseIdxIfInBounds pre.length).toList = pre ++ post := by
        unfold Array.eraseIdxIfInBounds
        rw [dif_pos hlt]
        simp [f1, erase_mid]
      rw [this]
      exact EntsR.app.2 ⟨y1, y2, rfl, f5, f6⟩

theorem sok_mapUpdate {T K E : TypeId} {m x y : Operand} {n : Nat} {kvs : KV (t.den U.T)} {k : List UInt8} {v : t.den U.T} (hg : o.guard = none) (_ : o.dst = none) (ho : o.op = .mapUpdate T m x y) (hT : MapOk P T K E)
    (hm : Opd U rs m (.mp n)) (hx : Opd U rs x (.p .str k)) (hy : Opd U rs y (.p t v)) : SOk U O P ops o { rs := rs, cb := [(n, .map t kvs)], pb := [(n, .map t (mput k v kvs))] } := by
  intro S ι w a hlt hgl hrs hro hcb hown K' Q hK
  obtain ⟨b, c, es, clock, ys, h1, h2, h3, h4, h5, h6⟩ := hcb _ List.mem_cons_self
  obtain ⟨b', c', h7, h8⟩ := hm.ev hrs
  rw [h1] at h7
  obtain ⟨rfl, rfl⟩ : b = b' ∧ c = c' := by simpa using h7
  obtain ⟨cs, hk, hk2⟩ := hx.ev hrs
  cases hk with | str s =>
  have hk2 : a.eval x = .string s := hk2
  obtain ⟨cs, hr, hv⟩ := hy.ev hrs
  have hout := (hown.out n (by simp) b c h1).1
  obtain ⟨es', clock', ys', g1, g2, g3, g4⟩ := run_mapPut (s := s) hT h2 h3 h4 h5 h6 hr hv
  refine opWp_plain hg ?_
  unfold Oper.wp
  rw [exec_mapUpdate ho, h8, hk2]
  simp only [Sem.run_bind, g1, Result.andThen_ok, Sem.run_pure, Oper.upon]
  refine hK undef S ι _ (Nx.setObj (n := n) (b := b) (c := c) (o1 := .map es clock) rfl rfl h1 hout hlt h2 ?_) trivial
  exact ⟨b, c, es', clock', ys', h1, (MapKept.heap_set h2).1, g2, g3.mono (fun k hk => (MapKept.heap_set h2).2 k fun e => hout (e ▸ hk)) (fun _ h => h), g4, Rising.put h6⟩

theorem sok_delete {T K E : TypeId} {m x : Operand} {n : Nat} {kvs : KV (t.den U.T)} {k : List UInt8} (hg : o.guard = none) (ho : o.op = .call { callee := .builtin .delete, args := #[m, x], argTypes := #[T, K] }) (hT : MapOk P T K E)
    (hm : Opd U rs m (.mp n)) (hx : Opd U rs x (.p .str k)) : SOk U O P ops o { rs := rs, ws := .tup [], cb := [(n, .map t kvs)], pb := [(n, .map t (mdel k kvs))] } := by
  intro S ι w a hlt hgl hrs hro hcb hown K' Q hK
  obtain ⟨b, c, es, clock, ys, h1, h2, h3, h4, h5, h6⟩ := hcb _ List.mem_cons_self
  obtain ⟨b', c', h7, h8⟩ := hm.ev hrs
  rw [h1] at h7
  obtain ⟨rfl, rfl⟩ : b = b' ∧ c = c' := by simpa using h7
  obtain ⟨cs, hk, hk2⟩ := hx.ev hrs
  cases hk with | str s =>
  have hk2 : a.eval x = .string s := hk2
  have hout := (hown.out n (by simp) b c h1).1
  obtain ⟨es', ys', g1, g2, g3, g4⟩ := run_mapDel (s := s) (ty := o.type) hT h2 h3 h4 h5
  refine opWp_plain hg ?_
  unfold Oper.wp
  have he : execOp a.eval o = vOf (Builtin.delete_ #[T, K] o.type #[a.eval m, a.eval x]) := by rw [exec_builtin ho]; simp [builtin, vOf]
  rw [he, h8, hk2, run_vOf g1]
  refine hK (.tuple #[]) S ι _ (Nx.setObj (n := n) (b := b) (c := c) (o1 := .map es clock) rfl rfl h1 hout hlt h2 ?_) ⟨[], rfl, rfl⟩
  exact ⟨b, c, es', clock, ys', h1, (MapKept.heap_set h2).1, g2, g3.mono (fun k hk => (MapKept.heap_set h2).2 k fun e => hout (e ▸ hk)) (fun _ h => h), g4, Rising.del h6 _⟩

theorem sok_lenM {T K E : TypeId} {x : Operand} {n : Nat} {kvs : KV (t.den U.T)} (hg : o.guard = none) (ho : o.op = .call { callee := .builtin .len, args := #[x], argTypes := #[T] }) (hT : MapOk P T K E)
    (hm : Opd U rs x (.mp n)) : SOk U O P ops o { rs := rs, ro := [(n, .map t kvs)], ws := .p (.int .i64) (kvs.length : Int) } :=
  sok_v hg _ (fun _ => exec_len ho) fun S ι w a hrs hro => by
    obtain ⟨b, c, es, clock, ys, h1, h2, h3, h4, h5, h6⟩ := hro _ List.mem_cons_self
    obtain ⟨b', c', h7, h8⟩ := hm.ev hrs
    rw [h1] at h7
    obtain ⟨rfl, rfl⟩ : b = b' ∧ c = c' := by simpa using h7
    have hl : es.size = kvs.length := by rw [← h5.length_eq, ← h4.len, Array.length_toList]
    refine ⟨.int .i64 (kvs.length : Int), ?_, VV.int_iff.2 rfl⟩
    rw [h8]
    simp [Builtin.len_, run_underlying hT.ty, MapKept.run_getObj_map h2, Result.andThen, goInt, hl]

def PtrV (U : Univ) (v : AVal U) (q : Bool) : Prop := ∀ O S ι w u, VV U O S ι w v u → ∃ p, u = .pointer p ∧ p.isNone = q
theorem ptrV_opt {q : Bool} {n : Nat} : PtrV U (.opt q n) (!q) := fun O S ι w u ⟨h1, h2⟩ => by
  cases q
  · exact ⟨_, h2 rfl, rfl⟩
  · obtain ⟨b, c, _, h⟩ := h1 rfl; exact ⟨_, h, rfl⟩
theorem sok_eqPN {t t' E : TypeId} {x : Operand} {v : AVal U} {q : Bool} (hg : o.guard = none) (ho : o.op = .binOp .eql t x (.const (.pointer none)) t') (ht : P.underlying t = some (.pointer E))
    (hx : Opd U rs x v) (hv : PtrV U v q) : SOk U O P ops o { rs := rs, ws := .p .bool q } :=
  sok_v hg _ (fun _ => exec_bin ho) fun S ι w a hrs _ => ⟨.bool q, by
    obtain ⟨p, h1, h2⟩ := hv _ _ _ _ _ (hx.ev hrs)
    have hp : P.underlying t = some (.pointer (P.pointee t)) := by simp [Program.pointee, ht]
    have hc : a.eval (.const (.pointer none)) = .pointer none := rfl
    rw [h1, hc, eqGuard_at_pointer]
    simp only [Sem.run_bind, Sem.run_pure, Result.andThen_ok, run_eql_pointer_nil w t p hp, h2], VV.bool_iff.2 rfl⟩
theorem rd_strq {x : List UInt8} {cs : List Value} (h : Rd U O S w .str x cs) : ∃ q : ByteArray, x = q.data.toList ∧ cs = [.string q] := by
  cases h; exact ⟨_, rfl, rfl⟩
theorem rd_strof {x : List UInt8} {q : ByteArray} (h : q.data.toList = x) : Rd U O S w .str x [.string q] := by
  subst h; exact .str q
end
end Go.AM

namespace Go.AM
set_option linter.unusedVariables false

section
variable {U : Univ} {O : Out} {P : Program} {ops : Array Oper} {o : Oper}

theorem Conv.optNew {st : St U} (m : Nat) (B : Blk U) (hn : st.names.contains m = false) (hlo : m < K0) : Conv U O st ⟨st.sl, (m, .opt false B) :: st.hp⟩ := by
  intro B' S ι a w hR
  have hn' : m ∉ st.names := by simpa using hn
  have hR' := hR.lay' (ι' := fun k => if k = m then none else ι k) (fun k hk => if_neg fun (e : k = m) => hn' (e ▸ hk)) (fun k hk => if_neg (by omega))
  refine ⟨S, _, { hR' with hp := fun x hx => ?_, own := ⟨fun k hk b c hb => ?_, fun k hk j hj hne b c c' hb => ?_⟩, mine := fun k hk b c hb => ?_ }⟩
  · rcases List.mem_cons.1 hx with rfl | h1
    · exact fun h => by cases h
    · exact hR'.hp x h1
  · rcases List.mem_cons.1 hk with rfl | h1
    · simp at hb
    · exact hR'.own.out k h1 b c hb
  · rcases List.mem_cons.1 hk with rfl | h1
    · simp at hb
    · rcases List.mem_cons.1 hj with rfl | h2
      · simp
      · exact hR'.own.sep k h1 j h2 hne b c c' hb
  · rcases List.mem_cons.1 hk with rfl | h1
    · simp at hb
    · exact hR'.mine k h1 b c hb
theorem Conv.optNil {st : St U} (t m : Nat) (hin : (t, AVal.lit (.pointer none)) ∈ st.sl) : Conv U O st ⟨setA st.sl t (.opt false m), st.hp⟩ := by
  intro B S ι a w hR
  refine ⟨S, ι, { hR with sl := fun x hx => ?_ }⟩
  rcases mem_setA hx with rfl | ⟨h1, _⟩
  · exact ⟨(fun h => by cases h), fun _ => (hR.sl _ hin).1⟩
  · exact hR.sl x h1
theorem Conv.optLoc {st : St U} (t n : Nat) (hin : (t, AVal.loc n 0) ∈ st.sl) : Conv U O st ⟨setA st.sl t (.opt true n), st.hp⟩ := by
  intro B S ι a w hR
  refine ⟨S, ι, { hR with sl := fun x hx => ?_ }⟩
  rcases mem_setA hx with rfl | ⟨h1, _⟩
  · exact ⟨fun _ => hR.sl _ hin, fun h => by cases h⟩
  · exact hR.sl x h1
theorem Conv.optBlk {st : St U} (n : Nat) (B : Blk U) (hin : (n, B) ∈ st.hp) : Conv U O st ⟨st.sl, setA st.hp n (.opt true B)⟩ := by
  intro B' S ι a w hR
  have hm : ∀ k ∈ nm (setA st.hp n (Blk.opt true B)), k ∈ nm st.hp := fun k hk => by
    obtain ⟨x, hx, rfl⟩ := List.mem_map.1 hk
    rcases mem_setA hx with rfl | ⟨h1, _⟩
    · exact List.mem_map.2 ⟨_, hin, rfl⟩
    · exact List.mem_map.2 ⟨_, h1, rfl⟩
  refine ⟨S, ι, { hR with hp := fun x hx => ?_, own := ⟨fun k hk => hR.own.out k (hm k hk), fun k hk j hj => hR.own.sep k (hm k hk) j (hm j hj)⟩, mine := fun k hk => hR.mine k (hm k hk) }⟩
  rcases mem_setA hx with rfl | ⟨h1, _⟩
  · exact fun _ => hR.hp _ hin
  · exact hR.hp x h1

end
end Go.AM

namespace Go.AM
set_option linter.unusedVariables false

section
variable {α : Type}
theorem remOf_none : ∀ (es : List MapEntry) (ys : List α), es.length = ys.length → remOf #[] es ys = ys
  | [], [], _ => rfl
  | e :: es, y :: ys, h => by simp [remOf, remOf_none es ys (by simpa using h)]
theorem remOf_push {seen : Array Nat} {b : Nat} : ∀ (es : List MapEntry) (ys : List α), (∀ x ∈ es, x.born ≠ b) → remOf (seen.push b) es ys = remOf seen es ys
  | [], _, _ => by simp [remOf]
  | _ :: _, [], _ => by simp [remOf]
  | e :: es, y :: ys, h => by
    have h1 := h e List.mem_cons_self
    have ih := remOf_push (seen := seen) es ys fun x hx => h x (List.mem_cons_of_mem _ hx)
    simp [remOf, ih, h1]
theorem remOf_pick {seen : Array Nat} : ∀ (es : List MapEntry) (ys : List α), (es.map (·.born)).Nodup → ∀ (j : Nat) (e : MapEntry) (y : α), es[j]? = some e → ys[j]? = some y → seen.contains e.born = false →
    (remOf seen es ys).Perm (y :: remOf (seen.push e.born) es ys)
  | [], _, _, _, _, _, h, _, _ => by simp at h
  | _ :: _, [], _, _, _, _, _, h, _ => by simp at h
  | e0 :: es, y0 :: ys, hn, 0, e, y, h1, h2, h3 => by
    simp at h1 h2
    subst h1 h2
    rw [List.map_cons, List.nodup_cons] at hn
    have := remOf_push (seen := seen) (b := e0.born) es ys fun x hx he => hn.1 (List.mem_map.2 ⟨x, hx, he⟩)
    unfold remOf
    rw [h3]
    simp [this]
  | e0 :: es, y0 :: ys, hn, j + 1, e, y, h1, h2, h3 => by
    simp only [List.getElem?_cons_succ] at h1 h2
    rw [List.map_cons, List.nodup_cons] at hn
    have hne : e0.born ≠ e.born := fun he => hn.1 (List.mem_map.2 ⟨e, List.mem_of_getElem? h1, he.symm⟩)
    have ih := remOf_pick es ys hn.2 j e y h1 h2 h3
    unfold remOf
    cases hc : seen.contains e0.born
    · have : (seen.push e.born).contains e0.born = false := by
        have h5 : ¬ e0.born ∈ seen := by simpa using hc
        simp [h5, hne]
      rw [this]
      simp only [Bool.false_eq_true, if_false]
      exact (ih.cons y0).trans (.swap _ _ _)
    · have : (seen.push e.born).contains e0.born = true := by
        have h5 : e0.born ∈ seen := by simpa using hc
        simp [h5]
      rw [this]
      simpa using ih
theorem remOf_over {seen : Array Nat} : ∀ (es : List MapEntry) (ys : List α), es.length = ys.length → (∀ x ∈ es, seen.contains x.born = true) → remOf seen es ys = []
  | [], [], _, _ => rfl
  | e :: es, y :: ys, hl, h => by
    unfold remOf
    rw [if_pos (h e List.mem_cons_self)]
    exact remOf_over es ys (by simpa using hl) fun x hx => h x (List.mem_cons_of_mem _ hx)
theorem remOf_sub {seen : Array Nat} : ∀ (es : List MapEntry) (ys : List α), (remOf seen es ys).Sublist ys
  | [], ys => by unfold remOf; exact List.nil_sublist _
  | _ :: _, [] => by unfold remOf; exact List.nil_sublist _
  | e :: es, y :: ys => by
    unfold remOf
    split
    · exact (remOf_sub es ys).cons y
    · exact (remOf_sub es ys).cons_cons y
def Apart (m : KV α) : Prop := m.Pairwise fun x y => x.1 ≠ y.1
end

section
variable {U : Univ} {O : Out} {P : Program} {B : Base} {S : Nat → Prop} {ι : Lay} {w : World} {rs : List (Nat × AVal U)} {a : Act} {ops : Array Oper} {o : Oper} {t : Ty}

theorem exec_range {ρ : Operand → Value} {T : TypeId} {x : Operand} (ho : o.op = .range T x) : execOp ρ o = vOf (Instr.range T (ρ x)) := by unfold execOp; rw [ho]; rfl
theorem exec_next {ρ : Operand → Value} {x : Operand} {q : Bool} (ho : o.op = .next x q) : execOp ρ o = vOf (Instr.next (ρ x) q o.type) := by unfold execOp; rw [ho]; rfl
theorem exec_entry {ρ : Operand → Value} {x : Operand} (ho : o.op = .entry x) : execOp ρ o = vOf (Instr.entry (ρ x)) := by unfold execOp; rw [ho]; rfl

theorem WpC.openMap {c : Code} {st : St U} {Q : PostQ U} {n : Nat} {kvs : KV (t.den U.T)} (hin : (n, Blk.map t kvs) ∈ st.hp)
    (h : ∀ es clock (ys : KV (t.den U.T)), ys.Perm kvs → Rising kvs → WpC U O P B c ⟨st.sl, setA st.hp n (.mapE t es clock ys)⟩ Q) : WpC U O P B c st Q := by
  intro S ι a w hR
  obtain ⟨b, c', es, clock, ys, h1, h2, h3, h4, h5, h6⟩ := hR.hp _ hin
  refine h es clock ys h5 h6 S ι a w ?_
  have hm : ∀ k ∈ nm (setA st.hp n (Blk.mapE t es clock ys)), k ∈ nm st.hp := fun k hk => by
    obtain ⟨x, hx, rfl⟩ := List.mem_map.1 hk
    rcases mem_setA hx with rfl | ⟨h1, _⟩
    · exact List.mem_map.2 ⟨_, hin, rfl⟩
    · exact List.mem_map.2 ⟨_, h1, rfl⟩
  refine { hR with hp := fun x hx => ?_, own := ⟨fun k hk => hR.own.out k (hm k hk), fun k hk j hj => hR.own.sep k (hm k hk) j (hm j hj)⟩, mine := fun k hk => hR.mine k (hm k hk) }
  rcases mem_setA hx with rfl | ⟨h1', _⟩
  · exact ⟨b, c', h1, h2, h3, h4⟩
  · exact hR.hp x h1'
theorem Conv.closeMap {st : St U} {n : Nat} {es : Array MapEntry} {clock : Nat} {ys kvs : KV (t.den U.T)} (hin : (n, Blk.mapE t es clock ys) ∈ st.hp) (hp : ys.Perm kvs) (hr : Rising kvs) : Conv U O st ⟨st.sl, setA st.hp n (.map t kvs)⟩ := by
  intro B' S ι a w hR
  have hm : ∀ k ∈ nm (setA st.hp n (Blk.map t kvs)), k ∈ nm st.hp := fun k hk => by
    obtain ⟨x, hx, rfl⟩ := List.mem_map.1 hk
    rcases mem_setA hx with rfl | ⟨h1, _⟩
    · exact List.mem_map.2 ⟨_, hin, rfl⟩
    · exact List.mem_map.2 ⟨_, h1, rfl⟩
  refine ⟨S, ι, { hR with hp := fun x hx => ?_, own := ⟨fun k hk => hR.own.out k (hm k hk), fun k hk j hj => hR.own.sep k (hm k hk) j (hm j hj)⟩, mine := fun k hk => hR.mine k (hm k hk) }⟩
  rcases mem_setA hx with rfl | ⟨h1, _⟩
  · obtain ⟨b, c, h1, h2, h3, h4⟩ := hR.hp _ hin
    exact ⟨b, c, es, clock, ys, h1, h2, h3, h4, hp, hr⟩
  · exact hR.hp x h1
theorem Conv.iterRest {st : St U} {d m : Nat} {es : Array MapEntry} {clock : Nat} {ys left : KV (t.den U.T)} {cur : Option (List UInt8 × t.den U.T)} (hin : (d, Blk.iter m t es clock ys left cur) ∈ st.hp) :
    Conv U O st ⟨st.sl, setA st.hp d (.iter m t es clock ys left none)⟩ := by
  intro B' S ι a w hR
  have hm : ∀ k ∈ nm (setA st.hp d (Blk.iter m t es clock ys left none)), k ∈ nm st.hp := fun k hk => by
    obtain ⟨x, hx, rfl⟩ := List.mem_map.1 hk
    rcases mem_setA hx with rfl | ⟨h1, _⟩
    · exact List.mem_map.2 ⟨_, hin, rfl⟩
    · exact List.mem_map.2 ⟨_, h1, rfl⟩
  refine ⟨S, ι, { hR with hp := fun x hx => ?_, own := ⟨fun k hk => hR.own.out k (hm k hk), fun k hk j hj => hR.own.sep k (hm k hk) j (hm j hj)⟩, mine := fun k hk => hR.mine k (hm k hk) }⟩
  rcases mem_setA hx with rfl | ⟨h1, _⟩
  · obtain ⟨b, c, mb, mc, seen, h1, h2, h3, h4, h5⟩ := hR.hp _ hin
    exact ⟨b, c, mb, mc, seen, h1, h2, h3, h4, fun y hy => by cases hy⟩
  · exact hR.hp x h1

theorem sok_range {T K E : TypeId} {x : Operand} {d m : Nat} {es : Array MapEntry} {clock : Nat} {ys kvs : KV (t.den U.T)} (hg : o.guard = none) (_ : o.dst = some d) (ho : o.op = .range T x) (hT : MapOk P T K E) (hp : ys.Perm kvs) (hmd : m ≠ d)
    (hm : Opd U rs x (.mp m)) : SOk U O P ops o { rs := rs, ro := [(m, .mapE t es clock ys)], ws := .loc d 0, pb := [(d, .iter m t es clock ys kvs none)], nn := [d] } := by
  intro S ι w a hlt hgl hrs hro hcb hown K' Q hK
  obtain ⟨b, c, h1, h2, h3, h4⟩ := hro _ List.mem_cons_self
  obtain ⟨b', c', h7, h8⟩ := hm.ev hrs
  rw [h1] at h7
  obtain ⟨rfl, rfl⟩ : b = b' ∧ c = c' := by simpa using h7
  refine opWp_plain hg ?_
  unfold Oper.wp
  rw [exec_range ho, h8, run_vOf (run_range_map w T K E b es clock hT.ty h2)]
  refine hK _ S _ _ (Nx.alloc (s := { rs := rs, ro := [(m, .mapE t es clock ys)], ws := .loc d 0, pb := [(d, .iter m t es clock ys kvs none)], nn := [d] }) (.mapIter (some b) clock #[] clock) rfl rfl rfl hlt 0 ?_) ⟨w.heap.size, 0, by simp, rfl⟩
  refine ⟨w.heap.size, 0, b, c, #[], by simp, by simp [hmd, h1], heap_alloc_new w _, ?_, fun y hy => by cases hy⟩
  rw [remOf_none _ _ h4.len]
  exact hp.symm

theorem sok_entry {x : Operand} {d m : Nat} {es : Array MapEntry} {clock : Nat} {ys left : KV (t.den U.T)} {y : List UInt8 × t.den U.T} (hg : o.guard = none) (ho : o.op = .entry x) (hx : Opd U rs x (.loc d 0)) :
    SOk U O P ops o { rs := rs, ro := [(d, .iter m t es clock ys left (some y)), (m, .mapE t es clock ys)], ws := .tup [.p .str y.1, .p t y.2] } :=
  sok_v hg _ (fun _ => exec_entry ho) fun S ι w a hrs hro => by
    obtain ⟨b, c, mb, mc, seen, h1, h2, h3, h4, h5⟩ := hro _ List.mem_cons_self
    obtain ⟨b', c', g1, g2, g3, g4⟩ := hro _ (List.mem_cons_of_mem _ List.mem_cons_self)
    rw [h2] at g1
    obtain ⟨rfl, rfl⟩ : mb = b' ∧ mc = c' := by simpa using g1
    obtain ⟨b'', c'', h7, h8⟩ := hx.ev hrs
    rw [h1] at h7
    obtain ⟨rfl, rfl⟩ : b = b'' ∧ c = c'' := by simpa using h7
    obtain ⟨j, e, q1, q2, pre, rfl⟩ := h5 y rfl
    have hrd : ∀ (es : List MapEntry) (ys : KV (t.den U.T)) (j : Nat), EntsR U O S w t es ys → es[j]? = some e → ys[j]? = some y → (∃ s : ByteArray, e.key = .string s ∧ s.data.toList = y.1) ∧ ∃ cs, Rd U O S w t y.2 cs ∧ e.val = mkV t.isAgg cs := by
      intro es
      induction es with
      | nil => intro ys j _ h; simp at h
      | cons e0 es ih =>
        rintro ys j ⟨y0, r, rfl, k1, k2, k3⟩ h h'
        cases j with
        | zero => simp at h h'; subst h h'; exact ⟨k1, k2⟩
        | succ j => exact ih r j k3 (by simpa using h) (by simpa using h')
    obtain ⟨⟨s, k1, k2⟩, cs, k3, k4⟩ := hrd _ _ j g4 q1 q2
    refine ⟨.tuple #[e.key, e.val], ?_, [e.key, e.val], ⟨_, _, rfl, ⟨[.string s], rd_strof k2, k1⟩, _, _, rfl, ⟨cs, k3, k4⟩, rfl⟩, rfl⟩
    rw [h8]
    exact run_entry_at w b mb clock pre es clock e h3 g2 (List.mem_of_getElem? q1) g3.2.1

def nextA (st : St U) (d m : Nat) (es : Array MapEntry) (clock : Nat) (ys left left' : KV (t.den U.T)) (y : List UInt8 × t.den U.T) (t1 t2 : Nat) : St U :=
  (st.next { cb := [(d, .iter m t es clock ys left none)], pb := [(d, .iter m t es clock ys left' (some y))], ws := .tup [.p .bool true, .junk, .junk] } (some t1)).next { ws := .p .bool true } (some t2)
def nextB (st : St U) (t1 t2 : Nat) : St U := (st.next ({ ws := .tup [.p .bool false] } : LSpec U) (some t1)).next { ws := .p .bool false } (some t2)

theorem WpC.next {id : Nat} {o1 o2 : Oper} {st : St U} {Q : PostQ U} {it d m t1 t2 N : Nat} {es : Array MapEntry} {clock : Nat} {ys left : KV (t.den U.T)} (ts ns : List Nat) (hN : B.n = N)
    (hg1 : o1.guard = none) (ho1 : o1.op = .next (.tmp it) false) (hd1 : o1.dst = some t1) (hg2 : o2.guard = none) (ho2 : o2.op = .extract (.tmp t1) 0) (hd2 : o2.dst = some t2) (hl1 : t1 < N) (hl2 : t2 < N) (hne : t1 ≠ it)
    (h1 : (it, AVal.loc d 0) ∈ st.sl) (h2 : (d, Blk.iter m t es clock ys left none) ∈ st.hp) (h3 : (m, Blk.mapE t es clock ys) ∈ st.hp)
    (hA : ∀ y left', left.Perm (y :: left') → Apart left → ∃ st1, (nextA st d m es clock ys left left' y t1 t2).keep ts ns = st1 ∧ ∃ st', Conv U O st1 st' ∧ Q .normal st')
    (hB : left = [] → ∃ st1, (nextB st t1 t2).keep ts ns = st1 ∧ ∃ st', Conv U O st1 st' ∧ Q .normal st') : WpC U O P B (.region id #[o1, o2] false) st Q := by
  subst hN
  intro S ι a w hR
  refine wp_region_list ?_
  obtain ⟨b, c, mb, mc, seen, r1, r2, r3, r4, r5⟩ := hR.hp _ h2
  obtain ⟨b', c', k1, k2, k3, k4⟩ := hR.hp _ h3
  rw [r2] at k1
  obtain ⟨rfl, rfl⟩ : mb = b' ∧ mc = c' := by simpa using k1
  obtain ⟨b'', c'', l1, l2⟩ := hR.sl _ h1
  rw [r1] at l1
  obtain ⟨rfl, rfl⟩ : b = b'' ∧ c = c'' := by simpa using l1
  have hev : a.eval (.tmp it) = .pointer (some ⟨b, 0, none⟩) := l2
  have hlen := k4.len
  have step : ∀ (K : Act → World → Prop), opWp P #[o1, o2] (post U O B Q) o1 K a w ↔ opWp P #[o1, o2] (post U O B Q) o1 K a w := fun _ => Iff.rfl
  have hlist : opWp P #[o1, o2] (post U O B Q) o1 (wpList P #[o1, o2] (post U O B Q) [o2]) a w := by
    refine opWp_plain hg1 ?_
    unfold Oper.wp
    rw [exec_next ho1, hev]
    have ap : Apart left := r4.symm.pairwise (List.Pairwise.sublist (remOf_sub _ _) (k4.apart k3.2.2)) fun h => h.symm
    have two : ∀ (v : Bool) (vs : List (AVal U)) (s : LSpec U) (S' : Nat → Prop) (ι' : Lay) (a' : Act) (w' : World), Rel U O B S' ι' (st.next { s with ws := .tup (.p .bool v :: vs) } (some t1)) a' w' →
        (∃ st1, ((st.next { s with ws := .tup (.p .bool v :: vs) } (some t1)).next { ws := .p .bool v } (some t2)).keep ts ns = st1 ∧ ∃ st', Conv U O st1 st' ∧ Q .normal st') → wpList P #[o1, o2] (post U O B Q) [o2] a' w' := fun v vs s S' ι' a' w' hR' ⟨st1, e1, st', hcv, hQ⟩ => by
      have hin : (t1, AVal.tup (.p .bool v :: vs)) ∈ (st.next { s with ws := .tup (.p .bool v :: vs) } (some t1)).sl := mem_setA_iff.2 (.inl rfl)
      have hx : SOk U O P #[o1, o2] o2 { rs := [(t1, .tup (.p .bool v :: vs))], ws := .p .bool v } := sok_extract hg2 ho2 (.tmp (.head _)) rfl
      have := hx.use (Q := post U O B Q) (K := wpList P #[o1, o2] (post U O B Q) []) hR' ⟨fun x hx => by simp at hx; subst hx; exact hin, by simp, by simp, by simp, by simp, by simp⟩ (fun t ht => by rw [hd2] at ht; cases ht; exact hl2) fun S'' ι'' a'' w'' hR'' => by
        unfold wpList
        rw [hd2] at hR''
        exact ⟨st', hQ, hcv B S'' ι'' _ _ (e1 ▸ hR''.weak (St.keep_le _ ts ns))⟩
      unfold opWp at this
      unfold wpList
      exact this
    rcases run_next_at (P := P) w o1.type b mb clock clock seen es clock r3 k2 k3.1 (Nat.le_refl _) with ⟨q1, q2⟩ | ⟨e, q1, w1, q2, q3⟩
    · rw [run_vOf q2]
      have hov : ∀ x ∈ es.toList, seen.contains x.born = true := fun x hx => by
        cases hc : seen.contains x.born with
        | true => rfl
        | false =>
          have : x ∈ (leftOf es seen).toList := by unfold leftOf; simp; exact ⟨by simpa using hx, by simpa using hc⟩
          rw [← Array.length_toList] at q1
          rw [List.eq_nil_of_length_eq_zero q1] at this; cases this
      have hl : left = [] := by
        rw [remOf_over _ _ hlen hov] at r4
        exact r4.eq_nil
      rw [Oper.upon_value, hd1]
      refine two false [] {} S ι _ w (hR.next (s := { ws := .tup [.p .bool false] }) ⟨by simp, by simp, by simp, by simp, by simp, by simp⟩ (Nx.refl _ rfl rfl hR.lt) ⟨_, ⟨_, _, rfl, ⟨[.bool false], .bool false, rfl⟩, rfl⟩, rfl⟩ (fun t ht => by cases ht; exact hl1)) (hB hl)
    · rw [run_vOf q3]
      obtain ⟨he, hc⟩ : e ∈ es.toList ∧ seen.contains e.born = false := by unfold leftOf at q1; simpa using q1
      obtain ⟨j, hj, hje⟩ := List.getElem_of_mem he
      have hy : ys[j]? = some (ys[j]'(by rw [← hlen]; exact hj)) := List.getElem?_eq_getElem _
      have hej : es.toList[j]? = some e := by rw [List.getElem?_eq_getElem hj, hje]
      have hpk := remOf_pick (seen := seen) es.toList ys k3.2.1 j e _ hej hy hc
      have hw1 : w1.heap = w.heap ∧ w1.os = w.os ∧ w1.tape = w.tape ∧ w1.output = w.output := by rcases q2 with rfl | rfl <;> exact ⟨rfl, rfl, rfl, rfl⟩
      have hlt : b < w.heap.size := (Array.getElem?_eq_some_iff.1 r3).1
      have hset : ∀ k, (ChangeMaps.setBlock w1 b (.mapIter (some mb) clock (seen.push e.born) clock)).heap[k]? = if k = b then some (.mapIter (some mb) clock (seen.push e.born) clock) else w.heap[k]? := fun k => by
        show (w1.heap.setIfInBounds b _)[k]? = _
        rw [hw1.1]
        by_cases e' : k = b
        · subst e'; rw [if_pos rfl]; simp [hlt]
        · rw [if_neg e']; simp [Array.getElem?_setIfInBounds_ne (Ne.symm e')]
      have hsz : (ChangeMaps.setBlock w1 b (.mapIter (some mb) clock (seen.push e.born) clock)).heap.size = w.heap.size := by
        show (w1.heap.setIfInBounds b _).size = _
        rw [hw1.1]; simp
      rw [Oper.upon_value, hd1]
      have hown := hR.own.out d (mem_nm h2) b c r1
      have hNx : Nx U O { cb := [(d, .iter m t es clock ys left none)], pb := [(d, .iter m t es clock ys (remOf (seen.push e.born) es.toList ys) (some (ys[j]'(by rw [← hlen]; exact hj))))], ws := .tup [.p .bool true, .junk, .junk] } S ι w S ι (ChangeMaps.setBlock w1 b (.mapIter (some mb) clock (seen.push e.born) clock)) := by
        refine ⟨hw1.2.1, hw1.2.2.1, hw1.2.2.2, by rw [hsz]; exact Nat.le_refl _, fun _ h => h, fun _ h => .inl h, fun b h => by rw [hsz]; exact hR.lt b h, fun k hk hnot => ?_, fun _ _ => rfl, fun x hx => ?_, fun k hk b' c' hb' => ?_, fun k hk k' hk' hne => ?_⟩
        · rw [hset, if_neg fun e' => hnot d (by simp [nm]) c (by rw [e']; exact r1)]
        · simp at hx; subst hx
          exact ⟨b, c, mb, mc, seen.push e.born, r1, r2, by rw [hset, if_pos rfl], .refl _, fun y hy => by cases hy; exact ⟨j, e, hej, hy, seen, rfl⟩⟩
        · simp [nm] at hk; subst hk
          rw [r1] at hb'
          obtain ⟨rfl, rfl⟩ : b = b' ∧ c = c' := by simpa using hb'
          exact ⟨hown.1, by rw [hsz]; exact hlt, .inr ⟨k, by simp [nm], c, r1⟩⟩
        · simp [nm] at hk hk'; exact absurd (hk.trans hk'.symm) hne
      refine two true [.junk, .junk] { cb := [(d, .iter m t es clock ys left none)], pb := [(d, .iter m t es clock ys (remOf (seen.push e.born) es.toList ys) (some (ys[j]'(by rw [← hlen]; exact hj))))] } S ι _ _
        (hR.next ⟨by simp, by simp, fun x hx => by simp at hx; subst hx; exact h2, by simp, by simp [nm], by simp⟩ hNx ⟨_, ⟨_, _, rfl, ⟨[.bool true], .bool true, rfl⟩, _, _, rfl, trivial, _, _, rfl, trivial, rfl⟩, rfl⟩ (fun t ht => by cases ht; exact hl1)) (hA _ _ (r4.trans hpk) ap)
  unfold opWp at hlist
  show wpList P #[o1, o2] (post U O B Q) [o1, o2] a w
  unfold wpList
  exact hlist
end
end Go.AM

namespace Go.AM
set_option linter.unusedVariables false
open Go.WideElems (Fit rd rg)

section
variable {U : Univ} {O : Out} {P : Program} {S S' : Nat → Prop} {ι ι' : Lay} {w w' : World} {t : Ty}

theorem Nx.frame {s : LSpec U} (h : Nx U O s S ι w S' ι' w') (h1 : s.cb = []) (bs : List (Nat × Blk U)) (hnn : ∀ n ∈ s.nn, n ∉ nm bs ∧ ∀ x ∈ bs, n ∉ Blk.names U x.2) (hbs : ∀ x ∈ bs, BR U O S ι w x.1 x.2)
    (hown : Own S ι w (nm bs)) (hlt : ∀ b, S b → b < w.heap.size) : Nx U O { s with cb := bs, pb := s.pb ++ bs } S ι w S' ι' w' := by
  have hkeep : ∀ b, b < w.heap.size → w'.heap[b]? = w.heap[b]? := fun b hb => h.keep b hb (by rw [h1]; simp)
  have hnew : ∀ b, S' b → S b ∨ w.heap.size ≤ b := fun b hb => by
    rcases h.new b hb with h | h | ⟨m, hm, _⟩
    · exact .inl h
    · exact .inr h
    · rw [h1] at hm; cases hm
  have hlay : ∀ n ∈ nm bs, ι' n = ι n := fun n hn => h.lay n fun hin => (hnn n hin).1 hn
  have hpb : ∀ n ∈ nm s.pb, ∀ b c, ι' n = some (b, c) → w.heap.size ≤ b := fun n hn b c hb => by
    rcases (h.plc n hn b c hb).2.2 with h | ⟨m, hm, _⟩
    · exact h
    · rw [h1] at hm; cases hm
  have split : ∀ n, n ∈ nm (s.pb ++ bs) → n ∈ nm s.pb ∨ n ∈ nm bs := fun n hn => by
    have : n ∈ List.map _ (_ ++ _) := hn
    rw [List.map_append] at this
    exact List.mem_append.1 this
  refine ⟨h.os, h.tape, h.output, h.size, h.sub, fun b hb => (hnew b hb).elim .inl fun h => .inr (.inl h), h.lt, fun b hb _ => hkeep b hb, h.lay, fun x hx => ?_, fun n hn b c hb => ?_, fun n hn m hm hne b c c' hb => ?_⟩
  · rcases List.mem_append.1 hx with hx | hx
    · exact h.blk x hx
    · have hxn : x.1 ∈ nm bs := List.mem_map.2 ⟨x, hx, rfl⟩
      exact BR.mono (fun b hb => hkeep b (hlt b hb)) h.sub (hlay _ hxn) (fun m hm => h.lay m fun hin => (hnn m hin).2 x hx hm) (fun b c hb => hkeep b (hown.out x.1 hxn b c hb).2) (hbs x hx)
  · rcases split n hn with hn | hn
    · have := h.plc n hn b c hb
      exact ⟨this.1, this.2.1, .inl (hpb n hn b c hb)⟩
    · rw [hlay n hn] at hb
      obtain ⟨o1, o2⟩ := hown.out n hn b c hb
      refine ⟨fun hS => ?_, Nat.lt_of_lt_of_le o2 h.size, .inr ⟨n, hn, c, hb⟩⟩
      rcases hnew b hS with h | h
      · exact o1 h
      · omega
  · rcases split n hn with hn | hn <;> rcases split m hm with hm | hm
    · exact h.sep n hn m hm hne b c c' hb
    · rw [hlay m hm]
      intro hb'
      have := (hown.out m hm b c' hb').2
      have := hpb n hn b c hb
      omega
    · rw [hlay n hn] at hb
      intro hb'
      have := (hown.out n hn b c hb).2
      have := hpb m hm b c' hb'
      omega
    · rw [hlay n hn] at hb
      rw [hlay m hm]
      exact hown.sep n hn m hm hne b c c' hb

def unitR : Value → Option (DataW Unit × List MemPlace) := fun _ => some (.lit (.bool true), [])
theorem ownsMap_of {K : TypeId} {n : Nat} {kvs : KV (t.den U.T)} (hk : P.underlying K = some .string) (h : BR U O S ι w n (.map t kvs)) (hsz : kvs.length ≤ maxLen) (hlen : ∀ y ∈ kvs, y.1.length ≤ maxLen) :
    ∃ b c D0, ι n = some (b, c) ∧ w.ownsMap P K unitR b kvs.length D0 ∧ (strKeys D0).Perm (kvs.map (·.1)) ∧ Maps.size D0 = kvs.length := by
  obtain ⟨b, c, es, clock, ys, h1, h2, h3, h4, h5, h6⟩ := h
  have hl : es.size = kvs.length := by rw [← h5.length_eq, ← h4.len, Array.length_toList]
  have hrd : ∀ (es : List MapEntry) (ys : KV (t.den U.T)), EntsR U O S w t es ys → (∀ y ∈ ys, y.1.length ≤ maxLen) → (∀ x ∈ es, ∃ y, rd P K unitR x = some y) ∧ (es.map (rg P K unitR)).map (fun p => strOf p.1) = ys.map (·.1) := by
    intro es
    induction es with
    | nil => intro ys h _; have h : ys = [] := h; subst h; exact ⟨(fun x hx => by cases hx), rfl⟩
    | cons e es ih =>
      rintro ys ⟨y, r, rfl, ⟨s, k1, k2⟩, _, k3⟩ hy
      have hs : s.size ≤ maxLen := by
        have := hy y List.mem_cons_self
        rw [← k2] at this
        simpa [Array.length_toList] using this
      have hkey : keyOf P K e.key = some (.string s.data.toList) := by rw [k1]; exact WideMaps.keyOf_string_mk hk hs
      have hr : rd P K unitR e = some (.string s.data.toList, .lit (.bool true)) := by simp [rd, hkey, unitR]
      obtain ⟨i1, i2⟩ := ih r k3 fun y h => hy y (List.mem_cons_of_mem _ h)
      refine ⟨fun x hx => ?_, ?_⟩
      · rcases List.mem_cons.1 hx with rfl | hx
        · exact ⟨_, hr⟩
        · exact i1 x hx
      · simp only [List.map_cons, i2]
        have : rg P K unitR e = (.string s.data.toList, .lit (.bool true)) := by simp [rg, hr]
        rw [this, ← k2]; rfl
  obtain ⟨r1, r2⟩ := hrd es.toList ys h4 fun y hy => hlen y (h5.subset hy)
  refine ⟨b, c, _, h1, ⟨es, clock, h2, ⟨by omega, h3, r1⟩, by omega, rfl⟩, ?_, ?_⟩
  · have : strKeys (.map ((es.toList.map (rg P K unitR)).foldr DataW.insert [])) = ((es.toList.map (rg P K unitR)).foldr DataW.insert []).map fun p => strOf p.1 := rfl
    rw [this]
    refine ((WideShapes.sorted_perm _).map _).trans ?_
    rw [r2]
    exact h5.map _
  · show ((es.toList.map (rg P K unitR)).foldr DataW.insert []).length = _
    rw [length_sorted]; simp [hl]
theorem sorted_keys {α : Type} {kvs : KV α} {ss : List (List UInt8)} (hr : Rising kvs) (hp : ss.Perm (kvs.map (·.1))) : ss.mergeSort (fun x y => decide (x ≤ y)) = kvs.map (·.1) := by
  rw [show ss.mergeSort (fun x y => decide (x ≤ y)) = ss.mergeSort leB from rfl, mergeSort_of_perm hp]
  refine List.mergeSort_of_pairwise ?_
  rw [List.pairwise_map]
  refine hr.imp fun h => ?_
  simp only [leB, decide_eq_true_eq]
  rw [bytesLess_eq, decide_eq_true_eq] at h
  exact List.le_of_lt h
theorem keyRow {α β : Type} (m : KV α) (i : Nat) (hi : i < (m.map (·.1)).length) {enc : List UInt8 → β} : ((m.map (·.1)).map enc)[i]? = some (enc ((m.map (·.1))[i])) := by
  have hi' : i < m.length := by simpa using hi
  simp [hi']

theorem sok_max {ops : Array Oper} {o : Oper} {rs : List (Nat × AVal U)} {k : IntKind} {x y : Operand} {m n : Int} {T T' : TypeId} (hg : o.guard = none) (ho : o.op = .call { callee := .builtin .max, args := #[x, y], argTypes := #[T, T'] })
    (hx : Opd U rs x (.p (.int k) m)) (hy : Opd U rs y (.p (.int k) n)) : SOk U O P ops o { rs := rs, ws := .p (.int k) (if n > m then n else m) } :=
  sok_v hg (fun ρ => Builtin.max_ #[T, T'] o.type #[ρ x, ρ y]) (fun ρ => by rw [exec_builtin ho]; simp [builtin, vOf]) fun S ι w a hrs _ => ⟨.int k (if n > m then n else m), by
    rw [VV.int_iff.1 (hx.ev hrs), VV.int_iff.1 (hy.ev hrs)]
    simp [Builtin.max_, Builtin.max2], VV.int_iff.2 rfl⟩
end
end Go.AM

namespace Go.AM
open Go Go.RowKit
set_option linter.unusedVariables false

def eqG (U : Univ) : (t : Ty) → t.den U.T → t.den U.T → Bool
  | .pair (.named n) b, x, y => eqB (U.body n) (U.out n x.1) (U.out n y.1) && eqG U b x.2 y.2
  | .pair a b, x, y => eqB a x.1 y.1 && eqG U b x.2 y.2
  | .unit, _, _ => true
  | _, _, _ => false

section
variable {U : Univ} {O : Out} {P : Program} {S : Nat → Prop} {ι : Lay} {w : World} {rs : List (Nat × AVal U)} {a : Act} {ops : Array Oper} {o : Oper}
inductive EqG (P : Program) (U : Univ) : List Field → Nat → Ty → Prop
  | nil {off : Nat} : EqG P U [] off .unit
  | cons {f : Field} {fs : List Field} {off : Nat} {a b : Ty} : f.name ≠ "_" → f.offset = off → TyOk P U f.type a → EqOne P f.type a → EqG P U fs (off + 1) b → EqG P U (f :: fs) off (.pair a b)
  | st {f : Field} {fs : List Field} {gs : Array Field} {off n k : Nat} {b : Ty} : f.name ≠ "_" → f.offset = off → TyOk P U f.type (.named n) → P.underlying f.type = some (.struct gs) → P.stoodInHeld f.type = false → EqF P U gs.toList 0 (U.body n) →
      (Ty.named n).width U.wd = k → EqG P U fs (off + k) b → EqG P U (f :: fs) off (.pair (.named n) b)

theorem EqG.run {fs : List Field} {off : Nat} {t : Ty} (h : EqG P U fs off t) (d : Nat) : ∀ {x y : t.den U.T} {c1 c2 : List Value} {xs ys : Array Value}, Rd U O S w t x c1 → Rd U O S w t y c2 →
    (∀ j, j < c1.length → xs[off + j]? = c1[j]?) → (∀ j, j < c2.length → ys[off + j]? = c2[j]?) → (Op.eqFields (d + 2) xs ys fs).run P w = .ok (eqG U t x y) w := by
  induction h with
  | nil => intro x y c1 c2 xs ys _ _ _ _; simp [Op.eqFields, eqG]
  | @cons f fs off a b hn ho ht he _ ih =>
    intro x y c1 c2 xs ys h1 h2 g1 g2
    cases h1 with
    | @pair _ _ x1 x2 p1 p2 a1 a2 =>
    cases h2 with
    | @pair _ _ y1 y2 q1 q2 b1 b2 =>
    obtain ⟨e1, e2, e3⟩ := he.run (P := P) (w := w) (d + 1) a1 b1
    have hp1 : (part f.type xs f.offset).run P w = .ok (mkV a.isAgg p1) w := run_part ht a1.length (fun j hj => by
      have hl := a1.length
      rw [ho, g1 j (by rw [List.length_append]; omega), List.getElem?_append_left (by omega)]) width_one w
    have hp2 : (part f.type ys f.offset).run P w = .ok (mkV a.isAgg q1) w := run_part ht b1.length (fun j hj => by
      have hl := b1.length
      rw [ho, g2 j (by rw [List.length_append]; omega), List.getElem?_append_left (by omega)]) width_one w
    have hr := ih (xs := xs) (ys := ys) a2 b2 (fun j hj => by
      have := g1 (1 + j) (by rw [List.length_append]; omega)
      rw [show off + 1 + j = off + (1 + j) by omega, this, List.getElem?_append_right (by omega)]; congr 1; omega) (fun j hj => by
      have := g2 (1 + j) (by rw [List.length_append]; omega)
      rw [show off + 1 + j = off + (1 + j) by omega, this, List.getElem?_append_right (by omega)]; congr 1; omega)
    have hq : eqG U (.pair a b) (x1, x2) (y1, y2) = (eqB a x1 y1 && eqG U b x2 y2) := by cases he <;> rfl
    rw [hq]
    simp only [Op.eqFields, hn, ne_eq, not_false_eq_true, if_true, Sem.run_bind, hp1, hp2, e1, Result.andThen_ok]
    cases eqB a x1 y1
    · simp
    · simpa using hr
  | @st f fs gs off n k b hn ho ht hu hs hf hk _ ih =>
    intro x y c1 c2 xs ys h1 h2 g1 g2
    cases h1 with
    | @pair _ _ x1 x2 p1 p2 a1 a2 =>
    cases h2 with
    | @pair _ _ y1 y2 q1 q2 b1 b2 =>
    have hl1 : p1.length = k := hk ▸ a1.length
    have hl2 : q1.length = k := hk ▸ b1.length
    have hp1 : (part f.type xs f.offset).run P w = .ok (mkV (Ty.named n).isAgg p1) w := run_part ht a1.length (fun j hj => by
      rw [ho, g1 j (by rw [List.length_append]; omega), List.getElem?_append_left (by omega)]) width_one w
    have hp2 : (part f.type ys f.offset).run P w = .ok (mkV (Ty.named n).isAgg q1) w := run_part ht b1.length (fun j hj => by
      rw [ho, g2 j (by rw [List.length_append]; omega), List.getElem?_append_left (by omega)]) width_one w
    have hr := ih (xs := xs) (ys := ys) a2 b2 (fun j hj => by
      have := g1 (k + j) (by rw [List.length_append]; omega)
      rw [show off + k + j = off + (k + j) by omega, this, List.getElem?_append_right (by omega)]; congr 1; omega) (fun j hj => by
      have := g2 (k + j) (by rw [List.length_append]; omega)
      rw [show off + k + j = off + (k + j) by omega, this, List.getElem?_append_right (by omega)]; congr 1; omega)
    have hfo : P.fieldsOf f.type = gs := by simp [Program.fieldsOf, hu]
    have e1 : (Op.equalIn (d + 2) f.type (mkV (Ty.named n).isAgg p1) (mkV (Ty.named n).isAgg q1)).run P w = .ok (eqB (U.body n) (U.out n x1) (U.out n y1)) w := by
      cases a1 with
      | named _ _ a1 =>
      cases b1 with
      | named _ _ b1 =>
      show (Op.equalIn (d + 1 + 1) f.type (.agg p1.toArray) (.agg q1.toArray)).run P w = _
      rw [run_equalIn_struct w (d + 1) f.type _ _ (by rw [hfo]; exact hu) hs, hfo]
      exact hf.run d a1 b1 (fun j hj => by simp) (fun j hj => by simp)
    have hq : eqG U (.pair (.named n) b) (x1, x2) (y1, y2) = (eqB (U.body n) (U.out n x1) (U.out n y1) && eqG U b x2 y2) := rfl
    rw [hq]
    simp only [Op.eqFields, hn, ne_eq, not_false_eq_true, if_true, Sem.run_bind, hp1, hp2, e1, Result.andThen_ok]
    cases eqB (U.body n) (U.out n x1) (U.out n y1)
    · simp
    · simpa using hr
theorem run_eqStructG {T : TypeId} {fs : Array Field} {n : Nat} (hT : P.underlying T = some (.struct fs)) (hs : P.stoodInHeld T = false) (hf : EqG P U fs.toList 0 (U.body n)) {x y : U.T n} {c1 c2 : List Value}
    (h1 : Rd U O S w (.named n) x c1) (h2 : Rd U O S w (.named n) y c2) : (Op.equal T (.agg c1.toArray) (.agg c2.toArray)).run P w = .ok (eqG U (U.body n) (U.out n x) (U.out n y)) w := by
  have hfo : P.fieldsOf T = fs := by simp [Program.fieldsOf, hT]
  cases h1 with
  | named _ _ h1 =>
  cases h2 with
  | named _ _ h2 =>
  show (Op.equalIn (9999 + 1) T _ _).run P w = _
  rw [run_equalIn_struct w 9999 T _ _ (by rw [hfo]; exact hT) hs, hfo]
  exact hf.run 9997 h1 h2 (fun j hj => by simp) (fun j hj => by simp)
theorem sok_neG {T t' : TypeId} {fs : Array Field} {n : Nat} {x y : Operand} {m k : U.T n} (hg : o.guard = none) (ho : o.op = .binOp .neq T x y t') (hT : P.underlying T = some (.struct fs)) (hs : P.stoodInHeld T = false)
    (hf : EqG P U fs.toList 0 (U.body n)) (hq : P.eqGuardType P.depth T = false) (hx : Opd U rs x (.p (.named n) m)) (hy : Opd U rs y (.p (.named n) k)) :
    SOk U O P ops o { rs := rs, ws := .p .bool (!(eqG U (U.body n) (U.out n m) (U.out n k))) } :=
  sok_v hg _ (fun _ => exec_bin ho) fun S ι w a hrs _ => by
    obtain ⟨c1, r1, e1⟩ := hx.ev hrs
    obtain ⟨c2, r2, e2⟩ := hy.ev hrs
    refine ⟨.bool (!(eqG U (U.body n) (U.out n m) (U.out n k))), ?_, VV.bool_iff.2 rfl⟩
    rw [e1, e2]
    simp only [mkV, Ty.isAgg, Sem.run_bind, eqGuard_agg hq, Result.andThen_ok, binOp, run_eqStructG hT hs hf r1 r2, Sem.run_pure]
end

section
variable {U : Univ} {O : Out} {S S' : Nat → Prop} {ι ι' : Lay} {w w' : World} {t : Ty}
theorem Nx.rowBlk {s : LSpec U} {E : TypeId} {xs : List (t.den U.T)} {v' : Value} {n d : Nat} {news : List Value} (hrow : w'.ownsRow w.heap.size E (t.width U.wd) v' n news) (hb : RowKit.Below w.heap.size w w')
    (hn : n = xs.length) (hcb : s.cb = []) (hpb : s.pb = [(d, .row E t xs false)]) (hnn : s.nn = [d]) (hlt : ∀ b, S b → b < w.heap.size)
    (hel : ∀ (i : Nat) (h : i < xs.length), ∃ cs, Rd U O S w t xs[i] cs ∧ ∀ j, j < t.width U.wd → news[i * t.width U.wd + j]? = cs[j]?) :
    ∃ ι', Nx U O s S ι w S ι' w' ∧ VV U O S ι' w' (.vec d (t.width U.wd) 0 xs.length) v' := by
  subst hn
  have hl := hrow.lt
  obtain ⟨hlen, ⟨rfl, h0⟩ | ⟨g, cap, cur, rfl, hg, hh, hcap, hmx, hsz, htk⟩⟩ := hrow
  · have : xs = [] := List.eq_nil_of_length_eq_zero h0
    subst this
    refine ⟨fun m => if m = d then none else ι m, ⟨hb.os, hb.tape, hb.output, hb.size, fun _ h => h, fun _ h => .inl h, fun b h => Nat.lt_of_lt_of_le (hlt b h) hb.size, fun b hb' _ => hb.block b hb', fun m hm => ?_, fun x hx => ?_, fun m hm b c hbc => ?_, fun m hm m' hm' hne => ?_⟩, ?_⟩
    · rw [hnn] at hm; exact if_neg (by simpa using hm)
    · rw [hpb] at hx; simp at hx; subst hx
      exact .inl ⟨by simp, rfl, rfl⟩
    · rw [hpb] at hm; simp [nm] at hm; subst hm; simp at hbc
    · rw [hpb] at hm hm'; simp [nm] at hm hm'; subst hm hm'; exact absurd rfl hne
    · exact .inl ⟨by simp, rfl, rfl, rfl⟩
  · have hgl : g < w'.heap.size := (Array.getElem?_eq_some_iff.1 hh).1
    refine ⟨fun m => if m = d then some (g, cap) else ι m, ⟨hb.os, hb.tape, hb.output, hb.size, fun _ h => h, fun _ h => .inl h, fun b h => Nat.lt_of_lt_of_le (hlt b h) hb.size, fun b hb' _ => hb.block b hb', fun m hm => ?_, fun x hx => ?_, fun m hm b c hbc => ?_, fun m hm m' hm' hne => ?_⟩, ?_⟩
    · rw [hnn] at hm; exact if_neg (by simpa using hm)
    · rw [hpb] at hx; simp at hx; subst hx
      refine .inr ⟨g, cap, cur, fun i => if h : i < xs.length then (hel i h).choose else [], by simp, hh, hsz, hmx, hcap, by simp, fun i h => ?_, fun i j hi hj => ?_⟩
      · simp only [h, dif_pos]
        exact (hel i h).choose_spec.1.mono (fun b hS => hb.block b (hlt b hS)) fun _ h => h
      · simp only [hi, dif_pos]
        rw [← (hel i hi).choose_spec.2 j hj, ← htk, List.getElem?_take_of_lt (by
          have : (i + 1) * t.width U.wd ≤ xs.length * t.width U.wd := Nat.mul_le_mul_right _ hi
          rw [Nat.succ_mul] at this; omega), Array.getElem?_toList]
    · rw [hpb] at hm; simp [nm] at hm; subst hm
      simp at hbc; obtain ⟨rfl, rfl⟩ := hbc
      exact ⟨fun hS => absurd (hlt _ hS) (by omega), hgl, .inl hg⟩
    · rw [hpb] at hm hm'; simp [nm] at hm hm'; subst hm hm'; exact absurd rfl hne
    · exact .inr ⟨g, cap, 0, by simp, by omega, by simp, .inl (by simp)⟩
theorem Nx.rowPut {s : LSpec U} {E : TypeId} {xs ys : List (t.den U.T)} {d b c : Nat} {fx : Bool} (hcb : s.cb = [(d, .row E t xs fx)]) (hpb : s.pb = [(d, .row E t ys fx)]) (hι : ι d = some (b, c)) (hS : ¬ S b) (hbl : b < w.heap.size)
    (hlt : ∀ b, S b → b < w.heap.size) (h1 : w'.os = w.os) (h2 : w'.tape = w.tape) (h3 : w'.output = w.output) (h4 : w.heap.size ≤ w'.heap.size) (hk : ∀ k, k < w.heap.size → k ≠ b → w'.heap[k]? = w.heap[k]?)
    (hB : BR U O S ι w' d (.row E t ys fx)) : Nx U O s S ι w S ι w' := by
  refine ⟨h1, h2, h3, h4, fun _ h => h, fun _ h => .inl h, fun b' h => Nat.lt_of_lt_of_le (hlt b' h) h4, fun b' hb' hne => hk b' hb' fun e => ?_, fun _ _ => rfl, fun x hx => ?_, fun m hm b' c' hbc => ?_, fun m hm m' hm' hne => ?_⟩
  · exact hne d (by rw [hcb]; simp [nm]) c (by rw [hι, e])
  · rw [hpb] at hx; simp at hx; subst hx; exact hB
  · rw [hpb] at hm; simp [nm] at hm; subst hm
    rw [hι] at hbc; obtain ⟨rfl, rfl⟩ : b = b' ∧ c = c' := by simpa using hbc
    exact ⟨hS, by omega, .inr ⟨m, by rw [hcb]; simp [nm], c, hι⟩⟩
  · rw [hpb] at hm hm'; simp [nm] at hm hm'; subst hm hm'; exact absurd rfl hne
theorem Nx.rowTake {s : LSpec U} {E : TypeId} {xs : List (t.den U.T)} {d b c : Nat} {fx : Bool} (hcb : s.cb = [(d, .row E t xs fx)]) (hpb : s.pb = []) (hι : ι d = some (b, c)) (hbl : b < w.heap.size)
    (hlt : ∀ b, S b → b < w.heap.size) (h1 : w'.os = w.os) (h2 : w'.tape = w.tape) (h3 : w'.output = w.output) (h4 : w.heap.size ≤ w'.heap.size) (hk : ∀ k, k < w.heap.size → k ≠ b → w'.heap[k]? = w.heap[k]?) :
    Nx U O s S ι w (fun x => S x ∨ x = b) ι w' := by
  refine ⟨h1, h2, h3, h4, fun _ h => .inl h, fun x h => ?_, fun x h => ?_, fun b' hb' hne => hk b' hb' fun e => ?_, fun _ _ => rfl, by simp [hpb], by simp [hpb, nm], by simp [hpb, nm]⟩
  · rcases h with h | rfl
    · exact .inl h
    · exact .inr (.inr ⟨d, by rw [hcb]; simp [nm], c, hι⟩)
  · rcases h with h | rfl
    · exact Nat.lt_of_lt_of_le (hlt x h) h4
    · omega
  · exact hne d (by rw [hcb]; simp [nm]) c (by rw [hι, e])

theorem put_at {α : Type} [Inhabited α] {enc : α → Value} {b off n : Nat} {d : Array α} {os : Array Obj} {arr : Array Value} {E : TypeId} {fr : Nat × Nat} (h : w.heap[b]? = some (.cells arr E fr)) :
    (Sort.grow (Sort.putRow enc (Sort.ahead w n) b off d) os).heap[b]? = some (.cells (Sort.putCells enc off d arr) E fr) := by
  have hl : b < w.heap.size := (Array.getElem?_eq_some_iff.1 h).1
  rw [Sort.heap_grow_old _ _ (by simp [Sort.putRow, Sort.mapBlock, Sort.ahead]; exact hl)]
  simp only [Sort.putRow, Sort.mapBlock, Sort.ahead, Array.getElem?_modify, if_true, h, Option.map_some, Sort.onCells]
theorem put_ne {α : Type} [Inhabited α] {enc : α → Value} {b off n k : Nat} {d : Array α} {os : Array Obj} (hk : k < w.heap.size) (hne : k ≠ b) :
    (Sort.grow (Sort.putRow enc (Sort.ahead w n) b off d) os).heap[k]? = w.heap[k]? := by
  rw [Sort.heap_grow_old _ _ (by simp [Sort.putRow, Sort.mapBlock, Sort.ahead]; exact hk)]
  simp only [Sort.putRow, Sort.mapBlock, Sort.ahead, Array.getElem?_modify, if_neg (fun e => hne e.symm : ¬ b = k)]
theorem put_get {α : Type} [Inhabited α] {enc : α → Value} {d : Array α} {arr : Array Value} {j : Nat} (hj : j < d.size) (ha : j < arr.size) : (Sort.putCells enc 0 d arr)[j]? = some (enc d[j]!) := by
  simp only [Sort.putCells, Array.getElem?_mapIdx]
  rw [Array.getElem?_eq_getElem ha, Option.map_some, if_pos (by omega)]; simp
theorem put_size {α : Type} [Inhabited α] {enc : α → Value} {off : Nat} {d : Array α} {arr : Array Value} : (Sort.putCells enc off d arr).size = arr.size := by simp [Sort.putCells]
end
end Go.AM

namespace Go.AM
open Go
set_option linter.unusedVariables false
section
variable {U : Univ} {O : Out}
theorem Conv.openS {st : St U} {q : Bool} (t n : Nat) (hq : q = true) (hin : (t, AVal.opt q n) ∈ st.sl) : Conv U O st ⟨setA st.sl t (.loc n 0), st.hp⟩ := by
  intro B S ι a w hR
  refine ⟨S, ι, { hR with sl := fun x hx => ?_ }⟩
  rcases mem_setA hx with rfl | ⟨h1, _⟩
  · have h := hR.sl _ hin
    simp only [VV] at h ⊢
    exact h.1 hq
  · exact hR.sl x h1
theorem Conv.openB {st : St U} {q : Bool} (n : Nat) (B : Blk U) (hq : q = true) (hin : (n, Blk.opt q B) ∈ st.hp) : Conv U O st ⟨st.sl, setA st.hp n B⟩ := by
  intro B' S ι a w hR
  have hm : ∀ k ∈ nm (setA st.hp n B), k ∈ nm st.hp := fun k hk => by
    obtain ⟨x, hx, rfl⟩ := List.mem_map.1 hk
    rcases mem_setA hx with rfl | ⟨h1, _⟩
    · exact List.mem_map.2 ⟨_, hin, rfl⟩
    · exact List.mem_map.2 ⟨_, h1, rfl⟩
  refine ⟨S, ι, { hR with hp := fun x hx => ?_, own := ⟨fun k hk => hR.own.out k (hm k hk), fun k hk j hj => hR.own.sep k (hm k hk) j (hm j hj)⟩, mine := fun k hk => hR.mine k (hm k hk) }⟩
  rcases mem_setA hx with rfl | ⟨h1, _⟩
  · exact hR.hp _ hin hq
  · exact hR.hp x h1
end
end Go.AM

namespace Go.AM
open Go Go.RowKit Go.Sort Go.Proofs
set_option linter.unusedVariables false
theorem halloc_new (w : World) (o : Obj) : (w.alloc o).heap[w.heap.size]? = some o := by
  show (w.heap.push o)[w.heap.size]? = _
  simp
theorem halloc_old (w : World) (o : Obj) (b : Nat) (h : b < w.heap.size) : (w.alloc o).heap[b]? = w.heap[b]? := by
  show (w.heap.push o)[b]? = _
  rw [Array.getElem?_push_lt h, Array.getElem?_eq_getElem h]
section
variable {U : Univ} {O : Out} {S : Nat → Prop} {ι : Lay} {w w' : World}
theorem row_frozen {b k : Nat} {arr : Array Value} {E : TypeId} (h : w.heap[b]? = some (.cells arr E (0, 0))) : w.frozen? ⟨b, k, none⟩ = false := by simp [World.frozen?, h]
theorem row_of {d E : Nat} {xs : List (List UInt8)} {fx : Bool} (hB : BR U O S ι w d (.row E .str xs fx)) {u : Value} (hu : VV U O S ι w (.vec d 1 0 xs.length) u) :
    (ι d = none ∧ xs = [] ∧ fx = false ∧ u = .slice none 0 0) ∨ ∃ (b c : Nat) (arr : Array Value), ι d = some (b, c) ∧ u = .slice (some ⟨b, 0, none⟩) xs.length c ∧ w.heap[b]? = some (.cells arr E (0, 0)) ∧ arr.size = c ∧ c ≤ maxLen ∧ xs.length ≤ c ∧ (fx = true → xs.length = c) ∧ Holds encStr w b 0 xs.toArray := by
  rcases hB with ⟨h1, h2, h3⟩ | ⟨b, c, arr, cs, h1, h2, h3, h4, h5, h6, h7, h8⟩
  · rcases hu with ⟨_, _, _, rfl⟩ | ⟨b, c, o, g1, _⟩
    · exact .inl ⟨h1, h2, h3, rfl⟩
    · rw [h1] at g1; cases g1
  · rcases hu with ⟨g1, _⟩ | ⟨b', c', o, g1, g2, g3, g4⟩
    · rw [h1] at g1; cases g1
    · rw [h1] at g1
      obtain ⟨rfl, rfl⟩ : b = b' ∧ c = c' := by simpa using g1
      have ho : o = 0 := by rcases g4 with h | h <;> omega
      subst ho
      refine .inr ⟨b, c, arr, h1, by simpa using g3, h2, by simpa [Ty.width] using h3, h4, h5, h6, fun j hj => ⟨?_, row_frozen h2⟩⟩
      have hjx : j < xs.length := by simpa using hj
      obtain ⟨q, q1, q2⟩ := rd_strq (h7 j hjx)
      have h9 := h8 j 0 hjx (by simp [Ty.width])
      rw [q2] at h9
      rw [cell_of_row w b _ arr E (0, 0) h2]
      have e : q = ⟨xs[j].toArray⟩ := bytes_ext (by simp; exact q1.symm)
      have e2 : xs.toArray[j]! = xs[j] := by simp [hjx]
      rw [e2, Nat.zero_add]
      simp only [Ty.width, Nat.mul_one, Nat.add_zero, List.getElem?_cons_zero] at h9
      rw [h9, e]
theorem row_to {d E b c : Nat} {ys : List (List UInt8)} {fx : Bool} {arr arr' : Array Value} (h1 : ι d = some (b, c)) (h2 : w.heap[b]? = some (.cells arr' E (0, 0))) (h3 : arr'.size = c) (h4 : c ≤ maxLen) (h5 : ys.length ≤ c) (h6 : fx = true → ys.length = c)
    (h7 : ∀ j (h : j < ys.length), arr'[j]? = some (encStr ys[j])) : BR U O S ι w d (.row E .str ys fx) := by
  refine .inr ⟨b, c, arr', fun i => if h : i < ys.length then [encStr ys[i]] else [], h1, h2, by simpa [Ty.width] using h3, h4, h5, h6, fun i h => ?_, fun i j hi hj => ?_⟩
  · have e : (if h : i < ys.length then [encStr ys[i]] else ([] : List Value)) = [encStr ys[i]] := dif_pos h
    show Rd U O S w .str ys[i] (if h : i < ys.length then [encStr ys[i]] else [])
    rw [e]; exact rd_strof rfl
  · obtain rfl : j = 0 := by simpa [Ty.width] using hj
    have e : (if h : i < ys.length then [encStr ys[i]] else ([] : List Value)) = [encStr ys[i]] := dif_pos hi
    show _ = (if h : i < ys.length then [encStr ys[i]] else ([] : List Value))[0]?
    rw [e]
    simp only [Ty.width, Nat.mul_one, Nat.add_zero, List.getElem?_cons_zero]
    exact h7 i hi
theorem Nx.withCb {s : LSpec U} {S' : Nat → Prop} {ι' : Lay} (h : Nx U O s S ι w S' ι' w') (h1 : s.cb = []) (h2 : s.pb = []) (bs : List (Nat × Blk U)) : Nx U O { s with cb := bs } S ι w S' ι' w' := by
  refine ⟨h.os, h.tape, h.output, h.size, h.sub, fun b hb => ?_, h.lt, fun b hb hn => h.keep b hb (by rw [h1]; simp [nm]), h.lay, h.blk, by simp [h2, nm], h.sep⟩
  rcases h.new b hb with h | h | ⟨m, hm, _⟩
  · exact .inl h
  · exact .inr (.inl h)
  · rw [h1] at hm; simp [nm] at hm
theorem sort_nx {s : LSpec U} {d E b c n : Nat} {xs ys : List (List UInt8)} {os : Array Obj} {arr : Array Value} (hcb : s.cb = [(d, .row E .str xs false)]) (hpb : s.pb = [(d, .row E .str ys false)])
    (hι : ι d = some (b, c)) (hh : w.heap[b]? = some (.cells arr E (0, 0))) (hsz : arr.size = c) (hmx : c ≤ maxLen) (hlen : ys.length = xs.length) (hc : xs.length ≤ c) (hS : ¬ S b) (hlt : ∀ b, S b → b < w.heap.size)
    (hw : w' = grow (putRow encStr (Go.Sort.ahead w n) b 0 ys.toArray) os) : Nx U O s S ι w S ι w' := by
  subst hw
  have hbl : b < w.heap.size := (Array.getElem?_eq_some_iff.1 hh).1
  refine Nx.rowPut hcb hpb hι hS hbl hlt rfl rfl rfl (by simp [putRow, mapBlock, Go.Sort.ahead]) (fun k hk hne => put_ne hk hne) ?_
  refine row_to (arr := arr) hι (put_at hh) (by rw [put_size]; exact hsz) hmx (by omega) (by simp) fun j hj => ?_
  rw [put_get (by simpa using hj) (by omega)]
  simp [hj]
theorem compact_len (zs : List (List UInt8)) : (Lib.compact zs).length ≤ zs.length := by
  unfold Lib.compact Lib.compactUpTo
  rw [List.length_map]
  exact Nat.le_trans (List.length_filter_le _ _) (by simp)
theorem compact_nx {s : LSpec U} {d E b c n m : Nat} {xs ys : List (List UInt8)} {arr : Array Value} (hcb : s.cb = [(d, .row E .str xs false)]) (hpb : s.pb = [])
    (hι : ι d = some (b, c)) (hh : w.heap[b]? = some (.cells arr E (0, 0))) (hsz : arr.size = c) (hlen : ys.length ≤ c) (hlt : ∀ b, S b → b < w.heap.size)
    (hw : w' = putRow encStr (Go.Sort.ahead w n) b 0 (ys ++ List.replicate m []).toArray) :
    Nx U O s S ι w (fun x => S x ∨ x = b) ι w' ∧ VV U O (fun x => S x ∨ x = b) ι w' (.p (.list .str) ys) (.slice (some ⟨b, 0, none⟩) ys.length c) := by
  have hw : w' = grow (putRow encStr (Go.Sort.ahead w n) b 0 (ys ++ List.replicate m []).toArray) #[] := by rw [grow_empty]; exact hw
  subst hw
  have hbl : b < w.heap.size := (Array.getElem?_eq_some_iff.1 hh).1
  refine ⟨Nx.rowTake hcb hpb hι hbl hlt rfl rfl rfl (by simp [putRow, mapBlock, Go.Sort.ahead]) (fun k hk hne => put_ne hk hne), ?_⟩
  refine ⟨_, .list .str ys b 0 c (fun i => if h : i < ys.length then [encStr ys[i]] else []) (.inr rfl) hlen (fun i h => ?_) (fun i j hi hj => ?_), rfl⟩
  · have e : (if h : i < ys.length then [encStr ys[i]] else ([] : List Value)) = [encStr ys[i]] := dif_pos h
    show Rd U O _ _ .str ys[i] (if h : i < ys.length then [encStr ys[i]] else [])
    rw [e]; exact rd_strof rfl
  · obtain rfl : j = 0 := by simpa [Ty.width] using hj
    have e : (if h : i < ys.length then [encStr ys[i]] else ([] : List Value)) = [encStr ys[i]] := dif_pos hi
    show _ = (if h : i < ys.length then [encStr ys[i]] else ([] : List Value))[0]?
    rw [e, cell_of_row _ b _ _ E (0, 0) (put_at hh)]
    simp only [Ty.width, Nat.mul_one, Nat.add_zero, Nat.zero_add, List.getElem?_cons_zero]
    have hi' : i < @List.length (List UInt8) ys := hi
    have hi2 : i < (ys ++ List.replicate m ([] : List UInt8)).length := by rw [List.length_append]; omega
    have hge : (ys ++ List.replicate m ([] : List UInt8)).toArray[i]! = ys[i] := by
      rw [getElem!_pos _ i (by simpa using hi2)]
      simp [List.getElem_append_left hi']
    rw [put_get (by simpa using hi2) (by omega), hge]; rfl
end
end Go.AM

namespace Go.AM
open Go Go.RowKit
set_option linter.unusedVariables false
section
variable {U : Univ} {O : Out} {P : Program} {S : Nat → Prop} {ι : Lay} {w : World} {rs : List (Nat × AVal U)} {a : Act} {ops : Array Oper} {o : Oper}
theorem sok_appendB {T E : TypeId} {t : Ty} {by_ n d : Nat} {xs ys : List (t.den U.T)} {fx : Bool} {x y : Operand} {v : AVal U} {vw : List (Nat × Blk U)} (hg : o.guard = none) (_ : o.dst = some d)
    (ho : o.op = .call { callee := .builtin .append, args := #[x, y], argTypes := #[T, T] }) (hT : RowOk P U T E t by_) (hby : 1 ≤ by_)
    (hx : Opd U rs x (.vec n (t.width U.wd) 0 xs.length)) (hy : Opd U rs y v) (hv : View U vw v (.p (.list t) ys)) (_ : n ∉ nm vw) (hlim : (xs.length + ys.length) * by_ ≤ 140737488355328) :
    SOk U O P ops o { rs := rs, ro := vw, cb := [(n, .row E t xs fx)], ws := .vec d (t.width U.wd) 0 (xs.length + ys.length), pb := [(d, .row E t (xs ++ ys) false)], nn := [d] } := by
  intro S ι w a hlt hgl hrs hro hcb hown K Q hK
  have hB := hcb _ List.mem_cons_self
  obtain ⟨cs, hel, hrow, hplace⟩ := own_of rfl hB (hx.ev hrs) rfl rfl
  obtain ⟨ds, hdl, hys⟩ := view_cells hT.pos hv hro (hy.ev hrs)
  have hsz : (xs.length + ys.length) * by_ ≤ 140737488355328 := hlim
  have h63 : xs.length + ys.length ≤ maxLen := by
    have := Nat.mul_le_mul_left (xs.length + ys.length) hby
    unfold maxLen; omega
  have hnewl : (rowCells ys.length ds).length = ys.length * t.width U.wd := flatMap_range_length _ _ _ fun i hi => (hdl i hi).length
  have hone : ∀ u ∈ rowCells ys.length ds, u.oneCell' = true := fun u hu => by
    obtain ⟨i, hi, hu⟩ := List.mem_flatMap.1 hu
    exact (hdl i (List.mem_range.1 hi)).one u hu
  obtain ⟨v', w', hr, ho', hg', hp⟩ : ∃ v' w', (Builtin.append_ #[T, T] o.type #[a.eval x, a.eval y]).run P w = .ok v' w' ∧
      w'.ownsRow 0 E (t.width U.wd) v' (xs.length + ys.length) (rowCells xs.length cs ++ rowCells ys.length ds) ∧ w.grownBy w' (a.eval x).ownBlock ∧ ∀ b, v'.ownBlock = some b → w.heap.size ≤ b ∨ (a.eval x).ownBlock = some b := by
    rcases hys with ⟨rfl, hu⟩ | ⟨ad, cap, hu, hc⟩
    · obtain ⟨i, z, hi, hz, hs, hb', hzs⟩ := hT.info
      rw [hu]
      refine ⟨_, w, run_append_owned_none (P := P) (ty := o.type) (w := w) 0 T E i (t.width U.wd) hT.sl.under hi _ _ _ hrow, ?_, ⟨rfl, rfl, rfl, Nat.le_refl _, fun _ _ _ => rfl⟩, fun b hb => .inr hb⟩
      simpa [rowCells] using hrow
    · rw [hu]
      exact run_append_place hT hrow ad ys.length cap hnewl hc hone h63 hsz
  have hzl : (xs ++ ys).length = xs.length + ys.length := List.length_append
  have hels : ∀ (i : Nat) (h : i < (xs ++ ys).length), Rd U O S w t (xs ++ ys)[i] (if i < xs.length then cs i else ds (i - xs.length)) := fun i hi => by
    by_cases h : i < xs.length
    · rw [if_pos h, List.getElem_append_left h]; exact hel i h
    · rw [if_neg h, List.getElem_append_right (by omega)]
      exact hdl (i - xs.length) (by omega)
  rw [rowCells_append, ← hzl] at ho'
  obtain ⟨ι', hN, hV⟩ := nx_append (s := { rs := rs, ro := vw, cb := [(n, .row E t xs fx)], ws := .vec d (t.width U.wd) 0 (xs.length + ys.length), pb := [(d, .row E t (xs ++ ys) false)], nn := [d] })
    (ι := ι) rfl rfl hlt hg' (fun b hb => by
      obtain ⟨c, hc⟩ := hplace b hb
      have := hown.out n (by simp) b c hc
      exact ⟨this.1, this.2, n, by simp, c, hc⟩) hels ho' hp
  refine opWp_plain hg ?_
  unfold Oper.wp
  rw [exec_append ho, run_vOf hr]
  rw [hzl] at hV
  exact hK v' S ι' w' hN hV

theorem sok_appendB' {T E : TypeId} {t : Ty} {by_ n d : Nat} {xs ys : List (t.den U.T)} {fx : Bool} {x y : Operand} {v : AVal U} {vw : List (Nat × Blk U)} (hg : o.guard = none) (hd : o.dst = some d)
    (ho : o.op = .call { callee := .builtin .append, args := #[x, y], argTypes := #[T, T] }) (hT : RowOk P U T E t by_) (hby : 1 ≤ by_)
    (hx : Opd U rs x (.vec n (t.width U.wd) 0 xs.length)) (hy : Opd U rs y v) (hv : View U vw v (.p (.list t) ys)) (hvw : n ∉ nm vw) (hlim : (xs.length + ys.length) * by_ ≤ 140737488355328) :
    SOk U O P ops o { rs := rs, ro := vw, cb := [(n, .row E t xs fx)], ws := .vec d (t.width U.wd) 0 (xs ++ ys).length, pb := [(d, .row E t (xs ++ ys) false)], nn := [d] } := by
  rw [List.length_append]
  exact sok_appendB hg hd ho hT hby hx hy hv hvw hlim
end
theorem trod_len {U : Univ} {O : Out} {S : Nat → Prop} {ι : Lay} {H : Type} {enc : TypeId × Value → H} {P : Program} {W : World} {base : Nat} {sp : Nat → Bool} {held : Bool} {m : Nat} {T E : TypeId} {t : Ty} {xs : List (t.den U.T)} {u : Value} {d : DataW H} {p : List MemPlace}
    (hT : P.underlying T = some (.slice E)) (hu : VV U O S ι W (.p (.list t) xs) u) (h : DataW.trod enc P W base sp held m T u.cells.toList = some (d, p)) : xs = [] ∨ ∃ elems spare, d = .slice elems spare ∧ elems.length = xs.length := by
  rcases VV.list_iff.1 hu with ⟨h1, _⟩ | ⟨h1, _⟩ | ⟨b, o, cap, cs, rfl, _⟩
  · exact .inl h1
  · exact .inl h1
  · right
    cases m with
    | zero => simp [DataW.trod] at h
    | succ m =>
      have hc : (Value.slice (some ⟨b, o, none⟩) xs.length cap).cells.toList = [.slice (some ⟨b, o, none⟩) xs.length cap] := by simp [Value.cells]
      rw [hc] at h
      unfold DataW.trod at h
      rw [hT] at h
      simp only at h
      split at h
      · obtain ⟨elems, he, h⟩ := Option.bind_eq_some_iff.1 h
        obtain ⟨rest, hr, h⟩ := Option.map_eq_some_iff.1 h
        obtain ⟨rfl, rfl⟩ : _ ∧ _ := by simpa using h
        refine ⟨_, _, rfl, ?_⟩
        have := mapM_some_length he
        simpa using this
      · cases h
theorem weight_of {H : Type} {P : Program} {T E : TypeId} {elems spare : List (DataW H)} (hT : P.underlying T = some (.slice E)) : ∀ {ts : List TypeId} {ds : List (DataW H)} {i : Nat}, (DataW.weightsEach P ts ds).all (· ≤ reachBytes) = true → ts[i]? = some T → ds[i]? = some (.slice elems spare) → elems.length * P.bytesOf E ≤ reachBytes
  | [], _, _, _, h, _ => by simp at h
  | _ :: _, [], _, _, _, h => by simp at h
  | t :: ts, d :: ds, 0, h, h1, h2 => by
    obtain rfl : t = T := by simpa using h1
    obtain rfl : d = .slice elems spare := by simpa using h2
    have hm : (elems.length + spare.length) * P.bytesOf E ∈ DataW.weightsEach P (t :: ts) (DataW.slice elems spare :: ds) := by
      unfold DataW.weightsEach DataW.weights
      rw [hT]
      simp
    have := List.all_eq_true.1 h _ hm
    have h3 : elems.length * P.bytesOf E ≤ (elems.length + spare.length) * P.bytesOf E := Nat.mul_le_mul_right _ (by omega)
    have h4 : (elems.length + spare.length) * P.bytesOf E ≤ reachBytes := by simpa using this
    omega
  | t :: ts, d :: ds, i + 1, h, h1, h2 => by
    refine weight_of hT (ts := ts) (ds := ds) (i := i) ?_ (by simpa using h1) (by simpa using h2)
    unfold DataW.weightsEach at h
    rw [List.all_append, Bool.and_eq_true] at h
    exact h.2
end Go.AM

namespace Go.AM
theorem w64 {n : Int} (h0 : -9223372036854775808 ≤ n) (h1 : n ≤ 9223372036854775807) : IntKind.i64.wrap n = n := by
  simp only [IntKind.wrap, IntKind.bits, IntKind.signed]
  simp
  omega
theorem idx_at {α : Type} {l : List α} {v : Int} {i : Nat} (e : v = i) (h : i < l.length) : idx l v = some l[i] := by
  subst e; simp [idx, h]
theorem idx_none {α : Type} {l : List α} {v : Int} (h : v < 0 ∨ (l.length : Int) ≤ v) : idx l v = none := by
  unfold idx
  split
  · rcases h with h | h
    · omega
    · simp; omega
  · rfl
theorem sub_at {α : Type} {l : List α} {v u : Int} {a b : Nat} (ev : v = a) (eu : u = b) (h : a ≤ b) (h' : b ≤ l.length) : sub l v u = some ((l.take b).drop a) := by
  subst ev; subst eu
  unfold sub
  rw [if_pos (by omega)]
  simp
theorem sub_to {α : Type} {l : List α} {v u : Int} {b : Nat} (ev : v = 0) (eu : u = b) (h : b ≤ l.length) : sub l v u = some (l.take b) := by
  rw [sub_at (a := 0) ev eu (by omega) h]; simp
end Go.AM
