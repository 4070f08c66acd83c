/- The abstract layer, part M5: structs within structs compared; rows that a library function makes, turns or takes; pointers that may be nil, opened; long rows; how long an argument is. -/
import Derived.Test.YthmbbdemecljpaaDoorK11AmM4
import Derived.Sort.Grow
import Derived.Sort.EncStr
import Derived.Lib.SlicesCompact
namespace Go.AM
open Go Go.RowKit
set_option linter.unusedVariables false

/-! ### structs with structs in them -/
def eqG (U : Univ) : (t : Ty) → t.den U.T → t.den U.T → Bool
  | .pair (.named n) b, x, y => eqB (U.body n) (U.out n x.1) (U.out n y.1) && eqG U b x.2 y.2
  | .pair a b, x, y => eqB a x.1 y.1 && eqG U b x.2 y.2
  | .unit, _, _ => true
  | _, _, _ => false

section
variable {U : Univ} {O : Out} {P : Program} {S : Nat → Prop} {ι : Lay} {w : World} {rs : List (Nat × AVal U)} {a : Act} {ops : Array Oper} {o : Oper}
inductive EqG (P : Program) (U : Univ) : List Field → Nat → Ty → Prop
  | nil {off : Nat} : EqG P U [] off .unit
  | cons {f : Field} {fs : List Field} {off : Nat} {a b : Ty} : f.name ≠ "_" → f.offset = off → TyOk P U f.type a → EqOne P f.type a → EqG P U fs (off + 1) b → EqG P U (f :: fs) off (.pair a b)
  | st {f : Field} {fs : List Field} {gs : Array Field} {off n k : Nat} {b : Ty} : f.name ≠ "_" → f.offset = off → TyOk P U f.type (.named n) → P.underlying f.type = some (.struct gs) → P.stoodInHeld f.type = false → EqF P U gs.toList 0 (U.body n) →
      (Ty.named n).width U.wd = k → EqG P U fs (off + k) b → EqG P U (f :: fs) off (.pair (.named n) b)

theorem EqG.run {fs : List Field} {off : Nat} {t : Ty} (h : EqG P U fs off t) (d : Nat) : ∀ {x y : t.den U.T} {c1 c2 : List Value} {xs ys : Array Value}, Rd U O S w t x c1 → Rd U O S w t y c2 →
    (∀ j, j < c1.length → xs[off + j]? = c1[j]?) → (∀ j, j < c2.length → ys[off + j]? = c2[j]?) → (Op.eqFields (d + 2) xs ys fs).run P w = .ok (eqG U t x y) w := by
  induction h with
  | nil => intro x y c1 c2 xs ys _ _ _ _; simp [Op.eqFields, eqG]
  | @cons f fs off a b hn ho ht he _ ih =>
    intro x y c1 c2 xs ys h1 h2 g1 g2
    cases h1 with
    | @pair _ _ x1 x2 p1 p2 a1 a2 =>
    cases h2 with
    | @pair _ _ y1 y2 q1 q2 b1 b2 =>
    obtain ⟨e1, e2, e3⟩ := he.run (P := P) (w := w) (d + 1) a1 b1
    have hp1 : (part f.type xs f.offset).run P w = .ok (mkV a.isAgg p1) w := run_part ht a1.length (fun j hj => by
      have hl := a1.length
      rw [ho, g1 j (by rw [List.length_append]; omega), List.getElem?_append_left (by omega)]) width_one w
    have hp2 : (part f.type ys f.offset).run P w = .ok (mkV a.isAgg q1) w := run_part ht b1.length (fun j hj => by
      have hl := b1.length
      rw [ho, g2 j (by rw [List.length_append]; omega), List.getElem?_append_left (by omega)]) width_one w
    have hr := ih (xs := xs) (ys := ys) a2 b2 (fun j hj => by
      have := g1 (1 + j) (by rw [List.length_append]; omega)
      rw [show off + 1 + j = off + (1 + j) by omega, this, List.getElem?_append_right (by omega)]; congr 1; omega) (fun j hj => by
      have := g2 (1 + j) (by rw [List.length_append]; omega)
      rw [show off + 1 + j = off + (1 + j) by omega, this, List.getElem?_append_right (by omega)]; congr 1; omega)
    have hq : eqG U (.pair a b) (x1, x2) (y1, y2) = (eqB a x1 y1 && eqG U b x2 y2) := by cases he <;> rfl
    rw [hq]
    simp only [Op.eqFields, hn, ne_eq, not_false_eq_true, if_true, Sem.run_bind, hp1, hp2, e1, Result.andThen_ok]
    cases eqB a x1 y1
    · simp
    · simpa using hr
  | @st f fs gs off n k b hn ho ht hu hs hf hk _ ih =>
    intro x y c1 c2 xs ys h1 h2 g1 g2
    cases h1 with
    | @pair _ _ x1 x2 p1 p2 a1 a2 =>
    cases h2 with
    | @pair _ _ y1 y2 q1 q2 b1 b2 =>
    have hl1 : p1.length = k := hk ▸ a1.length
    have hl2 : q1.length = k := hk ▸ b1.length
    have hp1 : (part f.type xs f.offset).run P w = .ok (mkV (Ty.named n).isAgg p1) w := run_part ht a1.length (fun j hj => by
      rw [ho, g1 j (by rw [List.length_append]; omega), List.getElem?_append_left (by omega)]) width_one w
    have hp2 : (part f.type ys f.offset).run P w = .ok (mkV (Ty.named n).isAgg q1) w := run_part ht b1.length (fun j hj => by
      rw [ho, g2 j (by rw [List.length_append]; omega), List.getElem?_append_left (by omega)]) width_one w
    have hr := ih (xs := xs) (ys := ys) a2 b2 (fun j hj => by
      have := g1 (k + j) (by rw [List.length_append]; omega)
      rw [show off + k + j = off + (k + j) by omega, this, List.getElem?_append_right (by omega)]; congr 1; omega) (fun j hj => by
      have := g2 (k + j) (by rw [List.length_append]; omega)
      rw [show off + k + j = off + (k + j) by omega, this, List.getElem?_append_right (by omega)]; congr 1; omega)
    have hfo : P.fieldsOf f.type = gs := by simp [Program.fieldsOf, hu]
    have e1 : (Op.equalIn (d + 2) f.type (mkV (Ty.named n).isAgg p1) (mkV (Ty.named n).isAgg q1)).run P w = .ok (eqB (U.body n) (U.out n x1) (U.out n y1)) w := by
      cases a1 with
      | named _ _ a1 =>
      cases b1 with
      | named _ _ b1 =>
      show (Op.equalIn (d + 1 + 1) f.type (.agg p1.toArray) (.agg q1.toArray)).run P w = _
      rw [run_equalIn_struct w (d + 1) f.type _ _ (by rw [hfo]; exact hu) hs, hfo]
      exact hf.run d a1 b1 (fun j hj => by simp) (fun j hj => by simp)
    have hq : eqG U (.pair (.named n) b) (x1, x2) (y1, y2) = (eqB (U.body n) (U.out n x1) (U.out n y1) && eqG U b x2 y2) := rfl
    rw [hq]
    simp only [Op.eqFields, hn, ne_eq, not_false_eq_true, if_true, Sem.run_bind, hp1, hp2, e1, Result.andThen_ok]
    cases eqB (U.body n) (U.out n x1) (U.out n y1)
    · simp
    · simpa using hr
theorem run_eqStructG {T : TypeId} {fs : Array Field} {n : Nat} (hT : P.underlying T = some (.struct fs)) (hs : P.stoodInHeld T = false) (hf : EqG P U fs.toList 0 (U.body n)) {x y : U.T n} {c1 c2 : List Value}
    (h1 : Rd U O S w (.named n) x c1) (h2 : Rd U O S w (.named n) y c2) : (Op.equal T (.agg c1.toArray) (.agg c2.toArray)).run P w = .ok (eqG U (U.body n) (U.out n x) (U.out n y)) w := by
  have hfo : P.fieldsOf T = fs := by simp [Program.fieldsOf, hT]
  cases h1 with
  | named _ _ h1 =>
  cases h2 with
  | named _ _ h2 =>
  show (Op.equalIn (9999 + 1) T _ _).run P w = _
  rw [run_equalIn_struct w 9999 T _ _ (by rw [hfo]; exact hT) hs, hfo]
  exact hf.run 9997 h1 h2 (fun j hj => by simp) (fun j hj => by simp)
theorem sok_eqG {T t' : TypeId} {fs : Array Field} {n : Nat} {x y : Operand} {m k : U.T n} (hg : o.guard = none) (ho : o.op = .binOp .eql T x y t') (hT : P.underlying T = some (.struct fs)) (hs : P.stoodInHeld T = false)
    (hf : EqG P U fs.toList 0 (U.body n)) (hq : P.eqGuardType P.depth T = false) (hx : Opd U rs x (.p (.named n) m)) (hy : Opd U rs y (.p (.named n) k)) :
    SOk U O P ops o { rs := rs, ws := .p .bool (eqG U (U.body n) (U.out n m) (U.out n k)) } :=
  sok_v hg _ (fun _ => exec_bin ho) fun S ι w a hrs _ => by
    obtain ⟨c1, r1, e1⟩ := hx.ev hrs
    obtain ⟨c2, r2, e2⟩ := hy.ev hrs
    refine ⟨.bool (eqG U (U.body n) (U.out n m) (U.out n k)), ?_, VV.bool_iff.2 rfl⟩
    rw [e1, e2]
    simp only [mkV, Ty.isAgg, Sem.run_bind, eqGuard_agg hq, Result.andThen_ok, binOp, run_eqStructG hT hs hf r1 r2, Sem.run_pure]
theorem sok_neG {T t' : TypeId} {fs : Array Field} {n : Nat} {x y : Operand} {m k : U.T n} (hg : o.guard = none) (ho : o.op = .binOp .neq T x y t') (hT : P.underlying T = some (.struct fs)) (hs : P.stoodInHeld T = false)
    (hf : EqG P U fs.toList 0 (U.body n)) (hq : P.eqGuardType P.depth T = false) (hx : Opd U rs x (.p (.named n) m)) (hy : Opd U rs y (.p (.named n) k)) :
    SOk U O P ops o { rs := rs, ws := .p .bool (!(eqG U (U.body n) (U.out n m) (U.out n k))) } :=
  sok_v hg _ (fun _ => exec_bin ho) fun S ι w a hrs _ => by
    obtain ⟨c1, r1, e1⟩ := hx.ev hrs
    obtain ⟨c2, r2, e2⟩ := hy.ev hrs
    refine ⟨.bool (!(eqG U (U.body n) (U.out n m) (U.out n k))), ?_, VV.bool_iff.2 rfl⟩
    rw [e1, e2]
    simp only [mkV, Ty.isAgg, Sem.run_bind, eqGuard_agg hq, Result.andThen_ok, binOp, run_eqStructG hT hs hf r1 r2, Sem.run_pure]
end

/-! ### rows that a library function makes, turns, takes -/
section
variable {U : Univ} {O : Out} {S S' : Nat → Prop} {ι ι' : Lay} {w w' : World} {t : Ty}
theorem Nx.rowBlk {s : LSpec U} {E : TypeId} {xs : List (t.den U.T)} {v' : Value} {n d : Nat} {news : List Value} (hrow : w'.ownsRow w.heap.size E (t.width U.wd) v' n news) (hb : RowKit.Below w.heap.size w w')
    (hn : n = xs.length) (hcb : s.cb = []) (hpb : s.pb = [(d, .row E t xs false)]) (hnn : s.nn = [d]) (hlt : ∀ b, S b → b < w.heap.size)
    (hel : ∀ (i : Nat) (h : i < xs.length), ∃ cs, Rd U O S w t xs[i] cs ∧ ∀ j, j < t.width U.wd → news[i * t.width U.wd + j]? = cs[j]?) :
    ∃ ι', Nx U O s S ι w S ι' w' ∧ VV U O S ι' w' (.vec d (t.width U.wd) 0 xs.length) v' := by
  subst hn
  have hl := hrow.lt
  obtain ⟨hlen, ⟨rfl, h0⟩ | ⟨g, cap, cur, rfl, hg, hh, hcap, hmx, hsz, htk⟩⟩ := hrow
  · have : xs = [] := List.eq_nil_of_length_eq_zero h0
    subst this
    refine ⟨fun m => if m = d then none else ι m, ⟨hb.os, hb.tape, hb.output, hb.size, fun _ h => h, fun _ h => .inl h, fun b h => Nat.lt_of_lt_of_le (hlt b h) hb.size, fun b hb' _ => hb.block b hb', fun m hm => ?_, fun x hx => ?_, fun m hm b c hbc => ?_, fun m hm m' hm' hne => ?_⟩, ?_⟩
    · rw [hnn] at hm; exact if_neg (by simpa using hm)
    · rw [hpb] at hx; simp at hx; subst hx
      exact .inl ⟨by simp, rfl, rfl⟩
    · rw [hpb] at hm; simp [nm] at hm; subst hm; simp at hbc
    · rw [hpb] at hm hm'; simp [nm] at hm hm'; subst hm hm'; exact absurd rfl hne
    · exact .inl ⟨by simp, rfl, rfl, rfl⟩
  · have hgl : g < w'.heap.size := (Array.getElem?_eq_some_iff.1 hh).1
    refine ⟨fun m => if m = d then some (g, cap) else ι m, ⟨hb.os, hb.tape, hb.output, hb.size, fun _ h => h, fun _ h => .inl h, fun b h => Nat.lt_of_lt_of_le (hlt b h) hb.size, fun b hb' _ => hb.block b hb', fun m hm => ?_, fun x hx => ?_, fun m hm b c hbc => ?_, fun m hm m' hm' hne => ?_⟩, ?_⟩
    · rw [hnn] at hm; exact if_neg (by simpa using hm)
    · rw [hpb] at hx; simp at hx; subst hx
      refine .inr ⟨g, cap, cur, fun i => if h : i < xs.length then (hel i h).choose else [], by simp, hh, hsz, hmx, hcap, by simp, fun i h => ?_, fun i j hi hj => ?_⟩
      · simp only [h, dif_pos]
        exact (hel i h).choose_spec.1.mono (fun b hS => hb.block b (hlt b hS)) fun _ h => h
      · simp only [hi, dif_pos]
        rw [← (hel i hi).choose_spec.2 j hj, ← htk, List.getElem?_take_of_lt (by
          have : (i + 1) * t.width U.wd ≤ xs.length * t.width U.wd := Nat.mul_le_mul_right _ hi
          rw [Nat.succ_mul] at this; omega), Array.getElem?_toList]
    · rw [hpb] at hm; simp [nm] at hm; subst hm
      simp at hbc; obtain ⟨rfl, rfl⟩ := hbc
      exact ⟨fun hS => absurd (hlt _ hS) (by omega), hgl, .inl hg⟩
    · rw [hpb] at hm hm'; simp [nm] at hm hm'; subst hm hm'; exact absurd rfl hne
    · exact .inr ⟨g, cap, 0, by simp, by omega, by simp, .inl (by simp)⟩
/-- An owned row whose block is turned in place, with new blocks behind. -/
theorem Nx.rowPut {s : LSpec U} {E : TypeId} {xs ys : List (t.den U.T)} {d b c : Nat} {fx : Bool} (hcb : s.cb = [(d, .row E t xs fx)]) (hpb : s.pb = [(d, .row E t ys fx)]) (hι : ι d = some (b, c)) (hS : ¬ S b) (hbl : b < w.heap.size)
    (hlt : ∀ b, S b → b < w.heap.size) (h1 : w'.os = w.os) (h2 : w'.tape = w.tape) (h3 : w'.output = w.output) (h4 : w.heap.size ≤ w'.heap.size) (hk : ∀ k, k < w.heap.size → k ≠ b → w'.heap[k]? = w.heap[k]?)
    (hB : BR U O S ι w' d (.row E t ys fx)) : Nx U O s S ι w S ι w' := by
  refine ⟨h1, h2, h3, h4, fun _ h => h, fun _ h => .inl h, fun b' h => Nat.lt_of_lt_of_le (hlt b' h) h4, fun b' hb' hne => hk b' hb' fun e => ?_, fun _ _ => rfl, fun x hx => ?_, fun m hm b' c' hbc => ?_, fun m hm m' hm' hne => ?_⟩
  · exact hne d (by rw [hcb]; simp [nm]) c (by rw [hι, e])
  · rw [hpb] at hx; simp at hx; subst hx; exact hB
  · rw [hpb] at hm; simp [nm] at hm; subst hm
    rw [hι] at hbc; obtain ⟨rfl, rfl⟩ : b = b' ∧ c = c' := by simpa using hbc
    exact ⟨hS, by omega, .inr ⟨m, by rw [hcb]; simp [nm], c, hι⟩⟩
  · rw [hpb] at hm hm'; simp [nm] at hm hm'; subst hm hm'; exact absurd rfl hne
/-- An owned row that is data from now on. -/
theorem Nx.rowTake {s : LSpec U} {E : TypeId} {xs : List (t.den U.T)} {d b c : Nat} {fx : Bool} (hcb : s.cb = [(d, .row E t xs fx)]) (hpb : s.pb = []) (hι : ι d = some (b, c)) (hbl : b < w.heap.size)
    (hlt : ∀ b, S b → b < w.heap.size) (h1 : w'.os = w.os) (h2 : w'.tape = w.tape) (h3 : w'.output = w.output) (h4 : w.heap.size ≤ w'.heap.size) (hk : ∀ k, k < w.heap.size → k ≠ b → w'.heap[k]? = w.heap[k]?) :
    Nx U O s S ι w (fun x => S x ∨ x = b) ι w' := by
  refine ⟨h1, h2, h3, h4, fun _ h => .inl h, fun x h => ?_, fun x h => ?_, fun b' hb' hne => hk b' hb' fun e => ?_, fun _ _ => rfl, by simp [hpb], by simp [hpb, nm], by simp [hpb, nm]⟩
  · rcases h with h | rfl
    · exact .inl h
    · exact .inr (.inr ⟨d, by rw [hcb]; simp [nm], c, hι⟩)
  · rcases h with h | rfl
    · exact Nat.lt_of_lt_of_le (hlt x h) h4
    · omega
  · exact hne d (by rw [hcb]; simp [nm]) c (by rw [hι, e])

/-! ### texts in a row: the shelf's words -/
theorem put_at {α : Type} [Inhabited α] {enc : α → Value} {b off n : Nat} {d : Array α} {os : Array Obj} {arr : Array Value} {E : TypeId} {fr : Nat × Nat} (h : w.heap[b]? = some (.cells arr E fr)) :
    (Sort.grow (Sort.putRow enc (Sort.ahead w n) b off d) os).heap[b]? = some (.cells (Sort.putCells enc off d arr) E fr) := by
  have hl : b < w.heap.size := (Array.getElem?_eq_some_iff.1 h).1
  rw [Sort.heap_grow_old _ _ (by simp [Sort.putRow, Sort.mapBlock, Sort.ahead]; exact hl)]
  simp only [Sort.putRow, Sort.mapBlock, Sort.ahead, Array.getElem?_modify, if_true, h, Option.map_some, Sort.onCells]
theorem put_ne {α : Type} [Inhabited α] {enc : α → Value} {b off n k : Nat} {d : Array α} {os : Array Obj} (hk : k < w.heap.size) (hne : k ≠ b) :
    (Sort.grow (Sort.putRow enc (Sort.ahead w n) b off d) os).heap[k]? = w.heap[k]? := by
  rw [Sort.heap_grow_old _ _ (by simp [Sort.putRow, Sort.mapBlock, Sort.ahead]; exact hk)]
  simp only [Sort.putRow, Sort.mapBlock, Sort.ahead, Array.getElem?_modify, if_neg (fun e => hne e.symm : ¬ b = k)]
theorem put_get {α : Type} [Inhabited α] {enc : α → Value} {d : Array α} {arr : Array Value} {j : Nat} (hj : j < d.size) (ha : j < arr.size) : (Sort.putCells enc 0 d arr)[j]? = some (enc d[j]!) := by
  simp only [Sort.putCells, Array.getElem?_mapIdx]
  rw [Array.getElem?_eq_getElem ha, Option.map_some, if_pos (by omega)]; simp
theorem put_size {α : Type} [Inhabited α] {enc : α → Value} {off : Nat} {d : Array α} {arr : Array Value} : (Sort.putCells enc off d arr).size = arr.size := by simp [Sort.putCells]
end
end Go.AM

namespace Go.AM
open Go
set_option linter.unusedVariables false
section
variable {U : Univ} {O : Out}
theorem Conv.openS {st : St U} {q : Bool} (t n : Nat) (hq : q = true) (hin : (t, AVal.opt q n) ∈ st.sl) : Conv U O st ⟨setA st.sl t (.loc n 0), st.hp⟩ := by
  intro B S ι a w hR
  refine ⟨S, ι, { hR with sl := fun x hx => ?_ }⟩
  rcases mem_setA hx with rfl | ⟨h1, _⟩
  · have h := hR.sl _ hin
    simp only [VV] at h ⊢
    exact h.1 hq
  · exact hR.sl x h1
theorem Conv.openB {st : St U} {q : Bool} (n : Nat) (B : Blk U) (hq : q = true) (hin : (n, Blk.opt q B) ∈ st.hp) : Conv U O st ⟨st.sl, setA st.hp n B⟩ := by
  intro B' S ι a w hR
  have hm : ∀ k ∈ nm (setA st.hp n B), k ∈ nm st.hp := fun k hk => by
    obtain ⟨x, hx, rfl⟩ := List.mem_map.1 hk
    rcases mem_setA hx with rfl | ⟨h1, _⟩
    · exact List.mem_map.2 ⟨_, hin, rfl⟩
    · exact List.mem_map.2 ⟨_, h1, rfl⟩
  refine ⟨S, ι, { hR with hp := fun x hx => ?_, own := ⟨fun k hk => hR.own.out k (hm k hk), fun k hk j hj => hR.own.sep k (hm k hk) j (hm j hj)⟩, mine := fun k hk => hR.mine k (hm k hk) }⟩
  rcases mem_setA hx with rfl | ⟨h1, _⟩
  · exact hR.hp _ hin hq
  · exact hR.hp x h1
end
end Go.AM

namespace Go.AM
open Go Go.RowKit Go.Sort Go.Proofs
set_option linter.unusedVariables false
theorem halloc_new (w : World) (o : Obj) : (w.alloc o).heap[w.heap.size]? = some o := by
  show (w.heap.push o)[w.heap.size]? = _
  simp
theorem halloc_old (w : World) (o : Obj) (b : Nat) (h : b < w.heap.size) : (w.alloc o).heap[b]? = w.heap[b]? := by
  show (w.heap.push o)[b]? = _
  rw [Array.getElem?_push_lt h, Array.getElem?_eq_getElem h]
section
variable {U : Univ} {O : Out} {S : Nat → Prop} {ι : Lay} {w w' : World}
theorem row_frozen {b k : Nat} {arr : Array Value} {E : TypeId} (h : w.heap[b]? = some (.cells arr E (0, 0))) : w.frozen? ⟨b, k, none⟩ = false := by simp [World.frozen?, h]
/-- What is known of an owned row of texts. -/
theorem row_of {d E : Nat} {xs : List (List UInt8)} {fx : Bool} (hB : BR U O S ι w d (.row E .str xs fx)) {u : Value} (hu : VV U O S ι w (.vec d 1 0 xs.length) u) :
    (ι d = none ∧ xs = [] ∧ fx = false ∧ u = .slice none 0 0) ∨ ∃ (b c : Nat) (arr : Array Value), ι d = some (b, c) ∧ u = .slice (some ⟨b, 0, none⟩) xs.length c ∧ w.heap[b]? = some (.cells arr E (0, 0)) ∧ arr.size = c ∧ c ≤ maxLen ∧ xs.length ≤ c ∧ (fx = true → xs.length = c) ∧ Holds encStr w b 0 xs.toArray := by
  rcases hB with ⟨h1, h2, h3⟩ | ⟨b, c, arr, cs, h1, h2, h3, h4, h5, h6, h7, h8⟩
  · rcases hu with ⟨_, _, _, rfl⟩ | ⟨b, c, o, g1, _⟩
    · exact .inl ⟨h1, h2, h3, rfl⟩
    · rw [h1] at g1; cases g1
  · rcases hu with ⟨g1, _⟩ | ⟨b', c', o, g1, g2, g3, g4⟩
    · rw [h1] at g1; cases g1
    · rw [h1] at g1
      obtain ⟨rfl, rfl⟩ : b = b' ∧ c = c' := by simpa using g1
      have ho : o = 0 := by rcases g4 with h | h <;> omega
      subst ho
      refine .inr ⟨b, c, arr, h1, by simpa using g3, h2, by simpa [Ty.width] using h3, h4, h5, h6, fun j hj => ⟨?_, row_frozen h2⟩⟩
      have hjx : j < xs.length := by simpa using hj
      obtain ⟨q, q1, q2⟩ := rd_strq (h7 j hjx)
      have h9 := h8 j 0 hjx (by simp [Ty.width])
      rw [q2] at h9
      rw [cell_of_row w b _ arr E (0, 0) h2]
      have e : q = ⟨xs[j].toArray⟩ := bytes_ext (by simp; exact q1.symm)
      have e2 : xs.toArray[j]! = xs[j] := by simp [hjx]
      rw [e2, Nat.zero_add]
      simp only [Ty.width, Nat.mul_one, Nat.add_zero, List.getElem?_cons_zero] at h9
      rw [h9, e]
theorem row_to {d E b c : Nat} {ys : List (List UInt8)} {fx : Bool} {arr arr' : Array Value} (h1 : ι d = some (b, c)) (h2 : w.heap[b]? = some (.cells arr' E (0, 0))) (h3 : arr'.size = c) (h4 : c ≤ maxLen) (h5 : ys.length ≤ c) (h6 : fx = true → ys.length = c)
    (h7 : ∀ j (h : j < ys.length), arr'[j]? = some (encStr ys[j])) : BR U O S ι w d (.row E .str ys fx) := by
  refine .inr ⟨b, c, arr', fun i => if h : i < ys.length then [encStr ys[i]] else [], h1, h2, by simpa [Ty.width] using h3, h4, h5, h6, fun i h => ?_, fun i j hi hj => ?_⟩
  · have e : (if h : i < ys.length then [encStr ys[i]] else ([] : List Value)) = [encStr ys[i]] := dif_pos h
    show Rd U O S w .str ys[i] (if h : i < ys.length then [encStr ys[i]] else [])
    rw [e]; exact rd_strof rfl
  · obtain rfl : j = 0 := by simpa [Ty.width] using hj
    have e : (if h : i < ys.length then [encStr ys[i]] else ([] : List Value)) = [encStr ys[i]] := dif_pos hi
    show _ = (if h : i < ys.length then [encStr ys[i]] else ([] : List Value))[0]?
    rw [e]
    simp only [Ty.width, Nat.mul_one, Nat.add_zero, List.getElem?_cons_zero]
    exact h7 i hi
theorem Nx.withCb {s : LSpec U} {S' : Nat → Prop} {ι' : Lay} (h : Nx U O s S ι w S' ι' w') (h1 : s.cb = []) (h2 : s.pb = []) (bs : List (Nat × Blk U)) : Nx U O { s with cb := bs } S ι w S' ι' w' := by
  refine ⟨h.os, h.tape, h.output, h.size, h.sub, fun b hb => ?_, h.lt, fun b hb hn => h.keep b hb (by rw [h1]; simp [nm]), h.lay, h.blk, by simp [h2, nm], h.sep⟩
  rcases h.new b hb with h | h | ⟨m, hm, _⟩
  · exact .inl h
  · exact .inr (.inl h)
  · rw [h1] at hm; simp [nm] at hm
/-- Texts sorted in place. -/
theorem sort_nx {s : LSpec U} {d E b c n : Nat} {xs ys : List (List UInt8)} {os : Array Obj} {arr : Array Value} (hcb : s.cb = [(d, .row E .str xs false)]) (hpb : s.pb = [(d, .row E .str ys false)])
    (hι : ι d = some (b, c)) (hh : w.heap[b]? = some (.cells arr E (0, 0))) (hsz : arr.size = c) (hmx : c ≤ maxLen) (hlen : ys.length = xs.length) (hc : xs.length ≤ c) (hS : ¬ S b) (hlt : ∀ b, S b → b < w.heap.size)
    (hw : w' = grow (putRow encStr (Go.Sort.ahead w n) b 0 ys.toArray) os) : Nx U O s S ι w S ι w' := by
  subst hw
  have hbl : b < w.heap.size := (Array.getElem?_eq_some_iff.1 hh).1
  refine Nx.rowPut hcb hpb hι hS hbl hlt rfl rfl rfl (by simp [putRow, mapBlock, Go.Sort.ahead]) (fun k hk hne => put_ne hk hne) ?_
  refine row_to (arr := arr) hι (put_at hh) (by rw [put_size]; exact hsz) hmx (by omega) (by simp) fun j hj => ?_
  rw [put_get (by simpa using hj) (by omega)]
  simp [hj]
/-- Texts compacted in place, and taken. -/
theorem compact_len (zs : List (List UInt8)) : (Lib.compact zs).length ≤ zs.length := by
  unfold Lib.compact Lib.compactUpTo
  rw [List.length_map]
  exact Nat.le_trans (List.length_filter_le _ _) (by simp)
theorem compact_nx {s : LSpec U} {d E b c n m : Nat} {xs ys : List (List UInt8)} {arr : Array Value} (hcb : s.cb = [(d, .row E .str xs false)]) (hpb : s.pb = [])
    (hι : ι d = some (b, c)) (hh : w.heap[b]? = some (.cells arr E (0, 0))) (hsz : arr.size = c) (hlen : ys.length ≤ c) (hlt : ∀ b, S b → b < w.heap.size)
    (hw : w' = putRow encStr (Go.Sort.ahead w n) b 0 (ys ++ List.replicate m []).toArray) :
    Nx U O s S ι w (fun x => S x ∨ x = b) ι w' ∧ VV U O (fun x => S x ∨ x = b) ι w' (.p (.list .str) ys) (.slice (some ⟨b, 0, none⟩) ys.length c) := by
  have hw : w' = grow (putRow encStr (Go.Sort.ahead w n) b 0 (ys ++ List.replicate m []).toArray) #[] := by rw [grow_empty]; exact hw
  subst hw
  have hbl : b < w.heap.size := (Array.getElem?_eq_some_iff.1 hh).1
  refine ⟨Nx.rowTake hcb hpb hι hbl hlt rfl rfl rfl (by simp [putRow, mapBlock, Go.Sort.ahead]) (fun k hk hne => put_ne hk hne), ?_⟩
  refine ⟨_, .list .str ys b 0 c (fun i => if h : i < ys.length then [encStr ys[i]] else []) (.inr rfl) hlen (fun i h => ?_) (fun i j hi hj => ?_), rfl⟩
  · have e : (if h : i < ys.length then [encStr ys[i]] else ([] : List Value)) = [encStr ys[i]] := dif_pos h
    show Rd U O _ _ .str ys[i] (if h : i < ys.length then [encStr ys[i]] else [])
    rw [e]; exact rd_strof rfl
  · obtain rfl : j = 0 := by simpa [Ty.width] using hj
    have e : (if h : i < ys.length then [encStr ys[i]] else ([] : List Value)) = [encStr ys[i]] := dif_pos hi
    show _ = (if h : i < ys.length then [encStr ys[i]] else ([] : List Value))[0]?
    rw [e, cell_of_row _ b _ _ E (0, 0) (put_at hh)]
    simp only [Ty.width, Nat.mul_one, Nat.add_zero, Nat.zero_add, List.getElem?_cons_zero]
    have hi' : i < @List.length (List UInt8) ys := hi
    have hi2 : i < (ys ++ List.replicate m ([] : List UInt8)).length := by rw [List.length_append]; omega
    have hge : (ys ++ List.replicate m ([] : List UInt8)).toArray[i]! = ys[i] := by
      rw [getElem!_pos _ i (by simpa using hi2)]
      simp [List.getElem_append_left hi']
    rw [put_get (by simpa using hi2) (by omega), hge]; rfl
end
end Go.AM

namespace Go.AM
open Go Go.RowKit
set_option linter.unusedVariables false
section
variable {U : Univ} {O : Out} {P : Program} {S : Nat → Prop} {ι : Lay} {w : World} {rs : List (Nat × AVal U)} {a : Act} {ops : Array Oper} {o : Oper}
theorem sok_appendB {T E : TypeId} {t : Ty} {by_ n d : Nat} {xs ys : List (t.den U.T)} {fx : Bool} {x y : Operand} {v : AVal U} {vw : List (Nat × Blk U)} (hg : o.guard = none) (_ : o.dst = some d)
    (ho : o.op = .call { callee := .builtin .append, args := #[x, y], argTypes := #[T, T] }) (hT : RowOk P U T E t by_) (hby : 1 ≤ by_)
    (hx : Opd U rs x (.vec n (t.width U.wd) 0 xs.length)) (hy : Opd U rs y v) (hv : View U vw v (.p (.list t) ys)) (_ : n ∉ nm vw) (hlim : (xs.length + ys.length) * by_ ≤ 140737488355328) :
    SOk U O P ops o { rs := rs, ro := vw, cb := [(n, .row E t xs fx)], ws := .vec d (t.width U.wd) 0 (xs.length + ys.length), pb := [(d, .row E t (xs ++ ys) false)], nn := [d] } := by
  intro S ι w a hlt hgl hrs hro hcb hown K Q hK
  have hB := hcb _ List.mem_cons_self
  obtain ⟨cs, hel, hrow, hplace⟩ := own_of rfl hB (hx.ev hrs) rfl rfl
  obtain ⟨ds, hdl, hys⟩ := view_cells hT.pos hv hro (hy.ev hrs)
  have hsz : (xs.length + ys.length) * by_ ≤ 140737488355328 := hlim
  have h63 : xs.length + ys.length ≤ maxLen := by
    have := Nat.mul_le_mul_left (xs.length + ys.length) hby
    unfold maxLen; omega
  have hnewl : (rowCells ys.length ds).length = ys.length * t.width U.wd := flatMap_range_length _ _ _ fun i hi => (hdl i hi).length
  have hone : ∀ u ∈ rowCells ys.length ds, u.oneCell' = true := fun u hu => by
    obtain ⟨i, hi, hu⟩ := List.mem_flatMap.1 hu
    exact (hdl i (List.mem_range.1 hi)).one u hu
  obtain ⟨v', w', hr, ho', hg', hp⟩ : ∃ v' w', (Builtin.append_ #[T, T] o.type #[a.eval x, a.eval y]).run P w = .ok v' w' ∧
      w'.ownsRow 0 E (t.width U.wd) v' (xs.length + ys.length) (rowCells xs.length cs ++ rowCells ys.length ds) ∧ w.grownBy w' (a.eval x).ownBlock ∧ ∀ b, v'.ownBlock = some b → w.heap.size ≤ b ∨ (a.eval x).ownBlock = some b := by
    rcases hys with ⟨rfl, hu⟩ | ⟨ad, cap, hu, hc⟩
    · obtain ⟨i, z, hi, hz, hs, hb', hzs⟩ := hT.info
      rw [hu]
      refine ⟨_, w, run_append_owned_none (P := P) (ty := o.type) (w := w) 0 T E i (t.width U.wd) hT.sl.under hi _ _ _ hrow, ?_, ⟨rfl, rfl, rfl, Nat.le_refl _, fun _ _ _ => rfl⟩, fun b hb => .inr hb⟩
      simpa [rowCells] using hrow
    · rw [hu]
      exact run_append_place hT hrow ad ys.length cap hnewl hc hone h63 hsz
  have hzl : (xs ++ ys).length = xs.length + ys.length := List.length_append
  have hels : ∀ (i : Nat) (h : i < (xs ++ ys).length), Rd U O S w t (xs ++ ys)[i] (if i < xs.length then cs i else ds (i - xs.length)) := fun i hi => by
    by_cases h : i < xs.length
    · rw [if_pos h, List.getElem_append_left h]; exact hel i h
    · rw [if_neg h, List.getElem_append_right (by omega)]
      exact hdl (i - xs.length) (by omega)
  rw [rowCells_append, ← hzl] at ho'
  obtain ⟨ι', hN, hV⟩ := nx_append (s := { rs := rs, ro := vw, cb := [(n, .row E t xs fx)], ws := .vec d (t.width U.wd) 0 (xs.length + ys.length), pb := [(d, .row E t (xs ++ ys) false)], nn := [d] })
    (ι := ι) rfl rfl hlt hg' (fun b hb => by
      obtain ⟨c, hc⟩ := hplace b hb
      have := hown.out n (by simp) b c hc
      exact ⟨this.1, this.2, n, by simp, c, hc⟩) hels ho' hp
  refine opWp_plain hg ?_
  unfold Oper.wp
  rw [exec_append ho, run_vOf hr]
  rw [hzl] at hV
  exact hK v' S ι' w' hN hV

theorem sok_appendB' {T E : TypeId} {t : Ty} {by_ n d : Nat} {xs ys : List (t.den U.T)} {fx : Bool} {x y : Operand} {v : AVal U} {vw : List (Nat × Blk U)} (hg : o.guard = none) (hd : o.dst = some d)
    (ho : o.op = .call { callee := .builtin .append, args := #[x, y], argTypes := #[T, T] }) (hT : RowOk P U T E t by_) (hby : 1 ≤ by_)
    (hx : Opd U rs x (.vec n (t.width U.wd) 0 xs.length)) (hy : Opd U rs y v) (hv : View U vw v (.p (.list t) ys)) (hvw : n ∉ nm vw) (hlim : (xs.length + ys.length) * by_ ≤ 140737488355328) :
    SOk U O P ops o { rs := rs, ro := vw, cb := [(n, .row E t xs fx)], ws := .vec d (t.width U.wd) 0 (xs ++ ys).length, pb := [(d, .row E t (xs ++ ys) false)], nn := [d] } := by
  rw [List.length_append]
  exact sok_appendB hg hd ho hT hby hx hy hv hvw hlim
end
/-- A list among the arguments is as long as its reading. -/
theorem trod_len {U : Univ} {O : Out} {S : Nat → Prop} {ι : Lay} {H : Type} {enc : TypeId × Value → H} {P : Program} {W : World} {base : Nat} {sp : Nat → Bool} {held : Bool} {m : Nat} {T E : TypeId} {t : Ty} {xs : List (t.den U.T)} {u : Value} {d : DataW H} {p : List MemPlace}
    (hT : P.underlying T = some (.slice E)) (hu : VV U O S ι W (.p (.list t) xs) u) (h : DataW.trod enc P W base sp held m T u.cells.toList = some (d, p)) : xs = [] ∨ ∃ elems spare, d = .slice elems spare ∧ elems.length = xs.length := by
  rcases VV.list_iff.1 hu with ⟨h1, _⟩ | ⟨h1, _⟩ | ⟨b, o, cap, cs, rfl, _⟩
  · exact .inl h1
  · exact .inl h1
  · right
    cases m with
    | zero => simp [DataW.trod] at h
    | succ m =>
      have hc : (Value.slice (some ⟨b, o, none⟩) xs.length cap).cells.toList = [.slice (some ⟨b, o, none⟩) xs.length cap] := by simp [Value.cells]
      rw [hc] at h
      unfold DataW.trod at h
      rw [hT] at h
      simp only at h
      split at h
      · obtain ⟨elems, he, h⟩ := Option.bind_eq_some_iff.1 h
        obtain ⟨rest, hr, h⟩ := Option.map_eq_some_iff.1 h
        obtain ⟨rfl, rfl⟩ : _ ∧ _ := by simpa using h
        refine ⟨_, _, rfl, ?_⟩
        have := mapM_some_length he
        simpa using this
      · cases h
theorem weight_of {H : Type} {P : Program} {T E : TypeId} {elems spare : List (DataW H)} (hT : P.underlying T = some (.slice E)) : ∀ {ts : List TypeId} {ds : List (DataW H)} {i : Nat}, (DataW.weightsEach P ts ds).all (· ≤ reachBytes) = true → ts[i]? = some T → ds[i]? = some (.slice elems spare) → elems.length * P.bytesOf E ≤ reachBytes
  | [], _, _, _, h, _ => by simp at h
  | _ :: _, [], _, _, _, h => by simp at h
  | t :: ts, d :: ds, 0, h, h1, h2 => by
    obtain rfl : t = T := by simpa using h1
    obtain rfl : d = .slice elems spare := by simpa using h2
    have hm : (elems.length + spare.length) * P.bytesOf E ∈ DataW.weightsEach P (t :: ts) (DataW.slice elems spare :: ds) := by
      unfold DataW.weightsEach DataW.weights
      rw [hT]
      simp
    have := List.all_eq_true.1 h _ hm
    have h3 : elems.length * P.bytesOf E ≤ (elems.length + spare.length) * P.bytesOf E := Nat.mul_le_mul_right _ (by omega)
    have h4 : (elems.length + spare.length) * P.bytesOf E ≤ reachBytes := by simpa using this
    omega
  | t :: ts, d :: ds, i + 1, h, h1, h2 => by
    refine weight_of hT (ts := ts) (ds := ds) (i := i) ?_ (by simpa using h1) (by simpa using h2)
    unfold DataW.weightsEach at h
    rw [List.all_append, Bool.and_eq_true] at h
    exact h.2
end Go.AM
