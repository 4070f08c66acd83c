/- The abstract layer, part Z: structs of plain fields compared. -/
import Derived.Test.YthmbbdemecljpaaDoorK11AmY
import Derived.Laws.StructEq
namespace Go.AM
set_option linter.unusedVariables false

/-- Equality of data of numbers, texts, truth values, one behind the other. -/
def eqB {T : Nat → Type} : (t : Ty) → t.den T → t.den T → Bool
  | .bool, x, y => BEq.beq (α := Bool) x y
  | .int _, x, y => BEq.beq (α := Int) x y
  | .str, x, y => BEq.beq (α := List UInt8) x y
  | .unit, _, _ => true
  | .pair a b, x, y => eqB a x.1 y.1 && eqB b x.2 y.2
  | _, _, _ => false

section
variable {U : Univ} {O : Out} {P : Program} {S : Nat → Prop} {ι : Lay} {w : World} {rs : List (Nat × AVal U)} {a : Act} {ops : Array Oper} {o : Oper}

inductive EqOne (P : Program) : TypeId → Ty → Prop
  | bool {F : TypeId} : P.underlying F = some .bool → EqOne P F .bool
  | int {F : TypeId} {k : IntKind} : P.underlying F = some (.int k) → EqOne P F (.int k)
  | str {F : TypeId} : P.underlying F = some .string → EqOne P F .str

inductive EqF (P : Program) (U : Univ) : List Field → Nat → Ty → Prop
  | nil {off : Nat} : EqF P U [] off .unit
  | cons {f : Field} {fs : List Field} {off : Nat} {a b : Ty} : f.name ≠ "_" → f.offset = off → TyOk P U f.type a → EqOne P f.type a → EqF P U fs (off + 1) b → EqF P U (f :: fs) off (.pair a b)

theorem EqOne.run {F : TypeId} {t : Ty} (h : EqOne P F t) (d : Nat) {x y : t.den U.T} {c1 c2 : List Value} (h1 : Rd U O S w t x c1) (h2 : Rd U O S w t y c2) :
    (Op.equalIn (d + 1) F (mkV t.isAgg c1) (mkV t.isAgg c2)).run P w = .ok (eqB t x y) w ∧ c1.length = 1 ∧ c2.length = 1 := by
  cases h with
  | bool hu =>
    cases h1; cases h2
    exact ⟨by simp [Op.equalIn, run_underlying hu, mkV, Ty.isAgg, eqB], rfl, rfl⟩
  | int hu =>
    cases h1; cases h2
    exact ⟨by simp [Op.equalIn, run_underlying hu, mkV, Ty.isAgg, eqB], rfl, rfl⟩
  | str hu =>
    cases h1; cases h2
    exact ⟨by simp [Op.equalIn, run_underlying hu, mkV, Ty.isAgg, eqB, beq_toListBytes, ByteArray.toList_eq], rfl, rfl⟩

theorem EqF.run {fs : List Field} {off : Nat} {t : Ty} (h : EqF P U fs off t) (d : Nat) : ∀ {x y : t.den U.T} {c1 c2 : List Value} {xs ys : Array Value}, Rd U O S w t x c1 → Rd U O S w t y c2 →
    (∀ j, j < c1.length → xs[off + j]? = c1[j]?) → (∀ j, j < c2.length → ys[off + j]? = c2[j]?) → (Op.eqFields (d + 1) xs ys fs).run P w = .ok (eqB t x y) w := by
  induction h with
  | nil => intro x y c1 c2 xs ys _ _ _ _; simp [Op.eqFields, eqB]
  | @cons f fs off a b hn ho ht he _ ih =>
    intro x y c1 c2 xs ys h1 h2 g1 g2
    cases h1 with
    | @pair _ _ x1 x2 p1 p2 a1 a2 =>
    cases h2 with
    | @pair _ _ y1 y2 q1 q2 b1 b2 =>
    obtain ⟨e1, e2, e3⟩ := he.run (P := P) (w := w) d a1 b1
    have hp1 : (part f.type xs f.offset).run P w = .ok (mkV a.isAgg p1) w := run_part ht a1.length (fun j hj => by
      have hl := a1.length
      rw [ho, g1 j (by rw [List.length_append]; omega), List.getElem?_append_left (by omega)]) width_one w
    have hp2 : (part f.type ys f.offset).run P w = .ok (mkV a.isAgg q1) w := run_part ht b1.length (fun j hj => by
      have hl := b1.length
      rw [ho, g2 j (by rw [List.length_append]; omega), List.getElem?_append_left (by omega)]) width_one w
    have hr := ih (xs := xs) (ys := ys) a2 b2 (fun j hj => by
      have := g1 (1 + j) (by rw [List.length_append]; omega)
      rw [show off + 1 + j = off + (1 + j) by omega, this, List.getElem?_append_right (by omega)]; congr 1; omega) (fun j hj => by
      have := g2 (1 + j) (by rw [List.length_append]; omega)
      rw [show off + 1 + j = off + (1 + j) by omega, this, List.getElem?_append_right (by omega)]; congr 1; omega)
    simp only [Op.eqFields, hn, ne_eq, not_false_eq_true, if_true, Sem.run_bind, hp1, hp2, e1, Result.andThen_ok]
    show _ = Result.ok (eqB a x1 y1 && eqB b x2 y2) w
    cases eqB a x1 y1
    · simp
    · simpa using hr

theorem run_eqStruct {T : TypeId} {fs : Array Field} {n : Nat} (hT : P.underlying T = some (.struct fs)) (hs : P.stoodInHeld T = false) (hf : EqF P U fs.toList 0 (U.body n)) {x y : U.T n} {c1 c2 : List Value}
    (h1 : Rd U O S w (.named n) x c1) (h2 : Rd U O S w (.named n) y c2) : (Op.equal T (.agg c1.toArray) (.agg c2.toArray)).run P w = .ok (eqB (U.body n) (U.out n x) (U.out n y)) w := by
  have hfo : P.fieldsOf T = fs := by simp [Program.fieldsOf, hT]
  cases h1 with
  | named _ _ h1 =>
  cases h2 with
  | named _ _ h2 =>
  show (Op.equalIn (9999 + 1) T _ _).run P w = _
  rw [run_equalIn_struct w 9999 T _ _ (by rw [hfo]; exact hT) hs, hfo]
  exact hf.run 9998 h1 h2 (fun j hj => by simp) (fun j hj => by simp)

theorem sok_eqS {T t' : TypeId} {fs : Array Field} {n : Nat} {x y : Operand} {m k : U.T n} (hg : o.guard = none) (ho : o.op = .binOp .eql T x y t') (hT : P.underlying T = some (.struct fs)) (hs : P.stoodInHeld T = false)
    (hf : EqF P U fs.toList 0 (U.body n)) (hq : P.eqGuardType P.depth T = false) (hx : Opd U rs x (.p (.named n) m)) (hy : Opd U rs y (.p (.named n) k)) :
    SOk U O P ops o { rs := rs, ws := .p .bool (eqB (U.body n) (U.out n m) (U.out n k)) } :=
  sok_v hg _ (fun _ => exec_bin ho) fun S ι w a hrs _ => by
    obtain ⟨c1, r1, e1⟩ := hx.ev hrs
    obtain ⟨c2, r2, e2⟩ := hy.ev hrs
    refine ⟨.bool (eqB (U.body n) (U.out n m) (U.out n k)), ?_, VV.bool_iff.2 rfl⟩
    rw [e1, e2]
    simp only [mkV, Ty.isAgg, Sem.run_bind, eqGuard_agg hq, Result.andThen_ok, binOp, run_eqStruct hT hs hf r1 r2, Sem.run_pure]

theorem sok_neS {T t' : TypeId} {fs : Array Field} {n : Nat} {x y : Operand} {m k : U.T n} (hg : o.guard = none) (ho : o.op = .binOp .neq T x y t') (hT : P.underlying T = some (.struct fs)) (hs : P.stoodInHeld T = false)
    (hf : EqF P U fs.toList 0 (U.body n)) (hq : P.eqGuardType P.depth T = false) (hx : Opd U rs x (.p (.named n) m)) (hy : Opd U rs y (.p (.named n) k)) :
    SOk U O P ops o { rs := rs, ws := .p .bool (!(eqB (U.body n) (U.out n m) (U.out n k))) } :=
  sok_v hg _ (fun _ => exec_bin ho) fun S ι w a hrs _ => by
    obtain ⟨c1, r1, e1⟩ := hx.ev hrs
    obtain ⟨c2, r2, e2⟩ := hy.ev hrs
    refine ⟨.bool (!(eqB (U.body n) (U.out n m) (U.out n k))), ?_, VV.bool_iff.2 rfl⟩
    rw [e1, e2]
    simp only [mkV, Ty.isAgg, Sem.run_bind, eqGuard_agg hq, Result.andThen_ok, binOp, run_eqStruct hT hs hf r1 r2, Sem.run_pure]
end
end Go.AM
