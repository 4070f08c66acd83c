/- The abstract layer, part D: operations that only reckon. -/
import Derived.Test.YthmbbdemecljpaaDoorK11AmC
import Derived.Laws.Strings
import Derived.Laws.Slices
import Derived.WalkArith
namespace Go.AM

section
variable {U : Univ} {O : Out} {S : Nat → Prop} {ι : Lay} {w : World}

theorem VV.bool_iff {b : Bool} {u : Value} : VV U O S ι w (.p .bool b) u ↔ u = .bool b := by
  simp only [VV]
  constructor
  · rintro ⟨cs, h, rfl⟩
    cases h; rfl
  · rintro rfl; exact ⟨_, .bool b, rfl⟩

theorem VV.int_iff {k : IntKind} {n : Int} {u : Value} : VV U O S ι w (.p (.int k) n) u ↔ u = .int k n := by
  simp only [VV]
  constructor
  · rintro ⟨cs, h, rfl⟩
    cases h; rfl
  · rintro rfl; exact ⟨_, .int k n, rfl⟩

theorem VV.str_iff {s : List UInt8} {u : Value} : VV U O S ι w (.p .str s) u ↔ ∃ b : ByteArray, u = .string b ∧ b.data.toList = s := by
  simp only [VV]
  constructor
  · rintro ⟨cs, h, rfl⟩
    cases h with
    | str b => exact ⟨b, rfl, rfl⟩
  · rintro ⟨b, rfl, rfl⟩; exact ⟨_, .str b, rfl⟩

theorem VV.unit_iff {u : Value} : VV U O S ι w (.p .unit ()) u ↔ u = .agg #[] := by
  simp only [VV]
  constructor
  · rintro ⟨cs, h, rfl⟩
    cases h; rfl
  · rintro rfl; exact ⟨_, .unit, rfl⟩

/-- A slice's value that reads as a list. -/
theorem VV.list_iff {t : Ty} {xs : List (t.den U.T)} {u : Value} : VV U O S ι w (.p (.list t) xs) u ↔
    (xs = [] ∧ u = .slice none 0 0) ∨ (xs = [] ∧ ∃ a cap, u = .slice (some a) 0 cap) ∨ ∃ (b o cap : Nat) (cs : Nat → List Value), u = .slice (some ⟨b, o, none⟩) xs.length cap ∧ S b ∧ xs.length ≤ cap ∧
      (∀ (i : Nat) (h : i < xs.length), Rd U O S w t xs[i] (cs i)) ∧ ∀ i j : Nat, i < xs.length → j < t.width U.wd → w.cell? ⟨b, o + (i * t.width U.wd + j), none⟩ = (cs i)[j]? := by
  simp only [VV]
  constructor
  · rintro ⟨cs, h, rfl⟩
    cases h with
    | lnil => exact .inl ⟨rfl, rfl⟩
    | lemp _ a cap => exact .inr (.inl ⟨rfl, a, cap, rfl⟩)
    | list _ _ b o cap cs hS hcap hel hc => exact .inr (.inr ⟨b, o, cap, cs, rfl, hS, hcap, hel, hc⟩)
  · rintro (⟨rfl, rfl⟩ | ⟨rfl, a, cap, rfl⟩ | ⟨b, o, cap, cs, rfl, hS, hcap, hel, hc⟩)
    · exact ⟨_, .lnil t, rfl⟩
    · exact ⟨_, .lemp t a cap, rfl⟩
    · exact ⟨_, .list t xs b o cap cs hS hcap hel hc, rfl⟩
end

/-- What an operand is, abstractly. -/
inductive Opd (U : Univ) : List (Nat × AVal U) → Operand → AVal U → Prop
  | tmp {rs : List (Nat × AVal U)} {t : Nat} {v : AVal U} (h : (t, v) ∈ rs) : Opd U rs (.tmp t) v
  | int (rs : List (Nat × AVal U)) (k : IntKind) (n : Int) : Opd U rs (.const (.int k n)) (.p (.int k) n)
  | bool (rs : List (Nat × AVal U)) (b : Bool) : Opd U rs (.const (.bool b)) (.p .bool b)
  | str (rs : List (Nat × AVal U)) (b : ByteArray) : Opd U rs (.const (.string b)) (.p .str b.data.toList)
  | lit (rs : List (Nat × AVal U)) (v : Value) (h : v.oneCell' = true) : Opd U rs (.const v) (.lit v)
  | lnil (rs : List (Nat × AVal U)) (t : Ty) : Opd U rs (.const (.slice none 0 0)) (.p (.list t) ([] : List (t.den U.T)))
  | err0 (rs : List (Nat × AVal U)) : Opd U rs (.const .nilIface) (.p .err (0 : Nat))
  | func (rs : List (Nat × AVal U)) (f : FuncId) : Opd U rs (.func f) (.clo f [])
  | glob (rs : List (Nat × AVal U)) (g : Nat) : Opd U rs (.global g) (.lit (.pointer (some ⟨g, 0, none⟩)))
  | data (rs : List (Nat × AVal U)) (t : Ty) (x : t.den U.T) (v : Value) (h : ∀ O S w, ∃ cs, Rd U O S w t x cs ∧ v = mkV t.isAgg cs) : Opd U rs (.const v) (.p t x)
  | junk (rs : List (Nat × AVal U)) (x : Operand) : Opd U rs x .junk

section
variable {U : Univ} {O : Out} {P : Program} {S : Nat → Prop} {ι : Lay} {w : World} {rs : List (Nat × AVal U)} {a : Act} {ops : Array Oper} {o : Oper}

theorem Opd.ev {x : Operand} {v : AVal U} (h : Opd U rs x v) (hr : ∀ x ∈ rs, VV U O S ι w x.2 (a.tmps.getD x.1 undef)) : VV U O S ι w v (a.eval x) := by
  cases h with
  | tmp h => exact hr _ h
  | int k n => exact VV.int_iff.2 rfl
  | bool b => exact VV.bool_iff.2 rfl
  | str b => exact VV.str_iff.2 ⟨b, rfl, rfl⟩
  | lit v h => simp [VV, Act.eval, h]
  | lnil t => exact VV.list_iff.2 (.inl ⟨rfl, rfl⟩)
  | err0 => exact ⟨_, .err0, rfl⟩
  | func f => exact ⟨[], rfl, rfl⟩
  | glob g => exact ⟨rfl, rfl⟩
  | data t x v h => exact h O S w
  | junk => exact trivial

theorem Nx.refl (s : LSpec U) (_ : s.cb = []) (hpb : s.pb = []) (hlt : ∀ b, S b → b < w.heap.size) : Nx U O s S ι w S ι w :=
  ⟨rfl, rfl, rfl, Nat.le_refl _, fun _ h => h, fun _ h => .inl h, hlt, fun _ _ _ => rfl, fun _ _ => rfl, by simp [hpb], by simp [hpb], by simp [hpb]⟩

/-- An operation that reckons a value and leaves the world. -/
theorem sok_val {ro : List (Nat × Blk U)} {v : AVal U} (hg : o.guard = none)
    (h : ∀ (S : Nat → Prop) (ι : Lay) (w : World) (a : Act), (∀ x ∈ rs, VV U O S ι w x.2 (a.tmps.getD x.1 undef)) → (∀ x ∈ ro, BR U O S ι w x.1 x.2) →
      ∃ u, (execOp a.eval o).run P w = .ok (.value u) w ∧ VV U O S ι w v u) : SOk U O P ops o { rs := rs, ro := ro, ws := v } := by
  intro S ι w a hlt hgl hrs hro hcb hown K Q hK
  obtain ⟨u, hu, hv⟩ := h S ι w a hrs hro
  refine opWp_plain hg ?_
  unfold Oper.wp
  rw [hu]
  exact hK u S ι w (Nx.refl _ rfl rfl hlt) hv

theorem sok_move {x : Operand} {v : AVal U} (hg : o.guard = none) (ho : o.op = .move x ∨ o.op = .assign x) (hx : Opd U rs x v) : SOk U O P ops o { rs := rs, ws := v } :=
  sok_val hg fun S ι w a hr _ => ⟨a.eval x, by rcases ho with ho | ho <;> simp [execOp, ho], hx.ev hr⟩

theorem sok_pickT {c x y : Operand} {b : Bool} {v : AVal U} (hg : o.guard = none) (ho : o.op = .pick c x y) (hc : Opd U rs c (.p .bool b)) (hb : b = true) (hv : Opd U rs x v) :
    SOk U O P ops o { rs := rs, ws := v } :=
  sok_val hg fun S ι w a hr _ => ⟨a.eval x, by
    have := VV.bool_iff.1 (hc.ev hr)
    simp [execOp, ho, this, asBool, hb], hv.ev hr⟩
theorem sok_pickF {c x y : Operand} {b : Bool} {v : AVal U} (hg : o.guard = none) (ho : o.op = .pick c x y) (hc : Opd U rs c (.p .bool b)) (hb : b = false) (hv : Opd U rs y v) :
    SOk U O P ops o { rs := rs, ws := v } :=
  sok_val hg fun S ι w a hr _ => ⟨a.eval y, by
    have := VV.bool_iff.1 (hc.ev hr)
    simp [execOp, ho, this, asBool, hb], hv.ev hr⟩

theorem sok_pick {c x y : Operand} {b : Bool} {v : AVal U} (hg : o.guard = none) (ho : o.op = .pick c x y) (hc : Opd U rs c (.p .bool b))
    (hv : Opd U rs (if b then x else y) v) : SOk U O P ops o { rs := rs, ws := v } :=
  sok_val hg fun S ι w a hr _ => ⟨a.eval (if b then x else y), by
    have := VV.bool_iff.1 (hc.ev hr)
    simp [execOp, ho, this, asBool]
    cases b <;> rfl, hv.ev hr⟩

def vOf (s : Sem Value) : Sem Next := do pure (.value (← s))
theorem run_vOf {s : Sem Value} {u : Value} {w' : World} (h : s.run P w = .ok u w') : (vOf s).run P w = .ok (.value u) w' := by
  unfold vOf
  simp only [Sem.run_bind, h, Result.andThen_ok, Sem.run_pure]

theorem exec_un {ρ : Operand → Value} {op : UnOp} {t : TypeId} {x : Operand} (ho : o.op = .unOp op t x) : execOp ρ o = vOf (Op.unary op (ρ x)) := by unfold execOp; rw [ho]; rfl
theorem exec_bin {ρ : Operand → Value} {op : BinOp} {t t' : TypeId} {x y : Operand} (ho : o.op = .binOp op t x y t') :
    execOp ρ o = vOf (do eqGuard op t x y (ρ x) (ρ y); binOp op t (ρ x) (ρ y)) := by unfold execOp; rw [ho]; rfl
theorem exec_extract {ρ : Operand → Value} {x : Operand} {i : Nat} (ho : o.op = .extract x i) : execOp ρ o = vOf (Instr.extract (ρ x) i) := by unfold execOp; rw [ho]; rfl
theorem exec_index {ρ : Operand → Value} {t : TypeId} {x y : Operand} (ho : o.op = .index t x y) : execOp ρ o = vOf (Instr.index t (ρ x) (ρ y)) := by unfold execOp; rw [ho]; rfl
theorem exec_slice {ρ : Operand → Value} {t : TypeId} {x : Operand} {lo hi mx : Option Operand} (ho : o.op = .slice t x lo hi mx) : execOp ρ o = vOf (Instr.sliceAt t (ρ x) (lo.map ρ) (hi.map ρ) (mx.map ρ)) := by unfold execOp; rw [ho]; rfl
theorem exec_convert {ρ : Operand → Value} {t t' : TypeId} {x : Operand} (ho : o.op = .convert t t' x) : execOp ρ o = vOf (convert t t' (ρ x)) := by unfold execOp; rw [ho]; rfl
theorem exec_builtin {ρ : Operand → Value} {b : Builtin} {as : Array Operand} {ts : Array TypeId} (ho : o.op = .call { callee := .builtin b, args := as, argTypes := ts }) :
    execOp ρ o = builtin b ts o.type (as.map fun | .const _ => true | _ => false) (as.map ρ) := by
  unfold execOp; rw [ho]; rfl

/-- The same, the value's run alone. -/
theorem sok_v {ro : List (Nat × Blk U)} {v : AVal U} (hg : o.guard = none) (X : (Operand → Value) → Sem Value) (ho : ∀ ρ, execOp ρ o = vOf (X ρ))
    (h : ∀ (S : Nat → Prop) (ι : Lay) (w : World) (a : Act), (∀ x ∈ rs, VV U O S ι w x.2 (a.tmps.getD x.1 undef)) → (∀ x ∈ ro, BR U O S ι w x.1 x.2) →
      ∃ u, (X a.eval).run P w = .ok u w ∧ VV U O S ι w v u) : SOk U O P ops o { rs := rs, ro := ro, ws := v } :=
  sok_val hg fun S ι w a hrs hro => by
    obtain ⟨u, h1, h2⟩ := h S ι w a hrs hro
    exact ⟨u, by rw [ho]; exact run_vOf h1, h2⟩

theorem sok_not {t : TypeId} {x : Operand} {b : Bool} (hg : o.guard = none) (ho : o.op = .unOp .not t x) (hx : Opd U rs x (.p .bool b)) :
    SOk U O P ops o { rs := rs, ws := .p .bool (!b) } :=
  sok_v hg _ (fun _ => exec_un ho) fun S ι w a hr _ => ⟨.bool !b, by rw [VV.bool_iff.1 (hx.ev hr)]; rfl, VV.bool_iff.2 rfl⟩

theorem sok_neg {t : TypeId} {x : Operand} {k : IntKind} {n : Int} (hg : o.guard = none) (ho : o.op = .unOp .neg t x) (hx : Opd U rs x (.p (.int k) n)) :
    SOk U O P ops o { rs := rs, ws := .p (.int k) (k.wrap (0 - n)) } :=
  sok_v hg _ (fun _ => exec_un ho) fun S ι w a hr _ => ⟨.int k (k.wrap (0 - n)), by rw [VV.int_iff.1 (hx.ev hr)]; rfl, VV.int_iff.2 rfl⟩

/-- Arithmetic and comparisons of whole numbers. -/
def arith (op : BinOp) (k : IntKind) (a b : Int) : Option Int :=
  match op with
  | .add => some (k.wrap (a + b)) | .sub => some (k.wrap (a - b)) | .mul => some (k.wrap (a * b))
  | .and => some (bits .and k a b) | .or => some (bits .or k a b) | .xor => some (bits .xor k a b) | .andNot => some (bits .andNot k a b)
  | _ => none
def cmpI (op : BinOp) (a b : Int) : Option Bool :=
  match op with
  | .eql => some (a == b) | .neq => some (a != b) | .lss => some (decide (a < b)) | .leq => some (decide (a ≤ b)) | .gtr => some (decide (a > b)) | .geq => some (decide (a ≥ b))
  | _ => none
def cmpS (op : BinOp) (a b : List UInt8) : Option Bool :=
  match op with
  | .eql => some (a == b) | .neq => some (!(a == b)) | .lss => some (Op.bytesLess a b) | .leq => some (Op.bytesLess a b || a == b)
  | .gtr => some (!(Op.bytesLess a b || a == b)) | .geq => some (!(Op.bytesLess a b))
  | _ => none

theorem sok_arith {op : BinOp} {t t' : TypeId} {x y : Operand} {k : IntKind} {m n r : Int} (hg : o.guard = none) (ho : o.op = .binOp op t x y t')
    (hx : Opd U rs x (.p (.int k) m)) (hy : Opd U rs y (.p (.int k) n)) (hr : arith op k m n = some r) : SOk U O P ops o { rs := rs, ws := .p (.int k) r } :=
  sok_v hg _ (fun _ => exec_bin ho) fun S ι w a hrs _ => ⟨.int k r, by
    rw [VV.int_iff.1 (hx.ev hrs), VV.int_iff.1 (hy.ev hrs)]
    cases op <;> simp only [arith, Option.some.injEq, reduceCtorEq] at hr <;> subst hr <;> simp [go_sem, Op.intArith], VV.int_iff.2 rfl⟩

theorem sok_cmp {op : BinOp} {t t' : TypeId} {x y : Operand} {k : IntKind} {m n : Int} {r : Bool} (hg : o.guard = none) (ho : o.op = .binOp op t x y t')
    (hx : Opd U rs x (.p (.int k) m)) (hy : Opd U rs y (.p (.int k) n)) (hr : cmpI op m n = some r) : SOk U O P ops o { rs := rs, ws := .p .bool r } :=
  sok_v hg _ (fun _ => exec_bin ho) fun S ι w a hrs _ => ⟨.bool r, by
    rw [VV.int_iff.1 (hx.ev hrs), VV.int_iff.1 (hy.ev hrs)]
    cases op <;> simp only [cmpI, Option.some.injEq, reduceCtorEq] at hr <;> subst hr <;> simp [go_sem], VV.bool_iff.2 rfl⟩

theorem sok_cmpS {op : BinOp} {t t' : TypeId} {x y : Operand} {m n : List UInt8} {r : Bool} (hg : o.guard = none) (ho : o.op = .binOp op t x y t')
    (hx : Opd U rs x (.p .str m)) (hy : Opd U rs y (.p .str n)) (hr : cmpS op m n = some r) : SOk U O P ops o { rs := rs, ws := .p .bool r } :=
  sok_v hg _ (fun _ => exec_bin ho) fun S ι w a hrs _ => ⟨.bool r, by
    obtain ⟨b, hb, rfl⟩ := VV.str_iff.1 (hx.ev hrs)
    obtain ⟨c, hc, rfl⟩ := VV.str_iff.1 (hy.ev hrs)
    rw [hb, hc]
    cases op <;> simp only [cmpS, Option.some.injEq, reduceCtorEq] at hr <;> subst hr <;> rw [eqGuard_at_string] <;> simp only [Sem.run_bind, Sem.run_pure, Result.andThen_ok] <;>
      simp [binOp, Op.stringOp, ByteArray.toList_eq], VV.bool_iff.2 rfl⟩

theorem run_equal_bool (t : TypeId) (ht : P.underlying t = some .bool) (m n : Bool) (w : World) : (Op.equal t (.bool m) (.bool n)).run P w = .ok (m == n) w := by
  show (Op.equalIn (9999 + 1) t (.bool m) (.bool n)).run P w = _
  unfold Op.equalIn
  rw [Sem.run_bind, run_underlying ht]
  rfl

theorem sok_eqB {t t' : TypeId} {x y : Operand} {m n : Bool} (hg : o.guard = none) (ho : o.op = .binOp .eql t x y t') (ht : P.underlying t = some .bool)
    (hx : Opd U rs x (.p .bool m)) (hy : Opd U rs y (.p .bool n)) : SOk U O P ops o { rs := rs, ws := .p .bool (m == n) } :=
  sok_v hg _ (fun _ => exec_bin ho) fun S ι w a hrs _ => ⟨.bool (m == n), by
    rw [VV.bool_iff.1 (hx.ev hrs), VV.bool_iff.1 (hy.ev hrs), eqGuard_at_bool]
    simp only [binOp, Sem.run_bind, Sem.run_pure, Result.andThen_ok, run_equal_bool t ht], VV.bool_iff.2 rfl⟩

theorem sok_neB {t t' : TypeId} {x y : Operand} {m n : Bool} (hg : o.guard = none) (ho : o.op = .binOp .neq t x y t') (ht : P.underlying t = some .bool)
    (hx : Opd U rs x (.p .bool m)) (hy : Opd U rs y (.p .bool n)) : SOk U O P ops o { rs := rs, ws := .p .bool (!(m == n)) } :=
  sok_v hg _ (fun _ => exec_bin ho) fun S ι w a hrs _ => ⟨.bool (!(m == n)), by
    rw [VV.bool_iff.1 (hx.ev hrs), VV.bool_iff.1 (hy.ev hrs), eqGuard_at_bool]
    simp only [binOp, Sem.run_bind, Sem.run_pure, Result.andThen_ok, run_equal_bool t ht], VV.bool_iff.2 rfl⟩

/-- Two texts put together. -/
theorem sok_cat {t t' : TypeId} {x y : Operand} {m n : List UInt8} (hg : o.guard = none) (ho : o.op = .binOp .add t x y t')
    (hx : Opd U rs x (.p .str m)) (hy : Opd U rs y (.p .str n)) (hr : m.length + n.length ≤ 9223372036854775807) : SOk U O P ops o { rs := rs, ws := .p .str (m ++ n) } :=
  sok_v hg _ (fun _ => exec_bin ho) fun S ι w a hrs _ => by
    obtain ⟨b, hb, rfl⟩ := VV.str_iff.1 (hx.ev hrs)
    obtain ⟨c, hc, rfl⟩ := VV.str_iff.1 (hy.ev hrs)
    refine ⟨.string (b ++ c), ?_, VV.str_iff.2 ⟨b ++ c, rfl, by simp⟩⟩
    rw [hb, hc, eqGuard_at_string]
    have h : ¬ ((b.size + c.size : Nat) : Int) > IntKind.i64.max := by
      rw [IntKind.max_i64]
      simp only [Array.length_toList] at hr
      have h1 : b.size = b.data.size := rfl
      have h2 : c.size = c.data.size := rfl
      omega
    simp only [Sem.run_bind, Sem.run_pure, Result.andThen_ok]
    simp only [binOp, Op.stringOp, if_neg h, Sem.run_pure]

/-- A quotient, a rest: of a divisor that is not 0. -/
theorem sok_extract {x : Operand} {i : Nat} {vs : List (AVal U)} {v : AVal U} (hg : o.guard = none) (ho : o.op = .extract x i) (hx : Opd U rs x (.tup vs)) (hv : vs[i]? = some v) :
    SOk U O P ops o { rs := rs, ws := v } :=
  sok_v hg _ (fun _ => exec_extract ho) fun S ι w a hrs _ => by
    have h := hx.ev hrs
    simp only [VV] at h
    obtain ⟨us, hus, hu⟩ := h
    have key : ∀ (vs : List (AVal U)) (us : List Value) (i : Nat) (v : AVal U), VVs U O S ι w vs us → vs[i]? = some v → ∃ u, us[i]? = some u ∧ VV U O S ι w v u := by
      intro vs
      induction vs with
      | nil => intro us i v _ h; simp at h
      | cons v0 vs ih =>
        intro us i v hvs h
        simp only [VVs] at hvs
        obtain ⟨u, us', rfl, h1, h2⟩ := hvs
        cases i with
        | zero => simp at h; subst h; exact ⟨u, rfl, h1⟩
        | succ i => simpa using ih us' i v h2 (by simpa using h)
    obtain ⟨u, h1, h2⟩ := key vs us i v hus hv
    refine ⟨u, ?_, h2⟩
    rw [hu]
    simp [Instr.extract, h1]

def idx {α : Type} (l : List α) (i : Int) : Option α := if 0 ≤ i then l[i.toNat]? else none
def sub {α : Type} (l : List α) (lo hi : Int) : Option (List α) := if 0 ≤ lo ∧ lo ≤ hi ∧ hi ≤ (l.length : Int) then some ((l.take hi.toNat).drop lo.toNat) else none

/-- A byte of a text. -/
theorem sok_indexS {t : TypeId} {x y : Operand} {k : IntKind} {s : List UInt8} {i : Int} {c : UInt8} (hg : o.guard = none) (ho : o.op = .index t x y) (ht : P.underlying t = some .string)
    (hx : Opd U rs x (.p .str s)) (hy : Opd U rs y (.p (.int k) i)) (hi : idx s i = some c) : SOk U O P ops o { rs := rs, ws := .p (.int .u8) (c.toNat : Int) } :=
  sok_v hg _ (fun _ => exec_index ho) fun S ι w a hrs _ => ⟨.int .u8 (c.toNat : Int), by
    obtain ⟨b, hb, rfl⟩ := VV.str_iff.1 (hx.ev hrs)
    rw [hb, VV.int_iff.1 (hy.ev hrs)]
    unfold idx at hi
    split at hi
    · rename_i h0
      have h2 : b[i.toNat]? = some c := by
        rw [List.getElem?_eq_some_iff] at hi
        obtain ⟨hlt, hc⟩ := hi
        simp only [Array.length_toList] at hlt
        have h1 : i.toNat < b.size := hlt
        rw [getElem?_pos b i.toNat h1]
        rw [← hc]
        rfl
      have h3 : (if 0 ≤ i then b[i.toNat]? else none) = some c := by rw [if_pos h0, h2]
      simp only [Instr.index, asIntOf, Sem.run_bind, Sem.run_pure, Result.andThen_ok, run_underlying ht, h3]
    · exact absurd hi (by simp), VV.int_iff.2 rfl⟩

/-- A bound of a slice expression: given, or left out. -/
inductive Bd (U : Univ) (rs : List (Nat × AVal U)) (d : Int) : Option Operand → Int → Prop
  | no : Bd U rs d none d
  | at {x : Operand} {k : IntKind} {n : Int} : Opd U rs x (.p (.int k) n) → Bd U rs d (some x) n

theorem run_sliceBound (k : IntKind) (n : Int) (y : Nat) (code : BoundsCode) (w : World) (h : 0 ≤ n ∧ n ≤ (y : Int)) : (Instr.sliceBound (.int k n) y code).run P w = .ok n.toNat w := by
  simp only [Instr.sliceBound, asIntOf, Sem.run_bind, Sem.run_pure, Result.andThen_ok, if_pos h]

theorem Bd.ev {d : Int} {x : Option Operand} {n : Int} (h : Bd U rs d x n) (hr : ∀ x ∈ rs, VV U O S ι w x.2 (a.tmps.getD x.1 undef)) : (x = none ∧ n = d) ∨ ∃ y k, x = some y ∧ a.eval y = .int k n := by
  cases h with
  | no => exact .inl ⟨rfl, rfl⟩
  | «at» h => exact .inr ⟨_, _, rfl, VV.int_iff.1 (h.ev hr)⟩

theorem run_sliceBounds (isS : Bool) (len cap : Nat) {lo hi : Option Operand} {l h : Int} (hl : Bd U rs 0 lo l) (hh : Bd U rs (len : Int) hi h)
    (hr : ∀ x ∈ rs, VV U O S ι w x.2 (a.tmps.getD x.1 undef)) (h0 : 0 ≤ l) (h1 : l ≤ h) (h2 : h ≤ (cap : Int)) (w' : World) :
    (Instr.sliceBounds isS len cap (lo.map a.eval) (hi.map a.eval) none).run P w' = .ok (l.toNat, h.toNat, cap) w' := by
  have hb1 : ∀ (k : IntKind) (code : BoundsCode), (Instr.sliceBound (.int k h) cap code).run P w' = .ok h.toNat w' := fun k code => run_sliceBound k h cap code w' ⟨by omega, h2⟩
  have hb2 : ∀ (k : IntKind) (code : BoundsCode), (Instr.sliceBound (.int k l) h.toNat code).run P w' = .ok l.toNat w' := fun k code => run_sliceBound k l h.toNat code w' ⟨h0, by omega⟩
  rcases hh.ev hr with ⟨rfl, rfl⟩ | ⟨y, k, rfl, hy⟩ <;> rcases hl.ev hr with ⟨rfl, rfl⟩ | ⟨y', k', rfl, hy'⟩ <;>
    simp [Instr.sliceBounds, *] at *

theorem toList_extract (b : ByteArray) (l h : Nat) : (b.extract l h).data.toList = (b.data.toList.take h).drop l := by
  rw [ByteArray.data_extract, Array.toList_extract, List.extract_eq_drop_take']

theorem sok_sliceS {t : TypeId} {x : Operand} {lo hi : Option Operand} {s r : List UInt8} {l h : Int} (hg : o.guard = none) (ho : o.op = .slice t x lo hi none) (ht : P.underlying t = some .string)
    (hx : Opd U rs x (.p .str s)) (hl : Bd U rs 0 lo l) (hh : Bd U rs (s.length : Int) hi h) (hr : sub s l h = some r) : SOk U O P ops o { rs := rs, ws := .p .str r } :=
  sok_v hg _ (fun _ => exec_slice ho) fun S ι w a hrs _ => by
    obtain ⟨b, hb, rfl⟩ := VV.str_iff.1 (hx.ev hrs)
    unfold sub at hr
    split at hr
    · rename_i hc
      injection hr with hr
      refine ⟨.string (b.extract l.toNat h.toNat), ?_, VV.str_iff.2 ⟨_, rfl, by rw [toList_extract, hr]⟩⟩
      have hsz : b.data.toList.length = b.size := rfl
      rw [hsz] at hh hc
      rw [hb]
      have hsb := run_sliceBounds (P := P) false b.size b.size hl hh hrs hc.1 hc.2.1 hc.2.2 w
      simp only [Instr.sliceAt, Instr.slice, Sem.run_bind, Result.andThen_ok, run_underlying ht, Option.map_none, Option.isSome_none, Bool.false_eq_true, if_false, Sem.run_pure, hsb]
    · exact absurd hr (by simp)

/-- What the table of types says of a type that is read as t. -/
structure TyOk (P : Program) (U : Univ) (T : TypeId) (t : Ty) : Prop where
  info : ∃ i, P.info? T = some i ∧ i.size = t.width U.wd
  agg : ∃ d, P.underlying T = some d ∧ (match d with | .struct _ | .array _ _ => true | _ => false) = t.isAgg
structure SlOk (P : Program) (U : Univ) (T E : TypeId) (t : Ty) : Prop where
  under : P.underlying T = some (.slice E)
  el : TyOk P U E t

theorem run_sizeOf {T : TypeId} {t : Ty} (h : TyOk P U T t) (w : World) : (sizeOf T).run P w = .ok (t.width U.wd) w := by
  obtain ⟨i, hi, hs⟩ := h.info
  simp [sizeOf, typeInfo, hi, hs]

theorem sok_sliceL {T E : TypeId} {t : Ty} {x : Operand} {lo hi : Option Operand} {s r : List (t.den U.T)} {l h : Int} (hg : o.guard = none) (ho : o.op = .slice T x lo hi none) (ht : SlOk P U T E t)
    (hx : Opd U rs x (.p (.list t) s)) (hl : Bd U rs 0 lo l) (hh : Bd U rs (s.length : Int) hi h) (hr : sub s l h = some r) : SOk U O P ops o { rs := rs, ws := .p (.list t) r } :=
  sok_v hg _ (fun _ => exec_slice ho) fun S ι w a hrs _ => by
    unfold sub at hr
    split at hr
    · rename_i hc
      injection hr with hr
      have hrun : ∀ (base : Option Addr) (cap : Nat), s.length ≤ cap → a.eval x = .slice base s.length cap →
          (Instr.sliceAt T (a.eval x) (lo.map a.eval) (hi.map a.eval) (Option.map a.eval none)).run P w =
            .ok (.slice (if cap = l.toNat then base else base.map (·.add (l.toNat * t.width U.wd))) (h.toNat - l.toNat) (cap - l.toNat)) w := fun base cap hcap hv => by
        have hsb := run_sliceBounds (P := P) true s.length cap hl hh hrs hc.1 hc.2.1 (by omega) w
        rw [hv]
        simp only [Instr.sliceAt, Instr.slice, Sem.run_bind, Result.andThen_ok, run_underlying ht.under, Option.map_none, hsb, run_sizeOf ht.el, Sem.run_pure]
      rcases VV.list_iff.1 (hx.ev hrs) with ⟨rfl, hv⟩ | ⟨rfl, ad, cap, hv⟩ | ⟨b, o', cap, cs, hv, hS, hcap, hel, hcell⟩
      rotate_left
      · have hl0 : l.toNat = 0 := by simp at hc; omega
        have hh0 : h.toNat = 0 := by simp at hc; omega
        refine ⟨_, hrun (some ad) cap (by simp) hv, ?_⟩
        rw [hl0, hh0]
        refine VV.list_iff.2 (.inr (.inl ⟨by rw [← hr]; simp, ad, cap, ?_⟩))
        split <;> simp [Addr.add]
      rotate_left
      · have hl0 : l.toNat = 0 := by simp at hc; omega
        have hh0 : h.toNat = 0 := by simp at hc; omega
        refine ⟨_, hrun none 0 (by simp) hv, ?_⟩
        rw [hl0, hh0]
        refine VV.list_iff.2 (.inl ⟨by rw [← hr]; simp, by simp⟩)
      · refine ⟨_, hrun _ cap hcap hv, ?_⟩
        have hrl : r.length = h.toNat - l.toNat := by rw [← hr]; simp; omega
        rw [← hrl]
        by_cases hlc : cap = l.toNat
        · have hr0 : r = [] := List.eq_nil_of_length_eq_zero (by omega)
          subst hr0
          rw [if_pos hlc]
          exact VV.list_iff.2 (.inr (.inr ⟨b, o', _, cs, rfl, hS, by simp, fun i hi => absurd hi (by simp), fun i j hi => absurd hi (by simp)⟩))
        · rw [if_neg hlc]
          have hri : ∀ (i : Nat) (hi : i < r.length), ∃ h' : l.toNat + i < s.length, r[i] = s[l.toNat + i] := fun i hi => by
            refine ⟨by omega, ?_⟩
            subst hr
            simp
          refine VV.list_iff.2 (.inr (.inr ⟨b, o' + l.toNat * t.width U.wd, cap - l.toNat, fun i => cs (l.toNat + i), ?_, hS, by omega, fun i hi => ?_, fun i j hi hj => ?_⟩))
          · simp [Addr.add_lit]
          · obtain ⟨h', e⟩ := hri i hi
            rw [e]; exact hel _ h'
          · obtain ⟨h', e⟩ := hri i hi
            have := hcell (l.toNat + i) j h' hj
            rw [Nat.add_mul] at this
            rw [← this]
            congr 2
            omega
    · exact absurd hr (by simp)

theorem exec_len {ρ : Operand → Value} {x : Operand} {T : TypeId} (ho : o.op = .call { callee := .builtin .len, args := #[x], argTypes := #[T] }) :
    execOp ρ o = vOf (Builtin.len_ #[T] o.type #[ρ x]) := by rw [exec_builtin ho]; simp [builtin, vOf]

theorem sok_lenS {T : TypeId} {x : Operand} {s : List UInt8} (hg : o.guard = none) (ho : o.op = .call { callee := .builtin .len, args := #[x], argTypes := #[T] }) (ht : P.underlying T = some .string)
    (hx : Opd U rs x (.p .str s)) : SOk U O P ops o { rs := rs, ws := .p (.int .i64) (s.length : Int) } :=
  sok_v hg _ (fun _ => exec_len ho) fun S ι w a hrs _ => by
    obtain ⟨b, hb, rfl⟩ := VV.str_iff.1 (hx.ev hrs)
    refine ⟨.int .i64 (b.data.toList.length : Int), ?_, VV.int_iff.2 rfl⟩
    rw [hb]
    simp [Builtin.len_, run_underlying ht, goInt]

theorem sok_lenL {T E : TypeId} {t : Ty} {x : Operand} {s : List (t.den U.T)} (hg : o.guard = none) (ho : o.op = .call { callee := .builtin .len, args := #[x], argTypes := #[T] })
    (ht : P.underlying T = some (.slice E)) (hx : Opd U rs x (.p (.list t) s)) : SOk U O P ops o { rs := rs, ws := .p (.int .i64) (s.length : Int) } :=
  sok_v hg _ (fun _ => exec_len ho) fun S ι w a hrs _ => by
    refine ⟨.int .i64 (s.length : Int), ?_, VV.int_iff.2 rfl⟩
    rcases VV.list_iff.1 (hx.ev hrs) with ⟨rfl, hv⟩ | ⟨rfl, ad, cap, hv⟩ | ⟨b, o', cap, cs, hv, _⟩ <;> rw [hv] <;> simp [Builtin.len_, run_underlying ht, goInt]

theorem sok_lenV {T E : TypeId} {x : Operand} {n wd off len : Nat} (hg : o.guard = none) (ho : o.op = .call { callee := .builtin .len, args := #[x], argTypes := #[T] })
    (ht : P.underlying T = some (.slice E)) (hx : Opd U rs x (.vec n wd off len)) : SOk U O P ops o { rs := rs, ws := .p (.int .i64) (len : Int) } :=
  sok_v hg _ (fun _ => exec_len ho) fun S ι w a hrs _ => by
    refine ⟨.int .i64 (len : Int), ?_, VV.int_iff.2 rfl⟩
    rcases (by simpa only [VV] using hx.ev hrs : _) with ⟨_, _, rfl, hv⟩ | ⟨b, c, o', _, _, hv, _⟩ <;> rw [hv] <;> simp [Builtin.len_, run_underlying ht, goInt]
end
end Go.AM
