/- The abstract layer, part O: small words for printed certificates. -/
import Derived.Test.YthmbbdemecljpaaDoorK11AmN
namespace Go.AM

theorem bool_cases (b : Bool) : b = true ∨ b = false := by cases b <;> simp
theorem not_of {b c : Bool} (h : b = c) : (!b) = !c := by rw [h]

section
variable {U : Univ} {O : Out} {P : Program} {B : Base}

theorem namesOk_pure {c : CSpec U} (h1 : c.bs = []) (h2 : c.bs' = []) (h3 : c.nn = []) (h4 : AVal.names U c.r = []) : NamesOk c :=
  ⟨by simp [h1], by simp [h3], by simp [h4], by simp [h2], by simp [h2], by simp [h2]⟩

theorem ends_ret {fn : Func} {c : CSpec U} {st : St U} (h : RetV U O P fn st c.r) (h' : ∀ x ∈ c.bs', x ∈ st.hp) : Ends U O P fn c .ret st := ⟨h, h'⟩
theorem ends_normal {fn : Func} {c : CSpec U} {st : St U} (h : RetV U O P fn st c.r) (h' : ∀ x ∈ c.bs', x ∈ st.hp) : Ends U O P fn c .normal st := ⟨h, h'⟩

/-- A nil slice as a list. -/
theorem Conv.nilL {st : St U} (t : Nat) (ty : Ty) (hin : (t, AVal.lit (.slice none 0 0)) ∈ st.sl) : Conv U O st ⟨setA st.sl t (.p (.list ty) ([] : List (ty.den U.T))), st.hp⟩ := by
  intro B S ι a w hR
  refine ⟨S, ι, { hR with sl := fun x hx => ?_ }⟩
  rcases mem_setA hx with rfl | ⟨h1, _⟩
  · exact VV.list_iff.2 (.inl ⟨rfl, (hR.sl _ hin).1⟩)
  · exact hR.sl x h1

/-- Of a row of its own length the length is told no more. -/
theorem Conv.loose {st : St U} (n E : Nat) (ty : Ty) (xs : List (ty.den U.T)) (hin : (n, Blk.row E ty xs true) ∈ st.hp) : Conv U O st ⟨st.sl, setA st.hp n (.row E ty xs false)⟩ := by
  intro B S ι a w hR
  have hm : ∀ k ∈ nm (setA st.hp n (Blk.row E ty xs false)), k ∈ nm st.hp := fun k hk => by
    obtain ⟨x, hx, rfl⟩ := List.mem_map.1 hk
    rcases mem_setA hx with rfl | ⟨h1, _⟩
    · show n ∈ nm st.hp
      exact mem_nm hin
    · exact mem_nm h1
  refine ⟨S, ι, { hR with hp := fun x hx => ?_, own := ⟨fun k hk => hR.own.out k (hm k hk), fun k hk j hj => hR.own.sep k (hm k hk) j (hm j hj)⟩, mine := fun k hk => hR.mine k (hm k hk) }⟩
  rcases mem_setA hx with rfl | ⟨h1, _⟩
  · rcases hR.hp _ hin with ⟨_, _, h3⟩ | ⟨b, c, arr, cs, h1, h2, h3, h4, h5, h6, h7, h8⟩
    · cases h3
    · exact .inr ⟨b, c, arr, cs, h1, h2, h3, h4, h5, (fun h => by cases h), h7, h8⟩
  · exact hR.hp x h1

def descAgg : TypeDesc → Bool
  | .struct _ | .array _ _ => true
  | _ => false
theorem tyOk_mk {T : TypeId} {t : Ty} {c : Nat} {d : TypeDesc} (h : (P.info? T).map (·.size) = some c) (hc : c = t.width U.wd) (hu : P.underlying T = some d)
    (ha : descAgg d = t.isAgg) : TyOk P U T t := by
  cases hi : P.info? T with
  | none => rw [hi] at h; cases h
  | some i =>
    rw [hi] at h
    injection h with h
    exact ⟨⟨i, hi, h.trans hc⟩, ⟨d, hu, by rw [← ha]; cases d <;> rfl⟩⟩

theorem rowOk_mk {T E : TypeId} {t : Ty} {by_ c : Nat} (hs : SlOk P U T E t) (h : (P.info? E).map (fun i => (i.zero.map (·.cells.size), i.size, i.bytes)) = some (some c, c, by_)) (hc : c = t.width U.wd) (hp : 0 < c) :
    RowOk P U T E t by_ := by
  cases hi : P.info? E with
  | none => rw [hi] at h; cases h
  | some i =>
    rw [hi] at h
    simp only [Option.map_some, Option.some.injEq, Prod.mk.injEq] at h
    obtain ⟨h1, h2, h3⟩ := h
    cases hz : i.zero with
    | none => rw [hz] at h1; cases h1
    | some z =>
      rw [hz] at h1
      injection h1 with h1
      exact ⟨hs, ⟨i, z, hi, hz, h2.trans hc, h3, h1.trans hc⟩, hc ▸ hp⟩

/-- A whole row, shown. -/
theorem View.whole {vw : List (Nat × Blk U)} {n e : Nat} {t : Ty} {xs : List (t.den U.T)} {fx : Bool} (h : (n, Blk.row e t xs fx) ∈ vw) : View U vw (.vec n (t.width U.wd) 0 xs.length) (.p (.list t) xs) := by
  have := View.row (U := U) 0 xs.length h (by omega)
  have e : ((xs.drop 0).take xs.length) = xs := by simp
  rwa [e] at this

section
variable {rs : List (Nat × AVal U)} {ops : Array Oper} {o : Oper}
theorem sok_append' {T E : TypeId} {t : Ty} {by_ n d : Nat} {xs ys : List (t.den U.T)} {fx : Bool} {x y : Operand} {v : AVal U} {vw : List (Nat × Blk U)} (hg : o.guard = none) (hd : o.dst = some d)
    (ho : o.op = .call { callee := .builtin .append, args := #[x, y], argTypes := #[T, T] }) (hT : RowOk P U T E t by_) (hby : by_ ≤ 32768)
    (hx : Opd U rs x (.vec n (t.width U.wd) 0 xs.length)) (hy : Opd U rs y v) (hv : View U vw v (.p (.list t) ys)) (hvw : n ∉ nm vw) (hlim : xs.length + ys.length ≤ LIM) :
    SOk U O P ops o { rs := rs, ro := vw, cb := [(n, .row E t xs fx)], ws := .vec d (t.width U.wd) 0 (xs ++ ys).length, pb := [(d, .row E t (xs ++ ys) false)], nn := [d] } := by
  rw [List.length_append]
  exact sok_append hg hd ho hT hby hx hy hv hvw hlim

/-- A number made of another kind. -/
theorem sok_convI {t1 t2 : TypeId} {k k' : IntKind} {x : Operand} {n : Int} (hg : o.guard = none) (ho : o.op = .convert t1 t2 x) (h1 : P.underlying t1 = some (.int k)) (h2 : P.underlying t2 = some (.int k'))
    (hx : Opd U rs x (.p (.int k) n)) : SOk U O P ops o { rs := rs, ws := .p (.int k') (k'.wrap n) } :=
  sok_v hg _ (fun _ => exec_convert ho) fun S ι w a hrs _ => ⟨.int k' (k'.wrap n), by
    rw [VV.int_iff.1 (hx.ev hrs)]
    simp only [Go.convert, Sem.run_bind, run_underlying h1, run_underlying h2, Result.andThen_ok]
    rfl, VV.int_iff.2 rfl⟩

theorem sok_quo {t t' : TypeId} {x y : Operand} {k : IntKind} {m n : Int} (hg : o.guard = none) (ho : o.op = .binOp .quo t x y t') (hx : Opd U rs x (.p (.int k) m)) (hy : Opd U rs y (.p (.int k) n)) (hn : n ≠ 0) :
    SOk U O P ops o { rs := rs, ws := .p (.int k) (k.wrap (Int.tdiv m n)) } :=
  sok_v hg _ (fun _ => exec_bin ho) fun S ι w a hrs _ => ⟨.int k (k.wrap (Int.tdiv m n)), by
    rw [VV.int_iff.1 (hx.ev hrs), VV.int_iff.1 (hy.ev hrs)]
    simp [go_sem, Op.intDiv, hn], VV.int_iff.2 rfl⟩
theorem sok_rem {t t' : TypeId} {x y : Operand} {k : IntKind} {m n : Int} (hg : o.guard = none) (ho : o.op = .binOp .rem t x y t') (hx : Opd U rs x (.p (.int k) m)) (hy : Opd U rs y (.p (.int k) n)) (hn : n ≠ 0) :
    SOk U O P ops o { rs := rs, ws := .p (.int k) (Int.tmod m n) } :=
  sok_v hg _ (fun _ => exec_bin ho) fun S ι w a hrs _ => ⟨.int k (Int.tmod m n), by
    rw [VV.int_iff.1 (hx.ev hrs), VV.int_iff.1 (hy.ev hrs)]
    simp [go_sem, Op.intDiv, hn], VV.int_iff.2 rfl⟩
end
end
end Go.AM
