/- The abstract layer, part S: the room of a row of its own length. -/
import Derived.Test.YthmbbdemecljpaaDoorK11AmR
import Derived.Laws.MakeOwn
namespace Go.AM
section
variable {U : Univ} {O : Out} {P : Program} {S : Nat → Prop} {ι : Lay} {w : World} {rs : List (Nat × AVal U)} {a : Act} {ops : Array Oper} {o : Oper}

theorem exec_cap {ρ : Operand → Value} {x : Operand} {T : TypeId} (ho : o.op = .call { callee := .builtin .cap, args := #[x], argTypes := #[T] }) :
    execOp ρ o = vOf (Builtin.cap_ #[T] o.type #[ρ x]) := by rw [exec_builtin ho]; simp [builtin, vOf]

/-- How much room there is behind a place of a row of its own length. -/
theorem sok_capV {T E E' : TypeId} {t : Ty} {x : Operand} {n wd off len : Nat} {xs : List (t.den U.T)} (hg : o.guard = none) (ho : o.op = .call { callee := .builtin .cap, args := #[x], argTypes := #[T] })
    (ht : P.underlying T = some (.slice E)) (hx : Opd U rs x (.vec n wd off len)) : SOk U O P ops o { rs := rs, ro := [(n, .row E' t xs true)], ws := .p (.int .i64) ((xs.length - off : Nat) : Int) } :=
  sok_v hg _ (fun _ => exec_cap ho) fun S ι w a hrs hro => by
    refine ⟨.int .i64 ((xs.length - off : Nat) : Int), ?_, VV.int_iff.2 rfl⟩
    have hB := hro _ List.mem_cons_self
    rcases (by simpa only [VV] using hx.ev hrs : _) with ⟨hn, _, _, hv⟩ | ⟨b, c, o', hn, _, hv, _⟩
    · rcases hB with ⟨_, _, h⟩ | ⟨b', c', arr, cs, h3, _⟩
      · cases h
      · rw [hn] at h3; cases h3
    · rcases hB with ⟨h3, _⟩ | ⟨b', c', arr, cs, h3, _, _, _, _, h6, _⟩
      · rw [hn] at h3; cases h3
      · rw [hn] at h3
        obtain ⟨rfl, rfl⟩ : b = b' ∧ c = c' := by simpa using h3
        rw [hv, h6 rfl]
        simp [Builtin.cap_, run_underlying ht, goInt]

theorem exec_makeSlice {ρ : Operand → Value} {x y : Operand} {T : TypeId} (ho : o.op = .makeSlice T x y) : execOp ρ o = vOf (Instr.makeSlice T (ρ x) (ρ y)) := by unfold execOp; rw [ho]; rfl

theorem madeCells_get {z : Array Value} {n i j : Nat} (hi : i < n) (hj : j < z.size) : (madeCells z (n * z.size))[i * z.size + j]? = z[j]? := by
  have hlt : i * z.size + j < n * z.size := by
    have h1 : (i + 1) * z.size ≤ n * z.size := Nat.mul_le_mul_right _ (by omega)
    rw [Nat.add_mul] at h1
    omega
  have hm : (i * z.size + j) % z.size = j := by rw [Nat.mul_comm, Nat.mul_add_mod]; exact Nat.mod_eq_of_lt hj
  unfold madeCells
  rw [Array.getElem?_map, Array.getElem?_range, if_pos hlt]
  simp only [Option.map_some, hm]
  rw [Array.getElem?_eq_getElem hj, getElem!_pos z j hj]

/-- A new row of empty elements; of its own length, of which the first l are shown. -/
theorem sok_makeSlice {T E : TypeId} {t : Ty} {by_ d : Nat} {z : t.den U.T} {x y : Operand} {kl kc : IntKind} {l c : Int} (hg : o.guard = none) (_ : o.dst = some d) (ho : o.op = .makeSlice T x y)
    (hT : RowOk P U T E t by_) (hby : by_ ≤ 32768) (hz : ZeroOk P U E t z) (hx : Opd U rs x (.p (.int kl) l)) (hy : Opd U rs y (.p (.int kc) c)) (h0 : 0 ≤ l) (h1 : l ≤ c) (hlim : c ≤ (LIM : Nat)) :
    SOk U O P ops o { rs := rs, ws := .vec d (t.width U.wd) 0 l.toNat, pb := [(d, .row E t (List.replicate c.toNat z) true)], nn := [d] } := by
  intro S ι w a hlt hgl hrs hro hcb hown K Q hK
  have hL : LIM = 4294967296 := rfl
  rw [hL] at hlim
  obtain ⟨i, v, hi, hv, hall⟩ := hz.h
  obtain ⟨cs, hr, rfl⟩ := hall O S w
  obtain ⟨i', z', hi', hz', hs, hb', hzs⟩ := hT.info
  obtain rfl : i' = i := by rw [hi] at hi'; exact (Option.some.inj hi').symm
  obtain rfl : z' = mkV t.isAgg cs := by rw [hv] at hz'; exact (Option.some.inj hz').symm
  have hbytes : (i'.bytes : Int) * c ≤ 281474976710656 := by
    rw [hb']
    have h2 : (by_ : Int) * c ≤ 32768 * 4294967296 := Int.mul_le_mul (by omega) (by omega) (by omega) (by omega)
    omega
  have hrun := run_make (P := P) w T E i' (mkV t.isAgg cs) hT.sl.under hi hv kl kc l c h0 h1 hbytes (by omega)
  refine opWp_plain hg ?_
  unfold Oper.wp
  rw [exec_makeSlice ho, VV.int_iff.1 (hx.ev hrs), VV.int_iff.1 (hy.ev hrs), run_vOf hrun]
  have hcells : (mkV t.isAgg cs).cells.toList = cs := hr.cells
  have hsz : (mkV t.isAgg cs).cells.size = t.width U.wd := hzs
  refine hK _ S _ _ (Nx.alloc (s := { rs := rs, ws := .vec d (t.width U.wd) 0 l.toNat, pb := [(d, .row E t (List.replicate c.toNat z) true)], nn := [d] }) (.cells (madeCells (mkV t.isAgg cs).cells (c.toNat * i'.size)) E) rfl rfl rfl hlt c.toNat ?_) (.inr ⟨w.heap.size, c.toNat, 0, by simp, by omega, by simp, .inl (by simp)⟩)
  refine .inr ⟨w.heap.size, c.toNat, madeCells (mkV t.isAgg cs).cells (c.toNat * i'.size), fun _ => cs, by simp, heap_alloc_new w _, by rw [size_madeCells, hs], by unfold maxLen; omega, by simp, fun _ => by simp, fun j hj => ?_, fun i j hi hj => ?_⟩
  · rw [List.getElem_replicate]
    exact hr.mono (fun b hb => heap_alloc_old w _ b (hlt b hb)) fun _ h => h
  · rw [hs, ← hsz, madeCells_get (by simpa using hi) (by rw [hsz]; exact hj), ← Array.getElem?_toList, hcells]
end
end Go.AM
