/- The abstract layer, part M6: the nil slice asked and cut; a row whose elements are told no more. -/
import Derived.Test.YthmbbdemecljpaaDoorK11AmM5
import Derived.Test.YthmbbdemecljpaaDoorK11AmQ
namespace Go.AM
open Go
set_option linter.unusedVariables false
section
variable {U : Univ} {O : Out} {P : Program} {S : Nat → Prop} {ι : Lay} {w : World} {rs : List (Nat × AVal U)} {a : Act} {ops : Array Oper} {o : Oper}
theorem sok_lenNil {T E : TypeId} {x : Operand} (hg : o.guard = none) (ho : o.op = .call { callee := .builtin .len, args := #[x], argTypes := #[T] }) (ht : P.underlying T = some (.slice E)) (hx : Opd U rs x (.lit (.slice none 0 0))) :
    SOk U O P ops o { rs := rs, ws := .p (.int .i64) (0 : Int) } :=
  sok_v hg _ (fun _ => exec_len ho) fun S ι w a hrs _ => by
    refine ⟨.int .i64 0, ?_, VV.int_iff.2 rfl⟩
    rw [(hx.ev hrs).1]
    simp [Builtin.len_, run_underlying ht, goInt]
theorem sok_capNil {T E : TypeId} {x : Operand} (hg : o.guard = none) (ho : o.op = .call { callee := .builtin .cap, args := #[x], argTypes := #[T] }) (ht : P.underlying T = some (.slice E)) (hx : Opd U rs x (.lit (.slice none 0 0))) :
    SOk U O P ops o { rs := rs, ws := .p (.int .i64) (0 : Int) } :=
  sok_v hg _ (fun _ => exec_cap ho) fun S ι w a hrs _ => by
    refine ⟨.int .i64 0, ?_, VV.int_iff.2 rfl⟩
    rw [(hx.ev hrs).1]
    simp [Builtin.cap_, run_underlying ht, goInt]
theorem sok_sliceNil {T E : TypeId} {t : Ty} {x : Operand} {lo hi : Option Operand} (hg : o.guard = none) (ho : o.op = .slice T x lo hi none) (ht : SlOk P U T E t) (hx : Opd U rs x (.lit (.slice none 0 0))) (hl : Bd U rs 0 lo 0) (hh : Bd U rs 0 hi 0) :
    SOk U O P ops o { rs := rs, ws := .lit (.slice none 0 0) } :=
  sok_v hg _ (fun _ => exec_slice ho) fun S ι w a hrs _ => by
    have hsb := run_sliceBounds (P := P) true 0 0 hl hh hrs (by omega) (by omega) (by omega) w
    refine ⟨.slice none 0 0, ?_, ⟨rfl, (hx.ev hrs).2⟩⟩
    rw [(hx.ev hrs).1]
    simp [Instr.sliceAt, Instr.slice, Sem.run_bind, Result.andThen_ok, run_underlying ht.under, hsb, run_sizeOf ht.el]
end
section
variable {U : Univ} {O : Out}
theorem Conv.shrink0 {st : St U} (n E : Nat) (ty : Ty) (xs : List (ty.den U.T)) (fx : Bool) (hin : (n, Blk.row E ty xs fx) ∈ st.hp) : Conv U O st ⟨st.sl, setA st.hp n (.row E ty ([] : List (ty.den U.T)) false)⟩ := by
  intro B S ι a w hR
  have hm : ∀ k ∈ nm (setA st.hp n (Blk.row E ty ([] : List (ty.den U.T)) false)), k ∈ nm st.hp := fun k hk => by
    obtain ⟨x, hx, rfl⟩ := List.mem_map.1 hk
    rcases mem_setA hx with rfl | ⟨h1, _⟩
    · show n ∈ nm st.hp
      exact mem_nm hin
    · exact mem_nm h1
  refine ⟨S, ι, { hR with hp := fun x hx => ?_, own := ⟨fun k hk => hR.own.out k (hm k hk), fun k hk j hj => hR.own.sep k (hm k hk) j (hm j hj)⟩, mine := fun k hk => hR.mine k (hm k hk) }⟩
  rcases mem_setA hx with rfl | ⟨h1, _⟩
  · rcases hR.hp _ hin with ⟨h1, _, h3⟩ | ⟨b, c, arr, cs, h1, h2, h3, h4, h5, h6, h7, h8⟩
    · exact .inl ⟨h1, rfl, rfl⟩
    · exact .inr ⟨b, c, arr, cs, h1, h2, h3, h4, by simp, (fun h => by cases h), fun i h => absurd h (by simp), fun i j h => absurd h (by simp)⟩
  · exact hR.hp x h1
end
section
variable {U : Univ} {O : Out} {S : Nat → Prop} {ι : Lay} {w w' : World}
open Go.RowKit Go.Sort Go.Proofs
/-- Texts compacted in place, and handed back under another name. -/
theorem compactRow_nx {s : LSpec U} {d d' E b c n m : Nat} {xs ys : List (List UInt8)} {arr : Array Value} (hcb : s.cb = [(d, .row E .str xs false)]) (hpb : s.pb = [(d', .row E .str ys false)]) (hnn : s.nn = [d'])
    (hι : ι d = some (b, c)) (hh : w.heap[b]? = some (.cells arr E (0, 0))) (hsz : arr.size = c) (hmx : c ≤ maxLen) (hlen : ys.length ≤ c) (hS : ¬ S b) (hlt : ∀ b, S b → b < w.heap.size)
    (hw : w' = putRow encStr (Go.Sort.ahead w n) b 0 (ys ++ List.replicate m []).toArray) :
    ∃ ι', Nx U O s S ι w S ι' w' ∧ VV U O S ι' w' (.vec d' 1 0 ys.length) (.slice (some ⟨b, 0, none⟩) ys.length c) := by
  have hw : w' = grow (putRow encStr (Go.Sort.ahead w n) b 0 (ys ++ List.replicate m []).toArray) #[] := by rw [grow_empty]; exact hw
  subst hw
  have hbl : b < w.heap.size := (Array.getElem?_eq_some_iff.1 hh).1
  have hsz' : w.heap.size ≤ (grow (putRow encStr (Go.Sort.ahead w n) b 0 (ys ++ List.replicate m []).toArray) #[]).heap.size := by simp [putRow, mapBlock, Go.Sort.ahead]
  refine ⟨fun k => if k = d' then some (b, c) else ι k, ⟨rfl, rfl, rfl, hsz', fun _ h => h, fun _ h => .inl h, fun x h => Nat.lt_of_lt_of_le (hlt x h) hsz', fun b' hb' hne => put_ne hb' fun e => ?_, fun k hk => ?_, fun x hx => ?_, fun k hk b' c' hbc => ?_, fun k hk k' hk' hne => ?_⟩, ?_⟩
  · exact hne d (by rw [hcb]; simp [nm]) c (by rw [hι, e])
  · rw [hnn] at hk; exact if_neg (by simpa using hk)
  · rw [hpb] at hx; simp at hx; subst hx
    refine row_to (arr := arr) (ι := fun k => if k = d' then some (b, c) else ι k) (by simp) (put_at hh) (by rw [put_size]; exact hsz) hmx hlen (by simp) fun j hj => ?_
    have hi2 : j < (ys ++ List.replicate m ([] : List UInt8)).length := by rw [List.length_append]; omega
    have hge : (ys ++ List.replicate m ([] : List UInt8)).toArray[j]! = ys[j] := by
      rw [getElem!_pos _ j (by simpa using hi2)]
      simp [List.getElem_append_left hj]
    rw [put_get (by simpa using hi2) (by omega), hge]
  · rw [hpb] at hk; simp [nm] at hk; subst hk
    simp at hbc; obtain ⟨rfl, rfl⟩ := hbc
    exact ⟨hS, Nat.lt_of_lt_of_le hbl hsz', .inr ⟨d, by rw [hcb]; simp [nm], c, hι⟩⟩
  · rw [hpb] at hk hk'; simp [nm] at hk hk'; subst hk hk'; exact absurd rfl hne
  · exact .inr ⟨b, c, 0, by simp, by omega, by simp, .inl rfl⟩
theorem rowNil_nx {s : LSpec U} {d d' E : Nat} {xs : List (List UInt8)} (hcb : s.cb = [(d, .row E .str xs false)]) (hpb : s.pb = [(d', .row E .str ([] : List (List UInt8)) false)]) (hnn : s.nn = [d']) (hlt : ∀ b, S b → b < w.heap.size) :
    ∃ ι', Nx U O s S ι w S ι' w ∧ VV U O S ι' w (.vec d' 1 0 0) (.slice none 0 0) := by
  refine ⟨fun k => if k = d' then none else ι k, ⟨rfl, rfl, rfl, Nat.le_refl _, fun _ h => h, fun _ h => .inl h, hlt, fun _ _ _ => rfl, fun k hk => ?_, fun x hx => ?_, fun k hk b' c' hbc => ?_, fun k hk k' hk' hne => ?_⟩, .inl ⟨by simp, rfl, rfl, rfl⟩⟩
  · rw [hnn] at hk; exact if_neg (by simpa using hk)
  · rw [hpb] at hx; simp at hx; subst hx
    exact .inl ⟨by simp, rfl, rfl⟩
  · rw [hpb] at hk; simp [nm] at hk; subst hk; simp at hbc
  · rw [hpb] at hk hk'; simp [nm] at hk hk'; subst hk hk'; exact absurd rfl hne
end
section
variable {U : Univ} {O : Out} {P : Program} {S : Nat → Prop} {ι : Lay} {w : World} {rs : List (Nat × AVal U)} {a : Act} {ops : Array Oper} {o : Oper}
theorem run_append_nil_made (T Ti ty e : TypeId) (i : TypeInfo) (z : Value) (ht : P.underlying T = some (.slice e)) (hu : P.underlying Ti = some (.int .i64)) (hi : P.info? e = some i) (hz : i.zero = some z) (hs : 0 < i.size)
    (n : Nat) (h0 : 0 < n) (h63 : (n : Int) ≤ 9223372036854775807) (h48 : n * i.bytes ≤ 281474976710656) :
    (Builtin.append_ #[T, Ti] ty #[.slice none 0 0, .int .i64 n]).run P w =
      .ok (.slice (some ⟨w.heap.size, 0, none⟩) n (grownCap w n 0 e)) (w.drew.alloc (.cells (Builtin.zeroCells z.cells n ++ Builtin.zeroCells z.cells (grownCap w n 0 e - n)) e)) := by
  have hn : n ≠ 0 := by omega
  have h63' : ¬ (9223372036854775807 < (n : Int)) := by omega
  have h48' : ¬ (281474976710656 < Builtin.nextslicecap n 0 * i.bytes) := by rw [nextslicecap_zero h0]; omega
  have h48i : ¬ ((281474976710656 : Int) < (n : Int) * (i.bytes : Int)) := by
    have : ((n * i.bytes : Nat) : Int) ≤ 281474976710656 := by omega
    rw [Int.natCast_mul] at this; omega
  have hw : IntKind.i64.wrap (n : Int) = (n : Int) := w64 (by omega) (by omega)
  have hneg : ¬ ((n : Int) < 0) := by omega
  simp [Builtin.append_, run_underlying ht, run_underlying hu, sizeOf, typeInfo, zeroValue, hi, hz, Builtin.lenOf, Builtin.firstCells, asInt, asIntOf, hw, hneg, hn, h63', h48', h48i, Question.forced, newRow, grownCap]
  intro h
  exact absurd h (Nat.ne_of_gt (Nat.mul_pos h0 hs))
theorem sok_appendNZ {T Ti E : TypeId} {t : Ty} {by_ d : Nat} {n : Int} {x y : Operand} (hg : o.guard = none) (_ : o.dst = some d)
    (ho : o.op = .call { callee := .builtin .append, args := #[x, y], argTypes := #[T, Ti] }) (hT : RowOk P U T E t by_) (hu : P.underlying Ti = some (.int .i64))
    (hx : Opd U rs x (.lit (.slice none 0 0))) (hy : Opd U rs y (.p (.int .i64) n)) (h0 : (0 : Int) < n) (hlim : n.toNat * by_ ≤ 140737488355328) (hby : 1 ≤ by_) :
    SOk U O P ops o { rs := rs, ws := .vec d (t.width U.wd) 0 n.toNat, pb := [(d, .row E t ([] : List (t.den U.T)) false)], nn := [d] } := by
  intro S ι w a hlt hgl hrs hro hcb hown K Q hK
  have hx0 : a.eval x = .slice none 0 0 := (hx.ev hrs).1
  have hy0 : a.eval y = .int .i64 n := VV.int_iff.1 (hy.ev hrs)
  obtain ⟨i, z, hi, hz, hs, hb, hzs⟩ := hT.info
  obtain ⟨k, rfl⟩ : ∃ k : Nat, n = (k : Int) := ⟨n.toNat, by omega⟩
  have hk0 : 0 < k := by omega
  simp only [Int.toNat_natCast] at hlim hK ⊢
  have hk1 : k ≤ 140737488355328 := Nat.le_trans (Nat.le_mul_of_pos_right k hby) hlim
  have hrun := run_append_nil_made (P := P) (w := w) T Ti o.type E i z hT.sl.under hu hi hz (by rw [hs]; exact hT.pos) k hk0 (by omega) (by rw [hb]; omega)
  have hge := grownCap_ge w k 0 E
  have hcm : grownCap w k 0 E ≤ maxLen := grownCap_le_maxLen w k 0 E (by unfold maxLen; omega)
  have hrow : (w.drew.alloc (.cells (Builtin.zeroCells z.cells k ++ Builtin.zeroCells z.cells (grownCap w k 0 E - k)) E)).ownsRow w.heap.size E (t.width U.wd) (.slice (some ⟨w.heap.size, 0, none⟩) 0 (grownCap w k 0 E)) 0 [] := by
    refine ⟨by simp, .inr ⟨w.heap.size, _, _, rfl, Nat.le_refl _, halloc_new w.drew _, by omega, hcm, ?_, by simp⟩⟩
    simp only [Array.size_append, size_zeroCells, hzs, ← Nat.add_mul]
    congr 1
    omega
  have hbel : RowKit.Below w.heap.size w (w.drew.alloc (.cells (Builtin.zeroCells z.cells k ++ Builtin.zeroCells z.cells (grownCap w k 0 E - k)) E)) := ⟨rfl, rfl, rfl, by simp, fun b hb => halloc_old w.drew _ b hb⟩
  obtain ⟨ι', hN, hV⟩ := Nx.rowBlk (U := U) (O := O) (t := t) (ι := ι) (S := S) (d := d) (s := { rs := rs, ws := .vec d (t.width U.wd) 0 k, pb := [(d, .row E t ([] : List (t.den U.T)) false)], nn := [d] }) (xs := []) hrow hbel rfl rfl rfl rfl hlt (fun i h => absurd h (by simp))
  refine opWp_plain hg ?_
  unfold Oper.wp
  have he : execOp a.eval o = vOf (Builtin.append_ #[T, Ti] o.type #[a.eval x, a.eval y]) := by rw [exec_builtin ho]; simp [builtin, vOf]
  rw [he, hx0, hy0, run_vOf hrun]
  refine hK _ S ι' _ hN ?_
  rcases hV with ⟨_, _, _, h⟩ | ⟨b, c, o', h1, h2, h3, h4⟩
  · cases h
  · have h3 : (⟨w.heap.size, 0, none⟩ : Addr) = ⟨b, o', none⟩ ∧ grownCap w k 0 E = c - 0 := by simpa using h3
    obtain ⟨h5, h6⟩ := h3
    have h7 : w.heap.size = b ∧ 0 = o' := by simpa using h5
    obtain ⟨rfl, rfl⟩ := h7
    exact .inr ⟨w.heap.size, c, 0, h1, by omega, by rw [h6], .inl (by simp)⟩
end
end Go.AM
