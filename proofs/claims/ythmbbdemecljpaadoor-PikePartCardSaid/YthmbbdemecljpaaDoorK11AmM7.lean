/- The abstract layer, part M7: structs shown with rows in them; a row's tail cleared; a row cut short. -/
import Derived.Test.YthmbbdemecljpaaDoorK11AmM6
namespace Go.AM
open Go
set_option linter.unusedVariables false
theorem View.ofAgg {U : Univ} {vw : List (Nat × Blk U)} {n : Nat} {x : U.T n} {us us' : List (AVal U)} (hv : Views U vw us us') (hm : Made U (.named n) us' (.p (.named n) x)) : View U vw (.agg us) (.p (.named n) x) :=
  .agg fun O S ι w u hb hu => by
    obtain ⟨vs, hvs, rfl⟩ := hu
    exact hm.of (hv.ev hb hvs)
section
variable {U : Univ} {O : Out}
theorem Conv.shrinkN {st : St U} (n E m : Nat) (ty : Ty) (xs : List (ty.den U.T)) (fx : Bool) (hin : (n, Blk.row E ty xs fx) ∈ st.hp) : Conv U O st ⟨st.sl, setA st.hp n (.row E ty (xs.take m) false)⟩ := by
  intro B S ι a w hR
  have hm : ∀ k ∈ nm (setA st.hp n (Blk.row E ty (xs.take m) false)), k ∈ nm st.hp := fun k hk => by
    obtain ⟨x, hx, rfl⟩ := List.mem_map.1 hk
    rcases mem_setA hx with rfl | ⟨h1, _⟩
    · show n ∈ nm st.hp
      exact mem_nm hin
    · exact mem_nm h1
  refine ⟨S, ι, { hR with hp := fun x hx => ?_, own := ⟨fun k hk => hR.own.out k (hm k hk), fun k hk j hj => hR.own.sep k (hm k hk) j (hm j hj)⟩, mine := fun k hk => hR.mine k (hm k hk) }⟩
  rcases mem_setA hx with rfl | ⟨h1, _⟩
  · rcases hR.hp _ hin with ⟨h1, h2, h3⟩ | ⟨b, c, arr, cs, h1, h2, h3, h4, h5, h6, h7, h8⟩
    · exact .inl ⟨h1, by rw [h2]; simp, rfl⟩
    · refine .inr ⟨b, c, arr, cs, h1, h2, h3, h4, by rw [List.length_take]; omega, (fun h => by cases h), fun i h => ?_, fun i j h => ?_⟩
      · rw [List.length_take] at h
        rw [List.getElem_take]; exact h7 i (by omega)
      · rw [List.length_take] at h; exact h8 i j (by omega)
  · exact hR.hp x h1
end
section
variable {U : Univ} {O : Out} {P : Program} {S : Nat → Prop} {ι : Lay} {w : World} {rs : List (Nat × AVal U)} {a : Act} {ops : Array Oper} {o : Oper}
theorem zeroCells_mem {z : Array Value} {n : Nat} {v : Value} (h : v ∈ (Builtin.zeroCells z n).toList) : v ∈ z.toList := by
  simp only [Builtin.zeroCells, Array.toList_map, List.mem_map] at h
  obtain ⟨i, hi, rfl⟩ := h
  have hi : i < n * z.size := by simpa using hi
  have h0 : 0 < z.size := by
    rcases Nat.eq_zero_or_pos z.size with h | h
    · rw [h] at hi; omega
    · exact h
  have hm := Nat.mod_lt i h0
  rw [getElem!_pos z _ hm]
  simp
/-- The end of a row cleared: the row is cut short. -/
theorem sok_clearTail {T E : TypeId} {t : Ty} {by_ n off len : Nat} {xs : List (t.den U.T)} {fx : Bool} {x : Operand} (hg : o.guard = none) (_ : o.dst = none) (ho : o.op = .call { callee := .builtin .clear, args := #[x], argTypes := #[T] })
    (hT : RowOk P U T E t by_) (hz1 : (P.info? E).map (fun i => i.zero.map fun z => z.cells.toList.all Value.oneCell') = some (some true)) (hx : Opd U rs x (.vec n (t.width U.wd) off len)) (hl : off + len = xs.length) :
    SOk U O P ops o { rs := rs, cb := [(n, .row E t xs fx)], pb := [(n, .row E t (xs.take off) false)] } := by
  intro S ι w a hlt hgl hrs hro hcb hown K Q hK
  obtain ⟨i, z, hi, hz, hs, hb', hzs⟩ := hT.info
  have hall : z.cells.toList.all Value.oneCell' = true := by
    rw [hi] at hz1
    simp only [Option.map_some, hz, Option.some.injEq] at hz1
    exact hz1
  have hB := hcb _ List.mem_cons_self
  refine opWp_plain hg ?_
  unfold Oper.wp
  have he : execOp a.eval o = vOf (Builtin.clear_ #[T] o.type #[a.eval x]) := by rw [exec_builtin ho]; simp [builtin, vOf]
  have hcut : BR U O S ι w n (.row E t (xs.take off) false) := by
    rcases hB with ⟨h1, h2, h3⟩ | ⟨b, c, arr, cs, h1, h2, h3, h4, h5, h6, h7, h8⟩
    · exact .inl ⟨h1, by rw [h2]; simp, rfl⟩
    · refine .inr ⟨b, c, arr, cs, h1, h2, h3, h4, by rw [List.length_take]; omega, (fun h => by cases h), fun i h => ?_, fun i j h => ?_⟩
      · rw [List.length_take] at h
        rw [List.getElem_take]; exact h7 i (by omega)
      · rw [List.length_take] at h; exact h8 i j (by omega)
  have hnil : ∀ ad cap, (Builtin.clear_ #[T] o.type #[.slice ad 0 cap]).run P w = .ok (.tuple #[]) w := fun ad cap => by
    cases ad <;> simp [Builtin.clear_, run_underlying hT.sl.under]
  have same : ∀ u w', (Builtin.clear_ #[T] o.type #[a.eval x]).run P w = .ok u w' → w' = w → (execOp a.eval o).run P w = (vOf (pure u)).run P w := fun u w' h e => by rw [he]; subst e; rw [run_vOf h]; rfl
  rcases hx.ev hrs with ⟨hn, h0, h1, hu⟩ | ⟨b', c', o', hn, hoc, hu, hor⟩
  · rw [he, hu, run_vOf (hnil none 0)]
    refine hK _ S ι _ ⟨rfl, rfl, rfl, Nat.le_refl _, fun _ h => h, fun _ h => .inl h, hlt, fun _ _ _ => rfl, fun _ _ => rfl, fun x hx => ?_, fun k hk b c hb => ?_, fun k hk j hj hne => ?_⟩ trivial
    · simp at hx; subst hx; exact hcut
    · simp at hk; subst hk; rw [hn] at hb; cases hb
    · simp at hk hj; exact absurd (hk.trans hj.symm) hne
  · rcases hB with ⟨h1, _⟩ | ⟨b, c, arr, cs, h1, h2, h3, h4, h5, h6, h7, h8⟩
    · rw [hn] at h1; cases h1
    rw [hn] at h1
    obtain ⟨rfl, rfl⟩ : b' = b ∧ c' = c := by simpa using h1
    have hSb : ¬ S b' := (hown.out n (by simp) b' c' hn).1
    by_cases h0 : len = 0
    · subst h0
      rw [he, hu, run_vOf (hnil _ _)]
      refine hK _ S ι _ ⟨rfl, rfl, rfl, Nat.le_refl _, fun _ h => h, fun _ h => .inl h, hlt, fun _ _ _ => rfl, fun _ _ => rfl, fun x hx => ?_, fun k hk b c hb => ?_, fun k hk j hj hne => ?_⟩ trivial
      · simp at hx; subst hx; exact hcut
      · simp at hk; subst hk
        rw [hn] at hb
        obtain ⟨rfl, rfl⟩ : b' = b ∧ c' = c := by simpa using hb
        exact ⟨hSb, (Array.getElem?_eq_some_iff.1 h2).1, .inr ⟨k, by simp [nm], _, hn⟩⟩
      · simp at hk hj; exact absurd (hk.trans hj.symm) hne
    · have hw0 := hT.pos
      have ho' : o' = off * t.width U.wd := by
        rcases hor with h | h
        · exact h
        · omega
      subst ho'
      obtain ⟨m, rfl⟩ : ∃ m, len = m + 1 := ⟨len - 1, by omega⟩
      let vs := (Builtin.zeroCells z.cells (m + 1)).toList
      have hvl : vs.length = (m + 1) * t.width U.wd := by simp only [vs, Array.length_toList, size_zeroCells, hzs]
      have hmul : off * t.width U.wd + (m + 1) * t.width U.wd ≤ c' * t.width U.wd := by rw [← Nat.add_mul]; exact Nat.mul_le_mul_right _ (by omega)
      have hst := run_storeCells_at P b' (off * t.width U.wd) E vs 0 arr w h2 (by rw [hvl, h3]; omega) (by
        intro v hv
        exact List.all_eq_true.1 hall v (zeroCells_mem hv))
      have hst' : (storeCells ⟨b', off * t.width U.wd, none⟩ vs).run P w = _ := hst
      have hr : (Builtin.clear_ #[T] o.type #[a.eval x]).run P w = .ok (.tuple #[]) (w.setRow b' (arr.toList.take (off * t.width U.wd + 0) ++ vs ++ arr.toList.drop (off * t.width U.wd + 0 + vs.length)).toArray) := by
        rw [hu]
        simp [Builtin.clear_, run_underlying hT.sl.under, zeroValue, typeInfo, hi, hz]
        rw [show (Builtin.zeroCells z.cells (m + 1)).toList = vs from rfl, hst']
        simp
      rw [he, run_vOf hr]
      refine hK _ S ι _ (Nx.setRow (n := n) (b := b') (c := c') rfl rfl hn hSb hlt h2 ?_) trivial
      have hS' : ∀ k, S k → (w.setRow b' (arr.toList.take (off * t.width U.wd + 0) ++ vs ++ arr.toList.drop (off * t.width U.wd + 0 + vs.length)).toArray).heap[k]? = w.heap[k]? := fun k hk => setRow_other w b' k _ fun e' => hSb (e' ▸ hk)
      refine .inr ⟨b', c', _, cs, hn, setRow_heap w b' arr _ E _ h2, ?_, h4, by rw [List.length_take]; omega, (fun h => by cases h), fun j hj => ?_, fun j r hj hr' => ?_⟩
      · simp only [List.size_toArray, List.length_append, List.length_take, List.length_drop, Array.length_toList, hvl]; omega
      · rw [List.length_take] at hj
        rw [List.getElem_take]; exact (h7 j (by omega)).mono hS' fun _ h => h
      · rw [List.length_take] at hj
        have hjo : (j + 1) * t.width U.wd ≤ off * t.width U.wd := Nat.mul_le_mul_right _ (by omega)
        rw [Nat.add_mul] at hjo
        rw [← h8 j r (by omega) hr', List.getElem?_toArray, List.append_assoc, List.getElem?_append_left (by rw [List.length_take, Array.length_toList]; omega), List.getElem?_take_of_lt (by omega), Array.getElem?_toList]
end
end Go.AM
