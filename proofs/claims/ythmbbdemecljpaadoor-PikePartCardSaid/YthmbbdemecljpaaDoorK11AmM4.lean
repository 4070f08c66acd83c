/- The abstract layer, part M4: owned maps in the library's words; blocks that a call leaves as they were. -/
import Derived.Test.YthmbbdemecljpaaDoorK11AmM3
import Derived.Maps.Own
import Derived.Maps.Views
import Derived.Sort.KeysCollected
namespace Go.AM
set_option linter.unusedVariables false
open Go.WideElems (Fit rd rg)

section
variable {U : Univ} {O : Out} {P : Program} {S S' : Nat → Prop} {ι ι' : Lay} {w w' : World} {t : Ty}

/-- Blocks beside those that a step turns. -/
theorem Nx.frame {s : LSpec U} (h : Nx U O s S ι w S' ι' w') (h1 : s.cb = []) (bs : List (Nat × Blk U)) (hnn : ∀ n ∈ s.nn, n ∉ nm bs ∧ ∀ x ∈ bs, n ∉ Blk.names U x.2) (hbs : ∀ x ∈ bs, BR U O S ι w x.1 x.2)
    (hown : Own S ι w (nm bs)) (hlt : ∀ b, S b → b < w.heap.size) : Nx U O { s with cb := bs, pb := s.pb ++ bs } S ι w S' ι' w' := by
  have hkeep : ∀ b, b < w.heap.size → w'.heap[b]? = w.heap[b]? := fun b hb => h.keep b hb (by rw [h1]; simp)
  have hnew : ∀ b, S' b → S b ∨ w.heap.size ≤ b := fun b hb => by
    rcases h.new b hb with h | h | ⟨m, hm, _⟩
    · exact .inl h
    · exact .inr h
    · rw [h1] at hm; cases hm
  have hlay : ∀ n ∈ nm bs, ι' n = ι n := fun n hn => h.lay n fun hin => (hnn n hin).1 hn
  have hpb : ∀ n ∈ nm s.pb, ∀ b c, ι' n = some (b, c) → w.heap.size ≤ b := fun n hn b c hb => by
    rcases (h.plc n hn b c hb).2.2 with h | ⟨m, hm, _⟩
    · exact h
    · rw [h1] at hm; cases hm
  have split : ∀ n, n ∈ nm (s.pb ++ bs) → n ∈ nm s.pb ∨ n ∈ nm bs := fun n hn => by
    have : n ∈ List.map _ (_ ++ _) := hn
    rw [List.map_append] at this
    exact List.mem_append.1 this
  refine ⟨h.os, h.tape, h.output, h.size, h.sub, fun b hb => (hnew b hb).elim .inl fun h => .inr (.inl h), h.lt, fun b hb _ => hkeep b hb, h.lay, fun x hx => ?_, fun n hn b c hb => ?_, fun n hn m hm hne b c c' hb => ?_⟩
  · rcases List.mem_append.1 hx with hx | hx
    · exact h.blk x hx
    · have hxn : x.1 ∈ nm bs := List.mem_map.2 ⟨x, hx, rfl⟩
      exact BR.mono (fun b hb => hkeep b (hlt b hb)) h.sub (hlay _ hxn) (fun m hm => h.lay m fun hin => (hnn m hin).2 x hx hm) (fun b c hb => hkeep b (hown.out x.1 hxn b c hb).2) (hbs x hx)
  · rcases split n hn with hn | hn
    · have := h.plc n hn b c hb
      exact ⟨this.1, this.2.1, .inl (hpb n hn b c hb)⟩
    · rw [hlay n hn] at hb
      obtain ⟨o1, o2⟩ := hown.out n hn b c hb
      refine ⟨fun hS => ?_, Nat.lt_of_lt_of_le o2 h.size, .inr ⟨n, hn, c, hb⟩⟩
      rcases hnew b hS with h | h
      · exact o1 h
      · omega
  · rcases split n hn with hn | hn <;> rcases split m hm with hm | hm
    · exact h.sep n hn m hm hne b c c' hb
    · rw [hlay m hm]
      intro hb'
      have := (hown.out m hm b c' hb').2
      have := hpb n hn b c hb
      omega
    · rw [hlay n hn] at hb
      intro hb'
      have := (hown.out n hn b c hb).2
      have := hpb m hm b c' hb'
      omega
    · rw [hlay n hn] at hb
      rw [hlay m hm]
      exact hown.sep n hn m hm hne b c c' hb

/-- An owned map in the library's words: its keys. -/
def unitR : Value → Option (DataW Unit × List MemPlace) := fun _ => some (.lit (.bool true), [])
theorem ownsMap_of {K : TypeId} {n : Nat} {kvs : KV (t.den U.T)} (hk : P.underlying K = some .string) (h : BR U O S ι w n (.map t kvs)) (hsz : kvs.length ≤ maxLen) (hlen : ∀ y ∈ kvs, y.1.length ≤ maxLen) :
    ∃ b c D0, ι n = some (b, c) ∧ w.ownsMap P K unitR b kvs.length D0 ∧ (strKeys D0).Perm (kvs.map (·.1)) ∧ Maps.size D0 = kvs.length := by
  obtain ⟨b, c, es, clock, ys, h1, h2, h3, h4, h5, h6⟩ := h
  have hl : es.size = kvs.length := by rw [← h5.length_eq, ← h4.len, Array.length_toList]
  have hrd : ∀ (es : List MapEntry) (ys : KV (t.den U.T)), EntsR U O S w t es ys → (∀ y ∈ ys, y.1.length ≤ maxLen) → (∀ x ∈ es, ∃ y, rd P K unitR x = some y) ∧ (es.map (rg P K unitR)).map (fun p => strOf p.1) = ys.map (·.1) := by
    intro es
    induction es with
    | nil => intro ys h _; have h : ys = [] := h; subst h; exact ⟨(fun x hx => by cases hx), rfl⟩
    | cons e es ih =>
      rintro ys ⟨y, r, rfl, ⟨s, k1, k2⟩, _, k3⟩ hy
      have hs : s.size ≤ maxLen := by
        have := hy y List.mem_cons_self
        rw [← k2] at this
        simpa [Array.length_toList] using this
      have hkey : keyOf P K e.key = some (.string s.data.toList) := by rw [k1]; exact WideMaps.keyOf_string_mk hk hs
      have hr : rd P K unitR e = some (.string s.data.toList, .lit (.bool true)) := by simp [rd, hkey, unitR]
      obtain ⟨i1, i2⟩ := ih r k3 fun y h => hy y (List.mem_cons_of_mem _ h)
      refine ⟨fun x hx => ?_, ?_⟩
      · rcases List.mem_cons.1 hx with rfl | hx
        · exact ⟨_, hr⟩
        · exact i1 x hx
      · simp only [List.map_cons, i2]
        have : rg P K unitR e = (.string s.data.toList, .lit (.bool true)) := by simp [rg, hr]
        rw [this, ← k2]; rfl
  obtain ⟨r1, r2⟩ := hrd es.toList ys h4 fun y hy => hlen y (h5.subset hy)
  refine ⟨b, c, _, h1, ⟨es, clock, h2, ⟨by omega, h3, r1⟩, by omega, rfl⟩, ?_, ?_⟩
  · have : strKeys (.map ((es.toList.map (rg P K unitR)).foldr DataW.insert [])) = ((es.toList.map (rg P K unitR)).foldr DataW.insert []).map fun p => strOf p.1 := rfl
    rw [this]
    refine ((WideShapes.sorted_perm _).map _).trans ?_
    rw [r2]
    exact h5.map _
  · show ((es.toList.map (rg P K unitR)).foldr DataW.insert []).length = _
    rw [length_sorted]; simp [hl]
theorem sorted_keys {α : Type} {kvs : KV α} {ss : List (List UInt8)} (hr : Rising kvs) (hp : ss.Perm (kvs.map (·.1))) : ss.mergeSort (fun x y => decide (x ≤ y)) = kvs.map (·.1) := by
  rw [show ss.mergeSort (fun x y => decide (x ≤ y)) = ss.mergeSort leB from rfl, mergeSort_of_perm hp]
  refine List.mergeSort_of_pairwise ?_
  rw [List.pairwise_map]
  refine hr.imp fun h => ?_
  simp only [leB, decide_eq_true_eq]
  rw [bytesLess_eq, decide_eq_true_eq] at h
  exact List.le_of_lt h
theorem keyRow {α β : Type} (m : KV α) (i : Nat) (hi : i < (m.map (·.1)).length) {enc : List UInt8 → β} : ((m.map (·.1)).map enc)[i]? = some (enc ((m.map (·.1))[i])) := by
  have hi' : i < m.length := by simpa using hi
  simp [hi']

/-- The greater of two numbers. -/
theorem sok_max {ops : Array Oper} {o : Oper} {rs : List (Nat × AVal U)} {k : IntKind} {x y : Operand} {m n : Int} {T T' : TypeId} (hg : o.guard = none) (ho : o.op = .call { callee := .builtin .max, args := #[x, y], argTypes := #[T, T'] })
    (hx : Opd U rs x (.p (.int k) m)) (hy : Opd U rs y (.p (.int k) n)) : SOk U O P ops o { rs := rs, ws := .p (.int k) (if n > m then n else m) } :=
  sok_v hg (fun ρ => Builtin.max_ #[T, T'] o.type #[ρ x, ρ y]) (fun ρ => by rw [exec_builtin ho]; simp [builtin, vOf]) fun S ι w a hrs _ => ⟨.int k (if n > m then n else m), by
    rw [VV.int_iff.1 (hx.ev hrs), VV.int_iff.1 (hy.ev hrs)]
    simp [Builtin.max_, Builtin.max2], VV.int_iff.2 rfl⟩
theorem sok_min {ops : Array Oper} {o : Oper} {rs : List (Nat × AVal U)} {k : IntKind} {x y : Operand} {m n : Int} {T T' : TypeId} (hg : o.guard = none) (ho : o.op = .call { callee := .builtin .min, args := #[x, y], argTypes := #[T, T'] })
    (hx : Opd U rs x (.p (.int k) m)) (hy : Opd U rs y (.p (.int k) n)) : SOk U O P ops o { rs := rs, ws := .p (.int k) (if n < m then n else m) } :=
  sok_v hg (fun ρ => Builtin.min_ #[T, T'] o.type #[ρ x, ρ y]) (fun ρ => by rw [exec_builtin ho]; simp [builtin, vOf]) fun S ι w a hrs _ => ⟨.int k (if n < m then n else m), by
    rw [VV.int_iff.1 (hx.ev hrs), VV.int_iff.1 (hy.ev hrs)]
    simp [Builtin.min_, Builtin.min2], VV.int_iff.2 rfl⟩
end
end Go.AM
