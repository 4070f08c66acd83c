/- The abstract layer, part T: append within a row. -/
import Derived.Test.YthmbbdemecljpaaDoorK11AmS
import Derived.Deep.Upon
namespace Go.AM
section
variable {U : Univ} {O : Out} {P : Program} {S : Nat → Prop} {ι : Lay} {w : World} {rs : List (Nat × AVal U)} {a : Act} {ops : Array Oper} {o : Oper}

/-- A part of a row from its start is lengthened, within the row: what stood behind it is overwritten. -/
theorem sok_appendPart {T E : TypeId} {t : Ty} {by_ n d len : Nat} {xs ys : List (t.den U.T)} {fx : Bool} {x y : Operand} {v : AVal U} {vw : List (Nat × Blk U)} (hg : o.guard = none) (_ : o.dst = some d)
    (ho : o.op = .call { callee := .builtin .append, args := #[x, y], argTypes := #[T, T] }) (hT : RowOk P U T E t by_)
    (hx : Opd U rs x (.vec n (t.width U.wd) 0 len)) (hy : Opd U rs y v) (hv : View U vw v (.p (.list t) ys)) (_ : n ∉ nm vw) (hpos : 0 < xs.length) (hlim : len + ys.length ≤ xs.length) :
    SOk U O P ops o { rs := rs, ro := vw, cb := [(n, .row E t xs fx)], ws := .vec n (t.width U.wd) 0 (len + ys.length), pb := [(n, .row E t (xs.take len ++ ys ++ xs.drop (len + ys.length)) fx)] } := by
  intro S ι w a hlt hgl hrs hro hcb hown K Q hK
  obtain ⟨ds, hdl, hys⟩ := view_cells hT.pos hv hro (hy.ev hrs)
  have hw0 := hT.pos
  have hzl : (xs.take len ++ ys ++ xs.drop (len + ys.length)).length = xs.length := by simp; omega
  rcases hcb _ List.mem_cons_self with ⟨_, h, _⟩ | ⟨b, c, arr, cs, h1, h2, h3, h4, h5, h6, h7, h8⟩
  · rw [h] at hpos; simp at hpos
  rcases hx.ev hrs with ⟨hn, _⟩ | ⟨b', c', o', hn, hoc, hu, hor⟩
  · rw [hn] at h1; cases h1
  rw [hn] at h1
  obtain ⟨rfl, rfl⟩ : b' = b ∧ c' = c := by simpa using h1
  have ho' : o' = 0 := by
    rcases hor with h | h
    · simpa using h
    · omega
  subst ho'
  obtain ⟨i, z, hi, hz, hs, hb', hzs⟩ := hT.info
  have hnewl : (rowCells ys.length ds).length = ys.length * t.width U.wd := flatMap_range_length _ _ _ fun i hi => (hdl i hi).length
  have hone : ∀ u ∈ rowCells ys.length ds, u.oneCell' = true := fun u hu => by
    obtain ⟨i, hi, hu⟩ := List.mem_flatMap.1 hu
    exact (hdl i (List.mem_range.1 hi)).one u hu
  let arr' : Array Value := (arr.toList.take (len * t.width U.wd) ++ rowCells ys.length ds ++ arr.toList.drop (len * t.width U.wd + ys.length * t.width U.wd)).toArray
  have hmul : len * t.width U.wd + ys.length * t.width U.wd ≤ c' * t.width U.wd := by rw [← Nat.add_mul]; exact Nat.mul_le_mul_right _ (by omega)
  have hsz' : arr'.size = c' * t.width U.wd := by simp [arr', hnewl]; omega
  have hrun : ∃ w', (Builtin.append_ #[T, T] o.type #[a.eval x, a.eval y]).run P w = .ok (.slice (some ⟨b', 0, none⟩) (len + ys.length) c') w' ∧ (w' = w.setRow b' arr' ∨ (ys = [] ∧ w' = w)) := by
    rcases hys with ⟨rfl, hu2⟩ | ⟨ad, cap, hu2, hc⟩
    · have hsrc : Src P i.size T (.slice none 0 0) 0 [] w := ⟨.inl ⟨_, hT.sl.under⟩, fun w' => rfl, rfl, rfl, by simp, fun u hu => by cases hu⟩
      have hr := run_append_nothing (P := P) (ty := o.type) w T T E i hT.sl.under hi (some ⟨b', 0, none⟩) len c' (by omega) (.slice none 0 0) hsrc
      rw [hu, hu2]
      exact ⟨_, hr, .inr ⟨rfl, rfl⟩⟩
    · have hr := run_append_room (P := P) w T o.type E i hT.sl.under hi b' len c' arr h2 ad ys.length cap (rowCells ys.length ds) (by rw [hs]; exact hnewl) hc hone (by omega) (by rw [hs, hnewl, h3]; exact hmul)
      rw [hs, hnewl] at hr
      rw [hu, hu2]
      exact ⟨_, hr, .inl rfl⟩
  obtain ⟨w', hr, hw'⟩ := hrun
  refine opWp_plain hg ?_
  unfold Oper.wp
  rw [exec_append ho, run_vOf hr]
  have hSb : ¬ S b' := (hown.out n (by simp) b' c' hn).1
  let cs' : Nat → List Value := fun i => if i < len then cs i else if i < len + ys.length then ds (i - len) else cs i
  have hB : BR U O S ι (w.setRow b' arr') n (.row E t (xs.take len ++ ys ++ xs.drop (len + ys.length)) fx) := by
    have hst : ∀ k, S k → (w.setRow b' arr').heap[k]? = w.heap[k]? := fun k hk => setRow_other w b' k _ fun e' => hSb (e' ▸ hk)
    refine .inr ⟨b', c', arr', cs', hn, setRow_heap w b' arr _ E _ h2, hsz', h4, by rw [hzl]; exact h5, fun h => by rw [hzl]; exact h6 h, fun i hi => ?_, fun i j hi hj => ?_⟩
    · refine Rd.mono ?_ hst fun _ h => h
      rw [hzl] at hi
      by_cases c1 : i < len
      · have e : (xs.take len ++ ys ++ xs.drop (len + ys.length))[i]'(by rw [hzl]; exact hi) = xs[i] := by
          rw [List.getElem_append_left (by simp; omega), List.getElem_append_left (by simp; omega), List.getElem_take]
        rw [e]
        simp only [cs', c1, if_true]
        exact h7 i hi
      · by_cases c2 : i < len + ys.length
        · have e : (xs.take len ++ ys ++ xs.drop (len + ys.length))[i]'(by rw [hzl]; exact hi) = ys[i - len]'(by omega) := by
            rw [List.getElem_append_left (by simp; omega), List.getElem_append_right (by simp; omega)]
            congr 1
            simp; omega
          rw [e]
          simp only [cs', c1, c2, if_true, if_false]
          exact hdl (i - len) (by omega)
        · have e : (xs.take len ++ ys ++ xs.drop (len + ys.length))[i]'(by rw [hzl]; exact hi) = xs[i] := by
            rw [List.getElem_append_right (by simp; omega), List.getElem_drop]
            congr 1
            simp; omega
          rw [e]
          simp only [cs', c1, c2, if_false]
          exact h7 i hi
    · rw [hzl] at hi
      show (arr.toList.take (len * t.width U.wd) ++ rowCells ys.length ds ++ arr.toList.drop (len * t.width U.wd + ys.length * t.width U.wd)).toArray[i * t.width U.wd + j]? = _
      rw [List.getElem?_toArray]
      have hA : (arr.toList.take (len * t.width U.wd)).length = len * t.width U.wd := by rw [List.length_take, Array.length_toList, h3]; omega
      by_cases c1 : i < len
      · have hlt' : i * t.width U.wd + j < len * t.width U.wd := by
          have h9 : (i + 1) * t.width U.wd ≤ len * t.width U.wd := Nat.mul_le_mul_right _ (by omega)
          rw [Nat.add_mul] at h9; omega
        rw [List.getElem?_append_left (by rw [List.length_append, hA]; omega), List.getElem?_append_left (by rw [hA]; exact hlt'), List.getElem?_take_of_lt hlt', Array.getElem?_toList]
        simp only [cs', c1, if_true]
        exact h8 i j hi hj
      · by_cases c2 : i < len + ys.length
        · have e9 : i * t.width U.wd = len * t.width U.wd + (i - len) * t.width U.wd := by rw [← Nat.add_mul]; congr 1; omega
          have hlt' : (i - len) * t.width U.wd + j < ys.length * t.width U.wd := by
            have h9 : (i - len + 1) * t.width U.wd ≤ ys.length * t.width U.wd := Nat.mul_le_mul_right _ (by omega)
            rw [Nat.add_mul] at h9; omega
          rw [List.getElem?_append_left (by rw [List.length_append, hA, hnewl]; omega), List.getElem?_append_right (by rw [hA]; omega), hA]
          have e8 : i * t.width U.wd + j - len * t.width U.wd = (i - len) * t.width U.wd + j := by omega
          rw [e8, rowCells_get (fun i hi => (hdl i hi).length) (by omega) hj]
          simp only [cs', c1, c2, if_true, if_false]
        · have h9 : (len + ys.length) * t.width U.wd ≤ i * t.width U.wd := Nat.mul_le_mul_right _ (by omega)
          rw [Nat.add_mul] at h9
          rw [List.getElem?_append_right (by rw [List.length_append, hA, hnewl]; omega), List.length_append, hA, hnewl, List.getElem?_drop, Array.getElem?_toList]
          have e8 : len * t.width U.wd + ys.length * t.width U.wd + (i * t.width U.wd + j - (len * t.width U.wd + ys.length * t.width U.wd)) = i * t.width U.wd + j := by omega
          rw [e8]
          simp only [cs', c1, c2, if_false]
          exact h8 i j hi hj
  rcases hw' with rfl | ⟨rfl, rfl⟩
  · exact hK _ S ι _ (Nx.setRow (n := n) (b := b') (c := c') rfl rfl hn hSb hlt h2 hB) (.inr ⟨b', c', 0, hn, by omega, by simp, .inl (by simp)⟩)
  · have e : xs.take len ++ ([] : List (t.den U.T)) ++ xs.drop (len + ([] : List (t.den U.T)).length) = xs := by simp
    refine hK _ S ι _ ⟨rfl, rfl, rfl, Nat.le_refl _, fun _ h => h, fun _ h => .inl h, hlt, fun _ _ _ => rfl, fun _ _ => rfl, fun x hx => ?_, fun m hm k c'' hk => ?_, fun m hm k hk hne => ?_⟩ (.inr ⟨b', c', 0, hn, by simp; omega, by simp, .inl (by simp)⟩)
    · rw [e] at hx
      exact hcb x hx
    · obtain rfl : m = n := by simpa [nm] using hm
      have := hown.out m (by simp [nm]) k c'' hk
      exact ⟨this.1, this.2, .inr ⟨m, by simp [nm], c'', hk⟩⟩
    · obtain rfl : m = n := by simpa [nm] using hm
      obtain rfl : k = m := by simpa [nm] using hk
      exact absurd rfl hne

theorem zeroOk_mk {T : TypeId} {t : Ty} {z : t.den U.T} {v : Value} (h : (P.info? T).bind (·.zero) = some v) (hr : ∀ (O : Out) S w, ∃ cs, Rd U O S w t z cs ∧ v = mkV t.isAgg cs) : ZeroOk P U T t z := by
  cases hi : P.info? T with
  | none => rw [hi] at h; cases h
  | some i => rw [hi] at h; exact ⟨i, v, hi, h, hr⟩
theorem zeroOk_str {T : TypeId} (h : (P.info? T).bind (·.zero) = some (.string ByteArray.empty)) : ZeroOk P U T .str ([] : List UInt8) := zeroOk_mk h fun O S w => by
  obtain ⟨cs, hr, hv⟩ := (VV.str_iff (U := U) (O := O) (S := S) (ι := fun _ => none) (w := w)).2 ⟨ByteArray.empty, rfl, rfl⟩
  exact ⟨cs, hr, hv⟩
theorem zeroOk_int {T : TypeId} {k : IntKind} (h : (P.info? T).bind (·.zero) = some (.int k 0)) : ZeroOk P U T (.int k) (0 : Int) := zeroOk_mk h fun _ _ _ => ⟨_, .int k 0, rfl⟩
theorem zeroOk_bool {T : TypeId} (h : (P.info? T).bind (·.zero) = some (.bool false)) : ZeroOk P U T .bool false := zeroOk_mk h fun _ _ _ => ⟨_, .bool false, rfl⟩
end
end Go.AM
