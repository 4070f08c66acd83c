/- The abstract layer, part N: a frame told otherwise: a nil slice as an empty row, a row under another name, a row that is written no more. -/
import Derived.Test.YthmbbdemecljpaaDoorK11AmM
namespace Go.AM

section
variable {U : Univ} {O : Out} {P : Program} {B : Base}

theorem names_sl {st : St U} {x : Nat × AVal U} (hx : x ∈ st.sl) {n : Nat} (hn : n ∈ AVal.names U x.2) : n ∈ st.names := by
  simp only [St.names, List.mem_append, List.mem_flatMap]; exact .inl (.inr ⟨x, hx, hn⟩)
theorem names_hp {st : St U} {n : Nat} (hn : n ∈ nm st.hp) : n ∈ st.names := by
  simp only [St.names, List.mem_append]; exact .inl (.inl hn)
theorem names_bk {st : St U} {x : Nat × Blk U} (hx : x ∈ st.hp) {n : Nat} (hn : n ∈ Blk.names U x.2) : n ∈ st.names := by
  simp only [St.names, List.mem_append, List.mem_flatMap]; exact .inr ⟨x, hx, hn⟩

/-- A new layout that tells of the same names the same. -/
theorem Rel.lay' {S : Nat → Prop} {ι ι' : Lay} {st : St U} {a : Act} {w : World} (hR : Rel U O B S ι st a w) (h : ∀ n ∈ st.names, ι' n = ι n) (hK : ∀ n, K0 ≤ n → ι' n = ι n) : Rel U O B S ι' st a w :=
  { hR with
    sl := fun x hx => VV.mono (fun _ _ => rfl) (fun _ h => h) _ _ (fun n hn => h n (names_sl hx hn)) (hR.sl x hx)
    hp := fun x hx => BR.mono (fun _ _ => rfl) (fun _ h => h) (h _ (names_hp (mem_nm hx))) (fun n hn => h n (names_bk hx hn)) (fun _ _ _ => rfl) (hR.hp x hx)
    own := ⟨fun n hn b c hb => hR.own.out n hn b c (by rw [← h n (names_hp hn)]; exact hb), fun n hn m hm hne b c c' hb hb' =>
      hR.own.sep n hn m hm hne b c c' (by rw [← h n (names_hp hn)]; exact hb) (by rw [← h m (names_hp hm)]; exact hb')⟩
    mine := fun n hn b c hb => hR.mine n hn b c (by rw [← h n (names_hp hn)]; exact hb)
    lay := fun n hn => (hK n hn).trans (hR.lay n hn) }

/-- A nil slice as an empty row of a new name. -/
theorem Conv.thaw {st : St U} (t n E : Nat) (ty : Ty) (hin : (t, AVal.lit (.slice none 0 0)) ∈ st.sl) (hn : st.names.contains n = false) (hlo : n < K0) :
    Conv U O st ⟨setA st.sl t (.vec n (ty.width U.wd) 0 0), (n, .row E ty [] false) :: st.hp⟩ := by
  intro B S ι a w hR
  have hn' : n ∉ st.names := by simpa using hn
  have hR' := hR.lay' (ι' := fun m => if m = n then none else ι m) (fun m hm => if_neg fun (e : m = n) => hn' (e ▸ hm)) (fun m hm => if_neg (by omega))
  refine ⟨S, _, { hR' with sl := fun x hx => ?_, hp := fun x hx => ?_, own := ⟨fun m hm b c hb => ?_, fun m hm k hk hne b c c' hb => ?_⟩, mine := fun m hm b c hb => ?_ }⟩
  · rcases mem_setA hx with rfl | ⟨h1, _⟩
    · exact .inl ⟨if_pos rfl, rfl, rfl, (hR.sl _ hin).1⟩
    · exact hR'.sl x h1
  · rcases List.mem_cons.1 hx with rfl | h1
    · exact .inl ⟨if_pos rfl, rfl, rfl⟩
    · exact hR'.hp x h1
  · rcases List.mem_cons.1 hm with rfl | h1
    · simp at hb
    · exact hR'.own.out m h1 b c hb
  · rcases List.mem_cons.1 hm with rfl | h1
    · simp at hb
    · rcases List.mem_cons.1 hk with rfl | h2
      · simp
      · exact hR'.own.sep m h1 k h2 hne b c c' hb
  · rcases List.mem_cons.1 hm with rfl | h1
    · simp at hb
    · exact hR'.mine m h1 b c hb

def swap1 (n m : Nat) : Nat → Nat := fun k => if k = n then m else k

/-- A block under a new name. -/
theorem Conv.ren {st st' : St U} (n m : Nat) (hm : m < K0) (hf : st.names.contains m = false) (hs : st.sl.map (fun x => (x.1, x.2.ren (swap1 n m))) = st'.sl)
    (hh : st.hp.map (fun x => (swap1 n m x.1, x.2.ren (swap1 n m))) = st'.hp) : Conv U O st st' := by
  intro B S ι a w hR
  have hf' : m ∉ st.names := by simpa using hf
  let ι' : Lay := fun k => if k = m then ι n else ι k
  have key : ∀ k ∈ st.names, ι' (swap1 n m k) = ι k := fun k hk => by
    unfold swap1
    by_cases e : k = n
    · rw [if_pos e, e]; exact if_pos rfl
    · rw [if_neg e]; exact if_neg fun (e' : k = m) => hf' (e' ▸ hk)
  have inj : ∀ k ∈ st.names, ∀ j ∈ st.names, swap1 n m k = swap1 n m j → k = j := fun k hk j hj e => by
    unfold swap1 at e
    by_cases e1 : k = n <;> by_cases e2 : j = n
    · rw [e1, e2]
    · rw [if_pos e1, if_neg e2] at e; exact absurd (e ▸ hj) hf'
    · rw [if_neg e1, if_pos e2] at e; exact absurd (e ▸ hk) hf'
    · rwa [if_neg e1, if_neg e2] at e
  have hnm : ∀ k ∈ nm st'.hp, ∃ j ∈ nm st.hp, swap1 n m j = k := fun k hk => by
    rw [← hh] at hk
    obtain ⟨x, hx, rfl⟩ := List.mem_map.1 hk
    obtain ⟨y, hy, rfl⟩ := List.mem_map.1 hx
    exact ⟨y.1, mem_nm hy, rfl⟩
  refine ⟨S, ι', { hR with sl := fun x hx => ?_, hp := fun x hx => ?_, own := ⟨fun k hk b c hb => ?_, fun k hk j hj hne b c c' hb => ?_⟩, mine := fun k hk b c hb => ?_, lay := fun k hk => ?_ }⟩
  · rw [← hs] at hx
    obtain ⟨y, hy, rfl⟩ := List.mem_map.1 hx
    exact (VV.ren _ _).2 (VV.mono (fun _ _ => rfl) (fun _ h => h) _ _ (fun k hk => key k (names_sl hy hk)) (hR.sl y hy))
  · rw [← hh] at hx
    obtain ⟨y, hy, rfl⟩ := List.mem_map.1 hx
    exact (BR.ren _ _).2 (BR.mono (fun _ _ => rfl) (fun _ h => h) (key _ (names_hp (mem_nm hy))) (fun k hk => key k (names_bk hy hk)) (fun _ _ _ => rfl) (hR.hp y hy))
  · obtain ⟨i, hi, rfl⟩ := hnm k hk
    rw [key i (names_hp hi)] at hb
    exact hR.own.out i hi b c hb
  · obtain ⟨i, hi, rfl⟩ := hnm k hk
    obtain ⟨i', hi', rfl⟩ := hnm j hj
    rw [key i (names_hp hi)] at hb
    rw [key i' (names_hp hi')]
    exact hR.own.sep i hi i' hi' (fun e => hne (by rw [e])) b c c' hb
  · obtain ⟨i, hi, rfl⟩ := hnm k hk
    rw [key i (names_hp hi)] at hb
    exact hR.mine i hi b c hb
  · show (if k = m then ι n else ι k) = _
    rw [if_neg (by omega)]
    exact hR.lay k hk

/-- A row that is written no more reads as a list. -/
theorem Conv.freeze {st : St U} (t n E len : Nat) (ty : Ty) (xs : List (ty.den U.T)) (fx : Bool) (hin : (t, AVal.vec n (ty.width U.wd) 0 len) ∈ st.sl) (hlen : len = xs.length)
    (hb : (n, Blk.row E ty xs fx) ∈ st.hp) (hn : ∀ x ∈ st.hp, n ∉ Blk.names U x.2) :
    Conv U O st ⟨setA st.sl t (.p (.list ty) xs), st.hp.filter fun x => !(x.1 == n)⟩ := by
  intro B S ι a w hR
  have hB := hR.hp _ hb
  have hmem : ∀ x ∈ st.hp.filter (fun x => !(x.1 == n)), x ∈ st.hp ∧ x.1 ≠ n := fun x hx => by
    obtain ⟨h1, h2⟩ := List.mem_filter.1 hx
    exact ⟨h1, by simpa using h2⟩
  have hmn : ∀ k ∈ nm (st.hp.filter fun x => !(x.1 == n)), k ∈ nm st.hp ∧ k ≠ n := fun k hk => by
    obtain ⟨x, hx, rfl⟩ := List.mem_map.1 hk
    exact ⟨mem_nm (hmem x hx).1, (hmem x hx).2⟩
  have hnin : n ∈ nm st.hp := mem_nm hb
  refine ⟨fun b => S b ∨ ∃ c, ι n = some (b, c), ι, { hR with sl := fun x hx => ?_, hp := fun x hx => ?_, own := ⟨fun k hk b c hb => ?_, fun k hk j hj => hR.own.sep k (hmn k hk).1 j (hmn j hj).1⟩, mine := (fun k hk => hR.mine k (hmn k hk).1), lt := fun b h => ?_, gl := hR.gl.mono (fun _ _ => rfl) (fun _ h => .inl h), sub := fun b h => .inl (hR.sub b h), new := fun b h => ?_ }⟩
  · rcases mem_setA hx with rfl | ⟨h1, _⟩
    · have hv := (View.row (vw := [(n, Blk.row E ty xs fx)]) 0 len (List.mem_cons_self) (by omega)).ev (fun x hx => by simp at hx; subst hx; exact hB) (hR.sl _ hin)
      have e : ((xs.drop 0).take len) = xs := by rw [hlen]; simp
      rw [e] at hv
      refine VV.mono (fun _ _ => rfl) (fun b hb => ?_) _ _ (fun _ _ => rfl) hv
      rcases hb with hb | ⟨m, hm, c, hc⟩
      · exact .inl hb
      · simp at hm; subst hm; exact .inr ⟨c, hc⟩
    · exact VV.mono (fun _ _ => rfl) (fun _ h => .inl h) _ _ (fun _ _ => rfl) (hR.sl x h1)
  · exact BR.mono (fun _ _ => rfl) (fun _ h => .inl h) rfl (fun _ _ => rfl) (fun _ _ _ => rfl) (hR.hp x (hmem x hx).1)
  · refine ⟨fun h => ?_, (hR.own.out k (hmn k hk).1 b c hb).2⟩
    rcases h with h | ⟨c', h⟩
    · exact (hR.own.out k (hmn k hk).1 b c hb).1 h
    · exact hR.own.sep k (hmn k hk).1 n hnin (hmn k hk).2 b c c' hb h
  · rcases h with h | ⟨c, h⟩
    · exact hR.lt b h
    · exact (hR.own.out n hnin b c h).2
  · rcases h with h | ⟨c, h⟩
    · exact hR.new b h
    · exact .inr (hR.mine n hnin b c h)
end
end Go.AM
