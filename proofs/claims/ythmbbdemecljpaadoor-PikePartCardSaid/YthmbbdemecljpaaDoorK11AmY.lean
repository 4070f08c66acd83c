/- The abstract layer, part Y: rows in variables that are written no more; arrays of truth values. -/
import Derived.Test.YthmbbdemecljpaaDoorK11AmX
namespace Go.AM
set_option linter.unusedVariables false

section
variable {U : Univ} {O : Out}
theorem rd_falses (n : Nat) (O : Out) (S : Nat → Prop) (w : World) : Rd U O S w (.arr n .bool) (List.replicate n false) ((List.range n).flatMap fun _ => [.bool false]) :=
  .arr n .bool _ _ (List.length_replicate (n := n) (a := false)) fun i hi => by
    have : (List.replicate n false)[i]'hi = false := List.getElem_replicate ..
    rw [show ((List.replicate n false : List (Ty.bool.den U.T))[i]'hi) = false from this]
    exact .bool false

/-- A row that a variable holds, and that is written no more, reads as a list. -/
theorem Conv.freezeU {st : St U} (n m E len : Nat) (ty : Ty) (xs : List (ty.den U.T)) (fx : Bool) (pre post : List (AVal U)) (hin : (n, Blk.box (pre ++ .vec m (ty.width U.wd) 0 len :: post)) ∈ st.hp) (hlen : len = xs.length)
    (hb : (m, Blk.row E ty xs fx) ∈ st.hp) (hne : (n == m) = false) :
    Conv U O st ⟨st.sl, (setA st.hp n (.box (pre ++ .p (.list ty) xs :: post))).filter fun x => !(x.1 == m)⟩ := by
  have hne' : n ≠ m := by simpa using hne
  intro B S ι a w hR
  have hB := hR.hp _ hb
  have hX := hR.hp _ hin
  have hmem : ∀ x ∈ (setA st.hp n (.box (pre ++ .p (.list ty) xs :: post))).filter (fun x => !(x.1 == m)), (x = (n, .box (pre ++ .p (.list ty) xs :: post)) ∨ x ∈ st.hp ∧ x.1 ≠ n) ∧ x.1 ≠ m := fun x hx => by
    obtain ⟨h1, h2⟩ := List.mem_filter.1 hx
    exact ⟨mem_setA h1, by simpa using h2⟩
  have hmn : ∀ k ∈ nm ((setA st.hp n (.box (pre ++ .p (.list ty) xs :: post))).filter fun x => !(x.1 == m)), k ∈ nm st.hp ∧ k ≠ m := fun k hk => by
    obtain ⟨x, hx, rfl⟩ := List.mem_map.1 hk
    obtain ⟨h1, h2⟩ := hmem x hx
    refine ⟨?_, h2⟩
    rcases h1 with rfl | ⟨h1, _⟩
    · exact List.mem_map.2 ⟨_, hin, rfl⟩
    · exact mem_nm h1
  have hmin : m ∈ nm st.hp := mem_nm hb
  have hSS : ∀ b, S b → (S b ∨ ∃ c, ι m = some (b, c)) := fun b h => .inl h
  refine ⟨fun b => S b ∨ ∃ c, ι m = some (b, c), ι, { hR with sl := fun x hx => ?_, hp := fun x hx => ?_, own := ⟨fun k hk b c hb => ?_, fun k hk j hj => hR.own.sep k (hmn k hk).1 j (hmn j hj).1⟩, mine := (fun k hk => hR.mine k (hmn k hk).1), lt := fun b h => ?_, gl := hR.gl.mono (fun _ _ => rfl) (fun _ h => .inl h), sub := fun b h => .inl (hR.sub b h), new := fun b h => ?_ }⟩
  · exact VV.mono (fun _ _ => rfl) hSS _ _ (fun _ _ => rfl) (hR.sl x hx)
  · obtain ⟨h1, h2⟩ := hmem x hx
    rcases h1 with rfl | ⟨h1, _⟩
    · obtain ⟨b, c, vs, arr, e, g1, g2, g3, g4, g5⟩ := hX
      obtain ⟨v1, v2, rfl, g6, g7⟩ := VVs.append.1 g2
      simp only [VVs] at g7
      obtain ⟨u, us', rfl, g8, g9⟩ := g7
      have hv := (View.row (vw := [(m, Blk.row E ty xs fx)]) 0 len (List.mem_cons_self) (by omega)).ev (fun x hx => by simp at hx; subst hx; exact hB) g8
      have e' : ((xs.drop 0).take len) = xs := by rw [hlen]; simp
      rw [e'] at hv
      have hv' : VV U O (fun b => S b ∨ ∃ c, ι m = some (b, c)) ι w (.p (.list ty) xs) u := VV.mono (fun _ _ => rfl) (fun b hb => by
        rcases hb with hb | ⟨k, hk, c, hc⟩
        · exact .inl hb
        · simp at hk; subst hk; exact .inr ⟨c, hc⟩) _ _ (fun _ _ => rfl) hv
      exact ⟨b, c, v1 ++ u :: us', arr, e, g1, VVs.append.2 ⟨v1, _, rfl, VVs.mono (fun _ _ => rfl) hSS _ _ (fun _ _ => rfl) g6, ⟨u, us', rfl, hv', VVs.mono (fun _ _ => rfl) hSS _ _ (fun _ _ => rfl) g9⟩⟩, g3, g4, g5⟩
    · exact BR.mono (fun _ _ => rfl) hSS rfl (fun _ _ => rfl) (fun _ _ _ => rfl) (hR.hp x h1)
  · refine ⟨fun h => ?_, (hR.own.out k (hmn k hk).1 b c hb).2⟩
    rcases h with h | ⟨c', h⟩
    · exact (hR.own.out k (hmn k hk).1 b c hb).1 h
    · exact hR.own.sep k (hmn k hk).1 m hmin (hmn k hk).2 b c c' hb h
  · rcases h with h | ⟨c, h⟩
    · exact hR.lt b h
    · exact (hR.own.out m hmin b c h).2
  · rcases h with h | ⟨c, h⟩
    · exact hR.new b h
    · exact .inr (hR.mine m hmin b c h)

section
variable {P : Program} {ops : Array Oper} {o : Oper} {rs : List (Nat × AVal U)}
theorem o0 {t : Nat} {v : AVal U} : Opd U ((t, v) :: rs) (.tmp t) v := .tmp (.head _)
theorem o1 {t : Nat} {v : AVal U} {x : Nat × AVal U} : Opd U (x :: (t, v) :: rs) (.tmp t) v := .tmp (.tail _ (.head _))
theorem mv {t : Nat} {v : AVal U} (hg : o.guard = none) (ho : o.op = .move (.tmp t)) : SOk U O P ops o { rs := [(t, v)], ws := v } := sok_move hg (.inl ho) o0
theorem mva {t : Nat} {v : AVal U} (hg : o.guard = none) (ho : o.op = .assign (.tmp t)) : SOk U O P ops o { rs := [(t, v)], ws := v } := sok_move hg (.inr ho) o0
end

/-- An operation that reads a list, done with an owned row that is given away for it. -/
theorem sok_give {P : Program} {ops : Array Oper} {o : Oper} {s : LSpec U} {t n E len : Nat} {ty : Ty} {xs : List (ty.den U.T)} {fx : Bool} (pre post : List (Nat × AVal U)) (h : SOk U O P ops o s) (hin : s.rs = pre ++ (t, .p (.list ty) xs) :: post)
    (hl : len = xs.length) (hn : (nm s.ro ++ nm s.cb).contains n = false) :
    SOk U O P ops o { s with rs := pre ++ (t, .vec n (ty.width U.wd) 0 len) :: post, cb := (n, .row E ty xs fx) :: s.cb } := by
  have hn' := notin_of hn
  simp only [List.mem_append, not_or] at hn'
  intro S ι w a hlt hgl hrs hro hcb hown K Q hK
  have hB := hcb (n, .row E ty xs fx) List.mem_cons_self
  have hmem : ∀ k, k ∈ nm s.ro ++ nm s.cb → k ∈ nm s.ro ++ nm ((n, Blk.row E ty xs fx) :: s.cb) := fun k hk => by
    rcases List.mem_append.1 hk with h | h
    · exact List.mem_append.2 (.inl h)
    · exact List.mem_append.2 (.inr (List.mem_cons_of_mem _ h))
  have hnin : n ∈ nm s.ro ++ nm ((n, Blk.row E ty xs fx) :: s.cb) := List.mem_append.2 (.inr List.mem_cons_self)
  have hSS : ∀ b, S b → (S b ∨ ∃ c, ι n = some (b, c)) := fun b h => .inl h
  refine h (fun b => S b ∨ ∃ c, ι n = some (b, c)) ι w a (fun b hb => hb.elim (hlt b) fun ⟨c, hc⟩ => (hown.out n hnin b c hc).2) (hgl.mono (fun _ _ => rfl) hSS) (fun x hx => ?_)
    (fun x hx => BR.mono (fun _ _ => rfl) hSS rfl (fun _ _ => rfl) (fun _ _ _ => rfl) (hro x hx)) (fun x hx => BR.mono (fun _ _ => rfl) hSS rfl (fun _ _ => rfl) (fun _ _ _ => rfl) (hcb x (List.mem_cons_of_mem _ hx)))
    ⟨fun k hk b c hb => ⟨fun hS => hS.elim (hown.out k (hmem k hk) b c hb).1 fun ⟨c', hc'⟩ => hown.sep k (hmem k hk) n hnin (fun e => (List.mem_append.1 hk).elim (e ▸ hn'.1) (e ▸ hn'.2)) b c c' hb hc', (hown.out k (hmem k hk) b c hb).2⟩,
      fun k hk j hj => hown.sep k (hmem k hk) j (hmem j hj)⟩ K Q fun u S' ι' w' hN hu => hK u S' ι' w' ?_ hu
  · rw [hin] at hx
    rcases List.mem_append.1 hx with hx | hx
    · exact VV.mono (fun _ _ => rfl) hSS _ _ (fun _ _ => rfl) (hrs x (List.mem_append.2 (.inl hx)))
    · rcases List.mem_cons.1 hx with rfl | hx
      · have hv0 := hrs (t, .vec n (ty.width U.wd) 0 len) (List.mem_append.2 (.inr List.mem_cons_self))
        have hv := (View.row (vw := [(n, Blk.row E ty xs fx)]) 0 len (List.mem_cons_self) (by omega)).ev (fun x hx => by simp at hx; subst hx; exact hB) hv0
        have e : ((xs.drop 0).take len) = xs := by rw [hl]; simp
        rw [e] at hv
        refine VV.mono (fun _ _ => rfl) (fun b hb => ?_) _ _ (fun _ _ => rfl) hv
        rcases hb with hb | ⟨m, hm, c, hc⟩
        · exact .inl hb
        · simp at hm; subst hm; exact .inr ⟨c, hc⟩
      · exact VV.mono (fun _ _ => rfl) hSS _ _ (fun _ _ => rfl) (hrs x (List.mem_append.2 (.inr (List.mem_cons_of_mem _ hx))))
  · refine ⟨hN.os, hN.tape, hN.output, hN.size, fun b hb => hN.sub b (.inl hb), fun b hb => ?_, hN.lt, fun b hb hnot => hN.keep b hb fun k hk => hnot k (List.mem_cons_of_mem _ hk), hN.lay, hN.blk, fun k hk b c hb => ?_, hN.sep⟩
    · rcases hN.new b hb with (h | ⟨c, h⟩) | h | ⟨m, hm, c, h⟩
      · exact .inl h
      · exact .inr (.inr ⟨n, List.mem_cons_self, c, h⟩)
      · exact .inr (.inl h)
      · exact .inr (.inr ⟨m, List.mem_cons_of_mem _ hm, c, h⟩)
    · obtain ⟨h1, h2, h3⟩ := hN.plc k hk b c hb
      exact ⟨h1, h2, h3.imp id fun ⟨m, hm, c', h'⟩ => ⟨m, List.mem_cons_of_mem _ hm, c', h'⟩⟩
abbrev I6 : Ty := .int .i64
abbrev U6 : Ty := .arr 4 (.int .u64)
abbrev Z4 : List Int := List.replicate 4 (0 : Int)
end
end Go.AM
