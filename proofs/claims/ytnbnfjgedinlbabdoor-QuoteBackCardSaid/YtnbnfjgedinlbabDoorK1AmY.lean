/- The abstract layer, part Y: rows in variables that are written no more; arrays of truth values. -/
import Derived.Test.YtnbnfjgedinlbabDoorK1AmX
namespace Go.AM
set_option linter.unusedVariables false

section
variable {U : Univ} {O : Out}
theorem rd_falses (n : Nat) (O : Out) (S : Nat → Prop) (w : World) : Rd U O S w (.arr n .bool) (List.replicate n false) ((List.range n).flatMap fun _ => [.bool false]) :=
  .arr n .bool _ _ (List.length_replicate (n := n) (a := false)) fun i hi => by
    have : (List.replicate n false)[i]'hi = false := List.getElem_replicate ..
    rw [show ((List.replicate n false : List (Ty.bool.den U.T))[i]'hi) = false from this]
    exact .bool false

/-- A row that a variable holds, and that is written no more, reads as a list. -/
theorem Conv.freezeU {st : St U} (n m E len : Nat) (ty : Ty) (xs : List (ty.den U.T)) (fx : Bool) (pre post : List (AVal U)) (hin : (n, Blk.box (pre ++ .vec m (ty.width U.wd) 0 len :: post)) ∈ st.hp) (hlen : len = xs.length)
    (hb : (m, Blk.row E ty xs fx) ∈ st.hp) (hne : (n == m) = false) :
    Conv U O st ⟨st.sl, (setA st.hp n (.box (pre ++ .p (.list ty) xs :: post))).filter fun x => !(x.1 == m)⟩ := by
  have hne' : n ≠ m := by simpa using hne
  intro B S ι a w hR
  have hB := hR.hp _ hb
  have hX := hR.hp _ hin
  have hmem : ∀ x ∈ (setA st.hp n (.box (pre ++ .p (.list ty) xs :: post))).filter (fun x => !(x.1 == m)), (x = (n, .box (pre ++ .p (.list ty) xs :: post)) ∨ x ∈ st.hp ∧ x.1 ≠ n) ∧ x.1 ≠ m := fun x hx => by
    obtain ⟨h1, h2⟩ := List.mem_filter.1 hx
    exact ⟨mem_setA h1, by simpa using h2⟩
  have hmn : ∀ k ∈ nm ((setA st.hp n (.box (pre ++ .p (.list ty) xs :: post))).filter fun x => !(x.1 == m)), k ∈ nm st.hp ∧ k ≠ m := fun k hk => by
    obtain ⟨x, hx, rfl⟩ := List.mem_map.1 hk
    obtain ⟨h1, h2⟩ := hmem x hx
    refine ⟨?_, h2⟩
    rcases h1 with rfl | ⟨h1, _⟩
    · exact List.mem_map.2 ⟨_, hin, rfl⟩
    · exact mem_nm h1
  have hmin : m ∈ nm st.hp := mem_nm hb
  have hSS : ∀ b, S b → (S b ∨ ∃ c, ι m = some (b, c)) := fun b h => .inl h
  refine ⟨fun b => S b ∨ ∃ c, ι m = some (b, c), ι, { hR with sl := fun x hx => ?_, hp := fun x hx => ?_, own := ⟨fun k hk b c hb => ?_, fun k hk j hj => hR.own.sep k (hmn k hk).1 j (hmn j hj).1⟩, mine := (fun k hk => hR.mine k (hmn k hk).1), lt := fun b h => ?_, gl := hR.gl.mono (fun _ _ => rfl) (fun _ h => .inl h), sub := fun b h => .inl (hR.sub b h), new := fun b h => ?_ }⟩
  · exact VV.mono (fun _ _ => rfl) hSS _ _ (fun _ _ => rfl) (hR.sl x hx)
  · obtain ⟨h1, h2⟩ := hmem x hx
    rcases h1 with rfl | ⟨h1, _⟩
    · obtain ⟨b, c, vs, arr, e, g1, g2, g3, g4, g5⟩ := hX
      obtain ⟨v1, v2, rfl, g6, g7⟩ := VVs.append.1 g2
      simp only [VVs] at g7
      obtain ⟨u, us', rfl, g8, g9⟩ := g7
      have hv := (View.row (vw := [(m, Blk.row E ty xs fx)]) 0 len (List.mem_cons_self) (by omega)).ev (fun x hx => by simp at hx; subst hx; exact hB) g8
      have e' : ((xs.drop 0).take len) = xs := by rw [hlen]; simp
      rw [e'] at hv
      have hv' : VV U O (fun b => S b ∨ ∃ c, ι m = some (b, c)) ι w (.p (.list ty) xs) u := VV.mono (fun _ _ => rfl) (fun b hb => by
        rcases hb with hb | ⟨k, hk, c, hc⟩
        · exact .inl hb
        · simp at hk; subst hk; exact .inr ⟨c, hc⟩) _ _ (fun _ _ => rfl) hv
      exact ⟨b, c, v1 ++ u :: us', arr, e, g1, VVs.append.2 ⟨v1, _, rfl, VVs.mono (fun _ _ => rfl) hSS _ _ (fun _ _ => rfl) g6, ⟨u, us', rfl, hv', VVs.mono (fun _ _ => rfl) hSS _ _ (fun _ _ => rfl) g9⟩⟩, g3, g4, g5⟩
    · exact BR.mono (fun _ _ => rfl) hSS rfl (fun _ _ => rfl) (fun _ _ _ => rfl) (hR.hp x h1)
  · refine ⟨fun h => ?_, (hR.own.out k (hmn k hk).1 b c hb).2⟩
    rcases h with h | ⟨c', h⟩
    · exact (hR.own.out k (hmn k hk).1 b c hb).1 h
    · exact hR.own.sep k (hmn k hk).1 m hmin (hmn k hk).2 b c c' hb h
  · rcases h with h | ⟨c, h⟩
    · exact hR.lt b h
    · exact (hR.own.out m hmin b c h).2
  · rcases h with h | ⟨c, h⟩
    · exact hR.new b h
    · exact .inr (hR.mine m hmin b c h)

section
variable {P : Program} {ops : Array Oper} {o : Oper} {rs : List (Nat × AVal U)}
theorem o0 {t : Nat} {v : AVal U} : Opd U ((t, v) :: rs) (.tmp t) v := .tmp (.head _)
theorem o1 {t : Nat} {v : AVal U} {x : Nat × AVal U} : Opd U (x :: (t, v) :: rs) (.tmp t) v := .tmp (.tail _ (.head _))
theorem mv {t : Nat} {v : AVal U} (hg : o.guard = none) (ho : o.op = .move (.tmp t)) : SOk U O P ops o { rs := [(t, v)], ws := v } := sok_move hg (.inl ho) o0
theorem mva {t : Nat} {v : AVal U} (hg : o.guard = none) (ho : o.op = .assign (.tmp t)) : SOk U O P ops o { rs := [(t, v)], ws := v } := sok_move hg (.inr ho) o0
end
abbrev I6 : Ty := .int .i64
abbrev U6 : Ty := .arr 4 (.int .u64)
abbrev Z4 : List Int := List.replicate 4 (0 : Int)
end
end Go.AM
