/- The abstract layer, part M8: code with labels; pointers that are data. -/
import Derived.Test.YthmbbdemecljpaaDoorK11AmM7
import Derived.Scope
namespace Go.AM
open Go
set_option linter.unusedVariables false
section
variable {U : Univ} {O : Out} {P : Program} {B : Base}
theorem WpC.label {l : Nat} {st : St U} {Q : PostQ U} (h : Q .normal st) : WpC U O P B (.label l) st Q := fun S ι _ _ hR => wp_label ⟨st, h, S, ι, hR⟩
def noGotoQ (Q : PostQ U) : PostQ U
  | .goto _, _ => False
  | e, st => Q e st
theorem noGotoQ_normal {Q : PostQ U} {st : St U} (h : Q .normal st) : noGotoQ Q .normal st := h
theorem noGotoQ_ret {Q : PostQ U} {st : St U} (h : Q .ret st) : noGotoQ Q .ret st := h
theorem noGotoQ_exit {Q : PostQ U} {st : St U} {id : Nat} (h : Q (.exit id) st) : noGotoQ Q (.exit id) st := h
theorem WpC.scope {c : Code} {st : St U} {Q : PostQ U} (h : WpC U O P B c st (noGotoQ Q)) : WpC U O P B (.scope c) st Q := fun S ι a w hR =>
  wp_scope_straight (wp_mono (h S ι a w hR) fun e a' w' ⟨st', hQ, r⟩ => by
    cases e with
    | goto l => exact hQ.elim
    | _ => exact ⟨st', hQ, r⟩)
end
section
variable {U : Univ} {O : Out}
theorem Conv.freezeP {st : St U} (t n : Nat) (ty : Ty) (x : ty.den U.T) (us : List (AVal U)) (hin : (t, AVal.loc n 0) ∈ st.sl) (hx : Expl U ty x us) (hb : (n, Blk.box us) ∈ st.hp) (hn : ∀ x ∈ st.hp, n ∉ Blk.names U x.2) :
    Conv U O st ⟨setA st.sl t (.p (.ptr ty) (some x : Option (ty.den U.T))), st.hp.filter fun x => !(x.1 == n)⟩ := by
  intro B S ι a w hR
  have hB := hR.hp _ hb
  have hmem : ∀ x ∈ st.hp.filter (fun x => !(x.1 == n)), x ∈ st.hp ∧ x.1 ≠ n := fun x hx => by
    obtain ⟨h1, h2⟩ := List.mem_filter.1 hx
    exact ⟨h1, by simpa using h2⟩
  have hmn : ∀ k ∈ nm (st.hp.filter fun x => !(x.1 == n)), k ∈ nm st.hp ∧ k ≠ n := fun k hk => by
    obtain ⟨x, hx, rfl⟩ := List.mem_map.1 hk
    exact ⟨mem_nm (hmem x hx).1, (hmem x hx).2⟩
  have hnin : n ∈ nm st.hp := mem_nm hb
  obtain ⟨b, c, vs, arr, e, h1, h2, h3, h4, h5⟩ := hB
  refine ⟨fun b => S b ∨ ∃ c, ι n = some (b, c), ι, { hR with sl := fun y hy => ?_, hp := fun x hx => ?_, own := ⟨fun k hk b c hb => ?_, fun k hk j hj => hR.own.sep k (hmn k hk).1 j (hmn j hj).1⟩, mine := (fun k hk => hR.mine k (hmn k hk).1), lt := fun b h => ?_, gl := hR.gl.mono (fun _ _ => rfl) (fun _ h => .inl h), sub := fun b h => .inl (hR.sub b h), new := fun b h => ?_ }⟩
  · rcases mem_setA hy with rfl | ⟨h6, _⟩
    · obtain ⟨b', c', h7, h8⟩ := hR.sl _ hin
      rw [h1] at h7
      obtain ⟨rfl, rfl⟩ : b = b' ∧ c = c' := by simpa using h7
      have hr := (hx.of h2).mono (S' := fun b => S b ∨ ∃ c, ι n = some (b, c)) (fun _ _ => rfl) (fun _ h => .inl h)
      refine ⟨[a.tmps.getD t undef], ?_, rfl⟩
      show Rd U O _ w (.ptr ty) _ [a.tmps.getD t undef]
      rw [h8]
      refine .pto ty x b 0 (cellsOf vs) (.inr ⟨c, h1⟩) hr fun j hj => ?_
      rw [cell_of_row w b _ arr _ (0, 0) h5, Nat.zero_add, ← Array.getElem?_toList, h4]; rfl
    · exact VV.mono (fun _ _ => rfl) (fun _ h => .inl h) _ _ (fun _ _ => rfl) (hR.sl y h6)
  · exact BR.mono (fun _ _ => rfl) (fun _ h => .inl h) rfl (fun _ _ => rfl) (fun _ _ _ => rfl) (hR.hp x (hmem x hx).1)
  · refine ⟨fun h => ?_, (hR.own.out k (hmn k hk).1 b c hb).2⟩
    rcases h with h | ⟨c', h⟩
    · exact (hR.own.out k (hmn k hk).1 b c hb).1 h
    · exact hR.own.sep k (hmn k hk).1 n hnin (hmn k hk).2 b c c' hb h
  · rcases h with h | ⟨c, h⟩
    · exact hR.lt b h
    · exact (hR.own.out n hnin b c h).2
  · rcases h with h | ⟨c, h⟩
    · exact hR.new b h
    · exact .inr (hR.mine n hnin b c h)
theorem Conv.freezeQ {st : St U} (t n : Nat) (ty : Ty) (x : ty.den U.T) (us : List (AVal U)) (hin : (t, AVal.loc n 0) ∈ st.sl) (hx : Expl U ty x us) (hb : (n, Blk.box us) ∈ st.hp) (hn : ∀ x ∈ st.hp, n ∉ Blk.names U x.2) :
    Conv U O st ⟨setA st.sl t (.pp ty x), st.hp.filter fun x => !(x.1 == n)⟩ := by
  intro B S ι a w hR
  have hB := hR.hp _ hb
  have hmem : ∀ x ∈ st.hp.filter (fun x => !(x.1 == n)), x ∈ st.hp ∧ x.1 ≠ n := fun x hx => by
    obtain ⟨h1, h2⟩ := List.mem_filter.1 hx
    exact ⟨h1, by simpa using h2⟩
  have hmn : ∀ k ∈ nm (st.hp.filter fun x => !(x.1 == n)), k ∈ nm st.hp ∧ k ≠ n := fun k hk => by
    obtain ⟨x, hx, rfl⟩ := List.mem_map.1 hk
    exact ⟨mem_nm (hmem x hx).1, (hmem x hx).2⟩
  have hnin : n ∈ nm st.hp := mem_nm hb
  obtain ⟨b, c, vs, arr, e, h1, h2, h3, h4, h5⟩ := hB
  refine ⟨fun b => S b ∨ ∃ c, ι n = some (b, c), ι, { hR with sl := fun y hy => ?_, hp := fun x hx => ?_, own := ⟨fun k hk b c hb => ?_, fun k hk j hj => hR.own.sep k (hmn k hk).1 j (hmn j hj).1⟩, mine := (fun k hk => hR.mine k (hmn k hk).1), lt := fun b h => ?_, gl := hR.gl.mono (fun _ _ => rfl) (fun _ h => .inl h), sub := fun b h => .inl (hR.sub b h), new := fun b h => ?_ }⟩
  · rcases mem_setA hy with rfl | ⟨h6, _⟩
    · obtain ⟨b', c', h7, h8⟩ := hR.sl _ hin
      rw [h1] at h7
      obtain ⟨rfl, rfl⟩ : b = b' ∧ c = c' := by simpa using h7
      have hr := (hx.of h2).mono (S' := fun b => S b ∨ ∃ c, ι n = some (b, c)) (fun _ _ => rfl) (fun _ h => .inl h)
      refine ⟨b, 0, cellsOf vs, h8, .inr ⟨c, h1⟩, hr, fun j hj => ?_⟩
      rw [cell_of_row w b _ arr _ (0, 0) h5, Nat.zero_add, ← Array.getElem?_toList, h4]; rfl
    · exact VV.mono (fun _ _ => rfl) (fun _ h => .inl h) _ _ (fun _ _ => rfl) (hR.sl y h6)
  · exact BR.mono (fun _ _ => rfl) (fun _ h => .inl h) rfl (fun _ _ => rfl) (fun _ _ _ => rfl) (hR.hp x (hmem x hx).1)
  · refine ⟨fun h => ?_, (hR.own.out k (hmn k hk).1 b c hb).2⟩
    rcases h with h | ⟨c', h⟩
    · exact (hR.own.out k (hmn k hk).1 b c hb).1 h
    · exact hR.own.sep k (hmn k hk).1 n hnin (hmn k hk).2 b c c' hb h
  · rcases h with h | ⟨c, h⟩
    · exact hR.lt b h
    · exact (hR.own.out n hnin b c h).2
  · rcases h with h | ⟨c, h⟩
    · exact hR.new b h
    · exact .inr (hR.mine n hnin b c h)
end
section
variable {U : Univ} {O : Out} {P : Program} {S : Nat → Prop} {ι : Lay} {w : World} {rs : List (Nat × AVal U)} {a : Act} {ops : Array Oper} {o : Oper}
theorem ptrV_p {t : Ty} {q : Option (t.den U.T)} : PtrV U (.p (.ptr t) q) q.isNone := fun O S ι w u ⟨cs, hr, hu⟩ => by
  cases hr with
  | pnil => exact ⟨none, hu, rfl⟩
  | pto _ x b o cs => exact ⟨some _, hu, rfl⟩
theorem sok_nilCheckP {t : Ty} {x : Operand} {q : Option (t.den U.T)} {y : t.den U.T} (hg : o.guard = none) (ho : o.op = .nilCheck x) (hx : Opd U rs x (.p (.ptr t) q)) (hq : q = some y) : SOk U O P ops o { rs := rs, ws := .pp t y } :=
  sok_val hg fun S ι w a hrs _ => by
    subst hq
    obtain ⟨cs, hr, hu⟩ := hx.ev hrs
    cases hr with
    | pto _ _ b o' cs hS hx' hc =>
    refine ⟨a.eval x, ?_, b, o', cs, hu, hS, hx', hc⟩
    unfold execOp
    rw [ho]
    have hu' : a.eval x = .pointer (some ⟨b, o', none⟩) := hu
    simp only [hu', Sem.run_pure]
theorem sok_sliceA {T E : TypeId} {t : Ty} {N : Nat} {x : Operand} {xs : List (t.den U.T)} (hg : o.guard = none) (ho : o.op = .slice T x none none none) (hT : P.underlying T = some (.array N E)) (hE : TyOk P U E t)
    (hx : Opd U rs x (.pp (.arr N t) xs)) : SOk U O P ops o { rs := rs, ws := .p (.list t) xs } :=
  sok_v hg _ (fun _ => exec_slice ho) fun S ι w a hrs _ => by
    obtain ⟨b, o', cs, hu, hS, hr, hc⟩ := hx.ev hrs
    cases hr with
    | arr _ _ _ cf hn hel =>
    have hw : ∀ i, i < N → (cf i).length = t.width U.wd := fun i hi => (hel i (by omega)).length
    refine ⟨.slice (some ⟨b, o', none⟩) xs.length xs.length, ?_, [_], .list t xs b o' xs.length cf hS (Nat.le_refl _) hel fun i j hi hj => ?_, rfl⟩
    · rw [hu]
      simp [Instr.sliceAt, Instr.sureAddr, Instr.sliceBounds, Sem.run_bind, Result.andThen_ok, run_underlying hT, run_sizeOf hE, hn, Addr.add]
    · have hlt : i * t.width U.wd + j < (Ty.arr N t).width U.wd := by
        have := Nat.mul_le_mul_right (t.width U.wd) (show i + 1 ≤ N by omega)
        rw [Nat.add_mul] at this
        show i * t.width U.wd + j < N * t.width U.wd
        omega
      rw [hc _ hlt]
      exact flatMap_range_get N _ cf hw i j (by omega) hj
end
end Go.AM
