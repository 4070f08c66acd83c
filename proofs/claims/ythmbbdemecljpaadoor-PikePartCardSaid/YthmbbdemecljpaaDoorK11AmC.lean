/- The abstract layer, part C: contracts of functions; names changed; calls. -/
import Derived.Test.YthmbbdemecljpaaDoorK11AmB
import Derived.Laws.Entries
namespace Go.AM

mutual
def AVal.ren {U : Univ} (ρ : Nat → Nat) : AVal U → AVal U
  | .junk => .junk | .lit v => .lit v | .p t x => .p t x | .pp t x => .pp t x
  | .loc n o => .loc (ρ n) o | .eloc n wd i o => .eloc (ρ n) wd i o | .vec n wd o l => .vec (ρ n) wd o l | .mp n => .mp (ρ n) | .opt q n => .opt q (ρ n)
  | .clo f vs => .clo f (AVal.renL ρ vs) | .agg vs => .agg (AVal.renL ρ vs) | .tup vs => .tup (AVal.renL ρ vs)
def AVal.renL {U : Univ} (ρ : Nat → Nat) : List (AVal U) → List (AVal U)
  | [] => []
  | v :: vs => AVal.ren ρ v :: AVal.renL ρ vs
end

def Blk.ren {U : Univ} (ρ : Nat → Nat) : Blk U → Blk U
  | .box us => .box (AVal.renL ρ us)
  | .row e t xs fx => .row e t xs fx
  | .map t kvs => .map t kvs
  | .opt q B => .opt q (Blk.ren ρ B)
  | .mapE t es clock ys => .mapE t es clock ys
  | .iter m t es clock ys left cur => .iter (ρ m) t es clock ys left cur

def renB {U : Univ} (ρ : Nat → Nat) (l : List (Nat × Blk U)) : List (Nat × Blk U) := l.map fun x => (ρ x.1, x.2.ren ρ)

section
variable {U : Univ} {O : Out} {S : Nat → Prop} {ι : Lay} {w : World} {ρ : Nat → Nat}
mutual
theorem VV.ren : ∀ (v : AVal U) (u : Value), VV U O S ι w (v.ren ρ) u ↔ VV U O S (fun n => ι (ρ n)) w v u
  | .junk, u => by simp [VV, AVal.ren]
  | .lit v, u => by simp [VV, AVal.ren]
  | .p t x, u => by simp [VV, AVal.ren]
  | .pp t x, u => by simp [VV, AVal.ren]
  | .loc n o, u => by simp [VV, AVal.ren]
  | .eloc n wd i o, u => by simp [VV, AVal.ren]
  | .vec n wd o l, u => by simp [VV, AVal.ren]
  | .mp n, u => by simp [VV, AVal.ren]
  | .opt q n, u => by simp [VV, AVal.ren]
  | .clo f vs, u => by simp only [VV, AVal.ren, VVs.ren vs]
  | .agg vs, u => by simp only [VV, AVal.ren, VVs.ren vs]
  | .tup vs, u => by simp only [VV, AVal.ren, VVs.ren vs]
theorem VVs.ren : ∀ (vs : List (AVal U)) (us : List Value), VVs U O S ι w (AVal.renL ρ vs) us ↔ VVs U O S (fun n => ι (ρ n)) w vs us
  | [], us => by simp [VVs, AVal.renL]
  | v :: vs, us => by simp only [VVs, AVal.renL, VV.ren v, VVs.ren vs]
end

theorem BR.ren (n : Nat) (B : Blk U) : BR U O S ι w (ρ n) (B.ren ρ) ↔ BR U O S (fun n => ι (ρ n)) w n B := by
  induction B with
  | box us => simp only [BR, Blk.ren, VVs.ren us]
  | row e t xs fx => simp only [BR, Blk.ren]
  | map t kvs => simp only [BR, Blk.ren]
  | opt q B ih => simp only [BR, Blk.ren, ih]
  | mapE t es clock ys => simp only [BR, Blk.ren]
  | iter m t es clock ys left cur => simp only [BR, Blk.ren]
end

mutual
theorem AVal.names_ren {U : Univ} (ρ : Nat → Nat) : ∀ v : AVal U, AVal.names U (v.ren ρ) = (AVal.names U v).map ρ
  | .junk | .lit _ | .p _ _ | .pp _ _ | .loc _ _ | .eloc _ _ _ _ | .vec _ _ _ _ | .mp _ | .opt _ _ => by simp [AVal.names, AVal.ren]
  | .clo f vs => by simp [AVal.names, AVal.ren, AVal.namesL_ren ρ vs]
  | .agg vs => by simp [AVal.names, AVal.ren, AVal.namesL_ren ρ vs]
  | .tup vs => by simp [AVal.names, AVal.ren, AVal.namesL_ren ρ vs]
theorem AVal.namesL_ren {U : Univ} (ρ : Nat → Nat) : ∀ vs : List (AVal U), AVal.namesL U (AVal.renL ρ vs) = (AVal.namesL U vs).map ρ
  | [] => by simp [AVal.namesL, AVal.renL]
  | v :: vs => by simp [AVal.namesL, AVal.renL, AVal.names_ren ρ v, AVal.namesL_ren ρ vs]
end

theorem Blk.names_ren {U : Univ} (ρ : Nat → Nat) (B : Blk U) : Blk.names U (B.ren ρ) = (Blk.names U B).map ρ := by
  induction B with
  | opt q B ih => simpa [Blk.names, Blk.ren] using ih
  | _ => simp [Blk.names, Blk.ren, AVal.namesL_ren]

/-- A call, abstractly: arguments, the owned blocks that it is handed, its answer, the blocks behind it, and which of these names are new. -/
structure CSpec (U : Univ) where
  ar : List (AVal U)
  bs : List (Nat × Blk U) := []
  r : AVal U
  bs' : List (Nat × Blk U) := []
  nn : List Nat := []

def CSpec.l {U : Univ} (c : CSpec U) : LSpec U := { cb := c.bs, pb := c.bs', ws := c.r, nn := c.nn }

def CSpec.all {U : Univ} (c : CSpec U) : List Nat :=
  AVal.namesL U c.ar ++ nm c.bs ++ c.bs.flatMap (fun x => Blk.names U x.2) ++ AVal.names U c.r ++ nm c.bs' ++ c.bs'.flatMap (fun x => Blk.names U x.2) ++ c.nn

def CSpec.ren {U : Univ} (c : CSpec U) (ρ : Nat → Nat) : CSpec U := { ar := AVal.renL ρ c.ar, bs := renB ρ c.bs, r := c.r.ren ρ, bs' := renB ρ c.bs', nn := c.nn.map ρ }

def COk (U : Univ) (O : Out) (P : Program) (f : FuncId) (c : CSpec U) : Prop :=
  ∀ (S : Nat → Prop) (ι : Lay) (w : World) (vs : List Value), (∀ b, S b → b < w.heap.size) → O.Glob S w → VVs U O S ι w c.ar vs → (∀ x ∈ c.bs, BR U O S ι w x.1 x.2) →
    Own S ι w (nm c.bs) →
    Calls P f vs.toArray w fun e w' => ∃ u S' ι', e = .returned u ∧ Nx U O c.l S ι w S' ι' w' ∧ VV U O S' ι' w' c.r u

/-- A function keeps a contract: a set of such calls. -/
def FOk (U : Univ) (O : Out) (P : Program) (f : FuncId) (sp : CSpec U → Prop) : Prop := ∀ c, sp c → COk U O P f c

def InjOn (ρ : Nat → Nat) (l : List Nat) : Prop := ∀ m ∈ l, ∀ n ∈ l, ρ m = ρ n → m = n

theorem nm_renB {U : Univ} (ρ : Nat → Nat) (l : List (Nat × Blk U)) : nm (renB ρ l) = (nm l).map ρ := by simp [nm, renB, Function.comp_def]

theorem COk.ren {U : Univ} {O : Out} {P : Program} {f : FuncId} {c : CSpec U} (h : COk U O P f c) (ρ : Nat → Nat) (hi : InjOn ρ c.all) : COk U O P f (c.ren ρ) := by
  intro S ι w vs hlt hgl has hbs hown
  have hmem : ∀ {n : Nat} {l : List Nat}, n ∈ l.map ρ → ∃ k ∈ l, ρ k = n := fun h => List.mem_map.1 h
  have hown' : Own S (fun n => ι (ρ n)) w (nm c.bs) := by
    have hall : ∀ n ∈ nm c.bs, n ∈ c.all := fun n hn => by simp only [CSpec.all, List.mem_append]; exact .inl (.inl (.inl (.inl (.inl (.inr hn)))))
    refine ⟨fun n hn b cc hb => hown.out (ρ n) ?_ b cc hb, fun n hn m hm hne b cc cc' hb => hown.sep (ρ n) ?_ (ρ m) ?_ (fun e => hne (hi n (hall n hn) m (hall m hm) e)) b cc cc' hb⟩
    all_goals (show _ ∈ nm (renB ρ c.bs); rw [nm_renB]; exact List.mem_map.2 ⟨_, ‹_›, rfl⟩)
  refine (h S (fun n => ι (ρ n)) w vs hlt hgl ((VVs.ren _ _).1 has) (fun x hx => (BR.ren x.1 x.2).1 (hbs (ρ x.1, x.2.ren ρ) (List.mem_map.2 ⟨x, hx, rfl⟩))) hown').mono ?_
  rintro e w' ⟨u, S', κ, rfl, hN, hu⟩
  let ι' : Lay := fun m => match c.nn.find? (fun k => ρ k == m) with | some k => κ k | none => ι m
  have hι : ∀ k ∈ c.all, ι' (ρ k) = κ k := by
    intro k hk
    show (match c.nn.find? (fun j => ρ j == ρ k) with | some k => κ k | none => ι (ρ k)) = κ k
    cases hf : c.nn.find? (fun j => ρ j == ρ k) with
    | some j =>
      have hj := List.find?_some hf
      have hjn := List.mem_of_find?_eq_some hf
      have : j = k := hi j (by simp only [CSpec.all, List.mem_append]; exact .inr hjn) k hk (by simpa using hj)
      simp [this]
    | none =>
      have hnk : k ∉ c.nn := fun hin => by
        have := List.find?_eq_none.1 hf k hin
        simp at this
      exact (hN.lay k hnk).symm
  have hallr : ∀ n ∈ AVal.names U c.r, n ∈ c.all := fun n hn => by simp only [CSpec.all, List.mem_append]; exact .inl (.inl (.inl (.inr hn)))
  have hallb : ∀ n ∈ nm c.bs', n ∈ c.all := fun n hn => by simp only [CSpec.all, List.mem_append]; exact .inl (.inl (.inr hn))
  have hallbs : ∀ n ∈ nm c.bs, n ∈ c.all := fun n hn => by simp only [CSpec.all, List.mem_append]; exact .inl (.inl (.inl (.inl (.inl (.inr hn)))))
  have hallbb : ∀ x ∈ c.bs', ∀ n ∈ Blk.names U x.2, n ∈ c.all := fun x hx n hn => by
    simp only [CSpec.all, List.mem_append, List.mem_flatMap]; exact .inl (.inr ⟨x, hx, hn⟩)
  refine ⟨u, S', ι', rfl, ⟨hN.os, hN.tape, hN.output, hN.size, hN.sub, ?_, hN.lt, ?_, ?_, ?_, ?_, ?_⟩, ?_⟩
  · intro b hb
    refine (hN.new b hb).imp id (Or.imp id ?_)
    rintro ⟨m, hm, c', hm'⟩
    refine ⟨ρ m, ?_, c', hm'⟩
    show _ ∈ nm (renB ρ c.bs)
    rw [nm_renB]; exact List.mem_map.2 ⟨m, hm, rfl⟩
  · intro b hb hnot
    refine hN.keep b hb fun n hn cc hcc => hnot (ρ n) ?_ cc hcc
    show _ ∈ nm (renB ρ c.bs)
    rw [nm_renB]; exact List.mem_map.2 ⟨n, hn, rfl⟩
  · intro n hn
    show (match c.nn.find? (fun j => ρ j == n) with | some k => κ k | none => ι n) = ι n
    cases hf : c.nn.find? (fun j => ρ j == n) with
    | none => rfl
    | some j =>
      exact absurd (List.mem_map.2 ⟨j, List.mem_of_find?_eq_some hf, by simpa using List.find?_some hf⟩) hn
  · intro x hx
    obtain ⟨y, hy, rfl⟩ := List.mem_map.1 hx
    refine (BR.ren y.1 y.2).2 (BR.mono (fun _ _ => rfl) (fun _ h => h) (hι _ (hallb _ (mem_nm hy))) (fun m hm => hι m (hallbb y hy m hm)) (fun _ _ _ => rfl) (hN.blk y hy))
  · intro n hn b cc hb
    have hn' : n ∈ nm (renB ρ c.bs') := hn
    rw [nm_renB] at hn'
    obtain ⟨k, hk, rfl⟩ := hmem hn'
    rw [hι k (hallb k hk)] at hb
    obtain ⟨h1, h2, h3⟩ := hN.plc k hk b cc hb
    refine ⟨h1, h2, h3.imp id ?_⟩
    rintro ⟨m, hm, c', hm'⟩
    refine ⟨ρ m, ?_, c', hm'⟩
    show _ ∈ nm (renB ρ c.bs)
    rw [nm_renB]; exact List.mem_map.2 ⟨m, hm, rfl⟩
  · intro n hn m hm hne b cc cc' hb
    have hn' : n ∈ nm (renB ρ c.bs') := hn
    have hm' : m ∈ nm (renB ρ c.bs') := hm
    rw [nm_renB] at hn' hm'
    obtain ⟨k, hk, rfl⟩ := hmem hn'
    obtain ⟨j, hj, rfl⟩ := hmem hm'
    rw [hι k (hallb k hk)] at hb
    rw [hι j (hallb j hj)]
    exact hN.sep k hk j hj (fun e => hne (by rw [e])) b cc cc' hb
  · exact (VV.ren _ _).2 (VV.mono (fun _ _ => rfl) (fun _ h => h) _ _ (fun n hn => hι n (hallr n hn)) hu)

/-! ### The operation of a call -/
theorem run_enter {P : Program} {f : FuncId} {fn : Func} (hf : P.funcs[f]? = some fn) (hname : (fn.name == "runtime.NumGoroutine") = false) (hb : fn.body.isSome = true)
    (args : Array Value) (w : World) : (callFunc f args).run P w = .ok (.enter f args) w := by
  have h1 : fn.name ≠ "runtime.NumGoroutine" := by simpa using hname
  obtain ⟨c, hc⟩ := Option.isSome_iff_exists.1 hb
  simp [callFunc, hf, h1, hc]

/-- What the loaded program knows of a function that is called. -/
structure HasBody (P : Program) (f : FuncId) : Prop where
  h : ∃ fn, P.funcs[f]? = some fn ∧ (fn.name == "runtime.NumGoroutine") = false ∧ fn.body.isSome = true

theorem opWp_plain {P : Program} {ops : Array Oper} {Q : Exit → Act → World → Prop} {o : Oper} {K : Act → World → Prop} {a : Act} {w : World} (hg : o.guard = none)
    (h : o.wp P a w K Q) : opWp P ops Q o K a w := by
  unfold opWp
  rw [if_pos (by simp [Region.wanted, hg])]
  exact .inl h

theorem oper_call {P : Program} {o : Oper} {f : FuncId} {as : Array Operand} {ts : Array TypeId} (ho : o.op = .call { callee := .value (.func f), args := as, argTypes := ts })
    (hb : HasBody P f) {a : Act} {w : World} {K : Act → World → Prop} {Q : Exit → Act → World → Prop} {R : Value → World → Prop}
    (hc : Calls P f (as.map a.eval) w fun e w' => ∃ u, e = .returned u ∧ R u w') (hK : ∀ u w', R u w' → K (a.put o.dst u) w') : o.wp P a w K Q := by
  obtain ⟨fn, hf, hname, hbd⟩ := hb.h
  unfold Oper.wp execOp
  simp only [ho, resolve, invoke, Act.eval, Deferred.ofValue, Sem.run_bind, Sem.run_pure, Result.andThen_ok, Array.empty_append, Array.append_empty, run_enter hf hname hbd, Oper.upon]
  refine hc.mono ?_
  rintro e w' ⟨u, rfl, hr⟩
  exact hK u w' hr
end Go.AM
