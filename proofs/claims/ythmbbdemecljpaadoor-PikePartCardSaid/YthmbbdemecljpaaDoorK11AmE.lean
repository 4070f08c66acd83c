/- The abstract layer, part E: control, loops, a function's body. -/
import Derived.Test.YthmbbdemecljpaaDoorK11AmD
namespace Go.AM

section
variable {U : Univ} {O : Out} {P : Program} {B : Base}

abbrev PostQ (U : Univ) : Type := Exit → St U → Prop

def post (U : Univ) (O : Out) (B : Base) (Q : PostQ U) : Exit → Act → World → Prop := fun e a w => ∃ st, Q e st ∧ ∃ S ι, Rel U O B S ι st a w

def WpC (U : Univ) (O : Out) (P : Program) (B : Base) (c : Code) (st : St U) (Q : PostQ U) : Prop :=
  ∀ S ι a w, Rel U O B S ι st a w → c.wp P (post U O B Q) a w

def thenQ (N : St U → Prop) (Q : PostQ U) : PostQ U
  | .normal, st => N st
  | e, st => Q e st

def blockQ (id : Nat) (Q : PostQ U) : PostQ U
  | .exit id', st => if id' = id then Q .normal st else Q (.exit id') st
  | e, st => Q e st

theorem WpC.mono {c : Code} {st : St U} {Q Q' : PostQ U} (h : WpC U O P B c st Q) (hq : ∀ e st, Q e st → Q' e st) : WpC U O P B c st Q' :=
  fun S ι a w hR => wp_mono (h S ι a w hR) fun _ _ _ ⟨st', hQ, r⟩ => ⟨st', hq _ _ hQ, r⟩

theorem WpC.seq {x y : Code} {st : St U} {Q : PostQ U} (h : WpC U O P B x st (thenQ (fun st' => WpC U O P B y st' Q) Q)) : WpC U O P B (.seq x y) st Q := by
  intro S ι a w hR
  refine wp_seq (wp_mono (h S ι a w hR) ?_)
  rintro e a' w' ⟨st', hQ, S', ι', hR'⟩
  cases e with
  | normal => exact hQ S' ι' a' w' hR'
  | _ => exact ⟨st', hQ, S', ι', hR'⟩

theorem WpC.skip {st : St U} {Q : PostQ U} (h : Q .normal st) : WpC U O P B .skip st Q := fun S ι _ _ hR => wp_skip ⟨st, h, S, ι, hR⟩
theorem WpC.ret {st : St U} {Q : PostQ U} (h : Q .ret st) : WpC U O P B .ret st Q := fun S ι _ _ hR => wp_ret ⟨st, h, S, ι, hR⟩
theorem WpC.exit {id : Nat} {st : St U} {Q : PostQ U} (h : Q (.exit id) st) : WpC U O P B (.exit id) st Q := fun S ι _ _ hR => wp_exit ⟨st, h, S, ι, hR⟩

theorem WpC.block {id : Nat} {c : Code} {st : St U} {Q : PostQ U} (h : WpC U O P B c st (blockQ id Q)) : WpC U O P B (.block id c) st Q := by
  intro S ι a w hR
  refine wp_block (wp_mono (h S ι a w hR) ?_)
  rintro e a' w' ⟨st', hQ, hR'⟩
  cases e with
  | exit id' =>
    simp only [blockQ] at hQ
    simp only [Exit.inBlock]
    split
    · rename_i e; rw [if_pos e] at hQ; exact ⟨st', hQ, hR'⟩
    · rename_i e; rw [if_neg e] at hQ; exact ⟨st', hQ, hR'⟩
  | _ => exact ⟨st', hQ, hR'⟩

theorem WpC.cond {x : Operand} {b : Bool} {c d : Code} {st : St U} {Q : PostQ U} (hx : Opd U st.sl x (.p .bool b)) (h1 : b = true → WpC U O P B c st Q) (h2 : b = false → WpC U O P B d st Q) :
    WpC U O P B (.cond x c d) st Q := fun S ι a w hR =>
  wp_cond_split (VV.bool_iff.1 (hx.ev hR.sl)) (fun e => h1 e S ι a w hR) (fun e => h2 e S ι a w hR)

/-- A frame of which less is told. -/
structure St.Le (st' st : St U) : Prop where
  sl : ∀ x ∈ st'.sl, x ∈ st.sl
  hp : ∀ x ∈ st'.hp, x ∈ st.hp

theorem Rel.weak {st st' : St U} (h : St.Le st' st) {S : Nat → Prop} {ι : Lay} {a : Act} {w : World} (hR : Rel U O B S ι st a w) : Rel U O B S ι st' a w := by
  have hn : ∀ n ∈ nm st'.hp, n ∈ nm st.hp := fun n hn => by obtain ⟨x, hx, rfl⟩ := List.mem_map.1 hn; exact mem_nm (h.hp x hx)
  exact { hR with
    sl := fun x hx => hR.sl x (h.sl x hx)
    hp := fun x hx => hR.hp x (h.hp x hx)
    own := ⟨fun n hm => hR.own.out n (hn n hm), fun n hn' m hm => hR.own.sep n (hn n hn') m (hn m hm)⟩
    mine := fun n hm => hR.mine n (hn n hm) }

theorem WpC.weak {c : Code} {st st' : St U} {Q : PostQ U} (h : St.Le st' st) (hc : WpC U O P B c st' Q) : WpC U O P B c st Q :=
  fun S ι a w hR => hc S ι a w (hR.weak h)

def lookA {α : Type} : List (Nat × α) → Nat → Option α
  | [], _ => none
  | x :: l, t => if x.1 = t then some x.2 else lookA l t

theorem lookA_mem {α : Type} {l : List (Nat × α)} {t : Nat} {v : α} (h : lookA l t = some v) : (t, v) ∈ l := by
  induction l with
  | nil => cases h
  | cons x l ih =>
    unfold lookA at h
    split at h
    · rename_i e; obtain ⟨a, b⟩ := x; simp at e h; subst e h; exact List.mem_cons_self
    · exact List.mem_cons_of_mem _ (ih h)

def takeA {α : Type} (l : List (Nat × α)) (ts : List Nat) : List (Nat × α) := ts.filterMap fun t => (lookA l t).map fun v => (t, v)
theorem mem_takeA {α : Type} {l : List (Nat × α)} {ts : List Nat} {x : Nat × α} (h : x ∈ takeA l ts) : x ∈ l := by
  obtain ⟨t, _, h⟩ := List.mem_filterMap.1 h
  cases hl : lookA l t with
  | none => rw [hl] at h; cases h
  | some v => rw [hl] at h; simp at h; subst h; exact lookA_mem hl

/-- Only the slots and the blocks that are named, in this order. -/
def St.keep (st : St U) (ts ns : List Nat) : St U := ⟨takeA st.sl ts, takeA st.hp ns⟩
theorem St.keep_le (st : St U) (ts ns : List Nat) : St.Le (st.keep ts ns) st := ⟨fun _ hx => mem_takeA hx, fun _ hx => mem_takeA hx⟩

theorem WpC.keep {c : Code} {st : St U} {Q : PostQ U} (ts ns : List Nat) (hc : WpC U O P B c (st.keep ts ns) Q) : WpC U O P B c st Q := hc.weak (st.keep_le ts ns)

theorem thenQ_normal {N : St U → Prop} {Q : PostQ U} {st : St U} (h : N st) : thenQ N Q .normal st := h
theorem thenQ_ret {N : St U → Prop} {Q : PostQ U} {st : St U} (h : Q .ret st) : thenQ N Q .ret st := h
theorem thenQ_exit {N : St U → Prop} {Q : PostQ U} {st : St U} {id : Nat} (h : Q (.exit id) st) : thenQ N Q (.exit id) st := h
theorem blockQ_normal {id : Nat} {Q : PostQ U} {st : St U} (h : Q .normal st) : blockQ id Q .normal st := h
theorem blockQ_ret {id : Nat} {Q : PostQ U} {st : St U} (h : Q .ret st) : blockQ id Q .ret st := h
theorem blockQ_hit {id : Nat} {Q : PostQ U} {st : St U} (h : Q .normal st) : blockQ id Q (.exit id) st := by simp only [blockQ, if_true]; exact h
theorem blockQ_pass {id id' : Nat} {Q : PostQ U} {st : St U} (hne : id' ≠ id) (h : Q (.exit id') st) : blockQ id Q (.exit id') st := by simp only [blockQ, if_neg hne]; exact h

theorem WpC.region {id : Nat} {ops : Array Oper} {st st' : St U} {Q : PostQ U} (hC : Chain U O P ops B.n st ops.toList st') (hQ : Q .normal st') :
    WpC U O P B (.region id ops false) st Q := fun S ι a w hR => by
  refine wp_region_list ?_
  exact hC.wp (fun S ι a w hR => ⟨st', hQ, S, ι, hR⟩) hR

theorem wp_loop_n {c : Code} {Q : Exit → Act → World → Prop} (I : Nat → Act → World → Prop)
    (round : ∀ n a w, I n a w → c.wp P (Exit.then (fun a' w' => ∃ m, m < n ∧ I m a' w') Q) a w) (n : Nat) (a : Act) (w : World) (h : I n a w) : (Code.loop c).wp P Q a w := by
  intro b k cs
  have key : ∀ n a w, I n a w → ∃ e a' w', Q e a' w' ∧ Arrives P (lone (b.at a (.code c :: .inLoop c :: k)) cs w) b k cs e a' w' := by
    intro n
    induction n using Nat.strongRecOn with
    | _ n ih =>
      intro a w hI
      obtain ⟨e, a₁, w₁, hq, harr⟩ := round n a w hI b (.inLoop c :: k) cs
      cases e with
      | normal =>
        obtain ⟨m, hlt, hI₁⟩ := hq
        obtain ⟨e₂, a₂, w₂, hq₂, harr₂⟩ := ih m hlt a₁ w₁ hI₁
        exact ⟨e₂, a₂, w₂, hq₂, .of_steps (Steps.trans harr (.one step_inLoop)) harr₂⟩
      | exit id => exact ⟨_, a₁, w₁, hq, .pass (x := .inLoop c) rfl (fun _ _ => .inl (by simp)) harr⟩
      | goto l => exact ⟨_, a₁, w₁, hq, .pass (x := .inLoop c) rfl (fun _ _ => .inl (by simp)) harr⟩
      | ret => exact ⟨_, a₁, w₁, hq, .pass (x := .inLoop c) rfl (fun _ _ => .inl (by simp)) harr⟩
      | panic ch => exact ⟨_, a₁, w₁, hq, .pass (x := .inLoop c) rfl (fun _ _ => .inl (by simp)) harr⟩
      | outgrown => exact ⟨_, a₁, w₁, hq, .pass (x := .inLoop c) rfl (fun _ _ => .inl (by simp)) harr⟩
  obtain ⟨e, a', w', hq, harr⟩ := key n a w h
  exact ⟨e, a', w', hq, .of_steps (.one step_loop) harr⟩

/-- A loop: I n st: what is told of the frame at a round's head, n rounds being left. -/
theorem WpC.loop {c : Code} {st : St U} {Q : PostQ U} (I : Nat → St U → Prop) (n : Nat) (h0 : I n st)
    (round : ∀ n st, I n st → WpC U O P B c st (thenQ (fun st' => ∃ m, m < n ∧ I m st') Q)) : WpC U O P B (.loop c) st Q := by
  intro S ι a w hR
  refine wp_loop_n (fun n a w => ∃ st, I n st ∧ ∃ S ι, Rel U O B S ι st a w) ?_ n a w ⟨st, h0, S, ι, hR⟩
  rintro n a w ⟨st, hI, S, ι, hR⟩
  refine wp_mono (round n st hI S ι a w hR) ?_
  rintro e a' w' ⟨st', hQ, S', ι', hR'⟩
  cases e with
  | normal => obtain ⟨m, hm, hI'⟩ := hQ; exact ⟨m, hm, st', hI', S', ι', hR'⟩
  | _ => exact ⟨st', hQ, S', ι', hR'⟩

def enum {α : Type} : Nat → List α → List (Nat × α)
  | _, [] => []
  | k, x :: l => (k, x) :: enum (k + 1) l

theorem VVs.enum {S : Nat → Prop} {ι : Lay} {w : World} : ∀ (as : List (AVal U)) (vs : List Value) (k : Nat), VVs U O S ι w as vs →
    as.length = vs.length ∧ ∀ x ∈ AM.enum k as, k ≤ x.1 ∧ ∃ u, vs[x.1 - k]? = some u ∧ VV U O S ι w x.2 u
  | [], vs, k, h => by simp only [VVs] at h; subst h; exact ⟨rfl, fun x hx => by cases hx⟩
  | v :: as, vs, k, h => by
    simp only [VVs] at h
    obtain ⟨u, us, rfl, h1, h2⟩ := h
    obtain ⟨h3, h4⟩ := VVs.enum as us (k + 1) h2
    refine ⟨by simp [h3], fun x hx => ?_⟩
    rcases List.mem_cons.1 hx with rfl | hx
    · exact ⟨Nat.le_refl _, u, by simp, h1⟩
    · obtain ⟨h5, u', h6, h7⟩ := h4 x hx
      refine ⟨by omega, u', ?_, h7⟩
      have : x.1 - k = (x.1 - (k + 1)) + 1 := by omega
      rw [this]; simpa using h6

/-- What a function hands back, read off its frame. -/
def RetV (U : Univ) (O : Out) (P : Program) (fn : Func) (st : St U) (r : AVal U) : Prop :=
  ∀ (B : Base) S ι a w, Rel U O B S ι st a w → ∃ u, (results fn a.tmps).run P w = .ok u w ∧ VV U O S ι w r u

theorem retV_1 {fn : Func} {t : Nat} {st : St U} {r : AVal U} (hf : fn.results = #[.tmp t]) (h : (t, r) ∈ st.sl) : RetV U O P fn st r :=
  fun _ _ _ a w hR => ⟨_, results_tmp hf a.tmps P w, hR.sl _ h⟩
theorem retV_0 {fn : Func} {st : St U} (hf : fn.results = #[]) : RetV U O P fn st (.tup []) :=
  fun _ _ _ a w _ => ⟨_, results_none hf a.tmps P w, ⟨[], rfl, rfl⟩⟩
theorem retV_2 {fn : Func} {t u : Nat} {st : St U} {r s : AVal U} (hf : fn.results = #[.tmp t, .tmp u]) (h : (t, r) ∈ st.sl) (h' : (u, s) ∈ st.sl) : RetV U O P fn st (.tup [r, s]) :=
  fun _ _ _ a w hR => ⟨_, results_tmp2 hf a.tmps P w, ⟨[a.tmps.getD t undef, a.tmps.getD u undef], ⟨_, _, rfl, hR.sl _ h, _, _, rfl, hR.sl _ h', rfl⟩, rfl⟩⟩
theorem results_3 {fn : Func} {t u v : Tmp} (h : fn.results = #[.tmp t, .tmp u, .tmp v]) (tmps : Array Value) (P : Program) (w : World) :
    (results fn tmps).run P w = .ok (.tuple #[tmps.getD t undef, tmps.getD u undef, tmps.getD v undef]) w := by simp [results, h]
theorem retV_3 {fn : Func} {t u v : Nat} {st : St U} {r s q : AVal U} (hf : fn.results = #[.tmp t, .tmp u, .tmp v]) (h : (t, r) ∈ st.sl) (h' : (u, s) ∈ st.sl) (h'' : (v, q) ∈ st.sl) :
    RetV U O P fn st (.tup [r, s, q]) :=
  fun _ _ _ a w hR => ⟨_, results_3 hf a.tmps P w, ⟨[a.tmps.getD t undef, a.tmps.getD u undef, a.tmps.getD v undef],
    ⟨_, _, rfl, hR.sl _ h, _, _, rfl, hR.sl _ h', _, _, rfl, hR.sl _ h'', rfl⟩, rfl⟩⟩

/-- The frame's end: the answer, and the blocks that are handed back. -/
def Ends (U : Univ) (O : Out) (P : Program) (fn : Func) (c : CSpec U) : PostQ U
  | .normal, st | .ret, st => RetV U O P fn st c.r ∧ ∀ x ∈ c.bs', x ∈ st.hp
  | _, _ => False

/-- What must hold of a contract's names: arguments' from K0 on, new ones below. -/
structure NamesOk (c : CSpec U) : Prop where
  bs : ∀ n ∈ nm c.bs, K0 ≤ n
  nn : ∀ n ∈ c.nn, n < K0
  r : ∀ n ∈ AVal.names U c.r, n ∈ c.nn ∨ K0 ≤ n
  bs' : ∀ n ∈ nm c.bs', n ∈ c.nn ∨ K0 ≤ n
  bb : ∀ x ∈ c.bs', ∀ n ∈ Blk.names U x.2, n ∈ c.nn ∨ K0 ≤ n
  pl : ∀ n ∈ nm c.bs', n ∈ c.nn ∨ n ∈ nm c.bs

theorem cok_of_wp {f : FuncId} {fn : Func} {code : Code} (hf : P.funcs[f]? = some fn) (hb : fn.body = some code) {c : CSpec U} {k : Nat} (hk : fn.ntmps = k) (hle : c.ar.length ≤ k) (hc : NamesOk c)
    (h : ∀ B : Base, B.n = k → WpC U O P B code ⟨enum 0 c.ar, c.bs⟩ (Ends U O P fn c)) : COk U O P f c := by
  intro S ι w vs hlt hgl has hbs hown
  refine calls_of_wp hf hb ?_
  obtain ⟨hlen, hen⟩ := VVs.enum c.ar vs 0 has
  let B : Base := { S := S, w := w, A := fun b => ∃ n ∈ nm c.bs, ∃ cc, ι n = some (b, cc), ι := ι, n := k }
  have hsz : (vs.toArray ++ Array.replicate (fn.ntmps - vs.toArray.size) undef).size = k := by simp; omega
  refine wp_mono (h B rfl S ι _ w ⟨hsz, rfl, fun x hx => ?_, hbs, hown, fun n hn b cc hb => .inr ⟨n, hn, cc, hb⟩, hlt, hgl, fun b hb => hb, fun b hb => .inl hb, rfl, rfl, rfl, Nat.le_refl _,
    fun _ _ _ => rfl, fun _ _ => rfl⟩) ?_
  · obtain ⟨_, u, hu, hv⟩ := hen x hx
    have hlt' : x.1 < vs.length := by
      rcases Nat.lt_or_ge x.1 vs.length with h | h
      · exact h
      · rw [Nat.sub_zero, List.getElem?_eq_none h] at hu; cases hu
    have : (vs.toArray ++ Array.replicate (fn.ntmps - vs.toArray.size) undef).getD x.1 undef = u := by
      rw [Array.getD_eq_getD_getElem?, Array.getElem?_append_left (by simpa using hlt')]
      simp only [Nat.sub_zero] at hu
      simp [hu]
    rw [this]; exact hv
  · rintro e a' w' ⟨st, hQ, S', ι', hR⟩
    have key : RetV U O P fn st c.r ∧ (∀ x ∈ c.bs', x ∈ st.hp) → a'.defers = [] ∧ ∃ v, (results fn a'.tmps).run P w' = .ok v w' ∧
        ∃ u S' ι', Ending.returned v = .returned u ∧ Nx U O c.l S ι w S' ι' w' ∧ VV U O S' ι' w' c.r u := by
      rintro ⟨hr, hb'⟩
      obtain ⟨u, hu, hv⟩ := hr B S' ι' a' w' hR
      refine ⟨hR.dfr, u, hu, u, S', fun n => if n ∈ c.nn then ι' n else ι n, rfl, ?_, ?_⟩
      · have hι : ∀ n, (n ∈ c.nn ∨ K0 ≤ n) → (if n ∈ c.nn then ι' n else ι n) = ι' n := fun n hn => by
          split
          · rfl
          · rename_i hnn; exact (hR.lay n (hn.resolve_left hnn)).symm
        have hst : ∀ n ∈ nm c.bs', n ∈ nm st.hp := fun n hn => by obtain ⟨x, hx, rfl⟩ := List.mem_map.1 hn; exact mem_nm (hb' x hx)
        refine ⟨hR.os, hR.tape, hR.output, hR.size, hR.sub, hR.new, hR.lt, fun b hb hnot => hR.keep b hb ?_, fun n hn => if_neg hn, fun x hx => ?_, fun n hn b cc hb => ?_, fun n hn m hm hne b cc cc' hb => ?_⟩
        · rintro ⟨n, hn, cc, hcc⟩; exact hnot n hn cc hcc
        · exact BR.mono (fun _ _ => rfl) (fun _ h => h) (hι _ (hc.bs' _ (mem_nm hx))) (fun m hm => hι m (hc.bb x hx m hm)) (fun _ _ _ => rfl) (hR.hp x (hb' x hx))
        · rw [hι n (hc.bs' n hn)] at hb
          have h1 := hR.own.out n (hst n hn) b cc hb
          exact ⟨h1.1, h1.2, (hR.mine n (hst n hn) b cc hb)⟩
        · rw [hι n (hc.bs' n hn)] at hb
          rw [hι m (hc.bs' m hm)]
          exact hR.own.sep n (hst n hn) m (hst m hm) hne b cc cc' hb
      · refine VV.mono (fun _ _ => rfl) (fun _ h => h) _ _ (fun n hn => ?_) hv
        rcases hc.r n hn with h | h
        · exact if_pos h
        · show (if n ∈ c.nn then ι' n else ι n) = ι' n
          split
          · rfl
          · exact (hR.lay n h).symm
    cases e with
    | normal => exact key hQ
    | ret => exact key hQ
    | _ => exact hQ.elim
end
end Go.AM
