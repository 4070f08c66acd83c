/- A part of my own abstract layer. -/
import Derived.Test.YtlmhnhlmlhfigaaK42AmA
import Derived.Orders
import Derived.Laws.Cells
namespace Go.AM

section
variable {U : Univ} {O : Out} {P : Program} {B : Base}

abbrev PostQ (U : Univ) : Type := Exit → St U → Prop

def post (U : Univ) (O : Out) (B : Base) (Q : PostQ U) : Exit → Act → World → Prop := fun e a w => ∃ st, Q e st ∧ ∃ S ι, Rel U O B S ι st a w

def WpC (U : Univ) (O : Out) (P : Program) (B : Base) (c : Code) (st : St U) (Q : PostQ U) : Prop :=
  ∀ S ι a w, Rel U O B S ι st a w → c.wp P (post U O B Q) a w

def thenQ (N : St U → Prop) (Q : PostQ U) : PostQ U
  | .normal, st => N st
  | e, st => Q e st

def blockQ (id : Nat) (Q : PostQ U) : PostQ U
  | .exit id', st => if id' = id then Q .normal st else Q (.exit id') st
  | e, st => Q e st

theorem WpC.mono {c : Code} {st : St U} {Q Q' : PostQ U} (h : WpC U O P B c st Q) (hq : ∀ e st, Q e st → Q' e st) : WpC U O P B c st Q' :=
  fun S ι a w hR => wp_mono (h S ι a w hR) fun _ _ _ ⟨st', hQ, r⟩ => ⟨st', hq _ _ hQ, r⟩

theorem WpC.seq {x y : Code} {st : St U} {Q : PostQ U} (h : WpC U O P B x st (thenQ (fun st' => WpC U O P B y st' Q) Q)) : WpC U O P B (.seq x y) st Q := by
  intro S ι a w hR
  refine wp_seq (wp_mono (h S ι a w hR) ?_)
  rintro e a' w' ⟨st', hQ, S', ι', hR'⟩
  cases e with
  | normal => exact hQ S' ι' a' w' hR'
  | _ => exact ⟨st', hQ, S', ι', hR'⟩

theorem WpC.skip {st : St U} {Q : PostQ U} (h : Q .normal st) : WpC U O P B .skip st Q := fun S ι _ _ hR => wp_skip ⟨st, h, S, ι, hR⟩
theorem WpC.ret {st : St U} {Q : PostQ U} (h : Q .ret st) : WpC U O P B .ret st Q := fun S ι _ _ hR => wp_ret ⟨st, h, S, ι, hR⟩
theorem WpC.exit {id : Nat} {st : St U} {Q : PostQ U} (h : Q (.exit id) st) : WpC U O P B (.exit id) st Q := fun S ι _ _ hR => wp_exit ⟨st, h, S, ι, hR⟩

theorem WpC.block {id : Nat} {c : Code} {st : St U} {Q : PostQ U} (h : WpC U O P B c st (blockQ id Q)) : WpC U O P B (.block id c) st Q := by
  intro S ι a w hR
  refine wp_block (wp_mono (h S ι a w hR) ?_)
  rintro e a' w' ⟨st', hQ, hR'⟩
  cases e with
  | exit id' =>
    simp only [blockQ] at hQ
    simp only [Exit.inBlock]
    split
    · rename_i e; rw [if_pos e] at hQ; exact ⟨st', hQ, hR'⟩
    · rename_i e; rw [if_neg e] at hQ; exact ⟨st', hQ, hR'⟩
  | _ => exact ⟨st', hQ, hR'⟩

theorem WpC.cond {x : Operand} {b : Bool} {c d : Code} {st : St U} {Q : PostQ U} (hx : Opd U st.sl x (.p .bool b)) (h1 : b = true → WpC U O P B c st Q) (h2 : b = false → WpC U O P B d st Q) :
    WpC U O P B (.cond x c d) st Q := fun S ι a w hR =>
  wp_cond_split (VV.bool_iff.1 (hx.ev hR.sl)) (fun e => h1 e S ι a w hR) (fun e => h2 e S ι a w hR)

structure St.Le (st' st : St U) : Prop where
  sl : ∀ x ∈ st'.sl, x ∈ st.sl
  hp : ∀ x ∈ st'.hp, x ∈ st.hp

theorem Rel.weak {st st' : St U} (h : St.Le st' st) {S : Nat → Prop} {ι : Lay} {a : Act} {w : World} (hR : Rel U O B S ι st a w) : Rel U O B S ι st' a w := by
  have hn : ∀ n ∈ nm st'.hp, n ∈ nm st.hp := fun n hn => by obtain ⟨x, hx, rfl⟩ := List.mem_map.1 hn; exact mem_nm (h.hp x hx)
  exact { hR with
    sl := fun x hx => hR.sl x (h.sl x hx)
    hp := fun x hx => hR.hp x (h.hp x hx)
    own := ⟨fun n hm => hR.own.out n (hn n hm), fun n hn' m hm => hR.own.sep n (hn n hn') m (hn m hm)⟩
    mine := fun n hm => hR.mine n (hn n hm) }

theorem WpC.weak {c : Code} {st st' : St U} {Q : PostQ U} (h : St.Le st' st) (hc : WpC U O P B c st' Q) : WpC U O P B c st Q :=
  fun S ι a w hR => hc S ι a w (hR.weak h)

def lookA {α : Type} : List (Nat × α) → Nat → Option α
  | [], _ => none
  | x :: l, t => if x.1 = t then some x.2 else lookA l t

theorem lookA_mem {α : Type} {l : List (Nat × α)} {t : Nat} {v : α} (h : lookA l t = some v) : (t, v) ∈ l := by
  induction l with
  | nil => cases h
  | cons x l ih =>
    unfold lookA at h
    split at h
    · rename_i e; obtain ⟨a, b⟩ := x; simp at e h; subst e h; exact List.mem_cons_self
    · exact List.mem_cons_of_mem _ (ih h)

def takeA {α : Type} (l : List (Nat × α)) (ts : List Nat) : List (Nat × α) := ts.filterMap fun t => (lookA l t).map fun v => (t, v)
theorem mem_takeA {α : Type} {l : List (Nat × α)} {ts : List Nat} {x : Nat × α} (h : x ∈ takeA l ts) : x ∈ l := by
  obtain ⟨t, _, h⟩ := List.mem_filterMap.1 h
  cases hl : lookA l t with
  | none => rw [hl] at h; cases h
  | some v => rw [hl] at h; simp at h; subst h; exact lookA_mem hl

def St.keep (st : St U) (ts ns : List Nat) : St U := ⟨takeA st.sl ts, takeA st.hp ns⟩
theorem St.keep_le (st : St U) (ts ns : List Nat) : St.Le (st.keep ts ns) st := ⟨fun _ hx => mem_takeA hx, fun _ hx => mem_takeA hx⟩

theorem WpC.keep {c : Code} {st : St U} {Q : PostQ U} (ts ns : List Nat) (hc : WpC U O P B c (st.keep ts ns) Q) : WpC U O P B c st Q := hc.weak (st.keep_le ts ns)

theorem thenQ_normal {N : St U → Prop} {Q : PostQ U} {st : St U} (h : N st) : thenQ N Q .normal st := h
theorem thenQ_ret {N : St U → Prop} {Q : PostQ U} {st : St U} (h : Q .ret st) : thenQ N Q .ret st := h
theorem thenQ_exit {N : St U → Prop} {Q : PostQ U} {st : St U} {id : Nat} (h : Q (.exit id) st) : thenQ N Q (.exit id) st := h
theorem blockQ_normal {id : Nat} {Q : PostQ U} {st : St U} (h : Q .normal st) : blockQ id Q .normal st := h
theorem blockQ_ret {id : Nat} {Q : PostQ U} {st : St U} (h : Q .ret st) : blockQ id Q .ret st := h
theorem blockQ_hit {id : Nat} {Q : PostQ U} {st : St U} (h : Q .normal st) : blockQ id Q (.exit id) st := by simp only [blockQ, if_true]; exact h
theorem blockQ_pass {id id' : Nat} {Q : PostQ U} {st : St U} (hne : id' ≠ id) (h : Q (.exit id') st) : blockQ id Q (.exit id') st := by simp only [blockQ, if_neg hne]; exact h

theorem WpC.region {id : Nat} {ops : Array Oper} {st st' : St U} {Q : PostQ U} (hC : Chain U O P ops B.n st ops.toList st') (hQ : Q .normal st') :
    WpC U O P B (.region id ops false) st Q := fun S ι a w hR => by
  refine wp_region_list ?_
  exact hC.wp (fun S ι a w hR => ⟨st', hQ, S, ι, hR⟩) hR

theorem wp_loop_n {c : Code} {Q : Exit → Act → World → Prop} (I : Nat → Act → World → Prop)
    (round : ∀ n a w, I n a w → c.wp P (Exit.then (fun a' w' => ∃ m, m < n ∧ I m a' w') Q) a w) (n : Nat) (a : Act) (w : World) (h : I n a w) : (Code.loop c).wp P Q a w := by
  intro b k cs
  have key : ∀ n a w, I n a w → ∃ e a' w', Q e a' w' ∧ Arrives P (lone (b.at a (.code c :: .inLoop c :: k)) cs w) b k cs e a' w' := by
    intro n
    induction n using Nat.strongRecOn with
    | _ n ih =>
      intro a w hI
      obtain ⟨e, a₁, w₁, hq, harr⟩ := round n a w hI b (.inLoop c :: k) cs
      cases e with
      | normal =>
        obtain ⟨m, hlt, hI₁⟩ := hq
        obtain ⟨e₂, a₂, w₂, hq₂, harr₂⟩ := ih m hlt a₁ w₁ hI₁
        exact ⟨e₂, a₂, w₂, hq₂, .of_steps (Steps.trans harr (.one step_inLoop)) harr₂⟩
      | exit id => exact ⟨_, a₁, w₁, hq, .pass (x := .inLoop c) rfl (fun _ _ => .inl (by simp)) harr⟩
      | goto l => exact ⟨_, a₁, w₁, hq, .pass (x := .inLoop c) rfl (fun _ _ => .inl (by simp)) harr⟩
      | ret => exact ⟨_, a₁, w₁, hq, .pass (x := .inLoop c) rfl (fun _ _ => .inl (by simp)) harr⟩
      | panic ch => exact ⟨_, a₁, w₁, hq, .pass (x := .inLoop c) rfl (fun _ _ => .inl (by simp)) harr⟩
      | outgrown => exact ⟨_, a₁, w₁, hq, .pass (x := .inLoop c) rfl (fun _ _ => .inl (by simp)) harr⟩
  obtain ⟨e, a', w', hq, harr⟩ := key n a w h
  exact ⟨e, a', w', hq, .of_steps (.one step_loop) harr⟩

theorem WpC.loop {c : Code} {st : St U} {Q : PostQ U} (I : Nat → St U → Prop) (n : Nat) (h0 : I n st)
    (round : ∀ n st, I n st → WpC U O P B c st (thenQ (fun st' => ∃ m, m < n ∧ I m st') Q)) : WpC U O P B (.loop c) st Q := by
  intro S ι a w hR
  refine wp_loop_n (fun n a w => ∃ st, I n st ∧ ∃ S ι, Rel U O B S ι st a w) ?_ n a w ⟨st, h0, S, ι, hR⟩
  rintro n a w ⟨st, hI, S, ι, hR⟩
  refine wp_mono (round n st hI S ι a w hR) ?_
  rintro e a' w' ⟨st', hQ, S', ι', hR'⟩
  cases e with
  | normal => obtain ⟨m, hm, hI'⟩ := hQ; exact ⟨m, hm, st', hI', S', ι', hR'⟩
  | _ => exact ⟨st', hQ, S', ι', hR'⟩

def enum {α : Type} : Nat → List α → List (Nat × α)
  | _, [] => []
  | k, x :: l => (k, x) :: enum (k + 1) l

theorem VVs.enum {S : Nat → Prop} {ι : Lay} {w : World} : ∀ (as : List (AVal U)) (vs : List Value) (k : Nat), VVs U O S ι w as vs →
    as.length = vs.length ∧ ∀ x ∈ AM.enum k as, k ≤ x.1 ∧ ∃ u, vs[x.1 - k]? = some u ∧ VV U O S ι w x.2 u
  | [], vs, k, h => by simp only [VVs] at h; subst h; exact ⟨rfl, fun x hx => by cases hx⟩
  | v :: as, vs, k, h => by
    simp only [VVs] at h
    obtain ⟨u, us, rfl, h1, h2⟩ := h
    obtain ⟨h3, h4⟩ := VVs.enum as us (k + 1) h2
    refine ⟨by simp [h3], fun x hx => ?_⟩
    rcases List.mem_cons.1 hx with rfl | hx
    · exact ⟨Nat.le_refl _, u, by simp, h1⟩
    · obtain ⟨h5, u', h6, h7⟩ := h4 x hx
      refine ⟨by omega, u', ?_, h7⟩
      have : x.1 - k = (x.1 - (k + 1)) + 1 := by omega
      rw [this]; simpa using h6

def RetV (U : Univ) (O : Out) (P : Program) (fn : Func) (st : St U) (r : AVal U) : Prop :=
  ∀ (B : Base) S ι a w, Rel U O B S ι st a w → ∃ u, (results fn a.tmps).run P w = .ok u w ∧ VV U O S ι w r u

def Ends (U : Univ) (O : Out) (P : Program) (fn : Func) (c : CSpec U) : PostQ U
  | .normal, st | .ret, st => RetV U O P fn st c.r ∧ ∀ x ∈ c.bs', x ∈ st.hp
  | _, _ => False

structure NamesOk (c : CSpec U) : Prop where
  bs : ∀ n ∈ nm c.bs, K0 ≤ n
  nn : ∀ n ∈ c.nn, n < K0
  r : ∀ n ∈ AVal.names U c.r, n ∈ c.nn ∨ K0 ≤ n
  bs' : ∀ n ∈ nm c.bs', n ∈ c.nn ∨ K0 ≤ n
  bb : ∀ x ∈ c.bs', ∀ n ∈ Blk.names U x.2, n ∈ c.nn ∨ K0 ≤ n
  pl : ∀ n ∈ nm c.bs', n ∈ c.nn ∨ n ∈ nm c.bs

theorem cok_of_wp {f : FuncId} {fn : Func} {code : Code} (hf : P.funcs[f]? = some fn) (hb : fn.body = some code) {c : CSpec U} {k : Nat} (hk : fn.ntmps = k) (hle : c.ar.length ≤ k) (hc : NamesOk c)
    (h : ∀ B : Base, B.n = k → WpC U O P B code ⟨enum 0 c.ar, c.bs⟩ (Ends U O P fn c)) : COk U O P f c := by
  intro S ι w vs hlt hgl has hbs hown
  refine calls_of_wp hf hb ?_
  obtain ⟨hlen, hen⟩ := VVs.enum c.ar vs 0 has
  let B : Base := { S := S, w := w, A := fun b => ∃ n ∈ nm c.bs, ∃ cc, ι n = some (b, cc), ι := ι, n := k }
  have hsz : (vs.toArray ++ Array.replicate (fn.ntmps - vs.toArray.size) undef).size = k := by simp; omega
  refine wp_mono (h B rfl S ι _ w ⟨hsz, rfl, fun x hx => ?_, hbs, hown, fun n hn b cc hb => .inr ⟨n, hn, cc, hb⟩, hlt, hgl, fun b hb => hb, fun b hb => .inl hb, rfl, rfl, rfl, Nat.le_refl _,
    fun _ _ _ => rfl, fun _ _ => rfl⟩) ?_
  · obtain ⟨_, u, hu, hv⟩ := hen x hx
    have hlt' : x.1 < vs.length := by
      rcases Nat.lt_or_ge x.1 vs.length with h | h
      · exact h
      · rw [Nat.sub_zero, List.getElem?_eq_none h] at hu; cases hu
    have : (vs.toArray ++ Array.replicate (fn.ntmps - vs.toArray.size) undef).getD x.1 undef = u := by
      rw [Array.getD_eq_getD_getElem?, Array.getElem?_append_left (by simpa using hlt')]
      simp only [Nat.sub_zero] at hu
      simp [hu]
    rw [this]; exact hv
  · rintro e a' w' ⟨st, hQ, S', ι', hR⟩
    have key : RetV U O P fn st c.r ∧ (∀ x ∈ c.bs', x ∈ st.hp) → a'.defers = [] ∧ ∃ v, (results fn a'.tmps).run P w' = .ok v w' ∧
        ∃ u S' ι', Ending.returned v = .returned u ∧ Nx U O c.l S ι w S' ι' w' ∧ VV U O S' ι' w' c.r u := by
      rintro ⟨hr, hb'⟩
      obtain ⟨u, hu, hv⟩ := hr B S' ι' a' w' hR
      refine ⟨hR.dfr, u, hu, u, S', fun n => if n ∈ c.nn then ι' n else ι n, rfl, ?_, ?_⟩
      · have hι : ∀ n, (n ∈ c.nn ∨ K0 ≤ n) → (if n ∈ c.nn then ι' n else ι n) = ι' n := fun n hn => by
          split
          · rfl
          · rename_i hnn; exact (hR.lay n (hn.resolve_left hnn)).symm
        have hst : ∀ n ∈ nm c.bs', n ∈ nm st.hp := fun n hn => by obtain ⟨x, hx, rfl⟩ := List.mem_map.1 hn; exact mem_nm (hb' x hx)
        refine ⟨hR.os, hR.tape, hR.output, hR.size, hR.sub, hR.new, hR.lt, fun b hb hnot => hR.keep b hb ?_, fun n hn => if_neg hn, fun x hx => ?_, fun n hn b cc hb => ?_, fun n hn m hm hne b cc cc' hb => ?_⟩
        · rintro ⟨n, hn, cc, hcc⟩; exact hnot n hn cc hcc
        · exact BR.mono (fun _ _ => rfl) (fun _ h => h) (hι _ (hc.bs' _ (mem_nm hx))) (fun m hm => hι m (hc.bb x hx m hm)) (fun _ _ _ => rfl) (hR.hp x (hb' x hx))
        · rw [hι n (hc.bs' n hn)] at hb
          have h1 := hR.own.out n (hst n hn) b cc hb
          exact ⟨h1.1, h1.2, (hR.mine n (hst n hn) b cc hb)⟩
        · rw [hι n (hc.bs' n hn)] at hb
          rw [hι m (hc.bs' m hm)]
          exact hR.own.sep n (hst n hn) m (hst m hm) hne b cc cc' hb
      · refine VV.mono (fun _ _ => rfl) (fun _ h => h) _ _ (fun n hn => ?_) hv
        rcases hc.r n hn with h | h
        · exact if_pos h
        · show (if n ∈ c.nn then ι' n else ι n) = ι' n
          split
          · rfl
          · exact (hR.lay n h).symm
    cases e with
    | normal => exact key hQ
    | ret => exact key hQ
    | _ => exact hQ.elim
end
end Go.AM
namespace Go.AM

inductive Opds (U : Univ) (rs : List (Nat × AVal U)) : List Operand → List (AVal U) → Prop
  | nil : Opds U rs [] []
  | cons {x : Operand} {v : AVal U} {xs : List Operand} {vs : List (AVal U)} : Opd U rs x v → Opds U rs xs vs → Opds U rs (x :: xs) (v :: vs)

theorem Opds.ev {U : Univ} {O : Out} {S : Nat → Prop} {ι : Lay} {w : World} {a : Act} {rs : List (Nat × AVal U)} {xs : List Operand} {vs : List (AVal U)} (h : Opds U rs xs vs)
    (hr : ∀ x ∈ rs, VV U O S ι w x.2 (a.tmps.getD x.1 undef)) : VVs U O S ι w vs (xs.map a.eval) := by
  induction h with
  | nil => simp [VVs]
  | cons h _ ih => exact ⟨_, _, rfl, h.ev hr, ih⟩

mutual
def AVal.flat (U : Univ) : AVal U → Bool
  | .p t _ => t.flat U.fl
  | .sel _ _ _ _ t _ => t.flat U.fl
  | .pp _ _ => false
  | .clo _ vs | .agg vs | .tup vs => AVal.flatL U vs
  | _ => true
def AVal.flatL (U : Univ) : List (AVal U) → Bool
  | [] => true
  | v :: vs => AVal.flat U v && AVal.flatL U vs
end
def Blk.flat (U : Univ) : Blk U → Bool
  | .box us => AVal.flatL U us
  | .row _ t _ _ => t.flat U.fl
  | .map t _ => t.flat U.fl
  | .opt _ B => Blk.flat U B
  | .mapE t _ _ _ => t.flat U.fl
  | .iter _ _ _ _ _ _ _ => true
  | .mapM _ _ _ => true

section
variable {U : Univ} {O : Out} {S S' : Nat → Prop} {ι : Lay} {w : World}
mutual
theorem VV.flat : ∀ (v : AVal U) (u : Value), AVal.flat U v = true → VV U O S ι w v u → VV U O S' ι w v u
  | .junk, _, _, _ => by simp [VV]
  | .lit v, u, _, h => by simpa [VV] using h
  | .p t x, u, hf, h => by
    simp only [VV] at h ⊢
    obtain ⟨cs, h1, h2⟩ := h
    exact ⟨cs, h1.flat (by simpa [AVal.flat] using hf), h2⟩
  | .pp t x, u, hf, h => by simp [AVal.flat] at hf
  | .loc n off, u, _, h => by simpa [VV] using h
  | .eloc n wd i off, u, _, h => by simpa [VV] using h
  | .vec n wd off len, u, _, h => by simpa only [VV] using h
  | .mp n, u, _, h => by simpa [VV] using h
  | .opt q n, u, _, h => by simpa only [VV] using h
  | .sel q n wd len t x, u, hf, h => by
    simp only [VV] at h ⊢
    exact ⟨h.1, fun hq => by obtain ⟨cs, h1, h2⟩ := h.2 hq; exact ⟨cs, h1.flat (by simpa [AVal.flat] using hf), h2⟩⟩
  | .clo f vs, u, hf, h => by
    simp only [VV] at h ⊢
    obtain ⟨us, h1, h2⟩ := h
    exact ⟨us, VVs.flat vs us (by simpa [AVal.flat] using hf) h1, h2⟩
  | .agg vs, u, hf, h => by
    simp only [VV] at h ⊢
    obtain ⟨us, h1, h2⟩ := h
    exact ⟨us, VVs.flat vs us (by simpa [AVal.flat] using hf) h1, h2⟩
  | .tup vs, u, hf, h => by
    simp only [VV] at h ⊢
    obtain ⟨us, h1, h2⟩ := h
    exact ⟨us, VVs.flat vs us (by simpa [AVal.flat] using hf) h1, h2⟩
theorem VVs.flat : ∀ (vs : List (AVal U)) (us : List Value), AVal.flatL U vs = true → VVs U O S ι w vs us → VVs U O S' ι w vs us
  | [], us, _, h => by simpa [VVs] using h
  | v :: vs, us, hf, h => by
    simp only [AVal.flatL, Bool.and_eq_true] at hf
    simp only [VVs] at h ⊢
    obtain ⟨u, us', h1, h2, h3⟩ := h
    exact ⟨u, us', h1, VV.flat v u hf.1 h2, VVs.flat vs us' hf.2 h3⟩
end

theorem EntsR.flat {t : Ty} (hf : t.flat U.fl = true) : ∀ {es : List MapEntry} {ys : List (List UInt8 × t.den U.T)}, EntsR U O S w t es ys → EntsR U O S' w t es ys
  | [], _, h => h
  | _ :: _, _, ⟨y, r, h1, h2, ⟨cs, h3, h4⟩, h5⟩ => ⟨y, r, h1, h2, ⟨cs, h3.flat hf, h4⟩, EntsR.flat hf h5⟩

theorem BR.flat {n : Nat} {B : Blk U} (hf : Blk.flat U B = true) (h : BR U O S ι w n B) : BR U O S' ι w n B := by
  induction B with
  | box us =>
    obtain ⟨b, c, vs, arr, e, h1, h2, h3, h4, h5⟩ := h
    exact ⟨b, c, vs, arr, e, h1, VVs.flat us vs hf h2, h3, h4, h5⟩
  | row e t xs fx =>
    rcases h with ⟨h1, h2⟩ | ⟨b, c, arr, cs, h1, h2, h3, h4, h5, h6, h7, h8⟩
    · exact .inl ⟨h1, h2⟩
    · exact .inr ⟨b, c, arr, cs, h1, h2, h3, h4, h5, h6, fun i hi => (h7 i hi).flat hf, h8⟩
  | map t kvs =>
    obtain ⟨b, c, es, clock, ys, h1, h2, h3, h4, h5, h6⟩ := h
    exact ⟨b, c, es, clock, ys, h1, h2, h3, h4.flat hf, h5, h6⟩
  | opt q B ih => exact fun hq => ih hf (h hq)
  | mapE t es clock ys =>
    obtain ⟨b, c, h1, h2, h3, h4⟩ := h
    exact ⟨b, c, h1, h2, h3, h4.flat hf⟩
  | iter m t es clock ys left cur => exact h
  | mapM wd ys cur => cases cur <;> exact h
end

inductive View (U : Univ) (vw : List (Nat × Blk U)) : AVal U → AVal U → Prop
  | same (v : AVal U) : View U vw v v
  | row {n e : Nat} {t : Ty} {xs : List (t.den U.T)} {fx : Bool} (off len : Nat) (h : (n, Blk.row e t xs fx) ∈ vw) (hl : off + len ≤ xs.length) :
      View U vw (.vec n (t.width U.wd) off len) (.p (.list t) ((xs.drop off).take len))
  | nilL (t : Ty) : View U vw (.lit (.slice none 0 0)) (.p (.list t) ([] : List (t.den U.T)))
  | nilE : View U vw (.lit .nilIface) (.p .err (0 : Nat))
  | agg {us : List (AVal U)} {n : Nat} {x : U.T n} (h : ∀ (O : Out) (S : Nat → Prop) (ι : Lay) (w : World) (u : Value), (∀ x ∈ vw, BR U O S ι w x.1 x.2) → VV U O S ι w (.agg us) u →
      VV U O (fun b => S b ∨ ∃ n ∈ nm vw, ∃ c, ι n = some (b, c)) ι w (.p (.named n) x) u) : View U vw (.agg us) (.p (.named n) x)

inductive Views (U : Univ) (vw : List (Nat × Blk U)) : List (AVal U) → List (AVal U) → Prop
  | nil : Views U vw [] []
  | cons {v v' : AVal U} {vs vs' : List (AVal U)} : View U vw v v' → Views U vw vs vs' → Views U vw (v :: vs) (v' :: vs')

section
variable {U : Univ} {O : Out} {P : Program} {S : Nat → Prop} {ι : Lay} {w : World}

def Shown (ι : Lay) (ns : List Nat) : Nat → Prop := fun b => ∃ n ∈ ns, ∃ c, ι n = some (b, c)

theorem View.ev {vw : List (Nat × Blk U)} {v v' : AVal U} {u : Value} (h : View U vw v v') (hb : ∀ x ∈ vw, BR U O S ι w x.1 x.2) (hu : VV U O S ι w v u) :
    VV U O (fun b => S b ∨ Shown ι (nm vw) b) ι w v' u := by
  cases h with
  | same => exact VV.mono (fun _ _ => rfl) (fun _ h => .inl h) _ _ (fun _ _ => rfl) hu
  | nilL t => obtain ⟨rfl, _⟩ := hu; exact ⟨_, .lnil t, rfl⟩
  | nilE => obtain ⟨rfl, _⟩ := hu; exact ⟨_, .err0, rfl⟩
  | agg h => exact h O S ι w u hb hu
  | @row n e t xs fx off len hin hl =>
    simp only [VV] at hu
    have hB := hb _ hin
    rcases hu with ⟨hn, rfl, rfl, rfl⟩ | ⟨b, c, o, hn, hoc, rfl, ho⟩
    · exact VV.list_iff.2 (.inl ⟨by simp, rfl⟩)
    · rcases hB with ⟨h1, _⟩ | ⟨b', c', arr, cs, h1, h2, h3, h4, h5, h6, h7, h8⟩
      · rw [hn] at h1; cases h1
      · skip
        rw [hn] at h1
        obtain ⟨rfl, rfl⟩ : b = b' ∧ c = c' := by simpa using h1
        have hlen : ((xs.drop off).take len).length = len := by simp; omega
        refine VV.list_iff.2 (.inr (.inr ⟨b, o, c - off, fun i => cs (off + i), by rw [hlen], .inr ⟨n, mem_nm hin, c, hn⟩, by omega, fun i hi => ?_, fun i j hi hj => ?_⟩))
        · have : ((xs.drop off).take len)[i] = xs[off + i]'(by omega) := by simp
          rw [this]
          exact (h7 (off + i) (by omega)).mono (fun _ _ => rfl) (fun _ h => .inl h)
        · rw [hlen] at hi
          rw [← h8 (off + i) j (by omega) hj]
          have ho' : o = off * t.width U.wd := by
            rcases ho with ho | ho
            · exact ho
            · omega
          subst ho'
          simp only [World.cell?, h2, Option.isSome_none, Bool.false_eq_true, if_false]
          congr 1
          rw [Nat.add_mul]; omega

theorem Views.ev {vw : List (Nat × Blk U)} {vs vs' : List (AVal U)} (h : Views U vw vs vs') (hb : ∀ x ∈ vw, BR U O S ι w x.1 x.2) :
    ∀ {us : List Value}, VVs U O S ι w vs us → VVs U O (fun b => S b ∨ Shown ι (nm vw) b) ι w vs' us := by
  induction h with
  | nil => intro us h; simpa [VVs] using h
  | cons hv _ ih =>
    intro us h
    simp only [VVs] at h ⊢
    obtain ⟨u, us', rfl, h1, h2⟩ := h
    exact ⟨u, us', rfl, hv.ev hb h1, ih h2⟩

def CSpec.flat (c : CSpec U) : Bool := AVal.flat U c.r && c.bs'.all fun x => Blk.flat U x.2

theorem sok_call {ops : Array Oper} {o : Oper} {rs : List (Nat × AVal U)} {f : FuncId} {as : Array Operand} {ts : Array TypeId} {c : CSpec U} {vs : List (AVal U)} {vw : List (Nat × Blk U)}
    (hg : o.guard = none) (ho : o.op = .call { callee := .value (.func f), args := as, argTypes := ts }) (hb : HasBody P f) (hc : COk U O P f c)
    (ha : Opds U rs as.toList vs) (hv : Views U vw vs c.ar) (hd : ∀ n ∈ nm vw, n ∉ nm c.bs) (hf : vw = [] ∨ c.flat = true) :
    SOk U O P ops o { rs := rs, ro := vw, cb := c.bs, ws := c.r, pb := c.bs', nn := c.nn } := by
  intro S ι w a hlt hgl hrs hro hcb hown K Q hK
  refine opWp_plain hg ?_
  have hin : ∀ n ∈ nm c.bs, n ∈ nm vw ++ nm c.bs := fun n hn => List.mem_append.2 (.inr hn)
  have hinv : ∀ n ∈ nm vw, n ∈ nm vw ++ nm c.bs := fun n hn => List.mem_append.2 (.inl hn)
  have hargs : as.map a.eval = (as.toList.map a.eval).toArray := by rw [← Array.toList_map, Array.toArray_toList]
  have hC := hc (fun b => S b ∨ Shown ι (nm vw) b) ι w (as.toList.map a.eval) (fun b hb => hb.elim (hlt b) fun ⟨n, hn, cc, h⟩ => (hown.out n (hinv n hn) b cc h).2) (hgl.mono (fun _ _ => rfl) fun _ h => .inl h) (hv.ev hro (ha.ev hrs))
    (fun x hx => BR.mono (fun _ _ => rfl) (fun _ h => .inl h) rfl (fun _ _ => rfl) (fun _ _ _ => rfl) (hcb x hx))
    ⟨fun n hn b cc h => ⟨fun hS => hS.elim (hown.out n (hin n hn) b cc h).1 fun ⟨m, hm, c', h'⟩ =>
      hown.sep n (hin n hn) m (hinv m hm) (fun e => hd m hm (e ▸ hn)) b cc c' h h', (hown.out n (hin n hn) b cc h).2⟩, fun n hn m hm => hown.sep n (hin n hn) m (hin m hm)⟩
  refine oper_call ho hb (R := fun u w' => ∃ S' ι', Nx U O { rs := rs, ro := vw, cb := c.bs, ws := c.r, pb := c.bs', nn := c.nn : LSpec U } S ι w S' ι' w' ∧ VV U O S' ι' w' c.r u) ?_ ?_
  · rw [hargs]
    refine hC.mono ?_
    rintro e w' ⟨u, S', ι', rfl, hN, hu⟩
    refine ⟨u, rfl, fun b => S' b ∧ ¬ Shown ι (nm vw) b, ι', ⟨hN.os, hN.tape, hN.output, hN.size, fun b hb => ⟨hN.sub b (.inl hb), ?_⟩, ?_, fun b hb => hN.lt b hb.1, hN.keep, hN.lay, fun x hx => ?_,
      fun n hn b cc h => ⟨fun hS => (hN.plc n hn b cc h).1 hS.1, (hN.plc n hn b cc h).2⟩, hN.sep⟩, ?_⟩
    · rintro ⟨n, hn, cc, h⟩
      exact (hown.out n (hinv n hn) b cc h).1 hb
    · rintro b ⟨hS, hnot⟩
      rcases hN.new b hS with (h | h) | h
      · exact .inl h
      · exact absurd h hnot
      · exact .inr h
    · rcases hf with rfl | hf
      · exact BR.mono (fun _ _ => rfl) (fun b h => ⟨h, fun ⟨n, hn, _⟩ => by cases hn⟩) rfl (fun _ _ => rfl) (fun _ _ _ => rfl) (hN.blk x hx)
      · simp only [CSpec.flat, Bool.and_eq_true, List.all_eq_true] at hf
        exact (hN.blk x hx).flat (hf.2 x hx)
    · rcases hf with rfl | hf
      · exact VV.mono (fun _ _ => rfl) (fun b h => ⟨h, fun ⟨n, hn, _⟩ => by cases hn⟩) _ _ (fun _ _ => rfl) hu
      · simp only [CSpec.flat, Bool.and_eq_true, List.all_eq_true] at hf
        exact VV.flat _ _ hf.1 hu
  · rintro u w' ⟨S', ι', hN, hu⟩
    exact hK u S' ι' w' hN hu
end
end Go.AM
namespace Go.AM

section
variable {U : Univ} {O : Out} {P : Program} {B : Base}

abbrev Item (U : Univ) : Type := Oper × LSpec U

def stepI (st : St U) (x : Item U) : St U := st.next x.2 x.1.dst
def runS (l : List (Item U)) (st : St U) : St U := l.foldl stepI st

def wrS (t : Nat) (x : Item U) : Bool := x.1.dst == some t
def toB (n : Nat) (x : Item U) : Bool := (nm x.2.cb).contains n || (nm x.2.pb).contains n

theorem mem_next_sl {st : St U} {s : LSpec U} {d : Option Nat} {x : Nat × AVal U} : x ∈ (st.next s d).sl ↔ (d = some x.1 ∧ x.2 = s.ws) ∨ (x ∈ st.sl ∧ d ≠ some x.1) := by
  cases d with
  | none => simp [St.next, St.setS]
  | some d =>
    simp only [St.next, St.setS, mem_setA_iff]
    constructor
    · rintro (rfl | ⟨h1, h2⟩)
      · exact .inl ⟨rfl, rfl⟩
      · exact .inr ⟨h1, fun e => h2 (by injection e with e; exact e.symm)⟩
    · rintro (⟨h1, h2⟩ | ⟨h1, h2⟩)
      · exact .inl (by obtain ⟨a, b⟩ := x; simp_all)
      · exact .inr ⟨h1, fun e => h2 (by rw [e])⟩

theorem mem_next_hp_iff {st : St U} {s : LSpec U} {d : Option Nat} {x : Nat × Blk U} : x ∈ (st.next s d).hp ↔ (x ∈ st.hp ∧ x.1 ∉ nm s.cb) ∨ x ∈ s.pb := by
  simp [St.next]

theorem runS_sl (t : Nat) (v : AVal U) : ∀ (l : List (Item U)) (st st' : St U), ((t, v) ∈ st.sl ↔ (t, v) ∈ st'.sl) →
    ((t, v) ∈ (runS l st).sl ↔ (t, v) ∈ (runS (l.filter (wrS t)) st').sl)
  | [], _, _, h => h
  | x :: l, st, st', h => by
    by_cases hw : wrS t x = true
    · rw [List.filter_cons_of_pos hw]
      refine runS_sl t v l (stepI st x) (stepI st' x) ?_
      have hd : x.1.dst = some t := by simpa [wrS] using hw
      simp [stepI, mem_next_sl, hd]
    · rw [List.filter_cons_of_neg hw]
      refine runS_sl t v l (stepI st x) st' ?_
      have hd : x.1.dst ≠ some t := by simpa [wrS] using hw
      simp only [stepI, mem_next_sl, hd, false_and, false_or, ne_eq, not_false_iff, and_true]
      exact h

theorem runS_hp (n : Nat) (b : Blk U) : ∀ (l : List (Item U)) (st st' : St U), ((n, b) ∈ st.hp ↔ (n, b) ∈ st'.hp) →
    ((n, b) ∈ (runS l st).hp ↔ (n, b) ∈ (runS (l.filter (toB n)) st').hp)
  | [], _, _, h => h
  | x :: l, st, st', h => by
    by_cases hw : toB n x = true
    · rw [List.filter_cons_of_pos hw]
      refine runS_hp n b l (stepI st x) (stepI st' x) ?_
      simp only [stepI, mem_next_hp_iff, h]
    · rw [List.filter_cons_of_neg hw]
      refine runS_hp n b l (stepI st x) st' ?_
      simp only [toB, Bool.or_eq_true, List.contains_iff_mem, not_or] at hw
      simp only [stepI, mem_next_hp_iff]
      constructor
      · rintro (⟨h1, _⟩ | h1)
        · exact h.1 h1
        · exact absurd (mem_nm h1) hw.2
      · exact fun h1 => .inl ⟨h.2 h1, hw.1⟩

structure Foot where
  rs : List Nat
  w : Option Nat
  rb : List Nat
  wb : List Nat
  nn : List Nat
  vn : List Nat

def footOf (x : Item U) : Foot :=
  ⟨nm x.2.rs, x.1.dst, nm x.2.ro ++ nm x.2.cb, nm x.2.cb ++ nm x.2.pb, x.2.nn, AVal.names U x.2.ws ++ nm x.2.pb ++ x.2.pb.flatMap fun y => Blk.names U y.2⟩

def meets (l m : List Nat) : Bool := l.any fun n => m.contains n
def Foot.hits (x y : Foot) : Bool :=
  (match x.w with | some d => y.rs.contains d || y.w == some d | none => false) || (match y.w with | some d => x.rs.contains d | none => false) ||
  meets x.wb (y.rb ++ y.wb) || meets y.wb x.rb || meets x.nn y.vn || meets y.nn x.vn

def edges (ops : List Oper) (j : Nat) : List Nat := match ops[j]? with
  | some o => (o.after.toList.filter fun e => Region.binds .any e).map (·.on)
  | none => []

def ancOk (ops : List Oper) (A : List (List Nat)) : Bool :=
  (List.range ops.length).all fun j => (edges ops j).all (· < j) && (A.getD j []).all fun k => (edges ops j).contains k || (edges ops j).any fun m => (A.getD m []).contains k

def raceFree (items : List (Item U)) (A : List (List Nat)) : Bool :=
  let F := items.map footOf
  (List.range items.length).all fun j => (List.range j).all fun i => match F[i]?, F[j]? with
    | some x, some y => !x.hits y || (A.getD j []).contains i
    | _, _ => true

theorem raceFree_spec {items : List (Item U)} {A : List (List Nat)} (h : raceFree items A = true) {i j : Nat} {x y : Item U} (hij : i < j) (hi : items[i]? = some x) (hj : items[j]? = some y)
    (hh : (footOf x).hits (footOf y) = true) : i ∈ A.getD j [] := by
  have hlt : j < items.length := (List.getElem?_eq_some_iff.1 hj).1
  unfold raceFree at h
  have h1 := List.all_eq_true.1 (List.all_eq_true.1 h j (List.mem_range.2 hlt)) i (List.mem_range.2 hij)
  simp only [List.getElem?_map, hi, hj, Option.map_some, hh, Bool.not_true, Bool.false_or, List.contains_iff_mem] at h1
  exact h1

def Closed (ops : List Oper) (L : Nat → Prop) : Prop := ∀ j, L j → ∀ k ∈ edges ops j, L k

theorem anc_done {ops : List Oper} {A : List (List Nat)} (hA : ancOk ops A = true) {L : Nat → Prop} (hL : Closed ops L) : ∀ (j : Nat), j < ops.length → (∀ k ∈ edges ops j, L k) → ∀ k ∈ A.getD j [], L k := by
  intro j
  induction j using Nat.strongRecOn with
  | _ j ih =>
    intro hj hd k hk
    unfold ancOk at hA
    have h1 := List.all_eq_true.1 hA j (List.mem_range.2 hj)
    rw [Bool.and_eq_true] at h1
    have h2 := List.all_eq_true.1 h1.2 k hk
    rw [Bool.or_eq_true] at h2
    rcases h2 with h2 | h2
    · exact hd k (by simpa using h2)
    · obtain ⟨m, hm, hkm⟩ := List.any_eq_true.1 h2
      have hmj : m < j := by simpa using List.all_eq_true.1 h1.1 m hm
      exact ih m hmj (by omega) (hL m (hd m hm)) k (by simpa using hkm)

def pickL (items : List (Item U)) (L : Nat → Bool) : List (Item U) := (items.zipIdx.filter fun x => L x.2).map (·.1)

theorem pickL_filter (items : List (Item U)) (L M : Nat → Bool) (W : Item U → Bool) (h : ∀ j x, items[j]? = some x → W x = true → L j = M j) :
    (pickL items L).filter W = (pickL items M).filter W := by
  unfold pickL
  rw [List.filter_map, List.filter_map, List.filter_filter, List.filter_filter]
  congr 1
  refine List.filter_congr fun y hy => ?_
  obtain ⟨x, j⟩ := y
  have hx : items[j]? = some x := by simpa using List.mem_zipIdx_iff_getElem?.1 hy
  simp only [Function.comp_apply]
  cases hw : W x
  · simp
  · simp [h j x hx hw]

theorem pickL_snoc (items : List (Item U)) (L : Nat → Bool) (i : Nat) (x : Item U) (hi : items[i]? = some x) (hLi : L i = false) (W : Item U → Bool) (hW : W x = true)
    (h : ∀ j y, items[j]? = some y → i < j → W y = true → L j = false) :
    (pickL items fun j => L j || j == i).filter W = (pickL items L).filter W ++ [x] := by
  have hsplit : items = items.take i ++ x :: items.drop (i + 1) := by
    obtain ⟨hlt, hx⟩ := List.getElem?_eq_some_iff.1 hi
    rw [← hx, List.getElem_cons_drop, List.take_append_drop]
  have hlen : (items.take i).length = i := by
    have := (List.getElem?_eq_some_iff.1 hi).1
    simp; omega
  have hz : items.zipIdx = (items.take i).zipIdx ++ (x, i) :: (items.drop (i + 1)).zipIdx (i + 1) := by
    conv => lhs; rw [hsplit]
    rw [List.zipIdx_append, List.zipIdx_cons, hlen, Nat.zero_add]
  have hpre : ∀ y ∈ (items.take i).zipIdx, y.2 < i := fun y hy => by
    have := List.mem_zipIdx_iff_getElem?.1 (show (y.1, y.2) ∈ _ from hy)
    have := (List.getElem?_eq_some_iff.1 this).1
    omega
  have hpost : ∀ y ∈ (items.drop (i + 1)).zipIdx (i + 1), i < y.2 ∧ items[y.2]? = some y.1 := fun y hy => by
    have h1 := List.mem_zipIdx (show (y.1, y.2) ∈ _ from hy)
    have h0 := h1.1
    refine ⟨by omega, ?_⟩
    have h2 := h1.2.2
    have h3 : i + 1 + (y.2 - (i + 1)) = y.2 := by omega
    rw [h2, List.getElem_drop]
    simp only [h3]
    exact List.getElem?_eq_getElem _
  unfold pickL
  rw [hz]
  simp only [List.filter_append, List.filter_cons, List.map_append]
  rw [if_pos (by simp), if_neg (by simp [hLi])]
  have e1 : (items.take i).zipIdx.filter (fun y => L y.2 || y.2 == i) = (items.take i).zipIdx.filter (fun y => L y.2) := List.filter_congr fun y hy => by
    have := hpre y hy
    have : (y.2 == i) = false := by simp; omega
    simp [this]
  have e2 : ((items.drop (i + 1)).zipIdx (i + 1)).filter (fun y => L y.2 || y.2 == i) = ((items.drop (i + 1)).zipIdx (i + 1)).filter (fun y => L y.2) := List.filter_congr fun y hy => by
    have := (hpost y hy).1
    have : (y.2 == i) = false := by simp; omega
    simp [this]
  have e3 : ((((items.drop (i + 1)).zipIdx (i + 1)).filter fun y => L y.2).map (·.1)).filter W = [] := by
    rw [List.filter_eq_nil_iff]
    intro y hy hWy
    obtain ⟨z, hz, rfl⟩ := List.mem_map.1 hy
    obtain ⟨hz1, hz2⟩ := List.mem_filter.1 hz
    obtain ⟨h1, h2⟩ := hpost z hz1
    rw [h z.2 z.1 h2 h1 hWy] at hz2
    cases hz2
  rw [e1, e2]
  simp only [List.map_cons, List.filter_cons, hW, if_true, e3, List.append_nil]

def newOk (items : List (Item U)) : Bool :=
  let F := items.map footOf
  (List.range items.length).all fun j => (List.range j).all fun i => match F[i]?, F[j]? with
    | some x, some y => !meets y.nn x.vn
    | _, _ => true

theorem newOk_spec {items : List (Item U)} (h : newOk items = true) {i j : Nat} {x y : Item U} (hij : i < j) (hi : items[i]? = some x) (hj : items[j]? = some y) : ∀ n ∈ y.2.nn, n ∉ (footOf x).vn := by
  have hlt : j < items.length := (List.getElem?_eq_some_iff.1 hj).1
  unfold newOk at h
  have h1 := List.all_eq_true.1 (List.all_eq_true.1 h j (List.mem_range.2 hlt)) i (List.mem_range.2 hij)
  simp only [List.getElem?_map, hi, hj, Option.map_some] at h1
  intro n hn hv
  have : meets (footOf y).nn (footOf x).vn = true := List.any_eq_true.2 ⟨n, hn, by simpa using hv⟩
  rw [this] at h1
  cases h1

theorem names_next {st : St U} {s : LSpec U} {d : Option Nat} {n : Nat} (h : n ∈ (st.next s d).names) : n ∈ st.names ∨ n ∈ AVal.names U s.ws ++ nm s.pb ++ s.pb.flatMap fun y => Blk.names U y.2 := by
  simp only [St.names, List.mem_append, List.mem_flatMap] at h ⊢
  rcases h with (h | ⟨x, hx, hn⟩) | ⟨x, hx, hn⟩
  · rcases mem_next_hp h with h | h
    · obtain ⟨x, hx, rfl⟩ := List.mem_map.1 h
      exact .inl (.inl (.inl (mem_nm (List.mem_filter.1 hx).1)))
    · exact .inr (.inl (.inr h))
  · rcases mem_next_sl.1 hx with ⟨_, e⟩ | ⟨h, _⟩
    · rw [e] at hn; exact .inr (.inl (.inl hn))
    · exact .inl (.inl (.inr ⟨x, h, hn⟩))
  · rcases mem_next_hp_iff.1 hx with ⟨h, _⟩ | h
    · exact .inl (.inr ⟨x, h, hn⟩)
    · exact .inr (.inr ⟨x, h, hn⟩)

theorem names_runS {n : Nat} : ∀ (l : List (Item U)) (st : St U), n ∈ (runS l st).names → n ∈ st.names ∨ ∃ y ∈ l, n ∈ (footOf y).vn
  | [], _, h => .inl h
  | x :: l, st, h => by
    rcases names_runS l (stepI st x) h with h | ⟨y, hy, hn⟩
    · rcases names_next h with h | h
      · exact .inl h
      · exact .inr ⟨x, List.mem_cons_self, h⟩
    · exact .inr ⟨y, List.mem_cons_of_mem _ hy, hn⟩

structure Runs (U : Univ) (O : Out) (P : Program) (ops : Array Oper) (N : Nat) (st : St U) (items : List (Item U)) : Prop where
  len : items.map (·.1) = ops.toList
  ok : ∀ x ∈ items, SOk U O P ops x.1 x.2
  fit : ∀ i x, items[i]? = some x → Fits (runS (items.take i) st) x.2
  dst : ∀ x ∈ items, ∀ t, x.1.dst = some t → t < N
  fresh : ∀ x ∈ items, ∀ n ∈ x.2.nn, n ∉ st.names
  newOk : newOk items = true

def Bl (l : Array Bool) (j : Nat) : Bool := l.getD j false

theorem fits_part {ops : Array Oper} {N : Nat} {st : St U} {items : List (Item U)} {A : List (List Nat)} (hR : Runs U O P ops N st items) (hA : ancOk ops.toList A = true) (hF : raceFree items A = true)
    {L : Nat → Bool} (hL : Closed ops.toList fun j => L j = true) (hin : ∀ j, L j = true → j < items.length) {i : Nat} {x : Item U} (hi : items[i]? = some x) (hLi : L i = false)
    (hp : ∀ k ∈ edges ops.toList i, L k = true) : Fits (runS (pickL items L) st) x.2 := by
  have hlen : items.length = ops.toList.length := by rw [← hR.len, List.length_map]
  have hiL : i < items.length := (List.getElem?_eq_some_iff.1 hi).1
  have hanc := anc_done hA hL i (by omega) hp
  have hfut : ∀ j y, items[j]? = some y → i < j → (footOf x).hits (footOf y) = true → L j = false := fun j y hj hij hh => by
    cases hLj : L j
    · rfl
    · have h1 := raceFree_spec hF hij hi hj hh
      have h2 := anc_done hA hL j (by have := hin j hLj; omega) (hL j hLj) i h1
      rw [hLi] at h2; cases h2
  have hpast : ∀ j y, items[j]? = some y → j < i → (footOf y).hits (footOf x) = true → L j = true := fun j y hj hij hh => hanc j (raceFree_spec hF hij hj hi hh)
  have htake : items.take i = pickL items fun j => decide (j < i) := by
    unfold pickL
    apply List.ext_getElem?
    intro k
    have h1 : items.zipIdx.filter (fun y => decide (y.2 < i)) = items.zipIdx.take i := by
      have hz : items.zipIdx = items.zipIdx.take i ++ items.zipIdx.drop i := (List.take_append_drop _ _).symm
      conv => lhs; rw [hz]
      rw [List.filter_append]
      have e1 : (items.zipIdx.take i).filter (fun y => decide (y.2 < i)) = items.zipIdx.take i := List.filter_eq_self.2 fun y hy => by
        obtain ⟨m, hm, he⟩ := List.mem_iff_getElem.1 hy
        simp at he hm
        subst he
        simp; omega
      have e2 : (items.zipIdx.drop i).filter (fun y => decide (y.2 < i)) = [] := List.filter_eq_nil_iff.2 fun y hy => by
        obtain ⟨m, hm, he⟩ := List.mem_iff_getElem.1 hy
        simp at he hm
        subst he
        simp
      rw [e1, e2, List.append_nil]
    rw [h1, List.map_take]
    simp
  have hslot : ∀ t, (∀ j y, items[j]? = some y → wrS t y = true → j ≠ i → (i < j → (footOf x).hits (footOf y) = true) ∧ (j < i → (footOf y).hits (footOf x) = true)) →
      ∀ v, (t, v) ∈ (runS (items.take i) st).sl → (t, v) ∈ (runS (pickL items L) st).sl := fun t ht v hv => by
    rw [htake] at hv
    rw [runS_sl t v _ st st Iff.rfl] at hv ⊢
    rw [pickL_filter items L (fun j => decide (j < i)) (wrS t)]
    · exact hv
    · intro j y hj hw
      by_cases e : j = i
      · subst e; simp [hLi]
      · obtain ⟨h1, h2⟩ := ht j y hj hw e
        rcases Nat.lt_or_gt_of_ne e with h | h
        · simp [h, hpast j y hj h (h2 h)]
        · have : ¬ j < i := by omega
          simp [this, hfut j y hj h (h1 h)]
  have hblk : ∀ n, (∀ j y, items[j]? = some y → toB n y = true → j ≠ i → (i < j → (footOf x).hits (footOf y) = true) ∧ (j < i → (footOf y).hits (footOf x) = true)) →
      ∀ b, (n, b) ∈ (runS (items.take i) st).hp → (n, b) ∈ (runS (pickL items L) st).hp := fun n ht v hv => by
    rw [htake] at hv
    rw [runS_hp n v _ st st Iff.rfl] at hv ⊢
    rw [pickL_filter items L (fun j => decide (j < i)) (toB n)]
    · exact hv
    · intro j y hj hw
      by_cases e : j = i
      · subst e; simp [hLi]
      · obtain ⟨h1, h2⟩ := ht j y hj hw e
        rcases Nat.lt_or_gt_of_ne e with h | h
        · simp [h, hpast j y hj h (h2 h)]
        · have : ¬ j < i := by omega
          simp [this, hfut j y hj h (h1 h)]
  have hf := hR.fit i x hi
  have hmeets : ∀ {l m : List Nat} {n : Nat}, n ∈ l → n ∈ m → meets l m = true := fun h1 h2 => List.any_eq_true.2 ⟨_, h1, by simpa using h2⟩
  refine ⟨fun z hz => hslot z.1 (fun j y hj hw _ => ?_) z.2 (hf.rs z hz), fun z hz => hblk z.1 (fun j y hj hw _ => ?_) z.2 (hf.ro z hz), fun z hz => hblk z.1 (fun j y hj hw _ => ?_) z.2 (hf.cb z hz), fun n hn hnn => ?_, hf.pn, hf.lo⟩
  · have hd : y.1.dst = some z.1 := by simpa [wrS] using hw
    have hm : z.1 ∈ nm x.2.rs := mem_nm hz
    constructor <;> intro _ <;> simp [Foot.hits, footOf, hd, hm]
  · have hm : z.1 ∈ nm x.2.ro ++ nm x.2.cb := List.mem_append.2 (.inl (mem_nm hz))
    have hw' : z.1 ∈ nm y.2.cb ++ nm y.2.pb := by simpa [toB] using hw
    constructor <;> intro _
    · have := hmeets hw' hm
      simp [Foot.hits, footOf, this]
    · have := hmeets hw' (List.mem_append.2 (.inl hm) : z.1 ∈ (nm x.2.ro ++ nm x.2.cb) ++ (nm x.2.cb ++ nm x.2.pb))
      simp only [Foot.hits, footOf, this, Bool.or_true, Bool.true_or]
  · have hm : z.1 ∈ nm x.2.ro ++ nm x.2.cb := List.mem_append.2 (.inr (mem_nm hz))
    have hw' : z.1 ∈ nm y.2.cb ++ nm y.2.pb := by simpa [toB] using hw
    constructor <;> intro _
    · have := hmeets hw' hm
      simp [Foot.hits, footOf, this]
    · have := hmeets hw' (List.mem_append.2 (.inl hm) : z.1 ∈ (nm x.2.ro ++ nm x.2.cb) ++ (nm x.2.cb ++ nm x.2.pb))
      simp only [Foot.hits, footOf, this, Bool.or_true, Bool.true_or]
  · rcases names_runS _ _ hnn with h | ⟨y, hy, hv⟩
    · exact hR.fresh x (List.mem_of_getElem? hi) n hn h
    · obtain ⟨⟨y', j⟩, hy', rfl⟩ := List.mem_map.1 hy
      obtain ⟨h1, h2⟩ := List.mem_filter.1 hy'
      have hj : items[j]? = some y' := by simpa using List.mem_zipIdx_iff_getElem?.1 h1
      simp only at h2 hv
      rcases Nat.lt_trichotomy j i with h | h | h
      · exact newOk_spec hR.newOk h hj hi n hn hv
      · subst h; rw [hLi] at h2; cases h2
      · have := hfut j y' hj h (by
          have := hmeets (l := (footOf x).nn) (m := (footOf y').vn) hn hv
          simp only [Foot.hits, this, Bool.or_true, Bool.true_or])
        rw [this] at h2; cases h2

theorem Rel.congr {st st' : St U} (h : St.Le st' st) {S : Nat → Prop} {ι : Lay} {a : Act} {w : World} (hR : Rel U O B S ι st a w) : Rel U O B S ι st' a w := hR.weak h

theorem runS_append (l m : List (Item U)) (st : St U) : runS (l ++ m) st = runS m (runS l st) := List.foldl_append

theorem part_next {ops : Array Oper} {N : Nat} {st : St U} {items : List (Item U)} {A : List (List Nat)} (hR : Runs U O P ops N st items) (hA : ancOk ops.toList A = true) (hF : raceFree items A = true)
    {L : Nat → Bool} (hL : Closed ops.toList fun j => L j = true) (hin : ∀ j, L j = true → j < items.length) {i : Nat} {x : Item U} (hi : items[i]? = some x) (hLi : L i = false) :
    St.Le (runS (pickL items fun j => L j || j == i) st) (stepI (runS (pickL items L) st) x) := by
  have hlen : items.length = ops.toList.length := by rw [← hR.len, List.length_map]
  have hfut : ∀ j y, items[j]? = some y → i < j → (footOf x).hits (footOf y) = true → L j = false := fun j y hj hij hh => by
    cases hLj : L j
    · rfl
    · have h1 := raceFree_spec hF hij hi hj hh
      have h2 := anc_done hA hL j (by have := hin j hLj; omega) (hL j hLj) i h1
      rw [hLi] at h2; cases h2
  have hmeets : ∀ {l m : List Nat} {n : Nat}, n ∈ l → n ∈ m → meets l m = true := fun h1 h2 => List.any_eq_true.2 ⟨_, h1, by simpa using h2⟩
  have hsnoc : stepI (runS (pickL items L) st) x = runS (pickL items L ++ [x]) st := by rw [runS_append]; rfl
  rw [hsnoc]
  have key : ∀ W : Item U → Bool, (∀ j y, items[j]? = some y → i < j → W y = true → W x = true → (footOf x).hits (footOf y) = true) →
      (pickL items fun j => L j || j == i).filter W = (pickL items L ++ [x]).filter W := fun W hW => by
    rw [List.filter_append]
    cases hWx : W x with
    | true =>
      rw [List.filter_cons_of_pos hWx, List.filter_nil]
      exact pickL_snoc items L i x hi hLi W hWx fun j y hj hij hw => hfut j y hj hij (hW j y hj hij hw hWx)
    | false =>
      rw [List.filter_cons_of_neg (by simp [hWx]), List.filter_nil, List.append_nil]
      refine pickL_filter items _ L W fun j y hj hw => ?_
      by_cases e : j = i
      · subst e; rw [hi] at hj; injection hj with hj; rw [hj, hw] at hWx; cases hWx
      · have : (j == i) = false := by simpa using e
        simp [this]
  refine ⟨fun z hz => ?_, fun z hz => ?_⟩
  · have h1 := (runS_sl z.1 z.2 (pickL items fun j => L j || j == i) st st Iff.rfl).1 hz
    rw [key (wrS z.1) fun j y hj hij hw hx => by
      have hd : y.1.dst = some z.1 := by simpa [wrS] using hw
      have hd' : x.1.dst = some z.1 := by simpa [wrS] using hx
      simp [Foot.hits, footOf, hd, hd']] at h1
    exact (runS_sl z.1 z.2 (pickL items L ++ [x]) st st Iff.rfl).2 h1
  · have h1 := (runS_hp z.1 z.2 (pickL items fun j => L j || j == i) st st Iff.rfl).1 hz
    rw [key (toB z.1) fun j y hj hij hw hx => by
      have hw' : z.1 ∈ nm y.2.cb ++ nm y.2.pb := by simpa [toB] using hw
      have hx' : z.1 ∈ nm x.2.cb ++ nm x.2.pb := by simpa [toB] using hx
      have := hmeets hx' (List.mem_append.2 (.inr hw') : z.1 ∈ (nm y.2.ro ++ nm y.2.cb) ++ (nm y.2.cb ++ nm y.2.pb))
      simp only [Foot.hits, footOf, this, Bool.or_true, Bool.true_or]] at h1
    exact (runS_hp z.1 z.2 (pickL items L ++ [x]) st st Iff.rfl).2 h1

theorem Rel.drew {S : Nat → Prop} {ι : Lay} {st : St U} {a : Act} {w : World} (hR : Rel U O B S ι st a w) : Rel U O B S ι st a { w with drawn := w.drawn + 1 } :=
  { hR with
    sl := fun x hx => VV.mono (w := w) (w' := { w with drawn := w.drawn + 1 }) (fun _ _ => rfl) (fun _ h => h) _ _ (fun _ _ => rfl) (hR.sl x hx)
    hp := fun x hx => BR.mono (w := w) (w' := { w with drawn := w.drawn + 1 }) (fun _ _ => rfl) (fun _ h => h) rfl (fun _ _ => rfl) (fun _ _ _ => rfl) (hR.hp x hx)
    own := ⟨hR.own.out, hR.own.sep⟩ }

theorem countP_lt {p q : Nat → Bool} (h : ∀ x, p x = true → q x = true) {i : Nat} : ∀ {l : List Nat}, i ∈ l → q i = true → p i = false → l.countP p < l.countP q
  | x :: l, hi, hq, hp => by
    have hle : l.countP p ≤ l.countP q := List.countP_mono_left fun x _ => h x
    rcases List.mem_cons.1 hi with rfl | hi
    · rw [List.countP_cons_of_neg (by simp [hp]), List.countP_cons_of_pos hq]; omega
    · have := countP_lt h hi hq hp
      cases hpx : p x
      · cases hqx : q x
        · rw [List.countP_cons_of_neg (by simp [hpx]), List.countP_cons_of_neg (by simp [hqx])]; exact this
        · rw [List.countP_cons_of_neg (by simp [hpx]), List.countP_cons_of_pos hqx]; omega
      · rw [List.countP_cons_of_pos hpx, List.countP_cons_of_pos (h x hpx)]; omega

theorem wpAny_of {ops : Array Oper} {st : St U} {items : List (Item U)} {A : List (List Nat)} (hR : Runs U O P ops B.n st items) (hA : ancOk ops.toList A = true) (hF : raceFree items A = true)
    {Q : Exit → Act → World → Prop} (hQ : ∀ S ι a w, Rel U O B S ι (runS items st) a w → Q .normal a w) :
    ∀ (fuel : Nat) (listed : Array Bool) (a : Act) (w : World), listed.size = ops.size → Closed ops.toList (fun j => Bl listed j = true) → (List.range ops.size).countP (fun j => !Bl listed j) ≤ fuel →
      (∃ S ι, Rel U O B S ι (runS (pickL items (Bl listed)) st) a w) → wpAny P .any ops Q fuel listed a w := by
  have hlen : items.length = ops.size := by rw [← List.length_map (f := (·.1)), hR.len, Array.length_toList]
  have hall : ∀ listed : Array Bool, listed.size = ops.size → Closed ops.toList (fun j => Bl listed j = true) → Region.ready .any ops listed = [] → ∀ j, j < ops.size → Bl listed j = true := by
    intro listed hsz hcl hr j
    induction j using Nat.strongRecOn with
    | _ j ih =>
      intro hj
      cases hb : Bl listed j
      · exfalso
        have : j ∈ Region.ready .any ops listed := by
          rw [mem_ready]
          refine ⟨?_, ops[j], Array.getElem?_eq_getElem hj, fun e he hbd => ?_⟩
          · unfold Bl at hb
            rw [Array.getD_eq_getD_getElem?, Array.getElem?_eq_getElem (by omega)] at hb ⊢
            simpa using hb
          · have hedge : e.on ∈ edges ops.toList j := by
              unfold edges
              simp only [Array.getElem?_toList, Array.getElem?_eq_getElem hj]
              exact List.mem_map.2 ⟨e, List.mem_filter.2 ⟨by simpa using he, hbd⟩, rfl⟩
            have hlt : e.on < j := by
              unfold ancOk at hA
              have h1 := List.all_eq_true.1 hA j (List.mem_range.2 (by simpa using hj))
              rw [Bool.and_eq_true] at h1
              simpa using List.all_eq_true.1 h1.1 e.on hedge
            exact ih e.on hlt (by omega)
        rw [hr] at this; cases this
      · rfl
  have hend : ∀ (listed : Array Bool) (a : Act) (w : World), listed.size = ops.size → Closed ops.toList (fun j => Bl listed j = true) → (∃ S ι, Rel U O B S ι (runS (pickL items (Bl listed)) st) a w) →
      Region.ready .any ops listed = [] → Q .normal a w := by
    rintro listed a w hsz hcl ⟨S, ι, hRel⟩ hr
    have h1 := hall listed hsz hcl hr
    have : pickL items (Bl listed) = items := by
      unfold pickL
      rw [List.filter_eq_self.2 fun y hy => h1 y.2 (by have := (List.getElem?_eq_some_iff.1 (List.mem_zipIdx_iff_getElem?.1 (show (y.1, y.2) ∈ _ from hy))).1; omega)]
      simp
    rw [this] at hRel
    exact hQ S ι a w hRel
  intro fuel
  induction fuel with
  | zero =>
    intro listed a w hsz hcl hcount hRel
    have hr : Region.ready .any ops listed = [] := by
      cases hr : Region.ready .any ops listed with
      | nil => rfl
      | cons i l =>
        exfalso
        have hi : i ∈ Region.ready .any ops listed := by rw [hr]; exact List.mem_cons_self
        obtain ⟨hun, o, ho, _⟩ := mem_ready.1 hi
        have hlt : i < ops.size := (Array.getElem?_eq_some_iff.1 ho).1
        have : 0 < (List.range ops.size).countP (fun j => !Bl listed j) := by
          rw [List.countP_pos_iff]
          refine ⟨i, List.mem_range.2 hlt, ?_⟩
          unfold Bl
          rw [Array.getD_eq_getD_getElem?, Array.getElem?_eq_getElem (by omega)] at hun ⊢
          simpa using hun
        omega
    exact ⟨hr, hend listed a w hsz hcl hRel hr⟩
  | succ fuel ih =>
    intro listed a w hsz hcl hcount hRel
    refine ⟨hend listed a w hsz hcl hRel, fun i hi => ?_⟩
    obtain ⟨hun, o, ho, hpre⟩ := mem_ready.1 hi
    have hlt : i < ops.size := (Array.getElem?_eq_some_iff.1 ho).1
    have hun' : Bl listed i = false := by
      unfold Bl
      rw [Array.getD_eq_getD_getElem?, Array.getElem?_eq_getElem (by omega)] at hun ⊢
      simpa using hun
    obtain ⟨x, hx⟩ : ∃ x, items[i]? = some x := ⟨items[i]'(by omega), List.getElem?_eq_getElem _⟩
    have hxo : x.1 = o := by
      have h1 : (items.map (·.1))[i]? = some x.1 := by simp [hx]
      rw [hR.len, Array.getElem?_toList, ho] at h1
      injection h1 with h1; exact h1.symm
    have hp : ∀ k ∈ edges ops.toList i, Bl listed k = true := fun k hk => by
      unfold edges at hk
      simp only [Array.getElem?_toList, ho] at hk
      obtain ⟨e, he, rfl⟩ := List.mem_map.1 hk
      obtain ⟨h1, h2⟩ := List.mem_filter.1 he
      exact hpre e (by simpa using h1) h2
    have hin : ∀ j, Bl listed j = true → j < items.length := fun j hj => by
      rcases Nat.lt_or_ge j items.length with h | h
      · exact h
      · unfold Bl at hj; rw [Array.getD_eq_getD_getElem?, Array.getElem?_eq_none (by omega)] at hj; cases hj
    obtain ⟨S, ι, hRel⟩ := hRel
    have hfit := fits_part hR hA hF hcl hin hx hun' hp
    have hset : ∀ j, Bl (listed.setIfInBounds i true) j = (Bl listed j || j == i) := fun j => by
      unfold Bl
      simp only [Array.getD_eq_getD_getElem?]
      by_cases e : j = i
      · subst e
        rw [Array.getElem?_setIfInBounds_self_of_lt (by omega)]
        simp
      · rw [Array.getElem?_setIfInBounds_ne (Ne.symm e)]
        have : (j == i) = false := by simpa using e
        simp [this]
    have hxm : x ∈ items := List.mem_of_getElem? hx
    have huse := (hR.ok x hxm).use (Q := Q) hRel hfit (hR.dst x hxm) (K := wpAny P .any ops Q fuel (listed.setIfInBounds i true)) fun S' ι' a' w' hR' => by
      refine ih _ a' w' (by simpa using hsz) ?_ ?_ ⟨S', ι', ?_⟩
      · intro j hj k hk
        rw [hset] at hj ⊢
        simp only [Bool.or_eq_true, beq_iff_eq] at hj ⊢
        rcases hj with hj | rfl
        · exact .inl (hcl j hj k hk)
        · exact .inl (hp k hk)
      · have h1 : (List.range ops.size).countP (fun j => !Bl (listed.setIfInBounds i true) j) < (List.range ops.size).countP (fun j => !Bl listed j) := by
          refine countP_lt (fun j hj => ?_) (List.mem_range.2 hlt) (by simp [hun']) (by simp [hset])
          rw [hset] at hj
          revert hj
          cases Bl listed j <;> simp
        omega
      · have h2 : pickL items (Bl (listed.setIfInBounds i true)) = pickL items fun j => Bl listed j || j == i := by
          unfold pickL; congr 2; funext y; exact hset y.2
        rw [h2]
        exact hR'.weak (part_next hR hA hF hcl hin hx hun')
    unfold opWp at huse
    unfold wpOp
    simp only [ho]
    rw [hxo] at huse
    exact huse

theorem Bl_start (n j : Nat) : Bl (Array.replicate n false) j = false := by
  unfold Bl
  rw [Array.getD_eq_getD_getElem?, Array.getElem?_replicate]
  split <;> rfl

theorem WpC.regionAny {id : Nat} {ops : Array Oper} {st : St U} {Q : PostQ U} {items : List (Item U)} (A : List (List Nat)) (hm : P.follows .mixedOrders = true) (hR : Runs U O P ops B.n st items)
    (hA : ancOk ops.toList A = true) (hF : raceFree items A = true) (hQ : Q .normal (runS items st)) : WpC U O P B (.region id ops true) st Q := fun S ι a w hRel => by
  refine wp_region_any hm (wpAny_of hR hA hF (fun S ι a w hR => ⟨_, hQ, S, ι, hR⟩) _ _ _ _ (by simp) ?_ (Nat.le_trans List.countP_le_length (by simp)) ⟨S, ι, ?_⟩)
  · intro j hj
    rw [Bl_start] at hj; cases hj
  · have : pickL items (Bl (Array.replicate ops.size false)) = [] := by
      unfold pickL
      rw [List.filter_eq_nil_iff.2 fun y _ => by simp [Bl_start]]
      rfl
    rw [this]
    exact hRel.drew

theorem Runs.chain {ops : Array Oper} {N : Nat} {st : St U} {items : List (Item U)} (hok : ∀ x ∈ items, SOk U O P ops x.1 x.2) (hfit : ∀ i x, items[i]? = some x → Fits (runS (items.take i) st) x.2)
    (hdst : ∀ x ∈ items, ∀ t, x.1.dst = some t → t < N) : Chain U O P ops N st (items.map (·.1)) (runS items st) := by
  induction items generalizing st with
  | nil => exact .nil st
  | cons x l ih =>
    refine .cons (hok x List.mem_cons_self) (hfit 0 x rfl) (hdst x List.mem_cons_self) ?_
    exact ih (fun y hy => hok y (List.mem_cons_of_mem _ hy)) (fun i y hy => hfit (i + 1) y (by simpa using hy)) fun y hy => hdst y (List.mem_cons_of_mem _ hy)
end
end Go.AM
namespace Go.AM

section
variable {U : Univ} {O : Out} {P : Program} {S : Nat → Prop} {ι : Lay} {w : World} {rs : List (Nat × AVal U)} {a : Act} {ops : Array Oper} {o : Oper}

theorem sok_run {s : LSpec U} {j t : Nat} {want b : Bool} (hg : o.guard = some (j, want)) (hd : (ops[j]?).bind (·.dst) = some t) (hb : b = want)
    (h : SOk U O P ops { o with guard := none } s) : SOk U O P ops o { s with rs := (t, .p .bool b) :: s.rs } := by
  intro S ι w a hlt hgl hrs hro hcb hown K Q hK
  have h1 := h S ι w a hlt hgl (fun x hx => hrs x (List.mem_cons_of_mem _ hx)) hro hcb hown K Q
    (fun u S' ι' w' hN hu => hK u S' ι' w' ⟨hN.os, hN.tape, hN.output, hN.size, hN.sub, hN.new, hN.lt, hN.keep, hN.lay, hN.blk, hN.plc, hN.sep⟩ hu)
  have hv := VV.bool_iff.1 (hrs (t, .p .bool b) List.mem_cons_self)
  have hy : yielded ops a.tmps j = some want := by
    unfold yielded
    rw [hd]
    simp only [Option.bind_some]
    simp only at hv
    rw [Array.getD_eq_getD_getElem?] at hv
    cases ht : a.tmps[t]? with
    | none => rw [ht] at hv; cases hv
    | some v => rw [ht] at hv; simp only [Option.getD_some] at hv; rw [hv, hb]
  unfold opWp at h1 ⊢
  rw [if_pos (by simp [Region.wanted])] at h1
  rw [if_pos (by simp [Region.wanted, hg, hy])]
  exact h1

theorem sok_skip {j t : Nat} {want b : Bool} (hg : o.guard = some (j, want)) (hd : (ops[j]?).bind (·.dst) = some t) (hb : b = !want) :
    SOk U O P ops o { rs := [(t, .p .bool b)], ws := .tup [] } := by
  intro S ι w a hlt hgl hrs hro hcb hown K Q hK
  have hv := VV.bool_iff.1 (hrs (t, .p .bool b) List.mem_cons_self)
  have hy : yielded ops a.tmps j = some (!want) := by
    unfold yielded
    rw [hd]
    simp only [Option.bind_some]
    simp only at hv
    rw [Array.getD_eq_getD_getElem?] at hv
    cases ht : a.tmps[t]? with
    | none => rw [ht] at hv; cases hv
    | some v => rw [ht] at hv; simp only [Option.getD_some] at hv; rw [hv, hb]
  unfold opWp
  rw [if_neg (by simp [Region.wanted, hg, hy])]
  exact hK undef S ι w (Nx.refl _ rfl rfl hlt) ⟨[], rfl, rfl⟩

theorem sok_skipU {j t : Nat} {want : Bool} (hg : o.guard = some (j, want)) (hd : (ops[j]?).bind (·.dst) = some t) :
    SOk U O P ops o { rs := [(t, .tup [])], ws := .tup [] } := by
  intro S ι w a hlt hgl hrs hro hcb hown K Q hK
  obtain ⟨vs, hvs, hv⟩ := hrs (t, .tup []) List.mem_cons_self
  have hvs' : vs = [] := hvs
  subst hvs'
  have hy : yielded ops a.tmps j = none := by
    unfold yielded
    rw [hd]
    simp only [Option.bind_some]
    simp only at hv
    rw [Array.getD_eq_getD_getElem?] at hv
    cases ht : a.tmps[t]? with
    | none => rfl
    | some v => rw [ht] at hv; simp only [Option.getD_some] at hv; rw [hv]
  unfold opWp
  rw [if_neg (by simp [Region.wanted, hg, hy])]
  exact hK undef S ι w (Nx.refl _ rfl rfl hlt) ⟨[], rfl, rfl⟩

inductive Comp (U : Univ) : (t : Ty) → t.den U.T → Nat → (t' : Ty) → t'.den U.T → Prop
  | here (t : Ty) (x : t.den U.T) : Comp U t x 0 t x
  | fst {a b : Ty} {x : a.den U.T} {y : b.den U.T} {o : Nat} {t : Ty} {z : t.den U.T} : Comp U a x o t z → Comp U (.pair a b) (x, y) o t z
  | snd {a b : Ty} {x : a.den U.T} {y : b.den U.T} {o k : Nat} {t : Ty} {z : t.den U.T} : Comp U b y o t z → k = a.width U.wd + o → Comp U (.pair a b) (x, y) k t z
  | named {n : Nat} {x : U.T n} {o : Nat} {t : Ty} {z : t.den U.T} : Comp U (U.body n) (U.out n x) o t z → Comp U (.named n) x o t z
  | arr {n : Nat} {e : Ty} {xs : List (e.den U.T)} {i o k : Nat} {x : e.den U.T} {t : Ty} {z : t.den U.T} : xs[i]? = some x → Comp U e x o t z → k = i * e.width U.wd + o → Comp U (.arr n e) xs k t z

theorem flatMap_range_get (n k : Nat) (cs : Nat → List Value) (h : ∀ i, i < n → (cs i).length = k) (i j : Nat) (hi : i < n) (hj : j < k) : ((List.range n).flatMap cs)[i * k + j]? = (cs i)[j]? := by
  induction n with
  | zero => omega
  | succ n ih =>
    have hl := flatMap_range_length n k cs fun i hi => h i (by omega)
    rw [List.range_succ, List.flatMap_append]
    by_cases e : i = n
    · subst e
      rw [List.getElem?_append_right (by omega), hl]
      simp
    · have : i * k + j < n * k := by
        have h1 : (i + 1) * k ≤ n * k := Nat.mul_le_mul_right k (by omega)
        rw [Nat.add_mul] at h1
        omega
      rw [List.getElem?_append_left (by omega)]
      exact ih (fun i hi => h i (by omega)) (by omega)

theorem Comp.get {t : Ty} {x : t.den U.T} {o : Nat} {t' : Ty} {x' : t'.den U.T} (h : Comp U t x o t' x') : ∀ {cs : List Value}, Rd U O S w t x cs →
    ∃ cs', Rd U O S w t' x' cs' ∧ o + t'.width U.wd ≤ t.width U.wd ∧ ∀ j, j < t'.width U.wd → cs[o + j]? = cs'[j]? := by
  induction h with
  | here t x => exact fun h => ⟨_, h, by omega, fun j _ => by simp⟩
  | fst _ ih =>
    intro cs h
    cases h with
    | pair h1 h2 =>
      obtain ⟨cs', h3, h4, h5⟩ := ih h1
      refine ⟨cs', h3, by simp [Ty.width]; omega, fun j hj => ?_⟩
      rw [List.getElem?_append_left (by rw [h1.length]; omega)]
      exact h5 j hj
  | snd _ hk ih =>
    intro cs h
    cases h with
    | pair h1 h2 =>
      obtain ⟨cs', h3, h4, h5⟩ := ih h2
      refine ⟨cs', h3, by simp [Ty.width]; omega, fun j hj => ?_⟩
      rw [List.getElem?_append_right (by rw [h1.length]; omega), h1.length, ← h5 j hj, hk]
      congr 1
      omega
  | named _ ih =>
    intro cs h
    cases h with
    | named _ _ h =>
      obtain ⟨cs', h3, h4, h5⟩ := ih h
      exact ⟨cs', h3, by rw [U.wd_ok] at h4; exact h4, h5⟩
  | @arr n e xs i o k x t z hx _ hk ih =>
    intro cs h
    cases h with
    | arr _ _ _ cs hn hel =>
      obtain ⟨hi, hx⟩ := List.getElem?_eq_some_iff.1 hx
      obtain ⟨cs', h3, h4, h5⟩ := ih (hx ▸ hel i hi)
      have hmul : (i + 1) * e.width U.wd ≤ n * e.width U.wd := Nat.mul_le_mul_right _ (by omega)
      rw [Nat.add_mul] at hmul
      refine ⟨cs', h3, by simp only [Ty.width]; omega, fun j hj => ?_⟩
      rw [← h5 j hj, hk, Nat.add_assoc]
      exact flatMap_range_get n _ cs (fun i hi => (hel i (by omega)).length) i (o + j) (by omega) (by omega)

theorem exec_indexAddr {ρ : Operand → Value} {T : TypeId} {x y : Operand} (ho : o.op = .indexAddr T x y) : execOp ρ o = vOf (Instr.indexAt T (ρ x) (ρ y)) := by unfold execOp; rw [ho]; rfl
theorem exec_fieldAddr {ρ : Operand → Value} {T : TypeId} {x : Operand} {f : Nat} (ho : o.op = .fieldAddr T x f) : execOp ρ o = vOf (Instr.fieldAt T (ρ x) f) := by unfold execOp; rw [ho]; rfl
theorem exec_field {ρ : Operand → Value} {T : TypeId} {x : Operand} {f : Nat} (ho : o.op = .field T x f) : execOp ρ o = vOf (Instr.field T (ρ x) f) := by unfold execOp; rw [ho]; rfl
theorem exec_load {ρ : Operand → Value} {T : TypeId} {x : Operand} (ho : o.op = .load T x) : execOp ρ o = vOf (Instr.loadAt T (ρ x)) := by unfold execOp; rw [ho]; rfl

theorem sok_indexL {T E : TypeId} {t : Ty} {x y : Operand} {k : IntKind} {xs : List (t.den U.T)} {i : Int} {e : t.den U.T} (hg : o.guard = none) (ho : o.op = .indexAddr T x y) (ht : SlOk P U T E t)
    (hx : Opd U rs x (.p (.list t) xs)) (hy : Opd U rs y (.p (.int k) i)) (hi : idx xs i = some e) : SOk U O P ops o { rs := rs, ws := .pp t e } :=
  sok_v hg _ (fun _ => exec_indexAddr ho) fun S ι w a hrs _ => by
    unfold idx at hi
    split at hi
    · rename_i h0
      obtain ⟨hlt, he⟩ := List.getElem?_eq_some_iff.1 hi
      rcases VV.list_iff.1 (hx.ev hrs) with ⟨rfl, _⟩ | ⟨rfl, _⟩ | ⟨b, o', cap, cs, hv, hS, hcap, hel, hcell⟩
      · simp at hlt
      · simp at hlt
      · refine ⟨.pointer (some ⟨b, o' + i.toNat * t.width U.wd, none⟩), ?_, ?_⟩
        · rw [hv, VV.int_iff.1 (hy.ev hrs)]
          have hc : 0 ≤ i ∧ i < (xs.length : Int) := ⟨h0, by omega⟩
          simp only [Instr.indexAt, asIntOf, Sem.run_bind, Sem.run_pure, Result.andThen_ok, run_underlying ht.under, if_pos hc, run_sizeOf ht.el, Addr.add_lit]
        · refine ⟨b, _, cs i.toNat, rfl, hS, he ▸ hel i.toNat hlt, fun j hj => ?_⟩
          rw [← hcell i.toNat j hlt hj, Nat.add_assoc]
    · exact absurd hi (by simp)

structure FdOk (P : Program) (U : Univ) (T : TypeId) (f off : Nat) (F : TypeId) (t : Ty) : Prop where
  h : ∃ fs fd, P.underlying T = some (.struct fs) ∧ fs[f]? = some fd ∧ fd.offset = off ∧ fd.type = F
  ty : TyOk P U F t

theorem run_part {F : TypeId} {t : Ty} (h : TyOk P U F t) {cs : Array Value} {off : Nat} {xs : List Value} (hl : xs.length = t.width U.wd) (hc : ∀ j, j < t.width U.wd → cs[off + j]? = xs[j]?)
    (h1 : t.isAgg = false → t.width U.wd = 1) (w : World) : (part F cs off).run P w = .ok (mkV t.isAgg xs) w := by
  obtain ⟨d, hd, ha⟩ := h.agg
  have hia : (isAgg F).run P w = .ok t.isAgg w := by
    rw [← ha]
    simp only [isAgg, Sem.run_bind, run_underlying hd, Result.andThen_ok]
    cases d <;> rfl
  unfold part
  rw [Sem.run_bind, hia]
  simp only [Result.andThen_ok]
  cases hag : t.isAgg with
  | true =>
    simp only [if_true, Sem.run_bind, run_sizeOf h, Result.andThen_ok, Sem.run_pure, mkV]
    congr 2
    apply Array.ext'
    rw [Array.toList_extract]
    apply List.ext_getElem?
    intro j
    rw [List.extract_eq_take_drop, List.getElem?_take, List.getElem?_drop]
    split
    · rename_i hj
      have hj : j < t.width U.wd := by omega
      rw [Array.getElem?_toList, hc j hj]
    · rw [List.getElem?_eq_none (by simp; omega)]
  | false =>
    have h2 := h1 hag
    simp only [Bool.false_eq_true, if_false, mkV]
    have h3 := hc 0 (by omega)
    simp only [Nat.add_zero] at h3
    rw [h3]
    cases xs with
    | nil => simp at hl; omega
    | cons c l => rfl

theorem width_one {t : Ty} (h : t.isAgg = false) : t.width U.wd = 1 := by cases t <;> simp_all [Ty.isAgg, Ty.width]

theorem run_fieldPlace {F : TypeId} {t : Ty} (h : TyOk P U F t) (hw : t.width U.wd ≠ 0) (bl of : Nat) (fd : Field) (hfd : fd.type = F) (w : World) :
    (fieldPlace ⟨bl, of, none⟩ fd).run P w = .ok ⟨bl, of + fd.offset, none⟩ w := by
  unfold fieldPlace
  rw [Sem.run_bind, hfd, run_sizeOf h]
  simp only [Result.andThen_ok, if_neg hw, Sem.run_pure, Addr.add_lit]

theorem sok_field {T F : TypeId} {f off : Nat} {tT t : Ty} {x : Operand} {X : tT.den U.T} {Z : t.den U.T} (hg : o.guard = none) (ho : o.op = .field T x f) (hf : FdOk P U T f off F t)
    (hag : tT.isAgg = true) (hx : Opd U rs x (.p tT X)) (hc : Comp U tT X off t Z) : SOk U O P ops o { rs := rs, ws := .p t Z } :=
  sok_v hg _ (fun _ => exec_field ho) fun S ι w a hrs _ => by
    obtain ⟨cs, hr, hv⟩ := hx.ev hrs
    obtain ⟨cs', hr', hle, hget⟩ := hc.get hr
    obtain ⟨fs, fd, h1, h2, h3, h4⟩ := hf.h
    refine ⟨mkV t.isAgg cs', ?_, cs', hr', rfl⟩
    rw [hv, hag]
    simp only [Instr.field, mkV, Sem.run_bind, run_underlying h1, Result.andThen_ok, h2, asAgg, Sem.run_pure, h3, h4]
    exact run_part hf.ty hr'.length (fun j hj => by rw [← hget j hj]; simp) width_one w

theorem sok_fieldP {T F : TypeId} {f off : Nat} {tT t : Ty} {x : Operand} {X : tT.den U.T} {Z : t.den U.T} (hg : o.guard = none) (ho : o.op = .fieldAddr T x f) (hf : FdOk P U T f off F t)
    (hw : t.width U.wd ≠ 0) (hx : Opd U rs x (.pp tT X)) (hc : Comp U tT X off t Z) : SOk U O P ops o { rs := rs, ws := .pp t Z } :=
  sok_v hg _ (fun _ => exec_fieldAddr ho) fun S ι w a hrs _ => by
    obtain ⟨b, of, cs, hv, hS, hr, hcell⟩ := hx.ev hrs
    obtain ⟨cs', hr', hle, hget⟩ := hc.get hr
    obtain ⟨fs, fd, h1, h2, h3, h4⟩ := hf.h
    refine ⟨.pointer (some ⟨b, of + off, none⟩), ?_, b, of + off, cs', rfl, hS, hr', fun j hj => ?_⟩
    · rw [hv]
      simp only [Instr.fieldAt, Instr.sureAddr, Sem.run_bind, run_underlying h1, Result.andThen_ok, h2, Sem.run_pure, run_fieldPlace hf.ty hw b of fd h4, h3]
    · rw [← hget j hj, ← hcell (off + j) (by omega)]
      congr 2
      omega

theorem run_isAgg {T : TypeId} {t : Ty} (h : TyOk P U T t) (w : World) : (isAgg T).run P w = .ok t.isAgg w := by
  obtain ⟨d, hd, ha⟩ := h.agg
  rw [← ha]
  simp only [isAgg, Sem.run_bind, run_underlying hd, Result.andThen_ok]
  cases d <;> rfl

theorem run_loadAt {T : TypeId} {t : Ty} (h : TyOk P U T t) {bl of : Nat} {cs : List Value} (hl : cs.length = t.width U.wd) (hc : ∀ j, j < t.width U.wd → w.cell? ⟨bl, of + j, none⟩ = cs[j]?) :
    (Instr.loadAt T (.pointer (some ⟨bl, of, none⟩))).run P w = .ok (mkV t.isAgg cs) w := by
  simp only [Instr.loadAt, Instr.sureAddr, loadVar, Sem.run_bind, Sem.run_pure, Result.andThen_ok, run_isAgg h]
  cases hag : t.isAgg with
  | true =>
    have := run_loadCells_list (P := P) (w := w) ⟨bl, of, none⟩ cs fun j v hj => by
      have hlt := (List.getElem?_eq_some_iff.1 hj).1
      rw [Addr.add_lit, hc j (by omega), hj]
    rw [hl] at this
    simp only [if_true, Sem.run_bind, run_sizeOf h, Result.andThen_ok, this, Sem.run_pure, mkV]
  | false =>
    have h1 := width_one (U := U) hag
    have h2 := hc 0 (by omega)
    simp only [Bool.false_eq_true, if_false, mkV, Nat.add_zero] at h2 ⊢
    cases cs with
    | nil => simp at hl; omega
    | cons c l => simp [load, Sem.run, h2]

theorem sok_loadP {T : TypeId} {t : Ty} {x : Operand} {X : t.den U.T} (hg : o.guard = none) (ho : o.op = .load T x) (ht : TyOk P U T t) (hx : Opd U rs x (.pp t X)) :
    SOk U O P ops o { rs := rs, ws := .p t X } :=
  sok_v hg _ (fun _ => exec_load ho) fun S ι w a hrs _ => by
    obtain ⟨b, of, cs, hv, hS, hr, hcell⟩ := hx.ev hrs
    exact ⟨_, by rw [hv]; exact run_loadAt ht hr.length hcell, cs, hr, rfl⟩

def AVal.isPtr : AVal U → Bool
  | .pp _ _ | .loc _ _ | .eloc _ _ _ _ => true
  | _ => false

theorem VV.ptr {v : AVal U} {u : Value} (h : v.isPtr = true) (hv : VV U O S ι w v u) : ∃ p, u = .pointer (some p) := by
  cases v <;> simp only [AVal.isPtr, Bool.false_eq_true] at h
  · obtain ⟨b, o, cs, rfl, _⟩ := hv; exact ⟨_, rfl⟩
  · obtain ⟨b, c, _, rfl⟩ := hv; exact ⟨_, rfl⟩
  · obtain ⟨b, c, _, rfl⟩ := hv; exact ⟨_, rfl⟩

theorem sok_nilCheck {x : Operand} {v : AVal U} (hg : o.guard = none) (ho : o.op = .nilCheck x) (hx : Opd U rs x v) (hv : v.isPtr = true) : SOk U O P ops o { rs := rs, ws := v } :=
  sok_val hg fun S ι w a hrs _ => ⟨a.eval x, by
    obtain ⟨p, hp⟩ := VV.ptr hv (hx.ev hrs)
    unfold execOp
    rw [ho]
    simp only [hp, Sem.run_pure], hx.ev hrs⟩
end
end Go.AM
