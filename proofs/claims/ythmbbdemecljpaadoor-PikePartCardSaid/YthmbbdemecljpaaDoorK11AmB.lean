/- The abstract layer, part B: what stays true when the world moves on; abstract frames; the local triple of an operation; a region in the text's order. -/
import Derived.Test.YthmbbdemecljpaaDoorK11AmA
namespace Go.AM

section
variable {U : Univ} {O : Out} {S S' : Nat → Prop} {ι ι' : Lay} {w w' : World}

mutual
theorem VV.mono (hw : ∀ b, S b → w'.heap[b]? = w.heap[b]?) (hS : ∀ b, S b → S' b) :
    ∀ (v : AVal U) (u : Value), (∀ n ∈ AVal.names U v, ι' n = ι n) → VV U O S ι w v u → VV U O S' ι' w' v u
  | .junk, _, _, _ => by simp [VV]
  | .lit v, u, _, h => by simpa [VV] using h
  | .p t x, u, _, h => by
    simp only [VV] at h ⊢
    obtain ⟨cs, h1, h2⟩ := h
    exact ⟨cs, h1.mono hw hS, h2⟩
  | .pp t x, u, _, h => by
    simp only [VV] at h ⊢
    obtain ⟨b, o, cs, h1, h2, h3, h4⟩ := h
    exact ⟨b, o, cs, h1, hS b h2, h3.mono hw hS, fun j hj => (World.cell?_of_block (hw b h2)).trans (h4 j hj)⟩
  | .loc n off, u, hn, h => by
    simp only [VV] at h ⊢
    rw [hn n (by simp [AVal.names])]; exact h
  | .eloc n wd i off, u, hn, h => by
    simp only [VV] at h ⊢
    rw [hn n (by simp [AVal.names])]; exact h
  | .vec n wd off len, u, hn, h => by
    simp only [VV] at h ⊢
    rw [hn n (by simp [AVal.names])]; exact h
  | .mp n, u, hn, h => by
    simp only [VV] at h ⊢
    rw [hn n (by simp [AVal.names])]; exact h
  | .opt q n, u, hn, h => by
    simp only [VV] at h ⊢
    rw [hn n (by simp [AVal.names])]; exact h
  | .clo f vs, u, hn, h => by
    simp only [VV] at h ⊢
    obtain ⟨us, h1, h2⟩ := h
    exact ⟨us, VVs.mono hw hS vs us (by simpa [AVal.names] using hn) h1, h2⟩
  | .agg vs, u, hn, h => by
    simp only [VV] at h ⊢
    obtain ⟨us, h1, h2⟩ := h
    exact ⟨us, VVs.mono hw hS vs us (by simpa [AVal.names] using hn) h1, h2⟩
  | .tup vs, u, hn, h => by
    simp only [VV] at h ⊢
    obtain ⟨us, h1, h2⟩ := h
    exact ⟨us, VVs.mono hw hS vs us (by simpa [AVal.names] using hn) h1, h2⟩
theorem VVs.mono (hw : ∀ b, S b → w'.heap[b]? = w.heap[b]?) (hS : ∀ b, S b → S' b) :
    ∀ (vs : List (AVal U)) (us : List Value), (∀ n ∈ AVal.namesL U vs, ι' n = ι n) → VVs U O S ι w vs us → VVs U O S' ι' w' vs us
  | [], us, _, h => by simpa [VVs] using h
  | v :: vs, us, hn, h => by
    simp only [VVs] at h ⊢
    obtain ⟨u, us', h1, h2, h3⟩ := h
    exact ⟨u, us', h1, VV.mono hw hS v u (fun n hm => hn n (by simp [AVal.namesL, hm])) h2,
      VVs.mono hw hS vs us' (fun n hm => hn n (by simp [AVal.namesL, hm])) h3⟩
end

theorem EntsR.mono {t : Ty} (hw : ∀ b, S b → w'.heap[b]? = w.heap[b]?) (hS : ∀ b, S b → S' b) : ∀ {es : List MapEntry} {ys : List (List UInt8 × t.den U.T)}, EntsR U O S w t es ys → EntsR U O S' w' t es ys
  | [], _, h => h
  | _ :: _, _, ⟨y, r, h1, h2, ⟨cs, h3, h4⟩, h5⟩ => ⟨y, r, h1, h2, ⟨cs, h3.mono hw hS, h4⟩, EntsR.mono hw hS h5⟩

theorem BR.mono (hw : ∀ b, S b → w'.heap[b]? = w.heap[b]?) (hS : ∀ b, S b → S' b) {n : Nat} {B : Blk U} (hn : ι' n = ι n) (hns : ∀ m ∈ Blk.names U B, ι' m = ι m)
    (hb : ∀ b c, ι n = some (b, c) → w'.heap[b]? = w.heap[b]?) (h : BR U O S ι w n B) : BR U O S' ι' w' n B := by
  induction B with
  | box us =>
    obtain ⟨b, c, vs, arr, e, h1, h2, h3, h4, h5⟩ := h
    exact ⟨b, c, vs, arr, e, hn.trans h1, VVs.mono hw hS us vs hns h2, h3, h4, (hb b c h1).trans h5⟩
  | row e t xs fx =>
    rcases h with ⟨h1, h2⟩ | ⟨b, c, arr, cs, h1, h2, h3, h4, h5, h6, h7, h8⟩
    · exact .inl ⟨hn.trans h1, h2⟩
    · exact .inr ⟨b, c, arr, cs, hn.trans h1, (hb b c h1).trans h2, h3, h4, h5, h6, fun i hi => (h7 i hi).mono hw hS, h8⟩
  | map t kvs =>
    obtain ⟨b, c, es, clock, ys, h1, h2, h3, h4, h5, h6⟩ := h
    exact ⟨b, c, es, clock, ys, hn.trans h1, (hb b c h1).trans h2, h3, h4.mono hw hS, h5, h6⟩
  | opt q B ih => exact fun hq => ih hns (h hq)
  | mapE t es clock ys =>
    obtain ⟨b, c, h1, h2, h3, h4⟩ := h
    exact ⟨b, c, hn.trans h1, (hb b c h1).trans h2, h3, h4.mono hw hS⟩
  | iter m t es clock ys left cur =>
    obtain ⟨b, c, mb, mc, seen, h1, h2, h3, h4⟩ := h
    exact ⟨b, c, mb, mc, seen, hn.trans h1, (hns m (by simp [Blk.names])).trans h2, (hb b c h1).trans h3, h4⟩
end

structure St (U : Univ) where
  sl : List (Nat × AVal U)
  hp : List (Nat × Blk U)

structure LSpec (U : Univ) where
  rs : List (Nat × AVal U) := []
  ro : List (Nat × Blk U) := []
  cb : List (Nat × Blk U) := []
  ws : AVal U := .junk
  pb : List (Nat × Blk U) := []
  nn : List Nat := []

abbrev nm {α : Type} (l : List (Nat × α)) : List Nat := l.map (·.1)

/-- How an operation moves the world on. -/
structure Nx (U : Univ) (O : Out) (s : LSpec U) (S : Nat → Prop) (ι : Lay) (w : World) (S' : Nat → Prop) (ι' : Lay) (w' : World) : Prop where
  os : w'.os = w.os
  tape : w'.tape = w.tape
  output : w'.output = w.output
  size : w.heap.size ≤ w'.heap.size
  sub : ∀ b, S b → S' b
  new : ∀ b, S' b → S b ∨ w.heap.size ≤ b ∨ ∃ m ∈ nm s.cb, ∃ c, ι m = some (b, c)
  lt : ∀ b, S' b → b < w'.heap.size
  keep : ∀ b, b < w.heap.size → (∀ n ∈ nm s.cb, ∀ c, ι n ≠ some (b, c)) → w'.heap[b]? = w.heap[b]?
  lay : ∀ n, n ∉ s.nn → ι' n = ι n
  blk : ∀ x ∈ s.pb, BR U O S' ι' w' x.1 x.2
  plc : ∀ n ∈ nm s.pb, ∀ b c, ι' n = some (b, c) → ¬ S' b ∧ b < w'.heap.size ∧ (w.heap.size ≤ b ∨ ∃ m ∈ nm s.cb, ∃ c', ι m = some (b, c'))
  sep : ∀ n ∈ nm s.pb, ∀ m ∈ nm s.pb, n ≠ m → ∀ b c c', ι' n = some (b, c) → ι' m ≠ some (b, c')

/-- What is given of the owned blocks: they are no block of S, and apart. -/
structure Own (S : Nat → Prop) (ι : Lay) (w : World) (ns : List Nat) : Prop where
  out : ∀ n ∈ ns, ∀ b c, ι n = some (b, c) → ¬ S b ∧ b < w.heap.size
  sep : ∀ n ∈ ns, ∀ m ∈ ns, n ≠ m → ∀ b c c', ι n = some (b, c) → ι m ≠ some (b, c')

def opWp (P : Program) (ops : Array Oper) (Q : Exit → Act → World → Prop) (o : Oper) (K : Act → World → Prop) (a : Act) (w : World) : Prop :=
  if Region.wanted o (yielded ops a.tmps) then o.wp P a w K Q ∨ (o.asks P a w ∧ LetsOut Q) else K (a.put o.dst undef) w

/-- The local triple of an operation. -/
def SOk (U : Univ) (O : Out) (P : Program) (ops : Array Oper) (o : Oper) (s : LSpec U) : Prop :=
  ∀ (S : Nat → Prop) (ι : Lay) (w : World) (a : Act), (∀ b, S b → b < w.heap.size) → O.Glob S w →
    (∀ x ∈ s.rs, VV U O S ι w x.2 (a.tmps.getD x.1 undef)) → (∀ x ∈ s.ro, BR U O S ι w x.1 x.2) → (∀ x ∈ s.cb, BR U O S ι w x.1 x.2) →
    Own S ι w (nm s.ro ++ nm s.cb) →
    ∀ (K : Act → World → Prop) (Q : Exit → Act → World → Prop),
      (∀ u S' ι' w', Nx U O s S ι w S' ι' w' → VV U O S' ι' w' s.ws u → K (a.put o.dst u) w') → opWp P ops Q o K a w

def setA {α : Type} (l : List (Nat × α)) (d : Nat) (v : α) : List (Nat × α) :=
  match l with
  | [] => [(d, v)]
  | x :: l => if x.1 = d then (d, v) :: l.filter (fun y => !(y.1 == d)) else x :: setA l d v

theorem mem_setA_iff {α : Type} {l : List (Nat × α)} {d : Nat} {v : α} {x : Nat × α} : x ∈ setA l d v ↔ x = (d, v) ∨ (x ∈ l ∧ x.1 ≠ d) := by
  induction l with
  | nil => simp [setA]
  | cons y l ih =>
    unfold setA
    split
    · rename_i hy
      rw [List.mem_cons, List.mem_filter, List.mem_cons]
      constructor
      · rintro (h | ⟨h1, h2⟩)
        · exact .inl h
        · exact .inr ⟨.inr h1, by simpa using h2⟩
      · rintro (h | ⟨h1 | h1, h2⟩)
        · exact .inl h
        · exact absurd (h1 ▸ hy) h2
        · exact .inr ⟨h1, by simpa using h2⟩
    · rename_i hy
      rw [List.mem_cons, ih, List.mem_cons]
      constructor
      · rintro (h | h | ⟨h1, h2⟩)
        · exact .inr ⟨.inl h, by rw [h]; exact hy⟩
        · exact .inl h
        · exact .inr ⟨.inr h1, h2⟩
      · rintro (h | ⟨h1 | h1, h2⟩)
        · exact .inr (.inl h)
        · exact .inl h1
        · exact .inr (.inr ⟨h1, h2⟩)

theorem mem_setA {α : Type} {l : List (Nat × α)} {d : Nat} {v : α} {x : Nat × α} (h : x ∈ setA l d v) : x = (d, v) ∨ (x ∈ l ∧ x.1 ≠ d) := by
  induction l with
  | nil => simp [setA] at h; exact .inl h
  | cons y l ih =>
    unfold setA at h
    split at h
    · rcases List.mem_cons.1 h with h | h
      · exact .inl h
      · obtain ⟨h1, h2⟩ := List.mem_filter.1 h
        exact .inr ⟨List.mem_cons_of_mem _ h1, by simpa using h2⟩
    · rename_i hy
      rcases List.mem_cons.1 h with h | h
      · exact .inr ⟨by simp [h], by rw [h]; exact hy⟩
      · rcases ih h with h | ⟨h, h'⟩
        · exact .inl h
        · exact .inr ⟨List.mem_cons_of_mem _ h, h'⟩

def St.setS {U : Univ} (st : St U) (d : Option Nat) (v : AVal U) : List (Nat × AVal U) :=
  match d with
  | some d => setA st.sl d v
  | none => st.sl

def St.next {U : Univ} (st : St U) (s : LSpec U) (d : Option Nat) : St U :=
  { sl := st.setS d s.ws, hp := (st.hp.filter fun x => !(nm s.cb).contains x.1) ++ s.pb }

def St.names {U : Univ} (st : St U) : List Nat :=
  nm st.hp ++ st.sl.flatMap (fun x => AVal.names U x.2) ++ st.hp.flatMap (fun x => Blk.names U x.2)

/-- From here on names are those of a call's own arguments. -/
def K0 : Nat := 100000

/-- The world in which a call began: what was frozen, what is the call's own. -/
structure Base where
  S : Nat → Prop
  w : World
  A : Nat → Prop
  ι : Lay
  n : Nat

structure Rel (U : Univ) (O : Out) (B : Base) (S : Nat → Prop) (ι : Lay) (st : St U) (a : Act) (w : World) : Prop where
  tmps : a.tmps.size = B.n
  dfr : a.defers = []
  sl : ∀ x ∈ st.sl, VV U O S ι w x.2 (a.tmps.getD x.1 undef)
  hp : ∀ x ∈ st.hp, BR U O S ι w x.1 x.2
  own : Own S ι w (nm st.hp)
  mine : ∀ n ∈ nm st.hp, ∀ b c, ι n = some (b, c) → B.w.heap.size ≤ b ∨ B.A b
  lt : ∀ b, S b → b < w.heap.size
  gl : O.Glob S w
  sub : ∀ b, B.S b → S b
  new : ∀ b, S b → B.S b ∨ B.w.heap.size ≤ b ∨ B.A b
  os : w.os = B.w.os
  tape : w.tape = B.w.tape
  output : w.output = B.w.output
  size : B.w.heap.size ≤ w.heap.size
  keep : ∀ b, b < B.w.heap.size → ¬ B.A b → w.heap[b]? = B.w.heap[b]?
  lay : ∀ n, K0 ≤ n → ι n = B.ι n

/-- What must hold of a frame for a triple to apply. -/
structure Fits {U : Univ} (st : St U) (s : LSpec U) : Prop where
  rs : ∀ x ∈ s.rs, x ∈ st.sl
  ro : ∀ x ∈ s.ro, x ∈ st.hp
  cb : ∀ x ∈ s.cb, x ∈ st.hp
  nn : ∀ n ∈ s.nn, n ∉ st.names
  pn : ∀ n ∈ nm s.pb, n ∈ s.nn ∨ n ∈ nm s.cb
  lo : ∀ n ∈ s.nn, n < K0

theorem mem_nm {α : Type} {l : List (Nat × α)} {x : Nat × α} (h : x ∈ l) : x.1 ∈ nm l := List.mem_map.2 ⟨x, h, rfl⟩

section
variable {U : Univ} {O : Out} {P : Program} {B : Base} {S S' : Nat → Prop} {ι ι' : Lay} {st : St U} {s : LSpec U} {a : Act} {w w' : World}

theorem Act.put_size (a : Act) (d : Option Tmp) (v : Value) : (a.put d v).tmps.size = a.tmps.size := by
  cases d <;> simp [Act.put]

theorem Act.put_defers' (a : Act) (d : Option Tmp) (v : Value) : (a.put d v).defers = a.defers := by
  cases d <;> simp [Act.put]

theorem Act.getD_put_same (a : Act) (d : Nat) (v : Value) (h : d < a.tmps.size) : (a.put (some d) v).tmps.getD d undef = v := by
  simp [Act.put, h]

theorem Act.getD_put_other (a : Act) (d t : Nat) (v : Value) (h : t ≠ d) : (a.put (some d) v).tmps.getD t undef = a.tmps.getD t undef := by
  simp [Act.put, Array.getElem?_setIfInBounds_ne (Ne.symm h)]

theorem mem_next_hp {d : Option Nat} {n : Nat} (h : n ∈ nm (st.next s d).hp) : n ∈ nm (st.hp.filter (fun x => !(nm s.cb).contains x.1)) ∨ n ∈ nm s.pb := by
  have h' : n ∈ List.map _ (_ ++ _) := h
  rw [List.map_append] at h'
  exact List.mem_append.1 h'

theorem Rel.stable (hR : Rel U O B S ι st a w) (hF : Fits st s) (hN : Nx U O s S ι w S' ι' w') : ∀ b, S b → w'.heap[b]? = w.heap[b]? := by
  intro b hb
  refine hN.keep b (hR.lt b hb) fun n hn c hc => ?_
  obtain ⟨x, hx, rfl⟩ := List.mem_map.1 hn
  exact (hR.own.out x.1 (mem_nm (hF.cb x hx)) b c hc).1 hb

theorem Rel.next (hR : Rel U O B S ι st a w) (hF : Fits st s) (hN : Nx U O s S ι w S' ι' w') {u : Value} (hu : VV U O S' ι' w' s.ws u)
    {d : Option Nat} (hd : ∀ t, d = some t → t < B.n) : Rel U O B S' ι' (st.next s d) (a.put d u) w' := by
  have hst := hR.stable hF hN
  have hlayS : ∀ x ∈ st.sl, ∀ n ∈ AVal.names U x.2, ι' n = ι n := fun x hx n hn => hN.lay n fun hnn =>
    hF.nn n hnn (by simp only [St.names, List.mem_append, List.mem_flatMap]; exact .inl (.inr ⟨x, hx, hn⟩))
  have hlayB : ∀ x ∈ st.hp, ∀ n ∈ Blk.names U x.2, ι' n = ι n := fun x hx n hn => hN.lay n fun hnn =>
    hF.nn n hnn (by simp only [St.names, List.mem_append, List.mem_flatMap]; exact .inr ⟨x, hx, hn⟩)
  have hlayN : ∀ n ∈ nm st.hp, ι' n = ι n := fun n hn => hN.lay n fun hnn => hF.nn n hnn (by simp only [St.names, List.mem_append]; exact .inl (.inl hn))
  have hcb : ∀ n ∈ nm s.cb, n ∈ nm st.hp := fun n hn => by obtain ⟨x, hx, rfl⟩ := List.mem_map.1 hn; exact mem_nm (hF.cb x hx)
  have hrest : ∀ x ∈ st.hp.filter (fun x => !(nm s.cb).contains x.1), x ∈ st.hp ∧ x.1 ∉ nm s.cb := fun x hx => by
    obtain ⟨h1, h2⟩ := List.mem_filter.1 hx
    exact ⟨h1, by simpa using h2⟩
  have hrestn : ∀ n ∈ nm (st.hp.filter (fun x => !(nm s.cb).contains x.1)), n ∈ nm st.hp ∧ n ∉ nm s.cb := fun n hn => by
    obtain ⟨x, hx, rfl⟩ := List.mem_map.1 hn
    exact ⟨mem_nm (hrest x hx).1, (hrest x hx).2⟩
  have hkeepN : ∀ n ∈ nm st.hp, n ∉ nm s.cb → ∀ b c, ι n = some (b, c) → w'.heap[b]? = w.heap[b]? := fun n hn hnc b c hb =>
    hN.keep b (hR.own.out n hn b c hb).2 fun m hm c' hm' => by
      by_cases e : m = n
      · exact hnc (e ▸ hm)
      · exact hR.own.sep m (hcb m hm) n hn e b c' c hm' hb
  refine ⟨by rw [Act.put_size]; exact hR.tmps, by rw [Act.put_defers']; exact hR.dfr, ?_, ?_, ⟨?_, ?_⟩, ?_, hN.lt, hR.gl.mono hst hN.sub, fun b hb => hN.sub b (hR.sub b hb), ?_,
    hN.os.trans hR.os, hN.tape.trans hR.tape, hN.output.trans hR.output, Nat.le_trans hR.size hN.size, ?_, fun n hn => (hN.lay n fun hin => absurd (hF.lo n hin) (by omega)).trans (hR.lay n hn)⟩
  · intro x hx
    cases d with
    | none => exact VV.mono hst hN.sub _ _ (hlayS x hx) (hR.sl x hx)
    | some d =>
      rcases mem_setA hx with rfl | ⟨h1, h2⟩
      · rw [Act.getD_put_same a d u (by rw [hR.tmps]; exact hd d rfl)]; exact hu
      · rw [Act.getD_put_other a d x.1 u h2]
        exact VV.mono hst hN.sub _ _ (hlayS x h1) (hR.sl x h1)
  · intro x hx
    rcases List.mem_append.1 hx with hx | hx
    · obtain ⟨h1, h2⟩ := hrest x hx
      exact BR.mono hst hN.sub (hlayN _ (mem_nm h1)) (hlayB x h1) (hkeepN x.1 (mem_nm h1) h2) (hR.hp x h1)
    · exact hN.blk x hx
  · intro n hn b c hb
    rcases mem_next_hp hn with hn | hn
    · have hn := hrestn n hn
      rw [hlayN n hn.1] at hb
      have h1 := hR.own.out n hn.1 b c hb
      refine ⟨fun hS' => ?_, Nat.lt_of_lt_of_le h1.2 hN.size⟩
      rcases hN.new b hS' with h | h | ⟨m, hm, c', hc'⟩
      · exact h1.1 h
      · exact absurd h1.2 (by omega)
      · exact hR.own.sep n hn.1 m (hcb m hm) (fun e => hn.2 (e ▸ hm)) b c c' hb hc'
    · have := hN.plc n hn b c hb
      exact ⟨this.1, this.2.1⟩
  · intro n hn m hm hne b c c' hb hb'
    rcases mem_next_hp hn with hn | hn <;> rcases mem_next_hp hm with hm | hm
    · have hn := hrestn n hn
      have hm := hrestn m hm
      rw [hlayN n hn.1] at hb
      rw [hlayN m hm.1] at hb'
      exact hR.own.sep n hn.1 m hm.1 hne b c c' hb hb'
    · have hn := hrestn n hn
      rw [hlayN n hn.1] at hb
      rcases (hN.plc m hm b c' hb').2.2 with h | ⟨k, hk, c'', hk'⟩
      · exact absurd (hR.own.out n hn.1 b c hb).2 (by omega)
      · by_cases e : n = k
        · exact hn.2 (e ▸ hk)
        · exact hR.own.sep n hn.1 k (hcb k hk) e b c c'' hb hk'
    · have hm := hrestn m hm
      rw [hlayN m hm.1] at hb'
      rcases (hN.plc n hn b c hb).2.2 with h | ⟨k, hk, c'', hk'⟩
      · exact absurd (hR.own.out m hm.1 b c' hb').2 (by omega)
      · by_cases e : m = k
        · exact hm.2 (e ▸ hk)
        · exact hR.own.sep m hm.1 k (hcb k hk) e b c' c'' hb' hk'
    · exact hN.sep n hn m hm hne b c c' hb hb'
  · intro n hn b c hb
    rcases mem_next_hp hn with hn | hn
    · have hn := hrestn n hn
      rw [hlayN n hn.1] at hb
      exact hR.mine n hn.1 b c hb
    · rcases (hN.plc n hn b c hb).2.2 with h | ⟨k, hk, c'', hk'⟩
      · exact .inl (Nat.le_trans hR.size h)
      · exact hR.mine k (hcb k hk) b c'' hk'
  · intro b hb
    rcases hN.new b hb with h | h | ⟨m, hm, c', hc'⟩
    · exact hR.new b h
    · exact .inr (.inl (Nat.le_trans hR.size h))
    · exact .inr (hR.mine m (hcb m hm) b c' hc')
  · intro b hb hA
    rw [← hR.keep b hb hA]
    refine hN.keep b (Nat.lt_of_lt_of_le hb hR.size) fun n hn c hc => ?_
    rcases hR.mine n (hcb n hn) b c hc with h | h
    · omega
    · exact hA h

theorem SOk.use {ops : Array Oper} {o : Oper} (hs : SOk U O P ops o s) (hR : Rel U O B S ι st a w) (hF : Fits st s) (hd : ∀ t, o.dst = some t → t < B.n)
    {K : Act → World → Prop} {Q : Exit → Act → World → Prop} (h : ∀ S' ι' a' w', Rel U O B S' ι' (st.next s o.dst) a' w' → K a' w') : opWp P ops Q o K a w := by
  refine hs S ι w a hR.lt hR.gl (fun x hx => hR.sl x (hF.rs x hx)) (fun x hx => hR.hp x (hF.ro x hx)) (fun x hx => hR.hp x (hF.cb x hx)) ⟨fun n hn => ?_, fun n hn m hm => ?_⟩ K Q
    fun u S' ι' w' hN hu => h S' ι' _ w' (hR.next hF hN hu hd)
  all_goals
    have hin : ∀ n ∈ nm s.ro ++ nm s.cb, n ∈ nm st.hp := fun n hn => by
      rcases List.mem_append.1 hn with h | h <;> obtain ⟨x, hx, rfl⟩ := List.mem_map.1 h
      · exact mem_nm (hF.ro x hx)
      · exact mem_nm (hF.cb x hx)
  · exact hR.own.out n (hin n hn)
  · exact hR.own.sep n (hin n hn) m (hin m hm)

/-- A row of operations in the text's order. -/
inductive Chain (U : Univ) (O : Out) (P : Program) (ops : Array Oper) (N : Nat) : St U → List Oper → St U → Prop
  | nil (st : St U) : Chain U O P ops N st [] st
  | cons {st : St U} {o : Oper} {s : LSpec U} {rest : List Oper} {st' : St U} : SOk U O P ops o s → Fits st s → (∀ t, o.dst = some t → t < N) →
      Chain U O P ops N (st.next s o.dst) rest st' → Chain U O P ops N st (o :: rest) st'

theorem Chain.wp {ops : Array Oper} {st st' : St U} {l : List Oper} (hC : Chain U O P ops B.n st l st') {Q : Exit → Act → World → Prop}
    (hQ : ∀ S ι a w, Rel U O B S ι st' a w → Q .normal a w) : ∀ {S : Nat → Prop} {ι : Lay} {a : Act} {w : World}, Rel U O B S ι st a w → wpList P ops Q l a w := by
  generalize hn : B.n = N at hC
  induction hC with
  | nil st => exact fun hR => hQ _ _ _ _ hR
  | cons hs hF hd _ ih =>
    intro S ι a w hR
    have := hs.use (Q := Q) hR hF (fun t ht => hn ▸ hd t ht) (K := wpList P ops Q _) fun S' ι' a' w' hR' => ih hQ hR'
    unfold opWp at this
    unfold wpList
    exact this
end
end Go.AM
