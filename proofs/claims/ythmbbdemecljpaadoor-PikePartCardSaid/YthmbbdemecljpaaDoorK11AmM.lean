/- The abstract layer, part M: a region by closed checks. -/
import Derived.Test.YthmbbdemecljpaaDoorK11AmL
import Derived.KernelRfl
namespace Go.AM

section
variable {U : Univ} {O : Out} {P : Program} {B : Base}

/-- Triples for a row of operations. -/
inductive OkL (U : Univ) (O : Out) (P : Program) (ops : Array Oper) : List Oper → List (LSpec U) → Prop
  | nil : OkL U O P ops [] []
  | cons {o : Oper} {s : LSpec U} {os : List Oper} {ss : List (LSpec U)} : SOk U O P ops o s → OkL U O P ops os ss → OkL U O P ops (o :: os) (s :: ss)

abbrev Reads (U : Univ) : Type := List (List (Option (AVal U)) × List (Option (Blk U)))

def readsOf : List (Item U) → St U → Reads U
  | [], _ => []
  | x :: l, st => (x.2.rs.map fun y => lookA st.sl y.1, (x.2.ro ++ x.2.cb).map fun y => lookA st.hp y.1) :: readsOf l (stepI st x)

def wants (l : List (Item U)) : Reads U := l.map fun x => (x.2.rs.map fun y => some y.2, (x.2.ro ++ x.2.cb).map fun y => some y.2)

theorem reads_mem {α : Type} {l m : List (Nat × α)} (h : (l.map fun y => lookA m y.1) = l.map fun y => some y.2) : ∀ x ∈ l, x ∈ m := by
  intro x hx
  have h1 : lookA m x.1 = some x.2 := by
    obtain ⟨i, hi⟩ := List.mem_iff_getElem?.1 hx
    have h2 := congrArg (fun z => z[i]?) h
    simp only [List.getElem?_map, hi, Option.map_some, Option.some.injEq] at h2
    exact h2
  exact lookA_mem h1

theorem readsOf_at : ∀ (l : List (Item U)) (st : St U), readsOf l st = wants l → ∀ i x, l[i]? = some x →
    (∀ y ∈ x.2.rs, y ∈ (runS (l.take i) st).sl) ∧ ∀ y ∈ x.2.ro ++ x.2.cb, y ∈ (runS (l.take i) st).hp
  | [], _, _, i, x, hx => by simp at hx
  | z :: l, st, h, i, x, hx => by
    simp only [readsOf, wants, List.map_cons, List.cons.injEq, Prod.mk.injEq] at h
    cases i with
    | zero =>
      simp at hx; subst hx
      exact ⟨reads_mem h.1.1, reads_mem h.1.2⟩
    | succ i =>
      have := readsOf_at l (stepI st z) h.2 i x (by simpa using hx)
      simpa [runS] using this

/-- The closed checks of a region: new names are new, what is made has a name of its own, slots lie in the frame. -/
def statOk (l : List (Item U)) (ns : List Nat) (N : Nat) : Bool :=
  newOk l && l.all fun x => (x.2.nn.all fun n => !ns.contains n && decide (n < K0)) && ((nm x.2.pb).all fun n => x.2.nn.contains n || (nm x.2.cb).contains n) &&
    match x.1.dst with | some t => decide (t < N) | none => true

theorem runs_of {ops : Array Oper} {specs : List (LSpec U)} {st : St U} {N : Nat} (hok : OkL U O P ops ops.toList specs) (hr : readsOf (ops.toList.zip specs) st = wants (ops.toList.zip specs))
    (hs : statOk (ops.toList.zip specs) st.names N = true) : Runs U O P ops N st (ops.toList.zip specs) := by
  have key : ∀ (os : List Oper) (ss : List (LSpec U)), OkL U O P ops os ss → (os.zip ss).map (·.1) = os ∧ ∀ x ∈ os.zip ss, SOk U O P ops x.1 x.2 := by
    intro os ss h
    induction h with
    | nil => exact ⟨rfl, fun x hx => by cases hx⟩
    | cons h _ ih =>
      refine ⟨by rw [List.zip_cons_cons, List.map_cons, ih.1], fun x hx => ?_⟩
      rw [List.zip_cons_cons] at hx
      rcases List.mem_cons.1 hx with rfl | hx
      · exact h
      · exact ih.2 x hx
  obtain ⟨h1, h2⟩ := key _ _ hok
  unfold statOk at hs
  rw [Bool.and_eq_true] at hs
  have hall := List.all_eq_true.1 hs.2
  have hst : ∀ x ∈ ops.toList.zip specs, (∀ n ∈ x.2.nn, n ∉ st.names ∧ n < K0) ∧ (∀ n ∈ nm x.2.pb, n ∈ x.2.nn ∨ n ∈ nm x.2.cb) ∧ ∀ t, x.1.dst = some t → t < N := fun x hx => by
    have := hall x hx
    simp only [Bool.and_eq_true] at this
    obtain ⟨⟨a1, a2⟩, a3⟩ := this
    refine ⟨fun n hn => ?_, fun n hn => ?_, fun t ht => ?_⟩
    · have := List.all_eq_true.1 a1 n hn
      simpa using this
    · have := List.all_eq_true.1 a2 n hn
      simpa using this
    · rw [ht] at a3; simpa using a3
  refine ⟨h1, h2, fun i x hi => ?_, fun x hx => (hst x hx).2.2, fun x hx n hn => ((hst x hx).1 n hn).1, hs.1⟩
  have hx : x ∈ ops.toList.zip specs := List.mem_of_getElem? hi
  obtain ⟨h3, h4⟩ := readsOf_at _ _ hr i x hi
  refine ⟨h3, fun y hy => h4 y (List.mem_append.2 (.inl hy)), fun y hy => h4 y (List.mem_append.2 (.inr hy)), fun n hn hnn => ?_, (hst x hx).2.1, fun n hn => ((hst x hx).1 n hn).2⟩
  rcases names_runS _ _ hnn with h | ⟨y, hy, hv⟩
  · exact ((hst x hx).1 n hn).1 h
  · obtain ⟨j, hj⟩ := List.mem_iff_getElem?.1 hy
    rw [List.getElem?_take] at hj
    split at hj
    · rename_i hji
      exact newOk_spec hs.1 hji hj hi n hn hv
    · cases hj

/-- The same frame, told otherwise. -/
def Conv (U : Univ) (O : Out) (st st' : St U) : Prop := ∀ B S ι a w, Rel U O B S ι st a w → ∃ S' ι', Rel U O B S' ι' st' a w
theorem Conv.refl (st : St U) : Conv U O st st := fun _ S ι _ _ h => ⟨S, ι, h⟩
theorem Conv.trans {a b c : St U} (h : Conv U O a b) (k : Conv U O b c) : Conv U O a c := fun B S ι x w hR => by
  obtain ⟨S', ι', h1⟩ := h B S ι x w hR
  exact k B S' ι' x w h1
theorem Conv.keep {a b : St U} (ts ns : List Nat) (h : a.keep ts ns = b) : Conv U O a b := fun _ S ι _ _ hR => ⟨S, ι, h ▸ hR.weak (St.keep_le _ ts ns)⟩
theorem WpC.conv {c : Code} {st st' : St U} {Q : PostQ U} (h : Conv U O st st') (hc : WpC U O P B c st' Q) : WpC U O P B c st Q := fun S ι a w hR => by
  obtain ⟨S', ι', h1⟩ := h B S ι a w hR
  exact hc S' ι' a w h1

/-- A region in the text's order. -/
theorem WpC.reg {id : Nat} {ops : Array Oper} {specs : List (LSpec U)} {st st' : St U} {N : Nat} {Q : PostQ U} (ts ns : List Nat) (hN : B.n = N) (hok : OkL U O P ops ops.toList specs)
    (hr : readsOf (ops.toList.zip specs) st = wants (ops.toList.zip specs)) (hs : statOk (ops.toList.zip specs) st.names N = true) {st1 : St U} (hst : (runS (ops.toList.zip specs) st).keep ts ns = st1) (hcv : Conv U O st1 st') (hQ : Q .normal st') :
    WpC U O P B (.region id ops false) st Q := by
  have hR := runs_of (N := N) hok hr hs
  intro S ι a w hRel
  refine wp_region_list ?_
  have hC := Runs.chain (N := N) hR.ok hR.fit hR.dst
  rw [hR.len] at hC
  subst hN
  exact hC.wp (fun S ι a w hR' => ⟨st', hQ, hcv B S ι a w (hst ▸ hR'.weak (St.keep_le _ ts ns))⟩) hRel

/-- A region that draws its order. -/
theorem WpC.regA {id : Nat} {ops : Array Oper} {specs : List (LSpec U)} {st st' : St U} {N : Nat} {Q : PostQ U} (ts ns : List Nat) (A : List (List Nat)) (hm : P.follows .mixedOrders = true) (hN : B.n = N)
    (hok : OkL U O P ops ops.toList specs) (hr : readsOf (ops.toList.zip specs) st = wants (ops.toList.zip specs)) (hs : statOk (ops.toList.zip specs) st.names N = true)
    (hA : ancOk ops.toList A = true) (hF : raceFree (ops.toList.zip specs) A = true) {st1 : St U} (hst : (runS (ops.toList.zip specs) st).keep ts ns = st1) (hcv : Conv U O st1 st') (hQ : Q .normal st') :
    WpC U O P B (.region id ops true) st Q := by
  have hR := runs_of (N := N) hok hr hs
  subst hN
  intro S ι a w hRel
  have h := WpC.regionAny (Q := fun e s => e = .normal ∧ s = runS (ops.toList.zip specs) st) (id := id) A hm hR hA hF ⟨rfl, rfl⟩ S ι a w hRel
  exact wp_mono h fun e a w ⟨s, ⟨h1, h2⟩, S, ι, hR'⟩ => by subst h1 h2; exact ⟨st', hQ, hcv B S ι a w (hst ▸ hR'.weak (St.keep_le _ ts ns))⟩

/-! ### Steps of a certificate -/
theorem bind_some {α β : Type} {o : Option α} {f : α → Option β} {r : β} (h : o.bind f = some r) : ∃ x, o = some x ∧ f x = some r := Option.bind_eq_some_iff.1 h
theorem if_some {α : Type} {c : Prop} [Decidable c] {o : Option α} {r : α} (h : (if c then o else none) = some r) : c ∧ o = some r := by
  split at h
  · exact ⟨‹_›, h⟩
  · cases h

/-- What stands behind a piece of code, by what is told of the frame there. -/
theorem WpC.seqJ {x y : Code} {st : St U} {Q : PostQ U} (I : St U → Prop) (h1 : WpC U O P B x st (thenQ I Q)) (h2 : ∀ st', I st' → WpC U O P B y st' Q) : WpC U O P B (.seq x y) st Q := by
  refine WpC.seq (h1.mono fun e s hQ => ?_)
  cases e with
  | normal => exact h2 s hQ
  | _ => exact hQ

theorem ite_t {α : Type} {b : Bool} {x y r : α} (hb : b = true) (h : (if b = true then x else y) = r) : x = r := by rwa [if_pos hb] at h
theorem ite_f {α : Type} {b : Bool} {x y r : α} (hb : b = false) (h : (if b = true then x else y) = r) : y = r := by rwa [if_neg (by simp [hb])] at h
end
end Go.AM
