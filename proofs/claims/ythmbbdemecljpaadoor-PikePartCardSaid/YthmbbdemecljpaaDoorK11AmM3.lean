/- The abstract layer, part M3: ranges over maps: one entry after another, in whatever order. -/
import Derived.Test.YthmbbdemecljpaaDoorK11AmM2
import Derived.Maps.RangeRun
namespace Go.AM
set_option linter.unusedVariables false

section
variable {α : Type}
theorem remOf_none : ∀ (es : List MapEntry) (ys : List α), es.length = ys.length → remOf #[] es ys = ys
  | [], [], _ => rfl
  | e :: es, y :: ys, h => by simp [remOf, remOf_none es ys (by simpa using h)]
theorem remOf_push {seen : Array Nat} {b : Nat} : ∀ (es : List MapEntry) (ys : List α), (∀ x ∈ es, x.born ≠ b) → remOf (seen.push b) es ys = remOf seen es ys
  | [], _, _ => by simp [remOf]
  | _ :: _, [], _ => by simp [remOf]
  | e :: es, y :: ys, h => by
    have h1 := h e List.mem_cons_self
    have ih := remOf_push (seen := seen) es ys fun x hx => h x (List.mem_cons_of_mem _ hx)
    simp [remOf, ih, h1]
theorem remOf_pick {seen : Array Nat} : ∀ (es : List MapEntry) (ys : List α), (es.map (·.born)).Nodup → ∀ (j : Nat) (e : MapEntry) (y : α), es[j]? = some e → ys[j]? = some y → seen.contains e.born = false →
    (remOf seen es ys).Perm (y :: remOf (seen.push e.born) es ys)
  | [], _, _, _, _, _, h, _, _ => by simp at h
  | _ :: _, [], _, _, _, _, _, h, _ => by simp at h
  | e0 :: es, y0 :: ys, hn, 0, e, y, h1, h2, h3 => by
    simp at h1 h2
    subst h1 h2
    rw [List.map_cons, List.nodup_cons] at hn
    have := remOf_push (seen := seen) (b := e0.born) es ys fun x hx he => hn.1 (List.mem_map.2 ⟨x, hx, he⟩)
    unfold remOf
    rw [h3]
    simp [this]
  | e0 :: es, y0 :: ys, hn, j + 1, e, y, h1, h2, h3 => by
    simp only [List.getElem?_cons_succ] at h1 h2
    rw [List.map_cons, List.nodup_cons] at hn
    have hne : e0.born ≠ e.born := fun he => hn.1 (List.mem_map.2 ⟨e, List.mem_of_getElem? h1, he.symm⟩)
    have ih := remOf_pick es ys hn.2 j e y h1 h2 h3
    unfold remOf
    cases hc : seen.contains e0.born
    · have : (seen.push e.born).contains e0.born = false := by
        have h5 : ¬ e0.born ∈ seen := by simpa using hc
        simp [h5, hne]
      rw [this]
      simp only [Bool.false_eq_true, if_false]
      exact (ih.cons y0).trans (.swap _ _ _)
    · have : (seen.push e.born).contains e0.born = true := by
        have h5 : e0.born ∈ seen := by simpa using hc
        simp [h5]
      rw [this]
      simpa using ih
theorem remOf_over {seen : Array Nat} : ∀ (es : List MapEntry) (ys : List α), es.length = ys.length → (∀ x ∈ es, seen.contains x.born = true) → remOf seen es ys = []
  | [], [], _, _ => rfl
  | e :: es, y :: ys, hl, h => by
    unfold remOf
    rw [if_pos (h e List.mem_cons_self)]
    exact remOf_over es ys (by simpa using hl) fun x hx => h x (List.mem_cons_of_mem _ hx)
theorem remOf_sub {seen : Array Nat} : ∀ (es : List MapEntry) (ys : List α), (remOf seen es ys).Sublist ys
  | [], ys => by unfold remOf; exact List.nil_sublist _
  | _ :: _, [] => by unfold remOf; exact List.nil_sublist _
  | e :: es, y :: ys => by
    unfold remOf
    split
    · exact (remOf_sub es ys).cons y
    · exact (remOf_sub es ys).cons_cons y
/-- No key twice. -/
def Apart (m : KV α) : Prop := m.Pairwise fun x y => x.1 ≠ y.1
end

section
variable {U : Univ} {O : Out} {P : Program} {B : Base} {S : Nat → Prop} {ι : Lay} {w : World} {rs : List (Nat × AVal U)} {a : Act} {ops : Array Oper} {o : Oper} {t : Ty}

theorem exec_range {ρ : Operand → Value} {T : TypeId} {x : Operand} (ho : o.op = .range T x) : execOp ρ o = vOf (Instr.range T (ρ x)) := by unfold execOp; rw [ho]; rfl
theorem exec_next {ρ : Operand → Value} {x : Operand} {q : Bool} (ho : o.op = .next x q) : execOp ρ o = vOf (Instr.next (ρ x) q o.type) := by unfold execOp; rw [ho]; rfl
theorem exec_entry {ρ : Operand → Value} {x : Operand} (ho : o.op = .entry x) : execOp ρ o = vOf (Instr.entry (ρ x)) := by unfold execOp; rw [ho]; rfl

/-- A map told entry by entry. -/
theorem WpC.openMap {c : Code} {st : St U} {Q : PostQ U} {n : Nat} {kvs : KV (t.den U.T)} (hin : (n, Blk.map t kvs) ∈ st.hp)
    (h : ∀ es clock (ys : KV (t.den U.T)), ys.Perm kvs → Rising kvs → WpC U O P B c ⟨st.sl, setA st.hp n (.mapE t es clock ys)⟩ Q) : WpC U O P B c st Q := by
  intro S ι a w hR
  obtain ⟨b, c', es, clock, ys, h1, h2, h3, h4, h5, h6⟩ := hR.hp _ hin
  refine h es clock ys h5 h6 S ι a w ?_
  have hm : ∀ k ∈ nm (setA st.hp n (Blk.mapE t es clock ys)), k ∈ nm st.hp := fun k hk => by
    obtain ⟨x, hx, rfl⟩ := List.mem_map.1 hk
    rcases mem_setA hx with rfl | ⟨h1, _⟩
    · exact List.mem_map.2 ⟨_, hin, rfl⟩
    · exact List.mem_map.2 ⟨_, h1, rfl⟩
  refine { hR with hp := fun x hx => ?_, own := ⟨fun k hk => hR.own.out k (hm k hk), fun k hk j hj => hR.own.sep k (hm k hk) j (hm j hj)⟩, mine := fun k hk => hR.mine k (hm k hk) }
  rcases mem_setA hx with rfl | ⟨h1', _⟩
  · exact ⟨b, c', h1, h2, h3, h4⟩
  · exact hR.hp x h1'
theorem Conv.closeMap {st : St U} {n : Nat} {es : Array MapEntry} {clock : Nat} {ys kvs : KV (t.den U.T)} (hin : (n, Blk.mapE t es clock ys) ∈ st.hp) (hp : ys.Perm kvs) (hr : Rising kvs) : Conv U O st ⟨st.sl, setA st.hp n (.map t kvs)⟩ := by
  intro B' S ι a w hR
  have hm : ∀ k ∈ nm (setA st.hp n (Blk.map t kvs)), k ∈ nm st.hp := fun k hk => by
    obtain ⟨x, hx, rfl⟩ := List.mem_map.1 hk
    rcases mem_setA hx with rfl | ⟨h1, _⟩
    · exact List.mem_map.2 ⟨_, hin, rfl⟩
    · exact List.mem_map.2 ⟨_, h1, rfl⟩
  refine ⟨S, ι, { hR with hp := fun x hx => ?_, own := ⟨fun k hk => hR.own.out k (hm k hk), fun k hk j hj => hR.own.sep k (hm k hk) j (hm j hj)⟩, mine := fun k hk => hR.mine k (hm k hk) }⟩
  rcases mem_setA hx with rfl | ⟨h1, _⟩
  · obtain ⟨b, c, h1, h2, h3, h4⟩ := hR.hp _ hin
    exact ⟨b, c, es, clock, ys, h1, h2, h3, h4, hp, hr⟩
  · exact hR.hp x h1
theorem Conv.iterRest {st : St U} {d m : Nat} {es : Array MapEntry} {clock : Nat} {ys left : KV (t.den U.T)} {cur : Option (List UInt8 × t.den U.T)} (hin : (d, Blk.iter m t es clock ys left cur) ∈ st.hp) :
    Conv U O st ⟨st.sl, setA st.hp d (.iter m t es clock ys left none)⟩ := by
  intro B' S ι a w hR
  have hm : ∀ k ∈ nm (setA st.hp d (Blk.iter m t es clock ys left none)), k ∈ nm st.hp := fun k hk => by
    obtain ⟨x, hx, rfl⟩ := List.mem_map.1 hk
    rcases mem_setA hx with rfl | ⟨h1, _⟩
    · exact List.mem_map.2 ⟨_, hin, rfl⟩
    · exact List.mem_map.2 ⟨_, h1, rfl⟩
  refine ⟨S, ι, { hR with hp := fun x hx => ?_, own := ⟨fun k hk => hR.own.out k (hm k hk), fun k hk j hj => hR.own.sep k (hm k hk) j (hm j hj)⟩, mine := fun k hk => hR.mine k (hm k hk) }⟩
  rcases mem_setA hx with rfl | ⟨h1, _⟩
  · obtain ⟨b, c, mb, mc, seen, h1, h2, h3, h4, h5⟩ := hR.hp _ hin
    exact ⟨b, c, mb, mc, seen, h1, h2, h3, h4, fun y hy => by cases hy⟩
  · exact hR.hp x h1

/-- A range begins. -/
theorem sok_range {T K E : TypeId} {x : Operand} {d m : Nat} {es : Array MapEntry} {clock : Nat} {ys kvs : KV (t.den U.T)} (hg : o.guard = none) (_ : o.dst = some d) (ho : o.op = .range T x) (hT : MapOk P T K E) (hp : ys.Perm kvs) (hmd : m ≠ d)
    (hm : Opd U rs x (.mp m)) : SOk U O P ops o { rs := rs, ro := [(m, .mapE t es clock ys)], ws := .loc d 0, pb := [(d, .iter m t es clock ys kvs none)], nn := [d] } := by
  intro S ι w a hlt hgl hrs hro hcb hown K' Q hK
  obtain ⟨b, c, h1, h2, h3, h4⟩ := hro _ List.mem_cons_self
  obtain ⟨b', c', h7, h8⟩ := hm.ev hrs
  rw [h1] at h7
  obtain ⟨rfl, rfl⟩ : b = b' ∧ c = c' := by simpa using h7
  refine opWp_plain hg ?_
  unfold Oper.wp
  rw [exec_range ho, h8, run_vOf (run_range_map w T K E b es clock hT.ty h2)]
  refine hK _ S _ _ (Nx.alloc (s := { rs := rs, ro := [(m, .mapE t es clock ys)], ws := .loc d 0, pb := [(d, .iter m t es clock ys kvs none)], nn := [d] }) (.mapIter (some b) clock #[] clock) rfl rfl rfl hlt 0 ?_) ⟨w.heap.size, 0, by simp, rfl⟩
  refine ⟨w.heap.size, 0, b, c, #[], by simp, by simp [hmd, h1], heap_alloc_new w _, ?_, fun y hy => by cases hy⟩
  rw [remOf_none _ _ h4.len]
  exact hp.symm

/-- An element by its key; whether it is there. -/
theorem sok_lookupE {T K E : TypeId} {m x : Operand} {n : Nat} {es : Array MapEntry} {clock : Nat} {ys kvs : KV (t.den U.T)} (h5 : ys.Perm kvs) (h6 : Rising kvs) {k : List UInt8} {z : t.den U.T} (hg : o.guard = none) (ho : o.op = .lookup T m x false) (hT : MapOk P T K E) (hz : ZeroOk P U E t z)
    (hm : Opd U rs m (.mp n)) (hx : Opd U rs x (.p .str k)) : SOk U O P ops o { rs := rs, ro := [(n, .mapE t es clock ys)], ws := .p t ((mget k kvs).getD z) } :=
  sok_v hg _ (fun _ => exec_lookup ho) fun S ι w a hrs hro => by
    obtain ⟨b, c, h1, h2, h3, h4⟩ := hro _ List.mem_cons_self
    obtain ⟨b', c', h7, h8⟩ := hm.ev hrs
    rw [h1] at h7
    obtain ⟨rfl, rfl⟩ : b = b' ∧ c = c' := by simpa using h7
    obtain ⟨cs, hk, hk2⟩ := hx.ev hrs
    cases hk with | str s =>
    have hk2 : a.eval x = .string s := hk2
    obtain ⟨i, v, hi, hv, hall⟩ := hz.h
    obtain ⟨cs, hr, rfl⟩ := hall O S w
    have hzr : (zeroValue E).run P w = .ok (mkV t.isAgg cs) w := by simp only [zeroValue, typeInfo, hi, hv, program, Sem.run_bind, Sem.run, Result.andThen_ok, Sem.run_pure]
    rw [h8, hk2, ← mget_perm h5 (Rising.apart h6)]
    rcases EntsR.find (s := s) h4 h3.2.2 with ⟨f1, f2, f3, _⟩ | ⟨pre, e, post, y1, y, y2, f1, f2, f3, f4, f5, f6, ⟨cs, f7, f8⟩, f9, f10⟩
    · refine ⟨mkV t.isAgg cs, ?_, cs, by rw [f3]; exact hr, rfl⟩
      simp [Instr.lookup, run_underlying hT.ty, MapKept.run_getObj_map h2, MapKept.run_checkKey hT.key (show MapKept.IsKey .string (.string s) from trivial), MapKept.run_findKey hT.key f1, hzr, Result.andThen]
    · refine ⟨e.val, ?_, cs, by rw [f9]; exact f7, f8⟩
      simp [Instr.lookup, run_underlying hT.ty, MapKept.run_getObj_map h2, MapKept.run_checkKey hT.key (show MapKept.IsKey .string (.string s) from trivial), MapKept.run_findKey hT.key f3, Result.andThen]
theorem sok_lookup2E {T K E : TypeId} {m x : Operand} {n : Nat} {es : Array MapEntry} {clock : Nat} {ys kvs : KV (t.den U.T)} (h5 : ys.Perm kvs) (h6 : Rising kvs) {k : List UInt8} {z : t.den U.T} (hg : o.guard = none) (ho : o.op = .lookup T m x true) (hT : MapOk P T K E) (hz : ZeroOk P U E t z)
    (hm : Opd U rs m (.mp n)) (hx : Opd U rs x (.p .str k)) : SOk U O P ops o { rs := rs, ro := [(n, .mapE t es clock ys)], ws := .tup [.p t ((mget k kvs).getD z), .p .bool (mget k kvs).isSome] } :=
  sok_v hg _ (fun _ => exec_lookup ho) fun S ι w a hrs hro => by
    obtain ⟨b, c, h1, h2, h3, h4⟩ := hro _ List.mem_cons_self
    obtain ⟨b', c', h7, h8⟩ := hm.ev hrs
    rw [h1] at h7
    obtain ⟨rfl, rfl⟩ : b = b' ∧ c = c' := by simpa using h7
    obtain ⟨cs, hk, hk2⟩ := hx.ev hrs
    cases hk with | str s =>
    have hk2 : a.eval x = .string s := hk2
    obtain ⟨i, v, hi, hv, hall⟩ := hz.h
    obtain ⟨cs, hr, rfl⟩ := hall O S w
    have hzr : (zeroValue E).run P w = .ok (mkV t.isAgg cs) w := by simp only [zeroValue, typeInfo, hi, hv, program, Sem.run_bind, Sem.run, Result.andThen_ok, Sem.run_pure]
    rw [h8, hk2, ← mget_perm h5 (Rising.apart h6)]
    rcases EntsR.find (s := s) h4 h3.2.2 with ⟨f1, f2, f3, _⟩ | ⟨pre, e, post, y1, y, y2, f1, f2, f3, f4, f5, f6, ⟨cs, f7, f8⟩, f9, f10⟩
    · refine ⟨.tuple #[mkV t.isAgg cs, .bool false], ?_, [mkV t.isAgg cs, .bool false], ⟨_, _, rfl, ⟨cs, by rw [f3]; exact hr, rfl⟩, _, _, rfl, ⟨[.bool false], by rw [f3]; exact .bool false, rfl⟩, rfl⟩, rfl⟩
      simp [Instr.lookup, run_underlying hT.ty, MapKept.run_getObj_map h2, MapKept.run_checkKey hT.key (show MapKept.IsKey .string (.string s) from trivial), MapKept.run_findKey hT.key f1, hzr, Result.andThen]
    · refine ⟨.tuple #[e.val, .bool true], ?_, [e.val, .bool true], ⟨_, _, rfl, ⟨cs, by rw [f9]; exact f7, f8⟩, _, _, rfl, ⟨[.bool true], by rw [f9]; exact .bool true, rfl⟩, rfl⟩, rfl⟩
      simp [Instr.lookup, run_underlying hT.ty, MapKept.run_getObj_map h2, MapKept.run_checkKey hT.key (show MapKept.IsKey .string (.string s) from trivial), MapKept.run_findKey hT.key f3, Result.andThen]

/-- The entry that came. -/
theorem sok_entry {x : Operand} {d m : Nat} {es : Array MapEntry} {clock : Nat} {ys left : KV (t.den U.T)} {y : List UInt8 × t.den U.T} (hg : o.guard = none) (ho : o.op = .entry x) (hx : Opd U rs x (.loc d 0)) :
    SOk U O P ops o { rs := rs, ro := [(d, .iter m t es clock ys left (some y)), (m, .mapE t es clock ys)], ws := .tup [.p .str y.1, .p t y.2] } :=
  sok_v hg _ (fun _ => exec_entry ho) fun S ι w a hrs hro => by
    obtain ⟨b, c, mb, mc, seen, h1, h2, h3, h4, h5⟩ := hro _ List.mem_cons_self
    obtain ⟨b', c', g1, g2, g3, g4⟩ := hro _ (List.mem_cons_of_mem _ List.mem_cons_self)
    rw [h2] at g1
    obtain ⟨rfl, rfl⟩ : mb = b' ∧ mc = c' := by simpa using g1
    obtain ⟨b'', c'', h7, h8⟩ := hx.ev hrs
    rw [h1] at h7
    obtain ⟨rfl, rfl⟩ : b = b'' ∧ c = c'' := by simpa using h7
    obtain ⟨j, e, q1, q2, pre, rfl⟩ := h5 y rfl
    have hrd : ∀ (es : List MapEntry) (ys : KV (t.den U.T)) (j : Nat), EntsR U O S w t es ys → es[j]? = some e → ys[j]? = some y → (∃ s : ByteArray, e.key = .string s ∧ s.data.toList = y.1) ∧ ∃ cs, Rd U O S w t y.2 cs ∧ e.val = mkV t.isAgg cs := by
      intro es
      induction es with
      | nil => intro ys j _ h; simp at h
      | cons e0 es ih =>
        rintro ys j ⟨y0, r, rfl, k1, k2, k3⟩ h h'
        cases j with
        | zero => simp at h h'; subst h h'; exact ⟨k1, k2⟩
        | succ j => exact ih r j k3 (by simpa using h) (by simpa using h')
    obtain ⟨⟨s, k1, k2⟩, cs, k3, k4⟩ := hrd _ _ j g4 q1 q2
    refine ⟨.tuple #[e.key, e.val], ?_, [e.key, e.val], ⟨_, _, rfl, ⟨[.string s], rd_strof k2, k1⟩, _, _, rfl, ⟨cs, k3, k4⟩, rfl⟩, rfl⟩
    rw [h8]
    exact run_entry_at w b mb clock pre es clock e h3 g2 (List.mem_of_getElem? q1) g3.2.1

/-! ### one entry more, or none -/
def nextA (st : St U) (d m : Nat) (es : Array MapEntry) (clock : Nat) (ys left left' : KV (t.den U.T)) (y : List UInt8 × t.den U.T) (t1 t2 : Nat) : St U :=
  (st.next { cb := [(d, .iter m t es clock ys left none)], pb := [(d, .iter m t es clock ys left' (some y))], ws := .tup [.p .bool true, .junk, .junk] } (some t1)).next { ws := .p .bool true } (some t2)
def nextB (st : St U) (t1 t2 : Nat) : St U := (st.next ({ ws := .tup [.p .bool false] } : LSpec U) (some t1)).next { ws := .p .bool false } (some t2)

theorem WpC.next {id : Nat} {o1 o2 : Oper} {st : St U} {Q : PostQ U} {it d m t1 t2 N : Nat} {es : Array MapEntry} {clock : Nat} {ys left : KV (t.den U.T)} (ts ns : List Nat) (hN : B.n = N)
    (hg1 : o1.guard = none) (ho1 : o1.op = .next (.tmp it) false) (hd1 : o1.dst = some t1) (hg2 : o2.guard = none) (ho2 : o2.op = .extract (.tmp t1) 0) (hd2 : o2.dst = some t2) (hl1 : t1 < N) (hl2 : t2 < N) (hne : t1 ≠ it)
    (h1 : (it, AVal.loc d 0) ∈ st.sl) (h2 : (d, Blk.iter m t es clock ys left none) ∈ st.hp) (h3 : (m, Blk.mapE t es clock ys) ∈ st.hp)
    (hA : ∀ y left', left.Perm (y :: left') → Apart left → ∃ st1, (nextA st d m es clock ys left left' y t1 t2).keep ts ns = st1 ∧ ∃ st', Conv U O st1 st' ∧ Q .normal st')
    (hB : left = [] → ∃ st1, (nextB st t1 t2).keep ts ns = st1 ∧ ∃ st', Conv U O st1 st' ∧ Q .normal st') : WpC U O P B (.region id #[o1, o2] false) st Q := by
  subst hN
  intro S ι a w hR
  refine wp_region_list ?_
  obtain ⟨b, c, mb, mc, seen, r1, r2, r3, r4, r5⟩ := hR.hp _ h2
  obtain ⟨b', c', k1, k2, k3, k4⟩ := hR.hp _ h3
  rw [r2] at k1
  obtain ⟨rfl, rfl⟩ : mb = b' ∧ mc = c' := by simpa using k1
  obtain ⟨b'', c'', l1, l2⟩ := hR.sl _ h1
  rw [r1] at l1
  obtain ⟨rfl, rfl⟩ : b = b'' ∧ c = c'' := by simpa using l1
  have hev : a.eval (.tmp it) = .pointer (some ⟨b, 0, none⟩) := l2
  have hlen := k4.len
  have step : ∀ (K : Act → World → Prop), opWp P #[o1, o2] (post U O B Q) o1 K a w ↔ opWp P #[o1, o2] (post U O B Q) o1 K a w := fun _ => Iff.rfl
  have hlist : opWp P #[o1, o2] (post U O B Q) o1 (wpList P #[o1, o2] (post U O B Q) [o2]) a w := by
    refine opWp_plain hg1 ?_
    unfold Oper.wp
    rw [exec_next ho1, hev]
    have ap : Apart left := r4.symm.pairwise (List.Pairwise.sublist (remOf_sub _ _) (k4.apart k3.2.2)) fun h => h.symm
    have two : ∀ (v : Bool) (vs : List (AVal U)) (s : LSpec U) (S' : Nat → Prop) (ι' : Lay) (a' : Act) (w' : World), Rel U O B S' ι' (st.next { s with ws := .tup (.p .bool v :: vs) } (some t1)) a' w' →
        (∃ st1, ((st.next { s with ws := .tup (.p .bool v :: vs) } (some t1)).next { ws := .p .bool v } (some t2)).keep ts ns = st1 ∧ ∃ st', Conv U O st1 st' ∧ Q .normal st') → wpList P #[o1, o2] (post U O B Q) [o2] a' w' := fun v vs s S' ι' a' w' hR' ⟨st1, e1, st', hcv, hQ⟩ => by
      have hin : (t1, AVal.tup (.p .bool v :: vs)) ∈ (st.next { s with ws := .tup (.p .bool v :: vs) } (some t1)).sl := mem_setA_iff.2 (.inl rfl)
      have hx : SOk U O P #[o1, o2] o2 { rs := [(t1, .tup (.p .bool v :: vs))], ws := .p .bool v } := sok_extract hg2 ho2 (.tmp (.head _)) rfl
      have := hx.use (Q := post U O B Q) (K := wpList P #[o1, o2] (post U O B Q) []) hR' ⟨fun x hx => by simp at hx; subst hx; exact hin, by simp, by simp, by simp, by simp, by simp⟩ (fun t ht => by rw [hd2] at ht; cases ht; exact hl2) fun S'' ι'' a'' w'' hR'' => by
        unfold wpList
        rw [hd2] at hR''
        exact ⟨st', hQ, hcv B S'' ι'' _ _ (e1 ▸ hR''.weak (St.keep_le _ ts ns))⟩
      unfold opWp at this
      unfold wpList
      exact this
    rcases run_next_at (P := P) w o1.type b mb clock clock seen es clock r3 k2 k3.1 (Nat.le_refl _) with ⟨q1, q2⟩ | ⟨e, q1, w1, q2, q3⟩
    · rw [run_vOf q2]
      have hov : ∀ x ∈ es.toList, seen.contains x.born = true := fun x hx => by
        cases hc : seen.contains x.born with
        | true => rfl
        | false =>
          have : x ∈ (leftOf es seen).toList := by unfold leftOf; simp; exact ⟨by simpa using hx, by simpa using hc⟩
          rw [← Array.length_toList] at q1
          rw [List.eq_nil_of_length_eq_zero q1] at this; cases this
      have hl : left = [] := by
        rw [remOf_over _ _ hlen hov] at r4
        exact r4.eq_nil
      rw [Oper.upon_value, hd1]
      refine two false [] {} S ι _ w (hR.next (s := { ws := .tup [.p .bool false] }) ⟨by simp, by simp, by simp, by simp, by simp, by simp⟩ (Nx.refl _ rfl rfl hR.lt) ⟨_, ⟨_, _, rfl, ⟨[.bool false], .bool false, rfl⟩, rfl⟩, rfl⟩ (fun t ht => by cases ht; exact hl1)) (hB hl)
    · rw [run_vOf q3]
      obtain ⟨he, hc⟩ : e ∈ es.toList ∧ seen.contains e.born = false := by unfold leftOf at q1; simpa using q1
      obtain ⟨j, hj, hje⟩ := List.getElem_of_mem he
      have hy : ys[j]? = some (ys[j]'(by rw [← hlen]; exact hj)) := List.getElem?_eq_getElem _
      have hej : es.toList[j]? = some e := by rw [List.getElem?_eq_getElem hj, hje]
      have hpk := remOf_pick (seen := seen) es.toList ys k3.2.1 j e _ hej hy hc
      have hw1 : w1.heap = w.heap ∧ w1.os = w.os ∧ w1.tape = w.tape ∧ w1.output = w.output := by rcases q2 with rfl | rfl <;> exact ⟨rfl, rfl, rfl, rfl⟩
      have hlt : b < w.heap.size := (Array.getElem?_eq_some_iff.1 r3).1
      have hset : ∀ k, (ChangeMaps.setBlock w1 b (.mapIter (some mb) clock (seen.push e.born) clock)).heap[k]? = if k = b then some (.mapIter (some mb) clock (seen.push e.born) clock) else w.heap[k]? := fun k => by
        show (w1.heap.setIfInBounds b _)[k]? = _
        rw [hw1.1]
        by_cases e' : k = b
        · subst e'; rw [if_pos rfl]; simp [hlt]
        · rw [if_neg e']; simp [Array.getElem?_setIfInBounds_ne (Ne.symm e')]
      have hsz : (ChangeMaps.setBlock w1 b (.mapIter (some mb) clock (seen.push e.born) clock)).heap.size = w.heap.size := by
        show (w1.heap.setIfInBounds b _).size = _
        rw [hw1.1]; simp
      rw [Oper.upon_value, hd1]
      have hown := hR.own.out d (mem_nm h2) b c r1
      have hNx : Nx U O { cb := [(d, .iter m t es clock ys left none)], pb := [(d, .iter m t es clock ys (remOf (seen.push e.born) es.toList ys) (some (ys[j]'(by rw [← hlen]; exact hj))))], ws := .tup [.p .bool true, .junk, .junk] } S ι w S ι (ChangeMaps.setBlock w1 b (.mapIter (some mb) clock (seen.push e.born) clock)) := by
        refine ⟨hw1.2.1, hw1.2.2.1, hw1.2.2.2, by rw [hsz]; exact Nat.le_refl _, fun _ h => h, fun _ h => .inl h, fun b h => by rw [hsz]; exact hR.lt b h, fun k hk hnot => ?_, fun _ _ => rfl, fun x hx => ?_, fun k hk b' c' hb' => ?_, fun k hk k' hk' hne => ?_⟩
        · rw [hset, if_neg fun e' => hnot d (by simp [nm]) c (by rw [e']; exact r1)]
        · simp at hx; subst hx
          exact ⟨b, c, mb, mc, seen.push e.born, r1, r2, by rw [hset, if_pos rfl], .refl _, fun y hy => by cases hy; exact ⟨j, e, hej, hy, seen, rfl⟩⟩
        · simp [nm] at hk; subst hk
          rw [r1] at hb'
          obtain ⟨rfl, rfl⟩ : b = b' ∧ c = c' := by simpa using hb'
          exact ⟨hown.1, by rw [hsz]; exact hlt, .inr ⟨k, by simp [nm], c, r1⟩⟩
        · simp [nm] at hk hk'; exact absurd (hk.trans hk'.symm) hne
      refine two true [.junk, .junk] { cb := [(d, .iter m t es clock ys left none)], pb := [(d, .iter m t es clock ys (remOf (seen.push e.born) es.toList ys) (some (ys[j]'(by rw [← hlen]; exact hj))))] } S ι _ _
        (hR.next ⟨by simp, by simp, fun x hx => by simp at hx; subst hx; exact h2, by simp, by simp [nm], by simp⟩ hNx ⟨_, ⟨_, _, rfl, ⟨[.bool true], .bool true, rfl⟩, _, _, rfl, trivial, _, _, rfl, trivial, rfl⟩, rfl⟩ (fun t ht => by cases ht; exact hl1)) (hA _ _ (r4.trans hpk) ap)
  unfold opWp at hlist
  show wpList P #[o1, o2] (post U O B Q) [o1, o2] a w
  unfold wpList
  exact hlist
end
end Go.AM
