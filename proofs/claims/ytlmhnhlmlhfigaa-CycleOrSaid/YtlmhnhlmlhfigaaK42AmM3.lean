/- A part of my own abstract layer. -/
import Derived.Test.YtlmhnhlmlhfigaaK42AmW
import Derived.Maps.RangeRun
import Derived.Maps.Own
import Derived.Maps.Views
import Derived.Sort.KeysCollected
import Derived.Sort.Grow
import Derived.Sort.EncStr
import Derived.Lib.SlicesCompact
import Derived.Test.YtlmhnhlmlhfigaaK42AmA
import Derived.Scope
namespace Go.AM
set_option linter.unusedVariables false

section
variable {α : Type}
theorem remOf_none : ∀ (es : List MapEntry) (ys : List α), es.length = ys.length → remOf #[] es ys = ys
  | [], [], _ => rfl
  | e :: es, y :: ys, h => by simp [remOf, remOf_none es ys (by simpa using h)]
theorem remOf_push {seen : Array Nat} {b : Nat} : ∀ (es : List MapEntry) (ys : List α), (∀ x ∈ es, x.born ≠ b) → remOf (seen.push b) es ys = remOf seen es ys
  | [], _, _ => by simp [remOf]
  | _ :: _, [], _ => by simp [remOf]
  | e :: es, y :: ys, h => by
    have h1 := h e List.mem_cons_self
    have ih := remOf_push (seen := seen) es ys fun x hx => h x (List.mem_cons_of_mem _ hx)
    simp [remOf, ih, h1]
theorem remOf_pick {seen : Array Nat} : ∀ (es : List MapEntry) (ys : List α), (es.map (·.born)).Nodup → ∀ (j : Nat) (e : MapEntry) (y : α), es[j]? = some e → ys[j]? = some y → seen.contains e.born = false →
    (remOf seen es ys).Perm (y :: remOf (seen.push e.born) es ys)
  | [], _, _, _, _, _, h, _, _ => by simp at h
  | _ :: _, [], _, _, _, _, _, h, _ => by simp at h
  | e0 :: es, y0 :: ys, hn, 0, e, y, h1, h2, h3 => by
    simp at h1 h2
    subst h1 h2
    rw [List.map_cons, List.nodup_cons] at hn
    have := remOf_push (seen := seen) (b := e0.born) es ys fun x hx he => hn.1 (List.mem_map.2 ⟨x, hx, he⟩)
    unfold remOf
    rw [h3]
    simp [this]
  | e0 :: es, y0 :: ys, hn, j + 1, e, y, h1, h2, h3 => by
    simp only [List.getElem?_cons_succ] at h1 h2
    rw [List.map_cons, List.nodup_cons] at hn
    have hne : e0.born ≠ e.born := fun he => hn.1 (List.mem_map.2 ⟨e, List.mem_of_getElem? h1, he.symm⟩)
    have ih := remOf_pick es ys hn.2 j e y h1 h2 h3
    unfold remOf
    cases hc : seen.contains e0.born
    · have : (seen.push e.born).contains e0.born = false := by
        have h5 : ¬ e0.born ∈ seen := by simpa using hc
        simp [h5, hne]
      rw [this]
      simp only [Bool.false_eq_true, if_false]
      exact (ih.cons y0).trans (.swap _ _ _)
    · have : (seen.push e.born).contains e0.born = true := by
        have h5 : e0.born ∈ seen := by simpa using hc
        simp [h5]
      rw [this]
      simpa using ih
theorem remOf_over {seen : Array Nat} : ∀ (es : List MapEntry) (ys : List α), es.length = ys.length → (∀ x ∈ es, seen.contains x.born = true) → remOf seen es ys = []
  | [], [], _, _ => rfl
  | e :: es, y :: ys, hl, h => by
    unfold remOf
    rw [if_pos (h e List.mem_cons_self)]
    exact remOf_over es ys (by simpa using hl) fun x hx => h x (List.mem_cons_of_mem _ hx)
theorem remOf_sub {seen : Array Nat} : ∀ (es : List MapEntry) (ys : List α), (remOf seen es ys).Sublist ys
  | [], ys => by unfold remOf; exact List.nil_sublist _
  | _ :: _, [] => by unfold remOf; exact List.nil_sublist _
  | e :: es, y :: ys => by
    unfold remOf
    split
    · exact (remOf_sub es ys).cons y
    · exact (remOf_sub es ys).cons_cons y
def Apart (m : KV α) : Prop := m.Pairwise fun x y => x.1 ≠ y.1
end

section
variable {U : Univ} {O : Out} {P : Program} {B : Base} {S : Nat → Prop} {ι : Lay} {w : World} {rs : List (Nat × AVal U)} {a : Act} {ops : Array Oper} {o : Oper} {t : Ty}

theorem exec_range {ρ : Operand → Value} {T : TypeId} {x : Operand} (ho : o.op = .range T x) : execOp ρ o = vOf (Instr.range T (ρ x)) := by unfold execOp; rw [ho]; rfl
theorem exec_next {ρ : Operand → Value} {x : Operand} {q : Bool} (ho : o.op = .next x q) : execOp ρ o = vOf (Instr.next (ρ x) q o.type) := by unfold execOp; rw [ho]; rfl
theorem exec_entry {ρ : Operand → Value} {x : Operand} (ho : o.op = .entry x) : execOp ρ o = vOf (Instr.entry (ρ x)) := by unfold execOp; rw [ho]; rfl

theorem WpC.openMap {c : Code} {st : St U} {Q : PostQ U} {n : Nat} {kvs : KV (t.den U.T)} (hin : (n, Blk.map t kvs) ∈ st.hp)
    (h : ∀ es clock (ys : KV (t.den U.T)), ys.Perm kvs → Rising kvs → WpC U O P B c ⟨st.sl, setA st.hp n (.mapE t es clock ys)⟩ Q) : WpC U O P B c st Q := by
  intro S ι a w hR
  obtain ⟨b, c', es, clock, ys, h1, h2, h3, h4, h5, h6⟩ := hR.hp _ hin
  refine h es clock ys h5 h6 S ι a w ?_
  have hm : ∀ k ∈ nm (setA st.hp n (Blk.mapE t es clock ys)), k ∈ nm st.hp := fun k hk => by
    obtain ⟨x, hx, rfl⟩ := List.mem_map.1 hk
    rcases mem_setA hx with rfl | ⟨h1, _⟩
    · exact List.mem_map.2 ⟨_, hin, rfl⟩
    · exact List.mem_map.2 ⟨_, h1, rfl⟩
  refine { hR with hp := fun x hx => ?_, own := ⟨fun k hk => hR.own.out k (hm k hk), fun k hk j hj => hR.own.sep k (hm k hk) j (hm j hj)⟩, mine := fun k hk => hR.mine k (hm k hk) }
  rcases mem_setA hx with rfl | ⟨h1', _⟩
  · exact ⟨b, c', h1, h2, h3, h4⟩
  · exact hR.hp x h1'
theorem Conv.closeMap {st : St U} {n : Nat} {es : Array MapEntry} {clock : Nat} {ys kvs : KV (t.den U.T)} (hin : (n, Blk.mapE t es clock ys) ∈ st.hp) (hp : ys.Perm kvs) (hr : Rising kvs) : Conv U O st ⟨st.sl, setA st.hp n (.map t kvs)⟩ := by
  intro B' S ι a w hR
  have hm : ∀ k ∈ nm (setA st.hp n (Blk.map t kvs)), k ∈ nm st.hp := fun k hk => by
    obtain ⟨x, hx, rfl⟩ := List.mem_map.1 hk
    rcases mem_setA hx with rfl | ⟨h1, _⟩
    · exact List.mem_map.2 ⟨_, hin, rfl⟩
    · exact List.mem_map.2 ⟨_, h1, rfl⟩
  refine ⟨S, ι, { hR with hp := fun x hx => ?_, own := ⟨fun k hk => hR.own.out k (hm k hk), fun k hk j hj => hR.own.sep k (hm k hk) j (hm j hj)⟩, mine := fun k hk => hR.mine k (hm k hk) }⟩
  rcases mem_setA hx with rfl | ⟨h1, _⟩
  · obtain ⟨b, c, h1, h2, h3, h4⟩ := hR.hp _ hin
    exact ⟨b, c, es, clock, ys, h1, h2, h3, h4, hp, hr⟩
  · exact hR.hp x h1
theorem Conv.iterRest {st : St U} {d m : Nat} {es : Array MapEntry} {clock : Nat} {ys left : KV (t.den U.T)} {cur : Option (List UInt8 × t.den U.T)} (hin : (d, Blk.iter m t es clock ys left cur) ∈ st.hp) :
    Conv U O st ⟨st.sl, setA st.hp d (.iter m t es clock ys left none)⟩ := by
  intro B' S ι a w hR
  have hm : ∀ k ∈ nm (setA st.hp d (Blk.iter m t es clock ys left none)), k ∈ nm st.hp := fun k hk => by
    obtain ⟨x, hx, rfl⟩ := List.mem_map.1 hk
    rcases mem_setA hx with rfl | ⟨h1, _⟩
    · exact List.mem_map.2 ⟨_, hin, rfl⟩
    · exact List.mem_map.2 ⟨_, h1, rfl⟩
  refine ⟨S, ι, { hR with hp := fun x hx => ?_, own := ⟨fun k hk => hR.own.out k (hm k hk), fun k hk j hj => hR.own.sep k (hm k hk) j (hm j hj)⟩, mine := fun k hk => hR.mine k (hm k hk) }⟩
  rcases mem_setA hx with rfl | ⟨h1, _⟩
  · obtain ⟨b, c, mb, mc, seen, h1, h2, h3, h4, h5⟩ := hR.hp _ hin
    exact ⟨b, c, mb, mc, seen, h1, h2, h3, h4, fun y hy => by cases hy⟩
  · exact hR.hp x h1

theorem sok_range {T K E : TypeId} {x : Operand} {d m : Nat} {es : Array MapEntry} {clock : Nat} {ys kvs : KV (t.den U.T)} (hg : o.guard = none) (_ : o.dst = some d) (ho : o.op = .range T x) (hT : MapOk P T K E) (hp : ys.Perm kvs) (hmd : m ≠ d)
    (hm : Opd U rs x (.mp m)) : SOk U O P ops o { rs := rs, ro := [(m, .mapE t es clock ys)], ws := .loc d 0, pb := [(d, .iter m t es clock ys kvs none)], nn := [d] } := by
  intro S ι w a hlt hgl hrs hro hcb hown K' Q hK
  obtain ⟨b, c, h1, h2, h3, h4⟩ := hro _ List.mem_cons_self
  obtain ⟨b', c', h7, h8⟩ := hm.ev hrs
  rw [h1] at h7
  obtain ⟨rfl, rfl⟩ : b = b' ∧ c = c' := by simpa using h7
  refine opWp_plain hg ?_
  unfold Oper.wp
  rw [exec_range ho, h8, run_vOf (run_range_map w T K E b es clock hT.ty h2)]
  refine hK _ S _ _ (Nx.alloc (s := { rs := rs, ro := [(m, .mapE t es clock ys)], ws := .loc d 0, pb := [(d, .iter m t es clock ys kvs none)], nn := [d] }) (.mapIter (some b) clock #[] clock) rfl rfl rfl hlt 0 ?_) ⟨w.heap.size, 0, by simp, rfl⟩
  refine ⟨w.heap.size, 0, b, c, #[], by simp, by simp [hmd, h1], heap_alloc_new w _, ?_, fun y hy => by cases hy⟩
  rw [remOf_none _ _ h4.len]
  exact hp.symm

theorem sok_entry {x : Operand} {d m : Nat} {es : Array MapEntry} {clock : Nat} {ys left : KV (t.den U.T)} {y : List UInt8 × t.den U.T} (hg : o.guard = none) (ho : o.op = .entry x) (hx : Opd U rs x (.loc d 0)) :
    SOk U O P ops o { rs := rs, ro := [(d, .iter m t es clock ys left (some y)), (m, .mapE t es clock ys)], ws := .tup [.p .str y.1, .p t y.2] } :=
  sok_v hg _ (fun _ => exec_entry ho) fun S ι w a hrs hro => by
    obtain ⟨b, c, mb, mc, seen, h1, h2, h3, h4, h5⟩ := hro _ List.mem_cons_self
    obtain ⟨b', c', g1, g2, g3, g4⟩ := hro _ (List.mem_cons_of_mem _ List.mem_cons_self)
    rw [h2] at g1
    obtain ⟨rfl, rfl⟩ : mb = b' ∧ mc = c' := by simpa using g1
    obtain ⟨b'', c'', h7, h8⟩ := hx.ev hrs
    rw [h1] at h7
    obtain ⟨rfl, rfl⟩ : b = b'' ∧ c = c'' := by simpa using h7
    obtain ⟨j, e, q1, q2, pre, rfl⟩ := h5 y rfl
    have hrd : ∀ (es : List MapEntry) (ys : KV (t.den U.T)) (j : Nat), EntsR U O S w t es ys → es[j]? = some e → ys[j]? = some y → (∃ s : ByteArray, e.key = .string s ∧ s.data.toList = y.1) ∧ ∃ cs, Rd U O S w t y.2 cs ∧ e.val = mkV t.isAgg cs := by
      intro es
      induction es with
      | nil => intro ys j _ h; simp at h
      | cons e0 es ih =>
        rintro ys j ⟨y0, r, rfl, k1, k2, k3⟩ h h'
        cases j with
        | zero => simp at h h'; subst h h'; exact ⟨k1, k2⟩
        | succ j => exact ih r j k3 (by simpa using h) (by simpa using h')
    obtain ⟨⟨s, k1, k2⟩, cs, k3, k4⟩ := hrd _ _ j g4 q1 q2
    refine ⟨.tuple #[e.key, e.val], ?_, [e.key, e.val], ⟨_, _, rfl, ⟨[.string s], rd_strof k2, k1⟩, _, _, rfl, ⟨cs, k3, k4⟩, rfl⟩, rfl⟩
    rw [h8]
    exact run_entry_at w b mb clock pre es clock e h3 g2 (List.mem_of_getElem? q1) g3.2.1

def nextA (st : St U) (d m : Nat) (es : Array MapEntry) (clock : Nat) (ys left left' : KV (t.den U.T)) (y : List UInt8 × t.den U.T) (t1 t2 : Nat) : St U :=
  (st.next { cb := [(d, .iter m t es clock ys left none)], pb := [(d, .iter m t es clock ys left' (some y))], ws := .tup [.p .bool true, .junk, .junk] } (some t1)).next { ws := .p .bool true } (some t2)
def nextB (st : St U) (t1 t2 : Nat) : St U := (st.next ({ ws := .tup [.p .bool false] } : LSpec U) (some t1)).next { ws := .p .bool false } (some t2)

theorem WpC.next {id : Nat} {o1 o2 : Oper} {st : St U} {Q : PostQ U} {it d m t1 t2 N : Nat} {es : Array MapEntry} {clock : Nat} {ys left : KV (t.den U.T)} (ts ns : List Nat) (hN : B.n = N)
    (hg1 : o1.guard = none) (ho1 : o1.op = .next (.tmp it) false) (hd1 : o1.dst = some t1) (hg2 : o2.guard = none) (ho2 : o2.op = .extract (.tmp t1) 0) (hd2 : o2.dst = some t2) (hl1 : t1 < N) (hl2 : t2 < N) (hne : t1 ≠ it)
    (h1 : (it, AVal.loc d 0) ∈ st.sl) (h2 : (d, Blk.iter m t es clock ys left none) ∈ st.hp) (h3 : (m, Blk.mapE t es clock ys) ∈ st.hp)
    (hA : ∀ y left', left.Perm (y :: left') → Apart left → ∃ st1, (nextA st d m es clock ys left left' y t1 t2).keep ts ns = st1 ∧ ∃ st', Conv U O st1 st' ∧ Q .normal st')
    (hB : left = [] → ∃ st1, (nextB st t1 t2).keep ts ns = st1 ∧ ∃ st', Conv U O st1 st' ∧ Q .normal st') : WpC U O P B (.region id #[o1, o2] false) st Q := by
  subst hN
  intro S ι a w hR
  refine wp_region_list ?_
  obtain ⟨b, c, mb, mc, seen, r1, r2, r3, r4, r5⟩ := hR.hp _ h2
  obtain ⟨b', c', k1, k2, k3, k4⟩ := hR.hp _ h3
  rw [r2] at k1
  obtain ⟨rfl, rfl⟩ : mb = b' ∧ mc = c' := by simpa using k1
  obtain ⟨b'', c'', l1, l2⟩ := hR.sl _ h1
  rw [r1] at l1
  obtain ⟨rfl, rfl⟩ : b = b'' ∧ c = c'' := by simpa using l1
  have hev : a.eval (.tmp it) = .pointer (some ⟨b, 0, none⟩) := l2
  have hlen := k4.len
  have step : ∀ (K : Act → World → Prop), opWp P #[o1, o2] (post U O B Q) o1 K a w ↔ opWp P #[o1, o2] (post U O B Q) o1 K a w := fun _ => Iff.rfl
  have hlist : opWp P #[o1, o2] (post U O B Q) o1 (wpList P #[o1, o2] (post U O B Q) [o2]) a w := by
    refine opWp_plain hg1 ?_
    unfold Oper.wp
    rw [exec_next ho1, hev]
    have ap : Apart left := r4.symm.pairwise (List.Pairwise.sublist (remOf_sub _ _) (k4.apart k3.2.2)) fun h => h.symm
    have two : ∀ (v : Bool) (vs : List (AVal U)) (s : LSpec U) (S' : Nat → Prop) (ι' : Lay) (a' : Act) (w' : World), Rel U O B S' ι' (st.next { s with ws := .tup (.p .bool v :: vs) } (some t1)) a' w' →
        (∃ st1, ((st.next { s with ws := .tup (.p .bool v :: vs) } (some t1)).next { ws := .p .bool v } (some t2)).keep ts ns = st1 ∧ ∃ st', Conv U O st1 st' ∧ Q .normal st') → wpList P #[o1, o2] (post U O B Q) [o2] a' w' := fun v vs s S' ι' a' w' hR' ⟨st1, e1, st', hcv, hQ⟩ => by
      have hin : (t1, AVal.tup (.p .bool v :: vs)) ∈ (st.next { s with ws := .tup (.p .bool v :: vs) } (some t1)).sl := mem_setA_iff.2 (.inl rfl)
      have hx : SOk U O P #[o1, o2] o2 { rs := [(t1, .tup (.p .bool v :: vs))], ws := .p .bool v } := sok_extract hg2 ho2 (.tmp (.head _)) rfl
      have := hx.use (Q := post U O B Q) (K := wpList P #[o1, o2] (post U O B Q) []) hR' ⟨fun x hx => by simp at hx; subst hx; exact hin, by simp, by simp, by simp, by simp, by simp⟩ (fun t ht => by rw [hd2] at ht; cases ht; exact hl2) fun S'' ι'' a'' w'' hR'' => by
        unfold wpList
        rw [hd2] at hR''
        exact ⟨st', hQ, hcv B S'' ι'' _ _ (e1 ▸ hR''.weak (St.keep_le _ ts ns))⟩
      unfold opWp at this
      unfold wpList
      exact this
    rcases run_next_at (P := P) w o1.type b mb clock clock seen es clock r3 k2 k3.1 (Nat.le_refl _) with ⟨q1, q2⟩ | ⟨e, q1, w1, q2, q3⟩
    · rw [run_vOf q2]
      have hov : ∀ x ∈ es.toList, seen.contains x.born = true := fun x hx => by
        cases hc : seen.contains x.born with
        | true => rfl
        | false =>
          have : x ∈ (leftOf es seen).toList := by unfold leftOf; simp; exact ⟨by simpa using hx, by simpa using hc⟩
          rw [← Array.length_toList] at q1
          rw [List.eq_nil_of_length_eq_zero q1] at this; cases this
      have hl : left = [] := by
        rw [remOf_over _ _ hlen hov] at r4
        exact r4.eq_nil
      rw [Oper.upon_value, hd1]
      refine two false [] {} S ι _ w (hR.next (s := { ws := .tup [.p .bool false] }) ⟨by simp, by simp, by simp, by simp, by simp, by simp⟩ (Nx.refl _ rfl rfl hR.lt) ⟨_, ⟨_, _, rfl, ⟨[.bool false], .bool false, rfl⟩, rfl⟩, rfl⟩ (fun t ht => by cases ht; exact hl1)) (hB hl)
    · rw [run_vOf q3]
      obtain ⟨he, hc⟩ : e ∈ es.toList ∧ seen.contains e.born = false := by unfold leftOf at q1; simpa using q1
      obtain ⟨j, hj, hje⟩ := List.getElem_of_mem he
      have hy : ys[j]? = some (ys[j]'(by rw [← hlen]; exact hj)) := List.getElem?_eq_getElem _
      have hej : es.toList[j]? = some e := by rw [List.getElem?_eq_getElem hj, hje]
      have hpk := remOf_pick (seen := seen) es.toList ys k3.2.1 j e _ hej hy hc
      have hw1 : w1.heap = w.heap ∧ w1.os = w.os ∧ w1.tape = w.tape ∧ w1.output = w.output := by rcases q2 with rfl | rfl <;> exact ⟨rfl, rfl, rfl, rfl⟩
      have hlt : b < w.heap.size := (Array.getElem?_eq_some_iff.1 r3).1
      have hset : ∀ k, (ChangeMaps.setBlock w1 b (.mapIter (some mb) clock (seen.push e.born) clock)).heap[k]? = if k = b then some (.mapIter (some mb) clock (seen.push e.born) clock) else w.heap[k]? := fun k => by
        show (w1.heap.setIfInBounds b _)[k]? = _
        rw [hw1.1]
        by_cases e' : k = b
        · subst e'; rw [if_pos rfl]; simp [hlt]
        · rw [if_neg e']; simp [Array.getElem?_setIfInBounds_ne (Ne.symm e')]
      have hsz : (ChangeMaps.setBlock w1 b (.mapIter (some mb) clock (seen.push e.born) clock)).heap.size = w.heap.size := by
        show (w1.heap.setIfInBounds b _).size = _
        rw [hw1.1]; simp
      rw [Oper.upon_value, hd1]
      have hown := hR.own.out d (mem_nm h2) b c r1
      have hNx : Nx U O { cb := [(d, .iter m t es clock ys left none)], pb := [(d, .iter m t es clock ys (remOf (seen.push e.born) es.toList ys) (some (ys[j]'(by rw [← hlen]; exact hj))))], ws := .tup [.p .bool true, .junk, .junk] } S ι w S ι (ChangeMaps.setBlock w1 b (.mapIter (some mb) clock (seen.push e.born) clock)) := by
        refine ⟨hw1.2.1, hw1.2.2.1, hw1.2.2.2, by rw [hsz]; exact Nat.le_refl _, fun _ h => h, fun _ h => .inl h, fun b h => by rw [hsz]; exact hR.lt b h, fun k hk hnot => ?_, fun _ _ => rfl, fun x hx => ?_, fun k hk b' c' hb' => ?_, fun k hk k' hk' hne => ?_⟩
        · rw [hset, if_neg fun e' => hnot d (by simp [nm]) c (by rw [e']; exact r1)]
        · simp at hx; subst hx
          exact ⟨b, c, mb, mc, seen.push e.born, r1, r2, by rw [hset, if_pos rfl], .refl _, fun y hy => by cases hy; exact ⟨j, e, hej, hy, seen, rfl⟩⟩
        · simp [nm] at hk; subst hk
          rw [r1] at hb'
          obtain ⟨rfl, rfl⟩ : b = b' ∧ c = c' := by simpa using hb'
          exact ⟨hown.1, by rw [hsz]; exact hlt, .inr ⟨k, by simp [nm], c, r1⟩⟩
        · simp [nm] at hk hk'; exact absurd (hk.trans hk'.symm) hne
      refine two true [.junk, .junk] { cb := [(d, .iter m t es clock ys left none)], pb := [(d, .iter m t es clock ys (remOf (seen.push e.born) es.toList ys) (some (ys[j]'(by rw [← hlen]; exact hj))))] } S ι _ _
        (hR.next ⟨by simp, by simp, fun x hx => by simp at hx; subst hx; exact h2, by simp, by simp [nm], by simp⟩ hNx ⟨_, ⟨_, _, rfl, ⟨[.bool true], .bool true, rfl⟩, _, _, rfl, trivial, _, _, rfl, trivial, rfl⟩, rfl⟩ (fun t ht => by cases ht; exact hl1)) (hA _ _ (r4.trans hpk) ap)
  unfold opWp at hlist
  show wpList P #[o1, o2] (post U O B Q) [o1, o2] a w
  unfold wpList
  exact hlist
end
end Go.AM
namespace Go.AM
set_option linter.unusedVariables false
open Go.WideElems (Fit rd rg)

section
variable {U : Univ} {O : Out} {P : Program} {S S' : Nat → Prop} {ι ι' : Lay} {w w' : World} {t : Ty}

theorem Nx.frame {s : LSpec U} (h : Nx U O s S ι w S' ι' w') (h1 : s.cb = []) (bs : List (Nat × Blk U)) (hnn : ∀ n ∈ s.nn, n ∉ nm bs ∧ ∀ x ∈ bs, n ∉ Blk.names U x.2) (hbs : ∀ x ∈ bs, BR U O S ι w x.1 x.2)
    (hown : Own S ι w (nm bs)) (hlt : ∀ b, S b → b < w.heap.size) : Nx U O { s with cb := bs, pb := s.pb ++ bs } S ι w S' ι' w' := by
  have hkeep : ∀ b, b < w.heap.size → w'.heap[b]? = w.heap[b]? := fun b hb => h.keep b hb (by rw [h1]; simp)
  have hnew : ∀ b, S' b → S b ∨ w.heap.size ≤ b := fun b hb => by
    rcases h.new b hb with h | h | ⟨m, hm, _⟩
    · exact .inl h
    · exact .inr h
    · rw [h1] at hm; cases hm
  have hlay : ∀ n ∈ nm bs, ι' n = ι n := fun n hn => h.lay n fun hin => (hnn n hin).1 hn
  have hpb : ∀ n ∈ nm s.pb, ∀ b c, ι' n = some (b, c) → w.heap.size ≤ b := fun n hn b c hb => by
    rcases (h.plc n hn b c hb).2.2 with h | ⟨m, hm, _⟩
    · exact h
    · rw [h1] at hm; cases hm
  have split : ∀ n, n ∈ nm (s.pb ++ bs) → n ∈ nm s.pb ∨ n ∈ nm bs := fun n hn => by
    have : n ∈ List.map _ (_ ++ _) := hn
    rw [List.map_append] at this
    exact List.mem_append.1 this
  refine ⟨h.os, h.tape, h.output, h.size, h.sub, fun b hb => (hnew b hb).elim .inl fun h => .inr (.inl h), h.lt, fun b hb _ => hkeep b hb, h.lay, fun x hx => ?_, fun n hn b c hb => ?_, fun n hn m hm hne b c c' hb => ?_⟩
  · rcases List.mem_append.1 hx with hx | hx
    · exact h.blk x hx
    · have hxn : x.1 ∈ nm bs := List.mem_map.2 ⟨x, hx, rfl⟩
      exact BR.mono (fun b hb => hkeep b (hlt b hb)) h.sub (hlay _ hxn) (fun m hm => h.lay m fun hin => (hnn m hin).2 x hx hm) (fun b c hb => hkeep b (hown.out x.1 hxn b c hb).2) (hbs x hx)
  · rcases split n hn with hn | hn
    · have := h.plc n hn b c hb
      exact ⟨this.1, this.2.1, .inl (hpb n hn b c hb)⟩
    · rw [hlay n hn] at hb
      obtain ⟨o1, o2⟩ := hown.out n hn b c hb
      refine ⟨fun hS => ?_, Nat.lt_of_lt_of_le o2 h.size, .inr ⟨n, hn, c, hb⟩⟩
      rcases hnew b hS with h | h
      · exact o1 h
      · omega
  · rcases split n hn with hn | hn <;> rcases split m hm with hm | hm
    · exact h.sep n hn m hm hne b c c' hb
    · rw [hlay m hm]
      intro hb'
      have := (hown.out m hm b c' hb').2
      have := hpb n hn b c hb
      omega
    · rw [hlay n hn] at hb
      intro hb'
      have := (hown.out n hn b c hb).2
      have := hpb m hm b c' hb'
      omega
    · rw [hlay n hn] at hb
      rw [hlay m hm]
      exact hown.sep n hn m hm hne b c c' hb

def unitR : Value → Option (DataW Unit × List MemPlace) := fun _ => some (.lit (.bool true), [])
end
end Go.AM
namespace Go.AM
open Go Go.RowKit
set_option linter.unusedVariables false

def eqG (U : Univ) : (t : Ty) → t.den U.T → t.den U.T → Bool
  | .pair (.named n) b, x, y => eqB (U.body n) (U.out n x.1) (U.out n y.1) && eqG U b x.2 y.2
  | .pair a b, x, y => eqB a x.1 y.1 && eqG U b x.2 y.2
  | .unit, _, _ => true
  | _, _, _ => false

section
variable {U : Univ} {O : Out} {P : Program} {S : Nat → Prop} {ι : Lay} {w : World} {rs : List (Nat × AVal U)} {a : Act} {ops : Array Oper} {o : Oper}
inductive EqG (P : Program) (U : Univ) : List Field → Nat → Ty → Prop
  | nil {off : Nat} : EqG P U [] off .unit
  | cons {f : Field} {fs : List Field} {off : Nat} {a b : Ty} : f.name ≠ "_" → f.offset = off → TyOk P U f.type a → EqOne P f.type a → EqG P U fs (off + 1) b → EqG P U (f :: fs) off (.pair a b)
  | st {f : Field} {fs : List Field} {gs : Array Field} {off n k : Nat} {b : Ty} : f.name ≠ "_" → f.offset = off → TyOk P U f.type (.named n) → P.underlying f.type = some (.struct gs) → P.stoodInHeld f.type = false → EqF P U gs.toList 0 (U.body n) →
      (Ty.named n).width U.wd = k → EqG P U fs (off + k) b → EqG P U (f :: fs) off (.pair (.named n) b)

theorem EqG.run {fs : List Field} {off : Nat} {t : Ty} (h : EqG P U fs off t) (d : Nat) : ∀ {x y : t.den U.T} {c1 c2 : List Value} {xs ys : Array Value}, Rd U O S w t x c1 → Rd U O S w t y c2 →
    (∀ j, j < c1.length → xs[off + j]? = c1[j]?) → (∀ j, j < c2.length → ys[off + j]? = c2[j]?) → (Op.eqFields (d + 2) xs ys fs).run P w = .ok (eqG U t x y) w := by
  induction h with
  | nil => intro x y c1 c2 xs ys _ _ _ _; simp [Op.eqFields, eqG]
  | @cons f fs off a b hn ho ht he _ ih =>
    intro x y c1 c2 xs ys h1 h2 g1 g2
    cases h1 with
    | @pair _ _ x1 x2 p1 p2 a1 a2 =>
    cases h2 with
    | @pair _ _ y1 y2 q1 q2 b1 b2 =>
    obtain ⟨e1, e2, e3⟩ := he.run (P := P) (w := w) (d + 1) a1 b1
    have hp1 : (part f.type xs f.offset).run P w = .ok (mkV a.isAgg p1) w := run_part ht a1.length (fun j hj => by
      have hl := a1.length
      rw [ho, g1 j (by rw [List.length_append]; omega), List.getElem?_append_left (by omega)]) width_one w
    have hp2 : (part f.type ys f.offset).run P w = .ok (mkV a.isAgg q1) w := run_part ht b1.length (fun j hj => by
      have hl := b1.length
      rw [ho, g2 j (by rw [List.length_append]; omega), List.getElem?_append_left (by omega)]) width_one w
    have hr := ih (xs := xs) (ys := ys) a2 b2 (fun j hj => by
      have := g1 (1 + j) (by rw [List.length_append]; omega)
      rw [show off + 1 + j = off + (1 + j) by omega, this, List.getElem?_append_right (by omega)]; congr 1; omega) (fun j hj => by
      have := g2 (1 + j) (by rw [List.length_append]; omega)
      rw [show off + 1 + j = off + (1 + j) by omega, this, List.getElem?_append_right (by omega)]; congr 1; omega)
    have hq : eqG U (.pair a b) (x1, x2) (y1, y2) = (eqB a x1 y1 && eqG U b x2 y2) := by cases he <;> rfl
    rw [hq]
    simp only [Op.eqFields, hn, ne_eq, not_false_eq_true, if_true, Sem.run_bind, hp1, hp2, e1, Result.andThen_ok]
    cases eqB a x1 y1
    · simp
    · simpa using hr
  | @st f fs gs off n k b hn ho ht hu hs hf hk _ ih =>
    intro x y c1 c2 xs ys h1 h2 g1 g2
    cases h1 with
    | @pair _ _ x1 x2 p1 p2 a1 a2 =>
    cases h2 with
    | @pair _ _ y1 y2 q1 q2 b1 b2 =>
    have hl1 : p1.length = k := hk ▸ a1.length
    have hl2 : q1.length = k := hk ▸ b1.length
    have hp1 : (part f.type xs f.offset).run P w = .ok (mkV (Ty.named n).isAgg p1) w := run_part ht a1.length (fun j hj => by
      rw [ho, g1 j (by rw [List.length_append]; omega), List.getElem?_append_left (by omega)]) width_one w
    have hp2 : (part f.type ys f.offset).run P w = .ok (mkV (Ty.named n).isAgg q1) w := run_part ht b1.length (fun j hj => by
      rw [ho, g2 j (by rw [List.length_append]; omega), List.getElem?_append_left (by omega)]) width_one w
    have hr := ih (xs := xs) (ys := ys) a2 b2 (fun j hj => by
      have := g1 (k + j) (by rw [List.length_append]; omega)
      rw [show off + k + j = off + (k + j) by omega, this, List.getElem?_append_right (by omega)]; congr 1; omega) (fun j hj => by
      have := g2 (k + j) (by rw [List.length_append]; omega)
      rw [show off + k + j = off + (k + j) by omega, this, List.getElem?_append_right (by omega)]; congr 1; omega)
    have hfo : P.fieldsOf f.type = gs := by simp [Program.fieldsOf, hu]
    have e1 : (Op.equalIn (d + 2) f.type (mkV (Ty.named n).isAgg p1) (mkV (Ty.named n).isAgg q1)).run P w = .ok (eqB (U.body n) (U.out n x1) (U.out n y1)) w := by
      cases a1 with
      | named _ _ a1 =>
      cases b1 with
      | named _ _ b1 =>
      show (Op.equalIn (d + 1 + 1) f.type (.agg p1.toArray) (.agg q1.toArray)).run P w = _
      rw [run_equalIn_struct w (d + 1) f.type _ _ (by rw [hfo]; exact hu) hs, hfo]
      exact hf.run d a1 b1 (fun j hj => by simp) (fun j hj => by simp)
    have hq : eqG U (.pair (.named n) b) (x1, x2) (y1, y2) = (eqB (U.body n) (U.out n x1) (U.out n y1) && eqG U b x2 y2) := rfl
    rw [hq]
    simp only [Op.eqFields, hn, ne_eq, not_false_eq_true, if_true, Sem.run_bind, hp1, hp2, e1, Result.andThen_ok]
    cases eqB (U.body n) (U.out n x1) (U.out n y1)
    · simp
    · simpa using hr
end

section
variable {U : Univ} {O : Out} {S S' : Nat → Prop} {ι ι' : Lay} {w w' : World} {t : Ty}
theorem Nx.rowBlk {s : LSpec U} {E : TypeId} {xs : List (t.den U.T)} {v' : Value} {n d : Nat} {news : List Value} (hrow : w'.ownsRow w.heap.size E (t.width U.wd) v' n news) (hb : RowKit.Below w.heap.size w w')
    (hn : n = xs.length) (hcb : s.cb = []) (hpb : s.pb = [(d, .row E t xs false)]) (hnn : s.nn = [d]) (hlt : ∀ b, S b → b < w.heap.size)
    (hel : ∀ (i : Nat) (h : i < xs.length), ∃ cs, Rd U O S w t xs[i] cs ∧ ∀ j, j < t.width U.wd → news[i * t.width U.wd + j]? = cs[j]?) :
    ∃ ι', Nx U O s S ι w S ι' w' ∧ VV U O S ι' w' (.vec d (t.width U.wd) 0 xs.length) v' := by
  subst hn
  have hl := hrow.lt
  obtain ⟨hlen, ⟨rfl, h0⟩ | ⟨g, cap, cur, rfl, hg, hh, hcap, hmx, hsz, htk⟩⟩ := hrow
  · have : xs = [] := List.eq_nil_of_length_eq_zero h0
    subst this
    refine ⟨fun m => if m = d then none else ι m, ⟨hb.os, hb.tape, hb.output, hb.size, fun _ h => h, fun _ h => .inl h, fun b h => Nat.lt_of_lt_of_le (hlt b h) hb.size, fun b hb' _ => hb.block b hb', fun m hm => ?_, fun x hx => ?_, fun m hm b c hbc => ?_, fun m hm m' hm' hne => ?_⟩, ?_⟩
    · rw [hnn] at hm; exact if_neg (by simpa using hm)
    · rw [hpb] at hx; simp at hx; subst hx
      exact .inl ⟨by simp, rfl, rfl⟩
    · rw [hpb] at hm; simp [nm] at hm; subst hm; simp at hbc
    · rw [hpb] at hm hm'; simp [nm] at hm hm'; subst hm hm'; exact absurd rfl hne
    · exact .inl ⟨by simp, rfl, rfl, rfl⟩
  · have hgl : g < w'.heap.size := (Array.getElem?_eq_some_iff.1 hh).1
    refine ⟨fun m => if m = d then some (g, cap) else ι m, ⟨hb.os, hb.tape, hb.output, hb.size, fun _ h => h, fun _ h => .inl h, fun b h => Nat.lt_of_lt_of_le (hlt b h) hb.size, fun b hb' _ => hb.block b hb', fun m hm => ?_, fun x hx => ?_, fun m hm b c hbc => ?_, fun m hm m' hm' hne => ?_⟩, ?_⟩
    · rw [hnn] at hm; exact if_neg (by simpa using hm)
    · rw [hpb] at hx; simp at hx; subst hx
      refine .inr ⟨g, cap, cur, fun i => if h : i < xs.length then (hel i h).choose else [], by simp, hh, hsz, hmx, hcap, by simp, fun i h => ?_, fun i j hi hj => ?_⟩
      · simp only [h, dif_pos]
        exact (hel i h).choose_spec.1.mono (fun b hS => hb.block b (hlt b hS)) fun _ h => h
      · simp only [hi, dif_pos]
        rw [← (hel i hi).choose_spec.2 j hj, ← htk, List.getElem?_take_of_lt (by
          have : (i + 1) * t.width U.wd ≤ xs.length * t.width U.wd := Nat.mul_le_mul_right _ hi
          rw [Nat.succ_mul] at this; omega), Array.getElem?_toList]
    · rw [hpb] at hm; simp [nm] at hm; subst hm
      simp at hbc; obtain ⟨rfl, rfl⟩ := hbc
      exact ⟨fun hS => absurd (hlt _ hS) (by omega), hgl, .inl hg⟩
    · rw [hpb] at hm hm'; simp [nm] at hm hm'; subst hm hm'; exact absurd rfl hne
    · exact .inr ⟨g, cap, 0, by simp, by omega, by simp, .inl (by simp)⟩
theorem Nx.rowPut {s : LSpec U} {E : TypeId} {xs ys : List (t.den U.T)} {d b c : Nat} {fx : Bool} (hcb : s.cb = [(d, .row E t xs fx)]) (hpb : s.pb = [(d, .row E t ys fx)]) (hι : ι d = some (b, c)) (hS : ¬ S b) (hbl : b < w.heap.size)
    (hlt : ∀ b, S b → b < w.heap.size) (h1 : w'.os = w.os) (h2 : w'.tape = w.tape) (h3 : w'.output = w.output) (h4 : w.heap.size ≤ w'.heap.size) (hk : ∀ k, k < w.heap.size → k ≠ b → w'.heap[k]? = w.heap[k]?)
    (hB : BR U O S ι w' d (.row E t ys fx)) : Nx U O s S ι w S ι w' := by
  refine ⟨h1, h2, h3, h4, fun _ h => h, fun _ h => .inl h, fun b' h => Nat.lt_of_lt_of_le (hlt b' h) h4, fun b' hb' hne => hk b' hb' fun e => ?_, fun _ _ => rfl, fun x hx => ?_, fun m hm b' c' hbc => ?_, fun m hm m' hm' hne => ?_⟩
  · exact hne d (by rw [hcb]; simp [nm]) c (by rw [hι, e])
  · rw [hpb] at hx; simp at hx; subst hx; exact hB
  · rw [hpb] at hm; simp [nm] at hm; subst hm
    rw [hι] at hbc; obtain ⟨rfl, rfl⟩ : b = b' ∧ c = c' := by simpa using hbc
    exact ⟨hS, by omega, .inr ⟨m, by rw [hcb]; simp [nm], c, hι⟩⟩
  · rw [hpb] at hm hm'; simp [nm] at hm hm'; subst hm hm'; exact absurd rfl hne
theorem put_at {α : Type} [Inhabited α] {enc : α → Value} {b off n : Nat} {d : Array α} {os : Array Obj} {arr : Array Value} {E : TypeId} {fr : Nat × Nat} (h : w.heap[b]? = some (.cells arr E fr)) :
    (Sort.grow (Sort.putRow enc (Sort.ahead w n) b off d) os).heap[b]? = some (.cells (Sort.putCells enc off d arr) E fr) := by
  have hl : b < w.heap.size := (Array.getElem?_eq_some_iff.1 h).1
  rw [Sort.heap_grow_old _ _ (by simp [Sort.putRow, Sort.mapBlock, Sort.ahead]; exact hl)]
  simp only [Sort.putRow, Sort.mapBlock, Sort.ahead, Array.getElem?_modify, if_true, h, Option.map_some, Sort.onCells]
theorem put_ne {α : Type} [Inhabited α] {enc : α → Value} {b off n k : Nat} {d : Array α} {os : Array Obj} (hk : k < w.heap.size) (hne : k ≠ b) :
    (Sort.grow (Sort.putRow enc (Sort.ahead w n) b off d) os).heap[k]? = w.heap[k]? := by
  rw [Sort.heap_grow_old _ _ (by simp [Sort.putRow, Sort.mapBlock, Sort.ahead]; exact hk)]
  simp only [Sort.putRow, Sort.mapBlock, Sort.ahead, Array.getElem?_modify, if_neg (fun e => hne e.symm : ¬ b = k)]
theorem put_get {α : Type} [Inhabited α] {enc : α → Value} {d : Array α} {arr : Array Value} {j : Nat} (hj : j < d.size) (ha : j < arr.size) : (Sort.putCells enc 0 d arr)[j]? = some (enc d[j]!) := by
  simp only [Sort.putCells, Array.getElem?_mapIdx]
  rw [Array.getElem?_eq_getElem ha, Option.map_some, if_pos (by omega)]; simp
theorem put_size {α : Type} [Inhabited α] {enc : α → Value} {off : Nat} {d : Array α} {arr : Array Value} : (Sort.putCells enc off d arr).size = arr.size := by simp [Sort.putCells]
end
end Go.AM

namespace Go.AM
open Go
set_option linter.unusedVariables false
section
variable {U : Univ} {O : Out}
theorem Conv.openS {st : St U} {q : Bool} (t n : Nat) (hq : q = true) (hin : (t, AVal.opt q n) ∈ st.sl) : Conv U O st ⟨setA st.sl t (.loc n 0), st.hp⟩ := by
  intro B S ι a w hR
  refine ⟨S, ι, { hR with sl := fun x hx => ?_ }⟩
  rcases mem_setA hx with rfl | ⟨h1, _⟩
  · have h := hR.sl _ hin
    simp only [VV] at h ⊢
    exact h.1 hq
  · exact hR.sl x h1
theorem Conv.openB {st : St U} {q : Bool} (n : Nat) (B : Blk U) (hq : q = true) (hin : (n, Blk.opt q B) ∈ st.hp) : Conv U O st ⟨st.sl, setA st.hp n B⟩ := by
  intro B' S ι a w hR
  have hm : ∀ k ∈ nm (setA st.hp n B), k ∈ nm st.hp := fun k hk => by
    obtain ⟨x, hx, rfl⟩ := List.mem_map.1 hk
    rcases mem_setA hx with rfl | ⟨h1, _⟩
    · exact List.mem_map.2 ⟨_, hin, rfl⟩
    · exact List.mem_map.2 ⟨_, h1, rfl⟩
  refine ⟨S, ι, { hR with hp := fun x hx => ?_, own := ⟨fun k hk => hR.own.out k (hm k hk), fun k hk j hj => hR.own.sep k (hm k hk) j (hm j hj)⟩, mine := fun k hk => hR.mine k (hm k hk) }⟩
  rcases mem_setA hx with rfl | ⟨h1, _⟩
  · exact hR.hp _ hin hq
  · exact hR.hp x h1
end
end Go.AM

namespace Go.AM
open Go Go.RowKit Go.Sort Go.Proofs
set_option linter.unusedVariables false
section
variable {U : Univ} {O : Out} {S : Nat → Prop} {ι : Lay} {w w' : World}
theorem row_frozen {b k : Nat} {arr : Array Value} {E : TypeId} (h : w.heap[b]? = some (.cells arr E (0, 0))) : w.frozen? ⟨b, k, none⟩ = false := by simp [World.frozen?, h]
theorem row_of {d E : Nat} {xs : List (List UInt8)} {fx : Bool} (hB : BR U O S ι w d (.row E .str xs fx)) {u : Value} (hu : VV U O S ι w (.vec d 1 0 xs.length) u) :
    (ι d = none ∧ xs = [] ∧ fx = false ∧ u = .slice none 0 0) ∨ ∃ (b c : Nat) (arr : Array Value), ι d = some (b, c) ∧ u = .slice (some ⟨b, 0, none⟩) xs.length c ∧ w.heap[b]? = some (.cells arr E (0, 0)) ∧ arr.size = c ∧ c ≤ maxLen ∧ xs.length ≤ c ∧ (fx = true → xs.length = c) ∧ Holds encStr w b 0 xs.toArray := by
  rcases hB with ⟨h1, h2, h3⟩ | ⟨b, c, arr, cs, h1, h2, h3, h4, h5, h6, h7, h8⟩
  · rcases hu with ⟨_, _, _, rfl⟩ | ⟨b, c, o, g1, _⟩
    · exact .inl ⟨h1, h2, h3, rfl⟩
    · rw [h1] at g1; cases g1
  · rcases hu with ⟨g1, _⟩ | ⟨b', c', o, g1, g2, g3, g4⟩
    · rw [h1] at g1; cases g1
    · rw [h1] at g1
      obtain ⟨rfl, rfl⟩ : b = b' ∧ c = c' := by simpa using g1
      have ho : o = 0 := by rcases g4 with h | h <;> omega
      subst ho
      refine .inr ⟨b, c, arr, h1, by simpa using g3, h2, by simpa [Ty.width] using h3, h4, h5, h6, fun j hj => ⟨?_, row_frozen h2⟩⟩
      have hjx : j < xs.length := by simpa using hj
      obtain ⟨q, q1, q2⟩ := rd_strq (h7 j hjx)
      have h9 := h8 j 0 hjx (by simp [Ty.width])
      rw [q2] at h9
      rw [cell_of_row w b _ arr E (0, 0) h2]
      have e : q = ⟨xs[j].toArray⟩ := bytes_ext (by simp; exact q1.symm)
      have e2 : xs.toArray[j]! = xs[j] := by simp [hjx]
      rw [e2, Nat.zero_add]
      simp only [Ty.width, Nat.mul_one, Nat.add_zero, List.getElem?_cons_zero] at h9
      rw [h9, e]
theorem row_to {d E b c : Nat} {ys : List (List UInt8)} {fx : Bool} {arr arr' : Array Value} (h1 : ι d = some (b, c)) (h2 : w.heap[b]? = some (.cells arr' E (0, 0))) (h3 : arr'.size = c) (h4 : c ≤ maxLen) (h5 : ys.length ≤ c) (h6 : fx = true → ys.length = c)
    (h7 : ∀ j (h : j < ys.length), arr'[j]? = some (encStr ys[j])) : BR U O S ι w d (.row E .str ys fx) := by
  refine .inr ⟨b, c, arr', fun i => if h : i < ys.length then [encStr ys[i]] else [], h1, h2, by simpa [Ty.width] using h3, h4, h5, h6, fun i h => ?_, fun i j hi hj => ?_⟩
  · have e : (if h : i < ys.length then [encStr ys[i]] else ([] : List Value)) = [encStr ys[i]] := dif_pos h
    show Rd U O S w .str ys[i] (if h : i < ys.length then [encStr ys[i]] else [])
    rw [e]; exact rd_strof rfl
  · obtain rfl : j = 0 := by simpa [Ty.width] using hj
    have e : (if h : i < ys.length then [encStr ys[i]] else ([] : List Value)) = [encStr ys[i]] := dif_pos hi
    show _ = (if h : i < ys.length then [encStr ys[i]] else ([] : List Value))[0]?
    rw [e]
    simp only [Ty.width, Nat.mul_one, Nat.add_zero, List.getElem?_cons_zero]
    exact h7 i hi
theorem sort_nx {s : LSpec U} {d E b c n : Nat} {xs ys : List (List UInt8)} {os : Array Obj} {arr : Array Value} (hcb : s.cb = [(d, .row E .str xs false)]) (hpb : s.pb = [(d, .row E .str ys false)])
    (hι : ι d = some (b, c)) (hh : w.heap[b]? = some (.cells arr E (0, 0))) (hsz : arr.size = c) (hmx : c ≤ maxLen) (hlen : ys.length = xs.length) (hc : xs.length ≤ c) (hS : ¬ S b) (hlt : ∀ b, S b → b < w.heap.size)
    (hw : w' = grow (putRow encStr (Go.Sort.ahead w n) b 0 ys.toArray) os) : Nx U O s S ι w S ι w' := by
  subst hw
  have hbl : b < w.heap.size := (Array.getElem?_eq_some_iff.1 hh).1
  refine Nx.rowPut hcb hpb hι hS hbl hlt rfl rfl rfl (by simp [putRow, mapBlock, Go.Sort.ahead]) (fun k hk hne => put_ne hk hne) ?_
  refine row_to (arr := arr) hι (put_at hh) (by rw [put_size]; exact hsz) hmx (by omega) (by simp) fun j hj => ?_
  rw [put_get (by simpa using hj) (by omega)]
  simp [hj]
theorem compact_len (zs : List (List UInt8)) : (Lib.compact zs).length ≤ zs.length := by
  unfold Lib.compact Lib.compactUpTo
  rw [List.length_map]
  exact Nat.le_trans (List.length_filter_le _ _) (by simp)
end
end Go.AM

namespace Go.AM
open Go Go.RowKit
set_option linter.unusedVariables false
section
variable {U : Univ} {O : Out} {P : Program} {S : Nat → Prop} {ι : Lay} {w : World} {rs : List (Nat × AVal U)} {a : Act} {ops : Array Oper} {o : Oper}
end
end Go.AM
namespace Go.AM
theorem w64 {n : Int} (h0 : -9223372036854775808 ≤ n) (h1 : n ≤ 9223372036854775807) : IntKind.i64.wrap n = n := by
  simp only [IntKind.wrap, IntKind.bits, IntKind.signed]
  simp
  omega
theorem idx_at {α : Type} {l : List α} {v : Int} {i : Nat} (e : v = i) (h : i < l.length) : idx l v = some l[i] := by
  subst e; simp [idx, h]
theorem idx_none {α : Type} {l : List α} {v : Int} (h : v < 0 ∨ (l.length : Int) ≤ v) : idx l v = none := by
  unfold idx
  split
  · rcases h with h | h
    · omega
    · simp; omega
  · rfl
end Go.AM
namespace Go.AM
open Go
set_option linter.unusedVariables false
section
variable {U : Univ} {O : Out} {P : Program} {S : Nat → Prop} {ι : Lay} {w : World} {rs : List (Nat × AVal U)} {a : Act} {ops : Array Oper} {o : Oper}
theorem sok_lenNil {T E : TypeId} {x : Operand} (hg : o.guard = none) (ho : o.op = .call { callee := .builtin .len, args := #[x], argTypes := #[T] }) (ht : P.underlying T = some (.slice E)) (hx : Opd U rs x (.lit (.slice none 0 0))) :
    SOk U O P ops o { rs := rs, ws := .p (.int .i64) (0 : Int) } :=
  sok_v hg _ (fun _ => exec_len ho) fun S ι w a hrs _ => by
    refine ⟨.int .i64 0, ?_, VV.int_iff.2 rfl⟩
    rw [(hx.ev hrs).1]
    simp [Builtin.len_, run_underlying ht, goInt]
theorem sok_sliceNil {T E : TypeId} {t : Ty} {x : Operand} {lo hi : Option Operand} (hg : o.guard = none) (ho : o.op = .slice T x lo hi none) (ht : SlOk P U T E t) (hx : Opd U rs x (.lit (.slice none 0 0))) (hl : Bd U rs 0 lo 0) (hh : Bd U rs 0 hi 0) :
    SOk U O P ops o { rs := rs, ws := .lit (.slice none 0 0) } :=
  sok_v hg _ (fun _ => exec_slice ho) fun S ι w a hrs _ => by
    have hsb := run_sliceBounds (P := P) true 0 0 hl hh hrs (by omega) (by omega) (by omega) w
    refine ⟨.slice none 0 0, ?_, ⟨rfl, (hx.ev hrs).2⟩⟩
    rw [(hx.ev hrs).1]
    simp [Instr.sliceAt, Instr.slice, Sem.run_bind, Result.andThen_ok, run_underlying ht.under, hsb, run_sizeOf ht.el]
end
section
variable {U : Univ} {O : Out}
theorem Conv.shrink0 {st : St U} (n E : Nat) (ty : Ty) (xs : List (ty.den U.T)) (fx : Bool) (hin : (n, Blk.row E ty xs fx) ∈ st.hp) : Conv U O st ⟨st.sl, setA st.hp n (.row E ty ([] : List (ty.den U.T)) false)⟩ := by
  intro B S ι a w hR
  have hm : ∀ k ∈ nm (setA st.hp n (Blk.row E ty ([] : List (ty.den U.T)) false)), k ∈ nm st.hp := fun k hk => by
    obtain ⟨x, hx, rfl⟩ := List.mem_map.1 hk
    rcases mem_setA hx with rfl | ⟨h1, _⟩
    · show n ∈ nm st.hp
      exact mem_nm hin
    · exact mem_nm h1
  refine ⟨S, ι, { hR with hp := fun x hx => ?_, own := ⟨fun k hk => hR.own.out k (hm k hk), fun k hk j hj => hR.own.sep k (hm k hk) j (hm j hj)⟩, mine := fun k hk => hR.mine k (hm k hk) }⟩
  rcases mem_setA hx with rfl | ⟨h1, _⟩
  · rcases hR.hp _ hin with ⟨h1, _, h3⟩ | ⟨b, c, arr, cs, h1, h2, h3, h4, h5, h6, h7, h8⟩
    · exact .inl ⟨h1, rfl, rfl⟩
    · exact .inr ⟨b, c, arr, cs, h1, h2, h3, h4, by simp, (fun h => by cases h), fun i h => absurd h (by simp), fun i j h => absurd h (by simp)⟩
  · exact hR.hp x h1
end
section
variable {U : Univ} {O : Out} {S : Nat → Prop} {ι : Lay} {w w' : World}
open Go.RowKit Go.Sort Go.Proofs
theorem compactRow_nx {s : LSpec U} {d d' E b c n m : Nat} {xs ys : List (List UInt8)} {arr : Array Value} (hcb : s.cb = [(d, .row E .str xs false)]) (hpb : s.pb = [(d', .row E .str ys false)]) (hnn : s.nn = [d'])
    (hι : ι d = some (b, c)) (hh : w.heap[b]? = some (.cells arr E (0, 0))) (hsz : arr.size = c) (hmx : c ≤ maxLen) (hlen : ys.length ≤ c) (hS : ¬ S b) (hlt : ∀ b, S b → b < w.heap.size)
    (hw : w' = putRow encStr (Go.Sort.ahead w n) b 0 (ys ++ List.replicate m []).toArray) :
    ∃ ι', Nx U O s S ι w S ι' w' ∧ VV U O S ι' w' (.vec d' 1 0 ys.length) (.slice (some ⟨b, 0, none⟩) ys.length c) := by
  have hw : w' = grow (putRow encStr (Go.Sort.ahead w n) b 0 (ys ++ List.replicate m []).toArray) #[] := by rw [grow_empty]; exact hw
  subst hw
  have hbl : b < w.heap.size := (Array.getElem?_eq_some_iff.1 hh).1
  have hsz' : w.heap.size ≤ (grow (putRow encStr (Go.Sort.ahead w n) b 0 (ys ++ List.replicate m []).toArray) #[]).heap.size := by simp [putRow, mapBlock, Go.Sort.ahead]
  refine ⟨fun k => if k = d' then some (b, c) else ι k, ⟨rfl, rfl, rfl, hsz', fun _ h => h, fun _ h => .inl h, fun x h => Nat.lt_of_lt_of_le (hlt x h) hsz', fun b' hb' hne => put_ne hb' fun e => ?_, fun k hk => ?_, fun x hx => ?_, fun k hk b' c' hbc => ?_, fun k hk k' hk' hne => ?_⟩, ?_⟩
  · exact hne d (by rw [hcb]; simp [nm]) c (by rw [hι, e])
  · rw [hnn] at hk; exact if_neg (by simpa using hk)
  · rw [hpb] at hx; simp at hx; subst hx
    refine row_to (arr := arr) (ι := fun k => if k = d' then some (b, c) else ι k) (by simp) (put_at hh) (by rw [put_size]; exact hsz) hmx hlen (by simp) fun j hj => ?_
    have hi2 : j < (ys ++ List.replicate m ([] : List UInt8)).length := by rw [List.length_append]; omega
    have hge : (ys ++ List.replicate m ([] : List UInt8)).toArray[j]! = ys[j] := by
      rw [getElem!_pos _ j (by simpa using hi2)]
      simp [List.getElem_append_left hj]
    rw [put_get (by simpa using hi2) (by omega), hge]
  · rw [hpb] at hk; simp [nm] at hk; subst hk
    simp at hbc; obtain ⟨rfl, rfl⟩ := hbc
    exact ⟨hS, Nat.lt_of_lt_of_le hbl hsz', .inr ⟨d, by rw [hcb]; simp [nm], c, hι⟩⟩
  · rw [hpb] at hk hk'; simp [nm] at hk hk'; subst hk hk'; exact absurd rfl hne
  · exact .inr ⟨b, c, 0, by simp, by omega, by simp, .inl rfl⟩
theorem rowNil_nx {s : LSpec U} {d d' E : Nat} {xs : List (List UInt8)} (hcb : s.cb = [(d, .row E .str xs false)]) (hpb : s.pb = [(d', .row E .str ([] : List (List UInt8)) false)]) (hnn : s.nn = [d']) (hlt : ∀ b, S b → b < w.heap.size) :
    ∃ ι', Nx U O s S ι w S ι' w ∧ VV U O S ι' w (.vec d' 1 0 0) (.slice none 0 0) := by
  refine ⟨fun k => if k = d' then none else ι k, ⟨rfl, rfl, rfl, Nat.le_refl _, fun _ h => h, fun _ h => .inl h, hlt, fun _ _ _ => rfl, fun k hk => ?_, fun x hx => ?_, fun k hk b' c' hbc => ?_, fun k hk k' hk' hne => ?_⟩, .inl ⟨by simp, rfl, rfl, rfl⟩⟩
  · rw [hnn] at hk; exact if_neg (by simpa using hk)
  · rw [hpb] at hx; simp at hx; subst hx
    exact .inl ⟨by simp, rfl, rfl⟩
  · rw [hpb] at hk; simp [nm] at hk; subst hk; simp at hbc
  · rw [hpb] at hk hk'; simp [nm] at hk hk'; subst hk hk'; exact absurd rfl hne
end
section
variable {U : Univ} {O : Out} {P : Program} {S : Nat → Prop} {ι : Lay} {w : World} {rs : List (Nat × AVal U)} {a : Act} {ops : Array Oper} {o : Oper}
end
end Go.AM
namespace Go.AM
open Go
set_option linter.unusedVariables false
section
variable {U : Univ} {O : Out}
theorem Conv.shrinkN {st : St U} (n E m : Nat) (ty : Ty) (xs : List (ty.den U.T)) (fx : Bool) (hin : (n, Blk.row E ty xs fx) ∈ st.hp) : Conv U O st ⟨st.sl, setA st.hp n (.row E ty (xs.take m) false)⟩ := by
  intro B S ι a w hR
  have hm : ∀ k ∈ nm (setA st.hp n (Blk.row E ty (xs.take m) false)), k ∈ nm st.hp := fun k hk => by
    obtain ⟨x, hx, rfl⟩ := List.mem_map.1 hk
    rcases mem_setA hx with rfl | ⟨h1, _⟩
    · show n ∈ nm st.hp
      exact mem_nm hin
    · exact mem_nm h1
  refine ⟨S, ι, { hR with hp := fun x hx => ?_, own := ⟨fun k hk => hR.own.out k (hm k hk), fun k hk j hj => hR.own.sep k (hm k hk) j (hm j hj)⟩, mine := fun k hk => hR.mine k (hm k hk) }⟩
  rcases mem_setA hx with rfl | ⟨h1, _⟩
  · rcases hR.hp _ hin with ⟨h1, h2, h3⟩ | ⟨b, c, arr, cs, h1, h2, h3, h4, h5, h6, h7, h8⟩
    · exact .inl ⟨h1, by rw [h2]; simp, rfl⟩
    · refine .inr ⟨b, c, arr, cs, h1, h2, h3, h4, by rw [List.length_take]; omega, (fun h => by cases h), fun i h => ?_, fun i j h => ?_⟩
      · rw [List.length_take] at h
        rw [List.getElem_take]; exact h7 i (by omega)
      · rw [List.length_take] at h; exact h8 i j (by omega)
  · exact hR.hp x h1
end
section
variable {U : Univ} {O : Out} {P : Program} {S : Nat → Prop} {ι : Lay} {w : World} {rs : List (Nat × AVal U)} {a : Act} {ops : Array Oper} {o : Oper}
end
end Go.AM
namespace Go.AM
open Go
set_option linter.unusedVariables false
section
variable {U : Univ} {O : Out} {P : Program} {B : Base}
theorem WpC.label {l : Nat} {st : St U} {Q : PostQ U} (h : Q .normal st) : WpC U O P B (.label l) st Q := fun S ι _ _ hR => wp_label ⟨st, h, S, ι, hR⟩
def noGotoQ (Q : PostQ U) : PostQ U
  | .goto _, _ => False
  | e, st => Q e st
theorem noGotoQ_ret {Q : PostQ U} {st : St U} (h : Q .ret st) : noGotoQ Q .ret st := h
theorem WpC.scope {c : Code} {st : St U} {Q : PostQ U} (h : WpC U O P B c st (noGotoQ Q)) : WpC U O P B (.scope c) st Q := fun S ι a w hR =>
  wp_scope_straight (wp_mono (h S ι a w hR) fun e a' w' ⟨st', hQ, r⟩ => by
    cases e with
    | goto l => exact hQ.elim
    | _ => exact ⟨st', hQ, r⟩)
end
section
variable {U : Univ} {O : Out}
theorem Conv.freezeP {st : St U} (t n : Nat) (ty : Ty) (x : ty.den U.T) (us : List (AVal U)) (hin : (t, AVal.loc n 0) ∈ st.sl) (hx : Expl U ty x us) (hb : (n, Blk.box us) ∈ st.hp) (hn : ∀ x ∈ st.hp, n ∉ Blk.names U x.2) :
    Conv U O st ⟨setA st.sl t (.p (.ptr ty) (some x : Option (ty.den U.T))), st.hp.filter fun x => !(x.1 == n)⟩ := by
  intro B S ι a w hR
  have hB := hR.hp _ hb
  have hmem : ∀ x ∈ st.hp.filter (fun x => !(x.1 == n)), x ∈ st.hp ∧ x.1 ≠ n := fun x hx => by
    obtain ⟨h1, h2⟩ := List.mem_filter.1 hx
    exact ⟨h1, by simpa using h2⟩
  have hmn : ∀ k ∈ nm (st.hp.filter fun x => !(x.1 == n)), k ∈ nm st.hp ∧ k ≠ n := fun k hk => by
    obtain ⟨x, hx, rfl⟩ := List.mem_map.1 hk
    exact ⟨mem_nm (hmem x hx).1, (hmem x hx).2⟩
  have hnin : n ∈ nm st.hp := mem_nm hb
  obtain ⟨b, c, vs, arr, e, h1, h2, h3, h4, h5⟩ := hB
  refine ⟨fun b => S b ∨ ∃ c, ι n = some (b, c), ι, { hR with sl := fun y hy => ?_, hp := fun x hx => ?_, own := ⟨fun k hk b c hb => ?_, fun k hk j hj => hR.own.sep k (hmn k hk).1 j (hmn j hj).1⟩, mine := (fun k hk => hR.mine k (hmn k hk).1), lt := fun b h => ?_, gl := hR.gl.mono (fun _ _ => rfl) (fun _ h => .inl h), sub := fun b h => .inl (hR.sub b h), new := fun b h => ?_ }⟩
  · rcases mem_setA hy with rfl | ⟨h6, _⟩
    · obtain ⟨b', c', h7, h8⟩ := hR.sl _ hin
      rw [h1] at h7
      obtain ⟨rfl, rfl⟩ : b = b' ∧ c = c' := by simpa using h7
      have hr := (hx.of h2).mono (S' := fun b => S b ∨ ∃ c, ι n = some (b, c)) (fun _ _ => rfl) (fun _ h => .inl h)
      refine ⟨[a.tmps.getD t undef], ?_, rfl⟩
      show Rd U O _ w (.ptr ty) _ [a.tmps.getD t undef]
      rw [h8]
      refine .pto ty x b 0 (cellsOf vs) (.inr ⟨c, h1⟩) hr fun j hj => ?_
      rw [cell_of_row w b _ arr _ (0, 0) h5, Nat.zero_add, ← Array.getElem?_toList, h4]; rfl
    · exact VV.mono (fun _ _ => rfl) (fun _ h => .inl h) _ _ (fun _ _ => rfl) (hR.sl y h6)
  · exact BR.mono (fun _ _ => rfl) (fun _ h => .inl h) rfl (fun _ _ => rfl) (fun _ _ _ => rfl) (hR.hp x (hmem x hx).1)
  · refine ⟨fun h => ?_, (hR.own.out k (hmn k hk).1 b c hb).2⟩
    rcases h with h | ⟨c', h⟩
    · exact (hR.own.out k (hmn k hk).1 b c hb).1 h
    · exact hR.own.sep k (hmn k hk).1 n hnin (hmn k hk).2 b c c' hb h
  · rcases h with h | ⟨c, h⟩
    · exact hR.lt b h
    · exact (hR.own.out n hnin b c h).2
  · rcases h with h | ⟨c, h⟩
    · exact hR.new b h
    · exact .inr (hR.mine n hnin b c h)
theorem Conv.freezeQ {st : St U} (t n : Nat) (ty : Ty) (x : ty.den U.T) (us : List (AVal U)) (hin : (t, AVal.loc n 0) ∈ st.sl) (hx : Expl U ty x us) (hb : (n, Blk.box us) ∈ st.hp) (hn : ∀ x ∈ st.hp, n ∉ Blk.names U x.2) :
    Conv U O st ⟨setA st.sl t (.pp ty x), st.hp.filter fun x => !(x.1 == n)⟩ := by
  intro B S ι a w hR
  have hB := hR.hp _ hb
  have hmem : ∀ x ∈ st.hp.filter (fun x => !(x.1 == n)), x ∈ st.hp ∧ x.1 ≠ n := fun x hx => by
    obtain ⟨h1, h2⟩ := List.mem_filter.1 hx
    exact ⟨h1, by simpa using h2⟩
  have hmn : ∀ k ∈ nm (st.hp.filter fun x => !(x.1 == n)), k ∈ nm st.hp ∧ k ≠ n := fun k hk => by
    obtain ⟨x, hx, rfl⟩ := List.mem_map.1 hk
    exact ⟨mem_nm (hmem x hx).1, (hmem x hx).2⟩
  have hnin : n ∈ nm st.hp := mem_nm hb
  obtain ⟨b, c, vs, arr, e, h1, h2, h3, h4, h5⟩ := hB
  refine ⟨fun b => S b ∨ ∃ c, ι n = some (b, c), ι, { hR with sl := fun y hy => ?_, hp := fun x hx => ?_, own := ⟨fun k hk b c hb => ?_, fun k hk j hj => hR.own.sep k (hmn k hk).1 j (hmn j hj).1⟩, mine := (fun k hk => hR.mine k (hmn k hk).1), lt := fun b h => ?_, gl := hR.gl.mono (fun _ _ => rfl) (fun _ h => .inl h), sub := fun b h => .inl (hR.sub b h), new := fun b h => ?_ }⟩
  · rcases mem_setA hy with rfl | ⟨h6, _⟩
    · obtain ⟨b', c', h7, h8⟩ := hR.sl _ hin
      rw [h1] at h7
      obtain ⟨rfl, rfl⟩ : b = b' ∧ c = c' := by simpa using h7
      have hr := (hx.of h2).mono (S' := fun b => S b ∨ ∃ c, ι n = some (b, c)) (fun _ _ => rfl) (fun _ h => .inl h)
      refine ⟨b, 0, cellsOf vs, h8, .inr ⟨c, h1⟩, hr, fun j hj => ?_⟩
      rw [cell_of_row w b _ arr _ (0, 0) h5, Nat.zero_add, ← Array.getElem?_toList, h4]; rfl
    · exact VV.mono (fun _ _ => rfl) (fun _ h => .inl h) _ _ (fun _ _ => rfl) (hR.sl y h6)
  · exact BR.mono (fun _ _ => rfl) (fun _ h => .inl h) rfl (fun _ _ => rfl) (fun _ _ _ => rfl) (hR.hp x (hmem x hx).1)
  · refine ⟨fun h => ?_, (hR.own.out k (hmn k hk).1 b c hb).2⟩
    rcases h with h | ⟨c', h⟩
    · exact (hR.own.out k (hmn k hk).1 b c hb).1 h
    · exact hR.own.sep k (hmn k hk).1 n hnin (hmn k hk).2 b c c' hb h
  · rcases h with h | ⟨c, h⟩
    · exact hR.lt b h
    · exact (hR.own.out n hnin b c h).2
  · rcases h with h | ⟨c, h⟩
    · exact hR.new b h
    · exact .inr (hR.mine n hnin b c h)
end
section
variable {U : Univ} {O : Out} {P : Program} {S : Nat → Prop} {ι : Lay} {w : World} {rs : List (Nat × AVal U)} {a : Act} {ops : Array Oper} {o : Oper}
theorem ptrV_p {t : Ty} {q : Option (t.den U.T)} : PtrV U (.p (.ptr t) q) q.isNone := fun O S ι w u ⟨cs, hr, hu⟩ => by
  cases hr with
  | pnil => exact ⟨none, hu, rfl⟩
  | pto _ x b o cs => exact ⟨some _, hu, rfl⟩
theorem sok_nilCheckP {t : Ty} {x : Operand} {q : Option (t.den U.T)} {y : t.den U.T} (hg : o.guard = none) (ho : o.op = .nilCheck x) (hx : Opd U rs x (.p (.ptr t) q)) (hq : q = some y) : SOk U O P ops o { rs := rs, ws := .pp t y } :=
  sok_val hg fun S ι w a hrs _ => by
    subst hq
    obtain ⟨cs, hr, hu⟩ := hx.ev hrs
    cases hr with
    | pto _ _ b o' cs hS hx' hc =>
    refine ⟨a.eval x, ?_, b, o', cs, hu, hS, hx', hc⟩
    unfold execOp
    rw [ho]
    have hu' : a.eval x = .pointer (some ⟨b, o', none⟩) := hu
    simp only [hu', Sem.run_pure]
end
end Go.AM
namespace Go.AM

inductive Ob (U : Univ) where
  | o (t : Ty) (x : Option (t.den U.T))
  | u (x : Option UInt8)
  | p (q : Prop)
  | n (k : Nat)
  | b (k : Bool)
  | v (x : AVal U)
  | k (x : Blk U)
  | w (o : Oper)

def opAt (ops : Array Oper) (i : Nat) : Oper := ops.toList.getD i default
inductive IT (U : Univ) (O : Out) (P : Program) (ops : Array Oper) where
  | v (t : Ty) {q : Option (t.den U.T)} {x : t.den U.T} (h : q = some x)
  | u {q : Option UInt8} {x : UInt8} (h : q = some x)
  | g {p : Prop} (h : p)
  | t {b : Bool} (h : b = true)
  | f {b : Bool} (h : b = false)
  | c {f : FuncId} {c : CSpec U} (h : COk U O P f c)
  | e (i : Nat) {s : LSpec U} (h : SOk U O P ops { opAt ops i with guard := none } s)

structure Tab (U : Univ) where
  ty : List (TypeId × Ty) := []
  sl : List (TypeId × TypeId × Ty) := []
  fd : List (TypeId × Nat × Nat × Ty) := []
  un : TypeId → Option TypeDesc
  ro : List (TypeId × TypeId × Ty × Nat) := []
  mp : List (TypeId × TypeId × TypeId) := []
  zd : List (TypeId × AVal U) := []
  az : List (TypeId × List (AVal U)) := []
  bz : List (TypeId × List (AVal U) × List (Nat × Nat × Ty)) := []
  hb : List FuncId := []

def AllP {α : Type} (Q : α → Prop) : List α → Prop
  | [] => True
  | x :: l => Q x ∧ AllP Q l
theorem AllP.c {α : Type} {Q : α → Prop} {x : α} {l : List α} (h : Q x) (hl : AllP Q l) : AllP Q (x :: l) := ⟨h, hl⟩
theorem AllP.z {α : Type} {Q : α → Prop} : AllP Q [] := trivial
theorem AllP.mem {α : Type} {Q : α → Prop} : ∀ {l : List α}, AllP Q l → ∀ x ∈ l, Q x
  | _ :: _, h, _, .head _ => h.1
  | _ :: _, h, _, .tail _ hx => AllP.mem h.2 _ hx

def ZdOk (P : Program) (U : Univ) (T : TypeId) : AVal U → Prop
  | .p t z => ZeroOk P U T t z
  | _ => False
structure TbOk (P : Program) (U : Univ) (b : Tab U) : Prop where
  ty : AllP (fun x => TyOk P U x.1 x.2) b.ty
  sl : AllP (fun x => SlOk P U x.1 x.2.1 x.2.2) b.sl
  fd : AllP (fun x => ∃ F, FdOk P U x.1 x.2.1 x.2.2.1 F x.2.2.2) b.fd
  un : ∀ T d, b.un T = some d → P.underlying T = some d
  ro : AllP (fun x => RowOk P U x.1 x.2.1 x.2.2.1 x.2.2.2) b.ro
  mp : AllP (fun x => MapOk P x.1 x.2.1 x.2.2) b.mp
  zd : AllP (fun x => ZdOk P U x.1 x.2) b.zd
  az : AllP (fun x => ∃ v cs, (P.info? x.1).bind (·.zero) = some v ∧ v.cells.toList = cs ∧ ZU U x.2 cs) b.az
  bz : AllP (fun x => ∃ z pl, lays P x.1 = some (z, pl) ∧ ZU U x.2.1 z ∧ (List.range x.2.2.length).map pl = x.2.2.map fun y => some (y.1, y.2.1)) b.bz
  hb : AllP (fun x => HasBody P x) b.hb

def AVal.int? {U : Univ} : AVal U → Option (IntKind × Int)
  | .p (.int k) n => some (k, n)
  | _ => none
def AVal.str? {U : Univ} : AVal U → Option (List UInt8)
  | .p .str s => some s
  | _ => none
def AVal.bool? {U : Univ} : AVal U → Option Bool
  | .p .bool s => some s
  | _ => none
def AVal.asP {U : Univ} (t : Ty) : AVal U → Option (t.den U.T)
  | .p t' x => if h : t' = t then some (h ▸ x) else none
  | _ => none

section
variable {U : Univ}
theorem AVal.int?_eq {v : AVal U} {k : IntKind} {n : Int} (h : v.int? = some (k, n)) : v = .p (.int k) n := by
  unfold AVal.int? at h
  split at h
  · cases h; rfl
  · cases h
theorem AVal.bool?_eq {v : AVal U} {s : Bool} (h : v.bool? = some s) : v = .p .bool s := by
  unfold AVal.bool? at h
  split at h
  · cases h; rfl
  · cases h
theorem AVal.asP_eq {t : Ty} {v : AVal U} {x : t.den U.T} (h : v.asP t = some x) : v = .p t x := by
  unfold AVal.asP at h
  split at h
  · split at h
    · rename_i h'; subst h'; cases h; rfl
    · cases h
  · cases h

def opd (rs : List (Nat × AVal U)) : Operand → Option (AVal U)
  | .tmp t => lookA rs t
  | .const (.int k n) => some (.p (.int k) n)
  | .const (.bool b) => some (.p .bool b)
  | .const (.string b) => some (.p .str b.data.toList)
  | .const v => bif v.oneCell' then some (.lit v) else none
  | .global g => some (.lit (.pointer (some ⟨g, 0, none⟩)))
  | .func f => some (.clo f [])
theorem opd_ok {rs : List (Nat × AVal U)} {x : Operand} {v : AVal U} (h : opd rs x = some v) : Opd U rs x v := by
  unfold opd at h
  split at h
  · exact .tmp (lookA_mem h)
  · cases h; exact .int _ _ _
  · cases h; exact .bool _ _
  · cases h; exact .str _ _
  · rename_i w _ _ _
    cases hw : w.oneCell' with
    | true => rw [hw] at h; cases h; exact .lit _ _ hw
    | false => rw [hw] at h; cases h
  · cases h; exact .glob _ _
  · cases h; exact .func _ _

def opdP (rs : List (Nat × AVal U)) (t : Ty) : Operand → Option (t.den U.T)
  | .const (.slice none 0 0) => match t with
    | .list _ => some []
    | _ => none
  | .const .nilIface => match t with
    | .err => some (0 : Nat)
    | _ => none
  | x => (opd rs x).bind (AVal.asP t)
theorem opdP_ok {rs : List (Nat × AVal U)} {t : Ty} {x : Operand} {v : t.den U.T} (h : opdP rs t x = some v) : Opd U rs x (.p t v) := by
  unfold opdP at h
  split at h
  · split at h
    · cases h; exact .lnil _ _
    · cases h
  · split at h
    · cases h; exact .err0 _
    · cases h
  · obtain ⟨w, h1, h2⟩ := bind_some h
    rw [← AVal.asP_eq h2]; exact opd_ok h1

def tmpsOf : List Operand → List Nat
  | [] => []
  | .tmp t :: l => t :: tmpsOf l
  | _ :: l => tmpsOf l
def rsOf (sl : List (Nat × AVal U)) (xs : List Operand) : List (Nat × AVal U) := takeA sl (tmpsOf xs)

structure VR (U : Univ) where
  v : AVal U
  L : List (Ob U) := []
  R : List (Ob U) := []
variable {O : Out} {P : Program} {ops : Array Oper}

def binI (op : BinOp) (k : IntKind) (m n : Int) (it : Option (IT U O P ops)) : Option (VR U) :=
  match arith op k m n with
  | some r => some { v := .p (.int k) r }
  | none => match cmpI op m n with
    | some r => some { v := .p .bool r }
    | none => match it with
      | some (@IT.g _ _ _ _ p _) => match op with
        | .quo => some { v := .p (.int k) (k.wrap (Int.tdiv m n)), L := [.p p], R := [.p (n ≠ 0)] }
        | .rem => some { v := .p (.int k) (Int.tmod m n), L := [.p p], R := [.p (n ≠ 0)] }
        | _ => none
      | _ => none
def isShift : BinOp → Bool | .shl => true | .shr => true | _ => false
def binK (op : BinOp) (k : IntKind) (m n : Int) (it : Option (IT U O P ops)) : Option (VR U) :=
  match it with
  | some (@IT.g _ _ _ _ p _) => match op with
    | .shl => some { v := .p (.int k) (k.wrap (m * 2 ^ (min n.toNat k.bits))), L := [.p p], R := [.p ((0 : Int) ≤ n)] }
    | .shr => some { v := .p (.int k) (m.fdiv (2 ^ (min n.toNat k.bits))), L := [.p p], R := [.p ((0 : Int) ≤ n)] }
    | _ => none
  | _ => match op with
    | .shl => bif (decide (0 ≤ n)) then some { v := .p (.int k) (k.wrap (m * 2 ^ (min n.toNat k.bits))) } else none
    | .shr => bif (decide (0 ≤ n)) then some { v := .p (.int k) (m.fdiv (2 ^ (min n.toNat k.bits))) } else none
    | _ => none
def binS (op : BinOp) (m n : List UInt8) (it : Option (IT U O P ops)) : Option (VR U) :=
  match cmpS op m n with
  | some r => some { v := .p .bool r }
  | none => match op, it with
    | .add, some (@IT.g _ _ _ _ p _) => some { v := .p .str (m ++ n), L := [.p p], R := [.p (m.length + n.length ≤ 9223372036854775807)] }
    | _, _ => none
def isIfc : Option TypeDesc → Bool | some (.interface _) => true | _ => false
def isPtr : Option TypeDesc → Bool | some (.pointer _) => true | _ => false
def isBoolD : Option TypeDesc → Bool | some .bool => true | _ => false
def isStrD : Option TypeDesc → Bool | some .string => true | _ => false
def isNilI : Operand → Bool | .const .nilIface => true | _ => false
def isNilP : Operand → Bool | .const (.pointer none) => true | _ => false
def ptrNil : AVal U → Option Bool
  | .loc _ _ => some false
  | .lit (.pointer none) => some true
  | .opt q _ => some (!q)
  | .p (.ptr _) q => some (Option.isNone q)
  | _ => none
def stBin (tb : Tab U) (rs : List (Nat × AVal U)) (op : BinOp) (t : TypeId) (x y : Operand) (it : Option (IT U O P ops)) : Option (VR U) :=
  (opd rs x).bind fun vx =>
  bif isNilP y then
    bif isPtr (tb.un t) then (ptrNil vx).bind fun q => match op with
      | .eql => some { v := .p .bool q }
      | .neq => some { v := .p .bool (!q) }
      | _ => none
    else none
  else bif isNilI y then
    bif isIfc (tb.un t) then (vx.asP .err).bind fun k => (errIs op k).bind fun r => some { v := .p .bool r } else none
  else (opd rs y).bind fun vy => match vx with
    | .p (.int k) m => bif isShift op then vy.int?.bind fun n => binK op k m n.2 it else (vy.asP (.int k)).bind fun n => binI op k m n it
    | .p .str m => (vy.asP .str).bind fun n => binS op m n it
    | .p .bool m => (vy.asP .bool).bind fun (n : Bool) => bif isBoolD (tb.un t) then (match op with
      | .eql => some { v := .p .bool (BEq.beq (α := Bool) m n) }
      | .neq => some { v := .p .bool (!(BEq.beq (α := Bool) m n)) }
      | _ => none) else none
    | _ => none
def stUn (rs : List (Nat × AVal U)) (op : UnOp) (x : Operand) : Option (VR U) :=
  (opd rs x).bind fun vx => match vx, op with
    | .p .bool b, .not => some { v := .p .bool (!b) }
    | .p (.int k) n, .neg => some { v := .p (.int k) (k.wrap (Int.sub 0 n)) }
    | .p (.int k) n, .xor => some { v := .p (.int k) (bits .xor k (if k.signed then -1 else k.max) n) }
    | _, _ => none
end

section
variable {U : Univ} {O : Out} {P : Program} {S : Nat → Prop} {ι : Lay} {w : World} {rs : List (Nat × AVal U)} {a : Act} {ops : Array Oper} {o : Oper} {tb : Tab U}

theorem bif_some {α : Type} {b : Bool} {x : Option α} {y : α} (h : (bif b then x else none) = some y) : b = true ∧ x = some y := by
  cases b with
  | true => exact ⟨rfl, h⟩
  | false => cases h

theorem binI_ok {op : BinOp} {t t' : TypeId} {x y : Operand} {k : IntKind} {m n : Int} {it : Option (IT U O P ops)} {r : VR U} (hg : o.guard = none) (ho : o.op = .binOp op t x y t')
    (hx : Opd U rs x (.p (.int k) m)) (hy : Opd U rs y (.p (.int k) n)) (h : binI op k m n it = some r) (e : r.L = r.R) : SOk U O P ops o { rs := rs, ws := r.v } := by
  unfold binI at h
  split at h
  · rename_i r' hr; cases h; exact sok_arith hg ho hx hy hr
  split at h
  · rename_i r' hr; cases h; exact sok_cmp hg ho hx hy hr
  split at h
  · rename_i p hp
    split at h
    · cases h; simp only [List.cons.injEq, Ob.p.injEq, and_true] at e
      exact sok_quo hg ho hx hy (e ▸ hp)
    · cases h; simp only [List.cons.injEq, Ob.p.injEq, and_true] at e
      exact sok_rem hg ho hx hy (e ▸ hp)
    · cases h
  · cases h
theorem binK_ok {op : BinOp} {t t' : TypeId} {x y : Operand} {k k' : IntKind} {m n : Int} {it : Option (IT U O P ops)} {r : VR U} (hg : o.guard = none) (ho : o.op = .binOp op t x y t')
    (hx : Opd U rs x (.p (.int k) m)) (hy : Opd U rs y (.p (.int k') n)) (h : binK op k m n it = some r) (e : r.L = r.R) : SOk U O P ops o { rs := rs, ws := r.v } := by
  unfold binK at h
  split at h
  · rename_i p hp
    split at h
    · cases h; simp only [List.cons.injEq, Ob.p.injEq, and_true] at e
      exact sok_shl hg ho hx hy (e ▸ hp)
    · cases h; simp only [List.cons.injEq, Ob.p.injEq, and_true] at e
      exact sok_shr hg ho hx hy (e ▸ hp)
    · cases h
  · split at h
    · obtain ⟨h1, h2⟩ := bif_some h; cases h2; exact sok_shl hg ho hx hy (of_decide_eq_true h1)
    · obtain ⟨h1, h2⟩ := bif_some h; cases h2; exact sok_shr hg ho hx hy (of_decide_eq_true h1)
    · cases h
theorem binS_ok {op : BinOp} {t t' : TypeId} {x y : Operand} {m n : List UInt8} {it : Option (IT U O P ops)} {r : VR U} (hg : o.guard = none) (ho : o.op = .binOp op t x y t')
    (hx : Opd U rs x (.p .str m)) (hy : Opd U rs y (.p .str n)) (h : binS op m n it = some r) (e : r.L = r.R) : SOk U O P ops o { rs := rs, ws := r.v } := by
  unfold binS at h
  split at h
  · rename_i r' hr; cases h; exact sok_cmpS hg ho hx hy hr
  split at h
  · rename_i p hp _
    cases h; simp only [List.cons.injEq, Ob.p.injEq, and_true] at e
    exact sok_cat hg ho hx hy (e ▸ hp)
  · cases h
theorem TbOk.un' (ht : TbOk P U tb) {T : TypeId} {d : TypeDesc} (h : tb.un T = some d) : P.underlying T = some d := ht.un _ _ h
theorem ptrNil_ok {v : AVal U} {q : Bool} (h : ptrNil v = some q) : PtrV U v q := by
  unfold ptrNil at h
  split at h
  · cases h; exact ptrV_loc
  · cases h; exact ptrV_nil
  · cases h; exact ptrV_opt
  · cases h; exact ptrV_p
  · cases h
theorem stBin_ok (htb : TbOk P U tb) {op : BinOp} {t t' : TypeId} {x y : Operand} {it : Option (IT U O P ops)} {r : VR U} (hg : o.guard = none) (ho : o.op = .binOp op t x y t')
    (h : stBin tb rs op t x y it = some r) (e : r.L = r.R) : SOk U O P ops o { rs := rs, ws := r.v } := by
  unfold stBin at h
  obtain ⟨vx, hx, h'⟩ := bind_some h; replace h := h'; clear h'
  have hx := opd_ok hx
  cases hn : isNilP y with
  | true =>
    rw [hn, cond_true] at h
    obtain ⟨hp, h'⟩ := bif_some h; replace h := h'; clear h'
    obtain ⟨q, hq, h'⟩ := bind_some h; replace h := h'; clear h'
    have hy : y = .const (.pointer none) := by
      unfold isNilP at hn; split at hn
      · rfl
      · cases hn
    subst hy
    obtain ⟨E, hE⟩ : ∃ E, tb.un t = some (.pointer E) := by
      unfold isPtr at hp; split at hp
      · exact ⟨_, by assumption⟩
      · cases hp
    split at h
    · cases h; exact sok_eqPN hg ho (htb.un' hE) hx (ptrNil_ok hq)
    · cases h; exact sok_nePN hg ho (htb.un' hE) hx (ptrNil_ok hq)
    · cases h
  | false =>
  rw [hn, cond_false] at h
  cases hi : isNilI y with
  | true =>
    rw [hi, cond_true] at h
    obtain ⟨hp, h'⟩ := bif_some h; replace h := h'; clear h'
    obtain ⟨k, hk, h'⟩ := bind_some h; replace h := h'; clear h'
    obtain ⟨r', hr, h'⟩ := bind_some h; replace h := h'; clear h'
    have hy : y = .const .nilIface := by
      unfold isNilI at hi; split at hi
      · rfl
      · cases hi
    subst hy
    obtain ⟨ms, hE⟩ : ∃ E, tb.un t = some (.interface E) := by
      unfold isIfc at hp; split at hp
      · exact ⟨_, by assumption⟩
      · cases hp
    rw [AVal.asP_eq hk] at hx
    cases h; exact sok_errNil hg ho (htb.un' hE) hx hr
  | false =>
  rw [hi, cond_false] at h
  obtain ⟨vy, hy, h'⟩ := bind_some h; replace h := h'; clear h'
  have hy := opd_ok hy
  split at h
  · cases hs : isShift op with
    | true =>
      rw [hs, cond_true] at h
      obtain ⟨⟨k', n⟩, hv, h1⟩ := bind_some h
      rw [AVal.int?_eq hv] at hy
      exact binK_ok hg ho hx hy h1 e
    | false =>
      rw [hs, cond_false] at h
      obtain ⟨n, hv, h1⟩ := bind_some h
      rw [AVal.asP_eq hv] at hy
      exact binI_ok hg ho hx hy h1 e
  · obtain ⟨n, hv, h'⟩ := bind_some h; replace h := h'; clear h'
    rw [AVal.asP_eq hv] at hy
    exact binS_ok hg ho hx hy h e
  · obtain ⟨n, hv, h'⟩ := bind_some h; replace h := h'; clear h'
    rw [AVal.asP_eq hv] at hy
    obtain ⟨hb, h'⟩ := bif_some h; replace h := h'; clear h'
    have hE : tb.un t = some .bool := by
      unfold isBoolD at hb; split at hb
      · assumption
      · cases hb
    split at h
    · cases h; exact sok_eqB hg ho (htb.un' hE) hx hy
    · cases h; exact sok_neB hg ho (htb.un' hE) hx hy
    · cases h
  · cases h
theorem stUn_ok {op : UnOp} {t : TypeId} {x : Operand} {r : VR U} (hg : o.guard = none) (ho : o.op = .unOp op t x) (h : stUn rs op x = some r) : SOk U O P ops o { rs := rs, ws := r.v } := by
  unfold stUn at h
  obtain ⟨vx, hx, h'⟩ := bind_some h; replace h := h'; clear h'
  have hx := opd_ok hx
  split at h
  · cases h; exact sok_not hg ho hx
  · cases h; exact sok_neg hg ho hx
  · cases h; exact sok_compl hg ho hx
  · cases h
end
end Go.AM
