/- A part of my own abstract layer. -/
import Derived.Test.YtcijochjfncefaaGreatDoorK44Am2
import Derived.Laws.Pointers
import Derived.Maps.RangeRun
import Derived.Maps.Own
import Derived.Maps.Views
import Derived.Sort.KeysCollected
import Derived.Sort.Grow
import Derived.Sort.EncStr
import Derived.Lib.SlicesCompact
import Derived.Scope
namespace Go.AM
set_option linter.unusedVariables false

abbrev KV (α : Type) := List (List UInt8 × α)
section
variable {α : Type}
def mget (k : List UInt8) : KV α → Option α
  | [] => none
  | y :: r => if y.1 = k then some y.2 else mget k r
def mput (k : List UInt8) (v : α) : KV α → KV α
  | [] => [(k, v)]
  | y :: r => if y.1 = k then (k, v) :: r else if Op.bytesLess k y.1 then (k, v) :: y :: r else y :: mput k v r
def mdel (k : List UInt8) (m : KV α) : KV α := m.filter fun y => !(y.1 == k)
def Rising (m : KV α) : Prop := m.Pairwise fun x y => Op.bytesLess x.1 y.1 = true

theorem bytesLess_eq : ∀ (x y : List UInt8), Op.bytesLess x y = decide (x < y)
  | [], [] => by simp [Op.bytesLess]
  | _ :: _, [] => by simp [Op.bytesLess]
  | [], _ :: _ => by simp [Op.bytesLess]
  | a :: x, b :: y => by
    rw [Op.bytesLess, bytesLess_eq x y]
    simp only [List.cons_lt_cons_iff]
    by_cases h1 : a < b <;> by_cases h2 : a = b <;> by_cases h3 : x < y <;> simp [h1, h2, h3]
theorem less_irrefl (a : List UInt8) : Op.bytesLess a a = false := by rw [bytesLess_eq]; simp
theorem less_trans {a b c : List UInt8} (h1 : Op.bytesLess a b = true) (h2 : Op.bytesLess b c = true) : Op.bytesLess a c = true := by
  rw [bytesLess_eq, decide_eq_true_eq] at *; exact List.lt_trans h1 h2
theorem less_total : ∀ {a b : List UInt8}, a ≠ b → Op.bytesLess a b = true ∨ Op.bytesLess b a = true
  | [], [], h => absurd rfl h
  | [], _ :: _, _ => .inl rfl
  | _ :: _, [], _ => .inr rfl
  | a :: x, b :: y, h => by
    simp only [Op.bytesLess, Bool.or_eq_true, decide_eq_true_eq, Bool.and_eq_true, beq_iff_eq]
    by_cases h1 : a = b
    · subst h1
      rcases less_total (a := x) (b := y) (fun e => h (by rw [e])) with h2 | h2
      · exact .inl (.inr ⟨rfl, h2⟩)
      · exact .inr (.inr ⟨rfl, h2⟩)
    · have h2 : a.toNat ≠ b.toNat := fun e => h1 (UInt8.toNat_inj.1 e)
      rcases Nat.lt_or_gt_of_ne h2 with h3 | h3
      · exact .inl (.inl (UInt8.lt_iff_toNat_lt.2 h3))
      · exact .inr (.inl (UInt8.lt_iff_toNat_lt.2 h3))
theorem less_ne {a b : List UInt8} (h : Op.bytesLess a b = true) : a ≠ b := by rintro rfl; rw [less_irrefl] at h; cases h

theorem Rising.apart {m : KV α} (h : Rising m) : m.Pairwise fun x y => x.1 ≠ y.1 := h.imp fun h => less_ne h
theorem Rising.del {m : KV α} (h : Rising m) (k : List UInt8) : Rising (mdel k m) := h.filter _
theorem mput_mem {k : List UInt8} {v : α} : ∀ {m : KV α} {x : List UInt8 × α}, x ∈ mput k v m → x = (k, v) ∨ x ∈ m
  | [], x, h => by simp [mput] at h; exact .inl h
  | y :: r, x, h => by
    unfold mput at h
    split at h
    · rcases List.mem_cons.1 h with h | h
      · exact .inl h
      · exact .inr (List.mem_cons_of_mem _ h)
    split at h
    · rcases List.mem_cons.1 h with h | h
      · exact .inl h
      · exact .inr h
    · rcases List.mem_cons.1 h with h | h
      · exact .inr (h ▸ List.mem_cons_self)
      · rcases mput_mem h with h | h
        · exact .inl h
        · exact .inr (List.mem_cons_of_mem _ h)
theorem Rising.put {k : List UInt8} {v : α} : ∀ {m : KV α}, Rising m → Rising (mput k v m)
  | [], _ => List.pairwise_singleton _ _
  | y :: r, h => by
    obtain ⟨h1, h2⟩ := List.pairwise_cons.1 h
    unfold mput
    split
    · rename_i e
      exact List.pairwise_cons.2 ⟨fun x hx => e ▸ h1 x hx, h2⟩
    split
    · rename_i hl
      refine List.pairwise_cons.2 ⟨fun x hx => ?_, h⟩
      rcases List.mem_cons.1 hx with rfl | hx
      · exact hl
      · exact less_trans hl (h1 x hx)
    · rename_i hne hl
      refine List.pairwise_cons.2 ⟨fun x hx => ?_, Rising.put h2⟩
      rcases mput_mem hx with rfl | hx
      · rcases less_total hne with h | h
        · exact h
        · exact absurd h hl
      · exact h1 x hx
theorem mdel_eq {k : List UInt8} : ∀ {m : KV α}, (∀ y ∈ m, y.1 ≠ k) → mdel k m = m
  | [], _ => rfl
  | y :: r, h => by
    have := mdel_eq (m := r) fun y hy => h y (List.mem_cons_of_mem _ hy)
    unfold mdel at this ⊢
    rw [List.filter_cons, if_pos (by simpa using h y List.mem_cons_self), this]
theorem mput_perm {k : List UInt8} {v : α} : ∀ {m : KV α}, Rising m → (mput k v m).Perm ((k, v) :: mdel k m)
  | [], _ => .refl _
  | y :: r, h => by
    obtain ⟨h1, h2⟩ := List.pairwise_cons.1 h
    unfold mput
    split
    · rename_i e
      have : mdel k (y :: r) = r := by
        unfold mdel
        rw [List.filter_cons, if_neg (by simp [e])]
        exact mdel_eq fun x hx => by rw [← e]; exact (less_ne (h1 x hx)).symm
      rw [this]
    split
    · rename_i hl
      have : mdel k (y :: r) = y :: r := mdel_eq fun x hx => by
        rcases List.mem_cons.1 hx with rfl | hx
        · exact (less_ne hl).symm
        · exact (less_ne (less_trans hl (h1 x hx))).symm
      rw [this]
    · rename_i hne hl
      have : mdel k (y :: r) = y :: mdel k r := by unfold mdel; rw [List.filter_cons, if_pos (by simpa using hne)]
      rw [this]
      exact ((mput_perm h2).cons y).trans (.swap _ _ _)
theorem mget_none {k : List UInt8} : ∀ {m : KV α}, mget k m = none ↔ ∀ y ∈ m, y.1 ≠ k
  | [] => by simp [mget]
  | y :: r => by
    unfold mget
    split
    · rename_i e; simp [e]
    · rename_i e; simp [mget_none (m := r), e]
theorem mget_mem {k : List UInt8} {v : α} : ∀ {m : KV α}, mget k m = some v → (k, v) ∈ m
  | [], h => by cases h
  | y :: r, h => by
    unfold mget at h
    split at h
    · rename_i e; cases h; rw [← e]; exact List.mem_cons_self
    · exact List.mem_cons_of_mem _ (mget_mem h)
theorem mget_of {k : List UInt8} {v : α} : ∀ {m : KV α}, m.Pairwise (fun x y => x.1 ≠ y.1) → (k, v) ∈ m → mget k m = some v
  | [], _, h => by cases h
  | y :: r, h, hm => by
    obtain ⟨h1, h2⟩ := List.pairwise_cons.1 h
    unfold mget
    rcases List.mem_cons.1 hm with rfl | hm
    · rw [if_pos rfl]
    · rw [if_neg (h1 _ hm), mget_of h2 hm]
theorem mget_perm {k : List UInt8} {m m' : KV α} (h : m.Perm m') (ha : m'.Pairwise fun x y => x.1 ≠ y.1) : mget k m = mget k m' := by
  cases e : mget k m with
  | none =>
    exact (mget_none.2 fun y hy => mget_none.1 e y (h.symm.subset hy)).symm
  | some v => exact (mget_of ha (h.subset (mget_mem e))).symm
end

section
variable {U : Univ} {O : Out} {P : Program} {S : Nat → Prop} {ι : Lay} {w : World} {rs : List (Nat × AVal U)} {a : Act} {ops : Array Oper} {o : Oper} {t : Ty}

theorem bytes_ext {a b : ByteArray} (h : a.data.toList = b.data.toList) : a = b := by
  obtain ⟨⟨x⟩⟩ := a
  obtain ⟨⟨y⟩⟩ := b
  simp at h; rw [h]
theorem EntsR.app {es' : List MapEntry} : ∀ {es : List MapEntry} {ys : KV (t.den U.T)}, EntsR U O S w t (es ++ es') ys ↔ ∃ y1 y2, ys = y1 ++ y2 ∧ EntsR U O S w t es y1 ∧ EntsR U O S w t es' y2
  | [], ys => by
    constructor
    · intro h; exact ⟨[], ys, rfl, rfl, h⟩
    · rintro ⟨y1, y2, rfl, h1, h2⟩
      have h1 : y1 = [] := h1
      subst h1; exact h2
  | e :: es, ys => by
    constructor
    · rintro ⟨y, r, rfl, h1, h2, h3⟩
      obtain ⟨y1, y2, rfl, h4, h5⟩ := EntsR.app.1 h3
      exact ⟨y :: y1, y2, rfl, ⟨y, y1, rfl, h1, h2, h4⟩, h5⟩
    · rintro ⟨y1, y2, rfl, ⟨y, r, rfl, h1, h2, h3⟩, h5⟩
      exact ⟨y, r ++ y2, rfl, h1, h2, EntsR.app.2 ⟨r, y2, rfl, h3, h5⟩⟩
theorem EntsR.len : ∀ {es : List MapEntry} {ys : KV (t.den U.T)}, EntsR U O S w t es ys → es.length = ys.length
  | [], _, h => by have h : _ = _ := h; rw [h]; rfl
  | _ :: _, _, ⟨y, r, h1, _, _, h5⟩ => by rw [h1]; simp [EntsR.len h5]
theorem EntsR.isKey : ∀ {es : List MapEntry} {ys : KV (t.den U.T)}, EntsR U O S w t es ys → ∀ x ∈ es, MapKept.IsKey .string x.key
  | [], _, _, x, hx => by cases hx
  | e :: es, _, ⟨y, r, h1, ⟨s, h2, _⟩, _, h5⟩, x, hx => by
    rcases List.mem_cons.1 hx with rfl | hx
    · rw [h2]; trivial
    · exact EntsR.isKey h5 x hx
theorem EntsR.mem : ∀ {es : List MapEntry} {ys : KV (t.den U.T)}, EntsR U O S w t es ys → ∀ y ∈ ys, ∃ x ∈ es, ∃ s : ByteArray, x.key = .string s ∧ s.data.toList = y.1
  | [], _, h, y, hy => by have h : _ = _ := h; rw [h] at hy; cases hy
  | e :: es, _, ⟨y, r, h1, h2, _, h5⟩, z, hz => by
    subst h1
    rcases List.mem_cons.1 hz with rfl | hz
    · exact ⟨e, List.mem_cons_self, h2⟩
    · obtain ⟨x, h6, h7⟩ := EntsR.mem h5 z hz
      exact ⟨x, List.mem_cons_of_mem _ h6, h7⟩
theorem EntsR.apart : ∀ {es : List MapEntry} {ys : KV (t.den U.T)}, EntsR U O S w t es ys → (es.map (·.key)).Nodup → ys.Pairwise fun x y => x.1 ≠ y.1
  | [], _, h, _ => by have h : _ = _ := h; rw [h]; exact .nil
  | e :: es, _, ⟨y, r, h1, ⟨s, h2, h3⟩, _, h5⟩, hn => by
    subst h1
    rw [List.map_cons, List.nodup_cons] at hn
    refine List.pairwise_cons.2 ⟨fun z hz he => ?_, EntsR.apart h5 hn.2⟩
    obtain ⟨x, h6, s', h7, h8⟩ := EntsR.mem h5 z hz
    refine hn.1 (List.mem_map.2 ⟨x, h6, ?_⟩)
    rw [h7, h2, bytes_ext (h8.trans (he.symm.trans h3.symm))]

theorem EntsR.find {s : ByteArray} {es : List MapEntry} {ys : KV (t.den U.T)} (h : EntsR U O S w t es ys) (hn : (es.map (·.key)).Nodup) :
    (Instr.findNow .string (.string s) es 0 = some none ∧ (∀ x ∈ es, x.key ≠ .string s) ∧ mget s.data.toList ys = none ∧ mdel s.data.toList ys = ys) ∨
    ∃ pre e post y1 y y2, es = pre ++ e :: post ∧ ys = y1 ++ (s.data.toList, y) :: y2 ∧ Instr.findNow .string (.string s) es 0 = some (some (pre.length, e.val)) ∧ e.key = .string s ∧
      EntsR U O S w t pre y1 ∧ EntsR U O S w t post y2 ∧ (∃ cs, Rd U O S w t y cs ∧ e.val = mkV t.isAgg cs) ∧ mget s.data.toList ys = some y ∧ mdel s.data.toList ys = y1 ++ y2 := by
  have ha := h.apart hn
  rcases MapKept.findNow_spec (d := .string) (k := .string s) trivial es 0 h.isKey with ⟨h1, h2⟩ | ⟨j, e, h1, h2, h3⟩
  · left
    have hk : ∀ y ∈ ys, y.1 ≠ s.data.toList := fun y hy e => by
      obtain ⟨x, h4, s', h5, h6⟩ := h.mem y hy
      exact h2 x h4 (by rw [h5, bytes_ext (h6.trans e)])
    exact ⟨h1, h2, mget_none.2 hk, mdel_eq hk⟩
  · right
    obtain ⟨hj, hj2⟩ := List.getElem?_eq_some_iff.1 h2
    have hes : es = es.take j ++ e :: es.drop (j + 1) := by rw [← hj2, List.getElem_cons_drop, List.take_append_drop]
    have hpl : (es.take j).length = j := by simp; omega
    rw [hes] at h
    obtain ⟨y1, y2', rfl, h4, y, y2, rfl, ⟨s', h5, h6⟩, h7, h8⟩ := EntsR.app.1 h
    rw [h3] at h5
    injection h5 with h5
    subst h5
    obtain ⟨k, y⟩ := y
    simp only at h6
    subst h6
    refine ⟨es.take j, e, es.drop (j + 1), y1, y, y2, hes, rfl, by rw [h1, hpl]; simp, h3, h4, h8, h7, mget_of ha (by simp), ?_⟩
    obtain ⟨_, p2, p3⟩ := List.pairwise_append.1 ha
    obtain ⟨p4, _⟩ := List.pairwise_cons.1 p2
    have q1 : mdel s.data.toList y1 = y1 := mdel_eq fun x hx => p3 x hx _ List.mem_cons_self
    have q2 : mdel s.data.toList y2 = y2 := mdel_eq fun x hx => (p4 x hx).symm
    unfold mdel at q1 q2 ⊢
    rw [List.filter_append, List.filter_cons, if_neg (by simp), q1, q2]

theorem erase_mid (e : MapEntry) (post : List MapEntry) : ∀ pre : List MapEntry, (pre ++ e :: post).eraseIdx pre.length = pre ++ post
  | [] => rfl
  | x :: pre => by simp [erase_mid e post pre]
theorem modify_mid (f : MapEntry → MapEntry) (e : MapEntry) (post : List MapEntry) : ∀ pre : List MapEntry, (pre ++ e :: post).modify pre.length f = pre ++ f e :: post
  | [] => rfl
  | x :: pre => by simp [modify_mid f e post pre]

theorem Nx.setObj {s : LSpec U} {n b c : Nat} {B B' : Blk U} {o1 o2 : Obj} (hcb : s.cb = [(n, B)]) (hpb : s.pb = [(n, B')]) (hn : ι n = some (b, c)) (hout : ¬ S b)
    (hlt : ∀ b, S b → b < w.heap.size) (hg : w.heap[b]? = some o1) (hB : BR U O S ι { w with heap := w.heap.setIfInBounds b o2 } n B') : Nx U O s S ι w S ι { w with heap := w.heap.setIfInBounds b o2 } := by
  have hb : b < w.heap.size := (Array.getElem?_eq_some_iff.1 hg).1
  refine ⟨rfl, rfl, rfl, by simp, fun _ h => h, fun _ h => .inl h, fun b h => by simpa using hlt b h, fun k hk hnot => ?_, fun _ _ => rfl, fun x hx => ?_, fun m hm k c' hk => ?_, fun m hm k hk hne => ?_⟩
  · exact (MapKept.heap_set hg).2 k fun e' => hnot n (by rw [hcb]; simp) c (by rw [e']; exact hn)
  · rw [hpb] at hx
    simp at hx; subst hx
    exact hB
  · rw [hpb] at hm
    simp at hm; subst hm
    rw [hn] at hk
    obtain ⟨rfl, rfl⟩ : b = k ∧ c = c' := by simpa using hk
    exact ⟨hout, by simpa using hb, .inr ⟨_, by rw [hcb]; simp, c, hn⟩⟩
  · rw [hpb] at hm hk
    simp at hm hk
    exact absurd (hm.trans hk.symm) hne

theorem exec_makeMap {ρ : Operand → Value} {T : TypeId} {x : Option Operand} (ho : o.op = .makeMap T x) : execOp ρ o = vOf (Instr.makeMap T (x.map ρ)) := by unfold execOp; rw [ho]; rfl
theorem exec_mapUpdate {ρ : Operand → Value} {T : TypeId} {m x y : Operand} (ho : o.op = .mapUpdate T m x y) : execOp ρ o = (do Instr.mapUpdate T (ρ m) (ρ x) (ρ y); pure .skip) := by unfold execOp; rw [ho]
theorem exec_lookup {ρ : Operand → Value} {T : TypeId} {m x : Operand} {c : Bool} (ho : o.op = .lookup T m x c) : execOp ρ o = vOf (Instr.lookup T (ρ m) (ρ x) c) := by unfold execOp; rw [ho]; rfl

theorem sok_makeMap {T : TypeId} {d : Nat} (hg : o.guard = none) (_ : o.dst = some d) (ho : o.op = .makeMap T none) : SOk U O P ops o { rs := rs, ws := .mp d, pb := [(d, .map t [])], nn := [d] } := by
  intro S ι w a hlt hgl hrs hro hcb hown K Q hK
  refine opWp_plain hg ?_
  unfold Oper.wp
  rw [exec_makeMap ho]
  have hr : (Instr.makeMap T none).run P w = .ok (.map (some w.heap.size)) (w.alloc (.map #[] 0)) := by
    simp only [Instr.makeMap, newObj, Sem.run_bind, Sem.run, Result.andThen_ok, Sem.run_pure]
    rfl
  rw [show (Option.map a.eval none : Option Value) = none from rfl, run_vOf hr]
  refine hK _ S _ _ (Nx.alloc (s := { rs := rs, ws := .mp d, pb := [(d, .map t [])], nn := [d] }) (.map #[] 0) rfl rfl rfl hlt 0 ?_) ⟨w.heap.size, 0, by simp, rfl⟩
  exact ⟨w.heap.size, 0, #[], 0, [], by simp, heap_alloc_new w _, MapKept.stamped_empty 0, rfl, .refl _, .nil⟩

structure MapOk (P : Program) (T K E : TypeId) : Prop where
  ty : P.underlying T = some (.map K E)
  key : P.underlying K = some .string

theorem sok_lookup {T K E : TypeId} {m x : Operand} {n : Nat} {kvs : KV (t.den U.T)} {k : List UInt8} {z : t.den U.T} (hg : o.guard = none) (ho : o.op = .lookup T m x false) (hT : MapOk P T K E) (hz : ZeroOk P U E t z)
    (hm : Opd U rs m (.mp n)) (hx : Opd U rs x (.p .str k)) : SOk U O P ops o { rs := rs, ro := [(n, .map t kvs)], ws := .p t ((mget k kvs).getD z) } :=
  sok_v hg _ (fun _ => exec_lookup ho) fun S ι w a hrs hro => by
    obtain ⟨b, c, es, clock, ys, h1, h2, h3, h4, h5, h6⟩ := hro _ List.mem_cons_self
    obtain ⟨b', c', h7, h8⟩ := hm.ev hrs
    rw [h1] at h7
    obtain ⟨rfl, rfl⟩ : b = b' ∧ c = c' := by simpa using h7
    obtain ⟨cs, hk, hk2⟩ := hx.ev hrs
    cases hk with | str s =>
    have hk2 : a.eval x = .string s := hk2
    obtain ⟨i, v, hi, hv, hall⟩ := hz.h
    obtain ⟨cs, hr, rfl⟩ := hall O S w
    have hzr : (zeroValue E).run P w = .ok (mkV t.isAgg cs) w := by simp only [zeroValue, typeInfo, hi, hv, program, Sem.run_bind, Sem.run, Result.andThen_ok, Sem.run_pure]
    rw [h8, hk2, ← mget_perm h5 (Rising.apart h6)]
    rcases EntsR.find (s := s) h4 h3.2.2 with ⟨f1, f2, f3, _⟩ | ⟨pre, e, post, y1, y, y2, f1, f2, f3, f4, f5, f6, ⟨cs, f7, f8⟩, f9, f10⟩
    · refine ⟨mkV t.isAgg cs, ?_, cs, by rw [f3]; exact hr, rfl⟩
      simp [Instr.lookup, run_underlying hT.ty, MapKept.run_getObj_map h2, MapKept.run_checkKey hT.key (show MapKept.IsKey .string (.string s) from trivial), MapKept.run_findKey hT.key f1, hzr, Result.andThen]
    · refine ⟨e.val, ?_, cs, by rw [f9]; exact f7, f8⟩
      simp [Instr.lookup, run_underlying hT.ty, MapKept.run_getObj_map h2, MapKept.run_checkKey hT.key (show MapKept.IsKey .string (.string s) from trivial), MapKept.run_findKey hT.key f3, Result.andThen]
theorem sok_lookup2 {T K E : TypeId} {m x : Operand} {n : Nat} {kvs : KV (t.den U.T)} {k : List UInt8} {z : t.den U.T} (hg : o.guard = none) (ho : o.op = .lookup T m x true) (hT : MapOk P T K E) (hz : ZeroOk P U E t z)
    (hm : Opd U rs m (.mp n)) (hx : Opd U rs x (.p .str k)) : SOk U O P ops o { rs := rs, ro := [(n, .map t kvs)], ws := .tup [.p t ((mget k kvs).getD z), .p .bool (mget k kvs).isSome] } :=
  sok_v hg _ (fun _ => exec_lookup ho) fun S ι w a hrs hro => by
    obtain ⟨b, c, es, clock, ys, h1, h2, h3, h4, h5, h6⟩ := hro _ List.mem_cons_self
    obtain ⟨b', c', h7, h8⟩ := hm.ev hrs
    rw [h1] at h7
    obtain ⟨rfl, rfl⟩ : b = b' ∧ c = c' := by simpa using h7
    obtain ⟨cs, hk, hk2⟩ := hx.ev hrs
    cases hk with | str s =>
    have hk2 : a.eval x = .string s := hk2
    obtain ⟨i, v, hi, hv, hall⟩ := hz.h
    obtain ⟨cs, hr, rfl⟩ := hall O S w
    have hzr : (zeroValue E).run P w = .ok (mkV t.isAgg cs) w := by simp only [zeroValue, typeInfo, hi, hv, program, Sem.run_bind, Sem.run, Result.andThen_ok, Sem.run_pure]
    rw [h8, hk2, ← mget_perm h5 (Rising.apart h6)]
    rcases EntsR.find (s := s) h4 h3.2.2 with ⟨f1, f2, f3, _⟩ | ⟨pre, e, post, y1, y, y2, f1, f2, f3, f4, f5, f6, ⟨cs, f7, f8⟩, f9, f10⟩
    · refine ⟨.tuple #[mkV t.isAgg cs, .bool false], ?_, [mkV t.isAgg cs, .bool false], ⟨_, _, rfl, ⟨cs, by rw [f3]; exact hr, rfl⟩, _, _, rfl, ⟨[.bool false], by rw [f3]; exact .bool false, rfl⟩, rfl⟩, rfl⟩
      simp [Instr.lookup, run_underlying hT.ty, MapKept.run_getObj_map h2, MapKept.run_checkKey hT.key (show MapKept.IsKey .string (.string s) from trivial), MapKept.run_findKey hT.key f1, hzr, Result.andThen]
    · refine ⟨.tuple #[e.val, .bool true], ?_, [e.val, .bool true], ⟨_, _, rfl, ⟨cs, by rw [f9]; exact f7, f8⟩, _, _, rfl, ⟨[.bool true], by rw [f9]; exact .bool true, rfl⟩, rfl⟩, rfl⟩
      simp [Instr.lookup, run_underlying hT.ty, MapKept.run_getObj_map h2, MapKept.run_checkKey hT.key (show MapKept.IsKey .string (.string s) from trivial), MapKept.run_findKey hT.key f3, Result.andThen]

theorem run_mapPut {T K E : TypeId} {b : Nat} {es : Array MapEntry} {clock : Nat} {ys kvs : KV (t.den U.T)} {s : ByteArray} {u : Value} {cs : List Value} {v : t.den U.T} (hT : MapOk P T K E) (h2 : w.heap[b]? = some (.map es clock))
    (h3 : MapKept.Stamped es clock) (h4 : EntsR U O S w t es.toList ys) (h5 : ys.Perm kvs) (h6 : Rising kvs) (hr : Rd U O S w t v cs) (hv : u = mkV t.isAgg cs) :
    ∃ es' clock' ys', (Instr.mapUpdate T (.map (some b)) (.string s) u).run P w = .ok () { w with heap := w.heap.setIfInBounds b (.map es' clock') } ∧ MapKept.Stamped es' clock' ∧ EntsR U O S w t es'.toList ys' ∧
      ys'.Perm (mput s.data.toList v kvs) := by
  have hky : MapKept.IsKey .string (.string s) := trivial
  have p0 : ((s.data.toList, v) :: mdel s.data.toList ys).Perm (mput s.data.toList v kvs) := ((h5.filter _).cons _).trans (mput_perm h6).symm
  rcases EntsR.find (s := s) h4 h3.2.2 with ⟨f1, f2, f3, f4⟩ | ⟨pre, e, post, y1, y, y2, f1, f2, f3, f4, f5, f6, _, f9, f10⟩
  · refine ⟨es.push ⟨.string s, u, clock⟩, clock + 1, ys ++ [(s.data.toList, v)], ?_, MapKept.stamped_push h3 f2, ?_, ?_⟩
    · simp [Instr.mapUpdate, run_underlying hT.ty, MapKept.run_getObj_map h2, MapKept.run_checkKey hT.key hky, MapKept.run_findKey hT.key f1, MapKept.run_setObj_map _ h2, Result.andThen]
    · rw [Array.toList_push]
      exact EntsR.app.2 ⟨ys, _, rfl, h4, _, [], rfl, ⟨s, rfl, rfl⟩, ⟨cs, hr, hv⟩, rfl⟩
    · rw [f4] at p0
      exact (List.perm_append_singleton _ _).trans p0
  · have hj : es[pre.length]? = some e := by rw [← Array.getElem?_toList, f1]; simp
    refine ⟨es.modify pre.length (fun e' => { e' with key := .string s, val := u }), clock, y1 ++ (s.data.toList, v) :: y2, ?_, ?_, ?_, ?_⟩
    · simp [Instr.mapUpdate, run_underlying hT.ty, MapKept.run_getObj_map h2, MapKept.run_checkKey hT.key hky, MapKept.run_findKey hT.key f3, hj, f4, MapKept.run_keyThatStays hky, MapKept.run_setObj_map _ h2, Result.andThen]
    · exact MapKept.stamped_modify h3 _ _ (fun _ _ => rfl) (fun e' _ he => by rw [hj] at he; cases he; exact f4.symm)
    · rw [Array.toList_modify, f1, modify_mid]
      exact EntsR.app.2 ⟨y1, _, rfl, f5, _, y2, rfl, ⟨s, rfl, rfl⟩, ⟨cs, hr, hv⟩, f6⟩
    · rw [f10] at p0
      exact List.perm_middle.trans p0
theorem run_mapDel {T K E ty : TypeId} {b : Nat} {es : Array MapEntry} {clock : Nat} {ys kvs : KV (t.den U.T)} {s : ByteArray} (hT : MapOk P T K E) (h2 : w.heap[b]? = some (.map es clock))
    (h3 : MapKept.Stamped es clock) (h4 : EntsR U O S w t es.toList ys) (h5 : ys.Perm kvs) :
    ∃ es' ys', (Builtin.delete_ #[T, K] ty #[.map (some b), .string s]).run P w = .ok (.tuple #[]) { w with heap := w.heap.setIfInBounds b (.map es' clock) } ∧ MapKept.Stamped es' clock ∧ EntsR U O S w t es'.toList ys' ∧
      ys'.Perm (mdel s.data.toList kvs) := by
  have hky : MapKept.IsKey .string (.string s) := trivial
  have p0 : (mdel s.data.toList ys).Perm (mdel s.data.toList kvs) := h5.filter _
  rcases EntsR.find (s := s) h4 h3.2.2 with ⟨f1, f2, f3, f4⟩ | ⟨pre, e, post, y1, y, y2, f1, f2, f3, f4, f5, f6, _, f9, f10⟩
  · refine ⟨es, ys, ?_, h3, h4, by rw [f4] at p0; exact p0⟩
    simp [Builtin.delete_, run_underlying hT.ty, MapKept.run_getObj_map h2, MapKept.run_checkKey hT.key hky, MapKept.run_findKey hT.key f1, MapKept.run_setObj_map _ h2, Result.andThen]
  · refine ⟨es.eraseIdxIfInBounds pre.length, y1 ++ y2, ?_, MapKept.stamped_erase h3 _, ?_, by rw [f10] at p0; exact p0⟩
    · simp [Builtin.delete_, run_underlying hT.ty, MapKept.run_getObj_map h2, MapKept.run_checkKey hT.key hky, MapKept.run_findKey hT.key f3, MapKept.run_setObj_map _ h2, Result.andThen]
    · have hlt : pre.length < es.size := by rw [← Array.length_toList, f1]; simp
      have : (es.eraseIdxIfInBounds pre.length).toList = pre ++ post := by
        unfold Array.eraseIdxIfInBounds
        rw [dif_pos hlt]
        simp [f1, erase_mid]
      rw [this]
      exact EntsR.app.2 ⟨y1, y2, rfl, f5, f6⟩

theorem sok_mapUpdate {T K E : TypeId} {m x y : Operand} {n : Nat} {kvs : KV (t.den U.T)} {k : List UInt8} {v : t.den U.T} (hg : o.guard = none) (_ : o.dst = none) (ho : o.op = .mapUpdate T m x y) (hT : MapOk P T K E)
    (hm : Opd U rs m (.mp n)) (hx : Opd U rs x (.p .str k)) (hy : Opd U rs y (.p t v)) : SOk U O P ops o { rs := rs, cb := [(n, .map t kvs)], pb := [(n, .map t (mput k v kvs))] } := by
  intro S ι w a hlt hgl hrs hro hcb hown K' Q hK
  obtain ⟨b, c, es, clock, ys, h1, h2, h3, h4, h5, h6⟩ := hcb _ List.mem_cons_self
  obtain ⟨b', c', h7, h8⟩ := hm.ev hrs
  rw [h1] at h7
  obtain ⟨rfl, rfl⟩ : b = b' ∧ c = c' := by simpa using h7
  obtain ⟨cs, hk, hk2⟩ := hx.ev hrs
  cases hk with | str s =>
  have hk2 : a.eval x = .string s := hk2
  obtain ⟨cs, hr, hv⟩ := hy.ev hrs
  have hout := (hown.out n (by simp) b c h1).1
  obtain ⟨es', clock', ys', g1, g2, g3, g4⟩ := run_mapPut (s := s) hT h2 h3 h4 h5 h6 hr hv
  refine opWp_plain hg ?_
  unfold Oper.wp
  rw [exec_mapUpdate ho, h8, hk2]
  simp only [Sem.run_bind, g1, Result.andThen_ok, Sem.run_pure, Oper.upon]
  refine hK undef S ι _ (Nx.setObj (n := n) (b := b) (c := c) (o1 := .map es clock) rfl rfl h1 hout hlt h2 ?_) trivial
  exact ⟨b, c, es', clock', ys', h1, (MapKept.heap_set h2).1, g2, g3.mono (fun k hk => (MapKept.heap_set h2).2 k fun e => hout (e ▸ hk)) (fun _ h => h), g4, Rising.put h6⟩

theorem sok_delete {T K E : TypeId} {m x : Operand} {n : Nat} {kvs : KV (t.den U.T)} {k : List UInt8} (hg : o.guard = none) (ho : o.op = .call { callee := .builtin .delete, args := #[m, x], argTypes := #[T, K] }) (hT : MapOk P T K E)
    (hm : Opd U rs m (.mp n)) (hx : Opd U rs x (.p .str k)) : SOk U O P ops o { rs := rs, ws := .tup [], cb := [(n, .map t kvs)], pb := [(n, .map t (mdel k kvs))] } := by
  intro S ι w a hlt hgl hrs hro hcb hown K' Q hK
  obtain ⟨b, c, es, clock, ys, h1, h2, h3, h4, h5, h6⟩ := hcb _ List.mem_cons_self
  obtain ⟨b', c', h7, h8⟩ := hm.ev hrs
  rw [h1] at h7
  obtain ⟨rfl, rfl⟩ : b = b' ∧ c = c' := by simpa using h7
  obtain ⟨cs, hk, hk2⟩ := hx.ev hrs
  cases hk with | str s =>
  have hk2 : a.eval x = .string s := hk2
  have hout := (hown.out n (by simp) b c h1).1
  obtain ⟨es', ys', g1, g2, g3, g4⟩ := run_mapDel (s := s) (ty := o.type) hT h2 h3 h4 h5
  refine opWp_plain hg ?_
  unfold Oper.wp
  have he : execOp a.eval o = vOf (Builtin.delete_ #[T, K] o.type #[a.eval m, a.eval x]) := by rw [exec_builtin ho]; simp [builtin, vOf]
  rw [he, h8, hk2, run_vOf g1]
  refine hK (.tuple #[]) S ι _ (Nx.setObj (n := n) (b := b) (c := c) (o1 := .map es clock) rfl rfl h1 hout hlt h2 ?_) ⟨[], rfl, rfl⟩
  exact ⟨b, c, es', clock, ys', h1, (MapKept.heap_set h2).1, g2, g3.mono (fun k hk => (MapKept.heap_set h2).2 k fun e => hout (e ▸ hk)) (fun _ h => h), g4, Rising.del h6 _⟩

theorem sok_lenM {T K E : TypeId} {x : Operand} {n : Nat} {kvs : KV (t.den U.T)} (hg : o.guard = none) (ho : o.op = .call { callee := .builtin .len, args := #[x], argTypes := #[T] }) (hT : MapOk P T K E)
    (hm : Opd U rs x (.mp n)) : SOk U O P ops o { rs := rs, ro := [(n, .map t kvs)], ws := .p (.int .i64) (kvs.length : Int) } :=
  sok_v hg _ (fun _ => exec_len ho) fun S ι w a hrs hro => by
    obtain ⟨b, c, es, clock, ys, h1, h2, h3, h4, h5, h6⟩ := hro _ List.mem_cons_self
    obtain ⟨b', c', h7, h8⟩ := hm.ev hrs
    rw [h1] at h7
    obtain ⟨rfl, rfl⟩ : b = b' ∧ c = c' := by simpa using h7
    have hl : es.size = kvs.length := by rw [← h5.length_eq, ← h4.len, Array.length_toList]
    refine ⟨.int .i64 (kvs.length : Int), ?_, VV.int_iff.2 rfl⟩
    rw [h8]
    simp [Builtin.len_, run_underlying hT.ty, MapKept.run_getObj_map h2, Result.andThen, goInt, hl]

def PtrV (U : Univ) (v : AVal U) (q : Bool) : Prop := ∀ O S ι w u, VV U O S ι w v u → ∃ p, u = .pointer p ∧ p.isNone = q
theorem ptrV_loc {n off : Nat} : PtrV U (.loc n off) false := fun O S ι w u ⟨b, c, _, h⟩ => ⟨_, h, rfl⟩
theorem ptrV_nil : PtrV U (.lit (.pointer none)) true := fun O S ι w u ⟨h, _⟩ => ⟨_, h, rfl⟩
theorem ptrV_opt {q : Bool} {n : Nat} : PtrV U (.opt q n) (!q) := fun O S ι w u ⟨h1, h2⟩ => by
  cases q
  · exact ⟨_, h2 rfl, rfl⟩
  · obtain ⟨b, c, _, h⟩ := h1 rfl; exact ⟨_, h, rfl⟩
theorem sok_eqPN {t t' E : TypeId} {x : Operand} {v : AVal U} {q : Bool} (hg : o.guard = none) (ho : o.op = .binOp .eql t x (.const (.pointer none)) t') (ht : P.underlying t = some (.pointer E))
    (hx : Opd U rs x v) (hv : PtrV U v q) : SOk U O P ops o { rs := rs, ws := .p .bool q } :=
  sok_v hg _ (fun _ => exec_bin ho) fun S ι w a hrs _ => ⟨.bool q, by
    obtain ⟨p, h1, h2⟩ := hv _ _ _ _ _ (hx.ev hrs)
    have hp : P.underlying t = some (.pointer (P.pointee t)) := by simp [Program.pointee, ht]
    have hc : a.eval (.const (.pointer none)) = .pointer none := rfl
    rw [h1, hc, eqGuard_at_pointer]
    simp only [Sem.run_bind, Sem.run_pure, Result.andThen_ok, run_eql_pointer_nil w t p hp, h2], VV.bool_iff.2 rfl⟩
theorem sok_nePN {t t' E : TypeId} {x : Operand} {v : AVal U} {q : Bool} (hg : o.guard = none) (ho : o.op = .binOp .neq t x (.const (.pointer none)) t') (ht : P.underlying t = some (.pointer E))
    (hx : Opd U rs x v) (hv : PtrV U v q) : SOk U O P ops o { rs := rs, ws := .p .bool (!q) } :=
  sok_v hg _ (fun _ => exec_bin ho) fun S ι w a hrs _ => ⟨.bool (!q), by
    obtain ⟨p, h1, h2⟩ := hv _ _ _ _ _ (hx.ev hrs)
    have hp : P.underlying t = some (.pointer (P.pointee t)) := by simp [Program.pointee, ht]
    have hc : a.eval (.const (.pointer none)) = .pointer none := rfl
    rw [h1, hc, eqGuard_at_pointer]
    simp only [Sem.run_bind, Sem.run_pure, Result.andThen_ok, run_neq_pointer_nil w t p hp, h2], VV.bool_iff.2 rfl⟩

theorem Nx.rowList {s : LSpec U} {w' : World} {E : TypeId} {xs : List (t.den U.T)} {v' : Value} {n : Nat} {news : List Value} (hrow : w'.ownsRow w.heap.size E (t.width U.wd) v' n news) (hb : RowKit.Below w.heap.size w w')
    (hn : n = xs.length) (hcb : s.cb = []) (hpb : s.pb = []) (hlt : ∀ b, S b → b < w.heap.size)
    (hel : ∀ (i : Nat) (h : i < xs.length), ∃ cs, Rd U O S w t xs[i] cs ∧ ∀ j, j < t.width U.wd → news[i * t.width U.wd + j]? = cs[j]?) :
    ∃ S', Nx U O s S ι w S' ι w' ∧ VV U O S' ι w' (.p (.list t) xs) v' := by
  subst hn
  have hl := hrow.lt
  refine ⟨fun b => S b ∨ v'.ownBlock = some b, ⟨hb.os, hb.tape, hb.output, hb.size, fun _ h => .inl h, fun b h => ?_, fun b h => ?_, fun b hb' _ => hb.block b hb', fun _ _ => rfl, by simp [hpb], by simp [hpb], by simp [hpb]⟩, ?_⟩
  · rcases h with h | h
    · exact .inl h
    · exact .inr (.inl (hl b h).1)
  · rcases h with h | h
    · exact Nat.lt_of_lt_of_le (hlt b h) hb.size
    · exact (hl b h).2
  · obtain ⟨hlen, ⟨rfl, h0⟩ | ⟨g, cap, cur, rfl, hg, hh, hcap, hmx, hsz, htk⟩⟩ := hrow
    · have : xs = [] := List.eq_nil_of_length_eq_zero h0
      subst this
      exact ⟨_, .lnil t, rfl⟩
    · refine ⟨_, .list t xs g 0 cap (fun i => if h : i < xs.length then (hel i h).choose else []) (.inr rfl) hcap (fun i h => ?_) (fun i j hi hj => ?_), rfl⟩
      · simp only [h, dif_pos]
        exact (hel i h).choose_spec.1.mono (fun b hS => hb.block b (hlt b hS)) fun _ h => .inl h
      · simp only [hi, dif_pos]
        rw [← (hel i hi).choose_spec.2 j hj, ← htk, List.getElem?_take_of_lt (by
          have : (i + 1) * t.width U.wd ≤ xs.length * t.width U.wd := Nat.mul_le_mul_right _ hi
          rw [Nat.succ_mul] at this; omega)]
        rw [cell_of_row w' g _ cur E (0, 0) hh, Array.getElem?_toList]
        simp
end
end Go.AM

namespace Go.AM
set_option linter.unusedVariables false

section
variable {U : Univ} {O : Out} {P : Program} {ops : Array Oper} {o : Oper}

theorem Conv.optNew {st : St U} (m : Nat) (B : Blk U) (hn : st.names.contains m = false) (hlo : m < K0) : Conv U O st ⟨st.sl, (m, .opt false B) :: st.hp⟩ := by
  intro B' S ι a w hR
  have hn' : m ∉ st.names := by simpa using hn
  have hR' := hR.lay' (ι' := fun k => if k = m then none else ι k) (fun k hk => if_neg fun (e : k = m) => hn' (e ▸ hk)) (fun k hk => if_neg (by omega))
  refine ⟨S, _, { hR' with hp := fun x hx => ?_, own := ⟨fun k hk b c hb => ?_, fun k hk j hj hne b c c' hb => ?_⟩, mine := fun k hk b c hb => ?_ }⟩
  · rcases List.mem_cons.1 hx with rfl | h1
    · exact fun h => by cases h
    · exact hR'.hp x h1
  · rcases List.mem_cons.1 hk with rfl | h1
    · simp at hb
    · exact hR'.own.out k h1 b c hb
  · rcases List.mem_cons.1 hk with rfl | h1
    · simp at hb
    · rcases List.mem_cons.1 hj with rfl | h2
      · simp
      · exact hR'.own.sep k h1 j h2 hne b c c' hb
  · rcases List.mem_cons.1 hk with rfl | h1
    · simp at hb
    · exact hR'.mine k h1 b c hb
theorem Conv.optNil {st : St U} (t m : Nat) (hin : (t, AVal.lit (.pointer none)) ∈ st.sl) : Conv U O st ⟨setA st.sl t (.opt false m), st.hp⟩ := by
  intro B S ι a w hR
  refine ⟨S, ι, { hR with sl := fun x hx => ?_ }⟩
  rcases mem_setA hx with rfl | ⟨h1, _⟩
  · exact ⟨(fun h => by cases h), fun _ => (hR.sl _ hin).1⟩
  · exact hR.sl x h1
theorem Conv.optLoc {st : St U} (t n : Nat) (hin : (t, AVal.loc n 0) ∈ st.sl) : Conv U O st ⟨setA st.sl t (.opt true n), st.hp⟩ := by
  intro B S ι a w hR
  refine ⟨S, ι, { hR with sl := fun x hx => ?_ }⟩
  rcases mem_setA hx with rfl | ⟨h1, _⟩
  · exact ⟨fun _ => hR.sl _ hin, fun h => by cases h⟩
  · exact hR.sl x h1
theorem Conv.optBlk {st : St U} (n : Nat) (B : Blk U) (hin : (n, B) ∈ st.hp) : Conv U O st ⟨st.sl, setA st.hp n (.opt true B)⟩ := by
  intro B' S ι a w hR
  have hm : ∀ k ∈ nm (setA st.hp n (Blk.opt true B)), k ∈ nm st.hp := fun k hk => by
    obtain ⟨x, hx, rfl⟩ := List.mem_map.1 hk
    rcases mem_setA hx with rfl | ⟨h1, _⟩
    · exact List.mem_map.2 ⟨_, hin, rfl⟩
    · exact List.mem_map.2 ⟨_, h1, rfl⟩
  refine ⟨S, ι, { hR with hp := fun x hx => ?_, own := ⟨fun k hk => hR.own.out k (hm k hk), fun k hk j hj => hR.own.sep k (hm k hk) j (hm j hj)⟩, mine := fun k hk => hR.mine k (hm k hk) }⟩
  rcases mem_setA hx with rfl | ⟨h1, _⟩
  · exact fun _ => hR.hp _ hin
  · exact hR.hp x h1

end
end Go.AM

namespace Go.AM
set_option linter.unusedVariables false

section
variable {α : Type}
theorem remOf_push {seen : Array Nat} {b : Nat} : ∀ (es : List MapEntry) (ys : List α), (∀ x ∈ es, x.born ≠ b) → remOf (seen.push b) es ys = remOf seen es ys
  | [], _, _ => by simp [remOf]
  | _ :: _, [], _ => by simp [remOf]
  | e :: es, y :: ys, h => by
    have h1 := h e List.mem_cons_self
    have ih := remOf_push (seen := seen) es ys fun x hx => h x (List.mem_cons_of_mem _ hx)
    simp [remOf, ih, h1]
theorem remOf_pick {seen : Array Nat} : ∀ (es : List MapEntry) (ys : List α), (es.map (·.born)).Nodup → ∀ (j : Nat) (e : MapEntry) (y : α), es[j]? = some e → ys[j]? = some y → seen.contains e.born = false →
    (remOf seen es ys).Perm (y :: remOf (seen.push e.born) es ys)
  | [], _, _, _, _, _, h, _, _ => by simp at h
  | _ :: _, [], _, _, _, _, _, h, _ => by simp at h
  | e0 :: es, y0 :: ys, hn, 0, e, y, h1, h2, h3 => by
    simp at h1 h2
    subst h1 h2
    rw [List.map_cons, List.nodup_cons] at hn
    have := remOf_push (seen := seen) (b := e0.born) es ys fun x hx he => hn.1 (List.mem_map.2 ⟨x, hx, he⟩)
    unfold remOf
    rw [h3]
    simp [this]
  | e0 :: es, y0 :: ys, hn, j + 1, e, y, h1, h2, h3 => by
    simp only [List.getElem?_cons_succ] at h1 h2
    rw [List.map_cons, List.nodup_cons] at hn
    have hne : e0.born ≠ e.born := fun he => hn.1 (List.mem_map.2 ⟨e, List.mem_of_getElem? h1, he.symm⟩)
    have ih := remOf_pick es ys hn.2 j e y h1 h2 h3
    unfold remOf
    cases hc : seen.contains e0.born
    · have : (seen.push e.born).contains e0.born = false := by
        have h5 : ¬ e0.born ∈ seen := by simpa using hc
        simp [h5, hne]
      rw [this]
      simp only [Bool.false_eq_true, if_false]
      exact (ih.cons y0).trans (.swap _ _ _)
    · have : (seen.push e.born).contains e0.born = true := by
        have h5 : e0.born ∈ seen := by simpa using hc
        simp [h5]
      rw [this]
      simpa using ih
theorem remOf_over {seen : Array Nat} : ∀ (es : List MapEntry) (ys : List α), es.length = ys.length → (∀ x ∈ es, seen.contains x.born = true) → remOf seen es ys = []
  | [], [], _, _ => rfl
  | e :: es, y :: ys, hl, h => by
    unfold remOf
    rw [if_pos (h e List.mem_cons_self)]
    exact remOf_over es ys (by simpa using hl) fun x hx => h x (List.mem_cons_of_mem _ hx)
theorem remOf_sub {seen : Array Nat} : ∀ (es : List MapEntry) (ys : List α), (remOf seen es ys).Sublist ys
  | [], ys => by unfold remOf; exact List.nil_sublist _
  | _ :: _, [] => by unfold remOf; exact List.nil_sublist _
  | e :: es, y :: ys => by
    unfold remOf
    split
    · exact (remOf_sub es ys).cons y
    · exact (remOf_sub es ys).cons_cons y
def Apart (m : KV α) : Prop := m.Pairwise fun x y => x.1 ≠ y.1
end

section
variable {U : Univ} {O : Out} {P : Program} {B : Base} {S : Nat → Prop} {ι : Lay} {w : World} {rs : List (Nat × AVal U)} {a : Act} {ops : Array Oper} {o : Oper} {t : Ty}

theorem exec_next {ρ : Operand → Value} {x : Operand} {q : Bool} (ho : o.op = .next x q) : execOp ρ o = vOf (Instr.next (ρ x) q o.type) := by unfold execOp; rw [ho]; rfl
theorem Conv.closeMap {st : St U} {n : Nat} {es : Array MapEntry} {clock : Nat} {ys kvs : KV (t.den U.T)} (hin : (n, Blk.mapE t es clock ys) ∈ st.hp) (hp : ys.Perm kvs) (hr : Rising kvs) : Conv U O st ⟨st.sl, setA st.hp n (.map t kvs)⟩ := by
  intro B' S ι a w hR
  have hm : ∀ k ∈ nm (setA st.hp n (Blk.map t kvs)), k ∈ nm st.hp := fun k hk => by
    obtain ⟨x, hx, rfl⟩ := List.mem_map.1 hk
    rcases mem_setA hx with rfl | ⟨h1, _⟩
    · exact List.mem_map.2 ⟨_, hin, rfl⟩
    · exact List.mem_map.2 ⟨_, h1, rfl⟩
  refine ⟨S, ι, { hR with hp := fun x hx => ?_, own := ⟨fun k hk => hR.own.out k (hm k hk), fun k hk j hj => hR.own.sep k (hm k hk) j (hm j hj)⟩, mine := fun k hk => hR.mine k (hm k hk) }⟩
  rcases mem_setA hx with rfl | ⟨h1, _⟩
  · obtain ⟨b, c, h1, h2, h3, h4⟩ := hR.hp _ hin
    exact ⟨b, c, es, clock, ys, h1, h2, h3, h4, hp, hr⟩
  · exact hR.hp x h1
theorem Conv.iterRest {st : St U} {d m : Nat} {es : Array MapEntry} {clock : Nat} {ys left : KV (t.den U.T)} {cur : Option (List UInt8 × t.den U.T)} (hin : (d, Blk.iter m t es clock ys left cur) ∈ st.hp) :
    Conv U O st ⟨st.sl, setA st.hp d (.iter m t es clock ys left none)⟩ := by
  intro B' S ι a w hR
  have hm : ∀ k ∈ nm (setA st.hp d (Blk.iter m t es clock ys left none)), k ∈ nm st.hp := fun k hk => by
    obtain ⟨x, hx, rfl⟩ := List.mem_map.1 hk
    rcases mem_setA hx with rfl | ⟨h1, _⟩
    · exact List.mem_map.2 ⟨_, hin, rfl⟩
    · exact List.mem_map.2 ⟨_, h1, rfl⟩
  refine ⟨S, ι, { hR with hp := fun x hx => ?_, own := ⟨fun k hk => hR.own.out k (hm k hk), fun k hk j hj => hR.own.sep k (hm k hk) j (hm j hj)⟩, mine := fun k hk => hR.mine k (hm k hk) }⟩
  rcases mem_setA hx with rfl | ⟨h1, _⟩
  · obtain ⟨b, c, mb, mc, seen, h1, h2, h3, h4, h5⟩ := hR.hp _ hin
    exact ⟨b, c, mb, mc, seen, h1, h2, h3, h4, fun y hy => by cases hy⟩
  · exact hR.hp x h1

def nextA (st : St U) (d m : Nat) (es : Array MapEntry) (clock : Nat) (ys left left' : KV (t.den U.T)) (y : List UInt8 × t.den U.T) (t1 t2 : Nat) : St U :=
  (st.next { cb := [(d, .iter m t es clock ys left none)], pb := [(d, .iter m t es clock ys left' (some y))], ws := .tup [.p .bool true, .junk, .junk] } (some t1)).next { ws := .p .bool true } (some t2)
def nextB (st : St U) (t1 t2 : Nat) : St U := (st.next ({ ws := .tup [.p .bool false] } : LSpec U) (some t1)).next { ws := .p .bool false } (some t2)

theorem WpC.next {id : Nat} {o1 o2 : Oper} {st : St U} {Q : PostQ U} {it d m t1 t2 N : Nat} {es : Array MapEntry} {clock : Nat} {ys left : KV (t.den U.T)} (ts ns : List Nat) (hN : B.n = N)
    (hg1 : o1.guard = none) (ho1 : o1.op = .next (.tmp it) false) (hd1 : o1.dst = some t1) (hg2 : o2.guard = none) (ho2 : o2.op = .extract (.tmp t1) 0) (hd2 : o2.dst = some t2) (hl1 : t1 < N) (hl2 : t2 < N) (hne : t1 ≠ it)
    (h1 : (it, AVal.loc d 0) ∈ st.sl) (h2 : (d, Blk.iter m t es clock ys left none) ∈ st.hp) (h3 : (m, Blk.mapE t es clock ys) ∈ st.hp)
    (hA : ∀ y left', left.Perm (y :: left') → Apart left → ∃ st1, (nextA st d m es clock ys left left' y t1 t2).keep ts ns = st1 ∧ ∃ st', Conv U O st1 st' ∧ Q .normal st')
    (hB : left = [] → ∃ st1, (nextB st t1 t2).keep ts ns = st1 ∧ ∃ st', Conv U O st1 st' ∧ Q .normal st') : WpC U O P B (.region id #[o1, o2] false) st Q := by
  subst hN
  intro S ι a w hR
  refine wp_region_list ?_
  obtain ⟨b, c, mb, mc, seen, r1, r2, r3, r4, r5⟩ := hR.hp _ h2
  obtain ⟨b', c', k1, k2, k3, k4⟩ := hR.hp _ h3
  rw [r2] at k1
  obtain ⟨rfl, rfl⟩ : mb = b' ∧ mc = c' := by simpa using k1
  obtain ⟨b'', c'', l1, l2⟩ := hR.sl _ h1
  rw [r1] at l1
  obtain ⟨rfl, rfl⟩ : b = b'' ∧ c = c'' := by simpa using l1
  have hev : a.eval (.tmp it) = .pointer (some ⟨b, 0, none⟩) := l2
  have hlen := k4.len
  have step : ∀ (K : Act → World → Prop), opWp P #[o1, o2] (post U O B Q) o1 K a w ↔ opWp P #[o1, o2] (post U O B Q) o1 K a w := fun _ => Iff.rfl
  have hlist : opWp P #[o1, o2] (post U O B Q) o1 (wpList P #[o1, o2] (post U O B Q) [o2]) a w := by
    refine opWp_plain hg1 ?_
    unfold Oper.wp
    rw [exec_next ho1, hev]
    have ap : Apart left := r4.symm.pairwise (List.Pairwise.sublist (remOf_sub _ _) (k4.apart k3.2.2)) fun h => h.symm
    have two : ∀ (v : Bool) (vs : List (AVal U)) (s : LSpec U) (S' : Nat → Prop) (ι' : Lay) (a' : Act) (w' : World), Rel U O B S' ι' (st.next { s with ws := .tup (.p .bool v :: vs) } (some t1)) a' w' →
        (∃ st1, ((st.next { s with ws := .tup (.p .bool v :: vs) } (some t1)).next { ws := .p .bool v } (some t2)).keep ts ns = st1 ∧ ∃ st', Conv U O st1 st' ∧ Q .normal st') → wpList P #[o1, o2] (post U O B Q) [o2] a' w' := fun v vs s S' ι' a' w' hR' ⟨st1, e1, st', hcv, hQ⟩ => by
      have hin : (t1, AVal.tup (.p .bool v :: vs)) ∈ (st.next { s with ws := .tup (.p .bool v :: vs) } (some t1)).sl := mem_setA_iff.2 (.inl rfl)
      have hx : SOk U O P #[o1, o2] o2 { rs := [(t1, .tup (.p .bool v :: vs))], ws := .p .bool v } := sok_extract hg2 ho2 (.tmp (.head _)) rfl
      have := hx.use (Q := post U O B Q) (K := wpList P #[o1, o2] (post U O B Q) []) hR' ⟨fun x hx => by simp at hx; subst hx; exact hin, by simp, by simp, by simp, by simp, by simp⟩ (fun t ht => by rw [hd2] at ht; cases ht; exact hl2) fun S'' ι'' a'' w'' hR'' => by
        unfold wpList
        rw [hd2] at hR''
        exact ⟨st', hQ, hcv B S'' ι'' _ _ (e1 ▸ hR''.weak (St.keep_le _ ts ns))⟩
      unfold opWp at this
      unfold wpList
      exact this
    rcases run_next_at (P := P) w o1.type b mb clock clock seen es clock r3 k2 k3.1 (Nat.le_refl _) with ⟨q1, q2⟩ | ⟨e, q1, w1, q2, q3⟩
    · rw [run_vOf q2]
      have hov : ∀ x ∈ es.toList, seen.contains x.born = true := fun x hx => by
        cases hc : seen.contains x.born with
        | true => rfl
        | false =>
          have : x ∈ (leftOf es seen).toList := by unfold leftOf; simp; exact ⟨by simpa using hx, by simpa using hc⟩
          rw [← Array.length_toList] at q1
          rw [List.eq_nil_of_length_eq_zero q1] at this; cases this
      have hl : left = [] := by
        rw [remOf_over _ _ hlen hov] at r4
        exact r4.eq_nil
      rw [Oper.upon_value, hd1]
      refine two false [] {} S ι _ w (hR.next (s := { ws := .tup [.p .bool false] }) ⟨by simp, by simp, by simp, by simp, by simp, by simp⟩ (Nx.refl _ rfl rfl hR.lt) ⟨_, ⟨_, _, rfl, ⟨[.bool false], .bool false, rfl⟩, rfl⟩, rfl⟩ (fun t ht => by cases ht; exact hl1)) (hB hl)
    · rw [run_vOf q3]
      obtain ⟨he, hc⟩ : e ∈ es.toList ∧ seen.contains e.born = false := by unfold leftOf at q1; simpa using q1
      obtain ⟨j, hj, hje⟩ := List.getElem_of_mem he
      have hy : ys[j]? = some (ys[j]'(by rw [← hlen]; exact hj)) := List.getElem?_eq_getElem _
      have hej : es.toList[j]? = some e := by rw [List.getElem?_eq_getElem hj, hje]
      have hpk := remOf_pick (seen := seen) es.toList ys k3.2.1 j e _ hej hy hc
      have hw1 : w1.heap = w.heap ∧ w1.os = w.os ∧ w1.tape = w.tape ∧ w1.output = w.output := by rcases q2 with rfl | rfl <;> exact ⟨rfl, rfl, rfl, rfl⟩
      have hlt : b < w.heap.size := (Array.getElem?_eq_some_iff.1 r3).1
      have hset : ∀ k, (ChangeMaps.setBlock w1 b (.mapIter (some mb) clock (seen.push e.born) clock)).heap[k]? = if k = b then some (.mapIter (some mb) clock (seen.push e.born) clock) else w.heap[k]? := fun k => by
        show (w1.heap.setIfInBounds b _)[k]? = _
        rw [hw1.1]
        by_cases e' : k = b
        · subst e'; rw [if_pos rfl]; simp [hlt]
        · rw [if_neg e']; simp [Array.getElem?_setIfInBounds_ne (Ne.symm e')]
      have hsz : (ChangeMaps.setBlock w1 b (.mapIter (some mb) clock (seen.push e.born) clock)).heap.size = w.heap.size := by
        show (w1.heap.setIfInBounds b _).size = _
        rw [hw1.1]; simp
      rw [Oper.upon_value, hd1]
      have hown := hR.own.out d (mem_nm h2) b c r1
      have hNx : Nx U O { cb := [(d, .iter m t es clock ys left none)], pb := [(d, .iter m t es clock ys (remOf (seen.push e.born) es.toList ys) (some (ys[j]'(by rw [← hlen]; exact hj))))], ws := .tup [.p .bool true, .junk, .junk] } S ι w S ι (ChangeMaps.setBlock w1 b (.mapIter (some mb) clock (seen.push e.born) clock)) := by
        refine ⟨hw1.2.1, hw1.2.2.1, hw1.2.2.2, by rw [hsz]; exact Nat.le_refl _, fun _ h => h, fun _ h => .inl h, fun b h => by rw [hsz]; exact hR.lt b h, fun k hk hnot => ?_, fun _ _ => rfl, fun x hx => ?_, fun k hk b' c' hb' => ?_, fun k hk k' hk' hne => ?_⟩
        · rw [hset, if_neg fun e' => hnot d (by simp [nm]) c (by rw [e']; exact r1)]
        · simp at hx; subst hx
          exact ⟨b, c, mb, mc, seen.push e.born, r1, r2, by rw [hset, if_pos rfl], .refl _, fun y hy => by cases hy; exact ⟨j, e, hej, hy, seen, rfl⟩⟩
        · simp [nm] at hk; subst hk
          rw [r1] at hb'
          obtain ⟨rfl, rfl⟩ : b = b' ∧ c = c' := by simpa using hb'
          exact ⟨hown.1, by rw [hsz]; exact hlt, .inr ⟨k, by simp [nm], c, r1⟩⟩
        · simp [nm] at hk hk'; exact absurd (hk.trans hk'.symm) hne
      refine two true [.junk, .junk] { cb := [(d, .iter m t es clock ys left none)], pb := [(d, .iter m t es clock ys (remOf (seen.push e.born) es.toList ys) (some (ys[j]'(by rw [← hlen]; exact hj))))] } S ι _ _
        (hR.next ⟨by simp, by simp, fun x hx => by simp at hx; subst hx; exact h2, by simp, by simp [nm], by simp⟩ hNx ⟨_, ⟨_, _, rfl, ⟨[.bool true], .bool true, rfl⟩, _, _, rfl, trivial, _, _, rfl, trivial, rfl⟩, rfl⟩ (fun t ht => by cases ht; exact hl1)) (hA _ _ (r4.trans hpk) ap)
  unfold opWp at hlist
  show wpList P #[o1, o2] (post U O B Q) [o1, o2] a w
  unfold wpList
  exact hlist
end
end Go.AM

namespace Go.AM
set_option linter.unusedVariables false
open Go.WideElems (Fit rd rg)

section
variable {U : Univ} {O : Out} {P : Program} {S S' : Nat → Prop} {ι ι' : Lay} {w w' : World} {t : Ty}

theorem Nx.frame {s : LSpec U} (h : Nx U O s S ι w S' ι' w') (h1 : s.cb = []) (bs : List (Nat × Blk U)) (hnn : ∀ n ∈ s.nn, n ∉ nm bs ∧ ∀ x ∈ bs, n ∉ Blk.names U x.2) (hbs : ∀ x ∈ bs, BR U O S ι w x.1 x.2)
    (hown : Own S ι w (nm bs)) (hlt : ∀ b, S b → b < w.heap.size) : Nx U O { s with cb := bs, pb := s.pb ++ bs } S ι w S' ι' w' := by
  have hkeep : ∀ b, b < w.heap.size → w'.heap[b]? = w.heap[b]? := fun b hb => h.keep b hb (by rw [h1]; simp)
  have hnew : ∀ b, S' b → S b ∨ w.heap.size ≤ b := fun b hb => by
    rcases h.new b hb with h | h | ⟨m, hm, _⟩
    · exact .inl h
    · exact .inr h
    · rw [h1] at hm; cases hm
  have hlay : ∀ n ∈ nm bs, ι' n = ι n := fun n hn => h.lay n fun hin => (hnn n hin).1 hn
  have hpb : ∀ n ∈ nm s.pb, ∀ b c, ι' n = some (b, c) → w.heap.size ≤ b := fun n hn b c hb => by
    rcases (h.plc n hn b c hb).2.2 with h | ⟨m, hm, _⟩
    · exact h
    · rw [h1] at hm; cases hm
  have split : ∀ n, n ∈ nm (s.pb ++ bs) → n ∈ nm s.pb ∨ n ∈ nm bs := fun n hn => by
    have : n ∈ List.map _ (_ ++ _) := hn
    rw [List.map_append] at this
    exact List.mem_append.1 this
  refine ⟨h.os, h.tape, h.output, h.size, h.sub, fun b hb => (hnew b hb).elim .inl fun h => .inr (.inl h), h.lt, fun b hb _ => hkeep b hb, h.lay, fun x hx => ?_, fun n hn b c hb => ?_, fun n hn m hm hne b c c' hb => ?_⟩
  · rcases List.mem_append.1 hx with hx | hx
    · exact h.blk x hx
    · have hxn : x.1 ∈ nm bs := List.mem_map.2 ⟨x, hx, rfl⟩
      exact BR.mono (fun b hb => hkeep b (hlt b hb)) h.sub (hlay _ hxn) (fun m hm => h.lay m fun hin => (hnn m hin).2 x hx hm) (fun b c hb => hkeep b (hown.out x.1 hxn b c hb).2) (hbs x hx)
  · rcases split n hn with hn | hn
    · have := h.plc n hn b c hb
      exact ⟨this.1, this.2.1, .inl (hpb n hn b c hb)⟩
    · rw [hlay n hn] at hb
      obtain ⟨o1, o2⟩ := hown.out n hn b c hb
      refine ⟨fun hS => ?_, Nat.lt_of_lt_of_le o2 h.size, .inr ⟨n, hn, c, hb⟩⟩
      rcases hnew b hS with h | h
      · exact o1 h
      · omega
  · rcases split n hn with hn | hn <;> rcases split m hm with hm | hm
    · exact h.sep n hn m hm hne b c c' hb
    · rw [hlay m hm]
      intro hb'
      have := (hown.out m hm b c' hb').2
      have := hpb n hn b c hb
      omega
    · rw [hlay n hn] at hb
      intro hb'
      have := (hown.out n hn b c hb).2
      have := hpb m hm b c' hb'
      omega
    · rw [hlay n hn] at hb
      rw [hlay m hm]
      exact hown.sep n hn m hm hne b c c' hb

def unitR : Value → Option (DataW Unit × List MemPlace) := fun _ => some (.lit (.bool true), [])
end
end Go.AM

namespace Go.AM
open Go Go.RowKit
set_option linter.unusedVariables false

def eqG (U : Univ) : (t : Ty) → t.den U.T → t.den U.T → Bool
  | .pair (.named n) b, x, y => eqB (U.body n) (U.out n x.1) (U.out n y.1) && eqG U b x.2 y.2
  | .pair a b, x, y => eqB a x.1 y.1 && eqG U b x.2 y.2
  | .unit, _, _ => true
  | _, _, _ => false

section
variable {U : Univ} {O : Out} {P : Program} {S : Nat → Prop} {ι : Lay} {w : World} {rs : List (Nat × AVal U)} {a : Act} {ops : Array Oper} {o : Oper}
inductive EqG (P : Program) (U : Univ) : List Field → Nat → Ty → Prop
  | nil {off : Nat} : EqG P U [] off .unit
  | cons {f : Field} {fs : List Field} {off : Nat} {a b : Ty} : f.name ≠ "_" → f.offset = off → TyOk P U f.type a → EqOne P f.type a → EqG P U fs (off + 1) b → EqG P U (f :: fs) off (.pair a b)
  | st {f : Field} {fs : List Field} {gs : Array Field} {off n k : Nat} {b : Ty} : f.name ≠ "_" → f.offset = off → TyOk P U f.type (.named n) → P.underlying f.type = some (.struct gs) → P.stoodInHeld f.type = false → EqF P U gs.toList 0 (U.body n) →
      (Ty.named n).width U.wd = k → EqG P U fs (off + k) b → EqG P U (f :: fs) off (.pair (.named n) b)

theorem EqG.run {fs : List Field} {off : Nat} {t : Ty} (h : EqG P U fs off t) (d : Nat) : ∀ {x y : t.den U.T} {c1 c2 : List Value} {xs ys : Array Value}, Rd U O S w t x c1 → Rd U O S w t y c2 →
    (∀ j, j < c1.length → xs[off + j]? = c1[j]?) → (∀ j, j < c2.length → ys[off + j]? = c2[j]?) → (Op.eqFields (d + 2) xs ys fs).run P w = .ok (eqG U t x y) w := by
  induction h with
  | nil => intro x y c1 c2 xs ys _ _ _ _; simp [Op.eqFields, eqG]
  | @cons f fs off a b hn ho ht he _ ih =>
    intro x y c1 c2 xs ys h1 h2 g1 g2
    cases h1 with
    | @pair _ _ x1 x2 p1 p2 a1 a2 =>
    cases h2 with
    | @pair _ _ y1 y2 q1 q2 b1 b2 =>
    obtain ⟨e1, e2, e3⟩ := he.run (P := P) (w := w) (d + 1) a1 b1
    have hp1 : (part f.type xs f.offset).run P w = .ok (mkV a.isAgg p1) w := run_part ht a1.length (fun j hj => by
      have hl := a1.length
      rw [ho, g1 j (by rw [List.length_append]; omega), List.getElem?_append_left (by omega)]) width_one w
    have hp2 : (part f.type ys f.offset).run P w = .ok (mkV a.isAgg q1) w := run_part ht b1.length (fun j hj => by
      have hl := b1.length
      rw [ho, g2 j (by rw [List.length_append]; omega), List.getElem?_append_left (by omega)]) width_one w
    have hr := ih (xs := xs) (ys := ys) a2 b2 (fun j hj => by
      have := g1 (1 + j) (by rw [List.length_append]; omega)
      rw [show off + 1 + j = off + (1 + j) by omega, this, List.getElem?_append_right (by omega)]; congr 1; omega) (fun j hj => by
      have := g2 (1 + j) (by rw [List.length_append]; omega)
      rw [show off + 1 + j = off + (1 + j) by omega, this, List.getElem?_append_right (by omega)]; congr 1; omega)
    have hq : eqG U (.pair a b) (x1, x2) (y1, y2) = (eqB a x1 y1 && eqG U b x2 y2) := by cases he <;> rfl
    rw [hq]
    simp only [Op.eqFields, hn, ne_eq, not_false_eq_true, if_true, Sem.run_bind, hp1, hp2, e1, Result.andThen_ok]
    cases eqB a x1 y1
    · simp
    · simpa using hr
  | @st f fs gs off n k b hn ho ht hu hs hf hk _ ih =>
    intro x y c1 c2 xs ys h1 h2 g1 g2
    cases h1 with
    | @pair _ _ x1 x2 p1 p2 a1 a2 =>
    cases h2 with
    | @pair _ _ y1 y2 q1 q2 b1 b2 =>
    have hl1 : p1.length = k := hk ▸ a1.length
    have hl2 : q1.length = k := hk ▸ b1.length
    have hp1 : (part f.type xs f.offset).run P w = .ok (mkV (Ty.named n).isAgg p1) w := run_part ht a1.length (fun j hj => by
      rw [ho, g1 j (by rw [List.length_append]; omega), List.getElem?_append_left (by omega)]) width_one w
    have hp2 : (part f.type ys f.offset).run P w = .ok (mkV (Ty.named n).isAgg q1) w := run_part ht b1.length (fun j hj => by
      rw [ho, g2 j (by rw [List.length_append]; omega), List.getElem?_append_left (by omega)]) width_one w
    have hr := ih (xs := xs) (ys := ys) a2 b2 (fun j hj => by
      have := g1 (k + j) (by rw [List.length_append]; omega)
      rw [show off + k + j = off + (k + j) by omega, this, List.getElem?_append_right (by omega)]; congr 1; omega) (fun j hj => by
      have := g2 (k + j) (by rw [List.length_append]; omega)
      rw [show off + k + j = off + (k + j) by omega, this, List.getElem?_append_right (by omega)]; congr 1; omega)
    have hfo : P.fieldsOf f.type = gs := by simp [Program.fieldsOf, hu]
    have e1 : (Op.equalIn (d + 2) f.type (mkV (Ty.named n).isAgg p1) (mkV (Ty.named n).isAgg q1)).run P w = .ok (eqB (U.body n) (U.out n x1) (U.out n y1)) w := by
      cases a1 with
      | named _ _ a1 =>
      cases b1 with
      | named _ _ b1 =>
      show (Op.equalIn (d + 1 + 1) f.type (.agg p1.toArray) (.agg q1.toArray)).run P w = _
      rw [run_equalIn_struct w (d + 1) f.type _ _ (by rw [hfo]; exact hu) hs, hfo]
      exact hf.run d a1 b1 (fun j hj => by simp) (fun j hj => by simp)
    have hq : eqG U (.pair (.named n) b) (x1, x2) (y1, y2) = (eqB (U.body n) (U.out n x1) (U.out n y1) && eqG U b x2 y2) := rfl
    rw [hq]
    simp only [Op.eqFields, hn, ne_eq, not_false_eq_true, if_true, Sem.run_bind, hp1, hp2, e1, Result.andThen_ok]
    cases eqB (U.body n) (U.out n x1) (U.out n y1)
    · simp
    · simpa using hr
end

section
variable {U : Univ} {O : Out} {S S' : Nat → Prop} {ι ι' : Lay} {w w' : World} {t : Ty}
theorem put_size {α : Type} [Inhabited α] {enc : α → Value} {off : Nat} {d : Array α} {arr : Array Value} : (Sort.putCells enc off d arr).size = arr.size := by simp [Sort.putCells]
end
end Go.AM

namespace Go.AM
open Go
set_option linter.unusedVariables false
section
variable {U : Univ} {O : Out}
theorem Conv.openS {st : St U} {q : Bool} (t n : Nat) (hq : q = true) (hin : (t, AVal.opt q n) ∈ st.sl) : Conv U O st ⟨setA st.sl t (.loc n 0), st.hp⟩ := by
  intro B S ι a w hR
  refine ⟨S, ι, { hR with sl := fun x hx => ?_ }⟩
  rcases mem_setA hx with rfl | ⟨h1, _⟩
  · have h := hR.sl _ hin
    simp only [VV] at h ⊢
    exact h.1 hq
  · exact hR.sl x h1
theorem Conv.openB {st : St U} {q : Bool} (n : Nat) (B : Blk U) (hq : q = true) (hin : (n, Blk.opt q B) ∈ st.hp) : Conv U O st ⟨st.sl, setA st.hp n B⟩ := by
  intro B' S ι a w hR
  have hm : ∀ k ∈ nm (setA st.hp n B), k ∈ nm st.hp := fun k hk => by
    obtain ⟨x, hx, rfl⟩ := List.mem_map.1 hk
    rcases mem_setA hx with rfl | ⟨h1, _⟩
    · exact List.mem_map.2 ⟨_, hin, rfl⟩
    · exact List.mem_map.2 ⟨_, h1, rfl⟩
  refine ⟨S, ι, { hR with hp := fun x hx => ?_, own := ⟨fun k hk => hR.own.out k (hm k hk), fun k hk j hj => hR.own.sep k (hm k hk) j (hm j hj)⟩, mine := fun k hk => hR.mine k (hm k hk) }⟩
  rcases mem_setA hx with rfl | ⟨h1, _⟩
  · exact hR.hp _ hin hq
  · exact hR.hp x h1
end
end Go.AM

namespace Go.AM
open Go Go.RowKit Go.Sort Go.Proofs
set_option linter.unusedVariables false
section
variable {U : Univ} {O : Out} {S : Nat → Prop} {ι : Lay} {w w' : World}
end
end Go.AM

namespace Go.AM
open Go Go.RowKit
set_option linter.unusedVariables false
section
variable {U : Univ} {O : Out} {P : Program} {S : Nat → Prop} {ι : Lay} {w : World} {rs : List (Nat × AVal U)} {a : Act} {ops : Array Oper} {o : Oper}
end
theorem trod_len {U : Univ} {O : Out} {S : Nat → Prop} {ι : Lay} {H : Type} {enc : TypeId × Value → H} {P : Program} {W : World} {base : Nat} {sp : Nat → Bool} {held : Bool} {m : Nat} {T E : TypeId} {t : Ty} {xs : List (t.den U.T)} {u : Value} {d : DataW H} {p : List MemPlace}
    (hT : P.underlying T = some (.slice E)) (hu : VV U O S ι W (.p (.list t) xs) u) (h : DataW.trod enc P W base sp held m T u.cells.toList = some (d, p)) : xs = [] ∨ ∃ elems spare, d = .slice elems spare ∧ elems.length = xs.length := by
  rcases VV.list_iff.1 hu with ⟨h1, _⟩ | ⟨h1, _⟩ | ⟨b, o, cap, cs, rfl, _⟩
  · exact .inl h1
  · exact .inl h1
  · right
    cases m with
    | zero => simp [DataW.trod] at h
    | succ m =>
      have hc : (Value.slice (some ⟨b, o, none⟩) xs.length cap).cells.toList = [.slice (some ⟨b, o, none⟩) xs.length cap] := by simp [Value.cells]
      rw [hc] at h
      unfold DataW.trod at h
      rw [hT] at h
      simp only at h
      split at h
      · obtain ⟨elems, he, h⟩ := Option.bind_eq_some_iff.1 h
        obtain ⟨rest, hr, h⟩ := Option.map_eq_some_iff.1 h
        obtain ⟨rfl, rfl⟩ : _ ∧ _ := by simpa using h
        refine ⟨_, _, rfl, ?_⟩
        have := mapM_some_length he
        simpa using this
      · cases h
theorem weight_of {H : Type} {P : Program} {T E : TypeId} {elems spare : List (DataW H)} (hT : P.underlying T = some (.slice E)) : ∀ {ts : List TypeId} {ds : List (DataW H)} {i : Nat}, (DataW.weightsEach P ts ds).all (· ≤ reachBytes) = true → ts[i]? = some T → ds[i]? = some (.slice elems spare) → elems.length * P.bytesOf E ≤ reachBytes
  | [], _, _, _, h, _ => by simp at h
  | _ :: _, [], _, _, _, h => by simp at h
  | t :: ts, d :: ds, 0, h, h1, h2 => by
    obtain rfl : t = T := by simpa using h1
    obtain rfl : d = .slice elems spare := by simpa using h2
    have hm : (elems.length + spare.length) * P.bytesOf E ∈ DataW.weightsEach P (t :: ts) (DataW.slice elems spare :: ds) := by
      unfold DataW.weightsEach DataW.weights
      rw [hT]
      simp
    have := List.all_eq_true.1 h _ hm
    have h3 : elems.length * P.bytesOf E ≤ (elems.length + spare.length) * P.bytesOf E := Nat.mul_le_mul_right _ (by omega)
    have h4 : (elems.length + spare.length) * P.bytesOf E ≤ reachBytes := by simpa using this
    omega
  | t :: ts, d :: ds, i + 1, h, h1, h2 => by
    refine weight_of hT (ts := ts) (ds := ds) (i := i) ?_ (by simpa using h1) (by simpa using h2)
    unfold DataW.weightsEach at h
    rw [List.all_append, Bool.and_eq_true] at h
    exact h.2
end Go.AM

namespace Go.AM
theorem w64 {n : Int} (h0 : -9223372036854775808 ≤ n) (h1 : n ≤ 9223372036854775807) : IntKind.i64.wrap n = n := by
  simp only [IntKind.wrap, IntKind.bits, IntKind.signed]
  simp
  omega
theorem idx_at {α : Type} {l : List α} {v : Int} {i : Nat} (e : v = i) (h : i < l.length) : idx l v = some l[i] := by
  subst e; simp [idx, h]
theorem sub_at {α : Type} {l : List α} {v u : Int} {a b : Nat} (ev : v = a) (eu : u = b) (h : a ≤ b) (h' : b ≤ l.length) : sub l v u = some ((l.take b).drop a) := by
  subst ev; subst eu
  unfold sub
  rw [if_pos (by omega)]
  simp
theorem sub_from {α : Type} {l : List α} {v u : Int} {a : Nat} (ev : v = a) (eu : u = l.length) (h : a ≤ l.length) : sub l v u = some (l.drop a) := by
  rw [sub_at ev eu h (Nat.le_refl _)]; simp
theorem sub_to {α : Type} {l : List α} {v u : Int} {b : Nat} (ev : v = 0) (eu : u = b) (h : b ≤ l.length) : sub l v u = some (l.take b) := by
  rw [sub_at (a := 0) ev eu (by omega) h]; simp
theorem u8_eq {a b : UInt8} : ((a.toNat : Int) == (b.toNat : Int)) = (a == b) := by
  by_cases h : a = b
  · subst h; simp
  · have : ¬ a.toNat = b.toNat := fun e => h (UInt8.toNat_inj.1 e)
    rw [beq_eq_false_iff_ne.2 h, beq_eq_false_iff_ne]
    omega
end Go.AM

namespace Go.AM
open Go
set_option linter.unusedVariables false
section
variable {U : Univ} {O : Out} {P : Program} {S : Nat → Prop} {ι : Lay} {w : World} {rs : List (Nat × AVal U)} {a : Act} {ops : Array Oper} {o : Oper}
theorem sok_lenNil {T E : TypeId} {x : Operand} (hg : o.guard = none) (ho : o.op = .call { callee := .builtin .len, args := #[x], argTypes := #[T] }) (ht : P.underlying T = some (.slice E)) (hx : Opd U rs x (.lit (.slice none 0 0))) :
    SOk U O P ops o { rs := rs, ws := .p (.int .i64) (0 : Int) } :=
  sok_v hg _ (fun _ => exec_len ho) fun S ι w a hrs _ => by
    refine ⟨.int .i64 0, ?_, VV.int_iff.2 rfl⟩
    rw [(hx.ev hrs).1]
    simp [Builtin.len_, run_underlying ht, goInt]
theorem sok_sliceNil {T E : TypeId} {t : Ty} {x : Operand} {lo hi : Option Operand} (hg : o.guard = none) (ho : o.op = .slice T x lo hi none) (ht : SlOk P U T E t) (hx : Opd U rs x (.lit (.slice none 0 0))) (hl : Bd U rs 0 lo 0) (hh : Bd U rs 0 hi 0) :
    SOk U O P ops o { rs := rs, ws := .lit (.slice none 0 0) } :=
  sok_v hg _ (fun _ => exec_slice ho) fun S ι w a hrs _ => by
    have hsb := run_sliceBounds (P := P) true 0 0 hl hh hrs (by omega) (by omega) (by omega) w
    refine ⟨.slice none 0 0, ?_, ⟨rfl, (hx.ev hrs).2⟩⟩
    rw [(hx.ev hrs).1]
    simp [Instr.sliceAt, Instr.slice, Sem.run_bind, Result.andThen_ok, run_underlying ht.under, hsb, run_sizeOf ht.el]
end
section
variable {U : Univ} {O : Out}
theorem Conv.shrink0 {st : St U} (n E : Nat) (ty : Ty) (xs : List (ty.den U.T)) (fx : Bool) (hin : (n, Blk.row E ty xs fx) ∈ st.hp) : Conv U O st ⟨st.sl, setA st.hp n (.row E ty ([] : List (ty.den U.T)) false)⟩ := by
  intro B S ι a w hR
  have hm : ∀ k ∈ nm (setA st.hp n (Blk.row E ty ([] : List (ty.den U.T)) false)), k ∈ nm st.hp := fun k hk => by
    obtain ⟨x, hx, rfl⟩ := List.mem_map.1 hk
    rcases mem_setA hx with rfl | ⟨h1, _⟩
    · show n ∈ nm st.hp
      exact mem_nm hin
    · exact mem_nm h1
  refine ⟨S, ι, { hR with hp := fun x hx => ?_, own := ⟨fun k hk => hR.own.out k (hm k hk), fun k hk j hj => hR.own.sep k (hm k hk) j (hm j hj)⟩, mine := fun k hk => hR.mine k (hm k hk) }⟩
  rcases mem_setA hx with rfl | ⟨h1, _⟩
  · rcases hR.hp _ hin with ⟨h1, _, h3⟩ | ⟨b, c, arr, cs, h1, h2, h3, h4, h5, h6, h7, h8⟩
    · exact .inl ⟨h1, rfl, rfl⟩
    · exact .inr ⟨b, c, arr, cs, h1, h2, h3, h4, by simp, (fun h => by cases h), fun i h => absurd h (by simp), fun i j h => absurd h (by simp)⟩
  · exact hR.hp x h1
end
section
variable {U : Univ} {O : Out} {S : Nat → Prop} {ι : Lay} {w w' : World}
open Go.RowKit Go.Sort Go.Proofs
end
section
variable {U : Univ} {O : Out} {P : Program} {S : Nat → Prop} {ι : Lay} {w : World} {rs : List (Nat × AVal U)} {a : Act} {ops : Array Oper} {o : Oper}
end
end Go.AM

namespace Go.AM
open Go
set_option linter.unusedVariables false
section
variable {U : Univ} {O : Out}
theorem Conv.shrinkN {st : St U} (n E m : Nat) (ty : Ty) (xs : List (ty.den U.T)) (fx : Bool) (hin : (n, Blk.row E ty xs fx) ∈ st.hp) : Conv U O st ⟨st.sl, setA st.hp n (.row E ty (xs.take m) false)⟩ := by
  intro B S ι a w hR
  have hm : ∀ k ∈ nm (setA st.hp n (Blk.row E ty (xs.take m) false)), k ∈ nm st.hp := fun k hk => by
    obtain ⟨x, hx, rfl⟩ := List.mem_map.1 hk
    rcases mem_setA hx with rfl | ⟨h1, _⟩
    · show n ∈ nm st.hp
      exact mem_nm hin
    · exact mem_nm h1
  refine ⟨S, ι, { hR with hp := fun x hx => ?_, own := ⟨fun k hk => hR.own.out k (hm k hk), fun k hk j hj => hR.own.sep k (hm k hk) j (hm j hj)⟩, mine := fun k hk => hR.mine k (hm k hk) }⟩
  rcases mem_setA hx with rfl | ⟨h1, _⟩
  · rcases hR.hp _ hin with ⟨h1, h2, h3⟩ | ⟨b, c, arr, cs, h1, h2, h3, h4, h5, h6, h7, h8⟩
    · exact .inl ⟨h1, by rw [h2]; simp, rfl⟩
    · refine .inr ⟨b, c, arr, cs, h1, h2, h3, h4, by rw [List.length_take]; omega, (fun h => by cases h), fun i h => ?_, fun i j h => ?_⟩
      · rw [List.length_take] at h
        rw [List.getElem_take]; exact h7 i (by omega)
      · rw [List.length_take] at h; exact h8 i j (by omega)
  · exact hR.hp x h1
end
section
variable {U : Univ} {O : Out} {P : Program} {S : Nat → Prop} {ι : Lay} {w : World} {rs : List (Nat × AVal U)} {a : Act} {ops : Array Oper} {o : Oper}
end
end Go.AM

namespace Go.AM
open Go
set_option linter.unusedVariables false
section
variable {U : Univ} {O : Out} {P : Program} {B : Base}
def noGotoQ (Q : PostQ U) : PostQ U
  | .goto _, _ => False
  | e, st => Q e st
end
section
variable {U : Univ} {O : Out}
theorem Conv.freezeP {st : St U} (t n : Nat) (ty : Ty) (x : ty.den U.T) (us : List (AVal U)) (hin : (t, AVal.loc n 0) ∈ st.sl) (hx : Expl U ty x us) (hb : (n, Blk.box us) ∈ st.hp) (hn : ∀ x ∈ st.hp, n ∉ Blk.names U x.2) :
    Conv U O st ⟨setA st.sl t (.p (.ptr ty) (some x : Option (ty.den U.T))), st.hp.filter fun x => !(x.1 == n)⟩ := by
  intro B S ι a w hR
  have hB := hR.hp _ hb
  have hmem : ∀ x ∈ st.hp.filter (fun x => !(x.1 == n)), x ∈ st.hp ∧ x.1 ≠ n := fun x hx => by
    obtain ⟨h1, h2⟩ := List.mem_filter.1 hx
    exact ⟨h1, by simpa using h2⟩
  have hmn : ∀ k ∈ nm (st.hp.filter fun x => !(x.1 == n)), k ∈ nm st.hp ∧ k ≠ n := fun k hk => by
    obtain ⟨x, hx, rfl⟩ := List.mem_map.1 hk
    exact ⟨mem_nm (hmem x hx).1, (hmem x hx).2⟩
  have hnin : n ∈ nm st.hp := mem_nm hb
  obtain ⟨b, c, vs, arr, e, h1, h2, h3, h4, h5⟩ := hB
  refine ⟨fun b => S b ∨ ∃ c, ι n = some (b, c), ι, { hR with sl := fun y hy => ?_, hp := fun x hx => ?_, own := ⟨fun k hk b c hb => ?_, fun k hk j hj => hR.own.sep k (hmn k hk).1 j (hmn j hj).1⟩, mine := (fun k hk => hR.mine k (hmn k hk).1), lt := fun b h => ?_, gl := hR.gl.mono (fun _ _ => rfl) (fun _ h => .inl h), sub := fun b h => .inl (hR.sub b h), new := fun b h => ?_ }⟩
  · rcases mem_setA hy with rfl | ⟨h6, _⟩
    · obtain ⟨b', c', h7, h8⟩ := hR.sl _ hin
      rw [h1] at h7
      obtain ⟨rfl, rfl⟩ : b = b' ∧ c = c' := by simpa using h7
      have hr := (hx.of h2).mono (S' := fun b => S b ∨ ∃ c, ι n = some (b, c)) (fun _ _ => rfl) (fun _ h => .inl h)
      refine ⟨[a.tmps.getD t undef], ?_, rfl⟩
      show Rd U O _ w (.ptr ty) _ [a.tmps.getD t undef]
      rw [h8]
      refine .pto ty x b 0 (cellsOf vs) (.inr ⟨c, h1⟩) hr fun j hj => ?_
      rw [cell_of_row w b _ arr _ (0, 0) h5, Nat.zero_add, ← Array.getElem?_toList, h4]; rfl
    · exact VV.mono (fun _ _ => rfl) (fun _ h => .inl h) _ _ (fun _ _ => rfl) (hR.sl y h6)
  · exact BR.mono (fun _ _ => rfl) (fun _ h => .inl h) rfl (fun _ _ => rfl) (fun _ _ _ => rfl) (hR.hp x (hmem x hx).1)
  · refine ⟨fun h => ?_, (hR.own.out k (hmn k hk).1 b c hb).2⟩
    rcases h with h | ⟨c', h⟩
    · exact (hR.own.out k (hmn k hk).1 b c hb).1 h
    · exact hR.own.sep k (hmn k hk).1 n hnin (hmn k hk).2 b c c' hb h
  · rcases h with h | ⟨c, h⟩
    · exact hR.lt b h
    · exact (hR.own.out n hnin b c h).2
  · rcases h with h | ⟨c, h⟩
    · exact hR.new b h
    · exact .inr (hR.mine n hnin b c h)
theorem Conv.freezeQ {st : St U} (t n : Nat) (ty : Ty) (x : ty.den U.T) (us : List (AVal U)) (hin : (t, AVal.loc n 0) ∈ st.sl) (hx : Expl U ty x us) (hb : (n, Blk.box us) ∈ st.hp) (hn : ∀ x ∈ st.hp, n ∉ Blk.names U x.2) :
    Conv U O st ⟨setA st.sl t (.pp ty x), st.hp.filter fun x => !(x.1 == n)⟩ := by
  intro B S ι a w hR
  have hB := hR.hp _ hb
  have hmem : ∀ x ∈ st.hp.filter (fun x => !(x.1 == n)), x ∈ st.hp ∧ x.1 ≠ n := fun x hx => by
    obtain ⟨h1, h2⟩ := List.mem_filter.1 hx
    exact ⟨h1, by simpa using h2⟩
  have hmn : ∀ k ∈ nm (st.hp.filter fun x => !(x.1 == n)), k ∈ nm st.hp ∧ k ≠ n := fun k hk => by
    obtain ⟨x, hx, rfl⟩ := List.mem_map.1 hk
    exact ⟨mem_nm (hmem x hx).1, (hmem x hx).2⟩
  have hnin : n ∈ nm st.hp := mem_nm hb
  obtain ⟨b, c, vs, arr, e, h1, h2, h3, h4, h5⟩ := hB
  refine ⟨fun b => S b ∨ ∃ c, ι n = some (b, c), ι, { hR with sl := fun y hy => ?_, hp := fun x hx => ?_, own := ⟨fun k hk b c hb => ?_, fun k hk j hj => hR.own.sep k (hmn k hk).1 j (hmn j hj).1⟩, mine := (fun k hk => hR.mine k (hmn k hk).1), lt := fun b h => ?_, gl := hR.gl.mono (fun _ _ => rfl) (fun _ h => .inl h), sub := fun b h => .inl (hR.sub b h), new := fun b h => ?_ }⟩
  · rcases mem_setA hy with rfl | ⟨h6, _⟩
    · obtain ⟨b', c', h7, h8⟩ := hR.sl _ hin
      rw [h1] at h7
      obtain ⟨rfl, rfl⟩ : b = b' ∧ c = c' := by simpa using h7
      have hr := (hx.of h2).mono (S' := fun b => S b ∨ ∃ c, ι n = some (b, c)) (fun _ _ => rfl) (fun _ h => .inl h)
      refine ⟨b, 0, cellsOf vs, h8, .inr ⟨c, h1⟩, hr, fun j hj => ?_⟩
      rw [cell_of_row w b _ arr _ (0, 0) h5, Nat.zero_add, ← Array.getElem?_toList, h4]; rfl
    · exact VV.mono (fun _ _ => rfl) (fun _ h => .inl h) _ _ (fun _ _ => rfl) (hR.sl y h6)
  · exact BR.mono (fun _ _ => rfl) (fun _ h => .inl h) rfl (fun _ _ => rfl) (fun _ _ _ => rfl) (hR.hp x (hmem x hx).1)
  · refine ⟨fun h => ?_, (hR.own.out k (hmn k hk).1 b c hb).2⟩
    rcases h with h | ⟨c', h⟩
    · exact (hR.own.out k (hmn k hk).1 b c hb).1 h
    · exact hR.own.sep k (hmn k hk).1 n hnin (hmn k hk).2 b c c' hb h
  · rcases h with h | ⟨c, h⟩
    · exact hR.lt b h
    · exact (hR.own.out n hnin b c h).2
  · rcases h with h | ⟨c, h⟩
    · exact hR.new b h
    · exact .inr (hR.mine n hnin b c h)
end
section
variable {U : Univ} {O : Out} {P : Program} {S : Nat → Prop} {ι : Lay} {w : World} {rs : List (Nat × AVal U)} {a : Act} {ops : Array Oper} {o : Oper}
theorem ptrV_p {t : Ty} {q : Option (t.den U.T)} : PtrV U (.p (.ptr t) q) q.isNone := fun O S ι w u ⟨cs, hr, hu⟩ => by
  cases hr with
  | pnil => exact ⟨none, hu, rfl⟩
  | pto _ x b o cs => exact ⟨some _, hu, rfl⟩
theorem sok_nilCheckP {t : Ty} {x : Operand} {q : Option (t.den U.T)} {y : t.den U.T} (hg : o.guard = none) (ho : o.op = .nilCheck x) (hx : Opd U rs x (.p (.ptr t) q)) (hq : q = some y) : SOk U O P ops o { rs := rs, ws := .pp t y } :=
  sok_val hg fun S ι w a hrs _ => by
    subst hq
    obtain ⟨cs, hr, hu⟩ := hx.ev hrs
    cases hr with
    | pto _ _ b o' cs hS hx' hc =>
    refine ⟨a.eval x, ?_, b, o', cs, hu, hS, hx', hc⟩
    unfold execOp
    rw [ho]
    have hu' : a.eval x = .pointer (some ⟨b, o', none⟩) := hu
    simp only [hu', Sem.run_pure]
end
end Go.AM

namespace Go.AM

inductive Ob (U : Univ) where
  | o (t : Ty) (x : Option (t.den U.T))
  | u (x : Option UInt8)
  | p (q : Prop)
  | n (k : Nat)
  | b (k : Bool)
  | v (x : AVal U)
  | k (x : Blk U)
  | w (o : Oper)

def opAt (ops : Array Oper) (i : Nat) : Oper := ops.toList.getD i default
inductive IT (U : Univ) (O : Out) (P : Program) (ops : Array Oper) where
  | v (t : Ty) {q : Option (t.den U.T)} {x : t.den U.T} (h : q = some x)
  | u {q : Option UInt8} {x : UInt8} (h : q = some x)
  | g {p : Prop} (h : p)
  | t {b : Bool} (h : b = true)
  | f {b : Bool} (h : b = false)
  | c {f : FuncId} {c : CSpec U} (h : COk U O P f c)
  | e (i : Nat) {s : LSpec U} (h : SOk U O P ops { opAt ops i with guard := none } s)

structure Tab (U : Univ) where
  ty : List (TypeId × Ty) := []
  sl : List (TypeId × TypeId × Ty) := []
  fd : List (TypeId × Nat × Nat × Ty) := []
  un : TypeId → Option TypeDesc
  ro : List (TypeId × TypeId × Ty × Nat) := []
  mp : List (TypeId × TypeId × TypeId) := []
  zd : List (TypeId × AVal U) := []
  az : List (TypeId × List (AVal U)) := []
  bz : List (TypeId × List (AVal U) × List (Nat × Nat × Ty)) := []
  hb : List FuncId := []

def AllP {α : Type} (Q : α → Prop) : List α → Prop
  | [] => True
  | x :: l => Q x ∧ AllP Q l
theorem AllP.c {α : Type} {Q : α → Prop} {x : α} {l : List α} (h : Q x) (hl : AllP Q l) : AllP Q (x :: l) := ⟨h, hl⟩
theorem AllP.z {α : Type} {Q : α → Prop} : AllP Q [] := trivial
theorem AllP.mem {α : Type} {Q : α → Prop} : ∀ {l : List α}, AllP Q l → ∀ x ∈ l, Q x
  | _ :: _, h, _, .head _ => h.1
  | _ :: _, h, _, .tail _ hx => AllP.mem h.2 _ hx

def ZdOk (P : Program) (U : Univ) (T : TypeId) : AVal U → Prop
  | .p t z => ZeroOk P U T t z
  | _ => False
structure TbOk (P : Program) (U : Univ) (b : Tab U) : Prop where
  ty : AllP (fun x => TyOk P U x.1 x.2) b.ty
  sl : AllP (fun x => SlOk P U x.1 x.2.1 x.2.2) b.sl
  fd : AllP (fun x => ∃ F, FdOk P U x.1 x.2.1 x.2.2.1 F x.2.2.2) b.fd
  un : ∀ T d, b.un T = some d → P.underlying T = some d
  ro : AllP (fun x => RowOk P U x.1 x.2.1 x.2.2.1 x.2.2.2) b.ro
  mp : AllP (fun x => MapOk P x.1 x.2.1 x.2.2) b.mp
  zd : AllP (fun x => ZdOk P U x.1 x.2) b.zd
  az : AllP (fun x => ∃ v cs, (P.info? x.1).bind (·.zero) = some v ∧ v.cells.toList = cs ∧ ZU U x.2 cs) b.az
  bz : AllP (fun x => ∃ z pl, lays P x.1 = some (z, pl) ∧ ZU U x.2.1 z ∧ (List.range x.2.2.length).map pl = x.2.2.map fun y => some (y.1, y.2.1)) b.bz
  hb : AllP (fun x => HasBody P x) b.hb

def AVal.int? {U : Univ} : AVal U → Option (IntKind × Int)
  | .p (.int k) n => some (k, n)
  | _ => none
def AVal.str? {U : Univ} : AVal U → Option (List UInt8)
  | .p .str s => some s
  | _ => none
def AVal.bool? {U : Univ} : AVal U → Option Bool
  | .p .bool s => some s
  | _ => none
def AVal.asP {U : Univ} (t : Ty) : AVal U → Option (t.den U.T)
  | .p t' x => if h : t' = t then some (h ▸ x) else none
  | _ => none

section
variable {U : Univ}
theorem AVal.int?_eq {v : AVal U} {k : IntKind} {n : Int} (h : v.int? = some (k, n)) : v = .p (.int k) n := by
  unfold AVal.int? at h
  split at h
  · cases h; rfl
  · cases h
theorem AVal.bool?_eq {v : AVal U} {s : Bool} (h : v.bool? = some s) : v = .p .bool s := by
  unfold AVal.bool? at h
  split at h
  · cases h; rfl
  · cases h
theorem AVal.asP_eq {t : Ty} {v : AVal U} {x : t.den U.T} (h : v.asP t = some x) : v = .p t x := by
  unfold AVal.asP at h
  split at h
  · split at h
    · rename_i h'; subst h'; cases h; rfl
    · cases h
  · cases h

def opd (rs : List (Nat × AVal U)) : Operand → Option (AVal U)
  | .tmp t => lookA rs t
  | .const (.int k n) => some (.p (.int k) n)
  | .const (.bool b) => some (.p .bool b)
  | .const (.string b) => some (.p .str b.data.toList)
  | .const v => bif v.oneCell' then some (.lit v) else none
  | .global g => some (.lit (.pointer (some ⟨g, 0, none⟩)))
  | .func f => some (.clo f [])
theorem opd_ok {rs : List (Nat × AVal U)} {x : Operand} {v : AVal U} (h : opd rs x = some v) : Opd U rs x v := by
  unfold opd at h
  split at h
  · exact .tmp (lookA_mem h)
  · cases h; exact .int _ _ _
  · cases h; exact .bool _ _
  · cases h; exact .str _ _
  · rename_i w _ _ _
    cases hw : w.oneCell' with
    | true => rw [hw] at h; cases h; exact .lit _ _ hw
    | false => rw [hw] at h; cases h
  · cases h; exact .glob _ _
  · cases h; exact .func _ _

def opdP (rs : List (Nat × AVal U)) (t : Ty) : Operand → Option (t.den U.T)
  | .const (.slice none 0 0) => match t with
    | .list _ => some []
    | _ => none
  | .const .nilIface => match t with
    | .err => some (0 : Nat)
    | _ => none
  | x => (opd rs x).bind (AVal.asP t)
theorem opdP_ok {rs : List (Nat × AVal U)} {t : Ty} {x : Operand} {v : t.den U.T} (h : opdP rs t x = some v) : Opd U rs x (.p t v) := by
  unfold opdP at h
  split at h
  · split at h
    · cases h; exact .lnil _ _
    · cases h
  · split at h
    · cases h; exact .err0 _
    · cases h
  · obtain ⟨w, h1, h2⟩ := bind_some h
    rw [← AVal.asP_eq h2]; exact opd_ok h1

def tmpsOf : List Operand → List Nat
  | [] => []
  | .tmp t :: l => t :: tmpsOf l
  | _ :: l => tmpsOf l
def rsOf (sl : List (Nat × AVal U)) (xs : List Operand) : List (Nat × AVal U) := takeA sl (tmpsOf xs)

structure VR (U : Univ) where
  v : AVal U
  L : List (Ob U) := []
  R : List (Ob U) := []
variable {O : Out} {P : Program} {ops : Array Oper}

def binI (op : BinOp) (k : IntKind) (m n : Int) (it : Option (IT U O P ops)) : Option (VR U) :=
  match arith op k m n with
  | some r => some { v := .p (.int k) r }
  | none => match cmpI op m n with
    | some r => some { v := .p .bool r }
    | none => match it with
      | some (@IT.g _ _ _ _ p _) => match op with
        | .quo => some { v := .p (.int k) (k.wrap (Int.tdiv m n)), L := [.p p], R := [.p (n ≠ 0)] }
        | .rem => some { v := .p (.int k) (Int.tmod m n), L := [.p p], R := [.p (n ≠ 0)] }
        | _ => none
      | _ => none
def isShift : BinOp → Bool | .shl => true | .shr => true | _ => false
def binK (op : BinOp) (k : IntKind) (m n : Int) (it : Option (IT U O P ops)) : Option (VR U) :=
  match it with
  | some (@IT.g _ _ _ _ p _) => match op with
    | .shl => some { v := .p (.int k) (k.wrap (m * 2 ^ (min n.toNat k.bits))), L := [.p p], R := [.p ((0 : Int) ≤ n)] }
    | .shr => some { v := .p (.int k) (m.fdiv (2 ^ (min n.toNat k.bits))), L := [.p p], R := [.p ((0 : Int) ≤ n)] }
    | _ => none
  | _ => match op with
    | .shl => bif (decide (0 ≤ n)) then some { v := .p (.int k) (k.wrap (m * 2 ^ (min n.toNat k.bits))) } else none
    | .shr => bif (decide (0 ≤ n)) then some { v := .p (.int k) (m.fdiv (2 ^ (min n.toNat k.bits))) } else none
    | _ => none
def binS (op : BinOp) (m n : List UInt8) (it : Option (IT U O P ops)) : Option (VR U) :=
  match cmpS op m n with
  | some r => some { v := .p .bool r }
  | none => match op, it with
    | .add, some (@IT.g _ _ _ _ p _) => some { v := .p .str (m ++ n), L := [.p p], R := [.p (m.length + n.length ≤ 9223372036854775807)] }
    | _, _ => none
def isIfc : Option TypeDesc → Bool | some (.interface _) => true | _ => false
def isPtr : Option TypeDesc → Bool | some (.pointer _) => true | _ => false
def isBoolD : Option TypeDesc → Bool | some .bool => true | _ => false
def isStrD : Option TypeDesc → Bool | some .string => true | _ => false
def isNilI : Operand → Bool | .const .nilIface => true | _ => false
def isNilP : Operand → Bool | .const (.pointer none) => true | _ => false
def ptrNil : AVal U → Option Bool
  | .loc _ _ => some false
  | .lit (.pointer none) => some true
  | .opt q _ => some (!q)
  | .p (.ptr _) q => some (Option.isNone q)
  | _ => none
def stBin (tb : Tab U) (rs : List (Nat × AVal U)) (op : BinOp) (t : TypeId) (x y : Operand) (it : Option (IT U O P ops)) : Option (VR U) :=
  (opd rs x).bind fun vx =>
  bif isNilP y then
    bif isPtr (tb.un t) then (ptrNil vx).bind fun q => match op with
      | .eql => some { v := .p .bool q }
      | .neq => some { v := .p .bool (!q) }
      | _ => none
    else none
  else bif isNilI y then
    bif isIfc (tb.un t) then (vx.asP .err).bind fun k => (errIs op k).bind fun r => some { v := .p .bool r } else none
  else (opd rs y).bind fun vy => match vx with
    | .p (.int k) m => bif isShift op then vy.int?.bind fun n => binK op k m n.2 it else (vy.asP (.int k)).bind fun n => binI op k m n it
    | .p .str m => (vy.asP .str).bind fun n => binS op m n it
    | .p .bool m => (vy.asP .bool).bind fun (n : Bool) => bif isBoolD (tb.un t) then (match op with
      | .eql => some { v := .p .bool (BEq.beq (α := Bool) m n) }
      | .neq => some { v := .p .bool (!(BEq.beq (α := Bool) m n)) }
      | _ => none) else none
    | _ => none
def stUn (rs : List (Nat × AVal U)) (op : UnOp) (x : Operand) : Option (VR U) :=
  (opd rs x).bind fun vx => match vx, op with
    | .p .bool b, .not => some { v := .p .bool (!b) }
    | .p (.int k) n, .neg => some { v := .p (.int k) (k.wrap (Int.sub 0 n)) }
    | .p (.int k) n, .xor => some { v := .p (.int k) (bits .xor k (if k.signed then -1 else k.max) n) }
    | _, _ => none
end

section
variable {U : Univ} {O : Out} {P : Program} {S : Nat → Prop} {ι : Lay} {w : World} {rs : List (Nat × AVal U)} {a : Act} {ops : Array Oper} {o : Oper} {tb : Tab U}

theorem bif_some {α : Type} {b : Bool} {x : Option α} {y : α} (h : (bif b then x else none) = some y) : b = true ∧ x = some y := by
  cases b with
  | true => exact ⟨rfl, h⟩
  | false => cases h

theorem binI_ok {op : BinOp} {t t' : TypeId} {x y : Operand} {k : IntKind} {m n : Int} {it : Option (IT U O P ops)} {r : VR U} (hg : o.guard = none) (ho : o.op = .binOp op t x y t')
    (hx : Opd U rs x (.p (.int k) m)) (hy : Opd U rs y (.p (.int k) n)) (h : binI op k m n it = some r) (e : r.L = r.R) : SOk U O P ops o { rs := rs, ws := r.v } := by
  unfold binI at h
  split at h
  · rename_i r' hr; cases h; exact sok_arith hg ho hx hy hr
  split at h
  · rename_i r' hr; cases h; exact sok_cmp hg ho hx hy hr
  split at h
  · rename_i p hp
    split at h
    · cases h; simp only [List.cons.injEq, Ob.p.injEq, and_true] at e
      exact sok_quo hg ho hx hy (e ▸ hp)
    · cases h; simp only [List.cons.injEq, Ob.p.injEq, and_true] at e
      exact sok_rem hg ho hx hy (e ▸ hp)
    · cases h
  · cases h
theorem binK_ok {op : BinOp} {t t' : TypeId} {x y : Operand} {k k' : IntKind} {m n : Int} {it : Option (IT U O P ops)} {r : VR U} (hg : o.guard = none) (ho : o.op = .binOp op t x y t')
    (hx : Opd U rs x (.p (.int k) m)) (hy : Opd U rs y (.p (.int k') n)) (h : binK op k m n it = some r) (e : r.L = r.R) : SOk U O P ops o { rs := rs, ws := r.v } := by
  unfold binK at h
  split at h
  · rename_i p hp
    split at h
    · cases h; simp only [List.cons.injEq, Ob.p.injEq, and_true] at e
      exact sok_shl hg ho hx hy (e ▸ hp)
    · cases h; simp only [List.cons.injEq, Ob.p.injEq, and_true] at e
      exact sok_shr hg ho hx hy (e ▸ hp)
    · cases h
  · split at h
    · obtain ⟨h1, h2⟩ := bif_some h; cases h2; exact sok_shl hg ho hx hy (of_decide_eq_true h1)
    · obtain ⟨h1, h2⟩ := bif_some h; cases h2; exact sok_shr hg ho hx hy (of_decide_eq_true h1)
    · cases h
theorem binS_ok {op : BinOp} {t t' : TypeId} {x y : Operand} {m n : List UInt8} {it : Option (IT U O P ops)} {r : VR U} (hg : o.guard = none) (ho : o.op = .binOp op t x y t')
    (hx : Opd U rs x (.p .str m)) (hy : Opd U rs y (.p .str n)) (h : binS op m n it = some r) (e : r.L = r.R) : SOk U O P ops o { rs := rs, ws := r.v } := by
  unfold binS at h
  split at h
  · rename_i r' hr; cases h; exact sok_cmpS hg ho hx hy hr
  split at h
  · rename_i p hp _
    cases h; simp only [List.cons.injEq, Ob.p.injEq, and_true] at e
    exact sok_cat hg ho hx hy (e ▸ hp)
  · cases h
theorem TbOk.un' (ht : TbOk P U tb) {T : TypeId} {d : TypeDesc} (h : tb.un T = some d) : P.underlying T = some d := ht.un _ _ h
theorem ptrNil_ok {v : AVal U} {q : Bool} (h : ptrNil v = some q) : PtrV U v q := by
  unfold ptrNil at h
  split at h
  · cases h; exact ptrV_loc
  · cases h; exact ptrV_nil
  · cases h; exact ptrV_opt
  · cases h; exact ptrV_p
  · cases h
theorem stBin_ok (htb : TbOk P U tb) {op : BinOp} {t t' : TypeId} {x y : Operand} {it : Option (IT U O P ops)} {r : VR U} (hg : o.guard = none) (ho : o.op = .binOp op t x y t')
    (h : stBin tb rs op t x y it = some r) (e : r.L = r.R) : SOk U O P ops o { rs := rs, ws := r.v } := by
  unfold stBin at h
  obtain ⟨vx, hx, h'⟩ := bind_some h; replace h := h'; clear h'
  have hx := opd_ok hx
  cases hn : isNilP y with
  | true =>
    rw [hn, cond_true] at h
    obtain ⟨hp, h'⟩ := bif_some h; replace h := h'; clear h'
    obtain ⟨q, hq, h'⟩ := bind_some h; replace h := h'; clear h'
    have hy : y = .const (.pointer none) := by
      unfold isNilP at hn; split at hn
      · rfl
      · cases hn
    subst hy
    obtain ⟨E, hE⟩ : ∃ E, tb.un t = some (.pointer E) := by
      unfold isPtr at hp; split at hp
      · exact ⟨_, by assumption⟩
      · cases hp
    split at h
    · cases h; exact sok_eqPN hg ho (htb.un' hE) hx (ptrNil_ok hq)
    · cases h; exact sok_nePN hg ho (htb.un' hE) hx (ptrNil_ok hq)
    · cases h
  | false =>
  rw [hn, cond_false] at h
  cases hi : isNilI y with
  | true =>
    rw [hi, cond_true] at h
    obtain ⟨hp, h'⟩ := bif_some h; replace h := h'; clear h'
    obtain ⟨k, hk, h'⟩ := bind_some h; replace h := h'; clear h'
    obtain ⟨r', hr, h'⟩ := bind_some h; replace h := h'; clear h'
    have hy : y = .const .nilIface := by
      unfold isNilI at hi; split at hi
      · rfl
      · cases hi
    subst hy
    obtain ⟨ms, hE⟩ : ∃ E, tb.un t = some (.interface E) := by
      unfold isIfc at hp; split at hp
      · exact ⟨_, by assumption⟩
      · cases hp
    rw [AVal.asP_eq hk] at hx
    cases h; exact sok_errNil hg ho (htb.un' hE) hx hr
  | false =>
  rw [hi, cond_false] at h
  obtain ⟨vy, hy, h'⟩ := bind_some h; replace h := h'; clear h'
  have hy := opd_ok hy
  split at h
  · cases hs : isShift op with
    | true =>
      rw [hs, cond_true] at h
      obtain ⟨⟨k', n⟩, hv, h1⟩ := bind_some h
      rw [AVal.int?_eq hv] at hy
      exact binK_ok hg ho hx hy h1 e
    | false =>
      rw [hs, cond_false] at h
      obtain ⟨n, hv, h1⟩ := bind_some h
      rw [AVal.asP_eq hv] at hy
      exact binI_ok hg ho hx hy h1 e
  · obtain ⟨n, hv, h'⟩ := bind_some h; replace h := h'; clear h'
    rw [AVal.asP_eq hv] at hy
    exact binS_ok hg ho hx hy h e
  · obtain ⟨n, hv, h'⟩ := bind_some h; replace h := h'; clear h'
    rw [AVal.asP_eq hv] at hy
    obtain ⟨hb, h'⟩ := bif_some h; replace h := h'; clear h'
    have hE : tb.un t = some .bool := by
      unfold isBoolD at hb; split at hb
      · assumption
      · cases hb
    split at h
    · cases h; exact sok_eqB hg ho (htb.un' hE) hx hy
    · cases h; exact sok_neB hg ho (htb.un' hE) hx hy
    · cases h
  · cases h
theorem stUn_ok {op : UnOp} {t : TypeId} {x : Operand} {r : VR U} (hg : o.guard = none) (ho : o.op = .unOp op t x) (h : stUn rs op x = some r) : SOk U O P ops o { rs := rs, ws := r.v } := by
  unfold stUn at h
  obtain ⟨vx, hx, h'⟩ := bind_some h; replace h := h'; clear h'
  have hx := opd_ok hx
  split at h
  · cases h; exact sok_not hg ho hx
  · cases h; exact sok_neg hg ho hx
  · cases h; exact sok_compl hg ho hx
  · cases h
end
end Go.AM

namespace Go.AM

section
variable (U : Univ)
def dfst {a b : Ty} (x : (Ty.pair a b).den U.T) : a.den U.T := Prod.fst x
def dsnd {a b : Ty} (x : (Ty.pair a b).den U.T) : b.den U.T := Prod.snd x
def dpair {a b : Ty} (x : a.den U.T) (y : b.den U.T) : (Ty.pair a b).den U.T := (x, y)
def compD : Nat → (t : Ty) → t.den U.T → Nat → (t' : Ty) → Option (t'.den U.T)
  | 0, _, _, _, _ => none
  | f + 1, t, x, o, t' => if h : t = t' ∧ o = 0 then some (h.1 ▸ x) else
    match t, x with
    | .pair a b, x => bif Nat.blt o (a.width U.wd) then compD f a (dfst U x) o t' else compD f b (dsnd U x) (o - a.width U.wd) t'
    | .named n, x => compD f (U.body n) (U.out n x) o t'
    | _, _ => none
def setD : Nat → (t : Ty) → t.den U.T → Nat → (t' : Ty) → t'.den U.T → Option (t.den U.T)
  | 0, _, _, _, _, _ => none
  | f + 1, t, x, o, t', z => if h : t' = t ∧ o = 0 then some (h.1 ▸ z) else
    match t, x with
    | .pair a b, x => bif Nat.blt o (a.width U.wd) then (setD f a (dfst U x) o t' z).bind fun y => some (dpair U y (dsnd U x)) else (setD f b (dsnd U x) (o - a.width U.wd) t' z).bind fun y => some (dpair U (dfst U x) y)
    | .named n, x => (setD f (U.body n) (U.out n x) o t' z).bind fun y => some (U.inn n y)
    | _, _ => none
def explD : Nat → (t : Ty) → t.den U.T → List (AVal U)
  | 0, t, x => [.p t x]
  | f + 1, .pair a b, x => explD f a (dfst U x) ++ explD f b (dsnd U x)
  | _ + 1, .unit, _ => []
  | f + 1, .named n, x => explD f (U.body n) (U.out n x)
  | _ + 1, t, x => [.p t x]
def implD : Nat → (t : Ty) → List (AVal U) → Option (t.den U.T × List (AVal U))
  | 0, _, _ => none
  | f + 1, .pair a b, us => (implD f a us).bind fun x => (implD f b x.2).bind fun y => some (dpair U x.1 y.1, y.2)
  | _ + 1, .unit, us => some ((), us)
  | f + 1, .named n, us => (implD f (U.body n) us).bind fun x => some (U.inn n x.1, x.2)
  | _ + 1, t, us => match us with
    | v :: r => (v.asP t).bind fun x => some (x, r)
    | [] => none
def cutU : List (AVal U) → Nat → Option (List (AVal U) × List (AVal U))
  | us, 0 => some ([], us)
  | [], _ + 1 => none
  | v :: us, n + 1 => bif Nat.ble v.wid (n + 1) then (cutU us (n + 1 - v.wid)).bind fun x => some (v :: x.1, x.2) else none
def inU : List (AVal U) → Nat → Option (List (AVal U) × AVal U × Nat × List (AVal U))
  | [], _ => none
  | v :: us, n => bif Nat.blt n v.wid then some ([], v, n, us) else (inU us (n - v.wid)).bind fun x => some (v :: x.1, x.2)
end

section
variable {U : Univ}
theorem blt_no {a b : Nat} (h : Nat.blt a b = false) : ¬ a < b := fun h' => by
  rw [show Nat.blt a b = true from Nat.ble_eq_true_of_le h'] at h; cases h
theorem compD_ok : ∀ (f : Nat) {t : Ty} {x : t.den U.T} {o : Nat} {t' : Ty} {z : t'.den U.T}, compD U f t x o t' = some z → Comp U t x o t' z
  | 0, _, _, _, _, _, h => by cases h
  | f + 1, t, x, o, t', z, h => by
    by_cases e : t = t' ∧ o = 0
    · unfold compD at h; rw [dif_pos e] at h
      obtain ⟨rfl, rfl⟩ := e; cases h; exact .here _ _
    · unfold compD at h; rw [dif_neg e] at h
      cases t with
      | pair a b =>
        have h : (bif Nat.blt o (a.width U.wd) then compD U f a (dfst U x) o t' else compD U f b (dsnd U x) (o - a.width U.wd) t') = some z := h
        cases hb : Nat.blt o (a.width U.wd) with
        | true => rw [hb, cond_true] at h; exact .fst (compD_ok f h)
        | false => rw [hb, cond_false] at h; exact .snd (compD_ok f h) (by have := blt_no hb; omega)
      | named n => exact .named (compD_ok f h)
      | _ => cases h
theorem setD_ok : ∀ (f : Nat) {t : Ty} {x : t.den U.T} {o : Nat} {t' : Ty} {z : t'.den U.T} {y : t.den U.T}, setD U f t x o t' z = some y → CompS U t x o t' z y
  | 0, _, _, _, _, _, _, h => by cases h
  | f + 1, t, x, o, t', z, y, h => by
    by_cases e : t' = t ∧ o = 0
    · unfold setD at h; rw [dif_pos e] at h
      obtain ⟨rfl, rfl⟩ := e; cases h; exact .here
    · unfold setD at h; rw [dif_neg e] at h
      cases t with
      | pair a b =>
        have h : (bif Nat.blt o (a.width U.wd) then (setD U f a (dfst U x) o t' z).bind fun y => some (dpair U y (dsnd U x)) else (setD U f b (dsnd U x) (o - a.width U.wd) t' z).bind fun y => some (dpair U (dfst U x) y)) = some y := h
        cases hb : Nat.blt o (a.width U.wd) with
        | true =>
          rw [hb, cond_true] at h
          obtain ⟨y', h1, h2⟩ := bind_some h
          cases h2; exact .fst (setD_ok f h1)
        | false =>
          rw [hb, cond_false] at h
          obtain ⟨y', h1, h2⟩ := bind_some h
          cases h2; exact .snd (setD_ok f h1) (by have := blt_no hb; omega)
      | named n =>
        have h : ((setD U f (U.body n) (U.out n x) o t' z).bind fun y => some (U.inn n y)) = some y := h
        obtain ⟨y', h1, h2⟩ := bind_some h
        cases h2; exact .named (by rw [U.out_inn]; exact setD_ok f h1)
      | _ => cases h
theorem explD_ok : ∀ (f : Nat) (t : Ty) (x : t.den U.T), Expl U t x (explD U f t x)
  | 0, t, x => .one _ _
  | f + 1, t, x => by
    cases t with
    | pair a b => exact .pair (explD_ok f a (dfst U x)) (explD_ok f b (dsnd U x))
    | unit => exact .unit
    | named n => exact .named (explD_ok f _ _)
    | _ => exact .one _ _
theorem implOne {t : Ty} {us r : List (AVal U)} {x : t.den U.T} (h : (match us with | v :: r => (v.asP t).bind fun x => some (x, r) | [] => none) = some (x, r)) : ∃ ms, us = ms ++ r ∧ Expl U t x ms := by
  cases us with
  | nil => cases h
  | cons v us =>
    obtain ⟨y, h1, h2⟩ := bind_some h
    cases h2
    rw [AVal.asP_eq h1]
    exact ⟨[_], rfl, .one _ _⟩
theorem implD_ok : ∀ (f : Nat) {t : Ty} {us r : List (AVal U)} {x : t.den U.T}, implD U f t us = some (x, r) → ∃ ms, us = ms ++ r ∧ Expl U t x ms
  | 0, _, _, _, _, h => by cases h
  | f + 1, t, us, r, x, h => by
    cases t with
    | pair a b =>
      have h : ((implD U f a us).bind fun x => (implD U f b x.2).bind fun y => some (dpair U x.1 y.1, y.2)) = some (x, r) := h
      obtain ⟨y, h1, h2⟩ := bind_some h
      obtain ⟨y', h3, h4⟩ := bind_some h2
      obtain ⟨m1, e1, g1⟩ := implD_ok f h1
      obtain ⟨m2, e2, g2⟩ := implD_ok f h3
      cases h4
      exact ⟨m1 ++ m2, by rw [e1, e2, List.append_assoc], .pair g1 g2⟩
    | unit => cases h; exact ⟨[], rfl, .unit⟩
    | named n =>
      have h : ((implD U f (U.body n) us).bind fun x => some (U.inn n x.1, x.2)) = some (x, r) := h
      obtain ⟨y, h1, h2⟩ := bind_some h
      obtain ⟨m1, e1, g1⟩ := implD_ok f h1
      cases h2
      exact ⟨m1, e1, .named (by rw [U.out_inn]; exact g1)⟩
    | _ => exact implOne h
theorem cutU_ok : ∀ {us : List (AVal U)} {n : Nat} {a b : List (AVal U)}, cutU U us n = some (a, b) → us = a ++ b ∧ unitsW a = n
  | us, 0, _, _, h => by unfold cutU at h; cases h; exact ⟨rfl, rfl⟩
  | [], _ + 1, _, _, h => by cases h
  | v :: us, n + 1, a, b, h => by
    unfold cutU at h
    obtain ⟨h1, h2⟩ := bif_some h
    obtain ⟨y, h3, h4⟩ := bind_some h2
    cases h4
    obtain ⟨e1, e2⟩ := cutU_ok h3
    have := Nat.le_of_ble_eq_true h1
    exact ⟨by rw [List.cons_append, ← e1], by simp only [unitsW, List.map_cons, List.sum_cons] at e2 ⊢; omega⟩
theorem inU_ok : ∀ {us : List (AVal U)} {n : Nat} {a : List (AVal U)} {v : AVal U} {k : Nat} {b : List (AVal U)}, inU U us n = some (a, v, k, b) → us = a ++ [v] ++ b ∧ n = unitsW a + k
  | [], _, _, _, _, _, h => by cases h
  | v :: us, n, a, v', k, b, h => by
    unfold inU at h
    cases hb : Nat.blt n v.wid with
    | true => rw [hb, cond_true] at h; cases h; exact ⟨rfl, by simp [unitsW]⟩
    | false =>
      rw [hb, cond_false] at h
      obtain ⟨⟨y1, y2, y3, y4⟩, h3, h4⟩ := bind_some h
      cases h4
      obtain ⟨e1, e2⟩ := inU_ok h3
      have := blt_no hb
      exact ⟨by rw [e1]; rfl, by simp only [unitsW, List.map_cons, List.sum_cons] at e2 ⊢; omega⟩

def madeD (t : Ty) (us : List (AVal U)) : Option (AVal U) :=
  match t with
  | .named n => match implD U 32 (.named n) us with
    | some (x, []) => some (.p (.named n) x)
    | _ => some (.agg us)
  | t => match us with
    | [v] => match v.asP t with
      | some x => some (.p t x)
      | none => bif t.isAgg then some (.agg us) else bif v.isHand then some v else none
    | us => bif t.isAgg then some (.agg us) else none
theorem madeD_ok {t : Ty} {us : List (AVal U)} {v : AVal U} (h : madeD t us = some v) : Made U t us v := by
  unfold madeD at h
  split at h
  · split at h
    · rename_i he
      obtain ⟨m, e, g⟩ := implD_ok _ he
      rw [List.append_nil] at e
      cases h; rw [e]; exact .data g
    · cases h; exact .agg rfl
  · split at h
    · split at h
      · rename_i he; cases h; rw [AVal.asP_eq he]; exact .data (.one _ _)
      · rename_i _ _ _ v' _
        cases ha : t.isAgg with
        | true => rw [ha] at h; cases h; exact .agg ha
        | false =>
          rw [ha, cond_false] at h
          obtain ⟨h1, h2⟩ := bif_some h
          cases h2; exact .hand h1 ha
    · obtain ⟨h1, h2⟩ := bif_some h
      cases h2; exact .agg h1
def unitsD (v : AVal U) : Option (List (AVal U)) :=
  match v with
  | .p t x => some (explD U 32 t x)
  | .agg us => some us
  | v => bif v.unit then some [v] else none
theorem unitsD_ok {v : AVal U} {us : List (AVal U)} (h : unitsD v = some us) : Units U v us := by
  unfold unitsD at h
  split at h
  · cases h; exact .data (explD_ok _ _ _)
  · cases h; exact .agg
  · obtain ⟨h1, h2⟩ := bif_some h
    cases h2; exact .hand h1

variable {O : Out} {P : Program} {ops : Array Oper} {o : Oper} {rs : List (Nat × AVal U)} {tb : Tab U}
theorem SOk.ws {s : LSpec U} {v : AVal U} (h : SOk U O P ops o s) (hv : ∀ S ι w u, VV U O S ι w s.ws u → VV U O S ι w v u) : SOk U O P ops o { s with ws := v } :=
  fun S ι w a h1 h2 h3 h4 h5 h6 K Q hK => h S ι w a h1 h2 h3 h4 h5 h6 K Q fun u S' ι' w' hN hu => hK u S' ι' w' ⟨hN.os, hN.tape, hN.output, hN.size, hN.sub, hN.new, hN.lt, hN.keep, hN.lay, hN.blk, hN.plc, hN.sep⟩ (hv _ _ _ _ hu)

theorem sok_indexA2 {T E : TypeId} {t : Ty} {n off N : Nat} {x y : Operand} {k : IntKind} {i : Int} (hg : o.guard = none) (ho : o.op = .indexAddr T x y) (hT : P.underlying T = some (.array N E)) (hE : TyOk P U E t)
    (hx : Opd U rs x (.loc n off)) (hq : off % t.width U.wd = 0) (hy : Opd U rs y (.p (.int k) i)) (hi : 0 ≤ i ∧ i < (N : Int)) :
    SOk U O P ops o { rs := rs, ws := .eloc n (t.width U.wd) i.toNat off } := by
  have hq' : off = off / t.width U.wd * t.width U.wd := by have := Nat.div_add_mod off (t.width U.wd); rw [hq, Nat.mul_comm] at this; exact this.symm
  refine SOk.ws (sok_indexA hg ho hT hE hx hq' hy hi) fun S ι w u h => ?_
  obtain ⟨b, c, h1, h2⟩ := h
  refine ⟨b, c, h1, ?_⟩
  rw [h2]
  have : (off / t.width U.wd + i.toNat) * t.width U.wd + 0 = i.toNat * t.width U.wd + off := by rw [Nat.add_mul, ← hq']; omega
  rw [this]
end
end Go.AM

namespace Go.AM

structure MR (U : Univ) where
  v : AVal U := .junk
  ro : List (Nat × Blk U) := []
  cb : List (Nat × Blk U) := []
  pb : List (Nat × Blk U) := []
  nn : List Nat := []
  L : List (Ob U) := []
  R : List (Ob U) := []
def MR.spec {U : Univ} (r : MR U) (rs : List (Nat × AVal U)) : LSpec U := { rs := rs, ro := r.ro, cb := r.cb, ws := r.v, pb := r.pb, nn := r.nn }

section
variable {U : Univ} {O : Out} {P : Program} {ops : Array Oper}
def bdOf (rs : List (Nat × AVal U)) (d : Int) : Option Operand → Option Int
  | none => some d
  | some x => (opd rs x).bind fun v => v.int?.bind fun k => some k.2
def stMove (rs : List (Nat × AVal U)) (x : Operand) : MR U := { v := (opd rs x).getD .junk }
def stPick (rs : List (Nat × AVal U)) (kn : Option (IT U O P ops)) (c x y : Operand) : Option (MR U) :=
  (opd rs c).bind fun vc => vc.bool?.bind fun b => match kn with
    | some (@IT.t _ _ _ _ b' _) => (opd rs x).bind fun v => some { v := v, L := [.b b], R := [.b b'] }
    | some (@IT.f _ _ _ _ b' _) => (opd rs y).bind fun v => some { v := v, L := [.b b], R := [.b b'] }
    | _ => match b with
      | true => (opd rs x).bind fun v => some { v := v }
      | false => (opd rs y).bind fun v => some { v := v }
def stIdxA (tb : Tab U) (rs : List (Nat × AVal U)) (T : TypeId) (x y : Operand) (it : Option (IT U O P ops)) : Option (MR U) :=
  (opd rs x).bind fun vx => (opd rs y).bind fun vy => vy.int?.bind fun i => match vx, it with
    | .p (.list t) xs, some (@IT.v _ _ _ _ t2 q e _) => (lookA tb.sl T).bind fun s => bif decide (s.2 = t) then some { v := .pp t2 e, L := [.o t2 q], R := [.o t (idx xs i.2)] } else none
    | .vec n wd off len, some (@IT.g _ _ _ _ p _) => (lookA tb.sl T).bind fun s => bif wd == s.2.width U.wd then some { v := .eloc n wd (off + i.2.toNat) 0, L := [.p p], R := [.p (0 ≤ i.2 ∧ i.2 < (len : Int))] } else none
    | .loc n off, some (@IT.g _ _ _ _ p _) => (tb.un T).bind fun d => match d with
      | .array N E => (lookA tb.ty E).bind fun t => bif off % t.width U.wd == 0 then some { v := .eloc n (t.width U.wd) i.2.toNat off, L := [.p p], R := [.p (0 ≤ i.2 ∧ i.2 < (N : Int))] } else none
      | _ => none
    | _, _ => none
def stIdx (tb : Tab U) (rs : List (Nat × AVal U)) (T : TypeId) (x y : Operand) (it : Option (IT U O P ops)) : Option (MR U) :=
  (opd rs x).bind fun vx => (opd rs y).bind fun vy => vy.int?.bind fun i => match vx, it with
    | .p .str s, some (@IT.u _ _ _ _ q c _) => bif isStrD (tb.un T) then some { v := .p (.int .u8) (c.toNat : Int), L := [.u q], R := [.u (idx s i.2)] } else none
    | .p (.arr N t) xs, some (@IT.v _ _ _ _ t2 q e _) => (tb.un T).bind fun d => match d with
      | .array N' E => (lookA tb.ty E).bind fun t' => bif N' == N && decide (t' = t) then some { v := .p t2 e, L := [.o t2 q], R := [.o t (idx xs i.2)] } else none
      | _ => none
    | _, _ => none
def stSlice (tb : Tab U) (rs : List (Nat × AVal U)) (hp : List (Nat × Blk U)) (T : TypeId) (x : Operand) (lo hi : Option Operand) (it : Option (IT U O P ops)) : Option (MR U) :=
  (opd rs x).bind fun vx => (bdOf rs 0 lo).bind fun l => match vx with
    | .p .str s => (bdOf rs (s.length : Int) hi).bind fun h => match it with
      | some (@IT.v _ _ _ _ t2 q e _) => bif isStrD (tb.un T) then some { v := .p t2 e, L := [.o t2 q], R := [.o .str (sub s l h)] } else none
      | _ => none
    | .p (.list t) s => (bdOf rs ((s : List (t.den U.T)).length : Int) hi).bind fun h => match it with
      | some (@IT.v _ _ _ _ t2 q e _) => (lookA tb.sl T).bind fun z => bif decide (z.2 = t) then some { v := .p t2 e, L := [.o t2 q], R := [.o (.list t) (sub s l h)] } else none
      | _ => none
    | .vec n wd off len => (bdOf rs (len : Int) hi).bind fun h => match it with
      | some (@IT.g _ _ _ _ p _) => (lookA tb.sl T).bind fun z => match lookA hp n with
        | some (.row E t xs fx) => bif decide (z = (E, t)) && wd == t.width U.wd then some { v := .vec n wd (off + l.toNat) (h.toNat - l.toNat), ro := [(n, .row E t xs fx)], L := [.p p], R := [.p (0 ≤ l ∧ l ≤ h ∧ off + h.toNat ≤ xs.length)] } else none
        | _ => none
      | _ => none
    | .lit (.slice none 0 0) => (bdOf rs 0 hi).bind fun h => (lookA tb.sl T).bind fun _ => some { v := .lit (.slice none 0 0), L := [.n l.natAbs, .n h.natAbs], R := [.n 0, .n 0] }
    | _ => none
def lookF : List (TypeId × Nat × Nat × Ty) → Nat → Nat → Option (Nat × Ty)
  | [], _, _ => none
  | x :: l, T, f => bif x.1 == T && x.2.1 == f then some x.2.2 else lookF l T f
def fdOf (tb : Tab U) (T : TypeId) (f : Nat) : Option (Nat × Ty) := lookF tb.fd T f
def stFdA (tb : Tab U) (rs : List (Nat × AVal U)) (T : TypeId) (x : Operand) (f : Nat) : Option (MR U) :=
  (opd rs x).bind fun vx => (fdOf tb T f).bind fun y => bif y.2.width U.wd == 0 then none else match vx with
    | .pp t X => (compD U 32 t X y.1 y.2).bind fun z => some { v := .pp y.2 z }
    | .loc n b => some { v := .loc n (b + y.1) }
    | .eloc n wd i b => some { v := .eloc n wd i (b + y.1) }
    | _ => none
def stFd (tb : Tab U) (rs : List (Nat × AVal U)) (T : TypeId) (x : Operand) (f : Nat) : Option (MR U) :=
  (opd rs x).bind fun vx => (fdOf tb T f).bind fun y => match vx with
    | .p t X => bif t.isAgg then (compD U 32 t X y.1 y.2).bind fun z => some { v := .p y.2 z } else none
    | _ => none
def allU (us : List (AVal U)) : Bool := us.all AVal.unit
def ldBox (us : List (AVal U)) (n off : Nat) (t : Ty) : Option (MR U) :=
  match (cutU U us off).bind fun x => (cutU U x.2 (t.width U.wd)).bind fun y => some (x.1, y.1, y.2) with
  | some (pre, mid, post) => bif allU pre && allU mid then (madeD t mid).bind fun v => some { v := v, ro := [(n, .box (pre ++ mid ++ post))] } else none
  | none => (inU U us off).bind fun x => match x with
    | (pre, .p t0 X, k, post) => bif allU pre then (compD U 32 t0 X k t).bind fun z => some { v := .p t z, ro := [(n, .box (pre ++ [.p t0 X] ++ post))] } else none
    | _ => none
def stLoad (tb : Tab U) (rs : List (Nat × AVal U)) (hp : List (Nat × Blk U)) (T : TypeId) (x : Operand) (it : Option (IT U O P ops)) : Option (MR U) :=
  (opd rs x).bind fun vx => (lookA tb.ty T).bind fun t => match vx with
    | .pp t' X => (AVal.asP t (.p t' X)).bind fun z => some { v := .p t z }
    | .loc n off => match lookA hp n with
      | some (.box us) => ldBox us n off t
      | _ => none
    | .eloc n wd i off => match lookA hp n, it with
      | some (.row E t0 xs fx), some (@IT.v _ _ _ _ t2 q e _) => bif wd == t0.width U.wd then (compD U 32 t2 e off t).bind fun z => some { v := .p t z, ro := [(n, .row E t0 xs fx)], L := [.o t2 q], R := [.o t0 xs[i]?] } else none
      | some (.box us), some (@IT.v _ _ _ _ t2 q e _) => (inU U us off).bind fun x => match x with
        | (pre, .p (.arr N te) X, k, post) => bif allU pre && wd == te.width U.wd then (compD U 32 t2 e k t).bind fun z => some { v := .p t z, ro := [(n, .box (pre ++ [.p (.arr N te) X] ++ post))], L := [.o t2 q], R := [.o te (getElem? (coll := List (te.den U.T)) X i)] } else none
        | _ => none
      | _, _ => none
    | _ => none
end

section
variable {U : Univ} {O : Out} {P : Program} {ops : Array Oper} {o : Oper} {rs : List (Nat × AVal U)} {tb : Tab U} {hp : List (Nat × Blk U)} {r : MR U}
theorem ob_o {t t' : Ty} {x : Option (t.den U.T)} {y : Option (t'.den U.T)} (h : Ob.o t x = Ob.o t' y) : ∃ e : t = t', e ▸ x = y := by
  cases h; exact ⟨rfl, rfl⟩
theorem beqN {a b : Nat} (h : (a == b) = true) : a = b := by simpa using h
theorem TbOk.ty' (ht : TbOk P U tb) {T : TypeId} {d : Ty} (h : lookA tb.ty T = some d) : TyOk P U T d := ht.ty.mem _ (lookA_mem h)
theorem TbOk.sl' (ht : TbOk P U tb) {T : TypeId} {d : TypeId × Ty} (h : lookA tb.sl T = some d) : SlOk P U T d.1 d.2 := ht.sl.mem _ (lookA_mem h)
theorem TbOk.ro' (ht : TbOk P U tb) {T : TypeId} {d : TypeId × Ty × Nat} (h : lookA tb.ro T = some d) : RowOk P U T d.1 d.2.1 d.2.2 := ht.ro.mem _ (lookA_mem h)
theorem lookF_mem : ∀ {l : List (TypeId × Nat × Nat × Ty)} {T f : Nat} {d : Nat × Ty}, lookF l T f = some d → ∃ x ∈ l, x.1 = T ∧ x.2.1 = f ∧ x.2.2 = d
  | [], _, _, _, h => by cases h
  | x :: l, T, f, d, h => by
    unfold lookF at h
    cases hb : x.1 == T && x.2.1 == f with
    | true =>
      rw [hb, cond_true] at h
      rw [Bool.and_eq_true] at hb
      exact ⟨x, .head _, beqN hb.1, beqN hb.2, Option.some.inj h⟩
    | false =>
      rw [hb, cond_false] at h
      obtain ⟨y, hy, h1⟩ := lookF_mem h
      exact ⟨y, .tail _ hy, h1⟩
theorem TbOk.fd' (ht : TbOk P U tb) {T : TypeId} {f : Nat} {d : Nat × Ty} (h : fdOf tb T f = some d) : ∃ F, FdOk P U T f d.1 F d.2 := by
  obtain ⟨x, hx, rfl, rfl, rfl⟩ := lookF_mem h
  exact ht.fd.mem _ hx
theorem TbOk.str' (ht : TbOk P U tb) {T : TypeId} (h : isStrD (tb.un T) = true) : P.underlying T = some .string := by
  unfold isStrD at h; split at h
  · exact ht.un' (by assumption)
  · cases h
theorem none_in {α : Type} (l : List α) : ∀ x ∈ ([] : List α) ++ [], x ∈ l := fun _ h => by cases h
theorem one_in {α : Type} {y : α} {l : List α} (h : y ∈ l) : ∀ x ∈ [y] ++ ([] : List α), x ∈ l := fun _ hx => by
  rcases List.mem_cons.1 hx with rfl | hx
  · exact h
  · cases hx
theorem one_in' {α : Type} {y : α} {l : List α} (h : y ∈ l) : ∀ x ∈ ([] : List α) ++ [y], x ∈ l := one_in h

abbrev OkM (U : Univ) (O : Out) (P : Program) (ops : Array Oper) (o : Oper) (rs : List (Nat × AVal U)) (hp : List (Nat × Blk U)) (r : MR U) : Prop :=
  SOk U O P ops o (r.spec rs) ∧ ∀ x ∈ r.ro ++ r.cb, x ∈ hp

theorem stMove_ok {x : Operand} (hg : o.guard = none) (ho : o.op = .move x ∨ o.op = .assign x) : OkM U O P ops o rs hp (stMove rs x) := by
  refine ⟨?_, none_in _⟩
  unfold stMove MR.spec
  cases h : opd rs x with
  | none => exact sok_move hg ho (.junk _ _)
  | some v => exact sok_move hg ho (opd_ok h)
theorem stPick_ok {c x y : Operand} {kn : Option (IT U O P ops)} (hg : o.guard = none) (ho : o.op = .pick c x y) (h : stPick rs kn c x y = some r) (e : r.L = r.R) : OkM U O P ops o rs hp r := by
  unfold stPick at h
  obtain ⟨vc, hc, h1⟩ := bind_some h
  obtain ⟨b, hb, h2⟩ := bind_some h1
  replace hc := opd_ok hc
  rw [AVal.bool?_eq hb] at hc
  clear h h1
  split at h2
  · rename_i b' hb'
    obtain ⟨v, hv, h3⟩ := bind_some h2
    cases h3; simp only [List.cons.injEq, Ob.b.injEq, and_true] at e
    exact ⟨sok_pickT hg ho hc (e.trans hb') (opd_ok hv), none_in _⟩
  · rename_i b' hb'
    obtain ⟨v, hv, h3⟩ := bind_some h2
    cases h3; simp only [List.cons.injEq, Ob.b.injEq, and_true] at e
    exact ⟨sok_pickF hg ho hc (e.trans hb') (opd_ok hv), none_in _⟩
  · split at h2
    · obtain ⟨v, hv, h3⟩ := bind_some h2
      cases h3; exact ⟨sok_pickT hg ho hc rfl (opd_ok hv), none_in _⟩
    · obtain ⟨v, hv, h3⟩ := bind_some h2
      cases h3; exact ⟨sok_pickF hg ho hc rfl (opd_ok hv), none_in _⟩
theorem stIdxA_ok (htb : TbOk P U tb) {T : TypeId} {x y : Operand} {it : Option (IT U O P ops)} (hg : o.guard = none) (ho : o.op = .indexAddr T x y) (h : stIdxA tb rs T x y it = some r) (e : r.L = r.R) : OkM U O P ops o rs hp r := by
  unfold stIdxA at h
  obtain ⟨vx, hx, h1⟩ := bind_some h
  obtain ⟨vy, hy, h2⟩ := bind_some h1
  obtain ⟨⟨k, i⟩, hi, h3⟩ := bind_some h2
  replace hx := opd_ok hx
  replace hy := opd_ok hy
  rw [AVal.int?_eq hi] at hy
  clear h h1 h2
  split at h3
  · rename_i hq
    obtain ⟨s, hs, h4⟩ := bind_some h3
    obtain ⟨hd, h5⟩ := bif_some h4
    have hd := of_decide_eq_true hd
    subst hd; cases h5
    simp only [List.cons.injEq, and_true] at e
    obtain ⟨rfl, e⟩ := ob_o e
    exact ⟨sok_indexL hg ho (htb.sl' hs) hx hy (e.symm.trans hq), none_in _⟩
  · rename_i hp
    obtain ⟨s, hs, h4⟩ := bind_some h3
    obtain ⟨hd, h5⟩ := bif_some h4
    have hd := beqN hd
    subst hd; cases h5
    simp only [List.cons.injEq, Ob.p.injEq, and_true] at e
    exact ⟨sok_indexV hg ho (htb.sl' hs) hx hy (e ▸ hp), none_in _⟩
  · rename_i hp
    obtain ⟨d, hd, h4⟩ := bind_some h3
    clear h3
    split at h4
    · obtain ⟨t, ht, h5⟩ := bind_some h4
      obtain ⟨hm, h6⟩ := bif_some h5
      cases h6
      simp only [List.cons.injEq, Ob.p.injEq, and_true] at e
      exact ⟨sok_indexA2 hg ho (htb.un' hd) (htb.ty' ht) hx (beqN hm) hy (e ▸ hp), none_in _⟩
    · cases h4
  · cases h3
theorem stIdx_ok (htb : TbOk P U tb) {T : TypeId} {x y : Operand} {it : Option (IT U O P ops)} (hg : o.guard = none) (ho : o.op = .index T x y) (h : stIdx tb rs T x y it = some r) (e : r.L = r.R) : OkM U O P ops o rs hp r := by
  unfold stIdx at h
  obtain ⟨vx, hx, h1⟩ := bind_some h
  obtain ⟨vy, hy, h2⟩ := bind_some h1
  obtain ⟨⟨k, i⟩, hi, h3⟩ := bind_some h2
  replace hx := opd_ok hx
  replace hy := opd_ok hy
  rw [AVal.int?_eq hi] at hy
  clear h h1 h2
  split at h3
  · rename_i hq
    obtain ⟨hs, h4⟩ := bif_some h3
    cases h4
    simp only [List.cons.injEq, Ob.u.injEq, and_true] at e
    exact ⟨sok_indexS hg ho (htb.str' hs) hx hy (e.symm.trans hq), none_in _⟩
  · rename_i hq
    obtain ⟨d, hd, h4⟩ := bind_some h3
    clear h3
    split at h4
    · obtain ⟨t', ht, h5⟩ := bind_some h4
      obtain ⟨hm, h6⟩ := bif_some h5
      rw [Bool.and_eq_true] at hm
      have h7 := beqN hm.1
      have h8 := of_decide_eq_true hm.2
      subst h7 h8
      cases h6
      simp only [List.cons.injEq, and_true] at e
      obtain ⟨rfl, e⟩ := ob_o e
      exact ⟨sok_indexR hg ho (htb.un' hd) (htb.ty' ht) hx hy (e.symm.trans hq), none_in _⟩
    · cases h4
  · cases h3
theorem bdOf_ok {d n : Int} {x : Option Operand} (h : bdOf rs d x = some n) : Bd U rs d x n := by
  cases x with
  | none => cases h; exact .no
  | some x =>
    obtain ⟨v, hv, h1⟩ := bind_some h
    obtain ⟨⟨k, i⟩, hi, h3⟩ := bind_some h1
    cases h3
    have hv := opd_ok hv
    rw [AVal.int?_eq hi] at hv
    exact .at hv
theorem stSlice_ok (htb : TbOk P U tb) {T : TypeId} {x : Operand} {lo hi : Option Operand} {it : Option (IT U O P ops)} (hg : o.guard = none) (ho : o.op = .slice T x lo hi none) (h : stSlice tb rs hp T x lo hi it = some r) (e : r.L = r.R) : OkM U O P ops o rs hp r := by
  unfold stSlice at h
  obtain ⟨vx, hx, h1⟩ := bind_some h
  obtain ⟨l, hl, h2⟩ := bind_some h1
  replace hx := opd_ok hx
  replace hl := bdOf_ok hl
  clear h h1
  split at h2
  · obtain ⟨n, hh, h3⟩ := bind_some h2
    replace hh := bdOf_ok hh
    clear h2
    split at h3
    · rename_i hq
      obtain ⟨hs, h4⟩ := bif_some h3
      cases h4
      simp only [List.cons.injEq, and_true] at e
      obtain ⟨rfl, e⟩ := ob_o e
      exact ⟨sok_sliceS hg ho (htb.str' hs) hx hl hh (e.symm.trans hq), none_in _⟩
    · cases h3
  · obtain ⟨n, hh, h3⟩ := bind_some h2
    replace hh := bdOf_ok hh
    clear h2
    split at h3
    · rename_i hq
      obtain ⟨z, hs, h4⟩ := bind_some h3
      obtain ⟨hd, h5⟩ := bif_some h4
      have hd := of_decide_eq_true hd
      subst hd; cases h5
      simp only [List.cons.injEq, and_true] at e
      obtain ⟨rfl, e⟩ := ob_o e
      exact ⟨sok_sliceL hg ho (htb.sl' hs) hx hl hh (e.symm.trans hq), none_in _⟩
    · cases h3
  · obtain ⟨n', hh, h3⟩ := bind_some h2
    replace hh := bdOf_ok hh
    clear h2
    split at h3
    · rename_i hp'
      obtain ⟨z, hs, h4⟩ := bind_some h3
      clear h3
      split at h4
      · rename_i hb
        obtain ⟨hm, h5⟩ := bif_some h4
        rw [Bool.and_eq_true] at hm
        have h7 := of_decide_eq_true hm.1
        have h8 := beqN hm.2
        subst h7 h8
        cases h5
        simp only [List.cons.injEq, Ob.p.injEq, and_true] at e
        have hp' := e ▸ hp'
        exact ⟨sok_sliceV hg ho (htb.sl' hs) hx hl hh hp'.1 hp'.2.1 hp'.2.2, one_in (lookA_mem hb)⟩
      · cases h4
    · cases h3
  · obtain ⟨n', hh, h3⟩ := bind_some h2
    replace hh := bdOf_ok hh
    obtain ⟨z, hs, h4⟩ := bind_some h3
    cases h4
    simp only [List.cons.injEq, Ob.n.injEq, and_true] at e
    obtain rfl : l = 0 := by omega
    obtain rfl : n' = 0 := by omega
    exact ⟨sok_sliceNil hg ho (htb.sl' hs) hx hl hh, none_in _⟩
  · cases h2
theorem stFdA_ok (htb : TbOk P U tb) {T : TypeId} {x : Operand} {f : Nat} (hg : o.guard = none) (ho : o.op = .fieldAddr T x f) (h : stFdA tb rs T x f = some r) : OkM U O P ops o rs hp r := by
  unfold stFdA at h
  obtain ⟨vx, hx, h1⟩ := bind_some h
  obtain ⟨y, hf, h2⟩ := bind_some h1
  replace hx := opd_ok hx
  obtain ⟨F, hF⟩ := htb.fd' hf
  cases hw : y.2.width U.wd == 0 with
  | true => rw [hw] at h2; cases h2
  | false =>
    have hw' : y.2.width U.wd ≠ 0 := by simpa using hw
    rw [hw, cond_false] at h2
    clear h h1
    split at h2
    · obtain ⟨z, hz, h3⟩ := bind_some h2
      cases h3; exact ⟨sok_fieldP hg ho hF hw' hx (compD_ok _ hz), none_in _⟩
    · cases h2; exact ⟨sok_fieldB hg ho hF hw' hx, none_in _⟩
    · cases h2; exact ⟨sok_fieldE hg ho hF hw' hx, none_in _⟩
    · cases h2
theorem stFd_ok (htb : TbOk P U tb) {T : TypeId} {x : Operand} {f : Nat} (hg : o.guard = none) (ho : o.op = .field T x f) (h : stFd tb rs T x f = some r) : OkM U O P ops o rs hp r := by
  unfold stFd at h
  obtain ⟨vx, hx, h1⟩ := bind_some h
  obtain ⟨y, hf, h2⟩ := bind_some h1
  replace hx := opd_ok hx
  obtain ⟨F, hF⟩ := htb.fd' hf
  clear h h1
  split at h2
  · obtain ⟨ha, h3⟩ := bif_some h2
    obtain ⟨z, hz, h4⟩ := bind_some h3
    cases h4; exact ⟨sok_field hg ho hF ha hx (compD_ok _ hz), none_in _⟩
  · cases h2
theorem cut2_ok {us pre mid post : List (AVal U)} {off w : Nat} (h : ((cutU U us off).bind fun x => (cutU U x.2 w).bind fun y => some (x.1, y.1, y.2)) = some (pre, mid, post)) : us = pre ++ mid ++ post ∧ unitsW pre = off ∧ unitsW mid = w := by
  obtain ⟨⟨a, b⟩, h1, h2⟩ := bind_some h
  obtain ⟨⟨c, d⟩, h3, h4⟩ := bind_some h2
  cases h4
  obtain ⟨e1, e2⟩ := cutU_ok h1
  obtain ⟨e3, e4⟩ := cutU_ok h3
  exact ⟨by rw [e1, show b = c ++ d from e3, List.append_assoc], e2, e4⟩
theorem ldBox_ok {T : TypeId} {t : Ty} {x : Operand} {us : List (AVal U)} {n off : Nat} (hg : o.guard = none) (ho : o.op = .load T x) (ht : TyOk P U T t) (hx : Opd U rs x (.loc n off)) (hb : (n, Blk.box us) ∈ hp) (h : ldBox us n off t = some r) : OkM U O P ops o rs hp r := by
  unfold ldBox at h
  split at h
  · rename_i hc
    obtain ⟨e1, e2, e3⟩ := cut2_ok hc
    obtain ⟨ha, h1⟩ := bif_some h
    rw [Bool.and_eq_true] at ha
    obtain ⟨v, hv, h2⟩ := bind_some h1
    cases h2
    exact ⟨sok_loadB _ _ _ hg ho ht hx ha.1 e2 ha.2 e3 (madeD_ok hv), one_in (e1 ▸ hb)⟩
  · obtain ⟨y, hy, h1⟩ := bind_some h
    clear h
    split at h1
    · obtain ⟨ha, h2⟩ := bif_some h1
      obtain ⟨z, hz, h3⟩ := bind_some h2
      obtain ⟨e1, e2⟩ := inU_ok hy
      cases h3
      exact ⟨sok_loadU _ _ hg ho ht hx (.loc _ _) ha rfl e2 (compD_ok _ hz), one_in (e1 ▸ hb)⟩
    · cases h1
theorem stLoad_ok (htb : TbOk P U tb) {T : TypeId} {x : Operand} {it : Option (IT U O P ops)} (hg : o.guard = none) (ho : o.op = .load T x) (h : stLoad tb rs hp T x it = some r) (e : r.L = r.R) : OkM U O P ops o rs hp r := by
  unfold stLoad at h
  obtain ⟨vx, hx, h1⟩ := bind_some h
  obtain ⟨t, ht, h2⟩ := bind_some h1
  replace hx := opd_ok hx
  replace ht := htb.ty' ht
  clear h h1
  split at h2
  · obtain ⟨z, hz, h3⟩ := bind_some h2
    cases h3
    have := AVal.asP_eq hz
    cases this
    exact ⟨sok_loadP hg ho ht hx, none_in _⟩
  · split at h2
    · exact ldBox_ok hg ho ht hx (lookA_mem (by assumption)) h2
    · cases h2
  · split at h2
    · rename_i hq hb
      obtain ⟨hw, h3⟩ := bif_some h2
      have hw := beqN hw
      obtain ⟨z, hz, h4⟩ := bind_some h3
      cases h4
      simp only [List.cons.injEq, and_true] at e
      obtain ⟨rfl, e⟩ := ob_o e
      subst hw
      exact ⟨sok_loadE hg ho ht hx (e.symm.trans hq) (compD_ok _ hz), one_in (lookA_mem hb)⟩
    · rename_i hq hb
      obtain ⟨y, hy, h3⟩ := bind_some h2
      clear h2
      split at h3
      · obtain ⟨ha, h4⟩ := bif_some h3
        rw [Bool.and_eq_true] at ha
        have hw := beqN ha.2
        obtain ⟨z, hz, h5⟩ := bind_some h4
        cases h5
        simp only [List.cons.injEq, and_true] at e
        obtain ⟨rfl, e⟩ := ob_o e
        obtain ⟨e1, e2⟩ := inU_ok hy
        subst hw
        exact ⟨sok_loadU _ _ hg ho ht hx (.eloc _ _ _ _ rfl) ha.1 rfl (by rw [e2, Nat.add_left_comm]) (.arr (e.symm.trans hq) (compD_ok _ hz) rfl), one_in (e1 ▸ lookA_mem hb)⟩
      · cases h3
    · cases h2
  · cases h2
end
end Go.AM
