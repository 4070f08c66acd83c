/- A part of my own abstract layer. -/
import Derived.Test.YtldepagjdbcmgaaGreatDoorK25AmV
import Derived.Laws.Pointers
import Derived.Maps.RangeRun
import Derived.Maps.Own
import Derived.Maps.Views
import Derived.Sort.KeysCollected
import Derived.Sort.Grow
import Derived.Sort.EncStr
import Derived.Lib.SlicesCompact
import Derived.Test.YtldepagjdbcmgaaGreatDoorK25AmA
namespace Go.AM
set_option linter.unusedVariables false

abbrev KV (α : Type) := List (List UInt8 × α)
section
variable {α : Type}
def mget (k : List UInt8) : KV α → Option α
  | [] => none
  | y :: r => if y.1 = k then some y.2 else mget k r
def mput (k : List UInt8) (v : α) : KV α → KV α
  | [] => [(k, v)]
  | y :: r => if y.1 = k then (k, v) :: r else if Op.bytesLess k y.1 then (k, v) :: y :: r else y :: mput k v r
def mdel (k : List UInt8) (m : KV α) : KV α := m.filter fun y => !(y.1 == k)
def Rising (m : KV α) : Prop := m.Pairwise fun x y => Op.bytesLess x.1 y.1 = true

theorem bytesLess_eq : ∀ (x y : List UInt8), Op.bytesLess x y = decide (x < y)
  | [], [] => by simp [Op.bytesLess]
  | _ :: _, [] => by simp [Op.bytesLess]
  | [], _ :: _ => by simp [Op.bytesLess]
  | a :: x, b :: y => by
    rw [Op.bytesLess, bytesLess_eq x y]
    simp only [List.cons_lt_cons_iff]
    by_cases h1 : a < b <;> by_cases h2 : a = b <;> by_cases h3 : x < y <;> simp [h1, h2, h3]
theorem less_irrefl (a : List UInt8) : Op.bytesLess a a = false := by rw [bytesLess_eq]; simp
theorem less_trans {a b c : List UInt8} (h1 : Op.bytesLess a b = true) (h2 : Op.bytesLess b c = true) : Op.bytesLess a c = true := by
  rw [bytesLess_eq, decide_eq_true_eq] at *; exact List.lt_trans h1 h2
theorem less_total : ∀ {a b : List UInt8}, a ≠ b → Op.bytesLess a b = true ∨ Op.bytesLess b a = true
  | [], [], h => absurd rfl h
  | [], _ :: _, _ => .inl rfl
  | _ :: _, [], _ => .inr rfl
  | a :: x, b :: y, h => by
    simp only [Op.bytesLess, Bool.or_eq_true, decide_eq_true_eq, Bool.and_eq_true, beq_iff_eq]
    by_cases h1 : a = b
    · subst h1
      rcases less_total (a := x) (b := y) (fun e => h (by rw [e])) with h2 | h2
      · exact .inl (.inr ⟨rfl, h2⟩)
      · exact .inr (.inr ⟨rfl, h2⟩)
    · have h2 : a.toNat ≠ b.toNat := fun e => h1 (UInt8.toNat_inj.1 e)
      rcases Nat.lt_or_gt_of_ne h2 with h3 | h3
      · exact .inl (.inl (UInt8.lt_iff_toNat_lt.2 h3))
      · exact .inr (.inl (UInt8.lt_iff_toNat_lt.2 h3))
theorem less_ne {a b : List UInt8} (h : Op.bytesLess a b = true) : a ≠ b := by rintro rfl; rw [less_irrefl] at h; cases h

theorem Rising.apart {m : KV α} (h : Rising m) : m.Pairwise fun x y => x.1 ≠ y.1 := h.imp fun h => less_ne h
theorem Rising.del {m : KV α} (h : Rising m) (k : List UInt8) : Rising (mdel k m) := h.filter _
theorem mput_mem {k : List UInt8} {v : α} : ∀ {m : KV α} {x : List UInt8 × α}, x ∈ mput k v m → x = (k, v) ∨ x ∈ m
  | [], x, h => by simp [mput] at h; exact .inl h
  | y :: r, x, h => by
    unfold mput at h
    split at h
    · rcases List.mem_cons.1 h with h | h
      · exact .inl h
      · exact .inr (List.mem_cons_of_mem _ h)
    split at h
    · rcases List.mem_cons.1 h with h | h
      · exact .inl h
      · exact .inr h
    · rcases List.mem_cons.1 h with h | h
      · exact .inr (h ▸ List.mem_cons_self)
      · rcases mput_mem h with h | h
        · exact .inl h
        · exact .inr (List.mem_cons_of_mem _ h)
theorem Rising.put {k : List UInt8} {v : α} : ∀ {m : KV α}, Rising m → Rising (mput k v m)
  | [], _ => List.pairwise_singleton _ _
  | y :: r, h => by
    obtain ⟨h1, h2⟩ := List.pairwise_cons.1 h
    unfold mput
    split
    · rename_i e
      exact List.pairwise_cons.2 ⟨fun x hx => e ▸ h1 x hx, h2⟩
    split
    · rename_i hl
      refine List.pairwise_cons.2 ⟨fun x hx => ?_, h⟩
      rcases List.mem_cons.1 hx with rfl | hx
      · exact hl
      · exact less_trans hl (h1 x hx)
    · rename_i hne hl
      refine List.pairwise_cons.2 ⟨fun x hx => ?_, Rising.put h2⟩
      rcases mput_mem hx with rfl | hx
      · rcases less_total hne with h | h
        · exact h
        · exact absurd h hl
      · exact h1 x hx
theorem mdel_eq {k : List UInt8} : ∀ {m : KV α}, (∀ y ∈ m, y.1 ≠ k) → mdel k m = m
  | [], _ => rfl
  | y :: r, h => by
    have := mdel_eq (m := r) fun y hy => h y (List.mem_cons_of_mem _ hy)
    unfold mdel at this ⊢
    rw [List.filter_cons, if_pos (by simpa using h y List.mem_cons_self), this]
theorem mput_perm {k : List UInt8} {v : α} : ∀ {m : KV α}, Rising m → (mput k v m).Perm ((k, v) :: mdel k m)
  | [], _ => .refl _
  | y :: r, h => by
    obtain ⟨h1, h2⟩ := List.pairwise_cons.1 h
    unfold mput
    split
    · rename_i e
      have : mdel k (y :: r) = r := by
        unfold mdel
        rw [List.filter_cons, if_neg (by simp [e])]
        exact mdel_eq fun x hx => by rw [← e]; exact (less_ne (h1 x hx)).symm
      rw [this]
    split
    · rename_i hl
      have : mdel k (y :: r) = y :: r := mdel_eq fun x hx => by
        rcases List.mem_cons.1 hx with rfl | hx
        · exact (less_ne hl).symm
        · exact (less_ne (less_trans hl (h1 x hx))).symm
      rw [this]
    · rename_i hne hl
      have : mdel k (y :: r) = y :: mdel k r := by unfold mdel; rw [List.filter_cons, if_pos (by simpa using hne)]
      rw [this]
      exact ((mput_perm h2).cons y).trans (.swap _ _ _)
theorem mget_none {k : List UInt8} : ∀ {m : KV α}, mget k m = none ↔ ∀ y ∈ m, y.1 ≠ k
  | [] => by simp [mget]
  | y :: r => by
    unfold mget
    split
    · rename_i e; simp [e]
    · rename_i e; simp [mget_none (m := r), e]
theorem mget_mem {k : List UInt8} {v : α} : ∀ {m : KV α}, mget k m = some v → (k, v) ∈ m
  | [], h => by cases h
  | y :: r, h => by
    unfold mget at h
    split at h
    · rename_i e; cases h; rw [← e]; exact List.mem_cons_self
    · exact List.mem_cons_of_mem _ (mget_mem h)
theorem mget_of {k : List UInt8} {v : α} : ∀ {m : KV α}, m.Pairwise (fun x y => x.1 ≠ y.1) → (k, v) ∈ m → mget k m = some v
  | [], _, h => by cases h
  | y :: r, h, hm => by
    obtain ⟨h1, h2⟩ := List.pairwise_cons.1 h
    unfold mget
    rcases List.mem_cons.1 hm with rfl | hm
    · rw [if_pos rfl]
    · rw [if_neg (h1 _ hm), mget_of h2 hm]
theorem mget_perm {k : List UInt8} {m m' : KV α} (h : m.Perm m') (ha : m'.Pairwise fun x y => x.1 ≠ y.1) : mget k m = mget k m' := by
  cases e : mget k m with
  | none =>
    exact (mget_none.2 fun y hy => mget_none.1 e y (h.symm.subset hy)).symm
  | some v => exact (mget_of ha (h.subset (mget_mem e))).symm
end

section
variable {U : Univ} {O : Out} {P : Program} {S : Nat → Prop} {ι : Lay} {w : World} {rs : List (Nat × AVal U)} {a : Act} {ops : Array Oper} {o : Oper} {t : Ty}

theorem bytes_ext {a b : ByteArray} (h : a.data.toList = b.data.toList) : a = b := by
  obtain ⟨⟨x⟩⟩ := a
  obtain ⟨⟨y⟩⟩ := b
  simp at h; rw [h]
theorem EntsR.app {es' : List MapEntry} : ∀ {es : List MapEntry} {ys : KV (t.den U.T)}, EntsR U O S w t (es ++ es') ys ↔ ∃ y1 y2, ys = y1 ++ y2 ∧ EntsR U O S w t es y1 ∧ EntsR U O S w t es' y2
  | [], ys => by
    constructor
    · intro h; exact ⟨[], ys, rfl, rfl, h⟩
    · rintro ⟨y1, y2, rfl, h1, h2⟩
      have h1 : y1 = [] := h1
      subst h1; exact h2
  | e :: es, ys => by
    constructor
    · rintro ⟨y, r, rfl, h1, h2, h3⟩
      obtain ⟨y1, y2, rfl, h4, h5⟩ := EntsR.app.1 h3
      exact ⟨y :: y1, y2, rfl, ⟨y, y1, rfl, h1, h2, h4⟩, h5⟩
    · rintro ⟨y1, y2, rfl, ⟨y, r, rfl, h1, h2, h3⟩, h5⟩
      exact ⟨y, r ++ y2, rfl, h1, h2, EntsR.app.2 ⟨r, y2, rfl, h3, h5⟩⟩
theorem EntsR.len : ∀ {es : List MapEntry} {ys : KV (t.den U.T)}, EntsR U O S w t es ys → es.length = ys.length
  | [], _, h => by have h : _ = _ := h; rw [h]; rfl
  | _ :: _, _, ⟨y, r, h1, _, _, h5⟩ => by rw [h1]; simp [EntsR.len h5]
theorem EntsR.isKey : ∀ {es : List MapEntry} {ys : KV (t.den U.T)}, EntsR U O S w t es ys → ∀ x ∈ es, MapKept.IsKey .string x.key
  | [], _, _, x, hx => by cases hx
  | e :: es, _, ⟨y, r, h1, ⟨s, h2, _⟩, _, h5⟩, x, hx => by
    rcases List.mem_cons.1 hx with rfl | hx
    · rw [h2]; trivial
    · exact EntsR.isKey h5 x hx
theorem EntsR.mem : ∀ {es : List MapEntry} {ys : KV (t.den U.T)}, EntsR U O S w t es ys → ∀ y ∈ ys, ∃ x ∈ es, ∃ s : ByteArray, x.key = .string s ∧ s.data.toList = y.1
  | [], _, h, y, hy => by have h : _ = _ := h; rw [h] at hy; cases hy
  | e :: es, _, ⟨y, r, h1, h2, _, h5⟩, z, hz => by
    subst h1
    rcases List.mem_cons.1 hz with rfl | hz
    · exact ⟨e, List.mem_cons_self, h2⟩
    · obtain ⟨x, h6, h7⟩ := EntsR.mem h5 z hz
      exact ⟨x, List.mem_cons_of_mem _ h6, h7⟩
theorem EntsR.apart : ∀ {es : List MapEntry} {ys : KV (t.den U.T)}, EntsR U O S w t es ys → (es.map (·.key)).Nodup → ys.Pairwise fun x y => x.1 ≠ y.1
  | [], _, h, _ => by have h : _ = _ := h; rw [h]; exact .nil
  | e :: es, _, ⟨y, r, h1, ⟨s, h2, h3⟩, _, h5⟩, hn => by
    subst h1
    rw [List.map_cons, List.nodup_cons] at hn
    refine List.pairwise_cons.2 ⟨fun z hz he => ?_, EntsR.apart h5 hn.2⟩
    obtain ⟨x, h6, s', h7, h8⟩ := EntsR.mem h5 z hz
    refine hn.1 (List.mem_map.2 ⟨x, h6, ?_⟩)
    rw [h7, h2, bytes_ext (h8.trans (he.symm.trans h3.symm))]

theorem EntsR.find {s : ByteArray} {es : List MapEntry} {ys : KV (t.den U.T)} (h : EntsR U O S w t es ys) (hn : (es.map (·.key)).Nodup) :
    (Instr.findNow .string (.string s) es 0 = some none ∧ (∀ x ∈ es, x.key ≠ .string s) ∧ mget s.data.toList ys = none ∧ mdel s.data.toList ys = ys) ∨
    ∃ pre e post y1 y y2, es = pre ++ e :: post ∧ ys = y1 ++ (s.data.toList, y) :: y2 ∧ Instr.findNow .string (.string s) es 0 = some (some (pre.length, e.val)) ∧ e.key = .string s ∧
      EntsR U O S w t pre y1 ∧ EntsR U O S w t post y2 ∧ (∃ cs, Rd U O S w t y cs ∧ e.val = mkV t.isAgg cs) ∧ mget s.data.toList ys = some y ∧ mdel s.data.toList ys = y1 ++ y2 := by
  have ha := h.apart hn
  rcases MapKept.findNow_spec (d := .string) (k := .string s) trivial es 0 h.isKey with ⟨h1, h2⟩ | ⟨j, e, h1, h2, h3⟩
  · left
    have hk : ∀ y ∈ ys, y.1 ≠ s.data.toList := fun y hy e => by
      obtain ⟨x, h4, s', h5, h6⟩ := h.mem y hy
      exact h2 x h4 (by rw [h5, bytes_ext (h6.trans e)])
    exact ⟨h1, h2, mget_none.2 hk, mdel_eq hk⟩
  · right
    obtain ⟨hj, hj2⟩ := List.getElem?_eq_some_iff.1 h2
    have hes : es = es.take j ++ e :: es.drop (j + 1) := by rw [← hj2, List.getElem_cons_drop, List.take_append_drop]
    have hpl : (es.take j).length = j := by simp; omega
    rw [hes] at h
    obtain ⟨y1, y2', rfl, h4, y, y2, rfl, ⟨s', h5, h6⟩, h7, h8⟩ := EntsR.app.1 h
    rw [h3] at h5
    injection h5 with h5
    subst h5
    obtain ⟨k, y⟩ := y
    simp only at h6
    subst h6
    refine ⟨es.take j, e, es.drop (j + 1), y1, y, y2, hes, rfl, by rw [h1, hpl]; simp, h3, h4, h8, h7, mget_of ha (by simp), ?_⟩
    obtain ⟨_, p2, p3⟩ := List.pairwise_append.1 ha
    obtain ⟨p4, _⟩ := List.pairwise_cons.1 p2
    have q1 : mdel s.data.toList y1 = y1 := mdel_eq fun x hx => p3 x hx _ List.mem_cons_self
    have q2 : mdel s.data.toList y2 = y2 := mdel_eq fun x hx => (p4 x hx).symm
    unfold mdel at q1 q2 ⊢
    rw [List.filter_append, List.filter_cons, if_neg (by simp), q1, q2]

theorem erase_mid (e : MapEntry) (post : List MapEntry) : ∀ pre : List MapEntry, (pre ++ e :: post).eraseIdx pre.length = pre ++ post
  | [] => rfl
  | x :: pre => by simp [erase_mid e post pre]
theorem modify_mid (f : MapEntry → MapEntry) (e : MapEntry) (post : List MapEntry) : ∀ pre : List MapEntry, (pre ++ e :: post).modify pre.length f = pre ++ f e :: post
  | [] => rfl
  | x :: pre => by simp [modify_mid f e post pre]

theorem Nx.setObj {s : LSpec U} {n b c : Nat} {B B' : Blk U} {o1 o2 : Obj} (hcb : s.cb = [(n, B)]) (hpb : s.pb = [(n, B')]) (hn : ι n = some (b, c)) (hout : ¬ S b)
    (hlt : ∀ b, S b → b < w.heap.size) (hg : w.heap[b]? = some o1) (hB : BR U O S ι { w with heap := w.heap.setIfInBounds b o2 } n B') : Nx U O s S ι w S ι { w with heap := w.heap.setIfInBounds b o2 } := by
  have hb : b < w.heap.size := (Array.getElem?_eq_some_iff.1 hg).1
  refine ⟨rfl, rfl, rfl, by simp, fun _ h => h, fun _ h => .inl h, fun b h => by simpa using hlt b h, fun k hk hnot => ?_, fun _ _ => rfl, fun x hx => ?_, fun m hm k c' hk => ?_, fun m hm k hk hne => ?_⟩
  · exact (MapKept.heap_set hg).2 k fun e' => hnot n (by rw [hcb]; simp) c (by rw [e']; exact hn)
  · rw [hpb] at hx
    simp at hx; subst hx
    exact hB
  · rw [hpb] at hm
    simp at hm; subst hm
    rw [hn] at hk
    obtain ⟨rfl, rfl⟩ : b = k ∧ c = c' := by simpa using hk
    exact ⟨hout, by simpa using hb, .inr ⟨_, by rw [hcb]; simp, c, hn⟩⟩
  · rw [hpb] at hm hk
    simp at hm hk
    exact absurd (hm.trans hk.symm) hne

theorem exec_makeMap {ρ : Operand → Value} {T : TypeId} {x : Option Operand} (ho : o.op = .makeMap T x) : execOp ρ o = vOf (Instr.makeMap T (x.map ρ)) := by unfold execOp; rw [ho]; rfl
theorem exec_mapUpdate {ρ : Operand → Value} {T : TypeId} {m x y : Operand} (ho : o.op = .mapUpdate T m x y) : execOp ρ o = (do Instr.mapUpdate T (ρ m) (ρ x) (ρ y); pure .skip) := by unfold execOp; rw [ho]
theorem exec_lookup {ρ : Operand → Value} {T : TypeId} {m x : Operand} {c : Bool} (ho : o.op = .lookup T m x c) : execOp ρ o = vOf (Instr.lookup T (ρ m) (ρ x) c) := by unfold execOp; rw [ho]; rfl

theorem sok_makeMap {T : TypeId} {d : Nat} (hg : o.guard = none) (_ : o.dst = some d) (ho : o.op = .makeMap T none) : SOk U O P ops o { rs := rs, ws := .mp d, pb := [(d, .map t [])], nn := [d] } := by
  intro S ι w a hlt hgl hrs hro hcb hown K Q hK
  refine opWp_plain hg ?_
  unfold Oper.wp
  rw [exec_makeMap ho]
  have hr : (Instr.makeMap T none).run P w = .ok (.map (some w.heap.size)) (w.alloc (.map #[] 0)) := by
    simp only [Instr.makeMap, newObj, Sem.run_bind, Sem.run, Result.andThen_ok, Sem.run_pure]
    rfl
  rw [show (Option.map a.eval none : Option Value) = none from rfl, run_vOf hr]
  refine hK _ S _ _ (Nx.alloc (s := { rs := rs, ws := .mp d, pb := [(d, .map t [])], nn := [d] }) (.map #[] 0) rfl rfl rfl hlt 0 ?_) ⟨w.heap.size, 0, by simp, rfl⟩
  exact ⟨w.heap.size, 0, #[], 0, [], by simp, heap_alloc_new w _, MapKept.stamped_empty 0, rfl, .refl _, .nil⟩

structure MapOk (P : Program) (T K E : TypeId) : Prop where
  ty : P.underlying T = some (.map K E)
  key : P.underlying K = some .string

theorem sok_lookup {T K E : TypeId} {m x : Operand} {n : Nat} {kvs : KV (t.den U.T)} {k : List UInt8} {z : t.den U.T} (hg : o.guard = none) (ho : o.op = .lookup T m x false) (hT : MapOk P T K E) (hz : ZeroOk P U E t z)
    (hm : Opd U rs m (.mp n)) (hx : Opd U rs x (.p .str k)) : SOk U O P ops o { rs := rs, ro := [(n, .map t kvs)], ws := .p t ((mget k kvs).getD z) } :=
  sok_v hg _ (fun _ => exec_lookup ho) fun S ι w a hrs hro => by
    obtain ⟨b, c, es, clock, ys, h1, h2, h3, h4, h5, h6⟩ := hro _ List.mem_cons_self
    obtain ⟨b', c', h7, h8⟩ := hm.ev hrs
    rw [h1] at h7
    obtain ⟨rfl, rfl⟩ : b = b' ∧ c = c' := by simpa using h7
    obtain ⟨cs, hk, hk2⟩ := hx.ev hrs
    cases hk with | str s =>
    have hk2 : a.eval x = .string s := hk2
    obtain ⟨i, v, hi, hv, hall⟩ := hz.h
    obtain ⟨cs, hr, rfl⟩ := hall O S w
    have hzr : (zeroValue E).run P w = .ok (mkV t.isAgg cs) w := by simp only [zeroValue, typeInfo, hi, hv, program, Sem.run_bind, Sem.run, Result.andThen_ok, Sem.run_pure]
    rw [h8, hk2, ← mget_perm h5 (Rising.apart h6)]
    rcases EntsR.find (s := s) h4 h3.2.2 with ⟨f1, f2, f3, _⟩ | ⟨pre, e, post, y1, y, y2, f1, f2, f3, f4, f5, f6, ⟨cs, f7, f8⟩, f9, f10⟩
    · refine ⟨mkV t.isAgg cs, ?_, cs, by rw [f3]; exact hr, rfl⟩
      simp [Instr.lookup, run_underlying hT.ty, MapKept.run_getObj_map h2, MapKept.run_checkKey hT.key (show MapKept.IsKey .string (.string s) from trivial), MapKept.run_findKey hT.key f1, hzr, Result.andThen]
    · refine ⟨e.val, ?_, cs, by rw [f9]; exact f7, f8⟩
      simp [Instr.lookup, run_underlying hT.ty, MapKept.run_getObj_map h2, MapKept.run_checkKey hT.key (show MapKept.IsKey .string (.string s) from trivial), MapKept.run_findKey hT.key f3, Result.andThen]
theorem sok_lookup2 {T K E : TypeId} {m x : Operand} {n : Nat} {kvs : KV (t.den U.T)} {k : List UInt8} {z : t.den U.T} (hg : o.guard = none) (ho : o.op = .lookup T m x true) (hT : MapOk P T K E) (hz : ZeroOk P U E t z)
    (hm : Opd U rs m (.mp n)) (hx : Opd U rs x (.p .str k)) : SOk U O P ops o { rs := rs, ro := [(n, .map t kvs)], ws := .tup [.p t ((mget k kvs).getD z), .p .bool (mget k kvs).isSome] } :=
  sok_v hg _ (fun _ => exec_lookup ho) fun S ι w a hrs hro => by
    obtain ⟨b, c, es, clock, ys, h1, h2, h3, h4, h5, h6⟩ := hro _ List.mem_cons_self
    obtain ⟨b', c', h7, h8⟩ := hm.ev hrs
    rw [h1] at h7
    obtain ⟨rfl, rfl⟩ : b = b' ∧ c = c' := by simpa using h7
    obtain ⟨cs, hk, hk2⟩ := hx.ev hrs
    cases hk with | str s =>
    have hk2 : a.eval x = .string s := hk2
    obtain ⟨i, v, hi, hv, hall⟩ := hz.h
    obtain ⟨cs, hr, rfl⟩ := hall O S w
    have hzr : (zeroValue E).run P w = .ok (mkV t.isAgg cs) w := by simp only [zeroValue, typeInfo, hi, hv, program, Sem.run_bind, Sem.run, Result.andThen_ok, Sem.run_pure]
    rw [h8, hk2, ← mget_perm h5 (Rising.apart h6)]
    rcases EntsR.find (s := s) h4 h3.2.2 with ⟨f1, f2, f3, _⟩ | ⟨pre, e, post, y1, y, y2, f1, f2, f3, f4, f5, f6, ⟨cs, f7, f8⟩, f9, f10⟩
    · refine ⟨.tuple #[mkV t.isAgg cs, .bool false], ?_, [mkV t.isAgg cs, .bool false], ⟨_, _, rfl, ⟨cs, by rw [f3]; exact hr, rfl⟩, _, _, rfl, ⟨[.bool false], by rw [f3]; exact .bool false, rfl⟩, rfl⟩, rfl⟩
      simp [Instr.lookup, run_underlying hT.ty, MapKept.run_getObj_map h2, MapKept.run_checkKey hT.key (show MapKept.IsKey .string (.string s) from trivial), MapKept.run_findKey hT.key f1, hzr, Result.andThen]
    · refine ⟨.tuple #[e.val, .bool true], ?_, [e.val, .bool true], ⟨_, _, rfl, ⟨cs, by rw [f9]; exact f7, f8⟩, _, _, rfl, ⟨[.bool true], by rw [f9]; exact .bool true, rfl⟩, rfl⟩, rfl⟩
      simp [Instr.lookup, run_underlying hT.ty, MapKept.run_getObj_map h2, MapKept.run_checkKey hT.key (show MapKept.IsKey .string (.string s) from trivial), MapKept.run_findKey hT.key f3, Result.andThen]

theorem run_mapPut {T K E : TypeId} {b : Nat} {es : Array MapEntry} {clock : Nat} {ys kvs : KV (t.den U.T)} {s : ByteArray} {u : Value} {cs : List Value} {v : t.den U.T} (hT : MapOk P T K E) (h2 : w.heap[b]? = some (.map es clock))
    (h3 : MapKept.Stamped es clock) (h4 : EntsR U O S w t es.toList ys) (h5 : ys.Perm kvs) (h6 : Rising kvs) (hr : Rd U O S w t v cs) (hv : u = mkV t.isAgg cs) :
    ∃ es' clock' ys', (Instr.mapUpdate T (.map (some b)) (.string s) u).run P w = .ok () { w with heap := w.heap.setIfInBounds b (.map es' clock') } ∧ MapKept.Stamped es' clock' ∧ EntsR U O S w t es'.toList ys' ∧
      ys'.Perm (mput s.data.toList v kvs) := by
  have hky : MapKept.IsKey .string (.string s) := trivial
  have p0 : ((s.data.toList, v) :: mdel s.data.toList ys).Perm (mput s.data.toList v kvs) := ((h5.filter _).cons _).trans (mput_perm h6).symm
  rcases EntsR.find (s := s) h4 h3.2.2 with ⟨f1, f2, f3, f4⟩ | ⟨pre, e, post, y1, y, y2, f1, f2, f3, f4, f5, f6, _, f9, f10⟩
  · refine ⟨es.push ⟨.string s, u, clock⟩, clock + 1, ys ++ [(s.data.toList, v)], ?_, MapKept.stamped_push h3 f2, ?_, ?_⟩
    · simp [Instr.mapUpdate, run_underlying hT.ty, MapKept.run_getObj_map h2, MapKept.run_checkKey hT.key hky, MapKept.run_findKey hT.key f1, MapKept.run_setObj_map _ h2, Result.andThen]
    · rw [Array.toList_push]
      exact EntsR.app.2 ⟨ys, _, rfl, h4, _, [], rfl, ⟨s, rfl, rfl⟩, ⟨cs, hr, hv⟩, rfl⟩
    · rw [f4] at p0
      exact (List.perm_append_singleton _ _).trans p0
  · have hj : es[pre.length]? = some e := by rw [← Array.getElem?_toList, f1]; simp
    refine ⟨es.modify pre.length (fun e' => { e' with key := .string s, val := u }), clock, y1 ++ (s.data.toList, v) :: y2, ?_, ?_, ?_, ?_⟩
    · simp [Instr.mapUpdate, run_underlying hT.ty, MapKept.run_getObj_map h2, MapKept.run_checkKey hT.key hky, MapKept.run_findKey hT.key f3, hj, f4, MapKept.run_keyThatStays hky, MapKept.run_setObj_map _ h2, Result.andThen]
    · exact MapKept.stamped_modify h3 _ _ (fun _ _ => rfl) (fun e' _ he => by rw [hj] at he; cases he; exact f4.symm)
    · rw [Array.toList_modify, f1, modify_mid]
      exact EntsR.app.2 ⟨y1, _, rfl, f5, _, y2, rfl, ⟨s, rfl, rfl⟩, ⟨cs, hr, hv⟩, f6⟩
    · rw [f10] at p0
      exact List.perm_middle.trans p0
theorem run_mapDel {T K E ty : TypeId} {b : Nat} {es : Array MapEntry} {clock : Nat} {ys kvs : KV (t.den U.T)} {s : ByteArray} (hT : MapOk P T K E) (h2 : w.heap[b]? = some (.map es clock))
    (h3 : MapKept.Stamped es clock) (h4 : EntsR U O S w t es.toList ys) (h5 : ys.Perm kvs) :
    ∃ es' ys', (Builtin.delete_ #[T, K] ty #[.map (some b), .string s]).run P w = .ok (.tuple #[]) { w with heap := w.heap.setIfInBounds b (.map es' clock) } ∧ MapKept.Stamped es' clock ∧ EntsR U O S w t es'.toList ys' ∧
      ys'.Perm (mdel s.data.toList kvs) := by
  have hky : MapKept.IsKey .string (.string s) := trivial
  have p0 : (mdel s.data.toList ys).Perm (mdel s.data.toList kvs) := h5.filter _
  rcases EntsR.find (s := s) h4 h3.2.2 with ⟨f1, f2, f3, f4⟩ | ⟨pre, e, post, y1, y, y2, f1, f2, f3, f4, f5, f6, _, f9, f10⟩
  · refine ⟨es, ys, ?_, h3, h4, by rw [f4] at p0; exact p0⟩
    simp [Builtin.delete_, run_underlying hT.ty, MapKept.run_getObj_map h2, MapKept.run_checkKey hT.key hky, MapKept.run_findKey hT.key f1, MapKept.run_setObj_map _ h2, Result.andThen]
  · refine ⟨es.eraseIdxIfInBounds pre.length, y1 ++ y2, ?_, MapKept.stamped_erase h3 _, ?_, by rw [f10] at p0; exact p0⟩
    · simp [Builtin.delete_, run_underlying hT.ty, MapKept.run_getObj_map h2, MapKept.run_checkKey hT.key hky, MapKept.run_findKey hT.key f3, MapKept.run_setObj_map _ h2, Result.andThen]
    · have hlt : pre.length < es.size := by rw [← Array.length_toList, f1]; simp
      have : (es.eraseIdxIfInBounds pre.length).toList = pre ++ post := by
        unfold Array.eraseIdxIfInBounds
        rw [dif_pos hlt]
        simp [f1, erase_mid]
      rw [this]
      exact EntsR.app.2 ⟨y1, y2, rfl, f5, f6⟩

theorem sok_mapUpdate {T K E : TypeId} {m x y : Operand} {n : Nat} {kvs : KV (t.den U.T)} {k : List UInt8} {v : t.den U.T} (hg : o.guard = none) (_ : o.dst = none) (ho : o.op = .mapUpdate T m x y) (hT : MapOk P T K E)
    (hm : Opd U rs m (.mp n)) (hx : Opd U rs x (.p .str k)) (hy : Opd U rs y (.p t v)) : SOk U O P ops o { rs := rs, cb := [(n, .map t kvs)], pb := [(n, .map t (mput k v kvs))] } := by
  intro S ι w a hlt hgl hrs hro hcb hown K' Q hK
  obtain ⟨b, c, es, clock, ys, h1, h2, h3, h4, h5, h6⟩ := hcb _ List.mem_cons_self
  obtain ⟨b', c', h7, h8⟩ := hm.ev hrs
  rw [h1] at h7
  obtain ⟨rfl, rfl⟩ : b = b' ∧ c = c' := by simpa using h7
  obtain ⟨cs, hk, hk2⟩ := hx.ev hrs
  cases hk with | str s =>
  have hk2 : a.eval x = .string s := hk2
  obtain ⟨cs, hr, hv⟩ := hy.ev hrs
  have hout := (hown.out n (by simp) b c h1).1
  obtain ⟨es', clock', ys', g1, g2, g3, g4⟩ := run_mapPut (s := s) hT h2 h3 h4 h5 h6 hr hv
  refine opWp_plain hg ?_
  unfold Oper.wp
  rw [exec_mapUpdate ho, h8, hk2]
  simp only [Sem.run_bind, g1, Result.andThen_ok, Sem.run_pure, Oper.upon]
  refine hK undef S ι _ (Nx.setObj (n := n) (b := b) (c := c) (o1 := .map es clock) rfl rfl h1 hout hlt h2 ?_) trivial
  exact ⟨b, c, es', clock', ys', h1, (MapKept.heap_set h2).1, g2, g3.mono (fun k hk => (MapKept.heap_set h2).2 k fun e => hout (e ▸ hk)) (fun _ h => h), g4, Rising.put h6⟩

theorem sok_delete {T K E : TypeId} {m x : Operand} {n : Nat} {kvs : KV (t.den U.T)} {k : List UInt8} (hg : o.guard = none) (ho : o.op = .call { callee := .builtin .delete, args := #[m, x], argTypes := #[T, K] }) (hT : MapOk P T K E)
    (hm : Opd U rs m (.mp n)) (hx : Opd U rs x (.p .str k)) : SOk U O P ops o { rs := rs, ws := .tup [], cb := [(n, .map t kvs)], pb := [(n, .map t (mdel k kvs))] } := by
  intro S ι w a hlt hgl hrs hro hcb hown K' Q hK
  obtain ⟨b, c, es, clock, ys, h1, h2, h3, h4, h5, h6⟩ := hcb _ List.mem_cons_self
  obtain ⟨b', c', h7, h8⟩ := hm.ev hrs
  rw [h1] at h7
  obtain ⟨rfl, rfl⟩ : b = b' ∧ c = c' := by simpa using h7
  obtain ⟨cs, hk, hk2⟩ := hx.ev hrs
  cases hk with | str s =>
  have hk2 : a.eval x = .string s := hk2
  have hout := (hown.out n (by simp) b c h1).1
  obtain ⟨es', ys', g1, g2, g3, g4⟩ := run_mapDel (s := s) (ty := o.type) hT h2 h3 h4 h5
  refine opWp_plain hg ?_
  unfold Oper.wp
  have he : execOp a.eval o = vOf (Builtin.delete_ #[T, K] o.type #[a.eval m, a.eval x]) := by rw [exec_builtin ho]; simp [builtin, vOf]
  rw [he, h8, hk2, run_vOf g1]
  refine hK (.tuple #[]) S ι _ (Nx.setObj (n := n) (b := b) (c := c) (o1 := .map es clock) rfl rfl h1 hout hlt h2 ?_) ⟨[], rfl, rfl⟩
  exact ⟨b, c, es', clock, ys', h1, (MapKept.heap_set h2).1, g2, g3.mono (fun k hk => (MapKept.heap_set h2).2 k fun e => hout (e ▸ hk)) (fun _ h => h), g4, Rising.del h6 _⟩

theorem sok_lenM {T K E : TypeId} {x : Operand} {n : Nat} {kvs : KV (t.den U.T)} (hg : o.guard = none) (ho : o.op = .call { callee := .builtin .len, args := #[x], argTypes := #[T] }) (hT : MapOk P T K E)
    (hm : Opd U rs x (.mp n)) : SOk U O P ops o { rs := rs, ro := [(n, .map t kvs)], ws := .p (.int .i64) (kvs.length : Int) } :=
  sok_v hg _ (fun _ => exec_len ho) fun S ι w a hrs hro => by
    obtain ⟨b, c, es, clock, ys, h1, h2, h3, h4, h5, h6⟩ := hro _ List.mem_cons_self
    obtain ⟨b', c', h7, h8⟩ := hm.ev hrs
    rw [h1] at h7
    obtain ⟨rfl, rfl⟩ : b = b' ∧ c = c' := by simpa using h7
    have hl : es.size = kvs.length := by rw [← h5.length_eq, ← h4.len, Array.length_toList]
    refine ⟨.int .i64 (kvs.length : Int), ?_, VV.int_iff.2 rfl⟩
    rw [h8]
    simp [Builtin.len_, run_underlying hT.ty, MapKept.run_getObj_map h2, Result.andThen, goInt, hl]

def PtrV (U : Univ) (v : AVal U) (q : Bool) : Prop := ∀ O S ι w u, VV U O S ι w v u → ∃ p, u = .pointer p ∧ p.isNone = q
theorem ptrV_loc {n off : Nat} : PtrV U (.loc n off) false := fun O S ι w u ⟨b, c, _, h⟩ => ⟨_, h, rfl⟩
theorem ptrV_nil : PtrV U (.lit (.pointer none)) true := fun O S ι w u ⟨h, _⟩ => ⟨_, h, rfl⟩
theorem ptrV_opt {q : Bool} {n : Nat} : PtrV U (.opt q n) (!q) := fun O S ι w u ⟨h1, h2⟩ => by
  cases q
  · exact ⟨_, h2 rfl, rfl⟩
  · obtain ⟨b, c, _, h⟩ := h1 rfl; exact ⟨_, h, rfl⟩
theorem sok_eqPN {t t' E : TypeId} {x : Operand} {v : AVal U} {q : Bool} (hg : o.guard = none) (ho : o.op = .binOp .eql t x (.const (.pointer none)) t') (ht : P.underlying t = some (.pointer E))
    (hx : Opd U rs x v) (hv : PtrV U v q) : SOk U O P ops o { rs := rs, ws := .p .bool q } :=
  sok_v hg _ (fun _ => exec_bin ho) fun S ι w a hrs _ => ⟨.bool q, by
    obtain ⟨p, h1, h2⟩ := hv _ _ _ _ _ (hx.ev hrs)
    have hp : P.underlying t = some (.pointer (P.pointee t)) := by simp [Program.pointee, ht]
    have hc : a.eval (.const (.pointer none)) = .pointer none := rfl
    rw [h1, hc, eqGuard_at_pointer]
    simp only [Sem.run_bind, Sem.run_pure, Result.andThen_ok, run_eql_pointer_nil w t p hp, h2], VV.bool_iff.2 rfl⟩
theorem sok_nePN {t t' E : TypeId} {x : Operand} {v : AVal U} {q : Bool} (hg : o.guard = none) (ho : o.op = .binOp .neq t x (.const (.pointer none)) t') (ht : P.underlying t = some (.pointer E))
    (hx : Opd U rs x v) (hv : PtrV U v q) : SOk U O P ops o { rs := rs, ws := .p .bool (!q) } :=
  sok_v hg _ (fun _ => exec_bin ho) fun S ι w a hrs _ => ⟨.bool (!q), by
    obtain ⟨p, h1, h2⟩ := hv _ _ _ _ _ (hx.ev hrs)
    have hp : P.underlying t = some (.pointer (P.pointee t)) := by simp [Program.pointee, ht]
    have hc : a.eval (.const (.pointer none)) = .pointer none := rfl
    rw [h1, hc, eqGuard_at_pointer]
    simp only [Sem.run_bind, Sem.run_pure, Result.andThen_ok, run_neq_pointer_nil w t p hp, h2], VV.bool_iff.2 rfl⟩

theorem rd_strq {x : List UInt8} {cs : List Value} (h : Rd U O S w .str x cs) : ∃ q : ByteArray, x = q.data.toList ∧ cs = [.string q] := by
  cases h; exact ⟨_, rfl, rfl⟩
theorem rd_strof {x : List UInt8} {q : ByteArray} (h : q.data.toList = x) : Rd U O S w .str x [.string q] := by
  subst h; exact .str q
end
end Go.AM
namespace Go.AM
set_option linter.unusedVariables false

section
variable {U : Univ} {O : Out} {P : Program} {ops : Array Oper} {o : Oper}

theorem Conv.optNew {st : St U} (m : Nat) (B : Blk U) (hn : st.names.contains m = false) (hlo : m < K0) : Conv U O st ⟨st.sl, (m, .opt false B) :: st.hp⟩ := by
  intro B' S ι a w hR
  have hn' : m ∉ st.names := by simpa using hn
  have hR' := hR.lay' (ι' := fun k => if k = m then none else ι k) (fun k hk => if_neg fun (e : k = m) => hn' (e ▸ hk)) (fun k hk => if_neg (by omega))
  refine ⟨S, _, { hR' with hp := fun x hx => ?_, own := ⟨fun k hk b c hb => ?_, fun k hk j hj hne b c c' hb => ?_⟩, mine := fun k hk b c hb => ?_ }⟩
  · rcases List.mem_cons.1 hx with rfl | h1
    · exact fun h => by cases h
    · exact hR'.hp x h1
  · rcases List.mem_cons.1 hk with rfl | h1
    · simp at hb
    · exact hR'.own.out k h1 b c hb
  · rcases List.mem_cons.1 hk with rfl | h1
    · simp at hb
    · rcases List.mem_cons.1 hj with rfl | h2
      · simp
      · exact hR'.own.sep k h1 j h2 hne b c c' hb
  · rcases List.mem_cons.1 hk with rfl | h1
    · simp at hb
    · exact hR'.mine k h1 b c hb
theorem Conv.optNil {st : St U} (t m : Nat) (hin : (t, AVal.lit (.pointer none)) ∈ st.sl) : Conv U O st ⟨setA st.sl t (.opt false m), st.hp⟩ := by
  intro B S ι a w hR
  refine ⟨S, ι, { hR with sl := fun x hx => ?_ }⟩
  rcases mem_setA hx with rfl | ⟨h1, _⟩
  · exact ⟨(fun h => by cases h), fun _ => (hR.sl _ hin).1⟩
  · exact hR.sl x h1
theorem Conv.optLoc {st : St U} (t n : Nat) (hin : (t, AVal.loc n 0) ∈ st.sl) : Conv U O st ⟨setA st.sl t (.opt true n), st.hp⟩ := by
  intro B S ι a w hR
  refine ⟨S, ι, { hR with sl := fun x hx => ?_ }⟩
  rcases mem_setA hx with rfl | ⟨h1, _⟩
  · exact ⟨fun _ => hR.sl _ hin, fun h => by cases h⟩
  · exact hR.sl x h1
theorem Conv.optBlk {st : St U} (n : Nat) (B : Blk U) (hin : (n, B) ∈ st.hp) : Conv U O st ⟨st.sl, setA st.hp n (.opt true B)⟩ := by
  intro B' S ι a w hR
  have hm : ∀ k ∈ nm (setA st.hp n (Blk.opt true B)), k ∈ nm st.hp := fun k hk => by
    obtain ⟨x, hx, rfl⟩ := List.mem_map.1 hk
    rcases mem_setA hx with rfl | ⟨h1, _⟩
    · exact List.mem_map.2 ⟨_, hin, rfl⟩
    · exact List.mem_map.2 ⟨_, h1, rfl⟩
  refine ⟨S, ι, { hR with hp := fun x hx => ?_, own := ⟨fun k hk => hR.own.out k (hm k hk), fun k hk j hj => hR.own.sep k (hm k hk) j (hm j hj)⟩, mine := fun k hk => hR.mine k (hm k hk) }⟩
  rcases mem_setA hx with rfl | ⟨h1, _⟩
  · exact fun _ => hR.hp _ hin
  · exact hR.hp x h1

end
end Go.AM
namespace Go.AM
set_option linter.unusedVariables false

section
variable {α : Type}
theorem remOf_push {seen : Array Nat} {b : Nat} : ∀ (es : List MapEntry) (ys : List α), (∀ x ∈ es, x.born ≠ b) → remOf (seen.push b) es ys = remOf seen es ys
  | [], _, _ => by simp [remOf]
  | _ :: _, [], _ => by simp [remOf]
  | e :: es, y :: ys, h => by
    have h1 := h e List.mem_cons_self
    have ih := remOf_push (seen := seen) es ys fun x hx => h x (List.mem_cons_of_mem _ hx)
    simp [remOf, ih, h1]
theorem remOf_pick {seen : Array Nat} : ∀ (es : List MapEntry) (ys : List α), (es.map (·.born)).Nodup → ∀ (j : Nat) (e : MapEntry) (y : α), es[j]? = some e → ys[j]? = some y → seen.contains e.born = false →
    (remOf seen es ys).Perm (y :: remOf (seen.push e.born) es ys)
  | [], _, _, _, _, _, h, _, _ => by simp at h
  | _ :: _, [], _, _, _, _, _, h, _ => by simp at h
  | e0 :: es, y0 :: ys, hn, 0, e, y, h1, h2, h3 => by
    simp at h1 h2
    subst h1 h2
    rw [List.map_cons, List.nodup_cons] at hn
    have := remOf_push (seen := seen) (b := e0.born) es ys fun x hx he => hn.1 (List.mem_map.2 ⟨x, hx, he⟩)
    unfold remOf
    rw [h3]
    simp [this]
  | e0 :: es, y0 :: ys, hn, j + 1, e, y, h1, h2, h3 => by
    simp only [List.getElem?_cons_succ] at h1 h2
    rw [List.map_cons, List.nodup_cons] at hn
    have hne : e0.born ≠ e.born := fun he => hn.1 (List.mem_map.2 ⟨e, List.mem_of_getElem? h1, he.symm⟩)
    have ih := remOf_pick es ys hn.2 j e y h1 h2 h3
    unfold remOf
    cases hc : seen.contains e0.born
    · have : (seen.push e.born).contains e0.born = false := by
        have h5 : ¬ e0.born ∈ seen := by simpa using hc
        simp [h5, hne]
      rw [this]
      simp only [Bool.false_eq_true, if_false]
      exact (ih.cons y0).trans (.swap _ _ _)
    · have : (seen.push e.born).contains e0.born = true := by
        have h5 : e0.born ∈ seen := by simpa using hc
        simp [h5]
      rw [this]
      simpa using ih
theorem remOf_over {seen : Array Nat} : ∀ (es : List MapEntry) (ys : List α), es.length = ys.length → (∀ x ∈ es, seen.contains x.born = true) → remOf seen es ys = []
  | [], [], _, _ => rfl
  | e :: es, y :: ys, hl, h => by
    unfold remOf
    rw [if_pos (h e List.mem_cons_self)]
    exact remOf_over es ys (by simpa using hl) fun x hx => h x (List.mem_cons_of_mem _ hx)
theorem remOf_sub {seen : Array Nat} : ∀ (es : List MapEntry) (ys : List α), (remOf seen es ys).Sublist ys
  | [], ys => by unfold remOf; exact List.nil_sublist _
  | _ :: _, [] => by unfold remOf; exact List.nil_sublist _
  | e :: es, y :: ys => by
    unfold remOf
    split
    · exact (remOf_sub es ys).cons y
    · exact (remOf_sub es ys).cons_cons y
def Apart (m : KV α) : Prop := m.Pairwise fun x y => x.1 ≠ y.1
end

section
variable {U : Univ} {O : Out} {P : Program} {B : Base} {S : Nat → Prop} {ι : Lay} {w : World} {rs : List (Nat × AVal U)} {a : Act} {ops : Array Oper} {o : Oper} {t : Ty}

theorem exec_next {ρ : Operand → Value} {x : Operand} {q : Bool} (ho : o.op = .next x q) : execOp ρ o = vOf (Instr.next (ρ x) q o.type) := by unfold execOp; rw [ho]; rfl
theorem Conv.closeMap {st : St U} {n : Nat} {es : Array MapEntry} {clock : Nat} {ys kvs : KV (t.den U.T)} (hin : (n, Blk.mapE t es clock ys) ∈ st.hp) (hp : ys.Perm kvs) (hr : Rising kvs) : Conv U O st ⟨st.sl, setA st.hp n (.map t kvs)⟩ := by
  intro B' S ι a w hR
  have hm : ∀ k ∈ nm (setA st.hp n (Blk.map t kvs)), k ∈ nm st.hp := fun k hk => by
    obtain ⟨x, hx, rfl⟩ := List.mem_map.1 hk
    rcases mem_setA hx with rfl | ⟨h1, _⟩
    · exact List.mem_map.2 ⟨_, hin, rfl⟩
    · exact List.mem_map.2 ⟨_, h1, rfl⟩
  refine ⟨S, ι, { hR with hp := fun x hx => ?_, own := ⟨fun k hk => hR.own.out k (hm k hk), fun k hk j hj => hR.own.sep k (hm k hk) j (hm j hj)⟩, mine := fun k hk => hR.mine k (hm k hk) }⟩
  rcases mem_setA hx with rfl | ⟨h1, _⟩
  · obtain ⟨b, c, h1, h2, h3, h4⟩ := hR.hp _ hin
    exact ⟨b, c, es, clock, ys, h1, h2, h3, h4, hp, hr⟩
  · exact hR.hp x h1
theorem Conv.iterRest {st : St U} {d m : Nat} {es : Array MapEntry} {clock : Nat} {ys left : KV (t.den U.T)} {cur : Option (List UInt8 × t.den U.T)} (hin : (d, Blk.iter m t es clock ys left cur) ∈ st.hp) :
    Conv U O st ⟨st.sl, setA st.hp d (.iter m t es clock ys left none)⟩ := by
  intro B' S ι a w hR
  have hm : ∀ k ∈ nm (setA st.hp d (Blk.iter m t es clock ys left none)), k ∈ nm st.hp := fun k hk => by
    obtain ⟨x, hx, rfl⟩ := List.mem_map.1 hk
    rcases mem_setA hx with rfl | ⟨h1, _⟩
    · exact List.mem_map.2 ⟨_, hin, rfl⟩
    · exact List.mem_map.2 ⟨_, h1, rfl⟩
  refine ⟨S, ι, { hR with hp := fun x hx => ?_, own := ⟨fun k hk => hR.own.out k (hm k hk), fun k hk j hj => hR.own.sep k (hm k hk) j (hm j hj)⟩, mine := fun k hk => hR.mine k (hm k hk) }⟩
  rcases mem_setA hx with rfl | ⟨h1, _⟩
  · obtain ⟨b, c, mb, mc, seen, h1, h2, h3, h4, h5⟩ := hR.hp _ hin
    exact ⟨b, c, mb, mc, seen, h1, h2, h3, h4, fun y hy => by cases hy⟩
  · exact hR.hp x h1

def nextA (st : St U) (d m : Nat) (es : Array MapEntry) (clock : Nat) (ys left left' : KV (t.den U.T)) (y : List UInt8 × t.den U.T) (t1 t2 : Nat) : St U :=
  (st.next { cb := [(d, .iter m t es clock ys left none)], pb := [(d, .iter m t es clock ys left' (some y))], ws := .tup [.p .bool true, .junk, .junk] } (some t1)).next { ws := .p .bool true } (some t2)
def nextB (st : St U) (t1 t2 : Nat) : St U := (st.next ({ ws := .tup [.p .bool false] } : LSpec U) (some t1)).next { ws := .p .bool false } (some t2)

theorem WpC.next {id : Nat} {o1 o2 : Oper} {st : St U} {Q : PostQ U} {it d m t1 t2 N : Nat} {es : Array MapEntry} {clock : Nat} {ys left : KV (t.den U.T)} (ts ns : List Nat) (hN : B.n = N)
    (hg1 : o1.guard = none) (ho1 : o1.op = .next (.tmp it) false) (hd1 : o1.dst = some t1) (hg2 : o2.guard = none) (ho2 : o2.op = .extract (.tmp t1) 0) (hd2 : o2.dst = some t2) (hl1 : t1 < N) (hl2 : t2 < N) (hne : t1 ≠ it)
    (h1 : (it, AVal.loc d 0) ∈ st.sl) (h2 : (d, Blk.iter m t es clock ys left none) ∈ st.hp) (h3 : (m, Blk.mapE t es clock ys) ∈ st.hp)
    (hA : ∀ y left', left.Perm (y :: left') → Apart left → ∃ st1, (nextA st d m es clock ys left left' y t1 t2).keep ts ns = st1 ∧ ∃ st', Conv U O st1 st' ∧ Q .normal st')
    (hB : left = [] → ∃ st1, (nextB st t1 t2).keep ts ns = st1 ∧ ∃ st', Conv U O st1 st' ∧ Q .normal st') : WpC U O P B (.region id #[o1, o2] false) st Q := by
  subst hN
  intro S ι a w hR
  refine wp_region_list ?_
  obtain ⟨b, c, mb, mc, seen, r1, r2, r3, r4, r5⟩ := hR.hp _ h2
  obtain ⟨b', c', k1, k2, k3, k4⟩ := hR.hp _ h3
  rw [r2] at k1
  obtain ⟨rfl, rfl⟩ : mb = b' ∧ mc = c' := by simpa using k1
  obtain ⟨b'', c'', l1, l2⟩ := hR.sl _ h1
  rw [r1] at l1
  obtain ⟨rfl, rfl⟩ : b = b'' ∧ c = c'' := by simpa using l1
  have hev : a.eval (.tmp it) = .pointer (some ⟨b, 0, none⟩) := l2
  have hlen := k4.len
  have step : ∀ (K : Act → World → Prop), opWp P #[o1, o2] (post U O B Q) o1 K a w ↔ opWp P #[o1, o2] (post U O B Q) o1 K a w := fun _ => Iff.rfl
  have hlist : opWp P #[o1, o2] (post U O B Q) o1 (wpList P #[o1, o2] (post U O B Q) [o2]) a w := by
    refine opWp_plain hg1 ?_
    unfold Oper.wp
    rw [exec_next ho1, hev]
    have ap : Apart left := r4.symm.pairwise (List.Pairwise.sublist (remOf_sub _ _) (k4.apart k3.2.2)) fun h => h.symm
    have two : ∀ (v : Bool) (vs : List (AVal U)) (s : LSpec U) (S' : Nat → Prop) (ι' : Lay) (a' : Act) (w' : World), Rel U O B S' ι' (st.next { s with ws := .tup (.p .bool v :: vs) } (some t1)) a' w' →
        (∃ st1, ((st.next { s with ws := .tup (.p .bool v :: vs) } (some t1)).next { ws := .p .bool v } (some t2)).keep ts ns = st1 ∧ ∃ st', Conv U O st1 st' ∧ Q .normal st') → wpList P #[o1, o2] (post U O B Q) [o2] a' w' := fun v vs s S' ι' a' w' hR' ⟨st1, e1, st', hcv, hQ⟩ => by
      have hin : (t1, AVal.tup (.p .bool v :: vs)) ∈ (st.next { s with ws := .tup (.p .bool v :: vs) } (some t1)).sl := mem_setA_iff.2 (.inl rfl)
      have hx : SOk U O P #[o1, o2] o2 { rs := [(t1, .tup (.p .bool v :: vs))], ws := .p .bool v } := sok_extract hg2 ho2 (.tmp (.head _)) rfl
      have := hx.use (Q := post U O B Q) (K := wpList P #[o1, o2] (post U O B Q) []) hR' ⟨fun x hx => by simp at hx; subst hx; exact hin, by simp, by simp, by simp, by simp, by simp⟩ (fun t ht => by rw [hd2] at ht; cases ht; exact hl2) fun S'' ι'' a'' w'' hR'' => by
        unfold wpList
        rw [hd2] at hR''
        exact ⟨st', hQ, hcv B S'' ι'' _ _ (e1 ▸ hR''.weak (St.keep_le _ ts ns))⟩
      unfold opWp at this
      unfold wpList
      exact this
    rcases run_next_at (P := P) w o1.type b mb clock clock seen es clock r3 k2 k3.1 (Nat.le_refl _) with ⟨q1, q2⟩ | ⟨e, q1, w1, q2, q3⟩
    · rw [run_vOf q2]
      have hov : ∀ x ∈ es.toList, seen.contains x.born = true := fun x hx => by
        cases hc : seen.contains x.born with
        | true => rfl
        | false =>
          have : x ∈ (leftOf es seen).toList := by unfold leftOf; simp; exact ⟨by simpa using hx, by simpa using hc⟩
          rw [← Array.length_toList] at q1
          rw [List.eq_nil_of_length_eq_zero q1] at this; cases this
      have hl : left = [] := by
        rw [remOf_over _ _ hlen hov] at r4
        exact r4.eq_nil
      rw [Oper.upon_value, hd1]
      refine two false [] {} S ι _ w (hR.next (s := { ws := .tup [.p .bool false] }) ⟨by simp, by simp, by simp, by simp, by simp, by simp⟩ (Nx.refl _ rfl rfl hR.lt) ⟨_, ⟨_, _, rfl, ⟨[.bool false], .bool false, rfl⟩, rfl⟩, rfl⟩ (fun t ht => by cases ht; exact hl1)) (hB hl)
    · rw [run_vOf q3]
      obtain ⟨he, hc⟩ : e ∈ es.toList ∧ seen.contains e.born = false := by unfold leftOf at q1; simpa using q1
      obtain ⟨j, hj, hje⟩ := List.getElem_of_mem he
      have hy : ys[j]? = some (ys[j]'(by rw [← hlen]; exact hj)) := List.getElem?_eq_getElem _
      have hej : es.toList[j]? = some e := by rw [List.getElem?_eq_getElem hj, hje]
      have hpk := remOf_pick (seen := seen) es.toList ys k3.2.1 j e _ hej hy hc
      have hw1 : w1.heap = w.heap ∧ w1.os = w.os ∧ w1.tape = w.tape ∧ w1.output = w.output := by rcases q2 with rfl | rfl <;> exact ⟨rfl, rfl, rfl, rfl⟩
      have hlt : b < w.heap.size := (Array.getElem?_eq_some_iff.1 r3).1
      have hset : ∀ k, (ChangeMaps.setBlock w1 b (.mapIter (some mb) clock (seen.push e.born) clock)).heap[k]? = if k = b then some (.mapIter (some mb) clock (seen.push e.born) clock) else w.heap[k]? := fun k => by
        show (w1.heap.setIfInBounds b _)[k]? = _
        rw [hw1.1]
        by_cases e' : k = b
        · subst e'; rw [if_pos rfl]; simp [hlt]
        · rw [if_neg e']; simp [Array.getElem?_setIfInBounds_ne (Ne.symm e')]
      have hsz : (ChangeMaps.setBlock w1 b (.mapIter (some mb) clock (seen.push e.born) clock)).heap.size = w.heap.size := by
        show (w1.heap.setIfInBounds b _).size = _
        rw [hw1.1]; simp
      rw [Oper.upon_value, hd1]
      have hown := hR.own.out d (mem_nm h2) b c r1
      have hNx : Nx U O { cb := [(d, .iter m t es clock ys left none)], pb := [(d, .iter m t es clock ys (remOf (seen.push e.born) es.toList ys) (some (ys[j]'(by rw [← hlen]; exact hj))))], ws := .tup [.p .bool true, .junk, .junk] } S ι w S ι (ChangeMaps.setBlock w1 b (.mapIter (some mb) clock (seen.push e.born) clock)) := by
        refine ⟨hw1.2.1, hw1.2.2.1, hw1.2.2.2, by rw [hsz]; exact Nat.le_refl _, fun _ h => h, fun _ h => .inl h, fun b h => by rw [hsz]; exact hR.lt b h, fun k hk hnot => ?_, fun _ _ => rfl, fun x hx => ?_, fun k hk b' c' hb' => ?_, fun k hk k' hk' hne => ?_⟩
        · rw [hset, if_neg fun e' => hnot d (by simp [nm]) c (by rw [e']; exact r1)]
        · simp at hx; subst hx
          exact ⟨b, c, mb, mc, seen.push e.born, r1, r2, by rw [hset, if_pos rfl], .refl _, fun y hy => by cases hy; exact ⟨j, e, hej, hy, seen, rfl⟩⟩
        · simp [nm] at hk; subst hk
          rw [r1] at hb'
          obtain ⟨rfl, rfl⟩ : b = b' ∧ c = c' := by simpa using hb'
          exact ⟨hown.1, by rw [hsz]; exact hlt, .inr ⟨k, by simp [nm], c, r1⟩⟩
        · simp [nm] at hk hk'; exact absurd (hk.trans hk'.symm) hne
      refine two true [.junk, .junk] { cb := [(d, .iter m t es clock ys left none)], pb := [(d, .iter m t es clock ys (remOf (seen.push e.born) es.toList ys) (some (ys[j]'(by rw [← hlen]; exact hj))))] } S ι _ _
        (hR.next ⟨by simp, by simp, fun x hx => by simp at hx; subst hx; exact h2, by simp, by simp [nm], by simp⟩ hNx ⟨_, ⟨_, _, rfl, ⟨[.bool true], .bool true, rfl⟩, _, _, rfl, trivial, _, _, rfl, trivial, rfl⟩, rfl⟩ (fun t ht => by cases ht; exact hl1)) (hA _ _ (r4.trans hpk) ap)
  unfold opWp at hlist
  show wpList P #[o1, o2] (post U O B Q) [o1, o2] a w
  unfold wpList
  exact hlist
end
end Go.AM
namespace Go.AM
set_option linter.unusedVariables false
open Go.WideElems (Fit rd rg)

section
variable {U : Univ} {O : Out} {P : Program} {S S' : Nat → Prop} {ι ι' : Lay} {w w' : World} {t : Ty}

theorem Nx.frame {s : LSpec U} (h : Nx U O s S ι w S' ι' w') (h1 : s.cb = []) (bs : List (Nat × Blk U)) (hnn : ∀ n ∈ s.nn, n ∉ nm bs ∧ ∀ x ∈ bs, n ∉ Blk.names U x.2) (hbs : ∀ x ∈ bs, BR U O S ι w x.1 x.2)
    (hown : Own S ι w (nm bs)) (hlt : ∀ b, S b → b < w.heap.size) : Nx U O { s with cb := bs, pb := s.pb ++ bs } S ι w S' ι' w' := by
  have hkeep : ∀ b, b < w.heap.size → w'.heap[b]? = w.heap[b]? := fun b hb => h.keep b hb (by rw [h1]; simp)
  have hnew : ∀ b, S' b → S b ∨ w.heap.size ≤ b := fun b hb => by
    rcases h.new b hb with h | h | ⟨m, hm, _⟩
    · exact .inl h
    · exact .inr h
    · rw [h1] at hm; cases hm
  have hlay : ∀ n ∈ nm bs, ι' n = ι n := fun n hn => h.lay n fun hin => (hnn n hin).1 hn
  have hpb : ∀ n ∈ nm s.pb, ∀ b c, ι' n = some (b, c) → w.heap.size ≤ b := fun n hn b c hb => by
    rcases (h.plc n hn b c hb).2.2 with h | ⟨m, hm, _⟩
    · exact h
    · rw [h1] at hm; cases hm
  have split : ∀ n, n ∈ nm (s.pb ++ bs) → n ∈ nm s.pb ∨ n ∈ nm bs := fun n hn => by
    have : n ∈ List.map _ (_ ++ _) := hn
    rw [List.map_append] at this
    exact List.mem_append.1 this
  refine ⟨h.os, h.tape, h.output, h.size, h.sub, fun b hb => (hnew b hb).elim .inl fun h => .inr (.inl h), h.lt, fun b hb _ => hkeep b hb, h.lay, fun x hx => ?_, fun n hn b c hb => ?_, fun n hn m hm hne b c c' hb => ?_⟩
  · rcases List.mem_append.1 hx with hx | hx
    · exact h.blk x hx
    · have hxn : x.1 ∈ nm bs := List.mem_map.2 ⟨x, hx, rfl⟩
      exact BR.mono (fun b hb => hkeep b (hlt b hb)) h.sub (hlay _ hxn) (fun m hm => h.lay m fun hin => (hnn m hin).2 x hx hm) (fun b c hb => hkeep b (hown.out x.1 hxn b c hb).2) (hbs x hx)
  · rcases split n hn with hn | hn
    · have := h.plc n hn b c hb
      exact ⟨this.1, this.2.1, .inl (hpb n hn b c hb)⟩
    · rw [hlay n hn] at hb
      obtain ⟨o1, o2⟩ := hown.out n hn b c hb
      refine ⟨fun hS => ?_, Nat.lt_of_lt_of_le o2 h.size, .inr ⟨n, hn, c, hb⟩⟩
      rcases hnew b hS with h | h
      · exact o1 h
      · omega
  · rcases split n hn with hn | hn <;> rcases split m hm with hm | hm
    · exact h.sep n hn m hm hne b c c' hb
    · rw [hlay m hm]
      intro hb'
      have := (hown.out m hm b c' hb').2
      have := hpb n hn b c hb
      omega
    · rw [hlay n hn] at hb
      intro hb'
      have := (hown.out n hn b c hb).2
      have := hpb m hm b c' hb'
      omega
    · rw [hlay n hn] at hb
      rw [hlay m hm]
      exact hown.sep n hn m hm hne b c c' hb

def unitR : Value → Option (DataW Unit × List MemPlace) := fun _ => some (.lit (.bool true), [])
end
end Go.AM
namespace Go.AM
open Go Go.RowKit
set_option linter.unusedVariables false

def eqG (U : Univ) : (t : Ty) → t.den U.T → t.den U.T → Bool
  | .pair (.named n) b, x, y => eqB (U.body n) (U.out n x.1) (U.out n y.1) && eqG U b x.2 y.2
  | .pair a b, x, y => eqB a x.1 y.1 && eqG U b x.2 y.2
  | .unit, _, _ => true
  | _, _, _ => false

section
variable {U : Univ} {O : Out} {P : Program} {S : Nat → Prop} {ι : Lay} {w : World} {rs : List (Nat × AVal U)} {a : Act} {ops : Array Oper} {o : Oper}
inductive EqG (P : Program) (U : Univ) : List Field → Nat → Ty → Prop
  | nil {off : Nat} : EqG P U [] off .unit
  | cons {f : Field} {fs : List Field} {off : Nat} {a b : Ty} : f.name ≠ "_" → f.offset = off → TyOk P U f.type a → EqOne P f.type a → EqG P U fs (off + 1) b → EqG P U (f :: fs) off (.pair a b)
  | st {f : Field} {fs : List Field} {gs : Array Field} {off n k : Nat} {b : Ty} : f.name ≠ "_" → f.offset = off → TyOk P U f.type (.named n) → P.underlying f.type = some (.struct gs) → P.stoodInHeld f.type = false → EqF P U gs.toList 0 (U.body n) →
      (Ty.named n).width U.wd = k → EqG P U fs (off + k) b → EqG P U (f :: fs) off (.pair (.named n) b)

theorem EqG.run {fs : List Field} {off : Nat} {t : Ty} (h : EqG P U fs off t) (d : Nat) : ∀ {x y : t.den U.T} {c1 c2 : List Value} {xs ys : Array Value}, Rd U O S w t x c1 → Rd U O S w t y c2 →
    (∀ j, j < c1.length → xs[off + j]? = c1[j]?) → (∀ j, j < c2.length → ys[off + j]? = c2[j]?) → (Op.eqFields (d + 2) xs ys fs).run P w = .ok (eqG U t x y) w := by
  induction h with
  | nil => intro x y c1 c2 xs ys _ _ _ _; simp [Op.eqFields, eqG]
  | @cons f fs off a b hn ho ht he _ ih =>
    intro x y c1 c2 xs ys h1 h2 g1 g2
    cases h1 with
    | @pair _ _ x1 x2 p1 p2 a1 a2 =>
    cases h2 with
    | @pair _ _ y1 y2 q1 q2 b1 b2 =>
    obtain ⟨e1, e2, e3⟩ := he.run (P := P) (w := w) (d + 1) a1 b1
    have hp1 : (part f.type xs f.offset).run P w = .ok (mkV a.isAgg p1) w := run_part ht a1.length (fun j hj => by
      have hl := a1.length
      rw [ho, g1 j (by rw [List.length_append]; omega), List.getElem?_append_left (by omega)]) width_one w
    have hp2 : (part f.type ys f.offset).run P w = .ok (mkV a.isAgg q1) w := run_part ht b1.length (fun j hj => by
      have hl := b1.length
      rw [ho, g2 j (by rw [List.length_append]; omega), List.getElem?_append_left (by omega)]) width_one w
    have hr := ih (xs := xs) (ys := ys) a2 b2 (fun j hj => by
      have := g1 (1 + j) (by rw [List.length_append]; omega)
      rw [show off + 1 + j = off + (1 + j) by omega, this, List.getElem?_append_right (by omega)]; congr 1; omega) (fun j hj => by
      have := g2 (1 + j) (by rw [List.length_append]; omega)
      rw [show off + 1 + j = off + (1 + j) by omega, this, List.getElem?_append_right (by omega)]; congr 1; omega)
    have hq : eqG U (.pair a b) (x1, x2) (y1, y2) = (eqB a x1 y1 && eqG U b x2 y2) := by cases he <;> rfl
    rw [hq]
    simp only [Op.eqFields, hn, ne_eq, not_false_eq_true, if_true, Sem.run_bind, hp1, hp2, e1, Result.andThen_ok]
    cases eqB a x1 y1
    · simp
    · simpa using hr
  | @st f fs gs off n k b hn ho ht hu hs hf hk _ ih =>
    intro x y c1 c2 xs ys h1 h2 g1 g2
    cases h1 with
    | @pair _ _ x1 x2 p1 p2 a1 a2 =>
    cases h2 with
    | @pair _ _ y1 y2 q1 q2 b1 b2 =>
    have hl1 : p1.length = k := hk ▸ a1.length
    have hl2 : q1.length = k := hk ▸ b1.length
    have hp1 : (part f.type xs f.offset).run P w = .ok (mkV (Ty.named n).isAgg p1) w := run_part ht a1.length (fun j hj => by
      rw [ho, g1 j (by rw [List.length_append]; omega), List.getElem?_append_left (by omega)]) width_one w
    have hp2 : (part f.type ys f.offset).run P w = .ok (mkV (Ty.named n).isAgg q1) w := run_part ht b1.length (fun j hj => by
      rw [ho, g2 j (by rw [List.length_append]; omega), List.getElem?_append_left (by omega)]) width_one w
    have hr := ih (xs := xs) (ys := ys) a2 b2 (fun j hj => by
      have := g1 (k + j) (by rw [List.length_append]; omega)
      rw [show off + k + j = off + (k + j) by omega, this, List.getElem?_append_right (by omega)]; congr 1; omega) (fun j hj => by
      have := g2 (k + j) (by rw [List.length_append]; omega)
      rw [show off + k + j = off + (k + j) by omega, this, List.getElem?_append_right (by omega)]; congr 1; omega)
    have hfo : P.fieldsOf f.type = gs := by simp [Program.fieldsOf, hu]
    have e1 : (Op.equalIn (d + 2) f.type (mkV (Ty.named n).isAgg p1) (mkV (Ty.named n).isAgg q1)).run P w = .ok (eqB (U.body n) (U.out n x1) (U.out n y1)) w := by
      cases a1 with
      | named _ _ a1 =>
      cases b1 with
      | named _ _ b1 =>
      show (Op.equalIn (d + 1 + 1) f.type (.agg p1.toArray) (.agg q1.toArray)).run P w = _
      rw [run_equalIn_struct w (d + 1) f.type _ _ (by rw [hfo]; exact hu) hs, hfo]
      exact hf.run d a1 b1 (fun j hj => by simp) (fun j hj => by simp)
    have hq : eqG U (.pair (.named n) b) (x1, x2) (y1, y2) = (eqB (U.body n) (U.out n x1) (U.out n y1) && eqG U b x2 y2) := rfl
    rw [hq]
    simp only [Op.eqFields, hn, ne_eq, not_false_eq_true, if_true, Sem.run_bind, hp1, hp2, e1, Result.andThen_ok]
    cases eqB (U.body n) (U.out n x1) (U.out n y1)
    · simp
    · simpa using hr
end

section
variable {U : Univ} {O : Out} {S S' : Nat → Prop} {ι ι' : Lay} {w w' : World} {t : Ty}
theorem Nx.rowBlk {s : LSpec U} {E : TypeId} {xs : List (t.den U.T)} {v' : Value} {n d : Nat} {news : List Value} (hrow : w'.ownsRow w.heap.size E (t.width U.wd) v' n news) (hb : RowKit.Below w.heap.size w w')
    (hn : n = xs.length) (hcb : s.cb = []) (hpb : s.pb = [(d, .row E t xs false)]) (hnn : s.nn = [d]) (hlt : ∀ b, S b → b < w.heap.size)
    (hel : ∀ (i : Nat) (h : i < xs.length), ∃ cs, Rd U O S w t xs[i] cs ∧ ∀ j, j < t.width U.wd → news[i * t.width U.wd + j]? = cs[j]?) :
    ∃ ι', Nx U O s S ι w S ι' w' ∧ VV U O S ι' w' (.vec d (t.width U.wd) 0 xs.length) v' := by
  subst hn
  have hl := hrow.lt
  obtain ⟨hlen, ⟨rfl, h0⟩ | ⟨g, cap, cur, rfl, hg, hh, hcap, hmx, hsz, htk⟩⟩ := hrow
  · have : xs = [] := List.eq_nil_of_length_eq_zero h0
    subst this
    refine ⟨fun m => if m = d then none else ι m, ⟨hb.os, hb.tape, hb.output, hb.size, fun _ h => h, fun _ h => .inl h, fun b h => Nat.lt_of_lt_of_le (hlt b h) hb.size, fun b hb' _ => hb.block b hb', fun m hm => ?_, fun x hx => ?_, fun m hm b c hbc => ?_, fun m hm m' hm' hne => ?_⟩, ?_⟩
    · rw [hnn] at hm; exact if_neg (by simpa using hm)
    · rw [hpb] at hx; simp at hx; subst hx
      exact .inl ⟨by simp, rfl, rfl⟩
    · rw [hpb] at hm; simp [nm] at hm; subst hm; simp at hbc
    · rw [hpb] at hm hm'; simp [nm] at hm hm'; subst hm hm'; exact absurd rfl hne
    · exact .inl ⟨by simp, rfl, rfl, rfl⟩
  · have hgl : g < w'.heap.size := (Array.getElem?_eq_some_iff.1 hh).1
    refine ⟨fun m => if m = d then some (g, cap) else ι m, ⟨hb.os, hb.tape, hb.output, hb.size, fun _ h => h, fun _ h => .inl h, fun b h => Nat.lt_of_lt_of_le (hlt b h) hb.size, fun b hb' _ => hb.block b hb', fun m hm => ?_, fun x hx => ?_, fun m hm b c hbc => ?_, fun m hm m' hm' hne => ?_⟩, ?_⟩
    · rw [hnn] at hm; exact if_neg (by simpa using hm)
    · rw [hpb] at hx; simp at hx; subst hx
      refine .inr ⟨g, cap, cur, fun i => if h : i < xs.length then (hel i h).choose else [], by simp, hh, hsz, hmx, hcap, by simp, fun i h => ?_, fun i j hi hj => ?_⟩
      · simp only [h, dif_pos]
        exact (hel i h).choose_spec.1.mono (fun b hS => hb.block b (hlt b hS)) fun _ h => h
      · simp only [hi, dif_pos]
        rw [← (hel i hi).choose_spec.2 j hj, ← htk, List.getElem?_take_of_lt (by
          have : (i + 1) * t.width U.wd ≤ xs.length * t.width U.wd := Nat.mul_le_mul_right _ hi
          rw [Nat.succ_mul] at this; omega), Array.getElem?_toList]
    · rw [hpb] at hm; simp [nm] at hm; subst hm
      simp at hbc; obtain ⟨rfl, rfl⟩ := hbc
      exact ⟨fun hS => absurd (hlt _ hS) (by omega), hgl, .inl hg⟩
    · rw [hpb] at hm hm'; simp [nm] at hm hm'; subst hm hm'; exact absurd rfl hne
    · exact .inr ⟨g, cap, 0, by simp, by omega, by simp, .inl (by simp)⟩
theorem put_size {α : Type} [Inhabited α] {enc : α → Value} {off : Nat} {d : Array α} {arr : Array Value} : (Sort.putCells enc off d arr).size = arr.size := by simp [Sort.putCells]
end
end Go.AM

namespace Go.AM
open Go
set_option linter.unusedVariables false
section
variable {U : Univ} {O : Out}
theorem Conv.openS {st : St U} {q : Bool} (t n : Nat) (hq : q = true) (hin : (t, AVal.opt q n) ∈ st.sl) : Conv U O st ⟨setA st.sl t (.loc n 0), st.hp⟩ := by
  intro B S ι a w hR
  refine ⟨S, ι, { hR with sl := fun x hx => ?_ }⟩
  rcases mem_setA hx with rfl | ⟨h1, _⟩
  · have h := hR.sl _ hin
    simp only [VV] at h ⊢
    exact h.1 hq
  · exact hR.sl x h1
theorem Conv.openB {st : St U} {q : Bool} (n : Nat) (B : Blk U) (hq : q = true) (hin : (n, Blk.opt q B) ∈ st.hp) : Conv U O st ⟨st.sl, setA st.hp n B⟩ := by
  intro B' S ι a w hR
  have hm : ∀ k ∈ nm (setA st.hp n B), k ∈ nm st.hp := fun k hk => by
    obtain ⟨x, hx, rfl⟩ := List.mem_map.1 hk
    rcases mem_setA hx with rfl | ⟨h1, _⟩
    · exact List.mem_map.2 ⟨_, hin, rfl⟩
    · exact List.mem_map.2 ⟨_, h1, rfl⟩
  refine ⟨S, ι, { hR with hp := fun x hx => ?_, own := ⟨fun k hk => hR.own.out k (hm k hk), fun k hk j hj => hR.own.sep k (hm k hk) j (hm j hj)⟩, mine := fun k hk => hR.mine k (hm k hk) }⟩
  rcases mem_setA hx with rfl | ⟨h1, _⟩
  · exact hR.hp _ hin hq
  · exact hR.hp x h1
end
end Go.AM

namespace Go.AM
open Go Go.RowKit Go.Sort Go.Proofs
set_option linter.unusedVariables false
theorem halloc_new (w : World) (o : Obj) : (w.alloc o).heap[w.heap.size]? = some o := by
  show (w.heap.push o)[w.heap.size]? = _
  simp
theorem halloc_old (w : World) (o : Obj) (b : Nat) (h : b < w.heap.size) : (w.alloc o).heap[b]? = w.heap[b]? := by
  show (w.heap.push o)[b]? = _
  rw [Array.getElem?_push_lt h, Array.getElem?_eq_getElem h]
section
variable {U : Univ} {O : Out} {S : Nat → Prop} {ι : Lay} {w w' : World}
end
end Go.AM

namespace Go.AM
open Go Go.RowKit
set_option linter.unusedVariables false
section
variable {U : Univ} {O : Out} {P : Program} {S : Nat → Prop} {ι : Lay} {w : World} {rs : List (Nat × AVal U)} {a : Act} {ops : Array Oper} {o : Oper}
end
end Go.AM
namespace Go.AM
theorem w64 {n : Int} (h0 : -9223372036854775808 ≤ n) (h1 : n ≤ 9223372036854775807) : IntKind.i64.wrap n = n := by
  simp only [IntKind.wrap, IntKind.bits, IntKind.signed]
  simp
  omega
theorem idx_at {α : Type} {l : List α} {v : Int} {i : Nat} (e : v = i) (h : i < l.length) : idx l v = some l[i] := by
  subst e; simp [idx, h]
theorem sub_at {α : Type} {l : List α} {v u : Int} {a b : Nat} (ev : v = a) (eu : u = b) (h : a ≤ b) (h' : b ≤ l.length) : sub l v u = some ((l.take b).drop a) := by
  subst ev; subst eu
  unfold sub
  rw [if_pos (by omega)]
  simp
theorem u8_eq {a b : UInt8} : ((a.toNat : Int) == (b.toNat : Int)) = (a == b) := by
  by_cases h : a = b
  · subst h; simp
  · have : ¬ a.toNat = b.toNat := fun e => h (UInt8.toNat_inj.1 e)
    rw [beq_eq_false_iff_ne.2 h, beq_eq_false_iff_ne]
    omega
end Go.AM
namespace Go.AM
open Go
set_option linter.unusedVariables false
section
variable {U : Univ} {O : Out} {P : Program} {S : Nat → Prop} {ι : Lay} {w : World} {rs : List (Nat × AVal U)} {a : Act} {ops : Array Oper} {o : Oper}
theorem sok_lenNil {T E : TypeId} {x : Operand} (hg : o.guard = none) (ho : o.op = .call { callee := .builtin .len, args := #[x], argTypes := #[T] }) (ht : P.underlying T = some (.slice E)) (hx : Opd U rs x (.lit (.slice none 0 0))) :
    SOk U O P ops o { rs := rs, ws := .p (.int .i64) (0 : Int) } :=
  sok_v hg _ (fun _ => exec_len ho) fun S ι w a hrs _ => by
    refine ⟨.int .i64 0, ?_, VV.int_iff.2 rfl⟩
    rw [(hx.ev hrs).1]
    simp [Builtin.len_, run_underlying ht, goInt]
theorem sok_capNil {T E : TypeId} {x : Operand} (hg : o.guard = none) (ho : o.op = .call { callee := .builtin .cap, args := #[x], argTypes := #[T] }) (ht : P.underlying T = some (.slice E)) (hx : Opd U rs x (.lit (.slice none 0 0))) :
    SOk U O P ops o { rs := rs, ws := .p (.int .i64) (0 : Int) } :=
  sok_v hg _ (fun _ => exec_cap ho) fun S ι w a hrs _ => by
    refine ⟨.int .i64 0, ?_, VV.int_iff.2 rfl⟩
    rw [(hx.ev hrs).1]
    simp [Builtin.cap_, run_underlying ht, goInt]
theorem sok_sliceNil {T E : TypeId} {t : Ty} {x : Operand} {lo hi : Option Operand} (hg : o.guard = none) (ho : o.op = .slice T x lo hi none) (ht : SlOk P U T E t) (hx : Opd U rs x (.lit (.slice none 0 0))) (hl : Bd U rs 0 lo 0) (hh : Bd U rs 0 hi 0) :
    SOk U O P ops o { rs := rs, ws := .lit (.slice none 0 0) } :=
  sok_v hg _ (fun _ => exec_slice ho) fun S ι w a hrs _ => by
    have hsb := run_sliceBounds (P := P) true 0 0 hl hh hrs (by omega) (by omega) (by omega) w
    refine ⟨.slice none 0 0, ?_, ⟨rfl, (hx.ev hrs).2⟩⟩
    rw [(hx.ev hrs).1]
    simp [Instr.sliceAt, Instr.slice, Sem.run_bind, Result.andThen_ok, run_underlying ht.under, hsb, run_sizeOf ht.el]
end
section
variable {U : Univ} {O : Out}
theorem Conv.shrink0 {st : St U} (n E : Nat) (ty : Ty) (xs : List (ty.den U.T)) (fx : Bool) (hin : (n, Blk.row E ty xs fx) ∈ st.hp) : Conv U O st ⟨st.sl, setA st.hp n (.row E ty ([] : List (ty.den U.T)) false)⟩ := by
  intro B S ι a w hR
  have hm : ∀ k ∈ nm (setA st.hp n (Blk.row E ty ([] : List (ty.den U.T)) false)), k ∈ nm st.hp := fun k hk => by
    obtain ⟨x, hx, rfl⟩ := List.mem_map.1 hk
    rcases mem_setA hx with rfl | ⟨h1, _⟩
    · show n ∈ nm st.hp
      exact mem_nm hin
    · exact mem_nm h1
  refine ⟨S, ι, { hR with hp := fun x hx => ?_, own := ⟨fun k hk => hR.own.out k (hm k hk), fun k hk j hj => hR.own.sep k (hm k hk) j (hm j hj)⟩, mine := fun k hk => hR.mine k (hm k hk) }⟩
  rcases mem_setA hx with rfl | ⟨h1, _⟩
  · rcases hR.hp _ hin with ⟨h1, _, h3⟩ | ⟨b, c, arr, cs, h1, h2, h3, h4, h5, h6, h7, h8⟩
    · exact .inl ⟨h1, rfl, rfl⟩
    · exact .inr ⟨b, c, arr, cs, h1, h2, h3, h4, by simp, (fun h => by cases h), fun i h => absurd h (by simp), fun i j h => absurd h (by simp)⟩
  · exact hR.hp x h1
end
section
variable {U : Univ} {O : Out} {S : Nat → Prop} {ι : Lay} {w w' : World}
open Go.RowKit Go.Sort Go.Proofs
end
section
variable {U : Univ} {O : Out} {P : Program} {S : Nat → Prop} {ι : Lay} {w : World} {rs : List (Nat × AVal U)} {a : Act} {ops : Array Oper} {o : Oper}
theorem run_append_nil_made (T Ti ty e : TypeId) (i : TypeInfo) (z : Value) (ht : P.underlying T = some (.slice e)) (hu : P.underlying Ti = some (.int .i64)) (hi : P.info? e = some i) (hz : i.zero = some z) (hs : 0 < i.size)
    (n : Nat) (h0 : 0 < n) (h63 : (n : Int) ≤ 9223372036854775807) (h48 : n * i.bytes ≤ 281474976710656) :
    (Builtin.append_ #[T, Ti] ty #[.slice none 0 0, .int .i64 n]).run P w =
      .ok (.slice (some ⟨w.heap.size, 0, none⟩) n (grownCap w n 0 e)) (w.drew.alloc (.cells (Builtin.zeroCells z.cells n ++ Builtin.zeroCells z.cells (grownCap w n 0 e - n)) e)) := by
  have hn : n ≠ 0 := by omega
  have h63' : ¬ (9223372036854775807 < (n : Int)) := by omega
  have h48' : ¬ (281474976710656 < Builtin.nextslicecap n 0 * i.bytes) := by rw [nextslicecap_zero h0]; omega
  have h48i : ¬ ((281474976710656 : Int) < (n : Int) * (i.bytes : Int)) := by
    have : ((n * i.bytes : Nat) : Int) ≤ 281474976710656 := by omega
    rw [Int.natCast_mul] at this; omega
  have hw : IntKind.i64.wrap (n : Int) = (n : Int) := w64 (by omega) (by omega)
  have hneg : ¬ ((n : Int) < 0) := by omega
  simp [Builtin.append_, run_underlying ht, run_underlying hu, sizeOf, typeInfo, zeroValue, hi, hz, Builtin.lenOf, Builtin.firstCells, asInt, asIntOf, hw, hneg, hn, h63', h48', h48i, Question.forced, newRow, grownCap]
  intro h
  exact absurd h (Nat.ne_of_gt (Nat.mul_pos h0 hs))
theorem sok_appendNZ {T Ti E : TypeId} {t : Ty} {by_ d : Nat} {n : Int} {x y : Operand} (hg : o.guard = none) (_ : o.dst = some d)
    (ho : o.op = .call { callee := .builtin .append, args := #[x, y], argTypes := #[T, Ti] }) (hT : RowOk P U T E t by_) (hu : P.underlying Ti = some (.int .i64))
    (hx : Opd U rs x (.lit (.slice none 0 0))) (hy : Opd U rs y (.p (.int .i64) n)) (h0 : (0 : Int) < n) (hlim : n.toNat * by_ ≤ 140737488355328) (hby : 1 ≤ by_) :
    SOk U O P ops o { rs := rs, ws := .vec d (t.width U.wd) 0 n.toNat, pb := [(d, .row E t ([] : List (t.den U.T)) false)], nn := [d] } := by
  intro S ι w a hlt hgl hrs hro hcb hown K Q hK
  have hx0 : a.eval x = .slice none 0 0 := (hx.ev hrs).1
  have hy0 : a.eval y = .int .i64 n := VV.int_iff.1 (hy.ev hrs)
  obtain ⟨i, z, hi, hz, hs, hb, hzs⟩ := hT.info
  obtain ⟨k, rfl⟩ : ∃ k : Nat, n = (k : Int) := ⟨n.toNat, by omega⟩
  have hk0 : 0 < k := by omega
  simp only [Int.toNat_natCast] at hlim hK ⊢
  have hk1 : k ≤ 140737488355328 := Nat.le_trans (Nat.le_mul_of_pos_right k hby) hlim
  have hrun := run_append_nil_made (P := P) (w := w) T Ti o.type E i z hT.sl.under hu hi hz (by rw [hs]; exact hT.pos) k hk0 (by omega) (by rw [hb]; omega)
  have hge := grownCap_ge w k 0 E
  have hcm : grownCap w k 0 E ≤ maxLen := grownCap_le_maxLen w k 0 E (by unfold maxLen; omega)
  have hrow : (w.drew.alloc (.cells (Builtin.zeroCells z.cells k ++ Builtin.zeroCells z.cells (grownCap w k 0 E - k)) E)).ownsRow w.heap.size E (t.width U.wd) (.slice (some ⟨w.heap.size, 0, none⟩) 0 (grownCap w k 0 E)) 0 [] := by
    refine ⟨by simp, .inr ⟨w.heap.size, _, _, rfl, Nat.le_refl _, halloc_new w.drew _, by omega, hcm, ?_, by simp⟩⟩
    simp only [Array.size_append, size_zeroCells, hzs, ← Nat.add_mul]
    congr 1
    omega
  have hbel : RowKit.Below w.heap.size w (w.drew.alloc (.cells (Builtin.zeroCells z.cells k ++ Builtin.zeroCells z.cells (grownCap w k 0 E - k)) E)) := ⟨rfl, rfl, rfl, by simp, fun b hb => halloc_old w.drew _ b hb⟩
  obtain ⟨ι', hN, hV⟩ := Nx.rowBlk (U := U) (O := O) (t := t) (ι := ι) (S := S) (d := d) (s := { rs := rs, ws := .vec d (t.width U.wd) 0 k, pb := [(d, .row E t ([] : List (t.den U.T)) false)], nn := [d] }) (xs := []) hrow hbel rfl rfl rfl rfl hlt (fun i h => absurd h (by simp))
  refine opWp_plain hg ?_
  unfold Oper.wp
  have he : execOp a.eval o = vOf (Builtin.append_ #[T, Ti] o.type #[a.eval x, a.eval y]) := by rw [exec_builtin ho]; simp [builtin, vOf]
  rw [he, hx0, hy0, run_vOf hrun]
  refine hK _ S ι' _ hN ?_
  rcases hV with ⟨_, _, _, h⟩ | ⟨b, c, o', h1, h2, h3, h4⟩
  · cases h
  · have h3 : (⟨w.heap.size, 0, none⟩ : Addr) = ⟨b, o', none⟩ ∧ grownCap w k 0 E = c - 0 := by simpa using h3
    obtain ⟨h5, h6⟩ := h3
    have h7 : w.heap.size = b ∧ 0 = o' := by simpa using h5
    obtain ⟨rfl, rfl⟩ := h7
    exact .inr ⟨w.heap.size, c, 0, h1, by omega, by rw [h6], .inl (by simp)⟩
end
end Go.AM
namespace Go.AM
open Go
set_option linter.unusedVariables false
section
variable {U : Univ} {O : Out}
theorem Conv.shrinkN {st : St U} (n E m : Nat) (ty : Ty) (xs : List (ty.den U.T)) (fx : Bool) (hin : (n, Blk.row E ty xs fx) ∈ st.hp) : Conv U O st ⟨st.sl, setA st.hp n (.row E ty (xs.take m) false)⟩ := by
  intro B S ι a w hR
  have hm : ∀ k ∈ nm (setA st.hp n (Blk.row E ty (xs.take m) false)), k ∈ nm st.hp := fun k hk => by
    obtain ⟨x, hx, rfl⟩ := List.mem_map.1 hk
    rcases mem_setA hx with rfl | ⟨h1, _⟩
    · show n ∈ nm st.hp
      exact mem_nm hin
    · exact mem_nm h1
  refine ⟨S, ι, { hR with hp := fun x hx => ?_, own := ⟨fun k hk => hR.own.out k (hm k hk), fun k hk j hj => hR.own.sep k (hm k hk) j (hm j hj)⟩, mine := fun k hk => hR.mine k (hm k hk) }⟩
  rcases mem_setA hx with rfl | ⟨h1, _⟩
  · rcases hR.hp _ hin with ⟨h1, h2, h3⟩ | ⟨b, c, arr, cs, h1, h2, h3, h4, h5, h6, h7, h8⟩
    · exact .inl ⟨h1, by rw [h2]; simp, rfl⟩
    · refine .inr ⟨b, c, arr, cs, h1, h2, h3, h4, by rw [List.length_take]; omega, (fun h => by cases h), fun i h => ?_, fun i j h => ?_⟩
      · rw [List.length_take] at h
        rw [List.getElem_take]; exact h7 i (by omega)
      · rw [List.length_take] at h; exact h8 i j (by omega)
  · exact hR.hp x h1
end
section
variable {U : Univ} {O : Out} {P : Program} {S : Nat → Prop} {ι : Lay} {w : World} {rs : List (Nat × AVal U)} {a : Act} {ops : Array Oper} {o : Oper}
end
end Go.AM
