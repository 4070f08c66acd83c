/- The abstract layer, part M1: maps with texts as keys: the plain facts, and the operations on an owned map. -/
import Derived.Test.YthmbbdemecljpaaDoorK11AmZ
import Derived.Laws.Pointers
namespace Go.AM
set_option linter.unusedVariables false

/-! ### plain facts -/
abbrev KV (α : Type) := List (List UInt8 × α)
section
variable {α : Type}
def mget (k : List UInt8) : KV α → Option α
  | [] => none
  | y :: r => if y.1 = k then some y.2 else mget k r
def mput (k : List UInt8) (v : α) : KV α → KV α
  | [] => [(k, v)]
  | y :: r => if y.1 = k then (k, v) :: r else if Op.bytesLess k y.1 then (k, v) :: y :: r else y :: mput k v r
def mdel (k : List UInt8) (m : KV α) : KV α := m.filter fun y => !(y.1 == k)
def Rising (m : KV α) : Prop := m.Pairwise fun x y => Op.bytesLess x.1 y.1 = true

theorem bytesLess_eq : ∀ (x y : List UInt8), Op.bytesLess x y = decide (x < y)
  | [], [] => by simp [Op.bytesLess]
  | _ :: _, [] => by simp [Op.bytesLess]
  | [], _ :: _ => by simp [Op.bytesLess]
  | a :: x, b :: y => by
    rw [Op.bytesLess, bytesLess_eq x y]
    simp only [List.cons_lt_cons_iff]
    by_cases h1 : a < b <;> by_cases h2 : a = b <;> by_cases h3 : x < y <;> simp [h1, h2, h3]
theorem less_irrefl (a : List UInt8) : Op.bytesLess a a = false := by rw [bytesLess_eq]; simp
theorem less_trans {a b c : List UInt8} (h1 : Op.bytesLess a b = true) (h2 : Op.bytesLess b c = true) : Op.bytesLess a c = true := by
  rw [bytesLess_eq, decide_eq_true_eq] at *; exact List.lt_trans h1 h2
theorem less_total : ∀ {a b : List UInt8}, a ≠ b → Op.bytesLess a b = true ∨ Op.bytesLess b a = true
  | [], [], h => absurd rfl h
  | [], _ :: _, _ => .inl rfl
  | _ :: _, [], _ => .inr rfl
  | a :: x, b :: y, h => by
    simp only [Op.bytesLess, Bool.or_eq_true, decide_eq_true_eq, Bool.and_eq_true, beq_iff_eq]
    by_cases h1 : a = b
    · subst h1
      rcases less_total (a := x) (b := y) (fun e => h (by rw [e])) with h2 | h2
      · exact .inl (.inr ⟨rfl, h2⟩)
      · exact .inr (.inr ⟨rfl, h2⟩)
    · have h2 : a.toNat ≠ b.toNat := fun e => h1 (UInt8.toNat_inj.1 e)
      rcases Nat.lt_or_gt_of_ne h2 with h3 | h3
      · exact .inl (.inl (UInt8.lt_iff_toNat_lt.2 h3))
      · exact .inr (.inl (UInt8.lt_iff_toNat_lt.2 h3))
theorem less_ne {a b : List UInt8} (h : Op.bytesLess a b = true) : a ≠ b := by rintro rfl; rw [less_irrefl] at h; cases h

theorem Rising.apart {m : KV α} (h : Rising m) : m.Pairwise fun x y => x.1 ≠ y.1 := h.imp fun h => less_ne h
theorem Rising.del {m : KV α} (h : Rising m) (k : List UInt8) : Rising (mdel k m) := h.filter _
theorem mput_mem {k : List UInt8} {v : α} : ∀ {m : KV α} {x : List UInt8 × α}, x ∈ mput k v m → x = (k, v) ∨ x ∈ m
  | [], x, h => by simp [mput] at h; exact .inl h
  | y :: r, x, h => by
    unfold mput at h
    split at h
    · rcases List.mem_cons.1 h with h | h
      · exact .inl h
      · exact .inr (List.mem_cons_of_mem _ h)
    split at h
    · rcases List.mem_cons.1 h with h | h
      · exact .inl h
      · exact .inr h
    · rcases List.mem_cons.1 h with h | h
      · exact .inr (h ▸ List.mem_cons_self)
      · rcases mput_mem h with h | h
        · exact .inl h
        · exact .inr (List.mem_cons_of_mem _ h)
theorem Rising.put {k : List UInt8} {v : α} : ∀ {m : KV α}, Rising m → Rising (mput k v m)
  | [], _ => List.pairwise_singleton _ _
  | y :: r, h => by
    obtain ⟨h1, h2⟩ := List.pairwise_cons.1 h
    unfold mput
    split
    · rename_i e
      exact List.pairwise_cons.2 ⟨fun x hx => e ▸ h1 x hx, h2⟩
    split
    · rename_i hl
      refine List.pairwise_cons.2 ⟨fun x hx => ?_, h⟩
      rcases List.mem_cons.1 hx with rfl | hx
      · exact hl
      · exact less_trans hl (h1 x hx)
    · rename_i hne hl
      refine List.pairwise_cons.2 ⟨fun x hx => ?_, Rising.put h2⟩
      rcases mput_mem hx with rfl | hx
      · rcases less_total hne with h | h
        · exact h
        · exact absurd h hl
      · exact h1 x hx
theorem mdel_eq {k : List UInt8} : ∀ {m : KV α}, (∀ y ∈ m, y.1 ≠ k) → mdel k m = m
  | [], _ => rfl
  | y :: r, h => by
    have := mdel_eq (m := r) fun y hy => h y (List.mem_cons_of_mem _ hy)
    unfold mdel at this ⊢
    rw [List.filter_cons, if_pos (by simpa using h y List.mem_cons_self), this]
theorem mput_perm {k : List UInt8} {v : α} : ∀ {m : KV α}, Rising m → (mput k v m).Perm ((k, v) :: mdel k m)
  | [], _ => .refl _
  | y :: r, h => by
    obtain ⟨h1, h2⟩ := List.pairwise_cons.1 h
    unfold mput
    split
    · rename_i e
      have : mdel k (y :: r) = r := by
        unfold mdel
        rw [List.filter_cons, if_neg (by simp [e])]
        exact mdel_eq fun x hx => by rw [← e]; exact (less_ne (h1 x hx)).symm
      rw [this]
    split
    · rename_i hl
      have : mdel k (y :: r) = y :: r := mdel_eq fun x hx => by
        rcases List.mem_cons.1 hx with rfl | hx
        · exact (less_ne hl).symm
        · exact (less_ne (less_trans hl (h1 x hx))).symm
      rw [this]
    · rename_i hne hl
      have : mdel k (y :: r) = y :: mdel k r := by unfold mdel; rw [List.filter_cons, if_pos (by simpa using hne)]
      rw [this]
      exact ((mput_perm h2).cons y).trans (.swap _ _ _)
theorem mget_none {k : List UInt8} : ∀ {m : KV α}, mget k m = none ↔ ∀ y ∈ m, y.1 ≠ k
  | [] => by simp [mget]
  | y :: r => by
    unfold mget
    split
    · rename_i e; simp [e]
    · rename_i e; simp [mget_none (m := r), e]
theorem mget_mem {k : List UInt8} {v : α} : ∀ {m : KV α}, mget k m = some v → (k, v) ∈ m
  | [], h => by cases h
  | y :: r, h => by
    unfold mget at h
    split at h
    · rename_i e; cases h; rw [← e]; exact List.mem_cons_self
    · exact List.mem_cons_of_mem _ (mget_mem h)
theorem mget_of {k : List UInt8} {v : α} : ∀ {m : KV α}, m.Pairwise (fun x y => x.1 ≠ y.1) → (k, v) ∈ m → mget k m = some v
  | [], _, h => by cases h
  | y :: r, h, hm => by
    obtain ⟨h1, h2⟩ := List.pairwise_cons.1 h
    unfold mget
    rcases List.mem_cons.1 hm with rfl | hm
    · rw [if_pos rfl]
    · rw [if_neg (h1 _ hm), mget_of h2 hm]
theorem mget_put_same (k : List UInt8) (v : α) : ∀ m : KV α, mget k (mput k v m) = some v
  | [] => by simp [mput, mget]
  | y :: r => by
    unfold mput
    split
    · simp [mget]
    split
    · simp [mget]
    · rename_i h _
      simp [mget, h, mget_put_same k v r]
theorem mget_put_ne {k k' : List UInt8} (v : α) (h : k' ≠ k) : ∀ m : KV α, mget k' (mput k v m) = mget k' m
  | [] => by simp [mput, mget, h.symm]
  | y :: r => by
    unfold mput
    split
    · rename_i e; simp [mget, e, h.symm]
    split
    · simp [mget, h.symm]
    · simp [mget, mget_put_ne v h r]
theorem mget_del_same (k : List UInt8) : ∀ m : KV α, mget k (mdel k m) = none := fun m => mget_none.2 fun y hy => by
  have := (List.mem_filter.1 hy).2
  simpa using this
theorem mget_del_ne {k k' : List UInt8} (h : k' ≠ k) : ∀ m : KV α, mget k' (mdel k m) = mget k' m
  | [] => rfl
  | y :: r => by
    have ih := mget_del_ne h r
    unfold mdel at ih ⊢
    rw [List.filter_cons]
    by_cases e : y.1 = k
    · rw [if_neg (by simp [e]), ih]; simp [mget, e, h.symm]
    · rw [if_pos (by simpa using e)]; simp [mget, ih]
theorem apart_perm {m m' : KV α} (h : m.Perm m') (ha : m.Pairwise fun x y => x.1 ≠ y.1) : m'.Pairwise fun x y => x.1 ≠ y.1 := h.pairwise ha fun h => h.symm
theorem mget_perm {k : List UInt8} {m m' : KV α} (h : m.Perm m') (ha : m'.Pairwise fun x y => x.1 ≠ y.1) : mget k m = mget k m' := by
  cases e : mget k m with
  | none =>
    exact (mget_none.2 fun y hy => mget_none.1 e y (h.symm.subset hy)).symm
  | some v => exact (mget_of ha (h.subset (mget_mem e))).symm
end

/-! ### a map's entries -/
section
variable {U : Univ} {O : Out} {P : Program} {S : Nat → Prop} {ι : Lay} {w : World} {rs : List (Nat × AVal U)} {a : Act} {ops : Array Oper} {o : Oper} {t : Ty}

theorem bytes_ext {a b : ByteArray} (h : a.data.toList = b.data.toList) : a = b := by
  obtain ⟨⟨x⟩⟩ := a
  obtain ⟨⟨y⟩⟩ := b
  simp at h; rw [h]
theorem EntsR.app {es' : List MapEntry} : ∀ {es : List MapEntry} {ys : KV (t.den U.T)}, EntsR U O S w t (es ++ es') ys ↔ ∃ y1 y2, ys = y1 ++ y2 ∧ EntsR U O S w t es y1 ∧ EntsR U O S w t es' y2
  | [], ys => by
    constructor
    · intro h; exact ⟨[], ys, rfl, rfl, h⟩
    · rintro ⟨y1, y2, rfl, h1, h2⟩
      have h1 : y1 = [] := h1
      subst h1; exact h2
  | e :: es, ys => by
    constructor
    · rintro ⟨y, r, rfl, h1, h2, h3⟩
      obtain ⟨y1, y2, rfl, h4, h5⟩ := EntsR.app.1 h3
      exact ⟨y :: y1, y2, rfl, ⟨y, y1, rfl, h1, h2, h4⟩, h5⟩
    · rintro ⟨y1, y2, rfl, ⟨y, r, rfl, h1, h2, h3⟩, h5⟩
      exact ⟨y, r ++ y2, rfl, h1, h2, EntsR.app.2 ⟨r, y2, rfl, h3, h5⟩⟩
theorem EntsR.len : ∀ {es : List MapEntry} {ys : KV (t.den U.T)}, EntsR U O S w t es ys → es.length = ys.length
  | [], _, h => by have h : _ = _ := h; rw [h]; rfl
  | _ :: _, _, ⟨y, r, h1, _, _, h5⟩ => by rw [h1]; simp [EntsR.len h5]
theorem EntsR.isKey : ∀ {es : List MapEntry} {ys : KV (t.den U.T)}, EntsR U O S w t es ys → ∀ x ∈ es, MapKept.IsKey .string x.key
  | [], _, _, x, hx => by cases hx
  | e :: es, _, ⟨y, r, h1, ⟨s, h2, _⟩, _, h5⟩, x, hx => by
    rcases List.mem_cons.1 hx with rfl | hx
    · rw [h2]; trivial
    · exact EntsR.isKey h5 x hx
theorem EntsR.mem : ∀ {es : List MapEntry} {ys : KV (t.den U.T)}, EntsR U O S w t es ys → ∀ y ∈ ys, ∃ x ∈ es, ∃ s : ByteArray, x.key = .string s ∧ s.data.toList = y.1
  | [], _, h, y, hy => by have h : _ = _ := h; rw [h] at hy; cases hy
  | e :: es, _, ⟨y, r, h1, h2, _, h5⟩, z, hz => by
    subst h1
    rcases List.mem_cons.1 hz with rfl | hz
    · exact ⟨e, List.mem_cons_self, h2⟩
    · obtain ⟨x, h6, h7⟩ := EntsR.mem h5 z hz
      exact ⟨x, List.mem_cons_of_mem _ h6, h7⟩
theorem EntsR.apart : ∀ {es : List MapEntry} {ys : KV (t.den U.T)}, EntsR U O S w t es ys → (es.map (·.key)).Nodup → ys.Pairwise fun x y => x.1 ≠ y.1
  | [], _, h, _ => by have h : _ = _ := h; rw [h]; exact .nil
  | e :: es, _, ⟨y, r, h1, ⟨s, h2, h3⟩, _, h5⟩, hn => by
    subst h1
    rw [List.map_cons, List.nodup_cons] at hn
    refine List.pairwise_cons.2 ⟨fun z hz he => ?_, EntsR.apart h5 hn.2⟩
    obtain ⟨x, h6, s', h7, h8⟩ := EntsR.mem h5 z hz
    refine hn.1 (List.mem_map.2 ⟨x, h6, ?_⟩)
    rw [h7, h2, bytes_ext (h8.trans (he.symm.trans h3.symm))]

/-- A key among the entries: found, or not. -/
theorem EntsR.find {s : ByteArray} {es : List MapEntry} {ys : KV (t.den U.T)} (h : EntsR U O S w t es ys) (hn : (es.map (·.key)).Nodup) :
    (Instr.findNow .string (.string s) es 0 = some none ∧ (∀ x ∈ es, x.key ≠ .string s) ∧ mget s.data.toList ys = none ∧ mdel s.data.toList ys = ys) ∨
    ∃ pre e post y1 y y2, es = pre ++ e :: post ∧ ys = y1 ++ (s.data.toList, y) :: y2 ∧ Instr.findNow .string (.string s) es 0 = some (some (pre.length, e.val)) ∧ e.key = .string s ∧
      EntsR U O S w t pre y1 ∧ EntsR U O S w t post y2 ∧ (∃ cs, Rd U O S w t y cs ∧ e.val = mkV t.isAgg cs) ∧ mget s.data.toList ys = some y ∧ mdel s.data.toList ys = y1 ++ y2 := by
  have ha := h.apart hn
  rcases MapKept.findNow_spec (d := .string) (k := .string s) trivial es 0 h.isKey with ⟨h1, h2⟩ | ⟨j, e, h1, h2, h3⟩
  · left
    have hk : ∀ y ∈ ys, y.1 ≠ s.data.toList := fun y hy e => by
      obtain ⟨x, h4, s', h5, h6⟩ := h.mem y hy
      exact h2 x h4 (by rw [h5, bytes_ext (h6.trans e)])
    exact ⟨h1, h2, mget_none.2 hk, mdel_eq hk⟩
  · right
    obtain ⟨hj, hj2⟩ := List.getElem?_eq_some_iff.1 h2
    have hes : es = es.take j ++ e :: es.drop (j + 1) := by rw [← hj2, List.getElem_cons_drop, List.take_append_drop]
    have hpl : (es.take j).length = j := by simp; omega
    rw [hes] at h
    obtain ⟨y1, y2', rfl, h4, y, y2, rfl, ⟨s', h5, h6⟩, h7, h8⟩ := EntsR.app.1 h
    rw [h3] at h5
    injection h5 with h5
    subst h5
    obtain ⟨k, y⟩ := y
    simp only at h6
    subst h6
    refine ⟨es.take j, e, es.drop (j + 1), y1, y, y2, hes, rfl, by rw [h1, hpl]; simp, h3, h4, h8, h7, mget_of ha (by simp), ?_⟩
    obtain ⟨_, p2, p3⟩ := List.pairwise_append.1 ha
    obtain ⟨p4, _⟩ := List.pairwise_cons.1 p2
    have q1 : mdel s.data.toList y1 = y1 := mdel_eq fun x hx => p3 x hx _ List.mem_cons_self
    have q2 : mdel s.data.toList y2 = y2 := mdel_eq fun x hx => (p4 x hx).symm
    unfold mdel at q1 q2 ⊢
    rw [List.filter_append, List.filter_cons, if_neg (by simp), q1, q2]

theorem erase_mid (e : MapEntry) (post : List MapEntry) : ∀ pre : List MapEntry, (pre ++ e :: post).eraseIdx pre.length = pre ++ post
  | [] => rfl
  | x :: pre => by simp [erase_mid e post pre]
theorem modify_mid (f : MapEntry → MapEntry) (e : MapEntry) (post : List MapEntry) : ∀ pre : List MapEntry, (pre ++ e :: post).modify pre.length f = pre ++ f e :: post
  | [] => rfl
  | x :: pre => by simp [modify_mid f e post pre]

/-! ### the operations -/
theorem Nx.setObj {s : LSpec U} {n b c : Nat} {B B' : Blk U} {o1 o2 : Obj} (hcb : s.cb = [(n, B)]) (hpb : s.pb = [(n, B')]) (hn : ι n = some (b, c)) (hout : ¬ S b)
    (hlt : ∀ b, S b → b < w.heap.size) (hg : w.heap[b]? = some o1) (hB : BR U O S ι { w with heap := w.heap.setIfInBounds b o2 } n B') : Nx U O s S ι w S ι { w with heap := w.heap.setIfInBounds b o2 } := by
  have hb : b < w.heap.size := (Array.getElem?_eq_some_iff.1 hg).1
  refine ⟨rfl, rfl, rfl, by simp, fun _ h => h, fun _ h => .inl h, fun b h => by simpa using hlt b h, fun k hk hnot => ?_, fun _ _ => rfl, fun x hx => ?_, fun m hm k c' hk => ?_, fun m hm k hk hne => ?_⟩
  · exact (MapKept.heap_set hg).2 k fun e' => hnot n (by rw [hcb]; simp) c (by rw [e']; exact hn)
  · rw [hpb] at hx
    simp at hx; subst hx
    exact hB
  · rw [hpb] at hm
    simp at hm; subst hm
    rw [hn] at hk
    obtain ⟨rfl, rfl⟩ : b = k ∧ c = c' := by simpa using hk
    exact ⟨hout, by simpa using hb, .inr ⟨_, by rw [hcb]; simp, c, hn⟩⟩
  · rw [hpb] at hm hk
    simp at hm hk
    exact absurd (hm.trans hk.symm) hne

theorem exec_makeMap {ρ : Operand → Value} {T : TypeId} {x : Option Operand} (ho : o.op = .makeMap T x) : execOp ρ o = vOf (Instr.makeMap T (x.map ρ)) := by unfold execOp; rw [ho]; rfl
theorem exec_mapUpdate {ρ : Operand → Value} {T : TypeId} {m x y : Operand} (ho : o.op = .mapUpdate T m x y) : execOp ρ o = (do Instr.mapUpdate T (ρ m) (ρ x) (ρ y); pure .skip) := by unfold execOp; rw [ho]
theorem exec_lookup {ρ : Operand → Value} {T : TypeId} {m x : Operand} {c : Bool} (ho : o.op = .lookup T m x c) : execOp ρ o = vOf (Instr.lookup T (ρ m) (ρ x) c) := by unfold execOp; rw [ho]; rfl

/-- A new map. -/
theorem sok_makeMap {T : TypeId} {d : Nat} (hg : o.guard = none) (_ : o.dst = some d) (ho : o.op = .makeMap T none) : SOk U O P ops o { rs := rs, ws := .mp d, pb := [(d, .map t [])], nn := [d] } := by
  intro S ι w a hlt hgl hrs hro hcb hown K Q hK
  refine opWp_plain hg ?_
  unfold Oper.wp
  rw [exec_makeMap ho]
  have hr : (Instr.makeMap T none).run P w = .ok (.map (some w.heap.size)) (w.alloc (.map #[] 0)) := by
    simp only [Instr.makeMap, newObj, Sem.run_bind, Sem.run, Result.andThen_ok, Sem.run_pure]
    rfl
  rw [show (Option.map a.eval none : Option Value) = none from rfl, run_vOf hr]
  refine hK _ S _ _ (Nx.alloc (s := { rs := rs, ws := .mp d, pb := [(d, .map t [])], nn := [d] }) (.map #[] 0) rfl rfl rfl hlt 0 ?_) ⟨w.heap.size, 0, by simp, rfl⟩
  exact ⟨w.heap.size, 0, #[], 0, [], by simp, heap_alloc_new w _, MapKept.stamped_empty 0, rfl, .refl _, .nil⟩

/-- What a map's type is. -/
structure MapOk (P : Program) (T K E : TypeId) : Prop where
  ty : P.underlying T = some (.map K E)
  key : P.underlying K = some .string

/-- An element by its key; whether it is there. -/
theorem sok_lookup {T K E : TypeId} {m x : Operand} {n : Nat} {kvs : KV (t.den U.T)} {k : List UInt8} {z : t.den U.T} (hg : o.guard = none) (ho : o.op = .lookup T m x false) (hT : MapOk P T K E) (hz : ZeroOk P U E t z)
    (hm : Opd U rs m (.mp n)) (hx : Opd U rs x (.p .str k)) : SOk U O P ops o { rs := rs, ro := [(n, .map t kvs)], ws := .p t ((mget k kvs).getD z) } :=
  sok_v hg _ (fun _ => exec_lookup ho) fun S ι w a hrs hro => by
    obtain ⟨b, c, es, clock, ys, h1, h2, h3, h4, h5, h6⟩ := hro _ List.mem_cons_self
    obtain ⟨b', c', h7, h8⟩ := hm.ev hrs
    rw [h1] at h7
    obtain ⟨rfl, rfl⟩ : b = b' ∧ c = c' := by simpa using h7
    obtain ⟨cs, hk, hk2⟩ := hx.ev hrs
    cases hk with | str s =>
    have hk2 : a.eval x = .string s := hk2
    obtain ⟨i, v, hi, hv, hall⟩ := hz.h
    obtain ⟨cs, hr, rfl⟩ := hall O S w
    have hzr : (zeroValue E).run P w = .ok (mkV t.isAgg cs) w := by simp only [zeroValue, typeInfo, hi, hv, program, Sem.run_bind, Sem.run, Result.andThen_ok, Sem.run_pure]
    rw [h8, hk2, ← mget_perm h5 (Rising.apart h6)]
    rcases EntsR.find (s := s) h4 h3.2.2 with ⟨f1, f2, f3, _⟩ | ⟨pre, e, post, y1, y, y2, f1, f2, f3, f4, f5, f6, ⟨cs, f7, f8⟩, f9, f10⟩
    · refine ⟨mkV t.isAgg cs, ?_, cs, by rw [f3]; exact hr, rfl⟩
      simp [Instr.lookup, run_underlying hT.ty, MapKept.run_getObj_map h2, MapKept.run_checkKey hT.key (show MapKept.IsKey .string (.string s) from trivial), MapKept.run_findKey hT.key f1, hzr, Result.andThen]
    · refine ⟨e.val, ?_, cs, by rw [f9]; exact f7, f8⟩
      simp [Instr.lookup, run_underlying hT.ty, MapKept.run_getObj_map h2, MapKept.run_checkKey hT.key (show MapKept.IsKey .string (.string s) from trivial), MapKept.run_findKey hT.key f3, Result.andThen]
theorem sok_lookup2 {T K E : TypeId} {m x : Operand} {n : Nat} {kvs : KV (t.den U.T)} {k : List UInt8} {z : t.den U.T} (hg : o.guard = none) (ho : o.op = .lookup T m x true) (hT : MapOk P T K E) (hz : ZeroOk P U E t z)
    (hm : Opd U rs m (.mp n)) (hx : Opd U rs x (.p .str k)) : SOk U O P ops o { rs := rs, ro := [(n, .map t kvs)], ws := .tup [.p t ((mget k kvs).getD z), .p .bool (mget k kvs).isSome] } :=
  sok_v hg _ (fun _ => exec_lookup ho) fun S ι w a hrs hro => by
    obtain ⟨b, c, es, clock, ys, h1, h2, h3, h4, h5, h6⟩ := hro _ List.mem_cons_self
    obtain ⟨b', c', h7, h8⟩ := hm.ev hrs
    rw [h1] at h7
    obtain ⟨rfl, rfl⟩ : b = b' ∧ c = c' := by simpa using h7
    obtain ⟨cs, hk, hk2⟩ := hx.ev hrs
    cases hk with | str s =>
    have hk2 : a.eval x = .string s := hk2
    obtain ⟨i, v, hi, hv, hall⟩ := hz.h
    obtain ⟨cs, hr, rfl⟩ := hall O S w
    have hzr : (zeroValue E).run P w = .ok (mkV t.isAgg cs) w := by simp only [zeroValue, typeInfo, hi, hv, program, Sem.run_bind, Sem.run, Result.andThen_ok, Sem.run_pure]
    rw [h8, hk2, ← mget_perm h5 (Rising.apart h6)]
    rcases EntsR.find (s := s) h4 h3.2.2 with ⟨f1, f2, f3, _⟩ | ⟨pre, e, post, y1, y, y2, f1, f2, f3, f4, f5, f6, ⟨cs, f7, f8⟩, f9, f10⟩
    · refine ⟨.tuple #[mkV t.isAgg cs, .bool false], ?_, [mkV t.isAgg cs, .bool false], ⟨_, _, rfl, ⟨cs, by rw [f3]; exact hr, rfl⟩, _, _, rfl, ⟨[.bool false], by rw [f3]; exact .bool false, rfl⟩, rfl⟩, rfl⟩
      simp [Instr.lookup, run_underlying hT.ty, MapKept.run_getObj_map h2, MapKept.run_checkKey hT.key (show MapKept.IsKey .string (.string s) from trivial), MapKept.run_findKey hT.key f1, hzr, Result.andThen]
    · refine ⟨.tuple #[e.val, .bool true], ?_, [e.val, .bool true], ⟨_, _, rfl, ⟨cs, by rw [f9]; exact f7, f8⟩, _, _, rfl, ⟨[.bool true], by rw [f9]; exact .bool true, rfl⟩, rfl⟩, rfl⟩
      simp [Instr.lookup, run_underlying hT.ty, MapKept.run_getObj_map h2, MapKept.run_checkKey hT.key (show MapKept.IsKey .string (.string s) from trivial), MapKept.run_findKey hT.key f3, Result.andThen]

theorem run_mapPut {T K E : TypeId} {b : Nat} {es : Array MapEntry} {clock : Nat} {ys kvs : KV (t.den U.T)} {s : ByteArray} {u : Value} {cs : List Value} {v : t.den U.T} (hT : MapOk P T K E) (h2 : w.heap[b]? = some (.map es clock))
    (h3 : MapKept.Stamped es clock) (h4 : EntsR U O S w t es.toList ys) (h5 : ys.Perm kvs) (h6 : Rising kvs) (hr : Rd U O S w t v cs) (hv : u = mkV t.isAgg cs) :
    ∃ es' clock' ys', (Instr.mapUpdate T (.map (some b)) (.string s) u).run P w = .ok () { w with heap := w.heap.setIfInBounds b (.map es' clock') } ∧ MapKept.Stamped es' clock' ∧ EntsR U O S w t es'.toList ys' ∧
      ys'.Perm (mput s.data.toList v kvs) := by
  have hky : MapKept.IsKey .string (.string s) := trivial
  have p0 : ((s.data.toList, v) :: mdel s.data.toList ys).Perm (mput s.data.toList v kvs) := ((h5.filter _).cons _).trans (mput_perm h6).symm
  rcases EntsR.find (s := s) h4 h3.2.2 with ⟨f1, f2, f3, f4⟩ | ⟨pre, e, post, y1, y, y2, f1, f2, f3, f4, f5, f6, _, f9, f10⟩
  · refine ⟨es.push ⟨.string s, u, clock⟩, clock + 1, ys ++ [(s.data.toList, v)], ?_, MapKept.stamped_push h3 f2, ?_, ?_⟩
    · simp [Instr.mapUpdate, run_underlying hT.ty, MapKept.run_getObj_map h2, MapKept.run_checkKey hT.key hky, MapKept.run_findKey hT.key f1, MapKept.run_setObj_map _ h2, Result.andThen]
    · rw [Array.toList_push]
      exact EntsR.app.2 ⟨ys, _, rfl, h4, _, [], rfl, ⟨s, rfl, rfl⟩, ⟨cs, hr, hv⟩, rfl⟩
    · rw [f4] at p0
      exact (List.perm_append_singleton _ _).trans p0
  · have hj : es[pre.length]? = some e := by rw [← Array.getElem?_toList, f1]; simp
    refine ⟨es.modify pre.length (fun e' => { e' with key := .string s, val := u }), clock, y1 ++ (s.data.toList, v) :: y2, ?_, ?_, ?_, ?_⟩
    · simp [Instr.mapUpdate, run_underlying hT.ty, MapKept.run_getObj_map h2, MapKept.run_checkKey hT.key hky, MapKept.run_findKey hT.key f3, hj, f4, MapKept.run_keyThatStays hky, MapKept.run_setObj_map _ h2, Result.andThen]
    · exact MapKept.stamped_modify h3 _ _ (fun _ _ => rfl) (fun e' _ he => by rw [hj] at he; cases he; exact f4.symm)
    · rw [Array.toList_modify, f1, modify_mid]
      exact EntsR.app.2 ⟨y1, _, rfl, f5, _, y2, rfl, ⟨s, rfl, rfl⟩, ⟨cs, hr, hv⟩, f6⟩
    · rw [f10] at p0
      exact List.perm_middle.trans p0
theorem run_mapDel {T K E ty : TypeId} {b : Nat} {es : Array MapEntry} {clock : Nat} {ys kvs : KV (t.den U.T)} {s : ByteArray} (hT : MapOk P T K E) (h2 : w.heap[b]? = some (.map es clock))
    (h3 : MapKept.Stamped es clock) (h4 : EntsR U O S w t es.toList ys) (h5 : ys.Perm kvs) :
    ∃ es' ys', (Builtin.delete_ #[T, K] ty #[.map (some b), .string s]).run P w = .ok (.tuple #[]) { w with heap := w.heap.setIfInBounds b (.map es' clock) } ∧ MapKept.Stamped es' clock ∧ EntsR U O S w t es'.toList ys' ∧
      ys'.Perm (mdel s.data.toList kvs) := by
  have hky : MapKept.IsKey .string (.string s) := trivial
  have p0 : (mdel s.data.toList ys).Perm (mdel s.data.toList kvs) := h5.filter _
  rcases EntsR.find (s := s) h4 h3.2.2 with ⟨f1, f2, f3, f4⟩ | ⟨pre, e, post, y1, y, y2, f1, f2, f3, f4, f5, f6, _, f9, f10⟩
  · refine ⟨es, ys, ?_, h3, h4, by rw [f4] at p0; exact p0⟩
    simp [Builtin.delete_, run_underlying hT.ty, MapKept.run_getObj_map h2, MapKept.run_checkKey hT.key hky, MapKept.run_findKey hT.key f1, MapKept.run_setObj_map _ h2, Result.andThen]
  · refine ⟨es.eraseIdxIfInBounds pre.length, y1 ++ y2, ?_, MapKept.stamped_erase h3 _, ?_, by rw [f10] at p0; exact p0⟩
    · simp [Builtin.delete_, run_underlying hT.ty, MapKept.run_getObj_map h2, MapKept.run_checkKey hT.key hky, MapKept.run_findKey hT.key f3, MapKept.run_setObj_map _ h2, Result.andThen]
    · have hlt : pre.length < es.size := by rw [← Array.length_toList, f1]; simp
      have : (es.eraseIdxIfInBounds pre.length).toList = pre ++ post := by
        unfold Array.eraseIdxIfInBounds
        rw [dif_pos hlt]
        simp [f1, erase_mid]
      rw [this]
      exact EntsR.app.2 ⟨y1, y2, rfl, f5, f6⟩

/-- An element set. -/
theorem sok_mapUpdate {T K E : TypeId} {m x y : Operand} {n : Nat} {kvs : KV (t.den U.T)} {k : List UInt8} {v : t.den U.T} (hg : o.guard = none) (_ : o.dst = none) (ho : o.op = .mapUpdate T m x y) (hT : MapOk P T K E)
    (hm : Opd U rs m (.mp n)) (hx : Opd U rs x (.p .str k)) (hy : Opd U rs y (.p t v)) : SOk U O P ops o { rs := rs, cb := [(n, .map t kvs)], pb := [(n, .map t (mput k v kvs))] } := by
  intro S ι w a hlt hgl hrs hro hcb hown K' Q hK
  obtain ⟨b, c, es, clock, ys, h1, h2, h3, h4, h5, h6⟩ := hcb _ List.mem_cons_self
  obtain ⟨b', c', h7, h8⟩ := hm.ev hrs
  rw [h1] at h7
  obtain ⟨rfl, rfl⟩ : b = b' ∧ c = c' := by simpa using h7
  obtain ⟨cs, hk, hk2⟩ := hx.ev hrs
  cases hk with | str s =>
  have hk2 : a.eval x = .string s := hk2
  obtain ⟨cs, hr, hv⟩ := hy.ev hrs
  have hout := (hown.out n (by simp) b c h1).1
  obtain ⟨es', clock', ys', g1, g2, g3, g4⟩ := run_mapPut (s := s) hT h2 h3 h4 h5 h6 hr hv
  refine opWp_plain hg ?_
  unfold Oper.wp
  rw [exec_mapUpdate ho, h8, hk2]
  simp only [Sem.run_bind, g1, Result.andThen_ok, Sem.run_pure, Oper.upon]
  refine hK undef S ι _ (Nx.setObj (n := n) (b := b) (c := c) (o1 := .map es clock) rfl rfl h1 hout hlt h2 ?_) trivial
  exact ⟨b, c, es', clock', ys', h1, (MapKept.heap_set h2).1, g2, g3.mono (fun k hk => (MapKept.heap_set h2).2 k fun e => hout (e ▸ hk)) (fun _ h => h), g4, Rising.put h6⟩

/-- An element let go. -/
theorem sok_delete {T K E : TypeId} {m x : Operand} {n : Nat} {kvs : KV (t.den U.T)} {k : List UInt8} (hg : o.guard = none) (ho : o.op = .call { callee := .builtin .delete, args := #[m, x], argTypes := #[T, K] }) (hT : MapOk P T K E)
    (hm : Opd U rs m (.mp n)) (hx : Opd U rs x (.p .str k)) : SOk U O P ops o { rs := rs, ws := .tup [], cb := [(n, .map t kvs)], pb := [(n, .map t (mdel k kvs))] } := by
  intro S ι w a hlt hgl hrs hro hcb hown K' Q hK
  obtain ⟨b, c, es, clock, ys, h1, h2, h3, h4, h5, h6⟩ := hcb _ List.mem_cons_self
  obtain ⟨b', c', h7, h8⟩ := hm.ev hrs
  rw [h1] at h7
  obtain ⟨rfl, rfl⟩ : b = b' ∧ c = c' := by simpa using h7
  obtain ⟨cs, hk, hk2⟩ := hx.ev hrs
  cases hk with | str s =>
  have hk2 : a.eval x = .string s := hk2
  have hout := (hown.out n (by simp) b c h1).1
  obtain ⟨es', ys', g1, g2, g3, g4⟩ := run_mapDel (s := s) (ty := o.type) hT h2 h3 h4 h5
  refine opWp_plain hg ?_
  unfold Oper.wp
  have he : execOp a.eval o = vOf (Builtin.delete_ #[T, K] o.type #[a.eval m, a.eval x]) := by rw [exec_builtin ho]; simp [builtin, vOf]
  rw [he, h8, hk2, run_vOf g1]
  refine hK (.tuple #[]) S ι _ (Nx.setObj (n := n) (b := b) (c := c) (o1 := .map es clock) rfl rfl h1 hout hlt h2 ?_) ⟨[], rfl, rfl⟩
  exact ⟨b, c, es', clock, ys', h1, (MapKept.heap_set h2).1, g2, g3.mono (fun k hk => (MapKept.heap_set h2).2 k fun e => hout (e ▸ hk)) (fun _ h => h), g4, Rising.del h6 _⟩

/-- How many elements there are. -/
theorem sok_lenM {T K E : TypeId} {x : Operand} {n : Nat} {kvs : KV (t.den U.T)} (hg : o.guard = none) (ho : o.op = .call { callee := .builtin .len, args := #[x], argTypes := #[T] }) (hT : MapOk P T K E)
    (hm : Opd U rs x (.mp n)) : SOk U O P ops o { rs := rs, ro := [(n, .map t kvs)], ws := .p (.int .i64) (kvs.length : Int) } :=
  sok_v hg _ (fun _ => exec_len ho) fun S ι w a hrs hro => by
    obtain ⟨b, c, es, clock, ys, h1, h2, h3, h4, h5, h6⟩ := hro _ List.mem_cons_self
    obtain ⟨b', c', h7, h8⟩ := hm.ev hrs
    rw [h1] at h7
    obtain ⟨rfl, rfl⟩ : b = b' ∧ c = c' := by simpa using h7
    have hl : es.size = kvs.length := by rw [← h5.length_eq, ← h4.len, Array.length_toList]
    refine ⟨.int .i64 (kvs.length : Int), ?_, VV.int_iff.2 rfl⟩
    rw [h8]
    simp [Builtin.len_, run_underlying hT.ty, MapKept.run_getObj_map h2, Result.andThen, goInt, hl]

/-! ### pointers against nil -/
/-- A value that is a pointer: nil, or not. -/
def PtrV (U : Univ) (v : AVal U) (q : Bool) : Prop := ∀ O S ι w u, VV U O S ι w v u → ∃ p, u = .pointer p ∧ p.isNone = q
theorem ptrV_loc {n off : Nat} : PtrV U (.loc n off) false := fun O S ι w u ⟨b, c, _, h⟩ => ⟨_, h, rfl⟩
theorem ptrV_nil : PtrV U (.lit (.pointer none)) true := fun O S ι w u ⟨h, _⟩ => ⟨_, h, rfl⟩
theorem ptrV_opt {q : Bool} {n : Nat} : PtrV U (.opt q n) (!q) := fun O S ι w u ⟨h1, h2⟩ => by
  cases q
  · exact ⟨_, h2 rfl, rfl⟩
  · obtain ⟨b, c, _, h⟩ := h1 rfl; exact ⟨_, h, rfl⟩
theorem sok_eqPN {t t' E : TypeId} {x : Operand} {v : AVal U} {q : Bool} (hg : o.guard = none) (ho : o.op = .binOp .eql t x (.const (.pointer none)) t') (ht : P.underlying t = some (.pointer E))
    (hx : Opd U rs x v) (hv : PtrV U v q) : SOk U O P ops o { rs := rs, ws := .p .bool q } :=
  sok_v hg _ (fun _ => exec_bin ho) fun S ι w a hrs _ => ⟨.bool q, by
    obtain ⟨p, h1, h2⟩ := hv _ _ _ _ _ (hx.ev hrs)
    have hp : P.underlying t = some (.pointer (P.pointee t)) := by simp [Program.pointee, ht]
    have hc : a.eval (.const (.pointer none)) = .pointer none := rfl
    rw [h1, hc, eqGuard_at_pointer]
    simp only [Sem.run_bind, Sem.run_pure, Result.andThen_ok, run_eql_pointer_nil w t p hp, h2], VV.bool_iff.2 rfl⟩
theorem sok_nePN {t t' E : TypeId} {x : Operand} {v : AVal U} {q : Bool} (hg : o.guard = none) (ho : o.op = .binOp .neq t x (.const (.pointer none)) t') (ht : P.underlying t = some (.pointer E))
    (hx : Opd U rs x v) (hv : PtrV U v q) : SOk U O P ops o { rs := rs, ws := .p .bool (!q) } :=
  sok_v hg _ (fun _ => exec_bin ho) fun S ι w a hrs _ => ⟨.bool (!q), by
    obtain ⟨p, h1, h2⟩ := hv _ _ _ _ _ (hx.ev hrs)
    have hp : P.underlying t = some (.pointer (P.pointee t)) := by simp [Program.pointee, ht]
    have hc : a.eval (.const (.pointer none)) = .pointer none := rfl
    rw [h1, hc, eqGuard_at_pointer]
    simp only [Sem.run_bind, Sem.run_pure, Result.andThen_ok, run_neq_pointer_nil w t p hp, h2], VV.bool_iff.2 rfl⟩

/-! ### a new row of a library function's, as a list -/
theorem rd_strq {x : List UInt8} {cs : List Value} (h : Rd U O S w .str x cs) : ∃ q : ByteArray, x = q.data.toList ∧ cs = [.string q] := by
  cases h; exact ⟨_, rfl, rfl⟩
theorem rd_strof {x : List UInt8} {q : ByteArray} (h : q.data.toList = x) : Rd U O S w .str x [.string q] := by
  subst h; exact .str q
theorem Nx.rowList {s : LSpec U} {w' : World} {E : TypeId} {xs : List (t.den U.T)} {v' : Value} {n : Nat} {news : List Value} (hrow : w'.ownsRow w.heap.size E (t.width U.wd) v' n news) (hb : RowKit.Below w.heap.size w w')
    (hn : n = xs.length) (hcb : s.cb = []) (hpb : s.pb = []) (hlt : ∀ b, S b → b < w.heap.size)
    (hel : ∀ (i : Nat) (h : i < xs.length), ∃ cs, Rd U O S w t xs[i] cs ∧ ∀ j, j < t.width U.wd → news[i * t.width U.wd + j]? = cs[j]?) :
    ∃ S', Nx U O s S ι w S' ι w' ∧ VV U O S' ι w' (.p (.list t) xs) v' := by
  subst hn
  have hl := hrow.lt
  refine ⟨fun b => S b ∨ v'.ownBlock = some b, ⟨hb.os, hb.tape, hb.output, hb.size, fun _ h => .inl h, fun b h => ?_, fun b h => ?_, fun b hb' _ => hb.block b hb', fun _ _ => rfl, by simp [hpb], by simp [hpb], by simp [hpb]⟩, ?_⟩
  · rcases h with h | h
    · exact .inl h
    · exact .inr (.inl (hl b h).1)
  · rcases h with h | h
    · exact Nat.lt_of_lt_of_le (hlt b h) hb.size
    · exact (hl b h).2
  · obtain ⟨hlen, ⟨rfl, h0⟩ | ⟨g, cap, cur, rfl, hg, hh, hcap, hmx, hsz, htk⟩⟩ := hrow
    · have : xs = [] := List.eq_nil_of_length_eq_zero h0
      subst this
      exact ⟨_, .lnil t, rfl⟩
    · refine ⟨_, .list t xs g 0 cap (fun i => if h : i < xs.length then (hel i h).choose else []) (.inr rfl) hcap (fun i h => ?_) (fun i j hi hj => ?_), rfl⟩
      · simp only [h, dif_pos]
        exact (hel i h).choose_spec.1.mono (fun b hS => hb.block b (hlt b hS)) fun _ h => .inl h
      · simp only [hi, dif_pos]
        rw [← (hel i hi).choose_spec.2 j hj, ← htk, List.getElem?_take_of_lt (by
          have : (i + 1) * t.width U.wd ≤ xs.length * t.width U.wd := Nat.mul_le_mul_right _ hi
          rw [Nat.succ_mul] at this; omega)]
        rw [cell_of_row w' g _ cur E (0, 0) hh, Array.getElem?_toList]
        simp
end
end Go.AM
