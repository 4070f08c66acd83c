/- The abstract layer, part G: a region that draws its order. Wherever two operations touch one slot or one block, the one must stand behind the other by the region's own edges. -/
import Derived.Test.YthmbbdemecljpaaDoorK11AmF
import Derived.Orders
namespace Go.AM

section
variable {U : Univ} {O : Out} {P : Program} {B : Base}

abbrev Item (U : Univ) : Type := Oper × LSpec U

def stepI (st : St U) (x : Item U) : St U := st.next x.2 x.1.dst
def runS (l : List (Item U)) (st : St U) : St U := l.foldl stepI st

def wrS (t : Nat) (x : Item U) : Bool := x.1.dst == some t
def toB (n : Nat) (x : Item U) : Bool := (nm x.2.cb).contains n || (nm x.2.pb).contains n

theorem mem_next_sl {st : St U} {s : LSpec U} {d : Option Nat} {x : Nat × AVal U} : x ∈ (st.next s d).sl ↔ (d = some x.1 ∧ x.2 = s.ws) ∨ (x ∈ st.sl ∧ d ≠ some x.1) := by
  cases d with
  | none => simp [St.next, St.setS]
  | some d =>
    simp only [St.next, St.setS, mem_setA_iff]
    constructor
    · rintro (rfl | ⟨h1, h2⟩)
      · exact .inl ⟨rfl, rfl⟩
      · exact .inr ⟨h1, fun e => h2 (by injection e with e; exact e.symm)⟩
    · rintro (⟨h1, h2⟩ | ⟨h1, h2⟩)
      · exact .inl (by obtain ⟨a, b⟩ := x; simp_all)
      · exact .inr ⟨h1, fun e => h2 (by rw [e])⟩

theorem mem_next_hp_iff {st : St U} {s : LSpec U} {d : Option Nat} {x : Nat × Blk U} : x ∈ (st.next s d).hp ↔ (x ∈ st.hp ∧ x.1 ∉ nm s.cb) ∨ x ∈ s.pb := by
  simp [St.next]

/-- A slot's content hangs on the operations alone that write it. -/
theorem runS_sl (t : Nat) (v : AVal U) : ∀ (l : List (Item U)) (st st' : St U), ((t, v) ∈ st.sl ↔ (t, v) ∈ st'.sl) →
    ((t, v) ∈ (runS l st).sl ↔ (t, v) ∈ (runS (l.filter (wrS t)) st').sl)
  | [], _, _, h => h
  | x :: l, st, st', h => by
    by_cases hw : wrS t x = true
    · rw [List.filter_cons_of_pos hw]
      refine runS_sl t v l (stepI st x) (stepI st' x) ?_
      have hd : x.1.dst = some t := by simpa [wrS] using hw
      simp [stepI, mem_next_sl, hd]
    · rw [List.filter_cons_of_neg hw]
      refine runS_sl t v l (stepI st x) st' ?_
      have hd : x.1.dst ≠ some t := by simpa [wrS] using hw
      simp only [stepI, mem_next_sl, hd, false_and, false_or, ne_eq, not_false_iff, and_true]
      exact h

theorem runS_hp (n : Nat) (b : Blk U) : ∀ (l : List (Item U)) (st st' : St U), ((n, b) ∈ st.hp ↔ (n, b) ∈ st'.hp) →
    ((n, b) ∈ (runS l st).hp ↔ (n, b) ∈ (runS (l.filter (toB n)) st').hp)
  | [], _, _, h => h
  | x :: l, st, st', h => by
    by_cases hw : toB n x = true
    · rw [List.filter_cons_of_pos hw]
      refine runS_hp n b l (stepI st x) (stepI st' x) ?_
      simp only [stepI, mem_next_hp_iff, h]
    · rw [List.filter_cons_of_neg hw]
      refine runS_hp n b l (stepI st x) st' ?_
      simp only [toB, Bool.or_eq_true, List.contains_iff_mem, not_or] at hw
      simp only [stepI, mem_next_hp_iff]
      constructor
      · rintro (⟨h1, _⟩ | h1)
        · exact h.1 h1
        · exact absurd (mem_nm h1) hw.2
      · exact fun h1 => .inl ⟨h.2 h1, hw.1⟩

/-- What an operation touches. -/
structure Foot where
  rs : List Nat
  w : Option Nat
  rb : List Nat
  wb : List Nat
  nn : List Nat
  vn : List Nat

def footOf (x : Item U) : Foot :=
  ⟨nm x.2.rs, x.1.dst, nm x.2.ro ++ nm x.2.cb, nm x.2.cb ++ nm x.2.pb, x.2.nn, AVal.names U x.2.ws ++ nm x.2.pb ++ x.2.pb.flatMap fun y => Blk.names U y.2⟩

def meets (l m : List Nat) : Bool := l.any fun n => m.contains n
def Foot.hits (x y : Foot) : Bool :=
  (match x.w with | some d => y.rs.contains d || y.w == some d | none => false) || (match y.w with | some d => x.rs.contains d | none => false) ||
  meets x.wb (y.rb ++ y.wb) || meets y.wb x.rb || meets x.nn y.vn || meets y.nn x.vn

def edges (ops : List Oper) (j : Nat) : List Nat := match ops[j]? with
  | some o => (o.after.toList.filter fun e => Region.binds .any e).map (·.on)
  | none => []

/-- 'A' lists, for each operation, some that stand ahead of it by the edges. -/
def ancOk (ops : List Oper) (A : List (List Nat)) : Bool :=
  (List.range ops.length).all fun j => (edges ops j).all (· < j) && (A.getD j []).all fun k => (edges ops j).contains k || (edges ops j).any fun m => (A.getD m []).contains k

def raceFree (items : List (Item U)) (A : List (List Nat)) : Bool :=
  let F := items.map footOf
  (List.range items.length).all fun j => (List.range j).all fun i => match F[i]?, F[j]? with
    | some x, some y => !x.hits y || (A.getD j []).contains i
    | _, _ => true

theorem raceFree_spec {items : List (Item U)} {A : List (List Nat)} (h : raceFree items A = true) {i j : Nat} {x y : Item U} (hij : i < j) (hi : items[i]? = some x) (hj : items[j]? = some y)
    (hh : (footOf x).hits (footOf y) = true) : i ∈ A.getD j [] := by
  have hlt : j < items.length := (List.getElem?_eq_some_iff.1 hj).1
  unfold raceFree at h
  have h1 := List.all_eq_true.1 (List.all_eq_true.1 h j (List.mem_range.2 hlt)) i (List.mem_range.2 hij)
  simp only [List.getElem?_map, hi, hj, Option.map_some, hh, Bool.not_true, Bool.false_or, List.contains_iff_mem] at h1
  exact h1

/-- The set of operations that have been done: those ahead of each done one are done. -/
def Closed (ops : List Oper) (L : Nat → Prop) : Prop := ∀ j, L j → ∀ k ∈ edges ops j, L k

theorem anc_done {ops : List Oper} {A : List (List Nat)} (hA : ancOk ops A = true) {L : Nat → Prop} (hL : Closed ops L) : ∀ (j : Nat), j < ops.length → (∀ k ∈ edges ops j, L k) → ∀ k ∈ A.getD j [], L k := by
  intro j
  induction j using Nat.strongRecOn with
  | _ j ih =>
    intro hj hd k hk
    unfold ancOk at hA
    have h1 := List.all_eq_true.1 hA j (List.mem_range.2 hj)
    rw [Bool.and_eq_true] at h1
    have h2 := List.all_eq_true.1 h1.2 k hk
    rw [Bool.or_eq_true] at h2
    rcases h2 with h2 | h2
    · exact hd k (by simpa using h2)
    · obtain ⟨m, hm, hkm⟩ := List.any_eq_true.1 h2
      have hmj : m < j := by simpa using List.all_eq_true.1 h1.1 m hm
      exact ih m hmj (by omega) (hL m (hd m hm)) k (by simpa using hkm)

/-- The operations of a set, in the text's order. -/
def pickL (items : List (Item U)) (L : Nat → Bool) : List (Item U) := (items.zipIdx.filter fun x => L x.2).map (·.1)

theorem pickL_filter (items : List (Item U)) (L M : Nat → Bool) (W : Item U → Bool) (h : ∀ j x, items[j]? = some x → W x = true → L j = M j) :
    (pickL items L).filter W = (pickL items M).filter W := by
  unfold pickL
  rw [List.filter_map, List.filter_map, List.filter_filter, List.filter_filter]
  congr 1
  refine List.filter_congr fun y hy => ?_
  obtain ⟨x, j⟩ := y
  have hx : items[j]? = some x := by simpa using List.mem_zipIdx_iff_getElem?.1 hy
  simp only [Function.comp_apply]
  cases hw : W x
  · simp
  · simp [h j x hx hw]

theorem pickL_snoc (items : List (Item U)) (L : Nat → Bool) (i : Nat) (x : Item U) (hi : items[i]? = some x) (hLi : L i = false) (W : Item U → Bool) (hW : W x = true)
    (h : ∀ j y, items[j]? = some y → i < j → W y = true → L j = false) :
    (pickL items fun j => L j || j == i).filter W = (pickL items L).filter W ++ [x] := by
  have hsplit : items = items.take i ++ x :: items.drop (i + 1) := by
    obtain ⟨hlt, hx⟩ := List.getElem?_eq_some_iff.1 hi
    rw [← hx, List.getElem_cons_drop, List.take_append_drop]
  have hlen : (items.take i).length = i := by
    have := (List.getElem?_eq_some_iff.1 hi).1
    simp; omega
  have hz : items.zipIdx = (items.take i).zipIdx ++ (x, i) :: (items.drop (i + 1)).zipIdx (i + 1) := by
    conv => lhs; rw [hsplit]
    rw [List.zipIdx_append, List.zipIdx_cons, hlen, Nat.zero_add]
  have hpre : ∀ y ∈ (items.take i).zipIdx, y.2 < i := fun y hy => by
    have := List.mem_zipIdx_iff_getElem?.1 (show (y.1, y.2) ∈ _ from hy)
    have := (List.getElem?_eq_some_iff.1 this).1
    omega
  have hpost : ∀ y ∈ (items.drop (i + 1)).zipIdx (i + 1), i < y.2 ∧ items[y.2]? = some y.1 := fun y hy => by
    have h1 := List.mem_zipIdx (show (y.1, y.2) ∈ _ from hy)
    have h0 := h1.1
    refine ⟨by omega, ?_⟩
    have h2 := h1.2.2
    have h3 : i + 1 + (y.2 - (i + 1)) = y.2 := by omega
    rw [h2, List.getElem_drop]
    simp only [h3]
    exact List.getElem?_eq_getElem _
  unfold pickL
  rw [hz]
  simp only [List.filter_append, List.filter_cons, List.map_append]
  rw [if_pos (by simp), if_neg (by simp [hLi])]
  have e1 : (items.take i).zipIdx.filter (fun y => L y.2 || y.2 == i) = (items.take i).zipIdx.filter (fun y => L y.2) := List.filter_congr fun y hy => by
    have := hpre y hy
    have : (y.2 == i) = false := by simp; omega
    simp [this]
  have e2 : ((items.drop (i + 1)).zipIdx (i + 1)).filter (fun y => L y.2 || y.2 == i) = ((items.drop (i + 1)).zipIdx (i + 1)).filter (fun y => L y.2) := List.filter_congr fun y hy => by
    have := (hpost y hy).1
    have : (y.2 == i) = false := by simp; omega
    simp [this]
  have e3 : ((((items.drop (i + 1)).zipIdx (i + 1)).filter fun y => L y.2).map (·.1)).filter W = [] := by
    rw [List.filter_eq_nil_iff]
    intro y hy hWy
    obtain ⟨z, hz, rfl⟩ := List.mem_map.1 hy
    obtain ⟨hz1, hz2⟩ := List.mem_filter.1 hz
    obtain ⟨h1, h2⟩ := hpost z hz1
    rw [h z.2 z.1 h2 h1 hWy] at hz2
    cases hz2
  rw [e1, e2]
  simp only [List.map_cons, List.filter_cons, hW, if_true, e3, List.append_nil]

def newOk (items : List (Item U)) : Bool :=
  let F := items.map footOf
  (List.range items.length).all fun j => (List.range j).all fun i => match F[i]?, F[j]? with
    | some x, some y => !meets y.nn x.vn
    | _, _ => true

theorem newOk_spec {items : List (Item U)} (h : newOk items = true) {i j : Nat} {x y : Item U} (hij : i < j) (hi : items[i]? = some x) (hj : items[j]? = some y) : ∀ n ∈ y.2.nn, n ∉ (footOf x).vn := by
  have hlt : j < items.length := (List.getElem?_eq_some_iff.1 hj).1
  unfold newOk at h
  have h1 := List.all_eq_true.1 (List.all_eq_true.1 h j (List.mem_range.2 hlt)) i (List.mem_range.2 hij)
  simp only [List.getElem?_map, hi, hj, Option.map_some] at h1
  intro n hn hv
  have : meets (footOf y).nn (footOf x).vn = true := List.any_eq_true.2 ⟨n, hn, by simpa using hv⟩
  rw [this] at h1
  cases h1

theorem names_next {st : St U} {s : LSpec U} {d : Option Nat} {n : Nat} (h : n ∈ (st.next s d).names) : n ∈ st.names ∨ n ∈ AVal.names U s.ws ++ nm s.pb ++ s.pb.flatMap fun y => Blk.names U y.2 := by
  simp only [St.names, List.mem_append, List.mem_flatMap] at h ⊢
  rcases h with (h | ⟨x, hx, hn⟩) | ⟨x, hx, hn⟩
  · rcases mem_next_hp h with h | h
    · obtain ⟨x, hx, rfl⟩ := List.mem_map.1 h
      exact .inl (.inl (.inl (mem_nm (List.mem_filter.1 hx).1)))
    · exact .inr (.inl (.inr h))
  · rcases mem_next_sl.1 hx with ⟨_, e⟩ | ⟨h, _⟩
    · rw [e] at hn; exact .inr (.inl (.inl hn))
    · exact .inl (.inl (.inr ⟨x, h, hn⟩))
  · rcases mem_next_hp_iff.1 hx with ⟨h, _⟩ | h
    · exact .inl (.inr ⟨x, h, hn⟩)
    · exact .inr (.inr ⟨x, h, hn⟩)

theorem names_runS {n : Nat} : ∀ (l : List (Item U)) (st : St U), n ∈ (runS l st).names → n ∈ st.names ∨ ∃ y ∈ l, n ∈ (footOf y).vn
  | [], _, h => .inl h
  | x :: l, st, h => by
    rcases names_runS l (stepI st x) h with h | ⟨y, hy, hn⟩
    · rcases names_next h with h | h
      · exact .inl h
      · exact .inr ⟨x, List.mem_cons_self, h⟩
    · exact .inr ⟨y, List.mem_cons_of_mem _ hy, hn⟩

/-- A chain, by places: at each place the triple fits the frame that all ahead of it have made. -/
structure Runs (U : Univ) (O : Out) (P : Program) (ops : Array Oper) (N : Nat) (st : St U) (items : List (Item U)) : Prop where
  len : items.map (·.1) = ops.toList
  ok : ∀ x ∈ items, SOk U O P ops x.1 x.2
  fit : ∀ i x, items[i]? = some x → Fits (runS (items.take i) st) x.2
  dst : ∀ x ∈ items, ∀ t, x.1.dst = some t → t < N
  fresh : ∀ x ∈ items, ∀ n ∈ x.2.nn, n ∉ st.names
  newOk : newOk items = true

def Bl (l : Array Bool) (j : Nat) : Bool := l.getD j false

theorem fits_part {ops : Array Oper} {N : Nat} {st : St U} {items : List (Item U)} {A : List (List Nat)} (hR : Runs U O P ops N st items) (hA : ancOk ops.toList A = true) (hF : raceFree items A = true)
    {L : Nat → Bool} (hL : Closed ops.toList fun j => L j = true) (hin : ∀ j, L j = true → j < items.length) {i : Nat} {x : Item U} (hi : items[i]? = some x) (hLi : L i = false)
    (hp : ∀ k ∈ edges ops.toList i, L k = true) : Fits (runS (pickL items L) st) x.2 := by
  have hlen : items.length = ops.toList.length := by rw [← hR.len, List.length_map]
  have hiL : i < items.length := (List.getElem?_eq_some_iff.1 hi).1
  have hanc := anc_done hA hL i (by omega) hp
  have hfut : ∀ j y, items[j]? = some y → i < j → (footOf x).hits (footOf y) = true → L j = false := fun j y hj hij hh => by
    cases hLj : L j
    · rfl
    · have h1 := raceFree_spec hF hij hi hj hh
      have h2 := anc_done hA hL j (by have := hin j hLj; omega) (hL j hLj) i h1
      rw [hLi] at h2; cases h2
  have hpast : ∀ j y, items[j]? = some y → j < i → (footOf y).hits (footOf x) = true → L j = true := fun j y hj hij hh => hanc j (raceFree_spec hF hij hj hi hh)
  have htake : items.take i = pickL items fun j => decide (j < i) := by
    unfold pickL
    apply List.ext_getElem?
    intro k
    have h1 : items.zipIdx.filter (fun y => decide (y.2 < i)) = items.zipIdx.take i := by
      have hz : items.zipIdx = items.zipIdx.take i ++ items.zipIdx.drop i := (List.take_append_drop _ _).symm
      conv => lhs; rw [hz]
      rw [List.filter_append]
      have e1 : (items.zipIdx.take i).filter (fun y => decide (y.2 < i)) = items.zipIdx.take i := List.filter_eq_self.2 fun y hy => by
        obtain ⟨m, hm, he⟩ := List.mem_iff_getElem.1 hy
        simp at he hm
        subst he
        simp; omega
      have e2 : (items.zipIdx.drop i).filter (fun y => decide (y.2 < i)) = [] := List.filter_eq_nil_iff.2 fun y hy => by
        obtain ⟨m, hm, he⟩ := List.mem_iff_getElem.1 hy
        simp at he hm
        subst he
        simp
      rw [e1, e2, List.append_nil]
    rw [h1, List.map_take]
    simp
  have hslot : ∀ t, (∀ j y, items[j]? = some y → wrS t y = true → j ≠ i → (i < j → (footOf x).hits (footOf y) = true) ∧ (j < i → (footOf y).hits (footOf x) = true)) →
      ∀ v, (t, v) ∈ (runS (items.take i) st).sl → (t, v) ∈ (runS (pickL items L) st).sl := fun t ht v hv => by
    rw [htake] at hv
    rw [runS_sl t v _ st st Iff.rfl] at hv ⊢
    rw [pickL_filter items L (fun j => decide (j < i)) (wrS t)]
    · exact hv
    · intro j y hj hw
      by_cases e : j = i
      · subst e; simp [hLi]
      · obtain ⟨h1, h2⟩ := ht j y hj hw e
        rcases Nat.lt_or_gt_of_ne e with h | h
        · simp [h, hpast j y hj h (h2 h)]
        · have : ¬ j < i := by omega
          simp [this, hfut j y hj h (h1 h)]
  have hblk : ∀ n, (∀ j y, items[j]? = some y → toB n y = true → j ≠ i → (i < j → (footOf x).hits (footOf y) = true) ∧ (j < i → (footOf y).hits (footOf x) = true)) →
      ∀ b, (n, b) ∈ (runS (items.take i) st).hp → (n, b) ∈ (runS (pickL items L) st).hp := fun n ht v hv => by
    rw [htake] at hv
    rw [runS_hp n v _ st st Iff.rfl] at hv ⊢
    rw [pickL_filter items L (fun j => decide (j < i)) (toB n)]
    · exact hv
    · intro j y hj hw
      by_cases e : j = i
      · subst e; simp [hLi]
      · obtain ⟨h1, h2⟩ := ht j y hj hw e
        rcases Nat.lt_or_gt_of_ne e with h | h
        · simp [h, hpast j y hj h (h2 h)]
        · have : ¬ j < i := by omega
          simp [this, hfut j y hj h (h1 h)]
  have hf := hR.fit i x hi
  have hmeets : ∀ {l m : List Nat} {n : Nat}, n ∈ l → n ∈ m → meets l m = true := fun h1 h2 => List.any_eq_true.2 ⟨_, h1, by simpa using h2⟩
  refine ⟨fun z hz => hslot z.1 (fun j y hj hw _ => ?_) z.2 (hf.rs z hz), fun z hz => hblk z.1 (fun j y hj hw _ => ?_) z.2 (hf.ro z hz), fun z hz => hblk z.1 (fun j y hj hw _ => ?_) z.2 (hf.cb z hz), fun n hn hnn => ?_, hf.pn, hf.lo⟩
  · have hd : y.1.dst = some z.1 := by simpa [wrS] using hw
    have hm : z.1 ∈ nm x.2.rs := mem_nm hz
    constructor <;> intro _ <;> simp [Foot.hits, footOf, hd, hm]
  · have hm : z.1 ∈ nm x.2.ro ++ nm x.2.cb := List.mem_append.2 (.inl (mem_nm hz))
    have hw' : z.1 ∈ nm y.2.cb ++ nm y.2.pb := by simpa [toB] using hw
    constructor <;> intro _
    · have := hmeets hw' hm
      simp [Foot.hits, footOf, this]
    · have := hmeets hw' (List.mem_append.2 (.inl hm) : z.1 ∈ (nm x.2.ro ++ nm x.2.cb) ++ (nm x.2.cb ++ nm x.2.pb))
      simp only [Foot.hits, footOf, this, Bool.or_true, Bool.true_or]
  · have hm : z.1 ∈ nm x.2.ro ++ nm x.2.cb := List.mem_append.2 (.inr (mem_nm hz))
    have hw' : z.1 ∈ nm y.2.cb ++ nm y.2.pb := by simpa [toB] using hw
    constructor <;> intro _
    · have := hmeets hw' hm
      simp [Foot.hits, footOf, this]
    · have := hmeets hw' (List.mem_append.2 (.inl hm) : z.1 ∈ (nm x.2.ro ++ nm x.2.cb) ++ (nm x.2.cb ++ nm x.2.pb))
      simp only [Foot.hits, footOf, this, Bool.or_true, Bool.true_or]
  · rcases names_runS _ _ hnn with h | ⟨y, hy, hv⟩
    · exact hR.fresh x (List.mem_of_getElem? hi) n hn h
    · obtain ⟨⟨y', j⟩, hy', rfl⟩ := List.mem_map.1 hy
      obtain ⟨h1, h2⟩ := List.mem_filter.1 hy'
      have hj : items[j]? = some y' := by simpa using List.mem_zipIdx_iff_getElem?.1 h1
      simp only at h2 hv
      rcases Nat.lt_trichotomy j i with h | h | h
      · exact newOk_spec hR.newOk h hj hi n hn hv
      · subst h; rw [hLi] at h2; cases h2
      · have := hfut j y' hj h (by
          have := hmeets (l := (footOf x).nn) (m := (footOf y').vn) hn hv
          simp only [Foot.hits, this, Bool.or_true, Bool.true_or])
        rw [this] at h2; cases h2

theorem Rel.congr {st st' : St U} (h : St.Le st' st) {S : Nat → Prop} {ι : Lay} {a : Act} {w : World} (hR : Rel U O B S ι st a w) : Rel U O B S ι st' a w := hR.weak h

theorem runS_append (l m : List (Item U)) (st : St U) : runS (l ++ m) st = runS m (runS l st) := List.foldl_append

theorem part_next {ops : Array Oper} {N : Nat} {st : St U} {items : List (Item U)} {A : List (List Nat)} (hR : Runs U O P ops N st items) (hA : ancOk ops.toList A = true) (hF : raceFree items A = true)
    {L : Nat → Bool} (hL : Closed ops.toList fun j => L j = true) (hin : ∀ j, L j = true → j < items.length) {i : Nat} {x : Item U} (hi : items[i]? = some x) (hLi : L i = false) :
    St.Le (runS (pickL items fun j => L j || j == i) st) (stepI (runS (pickL items L) st) x) := by
  have hlen : items.length = ops.toList.length := by rw [← hR.len, List.length_map]
  have hfut : ∀ j y, items[j]? = some y → i < j → (footOf x).hits (footOf y) = true → L j = false := fun j y hj hij hh => by
    cases hLj : L j
    · rfl
    · have h1 := raceFree_spec hF hij hi hj hh
      have h2 := anc_done hA hL j (by have := hin j hLj; omega) (hL j hLj) i h1
      rw [hLi] at h2; cases h2
  have hmeets : ∀ {l m : List Nat} {n : Nat}, n ∈ l → n ∈ m → meets l m = true := fun h1 h2 => List.any_eq_true.2 ⟨_, h1, by simpa using h2⟩
  have hsnoc : stepI (runS (pickL items L) st) x = runS (pickL items L ++ [x]) st := by rw [runS_append]; rfl
  rw [hsnoc]
  have key : ∀ W : Item U → Bool, (∀ j y, items[j]? = some y → i < j → W y = true → W x = true → (footOf x).hits (footOf y) = true) →
      (pickL items fun j => L j || j == i).filter W = (pickL items L ++ [x]).filter W := fun W hW => by
    rw [List.filter_append]
    cases hWx : W x with
    | true =>
      rw [List.filter_cons_of_pos hWx, List.filter_nil]
      exact pickL_snoc items L i x hi hLi W hWx fun j y hj hij hw => hfut j y hj hij (hW j y hj hij hw hWx)
    | false =>
      rw [List.filter_cons_of_neg (by simp [hWx]), List.filter_nil, List.append_nil]
      refine pickL_filter items _ L W fun j y hj hw => ?_
      by_cases e : j = i
      · subst e; rw [hi] at hj; injection hj with hj; rw [hj, hw] at hWx; cases hWx
      · have : (j == i) = false := by simpa using e
        simp [this]
  refine ⟨fun z hz => ?_, fun z hz => ?_⟩
  · have h1 := (runS_sl z.1 z.2 (pickL items fun j => L j || j == i) st st Iff.rfl).1 hz
    rw [key (wrS z.1) fun j y hj hij hw hx => by
      have hd : y.1.dst = some z.1 := by simpa [wrS] using hw
      have hd' : x.1.dst = some z.1 := by simpa [wrS] using hx
      simp [Foot.hits, footOf, hd, hd']] at h1
    exact (runS_sl z.1 z.2 (pickL items L ++ [x]) st st Iff.rfl).2 h1
  · have h1 := (runS_hp z.1 z.2 (pickL items fun j => L j || j == i) st st Iff.rfl).1 hz
    rw [key (toB z.1) fun j y hj hij hw hx => by
      have hw' : z.1 ∈ nm y.2.cb ++ nm y.2.pb := by simpa [toB] using hw
      have hx' : z.1 ∈ nm x.2.cb ++ nm x.2.pb := by simpa [toB] using hx
      have := hmeets hx' (List.mem_append.2 (.inr hw') : z.1 ∈ (nm y.2.ro ++ nm y.2.cb) ++ (nm y.2.cb ++ nm y.2.pb))
      simp only [Foot.hits, footOf, this, Bool.or_true, Bool.true_or]] at h1
    exact (runS_hp z.1 z.2 (pickL items L ++ [x]) st st Iff.rfl).2 h1

theorem Rel.drew {S : Nat → Prop} {ι : Lay} {st : St U} {a : Act} {w : World} (hR : Rel U O B S ι st a w) : Rel U O B S ι st a { w with drawn := w.drawn + 1 } :=
  { hR with
    sl := fun x hx => VV.mono (w := w) (w' := { w with drawn := w.drawn + 1 }) (fun _ _ => rfl) (fun _ h => h) _ _ (fun _ _ => rfl) (hR.sl x hx)
    hp := fun x hx => BR.mono (w := w) (w' := { w with drawn := w.drawn + 1 }) (fun _ _ => rfl) (fun _ h => h) rfl (fun _ _ => rfl) (fun _ _ _ => rfl) (hR.hp x hx)
    own := ⟨hR.own.out, hR.own.sep⟩ }

theorem countP_lt {p q : Nat → Bool} (h : ∀ x, p x = true → q x = true) {i : Nat} : ∀ {l : List Nat}, i ∈ l → q i = true → p i = false → l.countP p < l.countP q
  | x :: l, hi, hq, hp => by
    have hle : l.countP p ≤ l.countP q := List.countP_mono_left fun x _ => h x
    rcases List.mem_cons.1 hi with rfl | hi
    · rw [List.countP_cons_of_neg (by simp [hp]), List.countP_cons_of_pos hq]; omega
    · have := countP_lt h hi hq hp
      cases hpx : p x
      · cases hqx : q x
        · rw [List.countP_cons_of_neg (by simp [hpx]), List.countP_cons_of_neg (by simp [hqx])]; exact this
        · rw [List.countP_cons_of_neg (by simp [hpx]), List.countP_cons_of_pos hqx]; omega
      · rw [List.countP_cons_of_pos hpx, List.countP_cons_of_pos (h x hpx)]; omega

theorem wpAny_of {ops : Array Oper} {st : St U} {items : List (Item U)} {A : List (List Nat)} (hR : Runs U O P ops B.n st items) (hA : ancOk ops.toList A = true) (hF : raceFree items A = true)
    {Q : Exit → Act → World → Prop} (hQ : ∀ S ι a w, Rel U O B S ι (runS items st) a w → Q .normal a w) :
    ∀ (fuel : Nat) (listed : Array Bool) (a : Act) (w : World), listed.size = ops.size → Closed ops.toList (fun j => Bl listed j = true) → (List.range ops.size).countP (fun j => !Bl listed j) ≤ fuel →
      (∃ S ι, Rel U O B S ι (runS (pickL items (Bl listed)) st) a w) → wpAny P .any ops Q fuel listed a w := by
  have hlen : items.length = ops.size := by rw [← List.length_map (f := (·.1)), hR.len, Array.length_toList]
  have hall : ∀ listed : Array Bool, listed.size = ops.size → Closed ops.toList (fun j => Bl listed j = true) → Region.ready .any ops listed = [] → ∀ j, j < ops.size → Bl listed j = true := by
    intro listed hsz hcl hr j
    induction j using Nat.strongRecOn with
    | _ j ih =>
      intro hj
      cases hb : Bl listed j
      · exfalso
        have : j ∈ Region.ready .any ops listed := by
          rw [mem_ready]
          refine ⟨?_, ops[j], Array.getElem?_eq_getElem hj, fun e he hbd => ?_⟩
          · unfold Bl at hb
            rw [Array.getD_eq_getD_getElem?, Array.getElem?_eq_getElem (by omega)] at hb ⊢
            simpa using hb
          · have hedge : e.on ∈ edges ops.toList j := by
              unfold edges
              simp only [Array.getElem?_toList, Array.getElem?_eq_getElem hj]
              exact List.mem_map.2 ⟨e, List.mem_filter.2 ⟨by simpa using he, hbd⟩, rfl⟩
            have hlt : e.on < j := by
              unfold ancOk at hA
              have h1 := List.all_eq_true.1 hA j (List.mem_range.2 (by simpa using hj))
              rw [Bool.and_eq_true] at h1
              simpa using List.all_eq_true.1 h1.1 e.on hedge
            exact ih e.on hlt (by omega)
        rw [hr] at this; cases this
      · rfl
  have hend : ∀ (listed : Array Bool) (a : Act) (w : World), listed.size = ops.size → Closed ops.toList (fun j => Bl listed j = true) → (∃ S ι, Rel U O B S ι (runS (pickL items (Bl listed)) st) a w) →
      Region.ready .any ops listed = [] → Q .normal a w := by
    rintro listed a w hsz hcl ⟨S, ι, hRel⟩ hr
    have h1 := hall listed hsz hcl hr
    have : pickL items (Bl listed) = items := by
      unfold pickL
      rw [List.filter_eq_self.2 fun y hy => h1 y.2 (by have := (List.getElem?_eq_some_iff.1 (List.mem_zipIdx_iff_getElem?.1 (show (y.1, y.2) ∈ _ from hy))).1; omega)]
      simp
    rw [this] at hRel
    exact hQ S ι a w hRel
  intro fuel
  induction fuel with
  | zero =>
    intro listed a w hsz hcl hcount hRel
    have hr : Region.ready .any ops listed = [] := by
      cases hr : Region.ready .any ops listed with
      | nil => rfl
      | cons i l =>
        exfalso
        have hi : i ∈ Region.ready .any ops listed := by rw [hr]; exact List.mem_cons_self
        obtain ⟨hun, o, ho, _⟩ := mem_ready.1 hi
        have hlt : i < ops.size := (Array.getElem?_eq_some_iff.1 ho).1
        have : 0 < (List.range ops.size).countP (fun j => !Bl listed j) := by
          rw [List.countP_pos_iff]
          refine ⟨i, List.mem_range.2 hlt, ?_⟩
          unfold Bl
          rw [Array.getD_eq_getD_getElem?, Array.getElem?_eq_getElem (by omega)] at hun ⊢
          simpa using hun
        omega
    exact ⟨hr, hend listed a w hsz hcl hRel hr⟩
  | succ fuel ih =>
    intro listed a w hsz hcl hcount hRel
    refine ⟨hend listed a w hsz hcl hRel, fun i hi => ?_⟩
    obtain ⟨hun, o, ho, hpre⟩ := mem_ready.1 hi
    have hlt : i < ops.size := (Array.getElem?_eq_some_iff.1 ho).1
    have hun' : Bl listed i = false := by
      unfold Bl
      rw [Array.getD_eq_getD_getElem?, Array.getElem?_eq_getElem (by omega)] at hun ⊢
      simpa using hun
    obtain ⟨x, hx⟩ : ∃ x, items[i]? = some x := ⟨items[i]'(by omega), List.getElem?_eq_getElem _⟩
    have hxo : x.1 = o := by
      have h1 : (items.map (·.1))[i]? = some x.1 := by simp [hx]
      rw [hR.len, Array.getElem?_toList, ho] at h1
      injection h1 with h1; exact h1.symm
    have hp : ∀ k ∈ edges ops.toList i, Bl listed k = true := fun k hk => by
      unfold edges at hk
      simp only [Array.getElem?_toList, ho] at hk
      obtain ⟨e, he, rfl⟩ := List.mem_map.1 hk
      obtain ⟨h1, h2⟩ := List.mem_filter.1 he
      exact hpre e (by simpa using h1) h2
    have hin : ∀ j, Bl listed j = true → j < items.length := fun j hj => by
      rcases Nat.lt_or_ge j items.length with h | h
      · exact h
      · unfold Bl at hj; rw [Array.getD_eq_getD_getElem?, Array.getElem?_eq_none (by omega)] at hj; cases hj
    obtain ⟨S, ι, hRel⟩ := hRel
    have hfit := fits_part hR hA hF hcl hin hx hun' hp
    have hset : ∀ j, Bl (listed.setIfInBounds i true) j = (Bl listed j || j == i) := fun j => by
      unfold Bl
      simp only [Array.getD_eq_getD_getElem?]
      by_cases e : j = i
      · subst e
        rw [Array.getElem?_setIfInBounds_self_of_lt (by omega)]
        simp
      · rw [Array.getElem?_setIfInBounds_ne (Ne.symm e)]
        have : (j == i) = false := by simpa using e
        simp [this]
    have hxm : x ∈ items := List.mem_of_getElem? hx
    have huse := (hR.ok x hxm).use (Q := Q) hRel hfit (hR.dst x hxm) (K := wpAny P .any ops Q fuel (listed.setIfInBounds i true)) fun S' ι' a' w' hR' => by
      refine ih _ a' w' (by simpa using hsz) ?_ ?_ ⟨S', ι', ?_⟩
      · intro j hj k hk
        rw [hset] at hj ⊢
        simp only [Bool.or_eq_true, beq_iff_eq] at hj ⊢
        rcases hj with hj | rfl
        · exact .inl (hcl j hj k hk)
        · exact .inl (hp k hk)
      · have h1 : (List.range ops.size).countP (fun j => !Bl (listed.setIfInBounds i true) j) < (List.range ops.size).countP (fun j => !Bl listed j) := by
          refine countP_lt (fun j hj => ?_) (List.mem_range.2 hlt) (by simp [hun']) (by simp [hset])
          rw [hset] at hj
          revert hj
          cases Bl listed j <;> simp
        omega
      · have h2 : pickL items (Bl (listed.setIfInBounds i true)) = pickL items fun j => Bl listed j || j == i := by
          unfold pickL; congr 2; funext y; exact hset y.2
        rw [h2]
        exact hR'.weak (part_next hR hA hF hcl hin hx hun')
    unfold opWp at huse
    unfold wpOp
    simp only [ho]
    rw [hxo] at huse
    exact huse

theorem Bl_start (n j : Nat) : Bl (Array.replicate n false) j = false := by
  unfold Bl
  rw [Array.getD_eq_getD_getElem?, Array.getElem?_replicate]
  split <;> rfl

/-- A region that draws its order. -/
theorem WpC.regionAny {id : Nat} {ops : Array Oper} {st : St U} {Q : PostQ U} {items : List (Item U)} (A : List (List Nat)) (hm : P.follows .mixedOrders = true) (hR : Runs U O P ops B.n st items)
    (hA : ancOk ops.toList A = true) (hF : raceFree items A = true) (hQ : Q .normal (runS items st)) : WpC U O P B (.region id ops true) st Q := fun S ι a w hRel => by
  refine wp_region_any hm (wpAny_of hR hA hF (fun S ι a w hR => ⟨_, hQ, S, ι, hR⟩) _ _ _ _ (by simp) ?_ (Nat.le_trans List.countP_le_length (by simp)) ⟨S, ι, ?_⟩)
  · intro j hj
    rw [Bl_start] at hj; cases hj
  · have : pickL items (Bl (Array.replicate ops.size false)) = [] := by
      unfold pickL
      rw [List.filter_eq_nil_iff.2 fun y _ => by simp [Bl_start]]
      rfl
    rw [this]
    exact hRel.drew

/-- A region in the text's order, by places. -/
theorem Runs.chain {ops : Array Oper} {N : Nat} {st : St U} {items : List (Item U)} (hok : ∀ x ∈ items, SOk U O P ops x.1 x.2) (hfit : ∀ i x, items[i]? = some x → Fits (runS (items.take i) st) x.2)
    (hdst : ∀ x ∈ items, ∀ t, x.1.dst = some t → t < N) : Chain U O P ops N st (items.map (·.1)) (runS items st) := by
  induction items generalizing st with
  | nil => exact .nil st
  | cons x l ih =>
    refine .cons (hok x List.mem_cons_self) (hfit 0 x rfl) (hdst x List.mem_cons_self) ?_
    exact ih (fun y hy => hok y (List.mem_cons_of_mem _ hy)) (fun i y hy => hfit (i + 1) y (by simpa using hy)) fun y hy => hdst y (List.mem_cons_of_mem _ hy)
end
end Go.AM
