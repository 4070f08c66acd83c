/- A part of my own abstract layer. -/
import Derived.Test.YtcijochjfncefaaGreatDoorK44Am0
import Derived.Orders
import Derived.Laws.Cells
import Derived.Laws.OwnMore
import Derived.Laws.MakeOwn
import Derived.WideShapes
import Derived.ChangeShapes
import Derived.ProofKit
import Derived.KernelRfl
namespace Go.AM

section
variable {U : Univ} {O : Out} {P : Program} {B : Base}

abbrev Item (U : Univ) : Type := Oper × LSpec U

def stepI (st : St U) (x : Item U) : St U := st.next x.2 x.1.dst
def runS (l : List (Item U)) (st : St U) : St U := l.foldl stepI st

def wrS (t : Nat) (x : Item U) : Bool := x.1.dst == some t
def toB (n : Nat) (x : Item U) : Bool := (nm x.2.cb).contains n || (nm x.2.pb).contains n

theorem mem_next_sl {st : St U} {s : LSpec U} {d : Option Nat} {x : Nat × AVal U} : x ∈ (st.next s d).sl ↔ (d = some x.1 ∧ x.2 = s.ws) ∨ (x ∈ st.sl ∧ d ≠ some x.1) := by
  cases d with
  | none => simp [St.next, St.setS]
  | some d =>
    simp only [St.next, St.setS, mem_setA_iff]
    constructor
    · rintro (rfl | ⟨h1, h2⟩)
      · exact .inl ⟨rfl, rfl⟩
      · exact .inr ⟨h1, fun e => h2 (by injection e with e; exact e.symm)⟩
    · rintro (⟨h1, h2⟩ | ⟨h1, h2⟩)
      · exact .inl (by obtain ⟨a, b⟩ := x; simp_all)
      · exact .inr ⟨h1, fun e => h2 (by rw [e])⟩

theorem mem_next_hp_iff {st : St U} {s : LSpec U} {d : Option Nat} {x : Nat × Blk U} : x ∈ (st.next s d).hp ↔ (x ∈ st.hp ∧ x.1 ∉ nm s.cb) ∨ x ∈ s.pb := by
  simp [St.next]

theorem runS_sl (t : Nat) (v : AVal U) : ∀ (l : List (Item U)) (st st' : St U), ((t, v) ∈ st.sl ↔ (t, v) ∈ st'.sl) →
    ((t, v) ∈ (runS l st).sl ↔ (t, v) ∈ (runS (l.filter (wrS t)) st').sl)
  | [], _, _, h => h
  | x :: l, st, st', h => by
    by_cases hw : wrS t x = true
    · rw [List.filter_cons_of_pos hw]
      refine runS_sl t v l (stepI st x) (stepI st' x) ?_
      have hd : x.1.dst = some t := by simpa [wrS] using hw
      simp [stepI, mem_next_sl, hd]
    · rw [List.filter_cons_of_neg hw]
      refine runS_sl t v l (stepI st x) st' ?_
      have hd : x.1.dst ≠ some t := by simpa [wrS] using hw
      simp only [stepI, mem_next_sl, hd, false_and, false_or, ne_eq, not_false_iff, and_true]
      exact h

theorem runS_hp (n : Nat) (b : Blk U) : ∀ (l : List (Item U)) (st st' : St U), ((n, b) ∈ st.hp ↔ (n, b) ∈ st'.hp) →
    ((n, b) ∈ (runS l st).hp ↔ (n, b) ∈ (runS (l.filter (toB n)) st').hp)
  | [], _, _, h => h
  | x :: l, st, st', h => by
    by_cases hw : toB n x = true
    · rw [List.filter_cons_of_pos hw]
      refine runS_hp n b l (stepI st x) (stepI st' x) ?_
      simp only [stepI, mem_next_hp_iff, h]
    · rw [List.filter_cons_of_neg hw]
      refine runS_hp n b l (stepI st x) st' ?_
      simp only [toB, Bool.or_eq_true, List.contains_iff_mem, not_or] at hw
      simp only [stepI, mem_next_hp_iff]
      constructor
      · rintro (⟨h1, _⟩ | h1)
        · exact h.1 h1
        · exact absurd (mem_nm h1) hw.2
      · exact fun h1 => .inl ⟨h.2 h1, hw.1⟩

structure Foot where
  rs : List Nat
  w : Option Nat
  rb : List Nat
  wb : List Nat
  nn : List Nat
  vn : List Nat

def footOf (x : Item U) : Foot :=
  ⟨nm x.2.rs, x.1.dst, nm x.2.ro ++ nm x.2.cb, nm x.2.cb ++ nm x.2.pb, x.2.nn, AVal.names U x.2.ws ++ nm x.2.pb ++ x.2.pb.flatMap fun y => Blk.names U y.2⟩

def meets (l m : List Nat) : Bool := l.any fun n => m.contains n
def Foot.hits (x y : Foot) : Bool :=
  (match x.w with | some d => y.rs.contains d || y.w == some d | none => false) || (match y.w with | some d => x.rs.contains d | none => false) ||
  meets x.wb (y.rb ++ y.wb) || meets y.wb x.rb || meets x.nn y.vn || meets y.nn x.vn

def edges (ops : List Oper) (j : Nat) : List Nat := match ops[j]? with
  | some o => (o.after.toList.filter fun e => Region.binds .any e).map (·.on)
  | none => []

def ancOk (ops : List Oper) (A : List (List Nat)) : Bool :=
  (List.range ops.length).all fun j => (edges ops j).all (· < j) && (A.getD j []).all fun k => (edges ops j).contains k || (edges ops j).any fun m => (A.getD m []).contains k

def raceFree (items : List (Item U)) (A : List (List Nat)) : Bool :=
  let F := items.map footOf
  (List.range items.length).all fun j => (List.range j).all fun i => match F[i]?, F[j]? with
    | some x, some y => !x.hits y || (A.getD j []).contains i
    | _, _ => true

theorem raceFree_spec {items : List (Item U)} {A : List (List Nat)} (h : raceFree items A = true) {i j : Nat} {x y : Item U} (hij : i < j) (hi : items[i]? = some x) (hj : items[j]? = some y)
    (hh : (footOf x).hits (footOf y) = true) : i ∈ A.getD j [] := by
  have hlt : j < items.length := (List.getElem?_eq_some_iff.1 hj).1
  unfold raceFree at h
  have h1 := List.all_eq_true.1 (List.all_eq_true.1 h j (List.mem_range.2 hlt)) i (List.mem_range.2 hij)
  simp only [List.getElem?_map, hi, hj, Option.map_some, hh, Bool.not_true, Bool.false_or, List.contains_iff_mem] at h1
  exact h1

def Closed (ops : List Oper) (L : Nat → Prop) : Prop := ∀ j, L j → ∀ k ∈ edges ops j, L k

theorem anc_done {ops : List Oper} {A : List (List Nat)} (hA : ancOk ops A = true) {L : Nat → Prop} (hL : Closed ops L) : ∀ (j : Nat), j < ops.length → (∀ k ∈ edges ops j, L k) → ∀ k ∈ A.getD j [], L k := by
  intro j
  induction j using Nat.strongRecOn with
  | _ j ih =>
    intro hj hd k hk
    unfold ancOk at hA
    have h1 := List.all_eq_true.1 hA j (List.mem_range.2 hj)
    rw [Bool.and_eq_true] at h1
    have h2 := List.all_eq_true.1 h1.2 k hk
    rw [Bool.or_eq_true] at h2
    rcases h2 with h2 | h2
    · exact hd k (by simpa using h2)
    · obtain ⟨m, hm, hkm⟩ := List.any_eq_true.1 h2
      have hmj : m < j := by simpa using List.all_eq_true.1 h1.1 m hm
      exact ih m hmj (by omega) (hL m (hd m hm)) k (by simpa using hkm)

def pickL (items : List (Item U)) (L : Nat → Bool) : List (Item U) := (items.zipIdx.filter fun x => L x.2).map (·.1)

theorem pickL_filter (items : List (Item U)) (L M : Nat → Bool) (W : Item U → Bool) (h : ∀ j x, items[j]? = some x → W x = true → L j = M j) :
    (pickL items L).filter W = (pickL items M).filter W := by
  unfold pickL
  rw [List.filter_map, List.filter_map, List.filter_filter, List.filter_filter]
  congr 1
  refine List.filter_congr fun y hy => ?_
  obtain ⟨x, j⟩ := y
  have hx : items[j]? = some x := by simpa using List.mem_zipIdx_iff_getElem?.1 hy
  simp only [Function.comp_apply]
  cases hw : W x
  · simp
  · simp [h j x hx hw]

theorem pickL_snoc (items : List (Item U)) (L : Nat → Bool) (i : Nat) (x : Item U) (hi : items[i]? = some x) (hLi : L i = false) (W : Item U → Bool) (hW : W x = true)
    (h : ∀ j y, items[j]? = some y → i < j → W y = true → L j = false) :
    (pickL items fun j => L j || j == i).filter W = (pickL items L).filter W ++ [x] := by
  have hsplit : items = items.take i ++ x :: items.drop (i + 1) := by
    obtain ⟨hlt, hx⟩ := List.getElem?_eq_some_iff.1 hi
    rw [← hx, List.getElem_cons_drop, List.take_append_drop]
  have hlen : (items.take i).length = i := by
    have := (List.getElem?_eq_some_iff.1 hi).1
    simp; omega
  have hz : items.zipIdx = (items.take i).zipIdx ++ (x, i) :: (items.drop (i + 1)).zipIdx (i + 1) := by
    conv => lhs; rw [hsplit]
    rw [List.zipIdx_append, List.zipIdx_cons, hlen, Nat.zero_add]
  have hpre : ∀ y ∈ (items.take i).zipIdx, y.2 < i := fun y hy => by
    have := List.mem_zipIdx_iff_getElem?.1 (show (y.1, y.2) ∈ _ from hy)
    have := (List.getElem?_eq_some_iff.1 this).1
    omega
  have hpost : ∀ y ∈ (items.drop (i + 1)).zipIdx (i + 1), i < y.2 ∧ items[y.2]? = some y.1 := fun y hy => by
    have h1 := List.mem_zipIdx (show (y.1, y.2) ∈ _ from hy)
    have h0 := h1.1
    refine ⟨by omega, ?_⟩
    have h2 := h1.2.2
    have h3 : i + 1 + (y.2 - (i + 1)) = y.2 := by omega
    rw [h2, List.getElem_drop]
    simp only [h3]
    exact List.getElem?_eq_getElem _
  unfold pickL
  rw [hz]
  simp only [List.filter_append, List.filter_cons, List.map_append]
  rw [if_pos (by simp), if_neg (by simp [hLi])]
  have e1 : (items.take i).zipIdx.filter (fun y => L y.2 || y.2 == i) = (items.take i).zipIdx.filter (fun y => L y.2) := List.filter_congr fun y hy => by
    have := hpre y hy
    have : (y.2 == i) = false := by simp; omega
    simp [this]
  have e2 : ((items.drop (i + 1)).zipIdx (i + 1)).filter (fun y => L y.2 || y.2 == i) = ((items.drop (i + 1)).zipIdx (i + 1)).filter (fun y => L y.2) := List.filter_congr fun y hy => by
    have := (hpost y hy).1
    have : (y.2 == i) = false := by simp; omega
    simp [this]
  have e3 : ((((items.drop (i + 1)).zipIdx (i + 1)).filter fun y => L y.2).map (·.1)).filter W = [] := by
    rw [List.filter_eq_nil_iff]
    intro y hy hWy
    obtain ⟨z, hz, rfl⟩ := List.mem_map.1 hy
    obtain ⟨hz1, hz2⟩ := List.mem_filter.1 hz
    obtain ⟨h1, h2⟩ := hpost z hz1
    rw [h z.2 z.1 h2 h1 hWy] at hz2
    cases hz2
  rw [e1, e2]
  simp only [List.map_cons, List.filter_cons, hW, if_true, e3, List.append_nil]

def newOk (items : List (Item U)) : Bool :=
  let F := items.map footOf
  (List.range items.length).all fun j => (List.range j).all fun i => match F[i]?, F[j]? with
    | some x, some y => !meets y.nn x.vn
    | _, _ => true

theorem newOk_spec {items : List (Item U)} (h : newOk items = true) {i j : Nat} {x y : Item U} (hij : i < j) (hi : items[i]? = some x) (hj : items[j]? = some y) : ∀ n ∈ y.2.nn, n ∉ (footOf x).vn := by
  have hlt : j < items.length := (List.getElem?_eq_some_iff.1 hj).1
  unfold newOk at h
  have h1 := List.all_eq_true.1 (List.all_eq_true.1 h j (List.mem_range.2 hlt)) i (List.mem_range.2 hij)
  simp only [List.getElem?_map, hi, hj, Option.map_some] at h1
  intro n hn hv
  have : meets (footOf y).nn (footOf x).vn = true := List.any_eq_true.2 ⟨n, hn, by simpa using hv⟩
  rw [this] at h1
  cases h1

theorem names_next {st : St U} {s : LSpec U} {d : Option Nat} {n : Nat} (h : n ∈ (st.next s d).names) : n ∈ st.names ∨ n ∈ AVal.names U s.ws ++ nm s.pb ++ s.pb.flatMap fun y => Blk.names U y.2 := by
  simp only [St.names, List.mem_append, List.mem_flatMap] at h ⊢
  rcases h with (h | ⟨x, hx, hn⟩) | ⟨x, hx, hn⟩
  · rcases mem_next_hp h with h | h
    · obtain ⟨x, hx, rfl⟩ := List.mem_map.1 h
      exact .inl (.inl (.inl (mem_nm (List.mem_filter.1 hx).1)))
    · exact .inr (.inl (.inr h))
  · rcases mem_next_sl.1 hx with ⟨_, e⟩ | ⟨h, _⟩
    · rw [e] at hn; exact .inr (.inl (.inl hn))
    · exact .inl (.inl (.inr ⟨x, h, hn⟩))
  · rcases mem_next_hp_iff.1 hx with ⟨h, _⟩ | h
    · exact .inl (.inr ⟨x, h, hn⟩)
    · exact .inr (.inr ⟨x, h, hn⟩)

theorem names_runS {n : Nat} : ∀ (l : List (Item U)) (st : St U), n ∈ (runS l st).names → n ∈ st.names ∨ ∃ y ∈ l, n ∈ (footOf y).vn
  | [], _, h => .inl h
  | x :: l, st, h => by
    rcases names_runS l (stepI st x) h with h | ⟨y, hy, hn⟩
    · rcases names_next h with h | h
      · exact .inl h
      · exact .inr ⟨x, List.mem_cons_self, h⟩
    · exact .inr ⟨y, List.mem_cons_of_mem _ hy, hn⟩

structure Runs (U : Univ) (O : Out) (P : Program) (ops : Array Oper) (N : Nat) (st : St U) (items : List (Item U)) : Prop where
  len : items.map (·.1) = ops.toList
  ok : ∀ x ∈ items, SOk U O P ops x.1 x.2
  fit : ∀ i x, items[i]? = some x → Fits (runS (items.take i) st) x.2
  dst : ∀ x ∈ items, ∀ t, x.1.dst = some t → t < N
  fresh : ∀ x ∈ items, ∀ n ∈ x.2.nn, n ∉ st.names
  newOk : newOk items = true

def Bl (l : Array Bool) (j : Nat) : Bool := l.getD j false

theorem fits_part {ops : Array Oper} {N : Nat} {st : St U} {items : List (Item U)} {A : List (List Nat)} (hR : Runs U O P ops N st items) (hA : ancOk ops.toList A = true) (hF : raceFree items A = true)
    {L : Nat → Bool} (hL : Closed ops.toList fun j => L j = true) (hin : ∀ j, L j = true → j < items.length) {i : Nat} {x : Item U} (hi : items[i]? = some x) (hLi : L i = false)
    (hp : ∀ k ∈ edges ops.toList i, L k = true) : Fits (runS (pickL items L) st) x.2 := by
  have hlen : items.length = ops.toList.length := by rw [← hR.len, List.length_map]
  have hiL : i < items.length := (List.getElem?_eq_some_iff.1 hi).1
  have hanc := anc_done hA hL i (by omega) hp
  have hfut : ∀ j y, items[j]? = some y → i < j → (footOf x).hits (footOf y) = true → L j = false := fun j y hj hij hh => by
    cases hLj : L j
    · rfl
    · have h1 := raceFree_spec hF hij hi hj hh
      have h2 := anc_done hA hL j (by have := hin j hLj; omega) (hL j hLj) i h1
      rw [hLi] at h2; cases h2
  have hpast : ∀ j y, items[j]? = some y → j < i → (footOf y).hits (footOf x) = true → L j = true := fun j y hj hij hh => hanc j (raceFree_spec hF hij hj hi hh)
  have htake : items.take i = pickL items fun j => decide (j < i) := by
    unfold pickL
    apply List.ext_getElem?
    intro k
    have h1 : items.zipIdx.filter (fun y => decide (y.2 < i)) = items.zipIdx.take i := by
      have hz : items.zipIdx = items.zipIdx.take i ++ items.zipIdx.drop i := (List.take_append_drop _ _).symm
      conv => lhs; rw [hz]
      rw [List.filter_append]
      have e1 : (items.zipIdx.take i).filter (fun y => decide (y.2 < i)) = items.zipIdx.take i := List.filter_eq_self.2 fun y hy => by
        obtain ⟨m, hm, he⟩ := List.mem_iff_getElem.1 hy
        simp at he hm
        subst he
        simp; omega
      have e2 : (items.zipIdx.drop i).filter (fun y => decide (y.2 < i)) = [] := List.filter_eq_nil_iff.2 fun y hy => by
        obtain ⟨m, hm, he⟩ := List.mem_iff_getElem.1 hy
        simp at he hm
        subst he
        simp
      rw [e1, e2, List.append_nil]
    rw [h1, List.map_take]
    simp
  have hslot : ∀ t, (∀ j y, items[j]? = some y → wrS t y = true → j ≠ i → (i < j → (footOf x).hits (footOf y) = true) ∧ (j < i → (footOf y).hits (footOf x) = true)) →
      ∀ v, (t, v) ∈ (runS (items.take i) st).sl → (t, v) ∈ (runS (pickL items L) st).sl := fun t ht v hv => by
    rw [htake] at hv
    rw [runS_sl t v _ st st Iff.rfl] at hv ⊢
    rw [pickL_filter items L (fun j => decide (j < i)) (wrS t)]
    · exact hv
    · intro j y hj hw
      by_cases e : j = i
      · subst e; simp [hLi]
      · obtain ⟨h1, h2⟩ := ht j y hj hw e
        rcases Nat.lt_or_gt_of_ne e with h | h
        · simp [h, hpast j y hj h (h2 h)]
        · have : ¬ j < i := by omega
          simp [this, hfut j y hj h (h1 h)]
  have hblk : ∀ n, (∀ j y, items[j]? = some y → toB n y = true → j ≠ i → (i < j → (footOf x).hits (footOf y) = true) ∧ (j < i → (footOf y).hits (footOf x) = true)) →
      ∀ b, (n, b) ∈ (runS (items.take i) st).hp → (n, b) ∈ (runS (pickL items L) st).hp := fun n ht v hv => by
    rw [htake] at hv
    rw [runS_hp n v _ st st Iff.rfl] at hv ⊢
    rw [pickL_filter items L (fun j => decide (j < i)) (toB n)]
    · exact hv
    · intro j y hj hw
      by_cases e : j = i
      · subst e; simp [hLi]
      · obtain ⟨h1, h2⟩ := ht j y hj hw e
        rcases Nat.lt_or_gt_of_ne e with h | h
        · simp [h, hpast j y hj h (h2 h)]
        · have : ¬ j < i := by omega
          simp [this, hfut j y hj h (h1 h)]
  have hf := hR.fit i x hi
  have hmeets : ∀ {l m : List Nat} {n : Nat}, n ∈ l → n ∈ m → meets l m = true := fun h1 h2 => List.any_eq_true.2 ⟨_, h1, by simpa using h2⟩
  refine ⟨fun z hz => hslot z.1 (fun j y hj hw _ => ?_) z.2 (hf.rs z hz), fun z hz => hblk z.1 (fun j y hj hw _ => ?_) z.2 (hf.ro z hz), fun z hz => hblk z.1 (fun j y hj hw _ => ?_) z.2 (hf.cb z hz), fun n hn hnn => ?_, hf.pn, hf.lo⟩
  · have hd : y.1.dst = some z.1 := by simpa [wrS] using hw
    have hm : z.1 ∈ nm x.2.rs := mem_nm hz
    constructor <;> intro _ <;> simp [Foot.hits, footOf, hd, hm]
  · have hm : z.1 ∈ nm x.2.ro ++ nm x.2.cb := List.mem_append.2 (.inl (mem_nm hz))
    have hw' : z.1 ∈ nm y.2.cb ++ nm y.2.pb := by simpa [toB] using hw
    constructor <;> intro _
    · have := hmeets hw' hm
      simp [Foot.hits, footOf, this]
    · have := hmeets hw' (List.mem_append.2 (.inl hm) : z.1 ∈ (nm x.2.ro ++ nm x.2.cb) ++ (nm x.2.cb ++ nm x.2.pb))
      simp only [Foot.hits, footOf, this, Bool.or_true, Bool.true_or]
  · have hm : z.1 ∈ nm x.2.ro ++ nm x.2.cb := List.mem_append.2 (.inr (mem_nm hz))
    have hw' : z.1 ∈ nm y.2.cb ++ nm y.2.pb := by simpa [toB] using hw
    constructor <;> intro _
    · have := hmeets hw' hm
      simp [Foot.hits, footOf, this]
    · have := hmeets hw' (List.mem_append.2 (.inl hm) : z.1 ∈ (nm x.2.ro ++ nm x.2.cb) ++ (nm x.2.cb ++ nm x.2.pb))
      simp only [Foot.hits, footOf, this, Bool.or_true, Bool.true_or]
  · rcases names_runS _ _ hnn with h | ⟨y, hy, hv⟩
    · exact hR.fresh x (List.mem_of_getElem? hi) n hn h
    · obtain ⟨⟨y', j⟩, hy', rfl⟩ := List.mem_map.1 hy
      obtain ⟨h1, h2⟩ := List.mem_filter.1 hy'
      have hj : items[j]? = some y' := by simpa using List.mem_zipIdx_iff_getElem?.1 h1
      simp only at h2 hv
      rcases Nat.lt_trichotomy j i with h | h | h
      · exact newOk_spec hR.newOk h hj hi n hn hv
      · subst h; rw [hLi] at h2; cases h2
      · have := hfut j y' hj h (by
          have := hmeets (l := (footOf x).nn) (m := (footOf y').vn) hn hv
          simp only [Foot.hits, this, Bool.or_true, Bool.true_or])
        rw [this] at h2; cases h2

theorem Rel.congr {st st' : St U} (h : St.Le st' st) {S : Nat → Prop} {ι : Lay} {a : Act} {w : World} (hR : Rel U O B S ι st a w) : Rel U O B S ι st' a w := hR.weak h

theorem runS_append (l m : List (Item U)) (st : St U) : runS (l ++ m) st = runS m (runS l st) := List.foldl_append

theorem part_next {ops : Array Oper} {N : Nat} {st : St U} {items : List (Item U)} {A : List (List Nat)} (hR : Runs U O P ops N st items) (hA : ancOk ops.toList A = true) (hF : raceFree items A = true)
    {L : Nat → Bool} (hL : Closed ops.toList fun j => L j = true) (hin : ∀ j, L j = true → j < items.length) {i : Nat} {x : Item U} (hi : items[i]? = some x) (hLi : L i = false) :
    St.Le (runS (pickL items fun j => L j || j == i) st) (stepI (runS (pickL items L) st) x) := by
  have hlen : items.length = ops.toList.length := by rw [← hR.len, List.length_map]
  have hfut : ∀ j y, items[j]? = some y → i < j → (footOf x).hits (footOf y) = true → L j = false := fun j y hj hij hh => by
    cases hLj : L j
    · rfl
    · have h1 := raceFree_spec hF hij hi hj hh
      have h2 := anc_done hA hL j (by have := hin j hLj; omega) (hL j hLj) i h1
      rw [hLi] at h2; cases h2
  have hmeets : ∀ {l m : List Nat} {n : Nat}, n ∈ l → n ∈ m → meets l m = true := fun h1 h2 => List.any_eq_true.2 ⟨_, h1, by simpa using h2⟩
  have hsnoc : stepI (runS (pickL items L) st) x = runS (pickL items L ++ [x]) st := by rw [runS_append]; rfl
  rw [hsnoc]
  have key : ∀ W : Item U → Bool, (∀ j y, items[j]? = some y → i < j → W y = true → W x = true → (footOf x).hits (footOf y) = true) →
      (pickL items fun j => L j || j == i).filter W = (pickL items L ++ [x]).filter W := fun W hW => by
    rw [List.filter_append]
    cases hWx : W x with
    | true =>
      rw [List.filter_cons_of_pos hWx, List.filter_nil]
      exact pickL_snoc items L i x hi hLi W hWx fun j y hj hij hw => hfut j y hj hij (hW j y hj hij hw hWx)
    | false =>
      rw [List.filter_cons_of_neg (by simp [hWx]), List.filter_nil, List.append_nil]
      refine pickL_filter items _ L W fun j y hj hw => ?_
      by_cases e : j = i
      · subst e; rw [hi] at hj; injection hj with hj; rw [hj, hw] at hWx; cases hWx
      · have : (j == i) = false := by simpa using e
        simp [this]
  refine ⟨fun z hz => ?_, fun z hz => ?_⟩
  · have h1 := (runS_sl z.1 z.2 (pickL items fun j => L j || j == i) st st Iff.rfl).1 hz
    rw [key (wrS z.1) fun j y hj hij hw hx => by
      have hd : y.1.dst = some z.1 := by simpa [wrS] using hw
      have hd' : x.1.dst = some z.1 := by simpa [wrS] using hx
      simp [Foot.hits, footOf, hd, hd']] at h1
    exact (runS_sl z.1 z.2 (pickL items L ++ [x]) st st Iff.rfl).2 h1
  · have h1 := (runS_hp z.1 z.2 (pickL items fun j => L j || j == i) st st Iff.rfl).1 hz
    rw [key (toB z.1) fun j y hj hij hw hx => by
      have hw' : z.1 ∈ nm y.2.cb ++ nm y.2.pb := by simpa [toB] using hw
      have hx' : z.1 ∈ nm x.2.cb ++ nm x.2.pb := by simpa [toB] using hx
      have := hmeets hx' (List.mem_append.2 (.inr hw') : z.1 ∈ (nm y.2.ro ++ nm y.2.cb) ++ (nm y.2.cb ++ nm y.2.pb))
      simp only [Foot.hits, footOf, this, Bool.or_true, Bool.true_or]] at h1
    exact (runS_hp z.1 z.2 (pickL items L ++ [x]) st st Iff.rfl).2 h1

theorem Rel.drew {S : Nat → Prop} {ι : Lay} {st : St U} {a : Act} {w : World} (hR : Rel U O B S ι st a w) : Rel U O B S ι st a { w with drawn := w.drawn + 1 } :=
  { hR with
    sl := fun x hx => VV.mono (w := w) (w' := { w with drawn := w.drawn + 1 }) (fun _ _ => rfl) (fun _ h => h) _ _ (fun _ _ => rfl) (hR.sl x hx)
    hp := fun x hx => BR.mono (w := w) (w' := { w with drawn := w.drawn + 1 }) (fun _ _ => rfl) (fun _ h => h) rfl (fun _ _ => rfl) (fun _ _ _ => rfl) (hR.hp x hx)
    own := ⟨hR.own.out, hR.own.sep⟩ }

theorem countP_lt {p q : Nat → Bool} (h : ∀ x, p x = true → q x = true) {i : Nat} : ∀ {l : List Nat}, i ∈ l → q i = true → p i = false → l.countP p < l.countP q
  | x :: l, hi, hq, hp => by
    have hle : l.countP p ≤ l.countP q := List.countP_mono_left fun x _ => h x
    rcases List.mem_cons.1 hi with rfl | hi
    · rw [List.countP_cons_of_neg (by simp [hp]), List.countP_cons_of_pos hq]; omega
    · have := countP_lt h hi hq hp
      cases hpx : p x
      · cases hqx : q x
        · rw [List.countP_cons_of_neg (by simp [hpx]), List.countP_cons_of_neg (by simp [hqx])]; exact this
        · rw [List.countP_cons_of_neg (by simp [hpx]), List.countP_cons_of_pos hqx]; omega
      · rw [List.countP_cons_of_pos hpx, List.countP_cons_of_pos (h x hpx)]; omega

theorem wpAny_of {ops : Array Oper} {st : St U} {items : List (Item U)} {A : List (List Nat)} (hR : Runs U O P ops B.n st items) (hA : ancOk ops.toList A = true) (hF : raceFree items A = true)
    {Q : Exit → Act → World → Prop} (hQ : ∀ S ι a w, Rel U O B S ι (runS items st) a w → Q .normal a w) :
    ∀ (fuel : Nat) (listed : Array Bool) (a : Act) (w : World), listed.size = ops.size → Closed ops.toList (fun j => Bl listed j = true) → (List.range ops.size).countP (fun j => !Bl listed j) ≤ fuel →
      (∃ S ι, Rel U O B S ι (runS (pickL items (Bl listed)) st) a w) → wpAny P .any ops Q fuel listed a w := by
  have hlen : items.length = ops.size := by rw [← List.length_map (f := (·.1)), hR.len, Array.length_toList]
  have hall : ∀ listed : Array Bool, listed.size = ops.size → Closed ops.toList (fun j => Bl listed j = true) → Region.ready .any ops listed = [] → ∀ j, j < ops.size → Bl listed j = true := by
    intro listed hsz hcl hr j
    induction j using Nat.strongRecOn with
    | _ j ih =>
      intro hj
      cases hb : Bl listed j
      · exfalso
        have : j ∈ Region.ready .any ops listed := by
          rw [mem_ready]
          refine ⟨?_, ops[j], Array.getElem?_eq_getElem hj, fun e he hbd => ?_⟩
          · unfold Bl at hb
            rw [Array.getD_eq_getD_getElem?, Array.getElem?_eq_getElem (by omega)] at hb ⊢
            simpa using hb
          · have hedge : e.on ∈ edges ops.toList j := by
              unfold edges
              simp only [Array.getElem?_toList, Array.getElem?_eq_getElem hj]
              exact List.mem_map.2 ⟨e, List.mem_filter.2 ⟨by simpa using he, hbd⟩, rfl⟩
            have hlt : e.on < j := by
              unfold ancOk at hA
              have h1 := List.all_eq_true.1 hA j (List.mem_range.2 (by simpa using hj))
              rw [Bool.and_eq_true] at h1
              simpa using List.all_eq_true.1 h1.1 e.on hedge
            exact ih e.on hlt (by omega)
        rw [hr] at this; cases this
      · rfl
  have hend : ∀ (listed : Array Bool) (a : Act) (w : World), listed.size = ops.size → Closed ops.toList (fun j => Bl listed j = true) → (∃ S ι, Rel U O B S ι (runS (pickL items (Bl listed)) st) a w) →
      Region.ready .any ops listed = [] → Q .normal a w := by
    rintro listed a w hsz hcl ⟨S, ι, hRel⟩ hr
    have h1 := hall listed hsz hcl hr
    have : pickL items (Bl listed) = items := by
      unfold pickL
      rw [List.filter_eq_self.2 fun y hy => h1 y.2 (by have := (List.getElem?_eq_some_iff.1 (List.mem_zipIdx_iff_getElem?.1 (show (y.1, y.2) ∈ _ from hy))).1; omega)]
      simp
    rw [this] at hRel
    exact hQ S ι a w hRel
  intro fuel
  induction fuel with
  | zero =>
    intro listed a w hsz hcl hcount hRel
    have hr : Region.ready .any ops listed = [] := by
      cases hr : Region.ready .any ops listed with
      | nil => rfl
      | cons i l =>
        exfalso
        have hi : i ∈ Region.ready .any ops listed := by rw [hr]; exact List.mem_cons_self
        obtain ⟨hun, o, ho, _⟩ := mem_ready.1 hi
        have hlt : i < ops.size := (Array.getElem?_eq_some_iff.1 ho).1
        have : 0 < (List.range ops.size).countP (fun j => !Bl listed j) := by
          rw [List.countP_pos_iff]
          refine ⟨i, List.mem_range.2 hlt, ?_⟩
          unfold Bl
          rw [Array.getD_eq_getD_getElem?, Array.getElem?_eq_getElem (by omega)] at hun ⊢
          simpa using hun
        omega
    exact ⟨hr, hend listed a w hsz hcl hRel hr⟩
  | succ fuel ih =>
    intro listed a w hsz hcl hcount hRel
    refine ⟨hend listed a w hsz hcl hRel, fun i hi => ?_⟩
    obtain ⟨hun, o, ho, hpre⟩ := mem_ready.1 hi
    have hlt : i < ops.size := (Array.getElem?_eq_some_iff.1 ho).1
    have hun' : Bl listed i = false := by
      unfold Bl
      rw [Array.getD_eq_getD_getElem?, Array.getElem?_eq_getElem (by omega)] at hun ⊢
      simpa using hun
    obtain ⟨x, hx⟩ : ∃ x, items[i]? = some x := ⟨items[i]'(by omega), List.getElem?_eq_getElem _⟩
    have hxo : x.1 = o := by
      have h1 : (items.map (·.1))[i]? = some x.1 := by simp [hx]
      rw [hR.len, Array.getElem?_toList, ho] at h1
      injection h1 with h1; exact h1.symm
    have hp : ∀ k ∈ edges ops.toList i, Bl listed k = true := fun k hk => by
      unfold edges at hk
      simp only [Array.getElem?_toList, ho] at hk
      obtain ⟨e, he, rfl⟩ := List.mem_map.1 hk
      obtain ⟨h1, h2⟩ := List.mem_filter.1 he
      exact hpre e (by simpa using h1) h2
    have hin : ∀ j, Bl listed j = true → j < items.length := fun j hj => by
      rcases Nat.lt_or_ge j items.length with h | h
      · exact h
      · unfold Bl at hj; rw [Array.getD_eq_getD_getElem?, Array.getElem?_eq_none (by omega)] at hj; cases hj
    obtain ⟨S, ι, hRel⟩ := hRel
    have hfit := fits_part hR hA hF hcl hin hx hun' hp
    have hset : ∀ j, Bl (listed.setIfInBounds i true) j = (Bl listed j || j == i) := fun j => by
      unfold Bl
      simp only [Array.getD_eq_getD_getElem?]
      by_cases e : j = i
      · subst e
        rw [Array.getElem?_setIfInBounds_self_of_lt (by omega)]
        simp
      · rw [Array.getElem?_setIfInBounds_ne (Ne.symm e)]
        have : (j == i) = false := by simpa using e
        simp [this]
    have hxm : x ∈ items := List.mem_of_getElem? hx
    have huse := (hR.ok x hxm).use (Q := Q) hRel hfit (hR.dst x hxm) (K := wpAny P .any ops Q fuel (listed.setIfInBounds i true)) fun S' ι' a' w' hR' => by
      refine ih _ a' w' (by simpa using hsz) ?_ ?_ ⟨S', ι', ?_⟩
      · intro j hj k hk
        rw [hset] at hj ⊢
        simp only [Bool.or_eq_true, beq_iff_eq] at hj ⊢
        rcases hj with hj | rfl
        · exact .inl (hcl j hj k hk)
        · exact .inl (hp k hk)
      · have h1 : (List.range ops.size).countP (fun j => !Bl (listed.setIfInBounds i true) j) < (List.range ops.size).countP (fun j => !Bl listed j) := by
          refine countP_lt (fun j hj => ?_) (List.mem_range.2 hlt) (by simp [hun']) (by simp [hset])
          rw [hset] at hj
          revert hj
          cases Bl listed j <;> simp
        omega
      · have h2 : pickL items (Bl (listed.setIfInBounds i true)) = pickL items fun j => Bl listed j || j == i := by
          unfold pickL; congr 2; funext y; exact hset y.2
        rw [h2]
        exact hR'.weak (part_next hR hA hF hcl hin hx hun')
    unfold opWp at huse
    unfold wpOp
    simp only [ho]
    rw [hxo] at huse
    exact huse

theorem Bl_start (n j : Nat) : Bl (Array.replicate n false) j = false := by
  unfold Bl
  rw [Array.getD_eq_getD_getElem?, Array.getElem?_replicate]
  split <;> rfl

theorem WpC.regionAny {id : Nat} {ops : Array Oper} {st : St U} {Q : PostQ U} {items : List (Item U)} (A : List (List Nat)) (hm : P.follows .mixedOrders = true) (hR : Runs U O P ops B.n st items)
    (hA : ancOk ops.toList A = true) (hF : raceFree items A = true) (hQ : Q .normal (runS items st)) : WpC U O P B (.region id ops true) st Q := fun S ι a w hRel => by
  refine wp_region_any hm (wpAny_of hR hA hF (fun S ι a w hR => ⟨_, hQ, S, ι, hR⟩) _ _ _ _ (by simp) ?_ (Nat.le_trans List.countP_le_length (by simp)) ⟨S, ι, ?_⟩)
  · intro j hj
    rw [Bl_start] at hj; cases hj
  · have : pickL items (Bl (Array.replicate ops.size false)) = [] := by
      unfold pickL
      rw [List.filter_eq_nil_iff.2 fun y _ => by simp [Bl_start]]
      rfl
    rw [this]
    exact hRel.drew

theorem Runs.chain {ops : Array Oper} {N : Nat} {st : St U} {items : List (Item U)} (hok : ∀ x ∈ items, SOk U O P ops x.1 x.2) (hfit : ∀ i x, items[i]? = some x → Fits (runS (items.take i) st) x.2)
    (hdst : ∀ x ∈ items, ∀ t, x.1.dst = some t → t < N) : Chain U O P ops N st (items.map (·.1)) (runS items st) := by
  induction items generalizing st with
  | nil => exact .nil st
  | cons x l ih =>
    refine .cons (hok x List.mem_cons_self) (hfit 0 x rfl) (hdst x List.mem_cons_self) ?_
    exact ih (fun y hy => hok y (List.mem_cons_of_mem _ hy)) (fun i y hy => hfit (i + 1) y (by simpa using hy)) fun y hy => hdst y (List.mem_cons_of_mem _ hy)
end
end Go.AM

namespace Go.AM

section
variable {U : Univ} {O : Out} {P : Program} {S : Nat → Prop} {ι : Lay} {w : World} {rs : List (Nat × AVal U)} {a : Act} {ops : Array Oper} {o : Oper}

theorem sok_run {s : LSpec U} {j t : Nat} {want b : Bool} (hg : o.guard = some (j, want)) (hd : (ops[j]?).bind (·.dst) = some t) (hb : b = want)
    (h : SOk U O P ops { o with guard := none } s) : SOk U O P ops o { s with rs := (t, .p .bool b) :: s.rs } := by
  intro S ι w a hlt hgl hrs hro hcb hown K Q hK
  have h1 := h S ι w a hlt hgl (fun x hx => hrs x (List.mem_cons_of_mem _ hx)) hro hcb hown K Q
    (fun u S' ι' w' hN hu => hK u S' ι' w' ⟨hN.os, hN.tape, hN.output, hN.size, hN.sub, hN.new, hN.lt, hN.keep, hN.lay, hN.blk, hN.plc, hN.sep⟩ hu)
  have hv := VV.bool_iff.1 (hrs (t, .p .bool b) List.mem_cons_self)
  have hy : yielded ops a.tmps j = some want := by
    unfold yielded
    rw [hd]
    simp only [Option.bind_some]
    simp only at hv
    rw [Array.getD_eq_getD_getElem?] at hv
    cases ht : a.tmps[t]? with
    | none => rw [ht] at hv; cases hv
    | some v => rw [ht] at hv; simp only [Option.getD_some] at hv; rw [hv, hb]
  unfold opWp at h1 ⊢
  rw [if_pos (by simp [Region.wanted])] at h1
  rw [if_pos (by simp [Region.wanted, hg, hy])]
  exact h1

theorem sok_skip {j t : Nat} {want b : Bool} (hg : o.guard = some (j, want)) (hd : (ops[j]?).bind (·.dst) = some t) (hb : b = !want) :
    SOk U O P ops o { rs := [(t, .p .bool b)], ws := .tup [] } := by
  intro S ι w a hlt hgl hrs hro hcb hown K Q hK
  have hv := VV.bool_iff.1 (hrs (t, .p .bool b) List.mem_cons_self)
  have hy : yielded ops a.tmps j = some (!want) := by
    unfold yielded
    rw [hd]
    simp only [Option.bind_some]
    simp only at hv
    rw [Array.getD_eq_getD_getElem?] at hv
    cases ht : a.tmps[t]? with
    | none => rw [ht] at hv; cases hv
    | some v => rw [ht] at hv; simp only [Option.getD_some] at hv; rw [hv, hb]
  unfold opWp
  rw [if_neg (by simp [Region.wanted, hg, hy])]
  exact hK undef S ι w (Nx.refl _ rfl rfl hlt) ⟨[], rfl, rfl⟩

theorem sok_skipU {j t : Nat} {want : Bool} (hg : o.guard = some (j, want)) (hd : (ops[j]?).bind (·.dst) = some t) :
    SOk U O P ops o { rs := [(t, .tup [])], ws := .tup [] } := by
  intro S ι w a hlt hgl hrs hro hcb hown K Q hK
  obtain ⟨vs, hvs, hv⟩ := hrs (t, .tup []) List.mem_cons_self
  have hvs' : vs = [] := hvs
  subst hvs'
  have hy : yielded ops a.tmps j = none := by
    unfold yielded
    rw [hd]
    simp only [Option.bind_some]
    simp only at hv
    rw [Array.getD_eq_getD_getElem?] at hv
    cases ht : a.tmps[t]? with
    | none => rfl
    | some v => rw [ht] at hv; simp only [Option.getD_some] at hv; rw [hv]
  unfold opWp
  rw [if_neg (by simp [Region.wanted, hg, hy])]
  exact hK undef S ι w (Nx.refl _ rfl rfl hlt) ⟨[], rfl, rfl⟩

inductive Comp (U : Univ) : (t : Ty) → t.den U.T → Nat → (t' : Ty) → t'.den U.T → Prop
  | here (t : Ty) (x : t.den U.T) : Comp U t x 0 t x
  | fst {a b : Ty} {x : a.den U.T} {y : b.den U.T} {o : Nat} {t : Ty} {z : t.den U.T} : Comp U a x o t z → Comp U (.pair a b) (x, y) o t z
  | snd {a b : Ty} {x : a.den U.T} {y : b.den U.T} {o k : Nat} {t : Ty} {z : t.den U.T} : Comp U b y o t z → k = a.width U.wd + o → Comp U (.pair a b) (x, y) k t z
  | named {n : Nat} {x : U.T n} {o : Nat} {t : Ty} {z : t.den U.T} : Comp U (U.body n) (U.out n x) o t z → Comp U (.named n) x o t z
  | arr {n : Nat} {e : Ty} {xs : List (e.den U.T)} {i o k : Nat} {x : e.den U.T} {t : Ty} {z : t.den U.T} : xs[i]? = some x → Comp U e x o t z → k = i * e.width U.wd + o → Comp U (.arr n e) xs k t z

theorem flatMap_range_get (n k : Nat) (cs : Nat → List Value) (h : ∀ i, i < n → (cs i).length = k) (i j : Nat) (hi : i < n) (hj : j < k) : ((List.range n).flatMap cs)[i * k + j]? = (cs i)[j]? := by
  induction n with
  | zero => omega
  | succ n ih =>
    have hl := flatMap_range_length n k cs fun i hi => h i (by omega)
    rw [List.range_succ, List.flatMap_append]
    by_cases e : i = n
    · subst e
      rw [List.getElem?_append_right (by omega), hl]
      simp
    · have : i * k + j < n * k := by
        have h1 : (i + 1) * k ≤ n * k := Nat.mul_le_mul_right k (by omega)
        rw [Nat.add_mul] at h1
        omega
      rw [List.getElem?_append_left (by omega)]
      exact ih (fun i hi => h i (by omega)) (by omega)

theorem Comp.get {t : Ty} {x : t.den U.T} {o : Nat} {t' : Ty} {x' : t'.den U.T} (h : Comp U t x o t' x') : ∀ {cs : List Value}, Rd U O S w t x cs →
    ∃ cs', Rd U O S w t' x' cs' ∧ o + t'.width U.wd ≤ t.width U.wd ∧ ∀ j, j < t'.width U.wd → cs[o + j]? = cs'[j]? := by
  induction h with
  | here t x => exact fun h => ⟨_, h, by omega, fun j _ => by simp⟩
  | fst _ ih =>
    intro cs h
    cases h with
    | pair h1 h2 =>
      obtain ⟨cs', h3, h4, h5⟩ := ih h1
      refine ⟨cs', h3, by simp [Ty.width]; omega, fun j hj => ?_⟩
      rw [List.getElem?_append_left (by rw [h1.length]; omega)]
      exact h5 j hj
  | snd _ hk ih =>
    intro cs h
    cases h with
    | pair h1 h2 =>
      obtain ⟨cs', h3, h4, h5⟩ := ih h2
      refine ⟨cs', h3, by simp [Ty.width]; omega, fun j hj => ?_⟩
      rw [List.getElem?_append_right (by rw [h1.length]; omega), h1.length, ← h5 j hj, hk]
      congr 1
      omega
  | named _ ih =>
    intro cs h
    cases h with
    | named _ _ h =>
      obtain ⟨cs', h3, h4, h5⟩ := ih h
      exact ⟨cs', h3, by rw [U.wd_ok] at h4; exact h4, h5⟩
  | @arr n e xs i o k x t z hx _ hk ih =>
    intro cs h
    cases h with
    | arr _ _ _ cs hn hel =>
      obtain ⟨hi, hx⟩ := List.getElem?_eq_some_iff.1 hx
      obtain ⟨cs', h3, h4, h5⟩ := ih (hx ▸ hel i hi)
      have hmul : (i + 1) * e.width U.wd ≤ n * e.width U.wd := Nat.mul_le_mul_right _ (by omega)
      rw [Nat.add_mul] at hmul
      refine ⟨cs', h3, by simp only [Ty.width]; omega, fun j hj => ?_⟩
      rw [← h5 j hj, hk, Nat.add_assoc]
      exact flatMap_range_get n _ cs (fun i hi => (hel i (by omega)).length) i (o + j) (by omega) (by omega)

theorem exec_indexAddr {ρ : Operand → Value} {T : TypeId} {x y : Operand} (ho : o.op = .indexAddr T x y) : execOp ρ o = vOf (Instr.indexAt T (ρ x) (ρ y)) := by unfold execOp; rw [ho]; rfl
theorem exec_fieldAddr {ρ : Operand → Value} {T : TypeId} {x : Operand} {f : Nat} (ho : o.op = .fieldAddr T x f) : execOp ρ o = vOf (Instr.fieldAt T (ρ x) f) := by unfold execOp; rw [ho]; rfl
theorem exec_field {ρ : Operand → Value} {T : TypeId} {x : Operand} {f : Nat} (ho : o.op = .field T x f) : execOp ρ o = vOf (Instr.field T (ρ x) f) := by unfold execOp; rw [ho]; rfl
theorem exec_load {ρ : Operand → Value} {T : TypeId} {x : Operand} (ho : o.op = .load T x) : execOp ρ o = vOf (Instr.loadAt T (ρ x)) := by unfold execOp; rw [ho]; rfl

theorem sok_indexL {T E : TypeId} {t : Ty} {x y : Operand} {k : IntKind} {xs : List (t.den U.T)} {i : Int} {e : t.den U.T} (hg : o.guard = none) (ho : o.op = .indexAddr T x y) (ht : SlOk P U T E t)
    (hx : Opd U rs x (.p (.list t) xs)) (hy : Opd U rs y (.p (.int k) i)) (hi : idx xs i = some e) : SOk U O P ops o { rs := rs, ws := .pp t e } :=
  sok_v hg _ (fun _ => exec_indexAddr ho) fun S ι w a hrs _ => by
    unfold idx at hi
    split at hi
    · rename_i h0
      obtain ⟨hlt, he⟩ := List.getElem?_eq_some_iff.1 hi
      rcases VV.list_iff.1 (hx.ev hrs) with ⟨rfl, _⟩ | ⟨rfl, _⟩ | ⟨b, o', cap, cs, hv, hS, hcap, hel, hcell⟩
      · simp at hlt
      · simp at hlt
      · refine ⟨.pointer (some ⟨b, o' + i.toNat * t.width U.wd, none⟩), ?_, ?_⟩
        · rw [hv, VV.int_iff.1 (hy.ev hrs)]
          have hc : 0 ≤ i ∧ i < (xs.length : Int) := ⟨h0, by omega⟩
          simp only [Instr.indexAt, asIntOf, Sem.run_bind, Sem.run_pure, Result.andThen_ok, run_underlying ht.under, if_pos hc, run_sizeOf ht.el, Addr.add_lit]
        · refine ⟨b, _, cs i.toNat, rfl, hS, he ▸ hel i.toNat hlt, fun j hj => ?_⟩
          rw [← hcell i.toNat j hlt hj, Nat.add_assoc]
    · exact absurd hi (by simp)

structure FdOk (P : Program) (U : Univ) (T : TypeId) (f off : Nat) (F : TypeId) (t : Ty) : Prop where
  h : ∃ fs fd, P.underlying T = some (.struct fs) ∧ fs[f]? = some fd ∧ fd.offset = off ∧ fd.type = F
  ty : TyOk P U F t

theorem run_part {F : TypeId} {t : Ty} (h : TyOk P U F t) {cs : Array Value} {off : Nat} {xs : List Value} (hl : xs.length = t.width U.wd) (hc : ∀ j, j < t.width U.wd → cs[off + j]? = xs[j]?)
    (h1 : t.isAgg = false → t.width U.wd = 1) (w : World) : (part F cs off).run P w = .ok (mkV t.isAgg xs) w := by
  obtain ⟨d, hd, ha⟩ := h.agg
  have hia : (isAgg F).run P w = .ok t.isAgg w := by
    rw [← ha]
    simp only [isAgg, Sem.run_bind, run_underlying hd, Result.andThen_ok]
    cases d <;> rfl
  unfold part
  rw [Sem.run_bind, hia]
  simp only [Result.andThen_ok]
  cases hag : t.isAgg with
  | true =>
    simp only [if_true, Sem.run_bind, run_sizeOf h, Result.andThen_ok, Sem.run_pure, mkV]
    congr 2
    apply Array.ext'
    rw [Array.toList_extract]
    apply List.ext_getElem?
    intro j
    rw [List.extract_eq_take_drop, List.getElem?_take, List.getElem?_drop]
    split
    · rename_i hj
      have hj : j < t.width U.wd := by omega
      rw [Array.getElem?_toList, hc j hj]
    · rw [List.getElem?_eq_none (by simp; omega)]
  | false =>
    have h2 := h1 hag
    simp only [Bool.false_eq_true, if_false, mkV]
    have h3 := hc 0 (by omega)
    simp only [Nat.add_zero] at h3
    rw [h3]
    cases xs with
    | nil => simp at hl; omega
    | cons c l => rfl

theorem width_one {t : Ty} (h : t.isAgg = false) : t.width U.wd = 1 := by cases t <;> simp_all [Ty.isAgg, Ty.width]

theorem run_fieldPlace {F : TypeId} {t : Ty} (h : TyOk P U F t) (hw : t.width U.wd ≠ 0) (bl of : Nat) (fd : Field) (hfd : fd.type = F) (w : World) :
    (fieldPlace ⟨bl, of, none⟩ fd).run P w = .ok ⟨bl, of + fd.offset, none⟩ w := by
  unfold fieldPlace
  rw [Sem.run_bind, hfd, run_sizeOf h]
  simp only [Result.andThen_ok, if_neg hw, Sem.run_pure, Addr.add_lit]

theorem sok_field {T F : TypeId} {f off : Nat} {tT t : Ty} {x : Operand} {X : tT.den U.T} {Z : t.den U.T} (hg : o.guard = none) (ho : o.op = .field T x f) (hf : FdOk P U T f off F t)
    (hag : tT.isAgg = true) (hx : Opd U rs x (.p tT X)) (hc : Comp U tT X off t Z) : SOk U O P ops o { rs := rs, ws := .p t Z } :=
  sok_v hg _ (fun _ => exec_field ho) fun S ι w a hrs _ => by
    obtain ⟨cs, hr, hv⟩ := hx.ev hrs
    obtain ⟨cs', hr', hle, hget⟩ := hc.get hr
    obtain ⟨fs, fd, h1, h2, h3, h4⟩ := hf.h
    refine ⟨mkV t.isAgg cs', ?_, cs', hr', rfl⟩
    rw [hv, hag]
    simp only [Instr.field, mkV, Sem.run_bind, run_underlying h1, Result.andThen_ok, h2, asAgg, Sem.run_pure, h3, h4]
    exact run_part hf.ty hr'.length (fun j hj => by rw [← hget j hj]; simp) width_one w

theorem sok_fieldP {T F : TypeId} {f off : Nat} {tT t : Ty} {x : Operand} {X : tT.den U.T} {Z : t.den U.T} (hg : o.guard = none) (ho : o.op = .fieldAddr T x f) (hf : FdOk P U T f off F t)
    (hw : t.width U.wd ≠ 0) (hx : Opd U rs x (.pp tT X)) (hc : Comp U tT X off t Z) : SOk U O P ops o { rs := rs, ws := .pp t Z } :=
  sok_v hg _ (fun _ => exec_fieldAddr ho) fun S ι w a hrs _ => by
    obtain ⟨b, of, cs, hv, hS, hr, hcell⟩ := hx.ev hrs
    obtain ⟨cs', hr', hle, hget⟩ := hc.get hr
    obtain ⟨fs, fd, h1, h2, h3, h4⟩ := hf.h
    refine ⟨.pointer (some ⟨b, of + off, none⟩), ?_, b, of + off, cs', rfl, hS, hr', fun j hj => ?_⟩
    · rw [hv]
      simp only [Instr.fieldAt, Instr.sureAddr, Sem.run_bind, run_underlying h1, Result.andThen_ok, h2, Sem.run_pure, run_fieldPlace hf.ty hw b of fd h4, h3]
    · rw [← hget j hj, ← hcell (off + j) (by omega)]
      congr 2
      omega

theorem run_isAgg {T : TypeId} {t : Ty} (h : TyOk P U T t) (w : World) : (isAgg T).run P w = .ok t.isAgg w := by
  obtain ⟨d, hd, ha⟩ := h.agg
  rw [← ha]
  simp only [isAgg, Sem.run_bind, run_underlying hd, Result.andThen_ok]
  cases d <;> rfl

theorem run_loadAt {T : TypeId} {t : Ty} (h : TyOk P U T t) {bl of : Nat} {cs : List Value} (hl : cs.length = t.width U.wd) (hc : ∀ j, j < t.width U.wd → w.cell? ⟨bl, of + j, none⟩ = cs[j]?) :
    (Instr.loadAt T (.pointer (some ⟨bl, of, none⟩))).run P w = .ok (mkV t.isAgg cs) w := by
  simp only [Instr.loadAt, Instr.sureAddr, loadVar, Sem.run_bind, Sem.run_pure, Result.andThen_ok, run_isAgg h]
  cases hag : t.isAgg with
  | true =>
    have := run_loadCells_list (P := P) (w := w) ⟨bl, of, none⟩ cs fun j v hj => by
      have hlt := (List.getElem?_eq_some_iff.1 hj).1
      rw [Addr.add_lit, hc j (by omega), hj]
    rw [hl] at this
    simp only [if_true, Sem.run_bind, run_sizeOf h, Result.andThen_ok, this, Sem.run_pure, mkV]
  | false =>
    have h1 := width_one (U := U) hag
    have h2 := hc 0 (by omega)
    simp only [Bool.false_eq_true, if_false, mkV, Nat.add_zero] at h2 ⊢
    cases cs with
    | nil => simp at hl; omega
    | cons c l => simp [load, Sem.run, h2]

theorem sok_loadP {T : TypeId} {t : Ty} {x : Operand} {X : t.den U.T} (hg : o.guard = none) (ho : o.op = .load T x) (ht : TyOk P U T t) (hx : Opd U rs x (.pp t X)) :
    SOk U O P ops o { rs := rs, ws := .p t X } :=
  sok_v hg _ (fun _ => exec_load ho) fun S ι w a hrs _ => by
    obtain ⟨b, of, cs, hv, hS, hr, hcell⟩ := hx.ev hrs
    exact ⟨_, by rw [hv]; exact run_loadAt ht hr.length hcell, cs, hr, rfl⟩

def AVal.isPtr : AVal U → Bool
  | .pp _ _ | .loc _ _ | .eloc _ _ _ _ => true
  | _ => false

theorem VV.ptr {v : AVal U} {u : Value} (h : v.isPtr = true) (hv : VV U O S ι w v u) : ∃ p, u = .pointer (some p) := by
  cases v <;> simp only [AVal.isPtr, Bool.false_eq_true] at h
  · obtain ⟨b, o, cs, rfl, _⟩ := hv; exact ⟨_, rfl⟩
  · obtain ⟨b, c, _, rfl⟩ := hv; exact ⟨_, rfl⟩
  · obtain ⟨b, c, _, rfl⟩ := hv; exact ⟨_, rfl⟩

theorem sok_nilCheck {x : Operand} {v : AVal U} (hg : o.guard = none) (ho : o.op = .nilCheck x) (hx : Opd U rs x v) (hv : v.isPtr = true) : SOk U O P ops o { rs := rs, ws := v } :=
  sok_val hg fun S ι w a hrs _ => ⟨a.eval x, by
    obtain ⟨p, hp⟩ := VV.ptr hv (hx.ev hrs)
    unfold execOp
    rw [ho]
    simp only [hp, Sem.run_pure], hx.ev hrs⟩
end
end Go.AM

namespace Go.AM

section
variable {U : Univ} {O : Out} {P : Program} {S : Nat → Prop} {ι : Lay} {w : World} {rs : List (Nat × AVal U)} {a : Act} {ops : Array Oper} {o : Oper}

def cellsOf (vs : List Value) : List Value := vs.flatMap fun v => v.cells.toList

theorem cells_of_one {c : Value} (h : c.oneCell' = true) : c.cells = #[c] := by cases c <;> simp_all [Value.oneCell', Value.cells]

theorem Rd.cells {t : Ty} {x : t.den U.T} {cs : List Value} (h : Rd U O S w t x cs) : (mkV t.isAgg cs).cells.toList = cs := by
  cases hag : t.isAgg with
  | true => simp [mkV, Value.cells]
  | false =>
    have h1 := h.length
    rw [width_one hag] at h1
    match cs, h1 with
    | [c], _ => simp [mkV, cells_of_one (h.one c (by simp))]

inductive Expl (U : Univ) : (t : Ty) → t.den U.T → List (AVal U) → Prop
  | one (t : Ty) (x : t.den U.T) : Expl U t x [.p t x]
  | pair {a b : Ty} {x : a.den U.T} {y : b.den U.T} {us vs : List (AVal U)} : Expl U a x us → Expl U b y vs → Expl U (.pair a b) (x, y) (us ++ vs)
  | unit : Expl U .unit () []
  | named {n : Nat} {x : U.T n} {us : List (AVal U)} : Expl U (U.body n) (U.out n x) us → Expl U (.named n) x us

theorem VVs.append {vs vs' : List (AVal U)} : ∀ {us : List Value}, VVs U O S ι w (vs ++ vs') us ↔ ∃ u1 u2, us = u1 ++ u2 ∧ VVs U O S ι w vs u1 ∧ VVs U O S ι w vs' u2 := by
  induction vs with
  | nil =>
    intro us
    simp only [List.nil_append, VVs]
    constructor
    · intro h; exact ⟨[], us, rfl, rfl, h⟩
    · rintro ⟨u1, u2, rfl, rfl, h⟩; exact h
  | cons v vs ih =>
    intro us
    simp only [List.cons_append, VVs]
    constructor
    · rintro ⟨u, us', rfl, h1, h2⟩
      obtain ⟨u1, u2, rfl, h3, h4⟩ := ih.1 h2
      exact ⟨u :: u1, u2, rfl, ⟨u, u1, rfl, h1, h3⟩, h4⟩
    · rintro ⟨u1, u2, rfl, ⟨u, us', rfl, h1, h2⟩, h3⟩
      exact ⟨u, us' ++ u2, rfl, h1, ih.2 ⟨us', u2, rfl, h2, h3⟩⟩

theorem Expl.to {t : Ty} {x : t.den U.T} {us : List (AVal U)} (h : Expl U t x us) : ∀ {cs : List Value}, Rd U O S w t x cs → ∃ vs, VVs U O S ι w us vs ∧ cellsOf vs = cs ∧ ∀ v ∈ vs, ∀ c ∈ v.cells.toList, c.oneCell' = true := by
  induction h with
  | one t x =>
    intro cs h
    refine ⟨[mkV t.isAgg cs], ⟨_, _, rfl, ⟨cs, h, rfl⟩, rfl⟩, by simp [cellsOf, h.cells], fun v hv c hc => ?_⟩
    simp at hv; subst hv
    rw [h.cells] at hc
    exact h.one c hc
  | pair _ _ ih1 ih2 =>
    intro cs h
    cases h with
    | pair h1 h2 =>
      obtain ⟨v1, a1, a2, a3⟩ := ih1 h1
      obtain ⟨v2, b1, b2, b3⟩ := ih2 h2
      refine ⟨v1 ++ v2, VVs.append.2 ⟨v1, v2, rfl, a1, b1⟩, by simp [cellsOf] at a2 b2 ⊢; rw [a2, b2], fun v hv => ?_⟩
      rcases List.mem_append.1 hv with hv | hv
      · exact a3 v hv
      · exact b3 v hv
  | unit =>
    intro cs h
    cases h
    exact ⟨[], rfl, rfl, fun v hv => by cases hv⟩
  | named _ ih =>
    intro cs h
    cases h with
    | named _ _ h => exact ih h

theorem Expl.of {t : Ty} {x : t.den U.T} {us : List (AVal U)} (h : Expl U t x us) : ∀ {vs : List Value}, VVs U O S ι w us vs → Rd U O S w t x (cellsOf vs) := by
  induction h with
  | one t x =>
    intro vs h
    simp only [VVs] at h
    obtain ⟨u, us', rfl, ⟨cs, h1, rfl⟩, rfl⟩ := h
    have := h1.cells
    simp only [cellsOf, List.flatMap_cons, List.flatMap_nil, List.append_nil, this]
    exact h1
  | pair _ _ ih1 ih2 =>
    intro vs h
    obtain ⟨u1, u2, rfl, h1, h2⟩ := VVs.append.1 h
    have : cellsOf (u1 ++ u2) = cellsOf u1 ++ cellsOf u2 := by simp [cellsOf]
    rw [this]
    exact .pair (ih1 h1) (ih2 h2)
  | unit =>
    intro vs h
    simp only [VVs] at h
    subst h
    exact .unit
  | named _ ih => exact fun h => .named _ _ (ih h)

def AVal.wid : AVal U → Nat
  | .p t _ => t.width U.wd
  | _ => 1
def unitsW (us : List (AVal U)) : Nat := (us.map AVal.wid).sum

def AVal.unit : AVal U → Bool
  | .junk | .agg _ | .tup _ | .sel _ _ _ _ _ _ => false
  | _ => true

theorem VV.cells {v : AVal U} {u : Value} (hu : v.unit = true) (h : VV U O S ι w v u) : u.cells.size = v.wid ∧ ∀ c ∈ u.cells.toList, c.oneCell' = true := by
  cases v <;> simp only [AVal.unit, Bool.false_eq_true] at hu
  · obtain ⟨rfl, h1⟩ := h; rw [cells_of_one h1]; exact ⟨rfl, fun c hc => by simp at hc; rw [hc]; exact h1⟩
  · rename_i t x
    obtain ⟨cs, h1, rfl⟩ := h
    have h2 := h1.cells
    refine ⟨?_, fun c hc => h1.one c (h2 ▸ hc)⟩
    rw [← Array.length_toList, h2]; exact h1.length
  · obtain ⟨b, o, cs, rfl, _⟩ := h; exact ⟨rfl, fun c hc => by simp [Value.cells] at hc; rw [hc]; rfl⟩
  · obtain ⟨b, c, _, rfl⟩ := h; exact ⟨rfl, fun c hc => by simp [Value.cells] at hc; rw [hc]; rfl⟩
  · obtain ⟨b, c, _, rfl⟩ := h; exact ⟨rfl, fun c hc => by simp [Value.cells] at hc; rw [hc]; rfl⟩
  · rcases h with ⟨_, _, _, rfl⟩ | ⟨b, c, o, _, _, rfl, _⟩ <;> exact ⟨rfl, fun c hc => by simp [Value.cells] at hc; rw [hc]; rfl⟩
  · obtain ⟨b, c, _, rfl⟩ := h; exact ⟨rfl, fun c hc => by simp [Value.cells] at hc; rw [hc]; rfl⟩
  · rename_i q n
    obtain ⟨h1, h2⟩ := h
    cases q
    · rw [h2 rfl]; exact ⟨rfl, fun c hc => by simp [Value.cells] at hc; rw [hc]; rfl⟩
    · obtain ⟨b, c, _, rfl⟩ := h1 rfl; exact ⟨rfl, fun c hc => by simp [Value.cells] at hc; rw [hc]; rfl⟩
  · obtain ⟨us, _, rfl⟩ := h; exact ⟨rfl, fun c hc => by simp [Value.cells] at hc; rw [hc]; rfl⟩

theorem VVs.cells {us : List (AVal U)} : ∀ {vs : List Value}, us.all AVal.unit = true → VVs U O S ι w us vs → (cellsOf vs).length = unitsW us ∧ ∀ v ∈ vs, ∀ c ∈ v.cells.toList, c.oneCell' = true := by
  induction us with
  | nil => intro vs _ h; simp only [VVs] at h; subst h; exact ⟨rfl, fun v hv => by cases hv⟩
  | cons x us ih =>
    intro vs hu h
    simp only [List.all_cons, Bool.and_eq_true] at hu
    simp only [VVs] at h
    obtain ⟨u, us', rfl, h1, h2⟩ := h
    obtain ⟨h3, h4⟩ := VV.cells hu.1 h1
    obtain ⟨h5, h6⟩ := ih hu.2 h2
    refine ⟨?_, fun v hv => ?_⟩
    · simp only [cellsOf, List.flatMap_cons, List.length_append, Array.length_toList, h3, unitsW, List.map_cons, List.sum_cons]
      exact congrArg (x.wid + ·) h5
    · rcases List.mem_cons.1 hv with rfl | hv
      · exact h4
      · exact h6 v hv

inductive Units (U : Univ) : AVal U → List (AVal U) → Prop
  | data {t : Ty} {x : t.den U.T} {us : List (AVal U)} : Expl U t x us → Units U (.p t x) us
  | hand {v : AVal U} : v.unit = true → Units U v [v]
  | agg {vs : List (AVal U)} : Units U (.agg vs) vs

theorem Units.to {v : AVal U} {us : List (AVal U)} (h : Units U v us) (hu : us.all AVal.unit = true) {u : Value} (hv : VV U O S ι w v u) :
    ∃ vs, VVs U O S ι w us vs ∧ u.cells.toList = cellsOf vs ∧ (∀ v ∈ vs, ∀ c ∈ v.cells.toList, c.oneCell' = true) ∧ (cellsOf vs).length = unitsW us := by
  cases h with
  | data h =>
    obtain ⟨cs, h1, rfl⟩ := hv
    obtain ⟨vs, h2, h3, h4⟩ := h.to (ι := ι) h1
    exact ⟨vs, h2, by rw [h1.cells, h3], h4, (VVs.cells hu h2).1⟩
  | hand h =>
    have h1 : VVs U O S ι w [v] [u] := ⟨u, [], rfl, hv, rfl⟩
    exact ⟨[u], h1, by simp [cellsOf], (VVs.cells hu h1).2, (VVs.cells hu h1).1⟩
  | agg =>
    obtain ⟨vs, h1, rfl⟩ := hv
    exact ⟨vs, h1, by simp [Value.cells, cellsOf], (VVs.cells hu h1).2, (VVs.cells hu h1).1⟩

def AVal.isHand : AVal U → Bool
  | .junk | .agg _ | .tup _ | .p _ _ | .sel _ _ _ _ _ _ => false
  | _ => true

theorem VV.hand {v : AVal U} {u : Value} (hu : v.isHand = true) (h : VV U O S ι w v u) : u.oneCell' = true := by
  cases v <;> simp only [AVal.isHand, Bool.false_eq_true] at hu
  · obtain ⟨rfl, h1⟩ := h; exact h1
  · obtain ⟨b, o, cs, rfl, _⟩ := h; rfl
  · obtain ⟨b, c, _, rfl⟩ := h; rfl
  · obtain ⟨b, c, _, rfl⟩ := h; rfl
  · rcases h with ⟨_, _, _, rfl⟩ | ⟨b, c, o, _, _, rfl, _⟩ <;> rfl
  · obtain ⟨b, c, _, rfl⟩ := h; rfl
  · rename_i q n
    obtain ⟨h1, h2⟩ := h
    cases q
    · rw [h2 rfl]; rfl
    · obtain ⟨b, c, _, rfl⟩ := h1 rfl; rfl
  · obtain ⟨us, _, rfl⟩ := h; rfl

inductive Made (U : Univ) (t : Ty) : List (AVal U) → AVal U → Prop
  | data {x : t.den U.T} {us : List (AVal U)} : Expl U t x us → Made U t us (.p t x)
  | hand {v : AVal U} : v.isHand = true → t.isAgg = false → Made U t [v] v
  | agg {vs : List (AVal U)} : t.isAgg = true → Made U t vs (.agg vs)

theorem Made.of {t : Ty} {us : List (AVal U)} {v : AVal U} (h : Made U t us v) {vs : List Value} (hv : VVs U O S ι w us vs) : VV U O S ι w v (mkV t.isAgg (cellsOf vs)) := by
  cases h with
  | data h => exact ⟨_, h.of hv, rfl⟩
  | hand h1 h2 =>
    simp only [VVs] at hv
    obtain ⟨u, us', rfl, h3, rfl⟩ := hv
    have := cells_of_one (VV.hand h1 h3)
    simp only [h2, mkV, cellsOf, List.flatMap_cons, this, List.flatMap_nil, List.append_nil, List.headD_cons]
    exact h3
  | agg h1 => exact ⟨vs, hv, by rw [h1]; rfl⟩

theorem Nx.alloc {s : LSpec U} {d : Nat} {B : Blk U} (obj : Obj) (_ : s.cb = []) (hpb : s.pb = [(d, B)]) (hnn : s.nn = [d]) (hlt : ∀ b, S b → b < w.heap.size) (c : Nat)
    (hB : BR U O S (fun n => if n = d then some (w.heap.size, c) else ι n) (w.alloc obj) d B) :
    Nx U O s S ι w S (fun n => if n = d then some (w.heap.size, c) else ι n) (w.alloc obj) := by
  refine ⟨rfl, rfl, rfl, by simp, fun _ h => h, fun _ h => .inl h, fun b h => by have := hlt b h; simp; omega, fun b hb _ => heap_alloc_old w obj b hb, fun n hn => ?_, fun x hx => ?_, fun n hn b c' hb => ?_, fun n hn m hm hne => ?_⟩
  · rw [hnn] at hn
    exact if_neg (by simpa using hn)
  · rw [hpb] at hx
    simp at hx; subst hx
    exact hB
  · rw [hpb] at hn
    simp at hn; subst hn
    simp at hb
    obtain ⟨rfl, rfl⟩ := hb
    exact ⟨fun h => by have := hlt _ h; omega, by simp, .inl (Nat.le_refl _)⟩
  · rw [hpb] at hn hm
    simp at hn hm
    exact absurd (hn.trans hm.symm) hne

theorem exec_box {ρ : Operand → Value} {T : TypeId} {x : Operand} (ho : o.op = .box T x) : execOp ρ o = vOf (Instr.box T (ρ x)) := by unfold execOp; rw [ho]; rfl
theorem exec_alloc {ρ : Operand → Value} {T : TypeId} (ho : o.op = .alloc T) : execOp ρ o = vOf (Instr.alloc T true (.tuple #[])) := by unfold execOp; rw [ho]; rfl

theorem VVs.alloc {us : List (AVal U)} {vs : List Value} {d : Nat} {obj : Obj} {x : Nat × Nat} (hlt : ∀ b, S b → b < w.heap.size) (hn : d ∉ AVal.namesL U us) (h : VVs U O S ι w us vs) :
    VVs U O S (fun n => if n = d then some x else ι n) (w.alloc obj) us vs :=
  VVs.mono (fun b hb => heap_alloc_old w obj b (hlt b hb)) (fun _ h => h) us vs (fun n hm => if_neg fun (e : n = d) => hn (e ▸ hm)) h

theorem sok_box {T : TypeId} {d : Nat} {x : Operand} {v : AVal U} {us : List (AVal U)} (hg : o.guard = none) (_ : o.dst = some d) (ho : o.op = .box T x) (hx : Opd U rs x v) (hu : Units U v us)
    (hun : us.all AVal.unit = true) (hn : d ∉ AVal.namesL U us) : SOk U O P ops o { rs := rs, ws := .loc d 0, pb := [(d, .box us)], nn := [d] } := by
  intro S ι w a hlt hgl hrs hro hcb hown K Q hK
  obtain ⟨vs, h1, h2, h3, h4⟩ := hu.to hun (hx.ev hrs)
  refine opWp_plain hg ?_
  unfold Oper.wp
  rw [exec_box ho]
  have hr : (Instr.box T (a.eval x)).run P w = .ok (.pointer (some ⟨w.heap.size, 0, none⟩)) (w.alloc (.cells (a.eval x).cells T)) := by
    simp only [Instr.box, newVar, newRow, newObj, Sem.run_bind, Sem.run, Result.andThen_ok, Sem.run_pure]
    rfl
  rw [run_vOf hr]
  refine hK _ S _ _ (Nx.alloc (s := { rs := rs, ws := .loc d 0, pb := [(d, .box us)], nn := [d] }) (.cells (a.eval x).cells T) rfl rfl rfl hlt 0 ?_) ⟨w.heap.size, 0, by simp, rfl⟩
  exact ⟨w.heap.size, 0, vs, (a.eval x).cells, T, by simp, VVs.alloc hlt hn h1, h3, h2, heap_alloc_new w _⟩

structure ZeroOk (P : Program) (U : Univ) (T : TypeId) (t : Ty) (z : t.den U.T) : Prop where
  h : ∃ i v, P.info? T = some i ∧ i.zero = some v ∧ ∀ O S w, ∃ cs, Rd U O S w t z cs ∧ v = mkV t.isAgg cs

theorem cellsOf_append (a b : List Value) : cellsOf (a ++ b) = cellsOf a ++ cellsOf b := by simp [cellsOf]

theorem box_parts {n : Nat} {pre mid post : List (AVal U)} (hB : BR U O S ι w n (.box (pre ++ mid ++ post))) (hpre : pre.all AVal.unit = true) (hmid : mid.all AVal.unit = true) :
    ∃ b c v1 v2 v3 arr e, ι n = some (b, c) ∧ VVs U O S ι w pre v1 ∧ VVs U O S ι w mid v2 ∧ VVs U O S ι w post v3 ∧ arr.toList = cellsOf v1 ++ cellsOf v2 ++ cellsOf v3 ∧
      w.heap[b]? = some (.cells arr e (0, 0)) ∧ (cellsOf v1).length = unitsW pre ∧ (cellsOf v2).length = unitsW mid ∧ ∀ v ∈ v3, ∀ x ∈ v.cells.toList, x.oneCell' = true := by
  obtain ⟨b, c, vs, arr, e, h1, h2, h3, h4, h5⟩ := hB
  obtain ⟨v12, v3, rfl, h6, h7⟩ := VVs.append.1 h2
  obtain ⟨v1, v2, rfl, h8, h9⟩ := VVs.append.1 h6
  refine ⟨b, c, v1, v2, v3, arr, e, h1, h8, h9, h7, ?_, h5, (VVs.cells hpre h8).1, (VVs.cells hmid h9).1, fun v hv => h3 v (List.mem_append.2 (.inr hv))⟩
  rw [h4]
  show cellsOf _ = _
  rw [cellsOf_append, cellsOf_append]

theorem sok_loadB {T : TypeId} {t : Ty} {n off : Nat} {x : Operand} (pre mid post : List (AVal U)) {v : AVal U} (hg : o.guard = none) (ho : o.op = .load T x) (ht : TyOk P U T t)
    (hx : Opd U rs x (.loc n off)) (hpre : pre.all AVal.unit = true) (hoff : unitsW pre = off) (hmid : mid.all AVal.unit = true) (hw : unitsW mid = t.width U.wd) (hv : Made U t mid v) :
    SOk U O P ops o { rs := rs, ro := [(n, .box (pre ++ mid ++ post))], ws := v } :=
  sok_v hg _ (fun _ => exec_load ho) fun S ι w a hrs hro => by
    obtain ⟨b, c, v1, v2, v3, arr, e, h1, h2, h3, h4, h5, h6, h7, h8, _⟩ := box_parts (hro _ List.mem_cons_self) hpre hmid
    obtain ⟨b', c', h9, h10⟩ := hx.ev hrs
    rw [h1] at h9
    obtain ⟨rfl, rfl⟩ : b = b' ∧ c = c' := by simpa using h9
    refine ⟨mkV t.isAgg (cellsOf v2), ?_, hv.of h3⟩
    rw [h10]
    refine run_loadAt ht (by rw [h8, hw]) fun j hj => ?_
    rw [cell_of_row w b (off + j) arr e (0, 0) h6, ← Array.getElem?_toList, h5, List.append_assoc, List.getElem?_append_right (by omega), h7, hoff, List.getElem?_append_left (by omega)]
    congr 1
    omega

theorem exec_store {ρ : Operand → Value} {T : TypeId} {x y : Operand} (ho : o.op = .store T x y) : execOp ρ o = (do Instr.storeAt T (ρ x) (ρ y); pure .skip) := by unfold execOp; rw [ho]

theorem Nx.setRow {s : LSpec U} {n b c : Nat} {B B' : Blk U} {arr arr' : Array Value} {e : TypeId} (hcb : s.cb = [(n, B)]) (hpb : s.pb = [(n, B')]) (hn : ι n = some (b, c)) (hout : ¬ S b)
    (hlt : ∀ b, S b → b < w.heap.size) (hg : w.heap[b]? = some (.cells arr e (0, 0))) (hB : BR U O S ι (w.setRow b arr') n B') : Nx U O s S ι w S ι (w.setRow b arr') := by
  have hb : b < w.heap.size := (Array.getElem?_eq_some_iff.1 hg).1
  refine ⟨rfl, rfl, rfl, by simp, fun _ h => h, fun _ h => .inl h, fun b h => by simpa using hlt b h, fun k hk hnot => ?_, fun _ _ => rfl, fun x hx => ?_, fun m hm k c' hk => ?_, fun m hm k hk hne => ?_⟩
  · refine setRow_other w b k arr' fun e' => hnot n (by rw [hcb]; simp) c (by rw [e']; exact hn)
  · rw [hpb] at hx
    simp at hx; subst hx
    exact hB
  · rw [hpb] at hm
    simp at hm; subst hm
    rw [hn] at hk
    obtain ⟨rfl, rfl⟩ : b = k ∧ c = c' := by simpa using hk
    exact ⟨hout, by simpa using hb, .inr ⟨_, by rw [hcb]; simp, c, hn⟩⟩
  · rw [hpb] at hm hk
    simp at hm hk
    exact absurd (hm.trans hk.symm) hne

theorem sok_storeB {T : TypeId} {t : Ty} {n off : Nat} {x y : Operand} (pre mid post : List (AVal U)) {v : AVal U} {mid' : List (AVal U)} (hg : o.guard = none) (_ : o.dst = none) (ho : o.op = .store T x y)
    (ht : TyOk P U T t) (hx : Opd U rs x (.loc n off)) (hy : Opd U rs y v) (hu : Units U v mid') (hpre : pre.all AVal.unit = true) (hoff : unitsW pre = off) (hmid : mid.all AVal.unit = true)
    (hw : unitsW mid = t.width U.wd) (hmid' : mid'.all AVal.unit = true) (hw' : unitsW mid' = t.width U.wd) :
    SOk U O P ops o { rs := rs, cb := [(n, .box (pre ++ mid ++ post))], pb := [(n, .box (pre ++ mid' ++ post))] } := by
  intro S ι w a hlt hgl hrs hro hcb hown K Q hK
  obtain ⟨b, c, v1, v2, v3, arr, e, h1, h2, h3, h4, h5, h6, h7, h8, h9⟩ := box_parts (hcb _ List.mem_cons_self) hpre hmid
  obtain ⟨b', c', h10, h11⟩ := hx.ev hrs
  rw [h1] at h10
  obtain ⟨rfl, rfl⟩ : b = b' ∧ c = c' := by simpa using h10
  obtain ⟨vs, a1, a2, a3, a4⟩ := hu.to hmid' (hy.ev hrs)
  have hsz : (a.eval y).cells.size = t.width U.wd := by rw [← Array.length_toList, a2, a4, hw']
  have hlen : arr.size = unitsW pre + t.width U.wd + (cellsOf v3).length := by rw [← Array.length_toList, h5]; simp [h7, h8, hw]; omega
  have hst := run_storeCells_at P b off e (cellsOf vs) 0 arr w h6 (by rw [a4, hw', hlen]; omega) (by rw [← a2]; exact fun v hv => by rw [a2] at hv; obtain ⟨z, hz, hv⟩ := List.mem_flatMap.1 hv; exact a3 z hz v hv)
  refine opWp_plain hg ?_
  unfold Oper.wp
  rw [exec_store ho]
  have hr : (Instr.storeAt T (a.eval x) (a.eval y)).run P w = .ok () (w.setRow b (cellsOf v1 ++ cellsOf vs ++ cellsOf v3).toArray) := by
    rw [h11]
    simp only [Instr.storeAt, Instr.sureAddr, storeVar, Sem.run_bind, Sem.run_pure, Result.andThen_ok, run_sizeOf ht, hsz, ne_eq, not_true_eq_false, if_false, a2]
    rw [show (storeCells ⟨b, off, none⟩ (cellsOf vs)) = storeCells ⟨b, off, none⟩ (cellsOf vs) 0 from rfl, hst]
    have e1 : (cellsOf v1 ++ cellsOf v2 ++ cellsOf v3).take (off + 0) = cellsOf v1 := by
      rw [List.append_assoc]
      exact List.take_left' (by rw [h7, hoff]; rfl)
    have e2 : (cellsOf v1 ++ cellsOf v2 ++ cellsOf v3).drop (off + 0 + (cellsOf vs).length) = cellsOf v3 := List.drop_left' (by rw [List.length_append, h7, h8, a4, hoff, hw, hw']; rfl)
    rw [h5, e1, e2]
  simp only [Sem.run_bind, hr, Result.andThen_ok, Sem.run_pure, Oper.upon]
  refine hK undef S ι _ (Nx.setRow (n := n) (b := b) (c := c) rfl rfl h1 (hown.out n (by simp) b c h1).1 hlt h6 ?_) trivial
  have hst' : ∀ k, S k → (w.setRow b (cellsOf v1 ++ cellsOf vs ++ cellsOf v3).toArray).heap[k]? = w.heap[k]? := fun k hk => setRow_other w b k _ fun e' => (hown.out n (by simp) b c h1).1 (e' ▸ hk)
  refine ⟨b, c, v1 ++ vs ++ v3, _, e, h1, ?_, ?_, ?_, setRow_heap w b arr _ e _ h6⟩
  · exact VVs.append.2 ⟨v1 ++ vs, v3, rfl, VVs.append.2 ⟨v1, vs, rfl, VVs.mono hst' (fun _ h => h) _ _ (fun _ _ => rfl) h2, VVs.mono hst' (fun _ h => h) _ _ (fun _ _ => rfl) a1⟩, VVs.mono hst' (fun _ h => h) _ _ (fun _ _ => rfl) h4⟩
  · intro v hv
    rcases List.mem_append.1 hv with hv | hv
    · rcases List.mem_append.1 hv with hv | hv
      · exact (VVs.cells hpre h2).2 v hv
      · exact a3 v hv
    · exact h9 v hv
  · show _ = cellsOf _
    rw [cellsOf_append, cellsOf_append]
end
end Go.AM

namespace Go.AM

section
variable {U : Univ} {O : Out} {P : Program} {S : Nat → Prop} {ι : Lay} {w : World} {rs : List (Nat × AVal U)} {a : Act} {ops : Array Oper} {o : Oper}

def rowCells (n : Nat) (cs : Nat → List Value) : List Value := (List.range n).flatMap cs

theorem rowCells_get {n k : Nat} {cs : Nat → List Value} (h : ∀ i, i < n → (cs i).length = k) {i j : Nat} (hi : i < n) (hj : j < k) : (rowCells n cs)[i * k + j]? = (cs i)[j]? :=
  flatMap_range_get n k cs h i j hi hj

structure RowOk (P : Program) (U : Univ) (T E : TypeId) (t : Ty) (by_ : Nat) : Prop where
  sl : SlOk P U T E t
  info : ∃ i z, P.info? E = some i ∧ i.zero = some z ∧ i.size = t.width U.wd ∧ i.bytes = by_ ∧ z.cells.size = t.width U.wd
  pos : 0 < t.width U.wd

theorem own_of {n wd off len : Nat} {E : TypeId} {t : Ty} {xs : List (t.den U.T)} {fx : Bool} {u : Value} (hwd : wd = t.width U.wd) (hB : BR U O S ι w n (.row E t xs fx)) (hv : VV U O S ι w (.vec n wd off len) u)
    (hoff : off = 0) (hlen : len = xs.length) : ∃ cs : Nat → List Value, (∀ (i : Nat) (h : i < xs.length), Rd U O S w t xs[i] (cs i)) ∧ w.ownsRow 0 E (t.width U.wd) u xs.length (rowCells xs.length cs) ∧
      (∀ b, u.ownBlock = some b → ∃ c, ι n = some (b, c)) := by
  subst hwd hoff hlen
  rcases hv with ⟨h1, _, h2, rfl⟩ | ⟨b, c, o, h1, h2, rfl, h3⟩
  · have hx : xs = [] := List.eq_nil_of_length_eq_zero h2
    subst hx
    exact ⟨fun _ => [], fun i hi => absurd hi (by simp), World.ownsRow_nil w 0 E _, fun b h => by cases h⟩
  · rcases hB with ⟨h4, _⟩ | ⟨b', c', arr, cs, h4, h5, h6, h7, h8, h9, h10, h11⟩
    · rw [h1] at h4; cases h4
    · rw [h1] at h4
      obtain ⟨rfl, rfl⟩ : b = b' ∧ c = c' := by simpa using h4
      have hl : ∀ i, i < xs.length → (cs i).length = t.width U.wd := fun i hi => (h10 i hi).length
      have hrl : (rowCells xs.length cs).length = xs.length * t.width U.wd := flatMap_range_length _ _ _ hl
      have ho : o = 0 := by
        rcases h3 with h3 | h3
        · simpa using h3
        · omega
      · subst ho
        refine ⟨cs, h10, ⟨hrl, .inr ⟨b, c, arr, rfl, Nat.zero_le _, h5, h8, h7, h6, ?_⟩⟩, fun b' hb' => ⟨c, by simp [Value.ownBlock] at hb'; rw [← hb']; exact h1⟩⟩
        apply List.ext_getElem?
        intro k
        by_cases hk : k < xs.length * t.width U.wd
        · rw [List.getElem?_take_of_lt hk, Array.getElem?_toList]
          have hw0 : 0 < t.width U.wd := by
            rcases Nat.eq_zero_or_pos (t.width U.wd) with h | h
            · rw [h] at hk; omega
            · exact h
          have hd := Nat.div_add_mod k (t.width U.wd)
          have hm := Nat.mod_lt k hw0
          have hi : k / t.width U.wd < xs.length := Nat.div_lt_of_lt_mul (by rw [Nat.mul_comm]; exact hk)
          have e : k = k / t.width U.wd * t.width U.wd + k % t.width U.wd := by rw [Nat.mul_comm]; exact hd.symm
          rw [e, h11 _ _ hi hm, rowCells_get hl hi hm]
        · rw [List.getElem?_eq_none (by simp; omega), List.getElem?_eq_none (by omega)]

theorem own_to {n : Nat} {E : TypeId} {t : Ty} {xs : List (t.den U.T)} {u : Value} {cs : Nat → List Value} (hel : ∀ (i : Nat) (h : i < xs.length), Rd U O S w t xs[i] (cs i))
    (hown : w.ownsRow 0 E (t.width U.wd) u xs.length (rowCells xs.length cs)) {ι : Lay}
    (hι : ∀ b c, ι n = some (b, c) ↔ ∃ l, u = .slice (some ⟨b, 0, none⟩) l c) : BR U O S ι w n (.row E t xs false) ∧ VV U O S ι w (.vec n (t.width U.wd) 0 xs.length) u := by
  have hl : ∀ i, i < xs.length → (cs i).length = t.width U.wd := fun i hi => (hel i hi).length
  rcases hown.2 with ⟨rfl, h2⟩ | ⟨g, cap, cur, rfl, _, h3, h4, h5, h6, h7⟩
  · have hn : ι n = none := by
      cases h : ι n with
      | none => rfl
      | some x => obtain ⟨b, c⟩ := x; obtain ⟨l, h'⟩ := (hι b c).1 h; cases h'
    exact ⟨.inl ⟨hn, List.eq_nil_of_length_eq_zero h2, rfl⟩, .inl ⟨hn, rfl, h2, rfl⟩⟩
  · have hn : ι n = some (g, cap) := (hι g cap).2 ⟨_, rfl⟩
    refine ⟨.inr ⟨g, cap, cur, cs, hn, h3, h6, h5, h4, (fun h => by cases h), hel, fun i j hi hj => ?_⟩, .inr ⟨g, cap, 0, hn, by omega, by simp, .inl (by simp)⟩⟩
    have hlt : i * t.width U.wd + j < xs.length * t.width U.wd := by
      have h1 : (i + 1) * t.width U.wd ≤ xs.length * t.width U.wd := Nat.mul_le_mul_right _ (by omega)
      rw [Nat.add_mul] at h1
      omega
    rw [← rowCells_get hl hi hj, ← h7, List.getElem?_take_of_lt hlt, Array.getElem?_toList]

theorem flatMap_same {α β : Type} {l : List α} {f g : α → List β} (h : ∀ x ∈ l, f x = g x) : l.flatMap f = l.flatMap g := by
  induction l with
  | nil => rfl
  | cons x l ih => rw [List.flatMap_cons, List.flatMap_cons, h x List.mem_cons_self, ih fun y hy => h y (List.mem_cons_of_mem _ hy)]

theorem rowCells_append (m n : Nat) (cs ds : Nat → List Value) : rowCells m cs ++ rowCells n ds = rowCells (m + n) fun i => if i < m then cs i else ds (i - m) := by
  unfold rowCells
  rw [List.range_add, List.flatMap_append, List.flatMap_map]
  congr 1
  · exact flatMap_same fun i hi => by rw [if_pos (List.mem_range.1 hi)]
  · refine flatMap_same fun i _ => ?_
    rw [if_neg (by omega)]
    congr 1
    omega

theorem list_cells {t : Ty} {ys : List (t.den U.T)} {u : Value} (hpos : 0 < t.width U.wd) (h : VV U O S ι w (.p (.list t) ys) u) :
    ∃ (ds : Nat → List Value), (∀ (i : Nat) (h : i < ys.length), Rd U O S w t ys[i] (ds i)) ∧
      ((ys = [] ∧ u = .slice none 0 0) ∨ ∃ ad cap, u = .slice (some ad) ys.length cap ∧ ∀ j v, (rowCells ys.length ds)[j]? = some v → w.cell? (ad.add j) = some v) := by
  rcases VV.list_iff.1 h with ⟨rfl, rfl⟩ | ⟨rfl, ad, cap, rfl⟩ | ⟨b, o', cap, cs, rfl, hS, hcap, hel, hcell⟩
  · exact ⟨fun _ => [], fun i hi => absurd hi (by simp), .inl ⟨rfl, rfl⟩⟩
  · exact ⟨fun _ => [], fun i hi => absurd hi (by simp), .inr ⟨ad, cap, rfl, fun j v hj => by simp [rowCells] at hj⟩⟩
  · refine ⟨cs, hel, .inr ⟨⟨b, o', none⟩, cap, rfl, fun j v hj => ?_⟩⟩
    have hl : ∀ i, i < ys.length → (cs i).length = t.width U.wd := fun i hi => (hel i hi).length
    have hlt := (List.getElem?_eq_some_iff.1 hj).1
    have hlen : (rowCells ys.length cs).length = ys.length * t.width U.wd := flatMap_range_length _ _ _ hl
    have hk : j < ys.length * t.width U.wd := by omega
    have hd := Nat.div_add_mod j (t.width U.wd)
    have hm := Nat.mod_lt j hpos
    have hi : j / t.width U.wd < ys.length := Nat.div_lt_of_lt_mul (by rw [Nat.mul_comm]; exact hk)
    have e : j = j / t.width U.wd * t.width U.wd + j % t.width U.wd := by rw [Nat.mul_comm]; exact hd.symm
    rw [Addr.add_lit]
    rw [e] at hj ⊢
    rw [hcell _ _ hi hm, ← rowCells_get hl hi hm]
    exact hj

theorem view_cells {t : Ty} {ys : List (t.den U.T)} {vw : List (Nat × Blk U)} {v : AVal U} {u : Value} (hpos : 0 < t.width U.wd) (hv : View U vw v (.p (.list t) ys)) (hb : ∀ x ∈ vw, BR U O S ι w x.1 x.2)
    (hu : VV U O S ι w v u) : ∃ (ds : Nat → List Value), (∀ (i : Nat) (h : i < ys.length), Rd U O S w t ys[i] (ds i)) ∧
      ((ys = [] ∧ u = .slice none 0 0) ∨ ∃ ad cap, u = .slice (some ad) ys.length cap ∧ ∀ j v, (rowCells ys.length ds)[j]? = some v → w.cell? (ad.add j) = some v) := by
  cases hv with
  | same => exact list_cells hpos hu
  | nilL _ => exact list_cells (ι := ι) hpos (by obtain ⟨rfl, _⟩ := hu; exact ⟨_, .lnil t, rfl⟩)
  | @row n e _ xs fx off len hin hl =>
    have hB := hb _ hin
    obtain ⟨ds, hd, hc⟩ := list_cells hpos ((View.row off len hin hl).ev hb hu)
    rcases hu with ⟨hn, rfl, rfl, rfl⟩ | ⟨b, c, o, hn, hoc, rfl, ho⟩
    · exact ⟨fun _ => [], fun i hi => absurd hi (by simp), .inl ⟨by simp, rfl⟩⟩
    · rcases hB with ⟨h1, _⟩ | ⟨b', c', arr, cs, h1, h2, h3, h4, h5, h6, h7, h8⟩
      · rw [hn] at h1; cases h1
      · have hlen : ((xs.drop off).take len).length = len := by simp; omega
        refine ⟨fun i => cs (off + i), fun i hi => ?_, .inr ⟨⟨b, o, none⟩, c - off, by rw [hlen], fun j v hj => ?_⟩⟩
        · have : ((xs.drop off).take len)[i] = xs[off + i]'(by omega) := by simp
          rw [this]
          exact h7 (off + i) (by omega)
        · rw [hlen] at hj
          rw [hn] at h1
          obtain ⟨rfl, rfl⟩ : b = b' ∧ c = c' := by simpa using h1
          have hl' : ∀ i, i < len → (cs (off + i)).length = t.width U.wd := fun i hi => (h7 (off + i) (by omega)).length
          have hlt := (List.getElem?_eq_some_iff.1 hj).1
          have hlen2 : (rowCells len fun i => cs (off + i)).length = len * t.width U.wd := flatMap_range_length _ _ _ hl'
          have hk : j < len * t.width U.wd := by omega
          have hd' := Nat.div_add_mod j (t.width U.wd)
          have hm := Nat.mod_lt j hpos
          have hi : j / t.width U.wd < len := Nat.div_lt_of_lt_mul (by rw [Nat.mul_comm]; exact hk)
          have e : j = j / t.width U.wd * t.width U.wd + j % t.width U.wd := by rw [Nat.mul_comm]; exact hd'.symm
          have ho' : o = off * t.width U.wd := by
            rcases ho with ho | ho
            · exact ho
            · have h0 : len = 0 := by omega
              rw [h0] at hi
              exact absurd hi (Nat.not_lt_zero _)
          subst ho'
          rw [Addr.add_lit, cell_of_row w b _ arr _ (0, 0) h2]
          rw [e] at hj ⊢
          rw [rowCells_get hl' hi hm] at hj
          rw [← hj, ← h8 (off + j / t.width U.wd) _ (by omega) hm, Nat.add_mul]
          congr 1
          omega

theorem exec_append {ρ : Operand → Value} {x y : Operand} {T T' : TypeId} (ho : o.op = .call { callee := .builtin .append, args := #[x, y], argTypes := #[T, T'] }) :
    execOp ρ o = vOf (Builtin.append_ #[T, T'] o.type #[ρ x, ρ y]) := by rw [exec_builtin ho]; simp [builtin, vOf]

theorem nx_append {s : LSpec U} {d : Nat} {E : TypeId} {t : Ty} {zs : List (t.den U.T)} {w' : World} {u' : Value} {row : Option Nat} {es : Nat → List Value} (hpb : s.pb = [(d, .row E t zs false)]) (hnn : s.nn = [d])
    (hlt : ∀ b, S b → b < w.heap.size) (hg : w.grownBy w' row) (hrow : ∀ b, row = some b → ¬ S b ∧ b < w.heap.size ∧ ∃ n ∈ nm s.cb, ∃ c, ι n = some (b, c))
    (hel : ∀ (i : Nat) (h : i < zs.length), Rd U O S w t zs[i] (es i)) (hown : w'.ownsRow 0 E (t.width U.wd) u' zs.length (rowCells zs.length es))
    (hplace : ∀ b, u'.ownBlock = some b → w.heap.size ≤ b ∨ row = some b) :
    ∃ ι', Nx U O s S ι w S ι' w' ∧ VV U O S ι' w' (.vec d (t.width U.wd) 0 zs.length) u' := by
  have hst : ∀ b, S b → w'.heap[b]? = w.heap[b]? := fun b hb => hg.block b (hlt b hb) fun e => (hrow b e.symm).1 hb
  let ι' : Lay := fun n => if n = d then (match u' with | .slice (some ad) _ c => some (ad.block, c) | _ => none) else ι n
  have hι : ∀ b c, ι' d = some (b, c) ↔ ∃ l, u' = .slice (some ⟨b, 0, none⟩) l c := by
    intro b c
    simp only [ι', if_true]
    rcases hown.2 with ⟨rfl, _⟩ | ⟨g, cap, cur, rfl, _⟩
    · simp
    · simp only [Option.some.injEq, Prod.mk.injEq, Value.slice.injEq, Addr.mk.injEq, and_true]
      constructor
      · rintro ⟨rfl, rfl⟩; exact ⟨_, rfl, rfl, rfl⟩
      · rintro ⟨l, rfl, rfl, rfl⟩; exact ⟨rfl, rfl⟩
  obtain ⟨hB, hV⟩ := own_to (n := d) (fun i hi => (hel i hi).mono hst fun _ h => h) hown hι
  refine ⟨ι', ⟨hg.os, hg.tape, hg.output, hg.size, fun _ h => h, fun _ h => .inl h, fun b h => Nat.lt_of_lt_of_le (hlt b h) hg.size, fun b hb hnot => ?_, fun n hn => ?_, fun x hx => ?_, fun n hn b c hb => ?_, fun n hn m hm hne => ?_⟩, hV⟩
  · refine hg.block b hb fun e => ?_
    obtain ⟨_, _, n, hn, c, hc⟩ := hrow b e.symm
    exact hnot n hn c hc
  · rw [hnn] at hn
    exact if_neg (by simpa using hn)
  · rw [hpb] at hx
    simp at hx; subst hx
    exact hB
  · rw [hpb] at hn
    simp at hn; subst hn
    obtain ⟨l, hl⟩ := (hι b c).1 hb
    have hob : u'.ownBlock = some b := by rw [hl]; rfl
    have hlt' : b < w'.heap.size := (hown.lt b hob).2
    rcases hplace b hob with h | h
    · exact ⟨fun hS => absurd (hlt b hS) (by omega), hlt', .inl h⟩
    · obtain ⟨h1, _, h2⟩ := hrow b h
      exact ⟨h1, hlt', .inr h2⟩
  · rw [hpb] at hn hm
    simp at hn hm
    exact absurd (hn.trans hm.symm) hne

theorem ok_inj {α : Type} {x y : α} {w w' : World} (h : Result.ok x w = Result.ok y w') : x = y ∧ w = w' := by injection h with h1 h2; exact ⟨h1, h2⟩

theorem run_append_place {T ty E : TypeId} {t : Ty} {by_ : Nat} (hT : RowOk P U T E t by_) {v : Value} {n : Nat} {xs : List Value} (hown : w.ownsRow 0 E (t.width U.wd) v n xs)
    (ad : Addr) (m c : Nat) {news : List Value} (hl : news.length = m * t.width U.wd) (hnews : ∀ j u, news[j]? = some u → w.cell? (ad.add j) = some u) (h1 : ∀ u ∈ news, u.oneCell' = true)
    (h63 : n + m ≤ maxLen) (hbytes : (n + m) * by_ ≤ 140737488355328) :
    ∃ v' w', (Builtin.append_ #[T, T] ty #[v, .slice (some ad) m c]).run P w = .ok v' w' ∧ w'.ownsRow 0 E (t.width U.wd) v' (n + m) (xs ++ news) ∧ w.grownBy w' v.ownBlock ∧
      ∀ b, v'.ownBlock = some b → w.heap.size ≤ b ∨ v.ownBlock = some b := by
  obtain ⟨i, z, hi, hz, hs, hby, hzs⟩ := hT.info
  obtain ⟨v', w', hr, ho, hg, hnil⟩ := run_append_own (P := P) w 0 T ty E i z (t.width U.wd) by_ hT.sl.under hi hz hs hby hzs hT.pos v n xs hown ad m c news hl hnews h1 h63 hbytes (Nat.zero_le _)
  refine ⟨v', w', hr, ho, hg, ?_⟩
  rcases hown.2 with ⟨rfl, rfl⟩ | ⟨g, cap, cur, rfl, _, h3, h4, h5, h6, h7⟩
  · by_cases hm : m = 0
    · rw [hnil.2 ⟨rfl, hm⟩]; intro b hb; cases hb
    · have h2 := run_append_nil (P := P) w T ty E i z hT.sl.under hi hz ad m c news (by rw [hs]; exact hl) hnews (by omega) (by unfold maxLen at h63; omega) (by rw [hby]; rw [Nat.zero_add] at hbytes; omega)
      obtain ⟨rfl, _⟩ := ok_inj (hr.symm.trans h2)
      intro b hb
      simp [Value.ownBlock] at hb
      exact .inl (by omega)
  · by_cases hroom : n + m ≤ cap
    · obtain ⟨w'', h2, _⟩ := run_append_fits (P := P) (ty := ty) (w := w) 0 T E i (t.width U.wd) hT.sl.under hi hs g n cap xs hown ad m c news hl hnews h1 hroom
      obtain ⟨rfl, _⟩ := ok_inj (hr.symm.trans h2)
      exact fun b hb => .inr hb
    · have h2 := run_append_grow (P := P) w T ty E i z hT.sl.under hi hz ⟨g, 0, none⟩ n cap xs (by rw [hs]; exact hown.1) (hown.cells (g := g) rfl) ad m c news (by rw [hs]; exact hl) hnews (by omega)
        (by unfold maxLen at h63; omega) (growslice_fits (by omega) (by rw [hby]; exact hbytes))
      obtain ⟨rfl, _⟩ := ok_inj (hr.symm.trans h2)
      intro b hb
      simp [Value.ownBlock] at hb
      exact .inl (by omega)

def LIM : Nat := 4294967296

theorem sok_append {T E : TypeId} {t : Ty} {by_ n d : Nat} {xs ys : List (t.den U.T)} {fx : Bool} {x y : Operand} {v : AVal U} {vw : List (Nat × Blk U)} (hg : o.guard = none) (_ : o.dst = some d)
    (ho : o.op = .call { callee := .builtin .append, args := #[x, y], argTypes := #[T, T] }) (hT : RowOk P U T E t by_) (hby : by_ ≤ 32768)
    (hx : Opd U rs x (.vec n (t.width U.wd) 0 xs.length)) (hy : Opd U rs y v) (hv : View U vw v (.p (.list t) ys)) (_ : n ∉ nm vw) (hlim : xs.length + ys.length ≤ LIM) :
    SOk U O P ops o { rs := rs, ro := vw, cb := [(n, .row E t xs fx)], ws := .vec d (t.width U.wd) 0 (xs.length + ys.length), pb := [(d, .row E t (xs ++ ys) false)], nn := [d] } := by
  intro S ι w a hlt hgl hrs hro hcb hown K Q hK
  have hB := hcb _ List.mem_cons_self
  obtain ⟨cs, hel, hrow, hplace⟩ := own_of rfl hB (hx.ev hrs) rfl rfl
  obtain ⟨ds, hdl, hys⟩ := view_cells hT.pos hv hro (hy.ev hrs)
  have hsz : (xs.length + ys.length) * by_ ≤ 140737488355328 := by
    have h1 : (xs.length + ys.length) * by_ ≤ 4294967296 * 32768 := Nat.mul_le_mul (by unfold LIM at hlim; exact hlim) hby
    omega
  have h63 : xs.length + ys.length ≤ maxLen := by unfold LIM at hlim; unfold maxLen; omega
  have hnewl : (rowCells ys.length ds).length = ys.length * t.width U.wd := flatMap_range_length _ _ _ fun i hi => (hdl i hi).length
  have hone : ∀ u ∈ rowCells ys.length ds, u.oneCell' = true := fun u hu => by
    obtain ⟨i, hi, hu⟩ := List.mem_flatMap.1 hu
    exact (hdl i (List.mem_range.1 hi)).one u hu
  obtain ⟨v', w', hr, ho', hg', hp⟩ : ∃ v' w', (Builtin.append_ #[T, T] o.type #[a.eval x, a.eval y]).run P w = .ok v' w' ∧
      w'.ownsRow 0 E (t.width U.wd) v' (xs.length + ys.length) (rowCells xs.length cs ++ rowCells ys.length ds) ∧ w.grownBy w' (a.eval x).ownBlock ∧ ∀ b, v'.ownBlock = some b → w.heap.size ≤ b ∨ (a.eval x).ownBlock = some b := by
    rcases hys with ⟨rfl, hu⟩ | ⟨ad, cap, hu, hc⟩
    · obtain ⟨i, z, hi, hz, hs, hb', hzs⟩ := hT.info
      rw [hu]
      refine ⟨_, w, run_append_owned_none (P := P) (ty := o.type) (w := w) 0 T E i (t.width U.wd) hT.sl.under hi _ _ _ hrow, ?_, ⟨rfl, rfl, rfl, Nat.le_refl _, fun _ _ _ => rfl⟩, fun b hb => .inr hb⟩
      simpa [rowCells] using hrow
    · rw [hu]
      exact run_append_place hT hrow ad ys.length cap hnewl hc hone h63 hsz
  have hzl : (xs ++ ys).length = xs.length + ys.length := List.length_append
  have hels : ∀ (i : Nat) (h : i < (xs ++ ys).length), Rd U O S w t (xs ++ ys)[i] (if i < xs.length then cs i else ds (i - xs.length)) := fun i hi => by
    by_cases h : i < xs.length
    · rw [if_pos h, List.getElem_append_left h]; exact hel i h
    · rw [if_neg h, List.getElem_append_right (by omega)]
      exact hdl (i - xs.length) (by omega)
  rw [rowCells_append, ← hzl] at ho'
  obtain ⟨ι', hN, hV⟩ := nx_append (s := { rs := rs, ro := vw, cb := [(n, .row E t xs fx)], ws := .vec d (t.width U.wd) 0 (xs.length + ys.length), pb := [(d, .row E t (xs ++ ys) false)], nn := [d] })
    (ι := ι) rfl rfl hlt hg' (fun b hb => by
      obtain ⟨c, hc⟩ := hplace b hb
      have := hown.out n (by simp) b c hc
      exact ⟨this.1, this.2, n, by simp, c, hc⟩) hels ho' hp
  refine opWp_plain hg ?_
  unfold Oper.wp
  rw [exec_append ho, run_vOf hr]
  rw [hzl] at hV
  exact hK v' S ι' w' hN hV

theorem sok_appendN {T E : TypeId} {t : Ty} {by_ d : Nat} {ys : List (t.den U.T)} {x y : Operand} {v : AVal U} {vw : List (Nat × Blk U)} (hg : o.guard = none) (_ : o.dst = some d)
    (ho : o.op = .call { callee := .builtin .append, args := #[x, y], argTypes := #[T, T] }) (hT : RowOk P U T E t by_) (hby : by_ ≤ 32768)
    (hx : Opd U rs x (.lit (.slice none 0 0))) (hy : Opd U rs y v) (hv : View U vw v (.p (.list t) ys)) (hlim : ys.length ≤ LIM) :
    SOk U O P ops o { rs := rs, ro := vw, ws := .vec d (t.width U.wd) 0 ys.length, pb := [(d, .row E t ys false)], nn := [d] } := by
  intro S ι w a hlt hgl hrs hro hcb hown K Q hK
  have hx0 : a.eval x = .slice none 0 0 := (hx.ev hrs).1
  obtain ⟨ds, hdl, hys⟩ := view_cells hT.pos hv hro (hy.ev hrs)
  have hsz : ys.length * by_ ≤ 140737488355328 := by
    have h1 : ys.length * by_ ≤ 4294967296 * 32768 := Nat.mul_le_mul (by unfold LIM at hlim; exact hlim) hby
    omega
  have h63 : ys.length ≤ maxLen := by unfold LIM at hlim; unfold maxLen; omega
  have hnewl : (rowCells ys.length ds).length = ys.length * t.width U.wd := flatMap_range_length _ _ _ fun i hi => (hdl i hi).length
  have hone : ∀ u ∈ rowCells ys.length ds, u.oneCell' = true := fun u hu => by
    obtain ⟨i, hi, hu⟩ := List.mem_flatMap.1 hu
    exact (hdl i (List.mem_range.1 hi)).one u hu
  have hrow := World.ownsRow_nil w 0 E (t.width U.wd)
  obtain ⟨v', w', hr, ho', hg', hp⟩ : ∃ v' w', (Builtin.append_ #[T, T] o.type #[a.eval x, a.eval y]).run P w = .ok v' w' ∧
      w'.ownsRow 0 E (t.width U.wd) v' ys.length (rowCells ys.length ds) ∧ w.grownBy w' none ∧ ∀ b, v'.ownBlock = some b → w.heap.size ≤ b := by
    rw [hx0]
    rcases hys with ⟨rfl, hu⟩ | ⟨ad, cap, hu, hc⟩
    · obtain ⟨i, z, hi, hz, hs, hb', hzs⟩ := hT.info
      rw [hu]
      refine ⟨_, w, run_append_owned_none (P := P) (ty := o.type) (w := w) 0 T E i (t.width U.wd) hT.sl.under hi _ _ _ hrow, ?_, ⟨rfl, rfl, rfl, Nat.le_refl _, fun _ _ _ => rfl⟩, fun b hb => by cases hb⟩
      simpa [rowCells] using hrow
    · rw [hu]
      obtain ⟨v', w', h1, h2, h3, h4⟩ := run_append_place (ty := o.type) hT hrow ad ys.length cap hnewl hc hone (by simpa using h63) (by simpa using hsz)
      exact ⟨v', w', h1, by simpa using h2, h3, fun b hb => (h4 b hb).elim id fun h => by cases h⟩
  obtain ⟨ι', hN, hV⟩ := nx_append (s := { rs := rs, ro := vw, ws := .vec d (t.width U.wd) 0 ys.length, pb := [(d, .row E t ys false)], nn := [d] }) (ι := ι) rfl rfl hlt hg' (fun b hb => by cases hb) hdl ho' (fun b hb => .inl (hp b hb))
  refine opWp_plain hg ?_
  unfold Oper.wp
  rw [exec_append ho, run_vOf hr]
  exact hK v' S ι' w' hN hV
end
end Go.AM

namespace Go.AM

section
variable {U : Univ} {O : Out} {P : Program} {S : Nat → Prop} {ι : Lay} {w : World} {rs : List (Nat × AVal U)} {a : Act} {ops : Array Oper} {o : Oper}

theorem fold_cells (off : Nat) : ∀ (l : List Value) (k : Nat) (arr : Array Value), off + k + l.length ≤ arr.size →
    ((l.zipIdx k).foldl (fun cs x => cs.setIfInBounds (off + x.2) x.1) arr).toList = arr.toList.take (off + k) ++ l ++ arr.toList.drop (off + k + l.length)
  | [], k, arr, _ => by simp
  | c :: l, k, arr, h => by
    rw [List.zipIdx_cons, List.foldl_cons, fold_cells off l (k + 1) _ (by simp at h ⊢; omega)]
    simp only [Array.toList_setIfInBounds]
    have e := list_seg_step arr.toList (off + k) c l (by simp at h ⊢; omega)
    simpa [Nat.add_assoc] using e

theorem fold_cells' (off : Nat) (v : Array Value) (arr : Array Value) (h : off + v.size ≤ arr.size) :
    (v.zipIdx.foldl (fun cs (x : Value × Nat) => cs.setIfInBounds (off + x.2) x.1) arr).toList = arr.toList.take off ++ v.toList ++ arr.toList.drop (off + v.size) := by
  have := fold_cells off v.toList 0 arr (by simpa using h)
  rw [← Array.foldl_toList, Array.toList_zipIdx]
  simpa using this

theorem fill_all (place : Nat → Option (Nat × Nat)) : ∀ (l : List (Nat × Value)) (off : Nat) (arr : Array Value),
    (∀ (done rest : List (Nat × Value)) (x : Nat × Value), l = done ++ x :: rest → place x.1 = some (off + (done.map fun y => y.2.cells.size).sum, x.2.cells.size)) →
    off + (l.map fun y => y.2.cells.size).sum ≤ arr.size →
    ∃ out, Instr.fill place arr l = some out ∧ out.size = arr.size ∧ out.toList = arr.toList.take off ++ cellsOf (l.map (·.2)) ++ arr.toList.drop (off + (l.map fun y => y.2.cells.size).sum)
  | [], off, arr, _, _ => ⟨arr, rfl, rfl, by simp [cellsOf]⟩
  | (i, v) :: l, off, arr, hp, hs => by
    have h0 := hp [] l (i, v) rfl
    simp only [List.map_nil, List.sum_nil, Nat.add_zero] at h0
    simp only [List.map_cons, List.sum_cons] at hs
    have hfit : off + v.cells.size ≤ arr.size := by omega
    have harr := fold_cells' off v.cells arr hfit
    generalize harr' : v.cells.zipIdx.foldl (fun cs (x : Value × Nat) => cs.setIfInBounds (off + x.2) x.1) arr = arr' at harr
    have hsz : arr'.size = arr.size := by rw [← Array.length_toList, harr]; simp; omega
    obtain ⟨out, h1, h2, h3⟩ := fill_all place l (off + v.cells.size) arr' (fun done rest x hl => by
      have := hp ((i, v) :: done) rest x (by rw [hl]; rfl)
      simpa [Nat.add_assoc] using this) (by rw [hsz]; omega)
    refine ⟨out, ?_, by rw [h2, hsz], ?_⟩
    · unfold Instr.fill
      rw [h0]
      simp only [ne_eq, not_true_eq_false]
      rw [if_neg (by simp; omega)]
      rw [← h1, ← harr']
    · rw [h3, harr]
      simp only [List.map_cons, List.sum_cons, cellsOf, List.flatMap_cons]
      have hl1 : (arr.toList.take off ++ v.cells.toList).length = off + v.cells.size := by simp; omega
      have e1 : (arr.toList.take off ++ v.cells.toList ++ arr.toList.drop (off + v.cells.size)).take (off + v.cells.size) = arr.toList.take off ++ v.cells.toList := List.take_left' hl1
      have e2 : ∀ n, (arr.toList.take off ++ v.cells.toList ++ arr.toList.drop (off + v.cells.size)).drop (off + v.cells.size + n) = arr.toList.drop (off + (v.cells.size + n)) := fun n => by
        rw [← List.drop_drop, List.drop_left' hl1, List.drop_drop, Nat.add_assoc]
      rw [e1, e2]
      simp [List.append_assoc]

def partsOf (vs : List Operand) : List (Nat × Operand) := vs.zipIdx.map fun x => (x.2, x.1)

theorem exec_buildSlice {ρ : Operand → Value} {T : TypeId} {n : Nat} {ps : Array (Nat × Operand)} (ho : o.op = .buildSlice T n ps) :
    execOp ρ o = vOf (Instr.buildSlice T n (ps.map fun (i, x) => (i, ρ x))) := by unfold execOp; rw [ho]; rfl

inductive OpdsP (U : Univ) (rs : List (Nat × AVal U)) (t : Ty) : List Operand → List (t.den U.T) → Prop
  | nil : OpdsP U rs t [] []
  | cons {x : Operand} {v : t.den U.T} {xs : List Operand} {vs : List (t.den U.T)} : Opd U rs x (.p t v) → OpdsP U rs t xs vs → OpdsP U rs t (x :: xs) (v :: vs)

theorem OpdsP.ev {t : Ty} {xs : List Operand} {vs : List (t.den U.T)} (h : OpdsP U rs t xs vs) (hr : ∀ x ∈ rs, VV U O S ι w x.2 (a.tmps.getD x.1 undef)) :
    xs.length = vs.length ∧ ∃ cs : Nat → List Value, (∀ (i : Nat) (hi : i < vs.length), Rd U O S w t vs[i] (cs i)) ∧ ∀ i x, xs[i]? = some x → a.eval x = mkV t.isAgg (cs i) := by
  induction h with
  | nil => exact ⟨rfl, fun _ => [], fun i hi => absurd hi (by simp), fun i x h => by simp at h⟩
  | @cons x v xs vs h1 _ ih =>
    obtain ⟨hl, cs, h2, h3⟩ := ih
    obtain ⟨c, h4, h5⟩ := h1.ev hr
    refine ⟨by simp [hl], fun i => match i with | 0 => c | i + 1 => cs i, fun i hi => ?_, fun i y hy => ?_⟩
    · cases i with
      | zero => exact h4
      | succ i => exact h2 i (by simpa using hi)
    · cases i with
      | zero => simp at hy; subst hy; exact h5
      | succ i => exact h3 i y (by simpa using hy)

theorem sok_buildSlice {T E : TypeId} {t : Ty} {by_ d : Nat} {ps : Array (Nat × Operand)} {ys : List Operand} {xs : List (t.den U.T)} (hg : o.guard = none) (_ : o.dst = some d)
    (ho : o.op = .buildSlice T ys.length ps) (hps : ps.toList = partsOf ys) (hT : RowOk P U T E t by_) (hx : OpdsP U rs t ys xs) (hlim : ys.length * t.width U.wd ≤ 16777216) :
    SOk U O P ops o { rs := rs, ws := .vec d (t.width U.wd) 0 xs.length, pb := [(d, .row E t xs true)], nn := [d] } := by
  intro S ι w a hlt hgl hrs hro hcb hown K Q hK
  obtain ⟨hlen, cs, hel, hev⟩ := hx.ev hrs
  obtain ⟨i, z, hi, hz, hs, hby, hzs⟩ := hT.info
  have hpl : (ps.map fun (i, x) => (i, a.eval x)).toList = ys.zipIdx.map fun x => (x.2, a.eval x.1) := by
    rw [Array.toList_map, hps, partsOf, List.map_map]; rfl
  have hval : ∀ (k : Nat) (x : Nat × Value), (ys.zipIdx.map fun x => (x.2, a.eval x.1))[k]? = some x → x.1 = k ∧ k < xs.length ∧ x.2.cells.toList = cs k ∧ x.2.cells.size = t.width U.wd := by
    intro k x hk
    rw [List.getElem?_map] at hk
    cases hz : ys.zipIdx[k]? with
    | none => rw [hz] at hk; cases hk
    | some y =>
      rw [hz] at hk
      simp only [Option.map_some, Option.some.injEq] at hk
      rw [List.getElem?_zipIdx] at hz
      cases hy : ys[k]? with
      | none => rw [hy] at hz; cases hz
      | some y' =>
        rw [hy] at hz
        simp only [Option.map_some, Option.some.injEq, Nat.zero_add] at hz
        subst hz hk
        have hkl : k < xs.length := by rw [← hlen]; exact (List.getElem?_eq_some_iff.1 hy).1
        refine ⟨rfl, hkl, ?_, ?_⟩
        · rw [hev k y' hy]; exact (hel k hkl).cells
        · rw [hev k y' hy, ← Array.length_toList, (hel k hkl).cells]; exact (hel k hkl).length
  have hsum : ∀ l : List (Nat × Value), (∀ y ∈ l, y.2.cells.size = t.width U.wd) → (l.map fun y => y.2.cells.size).sum = l.length * t.width U.wd := by
    intro l
    induction l with
    | nil => intro _; simp
    | cons y l ih =>
      intro h
      rw [List.map_cons, List.sum_cons, h y List.mem_cons_self, ih fun z hz => h z (List.mem_cons_of_mem _ hz), List.length_cons, Nat.add_mul]
      omega
  have hall : ∀ y ∈ ys.zipIdx.map (fun x => (x.2, a.eval x.1)), y.2.cells.size = t.width U.wd := fun y hy => by
    obtain ⟨k, hk⟩ := List.mem_iff_getElem?.1 hy
    exact (hval k y hk).2.2.2
  have hll : (ys.zipIdx.map fun x => (x.2, a.eval x.1)).length = xs.length := by simp [hlen]
  let arr : Array Value := (Array.range (ys.length * t.width U.wd)).map fun j => (if ys.length * t.width U.wd = 0 then #[] else z.cells)[j % (if ys.length * t.width U.wd = 0 then #[] else z.cells).size]!
  have harr : arr.size = xs.length * t.width U.wd := by simp [arr, hlen]
  obtain ⟨out, h1, h2, h3⟩ := fill_all (fun i => some (i * t.width U.wd, t.width U.wd)) (ys.zipIdx.map fun x => (x.2, a.eval x.1)) 0 arr (fun done rest x hl => by
    have hk : (ys.zipIdx.map fun x => (x.2, a.eval x.1))[done.length]? = some x := by rw [hl]; simp
    obtain ⟨e1, _, _, e2⟩ := hval _ x hk
    rw [e1, e2, hsum done fun y hy => hall y (by rw [hl]; exact List.mem_append.2 (.inl hy)), Nat.zero_add]) (by rw [hsum _ hall, hll, harr]; omega)
  have hout : out.toList = rowCells xs.length cs := by
    rw [h3, hsum _ hall, hll, Nat.zero_add, List.take_zero, List.nil_append, List.drop_eq_nil_of_le (by simp [harr]), List.append_nil]
    unfold cellsOf rowCells
    rw [List.flatMap_map]
    have hr : (ys.zipIdx.map fun x => (x.2, a.eval x.1)) = (List.range xs.length).map fun k => (k, (ys.zipIdx.map fun x => (x.2, a.eval x.1)).getD k default |>.2) := by
      apply List.ext_getElem?
      intro k
      rw [List.getElem?_map (l := List.range _)]
      by_cases hk : k < xs.length
      · rw [List.getElem?_range hk, List.getElem?_eq_getElem (by rw [hll]; exact hk)]
        have := hval k _ (List.getElem?_eq_getElem (by rw [hll]; exact hk))
        simp only [Option.map_some, Option.some.injEq]
        rw [List.getD_eq_getElem?_getD, List.getElem?_eq_getElem (by rw [hll]; exact hk), Option.getD_some]
        exact Prod.ext this.1 rfl
      · rw [List.getElem?_eq_none (by rw [hll]; omega), List.getElem?_eq_none (by simp; omega)]; rfl
    rw [hr, List.flatMap_map]
    refine flatMap_same fun k hk => ?_
    have hk := List.mem_range.1 hk
    have := hval k _ (List.getElem?_eq_getElem (by rw [hll]; exact hk))
    rw [List.getD_eq_getElem?_getD, List.getElem?_eq_getElem (by rw [hll]; exact hk), Option.getD_some]
    exact this.2.2.1
  have hrun : (Instr.buildSlice T ys.length (ps.map fun (i, x) => (i, a.eval x))).run P w = .ok (.slice (some ⟨w.heap.size, 0, none⟩) ys.length ys.length) (w.alloc (.cells out E)) := by
    have hn : ¬ ys.length * t.width U.wd > 2 ^ 24 := by omega
    have h1' : Instr.fill (fun i => some (i * t.width U.wd, t.width U.wd)) ((Array.range (ys.length * t.width U.wd)).map fun j => (if ys.length * t.width U.wd = 0 then #[] else z.cells)[j % (if ys.length * t.width U.wd = 0 then #[] else z.cells).size]!)
      (ys.zipIdx.map fun x => (x.2, a.eval x.1)) = some out := h1
    have hzr : (zeroValue E).run P w = .ok z w := by simp [zeroValue, typeInfo, hi, hz]
    unfold Instr.buildSlice
    rw [Sem.run_bind, run_underlying hT.sl.under]
    simp only [Result.andThen_ok]
    rw [Sem.run_bind, run_sizeOf hT.sl.el]
    simp only [Result.andThen_ok, if_neg hn]
    by_cases h0 : ys.length * t.width U.wd = 0
    · simp only [if_pos h0] at h1' ⊢
      rw [Sem.run_bind, Sem.run_pure]
      simp only [Result.andThen_ok, hpl, h1']
      rfl
    · simp only [if_neg h0] at h1' ⊢
      rw [Sem.run_bind, hzr]
      simp only [Result.andThen_ok]
      rw [Sem.run_bind, Sem.run_pure]
      simp only [Result.andThen_ok, hpl, h1']
      rfl
  refine opWp_plain hg ?_
  unfold Oper.wp
  rw [exec_buildSlice ho, run_vOf hrun, hlen]
  have hcl : ∀ i, i < xs.length → (cs i).length = t.width U.wd := fun i hi => (hel i hi).length
  have hxl : xs.length ≤ maxLen := by
    have : xs.length ≤ xs.length * t.width U.wd := Nat.le_mul_of_pos_right _ hT.pos
    rw [hlen] at hlim
    unfold maxLen; omega
  refine hK _ S _ _ (Nx.alloc (s := { rs := rs, ws := .vec d (t.width U.wd) 0 xs.length, pb := [(d, .row E t xs true)], nn := [d] }) (.cells out E) rfl rfl rfl hlt xs.length ?_) (.inr ⟨w.heap.size, xs.length, 0, by simp, by omega, by simp, .inl (by simp)⟩)
  refine .inr ⟨w.heap.size, xs.length, out, cs, by simp, heap_alloc_new w _, by rw [h2, harr], hxl, Nat.le_refl _, fun _ => rfl, fun i hi => (hel i hi).mono (fun b hb => heap_alloc_old w _ b (hlt b hb)) fun _ h => h, fun i j hi hj => ?_⟩
  rw [← Array.getElem?_toList, hout]
  exact rowCells_get hcl hi hj

theorem sok_indexV {T E : TypeId} {t : Ty} {n off len : Nat} {x y : Operand} {k : IntKind} {i : Int} (hg : o.guard = none) (ho : o.op = .indexAddr T x y) (ht : SlOk P U T E t)
    (hx : Opd U rs x (.vec n (t.width U.wd) off len)) (hy : Opd U rs y (.p (.int k) i)) (hi : 0 ≤ i ∧ i < (len : Int)) : SOk U O P ops o { rs := rs, ws := .eloc n (t.width U.wd) (off + i.toNat) 0 } :=
  sok_v hg _ (fun _ => exec_indexAddr ho) fun S ι w a hrs _ => by
    rcases hx.ev hrs with ⟨_, _, rfl, _⟩ | ⟨b, c, o', hn, hoc, hv, hor⟩
    · omega
    · have ho' : o' = off * t.width U.wd := by
        rcases hor with h | h
        · exact h
        · omega
      refine ⟨.pointer (some ⟨b, o' + i.toNat * t.width U.wd, none⟩), ?_, b, c, hn, ?_⟩
      · rw [hv, VV.int_iff.1 (hy.ev hrs)]
        simp only [Instr.indexAt, asIntOf, Sem.run_bind, Sem.run_pure, Result.andThen_ok, run_underlying ht.under, if_pos hi, run_sizeOf ht.el, Addr.add_lit]
      · rw [ho', Nat.add_mul]; simp

theorem sok_loadE {T E : TypeId} {t t' : Ty} {n i off : Nat} {xs : List (t.den U.T)} {fx : Bool} {x : Operand} {e : t.den U.T} {Z : t'.den U.T} (hg : o.guard = none) (ho : o.op = .load T x) (ht : TyOk P U T t')
    (hx : Opd U rs x (.eloc n (t.width U.wd) i off)) (he : xs[i]? = some e) (hc : Comp U t e off t' Z) : SOk U O P ops o { rs := rs, ro := [(n, .row E t xs fx)], ws := .p t' Z } :=
  sok_v hg _ (fun _ => exec_load ho) fun S ι w a hrs hro => by
    obtain ⟨b, c, hn, hv⟩ := hx.ev hrs
    obtain ⟨hi, he⟩ := List.getElem?_eq_some_iff.1 he
    rcases hro _ List.mem_cons_self with ⟨h1, _⟩ | ⟨b', c', arr, cs, h1, h2, h3, h4, h5, h6, h7, h8⟩
    · rw [hn] at h1; cases h1
    · rw [hn] at h1
      obtain ⟨rfl, rfl⟩ : b = b' ∧ c = c' := by simpa using h1
      obtain ⟨cs', hr', hle, hget⟩ := hc.get (he ▸ h7 i hi)
      refine ⟨_, ?_, cs', hr', rfl⟩
      rw [hv]
      refine run_loadAt ht hr'.length fun j hj => ?_
      rw [cell_of_row w b _ arr _ (0, 0) h2, ← hget j hj, ← h8 i (off + j) hi (by omega), Nat.add_assoc]

theorem sok_fieldB {T F : TypeId} {f off n b0 : Nat} {t : Ty} {x : Operand} (hg : o.guard = none) (ho : o.op = .fieldAddr T x f) (hf : FdOk P U T f off F t) (hw : t.width U.wd ≠ 0) (hx : Opd U rs x (.loc n b0)) :
    SOk U O P ops o { rs := rs, ws := .loc n (b0 + off) } :=
  sok_v hg _ (fun _ => exec_fieldAddr ho) fun S ι w a hrs _ => by
    obtain ⟨b, c, hn, hv⟩ := hx.ev hrs
    obtain ⟨fs, fd, h1, h2, h3, h4⟩ := hf.h
    refine ⟨.pointer (some ⟨b, b0 + off, none⟩), ?_, b, c, hn, rfl⟩
    rw [hv]
    simp only [Instr.fieldAt, Instr.sureAddr, Sem.run_bind, run_underlying h1, Result.andThen_ok, h2, Sem.run_pure, run_fieldPlace hf.ty hw b b0 fd h4, h3]

theorem sok_fieldE {T F : TypeId} {f off n wd i b0 : Nat} {t : Ty} {x : Operand} (hg : o.guard = none) (ho : o.op = .fieldAddr T x f) (hf : FdOk P U T f off F t) (hw : t.width U.wd ≠ 0) (hx : Opd U rs x (.eloc n wd i b0)) :
    SOk U O P ops o { rs := rs, ws := .eloc n wd i (b0 + off) } :=
  sok_v hg _ (fun _ => exec_fieldAddr ho) fun S ι w a hrs _ => by
    obtain ⟨b, c, hn, hv⟩ := hx.ev hrs
    obtain ⟨fs, fd, h1, h2, h3, h4⟩ := hf.h
    refine ⟨.pointer (some ⟨b, i * wd + b0 + off, none⟩), ?_, b, c, hn, by rw [Nat.add_assoc]⟩
    rw [hv]
    simp only [Instr.fieldAt, Instr.sureAddr, Sem.run_bind, run_underlying h1, Result.andThen_ok, h2, Sem.run_pure, run_fieldPlace hf.ty hw b _ fd h4, h3]

theorem sok_sliceV {T E : TypeId} {t : Ty} {n off len : Nat} {xs : List (t.den U.T)} {fx : Bool} {x : Operand} {lo hi : Option Operand} {l h : Int} (hg : o.guard = none) (ho : o.op = .slice T x lo hi none)
    (ht : SlOk P U T E t) (hx : Opd U rs x (.vec n (t.width U.wd) off len)) (hl : Bd U rs 0 lo l) (hh : Bd U rs (len : Int) hi h) (h0 : 0 ≤ l) (h1 : l ≤ h) (h2 : off + h.toNat ≤ xs.length) :
    SOk U O P ops o { rs := rs, ro := [(n, .row E t xs fx)], ws := .vec n (t.width U.wd) (off + l.toNat) (h.toNat - l.toNat) } :=
  sok_v hg _ (fun _ => exec_slice ho) fun S ι w a hrs hro => by
    have hB := hro _ List.mem_cons_self
    rcases hx.ev hrs with ⟨hn, rfl, rfl, hv⟩ | ⟨b, c, o', hn, hoc, hv, hor⟩
    · rcases hB with ⟨_, rfl, _⟩ | ⟨b', c', arr, cs, h3, _⟩
      · have hl0 : l.toNat = 0 := by simp at h2; omega
        have hh0 : h.toNat = 0 := by simp at h2; omega
        have hsb := run_sliceBounds (P := P) true 0 0 hl hh hrs h0 h1 (by omega) w
        refine ⟨.slice none 0 0, ?_, .inl ⟨hn, by omega, by omega, rfl⟩⟩
        rw [hv]
        simp only [Instr.sliceAt, Instr.slice, Sem.run_bind, Result.andThen_ok, run_underlying ht.under, Option.map_none, hsb, run_sizeOf ht.el, Sem.run_pure, hl0, hh0]
        rfl
      · rw [hn] at h3; cases h3
    · rcases hB with ⟨h3, _⟩ | ⟨b', c', arr, cs, h3, _, _, _, h5, _⟩
      · rw [hn] at h3; cases h3
      · rw [hn] at h3
        obtain ⟨rfl, rfl⟩ : b = b' ∧ c = c' := by simpa using h3
        have hsb := run_sliceBounds (P := P) true len (c - off) hl hh hrs h0 h1 (by omega) w
        refine ⟨.slice (if c - off = l.toNat then some ⟨b, o', none⟩ else some ⟨b, o' + l.toNat * t.width U.wd, none⟩) (h.toNat - l.toNat) (c - off - l.toNat), ?_, ?_⟩
        · rw [hv]
          simp only [Instr.sliceAt, Instr.slice, Sem.run_bind, Result.andThen_ok, run_underlying ht.under, Option.map_none, hsb, run_sizeOf ht.el, Sem.run_pure, Option.map_some, Addr.add_lit]
        · by_cases e : c - off = l.toNat
          · rw [if_pos e]
            refine .inr ⟨b, c, o', hn, by omega, by rw [Nat.sub_sub], ?_⟩
            by_cases e0 : l.toNat = 0
            · rcases hor with h | ⟨h, h'⟩
              · exact .inl (by rw [e0, Nat.add_zero]; exact h)
              · exact .inr ⟨by omega, by omega⟩
            · exact .inr ⟨by omega, by omega⟩
          · rw [if_neg e]
            have ho' : o' = off * t.width U.wd := by
              rcases hor with h | h
              · exact h
              · omega
            exact .inr ⟨b, c, _, hn, by omega, by rw [Nat.sub_sub], .inl (by rw [ho', Nat.add_mul])⟩
end
end Go.AM

namespace Go.AM
open Go.WideShapes Go.ChangeShapes

inductive Wf (U : Univ) : (t : Ty) → t.den U.T → Prop
  | bool (b : Bool) : Wf U .bool b
  | int (k : IntKind) (n : Int) (h : (Lit.int k n).wf = true) : Wf U (.int k) n
  | str (s : List UInt8) (h : s.length ≤ maxLen) : Wf U .str s
  | unit : Wf U .unit ()
  | pair {a b : Ty} {x : a.den U.T} {y : b.den U.T} : Wf U a x → Wf U b y → Wf U (.pair a b) (x, y)
  | named {n : Nat} {x : U.T n} : Wf U (U.body n) (U.out n x) → Wf U (.named n) x
  | list {t : Ty} (xs : List (t.den U.T)) (hl : xs.length ≤ maxLen) (h : ∀ x ∈ xs, Wf U t x) : Wf U (.list t) xs
  | arr {n : Nat} {t : Ty} (xs : List (t.den U.T)) (hl : xs.length = n) (h : ∀ x ∈ xs, Wf U t x) : Wf U (.arr n t) xs

def FieldsOk (P : Program) (U : Univ) (tab : TypeId → Option Ty) : List Field → Nat → Ty → Prop
  | [], _, t => t = .unit
  | f :: fs, off, t => ∃ a b, t = .pair a b ∧ f.offset = off ∧ tab f.type = some a ∧ P.cellsOf f.type = a.width U.wd ∧ FieldsOk P U tab fs (off + a.width U.wd) b

def TabAt (P : Program) (U : Univ) (tab : TypeId → Option Ty) (T : TypeId) : Ty → Prop
  | .bool => P.underlying T = some .bool
  | .int k => P.underlying T = some (.int k)
  | .str => P.underlying T = some .string
  | .list t => ∃ E, P.underlying T = some (.slice E) ∧ tab E = some t ∧ P.cellsOf E = t.width U.wd ∧ 0 < t.width U.wd
  | .arr n t => ∃ E, P.underlying T = some (.array n E) ∧ tab E = some t ∧ P.cellsOf E = t.width U.wd ∧ P.cellsOf T = n * t.width U.wd
  | .named n => ∃ fs, P.underlying T = some (.struct fs) ∧ P.cellsOf T = U.wd n ∧ FieldsOk P U tab fs.toList 0 (U.body n)
  | _ => False

def TabOk (P : Program) (U : Univ) (tab : TypeId → Option Ty) : Prop := ∀ T t, tab T = some t → TabAt P U tab T t

section
variable {U : Univ} {O : Out} {P : Program} {H : Type} {enc : TypeId × Value → H} {W : World} {base : Nat} {sp : Nat → Bool} {held : Bool} {tab : TypeId → Option Ty}

theorem mapM_some {α β : Type} {f : α → Option β} : ∀ {l : List α} {r : List β}, l.mapM f = some r → r.length = l.length ∧ ∀ (i : Nat) (x : α), l[i]? = some x → ∃ y, r[i]? = some y ∧ f x = some y
  | [], r, h => by simp at h; subst h; exact ⟨rfl, fun i x h => by simp at h⟩
  | a :: l, r, h => by
    rw [List.mapM_cons] at h
    simp only [Option.bind_eq_bind, Option.bind_eq_some_iff, Option.pure_def, Option.some.injEq] at h
    obtain ⟨y, hy, ys, hys, rfl⟩ := h
    obtain ⟨h1, h2⟩ := mapM_some hys
    refine ⟨by simp [h1], fun i x hx => ?_⟩
    cases i with
    | zero => simp at hx; subst hx; exact ⟨y, rfl, hy⟩
    | succ i => simpa using h2 i x (by simpa using hx)

theorem cells?_some {b o n : Nat} {a : Addr} {l : List Value} (ha : a = ⟨b, o, none⟩) (h : W.cells? base a n = some l) : l.length = n ∧ ∀ j, j < n → W.cell? ⟨b, o + j, none⟩ = l[j]? := by
  subst ha
  unfold World.cells? at h
  split at h
  · obtain ⟨h1, h2⟩ := mapM_some h
    refine ⟨by simpa using h1, fun j hj => ?_⟩
    obtain ⟨y, h3, h4⟩ := h2 j j (by rw [List.getElem?_range hj])
    rw [Addr.add_lit] at h4
    rw [h4, h3]
  · cases h

abbrev There (W : World) : Nat → Prop := fun b => b < W.heap.size

def Good (U : Univ) (O : Out) (W : World) (t : Ty) (cs : List Value) : Prop := ∃ x : t.den U.T, Rd U O (There W) W t x cs ∧ Wf U t x

theorem fields_rd {n : Nat} {cs : List Value} (ih : ∀ T t cs d p, tab T = some t → DataW.trod enc P W base sp held n T cs = some (d, p) → Good U O W t cs) :
    ∀ (fs : List Field) (off : Nat) (t : Ty) (r : List (DataW H × List MemPlace)), FieldsOk P U tab fs off t →
      fs.mapM (fun f => DataW.trod enc P W base sp held n f.type ((cs.drop f.offset).take (P.cellsOf f.type))) = some r → cs.length = off + t.width U.wd → Good U O W t (cs.drop off)
  | [], off, t, r, hf, _, hl => by
    subst hf
    refine ⟨(), ?_, .unit⟩
    rw [List.drop_of_length_le (by simp [Ty.width] at hl; omega)]
    exact .unit
  | f :: fs, off, t, r, hf, h, hl => by
    obtain ⟨a, b, rfl, ho, ht, hc, hrest⟩ := hf
    rw [List.mapM_cons] at h
    simp only [Option.bind_eq_bind, Option.bind_eq_some_iff, Option.pure_def, Option.some.injEq] at h
    obtain ⟨y, hy, ys, hys, rfl⟩ := h
    rw [ho, hc] at hy
    obtain ⟨x, hx, wx⟩ := ih _ _ _ y.1 y.2 ht hy
    obtain ⟨z, hz, wz⟩ := fields_rd ih fs (off + a.width U.wd) b ys hrest hys (by simp [Ty.width] at hl; omega)
    refine ⟨(x, z), ?_, .pair wx wz⟩
    have : cs.drop off = (cs.drop off).take (a.width U.wd) ++ cs.drop (off + a.width U.wd) := by rw [← List.drop_drop, List.take_append_drop]
    rw [this]
    exact .pair hx hz

theorem choose_list {t : Ty} {n : Nat} {cs : Nat → List Value} (h : ∀ i, i < n → Good U O W t (cs i)) : ∃ xs : List (t.den U.T), xs.length = n ∧ (∀ (i : Nat) (hi : i < xs.length), Rd U O (There W) W t xs[i] (cs i)) ∧ ∀ x ∈ xs, Wf U t x := by
  induction n with
  | zero => exact ⟨[], rfl, fun i hi => absurd hi (by simp), fun x hx => by cases hx⟩
  | succ n ih =>
    obtain ⟨xs, h1, h2, h3⟩ := ih fun i hi => h i (by omega)
    obtain ⟨x, h4, h5⟩ := h n (by omega)
    refine ⟨xs ++ [x], by simp [h1], fun i hi => ?_, fun y hy => ?_⟩
    · by_cases e : i < xs.length
      · rw [List.getElem_append_left e]; exact h2 i e
      · have : i = n := by simp at hi; omega
        subst this
        rw [List.getElem_append_right (by omega)]
        simpa using h4
    · rcases List.mem_append.1 hy with hy | hy
      · exact h3 y hy
      · simp at hy; subst hy; exact h5

theorem trod_rd (hT : TabOk P U tab) : ∀ (n : Nat) (T : TypeId) (t : Ty) (cs : List Value) (d : DataW H) (p : List MemPlace), tab T = some t → DataW.trod enc P W base sp held n T cs = some (d, p) → Good U O W t cs := by
  intro n
  induction n with
  | zero => intro T t cs d p _ h; simp [DataW.trod] at h
  | succ n ih =>
    intro T t cs d p ht h
    have hat := hT T t ht
    cases t with
    | bool =>
      simp only [TabAt] at hat
      unfold DataW.trod at h
      simp only [hat] at h
      split at h <;> simp_all
      exact ⟨_, .bool _, .bool _⟩
    | int k =>
      simp only [TabAt] at hat
      unfold DataW.trod at h
      simp only [hat] at h
      split at h <;> simp_all
      exact ⟨_, .int _ _, .int _ _ (by simp_all)⟩
    | str =>
      simp only [TabAt] at hat
      unfold DataW.trod at h
      simp only [hat] at h
      split at h <;> simp_all
      exact ⟨_, .str _, .str _ (by simp_all)⟩
    | list t =>
      obtain ⟨E, hu, hE, hc, hpos⟩ := hat
      unfold DataW.trod at h
      simp only [hu] at h
      split at h <;> try (simp_all; done)
      · exact ⟨[], .lnil t, .list [] (by simp) fun x hx => by cases hx⟩
      · rename_i e a len cap heq
        obtain rfl : E = e := by simpa using heq
        split at h
        · rename_i hcond
          simp only [Option.bind_eq_some_iff, Option.map_eq_some_iff] at h
          obtain ⟨elems, hel, _⟩ := h
          obtain ⟨h1, h2⟩ := mapM_some hel
          obtain ⟨b, off, spot⟩ := a
          have hlen : elems.length = len := by simpa using h1
          have hgood : ∀ i, i < len → ∃ l, W.cells? base (Addr.add ⟨b, off, spot⟩ (i * P.cellsOf E)) (P.cellsOf E) = some l ∧ Good U O W t l := fun i hi => by
            obtain ⟨y, _, hy⟩ := h2 i i (by rw [List.getElem?_range hi])
            simp only [Option.bind_eq_some_iff] at hy
            obtain ⟨l, hl, hl'⟩ := hy
            exact ⟨l, hl, ih E t l y.1 y.2 hE hl'⟩
          have hgood' : ∀ i, ∃ l, i < len → (∀ j, j < t.width U.wd → W.cell? ⟨b, off + (i * t.width U.wd + j), none⟩ = l[j]?) ∧ Good U O W t l ∧ spot = none := fun i => by
            by_cases hi : i < len
            · obtain ⟨l, hl, hg⟩ := hgood i hi
              obtain ⟨l0, hl0, _⟩ := hgood 0 (by omega)
              have hsp : spot = none := by
                unfold World.cells? at hl0
                split at hl0
                · obtain ⟨_, h4⟩ := mapM_some hl0
                  obtain ⟨y, _, h5⟩ := h4 0 0 (by rw [List.getElem?_range (by omega)])
                  have h6 : (Addr.add (Addr.add ⟨b, off, spot⟩ (0 * P.cellsOf E)) 0) = ⟨b, off, spot⟩ := by simp [Addr.add]
                  rw [h6] at h5
                  unfold World.cell? at h5
                  cases spot with
                  | none => rfl
                  | some z => simp at h5; split at h5 <;> cases h5
                · cases hl0
              subst hsp
              rw [Addr.add_lit] at hl
              obtain ⟨_, h4⟩ := cells?_some rfl hl
              refine ⟨l, fun _ => ⟨fun j hj => ?_, hg, rfl⟩⟩
              rw [← h4 j (by rw [hc]; exact hj), hc, Nat.add_assoc]
            · exact ⟨[], fun h => absurd h hi⟩
          let cs : Nat → List Value := fun i => Classical.choose (hgood' i)
          have hcs : ∀ i, i < len → (∀ j, j < t.width U.wd → W.cell? ⟨b, off + (i * t.width U.wd + j), none⟩ = (cs i)[j]?) ∧ Good U O W t (cs i) ∧ spot = none := fun i hi => Classical.choose_spec (hgood' i) hi
          obtain ⟨xs, h3, h4, h5⟩ := choose_list (cs := cs) (n := len) fun i hi => (hcs i hi).2.1
          subst h3
          by_cases h0 : xs = []
          · subst h0
            exact ⟨[], .lemp t _ cap, .list [] (by simp) fun x hx => by cases hx⟩
          · have hp : 0 < xs.length := List.length_pos_iff.2 h0
            obtain ⟨h6, ⟨x0, hr0, _⟩, hsp⟩ := hcs 0 hp
            subst hsp
            have hb : b < W.heap.size := by
              have h7 := h6 0 hpos
              have h8 : (0 : Nat) < (cs 0).length := by rw [hr0.length]; exact hpos
              rw [List.getElem?_eq_getElem h8] at h7
              exact World.block_lt_of_cell? W _ h7
            exact ⟨xs, .list t xs b off cap cs hb hcond.2.1 h4 fun i j hi hj => (hcs i hi).1 j hj, .list xs (by have := hcond.2.1; have := hcond.2.2; omega) h5⟩
        · cases h
    | arr m t =>
      obtain ⟨E, hu, hE, hc, hsz⟩ := hat
      unfold DataW.trod at h
      simp only [hu] at h
      split at h
      · rename_i hl
        simp only [Option.map_eq_some_iff] at h
        obtain ⟨r, hr, _⟩ := h
        obtain ⟨_, h2⟩ := mapM_some hr
        obtain ⟨xs, h3, h4, h5⟩ := choose_list (U := U) (O := O) (W := W) (t := t) (cs := fun i => (cs.drop (i * t.width U.wd)).take (t.width U.wd)) (n := m) fun i hi => by
          obtain ⟨y, _, hy⟩ := h2 i i (by rw [List.getElem?_range hi])
          rw [hc] at hy
          exact ih E t _ y.1 y.2 hE hy
        refine ⟨xs, ?_, .arr xs h3 h5⟩
        have hcs : cs = (List.range m).flatMap fun i => (cs.drop (i * t.width U.wd)).take (t.width U.wd) := by
          have hlen : cs.length = m * t.width U.wd := by rw [hl]; exact hsz
          have : ∀ k, k ≤ m → (List.range k).flatMap (fun i => (cs.drop (i * t.width U.wd)).take (t.width U.wd)) = cs.take (k * t.width U.wd) := by
            intro k
            induction k with
            | zero => intro _; simp
            | succ k ih2 =>
              intro hk
              rw [List.range_succ, List.flatMap_append, ih2 (by omega), List.flatMap_cons, List.flatMap_nil, List.append_nil, Nat.add_mul, Nat.one_mul, List.take_add]
          rw [this m (Nat.le_refl _), ← hlen, List.take_length]
        rw [hcs]
        exact .arr m t xs _ h3 h4
      · cases h
    | named n =>
      obtain ⟨fs, hu, hc, hf⟩ := hat
      unfold DataW.trod at h
      simp only [hu] at h
      split at h
      · rename_i hl
        simp only [Option.map_eq_some_iff] at h
        obtain ⟨r, hr, _⟩ := h
        obtain ⟨x, hx, wx⟩ := fields_rd (U := U) (O := O) (fun T t cs d p hT' => ih T t cs d p hT') fs.toList 0 (U.body n) r hf hr (by rw [hl, hc, U.wd_ok]; omega)
        simp only [List.drop_zero] at hx
        exact ⟨U.inn n x, .named n _ (by rw [U.out_inn]; exact hx), .named (by rw [U.out_inn]; exact wx)⟩
      · cases h
    | _ => exact hat.elim
end
end Go.AM

namespace Go.AM

section
variable {U : Univ} {O : Out} {P : Program} {B : Base}

inductive OkL (U : Univ) (O : Out) (P : Program) (ops : Array Oper) : List Oper → List (LSpec U) → Prop
  | nil : OkL U O P ops [] []
  | cons {o : Oper} {s : LSpec U} {os : List Oper} {ss : List (LSpec U)} : SOk U O P ops o s → OkL U O P ops os ss → OkL U O P ops (o :: os) (s :: ss)

abbrev Reads (U : Univ) : Type := List (List (Option (AVal U)) × List (Option (Blk U)))

def readsOf : List (Item U) → St U → Reads U
  | [], _ => []
  | x :: l, st => (x.2.rs.map fun y => lookA st.sl y.1, (x.2.ro ++ x.2.cb).map fun y => lookA st.hp y.1) :: readsOf l (stepI st x)

def wants (l : List (Item U)) : Reads U := l.map fun x => (x.2.rs.map fun y => some y.2, (x.2.ro ++ x.2.cb).map fun y => some y.2)

def statOk (l : List (Item U)) (ns : List Nat) (N : Nat) : Bool :=
  newOk l && l.all fun x => (x.2.nn.all fun n => !ns.contains n && decide (n < K0)) && ((nm x.2.pb).all fun n => x.2.nn.contains n || (nm x.2.cb).contains n) &&
    match x.1.dst with | some t => decide (t < N) | none => true

theorem runs_of' {ops : Array Oper} {specs : List (LSpec U)} {st : St U} {N : Nat} (hok : OkL U O P ops ops.toList specs)
    (hrd : ∀ i x, (ops.toList.zip specs)[i]? = some x → (∀ y ∈ x.2.rs, y ∈ (runS ((ops.toList.zip specs).take i) st).sl) ∧ ∀ y ∈ x.2.ro ++ x.2.cb, y ∈ (runS ((ops.toList.zip specs).take i) st).hp)
    (hs : statOk (ops.toList.zip specs) st.names N = true) : Runs U O P ops N st (ops.toList.zip specs) := by
  have key : ∀ (os : List Oper) (ss : List (LSpec U)), OkL U O P ops os ss → (os.zip ss).map (·.1) = os ∧ ∀ x ∈ os.zip ss, SOk U O P ops x.1 x.2 := by
    intro os ss h
    induction h with
    | nil => exact ⟨rfl, fun x hx => by cases hx⟩
    | cons h _ ih =>
      refine ⟨by rw [List.zip_cons_cons, List.map_cons, ih.1], fun x hx => ?_⟩
      rw [List.zip_cons_cons] at hx
      rcases List.mem_cons.1 hx with rfl | hx
      · exact h
      · exact ih.2 x hx
  obtain ⟨h1, h2⟩ := key _ _ hok
  unfold statOk at hs
  rw [Bool.and_eq_true] at hs
  have hall := List.all_eq_true.1 hs.2
  have hst : ∀ x ∈ ops.toList.zip specs, (∀ n ∈ x.2.nn, n ∉ st.names ∧ n < K0) ∧ (∀ n ∈ nm x.2.pb, n ∈ x.2.nn ∨ n ∈ nm x.2.cb) ∧ ∀ t, x.1.dst = some t → t < N := fun x hx => by
    have := hall x hx
    simp only [Bool.and_eq_true] at this
    obtain ⟨⟨a1, a2⟩, a3⟩ := this
    refine ⟨fun n hn => ?_, fun n hn => ?_, fun t ht => ?_⟩
    · have := List.all_eq_true.1 a1 n hn
      simpa using this
    · have := List.all_eq_true.1 a2 n hn
      simpa using this
    · rw [ht] at a3; simpa using a3
  refine ⟨h1, h2, fun i x hi => ?_, fun x hx => (hst x hx).2.2, fun x hx n hn => ((hst x hx).1 n hn).1, hs.1⟩
  have hx : x ∈ ops.toList.zip specs := List.mem_of_getElem? hi
  obtain ⟨h3, h4⟩ := hrd i x hi
  refine ⟨h3, fun y hy => h4 y (List.mem_append.2 (.inl hy)), fun y hy => h4 y (List.mem_append.2 (.inr hy)), fun n hn hnn => ?_, (hst x hx).2.1, fun n hn => ((hst x hx).1 n hn).2⟩
  rcases names_runS _ _ hnn with h | ⟨y, hy, hv⟩
  · exact ((hst x hx).1 n hn).1 h
  · obtain ⟨j, hj⟩ := List.mem_iff_getElem?.1 hy
    rw [List.getElem?_take] at hj
    split at hj
    · rename_i hji
      exact newOk_spec hs.1 hji hj hi n hn hv
    · cases hj

def Conv (U : Univ) (O : Out) (st st' : St U) : Prop := ∀ B S ι a w, Rel U O B S ι st a w → ∃ S' ι', Rel U O B S' ι' st' a w
theorem Conv.refl (st : St U) : Conv U O st st := fun _ S ι _ _ h => ⟨S, ι, h⟩
theorem Conv.trans {a b c : St U} (h : Conv U O a b) (k : Conv U O b c) : Conv U O a c := fun B S ι x w hR => by
  obtain ⟨S', ι', h1⟩ := h B S ι x w hR
  exact k B S' ι' x w h1
theorem Conv.keep {a b : St U} (ts ns : List Nat) (h : a.keep ts ns = b) : Conv U O a b := fun _ S ι _ _ hR => ⟨S, ι, h ▸ hR.weak (St.keep_le _ ts ns)⟩
theorem WpC.conv {c : Code} {st st' : St U} {Q : PostQ U} (h : Conv U O st st') (hc : WpC U O P B c st' Q) : WpC U O P B c st Q := fun S ι a w hR => by
  obtain ⟨S', ι', h1⟩ := h B S ι a w hR
  exact hc S' ι' a w h1

theorem bind_some {α β : Type} {o : Option α} {f : α → Option β} {r : β} (h : o.bind f = some r) : ∃ x, o = some x ∧ f x = some r := Option.bind_eq_some_iff.1 h
theorem if_some {α : Type} {c : Prop} [Decidable c] {o : Option α} {r : α} (h : (if c then o else none) = some r) : c ∧ o = some r := by
  split at h
  · exact ⟨‹_›, h⟩
  · cases h

theorem WpC.seqJ {x y : Code} {st : St U} {Q : PostQ U} (I : St U → Prop) (h1 : WpC U O P B x st (thenQ I Q)) (h2 : ∀ st', I st' → WpC U O P B y st' Q) : WpC U O P B (.seq x y) st Q := by
  refine WpC.seq (h1.mono fun e s hQ => ?_)
  cases e with
  | normal => exact h2 s hQ
  | _ => exact hQ

theorem ite_t {α : Type} {b : Bool} {x y r : α} (hb : b = true) (h : (if b = true then x else y) = r) : x = r := by rwa [if_pos hb] at h
theorem ite_f {α : Type} {b : Bool} {x y r : α} (hb : b = false) (h : (if b = true then x else y) = r) : y = r := by rwa [if_neg (by simp [hb])] at h
end
end Go.AM
